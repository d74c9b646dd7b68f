/- Functions of the given program as Lean functions, and proofs that its calls come to what these say. Written by a program of this seat (wip/mkprint.py); Lean checks it all. -/
import Derived.Test.YtacogcnckhgjbaaPTelx0
import Derived.Test.YtacogcnckhgjbaaPTelx1
import Derived.Test.YtacogcnckhgjbaaPTelx2
import Derived.Test.YtacogcnckhgjbaaPTelx3
import Derived.Test.YtacogcnckhgjbaaPTelx4
namespace Go.Proofs.Ytacogcnckhgjbaa.PTel
open Go.RowKit Go.Proofs.YtacogcnckhgjbaaW.PrintWords Go.Proofs.YtacogcnckhgjbaaW.PrintLast Go.Proofs.YtacogcnckhgjbaaW.PrintMore
attribute [local go_sem] max2_int min2_int max_two min_two max_three min_three max_four min_four   -- for this text's walks alone
set_option linter.unusedVariables false
set_option linter.unusedSimpArgs false

/-! ### minecontrollaw04_TelegramBack: function 6 -/
mutual
def minecontrollaw04_TelegramBack.l0 : Nat → List Int → List Int → List (S24) → Int → List Int → Int → Option (Bool)
  | 0, _, _, _, _, _, _ => none
  | k + 1, x1, x6, x7, x8, x502000, x502001 => if x8 > 0 then ((minecontroldraw_Codes_Frame.f k x502000 x502001).bind fun bt504 => ((telegram_Write.f k bt504.1 bt504.2.1 bt504.2.2.1).bind fun bt511 => (if bt511.2 = 0 then (if x6.length + bt511.1.length < 140737488355328 then ((some (([(⟨bt504.1, bt504.2.1, bt504.2.2.1⟩ : S24)] : List (S24)) : List (S24))).bind fun y518 => (if x7.length + y518.length < 3518437208883 then (minecontrollaw04_TelegramBack.l0 k x1 (x6 ++ bt511.1) (x7 ++ y518) (wrap64 (x8 - 1)) x502000 bt504.2.2.2) else (none))) else (none)) else (some false)))) else ((telegram_Feed.f k ([] : List Int) 0 x6).bind fun bt524 => (if bt524.2.1 = 0 then (if (bt524.1.length : Int) = 0 then ((minecontrolref04_Same.f k bt524.2.2 x7).bind fun t532 => (minecontrollaw04_TelegramBack.j1 k x1 (!t532))) else (minecontrollaw04_TelegramBack.j1 k x1 true)) else (minecontrollaw04_TelegramBack.j1 k x1 true)))
def minecontrollaw04_TelegramBack.j1 : Nat → List Int → Bool → Option (Bool)
  | 0, _, _ => none
  | k + 1, x1, x69 => if x69 = true then (some false) else ((some (([1] : List Int) : List Int)).bind fun y533 => ((telegram_Write.f k 200 77 y533).bind fun bt537 => (if ([] : List Int).length + x1.length < 140737488355328 then ((some (([] : List Int) ++ x1 : List Int)).bind fun y541 => (if y541.length + bt537.1.length < 140737488355328 then (minecontrollaw04_TelegramBack.l1 k (y541 ++ bt537.1) 0 200 77 y533) else (none))) else (none))))
def minecontrollaw04_TelegramBack.l1 : Nat → List Int → Int → Int → Int → List Int → Option (Bool)
  | 0, _, _, _, _, _ => none
  | k + 1, x17, x18, x537000, x537001, x537002 => if x18 < 75 then ((some (([0] : List Int) : List Int)).bind fun y547 => (if x17.length + y547.length < 140737488355328 then (minecontrollaw04_TelegramBack.l1 k (x17 ++ y547) (wrap64 (x18 + 1)) x537000 x537001 x537002) else (none))) else ((telegram_Feed.f k ([] : List Int) 0 x17).bind fun bt553 => (minecontrollaw04_TelegramBack.l2 k bt553.2.2 false 0 x537000 x537001 x537002))
def minecontrollaw04_TelegramBack.l2 : Nat → List (S24) → Bool → Int → Int → Int → List Int → Option (Bool)
  | 0, _, _, _, _, _, _ => none
  | k + 1, x13, x19, x20, x537000, x537001, x537002 => if x20 < (x13.length : Int) then (if x19 = true then (minecontrollaw04_TelegramBack.l2 k x13 true (wrap64 (x20 + 1)) x537000 x537001 x537002) else (if 0 ≤ x20 then (if x20 ≤ (wrap64 (x20 + 1)) then (if (wrap64 (x20 + 1)) ≤ (x13.length : Int) then ((minecontrolref04_Same.f k ((x13.take ((wrap64 (x20 + 1)) : Int).toNat).drop (x20 : Int).toNat) (([(⟨x537000, x537001, x537002⟩ : S24)] : List (S24)))).bind fun t568 => (minecontrollaw04_TelegramBack.l2 k x13 t568 (wrap64 (x20 + 1)) x537000 x537001 x537002)) else (none)) else (none)) else (none))) else (if x19 = true then ((minecontrollaw04_awake.f k).bind fun t569 => (some t569)) else (if (x13.length : Int) > 0 then ((minecontrollaw04_awake.f k).bind fun t570 => (some t570)) else (some false)))
end
def minecontrollaw04_TelegramBack.f (k : Nat) (l0 : List Int) (l1 : List Int) : Option (Bool) := if (l1.length : Int) > 60 then ((minecontrollaw04_awake.f k).bind fun t498 => (some t498)) else ((minecontroldraw_New.f l0).bind fun bt499 => ((minecontroldraw_Codes_Next.f k bt499.1 bt499.2 5).bind fun bt502 => (minecontrollaw04_TelegramBack.l0 k l1 ([] : List Int) ([] : List (S24)) bt502.1 bt499.1 bt502.2)))
theorem minecontrollaw04_TelegramBack.mono_l : ∀ k, (∀ y0 y1 y2 y3 y4 y5, LeO (minecontrollaw04_TelegramBack.l0 k y0 y1 y2 y3 y4 y5) (minecontrollaw04_TelegramBack.l0 (k + 1) y0 y1 y2 y3 y4 y5)) ∧ (∀ y0 y1, LeO (minecontrollaw04_TelegramBack.j1 k y0 y1) (minecontrollaw04_TelegramBack.j1 (k + 1) y0 y1)) ∧ (∀ y0 y1 y2 y3 y4, LeO (minecontrollaw04_TelegramBack.l1 k y0 y1 y2 y3 y4) (minecontrollaw04_TelegramBack.l1 (k + 1) y0 y1 y2 y3 y4)) ∧ (∀ y0 y1 y2 y3 y4 y5, LeO (minecontrollaw04_TelegramBack.l2 k y0 y1 y2 y3 y4 y5) (minecontrollaw04_TelegramBack.l2 (k + 1) y0 y1 y2 y3 y4 y5))
  | 0 => ⟨fun _ _ _ _ _ _ r h => by simp [minecontrollaw04_TelegramBack.l0] at h, fun _ _ r h => by simp [minecontrollaw04_TelegramBack.j1] at h, fun _ _ _ _ _ r h => by simp [minecontrollaw04_TelegramBack.l1] at h, fun _ _ _ _ _ _ r h => by simp [minecontrollaw04_TelegramBack.l2] at h⟩
  | k + 1 => by
    obtain ⟨ih0, ih1, ih2, ih3⟩ := minecontrollaw04_TelegramBack.mono_l k
    refine ⟨?_, ?_, ?_, ?_⟩
    · intro y0 y1 y2 y3 y4 y5
      unfold minecontrollaw04_TelegramBack.l0
      repeat' first
      | (with_reducible exact ih0 _ _ _ _ _ _)
      | (with_reducible exact ih1 _ _)
      | (with_reducible exact ih2 _ _ _ _ _)
      | (with_reducible exact ih3 _ _ _ _ _ _)
      | (with_reducible exact minecontroldraw_Codes_Frame.mono _ _ _)
      | (with_reducible exact minecontroldraw_Codes_Next.mono _ _ _ _)
      | (with_reducible exact minecontrollaw04_awake.mono _)
      | (with_reducible exact minecontrolref04_Same.mono _ _ _)
      | (with_reducible exact telegram_Feed.mono _ _ _ _)
      | (with_reducible exact telegram_Write.mono _ _ _ _)
      | (with_reducible exact LeO.refl _)
      | (with_reducible exact LeO.none _)
      | (with_reducible refine LeO.ite ?_ ?_)
      | (with_reducible refine LeO.bind ?_ (fun _ => ?_))
      | exact ih0 _ _ _ _ _ _
      | exact ih1 _ _
      | exact ih2 _ _ _ _ _
      | exact ih3 _ _ _ _ _ _
      | exact minecontroldraw_Codes_Frame.mono _ _ _
      | exact minecontroldraw_Codes_Next.mono _ _ _ _
      | exact minecontrollaw04_awake.mono _
      | exact minecontrolref04_Same.mono _ _ _
      | exact telegram_Feed.mono _ _ _ _
      | exact telegram_Write.mono _ _ _ _
      | exact LeO.none _
      | refine LeO.ite ?_ ?_
      | refine LeO.bind ?_ (fun _ => ?_)
    · intro y0 y1
      unfold minecontrollaw04_TelegramBack.j1
      repeat' first
      | (with_reducible exact ih0 _ _ _ _ _ _)
      | (with_reducible exact ih1 _ _)
      | (with_reducible exact ih2 _ _ _ _ _)
      | (with_reducible exact ih3 _ _ _ _ _ _)
      | (with_reducible exact minecontroldraw_Codes_Frame.mono _ _ _)
      | (with_reducible exact minecontroldraw_Codes_Next.mono _ _ _ _)
      | (with_reducible exact minecontrollaw04_awake.mono _)
      | (with_reducible exact minecontrolref04_Same.mono _ _ _)
      | (with_reducible exact telegram_Feed.mono _ _ _ _)
      | (with_reducible exact telegram_Write.mono _ _ _ _)
      | (with_reducible exact LeO.refl _)
      | (with_reducible exact LeO.none _)
      | (with_reducible refine LeO.ite ?_ ?_)
      | (with_reducible refine LeO.bind ?_ (fun _ => ?_))
      | exact ih0 _ _ _ _ _ _
      | exact ih1 _ _
      | exact ih2 _ _ _ _ _
      | exact ih3 _ _ _ _ _ _
      | exact minecontroldraw_Codes_Frame.mono _ _ _
      | exact minecontroldraw_Codes_Next.mono _ _ _ _
      | exact minecontrollaw04_awake.mono _
      | exact minecontrolref04_Same.mono _ _ _
      | exact telegram_Feed.mono _ _ _ _
      | exact telegram_Write.mono _ _ _ _
      | exact LeO.none _
      | refine LeO.ite ?_ ?_
      | refine LeO.bind ?_ (fun _ => ?_)
    · intro y0 y1 y2 y3 y4
      unfold minecontrollaw04_TelegramBack.l1
      repeat' first
      | (with_reducible exact ih0 _ _ _ _ _ _)
      | (with_reducible exact ih1 _ _)
      | (with_reducible exact ih2 _ _ _ _ _)
      | (with_reducible exact ih3 _ _ _ _ _ _)
      | (with_reducible exact minecontroldraw_Codes_Frame.mono _ _ _)
      | (with_reducible exact minecontroldraw_Codes_Next.mono _ _ _ _)
      | (with_reducible exact minecontrollaw04_awake.mono _)
      | (with_reducible exact minecontrolref04_Same.mono _ _ _)
      | (with_reducible exact telegram_Feed.mono _ _ _ _)
      | (with_reducible exact telegram_Write.mono _ _ _ _)
      | (with_reducible exact LeO.refl _)
      | (with_reducible exact LeO.none _)
      | (with_reducible refine LeO.ite ?_ ?_)
      | (with_reducible refine LeO.bind ?_ (fun _ => ?_))
      | exact ih0 _ _ _ _ _ _
      | exact ih1 _ _
      | exact ih2 _ _ _ _ _
      | exact ih3 _ _ _ _ _ _
      | exact minecontroldraw_Codes_Frame.mono _ _ _
      | exact minecontroldraw_Codes_Next.mono _ _ _ _
      | exact minecontrollaw04_awake.mono _
      | exact minecontrolref04_Same.mono _ _ _
      | exact telegram_Feed.mono _ _ _ _
      | exact telegram_Write.mono _ _ _ _
      | exact LeO.none _
      | refine LeO.ite ?_ ?_
      | refine LeO.bind ?_ (fun _ => ?_)
    · intro y0 y1 y2 y3 y4 y5
      unfold minecontrollaw04_TelegramBack.l2
      repeat' first
      | (with_reducible exact ih0 _ _ _ _ _ _)
      | (with_reducible exact ih1 _ _)
      | (with_reducible exact ih2 _ _ _ _ _)
      | (with_reducible exact ih3 _ _ _ _ _ _)
      | (with_reducible exact minecontroldraw_Codes_Frame.mono _ _ _)
      | (with_reducible exact minecontroldraw_Codes_Next.mono _ _ _ _)
      | (with_reducible exact minecontrollaw04_awake.mono _)
      | (with_reducible exact minecontrolref04_Same.mono _ _ _)
      | (with_reducible exact telegram_Feed.mono _ _ _ _)
      | (with_reducible exact telegram_Write.mono _ _ _ _)
      | (with_reducible exact LeO.refl _)
      | (with_reducible exact LeO.none _)
      | (with_reducible refine LeO.ite ?_ ?_)
      | (with_reducible refine LeO.bind ?_ (fun _ => ?_))
      | exact ih0 _ _ _ _ _ _
      | exact ih1 _ _
      | exact ih2 _ _ _ _ _
      | exact ih3 _ _ _ _ _ _
      | exact minecontroldraw_Codes_Frame.mono _ _ _
      | exact minecontroldraw_Codes_Next.mono _ _ _ _
      | exact minecontrollaw04_awake.mono _
      | exact minecontrolref04_Same.mono _ _ _
      | exact telegram_Feed.mono _ _ _ _
      | exact telegram_Write.mono _ _ _ _
      | exact LeO.none _
      | refine LeO.ite ?_ ?_
      | refine LeO.bind ?_ (fun _ => ?_)
theorem minecontrollaw04_TelegramBack.mono : ∀ a0 a1 k, LeO (minecontrollaw04_TelegramBack.f k a0 a1) (minecontrollaw04_TelegramBack.f (k + 1) a0 a1) := by
  intro a0 a1 k
  obtain ⟨ih0, ih1, ih2, ih3⟩ := minecontrollaw04_TelegramBack.mono_l k
  unfold minecontrollaw04_TelegramBack.f
  repeat' first
      | (with_reducible exact ih0 _ _ _ _ _ _)
      | (with_reducible exact ih1 _ _)
      | (with_reducible exact ih2 _ _ _ _ _)
      | (with_reducible exact ih3 _ _ _ _ _ _)
      | (with_reducible exact minecontroldraw_Codes_Frame.mono _ _ _)
      | (with_reducible exact minecontroldraw_Codes_Next.mono _ _ _ _)
      | (with_reducible exact minecontrollaw04_awake.mono _)
      | (with_reducible exact minecontrolref04_Same.mono _ _ _)
      | (with_reducible exact telegram_Feed.mono _ _ _ _)
      | (with_reducible exact telegram_Write.mono _ _ _ _)
      | (with_reducible exact LeO.refl _)
      | (with_reducible exact LeO.none _)
      | (with_reducible refine LeO.ite ?_ ?_)
      | (with_reducible refine LeO.bind ?_ (fun _ => ?_))
      | exact ih0 _ _ _ _ _ _
      | exact ih1 _ _
      | exact ih2 _ _ _ _ _
      | exact ih3 _ _ _ _ _ _
      | exact minecontroldraw_Codes_Frame.mono _ _ _
      | exact minecontroldraw_Codes_Next.mono _ _ _ _
      | exact minecontrollaw04_awake.mono _
      | exact minecontrolref04_Same.mono _ _ _
      | exact telegram_Feed.mono _ _ _ _
      | exact telegram_Write.mono _ _ _ _
      | exact LeO.none _
      | refine LeO.ite ?_ ?_
      | refine LeO.bind ?_ (fun _ => ?_)
def minecontrollaw04_TelegramBack.T13 : Bool × List (List Nat × List Nat) := (true, [([], []), ([], []), ([0, 1], [0, 1]), ([], []), ([], []), ([4], [4]), ([3, 5, 2], [3, 5]), ([2, 6, 0, 1, 2], [0, 2]), ([6, 7, 0, 1, 2, 3, 4, 5, 6, 7], [3, 6])])
def minecontrollaw04_TelegramBack.B13 : List Nat := [0, 0, 3, 0, 0, 16, 63, 127, 255]
theorem minecontrollaw04_TelegramBack.tab13 : rtab .any (opsOf Try.f6 13) = minecontrollaw04_TelegramBack.T13 := by kernel_rfl
theorem minecontrollaw04_TelegramBack.bits13 : waitsOk minecontrollaw04_TelegramBack.T13.2 minecontrollaw04_TelegramBack.B13 = true := by kernel_rfl
def minecontrollaw04_TelegramBack.T29 : Bool × List (List Nat × List Nat) := (true, [([], []), ([0], [0]), ([1], [1]), ([1], [1]), ([1], [1]), ([4, 1], [1, 4]), ([2, 3, 5, 1], [1, 2, 3, 5]), ([1], [1]), ([7, 1], [1, 7]), ([6, 8, 1, 1], [1, 6, 8]), ([1, 9], [1, 9]), ([10, 9, 0, 1, 2, 3, 4, 5, 6, 7, 8, 9, 10], [0, 10])])
def minecontrollaw04_TelegramBack.B29 : List Nat := [0, 1, 3, 3, 3, 19, 63, 3, 131, 511, 1023, 2047]
theorem minecontrollaw04_TelegramBack.tab29 : rtab .any (opsOf Try.f6 29) = minecontrollaw04_TelegramBack.T29 := by kernel_rfl
theorem minecontrollaw04_TelegramBack.bits29 : waitsOk minecontrollaw04_TelegramBack.T29.2 minecontrollaw04_TelegramBack.B29 = true := by kernel_rfl
set_option maxHeartbeats 8000000 in
set_option maxRecDepth 100000 in
theorem minecontrollaw04_TelegramBack.calls1 (k : Nat) (A0 : Option Addr) (c0 : Nat) (l0 : List Int) (A1 : Option Addr) (c1 : Nat) (l1 : List Int) (r : Bool) (w : World) (hr0 : Kd.C (Kd.int .u8) w A0 l0.length l0) (hc0 : l0.length ≤ c0) (hr1 : Kd.C (Kd.int .u8) w A1 l1.length l1) (hc1 : l1.length ≤ c1) (hr_ : Aside0 (r = true)) (h : minecontrollaw04_TelegramBack.f k l0 l1 = some r) :
    Calls Try.prog 6 #[.slice A0 l0.length c0, .slice A1 l1.length c1] w fun e w' => e = .returned (.bool r) ∧ Below w.heap.size w w' := by
  have hu24 := Try.underlying24
  have hu36 := Try.underlying36
  have HR0 := Aside0.mk hr0
  have HC0 := Aside0.mk hc0
  clear hr0 hc0
  have HR1 := Aside0.mk hr1
  have HC1 := Aside0.mk hc1
  clear hr1 hc1
  have HB := Aside0.mk (Below.refl w.heap.size w)
  have H : (if (l1.length : Int) > 60 then ((minecontrollaw04_awake.f k).bind fun t498 => (some t498)) else ((minecontroldraw_New.f l0).bind fun bt499 => ((minecontroldraw_Codes_Next.f k bt499.1 bt499.2 5).bind fun bt502 => (minecontrollaw04_TelegramBack.l0 k l1 ([] : List Int) ([] : List (S24)) bt502.1 bt499.1 bt502.2)))) = some r := h
  clear h
  by_cases c3 : (l1.length : Int) > 60
  · rw [if_pos c3] at H
    have c3b0 : decide (60 < (l1.length : Int)) = true := decide_eq_true c3
    have c3b1 : decide (60 < l1.length) = true := decide_eq_true (by omega)
    clear c3
    replace H := Option.bind_eq_some_iff.mp H
    obtain ⟨t498, A40, H⟩ := H
    replace H : (some t498) = some r := H
    have A4 := Aside0.mk A40
    clear A40
    obtain rfl := Option.some.inj H
    go_enter Try.func6, Try.ntmps6
    go_wp2_with (first | ((with_reducible refine gate_callee (f := 9) rfl ?_); refine goesL_ (some 24) rfl rfl Try.func9 (by kernel_rfl) rfl #[] rfl (by (try simp only [List.map_toArray, List.map_cons, List.map_nil]); first | done | rfl | (simp only [List.length_drop, List.length_take]; rfl)) ?_; (with_reducible refine (minecontrollaw04_awake.calls k  t498 _ A4.out).mono ?_); rintro e w5 ⟨rfl, hb⟩; refine ⟨_, rfl, ?_⟩; have n0_ := Aside0.mk (below_step (by repeat (first | (with_reducible first | exact HB.out | apply below_alloc | apply pw_below_drewN | apply below_drew1) | exact HB.out)) hb); clear HB; have HB := n0_; clear n0_; (try clear hb); (try clear hb2); (try clear hge); (try clear hk); (try clear hi)))
    go_ret
    exact ⟨by first | rfl | (simp [errW_none, errW_some] <;> rfl) | (simp [*, errW_none, errW_some] <;> rfl), by repeat (first | (with_reducible first | exact HB.out | apply below_alloc | apply pw_below_drewN | apply below_drew1) | exact HB.out)⟩
  · rw [if_neg c3] at H
    have c3b0 : decide (60 < (l1.length : Int)) = false := decide_eq_false c3
    have c3b1 : decide (60 < l1.length) = false := decide_eq_false (by omega)
    clear c3
    replace H := Option.bind_eq_some_iff.mp H
    obtain ⟨⟨t499, t500⟩, A60, H⟩ := H
    replace H : ((minecontroldraw_Codes_Next.f k t499 t500 5).bind fun bt502 => (minecontrollaw04_TelegramBack.l0 k l1 ([] : List Int) ([] : List (S24)) bt502.1 t499 bt502.2)) = some r := H
    have A6 := Aside0.mk A60
    clear A60
    replace H := Option.bind_eq_some_iff.mp H
    obtain ⟨⟨t502, t503⟩, A70, H⟩ := H
    replace H : (minecontrollaw04_TelegramBack.l0 k l1 ([] : List Int) ([] : List (S24)) t502 t499 t503) = some r := H
    have A7 := Aside0.mk A70
    clear A70
    have H' := Aside0.mk H
    clear H
    go_enter Try.func6, Try.ntmps6
    go_wp2_with (first | ((with_reducible refine gate_callee (f := 10) rfl ?_); refine goesL_ (some 26) rfl rfl Try.func10 (by kernel_rfl) rfl #[.slice A0 l0.length c0] rfl (by (try simp only [List.map_toArray, List.map_cons, List.map_nil]); first | done | rfl | (simp only [List.length_drop, List.length_take]; rfl)) ?_; (with_reducible refine (minecontroldraw_New.calls _ _ l0 t499 t500 w _ ?side1 ?side2 ?side3 A6.out).mono ?_); (case side1 => repeat (first | (with_reducible first | exact HB.out | apply below_alloc | apply pw_below_drewN | apply below_drew1) | exact HB.out)); (case side2 => exact HR0.out); (case side3 => exact HC0.out); rintro e w8 ⟨g501, rfl, hi, hb, hb2, hge⟩; refine ⟨_, rfl, ?_⟩; have n0_ := Aside0.mk (hb); have n1_ := Aside0.mk (hi); clear HB; have HB := n0_; have HI501 := n1_; clear n0_ n1_; (try clear hb); (try clear hb2); (try clear hge); (try clear hk); (try clear hi)) | ((with_reducible refine gate_callee (f := 21) rfl ?_); refine goesL_ (some 28) rfl rfl Try.func21 (by kernel_rfl) rfl #[.pointer (some ⟨g501, 0, none⟩), .int .i64 5] rfl (by (try simp only [List.map_toArray, List.map_cons, List.map_nil]); first | done | rfl | (simp only [List.length_drop, List.length_take]; rfl)) ?_; (with_reducible refine (minecontroldraw_Codes_Next.calls k g501 t499 t500 5 t502 t503 w _ ?side1 ?side2 A7.out).mono ?_); (case side1 => repeat (first | (with_reducible first | exact HI501.out | apply IsS48.alloc | apply IsS48.drewN | apply IsS48.drew | apply IsS48.set_1) | exact HI501.out)); (case side2 => repeat (first | (with_reducible first | exact HB.out | apply below_alloc | apply pw_below_drewN | apply below_drew1 | refine below_set ?_ (IsS48.ge HI501.out)) | exact HB.out)); rintro e w9 ⟨rfl, hi, hb, hk⟩; refine ⟨_, rfl, ?_⟩; have n0_ := Aside0.mk (hb); have n1_ := Aside0.mk (hi); clear HB; clear HI501; have HB := n0_; have HI501 := n1_; clear n0_ n1_; (try clear hb); (try clear hb2); (try clear hge); (try clear hk); (try clear hi)))
    go_loopg [6, 7, 8] k (fun kq v6 v7 v8 w' => ∃ (x6_1 : List Int) (x7_1 : List (S24)) (x8_1 : Int) (x502001_1 : Int), v8 = .int .i64 x8_1 ∧ Aside0 (minecontrollaw04_TelegramBack.l0 kq l1 x6_1 x7_1 x8_1 t499 x502001_1 = some r) ∧ Aside0 (kq ≤ k) ∧ Aside0 (Kd.R (Kd.int .u8) 5 w' w.heap.size (fun _ => True) v6 x6_1) ∧ Aside0 (Kd.N k24 24 w' w.heap.size (fun k_ => some k_ ≠ (v6 : Value).ownBlock ∧ k_ ≠ g501) v7 x7_1) ∧ Aside0 (IsS48 w w' g501 t499 x502001_1) ∧ Aside0 (Below w.heap.size w w'))
    case atStart => exact ⟨(([] : List Int)), (([] : List (S24))), (t502), (t503), (by first | rfl | (simp; done) | (simp [*]; done)), H', ⟨Nat.le_refl _⟩, ⟨by first | exact Kd.R_nil _ _ _ _ _ | exact Kd.N_nil _ _ _ _ _ | exact Kd.V_nil _ _ _ _ _ | exact Kd.Q_nil _ _ _ _ _ | exact Kd.S_nil _ _ _ _ _⟩, ⟨by first | exact Kd.S_nil _ _ _ _ _ | exact Kd.N_nil _ _ _ _ _ | exact Kd.V_nil _ _ _ _ _ | exact Kd.Q_nil _ _ _ _ _ | exact Kd.R_nil _ _ _ _ _⟩, ⟨by repeat (first | (with_reducible first | exact HI501.out | apply IsS48.alloc | apply IsS48.drewN | apply IsS48.drew | apply IsS48.set_1) | exact HI501.out)⟩, ⟨by repeat (first | (with_reducible first | exact HB.out | apply below_alloc | apply pw_below_drewN | apply below_drew1 | refine below_set ?_ (IsS48.ge HI501.out)) | exact HB.out)⟩⟩
    case round =>
      clear H'
      try clear c1
      try clear c2
      try clear p2
      try clear c3
      try clear c3b0
      try clear c3b1
      try clear c6
      try clear c9
      obtain ⟨x6_1, x7_1, x8_1, x502001_1, rfl, HA, HK1, HO_6, HO_7, HI501, HB⟩ := hrel
      cases gk with
      | zero => exact absurd HA.out (by simp [minecontrollaw04_TelegramBack.l0])
      | succ k1 =>
        have H := HA.out
        clear HA
        simp only [minecontrollaw04_TelegramBack.l0] at H
        by_cases c10 : x8_1 > 0
        · rw [if_pos c10] at H
          have c10b0 : decide (0 < x8_1) = true := decide_eq_true c10
          clear c10
          replace H := Option.bind_eq_some_iff.mp H
          obtain ⟨⟨t504, t505, t506, t509⟩, A110, H⟩ := H
          replace H : ((telegram_Write.f k1 t504 t505 t506).bind fun bt511 => (if bt511.2 = 0 then (if x6_1.length + bt511.1.length < 140737488355328 then ((some (([(⟨t504, t505, t506⟩ : S24)] : List (S24)) : List (S24))).bind fun y518 => (if x7_1.length + y518.length < 3518437208883 then (minecontrollaw04_TelegramBack.l0 k1 l1 (x6_1 ++ bt511.1) (x7_1 ++ y518) (wrap64 (x8_1 - 1)) t499 t509) else (none))) else (none)) else (some false))) = some r := H
          have A11 := Aside0.mk A110
          clear A110
          replace H := Option.bind_eq_some_iff.mp H
          obtain ⟨⟨t511, t514⟩, A120, H⟩ := H
          replace H : (if t514 = 0 then (if x6_1.length + t511.length < 140737488355328 then ((some (([(⟨t504, t505, t506⟩ : S24)] : List (S24)) : List (S24))).bind fun y518 => (if x7_1.length + y518.length < 3518437208883 then (minecontrollaw04_TelegramBack.l0 k1 l1 (x6_1 ++ t511) (x7_1 ++ y518) (wrap64 (x8_1 - 1)) t499 t509) else (none))) else (none)) else (some false)) = some r := H
          have A12 := Aside0.mk A120
          clear A120
          by_cases c13 : t514 = 0
          · rw [if_pos c13] at H
            have c13b0 : (t514 == 0) = true := beq_iff_eq.mpr c13
            have c13b1 : (t514 != 0) = false := bne_eq_false_iff_eq.mpr c13
            clear c13
            by_cases c14 : x6_1.length + t511.length < 140737488355328
            · rw [if_pos c14] at H
              have LMc14 := Aside0.mk c14
              clear c14
              obtain ⟨y515, hy515⟩ : ∃ y_ : List Int, y_ = (x6_1 ++ t511) := ⟨_, rfl⟩
              replace H : ((some (([(⟨t504, t505, t506⟩ : S24)] : List (S24)) : List (S24))).bind fun y518 => (if x7_1.length + y518.length < 3518437208883 then (minecontrollaw04_TelegramBack.l0 k1 l1 y515 (x7_1 ++ y518) (wrap64 (x8_1 - 1)) t499 t509) else (none))) = some r := by first | (rw [hy515]; with_reducible exact H) | (have H2_ := (Option.bind_some _ _).symm.trans H; rw [hy515]; with_reducible exact H2_) | (have H2_ := (Option.bind_some _ _).symm.trans H; with_reducible exact H2_) | with_reducible exact H | (rw [hy515]; exact H) | exact H
              have Ny515 := Aside0.mk hy515
              clear hy515
              obtain ⟨y518, hy518⟩ : ∃ y_ : List (S24), y_ = (([(⟨t504, t505, t506⟩ : S24)] : List (S24))) := ⟨_, rfl⟩
              replace H : (if x7_1.length + y518.length < 3518437208883 then (minecontrollaw04_TelegramBack.l0 k1 l1 y515 (x7_1 ++ y518) (wrap64 (x8_1 - 1)) t499 t509) else (none)) = some r := by first | (rw [hy518]; with_reducible exact H) | (have H2_ := (Option.bind_some _ _).symm.trans H; rw [hy518]; with_reducible exact H2_) | (have H2_ := (Option.bind_some _ _).symm.trans H; with_reducible exact H2_) | with_reducible exact H | (rw [hy518]; exact H) | exact H
              have Ny518 := Aside0.mk hy518
              clear hy518
              by_cases c15 : x7_1.length + y518.length < 3518437208883
              · rw [if_pos c15] at H
                have LMc15 := Aside0.mk c15
                clear c15
                obtain ⟨y521, hy521⟩ : ∃ y_ : List (S24), y_ = (x7_1 ++ y518) := ⟨_, rfl⟩
                replace H : (minecontrollaw04_TelegramBack.l0 k1 l1 y515 y521 (wrap64 (x8_1 - 1)) t499 t509) = some r := by first | (rw [hy521]; with_reducible exact H) | (have H2_ := (Option.bind_some _ _).symm.trans H; rw [hy521]; with_reducible exact H2_) | (have H2_ := (Option.bind_some _ _).symm.trans H; with_reducible exact H2_) | with_reducible exact H | (rw [hy521]; exact H) | exact H
                have Ny521 := Aside0.mk hy521
                clear hy521
                have H' := Aside0.mk H
                clear H
                try go_wp2_with (first | ((with_reducible refine gate_callee (f := 11) rfl ?_); refine goesL_ (some 34) rfl rfl Try.func11 (by kernel_rfl) rfl #[.pointer (some ⟨g501, 0, none⟩)] rfl (by (try simp only [List.map_toArray, List.map_cons, List.map_nil]); first | done | rfl | (simp only [List.length_drop, List.length_take]; rfl)) ?_; (with_reducible refine (minecontroldraw_Codes_Frame.calls k1 g501 t499 x502001_1 t504 t505 t506 t509 w _ ?side1 ?side2 A11.out).mono ?_); (case side1 => repeat (first | (with_reducible first | exact HI501.out | apply IsS48.alloc | apply IsS48.drewN | apply IsS48.drew | apply IsS48.set_1) | exact HI501.out)); (case side2 => repeat (first | (with_reducible first | exact HB.out | apply below_alloc | apply pw_below_drewN | apply below_drew1 | refine below_set ?_ (IsS48.ge HI501.out)) | exact HB.out)); rintro e w16 ⟨v507, rfl, ho0, hi, hb, hk⟩; refine ⟨_, rfl, ?_⟩; have n0_ := Aside0.mk (Kd.R_mono (Kd.R_told (Kd.R_oldK (IsS48.apart (show IsS48 w _ g501 t499 x502001_1 from by repeat (first | (with_reducible first | exact HI501.out | apply IsS48.alloc | apply IsS48.drewN | apply IsS48.drew | apply IsS48.set_1) | exact HI501.out)) (by (with_reducible repeat (first | apply Kd.R_alloc | apply Kd.R_drewN | apply Kd.R_drew)); exact HO_6.out) (by decide)) hk) (Kd.R_base ho0)) (fun _ h_ => h_.1)); have n1_ := Aside0.mk (Kd.N_mono (Kd.N_told (Kd.N_oldK (Kd.N_mono (ok := fun k_ => (some k_ ≠ (u6 : Value).ownBlock ∧ k_ ≠ g501)) (by (with_reducible repeat (first | apply Kd.N_alloc | apply Kd.N_drewN | apply Kd.N_drew)); exact HO_7.out) (fun k_ hk_ => (⟨hk_, hk_.2⟩ : _ ∧ k_ ≠ g501))) hk) (Kd.R_base ho0)) (fun _ h_ => h_.1)); have n2_ := Aside0.mk (Kd.R_lower (Kd.R_new' ho0 (Kd.R_lt (by (with_reducible repeat (first | apply Kd.R_alloc | apply Kd.R_drewN | apply Kd.R_drew)); exact HO_6.out))) (below_size (by repeat (first | (with_reducible first | exact HB.out | apply below_alloc | apply pw_below_drewN | apply below_drew1 | refine below_set ?_ (IsS48.ge HI501.out)) | exact HB.out)))); have n3_ := Aside0.mk (hb); have n4_ := Aside0.mk (hi); clear HO_6; clear HO_7; clear HB; clear HI501; have HO_6 := n0_; have HO_7 := n1_; have HO508 := n2_; have HB := n3_; have HI501 := n4_; clear n0_ n1_ n2_ n3_ n4_; (try clear hb); (try clear hb2); (try clear hge); (try clear hk); (try clear hi); (try clear ho0)) | ((with_reducible refine gate_dst (N := 9) rfl ?_); (try (refine gate_guard (by rfl) ?_; dsimp only)); refine box_event ?hg (N := 9) ?hd (cs := #[.int .i64 0, .int .i64 0, .slice none 0 0]) (t := 24) ?hr ?_; (case hd => rfl); (case hg => rfl); (case hr => first | (go_simp; done) | (go_simp; rfl)); intro gb510 hg w17 hbox hb; have n0_ := Aside0.mk (Kd.R_below (by (with_reducible repeat (first | apply Kd.R_alloc | apply Kd.R_drewN | apply Kd.R_drew)); exact HO_6.out) hb); have n1_ := Aside0.mk (Kd.N_below (Kd.N_elderB (by (with_reducible repeat (first | apply Kd.N_alloc | apply Kd.N_drewN | apply Kd.N_drew)); exact HO_7.out) gb510 (Nat.le_of_eq hg.symm)) hb); have n2_ := Aside0.mk (Kd.R_below (by (with_reducible repeat (first | apply Kd.R_alloc | apply Kd.R_drewN | apply Kd.R_drew)); exact HO508.out) hb); have n3_ := Aside0.mk (IsS48.below (by repeat (first | (with_reducible first | exact HI501.out | apply IsS48.alloc | apply IsS48.drewN | apply IsS48.drew | apply IsS48.set_1) | exact HI501.out)) hb); have n4_ := Aside0.mk (below_step (by repeat (first | (with_reducible first | exact HB.out | apply below_alloc | apply pw_below_drewN | apply below_drew1 | refine below_set ?_ (IsS48.ge HI501.out)) | exact HB.out)) hb); have n5_ := Aside0.mk (hbox); have n6_ := Aside0.mk ((by rw [hg]; exact (below_size (by repeat (first | (with_reducible first | exact HB.out | apply below_alloc | apply pw_below_drewN | apply below_drew1 | refine below_set ?_ (IsS48.ge HI501.out)) | exact HB.out))) : w.heap.size ≤ gb510)); have n7_ := Aside0.mk ((by rw [hg]; exact (below_size (by repeat (first | (with_reducible first | exact HB.out | apply below_alloc | apply pw_below_drewN | apply below_drew1 | refine below_set ?_ (IsS48.ge HI501.out)) | exact HB.out))) : w.heap.size ≤ gb510)); have n8_ := Aside0.mk ((by rw [hg]; exact Nat.ne_of_lt (IsS48.lt (show IsS48 w _ g501 t499 t509 from by repeat (first | (with_reducible first | exact HI501.out | apply IsS48.alloc | apply IsS48.drewN | apply IsS48.drew | apply IsS48.set_1) | exact HI501.out))) : g501 ≠ gb510)); have n9_ := Aside0.mk ((by rw [hg]; exact Nat.ne_of_gt (IsS48.lt (show IsS48 w _ g501 t499 t509 from by repeat (first | (with_reducible first | exact HI501.out | apply IsS48.alloc | apply IsS48.drewN | apply IsS48.drew | apply IsS48.set_1) | exact HI501.out))) : gb510 ≠ g501)); clear HO_6; clear HO_7; clear HO508; clear HI501; clear HB; have HO_6 := n0_; have HO_7 := n1_; have HO508 := n2_; have HI501 := n3_; have HB := n4_; have BK510 := n5_; have GW510 := n6_; have GE510 := n7_; have NB501_510 := n8_; have NB510_501 := n9_; clear n0_ n1_ n2_ n3_ n4_ n5_ n6_ n7_ n8_ n9_; clear hb hbox hg; have hnb18 := NB510_501.out; have hnc18 := NB501_510.out; have hcz19_0 : w17.cell? ⟨gb510, 0, none⟩ = some (.int .i64 0) := (blk_cell BK510.out 0).trans rfl; have hcz19_1 : w17.cell? ⟨gb510, 1, none⟩ = some (.int .i64 0) := (blk_cell BK510.out 1).trans rfl; have hcz19_2 : w17.cell? ⟨gb510, 2, none⟩ = some (.slice none 0 0) := (blk_cell BK510.out 2).trans rfl; have hfz19_0 := blk_frozen BK510.out 0; have hfz19_1 := blk_frozen BK510.out 1; have hfz19_2 := blk_frozen BK510.out 2; obtain ⟨Ao20, co20, eo20⟩ := Kd.R_slice HO508.out; subst eo20) | ((with_reducible refine gate_callee (f := 12) rfl ?_); refine goesL_ (some 37) rfl rfl Try.func12 (by kernel_rfl) rfl #[.agg #[.int .i64 t504, .int .i64 t505, .slice Ao20 t506.length co20]] rfl (by (try simp only [List.map_toArray, List.map_cons, List.map_nil]); first | done | rfl | (simp only [List.length_drop, List.length_take]; rfl)) ?_; (with_reducible refine (telegram_Write.calls k1 t504 t505 _ _ t506 t511 t514 _ ?side1 ?side2 A12.out).mono ?_); (case side1 => refine (Kd.R_reads' (e := 5) (base := w.heap.size) (ok := fun k_ => (True ∧ some k_ ≠ (u6 : Value).ownBlock)) (n := t506.length) (c := co20) ?_).2.2; exact (by (with_reducible repeat (first | apply Kd.R_alloc | apply Kd.R_drewN | apply Kd.R_drew)); exact (Kd.R_mono (Kd.R_far (p := ⟨gb510, 2, none⟩) (Kd.R_far (p := ⟨gb510, 1, none⟩) (Kd.R_far (p := ⟨gb510, 0, none⟩) (Kd.R_types HO508.out BK510.out (by decide)) (fun _ hk => hk.2) (.int .i64 t504)) (fun _ hk => hk.2) (.int .i64 t505)) (fun _ hk => hk.2) (.slice Ao20 t506.length co20)) (fun _ h_ => h_.1)))); (case side2 => exact (Kd.R_reads' HO508.out).2.1); rintro e w21 ⟨v512, rfl, ho0, hb⟩; refine ⟨_, rfl, ?_⟩; have n0_ := Aside0.mk (Kd.R_elder' (by (with_reducible repeat (first | apply Kd.R_alloc | apply Kd.R_drewN | apply Kd.R_drew)); exact (Kd.R_mono (Kd.R_far (p := ⟨gb510, 2, none⟩) (Kd.R_far (p := ⟨gb510, 1, none⟩) (Kd.R_far (p := ⟨gb510, 0, none⟩) (Kd.R_types HO_6.out BK510.out (by decide)) (fun _ hk => hk.2) (.int .i64 t504)) (fun _ hk => hk.2) (.int .i64 t505)) (fun _ hk => hk.2) (.slice Ao20 t506.length co20)) (fun _ h_ => h_.1))) (Kd.R_base ho0) hb); have n1_ := Aside0.mk (Kd.N_elder' (by (with_reducible repeat (first | apply Kd.N_alloc | apply Kd.N_drewN | apply Kd.N_drew)); exact (Kd.N_mono (Kd.N_far (p := ⟨gb510, 2, none⟩) (Kd.N_far (p := ⟨gb510, 1, none⟩) (Kd.N_far (p := ⟨gb510, 0, none⟩) (Kd.N_mono HO_7.out (fun k_ hk => (⟨hk, hk.2⟩ : _ ∧ k_ ≠ gb510))) (fun _ hk => hk.2) (.int .i64 t504)) (fun _ hk => hk.2) (.int .i64 t505)) (fun _ hk => hk.2) (.slice Ao20 t506.length co20)) (fun _ h_ => h_.1))) (Kd.R_base ho0) hb); have n2_ := Aside0.mk (Kd.R_elder' (by (with_reducible repeat (first | apply Kd.R_alloc | apply Kd.R_drewN | apply Kd.R_drew)); exact (Kd.R_mono (Kd.R_far (p := ⟨gb510, 2, none⟩) (Kd.R_far (p := ⟨gb510, 1, none⟩) (Kd.R_far (p := ⟨gb510, 0, none⟩) (Kd.R_types HO508.out BK510.out (by decide)) (fun _ hk => hk.2) (.int .i64 t504)) (fun _ hk => hk.2) (.int .i64 t505)) (fun _ hk => hk.2) (.slice Ao20 t506.length co20)) (fun _ h_ => h_.1))) (Kd.R_base ho0) hb); have n3_ := Aside0.mk (Kd.R_lower (Kd.R_new' (Kd.R_new' ho0 (Kd.R_lt (by (with_reducible repeat (first | apply Kd.R_alloc | apply Kd.R_drewN | apply Kd.R_drew)); exact (Kd.R_mono (Kd.R_far (p := ⟨gb510, 2, none⟩) (Kd.R_far (p := ⟨gb510, 1, none⟩) (Kd.R_far (p := ⟨gb510, 0, none⟩) (Kd.R_types HO_6.out BK510.out (by decide)) (fun _ hk => hk.2) (.int .i64 t504)) (fun _ hk => hk.2) (.int .i64 t505)) (fun _ hk => hk.2) (.slice Ao20 t506.length co20)) (fun _ h_ => h_.1))))) (Kd.R_lt (by (with_reducible repeat (first | apply Kd.R_alloc | apply Kd.R_drewN | apply Kd.R_drew)); exact (Kd.R_mono (Kd.R_far (p := ⟨gb510, 2, none⟩) (Kd.R_far (p := ⟨gb510, 1, none⟩) (Kd.R_far (p := ⟨gb510, 0, none⟩) (Kd.R_types HO508.out BK510.out (by decide)) (fun _ hk => hk.2) (.int .i64 t504)) (fun _ hk => hk.2) (.int .i64 t505)) (fun _ hk => hk.2) (.slice Ao20 t506.length co20)) (fun _ h_ => h_.1))))) (below_size (by repeat (first | (with_reducible first | exact HB.out | apply below_alloc | apply pw_below_drewN | apply below_drew1 | refine below_set ?_ (IsS48.ge HI501.out) | refine below_set ?_ GE510.out) | exact HB.out)))); have n4_ := Aside0.mk (IsS48.below (show IsS48 w _ g501 t499 t509 from by repeat (first | (with_reducible first | exact HI501.out | apply IsS48.alloc | apply IsS48.drewN | apply IsS48.drew | apply IsS48.set_1 | refine IsS48.far ?_ NB501_510.out _) | exact HI501.out)) hb); have n5_ := Aside0.mk (blk_below (g := gb510) (o := .cells #[.int .i64 t504, .int .i64 t505, .slice Ao20 t506.length co20] 24 (0, 0)) (by (with_reducible repeat (first | refine blk_drewN ?_ _ | refine blk_drew ?_ | refine blk_alloc ?_ _)); refine blk_put (cs := #[.int .i64 t504, .int .i64 t505, .slice none 0 0]) ?_ 2 _ rfl; (with_reducible repeat (first | refine blk_drewN ?_ _ | refine blk_drew ?_ | refine blk_alloc ?_ _)); refine blk_put (cs := #[.int .i64 t504, .int .i64 0, .slice none 0 0]) ?_ 1 _ rfl; (with_reducible repeat (first | refine blk_drewN ?_ _ | refine blk_drew ?_ | refine blk_alloc ?_ _)); refine blk_put (cs := #[.int .i64 0, .int .i64 0, .slice none 0 0]) ?_ 0 _ rfl; (with_reducible repeat (first | refine blk_drewN ?_ _ | refine blk_drew ?_ | refine blk_alloc ?_ _)); exact BK510.out) hb); have n6_ := Aside0.mk (below_step (by repeat (first | (with_reducible first | exact HB.out | apply below_alloc | apply pw_below_drewN | apply below_drew1 | refine below_set ?_ (IsS48.ge HI501.out) | refine below_set ?_ GE510.out) | exact HB.out)) hb); clear HO_6; clear HO_7; clear HO508; clear HI501; clear BK510; clear HB; have HO_6 := n0_; have HO_7 := n1_; have HO508 := n2_; have HO513 := n3_; have HI501 := n4_; have BK510 := n5_; have HB := n6_; clear n0_ n1_ n2_ n3_ n4_ n5_ n6_; (try clear hb); (try clear hb2); (try clear hge); (try clear hk); (try clear hi); (try clear ho0); obtain ⟨Ao22, co22, eo22⟩ := Kd.R_slice HO_6.out; subst eo22; obtain ⟨Ao23, co23, eo23⟩ := Kd.R_slice HO513.out; subst eo23; obtain ⟨Ao24, co24, eo24⟩ := Kd.N_slice HO_7.out; subst eo24))
                have n0_ := Aside0.mk (Kd.R_drew HO_6.out)
                have n1_ := Aside0.mk (Kd.N_drew HO_7.out)
                have n2_ := Aside0.mk (Kd.R_drew HO508.out)
                have n3_ := Aside0.mk (Kd.R_drew HO513.out)
                have n4_ := Aside0.mk (blk_drew BK510.out)
                have n5_ := Aside0.mk (IsS48.drew HI501.out)
                have n6_ := Aside0.mk (below_drew1 HB.out)
                clear HO_6
                clear HO_7
                clear HO508
                clear HO513
                clear BK510
                clear HI501
                clear HB
                have HO_6 := n0_
                have HO_7 := n1_
                have HO508 := n2_
                have HO513 := n3_
                have BK510 := n4_
                have HI501 := n5_
                have HB := n6_
                clear n0_ n1_ n2_ n3_ n4_ n5_ n6_
                refine start_ (n := 9) (S := fun w' => w'.cell? ⟨gb510, 0, none⟩ = some (.int .i64 t504) ∧ w'.cell? ⟨gb510, 1, none⟩ = some (.int .i64 t505) ∧ w'.cell? ⟨gb510, 2, none⟩ = some (.slice Ao20 t506.length co20)) (ds := []) #[false, false, false, false, false, false, false, false, false] (by kernel_rfl) rfl rfl ⟨(blk_cell BK510.out 0).trans rfl, (blk_cell BK510.out 1).trans rfl, (blk_cell BK510.out 2).trans rfl⟩ (fun hHeld => ?_); refine with_tabW minecontrollaw04_TelegramBack.tab13 minecontrollaw04_TelegramBack.bits13 (fun HT_ HW_ => ?_)
                generalize w21.drew = w25 at HO_6 HO_7 HO508 HO513 BK510 HI501 HB hHeld ⊢
                refine pure_ (i := 0) (N := some 42) (v := ?_) (a' := ?_) #[true, false, false, false, false, false, false, false, false] rfl rfl (any_of HT_.out (by kernel_rfl)) (fun _ _ _ h => h) (Or.inl ⟨by rfl, ?_⟩) ?_ ?_
                rotate_left
                · intro w'
                  go_simp
                  with_reducible rfl
                rotate_left
                · simp only [Act.put, List.setIfInBounds_toArray, List.set_cons_zero, List.set_cons_succ, i64_w, i32_w]
                  rfl
                refine pure_ (i := 1) (N := some 43) (v := ?_) (a' := ?_) #[true, true, false, false, false, false, false, false, false] rfl rfl (any_of HT_.out (by kernel_rfl)) (fun _ _ _ h => h) (Or.inl ⟨by rfl, ?_⟩) ?_ ?_
                rotate_left
                · intro w'
                  go_simp
                  with_reducible rfl
                rotate_left
                · simp only [Act.put, List.setIfInBounds_toArray, List.set_cons_zero, List.set_cons_succ, i64_w, i32_w]
                  rfl
                refine pure_ (i := 3) (N := some 45) (v := ?_) (a' := ?_) #[true, true, false, true, false, false, false, false, false] rfl rfl (any_of HT_.out (by kernel_rfl)) (fun _ _ _ h => h) (Or.inl ⟨by rfl, ?_⟩) ?_ ?_
                rotate_left
                · intro w'
                  go_simp
                  with_reducible rfl
                rotate_left
                · simp only [Act.put, List.setIfInBounds_toArray, List.set_cons_zero, List.set_cons_succ, i64_w, i32_w]
                  rfl
                refine take_ (i := 4) (N := some 46) (v := ?_) (a' := ?_) #[true, true, false, true, true, false, false, false, false] rfl rfl (take_ofW HT_.out HW_.out (by kernel_rfl)) (fun _ _ _ h => h) (Or.inl ⟨by rfl, ?_⟩) hHeld ?_ ?_
                rotate_left
                · rintro w' ⟨s0, s1, s2⟩
                  go_simp
                  with_reducible rfl
                rotate_left
                · simp only [Act.put, List.setIfInBounds_toArray, List.set_cons_zero, List.set_cons_succ, i64_w, i32_w]
                  rfl
                refine join_ (σ := Value × Value) 3 #[true, true, true, true, true, true, false, false, false] (fun s_ => [(44, s_.1), (47, s_.2)]) (fun s_ w' => (w'.cell? ⟨gb510, 0, none⟩ = some (.int .i64 t504) ∧ w'.cell? ⟨gb510, 1, none⟩ = some (.int .i64 t505) ∧ w'.cell? ⟨gb510, 2, none⟩ = some (.slice Ao20 t506.length co20)) ∧ (Kd.R (Kd.int .u8) 5 w' w.heap.size (fun k_ => some k_ ≠ (.slice Ao23 t511.length co23 : Value).ownBlock ∧ some k_ ≠ (s_.1 : Value).ownBlock) (.slice Ao20 t506.length co20) t506) ∧ (Kd.R (Kd.int .u8) 5 w' w.heap.size (fun k_ => some k_ ≠ (.slice Ao20 t506.length co20 : Value).ownBlock ∧ some k_ ≠ (s_.1 : Value).ownBlock) (.slice Ao23 t511.length co23) t511) ∧ (Kd.R (Kd.int .u8) 5 w' w.heap.size (fun k_ => some k_ ≠ (.slice Ao20 t506.length co20 : Value).ownBlock ∧ some k_ ≠ (.slice Ao23 t511.length co23 : Value).ownBlock) s_.1 y515) ∧ (Kd.N k24 24 w' w.heap.size (fun k_ => some k_ ≠ (.slice Ao23 t511.length co23 : Value).ownBlock ∧ some k_ ≠ (s_.1 : Value).ownBlock ∧ some k_ ≠ (.slice Ao24 x7_1.length co24 : Value).ownBlock ∧ k_ ≠ g501 ∧ k_ ≠ gb510) s_.2 y518) ∧ (Kd.N k24 24 w' w.heap.size (fun k_ => some k_ ≠ (.slice Ao20 t506.length co20 : Value).ownBlock ∧ some k_ ≠ (.slice Ao23 t511.length co23 : Value).ownBlock ∧ some k_ ≠ (s_.1 : Value).ownBlock ∧ some k_ ≠ (s_.2 : Value).ownBlock ∧ k_ ≠ g501 ∧ k_ ≠ gb510) (.slice Ao24 x7_1.length co24) x7_1) ∧ (w'.heap[gb510]? = some (.cells #[.int .i64 t504, .int .i64 t505, .slice Ao20 t506.length co20] 24 (0, 0))) ∧ (IsS48 w w' g501 t499 t509) ∧ (Below w.heap.size w w')) ?_ ?_
                rotate_left
                · intro hCont
                  refine two_ (i := 2) (j := 5) (Ni := some 44) (Nj := some 47) #[true, true, true, true, true, false, false, false, false] #[true, true, false, true, true, true, false, false, false] rfl rfl rfl rfl (two_of HT_.out (by kernel_rfl)) (by decide) (by decide) (fun K hK => ?_) (fun K hK => ?_)
                  · skip
                    refine Kd.R_append_rows_step (Kd.int .u8) (w0 := w) w.heap.size (by rfl) (.tmp 42) (.tmp 43) 22 5 (.int .u8 0) 1 rfl Try.underlying22 info5 rfl (by decide) (by omega) (.slice Ao22 x6_1.length co22) x6_1 t511 _ _ _ (fun k_ => some k_ ≠ (.slice Ao20 t506.length co20 : Value).ownBlock ∧ some k_ ≠ (.slice Ao23 t511.length co23 : Value).ownBlock) (fun _ => False) rfl rfl ?aO ?aR (fun _ _ h => h) (fun _ h => h.elim) ?aF ?aB ?aS ?aL ?_
                    (case aR => repeat (first | exact (Kd.R_reads' HO513.out).2.2 | (with_reducible refine Kd.C_alloc ?_ _) | (with_reducible refine Kd.C_drewN ?_ _) | (with_reducible refine Kd.C_drew ?_)))
                    (case aB => exact (by repeat (first | (with_reducible first | exact HB.out | apply below_alloc | apply pw_below_drewN | apply below_drew1 | refine below_set ?_ (IsS48.ge HI501.out) | refine below_set ?_ GE510.out) | exact HB.out)))
                    (case aF => exact (fun k_ hk => ⟨Kd.fresh' (Kd.R_lt (by (with_reducible repeat (first | apply Kd.R_alloc | apply Kd.R_drewN | apply Kd.R_drew)); exact HO508.out)) k_ hk, Kd.fresh' (Kd.R_lt (by (with_reducible repeat (first | apply Kd.R_alloc | apply Kd.R_drewN | apply Kd.R_drew)); exact HO513.out)) k_ hk⟩))
                    (case aO => exact (by (with_reducible repeat (first | apply Kd.R_alloc | apply Kd.R_drewN | apply Kd.R_drew)); exact Kd.R_mono HO_6.out (fun _ hk => ⟨hk.1.2, hk.2⟩)))
                    (case aS => exact (below_size (by repeat (first | (with_reducible first | exact HB.out | apply below_alloc | apply pw_below_drewN | apply below_drew1 | refine below_set ?_ (IsS48.ge HI501.out) | refine below_set ?_ GE510.out) | exact HB.out))))
                    (case aL => have := LMc14.out; omega)
                    intro v516 w26 ho hb hg hat
                    rw [← Ny515.out] at ho
                    have n0_ := Aside0.mk (Kd.N_afterv (ok := (fun k_ => some k_ ≠ (.slice Ao20 t506.length co20 : Value).ownBlock ∧ some k_ ≠ (.slice Ao23 t511.length co23 : Value).ownBlock ∧ k_ ≠ g501 ∧ k_ ≠ gb510)) (by (with_reducible repeat (first | apply Kd.N_alloc | apply Kd.N_drewN | apply Kd.N_drew)); exact Kd.N_mono HO_7.out (fun _ hk => ⟨⟨hk.1.1.2, ⟨hk.2, ⟨hk.1.1.1.2, hk.1.2⟩⟩⟩, hk.1.1.1.1⟩)) hg hat)
                    have n1_ := Aside0.mk (IsS48.grown (show IsS48 w _ g501 t499 t509 from by repeat (first | (with_reducible first | exact HI501.out | apply IsS48.alloc | apply IsS48.drewN | apply IsS48.drew | apply IsS48.set_1 | refine IsS48.far ?_ NB501_510.out _) | exact HI501.out)) hg (IsS48.own_ne HI501.out HO_6.out (by decide)))
                    have n2_ := Aside0.mk (Kd.R_after (ok := (fun k_ => some k_ ≠ (.slice Ao23 t511.length co23 : Value).ownBlock)) (by (with_reducible repeat (first | apply Kd.R_alloc | apply Kd.R_drewN | apply Kd.R_drew)); exact Kd.R_mono HO508.out (fun _ hk => ⟨hk.2, hk.1.2⟩)) hg hat)
                    have n3_ := Aside0.mk (blk_grown (g := gb510) (o := .cells #[.int .i64 t504, .int .i64 t505, .slice Ao20 t506.length co20] 24 (0, 0)) (by (with_reducible repeat (first | refine blk_drewN ?_ _ | refine blk_drew ?_ | refine blk_alloc ?_ _)); exact BK510.out) hg (Kd.R_ne HO_6.out BK510.out (by decide)))
                    have n4_ := Aside0.mk (Kd.R_after (ok := (fun k_ => some k_ ≠ (.slice Ao20 t506.length co20 : Value).ownBlock)) (by (with_reducible repeat (first | apply Kd.R_alloc | apply Kd.R_drewN | apply Kd.R_drew)); exact Kd.R_mono HO513.out (fun _ hk => ⟨hk.2, hk.1.2⟩)) hg hat)
                    have n5_ := Aside0.mk (hb)
                    have n6_ := Aside0.mk (ho)
                    clear HO_7
                    clear HI501
                    clear HO508
                    clear BK510
                    clear HO513
                    clear HB
                    clear HO_6
                    have HO_7 := n0_
                    have HI501 := n1_
                    have HO508 := n2_
                    have BK510 := n3_
                    have HO513 := n4_
                    have HB := n5_
                    have HO517 := n6_
                    clear n0_ n1_ n2_ n3_ n4_ n5_ n6_
                    clear ho hb hg hat
                    refine hK.out _ _ ⟨(blk_cell BK510.out 0).trans rfl, (blk_cell BK510.out 1).trans rfl, (blk_cell BK510.out 2).trans rfl⟩ (fun hHeld => ?_)
                    clear hK K
                    refine norm_ (a' := ?_) ?_ ?_
                    rotate_left
                    · show Act.put _ (some 44) _ = _
                      simp only [Act.put, List.setIfInBounds_toArray, List.set_cons_zero, List.set_cons_succ, i64_w, i32_w]
                      rfl
                    refine one_ (i := 5) (N := some 47) #[true, true, true, true, true, true, false, false, false] rfl rfl (one_of HT_.out (by kernel_rfl)) (by decide) (fun K hK => ?_)
                    refine Kd.N_lit_step k24 _ 24 ?hg (N' := 47) ?hd (xs := ([(⟨t504, t505, t506⟩ : S24)] : List (S24))) (inner := [.int .i64 t504, .int .i64 t505, .slice Ao20 t506.length co20]) (ok := (fun k_ => some k_ ≠ (.slice Ao24 x7_1.length co24 : Value).ownBlock ∧ some k_ ≠ (.slice Ao23 t511.length co23 : Value).ownBlock ∧ some k_ ≠ (v516 : Value).ownBlock ∧ k_ ≠ gb510 ∧ k_ ≠ g501)) (okp := (fun k_ => some k_ ≠ (.slice Ao24 x7_1.length co24 : Value).ownBlock ∧ some k_ ≠ (.slice Ao23 t511.length co23 : Value).ownBlock ∧ some k_ ≠ (v516 : Value).ownBlock ∧ k_ ≠ gb510 ∧ k_ ≠ g501)) ?hr ?hp (fun _ hk => hk) ((show ∀ k_, w26.heap.size ≤ k_ → (fun k_ => some k_ ≠ (.slice Ao24 x7_1.length co24 : Value).ownBlock ∧ some k_ ≠ (.slice Ao23 t511.length co23 : Value).ownBlock ∧ some k_ ≠ (v516 : Value).ownBlock ∧ k_ ≠ gb510 ∧ k_ ≠ g501) k_ from fun k_ hk => ⟨Kd.fresh' (Kd.N_lt (by (with_reducible repeat (first | apply Kd.N_alloc | apply Kd.N_drewN | apply Kd.N_drew)); exact HO_7.out)) k_ hk, Kd.fresh' (Kd.R_lt (by (with_reducible repeat (first | apply Kd.R_alloc | apply Kd.R_drewN | apply Kd.R_drew)); exact HO513.out)) k_ hk, Kd.fresh' (Kd.R_lt (by (with_reducible repeat (first | apply Kd.R_alloc | apply Kd.R_drewN | apply Kd.R_drew)); exact HO517.out)) k_ hk, Kd.freshB (g := gb510) (o := .cells #[.int .i64 t504, .int .i64 t505, .slice Ao20 t506.length co20] 24 (0, 0)) (by (with_reducible repeat (first | refine blk_drewN ?_ _ | refine blk_drew ?_ | refine blk_alloc ?_ _)); exact BK510.out) k_ hk, IsS48.fresh (by repeat (first | (with_reducible first | exact HI501.out | apply IsS48.alloc | apply IsS48.drewN | apply IsS48.drew | apply IsS48.set_1 | refine IsS48.far ?_ NB501_510.out _) | exact HI501.out)) k_ hk⟩) _ (Nat.le_refl _)) (Below.refl _ _) (Nat.le_refl _) (by simp) ?_; (case hd => rfl); (case hg => rfl); (case hr => first | (go_simp; done) | (go_simp; rfl)); (case hp => exact (Reps.c3 (show Kd.FK k24 _ _ (⟨t504, t505, t506⟩ : S24) [.int .i64 t504, .int .i64 t505, .slice Ao20 t506.length co20] from (k24_mkF _ _ (⟨t504, t505, t506⟩ : S24) (Kd.R_reads' (Kd.R_mono (ok' := (fun k_ => some k_ ≠ (.slice Ao24 x7_1.length co24 : Value).ownBlock ∧ some k_ ≠ (.slice Ao23 t511.length co23 : Value).ownBlock ∧ some k_ ≠ (v516 : Value).ownBlock ∧ k_ ≠ gb510 ∧ k_ ≠ g501)) (IsS48.apart HI501.out (Kd.R_types (Kd.R_apart' (HO508.out) (Kd.N_typed HO_7.out) (by decide)) BK510.out (by decide)) (by decide)) (fun k_ hk => ⟨hk.1.1.2, ⟨hk.1.1.1.1, ⟨hk.1.1.1.2, ⟨hk.1.2, hk.2⟩⟩⟩⟩))).2.1 (Kd.R_F (Kd.R_mono (ok' := (fun k_ => some k_ ≠ (.slice Ao24 x7_1.length co24 : Value).ownBlock ∧ some k_ ≠ (.slice Ao23 t511.length co23 : Value).ownBlock ∧ some k_ ≠ (v516 : Value).ownBlock ∧ k_ ≠ gb510 ∧ k_ ≠ g501)) (IsS48.apart HI501.out (Kd.R_types (Kd.R_apart' (HO508.out) (Kd.N_typed HO_7.out) (by decide)) BK510.out (by decide)) (by decide)) (fun k_ hk => ⟨hk.1.1.2, ⟨hk.1.1.1.1, ⟨hk.1.1.1.2, ⟨hk.1.2, hk.2⟩⟩⟩⟩))))) (Reps.none _ _)))
                    intro v519 w27 ho28 hb hg_ hnew_
                    clear hg_ hnew_
                    (first | rw [← Ny518.out] at ho28 | (simp only [Int.reduceToNat] at ho28; rw [← Ny518.out] at ho28))
                    have n0_ := Aside0.mk (Kd.N_elder' (by (with_reducible repeat (first | apply Kd.N_alloc | apply Kd.N_drewN | apply Kd.N_drew)); exact HO_7.out) (Kd.N_base ho28) hb)
                    have n1_ := Aside0.mk (Kd.R_below (by (with_reducible repeat (first | apply Kd.R_alloc | apply Kd.R_drewN | apply Kd.R_drew)); exact HO508.out) hb)
                    have n2_ := Aside0.mk (Kd.R_below (by (with_reducible repeat (first | apply Kd.R_alloc | apply Kd.R_drewN | apply Kd.R_drew)); exact HO513.out) hb)
                    have n3_ := Aside0.mk (Kd.R_below (by (with_reducible repeat (first | apply Kd.R_alloc | apply Kd.R_drewN | apply Kd.R_drew)); exact HO517.out) hb)
                    have n4_ := Aside0.mk (Kd.N_lower ho28 (below_size (by repeat (first | (with_reducible first | exact HB.out | apply below_alloc | apply pw_below_drewN | apply below_drew1 | refine below_set ?_ (IsS48.ge HI501.out) | refine below_set ?_ GE510.out) | exact HB.out))))
                    have n5_ := Aside0.mk (IsS48.below (by repeat (first | (with_reducible first | exact HI501.out | apply IsS48.alloc | apply IsS48.drewN | apply IsS48.drew | apply IsS48.set_1 | refine IsS48.far ?_ NB501_510.out _) | exact HI501.out)) hb)
                    have n6_ := Aside0.mk (blk_below (g := gb510) (o := .cells #[.int .i64 t504, .int .i64 t505, .slice Ao20 t506.length co20] 24 (0, 0)) (by (with_reducible repeat (first | refine blk_drewN ?_ _ | refine blk_drew ?_ | refine blk_alloc ?_ _)); exact BK510.out) hb)
                    have n7_ := Aside0.mk (below_step (by repeat (first | (with_reducible first | exact HB.out | apply below_alloc | apply pw_below_drewN | apply below_drew1 | refine below_set ?_ (IsS48.ge HI501.out) | refine below_set ?_ GE510.out) | exact HB.out)) hb)
                    clear HO_7
                    clear HO508
                    clear HO513
                    clear HO517
                    clear HI501
                    clear BK510
                    clear HB
                    have HO_7 := n0_
                    have HO508 := n1_
                    have HO513 := n2_
                    have HO517 := n3_
                    have HO520 := n4_
                    have HI501 := n5_
                    have BK510 := n6_
                    have HB := n7_
                    clear n0_ n1_ n2_ n3_ n4_ n5_ n6_ n7_
                    clear hb ho28
                    refine hK.out _ _ ⟨(blk_cell BK510.out 0).trans rfl, (blk_cell BK510.out 1).trans rfl, (blk_cell BK510.out 2).trans rfl⟩ (fun hHeld => ?_)
                    clear hK K
                    refine norm_ (a' := ?_) ?_ ?_
                    rotate_left
                    · show Act.put _ (some 47) _ = _
                      simp only [Act.put, List.setIfInBounds_toArray, List.set_cons_zero, List.set_cons_succ, i64_w, i32_w]
                      rfl
                    exact norm_ (by simp only [putAll, Act.put, List.setIfInBounds_toArray, List.set_cons_zero, List.set_cons_succ]) (hCont (v516, v519) _ ⟨hHeld, (by (with_reducible repeat (first | apply Kd.R_alloc | apply Kd.R_drewN | apply Kd.R_drew)); exact HO508.out), (by (with_reducible repeat (first | apply Kd.R_alloc | apply Kd.R_drewN | apply Kd.R_drew)); exact HO513.out), (by (with_reducible repeat (first | apply Kd.R_alloc | apply Kd.R_drewN | apply Kd.R_drew)); exact HO517.out), (by (with_reducible repeat (first | apply Kd.N_alloc | apply Kd.N_drewN | apply Kd.N_drew)); exact Kd.N_mono HO520.out (fun _ hk => ⟨hk.2.1, ⟨hk.2.2.1, ⟨hk.1, ⟨hk.2.2.2.2, hk.2.2.2.1⟩⟩⟩⟩)), (by (with_reducible repeat (first | apply Kd.N_alloc | apply Kd.N_drewN | apply Kd.N_drew)); exact Kd.N_mono HO_7.out (fun _ hk => ⟨hk.1.1.1, ⟨hk.1.1.2.1, ⟨hk.1.2, ⟨hk.2, ⟨hk.1.1.2.2.1, hk.1.1.2.2.2⟩⟩⟩⟩⟩)), (by (with_reducible repeat (first | refine blk_drewN ?_ _ | refine blk_drew ?_ | refine blk_alloc ?_ _)); exact BK510.out), (by repeat (first | (with_reducible first | exact HI501.out | apply IsS48.alloc | apply IsS48.drewN | apply IsS48.drew | apply IsS48.set_1 | refine IsS48.far ?_ NB501_510.out _) | exact HI501.out)), (by repeat (first | (with_reducible first | exact HB.out | apply below_alloc | apply pw_below_drewN | apply below_drew1 | refine below_set ?_ (IsS48.ge HI501.out) | refine below_set ?_ GE510.out) | exact HB.out))⟩)
                  · skip
                    refine Kd.N_lit_step k24 _ 24 ?hg (N' := 47) ?hd (xs := ([(⟨t504, t505, t506⟩ : S24)] : List (S24))) (inner := [.int .i64 t504, .int .i64 t505, .slice Ao20 t506.length co20]) (ok := (fun k_ => some k_ ≠ (.slice Ao22 x6_1.length co22 : Value).ownBlock ∧ some k_ ≠ (.slice Ao24 x7_1.length co24 : Value).ownBlock ∧ some k_ ≠ (.slice Ao23 t511.length co23 : Value).ownBlock ∧ k_ ≠ gb510 ∧ k_ ≠ g501)) (okp := (fun k_ => some k_ ≠ (.slice Ao22 x6_1.length co22 : Value).ownBlock ∧ some k_ ≠ (.slice Ao24 x7_1.length co24 : Value).ownBlock ∧ some k_ ≠ (.slice Ao23 t511.length co23 : Value).ownBlock ∧ k_ ≠ gb510 ∧ k_ ≠ g501)) ?hr ?hp (fun _ hk => hk) ((show ∀ k_, w25.heap.size ≤ k_ → (fun k_ => some k_ ≠ (.slice Ao22 x6_1.length co22 : Value).ownBlock ∧ some k_ ≠ (.slice Ao24 x7_1.length co24 : Value).ownBlock ∧ some k_ ≠ (.slice Ao23 t511.length co23 : Value).ownBlock ∧ k_ ≠ gb510 ∧ k_ ≠ g501) k_ from fun k_ hk => ⟨Kd.fresh' (Kd.R_lt (by (with_reducible repeat (first | apply Kd.R_alloc | apply Kd.R_drewN | apply Kd.R_drew)); exact HO_6.out)) k_ hk, Kd.fresh' (Kd.N_lt (by (with_reducible repeat (first | apply Kd.N_alloc | apply Kd.N_drewN | apply Kd.N_drew)); exact HO_7.out)) k_ hk, Kd.fresh' (Kd.R_lt (by (with_reducible repeat (first | apply Kd.R_alloc | apply Kd.R_drewN | apply Kd.R_drew)); exact HO513.out)) k_ hk, Kd.freshB (g := gb510) (o := .cells #[.int .i64 t504, .int .i64 t505, .slice Ao20 t506.length co20] 24 (0, 0)) (by (with_reducible repeat (first | refine blk_drewN ?_ _ | refine blk_drew ?_ | refine blk_alloc ?_ _)); exact BK510.out) k_ hk, IsS48.fresh (by repeat (first | (with_reducible first | exact HI501.out | apply IsS48.alloc | apply IsS48.drewN | apply IsS48.drew | apply IsS48.set_1 | refine IsS48.far ?_ NB501_510.out _) | exact HI501.out)) k_ hk⟩) _ (Nat.le_refl _)) (Below.refl _ _) (Nat.le_refl _) (by simp) ?_; (case hd => rfl); (case hg => rfl); (case hr => first | (go_simp; done) | (go_simp; rfl)); (case hp => exact (Reps.c3 (show Kd.FK k24 _ _ (⟨t504, t505, t506⟩ : S24) [.int .i64 t504, .int .i64 t505, .slice Ao20 t506.length co20] from (k24_mkF _ _ (⟨t504, t505, t506⟩ : S24) (Kd.R_reads' (Kd.R_mono (ok' := (fun k_ => some k_ ≠ (.slice Ao22 x6_1.length co22 : Value).ownBlock ∧ some k_ ≠ (.slice Ao24 x7_1.length co24 : Value).ownBlock ∧ some k_ ≠ (.slice Ao23 t511.length co23 : Value).ownBlock ∧ k_ ≠ gb510 ∧ k_ ≠ g501)) (IsS48.apart HI501.out (Kd.R_types (Kd.R_apart' (HO508.out) (Kd.N_typed HO_7.out) (by decide)) BK510.out (by decide)) (by decide)) (fun k_ hk => ⟨hk.1.1.1.1.2, ⟨hk.1.1.2, ⟨hk.1.1.1.2, ⟨hk.1.2, hk.2⟩⟩⟩⟩))).2.1 (Kd.R_F (Kd.R_mono (ok' := (fun k_ => some k_ ≠ (.slice Ao22 x6_1.length co22 : Value).ownBlock ∧ some k_ ≠ (.slice Ao24 x7_1.length co24 : Value).ownBlock ∧ some k_ ≠ (.slice Ao23 t511.length co23 : Value).ownBlock ∧ k_ ≠ gb510 ∧ k_ ≠ g501)) (IsS48.apart HI501.out (Kd.R_types (Kd.R_apart' (HO508.out) (Kd.N_typed HO_7.out) (by decide)) BK510.out (by decide)) (by decide)) (fun k_ hk => ⟨hk.1.1.1.1.2, ⟨hk.1.1.2, ⟨hk.1.1.1.2, ⟨hk.1.2, hk.2⟩⟩⟩⟩))))) (Reps.none _ _)))
                    intro v519 w26 ho27 hb hg_ hnew_
                    clear hg_ hnew_
                    (first | rw [← Ny518.out] at ho27 | (simp only [Int.reduceToNat] at ho27; rw [← Ny518.out] at ho27))
                    have n0_ := Aside0.mk (Kd.R_below (by (with_reducible repeat (first | apply Kd.R_alloc | apply Kd.R_drewN | apply Kd.R_drew)); exact HO_6.out) hb)
                    have n1_ := Aside0.mk (Kd.N_elder' (by (with_reducible repeat (first | apply Kd.N_alloc | apply Kd.N_drewN | apply Kd.N_drew)); exact HO_7.out) (Kd.N_base ho27) hb)
                    have n2_ := Aside0.mk (Kd.R_below (by (with_reducible repeat (first | apply Kd.R_alloc | apply Kd.R_drewN | apply Kd.R_drew)); exact HO508.out) hb)
                    have n3_ := Aside0.mk (Kd.R_below (by (with_reducible repeat (first | apply Kd.R_alloc | apply Kd.R_drewN | apply Kd.R_drew)); exact HO513.out) hb)
                    have n4_ := Aside0.mk (Kd.N_lower ho27 (below_size (by repeat (first | (with_reducible first | exact HB.out | apply below_alloc | apply pw_below_drewN | apply below_drew1 | refine below_set ?_ (IsS48.ge HI501.out) | refine below_set ?_ GE510.out) | exact HB.out))))
                    have n5_ := Aside0.mk (IsS48.below (by repeat (first | (with_reducible first | exact HI501.out | apply IsS48.alloc | apply IsS48.drewN | apply IsS48.drew | apply IsS48.set_1 | refine IsS48.far ?_ NB501_510.out _) | exact HI501.out)) hb)
                    have n6_ := Aside0.mk (blk_below (g := gb510) (o := .cells #[.int .i64 t504, .int .i64 t505, .slice Ao20 t506.length co20] 24 (0, 0)) (by (with_reducible repeat (first | refine blk_drewN ?_ _ | refine blk_drew ?_ | refine blk_alloc ?_ _)); exact BK510.out) hb)
                    have n7_ := Aside0.mk (below_step (by repeat (first | (with_reducible first | exact HB.out | apply below_alloc | apply pw_below_drewN | apply below_drew1 | refine below_set ?_ (IsS48.ge HI501.out) | refine below_set ?_ GE510.out) | exact HB.out)) hb)
                    clear HO_6
                    clear HO_7
                    clear HO508
                    clear HO513
                    clear HI501
                    clear BK510
                    clear HB
                    have HO_6 := n0_
                    have HO_7 := n1_
                    have HO508 := n2_
                    have HO513 := n3_
                    have HO520 := n4_
                    have HI501 := n5_
                    have BK510 := n6_
                    have HB := n7_
                    clear n0_ n1_ n2_ n3_ n4_ n5_ n6_ n7_
                    clear hb ho27
                    refine hK.out _ _ ⟨(blk_cell BK510.out 0).trans rfl, (blk_cell BK510.out 1).trans rfl, (blk_cell BK510.out 2).trans rfl⟩ (fun hHeld => ?_)
                    clear hK K
                    refine norm_ (a' := ?_) ?_ ?_
                    rotate_left
                    · show Act.put _ (some 47) _ = _
                      simp only [Act.put, List.setIfInBounds_toArray, List.set_cons_zero, List.set_cons_succ, i64_w, i32_w]
                      rfl
                    refine one_ (i := 2) (N := some 44) #[true, true, true, true, true, true, false, false, false] rfl rfl (one_of HT_.out (by kernel_rfl)) (by decide) (fun K hK => ?_)
                    refine Kd.R_append_rows_step (Kd.int .u8) (w0 := w) w.heap.size (by rfl) (.tmp 42) (.tmp 43) 22 5 (.int .u8 0) 1 rfl Try.underlying22 info5 rfl (by decide) (by omega) (.slice Ao22 x6_1.length co22) x6_1 t511 _ _ _ (fun k_ => some k_ ≠ (.slice Ao20 t506.length co20 : Value).ownBlock ∧ some k_ ≠ (.slice Ao23 t511.length co23 : Value).ownBlock) (fun _ => False) rfl rfl ?aO ?aR (fun _ _ h => h) (fun _ h => h.elim) ?aF ?aB ?aS ?aL ?_
                    (case aR => repeat (first | exact (Kd.R_reads' HO513.out).2.2 | (with_reducible refine Kd.C_alloc ?_ _) | (with_reducible refine Kd.C_drewN ?_ _) | (with_reducible refine Kd.C_drew ?_)))
                    (case aB => exact (by repeat (first | (with_reducible first | exact HB.out | apply below_alloc | apply pw_below_drewN | apply below_drew1 | refine below_set ?_ (IsS48.ge HI501.out) | refine below_set ?_ GE510.out) | exact HB.out)))
                    (case aF => exact (fun k_ hk => ⟨Kd.fresh' (Kd.R_lt (by (with_reducible repeat (first | apply Kd.R_alloc | apply Kd.R_drewN | apply Kd.R_drew)); exact HO508.out)) k_ hk, Kd.fresh' (Kd.R_lt (by (with_reducible repeat (first | apply Kd.R_alloc | apply Kd.R_drewN | apply Kd.R_drew)); exact HO513.out)) k_ hk⟩))
                    (case aO => exact (by (with_reducible repeat (first | apply Kd.R_alloc | apply Kd.R_drewN | apply Kd.R_drew)); exact Kd.R_mono HO_6.out (fun _ hk => ⟨hk.1.2, hk.2⟩)))
                    (case aS => exact (below_size (by repeat (first | (with_reducible first | exact HB.out | apply below_alloc | apply pw_below_drewN | apply below_drew1 | refine below_set ?_ (IsS48.ge HI501.out) | refine below_set ?_ GE510.out) | exact HB.out))))
                    (case aL => have := LMc14.out; omega)
                    intro v516 w28 ho hb hg hat
                    rw [← Ny515.out] at ho
                    have n0_ := Aside0.mk (Kd.N_afterv (ok := (fun k_ => some k_ ≠ (.slice Ao20 t506.length co20 : Value).ownBlock ∧ some k_ ≠ (.slice Ao23 t511.length co23 : Value).ownBlock ∧ some k_ ≠ (v519 : Value).ownBlock ∧ k_ ≠ g501 ∧ k_ ≠ gb510)) (by (with_reducible repeat (first | apply Kd.N_alloc | apply Kd.N_drewN | apply Kd.N_drew)); exact Kd.N_mono HO_7.out (fun _ hk => ⟨⟨hk.1.1.1.2, ⟨hk.1.2, ⟨hk.2, ⟨hk.1.1.1.1.2, hk.1.1.2⟩⟩⟩⟩, hk.1.1.1.1.1⟩)) hg hat)
                    have n1_ := Aside0.mk (IsS48.grown (show IsS48 w _ g501 t499 t509 from by repeat (first | (with_reducible first | exact HI501.out | apply IsS48.alloc | apply IsS48.drewN | apply IsS48.drew | apply IsS48.set_1 | refine IsS48.far ?_ NB501_510.out _) | exact HI501.out)) hg (IsS48.own_ne HI501.out HO_6.out (by decide)))
                    have n2_ := Aside0.mk (Kd.R_after (ok := (fun k_ => some k_ ≠ (.slice Ao23 t511.length co23 : Value).ownBlock)) (by (with_reducible repeat (first | apply Kd.R_alloc | apply Kd.R_drewN | apply Kd.R_drew)); exact Kd.R_mono HO508.out (fun _ hk => ⟨hk.2, hk.1.2⟩)) hg hat)
                    have n3_ := Aside0.mk (blk_grown (g := gb510) (o := .cells #[.int .i64 t504, .int .i64 t505, .slice Ao20 t506.length co20] 24 (0, 0)) (by (with_reducible repeat (first | refine blk_drewN ?_ _ | refine blk_drew ?_ | refine blk_alloc ?_ _)); exact BK510.out) hg (Kd.R_ne HO_6.out BK510.out (by decide)))
                    have n4_ := Aside0.mk (Kd.R_after (ok := (fun k_ => some k_ ≠ (.slice Ao20 t506.length co20 : Value).ownBlock)) (by (with_reducible repeat (first | apply Kd.R_alloc | apply Kd.R_drewN | apply Kd.R_drew)); exact Kd.R_mono HO513.out (fun _ hk => ⟨hk.2, hk.1.2⟩)) hg hat)
                    have n5_ := Aside0.mk (Kd.N_afterv (ok := (fun k_ => some k_ ≠ (.slice Ao24 x7_1.length co24 : Value).ownBlock ∧ some k_ ≠ (.slice Ao23 t511.length co23 : Value).ownBlock ∧ k_ ≠ gb510 ∧ k_ ≠ g501)) (by (with_reducible repeat (first | apply Kd.N_alloc | apply Kd.N_drewN | apply Kd.N_drew)); exact Kd.N_mono HO520.out (fun _ hk => ⟨⟨hk.2.1, ⟨hk.2.2.1, ⟨hk.2.2.2.1, hk.2.2.2.2⟩⟩⟩, hk.1⟩)) hg hat)
                    have n6_ := Aside0.mk (hb)
                    have n7_ := Aside0.mk (ho)
                    clear HO_7
                    clear HI501
                    clear HO508
                    clear BK510
                    clear HO513
                    clear HO520
                    clear HB
                    clear HO_6
                    have HO_7 := n0_
                    have HI501 := n1_
                    have HO508 := n2_
                    have BK510 := n3_
                    have HO513 := n4_
                    have HO520 := n5_
                    have HB := n6_
                    have HO517 := n7_
                    clear n0_ n1_ n2_ n3_ n4_ n5_ n6_ n7_
                    clear ho hb hg hat
                    refine hK.out _ _ ⟨(blk_cell BK510.out 0).trans rfl, (blk_cell BK510.out 1).trans rfl, (blk_cell BK510.out 2).trans rfl⟩ (fun hHeld => ?_)
                    clear hK K
                    refine norm_ (a' := ?_) ?_ ?_
                    rotate_left
                    · show Act.put _ (some 44) _ = _
                      simp only [Act.put, List.setIfInBounds_toArray, List.set_cons_zero, List.set_cons_succ, i64_w, i32_w]
                      rfl
                    exact norm_ (by simp only [putAll, Act.put, List.setIfInBounds_toArray, List.set_cons_zero, List.set_cons_succ]) (hCont (v516, v519) _ ⟨hHeld, (by (with_reducible repeat (first | apply Kd.R_alloc | apply Kd.R_drewN | apply Kd.R_drew)); exact HO508.out), (by (with_reducible repeat (first | apply Kd.R_alloc | apply Kd.R_drewN | apply Kd.R_drew)); exact HO513.out), (by (with_reducible repeat (first | apply Kd.R_alloc | apply Kd.R_drewN | apply Kd.R_drew)); exact HO517.out), (by (with_reducible repeat (first | apply Kd.N_alloc | apply Kd.N_drewN | apply Kd.N_drew)); exact Kd.N_mono HO520.out (fun _ hk => ⟨hk.1.2.1, ⟨hk.2, ⟨hk.1.1, ⟨hk.1.2.2.2, hk.1.2.2.1⟩⟩⟩⟩)), (by (with_reducible repeat (first | apply Kd.N_alloc | apply Kd.N_drewN | apply Kd.N_drew)); exact Kd.N_mono HO_7.out (fun _ hk => ⟨hk.1.1, ⟨hk.1.2.1, ⟨hk.2, ⟨hk.1.2.2.1, ⟨hk.1.2.2.2.1, hk.1.2.2.2.2⟩⟩⟩⟩⟩)), (by (with_reducible repeat (first | refine blk_drewN ?_ _ | refine blk_drew ?_ | refine blk_alloc ?_ _)); exact BK510.out), (by repeat (first | (with_reducible first | exact HI501.out | apply IsS48.alloc | apply IsS48.drewN | apply IsS48.drew | apply IsS48.set_1 | refine IsS48.far ?_ NB501_510.out _) | exact HI501.out)), (by repeat (first | (with_reducible first | exact HB.out | apply below_alloc | apply pw_below_drewN | apply below_drew1 | refine below_set ?_ (IsS48.ge HI501.out) | refine below_set ?_ GE510.out) | exact HB.out))⟩)
                rintro ⟨v516, v519⟩ w29 ⟨hS_, h0_, h1_, h2_, h3_, h4_, h5_, h6_, h7_⟩
                have n0_ : Aside0 (Kd.R (Kd.int .u8) 5 w29 w.heap.size (fun k_ => some k_ ≠ (.slice Ao23 t511.length co23 : Value).ownBlock ∧ some k_ ≠ (v516 : Value).ownBlock) (.slice Ao20 t506.length co20) t506) := ⟨h0_⟩
                have n1_ : Aside0 (Kd.R (Kd.int .u8) 5 w29 w.heap.size (fun k_ => some k_ ≠ (.slice Ao20 t506.length co20 : Value).ownBlock ∧ some k_ ≠ (v516 : Value).ownBlock) (.slice Ao23 t511.length co23) t511) := ⟨h1_⟩
                have n2_ : Aside0 (Kd.R (Kd.int .u8) 5 w29 w.heap.size (fun k_ => some k_ ≠ (.slice Ao20 t506.length co20 : Value).ownBlock ∧ some k_ ≠ (.slice Ao23 t511.length co23 : Value).ownBlock) v516 y515) := ⟨h2_⟩
                have n3_ : Aside0 (Kd.N k24 24 w29 w.heap.size (fun k_ => some k_ ≠ (.slice Ao23 t511.length co23 : Value).ownBlock ∧ some k_ ≠ (v516 : Value).ownBlock ∧ some k_ ≠ (.slice Ao24 x7_1.length co24 : Value).ownBlock ∧ k_ ≠ g501 ∧ k_ ≠ gb510) v519 y518) := ⟨h3_⟩
                have n4_ : Aside0 (Kd.N k24 24 w29 w.heap.size (fun k_ => some k_ ≠ (.slice Ao20 t506.length co20 : Value).ownBlock ∧ some k_ ≠ (.slice Ao23 t511.length co23 : Value).ownBlock ∧ some k_ ≠ (v516 : Value).ownBlock ∧ some k_ ≠ (v519 : Value).ownBlock ∧ k_ ≠ g501 ∧ k_ ≠ gb510) (.slice Ao24 x7_1.length co24) x7_1) := ⟨h4_⟩
                have n5_ : Aside0 (w29.heap[gb510]? = some (.cells #[.int .i64 t504, .int .i64 t505, .slice Ao20 t506.length co20] 24 (0, 0))) := ⟨h5_⟩
                have n6_ : Aside0 (IsS48 w w29 g501 t499 t509) := ⟨h6_⟩
                have n7_ : Aside0 (Below w.heap.size w w29) := ⟨h7_⟩
                clear HO_6
                clear HO_7
                clear HO508
                clear HO513
                clear BK510
                clear HI501
                clear HB
                clear h0_ h1_ h2_ h3_ h4_ h5_ h6_ h7_
                have HO508 := n0_
                have HO513 := n1_
                have HO517 := n2_
                have HO520 := n3_
                have HO_7 := n4_
                have BK510 := n5_
                have HI501 := n6_
                have HB := n7_
                clear n0_ n1_ n2_ n3_ n4_ n5_ n6_ n7_
                have hHeld : w29.cell? ⟨gb510, 0, none⟩ = some (.int .i64 t504) ∧ w29.cell? ⟨gb510, 1, none⟩ = some (.int .i64 t505) ∧ w29.cell? ⟨gb510, 2, none⟩ = some (.slice Ao20 t506.length co20) := hS_
                obtain ⟨Ao31, co31, eo31⟩ := Kd.N_slice HO520.out
                (first | subst eo31 | (injection eo31 with f1_ f2_ f3_; have f4_ := f1_.symm; have f5_ := f3_.symm; clear f1_ f2_ f3_; subst f4_; subst f5_))
                refine norm_ (a' := ?_) ?_ ?_
                rotate_left
                · simp only [putAll, Act.put, List.setIfInBounds_toArray, List.set_cons_zero, List.set_cons_succ]
                  rfl
                refine one_ (i := 6) (N := some 48) #[true, true, true, true, true, true, true, false, false] rfl rfl (one_of HT_.out (by kernel_rfl)) (by decide) (fun K hK => ?_)
                refine Kd.N_append_rows_step k24 (w0 := w) w.heap.size (by rfl) (.tmp 45) (.tmp 47) 29 24 (.agg #[(.int .i64 0), (.int .i64 0), (.slice none 0 0)]) 40 rfl Try.underlying29 info24 rfl (by decide) (by omega) (.slice Ao24 x7_1.length co24) x7_1 y518 _ _ _ (fun k_ => some k_ ≠ (.slice Ao23 t511.length co23 : Value).ownBlock ∧ some k_ ≠ (v516 : Value).ownBlock ∧ k_ ≠ gb510 ∧ k_ ≠ g501) (fun k_ => ((fun k_ => some k_ ≠ (.slice Ao23 t511.length co23 : Value).ownBlock ∧ some k_ ≠ (v516 : Value).ownBlock ∧ k_ ≠ gb510 ∧ k_ ≠ g501)) k_ ∧ some k_ ≠ (.slice Ao24 x7_1.length co24 : Value).ownBlock) rfl rfl ?aO ?aR (fun _ hk => hk) ?aF ?aB ?aS ?aL ?_
                (case aR => exact (by skip; exact Kd.N_F (Kd.N_mono (ok' := (fun k_ => ((fun k_ => some k_ ≠ (.slice Ao23 t511.length co23 : Value).ownBlock ∧ some k_ ≠ (v516 : Value).ownBlock ∧ k_ ≠ gb510 ∧ k_ ≠ g501)) k_ ∧ some k_ ≠ (.slice Ao24 x7_1.length co24 : Value).ownBlock)) (HO520.out) (fun k_ hk => ⟨⟨hk.1, ⟨hk.2.1, ⟨hk.2.2.2.2, hk.2.2.2.1⟩⟩⟩, hk.2.2.1⟩))))
                (case aB => exact (by repeat (first | (with_reducible first | exact HB.out | apply below_alloc | apply pw_below_drewN | apply below_drew1 | refine below_set ?_ (IsS48.ge HI501.out) | refine below_set ?_ GE510.out) | exact HB.out)))
                (case aF => exact (fun k_ hk => ⟨Kd.fresh' (Kd.R_lt (by (with_reducible repeat (first | apply Kd.R_alloc | apply Kd.R_drewN | apply Kd.R_drew)); exact HO513.out)) k_ hk, Kd.fresh' (Kd.R_lt (by (with_reducible repeat (first | apply Kd.R_alloc | apply Kd.R_drewN | apply Kd.R_drew)); exact HO517.out)) k_ hk, Kd.freshB (g := gb510) (o := .cells #[.int .i64 t504, .int .i64 t505, .slice Ao20 t506.length co20] 24 (0, 0)) (by (with_reducible repeat (first | refine blk_drewN ?_ _ | refine blk_drew ?_ | refine blk_alloc ?_ _)); exact BK510.out) k_ hk, IsS48.fresh (by repeat (first | (with_reducible first | exact HI501.out | apply IsS48.alloc | apply IsS48.drewN | apply IsS48.drew | apply IsS48.set_1 | refine IsS48.far ?_ NB501_510.out _) | exact HI501.out)) k_ hk⟩))
                (case aO => exact (by (with_reducible repeat (first | apply Kd.N_alloc | apply Kd.N_drewN | apply Kd.N_drew)); exact Kd.N_mono HO_7.out (fun _ hk => ⟨hk.2.1, ⟨hk.2.2.1, ⟨hk.2.2.2.2.2, hk.2.2.2.2.1⟩⟩⟩)))
                (case aS => exact (below_size (by repeat (first | (with_reducible first | exact HB.out | apply below_alloc | apply pw_below_drewN | apply below_drew1 | refine below_set ?_ (IsS48.ge HI501.out) | refine below_set ?_ GE510.out) | exact HB.out))))
                (case aL => have := LMc15.out; omega)
                intro v522 w30 ho hb hg hat
                rw [← Ny521.out] at ho
                have n0_ := Aside0.mk (IsS48.grown (show IsS48 w _ g501 t499 t509 from by repeat (first | (with_reducible first | exact HI501.out | apply IsS48.alloc | apply IsS48.drewN | apply IsS48.drew | apply IsS48.set_1 | refine IsS48.far ?_ NB501_510.out _) | exact HI501.out)) hg (IsS48.own_neN HI501.out HO_7.out (by decide)))
                have n1_ := Aside0.mk (Kd.R_over' (by (with_reducible repeat (first | apply Kd.R_alloc | apply Kd.R_drewN | apply Kd.R_drew)); exact HO508.out) (Kd.N_typed (by (with_reducible repeat (first | apply Kd.N_alloc | apply Kd.N_drewN | apply Kd.N_drew)); exact HO_7.out)) (by decide) hg)
                have n2_ := Aside0.mk (blk_grown (g := gb510) (o := .cells #[.int .i64 t504, .int .i64 t505, .slice Ao20 t506.length co20] 24 (0, 0)) (by (with_reducible repeat (first | refine blk_drewN ?_ _ | refine blk_drew ?_ | refine blk_alloc ?_ _)); exact BK510.out) hg (Kd.N_away HO_7.out (fun _ hk => hk.2.2.2.2.2)))
                have n3_ := Aside0.mk (Kd.R_over' (by (with_reducible repeat (first | apply Kd.R_alloc | apply Kd.R_drewN | apply Kd.R_drew)); exact HO513.out) (Kd.N_typed (by (with_reducible repeat (first | apply Kd.N_alloc | apply Kd.N_drewN | apply Kd.N_drew)); exact HO_7.out)) (by decide) hg)
                have n4_ := Aside0.mk (Kd.R_over' (by (with_reducible repeat (first | apply Kd.R_alloc | apply Kd.R_drewN | apply Kd.R_drew)); exact HO517.out) (Kd.N_typed (by (with_reducible repeat (first | apply Kd.N_alloc | apply Kd.N_drewN | apply Kd.N_drew)); exact HO_7.out)) (by decide) hg)
                have n5_ := Aside0.mk (Kd.N_afterv (ok := (fun k_ => some k_ ≠ (.slice Ao23 t511.length co23 : Value).ownBlock ∧ some k_ ≠ (v516 : Value).ownBlock ∧ k_ ≠ g501 ∧ k_ ≠ gb510)) (by (with_reducible repeat (first | apply Kd.N_alloc | apply Kd.N_drewN | apply Kd.N_drew)); exact Kd.N_mono HO520.out (fun _ hk => ⟨⟨hk.1, ⟨hk.2.1, ⟨hk.2.2.2.1, hk.2.2.2.2⟩⟩⟩, hk.2.2.1⟩)) hg hat)
                have n6_ := Aside0.mk (hb)
                have n7_ := Aside0.mk (ho)
                clear HI501
                clear HO508
                clear BK510
                clear HO513
                clear HO517
                clear HO520
                clear HB
                clear HO_7
                have HI501 := n0_
                have HO508 := n1_
                have BK510 := n2_
                have HO513 := n3_
                have HO517 := n4_
                have HO520 := n5_
                have HB := n6_
                have HO523 := n7_
                clear n0_ n1_ n2_ n3_ n4_ n5_ n6_ n7_
                clear ho hb hg hat
                refine hK.out _ _ ⟨(blk_cell BK510.out 0).trans rfl, (blk_cell BK510.out 1).trans rfl, (blk_cell BK510.out 2).trans rfl⟩ (fun hHeld => ?_)
                clear hK K
                refine norm_ (a' := ?_) ?_ ?_
                rotate_left
                · show Act.put _ (some 48) _ = _
                  simp only [Act.put, List.setIfInBounds_toArray, List.set_cons_zero, List.set_cons_succ, i64_w, i32_w]
                  rfl
                refine pure_ (i := 7) (N := some 6) (v := ?_) (a' := ?_) #[true, true, true, true, true, true, true, true, false] rfl rfl (any_of HT_.out (by kernel_rfl)) (fun _ _ _ h => h) (Or.inl ⟨by rfl, ?_⟩) ?_ ?_
                rotate_left
                · intro w'
                  go_simp
                  with_reducible rfl
                rotate_left
                · simp only [Act.put, List.setIfInBounds_toArray, List.set_cons_zero, List.set_cons_succ, i64_w, i32_w]
                  rfl
                refine pure_ (i := 8) (N := some 7) (v := ?_) (a' := ?_) #[true, true, true, true, true, true, true, true, true] rfl rfl (any_of HT_.out (by kernel_rfl)) (fun _ _ _ h => h) (Or.inl ⟨by rfl, ?_⟩) ?_ ?_
                rotate_left
                · intro w'
                  go_simp
                  with_reducible rfl
                rotate_left
                · simp only [Act.put, List.setIfInBounds_toArray, List.set_cons_zero, List.set_cons_succ, i64_w, i32_w]
                  rfl
                refine done_ (done_of HT_.out (by kernel_rfl)) ?_
                try go_wp2
                go_roundg k1
                case measure => have := HK1.out; omega
                case rel => exact ⟨(y515), (y521), (wrap64 (x8_1 - 1)), (t509), (by first | rfl | (simp; done) | (simp [*]; done)), H', ⟨by have := HK1.out; omega⟩, ⟨by (with_reducible repeat (first | apply Kd.R_alloc | apply Kd.R_drewN | apply Kd.R_drew)); exact Kd.R_mono HO517.out (fun _ hk => trivial)⟩, ⟨by (with_reducible repeat (first | apply Kd.N_alloc | apply Kd.N_drewN | apply Kd.N_drew)); exact Kd.N_mono HO523.out (fun _ hk => ⟨hk.2.1, hk.2.2.2⟩)⟩, ⟨by repeat (first | (with_reducible first | exact HI501.out | apply IsS48.alloc | apply IsS48.drewN | apply IsS48.drew | apply IsS48.set_1 | refine IsS48.far ?_ NB501_510.out _) | exact HI501.out)⟩, ⟨by repeat (first | (with_reducible first | exact HB.out | apply below_alloc | apply pw_below_drewN | apply below_drew1 | refine below_set ?_ (IsS48.ge HI501.out) | refine below_set ?_ GE510.out) | exact HB.out)⟩⟩
              · rw [if_neg c15] at H
                exact absurd H (by simp)
            · rw [if_neg c14] at H
              exact absurd H (by simp)
          · rw [if_neg c13] at H
            have c13b0 : (t514 == 0) = false := beq_eq_false_iff_ne.mpr c13
            have c13b1 : (t514 != 0) = true := bne_iff_ne.mpr c13
            obtain rfl := Option.some.inj H
            exact absurd hr_.out (by decide)
        · rw [if_neg c10] at H
          have c10b0 : decide (0 < x8_1) = false := decide_eq_false c10
          clear c10
          replace H := Option.bind_eq_some_iff.mp H
          obtain ⟨⟨t524, t527, t528⟩, A320, H⟩ := H
          replace H : (if t527 = 0 then (if (t524.length : Int) = 0 then ((minecontrolref04_Same.f k1 t528 x7_1).bind fun t532 => (minecontrollaw04_TelegramBack.j1 k1 l1 (!t532))) else (minecontrollaw04_TelegramBack.j1 k1 l1 true)) else (minecontrollaw04_TelegramBack.j1 k1 l1 true)) = some r := H
          have A32 := Aside0.mk A320
          clear A320
          have HC33 := Aside0.mk H
          clear H
          obtain ⟨Ao34, co34, eo34⟩ := Kd.R_slice HO_6.out
          subst eo34
          go_upto_region 15 with (first | ((with_reducible refine gate_callee (f := 18) rfl ?_); refine goesL_ (some 52) rfl rfl Try.func18 (by kernel_rfl) rfl #[.agg #[.slice none 0 0, .int .i64 0], .slice Ao34 x6_1.length co34] rfl (by (try simp only [List.map_toArray, List.map_cons, List.map_nil]); first | done | rfl | (simp only [List.length_drop, List.length_take]; rfl)) ?_; (refine (telegram_Feed.calls k1 _ _ ([] : List Int) 0 _ _ x6_1 t524 t527 t528 _ ?side1 ?side2 ?side3 ?side4 A32.out).mono ?_); (case side1 => exact Kd.C_nil _ _); (case side2 => exact Nat.le_refl _); (case side3 => repeat (first | exact (Kd.R_reads' HO_6.out).2.2 | (with_reducible refine Kd.C_alloc ?_ _) | (with_reducible refine Kd.C_drewN ?_ _) | (with_reducible refine Kd.C_drew ?_))); (case side4 => exact (Kd.R_reads' HO_6.out).2.1); rintro e w35 ⟨v525, v529, rfl, ho0, ho1, hb⟩; refine ⟨_, rfl, ?_⟩; have n0_ := Aside0.mk (Kd.R_elder' (by (with_reducible repeat (first | apply Kd.R_alloc | apply Kd.R_drewN | apply Kd.R_drew)); exact HO_6.out) (Kd.R_base ho0) hb); have n1_ := Aside0.mk (Kd.N_mono (Kd.N_told (Kd.N_told (Kd.N_old (by (with_reducible repeat (first | apply Kd.N_alloc | apply Kd.N_drewN | apply Kd.N_drew)); exact HO_7.out) hb) (Kd.R_base ho0)) (Kd.S_base ho1)) (fun _ h_ => h_.1)); have n2_ := Aside0.mk (Kd.R_lower (Kd.R_new' ho0 (Kd.R_lt (by (with_reducible repeat (first | apply Kd.R_alloc | apply Kd.R_drewN | apply Kd.R_drew)); exact HO_6.out))) (below_size (by repeat (first | (with_reducible first | exact HB.out | apply below_alloc | apply pw_below_drewN | apply below_drew1 | refine below_set ?_ (IsS48.ge HI501.out)) | exact HB.out)))); have n3_ := Aside0.mk (Kd.N_lower (Kd.N_mono (ok' := fun k_ => some k_ ≠ (v525 : Value).ownBlock ∧ some k_ ≠ (.slice Ao34 x6_1.length co34 : Value).ownBlock ∧ some k_ ≠ (u7 : Value).ownBlock ∧ k_ ≠ g501) (Kd.S_N (Kd.S_bound ho1)) (fun k_ hk_ => ⟨hk_.1, (Kd.fresh' (Kd.R_lt (by (with_reducible repeat (first | apply Kd.R_alloc | apply Kd.R_drewN | apply Kd.R_drew)); exact HO_6.out)) k_ hk_.2.1), (Kd.fresh' (Kd.N_lt (by (with_reducible repeat (first | apply Kd.N_alloc | apply Kd.N_drewN | apply Kd.N_drew)); exact HO_7.out)) k_ hk_.2.1), (IsS48.fresh (by repeat (first | (with_reducible first | exact HI501.out | apply IsS48.alloc | apply IsS48.drewN | apply IsS48.drew | apply IsS48.set_1) | exact HI501.out)) k_ hk_.2.1)⟩)) (below_size (by repeat (first | (with_reducible first | exact HB.out | apply below_alloc | apply pw_below_drewN | apply below_drew1 | refine below_set ?_ (IsS48.ge HI501.out)) | exact HB.out)))); have n4_ := Aside0.mk (IsS48.below (by repeat (first | (with_reducible first | exact HI501.out | apply IsS48.alloc | apply IsS48.drewN | apply IsS48.drew | apply IsS48.set_1) | exact HI501.out)) hb); have n5_ := Aside0.mk (below_step (by repeat (first | (with_reducible first | exact HB.out | apply below_alloc | apply pw_below_drewN | apply below_drew1 | refine below_set ?_ (IsS48.ge HI501.out)) | exact HB.out)) hb); clear HO_6; clear HO_7; clear HI501; clear HB; have HO_6 := n0_; have HO_7 := n1_; have HO526 := n2_; have HO530 := n3_; have HI501 := n4_; have HB := n5_; clear n0_ n1_ n2_ n3_ n4_ n5_; (try clear hb); (try clear hb2); (try clear hge); (try clear hk); (try clear hi); (try clear ho0); (try clear ho1)) | ((with_reducible refine gate_dst (N := 12) rfl ?_); (try (refine gate_guard (by rfl) ?_; dsimp only)); refine box_event ?hg (N := 12) ?hd (cs := #[.slice none 0 0, .int .i64 0]) (t := 36) ?hr ?_; (case hd => rfl); (case hg => rfl); (case hr => first | (go_simp; done) | (go_simp; rfl)); intro gb531 hg w36 hbox hb; have n0_ := Aside0.mk (Kd.R_below (by (with_reducible repeat (first | apply Kd.R_alloc | apply Kd.R_drewN | apply Kd.R_drew)); exact HO_6.out) hb); have n1_ := Aside0.mk (Kd.N_below (Kd.N_elderB (by (with_reducible repeat (first | apply Kd.N_alloc | apply Kd.N_drewN | apply Kd.N_drew)); exact HO_7.out) gb531 (Nat.le_of_eq hg.symm)) hb); have n2_ := Aside0.mk (Kd.R_below (by (with_reducible repeat (first | apply Kd.R_alloc | apply Kd.R_drewN | apply Kd.R_drew)); exact HO526.out) hb); have n3_ := Aside0.mk (Kd.N_below (Kd.N_elderB (by (with_reducible repeat (first | apply Kd.N_alloc | apply Kd.N_drewN | apply Kd.N_drew)); exact HO530.out) gb531 (Nat.le_of_eq hg.symm)) hb); have n4_ := Aside0.mk (IsS48.below (by repeat (first | (with_reducible first | exact HI501.out | apply IsS48.alloc | apply IsS48.drewN | apply IsS48.drew | apply IsS48.set_1) | exact HI501.out)) hb); have n5_ := Aside0.mk (below_step (by repeat (first | (with_reducible first | exact HB.out | apply below_alloc | apply pw_below_drewN | apply below_drew1 | refine below_set ?_ (IsS48.ge HI501.out)) | exact HB.out)) hb); have n6_ := Aside0.mk (hbox); have n7_ := Aside0.mk ((by rw [hg]; exact (below_size (by repeat (first | (with_reducible first | exact HB.out | apply below_alloc | apply pw_below_drewN | apply below_drew1 | refine below_set ?_ (IsS48.ge HI501.out)) | exact HB.out))) : w.heap.size ≤ gb531)); have n8_ := Aside0.mk ((by rw [hg]; exact (below_size (by repeat (first | (with_reducible first | exact HB.out | apply below_alloc | apply pw_below_drewN | apply below_drew1 | refine below_set ?_ (IsS48.ge HI501.out)) | exact HB.out))) : w.heap.size ≤ gb531)); have n9_ := Aside0.mk ((by rw [hg]; exact Nat.ne_of_lt (IsS48.lt (show IsS48 w _ g501 t499 x502001_1 from by repeat (first | (with_reducible first | exact HI501.out | apply IsS48.alloc | apply IsS48.drewN | apply IsS48.drew | apply IsS48.set_1) | exact HI501.out))) : g501 ≠ gb531)); have n10_ := Aside0.mk ((by rw [hg]; exact Nat.ne_of_gt (IsS48.lt (show IsS48 w _ g501 t499 x502001_1 from by repeat (first | (with_reducible first | exact HI501.out | apply IsS48.alloc | apply IsS48.drewN | apply IsS48.drew | apply IsS48.set_1) | exact HI501.out))) : gb531 ≠ g501)); clear HO_6; clear HO_7; clear HO526; clear HO530; clear HI501; clear HB; have HO_6 := n0_; have HO_7 := n1_; have HO526 := n2_; have HO530 := n3_; have HI501 := n4_; have HB := n5_; have BK531 := n6_; have GW531 := n7_; have GE531 := n8_; have NB501_531 := n9_; have NB531_501 := n10_; clear n0_ n1_ n2_ n3_ n4_ n5_ n6_ n7_ n8_ n9_ n10_; clear hb hbox hg; obtain ⟨Ao37, co37, eo37⟩ := Kd.R_slice HO526.out; subst eo37; have hnb38 := NB531_501.out; have hnc38 := NB501_531.out; have hcz39_0 : w36.cell? ⟨gb531, 0, none⟩ = some (.slice none 0 0) := (blk_cell BK531.out 0).trans rfl; have hcz39_1 : w36.cell? ⟨gb531, 1, none⟩ = some (.int .i64 0) := (blk_cell BK531.out 1).trans rfl; have hfz39_0 := blk_frozen BK531.out 0; have hfz39_1 := blk_frozen BK531.out 1))
          (try simp only [Act.put, List.setIfInBounds_toArray, List.set_cons_zero, List.set_cons_succ])
          go_cut [69] (fun v69 wc => ∃ (kq : Nat) (x69_32 : Bool), v69 = .bool x69_32 ∧ Aside0 (minecontrollaw04_TelegramBack.j1 kq l1 x69_32 = some r) ∧ Aside0 (kq ≤ k1) ∧ Aside0 (Kd.R (Kd.int .u8) 5 wc w.heap.size (fun _ => True) (.slice Ao37 t524.length co37) t524) ∧ Aside0 (wc.heap[gb531]? = some (.cells #[(.slice Ao37 t524.length co37), .int .i64 t527] 36 (0, 0))) ∧ Aside0 (Below w.heap.size w wc))
          case first =>
            have H := HC33.out
            clear HC33
            by_cases c40 : t527 = 0
            · rw [if_pos c40] at H
              have c40b0 : (t527 == 0) = true := beq_iff_eq.mpr c40
              have c40b1 : (t527 != 0) = false := bne_eq_false_iff_eq.mpr c40
              clear c40
              (first | rw [c40b0] | (simp only [i64_w, i32_w]; rw [c40b0]) | skip)
              by_cases c41 : (t524.length : Int) = 0
              · rw [if_pos c41] at H
                have c41b0 : ((t524.length : Int) == 0) = true := beq_iff_eq.mpr c41
                have c41b1 : ((t524.length : Int) != 0) = false := bne_eq_false_iff_eq.mpr c41
                clear c41
                replace H := Option.bind_eq_some_iff.mp H
                obtain ⟨t532, A420, H⟩ := H
                replace H : (minecontrollaw04_TelegramBack.j1 k1 l1 (!t532)) = some r := H
                have A42 := Aside0.mk A420
                clear A420
                have H' := Aside0.mk H
                clear H
                have hnb43 := NB531_501.out
                have hnc43 := NB501_531.out
                have hcz44_0 : w36.cell? ⟨gb531, 0, none⟩ = some (.slice none 0 0) := (blk_cell BK531.out 0).trans rfl
                have hcz44_1 : w36.cell? ⟨gb531, 1, none⟩ = some (.int .i64 0) := (blk_cell BK531.out 1).trans rfl
                have hfz44_0 := blk_frozen BK531.out 0
                have hfz44_1 := blk_frozen BK531.out 1
                obtain ⟨Ao45, co45, eo45⟩ := Kd.N_slice HO530.out
                subst eo45
                obtain ⟨Ao46, co46, eo46⟩ := Kd.N_slice HO_7.out
                subst eo46
                go_wp2_with (first | (go_at_call 20; (with_reducible refine (minecontrolref04_Same.calls k1 _ _ t528 _ _ x7_1 t532 _ ?side1 ?side2 ?side3 ?side4 A42.out).mono ?_); (case side1 => refine (Kd.N_reads' (e := 24) (base := w.heap.size) (ok := fun k_ => ((some k_ ≠ (.slice Ao37 t524.length co37 : Value).ownBlock ∧ (some k_ ≠ (.slice Ao34 x6_1.length co34 : Value).ownBlock ∧ (some k_ ≠ (.slice Ao46 x7_1.length co46 : Value).ownBlock ∧ k_ ≠ g501))) ∧ k_ ≠ gb531)) (n := t528.length) (c := co45) ?_).2.2; exact (by (with_reducible repeat (first | apply Kd.N_alloc | apply Kd.N_drewN | apply Kd.N_drew)); exact (Kd.N_mono (Kd.N_far (p := ⟨gb531, 1, none⟩) (Kd.N_far (p := ⟨gb531, 0, none⟩) (Kd.N_mono HO530.out (fun k_ hk => (⟨hk, hk.2⟩ : _ ∧ k_ ≠ gb531))) (fun _ hk => hk.2) (.slice Ao37 t524.length co37)) (fun _ hk => hk.2) (.int .i64 t527)) (fun _ h_ => h_.1)))); (case side2 => exact (Kd.N_reads' HO530.out).2.1); (case side3 => refine (Kd.N_reads' (e := 24) (base := w.heap.size) (ok := fun k_ => ((((some k_ ≠ (.slice Ao34 x6_1.length co34 : Value).ownBlock ∧ k_ ≠ g501) ∧ some k_ ≠ (.slice Ao37 t524.length co37 : Value).ownBlock) ∧ some k_ ≠ (.slice Ao45 t528.length co45 : Value).ownBlock) ∧ k_ ≠ gb531)) (n := x7_1.length) (c := co46) ?_).2.2; exact (by (with_reducible repeat (first | apply Kd.N_alloc | apply Kd.N_drewN | apply Kd.N_drew)); exact (Kd.N_mono (Kd.N_far (p := ⟨gb531, 1, none⟩) (Kd.N_far (p := ⟨gb531, 0, none⟩) (Kd.N_mono HO_7.out (fun k_ hk => (⟨hk, hk.2⟩ : _ ∧ k_ ≠ gb531))) (fun _ hk => hk.2) (.slice Ao37 t524.length co37)) (fun _ hk => hk.2) (.int .i64 t527)) (fun _ h_ => h_.1)))); (case side4 => exact (Kd.N_reads' HO_7.out).2.1); rintro e w' ⟨rfl, ⟨nd, rfl⟩⟩))
                go_meet
                case rel => exact ⟨_, (!t532), (by first | rfl | (simp; done) | (simp [*]; done)), H', ⟨by have := HK1.out; first | omega | exact Nat.le_refl _⟩, ⟨by (with_reducible repeat (first | apply Kd.R_alloc | apply Kd.R_drewN | apply Kd.R_drew)); exact Kd.R_mono (Kd.R_far (p := ⟨gb531, 1, none⟩) (Kd.R_far (p := ⟨gb531, 0, none⟩) (Kd.R_types HO526.out BK531.out (by decide)) (fun _ hk => hk.2) (.slice Ao37 t524.length co37)) (fun _ hk => hk.2) (.int .i64 t527)) (fun _ hk => trivial)⟩, ⟨by (with_reducible repeat (first | refine blk_drewN ?_ _ | refine blk_drew ?_ | refine blk_alloc ?_ _)); refine blk_put (cs := #[.slice Ao37 t524.length co37, .int .i64 0]) ?_ 1 _ rfl; (with_reducible repeat (first | refine blk_drewN ?_ _ | refine blk_drew ?_ | refine blk_alloc ?_ _)); refine blk_put (cs := #[.slice none 0 0, .int .i64 0]) ?_ 0 _ rfl; (with_reducible repeat (first | refine blk_drewN ?_ _ | refine blk_drew ?_ | refine blk_alloc ?_ _)); exact BK531.out⟩, ⟨by repeat (first | (with_reducible first | exact HB.out | apply below_alloc | apply pw_below_drewN | apply below_drew1 | refine below_set ?_ (IsS48.ge HI501.out) | refine below_set ?_ GE531.out) | exact HB.out)⟩⟩
              · rw [if_neg c41] at H
                have c41b0 : ((t524.length : Int) == 0) = false := beq_eq_false_iff_ne.mpr c41
                have c41b1 : ((t524.length : Int) != 0) = true := bne_iff_ne.mpr c41
                have c41b2 : ¬ (t524 = []) := fun h_ => c41 (by rw [h_]; rfl)
                have H' := Aside0.mk H
                clear H
                have hnb47 := NB531_501.out
                have hnc47 := NB501_531.out
                have hcz48_0 : w36.cell? ⟨gb531, 0, none⟩ = some (.slice none 0 0) := (blk_cell BK531.out 0).trans rfl
                have hcz48_1 : w36.cell? ⟨gb531, 1, none⟩ = some (.int .i64 0) := (blk_cell BK531.out 1).trans rfl
                have hfz48_0 := blk_frozen BK531.out 0
                have hfz48_1 := blk_frozen BK531.out 1
                go_wp2
                go_meet
                case rel => exact ⟨_, (true), (by first | rfl | (simp; done) | (simp [*]; done)), H', ⟨by have := HK1.out; first | omega | exact Nat.le_refl _⟩, ⟨by (with_reducible repeat (first | apply Kd.R_alloc | apply Kd.R_drewN | apply Kd.R_drew)); exact Kd.R_mono (Kd.R_far (p := ⟨gb531, 1, none⟩) (Kd.R_far (p := ⟨gb531, 0, none⟩) (Kd.R_types HO526.out BK531.out (by decide)) (fun _ hk => hk.2) (.slice Ao37 t524.length co37)) (fun _ hk => hk.2) (.int .i64 t527)) (fun _ hk => trivial)⟩, ⟨by (with_reducible repeat (first | refine blk_drewN ?_ _ | refine blk_drew ?_ | refine blk_alloc ?_ _)); refine blk_put (cs := #[.slice Ao37 t524.length co37, .int .i64 0]) ?_ 1 _ rfl; (with_reducible repeat (first | refine blk_drewN ?_ _ | refine blk_drew ?_ | refine blk_alloc ?_ _)); refine blk_put (cs := #[.slice none 0 0, .int .i64 0]) ?_ 0 _ rfl; (with_reducible repeat (first | refine blk_drewN ?_ _ | refine blk_drew ?_ | refine blk_alloc ?_ _)); exact BK531.out⟩, ⟨by repeat (first | (with_reducible first | exact HB.out | apply below_alloc | apply pw_below_drewN | apply below_drew1 | refine below_set ?_ (IsS48.ge HI501.out) | refine below_set ?_ GE531.out) | exact HB.out)⟩⟩
            · rw [if_neg c40] at H
              have c40b0 : (t527 == 0) = false := beq_eq_false_iff_ne.mpr c40
              have c40b1 : (t527 != 0) = true := bne_iff_ne.mpr c40
              (first | rw [c40b0] | (simp only [i64_w, i32_w]; rw [c40b0]) | skip)
              have H' := Aside0.mk H
              clear H
              have hnb49 := NB531_501.out
              have hnc49 := NB501_531.out
              have hcz50_0 : w36.cell? ⟨gb531, 0, none⟩ = some (.slice none 0 0) := (blk_cell BK531.out 0).trans rfl
              have hcz50_1 : w36.cell? ⟨gb531, 1, none⟩ = some (.int .i64 0) := (blk_cell BK531.out 1).trans rfl
              have hfz50_0 := blk_frozen BK531.out 0
              have hfz50_1 := blk_frozen BK531.out 1
              go_wp2
              go_meet
              case rel => exact ⟨_, (true), (by first | rfl | (simp; done) | (simp [*]; done)), H', ⟨by have := HK1.out; first | omega | exact Nat.le_refl _⟩, ⟨by (with_reducible repeat (first | apply Kd.R_alloc | apply Kd.R_drewN | apply Kd.R_drew)); exact Kd.R_mono (Kd.R_far (p := ⟨gb531, 1, none⟩) (Kd.R_far (p := ⟨gb531, 0, none⟩) (Kd.R_types HO526.out BK531.out (by decide)) (fun _ hk => hk.2) (.slice Ao37 t524.length co37)) (fun _ hk => hk.2) (.int .i64 t527)) (fun _ hk => trivial)⟩, ⟨by (with_reducible repeat (first | refine blk_drewN ?_ _ | refine blk_drew ?_ | refine blk_alloc ?_ _)); refine blk_put (cs := #[.slice Ao37 t524.length co37, .int .i64 0]) ?_ 1 _ rfl; (with_reducible repeat (first | refine blk_drewN ?_ _ | refine blk_drew ?_ | refine blk_alloc ?_ _)); refine blk_put (cs := #[.slice none 0 0, .int .i64 0]) ?_ 0 _ rfl; (with_reducible repeat (first | refine blk_drewN ?_ _ | refine blk_drew ?_ | refine blk_alloc ?_ _)); exact BK531.out⟩, ⟨by repeat (first | (with_reducible first | exact HB.out | apply below_alloc | apply pw_below_drewN | apply below_drew1 | refine below_set ?_ (IsS48.ge HI501.out) | refine below_set ?_ GE531.out) | exact HB.out)⟩⟩
          case rest =>
            clear HC33
            try clear c1
            try clear c2
            try clear p2
            try clear c3
            try clear c3b0
            try clear c3b1
            try clear c4
            try clear c6
            try clear p6
            try clear c9
            try clear c10
            try clear c10b0
            try clear c11
            try clear c12
            try clear c13
            try clear c13b0
            try clear c13b1
            try clear c14
            try clear c15
            try clear c18
            try clear c21
            try clear c38
            try clear c40
            try clear c40b0
            try clear c40b1
            try clear c41
            try clear c41b0
            try clear c41b1
            try clear c41b2
            try clear c43
            try clear c47
            try clear c49
            try clear hcz19_0
            try clear hcz19_1
            try clear hcz19_2
            try clear hcz39_0
            try clear hcz39_1
            try clear hcz44_0
            try clear hcz44_1
            try clear hcz48_0
            try clear hcz48_1
            try clear hcz50_0
            try clear hcz50_1
            try clear hfz19_0
            try clear hfz19_1
            try clear hfz19_2
            try clear hfz39_0
            try clear hfz39_1
            try clear hfz44_0
            try clear hfz44_1
            try clear hfz48_0
            try clear hfz48_1
            try clear hfz50_0
            try clear hfz50_1
            try clear p2
            obtain ⟨kq, x69_32, rfl, HA, HJ32, HO_532000, BK531, HB⟩ := hcut
            cases kq with
            | zero => exact absurd HA.out (by simp [minecontrollaw04_TelegramBack.j1])
            | succ kj32 =>
              have H := HA.out
              clear HA
              simp only [minecontrollaw04_TelegramBack.j1] at H
              by_cases c51 : x69_32 = true
              · subst c51
                have H1 : (some false) = some r := by rw [if_pos rfl] at H; exact H
                clear H
                have H := H1
                clear H1
                obtain rfl := Option.some.inj H
                exact absurd hr_.out (by decide)
              · replace c51 := Bool.eq_false_iff.mpr c51
                subst c51
                have H1 : ((some (([1] : List Int) : List Int)).bind fun y533 => ((telegram_Write.f kj32 200 77 y533).bind fun bt537 => (if ([] : List Int).length + l1.length < 140737488355328 then ((some (([] : List Int) ++ l1 : List Int)).bind fun y541 => (if y541.length + bt537.1.length < 140737488355328 then (minecontrollaw04_TelegramBack.l1 kj32 (y541 ++ bt537.1) 0 200 77 y533) else (none))) else (none)))) = some r := by rw [if_neg (show ¬ (false = true) by decide)] at H; exact H
                clear H
                have H := H1
                clear H1
                obtain ⟨y533, hy533⟩ : ∃ y_ : List Int, y_ = (([1] : List Int)) := ⟨_, rfl⟩
                replace H : ((telegram_Write.f kj32 200 77 y533).bind fun bt537 => (if ([] : List Int).length + l1.length < 140737488355328 then ((some (([] : List Int) ++ l1 : List Int)).bind fun y541 => (if y541.length + bt537.1.length < 140737488355328 then (minecontrollaw04_TelegramBack.l1 kj32 (y541 ++ bt537.1) 0 200 77 y533) else (none))) else (none))) = some r := by first | (rw [hy533]; with_reducible exact H) | (have H2_ := (Option.bind_some _ _).symm.trans H; rw [hy533]; with_reducible exact H2_) | (have H2_ := (Option.bind_some _ _).symm.trans H; with_reducible exact H2_) | with_reducible exact H | (rw [hy533]; exact H) | exact H
                have Ny533 := Aside0.mk hy533
                clear hy533
                replace H := Option.bind_eq_some_iff.mp H
                obtain ⟨⟨t537, t540⟩, A520, H⟩ := H
                replace H : (if ([] : List Int).length + l1.length < 140737488355328 then ((some (([] : List Int) ++ l1 : List Int)).bind fun y541 => (if y541.length + t537.length < 140737488355328 then (minecontrollaw04_TelegramBack.l1 kj32 (y541 ++ t537) 0 200 77 y533) else (none))) else (none)) = some r := H
                have A52 := Aside0.mk A520
                clear A520
                by_cases c53 : ([] : List Int).length + l1.length < 140737488355328
                · rw [if_pos c53] at H
                  have LMc53 := Aside0.mk c53
                  clear c53
                  obtain ⟨y541, hy541⟩ : ∃ y_ : List Int, y_ = (([] : List Int) ++ l1) := ⟨_, rfl⟩
                  replace H : (if y541.length + t537.length < 140737488355328 then (minecontrollaw04_TelegramBack.l1 kj32 (y541 ++ t537) 0 200 77 y533) else (none)) = some r := by first | (rw [hy541]; with_reducible exact H) | (have H2_ := (Option.bind_some _ _).symm.trans H; rw [hy541]; with_reducible exact H2_) | (have H2_ := (Option.bind_some _ _).symm.trans H; with_reducible exact H2_) | with_reducible exact H | (rw [hy541]; exact H) | exact H
                  have Ny541 := Aside0.mk hy541
                  clear hy541
                  by_cases c54 : y541.length + t537.length < 140737488355328
                  · rw [if_pos c54] at H
                    have LMc54 := Aside0.mk c54
                    clear c54
                    obtain ⟨y544, hy544⟩ : ∃ y_ : List Int, y_ = (y541 ++ t537) := ⟨_, rfl⟩
                    replace H : (minecontrollaw04_TelegramBack.l1 kj32 y544 0 200 77 y533) = some r := by first | (rw [hy544]; with_reducible exact H) | (have H2_ := (Option.bind_some _ _).symm.trans H; rw [hy544]; with_reducible exact H2_) | (have H2_ := (Option.bind_some _ _).symm.trans H; with_reducible exact H2_) | with_reducible exact H | (rw [hy544]; exact H) | exact H
                    have Ny544 := Aside0.mk hy544
                    clear hy544
                    have H' := Aside0.mk H
                    clear H
                    go_wp2_with (first | ((with_reducible refine gate_dst (N := 70) rfl ?_); (try (refine gate_guard (by rfl) ?_; dsimp only)); refine Kd.R_lit (Kd.int .u8) _ 5 ?hg (N := 70) ?hd (xs := ([1] : List Int)) (inner := [.int .u8 1]) (ok := fun _ => True) (okp := fun _ => True) ?hr ?hp (fun _ hk => hk) trivial (Below.refl _ _) (Nat.le_refl _) (by simp) ?_; (case hd => rfl); (case hg => rfl); (case hr => first | (go_simp; done) | (go_simp; rfl)); (case hp => exact (Reps.one (show Kd.M (Kd.int .u8) _ _ _ 1 [.int .u8 1] from rfl) (Reps.none _ _))); intro v534 w55 ho56 hb hg_ hnew_; clear hg_ hnew_; (first | rw [← Ny533.out] at ho56 | (simp only [Int.reduceToNat] at ho56; rw [← Ny533.out] at ho56)); have n0_ := Aside0.mk (Kd.R_elder' (by (with_reducible repeat (first | apply Kd.R_alloc | apply Kd.R_drewN | apply Kd.R_drew)); exact HO_532000.out) (Kd.R_base ho56) hb); have n1_ := Aside0.mk (Kd.R_lower (Kd.R_new' ho56 (Kd.R_lt (by (with_reducible repeat (first | apply Kd.R_alloc | apply Kd.R_drewN | apply Kd.R_drew)); exact HO_532000.out))) (below_size (by repeat (first | (with_reducible first | exact HB.out | apply below_alloc | apply pw_below_drewN | apply below_drew1 | refine below_set ?_ GE531.out) | exact HB.out)))); have n2_ := Aside0.mk (blk_below (g := gb531) (o := .cells #[.slice Ao37 t524.length co37, .int .i64 t527] 36 (0, 0)) (by (with_reducible repeat (first | refine blk_drewN ?_ _ | refine blk_drew ?_ | refine blk_alloc ?_ _)); exact BK531.out) hb); have n3_ := Aside0.mk (below_step (by repeat (first | (with_reducible first | exact HB.out | apply below_alloc | apply pw_below_drewN | apply below_drew1 | refine below_set ?_ GE531.out) | exact HB.out)) hb); clear HO_532000; clear BK531; clear HB; have HO_532000 := n0_; have HO535 := n1_; have BK531 := n2_; have HB := n3_; clear n0_ n1_ n2_ n3_; clear hb ho56; obtain ⟨Ao57, co57, eo57⟩ := Kd.R_slice HO535.out; subst eo57) | ((with_reducible refine gate_dst (N := 14) rfl ?_); (try (refine gate_guard (by rfl) ?_; dsimp only)); refine box_event ?hg (N := 14) ?hd (cs := #[.int .i64 0, .int .i64 0, .slice none 0 0]) (t := 24) ?hr ?_; (case hd => rfl); (case hg => rfl); (case hr => first | (go_simp; done) | (go_simp; rfl)); intro gb536 hg w58 hbox hb; have n0_ := Aside0.mk (Kd.R_below (by (with_reducible repeat (first | apply Kd.R_alloc | apply Kd.R_drewN | apply Kd.R_drew)); exact HO_532000.out) hb); have n1_ := Aside0.mk (Kd.R_below (by (with_reducible repeat (first | apply Kd.R_alloc | apply Kd.R_drewN | apply Kd.R_drew)); exact HO535.out) hb); have n2_ := Aside0.mk (blk_below (g := gb531) (o := .cells #[.slice Ao37 t524.length co37, .int .i64 t527] 36 (0, 0)) (by (with_reducible repeat (first | refine blk_drewN ?_ _ | refine blk_drew ?_ | refine blk_alloc ?_ _)); exact BK531.out) hb); have n3_ := Aside0.mk (below_step (by repeat (first | (with_reducible first | exact HB.out | apply below_alloc | apply pw_below_drewN | apply below_drew1 | refine below_set ?_ GE531.out) | exact HB.out)) hb); have n4_ := Aside0.mk (hbox); have n5_ := Aside0.mk ((by rw [hg]; exact (below_size (by repeat (first | (with_reducible first | exact HB.out | apply below_alloc | apply pw_below_drewN | apply below_drew1 | refine below_set ?_ GE531.out) | exact HB.out))) : w.heap.size ≤ gb536)); have n6_ := Aside0.mk ((by rw [hg]; exact (below_size (by repeat (first | (with_reducible first | exact HB.out | apply below_alloc | apply pw_below_drewN | apply below_drew1 | refine below_set ?_ GE531.out) | exact HB.out))) : w.heap.size ≤ gb536)); have n7_ := Aside0.mk ((by rw [hg]; exact Nat.ne_of_lt (blk_lt (g := gb531) (o := .cells #[.slice Ao37 t524.length co37, .int .i64 t527] 36 (0, 0)) (by (with_reducible repeat (first | refine blk_drewN ?_ _ | refine blk_drew ?_ | refine blk_alloc ?_ _)); exact BK531.out)) : gb531 ≠ gb536)); have n8_ := Aside0.mk ((by rw [hg]; exact Nat.ne_of_gt (blk_lt (g := gb531) (o := .cells #[.slice Ao37 t524.length co37, .int .i64 t527] 36 (0, 0)) (by (with_reducible repeat (first | refine blk_drewN ?_ _ | refine blk_drew ?_ | refine blk_alloc ?_ _)); exact BK531.out)) : gb536 ≠ gb531)); clear HO_532000; clear HO535; clear BK531; clear HB; have HO_532000 := n0_; have HO535 := n1_; have BK531 := n2_; have HB := n3_; have BK536 := n4_; have GW536 := n5_; have GE536 := n6_; have NB531_536 := n7_; have NB536_531 := n8_; clear n0_ n1_ n2_ n3_ n4_ n5_ n6_ n7_ n8_; clear hb hbox hg; have hnb59 := NB536_531.out; have hnc59 := NB531_536.out; have hcz60_0 : w58.cell? ⟨gb536, 0, none⟩ = some (.int .i64 0) := (blk_cell BK536.out 0).trans rfl; have hcz60_1 : w58.cell? ⟨gb536, 1, none⟩ = some (.int .i64 0) := (blk_cell BK536.out 1).trans rfl; have hcz60_2 : w58.cell? ⟨gb536, 2, none⟩ = some (.slice none 0 0) := (blk_cell BK536.out 2).trans rfl; have hfz60_0 := blk_frozen BK536.out 0; have hfz60_1 := blk_frozen BK536.out 1; have hfz60_2 := blk_frozen BK536.out 2) | ((with_reducible refine gate_callee (f := 12) rfl ?_); refine goesL_ (some 74) rfl rfl Try.func12 (by kernel_rfl) rfl #[.agg #[.int .i64 200, .int .i64 77, .slice Ao57 y533.length co57]] rfl (by (try simp only [List.map_toArray, List.map_cons, List.map_nil]); first | done | rfl | (simp only [List.length_drop, List.length_take]; rfl)) ?_; (with_reducible refine (telegram_Write.calls kj32 200 77 _ _ y533 t537 t540 _ ?side1 ?side2 A52.out).mono ?_); (case side1 => refine (Kd.R_reads' (e := 5) (base := w.heap.size) (ok := fun k_ => (True ∧ some k_ ≠ (.slice Ao37 t524.length co37 : Value).ownBlock)) (n := y533.length) (c := co57) ?_).2.2; exact (by (with_reducible repeat (first | apply Kd.R_alloc | apply Kd.R_drewN | apply Kd.R_drew)); exact (Kd.R_mono (Kd.R_far (p := ⟨gb536, 2, none⟩) (Kd.R_far (p := ⟨gb536, 1, none⟩) (Kd.R_far (p := ⟨gb536, 0, none⟩) (Kd.R_types HO535.out BK536.out (by decide)) (fun _ hk => hk.2) (.int .i64 200)) (fun _ hk => hk.2) (.int .i64 77)) (fun _ hk => hk.2) (.slice Ao57 y533.length co57)) (fun _ h_ => h_.1)))); (case side2 => exact (Kd.R_reads' HO535.out).2.1); rintro e w61 ⟨v538, rfl, ho0, hb⟩; refine ⟨_, rfl, ?_⟩; have n0_ := Aside0.mk (Kd.R_elder' (by (with_reducible repeat (first | apply Kd.R_alloc | apply Kd.R_drewN | apply Kd.R_drew)); exact (Kd.R_mono (Kd.R_far (p := ⟨gb536, 2, none⟩) (Kd.R_far (p := ⟨gb536, 1, none⟩) (Kd.R_far (p := ⟨gb536, 0, none⟩) (Kd.R_types HO_532000.out BK536.out (by decide)) (fun _ hk => hk.2) (.int .i64 200)) (fun _ hk => hk.2) (.int .i64 77)) (fun _ hk => hk.2) (.slice Ao57 y533.length co57)) (fun _ h_ => h_.1))) (Kd.R_base ho0) hb); have n1_ := Aside0.mk (Kd.R_elder' (by (with_reducible repeat (first | apply Kd.R_alloc | apply Kd.R_drewN | apply Kd.R_drew)); exact (Kd.R_mono (Kd.R_far (p := ⟨gb536, 2, none⟩) (Kd.R_far (p := ⟨gb536, 1, none⟩) (Kd.R_far (p := ⟨gb536, 0, none⟩) (Kd.R_types HO535.out BK536.out (by decide)) (fun _ hk => hk.2) (.int .i64 200)) (fun _ hk => hk.2) (.int .i64 77)) (fun _ hk => hk.2) (.slice Ao57 y533.length co57)) (fun _ h_ => h_.1))) (Kd.R_base ho0) hb); have n2_ := Aside0.mk (Kd.R_lower (Kd.R_new' (Kd.R_new' ho0 (Kd.R_lt (by (with_reducible repeat (first | apply Kd.R_alloc | apply Kd.R_drewN | apply Kd.R_drew)); exact (Kd.R_mono (Kd.R_far (p := ⟨gb536, 2, none⟩) (Kd.R_far (p := ⟨gb536, 1, none⟩) (Kd.R_far (p := ⟨gb536, 0, none⟩) (Kd.R_types HO_532000.out BK536.out (by decide)) (fun _ hk => hk.2) (.int .i64 200)) (fun _ hk => hk.2) (.int .i64 77)) (fun _ hk => hk.2) (.slice Ao57 y533.length co57)) (fun _ h_ => h_.1))))) (Kd.R_lt (by (with_reducible repeat (first | apply Kd.R_alloc | apply Kd.R_drewN | apply Kd.R_drew)); exact (Kd.R_mono (Kd.R_far (p := ⟨gb536, 2, none⟩) (Kd.R_far (p := ⟨gb536, 1, none⟩) (Kd.R_far (p := ⟨gb536, 0, none⟩) (Kd.R_types HO535.out BK536.out (by decide)) (fun _ hk => hk.2) (.int .i64 200)) (fun _ hk => hk.2) (.int .i64 77)) (fun _ hk => hk.2) (.slice Ao57 y533.length co57)) (fun _ h_ => h_.1))))) (below_size (by repeat (first | (with_reducible first | exact HB.out | apply below_alloc | apply pw_below_drewN | apply below_drew1 | refine below_set ?_ GE531.out | refine below_set ?_ GE536.out) | exact HB.out)))); have n3_ := Aside0.mk (blk_below (g := gb531) (o := .cells #[.slice Ao37 t524.length co37, .int .i64 t527] 36 (0, 0)) (by (with_reducible repeat (first | refine blk_drewN ?_ _ | refine blk_drew ?_ | refine blk_alloc ?_ _)); refine blk_far ?_ NB531_536.out _; (with_reducible repeat (first | refine blk_drewN ?_ _ | refine blk_drew ?_ | refine blk_alloc ?_ _)); refine blk_far ?_ NB531_536.out _; (with_reducible repeat (first | refine blk_drewN ?_ _ | refine blk_drew ?_ | refine blk_alloc ?_ _)); refine blk_far ?_ NB531_536.out _; (with_reducible repeat (first | refine blk_drewN ?_ _ | refine blk_drew ?_ | refine blk_alloc ?_ _)); exact BK531.out) hb); have n4_ := Aside0.mk (blk_below (g := gb536) (o := .cells #[.int .i64 200, .int .i64 77, .slice Ao57 y533.length co57] 24 (0, 0)) (by (with_reducible repeat (first | refine blk_drewN ?_ _ | refine blk_drew ?_ | refine blk_alloc ?_ _)); refine blk_put (cs := #[.int .i64 200, .int .i64 77, .slice none 0 0]) ?_ 2 _ rfl; (with_reducible repeat (first | refine blk_drewN ?_ _ | refine blk_drew ?_ | refine blk_alloc ?_ _)); refine blk_put (cs := #[.int .i64 200, .int .i64 0, .slice none 0 0]) ?_ 1 _ rfl; (with_reducible repeat (first | refine blk_drewN ?_ _ | refine blk_drew ?_ | refine blk_alloc ?_ _)); refine blk_put (cs := #[.int .i64 0, .int .i64 0, .slice none 0 0]) ?_ 0 _ rfl; (with_reducible repeat (first | refine blk_drewN ?_ _ | refine blk_drew ?_ | refine blk_alloc ?_ _)); exact BK536.out) hb); have n5_ := Aside0.mk (below_step (by repeat (first | (with_reducible first | exact HB.out | apply below_alloc | apply pw_below_drewN | apply below_drew1 | refine below_set ?_ GE531.out | refine below_set ?_ GE536.out) | exact HB.out)) hb); clear HO_532000; clear HO535; clear BK531; clear BK536; clear HB; have HO_532000 := n0_; have HO535 := n1_; have HO539 := n2_; have BK531 := n3_; have BK536 := n4_; have HB := n5_; clear n0_ n1_ n2_ n3_ n4_ n5_; (try clear hb); (try clear hb2); (try clear hge); (try clear hk); (try clear hi); (try clear ho0)) | ((with_reducible refine gate_builtin (b := .append) (xs := #[.const (.slice none 0 0), .tmp 77]) rfl ?_); (try (refine gate_guard (by rfl) ?_; dsimp only)); at_builtin; refine Kd.R_append_rows (Kd.int .u8) (w0 := w) w.heap.size rfl (.const (.slice none 0 0)) (.tmp 77) 22 5 (.int .u8 0) 1 rfl Try.underlying22 info5 rfl (by decide) (by omega) (.slice none 0 0) ([] : List Int) l1 _ _ _ (fun k_ => some k_ ≠ (.slice Ao37 t524.length co37 : Value).ownBlock ∧ some k_ ≠ (.slice Ao57 y533.length co57 : Value).ownBlock ∧ some k_ ≠ (v538 : Value).ownBlock) (fun _ => False) rfl rfl ?aO ?aR (fun _ _ h => h) (fun _ h => h.elim) ?aF ?aB ?aS ?aL ?_; (case aR => repeat (first | exact (Kd.C_below HR1.out HB.out) | (with_reducible refine Kd.C_alloc ?_ _) | (with_reducible refine Kd.C_drewN ?_ _) | (with_reducible refine Kd.C_drew ?_))); (case aB => exact (by repeat (first | (with_reducible first | exact HB.out | apply below_alloc | apply pw_below_drewN | apply below_drew1 | refine below_set ?_ GE531.out | refine below_set ?_ GE536.out) | exact HB.out))); (case aF => exact (fun k_ hk => ⟨Kd.fresh' (Kd.R_lt (by (with_reducible repeat (first | apply Kd.R_alloc | apply Kd.R_drewN | apply Kd.R_drew)); exact HO_532000.out)) k_ hk, Kd.fresh' (Kd.R_lt (by (with_reducible repeat (first | apply Kd.R_alloc | apply Kd.R_drewN | apply Kd.R_drew)); exact HO535.out)) k_ hk, Kd.fresh' (Kd.R_lt (by (with_reducible repeat (first | apply Kd.R_alloc | apply Kd.R_drewN | apply Kd.R_drew)); exact HO539.out)) k_ hk⟩)); (case aO => exact ((Kd.R_nil _ _ _ _ (fun k_ => some k_ ≠ (.slice Ao37 t524.length co37 : Value).ownBlock ∧ some k_ ≠ (.slice Ao57 y533.length co57 : Value).ownBlock ∧ some k_ ≠ (v538 : Value).ownBlock)))); (case aS => exact (below_size (by repeat (first | (with_reducible first | exact HB.out | apply below_alloc | apply pw_below_drewN | apply below_drew1 | refine below_set ?_ GE531.out | refine below_set ?_ GE536.out) | exact HB.out)))); (case aL => have := LMc53.out; omega); intro v542 w62 ho hb hg hat; rw [← Ny541.out] at ho; have n0_ := Aside0.mk (Kd.R_after (Kd.R_apart_nil (by (with_reducible repeat (first | apply Kd.R_alloc | apply Kd.R_drewN | apply Kd.R_drew)); exact HO_532000.out)) hg hat); have n1_ := Aside0.mk (blk_grown (g := gb531) (o := .cells #[.slice Ao37 t524.length co37, .int .i64 t527] 36 (0, 0)) (by (with_reducible repeat (first | refine blk_drewN ?_ _ | refine blk_drew ?_ | refine blk_alloc ?_ _)); exact BK531.out) hg (by simp [Value.ownBlock])); have n2_ := Aside0.mk (Kd.R_after (Kd.R_apart_nil (by (with_reducible repeat (first | apply Kd.R_alloc | apply Kd.R_drewN | apply Kd.R_drew)); exact HO535.out)) hg hat); have n3_ := Aside0.mk (blk_grown (g := gb536) (o := .cells #[.int .i64 200, .int .i64 77, .slice Ao57 y533.length co57] 24 (0, 0)) (by (with_reducible repeat (first | refine blk_drewN ?_ _ | refine blk_drew ?_ | refine blk_alloc ?_ _)); exact BK536.out) hg (by simp [Value.ownBlock])); have n4_ := Aside0.mk (Kd.R_after (Kd.R_apart_nil (by (with_reducible repeat (first | apply Kd.R_alloc | apply Kd.R_drewN | apply Kd.R_drew)); exact HO539.out)) hg hat); have n5_ := Aside0.mk (hb); have n6_ := Aside0.mk (ho); clear HO_532000; clear BK531; clear HO535; clear BK536; clear HO539; clear HB; have HO_532000 := n0_; have BK531 := n1_; have HO535 := n2_; have BK536 := n3_; have HO539 := n4_; have HB := n5_; have HO543 := n6_; clear n0_ n1_ n2_ n3_ n4_ n5_ n6_; clear ho hb hg hat; obtain ⟨Ao64, co64, eo64⟩ := Kd.R_slice HO539.out; subst eo64) | ((with_reducible refine gate_builtin (b := .append) (xs := #[.tmp 78, .tmp 79]) rfl ?_); (try (refine gate_guard (by rfl) ?_; dsimp only)); at_builtin; refine Kd.R_append_rows (Kd.int .u8) (w0 := w) w.heap.size rfl (.tmp 78) (.tmp 79) 22 5 (.int .u8 0) 1 rfl Try.underlying22 info5 rfl (by decide) (by omega) v542 y541 t537 _ _ _ (fun k_ => some k_ ≠ (.slice Ao37 t524.length co37 : Value).ownBlock ∧ some k_ ≠ (.slice Ao57 y533.length co57 : Value).ownBlock ∧ some k_ ≠ (.slice Ao64 t537.length co64 : Value).ownBlock) (fun _ => False) rfl rfl ?aO ?aR (fun _ _ h => h) (fun _ h => h.elim) ?aF ?aB ?aS ?aL ?_; (case aR => repeat (first | exact (Kd.R_reads' HO539.out).2.2 | (with_reducible refine Kd.C_alloc ?_ _) | (with_reducible refine Kd.C_drewN ?_ _) | (with_reducible refine Kd.C_drew ?_))); (case aB => exact (by repeat (first | (with_reducible first | exact HB.out | apply below_alloc | apply pw_below_drewN | apply below_drew1 | refine below_set ?_ GE531.out | refine below_set ?_ GE536.out) | exact HB.out))); (case aF => exact (fun k_ hk => ⟨Kd.fresh' (Kd.R_lt (by (with_reducible repeat (first | apply Kd.R_alloc | apply Kd.R_drewN | apply Kd.R_drew)); exact HO_532000.out)) k_ hk, Kd.fresh' (Kd.R_lt (by (with_reducible repeat (first | apply Kd.R_alloc | apply Kd.R_drewN | apply Kd.R_drew)); exact HO535.out)) k_ hk, Kd.fresh' (Kd.R_lt (by (with_reducible repeat (first | apply Kd.R_alloc | apply Kd.R_drewN | apply Kd.R_drew)); exact HO539.out)) k_ hk⟩)); (case aO => exact (by (with_reducible repeat (first | apply Kd.R_alloc | apply Kd.R_drewN | apply Kd.R_drew)); exact HO543.out)); (case aS => exact (below_size (by repeat (first | (with_reducible first | exact HB.out | apply below_alloc | apply pw_below_drewN | apply below_drew1 | refine below_set ?_ GE531.out | refine below_set ?_ GE536.out) | exact HB.out)))); (case aL => have := LMc54.out; omega); intro v545 w63 ho hb hg hat; rw [← Ny544.out] at ho; have n0_ := Aside0.mk (Kd.R_after (ok := (fun k_ => some k_ ≠ (.slice Ao57 y533.length co57 : Value).ownBlock ∧ some k_ ≠ (.slice Ao64 t537.length co64 : Value).ownBlock)) (by (with_reducible repeat (first | apply Kd.R_alloc | apply Kd.R_drewN | apply Kd.R_drew)); exact Kd.R_mono HO_532000.out (fun _ hk => ⟨⟨hk.1.1.2, hk.1.2⟩, hk.2⟩)) hg hat); have n1_ := Aside0.mk (blk_grown (g := gb531) (o := .cells #[.slice Ao37 t524.length co37, .int .i64 t527] 36 (0, 0)) (by (with_reducible repeat (first | refine blk_drewN ?_ _ | refine blk_drew ?_ | refine blk_alloc ?_ _)); exact BK531.out) hg (Kd.R_ne HO543.out BK531.out (by decide))); have n2_ := Aside0.mk (Kd.R_after (ok := (fun k_ => some k_ ≠ (.slice Ao37 t524.length co37 : Value).ownBlock ∧ some k_ ≠ (.slice Ao64 t537.length co64 : Value).ownBlock)) (by (with_reducible repeat (first | apply Kd.R_alloc | apply Kd.R_drewN | apply Kd.R_drew)); exact Kd.R_mono HO535.out (fun _ hk => ⟨⟨hk.1.1.2, hk.1.2⟩, hk.2⟩)) hg hat); have n3_ := Aside0.mk (blk_grown (g := gb536) (o := .cells #[.int .i64 200, .int .i64 77, .slice Ao57 y533.length co57] 24 (0, 0)) (by (with_reducible repeat (first | refine blk_drewN ?_ _ | refine blk_drew ?_ | refine blk_alloc ?_ _)); exact BK536.out) hg (Kd.R_ne HO543.out BK536.out (by decide))); have n4_ := Aside0.mk (Kd.R_after (ok := (fun k_ => some k_ ≠ (.slice Ao37 t524.length co37 : Value).ownBlock ∧ some k_ ≠ (.slice Ao57 y533.length co57 : Value).ownBlock)) (by (with_reducible repeat (first | apply Kd.R_alloc | apply Kd.R_drewN | apply Kd.R_drew)); exact Kd.R_mono HO539.out (fun _ hk => ⟨⟨hk.1.1.2, hk.1.2⟩, hk.2⟩)) hg hat); have n5_ := Aside0.mk (hb); have n6_ := Aside0.mk (ho); clear HO_532000; clear BK531; clear HO535; clear BK536; clear HO539; clear HB; clear HO543; have HO_532000 := n0_; have BK531 := n1_; have HO535 := n2_; have BK536 := n3_; have HO539 := n4_; have HB := n5_; have HO546 := n6_; clear n0_ n1_ n2_ n3_ n4_ n5_ n6_; clear ho hb hg hat))
                    go_loopg [17, 18] kj32 (fun kq v17 v18 w' => ∃ (x17_3 : List Int) (x18_3 : Int), v18 = .int .i64 x18_3 ∧ Aside0 (minecontrollaw04_TelegramBack.l1 kq x17_3 x18_3 200 77 y533 = some r) ∧ Aside0 (kq ≤ kj32) ∧ Aside0 (Kd.R (Kd.int .u8) 5 w' w.heap.size (fun k_ => some k_ ≠ ((.slice Ao37 t524.length co37) : Value).ownBlock ∧ some k_ ≠ ((.slice Ao57 y533.length co57) : Value).ownBlock) v17 x17_3) ∧ Aside0 (Kd.R (Kd.int .u8) 5 w' w.heap.size (fun k_ => some k_ ≠ (v17 : Value).ownBlock ∧ some k_ ≠ ((.slice Ao57 y533.length co57) : Value).ownBlock) (.slice Ao37 t524.length co37) t524) ∧ Aside0 (Kd.R (Kd.int .u8) 5 w' w.heap.size (fun k_ => some k_ ≠ (v17 : Value).ownBlock ∧ some k_ ≠ ((.slice Ao37 t524.length co37) : Value).ownBlock) (.slice Ao57 y533.length co57) y533) ∧ Aside0 (w'.heap[gb531]? = some (.cells #[(.slice Ao37 t524.length co37), .int .i64 t527] 36 (0, 0))) ∧ Aside0 (w'.heap[gb536]? = some (.cells #[.int .i64 200, .int .i64 77, (.slice Ao57 y533.length co57)] 24 (0, 0))) ∧ Aside0 (Below w.heap.size w w'))
                    case atStart => exact ⟨(y544), (0), (by first | rfl | (simp; done) | (simp [*]; done)), H', ⟨Nat.le_refl _⟩, ⟨by (with_reducible repeat (first | apply Kd.R_alloc | apply Kd.R_drewN | apply Kd.R_drew)); exact Kd.R_mono HO546.out (fun _ hk => ⟨hk.1, hk.2.1⟩)⟩, ⟨by (with_reducible repeat (first | apply Kd.R_alloc | apply Kd.R_drewN | apply Kd.R_drew)); exact Kd.R_mono HO_532000.out (fun _ hk => ⟨hk.2, hk.1.1⟩)⟩, ⟨by (with_reducible repeat (first | apply Kd.R_alloc | apply Kd.R_drewN | apply Kd.R_drew)); exact Kd.R_mono HO535.out (fun _ hk => ⟨hk.2, hk.1.1⟩)⟩, ⟨by (with_reducible repeat (first | refine blk_drewN ?_ _ | refine blk_drew ?_ | refine blk_alloc ?_ _)); exact BK531.out⟩, ⟨by (with_reducible repeat (first | refine blk_drewN ?_ _ | refine blk_drew ?_ | refine blk_alloc ?_ _)); exact BK536.out⟩, ⟨by repeat (first | (with_reducible first | exact HB.out | apply below_alloc | apply pw_below_drewN | apply below_drew1 | refine below_set ?_ GE531.out | refine below_set ?_ GE536.out) | exact HB.out)⟩⟩
                    case round =>
                      clear H'
                      try clear c1
                      try clear c2
                      try clear p2
                      try clear c3
                      try clear c3b0
                      try clear c3b1
                      try clear c4
                      try clear c5
                      try clear c6
                      try clear p6
                      try clear c9
                      try clear c10
                      try clear c10b0
                      try clear c11
                      try clear c12
                      try clear c13
                      try clear c13b0
                      try clear c13b1
                      try clear c14
                      try clear c15
                      try clear c18
                      try clear c21
                      try clear c38
                      try clear c40
                      try clear c40b0
                      try clear c40b1
                      try clear c41
                      try clear c41b0
                      try clear c41b1
                      try clear c41b2
                      try clear c43
                      try clear c47
                      try clear c49
                      try clear c51
                      try clear c53
                      try clear c54
                      try clear c59
                      try clear p64
                      try clear hcz19_0
                      try clear hcz19_1
                      try clear hcz19_2
                      try clear hcz39_0
                      try clear hcz39_1
                      try clear hcz44_0
                      try clear hcz44_1
                      try clear hcz48_0
                      try clear hcz48_1
                      try clear hcz50_0
                      try clear hcz50_1
                      try clear hcz60_0
                      try clear hcz60_1
                      try clear hcz60_2
                      try clear hfz19_0
                      try clear hfz19_1
                      try clear hfz19_2
                      try clear hfz39_0
                      try clear hfz39_1
                      try clear hfz44_0
                      try clear hfz44_1
                      try clear hfz48_0
                      try clear hfz48_1
                      try clear hfz50_0
                      try clear hfz50_1
                      try clear hfz60_0
                      try clear hfz60_1
                      try clear hfz60_2
                      try clear p2
                      try clear p6
                      obtain ⟨x17_3, x18_3, rfl, HA, HK3, HO_17, HO_532000, HO_537002, BK531, BK536, HB⟩ := hrel
                      cases gk with
                      | zero => exact absurd HA.out (by simp [minecontrollaw04_TelegramBack.l1])
                      | succ k3 =>
                        have H := HA.out
                        clear HA
                        simp only [minecontrollaw04_TelegramBack.l1] at H
                        by_cases c65 : x18_3 < 75
                        · rw [if_pos c65] at H
                          have c65b0 : decide (x18_3 < 75) = true := decide_eq_true c65
                          clear c65
                          obtain ⟨y547, hy547⟩ : ∃ y_ : List Int, y_ = (([0] : List Int)) := ⟨_, rfl⟩
                          replace H : (if x17_3.length + y547.length < 140737488355328 then (minecontrollaw04_TelegramBack.l1 k3 (x17_3 ++ y547) (wrap64 (x18_3 + 1)) 200 77 y533) else (none)) = some r := by first | (rw [hy547]; with_reducible exact H) | (have H2_ := (Option.bind_some _ _).symm.trans H; rw [hy547]; with_reducible exact H2_) | (have H2_ := (Option.bind_some _ _).symm.trans H; with_reducible exact H2_) | with_reducible exact H | (rw [hy547]; exact H) | exact H
                          have Ny547 := Aside0.mk hy547
                          clear hy547
                          by_cases c66 : x17_3.length + y547.length < 140737488355328
                          · rw [if_pos c66] at H
                            have LMc66 := Aside0.mk c66
                            clear c66
                            obtain ⟨y550, hy550⟩ : ∃ y_ : List Int, y_ = (x17_3 ++ y547) := ⟨_, rfl⟩
                            replace H : (minecontrollaw04_TelegramBack.l1 k3 y550 (wrap64 (x18_3 + 1)) 200 77 y533) = some r := by first | (rw [hy550]; with_reducible exact H) | (have H2_ := (Option.bind_some _ _).symm.trans H; rw [hy550]; with_reducible exact H2_) | (have H2_ := (Option.bind_some _ _).symm.trans H; with_reducible exact H2_) | with_reducible exact H | (rw [hy550]; exact H) | exact H
                            have Ny550 := Aside0.mk hy550
                            clear hy550
                            have H' := Aside0.mk H
                            clear H
                            go_wp2_with (first | ((with_reducible refine gate_dst (N := 86) rfl ?_); (try (refine gate_guard (by rfl) ?_; dsimp only)); refine Kd.R_lit (Kd.int .u8) _ 5 ?hg (N := 86) ?hd (xs := ([0] : List Int)) (inner := [.int .u8 0]) (ok := fun _ => True) (okp := fun _ => True) ?hr ?hp (fun _ hk => hk) trivial (Below.refl _ _) (Nat.le_refl _) (by simp) ?_; (case hd => rfl); (case hg => rfl); (case hr => first | (go_simp; done) | (go_simp; rfl)); (case hp => exact (Reps.one (show Kd.M (Kd.int .u8) _ _ _ 0 [.int .u8 0] from rfl) (Reps.none _ _))); intro v548 w67 ho68 hb hg_ hnew_; clear hg_ hnew_; (first | rw [← Ny547.out] at ho68 | (simp only [Int.reduceToNat] at ho68; rw [← Ny547.out] at ho68)); have n0_ := Aside0.mk (Kd.R_elder' (by (with_reducible repeat (first | apply Kd.R_alloc | apply Kd.R_drewN | apply Kd.R_drew)); exact HO_17.out) (Kd.R_base ho68) hb); have n1_ := Aside0.mk (Kd.R_elder' (by (with_reducible repeat (first | apply Kd.R_alloc | apply Kd.R_drewN | apply Kd.R_drew)); exact HO_532000.out) (Kd.R_base ho68) hb); have n2_ := Aside0.mk (Kd.R_elder' (by (with_reducible repeat (first | apply Kd.R_alloc | apply Kd.R_drewN | apply Kd.R_drew)); exact HO_537002.out) (Kd.R_base ho68) hb); have n3_ := Aside0.mk (Kd.R_lower (Kd.R_new' (Kd.R_new' (Kd.R_new' ho68 (Kd.R_lt (by (with_reducible repeat (first | apply Kd.R_alloc | apply Kd.R_drewN | apply Kd.R_drew)); exact HO_17.out))) (Kd.R_lt (by (with_reducible repeat (first | apply Kd.R_alloc | apply Kd.R_drewN | apply Kd.R_drew)); exact HO_532000.out))) (Kd.R_lt (by (with_reducible repeat (first | apply Kd.R_alloc | apply Kd.R_drewN | apply Kd.R_drew)); exact HO_537002.out))) (below_size (by repeat (first | (with_reducible first | exact HB.out | apply below_alloc | apply pw_below_drewN | apply below_drew1 | refine below_set ?_ GE531.out | refine below_set ?_ GE536.out) | exact HB.out)))); have n4_ := Aside0.mk (blk_below (g := gb531) (o := .cells #[.slice Ao37 t524.length co37, .int .i64 t527] 36 (0, 0)) (by (with_reducible repeat (first | refine blk_drewN ?_ _ | refine blk_drew ?_ | refine blk_alloc ?_ _)); exact BK531.out) hb); have n5_ := Aside0.mk (blk_below (g := gb536) (o := .cells #[.int .i64 200, .int .i64 77, .slice Ao57 y533.length co57] 24 (0, 0)) (by (with_reducible repeat (first | refine blk_drewN ?_ _ | refine blk_drew ?_ | refine blk_alloc ?_ _)); exact BK536.out) hb); have n6_ := Aside0.mk (below_step (by repeat (first | (with_reducible first | exact HB.out | apply below_alloc | apply pw_below_drewN | apply below_drew1 | refine below_set ?_ GE531.out | refine below_set ?_ GE536.out) | exact HB.out)) hb); clear HO_17; clear HO_532000; clear HO_537002; clear BK531; clear BK536; clear HB; have HO_17 := n0_; have HO_532000 := n1_; have HO_537002 := n2_; have HO549 := n3_; have BK531 := n4_; have BK536 := n5_; have HB := n6_; clear n0_ n1_ n2_ n3_ n4_ n5_ n6_; clear hb ho68; obtain ⟨Ao70, co70, eo70⟩ := Kd.R_slice HO549.out; subst eo70) | ((with_reducible refine gate_builtin (b := .append) (xs := #[.tmp 85, .tmp 86]) rfl ?_); (try (refine gate_guard (by rfl) ?_; dsimp only)); at_builtin; refine Kd.R_append_rows (Kd.int .u8) (w0 := w) w.heap.size rfl (.tmp 85) (.tmp 86) 22 5 (.int .u8 0) 1 rfl Try.underlying22 info5 rfl (by decide) (by omega) u17 x17_3 y547 _ _ _ (fun k_ => some k_ ≠ (.slice Ao37 t524.length co37 : Value).ownBlock ∧ some k_ ≠ (.slice Ao57 y533.length co57 : Value).ownBlock ∧ some k_ ≠ (.slice Ao70 y547.length co70 : Value).ownBlock) (fun _ => False) rfl rfl ?aO ?aR (fun _ _ h => h) (fun _ h => h.elim) ?aF ?aB ?aS ?aL ?_; (case aR => repeat (first | exact (Kd.R_reads' HO549.out).2.2 | (with_reducible refine Kd.C_alloc ?_ _) | (with_reducible refine Kd.C_drewN ?_ _) | (with_reducible refine Kd.C_drew ?_))); (case aB => exact (by repeat (first | (with_reducible first | exact HB.out | apply below_alloc | apply pw_below_drewN | apply below_drew1 | refine below_set ?_ GE531.out | refine below_set ?_ GE536.out) | exact HB.out))); (case aF => exact (fun k_ hk => ⟨Kd.fresh' (Kd.R_lt (by (with_reducible repeat (first | apply Kd.R_alloc | apply Kd.R_drewN | apply Kd.R_drew)); exact HO_532000.out)) k_ hk, Kd.fresh' (Kd.R_lt (by (with_reducible repeat (first | apply Kd.R_alloc | apply Kd.R_drewN | apply Kd.R_drew)); exact HO_537002.out)) k_ hk, Kd.fresh' (Kd.R_lt (by (with_reducible repeat (first | apply Kd.R_alloc | apply Kd.R_drewN | apply Kd.R_drew)); exact HO549.out)) k_ hk⟩)); (case aO => exact (by (with_reducible repeat (first | apply Kd.R_alloc | apply Kd.R_drewN | apply Kd.R_drew)); exact Kd.R_mono HO_17.out (fun _ hk => ⟨hk.1.1, ⟨hk.1.2, hk.2⟩⟩))); (case aS => exact (below_size (by repeat (first | (with_reducible first | exact HB.out | apply below_alloc | apply pw_below_drewN | apply below_drew1 | refine below_set ?_ GE531.out | refine below_set ?_ GE536.out) | exact HB.out)))); (case aL => have := LMc66.out; omega); intro v551 w69 ho hb hg hat; rw [← Ny550.out] at ho; have n0_ := Aside0.mk (Kd.R_after (ok := (fun k_ => some k_ ≠ (.slice Ao57 y533.length co57 : Value).ownBlock ∧ some k_ ≠ (.slice Ao70 y547.length co70 : Value).ownBlock)) (by (with_reducible repeat (first | apply Kd.R_alloc | apply Kd.R_drewN | apply Kd.R_drew)); exact Kd.R_mono HO_532000.out (fun _ hk => ⟨⟨hk.1.2, hk.2⟩, hk.1.1⟩)) hg hat); have n1_ := Aside0.mk (Kd.R_after (ok := (fun k_ => some k_ ≠ (.slice Ao37 t524.length co37 : Value).ownBlock ∧ some k_ ≠ (.slice Ao70 y547.length co70 : Value).ownBlock)) (by (with_reducible repeat (first | apply Kd.R_alloc | apply Kd.R_drewN | apply Kd.R_drew)); exact Kd.R_mono HO_537002.out (fun _ hk => ⟨⟨hk.1.2, hk.2⟩, hk.1.1⟩)) hg hat); have n2_ := Aside0.mk (blk_grown (g := gb531) (o := .cells #[.slice Ao37 t524.length co37, .int .i64 t527] 36 (0, 0)) (by (with_reducible repeat (first | refine blk_drewN ?_ _ | refine blk_drew ?_ | refine blk_alloc ?_ _)); exact BK531.out) hg (Kd.R_ne HO_17.out BK531.out (by decide))); have n3_ := Aside0.mk (blk_grown (g := gb536) (o := .cells #[.int .i64 200, .int .i64 77, .slice Ao57 y533.length co57] 24 (0, 0)) (by (with_reducible repeat (first | refine blk_drewN ?_ _ | refine blk_drew ?_ | refine blk_alloc ?_ _)); exact BK536.out) hg (Kd.R_ne HO_17.out BK536.out (by decide))); have n4_ := Aside0.mk (Kd.R_after (ok := (fun k_ => some k_ ≠ (.slice Ao37 t524.length co37 : Value).ownBlock ∧ some k_ ≠ (.slice Ao57 y533.length co57 : Value).ownBlock)) (by (with_reducible repeat (first | apply Kd.R_alloc | apply Kd.R_drewN | apply Kd.R_drew)); exact Kd.R_mono HO549.out (fun _ hk => ⟨⟨hk.1.2, hk.2⟩, hk.1.1.2⟩)) hg hat); have n5_ := Aside0.mk (hb); have n6_ := Aside0.mk (ho); clear HO_532000; clear HO_537002; clear BK531; clear BK536; clear HO549; clear HB; clear HO_17; have HO_532000 := n0_; have HO_537002 := n1_; have BK531 := n2_; have BK536 := n3_; have HO549 := n4_; have HB := n5_; have HO552 := n6_; clear n0_ n1_ n2_ n3_ n4_ n5_ n6_; clear ho hb hg hat))
                            go_roundg k3
                            case measure => have := HK1.out; have := HJ32.out; have := HK3.out; omega
                            case rel => exact ⟨(y550), (wrap64 (x18_3 + 1)), (by first | rfl | (simp; done) | (simp [*]; done)), H', ⟨by have := HK1.out; have := HJ32.out; have := HK3.out; omega⟩, ⟨by (with_reducible repeat (first | apply Kd.R_alloc | apply Kd.R_drewN | apply Kd.R_drew)); exact Kd.R_mono HO552.out (fun _ hk => ⟨hk.1, hk.2.1⟩)⟩, ⟨by (with_reducible repeat (first | apply Kd.R_alloc | apply Kd.R_drewN | apply Kd.R_drew)); exact Kd.R_mono HO_532000.out (fun _ hk => ⟨hk.2, hk.1.1⟩)⟩, ⟨by (with_reducible repeat (first | apply Kd.R_alloc | apply Kd.R_drewN | apply Kd.R_drew)); exact Kd.R_mono HO_537002.out (fun _ hk => ⟨hk.2, hk.1.1⟩)⟩, ⟨by (with_reducible repeat (first | refine blk_drewN ?_ _ | refine blk_drew ?_ | refine blk_alloc ?_ _)); exact BK531.out⟩, ⟨by (with_reducible repeat (first | refine blk_drewN ?_ _ | refine blk_drew ?_ | refine blk_alloc ?_ _)); exact BK536.out⟩, ⟨by repeat (first | (with_reducible first | exact HB.out | apply below_alloc | apply pw_below_drewN | apply below_drew1 | refine below_set ?_ GE531.out | refine below_set ?_ GE536.out) | exact HB.out)⟩⟩
                          · rw [if_neg c66] at H
                            exact absurd H (by simp)
                        · rw [if_neg c65] at H
                          have c65b0 : decide (x18_3 < 75) = false := decide_eq_false c65
                          clear c65
                          replace H := Option.bind_eq_some_iff.mp H
                          obtain ⟨⟨t553, t556, t557⟩, A710, H⟩ := H
                          replace H : (minecontrollaw04_TelegramBack.l2 k3 t557 false 0 200 77 y533) = some r := H
                          have A71 := Aside0.mk A710
                          clear A710
                          have H' := Aside0.mk H
                          clear H
                          obtain ⟨Ao72, co72, eo72⟩ := Kd.R_slice HO_17.out
                          subst eo72
                          go_wp2_with (first | ((with_reducible refine gate_callee (f := 18) rfl ?_); refine goesL_ (some 91) rfl rfl Try.func18 (by kernel_rfl) rfl #[.agg #[.slice none 0 0, .int .i64 0], .slice Ao72 x17_3.length co72] rfl (by (try simp only [List.map_toArray, List.map_cons, List.map_nil]); first | done | rfl | (simp only [List.length_drop, List.length_take]; rfl)) ?_; (refine (telegram_Feed.calls k3 _ _ ([] : List Int) 0 _ _ x17_3 t553 t556 t557 _ ?side1 ?side2 ?side3 ?side4 A71.out).mono ?_); (case side1 => exact Kd.C_nil _ _); (case side2 => exact Nat.le_refl _); (case side3 => repeat (first | exact (Kd.R_reads' HO_17.out).2.2 | (with_reducible refine Kd.C_alloc ?_ _) | (with_reducible refine Kd.C_drewN ?_ _) | (with_reducible refine Kd.C_drew ?_))); (case side4 => exact (Kd.R_reads' HO_17.out).2.1); rintro e w73 ⟨v554, v558, rfl, ho0, ho1, hb⟩; refine ⟨_, rfl, ?_⟩; have n0_ := Aside0.mk (Kd.R_elder' (by (with_reducible repeat (first | apply Kd.R_alloc | apply Kd.R_drewN | apply Kd.R_drew)); exact HO_17.out) (Kd.R_base ho0) hb); have n1_ := Aside0.mk (Kd.R_elder' (by (with_reducible repeat (first | apply Kd.R_alloc | apply Kd.R_drewN | apply Kd.R_drew)); exact HO_532000.out) (Kd.R_base ho0) hb); have n2_ := Aside0.mk (Kd.R_elder' (by (with_reducible repeat (first | apply Kd.R_alloc | apply Kd.R_drewN | apply Kd.R_drew)); exact HO_537002.out) (Kd.R_base ho0) hb); have n3_ := Aside0.mk (Kd.R_lower (Kd.R_new' (Kd.R_new' (Kd.R_new' ho0 (Kd.R_lt (by (with_reducible repeat (first | apply Kd.R_alloc | apply Kd.R_drewN | apply Kd.R_drew)); exact HO_17.out))) (Kd.R_lt (by (with_reducible repeat (first | apply Kd.R_alloc | apply Kd.R_drewN | apply Kd.R_drew)); exact HO_532000.out))) (Kd.R_lt (by (with_reducible repeat (first | apply Kd.R_alloc | apply Kd.R_drewN | apply Kd.R_drew)); exact HO_537002.out))) (below_size (by repeat (first | (with_reducible first | exact HB.out | apply below_alloc | apply pw_below_drewN | apply below_drew1 | refine below_set ?_ GE531.out | refine below_set ?_ GE536.out) | exact HB.out)))); have n4_ := Aside0.mk (Kd.N_lower (Kd.N_mono (ok' := fun k_ => some k_ ≠ (v554 : Value).ownBlock ∧ some k_ ≠ (.slice Ao72 x17_3.length co72 : Value).ownBlock ∧ some k_ ≠ (.slice Ao37 t524.length co37 : Value).ownBlock ∧ some k_ ≠ (.slice Ao57 y533.length co57 : Value).ownBlock ∧ k_ ≠ gb531 ∧ k_ ≠ gb536) (Kd.S_N (Kd.S_bound ho1)) (fun k_ hk_ => ⟨hk_.1, (Kd.fresh' (Kd.R_lt (by (with_reducible repeat (first | apply Kd.R_alloc | apply Kd.R_drewN | apply Kd.R_drew)); exact HO_17.out)) k_ hk_.2.1), (Kd.fresh' (Kd.R_lt (by (with_reducible repeat (first | apply Kd.R_alloc | apply Kd.R_drewN | apply Kd.R_drew)); exact HO_532000.out)) k_ hk_.2.1), (Kd.fresh' (Kd.R_lt (by (with_reducible repeat (first | apply Kd.R_alloc | apply Kd.R_drewN | apply Kd.R_drew)); exact HO_537002.out)) k_ hk_.2.1), (Kd.freshB (g := gb531) (o := .cells #[.slice Ao37 t524.length co37, .int .i64 t527] 36 (0, 0)) (by (with_reducible repeat (first | refine blk_drewN ?_ _ | refine blk_drew ?_ | refine blk_alloc ?_ _)); exact BK531.out) k_ hk_.2.1), (Kd.freshB (g := gb536) (o := .cells #[.int .i64 200, .int .i64 77, .slice Ao57 y533.length co57] 24 (0, 0)) (by (with_reducible repeat (first | refine blk_drewN ?_ _ | refine blk_drew ?_ | refine blk_alloc ?_ _)); exact BK536.out) k_ hk_.2.1)⟩)) (below_size (by repeat (first | (with_reducible first | exact HB.out | apply below_alloc | apply pw_below_drewN | apply below_drew1 | refine below_set ?_ GE531.out | refine below_set ?_ GE536.out) | exact HB.out)))); have n5_ := Aside0.mk (blk_below (g := gb531) (o := .cells #[.slice Ao37 t524.length co37, .int .i64 t527] 36 (0, 0)) (by (with_reducible repeat (first | refine blk_drewN ?_ _ | refine blk_drew ?_ | refine blk_alloc ?_ _)); exact BK531.out) hb); have n6_ := Aside0.mk (blk_below (g := gb536) (o := .cells #[.int .i64 200, .int .i64 77, .slice Ao57 y533.length co57] 24 (0, 0)) (by (with_reducible repeat (first | refine blk_drewN ?_ _ | refine blk_drew ?_ | refine blk_alloc ?_ _)); exact BK536.out) hb); have n7_ := Aside0.mk (below_step (by repeat (first | (with_reducible first | exact HB.out | apply below_alloc | apply pw_below_drewN | apply below_drew1 | refine below_set ?_ GE531.out | refine below_set ?_ GE536.out) | exact HB.out)) hb); clear HO_17; clear HO_532000; clear HO_537002; clear BK531; clear BK536; clear HB; have HO_17 := n0_; have HO_532000 := n1_; have HO_537002 := n2_; have HO555 := n3_; have HO559 := n4_; have BK531 := n5_; have BK536 := n6_; have HB := n7_; clear n0_ n1_ n2_ n3_ n4_ n5_ n6_ n7_; (try clear hb); (try clear hb2); (try clear hge); (try clear hk); (try clear hi); (try clear ho0); (try clear ho1)))
                          go_loopg [19, 20] k3 (fun kq v19 v20 w' => ∃ (x19_4 : Bool) (x20_4 : Int), v19 = .bool x19_4 ∧ v20 = .int .i64 x20_4 ∧ Aside0 (minecontrollaw04_TelegramBack.l2 kq t557 x19_4 x20_4 200 77 y533 = some r) ∧ Aside0 (kq ≤ k3) ∧ Aside0 (Kd.N k24 24 w' w.heap.size (fun k_ => some k_ ≠ ((.slice Ao37 t524.length co37) : Value).ownBlock ∧ some k_ ≠ ((.slice Ao57 y533.length co57) : Value).ownBlock ∧ k_ ≠ gb531 ∧ k_ ≠ gb536) v558 t557) ∧ Aside0 (Kd.R (Kd.int .u8) 5 w' w.heap.size (fun k_ => some k_ ≠ ((.slice Ao57 y533.length co57) : Value).ownBlock) (.slice Ao37 t524.length co37) t524) ∧ Aside0 (Kd.R (Kd.int .u8) 5 w' w.heap.size (fun k_ => some k_ ≠ ((.slice Ao37 t524.length co37) : Value).ownBlock) (.slice Ao57 y533.length co57) y533) ∧ Aside0 (w'.heap[gb531]? = some (.cells #[(.slice Ao37 t524.length co37), .int .i64 t527] 36 (0, 0))) ∧ Aside0 (w'.heap[gb536]? = some (.cells #[.int .i64 200, .int .i64 77, (.slice Ao57 y533.length co57)] 24 (0, 0))) ∧ Aside0 (Below w.heap.size w w'))
                          case atStart => exact ⟨(false), (0), (by first | rfl | (simp; done) | (simp [*]; done)), (by first | rfl | (simp; done) | (simp [*]; done)), H', ⟨Nat.le_refl _⟩, ⟨by (with_reducible repeat (first | apply Kd.N_alloc | apply Kd.N_drewN | apply Kd.N_drew)); exact Kd.N_mono HO559.out (fun _ hk => ⟨hk.2.2.1, ⟨hk.2.2.2.1, ⟨hk.2.2.2.2.1, hk.2.2.2.2.2⟩⟩⟩)⟩, ⟨by (with_reducible repeat (first | apply Kd.R_alloc | apply Kd.R_drewN | apply Kd.R_drew)); exact Kd.R_mono HO_532000.out (fun _ hk => hk.1.2)⟩, ⟨by (with_reducible repeat (first | apply Kd.R_alloc | apply Kd.R_drewN | apply Kd.R_drew)); exact Kd.R_mono HO_537002.out (fun _ hk => hk.1.2)⟩, ⟨by (with_reducible repeat (first | refine blk_drewN ?_ _ | refine blk_drew ?_ | refine blk_alloc ?_ _)); exact BK531.out⟩, ⟨by (with_reducible repeat (first | refine blk_drewN ?_ _ | refine blk_drew ?_ | refine blk_alloc ?_ _)); exact BK536.out⟩, ⟨by repeat (first | (with_reducible first | exact HB.out | apply below_alloc | apply pw_below_drewN | apply below_drew1 | refine below_set ?_ GE531.out | refine below_set ?_ GE536.out) | exact HB.out)⟩⟩
                          case round =>
                            clear H'
                            try clear c1
                            try clear c2
                            try clear p2
                            try clear c3
                            try clear c3b0
                            try clear c3b1
                            try clear c4
                            try clear c5
                            try clear c6
                            try clear p6
                            try clear c9
                            try clear c10
                            try clear c10b0
                            try clear c11
                            try clear c12
                            try clear c13
                            try clear c13b0
                            try clear c13b1
                            try clear c14
                            try clear c15
                            try clear c18
                            try clear c21
                            try clear c38
                            try clear c40
                            try clear c40b0
                            try clear c40b1
                            try clear c41
                            try clear c41b0
                            try clear c41b1
                            try clear c41b2
                            try clear c43
                            try clear c47
                            try clear c49
                            try clear c51
                            try clear c53
                            try clear c54
                            try clear c59
                            try clear p64
                            try clear c65
                            try clear c65b0
                            try clear c66
                            try clear hcz19_0
                            try clear hcz19_1
                            try clear hcz19_2
                            try clear hcz39_0
                            try clear hcz39_1
                            try clear hcz44_0
                            try clear hcz44_1
                            try clear hcz48_0
                            try clear hcz48_1
                            try clear hcz50_0
                            try clear hcz50_1
                            try clear hcz60_0
                            try clear hcz60_1
                            try clear hcz60_2
                            try clear hfz19_0
                            try clear hfz19_1
                            try clear hfz19_2
                            try clear hfz39_0
                            try clear hfz39_1
                            try clear hfz44_0
                            try clear hfz44_1
                            try clear hfz48_0
                            try clear hfz48_1
                            try clear hfz50_0
                            try clear hfz50_1
                            try clear hfz60_0
                            try clear hfz60_1
                            try clear hfz60_2
                            try clear p2
                            try clear p6
                            try clear p64
                            obtain ⟨x19_4, x20_4, rfl, rfl, HA, HK4, HO_13, HO_532000, HO_537002, BK531, BK536, HB⟩ := hrel
                            cases gk with
                            | zero => exact absurd HA.out (by simp [minecontrollaw04_TelegramBack.l2])
                            | succ k4 =>
                              have H := HA.out
                              clear HA
                              simp only [minecontrollaw04_TelegramBack.l2] at H
                              by_cases c74 : x20_4 < (t557.length : Int)
                              · rw [if_pos c74] at H
                                have c74b0 : decide (x20_4 < (t557.length : Int)) = true := decide_eq_true c74
                                clear c74
                                by_cases c75 : x19_4 = true
                                · subst c75
                                  have H1 : (minecontrollaw04_TelegramBack.l2 k4 t557 true (wrap64 (x20_4 + 1)) 200 77 y533) = some r := by rw [if_pos rfl] at H; exact H
                                  clear H
                                  have H := H1
                                  clear H1
                                  have H' := Aside0.mk H
                                  clear H
                                  obtain ⟨Ao76, co76, eo76⟩ := Kd.N_slice HO_13.out
                                  subst eo76
                                  try go_wp2
                                  have n0_ := Aside0.mk (Kd.N_drew HO_13.out)
                                  have n1_ := Aside0.mk (Kd.R_drew HO_532000.out)
                                  have n2_ := Aside0.mk (Kd.R_drew HO_537002.out)
                                  have n3_ := Aside0.mk (blk_drew BK531.out)
                                  have n4_ := Aside0.mk (blk_drew BK536.out)
                                  have n5_ := Aside0.mk (below_drew1 HB.out)
                                  clear HO_13
                                  clear HO_532000
                                  clear HO_537002
                                  clear BK531
                                  clear BK536
                                  clear HB
                                  have HO_13 := n0_
                                  have HO_532000 := n1_
                                  have HO_537002 := n2_
                                  have BK531 := n3_
                                  have BK536 := n4_
                                  have HB := n5_
                                  clear n0_ n1_ n2_ n3_ n4_ n5_
                                  refine start_ (n := 12) (S := fun w' => True) (ds := []) #[false, false, false, false, false, false, false, false, false, false, false, false] (by kernel_rfl) rfl rfl trivial (fun hHeld => ?_); refine with_tabW minecontrollaw04_TelegramBack.tab29 minecontrollaw04_TelegramBack.bits29 (fun HT_ HW_ => ?_)
                                  generalize wr.drew = w77 at HO_13 HO_532000 HO_537002 BK531 BK536 HB hHeld ⊢
                                  refine pure_ (i := 0) (N := some 100) (v := ?_) (a' := ?_) #[true, false, false, false, false, false, false, false, false, false, false, false] rfl rfl (any_of HT_.out (by kernel_rfl)) (fun _ _ _ h => h) (Or.inl ⟨by rfl, ?_⟩) ?_ ?_
                                  rotate_left
                                  · intro w'
                                    go_simp
                                    with_reducible rfl
                                  rotate_left
                                  · simp only [Act.put, List.setIfInBounds_toArray, List.set_cons_zero, List.set_cons_succ, i64_w, i32_w]
                                    rfl
                                  refine pure_ (i := 1) (N := some 101) (v := ?_) (a' := ?_) #[true, true, false, false, false, false, false, false, false, false, false, false] rfl rfl (any_of HT_.out (by kernel_rfl)) (fun _ _ _ h => h) (Or.inl ⟨by rfl, ?_⟩) ?_ ?_
                                  rotate_left
                                  · intro w'
                                    go_simp
                                    with_reducible rfl
                                  rotate_left
                                  · simp only [Act.put, List.setIfInBounds_toArray, List.set_cons_zero, List.set_cons_succ, i64_w, i32_w]
                                    rfl
                                  refine pure_ (i := 2) (N := some 102) (v := undef) (a' := ?_) #[true, true, true, false, false, false, false, false, false, false, false, false] rfl rfl (any_of HT_.out (by kernel_rfl)) (fun _ _ _ h => h) (Or.inr ⟨by rfl, rfl⟩) ?_ ?_
                                  rotate_left
                                  · simp only [Act.put, List.setIfInBounds_toArray, List.set_cons_zero, List.set_cons_succ, i64_w, i32_w]
                                    rfl
                                  refine pure_ (i := 3) (N := some 103) (v := undef) (a' := ?_) #[true, true, true, true, false, false, false, false, false, false, false, false] rfl rfl (any_of HT_.out (by kernel_rfl)) (fun _ _ _ h => h) (Or.inr ⟨by rfl, rfl⟩) ?_ ?_
                                  rotate_left
                                  · simp only [Act.put, List.setIfInBounds_toArray, List.set_cons_zero, List.set_cons_succ, i64_w, i32_w]
                                    rfl
                                  refine pure_ (i := 4) (N := some 104) (v := undef) (a' := ?_) #[true, true, true, true, true, false, false, false, false, false, false, false] rfl rfl (any_of HT_.out (by kernel_rfl)) (fun _ _ _ h => h) (Or.inr ⟨by rfl, rfl⟩) ?_ ?_
                                  rotate_left
                                  · simp only [Act.put, List.setIfInBounds_toArray, List.set_cons_zero, List.set_cons_succ, i64_w, i32_w]
                                    rfl
                                  refine pure_ (i := 5) (N := some 105) (v := undef) (a' := ?_) #[true, true, true, true, true, true, false, false, false, false, false, false] rfl rfl (any_of HT_.out (by kernel_rfl)) (fun _ _ _ h => h) (Or.inr ⟨by rfl, rfl⟩) ?_ ?_
                                  rotate_left
                                  · simp only [Act.put, List.setIfInBounds_toArray, List.set_cons_zero, List.set_cons_succ, i64_w, i32_w]
                                    rfl
                                  refine pure_ (i := 6) (N := some 106) (v := undef) (a' := ?_) #[true, true, true, true, true, true, true, false, false, false, false, false] rfl rfl (any_of HT_.out (by kernel_rfl)) (fun _ _ _ h => h) (Or.inr ⟨by rfl, rfl⟩) ?_ ?_
                                  rotate_left
                                  · simp only [Act.put, List.setIfInBounds_toArray, List.set_cons_zero, List.set_cons_succ, i64_w, i32_w]
                                    rfl
                                  refine pure_ (i := 7) (N := some 107) (v := undef) (a' := ?_) #[true, true, true, true, true, true, true, true, false, false, false, false] rfl rfl (any_of HT_.out (by kernel_rfl)) (fun _ _ _ h => h) (Or.inr ⟨by rfl, rfl⟩) ?_ ?_
                                  rotate_left
                                  · simp only [Act.put, List.setIfInBounds_toArray, List.set_cons_zero, List.set_cons_succ, i64_w, i32_w]
                                    rfl
                                  refine pure_ (i := 8) (N := some 108) (v := undef) (a' := ?_) #[true, true, true, true, true, true, true, true, true, false, false, false] rfl rfl (any_of HT_.out (by kernel_rfl)) (fun _ _ _ h => h) (Or.inr ⟨by rfl, rfl⟩) ?_ ?_
                                  rotate_left
                                  · simp only [Act.put, List.setIfInBounds_toArray, List.set_cons_zero, List.set_cons_succ, i64_w, i32_w]
                                    rfl
                                  refine pure_ (i := 9) (N := some 109) (v := undef) (a' := ?_) #[true, true, true, true, true, true, true, true, true, true, false, false] rfl rfl (any_of HT_.out (by kernel_rfl)) (fun _ _ _ h => h) (Or.inr ⟨by rfl, rfl⟩) ?_ ?_
                                  rotate_left
                                  · simp only [Act.put, List.setIfInBounds_toArray, List.set_cons_zero, List.set_cons_succ, i64_w, i32_w]
                                    rfl
                                  refine pure_ (i := 10) (N := some 110) (v := ?_) (a' := ?_) #[true, true, true, true, true, true, true, true, true, true, true, false] rfl rfl (any_of HT_.out (by kernel_rfl)) (fun _ _ _ h => h) (Or.inl ⟨by rfl, ?_⟩) ?_ ?_
                                  rotate_left
                                  · intro w'
                                    go_simp
                                    with_reducible rfl
                                  rotate_left
                                  · simp only [Act.put, List.setIfInBounds_toArray, List.set_cons_zero, List.set_cons_succ, i64_w, i32_w]
                                    rfl
                                  refine pure_ (i := 11) (N := some 19) (v := ?_) (a' := ?_) #[true, true, true, true, true, true, true, true, true, true, true, true] rfl rfl (any_of HT_.out (by kernel_rfl)) (fun _ _ _ h => h) (Or.inl ⟨by rfl, ?_⟩) ?_ ?_
                                  rotate_left
                                  · intro w'
                                    go_simp
                                    with_reducible rfl
                                  rotate_left
                                  · simp only [Act.put, List.setIfInBounds_toArray, List.set_cons_zero, List.set_cons_succ, i64_w, i32_w]
                                    rfl
                                  refine done_ (done_of HT_.out (by kernel_rfl)) ?_
                                  try go_wp2
                                  go_roundg k4
                                  case measure => have := HK1.out; have := HJ32.out; have := HK3.out; have := HK4.out; omega
                                  case rel => exact ⟨(true), (wrap64 (x20_4 + 1)), (by first | rfl | (simp; done) | (simp [*]; done)), (by first | rfl | (simp; done) | (simp [*]; done)), H', ⟨by have := HK1.out; have := HJ32.out; have := HK3.out; have := HK4.out; omega⟩, ⟨by (with_reducible repeat (first | apply Kd.N_alloc | apply Kd.N_drewN | apply Kd.N_drew)); exact HO_13.out⟩, ⟨by (with_reducible repeat (first | apply Kd.R_alloc | apply Kd.R_drewN | apply Kd.R_drew)); exact HO_532000.out⟩, ⟨by (with_reducible repeat (first | apply Kd.R_alloc | apply Kd.R_drewN | apply Kd.R_drew)); exact HO_537002.out⟩, ⟨by (with_reducible repeat (first | refine blk_drewN ?_ _ | refine blk_drew ?_ | refine blk_alloc ?_ _)); exact BK531.out⟩, ⟨by (with_reducible repeat (first | refine blk_drewN ?_ _ | refine blk_drew ?_ | refine blk_alloc ?_ _)); exact BK536.out⟩, ⟨by repeat (first | (with_reducible first | exact HB.out | apply below_alloc | apply pw_below_drewN | apply below_drew1 | refine below_set ?_ GE531.out | refine below_set ?_ GE536.out) | exact HB.out)⟩⟩
                                · replace c75 := Bool.eq_false_iff.mpr c75
                                  subst c75
                                  have H1 : (if 0 ≤ x20_4 then (if x20_4 ≤ (wrap64 (x20_4 + 1)) then (if (wrap64 (x20_4 + 1)) ≤ (t557.length : Int) then ((minecontrolref04_Same.f k4 ((t557.take ((wrap64 (x20_4 + 1)) : Int).toNat).drop (x20_4 : Int).toNat) (([(⟨200, 77, y533⟩ : S24)] : List (S24)))).bind fun t568 => (minecontrollaw04_TelegramBack.l2 k4 t557 t568 (wrap64 (x20_4 + 1)) 200 77 y533)) else (none)) else (none)) else (none)) = some r := by rw [if_neg (show ¬ (false = true) by decide)] at H; exact H
                                  clear H
                                  have H := H1
                                  clear H1
                                  by_cases c78 : 0 ≤ x20_4
                                  · rw [if_pos c78] at H
                                    have c78b0 := eq_true c78
                                    have c78b1 : decide (0 ≤ x20_4) = true := decide_eq_true c78
                                    clear c78
                                    by_cases c79 : x20_4 ≤ (wrap64 (x20_4 + 1))
                                    · rw [if_pos c79] at H
                                      have c79b0 := eq_true c79
                                      have c79b1 : decide (x20_4 ≤ (wrap64 (x20_4 + 1))) = true := decide_eq_true c79
                                      by_cases c80 : (wrap64 (x20_4 + 1)) ≤ (t557.length : Int)
                                      · rw [if_pos c80] at H
                                        have c80b0 := eq_true c80
                                        have c80b1 : decide ((wrap64 (x20_4 + 1)) ≤ (t557.length : Int)) = true := decide_eq_true c80
                                        obtain ⟨y560, hy560⟩ : ∃ y_ : List (S24), y_ = ((t557.take ((wrap64 (x20_4 + 1)) : Int).toNat).drop (x20_4 : Int).toNat) := ⟨_, rfl⟩
                                        replace H : ((minecontrolref04_Same.f k4 y560 (([(⟨200, 77, y533⟩ : S24)] : List (S24)))).bind fun t568 => (minecontrollaw04_TelegramBack.l2 k4 t557 t568 (wrap64 (x20_4 + 1)) 200 77 y533)) = some r := by first | (rw [hy560]; with_reducible exact H) | (have H2_ := (Option.bind_some _ _).symm.trans H; rw [hy560]; with_reducible exact H2_) | (have H2_ := (Option.bind_some _ _).symm.trans H; with_reducible exact H2_) | with_reducible exact H | (rw [hy560]; exact H) | exact H
                                        have Ny560 := Aside0.mk hy560
                                        clear hy560
                                        obtain ⟨y565, hy565⟩ : ∃ y_ : List (S24), y_ = (([(⟨200, 77, y533⟩ : S24)] : List (S24))) := ⟨_, rfl⟩
                                        replace H : ((minecontrolref04_Same.f k4 y560 y565).bind fun t568 => (minecontrollaw04_TelegramBack.l2 k4 t557 t568 (wrap64 (x20_4 + 1)) 200 77 y533)) = some r := by first | (rw [hy565]; with_reducible exact H) | (have H2_ := (Option.bind_some _ _).symm.trans H; rw [hy565]; with_reducible exact H2_) | (have H2_ := (Option.bind_some _ _).symm.trans H; with_reducible exact H2_) | with_reducible exact H | (rw [hy565]; exact H) | exact H
                                        have Ny565 := Aside0.mk hy565
                                        clear hy565
                                        replace H := Option.bind_eq_some_iff.mp H
                                        obtain ⟨t568, A810, H⟩ := H
                                        replace H : (minecontrollaw04_TelegramBack.l2 k4 t557 t568 (wrap64 (x20_4 + 1)) 200 77 y533) = some r := H
                                        have A81 := Aside0.mk A810
                                        clear A810
                                        have H' := Aside0.mk H
                                        clear H
                                        obtain ⟨Ao82, co82, eo82⟩ := Kd.N_slice HO_13.out
                                        subst eo82
                                        try go_wp2
                                        have n0_ := Aside0.mk (Kd.N_drew HO_13.out)
                                        have n1_ := Aside0.mk (Kd.R_drew HO_532000.out)
                                        have n2_ := Aside0.mk (Kd.R_drew HO_537002.out)
                                        have n3_ := Aside0.mk (blk_drew BK531.out)
                                        have n4_ := Aside0.mk (blk_drew BK536.out)
                                        have n5_ := Aside0.mk (below_drew1 HB.out)
                                        clear HO_13
                                        clear HO_532000
                                        clear HO_537002
                                        clear BK531
                                        clear BK536
                                        clear HB
                                        have HO_13 := n0_
                                        have HO_532000 := n1_
                                        have HO_537002 := n2_
                                        have BK531 := n3_
                                        have BK536 := n4_
                                        have HB := n5_
                                        clear n0_ n1_ n2_ n3_ n4_ n5_
                                        have q84 : ((wrap64 (x20_4 + 1)) : Int) ≤ ((t557.length : Int) : Int) := of_decide_eq_true (by first | (with_reducible assumption) | assumption)
                                        obtain ⟨i084, hi084, _, hsz84, _⟩ := info_parts info24
                                        have hroom84 : t557.length ≤ co82 := (Kd.N_reads' HO_13.out).2.1
                                        have hC84 : Kd.F k24 _ _ Ao82 t557.length t557 := (Kd.V_at (base := w.heap.size) (Kd.N_V HO_13.out)).2.2
                                        have ql84 : (x20_4 : Int) ≤ ((wrap64 (x20_4 + 1)) : Int) := of_decide_eq_true (by first | (with_reducible assumption) | assumption)
                                        have q084 : (0 : Int) ≤ (x20_4 : Int) := of_decide_eq_true (by first | (with_reducible assumption) | assumption)
                                        have hcut84 := cut_mid (P := Try.prog) 29 24 .i64 .i64 Try.underlying29 hi084 3 hsz84 Ao82 t557.length co82 x20_4 (wrap64 (x20_4 + 1)) q084 ql84 q84 hroom84
                                        have hr84 := Kd.F_mid (lo := (x20_4 : Int).toNat) (hi := ((wrap64 (x20_4 + 1)) : Int).toNat) (c := co82) hC84 (by omega) (by omega) hroom84
                                        obtain ⟨A84, hA84⟩ : ∃ A1, A1 = (if co82 = (x20_4 : Int).toNat then Ao82 else (Ao82 : Option Addr).map (·.add ((x20_4 : Int).toNat * 3))) := ⟨_, rfl⟩
                                        obtain ⟨c84, hc84⟩ : ∃ c1, c1 = co82 - (x20_4 : Int).toNat := ⟨_, rfl⟩
                                        have hy84 : y560.length = ((wrap64 (x20_4 + 1)) : Int).toNat - (x20_4 : Int).toNat := (by rw [Ny560.out, List.length_drop, List.length_take] <;> omega)
                                        rw [show ((t557).take ((wrap64 (x20_4 + 1)) : Int).toNat).drop (x20_4 : Int).toNat = y560 from Ny560.out.symm] at hr84
                                        replace hr84 : Kd.F k24 _ _ A84 y560.length y560 := (by rw [hA84]; exact hr84)
                                        rw [← hy84, ← hA84, ← hc84] at hcut84
                                        have HO564 := Aside0.mk (show Kd.V k24 24 _ w.heap.size _ (.slice A84 y560.length c84) y560 from Kd.V_mk (by rw [hy84, hc84]; exact Nat.sub_le_sub_right (Nat.le_trans (by omega) hroom84) _) hr84)
                                        have HC564 := Aside0.mk (show y560.length ≤ c84 from by rw [hy84, hc84]; exact Nat.sub_le_sub_right (Nat.le_trans (by omega) hroom84) _)
                                        clear hr84 hC84 hroom84 hi084 hsz84 hc84
                                        have KY84 := Aside0.mk hy84
                                        have KA84 := Aside0.mk hA84
                                        clear hy84 hA84
                                        replace q84 := eq_true q84
                                        refine start_ (n := 12) (S := fun w' => w'.cell? ⟨gb536, 0, none⟩ = some (.int .i64 200) ∧ w'.cell? ⟨gb536, 1, none⟩ = some (.int .i64 77) ∧ w'.cell? ⟨gb536, 2, none⟩ = some (.slice Ao57 y533.length co57)) (ds := []) #[false, false, false, false, false, false, false, false, false, false, false, false] (by kernel_rfl) rfl rfl ⟨(blk_cell BK536.out 0).trans rfl, (blk_cell BK536.out 1).trans rfl, (blk_cell BK536.out 2).trans rfl⟩ (fun hHeld => ?_); refine with_tabW minecontrollaw04_TelegramBack.tab29 minecontrollaw04_TelegramBack.bits29 (fun HT_ HW_ => ?_)
                                        generalize wr.drew = w83 at HO_13 HO_532000 HO_537002 BK531 BK536 HB HO564 hHeld ⊢
                                        refine pure_ (i := 0) (N := some 100) (v := ?_) (a' := ?_) #[true, false, false, false, false, false, false, false, false, false, false, false] rfl rfl (any_of HT_.out (by kernel_rfl)) (fun _ _ _ h => h) (Or.inl ⟨by rfl, ?_⟩) ?_ ?_
                                        rotate_left
                                        · intro w'
                                          go_simp
                                          with_reducible rfl
                                        rotate_left
                                        · simp only [Act.put, List.setIfInBounds_toArray, List.set_cons_zero, List.set_cons_succ, i64_w, i32_w]
                                          rfl
                                        refine pure_ (i := 1) (N := some 101) (v := ?_) (a' := ?_) #[true, true, false, false, false, false, false, false, false, false, false, false] rfl rfl (any_of HT_.out (by kernel_rfl)) (fun _ _ _ h => h) (Or.inl ⟨by rfl, ?_⟩) ?_ ?_
                                        rotate_left
                                        · intro w'
                                          go_simp
                                          with_reducible rfl
                                        rotate_left
                                        · simp only [Act.put, List.setIfInBounds_toArray, List.set_cons_zero, List.set_cons_succ, i64_w, i32_w]
                                          rfl
                                        refine pure_ (i := 2) (N := some 102) (v := ?_) (a' := ?_) #[true, true, true, false, false, false, false, false, false, false, false, false] rfl rfl (any_of HT_.out (by kernel_rfl)) (fun _ _ _ h => h) (Or.inl ⟨by rfl, ?_⟩) ?_ ?_
                                        rotate_left
                                        · intro w'
                                          go_simp
                                          with_reducible rfl
                                        rotate_left
                                        · simp only [Act.put, List.setIfInBounds_toArray, List.set_cons_zero, List.set_cons_succ, i64_w, i32_w]
                                          rfl
                                        refine pure_ (i := 3) (N := some 103) (v := ?_) (a' := ?_) #[true, true, true, true, false, false, false, false, false, false, false, false] rfl rfl (any_of HT_.out (by kernel_rfl)) (fun _ _ _ h => h) (Or.inl ⟨by rfl, ?_⟩) ?_ ?_
                                        rotate_left
                                        · intro w'
                                          go_simp
                                          with_reducible rfl
                                        rotate_left
                                        · simp only [Act.put, List.setIfInBounds_toArray, List.set_cons_zero, List.set_cons_succ, i64_w, i32_w]
                                          rfl
                                        refine pure_ (i := 4) (N := some 104) (v := ?_) (a' := ?_) #[true, true, true, true, true, false, false, false, false, false, false, false] rfl rfl (any_of HT_.out (by kernel_rfl)) (fun _ _ _ h => h) (Or.inl ⟨by rfl, ?_⟩) ?_ ?_
                                        rotate_left
                                        · intro w'
                                          go_simp
                                          with_reducible rfl
                                        rotate_left
                                        · simp only [Act.put, List.setIfInBounds_toArray, List.set_cons_zero, List.set_cons_succ, i64_w, i32_w]
                                          rfl
                                        refine pure_ (i := 5) (N := some 105) (v := ?_) (a' := ?_) #[true, true, true, true, true, true, false, false, false, false, false, false] rfl rfl (any_of HT_.out (by kernel_rfl)) (fun _ _ _ h => h) (Or.inl ⟨by rfl, ?_⟩) ?_ ?_
                                        rotate_left
                                        · intro w'
                                          go_simp
                                          with_reducible rfl
                                        rotate_left
                                        · simp only [Act.put, List.setIfInBounds_toArray, List.set_cons_zero, List.set_cons_succ, i64_w, i32_w]
                                          rfl
                                        refine pure_ (i := 6) (N := some 106) (v := ?_) (a' := ?_) #[true, true, true, true, true, true, true, false, false, false, false, false] rfl rfl (any_of HT_.out (by kernel_rfl)) (fun _ _ _ h => h) (Or.inl ⟨by rfl, ?_⟩) ?_ ?_
                                        rotate_left
                                        · intro w'
                                          go_simp
                                          with_reducible rfl
                                        rotate_left
                                        · simp only [Act.put, List.setIfInBounds_toArray, List.set_cons_zero, List.set_cons_succ, i64_w, i32_w]
                                          rfl
                                        refine take_ (i := 7) (N := some 107) (v := ?_) (a' := ?_) #[true, true, true, true, true, true, true, true, false, false, false, false] rfl rfl (take_ofW HT_.out HW_.out (by kernel_rfl)) (fun _ _ _ h => h) (Or.inl ⟨by rfl, ?_⟩) hHeld ?_ ?_
                                        rotate_left
                                        · rintro w' ⟨s0, s1, s2⟩
                                          go_simp
                                          with_reducible rfl
                                        rotate_left
                                        · simp only [Act.put, List.setIfInBounds_toArray, List.set_cons_zero, List.set_cons_succ, i64_w, i32_w]
                                          rfl
                                        refine one_ (i := 8) (N := some 108) #[true, true, true, true, true, true, true, true, true, false, false, false] rfl rfl (one_of HT_.out (by kernel_rfl)) (by decide) (fun K hK => ?_)
                                        refine Kd.N_lit_step k24 _ 24 ?hg (N' := 108) ?hd (xs := ([(⟨200, 77, y533⟩ : S24)] : List (S24))) (inner := [.int .i64 200, .int .i64 77, .slice Ao57 y533.length co57]) (ok := (fun k_ => some k_ ≠ (.slice Ao82 t557.length co82 : Value).ownBlock ∧ some k_ ≠ (.slice Ao37 t524.length co37 : Value).ownBlock ∧ k_ ≠ gb531 ∧ k_ ≠ gb536)) (okp := (fun k_ => some k_ ≠ (.slice Ao82 t557.length co82 : Value).ownBlock ∧ some k_ ≠ (.slice Ao37 t524.length co37 : Value).ownBlock ∧ k_ ≠ gb531 ∧ k_ ≠ gb536)) ?hr ?hp (fun _ hk => hk) ((show ∀ k_, w83.heap.size ≤ k_ → (fun k_ => some k_ ≠ (.slice Ao82 t557.length co82 : Value).ownBlock ∧ some k_ ≠ (.slice Ao37 t524.length co37 : Value).ownBlock ∧ k_ ≠ gb531 ∧ k_ ≠ gb536) k_ from fun k_ hk => ⟨Kd.fresh' (Kd.N_lt (by (with_reducible repeat (first | apply Kd.N_alloc | apply Kd.N_drewN | apply Kd.N_drew)); exact HO_13.out)) k_ hk, Kd.fresh' (Kd.R_lt (by (with_reducible repeat (first | apply Kd.R_alloc | apply Kd.R_drewN | apply Kd.R_drew)); exact HO_532000.out)) k_ hk, Kd.freshB (g := gb531) (o := .cells #[.slice Ao37 t524.length co37, .int .i64 t527] 36 (0, 0)) (by (with_reducible repeat (first | refine blk_drewN ?_ _ | refine blk_drew ?_ | refine blk_alloc ?_ _)); exact BK531.out) k_ hk, Kd.freshB (g := gb536) (o := .cells #[.int .i64 200, .int .i64 77, .slice Ao57 y533.length co57] 24 (0, 0)) (by (with_reducible repeat (first | refine blk_drewN ?_ _ | refine blk_drew ?_ | refine blk_alloc ?_ _)); exact BK536.out) k_ hk⟩) _ (Nat.le_refl _)) (Below.refl _ _) (Nat.le_refl _) (by simp) ?_; (case hd => rfl); (case hg => rfl); (case hr => first | (go_simp; done) | (go_simp; rfl)); (case hp => exact (Reps.c3 (show Kd.FK k24 _ _ (⟨200, 77, y533⟩ : S24) [.int .i64 200, .int .i64 77, .slice Ao57 y533.length co57] from (k24_mkF _ _ (⟨200, 77, y533⟩ : S24) (Kd.R_reads' (Kd.R_mono (ok' := (fun k_ => some k_ ≠ (.slice Ao82 t557.length co82 : Value).ownBlock ∧ some k_ ≠ (.slice Ao37 t524.length co37 : Value).ownBlock ∧ k_ ≠ gb531 ∧ k_ ≠ gb536)) (Kd.R_types (Kd.R_types (Kd.R_apart' (HO_537002.out) (Kd.N_typed HO_13.out) (by decide)) BK531.out (by decide)) BK536.out (by decide)) (fun k_ hk => ⟨hk.1.1.2, ⟨hk.1.1.1, ⟨hk.1.2, hk.2⟩⟩⟩))).2.1 (Kd.R_F (Kd.R_mono (ok' := (fun k_ => some k_ ≠ (.slice Ao82 t557.length co82 : Value).ownBlock ∧ some k_ ≠ (.slice Ao37 t524.length co37 : Value).ownBlock ∧ k_ ≠ gb531 ∧ k_ ≠ gb536)) (Kd.R_types (Kd.R_types (Kd.R_apart' (HO_537002.out) (Kd.N_typed HO_13.out) (by decide)) BK531.out (by decide)) BK536.out (by decide)) (fun k_ hk => ⟨hk.1.1.2, ⟨hk.1.1.1, ⟨hk.1.2, hk.2⟩⟩⟩))))) (Reps.none _ _)))
                                        intro v566 w85 ho86 hb hg_ hnew_
                                        clear hg_ hnew_
                                        (first | rw [← Ny565.out] at ho86 | (simp only [Int.reduceToNat] at ho86; rw [← Ny565.out] at ho86))
                                        have n0_ := Aside0.mk (Kd.N_elder' (by (with_reducible repeat (first | apply Kd.N_alloc | apply Kd.N_drewN | apply Kd.N_drew)); exact HO_13.out) (Kd.N_base ho86) hb)
                                        have n1_ := Aside0.mk (Kd.R_below (by (with_reducible repeat (first | apply Kd.R_alloc | apply Kd.R_drewN | apply Kd.R_drew)); exact HO_532000.out) hb)
                                        have n2_ := Aside0.mk (Kd.R_below (by (with_reducible repeat (first | apply Kd.R_alloc | apply Kd.R_drewN | apply Kd.R_drew)); exact HO_537002.out) hb)
                                        have n3_ := Aside0.mk (Kd.V_elder' (by (with_reducible repeat (first | apply Kd.V_alloc | apply Kd.V_drewN | apply Kd.V_drew)); exact HO564.out) (Kd.N_base ho86) hb)
                                        have n4_ := Aside0.mk (Kd.N_lower ho86 (below_size (by repeat (first | (with_reducible first | exact HB.out | apply below_alloc | apply pw_below_drewN | apply below_drew1 | refine below_set ?_ GE531.out | refine below_set ?_ GE536.out) | exact HB.out))))
                                        have n5_ := Aside0.mk (blk_below (g := gb531) (o := .cells #[.slice Ao37 t524.length co37, .int .i64 t527] 36 (0, 0)) (by (with_reducible repeat (first | refine blk_drewN ?_ _ | refine blk_drew ?_ | refine blk_alloc ?_ _)); exact BK531.out) hb)
                                        have n6_ := Aside0.mk (blk_below (g := gb536) (o := .cells #[.int .i64 200, .int .i64 77, .slice Ao57 y533.length co57] 24 (0, 0)) (by (with_reducible repeat (first | refine blk_drewN ?_ _ | refine blk_drew ?_ | refine blk_alloc ?_ _)); exact BK536.out) hb)
                                        have n7_ := Aside0.mk (below_step (by repeat (first | (with_reducible first | exact HB.out | apply below_alloc | apply pw_below_drewN | apply below_drew1 | refine below_set ?_ GE531.out | refine below_set ?_ GE536.out) | exact HB.out)) hb)
                                        clear HO_13
                                        clear HO_532000
                                        clear HO_537002
                                        clear HO564
                                        clear BK531
                                        clear BK536
                                        clear HB
                                        have HO_13 := n0_
                                        have HO_532000 := n1_
                                        have HO_537002 := n2_
                                        have HO564 := n3_
                                        have HO567 := n4_
                                        have BK531 := n5_
                                        have BK536 := n6_
                                        have HB := n7_
                                        clear n0_ n1_ n2_ n3_ n4_ n5_ n6_ n7_
                                        clear hb ho86
                                        obtain ⟨Ao87, co87, eo87⟩ := Kd.N_slice HO567.out
                                        (first | subst eo87 | (injection eo87 with f1_ f2_ f3_; have f4_ := f1_.symm; have f5_ := f3_.symm; clear f1_ f2_ f3_; subst f4_; subst f5_))
                                        refine hK.out _ _ ⟨(blk_cell BK536.out 0).trans rfl, (blk_cell BK536.out 1).trans rfl, (blk_cell BK536.out 2).trans rfl⟩ (fun hHeld => ?_)
                                        clear hK K
                                        refine norm_ (a' := ?_) ?_ ?_
                                        rotate_left
                                        · show Act.put _ (some 108) _ = _
                                          simp only [Act.put, List.setIfInBounds_toArray, List.set_cons_zero, List.set_cons_succ, i64_w, i32_w]
                                          rfl
                                        refine one_ (i := 9) (N := some 109) #[true, true, true, true, true, true, true, true, true, true, false, false] rfl rfl (one_of HT_.out (by kernel_rfl)) (by decide) (fun K hK => ?_)
                                        refine goes_ Try.func20 (by kernel_rfl) rfl #[.slice A84 y560.length c84, .slice Ao87 y565.length co87] (by rfl) rfl rfl (by (try simp only [List.map_toArray, List.map_cons, List.map_nil]); first | done | rfl | (simp only [List.length_drop, List.length_take]; rfl)) ?_
                                        with_reducible refine (minecontrolref04_Same.calls k4 _ _ y560 _ _ y565 t568 _ ?side1 ?side2 ?side3 ?side4 A81.out).mono ?_
                                        (case side1 => repeat (first | exact (Kd.V_reads' HO564.out).2.2 | (with_reducible refine Kd.C_alloc ?_ _) | (with_reducible refine Kd.C_drewN ?_ _) | (with_reducible refine Kd.C_drew ?_)))
                                        (case side2 => exact (Kd.V_reads' HO564.out).2.1)
                                        (case side3 => repeat (first | exact (Kd.N_reads' HO567.out).2.2 | (with_reducible refine Kd.C_alloc ?_ _) | (with_reducible refine Kd.C_drewN ?_ _) | (with_reducible refine Kd.C_drew ?_)))
                                        (case side4 => exact (Kd.N_reads' HO567.out).2.1)
                                        rintro e w' ⟨rfl, ⟨nd, rfl⟩⟩
                                        refine ⟨_, rfl, ?_⟩
                                        refine hK.out _ _ ⟨(blk_cell BK536.out 0).trans rfl, (blk_cell BK536.out 1).trans rfl, (blk_cell BK536.out 2).trans rfl⟩ (fun hHeld => ?_)
                                        clear hK K
                                        refine norm_ (a' := ?_) ?_ ?_
                                        rotate_left
                                        · show Act.put _ (some 109) _ = _
                                          simp only [Act.put, List.setIfInBounds_toArray, List.set_cons_zero, List.set_cons_succ, i64_w, i32_w]
                                          rfl
                                        refine pure_ (i := 10) (N := some 110) (v := ?_) (a' := ?_) #[true, true, true, true, true, true, true, true, true, true, true, false] rfl rfl (any_of HT_.out (by kernel_rfl)) (fun _ _ _ h => h) (Or.inl ⟨by rfl, ?_⟩) ?_ ?_
                                        rotate_left
                                        · intro w'
                                          go_simp
                                          with_reducible rfl
                                        rotate_left
                                        · simp only [Act.put, List.setIfInBounds_toArray, List.set_cons_zero, List.set_cons_succ, i64_w, i32_w]
                                          rfl
                                        refine pure_ (i := 11) (N := some 19) (v := ?_) (a' := ?_) #[true, true, true, true, true, true, true, true, true, true, true, true] rfl rfl (any_of HT_.out (by kernel_rfl)) (fun _ _ _ h => h) (Or.inl ⟨by rfl, ?_⟩) ?_ ?_
                                        rotate_left
                                        · intro w'
                                          go_simp
                                          with_reducible rfl
                                        rotate_left
                                        · simp only [Act.put, List.setIfInBounds_toArray, List.set_cons_zero, List.set_cons_succ, i64_w, i32_w]
                                          rfl
                                        refine done_ (done_of HT_.out (by kernel_rfl)) ?_
                                        try go_wp2
                                        go_roundg k4
                                        case measure => have := HK1.out; have := HJ32.out; have := HK3.out; have := HK4.out; omega
                                        case rel => exact ⟨(t568), (wrap64 (x20_4 + 1)), (by first | rfl | (simp; done) | (simp [*]; done)), (by first | rfl | (simp; done) | (simp [*]; done)), H', ⟨by have := HK1.out; have := HJ32.out; have := HK3.out; have := HK4.out; omega⟩, ⟨by (with_reducible repeat (first | apply Kd.N_alloc | apply Kd.N_drewN | apply Kd.N_drew)); exact Kd.N_mono HO_13.out (fun _ hk => ⟨hk.1.1, ⟨hk.1.2.1, ⟨hk.1.2.2.1, hk.1.2.2.2⟩⟩⟩)⟩, ⟨by (with_reducible repeat (first | apply Kd.R_alloc | apply Kd.R_drewN | apply Kd.R_drew)); exact HO_532000.out⟩, ⟨by (with_reducible repeat (first | apply Kd.R_alloc | apply Kd.R_drewN | apply Kd.R_drew)); exact HO_537002.out⟩, ⟨by (with_reducible repeat (first | refine blk_drewN ?_ _ | refine blk_drew ?_ | refine blk_alloc ?_ _)); exact BK531.out⟩, ⟨by (with_reducible repeat (first | refine blk_drewN ?_ _ | refine blk_drew ?_ | refine blk_alloc ?_ _)); exact BK536.out⟩, ⟨by repeat (first | (with_reducible first | exact HB.out | apply below_alloc | apply pw_below_drewN | apply below_drew1 | refine below_set ?_ GE531.out | refine below_set ?_ GE536.out) | exact HB.out)⟩⟩
                                      · rw [if_neg c80] at H
                                        exact absurd H (by simp)
                                    · rw [if_neg c79] at H
                                      exact absurd H (by simp)
                                  · rw [if_neg c78] at H
                                    exact absurd H (by simp)
                              · rw [if_neg c74] at H
                                have c74b0 : decide (x20_4 < (t557.length : Int)) = false := decide_eq_false c74
                                clear c74
                                by_cases c88 : x19_4 = true
                                · subst c88
                                  have H1 : ((minecontrollaw04_awake.f k4).bind fun t569 => (some t569)) = some r := by rw [if_pos rfl] at H; exact H
                                  clear H
                                  have H := H1
                                  clear H1
                                  replace H := Option.bind_eq_some_iff.mp H
                                  obtain ⟨t569, A890, H⟩ := H
                                  replace H : (some t569) = some r := H
                                  have A89 := Aside0.mk A890
                                  clear A890
                                  obtain rfl := Option.some.inj H
                                  obtain ⟨Ao90, co90, eo90⟩ := Kd.N_slice HO_13.out
                                  subst eo90
                                  go_wp2_with (first | (go_at_call 9; (with_reducible refine (minecontrollaw04_awake.calls k4  t569 _ A89.out).mono ?_); rintro e w91 ⟨rfl, hb⟩; have n0_ := Aside0.mk (Kd.N_below (by (with_reducible repeat (first | apply Kd.N_alloc | apply Kd.N_drewN | apply Kd.N_drew)); exact HO_13.out) hb); have n1_ := Aside0.mk (Kd.R_below (by (with_reducible repeat (first | apply Kd.R_alloc | apply Kd.R_drewN | apply Kd.R_drew)); exact HO_532000.out) hb); have n2_ := Aside0.mk (Kd.R_below (by (with_reducible repeat (first | apply Kd.R_alloc | apply Kd.R_drewN | apply Kd.R_drew)); exact HO_537002.out) hb); have n3_ := Aside0.mk (blk_below (g := gb531) (o := .cells #[.slice Ao37 t524.length co37, .int .i64 t527] 36 (0, 0)) (by (with_reducible repeat (first | refine blk_drewN ?_ _ | refine blk_drew ?_ | refine blk_alloc ?_ _)); exact BK531.out) hb); have n4_ := Aside0.mk (blk_below (g := gb536) (o := .cells #[.int .i64 200, .int .i64 77, .slice Ao57 y533.length co57] 24 (0, 0)) (by (with_reducible repeat (first | refine blk_drewN ?_ _ | refine blk_drew ?_ | refine blk_alloc ?_ _)); exact BK536.out) hb); have n5_ := Aside0.mk (below_step (by repeat (first | (with_reducible first | exact HB.out | apply below_alloc | apply pw_below_drewN | apply below_drew1 | refine below_set ?_ GE531.out | refine below_set ?_ GE536.out) | exact HB.out)) hb); clear HO_13; clear HO_532000; clear HO_537002; clear BK531; clear BK536; clear HB; have HO_13 := n0_; have HO_532000 := n1_; have HO_537002 := n2_; have BK531 := n3_; have BK536 := n4_; have HB := n5_; clear n0_ n1_ n2_ n3_ n4_ n5_; (try clear hb); (try clear hb2); (try clear hge); (try clear hk); (try clear hi)))
                                  go_ret
                                  exact ⟨by first | rfl | (simp [errW_none, errW_some] <;> rfl) | (simp [*, errW_none, errW_some] <;> rfl), by repeat (first | (with_reducible first | exact HB.out | apply below_alloc | apply pw_below_drewN | apply below_drew1 | refine below_set ?_ GE531.out | refine below_set ?_ GE536.out) | exact HB.out)⟩
                                · replace c88 := Bool.eq_false_iff.mpr c88
                                  subst c88
                                  have H1 : (if (t557.length : Int) > 0 then ((minecontrollaw04_awake.f k4).bind fun t570 => (some t570)) else (some false)) = some r := by rw [if_neg (show ¬ (false = true) by decide)] at H; exact H
                                  clear H
                                  have H := H1
                                  clear H1
                                  by_cases c92 : (t557.length : Int) > 0
                                  · rw [if_pos c92] at H
                                    have c92b0 : decide (0 < (t557.length : Int)) = true := decide_eq_true c92
                                    have c92b1 : decide (0 < t557.length) = true := decide_eq_true (by omega)
                                    clear c92
                                    replace H := Option.bind_eq_some_iff.mp H
                                    obtain ⟨t570, A930, H⟩ := H
                                    replace H : (some t570) = some r := H
                                    have A93 := Aside0.mk A930
                                    clear A930
                                    obtain rfl := Option.some.inj H
                                    obtain ⟨Ao94, co94, eo94⟩ := Kd.N_slice HO_13.out
                                    subst eo94
                                    go_wp2_with (first | (go_at_call 9; (with_reducible refine (minecontrollaw04_awake.calls k4  t570 _ A93.out).mono ?_); rintro e w95 ⟨rfl, hb⟩; have n0_ := Aside0.mk (Kd.N_below (by (with_reducible repeat (first | apply Kd.N_alloc | apply Kd.N_drewN | apply Kd.N_drew)); exact HO_13.out) hb); have n1_ := Aside0.mk (Kd.R_below (by (with_reducible repeat (first | apply Kd.R_alloc | apply Kd.R_drewN | apply Kd.R_drew)); exact HO_532000.out) hb); have n2_ := Aside0.mk (Kd.R_below (by (with_reducible repeat (first | apply Kd.R_alloc | apply Kd.R_drewN | apply Kd.R_drew)); exact HO_537002.out) hb); have n3_ := Aside0.mk (blk_below (g := gb531) (o := .cells #[.slice Ao37 t524.length co37, .int .i64 t527] 36 (0, 0)) (by (with_reducible repeat (first | refine blk_drewN ?_ _ | refine blk_drew ?_ | refine blk_alloc ?_ _)); exact BK531.out) hb); have n4_ := Aside0.mk (blk_below (g := gb536) (o := .cells #[.int .i64 200, .int .i64 77, .slice Ao57 y533.length co57] 24 (0, 0)) (by (with_reducible repeat (first | refine blk_drewN ?_ _ | refine blk_drew ?_ | refine blk_alloc ?_ _)); exact BK536.out) hb); have n5_ := Aside0.mk (below_step (by repeat (first | (with_reducible first | exact HB.out | apply below_alloc | apply pw_below_drewN | apply below_drew1 | refine below_set ?_ GE531.out | refine below_set ?_ GE536.out) | exact HB.out)) hb); clear HO_13; clear HO_532000; clear HO_537002; clear BK531; clear BK536; clear HB; have HO_13 := n0_; have HO_532000 := n1_; have HO_537002 := n2_; have BK531 := n3_; have BK536 := n4_; have HB := n5_; clear n0_ n1_ n2_ n3_ n4_ n5_; (try clear hb); (try clear hb2); (try clear hge); (try clear hk); (try clear hi)))
                                    go_ret
                                    exact ⟨by first | rfl | (simp [errW_none, errW_some] <;> rfl) | (simp [*, errW_none, errW_some] <;> rfl), by repeat (first | (with_reducible first | exact HB.out | apply below_alloc | apply pw_below_drewN | apply below_drew1 | refine below_set ?_ GE531.out | refine below_set ?_ GE536.out) | exact HB.out)⟩
                                  · rw [if_neg c92] at H
                                    have c92b0 : decide (0 < (t557.length : Int)) = false := decide_eq_false c92
                                    have c92b1 : decide (0 < t557.length) = false := decide_eq_false (by omega)
                                    clear c92
                                    obtain rfl := Option.some.inj H
                                    exact absurd hr_.out (by decide)
                  · rw [if_neg c54] at H
                    exact absurd H (by simp)
                · rw [if_neg c53] at H
                  exact absurd H (by simp)

/-- THE ONE PURE STATEMENT of minecontrollaw04_TelegramBack: yours. -/
def minecontrollaw04_TelegramBack.Pure : Prop := ∀ (l0 : List Int) (l1 : List Int), l0.length ≤ maxLen → l0.length * 1 ≤ 140737488351232 → (∀ x ∈ l0, (Lit.int .u8 x).wf = true) → l1.length ≤ maxLen → l1.length * 1 ≤ 140737488351232 → (∀ x ∈ l1, (Lit.int .u8 x).wf = true) → ∃ k, minecontrollaw04_TelegramBack.f k l0 l1 = some true
theorem minecontrollaw04_TelegramBack.walk (P : minecontrollaw04_TelegramBack.Pure) (a0 : Option Addr) (len0 cap0 : Nat) (z0 : List Int) (a1 : Option Addr) (len1 cap1 : Nat) (z1 : List Int) (w : World) (w0 : (a0 = none ∧ len0 = 0 ∧ cap0 = 0 ∧ z0 = []) ∨ ∃ x, a0 = some x ∧ len0 ≤ cap0 ∧ cap0 ≤ maxLen ∧ z0.length = cap0 ∧ (∀ i, i < z0.length → w.cell? (x.add i) = some (.int .u8 (z0.getD i 0))) ∧ ∀ n ∈ z0, (Lit.int .u8 n).wf = true) (y0 : len0 * 1 ≤ 140737488351232) (w1 : (a1 = none ∧ len1 = 0 ∧ cap1 = 0 ∧ z1 = []) ∨ ∃ x, a1 = some x ∧ len1 ≤ cap1 ∧ cap1 ≤ maxLen ∧ z1.length = cap1 ∧ (∀ i, i < z1.length → w.cell? (x.add i) = some (.int .u8 (z1.getD i 0))) ∧ ∀ n ∈ z1, (Lit.int .u8 n).wf = true) (y1 : len1 * 1 ≤ 140737488351232) :
    Calls Try.prog 6 #[.slice a0 len0 cap0, .slice a1 len1 cap1] w fun e w' => e = .returned (.bool true) ∧ Below w.heap.size w w' := by
  obtain ⟨l0, rfl, hr0, hm0, hw0, hc0⟩ := ReadsInt.ofRowC w0
  obtain ⟨l1, rfl, hr1, hm1, hw1, hc1⟩ := ReadsInt.ofRowC w1
  obtain ⟨k, h⟩ := P l0 l1 hm0 y0 hw0 hm1 y1 hw1
  refine (minecontrollaw04_TelegramBack.calls1 k _ _ l0 _ _ l1 true w (Kd.C_of_reads (d := (0 : Int)) (h1 := fun _ => rfl) hr0) hc0 (Kd.C_of_reads (d := (0 : Int)) (h1 := fun _ => rfl) hr1) hc1 (.mk rfl) h).mono ?_
  rintro e w' ⟨rfl, hd⟩
  exact ⟨rfl, hd⟩

end Go.Proofs.Ytacogcnckhgjbaa.PTel
