/- Functions of the given program as Lean functions, and proofs that its calls come to what these say. Written by a program of this seat (wip/mkprint.py); Lean checks it all. -/
import Derived.Test.YtacogcnckhgjbaaPTelx0
import Derived.Test.YtacogcnckhgjbaaPTelx1
import Derived.Test.YtacogcnckhgjbaaPTelx3
import Derived.Test.YtacogcnckhgjbaaPTelx4
namespace Go.Proofs.Ytacogcnckhgjbaa.PTel
open Go.RowKit Go.Proofs.YtacogcnckhgjbaaW.PrintWords Go.Proofs.YtacogcnckhgjbaaW.PrintLast Go.Proofs.YtacogcnckhgjbaaW.PrintMore
attribute [local go_sem] max2_int min2_int max_two min_two max_three min_three max_four min_four   -- for this text's walks alone
set_option linter.unusedVariables false
set_option linter.unusedSimpArgs false

/-! ### minecontrollaw04_TelegramWrites: function 3 -/
mutual
def minecontrollaw04_TelegramWrites.j0 : Nat → List Int → List Int → Bool → Int → Int → List Int → Option (Bool)
  | 0, _, _, _, _, _, _ => none
  | k + 1, x0, x2, x21, x243000, x243001, x243002 => if x21 = true then ((minecontrollaw04_awake.f k).bind fun t243 => (some t243)) else ((minecontroldraw_New.f x2).bind fun bt244 => ((minecontroldraw_Codes_Frame.f k bt244.1 bt244.2).bind fun bt247 => ((some (([(⟨x243000, x243001, x243002⟩ : S24), (⟨bt247.1, bt247.2.1, bt247.2.2.1⟩ : S24)] : List (S24)) : List (S24))).bind fun y253 => (minecontrollaw04_TelegramWrites.l0 k x0 y253 (y253.length : Int) 0))))
def minecontrollaw04_TelegramWrites.l0 : Nat → List Int → List (S24) → Int → Int → Option (Bool)
  | 0, _, _, _, _ => none
  | k + 1, x0, x27, x28, x29 => if x29 < x28 then (if 0 ≤ x29 then (if x29 < (x27.length : Int) then ((telegram_Write.f k ((rd_T24 x27 x29).f0) ((rd_T24 x27 x29).f1) ((rd_T24 x27 x29).f2)).bind fun bt261 => ((minecontrolref04_Write.f k ((rd_T24 x27 x29).f0) ((rd_T24 x27 x29).f1) ((rd_T24 x27 x29).f2)).bind fun bt265 => (if (strOfNums bt261.1).toList = (strOfNums bt265.1).toList then (if bt261.2 = bt265.2 then (minecontrollaw04_TelegramWrites.l0 k x0 x27 x28 (wrap64 (x29 + 1))) else (some false)) else (some false)))) else (none)) else (none)) else ((telegram_Check.f k x0).bind fun t256 => ((minecontrolref04_Check.f k x0).bind fun t257 => (if t256 = t257 then ((minecontrollaw04_awake.f k).bind fun t258 => (some t258)) else (some false))))
end
def minecontrollaw04_TelegramWrites.f (k : Nat) (l0 : List Int) (a1_0 : Int) (a1_1 : Int) (l1_2 : List Int) (l2 : List Int) : Option (Bool) := if (l0.length : Int) > 300 then (minecontrollaw04_TelegramWrites.j0 k l0 l2 true a1_0 a1_1 l1_2) else (minecontrollaw04_TelegramWrites.j0 k l0 l2 (decide ((l1_2.length : Int) > 300)) a1_0 a1_1 l1_2)
theorem minecontrollaw04_TelegramWrites.mono_l : ∀ k, (∀ y0 y1 y2 y3 y4 y5, LeO (minecontrollaw04_TelegramWrites.j0 k y0 y1 y2 y3 y4 y5) (minecontrollaw04_TelegramWrites.j0 (k + 1) y0 y1 y2 y3 y4 y5)) ∧ (∀ y0 y1 y2 y3, LeO (minecontrollaw04_TelegramWrites.l0 k y0 y1 y2 y3) (minecontrollaw04_TelegramWrites.l0 (k + 1) y0 y1 y2 y3))
  | 0 => ⟨fun _ _ _ _ _ _ r h => by simp [minecontrollaw04_TelegramWrites.j0] at h, fun _ _ _ _ r h => by simp [minecontrollaw04_TelegramWrites.l0] at h⟩
  | k + 1 => by
    obtain ⟨ih0, ih1⟩ := minecontrollaw04_TelegramWrites.mono_l k
    refine ⟨?_, ?_⟩
    · intro y0 y1 y2 y3 y4 y5
      unfold minecontrollaw04_TelegramWrites.j0
      repeat' first
      | (with_reducible exact ih0 _ _ _ _ _ _)
      | (with_reducible exact ih1 _ _ _ _)
      | (with_reducible exact minecontroldraw_Codes_Frame.mono _ _ _)
      | (with_reducible exact minecontrollaw04_awake.mono _)
      | (with_reducible exact minecontrolref04_Check.mono _ _)
      | (with_reducible exact minecontrolref04_Write.mono _ _ _ _)
      | (with_reducible exact telegram_Check.mono _ _)
      | (with_reducible exact telegram_Write.mono _ _ _ _)
      | (with_reducible exact LeO.refl _)
      | (with_reducible exact LeO.none _)
      | (with_reducible refine LeO.ite ?_ ?_)
      | (with_reducible refine LeO.bind ?_ (fun _ => ?_))
      | exact ih0 _ _ _ _ _ _
      | exact ih1 _ _ _ _
      | exact minecontroldraw_Codes_Frame.mono _ _ _
      | exact minecontrollaw04_awake.mono _
      | exact minecontrolref04_Check.mono _ _
      | exact minecontrolref04_Write.mono _ _ _ _
      | exact telegram_Check.mono _ _
      | exact telegram_Write.mono _ _ _ _
      | exact LeO.none _
      | refine LeO.ite ?_ ?_
      | refine LeO.bind ?_ (fun _ => ?_)
    · intro y0 y1 y2 y3
      unfold minecontrollaw04_TelegramWrites.l0
      repeat' first
      | (with_reducible exact ih0 _ _ _ _ _ _)
      | (with_reducible exact ih1 _ _ _ _)
      | (with_reducible exact minecontroldraw_Codes_Frame.mono _ _ _)
      | (with_reducible exact minecontrollaw04_awake.mono _)
      | (with_reducible exact minecontrolref04_Check.mono _ _)
      | (with_reducible exact minecontrolref04_Write.mono _ _ _ _)
      | (with_reducible exact telegram_Check.mono _ _)
      | (with_reducible exact telegram_Write.mono _ _ _ _)
      | (with_reducible exact LeO.refl _)
      | (with_reducible exact LeO.none _)
      | (with_reducible refine LeO.ite ?_ ?_)
      | (with_reducible refine LeO.bind ?_ (fun _ => ?_))
      | exact ih0 _ _ _ _ _ _
      | exact ih1 _ _ _ _
      | exact minecontroldraw_Codes_Frame.mono _ _ _
      | exact minecontrollaw04_awake.mono _
      | exact minecontrolref04_Check.mono _ _
      | exact minecontrolref04_Write.mono _ _ _ _
      | exact telegram_Check.mono _ _
      | exact telegram_Write.mono _ _ _ _
      | exact LeO.none _
      | refine LeO.ite ?_ ?_
      | refine LeO.bind ?_ (fun _ => ?_)
theorem minecontrollaw04_TelegramWrites.mono : ∀ a0 a1 a2 a3 a4 k, LeO (minecontrollaw04_TelegramWrites.f k a0 a1 a2 a3 a4) (minecontrollaw04_TelegramWrites.f (k + 1) a0 a1 a2 a3 a4) := by
  intro a0 a1 a2 a3 a4 k
  obtain ⟨ih0, ih1⟩ := minecontrollaw04_TelegramWrites.mono_l k
  unfold minecontrollaw04_TelegramWrites.f
  repeat' first
      | (with_reducible exact ih0 _ _ _ _ _ _)
      | (with_reducible exact ih1 _ _ _ _)
      | (with_reducible exact minecontroldraw_Codes_Frame.mono _ _ _)
      | (with_reducible exact minecontrollaw04_awake.mono _)
      | (with_reducible exact minecontrolref04_Check.mono _ _)
      | (with_reducible exact minecontrolref04_Write.mono _ _ _ _)
      | (with_reducible exact telegram_Check.mono _ _)
      | (with_reducible exact telegram_Write.mono _ _ _ _)
      | (with_reducible exact LeO.refl _)
      | (with_reducible exact LeO.none _)
      | (with_reducible refine LeO.ite ?_ ?_)
      | (with_reducible refine LeO.bind ?_ (fun _ => ?_))
      | exact ih0 _ _ _ _ _ _
      | exact ih1 _ _ _ _
      | exact minecontroldraw_Codes_Frame.mono _ _ _
      | exact minecontrollaw04_awake.mono _
      | exact minecontrolref04_Check.mono _ _
      | exact minecontrolref04_Write.mono _ _ _ _
      | exact telegram_Check.mono _ _
      | exact telegram_Write.mono _ _ _ _
      | exact LeO.none _
      | refine LeO.ite ?_ ?_
      | refine LeO.bind ?_ (fun _ => ?_)
set_option maxHeartbeats 8000000 in
set_option maxRecDepth 100000 in
theorem minecontrollaw04_TelegramWrites.calls1 (k : Nat) (A0 : Option Addr) (c0 : Nat) (l0 : List Int) (a1_0 : Int) (a1_1 : Int) (P1_2_ : Nat → Prop) (A1_2 : Option Addr) (c1_2 : Nat) (l1_2 : List Int) (A2 : Option Addr) (c2 : Nat) (l2 : List Int) (r : Bool) (w : World) (hr0 : Kd.C (Kd.int .u8) w A0 l0.length l0) (hc0 : l0.length ≤ c0) (hs1_2 : Kd.V (Kd.int .u8) 5 w w.heap.size (fun k_ => P1_2_ k_) (.slice A1_2 l1_2.length c1_2) l1_2) (hr2 : Kd.C (Kd.int .u8) w A2 l2.length l2) (hc2 : l2.length ≤ c2) (hr_ : Aside0 (r = true)) (h : minecontrollaw04_TelegramWrites.f k l0 a1_0 a1_1 l1_2 l2 = some r) :
    Calls Try.prog 3 #[.slice A0 l0.length c0, .agg #[.int .i64 a1_0, .int .i64 a1_1, .slice A1_2 l1_2.length c1_2], .slice A2 l2.length c2] w fun e w' => e = .returned (.bool r) ∧ Below w.heap.size w w' := by
  have hu24 := Try.underlying24
  have HR0 := Aside0.mk hr0
  have HC0 := Aside0.mk hc0
  clear hr0 hc0
  have HO1_2 := Aside0.mk (show Kd.V (Kd.int .u8) 5 w w.heap.size (fun k_ => (P1_2_ k_ ∨ w.heap.size ≤ k_)) (.slice A1_2 l1_2.length c1_2) l1_2 from Kd.V_mono hs1_2 (fun k_ hk => .inl hk))
  have HR2 := Aside0.mk hr2
  have HC2 := Aside0.mk hc2
  clear hr2 hc2
  have HB := Aside0.mk (Below.refl w.heap.size w)
  have H : (if (l0.length : Int) > 300 then (minecontrollaw04_TelegramWrites.j0 k l0 l2 true a1_0 a1_1 l1_2) else (minecontrollaw04_TelegramWrites.j0 k l0 l2 (decide ((l1_2.length : Int) > 300)) a1_0 a1_1 l1_2)) = some r := h
  clear h
  have HC4 := Aside0.mk H
  clear H
  go_enter Try.func3, Try.ntmps3
  go_upto_region 1 with (first | ((with_reducible refine gate_dst (N := 4) rfl ?_); (try (refine gate_guard (by rfl) ?_; dsimp only)); refine box_event ?hg (N := 4) ?hd (cs := #[.int .i64 a1_0, .int .i64 a1_1, .slice A1_2 l1_2.length c1_2]) (t := 24) ?hr ?_; (case hd => rfl); (case hg => rfl); (case hr => first | (go_simp; done) | (go_simp; rfl)); intro gb242 hg w5 hbox hb; have n0_ := Aside0.mk (Kd.V_below (Kd.V_elderB (by (with_reducible repeat (first | apply Kd.V_alloc | apply Kd.V_drewN | apply Kd.V_drew)); exact HO1_2.out) gb242 (Nat.le_of_eq hg.symm)) hb); have n1_ := Aside0.mk (below_step (by repeat (first | (with_reducible first | exact HB.out | apply below_alloc | apply pw_below_drewN | apply below_drew1) | exact HB.out)) hb); have n2_ := Aside0.mk (hbox); have n3_ := Aside0.mk ((by rw [hg]; exact (below_size (by repeat (first | (with_reducible first | exact HB.out | apply below_alloc | apply pw_below_drewN | apply below_drew1) | exact HB.out))) : w.heap.size ≤ gb242)); have n4_ := Aside0.mk ((by rw [hg]; exact (below_size (by repeat (first | (with_reducible first | exact HB.out | apply below_alloc | apply pw_below_drewN | apply below_drew1) | exact HB.out))) : w.heap.size ≤ gb242)); clear HO1_2; clear HB; have HO1_2 := n0_; have HB := n1_; have BK242 := n2_; have GW242 := n3_; have GE242 := n4_; clear n0_ n1_ n2_ n3_ n4_; clear hb hbox hg))
  (try simp only [Act.put, List.setIfInBounds_toArray, List.set_cons_zero, List.set_cons_succ])
  go_cut [21] (fun v21 wc => ∃ (kq : Nat) (x21_3 : Bool), v21 = .bool x21_3 ∧ Aside0 (minecontrollaw04_TelegramWrites.j0 kq l0 l2 x21_3 a1_0 a1_1 l1_2 = some r) ∧ Aside0 (kq ≤ k) ∧ Aside0 (Kd.V (Kd.int .u8) 5 wc w.heap.size (fun k_ => (P1_2_ k_ ∨ w.heap.size ≤ k_) ∧ k_ ≠ gb242) (.slice A1_2 l1_2.length c1_2) l1_2) ∧ Aside0 (wc.heap[gb242]? = some (.cells #[.int .i64 a1_0, .int .i64 a1_1, (.slice A1_2 l1_2.length c1_2)] 24 (0, 0))) ∧ Aside0 (Below w.heap.size w wc))
  case first =>
    have H := HC4.out
    clear HC4
    by_cases c6 : (l0.length : Int) > 300
    · rw [if_pos c6] at H
      have c6b0 : decide (300 < (l0.length : Int)) = true := decide_eq_true c6
      have c6b1 : decide (300 < l0.length) = true := decide_eq_true (by omega)
      clear c6
      (first | rw [c6b0] | (simp only [i64_w, i32_w]; rw [c6b0]) | skip)
      have H' := Aside0.mk H
      clear H
      go_wp2
      go_meet
      case rel => exact ⟨_, (true), (by first | rfl | (simp; done) | (simp [*]; done)), H', ⟨by first | omega | exact Nat.le_refl _⟩, ⟨by (with_reducible repeat (first | apply Kd.V_alloc | apply Kd.V_drewN | apply Kd.V_drew)); exact HO1_2.out⟩, ⟨by (with_reducible repeat (first | refine blk_drewN ?_ _ | refine blk_drew ?_ | refine blk_alloc ?_ _)); exact BK242.out⟩, ⟨by repeat (first | (with_reducible first | exact HB.out | apply below_alloc | apply pw_below_drewN | apply below_drew1 | refine below_set ?_ GE242.out) | exact HB.out)⟩⟩
    · rw [if_neg c6] at H
      have c6b0 : decide (300 < (l0.length : Int)) = false := decide_eq_false c6
      have c6b1 : decide (300 < l0.length) = false := decide_eq_false (by omega)
      clear c6
      (first | rw [c6b0] | (simp only [i64_w, i32_w]; rw [c6b0]) | skip)
      have H' := Aside0.mk H
      clear H
      have hcz7_0 : w5.cell? ⟨gb242, 0, none⟩ = some (.int .i64 a1_0) := (blk_cell BK242.out 0).trans rfl
      have hcz7_1 : w5.cell? ⟨gb242, 1, none⟩ = some (.int .i64 a1_1) := (blk_cell BK242.out 1).trans rfl
      have hcz7_2 : w5.cell? ⟨gb242, 2, none⟩ = some (.slice A1_2 l1_2.length c1_2) := (blk_cell BK242.out 2).trans rfl
      have hfz7_0 := blk_frozen BK242.out 0
      have hfz7_1 := blk_frozen BK242.out 1
      have hfz7_2 := blk_frozen BK242.out 2
      go_wp2
      go_meet
      case rel => exact ⟨_, (decide ((l1_2.length : Int) > 300)), (by first | rfl | (simp; done) | (simp [*]; done)), H', ⟨by first | omega | exact Nat.le_refl _⟩, ⟨by (with_reducible repeat (first | apply Kd.V_alloc | apply Kd.V_drewN | apply Kd.V_drew)); exact HO1_2.out⟩, ⟨by (with_reducible repeat (first | refine blk_drewN ?_ _ | refine blk_drew ?_ | refine blk_alloc ?_ _)); exact BK242.out⟩, ⟨by repeat (first | (with_reducible first | exact HB.out | apply below_alloc | apply pw_below_drewN | apply below_drew1 | refine below_set ?_ GE242.out) | exact HB.out)⟩⟩
  case rest =>
    clear HC4
    try clear c1
    try clear c2
    try clear p2
    try clear c3
    try clear c6
    try clear c6b0
    try clear c6b1
    try clear hcz7_0
    try clear hcz7_1
    try clear hcz7_2
    try clear hfz7_0
    try clear hfz7_1
    try clear hfz7_2
    obtain ⟨kq, x21_3, rfl, HA, HJ3, HO_243002, BK242, HB⟩ := hcut
    cases kq with
    | zero => exact absurd HA.out (by simp [minecontrollaw04_TelegramWrites.j0])
    | succ kj3 =>
      have H := HA.out
      clear HA
      simp only [minecontrollaw04_TelegramWrites.j0] at H
      by_cases c8 : x21_3 = true
      · subst c8
        have H1 : ((minecontrollaw04_awake.f kj3).bind fun t243 => (some t243)) = some r := by rw [if_pos rfl] at H; exact H
        clear H
        have H := H1
        clear H1
        replace H := Option.bind_eq_some_iff.mp H
        obtain ⟨t243, A90, H⟩ := H
        replace H : (some t243) = some r := H
        have A9 := Aside0.mk A90
        clear A90
        obtain rfl := Option.some.inj H
        go_wp2_with (first | ((with_reducible refine gate_callee (f := 9) rfl ?_); refine goesL_ (some 22) rfl rfl Try.func9 (by kernel_rfl) rfl #[] rfl (by (try simp only [List.map_toArray, List.map_cons, List.map_nil]); first | done | rfl | (simp only [List.length_drop, List.length_take]; rfl)) ?_; (with_reducible refine (minecontrollaw04_awake.calls kj3  t243 _ A9.out).mono ?_); rintro e w10 ⟨rfl, hb⟩; refine ⟨_, rfl, ?_⟩; have n0_ := Aside0.mk (Kd.V_below (by (with_reducible repeat (first | apply Kd.V_alloc | apply Kd.V_drewN | apply Kd.V_drew)); exact HO_243002.out) hb); have n1_ := Aside0.mk (blk_below (g := gb242) (o := .cells #[.int .i64 a1_0, .int .i64 a1_1, .slice A1_2 l1_2.length c1_2] 24 (0, 0)) (by (with_reducible repeat (first | refine blk_drewN ?_ _ | refine blk_drew ?_ | refine blk_alloc ?_ _)); exact BK242.out) hb); have n2_ := Aside0.mk (below_step (by repeat (first | (with_reducible first | exact HB.out | apply below_alloc | apply pw_below_drewN | apply below_drew1 | refine below_set ?_ GE242.out) | exact HB.out)) hb); clear HO_243002; clear BK242; clear HB; have HO_243002 := n0_; have BK242 := n1_; have HB := n2_; clear n0_ n1_ n2_; (try clear hb); (try clear hb2); (try clear hge); (try clear hk); (try clear hi)))
        go_ret
        exact ⟨by first | rfl | (simp [errW_none, errW_some] <;> rfl) | (simp [*, errW_none, errW_some] <;> rfl), by repeat (first | (with_reducible first | exact HB.out | apply below_alloc | apply pw_below_drewN | apply below_drew1 | refine below_set ?_ GE242.out) | exact HB.out)⟩
      · replace c8 := Bool.eq_false_iff.mpr c8
        subst c8
        have H1 : ((minecontroldraw_New.f l2).bind fun bt244 => ((minecontroldraw_Codes_Frame.f kj3 bt244.1 bt244.2).bind fun bt247 => ((some (([(⟨a1_0, a1_1, l1_2⟩ : S24), (⟨bt247.1, bt247.2.1, bt247.2.2.1⟩ : S24)] : List (S24)) : List (S24))).bind fun y253 => (minecontrollaw04_TelegramWrites.l0 kj3 l0 y253 (y253.length : Int) 0)))) = some r := by rw [if_neg (show ¬ (false = true) by decide)] at H; exact H
        clear H
        have H := H1
        clear H1
        replace H := Option.bind_eq_some_iff.mp H
        obtain ⟨⟨t244, t245⟩, A110, H⟩ := H
        replace H : ((minecontroldraw_Codes_Frame.f kj3 t244 t245).bind fun bt247 => ((some (([(⟨a1_0, a1_1, l1_2⟩ : S24), (⟨bt247.1, bt247.2.1, bt247.2.2.1⟩ : S24)] : List (S24)) : List (S24))).bind fun y253 => (minecontrollaw04_TelegramWrites.l0 kj3 l0 y253 (y253.length : Int) 0))) = some r := H
        have A11 := Aside0.mk A110
        clear A110
        replace H := Option.bind_eq_some_iff.mp H
        obtain ⟨⟨t247, t248, t249, t252⟩, A120, H⟩ := H
        replace H : ((some (([(⟨a1_0, a1_1, l1_2⟩ : S24), (⟨t247, t248, t249⟩ : S24)] : List (S24)) : List (S24))).bind fun y253 => (minecontrollaw04_TelegramWrites.l0 kj3 l0 y253 (y253.length : Int) 0)) = some r := H
        have A12 := Aside0.mk A120
        clear A120
        obtain ⟨y253, hy253⟩ : ∃ y_ : List (S24), y_ = (([(⟨a1_0, a1_1, l1_2⟩ : S24), (⟨t247, t248, t249⟩ : S24)] : List (S24))) := ⟨_, rfl⟩
        replace H : (minecontrollaw04_TelegramWrites.l0 kj3 l0 y253 (y253.length : Int) 0) = some r := by first | (rw [hy253]; with_reducible exact H) | (have H2_ := (Option.bind_some _ _).symm.trans H; rw [hy253]; with_reducible exact H2_) | (have H2_ := (Option.bind_some _ _).symm.trans H; with_reducible exact H2_) | with_reducible exact H | (rw [hy253]; exact H) | exact H
        have Ny253 := Aside0.mk hy253
        clear hy253
        have H' := Aside0.mk H
        clear H
        try go_wp2
        have n0_ := Aside0.mk (Kd.V_drew HO_243002.out)
        have n1_ := Aside0.mk (blk_drew BK242.out)
        have n2_ := Aside0.mk (below_drew1 HB.out)
        clear HO_243002
        clear BK242
        clear HB
        have HO_243002 := n0_
        have BK242 := n1_
        have HB := n2_
        clear n0_ n1_ n2_
        refine start_ (n := 7) (S := fun w' => w'.cell? ⟨gb242, 0, none⟩ = some (.int .i64 a1_0) ∧ w'.cell? ⟨gb242, 1, none⟩ = some (.int .i64 a1_1) ∧ w'.cell? ⟨gb242, 2, none⟩ = some (.slice A1_2 l1_2.length c1_2)) (ds := []) #[false, false, false, false, false, false, false] (by kernel_rfl) rfl rfl ⟨(blk_cell BK242.out 0).trans rfl, (blk_cell BK242.out 1).trans rfl, (blk_cell BK242.out 2).trans rfl⟩ (fun hHeld => ?_)
        generalize wc.drew = w13 at HO_243002 BK242 HB hHeld ⊢
        refine pure_ (i := 1) (N := some 24) (v := ?_) (a' := ?_) #[false, true, false, false, false, false, false] rfl rfl (by kernel_rfl) (fun _ _ _ h => h) (Or.inl ⟨by rfl, ?_⟩) ?_ ?_
        rotate_left
        · intro w'
          go_simp
          with_reducible rfl
        rotate_left
        · simp only [Act.put, List.setIfInBounds_toArray, List.set_cons_zero, List.set_cons_succ, i64_w, i32_w]
          rfl
        refine pure_ (i := 6) (N := some 29) (v := ?_) (a' := ?_) #[false, true, false, false, false, false, true] rfl rfl (by kernel_rfl) (fun _ _ _ h => h) (Or.inl ⟨by rfl, ?_⟩) ?_ ?_
        rotate_left
        · intro w'
          go_simp
          with_reducible rfl
        rotate_left
        · simp only [Act.put, List.setIfInBounds_toArray, List.set_cons_zero, List.set_cons_succ, i64_w, i32_w]
          rfl
        refine take_ (i := 0) (N := some 23) (v := ?_) (a' := ?_) #[true, true, false, false, false, false, true] rfl rfl (by kernel_rfl) (fun _ _ _ h => h) (Or.inl ⟨by rfl, ?_⟩) hHeld ?_ ?_
        rotate_left
        · rintro w' ⟨s0, s1, s2⟩
          go_simp
          with_reducible rfl
        rotate_left
        · simp only [Act.put, List.setIfInBounds_toArray, List.set_cons_zero, List.set_cons_succ, i64_w, i32_w]
          rfl
        refine one_ (i := 2) (N := some 25) #[true, true, true, false, false, false, true] rfl rfl (by kernel_rfl) (by decide) (fun K hK => ?_)
        refine goes_ Try.func10 (by kernel_rfl) rfl #[.slice A2 l2.length c2] (by rfl) rfl rfl (by (try simp only [List.map_toArray, List.map_cons, List.map_nil]); first | done | rfl | (simp only [List.length_drop, List.length_take]; rfl)) ?_
        with_reducible refine (minecontroldraw_New.calls _ _ l2 t244 t245 w _ ?side1 ?side2 ?side3 A11.out).mono ?_
        (case side1 => repeat (first | (with_reducible first | exact HB.out | apply below_alloc | apply pw_below_drewN | apply below_drew1 | refine below_set ?_ GE242.out) | exact HB.out))
        (case side2 => exact HR2.out)
        (case side3 => exact HC2.out)
        rintro e w14 ⟨g246, rfl, hi, hb, hb2, hge⟩
        refine ⟨_, rfl, ?_⟩
        have n0_ := Aside0.mk (Kd.V_below (Kd.V_elderB (by (with_reducible repeat (first | apply Kd.V_alloc | apply Kd.V_drewN | apply Kd.V_drew)); exact HO_243002.out) g246 hge) hb2)
        have n1_ := Aside0.mk (blk_below (g := gb242) (o := .cells #[.int .i64 a1_0, .int .i64 a1_1, .slice A1_2 l1_2.length c1_2] 24 (0, 0)) (by (with_reducible repeat (first | refine blk_drewN ?_ _ | refine blk_drew ?_ | refine blk_alloc ?_ _)); exact BK242.out) hb2)
        have n2_ := Aside0.mk (hb)
        have n3_ := Aside0.mk (hi)
        have n4_ := Aside0.mk (IsS48.ne_blk hi (blk_below (g := gb242) (o := .cells #[.int .i64 a1_0, .int .i64 a1_1, .slice A1_2 l1_2.length c1_2] 24 (0, 0)) (by (with_reducible repeat (first | refine blk_drewN ?_ _ | refine blk_drew ?_ | refine blk_alloc ?_ _)); exact BK242.out) hb2) (by decide))
        have n5_ := Aside0.mk (Ne.symm (IsS48.ne_blk hi (blk_below (g := gb242) (o := .cells #[.int .i64 a1_0, .int .i64 a1_1, .slice A1_2 l1_2.length c1_2] 24 (0, 0)) (by (with_reducible repeat (first | refine blk_drewN ?_ _ | refine blk_drew ?_ | refine blk_alloc ?_ _)); exact BK242.out) hb2) (by decide)))
        clear HO_243002
        clear BK242
        clear HB
        have HO_243002 := n0_
        have BK242 := n1_
        have HB := n2_
        have HI246 := n3_
        have NB246_242 := n4_
        have NB242_246 := n5_
        clear n0_ n1_ n2_ n3_ n4_ n5_
        (try clear hb)
        (try clear hb2)
        (try clear hge)
        (try clear hk)
        (try clear hi)
        refine hK.out _ _ ⟨(blk_cell BK242.out 0).trans rfl, (blk_cell BK242.out 1).trans rfl, (blk_cell BK242.out 2).trans rfl⟩ (fun hHeld => ?_)
        clear hK K
        refine norm_ (a' := ?_) ?_ ?_
        rotate_left
        · show Act.put _ (some 25) _ = _
          simp only [Act.put, List.setIfInBounds_toArray, List.set_cons_zero, List.set_cons_succ, i64_w, i32_w]
          rfl
        refine one_ (i := 3) (N := some 26) #[true, true, true, true, false, false, true] rfl rfl (by kernel_rfl) (by decide) (fun K hK => ?_)
        refine goes_ Try.func11 (by kernel_rfl) rfl #[.pointer (some ⟨g246, 0, none⟩)] (by rfl) rfl rfl (by (try simp only [List.map_toArray, List.map_cons, List.map_nil]); first | done | rfl | (simp only [List.length_drop, List.length_take]; rfl)) ?_
        with_reducible refine (minecontroldraw_Codes_Frame.calls kj3 g246 t244 t245 t247 t248 t249 t252 w _ ?side1 ?side2 A12.out).mono ?_
        (case side1 => repeat (first | (with_reducible first | exact HI246.out | apply IsS48.alloc | apply IsS48.drewN | apply IsS48.drew | apply IsS48.set_1 | refine IsS48.far ?_ NB246_242.out _) | exact HI246.out))
        (case side2 => repeat (first | (with_reducible first | exact HB.out | apply below_alloc | apply pw_below_drewN | apply below_drew1 | refine below_set ?_ (IsS48.ge HI246.out) | refine below_set ?_ GE242.out) | exact HB.out))
        rintro e w15 ⟨v250, rfl, ho0, hi, hb, hk⟩
        refine ⟨_, rfl, ?_⟩
        have n0_ := Aside0.mk (Kd.V_mono (Kd.V_told (Kd.V_oldK (Kd.V_mono (ok := fun k_ => ((((P1_2_ k_ ∨ w.heap.size ≤ k_)) ∧ k_ ≠ gb242) ∧ k_ ≠ g246)) (by (with_reducible repeat (first | apply Kd.V_alloc | apply Kd.V_drewN | apply Kd.V_drew)); exact HO_243002.out) (fun k_ hk_ => (⟨hk_, hk_.2⟩ : _ ∧ k_ ≠ g246))) hk) (Kd.R_base ho0)) (fun _ h_ => h_.1))
        have n1_ := Aside0.mk (KeepBut.blk hk (g' := gb242) (o := .cells #[.int .i64 a1_0, .int .i64 a1_1, .slice A1_2 l1_2.length c1_2] 24 (0, 0)) (by (with_reducible repeat (first | refine blk_drewN ?_ _ | refine blk_drew ?_ | refine blk_alloc ?_ _)); exact BK242.out) NB242_246.out (by simp))
        have n2_ := Aside0.mk (Kd.R_lower (Kd.R_newM (M := fun k_ => (w.heap.size ≤ k_)) ho0 (below_size (by repeat (first | (with_reducible first | exact HB.out | apply below_alloc | apply pw_below_drewN | apply below_drew1 | refine below_set ?_ (IsS48.ge HI246.out) | refine below_set ?_ GE242.out) | exact HB.out))) (fun k_ h_ => h_)) (below_size (by repeat (first | (with_reducible first | exact HB.out | apply below_alloc | apply pw_below_drewN | apply below_drew1 | refine below_set ?_ (IsS48.ge HI246.out) | refine below_set ?_ GE242.out) | exact HB.out))))
        have n3_ := Aside0.mk (hb)
        have n4_ := Aside0.mk (hi)
        clear HO_243002
        clear BK242
        clear HB
        clear HI246
        have HO_243002 := n0_
        have BK242 := n1_
        have HO251 := n2_
        have HB := n3_
        have HI246 := n4_
        clear n0_ n1_ n2_ n3_ n4_
        (try clear hb)
        (try clear hb2)
        (try clear hge)
        (try clear hk)
        (try clear hi)
        (try clear ho0)
        obtain ⟨Ao16, co16, eo16⟩ := Kd.R_slice HO251.out
        (first | subst eo16 | (injection eo16 with f1_ f2_ f3_; have f4_ := f1_.symm; have f5_ := f3_.symm; clear f1_ f2_ f3_; subst f4_; subst f5_))
        refine hK.out _ _ ⟨(blk_cell BK242.out 0).trans rfl, (blk_cell BK242.out 1).trans rfl, (blk_cell BK242.out 2).trans rfl⟩ (fun hHeld => ?_)
        clear hK K
        refine norm_ (a' := ?_) ?_ ?_
        rotate_left
        · show Act.put _ (some 26) _ = _
          simp only [Act.put, List.setIfInBounds_toArray, List.set_cons_zero, List.set_cons_succ, i64_w, i32_w]
          rfl
        refine one_ (i := 4) (N := some 27) #[true, true, true, true, true, false, true] rfl rfl (by kernel_rfl) (by decide) (fun K hK => ?_)
        refine Kd.N_lit_step k24 _ 24 ?hg (N' := 27) ?hd (xs := ([(⟨a1_0, a1_1, l1_2⟩ : S24), (⟨t247, t248, t249⟩ : S24)] : List (S24))) (inner := [.int .i64 a1_0, .int .i64 a1_1, .slice A1_2 l1_2.length c1_2, .int .i64 t247, .int .i64 t248, .slice Ao16 t249.length co16]) (ok := (fun k_ => (P1_2_ k_ ∨ w.heap.size ≤ k_) ∧ k_ ≠ gb242 ∧ k_ ≠ g246)) (okp := (fun k_ => (P1_2_ k_ ∨ w.heap.size ≤ k_) ∧ k_ ≠ gb242 ∧ k_ ≠ g246)) ?hr ?hp (fun _ hk => hk) ((show ∀ k_, w15.heap.size ≤ k_ → (fun k_ => (P1_2_ k_ ∨ w.heap.size ≤ k_) ∧ k_ ≠ gb242 ∧ k_ ≠ g246) k_ from fun k_ hk => ⟨(.inr (Nat.le_trans (below_size (by repeat (first | (with_reducible first | exact HB.out | apply below_alloc | apply pw_below_drewN | apply below_drew1 | refine below_set ?_ (IsS48.ge HI246.out) | refine below_set ?_ GE242.out) | exact HB.out))) hk)), Kd.freshB (g := gb242) (o := .cells #[.int .i64 a1_0, .int .i64 a1_1, .slice A1_2 l1_2.length c1_2] 24 (0, 0)) (by (with_reducible repeat (first | refine blk_drewN ?_ _ | refine blk_drew ?_ | refine blk_alloc ?_ _)); exact BK242.out) k_ hk, IsS48.fresh (by repeat (first | (with_reducible first | exact HI246.out | apply IsS48.alloc | apply IsS48.drewN | apply IsS48.drew | apply IsS48.set_1 | refine IsS48.far ?_ NB246_242.out _) | exact HI246.out)) k_ hk⟩) _ (Nat.le_refl _)) (Below.refl _ _) (Nat.le_refl _) (by simp) ?_; (case hd => rfl); (case hg => rfl); (case hr => first | (go_simp; done) | (go_simp; rfl)); (case hp => exact (Reps.c3 (show Kd.FK k24 _ _ (⟨a1_0, a1_1, l1_2⟩ : S24) [.int .i64 a1_0, .int .i64 a1_1, .slice A1_2 l1_2.length c1_2] from (k24_mkF _ _ (⟨a1_0, a1_1, l1_2⟩ : S24) (Kd.V_reads' (Kd.V_mono (ok' := (fun k_ => (P1_2_ k_ ∨ w.heap.size ≤ k_) ∧ k_ ≠ gb242 ∧ k_ ≠ g246)) (HO_243002.out) (fun k_ hk => ⟨hk.1.1.1, ⟨hk.1.1.2, hk.1.2⟩⟩))).2.1 (Kd.V_F (Kd.V_mono (ok' := (fun k_ => (P1_2_ k_ ∨ w.heap.size ≤ k_) ∧ k_ ≠ gb242 ∧ k_ ≠ g246)) (HO_243002.out) (fun k_ hk => ⟨hk.1.1.1, ⟨hk.1.1.2, hk.1.2⟩⟩))))) (Reps.c3 (show Kd.FK k24 _ _ (⟨t247, t248, t249⟩ : S24) [.int .i64 t247, .int .i64 t248, .slice Ao16 t249.length co16] from (k24_mkF _ _ (⟨t247, t248, t249⟩ : S24) (Kd.R_reads' (Kd.R_mono (ok' := (fun k_ => (P1_2_ k_ ∨ w.heap.size ≤ k_) ∧ k_ ≠ gb242 ∧ k_ ≠ g246)) (IsS48.apart HI246.out (Kd.R_types (HO251.out) BK242.out (by decide)) (by decide)) (fun k_ hk => ⟨(.inr (hk.1.1.1)), ⟨hk.1.2, hk.2⟩⟩))).2.1 (Kd.R_F (Kd.R_mono (ok' := (fun k_ => (P1_2_ k_ ∨ w.heap.size ≤ k_) ∧ k_ ≠ gb242 ∧ k_ ≠ g246)) (IsS48.apart HI246.out (Kd.R_types (HO251.out) BK242.out (by decide)) (by decide)) (fun k_ hk => ⟨(.inr (hk.1.1.1)), ⟨hk.1.2, hk.2⟩⟩))))) (Reps.none _ _))))
        intro v254 w17 ho18 hb hg_ hnew_
        clear hg_ hnew_
        (first | rw [← Ny253.out] at ho18 | (simp only [Int.reduceToNat] at ho18; rw [← Ny253.out] at ho18))
        have n0_ := Aside0.mk (Kd.V_elder' (by (with_reducible repeat (first | apply Kd.V_alloc | apply Kd.V_drewN | apply Kd.V_drew)); exact HO_243002.out) (Kd.N_base ho18) hb)
        have n1_ := Aside0.mk (Kd.N_lower ho18 (below_size (by repeat (first | (with_reducible first | exact HB.out | apply below_alloc | apply pw_below_drewN | apply below_drew1 | refine below_set ?_ (IsS48.ge HI246.out) | refine below_set ?_ GE242.out) | exact HB.out))))
        have n2_ := Aside0.mk (blk_below (g := gb242) (o := .cells #[.int .i64 a1_0, .int .i64 a1_1, .slice A1_2 l1_2.length c1_2] 24 (0, 0)) (by (with_reducible repeat (first | refine blk_drewN ?_ _ | refine blk_drew ?_ | refine blk_alloc ?_ _)); exact BK242.out) hb)
        have n3_ := Aside0.mk (IsS48.below (by repeat (first | (with_reducible first | exact HI246.out | apply IsS48.alloc | apply IsS48.drewN | apply IsS48.drew | apply IsS48.set_1 | refine IsS48.far ?_ NB246_242.out _) | exact HI246.out)) hb)
        have n4_ := Aside0.mk (below_step (by repeat (first | (with_reducible first | exact HB.out | apply below_alloc | apply pw_below_drewN | apply below_drew1 | refine below_set ?_ (IsS48.ge HI246.out) | refine below_set ?_ GE242.out) | exact HB.out)) hb)
        clear HO_243002
        clear BK242
        clear HI246
        clear HB
        clear HO251
        have HO_243002 := n0_
        have HO255 := n1_
        have BK242 := n2_
        have HI246 := n3_
        have HB := n4_
        clear n0_ n1_ n2_ n3_ n4_
        clear hb ho18
        obtain ⟨Ao19, co19, eo19⟩ := Kd.N_slice HO255.out
        (first | subst eo19 | (injection eo19 with f1_ f2_ f3_; have f4_ := f1_.symm; have f5_ := f3_.symm; clear f1_ f2_ f3_; subst f4_; subst f5_))
        refine hK.out _ _ ⟨(blk_cell BK242.out 0).trans rfl, (blk_cell BK242.out 1).trans rfl, (blk_cell BK242.out 2).trans rfl⟩ (fun hHeld => ?_)
        clear hK K
        refine norm_ (a' := ?_) ?_ ?_
        rotate_left
        · show Act.put _ (some 27) _ = _
          simp only [Act.put, List.setIfInBounds_toArray, List.set_cons_zero, List.set_cons_succ, i64_w, i32_w]
          rfl
        refine pure_ (i := 5) (N := some 28) (v := ?_) (a' := ?_) #[true, true, true, true, true, true, true] rfl rfl (by kernel_rfl) (fun _ _ _ h => h) (Or.inl ⟨by rfl, ?_⟩) ?_ ?_
        rotate_left
        · intro w'
          go_simp
          with_reducible rfl
        rotate_left
        · simp only [Act.put, List.setIfInBounds_toArray, List.set_cons_zero, List.set_cons_succ, i64_w, i32_w]
          rfl
        refine done_ (by kernel_rfl) ?_
        try go_wp2
        go_loopg [29] kj3 (fun kq v29 w' => ∃ (x29_2 : Int), v29 = .int .i64 x29_2 ∧ Aside0 (minecontrollaw04_TelegramWrites.l0 kq l0 y253 (y253.length : Int) x29_2 = some r) ∧ Aside0 (kq ≤ kj3) ∧ Aside0 (Kd.N k24 24 w' w.heap.size (fun k_ => (P1_2_ k_ ∨ w.heap.size ≤ k_) ∧ k_ ≠ gb242) (.slice Ao19 y253.length co19) y253) ∧ Aside0 (Kd.V (Kd.int .u8) 5 w' w.heap.size (fun k_ => (P1_2_ k_ ∨ w.heap.size ≤ k_) ∧ some k_ ≠ ((.slice Ao19 y253.length co19) : Value).ownBlock ∧ k_ ≠ gb242) (.slice A1_2 l1_2.length c1_2) l1_2) ∧ Aside0 (w'.heap[gb242]? = some (.cells #[.int .i64 a1_0, .int .i64 a1_1, (.slice A1_2 l1_2.length c1_2)] 24 (0, 0))) ∧ Aside0 (Below w.heap.size w w'))
        case atStart => exact ⟨(0), (by first | rfl | (simp; done) | (simp [*]; done)), H', ⟨Nat.le_refl _⟩, ⟨by (with_reducible repeat (first | apply Kd.N_alloc | apply Kd.N_drewN | apply Kd.N_drew)); exact Kd.N_mono HO255.out (fun _ hk => ⟨hk.1, hk.2.1⟩)⟩, ⟨by (with_reducible repeat (first | apply Kd.V_alloc | apply Kd.V_drewN | apply Kd.V_drew)); exact Kd.V_mono HO_243002.out (fun _ hk => ⟨hk.1.1.1.1, ⟨hk.2, hk.1.1.1.2⟩⟩)⟩, ⟨by (with_reducible repeat (first | refine blk_drewN ?_ _ | refine blk_drew ?_ | refine blk_alloc ?_ _)); exact BK242.out⟩, ⟨by repeat (first | (with_reducible first | exact HB.out | apply below_alloc | apply pw_below_drewN | apply below_drew1 | refine below_set ?_ (IsS48.ge HI246.out) | refine below_set ?_ GE242.out) | exact HB.out)⟩⟩
        case round =>
          clear H'
          try clear c1
          try clear c2
          try clear p2
          try clear c3
          try clear c6
          try clear c6b0
          try clear c6b1
          try clear c8
          try clear c9
          try clear c10
          try clear c11
          try clear hcz7_0
          try clear hcz7_1
          try clear hcz7_2
          try clear hfz7_0
          try clear hfz7_1
          try clear hfz7_2
          try clear p2
          obtain ⟨x29_2, rfl, HA, HK2, HO_27, HO_243002, BK242, HB⟩ := hrel
          cases gk with
          | zero => exact absurd HA.out (by simp [minecontrollaw04_TelegramWrites.l0])
          | succ k2 =>
            have H := HA.out
            clear HA
            simp only [minecontrollaw04_TelegramWrites.l0] at H
            by_cases c20 : x29_2 < (y253.length : Int)
            · rw [if_pos c20] at H
              have c20b0 : decide (x29_2 < (y253.length : Int)) = true := decide_eq_true c20
              clear c20
              by_cases c21 : 0 ≤ x29_2
              · rw [if_pos c21] at H
                have c21b0 : decide (0 ≤ x29_2) = true := decide_eq_true c21
                clear c21
                by_cases c22 : x29_2 < (y253.length : Int)
                · rw [if_pos c22] at H
                  have c22b0 : decide (x29_2 < (y253.length : Int)) = true := decide_eq_true c22
                  clear c22
                  replace H := Option.bind_eq_some_iff.mp H
                  obtain ⟨⟨t261, t264⟩, A230, H⟩ := H
                  replace H : ((minecontrolref04_Write.f k2 ((rd_T24 y253 x29_2).f0) ((rd_T24 y253 x29_2).f1) ((rd_T24 y253 x29_2).f2)).bind fun bt265 => (if (strOfNums t261).toList = (strOfNums bt265.1).toList then (if t264 = bt265.2 then (minecontrollaw04_TelegramWrites.l0 k2 l0 y253 (y253.length : Int) (wrap64 (x29_2 + 1))) else (some false)) else (some false))) = some r := H
                  have A23 := Aside0.mk A230
                  clear A230
                  replace H := Option.bind_eq_some_iff.mp H
                  obtain ⟨⟨t265, t268⟩, A240, H⟩ := H
                  replace H : (if (strOfNums t261).toList = (strOfNums t265).toList then (if t264 = t268 then (minecontrollaw04_TelegramWrites.l0 k2 l0 y253 (y253.length : Int) (wrap64 (x29_2 + 1))) else (some false)) else (some false)) = some r := H
                  have A24 := Aside0.mk A240
                  clear A240
                  by_cases c25 : (strOfNums t261).toList = (strOfNums t265).toList
                  · rw [if_pos c25] at H
                    have c25b0 : ((strOfNums t261).toList == (strOfNums t265).toList) = true := beq_iff_eq.mpr c25
                    have c25b1 : ((strOfNums t261).toList != (strOfNums t265).toList) = false := bne_eq_false_iff_eq.mpr c25
                    clear c25
                    by_cases c26 : t264 = t268
                    · rw [if_pos c26] at H
                      have c26b0 : (t264 == t268) = true := beq_iff_eq.mpr c26
                      have c26b1 : (t264 != t268) = false := bne_eq_false_iff_eq.mpr c26
                      clear c26
                      have H' := Aside0.mk H
                      clear H
                      have p259 : 0 ≤ (x29_2 : Int) := of_decide_eq_true (by first | (with_reducible assumption) | assumption)
                      have q259 : x29_2 < (y253.length : Int) := of_decide_eq_true (by first | (with_reducible assumption) | assumption)
                      obtain ⟨ad259, A259_2, c259_2, e259, hx259_0, hx259_1, hx259_2, hl259_2, hi259_2⟩ := at_T24 (Kd.N_reads' HO_27.out).2.2 x29_2 p259 q259
                      cases e259
                      obtain ⟨ce259, hce259, hMe259, hcc259⟩ := Kd.N_get HO_27.out z24 x29_2 p259 (by first | exact q259 | exact of_decide_eq_true (by first | (with_reducible assumption) | assumption) | (have e_ := (Kd.N_reads' HO_27.out).1; omega))
                      obtain ⟨ua259_2, uc259_2, rfl, ul259_2, ge259_2⟩ := k24_openF hMe259
                      have hv259_2 := hcc259 2 _ rfl
                      rw [add_field _ _ 2 (by omega)] at hv259_2
                      replace hv259_2 := Option.some.inj (hv259_2.symm.trans hx259_2)
                      injection hv259_2 with hva_ hvn_ hvc_
                      rw [hva_] at ge259_2
                      rw [hvc_] at ul259_2
                      have HL259_2 := Aside0.mk (show Kd.V (Kd.int .u8) 5 _ w.heap.size _ _ ((rd_T24 y253 x29_2).f2) from Kd.V_mk ul259_2 ge259_2)
                      clear hva_ hvn_ hvc_ ge259_2 ul259_2
                      clear hcc259 hce259
                      have HR259_2 := Aside0.mk hi259_2
                      have HC259_2 := Aside0.mk hl259_2
                      clear hi259_2 hl259_2
                      replace p259 := eq_true p259
                      replace q259 := eq_true q259
                      go_wp2_with (first | ((with_reducible refine gate_dst (N := 8) rfl ?_); (try (refine gate_guard (by rfl) ?_; dsimp only)); refine box_event ?hg (N := 8) ?hd (cs := #[.int .i64 0, .int .i64 0, .slice none 0 0]) (t := 24) ?hr ?_; (case hd => rfl); (case hg => rfl); (case hr => first | (go_simp; done) | (go_simp; rfl)); intro gb260 hg w27 hbox hb; have n0_ := Aside0.mk (Kd.N_below (Kd.N_elderB (by (with_reducible repeat (first | apply Kd.N_alloc | apply Kd.N_drewN | apply Kd.N_drew)); exact HO_27.out) gb260 (Nat.le_of_eq hg.symm)) hb); have n1_ := Aside0.mk (Kd.V_below (Kd.V_elderB (by (with_reducible repeat (first | apply Kd.V_alloc | apply Kd.V_drewN | apply Kd.V_drew)); exact HO_243002.out) gb260 (Nat.le_of_eq hg.symm)) hb); have n2_ := Aside0.mk (Kd.V_below (Kd.V_elderB (by (with_reducible repeat (first | apply Kd.V_alloc | apply Kd.V_drewN | apply Kd.V_drew)); exact HL259_2.out) gb260 (Nat.le_of_eq hg.symm)) hb); have n3_ := Aside0.mk (blk_below (g := gb242) (o := .cells #[.int .i64 a1_0, .int .i64 a1_1, .slice A1_2 l1_2.length c1_2] 24 (0, 0)) (by (with_reducible repeat (first | refine blk_drewN ?_ _ | refine blk_drew ?_ | refine blk_alloc ?_ _)); exact BK242.out) hb); have n4_ := Aside0.mk (Kd.C_below (by repeat (first | (with_reducible exact HR259_2.out) | (with_reducible refine Kd.C_alloc ?_ _) | (with_reducible refine Kd.C_drewN ?_ _) | (with_reducible refine Kd.C_drew ?_) | exact HR259_2.out)) hb); have n5_ := Aside0.mk (below_step (by repeat (first | (with_reducible first | exact HB.out | apply below_alloc | apply pw_below_drewN | apply below_drew1 | refine below_set ?_ GE242.out) | exact HB.out)) hb); have n6_ := Aside0.mk (hbox); have n7_ := Aside0.mk ((by rw [hg]; exact (below_size (by repeat (first | (with_reducible first | exact HB.out | apply below_alloc | apply pw_below_drewN | apply below_drew1 | refine below_set ?_ GE242.out) | exact HB.out))) : w.heap.size ≤ gb260)); have n8_ := Aside0.mk ((by rw [hg]; exact (below_size (by repeat (first | (with_reducible first | exact HB.out | apply below_alloc | apply pw_below_drewN | apply below_drew1 | refine below_set ?_ GE242.out) | exact HB.out))) : w.heap.size ≤ gb260)); have n9_ := Aside0.mk ((by rw [hg]; exact Nat.ne_of_lt (blk_lt (g := gb242) (o := .cells #[.int .i64 a1_0, .int .i64 a1_1, .slice A1_2 l1_2.length c1_2] 24 (0, 0)) (by (with_reducible repeat (first | refine blk_drewN ?_ _ | refine blk_drew ?_ | refine blk_alloc ?_ _)); exact BK242.out)) : gb242 ≠ gb260)); have n10_ := Aside0.mk ((by rw [hg]; exact Nat.ne_of_gt (blk_lt (g := gb242) (o := .cells #[.int .i64 a1_0, .int .i64 a1_1, .slice A1_2 l1_2.length c1_2] 24 (0, 0)) (by (with_reducible repeat (first | refine blk_drewN ?_ _ | refine blk_drew ?_ | refine blk_alloc ?_ _)); exact BK242.out)) : gb260 ≠ gb242)); clear HO_27; clear HO_243002; clear HL259_2; clear BK242; clear HR259_2; clear HB; have HO_27 := n0_; have HO_243002 := n1_; have HL259_2 := n2_; have BK242 := n3_; have HR259_2 := n4_; have HB := n5_; have BK260 := n6_; have GW260 := n7_; have GE260 := n8_; have NB242_260 := n9_; have NB260_242 := n10_; clear n0_ n1_ n2_ n3_ n4_ n5_ n6_ n7_ n8_ n9_ n10_; clear hb hbox hg; have hnb28 := NB260_242.out; have hnc28 := NB242_260.out; have hcz29_0 : w27.cell? ⟨gb260, 0, none⟩ = some (.int .i64 0) := (blk_cell BK260.out 0).trans rfl; have hcz29_1 : w27.cell? ⟨gb260, 1, none⟩ = some (.int .i64 0) := (blk_cell BK260.out 1).trans rfl; have hcz29_2 : w27.cell? ⟨gb260, 2, none⟩ = some (.slice none 0 0) := (blk_cell BK260.out 2).trans rfl; have hfz29_0 := blk_frozen BK260.out 0; have hfz29_1 := blk_frozen BK260.out 1; have hfz29_2 := blk_frozen BK260.out 2) | ((with_reducible refine gate_callee (f := 12) rfl ?_); refine goesL_ (some 35) rfl rfl Try.func12 (by kernel_rfl) rfl #[.agg #[.int .i64 ((rd_T24 y253 x29_2).f0), .int .i64 ((rd_T24 y253 x29_2).f1), .slice A259_2 ((rd_T24 y253 x29_2).f2).length c259_2]] rfl (by (try simp only [List.map_toArray, List.map_cons, List.map_nil]); first | done | rfl | (simp only [List.length_drop, List.length_take]; rfl)) ?_; (with_reducible refine (telegram_Write.calls k2 ((rd_T24 y253 x29_2).f0) ((rd_T24 y253 x29_2).f1) _ _ ((rd_T24 y253 x29_2).f2) t261 t264 _ ?side1 ?side2 A23.out).mono ?_); (case side1 => repeat (first | exact ((Kd.V_reads' (by (with_reducible repeat (first | apply Kd.V_alloc | apply Kd.V_drewN | apply Kd.V_drew)); exact (Kd.V_mono (Kd.V_far (p := ⟨gb260, 2, none⟩) (Kd.V_far (p := ⟨gb260, 1, none⟩) (Kd.V_far (p := ⟨gb260, 0, none⟩) (Kd.V_mono HL259_2.out (fun k_ hk => (⟨hk, hk.2⟩ : _ ∧ k_ ≠ gb260))) (fun _ hk => hk.2) (.int .i64 ((rd_T24 y253 x29_2).f0))) (fun _ hk => hk.2) (.int .i64 ((rd_T24 y253 x29_2).f1))) (fun _ hk => hk.2) (.slice A259_2 ((rd_T24 y253 x29_2).f2).length c259_2)) (fun _ h_ => h_.1)))).2.2) | (with_reducible refine Kd.C_alloc ?_ _) | (with_reducible refine Kd.C_drewN ?_ _) | (with_reducible refine Kd.C_drew ?_))); (case side2 => exact HC259_2.out); rintro e w30 ⟨v262, rfl, ho0, hb⟩; refine ⟨_, rfl, ?_⟩; have n0_ := Aside0.mk (Kd.N_elder' (by (with_reducible repeat (first | apply Kd.N_alloc | apply Kd.N_drewN | apply Kd.N_drew)); exact (Kd.N_mono (Kd.N_far (p := ⟨gb260, 2, none⟩) (Kd.N_far (p := ⟨gb260, 1, none⟩) (Kd.N_far (p := ⟨gb260, 0, none⟩) (Kd.N_mono HO_27.out (fun k_ hk => (⟨hk, hk.2⟩ : _ ∧ k_ ≠ gb260))) (fun _ hk => hk.2) (.int .i64 ((rd_T24 y253 x29_2).f0))) (fun _ hk => hk.2) (.int .i64 ((rd_T24 y253 x29_2).f1))) (fun _ hk => hk.2) (.slice A259_2 ((rd_T24 y253 x29_2).f2).length c259_2)) (fun _ h_ => h_.1))) (Kd.R_base ho0) hb); have n1_ := Aside0.mk (Kd.V_elder' (by (with_reducible repeat (first | apply Kd.V_alloc | apply Kd.V_drewN | apply Kd.V_drew)); exact (Kd.V_mono (Kd.V_far (p := ⟨gb260, 2, none⟩) (Kd.V_far (p := ⟨gb260, 1, none⟩) (Kd.V_far (p := ⟨gb260, 0, none⟩) (Kd.V_mono HO_243002.out (fun k_ hk => (⟨hk, hk.2⟩ : _ ∧ k_ ≠ gb260))) (fun _ hk => hk.2) (.int .i64 ((rd_T24 y253 x29_2).f0))) (fun _ hk => hk.2) (.int .i64 ((rd_T24 y253 x29_2).f1))) (fun _ hk => hk.2) (.slice A259_2 ((rd_T24 y253 x29_2).f2).length c259_2)) (fun _ h_ => h_.1))) (Kd.R_base ho0) hb); have n2_ := Aside0.mk (Kd.V_elder' (by (with_reducible repeat (first | apply Kd.V_alloc | apply Kd.V_drewN | apply Kd.V_drew)); exact (Kd.V_mono (Kd.V_far (p := ⟨gb260, 2, none⟩) (Kd.V_far (p := ⟨gb260, 1, none⟩) (Kd.V_far (p := ⟨gb260, 0, none⟩) (Kd.V_mono HL259_2.out (fun k_ hk => (⟨hk, hk.2⟩ : _ ∧ k_ ≠ gb260))) (fun _ hk => hk.2) (.int .i64 ((rd_T24 y253 x29_2).f0))) (fun _ hk => hk.2) (.int .i64 ((rd_T24 y253 x29_2).f1))) (fun _ hk => hk.2) (.slice A259_2 ((rd_T24 y253 x29_2).f2).length c259_2)) (fun _ h_ => h_.1))) (Kd.R_base ho0) hb); have n3_ := Aside0.mk (Kd.R_lower (Kd.R_newM (M := fun k_ => (w.heap.size ≤ k_)) ho0 (below_size (by repeat (first | (with_reducible first | exact HB.out | apply below_alloc | apply pw_below_drewN | apply below_drew1 | refine below_set ?_ GE242.out | refine below_set ?_ GE260.out) | exact HB.out))) (fun k_ h_ => h_)) (below_size (by repeat (first | (with_reducible first | exact HB.out | apply below_alloc | apply pw_below_drewN | apply below_drew1 | refine below_set ?_ GE242.out | refine below_set ?_ GE260.out) | exact HB.out)))); have n4_ := Aside0.mk (blk_below (g := gb242) (o := .cells #[.int .i64 a1_0, .int .i64 a1_1, .slice A1_2 l1_2.length c1_2] 24 (0, 0)) (by (with_reducible repeat (first | refine blk_drewN ?_ _ | refine blk_drew ?_ | refine blk_alloc ?_ _)); refine blk_far ?_ NB242_260.out _; (with_reducible repeat (first | refine blk_drewN ?_ _ | refine blk_drew ?_ | refine blk_alloc ?_ _)); refine blk_far ?_ NB242_260.out _; (with_reducible repeat (first | refine blk_drewN ?_ _ | refine blk_drew ?_ | refine blk_alloc ?_ _)); refine blk_far ?_ NB242_260.out _; (with_reducible repeat (first | refine blk_drewN ?_ _ | refine blk_drew ?_ | refine blk_alloc ?_ _)); exact BK242.out) hb); have n5_ := Aside0.mk (Kd.C_below ((Kd.V_reads' (by (with_reducible repeat (first | apply Kd.V_alloc | apply Kd.V_drewN | apply Kd.V_drew)); exact (Kd.V_mono (Kd.V_far (p := ⟨gb260, 2, none⟩) (Kd.V_far (p := ⟨gb260, 1, none⟩) (Kd.V_far (p := ⟨gb260, 0, none⟩) (Kd.V_mono HL259_2.out (fun k_ hk => (⟨hk, hk.2⟩ : _ ∧ k_ ≠ gb260))) (fun _ hk => hk.2) (.int .i64 ((rd_T24 y253 x29_2).f0))) (fun _ hk => hk.2) (.int .i64 ((rd_T24 y253 x29_2).f1))) (fun _ hk => hk.2) (.slice A259_2 ((rd_T24 y253 x29_2).f2).length c259_2)) (fun _ h_ => h_.1)))).2.2) hb); have n6_ := Aside0.mk (blk_below (g := gb260) (o := .cells #[.int .i64 ((rd_T24 y253 x29_2).f0), .int .i64 ((rd_T24 y253 x29_2).f1), .slice A259_2 ((rd_T24 y253 x29_2).f2).length c259_2] 24 (0, 0)) (by (with_reducible repeat (first | refine blk_drewN ?_ _ | refine blk_drew ?_ | refine blk_alloc ?_ _)); refine blk_put (cs := #[.int .i64 ((rd_T24 y253 x29_2).f0), .int .i64 ((rd_T24 y253 x29_2).f1), .slice none 0 0]) ?_ 2 _ rfl; (with_reducible repeat (first | refine blk_drewN ?_ _ | refine blk_drew ?_ | refine blk_alloc ?_ _)); refine blk_put (cs := #[.int .i64 ((rd_T24 y253 x29_2).f0), .int .i64 0, .slice none 0 0]) ?_ 1 _ rfl; (with_reducible repeat (first | refine blk_drewN ?_ _ | refine blk_drew ?_ | refine blk_alloc ?_ _)); refine blk_put (cs := #[.int .i64 0, .int .i64 0, .slice none 0 0]) ?_ 0 _ rfl; (with_reducible repeat (first | refine blk_drewN ?_ _ | refine blk_drew ?_ | refine blk_alloc ?_ _)); exact BK260.out) hb); have n7_ := Aside0.mk (below_step (by repeat (first | (with_reducible first | exact HB.out | apply below_alloc | apply pw_below_drewN | apply below_drew1 | refine below_set ?_ GE242.out | refine below_set ?_ GE260.out) | exact HB.out)) hb); clear HO_27; clear HO_243002; clear HL259_2; clear BK242; clear HR259_2; clear BK260; clear HB; have HO_27 := n0_; have HO_243002 := n1_; have HL259_2 := n2_; have HO263 := n3_; have BK242 := n4_; have HR259_2 := n5_; have BK260 := n6_; have HB := n7_; clear n0_ n1_ n2_ n3_ n4_ n5_ n6_ n7_; (try clear hb); (try clear hb2); (try clear hge); (try clear hk); (try clear hi); (try clear ho0); have hcz31_0 : w30.cell? ⟨gb260, 0, none⟩ = some (.int .i64 ((rd_T24 y253 x29_2).f0)) := (blk_cell BK260.out 0).trans rfl; have hcz31_1 : w30.cell? ⟨gb260, 1, none⟩ = some (.int .i64 ((rd_T24 y253 x29_2).f1)) := (blk_cell BK260.out 1).trans rfl; have hcz31_2 : w30.cell? ⟨gb260, 2, none⟩ = some (.slice A259_2 ((rd_T24 y253 x29_2).f2).length c259_2) := (blk_cell BK260.out 2).trans rfl; have hfz31_0 := blk_frozen BK260.out 0; have hfz31_1 := blk_frozen BK260.out 1; have hfz31_2 := blk_frozen BK260.out 2) | ((with_reducible refine gate_callee (f := 13) rfl ?_); refine goesL_ (some 40) rfl rfl Try.func13 (by kernel_rfl) rfl #[.agg #[.int .i64 ((rd_T24 y253 x29_2).f0), .int .i64 ((rd_T24 y253 x29_2).f1), .slice A259_2 ((rd_T24 y253 x29_2).f2).length c259_2]] rfl (by (try simp only [List.map_toArray, List.map_cons, List.map_nil]); first | done | rfl | (simp only [List.length_drop, List.length_take]; rfl)) ?_; (with_reducible refine (minecontrolref04_Write.calls k2 ((rd_T24 y253 x29_2).f0) ((rd_T24 y253 x29_2).f1) _ _ ((rd_T24 y253 x29_2).f2) t265 t268 _ ?side1 ?side2 A24.out).mono ?_); (case side1 => repeat (first | exact (by repeat (first | (with_reducible exact HR259_2.out) | (with_reducible refine Kd.C_alloc ?_ _) | (with_reducible refine Kd.C_drewN ?_ _) | (with_reducible refine Kd.C_drew ?_) | exact HR259_2.out)) | (with_reducible refine Kd.C_alloc ?_ _) | (with_reducible refine Kd.C_drewN ?_ _) | (with_reducible refine Kd.C_drew ?_))); (case side2 => exact HC259_2.out); rintro e w32 ⟨v266, rfl, ho0, hb⟩; refine ⟨_, rfl, ?_⟩; have n0_ := Aside0.mk (Kd.N_elder' (by (with_reducible repeat (first | apply Kd.N_alloc | apply Kd.N_drewN | apply Kd.N_drew)); exact HO_27.out) (Kd.R_base ho0) hb); have n1_ := Aside0.mk (Kd.V_elder' (by (with_reducible repeat (first | apply Kd.V_alloc | apply Kd.V_drewN | apply Kd.V_drew)); exact HO_243002.out) (Kd.R_base ho0) hb); have n2_ := Aside0.mk (Kd.V_elder' (by (with_reducible repeat (first | apply Kd.V_alloc | apply Kd.V_drewN | apply Kd.V_drew)); exact HL259_2.out) (Kd.R_base ho0) hb); have n3_ := Aside0.mk (Kd.R_elder' (by (with_reducible repeat (first | apply Kd.R_alloc | apply Kd.R_drewN | apply Kd.R_drew)); exact HO263.out) (Kd.R_base ho0) hb); have n4_ := Aside0.mk (Kd.R_lower (Kd.R_new' (Kd.R_newM (M := fun k_ => (w.heap.size ≤ k_)) ho0 (below_size (by repeat (first | (with_reducible first | exact HB.out | apply below_alloc | apply pw_below_drewN | apply below_drew1 | refine below_set ?_ GE242.out | refine below_set ?_ GE260.out) | exact HB.out))) (fun k_ h_ => h_)) (Kd.R_lt (by (with_reducible repeat (first | apply Kd.R_alloc | apply Kd.R_drewN | apply Kd.R_drew)); exact HO263.out))) (below_size (by repeat (first | (with_reducible first | exact HB.out | apply below_alloc | apply pw_below_drewN | apply below_drew1 | refine below_set ?_ GE242.out | refine below_set ?_ GE260.out) | exact HB.out)))); have n5_ := Aside0.mk (blk_below (g := gb242) (o := .cells #[.int .i64 a1_0, .int .i64 a1_1, .slice A1_2 l1_2.length c1_2] 24 (0, 0)) (by (with_reducible repeat (first | refine blk_drewN ?_ _ | refine blk_drew ?_ | refine blk_alloc ?_ _)); exact BK242.out) hb); have n6_ := Aside0.mk (Kd.C_below (by repeat (first | (with_reducible exact HR259_2.out) | (with_reducible refine Kd.C_alloc ?_ _) | (with_reducible refine Kd.C_drewN ?_ _) | (with_reducible refine Kd.C_drew ?_) | exact HR259_2.out)) hb); have n7_ := Aside0.mk (blk_below (g := gb260) (o := .cells #[.int .i64 ((rd_T24 y253 x29_2).f0), .int .i64 ((rd_T24 y253 x29_2).f1), .slice A259_2 ((rd_T24 y253 x29_2).f2).length c259_2] 24 (0, 0)) (by (with_reducible repeat (first | refine blk_drewN ?_ _ | refine blk_drew ?_ | refine blk_alloc ?_ _)); exact BK260.out) hb); have n8_ := Aside0.mk (below_step (by repeat (first | (with_reducible first | exact HB.out | apply below_alloc | apply pw_below_drewN | apply below_drew1 | refine below_set ?_ GE242.out | refine below_set ?_ GE260.out) | exact HB.out)) hb); clear HO_27; clear HO_243002; clear HL259_2; clear HO263; clear BK242; clear HR259_2; clear BK260; clear HB; have HO_27 := n0_; have HO_243002 := n1_; have HL259_2 := n2_; have HO263 := n3_; have HO267 := n4_; have BK242 := n5_; have HR259_2 := n6_; have BK260 := n7_; have HB := n8_; clear n0_ n1_ n2_ n3_ n4_ n5_ n6_ n7_ n8_; (try clear hb); (try clear hb2); (try clear hge); (try clear hk); (try clear hi); (try clear ho0); have hcv33 := own_string (P := Try.prog) Try.underlying22 Try.underlying5 Try.underlying9 (Kd.own_of_R HO263.out); have hcv34 := own_string (P := Try.prog) Try.underlying22 Try.underlying5 Try.underlying9 (Kd.own_of_R HO267.out)))
                      go_roundg k2
                      case measure => have := HJ3.out; have := HK2.out; omega
                      case rel => exact ⟨(wrap64 (x29_2 + 1)), (by first | rfl | (simp; done) | (simp [*]; done)), H', ⟨by have := HJ3.out; have := HK2.out; omega⟩, ⟨by (with_reducible repeat (first | apply Kd.N_alloc | apply Kd.N_drewN | apply Kd.N_drew)); exact Kd.N_mono HO_27.out (fun _ hk => ⟨hk.1.1.1.1, hk.1.1.1.2⟩)⟩, ⟨by (with_reducible repeat (first | apply Kd.V_alloc | apply Kd.V_drewN | apply Kd.V_drew)); exact Kd.V_mono HO_243002.out (fun _ hk => ⟨hk.1.1.1.1, ⟨hk.1.1.1.2.1, hk.1.1.1.2.2⟩⟩)⟩, ⟨by (with_reducible repeat (first | refine blk_drewN ?_ _ | refine blk_drew ?_ | refine blk_alloc ?_ _)); exact BK242.out⟩, ⟨by repeat (first | (with_reducible first | exact HB.out | apply below_alloc | apply pw_below_drewN | apply below_drew1 | refine below_set ?_ GE242.out | refine below_set ?_ GE260.out) | exact HB.out)⟩⟩
                    · rw [if_neg c26] at H
                      have c26b0 : (t264 == t268) = false := beq_eq_false_iff_ne.mpr c26
                      have c26b1 : (t264 != t268) = true := bne_iff_ne.mpr c26
                      obtain rfl := Option.some.inj H
                      exact absurd hr_.out (by decide)
                  · rw [if_neg c25] at H
                    have c25b0 : ((strOfNums t261).toList == (strOfNums t265).toList) = false := beq_eq_false_iff_ne.mpr c25
                    have c25b1 : ((strOfNums t261).toList != (strOfNums t265).toList) = true := bne_iff_ne.mpr c25
                    obtain rfl := Option.some.inj H
                    exact absurd hr_.out (by decide)
                · rw [if_neg c22] at H
                  exact absurd H (by simp)
              · rw [if_neg c21] at H
                exact absurd H (by simp)
            · rw [if_neg c20] at H
              have c20b0 : decide (x29_2 < (y253.length : Int)) = false := decide_eq_false c20
              clear c20
              replace H := Option.bind_eq_some_iff.mp H
              obtain ⟨t256, A350, H⟩ := H
              replace H : ((minecontrolref04_Check.f k2 l0).bind fun t257 => (if t256 = t257 then ((minecontrollaw04_awake.f k2).bind fun t258 => (some t258)) else (some false))) = some r := H
              have A35 := Aside0.mk A350
              clear A350
              replace H := Option.bind_eq_some_iff.mp H
              obtain ⟨t257, A360, H⟩ := H
              replace H : (if t256 = t257 then ((minecontrollaw04_awake.f k2).bind fun t258 => (some t258)) else (some false)) = some r := H
              have A36 := Aside0.mk A360
              clear A360
              by_cases c37 : t256 = t257
              · rw [if_pos c37] at H
                have c37b0 : (t256 == t257) = true := beq_iff_eq.mpr c37
                have c37b1 : (t256 != t257) = false := bne_eq_false_iff_eq.mpr c37
                clear c37
                replace H := Option.bind_eq_some_iff.mp H
                obtain ⟨t258, A380, H⟩ := H
                replace H : (some t258) = some r := H
                have A38 := Aside0.mk A380
                clear A380
                obtain rfl := Option.some.inj H
                go_wp2_with (first | ((with_reducible refine gate_callee (f := 14) rfl ?_); refine goesL_ (some 55) rfl rfl Try.func14 (by kernel_rfl) rfl #[.slice A0 l0.length c0] rfl (by (try simp only [List.map_toArray, List.map_cons, List.map_nil]); first | done | rfl | (simp only [List.length_drop, List.length_take]; rfl)) ?_; (with_reducible refine (telegram_Check.calls k2 _ _ l0 t256 _ ?side1 ?side2 A35.out).mono ?_); (case side1 => repeat (first | exact (Kd.C_below HR0.out HB.out) | (with_reducible refine Kd.C_alloc ?_ _) | (with_reducible refine Kd.C_drewN ?_ _) | (with_reducible refine Kd.C_drew ?_))); (case side2 => exact HC0.out); rintro e w' ⟨rfl, ⟨nd, rfl⟩⟩; refine ⟨_, rfl, ?_⟩) | ((with_reducible refine gate_callee (f := 15) rfl ?_); refine goesL_ (some 57) rfl rfl Try.func15 (by kernel_rfl) rfl #[.slice A0 l0.length c0] rfl (by (try simp only [List.map_toArray, List.map_cons, List.map_nil]); first | done | rfl | (simp only [List.length_drop, List.length_take]; rfl)) ?_; (with_reducible refine (minecontrolref04_Check.calls k2 _ _ l0 t257 _ ?side1 ?side2 A36.out).mono ?_); (case side1 => repeat (first | exact (Kd.C_below HR0.out (by repeat (first | (with_reducible first | exact HB.out | apply below_alloc | apply pw_below_drewN | apply below_drew1 | refine below_set ?_ GE242.out) | exact HB.out))) | (with_reducible refine Kd.C_alloc ?_ _) | (with_reducible refine Kd.C_drewN ?_ _) | (with_reducible refine Kd.C_drew ?_))); (case side2 => exact HC0.out); rintro e w' ⟨rfl, ⟨nd, rfl⟩⟩; refine ⟨_, rfl, ?_⟩) | (go_at_call 9; (with_reducible refine (minecontrollaw04_awake.calls k2  t258 _ A38.out).mono ?_); rintro e w39 ⟨rfl, hb⟩; have n0_ := Aside0.mk (Kd.N_below (by (with_reducible repeat (first | apply Kd.N_alloc | apply Kd.N_drewN | apply Kd.N_drew)); exact HO_27.out) hb); have n1_ := Aside0.mk (Kd.V_below (by (with_reducible repeat (first | apply Kd.V_alloc | apply Kd.V_drewN | apply Kd.V_drew)); exact HO_243002.out) hb); have n2_ := Aside0.mk (blk_below (g := gb242) (o := .cells #[.int .i64 a1_0, .int .i64 a1_1, .slice A1_2 l1_2.length c1_2] 24 (0, 0)) (by (with_reducible repeat (first | refine blk_drewN ?_ _ | refine blk_drew ?_ | refine blk_alloc ?_ _)); exact BK242.out) hb); have n3_ := Aside0.mk (below_step (by repeat (first | (with_reducible first | exact HB.out | apply below_alloc | apply pw_below_drewN | apply below_drew1 | refine below_set ?_ GE242.out) | exact HB.out)) hb); clear HO_27; clear HO_243002; clear BK242; clear HB; have HO_27 := n0_; have HO_243002 := n1_; have BK242 := n2_; have HB := n3_; clear n0_ n1_ n2_ n3_; (try clear hb); (try clear hb2); (try clear hge); (try clear hk); (try clear hi)))
                go_ret
                exact ⟨by first | rfl | (simp [errW_none, errW_some] <;> rfl) | (simp [*, errW_none, errW_some] <;> rfl), by repeat (first | (with_reducible first | exact HB.out | apply below_alloc | apply pw_below_drewN | apply below_drew1 | refine below_set ?_ GE242.out) | exact HB.out)⟩
              · rw [if_neg c37] at H
                have c37b0 : (t256 == t257) = false := beq_eq_false_iff_ne.mpr c37
                have c37b1 : (t256 != t257) = true := bne_iff_ne.mpr c37
                obtain rfl := Option.some.inj H
                exact absurd hr_.out (by decide)

/-- THE ONE PURE STATEMENT of minecontrollaw04_TelegramWrites: yours. -/
def minecontrollaw04_TelegramWrites.Pure : Prop := ∀ (l0 : List Int) (a1_0 : Int) (a1_1 : Int) (l1_2 : List Int) (l2 : List Int), l0.length ≤ maxLen → l0.length * 1 ≤ 140737488351232 → (∀ x ∈ l0, (Lit.int .u8 x).wf = true) → ((Lit.int .i64 a1_0).wf = true) → ((Lit.int .i64 a1_1).wf = true) → (l1_2.length ≤ maxLen ∧ ∀ x ∈ l1_2, (Lit.int .u8 x).wf = true) → l2.length ≤ maxLen → l2.length * 1 ≤ 140737488351232 → (∀ x ∈ l2, (Lit.int .u8 x).wf = true) → ∃ k, minecontrollaw04_TelegramWrites.f k l0 a1_0 a1_1 l1_2 l2 = some true
theorem minecontrollaw04_TelegramWrites.walk (P : minecontrollaw04_TelegramWrites.Pure) (a0 : Option Addr) (len0 cap0 : Nat) (z0 : List Int) (a1_0 : Int) (a1_1 : Int) (A1_2 : Option Addr) (c1_2 : Nat) (l1_2 : List Int) (a2 : Option Addr) (len2 cap2 : Nat) (z2 : List Int) (w : World) (w0 : (a0 = none ∧ len0 = 0 ∧ cap0 = 0 ∧ z0 = []) ∨ ∃ x, a0 = some x ∧ len0 ≤ cap0 ∧ cap0 ≤ maxLen ∧ z0.length = cap0 ∧ (∀ i, i < z0.length → w.cell? (x.add i) = some (.int .u8 (z0.getD i 0))) ∧ ∀ n ∈ z0, (Lit.int .u8 n).wf = true) (y0 : len0 * 1 ≤ 140737488351232) (q1_0 : (Lit.int .i64 a1_0).wf = true) (q1_1 : (Lit.int .i64 a1_1).wf = true) (hr1_2 : Kd.C (Kd.int .u8) w A1_2 l1_2.length l1_2) (hc1_2 : l1_2.length ≤ c1_2) (q1_2 : l1_2.length ≤ maxLen ∧ ∀ x ∈ l1_2, (Lit.int .u8 x).wf = true) (w2 : (a2 = none ∧ len2 = 0 ∧ cap2 = 0 ∧ z2 = []) ∨ ∃ x, a2 = some x ∧ len2 ≤ cap2 ∧ cap2 ≤ maxLen ∧ z2.length = cap2 ∧ (∀ i, i < z2.length → w.cell? (x.add i) = some (.int .u8 (z2.getD i 0))) ∧ ∀ n ∈ z2, (Lit.int .u8 n).wf = true) (y2 : len2 * 1 ≤ 140737488351232) :
    Calls Try.prog 3 #[.slice a0 len0 cap0, .agg #[.int .i64 a1_0, .int .i64 a1_1, .slice A1_2 l1_2.length c1_2], .slice a2 len2 cap2] w fun e w' => e = .returned (.bool true) ∧ Below w.heap.size w w' := by
  obtain ⟨l0, rfl, hr0, hm0, hw0, hc0⟩ := ReadsInt.ofRowC w0
  obtain ⟨l2, rfl, hr2, hm2, hw2, hc2⟩ := ReadsInt.ofRowC w2
  obtain ⟨k, h⟩ := P l0 a1_0 a1_1 l1_2 l2 hm0 y0 hw0 q1_0 q1_1 q1_2 hm2 y2 hw2
  refine (minecontrollaw04_TelegramWrites.calls1 k _ _ l0 a1_0 a1_1 (fun k_ => k_ < w.heap.size) _ _ l1_2 _ _ l2 true w (Kd.C_of_reads (d := (0 : Int)) (h1 := fun _ => rfl) hr0) hc0 (Kd.V_mk hc1_2 (Kd.C_F (Kd.heap_int .u8) hr1_2)) (Kd.C_of_reads (d := (0 : Int)) (h1 := fun _ => rfl) hr2) hc2 (.mk rfl) h).mono ?_
  rintro e w' ⟨rfl, hd⟩
  exact ⟨rfl, hd⟩

end Go.Proofs.Ytacogcnckhgjbaa.PTel
