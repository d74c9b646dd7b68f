/- Functions of the given program as Lean functions, and proofs that its calls come to what these say. Written by a program of this seat (wip/mkprint.py); Lean checks it all. -/
import Derived.Test.YtmlkchkhgjebgaaPDoox0
import Derived.Test.YtmlkchkhgjebgaaPDoox3
import Derived.Test.YtmlkchkhgjebgaaPDoox4
import Derived.Test.YtmlkchkhgjebgaaPDoox5
import Derived.Test.YtmlkchkhgjebgaaPDoox7
import Derived.Test.YtmlkchkhgjebgaaPDoox8
namespace Go.Proofs.Ytmlkchkhgjebgaa.PDoo
open Go.RowKit Go.Proofs.YtmlkchkhgjebgaaW.PrintWords Go.Proofs.YtmlkchkhgjebgaaW.PrintLast Go.Proofs.YtmlkchkhgjebgaaW.PrintMore
attribute [local go_sem] max2_int min2_int max_two min_two max_three min_three max_four min_four   -- for this text's walks alone
set_option linter.unusedVariables false
set_option linter.unusedSimpArgs false

/-! ### minecontrollaw08_DoorShuts: function 6 -/
mutual
def minecontrollaw08_DoorShuts.j0 : Nat → Int → List (S36) → List Int → Bool → Option (Bool)
 | 0, _, _, _, _ => none
 | k + 1, x1, x5, x6, x32 => if x32 = true then ((minecontrollaw08_awake.f k).bind fun t374 => (some t374)) else ((minecontroldraw_Mod.f x1 (x5.length : Int)).bind fun t375 => ((door_Command.f k x5 x6 t375 0).bind fun bt376 => (if bt376.2 = 0 then (if (bt376.1.length : Int) = (x5.length : Int) then (if 0 ≤ t375 then (if t375 < (bt376.1.length : Int) then (minecontrollaw08_DoorShuts.j1 k x5 t375 ((rd bt376.1 t375) != 0)) else (none)) else (none)) else (minecontrollaw08_DoorShuts.j1 k x5 t375 true)) else (minecontrollaw08_DoorShuts.j1 k x5 t375 true))))
def minecontrollaw08_DoorShuts.j1 : Nat → List (S36) → Int → Bool → Option (Bool)
 | 0, _, _, _ => none
 | k + 1, x5, x7, x60 => if x60 = true then (some false) else (if 0 ≤ x7 then (if x7 < (x5.length : Int) then ((door_Rest.f k ((rd_T36 x5 x7).f0) ((rd_T36 x5 x7).f1) ((rd_T36 x5 x7).f2) (-1)).bind fun bt382 => (minecontrollaw08_DoorShuts.l0 k x5 x7 0 bt382.1 bt382.2)) else (none)) else (none))
def minecontrollaw08_DoorShuts.l0 : Nat → List (S36) → Int → Int → Int → Int → Option (Bool)
 | 0, _, _, _, _, _ => none
 | k + 1, x5, x7, x11, x385000, x385001 => if 0 ≤ x7 then (if x7 < (x5.length : Int) then (if x11 < (((rd_T36 x5 x7).f2).length : Int) then ((door_Rest.f k ((rd_T36 x5 x7).f0) ((rd_T36 x5 x7).f1) ((rd_T36 x5 x7).f2) x11).bind fun bt387 => (if 0 ≤ x11 then (if bt387.1 = (rd ((rd_T36 x5 x7).f2) x11) then (if bt387.2 = bt387.1 then (if x385000 > bt387.1 then (some false) else (if x385001 < bt387.2 then (some false) else (minecontrollaw08_DoorShuts.l0 k x5 x7 (wrap64 (x11 + 1)) x385000 x385001))) else (some false)) else (some false)) else (none))) else ((minecontrollaw08_awake.f k).bind fun t392 => (some t392))) else (none)) else (none)
end
def minecontrollaw08_DoorShuts.f (k : Nat) (l0 : List Int) (a1 : Int) : Option (Bool) := (minecontrollaw08_doors.f k l0 0 0).bind fun bt367 => ((minecontrolref08_Check.f k bt367.1).bind fun t373 => (if t373 = 0 then (if (bt367.1.length : Int) = 0 then (minecontrollaw08_DoorShuts.j0 k a1 bt367.1 bt367.2 true) else (minecontrollaw08_DoorShuts.j0 k a1 bt367.1 bt367.2 ((bt367.2.length : Int) != (bt367.1.length : Int)))) else (minecontrollaw08_DoorShuts.j0 k a1 bt367.1 bt367.2 true)))
theorem minecontrollaw08_DoorShuts.mono_l : ∀ k, (∀ y0 y1 y2 y3, LeO (minecontrollaw08_DoorShuts.j0 k y0 y1 y2 y3) (minecontrollaw08_DoorShuts.j0 (k + 1) y0 y1 y2 y3)) ∧ (∀ y0 y1 y2, LeO (minecontrollaw08_DoorShuts.j1 k y0 y1 y2) (minecontrollaw08_DoorShuts.j1 (k + 1) y0 y1 y2)) ∧ (∀ y0 y1 y2 y3 y4, LeO (minecontrollaw08_DoorShuts.l0 k y0 y1 y2 y3 y4) (minecontrollaw08_DoorShuts.l0 (k + 1) y0 y1 y2 y3 y4))
 | 0 => ⟨fun _ _ _ _ r h => by simp [minecontrollaw08_DoorShuts.j0] at h, fun _ _ _ r h => by simp [minecontrollaw08_DoorShuts.j1] at h, fun _ _ _ _ _ r h => by simp [minecontrollaw08_DoorShuts.l0] at h⟩
 | k + 1 => by
  obtain ⟨ih0, ih1, ih2⟩ := minecontrollaw08_DoorShuts.mono_l k
  refine ⟨?_, ?_, ?_⟩
  ·
   intro y0 y1 y2 y3
   unfold minecontrollaw08_DoorShuts.j0
   repeat' first
   | (with_reducible exact ih0 _ _ _ _)
   | (with_reducible exact ih1 _ _ _)
   | (with_reducible exact ih2 _ _ _ _ _)
   | (with_reducible exact door_Command.mono _ _ _ _ _)
   | (with_reducible exact door_Rest.mono _ _ _ _ _)
   | (with_reducible exact minecontrollaw08_awake.mono _)
   | (with_reducible exact minecontrollaw08_doors.mono _ _ _ _)
   | (with_reducible exact minecontrolref08_Check.mono _ _)
   | (with_reducible exact LeO.refl _)
   | (with_reducible exact LeO.none _)
   | (with_reducible refine LeO.ite ?_ ?_)
   | (with_reducible refine LeO.bind ?_ (fun _ => ?_))
   | exact ih0 _ _ _ _
   | exact ih1 _ _ _
   | exact ih2 _ _ _ _ _
   | exact door_Command.mono _ _ _ _ _
   | exact door_Rest.mono _ _ _ _ _
   | exact minecontrollaw08_awake.mono _
   | exact minecontrollaw08_doors.mono _ _ _ _
   | exact minecontrolref08_Check.mono _ _
   | exact LeO.none _
   | refine LeO.ite ?_ ?_
   | refine LeO.bind ?_ (fun _ => ?_)
  ·
   intro y0 y1 y2
   unfold minecontrollaw08_DoorShuts.j1
   repeat' first
   | (with_reducible exact ih0 _ _ _ _)
   | (with_reducible exact ih1 _ _ _)
   | (with_reducible exact ih2 _ _ _ _ _)
   | (with_reducible exact door_Command.mono _ _ _ _ _)
   | (with_reducible exact door_Rest.mono _ _ _ _ _)
   | (with_reducible exact minecontrollaw08_awake.mono _)
   | (with_reducible exact minecontrollaw08_doors.mono _ _ _ _)
   | (with_reducible exact minecontrolref08_Check.mono _ _)
   | (with_reducible exact LeO.refl _)
   | (with_reducible exact LeO.none _)
   | (with_reducible refine LeO.ite ?_ ?_)
   | (with_reducible refine LeO.bind ?_ (fun _ => ?_))
   | exact ih0 _ _ _ _
   | exact ih1 _ _ _
   | exact ih2 _ _ _ _ _
   | exact door_Command.mono _ _ _ _ _
   | exact door_Rest.mono _ _ _ _ _
   | exact minecontrollaw08_awake.mono _
   | exact minecontrollaw08_doors.mono _ _ _ _
   | exact minecontrolref08_Check.mono _ _
   | exact LeO.none _
   | refine LeO.ite ?_ ?_
   | refine LeO.bind ?_ (fun _ => ?_)
  ·
   intro y0 y1 y2 y3 y4
   unfold minecontrollaw08_DoorShuts.l0
   repeat' first
   | (with_reducible exact ih0 _ _ _ _)
   | (with_reducible exact ih1 _ _ _)
   | (with_reducible exact ih2 _ _ _ _ _)
   | (with_reducible exact door_Command.mono _ _ _ _ _)
   | (with_reducible exact door_Rest.mono _ _ _ _ _)
   | (with_reducible exact minecontrollaw08_awake.mono _)
   | (with_reducible exact minecontrollaw08_doors.mono _ _ _ _)
   | (with_reducible exact minecontrolref08_Check.mono _ _)
   | (with_reducible exact LeO.refl _)
   | (with_reducible exact LeO.none _)
   | (with_reducible refine LeO.ite ?_ ?_)
   | (with_reducible refine LeO.bind ?_ (fun _ => ?_))
   | exact ih0 _ _ _ _
   | exact ih1 _ _ _
   | exact ih2 _ _ _ _ _
   | exact door_Command.mono _ _ _ _ _
   | exact door_Rest.mono _ _ _ _ _
   | exact minecontrollaw08_awake.mono _
   | exact minecontrollaw08_doors.mono _ _ _ _
   | exact minecontrolref08_Check.mono _ _
   | exact LeO.none _
   | refine LeO.ite ?_ ?_
   | refine LeO.bind ?_ (fun _ => ?_)
theorem minecontrollaw08_DoorShuts.mono : ∀ a0 a1 k, LeO (minecontrollaw08_DoorShuts.f k a0 a1) (minecontrollaw08_DoorShuts.f (k + 1) a0 a1) := by
 intro a0 a1 k
 obtain ⟨ih0, ih1, ih2⟩ := minecontrollaw08_DoorShuts.mono_l k
 unfold minecontrollaw08_DoorShuts.f
 repeat' first
   | (with_reducible exact ih0 _ _ _ _)
   | (with_reducible exact ih1 _ _ _)
   | (with_reducible exact ih2 _ _ _ _ _)
   | (with_reducible exact door_Command.mono _ _ _ _ _)
   | (with_reducible exact door_Rest.mono _ _ _ _ _)
   | (with_reducible exact minecontrollaw08_awake.mono _)
   | (with_reducible exact minecontrollaw08_doors.mono _ _ _ _)
   | (with_reducible exact minecontrolref08_Check.mono _ _)
   | (with_reducible exact LeO.refl _)
   | (with_reducible exact LeO.none _)
   | (with_reducible refine LeO.ite ?_ ?_)
   | (with_reducible refine LeO.bind ?_ (fun _ => ?_))
   | exact ih0 _ _ _ _
   | exact ih1 _ _ _
   | exact ih2 _ _ _ _ _
   | exact door_Command.mono _ _ _ _ _
   | exact door_Rest.mono _ _ _ _ _
   | exact minecontrollaw08_awake.mono _
   | exact minecontrollaw08_doors.mono _ _ _ _
   | exact minecontrolref08_Check.mono _ _
   | exact LeO.none _
   | refine LeO.ite ?_ ?_
   | refine LeO.bind ?_ (fun _ => ?_)
set_option maxHeartbeats 8000000 in
set_option maxRecDepth 100000 in
theorem minecontrollaw08_DoorShuts.calls1 (k : Nat) (A0 : Option Addr) (c0 : Nat) (l0 : List Int) (a1 : Int) (r : Bool) (w : World) (hr0 : Kd.C (Kd.int .u8) w A0 l0.length l0) (hc0 : l0.length ≤ c0) (hr_ : Aside0 (r = true)) (h : minecontrollaw08_DoorShuts.f k l0 a1 = some r) :
  Calls Try.prog 6 #[.slice A0 l0.length c0, .int .i64 a1] w fun e w' => e = .returned (.bool r) ∧ Below w.heap.size w w' := by
 have hu36 := Try.underlying36
 have hu33 := Try.underlying33
 have HR0 := Aside0.mk hr0
 have HC0 := Aside0.mk hc0
 clear hr0 hc0
 have HB := Aside0.mk (Below.refl w.heap.size w)
 have H : ((minecontrollaw08_doors.f k l0 0 0).bind fun bt367 => ((minecontrolref08_Check.f k bt367.1).bind fun t373 => (if t373 = 0 then (if (bt367.1.length : Int) = 0 then (minecontrollaw08_DoorShuts.j0 k a1 bt367.1 bt367.2 true) else (minecontrollaw08_DoorShuts.j0 k a1 bt367.1 bt367.2 ((bt367.2.length : Int) != (bt367.1.length : Int)))) else (minecontrollaw08_DoorShuts.j0 k a1 bt367.1 bt367.2 true)))) = some r := h
 clear h
 replace H := Option.bind_eq_some_iff.mp H
 obtain ⟨⟨t367, t368⟩, A30, H⟩ := H
 replace H : ((minecontrolref08_Check.f k t367).bind fun t373 => (if t373 = 0 then (if (t367.length : Int) = 0 then (minecontrollaw08_DoorShuts.j0 k a1 t367 t368 true) else (minecontrollaw08_DoorShuts.j0 k a1 t367 t368 ((t368.length : Int) != (t367.length : Int)))) else (minecontrollaw08_DoorShuts.j0 k a1 t367 t368 true))) = some r := H
 have A3 := Aside0.mk A30
 clear A30
 have HC4 := Aside0.mk H
 clear H
 go_enter Try.func6, Try.ntmps6
 go_upto_region 2 with (first | (go_at_call 9; (with_reducible refine (minecontrollaw08_doors.calls k _ _ l0 0 0 t367 t368 _ ?side1 ?side2 A3.out).mono ?_); (case side1 => repeat (first | exact HR0.out | (with_reducible refine Kd.C_alloc ?_ _) | (with_reducible refine Kd.C_drewN ?_ _) | (with_reducible refine Kd.C_drew ?_))); (case side2 => exact HC0.out); rintro e w5 ⟨v369, v371, rfl, ho0, ho1, hb⟩; have n0_ := Aside0.mk (Kd.S_lower ho0 (below_size (by repeat (first | (with_reducible first | exact HB.out | apply below_alloc | apply pw_below_drewN | apply below_drew1) | exact HB.out)))); have n1_ := Aside0.mk (Kd.Q_lower ho1 (below_size (by repeat (first | (with_reducible first | exact HB.out | apply below_alloc | apply pw_below_drewN | apply below_drew1) | exact HB.out)))); have n2_ := Aside0.mk (below_step (by repeat (first | (with_reducible first | exact HB.out | apply below_alloc | apply pw_below_drewN | apply below_drew1) | exact HB.out)) hb); clear HB; have HO370 := n0_; have HO372 := n1_; have HB := n2_; clear n0_ n1_ n2_; (try clear hb); (try clear hb2); (try clear hge); (try clear hk); (try clear hi); (try clear ho0); (try clear ho1)))
 repeat (go_quiet (first | (go_at_call 9; (with_reducible refine (minecontrollaw08_doors.calls k _ _ l0 0 0 t367 t368 _ ?side1 ?side2 A3.out).mono ?_); (case side1 => repeat (first | exact HR0.out | (with_reducible refine Kd.C_alloc ?_ _) | (with_reducible refine Kd.C_drewN ?_ _) | (with_reducible refine Kd.C_drew ?_))); (case side2 => exact HC0.out); rintro e w5 ⟨v369, v371, rfl, ho0, ho1, hb⟩; have n0_ := Aside0.mk (Kd.S_lower ho0 (below_size (by repeat (first | (with_reducible first | exact HB.out | apply below_alloc | apply pw_below_drewN | apply below_drew1) | exact HB.out)))); have n1_ := Aside0.mk (Kd.Q_lower ho1 (below_size (by repeat (first | (with_reducible first | exact HB.out | apply below_alloc | apply pw_below_drewN | apply below_drew1) | exact HB.out)))); have n2_ := Aside0.mk (below_step (by repeat (first | (with_reducible first | exact HB.out | apply below_alloc | apply pw_below_drewN | apply below_drew1) | exact HB.out)) hb); clear HB; have HO370 := n0_; have HO372 := n1_; have HB := n2_; clear n0_ n1_ n2_; (try clear hb); (try clear hb2); (try clear hge); (try clear hk); (try clear hi); (try clear ho0); (try clear ho1))); go_upto_region 2 with (first | (go_at_call 9; (with_reducible refine (minecontrollaw08_doors.calls k _ _ l0 0 0 t367 t368 _ ?side1 ?side2 A3.out).mono ?_); (case side1 => repeat (first | exact HR0.out | (with_reducible refine Kd.C_alloc ?_ _) | (with_reducible refine Kd.C_drewN ?_ _) | (with_reducible refine Kd.C_drew ?_))); (case side2 => exact HC0.out); rintro e w5 ⟨v369, v371, rfl, ho0, ho1, hb⟩; have n0_ := Aside0.mk (Kd.S_lower ho0 (below_size (by repeat (first | (with_reducible first | exact HB.out | apply below_alloc | apply pw_below_drewN | apply below_drew1) | exact HB.out)))); have n1_ := Aside0.mk (Kd.Q_lower ho1 (below_size (by repeat (first | (with_reducible first | exact HB.out | apply below_alloc | apply pw_below_drewN | apply below_drew1) | exact HB.out)))); have n2_ := Aside0.mk (below_step (by repeat (first | (with_reducible first | exact HB.out | apply below_alloc | apply pw_below_drewN | apply below_drew1) | exact HB.out)) hb); clear HB; have HO370 := n0_; have HO372 := n1_; have HB := n2_; clear n0_ n1_ n2_; (try clear hb); (try clear hb2); (try clear hge); (try clear hk); (try clear hi); (try clear ho0); (try clear ho1))))
 (try simp only [Act.put, List.setIfInBounds_toArray, List.set_cons_zero, List.set_cons_succ])
 go_cut [32] (fun v32 wc => ∃ (kq : Nat) (x32_3 : Bool), v32 = .bool x32_3 ∧ Aside0 (minecontrollaw08_DoorShuts.j0 kq a1 t367 t368 x32_3 = some r) ∧ Aside0 (kq ≤ k) ∧ Aside0 (Kd.S k36 36 wc w.heap.size (fun k_ => some k_ ≠ (v371 : Value).ownBlock) v369 t367) ∧ Aside0 (Kd.Q (Kd.int .i64) 3 wc w.heap.size (fun _ => True) v371 t368) ∧ Aside0 (Below w.heap.size w wc))
 case first =>
  have H := HC4.out
  clear HC4
  replace H := Option.bind_eq_some_iff.mp H
  obtain ⟨t373, A60, H⟩ := H
  replace H : (if t373 = 0 then (if (t367.length : Int) = 0 then (minecontrollaw08_DoorShuts.j0 k a1 t367 t368 true) else (minecontrollaw08_DoorShuts.j0 k a1 t367 t368 ((t368.length : Int) != (t367.length : Int)))) else (minecontrollaw08_DoorShuts.j0 k a1 t367 t368 true)) = some r := H
  have A6 := Aside0.mk A60
  clear A60
  by_cases c7 : t373 = 0
  ·
   rw [if_pos c7] at H
   have c7b0 : (t373 == 0) = true := beq_iff_eq.mpr c7
   have c7b1 : (t373 != 0) = false := bne_eq_false_iff_eq.mpr c7
   clear c7
   (first | rw [c7b0] | (simp only [i64_w, i32_w]; rw [c7b0]) | skip)
   by_cases c8 : (t367.length : Int) = 0
   ·
    rw [if_pos c8] at H
    have c8b0 : ((t367.length : Int) == 0) = true := beq_iff_eq.mpr c8
    have c8b1 : ((t367.length : Int) != 0) = false := bne_eq_false_iff_eq.mpr c8
    clear c8
    have H' := Aside0.mk H
    clear H
    obtain ⟨Ao9, co9, eo9⟩ := Kd.S_slice HO370.out
    subst eo9
    go_wp2_with (first | (go_at_call 11; (with_reducible refine (minecontrolref08_Check.calls k _ _ t367 t373 _ ?side1 ?side2 A6.out).mono ?_); (case side1 => repeat (first | exact (Kd.S_reads' HO370.out).2.2 | (with_reducible refine Kd.C_alloc ?_ _) | (with_reducible refine Kd.C_drewN ?_ _) | (with_reducible refine Kd.C_drew ?_))); (case side2 => exact (Kd.S_reads' HO370.out).2.1); rintro e w10 ⟨rfl, hb⟩; have n0_ := Aside0.mk (Kd.S_below (by (with_reducible repeat (first | apply Kd.S_alloc | apply Kd.S_drewN | apply Kd.S_drew)); exact HO370.out) hb); have n1_ := Aside0.mk (Kd.Q_below (by (with_reducible repeat (first | apply Kd.Q_alloc | apply Kd.Q_drewN | apply Kd.Q_drew)); exact HO372.out) hb); have n2_ := Aside0.mk (below_step (by repeat (first | (with_reducible first | exact HB.out | apply below_alloc | apply pw_below_drewN | apply below_drew1) | exact HB.out)) hb); clear HO370; clear HO372; clear HB; have HO370 := n0_; have HO372 := n1_; have HB := n2_; clear n0_ n1_ n2_; (try clear hb); (try clear hb2); (try clear hge); (try clear hk); (try clear hi)))
    repeat (go_quiet (first | (go_at_call 11; (with_reducible refine (minecontrolref08_Check.calls k _ _ t367 t373 _ ?side1 ?side2 A6.out).mono ?_); (case side1 => repeat (first | exact (Kd.S_reads' HO370.out).2.2 | (with_reducible refine Kd.C_alloc ?_ _) | (with_reducible refine Kd.C_drewN ?_ _) | (with_reducible refine Kd.C_drew ?_))); (case side2 => exact (Kd.S_reads' HO370.out).2.1); rintro e w10 ⟨rfl, hb⟩; have n0_ := Aside0.mk (Kd.S_below (by (with_reducible repeat (first | apply Kd.S_alloc | apply Kd.S_drewN | apply Kd.S_drew)); exact HO370.out) hb); have n1_ := Aside0.mk (Kd.Q_below (by (with_reducible repeat (first | apply Kd.Q_alloc | apply Kd.Q_drewN | apply Kd.Q_drew)); exact HO372.out) hb); have n2_ := Aside0.mk (below_step (by repeat (first | (with_reducible first | exact HB.out | apply below_alloc | apply pw_below_drewN | apply below_drew1) | exact HB.out)) hb); clear HO370; clear HO372; clear HB; have HO370 := n0_; have HO372 := n1_; have HB := n2_; clear n0_ n1_ n2_; (try clear hb); (try clear hb2); (try clear hge); (try clear hk); (try clear hi))); try go_wp2_with (first | (go_at_call 11; (with_reducible refine (minecontrolref08_Check.calls k _ _ t367 t373 _ ?side1 ?side2 A6.out).mono ?_); (case side1 => repeat (first | exact (Kd.S_reads' HO370.out).2.2 | (with_reducible refine Kd.C_alloc ?_ _) | (with_reducible refine Kd.C_drewN ?_ _) | (with_reducible refine Kd.C_drew ?_))); (case side2 => exact (Kd.S_reads' HO370.out).2.1); rintro e w10 ⟨rfl, hb⟩; have n0_ := Aside0.mk (Kd.S_below (by (with_reducible repeat (first | apply Kd.S_alloc | apply Kd.S_drewN | apply Kd.S_drew)); exact HO370.out) hb); have n1_ := Aside0.mk (Kd.Q_below (by (with_reducible repeat (first | apply Kd.Q_alloc | apply Kd.Q_drewN | apply Kd.Q_drew)); exact HO372.out) hb); have n2_ := Aside0.mk (below_step (by repeat (first | (with_reducible first | exact HB.out | apply below_alloc | apply pw_below_drewN | apply below_drew1) | exact HB.out)) hb); clear HO370; clear HO372; clear HB; have HO370 := n0_; have HO372 := n1_; have HB := n2_; clear n0_ n1_ n2_; (try clear hb); (try clear hb2); (try clear hge); (try clear hk); (try clear hi))))
    go_meet
    case rel => exact ⟨_, (true), (by first | rfl | (simp; done) | (simp [*]; done)), H', ⟨by first | omega | exact Nat.le_refl _⟩, ⟨by (with_reducible repeat (first | apply Kd.S_alloc | apply Kd.S_drewN | apply Kd.S_drew)); exact HO370.out⟩, ⟨by (with_reducible repeat (first | apply Kd.Q_alloc | apply Kd.Q_drewN | apply Kd.Q_drew)); exact HO372.out⟩, ⟨by repeat (first | (with_reducible first | exact HB.out | apply below_alloc | apply pw_below_drewN | apply below_drew1) | exact HB.out)⟩⟩
   ·
    rw [if_neg c8] at H
    have c8b0 : ((t367.length : Int) == 0) = false := beq_eq_false_iff_ne.mpr c8
    have c8b1 : ((t367.length : Int) != 0) = true := bne_iff_ne.mpr c8
    have c8b2 : ¬ (t367 = []) := fun h_ => c8 (by rw [h_]; rfl)
    have H' := Aside0.mk H
    clear H
    obtain ⟨Ao11, co11, eo11⟩ := Kd.S_slice HO370.out
    subst eo11
    go_wp2_with (first | (go_at_call 11; (with_reducible refine (minecontrolref08_Check.calls k _ _ t367 t373 _ ?side1 ?side2 A6.out).mono ?_); (case side1 => repeat (first | exact (Kd.S_reads' HO370.out).2.2 | (with_reducible refine Kd.C_alloc ?_ _) | (with_reducible refine Kd.C_drewN ?_ _) | (with_reducible refine Kd.C_drew ?_))); (case side2 => exact (Kd.S_reads' HO370.out).2.1); rintro e w12 ⟨rfl, hb⟩; have n0_ := Aside0.mk (Kd.S_below (by (with_reducible repeat (first | apply Kd.S_alloc | apply Kd.S_drewN | apply Kd.S_drew)); exact HO370.out) hb); have n1_ := Aside0.mk (Kd.Q_below (by (with_reducible repeat (first | apply Kd.Q_alloc | apply Kd.Q_drewN | apply Kd.Q_drew)); exact HO372.out) hb); have n2_ := Aside0.mk (below_step (by repeat (first | (with_reducible first | exact HB.out | apply below_alloc | apply pw_below_drewN | apply below_drew1) | exact HB.out)) hb); clear HO370; clear HO372; clear HB; have HO370 := n0_; have HO372 := n1_; have HB := n2_; clear n0_ n1_ n2_; (try clear hb); (try clear hb2); (try clear hge); (try clear hk); (try clear hi); obtain ⟨Ao13, co13, eo13, _⟩ := Kd.Q_slice HO372.out; subst eo13))
    repeat (go_quiet (first | (go_at_call 11; (with_reducible refine (minecontrolref08_Check.calls k _ _ t367 t373 _ ?side1 ?side2 A6.out).mono ?_); (case side1 => repeat (first | exact (Kd.S_reads' HO370.out).2.2 | (with_reducible refine Kd.C_alloc ?_ _) | (with_reducible refine Kd.C_drewN ?_ _) | (with_reducible refine Kd.C_drew ?_))); (case side2 => exact (Kd.S_reads' HO370.out).2.1); rintro e w12 ⟨rfl, hb⟩; have n0_ := Aside0.mk (Kd.S_below (by (with_reducible repeat (first | apply Kd.S_alloc | apply Kd.S_drewN | apply Kd.S_drew)); exact HO370.out) hb); have n1_ := Aside0.mk (Kd.Q_below (by (with_reducible repeat (first | apply Kd.Q_alloc | apply Kd.Q_drewN | apply Kd.Q_drew)); exact HO372.out) hb); have n2_ := Aside0.mk (below_step (by repeat (first | (with_reducible first | exact HB.out | apply below_alloc | apply pw_below_drewN | apply below_drew1) | exact HB.out)) hb); clear HO370; clear HO372; clear HB; have HO370 := n0_; have HO372 := n1_; have HB := n2_; clear n0_ n1_ n2_; (try clear hb); (try clear hb2); (try clear hge); (try clear hk); (try clear hi); obtain ⟨Ao13, co13, eo13, _⟩ := Kd.Q_slice HO372.out; subst eo13)); try go_wp2_with (first | (go_at_call 11; (with_reducible refine (minecontrolref08_Check.calls k _ _ t367 t373 _ ?side1 ?side2 A6.out).mono ?_); (case side1 => repeat (first | exact (Kd.S_reads' HO370.out).2.2 | (with_reducible refine Kd.C_alloc ?_ _) | (with_reducible refine Kd.C_drewN ?_ _) | (with_reducible refine Kd.C_drew ?_))); (case side2 => exact (Kd.S_reads' HO370.out).2.1); rintro e w12 ⟨rfl, hb⟩; have n0_ := Aside0.mk (Kd.S_below (by (with_reducible repeat (first | apply Kd.S_alloc | apply Kd.S_drewN | apply Kd.S_drew)); exact HO370.out) hb); have n1_ := Aside0.mk (Kd.Q_below (by (with_reducible repeat (first | apply Kd.Q_alloc | apply Kd.Q_drewN | apply Kd.Q_drew)); exact HO372.out) hb); have n2_ := Aside0.mk (below_step (by repeat (first | (with_reducible first | exact HB.out | apply below_alloc | apply pw_below_drewN | apply below_drew1) | exact HB.out)) hb); clear HO370; clear HO372; clear HB; have HO370 := n0_; have HO372 := n1_; have HB := n2_; clear n0_ n1_ n2_; (try clear hb); (try clear hb2); (try clear hge); (try clear hk); (try clear hi); obtain ⟨Ao13, co13, eo13, _⟩ := Kd.Q_slice HO372.out; subst eo13)))
    go_meet
    case rel => exact ⟨_, (((t368.length : Int) != (t367.length : Int))), (by first | rfl | (simp; done) | (simp [*]; done)), H', ⟨by first | omega | exact Nat.le_refl _⟩, ⟨by (with_reducible repeat (first | apply Kd.S_alloc | apply Kd.S_drewN | apply Kd.S_drew)); exact HO370.out⟩, ⟨by (with_reducible repeat (first | apply Kd.Q_alloc | apply Kd.Q_drewN | apply Kd.Q_drew)); exact HO372.out⟩, ⟨by repeat (first | (with_reducible first | exact HB.out | apply below_alloc | apply pw_below_drewN | apply below_drew1) | exact HB.out)⟩⟩
  ·
   rw [if_neg c7] at H
   have c7b0 : (t373 == 0) = false := beq_eq_false_iff_ne.mpr c7
   have c7b1 : (t373 != 0) = true := bne_iff_ne.mpr c7
   (first | rw [c7b0] | (simp only [i64_w, i32_w]; rw [c7b0]) | skip)
   have H' := Aside0.mk H
   clear H
   obtain ⟨Ao14, co14, eo14⟩ := Kd.S_slice HO370.out
   subst eo14
   go_wp2_with (first | (go_at_call 11; (with_reducible refine (minecontrolref08_Check.calls k _ _ t367 t373 _ ?side1 ?side2 A6.out).mono ?_); (case side1 => repeat (first | exact (Kd.S_reads' HO370.out).2.2 | (with_reducible refine Kd.C_alloc ?_ _) | (with_reducible refine Kd.C_drewN ?_ _) | (with_reducible refine Kd.C_drew ?_))); (case side2 => exact (Kd.S_reads' HO370.out).2.1); rintro e w15 ⟨rfl, hb⟩; have n0_ := Aside0.mk (Kd.S_below (by (with_reducible repeat (first | apply Kd.S_alloc | apply Kd.S_drewN | apply Kd.S_drew)); exact HO370.out) hb); have n1_ := Aside0.mk (Kd.Q_below (by (with_reducible repeat (first | apply Kd.Q_alloc | apply Kd.Q_drewN | apply Kd.Q_drew)); exact HO372.out) hb); have n2_ := Aside0.mk (below_step (by repeat (first | (with_reducible first | exact HB.out | apply below_alloc | apply pw_below_drewN | apply below_drew1) | exact HB.out)) hb); clear HO370; clear HO372; clear HB; have HO370 := n0_; have HO372 := n1_; have HB := n2_; clear n0_ n1_ n2_; (try clear hb); (try clear hb2); (try clear hge); (try clear hk); (try clear hi)))
   repeat (go_quiet (first | (go_at_call 11; (with_reducible refine (minecontrolref08_Check.calls k _ _ t367 t373 _ ?side1 ?side2 A6.out).mono ?_); (case side1 => repeat (first | exact (Kd.S_reads' HO370.out).2.2 | (with_reducible refine Kd.C_alloc ?_ _) | (with_reducible refine Kd.C_drewN ?_ _) | (with_reducible refine Kd.C_drew ?_))); (case side2 => exact (Kd.S_reads' HO370.out).2.1); rintro e w15 ⟨rfl, hb⟩; have n0_ := Aside0.mk (Kd.S_below (by (with_reducible repeat (first | apply Kd.S_alloc | apply Kd.S_drewN | apply Kd.S_drew)); exact HO370.out) hb); have n1_ := Aside0.mk (Kd.Q_below (by (with_reducible repeat (first | apply Kd.Q_alloc | apply Kd.Q_drewN | apply Kd.Q_drew)); exact HO372.out) hb); have n2_ := Aside0.mk (below_step (by repeat (first | (with_reducible first | exact HB.out | apply below_alloc | apply pw_below_drewN | apply below_drew1) | exact HB.out)) hb); clear HO370; clear HO372; clear HB; have HO370 := n0_; have HO372 := n1_; have HB := n2_; clear n0_ n1_ n2_; (try clear hb); (try clear hb2); (try clear hge); (try clear hk); (try clear hi))); try go_wp2_with (first | (go_at_call 11; (with_reducible refine (minecontrolref08_Check.calls k _ _ t367 t373 _ ?side1 ?side2 A6.out).mono ?_); (case side1 => repeat (first | exact (Kd.S_reads' HO370.out).2.2 | (with_reducible refine Kd.C_alloc ?_ _) | (with_reducible refine Kd.C_drewN ?_ _) | (with_reducible refine Kd.C_drew ?_))); (case side2 => exact (Kd.S_reads' HO370.out).2.1); rintro e w15 ⟨rfl, hb⟩; have n0_ := Aside0.mk (Kd.S_below (by (with_reducible repeat (first | apply Kd.S_alloc | apply Kd.S_drewN | apply Kd.S_drew)); exact HO370.out) hb); have n1_ := Aside0.mk (Kd.Q_below (by (with_reducible repeat (first | apply Kd.Q_alloc | apply Kd.Q_drewN | apply Kd.Q_drew)); exact HO372.out) hb); have n2_ := Aside0.mk (below_step (by repeat (first | (with_reducible first | exact HB.out | apply below_alloc | apply pw_below_drewN | apply below_drew1) | exact HB.out)) hb); clear HO370; clear HO372; clear HB; have HO370 := n0_; have HO372 := n1_; have HB := n2_; clear n0_ n1_ n2_; (try clear hb); (try clear hb2); (try clear hge); (try clear hk); (try clear hi))))
   go_meet
   case rel => exact ⟨_, (true), (by first | rfl | (simp; done) | (simp [*]; done)), H', ⟨by first | omega | exact Nat.le_refl _⟩, ⟨by (with_reducible repeat (first | apply Kd.S_alloc | apply Kd.S_drewN | apply Kd.S_drew)); exact HO370.out⟩, ⟨by (with_reducible repeat (first | apply Kd.Q_alloc | apply Kd.Q_drewN | apply Kd.Q_drew)); exact HO372.out⟩, ⟨by repeat (first | (with_reducible first | exact HB.out | apply below_alloc | apply pw_below_drewN | apply below_drew1) | exact HB.out)⟩⟩
 case rest =>
  clear HC4
  try clear p2; try clear c6; try clear c7; try clear c7b0; try clear c7b1; try clear c8; try clear c8b0; try clear c8b1; try clear c8b2
  obtain ⟨kq, x32_3, rfl, HA, HJ3, HO_5, HO_6, HB⟩ := hcut
  cases kq with
  | zero => exact absurd HA.out (by simp [minecontrollaw08_DoorShuts.j0])
  | succ kj3 =>
   have H := HA.out
   clear HA
   simp only [minecontrollaw08_DoorShuts.j0] at H
   by_cases c16 : x32_3 = true
   ·
    subst c16
    have H1 : ((minecontrollaw08_awake.f kj3).bind fun t374 => (some t374)) = some r := by rw [if_pos rfl] at H; exact H
    clear H
    have H := H1
    clear H1
    replace H := Option.bind_eq_some_iff.mp H
    obtain ⟨t374, A170, H⟩ := H
    replace H : (some t374) = some r := H
    have A17 := Aside0.mk A170
    clear A170
    obtain rfl := Option.some.inj H
    go_wp2_with (first | (go_at_call 8; (with_reducible refine (minecontrollaw08_awake.calls kj3  t374 _ A17.out).mono ?_); rintro e w18 ⟨rfl, hb⟩; have n0_ := Aside0.mk (Kd.S_below (by (with_reducible repeat (first | apply Kd.S_alloc | apply Kd.S_drewN | apply Kd.S_drew)); exact HO_5.out) hb); have n1_ := Aside0.mk (Kd.Q_below (by (with_reducible repeat (first | apply Kd.Q_alloc | apply Kd.Q_drewN | apply Kd.Q_drew)); exact HO_6.out) hb); have n2_ := Aside0.mk (below_step (by repeat (first | (with_reducible first | exact HB.out | apply below_alloc | apply pw_below_drewN | apply below_drew1) | exact HB.out)) hb); clear HO_5; clear HO_6; clear HB; have HO_5 := n0_; have HO_6 := n1_; have HB := n2_; clear n0_ n1_ n2_; (try clear hb); (try clear hb2); (try clear hge); (try clear hk); (try clear hi)))
    repeat (go_quiet (first | (go_at_call 8; (with_reducible refine (minecontrollaw08_awake.calls kj3  t374 _ A17.out).mono ?_); rintro e w18 ⟨rfl, hb⟩; have n0_ := Aside0.mk (Kd.S_below (by (with_reducible repeat (first | apply Kd.S_alloc | apply Kd.S_drewN | apply Kd.S_drew)); exact HO_5.out) hb); have n1_ := Aside0.mk (Kd.Q_below (by (with_reducible repeat (first | apply Kd.Q_alloc | apply Kd.Q_drewN | apply Kd.Q_drew)); exact HO_6.out) hb); have n2_ := Aside0.mk (below_step (by repeat (first | (with_reducible first | exact HB.out | apply below_alloc | apply pw_below_drewN | apply below_drew1) | exact HB.out)) hb); clear HO_5; clear HO_6; clear HB; have HO_5 := n0_; have HO_6 := n1_; have HB := n2_; clear n0_ n1_ n2_; (try clear hb); (try clear hb2); (try clear hge); (try clear hk); (try clear hi))); try go_wp2_with (first | (go_at_call 8; (with_reducible refine (minecontrollaw08_awake.calls kj3  t374 _ A17.out).mono ?_); rintro e w18 ⟨rfl, hb⟩; have n0_ := Aside0.mk (Kd.S_below (by (with_reducible repeat (first | apply Kd.S_alloc | apply Kd.S_drewN | apply Kd.S_drew)); exact HO_5.out) hb); have n1_ := Aside0.mk (Kd.Q_below (by (with_reducible repeat (first | apply Kd.Q_alloc | apply Kd.Q_drewN | apply Kd.Q_drew)); exact HO_6.out) hb); have n2_ := Aside0.mk (below_step (by repeat (first | (with_reducible first | exact HB.out | apply below_alloc | apply pw_below_drewN | apply below_drew1) | exact HB.out)) hb); clear HO_5; clear HO_6; clear HB; have HO_5 := n0_; have HO_6 := n1_; have HB := n2_; clear n0_ n1_ n2_; (try clear hb); (try clear hb2); (try clear hge); (try clear hk); (try clear hi))))
    go_ret
    exact ⟨by first | rfl | (simp [errW_none, errW_some] <;> rfl) | (simp [*, errW_none, errW_some] <;> rfl), by repeat (first | (with_reducible first | exact HB.out | apply below_alloc | apply pw_below_drewN | apply below_drew1) | exact HB.out)⟩
   ·
    replace c16 := Bool.eq_false_iff.mpr c16
    subst c16
    have H1 : ((minecontroldraw_Mod.f a1 (t367.length : Int)).bind fun t375 => ((door_Command.f kj3 t367 t368 t375 0).bind fun bt376 => (if bt376.2 = 0 then (if (bt376.1.length : Int) = (t367.length : Int) then (if 0 ≤ t375 then (if t375 < (bt376.1.length : Int) then (minecontrollaw08_DoorShuts.j1 kj3 t367 t375 ((rd bt376.1 t375) != 0)) else (none)) else (none)) else (minecontrollaw08_DoorShuts.j1 kj3 t367 t375 true)) else (minecontrollaw08_DoorShuts.j1 kj3 t367 t375 true)))) = some r := by rw [if_neg (show ¬ (false = true) by decide)] at H; exact H
    clear H
    have H := H1
    clear H1
    replace H := Option.bind_eq_some_iff.mp H
    obtain ⟨t375, A190, H⟩ := H
    replace H : ((door_Command.f kj3 t367 t368 t375 0).bind fun bt376 => (if bt376.2 = 0 then (if (bt376.1.length : Int) = (t367.length : Int) then (if 0 ≤ t375 then (if t375 < (bt376.1.length : Int) then (minecontrollaw08_DoorShuts.j1 kj3 t367 t375 ((rd bt376.1 t375) != 0)) else (none)) else (none)) else (minecontrollaw08_DoorShuts.j1 kj3 t367 t375 true)) else (minecontrollaw08_DoorShuts.j1 kj3 t367 t375 true))) = some r := H
    have A19 := Aside0.mk A190
    clear A190
    replace H := Option.bind_eq_some_iff.mp H
    obtain ⟨⟨t376, t377⟩, A200, H⟩ := H
    replace H : (if t377 = 0 then (if (t376.length : Int) = (t367.length : Int) then (if 0 ≤ t375 then (if t375 < (t376.length : Int) then (minecontrollaw08_DoorShuts.j1 kj3 t367 t375 ((rd t376 t375) != 0)) else (none)) else (none)) else (minecontrollaw08_DoorShuts.j1 kj3 t367 t375 true)) else (minecontrollaw08_DoorShuts.j1 kj3 t367 t375 true)) = some r := H
    have A20 := Aside0.mk A200
    clear A200
    have HC21 := Aside0.mk H
    clear H
    obtain ⟨Ao22, co22, eo22⟩ := Kd.S_slice HO_5.out
    subst eo22
    go_upto_region 6 with (first | (go_at_call 12; (with_reducible refine (minecontroldraw_Mod.calls a1 (t367.length : Int) t375 _ A19.out).mono ?_); rintro e w' ⟨rfl, ⟨nd, rfl⟩⟩; (try first | exact ⟨rfl, _, World.drewN_drewN _ _ _⟩ | exact ⟨rfl, _, Eq.trans (World.drewN_drewN _ _ _) (congrArg (World.drewN _) (Nat.add_assoc _ _ _))⟩); obtain ⟨Ao23, co23, eo23, _⟩ := Kd.Q_slice HO_6.out; subst eo23) | (go_at_call 18; (with_reducible refine (door_Command.calls kj3 _ _ t367 _ _ t368 t375 0 t376 t377 _ ?side1 ?side2 ?side3 ?side4 A20.out).mono ?_); (case side1 => repeat (first | exact (Kd.S_reads' HO_5.out).2.2 | (with_reducible refine Kd.C_alloc ?_ _) | (with_reducible refine Kd.C_drewN ?_ _) | (with_reducible refine Kd.C_drew ?_))); (case side2 => exact (Kd.S_reads' HO_5.out).2.1); (case side3 => repeat (first | exact (Kd.Q_reads' HO_6.out).2.2 | (with_reducible refine Kd.C_alloc ?_ _) | (with_reducible refine Kd.C_drewN ?_ _) | (with_reducible refine Kd.C_drew ?_))); (case side4 => exact (Kd.Q_reads' HO_6.out).2.1); rintro e w24 ⟨v378, rfl, ho0, hb⟩; have n0_ := Aside0.mk (Kd.S_elder' (by (with_reducible repeat (first | apply Kd.S_alloc | apply Kd.S_drewN | apply Kd.S_drew)); exact HO_5.out) (Kd.R_base ho0) hb); have n1_ := Aside0.mk (Kd.Q_elder' (by (with_reducible repeat (first | apply Kd.Q_alloc | apply Kd.Q_drewN | apply Kd.Q_drew)); exact HO_6.out) (Kd.R_base ho0) hb); have n2_ := Aside0.mk (Kd.R_lower (Kd.R_new' ho0 (Kd.Q_lt (by (with_reducible repeat (first | apply Kd.Q_alloc | apply Kd.Q_drewN | apply Kd.Q_drew)); exact HO_6.out))) (below_size (by repeat (first | (with_reducible first | exact HB.out | apply below_alloc | apply pw_below_drewN | apply below_drew1) | exact HB.out)))); have n3_ := Aside0.mk (below_step (by repeat (first | (with_reducible first | exact HB.out | apply below_alloc | apply pw_below_drewN | apply below_drew1) | exact HB.out)) hb); clear HO_5; clear HO_6; clear HB; have HO_5 := n0_; have HO_6 := n1_; have HO379 := n2_; have HB := n3_; clear n0_ n1_ n2_ n3_; (try clear hb); (try clear hb2); (try clear hge); (try clear hk); (try clear hi); (try clear ho0)))
    repeat (go_quiet (first | (go_at_call 12; (with_reducible refine (minecontroldraw_Mod.calls a1 (t367.length : Int) t375 _ A19.out).mono ?_); rintro e w' ⟨rfl, ⟨nd, rfl⟩⟩; (try first | exact ⟨rfl, _, World.drewN_drewN _ _ _⟩ | exact ⟨rfl, _, Eq.trans (World.drewN_drewN _ _ _) (congrArg (World.drewN _) (Nat.add_assoc _ _ _))⟩); obtain ⟨Ao23, co23, eo23, _⟩ := Kd.Q_slice HO_6.out; subst eo23) | (go_at_call 18; (with_reducible refine (door_Command.calls kj3 _ _ t367 _ _ t368 t375 0 t376 t377 _ ?side1 ?side2 ?side3 ?side4 A20.out).mono ?_); (case side1 => repeat (first | exact (Kd.S_reads' HO_5.out).2.2 | (with_reducible refine Kd.C_alloc ?_ _) | (with_reducible refine Kd.C_drewN ?_ _) | (with_reducible refine Kd.C_drew ?_))); (case side2 => exact (Kd.S_reads' HO_5.out).2.1); (case side3 => repeat (first | exact (Kd.Q_reads' HO_6.out).2.2 | (with_reducible refine Kd.C_alloc ?_ _) | (with_reducible refine Kd.C_drewN ?_ _) | (with_reducible refine Kd.C_drew ?_))); (case side4 => exact (Kd.Q_reads' HO_6.out).2.1); rintro e w24 ⟨v378, rfl, ho0, hb⟩; have n0_ := Aside0.mk (Kd.S_elder' (by (with_reducible repeat (first | apply Kd.S_alloc | apply Kd.S_drewN | apply Kd.S_drew)); exact HO_5.out) (Kd.R_base ho0) hb); have n1_ := Aside0.mk (Kd.Q_elder' (by (with_reducible repeat (first | apply Kd.Q_alloc | apply Kd.Q_drewN | apply Kd.Q_drew)); exact HO_6.out) (Kd.R_base ho0) hb); have n2_ := Aside0.mk (Kd.R_lower (Kd.R_new' ho0 (Kd.Q_lt (by (with_reducible repeat (first | apply Kd.Q_alloc | apply Kd.Q_drewN | apply Kd.Q_drew)); exact HO_6.out))) (below_size (by repeat (first | (with_reducible first | exact HB.out | apply below_alloc | apply pw_below_drewN | apply below_drew1) | exact HB.out)))); have n3_ := Aside0.mk (below_step (by repeat (first | (with_reducible first | exact HB.out | apply below_alloc | apply pw_below_drewN | apply below_drew1) | exact HB.out)) hb); clear HO_5; clear HO_6; clear HB; have HO_5 := n0_; have HO_6 := n1_; have HO379 := n2_; have HB := n3_; clear n0_ n1_ n2_ n3_; (try clear hb); (try clear hb2); (try clear hge); (try clear hk); (try clear hi); (try clear ho0))); go_upto_region 6 with (first | (go_at_call 12; (with_reducible refine (minecontroldraw_Mod.calls a1 (t367.length : Int) t375 _ A19.out).mono ?_); rintro e w' ⟨rfl, ⟨nd, rfl⟩⟩; (try first | exact ⟨rfl, _, World.drewN_drewN _ _ _⟩ | exact ⟨rfl, _, Eq.trans (World.drewN_drewN _ _ _) (congrArg (World.drewN _) (Nat.add_assoc _ _ _))⟩); obtain ⟨Ao23, co23, eo23, _⟩ := Kd.Q_slice HO_6.out; subst eo23) | (go_at_call 18; (with_reducible refine (door_Command.calls kj3 _ _ t367 _ _ t368 t375 0 t376 t377 _ ?side1 ?side2 ?side3 ?side4 A20.out).mono ?_); (case side1 => repeat (first | exact (Kd.S_reads' HO_5.out).2.2 | (with_reducible refine Kd.C_alloc ?_ _) | (with_reducible refine Kd.C_drewN ?_ _) | (with_reducible refine Kd.C_drew ?_))); (case side2 => exact (Kd.S_reads' HO_5.out).2.1); (case side3 => repeat (first | exact (Kd.Q_reads' HO_6.out).2.2 | (with_reducible refine Kd.C_alloc ?_ _) | (with_reducible refine Kd.C_drewN ?_ _) | (with_reducible refine Kd.C_drew ?_))); (case side4 => exact (Kd.Q_reads' HO_6.out).2.1); rintro e w24 ⟨v378, rfl, ho0, hb⟩; have n0_ := Aside0.mk (Kd.S_elder' (by (with_reducible repeat (first | apply Kd.S_alloc | apply Kd.S_drewN | apply Kd.S_drew)); exact HO_5.out) (Kd.R_base ho0) hb); have n1_ := Aside0.mk (Kd.Q_elder' (by (with_reducible repeat (first | apply Kd.Q_alloc | apply Kd.Q_drewN | apply Kd.Q_drew)); exact HO_6.out) (Kd.R_base ho0) hb); have n2_ := Aside0.mk (Kd.R_lower (Kd.R_new' ho0 (Kd.Q_lt (by (with_reducible repeat (first | apply Kd.Q_alloc | apply Kd.Q_drewN | apply Kd.Q_drew)); exact HO_6.out))) (below_size (by repeat (first | (with_reducible first | exact HB.out | apply below_alloc | apply pw_below_drewN | apply below_drew1) | exact HB.out)))); have n3_ := Aside0.mk (below_step (by repeat (first | (with_reducible first | exact HB.out | apply below_alloc | apply pw_below_drewN | apply below_drew1) | exact HB.out)) hb); clear HO_5; clear HO_6; clear HB; have HO_5 := n0_; have HO_6 := n1_; have HO379 := n2_; have HB := n3_; clear n0_ n1_ n2_ n3_; (try clear hb); (try clear hb2); (try clear hge); (try clear hk); (try clear hi); (try clear ho0))))
    (try simp only [Act.put, List.setIfInBounds_toArray, List.set_cons_zero, List.set_cons_succ])
    go_cut [60] (fun v60 wc => ∃ (kq : Nat) (x60_20 : Bool), v60 = .bool x60_20 ∧ Aside0 (minecontrollaw08_DoorShuts.j1 kq t367 t375 x60_20 = some r) ∧ Aside0 (kq ≤ kj3) ∧ Aside0 (Kd.S k36 36 wc w.heap.size (fun _ => True) (.slice Ao22 t367.length co22) t367) ∧ Aside0 (Below w.heap.size w wc))
    case first =>
     have H := HC21.out
     clear HC21
     by_cases c25 : t377 = 0
     ·
      rw [if_pos c25] at H
      have c25b0 : (t377 == 0) = true := beq_iff_eq.mpr c25
      have c25b1 : (t377 != 0) = false := bne_eq_false_iff_eq.mpr c25
      clear c25
      (first | rw [c25b0] | (simp only [i64_w, i32_w]; rw [c25b0]) | skip)
      by_cases c26 : (t376.length : Int) = (t367.length : Int)
      ·
       rw [if_pos c26] at H
       have c26b0 : ((t376.length : Int) == (t367.length : Int)) = true := beq_iff_eq.mpr c26
       have c26b1 : ((t376.length : Int) != (t367.length : Int)) = false := bne_eq_false_iff_eq.mpr c26
       have c26b2 : (t376.length == t367.length) = true := by first | simpa using c26 | (simp at c26 ⊢; omega)
       clear c26
       by_cases c27 : 0 ≤ t375
       rotate_left
       ·
        rw [if_neg c27] at H
        exact absurd H (by simp)
       rw [if_pos c27] at H
       have c27b0 : decide (0 ≤ t375) = true := decide_eq_true c27
       clear c27
       by_cases c28 : t375 < (t376.length : Int)
       rotate_left
       ·
        rw [if_neg c28] at H
        exact absurd H (by simp)
       rw [if_pos c28] at H
       have c28b0 : decide (t375 < (t376.length : Int)) = true := decide_eq_true c28
       clear c28
       have H' := Aside0.mk H
       clear H
       obtain ⟨Ao29, co29, eo29⟩ := Kd.R_slice HO379.out
       subst eo29
       have p380 : 0 ≤ (t375 : Int) := of_decide_eq_true (by first | (with_reducible assumption) | assumption)
       have q380 : t375 < (t376.length : Int) := of_decide_eq_true (by first | (with_reducible assumption) | assumption)
       obtain ⟨ad380, e380, hx380_0⟩ := Kd.at_int (Kd.R_reads' HO379.out).2.2 t375 p380 q380
       cases e380
       replace p380 := eq_true p380
       replace q380 := eq_true q380
       go_wp2
       repeat (go_quiet (fail); try go_wp2)
       go_meet
       case rel => exact ⟨_, (((rd t376 t375) != 0)), (by first | rfl | (simp; done) | (simp [*]; done)), H', ⟨by have := HJ3.out; first | omega | exact Nat.le_refl _⟩, ⟨by (with_reducible repeat (first | apply Kd.S_alloc | apply Kd.S_drewN | apply Kd.S_drew)); exact Kd.S_mono HO_5.out (fun _ hk => trivial)⟩, ⟨by repeat (first | (with_reducible first | exact HB.out | apply below_alloc | apply pw_below_drewN | apply below_drew1) | exact HB.out)⟩⟩
      ·
       rw [if_neg c26] at H
       have c26b0 : ((t376.length : Int) == (t367.length : Int)) = false := beq_eq_false_iff_ne.mpr c26
       have c26b1 : ((t376.length : Int) != (t367.length : Int)) = true := bne_iff_ne.mpr c26
       have c26b2 : (t376.length == t367.length) = false := by first | simpa using c26 | (simp at c26 ⊢; omega)
       have H' := Aside0.mk H
       clear H
       obtain ⟨Ao30, co30, eo30⟩ := Kd.R_slice HO379.out
       subst eo30
       go_wp2
       repeat (go_quiet (fail); try go_wp2)
       go_meet
       case rel => exact ⟨_, (true), (by first | rfl | (simp; done) | (simp [*]; done)), H', ⟨by have := HJ3.out; first | omega | exact Nat.le_refl _⟩, ⟨by (with_reducible repeat (first | apply Kd.S_alloc | apply Kd.S_drewN | apply Kd.S_drew)); exact Kd.S_mono HO_5.out (fun _ hk => trivial)⟩, ⟨by repeat (first | (with_reducible first | exact HB.out | apply below_alloc | apply pw_below_drewN | apply below_drew1) | exact HB.out)⟩⟩
     ·
      rw [if_neg c25] at H
      have c25b0 : (t377 == 0) = false := beq_eq_false_iff_ne.mpr c25
      have c25b1 : (t377 != 0) = true := bne_iff_ne.mpr c25
      (first | rw [c25b0] | (simp only [i64_w, i32_w]; rw [c25b0]) | skip)
      have H' := Aside0.mk H
      clear H
      go_wp2
      repeat (go_quiet (fail); try go_wp2)
      go_meet
      case rel => exact ⟨_, (true), (by first | rfl | (simp; done) | (simp [*]; done)), H', ⟨by have := HJ3.out; first | omega | exact Nat.le_refl _⟩, ⟨by (with_reducible repeat (first | apply Kd.S_alloc | apply Kd.S_drewN | apply Kd.S_drew)); exact Kd.S_mono HO_5.out (fun _ hk => trivial)⟩, ⟨by repeat (first | (with_reducible first | exact HB.out | apply below_alloc | apply pw_below_drewN | apply below_drew1) | exact HB.out)⟩⟩
    case rest =>
     clear HC21
     try clear c1; try clear c2; try clear p2; try clear p3; try clear q3; try clear hx3; try clear c6; try clear c7; try clear c7b0; try clear c7b1; try clear c8; try clear c8b0; try clear c8b1; try clear c8b2; try clear c16; try clear c25; try clear c25b0; try clear c25b1; try clear c26; try clear c26b0
     try clear c26b1; try clear c26b2; try clear c27; try clear c27b0; try clear c28; try clear c28b0; try clear hx380_0; try clear p2; try clear p380; try clear q380
     obtain ⟨kq, x60_20, rfl, HA, HJ20, HO_5, HB⟩ := hcut
     cases kq with
     | zero => exact absurd HA.out (by simp [minecontrollaw08_DoorShuts.j1])
     | succ kj20 =>
      have H := HA.out
      clear HA
      simp only [minecontrollaw08_DoorShuts.j1] at H
      by_cases c31 : x60_20 = true
      ·
       subst c31
       have H1 : (some false) = some r := by rw [if_pos rfl] at H; exact H
       clear H
       have H := H1
       clear H1
       obtain rfl := Option.some.inj H
       exact absurd hr_.out (by decide)
      ·
       replace c31 := Bool.eq_false_iff.mpr c31
       subst c31
       have H1 : (if 0 ≤ t375 then (if t375 < (t367.length : Int) then ((door_Rest.f kj20 ((rd_T36 t367 t375).f0) ((rd_T36 t367 t375).f1) ((rd_T36 t367 t375).f2) (-1)).bind fun bt382 => (minecontrollaw08_DoorShuts.l0 kj20 t367 t375 0 bt382.1 bt382.2)) else (none)) else (none)) = some r := by rw [if_neg (show ¬ (false = true) by decide)] at H; exact H
       clear H
       have H := H1
       clear H1
       by_cases c32 : 0 ≤ t375
       rotate_left
       ·
        rw [if_neg c32] at H
        exact absurd H (by simp)
       rw [if_pos c32] at H
       have c32b0 : decide (0 ≤ t375) = true := decide_eq_true c32
       clear c32
       by_cases c33 : t375 < (t367.length : Int)
       rotate_left
       ·
        rw [if_neg c33] at H
        exact absurd H (by simp)
       rw [if_pos c33] at H
       have c33b0 : decide (t375 < (t367.length : Int)) = true := decide_eq_true c33
       clear c33
       replace H := Option.bind_eq_some_iff.mp H
       obtain ⟨⟨t382, t383⟩, A340, H⟩ := H
       replace H : (minecontrollaw08_DoorShuts.l0 kj20 t367 t375 0 t382 t383) = some r := H
       have A34 := Aside0.mk A340
       clear A340
       have H' := Aside0.mk H
       clear H
       have p381 : 0 ≤ (t375 : Int) := of_decide_eq_true (by first | (with_reducible assumption) | assumption)
       have q381 : t375 < (t367.length : Int) := of_decide_eq_true (by first | (with_reducible assumption) | assumption)
       obtain ⟨ad381, A381_2, c381_2, e381, hx381_0, hx381_1, hx381_2, hl381_2, hi381_2⟩ := at_T36 (Kd.S_reads' HO_5.out).2.2 t375 p381 q381
       cases e381
       obtain ⟨ce381, hce381, hMe381, hcc381⟩ := Kd.S_get HO_5.out z36 t375 p381 (by first | exact q381 | exact of_decide_eq_true (by first | (with_reducible assumption) | assumption) | (have e_ := (Kd.S_reads' HO_5.out).1; omega))
       obtain ⟨ve381_2, rfl, ge381_2⟩ := k36_openM hMe381
       have hv381_2 := hcc381 2 _ rfl
       rw [add_field _ _ 2 (by omega)] at hv381_2
       replace hv381_2 := Option.some.inj (hv381_2.symm.trans hx381_2)
       rw [hv381_2] at ge381_2
       have HL381_2 := Aside0.mk (show Kd.R (Kd.int .i64) 3 _ _ _ _ ((rd_T36 t367 t375).f2) from ge381_2)
       clear hv381_2 ge381_2
       clear hcc381 hce381
       have HR381_2 := Aside0.mk hi381_2
       have HC381_2 := Aside0.mk hl381_2
       clear hi381_2 hl381_2
       replace p381 := eq_true p381
       replace q381 := eq_true q381
       go_wp2_with (first | (go_at_call 13; (with_reducible refine (door_Rest.calls kj20 ((rd_T36 t367 t375).f0) ((rd_T36 t367 t375).f1) _ _ ((rd_T36 t367 t375).f2) (-1) t382 t383 _ ?side1 ?side2 A34.out).mono ?_); (case side1 => repeat (first | exact (by repeat (first | (with_reducible exact HR381_2.out) | (with_reducible refine Kd.C_alloc ?_ _) | (with_reducible refine Kd.C_drewN ?_ _) | (with_reducible refine Kd.C_drew ?_) | exact HR381_2.out)) | (with_reducible refine Kd.C_alloc ?_ _) | (with_reducible refine Kd.C_drewN ?_ _) | (with_reducible refine Kd.C_drew ?_))); (case side2 => exact HC381_2.out); rintro e w35 ⟨rfl, hb⟩; have n0_ := Aside0.mk (Kd.S_below (by (with_reducible repeat (first | apply Kd.S_alloc | apply Kd.S_drewN | apply Kd.S_drew)); exact HO_5.out) hb); have n1_ := Aside0.mk (Kd.R_below (by (with_reducible repeat (first | apply Kd.R_alloc | apply Kd.R_drewN | apply Kd.R_drew)); exact HL381_2.out) hb); have n2_ := Aside0.mk (Kd.C_below (by repeat (first | (with_reducible exact HR381_2.out) | (with_reducible refine Kd.C_alloc ?_ _) | (with_reducible refine Kd.C_drewN ?_ _) | (with_reducible refine Kd.C_drew ?_) | exact HR381_2.out)) hb); have n3_ := Aside0.mk (below_step (by repeat (first | (with_reducible first | exact HB.out | apply below_alloc | apply pw_below_drewN | apply below_drew1) | exact HB.out)) hb); clear HO_5; clear HL381_2; clear HR381_2; clear HB; have HO_5 := n0_; have HL381_2 := n1_; have HR381_2 := n2_; have HB := n3_; clear n0_ n1_ n2_ n3_; (try clear hb); (try clear hb2); (try clear hge); (try clear hk); (try clear hi)) | ((with_reducible refine gate_dst (N := 10) rfl ?_); (try (refine gate_guard (by rfl) ?_; dsimp only)); refine box_event ?hg (N := 10) ?hd (cs := #[.int .i64 0, .int .i64 0]) (t := 33) ?hr ?_; (case hd => rfl); (case hg => rfl); (case hr => first | (go_simp; done) | (go_simp; rfl)); intro gb384 hg w36 hbox hb; have n0_ := Aside0.mk (Kd.S_below (by (with_reducible repeat (first | apply Kd.S_alloc | apply Kd.S_drewN | apply Kd.S_drew)); exact HO_5.out) hb); have n1_ := Aside0.mk (Kd.R_below (by (with_reducible repeat (first | apply Kd.R_alloc | apply Kd.R_drewN | apply Kd.R_drew)); exact HL381_2.out) hb); have n2_ := Aside0.mk (Kd.C_below (by repeat (first | (with_reducible exact HR381_2.out) | (with_reducible refine Kd.C_alloc ?_ _) | (with_reducible refine Kd.C_drewN ?_ _) | (with_reducible refine Kd.C_drew ?_) | exact HR381_2.out)) hb); have n3_ := Aside0.mk (below_step (by repeat (first | (with_reducible first | exact HB.out | apply below_alloc | apply pw_below_drewN | apply below_drew1) | exact HB.out)) hb); have n4_ := Aside0.mk (hbox); have n5_ := Aside0.mk ((by rw [hg]; exact (below_size (by repeat (first | (with_reducible first | exact HB.out | apply below_alloc | apply pw_below_drewN | apply below_drew1) | exact HB.out))) : w.heap.size ≤ gb384)); have n6_ := Aside0.mk ((by rw [hg]; exact (below_size (by repeat (first | (with_reducible first | exact HB.out | apply below_alloc | apply pw_below_drewN | apply below_drew1) | exact HB.out))) : w.heap.size ≤ gb384)); clear HO_5; clear HL381_2; clear HR381_2; clear HB; have HO_5 := n0_; have HL381_2 := n1_; have HR381_2 := n2_; have HB := n3_; have BK384 := n4_; have GW384 := n5_; have GE384 := n6_; clear n0_ n1_ n2_ n3_ n4_ n5_ n6_; clear hb hbox hg; have hcz37_0 : w36.cell? ⟨gb384, 0, none⟩ = some (.int .i64 0) := (blk_cell BK384.out 0).trans rfl; have hcz37_1 : w36.cell? ⟨gb384, 1, none⟩ = some (.int .i64 0) := (blk_cell BK384.out 1).trans rfl; have hfz37_0 := blk_frozen BK384.out 0; have hfz37_1 := blk_frozen BK384.out 1))
       repeat (go_quiet (first | (go_at_call 13; (with_reducible refine (door_Rest.calls kj20 ((rd_T36 t367 t375).f0) ((rd_T36 t367 t375).f1) _ _ ((rd_T36 t367 t375).f2) (-1) t382 t383 _ ?side1 ?side2 A34.out).mono ?_); (case side1 => repeat (first | exact (by repeat (first | (with_reducible exact HR381_2.out) | (with_reducible refine Kd.C_alloc ?_ _) | (with_reducible refine Kd.C_drewN ?_ _) | (with_reducible refine Kd.C_drew ?_) | exact HR381_2.out)) | (with_reducible refine Kd.C_alloc ?_ _) | (with_reducible refine Kd.C_drewN ?_ _) | (with_reducible refine Kd.C_drew ?_))); (case side2 => exact HC381_2.out); rintro e w35 ⟨rfl, hb⟩; have n0_ := Aside0.mk (Kd.S_below (by (with_reducible repeat (first | apply Kd.S_alloc | apply Kd.S_drewN | apply Kd.S_drew)); exact HO_5.out) hb); have n1_ := Aside0.mk (Kd.R_below (by (with_reducible repeat (first | apply Kd.R_alloc | apply Kd.R_drewN | apply Kd.R_drew)); exact HL381_2.out) hb); have n2_ := Aside0.mk (Kd.C_below (by repeat (first | (with_reducible exact HR381_2.out) | (with_reducible refine Kd.C_alloc ?_ _) | (with_reducible refine Kd.C_drewN ?_ _) | (with_reducible refine Kd.C_drew ?_) | exact HR381_2.out)) hb); have n3_ := Aside0.mk (below_step (by repeat (first | (with_reducible first | exact HB.out | apply below_alloc | apply pw_below_drewN | apply below_drew1) | exact HB.out)) hb); clear HO_5; clear HL381_2; clear HR381_2; clear HB; have HO_5 := n0_; have HL381_2 := n1_; have HR381_2 := n2_; have HB := n3_; clear n0_ n1_ n2_ n3_; (try clear hb); (try clear hb2); (try clear hge); (try clear hk); (try clear hi)) | ((with_reducible refine gate_dst (N := 10) rfl ?_); (try (refine gate_guard (by rfl) ?_; dsimp only)); refine box_event ?hg (N := 10) ?hd (cs := #[.int .i64 0, .int .i64 0]) (t := 33) ?hr ?_; (case hd => rfl); (case hg => rfl); (case hr => first | (go_simp; done) | (go_simp; rfl)); intro gb384 hg w36 hbox hb; have n0_ := Aside0.mk (Kd.S_below (by (with_reducible repeat (first | apply Kd.S_alloc | apply Kd.S_drewN | apply Kd.S_drew)); exact HO_5.out) hb); have n1_ := Aside0.mk (Kd.R_below (by (with_reducible repeat (first | apply Kd.R_alloc | apply Kd.R_drewN | apply Kd.R_drew)); exact HL381_2.out) hb); have n2_ := Aside0.mk (Kd.C_below (by repeat (first | (with_reducible exact HR381_2.out) | (with_reducible refine Kd.C_alloc ?_ _) | (with_reducible refine Kd.C_drewN ?_ _) | (with_reducible refine Kd.C_drew ?_) | exact HR381_2.out)) hb); have n3_ := Aside0.mk (below_step (by repeat (first | (with_reducible first | exact HB.out | apply below_alloc | apply pw_below_drewN | apply below_drew1) | exact HB.out)) hb); have n4_ := Aside0.mk (hbox); have n5_ := Aside0.mk ((by rw [hg]; exact (below_size (by repeat (first | (with_reducible first | exact HB.out | apply below_alloc | apply pw_below_drewN | apply below_drew1) | exact HB.out))) : w.heap.size ≤ gb384)); have n6_ := Aside0.mk ((by rw [hg]; exact (below_size (by repeat (first | (with_reducible first | exact HB.out | apply below_alloc | apply pw_below_drewN | apply below_drew1) | exact HB.out))) : w.heap.size ≤ gb384)); clear HO_5; clear HL381_2; clear HR381_2; clear HB; have HO_5 := n0_; have HL381_2 := n1_; have HR381_2 := n2_; have HB := n3_; have BK384 := n4_; have GW384 := n5_; have GE384 := n6_; clear n0_ n1_ n2_ n3_ n4_ n5_ n6_; clear hb hbox hg; have hcz37_0 : w36.cell? ⟨gb384, 0, none⟩ = some (.int .i64 0) := (blk_cell BK384.out 0).trans rfl; have hcz37_1 : w36.cell? ⟨gb384, 1, none⟩ = some (.int .i64 0) := (blk_cell BK384.out 1).trans rfl; have hfz37_0 := blk_frozen BK384.out 0; have hfz37_1 := blk_frozen BK384.out 1)); try go_wp2_with (first | (go_at_call 13; (with_reducible refine (door_Rest.calls kj20 ((rd_T36 t367 t375).f0) ((rd_T36 t367 t375).f1) _ _ ((rd_T36 t367 t375).f2) (-1) t382 t383 _ ?side1 ?side2 A34.out).mono ?_); (case side1 => repeat (first | exact (by repeat (first | (with_reducible exact HR381_2.out) | (with_reducible refine Kd.C_alloc ?_ _) | (with_reducible refine Kd.C_drewN ?_ _) | (with_reducible refine Kd.C_drew ?_) | exact HR381_2.out)) | (with_reducible refine Kd.C_alloc ?_ _) | (with_reducible refine Kd.C_drewN ?_ _) | (with_reducible refine Kd.C_drew ?_))); (case side2 => exact HC381_2.out); rintro e w35 ⟨rfl, hb⟩; have n0_ := Aside0.mk (Kd.S_below (by (with_reducible repeat (first | apply Kd.S_alloc | apply Kd.S_drewN | apply Kd.S_drew)); exact HO_5.out) hb); have n1_ := Aside0.mk (Kd.R_below (by (with_reducible repeat (first | apply Kd.R_alloc | apply Kd.R_drewN | apply Kd.R_drew)); exact HL381_2.out) hb); have n2_ := Aside0.mk (Kd.C_below (by repeat (first | (with_reducible exact HR381_2.out) | (with_reducible refine Kd.C_alloc ?_ _) | (with_reducible refine Kd.C_drewN ?_ _) | (with_reducible refine Kd.C_drew ?_) | exact HR381_2.out)) hb); have n3_ := Aside0.mk (below_step (by repeat (first | (with_reducible first | exact HB.out | apply below_alloc | apply pw_below_drewN | apply below_drew1) | exact HB.out)) hb); clear HO_5; clear HL381_2; clear HR381_2; clear HB; have HO_5 := n0_; have HL381_2 := n1_; have HR381_2 := n2_; have HB := n3_; clear n0_ n1_ n2_ n3_; (try clear hb); (try clear hb2); (try clear hge); (try clear hk); (try clear hi)) | ((with_reducible refine gate_dst (N := 10) rfl ?_); (try (refine gate_guard (by rfl) ?_; dsimp only)); refine box_event ?hg (N := 10) ?hd (cs := #[.int .i64 0, .int .i64 0]) (t := 33) ?hr ?_; (case hd => rfl); (case hg => rfl); (case hr => first | (go_simp; done) | (go_simp; rfl)); intro gb384 hg w36 hbox hb; have n0_ := Aside0.mk (Kd.S_below (by (with_reducible repeat (first | apply Kd.S_alloc | apply Kd.S_drewN | apply Kd.S_drew)); exact HO_5.out) hb); have n1_ := Aside0.mk (Kd.R_below (by (with_reducible repeat (first | apply Kd.R_alloc | apply Kd.R_drewN | apply Kd.R_drew)); exact HL381_2.out) hb); have n2_ := Aside0.mk (Kd.C_below (by repeat (first | (with_reducible exact HR381_2.out) | (with_reducible refine Kd.C_alloc ?_ _) | (with_reducible refine Kd.C_drewN ?_ _) | (with_reducible refine Kd.C_drew ?_) | exact HR381_2.out)) hb); have n3_ := Aside0.mk (below_step (by repeat (first | (with_reducible first | exact HB.out | apply below_alloc | apply pw_below_drewN | apply below_drew1) | exact HB.out)) hb); have n4_ := Aside0.mk (hbox); have n5_ := Aside0.mk ((by rw [hg]; exact (below_size (by repeat (first | (with_reducible first | exact HB.out | apply below_alloc | apply pw_below_drewN | apply below_drew1) | exact HB.out))) : w.heap.size ≤ gb384)); have n6_ := Aside0.mk ((by rw [hg]; exact (below_size (by repeat (first | (with_reducible first | exact HB.out | apply below_alloc | apply pw_below_drewN | apply below_drew1) | exact HB.out))) : w.heap.size ≤ gb384)); clear HO_5; clear HL381_2; clear HR381_2; clear HB; have HO_5 := n0_; have HL381_2 := n1_; have HR381_2 := n2_; have HB := n3_; have BK384 := n4_; have GW384 := n5_; have GE384 := n6_; clear n0_ n1_ n2_ n3_ n4_ n5_ n6_; clear hb hbox hg; have hcz37_0 : w36.cell? ⟨gb384, 0, none⟩ = some (.int .i64 0) := (blk_cell BK384.out 0).trans rfl; have hcz37_1 : w36.cell? ⟨gb384, 1, none⟩ = some (.int .i64 0) := (blk_cell BK384.out 1).trans rfl; have hfz37_0 := blk_frozen BK384.out 0; have hfz37_1 := blk_frozen BK384.out 1)))
       go_loopg [11] kj20 (fun kq v11 w' => ∃ (x11_3 : Int), v11 = .int .i64 x11_3 ∧ Aside0 (minecontrollaw08_DoorShuts.l0 kq t367 t375 x11_3 t382 t383 = some r) ∧ Aside0 (kq ≤ kj20) ∧ Aside0 (Kd.S k36 36 w' w.heap.size (fun _ => True) (.slice (some ad381) t367.length co22) t367) ∧ Aside0 (w'.heap[gb384]? = some (.cells #[.int .i64 t382, .int .i64 t383] 33 (0, 0))) ∧ Aside0 (Below w.heap.size w w'))
       case atStart => exact ⟨(0), (by first | rfl | (simp; done) | (simp [*]; done)), H', ⟨Nat.le_refl _⟩, ⟨by (with_reducible repeat (first | apply Kd.S_alloc | apply Kd.S_drewN | apply Kd.S_drew)); exact Kd.S_mono (Kd.S_far (p := ⟨gb384, 1, none⟩) (Kd.S_far (p := ⟨gb384, 0, none⟩) (Kd.S_types HO_5.out BK384.out (by decide)) (fun _ hk => hk.2) (.int .i64 t382)) (fun _ hk => hk.2) (.int .i64 t383)) (fun _ hk => trivial)⟩, ⟨by (with_reducible repeat (first | refine blk_drewN ?_ _ | refine blk_drew ?_ | refine blk_alloc ?_ _)); refine blk_put (cs := #[.int .i64 t382, .int .i64 0]) ?_ 1 _ rfl; (with_reducible repeat (first | refine blk_drewN ?_ _ | refine blk_drew ?_ | refine blk_alloc ?_ _)); refine blk_put (cs := #[.int .i64 0, .int .i64 0]) ?_ 0 _ rfl; (with_reducible repeat (first | refine blk_drewN ?_ _ | refine blk_drew ?_ | refine blk_alloc ?_ _)); exact BK384.out⟩, ⟨by repeat (first | (with_reducible first | exact HB.out | apply below_alloc | apply pw_below_drewN | apply below_drew1 | refine below_set ?_ GE384.out) | exact HB.out)⟩⟩
       case round =>
        clear H'
        try clear c1; try clear c2; try clear p2; try clear c3; try clear p3; try clear q3; try clear hx3; try clear c6; try clear c7; try clear c7b0; try clear c7b1; try clear c8; try clear c8b0; try clear c8b1; try clear c8b2; try clear c16; try clear c25; try clear c25b0; try clear c25b1; try clear c26; try clear c26b0
        try clear c26b1; try clear c26b2; try clear c27; try clear c27b0; try clear c28; try clear c28b0; try clear c31; try clear c32; try clear c32b0; try clear c33; try clear c33b0; try clear hcz37_0; try clear hcz37_1; try clear hfz37_0; try clear hfz37_1; try clear hx380_0; try clear hx381_0; try clear hx381_1
        try clear hx381_2; try clear p2; try clear p3; try clear p380; try clear p381; try clear q3; try clear q380; try clear q381
        obtain ⟨x11_3, rfl, HA, HK3, HO_5, BK384, HB⟩ := hrel
        cases gk with
        | zero => exact absurd HA.out (by simp [minecontrollaw08_DoorShuts.l0])
        | succ k3 =>
         have H := HA.out
         clear HA
         simp only [minecontrollaw08_DoorShuts.l0] at H
         by_cases c38 : 0 ≤ t375
         rotate_left
         ·
          rw [if_neg c38] at H
          exact absurd H (by simp)
         rw [if_pos c38] at H
         have c38b0 : decide (0 ≤ t375) = true := decide_eq_true c38
         clear c38
         by_cases c39 : t375 < (t367.length : Int)
         rotate_left
         ·
          rw [if_neg c39] at H
          exact absurd H (by simp)
         rw [if_pos c39] at H
         have c39b0 : decide (t375 < (t367.length : Int)) = true := decide_eq_true c39
         clear c39
         by_cases c40 : x11_3 < (((rd_T36 t367 t375).f2).length : Int)
         ·
          rw [if_pos c40] at H
          have c40b0 : decide (x11_3 < (((rd_T36 t367 t375).f2).length : Int)) = true := decide_eq_true c40
          clear c40
          replace H := Option.bind_eq_some_iff.mp H
          obtain ⟨⟨t387, t388⟩, A410, H⟩ := H
          replace H : (if 0 ≤ x11_3 then (if t387 = (rd ((rd_T36 t367 t375).f2) x11_3) then (if t388 = t387 then (if t382 > t387 then (some false) else (if t383 < t388 then (some false) else (minecontrollaw08_DoorShuts.l0 k3 t367 t375 (wrap64 (x11_3 + 1)) t382 t383))) else (some false)) else (some false)) else (none)) = some r := H
          have A41 := Aside0.mk A410
          clear A410
          by_cases c42 : 0 ≤ x11_3
          rotate_left
          ·
           rw [if_neg c42] at H
           exact absurd H (by simp)
          rw [if_pos c42] at H
          have c42b0 : decide (0 ≤ x11_3) = true := decide_eq_true c42
          clear c42
          by_cases c43 : t387 = (rd ((rd_T36 t367 t375).f2) x11_3)
          ·
           rw [if_pos c43] at H
           have c43b0 : (t387 == (rd ((rd_T36 t367 t375).f2) x11_3)) = true := beq_iff_eq.mpr c43
           have c43b1 : (t387 != (rd ((rd_T36 t367 t375).f2) x11_3)) = false := bne_eq_false_iff_eq.mpr c43
           clear c43
           by_cases c44 : t388 = t387
           ·
            rw [if_pos c44] at H
            have c44b0 : (t388 == t387) = true := beq_iff_eq.mpr c44
            have c44b1 : (t388 != t387) = false := bne_eq_false_iff_eq.mpr c44
            clear c44
            by_cases c45 : t382 > t387
            ·
             rw [if_pos c45] at H
             have c45b0 : decide (t387 < t382) = true := decide_eq_true c45
             clear c45
             obtain rfl := Option.some.inj H
             exact absurd hr_.out (by decide)
            ·
             rw [if_neg c45] at H
             have c45b0 : decide (t387 < t382) = false := decide_eq_false c45
             clear c45
             by_cases c46 : t383 < t388
             ·
              rw [if_pos c46] at H
              have c46b0 : decide (t383 < t388) = true := decide_eq_true c46
              clear c46
              obtain rfl := Option.some.inj H
              exact absurd hr_.out (by decide)
             ·
              rw [if_neg c46] at H
              have c46b0 : decide (t383 < t388) = false := decide_eq_false c46
              clear c46
              have H' := Aside0.mk H
              clear H
              have p385 : 0 ≤ (t375 : Int) := of_decide_eq_true (by first | (with_reducible assumption) | assumption)
              have q385 : t375 < (t367.length : Int) := of_decide_eq_true (by first | (with_reducible assumption) | assumption)
              obtain ⟨ad385, A385_2, c385_2, e385, hx385_0, hx385_1, hx385_2, hl385_2, hi385_2⟩ := at_T36 (Kd.S_reads' HO_5.out).2.2 t375 p385 q385
              obtain rfl : ad381 = ad385 := (by injection e385)
              obtain ⟨ce385, hce385, hMe385, hcc385⟩ := Kd.S_get HO_5.out z36 t375 p385 (by first | exact q385 | exact of_decide_eq_true (by first | (with_reducible assumption) | assumption) | (have e_ := (Kd.S_reads' HO_5.out).1; omega))
              obtain ⟨ve385_2, rfl, ge385_2⟩ := k36_openM hMe385
              have hv385_2 := hcc385 2 _ rfl
              rw [add_field _ _ 2 (by omega)] at hv385_2
              replace hv385_2 := Option.some.inj (hv385_2.symm.trans hx385_2)
              rw [hv385_2] at ge385_2
              have HL385_2 := Aside0.mk (show Kd.R (Kd.int .i64) 3 _ _ _ _ ((rd_T36 t367 t375).f2) from ge385_2)
              clear hv385_2 ge385_2
              clear hcc385 hce385
              have HR385_2 := Aside0.mk hi385_2
              have HC385_2 := Aside0.mk hl385_2
              clear hi385_2 hl385_2
              replace p385 := eq_true p385
              replace q385 := eq_true q385
              have p386 : 0 ≤ (t375 : Int) := of_decide_eq_true (by first | (with_reducible assumption) | assumption)
              have q386 : t375 < (t367.length : Int) := of_decide_eq_true (by first | (with_reducible assumption) | assumption)
              obtain ⟨ad386, A386_2, c386_2, e386, hx386_0, hx386_1, hx386_2, hl386_2, hi386_2⟩ := at_T36 (Kd.S_reads' HO_5.out).2.2 t375 p386 q386
              obtain rfl : ad381 = ad386 := (by injection e386)
              obtain ⟨ce386, hce386, hMe386, hcc386⟩ := Kd.S_get HO_5.out z36 t375 p386 (by first | exact q386 | exact of_decide_eq_true (by first | (with_reducible assumption) | assumption) | (have e_ := (Kd.S_reads' HO_5.out).1; omega))
              obtain ⟨ve386_2, rfl, ge386_2⟩ := k36_openM hMe386
              have hv386_2 := hcc386 2 _ rfl
              rw [add_field _ _ 2 (by omega)] at hv386_2
              replace hv386_2 := Option.some.inj (hv386_2.symm.trans hx386_2)
              rw [hv386_2] at ge386_2
              have HL386_2 := Aside0.mk (show Kd.R (Kd.int .i64) 3 _ _ _ _ ((rd_T36 t367 t375).f2) from ge386_2)
              clear hv386_2 ge386_2
              clear hcc386 hce386
              have HR386_2 := Aside0.mk hi386_2
              have HC386_2 := Aside0.mk hl386_2
              clear hi386_2 hl386_2
              replace p386 := eq_true p386
              replace q386 := eq_true q386
              have ea_ := Option.some.inj (hx385_2.symm.trans hx386_2)
              injection ea_ with ea_ en_ ec_
              subst ea_
              subst ec_
              clear en_
              go_wp2_with (first | (go_at_call 13; (with_reducible refine (door_Rest.calls k3 ((rd_T36 t367 t375).f0) ((rd_T36 t367 t375).f1) _ _ ((rd_T36 t367 t375).f2) x11_3 t387 t388 _ ?side1 ?side2 A41.out).mono ?_); (case side1 => repeat (first | exact (by repeat (first | (with_reducible exact HR386_2.out) | (with_reducible refine Kd.C_alloc ?_ _) | (with_reducible refine Kd.C_drewN ?_ _) | (with_reducible refine Kd.C_drew ?_) | exact HR386_2.out)) | (with_reducible refine Kd.C_alloc ?_ _) | (with_reducible refine Kd.C_drewN ?_ _) | (with_reducible refine Kd.C_drew ?_))); (case side2 => exact HC386_2.out); rintro e w47 ⟨rfl, hb⟩; have n0_ := Aside0.mk (Kd.S_below (by (with_reducible repeat (first | apply Kd.S_alloc | apply Kd.S_drewN | apply Kd.S_drew)); exact HO_5.out) hb); have n1_ := Aside0.mk (Kd.R_below (by (with_reducible repeat (first | apply Kd.R_alloc | apply Kd.R_drewN | apply Kd.R_drew)); exact HL385_2.out) hb); have n2_ := Aside0.mk (Kd.R_below (by (with_reducible repeat (first | apply Kd.R_alloc | apply Kd.R_drewN | apply Kd.R_drew)); exact HL386_2.out) hb); have n3_ := Aside0.mk (blk_below (g := gb384) (o := .cells #[.int .i64 t382, .int .i64 t383] 33 (0, 0)) (by (with_reducible repeat (first | refine blk_drewN ?_ _ | refine blk_drew ?_ | refine blk_alloc ?_ _)); exact BK384.out) hb); have n4_ := Aside0.mk (Kd.C_below (by repeat (first | (with_reducible exact HR385_2.out) | (with_reducible refine Kd.C_alloc ?_ _) | (with_reducible refine Kd.C_drewN ?_ _) | (with_reducible refine Kd.C_drew ?_) | exact HR385_2.out)) hb); have n5_ := Aside0.mk (Kd.C_below (by repeat (first | (with_reducible exact HR386_2.out) | (with_reducible refine Kd.C_alloc ?_ _) | (with_reducible refine Kd.C_drewN ?_ _) | (with_reducible refine Kd.C_drew ?_) | exact HR386_2.out)) hb); have n6_ := Aside0.mk (below_step (by repeat (first | (with_reducible first | exact HB.out | apply below_alloc | apply pw_below_drewN | apply below_drew1 | refine below_set ?_ GE384.out) | exact HB.out)) hb); clear HO_5; clear HL385_2; clear HL386_2; clear BK384; clear HR385_2; clear HR386_2; clear HB; have HO_5 := n0_; have HL385_2 := n1_; have HL386_2 := n2_; have BK384 := n3_; have HR385_2 := n4_; have HR386_2 := n5_; have HB := n6_; clear n0_ n1_ n2_ n3_ n4_ n5_ n6_; (try clear hb); (try clear hb2); (try clear hge); (try clear hk); (try clear hi)) | ((with_reducible refine gate_dst (N := 12) rfl ?_); (try (refine gate_guard (by rfl) ?_; dsimp only)); refine box_event ?hg (N := 12) ?hd (cs := #[.int .i64 0, .int .i64 0]) (t := 33) ?hr ?_; (case hd => rfl); (case hg => rfl); (case hr => first | (go_simp; done) | (go_simp; rfl)); intro gb389 hg w48 hbox hb; have n0_ := Aside0.mk (Kd.S_below (by (with_reducible repeat (first | apply Kd.S_alloc | apply Kd.S_drewN | apply Kd.S_drew)); exact HO_5.out) hb); have n1_ := Aside0.mk (Kd.R_below (by (with_reducible repeat (first | apply Kd.R_alloc | apply Kd.R_drewN | apply Kd.R_drew)); exact HL385_2.out) hb); have n2_ := Aside0.mk (Kd.R_below (by (with_reducible repeat (first | apply Kd.R_alloc | apply Kd.R_drewN | apply Kd.R_drew)); exact HL386_2.out) hb); have n3_ := Aside0.mk (blk_below (g := gb384) (o := .cells #[.int .i64 t382, .int .i64 t383] 33 (0, 0)) (by (with_reducible repeat (first | refine blk_drewN ?_ _ | refine blk_drew ?_ | refine blk_alloc ?_ _)); exact BK384.out) hb); have n4_ := Aside0.mk (Kd.C_below (by repeat (first | (with_reducible exact HR385_2.out) | (with_reducible refine Kd.C_alloc ?_ _) | (with_reducible refine Kd.C_drewN ?_ _) | (with_reducible refine Kd.C_drew ?_) | exact HR385_2.out)) hb); have n5_ := Aside0.mk (Kd.C_below (by repeat (first | (with_reducible exact HR386_2.out) | (with_reducible refine Kd.C_alloc ?_ _) | (with_reducible refine Kd.C_drewN ?_ _) | (with_reducible refine Kd.C_drew ?_) | exact HR386_2.out)) hb); have n6_ := Aside0.mk (below_step (by repeat (first | (with_reducible first | exact HB.out | apply below_alloc | apply pw_below_drewN | apply below_drew1 | refine below_set ?_ GE384.out) | exact HB.out)) hb); have n7_ := Aside0.mk (hbox); have n8_ := Aside0.mk ((by rw [hg]; exact (below_size (by repeat (first | (with_reducible first | exact HB.out | apply below_alloc | apply pw_below_drewN | apply below_drew1 | refine below_set ?_ GE384.out) | exact HB.out))) : w.heap.size ≤ gb389)); have n9_ := Aside0.mk ((by rw [hg]; exact (below_size (by repeat (first | (with_reducible first | exact HB.out | apply below_alloc | apply pw_below_drewN | apply below_drew1 | refine below_set ?_ GE384.out) | exact HB.out))) : w.heap.size ≤ gb389)); have n10_ := Aside0.mk ((by rw [hg]; exact Nat.ne_of_lt (blk_lt (g := gb384) (o := .cells #[.int .i64 t382, .int .i64 t383] 33 (0, 0)) (by (with_reducible repeat (first | refine blk_drewN ?_ _ | refine blk_drew ?_ | refine blk_alloc ?_ _)); exact BK384.out)) : gb384 ≠ gb389)); have n11_ := Aside0.mk ((by rw [hg]; exact Nat.ne_of_gt (blk_lt (g := gb384) (o := .cells #[.int .i64 t382, .int .i64 t383] 33 (0, 0)) (by (with_reducible repeat (first | refine blk_drewN ?_ _ | refine blk_drew ?_ | refine blk_alloc ?_ _)); exact BK384.out)) : gb389 ≠ gb384)); clear HO_5; clear HL385_2; clear HL386_2; clear BK384; clear HR385_2; clear HR386_2; clear HB; have HO_5 := n0_; have HL385_2 := n1_; have HL386_2 := n2_; have BK384 := n3_; have HR385_2 := n4_; have HR386_2 := n5_; have HB := n6_; have BK389 := n7_; have GW389 := n8_; have GE389 := n9_; have NB384_389 := n10_; have NB389_384 := n11_; clear n0_ n1_ n2_ n3_ n4_ n5_ n6_ n7_ n8_ n9_ n10_ n11_; clear hb hbox hg; have hnb49 := NB389_384.out; have hnc49 := NB384_389.out; have hcz50_0 : w48.cell? ⟨gb389, 0, none⟩ = some (.int .i64 0) := (blk_cell BK389.out 0).trans rfl; have hcz50_1 : w48.cell? ⟨gb389, 1, none⟩ = some (.int .i64 0) := (blk_cell BK389.out 1).trans rfl; have hfz50_0 := blk_frozen BK389.out 0; have hfz50_1 := blk_frozen BK389.out 1) | ((with_reducible refine gate_store (t := 33) (p := 12) rfl ?_); (try (rw [drewN_self w48]; generalize hq_ : World.drewN w48 _ = w48; have n0_ := Aside0.mk (Kd.S_at hq_ HO_5.out); have n1_ := Aside0.mk (Kd.R_at hq_ HL385_2.out); have n2_ := Aside0.mk (Kd.R_at hq_ HL386_2.out); have n3_ := Aside0.mk (blk_at hq_ BK384.out); have n4_ := Aside0.mk (blk_at hq_ BK389.out); have n5_ := Aside0.mk (Kd.C_at hq_ HR385_2.out); have n6_ := Aside0.mk (Kd.C_at hq_ HR386_2.out); have n7_ := Aside0.mk (below_at hq_ HB.out); clear hq_ HO_5 HL385_2 HL386_2 BK384 BK389 HR385_2 HR386_2 HB; have HO_5 := n0_; have HL385_2 := n1_; have HL386_2 := n2_; have BK384 := n3_; have BK389 := n4_; have HR385_2 := n5_; have HR386_2 := n6_; have HB := n7_; clear n0_ n1_ n2_ n3_ n4_ n5_ n6_ n7_)); refine store_event (t := 33) (p := 12) (v := ?vo_w51) (w1 := ((w48.setCell ⟨gb389, 0, none⟩ (.int .i64 t387)).setCell ⟨gb389, 1, none⟩ (.int .i64 t388))) ?hg ?ho ?hn ?hr ?_; (case ho => rfl); (case hg => rfl); (case hn => rfl); (case hr => first | (go_simp; done) | (go_simp; rfl)); intro w51 hw; have n0_ : Aside0 (Kd.S k36 36 w51 w.heap.size (fun _ => True) (.slice (some ad381) t367.length co22) t367) := ⟨(by rw [hw]; exact (by (with_reducible repeat (first | apply Kd.S_alloc | apply Kd.S_drewN | apply Kd.S_drew)); exact Kd.S_mono (Kd.S_far (p := ⟨gb389, 1, none⟩) (Kd.S_far (p := ⟨gb389, 0, none⟩) (Kd.S_types HO_5.out BK389.out (by decide)) (fun _ hk => hk.2) (.int .i64 t387)) (fun _ hk => hk.2) (.int .i64 t388)) (fun _ hk => trivial)))⟩; have n1_ : Aside0 (Kd.R (Kd.int .i64) 3 w51 w.heap.size (fun k_ => some k_ ≠ (.slice (some ad381) t367.length co22 : Value).ownBlock) (.slice A385_2 ((rd_T36 t367 t375).f2).length c385_2) ((rd_T36 t367 t375).f2)) := ⟨(by rw [hw]; exact (by (with_reducible repeat (first | apply Kd.R_alloc | apply Kd.R_drewN | apply Kd.R_drew)); exact Kd.R_mono (Kd.R_far (p := ⟨gb389, 1, none⟩) (Kd.R_far (p := ⟨gb389, 0, none⟩) (Kd.R_types HL385_2.out BK389.out (by decide)) (fun _ hk => hk.2) (.int .i64 t387)) (fun _ hk => hk.2) (.int .i64 t388)) (fun _ hk => hk.1.2)))⟩; have n2_ : Aside0 (Kd.R (Kd.int .i64) 3 w51 w.heap.size (fun k_ => some k_ ≠ (.slice (some ad381) t367.length co22 : Value).ownBlock) (.slice A385_2 ((rd_T36 t367 t375).f2).length c385_2) ((rd_T36 t367 t375).f2)) := ⟨(by rw [hw]; exact (by (with_reducible repeat (first | apply Kd.R_alloc | apply Kd.R_drewN | apply Kd.R_drew)); exact Kd.R_mono (Kd.R_far (p := ⟨gb389, 1, none⟩) (Kd.R_far (p := ⟨gb389, 0, none⟩) (Kd.R_types HL386_2.out BK389.out (by decide)) (fun _ hk => hk.2) (.int .i64 t387)) (fun _ hk => hk.2) (.int .i64 t388)) (fun _ hk => hk.1.2)))⟩; have n3_ : Aside0 (w51.heap[gb384]? = some (.cells #[.int .i64 t382, .int .i64 t383] 33 (0, 0))) := ⟨(by rw [hw]; exact (by (with_reducible repeat (first | refine blk_drewN ?_ _ | refine blk_drew ?_ | refine blk_alloc ?_ _)); refine blk_far ?_ NB384_389.out _; (with_reducible repeat (first | refine blk_drewN ?_ _ | refine blk_drew ?_ | refine blk_alloc ?_ _)); refine blk_far ?_ NB384_389.out _; (with_reducible repeat (first | refine blk_drewN ?_ _ | refine blk_drew ?_ | refine blk_alloc ?_ _)); exact BK384.out))⟩; have n4_ : Aside0 (w51.heap[gb389]? = some (.cells #[.int .i64 t387, .int .i64 t388] 33 (0, 0))) := ⟨(by rw [hw]; exact (by (with_reducible repeat (first | refine blk_drewN ?_ _ | refine blk_drew ?_ | refine blk_alloc ?_ _)); refine blk_put (cs := #[.int .i64 t387, .int .i64 0]) ?_ 1 _ rfl; (with_reducible repeat (first | refine blk_drewN ?_ _ | refine blk_drew ?_ | refine blk_alloc ?_ _)); refine blk_put (cs := #[.int .i64 0, .int .i64 0]) ?_ 0 _ rfl; (with_reducible repeat (first | refine blk_drewN ?_ _ | refine blk_drew ?_ | refine blk_alloc ?_ _)); exact BK389.out))⟩; have n5_ : Aside0 (Below w.heap.size w w51) := ⟨(by rw [hw]; exact (by repeat (first | (with_reducible first | exact HB.out | apply below_alloc | apply pw_below_drewN | apply below_drew1 | refine below_set ?_ GE384.out | refine below_set ?_ GE389.out) | exact HB.out)))⟩; clear hw; clear HO_5; clear HL385_2; clear HL386_2; clear BK384; clear BK389; clear HB; have HO_5 := n0_; have HL385_2 := n1_; have HL386_2 := n2_; have BK384 := n3_; have BK389 := n4_; have HB := n5_; clear n0_ n1_ n2_ n3_ n4_ n5_; have hcz52_0 : w51.cell? ⟨gb389, 0, none⟩ = some (.int .i64 t387) := (blk_cell BK389.out 0).trans rfl; have hcz52_1 : w51.cell? ⟨gb389, 1, none⟩ = some (.int .i64 t388) := (blk_cell BK389.out 1).trans rfl; have hfz52_0 := blk_frozen BK389.out 0; have hfz52_1 := blk_frozen BK389.out 1; have p390 : 0 ≤ (t375 : Int) := of_decide_eq_true (by first | (with_reducible assumption) | assumption); have q390 : t375 < (t367.length : Int) := of_decide_eq_true (by first | (with_reducible assumption) | assumption); obtain ⟨ad390, A390_2, c390_2, e390, hx390_0, hx390_1, hx390_2, hl390_2, hi390_2⟩ := at_T36 (Kd.S_reads' HO_5.out).2.2 t375 p390 q390; obtain rfl : ad381 = ad390 := (by injection e390); obtain ⟨ce390, hce390, hMe390, hcc390⟩ := Kd.S_get HO_5.out z36 t375 p390 (by first | exact q390 | exact of_decide_eq_true (by first | (with_reducible assumption) | assumption) | (have e_ := (Kd.S_reads' HO_5.out).1; omega)); obtain ⟨ve390_2, rfl, ge390_2⟩ := k36_openM hMe390; have hv390_2 := hcc390 2 _ rfl; rw [add_field _ _ 2 (by omega)] at hv390_2; replace hv390_2 := Option.some.inj (hv390_2.symm.trans hx390_2); rw [hv390_2] at ge390_2; have HL390_2 := Aside0.mk (show Kd.R (Kd.int .i64) 3 _ _ _ _ ((rd_T36 t367 t375).f2) from ge390_2); clear hv390_2 ge390_2; clear hcc390 hce390; have HR390_2 := Aside0.mk hi390_2; have HC390_2 := Aside0.mk hl390_2; clear hi390_2 hl390_2; replace p390 := eq_true p390; replace q390 := eq_true q390; have p391 : 0 ≤ (x11_3 : Int) := of_decide_eq_true (by first | (with_reducible assumption) | assumption); have q391 : x11_3 < (((rd_T36 t367 t375).f2).length : Int) := of_decide_eq_true (by first | (with_reducible assumption) | assumption); obtain ⟨ad391, e391, hx391_0⟩ := Kd.at_int (by repeat (first | (with_reducible exact HR390_2.out) | (with_reducible refine Kd.C_alloc ?_ _) | (with_reducible refine Kd.C_drewN ?_ _) | (with_reducible refine Kd.C_drew ?_) | exact HR390_2.out)) x11_3 p391 q391; cases e391; replace p391 := eq_true p391; replace q391 := eq_true q391; have hcz53_0 : w51.cell? ⟨gb384, 0, none⟩ = some (.int .i64 t382) := (blk_cell BK384.out 0).trans rfl; have hcz53_1 : w51.cell? ⟨gb384, 1, none⟩ = some (.int .i64 t383) := (blk_cell BK384.out 1).trans rfl; have hfz53_0 := blk_frozen BK384.out 0; have hfz53_1 := blk_frozen BK384.out 1))
              repeat (go_quiet (first | (go_at_call 13; (with_reducible refine (door_Rest.calls k3 ((rd_T36 t367 t375).f0) ((rd_T36 t367 t375).f1) _ _ ((rd_T36 t367 t375).f2) x11_3 t387 t388 _ ?side1 ?side2 A41.out).mono ?_); (case side1 => repeat (first | exact (by repeat (first | (with_reducible exact HR386_2.out) | (with_reducible refine Kd.C_alloc ?_ _) | (with_reducible refine Kd.C_drewN ?_ _) | (with_reducible refine Kd.C_drew ?_) | exact HR386_2.out)) | (with_reducible refine Kd.C_alloc ?_ _) | (with_reducible refine Kd.C_drewN ?_ _) | (with_reducible refine Kd.C_drew ?_))); (case side2 => exact HC386_2.out); rintro e w47 ⟨rfl, hb⟩; have n0_ := Aside0.mk (Kd.S_below (by (with_reducible repeat (first | apply Kd.S_alloc | apply Kd.S_drewN | apply Kd.S_drew)); exact HO_5.out) hb); have n1_ := Aside0.mk (Kd.R_below (by (with_reducible repeat (first | apply Kd.R_alloc | apply Kd.R_drewN | apply Kd.R_drew)); exact HL385_2.out) hb); have n2_ := Aside0.mk (Kd.R_below (by (with_reducible repeat (first | apply Kd.R_alloc | apply Kd.R_drewN | apply Kd.R_drew)); exact HL386_2.out) hb); have n3_ := Aside0.mk (blk_below (g := gb384) (o := .cells #[.int .i64 t382, .int .i64 t383] 33 (0, 0)) (by (with_reducible repeat (first | refine blk_drewN ?_ _ | refine blk_drew ?_ | refine blk_alloc ?_ _)); exact BK384.out) hb); have n4_ := Aside0.mk (Kd.C_below (by repeat (first | (with_reducible exact HR385_2.out) | (with_reducible refine Kd.C_alloc ?_ _) | (with_reducible refine Kd.C_drewN ?_ _) | (with_reducible refine Kd.C_drew ?_) | exact HR385_2.out)) hb); have n5_ := Aside0.mk (Kd.C_below (by repeat (first | (with_reducible exact HR386_2.out) | (with_reducible refine Kd.C_alloc ?_ _) | (with_reducible refine Kd.C_drewN ?_ _) | (with_reducible refine Kd.C_drew ?_) | exact HR386_2.out)) hb); have n6_ := Aside0.mk (below_step (by repeat (first | (with_reducible first | exact HB.out | apply below_alloc | apply pw_below_drewN | apply below_drew1 | refine below_set ?_ GE384.out) | exact HB.out)) hb); clear HO_5; clear HL385_2; clear HL386_2; clear BK384; clear HR385_2; clear HR386_2; clear HB; have HO_5 := n0_; have HL385_2 := n1_; have HL386_2 := n2_; have BK384 := n3_; have HR385_2 := n4_; have HR386_2 := n5_; have HB := n6_; clear n0_ n1_ n2_ n3_ n4_ n5_ n6_; (try clear hb); (try clear hb2); (try clear hge); (try clear hk); (try clear hi)) | ((with_reducible refine gate_dst (N := 12) rfl ?_); (try (refine gate_guard (by rfl) ?_; dsimp only)); refine box_event ?hg (N := 12) ?hd (cs := #[.int .i64 0, .int .i64 0]) (t := 33) ?hr ?_; (case hd => rfl); (case hg => rfl); (case hr => first | (go_simp; done) | (go_simp; rfl)); intro gb389 hg w48 hbox hb; have n0_ := Aside0.mk (Kd.S_below (by (with_reducible repeat (first | apply Kd.S_alloc | apply Kd.S_drewN | apply Kd.S_drew)); exact HO_5.out) hb); have n1_ := Aside0.mk (Kd.R_below (by (with_reducible repeat (first | apply Kd.R_alloc | apply Kd.R_drewN | apply Kd.R_drew)); exact HL385_2.out) hb); have n2_ := Aside0.mk (Kd.R_below (by (with_reducible repeat (first | apply Kd.R_alloc | apply Kd.R_drewN | apply Kd.R_drew)); exact HL386_2.out) hb); have n3_ := Aside0.mk (blk_below (g := gb384) (o := .cells #[.int .i64 t382, .int .i64 t383] 33 (0, 0)) (by (with_reducible repeat (first | refine blk_drewN ?_ _ | refine blk_drew ?_ | refine blk_alloc ?_ _)); exact BK384.out) hb); have n4_ := Aside0.mk (Kd.C_below (by repeat (first | (with_reducible exact HR385_2.out) | (with_reducible refine Kd.C_alloc ?_ _) | (with_reducible refine Kd.C_drewN ?_ _) | (with_reducible refine Kd.C_drew ?_) | exact HR385_2.out)) hb); have n5_ := Aside0.mk (Kd.C_below (by repeat (first | (with_reducible exact HR386_2.out) | (with_reducible refine Kd.C_alloc ?_ _) | (with_reducible refine Kd.C_drewN ?_ _) | (with_reducible refine Kd.C_drew ?_) | exact HR386_2.out)) hb); have n6_ := Aside0.mk (below_step (by repeat (first | (with_reducible first | exact HB.out | apply below_alloc | apply pw_below_drewN | apply below_drew1 | refine below_set ?_ GE384.out) | exact HB.out)) hb); have n7_ := Aside0.mk (hbox); have n8_ := Aside0.mk ((by rw [hg]; exact (below_size (by repeat (first | (with_reducible first | exact HB.out | apply below_alloc | apply pw_below_drewN | apply below_drew1 | refine below_set ?_ GE384.out) | exact HB.out))) : w.heap.size ≤ gb389)); have n9_ := Aside0.mk ((by rw [hg]; exact (below_size (by repeat (first | (with_reducible first | exact HB.out | apply below_alloc | apply pw_below_drewN | apply below_drew1 | refine below_set ?_ GE384.out) | exact HB.out))) : w.heap.size ≤ gb389)); have n10_ := Aside0.mk ((by rw [hg]; exact Nat.ne_of_lt (blk_lt (g := gb384) (o := .cells #[.int .i64 t382, .int .i64 t383] 33 (0, 0)) (by (with_reducible repeat (first | refine blk_drewN ?_ _ | refine blk_drew ?_ | refine blk_alloc ?_ _)); exact BK384.out)) : gb384 ≠ gb389)); have n11_ := Aside0.mk ((by rw [hg]; exact Nat.ne_of_gt (blk_lt (g := gb384) (o := .cells #[.int .i64 t382, .int .i64 t383] 33 (0, 0)) (by (with_reducible repeat (first | refine blk_drewN ?_ _ | refine blk_drew ?_ | refine blk_alloc ?_ _)); exact BK384.out)) : gb389 ≠ gb384)); clear HO_5; clear HL385_2; clear HL386_2; clear BK384; clear HR385_2; clear HR386_2; clear HB; have HO_5 := n0_; have HL385_2 := n1_; have HL386_2 := n2_; have BK384 := n3_; have HR385_2 := n4_; have HR386_2 := n5_; have HB := n6_; have BK389 := n7_; have GW389 := n8_; have GE389 := n9_; have NB384_389 := n10_; have NB389_384 := n11_; clear n0_ n1_ n2_ n3_ n4_ n5_ n6_ n7_ n8_ n9_ n10_ n11_; clear hb hbox hg; have hnb49 := NB389_384.out; have hnc49 := NB384_389.out; have hcz50_0 : w48.cell? ⟨gb389, 0, none⟩ = some (.int .i64 0) := (blk_cell BK389.out 0).trans rfl; have hcz50_1 : w48.cell? ⟨gb389, 1, none⟩ = some (.int .i64 0) := (blk_cell BK389.out 1).trans rfl; have hfz50_0 := blk_frozen BK389.out 0; have hfz50_1 := blk_frozen BK389.out 1) | ((with_reducible refine gate_store (t := 33) (p := 12) rfl ?_); (try (rw [drewN_self w48]; generalize hq_ : World.drewN w48 _ = w48; have n0_ := Aside0.mk (Kd.S_at hq_ HO_5.out); have n1_ := Aside0.mk (Kd.R_at hq_ HL385_2.out); have n2_ := Aside0.mk (Kd.R_at hq_ HL386_2.out); have n3_ := Aside0.mk (blk_at hq_ BK384.out); have n4_ := Aside0.mk (blk_at hq_ BK389.out); have n5_ := Aside0.mk (Kd.C_at hq_ HR385_2.out); have n6_ := Aside0.mk (Kd.C_at hq_ HR386_2.out); have n7_ := Aside0.mk (below_at hq_ HB.out); clear hq_ HO_5 HL385_2 HL386_2 BK384 BK389 HR385_2 HR386_2 HB; have HO_5 := n0_; have HL385_2 := n1_; have HL386_2 := n2_; have BK384 := n3_; have BK389 := n4_; have HR385_2 := n5_; have HR386_2 := n6_; have HB := n7_; clear n0_ n1_ n2_ n3_ n4_ n5_ n6_ n7_)); refine store_event (t := 33) (p := 12) (v := ?vo_w51) (w1 := ((w48.setCell ⟨gb389, 0, none⟩ (.int .i64 t387)).setCell ⟨gb389, 1, none⟩ (.int .i64 t388))) ?hg ?ho ?hn ?hr ?_; (case ho => rfl); (case hg => rfl); (case hn => rfl); (case hr => first | (go_simp; done) | (go_simp; rfl)); intro w51 hw; have n0_ : Aside0 (Kd.S k36 36 w51 w.heap.size (fun _ => True) (.slice (some ad381) t367.length co22) t367) := ⟨(by rw [hw]; exact (by (with_reducible repeat (first | apply Kd.S_alloc | apply Kd.S_drewN | apply Kd.S_drew)); exact Kd.S_mono (Kd.S_far (p := ⟨gb389, 1, none⟩) (Kd.S_far (p := ⟨gb389, 0, none⟩) (Kd.S_types HO_5.out BK389.out (by decide)) (fun _ hk => hk.2) (.int .i64 t387)) (fun _ hk => hk.2) (.int .i64 t388)) (fun _ hk => trivial)))⟩; have n1_ : Aside0 (Kd.R (Kd.int .i64) 3 w51 w.heap.size (fun k_ => some k_ ≠ (.slice (some ad381) t367.length co22 : Value).ownBlock) (.slice A385_2 ((rd_T36 t367 t375).f2).length c385_2) ((rd_T36 t367 t375).f2)) := ⟨(by rw [hw]; exact (by (with_reducible repeat (first | apply Kd.R_alloc | apply Kd.R_drewN | apply Kd.R_drew)); exact Kd.R_mono (Kd.R_far (p := ⟨gb389, 1, none⟩) (Kd.R_far (p := ⟨gb389, 0, none⟩) (Kd.R_types HL385_2.out BK389.out (by decide)) (fun _ hk => hk.2) (.int .i64 t387)) (fun _ hk => hk.2) (.int .i64 t388)) (fun _ hk => hk.1.2)))⟩; have n2_ : Aside0 (Kd.R (Kd.int .i64) 3 w51 w.heap.size (fun k_ => some k_ ≠ (.slice (some ad381) t367.length co22 : Value).ownBlock) (.slice A385_2 ((rd_T36 t367 t375).f2).length c385_2) ((rd_T36 t367 t375).f2)) := ⟨(by rw [hw]; exact (by (with_reducible repeat (first | apply Kd.R_alloc | apply Kd.R_drewN | apply Kd.R_drew)); exact Kd.R_mono (Kd.R_far (p := ⟨gb389, 1, none⟩) (Kd.R_far (p := ⟨gb389, 0, none⟩) (Kd.R_types HL386_2.out BK389.out (by decide)) (fun _ hk => hk.2) (.int .i64 t387)) (fun _ hk => hk.2) (.int .i64 t388)) (fun _ hk => hk.1.2)))⟩; have n3_ : Aside0 (w51.heap[gb384]? = some (.cells #[.int .i64 t382, .int .i64 t383] 33 (0, 0))) := ⟨(by rw [hw]; exact (by (with_reducible repeat (first | refine blk_drewN ?_ _ | refine blk_drew ?_ | refine blk_alloc ?_ _)); refine blk_far ?_ NB384_389.out _; (with_reducible repeat (first | refine blk_drewN ?_ _ | refine blk_drew ?_ | refine blk_alloc ?_ _)); refine blk_far ?_ NB384_389.out _; (with_reducible repeat (first | refine blk_drewN ?_ _ | refine blk_drew ?_ | refine blk_alloc ?_ _)); exact BK384.out))⟩; have n4_ : Aside0 (w51.heap[gb389]? = some (.cells #[.int .i64 t387, .int .i64 t388] 33 (0, 0))) := ⟨(by rw [hw]; exact (by (with_reducible repeat (first | refine blk_drewN ?_ _ | refine blk_drew ?_ | refine blk_alloc ?_ _)); refine blk_put (cs := #[.int .i64 t387, .int .i64 0]) ?_ 1 _ rfl; (with_reducible repeat (first | refine blk_drewN ?_ _ | refine blk_drew ?_ | refine blk_alloc ?_ _)); refine blk_put (cs := #[.int .i64 0, .int .i64 0]) ?_ 0 _ rfl; (with_reducible repeat (first | refine blk_drewN ?_ _ | refine blk_drew ?_ | refine blk_alloc ?_ _)); exact BK389.out))⟩; have n5_ : Aside0 (Below w.heap.size w w51) := ⟨(by rw [hw]; exact (by repeat (first | (with_reducible first | exact HB.out | apply below_alloc | apply pw_below_drewN | apply below_drew1 | refine below_set ?_ GE384.out | refine below_set ?_ GE389.out) | exact HB.out)))⟩; clear hw; clear HO_5; clear HL385_2; clear HL386_2; clear BK384; clear BK389; clear HB; have HO_5 := n0_; have HL385_2 := n1_; have HL386_2 := n2_; have BK384 := n3_; have BK389 := n4_; have HB := n5_; clear n0_ n1_ n2_ n3_ n4_ n5_; have hcz52_0 : w51.cell? ⟨gb389, 0, none⟩ = some (.int .i64 t387) := (blk_cell BK389.out 0).trans rfl; have hcz52_1 : w51.cell? ⟨gb389, 1, none⟩ = some (.int .i64 t388) := (blk_cell BK389.out 1).trans rfl; have hfz52_0 := blk_frozen BK389.out 0; have hfz52_1 := blk_frozen BK389.out 1; have p390 : 0 ≤ (t375 : Int) := of_decide_eq_true (by first | (with_reducible assumption) | assumption); have q390 : t375 < (t367.length : Int) := of_decide_eq_true (by first | (with_reducible assumption) | assumption); obtain ⟨ad390, A390_2, c390_2, e390, hx390_0, hx390_1, hx390_2, hl390_2, hi390_2⟩ := at_T36 (Kd.S_reads' HO_5.out).2.2 t375 p390 q390; obtain rfl : ad381 = ad390 := (by injection e390); obtain ⟨ce390, hce390, hMe390, hcc390⟩ := Kd.S_get HO_5.out z36 t375 p390 (by first | exact q390 | exact of_decide_eq_true (by first | (with_reducible assumption) | assumption) | (have e_ := (Kd.S_reads' HO_5.out).1; omega)); obtain ⟨ve390_2, rfl, ge390_2⟩ := k36_openM hMe390; have hv390_2 := hcc390 2 _ rfl; rw [add_field _ _ 2 (by omega)] at hv390_2; replace hv390_2 := Option.some.inj (hv390_2.symm.trans hx390_2); rw [hv390_2] at ge390_2; have HL390_2 := Aside0.mk (show Kd.R (Kd.int .i64) 3 _ _ _ _ ((rd_T36 t367 t375).f2) from ge390_2); clear hv390_2 ge390_2; clear hcc390 hce390; have HR390_2 := Aside0.mk hi390_2; have HC390_2 := Aside0.mk hl390_2; clear hi390_2 hl390_2; replace p390 := eq_true p390; replace q390 := eq_true q390; have p391 : 0 ≤ (x11_3 : Int) := of_decide_eq_true (by first | (with_reducible assumption) | assumption); have q391 : x11_3 < (((rd_T36 t367 t375).f2).length : Int) := of_decide_eq_true (by first | (with_reducible assumption) | assumption); obtain ⟨ad391, e391, hx391_0⟩ := Kd.at_int (by repeat (first | (with_reducible exact HR390_2.out) | (with_reducible refine Kd.C_alloc ?_ _) | (with_reducible refine Kd.C_drewN ?_ _) | (with_reducible refine Kd.C_drew ?_) | exact HR390_2.out)) x11_3 p391 q391; cases e391; replace p391 := eq_true p391; replace q391 := eq_true q391; have hcz53_0 : w51.cell? ⟨gb384, 0, none⟩ = some (.int .i64 t382) := (blk_cell BK384.out 0).trans rfl; have hcz53_1 : w51.cell? ⟨gb384, 1, none⟩ = some (.int .i64 t383) := (blk_cell BK384.out 1).trans rfl; have hfz53_0 := blk_frozen BK384.out 0; have hfz53_1 := blk_frozen BK384.out 1)); try go_wp2_with (first | (go_at_call 13; (with_reducible refine (door_Rest.calls k3 ((rd_T36 t367 t375).f0) ((rd_T36 t367 t375).f1) _ _ ((rd_T36 t367 t375).f2) x11_3 t387 t388 _ ?side1 ?side2 A41.out).mono ?_); (case side1 => repeat (first | exact (by repeat (first | (with_reducible exact HR386_2.out) | (with_reducible refine Kd.C_alloc ?_ _) | (with_reducible refine Kd.C_drewN ?_ _) | (with_reducible refine Kd.C_drew ?_) | exact HR386_2.out)) | (with_reducible refine Kd.C_alloc ?_ _) | (with_reducible refine Kd.C_drewN ?_ _) | (with_reducible refine Kd.C_drew ?_))); (case side2 => exact HC386_2.out); rintro e w47 ⟨rfl, hb⟩; have n0_ := Aside0.mk (Kd.S_below (by (with_reducible repeat (first | apply Kd.S_alloc | apply Kd.S_drewN | apply Kd.S_drew)); exact HO_5.out) hb); have n1_ := Aside0.mk (Kd.R_below (by (with_reducible repeat (first | apply Kd.R_alloc | apply Kd.R_drewN | apply Kd.R_drew)); exact HL385_2.out) hb); have n2_ := Aside0.mk (Kd.R_below (by (with_reducible repeat (first | apply Kd.R_alloc | apply Kd.R_drewN | apply Kd.R_drew)); exact HL386_2.out) hb); have n3_ := Aside0.mk (blk_below (g := gb384) (o := .cells #[.int .i64 t382, .int .i64 t383] 33 (0, 0)) (by (with_reducible repeat (first | refine blk_drewN ?_ _ | refine blk_drew ?_ | refine blk_alloc ?_ _)); exact BK384.out) hb); have n4_ := Aside0.mk (Kd.C_below (by repeat (first | (with_reducible exact HR385_2.out) | (with_reducible refine Kd.C_alloc ?_ _) | (with_reducible refine Kd.C_drewN ?_ _) | (with_reducible refine Kd.C_drew ?_) | exact HR385_2.out)) hb); have n5_ := Aside0.mk (Kd.C_below (by repeat (first | (with_reducible exact HR386_2.out) | (with_reducible refine Kd.C_alloc ?_ _) | (with_reducible refine Kd.C_drewN ?_ _) | (with_reducible refine Kd.C_drew ?_) | exact HR386_2.out)) hb); have n6_ := Aside0.mk (below_step (by repeat (first | (with_reducible first | exact HB.out | apply below_alloc | apply pw_below_drewN | apply below_drew1 | refine below_set ?_ GE384.out) | exact HB.out)) hb); clear HO_5; clear HL385_2; clear HL386_2; clear BK384; clear HR385_2; clear HR386_2; clear HB; have HO_5 := n0_; have HL385_2 := n1_; have HL386_2 := n2_; have BK384 := n3_; have HR385_2 := n4_; have HR386_2 := n5_; have HB := n6_; clear n0_ n1_ n2_ n3_ n4_ n5_ n6_; (try clear hb); (try clear hb2); (try clear hge); (try clear hk); (try clear hi)) | ((with_reducible refine gate_dst (N := 12) rfl ?_); (try (refine gate_guard (by rfl) ?_; dsimp only)); refine box_event ?hg (N := 12) ?hd (cs := #[.int .i64 0, .int .i64 0]) (t := 33) ?hr ?_; (case hd => rfl); (case hg => rfl); (case hr => first | (go_simp; done) | (go_simp; rfl)); intro gb389 hg w48 hbox hb; have n0_ := Aside0.mk (Kd.S_below (by (with_reducible repeat (first | apply Kd.S_alloc | apply Kd.S_drewN | apply Kd.S_drew)); exact HO_5.out) hb); have n1_ := Aside0.mk (Kd.R_below (by (with_reducible repeat (first | apply Kd.R_alloc | apply Kd.R_drewN | apply Kd.R_drew)); exact HL385_2.out) hb); have n2_ := Aside0.mk (Kd.R_below (by (with_reducible repeat (first | apply Kd.R_alloc | apply Kd.R_drewN | apply Kd.R_drew)); exact HL386_2.out) hb); have n3_ := Aside0.mk (blk_below (g := gb384) (o := .cells #[.int .i64 t382, .int .i64 t383] 33 (0, 0)) (by (with_reducible repeat (first | refine blk_drewN ?_ _ | refine blk_drew ?_ | refine blk_alloc ?_ _)); exact BK384.out) hb); have n4_ := Aside0.mk (Kd.C_below (by repeat (first | (with_reducible exact HR385_2.out) | (with_reducible refine Kd.C_alloc ?_ _) | (with_reducible refine Kd.C_drewN ?_ _) | (with_reducible refine Kd.C_drew ?_) | exact HR385_2.out)) hb); have n5_ := Aside0.mk (Kd.C_below (by repeat (first | (with_reducible exact HR386_2.out) | (with_reducible refine Kd.C_alloc ?_ _) | (with_reducible refine Kd.C_drewN ?_ _) | (with_reducible refine Kd.C_drew ?_) | exact HR386_2.out)) hb); have n6_ := Aside0.mk (below_step (by repeat (first | (with_reducible first | exact HB.out | apply below_alloc | apply pw_below_drewN | apply below_drew1 | refine below_set ?_ GE384.out) | exact HB.out)) hb); have n7_ := Aside0.mk (hbox); have n8_ := Aside0.mk ((by rw [hg]; exact (below_size (by repeat (first | (with_reducible first | exact HB.out | apply below_alloc | apply pw_below_drewN | apply below_drew1 | refine below_set ?_ GE384.out) | exact HB.out))) : w.heap.size ≤ gb389)); have n9_ := Aside0.mk ((by rw [hg]; exact (below_size (by repeat (first | (with_reducible first | exact HB.out | apply below_alloc | apply pw_below_drewN | apply below_drew1 | refine below_set ?_ GE384.out) | exact HB.out))) : w.heap.size ≤ gb389)); have n10_ := Aside0.mk ((by rw [hg]; exact Nat.ne_of_lt (blk_lt (g := gb384) (o := .cells #[.int .i64 t382, .int .i64 t383] 33 (0, 0)) (by (with_reducible repeat (first | refine blk_drewN ?_ _ | refine blk_drew ?_ | refine blk_alloc ?_ _)); exact BK384.out)) : gb384 ≠ gb389)); have n11_ := Aside0.mk ((by rw [hg]; exact Nat.ne_of_gt (blk_lt (g := gb384) (o := .cells #[.int .i64 t382, .int .i64 t383] 33 (0, 0)) (by (with_reducible repeat (first | refine blk_drewN ?_ _ | refine blk_drew ?_ | refine blk_alloc ?_ _)); exact BK384.out)) : gb389 ≠ gb384)); clear HO_5; clear HL385_2; clear HL386_2; clear BK384; clear HR385_2; clear HR386_2; clear HB; have HO_5 := n0_; have HL385_2 := n1_; have HL386_2 := n2_; have BK384 := n3_; have HR385_2 := n4_; have HR386_2 := n5_; have HB := n6_; have BK389 := n7_; have GW389 := n8_; have GE389 := n9_; have NB384_389 := n10_; have NB389_384 := n11_; clear n0_ n1_ n2_ n3_ n4_ n5_ n6_ n7_ n8_ n9_ n10_ n11_; clear hb hbox hg; have hnb49 := NB389_384.out; have hnc49 := NB384_389.out; have hcz50_0 : w48.cell? ⟨gb389, 0, none⟩ = some (.int .i64 0) := (blk_cell BK389.out 0).trans rfl; have hcz50_1 : w48.cell? ⟨gb389, 1, none⟩ = some (.int .i64 0) := (blk_cell BK389.out 1).trans rfl; have hfz50_0 := blk_frozen BK389.out 0; have hfz50_1 := blk_frozen BK389.out 1) | ((with_reducible refine gate_store (t := 33) (p := 12) rfl ?_); (try (rw [drewN_self w48]; generalize hq_ : World.drewN w48 _ = w48; have n0_ := Aside0.mk (Kd.S_at hq_ HO_5.out); have n1_ := Aside0.mk (Kd.R_at hq_ HL385_2.out); have n2_ := Aside0.mk (Kd.R_at hq_ HL386_2.out); have n3_ := Aside0.mk (blk_at hq_ BK384.out); have n4_ := Aside0.mk (blk_at hq_ BK389.out); have n5_ := Aside0.mk (Kd.C_at hq_ HR385_2.out); have n6_ := Aside0.mk (Kd.C_at hq_ HR386_2.out); have n7_ := Aside0.mk (below_at hq_ HB.out); clear hq_ HO_5 HL385_2 HL386_2 BK384 BK389 HR385_2 HR386_2 HB; have HO_5 := n0_; have HL385_2 := n1_; have HL386_2 := n2_; have BK384 := n3_; have BK389 := n4_; have HR385_2 := n5_; have HR386_2 := n6_; have HB := n7_; clear n0_ n1_ n2_ n3_ n4_ n5_ n6_ n7_)); refine store_event (t := 33) (p := 12) (v := ?vo_w51) (w1 := ((w48.setCell ⟨gb389, 0, none⟩ (.int .i64 t387)).setCell ⟨gb389, 1, none⟩ (.int .i64 t388))) ?hg ?ho ?hn ?hr ?_; (case ho => rfl); (case hg => rfl); (case hn => rfl); (case hr => first | (go_simp; done) | (go_simp; rfl)); intro w51 hw; have n0_ : Aside0 (Kd.S k36 36 w51 w.heap.size (fun _ => True) (.slice (some ad381) t367.length co22) t367) := ⟨(by rw [hw]; exact (by (with_reducible repeat (first | apply Kd.S_alloc | apply Kd.S_drewN | apply Kd.S_drew)); exact Kd.S_mono (Kd.S_far (p := ⟨gb389, 1, none⟩) (Kd.S_far (p := ⟨gb389, 0, none⟩) (Kd.S_types HO_5.out BK389.out (by decide)) (fun _ hk => hk.2) (.int .i64 t387)) (fun _ hk => hk.2) (.int .i64 t388)) (fun _ hk => trivial)))⟩; have n1_ : Aside0 (Kd.R (Kd.int .i64) 3 w51 w.heap.size (fun k_ => some k_ ≠ (.slice (some ad381) t367.length co22 : Value).ownBlock) (.slice A385_2 ((rd_T36 t367 t375).f2).length c385_2) ((rd_T36 t367 t375).f2)) := ⟨(by rw [hw]; exact (by (with_reducible repeat (first | apply Kd.R_alloc | apply Kd.R_drewN | apply Kd.R_drew)); exact Kd.R_mono (Kd.R_far (p := ⟨gb389, 1, none⟩) (Kd.R_far (p := ⟨gb389, 0, none⟩) (Kd.R_types HL385_2.out BK389.out (by decide)) (fun _ hk => hk.2) (.int .i64 t387)) (fun _ hk => hk.2) (.int .i64 t388)) (fun _ hk => hk.1.2)))⟩; have n2_ : Aside0 (Kd.R (Kd.int .i64) 3 w51 w.heap.size (fun k_ => some k_ ≠ (.slice (some ad381) t367.length co22 : Value).ownBlock) (.slice A385_2 ((rd_T36 t367 t375).f2).length c385_2) ((rd_T36 t367 t375).f2)) := ⟨(by rw [hw]; exact (by (with_reducible repeat (first | apply Kd.R_alloc | apply Kd.R_drewN | apply Kd.R_drew)); exact Kd.R_mono (Kd.R_far (p := ⟨gb389, 1, none⟩) (Kd.R_far (p := ⟨gb389, 0, none⟩) (Kd.R_types HL386_2.out BK389.out (by decide)) (fun _ hk => hk.2) (.int .i64 t387)) (fun _ hk => hk.2) (.int .i64 t388)) (fun _ hk => hk.1.2)))⟩; have n3_ : Aside0 (w51.heap[gb384]? = some (.cells #[.int .i64 t382, .int .i64 t383] 33 (0, 0))) := ⟨(by rw [hw]; exact (by (with_reducible repeat (first | refine blk_drewN ?_ _ | refine blk_drew ?_ | refine blk_alloc ?_ _)); refine blk_far ?_ NB384_389.out _; (with_reducible repeat (first | refine blk_drewN ?_ _ | refine blk_drew ?_ | refine blk_alloc ?_ _)); refine blk_far ?_ NB384_389.out _; (with_reducible repeat (first | refine blk_drewN ?_ _ | refine blk_drew ?_ | refine blk_alloc ?_ _)); exact BK384.out))⟩; have n4_ : Aside0 (w51.heap[gb389]? = some (.cells #[.int .i64 t387, .int .i64 t388] 33 (0, 0))) := ⟨(by rw [hw]; exact (by (with_reducible repeat (first | refine blk_drewN ?_ _ | refine blk_drew ?_ | refine blk_alloc ?_ _)); refine blk_put (cs := #[.int .i64 t387, .int .i64 0]) ?_ 1 _ rfl; (with_reducible repeat (first | refine blk_drewN ?_ _ | refine blk_drew ?_ | refine blk_alloc ?_ _)); refine blk_put (cs := #[.int .i64 0, .int .i64 0]) ?_ 0 _ rfl; (with_reducible repeat (first | refine blk_drewN ?_ _ | refine blk_drew ?_ | refine blk_alloc ?_ _)); exact BK389.out))⟩; have n5_ : Aside0 (Below w.heap.size w w51) := ⟨(by rw [hw]; exact (by repeat (first | (with_reducible first | exact HB.out | apply below_alloc | apply pw_below_drewN | apply below_drew1 | refine below_set ?_ GE384.out | refine below_set ?_ GE389.out) | exact HB.out)))⟩; clear hw; clear HO_5; clear HL385_2; clear HL386_2; clear BK384; clear BK389; clear HB; have HO_5 := n0_; have HL385_2 := n1_; have HL386_2 := n2_; have BK384 := n3_; have BK389 := n4_; have HB := n5_; clear n0_ n1_ n2_ n3_ n4_ n5_; have hcz52_0 : w51.cell? ⟨gb389, 0, none⟩ = some (.int .i64 t387) := (blk_cell BK389.out 0).trans rfl; have hcz52_1 : w51.cell? ⟨gb389, 1, none⟩ = some (.int .i64 t388) := (blk_cell BK389.out 1).trans rfl; have hfz52_0 := blk_frozen BK389.out 0; have hfz52_1 := blk_frozen BK389.out 1; have p390 : 0 ≤ (t375 : Int) := of_decide_eq_true (by first | (with_reducible assumption) | assumption); have q390 : t375 < (t367.length : Int) := of_decide_eq_true (by first | (with_reducible assumption) | assumption); obtain ⟨ad390, A390_2, c390_2, e390, hx390_0, hx390_1, hx390_2, hl390_2, hi390_2⟩ := at_T36 (Kd.S_reads' HO_5.out).2.2 t375 p390 q390; obtain rfl : ad381 = ad390 := (by injection e390); obtain ⟨ce390, hce390, hMe390, hcc390⟩ := Kd.S_get HO_5.out z36 t375 p390 (by first | exact q390 | exact of_decide_eq_true (by first | (with_reducible assumption) | assumption) | (have e_ := (Kd.S_reads' HO_5.out).1; omega)); obtain ⟨ve390_2, rfl, ge390_2⟩ := k36_openM hMe390; have hv390_2 := hcc390 2 _ rfl; rw [add_field _ _ 2 (by omega)] at hv390_2; replace hv390_2 := Option.some.inj (hv390_2.symm.trans hx390_2); rw [hv390_2] at ge390_2; have HL390_2 := Aside0.mk (show Kd.R (Kd.int .i64) 3 _ _ _ _ ((rd_T36 t367 t375).f2) from ge390_2); clear hv390_2 ge390_2; clear hcc390 hce390; have HR390_2 := Aside0.mk hi390_2; have HC390_2 := Aside0.mk hl390_2; clear hi390_2 hl390_2; replace p390 := eq_true p390; replace q390 := eq_true q390; have p391 : 0 ≤ (x11_3 : Int) := of_decide_eq_true (by first | (with_reducible assumption) | assumption); have q391 : x11_3 < (((rd_T36 t367 t375).f2).length : Int) := of_decide_eq_true (by first | (with_reducible assumption) | assumption); obtain ⟨ad391, e391, hx391_0⟩ := Kd.at_int (by repeat (first | (with_reducible exact HR390_2.out) | (with_reducible refine Kd.C_alloc ?_ _) | (with_reducible refine Kd.C_drewN ?_ _) | (with_reducible refine Kd.C_drew ?_) | exact HR390_2.out)) x11_3 p391 q391; cases e391; replace p391 := eq_true p391; replace q391 := eq_true q391; have hcz53_0 : w51.cell? ⟨gb384, 0, none⟩ = some (.int .i64 t382) := (blk_cell BK384.out 0).trans rfl; have hcz53_1 : w51.cell? ⟨gb384, 1, none⟩ = some (.int .i64 t383) := (blk_cell BK384.out 1).trans rfl; have hfz53_0 := blk_frozen BK384.out 0; have hfz53_1 := blk_frozen BK384.out 1)))
              go_roundg k3
              case measure => have := HJ3.out; have := HJ20.out; have := HK3.out; omega
              case rel => exact ⟨(wrap64 (x11_3 + 1)), (by first | rfl | (simp; done) | (simp [*]; done)), H', ⟨by have := HJ3.out; have := HJ20.out; have := HK3.out; omega⟩, ⟨by (with_reducible repeat (first | apply Kd.S_alloc | apply Kd.S_drewN | apply Kd.S_drew)); exact HO_5.out⟩, ⟨by (with_reducible repeat (first | refine blk_drewN ?_ _ | refine blk_drew ?_ | refine blk_alloc ?_ _)); exact BK384.out⟩, ⟨by repeat (first | (with_reducible first | exact HB.out | apply below_alloc | apply pw_below_drewN | apply below_drew1 | refine below_set ?_ GE384.out | refine below_set ?_ GE389.out) | exact HB.out)⟩⟩
           ·
            rw [if_neg c44] at H
            have c44b0 : (t388 == t387) = false := beq_eq_false_iff_ne.mpr c44
            have c44b1 : (t388 != t387) = true := bne_iff_ne.mpr c44
            obtain rfl := Option.some.inj H
            exact absurd hr_.out (by decide)
          ·
           rw [if_neg c43] at H
           have c43b0 : (t387 == (rd ((rd_T36 t367 t375).f2) x11_3)) = false := beq_eq_false_iff_ne.mpr c43
           have c43b1 : (t387 != (rd ((rd_T36 t367 t375).f2) x11_3)) = true := bne_iff_ne.mpr c43
           obtain rfl := Option.some.inj H
           exact absurd hr_.out (by decide)
         ·
          rw [if_neg c40] at H
          have c40b0 : decide (x11_3 < (((rd_T36 t367 t375).f2).length : Int)) = false := decide_eq_false c40
          clear c40
          replace H := Option.bind_eq_some_iff.mp H
          obtain ⟨t392, A540, H⟩ := H
          replace H : (some t392) = some r := H
          have A54 := Aside0.mk A540
          clear A540
          obtain rfl := Option.some.inj H
          have p385 : 0 ≤ (t375 : Int) := of_decide_eq_true (by first | (with_reducible assumption) | assumption)
          have q385 : t375 < (t367.length : Int) := of_decide_eq_true (by first | (with_reducible assumption) | assumption)
          obtain ⟨ad385, A385_2, c385_2, e385, hx385_0, hx385_1, hx385_2, hl385_2, hi385_2⟩ := at_T36 (Kd.S_reads' HO_5.out).2.2 t375 p385 q385
          obtain rfl : ad381 = ad385 := (by injection e385)
          obtain ⟨ce385, hce385, hMe385, hcc385⟩ := Kd.S_get HO_5.out z36 t375 p385 (by first | exact q385 | exact of_decide_eq_true (by first | (with_reducible assumption) | assumption) | (have e_ := (Kd.S_reads' HO_5.out).1; omega))
          obtain ⟨ve385_2, rfl, ge385_2⟩ := k36_openM hMe385
          have hv385_2 := hcc385 2 _ rfl
          rw [add_field _ _ 2 (by omega)] at hv385_2
          replace hv385_2 := Option.some.inj (hv385_2.symm.trans hx385_2)
          rw [hv385_2] at ge385_2
          have HL385_2 := Aside0.mk (show Kd.R (Kd.int .i64) 3 _ _ _ _ ((rd_T36 t367 t375).f2) from ge385_2)
          clear hv385_2 ge385_2
          clear hcc385 hce385
          have HR385_2 := Aside0.mk hi385_2
          have HC385_2 := Aside0.mk hl385_2
          clear hi385_2 hl385_2
          replace p385 := eq_true p385
          replace q385 := eq_true q385
          go_wp2_with (first | (go_at_call 8; (with_reducible refine (minecontrollaw08_awake.calls k3  t392 _ A54.out).mono ?_); rintro e w55 ⟨rfl, hb⟩; have n0_ := Aside0.mk (Kd.S_below (by (with_reducible repeat (first | apply Kd.S_alloc | apply Kd.S_drewN | apply Kd.S_drew)); exact HO_5.out) hb); have n1_ := Aside0.mk (Kd.R_below (by (with_reducible repeat (first | apply Kd.R_alloc | apply Kd.R_drewN | apply Kd.R_drew)); exact HL385_2.out) hb); have n2_ := Aside0.mk (blk_below (g := gb384) (o := .cells #[.int .i64 t382, .int .i64 t383] 33 (0, 0)) (by (with_reducible repeat (first | refine blk_drewN ?_ _ | refine blk_drew ?_ | refine blk_alloc ?_ _)); exact BK384.out) hb); have n3_ := Aside0.mk (Kd.C_below (by repeat (first | (with_reducible exact HR385_2.out) | (with_reducible refine Kd.C_alloc ?_ _) | (with_reducible refine Kd.C_drewN ?_ _) | (with_reducible refine Kd.C_drew ?_) | exact HR385_2.out)) hb); have n4_ := Aside0.mk (below_step (by repeat (first | (with_reducible first | exact HB.out | apply below_alloc | apply pw_below_drewN | apply below_drew1 | refine below_set ?_ GE384.out) | exact HB.out)) hb); clear HO_5; clear HL385_2; clear BK384; clear HR385_2; clear HB; have HO_5 := n0_; have HL385_2 := n1_; have BK384 := n2_; have HR385_2 := n3_; have HB := n4_; clear n0_ n1_ n2_ n3_ n4_; (try clear hb); (try clear hb2); (try clear hge); (try clear hk); (try clear hi)))
          repeat (go_quiet (first | (go_at_call 8; (with_reducible refine (minecontrollaw08_awake.calls k3  t392 _ A54.out).mono ?_); rintro e w55 ⟨rfl, hb⟩; have n0_ := Aside0.mk (Kd.S_below (by (with_reducible repeat (first | apply Kd.S_alloc | apply Kd.S_drewN | apply Kd.S_drew)); exact HO_5.out) hb); have n1_ := Aside0.mk (Kd.R_below (by (with_reducible repeat (first | apply Kd.R_alloc | apply Kd.R_drewN | apply Kd.R_drew)); exact HL385_2.out) hb); have n2_ := Aside0.mk (blk_below (g := gb384) (o := .cells #[.int .i64 t382, .int .i64 t383] 33 (0, 0)) (by (with_reducible repeat (first | refine blk_drewN ?_ _ | refine blk_drew ?_ | refine blk_alloc ?_ _)); exact BK384.out) hb); have n3_ := Aside0.mk (Kd.C_below (by repeat (first | (with_reducible exact HR385_2.out) | (with_reducible refine Kd.C_alloc ?_ _) | (with_reducible refine Kd.C_drewN ?_ _) | (with_reducible refine Kd.C_drew ?_) | exact HR385_2.out)) hb); have n4_ := Aside0.mk (below_step (by repeat (first | (with_reducible first | exact HB.out | apply below_alloc | apply pw_below_drewN | apply below_drew1 | refine below_set ?_ GE384.out) | exact HB.out)) hb); clear HO_5; clear HL385_2; clear BK384; clear HR385_2; clear HB; have HO_5 := n0_; have HL385_2 := n1_; have BK384 := n2_; have HR385_2 := n3_; have HB := n4_; clear n0_ n1_ n2_ n3_ n4_; (try clear hb); (try clear hb2); (try clear hge); (try clear hk); (try clear hi))); try go_wp2_with (first | (go_at_call 8; (with_reducible refine (minecontrollaw08_awake.calls k3  t392 _ A54.out).mono ?_); rintro e w55 ⟨rfl, hb⟩; have n0_ := Aside0.mk (Kd.S_below (by (with_reducible repeat (first | apply Kd.S_alloc | apply Kd.S_drewN | apply Kd.S_drew)); exact HO_5.out) hb); have n1_ := Aside0.mk (Kd.R_below (by (with_reducible repeat (first | apply Kd.R_alloc | apply Kd.R_drewN | apply Kd.R_drew)); exact HL385_2.out) hb); have n2_ := Aside0.mk (blk_below (g := gb384) (o := .cells #[.int .i64 t382, .int .i64 t383] 33 (0, 0)) (by (with_reducible repeat (first | refine blk_drewN ?_ _ | refine blk_drew ?_ | refine blk_alloc ?_ _)); exact BK384.out) hb); have n3_ := Aside0.mk (Kd.C_below (by repeat (first | (with_reducible exact HR385_2.out) | (with_reducible refine Kd.C_alloc ?_ _) | (with_reducible refine Kd.C_drewN ?_ _) | (with_reducible refine Kd.C_drew ?_) | exact HR385_2.out)) hb); have n4_ := Aside0.mk (below_step (by repeat (first | (with_reducible first | exact HB.out | apply below_alloc | apply pw_below_drewN | apply below_drew1 | refine below_set ?_ GE384.out) | exact HB.out)) hb); clear HO_5; clear HL385_2; clear BK384; clear HR385_2; clear HB; have HO_5 := n0_; have HL385_2 := n1_; have BK384 := n2_; have HR385_2 := n3_; have HB := n4_; clear n0_ n1_ n2_ n3_ n4_; (try clear hb); (try clear hb2); (try clear hge); (try clear hk); (try clear hi))))
          go_ret
          exact ⟨by first | rfl | (simp [errW_none, errW_some] <;> rfl) | (simp [*, errW_none, errW_some] <;> rfl), by repeat (first | (with_reducible first | exact HB.out | apply below_alloc | apply pw_below_drewN | apply below_drew1 | refine below_set ?_ GE384.out) | exact HB.out)⟩

/-- THE ONE PURE STATEMENT of minecontrollaw08_DoorShuts: yours. -/
def minecontrollaw08_DoorShuts.Pure : Prop := ∀ (l0 : List Int) (a1 : Int), l0.length ≤ maxLen → l0.length * 1 ≤ 140737488351232 → (∀ x ∈ l0, (Lit.int .u8 x).wf = true) → (Lit.int .i64 a1).wf = true → ∃ k, minecontrollaw08_DoorShuts.f k l0 a1 = some true
theorem minecontrollaw08_DoorShuts.walk (P : minecontrollaw08_DoorShuts.Pure) (a0 : Option Addr) (len0 cap0 : Nat) (z0 : List Int) (a1 : Int) (w : World) (w0 : (a0 = none ∧ len0 = 0 ∧ cap0 = 0 ∧ z0 = []) ∨ ∃ x, a0 = some x ∧ len0 ≤ cap0 ∧ cap0 ≤ maxLen ∧ z0.length = cap0 ∧ (∀ i, i < z0.length → w.cell? (x.add i) = some (.int .u8 (z0.getD i 0))) ∧ ∀ n ∈ z0, (Lit.int .u8 n).wf = true) (y0 : len0 * 1 ≤ 140737488351232) (w1 : (Lit.int .i64 a1).wf = true) :
  Calls Try.prog 6 #[.slice a0 len0 cap0, .int .i64 a1] w fun e w' => e = .returned (.bool true) ∧ Below w.heap.size w w' := by
 obtain ⟨l0, rfl, hr0, hm0, hw0, hc0⟩ := ReadsInt.ofRowC w0
 obtain ⟨k, h⟩ := P l0 a1 hm0 y0 hw0 w1
 refine (minecontrollaw08_DoorShuts.calls1 k _ _ l0 a1 true w (Kd.C_of_reads (d := (0 : Int)) (h1 := fun _ => rfl) hr0) hc0 (.mk rfl) h).mono ?_
 rintro e w' ⟨rfl, hd⟩
 exact ⟨rfl, hd⟩

end Go.Proofs.Ytmlkchkhgjebgaa.PDoo
