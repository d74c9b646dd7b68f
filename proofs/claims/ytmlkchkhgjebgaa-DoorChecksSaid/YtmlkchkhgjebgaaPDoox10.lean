/- Functions of the given program as Lean functions, and proofs that its calls come to what these say. Written by a program of this seat (wip/mkprint.py); Lean checks it all. -/
import Derived.Test.YtmlkchkhgjebgaaPDoox0
import Derived.Test.YtmlkchkhgjebgaaPDoox1
import Derived.Test.YtmlkchkhgjebgaaPDoox2
import Derived.Test.YtmlkchkhgjebgaaPDoox3
import Derived.Test.YtmlkchkhgjebgaaPDoox4
import Derived.Test.YtmlkchkhgjebgaaPDoox5
import Derived.Test.YtmlkchkhgjebgaaPDoox7
import Derived.Test.YtmlkchkhgjebgaaPDoox8
import Derived.Test.YtmlkchkhgjebgaaPDoox9
namespace Go.Proofs.Ytmlkchkhgjebgaa.PDoo
open Go.RowKit Go.Proofs.YtmlkchkhgjebgaaW.PrintWords Go.Proofs.YtmlkchkhgjebgaaW.PrintLast Go.Proofs.YtmlkchkhgjebgaaW.PrintMore
attribute [local go_sem] max2_int min2_int max_two min_two max_three min_three max_four min_four   -- for this text's walks alone
set_option linter.unusedVariables false
set_option linter.unusedSimpArgs false

attribute [local go_sem high] eqA33
/-! ### minecontrollaw08_DoorChecks: function 3 -/
mutual
def minecontrollaw08_DoorChecks.l0 : Nat → Int → List (List (S36)) → Int → Int → Option (Bool)
 | 0, _, _, _, _ => none
 | k + 1, x4, x30, x31, x32 => if x32 < x31 then (if 0 ≤ x32 then (if x32 < (x30.length : Int) then ((door_Check.f k (rd_L4 x30 x32)).bind fun t303 => ((minecontrolref08_Check.f k (rd_L4 x30 x32)).bind fun t304 => (if t303 = t304 then (minecontrollaw08_DoorChecks.l1 k x4 (rd_L4 x30 x32) 0 x30 x31 x32) else (some false)))) else (none)) else (none)) else ((minecontrollaw08_awake.f k).bind fun t301 => (some t301))
def minecontrollaw08_DoorChecks.l1 : Nat → Int → List (S36) → Int → List (List (S36)) → Int → Int → Option (Bool)
 | 0, _, _, _, _, _, _ => none
 | k + 1, x4, x14, x15, x30, x31, x32 => if x15 < (x14.length : Int) then ((minecontroldraw_Mod.f x4 9).bind fun t305 => (if 0 ≤ x15 then ((door_Rest.f k ((rd_T36 x14 x15).f0) ((rd_T36 x14 x15).f1) ((rd_T36 x14 x15).f2) x4).bind fun bt307 => ((minecontrolref08_Rest.f k ((rd_T36 x14 x15).f0) ((rd_T36 x14 x15).f1) ((rd_T36 x14 x15).f2) x4).bind fun bt310 => (if (!(bt307.1 == bt310.1) || (!(bt307.2 == bt310.2))) = true then (some false) else ((door_Rest.f k ((rd_T36 x14 x15).f0) ((rd_T36 x14 x15).f1) ((rd_T36 x14 x15).f2) (wrap64 (t305 - 2))).bind fun bt313 => ((minecontrolref08_Rest.f k ((rd_T36 x14 x15).f0) ((rd_T36 x14 x15).f1) ((rd_T36 x14 x15).f2) (wrap64 (t305 - 2))).bind fun bt316 => (if (!(bt313.1 == bt316.1) || (!(bt313.2 == bt316.2))) = true then (some false) else (minecontrollaw08_DoorChecks.l1 k x4 x14 (wrap64 (x15 + 1)) x30 x31 x32))))))) else (none))) else (minecontrollaw08_DoorChecks.l0 k x4 x30 x31 (wrap64 (x32 + 1)))
end
def minecontrollaw08_DoorChecks.f (k : Nat) (l0 : List Int) (l1 : List (S36)) (a2 : Int) (a3 : Int) (a4 : Int) : Option (Bool) := if (l1.length : Int) > 30 then ((minecontrollaw08_awake.f k).bind fun t291 => (some t291)) else ((minecontrollaw08_doors.f k l0 a2 a3).bind fun bt292 => ((some (([bt292.1, l1] : List (List (S36))) : List (List (S36)))).bind fun y298 => (minecontrollaw08_DoorChecks.l0 k a4 y298 (y298.length : Int) 0)))
theorem minecontrollaw08_DoorChecks.mono_l : ∀ k, (∀ y0 y1 y2 y3, LeO (minecontrollaw08_DoorChecks.l0 k y0 y1 y2 y3) (minecontrollaw08_DoorChecks.l0 (k + 1) y0 y1 y2 y3)) ∧ (∀ y0 y1 y2 y3 y4 y5, LeO (minecontrollaw08_DoorChecks.l1 k y0 y1 y2 y3 y4 y5) (minecontrollaw08_DoorChecks.l1 (k + 1) y0 y1 y2 y3 y4 y5))
 | 0 => ⟨fun _ _ _ _ r h => by simp [minecontrollaw08_DoorChecks.l0] at h, fun _ _ _ _ _ _ r h => by simp [minecontrollaw08_DoorChecks.l1] at h⟩
 | k + 1 => by
  obtain ⟨ih0, ih1⟩ := minecontrollaw08_DoorChecks.mono_l k
  refine ⟨?_, ?_⟩
  ·
   intro y0 y1 y2 y3
   unfold minecontrollaw08_DoorChecks.l0
   repeat' first
   | (with_reducible exact ih0 _ _ _ _)
   | (with_reducible exact ih1 _ _ _ _ _ _)
   | (with_reducible exact door_Check.mono _ _)
   | (with_reducible exact door_Rest.mono _ _ _ _ _)
   | (with_reducible exact minecontrollaw08_awake.mono _)
   | (with_reducible exact minecontrollaw08_doors.mono _ _ _ _)
   | (with_reducible exact minecontrolref08_Check.mono _ _)
   | (with_reducible exact minecontrolref08_Rest.mono _ _ _ _ _)
   | (with_reducible exact LeO.refl _)
   | (with_reducible exact LeO.none _)
   | (with_reducible refine LeO.ite ?_ ?_)
   | (with_reducible refine LeO.bind ?_ (fun _ => ?_))
   | exact ih0 _ _ _ _
   | exact ih1 _ _ _ _ _ _
   | exact door_Check.mono _ _
   | exact door_Rest.mono _ _ _ _ _
   | exact minecontrollaw08_awake.mono _
   | exact minecontrollaw08_doors.mono _ _ _ _
   | exact minecontrolref08_Check.mono _ _
   | exact minecontrolref08_Rest.mono _ _ _ _ _
   | exact LeO.none _
   | refine LeO.ite ?_ ?_
   | refine LeO.bind ?_ (fun _ => ?_)
  ·
   intro y0 y1 y2 y3 y4 y5
   unfold minecontrollaw08_DoorChecks.l1
   repeat' first
   | (with_reducible exact ih0 _ _ _ _)
   | (with_reducible exact ih1 _ _ _ _ _ _)
   | (with_reducible exact door_Check.mono _ _)
   | (with_reducible exact door_Rest.mono _ _ _ _ _)
   | (with_reducible exact minecontrollaw08_awake.mono _)
   | (with_reducible exact minecontrollaw08_doors.mono _ _ _ _)
   | (with_reducible exact minecontrolref08_Check.mono _ _)
   | (with_reducible exact minecontrolref08_Rest.mono _ _ _ _ _)
   | (with_reducible exact LeO.refl _)
   | (with_reducible exact LeO.none _)
   | (with_reducible refine LeO.ite ?_ ?_)
   | (with_reducible refine LeO.bind ?_ (fun _ => ?_))
   | exact ih0 _ _ _ _
   | exact ih1 _ _ _ _ _ _
   | exact door_Check.mono _ _
   | exact door_Rest.mono _ _ _ _ _
   | exact minecontrollaw08_awake.mono _
   | exact minecontrollaw08_doors.mono _ _ _ _
   | exact minecontrolref08_Check.mono _ _
   | exact minecontrolref08_Rest.mono _ _ _ _ _
   | exact LeO.none _
   | refine LeO.ite ?_ ?_
   | refine LeO.bind ?_ (fun _ => ?_)
theorem minecontrollaw08_DoorChecks.mono : ∀ a0 a1 a2 a3 a4 k, LeO (minecontrollaw08_DoorChecks.f k a0 a1 a2 a3 a4) (minecontrollaw08_DoorChecks.f (k + 1) a0 a1 a2 a3 a4) := by
 intro a0 a1 a2 a3 a4 k
 obtain ⟨ih0, ih1⟩ := minecontrollaw08_DoorChecks.mono_l k
 unfold minecontrollaw08_DoorChecks.f
 repeat' first
   | (with_reducible exact ih0 _ _ _ _)
   | (with_reducible exact ih1 _ _ _ _ _ _)
   | (with_reducible exact door_Check.mono _ _)
   | (with_reducible exact door_Rest.mono _ _ _ _ _)
   | (with_reducible exact minecontrollaw08_awake.mono _)
   | (with_reducible exact minecontrollaw08_doors.mono _ _ _ _)
   | (with_reducible exact minecontrolref08_Check.mono _ _)
   | (with_reducible exact minecontrolref08_Rest.mono _ _ _ _ _)
   | (with_reducible exact LeO.refl _)
   | (with_reducible exact LeO.none _)
   | (with_reducible refine LeO.ite ?_ ?_)
   | (with_reducible refine LeO.bind ?_ (fun _ => ?_))
   | exact ih0 _ _ _ _
   | exact ih1 _ _ _ _ _ _
   | exact door_Check.mono _ _
   | exact door_Rest.mono _ _ _ _ _
   | exact minecontrollaw08_awake.mono _
   | exact minecontrollaw08_doors.mono _ _ _ _
   | exact minecontrolref08_Check.mono _ _
   | exact minecontrolref08_Rest.mono _ _ _ _ _
   | exact LeO.none _
   | refine LeO.ite ?_ ?_
   | refine LeO.bind ?_ (fun _ => ?_)
def minecontrollaw08_DoorChecks.T13 : Bool × List (List Nat × List Nat) := (true, [([], []), ([], []), ([0, 1], [0, 1]), ([2], [2]), ([], []), ([3, 4], [3, 4]), ([], []), ([], []), ([6, 7], [6, 7]), ([8], [8]), ([], []), ([9, 10, 5], [9, 10]), ([5, 11], [5, 11]), ([12, 11], [12]), ([13], [13]), ([13], [13]), ([14, 15, 13], [13, 14, 15]), ([16, 13], [13, 16]), ([13], [13]), ([17, 18, 13, 13], [13, 17, 18]), ([13], [13]), ([13], [13]), ([20, 21, 13], [13, 20, 21]), ([22, 13], [13, 22]), ([13], [13]), ([23, 24, 19, 13], [13, 23, 24]), ([19, 25, 13], [13, 19, 25]), ([13, 26], [13, 26])])
def minecontrollaw08_DoorChecks.B13 : List Nat := [0, 0, 3, 7, 0, 31, 0, 0, 192, 448, 0, 2047, 4095, 8191, 16383, 16383, 65535, 131071, 16383, 524287, 16383, 16383, 3162111, 7356415, 16383, 33554431, 67108863, 134217727]
theorem minecontrollaw08_DoorChecks.tab13 : rtab .any (opsOf Try.f3 13) = minecontrollaw08_DoorChecks.T13 := by kernel_rfl
theorem minecontrollaw08_DoorChecks.bits13 : waitsOk minecontrollaw08_DoorChecks.T13.2 minecontrollaw08_DoorChecks.B13 = true := by kernel_rfl
set_option maxHeartbeats 8000000 in
set_option maxRecDepth 100000 in
theorem minecontrollaw08_DoorChecks.calls1 (k : Nat) (A0 : Option Addr) (c0 : Nat) (l0 : List Int) (P1_ : Nat → Prop) (A1 : Option Addr) (c1 : Nat) (l1 : List (S36)) (a2 : Int) (a3 : Int) (a4 : Int) (r : Bool) (w : World) (hr0 : Kd.C (Kd.int .u8) w A0 l0.length l0) (hc0 : l0.length ≤ c0) (hs1 : Kd.V k36 36 w w.heap.size (fun k_ => P1_ k_) (.slice A1 l1.length c1) l1) (hr_ : Aside0 (r = true)) (h : minecontrollaw08_DoorChecks.f k l0 l1 a2 a3 a4 = some r) :
  Calls Try.prog 3 #[.slice A0 l0.length c0, .slice A1 l1.length c1, .int .i64 a2, .int .i64 a3, .int .i64 a4] w fun e w' => e = .returned (.bool r) ∧ Below w.heap.size w w' := by
 have hu36 := Try.underlying36
 have HR0 := Aside0.mk hr0
 have HC0 := Aside0.mk hc0
 clear hr0 hc0
 have HO1 := Aside0.mk (show Kd.V k36 36 w w.heap.size (fun k_ => (P1_ k_ ∨ w.heap.size ≤ k_)) (.slice A1 l1.length c1) l1 from Kd.V_mono hs1 (fun k_ hk => .inl hk))
 have HB := Aside0.mk (Below.refl w.heap.size w)
 have H : (if (l1.length : Int) > 30 then ((minecontrollaw08_awake.f k).bind fun t291 => (some t291)) else ((minecontrollaw08_doors.f k l0 a2 a3).bind fun bt292 => ((some (([bt292.1, l1] : List (List (S36))) : List (List (S36)))).bind fun y298 => (minecontrollaw08_DoorChecks.l0 k a4 y298 (y298.length : Int) 0)))) = some r := h
 clear h
 by_cases c6 : (l1.length : Int) > 30
 ·
  rw [if_pos c6] at H
  have c6b0 : decide (30 < (l1.length : Int)) = true := decide_eq_true c6
  have c6b1 : decide (30 < l1.length) = true := decide_eq_true (by omega)
  clear c6
  replace H := Option.bind_eq_some_iff.mp H
  obtain ⟨t291, A70, H⟩ := H
  replace H : (some t291) = some r := H
  have A7 := Aside0.mk A70
  clear A70
  obtain rfl := Option.some.inj H
  go_enter Try.func3, Try.ntmps3
  go_wp2_with (first | ((with_reducible refine gate_callee (f := 8) rfl ?_); refine goesL_ (some 20) rfl rfl Try.func8 (by kernel_rfl) rfl #[] rfl (by (try simp only [List.map_toArray, List.map_cons, List.map_nil]); first | done | rfl | (simp only [List.length_drop, List.length_take]; rfl)) ?_; (with_reducible refine (minecontrollaw08_awake.calls k  t291 _ A7.out).mono ?_); rintro e w8 ⟨rfl, hb⟩; refine ⟨_, rfl, ?_⟩; have n0_ := Aside0.mk (Kd.V_below (by (with_reducible repeat (first | apply Kd.V_alloc | apply Kd.V_drewN | apply Kd.V_drew)); exact HO1.out) hb); have n1_ := Aside0.mk (below_step (by repeat (first | (with_reducible first | exact HB.out | apply below_alloc | apply pw_below_drewN | apply below_drew1) | exact HB.out)) hb); clear HO1; clear HB; have HO1 := n0_; have HB := n1_; clear n0_ n1_; (try clear hb); (try clear hb2); (try clear hge); (try clear hk); (try clear hi)))
  go_ret
  exact ⟨by first | rfl | (simp [errW_none, errW_some] <;> rfl) | (simp [*, errW_none, errW_some] <;> rfl), by repeat (first | (with_reducible first | exact HB.out | apply below_alloc | apply pw_below_drewN | apply below_drew1) | exact HB.out)⟩
 ·
  rw [if_neg c6] at H
  have c6b0 : decide (30 < (l1.length : Int)) = false := decide_eq_false c6
  have c6b1 : decide (30 < l1.length) = false := decide_eq_false (by omega)
  clear c6
  replace H := Option.bind_eq_some_iff.mp H
  obtain ⟨⟨t292, t293⟩, A90, H⟩ := H
  replace H : ((some (([t292, l1] : List (List (S36))) : List (List (S36)))).bind fun y298 => (minecontrollaw08_DoorChecks.l0 k a4 y298 (y298.length : Int) 0)) = some r := H
  have A9 := Aside0.mk A90
  clear A90
  obtain ⟨y298, hy298⟩ : ∃ y_ : List (List (S36)), y_ = (([t292, l1] : List (List (S36)))) := ⟨_, rfl⟩
  replace H : (minecontrollaw08_DoorChecks.l0 k a4 y298 (y298.length : Int) 0) = some r := by first | (rw [hy298]; with_reducible exact H) | (have H2_ := (Option.bind_some _ _).symm.trans H; rw [hy298]; with_reducible exact H2_) | (have H2_ := (Option.bind_some _ _).symm.trans H; with_reducible exact H2_) | with_reducible exact H | (rw [hy298]; exact H) | exact H
  have Ny298 := Aside0.mk hy298
  clear hy298
  have H' := Aside0.mk H
  clear H
  go_enter Try.func3, Try.ntmps3
  go_wp2_with (first | ((with_reducible refine gate_callee (f := 9) rfl ?_); refine goesL_ (some 25) rfl rfl Try.func9 (by kernel_rfl) rfl #[.slice A0 l0.length c0, .int .i64 a2, .int .i64 a3] rfl (by (try simp only [List.map_toArray, List.map_cons, List.map_nil]); first | done | rfl | (simp only [List.length_drop, List.length_take]; rfl)) ?_; (with_reducible refine (minecontrollaw08_doors.calls k _ _ l0 a2 a3 t292 t293 _ ?side1 ?side2 A9.out).mono ?_); (case side1 => repeat (first | exact HR0.out | (with_reducible refine Kd.C_alloc ?_ _) | (with_reducible refine Kd.C_drewN ?_ _) | (with_reducible refine Kd.C_drew ?_))); (case side2 => exact HC0.out); rintro e w10 ⟨v294, v296, rfl, ho0, ho1, hb⟩; refine ⟨_, rfl, ?_⟩; have n0_ := Aside0.mk (Kd.V_mono (Kd.V_told (Kd.V_told (Kd.V_old (by (with_reducible repeat (first | apply Kd.V_alloc | apply Kd.V_drewN | apply Kd.V_drew)); exact HO1.out) hb) (Kd.S_base ho0)) (Kd.Q_base ho1)) (fun _ h_ => h_.1)); have n1_ := Aside0.mk (Kd.N_lower (Kd.N_mono (ok' := fun k_ => (P1_ k_ ∨ w.heap.size ≤ k_) ∧ some k_ ≠ (v296 : Value).ownBlock) (Kd.S_N (Kd.S_bound ho0)) (fun k_ hk_ => ⟨(.inr (Nat.le_trans (below_size (by repeat (first | (with_reducible first | exact HB.out | apply below_alloc | apply pw_below_drewN | apply below_drew1) | exact HB.out))) hk_.2.1)), hk_.1⟩)) (below_size (by repeat (first | (with_reducible first | exact HB.out | apply below_alloc | apply pw_below_drewN | apply below_drew1) | exact HB.out)))); have n2_ := Aside0.mk (Kd.Q_lower (Kd.Q_newM (M := fun k_ => (w.heap.size ≤ k_)) ho1 (below_size (by repeat (first | (with_reducible first | exact HB.out | apply below_alloc | apply pw_below_drewN | apply below_drew1) | exact HB.out))) (fun k_ h_ => h_)) (below_size (by repeat (first | (with_reducible first | exact HB.out | apply below_alloc | apply pw_below_drewN | apply below_drew1) | exact HB.out)))); have n3_ := Aside0.mk (below_step (by repeat (first | (with_reducible first | exact HB.out | apply below_alloc | apply pw_below_drewN | apply below_drew1) | exact HB.out)) hb); clear HO1; clear HB; have HO1 := n0_; have HO295 := n1_; have HO297 := n2_; have HB := n3_; clear n0_ n1_ n2_ n3_; (try clear hb); (try clear hb2); (try clear hge); (try clear hk); (try clear hi); (try clear ho0); (try clear ho1); obtain ⟨Ao11, co11, eo11⟩ := Kd.N_slice HO295.out; subst eo11) | ((with_reducible refine gate_dst (N := 30) rfl ?_); refine Kd.N_lit (Kd.slice 36 k36) _ 23 ?hg (N' := 30) ?hd (xs := ([t292, l1] : List (List (S36)))) (inner := [.slice Ao11 t292.length co11, .slice A1 l1.length c1]) (ok := (fun k_ => (P1_ k_ ∨ w.heap.size ≤ k_) ∧ some k_ ≠ (v296 : Value).ownBlock)) (okp := (fun k_ => (P1_ k_ ∨ w.heap.size ≤ k_) ∧ some k_ ≠ (v296 : Value).ownBlock)) ?hr ?hp (fun _ hk => hk) ((show ∀ k_, w10.heap.size ≤ k_ → (fun k_ => (P1_ k_ ∨ w.heap.size ≤ k_) ∧ some k_ ≠ (v296 : Value).ownBlock) k_ from fun k_ hk => ⟨(.inr (Nat.le_trans (below_size (by repeat (first | (with_reducible first | exact HB.out | apply below_alloc | apply pw_below_drewN | apply below_drew1) | exact HB.out))) hk)), Kd.fresh' (Kd.Q_lt (by (with_reducible repeat (first | apply Kd.Q_alloc | apply Kd.Q_drewN | apply Kd.Q_drew)); exact HO297.out)) k_ hk⟩) _ (Nat.le_refl _)) (Below.refl _ _) (Nat.le_refl _) (by simp) ?_; (case hd => rfl); (case hg => rfl); (case hr => first | (go_simp; done) | (go_simp; rfl)); (case hp => exact (Reps.one (show Kd.FK (Kd.slice 36 k36) _ _ t292 [.slice Ao11 t292.length co11] from (Kd.FK_slice_mk (Kd.N_reads' (Kd.N_mono (ok' := (fun k_ => (P1_ k_ ∨ w.heap.size ≤ k_) ∧ some k_ ≠ (v296 : Value).ownBlock)) (HO295.out) (fun k_ hk => ⟨hk.1, hk.2⟩))).2.1 (Kd.N_F (Kd.N_mono (ok' := (fun k_ => (P1_ k_ ∨ w.heap.size ≤ k_) ∧ some k_ ≠ (v296 : Value).ownBlock)) (HO295.out) (fun k_ hk => ⟨hk.1, hk.2⟩))))) (Reps.one (show Kd.FK (Kd.slice 36 k36) _ _ l1 [.slice A1 l1.length c1] from (Kd.FK_slice_mk (have h_ := Kd.V_reads' (Kd.V_mono (ok' := (fun k_ => (P1_ k_ ∨ w.heap.size ≤ k_) ∧ some k_ ≠ (v296 : Value).ownBlock)) (HO1.out) (fun k_ hk => ⟨hk.1.1, hk.2⟩)); h_.2.1) (have h_ := Kd.V_F (Kd.V_mono (ok' := (fun k_ => (P1_ k_ ∨ w.heap.size ≤ k_) ∧ some k_ ≠ (v296 : Value).ownBlock)) (HO1.out) (fun k_ hk => ⟨hk.1.1, hk.2⟩)); h_))) (Reps.none _ _)))); intro v299 w12 ho13 hb hg_ hnew_; clear hg_ hnew_; (first | rw [← Ny298.out] at ho13 | (simp only [Int.reduceToNat] at ho13; rw [← Ny298.out] at ho13)); have n0_ := Aside0.mk (Kd.V_elder' (by (with_reducible repeat (first | apply Kd.V_alloc | apply Kd.V_drewN | apply Kd.V_drew)); exact HO1.out) (Kd.N_base ho13) hb); have n1_ := Aside0.mk (Kd.Q_below (by (with_reducible repeat (first | apply Kd.Q_alloc | apply Kd.Q_drewN | apply Kd.Q_drew)); exact HO297.out) hb); have n2_ := Aside0.mk (Kd.N_lower ho13 (below_size (by repeat (first | (with_reducible first | exact HB.out | apply below_alloc | apply pw_below_drewN | apply below_drew1) | exact HB.out)))); have n3_ := Aside0.mk (below_step (by repeat (first | (with_reducible first | exact HB.out | apply below_alloc | apply pw_below_drewN | apply below_drew1) | exact HB.out)) hb); clear HO1; clear HO297; clear HB; clear HO295; have HO1 := n0_; have HO297 := n1_; have HO300 := n2_; have HB := n3_; clear n0_ n1_ n2_ n3_; clear hb ho13; obtain ⟨Ao14, co14, eo14⟩ := Kd.N_slice HO300.out; subst eo14))
  go_loopg [32] k (fun kq v32 w' => ∃ (x32_1 : Int), v32 = .int .i64 x32_1 ∧ Aside0 (minecontrollaw08_DoorChecks.l0 kq a4 y298 (y298.length : Int) x32_1 = some r) ∧ Aside0 (kq ≤ k) ∧ Aside0 (Kd.N (Kd.slice 36 k36) 23 w' w.heap.size (fun k_ => (P1_ k_ ∨ w.heap.size ≤ k_)) (.slice Ao14 y298.length co14) y298) ∧ Aside0 (Below w.heap.size w w'))
  case atStart => exact ⟨(0), (by first | rfl | (simp; done) | (simp [*]; done)), H', ⟨Nat.le_refl _⟩, ⟨by (with_reducible repeat (first | apply Kd.N_alloc | apply Kd.N_drewN | apply Kd.N_drew)); exact Kd.N_mono HO300.out (fun _ hk => hk.1)⟩, ⟨by repeat (first | (with_reducible first | exact HB.out | apply below_alloc | apply pw_below_drewN | apply below_drew1) | exact HB.out)⟩⟩
  case round =>
   clear H'
   try clear c1; try clear p2; try clear c3; try clear c6; try clear c6b0; try clear c6b1; try clear c8; try clear c9
   obtain ⟨x32_1, rfl, HA, HK1, HO_30, HB⟩ := hrel
   cases gk with
   | zero => exact absurd HA.out (by simp [minecontrollaw08_DoorChecks.l0])
   | succ k1 =>
    have H := HA.out
    clear HA
    simp only [minecontrollaw08_DoorChecks.l0] at H
    by_cases c15 : x32_1 < (y298.length : Int)
    ·
     rw [if_pos c15] at H
     have c15b0 : decide (x32_1 < (y298.length : Int)) = true := decide_eq_true c15
     clear c15
     by_cases c16 : 0 ≤ x32_1
     rotate_left
     ·
      rw [if_neg c16] at H
      exact absurd H (by simp)
     rw [if_pos c16] at H
     have c16b0 : decide (0 ≤ x32_1) = true := decide_eq_true c16
     clear c16
     by_cases c17 : x32_1 < (y298.length : Int)
     rotate_left
     ·
      rw [if_neg c17] at H
      exact absurd H (by simp)
     rw [if_pos c17] at H
     have c17b0 : decide (x32_1 < (y298.length : Int)) = true := decide_eq_true c17
     clear c17
     replace H := Option.bind_eq_some_iff.mp H
     obtain ⟨t303, A180, H⟩ := H
     replace H : ((minecontrolref08_Check.f k1 (rd_L4 y298 x32_1)).bind fun t304 => (if t303 = t304 then (minecontrollaw08_DoorChecks.l1 k1 a4 (rd_L4 y298 x32_1) 0 y298 (y298.length : Int) x32_1) else (some false))) = some r := H
     have A18 := Aside0.mk A180
     clear A180
     replace H := Option.bind_eq_some_iff.mp H
     obtain ⟨t304, A190, H⟩ := H
     replace H : (if t303 = t304 then (minecontrollaw08_DoorChecks.l1 k1 a4 (rd_L4 y298 x32_1) 0 y298 (y298.length : Int) x32_1) else (some false)) = some r := H
     have A19 := Aside0.mk A190
     clear A190
     by_cases c20 : t303 = t304
     ·
      rw [if_pos c20] at H
      have c20b0 : (t303 == t304) = true := beq_iff_eq.mpr c20
      have c20b1 : (t303 != t304) = false := bne_eq_false_iff_eq.mpr c20
      clear c20
      have H' := Aside0.mk H
      clear H
      have p302 : 0 ≤ (x32_1 : Int) := of_decide_eq_true (by first | (with_reducible assumption) | assumption)
      have q302 : x32_1 < (y298.length : Int) := of_decide_eq_true (by first | (with_reducible assumption) | assumption)
      obtain ⟨ad302, A302_0, c302_0, e302, hx302_0, hl302_0, hi302_0⟩ := at_L4 (Kd.N_reads' HO_30.out).2.2 x32_1 p302 q302
      cases e302
      obtain ⟨ce302, hce302, hMe302, hcc302⟩ := Kd.N_get HO_30.out [] x32_1 p302 (by first | exact q302 | exact of_decide_eq_true (by first | (with_reducible assumption) | assumption) | (have e_ := (Kd.N_reads' HO_30.out).1; omega))
      obtain ⟨ua302_0, uc302_0, rfl, ul302_0, ge302_0⟩ := Kd.FK_slice_open hMe302
      have hv302_0 := hcc302 0 _ rfl
      rw [Nat.add_zero, show ((Kd.slice 36 k36)).sz = 1 from rfl, Nat.mul_one] at hv302_0
      replace hv302_0 := Option.some.inj (hv302_0.symm.trans hx302_0)
      injection hv302_0 with hva_ hvn_ hvc_
      rw [hva_] at ge302_0
      rw [hvc_] at ul302_0
      have HL302_0 := Aside0.mk (show Kd.V k36 36 _ w.heap.size _ _ (rd_L4 y298 x32_1) from Kd.V_mk ul302_0 ge302_0)
      clear hva_ hvn_ hvc_ ge302_0 ul302_0
      clear hcc302 hce302
      have HR302_0 := Aside0.mk hi302_0
      have HC302_0 := Aside0.mk hl302_0
      clear hi302_0 hl302_0
      replace p302 := eq_true p302
      replace q302 := eq_true q302
      go_wp2_with (first | ((with_reducible refine gate_callee (f := 10) rfl ?_); refine goesL_ (some 37) rfl rfl Try.func10 (by kernel_rfl) rfl #[.slice A302_0 (rd_L4 y298 x32_1).length c302_0] rfl (by (try simp only [List.map_toArray, List.map_cons, List.map_nil]); first | done | rfl | (simp only [List.length_drop, List.length_take]; rfl)) ?_; (with_reducible refine (door_Check.calls k1 _ _ (rd_L4 y298 x32_1) t303 _ ?side1 ?side2 A18.out).mono ?_); (case side1 => repeat (first | exact (by repeat (first | (with_reducible exact HR302_0.out) | (with_reducible refine Kd.C_alloc ?_ _) | (with_reducible refine Kd.C_drewN ?_ _) | (with_reducible refine Kd.C_drew ?_) | exact HR302_0.out)) | (with_reducible refine Kd.C_alloc ?_ _) | (with_reducible refine Kd.C_drewN ?_ _) | (with_reducible refine Kd.C_drew ?_))); (case side2 => exact HC302_0.out); rintro e w21 ⟨rfl, hb⟩; refine ⟨_, rfl, ?_⟩; have n0_ := Aside0.mk (Kd.N_below (by (with_reducible repeat (first | apply Kd.N_alloc | apply Kd.N_drewN | apply Kd.N_drew)); exact HO_30.out) hb); have n1_ := Aside0.mk (Kd.V_below (by (with_reducible repeat (first | apply Kd.V_alloc | apply Kd.V_drewN | apply Kd.V_drew)); exact HL302_0.out) hb); have n2_ := Aside0.mk (Kd.C_below (by repeat (first | (with_reducible exact HR302_0.out) | (with_reducible refine Kd.C_alloc ?_ _) | (with_reducible refine Kd.C_drewN ?_ _) | (with_reducible refine Kd.C_drew ?_) | exact HR302_0.out)) hb); have n3_ := Aside0.mk (below_step (by repeat (first | (with_reducible first | exact HB.out | apply below_alloc | apply pw_below_drewN | apply below_drew1) | exact HB.out)) hb); clear HO_30; clear HL302_0; clear HR302_0; clear HB; have HO_30 := n0_; have HL302_0 := n1_; have HR302_0 := n2_; have HB := n3_; clear n0_ n1_ n2_ n3_; (try clear hb); (try clear hb2); (try clear hge); (try clear hk); (try clear hi)) | ((with_reducible refine gate_callee (f := 11) rfl ?_); refine goesL_ (some 39) rfl rfl Try.func11 (by kernel_rfl) rfl #[.slice A302_0 (rd_L4 y298 x32_1).length c302_0] rfl (by (try simp only [List.map_toArray, List.map_cons, List.map_nil]); first | done | rfl | (simp only [List.length_drop, List.length_take]; rfl)) ?_; (with_reducible refine (minecontrolref08_Check.calls k1 _ _ (rd_L4 y298 x32_1) t304 _ ?side1 ?side2 A19.out).mono ?_); (case side1 => repeat (first | exact (by repeat (first | (with_reducible exact HR302_0.out) | (with_reducible refine Kd.C_alloc ?_ _) | (with_reducible refine Kd.C_drewN ?_ _) | (with_reducible refine Kd.C_drew ?_) | exact HR302_0.out)) | (with_reducible refine Kd.C_alloc ?_ _) | (with_reducible refine Kd.C_drewN ?_ _) | (with_reducible refine Kd.C_drew ?_))); (case side2 => exact HC302_0.out); rintro e w22 ⟨rfl, hb⟩; refine ⟨_, rfl, ?_⟩; have n0_ := Aside0.mk (Kd.N_below (by (with_reducible repeat (first | apply Kd.N_alloc | apply Kd.N_drewN | apply Kd.N_drew)); exact HO_30.out) hb); have n1_ := Aside0.mk (Kd.V_below (by (with_reducible repeat (first | apply Kd.V_alloc | apply Kd.V_drewN | apply Kd.V_drew)); exact HL302_0.out) hb); have n2_ := Aside0.mk (Kd.C_below (by repeat (first | (with_reducible exact HR302_0.out) | (with_reducible refine Kd.C_alloc ?_ _) | (with_reducible refine Kd.C_drewN ?_ _) | (with_reducible refine Kd.C_drew ?_) | exact HR302_0.out)) hb); have n3_ := Aside0.mk (below_step (by repeat (first | (with_reducible first | exact HB.out | apply below_alloc | apply pw_below_drewN | apply below_drew1) | exact HB.out)) hb); clear HO_30; clear HL302_0; clear HR302_0; clear HB; have HO_30 := n0_; have HL302_0 := n1_; have HR302_0 := n2_; have HB := n3_; clear n0_ n1_ n2_ n3_; (try clear hb); (try clear hb2); (try clear hge); (try clear hk); (try clear hi)))
      go_loopg [15] k1 (fun kq v15 w' => ∃ (x15_2 : Int), v15 = .int .i64 x15_2 ∧ Aside0 (minecontrollaw08_DoorChecks.l1 kq a4 (rd_L4 y298 x32_1) x15_2 y298 (y298.length : Int) x32_1 = some r) ∧ Aside0 (kq ≤ k1) ∧ Aside0 (Kd.N (Kd.slice 36 k36) 23 w' w.heap.size (fun k_ => (P1_ k_ ∨ w.heap.size ≤ k_)) (.slice (some ad302) y298.length co14) y298) ∧ Aside0 (Kd.C k36 w' A302_0 (rd_L4 y298 x32_1).length (rd_L4 y298 x32_1)) ∧ Aside0 (Below w.heap.size w w'))
      case atStart => exact ⟨(0), (by first | rfl | (simp; done) | (simp [*]; done)), H', ⟨Nat.le_refl _⟩, ⟨by (with_reducible repeat (first | apply Kd.N_alloc | apply Kd.N_drewN | apply Kd.N_drew)); exact HO_30.out⟩, ⟨by repeat (first | (with_reducible exact HR302_0.out) | (with_reducible refine Kd.C_alloc ?_ _) | (with_reducible refine Kd.C_drewN ?_ _) | (with_reducible refine Kd.C_drew ?_) | exact HR302_0.out)⟩, ⟨by repeat (first | (with_reducible first | exact HB.out | apply below_alloc | apply pw_below_drewN | apply below_drew1) | exact HB.out)⟩⟩
      case round =>
       clear H'
       try clear c1; try clear c2; try clear p2; try clear c3; try clear p3; try clear q3; try clear hx3; try clear c6; try clear c6b0; try clear c6b1; try clear c8; try clear c9; try clear c10; try clear c11; try clear c15; try clear c15b0; try clear c16; try clear c16b0; try clear c17; try clear c17b0; try clear c20
       try clear c20b0; try clear c20b1; try clear hx302_0; try clear p2; try clear p302; try clear q302
       obtain ⟨x15_2, rfl, HA, HK2, HO_30, HR302_0, HB⟩ := hrel
       cases gk with
       | zero => exact absurd HA.out (by simp [minecontrollaw08_DoorChecks.l1])
       | succ k2 =>
        have H := HA.out
        clear HA
        simp only [minecontrollaw08_DoorChecks.l1] at H
        by_cases c23 : x15_2 < ((rd_L4 y298 x32_1).length : Int)
        ·
         rw [if_pos c23] at H
         have c23b0 : decide (x15_2 < ((rd_L4 y298 x32_1).length : Int)) = true := decide_eq_true c23
         clear c23
         replace H := Option.bind_eq_some_iff.mp H
         obtain ⟨t305, A240, H⟩ := H
         replace H : (if 0 ≤ x15_2 then ((door_Rest.f k2 ((rd_T36 (rd_L4 y298 x32_1) x15_2).f0) ((rd_T36 (rd_L4 y298 x32_1) x15_2).f1) ((rd_T36 (rd_L4 y298 x32_1) x15_2).f2) a4).bind fun bt307 => ((minecontrolref08_Rest.f k2 ((rd_T36 (rd_L4 y298 x32_1) x15_2).f0) ((rd_T36 (rd_L4 y298 x32_1) x15_2).f1) ((rd_T36 (rd_L4 y298 x32_1) x15_2).f2) a4).bind fun bt310 => (if (!(bt307.1 == bt310.1) || (!(bt307.2 == bt310.2))) = true then (some false) else ((door_Rest.f k2 ((rd_T36 (rd_L4 y298 x32_1) x15_2).f0) ((rd_T36 (rd_L4 y298 x32_1) x15_2).f1) ((rd_T36 (rd_L4 y298 x32_1) x15_2).f2) (wrap64 (t305 - 2))).bind fun bt313 => ((minecontrolref08_Rest.f k2 ((rd_T36 (rd_L4 y298 x32_1) x15_2).f0) ((rd_T36 (rd_L4 y298 x32_1) x15_2).f1) ((rd_T36 (rd_L4 y298 x32_1) x15_2).f2) (wrap64 (t305 - 2))).bind fun bt316 => (if (!(bt313.1 == bt316.1) || (!(bt313.2 == bt316.2))) = true then (some false) else (minecontrollaw08_DoorChecks.l1 k2 a4 (rd_L4 y298 x32_1) (wrap64 (x15_2 + 1)) y298 (y298.length : Int) x32_1))))))) else (none)) = some r := H
         have A24 := Aside0.mk A240
         clear A240
         by_cases c25 : 0 ≤ x15_2
         rotate_left
         ·
          rw [if_neg c25] at H
          exact absurd H (by simp)
         rw [if_pos c25] at H
         have c25b0 : decide (0 ≤ x15_2) = true := decide_eq_true c25
         clear c25
         replace H := Option.bind_eq_some_iff.mp H
         obtain ⟨⟨t307, t308⟩, A260, H⟩ := H
         replace H : ((minecontrolref08_Rest.f k2 ((rd_T36 (rd_L4 y298 x32_1) x15_2).f0) ((rd_T36 (rd_L4 y298 x32_1) x15_2).f1) ((rd_T36 (rd_L4 y298 x32_1) x15_2).f2) a4).bind fun bt310 => (if (!(t307 == bt310.1) || (!(t308 == bt310.2))) = true then (some false) else ((door_Rest.f k2 ((rd_T36 (rd_L4 y298 x32_1) x15_2).f0) ((rd_T36 (rd_L4 y298 x32_1) x15_2).f1) ((rd_T36 (rd_L4 y298 x32_1) x15_2).f2) (wrap64 (t305 - 2))).bind fun bt313 => ((minecontrolref08_Rest.f k2 ((rd_T36 (rd_L4 y298 x32_1) x15_2).f0) ((rd_T36 (rd_L4 y298 x32_1) x15_2).f1) ((rd_T36 (rd_L4 y298 x32_1) x15_2).f2) (wrap64 (t305 - 2))).bind fun bt316 => (if (!(bt313.1 == bt316.1) || (!(bt313.2 == bt316.2))) = true then (some false) else (minecontrollaw08_DoorChecks.l1 k2 a4 (rd_L4 y298 x32_1) (wrap64 (x15_2 + 1)) y298 (y298.length : Int) x32_1)))))) = some r := H
         have A26 := Aside0.mk A260
         clear A260
         replace H := Option.bind_eq_some_iff.mp H
         obtain ⟨⟨t310, t311⟩, A270, H⟩ := H
         replace H : (if (!(t307 == t310) || (!(t308 == t311))) = true then (some false) else ((door_Rest.f k2 ((rd_T36 (rd_L4 y298 x32_1) x15_2).f0) ((rd_T36 (rd_L4 y298 x32_1) x15_2).f1) ((rd_T36 (rd_L4 y298 x32_1) x15_2).f2) (wrap64 (t305 - 2))).bind fun bt313 => ((minecontrolref08_Rest.f k2 ((rd_T36 (rd_L4 y298 x32_1) x15_2).f0) ((rd_T36 (rd_L4 y298 x32_1) x15_2).f1) ((rd_T36 (rd_L4 y298 x32_1) x15_2).f2) (wrap64 (t305 - 2))).bind fun bt316 => (if (!(bt313.1 == bt316.1) || (!(bt313.2 == bt316.2))) = true then (some false) else (minecontrollaw08_DoorChecks.l1 k2 a4 (rd_L4 y298 x32_1) (wrap64 (x15_2 + 1)) y298 (y298.length : Int) x32_1))))) = some r := H
         have A27 := Aside0.mk A270
         clear A270
         by_cases c28 : (!(t307 == t310) || (!(t308 == t311))) = true
         ·
          rw [if_pos c28] at H
          have c28b0 : (!(t307 == t310) || (!(t308 == t311))) = true := c28
          clear c28
          obtain rfl := Option.some.inj H
          exact absurd hr_.out (by decide)
         ·
          rw [if_neg c28] at H
          have c28b0 : (!(t307 == t310) || (!(t308 == t311))) = false := by simpa using c28
          clear c28
          replace H := Option.bind_eq_some_iff.mp H
          obtain ⟨⟨t313, t314⟩, A290, H⟩ := H
          replace H : ((minecontrolref08_Rest.f k2 ((rd_T36 (rd_L4 y298 x32_1) x15_2).f0) ((rd_T36 (rd_L4 y298 x32_1) x15_2).f1) ((rd_T36 (rd_L4 y298 x32_1) x15_2).f2) (wrap64 (t305 - 2))).bind fun bt316 => (if (!(t313 == bt316.1) || (!(t314 == bt316.2))) = true then (some false) else (minecontrollaw08_DoorChecks.l1 k2 a4 (rd_L4 y298 x32_1) (wrap64 (x15_2 + 1)) y298 (y298.length : Int) x32_1))) = some r := H
          have A29 := Aside0.mk A290
          clear A290
          replace H := Option.bind_eq_some_iff.mp H
          obtain ⟨⟨t316, t317⟩, A300, H⟩ := H
          replace H : (if (!(t313 == t316) || (!(t314 == t317))) = true then (some false) else (minecontrollaw08_DoorChecks.l1 k2 a4 (rd_L4 y298 x32_1) (wrap64 (x15_2 + 1)) y298 (y298.length : Int) x32_1)) = some r := H
          have A30 := Aside0.mk A300
          clear A300
          by_cases c31 : (!(t313 == t316) || (!(t314 == t317))) = true
          ·
           rw [if_pos c31] at H
           have c31b0 : (!(t313 == t316) || (!(t314 == t317))) = true := c31
           clear c31
           obtain rfl := Option.some.inj H
           exact absurd hr_.out (by decide)
          ·
           rw [if_neg c31] at H
           have c31b0 : (!(t313 == t316) || (!(t314 == t317))) = false := by simpa using c31
           clear c31
           have H' := Aside0.mk H
           clear H
           try go_wp2_with (first | ((with_reducible refine gate_callee (f := 12) rfl ?_); refine goesL_ (some 48) rfl rfl Try.func12 (by kernel_rfl) rfl #[.int .i64 a4, .int .i64 9] rfl (by (try simp only [List.map_toArray, List.map_cons, List.map_nil]); first | done | rfl | (simp only [List.length_drop, List.length_take]; rfl)) ?_; (with_reducible refine (minecontroldraw_Mod.calls a4 9 t305 _ A24.out).mono ?_); rintro e w' ⟨rfl, ⟨nd, rfl⟩⟩; refine ⟨_, rfl, ?_⟩))
           (try (rw [drewN_self wr]; generalize hq_ : World.drewN wr _ = wr; have n0_ : Aside0 (Kd.N (Kd.slice 36 k36) 23 wr w.heap.size (fun k_ => (P1_ k_ ∨ w.heap.size ≤ k_)) (.slice (some ad302) y298.length co14) y298) := ⟨by rw [← hq_]; exact (by (with_reducible repeat (first | apply Kd.N_alloc | apply Kd.N_drewN | apply Kd.N_drew)); exact HO_30.out)⟩; have n1_ : Aside0 (Below w.heap.size w wr) := ⟨by rw [← hq_]; exact (by repeat (first | (with_reducible first | exact HB.out | apply below_alloc | apply pw_below_drewN | apply below_drew1) | exact HB.out))⟩; have n2_ : Aside0 (Kd.C k36 wr A302_0 (rd_L4 y298 x32_1).length (rd_L4 y298 x32_1)) := ⟨by rw [← hq_]; exact (by repeat (first | (with_reducible exact HR302_0.out) | (with_reducible refine Kd.C_alloc ?_ _) | (with_reducible refine Kd.C_drewN ?_ _) | (with_reducible refine Kd.C_drew ?_) | exact HR302_0.out))⟩; clear HO_30 HB HR302_0 hq_; have HO_30 := n0_; have HB := n1_; have HR302_0 := n2_; clear n0_ n1_ n2_))
           have n0_ := Aside0.mk (Kd.N_drew HO_30.out)
           have n1_ := Aside0.mk (Kd.C_drew HR302_0.out)
           have n2_ := Aside0.mk (below_drew1 HB.out)
           clear HO_30
           clear HR302_0
           clear HB
           have HO_30 := n0_
           have HR302_0 := n1_
           have HB := n2_
           clear n0_ n1_ n2_
           have p306 : 0 ≤ (x15_2 : Int) := of_decide_eq_true (by first | (with_reducible assumption) | assumption)
           have q306 : x15_2 < ((rd_L4 y298 x32_1).length : Int) := of_decide_eq_true (by first | (with_reducible assumption) | assumption)
           obtain ⟨ad306, A306_2, c306_2, e306, hx306_0, hx306_1, hx306_2, hl306_2, hi306_2⟩ := at_T36 HR302_0.out x15_2 p306 q306
           have hw306_2 := hx306_2
           have hw306_1 := hx306_1
           have hw306_0 := hx306_0
           cases e306
           try replace hx306_0 := (HB.out.cell (World.block_lt_of_cell? w _ hx306_0)).trans hx306_0
           try replace hx306_1 := (HB.out.cell (World.block_lt_of_cell? w _ hx306_1)).trans hx306_1
           try replace hx306_2 := (HB.out.cell (World.block_lt_of_cell? w _ hx306_2)).trans hx306_2
           have HR306_2 := Aside0.mk hi306_2
           have HC306_2 := Aside0.mk hl306_2
           clear hi306_2 hl306_2
           replace p306 := eq_true p306
           replace q306 := eq_true q306
           have p309 : 0 ≤ (x15_2 : Int) := of_decide_eq_true (by first | (with_reducible assumption) | assumption)
           have q309 : x15_2 < ((rd_L4 y298 x32_1).length : Int) := of_decide_eq_true (by first | (with_reducible assumption) | assumption)
           obtain ⟨ad309, A309_2, c309_2, e309, hx309_0, hx309_1, hx309_2, hl309_2, hi309_2⟩ := at_T36 HR302_0.out x15_2 p309 q309
           have hw309_2 := hx309_2
           have hw309_1 := hx309_1
           have hw309_0 := hx309_0
           obtain rfl : ad306 = ad309 := (by injection e309)
           try replace hx309_0 := (HB.out.cell (World.block_lt_of_cell? w _ hx309_0)).trans hx309_0
           try replace hx309_1 := (HB.out.cell (World.block_lt_of_cell? w _ hx309_1)).trans hx309_1
           try replace hx309_2 := (HB.out.cell (World.block_lt_of_cell? w _ hx309_2)).trans hx309_2
           have HR309_2 := Aside0.mk hi309_2
           have HC309_2 := Aside0.mk hl309_2
           clear hi309_2 hl309_2
           replace p309 := eq_true p309
           replace q309 := eq_true q309
           have ea_ := Option.some.inj (hx306_2.symm.trans hx309_2)
           injection ea_ with ea_ en_ ec_
           subst ea_
           subst ec_
           clear en_
           have p312 : 0 ≤ (x15_2 : Int) := of_decide_eq_true (by first | (with_reducible assumption) | assumption)
           have q312 : x15_2 < ((rd_L4 y298 x32_1).length : Int) := of_decide_eq_true (by first | (with_reducible assumption) | assumption)
           obtain ⟨ad312, A312_2, c312_2, e312, hx312_0, hx312_1, hx312_2, hl312_2, hi312_2⟩ := at_T36 HR302_0.out x15_2 p312 q312
           have hw312_2 := hx312_2
           have hw312_1 := hx312_1
           have hw312_0 := hx312_0
           obtain rfl : ad306 = ad312 := (by injection e312)
           try replace hx312_0 := (HB.out.cell (World.block_lt_of_cell? w _ hx312_0)).trans hx312_0
           try replace hx312_1 := (HB.out.cell (World.block_lt_of_cell? w _ hx312_1)).trans hx312_1
           try replace hx312_2 := (HB.out.cell (World.block_lt_of_cell? w _ hx312_2)).trans hx312_2
           have HR312_2 := Aside0.mk hi312_2
           have HC312_2 := Aside0.mk hl312_2
           clear hi312_2 hl312_2
           replace p312 := eq_true p312
           replace q312 := eq_true q312
           have ea_ := Option.some.inj (hx306_2.symm.trans hx312_2)
           injection ea_ with ea_ en_ ec_
           subst ea_
           subst ec_
           clear en_
           have p315 : 0 ≤ (x15_2 : Int) := of_decide_eq_true (by first | (with_reducible assumption) | assumption)
           have q315 : x15_2 < ((rd_L4 y298 x32_1).length : Int) := of_decide_eq_true (by first | (with_reducible assumption) | assumption)
           obtain ⟨ad315, A315_2, c315_2, e315, hx315_0, hx315_1, hx315_2, hl315_2, hi315_2⟩ := at_T36 HR302_0.out x15_2 p315 q315
           have hw315_2 := hx315_2
           have hw315_1 := hx315_1
           have hw315_0 := hx315_0
           obtain rfl : ad306 = ad315 := (by injection e315)
           try replace hx315_0 := (HB.out.cell (World.block_lt_of_cell? w _ hx315_0)).trans hx315_0
           try replace hx315_1 := (HB.out.cell (World.block_lt_of_cell? w _ hx315_1)).trans hx315_1
           try replace hx315_2 := (HB.out.cell (World.block_lt_of_cell? w _ hx315_2)).trans hx315_2
           have HR315_2 := Aside0.mk hi315_2
           have HC315_2 := Aside0.mk hl315_2
           clear hi315_2 hl315_2
           replace p315 := eq_true p315
           replace q315 := eq_true q315
           have ea_ := Option.some.inj (hx306_2.symm.trans hx315_2)
           injection ea_ with ea_ en_ ec_
           subst ea_
           subst ec_
           clear en_
           refine start_ (n := 28) (S := fun w' => w'.cell? (ad306.add ((x15_2).toNat * 3)) = some (.int .i64 ((rd_T36 (rd_L4 y298 x32_1) x15_2).f0)) ∧ w'.cell? ⟨(ad306.add ((x15_2).toNat * 3)).block, (ad306.add ((x15_2).toNat * 3)).off + 1, none⟩ = some (.int .i64 ((rd_T36 (rd_L4 y298 x32_1) x15_2).f1)) ∧ w'.cell? ⟨(ad306.add ((x15_2).toNat * 3)).block, (ad306.add ((x15_2).toNat * 3)).off + 2, none⟩ = some (.slice A306_2 ((rd_T36 (rd_L4 y298 x32_1) x15_2).f2).length c306_2) ∧ w'.cell? (ad306.add ((x15_2).toNat * 3)) = some (.int .i64 ((rd_T36 (rd_L4 y298 x32_1) x15_2).f0)) ∧ w'.cell? ⟨(ad306.add ((x15_2).toNat * 3)).block, (ad306.add ((x15_2).toNat * 3)).off + 1, none⟩ = some (.int .i64 ((rd_T36 (rd_L4 y298 x32_1) x15_2).f1)) ∧ w'.cell? ⟨(ad306.add ((x15_2).toNat * 3)).block, (ad306.add ((x15_2).toNat * 3)).off + 2, none⟩ = some (.slice A306_2 ((rd_T36 (rd_L4 y298 x32_1) x15_2).f2).length c306_2) ∧ w'.cell? (ad306.add ((x15_2).toNat * 3)) = some (.int .i64 ((rd_T36 (rd_L4 y298 x32_1) x15_2).f0)) ∧ w'.cell? ⟨(ad306.add ((x15_2).toNat * 3)).block, (ad306.add ((x15_2).toNat * 3)).off + 1, none⟩ = some (.int .i64 ((rd_T36 (rd_L4 y298 x32_1) x15_2).f1)) ∧ w'.cell? ⟨(ad306.add ((x15_2).toNat * 3)).block, (ad306.add ((x15_2).toNat * 3)).off + 2, none⟩ = some (.slice A306_2 ((rd_T36 (rd_L4 y298 x32_1) x15_2).f2).length c306_2) ∧ w'.cell? (ad306.add ((x15_2).toNat * 3)) = some (.int .i64 ((rd_T36 (rd_L4 y298 x32_1) x15_2).f0)) ∧ w'.cell? ⟨(ad306.add ((x15_2).toNat * 3)).block, (ad306.add ((x15_2).toNat * 3)).off + 1, none⟩ = some (.int .i64 ((rd_T36 (rd_L4 y298 x32_1) x15_2).f1)) ∧ w'.cell? ⟨(ad306.add ((x15_2).toNat * 3)).block, (ad306.add ((x15_2).toNat * 3)).off + 2, none⟩ = some (.slice A306_2 ((rd_T36 (rd_L4 y298 x32_1) x15_2).f2).length c306_2)) (ds := []) #[false, false, false, false, false, false, false, false, false, false, false, false, false, false, false, false, false, false, false, false, false, false, false, false, false, false, false, false] (by kernel_rfl) rfl rfl ⟨(by first | exact ((HB.out.cell (World.block_lt_of_cell? w _ hw306_0)).trans hw306_0) | exact hw306_0 | exact hx306_0), (by first | exact ((HB.out.cell (World.block_lt_of_cell? w _ hw306_1)).trans hw306_1) | exact hw306_1 | exact hx306_1), (by first | exact ((HB.out.cell (World.block_lt_of_cell? w _ hw306_2)).trans hw306_2) | exact hw306_2 | exact hx306_2), (by first | exact ((HB.out.cell (World.block_lt_of_cell? w _ hw309_0)).trans hw309_0) | exact hw309_0 | exact hx309_0), (by first | exact ((HB.out.cell (World.block_lt_of_cell? w _ hw309_1)).trans hw309_1) | exact hw309_1 | exact hx309_1), (by first | exact ((HB.out.cell (World.block_lt_of_cell? w _ hw309_2)).trans hw309_2) | exact hw309_2 | exact hx309_2), (by first | exact ((HB.out.cell (World.block_lt_of_cell? w _ hw312_0)).trans hw312_0) | exact hw312_0 | exact hx312_0), (by first | exact ((HB.out.cell (World.block_lt_of_cell? w _ hw312_1)).trans hw312_1) | exact hw312_1 | exact hx312_1), (by first | exact ((HB.out.cell (World.block_lt_of_cell? w _ hw312_2)).trans hw312_2) | exact hw312_2 | exact hx312_2), (by first | exact ((HB.out.cell (World.block_lt_of_cell? w _ hw315_0)).trans hw315_0) | exact hw315_0 | exact hx315_0), (by first | exact ((HB.out.cell (World.block_lt_of_cell? w _ hw315_1)).trans hw315_1) | exact hw315_1 | exact hx315_1), (by first | exact ((HB.out.cell (World.block_lt_of_cell? w _ hw315_2)).trans hw315_2) | exact hw315_2 | exact hx315_2)⟩ (fun hHeld => ?_); refine with_tabW minecontrollaw08_DoorChecks.tab13 minecontrollaw08_DoorChecks.bits13 (fun HT_ HW_ => ?_)
           generalize wr.drew = w32 at HO_30 HR302_0 HB HR306_2 HR309_2 HR312_2 HR315_2 hx306_0 hx306_1 hx306_2 hx309_0 hx309_1 hx309_2 hx312_0 hx312_1 hx312_2 hx315_0 hx315_1 hx315_2 hHeld ⊢
           refine pure_ (i := 0) (N := some 50) (v := ?_) (a' := ?_) #[true, false, false, false, false, false, false, false, false, false, false, false, false, false, false, false, false, false, false, false, false, false, false, false, false, false, false, false] rfl rfl (any_of HT_.out (by kernel_rfl)) (fun _ _ _ h => h) (Or.inl ⟨by rfl, ?_⟩) ?_ ?_
           rotate_left
           ·
            intro w'
            go_simp
            with_reducible rfl
           rotate_left
           ·
            simp only [Act.put, List.setIfInBounds_toArray, List.set_cons_zero, List.set_cons_succ, i64_w, i32_w]
            rfl
           refine pure_ (i := 1) (N := some 51) (v := ?_) (a' := ?_) #[true, true, false, false, false, false, false, false, false, false, false, false, false, false, false, false, false, false, false, false, false, false, false, false, false, false, false, false] rfl rfl (any_of HT_.out (by kernel_rfl)) (fun _ _ _ h => h) (Or.inl ⟨by rfl, ?_⟩) ?_ ?_
           rotate_left
           ·
            intro w'
            go_simp
            with_reducible rfl
           rotate_left
           ·
            simp only [Act.put, List.setIfInBounds_toArray, List.set_cons_zero, List.set_cons_succ, i64_w, i32_w]
            rfl
           refine pure_ (i := 2) (N := some 52) (v := ?_) (a' := ?_) #[true, true, true, false, false, false, false, false, false, false, false, false, false, false, false, false, false, false, false, false, false, false, false, false, false, false, false, false] rfl rfl (any_of HT_.out (by kernel_rfl)) (fun _ _ _ h => h) (Or.inl ⟨by rfl, ?_⟩) ?_ ?_
           rotate_left
           ·
            intro w'
            go_simp
            with_reducible rfl
           rotate_left
           ·
            simp only [Act.put, List.setIfInBounds_toArray, List.set_cons_zero, List.set_cons_succ, i64_w, i32_w]
            rfl
           refine pure_ (i := 4) (N := some 54) (v := ?_) (a' := ?_) #[true, true, true, false, true, false, false, false, false, false, false, false, false, false, false, false, false, false, false, false, false, false, false, false, false, false, false, false] rfl rfl (any_of HT_.out (by kernel_rfl)) (fun _ _ _ h => h) (Or.inl ⟨by rfl, ?_⟩) ?_ ?_
           rotate_left
           ·
            intro w'
            go_simp
            with_reducible rfl
           rotate_left
           ·
            simp only [Act.put, List.setIfInBounds_toArray, List.set_cons_zero, List.set_cons_succ, i64_w, i32_w]
            rfl
           refine pure_ (i := 6) (N := some 56) (v := ?_) (a' := ?_) #[true, true, true, false, true, false, true, false, false, false, false, false, false, false, false, false, false, false, false, false, false, false, false, false, false, false, false, false] rfl rfl (any_of HT_.out (by kernel_rfl)) (fun _ _ _ h => h) (Or.inl ⟨by rfl, ?_⟩) ?_ ?_
           rotate_left
           ·
            intro w'
            go_simp
            with_reducible rfl
           rotate_left
           ·
            simp only [Act.put, List.setIfInBounds_toArray, List.set_cons_zero, List.set_cons_succ, i64_w, i32_w]
            rfl
           refine pure_ (i := 7) (N := some 57) (v := ?_) (a' := ?_) #[true, true, true, false, true, false, true, true, false, false, false, false, false, false, false, false, false, false, false, false, false, false, false, false, false, false, false, false] rfl rfl (any_of HT_.out (by kernel_rfl)) (fun _ _ _ h => h) (Or.inl ⟨by rfl, ?_⟩) ?_ ?_
           rotate_left
           ·
            intro w'
            go_simp
            with_reducible rfl
           rotate_left
           ·
            simp only [Act.put, List.setIfInBounds_toArray, List.set_cons_zero, List.set_cons_succ, i64_w, i32_w]
            rfl
           refine pure_ (i := 8) (N := some 58) (v := ?_) (a' := ?_) #[true, true, true, false, true, false, true, true, true, false, false, false, false, false, false, false, false, false, false, false, false, false, false, false, false, false, false, false] rfl rfl (any_of HT_.out (by kernel_rfl)) (fun _ _ _ h => h) (Or.inl ⟨by rfl, ?_⟩) ?_ ?_
           rotate_left
           ·
            intro w'
            go_simp
            with_reducible rfl
           rotate_left
           ·
            simp only [Act.put, List.setIfInBounds_toArray, List.set_cons_zero, List.set_cons_succ, i64_w, i32_w]
            rfl
           refine pure_ (i := 10) (N := some 60) (v := ?_) (a' := ?_) #[true, true, true, false, true, false, true, true, true, false, true, false, false, false, false, false, false, false, false, false, false, false, false, false, false, false, false, false] rfl rfl (any_of HT_.out (by kernel_rfl)) (fun _ _ _ h => h) (Or.inl ⟨by rfl, ?_⟩) ?_ ?_
           rotate_left
           ·
            intro w'
            go_simp
            with_reducible rfl
           rotate_left
           ·
            simp only [Act.put, List.setIfInBounds_toArray, List.set_cons_zero, List.set_cons_succ, i64_w, i32_w]
            rfl
           refine take_ (i := 3) (N := some 53) (v := ?_) (a' := ?_) #[true, true, true, true, true, false, true, true, true, false, true, false, false, false, false, false, false, false, false, false, false, false, false, false, false, false, false, false] rfl rfl (take_ofW HT_.out HW_.out (by kernel_rfl)) (fun _ _ _ h => h) (Or.inl ⟨by rfl, ?_⟩) hHeld ?_ ?_
           rotate_left
           ·
            rintro w' ⟨s0, s1, s2, s3, s4, s5, s6, s7, s8, s9, s10, s11⟩
            go_simp
            with_reducible rfl
           rotate_left
           ·
            simp only [Act.put, List.setIfInBounds_toArray, List.set_cons_zero, List.set_cons_succ, i64_w, i32_w]
            rfl
           refine take_ (i := 9) (N := some 59) (v := ?_) (a' := ?_) #[true, true, true, true, true, false, true, true, true, true, true, false, false, false, false, false, false, false, false, false, false, false, false, false, false, false, false, false] rfl rfl (take_ofW HT_.out HW_.out (by kernel_rfl)) (fun _ _ _ h => h) (Or.inl ⟨by rfl, ?_⟩) hHeld ?_ ?_
           rotate_left
           ·
            rintro w' ⟨s0, s1, s2, s3, s4, s5, s6, s7, s8, s9, s10, s11⟩
            go_simp
            with_reducible rfl
           rotate_left
           ·
            simp only [Act.put, List.setIfInBounds_toArray, List.set_cons_zero, List.set_cons_succ, i64_w, i32_w]
            rfl
           refine one_ (i := 5) (N := some 55) #[true, true, true, true, true, true, true, true, true, true, true, false, false, false, false, false, false, false, false, false, false, false, false, false, false, false, false, false] rfl rfl (one_of HT_.out (by kernel_rfl)) (by decide) (fun K hK => ?_)
           refine goes_ Try.func13 (by kernel_rfl) rfl #[.agg #[.int .i64 ((rd_T36 (rd_L4 y298 x32_1) x15_2).f0), .int .i64 ((rd_T36 (rd_L4 y298 x32_1) x15_2).f1), .slice A306_2 ((rd_T36 (rd_L4 y298 x32_1) x15_2).f2).length c306_2], .int .i64 a4] (by rfl) rfl rfl (by (try simp only [List.map_toArray, List.map_cons, List.map_nil]); first | done | rfl | (simp only [List.length_drop, List.length_take]; rfl)) ?_
           with_reducible refine (door_Rest.calls k2 ((rd_T36 (rd_L4 y298 x32_1) x15_2).f0) ((rd_T36 (rd_L4 y298 x32_1) x15_2).f1) _ _ ((rd_T36 (rd_L4 y298 x32_1) x15_2).f2) a4 t307 t308 _ ?side1 ?side2 A26.out).mono ?_
           (case side1 => repeat (first | exact (by first | exact (Kd.C_below HR306_2.out HB.out) | exact HR306_2.out) | (with_reducible refine Kd.C_alloc ?_ _) | (with_reducible refine Kd.C_drewN ?_ _) | (with_reducible refine Kd.C_drew ?_)))
           (case side2 => exact HC306_2.out)
           rintro e w33 ⟨rfl, hb⟩
           refine ⟨_, rfl, ?_⟩
           have n0_ := Aside0.mk (Kd.N_below (by (with_reducible repeat (first | apply Kd.N_alloc | apply Kd.N_drewN | apply Kd.N_drew)); exact HO_30.out) hb)
           have n1_ := Aside0.mk (Kd.C_below (by repeat (first | (with_reducible exact HR302_0.out) | (with_reducible refine Kd.C_alloc ?_ _) | (with_reducible refine Kd.C_drewN ?_ _) | (with_reducible refine Kd.C_drew ?_) | exact HR302_0.out)) hb)
           have n2_ := Aside0.mk (below_step (by repeat (first | (with_reducible first | exact HB.out | apply below_alloc | apply pw_below_drewN | apply below_drew1) | exact HB.out)) hb)
           clear HO_30
           clear HR302_0
           clear HB
           have HO_30 := n0_
           have HR302_0 := n1_
           have HB := n2_
           clear n0_ n1_ n2_
           (try replace hw306_0 := (hb.cell (World.block_lt_of_cell? _ _ hw306_0)).trans hw306_0)
           (try replace hx306_0 := (hb.cell (World.block_lt_of_cell? _ _ hx306_0)).trans hx306_0)
           (try replace hw306_1 := (hb.cell (World.block_lt_of_cell? _ _ hw306_1)).trans hw306_1)
           (try replace hx306_1 := (hb.cell (World.block_lt_of_cell? _ _ hx306_1)).trans hx306_1)
           (try replace hw306_2 := (hb.cell (World.block_lt_of_cell? _ _ hw306_2)).trans hw306_2)
           (try replace hx306_2 := (hb.cell (World.block_lt_of_cell? _ _ hx306_2)).trans hx306_2)
           (try replace hw309_0 := (hb.cell (World.block_lt_of_cell? _ _ hw309_0)).trans hw309_0)
           (try replace hx309_0 := (hb.cell (World.block_lt_of_cell? _ _ hx309_0)).trans hx309_0)
           (try replace hw309_1 := (hb.cell (World.block_lt_of_cell? _ _ hw309_1)).trans hw309_1)
           (try replace hx309_1 := (hb.cell (World.block_lt_of_cell? _ _ hx309_1)).trans hx309_1)
           (try replace hw309_2 := (hb.cell (World.block_lt_of_cell? _ _ hw309_2)).trans hw309_2)
           (try replace hx309_2 := (hb.cell (World.block_lt_of_cell? _ _ hx309_2)).trans hx309_2)
           (try replace hw312_0 := (hb.cell (World.block_lt_of_cell? _ _ hw312_0)).trans hw312_0)
           (try replace hx312_0 := (hb.cell (World.block_lt_of_cell? _ _ hx312_0)).trans hx312_0)
           (try replace hw312_1 := (hb.cell (World.block_lt_of_cell? _ _ hw312_1)).trans hw312_1)
           (try replace hx312_1 := (hb.cell (World.block_lt_of_cell? _ _ hx312_1)).trans hx312_1)
           (try replace hw312_2 := (hb.cell (World.block_lt_of_cell? _ _ hw312_2)).trans hw312_2)
           (try replace hx312_2 := (hb.cell (World.block_lt_of_cell? _ _ hx312_2)).trans hx312_2)
           (try replace hw315_0 := (hb.cell (World.block_lt_of_cell? _ _ hw315_0)).trans hw315_0)
           (try replace hx315_0 := (hb.cell (World.block_lt_of_cell? _ _ hx315_0)).trans hx315_0)
           (try replace hw315_1 := (hb.cell (World.block_lt_of_cell? _ _ hw315_1)).trans hw315_1)
           (try replace hx315_1 := (hb.cell (World.block_lt_of_cell? _ _ hx315_1)).trans hx315_1)
           (try replace hw315_2 := (hb.cell (World.block_lt_of_cell? _ _ hw315_2)).trans hw315_2)
           (try replace hx315_2 := (hb.cell (World.block_lt_of_cell? _ _ hx315_2)).trans hx315_2)
           (try replace HR306_2 := Aside0.mk (Kd.C_below HR306_2.out hb))
           (try replace HR309_2 := Aside0.mk (Kd.C_below HR309_2.out hb))
           (try replace HR312_2 := Aside0.mk (Kd.C_below HR312_2.out hb))
           (try replace HR315_2 := Aside0.mk (Kd.C_below HR315_2.out hb))
           (try clear hb)
           (try clear hb2)
           (try clear hge)
           (try clear hk)
           (try clear hi)
           refine hK.out _ _ ⟨(by first | exact ((HB.out.cell (World.block_lt_of_cell? w _ hw306_0)).trans hw306_0) | exact hw306_0 | exact hx306_0), (by first | exact ((HB.out.cell (World.block_lt_of_cell? w _ hw306_1)).trans hw306_1) | exact hw306_1 | exact hx306_1), (by first | exact ((HB.out.cell (World.block_lt_of_cell? w _ hw306_2)).trans hw306_2) | exact hw306_2 | exact hx306_2), (by first | exact ((HB.out.cell (World.block_lt_of_cell? w _ hw309_0)).trans hw309_0) | exact hw309_0 | exact hx309_0), (by first | exact ((HB.out.cell (World.block_lt_of_cell? w _ hw309_1)).trans hw309_1) | exact hw309_1 | exact hx309_1), (by first | exact ((HB.out.cell (World.block_lt_of_cell? w _ hw309_2)).trans hw309_2) | exact hw309_2 | exact hx309_2), (by first | exact ((HB.out.cell (World.block_lt_of_cell? w _ hw312_0)).trans hw312_0) | exact hw312_0 | exact hx312_0), (by first | exact ((HB.out.cell (World.block_lt_of_cell? w _ hw312_1)).trans hw312_1) | exact hw312_1 | exact hx312_1), (by first | exact ((HB.out.cell (World.block_lt_of_cell? w _ hw312_2)).trans hw312_2) | exact hw312_2 | exact hx312_2), (by first | exact ((HB.out.cell (World.block_lt_of_cell? w _ hw315_0)).trans hw315_0) | exact hw315_0 | exact hx315_0), (by first | exact ((HB.out.cell (World.block_lt_of_cell? w _ hw315_1)).trans hw315_1) | exact hw315_1 | exact hx315_1), (by first | exact ((HB.out.cell (World.block_lt_of_cell? w _ hw315_2)).trans hw315_2) | exact hw315_2 | exact hx315_2)⟩ (fun hHeld => ?_)
           clear hK K
           refine norm_ (a' := ?_) ?_ ?_
           rotate_left
           ·
            show Act.put _ (some 55) _ = _
            simp only [Act.put, List.setIfInBounds_toArray, List.set_cons_zero, List.set_cons_succ, i64_w, i32_w]
            rfl
           refine one_ (i := 11) (N := some 61) #[true, true, true, true, true, true, true, true, true, true, true, true, false, false, false, false, false, false, false, false, false, false, false, false, false, false, false, false] rfl rfl (one_of HT_.out (by kernel_rfl)) (by decide) (fun K hK => ?_)
           refine goes_ Try.func14 (by kernel_rfl) rfl #[.agg #[.int .i64 ((rd_T36 (rd_L4 y298 x32_1) x15_2).f0), .int .i64 ((rd_T36 (rd_L4 y298 x32_1) x15_2).f1), .slice A306_2 ((rd_T36 (rd_L4 y298 x32_1) x15_2).f2).length c306_2], .int .i64 a4] (by rfl) rfl rfl (by (try simp only [List.map_toArray, List.map_cons, List.map_nil]); first | done | rfl | (simp only [List.length_drop, List.length_take]; rfl)) ?_
           with_reducible refine (minecontrolref08_Rest.calls k2 ((rd_T36 (rd_L4 y298 x32_1) x15_2).f0) ((rd_T36 (rd_L4 y298 x32_1) x15_2).f1) _ _ ((rd_T36 (rd_L4 y298 x32_1) x15_2).f2) a4 t310 t311 _ ?side1 ?side2 A27.out).mono ?_
           (case side1 => repeat (first | exact (by first | exact (Kd.C_below HR309_2.out HB.out) | exact HR309_2.out) | (with_reducible refine Kd.C_alloc ?_ _) | (with_reducible refine Kd.C_drewN ?_ _) | (with_reducible refine Kd.C_drew ?_)))
           (case side2 => exact HC309_2.out)
           rintro e w34 ⟨rfl, hb⟩
           refine ⟨_, rfl, ?_⟩
           have n0_ := Aside0.mk (Kd.N_below (by (with_reducible repeat (first | apply Kd.N_alloc | apply Kd.N_drewN | apply Kd.N_drew)); exact HO_30.out) hb)
           have n1_ := Aside0.mk (Kd.C_below (by repeat (first | (with_reducible exact HR302_0.out) | (with_reducible refine Kd.C_alloc ?_ _) | (with_reducible refine Kd.C_drewN ?_ _) | (with_reducible refine Kd.C_drew ?_) | exact HR302_0.out)) hb)
           have n2_ := Aside0.mk (below_step (by repeat (first | (with_reducible first | exact HB.out | apply below_alloc | apply pw_below_drewN | apply below_drew1) | exact HB.out)) hb)
           clear HO_30
           clear HR302_0
           clear HB
           have HO_30 := n0_
           have HR302_0 := n1_
           have HB := n2_
           clear n0_ n1_ n2_
           (try replace hw306_0 := (hb.cell (World.block_lt_of_cell? _ _ hw306_0)).trans hw306_0)
           (try replace hx306_0 := (hb.cell (World.block_lt_of_cell? _ _ hx306_0)).trans hx306_0)
           (try replace hw306_1 := (hb.cell (World.block_lt_of_cell? _ _ hw306_1)).trans hw306_1)
           (try replace hx306_1 := (hb.cell (World.block_lt_of_cell? _ _ hx306_1)).trans hx306_1)
           (try replace hw306_2 := (hb.cell (World.block_lt_of_cell? _ _ hw306_2)).trans hw306_2)
           (try replace hx306_2 := (hb.cell (World.block_lt_of_cell? _ _ hx306_2)).trans hx306_2)
           (try replace hw309_0 := (hb.cell (World.block_lt_of_cell? _ _ hw309_0)).trans hw309_0)
           (try replace hx309_0 := (hb.cell (World.block_lt_of_cell? _ _ hx309_0)).trans hx309_0)
           (try replace hw309_1 := (hb.cell (World.block_lt_of_cell? _ _ hw309_1)).trans hw309_1)
           (try replace hx309_1 := (hb.cell (World.block_lt_of_cell? _ _ hx309_1)).trans hx309_1)
           (try replace hw309_2 := (hb.cell (World.block_lt_of_cell? _ _ hw309_2)).trans hw309_2)
           (try replace hx309_2 := (hb.cell (World.block_lt_of_cell? _ _ hx309_2)).trans hx309_2)
           (try replace hw312_0 := (hb.cell (World.block_lt_of_cell? _ _ hw312_0)).trans hw312_0)
           (try replace hx312_0 := (hb.cell (World.block_lt_of_cell? _ _ hx312_0)).trans hx312_0)
           (try replace hw312_1 := (hb.cell (World.block_lt_of_cell? _ _ hw312_1)).trans hw312_1)
           (try replace hx312_1 := (hb.cell (World.block_lt_of_cell? _ _ hx312_1)).trans hx312_1)
           (try replace hw312_2 := (hb.cell (World.block_lt_of_cell? _ _ hw312_2)).trans hw312_2)
           (try replace hx312_2 := (hb.cell (World.block_lt_of_cell? _ _ hx312_2)).trans hx312_2)
           (try replace hw315_0 := (hb.cell (World.block_lt_of_cell? _ _ hw315_0)).trans hw315_0)
           (try replace hx315_0 := (hb.cell (World.block_lt_of_cell? _ _ hx315_0)).trans hx315_0)
           (try replace hw315_1 := (hb.cell (World.block_lt_of_cell? _ _ hw315_1)).trans hw315_1)
           (try replace hx315_1 := (hb.cell (World.block_lt_of_cell? _ _ hx315_1)).trans hx315_1)
           (try replace hw315_2 := (hb.cell (World.block_lt_of_cell? _ _ hw315_2)).trans hw315_2)
           (try replace hx315_2 := (hb.cell (World.block_lt_of_cell? _ _ hx315_2)).trans hx315_2)
           (try replace HR306_2 := Aside0.mk (Kd.C_below HR306_2.out hb))
           (try replace HR309_2 := Aside0.mk (Kd.C_below HR309_2.out hb))
           (try replace HR312_2 := Aside0.mk (Kd.C_below HR312_2.out hb))
           (try replace HR315_2 := Aside0.mk (Kd.C_below HR315_2.out hb))
           (try clear hb)
           (try clear hb2)
           (try clear hge)
           (try clear hk)
           (try clear hi)
           refine hK.out _ _ ⟨(by first | exact ((HB.out.cell (World.block_lt_of_cell? w _ hw306_0)).trans hw306_0) | exact hw306_0 | exact hx306_0), (by first | exact ((HB.out.cell (World.block_lt_of_cell? w _ hw306_1)).trans hw306_1) | exact hw306_1 | exact hx306_1), (by first | exact ((HB.out.cell (World.block_lt_of_cell? w _ hw306_2)).trans hw306_2) | exact hw306_2 | exact hx306_2), (by first | exact ((HB.out.cell (World.block_lt_of_cell? w _ hw309_0)).trans hw309_0) | exact hw309_0 | exact hx309_0), (by first | exact ((HB.out.cell (World.block_lt_of_cell? w _ hw309_1)).trans hw309_1) | exact hw309_1 | exact hx309_1), (by first | exact ((HB.out.cell (World.block_lt_of_cell? w _ hw309_2)).trans hw309_2) | exact hw309_2 | exact hx309_2), (by first | exact ((HB.out.cell (World.block_lt_of_cell? w _ hw312_0)).trans hw312_0) | exact hw312_0 | exact hx312_0), (by first | exact ((HB.out.cell (World.block_lt_of_cell? w _ hw312_1)).trans hw312_1) | exact hw312_1 | exact hx312_1), (by first | exact ((HB.out.cell (World.block_lt_of_cell? w _ hw312_2)).trans hw312_2) | exact hw312_2 | exact hx312_2), (by first | exact ((HB.out.cell (World.block_lt_of_cell? w _ hw315_0)).trans hw315_0) | exact hw315_0 | exact hx315_0), (by first | exact ((HB.out.cell (World.block_lt_of_cell? w _ hw315_1)).trans hw315_1) | exact hw315_1 | exact hx315_1), (by first | exact ((HB.out.cell (World.block_lt_of_cell? w _ hw315_2)).trans hw315_2) | exact hw315_2 | exact hx315_2)⟩ (fun hHeld => ?_)
           clear hK K
           refine norm_ (a' := ?_) ?_ ?_
           rotate_left
           ·
            show Act.put _ (some 61) _ = _
            simp only [Act.put, List.setIfInBounds_toArray, List.set_cons_zero, List.set_cons_succ, i64_w, i32_w]
            rfl
           refine pure_ (i := 12) (N := some 62) (v := ?_) (a' := ?_) #[true, true, true, true, true, true, true, true, true, true, true, true, true, false, false, false, false, false, false, false, false, false, false, false, false, false, false, false] rfl rfl (any_of HT_.out (by kernel_rfl)) (fun _ _ _ h => h) (Or.inl ⟨by rfl, ?_⟩) ?_ ?_
           rotate_left
           ·
            intro w'
            go_simp
            with_reducible rfl
           rotate_left
           ·
            simp only [Act.put, List.setIfInBounds_toArray, List.set_cons_zero, List.set_cons_succ, i64_w, i32_w]
            rfl
           refine pure_ (i := 13) (N := some 63) (v := ?_) (a' := ?_) #[true, true, true, true, true, true, true, true, true, true, true, true, true, true, false, false, false, false, false, false, false, false, false, false, false, false, false, false] rfl rfl (any_of HT_.out (by kernel_rfl)) (fun _ _ _ h => h) (Or.inl ⟨by rfl, ?_⟩) ?_ ?_
           rotate_left
           ·
            intro w'
            go_simp
            with_reducible rfl
           rotate_left
           ·
            simp only [Act.put, List.setIfInBounds_toArray, List.set_cons_zero, List.set_cons_succ, i64_w, i32_w]
            rfl
           refine pure_ (i := 14) (N := some 64) (v := ?_) (a' := ?_) #[true, true, true, true, true, true, true, true, true, true, true, true, true, true, true, false, false, false, false, false, false, false, false, false, false, false, false, false] rfl rfl (any_of HT_.out (by kernel_rfl)) (fun _ _ _ h => h) (Or.inl ⟨by rfl, ?_⟩) ?_ ?_
           rotate_left
           ·
            intro w'
            go_simp
            with_reducible rfl
           rotate_left
           ·
            simp only [Act.put, List.setIfInBounds_toArray, List.set_cons_zero, List.set_cons_succ, i64_w, i32_w]
            rfl
           refine pure_ (i := 15) (N := some 65) (v := ?_) (a' := ?_) #[true, true, true, true, true, true, true, true, true, true, true, true, true, true, true, true, false, false, false, false, false, false, false, false, false, false, false, false] rfl rfl (any_of HT_.out (by kernel_rfl)) (fun _ _ _ h => h) (Or.inl ⟨by rfl, ?_⟩) ?_ ?_
           rotate_left
           ·
            intro w'
            go_simp
            with_reducible rfl
           rotate_left
           ·
            simp only [Act.put, List.setIfInBounds_toArray, List.set_cons_zero, List.set_cons_succ, i64_w, i32_w]
            rfl
           refine pure_ (i := 16) (N := some 66) (v := ?_) (a' := ?_) #[true, true, true, true, true, true, true, true, true, true, true, true, true, true, true, true, true, false, false, false, false, false, false, false, false, false, false, false] rfl rfl (any_of HT_.out (by kernel_rfl)) (fun _ _ _ h => h) (Or.inl ⟨by rfl, ?_⟩) ?_ ?_
           rotate_left
           ·
            intro w'
            go_simp
            with_reducible rfl
           rotate_left
           ·
            simp only [Act.put, List.setIfInBounds_toArray, List.set_cons_zero, List.set_cons_succ, i64_w, i32_w]
            rfl
           refine pure_ (i := 18) (N := some 68) (v := ?_) (a' := ?_) #[true, true, true, true, true, true, true, true, true, true, true, true, true, true, true, true, true, false, true, false, false, false, false, false, false, false, false, false] rfl rfl (any_of HT_.out (by kernel_rfl)) (fun _ _ _ h => h) (Or.inl ⟨by rfl, ?_⟩) ?_ ?_
           rotate_left
           ·
            intro w'
            go_simp
            with_reducible rfl
           rotate_left
           ·
            simp only [Act.put, List.setIfInBounds_toArray, List.set_cons_zero, List.set_cons_succ, i64_w, i32_w]
            rfl
           refine pure_ (i := 20) (N := some 70) (v := ?_) (a' := ?_) #[true, true, true, true, true, true, true, true, true, true, true, true, true, true, true, true, true, false, true, false, true, false, false, false, false, false, false, false] rfl rfl (any_of HT_.out (by kernel_rfl)) (fun _ _ _ h => h) (Or.inl ⟨by rfl, ?_⟩) ?_ ?_
           rotate_left
           ·
            intro w'
            go_simp
            with_reducible rfl
           rotate_left
           ·
            simp only [Act.put, List.setIfInBounds_toArray, List.set_cons_zero, List.set_cons_succ, i64_w, i32_w]
            rfl
           refine pure_ (i := 21) (N := some 71) (v := ?_) (a' := ?_) #[true, true, true, true, true, true, true, true, true, true, true, true, true, true, true, true, true, false, true, false, true, true, false, false, false, false, false, false] rfl rfl (any_of HT_.out (by kernel_rfl)) (fun _ _ _ h => h) (Or.inl ⟨by rfl, ?_⟩) ?_ ?_
           rotate_left
           ·
            intro w'
            go_simp
            with_reducible rfl
           rotate_left
           ·
            simp only [Act.put, List.setIfInBounds_toArray, List.set_cons_zero, List.set_cons_succ, i64_w, i32_w]
            rfl
           refine pure_ (i := 22) (N := some 72) (v := ?_) (a' := ?_) #[true, true, true, true, true, true, true, true, true, true, true, true, true, true, true, true, true, false, true, false, true, true, true, false, false, false, false, false] rfl rfl (any_of HT_.out (by kernel_rfl)) (fun _ _ _ h => h) (Or.inl ⟨by rfl, ?_⟩) ?_ ?_
           rotate_left
           ·
            intro w'
            go_simp
            with_reducible rfl
           rotate_left
           ·
            simp only [Act.put, List.setIfInBounds_toArray, List.set_cons_zero, List.set_cons_succ, i64_w, i32_w]
            rfl
           refine pure_ (i := 24) (N := some 74) (v := ?_) (a' := ?_) #[true, true, true, true, true, true, true, true, true, true, true, true, true, true, true, true, true, false, true, false, true, true, true, false, true, false, false, false] rfl rfl (any_of HT_.out (by kernel_rfl)) (fun _ _ _ h => h) (Or.inl ⟨by rfl, ?_⟩) ?_ ?_
           rotate_left
           ·
            intro w'
            go_simp
            with_reducible rfl
           rotate_left
           ·
            simp only [Act.put, List.setIfInBounds_toArray, List.set_cons_zero, List.set_cons_succ, i64_w, i32_w]
            rfl
           refine take_ (i := 17) (N := some 67) (v := ?_) (a' := ?_) #[true, true, true, true, true, true, true, true, true, true, true, true, true, true, true, true, true, true, true, false, true, true, true, false, true, false, false, false] rfl rfl (take_ofW HT_.out HW_.out (by kernel_rfl)) (fun _ _ _ h => h) (Or.inl ⟨by rfl, ?_⟩) hHeld ?_ ?_
           rotate_left
           ·
            rintro w' ⟨s0, s1, s2, s3, s4, s5, s6, s7, s8, s9, s10, s11⟩
            go_simp
            with_reducible rfl
           rotate_left
           ·
            simp only [Act.put, List.setIfInBounds_toArray, List.set_cons_zero, List.set_cons_succ, i64_w, i32_w]
            rfl
           refine take_ (i := 23) (N := some 73) (v := ?_) (a' := ?_) #[true, true, true, true, true, true, true, true, true, true, true, true, true, true, true, true, true, true, true, false, true, true, true, true, true, false, false, false] rfl rfl (take_ofW HT_.out HW_.out (by kernel_rfl)) (fun _ _ _ h => h) (Or.inl ⟨by rfl, ?_⟩) hHeld ?_ ?_
           rotate_left
           ·
            rintro w' ⟨s0, s1, s2, s3, s4, s5, s6, s7, s8, s9, s10, s11⟩
            go_simp
            with_reducible rfl
           rotate_left
           ·
            simp only [Act.put, List.setIfInBounds_toArray, List.set_cons_zero, List.set_cons_succ, i64_w, i32_w]
            rfl
           refine one_ (i := 19) (N := some 69) #[true, true, true, true, true, true, true, true, true, true, true, true, true, true, true, true, true, true, true, true, true, true, true, true, true, false, false, false] rfl rfl (one_of HT_.out (by kernel_rfl)) (by decide) (fun K hK => ?_)
           refine goes_ Try.func13 (by kernel_rfl) rfl #[.agg #[.int .i64 ((rd_T36 (rd_L4 y298 x32_1) x15_2).f0), .int .i64 ((rd_T36 (rd_L4 y298 x32_1) x15_2).f1), .slice A306_2 ((rd_T36 (rd_L4 y298 x32_1) x15_2).f2).length c306_2], .int .i64 (wrap64 (t305 - 2))] (by rfl) rfl rfl (by (try simp only [List.map_toArray, List.map_cons, List.map_nil]); first | done | rfl | (simp only [List.length_drop, List.length_take]; rfl)) ?_
           with_reducible refine (door_Rest.calls k2 ((rd_T36 (rd_L4 y298 x32_1) x15_2).f0) ((rd_T36 (rd_L4 y298 x32_1) x15_2).f1) _ _ ((rd_T36 (rd_L4 y298 x32_1) x15_2).f2) (wrap64 (t305 - 2)) t313 t314 _ ?side1 ?side2 A29.out).mono ?_
           (case side1 => repeat (first | exact (by first | exact (Kd.C_below HR312_2.out HB.out) | exact HR312_2.out) | (with_reducible refine Kd.C_alloc ?_ _) | (with_reducible refine Kd.C_drewN ?_ _) | (with_reducible refine Kd.C_drew ?_)))
           (case side2 => exact HC312_2.out)
           rintro e w35 ⟨rfl, hb⟩
           refine ⟨_, rfl, ?_⟩
           have n0_ := Aside0.mk (Kd.N_below (by (with_reducible repeat (first | apply Kd.N_alloc | apply Kd.N_drewN | apply Kd.N_drew)); exact HO_30.out) hb)
           have n1_ := Aside0.mk (Kd.C_below (by repeat (first | (with_reducible exact HR302_0.out) | (with_reducible refine Kd.C_alloc ?_ _) | (with_reducible refine Kd.C_drewN ?_ _) | (with_reducible refine Kd.C_drew ?_) | exact HR302_0.out)) hb)
           have n2_ := Aside0.mk (below_step (by repeat (first | (with_reducible first | exact HB.out | apply below_alloc | apply pw_below_drewN | apply below_drew1) | exact HB.out)) hb)
           clear HO_30
           clear HR302_0
           clear HB
           have HO_30 := n0_
           have HR302_0 := n1_
           have HB := n2_
           clear n0_ n1_ n2_
           (try replace hw306_0 := (hb.cell (World.block_lt_of_cell? _ _ hw306_0)).trans hw306_0)
           (try replace hx306_0 := (hb.cell (World.block_lt_of_cell? _ _ hx306_0)).trans hx306_0)
           (try replace hw306_1 := (hb.cell (World.block_lt_of_cell? _ _ hw306_1)).trans hw306_1)
           (try replace hx306_1 := (hb.cell (World.block_lt_of_cell? _ _ hx306_1)).trans hx306_1)
           (try replace hw306_2 := (hb.cell (World.block_lt_of_cell? _ _ hw306_2)).trans hw306_2)
           (try replace hx306_2 := (hb.cell (World.block_lt_of_cell? _ _ hx306_2)).trans hx306_2)
           (try replace hw309_0 := (hb.cell (World.block_lt_of_cell? _ _ hw309_0)).trans hw309_0)
           (try replace hx309_0 := (hb.cell (World.block_lt_of_cell? _ _ hx309_0)).trans hx309_0)
           (try replace hw309_1 := (hb.cell (World.block_lt_of_cell? _ _ hw309_1)).trans hw309_1)
           (try replace hx309_1 := (hb.cell (World.block_lt_of_cell? _ _ hx309_1)).trans hx309_1)
           (try replace hw309_2 := (hb.cell (World.block_lt_of_cell? _ _ hw309_2)).trans hw309_2)
           (try replace hx309_2 := (hb.cell (World.block_lt_of_cell? _ _ hx309_2)).trans hx309_2)
           (try replace hw312_0 := (hb.cell (World.block_lt_of_cell? _ _ hw312_0)).trans hw312_0)
           (try replace hx312_0 := (hb.cell (World.block_lt_of_cell? _ _ hx312_0)).trans hx312_0)
           (try replace hw312_1 := (hb.cell (World.block_lt_of_cell? _ _ hw312_1)).trans hw312_1)
           (try replace hx312_1 := (hb.cell (World.block_lt_of_cell? _ _ hx312_1)).trans hx312_1)
           (try replace hw312_2 := (hb.cell (World.block_lt_of_cell? _ _ hw312_2)).trans hw312_2)
           (try replace hx312_2 := (hb.cell (World.block_lt_of_cell? _ _ hx312_2)).trans hx312_2)
           (try replace hw315_0 := (hb.cell (World.block_lt_of_cell? _ _ hw315_0)).trans hw315_0)
           (try replace hx315_0 := (hb.cell (World.block_lt_of_cell? _ _ hx315_0)).trans hx315_0)
           (try replace hw315_1 := (hb.cell (World.block_lt_of_cell? _ _ hw315_1)).trans hw315_1)
           (try replace hx315_1 := (hb.cell (World.block_lt_of_cell? _ _ hx315_1)).trans hx315_1)
           (try replace hw315_2 := (hb.cell (World.block_lt_of_cell? _ _ hw315_2)).trans hw315_2)
           (try replace hx315_2 := (hb.cell (World.block_lt_of_cell? _ _ hx315_2)).trans hx315_2)
           (try replace HR306_2 := Aside0.mk (Kd.C_below HR306_2.out hb))
           (try replace HR309_2 := Aside0.mk (Kd.C_below HR309_2.out hb))
           (try replace HR312_2 := Aside0.mk (Kd.C_below HR312_2.out hb))
           (try replace HR315_2 := Aside0.mk (Kd.C_below HR315_2.out hb))
           (try clear hb)
           (try clear hb2)
           (try clear hge)
           (try clear hk)
           (try clear hi)
           refine hK.out _ _ ⟨(by first | exact ((HB.out.cell (World.block_lt_of_cell? w _ hw306_0)).trans hw306_0) | exact hw306_0 | exact hx306_0), (by first | exact ((HB.out.cell (World.block_lt_of_cell? w _ hw306_1)).trans hw306_1) | exact hw306_1 | exact hx306_1), (by first | exact ((HB.out.cell (World.block_lt_of_cell? w _ hw306_2)).trans hw306_2) | exact hw306_2 | exact hx306_2), (by first | exact ((HB.out.cell (World.block_lt_of_cell? w _ hw309_0)).trans hw309_0) | exact hw309_0 | exact hx309_0), (by first | exact ((HB.out.cell (World.block_lt_of_cell? w _ hw309_1)).trans hw309_1) | exact hw309_1 | exact hx309_1), (by first | exact ((HB.out.cell (World.block_lt_of_cell? w _ hw309_2)).trans hw309_2) | exact hw309_2 | exact hx309_2), (by first | exact ((HB.out.cell (World.block_lt_of_cell? w _ hw312_0)).trans hw312_0) | exact hw312_0 | exact hx312_0), (by first | exact ((HB.out.cell (World.block_lt_of_cell? w _ hw312_1)).trans hw312_1) | exact hw312_1 | exact hx312_1), (by first | exact ((HB.out.cell (World.block_lt_of_cell? w _ hw312_2)).trans hw312_2) | exact hw312_2 | exact hx312_2), (by first | exact ((HB.out.cell (World.block_lt_of_cell? w _ hw315_0)).trans hw315_0) | exact hw315_0 | exact hx315_0), (by first | exact ((HB.out.cell (World.block_lt_of_cell? w _ hw315_1)).trans hw315_1) | exact hw315_1 | exact hx315_1), (by first | exact ((HB.out.cell (World.block_lt_of_cell? w _ hw315_2)).trans hw315_2) | exact hw315_2 | exact hx315_2)⟩ (fun hHeld => ?_)
           clear hK K
           refine norm_ (a' := ?_) ?_ ?_
           rotate_left
           ·
            show Act.put _ (some 69) _ = _
            simp only [Act.put, List.setIfInBounds_toArray, List.set_cons_zero, List.set_cons_succ, i64_w, i32_w]
            rfl
           refine one_ (i := 25) (N := some 75) #[true, true, true, true, true, true, true, true, true, true, true, true, true, true, true, true, true, true, true, true, true, true, true, true, true, true, false, false] rfl rfl (one_of HT_.out (by kernel_rfl)) (by decide) (fun K hK => ?_)
           refine goes_ Try.func14 (by kernel_rfl) rfl #[.agg #[.int .i64 ((rd_T36 (rd_L4 y298 x32_1) x15_2).f0), .int .i64 ((rd_T36 (rd_L4 y298 x32_1) x15_2).f1), .slice A306_2 ((rd_T36 (rd_L4 y298 x32_1) x15_2).f2).length c306_2], .int .i64 (wrap64 (t305 - 2))] (by rfl) rfl rfl (by (try simp only [List.map_toArray, List.map_cons, List.map_nil]); first | done | rfl | (simp only [List.length_drop, List.length_take]; rfl)) ?_
           with_reducible refine (minecontrolref08_Rest.calls k2 ((rd_T36 (rd_L4 y298 x32_1) x15_2).f0) ((rd_T36 (rd_L4 y298 x32_1) x15_2).f1) _ _ ((rd_T36 (rd_L4 y298 x32_1) x15_2).f2) (wrap64 (t305 - 2)) t316 t317 _ ?side1 ?side2 A30.out).mono ?_
           (case side1 => repeat (first | exact (by first | exact (Kd.C_below HR315_2.out HB.out) | exact HR315_2.out) | (with_reducible refine Kd.C_alloc ?_ _) | (with_reducible refine Kd.C_drewN ?_ _) | (with_reducible refine Kd.C_drew ?_)))
           (case side2 => exact HC315_2.out)
           rintro e w36 ⟨rfl, hb⟩
           refine ⟨_, rfl, ?_⟩
           have n0_ := Aside0.mk (Kd.N_below (by (with_reducible repeat (first | apply Kd.N_alloc | apply Kd.N_drewN | apply Kd.N_drew)); exact HO_30.out) hb)
           have n1_ := Aside0.mk (Kd.C_below (by repeat (first | (with_reducible exact HR302_0.out) | (with_reducible refine Kd.C_alloc ?_ _) | (with_reducible refine Kd.C_drewN ?_ _) | (with_reducible refine Kd.C_drew ?_) | exact HR302_0.out)) hb)
           have n2_ := Aside0.mk (below_step (by repeat (first | (with_reducible first | exact HB.out | apply below_alloc | apply pw_below_drewN | apply below_drew1) | exact HB.out)) hb)
           clear HO_30
           clear HR302_0
           clear HB
           have HO_30 := n0_
           have HR302_0 := n1_
           have HB := n2_
           clear n0_ n1_ n2_
           (try replace hw306_0 := (hb.cell (World.block_lt_of_cell? _ _ hw306_0)).trans hw306_0)
           (try replace hx306_0 := (hb.cell (World.block_lt_of_cell? _ _ hx306_0)).trans hx306_0)
           (try replace hw306_1 := (hb.cell (World.block_lt_of_cell? _ _ hw306_1)).trans hw306_1)
           (try replace hx306_1 := (hb.cell (World.block_lt_of_cell? _ _ hx306_1)).trans hx306_1)
           (try replace hw306_2 := (hb.cell (World.block_lt_of_cell? _ _ hw306_2)).trans hw306_2)
           (try replace hx306_2 := (hb.cell (World.block_lt_of_cell? _ _ hx306_2)).trans hx306_2)
           (try replace hw309_0 := (hb.cell (World.block_lt_of_cell? _ _ hw309_0)).trans hw309_0)
           (try replace hx309_0 := (hb.cell (World.block_lt_of_cell? _ _ hx309_0)).trans hx309_0)
           (try replace hw309_1 := (hb.cell (World.block_lt_of_cell? _ _ hw309_1)).trans hw309_1)
           (try replace hx309_1 := (hb.cell (World.block_lt_of_cell? _ _ hx309_1)).trans hx309_1)
           (try replace hw309_2 := (hb.cell (World.block_lt_of_cell? _ _ hw309_2)).trans hw309_2)
           (try replace hx309_2 := (hb.cell (World.block_lt_of_cell? _ _ hx309_2)).trans hx309_2)
           (try replace hw312_0 := (hb.cell (World.block_lt_of_cell? _ _ hw312_0)).trans hw312_0)
           (try replace hx312_0 := (hb.cell (World.block_lt_of_cell? _ _ hx312_0)).trans hx312_0)
           (try replace hw312_1 := (hb.cell (World.block_lt_of_cell? _ _ hw312_1)).trans hw312_1)
           (try replace hx312_1 := (hb.cell (World.block_lt_of_cell? _ _ hx312_1)).trans hx312_1)
           (try replace hw312_2 := (hb.cell (World.block_lt_of_cell? _ _ hw312_2)).trans hw312_2)
           (try replace hx312_2 := (hb.cell (World.block_lt_of_cell? _ _ hx312_2)).trans hx312_2)
           (try replace hw315_0 := (hb.cell (World.block_lt_of_cell? _ _ hw315_0)).trans hw315_0)
           (try replace hx315_0 := (hb.cell (World.block_lt_of_cell? _ _ hx315_0)).trans hx315_0)
           (try replace hw315_1 := (hb.cell (World.block_lt_of_cell? _ _ hw315_1)).trans hw315_1)
           (try replace hx315_1 := (hb.cell (World.block_lt_of_cell? _ _ hx315_1)).trans hx315_1)
           (try replace hw315_2 := (hb.cell (World.block_lt_of_cell? _ _ hw315_2)).trans hw315_2)
           (try replace hx315_2 := (hb.cell (World.block_lt_of_cell? _ _ hx315_2)).trans hx315_2)
           (try replace HR306_2 := Aside0.mk (Kd.C_below HR306_2.out hb))
           (try replace HR309_2 := Aside0.mk (Kd.C_below HR309_2.out hb))
           (try replace HR312_2 := Aside0.mk (Kd.C_below HR312_2.out hb))
           (try replace HR315_2 := Aside0.mk (Kd.C_below HR315_2.out hb))
           (try clear hb)
           (try clear hb2)
           (try clear hge)
           (try clear hk)
           (try clear hi)
           refine hK.out _ _ ⟨(by first | exact ((HB.out.cell (World.block_lt_of_cell? w _ hw306_0)).trans hw306_0) | exact hw306_0 | exact hx306_0), (by first | exact ((HB.out.cell (World.block_lt_of_cell? w _ hw306_1)).trans hw306_1) | exact hw306_1 | exact hx306_1), (by first | exact ((HB.out.cell (World.block_lt_of_cell? w _ hw306_2)).trans hw306_2) | exact hw306_2 | exact hx306_2), (by first | exact ((HB.out.cell (World.block_lt_of_cell? w _ hw309_0)).trans hw309_0) | exact hw309_0 | exact hx309_0), (by first | exact ((HB.out.cell (World.block_lt_of_cell? w _ hw309_1)).trans hw309_1) | exact hw309_1 | exact hx309_1), (by first | exact ((HB.out.cell (World.block_lt_of_cell? w _ hw309_2)).trans hw309_2) | exact hw309_2 | exact hx309_2), (by first | exact ((HB.out.cell (World.block_lt_of_cell? w _ hw312_0)).trans hw312_0) | exact hw312_0 | exact hx312_0), (by first | exact ((HB.out.cell (World.block_lt_of_cell? w _ hw312_1)).trans hw312_1) | exact hw312_1 | exact hx312_1), (by first | exact ((HB.out.cell (World.block_lt_of_cell? w _ hw312_2)).trans hw312_2) | exact hw312_2 | exact hx312_2), (by first | exact ((HB.out.cell (World.block_lt_of_cell? w _ hw315_0)).trans hw315_0) | exact hw315_0 | exact hx315_0), (by first | exact ((HB.out.cell (World.block_lt_of_cell? w _ hw315_1)).trans hw315_1) | exact hw315_1 | exact hx315_1), (by first | exact ((HB.out.cell (World.block_lt_of_cell? w _ hw315_2)).trans hw315_2) | exact hw315_2 | exact hx315_2)⟩ (fun hHeld => ?_)
           clear hK K
           refine norm_ (a' := ?_) ?_ ?_
           rotate_left
           ·
            show Act.put _ (some 75) _ = _
            simp only [Act.put, List.setIfInBounds_toArray, List.set_cons_zero, List.set_cons_succ, i64_w, i32_w]
            rfl
           refine pure_ (i := 26) (N := some 76) (v := ?_) (a' := ?_) #[true, true, true, true, true, true, true, true, true, true, true, true, true, true, true, true, true, true, true, true, true, true, true, true, true, true, true, false] rfl rfl (any_of HT_.out (by kernel_rfl)) (fun _ _ _ h => h) (Or.inl ⟨by rfl, ?_⟩) ?_ ?_
           rotate_left
           ·
            intro w'
            go_simp
            with_reducible rfl
           rotate_left
           ·
            simp only [Act.put, List.setIfInBounds_toArray, List.set_cons_zero, List.set_cons_succ, i64_w, i32_w]
            rfl
           refine pure_ (i := 27) (N := some 77) (v := ?_) (a' := ?_) #[true, true, true, true, true, true, true, true, true, true, true, true, true, true, true, true, true, true, true, true, true, true, true, true, true, true, true, true] rfl rfl (any_of HT_.out (by kernel_rfl)) (fun _ _ _ h => h) (Or.inl ⟨by rfl, ?_⟩) ?_ ?_
           rotate_left
           ·
            intro w'
            go_simp
            with_reducible rfl
           rotate_left
           ·
            simp only [Act.put, List.setIfInBounds_toArray, List.set_cons_zero, List.set_cons_succ, i64_w, i32_w]
            rfl
           refine done_ (done_of HT_.out (by kernel_rfl)) ?_
           try go_wp2
           go_roundg k2
           case measure => have := HK1.out; have := HK2.out; omega
           case rel => exact ⟨(wrap64 (x15_2 + 1)), (by first | rfl | (simp; done) | (simp [*]; done)), H', ⟨by have := HK1.out; have := HK2.out; omega⟩, ⟨by (with_reducible repeat (first | apply Kd.N_alloc | apply Kd.N_drewN | apply Kd.N_drew)); exact HO_30.out⟩, ⟨by repeat (first | (with_reducible exact HR302_0.out) | (with_reducible refine Kd.C_alloc ?_ _) | (with_reducible refine Kd.C_drewN ?_ _) | (with_reducible refine Kd.C_drew ?_) | exact HR302_0.out)⟩, ⟨by repeat (first | (with_reducible first | exact HB.out | apply below_alloc | apply pw_below_drewN | apply below_drew1) | exact HB.out)⟩⟩
        ·
         rw [if_neg c23] at H
         have c23b0 : decide (x15_2 < ((rd_L4 y298 x32_1).length : Int)) = false := decide_eq_false c23
         clear c23
         have H' := Aside0.mk H
         clear H
         go_wp2
         go_roundg k2
         case measure => have := HK1.out; have := HK2.out; omega
         case rel => exact ⟨(wrap64 (x32_1 + 1)), (by first | rfl | (simp; done) | (simp [*]; done)), H', ⟨by have := HK1.out; have := HK2.out; omega⟩, ⟨by (with_reducible repeat (first | apply Kd.N_alloc | apply Kd.N_drewN | apply Kd.N_drew)); exact HO_30.out⟩, ⟨by repeat (first | (with_reducible first | exact HB.out | apply below_alloc | apply pw_below_drewN | apply below_drew1) | exact HB.out)⟩⟩
     ·
      rw [if_neg c20] at H
      have c20b0 : (t303 == t304) = false := beq_eq_false_iff_ne.mpr c20
      have c20b1 : (t303 != t304) = true := bne_iff_ne.mpr c20
      obtain rfl := Option.some.inj H
      exact absurd hr_.out (by decide)
    ·
     rw [if_neg c15] at H
     have c15b0 : decide (x32_1 < (y298.length : Int)) = false := decide_eq_false c15
     clear c15
     replace H := Option.bind_eq_some_iff.mp H
     obtain ⟨t301, A370, H⟩ := H
     replace H : (some t301) = some r := H
     have A37 := Aside0.mk A370
     clear A370
     obtain rfl := Option.some.inj H
     go_wp2_with (first | ((with_reducible refine gate_callee (f := 8) rfl ?_); refine goesL_ (some 79) rfl rfl Try.func8 (by kernel_rfl) rfl #[] rfl (by (try simp only [List.map_toArray, List.map_cons, List.map_nil]); first | done | rfl | (simp only [List.length_drop, List.length_take]; rfl)) ?_; (with_reducible refine (minecontrollaw08_awake.calls k1  t301 _ A37.out).mono ?_); rintro e w38 ⟨rfl, hb⟩; refine ⟨_, rfl, ?_⟩; have n0_ := Aside0.mk (Kd.N_below (by (with_reducible repeat (first | apply Kd.N_alloc | apply Kd.N_drewN | apply Kd.N_drew)); exact HO_30.out) hb); have n1_ := Aside0.mk (below_step (by repeat (first | (with_reducible first | exact HB.out | apply below_alloc | apply pw_below_drewN | apply below_drew1) | exact HB.out)) hb); clear HO_30; clear HB; have HO_30 := n0_; have HB := n1_; clear n0_ n1_; (try clear hb); (try clear hb2); (try clear hge); (try clear hk); (try clear hi)))
     go_ret
     exact ⟨by first | rfl | (simp [errW_none, errW_some] <;> rfl) | (simp [*, errW_none, errW_some] <;> rfl), by repeat (first | (with_reducible first | exact HB.out | apply below_alloc | apply pw_below_drewN | apply below_drew1) | exact HB.out)⟩

/-- THE ONE PURE STATEMENT of minecontrollaw08_DoorChecks: yours. -/
def minecontrollaw08_DoorChecks.Pure : Prop := ∀ (l0 : List Int) (l1 : List (S36)) (a2 : Int) (a3 : Int) (a4 : Int), l0.length ≤ maxLen → l0.length * 1 ≤ 140737488351232 → (∀ x ∈ l0, (Lit.int .u8 x).wf = true) → (l1.length ≤ maxLen ∧ ∀ x ∈ l1, ((Lit.int .i64 x.f0).wf = true) ∧ ((Lit.int .i64 x.f1).wf = true) ∧ (x.f2.length ≤ maxLen ∧ ∀ x_ ∈ x.f2, (Lit.int .i64 x_).wf = true)) → (Lit.int .i64 a2).wf = true → (Lit.int .i64 a3).wf = true → (Lit.int .i64 a4).wf = true → ∃ k, minecontrollaw08_DoorChecks.f k l0 l1 a2 a3 a4 = some true
theorem minecontrollaw08_DoorChecks.walk (P : minecontrollaw08_DoorChecks.Pure) (a0 : Option Addr) (len0 cap0 : Nat) (z0 : List Int) (A1 : Option Addr) (c1 : Nat) (l1 : List (S36)) (a2 : Int) (a3 : Int) (a4 : Int) (w : World) (w0 : (a0 = none ∧ len0 = 0 ∧ cap0 = 0 ∧ z0 = []) ∨ ∃ x, a0 = some x ∧ len0 ≤ cap0 ∧ cap0 ≤ maxLen ∧ z0.length = cap0 ∧ (∀ i, i < z0.length → w.cell? (x.add i) = some (.int .u8 (z0.getD i 0))) ∧ ∀ n ∈ z0, (Lit.int .u8 n).wf = true) (y0 : len0 * 1 ≤ 140737488351232) (hr1 : Kd.C k36 w A1 l1.length l1) (hc1 : l1.length ≤ c1) (q1 : l1.length ≤ maxLen ∧ ∀ x ∈ l1, ((Lit.int .i64 x.f0).wf = true) ∧ ((Lit.int .i64 x.f1).wf = true) ∧ (x.f2.length ≤ maxLen ∧ ∀ x_ ∈ x.f2, (Lit.int .i64 x_).wf = true)) (w2 : (Lit.int .i64 a2).wf = true) (w3 : (Lit.int .i64 a3).wf = true) (w4 : (Lit.int .i64 a4).wf = true) :
  Calls Try.prog 3 #[.slice a0 len0 cap0, .slice A1 l1.length c1, .int .i64 a2, .int .i64 a3, .int .i64 a4] w fun e w' => e = .returned (.bool true) ∧ Below w.heap.size w w' := by
 obtain ⟨l0, rfl, hr0, hm0, hw0, hc0⟩ := ReadsInt.ofRowC w0
 obtain ⟨k, h⟩ := P l0 l1 a2 a3 a4 hm0 y0 hw0 q1 w2 w3 w4
 refine (minecontrollaw08_DoorChecks.calls1 k _ _ l0 (fun k_ => k_ < w.heap.size) _ _ l1 a2 a3 a4 true w (Kd.C_of_reads (d := (0 : Int)) (h1 := fun _ => rfl) hr0) hc0 (Kd.V_mk hc1 (Kd.C_F k36_heap hr1)) (.mk rfl) h).mono ?_
 rintro e w' ⟨rfl, hd⟩
 exact ⟨rfl, hd⟩

end Go.Proofs.Ytmlkchkhgjebgaa.PDoo
