/- Functions of the given program as Lean functions, and proofs that its calls come to what these say. Written by a program of this seat (wip/mkprint.py); Lean checks it all. -/
import Derived.Test.YtmlkchkhgjebgaaPDoox0
import Derived.Test.YtmlkchkhgjebgaaPDoox3
import Derived.Test.YtmlkchkhgjebgaaPDoox4
import Derived.Test.YtmlkchkhgjebgaaPDoox5
import Derived.Test.YtmlkchkhgjebgaaPDoox7
import Derived.Test.YtmlkchkhgjebgaaPDoox14
namespace Go.Proofs.Ytmlkchkhgjebgaa.PDoo
open Go.RowKit Go.Proofs.YtmlkchkhgjebgaaW.PrintWords Go.Proofs.YtmlkchkhgjebgaaW.PrintLast Go.Proofs.YtmlkchkhgjebgaaW.PrintMore
attribute [local go_sem] max2_int min2_int max_two min_two max_three min_three max_four min_four   -- for this text's walks alone
set_option linter.unusedVariables false
set_option linter.unusedSimpArgs false

/-! ### minecontrollaw08_DoorCommands: function 7 -/
def minecontrollaw08_DoorCommands.l0 : Nat → Int → Int → List (S36) → List Int → Int → Int → List (List Int) → Int → Int → Option (Bool)
 | 0, _, _, _, _, _, _, _, _, _ => none
 | k + 1, x4, x5, x13, x14, x15, x16, x48, x49, x50 => if x50 < x49 then (if 0 ≤ x50 then (if x50 < (x48.length : Int) then ((door_Command.f k x13 (rd_L1 x48 x50) x15 x16).bind fun bt438 => ((minecontrolref08_Command.f k x13 (rd_L1 x48 x50) x15 x16).bind fun bt442 => ((door_Seen.f k x13 (rd_L1 x48 x50) x15 x16).bind fun bt446 => ((minecontrolref08_Seen.f k x13 (rd_L1 x48 x50) x15 x16).bind fun bt450 => (if bt438.2 = bt442.2 then (if bt446.2 = bt450.2 then ((minecontrolref01_Ints.f k bt438.1 bt442.1).bind fun t454 => (if t454 = true then ((minecontrolref01_Ints.f k bt446.1 bt450.1).bind fun t455 => (if t455 = true then (minecontrollaw08_DoorCommands.l0 k x4 x5 x13 x14 x15 x16 x48 x49 (wrap64 (x50 + 1))) else (some false))) else (some false))) else (some false)) else (some false)))))) else (none)) else (none)) else ((door_Command.f k x13 x14 x4 x5).bind fun bt456 => ((minecontrolref08_Command.f k x13 x14 x4 x5).bind fun bt460 => (if bt456.2 = bt460.2 then ((minecontrolref01_Ints.f k bt456.1 bt460.1).bind fun t464 => (if t464 = true then ((minecontrollaw08_awake.f k).bind fun t465 => (some t465)) else (some false))) else (some false))))
def minecontrollaw08_DoorCommands.f (k : Nat) (l0 : List Int) (l1 : List Int) (a2 : Int) (a3 : Int) (a4 : Int) (a5 : Int) : Option (Bool) := (minecontrollaw08_doors.f k l0 a2 a3).bind fun bt426 => ((minecontroldraw_Mod.f a4 (wrap64 ((bt426.1.length : Int) + 1))).bind fun t432 => ((minecontroldraw_Mod.f a5 7).bind fun t433 => ((some (([bt426.2, l1] : List (List Int)) : List (List Int))).bind fun y434 => (minecontrollaw08_DoorCommands.l0 k a4 a5 bt426.1 bt426.2 t432 (wrap64 (t433 - 2)) y434 (y434.length : Int) 0))))
theorem minecontrollaw08_DoorCommands.mono_l : ∀ k, (∀ y0 y1 y2 y3 y4 y5 y6 y7 y8, LeO (minecontrollaw08_DoorCommands.l0 k y0 y1 y2 y3 y4 y5 y6 y7 y8) (minecontrollaw08_DoorCommands.l0 (k + 1) y0 y1 y2 y3 y4 y5 y6 y7 y8))
 | 0 => fun _ _ _ _ _ _ _ _ _ r h => by simp [minecontrollaw08_DoorCommands.l0] at h
 | k + 1 => by
  have ih0 := minecontrollaw08_DoorCommands.mono_l k
  ·
   intro y0 y1 y2 y3 y4 y5 y6 y7 y8
   unfold minecontrollaw08_DoorCommands.l0
   repeat' first
   | (with_reducible exact ih0 _ _ _ _ _ _ _ _ _)
   | (with_reducible exact door_Command.mono _ _ _ _ _)
   | (with_reducible exact door_Seen.mono _ _ _ _ _)
   | (with_reducible exact minecontrollaw08_awake.mono _)
   | (with_reducible exact minecontrollaw08_doors.mono _ _ _ _)
   | (with_reducible exact minecontrolref01_Ints.mono _ _ _)
   | (with_reducible exact minecontrolref08_Command.mono _ _ _ _ _)
   | (with_reducible exact minecontrolref08_Seen.mono _ _ _ _ _)
   | (with_reducible exact LeO.refl _)
   | (with_reducible exact LeO.none _)
   | (with_reducible refine LeO.ite ?_ ?_)
   | (with_reducible refine LeO.bind ?_ (fun _ => ?_))
   | exact ih0 _ _ _ _ _ _ _ _ _
   | exact door_Command.mono _ _ _ _ _
   | exact door_Seen.mono _ _ _ _ _
   | exact minecontrollaw08_awake.mono _
   | exact minecontrollaw08_doors.mono _ _ _ _
   | exact minecontrolref01_Ints.mono _ _ _
   | exact minecontrolref08_Command.mono _ _ _ _ _
   | exact minecontrolref08_Seen.mono _ _ _ _ _
   | exact LeO.none _
   | refine LeO.ite ?_ ?_
   | refine LeO.bind ?_ (fun _ => ?_)
theorem minecontrollaw08_DoorCommands.mono : ∀ a0 a1 a2 a3 a4 a5 k, LeO (minecontrollaw08_DoorCommands.f k a0 a1 a2 a3 a4 a5) (minecontrollaw08_DoorCommands.f (k + 1) a0 a1 a2 a3 a4 a5) := by
 intro a0 a1 a2 a3 a4 a5 k
 have ih0 := minecontrollaw08_DoorCommands.mono_l k
 unfold minecontrollaw08_DoorCommands.f
 repeat' first
   | (with_reducible exact ih0 _ _ _ _ _ _ _ _ _)
   | (with_reducible exact door_Command.mono _ _ _ _ _)
   | (with_reducible exact door_Seen.mono _ _ _ _ _)
   | (with_reducible exact minecontrollaw08_awake.mono _)
   | (with_reducible exact minecontrollaw08_doors.mono _ _ _ _)
   | (with_reducible exact minecontrolref01_Ints.mono _ _ _)
   | (with_reducible exact minecontrolref08_Command.mono _ _ _ _ _)
   | (with_reducible exact minecontrolref08_Seen.mono _ _ _ _ _)
   | (with_reducible exact LeO.refl _)
   | (with_reducible exact LeO.none _)
   | (with_reducible refine LeO.ite ?_ ?_)
   | (with_reducible refine LeO.bind ?_ (fun _ => ?_))
   | exact ih0 _ _ _ _ _ _ _ _ _
   | exact door_Command.mono _ _ _ _ _
   | exact door_Seen.mono _ _ _ _ _
   | exact minecontrollaw08_awake.mono _
   | exact minecontrollaw08_doors.mono _ _ _ _
   | exact minecontrolref01_Ints.mono _ _ _
   | exact minecontrolref08_Command.mono _ _ _ _ _
   | exact minecontrolref08_Seen.mono _ _ _ _ _
   | exact LeO.none _
   | refine LeO.ite ?_ ?_
   | refine LeO.bind ?_ (fun _ => ?_)
set_option maxHeartbeats 8000000 in
set_option maxRecDepth 100000 in
theorem minecontrollaw08_DoorCommands.calls1 (k : Nat) (A0 : Option Addr) (c0 : Nat) (l0 : List Int) (P1_ : Nat → Prop) (A1 : Option Addr) (c1 : Nat) (l1 : List Int) (a2 : Int) (a3 : Int) (a4 : Int) (a5 : Int) (r : Bool) (w : World) (hr0 : Kd.C (Kd.int .u8) w A0 l0.length l0) (hc0 : l0.length ≤ c0) (hs1 : Kd.V (Kd.int .i64) 3 w w.heap.size (fun k_ => P1_ k_) (.slice A1 l1.length c1) l1) (hr_ : Aside0 (r = true)) (h : minecontrollaw08_DoorCommands.f k l0 l1 a2 a3 a4 a5 = some r) :
  Calls Try.prog 7 #[.slice A0 l0.length c0, .slice A1 l1.length c1, .int .i64 a2, .int .i64 a3, .int .i64 a4, .int .i64 a5] w fun e w' => e = .returned (.bool r) ∧ Below w.heap.size w w' := by
 have HR0 := Aside0.mk hr0
 have HC0 := Aside0.mk hc0
 clear hr0 hc0
 have HO1 := Aside0.mk (show Kd.V (Kd.int .i64) 3 w w.heap.size (fun k_ => (P1_ k_ ∨ w.heap.size ≤ k_)) (.slice A1 l1.length c1) l1 from Kd.V_mono hs1 (fun k_ hk => .inl hk))
 have HB := Aside0.mk (Below.refl w.heap.size w)
 have H : ((minecontrollaw08_doors.f k l0 a2 a3).bind fun bt426 => ((minecontroldraw_Mod.f a4 (wrap64 ((bt426.1.length : Int) + 1))).bind fun t432 => ((minecontroldraw_Mod.f a5 7).bind fun t433 => ((some (([bt426.2, l1] : List (List Int)) : List (List Int))).bind fun y434 => (minecontrollaw08_DoorCommands.l0 k a4 a5 bt426.1 bt426.2 t432 (wrap64 (t433 - 2)) y434 (y434.length : Int) 0))))) = some r := h
 clear h
 replace H := Option.bind_eq_some_iff.mp H
 obtain ⟨⟨t426, t427⟩, A70, H⟩ := H
 replace H : ((minecontroldraw_Mod.f a4 (wrap64 ((t426.length : Int) + 1))).bind fun t432 => ((minecontroldraw_Mod.f a5 7).bind fun t433 => ((some (([t427, l1] : List (List Int)) : List (List Int))).bind fun y434 => (minecontrollaw08_DoorCommands.l0 k a4 a5 t426 t427 t432 (wrap64 (t433 - 2)) y434 (y434.length : Int) 0)))) = some r := H
 have A7 := Aside0.mk A70
 clear A70
 replace H := Option.bind_eq_some_iff.mp H
 obtain ⟨t432, A80, H⟩ := H
 replace H : ((minecontroldraw_Mod.f a5 7).bind fun t433 => ((some (([t427, l1] : List (List Int)) : List (List Int))).bind fun y434 => (minecontrollaw08_DoorCommands.l0 k a4 a5 t426 t427 t432 (wrap64 (t433 - 2)) y434 (y434.length : Int) 0))) = some r := H
 have A8 := Aside0.mk A80
 clear A80
 replace H := Option.bind_eq_some_iff.mp H
 obtain ⟨t433, A90, H⟩ := H
 replace H : ((some (([t427, l1] : List (List Int)) : List (List Int))).bind fun y434 => (minecontrollaw08_DoorCommands.l0 k a4 a5 t426 t427 t432 (wrap64 (t433 - 2)) y434 (y434.length : Int) 0)) = some r := H
 have A9 := Aside0.mk A90
 clear A90
 obtain ⟨y434, hy434⟩ : ∃ y_ : List (List Int), y_ = (([t427, l1] : List (List Int))) := ⟨_, rfl⟩
 replace H : (minecontrollaw08_DoorCommands.l0 k a4 a5 t426 t427 t432 (wrap64 (t433 - 2)) y434 (y434.length : Int) 0) = some r := by first | (rw [hy434]; with_reducible exact H) | (have H2_ := (Option.bind_some _ _).symm.trans H; rw [hy434]; with_reducible exact H2_) | (have H2_ := (Option.bind_some _ _).symm.trans H; with_reducible exact H2_) | with_reducible exact H | (rw [hy434]; exact H) | exact H
 have Ny434 := Aside0.mk hy434
 clear hy434
 have H' := Aside0.mk H
 clear H
 go_enter Try.func7, Try.ntmps7
 go_wp2_with (first | ((with_reducible refine gate_callee (f := 9) rfl ?_); refine goesL_ (some 35) rfl rfl Try.func9 (by kernel_rfl) rfl #[.slice A0 l0.length c0, .int .i64 a2, .int .i64 a3] rfl (by (try simp only [List.map_toArray, List.map_cons, List.map_nil]); first | done | rfl | (simp only [List.length_drop, List.length_take]; rfl)) ?_; (with_reducible refine (minecontrollaw08_doors.calls k _ _ l0 a2 a3 t426 t427 _ ?side1 ?side2 A7.out).mono ?_); (case side1 => repeat (first | exact HR0.out | (with_reducible refine Kd.C_alloc ?_ _) | (with_reducible refine Kd.C_drewN ?_ _) | (with_reducible refine Kd.C_drew ?_))); (case side2 => exact HC0.out); rintro e w10 ⟨v428, v430, rfl, ho0, ho1, hb⟩; refine ⟨_, rfl, ?_⟩; have n0_ := Aside0.mk (Kd.V_mono (Kd.V_told (Kd.V_told (Kd.V_old (by (with_reducible repeat (first | apply Kd.V_alloc | apply Kd.V_drewN | apply Kd.V_drew)); exact HO1.out) hb) (Kd.S_base ho0)) (Kd.Q_base ho1)) (fun _ h_ => h_.1)); have n1_ := Aside0.mk (Kd.N_lower (Kd.N_mono (ok' := fun k_ => (P1_ k_ ∨ w.heap.size ≤ k_) ∧ some k_ ≠ (v430 : Value).ownBlock) (Kd.S_N (Kd.S_bound ho0)) (fun k_ hk_ => ⟨(.inr (Nat.le_trans (below_size (by repeat (first | (with_reducible first | exact HB.out | apply below_alloc | apply pw_below_drewN | apply below_drew1) | exact HB.out))) hk_.2.1)), hk_.1⟩)) (below_size (by repeat (first | (with_reducible first | exact HB.out | apply below_alloc | apply pw_below_drewN | apply below_drew1) | exact HB.out)))); have n2_ := Aside0.mk (Kd.Q_lower (Kd.Q_newM (M := fun k_ => (w.heap.size ≤ k_)) ho1 (below_size (by repeat (first | (with_reducible first | exact HB.out | apply below_alloc | apply pw_below_drewN | apply below_drew1) | exact HB.out))) (fun k_ h_ => h_)) (below_size (by repeat (first | (with_reducible first | exact HB.out | apply below_alloc | apply pw_below_drewN | apply below_drew1) | exact HB.out)))); have n3_ := Aside0.mk (below_step (by repeat (first | (with_reducible first | exact HB.out | apply below_alloc | apply pw_below_drewN | apply below_drew1) | exact HB.out)) hb); clear HO1; clear HB; have HO1 := n0_; have HO429 := n1_; have HO431 := n2_; have HB := n3_; clear n0_ n1_ n2_ n3_; (try clear hb); (try clear hb2); (try clear hge); (try clear hk); (try clear hi); (try clear ho0); (try clear ho1); obtain ⟨Ao11, co11, eo11⟩ := Kd.N_slice HO429.out; subst eo11) | ((with_reducible refine gate_callee (f := 12) rfl ?_); refine goesL_ (some 42) rfl rfl Try.func12 (by kernel_rfl) rfl #[.int .i64 a4, .int .i64 (wrap64 ((t426.length : Int) + 1))] rfl (by (try simp only [List.map_toArray, List.map_cons, List.map_nil]); first | done | rfl | (simp only [List.length_drop, List.length_take]; rfl)) ?_; (with_reducible refine (minecontroldraw_Mod.calls a4 (wrap64 ((t426.length : Int) + 1)) t432 _ A8.out).mono ?_); rintro e w' ⟨rfl, ⟨nd, rfl⟩⟩; refine ⟨_, rfl, ?_⟩) | ((with_reducible refine gate_callee (f := 12) rfl ?_); refine goesL_ (some 44) rfl rfl Try.func12 (by kernel_rfl) rfl #[.int .i64 a5, .int .i64 7] rfl (by (try simp only [List.map_toArray, List.map_cons, List.map_nil]); first | done | rfl | (simp only [List.length_drop, List.length_take]; rfl)) ?_; (with_reducible refine (minecontroldraw_Mod.calls a5 7 t433 _ A9.out).mono ?_); rintro e w' ⟨rfl, ⟨nd, rfl⟩⟩; refine ⟨_, rfl, ?_⟩; obtain ⟨Ao12, co12, eo12, _⟩ := Kd.Q_slice HO431.out; subst eo12) | ((with_reducible refine gate_dst (N := 48) rfl ?_); refine Kd.N_lit (Kd.slice 3 (Kd.int .i64)) _ 25 ?hg (N' := 48) ?hd (xs := ([t427, l1] : List (List Int))) (inner := [.slice Ao12 t427.length co12, .slice A1 l1.length c1]) (ok := (fun k_ => (P1_ k_ ∨ w.heap.size ≤ k_) ∧ some k_ ≠ (.slice Ao11 t426.length co11 : Value).ownBlock)) (okp := (fun k_ => (P1_ k_ ∨ w.heap.size ≤ k_) ∧ some k_ ≠ (.slice Ao11 t426.length co11 : Value).ownBlock)) ?hr ?hp (fun _ hk => hk) ((show ∀ k_, w10.heap.size ≤ k_ → (fun k_ => (P1_ k_ ∨ w.heap.size ≤ k_) ∧ some k_ ≠ (.slice Ao11 t426.length co11 : Value).ownBlock) k_ from fun k_ hk => ⟨(.inr (Nat.le_trans (below_size (by repeat (first | (with_reducible first | exact HB.out | apply below_alloc | apply pw_below_drewN | apply below_drew1) | exact HB.out))) hk)), Kd.fresh' (Kd.N_lt (by (with_reducible repeat (first | apply Kd.N_alloc | apply Kd.N_drewN | apply Kd.N_drew)); exact HO429.out)) k_ hk⟩) _ (Nat.le_refl _)) (Below.refl _ _) (Nat.le_refl _) (by simp) ?_; (case hd => rfl); (case hg => rfl); (case hr => first | (go_simp; done) | (go_simp; rfl)); (case hp => exact (Reps.one (show Kd.FK (Kd.slice 3 (Kd.int .i64)) _ _ t427 [.slice Ao12 t427.length co12] from (Kd.FK_slice_mk (Kd.Q_reads' (Kd.Q_mono (ok' := (fun k_ => (P1_ k_ ∨ w.heap.size ≤ k_) ∧ some k_ ≠ (.slice Ao11 t426.length co11 : Value).ownBlock)) (Kd.Q_apart' (HO431.out) (Kd.N_typed HO429.out) (by decide)) (fun k_ hk => ⟨(.inr (hk.1.1)), hk.2⟩))).2.1 (Kd.Q_F (Kd.Q_mono (ok' := (fun k_ => (P1_ k_ ∨ w.heap.size ≤ k_) ∧ some k_ ≠ (.slice Ao11 t426.length co11 : Value).ownBlock)) (Kd.Q_apart' (HO431.out) (Kd.N_typed HO429.out) (by decide)) (fun k_ hk => ⟨(.inr (hk.1.1)), hk.2⟩))))) (Reps.one (show Kd.FK (Kd.slice 3 (Kd.int .i64)) _ _ l1 [.slice A1 l1.length c1] from (Kd.FK_slice_mk (have h_ := Kd.V_reads' (Kd.V_mono (ok' := (fun k_ => (P1_ k_ ∨ w.heap.size ≤ k_) ∧ some k_ ≠ (.slice Ao11 t426.length co11 : Value).ownBlock)) (HO1.out) (fun k_ hk => ⟨hk.1.1, hk.1.2⟩)); h_.2.1) (have h_ := Kd.V_F (Kd.V_mono (ok' := (fun k_ => (P1_ k_ ∨ w.heap.size ≤ k_) ∧ some k_ ≠ (.slice Ao11 t426.length co11 : Value).ownBlock)) (HO1.out) (fun k_ hk => ⟨hk.1.1, hk.1.2⟩)); h_))) (Reps.none _ _)))); intro v435 w13 ho14 hb hg_ hnew_; clear hg_ hnew_; (first | rw [← Ny434.out] at ho14 | (simp only [Int.reduceToNat] at ho14; rw [← Ny434.out] at ho14)); have n0_ := Aside0.mk (Kd.V_elder' (by (with_reducible repeat (first | apply Kd.V_alloc | apply Kd.V_drewN | apply Kd.V_drew)); exact HO1.out) (Kd.N_base ho14) hb); have n1_ := Aside0.mk (Kd.N_elder' (by (with_reducible repeat (first | apply Kd.N_alloc | apply Kd.N_drewN | apply Kd.N_drew)); exact HO429.out) (Kd.N_base ho14) hb); have n2_ := Aside0.mk (Kd.Q_below (by (with_reducible repeat (first | apply Kd.Q_alloc | apply Kd.Q_drewN | apply Kd.Q_drew)); exact HO431.out) hb); have n3_ := Aside0.mk (Kd.N_lower ho14 (below_size (by repeat (first | (with_reducible first | exact HB.out | apply below_alloc | apply pw_below_drewN | apply below_drew1) | exact HB.out)))); have n4_ := Aside0.mk (below_step (by repeat (first | (with_reducible first | exact HB.out | apply below_alloc | apply pw_below_drewN | apply below_drew1) | exact HB.out)) hb); clear HO1; clear HO429; clear HO431; clear HB; have HO1 := n0_; have HO429 := n1_; have HO431 := n2_; have HO436 := n3_; have HB := n4_; clear n0_ n1_ n2_ n3_ n4_; clear hb ho14; obtain ⟨Ao15, co15, eo15⟩ := Kd.N_slice HO436.out; subst eo15))
 go_loopg [50] k (fun kq v50 w' => ∃ (x50_1 : Int), v50 = .int .i64 x50_1 ∧ Aside0 (minecontrollaw08_DoorCommands.l0 kq a4 a5 t426 t427 t432 (wrap64 (t433 - 2)) y434 (y434.length : Int) x50_1 = some r) ∧ Aside0 (kq ≤ k) ∧ Aside0 (Kd.N k36 36 w' w.heap.size (fun k_ => (P1_ k_ ∨ w.heap.size ≤ k_) ∧ some k_ ≠ ((.slice Ao12 t427.length co12) : Value).ownBlock ∧ some k_ ≠ ((.slice Ao15 y434.length co15) : Value).ownBlock) (.slice Ao11 t426.length co11) t426) ∧ Aside0 (Kd.Q (Kd.int .i64) 3 w' w.heap.size (fun k_ => (w.heap.size ≤ k_)) (.slice Ao12 t427.length co12) t427) ∧ Aside0 (Kd.N (Kd.slice 3 (Kd.int .i64)) 25 w' w.heap.size (fun k_ => (P1_ k_ ∨ w.heap.size ≤ k_) ∧ some k_ ≠ ((.slice Ao11 t426.length co11) : Value).ownBlock) (.slice Ao15 y434.length co15) y434) ∧ Aside0 (Below w.heap.size w w'))
 case atStart => exact ⟨(0), (by first | rfl | (simp; done) | (simp [*]; done)), H', ⟨Nat.le_refl _⟩, ⟨by (with_reducible repeat (first | apply Kd.N_alloc | apply Kd.N_drewN | apply Kd.N_drew)); exact Kd.N_mono HO429.out (fun _ hk => ⟨hk.1.1, ⟨hk.1.2, hk.2⟩⟩)⟩, ⟨by (with_reducible repeat (first | apply Kd.Q_alloc | apply Kd.Q_drewN | apply Kd.Q_drew)); exact Kd.Q_mono HO431.out (fun _ hk => hk.1)⟩, ⟨by (with_reducible repeat (first | apply Kd.N_alloc | apply Kd.N_drewN | apply Kd.N_drew)); exact HO436.out⟩, ⟨by repeat (first | (with_reducible first | exact HB.out | apply below_alloc | apply pw_below_drewN | apply below_drew1) | exact HB.out)⟩⟩
 case round =>
  clear H'
  try clear c1; try clear p2; try clear p6; try clear c7; try clear c9; try clear c12
  obtain ⟨x50_1, rfl, HA, HK1, HO_13, HO_14, HO_48, HB⟩ := hrel
  cases gk with
  | zero => exact absurd HA.out (by simp [minecontrollaw08_DoorCommands.l0])
  | succ k1 =>
   have H := HA.out
   clear HA
   simp only [minecontrollaw08_DoorCommands.l0] at H
   by_cases c16 : x50_1 < (y434.length : Int)
   ·
    rw [if_pos c16] at H
    have c16b0 : decide (x50_1 < (y434.length : Int)) = true := decide_eq_true c16
    clear c16
    by_cases c17 : 0 ≤ x50_1
    rotate_left
    ·
     rw [if_neg c17] at H
     exact absurd H (by simp)
    rw [if_pos c17] at H
    have c17b0 : decide (0 ≤ x50_1) = true := decide_eq_true c17
    clear c17
    by_cases c18 : x50_1 < (y434.length : Int)
    rotate_left
    ·
     rw [if_neg c18] at H
     exact absurd H (by simp)
    rw [if_pos c18] at H
    have c18b0 : decide (x50_1 < (y434.length : Int)) = true := decide_eq_true c18
    clear c18
    replace H := Option.bind_eq_some_iff.mp H
    obtain ⟨⟨t438, t439⟩, A190, H⟩ := H
    replace H : ((minecontrolref08_Command.f k1 t426 (rd_L1 y434 x50_1) t432 (wrap64 (t433 - 2))).bind fun bt442 => ((door_Seen.f k1 t426 (rd_L1 y434 x50_1) t432 (wrap64 (t433 - 2))).bind fun bt446 => ((minecontrolref08_Seen.f k1 t426 (rd_L1 y434 x50_1) t432 (wrap64 (t433 - 2))).bind fun bt450 => (if t439 = bt442.2 then (if bt446.2 = bt450.2 then ((minecontrolref01_Ints.f k1 t438 bt442.1).bind fun t454 => (if t454 = true then ((minecontrolref01_Ints.f k1 bt446.1 bt450.1).bind fun t455 => (if t455 = true then (minecontrollaw08_DoorCommands.l0 k1 a4 a5 t426 t427 t432 (wrap64 (t433 - 2)) y434 (y434.length : Int) (wrap64 (x50_1 + 1))) else (some false))) else (some false))) else (some false)) else (some false))))) = some r := H
    have A19 := Aside0.mk A190
    clear A190
    replace H := Option.bind_eq_some_iff.mp H
    obtain ⟨⟨t442, t443⟩, A200, H⟩ := H
    replace H : ((door_Seen.f k1 t426 (rd_L1 y434 x50_1) t432 (wrap64 (t433 - 2))).bind fun bt446 => ((minecontrolref08_Seen.f k1 t426 (rd_L1 y434 x50_1) t432 (wrap64 (t433 - 2))).bind fun bt450 => (if t439 = t443 then (if bt446.2 = bt450.2 then ((minecontrolref01_Ints.f k1 t438 t442).bind fun t454 => (if t454 = true then ((minecontrolref01_Ints.f k1 bt446.1 bt450.1).bind fun t455 => (if t455 = true then (minecontrollaw08_DoorCommands.l0 k1 a4 a5 t426 t427 t432 (wrap64 (t433 - 2)) y434 (y434.length : Int) (wrap64 (x50_1 + 1))) else (some false))) else (some false))) else (some false)) else (some false)))) = some r := H
    have A20 := Aside0.mk A200
    clear A200
    replace H := Option.bind_eq_some_iff.mp H
    obtain ⟨⟨t446, t447⟩, A210, H⟩ := H
    replace H : ((minecontrolref08_Seen.f k1 t426 (rd_L1 y434 x50_1) t432 (wrap64 (t433 - 2))).bind fun bt450 => (if t439 = t443 then (if t447 = bt450.2 then ((minecontrolref01_Ints.f k1 t438 t442).bind fun t454 => (if t454 = true then ((minecontrolref01_Ints.f k1 t446 bt450.1).bind fun t455 => (if t455 = true then (minecontrollaw08_DoorCommands.l0 k1 a4 a5 t426 t427 t432 (wrap64 (t433 - 2)) y434 (y434.length : Int) (wrap64 (x50_1 + 1))) else (some false))) else (some false))) else (some false)) else (some false))) = some r := H
    have A21 := Aside0.mk A210
    clear A210
    replace H := Option.bind_eq_some_iff.mp H
    obtain ⟨⟨t450, t451⟩, A220, H⟩ := H
    replace H : (if t439 = t443 then (if t447 = t451 then ((minecontrolref01_Ints.f k1 t438 t442).bind fun t454 => (if t454 = true then ((minecontrolref01_Ints.f k1 t446 t450).bind fun t455 => (if t455 = true then (minecontrollaw08_DoorCommands.l0 k1 a4 a5 t426 t427 t432 (wrap64 (t433 - 2)) y434 (y434.length : Int) (wrap64 (x50_1 + 1))) else (some false))) else (some false))) else (some false)) else (some false)) = some r := H
    have A22 := Aside0.mk A220
    clear A220
    by_cases c23 : t439 = t443
    ·
     rw [if_pos c23] at H
     have c23b0 : (t439 == t443) = true := beq_iff_eq.mpr c23
     have c23b1 : (t439 != t443) = false := bne_eq_false_iff_eq.mpr c23
     clear c23
     by_cases c24 : t447 = t451
     ·
      rw [if_pos c24] at H
      have c24b0 : (t447 == t451) = true := beq_iff_eq.mpr c24
      have c24b1 : (t447 != t451) = false := bne_eq_false_iff_eq.mpr c24
      clear c24
      replace H := Option.bind_eq_some_iff.mp H
      obtain ⟨t454, A250, H⟩ := H
      replace H : (if t454 = true then ((minecontrolref01_Ints.f k1 t446 t450).bind fun t455 => (if t455 = true then (minecontrollaw08_DoorCommands.l0 k1 a4 a5 t426 t427 t432 (wrap64 (t433 - 2)) y434 (y434.length : Int) (wrap64 (x50_1 + 1))) else (some false))) else (some false)) = some r := H
      have A25 := Aside0.mk A250
      clear A250
      by_cases c26 : t454 = true
      ·
       subst c26
       have H1 : ((minecontrolref01_Ints.f k1 t446 t450).bind fun t455 => (if t455 = true then (minecontrollaw08_DoorCommands.l0 k1 a4 a5 t426 t427 t432 (wrap64 (t433 - 2)) y434 (y434.length : Int) (wrap64 (x50_1 + 1))) else (some false))) = some r := by rw [if_pos rfl] at H; exact H
       clear H
       have H := H1
       clear H1
       replace H := Option.bind_eq_some_iff.mp H
       obtain ⟨t455, A270, H⟩ := H
       replace H : (if t455 = true then (minecontrollaw08_DoorCommands.l0 k1 a4 a5 t426 t427 t432 (wrap64 (t433 - 2)) y434 (y434.length : Int) (wrap64 (x50_1 + 1))) else (some false)) = some r := H
       have A27 := Aside0.mk A270
       clear A270
       by_cases c28 : t455 = true
       ·
        subst c28
        have H1 : (minecontrollaw08_DoorCommands.l0 k1 a4 a5 t426 t427 t432 (wrap64 (t433 - 2)) y434 (y434.length : Int) (wrap64 (x50_1 + 1))) = some r := by rw [if_pos rfl] at H; exact H
        clear H
        have H := H1
        clear H1
        have H' := Aside0.mk H
        clear H
        have p437 : 0 ≤ (x50_1 : Int) := of_decide_eq_true (by first | (with_reducible assumption) | assumption)
        have q437 : x50_1 < (y434.length : Int) := of_decide_eq_true (by first | (with_reducible assumption) | assumption)
        obtain ⟨ad437, A437_0, c437_0, e437, hx437_0, hl437_0, hi437_0⟩ := at_L1 (Kd.N_reads' HO_48.out).2.2 x50_1 p437 q437
        cases e437
        obtain ⟨ce437, hce437, hMe437, hcc437⟩ := Kd.N_get HO_48.out [] x50_1 p437 (by first | exact q437 | exact of_decide_eq_true (by first | (with_reducible assumption) | assumption) | (have e_ := (Kd.N_reads' HO_48.out).1; omega))
        obtain ⟨ua437_0, uc437_0, rfl, ul437_0, ge437_0⟩ := Kd.FK_slice_open hMe437
        have hv437_0 := hcc437 0 _ rfl
        rw [Nat.add_zero, show ((Kd.slice 3 (Kd.int .i64))).sz = 1 from rfl, Nat.mul_one] at hv437_0
        replace hv437_0 := Option.some.inj (hv437_0.symm.trans hx437_0)
        injection hv437_0 with hva_ hvn_ hvc_
        rw [hva_] at ge437_0
        rw [hvc_] at ul437_0
        have HL437_0 := Aside0.mk (show Kd.V (Kd.int .i64) 3 _ w.heap.size _ _ (rd_L1 y434 x50_1) from Kd.V_mk ul437_0 ge437_0)
        clear hva_ hvn_ hvc_ ge437_0 ul437_0
        clear hcc437 hce437
        have HR437_0 := Aside0.mk hi437_0
        have HC437_0 := Aside0.mk hl437_0
        clear hi437_0 hl437_0
        replace p437 := eq_true p437
        replace q437 := eq_true q437
        go_wp2_with (first | ((with_reducible refine gate_callee (f := 18) rfl ?_); refine goesL_ (some 59) rfl rfl Try.func18 (by kernel_rfl) rfl #[.slice Ao11 t426.length co11, .slice A437_0 (rd_L1 y434 x50_1).length c437_0, .int .i64 t432, .int .i64 (wrap64 (t433 - 2))] rfl (by (try simp only [List.map_toArray, List.map_cons, List.map_nil]); first | done | rfl | (simp only [List.length_drop, List.length_take]; rfl)) ?_; (with_reducible refine (door_Command.calls k1 _ _ t426 _ _ (rd_L1 y434 x50_1) t432 (wrap64 (t433 - 2)) t438 t439 _ ?side1 ?side2 ?side3 ?side4 A19.out).mono ?_); (case side1 => repeat (first | exact (Kd.N_reads' HO_13.out).2.2 | (with_reducible refine Kd.C_alloc ?_ _) | (with_reducible refine Kd.C_drewN ?_ _) | (with_reducible refine Kd.C_drew ?_))); (case side2 => exact (Kd.N_reads' HO_13.out).2.1); (case side3 => repeat (first | exact (by repeat (first | (with_reducible exact HR437_0.out) | (with_reducible refine Kd.C_alloc ?_ _) | (with_reducible refine Kd.C_drewN ?_ _) | (with_reducible refine Kd.C_drew ?_) | exact HR437_0.out)) | (with_reducible refine Kd.C_alloc ?_ _) | (with_reducible refine Kd.C_drewN ?_ _) | (with_reducible refine Kd.C_drew ?_))); (case side4 => exact HC437_0.out); rintro e w29 ⟨v440, rfl, ho0, hb⟩; refine ⟨_, rfl, ?_⟩; have n0_ := Aside0.mk (Kd.N_elder' (by (with_reducible repeat (first | apply Kd.N_alloc | apply Kd.N_drewN | apply Kd.N_drew)); exact HO_13.out) (Kd.R_base ho0) hb); have n1_ := Aside0.mk (Kd.Q_elder' (by (with_reducible repeat (first | apply Kd.Q_alloc | apply Kd.Q_drewN | apply Kd.Q_drew)); exact HO_14.out) (Kd.R_base ho0) hb); have n2_ := Aside0.mk (Kd.N_elder' (by (with_reducible repeat (first | apply Kd.N_alloc | apply Kd.N_drewN | apply Kd.N_drew)); exact HO_48.out) (Kd.R_base ho0) hb); have n3_ := Aside0.mk (Kd.V_elder' (by (with_reducible repeat (first | apply Kd.V_alloc | apply Kd.V_drewN | apply Kd.V_drew)); exact HL437_0.out) (Kd.R_base ho0) hb); have n4_ := Aside0.mk (Kd.R_lower (Kd.R_new' (Kd.R_newM (M := fun k_ => (w.heap.size ≤ k_)) ho0 (below_size (by repeat (first | (with_reducible first | exact HB.out | apply below_alloc | apply pw_below_drewN | apply below_drew1) | exact HB.out))) (fun k_ h_ => h_)) (Kd.Q_lt (by (with_reducible repeat (first | apply Kd.Q_alloc | apply Kd.Q_drewN | apply Kd.Q_drew)); exact HO_14.out))) (below_size (by repeat (first | (with_reducible first | exact HB.out | apply below_alloc | apply pw_below_drewN | apply below_drew1) | exact HB.out)))); have n5_ := Aside0.mk (Kd.C_below (by repeat (first | (with_reducible exact HR437_0.out) | (with_reducible refine Kd.C_alloc ?_ _) | (with_reducible refine Kd.C_drewN ?_ _) | (with_reducible refine Kd.C_drew ?_) | exact HR437_0.out)) hb); have n6_ := Aside0.mk (below_step (by repeat (first | (with_reducible first | exact HB.out | apply below_alloc | apply pw_below_drewN | apply below_drew1) | exact HB.out)) hb); clear HO_13; clear HO_14; clear HO_48; clear HL437_0; clear HR437_0; clear HB; have HO_13 := n0_; have HO_14 := n1_; have HO_48 := n2_; have HL437_0 := n3_; have HO441 := n4_; have HR437_0 := n5_; have HB := n6_; clear n0_ n1_ n2_ n3_ n4_ n5_ n6_; (try clear hb); (try clear hb2); (try clear hge); (try clear hk); (try clear hi); (try clear ho0)) | ((with_reducible refine gate_callee (f := 19) rfl ?_); refine goesL_ (some 67) rfl rfl Try.func19 (by kernel_rfl) rfl #[.slice Ao11 t426.length co11, .slice A437_0 (rd_L1 y434 x50_1).length c437_0, .int .i64 t432, .int .i64 (wrap64 (t433 - 2))] rfl (by (try simp only [List.map_toArray, List.map_cons, List.map_nil]); first | done | rfl | (simp only [List.length_drop, List.length_take]; rfl)) ?_; (with_reducible refine (minecontrolref08_Command.calls k1 _ _ t426 _ _ (rd_L1 y434 x50_1) t432 (wrap64 (t433 - 2)) t442 t443 _ ?side1 ?side2 ?side3 ?side4 A20.out).mono ?_); (case side1 => repeat (first | exact (Kd.N_reads' HO_13.out).2.2 | (with_reducible refine Kd.C_alloc ?_ _) | (with_reducible refine Kd.C_drewN ?_ _) | (with_reducible refine Kd.C_drew ?_))); (case side2 => exact (Kd.N_reads' HO_13.out).2.1); (case side3 => repeat (first | exact (by repeat (first | (with_reducible exact HR437_0.out) | (with_reducible refine Kd.C_alloc ?_ _) | (with_reducible refine Kd.C_drewN ?_ _) | (with_reducible refine Kd.C_drew ?_) | exact HR437_0.out)) | (with_reducible refine Kd.C_alloc ?_ _) | (with_reducible refine Kd.C_drewN ?_ _) | (with_reducible refine Kd.C_drew ?_))); (case side4 => exact HC437_0.out); rintro e w30 ⟨v444, rfl, ho0, hb⟩; refine ⟨_, rfl, ?_⟩; have n0_ := Aside0.mk (Kd.N_elder' (by (with_reducible repeat (first | apply Kd.N_alloc | apply Kd.N_drewN | apply Kd.N_drew)); exact HO_13.out) (Kd.R_base ho0) hb); have n1_ := Aside0.mk (Kd.Q_elder' (by (with_reducible repeat (first | apply Kd.Q_alloc | apply Kd.Q_drewN | apply Kd.Q_drew)); exact HO_14.out) (Kd.R_base ho0) hb); have n2_ := Aside0.mk (Kd.N_elder' (by (with_reducible repeat (first | apply Kd.N_alloc | apply Kd.N_drewN | apply Kd.N_drew)); exact HO_48.out) (Kd.R_base ho0) hb); have n3_ := Aside0.mk (Kd.V_elder' (by (with_reducible repeat (first | apply Kd.V_alloc | apply Kd.V_drewN | apply Kd.V_drew)); exact HL437_0.out) (Kd.R_base ho0) hb); have n4_ := Aside0.mk (Kd.R_elder' (by (with_reducible repeat (first | apply Kd.R_alloc | apply Kd.R_drewN | apply Kd.R_drew)); exact HO441.out) (Kd.R_base ho0) hb); have n5_ := Aside0.mk (Kd.R_lower (Kd.R_new' (Kd.R_new' (Kd.R_newM (M := fun k_ => (w.heap.size ≤ k_)) ho0 (below_size (by repeat (first | (with_reducible first | exact HB.out | apply below_alloc | apply pw_below_drewN | apply below_drew1) | exact HB.out))) (fun k_ h_ => h_)) (Kd.Q_lt (by (with_reducible repeat (first | apply Kd.Q_alloc | apply Kd.Q_drewN | apply Kd.Q_drew)); exact HO_14.out))) (Kd.R_lt (by (with_reducible repeat (first | apply Kd.R_alloc | apply Kd.R_drewN | apply Kd.R_drew)); exact HO441.out))) (below_size (by repeat (first | (with_reducible first | exact HB.out | apply below_alloc | apply pw_below_drewN | apply below_drew1) | exact HB.out)))); have n6_ := Aside0.mk (Kd.C_below (by repeat (first | (with_reducible exact HR437_0.out) | (with_reducible refine Kd.C_alloc ?_ _) | (with_reducible refine Kd.C_drewN ?_ _) | (with_reducible refine Kd.C_drew ?_) | exact HR437_0.out)) hb); have n7_ := Aside0.mk (below_step (by repeat (first | (with_reducible first | exact HB.out | apply below_alloc | apply pw_below_drewN | apply below_drew1) | exact HB.out)) hb); clear HO_13; clear HO_14; clear HO_48; clear HL437_0; clear HO441; clear HR437_0; clear HB; have HO_13 := n0_; have HO_14 := n1_; have HO_48 := n2_; have HL437_0 := n3_; have HO441 := n4_; have HO445 := n5_; have HR437_0 := n6_; have HB := n7_; clear n0_ n1_ n2_ n3_ n4_ n5_ n6_ n7_; (try clear hb); (try clear hb2); (try clear hge); (try clear hk); (try clear hi); (try clear ho0)) | ((with_reducible refine gate_callee (f := 20) rfl ?_); refine goesL_ (some 75) rfl rfl Try.func20 (by kernel_rfl) rfl #[.slice Ao11 t426.length co11, .slice A437_0 (rd_L1 y434 x50_1).length c437_0, .int .i64 t432, .int .i64 (wrap64 (t433 - 2))] rfl (by (try simp only [List.map_toArray, List.map_cons, List.map_nil]); first | done | rfl | (simp only [List.length_drop, List.length_take]; rfl)) ?_; (with_reducible refine (door_Seen.calls k1 _ _ t426 _ _ (rd_L1 y434 x50_1) t432 (wrap64 (t433 - 2)) t446 t447 _ ?side1 ?side2 ?side3 ?side4 A21.out).mono ?_); (case side1 => repeat (first | exact (Kd.N_reads' HO_13.out).2.2 | (with_reducible refine Kd.C_alloc ?_ _) | (with_reducible refine Kd.C_drewN ?_ _) | (with_reducible refine Kd.C_drew ?_))); (case side2 => exact (Kd.N_reads' HO_13.out).2.1); (case side3 => repeat (first | exact (by repeat (first | (with_reducible exact HR437_0.out) | (with_reducible refine Kd.C_alloc ?_ _) | (with_reducible refine Kd.C_drewN ?_ _) | (with_reducible refine Kd.C_drew ?_) | exact HR437_0.out)) | (with_reducible refine Kd.C_alloc ?_ _) | (with_reducible refine Kd.C_drewN ?_ _) | (with_reducible refine Kd.C_drew ?_))); (case side4 => exact HC437_0.out); rintro e w31 ⟨v448, rfl, ho0, hb⟩; refine ⟨_, rfl, ?_⟩; have n0_ := Aside0.mk (Kd.N_elder' (by (with_reducible repeat (first | apply Kd.N_alloc | apply Kd.N_drewN | apply Kd.N_drew)); exact HO_13.out) (Kd.R_base ho0) hb); have n1_ := Aside0.mk (Kd.Q_elder' (by (with_reducible repeat (first | apply Kd.Q_alloc | apply Kd.Q_drewN | apply Kd.Q_drew)); exact HO_14.out) (Kd.R_base ho0) hb); have n2_ := Aside0.mk (Kd.N_elder' (by (with_reducible repeat (first | apply Kd.N_alloc | apply Kd.N_drewN | apply Kd.N_drew)); exact HO_48.out) (Kd.R_base ho0) hb); have n3_ := Aside0.mk (Kd.V_elder' (by (with_reducible repeat (first | apply Kd.V_alloc | apply Kd.V_drewN | apply Kd.V_drew)); exact HL437_0.out) (Kd.R_base ho0) hb); have n4_ := Aside0.mk (Kd.R_elder' (by (with_reducible repeat (first | apply Kd.R_alloc | apply Kd.R_drewN | apply Kd.R_drew)); exact HO441.out) (Kd.R_base ho0) hb); have n5_ := Aside0.mk (Kd.R_elder' (by (with_reducible repeat (first | apply Kd.R_alloc | apply Kd.R_drewN | apply Kd.R_drew)); exact HO445.out) (Kd.R_base ho0) hb); have n6_ := Aside0.mk (Kd.R_lower (Kd.R_new' (Kd.R_new' (Kd.R_new' (Kd.R_newM (M := fun k_ => (w.heap.size ≤ k_)) ho0 (below_size (by repeat (first | (with_reducible first | exact HB.out | apply below_alloc | apply pw_below_drewN | apply below_drew1) | exact HB.out))) (fun k_ h_ => h_)) (Kd.Q_lt (by (with_reducible repeat (first | apply Kd.Q_alloc | apply Kd.Q_drewN | apply Kd.Q_drew)); exact HO_14.out))) (Kd.R_lt (by (with_reducible repeat (first | apply Kd.R_alloc | apply Kd.R_drewN | apply Kd.R_drew)); exact HO441.out))) (Kd.R_lt (by (with_reducible repeat (first | apply Kd.R_alloc | apply Kd.R_drewN | apply Kd.R_drew)); exact HO445.out))) (below_size (by repeat (first | (with_reducible first | exact HB.out | apply below_alloc | apply pw_below_drewN | apply below_drew1) | exact HB.out)))); have n7_ := Aside0.mk (Kd.C_below (by repeat (first | (with_reducible exact HR437_0.out) | (with_reducible refine Kd.C_alloc ?_ _) | (with_reducible refine Kd.C_drewN ?_ _) | (with_reducible refine Kd.C_drew ?_) | exact HR437_0.out)) hb); have n8_ := Aside0.mk (below_step (by repeat (first | (with_reducible first | exact HB.out | apply below_alloc | apply pw_below_drewN | apply below_drew1) | exact HB.out)) hb); clear HO_13; clear HO_14; clear HO_48; clear HL437_0; clear HO441; clear HO445; clear HR437_0; clear HB; have HO_13 := n0_; have HO_14 := n1_; have HO_48 := n2_; have HL437_0 := n3_; have HO441 := n4_; have HO445 := n5_; have HO449 := n6_; have HR437_0 := n7_; have HB := n8_; clear n0_ n1_ n2_ n3_ n4_ n5_ n6_ n7_ n8_; (try clear hb); (try clear hb2); (try clear hge); (try clear hk); (try clear hi); (try clear ho0)) | ((with_reducible refine gate_callee (f := 21) rfl ?_); refine goesL_ (some 83) rfl rfl Try.func21 (by kernel_rfl) rfl #[.slice Ao11 t426.length co11, .slice A437_0 (rd_L1 y434 x50_1).length c437_0, .int .i64 t432, .int .i64 (wrap64 (t433 - 2))] rfl (by (try simp only [List.map_toArray, List.map_cons, List.map_nil]); first | done | rfl | (simp only [List.length_drop, List.length_take]; rfl)) ?_; (with_reducible refine (minecontrolref08_Seen.calls k1 _ _ t426 _ _ (rd_L1 y434 x50_1) t432 (wrap64 (t433 - 2)) t450 t451 _ ?side1 ?side2 ?side3 ?side4 A22.out).mono ?_); (case side1 => repeat (first | exact (Kd.N_reads' HO_13.out).2.2 | (with_reducible refine Kd.C_alloc ?_ _) | (with_reducible refine Kd.C_drewN ?_ _) | (with_reducible refine Kd.C_drew ?_))); (case side2 => exact (Kd.N_reads' HO_13.out).2.1); (case side3 => repeat (first | exact (by repeat (first | (with_reducible exact HR437_0.out) | (with_reducible refine Kd.C_alloc ?_ _) | (with_reducible refine Kd.C_drewN ?_ _) | (with_reducible refine Kd.C_drew ?_) | exact HR437_0.out)) | (with_reducible refine Kd.C_alloc ?_ _) | (with_reducible refine Kd.C_drewN ?_ _) | (with_reducible refine Kd.C_drew ?_))); (case side4 => exact HC437_0.out); rintro e w32 ⟨v452, rfl, ho0, hb⟩; refine ⟨_, rfl, ?_⟩; have n0_ := Aside0.mk (Kd.N_elder' (by (with_reducible repeat (first | apply Kd.N_alloc | apply Kd.N_drewN | apply Kd.N_drew)); exact HO_13.out) (Kd.R_base ho0) hb); have n1_ := Aside0.mk (Kd.Q_elder' (by (with_reducible repeat (first | apply Kd.Q_alloc | apply Kd.Q_drewN | apply Kd.Q_drew)); exact HO_14.out) (Kd.R_base ho0) hb); have n2_ := Aside0.mk (Kd.N_elder' (by (with_reducible repeat (first | apply Kd.N_alloc | apply Kd.N_drewN | apply Kd.N_drew)); exact HO_48.out) (Kd.R_base ho0) hb); have n3_ := Aside0.mk (Kd.V_elder' (by (with_reducible repeat (first | apply Kd.V_alloc | apply Kd.V_drewN | apply Kd.V_drew)); exact HL437_0.out) (Kd.R_base ho0) hb); have n4_ := Aside0.mk (Kd.R_elder' (by (with_reducible repeat (first | apply Kd.R_alloc | apply Kd.R_drewN | apply Kd.R_drew)); exact HO441.out) (Kd.R_base ho0) hb); have n5_ := Aside0.mk (Kd.R_elder' (by (with_reducible repeat (first | apply Kd.R_alloc | apply Kd.R_drewN | apply Kd.R_drew)); exact HO445.out) (Kd.R_base ho0) hb); have n6_ := Aside0.mk (Kd.R_elder' (by (with_reducible repeat (first | apply Kd.R_alloc | apply Kd.R_drewN | apply Kd.R_drew)); exact HO449.out) (Kd.R_base ho0) hb); have n7_ := Aside0.mk (Kd.R_lower (Kd.R_new' (Kd.R_new' (Kd.R_new' (Kd.R_new' (Kd.R_newM (M := fun k_ => (w.heap.size ≤ k_)) ho0 (below_size (by repeat (first | (with_reducible first | exact HB.out | apply below_alloc | apply pw_below_drewN | apply below_drew1) | exact HB.out))) (fun k_ h_ => h_)) (Kd.Q_lt (by (with_reducible repeat (first | apply Kd.Q_alloc | apply Kd.Q_drewN | apply Kd.Q_drew)); exact HO_14.out))) (Kd.R_lt (by (with_reducible repeat (first | apply Kd.R_alloc | apply Kd.R_drewN | apply Kd.R_drew)); exact HO441.out))) (Kd.R_lt (by (with_reducible repeat (first | apply Kd.R_alloc | apply Kd.R_drewN | apply Kd.R_drew)); exact HO445.out))) (Kd.R_lt (by (with_reducible repeat (first | apply Kd.R_alloc | apply Kd.R_drewN | apply Kd.R_drew)); exact HO449.out))) (below_size (by repeat (first | (with_reducible first | exact HB.out | apply below_alloc | apply pw_below_drewN | apply below_drew1) | exact HB.out)))); have n8_ := Aside0.mk (Kd.C_below (by repeat (first | (with_reducible exact HR437_0.out) | (with_reducible refine Kd.C_alloc ?_ _) | (with_reducible refine Kd.C_drewN ?_ _) | (with_reducible refine Kd.C_drew ?_) | exact HR437_0.out)) hb); have n9_ := Aside0.mk (below_step (by repeat (first | (with_reducible first | exact HB.out | apply below_alloc | apply pw_below_drewN | apply below_drew1) | exact HB.out)) hb); clear HO_13; clear HO_14; clear HO_48; clear HL437_0; clear HO441; clear HO445; clear HO449; clear HR437_0; clear HB; have HO_13 := n0_; have HO_14 := n1_; have HO_48 := n2_; have HL437_0 := n3_; have HO441 := n4_; have HO445 := n5_; have HO449 := n6_; have HO453 := n7_; have HR437_0 := n8_; have HB := n9_; clear n0_ n1_ n2_ n3_ n4_ n5_ n6_ n7_ n8_ n9_; (try clear hb); (try clear hb2); (try clear hge); (try clear hk); (try clear hi); (try clear ho0); obtain ⟨Ao33, co33, eo33⟩ := Kd.R_slice HO441.out; subst eo33; obtain ⟨Ao34, co34, eo34⟩ := Kd.R_slice HO445.out; subst eo34) | (go_at_call 15; (with_reducible refine (minecontrolref01_Ints.calls k1 _ _ t438 _ _ t442 true _ ?side1 ?side2 ?side3 ?side4 A25.out).mono ?_); (case side1 => repeat (first | exact (Kd.R_reads' HO441.out).2.2 | (with_reducible refine Kd.C_alloc ?_ _) | (with_reducible refine Kd.C_drewN ?_ _) | (with_reducible refine Kd.C_drew ?_))); (case side2 => exact (Kd.R_reads' HO441.out).2.1); (case side3 => repeat (first | exact (Kd.R_reads' HO445.out).2.2 | (with_reducible refine Kd.C_alloc ?_ _) | (with_reducible refine Kd.C_drewN ?_ _) | (with_reducible refine Kd.C_drew ?_))); (case side4 => exact (Kd.R_reads' HO445.out).2.1); rintro e w' ⟨rfl, ⟨nd, rfl⟩⟩; obtain ⟨Ao35, co35, eo35⟩ := Kd.R_slice HO449.out; subst eo35; obtain ⟨Ao36, co36, eo36⟩ := Kd.R_slice HO453.out; subst eo36) | (go_at_call 15; (with_reducible refine (minecontrolref01_Ints.calls k1 _ _ t446 _ _ t450 true _ ?side1 ?side2 ?side3 ?side4 A27.out).mono ?_); (case side1 => repeat (first | exact (Kd.R_reads' HO449.out).2.2 | (with_reducible refine Kd.C_alloc ?_ _) | (with_reducible refine Kd.C_drewN ?_ _) | (with_reducible refine Kd.C_drew ?_))); (case side2 => exact (Kd.R_reads' HO449.out).2.1); (case side3 => repeat (first | exact (Kd.R_reads' HO453.out).2.2 | (with_reducible refine Kd.C_alloc ?_ _) | (with_reducible refine Kd.C_drewN ?_ _) | (with_reducible refine Kd.C_drew ?_))); (case side4 => exact (Kd.R_reads' HO453.out).2.1); rintro e w' ⟨rfl, ⟨nd, rfl⟩⟩))
        go_roundg k1
        case measure => have := HK1.out; omega
        case rel => exact ⟨(wrap64 (x50_1 + 1)), (by first | rfl | (simp; done) | (simp [*]; done)), H', ⟨by have := HK1.out; omega⟩, ⟨by (with_reducible repeat (first | apply Kd.N_alloc | apply Kd.N_drewN | apply Kd.N_drew)); exact Kd.N_mono HO_13.out (fun _ hk => ⟨hk.1.1.1.1.1, ⟨hk.1.1.1.1.2.1, hk.1.1.1.1.2.2⟩⟩)⟩, ⟨by (with_reducible repeat (first | apply Kd.Q_alloc | apply Kd.Q_drewN | apply Kd.Q_drew)); exact Kd.Q_mono HO_14.out (fun _ hk => hk.1.1.1.1)⟩, ⟨by (with_reducible repeat (first | apply Kd.N_alloc | apply Kd.N_drewN | apply Kd.N_drew)); exact Kd.N_mono HO_48.out (fun _ hk => ⟨hk.1.1.1.1.1, hk.1.1.1.1.2⟩)⟩, ⟨by repeat (first | (with_reducible first | exact HB.out | apply below_alloc | apply pw_below_drewN | apply below_drew1) | exact HB.out)⟩⟩
       ·
        replace c28 := Bool.eq_false_iff.mpr c28
        subst c28
        have H1 : (some false) = some r := by rw [if_neg (show ¬ (false = true) by decide)] at H; exact H
        clear H
        have H := H1
        clear H1
        obtain rfl := Option.some.inj H
        exact absurd hr_.out (by decide)
      ·
       replace c26 := Bool.eq_false_iff.mpr c26
       subst c26
       have H1 : (some false) = some r := by rw [if_neg (show ¬ (false = true) by decide)] at H; exact H
       clear H
       have H := H1
       clear H1
       obtain rfl := Option.some.inj H
       exact absurd hr_.out (by decide)
     ·
      rw [if_neg c24] at H
      have c24b0 : (t447 == t451) = false := beq_eq_false_iff_ne.mpr c24
      have c24b1 : (t447 != t451) = true := bne_iff_ne.mpr c24
      obtain rfl := Option.some.inj H
      exact absurd hr_.out (by decide)
    ·
     rw [if_neg c23] at H
     have c23b0 : (t439 == t443) = false := beq_eq_false_iff_ne.mpr c23
     have c23b1 : (t439 != t443) = true := bne_iff_ne.mpr c23
     obtain rfl := Option.some.inj H
     exact absurd hr_.out (by decide)
   ·
    rw [if_neg c16] at H
    have c16b0 : decide (x50_1 < (y434.length : Int)) = false := decide_eq_false c16
    clear c16
    replace H := Option.bind_eq_some_iff.mp H
    obtain ⟨⟨t456, t457⟩, A370, H⟩ := H
    replace H : ((minecontrolref08_Command.f k1 t426 t427 a4 a5).bind fun bt460 => (if t457 = bt460.2 then ((minecontrolref01_Ints.f k1 t456 bt460.1).bind fun t464 => (if t464 = true then ((minecontrollaw08_awake.f k1).bind fun t465 => (some t465)) else (some false))) else (some false))) = some r := H
    have A37 := Aside0.mk A370
    clear A370
    replace H := Option.bind_eq_some_iff.mp H
    obtain ⟨⟨t460, t461⟩, A380, H⟩ := H
    replace H : (if t457 = t461 then ((minecontrolref01_Ints.f k1 t456 t460).bind fun t464 => (if t464 = true then ((minecontrollaw08_awake.f k1).bind fun t465 => (some t465)) else (some false))) else (some false)) = some r := H
    have A38 := Aside0.mk A380
    clear A380
    by_cases c39 : t457 = t461
    ·
     rw [if_pos c39] at H
     have c39b0 : (t457 == t461) = true := beq_iff_eq.mpr c39
     have c39b1 : (t457 != t461) = false := bne_eq_false_iff_eq.mpr c39
     clear c39
     replace H := Option.bind_eq_some_iff.mp H
     obtain ⟨t464, A400, H⟩ := H
     replace H : (if t464 = true then ((minecontrollaw08_awake.f k1).bind fun t465 => (some t465)) else (some false)) = some r := H
     have A40 := Aside0.mk A400
     clear A400
     by_cases c41 : t464 = true
     ·
      subst c41
      have H1 : ((minecontrollaw08_awake.f k1).bind fun t465 => (some t465)) = some r := by rw [if_pos rfl] at H; exact H
      clear H
      have H := H1
      clear H1
      replace H := Option.bind_eq_some_iff.mp H
      obtain ⟨t465, A420, H⟩ := H
      replace H : (some t465) = some r := H
      have A42 := Aside0.mk A420
      clear A420
      obtain rfl := Option.some.inj H
      go_wp2_with (first | ((with_reducible refine gate_callee (f := 18) rfl ?_); refine goesL_ (some 112) rfl rfl Try.func18 (by kernel_rfl) rfl #[.slice Ao11 t426.length co11, .slice Ao12 t427.length co12, .int .i64 a4, .int .i64 a5] rfl (by (try simp only [List.map_toArray, List.map_cons, List.map_nil]); first | done | rfl | (simp only [List.length_drop, List.length_take]; rfl)) ?_; (with_reducible refine (door_Command.calls k1 _ _ t426 _ _ t427 a4 a5 t456 t457 _ ?side1 ?side2 ?side3 ?side4 A37.out).mono ?_); (case side1 => repeat (first | exact (Kd.N_reads' HO_13.out).2.2 | (with_reducible refine Kd.C_alloc ?_ _) | (with_reducible refine Kd.C_drewN ?_ _) | (with_reducible refine Kd.C_drew ?_))); (case side2 => exact (Kd.N_reads' HO_13.out).2.1); (case side3 => repeat (first | exact (Kd.Q_reads' HO_14.out).2.2 | (with_reducible refine Kd.C_alloc ?_ _) | (with_reducible refine Kd.C_drewN ?_ _) | (with_reducible refine Kd.C_drew ?_))); (case side4 => exact (Kd.Q_reads' HO_14.out).2.1); rintro e w43 ⟨v458, rfl, ho0, hb⟩; refine ⟨_, rfl, ?_⟩; have n0_ := Aside0.mk (Kd.N_elder' (by (with_reducible repeat (first | apply Kd.N_alloc | apply Kd.N_drewN | apply Kd.N_drew)); exact HO_13.out) (Kd.R_base ho0) hb); have n1_ := Aside0.mk (Kd.Q_elder' (by (with_reducible repeat (first | apply Kd.Q_alloc | apply Kd.Q_drewN | apply Kd.Q_drew)); exact HO_14.out) (Kd.R_base ho0) hb); have n2_ := Aside0.mk (Kd.N_elder' (by (with_reducible repeat (first | apply Kd.N_alloc | apply Kd.N_drewN | apply Kd.N_drew)); exact HO_48.out) (Kd.R_base ho0) hb); have n3_ := Aside0.mk (Kd.R_lower (Kd.R_new' (Kd.R_newM (M := fun k_ => (w.heap.size ≤ k_)) ho0 (below_size (by repeat (first | (with_reducible first | exact HB.out | apply below_alloc | apply pw_below_drewN | apply below_drew1) | exact HB.out))) (fun k_ h_ => h_)) (Kd.Q_lt (by (with_reducible repeat (first | apply Kd.Q_alloc | apply Kd.Q_drewN | apply Kd.Q_drew)); exact HO_14.out))) (below_size (by repeat (first | (with_reducible first | exact HB.out | apply below_alloc | apply pw_below_drewN | apply below_drew1) | exact HB.out)))); have n4_ := Aside0.mk (below_step (by repeat (first | (with_reducible first | exact HB.out | apply below_alloc | apply pw_below_drewN | apply below_drew1) | exact HB.out)) hb); clear HO_13; clear HO_14; clear HO_48; clear HB; have HO_13 := n0_; have HO_14 := n1_; have HO_48 := n2_; have HO459 := n3_; have HB := n4_; clear n0_ n1_ n2_ n3_ n4_; (try clear hb); (try clear hb2); (try clear hge); (try clear hk); (try clear hi); (try clear ho0)) | ((with_reducible refine gate_callee (f := 19) rfl ?_); refine goesL_ (some 120) rfl rfl Try.func19 (by kernel_rfl) rfl #[.slice Ao11 t426.length co11, .slice Ao12 t427.length co12, .int .i64 a4, .int .i64 a5] rfl (by (try simp only [List.map_toArray, List.map_cons, List.map_nil]); first | done | rfl | (simp only [List.length_drop, List.length_take]; rfl)) ?_; (with_reducible refine (minecontrolref08_Command.calls k1 _ _ t426 _ _ t427 a4 a5 t460 t461 _ ?side1 ?side2 ?side3 ?side4 A38.out).mono ?_); (case side1 => repeat (first | exact (Kd.N_reads' HO_13.out).2.2 | (with_reducible refine Kd.C_alloc ?_ _) | (with_reducible refine Kd.C_drewN ?_ _) | (with_reducible refine Kd.C_drew ?_))); (case side2 => exact (Kd.N_reads' HO_13.out).2.1); (case side3 => repeat (first | exact (Kd.Q_reads' HO_14.out).2.2 | (with_reducible refine Kd.C_alloc ?_ _) | (with_reducible refine Kd.C_drewN ?_ _) | (with_reducible refine Kd.C_drew ?_))); (case side4 => exact (Kd.Q_reads' HO_14.out).2.1); rintro e w44 ⟨v462, rfl, ho0, hb⟩; refine ⟨_, rfl, ?_⟩; have n0_ := Aside0.mk (Kd.N_elder' (by (with_reducible repeat (first | apply Kd.N_alloc | apply Kd.N_drewN | apply Kd.N_drew)); exact HO_13.out) (Kd.R_base ho0) hb); have n1_ := Aside0.mk (Kd.Q_elder' (by (with_reducible repeat (first | apply Kd.Q_alloc | apply Kd.Q_drewN | apply Kd.Q_drew)); exact HO_14.out) (Kd.R_base ho0) hb); have n2_ := Aside0.mk (Kd.N_elder' (by (with_reducible repeat (first | apply Kd.N_alloc | apply Kd.N_drewN | apply Kd.N_drew)); exact HO_48.out) (Kd.R_base ho0) hb); have n3_ := Aside0.mk (Kd.R_elder' (by (with_reducible repeat (first | apply Kd.R_alloc | apply Kd.R_drewN | apply Kd.R_drew)); exact HO459.out) (Kd.R_base ho0) hb); have n4_ := Aside0.mk (Kd.R_lower (Kd.R_new' (Kd.R_new' (Kd.R_newM (M := fun k_ => (w.heap.size ≤ k_)) ho0 (below_size (by repeat (first | (with_reducible first | exact HB.out | apply below_alloc | apply pw_below_drewN | apply below_drew1) | exact HB.out))) (fun k_ h_ => h_)) (Kd.Q_lt (by (with_reducible repeat (first | apply Kd.Q_alloc | apply Kd.Q_drewN | apply Kd.Q_drew)); exact HO_14.out))) (Kd.R_lt (by (with_reducible repeat (first | apply Kd.R_alloc | apply Kd.R_drewN | apply Kd.R_drew)); exact HO459.out))) (below_size (by repeat (first | (with_reducible first | exact HB.out | apply below_alloc | apply pw_below_drewN | apply below_drew1) | exact HB.out)))); have n5_ := Aside0.mk (below_step (by repeat (first | (with_reducible first | exact HB.out | apply below_alloc | apply pw_below_drewN | apply below_drew1) | exact HB.out)) hb); clear HO_13; clear HO_14; clear HO_48; clear HO459; clear HB; have HO_13 := n0_; have HO_14 := n1_; have HO_48 := n2_; have HO459 := n3_; have HO463 := n4_; have HB := n5_; clear n0_ n1_ n2_ n3_ n4_ n5_; (try clear hb); (try clear hb2); (try clear hge); (try clear hk); (try clear hi); (try clear ho0); obtain ⟨Ao45, co45, eo45⟩ := Kd.R_slice HO459.out; subst eo45; obtain ⟨Ao46, co46, eo46⟩ := Kd.R_slice HO463.out; subst eo46) | (go_at_call 15; (with_reducible refine (minecontrolref01_Ints.calls k1 _ _ t456 _ _ t460 true _ ?side1 ?side2 ?side3 ?side4 A40.out).mono ?_); (case side1 => repeat (first | exact (Kd.R_reads' HO459.out).2.2 | (with_reducible refine Kd.C_alloc ?_ _) | (with_reducible refine Kd.C_drewN ?_ _) | (with_reducible refine Kd.C_drew ?_))); (case side2 => exact (Kd.R_reads' HO459.out).2.1); (case side3 => repeat (first | exact (Kd.R_reads' HO463.out).2.2 | (with_reducible refine Kd.C_alloc ?_ _) | (with_reducible refine Kd.C_drewN ?_ _) | (with_reducible refine Kd.C_drew ?_))); (case side4 => exact (Kd.R_reads' HO463.out).2.1); rintro e w' ⟨rfl, ⟨nd, rfl⟩⟩) | (go_at_call 8; (with_reducible refine (minecontrollaw08_awake.calls k1  t465 _ A42.out).mono ?_); rintro e w47 ⟨rfl, hb⟩; have n0_ := Aside0.mk (Kd.N_below (by (with_reducible repeat (first | apply Kd.N_alloc | apply Kd.N_drewN | apply Kd.N_drew)); exact HO_13.out) hb); have n1_ := Aside0.mk (Kd.Q_below (by (with_reducible repeat (first | apply Kd.Q_alloc | apply Kd.Q_drewN | apply Kd.Q_drew)); exact HO_14.out) hb); have n2_ := Aside0.mk (Kd.N_below (by (with_reducible repeat (first | apply Kd.N_alloc | apply Kd.N_drewN | apply Kd.N_drew)); exact HO_48.out) hb); have n3_ := Aside0.mk (Kd.R_below (by (with_reducible repeat (first | apply Kd.R_alloc | apply Kd.R_drewN | apply Kd.R_drew)); exact HO459.out) hb); have n4_ := Aside0.mk (Kd.R_below (by (with_reducible repeat (first | apply Kd.R_alloc | apply Kd.R_drewN | apply Kd.R_drew)); exact HO463.out) hb); have n5_ := Aside0.mk (below_step (by repeat (first | (with_reducible first | exact HB.out | apply below_alloc | apply pw_below_drewN | apply below_drew1) | exact HB.out)) hb); clear HO_13; clear HO_14; clear HO_48; clear HO459; clear HO463; clear HB; have HO_13 := n0_; have HO_14 := n1_; have HO_48 := n2_; have HO459 := n3_; have HO463 := n4_; have HB := n5_; clear n0_ n1_ n2_ n3_ n4_ n5_; (try clear hb); (try clear hb2); (try clear hge); (try clear hk); (try clear hi)))
      go_ret
      exact ⟨by first | rfl | (simp [errW_none, errW_some] <;> rfl) | (simp [*, errW_none, errW_some] <;> rfl), by repeat (first | (with_reducible first | exact HB.out | apply below_alloc | apply pw_below_drewN | apply below_drew1) | exact HB.out)⟩
     ·
      replace c41 := Bool.eq_false_iff.mpr c41
      subst c41
      have H1 : (some false) = some r := by rw [if_neg (show ¬ (false = true) by decide)] at H; exact H
      clear H
      have H := H1
      clear H1
      obtain rfl := Option.some.inj H
      exact absurd hr_.out (by decide)
    ·
     rw [if_neg c39] at H
     have c39b0 : (t457 == t461) = false := beq_eq_false_iff_ne.mpr c39
     have c39b1 : (t457 != t461) = true := bne_iff_ne.mpr c39
     obtain rfl := Option.some.inj H
     exact absurd hr_.out (by decide)

/-- THE ONE PURE STATEMENT of minecontrollaw08_DoorCommands: yours. -/
def minecontrollaw08_DoorCommands.Pure : Prop := ∀ (l0 : List Int) (l1 : List Int) (a2 : Int) (a3 : Int) (a4 : Int) (a5 : Int), l0.length ≤ maxLen → l0.length * 1 ≤ 140737488351232 → (∀ x ∈ l0, (Lit.int .u8 x).wf = true) → l1.length ≤ maxLen → l1.length * 8 ≤ 140737488351232 → (∀ x ∈ l1, (Lit.int .i64 x).wf = true) → (Lit.int .i64 a2).wf = true → (Lit.int .i64 a3).wf = true → (Lit.int .i64 a4).wf = true → (Lit.int .i64 a5).wf = true → ∃ k, minecontrollaw08_DoorCommands.f k l0 l1 a2 a3 a4 a5 = some true
theorem minecontrollaw08_DoorCommands.walk (P : minecontrollaw08_DoorCommands.Pure) (a0 : Option Addr) (len0 cap0 : Nat) (z0 : List Int) (a1 : Option Addr) (len1 cap1 : Nat) (z1 : List Int) (a2 : Int) (a3 : Int) (a4 : Int) (a5 : Int) (w : World) (w0 : (a0 = none ∧ len0 = 0 ∧ cap0 = 0 ∧ z0 = []) ∨ ∃ x, a0 = some x ∧ len0 ≤ cap0 ∧ cap0 ≤ maxLen ∧ z0.length = cap0 ∧ (∀ i, i < z0.length → w.cell? (x.add i) = some (.int .u8 (z0.getD i 0))) ∧ ∀ n ∈ z0, (Lit.int .u8 n).wf = true) (y0 : len0 * 1 ≤ 140737488351232) (w1 : (a1 = none ∧ len1 = 0 ∧ cap1 = 0 ∧ z1 = []) ∨ ∃ x, a1 = some x ∧ len1 ≤ cap1 ∧ cap1 ≤ maxLen ∧ z1.length = cap1 ∧ (∀ i, i < z1.length → w.cell? (x.add i) = some (.int .i64 (z1.getD i 0))) ∧ ∀ n ∈ z1, (Lit.int .i64 n).wf = true) (y1 : len1 * 8 ≤ 140737488351232) (w2 : (Lit.int .i64 a2).wf = true) (w3 : (Lit.int .i64 a3).wf = true) (w4 : (Lit.int .i64 a4).wf = true) (w5 : (Lit.int .i64 a5).wf = true) :
  Calls Try.prog 7 #[.slice a0 len0 cap0, .slice a1 len1 cap1, .int .i64 a2, .int .i64 a3, .int .i64 a4, .int .i64 a5] w fun e w' => e = .returned (.bool true) ∧ Below w.heap.size w w' := by
 obtain ⟨l0, rfl, hr0, hm0, hw0, hc0⟩ := ReadsInt.ofRowC w0
 obtain ⟨l1, rfl, hr1, hm1, hw1, hc1⟩ := ReadsInt.ofRowC w1
 obtain ⟨k, h⟩ := P l0 l1 a2 a3 a4 a5 hm0 y0 hw0 hm1 y1 hw1 w2 w3 w4 w5
 refine (minecontrollaw08_DoorCommands.calls1 k _ _ l0 (fun k_ => k_ < w.heap.size) _ _ l1 a2 a3 a4 a5 true w (Kd.C_of_reads (d := (0 : Int)) (h1 := fun _ => rfl) hr0) hc0 (Kd.V_mk hc1 (Kd.C_F (Kd.heap_int .i64) (Kd.C_of_reads (d := (0 : Int)) (h1 := fun _ => rfl) hr1))) (.mk rfl) h).mono ?_
 rintro e w' ⟨rfl, hd⟩
 exact ⟨rfl, hd⟩

end Go.Proofs.Ytmlkchkhgjebgaa.PDoo
