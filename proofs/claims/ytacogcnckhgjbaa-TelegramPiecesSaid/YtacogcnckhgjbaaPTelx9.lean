/- Functions of the given program as Lean functions, and proofs that its calls come to what these say. Written by a program of this seat (wip/mkprint.py); Lean checks it all. -/
import Derived.Test.YtacogcnckhgjbaaPTelx0
import Derived.Test.YtacogcnckhgjbaaPTelx2
import Derived.Test.YtacogcnckhgjbaaPTelx3
import Derived.Test.YtacogcnckhgjbaaPTelx6
namespace Go.Proofs.Ytacogcnckhgjbaa.PTel
open Go.RowKit Go.Proofs.YtacogcnckhgjbaaW.PrintWords Go.Proofs.YtacogcnckhgjbaaW.PrintLast Go.Proofs.YtacogcnckhgjbaaW.PrintMore
attribute [local go_sem] max2_int min2_int max_two min_two max_three min_three max_four min_four   -- for this text's walks alone
set_option linter.unusedVariables false
set_option linter.unusedSimpArgs false

/-! ### minecontrollaw04_TelegramPieces: function 5 -/
def minecontrollaw04_TelegramPieces.l0 : Nat → List Int → List Int → List (S24) → List (S24) → Int → List Int → Int → List Int → Int → Option (Bool)
  | 0, _, _, _, _, _, _, _, _, _ => none
  | k + 1, x1, x5, x7, x9, x10, x443000, x443001, x444000, x444001 => if (x5.length : Int) > 0 then (if x10 < (x1.length : Int) then (if x10 < 100 then (if 0 ≤ x10 then (if 0 ≤ (mn (x5.length : Int) (wrap64 (1 + (Int.tmod (wrap64 (rd x1 x10)) 9)))) then (if (mn (x5.length : Int) (wrap64 (1 + (Int.tmod (wrap64 (rd x1 x10)) 9)))) ≤ (x5.length : Int) then ((telegram_Feed.f k x444000 x444001 (x5.take ((mn (x5.length : Int) (wrap64 (1 + (Int.tmod (wrap64 (rd x1 x10)) 9)))) : Int).toNat)).bind fun bt449 => (if x9.length + bt449.2.2.length < 3518437208883 then (minecontrollaw04_TelegramPieces.l0 k x1 (x5.drop ((mn (x5.length : Int) (wrap64 (1 + (Int.tmod (wrap64 (rd x1 x10)) 9)))) : Int).toNat) x7 (x9 ++ bt449.2.2) (wrap64 (x10 + 1)) x443000 x443001 bt449.1 bt449.2.1) else (none))) else (none)) else (none)) else (none)) else (if 0 ≤ (x5.length : Int) then (if (x5.length : Int) ≤ (x5.length : Int) then ((telegram_Feed.f k x444000 x444001 (x5.take ((x5.length : Int) : Int).toNat)).bind fun bt466 => (if x9.length + bt466.2.2.length < 3518437208883 then (minecontrollaw04_TelegramPieces.l0 k x1 (x5.drop ((x5.length : Int) : Int).toNat) x7 (x9 ++ bt466.2.2) (wrap64 (x10 + 1)) x443000 x443001 bt466.1 bt466.2.1) else (none))) else (none)) else (none))) else (if 0 ≤ (x5.length : Int) then (if (x5.length : Int) ≤ (x5.length : Int) then ((telegram_Feed.f k x444000 x444001 (x5.take ((x5.length : Int) : Int).toNat)).bind fun bt483 => (if x9.length + bt483.2.2.length < 3518437208883 then (minecontrollaw04_TelegramPieces.l0 k x1 (x5.drop ((x5.length : Int) : Int).toNat) x7 (x9 ++ bt483.2.2) (wrap64 (x10 + 1)) x443000 x443001 bt483.1 bt483.2.1) else (none))) else (none)) else (none))) else (if (strOfNums x444000).toList = (strOfNums x443000).toList then (if x444001 = x443001 then ((minecontrolref04_Same.f k x9 x7).bind fun t496 => (if t496 = true then (if (x444000.length : Int) < 70 then ((minecontrollaw04_awake.f k).bind fun t497 => (some t497)) else (some false)) else (some false))) else (some false)) else (some false))
def minecontrollaw04_TelegramPieces.f (k : Nat) (l0 : List Int) (l1 : List Int) : Option (Bool) := (minecontroldraw_New.f l0).bind fun bt428 => ((minecontroldraw_Codes_Bytes.f k bt428.1 bt428.2 6).bind fun bt431 => ((telegram_Feed.f k ([] : List Int) 0 bt431.1).bind fun bt435 => (minecontrollaw04_TelegramPieces.l0 k l1 bt431.1 bt435.2.2 ([] : List (S24)) 0 bt435.1 bt435.2.1 ([] : List Int) 0)))
theorem minecontrollaw04_TelegramPieces.mono_l : ∀ k, (∀ y0 y1 y2 y3 y4 y5 y6 y7 y8, LeO (minecontrollaw04_TelegramPieces.l0 k y0 y1 y2 y3 y4 y5 y6 y7 y8) (minecontrollaw04_TelegramPieces.l0 (k + 1) y0 y1 y2 y3 y4 y5 y6 y7 y8))
  | 0 => fun _ _ _ _ _ _ _ _ _ r h => by simp [minecontrollaw04_TelegramPieces.l0] at h
  | k + 1 => by
    have ih0 := minecontrollaw04_TelegramPieces.mono_l k
    · intro y0 y1 y2 y3 y4 y5 y6 y7 y8
      unfold minecontrollaw04_TelegramPieces.l0
      repeat' first
      | (with_reducible exact ih0 _ _ _ _ _ _ _ _ _)
      | (with_reducible exact minecontroldraw_Codes_Bytes.mono _ _ _ _)
      | (with_reducible exact minecontrollaw04_awake.mono _)
      | (with_reducible exact minecontrolref04_Same.mono _ _ _)
      | (with_reducible exact telegram_Feed.mono _ _ _ _)
      | (with_reducible exact LeO.refl _)
      | (with_reducible exact LeO.none _)
      | (with_reducible refine LeO.ite ?_ ?_)
      | (with_reducible refine LeO.bind ?_ (fun _ => ?_))
      | exact ih0 _ _ _ _ _ _ _ _ _
      | exact minecontroldraw_Codes_Bytes.mono _ _ _ _
      | exact minecontrollaw04_awake.mono _
      | exact minecontrolref04_Same.mono _ _ _
      | exact telegram_Feed.mono _ _ _ _
      | exact LeO.none _
      | refine LeO.ite ?_ ?_
      | refine LeO.bind ?_ (fun _ => ?_)
theorem minecontrollaw04_TelegramPieces.mono : ∀ a0 a1 k, LeO (minecontrollaw04_TelegramPieces.f k a0 a1) (minecontrollaw04_TelegramPieces.f (k + 1) a0 a1) := by
  intro a0 a1 k
  have ih0 := minecontrollaw04_TelegramPieces.mono_l k
  unfold minecontrollaw04_TelegramPieces.f
  repeat' first
      | (with_reducible exact ih0 _ _ _ _ _ _ _ _ _)
      | (with_reducible exact minecontroldraw_Codes_Bytes.mono _ _ _ _)
      | (with_reducible exact minecontrollaw04_awake.mono _)
      | (with_reducible exact minecontrolref04_Same.mono _ _ _)
      | (with_reducible exact telegram_Feed.mono _ _ _ _)
      | (with_reducible exact LeO.refl _)
      | (with_reducible exact LeO.none _)
      | (with_reducible refine LeO.ite ?_ ?_)
      | (with_reducible refine LeO.bind ?_ (fun _ => ?_))
      | exact ih0 _ _ _ _ _ _ _ _ _
      | exact minecontroldraw_Codes_Bytes.mono _ _ _ _
      | exact minecontrollaw04_awake.mono _
      | exact minecontrolref04_Same.mono _ _ _
      | exact telegram_Feed.mono _ _ _ _
      | exact LeO.none _
      | refine LeO.ite ?_ ?_
      | refine LeO.bind ?_ (fun _ => ?_)
def minecontrollaw04_TelegramPieces.T12 : Bool × List (List Nat × List Nat) := (true, [([], []), ([], []), ([], []), ([1, 2], [1, 2]), ([0, 3], [0, 3]), ([4], [4]), ([5], [5]), ([5], [5]), ([6, 4, 0, 1, 2, 3, 4, 5, 6], [6]), ([7, 8, 0, 1, 2, 3, 4, 5, 6, 7, 8], [7])])
def minecontrollaw04_TelegramPieces.B12 : List Nat := [0, 0, 0, 6, 15, 31, 63, 63, 127, 511]
theorem minecontrollaw04_TelegramPieces.tab12 : rtab .any (opsOf Try.f5 12) = minecontrollaw04_TelegramPieces.T12 := by kernel_rfl
theorem minecontrollaw04_TelegramPieces.bits12 : waitsOk minecontrollaw04_TelegramPieces.T12.2 minecontrollaw04_TelegramPieces.B12 = true := by kernel_rfl
set_option maxHeartbeats 8000000 in
set_option maxRecDepth 100000 in
theorem minecontrollaw04_TelegramPieces.calls1 (k : Nat) (A0 : Option Addr) (c0 : Nat) (l0 : List Int) (A1 : Option Addr) (c1 : Nat) (l1 : List Int) (r : Bool) (w : World) (hr0 : Kd.C (Kd.int .u8) w A0 l0.length l0) (hc0 : l0.length ≤ c0) (hr1 : Kd.C (Kd.int .u8) w A1 l1.length l1) (hc1 : l1.length ≤ c1) (hr_ : Aside0 (r = true)) (h : minecontrollaw04_TelegramPieces.f k l0 l1 = some r) :
    Calls Try.prog 5 #[.slice A0 l0.length c0, .slice A1 l1.length c1] w fun e w' => e = .returned (.bool r) ∧ Below w.heap.size w w' := by
  have hu36 := Try.underlying36
  have HR0 := Aside0.mk hr0
  have HC0 := Aside0.mk hc0
  clear hr0 hc0
  have HR1 := Aside0.mk hr1
  have HC1 := Aside0.mk hc1
  clear hr1 hc1
  have HB := Aside0.mk (Below.refl w.heap.size w)
  have H : ((minecontroldraw_New.f l0).bind fun bt428 => ((minecontroldraw_Codes_Bytes.f k bt428.1 bt428.2 6).bind fun bt431 => ((telegram_Feed.f k ([] : List Int) 0 bt431.1).bind fun bt435 => (minecontrollaw04_TelegramPieces.l0 k l1 bt431.1 bt435.2.2 ([] : List (S24)) 0 bt435.1 bt435.2.1 ([] : List Int) 0)))) = some r := h
  clear h
  replace H := Option.bind_eq_some_iff.mp H
  obtain ⟨⟨t428, t429⟩, A30, H⟩ := H
  replace H : ((minecontroldraw_Codes_Bytes.f k t428 t429 6).bind fun bt431 => ((telegram_Feed.f k ([] : List Int) 0 bt431.1).bind fun bt435 => (minecontrollaw04_TelegramPieces.l0 k l1 bt431.1 bt435.2.2 ([] : List (S24)) 0 bt435.1 bt435.2.1 ([] : List Int) 0))) = some r := H
  have A3 := Aside0.mk A30
  clear A30
  replace H := Option.bind_eq_some_iff.mp H
  obtain ⟨⟨t431, t434⟩, A40, H⟩ := H
  replace H : ((telegram_Feed.f k ([] : List Int) 0 t431).bind fun bt435 => (minecontrollaw04_TelegramPieces.l0 k l1 t431 bt435.2.2 ([] : List (S24)) 0 bt435.1 bt435.2.1 ([] : List Int) 0)) = some r := H
  have A4 := Aside0.mk A40
  clear A40
  replace H := Option.bind_eq_some_iff.mp H
  obtain ⟨⟨t435, t438, t439⟩, A50, H⟩ := H
  replace H : (minecontrollaw04_TelegramPieces.l0 k l1 t431 t439 ([] : List (S24)) 0 t435 t438 ([] : List Int) 0) = some r := H
  have A5 := Aside0.mk A50
  clear A50
  have H' := Aside0.mk H
  clear H
  go_enter Try.func5, Try.ntmps5
  go_wp2_with (first | ((with_reducible refine gate_callee (f := 10) rfl ?_); refine goesL_ (some 14) rfl rfl Try.func10 (by kernel_rfl) rfl #[.slice A0 l0.length c0] rfl (by (try simp only [List.map_toArray, List.map_cons, List.map_nil]); first | done | rfl | (simp only [List.length_drop, List.length_take]; rfl)) ?_; (with_reducible refine (minecontroldraw_New.calls _ _ l0 t428 t429 w _ ?side1 ?side2 ?side3 A3.out).mono ?_); (case side1 => repeat (first | (with_reducible first | exact HB.out | apply below_alloc | apply pw_below_drewN | apply below_drew1) | exact HB.out)); (case side2 => exact HR0.out); (case side3 => exact HC0.out); rintro e w6 ⟨g430, rfl, hi, hb, hb2, hge⟩; refine ⟨_, rfl, ?_⟩; have n0_ := Aside0.mk (hb); have n1_ := Aside0.mk (hi); clear HB; have HB := n0_; have HI430 := n1_; clear n0_ n1_; (try clear hb); (try clear hb2); (try clear hge); (try clear hk); (try clear hi)) | ((with_reducible refine gate_callee (f := 16) rfl ?_); refine goesL_ (some 15) rfl rfl Try.func16 (by kernel_rfl) rfl #[.pointer (some ⟨g430, 0, none⟩), .int .i64 6] rfl (by (try simp only [List.map_toArray, List.map_cons, List.map_nil]); first | done | rfl | (simp only [List.length_drop, List.length_take]; rfl)) ?_; (with_reducible refine (minecontroldraw_Codes_Bytes.calls k g430 t428 t429 6 t431 t434 w _ ?side1 ?side2 A4.out).mono ?_); (case side1 => repeat (first | (with_reducible first | exact HI430.out | apply IsS48.alloc | apply IsS48.drewN | apply IsS48.drew | apply IsS48.set_1) | exact HI430.out)); (case side2 => repeat (first | (with_reducible first | exact HB.out | apply below_alloc | apply pw_below_drewN | apply below_drew1 | refine below_set ?_ (IsS48.ge HI430.out)) | exact HB.out)); rintro e w7 ⟨v432, rfl, ho0, hi, hb, hk⟩; refine ⟨_, rfl, ?_⟩; have n0_ := Aside0.mk (Kd.R_lower ho0 (below_size (by repeat (first | (with_reducible first | exact HB.out | apply below_alloc | apply pw_below_drewN | apply below_drew1 | refine below_set ?_ (IsS48.ge HI430.out)) | exact HB.out)))); have n1_ := Aside0.mk (hb); have n2_ := Aside0.mk (hi); clear HB; clear HI430; have HO433 := n0_; have HB := n1_; have HI430 := n2_; clear n0_ n1_ n2_; (try clear hb); (try clear hb2); (try clear hge); (try clear hk); (try clear hi); (try clear ho0); obtain ⟨Ao8, co8, eo8⟩ := Kd.R_slice HO433.out; subst eo8) | ((with_reducible refine gate_callee (f := 18) rfl ?_); refine goesL_ (some 19) rfl rfl Try.func18 (by kernel_rfl) rfl #[.agg #[.slice none 0 0, .int .i64 0], .slice Ao8 t431.length co8] rfl (by (try simp only [List.map_toArray, List.map_cons, List.map_nil]); first | done | rfl | (simp only [List.length_drop, List.length_take]; rfl)) ?_; (refine (telegram_Feed.calls k _ _ ([] : List Int) 0 _ _ t431 t435 t438 t439 _ ?side1 ?side2 ?side3 ?side4 A5.out).mono ?_); (case side1 => exact Kd.C_nil _ _); (case side2 => exact Nat.le_refl _); (case side3 => repeat (first | exact (Kd.R_reads' HO433.out).2.2 | (with_reducible refine Kd.C_alloc ?_ _) | (with_reducible refine Kd.C_drewN ?_ _) | (with_reducible refine Kd.C_drew ?_))); (case side4 => exact (Kd.R_reads' HO433.out).2.1); rintro e w9 ⟨v436, v440, rfl, ho0, ho1, hb⟩; refine ⟨_, rfl, ?_⟩; have n0_ := Aside0.mk (Kd.R_elder' (by (with_reducible repeat (first | apply Kd.R_alloc | apply Kd.R_drewN | apply Kd.R_drew)); exact HO433.out) (Kd.R_base ho0) hb); have n1_ := Aside0.mk (Kd.R_lower (Kd.R_new' ho0 (Kd.R_lt (by (with_reducible repeat (first | apply Kd.R_alloc | apply Kd.R_drewN | apply Kd.R_drew)); exact HO433.out))) (below_size (by repeat (first | (with_reducible first | exact HB.out | apply below_alloc | apply pw_below_drewN | apply below_drew1 | refine below_set ?_ (IsS48.ge HI430.out)) | exact HB.out)))); have n2_ := Aside0.mk (Kd.N_lower (Kd.N_mono (ok' := fun k_ => some k_ ≠ (v436 : Value).ownBlock ∧ some k_ ≠ (.slice Ao8 t431.length co8 : Value).ownBlock ∧ k_ ≠ g430) (Kd.S_N (Kd.S_bound ho1)) (fun k_ hk_ => ⟨hk_.1, (Kd.fresh' (Kd.R_lt (by (with_reducible repeat (first | apply Kd.R_alloc | apply Kd.R_drewN | apply Kd.R_drew)); exact HO433.out)) k_ hk_.2.1), (IsS48.fresh (by repeat (first | (with_reducible first | exact HI430.out | apply IsS48.alloc | apply IsS48.drewN | apply IsS48.drew | apply IsS48.set_1) | exact HI430.out)) k_ hk_.2.1)⟩)) (below_size (by repeat (first | (with_reducible first | exact HB.out | apply below_alloc | apply pw_below_drewN | apply below_drew1 | refine below_set ?_ (IsS48.ge HI430.out)) | exact HB.out)))); have n3_ := Aside0.mk (IsS48.below (by repeat (first | (with_reducible first | exact HI430.out | apply IsS48.alloc | apply IsS48.drewN | apply IsS48.drew | apply IsS48.set_1) | exact HI430.out)) hb); have n4_ := Aside0.mk (below_step (by repeat (first | (with_reducible first | exact HB.out | apply below_alloc | apply pw_below_drewN | apply below_drew1 | refine below_set ?_ (IsS48.ge HI430.out)) | exact HB.out)) hb); clear HO433; clear HI430; clear HB; have HO433 := n0_; have HO437 := n1_; have HO441 := n2_; have HI430 := n3_; have HB := n4_; clear n0_ n1_ n2_ n3_ n4_; (try clear hb); (try clear hb2); (try clear hge); (try clear hk); (try clear hi); (try clear ho0); (try clear ho1)) | ((with_reducible refine gate_dst (N := 6) rfl ?_); (try (refine gate_guard (by rfl) ?_; dsimp only)); refine box_event ?hg (N := 6) ?hd (cs := #[.slice none 0 0, .int .i64 0]) (t := 36) ?hr ?_; (case hd => rfl); (case hg => rfl); (case hr => first | (go_simp; done) | (go_simp; rfl)); intro gb442 hg w10 hbox hb; have n0_ := Aside0.mk (Kd.R_below (by (with_reducible repeat (first | apply Kd.R_alloc | apply Kd.R_drewN | apply Kd.R_drew)); exact HO433.out) hb); have n1_ := Aside0.mk (Kd.R_below (by (with_reducible repeat (first | apply Kd.R_alloc | apply Kd.R_drewN | apply Kd.R_drew)); exact HO437.out) hb); have n2_ := Aside0.mk (Kd.N_below (Kd.N_elderB (by (with_reducible repeat (first | apply Kd.N_alloc | apply Kd.N_drewN | apply Kd.N_drew)); exact HO441.out) gb442 (Nat.le_of_eq hg.symm)) hb); have n3_ := Aside0.mk (IsS48.below (by repeat (first | (with_reducible first | exact HI430.out | apply IsS48.alloc | apply IsS48.drewN | apply IsS48.drew | apply IsS48.set_1) | exact HI430.out)) hb); have n4_ := Aside0.mk (below_step (by repeat (first | (with_reducible first | exact HB.out | apply below_alloc | apply pw_below_drewN | apply below_drew1 | refine below_set ?_ (IsS48.ge HI430.out)) | exact HB.out)) hb); have n5_ := Aside0.mk (hbox); have n6_ := Aside0.mk ((by rw [hg]; exact (below_size (by repeat (first | (with_reducible first | exact HB.out | apply below_alloc | apply pw_below_drewN | apply below_drew1 | refine below_set ?_ (IsS48.ge HI430.out)) | exact HB.out))) : w.heap.size ≤ gb442)); have n7_ := Aside0.mk ((by rw [hg]; exact (below_size (by repeat (first | (with_reducible first | exact HB.out | apply below_alloc | apply pw_below_drewN | apply below_drew1 | refine below_set ?_ (IsS48.ge HI430.out)) | exact HB.out))) : w.heap.size ≤ gb442)); have n8_ := Aside0.mk ((by rw [hg]; exact Nat.ne_of_lt (IsS48.lt (show IsS48 w _ g430 t428 t434 from by repeat (first | (with_reducible first | exact HI430.out | apply IsS48.alloc | apply IsS48.drewN | apply IsS48.drew | apply IsS48.set_1) | exact HI430.out))) : g430 ≠ gb442)); have n9_ := Aside0.mk ((by rw [hg]; exact Nat.ne_of_gt (IsS48.lt (show IsS48 w _ g430 t428 t434 from by repeat (first | (with_reducible first | exact HI430.out | apply IsS48.alloc | apply IsS48.drewN | apply IsS48.drew | apply IsS48.set_1) | exact HI430.out))) : gb442 ≠ g430)); clear HO433; clear HO437; clear HO441; clear HI430; clear HB; have HO433 := n0_; have HO437 := n1_; have HO441 := n2_; have HI430 := n3_; have HB := n4_; have BK442 := n5_; have GW442 := n6_; have GE442 := n7_; have NB430_442 := n8_; have NB442_430 := n9_; clear n0_ n1_ n2_ n3_ n4_ n5_ n6_ n7_ n8_ n9_; clear hb hbox hg; obtain ⟨Ao11, co11, eo11⟩ := Kd.R_slice HO437.out; subst eo11; have hnb12 := NB442_430.out; have hnc12 := NB430_442.out; have hcz13_0 : w10.cell? ⟨gb442, 0, none⟩ = some (.slice none 0 0) := (blk_cell BK442.out 0).trans rfl; have hcz13_1 : w10.cell? ⟨gb442, 1, none⟩ = some (.int .i64 0) := (blk_cell BK442.out 1).trans rfl; have hfz13_0 := blk_frozen BK442.out 0; have hfz13_1 := blk_frozen BK442.out 1) | ((with_reducible refine gate_dst (N := 8) rfl ?_); (try (refine gate_guard (by rfl) ?_; dsimp only)); refine box_event ?hg (N := 8) ?hd (cs := #[.slice none 0 0, .int .i64 0]) (t := 36) ?hr ?_; (case hd => rfl); (case hg => rfl); (case hr => first | (go_simp; done) | (go_simp; rfl)); intro gb443 hg w14 hbox hb; have n0_ := Aside0.mk (Kd.R_below (by (with_reducible repeat (first | apply Kd.R_alloc | apply Kd.R_drewN | apply Kd.R_drew)); exact (Kd.R_mono (Kd.R_far (p := ⟨gb442, 1, none⟩) (Kd.R_far (p := ⟨gb442, 0, none⟩) (Kd.R_types HO433.out BK442.out (by decide)) (fun _ hk => hk.2) (.slice Ao11 t435.length co11)) (fun _ hk => hk.2) (.int .i64 t438)) (fun _ h_ => h_.1))) hb); have n1_ := Aside0.mk (Kd.R_below (by (with_reducible repeat (first | apply Kd.R_alloc | apply Kd.R_drewN | apply Kd.R_drew)); exact (Kd.R_mono (Kd.R_far (p := ⟨gb442, 1, none⟩) (Kd.R_far (p := ⟨gb442, 0, none⟩) (Kd.R_types HO437.out BK442.out (by decide)) (fun _ hk => hk.2) (.slice Ao11 t435.length co11)) (fun _ hk => hk.2) (.int .i64 t438)) (fun _ h_ => h_.1))) hb); have n2_ := Aside0.mk (Kd.N_below (Kd.N_elderB (by (with_reducible repeat (first | apply Kd.N_alloc | apply Kd.N_drewN | apply Kd.N_drew)); exact (Kd.N_mono (Kd.N_far (p := ⟨gb442, 1, none⟩) (Kd.N_far (p := ⟨gb442, 0, none⟩) (Kd.N_mono HO441.out (fun k_ hk => (⟨hk, hk.2⟩ : _ ∧ k_ ≠ gb442))) (fun _ hk => hk.2) (.slice Ao11 t435.length co11)) (fun _ hk => hk.2) (.int .i64 t438)) (fun _ h_ => h_.1))) gb443 (Nat.le_of_eq hg.symm)) hb); have n3_ := Aside0.mk (IsS48.below (show IsS48 w _ g430 t428 t434 from by repeat (first | (with_reducible first | exact HI430.out | apply IsS48.alloc | apply IsS48.drewN | apply IsS48.drew | apply IsS48.set_1 | refine IsS48.far ?_ NB430_442.out _) | exact HI430.out)) hb); have n4_ := Aside0.mk (blk_below (g := gb442) (o := .cells #[.slice Ao11 t435.length co11, .int .i64 t438] 36 (0, 0)) (by (with_reducible repeat (first | refine blk_drewN ?_ _ | refine blk_drew ?_ | refine blk_alloc ?_ _)); refine blk_put (cs := #[.slice Ao11 t435.length co11, .int .i64 0]) ?_ 1 _ rfl; (with_reducible repeat (first | refine blk_drewN ?_ _ | refine blk_drew ?_ | refine blk_alloc ?_ _)); refine blk_put (cs := #[.slice none 0 0, .int .i64 0]) ?_ 0 _ rfl; (with_reducible repeat (first | refine blk_drewN ?_ _ | refine blk_drew ?_ | refine blk_alloc ?_ _)); exact BK442.out) hb); have n5_ := Aside0.mk (below_step (by repeat (first | (with_reducible first | exact HB.out | apply below_alloc | apply pw_below_drewN | apply below_drew1 | refine below_set ?_ (IsS48.ge HI430.out) | refine below_set ?_ GE442.out) | exact HB.out)) hb); have n6_ := Aside0.mk (hbox); have n7_ := Aside0.mk ((by rw [hg]; exact (below_size (by repeat (first | (with_reducible first | exact HB.out | apply below_alloc | apply pw_below_drewN | apply below_drew1 | refine below_set ?_ (IsS48.ge HI430.out) | refine below_set ?_ GE442.out) | exact HB.out))) : w.heap.size ≤ gb443)); have n8_ := Aside0.mk ((by rw [hg]; exact (below_size (by repeat (first | (with_reducible first | exact HB.out | apply below_alloc | apply pw_below_drewN | apply below_drew1 | refine below_set ?_ (IsS48.ge HI430.out) | refine below_set ?_ GE442.out) | exact HB.out))) : w.heap.size ≤ gb443)); have n9_ := Aside0.mk ((by rw [hg]; exact Nat.ne_of_lt (blk_lt (g := gb442) (o := .cells #[.slice Ao11 t435.length co11, .int .i64 t438] 36 (0, 0)) (by (with_reducible repeat (first | refine blk_drewN ?_ _ | refine blk_drew ?_ | refine blk_alloc ?_ _)); refine blk_put (cs := #[.slice Ao11 t435.length co11, .int .i64 0]) ?_ 1 _ rfl; (with_reducible repeat (first | refine blk_drewN ?_ _ | refine blk_drew ?_ | refine blk_alloc ?_ _)); refine blk_put (cs := #[.slice none 0 0, .int .i64 0]) ?_ 0 _ rfl; (with_reducible repeat (first | refine blk_drewN ?_ _ | refine blk_drew ?_ | refine blk_alloc ?_ _)); exact BK442.out)) : gb442 ≠ gb443)); have n10_ := Aside0.mk ((by rw [hg]; exact Nat.ne_of_gt (blk_lt (g := gb442) (o := .cells #[.slice Ao11 t435.length co11, .int .i64 t438] 36 (0, 0)) (by (with_reducible repeat (first | refine blk_drewN ?_ _ | refine blk_drew ?_ | refine blk_alloc ?_ _)); refine blk_put (cs := #[.slice Ao11 t435.length co11, .int .i64 0]) ?_ 1 _ rfl; (with_reducible repeat (first | refine blk_drewN ?_ _ | refine blk_drew ?_ | refine blk_alloc ?_ _)); refine blk_put (cs := #[.slice none 0 0, .int .i64 0]) ?_ 0 _ rfl; (with_reducible repeat (first | refine blk_drewN ?_ _ | refine blk_drew ?_ | refine blk_alloc ?_ _)); exact BK442.out)) : gb443 ≠ gb442)); have n11_ := Aside0.mk ((by rw [hg]; exact Nat.ne_of_lt (IsS48.lt (show IsS48 w _ g430 t428 t434 from by repeat (first | (with_reducible first | exact HI430.out | apply IsS48.alloc | apply IsS48.drewN | apply IsS48.drew | apply IsS48.set_1 | refine IsS48.far ?_ NB430_442.out _) | exact HI430.out))) : g430 ≠ gb443)); have n12_ := Aside0.mk ((by rw [hg]; exact Nat.ne_of_gt (IsS48.lt (show IsS48 w _ g430 t428 t434 from by repeat (first | (with_reducible first | exact HI430.out | apply IsS48.alloc | apply IsS48.drewN | apply IsS48.drew | apply IsS48.set_1 | refine IsS48.far ?_ NB430_442.out _) | exact HI430.out))) : gb443 ≠ g430)); clear HO433; clear HO437; clear HO441; clear HI430; clear BK442; clear HB; have HO433 := n0_; have HO437 := n1_; have HO441 := n2_; have HI430 := n3_; have BK442 := n4_; have HB := n5_; have BK443 := n6_; have GW443 := n7_; have GE443 := n8_; have NB442_443 := n9_; have NB443_442 := n10_; have NB430_443 := n11_; have NB443_430 := n12_; clear n0_ n1_ n2_ n3_ n4_ n5_ n6_ n7_ n8_ n9_ n10_ n11_ n12_; clear hb hbox hg))
  go_loopg [5, 9, 10] k (fun kq v5 v9 v10 w' => ∃ (x5_1 : List Int) (x9_1 : List (S24)) (x10_1 : Int) (x444000_1 : List Int) (x444001_1 : Int) (u444000 : Value), v10 = .int .i64 x10_1 ∧ Aside0 (minecontrollaw04_TelegramPieces.l0 kq l1 x5_1 t439 x9_1 x10_1 t435 t438 x444000_1 x444001_1 = some r) ∧ Aside0 (kq ≤ k) ∧ Aside0 (Kd.Q (Kd.int .u8) 5 w' w.heap.size (fun k_ => some k_ ≠ ((.slice Ao11 t435.length co11) : Value).ownBlock ∧ some k_ ≠ (u444000 : Value).ownBlock) v5 x5_1) ∧ Aside0 (Kd.N k24 24 w' w.heap.size (fun k_ => some k_ ≠ (v5 : Value).ownBlock ∧ some k_ ≠ (v9 : Value).ownBlock ∧ some k_ ≠ ((.slice Ao11 t435.length co11) : Value).ownBlock ∧ some k_ ≠ (u444000 : Value).ownBlock ∧ k_ ≠ gb442 ∧ k_ ≠ gb443) v440 t439) ∧ Aside0 (Kd.N k24 24 w' w.heap.size (fun k_ => some k_ ≠ (v5 : Value).ownBlock ∧ some k_ ≠ (v440 : Value).ownBlock ∧ some k_ ≠ ((.slice Ao11 t435.length co11) : Value).ownBlock ∧ some k_ ≠ (u444000 : Value).ownBlock ∧ k_ ≠ gb442 ∧ k_ ≠ gb443) v9 x9_1) ∧ Aside0 (Kd.R (Kd.int .u8) 5 w' w.heap.size (fun k_ => some k_ ≠ (v5 : Value).ownBlock ∧ some k_ ≠ (u444000 : Value).ownBlock) (.slice Ao11 t435.length co11) t435) ∧ Aside0 (Kd.R (Kd.int .u8) 5 w' w.heap.size (fun k_ => some k_ ≠ (v5 : Value).ownBlock ∧ some k_ ≠ ((.slice Ao11 t435.length co11) : Value).ownBlock) u444000 x444000_1) ∧ Aside0 (w'.heap[gb442]? = some (.cells #[(.slice Ao11 t435.length co11), .int .i64 t438] 36 (0, 0))) ∧ Aside0 (w'.heap[gb443]? = some (.cells #[u444000, .int .i64 x444001_1] 36 (0, 0))) ∧ Aside0 (Below w.heap.size w w'))
  case atStart => exact ⟨(t431), (([] : List (S24))), (0), (([] : List Int)), (0), (.slice none 0 0), (by first | rfl | (simp; done) | (simp [*]; done)), H', ⟨Nat.le_refl _⟩, ⟨Kd.Q_of_R (by (with_reducible repeat (first | apply Kd.R_alloc | apply Kd.R_drewN | apply Kd.R_drew)); exact Kd.R_mono HO433.out (fun _ hk => ⟨hk.2, (by simp [Value.ownBlock])⟩))⟩, ⟨by (with_reducible repeat (first | apply Kd.N_alloc | apply Kd.N_drewN | apply Kd.N_drew)); exact Kd.N_mono HO441.out (fun _ hk => ⟨hk.1.1.2.1, ⟨(by simp [Value.ownBlock]), ⟨hk.1.1.1, ⟨(by simp [Value.ownBlock]), ⟨hk.1.2, hk.2⟩⟩⟩⟩⟩)⟩, ⟨by first | exact Kd.S_nil _ _ _ _ _ | exact Kd.N_nil _ _ _ _ _ | exact Kd.V_nil _ _ _ _ _ | exact Kd.Q_nil _ _ _ _ _ | exact Kd.R_nil _ _ _ _ _⟩, ⟨by (with_reducible repeat (first | apply Kd.R_alloc | apply Kd.R_drewN | apply Kd.R_drew)); exact Kd.R_mono HO437.out (fun _ hk => ⟨hk.2, (by simp [Value.ownBlock])⟩)⟩, ⟨by first | exact Kd.R_nil _ _ _ _ _ | exact Kd.N_nil _ _ _ _ _ | exact Kd.V_nil _ _ _ _ _ | exact Kd.Q_nil _ _ _ _ _ | exact Kd.S_nil _ _ _ _ _⟩, ⟨by (with_reducible repeat (first | refine blk_drewN ?_ _ | refine blk_drew ?_ | refine blk_alloc ?_ _)); exact BK442.out⟩, ⟨by (with_reducible repeat (first | refine blk_drewN ?_ _ | refine blk_drew ?_ | refine blk_alloc ?_ _)); exact BK443.out⟩, ⟨by repeat (first | (with_reducible first | exact HB.out | apply below_alloc | apply pw_below_drewN | apply below_drew1 | refine below_set ?_ (IsS48.ge HI430.out) | refine below_set ?_ GE442.out | refine below_set ?_ GE443.out) | exact HB.out)⟩⟩
  case round =>
    clear H'
    try clear c1
    try clear p2
    try clear c5
    try clear c10
    try clear c12
    try clear hcz13_0
    try clear hcz13_1
    try clear hfz13_0
    try clear hfz13_1
    obtain ⟨x5_1, x9_1, x10_1, x444000_1, x444001_1, u444000, rfl, HA, HK1, HO_5, HO_7, HO_9, HO_443000, HO_444000, BK442, BK443, HB⟩ := hrel
    cases gk with
    | zero => exact absurd HA.out (by simp [minecontrollaw04_TelegramPieces.l0])
    | succ k1 =>
      have H := HA.out
      clear HA
      simp only [minecontrollaw04_TelegramPieces.l0] at H
      by_cases c15 : (x5_1.length : Int) > 0
      · rw [if_pos c15] at H
        have c15b0 : decide (0 < (x5_1.length : Int)) = true := decide_eq_true c15
        have c15b1 : decide (0 < x5_1.length) = true := decide_eq_true (by omega)
        clear c15
        by_cases c16 : x10_1 < (l1.length : Int)
        · rw [if_pos c16] at H
          have c16b0 : decide (x10_1 < (l1.length : Int)) = true := decide_eq_true c16
          clear c16
          by_cases c17 : x10_1 < 100
          · rw [if_pos c17] at H
            have c17b0 : decide (x10_1 < 100) = true := decide_eq_true c17
            clear c17
            by_cases c18 : 0 ≤ x10_1
            · rw [if_pos c18] at H
              have c18b0 : decide (0 ≤ x10_1) = true := decide_eq_true c18
              clear c18
              obtain ⟨ji19, hji19⟩ : ∃ j_ : Int, (mn (x5_1.length : Int) (wrap64 (1 + (Int.tmod (wrap64 (rd l1 x10_1)) 9)))) = j_ := ⟨_, rfl⟩
              replace H : (if 0 ≤ (ji19) then (if (ji19) ≤ (x5_1.length : Int) then ((telegram_Feed.f k1 x444000_1 x444001_1 (x5_1.take ((ji19) : Int).toNat)).bind fun bt449 => (if x9_1.length + bt449.2.2.length < 3518437208883 then (minecontrollaw04_TelegramPieces.l0 k1 l1 (x5_1.drop ((ji19) : Int).toNat) t439 (x9_1 ++ bt449.2.2) (wrap64 (x10_1 + 1)) t435 t438 bt449.1 bt449.2.1) else (none))) else (none)) else (none)) = some r := by first | (rw [hji19] at H; exact H) | (simp only [hji19] at H ⊢; exact H)
              have hji19_ : (if (wrap64 (1 + (Int.tmod (wrap64 (rd l1 x10_1)) 9))) < (x5_1.length : Int) then (wrap64 (1 + (Int.tmod (wrap64 (rd l1 x10_1)) 9))) else (x5_1.length : Int)) = ji19 := hji19
              by_cases c20 : 0 ≤ (ji19)
              · rw [if_pos c20] at H
                have c20b0 := eq_true c20
                have c20b1 : decide (0 ≤ (ji19)) = true := decide_eq_true c20
                clear c20
                by_cases c21 : (ji19) ≤ (x5_1.length : Int)
                · rw [if_pos c21] at H
                  have c21b0 := eq_true c21
                  have c21b1 : decide ((ji19) ≤ (x5_1.length : Int)) = true := decide_eq_true c21
                  clear c21
                  obtain ⟨y445, hy445⟩ : ∃ y_ : List Int, y_ = (x5_1.take ((ji19) : Int).toNat) := ⟨_, rfl⟩
                  replace H : ((telegram_Feed.f k1 x444000_1 x444001_1 y445).bind fun bt449 => (if x9_1.length + bt449.2.2.length < 3518437208883 then (minecontrollaw04_TelegramPieces.l0 k1 l1 (x5_1.drop ((ji19) : Int).toNat) t439 (x9_1 ++ bt449.2.2) (wrap64 (x10_1 + 1)) t435 t438 bt449.1 bt449.2.1) else (none))) = some r := by first | (rw [hy445]; with_reducible exact H) | (have H2_ := (Option.bind_some _ _).symm.trans H; rw [hy445]; with_reducible exact H2_) | (have H2_ := (Option.bind_some _ _).symm.trans H; with_reducible exact H2_) | with_reducible exact H | (rw [hy445]; exact H) | exact H
                  have Ny445 := Aside0.mk hy445
                  clear hy445
                  replace H := Option.bind_eq_some_iff.mp H
                  obtain ⟨⟨t449, t452, t453⟩, A220, H⟩ := H
                  replace H : (if x9_1.length + t453.length < 3518437208883 then (minecontrollaw04_TelegramPieces.l0 k1 l1 (x5_1.drop ((ji19) : Int).toNat) t439 (x9_1 ++ t453) (wrap64 (x10_1 + 1)) t435 t438 t449 t452) else (none)) = some r := H
                  have A22 := Aside0.mk A220
                  clear A220
                  by_cases c23 : x9_1.length + t453.length < 3518437208883
                  · rw [if_pos c23] at H
                    have LMc23 := Aside0.mk c23
                    clear c23
                    obtain ⟨y456, hy456⟩ : ∃ y_ : List (S24), y_ = (x9_1 ++ t453) := ⟨_, rfl⟩
                    replace H : (minecontrollaw04_TelegramPieces.l0 k1 l1 (x5_1.drop ((ji19) : Int).toNat) t439 y456 (wrap64 (x10_1 + 1)) t435 t438 t449 t452) = some r := by first | (rw [hy456]; with_reducible exact H) | (have H2_ := (Option.bind_some _ _).symm.trans H; rw [hy456]; with_reducible exact H2_) | (have H2_ := (Option.bind_some _ _).symm.trans H; with_reducible exact H2_) | with_reducible exact H | (rw [hy456]; exact H) | exact H
                    have Ny456 := Aside0.mk hy456
                    clear hy456
                    have c24b0 := eq_true (of_decide_eq_true (by first | (with_reducible assumption) | assumption) : (ji19) ≤ (x5_1.length : Int))
                    obtain ⟨y459, hy459⟩ : ∃ y_ : List Int, y_ = (x5_1.drop ((ji19) : Int).toNat) := ⟨_, rfl⟩
                    replace H : (minecontrollaw04_TelegramPieces.l0 k1 l1 y459 t439 y456 (wrap64 (x10_1 + 1)) t435 t438 t449 t452) = some r := by first | (rw [hy459]; with_reducible exact H) | (have H2_ := (Option.bind_some _ _).symm.trans H; rw [hy459]; with_reducible exact H2_) | (have H2_ := (Option.bind_some _ _).symm.trans H; with_reducible exact H2_) | with_reducible exact H | (rw [hy459]; exact H) | exact H
                    have Ny459 := Aside0.mk hy459
                    clear hy459
                    have H' := Aside0.mk H
                    clear H
                    obtain ⟨Ao25, co25, eo25, _⟩ := Kd.Q_slice HO_5.out
                    subst eo25
                    have p444 : 0 ≤ (x10_1 : Int) := of_decide_eq_true (by first | (with_reducible assumption) | assumption)
                    have q444 : x10_1 < (l1.length : Int) := of_decide_eq_true (by first | (with_reducible assumption) | assumption)
                    obtain ⟨ad444, e444, hx444_0⟩ := Kd.at_int HR1.out x10_1 p444 q444
                    cases e444
                    replace hx444_0 := (HB.out.cell (World.block_lt_of_cell? w _ hx444_0)).trans hx444_0
                    replace p444 := eq_true p444
                    replace q444 := eq_true q444
                    try go_wp2
                    have n0_ := Aside0.mk (Kd.Q_drew HO_5.out)
                    have n1_ := Aside0.mk (Kd.N_drew HO_7.out)
                    have n2_ := Aside0.mk (Kd.N_drew HO_9.out)
                    have n3_ := Aside0.mk (Kd.R_drew HO_443000.out)
                    have n4_ := Aside0.mk (Kd.R_drew HO_444000.out)
                    have n5_ := Aside0.mk (blk_drew BK442.out)
                    have n6_ := Aside0.mk (blk_drew BK443.out)
                    have n7_ := Aside0.mk (below_drew1 HB.out)
                    clear HO_5
                    clear HO_7
                    clear HO_9
                    clear HO_443000
                    clear HO_444000
                    clear BK442
                    clear BK443
                    clear HB
                    have HO_5 := n0_
                    have HO_7 := n1_
                    have HO_9 := n2_
                    have HO_443000 := n3_
                    have HO_444000 := n4_
                    have BK442 := n5_
                    have BK443 := n6_
                    have HB := n7_
                    clear n0_ n1_ n2_ n3_ n4_ n5_ n6_ n7_
                    have q27 : ((ji19) : Int) ≤ ((x5_1.length : Int) : Int) := of_decide_eq_true (by first | (with_reducible assumption) | assumption)
                    obtain ⟨i027, hi027, _, hsz27, _⟩ := info_parts info5
                    have hroom27 : x5_1.length ≤ co25 := (Kd.Q_reads' HO_5.out).2.1
                    have hC27 : Kd.C (Kd.int .u8) _ Ao25 x5_1.length x5_1 := (Kd.Q_reads' HO_5.out).2.2
                    have hcut27 := cut_to (P := Try.prog) 22 5 .i64 Try.underlying22 hi027 Ao25 x5_1.length co25 (ji19) (of_decide_eq_true (by first | (with_reducible assumption) | assumption)) q27 hroom27
                    have hr27 := Kd.C_take (m := ((ji19) : Int).toNat) hC27 (by omega)
                    have hy27 : y445.length = ((ji19) : Int).toNat := (by rw [Ny445.out, List.length_take]; omega)
                    rw [← Ny445.out] at hr27
                    rw [← hy27] at hcut27
                    have HR448 := Aside0.mk hr27
                    have HC448 := Aside0.mk (show y445.length ≤ co25 from by omega)
                    clear hr27 hC27 hroom27 hi027 hsz27
                    have KY27 := Aside0.mk hy27
                    clear hy27
                    have KL27 := Aside0.mk (show ((ji19) : Int).toNat ≤ x5_1.length from by omega)
                    replace q27 := eq_true q27
                    obtain ⟨Ao28, co28, eo28⟩ := Kd.R_slice HO_444000.out
                    (first | subst eo28 | (injection eo28 with f1_ f2_ f3_; have f4_ := f1_.symm; have f5_ := f3_.symm; clear f1_ f2_ f3_; subst f4_; subst f5_))
                    refine start_ (n := 10) (S := fun w' => w'.cell? ⟨gb443, 0, none⟩ = some (.slice Ao28 x444000_1.length co28) ∧ w'.cell? ⟨gb443, 1, none⟩ = some (.int .i64 x444001_1)) (ds := [8]) #[false, false, false, false, false, false, false, false, false, false] (by kernel_rfl) rfl rfl ⟨(blk_cell BK443.out 0).trans rfl, (blk_cell BK443.out 1).trans rfl⟩ (fun hHeld => ?_); refine with_tabW minecontrollaw04_TelegramPieces.tab12 minecontrollaw04_TelegramPieces.bits12 (fun HT_ HW_ => ?_)
                    generalize wr.drew = w26 at HO_5 HO_7 HO_9 HO_443000 HO_444000 BK442 BK443 HB HR448 hHeld ⊢
                    refine pure_ (i := 1) (N := some 48) (v := ?_) (a' := ?_) #[false, true, false, false, false, false, false, false, false, false] rfl rfl (any_of HT_.out (by kernel_rfl)) (fun _ _ _ h => h) (Or.inl ⟨by rfl, ?_⟩) ?_ ?_
                    rotate_left
                    · intro w'
                      go_simp
                      with_reducible rfl
                    rotate_left
                    · simp only [Act.put, List.setIfInBounds_toArray, List.set_cons_zero, List.set_cons_succ, i64_w, i32_w]
                      rfl
                    refine pure_ (i := 2) (N := some 49) (v := ?_) (a' := ?_) #[false, true, true, false, false, false, false, false, false, false] rfl rfl (any_of HT_.out (by kernel_rfl)) (fun _ _ _ h => h) (Or.inl ⟨by rfl, ?_⟩) ?_ ?_
                    rotate_left
                    · intro w'
                      go_simp
                      with_reducible rfl
                    rotate_left
                    · simp only [Act.put, List.setIfInBounds_toArray, List.set_cons_zero, List.set_cons_succ, i64_w, i32_w]
                      rfl
                    refine pure_ (i := 3) (N := some 50) (v := ?_) (a' := ?_) #[false, true, true, true, false, false, false, false, false, false] rfl rfl (any_of HT_.out (by kernel_rfl)) (fun _ _ _ h => h) (Or.inl ⟨by rfl, ?_⟩) ?_ ?_
                    rotate_left
                    · intro w'
                      go_simp
                      with_reducible rfl
                    rotate_left
                    · simp only [Act.put, List.setIfInBounds_toArray, List.set_cons_zero, List.set_cons_succ, i64_w, i32_w]
                      rfl
                    refine take_ (i := 0) (N := some 47) (v := ?_) (a' := ?_) #[true, true, true, true, false, false, false, false, false, false] rfl rfl (take_ofW HT_.out HW_.out (by kernel_rfl)) (fun _ _ _ h => h) (Or.inl ⟨by rfl, ?_⟩) hHeld ?_ ?_
                    rotate_left
                    · rintro w' ⟨s0, s1⟩
                      go_simp
                      with_reducible rfl
                    rotate_left
                    · simp only [Act.put, List.setIfInBounds_toArray, List.set_cons_zero, List.set_cons_succ, i64_w, i32_w]
                      rfl
                    refine one_ (i := 4) (N := some 51) #[true, true, true, true, true, false, false, false, false, false] rfl rfl (one_of HT_.out (by kernel_rfl)) (by decide) (fun K hK => ?_)
                    refine goes_ Try.func18 (by kernel_rfl) rfl #[.agg #[.slice Ao28 x444000_1.length co28, .int .i64 x444001_1], .slice Ao25 y445.length co25] (by rfl) rfl rfl (by (try simp only [List.map_toArray, List.map_cons, List.map_nil]); first | done | rfl | (simp only [List.length_drop, List.length_take]; rfl)) ?_
                    with_reducible refine (telegram_Feed.calls k1 _ _ x444000_1 x444001_1 _ _ y445 t449 t452 t453 _ ?side1 ?side2 ?side3 ?side4 A22.out).mono ?_
                    (case side1 => repeat (first | exact (Kd.R_reads' HO_444000.out).2.2 | (with_reducible refine Kd.C_alloc ?_ _) | (with_reducible refine Kd.C_drewN ?_ _) | (with_reducible refine Kd.C_drew ?_)))
                    (case side2 => exact (Kd.R_reads' HO_444000.out).2.1)
                    (case side3 => repeat (first | exact (by repeat (first | (with_reducible exact HR448.out) | (with_reducible refine Kd.C_alloc ?_ _) | (with_reducible refine Kd.C_drewN ?_ _) | (with_reducible refine Kd.C_drew ?_) | exact HR448.out)) | (with_reducible refine Kd.C_alloc ?_ _) | (with_reducible refine Kd.C_drewN ?_ _) | (with_reducible refine Kd.C_drew ?_)))
                    (case side4 => exact HC448.out)
                    rintro e w29 ⟨v450, v454, rfl, ho0, ho1, hb⟩
                    refine ⟨_, rfl, ?_⟩
                    have n0_ := Aside0.mk (Kd.Q_elder' (by (with_reducible repeat (first | apply Kd.Q_alloc | apply Kd.Q_drewN | apply Kd.Q_drew)); exact HO_5.out) (Kd.R_base ho0) hb)
                    have n1_ := Aside0.mk (Kd.N_mono (Kd.N_told (Kd.N_told (Kd.N_old (by (with_reducible repeat (first | apply Kd.N_alloc | apply Kd.N_drewN | apply Kd.N_drew)); exact HO_7.out) hb) (Kd.R_base ho0)) (Kd.S_base ho1)) (fun _ h_ => h_.1))
                    have n2_ := Aside0.mk (Kd.N_mono (Kd.N_told (Kd.N_told (Kd.N_old (by (with_reducible repeat (first | apply Kd.N_alloc | apply Kd.N_drewN | apply Kd.N_drew)); exact HO_9.out) hb) (Kd.R_base ho0)) (Kd.S_base ho1)) (fun _ h_ => h_.1))
                    have n3_ := Aside0.mk (Kd.R_elder' (by (with_reducible repeat (first | apply Kd.R_alloc | apply Kd.R_drewN | apply Kd.R_drew)); exact HO_443000.out) (Kd.R_base ho0) hb)
                    have n4_ := Aside0.mk (Kd.R_elder' (by (with_reducible repeat (first | apply Kd.R_alloc | apply Kd.R_drewN | apply Kd.R_drew)); exact HO_444000.out) (Kd.R_base ho0) hb)
                    have n5_ := Aside0.mk (Kd.R_lower (Kd.R_new' (Kd.R_new' (Kd.R_new' ho0 (Kd.Q_lt (by (with_reducible repeat (first | apply Kd.Q_alloc | apply Kd.Q_drewN | apply Kd.Q_drew)); exact HO_5.out))) (Kd.R_lt (by (with_reducible repeat (first | apply Kd.R_alloc | apply Kd.R_drewN | apply Kd.R_drew)); exact HO_443000.out))) (Kd.R_lt (by (with_reducible repeat (first | apply Kd.R_alloc | apply Kd.R_drewN | apply Kd.R_drew)); exact HO_444000.out))) (below_size (by repeat (first | (with_reducible first | exact HB.out | apply below_alloc | apply pw_below_drewN | apply below_drew1 | refine below_set ?_ GE442.out | refine below_set ?_ GE443.out) | exact HB.out))))
                    have n6_ := Aside0.mk (Kd.N_lower (Kd.N_mono (ok' := fun k_ => some k_ ≠ (v450 : Value).ownBlock ∧ some k_ ≠ (.slice Ao25 x5_1.length co25 : Value).ownBlock ∧ some k_ ≠ (v440 : Value).ownBlock ∧ some k_ ≠ (u9 : Value).ownBlock ∧ some k_ ≠ (.slice Ao11 t435.length co11 : Value).ownBlock ∧ some k_ ≠ (.slice Ao28 x444000_1.length co28 : Value).ownBlock ∧ k_ ≠ gb442 ∧ k_ ≠ gb443) (Kd.S_N (Kd.S_bound ho1)) (fun k_ hk_ => ⟨hk_.1, (Kd.fresh' (Kd.Q_lt (by (with_reducible repeat (first | apply Kd.Q_alloc | apply Kd.Q_drewN | apply Kd.Q_drew)); exact HO_5.out)) k_ hk_.2.1), (Kd.fresh' (Kd.N_lt (by (with_reducible repeat (first | apply Kd.N_alloc | apply Kd.N_drewN | apply Kd.N_drew)); exact HO_7.out)) k_ hk_.2.1), (Kd.fresh' (Kd.N_lt (by (with_reducible repeat (first | apply Kd.N_alloc | apply Kd.N_drewN | apply Kd.N_drew)); exact HO_9.out)) k_ hk_.2.1), (Kd.fresh' (Kd.R_lt (by (with_reducible repeat (first | apply Kd.R_alloc | apply Kd.R_drewN | apply Kd.R_drew)); exact HO_443000.out)) k_ hk_.2.1), (Kd.fresh' (Kd.R_lt (by (with_reducible repeat (first | apply Kd.R_alloc | apply Kd.R_drewN | apply Kd.R_drew)); exact HO_444000.out)) k_ hk_.2.1), (Kd.freshB (g := gb442) (o := .cells #[.slice Ao11 t435.length co11, .int .i64 t438] 36 (0, 0)) (by (with_reducible repeat (first | refine blk_drewN ?_ _ | refine blk_drew ?_ | refine blk_alloc ?_ _)); exact BK442.out) k_ hk_.2.1), (Kd.freshB (g := gb443) (o := .cells #[.slice Ao28 x444000_1.length co28, .int .i64 x444001_1] 36 (0, 0)) (by (with_reducible repeat (first | refine blk_drewN ?_ _ | refine blk_drew ?_ | refine blk_alloc ?_ _)); exact BK443.out) k_ hk_.2.1)⟩)) (below_size (by repeat (first | (with_reducible first | exact HB.out | apply below_alloc | apply pw_below_drewN | apply below_drew1 | refine below_set ?_ GE442.out | refine below_set ?_ GE443.out) | exact HB.out))))
                    have n7_ := Aside0.mk (blk_below (g := gb442) (o := .cells #[.slice Ao11 t435.length co11, .int .i64 t438] 36 (0, 0)) (by (with_reducible repeat (first | refine blk_drewN ?_ _ | refine blk_drew ?_ | refine blk_alloc ?_ _)); exact BK442.out) hb)
                    have n8_ := Aside0.mk (blk_below (g := gb443) (o := .cells #[.slice Ao28 x444000_1.length co28, .int .i64 x444001_1] 36 (0, 0)) (by (with_reducible repeat (first | refine blk_drewN ?_ _ | refine blk_drew ?_ | refine blk_alloc ?_ _)); exact BK443.out) hb)
                    have n9_ := Aside0.mk (Kd.C_below (by repeat (first | (with_reducible exact HR448.out) | (with_reducible refine Kd.C_alloc ?_ _) | (with_reducible refine Kd.C_drewN ?_ _) | (with_reducible refine Kd.C_drew ?_) | exact HR448.out)) hb)
                    have n10_ := Aside0.mk (below_step (by repeat (first | (with_reducible first | exact HB.out | apply below_alloc | apply pw_below_drewN | apply below_drew1 | refine below_set ?_ GE442.out | refine below_set ?_ GE443.out) | exact HB.out)) hb)
                    clear HO_5
                    clear HO_7
                    clear HO_9
                    clear HO_443000
                    clear HO_444000
                    clear BK442
                    clear BK443
                    clear HR448
                    clear HB
                    have HO_5 := n0_
                    have HO_7 := n1_
                    have HO_9 := n2_
                    have HO_443000 := n3_
                    have HO_444000 := n4_
                    have HO451 := n5_
                    have HO455 := n6_
                    have BK442 := n7_
                    have BK443 := n8_
                    have HR448 := n9_
                    have HB := n10_
                    clear n0_ n1_ n2_ n3_ n4_ n5_ n6_ n7_ n8_ n9_ n10_
                    (try clear hb)
                    (try clear hb2)
                    (try clear hge)
                    (try clear hk)
                    (try clear hi)
                    (try clear ho0)
                    (try clear ho1)
                    obtain ⟨Ao30, co30, eo30⟩ := Kd.R_slice HO451.out
                    (first | subst eo30 | (injection eo30 with f1_ f2_ f3_; have f4_ := f1_.symm; have f5_ := f3_.symm; clear f1_ f2_ f3_; subst f4_; subst f5_))
                    refine hK.out _ _ ⟨(blk_cell BK443.out 0).trans rfl, (blk_cell BK443.out 1).trans rfl⟩ (fun hHeld => ?_)
                    clear hK K
                    refine norm_ (a' := ?_) ?_ ?_
                    rotate_left
                    · show Act.put _ (some 51) _ = _
                      simp only [Act.put, List.setIfInBounds_toArray, List.set_cons_zero, List.set_cons_succ, i64_w, i32_w]
                      rfl
                    refine pure_ (i := 5) (N := some 46) (v := ?_) (a' := ?_) #[true, true, true, true, true, true, false, false, false, false] rfl rfl (any_of HT_.out (by kernel_rfl)) (fun _ _ _ h => h) (Or.inl ⟨by rfl, ?_⟩) ?_ ?_
                    rotate_left
                    · intro w'
                      go_simp
                      with_reducible rfl
                    rotate_left
                    · simp only [Act.put, List.setIfInBounds_toArray, List.set_cons_zero, List.set_cons_succ, i64_w, i32_w]
                      rfl
                    refine pure_ (i := 6) (N := some 52) (v := ?_) (a' := ?_) #[true, true, true, true, true, true, true, false, false, false] rfl rfl (any_of HT_.out (by kernel_rfl)) (fun _ _ _ h => h) (Or.inl ⟨by rfl, ?_⟩) ?_ ?_
                    rotate_left
                    · intro w'
                      go_simp
                      with_reducible rfl
                    rotate_left
                    · simp only [Act.put, List.setIfInBounds_toArray, List.set_cons_zero, List.set_cons_succ, i64_w, i32_w]
                      rfl
                    refine pure_ (i := 7) (N := some 53) (v := ?_) (a' := ?_) #[true, true, true, true, true, true, true, true, false, false] rfl rfl (any_of HT_.out (by kernel_rfl)) (fun _ _ _ h => h) (Or.inl ⟨by rfl, ?_⟩) ?_ ?_
                    rotate_left
                    · intro w'
                      go_simp
                      with_reducible rfl
                    rotate_left
                    · simp only [Act.put, List.setIfInBounds_toArray, List.set_cons_zero, List.set_cons_succ, i64_w, i32_w]
                      rfl
                    refine last_ (i := 8) (N := none) #[true, true, true, true, true, true, true, true, true, false] rfl rfl (one_of HT_.out (by kernel_rfl)) (by decide) (fun K hK => ?_)
                    have hs31 : w29.cell? ⟨gb443, 0, none⟩ = some (.slice Ao28 x444000_1.length co28) := (blk_cell BK443.out 0).trans rfl
                    have hfs31 := blk_frozen BK443.out 0
                    have hns31_0 := NB442_443.out
                    have hms31_0 := NB443_442.out
                    have hs32 : w29.cell? ⟨gb443, 1, none⟩ = some (.int .i64 x444001_1) := (blk_cell BK443.out 1).trans rfl
                    have hfs32 := blk_frozen BK443.out 1
                    have hns32_0 := NB442_443.out
                    have hms32_0 := NB443_442.out
                    refine skip_ (w1 := ?_) (by rfl) rfl ?_ ?_
                    rotate_left
                    · go_simp
                      rfl
                    refine hK.out _ _ ?_
                    clear hK K
                    refine pure_ (i := 9) (N := some 12) (v := ?_) (a' := ?_) #[true, true, true, true, true, true, true, true, true, true] rfl rfl (any_of HT_.out (by kernel_rfl)) (fun _ _ _ h => h) (Or.inl ⟨by rfl, ?_⟩) ?_ ?_
                    rotate_left
                    · intro w'
                      go_simp
                      with_reducible rfl
                    rotate_left
                    · simp only [Act.put, List.setIfInBounds_toArray, List.set_cons_zero, List.set_cons_succ, i64_w, i32_w]
                      rfl
                    refine done_ (done_of HT_.out (by kernel_rfl)) ?_
                    obtain ⟨Ao34, co34, eo34⟩ := Kd.N_slice HO455.out
                    subst eo34
                    try go_wp2_with (first | ((with_reducible refine gate_builtin (b := .append) (xs := #[.tmp 54, .tmp 55]) rfl ?_); (try (refine gate_guard (by rfl) ?_; dsimp only)); at_builtin; refine Kd.N_append_rows k24 (w0 := w) w.heap.size rfl (.tmp 54) (.tmp 55) 29 24 (.agg #[(.int .i64 0), (.int .i64 0), (.slice none 0 0)]) 40 rfl Try.underlying29 info24 rfl (by decide) (by omega) u9 x9_1 t453 _ _ _ (fun k_ => some k_ ≠ (.slice Ao25 x5_1.length co25 : Value).ownBlock ∧ some k_ ≠ (v440 : Value).ownBlock ∧ some k_ ≠ (.slice Ao11 t435.length co11 : Value).ownBlock ∧ some k_ ≠ (.slice Ao28 x444000_1.length co28 : Value).ownBlock ∧ some k_ ≠ (.slice Ao30 t449.length co30 : Value).ownBlock ∧ k_ ≠ gb442 ∧ k_ ≠ gb443) (fun k_ => ((fun k_ => some k_ ≠ (.slice Ao25 x5_1.length co25 : Value).ownBlock ∧ some k_ ≠ (v440 : Value).ownBlock ∧ some k_ ≠ (.slice Ao11 t435.length co11 : Value).ownBlock ∧ some k_ ≠ (.slice Ao28 x444000_1.length co28 : Value).ownBlock ∧ some k_ ≠ (.slice Ao30 t449.length co30 : Value).ownBlock ∧ k_ ≠ gb442 ∧ k_ ≠ gb443)) k_ ∧ some k_ ≠ (u9 : Value).ownBlock) rfl rfl ?aO ?aR (fun _ hk => hk) ?aF ?aB ?aS ?aL ?_; (case aR => exact (by skip; exact Kd.N_F (Kd.N_mono (ok' := (fun k_ => ((fun k_ => some k_ ≠ (.slice Ao25 x5_1.length co25 : Value).ownBlock ∧ some k_ ≠ (v440 : Value).ownBlock ∧ some k_ ≠ (.slice Ao11 t435.length co11 : Value).ownBlock ∧ some k_ ≠ (.slice Ao28 x444000_1.length co28 : Value).ownBlock ∧ some k_ ≠ (.slice Ao30 t449.length co30 : Value).ownBlock ∧ k_ ≠ gb442 ∧ k_ ≠ gb443)) k_ ∧ some k_ ≠ (u9 : Value).ownBlock)) ((Kd.N_far (p := ⟨gb443, 1, none⟩) (Kd.N_far (p := ⟨gb443, 0, none⟩) (Kd.N_mono HO455.out (fun k_ hk => (⟨hk, hk.2.2.2.2.2.2.2⟩ : _ ∧ k_ ≠ gb443))) (fun _ hk => hk.2) (.slice Ao30 t449.length co30)) (fun _ hk => hk.2) (.int .i64 t452))) (fun k_ hk => ⟨⟨hk.1.2.1, ⟨hk.1.2.2.1, ⟨hk.1.2.2.2.2.1, ⟨hk.1.2.2.2.2.2.1, ⟨hk.1.1, ⟨hk.1.2.2.2.2.2.2.1, hk.1.2.2.2.2.2.2.2⟩⟩⟩⟩⟩⟩, hk.1.2.2.2.1⟩)))); (case aB => exact (by repeat (first | (with_reducible first | exact HB.out | apply below_alloc | apply pw_below_drewN | apply below_drew1 | refine below_set ?_ GE442.out | refine below_set ?_ GE443.out) | exact HB.out))); (case aF => exact (fun k_ hk => ⟨Kd.fresh' (Kd.Q_lt (by (with_reducible repeat (first | apply Kd.Q_alloc | apply Kd.Q_drewN | apply Kd.Q_drew)); exact (Kd.Q_mono (Kd.Q_far (p := ⟨gb443, 1, none⟩) (Kd.Q_far (p := ⟨gb443, 0, none⟩) (Kd.Q_types HO_5.out BK443.out (by decide)) (fun _ hk => hk.2) (.slice Ao30 t449.length co30)) (fun _ hk => hk.2) (.int .i64 t452)) (fun _ h_ => h_.1)))) k_ hk, Kd.fresh' (Kd.N_lt (by (with_reducible repeat (first | apply Kd.N_alloc | apply Kd.N_drewN | apply Kd.N_drew)); exact (Kd.N_mono (Kd.N_far (p := ⟨gb443, 1, none⟩) (Kd.N_far (p := ⟨gb443, 0, none⟩) (Kd.N_mono HO_7.out (fun k_ hk => (⟨hk, hk.1.1.2.2.2.2.2⟩ : _ ∧ k_ ≠ gb443))) (fun _ hk => hk.2) (.slice Ao30 t449.length co30)) (fun _ hk => hk.2) (.int .i64 t452)) (fun _ h_ => h_.1)))) k_ hk, Kd.fresh' (Kd.R_lt (by (with_reducible repeat (first | apply Kd.R_alloc | apply Kd.R_drewN | apply Kd.R_drew)); exact (Kd.R_mono (Kd.R_far (p := ⟨gb443, 1, none⟩) (Kd.R_far (p := ⟨gb443, 0, none⟩) (Kd.R_types HO_443000.out BK443.out (by decide)) (fun _ hk => hk.2) (.slice Ao30 t449.length co30)) (fun _ hk => hk.2) (.int .i64 t452)) (fun _ h_ => h_.1)))) k_ hk, Kd.fresh' (Kd.R_lt (by (with_reducible repeat (first | apply Kd.R_alloc | apply Kd.R_drewN | apply Kd.R_drew)); exact (Kd.R_mono (Kd.R_far (p := ⟨gb443, 1, none⟩) (Kd.R_far (p := ⟨gb443, 0, none⟩) (Kd.R_types HO_444000.out BK443.out (by decide)) (fun _ hk => hk.2) (.slice Ao30 t449.length co30)) (fun _ hk => hk.2) (.int .i64 t452)) (fun _ h_ => h_.1)))) k_ hk, Kd.fresh' (Kd.R_lt (by (with_reducible repeat (first | apply Kd.R_alloc | apply Kd.R_drewN | apply Kd.R_drew)); exact (Kd.R_mono (Kd.R_far (p := ⟨gb443, 1, none⟩) (Kd.R_far (p := ⟨gb443, 0, none⟩) (Kd.R_types HO451.out BK443.out (by decide)) (fun _ hk => hk.2) (.slice Ao30 t449.length co30)) (fun _ hk => hk.2) (.int .i64 t452)) (fun _ h_ => h_.1)))) k_ hk, Kd.freshB (g := gb442) (o := .cells #[.slice Ao11 t435.length co11, .int .i64 t438] 36 (0, 0)) (by (with_reducible repeat (first | refine blk_drewN ?_ _ | refine blk_drew ?_ | refine blk_alloc ?_ _)); refine blk_far ?_ NB442_443.out _; (with_reducible repeat (first | refine blk_drewN ?_ _ | refine blk_drew ?_ | refine blk_alloc ?_ _)); refine blk_far ?_ NB442_443.out _; (with_reducible repeat (first | refine blk_drewN ?_ _ | refine blk_drew ?_ | refine blk_alloc ?_ _)); exact BK442.out) k_ hk, Kd.freshB (g := gb443) (o := .cells #[.slice Ao30 t449.length co30, .int .i64 t452] 36 (0, 0)) (by (with_reducible repeat (first | refine blk_drewN ?_ _ | refine blk_drew ?_ | refine blk_alloc ?_ _)); refine blk_put (cs := #[.slice Ao30 t449.length co30, .int .i64 x444001_1]) ?_ 1 _ rfl; (with_reducible repeat (first | refine blk_drewN ?_ _ | refine blk_drew ?_ | refine blk_alloc ?_ _)); refine blk_put (cs := #[.slice Ao28 x444000_1.length co28, .int .i64 x444001_1]) ?_ 0 _ rfl; (with_reducible repeat (first | refine blk_drewN ?_ _ | refine blk_drew ?_ | refine blk_alloc ?_ _)); exact BK443.out) k_ hk⟩)); (case aO => exact (by (with_reducible repeat (first | apply Kd.N_alloc | apply Kd.N_drewN | apply Kd.N_drew)); exact Kd.N_mono (Kd.N_far (p := ⟨gb443, 1, none⟩) (Kd.N_far (p := ⟨gb443, 0, none⟩) (Kd.N_mono HO_9.out (fun k_ hk => (⟨hk, hk.1.1.2.2.2.2.2⟩ : _ ∧ k_ ≠ gb443))) (fun _ hk => hk.2) (.slice Ao30 t449.length co30)) (fun _ hk => hk.2) (.int .i64 t452)) (fun _ hk => ⟨hk.1.1.1.1, ⟨hk.1.1.1.2.1, ⟨hk.1.1.1.2.2.1, ⟨hk.1.1.1.2.2.2.1, ⟨hk.1.1.2, ⟨hk.1.1.1.2.2.2.2.1, hk.1.1.1.2.2.2.2.2⟩⟩⟩⟩⟩⟩))); (case aS => exact (below_size (by repeat (first | (with_reducible first | exact HB.out | apply below_alloc | apply pw_below_drewN | apply below_drew1 | refine below_set ?_ GE442.out | refine below_set ?_ GE443.out) | exact HB.out)))); (case aL => have := LMc23.out; omega); intro v457 w33 ho hb hg hat; rw [← Ny456.out] at ho; have n0_ := Aside0.mk (Kd.Q_over' (by (with_reducible repeat (first | apply Kd.Q_alloc | apply Kd.Q_drewN | apply Kd.Q_drew)); exact (Kd.Q_mono (Kd.Q_far (p := ⟨gb443, 1, none⟩) (Kd.Q_far (p := ⟨gb443, 0, none⟩) (Kd.Q_types HO_5.out BK443.out (by decide)) (fun _ hk => hk.2) (.slice Ao30 t449.length co30)) (fun _ hk => hk.2) (.int .i64 t452)) (fun _ h_ => h_.1))) (Kd.N_typed (by (with_reducible repeat (first | apply Kd.N_alloc | apply Kd.N_drewN | apply Kd.N_drew)); exact (Kd.N_mono (Kd.N_far (p := ⟨gb443, 1, none⟩) (Kd.N_far (p := ⟨gb443, 0, none⟩) (Kd.N_mono HO_9.out (fun k_ hk => (⟨hk, hk.1.1.2.2.2.2.2⟩ : _ ∧ k_ ≠ gb443))) (fun _ hk => hk.2) (.slice Ao30 t449.length co30)) (fun _ hk => hk.2) (.int .i64 t452)) (fun _ h_ => h_.1)))) (by decide) hg); have n1_ := Aside0.mk (Kd.N_afterv (ok := (fun k_ => some k_ ≠ (.slice Ao25 x5_1.length co25 : Value).ownBlock ∧ some k_ ≠ (.slice Ao11 t435.length co11 : Value).ownBlock ∧ some k_ ≠ (.slice Ao28 x444000_1.length co28 : Value).ownBlock ∧ some k_ ≠ (.slice Ao30 t449.length co30 : Value).ownBlock ∧ some k_ ≠ (.slice Ao34 t453.length co34 : Value).ownBlock ∧ k_ ≠ gb442 ∧ k_ ≠ gb443)) (by (with_reducible repeat (first | apply Kd.N_alloc | apply Kd.N_drewN | apply Kd.N_drew)); exact Kd.N_mono (Kd.N_far (p := ⟨gb443, 1, none⟩) (Kd.N_far (p := ⟨gb443, 0, none⟩) (Kd.N_mono HO_7.out (fun k_ hk => (⟨hk, hk.1.1.2.2.2.2.2⟩ : _ ∧ k_ ≠ gb443))) (fun _ hk => hk.2) (.slice Ao30 t449.length co30)) (fun _ hk => hk.2) (.int .i64 t452)) (fun _ hk => ⟨⟨hk.1.1.1.1, ⟨hk.1.1.1.2.2.1, ⟨hk.1.1.1.2.2.2.1, ⟨hk.1.1.2, ⟨hk.1.2, ⟨hk.1.1.1.2.2.2.2.1, hk.1.1.1.2.2.2.2.2⟩⟩⟩⟩⟩⟩, hk.1.1.1.2.1⟩)) hg hat); have n2_ := Aside0.mk (Kd.R_over' (by (with_reducible repeat (first | apply Kd.R_alloc | apply Kd.R_drewN | apply Kd.R_drew)); exact (Kd.R_mono (Kd.R_far (p := ⟨gb443, 1, none⟩) (Kd.R_far (p := ⟨gb443, 0, none⟩) (Kd.R_types HO_443000.out BK443.out (by decide)) (fun _ hk => hk.2) (.slice Ao30 t449.length co30)) (fun _ hk => hk.2) (.int .i64 t452)) (fun _ h_ => h_.1))) (Kd.N_typed (by (with_reducible repeat (first | apply Kd.N_alloc | apply Kd.N_drewN | apply Kd.N_drew)); exact (Kd.N_mono (Kd.N_far (p := ⟨gb443, 1, none⟩) (Kd.N_far (p := ⟨gb443, 0, none⟩) (Kd.N_mono HO_9.out (fun k_ hk => (⟨hk, hk.1.1.2.2.2.2.2⟩ : _ ∧ k_ ≠ gb443))) (fun _ hk => hk.2) (.slice Ao30 t449.length co30)) (fun _ hk => hk.2) (.int .i64 t452)) (fun _ h_ => h_.1)))) (by decide) hg); have n3_ := Aside0.mk (Kd.R_over' (by (with_reducible repeat (first | apply Kd.R_alloc | apply Kd.R_drewN | apply Kd.R_drew)); exact (Kd.R_mono (Kd.R_far (p := ⟨gb443, 1, none⟩) (Kd.R_far (p := ⟨gb443, 0, none⟩) (Kd.R_types HO_444000.out BK443.out (by decide)) (fun _ hk => hk.2) (.slice Ao30 t449.length co30)) (fun _ hk => hk.2) (.int .i64 t452)) (fun _ h_ => h_.1))) (Kd.N_typed (by (with_reducible repeat (first | apply Kd.N_alloc | apply Kd.N_drewN | apply Kd.N_drew)); exact (Kd.N_mono (Kd.N_far (p := ⟨gb443, 1, none⟩) (Kd.N_far (p := ⟨gb443, 0, none⟩) (Kd.N_mono HO_9.out (fun k_ hk => (⟨hk, hk.1.1.2.2.2.2.2⟩ : _ ∧ k_ ≠ gb443))) (fun _ hk => hk.2) (.slice Ao30 t449.length co30)) (fun _ hk => hk.2) (.int .i64 t452)) (fun _ h_ => h_.1)))) (by decide) hg); have n4_ := Aside0.mk (blk_grown (g := gb442) (o := .cells #[.slice Ao11 t435.length co11, .int .i64 t438] 36 (0, 0)) (by (with_reducible repeat (first | refine blk_drewN ?_ _ | refine blk_drew ?_ | refine blk_alloc ?_ _)); refine blk_far ?_ NB442_443.out _; (with_reducible repeat (first | refine blk_drewN ?_ _ | refine blk_drew ?_ | refine blk_alloc ?_ _)); refine blk_far ?_ NB442_443.out _; (with_reducible repeat (first | refine blk_drewN ?_ _ | refine blk_drew ?_ | refine blk_alloc ?_ _)); exact BK442.out) hg (Kd.N_ne HO_9.out BK442.out (by decide))); have n5_ := Aside0.mk (blk_grown (g := gb443) (o := .cells #[.slice Ao30 t449.length co30, .int .i64 t452] 36 (0, 0)) (by (with_reducible repeat (first | refine blk_drewN ?_ _ | refine blk_drew ?_ | refine blk_alloc ?_ _)); refine blk_put (cs := #[.slice Ao30 t449.length co30, .int .i64 x444001_1]) ?_ 1 _ rfl; (with_reducible repeat (first | refine blk_drewN ?_ _ | refine blk_drew ?_ | refine blk_alloc ?_ _)); refine blk_put (cs := #[.slice Ao28 x444000_1.length co28, .int .i64 x444001_1]) ?_ 0 _ rfl; (with_reducible repeat (first | refine blk_drewN ?_ _ | refine blk_drew ?_ | refine blk_alloc ?_ _)); exact BK443.out) hg (Kd.N_ne HO_9.out BK443.out (by decide))); have n6_ := Aside0.mk (Kd.R_over' (by (with_reducible repeat (first | apply Kd.R_alloc | apply Kd.R_drewN | apply Kd.R_drew)); exact (Kd.R_mono (Kd.R_far (p := ⟨gb443, 1, none⟩) (Kd.R_far (p := ⟨gb443, 0, none⟩) (Kd.R_types HO451.out BK443.out (by decide)) (fun _ hk => hk.2) (.slice Ao30 t449.length co30)) (fun _ hk => hk.2) (.int .i64 t452)) (fun _ h_ => h_.1))) (Kd.N_typed (by (with_reducible repeat (first | apply Kd.N_alloc | apply Kd.N_drewN | apply Kd.N_drew)); exact (Kd.N_mono (Kd.N_far (p := ⟨gb443, 1, none⟩) (Kd.N_far (p := ⟨gb443, 0, none⟩) (Kd.N_mono HO_9.out (fun k_ hk => (⟨hk, hk.1.1.2.2.2.2.2⟩ : _ ∧ k_ ≠ gb443))) (fun _ hk => hk.2) (.slice Ao30 t449.length co30)) (fun _ hk => hk.2) (.int .i64 t452)) (fun _ h_ => h_.1)))) (by decide) hg); have n7_ := Aside0.mk (Kd.N_afterv (ok := (fun k_ => some k_ ≠ (.slice Ao25 x5_1.length co25 : Value).ownBlock ∧ some k_ ≠ (v440 : Value).ownBlock ∧ some k_ ≠ (.slice Ao11 t435.length co11 : Value).ownBlock ∧ some k_ ≠ (.slice Ao28 x444000_1.length co28 : Value).ownBlock ∧ some k_ ≠ (.slice Ao30 t449.length co30 : Value).ownBlock ∧ k_ ≠ gb442 ∧ k_ ≠ gb443)) (by (with_reducible repeat (first | apply Kd.N_alloc | apply Kd.N_drewN | apply Kd.N_drew)); exact Kd.N_mono (Kd.N_far (p := ⟨gb443, 1, none⟩) (Kd.N_far (p := ⟨gb443, 0, none⟩) (Kd.N_mono HO455.out (fun k_ hk => (⟨hk, hk.2.2.2.2.2.2.2⟩ : _ ∧ k_ ≠ gb443))) (fun _ hk => hk.2) (.slice Ao30 t449.length co30)) (fun _ hk => hk.2) (.int .i64 t452)) (fun _ hk => ⟨⟨hk.1.2.1, ⟨hk.1.2.2.1, ⟨hk.1.2.2.2.2.1, ⟨hk.1.2.2.2.2.2.1, ⟨hk.1.1, ⟨hk.1.2.2.2.2.2.2.1, hk.1.2.2.2.2.2.2.2⟩⟩⟩⟩⟩⟩, hk.1.2.2.2.1⟩)) hg hat); have n8_ := Aside0.mk (hb); have n9_ := Aside0.mk ((show Kd.C (Kd.int .u8) w33 Ao25 y445.length y445 from by rw [Ny445.out]; exact Kd.C_take (m := ((ji19) : Int).toNat) ((Kd.Q_reads' (Kd.Q_over' (by (with_reducible repeat (first | apply Kd.Q_alloc | apply Kd.Q_drewN | apply Kd.Q_drew)); exact (Kd.Q_mono (Kd.Q_far (p := ⟨gb443, 1, none⟩) (Kd.Q_far (p := ⟨gb443, 0, none⟩) (Kd.Q_types HO_5.out BK443.out (by decide)) (fun _ hk => hk.2) (.slice Ao30 t449.length co30)) (fun _ hk => hk.2) (.int .i64 t452)) (fun _ h_ => h_.1))) (Kd.N_typed (by (with_reducible repeat (first | apply Kd.N_alloc | apply Kd.N_drewN | apply Kd.N_drew)); exact (Kd.N_mono (Kd.N_far (p := ⟨gb443, 1, none⟩) (Kd.N_far (p := ⟨gb443, 0, none⟩) (Kd.N_mono HO_9.out (fun k_ hk => (⟨hk, hk.1.1.2.2.2.2.2⟩ : _ ∧ k_ ≠ gb443))) (fun _ hk => hk.2) (.slice Ao30 t449.length co30)) (fun _ hk => hk.2) (.int .i64 t452)) (fun _ h_ => h_.1)))) (by decide) hg)).2.2) KL27.out)); have n10_ := Aside0.mk (ho); clear HO_5; clear HO_7; clear HO_443000; clear HO_444000; clear BK442; clear BK443; clear HO451; clear HO455; clear HB; clear HR448; clear HO_9; have HO_5 := n0_; have HO_7 := n1_; have HO_443000 := n2_; have HO_444000 := n3_; have BK442 := n4_; have BK443 := n5_; have HO451 := n6_; have HO455 := n7_; have HB := n8_; have HR448 := n9_; have HO458 := n10_; clear n0_ n1_ n2_ n3_ n4_ n5_ n6_ n7_ n8_ n9_ n10_; clear ho hb hg hat; have n_ := Aside0.mk (Kd.Q_mono (ok' := (fun k_ => some k_ ≠ (.slice Ao11 t435.length co11 : Value).ownBlock ∧ some k_ ≠ (.slice Ao28 x444000_1.length co28 : Value).ownBlock ∧ some k_ ≠ (.slice Ao30 t449.length co30 : Value).ownBlock)) HO_5.out (fun k_ hk => ⟨hk.1.1, ⟨hk.1.2, hk.2⟩⟩)); clear HO_5; have HO_5 := n_; clear n_; have q35 : ((ji19) : Int) ≤ ((x5_1.length : Int) : Int) := of_decide_eq_true (by first | (with_reducible assumption) | assumption); obtain ⟨i035, hi035, _, hsz35, _⟩ := info_parts info5; have hcut35 := cut_from (P := Try.prog) 22 5 .i64 Try.underlying22 hi035 1 hsz35 Ao25 x5_1.length co25 (ji19) (of_decide_eq_true (by first | (with_reducible assumption) | assumption)) q35; have hr35 := Kd.Q_drop (k := ((ji19) : Int).toNat) HO_5.out (by omega); obtain ⟨A35, hA35⟩ : ∃ A1, A1 = (if co25 = ((ji19) : Int).toNat then Ao25 else (Ao25 : Option Addr).map (·.add (((ji19) : Int).toNat * 1))) := ⟨_, rfl⟩; obtain ⟨c35, hc35⟩ : ∃ c1, c1 = co25 - ((ji19) : Int).toNat := ⟨_, rfl⟩; have hy35 : y459.length = x5_1.length - ((ji19) : Int).toNat := (by rw [Ny459.out, List.length_drop]); rw [← Ny459.out] at hr35; rw [← hy35, ← hA35, ← hc35] at hcut35; replace hr35 : Kd.Q (Kd.int .u8) 5 w33 w.heap.size (fun k_ => some k_ ≠ (.slice Ao11 t435.length co11 : Value).ownBlock ∧ some k_ ≠ (.slice Ao28 x444000_1.length co28 : Value).ownBlock ∧ some k_ ≠ (.slice Ao30 t449.length co30 : Value).ownBlock) (.slice A35 y459.length c35) y459 := (by rw [hA35, hc35, hy35]; exact hr35); have HE35 : Aside0 ((Value.slice A35 y459.length c35).ownBlock = (.slice Ao25 x5_1.length co25 : Value).ownBlock) := ⟨by rw [hA35]; split <;> (first | rfl | (simp only [Option.map_some, Value.ownBlock, add_block]; done) | (cases (Ao25 : Option Addr) <;> first | rfl | (simp [Value.ownBlock, add_block]; done)))⟩; clear hy35 hi035 hsz35 HO_5 hA35 hc35; have HO461 := Aside0.mk hr35; clear hr35; replace q35 := eq_true q35; have n_ := Aside0.mk (Kd.N_mono (ok' := fun k_ => ((some k_ ≠ (.slice A35 y459.length c35 : Value).ownBlock ∧ (some k_ ≠ (.slice Ao11 t435.length co11 : Value).ownBlock ∧ (some k_ ≠ (.slice Ao28 x444000_1.length co28 : Value).ownBlock ∧ (some k_ ≠ (.slice Ao30 t449.length co30 : Value).ownBlock ∧ (some k_ ≠ (.slice Ao34 t453.length co34 : Value).ownBlock ∧ (k_ ≠ gb442 ∧ k_ ≠ gb443)))))) ∧ some k_ ≠ (v457 : Value).ownBlock)) HO_7.out (fun k_ hk => ⟨⟨(by rw [HE35.out]; exact hk.1.1), ⟨hk.1.2.1, ⟨hk.1.2.2.1, ⟨hk.1.2.2.2.1, ⟨hk.1.2.2.2.2.1, ⟨hk.1.2.2.2.2.2.1, hk.1.2.2.2.2.2.2⟩⟩⟩⟩⟩⟩, hk.2⟩)); clear HO_7; have HO_7 := n_; clear n_; have n_ := Aside0.mk (Kd.R_mono (ok' := fun k_ => ((some k_ ≠ (.slice A35 y459.length c35 : Value).ownBlock ∧ some k_ ≠ (.slice Ao28 x444000_1.length co28 : Value).ownBlock) ∧ some k_ ≠ (.slice Ao30 t449.length co30 : Value).ownBlock)) HO_443000.out (fun k_ hk => ⟨⟨(by rw [HE35.out]; exact hk.1.1), hk.1.2⟩, hk.2⟩)); clear HO_443000; have HO_443000 := n_; clear n_; have n_ := Aside0.mk (Kd.R_mono (ok' := fun k_ => ((some k_ ≠ (.slice A35 y459.length c35 : Value).ownBlock ∧ some k_ ≠ (.slice Ao11 t435.length co11 : Value).ownBlock) ∧ some k_ ≠ (.slice Ao30 t449.length co30 : Value).ownBlock)) HO_444000.out (fun k_ hk => ⟨⟨(by rw [HE35.out]; exact hk.1.1), hk.1.2⟩, hk.2⟩)); clear HO_444000; have HO_444000 := n_; clear n_; have n_ := Aside0.mk (Kd.R_mono (ok' := fun k_ => (((True ∧ some k_ ≠ (.slice A35 y459.length c35 : Value).ownBlock) ∧ some k_ ≠ (.slice Ao11 t435.length co11 : Value).ownBlock) ∧ some k_ ≠ (.slice Ao28 x444000_1.length co28 : Value).ownBlock)) HO451.out (fun k_ hk => ⟨⟨⟨trivial, (by rw [HE35.out]; exact hk.1.1.2)⟩, hk.1.2⟩, hk.2⟩)); clear HO451; have HO451 := n_; clear n_; have n_ := Aside0.mk (Kd.N_mono (ok' := fun k_ => ((some k_ ≠ (.slice A35 y459.length c35 : Value).ownBlock ∧ (some k_ ≠ (v440 : Value).ownBlock ∧ (some k_ ≠ (.slice Ao11 t435.length co11 : Value).ownBlock ∧ (some k_ ≠ (.slice Ao28 x444000_1.length co28 : Value).ownBlock ∧ (some k_ ≠ (.slice Ao30 t449.length co30 : Value).ownBlock ∧ (k_ ≠ gb442 ∧ k_ ≠ gb443)))))) ∧ some k_ ≠ (v457 : Value).ownBlock)) HO455.out (fun k_ hk => ⟨⟨(by rw [HE35.out]; exact hk.1.1), ⟨hk.1.2.1, ⟨hk.1.2.2.1, ⟨hk.1.2.2.2.1, ⟨hk.1.2.2.2.2.1, ⟨hk.1.2.2.2.2.2.1, hk.1.2.2.2.2.2.2⟩⟩⟩⟩⟩⟩, hk.2⟩)); clear HO455; have HO455 := n_; clear n_; have n_ := Aside0.mk (Kd.N_mono (ok' := fun k_ => (some k_ ≠ (.slice A35 y459.length c35 : Value).ownBlock ∧ (some k_ ≠ (v440 : Value).ownBlock ∧ (some k_ ≠ (.slice Ao11 t435.length co11 : Value).ownBlock ∧ (some k_ ≠ (.slice Ao28 x444000_1.length co28 : Value).ownBlock ∧ (some k_ ≠ (.slice Ao30 t449.length co30 : Value).ownBlock ∧ (k_ ≠ gb442 ∧ k_ ≠ gb443))))))) HO458.out (fun k_ hk => ⟨(by rw [HE35.out]; exact hk.1), ⟨hk.2.1, ⟨hk.2.2.1, ⟨hk.2.2.2.1, ⟨hk.2.2.2.2.1, ⟨hk.2.2.2.2.2.1, hk.2.2.2.2.2.2⟩⟩⟩⟩⟩⟩)); clear HO458; have HO458 := n_; clear n_))
                    go_roundg k1
                    case measure => have := HK1.out; omega
                    case rel => exact ⟨(y459), (y456), (wrap64 (x10_1 + 1)), (t449), (t452), (.slice Ao30 t449.length co30), (by first | rfl | (simp; done) | (simp [*]; done)), H', ⟨by have := HK1.out; omega⟩, ⟨by (with_reducible repeat (first | apply Kd.Q_alloc | apply Kd.Q_drewN | apply Kd.Q_drew)); exact Kd.Q_mono HO461.out (fun _ hk => ⟨hk.1, hk.2.2⟩)⟩, ⟨by (with_reducible repeat (first | apply Kd.N_alloc | apply Kd.N_drewN | apply Kd.N_drew)); exact Kd.N_mono HO_7.out (fun _ hk => ⟨hk.1.1, ⟨hk.2, ⟨hk.1.2.1, ⟨hk.1.2.2.2.1, ⟨hk.1.2.2.2.2.2.1, hk.1.2.2.2.2.2.2⟩⟩⟩⟩⟩)⟩, ⟨by (with_reducible repeat (first | apply Kd.N_alloc | apply Kd.N_drewN | apply Kd.N_drew)); exact Kd.N_mono HO458.out (fun _ hk => ⟨hk.1, ⟨hk.2.1, ⟨hk.2.2.1, ⟨hk.2.2.2.2.1, ⟨hk.2.2.2.2.2.1, hk.2.2.2.2.2.2⟩⟩⟩⟩⟩)⟩, ⟨by (with_reducible repeat (first | apply Kd.R_alloc | apply Kd.R_drewN | apply Kd.R_drew)); exact Kd.R_mono HO_443000.out (fun _ hk => ⟨hk.1.1, hk.2⟩)⟩, ⟨by (with_reducible repeat (first | apply Kd.R_alloc | apply Kd.R_drewN | apply Kd.R_drew)); exact Kd.R_mono HO451.out (fun _ hk => ⟨hk.1.1.2, hk.1.2⟩)⟩, ⟨by (with_reducible repeat (first | refine blk_drewN ?_ _ | refine blk_drew ?_ | refine blk_alloc ?_ _)); exact BK442.out⟩, ⟨by (with_reducible repeat (first | refine blk_drewN ?_ _ | refine blk_drew ?_ | refine blk_alloc ?_ _)); exact BK443.out⟩, ⟨by repeat (first | (with_reducible first | exact HB.out | apply below_alloc | apply pw_below_drewN | apply below_drew1 | refine below_set ?_ GE442.out | refine below_set ?_ GE443.out) | exact HB.out)⟩⟩
                  · rw [if_neg c23] at H
                    exact absurd H (by simp)
                · rw [if_neg c21] at H
                  exact absurd H (by simp)
              · rw [if_neg c20] at H
                exact absurd H (by simp)
            · rw [if_neg c18] at H
              exact absurd H (by simp)
          · rw [if_neg c17] at H
            have c17b0 : decide (x10_1 < 100) = false := decide_eq_false c17
            clear c17
            by_cases c36 : 0 ≤ (x5_1.length : Int)
            · rw [if_pos c36] at H
              have c36b0 := eq_true c36
              have c36b1 : decide (0 ≤ (x5_1.length : Int)) = true := decide_eq_true c36
              clear c36
              by_cases c37 : (x5_1.length : Int) ≤ (x5_1.length : Int)
              · rw [if_pos c37] at H
                have c37b0 := eq_true c37
                have c37b1 : decide ((x5_1.length : Int) ≤ (x5_1.length : Int)) = true := decide_eq_true c37
                clear c37
                obtain ⟨y462, hy462⟩ : ∃ y_ : List Int, y_ = (x5_1.take ((x5_1.length : Int) : Int).toNat) := ⟨_, rfl⟩
                replace H : ((telegram_Feed.f k1 x444000_1 x444001_1 y462).bind fun bt466 => (if x9_1.length + bt466.2.2.length < 3518437208883 then (minecontrollaw04_TelegramPieces.l0 k1 l1 (x5_1.drop ((x5_1.length : Int) : Int).toNat) t439 (x9_1 ++ bt466.2.2) (wrap64 (x10_1 + 1)) t435 t438 bt466.1 bt466.2.1) else (none))) = some r := by first | (rw [hy462]; with_reducible exact H) | (have H2_ := (Option.bind_some _ _).symm.trans H; rw [hy462]; with_reducible exact H2_) | (have H2_ := (Option.bind_some _ _).symm.trans H; with_reducible exact H2_) | with_reducible exact H | (rw [hy462]; exact H) | exact H
                have Ny462 := Aside0.mk hy462
                clear hy462
                replace H := Option.bind_eq_some_iff.mp H
                obtain ⟨⟨t466, t469, t470⟩, A380, H⟩ := H
                replace H : (if x9_1.length + t470.length < 3518437208883 then (minecontrollaw04_TelegramPieces.l0 k1 l1 (x5_1.drop ((x5_1.length : Int) : Int).toNat) t439 (x9_1 ++ t470) (wrap64 (x10_1 + 1)) t435 t438 t466 t469) else (none)) = some r := H
                have A38 := Aside0.mk A380
                clear A380
                by_cases c39 : x9_1.length + t470.length < 3518437208883
                · rw [if_pos c39] at H
                  have LMc39 := Aside0.mk c39
                  clear c39
                  obtain ⟨y473, hy473⟩ : ∃ y_ : List (S24), y_ = (x9_1 ++ t470) := ⟨_, rfl⟩
                  replace H : (minecontrollaw04_TelegramPieces.l0 k1 l1 (x5_1.drop ((x5_1.length : Int) : Int).toNat) t439 y473 (wrap64 (x10_1 + 1)) t435 t438 t466 t469) = some r := by first | (rw [hy473]; with_reducible exact H) | (have H2_ := (Option.bind_some _ _).symm.trans H; rw [hy473]; with_reducible exact H2_) | (have H2_ := (Option.bind_some _ _).symm.trans H; with_reducible exact H2_) | with_reducible exact H | (rw [hy473]; exact H) | exact H
                  have Ny473 := Aside0.mk hy473
                  clear hy473
                  have c40b0 := eq_true (of_decide_eq_true (by first | (with_reducible assumption) | assumption) : (x5_1.length : Int) ≤ (x5_1.length : Int))
                  obtain ⟨y476, hy476⟩ : ∃ y_ : List Int, y_ = (x5_1.drop ((x5_1.length : Int) : Int).toNat) := ⟨_, rfl⟩
                  replace H : (minecontrollaw04_TelegramPieces.l0 k1 l1 y476 t439 y473 (wrap64 (x10_1 + 1)) t435 t438 t466 t469) = some r := by first | (rw [hy476]; with_reducible exact H) | (have H2_ := (Option.bind_some _ _).symm.trans H; rw [hy476]; with_reducible exact H2_) | (have H2_ := (Option.bind_some _ _).symm.trans H; with_reducible exact H2_) | with_reducible exact H | (rw [hy476]; exact H) | exact H
                  have Ny476 := Aside0.mk hy476
                  clear hy476
                  have H' := Aside0.mk H
                  clear H
                  obtain ⟨Ao41, co41, eo41, _⟩ := Kd.Q_slice HO_5.out
                  subst eo41
                  try go_wp2
                  have n0_ := Aside0.mk (Kd.Q_drew HO_5.out)
                  have n1_ := Aside0.mk (Kd.N_drew HO_7.out)
                  have n2_ := Aside0.mk (Kd.N_drew HO_9.out)
                  have n3_ := Aside0.mk (Kd.R_drew HO_443000.out)
                  have n4_ := Aside0.mk (Kd.R_drew HO_444000.out)
                  have n5_ := Aside0.mk (blk_drew BK442.out)
                  have n6_ := Aside0.mk (blk_drew BK443.out)
                  have n7_ := Aside0.mk (below_drew1 HB.out)
                  clear HO_5
                  clear HO_7
                  clear HO_9
                  clear HO_443000
                  clear HO_444000
                  clear BK442
                  clear BK443
                  clear HB
                  have HO_5 := n0_
                  have HO_7 := n1_
                  have HO_9 := n2_
                  have HO_443000 := n3_
                  have HO_444000 := n4_
                  have BK442 := n5_
                  have BK443 := n6_
                  have HB := n7_
                  clear n0_ n1_ n2_ n3_ n4_ n5_ n6_ n7_
                  have q43 : ((x5_1.length : Int) : Int) ≤ ((x5_1.length : Int) : Int) := of_decide_eq_true (by first | (with_reducible assumption) | assumption)
                  obtain ⟨i043, hi043, _, hsz43, _⟩ := info_parts info5
                  have hroom43 : x5_1.length ≤ co41 := (Kd.Q_reads' HO_5.out).2.1
                  have hC43 : Kd.C (Kd.int .u8) _ Ao41 x5_1.length x5_1 := (Kd.Q_reads' HO_5.out).2.2
                  have hcut43 := cut_to (P := Try.prog) 22 5 .i64 Try.underlying22 hi043 Ao41 x5_1.length co41 (x5_1.length : Int) (of_decide_eq_true (by first | (with_reducible assumption) | assumption)) q43 hroom43
                  have hr43 := Kd.C_take (m := ((x5_1.length : Int) : Int).toNat) hC43 (by omega)
                  have hy43 : y462.length = ((x5_1.length : Int) : Int).toNat := (by rw [Ny462.out, List.length_take]; omega)
                  rw [← Ny462.out] at hr43
                  rw [← hy43] at hcut43
                  have HR465 := Aside0.mk hr43
                  have HC465 := Aside0.mk (show y462.length ≤ co41 from by omega)
                  clear hr43 hC43 hroom43 hi043 hsz43
                  have KY43 := Aside0.mk hy43
                  clear hy43
                  have KL43 := Aside0.mk (show ((x5_1.length : Int) : Int).toNat ≤ x5_1.length from by omega)
                  replace q43 := eq_true q43
                  obtain ⟨Ao44, co44, eo44⟩ := Kd.R_slice HO_444000.out
                  (first | subst eo44 | (injection eo44 with f1_ f2_ f3_; have f4_ := f1_.symm; have f5_ := f3_.symm; clear f1_ f2_ f3_; subst f4_; subst f5_))
                  refine start_ (n := 10) (S := fun w' => w'.cell? ⟨gb443, 0, none⟩ = some (.slice Ao44 x444000_1.length co44) ∧ w'.cell? ⟨gb443, 1, none⟩ = some (.int .i64 x444001_1)) (ds := [8]) #[false, false, false, false, false, false, false, false, false, false] (by kernel_rfl) rfl rfl ⟨(blk_cell BK443.out 0).trans rfl, (blk_cell BK443.out 1).trans rfl⟩ (fun hHeld => ?_); refine with_tabW minecontrollaw04_TelegramPieces.tab12 minecontrollaw04_TelegramPieces.bits12 (fun HT_ HW_ => ?_)
                  generalize wr.drew = w42 at HO_5 HO_7 HO_9 HO_443000 HO_444000 BK442 BK443 HB HR465 hHeld ⊢
                  refine pure_ (i := 1) (N := some 48) (v := ?_) (a' := ?_) #[false, true, false, false, false, false, false, false, false, false] rfl rfl (any_of HT_.out (by kernel_rfl)) (fun _ _ _ h => h) (Or.inl ⟨by rfl, ?_⟩) ?_ ?_
                  rotate_left
                  · intro w'
                    go_simp
                    with_reducible rfl
                  rotate_left
                  · simp only [Act.put, List.setIfInBounds_toArray, List.set_cons_zero, List.set_cons_succ, i64_w, i32_w]
                    rfl
                  refine pure_ (i := 2) (N := some 49) (v := ?_) (a' := ?_) #[false, true, true, false, false, false, false, false, false, false] rfl rfl (any_of HT_.out (by kernel_rfl)) (fun _ _ _ h => h) (Or.inl ⟨by rfl, ?_⟩) ?_ ?_
                  rotate_left
                  · intro w'
                    go_simp
                    with_reducible rfl
                  rotate_left
                  · simp only [Act.put, List.setIfInBounds_toArray, List.set_cons_zero, List.set_cons_succ, i64_w, i32_w]
                    rfl
                  refine pure_ (i := 3) (N := some 50) (v := ?_) (a' := ?_) #[false, true, true, true, false, false, false, false, false, false] rfl rfl (any_of HT_.out (by kernel_rfl)) (fun _ _ _ h => h) (Or.inl ⟨by rfl, ?_⟩) ?_ ?_
                  rotate_left
                  · intro w'
                    go_simp
                    with_reducible rfl
                  rotate_left
                  · simp only [Act.put, List.setIfInBounds_toArray, List.set_cons_zero, List.set_cons_succ, i64_w, i32_w]
                    rfl
                  refine take_ (i := 0) (N := some 47) (v := ?_) (a' := ?_) #[true, true, true, true, false, false, false, false, false, false] rfl rfl (take_ofW HT_.out HW_.out (by kernel_rfl)) (fun _ _ _ h => h) (Or.inl ⟨by rfl, ?_⟩) hHeld ?_ ?_
                  rotate_left
                  · rintro w' ⟨s0, s1⟩
                    go_simp
                    with_reducible rfl
                  rotate_left
                  · simp only [Act.put, List.setIfInBounds_toArray, List.set_cons_zero, List.set_cons_succ, i64_w, i32_w]
                    rfl
                  refine one_ (i := 4) (N := some 51) #[true, true, true, true, true, false, false, false, false, false] rfl rfl (one_of HT_.out (by kernel_rfl)) (by decide) (fun K hK => ?_)
                  refine goes_ Try.func18 (by kernel_rfl) rfl #[.agg #[.slice Ao44 x444000_1.length co44, .int .i64 x444001_1], .slice Ao41 y462.length co41] (by rfl) rfl rfl (by (try simp only [List.map_toArray, List.map_cons, List.map_nil]); first | done | rfl | (simp only [List.length_drop, List.length_take]; rfl)) ?_
                  with_reducible refine (telegram_Feed.calls k1 _ _ x444000_1 x444001_1 _ _ y462 t466 t469 t470 _ ?side1 ?side2 ?side3 ?side4 A38.out).mono ?_
                  (case side1 => repeat (first | exact (Kd.R_reads' HO_444000.out).2.2 | (with_reducible refine Kd.C_alloc ?_ _) | (with_reducible refine Kd.C_drewN ?_ _) | (with_reducible refine Kd.C_drew ?_)))
                  (case side2 => exact (Kd.R_reads' HO_444000.out).2.1)
                  (case side3 => repeat (first | exact (by repeat (first | (with_reducible exact HR465.out) | (with_reducible refine Kd.C_alloc ?_ _) | (with_reducible refine Kd.C_drewN ?_ _) | (with_reducible refine Kd.C_drew ?_) | exact HR465.out)) | (with_reducible refine Kd.C_alloc ?_ _) | (with_reducible refine Kd.C_drewN ?_ _) | (with_reducible refine Kd.C_drew ?_)))
                  (case side4 => exact HC465.out)
                  rintro e w45 ⟨v467, v471, rfl, ho0, ho1, hb⟩
                  refine ⟨_, rfl, ?_⟩
                  have n0_ := Aside0.mk (Kd.Q_elder' (by (with_reducible repeat (first | apply Kd.Q_alloc | apply Kd.Q_drewN | apply Kd.Q_drew)); exact HO_5.out) (Kd.R_base ho0) hb)
                  have n1_ := Aside0.mk (Kd.N_mono (Kd.N_told (Kd.N_told (Kd.N_old (by (with_reducible repeat (first | apply Kd.N_alloc | apply Kd.N_drewN | apply Kd.N_drew)); exact HO_7.out) hb) (Kd.R_base ho0)) (Kd.S_base ho1)) (fun _ h_ => h_.1))
                  have n2_ := Aside0.mk (Kd.N_mono (Kd.N_told (Kd.N_told (Kd.N_old (by (with_reducible repeat (first | apply Kd.N_alloc | apply Kd.N_drewN | apply Kd.N_drew)); exact HO_9.out) hb) (Kd.R_base ho0)) (Kd.S_base ho1)) (fun _ h_ => h_.1))
                  have n3_ := Aside0.mk (Kd.R_elder' (by (with_reducible repeat (first | apply Kd.R_alloc | apply Kd.R_drewN | apply Kd.R_drew)); exact HO_443000.out) (Kd.R_base ho0) hb)
                  have n4_ := Aside0.mk (Kd.R_elder' (by (with_reducible repeat (first | apply Kd.R_alloc | apply Kd.R_drewN | apply Kd.R_drew)); exact HO_444000.out) (Kd.R_base ho0) hb)
                  have n5_ := Aside0.mk (Kd.R_lower (Kd.R_new' (Kd.R_new' (Kd.R_new' ho0 (Kd.Q_lt (by (with_reducible repeat (first | apply Kd.Q_alloc | apply Kd.Q_drewN | apply Kd.Q_drew)); exact HO_5.out))) (Kd.R_lt (by (with_reducible repeat (first | apply Kd.R_alloc | apply Kd.R_drewN | apply Kd.R_drew)); exact HO_443000.out))) (Kd.R_lt (by (with_reducible repeat (first | apply Kd.R_alloc | apply Kd.R_drewN | apply Kd.R_drew)); exact HO_444000.out))) (below_size (by repeat (first | (with_reducible first | exact HB.out | apply below_alloc | apply pw_below_drewN | apply below_drew1 | refine below_set ?_ GE442.out | refine below_set ?_ GE443.out) | exact HB.out))))
                  have n6_ := Aside0.mk (Kd.N_lower (Kd.N_mono (ok' := fun k_ => some k_ ≠ (v467 : Value).ownBlock ∧ some k_ ≠ (.slice Ao41 x5_1.length co41 : Value).ownBlock ∧ some k_ ≠ (v440 : Value).ownBlock ∧ some k_ ≠ (u9 : Value).ownBlock ∧ some k_ ≠ (.slice Ao11 t435.length co11 : Value).ownBlock ∧ some k_ ≠ (.slice Ao44 x444000_1.length co44 : Value).ownBlock ∧ k_ ≠ gb442 ∧ k_ ≠ gb443) (Kd.S_N (Kd.S_bound ho1)) (fun k_ hk_ => ⟨hk_.1, (Kd.fresh' (Kd.Q_lt (by (with_reducible repeat (first | apply Kd.Q_alloc | apply Kd.Q_drewN | apply Kd.Q_drew)); exact HO_5.out)) k_ hk_.2.1), (Kd.fresh' (Kd.N_lt (by (with_reducible repeat (first | apply Kd.N_alloc | apply Kd.N_drewN | apply Kd.N_drew)); exact HO_7.out)) k_ hk_.2.1), (Kd.fresh' (Kd.N_lt (by (with_reducible repeat (first | apply Kd.N_alloc | apply Kd.N_drewN | apply Kd.N_drew)); exact HO_9.out)) k_ hk_.2.1), (Kd.fresh' (Kd.R_lt (by (with_reducible repeat (first | apply Kd.R_alloc | apply Kd.R_drewN | apply Kd.R_drew)); exact HO_443000.out)) k_ hk_.2.1), (Kd.fresh' (Kd.R_lt (by (with_reducible repeat (first | apply Kd.R_alloc | apply Kd.R_drewN | apply Kd.R_drew)); exact HO_444000.out)) k_ hk_.2.1), (Kd.freshB (g := gb442) (o := .cells #[.slice Ao11 t435.length co11, .int .i64 t438] 36 (0, 0)) (by (with_reducible repeat (first | refine blk_drewN ?_ _ | refine blk_drew ?_ | refine blk_alloc ?_ _)); exact BK442.out) k_ hk_.2.1), (Kd.freshB (g := gb443) (o := .cells #[.slice Ao44 x444000_1.length co44, .int .i64 x444001_1] 36 (0, 0)) (by (with_reducible repeat (first | refine blk_drewN ?_ _ | refine blk_drew ?_ | refine blk_alloc ?_ _)); exact BK443.out) k_ hk_.2.1)⟩)) (below_size (by repeat (first | (with_reducible first | exact HB.out | apply below_alloc | apply pw_below_drewN | apply below_drew1 | refine below_set ?_ GE442.out | refine below_set ?_ GE443.out) | exact HB.out))))
                  have n7_ := Aside0.mk (blk_below (g := gb442) (o := .cells #[.slice Ao11 t435.length co11, .int .i64 t438] 36 (0, 0)) (by (with_reducible repeat (first | refine blk_drewN ?_ _ | refine blk_drew ?_ | refine blk_alloc ?_ _)); exact BK442.out) hb)
                  have n8_ := Aside0.mk (blk_below (g := gb443) (o := .cells #[.slice Ao44 x444000_1.length co44, .int .i64 x444001_1] 36 (0, 0)) (by (with_reducible repeat (first | refine blk_drewN ?_ _ | refine blk_drew ?_ | refine blk_alloc ?_ _)); exact BK443.out) hb)
                  have n9_ := Aside0.mk (Kd.C_below (by repeat (first | (with_reducible exact HR465.out) | (with_reducible refine Kd.C_alloc ?_ _) | (with_reducible refine Kd.C_drewN ?_ _) | (with_reducible refine Kd.C_drew ?_) | exact HR465.out)) hb)
                  have n10_ := Aside0.mk (below_step (by repeat (first | (with_reducible first | exact HB.out | apply below_alloc | apply pw_below_drewN | apply below_drew1 | refine below_set ?_ GE442.out | refine below_set ?_ GE443.out) | exact HB.out)) hb)
                  clear HO_5
                  clear HO_7
                  clear HO_9
                  clear HO_443000
                  clear HO_444000
                  clear BK442
                  clear BK443
                  clear HR465
                  clear HB
                  have HO_5 := n0_
                  have HO_7 := n1_
                  have HO_9 := n2_
                  have HO_443000 := n3_
                  have HO_444000 := n4_
                  have HO468 := n5_
                  have HO472 := n6_
                  have BK442 := n7_
                  have BK443 := n8_
                  have HR465 := n9_
                  have HB := n10_
                  clear n0_ n1_ n2_ n3_ n4_ n5_ n6_ n7_ n8_ n9_ n10_
                  (try clear hb)
                  (try clear hb2)
                  (try clear hge)
                  (try clear hk)
                  (try clear hi)
                  (try clear ho0)
                  (try clear ho1)
                  obtain ⟨Ao46, co46, eo46⟩ := Kd.R_slice HO468.out
                  (first | subst eo46 | (injection eo46 with f1_ f2_ f3_; have f4_ := f1_.symm; have f5_ := f3_.symm; clear f1_ f2_ f3_; subst f4_; subst f5_))
                  refine hK.out _ _ ⟨(blk_cell BK443.out 0).trans rfl, (blk_cell BK443.out 1).trans rfl⟩ (fun hHeld => ?_)
                  clear hK K
                  refine norm_ (a' := ?_) ?_ ?_
                  rotate_left
                  · show Act.put _ (some 51) _ = _
                    simp only [Act.put, List.setIfInBounds_toArray, List.set_cons_zero, List.set_cons_succ, i64_w, i32_w]
                    rfl
                  refine pure_ (i := 5) (N := some 46) (v := ?_) (a' := ?_) #[true, true, true, true, true, true, false, false, false, false] rfl rfl (any_of HT_.out (by kernel_rfl)) (fun _ _ _ h => h) (Or.inl ⟨by rfl, ?_⟩) ?_ ?_
                  rotate_left
                  · intro w'
                    go_simp
                    with_reducible rfl
                  rotate_left
                  · simp only [Act.put, List.setIfInBounds_toArray, List.set_cons_zero, List.set_cons_succ, i64_w, i32_w]
                    rfl
                  refine pure_ (i := 6) (N := some 52) (v := ?_) (a' := ?_) #[true, true, true, true, true, true, true, false, false, false] rfl rfl (any_of HT_.out (by kernel_rfl)) (fun _ _ _ h => h) (Or.inl ⟨by rfl, ?_⟩) ?_ ?_
                  rotate_left
                  · intro w'
                    go_simp
                    with_reducible rfl
                  rotate_left
                  · simp only [Act.put, List.setIfInBounds_toArray, List.set_cons_zero, List.set_cons_succ, i64_w, i32_w]
                    rfl
                  refine pure_ (i := 7) (N := some 53) (v := ?_) (a' := ?_) #[true, true, true, true, true, true, true, true, false, false] rfl rfl (any_of HT_.out (by kernel_rfl)) (fun _ _ _ h => h) (Or.inl ⟨by rfl, ?_⟩) ?_ ?_
                  rotate_left
                  · intro w'
                    go_simp
                    with_reducible rfl
                  rotate_left
                  · simp only [Act.put, List.setIfInBounds_toArray, List.set_cons_zero, List.set_cons_succ, i64_w, i32_w]
                    rfl
                  refine last_ (i := 8) (N := none) #[true, true, true, true, true, true, true, true, true, false] rfl rfl (one_of HT_.out (by kernel_rfl)) (by decide) (fun K hK => ?_)
                  have hs47 : w45.cell? ⟨gb443, 0, none⟩ = some (.slice Ao44 x444000_1.length co44) := (blk_cell BK443.out 0).trans rfl
                  have hfs47 := blk_frozen BK443.out 0
                  have hns47_0 := NB442_443.out
                  have hms47_0 := NB443_442.out
                  have hs48 : w45.cell? ⟨gb443, 1, none⟩ = some (.int .i64 x444001_1) := (blk_cell BK443.out 1).trans rfl
                  have hfs48 := blk_frozen BK443.out 1
                  have hns48_0 := NB442_443.out
                  have hms48_0 := NB443_442.out
                  refine skip_ (w1 := ?_) (by rfl) rfl ?_ ?_
                  rotate_left
                  · go_simp
                    rfl
                  refine hK.out _ _ ?_
                  clear hK K
                  refine pure_ (i := 9) (N := some 12) (v := ?_) (a' := ?_) #[true, true, true, true, true, true, true, true, true, true] rfl rfl (any_of HT_.out (by kernel_rfl)) (fun _ _ _ h => h) (Or.inl ⟨by rfl, ?_⟩) ?_ ?_
                  rotate_left
                  · intro w'
                    go_simp
                    with_reducible rfl
                  rotate_left
                  · simp only [Act.put, List.setIfInBounds_toArray, List.set_cons_zero, List.set_cons_succ, i64_w, i32_w]
                    rfl
                  refine done_ (done_of HT_.out (by kernel_rfl)) ?_
                  obtain ⟨Ao50, co50, eo50⟩ := Kd.N_slice HO472.out
                  subst eo50
                  try go_wp2_with (first | ((with_reducible refine gate_builtin (b := .append) (xs := #[.tmp 54, .tmp 55]) rfl ?_); (try (refine gate_guard (by rfl) ?_; dsimp only)); at_builtin; refine Kd.N_append_rows k24 (w0 := w) w.heap.size rfl (.tmp 54) (.tmp 55) 29 24 (.agg #[(.int .i64 0), (.int .i64 0), (.slice none 0 0)]) 40 rfl Try.underlying29 info24 rfl (by decide) (by omega) u9 x9_1 t470 _ _ _ (fun k_ => some k_ ≠ (.slice Ao41 x5_1.length co41 : Value).ownBlock ∧ some k_ ≠ (v440 : Value).ownBlock ∧ some k_ ≠ (.slice Ao11 t435.length co11 : Value).ownBlock ∧ some k_ ≠ (.slice Ao44 x444000_1.length co44 : Value).ownBlock ∧ some k_ ≠ (.slice Ao46 t466.length co46 : Value).ownBlock ∧ k_ ≠ gb442 ∧ k_ ≠ gb443) (fun k_ => ((fun k_ => some k_ ≠ (.slice Ao41 x5_1.length co41 : Value).ownBlock ∧ some k_ ≠ (v440 : Value).ownBlock ∧ some k_ ≠ (.slice Ao11 t435.length co11 : Value).ownBlock ∧ some k_ ≠ (.slice Ao44 x444000_1.length co44 : Value).ownBlock ∧ some k_ ≠ (.slice Ao46 t466.length co46 : Value).ownBlock ∧ k_ ≠ gb442 ∧ k_ ≠ gb443)) k_ ∧ some k_ ≠ (u9 : Value).ownBlock) rfl rfl ?aO ?aR (fun _ hk => hk) ?aF ?aB ?aS ?aL ?_; (case aR => exact (by skip; exact Kd.N_F (Kd.N_mono (ok' := (fun k_ => ((fun k_ => some k_ ≠ (.slice Ao41 x5_1.length co41 : Value).ownBlock ∧ some k_ ≠ (v440 : Value).ownBlock ∧ some k_ ≠ (.slice Ao11 t435.length co11 : Value).ownBlock ∧ some k_ ≠ (.slice Ao44 x444000_1.length co44 : Value).ownBlock ∧ some k_ ≠ (.slice Ao46 t466.length co46 : Value).ownBlock ∧ k_ ≠ gb442 ∧ k_ ≠ gb443)) k_ ∧ some k_ ≠ (u9 : Value).ownBlock)) ((Kd.N_far (p := ⟨gb443, 1, none⟩) (Kd.N_far (p := ⟨gb443, 0, none⟩) (Kd.N_mono HO472.out (fun k_ hk => (⟨hk, hk.2.2.2.2.2.2.2⟩ : _ ∧ k_ ≠ gb443))) (fun _ hk => hk.2) (.slice Ao46 t466.length co46)) (fun _ hk => hk.2) (.int .i64 t469))) (fun k_ hk => ⟨⟨hk.1.2.1, ⟨hk.1.2.2.1, ⟨hk.1.2.2.2.2.1, ⟨hk.1.2.2.2.2.2.1, ⟨hk.1.1, ⟨hk.1.2.2.2.2.2.2.1, hk.1.2.2.2.2.2.2.2⟩⟩⟩⟩⟩⟩, hk.1.2.2.2.1⟩)))); (case aB => exact (by repeat (first | (with_reducible first | exact HB.out | apply below_alloc | apply pw_below_drewN | apply below_drew1 | refine below_set ?_ GE442.out | refine below_set ?_ GE443.out) | exact HB.out))); (case aF => exact (fun k_ hk => ⟨Kd.fresh' (Kd.Q_lt (by (with_reducible repeat (first | apply Kd.Q_alloc | apply Kd.Q_drewN | apply Kd.Q_drew)); exact (Kd.Q_mono (Kd.Q_far (p := ⟨gb443, 1, none⟩) (Kd.Q_far (p := ⟨gb443, 0, none⟩) (Kd.Q_types HO_5.out BK443.out (by decide)) (fun _ hk => hk.2) (.slice Ao46 t466.length co46)) (fun _ hk => hk.2) (.int .i64 t469)) (fun _ h_ => h_.1)))) k_ hk, Kd.fresh' (Kd.N_lt (by (with_reducible repeat (first | apply Kd.N_alloc | apply Kd.N_drewN | apply Kd.N_drew)); exact (Kd.N_mono (Kd.N_far (p := ⟨gb443, 1, none⟩) (Kd.N_far (p := ⟨gb443, 0, none⟩) (Kd.N_mono HO_7.out (fun k_ hk => (⟨hk, hk.1.1.2.2.2.2.2⟩ : _ ∧ k_ ≠ gb443))) (fun _ hk => hk.2) (.slice Ao46 t466.length co46)) (fun _ hk => hk.2) (.int .i64 t469)) (fun _ h_ => h_.1)))) k_ hk, Kd.fresh' (Kd.R_lt (by (with_reducible repeat (first | apply Kd.R_alloc | apply Kd.R_drewN | apply Kd.R_drew)); exact (Kd.R_mono (Kd.R_far (p := ⟨gb443, 1, none⟩) (Kd.R_far (p := ⟨gb443, 0, none⟩) (Kd.R_types HO_443000.out BK443.out (by decide)) (fun _ hk => hk.2) (.slice Ao46 t466.length co46)) (fun _ hk => hk.2) (.int .i64 t469)) (fun _ h_ => h_.1)))) k_ hk, Kd.fresh' (Kd.R_lt (by (with_reducible repeat (first | apply Kd.R_alloc | apply Kd.R_drewN | apply Kd.R_drew)); exact (Kd.R_mono (Kd.R_far (p := ⟨gb443, 1, none⟩) (Kd.R_far (p := ⟨gb443, 0, none⟩) (Kd.R_types HO_444000.out BK443.out (by decide)) (fun _ hk => hk.2) (.slice Ao46 t466.length co46)) (fun _ hk => hk.2) (.int .i64 t469)) (fun _ h_ => h_.1)))) k_ hk, Kd.fresh' (Kd.R_lt (by (with_reducible repeat (first | apply Kd.R_alloc | apply Kd.R_drewN | apply Kd.R_drew)); exact (Kd.R_mono (Kd.R_far (p := ⟨gb443, 1, none⟩) (Kd.R_far (p := ⟨gb443, 0, none⟩) (Kd.R_types HO468.out BK443.out (by decide)) (fun _ hk => hk.2) (.slice Ao46 t466.length co46)) (fun _ hk => hk.2) (.int .i64 t469)) (fun _ h_ => h_.1)))) k_ hk, Kd.freshB (g := gb442) (o := .cells #[.slice Ao11 t435.length co11, .int .i64 t438] 36 (0, 0)) (by (with_reducible repeat (first | refine blk_drewN ?_ _ | refine blk_drew ?_ | refine blk_alloc ?_ _)); refine blk_far ?_ NB442_443.out _; (with_reducible repeat (first | refine blk_drewN ?_ _ | refine blk_drew ?_ | refine blk_alloc ?_ _)); refine blk_far ?_ NB442_443.out _; (with_reducible repeat (first | refine blk_drewN ?_ _ | refine blk_drew ?_ | refine blk_alloc ?_ _)); exact BK442.out) k_ hk, Kd.freshB (g := gb443) (o := .cells #[.slice Ao46 t466.length co46, .int .i64 t469] 36 (0, 0)) (by (with_reducible repeat (first | refine blk_drewN ?_ _ | refine blk_drew ?_ | refine blk_alloc ?_ _)); refine blk_put (cs := #[.slice Ao46 t466.length co46, .int .i64 x444001_1]) ?_ 1 _ rfl; (with_reducible repeat (first | refine blk_drewN ?_ _ | refine blk_drew ?_ | refine blk_alloc ?_ _)); refine blk_put (cs := #[.slice Ao44 x444000_1.length co44, .int .i64 x444001_1]) ?_ 0 _ rfl; (with_reducible repeat (first | refine blk_drewN ?_ _ | refine blk_drew ?_ | refine blk_alloc ?_ _)); exact BK443.out) k_ hk⟩)); (case aO => exact (by (with_reducible repeat (first | apply Kd.N_alloc | apply Kd.N_drewN | apply Kd.N_drew)); exact Kd.N_mono (Kd.N_far (p := ⟨gb443, 1, none⟩) (Kd.N_far (p := ⟨gb443, 0, none⟩) (Kd.N_mono HO_9.out (fun k_ hk => (⟨hk, hk.1.1.2.2.2.2.2⟩ : _ ∧ k_ ≠ gb443))) (fun _ hk => hk.2) (.slice Ao46 t466.length co46)) (fun _ hk => hk.2) (.int .i64 t469)) (fun _ hk => ⟨hk.1.1.1.1, ⟨hk.1.1.1.2.1, ⟨hk.1.1.1.2.2.1, ⟨hk.1.1.1.2.2.2.1, ⟨hk.1.1.2, ⟨hk.1.1.1.2.2.2.2.1, hk.1.1.1.2.2.2.2.2⟩⟩⟩⟩⟩⟩))); (case aS => exact (below_size (by repeat (first | (with_reducible first | exact HB.out | apply below_alloc | apply pw_below_drewN | apply below_drew1 | refine below_set ?_ GE442.out | refine below_set ?_ GE443.out) | exact HB.out)))); (case aL => have := LMc39.out; omega); intro v474 w49 ho hb hg hat; rw [← Ny473.out] at ho; have n0_ := Aside0.mk (Kd.Q_over' (by (with_reducible repeat (first | apply Kd.Q_alloc | apply Kd.Q_drewN | apply Kd.Q_drew)); exact (Kd.Q_mono (Kd.Q_far (p := ⟨gb443, 1, none⟩) (Kd.Q_far (p := ⟨gb443, 0, none⟩) (Kd.Q_types HO_5.out BK443.out (by decide)) (fun _ hk => hk.2) (.slice Ao46 t466.length co46)) (fun _ hk => hk.2) (.int .i64 t469)) (fun _ h_ => h_.1))) (Kd.N_typed (by (with_reducible repeat (first | apply Kd.N_alloc | apply Kd.N_drewN | apply Kd.N_drew)); exact (Kd.N_mono (Kd.N_far (p := ⟨gb443, 1, none⟩) (Kd.N_far (p := ⟨gb443, 0, none⟩) (Kd.N_mono HO_9.out (fun k_ hk => (⟨hk, hk.1.1.2.2.2.2.2⟩ : _ ∧ k_ ≠ gb443))) (fun _ hk => hk.2) (.slice Ao46 t466.length co46)) (fun _ hk => hk.2) (.int .i64 t469)) (fun _ h_ => h_.1)))) (by decide) hg); have n1_ := Aside0.mk (Kd.N_afterv (ok := (fun k_ => some k_ ≠ (.slice Ao41 x5_1.length co41 : Value).ownBlock ∧ some k_ ≠ (.slice Ao11 t435.length co11 : Value).ownBlock ∧ some k_ ≠ (.slice Ao44 x444000_1.length co44 : Value).ownBlock ∧ some k_ ≠ (.slice Ao46 t466.length co46 : Value).ownBlock ∧ some k_ ≠ (.slice Ao50 t470.length co50 : Value).ownBlock ∧ k_ ≠ gb442 ∧ k_ ≠ gb443)) (by (with_reducible repeat (first | apply Kd.N_alloc | apply Kd.N_drewN | apply Kd.N_drew)); exact Kd.N_mono (Kd.N_far (p := ⟨gb443, 1, none⟩) (Kd.N_far (p := ⟨gb443, 0, none⟩) (Kd.N_mono HO_7.out (fun k_ hk => (⟨hk, hk.1.1.2.2.2.2.2⟩ : _ ∧ k_ ≠ gb443))) (fun _ hk => hk.2) (.slice Ao46 t466.length co46)) (fun _ hk => hk.2) (.int .i64 t469)) (fun _ hk => ⟨⟨hk.1.1.1.1, ⟨hk.1.1.1.2.2.1, ⟨hk.1.1.1.2.2.2.1, ⟨hk.1.1.2, ⟨hk.1.2, ⟨hk.1.1.1.2.2.2.2.1, hk.1.1.1.2.2.2.2.2⟩⟩⟩⟩⟩⟩, hk.1.1.1.2.1⟩)) hg hat); have n2_ := Aside0.mk (Kd.R_over' (by (with_reducible repeat (first | apply Kd.R_alloc | apply Kd.R_drewN | apply Kd.R_drew)); exact (Kd.R_mono (Kd.R_far (p := ⟨gb443, 1, none⟩) (Kd.R_far (p := ⟨gb443, 0, none⟩) (Kd.R_types HO_443000.out BK443.out (by decide)) (fun _ hk => hk.2) (.slice Ao46 t466.length co46)) (fun _ hk => hk.2) (.int .i64 t469)) (fun _ h_ => h_.1))) (Kd.N_typed (by (with_reducible repeat (first | apply Kd.N_alloc | apply Kd.N_drewN | apply Kd.N_drew)); exact (Kd.N_mono (Kd.N_far (p := ⟨gb443, 1, none⟩) (Kd.N_far (p := ⟨gb443, 0, none⟩) (Kd.N_mono HO_9.out (fun k_ hk => (⟨hk, hk.1.1.2.2.2.2.2⟩ : _ ∧ k_ ≠ gb443))) (fun _ hk => hk.2) (.slice Ao46 t466.length co46)) (fun _ hk => hk.2) (.int .i64 t469)) (fun _ h_ => h_.1)))) (by decide) hg); have n3_ := Aside0.mk (Kd.R_over' (by (with_reducible repeat (first | apply Kd.R_alloc | apply Kd.R_drewN | apply Kd.R_drew)); exact (Kd.R_mono (Kd.R_far (p := ⟨gb443, 1, none⟩) (Kd.R_far (p := ⟨gb443, 0, none⟩) (Kd.R_types HO_444000.out BK443.out (by decide)) (fun _ hk => hk.2) (.slice Ao46 t466.length co46)) (fun _ hk => hk.2) (.int .i64 t469)) (fun _ h_ => h_.1))) (Kd.N_typed (by (with_reducible repeat (first | apply Kd.N_alloc | apply Kd.N_drewN | apply Kd.N_drew)); exact (Kd.N_mono (Kd.N_far (p := ⟨gb443, 1, none⟩) (Kd.N_far (p := ⟨gb443, 0, none⟩) (Kd.N_mono HO_9.out (fun k_ hk => (⟨hk, hk.1.1.2.2.2.2.2⟩ : _ ∧ k_ ≠ gb443))) (fun _ hk => hk.2) (.slice Ao46 t466.length co46)) (fun _ hk => hk.2) (.int .i64 t469)) (fun _ h_ => h_.1)))) (by decide) hg); have n4_ := Aside0.mk (blk_grown (g := gb442) (o := .cells #[.slice Ao11 t435.length co11, .int .i64 t438] 36 (0, 0)) (by (with_reducible repeat (first | refine blk_drewN ?_ _ | refine blk_drew ?_ | refine blk_alloc ?_ _)); refine blk_far ?_ NB442_443.out _; (with_reducible repeat (first | refine blk_drewN ?_ _ | refine blk_drew ?_ | refine blk_alloc ?_ _)); refine blk_far ?_ NB442_443.out _; (with_reducible repeat (first | refine blk_drewN ?_ _ | refine blk_drew ?_ | refine blk_alloc ?_ _)); exact BK442.out) hg (Kd.N_ne HO_9.out BK442.out (by decide))); have n5_ := Aside0.mk (blk_grown (g := gb443) (o := .cells #[.slice Ao46 t466.length co46, .int .i64 t469] 36 (0, 0)) (by (with_reducible repeat (first | refine blk_drewN ?_ _ | refine blk_drew ?_ | refine blk_alloc ?_ _)); refine blk_put (cs := #[.slice Ao46 t466.length co46, .int .i64 x444001_1]) ?_ 1 _ rfl; (with_reducible repeat (first | refine blk_drewN ?_ _ | refine blk_drew ?_ | refine blk_alloc ?_ _)); refine blk_put (cs := #[.slice Ao44 x444000_1.length co44, .int .i64 x444001_1]) ?_ 0 _ rfl; (with_reducible repeat (first | refine blk_drewN ?_ _ | refine blk_drew ?_ | refine blk_alloc ?_ _)); exact BK443.out) hg (Kd.N_ne HO_9.out BK443.out (by decide))); have n6_ := Aside0.mk (Kd.R_over' (by (with_reducible repeat (first | apply Kd.R_alloc | apply Kd.R_drewN | apply Kd.R_drew)); exact (Kd.R_mono (Kd.R_far (p := ⟨gb443, 1, none⟩) (Kd.R_far (p := ⟨gb443, 0, none⟩) (Kd.R_types HO468.out BK443.out (by decide)) (fun _ hk => hk.2) (.slice Ao46 t466.length co46)) (fun _ hk => hk.2) (.int .i64 t469)) (fun _ h_ => h_.1))) (Kd.N_typed (by (with_reducible repeat (first | apply Kd.N_alloc | apply Kd.N_drewN | apply Kd.N_drew)); exact (Kd.N_mono (Kd.N_far (p := ⟨gb443, 1, none⟩) (Kd.N_far (p := ⟨gb443, 0, none⟩) (Kd.N_mono HO_9.out (fun k_ hk => (⟨hk, hk.1.1.2.2.2.2.2⟩ : _ ∧ k_ ≠ gb443))) (fun _ hk => hk.2) (.slice Ao46 t466.length co46)) (fun _ hk => hk.2) (.int .i64 t469)) (fun _ h_ => h_.1)))) (by decide) hg); have n7_ := Aside0.mk (Kd.N_afterv (ok := (fun k_ => some k_ ≠ (.slice Ao41 x5_1.length co41 : Value).ownBlock ∧ some k_ ≠ (v440 : Value).ownBlock ∧ some k_ ≠ (.slice Ao11 t435.length co11 : Value).ownBlock ∧ some k_ ≠ (.slice Ao44 x444000_1.length co44 : Value).ownBlock ∧ some k_ ≠ (.slice Ao46 t466.length co46 : Value).ownBlock ∧ k_ ≠ gb442 ∧ k_ ≠ gb443)) (by (with_reducible repeat (first | apply Kd.N_alloc | apply Kd.N_drewN | apply Kd.N_drew)); exact Kd.N_mono (Kd.N_far (p := ⟨gb443, 1, none⟩) (Kd.N_far (p := ⟨gb443, 0, none⟩) (Kd.N_mono HO472.out (fun k_ hk => (⟨hk, hk.2.2.2.2.2.2.2⟩ : _ ∧ k_ ≠ gb443))) (fun _ hk => hk.2) (.slice Ao46 t466.length co46)) (fun _ hk => hk.2) (.int .i64 t469)) (fun _ hk => ⟨⟨hk.1.2.1, ⟨hk.1.2.2.1, ⟨hk.1.2.2.2.2.1, ⟨hk.1.2.2.2.2.2.1, ⟨hk.1.1, ⟨hk.1.2.2.2.2.2.2.1, hk.1.2.2.2.2.2.2.2⟩⟩⟩⟩⟩⟩, hk.1.2.2.2.1⟩)) hg hat); have n8_ := Aside0.mk (hb); have n9_ := Aside0.mk ((show Kd.C (Kd.int .u8) w49 Ao41 y462.length y462 from by rw [Ny462.out]; exact Kd.C_take (m := ((x5_1.length : Int) : Int).toNat) ((Kd.Q_reads' (Kd.Q_over' (by (with_reducible repeat (first | apply Kd.Q_alloc | apply Kd.Q_drewN | apply Kd.Q_drew)); exact (Kd.Q_mono (Kd.Q_far (p := ⟨gb443, 1, none⟩) (Kd.Q_far (p := ⟨gb443, 0, none⟩) (Kd.Q_types HO_5.out BK443.out (by decide)) (fun _ hk => hk.2) (.slice Ao46 t466.length co46)) (fun _ hk => hk.2) (.int .i64 t469)) (fun _ h_ => h_.1))) (Kd.N_typed (by (with_reducible repeat (first | apply Kd.N_alloc | apply Kd.N_drewN | apply Kd.N_drew)); exact (Kd.N_mono (Kd.N_far (p := ⟨gb443, 1, none⟩) (Kd.N_far (p := ⟨gb443, 0, none⟩) (Kd.N_mono HO_9.out (fun k_ hk => (⟨hk, hk.1.1.2.2.2.2.2⟩ : _ ∧ k_ ≠ gb443))) (fun _ hk => hk.2) (.slice Ao46 t466.length co46)) (fun _ hk => hk.2) (.int .i64 t469)) (fun _ h_ => h_.1)))) (by decide) hg)).2.2) KL43.out)); have n10_ := Aside0.mk (ho); clear HO_5; clear HO_7; clear HO_443000; clear HO_444000; clear BK442; clear BK443; clear HO468; clear HO472; clear HB; clear HR465; clear HO_9; have HO_5 := n0_; have HO_7 := n1_; have HO_443000 := n2_; have HO_444000 := n3_; have BK442 := n4_; have BK443 := n5_; have HO468 := n6_; have HO472 := n7_; have HB := n8_; have HR465 := n9_; have HO475 := n10_; clear n0_ n1_ n2_ n3_ n4_ n5_ n6_ n7_ n8_ n9_ n10_; clear ho hb hg hat; have n_ := Aside0.mk (Kd.Q_mono (ok' := (fun k_ => some k_ ≠ (.slice Ao11 t435.length co11 : Value).ownBlock ∧ some k_ ≠ (.slice Ao44 x444000_1.length co44 : Value).ownBlock ∧ some k_ ≠ (.slice Ao46 t466.length co46 : Value).ownBlock)) HO_5.out (fun k_ hk => ⟨hk.1.1, ⟨hk.1.2, hk.2⟩⟩)); clear HO_5; have HO_5 := n_; clear n_; have q51 : ((x5_1.length : Int) : Int) ≤ ((x5_1.length : Int) : Int) := of_decide_eq_true (by first | (with_reducible assumption) | assumption); obtain ⟨i051, hi051, _, hsz51, _⟩ := info_parts info5; have hcut51 := cut_from (P := Try.prog) 22 5 .i64 Try.underlying22 hi051 1 hsz51 Ao41 x5_1.length co41 (x5_1.length : Int) (of_decide_eq_true (by first | (with_reducible assumption) | assumption)) q51; have hr51 := Kd.Q_drop (k := ((x5_1.length : Int) : Int).toNat) HO_5.out (by omega); obtain ⟨A51, hA51⟩ : ∃ A1, A1 = (if co41 = ((x5_1.length : Int) : Int).toNat then Ao41 else (Ao41 : Option Addr).map (·.add (((x5_1.length : Int) : Int).toNat * 1))) := ⟨_, rfl⟩; obtain ⟨c51, hc51⟩ : ∃ c1, c1 = co41 - ((x5_1.length : Int) : Int).toNat := ⟨_, rfl⟩; have hy51 : y476.length = x5_1.length - ((x5_1.length : Int) : Int).toNat := (by rw [Ny476.out, List.length_drop]); rw [← Ny476.out] at hr51; rw [← hy51, ← hA51, ← hc51] at hcut51; replace hr51 : Kd.Q (Kd.int .u8) 5 w49 w.heap.size (fun k_ => some k_ ≠ (.slice Ao11 t435.length co11 : Value).ownBlock ∧ some k_ ≠ (.slice Ao44 x444000_1.length co44 : Value).ownBlock ∧ some k_ ≠ (.slice Ao46 t466.length co46 : Value).ownBlock) (.slice A51 y476.length c51) y476 := (by rw [hA51, hc51, hy51]; exact hr51); have HE51 : Aside0 ((Value.slice A51 y476.length c51).ownBlock = (.slice Ao41 x5_1.length co41 : Value).ownBlock) := ⟨by rw [hA51]; split <;> (first | rfl | (simp only [Option.map_some, Value.ownBlock, add_block]; done) | (cases (Ao41 : Option Addr) <;> first | rfl | (simp [Value.ownBlock, add_block]; done)))⟩; clear hy51 hi051 hsz51 HO_5 hA51 hc51; have HO478 := Aside0.mk hr51; clear hr51; replace q51 := eq_true q51; have n_ := Aside0.mk (Kd.N_mono (ok' := fun k_ => ((some k_ ≠ (.slice A51 y476.length c51 : Value).ownBlock ∧ (some k_ ≠ (.slice Ao11 t435.length co11 : Value).ownBlock ∧ (some k_ ≠ (.slice Ao44 x444000_1.length co44 : Value).ownBlock ∧ (some k_ ≠ (.slice Ao46 t466.length co46 : Value).ownBlock ∧ (some k_ ≠ (.slice Ao50 t470.length co50 : Value).ownBlock ∧ (k_ ≠ gb442 ∧ k_ ≠ gb443)))))) ∧ some k_ ≠ (v474 : Value).ownBlock)) HO_7.out (fun k_ hk => ⟨⟨(by rw [HE51.out]; exact hk.1.1), ⟨hk.1.2.1, ⟨hk.1.2.2.1, ⟨hk.1.2.2.2.1, ⟨hk.1.2.2.2.2.1, ⟨hk.1.2.2.2.2.2.1, hk.1.2.2.2.2.2.2⟩⟩⟩⟩⟩⟩, hk.2⟩)); clear HO_7; have HO_7 := n_; clear n_; have n_ := Aside0.mk (Kd.R_mono (ok' := fun k_ => ((some k_ ≠ (.slice A51 y476.length c51 : Value).ownBlock ∧ some k_ ≠ (.slice Ao44 x444000_1.length co44 : Value).ownBlock) ∧ some k_ ≠ (.slice Ao46 t466.length co46 : Value).ownBlock)) HO_443000.out (fun k_ hk => ⟨⟨(by rw [HE51.out]; exact hk.1.1), hk.1.2⟩, hk.2⟩)); clear HO_443000; have HO_443000 := n_; clear n_; have n_ := Aside0.mk (Kd.R_mono (ok' := fun k_ => ((some k_ ≠ (.slice A51 y476.length c51 : Value).ownBlock ∧ some k_ ≠ (.slice Ao11 t435.length co11 : Value).ownBlock) ∧ some k_ ≠ (.slice Ao46 t466.length co46 : Value).ownBlock)) HO_444000.out (fun k_ hk => ⟨⟨(by rw [HE51.out]; exact hk.1.1), hk.1.2⟩, hk.2⟩)); clear HO_444000; have HO_444000 := n_; clear n_; have n_ := Aside0.mk (Kd.R_mono (ok' := fun k_ => (((True ∧ some k_ ≠ (.slice A51 y476.length c51 : Value).ownBlock) ∧ some k_ ≠ (.slice Ao11 t435.length co11 : Value).ownBlock) ∧ some k_ ≠ (.slice Ao44 x444000_1.length co44 : Value).ownBlock)) HO468.out (fun k_ hk => ⟨⟨⟨trivial, (by rw [HE51.out]; exact hk.1.1.2)⟩, hk.1.2⟩, hk.2⟩)); clear HO468; have HO468 := n_; clear n_; have n_ := Aside0.mk (Kd.N_mono (ok' := fun k_ => ((some k_ ≠ (.slice A51 y476.length c51 : Value).ownBlock ∧ (some k_ ≠ (v440 : Value).ownBlock ∧ (some k_ ≠ (.slice Ao11 t435.length co11 : Value).ownBlock ∧ (some k_ ≠ (.slice Ao44 x444000_1.length co44 : Value).ownBlock ∧ (some k_ ≠ (.slice Ao46 t466.length co46 : Value).ownBlock ∧ (k_ ≠ gb442 ∧ k_ ≠ gb443)))))) ∧ some k_ ≠ (v474 : Value).ownBlock)) HO472.out (fun k_ hk => ⟨⟨(by rw [HE51.out]; exact hk.1.1), ⟨hk.1.2.1, ⟨hk.1.2.2.1, ⟨hk.1.2.2.2.1, ⟨hk.1.2.2.2.2.1, ⟨hk.1.2.2.2.2.2.1, hk.1.2.2.2.2.2.2⟩⟩⟩⟩⟩⟩, hk.2⟩)); clear HO472; have HO472 := n_; clear n_; have n_ := Aside0.mk (Kd.N_mono (ok' := fun k_ => (some k_ ≠ (.slice A51 y476.length c51 : Value).ownBlock ∧ (some k_ ≠ (v440 : Value).ownBlock ∧ (some k_ ≠ (.slice Ao11 t435.length co11 : Value).ownBlock ∧ (some k_ ≠ (.slice Ao44 x444000_1.length co44 : Value).ownBlock ∧ (some k_ ≠ (.slice Ao46 t466.length co46 : Value).ownBlock ∧ (k_ ≠ gb442 ∧ k_ ≠ gb443))))))) HO475.out (fun k_ hk => ⟨(by rw [HE51.out]; exact hk.1), ⟨hk.2.1, ⟨hk.2.2.1, ⟨hk.2.2.2.1, ⟨hk.2.2.2.2.1, ⟨hk.2.2.2.2.2.1, hk.2.2.2.2.2.2⟩⟩⟩⟩⟩⟩)); clear HO475; have HO475 := n_; clear n_))
                  go_roundg k1
                  case measure => have := HK1.out; omega
                  case rel => exact ⟨(y476), (y473), (wrap64 (x10_1 + 1)), (t466), (t469), (.slice Ao46 t466.length co46), (by first | rfl | (simp; done) | (simp [*]; done)), H', ⟨by have := HK1.out; omega⟩, ⟨by (with_reducible repeat (first | apply Kd.Q_alloc | apply Kd.Q_drewN | apply Kd.Q_drew)); exact Kd.Q_mono HO478.out (fun _ hk => ⟨hk.1, hk.2.2⟩)⟩, ⟨by (with_reducible repeat (first | apply Kd.N_alloc | apply Kd.N_drewN | apply Kd.N_drew)); exact Kd.N_mono HO_7.out (fun _ hk => ⟨hk.1.1, ⟨hk.2, ⟨hk.1.2.1, ⟨hk.1.2.2.2.1, ⟨hk.1.2.2.2.2.2.1, hk.1.2.2.2.2.2.2⟩⟩⟩⟩⟩)⟩, ⟨by (with_reducible repeat (first | apply Kd.N_alloc | apply Kd.N_drewN | apply Kd.N_drew)); exact Kd.N_mono HO475.out (fun _ hk => ⟨hk.1, ⟨hk.2.1, ⟨hk.2.2.1, ⟨hk.2.2.2.2.1, ⟨hk.2.2.2.2.2.1, hk.2.2.2.2.2.2⟩⟩⟩⟩⟩)⟩, ⟨by (with_reducible repeat (first | apply Kd.R_alloc | apply Kd.R_drewN | apply Kd.R_drew)); exact Kd.R_mono HO_443000.out (fun _ hk => ⟨hk.1.1, hk.2⟩)⟩, ⟨by (with_reducible repeat (first | apply Kd.R_alloc | apply Kd.R_drewN | apply Kd.R_drew)); exact Kd.R_mono HO468.out (fun _ hk => ⟨hk.1.1.2, hk.1.2⟩)⟩, ⟨by (with_reducible repeat (first | refine blk_drewN ?_ _ | refine blk_drew ?_ | refine blk_alloc ?_ _)); exact BK442.out⟩, ⟨by (with_reducible repeat (first | refine blk_drewN ?_ _ | refine blk_drew ?_ | refine blk_alloc ?_ _)); exact BK443.out⟩, ⟨by repeat (first | (with_reducible first | exact HB.out | apply below_alloc | apply pw_below_drewN | apply below_drew1 | refine below_set ?_ GE442.out | refine below_set ?_ GE443.out) | exact HB.out)⟩⟩
                · rw [if_neg c39] at H
                  exact absurd H (by simp)
              · rw [if_neg c37] at H
                exact absurd H (by simp)
            · rw [if_neg c36] at H
              exact absurd H (by simp)
        · rw [if_neg c16] at H
          have c16b0 : decide (x10_1 < (l1.length : Int)) = false := decide_eq_false c16
          clear c16
          by_cases c52 : 0 ≤ (x5_1.length : Int)
          · rw [if_pos c52] at H
            have c52b0 := eq_true c52
            have c52b1 : decide (0 ≤ (x5_1.length : Int)) = true := decide_eq_true c52
            clear c52
            by_cases c53 : (x5_1.length : Int) ≤ (x5_1.length : Int)
            · rw [if_pos c53] at H
              have c53b0 := eq_true c53
              have c53b1 : decide ((x5_1.length : Int) ≤ (x5_1.length : Int)) = true := decide_eq_true c53
              clear c53
              obtain ⟨y479, hy479⟩ : ∃ y_ : List Int, y_ = (x5_1.take ((x5_1.length : Int) : Int).toNat) := ⟨_, rfl⟩
              replace H : ((telegram_Feed.f k1 x444000_1 x444001_1 y479).bind fun bt483 => (if x9_1.length + bt483.2.2.length < 3518437208883 then (minecontrollaw04_TelegramPieces.l0 k1 l1 (x5_1.drop ((x5_1.length : Int) : Int).toNat) t439 (x9_1 ++ bt483.2.2) (wrap64 (x10_1 + 1)) t435 t438 bt483.1 bt483.2.1) else (none))) = some r := by first | (rw [hy479]; with_reducible exact H) | (have H2_ := (Option.bind_some _ _).symm.trans H; rw [hy479]; with_reducible exact H2_) | (have H2_ := (Option.bind_some _ _).symm.trans H; with_reducible exact H2_) | with_reducible exact H | (rw [hy479]; exact H) | exact H
              have Ny479 := Aside0.mk hy479
              clear hy479
              replace H := Option.bind_eq_some_iff.mp H
              obtain ⟨⟨t483, t486, t487⟩, A540, H⟩ := H
              replace H : (if x9_1.length + t487.length < 3518437208883 then (minecontrollaw04_TelegramPieces.l0 k1 l1 (x5_1.drop ((x5_1.length : Int) : Int).toNat) t439 (x9_1 ++ t487) (wrap64 (x10_1 + 1)) t435 t438 t483 t486) else (none)) = some r := H
              have A54 := Aside0.mk A540
              clear A540
              by_cases c55 : x9_1.length + t487.length < 3518437208883
              · rw [if_pos c55] at H
                have LMc55 := Aside0.mk c55
                clear c55
                obtain ⟨y490, hy490⟩ : ∃ y_ : List (S24), y_ = (x9_1 ++ t487) := ⟨_, rfl⟩
                replace H : (minecontrollaw04_TelegramPieces.l0 k1 l1 (x5_1.drop ((x5_1.length : Int) : Int).toNat) t439 y490 (wrap64 (x10_1 + 1)) t435 t438 t483 t486) = some r := by first | (rw [hy490]; with_reducible exact H) | (have H2_ := (Option.bind_some _ _).symm.trans H; rw [hy490]; with_reducible exact H2_) | (have H2_ := (Option.bind_some _ _).symm.trans H; with_reducible exact H2_) | with_reducible exact H | (rw [hy490]; exact H) | exact H
                have Ny490 := Aside0.mk hy490
                clear hy490
                have c56b0 := eq_true (of_decide_eq_true (by first | (with_reducible assumption) | assumption) : (x5_1.length : Int) ≤ (x5_1.length : Int))
                obtain ⟨y493, hy493⟩ : ∃ y_ : List Int, y_ = (x5_1.drop ((x5_1.length : Int) : Int).toNat) := ⟨_, rfl⟩
                replace H : (minecontrollaw04_TelegramPieces.l0 k1 l1 y493 t439 y490 (wrap64 (x10_1 + 1)) t435 t438 t483 t486) = some r := by first | (rw [hy493]; with_reducible exact H) | (have H2_ := (Option.bind_some _ _).symm.trans H; rw [hy493]; with_reducible exact H2_) | (have H2_ := (Option.bind_some _ _).symm.trans H; with_reducible exact H2_) | with_reducible exact H | (rw [hy493]; exact H) | exact H
                have Ny493 := Aside0.mk hy493
                clear hy493
                have H' := Aside0.mk H
                clear H
                obtain ⟨Ao57, co57, eo57, _⟩ := Kd.Q_slice HO_5.out
                subst eo57
                try go_wp2
                have n0_ := Aside0.mk (Kd.Q_drew HO_5.out)
                have n1_ := Aside0.mk (Kd.N_drew HO_7.out)
                have n2_ := Aside0.mk (Kd.N_drew HO_9.out)
                have n3_ := Aside0.mk (Kd.R_drew HO_443000.out)
                have n4_ := Aside0.mk (Kd.R_drew HO_444000.out)
                have n5_ := Aside0.mk (blk_drew BK442.out)
                have n6_ := Aside0.mk (blk_drew BK443.out)
                have n7_ := Aside0.mk (below_drew1 HB.out)
                clear HO_5
                clear HO_7
                clear HO_9
                clear HO_443000
                clear HO_444000
                clear BK442
                clear BK443
                clear HB
                have HO_5 := n0_
                have HO_7 := n1_
                have HO_9 := n2_
                have HO_443000 := n3_
                have HO_444000 := n4_
                have BK442 := n5_
                have BK443 := n6_
                have HB := n7_
                clear n0_ n1_ n2_ n3_ n4_ n5_ n6_ n7_
                have q59 : ((x5_1.length : Int) : Int) ≤ ((x5_1.length : Int) : Int) := of_decide_eq_true (by first | (with_reducible assumption) | assumption)
                obtain ⟨i059, hi059, _, hsz59, _⟩ := info_parts info5
                have hroom59 : x5_1.length ≤ co57 := (Kd.Q_reads' HO_5.out).2.1
                have hC59 : Kd.C (Kd.int .u8) _ Ao57 x5_1.length x5_1 := (Kd.Q_reads' HO_5.out).2.2
                have hcut59 := cut_to (P := Try.prog) 22 5 .i64 Try.underlying22 hi059 Ao57 x5_1.length co57 (x5_1.length : Int) (of_decide_eq_true (by first | (with_reducible assumption) | assumption)) q59 hroom59
                have hr59 := Kd.C_take (m := ((x5_1.length : Int) : Int).toNat) hC59 (by omega)
                have hy59 : y479.length = ((x5_1.length : Int) : Int).toNat := (by rw [Ny479.out, List.length_take]; omega)
                rw [← Ny479.out] at hr59
                rw [← hy59] at hcut59
                have HR482 := Aside0.mk hr59
                have HC482 := Aside0.mk (show y479.length ≤ co57 from by omega)
                clear hr59 hC59 hroom59 hi059 hsz59
                have KY59 := Aside0.mk hy59
                clear hy59
                have KL59 := Aside0.mk (show ((x5_1.length : Int) : Int).toNat ≤ x5_1.length from by omega)
                replace q59 := eq_true q59
                obtain ⟨Ao60, co60, eo60⟩ := Kd.R_slice HO_444000.out
                (first | subst eo60 | (injection eo60 with f1_ f2_ f3_; have f4_ := f1_.symm; have f5_ := f3_.symm; clear f1_ f2_ f3_; subst f4_; subst f5_))
                refine start_ (n := 10) (S := fun w' => w'.cell? ⟨gb443, 0, none⟩ = some (.slice Ao60 x444000_1.length co60) ∧ w'.cell? ⟨gb443, 1, none⟩ = some (.int .i64 x444001_1)) (ds := [8]) #[false, false, false, false, false, false, false, false, false, false] (by kernel_rfl) rfl rfl ⟨(blk_cell BK443.out 0).trans rfl, (blk_cell BK443.out 1).trans rfl⟩ (fun hHeld => ?_); refine with_tabW minecontrollaw04_TelegramPieces.tab12 minecontrollaw04_TelegramPieces.bits12 (fun HT_ HW_ => ?_)
                generalize wr.drew = w58 at HO_5 HO_7 HO_9 HO_443000 HO_444000 BK442 BK443 HB HR482 hHeld ⊢
                refine pure_ (i := 1) (N := some 48) (v := ?_) (a' := ?_) #[false, true, false, false, false, false, false, false, false, false] rfl rfl (any_of HT_.out (by kernel_rfl)) (fun _ _ _ h => h) (Or.inl ⟨by rfl, ?_⟩) ?_ ?_
                rotate_left
                · intro w'
                  go_simp
                  with_reducible rfl
                rotate_left
                · simp only [Act.put, List.setIfInBounds_toArray, List.set_cons_zero, List.set_cons_succ, i64_w, i32_w]
                  rfl
                refine pure_ (i := 2) (N := some 49) (v := ?_) (a' := ?_) #[false, true, true, false, false, false, false, false, false, false] rfl rfl (any_of HT_.out (by kernel_rfl)) (fun _ _ _ h => h) (Or.inl ⟨by rfl, ?_⟩) ?_ ?_
                rotate_left
                · intro w'
                  go_simp
                  with_reducible rfl
                rotate_left
                · simp only [Act.put, List.setIfInBounds_toArray, List.set_cons_zero, List.set_cons_succ, i64_w, i32_w]
                  rfl
                refine pure_ (i := 3) (N := some 50) (v := ?_) (a' := ?_) #[false, true, true, true, false, false, false, false, false, false] rfl rfl (any_of HT_.out (by kernel_rfl)) (fun _ _ _ h => h) (Or.inl ⟨by rfl, ?_⟩) ?_ ?_
                rotate_left
                · intro w'
                  go_simp
                  with_reducible rfl
                rotate_left
                · simp only [Act.put, List.setIfInBounds_toArray, List.set_cons_zero, List.set_cons_succ, i64_w, i32_w]
                  rfl
                refine take_ (i := 0) (N := some 47) (v := ?_) (a' := ?_) #[true, true, true, true, false, false, false, false, false, false] rfl rfl (take_ofW HT_.out HW_.out (by kernel_rfl)) (fun _ _ _ h => h) (Or.inl ⟨by rfl, ?_⟩) hHeld ?_ ?_
                rotate_left
                · rintro w' ⟨s0, s1⟩
                  go_simp
                  with_reducible rfl
                rotate_left
                · simp only [Act.put, List.setIfInBounds_toArray, List.set_cons_zero, List.set_cons_succ, i64_w, i32_w]
                  rfl
                refine one_ (i := 4) (N := some 51) #[true, true, true, true, true, false, false, false, false, false] rfl rfl (one_of HT_.out (by kernel_rfl)) (by decide) (fun K hK => ?_)
                refine goes_ Try.func18 (by kernel_rfl) rfl #[.agg #[.slice Ao60 x444000_1.length co60, .int .i64 x444001_1], .slice Ao57 y479.length co57] (by rfl) rfl rfl (by (try simp only [List.map_toArray, List.map_cons, List.map_nil]); first | done | rfl | (simp only [List.length_drop, List.length_take]; rfl)) ?_
                with_reducible refine (telegram_Feed.calls k1 _ _ x444000_1 x444001_1 _ _ y479 t483 t486 t487 _ ?side1 ?side2 ?side3 ?side4 A54.out).mono ?_
                (case side1 => repeat (first | exact (Kd.R_reads' HO_444000.out).2.2 | (with_reducible refine Kd.C_alloc ?_ _) | (with_reducible refine Kd.C_drewN ?_ _) | (with_reducible refine Kd.C_drew ?_)))
                (case side2 => exact (Kd.R_reads' HO_444000.out).2.1)
                (case side3 => repeat (first | exact (by repeat (first | (with_reducible exact HR482.out) | (with_reducible refine Kd.C_alloc ?_ _) | (with_reducible refine Kd.C_drewN ?_ _) | (with_reducible refine Kd.C_drew ?_) | exact HR482.out)) | (with_reducible refine Kd.C_alloc ?_ _) | (with_reducible refine Kd.C_drewN ?_ _) | (with_reducible refine Kd.C_drew ?_)))
                (case side4 => exact HC482.out)
                rintro e w61 ⟨v484, v488, rfl, ho0, ho1, hb⟩
                refine ⟨_, rfl, ?_⟩
                have n0_ := Aside0.mk (Kd.Q_elder' (by (with_reducible repeat (first | apply Kd.Q_alloc | apply Kd.Q_drewN | apply Kd.Q_drew)); exact HO_5.out) (Kd.R_base ho0) hb)
                have n1_ := Aside0.mk (Kd.N_mono (Kd.N_told (Kd.N_told (Kd.N_old (by (with_reducible repeat (first | apply Kd.N_alloc | apply Kd.N_drewN | apply Kd.N_drew)); exact HO_7.out) hb) (Kd.R_base ho0)) (Kd.S_base ho1)) (fun _ h_ => h_.1))
                have n2_ := Aside0.mk (Kd.N_mono (Kd.N_told (Kd.N_told (Kd.N_old (by (with_reducible repeat (first | apply Kd.N_alloc | apply Kd.N_drewN | apply Kd.N_drew)); exact HO_9.out) hb) (Kd.R_base ho0)) (Kd.S_base ho1)) (fun _ h_ => h_.1))
                have n3_ := Aside0.mk (Kd.R_elder' (by (with_reducible repeat (first | apply Kd.R_alloc | apply Kd.R_drewN | apply Kd.R_drew)); exact HO_443000.out) (Kd.R_base ho0) hb)
                have n4_ := Aside0.mk (Kd.R_elder' (by (with_reducible repeat (first | apply Kd.R_alloc | apply Kd.R_drewN | apply Kd.R_drew)); exact HO_444000.out) (Kd.R_base ho0) hb)
                have n5_ := Aside0.mk (Kd.R_lower (Kd.R_new' (Kd.R_new' (Kd.R_new' ho0 (Kd.Q_lt (by (with_reducible repeat (first | apply Kd.Q_alloc | apply Kd.Q_drewN | apply Kd.Q_drew)); exact HO_5.out))) (Kd.R_lt (by (with_reducible repeat (first | apply Kd.R_alloc | apply Kd.R_drewN | apply Kd.R_drew)); exact HO_443000.out))) (Kd.R_lt (by (with_reducible repeat (first | apply Kd.R_alloc | apply Kd.R_drewN | apply Kd.R_drew)); exact HO_444000.out))) (below_size (by repeat (first | (with_reducible first | exact HB.out | apply below_alloc | apply pw_below_drewN | apply below_drew1 | refine below_set ?_ GE442.out | refine below_set ?_ GE443.out) | exact HB.out))))
                have n6_ := Aside0.mk (Kd.N_lower (Kd.N_mono (ok' := fun k_ => some k_ ≠ (v484 : Value).ownBlock ∧ some k_ ≠ (.slice Ao57 x5_1.length co57 : Value).ownBlock ∧ some k_ ≠ (v440 : Value).ownBlock ∧ some k_ ≠ (u9 : Value).ownBlock ∧ some k_ ≠ (.slice Ao11 t435.length co11 : Value).ownBlock ∧ some k_ ≠ (.slice Ao60 x444000_1.length co60 : Value).ownBlock ∧ k_ ≠ gb442 ∧ k_ ≠ gb443) (Kd.S_N (Kd.S_bound ho1)) (fun k_ hk_ => ⟨hk_.1, (Kd.fresh' (Kd.Q_lt (by (with_reducible repeat (first | apply Kd.Q_alloc | apply Kd.Q_drewN | apply Kd.Q_drew)); exact HO_5.out)) k_ hk_.2.1), (Kd.fresh' (Kd.N_lt (by (with_reducible repeat (first | apply Kd.N_alloc | apply Kd.N_drewN | apply Kd.N_drew)); exact HO_7.out)) k_ hk_.2.1), (Kd.fresh' (Kd.N_lt (by (with_reducible repeat (first | apply Kd.N_alloc | apply Kd.N_drewN | apply Kd.N_drew)); exact HO_9.out)) k_ hk_.2.1), (Kd.fresh' (Kd.R_lt (by (with_reducible repeat (first | apply Kd.R_alloc | apply Kd.R_drewN | apply Kd.R_drew)); exact HO_443000.out)) k_ hk_.2.1), (Kd.fresh' (Kd.R_lt (by (with_reducible repeat (first | apply Kd.R_alloc | apply Kd.R_drewN | apply Kd.R_drew)); exact HO_444000.out)) k_ hk_.2.1), (Kd.freshB (g := gb442) (o := .cells #[.slice Ao11 t435.length co11, .int .i64 t438] 36 (0, 0)) (by (with_reducible repeat (first | refine blk_drewN ?_ _ | refine blk_drew ?_ | refine blk_alloc ?_ _)); exact BK442.out) k_ hk_.2.1), (Kd.freshB (g := gb443) (o := .cells #[.slice Ao60 x444000_1.length co60, .int .i64 x444001_1] 36 (0, 0)) (by (with_reducible repeat (first | refine blk_drewN ?_ _ | refine blk_drew ?_ | refine blk_alloc ?_ _)); exact BK443.out) k_ hk_.2.1)⟩)) (below_size (by repeat (first | (with_reducible first | exact HB.out | apply below_alloc | apply pw_below_drewN | apply below_drew1 | refine below_set ?_ GE442.out | refine below_set ?_ GE443.out) | exact HB.out))))
                have n7_ := Aside0.mk (blk_below (g := gb442) (o := .cells #[.slice Ao11 t435.length co11, .int .i64 t438] 36 (0, 0)) (by (with_reducible repeat (first | refine blk_drewN ?_ _ | refine blk_drew ?_ | refine blk_alloc ?_ _)); exact BK442.out) hb)
                have n8_ := Aside0.mk (blk_below (g := gb443) (o := .cells #[.slice Ao60 x444000_1.length co60, .int .i64 x444001_1] 36 (0, 0)) (by (with_reducible repeat (first | refine blk_drewN ?_ _ | refine blk_drew ?_ | refine blk_alloc ?_ _)); exact BK443.out) hb)
                have n9_ := Aside0.mk (Kd.C_below (by repeat (first | (with_reducible exact HR482.out) | (with_reducible refine Kd.C_alloc ?_ _) | (with_reducible refine Kd.C_drewN ?_ _) | (with_reducible refine Kd.C_drew ?_) | exact HR482.out)) hb)
                have n10_ := Aside0.mk (below_step (by repeat (first | (with_reducible first | exact HB.out | apply below_alloc | apply pw_below_drewN | apply below_drew1 | refine below_set ?_ GE442.out | refine below_set ?_ GE443.out) | exact HB.out)) hb)
                clear HO_5
                clear HO_7
                clear HO_9
                clear HO_443000
                clear HO_444000
                clear BK442
                clear BK443
                clear HR482
                clear HB
                have HO_5 := n0_
                have HO_7 := n1_
                have HO_9 := n2_
                have HO_443000 := n3_
                have HO_444000 := n4_
                have HO485 := n5_
                have HO489 := n6_
                have BK442 := n7_
                have BK443 := n8_
                have HR482 := n9_
                have HB := n10_
                clear n0_ n1_ n2_ n3_ n4_ n5_ n6_ n7_ n8_ n9_ n10_
                (try clear hb)
                (try clear hb2)
                (try clear hge)
                (try clear hk)
                (try clear hi)
                (try clear ho0)
                (try clear ho1)
                obtain ⟨Ao62, co62, eo62⟩ := Kd.R_slice HO485.out
                (first | subst eo62 | (injection eo62 with f1_ f2_ f3_; have f4_ := f1_.symm; have f5_ := f3_.symm; clear f1_ f2_ f3_; subst f4_; subst f5_))
                refine hK.out _ _ ⟨(blk_cell BK443.out 0).trans rfl, (blk_cell BK443.out 1).trans rfl⟩ (fun hHeld => ?_)
                clear hK K
                refine norm_ (a' := ?_) ?_ ?_
                rotate_left
                · show Act.put _ (some 51) _ = _
                  simp only [Act.put, List.setIfInBounds_toArray, List.set_cons_zero, List.set_cons_succ, i64_w, i32_w]
                  rfl
                refine pure_ (i := 5) (N := some 46) (v := ?_) (a' := ?_) #[true, true, true, true, true, true, false, false, false, false] rfl rfl (any_of HT_.out (by kernel_rfl)) (fun _ _ _ h => h) (Or.inl ⟨by rfl, ?_⟩) ?_ ?_
                rotate_left
                · intro w'
                  go_simp
                  with_reducible rfl
                rotate_left
                · simp only [Act.put, List.setIfInBounds_toArray, List.set_cons_zero, List.set_cons_succ, i64_w, i32_w]
                  rfl
                refine pure_ (i := 6) (N := some 52) (v := ?_) (a' := ?_) #[true, true, true, true, true, true, true, false, false, false] rfl rfl (any_of HT_.out (by kernel_rfl)) (fun _ _ _ h => h) (Or.inl ⟨by rfl, ?_⟩) ?_ ?_
                rotate_left
                · intro w'
                  go_simp
                  with_reducible rfl
                rotate_left
                · simp only [Act.put, List.setIfInBounds_toArray, List.set_cons_zero, List.set_cons_succ, i64_w, i32_w]
                  rfl
                refine pure_ (i := 7) (N := some 53) (v := ?_) (a' := ?_) #[true, true, true, true, true, true, true, true, false, false] rfl rfl (any_of HT_.out (by kernel_rfl)) (fun _ _ _ h => h) (Or.inl ⟨by rfl, ?_⟩) ?_ ?_
                rotate_left
                · intro w'
                  go_simp
                  with_reducible rfl
                rotate_left
                · simp only [Act.put, List.setIfInBounds_toArray, List.set_cons_zero, List.set_cons_succ, i64_w, i32_w]
                  rfl
                refine last_ (i := 8) (N := none) #[true, true, true, true, true, true, true, true, true, false] rfl rfl (one_of HT_.out (by kernel_rfl)) (by decide) (fun K hK => ?_)
                have hs63 : w61.cell? ⟨gb443, 0, none⟩ = some (.slice Ao60 x444000_1.length co60) := (blk_cell BK443.out 0).trans rfl
                have hfs63 := blk_frozen BK443.out 0
                have hns63_0 := NB442_443.out
                have hms63_0 := NB443_442.out
                have hs64 : w61.cell? ⟨gb443, 1, none⟩ = some (.int .i64 x444001_1) := (blk_cell BK443.out 1).trans rfl
                have hfs64 := blk_frozen BK443.out 1
                have hns64_0 := NB442_443.out
                have hms64_0 := NB443_442.out
                refine skip_ (w1 := ?_) (by rfl) rfl ?_ ?_
                rotate_left
                · go_simp
                  rfl
                refine hK.out _ _ ?_
                clear hK K
                refine pure_ (i := 9) (N := some 12) (v := ?_) (a' := ?_) #[true, true, true, true, true, true, true, true, true, true] rfl rfl (any_of HT_.out (by kernel_rfl)) (fun _ _ _ h => h) (Or.inl ⟨by rfl, ?_⟩) ?_ ?_
                rotate_left
                · intro w'
                  go_simp
                  with_reducible rfl
                rotate_left
                · simp only [Act.put, List.setIfInBounds_toArray, List.set_cons_zero, List.set_cons_succ, i64_w, i32_w]
                  rfl
                refine done_ (done_of HT_.out (by kernel_rfl)) ?_
                obtain ⟨Ao66, co66, eo66⟩ := Kd.N_slice HO489.out
                subst eo66
                try go_wp2_with (first | ((with_reducible refine gate_builtin (b := .append) (xs := #[.tmp 54, .tmp 55]) rfl ?_); (try (refine gate_guard (by rfl) ?_; dsimp only)); at_builtin; refine Kd.N_append_rows k24 (w0 := w) w.heap.size rfl (.tmp 54) (.tmp 55) 29 24 (.agg #[(.int .i64 0), (.int .i64 0), (.slice none 0 0)]) 40 rfl Try.underlying29 info24 rfl (by decide) (by omega) u9 x9_1 t487 _ _ _ (fun k_ => some k_ ≠ (.slice Ao57 x5_1.length co57 : Value).ownBlock ∧ some k_ ≠ (v440 : Value).ownBlock ∧ some k_ ≠ (.slice Ao11 t435.length co11 : Value).ownBlock ∧ some k_ ≠ (.slice Ao60 x444000_1.length co60 : Value).ownBlock ∧ some k_ ≠ (.slice Ao62 t483.length co62 : Value).ownBlock ∧ k_ ≠ gb442 ∧ k_ ≠ gb443) (fun k_ => ((fun k_ => some k_ ≠ (.slice Ao57 x5_1.length co57 : Value).ownBlock ∧ some k_ ≠ (v440 : Value).ownBlock ∧ some k_ ≠ (.slice Ao11 t435.length co11 : Value).ownBlock ∧ some k_ ≠ (.slice Ao60 x444000_1.length co60 : Value).ownBlock ∧ some k_ ≠ (.slice Ao62 t483.length co62 : Value).ownBlock ∧ k_ ≠ gb442 ∧ k_ ≠ gb443)) k_ ∧ some k_ ≠ (u9 : Value).ownBlock) rfl rfl ?aO ?aR (fun _ hk => hk) ?aF ?aB ?aS ?aL ?_; (case aR => exact (by skip; exact Kd.N_F (Kd.N_mono (ok' := (fun k_ => ((fun k_ => some k_ ≠ (.slice Ao57 x5_1.length co57 : Value).ownBlock ∧ some k_ ≠ (v440 : Value).ownBlock ∧ some k_ ≠ (.slice Ao11 t435.length co11 : Value).ownBlock ∧ some k_ ≠ (.slice Ao60 x444000_1.length co60 : Value).ownBlock ∧ some k_ ≠ (.slice Ao62 t483.length co62 : Value).ownBlock ∧ k_ ≠ gb442 ∧ k_ ≠ gb443)) k_ ∧ some k_ ≠ (u9 : Value).ownBlock)) ((Kd.N_far (p := ⟨gb443, 1, none⟩) (Kd.N_far (p := ⟨gb443, 0, none⟩) (Kd.N_mono HO489.out (fun k_ hk => (⟨hk, hk.2.2.2.2.2.2.2⟩ : _ ∧ k_ ≠ gb443))) (fun _ hk => hk.2) (.slice Ao62 t483.length co62)) (fun _ hk => hk.2) (.int .i64 t486))) (fun k_ hk => ⟨⟨hk.1.2.1, ⟨hk.1.2.2.1, ⟨hk.1.2.2.2.2.1, ⟨hk.1.2.2.2.2.2.1, ⟨hk.1.1, ⟨hk.1.2.2.2.2.2.2.1, hk.1.2.2.2.2.2.2.2⟩⟩⟩⟩⟩⟩, hk.1.2.2.2.1⟩)))); (case aB => exact (by repeat (first | (with_reducible first | exact HB.out | apply below_alloc | apply pw_below_drewN | apply below_drew1 | refine below_set ?_ GE442.out | refine below_set ?_ GE443.out) | exact HB.out))); (case aF => exact (fun k_ hk => ⟨Kd.fresh' (Kd.Q_lt (by (with_reducible repeat (first | apply Kd.Q_alloc | apply Kd.Q_drewN | apply Kd.Q_drew)); exact (Kd.Q_mono (Kd.Q_far (p := ⟨gb443, 1, none⟩) (Kd.Q_far (p := ⟨gb443, 0, none⟩) (Kd.Q_types HO_5.out BK443.out (by decide)) (fun _ hk => hk.2) (.slice Ao62 t483.length co62)) (fun _ hk => hk.2) (.int .i64 t486)) (fun _ h_ => h_.1)))) k_ hk, Kd.fresh' (Kd.N_lt (by (with_reducible repeat (first | apply Kd.N_alloc | apply Kd.N_drewN | apply Kd.N_drew)); exact (Kd.N_mono (Kd.N_far (p := ⟨gb443, 1, none⟩) (Kd.N_far (p := ⟨gb443, 0, none⟩) (Kd.N_mono HO_7.out (fun k_ hk => (⟨hk, hk.1.1.2.2.2.2.2⟩ : _ ∧ k_ ≠ gb443))) (fun _ hk => hk.2) (.slice Ao62 t483.length co62)) (fun _ hk => hk.2) (.int .i64 t486)) (fun _ h_ => h_.1)))) k_ hk, Kd.fresh' (Kd.R_lt (by (with_reducible repeat (first | apply Kd.R_alloc | apply Kd.R_drewN | apply Kd.R_drew)); exact (Kd.R_mono (Kd.R_far (p := ⟨gb443, 1, none⟩) (Kd.R_far (p := ⟨gb443, 0, none⟩) (Kd.R_types HO_443000.out BK443.out (by decide)) (fun _ hk => hk.2) (.slice Ao62 t483.length co62)) (fun _ hk => hk.2) (.int .i64 t486)) (fun _ h_ => h_.1)))) k_ hk, Kd.fresh' (Kd.R_lt (by (with_reducible repeat (first | apply Kd.R_alloc | apply Kd.R_drewN | apply Kd.R_drew)); exact (Kd.R_mono (Kd.R_far (p := ⟨gb443, 1, none⟩) (Kd.R_far (p := ⟨gb443, 0, none⟩) (Kd.R_types HO_444000.out BK443.out (by decide)) (fun _ hk => hk.2) (.slice Ao62 t483.length co62)) (fun _ hk => hk.2) (.int .i64 t486)) (fun _ h_ => h_.1)))) k_ hk, Kd.fresh' (Kd.R_lt (by (with_reducible repeat (first | apply Kd.R_alloc | apply Kd.R_drewN | apply Kd.R_drew)); exact (Kd.R_mono (Kd.R_far (p := ⟨gb443, 1, none⟩) (Kd.R_far (p := ⟨gb443, 0, none⟩) (Kd.R_types HO485.out BK443.out (by decide)) (fun _ hk => hk.2) (.slice Ao62 t483.length co62)) (fun _ hk => hk.2) (.int .i64 t486)) (fun _ h_ => h_.1)))) k_ hk, Kd.freshB (g := gb442) (o := .cells #[.slice Ao11 t435.length co11, .int .i64 t438] 36 (0, 0)) (by (with_reducible repeat (first | refine blk_drewN ?_ _ | refine blk_drew ?_ | refine blk_alloc ?_ _)); refine blk_far ?_ NB442_443.out _; (with_reducible repeat (first | refine blk_drewN ?_ _ | refine blk_drew ?_ | refine blk_alloc ?_ _)); refine blk_far ?_ NB442_443.out _; (with_reducible repeat (first | refine blk_drewN ?_ _ | refine blk_drew ?_ | refine blk_alloc ?_ _)); exact BK442.out) k_ hk, Kd.freshB (g := gb443) (o := .cells #[.slice Ao62 t483.length co62, .int .i64 t486] 36 (0, 0)) (by (with_reducible repeat (first | refine blk_drewN ?_ _ | refine blk_drew ?_ | refine blk_alloc ?_ _)); refine blk_put (cs := #[.slice Ao62 t483.length co62, .int .i64 x444001_1]) ?_ 1 _ rfl; (with_reducible repeat (first | refine blk_drewN ?_ _ | refine blk_drew ?_ | refine blk_alloc ?_ _)); refine blk_put (cs := #[.slice Ao60 x444000_1.length co60, .int .i64 x444001_1]) ?_ 0 _ rfl; (with_reducible repeat (first | refine blk_drewN ?_ _ | refine blk_drew ?_ | refine blk_alloc ?_ _)); exact BK443.out) k_ hk⟩)); (case aO => exact (by (with_reducible repeat (first | apply Kd.N_alloc | apply Kd.N_drewN | apply Kd.N_drew)); exact Kd.N_mono (Kd.N_far (p := ⟨gb443, 1, none⟩) (Kd.N_far (p := ⟨gb443, 0, none⟩) (Kd.N_mono HO_9.out (fun k_ hk => (⟨hk, hk.1.1.2.2.2.2.2⟩ : _ ∧ k_ ≠ gb443))) (fun _ hk => hk.2) (.slice Ao62 t483.length co62)) (fun _ hk => hk.2) (.int .i64 t486)) (fun _ hk => ⟨hk.1.1.1.1, ⟨hk.1.1.1.2.1, ⟨hk.1.1.1.2.2.1, ⟨hk.1.1.1.2.2.2.1, ⟨hk.1.1.2, ⟨hk.1.1.1.2.2.2.2.1, hk.1.1.1.2.2.2.2.2⟩⟩⟩⟩⟩⟩))); (case aS => exact (below_size (by repeat (first | (with_reducible first | exact HB.out | apply below_alloc | apply pw_below_drewN | apply below_drew1 | refine below_set ?_ GE442.out | refine below_set ?_ GE443.out) | exact HB.out)))); (case aL => have := LMc55.out; omega); intro v491 w65 ho hb hg hat; rw [← Ny490.out] at ho; have n0_ := Aside0.mk (Kd.Q_over' (by (with_reducible repeat (first | apply Kd.Q_alloc | apply Kd.Q_drewN | apply Kd.Q_drew)); exact (Kd.Q_mono (Kd.Q_far (p := ⟨gb443, 1, none⟩) (Kd.Q_far (p := ⟨gb443, 0, none⟩) (Kd.Q_types HO_5.out BK443.out (by decide)) (fun _ hk => hk.2) (.slice Ao62 t483.length co62)) (fun _ hk => hk.2) (.int .i64 t486)) (fun _ h_ => h_.1))) (Kd.N_typed (by (with_reducible repeat (first | apply Kd.N_alloc | apply Kd.N_drewN | apply Kd.N_drew)); exact (Kd.N_mono (Kd.N_far (p := ⟨gb443, 1, none⟩) (Kd.N_far (p := ⟨gb443, 0, none⟩) (Kd.N_mono HO_9.out (fun k_ hk => (⟨hk, hk.1.1.2.2.2.2.2⟩ : _ ∧ k_ ≠ gb443))) (fun _ hk => hk.2) (.slice Ao62 t483.length co62)) (fun _ hk => hk.2) (.int .i64 t486)) (fun _ h_ => h_.1)))) (by decide) hg); have n1_ := Aside0.mk (Kd.N_afterv (ok := (fun k_ => some k_ ≠ (.slice Ao57 x5_1.length co57 : Value).ownBlock ∧ some k_ ≠ (.slice Ao11 t435.length co11 : Value).ownBlock ∧ some k_ ≠ (.slice Ao60 x444000_1.length co60 : Value).ownBlock ∧ some k_ ≠ (.slice Ao62 t483.length co62 : Value).ownBlock ∧ some k_ ≠ (.slice Ao66 t487.length co66 : Value).ownBlock ∧ k_ ≠ gb442 ∧ k_ ≠ gb443)) (by (with_reducible repeat (first | apply Kd.N_alloc | apply Kd.N_drewN | apply Kd.N_drew)); exact Kd.N_mono (Kd.N_far (p := ⟨gb443, 1, none⟩) (Kd.N_far (p := ⟨gb443, 0, none⟩) (Kd.N_mono HO_7.out (fun k_ hk => (⟨hk, hk.1.1.2.2.2.2.2⟩ : _ ∧ k_ ≠ gb443))) (fun _ hk => hk.2) (.slice Ao62 t483.length co62)) (fun _ hk => hk.2) (.int .i64 t486)) (fun _ hk => ⟨⟨hk.1.1.1.1, ⟨hk.1.1.1.2.2.1, ⟨hk.1.1.1.2.2.2.1, ⟨hk.1.1.2, ⟨hk.1.2, ⟨hk.1.1.1.2.2.2.2.1, hk.1.1.1.2.2.2.2.2⟩⟩⟩⟩⟩⟩, hk.1.1.1.2.1⟩)) hg hat); have n2_ := Aside0.mk (Kd.R_over' (by (with_reducible repeat (first | apply Kd.R_alloc | apply Kd.R_drewN | apply Kd.R_drew)); exact (Kd.R_mono (Kd.R_far (p := ⟨gb443, 1, none⟩) (Kd.R_far (p := ⟨gb443, 0, none⟩) (Kd.R_types HO_443000.out BK443.out (by decide)) (fun _ hk => hk.2) (.slice Ao62 t483.length co62)) (fun _ hk => hk.2) (.int .i64 t486)) (fun _ h_ => h_.1))) (Kd.N_typed (by (with_reducible repeat (first | apply Kd.N_alloc | apply Kd.N_drewN | apply Kd.N_drew)); exact (Kd.N_mono (Kd.N_far (p := ⟨gb443, 1, none⟩) (Kd.N_far (p := ⟨gb443, 0, none⟩) (Kd.N_mono HO_9.out (fun k_ hk => (⟨hk, hk.1.1.2.2.2.2.2⟩ : _ ∧ k_ ≠ gb443))) (fun _ hk => hk.2) (.slice Ao62 t483.length co62)) (fun _ hk => hk.2) (.int .i64 t486)) (fun _ h_ => h_.1)))) (by decide) hg); have n3_ := Aside0.mk (Kd.R_over' (by (with_reducible repeat (first | apply Kd.R_alloc | apply Kd.R_drewN | apply Kd.R_drew)); exact (Kd.R_mono (Kd.R_far (p := ⟨gb443, 1, none⟩) (Kd.R_far (p := ⟨gb443, 0, none⟩) (Kd.R_types HO_444000.out BK443.out (by decide)) (fun _ hk => hk.2) (.slice Ao62 t483.length co62)) (fun _ hk => hk.2) (.int .i64 t486)) (fun _ h_ => h_.1))) (Kd.N_typed (by (with_reducible repeat (first | apply Kd.N_alloc | apply Kd.N_drewN | apply Kd.N_drew)); exact (Kd.N_mono (Kd.N_far (p := ⟨gb443, 1, none⟩) (Kd.N_far (p := ⟨gb443, 0, none⟩) (Kd.N_mono HO_9.out (fun k_ hk => (⟨hk, hk.1.1.2.2.2.2.2⟩ : _ ∧ k_ ≠ gb443))) (fun _ hk => hk.2) (.slice Ao62 t483.length co62)) (fun _ hk => hk.2) (.int .i64 t486)) (fun _ h_ => h_.1)))) (by decide) hg); have n4_ := Aside0.mk (blk_grown (g := gb442) (o := .cells #[.slice Ao11 t435.length co11, .int .i64 t438] 36 (0, 0)) (by (with_reducible repeat (first | refine blk_drewN ?_ _ | refine blk_drew ?_ | refine blk_alloc ?_ _)); refine blk_far ?_ NB442_443.out _; (with_reducible repeat (first | refine blk_drewN ?_ _ | refine blk_drew ?_ | refine blk_alloc ?_ _)); refine blk_far ?_ NB442_443.out _; (with_reducible repeat (first | refine blk_drewN ?_ _ | refine blk_drew ?_ | refine blk_alloc ?_ _)); exact BK442.out) hg (Kd.N_ne HO_9.out BK442.out (by decide))); have n5_ := Aside0.mk (blk_grown (g := gb443) (o := .cells #[.slice Ao62 t483.length co62, .int .i64 t486] 36 (0, 0)) (by (with_reducible repeat (first | refine blk_drewN ?_ _ | refine blk_drew ?_ | refine blk_alloc ?_ _)); refine blk_put (cs := #[.slice Ao62 t483.length co62, .int .i64 x444001_1]) ?_ 1 _ rfl; (with_reducible repeat (first | refine blk_drewN ?_ _ | refine blk_drew ?_ | refine blk_alloc ?_ _)); refine blk_put (cs := #[.slice Ao60 x444000_1.length co60, .int .i64 x444001_1]) ?_ 0 _ rfl; (with_reducible repeat (first | refine blk_drewN ?_ _ | refine blk_drew ?_ | refine blk_alloc ?_ _)); exact BK443.out) hg (Kd.N_ne HO_9.out BK443.out (by decide))); have n6_ := Aside0.mk (Kd.R_over' (by (with_reducible repeat (first | apply Kd.R_alloc | apply Kd.R_drewN | apply Kd.R_drew)); exact (Kd.R_mono (Kd.R_far (p := ⟨gb443, 1, none⟩) (Kd.R_far (p := ⟨gb443, 0, none⟩) (Kd.R_types HO485.out BK443.out (by decide)) (fun _ hk => hk.2) (.slice Ao62 t483.length co62)) (fun _ hk => hk.2) (.int .i64 t486)) (fun _ h_ => h_.1))) (Kd.N_typed (by (with_reducible repeat (first | apply Kd.N_alloc | apply Kd.N_drewN | apply Kd.N_drew)); exact (Kd.N_mono (Kd.N_far (p := ⟨gb443, 1, none⟩) (Kd.N_far (p := ⟨gb443, 0, none⟩) (Kd.N_mono HO_9.out (fun k_ hk => (⟨hk, hk.1.1.2.2.2.2.2⟩ : _ ∧ k_ ≠ gb443))) (fun _ hk => hk.2) (.slice Ao62 t483.length co62)) (fun _ hk => hk.2) (.int .i64 t486)) (fun _ h_ => h_.1)))) (by decide) hg); have n7_ := Aside0.mk (Kd.N_afterv (ok := (fun k_ => some k_ ≠ (.slice Ao57 x5_1.length co57 : Value).ownBlock ∧ some k_ ≠ (v440 : Value).ownBlock ∧ some k_ ≠ (.slice Ao11 t435.length co11 : Value).ownBlock ∧ some k_ ≠ (.slice Ao60 x444000_1.length co60 : Value).ownBlock ∧ some k_ ≠ (.slice Ao62 t483.length co62 : Value).ownBlock ∧ k_ ≠ gb442 ∧ k_ ≠ gb443)) (by (with_reducible repeat (first | apply Kd.N_alloc | apply Kd.N_drewN | apply Kd.N_drew)); exact Kd.N_mono (Kd.N_far (p := ⟨gb443, 1, none⟩) (Kd.N_far (p := ⟨gb443, 0, none⟩) (Kd.N_mono HO489.out (fun k_ hk => (⟨hk, hk.2.2.2.2.2.2.2⟩ : _ ∧ k_ ≠ gb443))) (fun _ hk => hk.2) (.slice Ao62 t483.length co62)) (fun _ hk => hk.2) (.int .i64 t486)) (fun _ hk => ⟨⟨hk.1.2.1, ⟨hk.1.2.2.1, ⟨hk.1.2.2.2.2.1, ⟨hk.1.2.2.2.2.2.1, ⟨hk.1.1, ⟨hk.1.2.2.2.2.2.2.1, hk.1.2.2.2.2.2.2.2⟩⟩⟩⟩⟩⟩, hk.1.2.2.2.1⟩)) hg hat); have n8_ := Aside0.mk (hb); have n9_ := Aside0.mk ((show Kd.C (Kd.int .u8) w65 Ao57 y479.length y479 from by rw [Ny479.out]; exact Kd.C_take (m := ((x5_1.length : Int) : Int).toNat) ((Kd.Q_reads' (Kd.Q_over' (by (with_reducible repeat (first | apply Kd.Q_alloc | apply Kd.Q_drewN | apply Kd.Q_drew)); exact (Kd.Q_mono (Kd.Q_far (p := ⟨gb443, 1, none⟩) (Kd.Q_far (p := ⟨gb443, 0, none⟩) (Kd.Q_types HO_5.out BK443.out (by decide)) (fun _ hk => hk.2) (.slice Ao62 t483.length co62)) (fun _ hk => hk.2) (.int .i64 t486)) (fun _ h_ => h_.1))) (Kd.N_typed (by (with_reducible repeat (first | apply Kd.N_alloc | apply Kd.N_drewN | apply Kd.N_drew)); exact (Kd.N_mono (Kd.N_far (p := ⟨gb443, 1, none⟩) (Kd.N_far (p := ⟨gb443, 0, none⟩) (Kd.N_mono HO_9.out (fun k_ hk => (⟨hk, hk.1.1.2.2.2.2.2⟩ : _ ∧ k_ ≠ gb443))) (fun _ hk => hk.2) (.slice Ao62 t483.length co62)) (fun _ hk => hk.2) (.int .i64 t486)) (fun _ h_ => h_.1)))) (by decide) hg)).2.2) KL59.out)); have n10_ := Aside0.mk (ho); clear HO_5; clear HO_7; clear HO_443000; clear HO_444000; clear BK442; clear BK443; clear HO485; clear HO489; clear HB; clear HR482; clear HO_9; have HO_5 := n0_; have HO_7 := n1_; have HO_443000 := n2_; have HO_444000 := n3_; have BK442 := n4_; have BK443 := n5_; have HO485 := n6_; have HO489 := n7_; have HB := n8_; have HR482 := n9_; have HO492 := n10_; clear n0_ n1_ n2_ n3_ n4_ n5_ n6_ n7_ n8_ n9_ n10_; clear ho hb hg hat; have n_ := Aside0.mk (Kd.Q_mono (ok' := (fun k_ => some k_ ≠ (.slice Ao11 t435.length co11 : Value).ownBlock ∧ some k_ ≠ (.slice Ao60 x444000_1.length co60 : Value).ownBlock ∧ some k_ ≠ (.slice Ao62 t483.length co62 : Value).ownBlock)) HO_5.out (fun k_ hk => ⟨hk.1.1, ⟨hk.1.2, hk.2⟩⟩)); clear HO_5; have HO_5 := n_; clear n_; have q67 : ((x5_1.length : Int) : Int) ≤ ((x5_1.length : Int) : Int) := of_decide_eq_true (by first | (with_reducible assumption) | assumption); obtain ⟨i067, hi067, _, hsz67, _⟩ := info_parts info5; have hcut67 := cut_from (P := Try.prog) 22 5 .i64 Try.underlying22 hi067 1 hsz67 Ao57 x5_1.length co57 (x5_1.length : Int) (of_decide_eq_true (by first | (with_reducible assumption) | assumption)) q67; have hr67 := Kd.Q_drop (k := ((x5_1.length : Int) : Int).toNat) HO_5.out (by omega); obtain ⟨A67, hA67⟩ : ∃ A1, A1 = (if co57 = ((x5_1.length : Int) : Int).toNat then Ao57 else (Ao57 : Option Addr).map (·.add (((x5_1.length : Int) : Int).toNat * 1))) := ⟨_, rfl⟩; obtain ⟨c67, hc67⟩ : ∃ c1, c1 = co57 - ((x5_1.length : Int) : Int).toNat := ⟨_, rfl⟩; have hy67 : y493.length = x5_1.length - ((x5_1.length : Int) : Int).toNat := (by rw [Ny493.out, List.length_drop]); rw [← Ny493.out] at hr67; rw [← hy67, ← hA67, ← hc67] at hcut67; replace hr67 : Kd.Q (Kd.int .u8) 5 w65 w.heap.size (fun k_ => some k_ ≠ (.slice Ao11 t435.length co11 : Value).ownBlock ∧ some k_ ≠ (.slice Ao60 x444000_1.length co60 : Value).ownBlock ∧ some k_ ≠ (.slice Ao62 t483.length co62 : Value).ownBlock) (.slice A67 y493.length c67) y493 := (by rw [hA67, hc67, hy67]; exact hr67); have HE67 : Aside0 ((Value.slice A67 y493.length c67).ownBlock = (.slice Ao57 x5_1.length co57 : Value).ownBlock) := ⟨by rw [hA67]; split <;> (first | rfl | (simp only [Option.map_some, Value.ownBlock, add_block]; done) | (cases (Ao57 : Option Addr) <;> first | rfl | (simp [Value.ownBlock, add_block]; done)))⟩; clear hy67 hi067 hsz67 HO_5 hA67 hc67; have HO495 := Aside0.mk hr67; clear hr67; replace q67 := eq_true q67; have n_ := Aside0.mk (Kd.N_mono (ok' := fun k_ => ((some k_ ≠ (.slice A67 y493.length c67 : Value).ownBlock ∧ (some k_ ≠ (.slice Ao11 t435.length co11 : Value).ownBlock ∧ (some k_ ≠ (.slice Ao60 x444000_1.length co60 : Value).ownBlock ∧ (some k_ ≠ (.slice Ao62 t483.length co62 : Value).ownBlock ∧ (some k_ ≠ (.slice Ao66 t487.length co66 : Value).ownBlock ∧ (k_ ≠ gb442 ∧ k_ ≠ gb443)))))) ∧ some k_ ≠ (v491 : Value).ownBlock)) HO_7.out (fun k_ hk => ⟨⟨(by rw [HE67.out]; exact hk.1.1), ⟨hk.1.2.1, ⟨hk.1.2.2.1, ⟨hk.1.2.2.2.1, ⟨hk.1.2.2.2.2.1, ⟨hk.1.2.2.2.2.2.1, hk.1.2.2.2.2.2.2⟩⟩⟩⟩⟩⟩, hk.2⟩)); clear HO_7; have HO_7 := n_; clear n_; have n_ := Aside0.mk (Kd.R_mono (ok' := fun k_ => ((some k_ ≠ (.slice A67 y493.length c67 : Value).ownBlock ∧ some k_ ≠ (.slice Ao60 x444000_1.length co60 : Value).ownBlock) ∧ some k_ ≠ (.slice Ao62 t483.length co62 : Value).ownBlock)) HO_443000.out (fun k_ hk => ⟨⟨(by rw [HE67.out]; exact hk.1.1), hk.1.2⟩, hk.2⟩)); clear HO_443000; have HO_443000 := n_; clear n_; have n_ := Aside0.mk (Kd.R_mono (ok' := fun k_ => ((some k_ ≠ (.slice A67 y493.length c67 : Value).ownBlock ∧ some k_ ≠ (.slice Ao11 t435.length co11 : Value).ownBlock) ∧ some k_ ≠ (.slice Ao62 t483.length co62 : Value).ownBlock)) HO_444000.out (fun k_ hk => ⟨⟨(by rw [HE67.out]; exact hk.1.1), hk.1.2⟩, hk.2⟩)); clear HO_444000; have HO_444000 := n_; clear n_; have n_ := Aside0.mk (Kd.R_mono (ok' := fun k_ => (((True ∧ some k_ ≠ (.slice A67 y493.length c67 : Value).ownBlock) ∧ some k_ ≠ (.slice Ao11 t435.length co11 : Value).ownBlock) ∧ some k_ ≠ (.slice Ao60 x444000_1.length co60 : Value).ownBlock)) HO485.out (fun k_ hk => ⟨⟨⟨trivial, (by rw [HE67.out]; exact hk.1.1.2)⟩, hk.1.2⟩, hk.2⟩)); clear HO485; have HO485 := n_; clear n_; have n_ := Aside0.mk (Kd.N_mono (ok' := fun k_ => ((some k_ ≠ (.slice A67 y493.length c67 : Value).ownBlock ∧ (some k_ ≠ (v440 : Value).ownBlock ∧ (some k_ ≠ (.slice Ao11 t435.length co11 : Value).ownBlock ∧ (some k_ ≠ (.slice Ao60 x444000_1.length co60 : Value).ownBlock ∧ (some k_ ≠ (.slice Ao62 t483.length co62 : Value).ownBlock ∧ (k_ ≠ gb442 ∧ k_ ≠ gb443)))))) ∧ some k_ ≠ (v491 : Value).ownBlock)) HO489.out (fun k_ hk => ⟨⟨(by rw [HE67.out]; exact hk.1.1), ⟨hk.1.2.1, ⟨hk.1.2.2.1, ⟨hk.1.2.2.2.1, ⟨hk.1.2.2.2.2.1, ⟨hk.1.2.2.2.2.2.1, hk.1.2.2.2.2.2.2⟩⟩⟩⟩⟩⟩, hk.2⟩)); clear HO489; have HO489 := n_; clear n_; have n_ := Aside0.mk (Kd.N_mono (ok' := fun k_ => (some k_ ≠ (.slice A67 y493.length c67 : Value).ownBlock ∧ (some k_ ≠ (v440 : Value).ownBlock ∧ (some k_ ≠ (.slice Ao11 t435.length co11 : Value).ownBlock ∧ (some k_ ≠ (.slice Ao60 x444000_1.length co60 : Value).ownBlock ∧ (some k_ ≠ (.slice Ao62 t483.length co62 : Value).ownBlock ∧ (k_ ≠ gb442 ∧ k_ ≠ gb443))))))) HO492.out (fun k_ hk => ⟨(by rw [HE67.out]; exact hk.1), ⟨hk.2.1, ⟨hk.2.2.1, ⟨hk.2.2.2.1, ⟨hk.2.2.2.2.1, ⟨hk.2.2.2.2.2.1, hk.2.2.2.2.2.2⟩⟩⟩⟩⟩⟩)); clear HO492; have HO492 := n_; clear n_))
                go_roundg k1
                case measure => have := HK1.out; omega
                case rel => exact ⟨(y493), (y490), (wrap64 (x10_1 + 1)), (t483), (t486), (.slice Ao62 t483.length co62), (by first | rfl | (simp; done) | (simp [*]; done)), H', ⟨by have := HK1.out; omega⟩, ⟨by (with_reducible repeat (first | apply Kd.Q_alloc | apply Kd.Q_drewN | apply Kd.Q_drew)); exact Kd.Q_mono HO495.out (fun _ hk => ⟨hk.1, hk.2.2⟩)⟩, ⟨by (with_reducible repeat (first | apply Kd.N_alloc | apply Kd.N_drewN | apply Kd.N_drew)); exact Kd.N_mono HO_7.out (fun _ hk => ⟨hk.1.1, ⟨hk.2, ⟨hk.1.2.1, ⟨hk.1.2.2.2.1, ⟨hk.1.2.2.2.2.2.1, hk.1.2.2.2.2.2.2⟩⟩⟩⟩⟩)⟩, ⟨by (with_reducible repeat (first | apply Kd.N_alloc | apply Kd.N_drewN | apply Kd.N_drew)); exact Kd.N_mono HO492.out (fun _ hk => ⟨hk.1, ⟨hk.2.1, ⟨hk.2.2.1, ⟨hk.2.2.2.2.1, ⟨hk.2.2.2.2.2.1, hk.2.2.2.2.2.2⟩⟩⟩⟩⟩)⟩, ⟨by (with_reducible repeat (first | apply Kd.R_alloc | apply Kd.R_drewN | apply Kd.R_drew)); exact Kd.R_mono HO_443000.out (fun _ hk => ⟨hk.1.1, hk.2⟩)⟩, ⟨by (with_reducible repeat (first | apply Kd.R_alloc | apply Kd.R_drewN | apply Kd.R_drew)); exact Kd.R_mono HO485.out (fun _ hk => ⟨hk.1.1.2, hk.1.2⟩)⟩, ⟨by (with_reducible repeat (first | refine blk_drewN ?_ _ | refine blk_drew ?_ | refine blk_alloc ?_ _)); exact BK442.out⟩, ⟨by (with_reducible repeat (first | refine blk_drewN ?_ _ | refine blk_drew ?_ | refine blk_alloc ?_ _)); exact BK443.out⟩, ⟨by repeat (first | (with_reducible first | exact HB.out | apply below_alloc | apply pw_below_drewN | apply below_drew1 | refine below_set ?_ GE442.out | refine below_set ?_ GE443.out) | exact HB.out)⟩⟩
              · rw [if_neg c55] at H
                exact absurd H (by simp)
            · rw [if_neg c53] at H
              exact absurd H (by simp)
          · rw [if_neg c52] at H
            exact absurd H (by simp)
      · rw [if_neg c15] at H
        have c15b0 : decide (0 < (x5_1.length : Int)) = false := decide_eq_false c15
        have c15b1 : decide (0 < x5_1.length) = false := decide_eq_false (by omega)
        clear c15
        by_cases c68 : (strOfNums x444000_1).toList = (strOfNums t435).toList
        · rw [if_pos c68] at H
          have c68b0 : ((strOfNums x444000_1).toList == (strOfNums t435).toList) = true := beq_iff_eq.mpr c68
          have c68b1 : ((strOfNums x444000_1).toList != (strOfNums t435).toList) = false := bne_eq_false_iff_eq.mpr c68
          clear c68
          by_cases c69 : x444001_1 = t438
          · rw [if_pos c69] at H
            have c69b0 : (x444001_1 == t438) = true := beq_iff_eq.mpr c69
            have c69b1 : (x444001_1 != t438) = false := bne_eq_false_iff_eq.mpr c69
            clear c69
            replace H := Option.bind_eq_some_iff.mp H
            obtain ⟨t496, A700, H⟩ := H
            replace H : (if t496 = true then (if (x444000_1.length : Int) < 70 then ((minecontrollaw04_awake.f k1).bind fun t497 => (some t497)) else (some false)) else (some false)) = some r := H
            have A70 := Aside0.mk A700
            clear A700
            by_cases c71 : t496 = true
            · subst c71
              have H1 : (if (x444000_1.length : Int) < 70 then ((minecontrollaw04_awake.f k1).bind fun t497 => (some t497)) else (some false)) = some r := by rw [if_pos rfl] at H; exact H
              clear H
              have H := H1
              clear H1
              by_cases c72 : (x444000_1.length : Int) < 70
              · rw [if_pos c72] at H
                have c72b0 : decide ((x444000_1.length : Int) < 70) = true := decide_eq_true c72
                have c72b1 : decide (x444000_1.length < 70) = true := decide_eq_true (by omega)
                clear c72
                replace H := Option.bind_eq_some_iff.mp H
                obtain ⟨t497, A730, H⟩ := H
                replace H : (some t497) = some r := H
                have A73 := Aside0.mk A730
                clear A730
                obtain rfl := Option.some.inj H
                obtain ⟨Ao74, co74, eo74, _⟩ := Kd.Q_slice HO_5.out
                subst eo74
                have hnb75 := NB443_442.out
                have hnc75 := NB442_443.out
                have hcz76_0 : wr.cell? ⟨gb443, 0, none⟩ = some (u444000) := (blk_cell BK443.out 0).trans rfl
                have hcz76_1 : wr.cell? ⟨gb443, 1, none⟩ = some (.int .i64 x444001_1) := (blk_cell BK443.out 1).trans rfl
                have hfz76_0 := blk_frozen BK443.out 0
                have hfz76_1 := blk_frozen BK443.out 1
                have hcv77 := own_string (P := Try.prog) Try.underlying22 Try.underlying5 Try.underlying9 (Kd.own_of_R HO_444000.out)
                have hcz78_0 : wr.cell? ⟨gb442, 0, none⟩ = some (.slice Ao11 t435.length co11) := (blk_cell BK442.out 0).trans rfl
                have hcz78_1 : wr.cell? ⟨gb442, 1, none⟩ = some (.int .i64 t438) := (blk_cell BK442.out 1).trans rfl
                have hfz78_0 := blk_frozen BK442.out 0
                have hfz78_1 := blk_frozen BK442.out 1
                have hcv79 := own_string (P := Try.prog) Try.underlying22 Try.underlying5 Try.underlying9 (Kd.own_of_R HO_443000.out)
                obtain ⟨Ao80, co80, eo80⟩ := Kd.N_slice HO_9.out
                subst eo80
                obtain ⟨Ao81, co81, eo81⟩ := Kd.N_slice HO_7.out
                subst eo81
                go_wp2_with (first | (go_at_call 20; (with_reducible refine (minecontrolref04_Same.calls k1 _ _ x9_1 _ _ t439 true _ ?side1 ?side2 ?side3 ?side4 A70.out).mono ?_); (case side1 => repeat (first | exact (Kd.N_reads' HO_9.out).2.2 | (with_reducible refine Kd.C_alloc ?_ _) | (with_reducible refine Kd.C_drewN ?_ _) | (with_reducible refine Kd.C_drew ?_))); (case side2 => exact (Kd.N_reads' HO_9.out).2.1); (case side3 => repeat (first | exact (Kd.N_reads' HO_7.out).2.2 | (with_reducible refine Kd.C_alloc ?_ _) | (with_reducible refine Kd.C_drewN ?_ _) | (with_reducible refine Kd.C_drew ?_))); (case side4 => exact (Kd.N_reads' HO_7.out).2.1); rintro e w' ⟨rfl, ⟨nd, rfl⟩⟩; obtain ⟨Ao82, co82, eo82⟩ := Kd.R_slice HO_444000.out; subst eo82) | (go_at_call 9; (with_reducible refine (minecontrollaw04_awake.calls k1  t497 _ A73.out).mono ?_); rintro e w83 ⟨rfl, hb⟩; have n0_ := Aside0.mk (Kd.Q_below (by (with_reducible repeat (first | apply Kd.Q_alloc | apply Kd.Q_drewN | apply Kd.Q_drew)); exact HO_5.out) hb); have n1_ := Aside0.mk (Kd.N_below (by (with_reducible repeat (first | apply Kd.N_alloc | apply Kd.N_drewN | apply Kd.N_drew)); exact HO_7.out) hb); have n2_ := Aside0.mk (Kd.N_below (by (with_reducible repeat (first | apply Kd.N_alloc | apply Kd.N_drewN | apply Kd.N_drew)); exact HO_9.out) hb); have n3_ := Aside0.mk (Kd.R_below (by (with_reducible repeat (first | apply Kd.R_alloc | apply Kd.R_drewN | apply Kd.R_drew)); exact HO_443000.out) hb); have n4_ := Aside0.mk (Kd.R_below (by (with_reducible repeat (first | apply Kd.R_alloc | apply Kd.R_drewN | apply Kd.R_drew)); exact HO_444000.out) hb); have n5_ := Aside0.mk (blk_below (g := gb442) (o := .cells #[.slice Ao11 t435.length co11, .int .i64 t438] 36 (0, 0)) (by (with_reducible repeat (first | refine blk_drewN ?_ _ | refine blk_drew ?_ | refine blk_alloc ?_ _)); exact BK442.out) hb); have n6_ := Aside0.mk (blk_below (g := gb443) (o := .cells #[.slice Ao82 x444000_1.length co82, .int .i64 x444001_1] 36 (0, 0)) (by (with_reducible repeat (first | refine blk_drewN ?_ _ | refine blk_drew ?_ | refine blk_alloc ?_ _)); exact BK443.out) hb); have n7_ := Aside0.mk (below_step (by repeat (first | (with_reducible first | exact HB.out | apply below_alloc | apply pw_below_drewN | apply below_drew1 | refine below_set ?_ GE442.out | refine below_set ?_ GE443.out) | exact HB.out)) hb); clear HO_5; clear HO_7; clear HO_9; clear HO_443000; clear HO_444000; clear BK442; clear BK443; clear HB; have HO_5 := n0_; have HO_7 := n1_; have HO_9 := n2_; have HO_443000 := n3_; have HO_444000 := n4_; have BK442 := n5_; have BK443 := n6_; have HB := n7_; clear n0_ n1_ n2_ n3_ n4_ n5_ n6_ n7_; (try clear hb); (try clear hb2); (try clear hge); (try clear hk); (try clear hi)))
                go_ret
                exact ⟨by first | rfl | (simp [errW_none, errW_some] <;> rfl) | (simp [*, errW_none, errW_some] <;> rfl), by repeat (first | (with_reducible first | exact HB.out | apply below_alloc | apply pw_below_drewN | apply below_drew1 | refine below_set ?_ GE442.out | refine below_set ?_ GE443.out) | exact HB.out)⟩
              · rw [if_neg c72] at H
                have c72b0 : decide ((x444000_1.length : Int) < 70) = false := decide_eq_false c72
                have c72b1 : decide (x444000_1.length < 70) = false := decide_eq_false (by omega)
                clear c72
                obtain rfl := Option.some.inj H
                exact absurd hr_.out (by decide)
            · replace c71 := Bool.eq_false_iff.mpr c71
              subst c71
              have H1 : (some false) = some r := by rw [if_neg (show ¬ (false = true) by decide)] at H; exact H
              clear H
              have H := H1
              clear H1
              obtain rfl := Option.some.inj H
              exact absurd hr_.out (by decide)
          · rw [if_neg c69] at H
            have c69b0 : (x444001_1 == t438) = false := beq_eq_false_iff_ne.mpr c69
            have c69b1 : (x444001_1 != t438) = true := bne_iff_ne.mpr c69
            obtain rfl := Option.some.inj H
            exact absurd hr_.out (by decide)
        · rw [if_neg c68] at H
          have c68b0 : ((strOfNums x444000_1).toList == (strOfNums t435).toList) = false := beq_eq_false_iff_ne.mpr c68
          have c68b1 : ((strOfNums x444000_1).toList != (strOfNums t435).toList) = true := bne_iff_ne.mpr c68
          obtain rfl := Option.some.inj H
          exact absurd hr_.out (by decide)

/-- THE ONE PURE STATEMENT of minecontrollaw04_TelegramPieces: yours. -/
def minecontrollaw04_TelegramPieces.Pure : Prop := ∀ (l0 : List Int) (l1 : List Int), l0.length ≤ maxLen → l0.length * 1 ≤ 140737488351232 → (∀ x ∈ l0, (Lit.int .u8 x).wf = true) → l1.length ≤ maxLen → l1.length * 1 ≤ 140737488351232 → (∀ x ∈ l1, (Lit.int .u8 x).wf = true) → ∃ k, minecontrollaw04_TelegramPieces.f k l0 l1 = some true
theorem minecontrollaw04_TelegramPieces.walk (P : minecontrollaw04_TelegramPieces.Pure) (a0 : Option Addr) (len0 cap0 : Nat) (z0 : List Int) (a1 : Option Addr) (len1 cap1 : Nat) (z1 : List Int) (w : World) (w0 : (a0 = none ∧ len0 = 0 ∧ cap0 = 0 ∧ z0 = []) ∨ ∃ x, a0 = some x ∧ len0 ≤ cap0 ∧ cap0 ≤ maxLen ∧ z0.length = cap0 ∧ (∀ i, i < z0.length → w.cell? (x.add i) = some (.int .u8 (z0.getD i 0))) ∧ ∀ n ∈ z0, (Lit.int .u8 n).wf = true) (y0 : len0 * 1 ≤ 140737488351232) (w1 : (a1 = none ∧ len1 = 0 ∧ cap1 = 0 ∧ z1 = []) ∨ ∃ x, a1 = some x ∧ len1 ≤ cap1 ∧ cap1 ≤ maxLen ∧ z1.length = cap1 ∧ (∀ i, i < z1.length → w.cell? (x.add i) = some (.int .u8 (z1.getD i 0))) ∧ ∀ n ∈ z1, (Lit.int .u8 n).wf = true) (y1 : len1 * 1 ≤ 140737488351232) :
    Calls Try.prog 5 #[.slice a0 len0 cap0, .slice a1 len1 cap1] w fun e w' => e = .returned (.bool true) ∧ Below w.heap.size w w' := by
  obtain ⟨l0, rfl, hr0, hm0, hw0, hc0⟩ := ReadsInt.ofRowC w0
  obtain ⟨l1, rfl, hr1, hm1, hw1, hc1⟩ := ReadsInt.ofRowC w1
  obtain ⟨k, h⟩ := P l0 l1 hm0 y0 hw0 hm1 y1 hw1
  refine (minecontrollaw04_TelegramPieces.calls1 k _ _ l0 _ _ l1 true w (Kd.C_of_reads (d := (0 : Int)) (h1 := fun _ => rfl) hr0) hc0 (Kd.C_of_reads (d := (0 : Int)) (h1 := fun _ => rfl) hr1) hc1 (.mk rfl) h).mono ?_
  rintro e w' ⟨rfl, hd⟩
  exact ⟨rfl, hd⟩

end Go.Proofs.Ytacogcnckhgjbaa.PTel
