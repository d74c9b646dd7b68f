/- Functions of the given program as Lean functions, and proofs that its calls come to what these say. Written by a program of this seat (wip/mkprint.py); Lean checks it all. -/
import Derived.Test.YtacogcnckhgjbaaPTerx0
import Derived.Test.YtacogcnckhgjbaaPTerx2
import Derived.Test.YtacogcnckhgjbaaPTerx3
import Derived.Test.YtacogcnckhgjbaaPTerx5
import Derived.Test.YtacogcnckhgjbaaPTerx6
namespace Go.Proofs.Ytacogcnckhgjbaa.PTer
open Go.RowKit Go.Proofs.YtacogcnckhgjbaaW.PrintWords Go.Proofs.YtacogcnckhgjbaaW.PrintLast Go.Proofs.YtacogcnckhgjbaaW.PrintMore
attribute [local go_sem] max2_int min2_int max_two min_two max_three min_three max_four min_four   -- for this text's walks alone
set_option linter.unusedVariables false
set_option linter.unusedSimpArgs false

/-! ### minecontrollaw04_TelegramReads: function 4 -/
mutual
def minecontrollaw04_TelegramReads.j0 : Nat → List Int → List Int → Int → Bool → List Int → Int → Option (Bool)
 | 0, _, _, _, _, _, _ => none
 | k + 1, x0, x2, x3, x29, x335000, x335001 => if x29 = true then ((minecontrollaw04_awake.f k).bind fun t335 => (some t335)) else ((minecontroldraw_New.f x0).bind fun bt336 => ((minecontroldraw_Codes_Bytes.f k bt336.1 bt336.2 5).bind fun bt339 => ((some (([bt339.1, x2] : List (List Int)) : List (List Int))).bind fun y343 => (minecontrollaw04_TelegramReads.l0 k x3 y343 (y343.length : Int) 0 x335000 x335001))))
def minecontrollaw04_TelegramReads.l0 : Nat → Int → List (List Int) → Int → Int → List Int → Int → Option (Bool)
 | 0, _, _, _, _, _, _ => none
 | k + 1, x3, x35, x36, x37, x335000, x335001 => if x37 < x36 then (if 0 ≤ x37 then (if x37 < (x35.length : Int) then ((minecontroldraw_Mod.f x3 (wrap64 (((rd_L2 x35 x37).length : Int) + 1))).bind fun t348 => (if 0 ≤ t348 then (if t348 ≤ ((rd_L2 x35 x37).length : Int) then ((telegram_Feed.f k x335000 x335001 ((rd_L2 x35 x37).take (t348 : Int).toNat)).bind fun bt354 => ((minecontrolref04_Feed.f k x335000 x335001 ((rd_L2 x35 x37).take (t348 : Int).toNat)).bind fun bt367 => (if (strOfNums bt354.1).toList = (strOfNums bt367.1).toList then (if bt354.2.1 = bt367.2.1 then ((minecontrolref04_Same.f k bt354.2.2 bt367.2.2).bind fun t375 => (minecontrollaw04_TelegramReads.j2 k x3 (rd_L2 x35 x37) t348 x35 x36 x37 (!t375) x335000 x335001 bt367.1 bt367.2.1)) else (minecontrollaw04_TelegramReads.j2 k x3 (rd_L2 x35 x37) t348 x35 x36 x37 true x335000 x335001 bt367.1 bt367.2.1)) else (minecontrollaw04_TelegramReads.j2 k x3 (rd_L2 x35 x37) t348 x35 x36 x37 true x335000 x335001 bt367.1 bt367.2.1)))) else (none)) else (none))) else (none)) else (none)) else ((minecontrollaw04_awake.f k).bind fun t346 => (some t346))
def minecontrollaw04_TelegramReads.j2 : Nat → Int → List Int → Int → List (List Int) → Int → Int → Bool → List Int → Int → List Int → Int → Option (Bool)
 | 0, _, _, _, _, _, _, _, _, _, _, _ => none
 | k + 1, x3, x10, x11, x35, x36, x37, x81, x335000, x335001, x375000, x375001 => if x81 = true then (some false) else (if 0 ≤ x11 then (if x11 ≤ (x10.length : Int) then ((telegram_Feed.f k x375000 x375001 (x10.drop (x11 : Int).toNat)).bind fun bt381 => ((minecontrolref04_Feed.f k x375000 x375001 (x10.drop (x11 : Int).toNat)).bind fun bt393 => (if (strOfNums bt381.1).toList = (strOfNums bt393.1).toList then (if bt381.2.1 = bt393.2.1 then ((minecontrolref04_Same.f k bt381.2.2 bt393.2.2).bind fun t400 => (if t400 = true then (minecontrollaw04_TelegramReads.l0 k x3 x35 x36 (wrap64 (x37 + 1)) x335000 x335001) else (some false))) else (some false)) else (some false)))) else (none)) else (none))
end
def minecontrollaw04_TelegramReads.f (k : Nat) (l0 : List Int) (l1_0 : List Int) (a1_1 : Int) (l2 : List Int) (a3 : Int) : Option (Bool) := if (l1_0.length : Int) > 200 then (minecontrollaw04_TelegramReads.j0 k l0 l2 a3 true l1_0 a1_1) else (if (l2.length : Int) > 300 then (minecontrollaw04_TelegramReads.j0 k l0 l2 a3 true l1_0 a1_1) else (minecontrollaw04_TelegramReads.j0 k l0 l2 a3 (decide (a1_1 > 1099511627776)) l1_0 a1_1))
theorem minecontrollaw04_TelegramReads.mono_l : ∀ k, (∀ y0 y1 y2 y3 y4 y5, LeO (minecontrollaw04_TelegramReads.j0 k y0 y1 y2 y3 y4 y5) (minecontrollaw04_TelegramReads.j0 (k + 1) y0 y1 y2 y3 y4 y5)) ∧ (∀ y0 y1 y2 y3 y4 y5, LeO (minecontrollaw04_TelegramReads.l0 k y0 y1 y2 y3 y4 y5) (minecontrollaw04_TelegramReads.l0 (k + 1) y0 y1 y2 y3 y4 y5)) ∧ (∀ y0 y1 y2 y3 y4 y5 y6 y7 y8 y9 y10, LeO (minecontrollaw04_TelegramReads.j2 k y0 y1 y2 y3 y4 y5 y6 y7 y8 y9 y10) (minecontrollaw04_TelegramReads.j2 (k + 1) y0 y1 y2 y3 y4 y5 y6 y7 y8 y9 y10))
 | 0 => ⟨fun _ _ _ _ _ _ r h => by simp [minecontrollaw04_TelegramReads.j0] at h, fun _ _ _ _ _ _ r h => by simp [minecontrollaw04_TelegramReads.l0] at h, fun _ _ _ _ _ _ _ _ _ _ _ r h => by simp [minecontrollaw04_TelegramReads.j2] at h⟩
 | k + 1 => by
  obtain ⟨ih0, ih1, ih2⟩ := minecontrollaw04_TelegramReads.mono_l k
  refine ⟨?_, ?_, ?_⟩
  ·
   intro y0 y1 y2 y3 y4 y5
   unfold minecontrollaw04_TelegramReads.j0
   repeat' first
   | (with_reducible exact ih0 _ _ _ _ _ _)
   | (with_reducible exact ih1 _ _ _ _ _ _)
   | (with_reducible exact ih2 _ _ _ _ _ _ _ _ _ _ _)
   | (with_reducible exact minecontroldraw_Codes_Bytes.mono _ _ _ _)
   | (with_reducible exact minecontrollaw04_awake.mono _)
   | (with_reducible exact minecontrolref04_Feed.mono _ _ _ _)
   | (with_reducible exact minecontrolref04_Same.mono _ _ _)
   | (with_reducible exact telegram_Feed.mono _ _ _ _)
   | (with_reducible exact LeO.refl _)
   | (with_reducible exact LeO.none _)
   | (with_reducible refine LeO.ite ?_ ?_)
   | (with_reducible refine LeO.bind ?_ (fun _ => ?_))
   | exact ih0 _ _ _ _ _ _
   | exact ih1 _ _ _ _ _ _
   | exact ih2 _ _ _ _ _ _ _ _ _ _ _
   | exact minecontroldraw_Codes_Bytes.mono _ _ _ _
   | exact minecontrollaw04_awake.mono _
   | exact minecontrolref04_Feed.mono _ _ _ _
   | exact minecontrolref04_Same.mono _ _ _
   | exact telegram_Feed.mono _ _ _ _
   | exact LeO.none _
   | refine LeO.ite ?_ ?_
   | refine LeO.bind ?_ (fun _ => ?_)
  ·
   intro y0 y1 y2 y3 y4 y5
   unfold minecontrollaw04_TelegramReads.l0
   repeat' first
   | (with_reducible exact ih0 _ _ _ _ _ _)
   | (with_reducible exact ih1 _ _ _ _ _ _)
   | (with_reducible exact ih2 _ _ _ _ _ _ _ _ _ _ _)
   | (with_reducible exact minecontroldraw_Codes_Bytes.mono _ _ _ _)
   | (with_reducible exact minecontrollaw04_awake.mono _)
   | (with_reducible exact minecontrolref04_Feed.mono _ _ _ _)
   | (with_reducible exact minecontrolref04_Same.mono _ _ _)
   | (with_reducible exact telegram_Feed.mono _ _ _ _)
   | (with_reducible exact LeO.refl _)
   | (with_reducible exact LeO.none _)
   | (with_reducible refine LeO.ite ?_ ?_)
   | (with_reducible refine LeO.bind ?_ (fun _ => ?_))
   | exact ih0 _ _ _ _ _ _
   | exact ih1 _ _ _ _ _ _
   | exact ih2 _ _ _ _ _ _ _ _ _ _ _
   | exact minecontroldraw_Codes_Bytes.mono _ _ _ _
   | exact minecontrollaw04_awake.mono _
   | exact minecontrolref04_Feed.mono _ _ _ _
   | exact minecontrolref04_Same.mono _ _ _
   | exact telegram_Feed.mono _ _ _ _
   | exact LeO.none _
   | refine LeO.ite ?_ ?_
   | refine LeO.bind ?_ (fun _ => ?_)
  ·
   intro y0 y1 y2 y3 y4 y5 y6 y7 y8 y9 y10
   unfold minecontrollaw04_TelegramReads.j2
   repeat' first
   | (with_reducible exact ih0 _ _ _ _ _ _)
   | (with_reducible exact ih1 _ _ _ _ _ _)
   | (with_reducible exact ih2 _ _ _ _ _ _ _ _ _ _ _)
   | (with_reducible exact minecontroldraw_Codes_Bytes.mono _ _ _ _)
   | (with_reducible exact minecontrollaw04_awake.mono _)
   | (with_reducible exact minecontrolref04_Feed.mono _ _ _ _)
   | (with_reducible exact minecontrolref04_Same.mono _ _ _)
   | (with_reducible exact telegram_Feed.mono _ _ _ _)
   | (with_reducible exact LeO.refl _)
   | (with_reducible exact LeO.none _)
   | (with_reducible refine LeO.ite ?_ ?_)
   | (with_reducible refine LeO.bind ?_ (fun _ => ?_))
   | exact ih0 _ _ _ _ _ _
   | exact ih1 _ _ _ _ _ _
   | exact ih2 _ _ _ _ _ _ _ _ _ _ _
   | exact minecontroldraw_Codes_Bytes.mono _ _ _ _
   | exact minecontrollaw04_awake.mono _
   | exact minecontrolref04_Feed.mono _ _ _ _
   | exact minecontrolref04_Same.mono _ _ _
   | exact telegram_Feed.mono _ _ _ _
   | exact LeO.none _
   | refine LeO.ite ?_ ?_
   | refine LeO.bind ?_ (fun _ => ?_)
theorem minecontrollaw04_TelegramReads.mono : ∀ a0 a1 a2 a3 a4 k, LeO (minecontrollaw04_TelegramReads.f k a0 a1 a2 a3 a4) (minecontrollaw04_TelegramReads.f (k + 1) a0 a1 a2 a3 a4) := by
 intro a0 a1 a2 a3 a4 k
 obtain ⟨ih0, ih1, ih2⟩ := minecontrollaw04_TelegramReads.mono_l k
 unfold minecontrollaw04_TelegramReads.f
 repeat' first
   | (with_reducible exact ih0 _ _ _ _ _ _)
   | (with_reducible exact ih1 _ _ _ _ _ _)
   | (with_reducible exact ih2 _ _ _ _ _ _ _ _ _ _ _)
   | (with_reducible exact minecontroldraw_Codes_Bytes.mono _ _ _ _)
   | (with_reducible exact minecontrollaw04_awake.mono _)
   | (with_reducible exact minecontrolref04_Feed.mono _ _ _ _)
   | (with_reducible exact minecontrolref04_Same.mono _ _ _)
   | (with_reducible exact telegram_Feed.mono _ _ _ _)
   | (with_reducible exact LeO.refl _)
   | (with_reducible exact LeO.none _)
   | (with_reducible refine LeO.ite ?_ ?_)
   | (with_reducible refine LeO.bind ?_ (fun _ => ?_))
   | exact ih0 _ _ _ _ _ _
   | exact ih1 _ _ _ _ _ _
   | exact ih2 _ _ _ _ _ _ _ _ _ _ _
   | exact minecontroldraw_Codes_Bytes.mono _ _ _ _
   | exact minecontrollaw04_awake.mono _
   | exact minecontrolref04_Feed.mono _ _ _ _
   | exact minecontrolref04_Same.mono _ _ _
   | exact telegram_Feed.mono _ _ _ _
   | exact LeO.none _
   | refine LeO.ite ?_ ?_
   | refine LeO.bind ?_ (fun _ => ?_)
def minecontrollaw04_TelegramReads.T7 : Bool × List (List Nat × List Nat) := (true, [([], []), ([], []), ([], []), ([1, 2], [1, 2]), ([0, 3], [0, 3]), ([4], [4]), ([5], [5]), ([5], [5]), ([], []), ([8, 6, 4, 0, 1, 2, 3, 4, 5, 6, 8], [6, 8]), ([7, 9, 0, 1, 2, 3, 4, 5, 6, 7, 8, 9], [7])])
def minecontrollaw04_TelegramReads.B7 : List Nat := [0, 0, 0, 6, 15, 31, 63, 63, 0, 383, 1023]
theorem minecontrollaw04_TelegramReads.tab7 : rtab .any (opsOf Try.f4 7) = minecontrollaw04_TelegramReads.T7 := by kernel_rfl
theorem minecontrollaw04_TelegramReads.bits7 : waitsOk minecontrollaw04_TelegramReads.T7.2 minecontrollaw04_TelegramReads.B7 = true := by kernel_rfl
def minecontrollaw04_TelegramReads.T8 : Bool × List (List Nat × List Nat) := (true, [([], []), ([], []), ([], []), ([1, 2], [1, 2]), ([0, 3], [0, 3]), ([4], [4]), ([5], [5]), ([5], [5]), ([], []), ([8, 6, 4, 0, 1, 2, 3, 4, 5, 6, 8], [6, 8]), ([7, 9, 0, 1, 2, 3, 4, 5, 6, 7, 8, 9], [7])])
def minecontrollaw04_TelegramReads.B8 : List Nat := [0, 0, 0, 6, 15, 31, 63, 63, 0, 383, 1023]
theorem minecontrollaw04_TelegramReads.tab8 : rtab .any (opsOf Try.f4 8) = minecontrollaw04_TelegramReads.T8 := by kernel_rfl
theorem minecontrollaw04_TelegramReads.bits8 : waitsOk minecontrollaw04_TelegramReads.T8.2 minecontrollaw04_TelegramReads.B8 = true := by kernel_rfl
def minecontrollaw04_TelegramReads.T11 : Bool × List (List Nat × List Nat) := (true, [([], []), ([], []), ([], []), ([1, 2], [1, 2]), ([0, 3], [0, 3]), ([4], [4]), ([5], [5]), ([5], [5]), ([6, 4, 0, 1, 2, 3, 4, 5, 6], [6]), ([7, 8, 0, 1, 2, 3, 4, 5, 6, 7, 8], [7])])
def minecontrollaw04_TelegramReads.B11 : List Nat := [0, 0, 0, 6, 15, 31, 63, 63, 127, 511]
theorem minecontrollaw04_TelegramReads.tab11 : rtab .any (opsOf Try.f4 11) = minecontrollaw04_TelegramReads.T11 := by kernel_rfl
theorem minecontrollaw04_TelegramReads.bits11 : waitsOk minecontrollaw04_TelegramReads.T11.2 minecontrollaw04_TelegramReads.B11 = true := by kernel_rfl
def minecontrollaw04_TelegramReads.T12 : Bool × List (List Nat × List Nat) := (true, [([], []), ([], []), ([], []), ([1, 2], [1, 2]), ([0, 3], [0, 3]), ([4], [4]), ([5], [5]), ([5], [5]), ([6, 4, 0, 1, 2, 3, 4, 5, 6], [6]), ([7, 8, 0, 1, 2, 3, 4, 5, 6, 7, 8], [7])])
def minecontrollaw04_TelegramReads.B12 : List Nat := [0, 0, 0, 6, 15, 31, 63, 63, 127, 511]
theorem minecontrollaw04_TelegramReads.tab12 : rtab .any (opsOf Try.f4 12) = minecontrollaw04_TelegramReads.T12 := by kernel_rfl
theorem minecontrollaw04_TelegramReads.bits12 : waitsOk minecontrollaw04_TelegramReads.T12.2 minecontrollaw04_TelegramReads.B12 = true := by kernel_rfl
set_option maxHeartbeats 8000000 in
set_option maxRecDepth 100000 in
theorem minecontrollaw04_TelegramReads.calls1 (k : Nat) (A0 : Option Addr) (c0 : Nat) (l0 : List Int) (A1_0 : Option Addr) (c1_0 : Nat) (l1_0 : List Int) (a1_1 : Int) (P2_ : Nat → Prop) (A2 : Option Addr) (c2 : Nat) (l2 : List Int) (a3 : Int) (r : Bool) (w : World) (hr0 : Kd.C (Kd.int .u8) w A0 l0.length l0) (hc0 : l0.length ≤ c0) (hr1_0 : Kd.C (Kd.int .u8) w A1_0 l1_0.length l1_0) (hc1_0 : l1_0.length ≤ c1_0) (hs2 : Kd.V (Kd.int .u8) 5 w w.heap.size (fun k_ => P2_ k_) (.slice A2 l2.length c2) l2) (hr_ : Aside0 (r = true)) (h : minecontrollaw04_TelegramReads.f k l0 l1_0 a1_1 l2 a3 = some r) :
  Calls Try.prog 4 #[.slice A0 l0.length c0, .agg #[.slice A1_0 l1_0.length c1_0, .int .i64 a1_1], .slice A2 l2.length c2, .int .i64 a3] w fun e w' => e = .returned (.bool r) ∧ Below w.heap.size w w' := by
 have hu36 := Try.underlying36
 have HR0 := Aside0.mk hr0
 have HC0 := Aside0.mk hc0
 clear hr0 hc0
 have HR1_0 := Aside0.mk hr1_0
 have HC1_0 := Aside0.mk hc1_0
 clear hr1_0 hc1_0
 have HO2 := Aside0.mk (show Kd.V (Kd.int .u8) 5 w w.heap.size (fun k_ => (P2_ k_ ∨ w.heap.size ≤ k_)) (.slice A2 l2.length c2) l2 from Kd.V_mono hs2 (fun k_ hk => .inl hk))
 have HB := Aside0.mk (Below.refl w.heap.size w)
 have H : (if (l1_0.length : Int) > 200 then (minecontrollaw04_TelegramReads.j0 k l0 l2 a3 true l1_0 a1_1) else (if (l2.length : Int) > 300 then (minecontrollaw04_TelegramReads.j0 k l0 l2 a3 true l1_0 a1_1) else (minecontrollaw04_TelegramReads.j0 k l0 l2 a3 (decide (a1_1 > 1099511627776)) l1_0 a1_1))) = some r := h
 clear h
 have HC5 := Aside0.mk H
 clear H
 go_enter Try.func4, Try.ntmps4
 go_upto_region 1 with (first | ((with_reducible refine gate_dst (N := 5) rfl ?_); (try (refine gate_guard (by rfl) ?_; dsimp only)); refine box_event ?hg (N := 5) ?hd (cs := #[.slice A1_0 l1_0.length c1_0, .int .i64 a1_1]) (t := 36) ?hr ?_; (case hd => rfl); (case hg => rfl); (case hr => first | (go_simp; done) | (go_simp; rfl)); intro gb334 hg w6 hbox hb; have n0_ := Aside0.mk (Kd.V_below (Kd.V_elderB (by (with_reducible repeat (first | apply Kd.V_alloc | apply Kd.V_drewN | apply Kd.V_drew)); exact HO2.out) gb334 (Nat.le_of_eq hg.symm)) hb); have n1_ := Aside0.mk (below_step (by repeat (first | (with_reducible first | exact HB.out | apply below_alloc | apply pw_below_drewN | apply below_drew1) | exact HB.out)) hb); have n2_ := Aside0.mk (hbox); have n3_ := Aside0.mk ((by rw [hg]; exact (below_size (by repeat (first | (with_reducible first | exact HB.out | apply below_alloc | apply pw_below_drewN | apply below_drew1) | exact HB.out))) : w.heap.size ≤ gb334)); have n4_ := Aside0.mk ((by rw [hg]; exact (below_size (by repeat (first | (with_reducible first | exact HB.out | apply below_alloc | apply pw_below_drewN | apply below_drew1) | exact HB.out))) : w.heap.size ≤ gb334)); clear HO2; clear HB; have HO2 := n0_; have HB := n1_; have BK334 := n2_; have GW334 := n3_; have GE334 := n4_; clear n0_ n1_ n2_ n3_ n4_; clear hb hbox hg))
 (try simp only [Act.put, List.setIfInBounds_toArray, List.set_cons_zero, List.set_cons_succ])
 go_cut [29] (fun v29 wc => ∃ (kq : Nat) (x29_4 : Bool), v29 = .bool x29_4 ∧ Aside0 (minecontrollaw04_TelegramReads.j0 kq l0 l2 a3 x29_4 l1_0 a1_1 = some r) ∧ Aside0 (kq ≤ k) ∧ Aside0 (Kd.V (Kd.int .u8) 5 wc w.heap.size (fun k_ => (P2_ k_ ∨ w.heap.size ≤ k_) ∧ k_ ≠ gb334) (.slice A2 l2.length c2) l2) ∧ Aside0 (wc.heap[gb334]? = some (.cells #[(.slice A1_0 l1_0.length c1_0), .int .i64 a1_1] 36 (0, 0))) ∧ Aside0 (Below w.heap.size w wc))
 case first =>
  have H := HC5.out
  clear HC5
  by_cases c7 : (l1_0.length : Int) > 200
  ·
   rw [if_pos c7] at H
   have c7b0 : decide (200 < (l1_0.length : Int)) = true := decide_eq_true c7
   have c7b1 : decide (200 < l1_0.length) = true := decide_eq_true (by omega)
   clear c7
   (first | rw [c7b0] | (simp only [i64_w, i32_w]; rw [c7b0]) | skip)
   have H' := Aside0.mk H
   clear H
   have hcz8_0 : w6.cell? ⟨gb334, 0, none⟩ = some (.slice A1_0 l1_0.length c1_0) := (blk_cell BK334.out 0).trans rfl
   have hcz8_1 : w6.cell? ⟨gb334, 1, none⟩ = some (.int .i64 a1_1) := (blk_cell BK334.out 1).trans rfl
   have hfz8_0 := blk_frozen BK334.out 0
   have hfz8_1 := blk_frozen BK334.out 1
   go_wp2
   go_meet
   case rel => exact ⟨_, (true), (by first | rfl | (simp; done) | (simp [*]; done)), H', ⟨by first | omega | exact Nat.le_refl _⟩, ⟨by (with_reducible repeat (first | apply Kd.V_alloc | apply Kd.V_drewN | apply Kd.V_drew)); exact HO2.out⟩, ⟨by (with_reducible repeat (first | refine blk_drewN ?_ _ | refine blk_drew ?_ | refine blk_alloc ?_ _)); exact BK334.out⟩, ⟨by repeat (first | (with_reducible first | exact HB.out | apply below_alloc | apply pw_below_drewN | apply below_drew1 | refine below_set ?_ GE334.out) | exact HB.out)⟩⟩
  ·
   rw [if_neg c7] at H
   have c7b0 : decide (200 < (l1_0.length : Int)) = false := decide_eq_false c7
   have c7b1 : decide (200 < l1_0.length) = false := decide_eq_false (by omega)
   clear c7
   (first | rw [c7b0] | (simp only [i64_w, i32_w]; rw [c7b0]) | skip)
   by_cases c9 : (l2.length : Int) > 300
   ·
    rw [if_pos c9] at H
    have c9b0 : decide (300 < (l2.length : Int)) = true := decide_eq_true c9
    have c9b1 : decide (300 < l2.length) = true := decide_eq_true (by omega)
    clear c9
    have H' := Aside0.mk H
    clear H
    have hcz10_0 : w6.cell? ⟨gb334, 0, none⟩ = some (.slice A1_0 l1_0.length c1_0) := (blk_cell BK334.out 0).trans rfl
    have hcz10_1 : w6.cell? ⟨gb334, 1, none⟩ = some (.int .i64 a1_1) := (blk_cell BK334.out 1).trans rfl
    have hfz10_0 := blk_frozen BK334.out 0
    have hfz10_1 := blk_frozen BK334.out 1
    go_wp2
    go_meet
    case rel => exact ⟨_, (true), (by first | rfl | (simp; done) | (simp [*]; done)), H', ⟨by first | omega | exact Nat.le_refl _⟩, ⟨by (with_reducible repeat (first | apply Kd.V_alloc | apply Kd.V_drewN | apply Kd.V_drew)); exact HO2.out⟩, ⟨by (with_reducible repeat (first | refine blk_drewN ?_ _ | refine blk_drew ?_ | refine blk_alloc ?_ _)); exact BK334.out⟩, ⟨by repeat (first | (with_reducible first | exact HB.out | apply below_alloc | apply pw_below_drewN | apply below_drew1 | refine below_set ?_ GE334.out) | exact HB.out)⟩⟩
   ·
    rw [if_neg c9] at H
    have c9b0 : decide (300 < (l2.length : Int)) = false := decide_eq_false c9
    have c9b1 : decide (300 < l2.length) = false := decide_eq_false (by omega)
    clear c9
    have H' := Aside0.mk H
    clear H
    have hcz11_0 : w6.cell? ⟨gb334, 0, none⟩ = some (.slice A1_0 l1_0.length c1_0) := (blk_cell BK334.out 0).trans rfl
    have hcz11_1 : w6.cell? ⟨gb334, 1, none⟩ = some (.int .i64 a1_1) := (blk_cell BK334.out 1).trans rfl
    have hfz11_0 := blk_frozen BK334.out 0
    have hfz11_1 := blk_frozen BK334.out 1
    go_wp2
    go_meet
    case rel => exact ⟨_, (decide (a1_1 > 1099511627776)), (by first | rfl | (simp; done) | (simp [*]; done)), H', ⟨by first | omega | exact Nat.le_refl _⟩, ⟨by (with_reducible repeat (first | apply Kd.V_alloc | apply Kd.V_drewN | apply Kd.V_drew)); exact HO2.out⟩, ⟨by (with_reducible repeat (first | refine blk_drewN ?_ _ | refine blk_drew ?_ | refine blk_alloc ?_ _)); exact BK334.out⟩, ⟨by repeat (first | (with_reducible first | exact HB.out | apply below_alloc | apply pw_below_drewN | apply below_drew1 | refine below_set ?_ GE334.out) | exact HB.out)⟩⟩
 case rest =>
  clear HC5
  try clear c1; try clear c2; try clear p2; try clear c4; try clear c7; try clear c7b0; try clear c7b1; try clear c9; try clear c9b0; try clear c9b1; try clear hcz10_0; try clear hcz10_1; try clear hcz11_0; try clear hcz11_1; try clear hcz8_0; try clear hcz8_1; try clear hfz10_0; try clear hfz10_1; try clear hfz11_0
  try clear hfz11_1; try clear hfz8_0; try clear hfz8_1
  obtain ⟨kq, x29_4, rfl, HA, HJ4, HO_2, BK334, HB⟩ := hcut
  cases kq with
  | zero => exact absurd HA.out (by simp [minecontrollaw04_TelegramReads.j0])
  | succ kj4 =>
   have H := HA.out
   clear HA
   simp only [minecontrollaw04_TelegramReads.j0] at H
   by_cases c12 : x29_4 = true
   ·
    subst c12
    have H1 : ((minecontrollaw04_awake.f kj4).bind fun t335 => (some t335)) = some r := by rw [if_pos rfl] at H; exact H
    clear H
    have H := H1
    clear H1
    replace H := Option.bind_eq_some_iff.mp H
    obtain ⟨t335, A130, H⟩ := H
    replace H : (some t335) = some r := H
    have A13 := Aside0.mk A130
    clear A130
    obtain rfl := Option.some.inj H
    go_wp2_with (first | ((with_reducible refine gate_callee (f := 9) rfl ?_); refine goesL_ (some 30) rfl rfl Try.func9 (by kernel_rfl) rfl #[] rfl (by (try simp only [List.map_toArray, List.map_cons, List.map_nil]); first | done | rfl | (simp only [List.length_drop, List.length_take]; rfl)) ?_; (with_reducible refine (minecontrollaw04_awake.calls kj4  t335 _ A13.out).mono ?_); rintro e w14 ⟨rfl, hb⟩; refine ⟨_, rfl, ?_⟩; have n0_ := Aside0.mk (Kd.V_below (by (with_reducible repeat (first | apply Kd.V_alloc | apply Kd.V_drewN | apply Kd.V_drew)); exact HO_2.out) hb); have n1_ := Aside0.mk (blk_below (g := gb334) (o := .cells #[.slice A1_0 l1_0.length c1_0, .int .i64 a1_1] 36 (0, 0)) (by (with_reducible repeat (first | refine blk_drewN ?_ _ | refine blk_drew ?_ | refine blk_alloc ?_ _)); exact BK334.out) hb); have n2_ := Aside0.mk (below_step (by repeat (first | (with_reducible first | exact HB.out | apply below_alloc | apply pw_below_drewN | apply below_drew1 | refine below_set ?_ GE334.out) | exact HB.out)) hb); clear HO_2; clear BK334; clear HB; have HO_2 := n0_; have BK334 := n1_; have HB := n2_; clear n0_ n1_ n2_; (try clear hb); (try clear hb2); (try clear hge); (try clear hk); (try clear hi)))
    go_ret
    exact ⟨by first | rfl | (simp [errW_none, errW_some] <;> rfl) | (simp [*, errW_none, errW_some] <;> rfl), by repeat (first | (with_reducible first | exact HB.out | apply below_alloc | apply pw_below_drewN | apply below_drew1 | refine below_set ?_ GE334.out) | exact HB.out)⟩
   ·
    replace c12 := Bool.eq_false_iff.mpr c12
    subst c12
    have H1 : ((minecontroldraw_New.f l0).bind fun bt336 => ((minecontroldraw_Codes_Bytes.f kj4 bt336.1 bt336.2 5).bind fun bt339 => ((some (([bt339.1, l2] : List (List Int)) : List (List Int))).bind fun y343 => (minecontrollaw04_TelegramReads.l0 kj4 a3 y343 (y343.length : Int) 0 l1_0 a1_1)))) = some r := by rw [if_neg (show ¬ (false = true) by decide)] at H; exact H
    clear H
    have H := H1
    clear H1
    replace H := Option.bind_eq_some_iff.mp H
    obtain ⟨⟨t336, t337⟩, A150, H⟩ := H
    replace H : ((minecontroldraw_Codes_Bytes.f kj4 t336 t337 5).bind fun bt339 => ((some (([bt339.1, l2] : List (List Int)) : List (List Int))).bind fun y343 => (minecontrollaw04_TelegramReads.l0 kj4 a3 y343 (y343.length : Int) 0 l1_0 a1_1))) = some r := H
    have A15 := Aside0.mk A150
    clear A150
    replace H := Option.bind_eq_some_iff.mp H
    obtain ⟨⟨t339, t342⟩, A160, H⟩ := H
    replace H : ((some (([t339, l2] : List (List Int)) : List (List Int))).bind fun y343 => (minecontrollaw04_TelegramReads.l0 kj4 a3 y343 (y343.length : Int) 0 l1_0 a1_1)) = some r := H
    have A16 := Aside0.mk A160
    clear A160
    obtain ⟨y343, hy343⟩ : ∃ y_ : List (List Int), y_ = (([t339, l2] : List (List Int))) := ⟨_, rfl⟩
    replace H : (minecontrollaw04_TelegramReads.l0 kj4 a3 y343 (y343.length : Int) 0 l1_0 a1_1) = some r := by first | (rw [hy343]; with_reducible exact H) | (have H2_ := (Option.bind_some _ _).symm.trans H; rw [hy343]; with_reducible exact H2_) | (have H2_ := (Option.bind_some _ _).symm.trans H; with_reducible exact H2_) | with_reducible exact H | (rw [hy343]; exact H) | exact H
    have Ny343 := Aside0.mk hy343
    clear hy343
    have H' := Aside0.mk H
    clear H
    go_wp2_with (first | ((with_reducible refine gate_callee (f := 10) rfl ?_); refine goesL_ (some 32) rfl rfl Try.func10 (by kernel_rfl) rfl #[.slice A0 l0.length c0] rfl (by (try simp only [List.map_toArray, List.map_cons, List.map_nil]); first | done | rfl | (simp only [List.length_drop, List.length_take]; rfl)) ?_; (with_reducible refine (minecontroldraw_New.calls _ _ l0 t336 t337 w _ ?side1 ?side2 ?side3 A15.out).mono ?_); (case side1 => repeat (first | (with_reducible first | exact HB.out | apply below_alloc | apply pw_below_drewN | apply below_drew1 | refine below_set ?_ GE334.out) | exact HB.out)); (case side2 => exact HR0.out); (case side3 => exact HC0.out); rintro e w17 ⟨g338, rfl, hi, hb, hb2, hge⟩; refine ⟨_, rfl, ?_⟩; have n0_ := Aside0.mk (Kd.V_below (Kd.V_elderB (by (with_reducible repeat (first | apply Kd.V_alloc | apply Kd.V_drewN | apply Kd.V_drew)); exact HO_2.out) g338 hge) hb2); have n1_ := Aside0.mk (blk_below (g := gb334) (o := .cells #[.slice A1_0 l1_0.length c1_0, .int .i64 a1_1] 36 (0, 0)) (by (with_reducible repeat (first | refine blk_drewN ?_ _ | refine blk_drew ?_ | refine blk_alloc ?_ _)); exact BK334.out) hb2); have n2_ := Aside0.mk (hb); have n3_ := Aside0.mk (hi); have n4_ := Aside0.mk (IsS48.ne_blk hi (blk_below (g := gb334) (o := .cells #[.slice A1_0 l1_0.length c1_0, .int .i64 a1_1] 36 (0, 0)) (by (with_reducible repeat (first | refine blk_drewN ?_ _ | refine blk_drew ?_ | refine blk_alloc ?_ _)); exact BK334.out) hb2) (by decide)); have n5_ := Aside0.mk (Ne.symm (IsS48.ne_blk hi (blk_below (g := gb334) (o := .cells #[.slice A1_0 l1_0.length c1_0, .int .i64 a1_1] 36 (0, 0)) (by (with_reducible repeat (first | refine blk_drewN ?_ _ | refine blk_drew ?_ | refine blk_alloc ?_ _)); exact BK334.out) hb2) (by decide))); clear HO_2; clear BK334; clear HB; have HO_2 := n0_; have BK334 := n1_; have HB := n2_; have HI338 := n3_; have NB338_334 := n4_; have NB334_338 := n5_; clear n0_ n1_ n2_ n3_ n4_ n5_; (try clear hb); (try clear hb2); (try clear hge); (try clear hk); (try clear hi)) | ((with_reducible refine gate_callee (f := 16) rfl ?_); refine goesL_ (some 33) rfl rfl Try.func16 (by kernel_rfl) rfl #[.pointer (some ⟨g338, 0, none⟩), .int .i64 5] rfl (by (try simp only [List.map_toArray, List.map_cons, List.map_nil]); first | done | rfl | (simp only [List.length_drop, List.length_take]; rfl)) ?_; (with_reducible refine (minecontroldraw_Codes_Bytes.calls kj4 g338 t336 t337 5 t339 t342 w _ ?side1 ?side2 A16.out).mono ?_); (case side1 => repeat (first | (with_reducible first | exact HI338.out | apply IsS48.alloc | apply IsS48.drewN | apply IsS48.drew | apply IsS48.set_1 | refine IsS48.far ?_ NB338_334.out _) | exact HI338.out)); (case side2 => repeat (first | (with_reducible first | exact HB.out | apply below_alloc | apply pw_below_drewN | apply below_drew1 | refine below_set ?_ (IsS48.ge HI338.out) | refine below_set ?_ GE334.out) | exact HB.out)); rintro e w18 ⟨v340, rfl, ho0, hi, hb, hk⟩; refine ⟨_, rfl, ?_⟩; have n0_ := Aside0.mk (Kd.V_mono (Kd.V_told (Kd.V_oldK (Kd.V_mono (ok := fun k_ => ((((P2_ k_ ∨ w.heap.size ≤ k_)) ∧ k_ ≠ gb334) ∧ k_ ≠ g338)) (by (with_reducible repeat (first | apply Kd.V_alloc | apply Kd.V_drewN | apply Kd.V_drew)); exact HO_2.out) (fun k_ hk_ => (⟨hk_, hk_.2⟩ : _ ∧ k_ ≠ g338))) hk) (Kd.R_base ho0)) (fun _ h_ => h_.1)); have n1_ := Aside0.mk (KeepBut.blk hk (g' := gb334) (o := .cells #[.slice A1_0 l1_0.length c1_0, .int .i64 a1_1] 36 (0, 0)) (by (with_reducible repeat (first | refine blk_drewN ?_ _ | refine blk_drew ?_ | refine blk_alloc ?_ _)); exact BK334.out) NB334_338.out (by simp)); have n2_ := Aside0.mk (Kd.R_lower (Kd.R_newM (M := fun k_ => (w.heap.size ≤ k_)) ho0 (below_size (by repeat (first | (with_reducible first | exact HB.out | apply below_alloc | apply pw_below_drewN | apply below_drew1 | refine below_set ?_ (IsS48.ge HI338.out) | refine below_set ?_ GE334.out) | exact HB.out))) (fun k_ h_ => h_)) (below_size (by repeat (first | (with_reducible first | exact HB.out | apply below_alloc | apply pw_below_drewN | apply below_drew1 | refine below_set ?_ (IsS48.ge HI338.out) | refine below_set ?_ GE334.out) | exact HB.out)))); have n3_ := Aside0.mk (hb); have n4_ := Aside0.mk (hi); clear HO_2; clear BK334; clear HB; clear HI338; have HO_2 := n0_; have BK334 := n1_; have HO341 := n2_; have HB := n3_; have HI338 := n4_; clear n0_ n1_ n2_ n3_ n4_; (try clear hb); (try clear hb2); (try clear hge); (try clear hk); (try clear hi); (try clear ho0); obtain ⟨Ao19, co19, eo19⟩ := Kd.R_slice HO341.out; subst eo19) | ((with_reducible refine gate_dst (N := 35) rfl ?_); (try (refine gate_guard (by rfl) ?_; dsimp only)); refine Kd.N_lit (Kd.slice 5 (Kd.int .u8)) _ 22 ?hg (N' := 35) ?hd (xs := ([t339, l2] : List (List Int))) (inner := [.slice Ao19 t339.length co19, .slice A2 l2.length c2]) (ok := (fun k_ => (P2_ k_ ∨ w.heap.size ≤ k_) ∧ k_ ≠ gb334 ∧ k_ ≠ g338)) (okp := (fun k_ => (P2_ k_ ∨ w.heap.size ≤ k_) ∧ k_ ≠ gb334 ∧ k_ ≠ g338)) ?hr ?hp (fun _ hk => hk) ((show ∀ k_, w18.heap.size ≤ k_ → (fun k_ => (P2_ k_ ∨ w.heap.size ≤ k_) ∧ k_ ≠ gb334 ∧ k_ ≠ g338) k_ from fun k_ hk => ⟨(.inr (Nat.le_trans (below_size (by repeat (first | (with_reducible first | exact HB.out | apply below_alloc | apply pw_below_drewN | apply below_drew1 | refine below_set ?_ (IsS48.ge HI338.out) | refine below_set ?_ GE334.out) | exact HB.out))) hk)), Kd.freshB (g := gb334) (o := .cells #[.slice A1_0 l1_0.length c1_0, .int .i64 a1_1] 36 (0, 0)) (by (with_reducible repeat (first | refine blk_drewN ?_ _ | refine blk_drew ?_ | refine blk_alloc ?_ _)); exact BK334.out) k_ hk, IsS48.fresh (by repeat (first | (with_reducible first | exact HI338.out | apply IsS48.alloc | apply IsS48.drewN | apply IsS48.drew | apply IsS48.set_1 | refine IsS48.far ?_ NB338_334.out _) | exact HI338.out)) k_ hk⟩) _ (Nat.le_refl _)) (Below.refl _ _) (Nat.le_refl _) (by simp) ?_; (case hd => rfl); (case hg => rfl); (case hr => first | (go_simp; done) | (go_simp; rfl)); (case hp => exact (Reps.one (show Kd.FK (Kd.slice 5 (Kd.int .u8)) _ _ t339 [.slice Ao19 t339.length co19] from (Kd.FK_slice_mk (Kd.R_reads' (Kd.R_mono (ok' := (fun k_ => (P2_ k_ ∨ w.heap.size ≤ k_) ∧ k_ ≠ gb334 ∧ k_ ≠ g338)) (IsS48.apart HI338.out (Kd.R_types (HO341.out) BK334.out (by decide)) (by decide)) (fun k_ hk => ⟨(.inr (hk.1.1.1)), ⟨hk.1.2, hk.2⟩⟩))).2.1 (Kd.R_F (Kd.R_mono (ok' := (fun k_ => (P2_ k_ ∨ w.heap.size ≤ k_) ∧ k_ ≠ gb334 ∧ k_ ≠ g338)) (IsS48.apart HI338.out (Kd.R_types (HO341.out) BK334.out (by decide)) (by decide)) (fun k_ hk => ⟨(.inr (hk.1.1.1)), ⟨hk.1.2, hk.2⟩⟩))))) (Reps.one (show Kd.FK (Kd.slice 5 (Kd.int .u8)) _ _ l2 [.slice A2 l2.length c2] from (Kd.FK_slice_mk (Kd.V_reads' (Kd.V_mono (ok' := (fun k_ => (P2_ k_ ∨ w.heap.size ≤ k_) ∧ k_ ≠ gb334 ∧ k_ ≠ g338)) (HO_2.out) (fun k_ hk => ⟨hk.1.1.1, ⟨hk.1.1.2, hk.1.2⟩⟩))).2.1 (Kd.V_F (Kd.V_mono (ok' := (fun k_ => (P2_ k_ ∨ w.heap.size ≤ k_) ∧ k_ ≠ gb334 ∧ k_ ≠ g338)) (HO_2.out) (fun k_ hk => ⟨hk.1.1.1, ⟨hk.1.1.2, hk.1.2⟩⟩))))) (Reps.none _ _)))); intro v344 w20 ho21 hb hg_ hnew_; clear hg_ hnew_; (first | rw [← Ny343.out] at ho21 | (simp only [Int.reduceToNat] at ho21; rw [← Ny343.out] at ho21)); have n0_ := Aside0.mk (Kd.V_elder' (by (with_reducible repeat (first | apply Kd.V_alloc | apply Kd.V_drewN | apply Kd.V_drew)); exact HO_2.out) (Kd.N_base ho21) hb); have n1_ := Aside0.mk (Kd.N_lower ho21 (below_size (by repeat (first | (with_reducible first | exact HB.out | apply below_alloc | apply pw_below_drewN | apply below_drew1 | refine below_set ?_ (IsS48.ge HI338.out) | refine below_set ?_ GE334.out) | exact HB.out)))); have n2_ := Aside0.mk (blk_below (g := gb334) (o := .cells #[.slice A1_0 l1_0.length c1_0, .int .i64 a1_1] 36 (0, 0)) (by (with_reducible repeat (first | refine blk_drewN ?_ _ | refine blk_drew ?_ | refine blk_alloc ?_ _)); exact BK334.out) hb); have n3_ := Aside0.mk (IsS48.below (by repeat (first | (with_reducible first | exact HI338.out | apply IsS48.alloc | apply IsS48.drewN | apply IsS48.drew | apply IsS48.set_1 | refine IsS48.far ?_ NB338_334.out _) | exact HI338.out)) hb); have n4_ := Aside0.mk (below_step (by repeat (first | (with_reducible first | exact HB.out | apply below_alloc | apply pw_below_drewN | apply below_drew1 | refine below_set ?_ (IsS48.ge HI338.out) | refine below_set ?_ GE334.out) | exact HB.out)) hb); clear HO_2; clear BK334; clear HI338; clear HB; clear HO341; have HO_2 := n0_; have HO345 := n1_; have BK334 := n2_; have HI338 := n3_; have HB := n4_; clear n0_ n1_ n2_ n3_ n4_; clear hb ho21; obtain ⟨Ao22, co22, eo22⟩ := Kd.N_slice HO345.out; subst eo22))
    go_loopg [37] kj4 (fun kq v37 w' => ∃ (x37_2 : Int), v37 = .int .i64 x37_2 ∧ Aside0 (minecontrollaw04_TelegramReads.l0 kq a3 y343 (y343.length : Int) x37_2 l1_0 a1_1 = some r) ∧ Aside0 (kq ≤ kj4) ∧ Aside0 (Kd.N (Kd.slice 5 (Kd.int .u8)) 22 w' w.heap.size (fun k_ => (P2_ k_ ∨ w.heap.size ≤ k_) ∧ k_ ≠ gb334) (.slice Ao22 y343.length co22) y343) ∧ Aside0 (w'.heap[gb334]? = some (.cells #[(.slice A1_0 l1_0.length c1_0), .int .i64 a1_1] 36 (0, 0))) ∧ Aside0 (Below w.heap.size w w'))
    case atStart => exact ⟨(0), (by first | rfl | (simp; done) | (simp [*]; done)), H', ⟨Nat.le_refl _⟩, ⟨by (with_reducible repeat (first | apply Kd.N_alloc | apply Kd.N_drewN | apply Kd.N_drew)); exact Kd.N_mono HO345.out (fun _ hk => ⟨hk.1, hk.2.1⟩)⟩, ⟨by (with_reducible repeat (first | refine blk_drewN ?_ _ | refine blk_drew ?_ | refine blk_alloc ?_ _)); exact BK334.out⟩, ⟨by repeat (first | (with_reducible first | exact HB.out | apply below_alloc | apply pw_below_drewN | apply below_drew1 | refine below_set ?_ (IsS48.ge HI338.out) | refine below_set ?_ GE334.out) | exact HB.out)⟩⟩
    case round =>
     clear H'
     try clear c1; try clear c2; try clear p2; try clear c4; try clear c7; try clear c7b0; try clear c7b1; try clear c9; try clear c9b0; try clear c9b1; try clear c10; try clear c12; try clear c16; try clear hcz10_0; try clear hcz10_1; try clear hcz11_0; try clear hcz11_1; try clear hcz8_0; try clear hcz8_1
     try clear hfz10_0; try clear hfz10_1; try clear hfz11_0; try clear hfz11_1; try clear hfz8_0; try clear hfz8_1; try clear p2
     obtain ⟨x37_2, rfl, HA, HK2, HO_35, BK334, HB⟩ := hrel
     cases gk with
     | zero => exact absurd HA.out (by simp [minecontrollaw04_TelegramReads.l0])
     | succ k2 =>
      have H := HA.out
      clear HA
      simp only [minecontrollaw04_TelegramReads.l0] at H
      by_cases c23 : x37_2 < (y343.length : Int)
      ·
       rw [if_pos c23] at H
       have c23b0 : decide (x37_2 < (y343.length : Int)) = true := decide_eq_true c23
       clear c23
       by_cases c24 : 0 ≤ x37_2
       rotate_left
       ·
        rw [if_neg c24] at H
        exact absurd H (by simp)
       rw [if_pos c24] at H
       have c24b0 : decide (0 ≤ x37_2) = true := decide_eq_true c24
       clear c24
       by_cases c25 : x37_2 < (y343.length : Int)
       rotate_left
       ·
        rw [if_neg c25] at H
        exact absurd H (by simp)
       rw [if_pos c25] at H
       have c25b0 : decide (x37_2 < (y343.length : Int)) = true := decide_eq_true c25
       clear c25
       replace H := Option.bind_eq_some_iff.mp H
       obtain ⟨t348, A260, H⟩ := H
       replace H : (if 0 ≤ t348 then (if t348 ≤ ((rd_L2 y343 x37_2).length : Int) then ((telegram_Feed.f k2 l1_0 a1_1 ((rd_L2 y343 x37_2).take (t348 : Int).toNat)).bind fun bt354 => ((minecontrolref04_Feed.f k2 l1_0 a1_1 ((rd_L2 y343 x37_2).take (t348 : Int).toNat)).bind fun bt367 => (if (strOfNums bt354.1).toList = (strOfNums bt367.1).toList then (if bt354.2.1 = bt367.2.1 then ((minecontrolref04_Same.f k2 bt354.2.2 bt367.2.2).bind fun t375 => (minecontrollaw04_TelegramReads.j2 k2 a3 (rd_L2 y343 x37_2) t348 y343 (y343.length : Int) x37_2 (!t375) l1_0 a1_1 bt367.1 bt367.2.1)) else (minecontrollaw04_TelegramReads.j2 k2 a3 (rd_L2 y343 x37_2) t348 y343 (y343.length : Int) x37_2 true l1_0 a1_1 bt367.1 bt367.2.1)) else (minecontrollaw04_TelegramReads.j2 k2 a3 (rd_L2 y343 x37_2) t348 y343 (y343.length : Int) x37_2 true l1_0 a1_1 bt367.1 bt367.2.1)))) else (none)) else (none)) = some r := H
       have A26 := Aside0.mk A260
       clear A260
       by_cases c27 : 0 ≤ t348
       rotate_left
       ·
        rw [if_neg c27] at H
        exact absurd H (by simp)
       rw [if_pos c27] at H
       have c27b0 := eq_true c27
       have c27b1 : decide (0 ≤ t348) = true := decide_eq_true c27
       clear c27
       by_cases c28 : t348 ≤ ((rd_L2 y343 x37_2).length : Int)
       rotate_left
       ·
        rw [if_neg c28] at H
        exact absurd H (by simp)
       rw [if_pos c28] at H
       have c28b0 := eq_true c28
       have c28b1 : decide (t348 ≤ ((rd_L2 y343 x37_2).length : Int)) = true := decide_eq_true c28
       clear c28
       obtain ⟨y349, hy349⟩ : ∃ y_ : List Int, y_ = ((rd_L2 y343 x37_2).take (t348 : Int).toNat) := ⟨_, rfl⟩
       replace H : ((telegram_Feed.f k2 l1_0 a1_1 y349).bind fun bt354 => ((minecontrolref04_Feed.f k2 l1_0 a1_1 ((rd_L2 y343 x37_2).take (t348 : Int).toNat)).bind fun bt367 => (if (strOfNums bt354.1).toList = (strOfNums bt367.1).toList then (if bt354.2.1 = bt367.2.1 then ((minecontrolref04_Same.f k2 bt354.2.2 bt367.2.2).bind fun t375 => (minecontrollaw04_TelegramReads.j2 k2 a3 (rd_L2 y343 x37_2) t348 y343 (y343.length : Int) x37_2 (!t375) l1_0 a1_1 bt367.1 bt367.2.1)) else (minecontrollaw04_TelegramReads.j2 k2 a3 (rd_L2 y343 x37_2) t348 y343 (y343.length : Int) x37_2 true l1_0 a1_1 bt367.1 bt367.2.1)) else (minecontrollaw04_TelegramReads.j2 k2 a3 (rd_L2 y343 x37_2) t348 y343 (y343.length : Int) x37_2 true l1_0 a1_1 bt367.1 bt367.2.1)))) = some r := by first | (rw [hy349]; with_reducible exact H) | (have H2_ := (Option.bind_some _ _).symm.trans H; rw [hy349]; with_reducible exact H2_) | (have H2_ := (Option.bind_some _ _).symm.trans H; with_reducible exact H2_) | with_reducible exact H | (rw [hy349]; exact H) | exact H
       have Ny349 := Aside0.mk hy349
       clear hy349
       replace H := Option.bind_eq_some_iff.mp H
       obtain ⟨⟨t354, t357, t358⟩, A290, H⟩ := H
       replace H : ((minecontrolref04_Feed.f k2 l1_0 a1_1 ((rd_L2 y343 x37_2).take (t348 : Int).toNat)).bind fun bt367 => (if (strOfNums t354).toList = (strOfNums bt367.1).toList then (if t357 = bt367.2.1 then ((minecontrolref04_Same.f k2 t358 bt367.2.2).bind fun t375 => (minecontrollaw04_TelegramReads.j2 k2 a3 (rd_L2 y343 x37_2) t348 y343 (y343.length : Int) x37_2 (!t375) l1_0 a1_1 bt367.1 bt367.2.1)) else (minecontrollaw04_TelegramReads.j2 k2 a3 (rd_L2 y343 x37_2) t348 y343 (y343.length : Int) x37_2 true l1_0 a1_1 bt367.1 bt367.2.1)) else (minecontrollaw04_TelegramReads.j2 k2 a3 (rd_L2 y343 x37_2) t348 y343 (y343.length : Int) x37_2 true l1_0 a1_1 bt367.1 bt367.2.1))) = some r := H
       have A29 := Aside0.mk A290
       clear A290
       have c30b0 := eq_true (of_decide_eq_true (by first | (with_reducible assumption) | assumption) : 0 ≤ t348)
       have c31b0 := eq_true (of_decide_eq_true (by first | (with_reducible assumption) | assumption) : t348 ≤ ((rd_L2 y343 x37_2).length : Int))
       obtain ⟨y362, hy362⟩ : ∃ y_ : List Int, y_ = ((rd_L2 y343 x37_2).take (t348 : Int).toNat) := ⟨_, rfl⟩
       replace H : ((minecontrolref04_Feed.f k2 l1_0 a1_1 y362).bind fun bt367 => (if (strOfNums t354).toList = (strOfNums bt367.1).toList then (if t357 = bt367.2.1 then ((minecontrolref04_Same.f k2 t358 bt367.2.2).bind fun t375 => (minecontrollaw04_TelegramReads.j2 k2 a3 (rd_L2 y343 x37_2) t348 y343 (y343.length : Int) x37_2 (!t375) l1_0 a1_1 bt367.1 bt367.2.1)) else (minecontrollaw04_TelegramReads.j2 k2 a3 (rd_L2 y343 x37_2) t348 y343 (y343.length : Int) x37_2 true l1_0 a1_1 bt367.1 bt367.2.1)) else (minecontrollaw04_TelegramReads.j2 k2 a3 (rd_L2 y343 x37_2) t348 y343 (y343.length : Int) x37_2 true l1_0 a1_1 bt367.1 bt367.2.1))) = some r := by first | (rw [hy362]; with_reducible exact H) | (have H2_ := (Option.bind_some _ _).symm.trans H; rw [hy362]; with_reducible exact H2_) | (have H2_ := (Option.bind_some _ _).symm.trans H; with_reducible exact H2_) | with_reducible exact H | (rw [hy362]; exact H) | exact H
       have Ny362 := Aside0.mk hy362
       clear hy362
       replace H := Option.bind_eq_some_iff.mp H
       obtain ⟨⟨t367, t370, t371⟩, A320, H⟩ := H
       replace H : (if (strOfNums t354).toList = (strOfNums t367).toList then (if t357 = t370 then ((minecontrolref04_Same.f k2 t358 t371).bind fun t375 => (minecontrollaw04_TelegramReads.j2 k2 a3 (rd_L2 y343 x37_2) t348 y343 (y343.length : Int) x37_2 (!t375) l1_0 a1_1 t367 t370)) else (minecontrollaw04_TelegramReads.j2 k2 a3 (rd_L2 y343 x37_2) t348 y343 (y343.length : Int) x37_2 true l1_0 a1_1 t367 t370)) else (minecontrollaw04_TelegramReads.j2 k2 a3 (rd_L2 y343 x37_2) t348 y343 (y343.length : Int) x37_2 true l1_0 a1_1 t367 t370)) = some r := H
       have A32 := Aside0.mk A320
       clear A320
       have HC33 := Aside0.mk H
       clear H
       have p347 : 0 ≤ (x37_2 : Int) := of_decide_eq_true (by first | (with_reducible assumption) | assumption)
       have q347 : x37_2 < (y343.length : Int) := of_decide_eq_true (by first | (with_reducible assumption) | assumption)
       obtain ⟨ad347, A347_0, c347_0, e347, hx347_0, hl347_0, hi347_0⟩ := at_L2 (Kd.N_reads' HO_35.out).2.2 x37_2 p347 q347
       cases e347
       obtain ⟨ce347, hce347, hMe347, hcc347⟩ := Kd.N_get HO_35.out [] x37_2 p347 (by first | exact q347 | exact of_decide_eq_true (by first | (with_reducible assumption) | assumption) | (have e_ := (Kd.N_reads' HO_35.out).1; omega))
       obtain ⟨ua347_0, uc347_0, rfl, ul347_0, ge347_0⟩ := Kd.FK_slice_open hMe347
       have hv347_0 := hcc347 0 _ rfl
       rw [Nat.add_zero, show ((Kd.slice 5 (Kd.int .u8))).sz = 1 from rfl, Nat.mul_one] at hv347_0
       replace hv347_0 := Option.some.inj (hv347_0.symm.trans hx347_0)
       injection hv347_0 with hva_ hvn_ hvc_
       rw [hva_] at ge347_0
       rw [hvc_] at ul347_0
       have HL347_0 := Aside0.mk (show Kd.V (Kd.int .u8) 5 _ w.heap.size _ _ (rd_L2 y343 x37_2) from Kd.V_mk ul347_0 ge347_0)
       clear hva_ hvn_ hvc_ ge347_0 ul347_0
       clear hcc347 hce347
       have HR347_0 := Aside0.mk hi347_0
       have HC347_0 := Aside0.mk hl347_0
       clear hi347_0 hl347_0
       replace p347 := eq_true p347
       replace q347 := eq_true q347
       try go_wp2_with (first | ((with_reducible refine gate_callee (f := 17) rfl ?_); refine goesL_ (some 45) rfl rfl Try.func17 (by kernel_rfl) rfl #[.int .i64 a3, .int .i64 (wrap64 (((rd_L2 y343 x37_2).length : Int) + 1))] rfl (by (try simp only [List.map_toArray, List.map_cons, List.map_nil]); first | done | rfl | (simp only [List.length_drop, List.length_take]; rfl)) ?_; (with_reducible refine (minecontroldraw_Mod.calls a3 (wrap64 (((rd_L2 y343 x37_2).length : Int) + 1)) t348 _ A26.out).mono ?_); rintro e w' ⟨rfl, ⟨nd, rfl⟩⟩; refine ⟨_, rfl, ?_⟩; (try (rw [drewN_self wr]; generalize hq_ : World.drewN wr _ = wr; have n0_ : Aside0 (Kd.V (Kd.int .u8) 5 wr w.heap.size (fun k_ => ((((P2_ k_ ∨ w.heap.size ≤ k_)) ∧ k_ ≠ gb334) ∧ some k_ ≠ (.slice (some ad347) y343.length co22 : Value).ownBlock)) (.slice A347_0 (rd_L2 y343 x37_2).length c347_0) (rd_L2 y343 x37_2)) := ⟨by rw [← hq_]; exact (by (with_reducible repeat (first | apply Kd.V_alloc | apply Kd.V_drewN | apply Kd.V_drew)); exact HL347_0.out)⟩; have n1_ : Aside0 (Kd.N (Kd.slice 5 (Kd.int .u8)) 22 wr w.heap.size (fun k_ => (P2_ k_ ∨ w.heap.size ≤ k_) ∧ k_ ≠ gb334) (.slice (some ad347) y343.length co22) y343) := ⟨by rw [← hq_]; exact (by (with_reducible repeat (first | apply Kd.N_alloc | apply Kd.N_drewN | apply Kd.N_drew)); exact HO_35.out)⟩; have n2_ : Aside0 (wr.heap[gb334]? = some (.cells #[.slice A1_0 l1_0.length c1_0, .int .i64 a1_1] 36 (0, 0))) := ⟨by rw [← hq_]; exact (by (with_reducible repeat (first | refine blk_drewN ?_ _ | refine blk_drew ?_ | refine blk_alloc ?_ _)); exact BK334.out)⟩; have n3_ : Aside0 (Below w.heap.size w wr) := ⟨by rw [← hq_]; exact (by repeat (first | (with_reducible first | exact HB.out | apply below_alloc | apply pw_below_drewN | apply below_drew1 | refine below_set ?_ GE334.out) | exact HB.out))⟩; have n4_ : Aside0 (Kd.C (Kd.int .u8) wr A347_0 (rd_L2 y343 x37_2).length (rd_L2 y343 x37_2)) := ⟨by rw [← hq_]; exact (by repeat (first | (with_reducible exact HR347_0.out) | (with_reducible refine Kd.C_alloc ?_ _) | (with_reducible refine Kd.C_drewN ?_ _) | (with_reducible refine Kd.C_drew ?_) | exact HR347_0.out))⟩; clear HL347_0 HO_35 BK334 HB HR347_0 hq_; have HL347_0 := n0_; have HO_35 := n1_; have BK334 := n2_; have HB := n3_; have HR347_0 := n4_; clear n0_ n1_ n2_ n3_ n4_))))
       have n0_ := Aside0.mk (Kd.N_drew HO_35.out)
       have n1_ := Aside0.mk (Kd.V_drew HL347_0.out)
       have n2_ := Aside0.mk (blk_drew BK334.out)
       have n3_ := Aside0.mk (Kd.C_drew HR347_0.out)
       have n4_ := Aside0.mk (below_drew1 HB.out)
       clear HO_35
       clear HL347_0
       clear BK334
       clear HR347_0
       clear HB
       have HO_35 := n0_
       have HL347_0 := n1_
       have BK334 := n2_
       have HR347_0 := n3_
       have HB := n4_
       clear n0_ n1_ n2_ n3_ n4_
       have q35 : (t348 : Int) ≤ (((rd_L2 y343 x37_2).length : Int) : Int) := of_decide_eq_true (by first | (with_reducible assumption) | assumption)
       obtain ⟨i035, hi035, _, hsz35, _⟩ := info_parts info5
       have hroom35 : (rd_L2 y343 x37_2).length ≤ c347_0 := HC347_0.out
       have hC35 : Kd.F (Kd.int .u8) _ _ A347_0 (rd_L2 y343 x37_2).length (rd_L2 y343 x37_2) := (Kd.V_at (base := w.heap.size) HL347_0.out).2.2
       (try clear hcut35)
       (try clear hcut35)
       have hcut35 := cut_to (P := Try.prog) 22 5 .i64 Try.underlying22 hi035 A347_0 (rd_L2 y343 x37_2).length c347_0 t348 (of_decide_eq_true (by first | (with_reducible assumption) | assumption)) q35 hroom35
       have hr35 := Kd.F_take (m := (t348 : Int).toNat) hC35 (by omega)
       have hy35 : y349.length = (t348 : Int).toNat := (by rw [Ny349.out, List.length_take]; omega)
       rw [← Ny349.out] at hr35
       rw [← hy35] at hcut35
       have HO353 := Aside0.mk (show Kd.V (Kd.int .u8) 5 _ w.heap.size _ (.slice A347_0 y349.length c347_0) y349 from Kd.V_mk (by omega) hr35)
       have HC353 := Aside0.mk (show y349.length ≤ c347_0 from by omega)
       clear hr35 hC35 hroom35 hi035 hsz35
       have KY35 := Aside0.mk hy35
       clear hy35
       replace q35 := eq_true q35
       refine start_ (n := 11) (S := fun w' => w'.cell? ⟨gb334, 0, none⟩ = some (.slice A1_0 l1_0.length c1_0) ∧ w'.cell? ⟨gb334, 1, none⟩ = some (.int .i64 a1_1)) (ds := []) #[false, false, false, false, false, false, false, false, false, false, false] (by kernel_rfl) rfl rfl ⟨(blk_cell BK334.out 0).trans rfl, (blk_cell BK334.out 1).trans rfl⟩ (fun hHeld => ?_); refine with_tabW minecontrollaw04_TelegramReads.tab7 minecontrollaw04_TelegramReads.bits7 (fun HT_ HW_ => ?_)
       generalize wr.drew = w34 at HO_35 HL347_0 BK334 HR347_0 HB HO353 hHeld ⊢
       refine pure_ (i := 1) (N := some 48) (v := ?_) (a' := ?_) #[false, true, false, false, false, false, false, false, false, false, false] rfl rfl (any_of HT_.out (by kernel_rfl)) (fun _ _ _ h => h) (Or.inl ⟨by rfl, ?_⟩) ?_ ?_
       rotate_left
       ·
        intro w'
        go_simp
        with_reducible rfl
       rotate_left
       ·
        simp only [Act.put, List.setIfInBounds_toArray, List.set_cons_zero, List.set_cons_succ, i64_w, i32_w]
        rfl
       refine pure_ (i := 2) (N := some 49) (v := ?_) (a' := ?_) #[false, true, true, false, false, false, false, false, false, false, false] rfl rfl (any_of HT_.out (by kernel_rfl)) (fun _ _ _ h => h) (Or.inl ⟨by rfl, ?_⟩) ?_ ?_
       rotate_left
       ·
        intro w'
        go_simp
        with_reducible rfl
       rotate_left
       ·
        simp only [Act.put, List.setIfInBounds_toArray, List.set_cons_zero, List.set_cons_succ, i64_w, i32_w]
        rfl
       refine pure_ (i := 3) (N := some 50) (v := ?_) (a' := ?_) #[false, true, true, true, false, false, false, false, false, false, false] rfl rfl (any_of HT_.out (by kernel_rfl)) (fun _ _ _ h => h) (Or.inl ⟨by rfl, ?_⟩) ?_ ?_
       rotate_left
       ·
        intro w'
        go_simp
        with_reducible rfl
       rotate_left
       ·
        simp only [Act.put, List.setIfInBounds_toArray, List.set_cons_zero, List.set_cons_succ, i64_w, i32_w]
        rfl
       refine take_ (i := 0) (N := some 47) (v := ?_) (a' := ?_) #[true, true, true, true, false, false, false, false, false, false, false] rfl rfl (take_ofW HT_.out HW_.out (by kernel_rfl)) (fun _ _ _ h => h) (Or.inl ⟨by rfl, ?_⟩) hHeld ?_ ?_
       rotate_left
       ·
        rintro w' ⟨s0, s1⟩
        go_simp
        with_reducible rfl
       rotate_left
       ·
        simp only [Act.put, List.setIfInBounds_toArray, List.set_cons_zero, List.set_cons_succ, i64_w, i32_w]
        rfl
       refine join_ (σ := Value × Value × Nat) 2 #[true, true, true, true, true, true, true, true, true, false, false] (fun s_ => [(51, .tuple #[.agg #[s_.1, .int .i64 t357], s_.2.1]), (12, .pointer (some ⟨s_.2.2, 0, none⟩)), (46, .tuple #[.agg #[s_.1, .int .i64 t357], s_.2.1]), (52, .agg #[s_.1, .int .i64 t357]), (53, s_.2.1)]) (fun s_ w' => (w'.cell? ⟨gb334, 0, none⟩ = some (.slice A1_0 l1_0.length c1_0) ∧ w'.cell? ⟨gb334, 1, none⟩ = some (.int .i64 a1_1)) ∧ (Kd.V (Kd.int .u8) 5 w' w.heap.size (fun k_ => (P2_ k_ ∨ w.heap.size ≤ k_) ∧ some k_ ≠ (s_.1 : Value).ownBlock ∧ some k_ ≠ (s_.2.1 : Value).ownBlock ∧ some k_ ≠ (.slice (some ad347) y343.length co22 : Value).ownBlock ∧ k_ ≠ gb334 ∧ k_ ≠ s_.2.2) (.slice A347_0 (rd_L2 y343 x37_2).length c347_0) (rd_L2 y343 x37_2)) ∧ (Kd.V (Kd.int .u8) 5 w' w.heap.size (fun k_ => (P2_ k_ ∨ w.heap.size ≤ k_) ∧ some k_ ≠ (s_.1 : Value).ownBlock ∧ some k_ ≠ (s_.2.1 : Value).ownBlock ∧ some k_ ≠ (.slice (some ad347) y343.length co22 : Value).ownBlock ∧ k_ ≠ gb334 ∧ k_ ≠ s_.2.2) (.slice A347_0 y349.length c347_0) y349) ∧ (Kd.R (Kd.int .u8) 5 w' w.heap.size (fun k_ => (w.heap.size ≤ k_)) s_.1 t354) ∧ (Kd.N k24 24 w' w.heap.size (fun k_ => (P2_ k_ ∨ w.heap.size ≤ k_) ∧ some k_ ≠ (s_.1 : Value).ownBlock ∧ some k_ ≠ (.slice (some ad347) y343.length co22 : Value).ownBlock ∧ k_ ≠ gb334 ∧ k_ ≠ s_.2.2) s_.2.1 t358) ∧ (Kd.N (Kd.slice 5 (Kd.int .u8)) 22 w' w.heap.size (fun k_ => (P2_ k_ ∨ w.heap.size ≤ k_) ∧ some k_ ≠ (s_.1 : Value).ownBlock ∧ some k_ ≠ (s_.2.1 : Value).ownBlock ∧ k_ ≠ gb334 ∧ k_ ≠ s_.2.2) (.slice (some ad347) y343.length co22) y343) ∧ (w'.heap[gb334]? = some (.cells #[.slice A1_0 l1_0.length c1_0, .int .i64 a1_1] 36 (0, 0))) ∧ (w'.heap[s_.2.2]? = some (.cells #[.slice none 0 0, .int .i64 0] 36 (0, 0))) ∧ (w.heap.size ≤ s_.2.2) ∧ (w.heap.size ≤ s_.2.2) ∧ (gb334 ≠ s_.2.2) ∧ (s_.2.2 ≠ gb334) ∧ (Below w.heap.size w w')) ?_ ?_
       rotate_left
       ·
        intro hCont
        refine two_ (i := 4) (j := 8) (Ni := some 51) (Nj := some 12) #[true, true, true, true, true, false, false, false, false, false, false] #[true, true, true, true, false, false, false, false, true, false, false] rfl rfl rfl rfl (two_of HT_.out (by kernel_rfl)) (by decide) (by decide) (fun K hK => ?_) (fun K hK => ?_)
        ·
         skip
         refine goes_ Try.func18 (by kernel_rfl) rfl #[.agg #[.slice A1_0 l1_0.length c1_0, .int .i64 a1_1], .slice A347_0 y349.length c347_0] (by rfl) rfl rfl (by (try simp only [List.map_toArray, List.map_cons, List.map_nil]); first | done | rfl | (simp only [List.length_drop, List.length_take]; rfl)) ?_
         with_reducible refine (telegram_Feed.calls k2 _ _ l1_0 a1_1 _ _ y349 t354 t357 t358 _ ?side1 ?side2 ?side3 ?side4 A29.out).mono ?_
         (case side1 => repeat (first | exact (Kd.C_below HR1_0.out HB.out) | (with_reducible refine Kd.C_alloc ?_ _) | (with_reducible refine Kd.C_drewN ?_ _) | (with_reducible refine Kd.C_drew ?_)))
         (case side2 => exact HC1_0.out)
         (case side3 => repeat (first | exact (Kd.V_reads' HO353.out).2.2 | (with_reducible refine Kd.C_alloc ?_ _) | (with_reducible refine Kd.C_drewN ?_ _) | (with_reducible refine Kd.C_drew ?_)))
         (case side4 => exact (Kd.V_reads' HO353.out).2.1)
         rintro e w36 ⟨v355, v359, rfl, ho0, ho1, hb⟩
         refine ⟨_, rfl, ?_⟩
         have n0_ := Aside0.mk (Kd.N_mono (Kd.N_told (Kd.N_told (Kd.N_old (by (with_reducible repeat (first | apply Kd.N_alloc | apply Kd.N_drewN | apply Kd.N_drew)); exact HO_35.out) hb) (Kd.R_base ho0)) (Kd.S_base ho1)) (fun _ h_ => h_.1))
         have n1_ := Aside0.mk (Kd.V_mono (Kd.V_told (Kd.V_told (Kd.V_old (by (with_reducible repeat (first | apply Kd.V_alloc | apply Kd.V_drewN | apply Kd.V_drew)); exact HL347_0.out) hb) (Kd.R_base ho0)) (Kd.S_base ho1)) (fun _ h_ => h_.1))
         have n2_ := Aside0.mk (Kd.V_mono (Kd.V_told (Kd.V_told (Kd.V_old (by (with_reducible repeat (first | apply Kd.V_alloc | apply Kd.V_drewN | apply Kd.V_drew)); exact HO353.out) hb) (Kd.R_base ho0)) (Kd.S_base ho1)) (fun _ h_ => h_.1))
         have n3_ := Aside0.mk (Kd.R_lower (Kd.R_newM (M := fun k_ => (w.heap.size ≤ k_)) ho0 (below_size (by repeat (first | (with_reducible first | exact HB.out | apply below_alloc | apply pw_below_drewN | apply below_drew1 | refine below_set ?_ GE334.out) | exact HB.out))) (fun k_ h_ => h_)) (below_size (by repeat (first | (with_reducible first | exact HB.out | apply below_alloc | apply pw_below_drewN | apply below_drew1 | refine below_set ?_ GE334.out) | exact HB.out))))
         have n4_ := Aside0.mk (Kd.N_lower (Kd.N_mono (ok' := fun k_ => (P2_ k_ ∨ w.heap.size ≤ k_) ∧ some k_ ≠ (v355 : Value).ownBlock ∧ some k_ ≠ (.slice (some ad347) y343.length co22 : Value).ownBlock ∧ k_ ≠ gb334) (Kd.S_N (Kd.S_bound ho1)) (fun k_ hk_ => ⟨(.inr (Nat.le_trans (below_size (by repeat (first | (with_reducible first | exact HB.out | apply below_alloc | apply pw_below_drewN | apply below_drew1 | refine below_set ?_ GE334.out) | exact HB.out))) hk_.2.1)), hk_.1, (Kd.fresh' (Kd.N_lt (by (with_reducible repeat (first | apply Kd.N_alloc | apply Kd.N_drewN | apply Kd.N_drew)); exact HO_35.out)) k_ hk_.2.1), (Kd.freshB (g := gb334) (o := .cells #[.slice A1_0 l1_0.length c1_0, .int .i64 a1_1] 36 (0, 0)) (by (with_reducible repeat (first | refine blk_drewN ?_ _ | refine blk_drew ?_ | refine blk_alloc ?_ _)); exact BK334.out) k_ hk_.2.1)⟩)) (below_size (by repeat (first | (with_reducible first | exact HB.out | apply below_alloc | apply pw_below_drewN | apply below_drew1 | refine below_set ?_ GE334.out) | exact HB.out))))
         have n5_ := Aside0.mk (blk_below (g := gb334) (o := .cells #[.slice A1_0 l1_0.length c1_0, .int .i64 a1_1] 36 (0, 0)) (by (with_reducible repeat (first | refine blk_drewN ?_ _ | refine blk_drew ?_ | refine blk_alloc ?_ _)); exact BK334.out) hb)
         have n6_ := Aside0.mk (Kd.C_below (by repeat (first | (with_reducible exact HR347_0.out) | (with_reducible refine Kd.C_alloc ?_ _) | (with_reducible refine Kd.C_drewN ?_ _) | (with_reducible refine Kd.C_drew ?_) | exact HR347_0.out)) hb)
         have n7_ := Aside0.mk (below_step (by repeat (first | (with_reducible first | exact HB.out | apply below_alloc | apply pw_below_drewN | apply below_drew1 | refine below_set ?_ GE334.out) | exact HB.out)) hb)
         clear HO_35
         clear HL347_0
         clear HO353
         clear BK334
         clear HR347_0
         clear HB
         have HO_35 := n0_
         have HL347_0 := n1_
         have HO353 := n2_
         have HO356 := n3_
         have HO360 := n4_
         have BK334 := n5_
         have HR347_0 := n6_
         have HB := n7_
         clear n0_ n1_ n2_ n3_ n4_ n5_ n6_ n7_
         (try clear hb)
         (try clear hb2)
         (try clear hge)
         (try clear hk)
         (try clear hi)
         (try clear ho0)
         (try clear ho1)
         refine hK.out _ _ ⟨(blk_cell BK334.out 0).trans rfl, (blk_cell BK334.out 1).trans rfl⟩ (fun hHeld => ?_)
         clear hK K
         refine norm_ (a' := ?_) ?_ ?_
         rotate_left
         ·
          show Act.put _ (some 51) _ = _
          simp only [Act.put, List.setIfInBounds_toArray, List.set_cons_zero, List.set_cons_succ, i64_w, i32_w]
          rfl
         refine pure_ (i := 5) (N := some 46) (v := ?_) (a' := ?_) #[true, true, true, true, true, true, false, false, false, false, false] rfl rfl (any_of HT_.out (by kernel_rfl)) (fun _ _ _ h => h) (Or.inl ⟨by rfl, ?_⟩) ?_ ?_
         rotate_left
         ·
          intro w'
          go_simp
          with_reducible rfl
         rotate_left
         ·
          simp only [Act.put, List.setIfInBounds_toArray, List.set_cons_zero, List.set_cons_succ, i64_w, i32_w]
          rfl
         refine pure_ (i := 6) (N := some 52) (v := ?_) (a' := ?_) #[true, true, true, true, true, true, true, false, false, false, false] rfl rfl (any_of HT_.out (by kernel_rfl)) (fun _ _ _ h => h) (Or.inl ⟨by rfl, ?_⟩) ?_ ?_
         rotate_left
         ·
          intro w'
          go_simp
          with_reducible rfl
         rotate_left
         ·
          simp only [Act.put, List.setIfInBounds_toArray, List.set_cons_zero, List.set_cons_succ, i64_w, i32_w]
          rfl
         refine pure_ (i := 7) (N := some 53) (v := ?_) (a' := ?_) #[true, true, true, true, true, true, true, true, false, false, false] rfl rfl (any_of HT_.out (by kernel_rfl)) (fun _ _ _ h => h) (Or.inl ⟨by rfl, ?_⟩) ?_ ?_
         rotate_left
         ·
          intro w'
          go_simp
          with_reducible rfl
         rotate_left
         ·
          simp only [Act.put, List.setIfInBounds_toArray, List.set_cons_zero, List.set_cons_succ, i64_w, i32_w]
          rfl
         refine one_ (i := 8) (N := some 12) #[true, true, true, true, true, true, true, true, true, false, false] rfl rfl (one_of HT_.out (by kernel_rfl)) (by decide) (fun K hK => ?_)
         refine box_step ?hg (N := 12) ?hd (cs := #[.slice none 0 0, .int .i64 0]) (t := 36) ?hr ?_; (case hd => rfl); (case hg => rfl); (case hr => first | (go_simp; done) | (go_simp; rfl))
         intro gb361 hg w37 hbox hb
         have n0_ := Aside0.mk (Kd.N_below (Kd.N_elderB (by (with_reducible repeat (first | apply Kd.N_alloc | apply Kd.N_drewN | apply Kd.N_drew)); exact HO_35.out) gb361 (Nat.le_of_eq hg.symm)) hb)
         have n1_ := Aside0.mk (Kd.V_below (Kd.V_elderB (by (with_reducible repeat (first | apply Kd.V_alloc | apply Kd.V_drewN | apply Kd.V_drew)); exact HL347_0.out) gb361 (Nat.le_of_eq hg.symm)) hb)
         have n2_ := Aside0.mk (Kd.V_below (Kd.V_elderB (by (with_reducible repeat (first | apply Kd.V_alloc | apply Kd.V_drewN | apply Kd.V_drew)); exact HO353.out) gb361 (Nat.le_of_eq hg.symm)) hb)
         have n3_ := Aside0.mk (Kd.R_below (by (with_reducible repeat (first | apply Kd.R_alloc | apply Kd.R_drewN | apply Kd.R_drew)); exact HO356.out) hb)
         have n4_ := Aside0.mk (Kd.N_below (Kd.N_elderB (by (with_reducible repeat (first | apply Kd.N_alloc | apply Kd.N_drewN | apply Kd.N_drew)); exact HO360.out) gb361 (Nat.le_of_eq hg.symm)) hb)
         have n5_ := Aside0.mk (blk_below (g := gb334) (o := .cells #[.slice A1_0 l1_0.length c1_0, .int .i64 a1_1] 36 (0, 0)) (by (with_reducible repeat (first | refine blk_drewN ?_ _ | refine blk_drew ?_ | refine blk_alloc ?_ _)); exact BK334.out) hb)
         have n6_ := Aside0.mk (Kd.C_below (by repeat (first | (with_reducible exact HR347_0.out) | (with_reducible refine Kd.C_alloc ?_ _) | (with_reducible refine Kd.C_drewN ?_ _) | (with_reducible refine Kd.C_drew ?_) | exact HR347_0.out)) hb)
         have n7_ := Aside0.mk (below_step (by repeat (first | (with_reducible first | exact HB.out | apply below_alloc | apply pw_below_drewN | apply below_drew1 | refine below_set ?_ GE334.out) | exact HB.out)) hb)
         have n8_ := Aside0.mk (hbox)
         have n9_ := Aside0.mk ((by rw [hg]; exact (below_size (by repeat (first | (with_reducible first | exact HB.out | apply below_alloc | apply pw_below_drewN | apply below_drew1 | refine below_set ?_ GE334.out) | exact HB.out))) : w.heap.size ≤ gb361))
         have n10_ := Aside0.mk ((by rw [hg]; exact (below_size (by repeat (first | (with_reducible first | exact HB.out | apply below_alloc | apply pw_below_drewN | apply below_drew1 | refine below_set ?_ GE334.out) | exact HB.out))) : w.heap.size ≤ gb361))
         have n11_ := Aside0.mk ((by rw [hg]; exact Nat.ne_of_lt (blk_lt (g := gb334) (o := .cells #[.slice A1_0 l1_0.length c1_0, .int .i64 a1_1] 36 (0, 0)) (by (with_reducible repeat (first | refine blk_drewN ?_ _ | refine blk_drew ?_ | refine blk_alloc ?_ _)); exact BK334.out)) : gb334 ≠ gb361))
         have n12_ := Aside0.mk ((by rw [hg]; exact Nat.ne_of_gt (blk_lt (g := gb334) (o := .cells #[.slice A1_0 l1_0.length c1_0, .int .i64 a1_1] 36 (0, 0)) (by (with_reducible repeat (first | refine blk_drewN ?_ _ | refine blk_drew ?_ | refine blk_alloc ?_ _)); exact BK334.out)) : gb361 ≠ gb334))
         clear HO_35
         clear HL347_0
         clear HO353
         clear HO356
         clear HO360
         clear BK334
         clear HR347_0
         clear HB
         have HO_35 := n0_
         have HL347_0 := n1_
         have HO353 := n2_
         have HO356 := n3_
         have HO360 := n4_
         have BK334 := n5_
         have HR347_0 := n6_
         have HB := n7_
         have BK361 := n8_
         have GW361 := n9_
         have GE361 := n10_
         have NB334_361 := n11_
         have NB361_334 := n12_
         clear n0_ n1_ n2_ n3_ n4_ n5_ n6_ n7_ n8_ n9_ n10_ n11_ n12_
         clear hb hbox hg
         refine hK.out _ _ ⟨(blk_cell BK334.out 0).trans rfl, (blk_cell BK334.out 1).trans rfl⟩ (fun hHeld => ?_)
         clear hK K
         refine norm_ (a' := ?_) ?_ ?_
         rotate_left
         ·
          show Act.put _ (some 12) _ = _
          simp only [Act.put, List.setIfInBounds_toArray, List.set_cons_zero, List.set_cons_succ, i64_w, i32_w]
          rfl
         exact norm_ (by simp only [putAll, Act.put, List.setIfInBounds_toArray, List.set_cons_zero, List.set_cons_succ]) (hCont (v355, v359, gb361) _ ⟨hHeld, (by (with_reducible repeat (first | apply Kd.V_alloc | apply Kd.V_drewN | apply Kd.V_drew)); exact Kd.V_mono HL347_0.out (fun _ hk => ⟨hk.1.1.1.1.1, ⟨hk.1.1.2, ⟨hk.1.2, ⟨hk.1.1.1.2, ⟨hk.1.1.1.1.2, hk.2⟩⟩⟩⟩⟩)), (by (with_reducible repeat (first | apply Kd.V_alloc | apply Kd.V_drewN | apply Kd.V_drew)); exact Kd.V_mono HO353.out (fun _ hk => ⟨hk.1.1.1.1.1, ⟨hk.1.1.2, ⟨hk.1.2, ⟨hk.1.1.1.2, ⟨hk.1.1.1.1.2, hk.2⟩⟩⟩⟩⟩)), (by (with_reducible repeat (first | apply Kd.R_alloc | apply Kd.R_drewN | apply Kd.R_drew)); exact Kd.R_mono HO356.out (fun _ hk => hk.1)), (by (with_reducible repeat (first | apply Kd.N_alloc | apply Kd.N_drewN | apply Kd.N_drew)); exact Kd.N_mono HO360.out (fun _ hk => ⟨hk.1.1, ⟨hk.1.2.1, ⟨hk.1.2.2.1, ⟨hk.1.2.2.2, hk.2⟩⟩⟩⟩)), (by (with_reducible repeat (first | apply Kd.N_alloc | apply Kd.N_drewN | apply Kd.N_drew)); exact Kd.N_mono HO_35.out (fun _ hk => ⟨hk.1.1.1.1, ⟨hk.1.1.2, ⟨hk.1.2, ⟨hk.1.1.1.2, hk.2⟩⟩⟩⟩)), (by (with_reducible repeat (first | refine blk_drewN ?_ _ | refine blk_drew ?_ | refine blk_alloc ?_ _)); exact BK334.out), (by (with_reducible repeat (first | refine blk_drewN ?_ _ | refine blk_drew ?_ | refine blk_alloc ?_ _)); exact BK361.out), GW361.out, GE361.out, NB334_361.out, NB361_334.out, (by repeat (first | (with_reducible first | exact HB.out | apply below_alloc | apply pw_below_drewN | apply below_drew1 | refine below_set ?_ GE334.out | refine below_set ?_ GE361.out) | exact HB.out))⟩)
        ·
         skip
         refine box_step ?hg (N := 12) ?hd (cs := #[.slice none 0 0, .int .i64 0]) (t := 36) ?hr ?_; (case hd => rfl); (case hg => rfl); (case hr => first | (go_simp; done) | (go_simp; rfl))
         intro gb361 hg w36 hbox hb
         have n0_ := Aside0.mk (Kd.N_below (Kd.N_elderB (by (with_reducible repeat (first | apply Kd.N_alloc | apply Kd.N_drewN | apply Kd.N_drew)); exact HO_35.out) gb361 (Nat.le_of_eq hg.symm)) hb)
         have n1_ := Aside0.mk (Kd.V_below (Kd.V_elderB (by (with_reducible repeat (first | apply Kd.V_alloc | apply Kd.V_drewN | apply Kd.V_drew)); exact HL347_0.out) gb361 (Nat.le_of_eq hg.symm)) hb)
         have n2_ := Aside0.mk (Kd.V_below (Kd.V_elderB (by (with_reducible repeat (first | apply Kd.V_alloc | apply Kd.V_drewN | apply Kd.V_drew)); exact HO353.out) gb361 (Nat.le_of_eq hg.symm)) hb)
         have n3_ := Aside0.mk (blk_below (g := gb334) (o := .cells #[.slice A1_0 l1_0.length c1_0, .int .i64 a1_1] 36 (0, 0)) (by (with_reducible repeat (first | refine blk_drewN ?_ _ | refine blk_drew ?_ | refine blk_alloc ?_ _)); exact BK334.out) hb)
         have n4_ := Aside0.mk (Kd.C_below (by repeat (first | (with_reducible exact HR347_0.out) | (with_reducible refine Kd.C_alloc ?_ _) | (with_reducible refine Kd.C_drewN ?_ _) | (with_reducible refine Kd.C_drew ?_) | exact HR347_0.out)) hb)
         have n5_ := Aside0.mk (below_step (by repeat (first | (with_reducible first | exact HB.out | apply below_alloc | apply pw_below_drewN | apply below_drew1 | refine below_set ?_ GE334.out) | exact HB.out)) hb)
         have n6_ := Aside0.mk (hbox)
         have n7_ := Aside0.mk ((by rw [hg]; exact (below_size (by repeat (first | (with_reducible first | exact HB.out | apply below_alloc | apply pw_below_drewN | apply below_drew1 | refine below_set ?_ GE334.out) | exact HB.out))) : w.heap.size ≤ gb361))
         have n8_ := Aside0.mk ((by rw [hg]; exact (below_size (by repeat (first | (with_reducible first | exact HB.out | apply below_alloc | apply pw_below_drewN | apply below_drew1 | refine below_set ?_ GE334.out) | exact HB.out))) : w.heap.size ≤ gb361))
         have n9_ := Aside0.mk ((by rw [hg]; exact Nat.ne_of_lt (blk_lt (g := gb334) (o := .cells #[.slice A1_0 l1_0.length c1_0, .int .i64 a1_1] 36 (0, 0)) (by (with_reducible repeat (first | refine blk_drewN ?_ _ | refine blk_drew ?_ | refine blk_alloc ?_ _)); exact BK334.out)) : gb334 ≠ gb361))
         have n10_ := Aside0.mk ((by rw [hg]; exact Nat.ne_of_gt (blk_lt (g := gb334) (o := .cells #[.slice A1_0 l1_0.length c1_0, .int .i64 a1_1] 36 (0, 0)) (by (with_reducible repeat (first | refine blk_drewN ?_ _ | refine blk_drew ?_ | refine blk_alloc ?_ _)); exact BK334.out)) : gb361 ≠ gb334))
         clear HO_35
         clear HL347_0
         clear HO353
         clear BK334
         clear HR347_0
         clear HB
         have HO_35 := n0_
         have HL347_0 := n1_
         have HO353 := n2_
         have BK334 := n3_
         have HR347_0 := n4_
         have HB := n5_
         have BK361 := n6_
         have GW361 := n7_
         have GE361 := n8_
         have NB334_361 := n9_
         have NB361_334 := n10_
         clear n0_ n1_ n2_ n3_ n4_ n5_ n6_ n7_ n8_ n9_ n10_
         clear hb hbox hg
         refine hK.out _ _ ⟨(blk_cell BK334.out 0).trans rfl, (blk_cell BK334.out 1).trans rfl⟩ (fun hHeld => ?_)
         clear hK K
         refine norm_ (a' := ?_) ?_ ?_
         rotate_left
         ·
          show Act.put _ (some 12) _ = _
          simp only [Act.put, List.setIfInBounds_toArray, List.set_cons_zero, List.set_cons_succ, i64_w, i32_w]
          rfl
         refine one_ (i := 4) (N := some 51) #[true, true, true, true, true, false, false, false, true, false, false] rfl rfl (one_of HT_.out (by kernel_rfl)) (by decide) (fun K hK => ?_)
         refine goes_ Try.func18 (by kernel_rfl) rfl #[.agg #[.slice A1_0 l1_0.length c1_0, .int .i64 a1_1], .slice A347_0 y349.length c347_0] (by rfl) rfl rfl (by (try simp only [List.map_toArray, List.map_cons, List.map_nil]); first | done | rfl | (simp only [List.length_drop, List.length_take]; rfl)) ?_
         with_reducible refine (telegram_Feed.calls k2 _ _ l1_0 a1_1 _ _ y349 t354 t357 t358 _ ?side1 ?side2 ?side3 ?side4 A29.out).mono ?_
         (case side1 => repeat (first | exact (Kd.C_below HR1_0.out HB.out) | (with_reducible refine Kd.C_alloc ?_ _) | (with_reducible refine Kd.C_drewN ?_ _) | (with_reducible refine Kd.C_drew ?_)))
         (case side2 => exact HC1_0.out)
         (case side3 => repeat (first | exact (Kd.V_reads' HO353.out).2.2 | (with_reducible refine Kd.C_alloc ?_ _) | (with_reducible refine Kd.C_drewN ?_ _) | (with_reducible refine Kd.C_drew ?_)))
         (case side4 => exact (Kd.V_reads' HO353.out).2.1)
         rintro e w37 ⟨v355, v359, rfl, ho0, ho1, hb⟩
         refine ⟨_, rfl, ?_⟩
         have n0_ := Aside0.mk (Kd.N_mono (Kd.N_told (Kd.N_told (Kd.N_old (by (with_reducible repeat (first | apply Kd.N_alloc | apply Kd.N_drewN | apply Kd.N_drew)); exact HO_35.out) hb) (Kd.R_base ho0)) (Kd.S_base ho1)) (fun _ h_ => h_.1))
         have n1_ := Aside0.mk (Kd.V_mono (Kd.V_told (Kd.V_told (Kd.V_old (by (with_reducible repeat (first | apply Kd.V_alloc | apply Kd.V_drewN | apply Kd.V_drew)); exact HL347_0.out) hb) (Kd.R_base ho0)) (Kd.S_base ho1)) (fun _ h_ => h_.1))
         have n2_ := Aside0.mk (Kd.V_mono (Kd.V_told (Kd.V_told (Kd.V_old (by (with_reducible repeat (first | apply Kd.V_alloc | apply Kd.V_drewN | apply Kd.V_drew)); exact HO353.out) hb) (Kd.R_base ho0)) (Kd.S_base ho1)) (fun _ h_ => h_.1))
         have n3_ := Aside0.mk (Kd.R_lower (Kd.R_newM (M := fun k_ => (w.heap.size ≤ k_)) ho0 (below_size (by repeat (first | (with_reducible first | exact HB.out | apply below_alloc | apply pw_below_drewN | apply below_drew1 | refine below_set ?_ GE334.out | refine below_set ?_ GE361.out) | exact HB.out))) (fun k_ h_ => h_)) (below_size (by repeat (first | (with_reducible first | exact HB.out | apply below_alloc | apply pw_below_drewN | apply below_drew1 | refine below_set ?_ GE334.out | refine below_set ?_ GE361.out) | exact HB.out))))
         have n4_ := Aside0.mk (Kd.N_lower (Kd.N_mono (ok' := fun k_ => (P2_ k_ ∨ w.heap.size ≤ k_) ∧ some k_ ≠ (v355 : Value).ownBlock ∧ some k_ ≠ (.slice (some ad347) y343.length co22 : Value).ownBlock ∧ k_ ≠ gb334 ∧ k_ ≠ gb361) (Kd.S_N (Kd.S_bound ho1)) (fun k_ hk_ => ⟨(.inr (Nat.le_trans (below_size (by repeat (first | (with_reducible first | exact HB.out | apply below_alloc | apply pw_below_drewN | apply below_drew1 | refine below_set ?_ GE334.out | refine below_set ?_ GE361.out) | exact HB.out))) hk_.2.1)), hk_.1, (Kd.fresh' (Kd.N_lt (by (with_reducible repeat (first | apply Kd.N_alloc | apply Kd.N_drewN | apply Kd.N_drew)); exact HO_35.out)) k_ hk_.2.1), (Kd.freshB (g := gb334) (o := .cells #[.slice A1_0 l1_0.length c1_0, .int .i64 a1_1] 36 (0, 0)) (by (with_reducible repeat (first | refine blk_drewN ?_ _ | refine blk_drew ?_ | refine blk_alloc ?_ _)); exact BK334.out) k_ hk_.2.1), (Kd.freshB (g := gb361) (o := .cells #[.slice none 0 0, .int .i64 0] 36 (0, 0)) (by (with_reducible repeat (first | refine blk_drewN ?_ _ | refine blk_drew ?_ | refine blk_alloc ?_ _)); exact BK361.out) k_ hk_.2.1)⟩)) (below_size (by repeat (first | (with_reducible first | exact HB.out | apply below_alloc | apply pw_below_drewN | apply below_drew1 | refine below_set ?_ GE334.out | refine below_set ?_ GE361.out) | exact HB.out))))
         have n5_ := Aside0.mk (blk_below (g := gb334) (o := .cells #[.slice A1_0 l1_0.length c1_0, .int .i64 a1_1] 36 (0, 0)) (by (with_reducible repeat (first | refine blk_drewN ?_ _ | refine blk_drew ?_ | refine blk_alloc ?_ _)); exact BK334.out) hb)
         have n6_ := Aside0.mk (Kd.C_below (by repeat (first | (with_reducible exact HR347_0.out) | (with_reducible refine Kd.C_alloc ?_ _) | (with_reducible refine Kd.C_drewN ?_ _) | (with_reducible refine Kd.C_drew ?_) | exact HR347_0.out)) hb)
         have n7_ := Aside0.mk (blk_below (g := gb361) (o := .cells #[.slice none 0 0, .int .i64 0] 36 (0, 0)) (by (with_reducible repeat (first | refine blk_drewN ?_ _ | refine blk_drew ?_ | refine blk_alloc ?_ _)); exact BK361.out) hb)
         have n8_ := Aside0.mk (below_step (by repeat (first | (with_reducible first | exact HB.out | apply below_alloc | apply pw_below_drewN | apply below_drew1 | refine below_set ?_ GE334.out | refine below_set ?_ GE361.out) | exact HB.out)) hb)
         clear HO_35
         clear HL347_0
         clear HO353
         clear BK334
         clear HR347_0
         clear BK361
         clear HB
         have HO_35 := n0_
         have HL347_0 := n1_
         have HO353 := n2_
         have HO356 := n3_
         have HO360 := n4_
         have BK334 := n5_
         have HR347_0 := n6_
         have BK361 := n7_
         have HB := n8_
         clear n0_ n1_ n2_ n3_ n4_ n5_ n6_ n7_ n8_
         (try clear hb)
         (try clear hb2)
         (try clear hge)
         (try clear hk)
         (try clear hi)
         (try clear ho0)
         (try clear ho1)
         refine hK.out _ _ ⟨(blk_cell BK334.out 0).trans rfl, (blk_cell BK334.out 1).trans rfl⟩ (fun hHeld => ?_)
         clear hK K
         refine norm_ (a' := ?_) ?_ ?_
         rotate_left
         ·
          show Act.put _ (some 51) _ = _
          simp only [Act.put, List.setIfInBounds_toArray, List.set_cons_zero, List.set_cons_succ, i64_w, i32_w]
          rfl
         refine pure_ (i := 5) (N := some 46) (v := ?_) (a' := ?_) #[true, true, true, true, true, true, false, false, true, false, false] rfl rfl (any_of HT_.out (by kernel_rfl)) (fun _ _ _ h => h) (Or.inl ⟨by rfl, ?_⟩) ?_ ?_
         rotate_left
         ·
          intro w'
          go_simp
          with_reducible rfl
         rotate_left
         ·
          simp only [Act.put, List.setIfInBounds_toArray, List.set_cons_zero, List.set_cons_succ, i64_w, i32_w]
          rfl
         refine pure_ (i := 6) (N := some 52) (v := ?_) (a' := ?_) #[true, true, true, true, true, true, true, false, true, false, false] rfl rfl (any_of HT_.out (by kernel_rfl)) (fun _ _ _ h => h) (Or.inl ⟨by rfl, ?_⟩) ?_ ?_
         rotate_left
         ·
          intro w'
          go_simp
          with_reducible rfl
         rotate_left
         ·
          simp only [Act.put, List.setIfInBounds_toArray, List.set_cons_zero, List.set_cons_succ, i64_w, i32_w]
          rfl
         refine pure_ (i := 7) (N := some 53) (v := ?_) (a' := ?_) #[true, true, true, true, true, true, true, true, true, false, false] rfl rfl (any_of HT_.out (by kernel_rfl)) (fun _ _ _ h => h) (Or.inl ⟨by rfl, ?_⟩) ?_ ?_
         rotate_left
         ·
          intro w'
          go_simp
          with_reducible rfl
         rotate_left
         ·
          simp only [Act.put, List.setIfInBounds_toArray, List.set_cons_zero, List.set_cons_succ, i64_w, i32_w]
          rfl
         exact norm_ (by simp only [putAll, Act.put, List.setIfInBounds_toArray, List.set_cons_zero, List.set_cons_succ]) (hCont (v355, v359, gb361) _ ⟨hHeld, (by (with_reducible repeat (first | apply Kd.V_alloc | apply Kd.V_drewN | apply Kd.V_drew)); exact Kd.V_mono HL347_0.out (fun _ hk => ⟨hk.1.1.1.1.1, ⟨hk.1.2, ⟨hk.2, ⟨hk.1.1.1.2, ⟨hk.1.1.1.1.2, hk.1.1.2⟩⟩⟩⟩⟩)), (by (with_reducible repeat (first | apply Kd.V_alloc | apply Kd.V_drewN | apply Kd.V_drew)); exact Kd.V_mono HO353.out (fun _ hk => ⟨hk.1.1.1.1.1, ⟨hk.1.2, ⟨hk.2, ⟨hk.1.1.1.2, ⟨hk.1.1.1.1.2, hk.1.1.2⟩⟩⟩⟩⟩)), (by (with_reducible repeat (first | apply Kd.R_alloc | apply Kd.R_drewN | apply Kd.R_drew)); exact Kd.R_mono HO356.out (fun _ hk => hk.1)), (by (with_reducible repeat (first | apply Kd.N_alloc | apply Kd.N_drewN | apply Kd.N_drew)); exact HO360.out), (by (with_reducible repeat (first | apply Kd.N_alloc | apply Kd.N_drewN | apply Kd.N_drew)); exact Kd.N_mono HO_35.out (fun _ hk => ⟨hk.1.1.1.1, ⟨hk.1.2, ⟨hk.2, ⟨hk.1.1.1.2, hk.1.1.2⟩⟩⟩⟩)), (by (with_reducible repeat (first | refine blk_drewN ?_ _ | refine blk_drew ?_ | refine blk_alloc ?_ _)); exact BK334.out), (by (with_reducible repeat (first | refine blk_drewN ?_ _ | refine blk_drew ?_ | refine blk_alloc ?_ _)); exact BK361.out), GW361.out, GE361.out, NB334_361.out, NB361_334.out, (by repeat (first | (with_reducible first | exact HB.out | apply below_alloc | apply pw_below_drewN | apply below_drew1 | refine below_set ?_ GE334.out | refine below_set ?_ GE361.out) | exact HB.out))⟩)
       rintro ⟨v355, v359, gb361⟩ w38 ⟨hS_, h0_, h1_, h2_, h3_, h4_, h5_, h6_, h7_, h8_, h9_, h10_, h11_⟩
       have n0_ : Aside0 (Kd.V (Kd.int .u8) 5 w38 w.heap.size (fun k_ => (P2_ k_ ∨ w.heap.size ≤ k_) ∧ some k_ ≠ (v355 : Value).ownBlock ∧ some k_ ≠ (v359 : Value).ownBlock ∧ some k_ ≠ (.slice (some ad347) y343.length co22 : Value).ownBlock ∧ k_ ≠ gb334 ∧ k_ ≠ gb361) (.slice A347_0 (rd_L2 y343 x37_2).length c347_0) (rd_L2 y343 x37_2)) := ⟨h0_⟩
       have n1_ : Aside0 (Kd.V (Kd.int .u8) 5 w38 w.heap.size (fun k_ => (P2_ k_ ∨ w.heap.size ≤ k_) ∧ some k_ ≠ (v355 : Value).ownBlock ∧ some k_ ≠ (v359 : Value).ownBlock ∧ some k_ ≠ (.slice (some ad347) y343.length co22 : Value).ownBlock ∧ k_ ≠ gb334 ∧ k_ ≠ gb361) (.slice A347_0 y349.length c347_0) y349) := ⟨h1_⟩
       have n2_ : Aside0 (Kd.R (Kd.int .u8) 5 w38 w.heap.size (fun k_ => (w.heap.size ≤ k_)) v355 t354) := ⟨h2_⟩
       have n3_ : Aside0 (Kd.N k24 24 w38 w.heap.size (fun k_ => (P2_ k_ ∨ w.heap.size ≤ k_) ∧ some k_ ≠ (v355 : Value).ownBlock ∧ some k_ ≠ (.slice (some ad347) y343.length co22 : Value).ownBlock ∧ k_ ≠ gb334 ∧ k_ ≠ gb361) v359 t358) := ⟨h3_⟩
       have n4_ : Aside0 (Kd.N (Kd.slice 5 (Kd.int .u8)) 22 w38 w.heap.size (fun k_ => (P2_ k_ ∨ w.heap.size ≤ k_) ∧ some k_ ≠ (v355 : Value).ownBlock ∧ some k_ ≠ (v359 : Value).ownBlock ∧ k_ ≠ gb334 ∧ k_ ≠ gb361) (.slice (some ad347) y343.length co22) y343) := ⟨h4_⟩
       have n5_ : Aside0 (w38.heap[gb334]? = some (.cells #[.slice A1_0 l1_0.length c1_0, .int .i64 a1_1] 36 (0, 0))) := ⟨h5_⟩
       have n6_ : Aside0 (w38.heap[gb361]? = some (.cells #[.slice none 0 0, .int .i64 0] 36 (0, 0))) := ⟨h6_⟩
       have n7_ : Aside0 (w.heap.size ≤ gb361) := ⟨h7_⟩
       have n8_ : Aside0 (w.heap.size ≤ gb361) := ⟨h8_⟩
       have n9_ : Aside0 (gb334 ≠ gb361) := ⟨h9_⟩
       have n10_ : Aside0 (gb361 ≠ gb334) := ⟨h10_⟩
       have n11_ : Aside0 (Below w.heap.size w w38) := ⟨h11_⟩
       clear HO_35
       clear HL347_0
       clear BK334
       clear HR347_0
       clear HB
       clear h0_ h1_ h2_ h3_ h4_ h5_ h6_ h7_ h8_ h9_ h10_ h11_
       have HL347_0 := n0_
       have HO353 := n1_
       have HO356 := n2_
       have HO360 := n3_
       have HO_35 := n4_
       have BK334 := n5_
       have BK361 := n6_
       have GW361 := n7_
       have GE361 := n8_
       have NB334_361 := n9_
       have NB361_334 := n10_
       have HB := n11_
       clear n0_ n1_ n2_ n3_ n4_ n5_ n6_ n7_ n8_ n9_ n10_ n11_
       have hHeld : w38.cell? ⟨gb334, 0, none⟩ = some (.slice A1_0 l1_0.length c1_0) ∧ w38.cell? ⟨gb334, 1, none⟩ = some (.int .i64 a1_1) := hS_
       obtain ⟨Ao39, co39, eo39⟩ := Kd.R_slice HO356.out
       (first | subst eo39 | (injection eo39 with f1_ f2_ f3_; have f4_ := f1_.symm; have f5_ := f3_.symm; clear f1_ f2_ f3_; subst f4_; subst f5_))
       refine norm_ (a' := ?_) ?_ ?_
       rotate_left
       ·
        simp only [putAll, Act.put, List.setIfInBounds_toArray, List.set_cons_zero, List.set_cons_succ]
        rfl
       refine one_ (i := 9) (N := none) #[true, true, true, true, true, true, true, true, true, true, false] rfl rfl (one_of HT_.out (by kernel_rfl)) (by decide) (fun K hK => ?_)
       have hs40 : w38.cell? ⟨gb361, 0, none⟩ = some (.slice none 0 0) := (blk_cell BK361.out 0).trans rfl
       have hfs40 := blk_frozen BK361.out 0
       have hns40_0 := NB334_361.out
       have hms40_0 := NB361_334.out
       have hs41 : w38.cell? ⟨gb361, 1, none⟩ = some (.int .i64 0) := (blk_cell BK361.out 1).trans rfl
       have hfs41 := blk_frozen BK361.out 1
       have hns41_0 := NB334_361.out
       have hms41_0 := NB361_334.out
       refine skip_ (w1 := ?_) (by rfl) rfl ?_ ?_
       rotate_left
       ·
        go_simp
        rfl
       refine hK.out _ _ ⟨((cell_far (p := ⟨gb361, _, none⟩) NB334_361.out _).trans (((cell_far (p := ⟨gb361, _, none⟩) NB334_361.out _).trans (hHeld.1)))), ((cell_far (p := ⟨gb361, _, none⟩) NB334_361.out _).trans (((cell_far (p := ⟨gb361, _, none⟩) NB334_361.out _).trans (hHeld.2))))⟩ (fun hHeld => ?_)
       clear hK K
       refine pure_ (i := 10) (N := some 13) (v := ?_) (a' := ?_) #[true, true, true, true, true, true, true, true, true, true, true] rfl rfl (any_of HT_.out (by kernel_rfl)) (fun _ _ _ h => h) (Or.inl ⟨by rfl, ?_⟩) ?_ ?_
       rotate_left
       ·
        intro w'
        go_simp
        with_reducible rfl
       rotate_left
       ·
        simp only [Act.put, List.setIfInBounds_toArray, List.set_cons_zero, List.set_cons_succ, i64_w, i32_w]
        rfl
       refine done_ (done_of HT_.out (by kernel_rfl)) ?_
       try go_wp2
       have n0_ : Aside0 (Kd.N (Kd.slice 5 (Kd.int .u8)) 22 ((w38.setCell ⟨gb361, 0, none⟩ (.slice Ao39 t354.length co39)).setCell ⟨gb361, 1, none⟩ (.int .i64 t357)) w.heap.size (fun k_ => (P2_ k_ ∨ w.heap.size ≤ k_) ∧ some k_ ≠ (.slice Ao39 t354.length co39 : Value).ownBlock ∧ some k_ ≠ (v359 : Value).ownBlock ∧ k_ ≠ gb334 ∧ k_ ≠ gb361) (.slice (some ad347) y343.length co22) y343) := ⟨by (with_reducible repeat (first | apply Kd.N_alloc | apply Kd.N_drewN | apply Kd.N_drew)); exact Kd.N_mono (Kd.N_far (p := ⟨gb361, 1, none⟩) (Kd.N_far (p := ⟨gb361, 0, none⟩) (Kd.N_mono HO_35.out (fun k_ hk => (⟨hk, hk.2.2.2.2⟩ : _ ∧ k_ ≠ gb361))) (fun _ hk => hk.2) (.slice Ao39 t354.length co39)) (fun _ hk => hk.2) (.int .i64 t357)) (fun _ hk => ⟨hk.1.1, ⟨hk.1.2.1, ⟨hk.1.2.2.1, ⟨hk.1.2.2.2.1, hk.1.2.2.2.2⟩⟩⟩⟩)⟩
       have n1_ : Aside0 (Kd.V (Kd.int .u8) 5 ((w38.setCell ⟨gb361, 0, none⟩ (.slice Ao39 t354.length co39)).setCell ⟨gb361, 1, none⟩ (.int .i64 t357)) w.heap.size (fun k_ => (P2_ k_ ∨ w.heap.size ≤ k_) ∧ some k_ ≠ (.slice (some ad347) y343.length co22 : Value).ownBlock ∧ some k_ ≠ (.slice Ao39 t354.length co39 : Value).ownBlock ∧ some k_ ≠ (v359 : Value).ownBlock ∧ k_ ≠ gb334 ∧ k_ ≠ gb361) (.slice A347_0 (rd_L2 y343 x37_2).length c347_0) (rd_L2 y343 x37_2)) := ⟨by (with_reducible repeat (first | apply Kd.V_alloc | apply Kd.V_drewN | apply Kd.V_drew)); exact Kd.V_mono (Kd.V_far (p := ⟨gb361, 1, none⟩) (Kd.V_far (p := ⟨gb361, 0, none⟩) (Kd.V_mono HL347_0.out (fun k_ hk => (⟨hk, hk.2.2.2.2.2⟩ : _ ∧ k_ ≠ gb361))) (fun _ hk => hk.2) (.slice Ao39 t354.length co39)) (fun _ hk => hk.2) (.int .i64 t357)) (fun _ hk => ⟨hk.1.1, ⟨hk.1.2.2.2.1, ⟨hk.1.2.1, ⟨hk.1.2.2.1, ⟨hk.1.2.2.2.2.1, hk.1.2.2.2.2.2⟩⟩⟩⟩⟩)⟩
       have n2_ : Aside0 (Kd.V (Kd.int .u8) 5 ((w38.setCell ⟨gb361, 0, none⟩ (.slice Ao39 t354.length co39)).setCell ⟨gb361, 1, none⟩ (.int .i64 t357)) w.heap.size (fun k_ => (P2_ k_ ∨ w.heap.size ≤ k_) ∧ some k_ ≠ (.slice (some ad347) y343.length co22 : Value).ownBlock ∧ some k_ ≠ (.slice Ao39 t354.length co39 : Value).ownBlock ∧ some k_ ≠ (v359 : Value).ownBlock ∧ k_ ≠ gb334 ∧ k_ ≠ gb361) (.slice A347_0 y349.length c347_0) y349) := ⟨by (with_reducible repeat (first | apply Kd.V_alloc | apply Kd.V_drewN | apply Kd.V_drew)); exact Kd.V_mono (Kd.V_far (p := ⟨gb361, 1, none⟩) (Kd.V_far (p := ⟨gb361, 0, none⟩) (Kd.V_mono HO353.out (fun k_ hk => (⟨hk, hk.2.2.2.2.2⟩ : _ ∧ k_ ≠ gb361))) (fun _ hk => hk.2) (.slice Ao39 t354.length co39)) (fun _ hk => hk.2) (.int .i64 t357)) (fun _ hk => ⟨hk.1.1, ⟨hk.1.2.2.2.1, ⟨hk.1.2.1, ⟨hk.1.2.2.1, ⟨hk.1.2.2.2.2.1, hk.1.2.2.2.2.2⟩⟩⟩⟩⟩)⟩
       have n3_ : Aside0 (Kd.R (Kd.int .u8) 5 ((w38.setCell ⟨gb361, 0, none⟩ (.slice Ao39 t354.length co39)).setCell ⟨gb361, 1, none⟩ (.int .i64 t357)) w.heap.size (fun k_ => (w.heap.size ≤ k_)) (.slice Ao39 t354.length co39) t354) := ⟨by (with_reducible repeat (first | apply Kd.R_alloc | apply Kd.R_drewN | apply Kd.R_drew)); exact Kd.R_mono (Kd.R_far (p := ⟨gb361, 1, none⟩) (Kd.R_far (p := ⟨gb361, 0, none⟩) (Kd.R_types HO356.out BK361.out (by decide)) (fun _ hk => hk.2) (.slice Ao39 t354.length co39)) (fun _ hk => hk.2) (.int .i64 t357)) (fun _ hk => hk.1)⟩
       have n4_ : Aside0 (Kd.N k24 24 ((w38.setCell ⟨gb361, 0, none⟩ (.slice Ao39 t354.length co39)).setCell ⟨gb361, 1, none⟩ (.int .i64 t357)) w.heap.size (fun k_ => (P2_ k_ ∨ w.heap.size ≤ k_) ∧ some k_ ≠ (.slice (some ad347) y343.length co22 : Value).ownBlock ∧ some k_ ≠ (.slice Ao39 t354.length co39 : Value).ownBlock ∧ k_ ≠ gb334 ∧ k_ ≠ gb361) v359 t358) := ⟨by (with_reducible repeat (first | apply Kd.N_alloc | apply Kd.N_drewN | apply Kd.N_drew)); exact Kd.N_mono (Kd.N_far (p := ⟨gb361, 1, none⟩) (Kd.N_far (p := ⟨gb361, 0, none⟩) (Kd.N_mono HO360.out (fun k_ hk => (⟨hk, hk.2.2.2.2⟩ : _ ∧ k_ ≠ gb361))) (fun _ hk => hk.2) (.slice Ao39 t354.length co39)) (fun _ hk => hk.2) (.int .i64 t357)) (fun _ hk => ⟨hk.1.1, ⟨hk.1.2.2.1, ⟨hk.1.2.1, ⟨hk.1.2.2.2.1, hk.1.2.2.2.2⟩⟩⟩⟩)⟩
       have n5_ : Aside0 (((w38.setCell ⟨gb361, 0, none⟩ (.slice Ao39 t354.length co39)).setCell ⟨gb361, 1, none⟩ (.int .i64 t357)).heap[gb334]? = some (.cells #[.slice A1_0 l1_0.length c1_0, .int .i64 a1_1] 36 (0, 0))) := ⟨by (with_reducible repeat (first | refine blk_drewN ?_ _ | refine blk_drew ?_ | refine blk_alloc ?_ _)); refine blk_far ?_ NB334_361.out _; (with_reducible repeat (first | refine blk_drewN ?_ _ | refine blk_drew ?_ | refine blk_alloc ?_ _)); refine blk_far ?_ NB334_361.out _; (with_reducible repeat (first | refine blk_drewN ?_ _ | refine blk_drew ?_ | refine blk_alloc ?_ _)); exact BK334.out⟩
       have n6_ : Aside0 (((w38.setCell ⟨gb361, 0, none⟩ (.slice Ao39 t354.length co39)).setCell ⟨gb361, 1, none⟩ (.int .i64 t357)).heap[gb361]? = some (.cells #[.slice Ao39 t354.length co39, .int .i64 t357] 36 (0, 0))) := ⟨by (with_reducible repeat (first | refine blk_drewN ?_ _ | refine blk_drew ?_ | refine blk_alloc ?_ _)); refine blk_put (cs := #[.slice Ao39 t354.length co39, .int .i64 0]) ?_ 1 _ rfl; (with_reducible repeat (first | refine blk_drewN ?_ _ | refine blk_drew ?_ | refine blk_alloc ?_ _)); refine blk_put (cs := #[.slice none 0 0, .int .i64 0]) ?_ 0 _ rfl; (with_reducible repeat (first | refine blk_drewN ?_ _ | refine blk_drew ?_ | refine blk_alloc ?_ _)); exact BK361.out⟩
       have n7_ : Aside0 (Below w.heap.size w ((w38.setCell ⟨gb361, 0, none⟩ (.slice Ao39 t354.length co39)).setCell ⟨gb361, 1, none⟩ (.int .i64 t357))) := ⟨by repeat (first | (with_reducible first | exact HB.out | apply below_alloc | apply pw_below_drewN | apply below_drew1 | refine below_set ?_ GE334.out | refine below_set ?_ GE361.out) | exact HB.out)⟩
       (try clear HO_35)
       (try clear HL347_0)
       (try clear HO353)
       (try clear HO356)
       (try clear HO360)
       (try clear BK334)
       (try clear BK361)
       (try clear HB)
       generalize ((w38.setCell ⟨gb361, 0, none⟩ (.slice Ao39 t354.length co39)).setCell ⟨gb361, 1, none⟩ (.int .i64 t357)) = w42 at n0_ n1_ n2_ n3_ n4_ n5_ n6_ n7_ ⊢
       have HO_35 := n0_
       have HL347_0 := n1_
       have HO353 := n2_
       have HO356 := n3_
       have HO360 := n4_
       have BK334 := n5_
       have BK361 := n6_
       have HB := n7_
       clear n0_ n1_ n2_ n3_ n4_ n5_ n6_ n7_
       have n0_ := Aside0.mk (Kd.N_drew HO_35.out)
       have n1_ := Aside0.mk (Kd.V_drew HL347_0.out)
       have n2_ := Aside0.mk (Kd.V_drew HO353.out)
       have n3_ := Aside0.mk (Kd.R_drew HO356.out)
       have n4_ := Aside0.mk (Kd.N_drew HO360.out)
       have n5_ := Aside0.mk (blk_drew BK334.out)
       have n6_ := Aside0.mk (blk_drew BK361.out)
       have n7_ := Aside0.mk (below_drew1 HB.out)
       clear HO_35
       clear HL347_0
       clear HO353
       clear HO356
       clear HO360
       clear BK334
       clear BK361
       clear HB
       have HO_35 := n0_
       have HL347_0 := n1_
       have HO353 := n2_
       have HO356 := n3_
       have HO360 := n4_
       have BK334 := n5_
       have BK361 := n6_
       have HB := n7_
       clear n0_ n1_ n2_ n3_ n4_ n5_ n6_ n7_
       have q44 : (t348 : Int) ≤ (((rd_L2 y343 x37_2).length : Int) : Int) := of_decide_eq_true (by first | (with_reducible assumption) | assumption)
       obtain ⟨i044, hi044, _, hsz44, _⟩ := info_parts info5
       have hroom44 : (rd_L2 y343 x37_2).length ≤ c347_0 := HC347_0.out
       have hC44 : Kd.F (Kd.int .u8) _ _ A347_0 (rd_L2 y343 x37_2).length (rd_L2 y343 x37_2) := (Kd.V_at (base := w.heap.size) HL347_0.out).2.2
       (try clear hcut35)
       (try clear hcut35)
       (try clear hcut35)
       (try clear hcut35)
       (try clear hcut44)
       (try clear hcut35)
       (try clear hcut44)
       have hcut44 := cut_to (P := Try.prog) 22 5 .i64 Try.underlying22 hi044 A347_0 (rd_L2 y343 x37_2).length c347_0 t348 (of_decide_eq_true (by first | (with_reducible assumption) | assumption)) q44 hroom44
       have hr44 := Kd.F_take (m := (t348 : Int).toNat) hC44 (by omega)
       have hy44 : y362.length = (t348 : Int).toNat := (by rw [Ny362.out, List.length_take]; omega)
       rw [← Ny362.out] at hr44
       rw [← hy44] at hcut44
       have HO366 := Aside0.mk (show Kd.V (Kd.int .u8) 5 _ w.heap.size _ (.slice A347_0 y362.length c347_0) y362 from Kd.V_mk (by omega) hr44)
       have HC366 := Aside0.mk (show y362.length ≤ c347_0 from by omega)
       clear hr44 hC44 hroom44 hi044 hsz44
       have KY44 := Aside0.mk hy44
       clear hy44
       replace q44 := eq_true q44
       refine start_ (n := 11) (S := fun w' => w'.cell? ⟨gb334, 0, none⟩ = some (.slice A1_0 l1_0.length c1_0) ∧ w'.cell? ⟨gb334, 1, none⟩ = some (.int .i64 a1_1)) (ds := []) #[false, false, false, false, false, false, false, false, false, false, false] (by kernel_rfl) rfl rfl ⟨(blk_cell BK334.out 0).trans rfl, (blk_cell BK334.out 1).trans rfl⟩ (fun hHeld => ?_); refine with_tabW minecontrollaw04_TelegramReads.tab8 minecontrollaw04_TelegramReads.bits8 (fun HT_ HW_ => ?_)
       generalize w42.drew = w43 at HO_35 HL347_0 HO353 HO356 HO360 BK334 BK361 HB HO366 hHeld ⊢
       refine pure_ (i := 1) (N := some 56) (v := ?_) (a' := ?_) #[false, true, false, false, false, false, false, false, false, false, false] rfl rfl (any_of HT_.out (by kernel_rfl)) (fun _ _ _ h => h) (Or.inl ⟨by rfl, ?_⟩) ?_ ?_
       rotate_left
       ·
        intro w'
        go_simp
        with_reducible rfl
       rotate_left
       ·
        simp only [Act.put, List.setIfInBounds_toArray, List.set_cons_zero, List.set_cons_succ, i64_w, i32_w]
        rfl
       refine pure_ (i := 2) (N := some 57) (v := ?_) (a' := ?_) #[false, true, true, false, false, false, false, false, false, false, false] rfl rfl (any_of HT_.out (by kernel_rfl)) (fun _ _ _ h => h) (Or.inl ⟨by rfl, ?_⟩) ?_ ?_
       rotate_left
       ·
        intro w'
        go_simp
        with_reducible rfl
       rotate_left
       ·
        simp only [Act.put, List.setIfInBounds_toArray, List.set_cons_zero, List.set_cons_succ, i64_w, i32_w]
        rfl
       refine pure_ (i := 3) (N := some 58) (v := ?_) (a' := ?_) #[false, true, true, true, false, false, false, false, false, false, false] rfl rfl (any_of HT_.out (by kernel_rfl)) (fun _ _ _ h => h) (Or.inl ⟨by rfl, ?_⟩) ?_ ?_
       rotate_left
       ·
        intro w'
        go_simp
        with_reducible rfl
       rotate_left
       ·
        simp only [Act.put, List.setIfInBounds_toArray, List.set_cons_zero, List.set_cons_succ, i64_w, i32_w]
        rfl
       refine take_ (i := 0) (N := some 55) (v := ?_) (a' := ?_) #[true, true, true, true, false, false, false, false, false, false, false] rfl rfl (take_ofW HT_.out HW_.out (by kernel_rfl)) (fun _ _ _ h => h) (Or.inl ⟨by rfl, ?_⟩) hHeld ?_ ?_
       rotate_left
       ·
        rintro w' ⟨s0, s1⟩
        go_simp
        with_reducible rfl
       rotate_left
       ·
        simp only [Act.put, List.setIfInBounds_toArray, List.set_cons_zero, List.set_cons_succ, i64_w, i32_w]
        rfl
       refine join_ (σ := Value × Value × Nat) 2 #[true, true, true, true, true, true, true, true, true, false, false] (fun s_ => [(59, .tuple #[.agg #[s_.1, .int .i64 t370], s_.2.1]), (14, .pointer (some ⟨s_.2.2, 0, none⟩)), (54, .tuple #[.agg #[s_.1, .int .i64 t370], s_.2.1]), (60, .agg #[s_.1, .int .i64 t370]), (61, s_.2.1)]) (fun s_ w' => (w'.cell? ⟨gb334, 0, none⟩ = some (.slice A1_0 l1_0.length c1_0) ∧ w'.cell? ⟨gb334, 1, none⟩ = some (.int .i64 a1_1)) ∧ (Kd.V (Kd.int .u8) 5 w' w.heap.size (fun k_ => (P2_ k_ ∨ w.heap.size ≤ k_) ∧ some k_ ≠ (.slice Ao39 t354.length co39 : Value).ownBlock ∧ some k_ ≠ (v359 : Value).ownBlock ∧ some k_ ≠ (s_.1 : Value).ownBlock ∧ some k_ ≠ (s_.2.1 : Value).ownBlock ∧ some k_ ≠ (.slice (some ad347) y343.length co22 : Value).ownBlock ∧ k_ ≠ gb334 ∧ k_ ≠ gb361 ∧ k_ ≠ s_.2.2) (.slice A347_0 (rd_L2 y343 x37_2).length c347_0) (rd_L2 y343 x37_2)) ∧ (Kd.V (Kd.int .u8) 5 w' w.heap.size (fun k_ => (P2_ k_ ∨ w.heap.size ≤ k_) ∧ some k_ ≠ (.slice Ao39 t354.length co39 : Value).ownBlock ∧ some k_ ≠ (v359 : Value).ownBlock ∧ some k_ ≠ (s_.1 : Value).ownBlock ∧ some k_ ≠ (s_.2.1 : Value).ownBlock ∧ some k_ ≠ (.slice (some ad347) y343.length co22 : Value).ownBlock ∧ k_ ≠ gb334 ∧ k_ ≠ gb361 ∧ k_ ≠ s_.2.2) (.slice A347_0 y349.length c347_0) y349) ∧ (Kd.R (Kd.int .u8) 5 w' w.heap.size (fun k_ => (w.heap.size ≤ k_) ∧ some k_ ≠ (s_.1 : Value).ownBlock) (.slice Ao39 t354.length co39) t354) ∧ (Kd.N k24 24 w' w.heap.size (fun k_ => (P2_ k_ ∨ w.heap.size ≤ k_) ∧ some k_ ≠ (.slice Ao39 t354.length co39 : Value).ownBlock ∧ some k_ ≠ (s_.1 : Value).ownBlock ∧ some k_ ≠ (s_.2.1 : Value).ownBlock ∧ some k_ ≠ (.slice (some ad347) y343.length co22 : Value).ownBlock ∧ k_ ≠ gb334 ∧ k_ ≠ gb361 ∧ k_ ≠ s_.2.2) v359 t358) ∧ (Kd.V (Kd.int .u8) 5 w' w.heap.size (fun k_ => (P2_ k_ ∨ w.heap.size ≤ k_) ∧ some k_ ≠ (.slice Ao39 t354.length co39 : Value).ownBlock ∧ some k_ ≠ (v359 : Value).ownBlock ∧ some k_ ≠ (s_.1 : Value).ownBlock ∧ some k_ ≠ (s_.2.1 : Value).ownBlock ∧ some k_ ≠ (.slice (some ad347) y343.length co22 : Value).ownBlock ∧ k_ ≠ gb334 ∧ k_ ≠ gb361 ∧ k_ ≠ s_.2.2) (.slice A347_0 y362.length c347_0) y362) ∧ (Kd.R (Kd.int .u8) 5 w' w.heap.size (fun k_ => (w.heap.size ≤ k_) ∧ some k_ ≠ (.slice Ao39 t354.length co39 : Value).ownBlock) s_.1 t367) ∧ (Kd.N k24 24 w' w.heap.size (fun k_ => (P2_ k_ ∨ w.heap.size ≤ k_) ∧ some k_ ≠ (.slice Ao39 t354.length co39 : Value).ownBlock ∧ some k_ ≠ (v359 : Value).ownBlock ∧ some k_ ≠ (s_.1 : Value).ownBlock ∧ some k_ ≠ (.slice (some ad347) y343.length co22 : Value).ownBlock ∧ k_ ≠ gb334 ∧ k_ ≠ gb361 ∧ k_ ≠ s_.2.2) s_.2.1 t371) ∧ (Kd.N (Kd.slice 5 (Kd.int .u8)) 22 w' w.heap.size (fun k_ => (P2_ k_ ∨ w.heap.size ≤ k_) ∧ some k_ ≠ (.slice Ao39 t354.length co39 : Value).ownBlock ∧ some k_ ≠ (v359 : Value).ownBlock ∧ some k_ ≠ (s_.1 : Value).ownBlock ∧ some k_ ≠ (s_.2.1 : Value).ownBlock ∧ k_ ≠ gb334 ∧ k_ ≠ gb361 ∧ k_ ≠ s_.2.2) (.slice (some ad347) y343.length co22) y343) ∧ (w'.heap[gb334]? = some (.cells #[.slice A1_0 l1_0.length c1_0, .int .i64 a1_1] 36 (0, 0))) ∧ (w'.heap[gb361]? = some (.cells #[.slice Ao39 t354.length co39, .int .i64 t357] 36 (0, 0))) ∧ (w'.heap[s_.2.2]? = some (.cells #[.slice none 0 0, .int .i64 0] 36 (0, 0))) ∧ (w.heap.size ≤ s_.2.2) ∧ (w.heap.size ≤ s_.2.2) ∧ (gb334 ≠ s_.2.2) ∧ (s_.2.2 ≠ gb334) ∧ (gb361 ≠ s_.2.2) ∧ (s_.2.2 ≠ gb361) ∧ (Below w.heap.size w w')) ?_ ?_
       rotate_left
       ·
        intro hCont
        refine two_ (i := 4) (j := 8) (Ni := some 59) (Nj := some 14) #[true, true, true, true, true, false, false, false, false, false, false] #[true, true, true, true, false, false, false, false, true, false, false] rfl rfl rfl rfl (two_of HT_.out (by kernel_rfl)) (by decide) (by decide) (fun K hK => ?_) (fun K hK => ?_)
        ·
         skip
         refine goes_ Try.func19 (by kernel_rfl) rfl #[.agg #[.slice A1_0 l1_0.length c1_0, .int .i64 a1_1], .slice A347_0 y362.length c347_0] (by rfl) rfl rfl (by (try simp only [List.map_toArray, List.map_cons, List.map_nil]); first | done | rfl | (simp only [List.length_drop, List.length_take]; rfl)) ?_
         with_reducible refine (minecontrolref04_Feed.calls k2 _ _ l1_0 a1_1 _ _ y362 t367 t370 t371 _ ?side1 ?side2 ?side3 ?side4 A32.out).mono ?_
         (case side1 => repeat (first | exact (Kd.C_below HR1_0.out HB.out) | (with_reducible refine Kd.C_alloc ?_ _) | (with_reducible refine Kd.C_drewN ?_ _) | (with_reducible refine Kd.C_drew ?_)))
         (case side2 => exact HC1_0.out)
         (case side3 => repeat (first | exact (Kd.V_reads' HO366.out).2.2 | (with_reducible refine Kd.C_alloc ?_ _) | (with_reducible refine Kd.C_drewN ?_ _) | (with_reducible refine Kd.C_drew ?_)))
         (case side4 => exact (Kd.V_reads' HO366.out).2.1)
         rintro e w45 ⟨v368, v372, rfl, ho0, ho1, hb⟩
         refine ⟨_, rfl, ?_⟩
         have n0_ := Aside0.mk (Kd.N_mono (Kd.N_told (Kd.N_told (Kd.N_old (by (with_reducible repeat (first | apply Kd.N_alloc | apply Kd.N_drewN | apply Kd.N_drew)); exact HO_35.out) hb) (Kd.R_base ho0)) (Kd.S_base ho1)) (fun _ h_ => h_.1))
         have n1_ := Aside0.mk (Kd.V_mono (Kd.V_told (Kd.V_told (Kd.V_old (by (with_reducible repeat (first | apply Kd.V_alloc | apply Kd.V_drewN | apply Kd.V_drew)); exact HL347_0.out) hb) (Kd.R_base ho0)) (Kd.S_base ho1)) (fun _ h_ => h_.1))
         have n2_ := Aside0.mk (Kd.V_mono (Kd.V_told (Kd.V_told (Kd.V_old (by (with_reducible repeat (first | apply Kd.V_alloc | apply Kd.V_drewN | apply Kd.V_drew)); exact HO353.out) hb) (Kd.R_base ho0)) (Kd.S_base ho1)) (fun _ h_ => h_.1))
         have n3_ := Aside0.mk (Kd.R_elder' (by (with_reducible repeat (first | apply Kd.R_alloc | apply Kd.R_drewN | apply Kd.R_drew)); exact HO356.out) (Kd.R_base ho0) hb)
         have n4_ := Aside0.mk (Kd.N_mono (Kd.N_told (Kd.N_told (Kd.N_old (by (with_reducible repeat (first | apply Kd.N_alloc | apply Kd.N_drewN | apply Kd.N_drew)); exact HO360.out) hb) (Kd.R_base ho0)) (Kd.S_base ho1)) (fun _ h_ => h_.1))
         have n5_ := Aside0.mk (Kd.V_mono (Kd.V_told (Kd.V_told (Kd.V_old (by (with_reducible repeat (first | apply Kd.V_alloc | apply Kd.V_drewN | apply Kd.V_drew)); exact HO366.out) hb) (Kd.R_base ho0)) (Kd.S_base ho1)) (fun _ h_ => h_.1))
         have n6_ := Aside0.mk (Kd.R_lower (Kd.R_new' (Kd.R_newM (M := fun k_ => (w.heap.size ≤ k_)) ho0 (below_size (by repeat (first | (with_reducible first | exact HB.out | apply below_alloc | apply pw_below_drewN | apply below_drew1 | refine below_set ?_ GE334.out | refine below_set ?_ GE361.out) | exact HB.out))) (fun k_ h_ => h_)) (Kd.R_lt (by (with_reducible repeat (first | apply Kd.R_alloc | apply Kd.R_drewN | apply Kd.R_drew)); exact HO356.out))) (below_size (by repeat (first | (with_reducible first | exact HB.out | apply below_alloc | apply pw_below_drewN | apply below_drew1 | refine below_set ?_ GE334.out | refine below_set ?_ GE361.out) | exact HB.out))))
         have n7_ := Aside0.mk (Kd.N_lower (Kd.N_mono (ok' := fun k_ => (P2_ k_ ∨ w.heap.size ≤ k_) ∧ some k_ ≠ (v368 : Value).ownBlock ∧ some k_ ≠ (.slice (some ad347) y343.length co22 : Value).ownBlock ∧ some k_ ≠ (.slice Ao39 t354.length co39 : Value).ownBlock ∧ some k_ ≠ (v359 : Value).ownBlock ∧ k_ ≠ gb334 ∧ k_ ≠ gb361) (Kd.S_N (Kd.S_bound ho1)) (fun k_ hk_ => ⟨(.inr (Nat.le_trans (below_size (by repeat (first | (with_reducible first | exact HB.out | apply below_alloc | apply pw_below_drewN | apply below_drew1 | refine below_set ?_ GE334.out | refine below_set ?_ GE361.out) | exact HB.out))) hk_.2.1)), hk_.1, (Kd.fresh' (Kd.N_lt (by (with_reducible repeat (first | apply Kd.N_alloc | apply Kd.N_drewN | apply Kd.N_drew)); exact HO_35.out)) k_ hk_.2.1), (Kd.fresh' (Kd.R_lt (by (with_reducible repeat (first | apply Kd.R_alloc | apply Kd.R_drewN | apply Kd.R_drew)); exact HO356.out)) k_ hk_.2.1), (Kd.fresh' (Kd.N_lt (by (with_reducible repeat (first | apply Kd.N_alloc | apply Kd.N_drewN | apply Kd.N_drew)); exact HO360.out)) k_ hk_.2.1), (Kd.freshB (g := gb334) (o := .cells #[.slice A1_0 l1_0.length c1_0, .int .i64 a1_1] 36 (0, 0)) (by (with_reducible repeat (first | refine blk_drewN ?_ _ | refine blk_drew ?_ | refine blk_alloc ?_ _)); exact BK334.out) k_ hk_.2.1), (Kd.freshB (g := gb361) (o := .cells #[.slice Ao39 t354.length co39, .int .i64 t357] 36 (0, 0)) (by (with_reducible repeat (first | refine blk_drewN ?_ _ | refine blk_drew ?_ | refine blk_alloc ?_ _)); exact BK361.out) k_ hk_.2.1)⟩)) (below_size (by repeat (first | (with_reducible first | exact HB.out | apply below_alloc | apply pw_below_drewN | apply below_drew1 | refine below_set ?_ GE334.out | refine below_set ?_ GE361.out) | exact HB.out))))
         have n8_ := Aside0.mk (blk_below (g := gb334) (o := .cells #[.slice A1_0 l1_0.length c1_0, .int .i64 a1_1] 36 (0, 0)) (by (with_reducible repeat (first | refine blk_drewN ?_ _ | refine blk_drew ?_ | refine blk_alloc ?_ _)); exact BK334.out) hb)
         have n9_ := Aside0.mk (blk_below (g := gb361) (o := .cells #[.slice Ao39 t354.length co39, .int .i64 t357] 36 (0, 0)) (by (with_reducible repeat (first | refine blk_drewN ?_ _ | refine blk_drew ?_ | refine blk_alloc ?_ _)); exact BK361.out) hb)
         have n10_ := Aside0.mk (below_step (by repeat (first | (with_reducible first | exact HB.out | apply below_alloc | apply pw_below_drewN | apply below_drew1 | refine below_set ?_ GE334.out | refine below_set ?_ GE361.out) | exact HB.out)) hb)
         clear HO_35
         clear HL347_0
         clear HO353
         clear HO356
         clear HO360
         clear HO366
         clear BK334
         clear BK361
         clear HB
         have HO_35 := n0_
         have HL347_0 := n1_
         have HO353 := n2_
         have HO356 := n3_
         have HO360 := n4_
         have HO366 := n5_
         have HO369 := n6_
         have HO373 := n7_
         have BK334 := n8_
         have BK361 := n9_
         have HB := n10_
         clear n0_ n1_ n2_ n3_ n4_ n5_ n6_ n7_ n8_ n9_ n10_
         (try clear hb)
         (try clear hb2)
         (try clear hge)
         (try clear hk)
         (try clear hi)
         (try clear ho0)
         (try clear ho1)
         refine hK.out _ _ ⟨(blk_cell BK334.out 0).trans rfl, (blk_cell BK334.out 1).trans rfl⟩ (fun hHeld => ?_)
         clear hK K
         refine norm_ (a' := ?_) ?_ ?_
         rotate_left
         ·
          show Act.put _ (some 59) _ = _
          simp only [Act.put, List.setIfInBounds_toArray, List.set_cons_zero, List.set_cons_succ, i64_w, i32_w]
          rfl
         refine pure_ (i := 5) (N := some 54) (v := ?_) (a' := ?_) #[true, true, true, true, true, true, false, false, false, false, false] rfl rfl (any_of HT_.out (by kernel_rfl)) (fun _ _ _ h => h) (Or.inl ⟨by rfl, ?_⟩) ?_ ?_
         rotate_left
         ·
          intro w'
          go_simp
          with_reducible rfl
         rotate_left
         ·
          simp only [Act.put, List.setIfInBounds_toArray, List.set_cons_zero, List.set_cons_succ, i64_w, i32_w]
          rfl
         refine pure_ (i := 6) (N := some 60) (v := ?_) (a' := ?_) #[true, true, true, true, true, true, true, false, false, false, false] rfl rfl (any_of HT_.out (by kernel_rfl)) (fun _ _ _ h => h) (Or.inl ⟨by rfl, ?_⟩) ?_ ?_
         rotate_left
         ·
          intro w'
          go_simp
          with_reducible rfl
         rotate_left
         ·
          simp only [Act.put, List.setIfInBounds_toArray, List.set_cons_zero, List.set_cons_succ, i64_w, i32_w]
          rfl
         refine pure_ (i := 7) (N := some 61) (v := ?_) (a' := ?_) #[true, true, true, true, true, true, true, true, false, false, false] rfl rfl (any_of HT_.out (by kernel_rfl)) (fun _ _ _ h => h) (Or.inl ⟨by rfl, ?_⟩) ?_ ?_
         rotate_left
         ·
          intro w'
          go_simp
          with_reducible rfl
         rotate_left
         ·
          simp only [Act.put, List.setIfInBounds_toArray, List.set_cons_zero, List.set_cons_succ, i64_w, i32_w]
          rfl
         refine one_ (i := 8) (N := some 14) #[true, true, true, true, true, true, true, true, true, false, false] rfl rfl (one_of HT_.out (by kernel_rfl)) (by decide) (fun K hK => ?_)
         refine box_step ?hg (N := 14) ?hd (cs := #[.slice none 0 0, .int .i64 0]) (t := 36) ?hr ?_; (case hd => rfl); (case hg => rfl); (case hr => first | (go_simp; done) | (go_simp; rfl))
         intro gb374 hg w46 hbox hb
         have n0_ := Aside0.mk (Kd.N_below (Kd.N_elderB (by (with_reducible repeat (first | apply Kd.N_alloc | apply Kd.N_drewN | apply Kd.N_drew)); exact HO_35.out) gb374 (Nat.le_of_eq hg.symm)) hb)
         have n1_ := Aside0.mk (Kd.V_below (Kd.V_elderB (by (with_reducible repeat (first | apply Kd.V_alloc | apply Kd.V_drewN | apply Kd.V_drew)); exact HL347_0.out) gb374 (Nat.le_of_eq hg.symm)) hb)
         have n2_ := Aside0.mk (Kd.V_below (Kd.V_elderB (by (with_reducible repeat (first | apply Kd.V_alloc | apply Kd.V_drewN | apply Kd.V_drew)); exact HO353.out) gb374 (Nat.le_of_eq hg.symm)) hb)
         have n3_ := Aside0.mk (Kd.R_below (by (with_reducible repeat (first | apply Kd.R_alloc | apply Kd.R_drewN | apply Kd.R_drew)); exact HO356.out) hb)
         have n4_ := Aside0.mk (Kd.N_below (Kd.N_elderB (by (with_reducible repeat (first | apply Kd.N_alloc | apply Kd.N_drewN | apply Kd.N_drew)); exact HO360.out) gb374 (Nat.le_of_eq hg.symm)) hb)
         have n5_ := Aside0.mk (Kd.V_below (Kd.V_elderB (by (with_reducible repeat (first | apply Kd.V_alloc | apply Kd.V_drewN | apply Kd.V_drew)); exact HO366.out) gb374 (Nat.le_of_eq hg.symm)) hb)
         have n6_ := Aside0.mk (Kd.R_below (by (with_reducible repeat (first | apply Kd.R_alloc | apply Kd.R_drewN | apply Kd.R_drew)); exact HO369.out) hb)
         have n7_ := Aside0.mk (Kd.N_below (Kd.N_elderB (by (with_reducible repeat (first | apply Kd.N_alloc | apply Kd.N_drewN | apply Kd.N_drew)); exact HO373.out) gb374 (Nat.le_of_eq hg.symm)) hb)
         have n8_ := Aside0.mk (blk_below (g := gb334) (o := .cells #[.slice A1_0 l1_0.length c1_0, .int .i64 a1_1] 36 (0, 0)) (by (with_reducible repeat (first | refine blk_drewN ?_ _ | refine blk_drew ?_ | refine blk_alloc ?_ _)); exact BK334.out) hb)
         have n9_ := Aside0.mk (blk_below (g := gb361) (o := .cells #[.slice Ao39 t354.length co39, .int .i64 t357] 36 (0, 0)) (by (with_reducible repeat (first | refine blk_drewN ?_ _ | refine blk_drew ?_ | refine blk_alloc ?_ _)); exact BK361.out) hb)
         have n10_ := Aside0.mk (below_step (by repeat (first | (with_reducible first | exact HB.out | apply below_alloc | apply pw_below_drewN | apply below_drew1 | refine below_set ?_ GE334.out | refine below_set ?_ GE361.out) | exact HB.out)) hb)
         have n11_ := Aside0.mk (hbox)
         have n12_ := Aside0.mk ((by rw [hg]; exact (below_size (by repeat (first | (with_reducible first | exact HB.out | apply below_alloc | apply pw_below_drewN | apply below_drew1 | refine below_set ?_ GE334.out | refine below_set ?_ GE361.out) | exact HB.out))) : w.heap.size ≤ gb374))
         have n13_ := Aside0.mk ((by rw [hg]; exact (below_size (by repeat (first | (with_reducible first | exact HB.out | apply below_alloc | apply pw_below_drewN | apply below_drew1 | refine below_set ?_ GE334.out | refine below_set ?_ GE361.out) | exact HB.out))) : w.heap.size ≤ gb374))
         have n14_ := Aside0.mk ((by rw [hg]; exact Nat.ne_of_lt (blk_lt (g := gb334) (o := .cells #[.slice A1_0 l1_0.length c1_0, .int .i64 a1_1] 36 (0, 0)) (by (with_reducible repeat (first | refine blk_drewN ?_ _ | refine blk_drew ?_ | refine blk_alloc ?_ _)); exact BK334.out)) : gb334 ≠ gb374))
         have n15_ := Aside0.mk ((by rw [hg]; exact Nat.ne_of_gt (blk_lt (g := gb334) (o := .cells #[.slice A1_0 l1_0.length c1_0, .int .i64 a1_1] 36 (0, 0)) (by (with_reducible repeat (first | refine blk_drewN ?_ _ | refine blk_drew ?_ | refine blk_alloc ?_ _)); exact BK334.out)) : gb374 ≠ gb334))
         have n16_ := Aside0.mk ((by rw [hg]; exact Nat.ne_of_lt (blk_lt (g := gb361) (o := .cells #[.slice Ao39 t354.length co39, .int .i64 t357] 36 (0, 0)) (by (with_reducible repeat (first | refine blk_drewN ?_ _ | refine blk_drew ?_ | refine blk_alloc ?_ _)); exact BK361.out)) : gb361 ≠ gb374))
         have n17_ := Aside0.mk ((by rw [hg]; exact Nat.ne_of_gt (blk_lt (g := gb361) (o := .cells #[.slice Ao39 t354.length co39, .int .i64 t357] 36 (0, 0)) (by (with_reducible repeat (first | refine blk_drewN ?_ _ | refine blk_drew ?_ | refine blk_alloc ?_ _)); exact BK361.out)) : gb374 ≠ gb361))
         clear HO_35
         clear HL347_0
         clear HO353
         clear HO356
         clear HO360
         clear HO366
         clear HO369
         clear HO373
         clear BK334
         clear BK361
         clear HB
         have HO_35 := n0_
         have HL347_0 := n1_
         have HO353 := n2_
         have HO356 := n3_
         have HO360 := n4_
         have HO366 := n5_
         have HO369 := n6_
         have HO373 := n7_
         have BK334 := n8_
         have BK361 := n9_
         have HB := n10_
         have BK374 := n11_
         have GW374 := n12_
         have GE374 := n13_
         have NB334_374 := n14_
         have NB374_334 := n15_
         have NB361_374 := n16_
         have NB374_361 := n17_
         clear n0_ n1_ n2_ n3_ n4_ n5_ n6_ n7_ n8_ n9_ n10_ n11_ n12_ n13_ n14_ n15_ n16_ n17_
         clear hb hbox hg
         refine hK.out _ _ ⟨(blk_cell BK334.out 0).trans rfl, (blk_cell BK334.out 1).trans rfl⟩ (fun hHeld => ?_)
         clear hK K
         refine norm_ (a' := ?_) ?_ ?_
         rotate_left
         ·
          show Act.put _ (some 14) _ = _
          simp only [Act.put, List.setIfInBounds_toArray, List.set_cons_zero, List.set_cons_succ, i64_w, i32_w]
          rfl
         exact norm_ (by simp only [putAll, Act.put, List.setIfInBounds_toArray, List.set_cons_zero, List.set_cons_succ]) (hCont (v368, v372, gb374) _ ⟨hHeld, (by (with_reducible repeat (first | apply Kd.V_alloc | apply Kd.V_drewN | apply Kd.V_drew)); exact Kd.V_mono HL347_0.out (fun _ hk => ⟨hk.1.1.1.1, ⟨hk.1.1.1.2.2.1, ⟨hk.1.1.1.2.2.2.1, ⟨hk.1.1.2, ⟨hk.1.2, ⟨hk.1.1.1.2.1, ⟨hk.1.1.1.2.2.2.2.1, ⟨hk.1.1.1.2.2.2.2.2, hk.2⟩⟩⟩⟩⟩⟩⟩⟩)), (by (with_reducible repeat (first | apply Kd.V_alloc | apply Kd.V_drewN | apply Kd.V_drew)); exact Kd.V_mono HO353.out (fun _ hk => ⟨hk.1.1.1.1, ⟨hk.1.1.1.2.2.1, ⟨hk.1.1.1.2.2.2.1, ⟨hk.1.1.2, ⟨hk.1.2, ⟨hk.1.1.1.2.1, ⟨hk.1.1.1.2.2.2.2.1, ⟨hk.1.1.1.2.2.2.2.2, hk.2⟩⟩⟩⟩⟩⟩⟩⟩)), (by (with_reducible repeat (first | apply Kd.R_alloc | apply Kd.R_drewN | apply Kd.R_drew)); exact HO356.out), (by (with_reducible repeat (first | apply Kd.N_alloc | apply Kd.N_drewN | apply Kd.N_drew)); exact Kd.N_mono HO360.out (fun _ hk => ⟨hk.1.1.1.1, ⟨hk.1.1.1.2.2.1, ⟨hk.1.1.2, ⟨hk.1.2, ⟨hk.1.1.1.2.1, ⟨hk.1.1.1.2.2.2.1, ⟨hk.1.1.1.2.2.2.2, hk.2⟩⟩⟩⟩⟩⟩⟩)), (by (with_reducible repeat (first | apply Kd.V_alloc | apply Kd.V_drewN | apply Kd.V_drew)); exact Kd.V_mono HO366.out (fun _ hk => ⟨hk.1.1.1.1, ⟨hk.1.1.1.2.2.1, ⟨hk.1.1.1.2.2.2.1, ⟨hk.1.1.2, ⟨hk.1.2, ⟨hk.1.1.1.2.1, ⟨hk.1.1.1.2.2.2.2.1, ⟨hk.1.1.1.2.2.2.2.2, hk.2⟩⟩⟩⟩⟩⟩⟩⟩)), (by (with_reducible repeat (first | apply Kd.R_alloc | apply Kd.R_drewN | apply Kd.R_drew)); exact Kd.R_mono HO369.out (fun _ hk => ⟨hk.1.1, hk.2⟩)), (by (with_reducible repeat (first | apply Kd.N_alloc | apply Kd.N_drewN | apply Kd.N_drew)); exact Kd.N_mono HO373.out (fun _ hk => ⟨hk.1.1, ⟨hk.1.2.2.2.1, ⟨hk.1.2.2.2.2.1, ⟨hk.1.2.1, ⟨hk.1.2.2.1, ⟨hk.1.2.2.2.2.2.1, ⟨hk.1.2.2.2.2.2.2, hk.2⟩⟩⟩⟩⟩⟩⟩)), (by (with_reducible repeat (first | apply Kd.N_alloc | apply Kd.N_drewN | apply Kd.N_drew)); exact Kd.N_mono HO_35.out (fun _ hk => ⟨hk.1.1.1.1, ⟨hk.1.1.1.2.1, ⟨hk.1.1.1.2.2.1, ⟨hk.1.1.2, ⟨hk.1.2, ⟨hk.1.1.1.2.2.2.1, ⟨hk.1.1.1.2.2.2.2, hk.2⟩⟩⟩⟩⟩⟩⟩)), (by (with_reducible repeat (first | refine blk_drewN ?_ _ | refine blk_drew ?_ | refine blk_alloc ?_ _)); exact BK334.out), (by (with_reducible repeat (first | refine blk_drewN ?_ _ | refine blk_drew ?_ | refine blk_alloc ?_ _)); exact BK361.out), (by (with_reducible repeat (first | refine blk_drewN ?_ _ | refine blk_drew ?_ | refine blk_alloc ?_ _)); exact BK374.out), GW374.out, GE374.out, NB334_374.out, NB374_334.out, NB361_374.out, NB374_361.out, (by repeat (first | (with_reducible first | exact HB.out | apply below_alloc | apply pw_below_drewN | apply below_drew1 | refine below_set ?_ GE334.out | refine below_set ?_ GE361.out | refine below_set ?_ GE374.out) | exact HB.out))⟩)
        ·
         skip
         refine box_step ?hg (N := 14) ?hd (cs := #[.slice none 0 0, .int .i64 0]) (t := 36) ?hr ?_; (case hd => rfl); (case hg => rfl); (case hr => first | (go_simp; done) | (go_simp; rfl))
         intro gb374 hg w45 hbox hb
         have n0_ := Aside0.mk (Kd.N_below (Kd.N_elderB (by (with_reducible repeat (first | apply Kd.N_alloc | apply Kd.N_drewN | apply Kd.N_drew)); exact HO_35.out) gb374 (Nat.le_of_eq hg.symm)) hb)
         have n1_ := Aside0.mk (Kd.V_below (Kd.V_elderB (by (with_reducible repeat (first | apply Kd.V_alloc | apply Kd.V_drewN | apply Kd.V_drew)); exact HL347_0.out) gb374 (Nat.le_of_eq hg.symm)) hb)
         have n2_ := Aside0.mk (Kd.V_below (Kd.V_elderB (by (with_reducible repeat (first | apply Kd.V_alloc | apply Kd.V_drewN | apply Kd.V_drew)); exact HO353.out) gb374 (Nat.le_of_eq hg.symm)) hb)
         have n3_ := Aside0.mk (Kd.R_below (by (with_reducible repeat (first | apply Kd.R_alloc | apply Kd.R_drewN | apply Kd.R_drew)); exact HO356.out) hb)
         have n4_ := Aside0.mk (Kd.N_below (Kd.N_elderB (by (with_reducible repeat (first | apply Kd.N_alloc | apply Kd.N_drewN | apply Kd.N_drew)); exact HO360.out) gb374 (Nat.le_of_eq hg.symm)) hb)
         have n5_ := Aside0.mk (Kd.V_below (Kd.V_elderB (by (with_reducible repeat (first | apply Kd.V_alloc | apply Kd.V_drewN | apply Kd.V_drew)); exact HO366.out) gb374 (Nat.le_of_eq hg.symm)) hb)
         have n6_ := Aside0.mk (blk_below (g := gb334) (o := .cells #[.slice A1_0 l1_0.length c1_0, .int .i64 a1_1] 36 (0, 0)) (by (with_reducible repeat (first | refine blk_drewN ?_ _ | refine blk_drew ?_ | refine blk_alloc ?_ _)); exact BK334.out) hb)
         have n7_ := Aside0.mk (blk_below (g := gb361) (o := .cells #[.slice Ao39 t354.length co39, .int .i64 t357] 36 (0, 0)) (by (with_reducible repeat (first | refine blk_drewN ?_ _ | refine blk_drew ?_ | refine blk_alloc ?_ _)); exact BK361.out) hb)
         have n8_ := Aside0.mk (below_step (by repeat (first | (with_reducible first | exact HB.out | apply below_alloc | apply pw_below_drewN | apply below_drew1 | refine below_set ?_ GE334.out | refine below_set ?_ GE361.out) | exact HB.out)) hb)
         have n9_ := Aside0.mk (hbox)
         have n10_ := Aside0.mk ((by rw [hg]; exact (below_size (by repeat (first | (with_reducible first | exact HB.out | apply below_alloc | apply pw_below_drewN | apply below_drew1 | refine below_set ?_ GE334.out | refine below_set ?_ GE361.out) | exact HB.out))) : w.heap.size ≤ gb374))
         have n11_ := Aside0.mk ((by rw [hg]; exact (below_size (by repeat (first | (with_reducible first | exact HB.out | apply below_alloc | apply pw_below_drewN | apply below_drew1 | refine below_set ?_ GE334.out | refine below_set ?_ GE361.out) | exact HB.out))) : w.heap.size ≤ gb374))
         have n12_ := Aside0.mk ((by rw [hg]; exact Nat.ne_of_lt (blk_lt (g := gb334) (o := .cells #[.slice A1_0 l1_0.length c1_0, .int .i64 a1_1] 36 (0, 0)) (by (with_reducible repeat (first | refine blk_drewN ?_ _ | refine blk_drew ?_ | refine blk_alloc ?_ _)); exact BK334.out)) : gb334 ≠ gb374))
         have n13_ := Aside0.mk ((by rw [hg]; exact Nat.ne_of_gt (blk_lt (g := gb334) (o := .cells #[.slice A1_0 l1_0.length c1_0, .int .i64 a1_1] 36 (0, 0)) (by (with_reducible repeat (first | refine blk_drewN ?_ _ | refine blk_drew ?_ | refine blk_alloc ?_ _)); exact BK334.out)) : gb374 ≠ gb334))
         have n14_ := Aside0.mk ((by rw [hg]; exact Nat.ne_of_lt (blk_lt (g := gb361) (o := .cells #[.slice Ao39 t354.length co39, .int .i64 t357] 36 (0, 0)) (by (with_reducible repeat (first | refine blk_drewN ?_ _ | refine blk_drew ?_ | refine blk_alloc ?_ _)); exact BK361.out)) : gb361 ≠ gb374))
         have n15_ := Aside0.mk ((by rw [hg]; exact Nat.ne_of_gt (blk_lt (g := gb361) (o := .cells #[.slice Ao39 t354.length co39, .int .i64 t357] 36 (0, 0)) (by (with_reducible repeat (first | refine blk_drewN ?_ _ | refine blk_drew ?_ | refine blk_alloc ?_ _)); exact BK361.out)) : gb374 ≠ gb361))
         clear HO_35
         clear HL347_0
         clear HO353
         clear HO356
         clear HO360
         clear HO366
         clear BK334
         clear BK361
         clear HB
         have HO_35 := n0_
         have HL347_0 := n1_
         have HO353 := n2_
         have HO356 := n3_
         have HO360 := n4_
         have HO366 := n5_
         have BK334 := n6_
         have BK361 := n7_
         have HB := n8_
         have BK374 := n9_
         have GW374 := n10_
         have GE374 := n11_
         have NB334_374 := n12_
         have NB374_334 := n13_
         have NB361_374 := n14_
         have NB374_361 := n15_
         clear n0_ n1_ n2_ n3_ n4_ n5_ n6_ n7_ n8_ n9_ n10_ n11_ n12_ n13_ n14_ n15_
         clear hb hbox hg
         refine hK.out _ _ ⟨(blk_cell BK334.out 0).trans rfl, (blk_cell BK334.out 1).trans rfl⟩ (fun hHeld => ?_)
         clear hK K
         refine norm_ (a' := ?_) ?_ ?_
         rotate_left
         ·
          show Act.put _ (some 14) _ = _
          simp only [Act.put, List.setIfInBounds_toArray, List.set_cons_zero, List.set_cons_succ, i64_w, i32_w]
          rfl
         refine one_ (i := 4) (N := some 59) #[true, true, true, true, true, false, false, false, true, false, false] rfl rfl (one_of HT_.out (by kernel_rfl)) (by decide) (fun K hK => ?_)
         refine goes_ Try.func19 (by kernel_rfl) rfl #[.agg #[.slice A1_0 l1_0.length c1_0, .int .i64 a1_1], .slice A347_0 y362.length c347_0] (by rfl) rfl rfl (by (try simp only [List.map_toArray, List.map_cons, List.map_nil]); first | done | rfl | (simp only [List.length_drop, List.length_take]; rfl)) ?_
         with_reducible refine (minecontrolref04_Feed.calls k2 _ _ l1_0 a1_1 _ _ y362 t367 t370 t371 _ ?side1 ?side2 ?side3 ?side4 A32.out).mono ?_
         (case side1 => repeat (first | exact (Kd.C_below HR1_0.out HB.out) | (with_reducible refine Kd.C_alloc ?_ _) | (with_reducible refine Kd.C_drewN ?_ _) | (with_reducible refine Kd.C_drew ?_)))
         (case side2 => exact HC1_0.out)
         (case side3 => repeat (first | exact (Kd.V_reads' HO366.out).2.2 | (with_reducible refine Kd.C_alloc ?_ _) | (with_reducible refine Kd.C_drewN ?_ _) | (with_reducible refine Kd.C_drew ?_)))
         (case side4 => exact (Kd.V_reads' HO366.out).2.1)
         rintro e w46 ⟨v368, v372, rfl, ho0, ho1, hb⟩
         refine ⟨_, rfl, ?_⟩
         have n0_ := Aside0.mk (Kd.N_mono (Kd.N_told (Kd.N_told (Kd.N_old (by (with_reducible repeat (first | apply Kd.N_alloc | apply Kd.N_drewN | apply Kd.N_drew)); exact HO_35.out) hb) (Kd.R_base ho0)) (Kd.S_base ho1)) (fun _ h_ => h_.1))
         have n1_ := Aside0.mk (Kd.V_mono (Kd.V_told (Kd.V_told (Kd.V_old (by (with_reducible repeat (first | apply Kd.V_alloc | apply Kd.V_drewN | apply Kd.V_drew)); exact HL347_0.out) hb) (Kd.R_base ho0)) (Kd.S_base ho1)) (fun _ h_ => h_.1))
         have n2_ := Aside0.mk (Kd.V_mono (Kd.V_told (Kd.V_told (Kd.V_old (by (with_reducible repeat (first | apply Kd.V_alloc | apply Kd.V_drewN | apply Kd.V_drew)); exact HO353.out) hb) (Kd.R_base ho0)) (Kd.S_base ho1)) (fun _ h_ => h_.1))
         have n3_ := Aside0.mk (Kd.R_elder' (by (with_reducible repeat (first | apply Kd.R_alloc | apply Kd.R_drewN | apply Kd.R_drew)); exact HO356.out) (Kd.R_base ho0) hb)
         have n4_ := Aside0.mk (Kd.N_mono (Kd.N_told (Kd.N_told (Kd.N_old (by (with_reducible repeat (first | apply Kd.N_alloc | apply Kd.N_drewN | apply Kd.N_drew)); exact HO360.out) hb) (Kd.R_base ho0)) (Kd.S_base ho1)) (fun _ h_ => h_.1))
         have n5_ := Aside0.mk (Kd.V_mono (Kd.V_told (Kd.V_told (Kd.V_old (by (with_reducible repeat (first | apply Kd.V_alloc | apply Kd.V_drewN | apply Kd.V_drew)); exact HO366.out) hb) (Kd.R_base ho0)) (Kd.S_base ho1)) (fun _ h_ => h_.1))
         have n6_ := Aside0.mk (Kd.R_lower (Kd.R_new' (Kd.R_newM (M := fun k_ => (w.heap.size ≤ k_)) ho0 (below_size (by repeat (first | (with_reducible first | exact HB.out | apply below_alloc | apply pw_below_drewN | apply below_drew1 | refine below_set ?_ GE334.out | refine below_set ?_ GE361.out | refine below_set ?_ GE374.out) | exact HB.out))) (fun k_ h_ => h_)) (Kd.R_lt (by (with_reducible repeat (first | apply Kd.R_alloc | apply Kd.R_drewN | apply Kd.R_drew)); exact HO356.out))) (below_size (by repeat (first | (with_reducible first | exact HB.out | apply below_alloc | apply pw_below_drewN | apply below_drew1 | refine below_set ?_ GE334.out | refine below_set ?_ GE361.out | refine below_set ?_ GE374.out) | exact HB.out))))
         have n7_ := Aside0.mk (Kd.N_lower (Kd.N_mono (ok' := fun k_ => (P2_ k_ ∨ w.heap.size ≤ k_) ∧ some k_ ≠ (v368 : Value).ownBlock ∧ some k_ ≠ (.slice (some ad347) y343.length co22 : Value).ownBlock ∧ some k_ ≠ (.slice Ao39 t354.length co39 : Value).ownBlock ∧ some k_ ≠ (v359 : Value).ownBlock ∧ k_ ≠ gb334 ∧ k_ ≠ gb361 ∧ k_ ≠ gb374) (Kd.S_N (Kd.S_bound ho1)) (fun k_ hk_ => ⟨(.inr (Nat.le_trans (below_size (by repeat (first | (with_reducible first | exact HB.out | apply below_alloc | apply pw_below_drewN | apply below_drew1 | refine below_set ?_ GE334.out | refine below_set ?_ GE361.out | refine below_set ?_ GE374.out) | exact HB.out))) hk_.2.1)), hk_.1, (Kd.fresh' (Kd.N_lt (by (with_reducible repeat (first | apply Kd.N_alloc | apply Kd.N_drewN | apply Kd.N_drew)); exact HO_35.out)) k_ hk_.2.1), (Kd.fresh' (Kd.R_lt (by (with_reducible repeat (first | apply Kd.R_alloc | apply Kd.R_drewN | apply Kd.R_drew)); exact HO356.out)) k_ hk_.2.1), (Kd.fresh' (Kd.N_lt (by (with_reducible repeat (first | apply Kd.N_alloc | apply Kd.N_drewN | apply Kd.N_drew)); exact HO360.out)) k_ hk_.2.1), (Kd.freshB (g := gb334) (o := .cells #[.slice A1_0 l1_0.length c1_0, .int .i64 a1_1] 36 (0, 0)) (by (with_reducible repeat (first | refine blk_drewN ?_ _ | refine blk_drew ?_ | refine blk_alloc ?_ _)); exact BK334.out) k_ hk_.2.1), (Kd.freshB (g := gb361) (o := .cells #[.slice Ao39 t354.length co39, .int .i64 t357] 36 (0, 0)) (by (with_reducible repeat (first | refine blk_drewN ?_ _ | refine blk_drew ?_ | refine blk_alloc ?_ _)); exact BK361.out) k_ hk_.2.1), (Kd.freshB (g := gb374) (o := .cells #[.slice none 0 0, .int .i64 0] 36 (0, 0)) (by (with_reducible repeat (first | refine blk_drewN ?_ _ | refine blk_drew ?_ | refine blk_alloc ?_ _)); exact BK374.out) k_ hk_.2.1)⟩)) (below_size (by repeat (first | (with_reducible first | exact HB.out | apply below_alloc | apply pw_below_drewN | apply below_drew1 | refine below_set ?_ GE334.out | refine below_set ?_ GE361.out | refine below_set ?_ GE374.out) | exact HB.out))))
         have n8_ := Aside0.mk (blk_below (g := gb334) (o := .cells #[.slice A1_0 l1_0.length c1_0, .int .i64 a1_1] 36 (0, 0)) (by (with_reducible repeat (first | refine blk_drewN ?_ _ | refine blk_drew ?_ | refine blk_alloc ?_ _)); exact BK334.out) hb)
         have n9_ := Aside0.mk (blk_below (g := gb361) (o := .cells #[.slice Ao39 t354.length co39, .int .i64 t357] 36 (0, 0)) (by (with_reducible repeat (first | refine blk_drewN ?_ _ | refine blk_drew ?_ | refine blk_alloc ?_ _)); exact BK361.out) hb)
         have n10_ := Aside0.mk (blk_below (g := gb374) (o := .cells #[.slice none 0 0, .int .i64 0] 36 (0, 0)) (by (with_reducible repeat (first | refine blk_drewN ?_ _ | refine blk_drew ?_ | refine blk_alloc ?_ _)); exact BK374.out) hb)
         have n11_ := Aside0.mk (below_step (by repeat (first | (with_reducible first | exact HB.out | apply below_alloc | apply pw_below_drewN | apply below_drew1 | refine below_set ?_ GE334.out | refine below_set ?_ GE361.out | refine below_set ?_ GE374.out) | exact HB.out)) hb)
         clear HO_35
         clear HL347_0
         clear HO353
         clear HO356
         clear HO360
         clear HO366
         clear BK334
         clear BK361
         clear BK374
         clear HB
         have HO_35 := n0_
         have HL347_0 := n1_
         have HO353 := n2_
         have HO356 := n3_
         have HO360 := n4_
         have HO366 := n5_
         have HO369 := n6_
         have HO373 := n7_
         have BK334 := n8_
         have BK361 := n9_
         have BK374 := n10_
         have HB := n11_
         clear n0_ n1_ n2_ n3_ n4_ n5_ n6_ n7_ n8_ n9_ n10_ n11_
         (try clear hb)
         (try clear hb2)
         (try clear hge)
         (try clear hk)
         (try clear hi)
         (try clear ho0)
         (try clear ho1)
         refine hK.out _ _ ⟨(blk_cell BK334.out 0).trans rfl, (blk_cell BK334.out 1).trans rfl⟩ (fun hHeld => ?_)
         clear hK K
         refine norm_ (a' := ?_) ?_ ?_
         rotate_left
         ·
          show Act.put _ (some 59) _ = _
          simp only [Act.put, List.setIfInBounds_toArray, List.set_cons_zero, List.set_cons_succ, i64_w, i32_w]
          rfl
         refine pure_ (i := 5) (N := some 54) (v := ?_) (a' := ?_) #[true, true, true, true, true, true, false, false, true, false, false] rfl rfl (any_of HT_.out (by kernel_rfl)) (fun _ _ _ h => h) (Or.inl ⟨by rfl, ?_⟩) ?_ ?_
         rotate_left
         ·
          intro w'
          go_simp
          with_reducible rfl
         rotate_left
         ·
          simp only [Act.put, List.setIfInBounds_toArray, List.set_cons_zero, List.set_cons_succ, i64_w, i32_w]
          rfl
         refine pure_ (i := 6) (N := some 60) (v := ?_) (a' := ?_) #[true, true, true, true, true, true, true, false, true, false, false] rfl rfl (any_of HT_.out (by kernel_rfl)) (fun _ _ _ h => h) (Or.inl ⟨by rfl, ?_⟩) ?_ ?_
         rotate_left
         ·
          intro w'
          go_simp
          with_reducible rfl
         rotate_left
         ·
          simp only [Act.put, List.setIfInBounds_toArray, List.set_cons_zero, List.set_cons_succ, i64_w, i32_w]
          rfl
         refine pure_ (i := 7) (N := some 61) (v := ?_) (a' := ?_) #[true, true, true, true, true, true, true, true, true, false, false] rfl rfl (any_of HT_.out (by kernel_rfl)) (fun _ _ _ h => h) (Or.inl ⟨by rfl, ?_⟩) ?_ ?_
         rotate_left
         ·
          intro w'
          go_simp
          with_reducible rfl
         rotate_left
         ·
          simp only [Act.put, List.setIfInBounds_toArray, List.set_cons_zero, List.set_cons_succ, i64_w, i32_w]
          rfl
         exact norm_ (by simp only [putAll, Act.put, List.setIfInBounds_toArray, List.set_cons_zero, List.set_cons_succ]) (hCont (v368, v372, gb374) _ ⟨hHeld, (by (with_reducible repeat (first | apply Kd.V_alloc | apply Kd.V_drewN | apply Kd.V_drew)); exact Kd.V_mono HL347_0.out (fun _ hk => ⟨hk.1.1.1.1, ⟨hk.1.1.1.2.2.1, ⟨hk.1.1.1.2.2.2.1, ⟨hk.1.2, ⟨hk.2, ⟨hk.1.1.1.2.1, ⟨hk.1.1.1.2.2.2.2.1, ⟨hk.1.1.1.2.2.2.2.2, hk.1.1.2⟩⟩⟩⟩⟩⟩⟩⟩)), (by (with_reducible repeat (first | apply Kd.V_alloc | apply Kd.V_drewN | apply Kd.V_drew)); exact Kd.V_mono HO353.out (fun _ hk => ⟨hk.1.1.1.1, ⟨hk.1.1.1.2.2.1, ⟨hk.1.1.1.2.2.2.1, ⟨hk.1.2, ⟨hk.2, ⟨hk.1.1.1.2.1, ⟨hk.1.1.1.2.2.2.2.1, ⟨hk.1.1.1.2.2.2.2.2, hk.1.1.2⟩⟩⟩⟩⟩⟩⟩⟩)), (by (with_reducible repeat (first | apply Kd.R_alloc | apply Kd.R_drewN | apply Kd.R_drew)); exact HO356.out), (by (with_reducible repeat (first | apply Kd.N_alloc | apply Kd.N_drewN | apply Kd.N_drew)); exact Kd.N_mono HO360.out (fun _ hk => ⟨hk.1.1.1.1, ⟨hk.1.1.1.2.2.1, ⟨hk.1.2, ⟨hk.2, ⟨hk.1.1.1.2.1, ⟨hk.1.1.1.2.2.2.1, ⟨hk.1.1.1.2.2.2.2, hk.1.1.2⟩⟩⟩⟩⟩⟩⟩)), (by (with_reducible repeat (first | apply Kd.V_alloc | apply Kd.V_drewN | apply Kd.V_drew)); exact Kd.V_mono HO366.out (fun _ hk => ⟨hk.1.1.1.1, ⟨hk.1.1.1.2.2.1, ⟨hk.1.1.1.2.2.2.1, ⟨hk.1.2, ⟨hk.2, ⟨hk.1.1.1.2.1, ⟨hk.1.1.1.2.2.2.2.1, ⟨hk.1.1.1.2.2.2.2.2, hk.1.1.2⟩⟩⟩⟩⟩⟩⟩⟩)), (by (with_reducible repeat (first | apply Kd.R_alloc | apply Kd.R_drewN | apply Kd.R_drew)); exact Kd.R_mono HO369.out (fun _ hk => ⟨hk.1.1, hk.2⟩)), (by (with_reducible repeat (first | apply Kd.N_alloc | apply Kd.N_drewN | apply Kd.N_drew)); exact Kd.N_mono HO373.out (fun _ hk => ⟨hk.1, ⟨hk.2.2.2.1, ⟨hk.2.2.2.2.1, ⟨hk.2.1, ⟨hk.2.2.1, ⟨hk.2.2.2.2.2.1, ⟨hk.2.2.2.2.2.2.1, hk.2.2.2.2.2.2.2⟩⟩⟩⟩⟩⟩⟩)), (by (with_reducible repeat (first | apply Kd.N_alloc | apply Kd.N_drewN | apply Kd.N_drew)); exact Kd.N_mono HO_35.out (fun _ hk => ⟨hk.1.1.1.1, ⟨hk.1.1.1.2.1, ⟨hk.1.1.1.2.2.1, ⟨hk.1.2, ⟨hk.2, ⟨hk.1.1.1.2.2.2.1, ⟨hk.1.1.1.2.2.2.2, hk.1.1.2⟩⟩⟩⟩⟩⟩⟩)), (by (with_reducible repeat (first | refine blk_drewN ?_ _ | refine blk_drew ?_ | refine blk_alloc ?_ _)); exact BK334.out), (by (with_reducible repeat (first | refine blk_drewN ?_ _ | refine blk_drew ?_ | refine blk_alloc ?_ _)); exact BK361.out), (by (with_reducible repeat (first | refine blk_drewN ?_ _ | refine blk_drew ?_ | refine blk_alloc ?_ _)); exact BK374.out), GW374.out, GE374.out, NB334_374.out, NB374_334.out, NB361_374.out, NB374_361.out, (by repeat (first | (with_reducible first | exact HB.out | apply below_alloc | apply pw_below_drewN | apply below_drew1 | refine below_set ?_ GE334.out | refine below_set ?_ GE361.out | refine below_set ?_ GE374.out) | exact HB.out))⟩)
       rintro ⟨v368, v372, gb374⟩ w47 ⟨hS_, h0_, h1_, h2_, h3_, h4_, h5_, h6_, h7_, h8_, h9_, h10_, h11_, h12_, h13_, h14_, h15_, h16_, h17_⟩
       have n0_ : Aside0 (Kd.V (Kd.int .u8) 5 w47 w.heap.size (fun k_ => (P2_ k_ ∨ w.heap.size ≤ k_) ∧ some k_ ≠ (.slice Ao39 t354.length co39 : Value).ownBlock ∧ some k_ ≠ (v359 : Value).ownBlock ∧ some k_ ≠ (v368 : Value).ownBlock ∧ some k_ ≠ (v372 : Value).ownBlock ∧ some k_ ≠ (.slice (some ad347) y343.length co22 : Value).ownBlock ∧ k_ ≠ gb334 ∧ k_ ≠ gb361 ∧ k_ ≠ gb374) (.slice A347_0 (rd_L2 y343 x37_2).length c347_0) (rd_L2 y343 x37_2)) := ⟨h0_⟩
       have n1_ : Aside0 (Kd.V (Kd.int .u8) 5 w47 w.heap.size (fun k_ => (P2_ k_ ∨ w.heap.size ≤ k_) ∧ some k_ ≠ (.slice Ao39 t354.length co39 : Value).ownBlock ∧ some k_ ≠ (v359 : Value).ownBlock ∧ some k_ ≠ (v368 : Value).ownBlock ∧ some k_ ≠ (v372 : Value).ownBlock ∧ some k_ ≠ (.slice (some ad347) y343.length co22 : Value).ownBlock ∧ k_ ≠ gb334 ∧ k_ ≠ gb361 ∧ k_ ≠ gb374) (.slice A347_0 y349.length c347_0) y349) := ⟨h1_⟩
       have n2_ : Aside0 (Kd.R (Kd.int .u8) 5 w47 w.heap.size (fun k_ => (w.heap.size ≤ k_) ∧ some k_ ≠ (v368 : Value).ownBlock) (.slice Ao39 t354.length co39) t354) := ⟨h2_⟩
       have n3_ : Aside0 (Kd.N k24 24 w47 w.heap.size (fun k_ => (P2_ k_ ∨ w.heap.size ≤ k_) ∧ some k_ ≠ (.slice Ao39 t354.length co39 : Value).ownBlock ∧ some k_ ≠ (v368 : Value).ownBlock ∧ some k_ ≠ (v372 : Value).ownBlock ∧ some k_ ≠ (.slice (some ad347) y343.length co22 : Value).ownBlock ∧ k_ ≠ gb334 ∧ k_ ≠ gb361 ∧ k_ ≠ gb374) v359 t358) := ⟨h3_⟩
       have n4_ : Aside0 (Kd.V (Kd.int .u8) 5 w47 w.heap.size (fun k_ => (P2_ k_ ∨ w.heap.size ≤ k_) ∧ some k_ ≠ (.slice Ao39 t354.length co39 : Value).ownBlock ∧ some k_ ≠ (v359 : Value).ownBlock ∧ some k_ ≠ (v368 : Value).ownBlock ∧ some k_ ≠ (v372 : Value).ownBlock ∧ some k_ ≠ (.slice (some ad347) y343.length co22 : Value).ownBlock ∧ k_ ≠ gb334 ∧ k_ ≠ gb361 ∧ k_ ≠ gb374) (.slice A347_0 y362.length c347_0) y362) := ⟨h4_⟩
       have n5_ : Aside0 (Kd.R (Kd.int .u8) 5 w47 w.heap.size (fun k_ => (w.heap.size ≤ k_) ∧ some k_ ≠ (.slice Ao39 t354.length co39 : Value).ownBlock) v368 t367) := ⟨h5_⟩
       have n6_ : Aside0 (Kd.N k24 24 w47 w.heap.size (fun k_ => (P2_ k_ ∨ w.heap.size ≤ k_) ∧ some k_ ≠ (.slice Ao39 t354.length co39 : Value).ownBlock ∧ some k_ ≠ (v359 : Value).ownBlock ∧ some k_ ≠ (v368 : Value).ownBlock ∧ some k_ ≠ (.slice (some ad347) y343.length co22 : Value).ownBlock ∧ k_ ≠ gb334 ∧ k_ ≠ gb361 ∧ k_ ≠ gb374) v372 t371) := ⟨h6_⟩
       have n7_ : Aside0 (Kd.N (Kd.slice 5 (Kd.int .u8)) 22 w47 w.heap.size (fun k_ => (P2_ k_ ∨ w.heap.size ≤ k_) ∧ some k_ ≠ (.slice Ao39 t354.length co39 : Value).ownBlock ∧ some k_ ≠ (v359 : Value).ownBlock ∧ some k_ ≠ (v368 : Value).ownBlock ∧ some k_ ≠ (v372 : Value).ownBlock ∧ k_ ≠ gb334 ∧ k_ ≠ gb361 ∧ k_ ≠ gb374) (.slice (some ad347) y343.length co22) y343) := ⟨h7_⟩
       have n8_ : Aside0 (w47.heap[gb334]? = some (.cells #[.slice A1_0 l1_0.length c1_0, .int .i64 a1_1] 36 (0, 0))) := ⟨h8_⟩
       have n9_ : Aside0 (w47.heap[gb361]? = some (.cells #[.slice Ao39 t354.length co39, .int .i64 t357] 36 (0, 0))) := ⟨h9_⟩
       have n10_ : Aside0 (w47.heap[gb374]? = some (.cells #[.slice none 0 0, .int .i64 0] 36 (0, 0))) := ⟨h10_⟩
       have n11_ : Aside0 (w.heap.size ≤ gb374) := ⟨h11_⟩
       have n12_ : Aside0 (w.heap.size ≤ gb374) := ⟨h12_⟩
       have n13_ : Aside0 (gb334 ≠ gb374) := ⟨h13_⟩
       have n14_ : Aside0 (gb374 ≠ gb334) := ⟨h14_⟩
       have n15_ : Aside0 (gb361 ≠ gb374) := ⟨h15_⟩
       have n16_ : Aside0 (gb374 ≠ gb361) := ⟨h16_⟩
       have n17_ : Aside0 (Below w.heap.size w w47) := ⟨h17_⟩
       clear HO_35
       clear HL347_0
       clear HO353
       clear HO356
       clear HO360
       clear BK334
       clear BK361
       clear HB
       clear h0_ h1_ h2_ h3_ h4_ h5_ h6_ h7_ h8_ h9_ h10_ h11_ h12_ h13_ h14_ h15_ h16_ h17_
       have HL347_0 := n0_
       have HO353 := n1_
       have HO356 := n2_
       have HO360 := n3_
       have HO366 := n4_
       have HO369 := n5_
       have HO373 := n6_
       have HO_35 := n7_
       have BK334 := n8_
       have BK361 := n9_
       have BK374 := n10_
       have GW374 := n11_
       have GE374 := n12_
       have NB334_374 := n13_
       have NB374_334 := n14_
       have NB361_374 := n15_
       have NB374_361 := n16_
       have HB := n17_
       clear n0_ n1_ n2_ n3_ n4_ n5_ n6_ n7_ n8_ n9_ n10_ n11_ n12_ n13_ n14_ n15_ n16_ n17_
       have hHeld : w47.cell? ⟨gb334, 0, none⟩ = some (.slice A1_0 l1_0.length c1_0) ∧ w47.cell? ⟨gb334, 1, none⟩ = some (.int .i64 a1_1) := hS_
       obtain ⟨Ao48, co48, eo48⟩ := Kd.R_slice HO369.out
       (first | subst eo48 | (injection eo48 with f1_ f2_ f3_; have f4_ := f1_.symm; have f5_ := f3_.symm; clear f1_ f2_ f3_; subst f4_; subst f5_))
       refine norm_ (a' := ?_) ?_ ?_
       rotate_left
       ·
        simp only [putAll, Act.put, List.setIfInBounds_toArray, List.set_cons_zero, List.set_cons_succ]
        rfl
       refine one_ (i := 9) (N := none) #[true, true, true, true, true, true, true, true, true, true, false] rfl rfl (one_of HT_.out (by kernel_rfl)) (by decide) (fun K hK => ?_)
       have hs49 : w47.cell? ⟨gb374, 0, none⟩ = some (.slice none 0 0) := (blk_cell BK374.out 0).trans rfl
       have hfs49 := blk_frozen BK374.out 0
       have hns49_0 := NB334_374.out
       have hns49_1 := NB361_374.out
       have hms49_0 := NB374_334.out
       have hms49_1 := NB374_361.out
       have hs50 : w47.cell? ⟨gb374, 1, none⟩ = some (.int .i64 0) := (blk_cell BK374.out 1).trans rfl
       have hfs50 := blk_frozen BK374.out 1
       have hns50_0 := NB334_374.out
       have hns50_1 := NB361_374.out
       have hms50_0 := NB374_334.out
       have hms50_1 := NB374_361.out
       refine skip_ (w1 := ?_) (by rfl) rfl ?_ ?_
       rotate_left
       ·
        go_simp
        rfl
       refine hK.out _ _ ⟨((cell_far (p := ⟨gb374, _, none⟩) NB334_374.out _).trans (((cell_far (p := ⟨gb374, _, none⟩) NB334_374.out _).trans (hHeld.1)))), ((cell_far (p := ⟨gb374, _, none⟩) NB334_374.out _).trans (((cell_far (p := ⟨gb374, _, none⟩) NB334_374.out _).trans (hHeld.2))))⟩ (fun hHeld => ?_)
       clear hK K
       refine pure_ (i := 10) (N := some 15) (v := ?_) (a' := ?_) #[true, true, true, true, true, true, true, true, true, true, true] rfl rfl (any_of HT_.out (by kernel_rfl)) (fun _ _ _ h => h) (Or.inl ⟨by rfl, ?_⟩) ?_ ?_
       rotate_left
       ·
        intro w'
        go_simp
        with_reducible rfl
       rotate_left
       ·
        simp only [Act.put, List.setIfInBounds_toArray, List.set_cons_zero, List.set_cons_succ, i64_w, i32_w]
        rfl
       refine done_ (done_of HT_.out (by kernel_rfl)) ?_
       go_upto_region 9 with (fail)
       go_cut [81] (fun v81 wc => ∃ (kq : Nat) (x81_32 : Bool), v81 = .bool x81_32 ∧ Aside0 (minecontrollaw04_TelegramReads.j2 kq a3 (rd_L2 y343 x37_2) t348 y343 (y343.length : Int) x37_2 x81_32 l1_0 a1_1 t367 t370 = some r) ∧ Aside0 (kq ≤ k2) ∧ Aside0 (Kd.V (Kd.int .u8) 5 wc w.heap.size (fun k_ => (P2_ k_ ∨ w.heap.size ≤ k_) ∧ some k_ ≠ ((.slice (some ad347) y343.length co22) : Value).ownBlock ∧ some k_ ≠ ((.slice Ao39 t354.length co39) : Value).ownBlock ∧ some k_ ≠ ((.slice Ao48 t367.length co48) : Value).ownBlock ∧ k_ ≠ gb334 ∧ k_ ≠ gb361 ∧ k_ ≠ gb374) (.slice A347_0 (rd_L2 y343 x37_2).length c347_0) (rd_L2 y343 x37_2)) ∧ Aside0 (Kd.N (Kd.slice 5 (Kd.int .u8)) 22 wc w.heap.size (fun k_ => (P2_ k_ ∨ w.heap.size ≤ k_) ∧ some k_ ≠ ((.slice Ao39 t354.length co39) : Value).ownBlock ∧ some k_ ≠ ((.slice Ao48 t367.length co48) : Value).ownBlock ∧ k_ ≠ gb334 ∧ k_ ≠ gb361 ∧ k_ ≠ gb374) (.slice (some ad347) y343.length co22) y343) ∧ Aside0 (Kd.R (Kd.int .u8) 5 wc w.heap.size (fun k_ => (w.heap.size ≤ k_) ∧ some k_ ≠ ((.slice Ao48 t367.length co48) : Value).ownBlock) (.slice Ao39 t354.length co39) t354) ∧ Aside0 (Kd.R (Kd.int .u8) 5 wc w.heap.size (fun k_ => (w.heap.size ≤ k_) ∧ some k_ ≠ ((.slice Ao39 t354.length co39) : Value).ownBlock) (.slice Ao48 t367.length co48) t367) ∧ Aside0 (wc.heap[gb334]? = some (.cells #[(.slice A1_0 l1_0.length c1_0), .int .i64 a1_1] 36 (0, 0))) ∧ Aside0 (wc.heap[gb361]? = some (.cells #[(.slice Ao39 t354.length co39), .int .i64 t357] 36 (0, 0))) ∧ Aside0 (wc.heap[gb374]? = some (.cells #[(.slice Ao48 t367.length co48), .int .i64 t370] 36 (0, 0))) ∧ Aside0 (Below w.heap.size w wc))
       case first =>
        have H := HC33.out
        clear HC33
        by_cases c51 : (strOfNums t354).toList = (strOfNums t367).toList
        ·
         rw [if_pos c51] at H
         have c51b0 : ((strOfNums t354).toList == (strOfNums t367).toList) = true := beq_iff_eq.mpr c51
         have c51b1 : ((strOfNums t354).toList != (strOfNums t367).toList) = false := bne_eq_false_iff_eq.mpr c51
         clear c51
         (first | rw [c51b0] | (simp only [i64_w, i32_w]; rw [c51b0]) | skip)
         by_cases c52 : t357 = t370
         ·
          rw [if_pos c52] at H
          have c52b0 : (t357 == t370) = true := beq_iff_eq.mpr c52
          have c52b1 : (t357 != t370) = false := bne_eq_false_iff_eq.mpr c52
          clear c52
          replace H := Option.bind_eq_some_iff.mp H
          obtain ⟨t375, A530, H⟩ := H
          replace H : (minecontrollaw04_TelegramReads.j2 k2 a3 (rd_L2 y343 x37_2) t348 y343 (y343.length : Int) x37_2 (!t375) l1_0 a1_1 t367 t370) = some r := H
          have A53 := Aside0.mk A530
          clear A530
          have H' := Aside0.mk H
          clear H
          have hnb54 := NB361_334.out
          have hnc54 := NB334_361.out
          have hnb55 := NB361_374.out
          have hnc55 := NB374_361.out
          have hcz56_0 : w47.cell? ⟨gb361, 0, none⟩ = some (.slice Ao39 t354.length co39) := (blk_cell BK361.out 0).trans rfl
          have hcz56_1 : w47.cell? ⟨gb361, 1, none⟩ = some (.int .i64 t357) := (blk_cell BK361.out 1).trans rfl
          have hfz56_0 := blk_frozen BK361.out 0
          have hfz56_1 := blk_frozen BK361.out 1
          have hcv57 := own_string (P := Try.prog) Try.underlying22 Try.underlying5 Try.underlying9 (Kd.own_of_R (Kd.R_far (p := ⟨gb374, 1, none⟩) (Kd.R_far (p := ⟨gb374, 0, none⟩) (Kd.R_types HO356.out BK374.out (by decide)) (fun _ hk => hk.2) (.slice Ao48 t367.length co48)) (fun _ hk => hk.2) (.int .i64 t370)))
          have hnb58 := NB374_334.out
          have hnc58 := NB334_374.out
          have hcz59_0 : w47.cell? ⟨gb374, 0, none⟩ = some (.slice none 0 0) := (blk_cell BK374.out 0).trans rfl
          have hcz59_1 : w47.cell? ⟨gb374, 1, none⟩ = some (.int .i64 0) := (blk_cell BK374.out 1).trans rfl
          have hfz59_0 := blk_frozen BK374.out 0
          have hfz59_1 := blk_frozen BK374.out 1
          have hcv60 := own_string (P := Try.prog) Try.underlying22 Try.underlying5 Try.underlying9 (Kd.own_of_R (Kd.R_far (p := ⟨gb374, 1, none⟩) (Kd.R_far (p := ⟨gb374, 0, none⟩) (Kd.R_types HO369.out BK374.out (by decide)) (fun _ hk => hk.2) (.slice Ao48 t367.length co48)) (fun _ hk => hk.2) (.int .i64 t370)))
          obtain ⟨Ao61, co61, eo61⟩ := Kd.N_slice HO360.out
          subst eo61
          obtain ⟨Ao62, co62, eo62⟩ := Kd.N_slice HO373.out
          subst eo62
          go_wp2_with (first | (go_at_call 20; (with_reducible refine (minecontrolref04_Same.calls k2 _ _ t358 _ _ t371 t375 _ ?side1 ?side2 ?side3 ?side4 A53.out).mono ?_); (case side1 => refine (Kd.N_reads' (e := 24) (base := w.heap.size) (ok := fun k_ => ((P2_ k_ ∨ w.heap.size ≤ k_) ∧ (some k_ ≠ (.slice Ao39 t354.length co39 : Value).ownBlock ∧ (some k_ ≠ (.slice Ao48 t367.length co48 : Value).ownBlock ∧ (some k_ ≠ (.slice Ao62 t371.length co62 : Value).ownBlock ∧ (some k_ ≠ (.slice (some ad347) y343.length co22 : Value).ownBlock ∧ (k_ ≠ gb334 ∧ (k_ ≠ gb361 ∧ k_ ≠ gb374)))))))) (n := t358.length) (c := co61) ?_).2.2; exact (by (with_reducible repeat (first | apply Kd.N_alloc | apply Kd.N_drewN | apply Kd.N_drew)); exact (Kd.N_mono (Kd.N_far (p := ⟨gb374, 1, none⟩) (Kd.N_far (p := ⟨gb374, 0, none⟩) (Kd.N_mono HO360.out (fun k_ hk => (⟨hk, hk.2.2.2.2.2.2.2⟩ : _ ∧ k_ ≠ gb374))) (fun _ hk => hk.2) (.slice Ao48 t367.length co48)) (fun _ hk => hk.2) (.int .i64 t370)) (fun _ h_ => h_.1)))); (case side2 => exact (Kd.N_reads' HO360.out).2.1); (case side3 => refine (Kd.N_reads' (e := 24) (base := w.heap.size) (ok := fun k_ => ((P2_ k_ ∨ w.heap.size ≤ k_) ∧ (some k_ ≠ (.slice Ao39 t354.length co39 : Value).ownBlock ∧ (some k_ ≠ (.slice Ao61 t358.length co61 : Value).ownBlock ∧ (some k_ ≠ (.slice Ao48 t367.length co48 : Value).ownBlock ∧ (some k_ ≠ (.slice (some ad347) y343.length co22 : Value).ownBlock ∧ (k_ ≠ gb334 ∧ (k_ ≠ gb361 ∧ k_ ≠ gb374)))))))) (n := t371.length) (c := co62) ?_).2.2; exact (by (with_reducible repeat (first | apply Kd.N_alloc | apply Kd.N_drewN | apply Kd.N_drew)); exact (Kd.N_mono (Kd.N_far (p := ⟨gb374, 1, none⟩) (Kd.N_far (p := ⟨gb374, 0, none⟩) (Kd.N_mono HO373.out (fun k_ hk => (⟨hk, hk.2.2.2.2.2.2.2⟩ : _ ∧ k_ ≠ gb374))) (fun _ hk => hk.2) (.slice Ao48 t367.length co48)) (fun _ hk => hk.2) (.int .i64 t370)) (fun _ h_ => h_.1)))); (case side4 => exact (Kd.N_reads' HO373.out).2.1); rintro e w' ⟨rfl, ⟨nd, rfl⟩⟩))
          go_meet
          case rel => exact ⟨_, (!t375), (by first | rfl | (simp; done) | (simp [*]; done)), H', ⟨by have := HJ4.out; have := HK2.out; first | omega | exact Nat.le_refl _⟩, ⟨by (with_reducible repeat (first | apply Kd.V_alloc | apply Kd.V_drewN | apply Kd.V_drew)); exact Kd.V_mono (Kd.V_far (p := ⟨gb374, 1, none⟩) (Kd.V_far (p := ⟨gb374, 0, none⟩) (Kd.V_mono HL347_0.out (fun k_ hk => (⟨hk, hk.2.2.2.2.2.2.2.2⟩ : _ ∧ k_ ≠ gb374))) (fun _ hk => hk.2) (.slice Ao48 t367.length co48)) (fun _ hk => hk.2) (.int .i64 t370)) (fun _ hk => ⟨hk.1.1, ⟨hk.1.2.2.2.2.2.1, ⟨hk.1.2.1, ⟨hk.1.2.2.2.1, ⟨hk.1.2.2.2.2.2.2.1, ⟨hk.1.2.2.2.2.2.2.2.1, hk.1.2.2.2.2.2.2.2.2⟩⟩⟩⟩⟩⟩)⟩, ⟨by (with_reducible repeat (first | apply Kd.N_alloc | apply Kd.N_drewN | apply Kd.N_drew)); exact Kd.N_mono (Kd.N_far (p := ⟨gb374, 1, none⟩) (Kd.N_far (p := ⟨gb374, 0, none⟩) (Kd.N_mono HO_35.out (fun k_ hk => (⟨hk, hk.2.2.2.2.2.2.2⟩ : _ ∧ k_ ≠ gb374))) (fun _ hk => hk.2) (.slice Ao48 t367.length co48)) (fun _ hk => hk.2) (.int .i64 t370)) (fun _ hk => ⟨hk.1.1, ⟨hk.1.2.1, ⟨hk.1.2.2.2.1, ⟨hk.1.2.2.2.2.2.1, ⟨hk.1.2.2.2.2.2.2.1, hk.1.2.2.2.2.2.2.2⟩⟩⟩⟩⟩)⟩, ⟨by (with_reducible repeat (first | apply Kd.R_alloc | apply Kd.R_drewN | apply Kd.R_drew)); exact Kd.R_mono (Kd.R_far (p := ⟨gb374, 1, none⟩) (Kd.R_far (p := ⟨gb374, 0, none⟩) (Kd.R_types HO356.out BK374.out (by decide)) (fun _ hk => hk.2) (.slice Ao48 t367.length co48)) (fun _ hk => hk.2) (.int .i64 t370)) (fun _ hk => ⟨hk.1.1, hk.1.2⟩)⟩, ⟨by (with_reducible repeat (first | apply Kd.R_alloc | apply Kd.R_drewN | apply Kd.R_drew)); exact Kd.R_mono (Kd.R_far (p := ⟨gb374, 1, none⟩) (Kd.R_far (p := ⟨gb374, 0, none⟩) (Kd.R_types HO369.out BK374.out (by decide)) (fun _ hk => hk.2) (.slice Ao48 t367.length co48)) (fun _ hk => hk.2) (.int .i64 t370)) (fun _ hk => ⟨hk.1.1, hk.1.2⟩)⟩, ⟨by (with_reducible repeat (first | refine blk_drewN ?_ _ | refine blk_drew ?_ | refine blk_alloc ?_ _)); refine blk_far ?_ NB334_374.out _; (with_reducible repeat (first | refine blk_drewN ?_ _ | refine blk_drew ?_ | refine blk_alloc ?_ _)); refine blk_far ?_ NB334_374.out _; (with_reducible repeat (first | refine blk_drewN ?_ _ | refine blk_drew ?_ | refine blk_alloc ?_ _)); exact BK334.out⟩, ⟨by (with_reducible repeat (first | refine blk_drewN ?_ _ | refine blk_drew ?_ | refine blk_alloc ?_ _)); refine blk_far ?_ NB361_374.out _; (with_reducible repeat (first | refine blk_drewN ?_ _ | refine blk_drew ?_ | refine blk_alloc ?_ _)); refine blk_far ?_ NB361_374.out _; (with_reducible repeat (first | refine blk_drewN ?_ _ | refine blk_drew ?_ | refine blk_alloc ?_ _)); exact BK361.out⟩, ⟨by (with_reducible repeat (first | refine blk_drewN ?_ _ | refine blk_drew ?_ | refine blk_alloc ?_ _)); refine blk_put (cs := #[.slice Ao48 t367.length co48, .int .i64 0]) ?_ 1 _ rfl; (with_reducible repeat (first | refine blk_drewN ?_ _ | refine blk_drew ?_ | refine blk_alloc ?_ _)); refine blk_put (cs := #[.slice none 0 0, .int .i64 0]) ?_ 0 _ rfl; (with_reducible repeat (first | refine blk_drewN ?_ _ | refine blk_drew ?_ | refine blk_alloc ?_ _)); exact BK374.out⟩, ⟨by repeat (first | (with_reducible first | exact HB.out | apply below_alloc | apply pw_below_drewN | apply below_drew1 | refine below_set ?_ GE334.out | refine below_set ?_ GE361.out | refine below_set ?_ GE374.out) | exact HB.out)⟩⟩
         ·
          rw [if_neg c52] at H
          have c52b0 : (t357 == t370) = false := beq_eq_false_iff_ne.mpr c52
          have c52b1 : (t357 != t370) = true := bne_iff_ne.mpr c52
          have H' := Aside0.mk H
          clear H
          have hnb63 := NB361_334.out
          have hnc63 := NB334_361.out
          have hnb64 := NB361_374.out
          have hnc64 := NB374_361.out
          have hcz65_0 : w47.cell? ⟨gb361, 0, none⟩ = some (.slice Ao39 t354.length co39) := (blk_cell BK361.out 0).trans rfl
          have hcz65_1 : w47.cell? ⟨gb361, 1, none⟩ = some (.int .i64 t357) := (blk_cell BK361.out 1).trans rfl
          have hfz65_0 := blk_frozen BK361.out 0
          have hfz65_1 := blk_frozen BK361.out 1
          have hcv66 := own_string (P := Try.prog) Try.underlying22 Try.underlying5 Try.underlying9 (Kd.own_of_R (Kd.R_far (p := ⟨gb374, 1, none⟩) (Kd.R_far (p := ⟨gb374, 0, none⟩) (Kd.R_types HO356.out BK374.out (by decide)) (fun _ hk => hk.2) (.slice Ao48 t367.length co48)) (fun _ hk => hk.2) (.int .i64 t370)))
          have hnb67 := NB374_334.out
          have hnc67 := NB334_374.out
          have hcz68_0 : w47.cell? ⟨gb374, 0, none⟩ = some (.slice none 0 0) := (blk_cell BK374.out 0).trans rfl
          have hcz68_1 : w47.cell? ⟨gb374, 1, none⟩ = some (.int .i64 0) := (blk_cell BK374.out 1).trans rfl
          have hfz68_0 := blk_frozen BK374.out 0
          have hfz68_1 := blk_frozen BK374.out 1
          have hcv69 := own_string (P := Try.prog) Try.underlying22 Try.underlying5 Try.underlying9 (Kd.own_of_R (Kd.R_far (p := ⟨gb374, 1, none⟩) (Kd.R_far (p := ⟨gb374, 0, none⟩) (Kd.R_types HO369.out BK374.out (by decide)) (fun _ hk => hk.2) (.slice Ao48 t367.length co48)) (fun _ hk => hk.2) (.int .i64 t370)))
          go_wp2
          go_meet
          case rel => exact ⟨_, (true), (by first | rfl | (simp; done) | (simp [*]; done)), H', ⟨by have := HJ4.out; have := HK2.out; first | omega | exact Nat.le_refl _⟩, ⟨by (with_reducible repeat (first | apply Kd.V_alloc | apply Kd.V_drewN | apply Kd.V_drew)); exact Kd.V_mono (Kd.V_far (p := ⟨gb374, 1, none⟩) (Kd.V_far (p := ⟨gb374, 0, none⟩) (Kd.V_mono HL347_0.out (fun k_ hk => (⟨hk, hk.2.2.2.2.2.2.2.2⟩ : _ ∧ k_ ≠ gb374))) (fun _ hk => hk.2) (.slice Ao48 t367.length co48)) (fun _ hk => hk.2) (.int .i64 t370)) (fun _ hk => ⟨hk.1.1, ⟨hk.1.2.2.2.2.2.1, ⟨hk.1.2.1, ⟨hk.1.2.2.2.1, ⟨hk.1.2.2.2.2.2.2.1, ⟨hk.1.2.2.2.2.2.2.2.1, hk.1.2.2.2.2.2.2.2.2⟩⟩⟩⟩⟩⟩)⟩, ⟨by (with_reducible repeat (first | apply Kd.N_alloc | apply Kd.N_drewN | apply Kd.N_drew)); exact Kd.N_mono (Kd.N_far (p := ⟨gb374, 1, none⟩) (Kd.N_far (p := ⟨gb374, 0, none⟩) (Kd.N_mono HO_35.out (fun k_ hk => (⟨hk, hk.2.2.2.2.2.2.2⟩ : _ ∧ k_ ≠ gb374))) (fun _ hk => hk.2) (.slice Ao48 t367.length co48)) (fun _ hk => hk.2) (.int .i64 t370)) (fun _ hk => ⟨hk.1.1, ⟨hk.1.2.1, ⟨hk.1.2.2.2.1, ⟨hk.1.2.2.2.2.2.1, ⟨hk.1.2.2.2.2.2.2.1, hk.1.2.2.2.2.2.2.2⟩⟩⟩⟩⟩)⟩, ⟨by (with_reducible repeat (first | apply Kd.R_alloc | apply Kd.R_drewN | apply Kd.R_drew)); exact Kd.R_mono (Kd.R_far (p := ⟨gb374, 1, none⟩) (Kd.R_far (p := ⟨gb374, 0, none⟩) (Kd.R_types HO356.out BK374.out (by decide)) (fun _ hk => hk.2) (.slice Ao48 t367.length co48)) (fun _ hk => hk.2) (.int .i64 t370)) (fun _ hk => ⟨hk.1.1, hk.1.2⟩)⟩, ⟨by (with_reducible repeat (first | apply Kd.R_alloc | apply Kd.R_drewN | apply Kd.R_drew)); exact Kd.R_mono (Kd.R_far (p := ⟨gb374, 1, none⟩) (Kd.R_far (p := ⟨gb374, 0, none⟩) (Kd.R_types HO369.out BK374.out (by decide)) (fun _ hk => hk.2) (.slice Ao48 t367.length co48)) (fun _ hk => hk.2) (.int .i64 t370)) (fun _ hk => ⟨hk.1.1, hk.1.2⟩)⟩, ⟨by (with_reducible repeat (first | refine blk_drewN ?_ _ | refine blk_drew ?_ | refine blk_alloc ?_ _)); refine blk_far ?_ NB334_374.out _; (with_reducible repeat (first | refine blk_drewN ?_ _ | refine blk_drew ?_ | refine blk_alloc ?_ _)); refine blk_far ?_ NB334_374.out _; (with_reducible repeat (first | refine blk_drewN ?_ _ | refine blk_drew ?_ | refine blk_alloc ?_ _)); exact BK334.out⟩, ⟨by (with_reducible repeat (first | refine blk_drewN ?_ _ | refine blk_drew ?_ | refine blk_alloc ?_ _)); refine blk_far ?_ NB361_374.out _; (with_reducible repeat (first | refine blk_drewN ?_ _ | refine blk_drew ?_ | refine blk_alloc ?_ _)); refine blk_far ?_ NB361_374.out _; (with_reducible repeat (first | refine blk_drewN ?_ _ | refine blk_drew ?_ | refine blk_alloc ?_ _)); exact BK361.out⟩, ⟨by (with_reducible repeat (first | refine blk_drewN ?_ _ | refine blk_drew ?_ | refine blk_alloc ?_ _)); refine blk_put (cs := #[.slice Ao48 t367.length co48, .int .i64 0]) ?_ 1 _ rfl; (with_reducible repeat (first | refine blk_drewN ?_ _ | refine blk_drew ?_ | refine blk_alloc ?_ _)); refine blk_put (cs := #[.slice none 0 0, .int .i64 0]) ?_ 0 _ rfl; (with_reducible repeat (first | refine blk_drewN ?_ _ | refine blk_drew ?_ | refine blk_alloc ?_ _)); exact BK374.out⟩, ⟨by repeat (first | (with_reducible first | exact HB.out | apply below_alloc | apply pw_below_drewN | apply below_drew1 | refine below_set ?_ GE334.out | refine below_set ?_ GE361.out | refine below_set ?_ GE374.out) | exact HB.out)⟩⟩
        ·
         rw [if_neg c51] at H
         have c51b0 : ((strOfNums t354).toList == (strOfNums t367).toList) = false := beq_eq_false_iff_ne.mpr c51
         have c51b1 : ((strOfNums t354).toList != (strOfNums t367).toList) = true := bne_iff_ne.mpr c51
         (first | rw [c51b0] | (simp only [i64_w, i32_w]; rw [c51b0]) | skip)
         have H' := Aside0.mk H
         clear H
         have hnb70 := NB361_334.out
         have hnc70 := NB334_361.out
         have hnb71 := NB361_374.out
         have hnc71 := NB374_361.out
         have hcz72_0 : w47.cell? ⟨gb361, 0, none⟩ = some (.slice Ao39 t354.length co39) := (blk_cell BK361.out 0).trans rfl
         have hcz72_1 : w47.cell? ⟨gb361, 1, none⟩ = some (.int .i64 t357) := (blk_cell BK361.out 1).trans rfl
         have hfz72_0 := blk_frozen BK361.out 0
         have hfz72_1 := blk_frozen BK361.out 1
         have hcv73 := own_string (P := Try.prog) Try.underlying22 Try.underlying5 Try.underlying9 (Kd.own_of_R (Kd.R_far (p := ⟨gb374, 1, none⟩) (Kd.R_far (p := ⟨gb374, 0, none⟩) (Kd.R_types HO356.out BK374.out (by decide)) (fun _ hk => hk.2) (.slice Ao48 t367.length co48)) (fun _ hk => hk.2) (.int .i64 t370)))
         have hnb74 := NB374_334.out
         have hnc74 := NB334_374.out
         have hcz75_0 : w47.cell? ⟨gb374, 0, none⟩ = some (.slice none 0 0) := (blk_cell BK374.out 0).trans rfl
         have hcz75_1 : w47.cell? ⟨gb374, 1, none⟩ = some (.int .i64 0) := (blk_cell BK374.out 1).trans rfl
         have hfz75_0 := blk_frozen BK374.out 0
         have hfz75_1 := blk_frozen BK374.out 1
         have hcv76 := own_string (P := Try.prog) Try.underlying22 Try.underlying5 Try.underlying9 (Kd.own_of_R (Kd.R_far (p := ⟨gb374, 1, none⟩) (Kd.R_far (p := ⟨gb374, 0, none⟩) (Kd.R_types HO369.out BK374.out (by decide)) (fun _ hk => hk.2) (.slice Ao48 t367.length co48)) (fun _ hk => hk.2) (.int .i64 t370)))
         go_wp2
         go_meet
         case rel => exact ⟨_, (true), (by first | rfl | (simp; done) | (simp [*]; done)), H', ⟨by have := HJ4.out; have := HK2.out; first | omega | exact Nat.le_refl _⟩, ⟨by (with_reducible repeat (first | apply Kd.V_alloc | apply Kd.V_drewN | apply Kd.V_drew)); exact Kd.V_mono (Kd.V_far (p := ⟨gb374, 1, none⟩) (Kd.V_far (p := ⟨gb374, 0, none⟩) (Kd.V_mono HL347_0.out (fun k_ hk => (⟨hk, hk.2.2.2.2.2.2.2.2⟩ : _ ∧ k_ ≠ gb374))) (fun _ hk => hk.2) (.slice Ao48 t367.length co48)) (fun _ hk => hk.2) (.int .i64 t370)) (fun _ hk => ⟨hk.1.1, ⟨hk.1.2.2.2.2.2.1, ⟨hk.1.2.1, ⟨hk.1.2.2.2.1, ⟨hk.1.2.2.2.2.2.2.1, ⟨hk.1.2.2.2.2.2.2.2.1, hk.1.2.2.2.2.2.2.2.2⟩⟩⟩⟩⟩⟩)⟩, ⟨by (with_reducible repeat (first | apply Kd.N_alloc | apply Kd.N_drewN | apply Kd.N_drew)); exact Kd.N_mono (Kd.N_far (p := ⟨gb374, 1, none⟩) (Kd.N_far (p := ⟨gb374, 0, none⟩) (Kd.N_mono HO_35.out (fun k_ hk => (⟨hk, hk.2.2.2.2.2.2.2⟩ : _ ∧ k_ ≠ gb374))) (fun _ hk => hk.2) (.slice Ao48 t367.length co48)) (fun _ hk => hk.2) (.int .i64 t370)) (fun _ hk => ⟨hk.1.1, ⟨hk.1.2.1, ⟨hk.1.2.2.2.1, ⟨hk.1.2.2.2.2.2.1, ⟨hk.1.2.2.2.2.2.2.1, hk.1.2.2.2.2.2.2.2⟩⟩⟩⟩⟩)⟩, ⟨by (with_reducible repeat (first | apply Kd.R_alloc | apply Kd.R_drewN | apply Kd.R_drew)); exact Kd.R_mono (Kd.R_far (p := ⟨gb374, 1, none⟩) (Kd.R_far (p := ⟨gb374, 0, none⟩) (Kd.R_types HO356.out BK374.out (by decide)) (fun _ hk => hk.2) (.slice Ao48 t367.length co48)) (fun _ hk => hk.2) (.int .i64 t370)) (fun _ hk => ⟨hk.1.1, hk.1.2⟩)⟩, ⟨by (with_reducible repeat (first | apply Kd.R_alloc | apply Kd.R_drewN | apply Kd.R_drew)); exact Kd.R_mono (Kd.R_far (p := ⟨gb374, 1, none⟩) (Kd.R_far (p := ⟨gb374, 0, none⟩) (Kd.R_types HO369.out BK374.out (by decide)) (fun _ hk => hk.2) (.slice Ao48 t367.length co48)) (fun _ hk => hk.2) (.int .i64 t370)) (fun _ hk => ⟨hk.1.1, hk.1.2⟩)⟩, ⟨by (with_reducible repeat (first | refine blk_drewN ?_ _ | refine blk_drew ?_ | refine blk_alloc ?_ _)); refine blk_far ?_ NB334_374.out _; (with_reducible repeat (first | refine blk_drewN ?_ _ | refine blk_drew ?_ | refine blk_alloc ?_ _)); refine blk_far ?_ NB334_374.out _; (with_reducible repeat (first | refine blk_drewN ?_ _ | refine blk_drew ?_ | refine blk_alloc ?_ _)); exact BK334.out⟩, ⟨by (with_reducible repeat (first | refine blk_drewN ?_ _ | refine blk_drew ?_ | refine blk_alloc ?_ _)); refine blk_far ?_ NB361_374.out _; (with_reducible repeat (first | refine blk_drewN ?_ _ | refine blk_drew ?_ | refine blk_alloc ?_ _)); refine blk_far ?_ NB361_374.out _; (with_reducible repeat (first | refine blk_drewN ?_ _ | refine blk_drew ?_ | refine blk_alloc ?_ _)); exact BK361.out⟩, ⟨by (with_reducible repeat (first | refine blk_drewN ?_ _ | refine blk_drew ?_ | refine blk_alloc ?_ _)); refine blk_put (cs := #[.slice Ao48 t367.length co48, .int .i64 0]) ?_ 1 _ rfl; (with_reducible repeat (first | refine blk_drewN ?_ _ | refine blk_drew ?_ | refine blk_alloc ?_ _)); refine blk_put (cs := #[.slice none 0 0, .int .i64 0]) ?_ 0 _ rfl; (with_reducible repeat (first | refine blk_drewN ?_ _ | refine blk_drew ?_ | refine blk_alloc ?_ _)); exact BK374.out⟩, ⟨by repeat (first | (with_reducible first | exact HB.out | apply below_alloc | apply pw_below_drewN | apply below_drew1 | refine below_set ?_ GE334.out | refine below_set ?_ GE361.out | refine below_set ?_ GE374.out) | exact HB.out)⟩⟩
       case rest =>
        clear HC33
        try clear c1; try clear p2; try clear c3; try clear q4; try clear c5; try clear hcv5; try clear c6; try clear hcv6; try clear c7; try clear hcv7; try clear c19; try clear c34; try clear q44; try clear c51; try clear c51b0; try clear c51b1; try clear c52; try clear c52b0; try clear c52b1; try clear c54
        try clear c55; try clear hcv57; try clear c58; try clear hcv60; try clear c63; try clear c64; try clear hcv66; try clear c67; try clear hcv69; try clear c70; try clear c71; try clear hcv73; try clear c74; try clear hcv76; try clear hcz56_0; try clear hcz56_1; try clear hcz59_0; try clear hcz59_1; try clear hcz65_0
        try clear hcz65_1; try clear hcz68_0; try clear hcz68_1; try clear hcz72_0; try clear hcz72_1; try clear hcz75_0; try clear hcz75_1; try clear hfz56_0; try clear hfz56_1; try clear hfz59_0; try clear hfz59_1; try clear hfz65_0; try clear hfz65_1; try clear hfz68_0; try clear hfz68_1; try clear hfz72_0
        try clear hfz72_1; try clear hfz75_0; try clear hfz75_1; try clear q44
        obtain ⟨kq, x81_32, rfl, HA, HJ32, HO_10, HO_35, HO_362000, HO_375000, BK334, BK361, BK374, HB⟩ := hcut
        cases kq with
        | zero => exact absurd HA.out (by simp [minecontrollaw04_TelegramReads.j2])
        | succ kj32 =>
         have H := HA.out
         clear HA
         simp only [minecontrollaw04_TelegramReads.j2] at H
         by_cases c77 : x81_32 = true
         ·
          subst c77
          have H1 : (some false) = some r := by rw [if_pos rfl] at H; exact H
          clear H
          have H := H1
          clear H1
          obtain rfl := Option.some.inj H
          exact absurd hr_.out (by decide)
         ·
          replace c77 := Bool.eq_false_iff.mpr c77
          subst c77
          have H1 : (if 0 ≤ t348 then (if t348 ≤ ((rd_L2 y343 x37_2).length : Int) then ((telegram_Feed.f kj32 t367 t370 ((rd_L2 y343 x37_2).drop (t348 : Int).toNat)).bind fun bt381 => ((minecontrolref04_Feed.f kj32 t367 t370 ((rd_L2 y343 x37_2).drop (t348 : Int).toNat)).bind fun bt393 => (if (strOfNums bt381.1).toList = (strOfNums bt393.1).toList then (if bt381.2.1 = bt393.2.1 then ((minecontrolref04_Same.f kj32 bt381.2.2 bt393.2.2).bind fun t400 => (if t400 = true then (minecontrollaw04_TelegramReads.l0 kj32 a3 y343 (y343.length : Int) (wrap64 (x37_2 + 1)) l1_0 a1_1) else (some false))) else (some false)) else (some false)))) else (none)) else (none)) = some r := by rw [if_neg (show ¬ (false = true) by decide)] at H; exact H
          clear H
          have H := H1
          clear H1
          by_cases c78 : 0 ≤ t348
          rotate_left
          ·
           rw [if_neg c78] at H
           exact absurd H (by simp)
          rw [if_pos c78] at H
          have c78b0 := eq_true c78
          have c78b1 : decide (0 ≤ t348) = true := decide_eq_true c78
          clear c78
          by_cases c79 : t348 ≤ ((rd_L2 y343 x37_2).length : Int)
          rotate_left
          ·
           rw [if_neg c79] at H
           exact absurd H (by simp)
          rw [if_pos c79] at H
          have c79b0 := eq_true c79
          have c79b1 : decide (t348 ≤ ((rd_L2 y343 x37_2).length : Int)) = true := decide_eq_true c79
          clear c79
          obtain ⟨y376, hy376⟩ : ∃ y_ : List Int, y_ = ((rd_L2 y343 x37_2).drop (t348 : Int).toNat) := ⟨_, rfl⟩
          replace H : ((telegram_Feed.f kj32 t367 t370 y376).bind fun bt381 => ((minecontrolref04_Feed.f kj32 t367 t370 ((rd_L2 y343 x37_2).drop (t348 : Int).toNat)).bind fun bt393 => (if (strOfNums bt381.1).toList = (strOfNums bt393.1).toList then (if bt381.2.1 = bt393.2.1 then ((minecontrolref04_Same.f kj32 bt381.2.2 bt393.2.2).bind fun t400 => (if t400 = true then (minecontrollaw04_TelegramReads.l0 kj32 a3 y343 (y343.length : Int) (wrap64 (x37_2 + 1)) l1_0 a1_1) else (some false))) else (some false)) else (some false)))) = some r := by first | (rw [hy376]; with_reducible exact H) | (have H2_ := (Option.bind_some _ _).symm.trans H; rw [hy376]; with_reducible exact H2_) | (have H2_ := (Option.bind_some _ _).symm.trans H; with_reducible exact H2_) | with_reducible exact H | (rw [hy376]; exact H) | exact H
          have Ny376 := Aside0.mk hy376
          clear hy376
          replace H := Option.bind_eq_some_iff.mp H
          obtain ⟨⟨t381, t384, t385⟩, A800, H⟩ := H
          replace H : ((minecontrolref04_Feed.f kj32 t367 t370 ((rd_L2 y343 x37_2).drop (t348 : Int).toNat)).bind fun bt393 => (if (strOfNums t381).toList = (strOfNums bt393.1).toList then (if t384 = bt393.2.1 then ((minecontrolref04_Same.f kj32 t385 bt393.2.2).bind fun t400 => (if t400 = true then (minecontrollaw04_TelegramReads.l0 kj32 a3 y343 (y343.length : Int) (wrap64 (x37_2 + 1)) l1_0 a1_1) else (some false))) else (some false)) else (some false))) = some r := H
          have A80 := Aside0.mk A800
          clear A800
          have c81b0 := eq_true (of_decide_eq_true (by first | (with_reducible assumption) | assumption) : 0 ≤ t348)
          have c82b0 := eq_true (of_decide_eq_true (by first | (with_reducible assumption) | assumption) : t348 ≤ ((rd_L2 y343 x37_2).length : Int))
          obtain ⟨y388, hy388⟩ : ∃ y_ : List Int, y_ = ((rd_L2 y343 x37_2).drop (t348 : Int).toNat) := ⟨_, rfl⟩
          replace H : ((minecontrolref04_Feed.f kj32 t367 t370 y388).bind fun bt393 => (if (strOfNums t381).toList = (strOfNums bt393.1).toList then (if t384 = bt393.2.1 then ((minecontrolref04_Same.f kj32 t385 bt393.2.2).bind fun t400 => (if t400 = true then (minecontrollaw04_TelegramReads.l0 kj32 a3 y343 (y343.length : Int) (wrap64 (x37_2 + 1)) l1_0 a1_1) else (some false))) else (some false)) else (some false))) = some r := by first | (rw [hy388]; with_reducible exact H) | (have H2_ := (Option.bind_some _ _).symm.trans H; rw [hy388]; with_reducible exact H2_) | (have H2_ := (Option.bind_some _ _).symm.trans H; with_reducible exact H2_) | with_reducible exact H | (rw [hy388]; exact H) | exact H
          have Ny388 := Aside0.mk hy388
          clear hy388
          replace H := Option.bind_eq_some_iff.mp H
          obtain ⟨⟨t393, t396, t397⟩, A830, H⟩ := H
          replace H : (if (strOfNums t381).toList = (strOfNums t393).toList then (if t384 = t396 then ((minecontrolref04_Same.f kj32 t385 t397).bind fun t400 => (if t400 = true then (minecontrollaw04_TelegramReads.l0 kj32 a3 y343 (y343.length : Int) (wrap64 (x37_2 + 1)) l1_0 a1_1) else (some false))) else (some false)) else (some false)) = some r := H
          have A83 := Aside0.mk A830
          clear A830
          by_cases c84 : (strOfNums t381).toList = (strOfNums t393).toList
          ·
           rw [if_pos c84] at H
           have c84b0 : ((strOfNums t381).toList == (strOfNums t393).toList) = true := beq_iff_eq.mpr c84
           have c84b1 : ((strOfNums t381).toList != (strOfNums t393).toList) = false := bne_eq_false_iff_eq.mpr c84
           clear c84
           by_cases c85 : t384 = t396
           ·
            rw [if_pos c85] at H
            have c85b0 : (t384 == t396) = true := beq_iff_eq.mpr c85
            have c85b1 : (t384 != t396) = false := bne_eq_false_iff_eq.mpr c85
            clear c85
            replace H := Option.bind_eq_some_iff.mp H
            obtain ⟨t400, A860, H⟩ := H
            replace H : (if t400 = true then (minecontrollaw04_TelegramReads.l0 kj32 a3 y343 (y343.length : Int) (wrap64 (x37_2 + 1)) l1_0 a1_1) else (some false)) = some r := H
            have A86 := Aside0.mk A860
            clear A860
            by_cases c87 : t400 = true
            ·
             subst c87
             have H1 : (minecontrollaw04_TelegramReads.l0 kj32 a3 y343 (y343.length : Int) (wrap64 (x37_2 + 1)) l1_0 a1_1) = some r := by rw [if_pos rfl] at H; exact H
             clear H
             have H := H1
             clear H1
             have H' := Aside0.mk H
             clear H
             try go_wp2
             have n0_ := Aside0.mk (Kd.V_drew HO_10.out)
             have n1_ := Aside0.mk (Kd.N_drew HO_35.out)
             have n2_ := Aside0.mk (Kd.R_drew HO_362000.out)
             have n3_ := Aside0.mk (Kd.R_drew HO_375000.out)
             have n4_ := Aside0.mk (blk_drew BK334.out)
             have n5_ := Aside0.mk (blk_drew BK361.out)
             have n6_ := Aside0.mk (blk_drew BK374.out)
             have n7_ := Aside0.mk (below_drew1 HB.out)
             clear HO_10
             clear HO_35
             clear HO_362000
             clear HO_375000
             clear BK334
             clear BK361
             clear BK374
             clear HB
             have HO_10 := n0_
             have HO_35 := n1_
             have HO_362000 := n2_
             have HO_375000 := n3_
             have BK334 := n4_
             have BK361 := n5_
             have BK374 := n6_
             have HB := n7_
             clear n0_ n1_ n2_ n3_ n4_ n5_ n6_ n7_
             have q89 : (t348 : Int) ≤ (((rd_L2 y343 x37_2).length : Int) : Int) := of_decide_eq_true (by first | (with_reducible assumption) | assumption)
             obtain ⟨i089, hi089, _, hsz89, _⟩ := info_parts info5
             have hroom89 : (rd_L2 y343 x37_2).length ≤ c347_0 := (Kd.V_reads' HO_10.out).2.1
             have hC89 : Kd.F (Kd.int .u8) _ _ A347_0 (rd_L2 y343 x37_2).length (rd_L2 y343 x37_2) := (Kd.V_at (base := w.heap.size) HO_10.out).2.2
             have q089 : (0 : Int) ≤ (t348 : Int) := of_decide_eq_true (by first | (with_reducible assumption) | assumption)
             have hcut89 := cut_from (P := Try.prog) 22 5 .i64 Try.underlying22 hi089 1 hsz89 A347_0 (rd_L2 y343 x37_2).length c347_0 t348 q089 q89
             have hr89 := Kd.F_cut (m := (t348 : Int).toNat) (c := c347_0) hC89 (by omega) hroom89
             obtain ⟨A89, hA89⟩ : ∃ A1, A1 = (if c347_0 = (t348 : Int).toNat then A347_0 else (A347_0 : Option Addr).map (·.add ((t348 : Int).toNat * 1))) := ⟨_, rfl⟩
             obtain ⟨c89, hc89⟩ : ∃ c1, c1 = c347_0 - (t348 : Int).toNat := ⟨_, rfl⟩
             have hy89 : y376.length = (rd_L2 y343 x37_2).length - (t348 : Int).toNat := (by rw [Ny376.out, List.length_drop] <;> omega)
             rw [show ((rd_L2 y343 x37_2)).drop (t348 : Int).toNat = y376 from Ny376.out.symm] at hr89
             replace hr89 : Kd.F (Kd.int .u8) _ _ A89 y376.length y376 := (by rw [hA89]; exact hr89)
             rw [← hy89, ← hA89, ← hc89] at hcut89
             have HO380 := Aside0.mk (show Kd.V (Kd.int .u8) 5 _ w.heap.size _ (.slice A89 y376.length c89) y376 from Kd.V_mk (by rw [hy89, hc89]; exact Nat.sub_le_sub_right hroom89 _) hr89)
             have HC380 := Aside0.mk (show y376.length ≤ c89 from by rw [hy89, hc89]; exact Nat.sub_le_sub_right hroom89 _)
             clear hr89 hC89 hroom89 hi089 hsz89 hc89
             have KY89 := Aside0.mk hy89
             have KA89 := Aside0.mk hA89
             clear hy89 hA89
             replace q89 := eq_true q89
             refine start_ (n := 10) (S := fun w' => w'.cell? ⟨gb374, 0, none⟩ = some (.slice Ao48 t367.length co48) ∧ w'.cell? ⟨gb374, 1, none⟩ = some (.int .i64 t370)) (ds := []) #[false, false, false, false, false, false, false, false, false, false] (by kernel_rfl) rfl rfl ⟨(blk_cell BK374.out 0).trans rfl, (blk_cell BK374.out 1).trans rfl⟩ (fun hHeld => ?_); refine with_tabW minecontrollaw04_TelegramReads.tab11 minecontrollaw04_TelegramReads.bits11 (fun HT_ HW_ => ?_)
             generalize wc.drew = w88 at HO_10 HO_35 HO_362000 HO_375000 BK334 BK361 BK374 HB HO380 hHeld ⊢
             refine pure_ (i := 1) (N := some 84) (v := ?_) (a' := ?_) #[false, true, false, false, false, false, false, false, false, false] rfl rfl (any_of HT_.out (by kernel_rfl)) (fun _ _ _ h => h) (Or.inl ⟨by rfl, ?_⟩) ?_ ?_
             rotate_left
             ·
              intro w'
              go_simp
              with_reducible rfl
             rotate_left
             ·
              simp only [Act.put, List.setIfInBounds_toArray, List.set_cons_zero, List.set_cons_succ, i64_w, i32_w]
              rfl
             refine pure_ (i := 2) (N := some 85) (v := ?_) (a' := ?_) #[false, true, true, false, false, false, false, false, false, false] rfl rfl (any_of HT_.out (by kernel_rfl)) (fun _ _ _ h => h) (Or.inl ⟨by rfl, ?_⟩) ?_ ?_
             rotate_left
             ·
              intro w'
              go_simp
              with_reducible rfl
             rotate_left
             ·
              simp only [Act.put, List.setIfInBounds_toArray, List.set_cons_zero, List.set_cons_succ, i64_w, i32_w]
              rfl
             refine pure_ (i := 3) (N := some 86) (v := ?_) (a' := ?_) #[false, true, true, true, false, false, false, false, false, false] rfl rfl (any_of HT_.out (by kernel_rfl)) (fun _ _ _ h => h) (Or.inl ⟨by rfl, ?_⟩) ?_ ?_
             rotate_left
             ·
              intro w'
              go_simp
              with_reducible rfl
             rotate_left
             ·
              simp only [Act.put, List.setIfInBounds_toArray, List.set_cons_zero, List.set_cons_succ, i64_w, i32_w]
              rfl
             refine take_ (i := 0) (N := some 83) (v := ?_) (a' := ?_) #[true, true, true, true, false, false, false, false, false, false] rfl rfl (take_ofW HT_.out HW_.out (by kernel_rfl)) (fun _ _ _ h => h) (Or.inl ⟨by rfl, ?_⟩) hHeld ?_ ?_
             rotate_left
             ·
              rintro w' ⟨s0, s1⟩
              go_simp
              with_reducible rfl
             rotate_left
             ·
              simp only [Act.put, List.setIfInBounds_toArray, List.set_cons_zero, List.set_cons_succ, i64_w, i32_w]
              rfl
             refine one_ (i := 4) (N := some 87) #[true, true, true, true, true, false, false, false, false, false] rfl rfl (one_of HT_.out (by kernel_rfl)) (by decide) (fun K hK => ?_)
             refine goes_ Try.func18 (by kernel_rfl) rfl #[.agg #[.slice Ao48 t367.length co48, .int .i64 t370], .slice A89 y376.length c89] (by rfl) rfl rfl (by (try simp only [List.map_toArray, List.map_cons, List.map_nil]); first | done | rfl | (simp only [List.length_drop, List.length_take]; rfl)) ?_
             with_reducible refine (telegram_Feed.calls kj32 _ _ t367 t370 _ _ y376 t381 t384 t385 _ ?side1 ?side2 ?side3 ?side4 A80.out).mono ?_
             (case side1 => repeat (first | exact (Kd.R_reads' HO_375000.out).2.2 | (with_reducible refine Kd.C_alloc ?_ _) | (with_reducible refine Kd.C_drewN ?_ _) | (with_reducible refine Kd.C_drew ?_)))
             (case side2 => exact (Kd.R_reads' HO_375000.out).2.1)
             (case side3 => repeat (first | exact (Kd.V_reads' HO380.out).2.2 | (with_reducible refine Kd.C_alloc ?_ _) | (with_reducible refine Kd.C_drewN ?_ _) | (with_reducible refine Kd.C_drew ?_)))
             (case side4 => exact (Kd.V_reads' HO380.out).2.1)
             rintro e w90 ⟨v382, v386, rfl, ho0, ho1, hb⟩
             refine ⟨_, rfl, ?_⟩
             have n0_ := Aside0.mk (Kd.V_mono (Kd.V_told (Kd.V_told (Kd.V_old (by (with_reducible repeat (first | apply Kd.V_alloc | apply Kd.V_drewN | apply Kd.V_drew)); exact HO_10.out) hb) (Kd.R_base ho0)) (Kd.S_base ho1)) (fun _ h_ => h_.1))
             have n1_ := Aside0.mk (Kd.N_mono (Kd.N_told (Kd.N_told (Kd.N_old (by (with_reducible repeat (first | apply Kd.N_alloc | apply Kd.N_drewN | apply Kd.N_drew)); exact HO_35.out) hb) (Kd.R_base ho0)) (Kd.S_base ho1)) (fun _ h_ => h_.1))
             have n2_ := Aside0.mk (Kd.R_elder' (by (with_reducible repeat (first | apply Kd.R_alloc | apply Kd.R_drewN | apply Kd.R_drew)); exact HO_362000.out) (Kd.R_base ho0) hb)
             have n3_ := Aside0.mk (Kd.R_elder' (by (with_reducible repeat (first | apply Kd.R_alloc | apply Kd.R_drewN | apply Kd.R_drew)); exact HO_375000.out) (Kd.R_base ho0) hb)
             have n4_ := Aside0.mk (Kd.V_mono (Kd.V_told (Kd.V_told (Kd.V_old (by (with_reducible repeat (first | apply Kd.V_alloc | apply Kd.V_drewN | apply Kd.V_drew)); exact HO380.out) hb) (Kd.R_base ho0)) (Kd.S_base ho1)) (fun _ h_ => h_.1))
             have n5_ := Aside0.mk (Kd.R_lower (Kd.R_new' (Kd.R_new' (Kd.R_newM (M := fun k_ => (w.heap.size ≤ k_)) ho0 (below_size (by repeat (first | (with_reducible first | exact HB.out | apply below_alloc | apply pw_below_drewN | apply below_drew1 | refine below_set ?_ GE334.out | refine below_set ?_ GE361.out | refine below_set ?_ GE374.out) | exact HB.out))) (fun k_ h_ => h_)) (Kd.R_lt (by (with_reducible repeat (first | apply Kd.R_alloc | apply Kd.R_drewN | apply Kd.R_drew)); exact HO_362000.out))) (Kd.R_lt (by (with_reducible repeat (first | apply Kd.R_alloc | apply Kd.R_drewN | apply Kd.R_drew)); exact HO_375000.out))) (below_size (by repeat (first | (with_reducible first | exact HB.out | apply below_alloc | apply pw_below_drewN | apply below_drew1 | refine below_set ?_ GE334.out | refine below_set ?_ GE361.out | refine below_set ?_ GE374.out) | exact HB.out))))
             have n6_ := Aside0.mk (Kd.N_lower (Kd.N_mono (ok' := fun k_ => (P2_ k_ ∨ w.heap.size ≤ k_) ∧ some k_ ≠ (v382 : Value).ownBlock ∧ some k_ ≠ (.slice (some ad347) y343.length co22 : Value).ownBlock ∧ some k_ ≠ (.slice Ao39 t354.length co39 : Value).ownBlock ∧ some k_ ≠ (.slice Ao48 t367.length co48 : Value).ownBlock ∧ k_ ≠ gb334 ∧ k_ ≠ gb361 ∧ k_ ≠ gb374) (Kd.S_N (Kd.S_bound ho1)) (fun k_ hk_ => ⟨(.inr (Nat.le_trans (below_size (by repeat (first | (with_reducible first | exact HB.out | apply below_alloc | apply pw_below_drewN | apply below_drew1 | refine below_set ?_ GE334.out | refine below_set ?_ GE361.out | refine below_set ?_ GE374.out) | exact HB.out))) hk_.2.1)), hk_.1, (Kd.fresh' (Kd.N_lt (by (with_reducible repeat (first | apply Kd.N_alloc | apply Kd.N_drewN | apply Kd.N_drew)); exact HO_35.out)) k_ hk_.2.1), (Kd.fresh' (Kd.R_lt (by (with_reducible repeat (first | apply Kd.R_alloc | apply Kd.R_drewN | apply Kd.R_drew)); exact HO_362000.out)) k_ hk_.2.1), (Kd.fresh' (Kd.R_lt (by (with_reducible repeat (first | apply Kd.R_alloc | apply Kd.R_drewN | apply Kd.R_drew)); exact HO_375000.out)) k_ hk_.2.1), (Kd.freshB (g := gb334) (o := .cells #[.slice A1_0 l1_0.length c1_0, .int .i64 a1_1] 36 (0, 0)) (by (with_reducible repeat (first | refine blk_drewN ?_ _ | refine blk_drew ?_ | refine blk_alloc ?_ _)); exact BK334.out) k_ hk_.2.1), (Kd.freshB (g := gb361) (o := .cells #[.slice Ao39 t354.length co39, .int .i64 t357] 36 (0, 0)) (by (with_reducible repeat (first | refine blk_drewN ?_ _ | refine blk_drew ?_ | refine blk_alloc ?_ _)); exact BK361.out) k_ hk_.2.1), (Kd.freshB (g := gb374) (o := .cells #[.slice Ao48 t367.length co48, .int .i64 t370] 36 (0, 0)) (by (with_reducible repeat (first | refine blk_drewN ?_ _ | refine blk_drew ?_ | refine blk_alloc ?_ _)); exact BK374.out) k_ hk_.2.1)⟩)) (below_size (by repeat (first | (with_reducible first | exact HB.out | apply below_alloc | apply pw_below_drewN | apply below_drew1 | refine below_set ?_ GE334.out | refine below_set ?_ GE361.out | refine below_set ?_ GE374.out) | exact HB.out))))
             have n7_ := Aside0.mk (blk_below (g := gb334) (o := .cells #[.slice A1_0 l1_0.length c1_0, .int .i64 a1_1] 36 (0, 0)) (by (with_reducible repeat (first | refine blk_drewN ?_ _ | refine blk_drew ?_ | refine blk_alloc ?_ _)); exact BK334.out) hb)
             have n8_ := Aside0.mk (blk_below (g := gb361) (o := .cells #[.slice Ao39 t354.length co39, .int .i64 t357] 36 (0, 0)) (by (with_reducible repeat (first | refine blk_drewN ?_ _ | refine blk_drew ?_ | refine blk_alloc ?_ _)); exact BK361.out) hb)
             have n9_ := Aside0.mk (blk_below (g := gb374) (o := .cells #[.slice Ao48 t367.length co48, .int .i64 t370] 36 (0, 0)) (by (with_reducible repeat (first | refine blk_drewN ?_ _ | refine blk_drew ?_ | refine blk_alloc ?_ _)); exact BK374.out) hb)
             have n10_ := Aside0.mk (below_step (by repeat (first | (with_reducible first | exact HB.out | apply below_alloc | apply pw_below_drewN | apply below_drew1 | refine below_set ?_ GE334.out | refine below_set ?_ GE361.out | refine below_set ?_ GE374.out) | exact HB.out)) hb)
             clear HO_10
             clear HO_35
             clear HO_362000
             clear HO_375000
             clear HO380
             clear BK334
             clear BK361
             clear BK374
             clear HB
             have HO_10 := n0_
             have HO_35 := n1_
             have HO_362000 := n2_
             have HO_375000 := n3_
             have HO380 := n4_
             have HO383 := n5_
             have HO387 := n6_
             have BK334 := n7_
             have BK361 := n8_
             have BK374 := n9_
             have HB := n10_
             clear n0_ n1_ n2_ n3_ n4_ n5_ n6_ n7_ n8_ n9_ n10_
             (try clear hb)
             (try clear hb2)
             (try clear hge)
             (try clear hk)
             (try clear hi)
             (try clear ho0)
             (try clear ho1)
             obtain ⟨Ao91, co91, eo91⟩ := Kd.R_slice HO383.out
             (first | subst eo91 | (injection eo91 with f1_ f2_ f3_; have f4_ := f1_.symm; have f5_ := f3_.symm; clear f1_ f2_ f3_; subst f4_; subst f5_))
             refine hK.out _ _ ⟨(blk_cell BK374.out 0).trans rfl, (blk_cell BK374.out 1).trans rfl⟩ (fun hHeld => ?_)
             clear hK K
             refine norm_ (a' := ?_) ?_ ?_
             rotate_left
             ·
              show Act.put _ (some 87) _ = _
              simp only [Act.put, List.setIfInBounds_toArray, List.set_cons_zero, List.set_cons_succ, i64_w, i32_w]
              rfl
             refine pure_ (i := 5) (N := some 82) (v := ?_) (a' := ?_) #[true, true, true, true, true, true, false, false, false, false] rfl rfl (any_of HT_.out (by kernel_rfl)) (fun _ _ _ h => h) (Or.inl ⟨by rfl, ?_⟩) ?_ ?_
             rotate_left
             ·
              intro w'
              go_simp
              with_reducible rfl
             rotate_left
             ·
              simp only [Act.put, List.setIfInBounds_toArray, List.set_cons_zero, List.set_cons_succ, i64_w, i32_w]
              rfl
             refine pure_ (i := 6) (N := some 88) (v := ?_) (a' := ?_) #[true, true, true, true, true, true, true, false, false, false] rfl rfl (any_of HT_.out (by kernel_rfl)) (fun _ _ _ h => h) (Or.inl ⟨by rfl, ?_⟩) ?_ ?_
             rotate_left
             ·
              intro w'
              go_simp
              with_reducible rfl
             rotate_left
             ·
              simp only [Act.put, List.setIfInBounds_toArray, List.set_cons_zero, List.set_cons_succ, i64_w, i32_w]
              rfl
             refine pure_ (i := 7) (N := some 89) (v := ?_) (a' := ?_) #[true, true, true, true, true, true, true, true, false, false] rfl rfl (any_of HT_.out (by kernel_rfl)) (fun _ _ _ h => h) (Or.inl ⟨by rfl, ?_⟩) ?_ ?_
             rotate_left
             ·
              intro w'
              go_simp
              with_reducible rfl
             rotate_left
             ·
              simp only [Act.put, List.setIfInBounds_toArray, List.set_cons_zero, List.set_cons_succ, i64_w, i32_w]
              rfl
             refine one_ (i := 8) (N := none) #[true, true, true, true, true, true, true, true, true, false] rfl rfl (one_of HT_.out (by kernel_rfl)) (by decide) (fun K hK => ?_)
             have hs92 : w90.cell? ⟨gb361, 0, none⟩ = some (.slice Ao39 t354.length co39) := (blk_cell BK361.out 0).trans rfl
             have hfs92 := blk_frozen BK361.out 0
             have hns92_0 := NB334_361.out
             have hns92_2 := NB374_361.out
             have hms92_0 := NB361_334.out
             have hms92_2 := NB361_374.out
             have hs93 : w90.cell? ⟨gb361, 1, none⟩ = some (.int .i64 t357) := (blk_cell BK361.out 1).trans rfl
             have hfs93 := blk_frozen BK361.out 1
             have hns93_0 := NB334_361.out
             have hns93_2 := NB374_361.out
             have hms93_0 := NB361_334.out
             have hms93_2 := NB361_374.out
             refine skip_ (w1 := ?_) (by rfl) rfl ?_ ?_
             rotate_left
             ·
              go_simp
              rfl
             refine hK.out _ _ ⟨((cell_far (p := ⟨gb361, _, none⟩) NB374_361.out _).trans (((cell_far (p := ⟨gb361, _, none⟩) NB374_361.out _).trans (hHeld.1)))), ((cell_far (p := ⟨gb361, _, none⟩) NB374_361.out _).trans (((cell_far (p := ⟨gb361, _, none⟩) NB374_361.out _).trans (hHeld.2))))⟩ (fun hHeld => ?_)
             clear hK K
             refine pure_ (i := 9) (N := some 13) (v := ?_) (a' := ?_) #[true, true, true, true, true, true, true, true, true, true] rfl rfl (any_of HT_.out (by kernel_rfl)) (fun _ _ _ h => h) (Or.inl ⟨by rfl, ?_⟩) ?_ ?_
             rotate_left
             ·
              intro w'
              go_simp
              with_reducible rfl
             rotate_left
             ·
              simp only [Act.put, List.setIfInBounds_toArray, List.set_cons_zero, List.set_cons_succ, i64_w, i32_w]
              rfl
             refine done_ (done_of HT_.out (by kernel_rfl)) ?_
             try go_wp2
             have n0_ : Aside0 (Kd.V (Kd.int .u8) 5 ((w90.setCell ⟨gb361, 0, none⟩ (.slice Ao91 t381.length co91)).setCell ⟨gb361, 1, none⟩ (.int .i64 t384)) w.heap.size (fun k_ => (P2_ k_ ∨ w.heap.size ≤ k_) ∧ some k_ ≠ (.slice (some ad347) y343.length co22 : Value).ownBlock ∧ some k_ ≠ (.slice Ao39 t354.length co39 : Value).ownBlock ∧ some k_ ≠ (.slice Ao48 t367.length co48 : Value).ownBlock ∧ some k_ ≠ (.slice Ao91 t381.length co91 : Value).ownBlock ∧ some k_ ≠ (v386 : Value).ownBlock ∧ k_ ≠ gb334 ∧ k_ ≠ gb361 ∧ k_ ≠ gb374) (.slice A347_0 (rd_L2 y343 x37_2).length c347_0) (rd_L2 y343 x37_2)) := ⟨by (with_reducible repeat (first | apply Kd.V_alloc | apply Kd.V_drewN | apply Kd.V_drew)); exact Kd.V_mono (Kd.V_far (p := ⟨gb361, 1, none⟩) (Kd.V_far (p := ⟨gb361, 0, none⟩) (Kd.V_mono HO_10.out (fun k_ hk => (⟨hk, hk.1.1.2.2.2.2.2.1⟩ : _ ∧ k_ ≠ gb361))) (fun _ hk => hk.2) (.slice Ao91 t381.length co91)) (fun _ hk => hk.2) (.int .i64 t384)) (fun _ hk => ⟨hk.1.1.1.1, ⟨hk.1.1.1.2.1, ⟨hk.1.1.1.2.2.1, ⟨hk.1.1.1.2.2.2.1, ⟨hk.1.1.2, ⟨hk.1.2, ⟨hk.1.1.1.2.2.2.2.1, ⟨hk.1.1.1.2.2.2.2.2.1, hk.1.1.1.2.2.2.2.2.2⟩⟩⟩⟩⟩⟩⟩⟩)⟩
             have n1_ : Aside0 (Kd.N (Kd.slice 5 (Kd.int .u8)) 22 ((w90.setCell ⟨gb361, 0, none⟩ (.slice Ao91 t381.length co91)).setCell ⟨gb361, 1, none⟩ (.int .i64 t384)) w.heap.size (fun k_ => (P2_ k_ ∨ w.heap.size ≤ k_) ∧ some k_ ≠ (.slice Ao39 t354.length co39 : Value).ownBlock ∧ some k_ ≠ (.slice Ao48 t367.length co48 : Value).ownBlock ∧ some k_ ≠ (.slice Ao91 t381.length co91 : Value).ownBlock ∧ some k_ ≠ (v386 : Value).ownBlock ∧ k_ ≠ gb334 ∧ k_ ≠ gb361 ∧ k_ ≠ gb374) (.slice (some ad347) y343.length co22) y343) := ⟨by (with_reducible repeat (first | apply Kd.N_alloc | apply Kd.N_drewN | apply Kd.N_drew)); exact Kd.N_mono (Kd.N_far (p := ⟨gb361, 1, none⟩) (Kd.N_far (p := ⟨gb361, 0, none⟩) (Kd.N_mono HO_35.out (fun k_ hk => (⟨hk, hk.1.1.2.2.2.2.1⟩ : _ ∧ k_ ≠ gb361))) (fun _ hk => hk.2) (.slice Ao91 t381.length co91)) (fun _ hk => hk.2) (.int .i64 t384)) (fun _ hk => ⟨hk.1.1.1.1, ⟨hk.1.1.1.2.1, ⟨hk.1.1.1.2.2.1, ⟨hk.1.1.2, ⟨hk.1.2, ⟨hk.1.1.1.2.2.2.1, ⟨hk.1.1.1.2.2.2.2.1, hk.1.1.1.2.2.2.2.2⟩⟩⟩⟩⟩⟩⟩)⟩
             have n2_ : Aside0 (Kd.R (Kd.int .u8) 5 ((w90.setCell ⟨gb361, 0, none⟩ (.slice Ao91 t381.length co91)).setCell ⟨gb361, 1, none⟩ (.int .i64 t384)) w.heap.size (fun k_ => (w.heap.size ≤ k_) ∧ some k_ ≠ (.slice Ao48 t367.length co48 : Value).ownBlock ∧ some k_ ≠ (.slice Ao91 t381.length co91 : Value).ownBlock) (.slice Ao39 t354.length co39) t354) := ⟨by (with_reducible repeat (first | apply Kd.R_alloc | apply Kd.R_drewN | apply Kd.R_drew)); exact Kd.R_mono (Kd.R_far (p := ⟨gb361, 1, none⟩) (Kd.R_far (p := ⟨gb361, 0, none⟩) (Kd.R_types HO_362000.out BK361.out (by decide)) (fun _ hk => hk.2) (.slice Ao91 t381.length co91)) (fun _ hk => hk.2) (.int .i64 t384)) (fun _ hk => ⟨hk.1.1.1, ⟨hk.1.1.2, hk.1.2⟩⟩)⟩
             have n3_ : Aside0 (Kd.R (Kd.int .u8) 5 ((w90.setCell ⟨gb361, 0, none⟩ (.slice Ao91 t381.length co91)).setCell ⟨gb361, 1, none⟩ (.int .i64 t384)) w.heap.size (fun k_ => (w.heap.size ≤ k_) ∧ some k_ ≠ (.slice Ao39 t354.length co39 : Value).ownBlock ∧ some k_ ≠ (.slice Ao91 t381.length co91 : Value).ownBlock) (.slice Ao48 t367.length co48) t367) := ⟨by (with_reducible repeat (first | apply Kd.R_alloc | apply Kd.R_drewN | apply Kd.R_drew)); exact Kd.R_mono (Kd.R_far (p := ⟨gb361, 1, none⟩) (Kd.R_far (p := ⟨gb361, 0, none⟩) (Kd.R_types HO_375000.out BK361.out (by decide)) (fun _ hk => hk.2) (.slice Ao91 t381.length co91)) (fun _ hk => hk.2) (.int .i64 t384)) (fun _ hk => ⟨hk.1.1.1, ⟨hk.1.1.2, hk.1.2⟩⟩)⟩
             have n4_ : Aside0 (Kd.V (Kd.int .u8) 5 ((w90.setCell ⟨gb361, 0, none⟩ (.slice Ao91 t381.length co91)).setCell ⟨gb361, 1, none⟩ (.int .i64 t384)) w.heap.size (fun k_ => (P2_ k_ ∨ w.heap.size ≤ k_) ∧ some k_ ≠ (.slice (some ad347) y343.length co22 : Value).ownBlock ∧ some k_ ≠ (.slice Ao39 t354.length co39 : Value).ownBlock ∧ some k_ ≠ (.slice Ao48 t367.length co48 : Value).ownBlock ∧ some k_ ≠ (.slice Ao91 t381.length co91 : Value).ownBlock ∧ some k_ ≠ (v386 : Value).ownBlock ∧ k_ ≠ gb334 ∧ k_ ≠ gb361 ∧ k_ ≠ gb374) (.slice A89 y376.length c89) y376) := ⟨by (with_reducible repeat (first | apply Kd.V_alloc | apply Kd.V_drewN | apply Kd.V_drew)); exact Kd.V_mono (Kd.V_far (p := ⟨gb361, 1, none⟩) (Kd.V_far (p := ⟨gb361, 0, none⟩) (Kd.V_mono HO380.out (fun k_ hk => (⟨hk, hk.1.1.2.2.2.2.2.1⟩ : _ ∧ k_ ≠ gb361))) (fun _ hk => hk.2) (.slice Ao91 t381.length co91)) (fun _ hk => hk.2) (.int .i64 t384)) (fun _ hk => ⟨hk.1.1.1.1, ⟨hk.1.1.1.2.1, ⟨hk.1.1.1.2.2.1, ⟨hk.1.1.1.2.2.2.1, ⟨hk.1.1.2, ⟨hk.1.2, ⟨hk.1.1.1.2.2.2.2.1, ⟨hk.1.1.1.2.2.2.2.2.1, hk.1.1.1.2.2.2.2.2.2⟩⟩⟩⟩⟩⟩⟩⟩)⟩
             have n5_ : Aside0 (Kd.R (Kd.int .u8) 5 ((w90.setCell ⟨gb361, 0, none⟩ (.slice Ao91 t381.length co91)).setCell ⟨gb361, 1, none⟩ (.int .i64 t384)) w.heap.size (fun k_ => (w.heap.size ≤ k_) ∧ some k_ ≠ (.slice Ao39 t354.length co39 : Value).ownBlock ∧ some k_ ≠ (.slice Ao48 t367.length co48 : Value).ownBlock) (.slice Ao91 t381.length co91) t381) := ⟨by (with_reducible repeat (first | apply Kd.R_alloc | apply Kd.R_drewN | apply Kd.R_drew)); exact Kd.R_mono (Kd.R_far (p := ⟨gb361, 1, none⟩) (Kd.R_far (p := ⟨gb361, 0, none⟩) (Kd.R_types HO383.out BK361.out (by decide)) (fun _ hk => hk.2) (.slice Ao91 t381.length co91)) (fun _ hk => hk.2) (.int .i64 t384)) (fun _ hk => ⟨hk.1.1.1.1, ⟨hk.1.1.2, hk.1.2⟩⟩)⟩
             have n6_ : Aside0 (Kd.N k24 24 ((w90.setCell ⟨gb361, 0, none⟩ (.slice Ao91 t381.length co91)).setCell ⟨gb361, 1, none⟩ (.int .i64 t384)) w.heap.size (fun k_ => (P2_ k_ ∨ w.heap.size ≤ k_) ∧ some k_ ≠ (.slice (some ad347) y343.length co22 : Value).ownBlock ∧ some k_ ≠ (.slice Ao39 t354.length co39 : Value).ownBlock ∧ some k_ ≠ (.slice Ao48 t367.length co48 : Value).ownBlock ∧ some k_ ≠ (.slice Ao91 t381.length co91 : Value).ownBlock ∧ k_ ≠ gb334 ∧ k_ ≠ gb361 ∧ k_ ≠ gb374) v386 t385) := ⟨by (with_reducible repeat (first | apply Kd.N_alloc | apply Kd.N_drewN | apply Kd.N_drew)); exact Kd.N_mono (Kd.N_far (p := ⟨gb361, 1, none⟩) (Kd.N_far (p := ⟨gb361, 0, none⟩) (Kd.N_mono HO387.out (fun k_ hk => (⟨hk, hk.2.2.2.2.2.2.1⟩ : _ ∧ k_ ≠ gb361))) (fun _ hk => hk.2) (.slice Ao91 t381.length co91)) (fun _ hk => hk.2) (.int .i64 t384)) (fun _ hk => ⟨hk.1.1, ⟨hk.1.2.2.1, ⟨hk.1.2.2.2.1, ⟨hk.1.2.2.2.2.1, ⟨hk.1.2.1, ⟨hk.1.2.2.2.2.2.1, ⟨hk.1.2.2.2.2.2.2.1, hk.1.2.2.2.2.2.2.2⟩⟩⟩⟩⟩⟩⟩)⟩
             have n7_ : Aside0 (((w90.setCell ⟨gb361, 0, none⟩ (.slice Ao91 t381.length co91)).setCell ⟨gb361, 1, none⟩ (.int .i64 t384)).heap[gb334]? = some (.cells #[.slice A1_0 l1_0.length c1_0, .int .i64 a1_1] 36 (0, 0))) := ⟨by (with_reducible repeat (first | refine blk_drewN ?_ _ | refine blk_drew ?_ | refine blk_alloc ?_ _)); refine blk_far ?_ NB334_361.out _; (with_reducible repeat (first | refine blk_drewN ?_ _ | refine blk_drew ?_ | refine blk_alloc ?_ _)); refine blk_far ?_ NB334_361.out _; (with_reducible repeat (first | refine blk_drewN ?_ _ | refine blk_drew ?_ | refine blk_alloc ?_ _)); exact BK334.out⟩
             have n8_ : Aside0 (((w90.setCell ⟨gb361, 0, none⟩ (.slice Ao91 t381.length co91)).setCell ⟨gb361, 1, none⟩ (.int .i64 t384)).heap[gb361]? = some (.cells #[.slice Ao91 t381.length co91, .int .i64 t384] 36 (0, 0))) := ⟨by (with_reducible repeat (first | refine blk_drewN ?_ _ | refine blk_drew ?_ | refine blk_alloc ?_ _)); refine blk_put (cs := #[.slice Ao91 t381.length co91, .int .i64 t357]) ?_ 1 _ rfl; (with_reducible repeat (first | refine blk_drewN ?_ _ | refine blk_drew ?_ | refine blk_alloc ?_ _)); refine blk_put (cs := #[.slice Ao39 t354.length co39, .int .i64 t357]) ?_ 0 _ rfl; (with_reducible repeat (first | refine blk_drewN ?_ _ | refine blk_drew ?_ | refine blk_alloc ?_ _)); exact BK361.out⟩
             have n9_ : Aside0 (((w90.setCell ⟨gb361, 0, none⟩ (.slice Ao91 t381.length co91)).setCell ⟨gb361, 1, none⟩ (.int .i64 t384)).heap[gb374]? = some (.cells #[.slice Ao48 t367.length co48, .int .i64 t370] 36 (0, 0))) := ⟨by (with_reducible repeat (first | refine blk_drewN ?_ _ | refine blk_drew ?_ | refine blk_alloc ?_ _)); refine blk_far ?_ NB374_361.out _; (with_reducible repeat (first | refine blk_drewN ?_ _ | refine blk_drew ?_ | refine blk_alloc ?_ _)); refine blk_far ?_ NB374_361.out _; (with_reducible repeat (first | refine blk_drewN ?_ _ | refine blk_drew ?_ | refine blk_alloc ?_ _)); exact BK374.out⟩
             have n10_ : Aside0 (Below w.heap.size w ((w90.setCell ⟨gb361, 0, none⟩ (.slice Ao91 t381.length co91)).setCell ⟨gb361, 1, none⟩ (.int .i64 t384))) := ⟨by repeat (first | (with_reducible first | exact HB.out | apply below_alloc | apply pw_below_drewN | apply below_drew1 | refine below_set ?_ GE334.out | refine below_set ?_ GE361.out | refine below_set ?_ GE374.out) | exact HB.out)⟩
             (try clear HO_10)
             (try clear HO_35)
             (try clear HO_362000)
             (try clear HO_375000)
             (try clear HO380)
             (try clear HO383)
             (try clear HO387)
             (try clear BK334)
             (try clear BK361)
             (try clear BK374)
             (try clear HB)
             generalize ((w90.setCell ⟨gb361, 0, none⟩ (.slice Ao91 t381.length co91)).setCell ⟨gb361, 1, none⟩ (.int .i64 t384)) = w94 at n0_ n1_ n2_ n3_ n4_ n5_ n6_ n7_ n8_ n9_ n10_ ⊢
             have HO_10 := n0_
             have HO_35 := n1_
             have HO_362000 := n2_
             have HO_375000 := n3_
             have HO380 := n4_
             have HO383 := n5_
             have HO387 := n6_
             have BK334 := n7_
             have BK361 := n8_
             have BK374 := n9_
             have HB := n10_
             clear n0_ n1_ n2_ n3_ n4_ n5_ n6_ n7_ n8_ n9_ n10_
             have n0_ := Aside0.mk (Kd.V_drew HO_10.out)
             have n1_ := Aside0.mk (Kd.N_drew HO_35.out)
             have n2_ := Aside0.mk (Kd.R_drew HO_362000.out)
             have n3_ := Aside0.mk (Kd.R_drew HO_375000.out)
             have n4_ := Aside0.mk (Kd.V_drew HO380.out)
             have n5_ := Aside0.mk (Kd.R_drew HO383.out)
             have n6_ := Aside0.mk (Kd.N_drew HO387.out)
             have n7_ := Aside0.mk (blk_drew BK334.out)
             have n8_ := Aside0.mk (blk_drew BK361.out)
             have n9_ := Aside0.mk (blk_drew BK374.out)
             have n10_ := Aside0.mk (below_drew1 HB.out)
             clear HO_10
             clear HO_35
             clear HO_362000
             clear HO_375000
             clear HO380
             clear HO383
             clear HO387
             clear BK334
             clear BK361
             clear BK374
             clear HB
             have HO_10 := n0_
             have HO_35 := n1_
             have HO_362000 := n2_
             have HO_375000 := n3_
             have HO380 := n4_
             have HO383 := n5_
             have HO387 := n6_
             have BK334 := n7_
             have BK361 := n8_
             have BK374 := n9_
             have HB := n10_
             clear n0_ n1_ n2_ n3_ n4_ n5_ n6_ n7_ n8_ n9_ n10_
             have q96 : (t348 : Int) ≤ (((rd_L2 y343 x37_2).length : Int) : Int) := of_decide_eq_true (by first | (with_reducible assumption) | assumption)
             obtain ⟨i096, hi096, _, hsz96, _⟩ := info_parts info5
             have hroom96 : (rd_L2 y343 x37_2).length ≤ c347_0 := (Kd.V_reads' HO_10.out).2.1
             have hC96 : Kd.F (Kd.int .u8) _ _ A347_0 (rd_L2 y343 x37_2).length (rd_L2 y343 x37_2) := (Kd.V_at (base := w.heap.size) HO_10.out).2.2
             have q096 : (0 : Int) ≤ (t348 : Int) := of_decide_eq_true (by first | (with_reducible assumption) | assumption)
             (try clear hcut89)
             have hcut96 := cut_from (P := Try.prog) 22 5 .i64 Try.underlying22 hi096 1 hsz96 A347_0 (rd_L2 y343 x37_2).length c347_0 t348 q096 q96
             have hr96 := Kd.F_cut (m := (t348 : Int).toNat) (c := c347_0) hC96 (by omega) hroom96
             obtain ⟨A96, hA96⟩ : ∃ A1, A1 = (if c347_0 = (t348 : Int).toNat then A347_0 else (A347_0 : Option Addr).map (·.add ((t348 : Int).toNat * 1))) := ⟨_, rfl⟩
             obtain ⟨c96, hc96⟩ : ∃ c1, c1 = c347_0 - (t348 : Int).toNat := ⟨_, rfl⟩
             have hy96 : y388.length = (rd_L2 y343 x37_2).length - (t348 : Int).toNat := (by rw [Ny388.out, List.length_drop] <;> omega)
             rw [show ((rd_L2 y343 x37_2)).drop (t348 : Int).toNat = y388 from Ny388.out.symm] at hr96
             replace hr96 : Kd.F (Kd.int .u8) _ _ A96 y388.length y388 := (by rw [hA96]; exact hr96)
             rw [← hy96, ← hA96, ← hc96] at hcut96
             have HO392 := Aside0.mk (show Kd.V (Kd.int .u8) 5 _ w.heap.size _ (.slice A96 y388.length c96) y388 from Kd.V_mk (by rw [hy96, hc96]; exact Nat.sub_le_sub_right hroom96 _) hr96)
             have HC392 := Aside0.mk (show y388.length ≤ c96 from by rw [hy96, hc96]; exact Nat.sub_le_sub_right hroom96 _)
             clear hr96 hC96 hroom96 hi096 hsz96 hc96
             have KY96 := Aside0.mk hy96
             have KA96 := Aside0.mk hA96
             clear hy96 hA96
             replace q96 := eq_true q96
             refine start_ (n := 10) (S := fun w' => w'.cell? ⟨gb374, 0, none⟩ = some (.slice Ao48 t367.length co48) ∧ w'.cell? ⟨gb374, 1, none⟩ = some (.int .i64 t370)) (ds := [8]) #[false, false, false, false, false, false, false, false, false, false] (by kernel_rfl) rfl rfl ⟨(blk_cell BK374.out 0).trans rfl, (blk_cell BK374.out 1).trans rfl⟩ (fun hHeld => ?_); refine with_tabW minecontrollaw04_TelegramReads.tab12 minecontrollaw04_TelegramReads.bits12 (fun HT_ HW_ => ?_)
             generalize w94.drew = w95 at HO_10 HO_35 HO_362000 HO_375000 HO380 HO383 HO387 BK334 BK361 BK374 HB HO392 hHeld ⊢
             refine pure_ (i := 1) (N := some 92) (v := ?_) (a' := ?_) #[false, true, false, false, false, false, false, false, false, false] rfl rfl (any_of HT_.out (by kernel_rfl)) (fun _ _ _ h => h) (Or.inl ⟨by rfl, ?_⟩) ?_ ?_
             rotate_left
             ·
              intro w'
              go_simp
              with_reducible rfl
             rotate_left
             ·
              simp only [Act.put, List.setIfInBounds_toArray, List.set_cons_zero, List.set_cons_succ, i64_w, i32_w]
              rfl
             refine pure_ (i := 2) (N := some 93) (v := ?_) (a' := ?_) #[false, true, true, false, false, false, false, false, false, false] rfl rfl (any_of HT_.out (by kernel_rfl)) (fun _ _ _ h => h) (Or.inl ⟨by rfl, ?_⟩) ?_ ?_
             rotate_left
             ·
              intro w'
              go_simp
              with_reducible rfl
             rotate_left
             ·
              simp only [Act.put, List.setIfInBounds_toArray, List.set_cons_zero, List.set_cons_succ, i64_w, i32_w]
              rfl
             refine pure_ (i := 3) (N := some 94) (v := ?_) (a' := ?_) #[false, true, true, true, false, false, false, false, false, false] rfl rfl (any_of HT_.out (by kernel_rfl)) (fun _ _ _ h => h) (Or.inl ⟨by rfl, ?_⟩) ?_ ?_
             rotate_left
             ·
              intro w'
              go_simp
              with_reducible rfl
             rotate_left
             ·
              simp only [Act.put, List.setIfInBounds_toArray, List.set_cons_zero, List.set_cons_succ, i64_w, i32_w]
              rfl
             refine take_ (i := 0) (N := some 91) (v := ?_) (a' := ?_) #[true, true, true, true, false, false, false, false, false, false] rfl rfl (take_ofW HT_.out HW_.out (by kernel_rfl)) (fun _ _ _ h => h) (Or.inl ⟨by rfl, ?_⟩) hHeld ?_ ?_
             rotate_left
             ·
              rintro w' ⟨s0, s1⟩
              go_simp
              with_reducible rfl
             rotate_left
             ·
              simp only [Act.put, List.setIfInBounds_toArray, List.set_cons_zero, List.set_cons_succ, i64_w, i32_w]
              rfl
             refine one_ (i := 4) (N := some 95) #[true, true, true, true, true, false, false, false, false, false] rfl rfl (one_of HT_.out (by kernel_rfl)) (by decide) (fun K hK => ?_)
             refine goes_ Try.func19 (by kernel_rfl) rfl #[.agg #[.slice Ao48 t367.length co48, .int .i64 t370], .slice A96 y388.length c96] (by rfl) rfl rfl (by (try simp only [List.map_toArray, List.map_cons, List.map_nil]); first | done | rfl | (simp only [List.length_drop, List.length_take]; rfl)) ?_
             with_reducible refine (minecontrolref04_Feed.calls kj32 _ _ t367 t370 _ _ y388 t393 t396 t397 _ ?side1 ?side2 ?side3 ?side4 A83.out).mono ?_
             (case side1 => repeat (first | exact (Kd.R_reads' HO_375000.out).2.2 | (with_reducible refine Kd.C_alloc ?_ _) | (with_reducible refine Kd.C_drewN ?_ _) | (with_reducible refine Kd.C_drew ?_)))
             (case side2 => exact (Kd.R_reads' HO_375000.out).2.1)
             (case side3 => repeat (first | exact (Kd.V_reads' HO392.out).2.2 | (with_reducible refine Kd.C_alloc ?_ _) | (with_reducible refine Kd.C_drewN ?_ _) | (with_reducible refine Kd.C_drew ?_)))
             (case side4 => exact (Kd.V_reads' HO392.out).2.1)
             rintro e w97 ⟨v394, v398, rfl, ho0, ho1, hb⟩
             refine ⟨_, rfl, ?_⟩
             have n0_ := Aside0.mk (Kd.V_mono (Kd.V_told (Kd.V_told (Kd.V_old (by (with_reducible repeat (first | apply Kd.V_alloc | apply Kd.V_drewN | apply Kd.V_drew)); exact HO_10.out) hb) (Kd.R_base ho0)) (Kd.S_base ho1)) (fun _ h_ => h_.1))
             have n1_ := Aside0.mk (Kd.N_mono (Kd.N_told (Kd.N_told (Kd.N_old (by (with_reducible repeat (first | apply Kd.N_alloc | apply Kd.N_drewN | apply Kd.N_drew)); exact HO_35.out) hb) (Kd.R_base ho0)) (Kd.S_base ho1)) (fun _ h_ => h_.1))
             have n2_ := Aside0.mk (Kd.R_elder' (by (with_reducible repeat (first | apply Kd.R_alloc | apply Kd.R_drewN | apply Kd.R_drew)); exact HO_362000.out) (Kd.R_base ho0) hb)
             have n3_ := Aside0.mk (Kd.R_elder' (by (with_reducible repeat (first | apply Kd.R_alloc | apply Kd.R_drewN | apply Kd.R_drew)); exact HO_375000.out) (Kd.R_base ho0) hb)
             have n4_ := Aside0.mk (Kd.V_mono (Kd.V_told (Kd.V_told (Kd.V_old (by (with_reducible repeat (first | apply Kd.V_alloc | apply Kd.V_drewN | apply Kd.V_drew)); exact HO380.out) hb) (Kd.R_base ho0)) (Kd.S_base ho1)) (fun _ h_ => h_.1))
             have n5_ := Aside0.mk (Kd.R_elder' (by (with_reducible repeat (first | apply Kd.R_alloc | apply Kd.R_drewN | apply Kd.R_drew)); exact HO383.out) (Kd.R_base ho0) hb)
             have n6_ := Aside0.mk (Kd.N_mono (Kd.N_told (Kd.N_told (Kd.N_old (by (with_reducible repeat (first | apply Kd.N_alloc | apply Kd.N_drewN | apply Kd.N_drew)); exact HO387.out) hb) (Kd.R_base ho0)) (Kd.S_base ho1)) (fun _ h_ => h_.1))
             have n7_ := Aside0.mk (Kd.V_mono (Kd.V_told (Kd.V_told (Kd.V_old (by (with_reducible repeat (first | apply Kd.V_alloc | apply Kd.V_drewN | apply Kd.V_drew)); exact HO392.out) hb) (Kd.R_base ho0)) (Kd.S_base ho1)) (fun _ h_ => h_.1))
             have n8_ := Aside0.mk (Kd.R_lower (Kd.R_new' (Kd.R_new' (Kd.R_new' (Kd.R_newM (M := fun k_ => (w.heap.size ≤ k_)) ho0 (below_size (by repeat (first | (with_reducible first | exact HB.out | apply below_alloc | apply pw_below_drewN | apply below_drew1 | refine below_set ?_ GE334.out | refine below_set ?_ GE361.out | refine below_set ?_ GE374.out) | exact HB.out))) (fun k_ h_ => h_)) (Kd.R_lt (by (with_reducible repeat (first | apply Kd.R_alloc | apply Kd.R_drewN | apply Kd.R_drew)); exact HO_362000.out))) (Kd.R_lt (by (with_reducible repeat (first | apply Kd.R_alloc | apply Kd.R_drewN | apply Kd.R_drew)); exact HO_375000.out))) (Kd.R_lt (by (with_reducible repeat (first | apply Kd.R_alloc | apply Kd.R_drewN | apply Kd.R_drew)); exact HO383.out))) (below_size (by repeat (first | (with_reducible first | exact HB.out | apply below_alloc | apply pw_below_drewN | apply below_drew1 | refine below_set ?_ GE334.out | refine below_set ?_ GE361.out | refine below_set ?_ GE374.out) | exact HB.out))))
             have n9_ := Aside0.mk (Kd.N_lower (Kd.N_mono (ok' := fun k_ => (P2_ k_ ∨ w.heap.size ≤ k_) ∧ some k_ ≠ (v394 : Value).ownBlock ∧ some k_ ≠ (.slice (some ad347) y343.length co22 : Value).ownBlock ∧ some k_ ≠ (.slice Ao39 t354.length co39 : Value).ownBlock ∧ some k_ ≠ (.slice Ao48 t367.length co48 : Value).ownBlock ∧ some k_ ≠ (.slice Ao91 t381.length co91 : Value).ownBlock ∧ some k_ ≠ (v386 : Value).ownBlock ∧ k_ ≠ gb334 ∧ k_ ≠ gb361 ∧ k_ ≠ gb374) (Kd.S_N (Kd.S_bound ho1)) (fun k_ hk_ => ⟨(.inr (Nat.le_trans (below_size (by repeat (first | (with_reducible first | exact HB.out | apply below_alloc | apply pw_below_drewN | apply below_drew1 | refine below_set ?_ GE334.out | refine below_set ?_ GE361.out | refine below_set ?_ GE374.out) | exact HB.out))) hk_.2.1)), hk_.1, (Kd.fresh' (Kd.N_lt (by (with_reducible repeat (first | apply Kd.N_alloc | apply Kd.N_drewN | apply Kd.N_drew)); exact HO_35.out)) k_ hk_.2.1), (Kd.fresh' (Kd.R_lt (by (with_reducible repeat (first | apply Kd.R_alloc | apply Kd.R_drewN | apply Kd.R_drew)); exact HO_362000.out)) k_ hk_.2.1), (Kd.fresh' (Kd.R_lt (by (with_reducible repeat (first | apply Kd.R_alloc | apply Kd.R_drewN | apply Kd.R_drew)); exact HO_375000.out)) k_ hk_.2.1), (Kd.fresh' (Kd.R_lt (by (with_reducible repeat (first | apply Kd.R_alloc | apply Kd.R_drewN | apply Kd.R_drew)); exact HO383.out)) k_ hk_.2.1), (Kd.fresh' (Kd.N_lt (by (with_reducible repeat (first | apply Kd.N_alloc | apply Kd.N_drewN | apply Kd.N_drew)); exact HO387.out)) k_ hk_.2.1), (Kd.freshB (g := gb334) (o := .cells #[.slice A1_0 l1_0.length c1_0, .int .i64 a1_1] 36 (0, 0)) (by (with_reducible repeat (first | refine blk_drewN ?_ _ | refine blk_drew ?_ | refine blk_alloc ?_ _)); exact BK334.out) k_ hk_.2.1), (Kd.freshB (g := gb361) (o := .cells #[.slice Ao91 t381.length co91, .int .i64 t384] 36 (0, 0)) (by (with_reducible repeat (first | refine blk_drewN ?_ _ | refine blk_drew ?_ | refine blk_alloc ?_ _)); exact BK361.out) k_ hk_.2.1), (Kd.freshB (g := gb374) (o := .cells #[.slice Ao48 t367.length co48, .int .i64 t370] 36 (0, 0)) (by (with_reducible repeat (first | refine blk_drewN ?_ _ | refine blk_drew ?_ | refine blk_alloc ?_ _)); exact BK374.out) k_ hk_.2.1)⟩)) (below_size (by repeat (first | (with_reducible first | exact HB.out | apply below_alloc | apply pw_below_drewN | apply below_drew1 | refine below_set ?_ GE334.out | refine below_set ?_ GE361.out | refine below_set ?_ GE374.out) | exact HB.out))))
             have n10_ := Aside0.mk (blk_below (g := gb334) (o := .cells #[.slice A1_0 l1_0.length c1_0, .int .i64 a1_1] 36 (0, 0)) (by (with_reducible repeat (first | refine blk_drewN ?_ _ | refine blk_drew ?_ | refine blk_alloc ?_ _)); exact BK334.out) hb)
             have n11_ := Aside0.mk (blk_below (g := gb361) (o := .cells #[.slice Ao91 t381.length co91, .int .i64 t384] 36 (0, 0)) (by (with_reducible repeat (first | refine blk_drewN ?_ _ | refine blk_drew ?_ | refine blk_alloc ?_ _)); exact BK361.out) hb)
             have n12_ := Aside0.mk (blk_below (g := gb374) (o := .cells #[.slice Ao48 t367.length co48, .int .i64 t370] 36 (0, 0)) (by (with_reducible repeat (first | refine blk_drewN ?_ _ | refine blk_drew ?_ | refine blk_alloc ?_ _)); exact BK374.out) hb)
             have n13_ := Aside0.mk (below_step (by repeat (first | (with_reducible first | exact HB.out | apply below_alloc | apply pw_below_drewN | apply below_drew1 | refine below_set ?_ GE334.out | refine below_set ?_ GE361.out | refine below_set ?_ GE374.out) | exact HB.out)) hb)
             clear HO_10
             clear HO_35
             clear HO_362000
             clear HO_375000
             clear HO380
             clear HO383
             clear HO387
             clear HO392
             clear BK334
             clear BK361
             clear BK374
             clear HB
             have HO_10 := n0_
             have HO_35 := n1_
             have HO_362000 := n2_
             have HO_375000 := n3_
             have HO380 := n4_
             have HO383 := n5_
             have HO387 := n6_
             have HO392 := n7_
             have HO395 := n8_
             have HO399 := n9_
             have BK334 := n10_
             have BK361 := n11_
             have BK374 := n12_
             have HB := n13_
             clear n0_ n1_ n2_ n3_ n4_ n5_ n6_ n7_ n8_ n9_ n10_ n11_ n12_ n13_
             (try clear hb)
             (try clear hb2)
             (try clear hge)
             (try clear hk)
             (try clear hi)
             (try clear ho0)
             (try clear ho1)
             obtain ⟨Ao98, co98, eo98⟩ := Kd.R_slice HO395.out
             (first | subst eo98 | (injection eo98 with f1_ f2_ f3_; have f4_ := f1_.symm; have f5_ := f3_.symm; clear f1_ f2_ f3_; subst f4_; subst f5_))
             refine hK.out _ _ ⟨(blk_cell BK374.out 0).trans rfl, (blk_cell BK374.out 1).trans rfl⟩ (fun hHeld => ?_)
             clear hK K
             refine norm_ (a' := ?_) ?_ ?_
             rotate_left
             ·
              show Act.put _ (some 95) _ = _
              simp only [Act.put, List.setIfInBounds_toArray, List.set_cons_zero, List.set_cons_succ, i64_w, i32_w]
              rfl
             refine pure_ (i := 5) (N := some 90) (v := ?_) (a' := ?_) #[true, true, true, true, true, true, false, false, false, false] rfl rfl (any_of HT_.out (by kernel_rfl)) (fun _ _ _ h => h) (Or.inl ⟨by rfl, ?_⟩) ?_ ?_
             rotate_left
             ·
              intro w'
              go_simp
              with_reducible rfl
             rotate_left
             ·
              simp only [Act.put, List.setIfInBounds_toArray, List.set_cons_zero, List.set_cons_succ, i64_w, i32_w]
              rfl
             refine pure_ (i := 6) (N := some 96) (v := ?_) (a' := ?_) #[true, true, true, true, true, true, true, false, false, false] rfl rfl (any_of HT_.out (by kernel_rfl)) (fun _ _ _ h => h) (Or.inl ⟨by rfl, ?_⟩) ?_ ?_
             rotate_left
             ·
              intro w'
              go_simp
              with_reducible rfl
             rotate_left
             ·
              simp only [Act.put, List.setIfInBounds_toArray, List.set_cons_zero, List.set_cons_succ, i64_w, i32_w]
              rfl
             refine pure_ (i := 7) (N := some 97) (v := ?_) (a' := ?_) #[true, true, true, true, true, true, true, true, false, false] rfl rfl (any_of HT_.out (by kernel_rfl)) (fun _ _ _ h => h) (Or.inl ⟨by rfl, ?_⟩) ?_ ?_
             rotate_left
             ·
              intro w'
              go_simp
              with_reducible rfl
             rotate_left
             ·
              simp only [Act.put, List.setIfInBounds_toArray, List.set_cons_zero, List.set_cons_succ, i64_w, i32_w]
              rfl
             refine last_ (i := 8) (N := none) #[true, true, true, true, true, true, true, true, true, false] rfl rfl (one_of HT_.out (by kernel_rfl)) (by decide) (fun K hK => ?_)
             have hs99 : w97.cell? ⟨gb374, 0, none⟩ = some (.slice Ao48 t367.length co48) := (blk_cell BK374.out 0).trans rfl
             have hfs99 := blk_frozen BK374.out 0
             have hns99_0 := NB334_374.out
             have hns99_1 := NB361_374.out
             have hms99_0 := NB374_334.out
             have hms99_1 := NB374_361.out
             have hs100 : w97.cell? ⟨gb374, 1, none⟩ = some (.int .i64 t370) := (blk_cell BK374.out 1).trans rfl
             have hfs100 := blk_frozen BK374.out 1
             have hns100_0 := NB334_374.out
             have hns100_1 := NB361_374.out
             have hms100_0 := NB374_334.out
             have hms100_1 := NB374_361.out
             refine skip_ (w1 := ?_) (by rfl) rfl ?_ ?_
             rotate_left
             ·
              go_simp
              rfl
             refine hK.out _ _ ?_
             clear hK K
             refine pure_ (i := 9) (N := some 15) (v := ?_) (a' := ?_) #[true, true, true, true, true, true, true, true, true, true] rfl rfl (any_of HT_.out (by kernel_rfl)) (fun _ _ _ h => h) (Or.inl ⟨by rfl, ?_⟩) ?_ ?_
             rotate_left
             ·
              intro w'
              go_simp
              with_reducible rfl
             rotate_left
             ·
              simp only [Act.put, List.setIfInBounds_toArray, List.set_cons_zero, List.set_cons_succ, i64_w, i32_w]
              rfl
             refine done_ (done_of HT_.out (by kernel_rfl)) ?_
             have hnb101 := NB361_334.out
             have hnc101 := NB334_361.out
             have hnb102 := NB361_374.out
             have hnc102 := NB374_361.out
             have hcz103_0 : w97.cell? ⟨gb361, 0, none⟩ = some (.slice Ao91 t381.length co91) := (blk_cell BK361.out 0).trans rfl
             have hcz103_1 : w97.cell? ⟨gb361, 1, none⟩ = some (.int .i64 t384) := (blk_cell BK361.out 1).trans rfl
             have hfz103_0 := blk_frozen BK361.out 0
             have hfz103_1 := blk_frozen BK361.out 1
             have hcv104 := own_string (P := Try.prog) Try.underlying22 Try.underlying5 Try.underlying9 (Kd.own_of_R (Kd.R_far (p := ⟨gb374, 1, none⟩) (Kd.R_far (p := ⟨gb374, 0, none⟩) (Kd.R_types HO383.out BK374.out (by decide)) (fun _ hk => hk.2) (.slice Ao98 t393.length co98)) (fun _ hk => hk.2) (.int .i64 t396)))
             have hnb105 := NB374_334.out
             have hnc105 := NB334_374.out
             have hcz106_0 : w97.cell? ⟨gb374, 0, none⟩ = some (.slice Ao48 t367.length co48) := (blk_cell BK374.out 0).trans rfl
             have hcz106_1 : w97.cell? ⟨gb374, 1, none⟩ = some (.int .i64 t370) := (blk_cell BK374.out 1).trans rfl
             have hfz106_0 := blk_frozen BK374.out 0
             have hfz106_1 := blk_frozen BK374.out 1
             have hcv107 := own_string (P := Try.prog) Try.underlying22 Try.underlying5 Try.underlying9 (Kd.own_of_R (Kd.R_far (p := ⟨gb374, 1, none⟩) (Kd.R_far (p := ⟨gb374, 0, none⟩) (Kd.R_types HO395.out BK374.out (by decide)) (fun _ hk => hk.2) (.slice Ao98 t393.length co98)) (fun _ hk => hk.2) (.int .i64 t396)))
             obtain ⟨Ao108, co108, eo108⟩ := Kd.N_slice HO387.out
             subst eo108
             obtain ⟨Ao109, co109, eo109⟩ := Kd.N_slice HO399.out
             subst eo109
             try go_wp2_with (first | (go_at_call 20; (with_reducible refine (minecontrolref04_Same.calls kj32 _ _ t385 _ _ t397 true _ ?side1 ?side2 ?side3 ?side4 A86.out).mono ?_); (case side1 => refine (Kd.N_reads' (e := 24) (base := w.heap.size) (ok := fun k_ => ((((P2_ k_ ∨ w.heap.size ≤ k_) ∧ (some k_ ≠ (.slice (some ad347) y343.length co22 : Value).ownBlock ∧ (some k_ ≠ (.slice Ao39 t354.length co39 : Value).ownBlock ∧ (some k_ ≠ (.slice Ao48 t367.length co48 : Value).ownBlock ∧ (some k_ ≠ (.slice Ao91 t381.length co91 : Value).ownBlock ∧ (k_ ≠ gb334 ∧ (k_ ≠ gb361 ∧ k_ ≠ gb374))))))) ∧ some k_ ≠ (.slice Ao98 t393.length co98 : Value).ownBlock) ∧ some k_ ≠ (.slice Ao109 t397.length co109 : Value).ownBlock)) (n := t385.length) (c := co108) ?_).2.2; exact (by (with_reducible repeat (first | apply Kd.N_alloc | apply Kd.N_drewN | apply Kd.N_drew)); exact (Kd.N_mono (Kd.N_far (p := ⟨gb374, 1, none⟩) (Kd.N_far (p := ⟨gb374, 0, none⟩) (Kd.N_mono HO387.out (fun k_ hk => (⟨hk, hk.1.1.2.2.2.2.2.2.2⟩ : _ ∧ k_ ≠ gb374))) (fun _ hk => hk.2) (.slice Ao98 t393.length co98)) (fun _ hk => hk.2) (.int .i64 t396)) (fun _ h_ => h_.1)))); (case side2 => exact (Kd.N_reads' HO387.out).2.1); (case side3 => refine (Kd.N_reads' (e := 24) (base := w.heap.size) (ok := fun k_ => ((P2_ k_ ∨ w.heap.size ≤ k_) ∧ (some k_ ≠ (.slice Ao98 t393.length co98 : Value).ownBlock ∧ (some k_ ≠ (.slice (some ad347) y343.length co22 : Value).ownBlock ∧ (some k_ ≠ (.slice Ao39 t354.length co39 : Value).ownBlock ∧ (some k_ ≠ (.slice Ao48 t367.length co48 : Value).ownBlock ∧ (some k_ ≠ (.slice Ao91 t381.length co91 : Value).ownBlock ∧ (some k_ ≠ (.slice Ao108 t385.length co108 : Value).ownBlock ∧ (k_ ≠ gb334 ∧ (k_ ≠ gb361 ∧ k_ ≠ gb374)))))))))) (n := t397.length) (c := co109) ?_).2.2; exact (by (with_reducible repeat (first | apply Kd.N_alloc | apply Kd.N_drewN | apply Kd.N_drew)); exact (Kd.N_mono (Kd.N_far (p := ⟨gb374, 1, none⟩) (Kd.N_far (p := ⟨gb374, 0, none⟩) (Kd.N_mono HO399.out (fun k_ hk => (⟨hk, hk.2.2.2.2.2.2.2.2.2⟩ : _ ∧ k_ ≠ gb374))) (fun _ hk => hk.2) (.slice Ao98 t393.length co98)) (fun _ hk => hk.2) (.int .i64 t396)) (fun _ h_ => h_.1)))); (case side4 => exact (Kd.N_reads' HO399.out).2.1); rintro e w' ⟨rfl, ⟨nd, rfl⟩⟩))
             go_roundg kj32
             case measure => have := HJ4.out; have := HK2.out; have := HJ32.out; omega
             case rel => exact ⟨(wrap64 (x37_2 + 1)), (by first | rfl | (simp; done) | (simp [*]; done)), H', ⟨by have := HJ4.out; have := HK2.out; have := HJ32.out; omega⟩, ⟨by (with_reducible repeat (first | apply Kd.N_alloc | apply Kd.N_drewN | apply Kd.N_drew)); exact Kd.N_mono (Kd.N_far (p := ⟨gb374, 1, none⟩) (Kd.N_far (p := ⟨gb374, 0, none⟩) (Kd.N_mono HO_35.out (fun k_ hk => (⟨hk, hk.1.1.2.2.2.2.2.2.2⟩ : _ ∧ k_ ≠ gb374))) (fun _ hk => hk.2) (.slice Ao98 t393.length co98)) (fun _ hk => hk.2) (.int .i64 t396)) (fun _ hk => ⟨hk.1.1.1.1, hk.1.1.1.2.2.2.2.2.1⟩)⟩, ⟨by (with_reducible repeat (first | refine blk_drewN ?_ _ | refine blk_drew ?_ | refine blk_alloc ?_ _)); refine blk_far ?_ NB334_374.out _; (with_reducible repeat (first | refine blk_drewN ?_ _ | refine blk_drew ?_ | refine blk_alloc ?_ _)); refine blk_far ?_ NB334_374.out _; (with_reducible repeat (first | refine blk_drewN ?_ _ | refine blk_drew ?_ | refine blk_alloc ?_ _)); exact BK334.out⟩, ⟨by repeat (first | (with_reducible first | exact HB.out | apply below_alloc | apply pw_below_drewN | apply below_drew1 | refine below_set ?_ GE334.out | refine below_set ?_ GE361.out | refine below_set ?_ GE374.out) | exact HB.out)⟩⟩
            ·
             replace c87 := Bool.eq_false_iff.mpr c87
             subst c87
             have H1 : (some false) = some r := by rw [if_neg (show ¬ (false = true) by decide)] at H; exact H
             clear H
             have H := H1
             clear H1
             obtain rfl := Option.some.inj H
             exact absurd hr_.out (by decide)
           ·
            rw [if_neg c85] at H
            have c85b0 : (t384 == t396) = false := beq_eq_false_iff_ne.mpr c85
            have c85b1 : (t384 != t396) = true := bne_iff_ne.mpr c85
            obtain rfl := Option.some.inj H
            exact absurd hr_.out (by decide)
          ·
           rw [if_neg c84] at H
           have c84b0 : ((strOfNums t381).toList == (strOfNums t393).toList) = false := beq_eq_false_iff_ne.mpr c84
           have c84b1 : ((strOfNums t381).toList != (strOfNums t393).toList) = true := bne_iff_ne.mpr c84
           obtain rfl := Option.some.inj H
           exact absurd hr_.out (by decide)
      ·
       rw [if_neg c23] at H
       have c23b0 : decide (x37_2 < (y343.length : Int)) = false := decide_eq_false c23
       clear c23
       replace H := Option.bind_eq_some_iff.mp H
       obtain ⟨t346, A1100, H⟩ := H
       replace H : (some t346) = some r := H
       have A110 := Aside0.mk A1100
       clear A1100
       obtain rfl := Option.some.inj H
       go_wp2_with (first | ((with_reducible refine gate_callee (f := 9) rfl ?_); refine goesL_ (some 119) rfl rfl Try.func9 (by kernel_rfl) rfl #[] rfl (by (try simp only [List.map_toArray, List.map_cons, List.map_nil]); first | done | rfl | (simp only [List.length_drop, List.length_take]; rfl)) ?_; (with_reducible refine (minecontrollaw04_awake.calls k2  t346 _ A110.out).mono ?_); rintro e w111 ⟨rfl, hb⟩; refine ⟨_, rfl, ?_⟩; have n0_ := Aside0.mk (Kd.N_below (by (with_reducible repeat (first | apply Kd.N_alloc | apply Kd.N_drewN | apply Kd.N_drew)); exact HO_35.out) hb); have n1_ := Aside0.mk (blk_below (g := gb334) (o := .cells #[.slice A1_0 l1_0.length c1_0, .int .i64 a1_1] 36 (0, 0)) (by (with_reducible repeat (first | refine blk_drewN ?_ _ | refine blk_drew ?_ | refine blk_alloc ?_ _)); exact BK334.out) hb); have n2_ := Aside0.mk (below_step (by repeat (first | (with_reducible first | exact HB.out | apply below_alloc | apply pw_below_drewN | apply below_drew1 | refine below_set ?_ GE334.out) | exact HB.out)) hb); clear HO_35; clear BK334; clear HB; have HO_35 := n0_; have BK334 := n1_; have HB := n2_; clear n0_ n1_ n2_; (try clear hb); (try clear hb2); (try clear hge); (try clear hk); (try clear hi)))
       go_ret
       exact ⟨by first | rfl | (simp [errW_none, errW_some] <;> rfl) | (simp [*, errW_none, errW_some] <;> rfl), by repeat (first | (with_reducible first | exact HB.out | apply below_alloc | apply pw_below_drewN | apply below_drew1 | refine below_set ?_ GE334.out) | exact HB.out)⟩

/-- THE ONE PURE STATEMENT of minecontrollaw04_TelegramReads: yours. -/
def minecontrollaw04_TelegramReads.Pure : Prop := ∀ (l0 : List Int) (l1_0 : List Int) (a1_1 : Int) (l2 : List Int) (a3 : Int), l0.length ≤ maxLen → l0.length * 1 ≤ 140737488351232 → (∀ x ∈ l0, (Lit.int .u8 x).wf = true) → (l1_0.length ≤ maxLen ∧ ∀ x ∈ l1_0, (Lit.int .u8 x).wf = true) → ((Lit.int .i64 a1_1).wf = true) → l2.length ≤ maxLen → l2.length * 1 ≤ 140737488351232 → (∀ x ∈ l2, (Lit.int .u8 x).wf = true) → (Lit.int .i64 a3).wf = true → ∃ k, minecontrollaw04_TelegramReads.f k l0 l1_0 a1_1 l2 a3 = some true
theorem minecontrollaw04_TelegramReads.walk (P : minecontrollaw04_TelegramReads.Pure) (a0 : Option Addr) (len0 cap0 : Nat) (z0 : List Int) (A1_0 : Option Addr) (c1_0 : Nat) (l1_0 : List Int) (a1_1 : Int) (a2 : Option Addr) (len2 cap2 : Nat) (z2 : List Int) (a3 : Int) (w : World) (w0 : (a0 = none ∧ len0 = 0 ∧ cap0 = 0 ∧ z0 = []) ∨ ∃ x, a0 = some x ∧ len0 ≤ cap0 ∧ cap0 ≤ maxLen ∧ z0.length = cap0 ∧ (∀ i, i < z0.length → w.cell? (x.add i) = some (.int .u8 (z0.getD i 0))) ∧ ∀ n ∈ z0, (Lit.int .u8 n).wf = true) (y0 : len0 * 1 ≤ 140737488351232) (hr1_0 : Kd.C (Kd.int .u8) w A1_0 l1_0.length l1_0) (hc1_0 : l1_0.length ≤ c1_0) (q1_0 : l1_0.length ≤ maxLen ∧ ∀ x ∈ l1_0, (Lit.int .u8 x).wf = true) (q1_1 : (Lit.int .i64 a1_1).wf = true) (w2 : (a2 = none ∧ len2 = 0 ∧ cap2 = 0 ∧ z2 = []) ∨ ∃ x, a2 = some x ∧ len2 ≤ cap2 ∧ cap2 ≤ maxLen ∧ z2.length = cap2 ∧ (∀ i, i < z2.length → w.cell? (x.add i) = some (.int .u8 (z2.getD i 0))) ∧ ∀ n ∈ z2, (Lit.int .u8 n).wf = true) (y2 : len2 * 1 ≤ 140737488351232) (w3 : (Lit.int .i64 a3).wf = true) :
  Calls Try.prog 4 #[.slice a0 len0 cap0, .agg #[.slice A1_0 l1_0.length c1_0, .int .i64 a1_1], .slice a2 len2 cap2, .int .i64 a3] w fun e w' => e = .returned (.bool true) ∧ Below w.heap.size w w' := by
 obtain ⟨l0, rfl, hr0, hm0, hw0, hc0⟩ := ReadsInt.ofRowC w0
 obtain ⟨l2, rfl, hr2, hm2, hw2, hc2⟩ := ReadsInt.ofRowC w2
 obtain ⟨k, h⟩ := P l0 l1_0 a1_1 l2 a3 hm0 y0 hw0 q1_0 q1_1 hm2 y2 hw2 w3
 refine (minecontrollaw04_TelegramReads.calls1 k _ _ l0 _ _ l1_0 a1_1 (fun k_ => k_ < w.heap.size) _ _ l2 a3 true w (Kd.C_of_reads (d := (0 : Int)) (h1 := fun _ => rfl) hr0) hc0 hr1_0 hc1_0 (Kd.V_mk hc2 (Kd.C_F (Kd.heap_int .u8) (Kd.C_of_reads (d := (0 : Int)) (h1 := fun _ => rfl) hr2))) (.mk rfl) h).mono ?_
 rintro e w' ⟨rfl, hd⟩
 exact ⟨rfl, hd⟩

end Go.Proofs.Ytacogcnckhgjbaa.PTer
