/- Functions of the given program as Lean functions, and proofs that its calls come to what these say. Written by a program of this seat (wip/mkprint.py); Lean checks it all. -/
import Derived.Test.YtacogcnckhgjbaaPTerx0
import Derived.Test.YtacogcnckhgjbaaPTerx4
namespace Go.Proofs.Ytacogcnckhgjbaa.PTer
open Go.RowKit Go.Proofs.YtacogcnckhgjbaaW.PrintWords Go.Proofs.YtacogcnckhgjbaaW.PrintLast Go.Proofs.YtacogcnckhgjbaaW.PrintMore
attribute [local go_sem] max2_int min2_int max_two min_two max_three min_three max_four min_four   -- for this text's walks alone
set_option linter.unusedVariables false
set_option linter.unusedSimpArgs false

/-! ### minecontrolref04_Feed: function 19 -/
mutual
def minecontrolref04_Feed.l0 : Nat → List Int → List (S24) → Int → Option (List Int × Int × (List (S24)))
 | 0, _, _, _ => none
 | k + 1, x6, x8, x296001 => if (x6.length : Int) > 0 then (if 0 < (x6.length : Int) then (if (rd x6 0) = 126 then (if (x6.length : Int) > 1 then (if 1 < (x6.length : Int) then (minecontrolref04_Feed.j1 k x6 x8 (decide ((wrap64 (rd x6 1)) > 64)) x296001) else (none)) else (minecontrolref04_Feed.j1 k x6 x8 false x296001)) else (minecontrolref04_Feed.j1 k x6 x8 true x296001)) else (none)) else (if ([] : List Int).length + x6.length < 140737488355328 then (some ((([] : List Int) ++ x6), x296001, x8)) else (none))
def minecontrolref04_Feed.j1 : Nat → List Int → List (S24) → Bool → Int → Option (List Int × Int × (List (S24)))
 | 0, _, _, _, _ => none
 | k + 1, x6, x8, x36, x296001 => if x36 = true then (if 1 ≤ (x6.length : Int) then (minecontrolref04_Feed.l0 k (x6.drop (1 : Int).toNat) x8 (wrap64 (x296001 + 1))) else (none)) else (if (x6.length : Int) < 2 then (minecontrolref04_Feed.j2 k x6 x8 true x296001) else (if 1 < (x6.length : Int) then (minecontrolref04_Feed.j2 k x6 x8 (decide ((x6.length : Int) < (wrap64 (6 + (wrap64 (rd x6 1)))))) x296001) else (none)))
def minecontrolref04_Feed.j2 : Nat → List Int → List (S24) → Bool → Int → Option (List Int × Int × (List (S24)))
 | 0, _, _, _, _ => none
 | k + 1, x6, x8, x55, x296001 => if x55 = true then (if ([] : List Int).length + x6.length < 140737488355328 then (some ((([] : List Int) ++ x6), x296001, x8)) else (none)) else (if 1 < (x6.length : Int) then (if 1 ≤ (wrap64 (4 + (wrap64 (rd x6 1)))) then (if (wrap64 (4 + (wrap64 (rd x6 1)))) ≤ (x6.length : Int) then ((minecontrolref04_Check.f k ((x6.take ((wrap64 (4 + (wrap64 (rd x6 1)))) : Int).toNat).drop 1)).bind fun t313 => (if 0 ≤ (wrap64 (4 + (wrap64 (rd x6 1)))) then (if (wrap64 (4 + (wrap64 (rd x6 1)))) < (x6.length : Int) then (if 0 ≤ (wrap64 (5 + (wrap64 (rd x6 1)))) then (if (wrap64 (5 + (wrap64 (rd x6 1)))) < (x6.length : Int) then (if t313 = (Go.bits .or .i64 (wrap64 ((wrap64 (rd x6 (wrap64 (4 + (wrap64 (rd x6 1)))))) * 256)) (wrap64 (rd x6 (wrap64 (5 + (wrap64 (rd x6 1))))))) then (if 2 < (x6.length : Int) then (if 3 < (x6.length : Int) then (if 4 ≤ (wrap64 (4 + (wrap64 (rd x6 1)))) then ((some ((x6.take ((wrap64 (4 + (wrap64 (rd x6 1)))) : Int).toNat).drop 4 : List Int)).bind fun y318 => (if ([] : List Int).length + y318.length < 140737488355328 then (if x8.length < 3518437208883 then (if 0 ≤ (wrap64 (6 + (wrap64 (rd x6 1)))) then (if (wrap64 (6 + (wrap64 (rd x6 1)))) ≤ (x6.length : Int) then (minecontrolref04_Feed.l0 k (x6.drop ((wrap64 (6 + (wrap64 (rd x6 1)))) : Int).toNat) (x8 ++ [(⟨wrap64 (rd x6 2), wrap64 (rd x6 3), (([] : List Int) ++ y318)⟩ : S24)]) x296001) else (none)) else (none)) else (none)) else (none))) else (none)) else (none)) else (none)) else (if 1 ≤ (x6.length : Int) then (minecontrolref04_Feed.l0 k (x6.drop (1 : Int).toNat) x8 (wrap64 (x296001 + 1))) else (none))) else (none)) else (none)) else (none)) else (none))) else (none)) else (none)) else (none))
end
def minecontrolref04_Feed.f (k : Nat) (l0_0 : List Int) (a0_1 : Int) (l1 : List Int) : Option (List Int × Int × (List (S24))) := if ([] : List Int).length + l0_0.length < 140737488355328 then ((some (([] : List Int) ++ l0_0 : List Int)).bind fun y289 => (if y289.length + l1.length < 140737488355328 then (minecontrolref04_Feed.l0 k (y289 ++ l1) ([] : List (S24)) a0_1) else (none))) else (none)
theorem minecontrolref04_Feed.mono_l : ∀ k, (∀ y0 y1 y2, LeO (minecontrolref04_Feed.l0 k y0 y1 y2) (minecontrolref04_Feed.l0 (k + 1) y0 y1 y2)) ∧ (∀ y0 y1 y2 y3, LeO (minecontrolref04_Feed.j1 k y0 y1 y2 y3) (minecontrolref04_Feed.j1 (k + 1) y0 y1 y2 y3)) ∧ (∀ y0 y1 y2 y3, LeO (minecontrolref04_Feed.j2 k y0 y1 y2 y3) (minecontrolref04_Feed.j2 (k + 1) y0 y1 y2 y3))
 | 0 => ⟨fun _ _ _ r h => by simp [minecontrolref04_Feed.l0] at h, fun _ _ _ _ r h => by simp [minecontrolref04_Feed.j1] at h, fun _ _ _ _ r h => by simp [minecontrolref04_Feed.j2] at h⟩
 | k + 1 => by
  obtain ⟨ih0, ih1, ih2⟩ := minecontrolref04_Feed.mono_l k
  refine ⟨?_, ?_, ?_⟩
  ·
   intro y0 y1 y2
   unfold minecontrolref04_Feed.l0
   repeat' first
   | (with_reducible exact ih0 _ _ _)
   | (with_reducible exact ih1 _ _ _ _)
   | (with_reducible exact ih2 _ _ _ _)
   | (with_reducible exact minecontrolref04_Check.mono _ _)
   | (with_reducible exact LeO.refl _)
   | (with_reducible exact LeO.none _)
   | (with_reducible refine LeO.ite ?_ ?_)
   | (with_reducible refine LeO.bind ?_ (fun _ => ?_))
   | exact ih0 _ _ _
   | exact ih1 _ _ _ _
   | exact ih2 _ _ _ _
   | exact minecontrolref04_Check.mono _ _
   | exact LeO.none _
   | refine LeO.ite ?_ ?_
   | refine LeO.bind ?_ (fun _ => ?_)
  ·
   intro y0 y1 y2 y3
   unfold minecontrolref04_Feed.j1
   repeat' first
   | (with_reducible exact ih0 _ _ _)
   | (with_reducible exact ih1 _ _ _ _)
   | (with_reducible exact ih2 _ _ _ _)
   | (with_reducible exact minecontrolref04_Check.mono _ _)
   | (with_reducible exact LeO.refl _)
   | (with_reducible exact LeO.none _)
   | (with_reducible refine LeO.ite ?_ ?_)
   | (with_reducible refine LeO.bind ?_ (fun _ => ?_))
   | exact ih0 _ _ _
   | exact ih1 _ _ _ _
   | exact ih2 _ _ _ _
   | exact minecontrolref04_Check.mono _ _
   | exact LeO.none _
   | refine LeO.ite ?_ ?_
   | refine LeO.bind ?_ (fun _ => ?_)
  ·
   intro y0 y1 y2 y3
   unfold minecontrolref04_Feed.j2
   repeat' first
   | (with_reducible exact ih0 _ _ _)
   | (with_reducible exact ih1 _ _ _ _)
   | (with_reducible exact ih2 _ _ _ _)
   | (with_reducible exact minecontrolref04_Check.mono _ _)
   | (with_reducible exact LeO.refl _)
   | (with_reducible exact LeO.none _)
   | (with_reducible refine LeO.ite ?_ ?_)
   | (with_reducible refine LeO.bind ?_ (fun _ => ?_))
   | exact ih0 _ _ _
   | exact ih1 _ _ _ _
   | exact ih2 _ _ _ _
   | exact minecontrolref04_Check.mono _ _
   | exact LeO.none _
   | refine LeO.ite ?_ ?_
   | refine LeO.bind ?_ (fun _ => ?_)
theorem minecontrolref04_Feed.mono : ∀ a0 a1 a2 k, LeO (minecontrolref04_Feed.f k a0 a1 a2) (minecontrolref04_Feed.f (k + 1) a0 a1 a2) := by
 intro a0 a1 a2 k
 obtain ⟨ih0, ih1, ih2⟩ := minecontrolref04_Feed.mono_l k
 unfold minecontrolref04_Feed.f
 repeat' first
   | (with_reducible exact ih0 _ _ _)
   | (with_reducible exact ih1 _ _ _ _)
   | (with_reducible exact ih2 _ _ _ _)
   | (with_reducible exact minecontrolref04_Check.mono _ _)
   | (with_reducible exact LeO.refl _)
   | (with_reducible exact LeO.none _)
   | (with_reducible refine LeO.ite ?_ ?_)
   | (with_reducible refine LeO.bind ?_ (fun _ => ?_))
   | exact ih0 _ _ _
   | exact ih1 _ _ _ _
   | exact ih2 _ _ _ _
   | exact minecontrolref04_Check.mono _ _
   | exact LeO.none _
   | refine LeO.ite ?_ ?_
   | refine LeO.bind ?_ (fun _ => ?_)
def minecontrolref04_Feed.T10 : Bool × List (List Nat × List Nat) := (true, [([], []), ([], []), ([1], [1]), ([0, 2], [0, 2]), ([3], [3]), ([], []), ([], []), ([6], [6]), ([5, 7], [5, 7]), ([8], [8]), ([9], [9]), ([10], [10]), ([], []), ([], []), ([13], [13]), ([12, 14], [12, 14]), ([15], [15]), ([16], [16]), ([11, 17], [11, 17]), ([4, 18], [4, 18])])
def minecontrolref04_Feed.B10 : List Nat := [0, 0, 2, 7, 15, 0, 0, 64, 224, 480, 992, 2016, 0, 0, 8192, 28672, 61440, 126976, 262112, 524287]
theorem minecontrolref04_Feed.tab10 : rtab .any (opsOf Try.f19 10) = minecontrolref04_Feed.T10 := by kernel_rfl
theorem minecontrolref04_Feed.bits10 : waitsOk minecontrolref04_Feed.T10.2 minecontrolref04_Feed.B10 = true := by kernel_rfl
def minecontrolref04_Feed.T13 : Bool × List (List Nat × List Nat) := (true, [([], []), ([], []), ([1], [1]), ([2], [2]), ([3], [3]), ([], []), ([5], [5]), ([6], [6]), ([7], [7]), ([], []), ([], []), ([10], [10]), ([9, 11], [9, 11]), ([12], [12]), ([4, 8, 13], [4, 8, 13]), ([14], [14]), ([0, 15, 13], [0, 15]), ([16, 16, 0, 1, 2, 3, 4, 5, 6, 7, 8, 9, 10, 11, 12, 13, 14, 15, 16], [0, 16])])
def minecontrolref04_Feed.B13 : List Nat := [0, 0, 2, 6, 14, 0, 32, 96, 224, 0, 0, 1024, 3584, 7680, 16382, 32766, 65535, 131071]
theorem minecontrolref04_Feed.tab13 : rtab .any (opsOf Try.f19 13) = minecontrolref04_Feed.T13 := by kernel_rfl
theorem minecontrolref04_Feed.bits13 : waitsOk minecontrolref04_Feed.T13.2 minecontrolref04_Feed.B13 = true := by kernel_rfl
set_option maxHeartbeats 8000000 in
set_option maxRecDepth 100000 in
theorem minecontrolref04_Feed.calls (k : Nat) (A0_0 : Option Addr) (c0_0 : Nat) (l0_0 : List Int) (a0_1 : Int) (A1 : Option Addr) (c1 : Nat) (l1 : List Int) (r1 : List Int) (r2 : Int) (r3 : List (S24)) (w : World) (hr0_0 : Kd.C (Kd.int .u8) w A0_0 l0_0.length l0_0) (hc0_0 : l0_0.length ≤ c0_0) (hr1 : Kd.C (Kd.int .u8) w A1 l1.length l1) (hc1 : l1.length ≤ c1) (h : minecontrolref04_Feed.f k l0_0 a0_1 l1 = some (r1, r2, r3)) :
  Calls Try.prog 19 #[.agg #[.slice A0_0 l0_0.length c0_0, .int .i64 a0_1], .slice A1 l1.length c1] w fun e w' => ∃ v0_ v2_ : Value, e = .returned (.tuple #[.agg #[v0_, .int .i64 r2], v2_]) ∧ Kd.R (Kd.int .u8) 5 w' w.heap.size (fun _ => True) v0_ r1 ∧ Kd.S k24 24 w' w.heap.size (fun k_ => some k_ ≠ (v0_ : Value).ownBlock) v2_ r3 ∧ Below w.heap.size w w' := by
 have hu36 := Try.underlying36
 have hu24 := Try.underlying24
 have HR0_0 := Aside0.mk hr0_0
 have HC0_0 := Aside0.mk hc0_0
 clear hr0_0 hc0_0
 have HR1 := Aside0.mk hr1
 have HC1 := Aside0.mk hc1
 clear hr1 hc1
 have HB := Aside0.mk (Below.refl w.heap.size w)
 have H : (if ([] : List Int).length + l0_0.length < 140737488355328 then ((some (([] : List Int) ++ l0_0 : List Int)).bind fun y289 => (if y289.length + l1.length < 140737488355328 then (minecontrolref04_Feed.l0 k (y289 ++ l1) ([] : List (S24)) a0_1) else (none))) else (none)) = some (r1, r2, r3) := h
 clear h
 by_cases c3 : ([] : List Int).length + l0_0.length < 140737488355328
 rotate_left
 ·
  rw [if_neg c3] at H
  exact absurd H (by simp)
 rw [if_pos c3] at H
 have LMc3 := Aside0.mk c3
 clear c3
 obtain ⟨y289, hy289⟩ : ∃ y_ : List Int, y_ = (([] : List Int) ++ l0_0) := ⟨_, rfl⟩
 replace H : (if y289.length + l1.length < 140737488355328 then (minecontrolref04_Feed.l0 k (y289 ++ l1) ([] : List (S24)) a0_1) else (none)) = some (r1, r2, r3) := by first | (rw [hy289]; with_reducible exact H) | (have H2_ := (Option.bind_some _ _).symm.trans H; rw [hy289]; with_reducible exact H2_) | (have H2_ := (Option.bind_some _ _).symm.trans H; with_reducible exact H2_) | with_reducible exact H | (rw [hy289]; exact H) | exact H
 have Ny289 := Aside0.mk hy289
 clear hy289
 by_cases c4 : y289.length + l1.length < 140737488355328
 rotate_left
 ·
  rw [if_neg c4] at H
  exact absurd H (by simp)
 rw [if_pos c4] at H
 have LMc4 := Aside0.mk c4
 clear c4
 obtain ⟨y292, hy292⟩ : ∃ y_ : List Int, y_ = (y289 ++ l1) := ⟨_, rfl⟩
 replace H : (minecontrolref04_Feed.l0 k y292 ([] : List (S24)) a0_1) = some (r1, r2, r3) := by first | (rw [hy292]; with_reducible exact H) | (have H2_ := (Option.bind_some _ _).symm.trans H; rw [hy292]; with_reducible exact H2_) | (have H2_ := (Option.bind_some _ _).symm.trans H; with_reducible exact H2_) | with_reducible exact H | (rw [hy292]; exact H) | exact H
 have Ny292 := Aside0.mk hy292
 clear hy292
 have H' := Aside0.mk H
 clear H
 go_enter Try.func19, Try.ntmps19
 go_wp2_with (first | ((with_reducible refine gate_dst (N := 2) rfl ?_); (try (refine gate_guard (by rfl) ?_; dsimp only)); refine box_event ?hg (N := 2) ?hd (cs := #[.slice A0_0 l0_0.length c0_0, .int .i64 a0_1]) (t := 36) ?hr ?_; (case hd => rfl); (case hg => rfl); (case hr => first | (go_simp; done) | (go_simp; rfl)); intro gb287 hg w5 hbox hb; have n0_ := Aside0.mk (below_step (by repeat (first | (with_reducible first | exact HB.out | apply below_alloc | apply pw_below_drewN | apply below_drew1) | exact HB.out)) hb); have n1_ := Aside0.mk (hbox); have n2_ := Aside0.mk ((by rw [hg]; exact (below_size (by repeat (first | (with_reducible first | exact HB.out | apply below_alloc | apply pw_below_drewN | apply below_drew1) | exact HB.out))) : w.heap.size ≤ gb287)); have n3_ := Aside0.mk ((by rw [hg]; exact (below_size (by repeat (first | (with_reducible first | exact HB.out | apply below_alloc | apply pw_below_drewN | apply below_drew1) | exact HB.out))) : w.heap.size ≤ gb287)); clear HB; have HB := n0_; have BK287 := n1_; have GW287 := n2_; have GE287 := n3_; clear n0_ n1_ n2_ n3_; clear hb hbox hg) | ((with_reducible refine gate_dst (N := 4) rfl ?_); (try (refine gate_guard (by rfl) ?_; dsimp only)); refine box_event ?hg (N := 4) ?hd (cs := #[.slice none 0 0, .int .i64 0]) (t := 36) ?hr ?_; (case hd => rfl); (case hg => rfl); (case hr => first | (go_simp; done) | (go_simp; rfl)); intro gb288 hg w6 hbox hb; have n0_ := Aside0.mk (blk_below (g := gb287) (o := .cells #[.slice A0_0 l0_0.length c0_0, .int .i64 a0_1] 36 (0, 0)) (by (with_reducible repeat (first | refine blk_drewN ?_ _ | refine blk_drew ?_ | refine blk_alloc ?_ _)); exact BK287.out) hb); have n1_ := Aside0.mk (below_step (by repeat (first | (with_reducible first | exact HB.out | apply below_alloc | apply pw_below_drewN | apply below_drew1 | refine below_set ?_ GE287.out) | exact HB.out)) hb); have n2_ := Aside0.mk (hbox); have n3_ := Aside0.mk ((by rw [hg]; exact (below_size (by repeat (first | (with_reducible first | exact HB.out | apply below_alloc | apply pw_below_drewN | apply below_drew1 | refine below_set ?_ GE287.out) | exact HB.out))) : w.heap.size ≤ gb288)); have n4_ := Aside0.mk ((by rw [hg]; exact (below_size (by repeat (first | (with_reducible first | exact HB.out | apply below_alloc | apply pw_below_drewN | apply below_drew1 | refine below_set ?_ GE287.out) | exact HB.out))) : w.heap.size ≤ gb288)); have n5_ := Aside0.mk ((by rw [hg]; exact Nat.ne_of_lt (blk_lt (g := gb287) (o := .cells #[.slice A0_0 l0_0.length c0_0, .int .i64 a0_1] 36 (0, 0)) (by (with_reducible repeat (first | refine blk_drewN ?_ _ | refine blk_drew ?_ | refine blk_alloc ?_ _)); exact BK287.out)) : gb287 ≠ gb288)); have n6_ := Aside0.mk ((by rw [hg]; exact Nat.ne_of_gt (blk_lt (g := gb287) (o := .cells #[.slice A0_0 l0_0.length c0_0, .int .i64 a0_1] 36 (0, 0)) (by (with_reducible repeat (first | refine blk_drewN ?_ _ | refine blk_drew ?_ | refine blk_alloc ?_ _)); exact BK287.out)) : gb288 ≠ gb287)); clear BK287; clear HB; have BK287 := n0_; have HB := n1_; have BK288 := n2_; have GW288 := n3_; have GE288 := n4_; have NB287_288 := n5_; have NB288_287 := n6_; clear n0_ n1_ n2_ n3_ n4_ n5_ n6_; clear hb hbox hg; have hnb7 := NB287_288.out; have hnc7 := NB288_287.out; have hcz8_0 : w6.cell? ⟨gb287, 0, none⟩ = some (.slice A0_0 l0_0.length c0_0) := (blk_cell BK287.out 0).trans rfl; have hcz8_1 : w6.cell? ⟨gb287, 1, none⟩ = some (.int .i64 a0_1) := (blk_cell BK287.out 1).trans rfl; have hfz8_0 := blk_frozen BK287.out 0; have hfz8_1 := blk_frozen BK287.out 1) | ((with_reducible refine gate_builtin (b := .append) (xs := #[.const (.slice none 0 0), .tmp 11]) rfl ?_); (try (refine gate_guard (by rfl) ?_; dsimp only)); at_builtin; refine Kd.R_append_rows (Kd.int .u8) (w0 := w) w.heap.size rfl (.const (.slice none 0 0)) (.tmp 11) 22 5 (.int .u8 0) 1 rfl Try.underlying22 info5 rfl (by decide) (by omega) (.slice none 0 0) ([] : List Int) l0_0 _ _ _ (fun _ => True) (fun _ => False) rfl rfl ?aO ?aR (fun _ _ h => h) (fun _ h => h.elim) ?aF ?aB ?aS ?aL ?_; (case aR => repeat (first | exact (Kd.C_below HR0_0.out HB.out) | (with_reducible refine Kd.C_alloc ?_ _) | (with_reducible refine Kd.C_drewN ?_ _) | (with_reducible refine Kd.C_drew ?_))); (case aB => exact (by repeat (first | (with_reducible first | exact HB.out | apply below_alloc | apply pw_below_drewN | apply below_drew1 | refine below_set ?_ GE287.out | refine below_set ?_ GE288.out) | exact HB.out))); (case aF => exact (fun _ _ => trivial)); (case aO => exact ((Kd.R_nil _ _ _ _ (fun _ => True)))); (case aS => exact (below_size (by repeat (first | (with_reducible first | exact HB.out | apply below_alloc | apply pw_below_drewN | apply below_drew1 | refine below_set ?_ GE287.out | refine below_set ?_ GE288.out) | exact HB.out)))); (case aL => have := LMc3.out; omega); intro v290 w9 ho hb hg hat; rw [← Ny289.out] at ho; have n0_ := Aside0.mk (blk_grown (g := gb287) (o := .cells #[.slice A0_0 l0_0.length c0_0, .int .i64 a0_1] 36 (0, 0)) (by (with_reducible repeat (first | refine blk_drewN ?_ _ | refine blk_drew ?_ | refine blk_alloc ?_ _)); exact BK287.out) hg (by simp [Value.ownBlock])); have n1_ := Aside0.mk (blk_grown (g := gb288) (o := .cells #[.slice none 0 0, .int .i64 0] 36 (0, 0)) (by (with_reducible repeat (first | refine blk_drewN ?_ _ | refine blk_drew ?_ | refine blk_alloc ?_ _)); exact BK288.out) hg (by simp [Value.ownBlock])); have n2_ := Aside0.mk (hb); have n3_ := Aside0.mk (ho); clear BK287; clear BK288; clear HB; have BK287 := n0_; have BK288 := n1_; have HB := n2_; have HO291 := n3_; clear n0_ n1_ n2_ n3_; clear ho hb hg hat) | ((with_reducible refine gate_builtin (b := .append) (xs := #[.tmp 12, .tmp 13]) rfl ?_); (try (refine gate_guard (by rfl) ?_; dsimp only)); at_builtin; refine Kd.R_append_rows (Kd.int .u8) (w0 := w) w.heap.size rfl (.tmp 12) (.tmp 13) 22 5 (.int .u8 0) 1 rfl Try.underlying22 info5 rfl (by decide) (by omega) v290 y289 l1 _ _ _ (fun _ => True) (fun _ => False) rfl rfl ?aO ?aR (fun _ _ h => h) (fun _ h => h.elim) ?aF ?aB ?aS ?aL ?_; (case aR => repeat (first | exact (Kd.C_below HR1.out HB.out) | (with_reducible refine Kd.C_alloc ?_ _) | (with_reducible refine Kd.C_drewN ?_ _) | (with_reducible refine Kd.C_drew ?_))); (case aB => exact (by repeat (first | (with_reducible first | exact HB.out | apply below_alloc | apply pw_below_drewN | apply below_drew1 | refine below_set ?_ GE287.out | refine below_set ?_ GE288.out) | exact HB.out))); (case aF => exact (fun _ _ => trivial)); (case aO => exact (by (with_reducible repeat (first | apply Kd.R_alloc | apply Kd.R_drewN | apply Kd.R_drew)); exact HO291.out)); (case aS => exact (below_size (by repeat (first | (with_reducible first | exact HB.out | apply below_alloc | apply pw_below_drewN | apply below_drew1 | refine below_set ?_ GE287.out | refine below_set ?_ GE288.out) | exact HB.out)))); (case aL => have := LMc4.out; omega); intro v293 w10 ho hb hg hat; rw [← Ny292.out] at ho; have n0_ := Aside0.mk (blk_grown (g := gb287) (o := .cells #[.slice A0_0 l0_0.length c0_0, .int .i64 a0_1] 36 (0, 0)) (by (with_reducible repeat (first | refine blk_drewN ?_ _ | refine blk_drew ?_ | refine blk_alloc ?_ _)); exact BK287.out) hg (Kd.R_ne HO291.out BK287.out (by decide))); have n1_ := Aside0.mk (blk_grown (g := gb288) (o := .cells #[.slice none 0 0, .int .i64 0] 36 (0, 0)) (by (with_reducible repeat (first | refine blk_drewN ?_ _ | refine blk_drew ?_ | refine blk_alloc ?_ _)); exact BK288.out) hg (Kd.R_ne HO291.out BK288.out (by decide))); have n2_ := Aside0.mk (hb); have n3_ := Aside0.mk (ho); clear BK287; clear BK288; clear HB; clear HO291; have BK287 := n0_; have BK288 := n1_; have HB := n2_; have HO294 := n3_; clear n0_ n1_ n2_ n3_; clear ho hb hg hat; have hcz11_0 : w10.cell? ⟨gb287, 0, none⟩ = some (.slice A0_0 l0_0.length c0_0) := (blk_cell BK287.out 0).trans rfl; have hcz11_1 : w10.cell? ⟨gb287, 1, none⟩ = some (.int .i64 a0_1) := (blk_cell BK287.out 1).trans rfl; have hfz11_0 := blk_frozen BK287.out 0; have hfz11_1 := blk_frozen BK287.out 1) | ((with_reducible refine gate_dst (N := 7) rfl ?_); (try (refine gate_guard (by rfl) ?_; dsimp only)); refine box_event ?hg (N := 7) ?hd (cs := #[.slice none 0 0, .int .i64 0]) (t := 36) ?hr ?_; (case hd => rfl); (case hg => rfl); (case hr => first | (go_simp; done) | (go_simp; rfl)); intro gb295 hg w12 hbox hb; have n0_ := Aside0.mk (Kd.R_below (by (with_reducible repeat (first | apply Kd.R_alloc | apply Kd.R_drewN | apply Kd.R_drew)); exact HO294.out) hb); have n1_ := Aside0.mk (blk_below (g := gb287) (o := .cells #[.slice A0_0 l0_0.length c0_0, .int .i64 a0_1] 36 (0, 0)) (by (with_reducible repeat (first | refine blk_drewN ?_ _ | refine blk_drew ?_ | refine blk_alloc ?_ _)); exact BK287.out) hb); have n2_ := Aside0.mk (blk_below (g := gb288) (o := .cells #[.slice none 0 0, .int .i64 0] 36 (0, 0)) (by (with_reducible repeat (first | refine blk_drewN ?_ _ | refine blk_drew ?_ | refine blk_alloc ?_ _)); exact BK288.out) hb); have n3_ := Aside0.mk (below_step (by repeat (first | (with_reducible first | exact HB.out | apply below_alloc | apply pw_below_drewN | apply below_drew1 | refine below_set ?_ GE287.out | refine below_set ?_ GE288.out) | exact HB.out)) hb); have n4_ := Aside0.mk (hbox); have n5_ := Aside0.mk ((by rw [hg]; exact (below_size (by repeat (first | (with_reducible first | exact HB.out | apply below_alloc | apply pw_below_drewN | apply below_drew1 | refine below_set ?_ GE287.out | refine below_set ?_ GE288.out) | exact HB.out))) : w.heap.size ≤ gb295)); have n6_ := Aside0.mk ((by rw [hg]; exact (below_size (by repeat (first | (with_reducible first | exact HB.out | apply below_alloc | apply pw_below_drewN | apply below_drew1 | refine below_set ?_ GE287.out | refine below_set ?_ GE288.out) | exact HB.out))) : w.heap.size ≤ gb295)); have n7_ := Aside0.mk ((by rw [hg]; exact Nat.ne_of_lt (blk_lt (g := gb287) (o := .cells #[.slice A0_0 l0_0.length c0_0, .int .i64 a0_1] 36 (0, 0)) (by (with_reducible repeat (first | refine blk_drewN ?_ _ | refine blk_drew ?_ | refine blk_alloc ?_ _)); exact BK287.out)) : gb287 ≠ gb295)); have n8_ := Aside0.mk ((by rw [hg]; exact Nat.ne_of_gt (blk_lt (g := gb287) (o := .cells #[.slice A0_0 l0_0.length c0_0, .int .i64 a0_1] 36 (0, 0)) (by (with_reducible repeat (first | refine blk_drewN ?_ _ | refine blk_drew ?_ | refine blk_alloc ?_ _)); exact BK287.out)) : gb295 ≠ gb287)); have n9_ := Aside0.mk ((by rw [hg]; exact Nat.ne_of_lt (blk_lt (g := gb288) (o := .cells #[.slice none 0 0, .int .i64 0] 36 (0, 0)) (by (with_reducible repeat (first | refine blk_drewN ?_ _ | refine blk_drew ?_ | refine blk_alloc ?_ _)); exact BK288.out)) : gb288 ≠ gb295)); have n10_ := Aside0.mk ((by rw [hg]; exact Nat.ne_of_gt (blk_lt (g := gb288) (o := .cells #[.slice none 0 0, .int .i64 0] 36 (0, 0)) (by (with_reducible repeat (first | refine blk_drewN ?_ _ | refine blk_drew ?_ | refine blk_alloc ?_ _)); exact BK288.out)) : gb295 ≠ gb288)); clear HO294; clear BK287; clear BK288; clear HB; have HO294 := n0_; have BK287 := n1_; have BK288 := n2_; have HB := n3_; have BK295 := n4_; have GW295 := n5_; have GE295 := n6_; have NB287_295 := n7_; have NB295_287 := n8_; have NB288_295 := n9_; have NB295_288 := n10_; clear n0_ n1_ n2_ n3_ n4_ n5_ n6_ n7_ n8_ n9_ n10_; clear hb hbox hg; have hnb13 := NB295_287.out; have hnc13 := NB287_295.out; have hnb14 := NB295_288.out; have hnc14 := NB288_295.out; have hcz15_0 : w12.cell? ⟨gb295, 0, none⟩ = some (.slice none 0 0) := (blk_cell BK295.out 0).trans rfl; have hcz15_1 : w12.cell? ⟨gb295, 1, none⟩ = some (.int .i64 0) := (blk_cell BK295.out 1).trans rfl; have hfz15_0 := blk_frozen BK295.out 0; have hfz15_1 := blk_frozen BK295.out 1))
 go_loopg [6, 8] k (fun kq v6 v8 w' => ∃ (x6_1 : List Int) (x8_1 : List (S24)) (x296001_1 : Int), Aside0 (minecontrolref04_Feed.l0 kq x6_1 x8_1 x296001_1 = some (r1, r2, r3)) ∧ Aside0 (kq ≤ k) ∧ Aside0 (Kd.Q (Kd.int .u8) 5 w' w.heap.size (fun _ => True) v6 x6_1) ∧ Aside0 (Kd.S k24 24 w' w.heap.size (fun k_ => some k_ ≠ (v6 : Value).ownBlock) v8 x8_1) ∧ Aside0 (w'.heap[gb287]? = some (.cells #[(.slice A0_0 l0_0.length c0_0), .int .i64 a0_1] 36 (0, 0))) ∧ Aside0 (w'.heap[gb288]? = some (.cells #[(.slice none 0 0), .int .i64 0] 36 (0, 0))) ∧ Aside0 (w'.heap[gb295]? = some (.cells #[(.slice none 0 0), .int .i64 x296001_1] 36 (0, 0))) ∧ Aside0 (Below w.heap.size w w'))
 case atStart => exact ⟨(y292), (([] : List (S24))), (a0_1), H', ⟨Nat.le_refl _⟩, ⟨Kd.Q_of_R (by (with_reducible repeat (first | apply Kd.R_alloc | apply Kd.R_drewN | apply Kd.R_drew)); exact Kd.R_mono (Kd.R_far (p := ⟨gb295, 1, none⟩) (Kd.R_far (p := ⟨gb295, 0, none⟩) (Kd.R_types HO294.out BK295.out (by decide)) (fun _ hk => hk.2) (.slice none 0 0)) (fun _ hk => hk.2) (.int .i64 a0_1)) (fun _ hk => trivial))⟩, ⟨by first | exact Kd.S_nil _ _ _ _ _ | exact Kd.N_nil _ _ _ _ _ | exact Kd.V_nil _ _ _ _ _ | exact Kd.Q_nil _ _ _ _ _ | exact Kd.R_nil _ _ _ _ _⟩, ⟨by (with_reducible repeat (first | refine blk_drewN ?_ _ | refine blk_drew ?_ | refine blk_alloc ?_ _)); refine blk_far ?_ NB287_295.out _; (with_reducible repeat (first | refine blk_drewN ?_ _ | refine blk_drew ?_ | refine blk_alloc ?_ _)); refine blk_far ?_ NB287_295.out _; (with_reducible repeat (first | refine blk_drewN ?_ _ | refine blk_drew ?_ | refine blk_alloc ?_ _)); exact BK287.out⟩, ⟨by (with_reducible repeat (first | refine blk_drewN ?_ _ | refine blk_drew ?_ | refine blk_alloc ?_ _)); refine blk_far ?_ NB288_295.out _; (with_reducible repeat (first | refine blk_drewN ?_ _ | refine blk_drew ?_ | refine blk_alloc ?_ _)); refine blk_far ?_ NB288_295.out _; (with_reducible repeat (first | refine blk_drewN ?_ _ | refine blk_drew ?_ | refine blk_alloc ?_ _)); exact BK288.out⟩, ⟨by (with_reducible repeat (first | refine blk_drewN ?_ _ | refine blk_drew ?_ | refine blk_alloc ?_ _)); refine blk_put (cs := #[.slice none 0 0, .int .i64 0]) ?_ 1 _ rfl; (with_reducible repeat (first | refine blk_drewN ?_ _ | refine blk_drew ?_ | refine blk_alloc ?_ _)); refine blk_put (cs := #[.slice none 0 0, .int .i64 0]) ?_ 0 _ rfl; (with_reducible repeat (first | refine blk_drewN ?_ _ | refine blk_drew ?_ | refine blk_alloc ?_ _)); exact BK295.out⟩, ⟨by repeat (first | (with_reducible first | exact HB.out | apply below_alloc | apply pw_below_drewN | apply below_drew1 | refine below_set ?_ GE287.out | refine below_set ?_ GE288.out | refine below_set ?_ GE295.out) | exact HB.out)⟩⟩
 case round =>
  clear H'
  try clear c1; try clear p2; try clear c3; try clear c4; try clear c7; try clear c13; try clear c14; try clear hcz11_0; try clear hcz11_1; try clear hcz15_0; try clear hcz15_1; try clear hcz8_0; try clear hcz8_1; try clear hfz11_0; try clear hfz11_1; try clear hfz15_0; try clear hfz15_1; try clear hfz8_0
  try clear hfz8_1
  obtain ⟨x6_1, x8_1, x296001_1, HA, HK1, HO_6, HO_8, BK287, BK288, BK295, HB⟩ := hrel
  cases gk with
  | zero => exact absurd HA.out (by simp [minecontrolref04_Feed.l0])
  | succ k1 =>
   have H := HA.out
   clear HA
   simp only [minecontrolref04_Feed.l0] at H
   by_cases c16 : (x6_1.length : Int) > 0
   ·
    rw [if_pos c16] at H
    have c16b0 : decide (0 < (x6_1.length : Int)) = true := decide_eq_true c16
    have c16b1 : decide (0 < x6_1.length) = true := decide_eq_true (by omega)
    clear c16
    have HC17 := Aside0.mk H
    clear H
    obtain ⟨Ao18, co18, eo18, _⟩ := Kd.Q_slice HO_6.out
    subst eo18
    go_upto_region 5 with (fail)
    go_cut [36] (fun v36 wc => ∃ (kq : Nat) (x36_16 : Bool), v36 = .bool x36_16 ∧ Aside0 (minecontrolref04_Feed.j1 kq x6_1 x8_1 x36_16 x296001_1 = some (r1, r2, r3)) ∧ Aside0 (kq ≤ k1) ∧ Aside0 (Kd.Q (Kd.int .u8) 5 wc w.heap.size (fun _ => True) (.slice Ao18 x6_1.length co18) x6_1) ∧ Aside0 (Kd.S k24 24 wc w.heap.size (fun k_ => some k_ ≠ ((.slice Ao18 x6_1.length co18) : Value).ownBlock) u8 x8_1) ∧ Aside0 (wc.heap[gb287]? = some (.cells #[(.slice A0_0 l0_0.length c0_0), .int .i64 a0_1] 36 (0, 0))) ∧ Aside0 (wc.heap[gb288]? = some (.cells #[(.slice none 0 0), .int .i64 0] 36 (0, 0))) ∧ Aside0 (wc.heap[gb295]? = some (.cells #[(.slice none 0 0), .int .i64 x296001_1] 36 (0, 0))) ∧ Aside0 (Below w.heap.size w wc))
    case first =>
     have H := HC17.out
     clear HC17
     by_cases c19 : 0 < (x6_1.length : Int)
     rotate_left
     ·
      rw [if_neg c19] at H
      exact absurd H (by simp)
     rw [if_pos c19] at H
     have c19b0 : decide (0 < (x6_1.length : Int)) = true := decide_eq_true c19
     have c19b1 : decide (0 < x6_1.length) = true := decide_eq_true (by omega)
     clear c19
     (first | rw [c19b0] | (simp only [i64_w, i32_w]; rw [c19b0]) | skip)
     by_cases c20 : (rd x6_1 0) = 126
     ·
      rw [if_pos c20] at H
      have c20b0 : ((rd x6_1 0) == 126) = true := beq_iff_eq.mpr c20
      have c20b1 : ((rd x6_1 0) != 126) = false := bne_eq_false_iff_eq.mpr c20
      clear c20
      by_cases c21 : (x6_1.length : Int) > 1
      ·
       rw [if_pos c21] at H
       have c21b0 : decide (1 < (x6_1.length : Int)) = true := decide_eq_true c21
       have c21b1 : decide (1 < x6_1.length) = true := decide_eq_true (by omega)
       clear c21
       by_cases c22 : 1 < (x6_1.length : Int)
       rotate_left
       ·
        rw [if_neg c22] at H
        exact absurd H (by simp)
       rw [if_pos c22] at H
       have c22b0 : decide (1 < (x6_1.length : Int)) = true := decide_eq_true c22
       have c22b1 : decide (1 < x6_1.length) = true := decide_eq_true (by omega)
       clear c22
       have H' := Aside0.mk H
       clear H
       have p299 : 0 ≤ (0 : Int) := (by omega)
       have q299 : 0 < (x6_1.length : Int) := of_decide_eq_true (by first | (with_reducible assumption) | assumption)
       obtain ⟨ad299, e299, hx299_0⟩ := Kd.at_int (Kd.Q_reads' HO_6.out).2.2 0 p299 q299
       cases e299
       have qi299 : (0 < x6_1.length) = True := eq_true (by omega)
       (try rw [show ((0 : Int)).toNat = 0 from rfl] at hx299_0)
       (try rw [Addr.add_zero'] at hx299_0)
       replace p299 := eq_true p299
       replace q299 := eq_true q299
       have p300 : 0 ≤ (1 : Int) := (by omega)
       have q300 : 1 < (x6_1.length : Int) := of_decide_eq_true (by first | (with_reducible assumption) | assumption)
       obtain ⟨ad300, e300, hx300_0⟩ := Kd.at_int (Kd.Q_reads' HO_6.out).2.2 1 p300 q300
       obtain rfl : ad299 = ad300 := (by injection e300)
       (try simp only [show (1 : Int).toNat = 1 from rfl, Nat.reduceMul, Nat.reduceEqDiff, Go.Addr.add, ↓reduceIte] at hx300_0)
       have qi300 : (1 < x6_1.length) = True := eq_true (by omega)
       (try rw [show ((1 : Int)).toNat = 1 from rfl] at hx300_0)
       replace p300 := eq_true p300
       replace q300 := eq_true q300
       go_wp2
       go_meet
       case rel => exact ⟨_, (decide ((wrap64 (rd x6_1 1)) > 64)), (by first | rfl | (simp; done) | (simp [*]; done)), H', ⟨by have := HK1.out; first | omega | exact Nat.le_refl _⟩, ⟨by (with_reducible repeat (first | apply Kd.Q_alloc | apply Kd.Q_drewN | apply Kd.Q_drew)); exact HO_6.out⟩, ⟨by (with_reducible repeat (first | apply Kd.S_alloc | apply Kd.S_drewN | apply Kd.S_drew)); exact HO_8.out⟩, ⟨by (with_reducible repeat (first | refine blk_drewN ?_ _ | refine blk_drew ?_ | refine blk_alloc ?_ _)); exact BK287.out⟩, ⟨by (with_reducible repeat (first | refine blk_drewN ?_ _ | refine blk_drew ?_ | refine blk_alloc ?_ _)); exact BK288.out⟩, ⟨by (with_reducible repeat (first | refine blk_drewN ?_ _ | refine blk_drew ?_ | refine blk_alloc ?_ _)); exact BK295.out⟩, ⟨by repeat (first | (with_reducible first | exact HB.out | apply below_alloc | apply pw_below_drewN | apply below_drew1 | refine below_set ?_ GE287.out | refine below_set ?_ GE288.out | refine below_set ?_ GE295.out) | exact HB.out)⟩⟩
      ·
       rw [if_neg c21] at H
       have c21b0 : decide (1 < (x6_1.length : Int)) = false := decide_eq_false c21
       have c21b1 : decide (1 < x6_1.length) = false := decide_eq_false (by omega)
       clear c21
       have H' := Aside0.mk H
       clear H
       have p299 : 0 ≤ (0 : Int) := (by omega)
       have q299 : 0 < (x6_1.length : Int) := of_decide_eq_true (by first | (with_reducible assumption) | assumption)
       obtain ⟨ad299, e299, hx299_0⟩ := Kd.at_int (Kd.Q_reads' HO_6.out).2.2 0 p299 q299
       cases e299
       have qi299 : (0 < x6_1.length) = True := eq_true (by omega)
       (try rw [show ((0 : Int)).toNat = 0 from rfl] at hx299_0)
       (try rw [Addr.add_zero'] at hx299_0)
       replace p299 := eq_true p299
       replace q299 := eq_true q299
       go_wp2
       go_meet
       case rel => exact ⟨_, (false), (by first | rfl | (simp; done) | (simp [*]; done)), H', ⟨by have := HK1.out; first | omega | exact Nat.le_refl _⟩, ⟨by (with_reducible repeat (first | apply Kd.Q_alloc | apply Kd.Q_drewN | apply Kd.Q_drew)); exact HO_6.out⟩, ⟨by (with_reducible repeat (first | apply Kd.S_alloc | apply Kd.S_drewN | apply Kd.S_drew)); exact HO_8.out⟩, ⟨by (with_reducible repeat (first | refine blk_drewN ?_ _ | refine blk_drew ?_ | refine blk_alloc ?_ _)); exact BK287.out⟩, ⟨by (with_reducible repeat (first | refine blk_drewN ?_ _ | refine blk_drew ?_ | refine blk_alloc ?_ _)); exact BK288.out⟩, ⟨by (with_reducible repeat (first | refine blk_drewN ?_ _ | refine blk_drew ?_ | refine blk_alloc ?_ _)); exact BK295.out⟩, ⟨by repeat (first | (with_reducible first | exact HB.out | apply below_alloc | apply pw_below_drewN | apply below_drew1 | refine below_set ?_ GE287.out | refine below_set ?_ GE288.out | refine below_set ?_ GE295.out) | exact HB.out)⟩⟩
     ·
      rw [if_neg c20] at H
      have c20b0 : ((rd x6_1 0) == 126) = false := beq_eq_false_iff_ne.mpr c20
      have c20b1 : ((rd x6_1 0) != 126) = true := bne_iff_ne.mpr c20
      have H' := Aside0.mk H
      clear H
      have p299 : 0 ≤ (0 : Int) := (by omega)
      have q299 : 0 < (x6_1.length : Int) := of_decide_eq_true (by first | (with_reducible assumption) | assumption)
      obtain ⟨ad299, e299, hx299_0⟩ := Kd.at_int (Kd.Q_reads' HO_6.out).2.2 0 p299 q299
      cases e299
      have qi299 : (0 < x6_1.length) = True := eq_true (by omega)
      (try rw [show ((0 : Int)).toNat = 0 from rfl] at hx299_0)
      (try rw [Addr.add_zero'] at hx299_0)
      replace p299 := eq_true p299
      replace q299 := eq_true q299
      go_wp2
      go_meet
      case rel => exact ⟨_, (true), (by first | rfl | (simp; done) | (simp [*]; done)), H', ⟨by have := HK1.out; first | omega | exact Nat.le_refl _⟩, ⟨by (with_reducible repeat (first | apply Kd.Q_alloc | apply Kd.Q_drewN | apply Kd.Q_drew)); exact HO_6.out⟩, ⟨by (with_reducible repeat (first | apply Kd.S_alloc | apply Kd.S_drewN | apply Kd.S_drew)); exact HO_8.out⟩, ⟨by (with_reducible repeat (first | refine blk_drewN ?_ _ | refine blk_drew ?_ | refine blk_alloc ?_ _)); exact BK287.out⟩, ⟨by (with_reducible repeat (first | refine blk_drewN ?_ _ | refine blk_drew ?_ | refine blk_alloc ?_ _)); exact BK288.out⟩, ⟨by (with_reducible repeat (first | refine blk_drewN ?_ _ | refine blk_drew ?_ | refine blk_alloc ?_ _)); exact BK295.out⟩, ⟨by repeat (first | (with_reducible first | exact HB.out | apply below_alloc | apply pw_below_drewN | apply below_drew1 | refine below_set ?_ GE287.out | refine below_set ?_ GE288.out | refine below_set ?_ GE295.out) | exact HB.out)⟩⟩
    case rest =>
     clear HC17
     try clear c1; try clear c2; try clear p2; try clear q2; try clear hx2; try clear qi2; try clear c3; try clear p3; try clear q3; try clear hx3; try clear qi3; try clear c4; try clear p6; try clear c7; try clear c13; try clear c14; try clear c16; try clear c16b0; try clear c16b1; try clear c19; try clear c19b0
     try clear c19b1; try clear c20; try clear c20b0; try clear c20b1; try clear c21; try clear c21b0; try clear c21b1; try clear c22; try clear c22b0; try clear c22b1; try clear hcz11_0; try clear hcz11_1; try clear hcz15_0; try clear hcz15_1; try clear hcz8_0; try clear hcz8_1; try clear hfz11_0; try clear hfz11_1
     try clear hfz15_0; try clear hfz15_1; try clear hfz8_0; try clear hfz8_1; try clear hx299_0; try clear hx300_0; try clear p2; try clear p299; try clear p300; try clear q299; try clear q300
     obtain ⟨kq, x36_16, rfl, HA, HJ16, HO_6, HO_8, BK287, BK288, BK295, HB⟩ := hcut
     cases kq with
     | zero => exact absurd HA.out (by simp [minecontrolref04_Feed.j1])
     | succ kj16 =>
      have H := HA.out
      clear HA
      simp only [minecontrolref04_Feed.j1] at H
      by_cases c23 : x36_16 = true
      ·
       subst c23
       have H1 : (if 1 ≤ (x6_1.length : Int) then (minecontrolref04_Feed.l0 kj16 (x6_1.drop (1 : Int).toNat) x8_1 (wrap64 (x296001_1 + 1))) else (none)) = some (r1, r2, r3) := by rw [if_pos rfl] at H; exact H
       clear H
       have H := H1
       clear H1
       by_cases c24 : 1 ≤ (x6_1.length : Int)
       rotate_left
       ·
        rw [if_neg c24] at H
        exact absurd H (by simp)
       rw [if_pos c24] at H
       have c24b0 := eq_true c24
       have c24b1 : decide (1 ≤ (x6_1.length : Int)) = true := decide_eq_true c24
       clear c24
       obtain ⟨y301, hy301⟩ : ∃ y_ : List Int, y_ = (x6_1.drop (1 : Int).toNat) := ⟨_, rfl⟩
       replace H : (minecontrolref04_Feed.l0 kj16 y301 x8_1 (wrap64 (x296001_1 + 1))) = some (r1, r2, r3) := by first | (rw [hy301]; with_reducible exact H) | (have H2_ := (Option.bind_some _ _).symm.trans H; rw [hy301]; with_reducible exact H2_) | (have H2_ := (Option.bind_some _ _).symm.trans H; with_reducible exact H2_) | with_reducible exact H | (rw [hy301]; exact H) | exact H
       have Ny301 := Aside0.mk hy301
       clear hy301
       have H' := Aside0.mk H
       clear H
       have q25 : (1 : Int) ≤ ((x6_1.length : Int) : Int) := of_decide_eq_true (by first | (with_reducible assumption) | assumption)
       obtain ⟨i025, hi025, _, hsz25, _⟩ := info_parts info5
       have hcut25 := cut_from (P := Try.prog) 22 5 .i64 Try.underlying22 hi025 1 hsz25 Ao18 x6_1.length co18 1 (by omega) q25
       have hr25 := Kd.Q_drop (k := (1 : Int).toNat) HO_6.out (by omega)
       obtain ⟨A25, hA25⟩ : ∃ A1, A1 = (if co18 = (1 : Int).toNat then Ao18 else (Ao18 : Option Addr).map (·.add ((1 : Int).toNat * 1))) := ⟨_, rfl⟩
       obtain ⟨c25, hc25⟩ : ∃ c1, c1 = co18 - (1 : Int).toNat := ⟨_, rfl⟩
       have hy25 : y301.length = x6_1.length - (1 : Int).toNat := (by rw [Ny301.out, List.length_drop])
       rw [← Ny301.out] at hr25
       rw [← hy25, ← hA25, ← hc25] at hcut25
       replace hr25 : Kd.Q (Kd.int .u8) 5 wc w.heap.size (fun _ => True) (.slice A25 y301.length c25) y301 := (by rw [hA25, hc25, hy25]; exact hr25)
       have HE25 : Aside0 ((Value.slice A25 y301.length c25).ownBlock = (.slice Ao18 x6_1.length co18 : Value).ownBlock) := ⟨by rw [hA25]; split <;> (first | rfl | (simp only [Option.map_some, Value.ownBlock, add_block]; done) | (cases (Ao18 : Option Addr) <;> first | rfl | (simp [Value.ownBlock, add_block]; done)))⟩
       clear hy25 hi025 hsz25 HO_6 hA25 hc25
       have HO303 := Aside0.mk hr25
       clear hr25
       replace q25 := eq_true q25
       have n_ := Aside0.mk (Kd.S_mono (ok' := fun k_ => some k_ ≠ (.slice A25 y301.length c25 : Value).ownBlock) HO_8.out (fun k_ hk => (by rw [HE25.out]; exact hk)))
       clear HO_8
       have HO_8 := n_
       clear n_
       have hnb26 := NB295_287.out
       have hnc26 := NB287_295.out
       have hnb27 := NB295_288.out
       have hnc27 := NB288_295.out
       have hcz28_0 : wc.cell? ⟨gb295, 0, none⟩ = some (.slice none 0 0) := (blk_cell BK295.out 0).trans rfl
       have hcz28_1 : wc.cell? ⟨gb295, 1, none⟩ = some (.int .i64 x296001_1) := (blk_cell BK295.out 1).trans rfl
       have hfz28_0 := blk_frozen BK295.out 0
       have hfz28_1 := blk_frozen BK295.out 1
       go_wp2
       go_roundg kj16
       case measure => have := HK1.out; have := HJ16.out; omega
       case rel => exact ⟨(y301), (x8_1), (wrap64 (x296001_1 + 1)), H', ⟨by have := HK1.out; have := HJ16.out; omega⟩, ⟨by (with_reducible repeat (first | apply Kd.Q_alloc | apply Kd.Q_drewN | apply Kd.Q_drew)); exact Kd.Q_mono (Kd.Q_far (p := ⟨gb295, 1, none⟩) (Kd.Q_types HO303.out BK295.out (by decide)) (fun _ hk => hk.2) (.int .i64 (wrap64 (x296001_1 + 1)))) (fun _ hk => trivial)⟩, ⟨by (with_reducible repeat (first | apply Kd.S_alloc | apply Kd.S_drewN | apply Kd.S_drew)); exact Kd.S_mono (Kd.S_far (p := ⟨gb295, 1, none⟩) (Kd.S_types HO_8.out BK295.out (by decide)) (fun _ hk => hk.2) (.int .i64 (wrap64 (x296001_1 + 1)))) (fun _ hk => hk.1)⟩, ⟨by (with_reducible repeat (first | refine blk_drewN ?_ _ | refine blk_drew ?_ | refine blk_alloc ?_ _)); refine blk_far ?_ NB287_295.out _; (with_reducible repeat (first | refine blk_drewN ?_ _ | refine blk_drew ?_ | refine blk_alloc ?_ _)); exact BK287.out⟩, ⟨by (with_reducible repeat (first | refine blk_drewN ?_ _ | refine blk_drew ?_ | refine blk_alloc ?_ _)); refine blk_far ?_ NB288_295.out _; (with_reducible repeat (first | refine blk_drewN ?_ _ | refine blk_drew ?_ | refine blk_alloc ?_ _)); exact BK288.out⟩, ⟨by (with_reducible repeat (first | refine blk_drewN ?_ _ | refine blk_drew ?_ | refine blk_alloc ?_ _)); refine blk_put (cs := #[.slice none 0 0, .int .i64 x296001_1]) ?_ 1 _ rfl; (with_reducible repeat (first | refine blk_drewN ?_ _ | refine blk_drew ?_ | refine blk_alloc ?_ _)); exact BK295.out⟩, ⟨by repeat (first | (with_reducible first | exact HB.out | apply below_alloc | apply pw_below_drewN | apply below_drew1 | refine below_set ?_ GE287.out | refine below_set ?_ GE288.out | refine below_set ?_ GE295.out) | exact HB.out)⟩⟩
      ·
       replace c23 := Bool.eq_false_iff.mpr c23
       subst c23
       have H1 : (if (x6_1.length : Int) < 2 then (minecontrolref04_Feed.j2 kj16 x6_1 x8_1 true x296001_1) else (if 1 < (x6_1.length : Int) then (minecontrolref04_Feed.j2 kj16 x6_1 x8_1 (decide ((x6_1.length : Int) < (wrap64 (6 + (wrap64 (rd x6_1 1)))))) x296001_1) else (none))) = some (r1, r2, r3) := by rw [if_neg (show ¬ (false = true) by decide)] at H; exact H
       clear H
       have H := H1
       clear H1
       have HC29 := Aside0.mk H
       clear H
       go_upto_region 8 with (fail)
       go_cut [55] (fun v55 wc => ∃ (kq : Nat) (x55_28 : Bool), v55 = .bool x55_28 ∧ Aside0 (minecontrolref04_Feed.j2 kq x6_1 x8_1 x55_28 x296001_1 = some (r1, r2, r3)) ∧ Aside0 (kq ≤ kj16) ∧ Aside0 (Kd.Q (Kd.int .u8) 5 wc w.heap.size (fun _ => True) (.slice Ao18 x6_1.length co18) x6_1) ∧ Aside0 (Kd.S k24 24 wc w.heap.size (fun k_ => some k_ ≠ ((.slice Ao18 x6_1.length co18) : Value).ownBlock) u8 x8_1) ∧ Aside0 (wc.heap[gb287]? = some (.cells #[(.slice A0_0 l0_0.length c0_0), .int .i64 a0_1] 36 (0, 0))) ∧ Aside0 (wc.heap[gb288]? = some (.cells #[(.slice none 0 0), .int .i64 0] 36 (0, 0))) ∧ Aside0 (wc.heap[gb295]? = some (.cells #[(.slice none 0 0), .int .i64 x296001_1] 36 (0, 0))) ∧ Aside0 (Below w.heap.size w wc))
       case first =>
        have H := HC29.out
        clear HC29
        by_cases c30 : (x6_1.length : Int) < 2
        ·
         rw [if_pos c30] at H
         have c30b0 : decide ((x6_1.length : Int) < 2) = true := decide_eq_true c30
         have c30b1 : decide (x6_1.length < 2) = true := decide_eq_true (by omega)
         clear c30
         (first | rw [c30b0] | (simp only [i64_w, i32_w]; rw [c30b0]) | skip)
         have H' := Aside0.mk H
         clear H
         go_wp2
         go_meet
         case rel => exact ⟨_, (true), (by first | rfl | (simp; done) | (simp [*]; done)), H', ⟨by have := HK1.out; have := HJ16.out; first | omega | exact Nat.le_refl _⟩, ⟨by (with_reducible repeat (first | apply Kd.Q_alloc | apply Kd.Q_drewN | apply Kd.Q_drew)); exact HO_6.out⟩, ⟨by (with_reducible repeat (first | apply Kd.S_alloc | apply Kd.S_drewN | apply Kd.S_drew)); exact HO_8.out⟩, ⟨by (with_reducible repeat (first | refine blk_drewN ?_ _ | refine blk_drew ?_ | refine blk_alloc ?_ _)); exact BK287.out⟩, ⟨by (with_reducible repeat (first | refine blk_drewN ?_ _ | refine blk_drew ?_ | refine blk_alloc ?_ _)); exact BK288.out⟩, ⟨by (with_reducible repeat (first | refine blk_drewN ?_ _ | refine blk_drew ?_ | refine blk_alloc ?_ _)); exact BK295.out⟩, ⟨by repeat (first | (with_reducible first | exact HB.out | apply below_alloc | apply pw_below_drewN | apply below_drew1 | refine below_set ?_ GE287.out | refine below_set ?_ GE288.out | refine below_set ?_ GE295.out) | exact HB.out)⟩⟩
        ·
         rw [if_neg c30] at H
         have c30b0 : decide ((x6_1.length : Int) < 2) = false := decide_eq_false c30
         have c30b1 : decide (x6_1.length < 2) = false := decide_eq_false (by omega)
         clear c30
         (first | rw [c30b0] | (simp only [i64_w, i32_w]; rw [c30b0]) | skip)
         by_cases c31 : 1 < (x6_1.length : Int)
         rotate_left
         ·
          rw [if_neg c31] at H
          exact absurd H (by simp)
         rw [if_pos c31] at H
         have c31b0 : decide (1 < (x6_1.length : Int)) = true := decide_eq_true c31
         have c31b1 : decide (1 < x6_1.length) = true := decide_eq_true (by omega)
         clear c31
         have H' := Aside0.mk H
         clear H
         have p304 : 0 ≤ (1 : Int) := (by omega)
         have q304 : 1 < (x6_1.length : Int) := of_decide_eq_true (by first | (with_reducible assumption) | assumption)
         obtain ⟨ad304, e304, hx304_0⟩ := Kd.at_int (Kd.Q_reads' HO_6.out).2.2 1 p304 q304
         cases e304
         (try simp only [show (1 : Int).toNat = 1 from rfl, Nat.reduceMul, Nat.reduceEqDiff, Go.Addr.add, ↓reduceIte] at hx304_0)
         have qi304 : (1 < x6_1.length) = True := eq_true (by omega)
         (try rw [show ((1 : Int)).toNat = 1 from rfl] at hx304_0)
         replace p304 := eq_true p304
         replace q304 := eq_true q304
         go_wp2
         go_meet
         case rel => exact ⟨_, (decide ((x6_1.length : Int) < (wrap64 (6 + (wrap64 (rd x6_1 1)))))), (by first | rfl | (simp; done) | (simp [*]; done)), H', ⟨by have := HK1.out; have := HJ16.out; first | omega | exact Nat.le_refl _⟩, ⟨by (with_reducible repeat (first | apply Kd.Q_alloc | apply Kd.Q_drewN | apply Kd.Q_drew)); exact HO_6.out⟩, ⟨by (with_reducible repeat (first | apply Kd.S_alloc | apply Kd.S_drewN | apply Kd.S_drew)); exact HO_8.out⟩, ⟨by (with_reducible repeat (first | refine blk_drewN ?_ _ | refine blk_drew ?_ | refine blk_alloc ?_ _)); exact BK287.out⟩, ⟨by (with_reducible repeat (first | refine blk_drewN ?_ _ | refine blk_drew ?_ | refine blk_alloc ?_ _)); exact BK288.out⟩, ⟨by (with_reducible repeat (first | refine blk_drewN ?_ _ | refine blk_drew ?_ | refine blk_alloc ?_ _)); exact BK295.out⟩, ⟨by repeat (first | (with_reducible first | exact HB.out | apply below_alloc | apply pw_below_drewN | apply below_drew1 | refine below_set ?_ GE287.out | refine below_set ?_ GE288.out | refine below_set ?_ GE295.out) | exact HB.out)⟩⟩
       case rest =>
        clear HC29
        try clear c1; try clear c2; try clear p2; try clear q2; try clear hx2; try clear qi2; try clear c3; try clear p3; try clear q3; try clear hx3; try clear qi3; try clear c4; try clear p6; try clear c7; try clear c13; try clear c14; try clear c16; try clear c16b0; try clear c16b1; try clear c19; try clear c19b0
        try clear c19b1; try clear c20; try clear c20b0; try clear c20b1; try clear c21; try clear c21b0; try clear c21b1; try clear c22; try clear c22b0; try clear c22b1; try clear c23; try clear c24; try clear c24b0; try clear c24b1; try clear c25; try clear q25; try clear c26; try clear c27; try clear p29
        try clear q29; try clear hx29; try clear qi29; try clear c30; try clear c30b0; try clear c30b1; try clear p30; try clear q30; try clear hx30; try clear qi30; try clear c31; try clear c31b0; try clear c31b1; try clear hcz11_0; try clear hcz11_1; try clear hcz15_0; try clear hcz15_1; try clear hcz28_0
        try clear hcz28_1; try clear hcz8_0; try clear hcz8_1; try clear hfz11_0; try clear hfz11_1; try clear hfz15_0; try clear hfz15_1; try clear hfz28_0; try clear hfz28_1; try clear hfz8_0; try clear hfz8_1; try clear hx299_0; try clear hx300_0; try clear hx304_0; try clear p2; try clear p299; try clear p3
        try clear p300; try clear p304; try clear p6; try clear q2; try clear q25; try clear q299; try clear q3; try clear q300; try clear q304
        obtain ⟨kq, x55_28, rfl, HA, HJ28, HO_6, HO_8, BK287, BK288, BK295, HB⟩ := hcut
        cases kq with
        | zero => exact absurd HA.out (by simp [minecontrolref04_Feed.j2])
        | succ kj28 =>
         have H := HA.out
         clear HA
         simp only [minecontrolref04_Feed.j2] at H
         by_cases c32 : x55_28 = true
         ·
          subst c32
          have H1 : (if ([] : List Int).length + x6_1.length < 140737488355328 then (some ((([] : List Int) ++ x6_1), x296001_1, x8_1)) else (none)) = some (r1, r2, r3) := by rw [if_pos rfl] at H; exact H
          clear H
          have H := H1
          clear H1
          by_cases c33 : ([] : List Int).length + x6_1.length < 140737488355328
          rotate_left
          ·
           rw [if_neg c33] at H
           exact absurd H (by simp)
          rw [if_pos c33] at H
          have LMc33 := Aside0.mk c33
          clear c33
          obtain ⟨y305, hy305⟩ : ∃ y_ : List Int, y_ = (([] : List Int) ++ x6_1) := ⟨_, rfl⟩
          replace H : (some (y305, x296001_1, x8_1)) = some (r1, r2, r3) := by first | (rw [hy305]; with_reducible exact H) | (have H2_ := (Option.bind_some _ _).symm.trans H; rw [hy305]; with_reducible exact H2_) | (have H2_ := (Option.bind_some _ _).symm.trans H; with_reducible exact H2_) | with_reducible exact H | (rw [hy305]; exact H) | exact H
          have Ny305 := Aside0.mk hy305
          clear hy305
          simp only [Option.some.injEq, Prod.mk.injEq] at H
          obtain ⟨rfl, rfl, rfl⟩ := H
          go_wp2_with (first | ((with_reducible refine gate_builtin (b := .append) (xs := #[.const (.slice none 0 0), .tmp 107]) rfl ?_); (try (refine gate_guard (by rfl) ?_; dsimp only)); at_builtin; refine Kd.R_append_rows (Kd.int .u8) (w0 := w) w.heap.size rfl (.const (.slice none 0 0)) (.tmp 107) 22 5 (.int .u8 0) 1 rfl Try.underlying22 info5 rfl (by decide) (by omega) (.slice none 0 0) ([] : List Int) x6_1 _ _ _ (fun k_ => some k_ ≠ (.slice Ao18 x6_1.length co18 : Value).ownBlock) (fun _ => False) rfl rfl ?aO ?aR (fun _ _ h => h) (fun _ h => h.elim) ?aF ?aB ?aS ?aL ?_; (case aR => repeat (first | exact (Kd.Q_reads' HO_6.out).2.2 | (with_reducible refine Kd.C_alloc ?_ _) | (with_reducible refine Kd.C_drewN ?_ _) | (with_reducible refine Kd.C_drew ?_))); (case aB => exact (by repeat (first | (with_reducible first | exact HB.out | apply below_alloc | apply pw_below_drewN | apply below_drew1 | refine below_set ?_ GE287.out | refine below_set ?_ GE288.out | refine below_set ?_ GE295.out) | exact HB.out))); (case aF => exact (fun k_ hk => Kd.fresh' (Kd.Q_lt (by (with_reducible repeat (first | apply Kd.Q_alloc | apply Kd.Q_drewN | apply Kd.Q_drew)); exact HO_6.out)) k_ hk)); (case aO => exact ((Kd.R_nil _ _ _ _ (fun k_ => some k_ ≠ (.slice Ao18 x6_1.length co18 : Value).ownBlock)))); (case aS => exact (below_size (by repeat (first | (with_reducible first | exact HB.out | apply below_alloc | apply pw_below_drewN | apply below_drew1 | refine below_set ?_ GE287.out | refine below_set ?_ GE288.out | refine below_set ?_ GE295.out) | exact HB.out)))); (case aL => have := LMc33.out; omega); intro v306 w34 ho hb hg hat; rw [← Ny305.out] at ho; have n0_ := Aside0.mk (Kd.Q_after (Kd.Q_apart_nil (by (with_reducible repeat (first | apply Kd.Q_alloc | apply Kd.Q_drewN | apply Kd.Q_drew)); exact HO_6.out)) hg hat); have n1_ := Aside0.mk (Kd.S_after (Kd.S_apart_nil (by (with_reducible repeat (first | apply Kd.S_alloc | apply Kd.S_drewN | apply Kd.S_drew)); exact HO_8.out)) hg hat); have n2_ := Aside0.mk (blk_grown (g := gb287) (o := .cells #[.slice A0_0 l0_0.length c0_0, .int .i64 a0_1] 36 (0, 0)) (by (with_reducible repeat (first | refine blk_drewN ?_ _ | refine blk_drew ?_ | refine blk_alloc ?_ _)); exact BK287.out) hg (by simp [Value.ownBlock])); have n3_ := Aside0.mk (blk_grown (g := gb288) (o := .cells #[.slice none 0 0, .int .i64 0] 36 (0, 0)) (by (with_reducible repeat (first | refine blk_drewN ?_ _ | refine blk_drew ?_ | refine blk_alloc ?_ _)); exact BK288.out) hg (by simp [Value.ownBlock])); have n4_ := Aside0.mk (blk_grown (g := gb295) (o := .cells #[.slice none 0 0, .int .i64 x296001_1] 36 (0, 0)) (by (with_reducible repeat (first | refine blk_drewN ?_ _ | refine blk_drew ?_ | refine blk_alloc ?_ _)); exact BK295.out) hg (by simp [Value.ownBlock])); have n5_ := Aside0.mk (hb); have n6_ := Aside0.mk (ho); clear HO_6; clear HO_8; clear BK287; clear BK288; clear BK295; clear HB; have HO_6 := n0_; have HO_8 := n1_; have BK287 := n2_; have BK288 := n3_; have BK295 := n4_; have HB := n5_; have HO307 := n6_; clear n0_ n1_ n2_ n3_ n4_ n5_ n6_; clear ho hb hg hat; obtain ⟨Ao35, co35, eo35⟩ := Kd.R_slice HO307.out; subst eo35; have hnb36 := NB295_287.out; have hnc36 := NB287_295.out; have hnb37 := NB295_288.out; have hnc37 := NB288_295.out; have hcz38_0 : w34.cell? ⟨gb295, 0, none⟩ = some (.slice none 0 0) := (blk_cell BK295.out 0).trans rfl; have hcz38_1 : w34.cell? ⟨gb295, 1, none⟩ = some (.int .i64 x296001_1) := (blk_cell BK295.out 1).trans rfl; have hfz38_0 := blk_frozen BK295.out 0; have hfz38_1 := blk_frozen BK295.out 1; have hnb39 := NB288_287.out; have hnc39 := NB287_288.out; have hcz40_0 : w34.cell? ⟨gb288, 0, none⟩ = some (.slice none 0 0) := (blk_cell BK288.out 0).trans rfl; have hcz40_1 : w34.cell? ⟨gb288, 1, none⟩ = some (.int .i64 0) := (blk_cell BK288.out 1).trans rfl; have hfz40_0 := blk_frozen BK288.out 0; have hfz40_1 := blk_frozen BK288.out 1))
          refine bodyPost_ret (results_ct rfl _ _ gb288 36 #[.slice Ao35 y305.length co35, .int .i64 x296001_1] (0, 0) _ rfl (by (with_reducible repeat (first | refine blk_drewN ?_ _ | refine blk_drew ?_ | refine blk_alloc ?_ _)); refine blk_put (cs := #[.slice Ao35 y305.length co35, .int .i64 0]) ?_ 1 _ rfl; (with_reducible repeat (first | refine blk_drewN ?_ _ | refine blk_drew ?_ | refine blk_alloc ?_ _)); refine blk_put (cs := #[.slice none 0 0, .int .i64 0]) ?_ 0 _ rfl; (with_reducible repeat (first | refine blk_drewN ?_ _ | refine blk_drew ?_ | refine blk_alloc ?_ _)); refine blk_far ?_ NB288_295.out _; (with_reducible repeat (first | refine blk_drewN ?_ _ | refine blk_drew ?_ | refine blk_alloc ?_ _)); exact BK288.out) Try.underlying36 rfl (by kernel_rfl)) rfl ?_
          exact ⟨_, _, by first | rfl | (simp [errW_none, errW_some] <;> rfl) | (simp [*, errW_none, errW_some] <;> rfl), by (with_reducible repeat (first | apply Kd.R_alloc | apply Kd.R_drewN | apply Kd.R_drew)); exact Kd.R_mono (Kd.R_far (p := ⟨gb288, 1, none⟩) (Kd.R_far (p := ⟨gb288, 0, none⟩) (Kd.R_far (p := ⟨gb295, 0, none⟩) (Kd.R_types (Kd.R_types HO307.out BK295.out (by decide)) BK288.out (by decide)) (fun _ hk => hk.1.2) (.slice Ao35 y305.length co35)) (fun _ hk => hk.2) (.slice Ao35 y305.length co35)) (fun _ hk => hk.2) (.int .i64 x296001_1)) (fun _ hk => trivial), by (with_reducible repeat (first | apply Kd.S_alloc | apply Kd.S_drewN | apply Kd.S_drew)); exact Kd.S_mono (Kd.S_far (p := ⟨gb288, 1, none⟩) (Kd.S_far (p := ⟨gb288, 0, none⟩) (Kd.S_far (p := ⟨gb295, 0, none⟩) (Kd.S_types (Kd.S_types HO_8.out BK295.out (by decide)) BK288.out (by decide)) (fun _ hk => hk.1.2) (.slice Ao35 y305.length co35)) (fun _ hk => hk.2) (.slice Ao35 y305.length co35)) (fun _ hk => hk.2) (.int .i64 x296001_1)) (fun _ hk => hk.1.1.2), by repeat (first | (with_reducible first | exact HB.out | apply below_alloc | apply pw_below_drewN | apply below_drew1 | refine below_set ?_ GE287.out | refine below_set ?_ GE288.out | refine below_set ?_ GE295.out) | exact HB.out)⟩
         ·
          replace c32 := Bool.eq_false_iff.mpr c32
          subst c32
          have H1 : (if 1 < (x6_1.length : Int) then (if 1 ≤ (wrap64 (4 + (wrap64 (rd x6_1 1)))) then (if (wrap64 (4 + (wrap64 (rd x6_1 1)))) ≤ (x6_1.length : Int) then ((minecontrolref04_Check.f kj28 ((x6_1.take ((wrap64 (4 + (wrap64 (rd x6_1 1)))) : Int).toNat).drop 1)).bind fun t313 => (if 0 ≤ (wrap64 (4 + (wrap64 (rd x6_1 1)))) then (if (wrap64 (4 + (wrap64 (rd x6_1 1)))) < (x6_1.length : Int) then (if 0 ≤ (wrap64 (5 + (wrap64 (rd x6_1 1)))) then (if (wrap64 (5 + (wrap64 (rd x6_1 1)))) < (x6_1.length : Int) then (if t313 = (Go.bits .or .i64 (wrap64 ((wrap64 (rd x6_1 (wrap64 (4 + (wrap64 (rd x6_1 1)))))) * 256)) (wrap64 (rd x6_1 (wrap64 (5 + (wrap64 (rd x6_1 1))))))) then (if 2 < (x6_1.length : Int) then (if 3 < (x6_1.length : Int) then (if 4 ≤ (wrap64 (4 + (wrap64 (rd x6_1 1)))) then ((some ((x6_1.take ((wrap64 (4 + (wrap64 (rd x6_1 1)))) : Int).toNat).drop 4 : List Int)).bind fun y318 => (if ([] : List Int).length + y318.length < 140737488355328 then (if x8_1.length < 3518437208883 then (if 0 ≤ (wrap64 (6 + (wrap64 (rd x6_1 1)))) then (if (wrap64 (6 + (wrap64 (rd x6_1 1)))) ≤ (x6_1.length : Int) then (minecontrolref04_Feed.l0 kj28 (x6_1.drop ((wrap64 (6 + (wrap64 (rd x6_1 1)))) : Int).toNat) (x8_1 ++ [(⟨wrap64 (rd x6_1 2), wrap64 (rd x6_1 3), (([] : List Int) ++ y318)⟩ : S24)]) x296001_1) else (none)) else (none)) else (none)) else (none))) else (none)) else (none)) else (none)) else (if 1 ≤ (x6_1.length : Int) then (minecontrolref04_Feed.l0 kj28 (x6_1.drop (1 : Int).toNat) x8_1 (wrap64 (x296001_1 + 1))) else (none))) else (none)) else (none)) else (none)) else (none))) else (none)) else (none)) else (none)) = some (r1, r2, r3) := by rw [if_neg (show ¬ (false = true) by decide)] at H; exact H
          clear H
          have H := H1
          clear H1
          by_cases c41 : 1 < (x6_1.length : Int)
          rotate_left
          ·
           rw [if_neg c41] at H
           exact absurd H (by simp)
          rw [if_pos c41] at H
          have c41b0 : decide (1 < (x6_1.length : Int)) = true := decide_eq_true c41
          have c41b1 : decide (1 < x6_1.length) = true := decide_eq_true (by omega)
          clear c41
          by_cases c42 : 1 ≤ (wrap64 (4 + (wrap64 (rd x6_1 1))))
          rotate_left
          ·
           rw [if_neg c42] at H
           exact absurd H (by simp)
          rw [if_pos c42] at H
          have c42b0 := eq_true c42
          have c42b1 : decide (1 ≤ (wrap64 (4 + (wrap64 (rd x6_1 1))))) = true := decide_eq_true c42
          by_cases c43 : (wrap64 (4 + (wrap64 (rd x6_1 1)))) ≤ (x6_1.length : Int)
          rotate_left
          ·
           rw [if_neg c43] at H
           exact absurd H (by simp)
          rw [if_pos c43] at H
          have c43b0 := eq_true c43
          have c43b1 : decide ((wrap64 (4 + (wrap64 (rd x6_1 1)))) ≤ (x6_1.length : Int)) = true := decide_eq_true c43
          obtain ⟨y309, hy309⟩ : ∃ y_ : List Int, y_ = ((x6_1.take ((wrap64 (4 + (wrap64 (rd x6_1 1)))) : Int).toNat).drop 1) := ⟨_, rfl⟩
          replace H : ((minecontrolref04_Check.f kj28 y309).bind fun t313 => (if 0 ≤ (wrap64 (4 + (wrap64 (rd x6_1 1)))) then (if (wrap64 (4 + (wrap64 (rd x6_1 1)))) < (x6_1.length : Int) then (if 0 ≤ (wrap64 (5 + (wrap64 (rd x6_1 1)))) then (if (wrap64 (5 + (wrap64 (rd x6_1 1)))) < (x6_1.length : Int) then (if t313 = (Go.bits .or .i64 (wrap64 ((wrap64 (rd x6_1 (wrap64 (4 + (wrap64 (rd x6_1 1)))))) * 256)) (wrap64 (rd x6_1 (wrap64 (5 + (wrap64 (rd x6_1 1))))))) then (if 2 < (x6_1.length : Int) then (if 3 < (x6_1.length : Int) then (if 4 ≤ (wrap64 (4 + (wrap64 (rd x6_1 1)))) then ((some ((x6_1.take ((wrap64 (4 + (wrap64 (rd x6_1 1)))) : Int).toNat).drop 4 : List Int)).bind fun y318 => (if ([] : List Int).length + y318.length < 140737488355328 then (if x8_1.length < 3518437208883 then (if 0 ≤ (wrap64 (6 + (wrap64 (rd x6_1 1)))) then (if (wrap64 (6 + (wrap64 (rd x6_1 1)))) ≤ (x6_1.length : Int) then (minecontrolref04_Feed.l0 kj28 (x6_1.drop ((wrap64 (6 + (wrap64 (rd x6_1 1)))) : Int).toNat) (x8_1 ++ [(⟨wrap64 (rd x6_1 2), wrap64 (rd x6_1 3), (([] : List Int) ++ y318)⟩ : S24)]) x296001_1) else (none)) else (none)) else (none)) else (none))) else (none)) else (none)) else (none)) else (if 1 ≤ (x6_1.length : Int) then (minecontrolref04_Feed.l0 kj28 (x6_1.drop (1 : Int).toNat) x8_1 (wrap64 (x296001_1 + 1))) else (none))) else (none)) else (none)) else (none)) else (none))) = some (r1, r2, r3) := by first | (rw [hy309]; with_reducible exact H) | (have H2_ := (Option.bind_some _ _).symm.trans H; rw [hy309]; with_reducible exact H2_) | (have H2_ := (Option.bind_some _ _).symm.trans H; with_reducible exact H2_) | with_reducible exact H | (rw [hy309]; exact H) | exact H
          have Ny309 := Aside0.mk hy309
          clear hy309
          replace H := Option.bind_eq_some_iff.mp H
          obtain ⟨t313, A440, H⟩ := H
          replace H : (if 0 ≤ (wrap64 (4 + (wrap64 (rd x6_1 1)))) then (if (wrap64 (4 + (wrap64 (rd x6_1 1)))) < (x6_1.length : Int) then (if 0 ≤ (wrap64 (5 + (wrap64 (rd x6_1 1)))) then (if (wrap64 (5 + (wrap64 (rd x6_1 1)))) < (x6_1.length : Int) then (if t313 = (Go.bits .or .i64 (wrap64 ((wrap64 (rd x6_1 (wrap64 (4 + (wrap64 (rd x6_1 1)))))) * 256)) (wrap64 (rd x6_1 (wrap64 (5 + (wrap64 (rd x6_1 1))))))) then (if 2 < (x6_1.length : Int) then (if 3 < (x6_1.length : Int) then (if 4 ≤ (wrap64 (4 + (wrap64 (rd x6_1 1)))) then ((some ((x6_1.take ((wrap64 (4 + (wrap64 (rd x6_1 1)))) : Int).toNat).drop 4 : List Int)).bind fun y318 => (if ([] : List Int).length + y318.length < 140737488355328 then (if x8_1.length < 3518437208883 then (if 0 ≤ (wrap64 (6 + (wrap64 (rd x6_1 1)))) then (if (wrap64 (6 + (wrap64 (rd x6_1 1)))) ≤ (x6_1.length : Int) then (minecontrolref04_Feed.l0 kj28 (x6_1.drop ((wrap64 (6 + (wrap64 (rd x6_1 1)))) : Int).toNat) (x8_1 ++ [(⟨wrap64 (rd x6_1 2), wrap64 (rd x6_1 3), (([] : List Int) ++ y318)⟩ : S24)]) x296001_1) else (none)) else (none)) else (none)) else (none))) else (none)) else (none)) else (none)) else (if 1 ≤ (x6_1.length : Int) then (minecontrolref04_Feed.l0 kj28 (x6_1.drop (1 : Int).toNat) x8_1 (wrap64 (x296001_1 + 1))) else (none))) else (none)) else (none)) else (none)) else (none)) = some (r1, r2, r3) := H
          have A44 := Aside0.mk A440
          clear A440
          obtain ⟨ji45, hji45⟩ : ∃ j_ : Int, (wrap64 (4 + (wrap64 (rd x6_1 1)))) = j_ := ⟨_, rfl⟩
          replace H : (if 0 ≤ (ji45) then (if (ji45) < (x6_1.length : Int) then (if 0 ≤ (wrap64 (5 + (wrap64 (rd x6_1 1)))) then (if (wrap64 (5 + (wrap64 (rd x6_1 1)))) < (x6_1.length : Int) then (if t313 = (Go.bits .or .i64 (wrap64 ((wrap64 (rd x6_1 (ji45))) * 256)) (wrap64 (rd x6_1 (wrap64 (5 + (wrap64 (rd x6_1 1))))))) then (if 2 < (x6_1.length : Int) then (if 3 < (x6_1.length : Int) then (if 4 ≤ (ji45) then ((some ((x6_1.take ((ji45) : Int).toNat).drop 4 : List Int)).bind fun y318 => (if ([] : List Int).length + y318.length < 140737488355328 then (if x8_1.length < 3518437208883 then (if 0 ≤ (wrap64 (6 + (wrap64 (rd x6_1 1)))) then (if (wrap64 (6 + (wrap64 (rd x6_1 1)))) ≤ (x6_1.length : Int) then (minecontrolref04_Feed.l0 kj28 (x6_1.drop ((wrap64 (6 + (wrap64 (rd x6_1 1)))) : Int).toNat) (x8_1 ++ [(⟨wrap64 (rd x6_1 2), wrap64 (rd x6_1 3), (([] : List Int) ++ y318)⟩ : S24)]) x296001_1) else (none)) else (none)) else (none)) else (none))) else (none)) else (none)) else (none)) else (if 1 ≤ (x6_1.length : Int) then (minecontrolref04_Feed.l0 kj28 (x6_1.drop (1 : Int).toNat) x8_1 (wrap64 (x296001_1 + 1))) else (none))) else (none)) else (none)) else (none)) else (none)) = some (r1, r2, r3) := by first | (rw [hji45] at H; exact H) | (simp only [hji45] at H ⊢; exact H)
          (try rw [hji45] at c42b0)
          (try rw [hji45] at c42b1)
          (try rw [hji45] at c42)
          (try rw [hji45] at c43b0)
          (try rw [hji45] at c43b1)
          (try rw [hji45] at c43)
          (try rw [hji45] at Ny309)
          (try rw [hji45] at A44)
          have hji45w : (IntKind.i64.wrap (4 + (wrap64 (rd x6_1 1)))) = ji45 := (i64_w _).trans hji45
          by_cases c46 : 0 ≤ (ji45)
          rotate_left
          ·
           rw [if_neg c46] at H
           exact absurd H (by simp)
          rw [if_pos c46] at H
          have c46b0 : decide (0 ≤ (ji45)) = true := decide_eq_true c46
          clear c46
          by_cases c47 : (ji45) < (x6_1.length : Int)
          rotate_left
          ·
           rw [if_neg c47] at H
           exact absurd H (by simp)
          rw [if_pos c47] at H
          have c47b0 : decide ((ji45) < (x6_1.length : Int)) = true := decide_eq_true c47
          clear c47
          obtain ⟨ji48, hji48⟩ : ∃ j_ : Int, (wrap64 (5 + (wrap64 (rd x6_1 1)))) = j_ := ⟨_, rfl⟩
          replace H : (if 0 ≤ (ji48) then (if (ji48) < (x6_1.length : Int) then (if t313 = (Go.bits .or .i64 (wrap64 ((wrap64 (rd x6_1 (ji45))) * 256)) (wrap64 (rd x6_1 (ji48)))) then (if 2 < (x6_1.length : Int) then (if 3 < (x6_1.length : Int) then (if 4 ≤ (ji45) then ((some ((x6_1.take ((ji45) : Int).toNat).drop 4 : List Int)).bind fun y318 => (if ([] : List Int).length + y318.length < 140737488355328 then (if x8_1.length < 3518437208883 then (if 0 ≤ (wrap64 (6 + (wrap64 (rd x6_1 1)))) then (if (wrap64 (6 + (wrap64 (rd x6_1 1)))) ≤ (x6_1.length : Int) then (minecontrolref04_Feed.l0 kj28 (x6_1.drop ((wrap64 (6 + (wrap64 (rd x6_1 1)))) : Int).toNat) (x8_1 ++ [(⟨wrap64 (rd x6_1 2), wrap64 (rd x6_1 3), (([] : List Int) ++ y318)⟩ : S24)]) x296001_1) else (none)) else (none)) else (none)) else (none))) else (none)) else (none)) else (none)) else (if 1 ≤ (x6_1.length : Int) then (minecontrolref04_Feed.l0 kj28 (x6_1.drop (1 : Int).toNat) x8_1 (wrap64 (x296001_1 + 1))) else (none))) else (none)) else (none)) = some (r1, r2, r3) := by first | (rw [hji48] at H; exact H) | (simp only [hji48] at H ⊢; exact H)
          (try rw [hji48] at A44)
          have hji48w : (IntKind.i64.wrap (5 + (wrap64 (rd x6_1 1)))) = ji48 := (i64_w _).trans hji48
          by_cases c49 : 0 ≤ (ji48)
          rotate_left
          ·
           rw [if_neg c49] at H
           exact absurd H (by simp)
          rw [if_pos c49] at H
          have c49b0 : decide (0 ≤ (ji48)) = true := decide_eq_true c49
          clear c49
          by_cases c50 : (ji48) < (x6_1.length : Int)
          rotate_left
          ·
           rw [if_neg c50] at H
           exact absurd H (by simp)
          rw [if_pos c50] at H
          have c50b0 : decide ((ji48) < (x6_1.length : Int)) = true := decide_eq_true c50
          clear c50
          by_cases c51 : t313 = (Go.bits .or .i64 (wrap64 ((wrap64 (rd x6_1 (ji45))) * 256)) (wrap64 (rd x6_1 (ji48))))
          ·
           rw [if_pos c51] at H
           have c51b0 : (t313 == (Go.bits .or .i64 (wrap64 ((wrap64 (rd x6_1 (ji45))) * 256)) (wrap64 (rd x6_1 (ji48))))) = true := beq_iff_eq.mpr c51
           have c51b1 : (t313 != (Go.bits .or .i64 (wrap64 ((wrap64 (rd x6_1 (ji45))) * 256)) (wrap64 (rd x6_1 (ji48))))) = false := bne_eq_false_iff_eq.mpr c51
           clear c51
           by_cases c52 : 2 < (x6_1.length : Int)
           rotate_left
           ·
            rw [if_neg c52] at H
            exact absurd H (by simp)
           rw [if_pos c52] at H
           have c52b0 : decide (2 < (x6_1.length : Int)) = true := decide_eq_true c52
           have c52b1 : decide (2 < x6_1.length) = true := decide_eq_true (by omega)
           clear c52
           by_cases c53 : 3 < (x6_1.length : Int)
           rotate_left
           ·
            rw [if_neg c53] at H
            exact absurd H (by simp)
           rw [if_pos c53] at H
           have c53b0 : decide (3 < (x6_1.length : Int)) = true := decide_eq_true c53
           have c53b1 : decide (3 < x6_1.length) = true := decide_eq_true (by omega)
           clear c53
           by_cases c54 : 4 ≤ (ji45)
           rotate_left
           ·
            rw [if_neg c54] at H
            exact absurd H (by simp)
           rw [if_pos c54] at H
           have c54b0 := eq_true c54
           have c54b1 : decide (4 ≤ (ji45)) = true := decide_eq_true c54
           clear c54
           have c55b0 := eq_true (of_decide_eq_true (by first | (with_reducible assumption) | assumption) : (ji45) ≤ (x6_1.length : Int))
           obtain ⟨y318, hy318⟩ : ∃ y_ : List Int, y_ = ((x6_1.take ((ji45) : Int).toNat).drop 4) := ⟨_, rfl⟩
           replace H : (if ([] : List Int).length + y318.length < 140737488355328 then (if x8_1.length < 3518437208883 then (if 0 ≤ (wrap64 (6 + (wrap64 (rd x6_1 1)))) then (if (wrap64 (6 + (wrap64 (rd x6_1 1)))) ≤ (x6_1.length : Int) then (minecontrolref04_Feed.l0 kj28 (x6_1.drop ((wrap64 (6 + (wrap64 (rd x6_1 1)))) : Int).toNat) (x8_1 ++ [(⟨wrap64 (rd x6_1 2), wrap64 (rd x6_1 3), (([] : List Int) ++ y318)⟩ : S24)]) x296001_1) else (none)) else (none)) else (none)) else (none)) = some (r1, r2, r3) := by first | (rw [hy318]; with_reducible exact H) | (have H2_ := (Option.bind_some _ _).symm.trans H; rw [hy318]; with_reducible exact H2_) | (have H2_ := (Option.bind_some _ _).symm.trans H; with_reducible exact H2_) | with_reducible exact H | (rw [hy318]; exact H) | exact H
           have Ny318 := Aside0.mk hy318
           clear hy318
           by_cases c56 : ([] : List Int).length + y318.length < 140737488355328
           rotate_left
           ·
            rw [if_neg c56] at H
            exact absurd H (by simp)
           rw [if_pos c56] at H
           have LMc56 := Aside0.mk c56
           clear c56
           obtain ⟨y322, hy322⟩ : ∃ y_ : List Int, y_ = (([] : List Int) ++ y318) := ⟨_, rfl⟩
           replace H : (if x8_1.length < 3518437208883 then (if 0 ≤ (wrap64 (6 + (wrap64 (rd x6_1 1)))) then (if (wrap64 (6 + (wrap64 (rd x6_1 1)))) ≤ (x6_1.length : Int) then (minecontrolref04_Feed.l0 kj28 (x6_1.drop ((wrap64 (6 + (wrap64 (rd x6_1 1)))) : Int).toNat) (x8_1 ++ [(⟨wrap64 (rd x6_1 2), wrap64 (rd x6_1 3), y322⟩ : S24)]) x296001_1) else (none)) else (none)) else (none)) = some (r1, r2, r3) := by first | (rw [hy322]; with_reducible exact H) | (have H2_ := (Option.bind_some _ _).symm.trans H; rw [hy322]; with_reducible exact H2_) | (have H2_ := (Option.bind_some _ _).symm.trans H; with_reducible exact H2_) | with_reducible exact H | (rw [hy322]; exact H) | exact H
           have Ny322 := Aside0.mk hy322
           clear hy322
           by_cases c57 : x8_1.length < 3518437208883
           rotate_left
           ·
            rw [if_neg c57] at H
            exact absurd H (by simp)
           rw [if_pos c57] at H
           have LMc57 := Aside0.mk c57
           clear c57
           obtain ⟨y325, hy325⟩ : ∃ y_ : List (S24), y_ = (x8_1 ++ [(⟨wrap64 (rd x6_1 2), wrap64 (rd x6_1 3), y322⟩ : S24)]) := ⟨_, rfl⟩
           replace H : (if 0 ≤ (wrap64 (6 + (wrap64 (rd x6_1 1)))) then (if (wrap64 (6 + (wrap64 (rd x6_1 1)))) ≤ (x6_1.length : Int) then (minecontrolref04_Feed.l0 kj28 (x6_1.drop ((wrap64 (6 + (wrap64 (rd x6_1 1)))) : Int).toNat) y325 x296001_1) else (none)) else (none)) = some (r1, r2, r3) := by first | (rw [hy325]; with_reducible exact H) | (have H2_ := (Option.bind_some _ _).symm.trans H; rw [hy325]; with_reducible exact H2_) | (have H2_ := (Option.bind_some _ _).symm.trans H; with_reducible exact H2_) | with_reducible exact H | (rw [hy325]; exact H) | exact H
           have Ny325 := Aside0.mk hy325
           clear hy325
           obtain ⟨ji58, hji58⟩ : ∃ j_ : Int, (wrap64 (6 + (wrap64 (rd x6_1 1)))) = j_ := ⟨_, rfl⟩
           replace H : (if 0 ≤ (ji58) then (if (ji58) ≤ (x6_1.length : Int) then (minecontrolref04_Feed.l0 kj28 (x6_1.drop ((ji58) : Int).toNat) y325 x296001_1) else (none)) else (none)) = some (r1, r2, r3) := by first | (rw [hji58] at H; exact H) | (simp only [hji58] at H ⊢; exact H)
           (try rw [hji58] at A44)
           have hji58w : (IntKind.i64.wrap (6 + (wrap64 (rd x6_1 1)))) = ji58 := (i64_w _).trans hji58
           by_cases c59 : 0 ≤ (ji58)
           rotate_left
           ·
            rw [if_neg c59] at H
            exact absurd H (by simp)
           rw [if_pos c59] at H
           have c59b0 := eq_true c59
           have c59b1 : decide (0 ≤ (ji58)) = true := decide_eq_true c59
           clear c59
           by_cases c60 : (ji58) ≤ (x6_1.length : Int)
           rotate_left
           ·
            rw [if_neg c60] at H
            exact absurd H (by simp)
           rw [if_pos c60] at H
           have c60b0 := eq_true c60
           have c60b1 : decide ((ji58) ≤ (x6_1.length : Int)) = true := decide_eq_true c60
           clear c60
           obtain ⟨y328, hy328⟩ : ∃ y_ : List Int, y_ = (x6_1.drop ((ji58) : Int).toNat) := ⟨_, rfl⟩
           replace H : (minecontrolref04_Feed.l0 kj28 y328 y325 x296001_1) = some (r1, r2, r3) := by first | (rw [hy328]; with_reducible exact H) | (have H2_ := (Option.bind_some _ _).symm.trans H; rw [hy328]; with_reducible exact H2_) | (have H2_ := (Option.bind_some _ _).symm.trans H; with_reducible exact H2_) | with_reducible exact H | (rw [hy328]; exact H) | exact H
           have Ny328 := Aside0.mk hy328
           clear hy328
           have H' := Aside0.mk H
           clear H
           have p308 : 0 ≤ (1 : Int) := (by omega)
           have q308 : 1 < (x6_1.length : Int) := of_decide_eq_true (by first | (with_reducible assumption) | assumption)
           obtain ⟨ad308, e308, hx308_0⟩ := Kd.at_int (Kd.Q_reads' HO_6.out).2.2 1 p308 q308
           cases e308
           (try simp only [show (1 : Int).toNat = 1 from rfl, Nat.reduceMul, Nat.reduceEqDiff, Go.Addr.add, ↓reduceIte] at hx308_0)
           have qi308 : (1 < x6_1.length) = True := eq_true (by omega)
           (try rw [show ((1 : Int)).toNat = 1 from rfl] at hx308_0)
           replace p308 := eq_true p308
           replace q308 := eq_true q308
           try go_wp2
           have n0_ := Aside0.mk (Kd.Q_drew HO_6.out)
           have n1_ := Aside0.mk (Kd.S_drew HO_8.out)
           have n2_ := Aside0.mk (blk_drew BK287.out)
           have n3_ := Aside0.mk (blk_drew BK288.out)
           have n4_ := Aside0.mk (blk_drew BK295.out)
           have n5_ := Aside0.mk (below_drew1 HB.out)
           clear HO_6
           clear HO_8
           clear BK287
           clear BK288
           clear BK295
           clear HB
           have HO_6 := n0_
           have HO_8 := n1_
           have BK287 := n2_
           have BK288 := n3_
           have BK295 := n4_
           have HB := n5_
           clear n0_ n1_ n2_ n3_ n4_ n5_
           have q62 : ((ji45) : Int) ≤ ((x6_1.length : Int) : Int) := of_decide_eq_true (by first | (with_reducible assumption) | assumption)
           obtain ⟨i062, hi062, _, hsz62, _⟩ := info_parts info5
           have hroom62 : x6_1.length ≤ co18 := (Kd.Q_reads' HO_6.out).2.1
           have hC62 : Kd.C (Kd.int .u8) _ (some ad308) x6_1.length x6_1 := (Kd.Q_reads' HO_6.out).2.2
           have ql62 : (1 : Int) ≤ ((ji45) : Int) := of_decide_eq_true (by first | (with_reducible assumption) | assumption)
           have hcut62 := cut_mid (P := Try.prog) 22 5 .i64 .i64 Try.underlying22 hi062 1 hsz62 (some ad308) x6_1.length co18 1 (ji45) (by omega) ql62 q62 hroom62
           have hr62 := Kd.C_mid (lo := (1 : Int).toNat) (hi := ((ji45) : Int).toNat) (c := co18) hC62 (by omega) (by omega) hroom62
           obtain ⟨A62, hA62⟩ : ∃ A1, A1 = (if co18 = (1 : Int).toNat then (some ad308) else ((some ad308) : Option Addr).map (·.add ((1 : Int).toNat * 1))) := ⟨_, rfl⟩
           obtain ⟨c62, hc62⟩ : ∃ c1, c1 = co18 - (1 : Int).toNat := ⟨_, rfl⟩
           have hy62 : y309.length = ((ji45) : Int).toNat - (1 : Int).toNat := (by rw [Ny309.out, List.length_drop, List.length_take] <;> omega)
           rw [show ((x6_1).take ((ji45) : Int).toNat).drop (1 : Int).toNat = y309 from Ny309.out.symm] at hr62
           replace hr62 : Kd.C (Kd.int .u8) _ A62 y309.length y309 := (by rw [hA62]; exact hr62)
           rw [← hy62, ← hA62, ← hc62] at hcut62
           have HR312 := Aside0.mk hr62
           have HC312 := Aside0.mk (show y309.length ≤ c62 from by rw [hy62, hc62]; exact Nat.sub_le_sub_right (Nat.le_trans (by omega) hroom62) _)
           clear hr62 hC62 hroom62 hi062 hsz62 hc62
           have KY62 := Aside0.mk hy62
           have KA62 := Aside0.mk hA62
           clear hy62 hA62
           have KL62 := Aside0.mk (show ((ji45) : Int).toNat ≤ x6_1.length from by omega)
           have KM62 := Aside0.mk (show 1 ≤ ((ji45) : Int).toNat from by omega)
           replace q62 := eq_true q62
           have p314 : 0 ≤ ((ji45) : Int) := of_decide_eq_true (by first | (with_reducible assumption) | assumption)
           have q314 : (ji45) < (x6_1.length : Int) := of_decide_eq_true (by first | (with_reducible assumption) | assumption)
           obtain ⟨ad314, e314, hx314_0⟩ := Kd.at_int (Kd.Q_reads' HO_6.out).2.2 (ji45) p314 q314
           obtain rfl : ad308 = ad314 := (by injection e314)
           replace p314 := eq_true p314
           replace q314 := eq_true q314
           have p315 : 0 ≤ ((ji48) : Int) := of_decide_eq_true (by first | (with_reducible assumption) | assumption)
           have q315 : (ji48) < (x6_1.length : Int) := of_decide_eq_true (by first | (with_reducible assumption) | assumption)
           obtain ⟨ad315, e315, hx315_0⟩ := Kd.at_int (Kd.Q_reads' HO_6.out).2.2 (ji48) p315 q315
           obtain rfl : ad308 = ad315 := (by injection e315)
           replace p315 := eq_true p315
           replace q315 := eq_true q315
           refine start_ (n := 20) (S := fun w' => w'.cell? (ad308.add ((ji45)).toNat) = some (.int .u8 (rd x6_1 (ji45))) ∧ w'.cell? (ad308.add ((ji48)).toNat) = some (.int .u8 (rd x6_1 (ji48)))) (ds := []) #[false, false, false, false, false, false, false, false, false, false, false, false, false, false, false, false, false, false, false, false] (by kernel_rfl) rfl rfl ⟨hx314_0, hx315_0⟩ (fun hHeld => ?_); refine with_tabW minecontrolref04_Feed.tab10 minecontrolref04_Feed.bits10 (fun HT_ HW_ => ?_)
           generalize wc.drew = w61 at HO_6 HO_8 BK287 BK288 BK295 HB HR312 hx314_0 hx315_0 hHeld ⊢
           refine pure_ (i := 0) (N := some 60) (v := ?_) (a' := ?_) #[true, false, false, false, false, false, false, false, false, false, false, false, false, false, false, false, false, false, false, false] rfl rfl (any_of HT_.out (by kernel_rfl)) (fun _ _ _ h => h) (Or.inl ⟨by rfl, ?_⟩) ?_ ?_
           rotate_left
           ·
            intro w'
            go_simp
            with_reducible rfl
           rotate_left
           ·
            simp only [Act.put, List.setIfInBounds_toArray, List.set_cons_zero, List.set_cons_succ, i64_w, i32_w]
            rfl
           refine pure_ (i := 1) (N := some 61) (v := ?_) (a' := ?_) #[true, true, false, false, false, false, false, false, false, false, false, false, false, false, false, false, false, false, false, false] rfl rfl (any_of HT_.out (by kernel_rfl)) (fun _ _ _ h => h) (Or.inl ⟨by rfl, ?_⟩) ?_ ?_
           rotate_left
           ·
            intro w'
            go_simp
            with_reducible rfl
           rotate_left
           ·
            simp only [Act.put, List.setIfInBounds_toArray, List.set_cons_zero, List.set_cons_succ, i64_w, i32_w]
            rfl
           refine pure_ (i := 2) (N := some 62) (v := ?_) (a' := ?_) #[true, true, true, false, false, false, false, false, false, false, false, false, false, false, false, false, false, false, false, false] rfl rfl (any_of HT_.out (by kernel_rfl)) (fun _ _ _ h => h) (Or.inl ⟨by rfl, ?_⟩) ?_ ?_
           rotate_left
           ·
            intro w'
            go_simp
            with_reducible rfl
           rotate_left
           ·
            simp only [Act.put, List.setIfInBounds_toArray, List.set_cons_zero, List.set_cons_succ, i64_w, i32_w]
            rfl
           refine pure_ (i := 3) (N := some 63) (v := ?_) (a' := ?_) #[true, true, true, true, false, false, false, false, false, false, false, false, false, false, false, false, false, false, false, false] rfl rfl (any_of HT_.out (by kernel_rfl)) (fun _ _ _ h => h) (Or.inl ⟨by rfl, ?_⟩) ?_ ?_
           rotate_left
           ·
            intro w'
            go_simp
            with_reducible rfl
           rotate_left
           ·
            simp only [Act.put, List.setIfInBounds_toArray, List.set_cons_zero, List.set_cons_succ, i64_w, i32_w]
            rfl
           refine pure_ (i := 5) (N := some 65) (v := ?_) (a' := ?_) #[true, true, true, true, false, true, false, false, false, false, false, false, false, false, false, false, false, false, false, false] rfl rfl (any_of HT_.out (by kernel_rfl)) (fun _ _ _ h => h) (Or.inl ⟨by rfl, ?_⟩) ?_ ?_
           rotate_left
           ·
            intro w'
            go_simp
            with_reducible rfl
           rotate_left
           ·
            simp only [Act.put, List.setIfInBounds_toArray, List.set_cons_zero, List.set_cons_succ, i64_w, i32_w]
            rfl
           refine pure_ (i := 6) (N := some 66) (v := ?_) (a' := ?_) #[true, true, true, true, false, true, true, false, false, false, false, false, false, false, false, false, false, false, false, false] rfl rfl (any_of HT_.out (by kernel_rfl)) (fun _ _ _ h => h) (Or.inl ⟨by rfl, ?_⟩) ?_ ?_
           rotate_left
           ·
            intro w'
            go_simp
            with_reducible rfl
           rotate_left
           ·
            simp only [Act.put, List.setIfInBounds_toArray, List.set_cons_zero, List.set_cons_succ, i64_w, i32_w]
            rfl
           refine pure_ (i := 7) (N := some 67) (v := ?_) (a' := ?_) #[true, true, true, true, false, true, true, true, false, false, false, false, false, false, false, false, false, false, false, false] rfl rfl (any_of HT_.out (by kernel_rfl)) (fun _ _ _ h => h) (Or.inl ⟨by rfl, ?_⟩) ?_ ?_
           rotate_left
           ·
            intro w'
            go_simp
            with_reducible rfl
           rotate_left
           ·
            simp only [Act.put, List.setIfInBounds_toArray, List.set_cons_zero, List.set_cons_succ, i64_w, i32_w]
            rfl
           refine pure_ (i := 8) (N := some 68) (v := ?_) (a' := ?_) #[true, true, true, true, false, true, true, true, true, false, false, false, false, false, false, false, false, false, false, false] rfl rfl (any_of HT_.out (by kernel_rfl)) (fun _ _ _ h => h) (Or.inl ⟨by rfl, ?_⟩) ?_ ?_
           rotate_left
           ·
            intro w'
            go_simp
            with_reducible rfl
           rotate_left
           ·
            simp only [Act.put, List.setIfInBounds_toArray, List.set_cons_zero, List.set_cons_succ, i64_w, i32_w]
            rfl
           refine pure_ (i := 12) (N := some 72) (v := ?_) (a' := ?_) #[true, true, true, true, false, true, true, true, true, false, false, false, true, false, false, false, false, false, false, false] rfl rfl (any_of HT_.out (by kernel_rfl)) (fun _ _ _ h => h) (Or.inl ⟨by rfl, ?_⟩) ?_ ?_
           rotate_left
           ·
            intro w'
            go_simp
            with_reducible rfl
           rotate_left
           ·
            simp only [Act.put, List.setIfInBounds_toArray, List.set_cons_zero, List.set_cons_succ, i64_w, i32_w]
            rfl
           refine pure_ (i := 13) (N := some 73) (v := ?_) (a' := ?_) #[true, true, true, true, false, true, true, true, true, false, false, false, true, true, false, false, false, false, false, false] rfl rfl (any_of HT_.out (by kernel_rfl)) (fun _ _ _ h => h) (Or.inl ⟨by rfl, ?_⟩) ?_ ?_
           rotate_left
           ·
            intro w'
            go_simp
            with_reducible rfl
           rotate_left
           ·
            simp only [Act.put, List.setIfInBounds_toArray, List.set_cons_zero, List.set_cons_succ, i64_w, i32_w]
            rfl
           refine pure_ (i := 14) (N := some 74) (v := ?_) (a' := ?_) #[true, true, true, true, false, true, true, true, true, false, false, false, true, true, true, false, false, false, false, false] rfl rfl (any_of HT_.out (by kernel_rfl)) (fun _ _ _ h => h) (Or.inl ⟨by rfl, ?_⟩) ?_ ?_
           rotate_left
           ·
            intro w'
            go_simp
            with_reducible rfl
           rotate_left
           ·
            simp only [Act.put, List.setIfInBounds_toArray, List.set_cons_zero, List.set_cons_succ, i64_w, i32_w]
            rfl
           refine pure_ (i := 15) (N := some 75) (v := ?_) (a' := ?_) #[true, true, true, true, false, true, true, true, true, false, false, false, true, true, true, true, false, false, false, false] rfl rfl (any_of HT_.out (by kernel_rfl)) (fun _ _ _ h => h) (Or.inl ⟨by rfl, ?_⟩) ?_ ?_
           rotate_left
           ·
            intro w'
            go_simp
            with_reducible rfl
           rotate_left
           ·
            simp only [Act.put, List.setIfInBounds_toArray, List.set_cons_zero, List.set_cons_succ, i64_w, i32_w]
            rfl
           refine take_ (i := 9) (N := some 69) (v := ?_) (a' := ?_) #[true, true, true, true, false, true, true, true, true, true, false, false, true, true, true, true, false, false, false, false] rfl rfl (take_ofW HT_.out HW_.out (by kernel_rfl)) (fun _ _ _ h => h) (Or.inl ⟨by rfl, ?_⟩) hHeld ?_ ?_
           rotate_left
           ·
            rintro w' ⟨s0, s1⟩
            go_simp
            with_reducible rfl
           rotate_left
           ·
            simp only [Act.put, List.setIfInBounds_toArray, List.set_cons_zero, List.set_cons_succ, i64_w, i32_w]
            rfl
           refine pure_ (i := 10) (N := some 70) (v := ?_) (a' := ?_) #[true, true, true, true, false, true, true, true, true, true, true, false, true, true, true, true, false, false, false, false] rfl rfl (any_of HT_.out (by kernel_rfl)) (fun _ _ _ h => h) (Or.inl ⟨by rfl, ?_⟩) ?_ ?_
           rotate_left
           ·
            intro w'
            go_simp
            with_reducible rfl
           rotate_left
           ·
            simp only [Act.put, List.setIfInBounds_toArray, List.set_cons_zero, List.set_cons_succ, i64_w, i32_w]
            rfl
           refine pure_ (i := 11) (N := some 71) (v := ?_) (a' := ?_) #[true, true, true, true, false, true, true, true, true, true, true, true, true, true, true, true, false, false, false, false] rfl rfl (any_of HT_.out (by kernel_rfl)) (fun _ _ _ h => h) (Or.inl ⟨by rfl, ?_⟩) ?_ ?_
           rotate_left
           ·
            intro w'
            go_simp
            with_reducible rfl
           rotate_left
           ·
            simp only [Act.put, List.setIfInBounds_toArray, List.set_cons_zero, List.set_cons_succ, i64_w, i32_w]
            rfl
           refine take_ (i := 16) (N := some 76) (v := ?_) (a' := ?_) #[true, true, true, true, false, true, true, true, true, true, true, true, true, true, true, true, true, false, false, false] rfl rfl (take_ofW HT_.out HW_.out (by kernel_rfl)) (fun _ _ _ h => h) (Or.inl ⟨by rfl, ?_⟩) hHeld ?_ ?_
           rotate_left
           ·
            rintro w' ⟨s0, s1⟩
            go_simp
            with_reducible rfl
           rotate_left
           ·
            simp only [Act.put, List.setIfInBounds_toArray, List.set_cons_zero, List.set_cons_succ, i64_w, i32_w]
            rfl
           refine pure_ (i := 17) (N := some 77) (v := ?_) (a' := ?_) #[true, true, true, true, false, true, true, true, true, true, true, true, true, true, true, true, true, true, false, false] rfl rfl (any_of HT_.out (by kernel_rfl)) (fun _ _ _ h => h) (Or.inl ⟨by rfl, ?_⟩) ?_ ?_
           rotate_left
           ·
            intro w'
            go_simp
            with_reducible rfl
           rotate_left
           ·
            simp only [Act.put, List.setIfInBounds_toArray, List.set_cons_zero, List.set_cons_succ, i64_w, i32_w]
            rfl
           refine pure_ (i := 18) (N := some 78) (v := ?_) (a' := ?_) #[true, true, true, true, false, true, true, true, true, true, true, true, true, true, true, true, true, true, true, false] rfl rfl (any_of HT_.out (by kernel_rfl)) (fun _ _ _ h => h) (Or.inl ⟨by rfl, ?_⟩) ?_ ?_
           rotate_left
           ·
            intro w'
            go_simp
            with_reducible rfl
           rotate_left
           ·
            simp only [Act.put, List.setIfInBounds_toArray, List.set_cons_zero, List.set_cons_succ, i64_w, i32_w]
            rfl
           refine one_ (i := 4) (N := some 64) #[true, true, true, true, true, true, true, true, true, true, true, true, true, true, true, true, true, true, true, false] rfl rfl (one_of HT_.out (by kernel_rfl)) (by decide) (fun K hK => ?_)
           refine goes_ Try.func15 (by kernel_rfl) rfl #[.slice A62 y309.length c62] (by rfl) rfl rfl (by (try simp only [List.map_toArray, List.map_cons, List.map_nil]); first | done | rfl | (simp only [List.length_drop, List.length_take]; rfl)) ?_
           with_reducible refine (minecontrolref04_Check.calls kj28 _ _ y309 t313 _ ?side1 ?side2 A44.out).mono ?_
           (case side1 => repeat (first | exact (by repeat (first | (with_reducible exact HR312.out) | (with_reducible refine Kd.C_alloc ?_ _) | (with_reducible refine Kd.C_drewN ?_ _) | (with_reducible refine Kd.C_drew ?_) | exact HR312.out)) | (with_reducible refine Kd.C_alloc ?_ _) | (with_reducible refine Kd.C_drewN ?_ _) | (with_reducible refine Kd.C_drew ?_)))
           (case side2 => exact HC312.out)
           rintro e w' ⟨rfl, ⟨nd, rfl⟩⟩
           refine ⟨_, rfl, ?_⟩
           refine hK.out _ _ ⟨hHeld.1, hHeld.2⟩ (fun hHeld => ?_)
           clear hK K
           refine norm_ (a' := ?_) ?_ ?_
           rotate_left
           ·
            show Act.put _ (some 64) _ = _
            simp only [Act.put, List.setIfInBounds_toArray, List.set_cons_zero, List.set_cons_succ, i64_w, i32_w]
            rfl
           refine pure_ (i := 19) (N := some 79) (v := ?_) (a' := ?_) #[true, true, true, true, true, true, true, true, true, true, true, true, true, true, true, true, true, true, true, true] rfl rfl (any_of HT_.out (by kernel_rfl)) (fun _ _ _ h => h) (Or.inl ⟨by rfl, ?_⟩) ?_ ?_
           rotate_left
           ·
            intro w'
            go_simp
            with_reducible rfl
           rotate_left
           ·
            simp only [Act.put, List.setIfInBounds_toArray, List.set_cons_zero, List.set_cons_succ, i64_w, i32_w]
            rfl
           refine done_ (done_of HT_.out (by kernel_rfl)) ?_
           try go_wp2
           (try (rw [drewN_self w61]; generalize hq_ : World.drewN w61 _ = w61; have n0_ : Aside0 (Kd.Q (Kd.int .u8) 5 w61 w.heap.size (fun _ => True) (.slice (some ad308) x6_1.length co18) x6_1) := ⟨by rw [← hq_]; exact (by (with_reducible repeat (first | apply Kd.Q_alloc | apply Kd.Q_drewN | apply Kd.Q_drew)); exact HO_6.out)⟩; have n1_ : Aside0 (Kd.S k24 24 w61 w.heap.size (fun k_ => some k_ ≠ (.slice (some ad308) x6_1.length co18 : Value).ownBlock) u8 x8_1) := ⟨by rw [← hq_]; exact (by (with_reducible repeat (first | apply Kd.S_alloc | apply Kd.S_drewN | apply Kd.S_drew)); exact HO_8.out)⟩; have n2_ : Aside0 (w61.heap[gb287]? = some (.cells #[.slice A0_0 l0_0.length c0_0, .int .i64 a0_1] 36 (0, 0))) := ⟨by rw [← hq_]; exact (by (with_reducible repeat (first | refine blk_drewN ?_ _ | refine blk_drew ?_ | refine blk_alloc ?_ _)); exact BK287.out)⟩; have n3_ : Aside0 (w61.heap[gb288]? = some (.cells #[.slice none 0 0, .int .i64 0] 36 (0, 0))) := ⟨by rw [← hq_]; exact (by (with_reducible repeat (first | refine blk_drewN ?_ _ | refine blk_drew ?_ | refine blk_alloc ?_ _)); exact BK288.out)⟩; have n4_ : Aside0 (w61.heap[gb295]? = some (.cells #[.slice none 0 0, .int .i64 x296001_1] 36 (0, 0))) := ⟨by rw [← hq_]; exact (by (with_reducible repeat (first | refine blk_drewN ?_ _ | refine blk_drew ?_ | refine blk_alloc ?_ _)); exact BK295.out)⟩; have n5_ : Aside0 (Below w.heap.size w w61) := ⟨by rw [← hq_]; exact (by repeat (first | (with_reducible first | exact HB.out | apply below_alloc | apply pw_below_drewN | apply below_drew1 | refine below_set ?_ GE287.out | refine below_set ?_ GE288.out | refine below_set ?_ GE295.out) | exact HB.out))⟩; have n6_ : Aside0 (Kd.C (Kd.int .u8) w61 A62 y309.length y309) := ⟨by rw [← hq_]; exact (by repeat (first | (with_reducible exact HR312.out) | (with_reducible refine Kd.C_alloc ?_ _) | (with_reducible refine Kd.C_drewN ?_ _) | (with_reducible refine Kd.C_drew ?_) | exact HR312.out))⟩; clear HO_6 HO_8 BK287 BK288 BK295 HB HR312 hq_; have HO_6 := n0_; have HO_8 := n1_; have BK287 := n2_; have BK288 := n3_; have BK295 := n4_; have HB := n5_; have HR312 := n6_; clear n0_ n1_ n2_ n3_ n4_ n5_ n6_))
           have n0_ := Aside0.mk (Kd.Q_drew HO_6.out)
           have n1_ := Aside0.mk (Kd.S_drew HO_8.out)
           have n2_ := Aside0.mk (blk_drew BK287.out)
           have n3_ := Aside0.mk (blk_drew BK288.out)
           have n4_ := Aside0.mk (blk_drew BK295.out)
           have n5_ := Aside0.mk (Kd.C_drew HR312.out)
           have n6_ := Aside0.mk (below_drew1 HB.out)
           clear HO_6
           clear HO_8
           clear BK287
           clear BK288
           clear BK295
           clear HR312
           clear HB
           have HO_6 := n0_
           have HO_8 := n1_
           have BK287 := n2_
           have BK288 := n3_
           have BK295 := n4_
           have HR312 := n5_
           have HB := n6_
           clear n0_ n1_ n2_ n3_ n4_ n5_ n6_
           have p316 : 0 ≤ (2 : Int) := (by omega)
           have q316 : 2 < (x6_1.length : Int) := of_decide_eq_true (by first | (with_reducible assumption) | assumption)
           obtain ⟨ad316, e316, hx316_0⟩ := Kd.at_int (Kd.Q_reads' HO_6.out).2.2 2 p316 q316
           obtain rfl : ad308 = ad316 := (by injection e316)
           (try simp only [show (2 : Int).toNat = 2 from rfl, Nat.reduceMul, Nat.reduceEqDiff, Go.Addr.add, ↓reduceIte] at hx316_0)
           have qi316 : (2 < x6_1.length) = True := eq_true (by omega)
           (try rw [show ((2 : Int)).toNat = 2 from rfl] at hx316_0)
           replace p316 := eq_true p316
           replace q316 := eq_true q316
           have p317 : 0 ≤ (3 : Int) := (by omega)
           have q317 : 3 < (x6_1.length : Int) := of_decide_eq_true (by first | (with_reducible assumption) | assumption)
           obtain ⟨ad317, e317, hx317_0⟩ := Kd.at_int (Kd.Q_reads' HO_6.out).2.2 3 p317 q317
           obtain rfl : ad308 = ad317 := (by injection e317)
           (try simp only [show (3 : Int).toNat = 3 from rfl, Nat.reduceMul, Nat.reduceEqDiff, Go.Addr.add, ↓reduceIte] at hx317_0)
           have qi317 : (3 < x6_1.length) = True := eq_true (by omega)
           (try rw [show ((3 : Int)).toNat = 3 from rfl] at hx317_0)
           replace p317 := eq_true p317
           replace q317 := eq_true q317
           have q64 : ((ji45) : Int) ≤ ((x6_1.length : Int) : Int) := of_decide_eq_true (by first | (with_reducible assumption) | assumption)
           obtain ⟨i064, hi064, _, hsz64, _⟩ := info_parts info5
           have hroom64 : x6_1.length ≤ co18 := (Kd.Q_reads' HO_6.out).2.1
           have hC64 : Kd.C (Kd.int .u8) _ (some ad308) x6_1.length x6_1 := (Kd.Q_reads' HO_6.out).2.2
           have ql64 : (4 : Int) ≤ ((ji45) : Int) := of_decide_eq_true (by first | (with_reducible assumption) | assumption)
           have hcut64 := cut_mid (P := Try.prog) 22 5 .i64 .i64 Try.underlying22 hi064 1 hsz64 (some ad308) x6_1.length co18 4 (ji45) (by omega) ql64 q64 hroom64
           have hr64 := Kd.C_mid (lo := (4 : Int).toNat) (hi := ((ji45) : Int).toNat) (c := co18) hC64 (by omega) (by omega) hroom64
           obtain ⟨A64, hA64⟩ : ∃ A1, A1 = (if co18 = (4 : Int).toNat then (some ad308) else ((some ad308) : Option Addr).map (·.add ((4 : Int).toNat * 1))) := ⟨_, rfl⟩
           obtain ⟨c64, hc64⟩ : ∃ c1, c1 = co18 - (4 : Int).toNat := ⟨_, rfl⟩
           have hy64 : y318.length = ((ji45) : Int).toNat - (4 : Int).toNat := (by rw [Ny318.out, List.length_drop, List.length_take] <;> omega)
           rw [show ((x6_1).take ((ji45) : Int).toNat).drop (4 : Int).toNat = y318 from Ny318.out.symm] at hr64
           replace hr64 : Kd.C (Kd.int .u8) _ A64 y318.length y318 := (by rw [hA64]; exact hr64)
           rw [← hy64, ← hA64, ← hc64] at hcut64
           have HR321 := Aside0.mk hr64
           have HC321 := Aside0.mk (show y318.length ≤ c64 from by rw [hy64, hc64]; exact Nat.sub_le_sub_right (Nat.le_trans (by omega) hroom64) _)
           clear hr64 hC64 hroom64 hi064 hsz64 hc64
           have KY64 := Aside0.mk hy64
           have KA64 := Aside0.mk hA64
           clear hy64 hA64
           have KL64 := Aside0.mk (show ((ji45) : Int).toNat ≤ x6_1.length from by omega)
           have KM64 := Aside0.mk (show 4 ≤ ((ji45) : Int).toNat from by omega)
           replace q64 := eq_true q64
           refine start_ (n := 18) (S := fun w' => w'.cell? ⟨ad308.block, ad308.off + 2, none⟩ = some (.int .u8 (rd x6_1 2)) ∧ w'.cell? ⟨ad308.block, ad308.off + 3, none⟩ = some (.int .u8 (rd x6_1 3))) (ds := [15, 16]) #[false, false, false, false, false, false, false, false, false, false, false, false, false, false, false, false, false, false] (by kernel_rfl) rfl rfl ⟨hx316_0, hx317_0⟩ (fun hHeld => ?_); refine with_tabW minecontrolref04_Feed.tab13 minecontrolref04_Feed.bits13 (fun HT_ HW_ => ?_)
           generalize w61.drew = w63 at HO_6 HO_8 BK287 BK288 BK295 HR312 HB HR321 hx316_0 hx317_0 hHeld ⊢
           refine pure_ (i := 0) (N := some 86) (v := ?_) (a' := ?_) #[true, false, false, false, false, false, false, false, false, false, false, false, false, false, false, false, false, false] rfl rfl (any_of HT_.out (by kernel_rfl)) (fun _ _ _ h => h) (Or.inl ⟨by rfl, ?_⟩) ?_ ?_
           rotate_left
           ·
            intro w'
            go_simp
            with_reducible rfl
           rotate_left
           ·
            simp only [Act.put, List.setIfInBounds_toArray, List.set_cons_zero, List.set_cons_succ, i64_w, i32_w]
            rfl
           refine pure_ (i := 1) (N := some 87) (v := ?_) (a' := ?_) #[true, true, false, false, false, false, false, false, false, false, false, false, false, false, false, false, false, false] rfl rfl (any_of HT_.out (by kernel_rfl)) (fun _ _ _ h => h) (Or.inl ⟨by rfl, ?_⟩) ?_ ?_
           rotate_left
           ·
            intro w'
            go_simp
            with_reducible rfl
           rotate_left
           ·
            simp only [Act.put, List.setIfInBounds_toArray, List.set_cons_zero, List.set_cons_succ, i64_w, i32_w]
            rfl
           refine pure_ (i := 2) (N := some 88) (v := ?_) (a' := ?_) #[true, true, true, false, false, false, false, false, false, false, false, false, false, false, false, false, false, false] rfl rfl (any_of HT_.out (by kernel_rfl)) (fun _ _ _ h => h) (Or.inl ⟨by rfl, ?_⟩) ?_ ?_
           rotate_left
           ·
            intro w'
            go_simp
            with_reducible rfl
           rotate_left
           ·
            simp only [Act.put, List.setIfInBounds_toArray, List.set_cons_zero, List.set_cons_succ, i64_w, i32_w]
            rfl
           refine pure_ (i := 5) (N := some 91) (v := ?_) (a' := ?_) #[true, true, true, false, false, true, false, false, false, false, false, false, false, false, false, false, false, false] rfl rfl (any_of HT_.out (by kernel_rfl)) (fun _ _ _ h => h) (Or.inl ⟨by rfl, ?_⟩) ?_ ?_
           rotate_left
           ·
            intro w'
            go_simp
            with_reducible rfl
           rotate_left
           ·
            simp only [Act.put, List.setIfInBounds_toArray, List.set_cons_zero, List.set_cons_succ, i64_w, i32_w]
            rfl
           refine pure_ (i := 6) (N := some 92) (v := ?_) (a' := ?_) #[true, true, true, false, false, true, true, false, false, false, false, false, false, false, false, false, false, false] rfl rfl (any_of HT_.out (by kernel_rfl)) (fun _ _ _ h => h) (Or.inl ⟨by rfl, ?_⟩) ?_ ?_
           rotate_left
           ·
            intro w'
            go_simp
            with_reducible rfl
           rotate_left
           ·
            simp only [Act.put, List.setIfInBounds_toArray, List.set_cons_zero, List.set_cons_succ, i64_w, i32_w]
            rfl
           refine pure_ (i := 9) (N := some 95) (v := ?_) (a' := ?_) #[true, true, true, false, false, true, true, false, false, true, false, false, false, false, false, false, false, false] rfl rfl (any_of HT_.out (by kernel_rfl)) (fun _ _ _ h => h) (Or.inl ⟨by rfl, ?_⟩) ?_ ?_
           rotate_left
           ·
            intro w'
            go_simp
            with_reducible rfl
           rotate_left
           ·
            simp only [Act.put, List.setIfInBounds_toArray, List.set_cons_zero, List.set_cons_succ, i64_w, i32_w]
            rfl
           refine pure_ (i := 10) (N := some 96) (v := ?_) (a' := ?_) #[true, true, true, false, false, true, true, false, false, true, true, false, false, false, false, false, false, false] rfl rfl (any_of HT_.out (by kernel_rfl)) (fun _ _ _ h => h) (Or.inl ⟨by rfl, ?_⟩) ?_ ?_
           rotate_left
           ·
            intro w'
            go_simp
            with_reducible rfl
           rotate_left
           ·
            simp only [Act.put, List.setIfInBounds_toArray, List.set_cons_zero, List.set_cons_succ, i64_w, i32_w]
            rfl
           refine pure_ (i := 11) (N := some 97) (v := ?_) (a' := ?_) #[true, true, true, false, false, true, true, false, false, true, true, true, false, false, false, false, false, false] rfl rfl (any_of HT_.out (by kernel_rfl)) (fun _ _ _ h => h) (Or.inl ⟨by rfl, ?_⟩) ?_ ?_
           rotate_left
           ·
            intro w'
            go_simp
            with_reducible rfl
           rotate_left
           ·
            simp only [Act.put, List.setIfInBounds_toArray, List.set_cons_zero, List.set_cons_succ, i64_w, i32_w]
            rfl
           refine pure_ (i := 12) (N := some 98) (v := ?_) (a' := ?_) #[true, true, true, false, false, true, true, false, false, true, true, true, true, false, false, false, false, false] rfl rfl (any_of HT_.out (by kernel_rfl)) (fun _ _ _ h => h) (Or.inl ⟨by rfl, ?_⟩) ?_ ?_
           rotate_left
           ·
            intro w'
            go_simp
            with_reducible rfl
           rotate_left
           ·
            simp only [Act.put, List.setIfInBounds_toArray, List.set_cons_zero, List.set_cons_succ, i64_w, i32_w]
            rfl
           refine take_ (i := 3) (N := some 89) (v := ?_) (a' := ?_) #[true, true, true, true, false, true, true, false, false, true, true, true, true, false, false, false, false, false] rfl rfl (take_ofW HT_.out HW_.out (by kernel_rfl)) (fun _ _ _ h => h) (Or.inl ⟨by rfl, ?_⟩) hHeld ?_ ?_
           rotate_left
           ·
            rintro w' ⟨s0, s1⟩
            go_simp
            with_reducible rfl
           rotate_left
           ·
            simp only [Act.put, List.setIfInBounds_toArray, List.set_cons_zero, List.set_cons_succ, i64_w, i32_w]
            rfl
           refine pure_ (i := 4) (N := some 90) (v := ?_) (a' := ?_) #[true, true, true, true, true, true, true, false, false, true, true, true, true, false, false, false, false, false] rfl rfl (any_of HT_.out (by kernel_rfl)) (fun _ _ _ h => h) (Or.inl ⟨by rfl, ?_⟩) ?_ ?_
           rotate_left
           ·
            intro w'
            go_simp
            with_reducible rfl
           rotate_left
           ·
            simp only [Act.put, List.setIfInBounds_toArray, List.set_cons_zero, List.set_cons_succ, i64_w, i32_w]
            rfl
           refine take_ (i := 7) (N := some 93) (v := ?_) (a' := ?_) #[true, true, true, true, true, true, true, true, false, true, true, true, true, false, false, false, false, false] rfl rfl (take_ofW HT_.out HW_.out (by kernel_rfl)) (fun _ _ _ h => h) (Or.inl ⟨by rfl, ?_⟩) hHeld ?_ ?_
           rotate_left
           ·
            rintro w' ⟨s0, s1⟩
            go_simp
            with_reducible rfl
           rotate_left
           ·
            simp only [Act.put, List.setIfInBounds_toArray, List.set_cons_zero, List.set_cons_succ, i64_w, i32_w]
            rfl
           refine pure_ (i := 8) (N := some 94) (v := ?_) (a' := ?_) #[true, true, true, true, true, true, true, true, true, true, true, true, true, false, false, false, false, false] rfl rfl (any_of HT_.out (by kernel_rfl)) (fun _ _ _ h => h) (Or.inl ⟨by rfl, ?_⟩) ?_ ?_
           rotate_left
           ·
            intro w'
            go_simp
            with_reducible rfl
           rotate_left
           ·
            simp only [Act.put, List.setIfInBounds_toArray, List.set_cons_zero, List.set_cons_succ, i64_w, i32_w]
            rfl
           refine one_ (i := 13) (N := some 99) #[true, true, true, true, true, true, true, true, true, true, true, true, true, true, false, false, false, false] rfl rfl (one_of HT_.out (by kernel_rfl)) (by decide) (fun K hK => ?_)
           refine Kd.R_append_rows_step (Kd.int .u8) (w0 := w) w.heap.size rfl (.const (.slice none 0 0)) (.tmp 98) 22 5 (.int .u8 0) 1 rfl Try.underlying22 info5 rfl (by decide) (by omega) (.slice none 0 0) ([] : List Int) y318 _ _ _ (fun k_ => some k_ ≠ (.slice (some ad308) x6_1.length co18 : Value).ownBlock) (fun _ => False) rfl rfl ?aO ?aR (fun _ _ h => h) (fun _ h => h.elim) ?aF ?aB ?aS ?aL ?_
           (case aR => repeat (first | exact (by repeat (first | (with_reducible exact HR321.out) | (with_reducible refine Kd.C_alloc ?_ _) | (with_reducible refine Kd.C_drewN ?_ _) | (with_reducible refine Kd.C_drew ?_) | exact HR321.out)) | (with_reducible refine Kd.C_alloc ?_ _) | (with_reducible refine Kd.C_drewN ?_ _) | (with_reducible refine Kd.C_drew ?_)))
           (case aB => exact (by repeat (first | (with_reducible first | exact HB.out | apply below_alloc | apply pw_below_drewN | apply below_drew1 | refine below_set ?_ GE287.out | refine below_set ?_ GE288.out | refine below_set ?_ GE295.out) | exact HB.out)))
           (case aF => exact (fun k_ hk => Kd.fresh' (Kd.Q_lt (by (with_reducible repeat (first | apply Kd.Q_alloc | apply Kd.Q_drewN | apply Kd.Q_drew)); exact HO_6.out)) k_ hk))
           (case aO => exact ((Kd.R_nil _ _ _ _ (fun k_ => some k_ ≠ (.slice (some ad308) x6_1.length co18 : Value).ownBlock))))
           (case aS => exact (below_size (by repeat (first | (with_reducible first | exact HB.out | apply below_alloc | apply pw_below_drewN | apply below_drew1 | refine below_set ?_ GE287.out | refine below_set ?_ GE288.out | refine below_set ?_ GE295.out) | exact HB.out))))
           (case aL => have := LMc56.out; omega)
           intro v323 w65 ho hb hg hat
           have HS0_ := cell_grown hg (hHeld.1) (by simp [Value.ownBlock])
           have HS1_ := cell_grown hg (hHeld.2) (by simp [Value.ownBlock])
           rw [← Ny322.out] at ho
           have n0_ := Aside0.mk (Kd.Q_after (Kd.Q_apart_nil (by (with_reducible repeat (first | apply Kd.Q_alloc | apply Kd.Q_drewN | apply Kd.Q_drew)); exact HO_6.out)) hg hat)
           have n1_ := Aside0.mk (Kd.S_after (Kd.S_apart_nil (by (with_reducible repeat (first | apply Kd.S_alloc | apply Kd.S_drewN | apply Kd.S_drew)); exact HO_8.out)) hg hat)
           have n2_ := Aside0.mk (blk_grown (g := gb287) (o := .cells #[.slice A0_0 l0_0.length c0_0, .int .i64 a0_1] 36 (0, 0)) (by (with_reducible repeat (first | refine blk_drewN ?_ _ | refine blk_drew ?_ | refine blk_alloc ?_ _)); exact BK287.out) hg (by simp [Value.ownBlock]))
           have n3_ := Aside0.mk (blk_grown (g := gb288) (o := .cells #[.slice none 0 0, .int .i64 0] 36 (0, 0)) (by (with_reducible repeat (first | refine blk_drewN ?_ _ | refine blk_drew ?_ | refine blk_alloc ?_ _)); exact BK288.out) hg (by simp [Value.ownBlock]))
           have n4_ := Aside0.mk (blk_grown (g := gb295) (o := .cells #[.slice none 0 0, .int .i64 x296001_1] 36 (0, 0)) (by (with_reducible repeat (first | refine blk_drewN ?_ _ | refine blk_drew ?_ | refine blk_alloc ?_ _)); exact BK295.out) hg (by simp [Value.ownBlock]))
           have n5_ := Aside0.mk (hb)
           have n6_ := Aside0.mk ((show Kd.C (Kd.int .u8) w65 A62 y309.length y309 from by rw [Ny309.out, KA62.out]; exact Kd.C_mid (lo := 1) (hi := ((ji45) : Int).toNat) (c := co18) ((Kd.Q_reads' (Kd.Q_after (Kd.Q_apart_nil (by (with_reducible repeat (first | apply Kd.Q_alloc | apply Kd.Q_drewN | apply Kd.Q_drew)); exact HO_6.out)) hg hat)).2.2) KM62.out KL62.out ((Kd.Q_reads' (Kd.Q_after (Kd.Q_apart_nil (by (with_reducible repeat (first | apply Kd.Q_alloc | apply Kd.Q_drewN | apply Kd.Q_drew)); exact HO_6.out)) hg hat)).2.1)))
           have n7_ := Aside0.mk ((show Kd.C (Kd.int .u8) w65 A64 y318.length y318 from by rw [Ny318.out, KA64.out]; exact Kd.C_mid (lo := 4) (hi := ((ji45) : Int).toNat) (c := co18) ((Kd.Q_reads' (Kd.Q_after (Kd.Q_apart_nil (by (with_reducible repeat (first | apply Kd.Q_alloc | apply Kd.Q_drewN | apply Kd.Q_drew)); exact HO_6.out)) hg hat)).2.2) KM64.out KL64.out ((Kd.Q_reads' (Kd.Q_after (Kd.Q_apart_nil (by (with_reducible repeat (first | apply Kd.Q_alloc | apply Kd.Q_drewN | apply Kd.Q_drew)); exact HO_6.out)) hg hat)).2.1)))
           have n8_ := Aside0.mk (ho)
           clear HO_6
           clear HO_8
           clear BK287
           clear BK288
           clear BK295
           clear HB
           clear HR312
           clear HR321
           have HO_6 := n0_
           have HO_8 := n1_
           have BK287 := n2_
           have BK288 := n3_
           have BK295 := n4_
           have HB := n5_
           have HR312 := n6_
           have HR321 := n7_
           have HO324 := n8_
           clear n0_ n1_ n2_ n3_ n4_ n5_ n6_ n7_ n8_
           clear ho hb hg hat
           obtain ⟨Ao66, co66, eo66⟩ := Kd.R_slice HO324.out
           (first | subst eo66 | (injection eo66 with f1_ f2_ f3_; have f4_ := f1_.symm; have f5_ := f3_.symm; clear f1_ f2_ f3_; subst f4_; subst f5_))
           refine hK.out _ _ ⟨HS0_, HS1_⟩ (fun hHeld => ?_)
           clear hK K
           refine norm_ (a' := ?_) ?_ ?_
           rotate_left
           ·
            show Act.put _ (some 99) _ = _
            simp only [Act.put, List.setIfInBounds_toArray, List.set_cons_zero, List.set_cons_succ, i64_w, i32_w]
            rfl
           refine pure_ (i := 14) (N := some 100) (v := ?_) (a' := ?_) #[true, true, true, true, true, true, true, true, true, true, true, true, true, true, true, false, false, false] rfl rfl (any_of HT_.out (by kernel_rfl)) (fun _ _ _ h => h) (Or.inl ⟨by rfl, ?_⟩) ?_ ?_
           rotate_left
           ·
            intro w'
            go_simp
            with_reducible rfl
           rotate_left
           ·
            simp only [Act.put, List.setIfInBounds_toArray, List.set_cons_zero, List.set_cons_succ, i64_w, i32_w]
            rfl
           refine last_ (i := 15) (N := some 101) #[true, true, true, true, true, true, true, true, true, true, true, true, true, true, true, true, false, false] rfl rfl (one_of HT_.out (by kernel_rfl)) (by decide) (fun K hK => ?_)
           refine value_ (w1 := ?_) (v := ?_) (by rfl) rfl ?_ ?_
           rotate_left 2
           ·
            go_simp
            constructor
            ·
             rfl
            ·
             rfl
           refine hK.out _ _ ?_
           clear hK K
           refine norm_ (a' := ?_) ?_ ?_
           rotate_left
           ·
            show Act.put _ (some 101) _ = _
            simp only [Act.put, List.setIfInBounds_toArray, List.set_cons_zero, List.set_cons_succ, i64_w, i32_w]
            rfl
           refine last_ (i := 16) (N := some 102) #[true, true, true, true, true, true, true, true, true, true, true, true, true, true, true, true, true, false] rfl rfl (one_of HT_.out (by kernel_rfl)) (by decide) (fun K hK => ?_)
           refine Kd.S_append_step k24 (w0 := w) w.heap.size (by rfl) (.tmp 86) (.tmp 101) 29 24 (.agg #[(.int .i64 0), (.int .i64 0), (.slice none 0 0)]) 40 rfl Try.underlying29 info24 rfl (by decide) (by omega) u8 x8_1 (⟨wrap64 (rd x6_1 2), wrap64 (rd x6_1 3), y322⟩ : S24) [.int .i64 (wrap64 (rd x6_1 2)), .int .i64 (wrap64 (rd x6_1 3)), .slice Ao66 y322.length co66] (fun k_ => some k_ ≠ (.slice (some ad308) x6_1.length co18 : Value).ownBlock) (fun k_ => some k_ = (.slice Ao66 y322.length co66 : Value).ownBlock) rfl rfl ?aP (fun k_ hk_ => ((Kd.R_mono (ok' := fun k_ => ((fun k_ => some k_ ≠ (.slice (some ad308) x6_1.length co18 : Value).ownBlock)) k_ ∧ some k_ ≠ (u8 : Value).ownBlock) (Kd.R_apart' (HO324.out) (Kd.S_typed HO_8.out) (by decide)) (fun k_ hk => ⟨hk.1, hk.2⟩))).1 k_ hk_.symm) ?aF ?aO ?aB ?aS ?aL ?_
           (case aP => exact k24_mkM _ _ _ (⟨wrap64 (rd x6_1 2), wrap64 (rd x6_1 3), y322⟩ : S24) (Kd.R_mono (Kd.R_tight rfl (Kd.R_mono (ok' := fun k_ => ((fun k_ => some k_ ≠ (.slice (some ad308) x6_1.length co18 : Value).ownBlock)) k_ ∧ some k_ ≠ (u8 : Value).ownBlock) (Kd.R_apart' (HO324.out) (Kd.S_typed HO_8.out) (by decide)) (fun k_ hk => ⟨hk.1, hk.2⟩))) (fun _ h_ => h_)))
           (case aB => exact (by repeat (first | (with_reducible first | exact HB.out | apply below_alloc | apply pw_below_drewN | apply below_drew1 | refine below_set ?_ GE287.out | refine below_set ?_ GE288.out | refine below_set ?_ GE295.out) | exact HB.out)))
           (case aF => exact (fun k_ hk => Kd.fresh' (Kd.Q_lt (by (with_reducible repeat (first | apply Kd.Q_alloc | apply Kd.Q_drewN | apply Kd.Q_drew)); exact HO_6.out)) k_ hk))
           (case aO => exact (by (with_reducible repeat (first | apply Kd.S_alloc | apply Kd.S_drewN | apply Kd.S_drew)); exact Kd.S_mono HO_8.out (fun k_ hk => ⟨hk.1, fun e_ => hk.2 e_⟩)))
           (case aS => exact (below_size (by repeat (first | (with_reducible first | exact HB.out | apply below_alloc | apply pw_below_drewN | apply below_drew1 | refine below_set ?_ GE287.out | refine below_set ?_ GE288.out | refine below_set ?_ GE295.out) | exact HB.out))))
           (case aL => have := LMc57.out; omega)
           intro v326 w67 ho hb hg hat
           rw [← Ny325.out] at ho
           have n0_ := Aside0.mk (Kd.Q_over' (by (with_reducible repeat (first | apply Kd.Q_alloc | apply Kd.Q_drewN | apply Kd.Q_drew)); exact HO_6.out) (Kd.S_typed (by (with_reducible repeat (first | apply Kd.S_alloc | apply Kd.S_drewN | apply Kd.S_drew)); exact HO_8.out)) (by decide) hg)
           have n1_ := Aside0.mk (blk_grown (g := gb287) (o := .cells #[.slice A0_0 l0_0.length c0_0, .int .i64 a0_1] 36 (0, 0)) (by (with_reducible repeat (first | refine blk_drewN ?_ _ | refine blk_drew ?_ | refine blk_alloc ?_ _)); exact BK287.out) hg (Kd.S_ne HO_8.out BK287.out (by decide)))
           have n2_ := Aside0.mk (blk_grown (g := gb288) (o := .cells #[.slice none 0 0, .int .i64 0] 36 (0, 0)) (by (with_reducible repeat (first | refine blk_drewN ?_ _ | refine blk_drew ?_ | refine blk_alloc ?_ _)); exact BK288.out) hg (Kd.S_ne HO_8.out BK288.out (by decide)))
           have n3_ := Aside0.mk (blk_grown (g := gb295) (o := .cells #[.slice none 0 0, .int .i64 x296001_1] 36 (0, 0)) (by (with_reducible repeat (first | refine blk_drewN ?_ _ | refine blk_drew ?_ | refine blk_alloc ?_ _)); exact BK295.out) hg (Kd.S_ne HO_8.out BK295.out (by decide)))
           have n4_ := Aside0.mk (hb)
           have n5_ := Aside0.mk ((show Kd.C (Kd.int .u8) w67 A62 y309.length y309 from by rw [Ny309.out, KA62.out]; exact Kd.C_mid (lo := 1) (hi := ((ji45) : Int).toNat) (c := co18) ((Kd.Q_reads' (Kd.Q_over' (by (with_reducible repeat (first | apply Kd.Q_alloc | apply Kd.Q_drewN | apply Kd.Q_drew)); exact HO_6.out) (Kd.S_typed (by (with_reducible repeat (first | apply Kd.S_alloc | apply Kd.S_drewN | apply Kd.S_drew)); exact HO_8.out)) (by decide) hg)).2.2) KM62.out KL62.out ((Kd.Q_reads' (Kd.Q_over' (by (with_reducible repeat (first | apply Kd.Q_alloc | apply Kd.Q_drewN | apply Kd.Q_drew)); exact HO_6.out) (Kd.S_typed (by (with_reducible repeat (first | apply Kd.S_alloc | apply Kd.S_drewN | apply Kd.S_drew)); exact HO_8.out)) (by decide) hg)).2.1)))
           have n6_ := Aside0.mk ((show Kd.C (Kd.int .u8) w67 A64 y318.length y318 from by rw [Ny318.out, KA64.out]; exact Kd.C_mid (lo := 4) (hi := ((ji45) : Int).toNat) (c := co18) ((Kd.Q_reads' (Kd.Q_over' (by (with_reducible repeat (first | apply Kd.Q_alloc | apply Kd.Q_drewN | apply Kd.Q_drew)); exact HO_6.out) (Kd.S_typed (by (with_reducible repeat (first | apply Kd.S_alloc | apply Kd.S_drewN | apply Kd.S_drew)); exact HO_8.out)) (by decide) hg)).2.2) KM64.out KL64.out ((Kd.Q_reads' (Kd.Q_over' (by (with_reducible repeat (first | apply Kd.Q_alloc | apply Kd.Q_drewN | apply Kd.Q_drew)); exact HO_6.out) (Kd.S_typed (by (with_reducible repeat (first | apply Kd.S_alloc | apply Kd.S_drewN | apply Kd.S_drew)); exact HO_8.out)) (by decide) hg)).2.1)))
           have n7_ := Aside0.mk (ho)
           clear HO_6
           clear BK287
           clear BK288
           clear BK295
           clear HB
           clear HR312
           clear HR321
           clear HO_8
           clear HO324
           have HO_6 := n0_
           have BK287 := n1_
           have BK288 := n2_
           have BK295 := n3_
           have HB := n4_
           have HR312 := n5_
           have HR321 := n6_
           have HO327 := n7_
           clear n0_ n1_ n2_ n3_ n4_ n5_ n6_ n7_
           clear ho hb hg hat
           refine hK.out _ _ ?_
           clear hK K
           refine norm_ (a' := ?_) ?_ ?_
           rotate_left
           ·
            show Act.put _ (some 102) _ = _
            simp only [Act.put, List.setIfInBounds_toArray, List.set_cons_zero, List.set_cons_succ, i64_w, i32_w]
            rfl
           refine pure_ (i := 17) (N := some 8) (v := ?_) (a' := ?_) #[true, true, true, true, true, true, true, true, true, true, true, true, true, true, true, true, true, true] rfl rfl (any_of HT_.out (by kernel_rfl)) (fun _ _ _ h => h) (Or.inl ⟨by rfl, ?_⟩) ?_ ?_
           rotate_left
           ·
            intro w'
            go_simp
            with_reducible rfl
           rotate_left
           ·
            simp only [Act.put, List.setIfInBounds_toArray, List.set_cons_zero, List.set_cons_succ, i64_w, i32_w]
            rfl
           refine done_ (done_of HT_.out (by kernel_rfl)) ?_
           have n_ := Aside0.mk (Kd.Q_mono (ok' := (fun _ => True)) HO_6.out (fun k_ hk => trivial))
           clear HO_6
           have HO_6 := n_
           clear n_
           have q68 : ((ji58) : Int) ≤ ((x6_1.length : Int) : Int) := of_decide_eq_true (by first | (with_reducible assumption) | assumption)
           obtain ⟨i068, hi068, _, hsz68, _⟩ := info_parts info5
           have hcut68 := cut_from (P := Try.prog) 22 5 .i64 Try.underlying22 hi068 1 hsz68 (some ad308) x6_1.length co18 (ji58) (of_decide_eq_true (by first | (with_reducible assumption) | assumption)) q68
           have hr68 := Kd.Q_drop (k := ((ji58) : Int).toNat) HO_6.out (by omega)
           obtain ⟨A68, hA68⟩ : ∃ A1, A1 = (if co18 = ((ji58) : Int).toNat then (some ad308) else ((some ad308) : Option Addr).map (·.add (((ji58) : Int).toNat * 1))) := ⟨_, rfl⟩
           obtain ⟨c68, hc68⟩ : ∃ c1, c1 = co18 - ((ji58) : Int).toNat := ⟨_, rfl⟩
           have hy68 : y328.length = x6_1.length - ((ji58) : Int).toNat := (by rw [Ny328.out, List.length_drop])
           rw [← Ny328.out] at hr68
           rw [← hy68, ← hA68, ← hc68] at hcut68
           replace hr68 : Kd.Q (Kd.int .u8) 5 w67 w.heap.size (fun _ => True) (.slice A68 y328.length c68) y328 := (by rw [hA68, hc68, hy68]; exact hr68)
           have HE68 : Aside0 ((Value.slice A68 y328.length c68).ownBlock = (.slice (some ad308) x6_1.length co18 : Value).ownBlock) := ⟨by rw [hA68]; split <;> (first | rfl | (simp only [Option.map_some, Value.ownBlock, add_block]; done) | (cases ((some ad308) : Option Addr) <;> first | rfl | (simp [Value.ownBlock, add_block]; done)))⟩
           clear hy68 hi068 hsz68 HO_6 hA68 hc68
           have HO330 := Aside0.mk hr68
           clear hr68
           replace q68 := eq_true q68
           have n_ := Aside0.mk (Kd.S_mono (ok' := fun k_ => some k_ ≠ (.slice A68 y328.length c68 : Value).ownBlock) HO327.out (fun k_ hk => (by rw [HE68.out]; exact hk)))
           clear HO327
           have HO327 := n_
           clear n_
           try go_wp2
           go_roundg kj28
           case measure => have := HK1.out; have := HJ16.out; have := HJ28.out; omega
           case rel => exact ⟨(y328), (y325), (x296001_1), H', ⟨by have := HK1.out; have := HJ16.out; have := HJ28.out; omega⟩, ⟨by (with_reducible repeat (first | apply Kd.Q_alloc | apply Kd.Q_drewN | apply Kd.Q_drew)); exact HO330.out⟩, ⟨by (with_reducible repeat (first | apply Kd.S_alloc | apply Kd.S_drewN | apply Kd.S_drew)); exact HO327.out⟩, ⟨by (with_reducible repeat (first | refine blk_drewN ?_ _ | refine blk_drew ?_ | refine blk_alloc ?_ _)); exact BK287.out⟩, ⟨by (with_reducible repeat (first | refine blk_drewN ?_ _ | refine blk_drew ?_ | refine blk_alloc ?_ _)); exact BK288.out⟩, ⟨by (with_reducible repeat (first | refine blk_drewN ?_ _ | refine blk_drew ?_ | refine blk_alloc ?_ _)); exact BK295.out⟩, ⟨by repeat (first | (with_reducible first | exact HB.out | apply below_alloc | apply pw_below_drewN | apply below_drew1 | refine below_set ?_ GE287.out | refine below_set ?_ GE288.out | refine below_set ?_ GE295.out) | exact HB.out)⟩⟩
          ·
           rw [if_neg c51] at H
           have c51b0 : (t313 == (Go.bits .or .i64 (wrap64 ((wrap64 (rd x6_1 (ji45))) * 256)) (wrap64 (rd x6_1 (ji48))))) = false := beq_eq_false_iff_ne.mpr c51
           have c51b1 : (t313 != (Go.bits .or .i64 (wrap64 ((wrap64 (rd x6_1 (ji45))) * 256)) (wrap64 (rd x6_1 (ji48))))) = true := bne_iff_ne.mpr c51
           by_cases c69 : 1 ≤ (x6_1.length : Int)
           rotate_left
           ·
            rw [if_neg c69] at H
            exact absurd H (by simp)
           rw [if_pos c69] at H
           have c69b0 := eq_true c69
           have c69b1 : decide (1 ≤ (x6_1.length : Int)) = true := decide_eq_true c69
           clear c69
           obtain ⟨y331, hy331⟩ : ∃ y_ : List Int, y_ = (x6_1.drop (1 : Int).toNat) := ⟨_, rfl⟩
           replace H : (minecontrolref04_Feed.l0 kj28 y331 x8_1 (wrap64 (x296001_1 + 1))) = some (r1, r2, r3) := by first | (rw [hy331]; with_reducible exact H) | (have H2_ := (Option.bind_some _ _).symm.trans H; rw [hy331]; with_reducible exact H2_) | (have H2_ := (Option.bind_some _ _).symm.trans H; with_reducible exact H2_) | with_reducible exact H | (rw [hy331]; exact H) | exact H
           have Ny331 := Aside0.mk hy331
           clear hy331
           have H' := Aside0.mk H
           clear H
           have p308 : 0 ≤ (1 : Int) := (by omega)
           have q308 : 1 < (x6_1.length : Int) := of_decide_eq_true (by first | (with_reducible assumption) | assumption)
           obtain ⟨ad308, e308, hx308_0⟩ := Kd.at_int (Kd.Q_reads' HO_6.out).2.2 1 p308 q308
           cases e308
           (try simp only [show (1 : Int).toNat = 1 from rfl, Nat.reduceMul, Nat.reduceEqDiff, Go.Addr.add, ↓reduceIte] at hx308_0)
           have qi308 : (1 < x6_1.length) = True := eq_true (by omega)
           (try rw [show ((1 : Int)).toNat = 1 from rfl] at hx308_0)
           replace p308 := eq_true p308
           replace q308 := eq_true q308
           try go_wp2
           have n0_ := Aside0.mk (Kd.Q_drew HO_6.out)
           have n1_ := Aside0.mk (Kd.S_drew HO_8.out)
           have n2_ := Aside0.mk (blk_drew BK287.out)
           have n3_ := Aside0.mk (blk_drew BK288.out)
           have n4_ := Aside0.mk (blk_drew BK295.out)
           have n5_ := Aside0.mk (below_drew1 HB.out)
           clear HO_6
           clear HO_8
           clear BK287
           clear BK288
           clear BK295
           clear HB
           have HO_6 := n0_
           have HO_8 := n1_
           have BK287 := n2_
           have BK288 := n3_
           have BK295 := n4_
           have HB := n5_
           clear n0_ n1_ n2_ n3_ n4_ n5_
           have q71 : ((ji45) : Int) ≤ ((x6_1.length : Int) : Int) := of_decide_eq_true (by first | (with_reducible assumption) | assumption)
           obtain ⟨i071, hi071, _, hsz71, _⟩ := info_parts info5
           have hroom71 : x6_1.length ≤ co18 := (Kd.Q_reads' HO_6.out).2.1
           have hC71 : Kd.C (Kd.int .u8) _ (some ad308) x6_1.length x6_1 := (Kd.Q_reads' HO_6.out).2.2
           have ql71 : (1 : Int) ≤ ((ji45) : Int) := of_decide_eq_true (by first | (with_reducible assumption) | assumption)
           have hcut71 := cut_mid (P := Try.prog) 22 5 .i64 .i64 Try.underlying22 hi071 1 hsz71 (some ad308) x6_1.length co18 1 (ji45) (by omega) ql71 q71 hroom71
           have hr71 := Kd.C_mid (lo := (1 : Int).toNat) (hi := ((ji45) : Int).toNat) (c := co18) hC71 (by omega) (by omega) hroom71
           obtain ⟨A71, hA71⟩ : ∃ A1, A1 = (if co18 = (1 : Int).toNat then (some ad308) else ((some ad308) : Option Addr).map (·.add ((1 : Int).toNat * 1))) := ⟨_, rfl⟩
           obtain ⟨c71, hc71⟩ : ∃ c1, c1 = co18 - (1 : Int).toNat := ⟨_, rfl⟩
           have hy71 : y309.length = ((ji45) : Int).toNat - (1 : Int).toNat := (by rw [Ny309.out, List.length_drop, List.length_take] <;> omega)
           rw [show ((x6_1).take ((ji45) : Int).toNat).drop (1 : Int).toNat = y309 from Ny309.out.symm] at hr71
           replace hr71 : Kd.C (Kd.int .u8) _ A71 y309.length y309 := (by rw [hA71]; exact hr71)
           rw [← hy71, ← hA71, ← hc71] at hcut71
           have HR312 := Aside0.mk hr71
           have HC312 := Aside0.mk (show y309.length ≤ c71 from by rw [hy71, hc71]; exact Nat.sub_le_sub_right (Nat.le_trans (by omega) hroom71) _)
           clear hr71 hC71 hroom71 hi071 hsz71 hc71
           have KY71 := Aside0.mk hy71
           have KA71 := Aside0.mk hA71
           clear hy71 hA71
           have KL71 := Aside0.mk (show ((ji45) : Int).toNat ≤ x6_1.length from by omega)
           have KM71 := Aside0.mk (show 1 ≤ ((ji45) : Int).toNat from by omega)
           replace q71 := eq_true q71
           have p314 : 0 ≤ ((ji45) : Int) := of_decide_eq_true (by first | (with_reducible assumption) | assumption)
           have q314 : (ji45) < (x6_1.length : Int) := of_decide_eq_true (by first | (with_reducible assumption) | assumption)
           obtain ⟨ad314, e314, hx314_0⟩ := Kd.at_int (Kd.Q_reads' HO_6.out).2.2 (ji45) p314 q314
           obtain rfl : ad308 = ad314 := (by injection e314)
           replace p314 := eq_true p314
           replace q314 := eq_true q314
           have p315 : 0 ≤ ((ji48) : Int) := of_decide_eq_true (by first | (with_reducible assumption) | assumption)
           have q315 : (ji48) < (x6_1.length : Int) := of_decide_eq_true (by first | (with_reducible assumption) | assumption)
           obtain ⟨ad315, e315, hx315_0⟩ := Kd.at_int (Kd.Q_reads' HO_6.out).2.2 (ji48) p315 q315
           obtain rfl : ad308 = ad315 := (by injection e315)
           replace p315 := eq_true p315
           replace q315 := eq_true q315
           refine start_ (n := 20) (S := fun w' => w'.cell? (ad308.add ((ji45)).toNat) = some (.int .u8 (rd x6_1 (ji45))) ∧ w'.cell? (ad308.add ((ji48)).toNat) = some (.int .u8 (rd x6_1 (ji48)))) (ds := []) #[false, false, false, false, false, false, false, false, false, false, false, false, false, false, false, false, false, false, false, false] (by kernel_rfl) rfl rfl ⟨hx314_0, hx315_0⟩ (fun hHeld => ?_); refine with_tabW minecontrolref04_Feed.tab10 minecontrolref04_Feed.bits10 (fun HT_ HW_ => ?_)
           generalize wc.drew = w70 at HO_6 HO_8 BK287 BK288 BK295 HB HR312 hx314_0 hx315_0 hHeld ⊢
           refine pure_ (i := 0) (N := some 60) (v := ?_) (a' := ?_) #[true, false, false, false, false, false, false, false, false, false, false, false, false, false, false, false, false, false, false, false] rfl rfl (any_of HT_.out (by kernel_rfl)) (fun _ _ _ h => h) (Or.inl ⟨by rfl, ?_⟩) ?_ ?_
           rotate_left
           ·
            intro w'
            go_simp
            with_reducible rfl
           rotate_left
           ·
            simp only [Act.put, List.setIfInBounds_toArray, List.set_cons_zero, List.set_cons_succ, i64_w, i32_w]
            rfl
           refine pure_ (i := 1) (N := some 61) (v := ?_) (a' := ?_) #[true, true, false, false, false, false, false, false, false, false, false, false, false, false, false, false, false, false, false, false] rfl rfl (any_of HT_.out (by kernel_rfl)) (fun _ _ _ h => h) (Or.inl ⟨by rfl, ?_⟩) ?_ ?_
           rotate_left
           ·
            intro w'
            go_simp
            with_reducible rfl
           rotate_left
           ·
            simp only [Act.put, List.setIfInBounds_toArray, List.set_cons_zero, List.set_cons_succ, i64_w, i32_w]
            rfl
           refine pure_ (i := 2) (N := some 62) (v := ?_) (a' := ?_) #[true, true, true, false, false, false, false, false, false, false, false, false, false, false, false, false, false, false, false, false] rfl rfl (any_of HT_.out (by kernel_rfl)) (fun _ _ _ h => h) (Or.inl ⟨by rfl, ?_⟩) ?_ ?_
           rotate_left
           ·
            intro w'
            go_simp
            with_reducible rfl
           rotate_left
           ·
            simp only [Act.put, List.setIfInBounds_toArray, List.set_cons_zero, List.set_cons_succ, i64_w, i32_w]
            rfl
           refine pure_ (i := 3) (N := some 63) (v := ?_) (a' := ?_) #[true, true, true, true, false, false, false, false, false, false, false, false, false, false, false, false, false, false, false, false] rfl rfl (any_of HT_.out (by kernel_rfl)) (fun _ _ _ h => h) (Or.inl ⟨by rfl, ?_⟩) ?_ ?_
           rotate_left
           ·
            intro w'
            go_simp
            with_reducible rfl
           rotate_left
           ·
            simp only [Act.put, List.setIfInBounds_toArray, List.set_cons_zero, List.set_cons_succ, i64_w, i32_w]
            rfl
           refine pure_ (i := 5) (N := some 65) (v := ?_) (a' := ?_) #[true, true, true, true, false, true, false, false, false, false, false, false, false, false, false, false, false, false, false, false] rfl rfl (any_of HT_.out (by kernel_rfl)) (fun _ _ _ h => h) (Or.inl ⟨by rfl, ?_⟩) ?_ ?_
           rotate_left
           ·
            intro w'
            go_simp
            with_reducible rfl
           rotate_left
           ·
            simp only [Act.put, List.setIfInBounds_toArray, List.set_cons_zero, List.set_cons_succ, i64_w, i32_w]
            rfl
           refine pure_ (i := 6) (N := some 66) (v := ?_) (a' := ?_) #[true, true, true, true, false, true, true, false, false, false, false, false, false, false, false, false, false, false, false, false] rfl rfl (any_of HT_.out (by kernel_rfl)) (fun _ _ _ h => h) (Or.inl ⟨by rfl, ?_⟩) ?_ ?_
           rotate_left
           ·
            intro w'
            go_simp
            with_reducible rfl
           rotate_left
           ·
            simp only [Act.put, List.setIfInBounds_toArray, List.set_cons_zero, List.set_cons_succ, i64_w, i32_w]
            rfl
           refine pure_ (i := 7) (N := some 67) (v := ?_) (a' := ?_) #[true, true, true, true, false, true, true, true, false, false, false, false, false, false, false, false, false, false, false, false] rfl rfl (any_of HT_.out (by kernel_rfl)) (fun _ _ _ h => h) (Or.inl ⟨by rfl, ?_⟩) ?_ ?_
           rotate_left
           ·
            intro w'
            go_simp
            with_reducible rfl
           rotate_left
           ·
            simp only [Act.put, List.setIfInBounds_toArray, List.set_cons_zero, List.set_cons_succ, i64_w, i32_w]
            rfl
           refine pure_ (i := 8) (N := some 68) (v := ?_) (a' := ?_) #[true, true, true, true, false, true, true, true, true, false, false, false, false, false, false, false, false, false, false, false] rfl rfl (any_of HT_.out (by kernel_rfl)) (fun _ _ _ h => h) (Or.inl ⟨by rfl, ?_⟩) ?_ ?_
           rotate_left
           ·
            intro w'
            go_simp
            with_reducible rfl
           rotate_left
           ·
            simp only [Act.put, List.setIfInBounds_toArray, List.set_cons_zero, List.set_cons_succ, i64_w, i32_w]
            rfl
           refine pure_ (i := 12) (N := some 72) (v := ?_) (a' := ?_) #[true, true, true, true, false, true, true, true, true, false, false, false, true, false, false, false, false, false, false, false] rfl rfl (any_of HT_.out (by kernel_rfl)) (fun _ _ _ h => h) (Or.inl ⟨by rfl, ?_⟩) ?_ ?_
           rotate_left
           ·
            intro w'
            go_simp
            with_reducible rfl
           rotate_left
           ·
            simp only [Act.put, List.setIfInBounds_toArray, List.set_cons_zero, List.set_cons_succ, i64_w, i32_w]
            rfl
           refine pure_ (i := 13) (N := some 73) (v := ?_) (a' := ?_) #[true, true, true, true, false, true, true, true, true, false, false, false, true, true, false, false, false, false, false, false] rfl rfl (any_of HT_.out (by kernel_rfl)) (fun _ _ _ h => h) (Or.inl ⟨by rfl, ?_⟩) ?_ ?_
           rotate_left
           ·
            intro w'
            go_simp
            with_reducible rfl
           rotate_left
           ·
            simp only [Act.put, List.setIfInBounds_toArray, List.set_cons_zero, List.set_cons_succ, i64_w, i32_w]
            rfl
           refine pure_ (i := 14) (N := some 74) (v := ?_) (a' := ?_) #[true, true, true, true, false, true, true, true, true, false, false, false, true, true, true, false, false, false, false, false] rfl rfl (any_of HT_.out (by kernel_rfl)) (fun _ _ _ h => h) (Or.inl ⟨by rfl, ?_⟩) ?_ ?_
           rotate_left
           ·
            intro w'
            go_simp
            with_reducible rfl
           rotate_left
           ·
            simp only [Act.put, List.setIfInBounds_toArray, List.set_cons_zero, List.set_cons_succ, i64_w, i32_w]
            rfl
           refine pure_ (i := 15) (N := some 75) (v := ?_) (a' := ?_) #[true, true, true, true, false, true, true, true, true, false, false, false, true, true, true, true, false, false, false, false] rfl rfl (any_of HT_.out (by kernel_rfl)) (fun _ _ _ h => h) (Or.inl ⟨by rfl, ?_⟩) ?_ ?_
           rotate_left
           ·
            intro w'
            go_simp
            with_reducible rfl
           rotate_left
           ·
            simp only [Act.put, List.setIfInBounds_toArray, List.set_cons_zero, List.set_cons_succ, i64_w, i32_w]
            rfl
           refine take_ (i := 9) (N := some 69) (v := ?_) (a' := ?_) #[true, true, true, true, false, true, true, true, true, true, false, false, true, true, true, true, false, false, false, false] rfl rfl (take_ofW HT_.out HW_.out (by kernel_rfl)) (fun _ _ _ h => h) (Or.inl ⟨by rfl, ?_⟩) hHeld ?_ ?_
           rotate_left
           ·
            rintro w' ⟨s0, s1⟩
            go_simp
            with_reducible rfl
           rotate_left
           ·
            simp only [Act.put, List.setIfInBounds_toArray, List.set_cons_zero, List.set_cons_succ, i64_w, i32_w]
            rfl
           refine pure_ (i := 10) (N := some 70) (v := ?_) (a' := ?_) #[true, true, true, true, false, true, true, true, true, true, true, false, true, true, true, true, false, false, false, false] rfl rfl (any_of HT_.out (by kernel_rfl)) (fun _ _ _ h => h) (Or.inl ⟨by rfl, ?_⟩) ?_ ?_
           rotate_left
           ·
            intro w'
            go_simp
            with_reducible rfl
           rotate_left
           ·
            simp only [Act.put, List.setIfInBounds_toArray, List.set_cons_zero, List.set_cons_succ, i64_w, i32_w]
            rfl
           refine pure_ (i := 11) (N := some 71) (v := ?_) (a' := ?_) #[true, true, true, true, false, true, true, true, true, true, true, true, true, true, true, true, false, false, false, false] rfl rfl (any_of HT_.out (by kernel_rfl)) (fun _ _ _ h => h) (Or.inl ⟨by rfl, ?_⟩) ?_ ?_
           rotate_left
           ·
            intro w'
            go_simp
            with_reducible rfl
           rotate_left
           ·
            simp only [Act.put, List.setIfInBounds_toArray, List.set_cons_zero, List.set_cons_succ, i64_w, i32_w]
            rfl
           refine take_ (i := 16) (N := some 76) (v := ?_) (a' := ?_) #[true, true, true, true, false, true, true, true, true, true, true, true, true, true, true, true, true, false, false, false] rfl rfl (take_ofW HT_.out HW_.out (by kernel_rfl)) (fun _ _ _ h => h) (Or.inl ⟨by rfl, ?_⟩) hHeld ?_ ?_
           rotate_left
           ·
            rintro w' ⟨s0, s1⟩
            go_simp
            with_reducible rfl
           rotate_left
           ·
            simp only [Act.put, List.setIfInBounds_toArray, List.set_cons_zero, List.set_cons_succ, i64_w, i32_w]
            rfl
           refine pure_ (i := 17) (N := some 77) (v := ?_) (a' := ?_) #[true, true, true, true, false, true, true, true, true, true, true, true, true, true, true, true, true, true, false, false] rfl rfl (any_of HT_.out (by kernel_rfl)) (fun _ _ _ h => h) (Or.inl ⟨by rfl, ?_⟩) ?_ ?_
           rotate_left
           ·
            intro w'
            go_simp
            with_reducible rfl
           rotate_left
           ·
            simp only [Act.put, List.setIfInBounds_toArray, List.set_cons_zero, List.set_cons_succ, i64_w, i32_w]
            rfl
           refine pure_ (i := 18) (N := some 78) (v := ?_) (a' := ?_) #[true, true, true, true, false, true, true, true, true, true, true, true, true, true, true, true, true, true, true, false] rfl rfl (any_of HT_.out (by kernel_rfl)) (fun _ _ _ h => h) (Or.inl ⟨by rfl, ?_⟩) ?_ ?_
           rotate_left
           ·
            intro w'
            go_simp
            with_reducible rfl
           rotate_left
           ·
            simp only [Act.put, List.setIfInBounds_toArray, List.set_cons_zero, List.set_cons_succ, i64_w, i32_w]
            rfl
           refine one_ (i := 4) (N := some 64) #[true, true, true, true, true, true, true, true, true, true, true, true, true, true, true, true, true, true, true, false] rfl rfl (one_of HT_.out (by kernel_rfl)) (by decide) (fun K hK => ?_)
           refine goes_ Try.func15 (by kernel_rfl) rfl #[.slice A71 y309.length c71] (by rfl) rfl rfl (by (try simp only [List.map_toArray, List.map_cons, List.map_nil]); first | done | rfl | (simp only [List.length_drop, List.length_take]; rfl)) ?_
           with_reducible refine (minecontrolref04_Check.calls kj28 _ _ y309 t313 _ ?side1 ?side2 A44.out).mono ?_
           (case side1 => repeat (first | exact (by repeat (first | (with_reducible exact HR312.out) | (with_reducible refine Kd.C_alloc ?_ _) | (with_reducible refine Kd.C_drewN ?_ _) | (with_reducible refine Kd.C_drew ?_) | exact HR312.out)) | (with_reducible refine Kd.C_alloc ?_ _) | (with_reducible refine Kd.C_drewN ?_ _) | (with_reducible refine Kd.C_drew ?_)))
           (case side2 => exact HC312.out)
           rintro e w' ⟨rfl, ⟨nd, rfl⟩⟩
           refine ⟨_, rfl, ?_⟩
           refine hK.out _ _ ⟨hHeld.1, hHeld.2⟩ (fun hHeld => ?_)
           clear hK K
           refine norm_ (a' := ?_) ?_ ?_
           rotate_left
           ·
            show Act.put _ (some 64) _ = _
            simp only [Act.put, List.setIfInBounds_toArray, List.set_cons_zero, List.set_cons_succ, i64_w, i32_w]
            rfl
           refine pure_ (i := 19) (N := some 79) (v := ?_) (a' := ?_) #[true, true, true, true, true, true, true, true, true, true, true, true, true, true, true, true, true, true, true, true] rfl rfl (any_of HT_.out (by kernel_rfl)) (fun _ _ _ h => h) (Or.inl ⟨by rfl, ?_⟩) ?_ ?_
           rotate_left
           ·
            intro w'
            go_simp
            with_reducible rfl
           rotate_left
           ·
            simp only [Act.put, List.setIfInBounds_toArray, List.set_cons_zero, List.set_cons_succ, i64_w, i32_w]
            rfl
           refine done_ (done_of HT_.out (by kernel_rfl)) ?_
           have q72 : (1 : Int) ≤ ((x6_1.length : Int) : Int) := of_decide_eq_true (by first | (with_reducible assumption) | assumption)
           obtain ⟨i072, hi072, _, hsz72, _⟩ := info_parts info5
           have hcut72 := cut_from (P := Try.prog) 22 5 .i64 Try.underlying22 hi072 1 hsz72 (some ad308) x6_1.length co18 1 (by omega) q72
           have hr72 := Kd.Q_drop (k := (1 : Int).toNat) HO_6.out (by omega)
           obtain ⟨A72, hA72⟩ : ∃ A1, A1 = (if co18 = (1 : Int).toNat then (some ad308) else ((some ad308) : Option Addr).map (·.add ((1 : Int).toNat * 1))) := ⟨_, rfl⟩
           obtain ⟨c72, hc72⟩ : ∃ c1, c1 = co18 - (1 : Int).toNat := ⟨_, rfl⟩
           have hy72 : y331.length = x6_1.length - (1 : Int).toNat := (by rw [Ny331.out, List.length_drop])
           rw [← Ny331.out] at hr72
           rw [← hy72, ← hA72, ← hc72] at hcut72
           replace hr72 : Kd.Q (Kd.int .u8) 5 w70 w.heap.size (fun _ => True) (.slice A72 y331.length c72) y331 := (by rw [hA72, hc72, hy72]; exact hr72)
           have HE72 : Aside0 ((Value.slice A72 y331.length c72).ownBlock = (.slice (some ad308) x6_1.length co18 : Value).ownBlock) := ⟨by rw [hA72]; split <;> (first | rfl | (simp only [Option.map_some, Value.ownBlock, add_block]; done) | (cases ((some ad308) : Option Addr) <;> first | rfl | (simp [Value.ownBlock, add_block]; done)))⟩
           clear hy72 hi072 hsz72 HO_6 hA72 hc72
           have HO333 := Aside0.mk hr72
           clear hr72
           replace q72 := eq_true q72
           have n_ := Aside0.mk (Kd.S_mono (ok' := fun k_ => some k_ ≠ (.slice A72 y331.length c72 : Value).ownBlock) HO_8.out (fun k_ hk => (by rw [HE72.out]; exact hk)))
           clear HO_8
           have HO_8 := n_
           clear n_
           have hnb73 := NB295_287.out
           have hnc73 := NB287_295.out
           have hnb74 := NB295_288.out
           have hnc74 := NB288_295.out
           have hcz75_0 : w70.cell? ⟨gb295, 0, none⟩ = some (.slice none 0 0) := (blk_cell BK295.out 0).trans rfl
           have hcz75_1 : w70.cell? ⟨gb295, 1, none⟩ = some (.int .i64 x296001_1) := (blk_cell BK295.out 1).trans rfl
           have hfz75_0 := blk_frozen BK295.out 0
           have hfz75_1 := blk_frozen BK295.out 1
           try go_wp2
           go_roundg kj28
           case measure => have := HK1.out; have := HJ16.out; have := HJ28.out; omega
           case rel => exact ⟨(y331), (x8_1), (wrap64 (x296001_1 + 1)), H', ⟨by have := HK1.out; have := HJ16.out; have := HJ28.out; omega⟩, ⟨by (with_reducible repeat (first | apply Kd.Q_alloc | apply Kd.Q_drewN | apply Kd.Q_drew)); exact Kd.Q_mono (Kd.Q_far (p := ⟨gb295, 1, none⟩) (Kd.Q_types HO333.out BK295.out (by decide)) (fun _ hk => hk.2) (.int .i64 (wrap64 (x296001_1 + 1)))) (fun _ hk => trivial)⟩, ⟨by (with_reducible repeat (first | apply Kd.S_alloc | apply Kd.S_drewN | apply Kd.S_drew)); exact Kd.S_mono (Kd.S_far (p := ⟨gb295, 1, none⟩) (Kd.S_types HO_8.out BK295.out (by decide)) (fun _ hk => hk.2) (.int .i64 (wrap64 (x296001_1 + 1)))) (fun _ hk => hk.1)⟩, ⟨by (with_reducible repeat (first | refine blk_drewN ?_ _ | refine blk_drew ?_ | refine blk_alloc ?_ _)); refine blk_far ?_ NB287_295.out _; (with_reducible repeat (first | refine blk_drewN ?_ _ | refine blk_drew ?_ | refine blk_alloc ?_ _)); exact BK287.out⟩, ⟨by (with_reducible repeat (first | refine blk_drewN ?_ _ | refine blk_drew ?_ | refine blk_alloc ?_ _)); refine blk_far ?_ NB288_295.out _; (with_reducible repeat (first | refine blk_drewN ?_ _ | refine blk_drew ?_ | refine blk_alloc ?_ _)); exact BK288.out⟩, ⟨by (with_reducible repeat (first | refine blk_drewN ?_ _ | refine blk_drew ?_ | refine blk_alloc ?_ _)); refine blk_put (cs := #[.slice none 0 0, .int .i64 x296001_1]) ?_ 1 _ rfl; (with_reducible repeat (first | refine blk_drewN ?_ _ | refine blk_drew ?_ | refine blk_alloc ?_ _)); exact BK295.out⟩, ⟨by repeat (first | (with_reducible first | exact HB.out | apply below_alloc | apply pw_below_drewN | apply below_drew1 | refine below_set ?_ GE287.out | refine below_set ?_ GE288.out | refine below_set ?_ GE295.out) | exact HB.out)⟩⟩
   ·
    rw [if_neg c16] at H
    have c16b0 : decide (0 < (x6_1.length : Int)) = false := decide_eq_false c16
    have c16b1 : decide (0 < x6_1.length) = false := decide_eq_false (by omega)
    clear c16
    by_cases c76 : ([] : List Int).length + x6_1.length < 140737488355328
    rotate_left
    ·
     rw [if_neg c76] at H
     exact absurd H (by simp)
    rw [if_pos c76] at H
    have LMc76 := Aside0.mk c76
    clear c76
    obtain ⟨y296, hy296⟩ : ∃ y_ : List Int, y_ = (([] : List Int) ++ x6_1) := ⟨_, rfl⟩
    replace H : (some (y296, x296001_1, x8_1)) = some (r1, r2, r3) := by first | (rw [hy296]; with_reducible exact H) | (have H2_ := (Option.bind_some _ _).symm.trans H; rw [hy296]; with_reducible exact H2_) | (have H2_ := (Option.bind_some _ _).symm.trans H; with_reducible exact H2_) | with_reducible exact H | (rw [hy296]; exact H) | exact H
    have Ny296 := Aside0.mk hy296
    clear hy296
    simp only [Option.some.injEq, Prod.mk.injEq] at H
    obtain ⟨rfl, rfl, rfl⟩ := H
    obtain ⟨Ao77, co77, eo77, _⟩ := Kd.Q_slice HO_6.out
    subst eo77
    go_wp2_with (first | ((with_reducible refine gate_builtin (b := .append) (xs := #[.const (.slice none 0 0), .tmp 107]) rfl ?_); (try (refine gate_guard (by rfl) ?_; dsimp only)); at_builtin; refine Kd.R_append_rows (Kd.int .u8) (w0 := w) w.heap.size rfl (.const (.slice none 0 0)) (.tmp 107) 22 5 (.int .u8 0) 1 rfl Try.underlying22 info5 rfl (by decide) (by omega) (.slice none 0 0) ([] : List Int) x6_1 _ _ _ (fun k_ => some k_ ≠ (.slice Ao77 x6_1.length co77 : Value).ownBlock) (fun _ => False) rfl rfl ?aO ?aR (fun _ _ h => h) (fun _ h => h.elim) ?aF ?aB ?aS ?aL ?_; (case aR => repeat (first | exact (Kd.Q_reads' HO_6.out).2.2 | (with_reducible refine Kd.C_alloc ?_ _) | (with_reducible refine Kd.C_drewN ?_ _) | (with_reducible refine Kd.C_drew ?_))); (case aB => exact (by repeat (first | (with_reducible first | exact HB.out | apply below_alloc | apply pw_below_drewN | apply below_drew1 | refine below_set ?_ GE287.out | refine below_set ?_ GE288.out | refine below_set ?_ GE295.out) | exact HB.out))); (case aF => exact (fun k_ hk => Kd.fresh' (Kd.Q_lt (by (with_reducible repeat (first | apply Kd.Q_alloc | apply Kd.Q_drewN | apply Kd.Q_drew)); exact HO_6.out)) k_ hk)); (case aO => exact ((Kd.R_nil _ _ _ _ (fun k_ => some k_ ≠ (.slice Ao77 x6_1.length co77 : Value).ownBlock)))); (case aS => exact (below_size (by repeat (first | (with_reducible first | exact HB.out | apply below_alloc | apply pw_below_drewN | apply below_drew1 | refine below_set ?_ GE287.out | refine below_set ?_ GE288.out | refine below_set ?_ GE295.out) | exact HB.out)))); (case aL => have := LMc76.out; omega); intro v297 w78 ho hb hg hat; rw [← Ny296.out] at ho; have n0_ := Aside0.mk (Kd.Q_after (Kd.Q_apart_nil (by (with_reducible repeat (first | apply Kd.Q_alloc | apply Kd.Q_drewN | apply Kd.Q_drew)); exact HO_6.out)) hg hat); have n1_ := Aside0.mk (Kd.S_after (Kd.S_apart_nil (by (with_reducible repeat (first | apply Kd.S_alloc | apply Kd.S_drewN | apply Kd.S_drew)); exact HO_8.out)) hg hat); have n2_ := Aside0.mk (blk_grown (g := gb287) (o := .cells #[.slice A0_0 l0_0.length c0_0, .int .i64 a0_1] 36 (0, 0)) (by (with_reducible repeat (first | refine blk_drewN ?_ _ | refine blk_drew ?_ | refine blk_alloc ?_ _)); exact BK287.out) hg (by simp [Value.ownBlock])); have n3_ := Aside0.mk (blk_grown (g := gb288) (o := .cells #[.slice none 0 0, .int .i64 0] 36 (0, 0)) (by (with_reducible repeat (first | refine blk_drewN ?_ _ | refine blk_drew ?_ | refine blk_alloc ?_ _)); exact BK288.out) hg (by simp [Value.ownBlock])); have n4_ := Aside0.mk (blk_grown (g := gb295) (o := .cells #[.slice none 0 0, .int .i64 x296001_1] 36 (0, 0)) (by (with_reducible repeat (first | refine blk_drewN ?_ _ | refine blk_drew ?_ | refine blk_alloc ?_ _)); exact BK295.out) hg (by simp [Value.ownBlock])); have n5_ := Aside0.mk (hb); have n6_ := Aside0.mk (ho); clear HO_6; clear HO_8; clear BK287; clear BK288; clear BK295; clear HB; have HO_6 := n0_; have HO_8 := n1_; have BK287 := n2_; have BK288 := n3_; have BK295 := n4_; have HB := n5_; have HO298 := n6_; clear n0_ n1_ n2_ n3_ n4_ n5_ n6_; clear ho hb hg hat; obtain ⟨Ao79, co79, eo79⟩ := Kd.R_slice HO298.out; subst eo79; have hnb80 := NB295_287.out; have hnc80 := NB287_295.out; have hnb81 := NB295_288.out; have hnc81 := NB288_295.out; have hcz82_0 : w78.cell? ⟨gb295, 0, none⟩ = some (.slice none 0 0) := (blk_cell BK295.out 0).trans rfl; have hcz82_1 : w78.cell? ⟨gb295, 1, none⟩ = some (.int .i64 x296001_1) := (blk_cell BK295.out 1).trans rfl; have hfz82_0 := blk_frozen BK295.out 0; have hfz82_1 := blk_frozen BK295.out 1; have hnb83 := NB288_287.out; have hnc83 := NB287_288.out; have hcz84_0 : w78.cell? ⟨gb288, 0, none⟩ = some (.slice none 0 0) := (blk_cell BK288.out 0).trans rfl; have hcz84_1 : w78.cell? ⟨gb288, 1, none⟩ = some (.int .i64 0) := (blk_cell BK288.out 1).trans rfl; have hfz84_0 := blk_frozen BK288.out 0; have hfz84_1 := blk_frozen BK288.out 1))
    refine bodyPost_ret (results_ct rfl _ _ gb288 36 #[.slice Ao79 y296.length co79, .int .i64 x296001_1] (0, 0) _ rfl (by (with_reducible repeat (first | refine blk_drewN ?_ _ | refine blk_drew ?_ | refine blk_alloc ?_ _)); refine blk_put (cs := #[.slice Ao79 y296.length co79, .int .i64 0]) ?_ 1 _ rfl; (with_reducible repeat (first | refine blk_drewN ?_ _ | refine blk_drew ?_ | refine blk_alloc ?_ _)); refine blk_put (cs := #[.slice none 0 0, .int .i64 0]) ?_ 0 _ rfl; (with_reducible repeat (first | refine blk_drewN ?_ _ | refine blk_drew ?_ | refine blk_alloc ?_ _)); refine blk_far ?_ NB288_295.out _; (with_reducible repeat (first | refine blk_drewN ?_ _ | refine blk_drew ?_ | refine blk_alloc ?_ _)); exact BK288.out) Try.underlying36 rfl (by kernel_rfl)) rfl ?_
    exact ⟨_, _, by first | rfl | (simp [errW_none, errW_some] <;> rfl) | (simp [*, errW_none, errW_some] <;> rfl), by (with_reducible repeat (first | apply Kd.R_alloc | apply Kd.R_drewN | apply Kd.R_drew)); exact Kd.R_mono (Kd.R_far (p := ⟨gb288, 1, none⟩) (Kd.R_far (p := ⟨gb288, 0, none⟩) (Kd.R_far (p := ⟨gb295, 0, none⟩) (Kd.R_types (Kd.R_types HO298.out BK295.out (by decide)) BK288.out (by decide)) (fun _ hk => hk.1.2) (.slice Ao79 y296.length co79)) (fun _ hk => hk.2) (.slice Ao79 y296.length co79)) (fun _ hk => hk.2) (.int .i64 x296001_1)) (fun _ hk => trivial), by (with_reducible repeat (first | apply Kd.S_alloc | apply Kd.S_drewN | apply Kd.S_drew)); exact Kd.S_mono (Kd.S_far (p := ⟨gb288, 1, none⟩) (Kd.S_far (p := ⟨gb288, 0, none⟩) (Kd.S_far (p := ⟨gb295, 0, none⟩) (Kd.S_types (Kd.S_types HO_8.out BK295.out (by decide)) BK288.out (by decide)) (fun _ hk => hk.1.2) (.slice Ao79 y296.length co79)) (fun _ hk => hk.2) (.slice Ao79 y296.length co79)) (fun _ hk => hk.2) (.int .i64 x296001_1)) (fun _ hk => hk.1.1.2), by repeat (first | (with_reducible first | exact HB.out | apply below_alloc | apply pw_below_drewN | apply below_drew1 | refine below_set ?_ GE287.out | refine below_set ?_ GE288.out | refine below_set ?_ GE295.out) | exact HB.out)⟩

end Go.Proofs.Ytacogcnckhgjbaa.PTer
