/- Functions of the given program as Lean functions, and proofs that its calls come to what these say. Written by a program of this seat (wip/mkprint.py); Lean checks it all. -/
import Derived.Test.YtacogcnckhgjbaaPTerx0
import Derived.Test.YtacogcnckhgjbaaPTerx1
namespace Go.Proofs.Ytacogcnckhgjbaa.PTer
open Go.RowKit Go.Proofs.YtacogcnckhgjbaaW.PrintWords Go.Proofs.YtacogcnckhgjbaaW.PrintLast Go.Proofs.YtacogcnckhgjbaaW.PrintMore
attribute [local go_sem] max2_int min2_int max_two min_two max_three min_three max_four min_four   -- for this text's walks alone
set_option linter.unusedVariables false
set_option linter.unusedSimpArgs false

/-! ### telegram_Feed: function 18 -/
mutual
def telegram_Feed.l0 : Nat → List Int → List (S24) → Int → Option (List Int × Int × (List (S24)))
 | 0, _, _, _ => none
 | k + 1, x6, x7, x8 => if (x6.length : Int) > 0 then (if 0 < (x6.length : Int) then (if (rd x6 0) = 126 then (if (x6.length : Int) > 1 then (if 1 < (x6.length : Int) then (telegram_Feed.j1 k x6 x7 x8 (decide ((wrap64 (rd x6 1)) > 64))) else (none)) else (telegram_Feed.j1 k x6 x7 x8 false)) else (telegram_Feed.j1 k x6 x7 x8 true)) else (none)) else (if ([] : List Int).length + x6.length < 140737488355328 then (some ((([] : List Int) ++ x6), x8, x7)) else (none))
def telegram_Feed.j1 : Nat → List Int → List (S24) → Int → Bool → Option (List Int × Int × (List (S24)))
 | 0, _, _, _, _ => none
 | k + 1, x6, x7, x8, x35 => if x35 = true then (if 1 ≤ (x6.length : Int) then (telegram_Feed.l0 k (x6.drop (1 : Int).toNat) x7 (wrap64 (x8 + 1))) else (none)) else (if (x6.length : Int) < 2 then (telegram_Feed.j2 k x6 x7 x8 true) else (if 1 < (x6.length : Int) then (telegram_Feed.j2 k x6 x7 x8 (decide ((x6.length : Int) < (wrap64 ((wrap64 (rd x6 1)) + 6))))) else (none)))
def telegram_Feed.j2 : Nat → List Int → List (S24) → Int → Bool → Option (List Int × Int × (List (S24)))
 | 0, _, _, _, _ => none
 | k + 1, x6, x7, x8, x52 => if x52 = true then (if ([] : List Int).length + x6.length < 140737488355328 then (some ((([] : List Int) ++ x6), x8, x7)) else (none)) else (if 1 < (x6.length : Int) then (if 1 ≤ (wrap64 (4 + (wrap64 (rd x6 1)))) then (if (wrap64 (4 + (wrap64 (rd x6 1)))) ≤ (x6.length : Int) then ((telegram_Check.f k ((x6.take ((wrap64 (4 + (wrap64 (rd x6 1)))) : Int).toNat).drop 1)).bind fun t145 => (if 0 ≤ (wrap64 (4 + (wrap64 (rd x6 1)))) then (if (wrap64 (4 + (wrap64 (rd x6 1)))) < (x6.length : Int) then (if 0 ≤ (wrap64 (5 + (wrap64 (rd x6 1)))) then (if (wrap64 (5 + (wrap64 (rd x6 1)))) < (x6.length : Int) then (if t145 = (Go.bits .or .i64 (wrap64 ((wrap64 (rd x6 (wrap64 (4 + (wrap64 (rd x6 1)))))) * 256)) (wrap64 (rd x6 (wrap64 (5 + (wrap64 (rd x6 1))))))) then (if 2 < (x6.length : Int) then (if 3 < (x6.length : Int) then (if 4 ≤ (wrap64 (4 + (wrap64 (rd x6 1)))) then ((some ((x6.take ((wrap64 (4 + (wrap64 (rd x6 1)))) : Int).toNat).drop 4 : List Int)).bind fun y150 => (if ([] : List Int).length + y150.length < 140737488355328 then (if x7.length < 3518437208883 then (if 0 ≤ (wrap64 ((wrap64 (rd x6 1)) + 6)) then (if (wrap64 ((wrap64 (rd x6 1)) + 6)) ≤ (x6.length : Int) then (telegram_Feed.l0 k (x6.drop ((wrap64 ((wrap64 (rd x6 1)) + 6)) : Int).toNat) (x7 ++ [(⟨wrap64 (rd x6 2), wrap64 (rd x6 3), (([] : List Int) ++ y150)⟩ : S24)]) x8) else (none)) else (none)) else (none)) else (none))) else (none)) else (none)) else (none)) else (if 1 ≤ (x6.length : Int) then (telegram_Feed.l0 k (x6.drop (1 : Int).toNat) x7 (wrap64 (x8 + 1))) else (none))) else (none)) else (none)) else (none)) else (none))) else (none)) else (none)) else (none))
end
def telegram_Feed.f (k : Nat) (l0_0 : List Int) (a0_1 : Int) (l1 : List Int) : Option (List Int × Int × (List (S24))) := if ([] : List Int).length + l0_0.length < 140737488355328 then ((some (([] : List Int) ++ l0_0 : List Int)).bind fun y122 => (if y122.length + l1.length < 140737488355328 then (telegram_Feed.l0 k (y122 ++ l1) ([] : List (S24)) a0_1) else (none))) else (none)
theorem telegram_Feed.mono_l : ∀ k, (∀ y0 y1 y2, LeO (telegram_Feed.l0 k y0 y1 y2) (telegram_Feed.l0 (k + 1) y0 y1 y2)) ∧ (∀ y0 y1 y2 y3, LeO (telegram_Feed.j1 k y0 y1 y2 y3) (telegram_Feed.j1 (k + 1) y0 y1 y2 y3)) ∧ (∀ y0 y1 y2 y3, LeO (telegram_Feed.j2 k y0 y1 y2 y3) (telegram_Feed.j2 (k + 1) y0 y1 y2 y3))
 | 0 => ⟨fun _ _ _ r h => by simp [telegram_Feed.l0] at h, fun _ _ _ _ r h => by simp [telegram_Feed.j1] at h, fun _ _ _ _ r h => by simp [telegram_Feed.j2] at h⟩
 | k + 1 => by
  obtain ⟨ih0, ih1, ih2⟩ := telegram_Feed.mono_l k
  refine ⟨?_, ?_, ?_⟩
  ·
   intro y0 y1 y2
   unfold telegram_Feed.l0
   repeat' first
   | (with_reducible exact ih0 _ _ _)
   | (with_reducible exact ih1 _ _ _ _)
   | (with_reducible exact ih2 _ _ _ _)
   | (with_reducible exact telegram_Check.mono _ _)
   | (with_reducible exact LeO.refl _)
   | (with_reducible exact LeO.none _)
   | (with_reducible refine LeO.ite ?_ ?_)
   | (with_reducible refine LeO.bind ?_ (fun _ => ?_))
   | exact ih0 _ _ _
   | exact ih1 _ _ _ _
   | exact ih2 _ _ _ _
   | exact telegram_Check.mono _ _
   | exact LeO.none _
   | refine LeO.ite ?_ ?_
   | refine LeO.bind ?_ (fun _ => ?_)
  ·
   intro y0 y1 y2 y3
   unfold telegram_Feed.j1
   repeat' first
   | (with_reducible exact ih0 _ _ _)
   | (with_reducible exact ih1 _ _ _ _)
   | (with_reducible exact ih2 _ _ _ _)
   | (with_reducible exact telegram_Check.mono _ _)
   | (with_reducible exact LeO.refl _)
   | (with_reducible exact LeO.none _)
   | (with_reducible refine LeO.ite ?_ ?_)
   | (with_reducible refine LeO.bind ?_ (fun _ => ?_))
   | exact ih0 _ _ _
   | exact ih1 _ _ _ _
   | exact ih2 _ _ _ _
   | exact telegram_Check.mono _ _
   | exact LeO.none _
   | refine LeO.ite ?_ ?_
   | refine LeO.bind ?_ (fun _ => ?_)
  ·
   intro y0 y1 y2 y3
   unfold telegram_Feed.j2
   repeat' first
   | (with_reducible exact ih0 _ _ _)
   | (with_reducible exact ih1 _ _ _ _)
   | (with_reducible exact ih2 _ _ _ _)
   | (with_reducible exact telegram_Check.mono _ _)
   | (with_reducible exact LeO.refl _)
   | (with_reducible exact LeO.none _)
   | (with_reducible refine LeO.ite ?_ ?_)
   | (with_reducible refine LeO.bind ?_ (fun _ => ?_))
   | exact ih0 _ _ _
   | exact ih1 _ _ _ _
   | exact ih2 _ _ _ _
   | exact telegram_Check.mono _ _
   | exact LeO.none _
   | refine LeO.ite ?_ ?_
   | refine LeO.bind ?_ (fun _ => ?_)
theorem telegram_Feed.mono : ∀ a0 a1 a2 k, LeO (telegram_Feed.f k a0 a1 a2) (telegram_Feed.f (k + 1) a0 a1 a2) := by
 intro a0 a1 a2 k
 obtain ⟨ih0, ih1, ih2⟩ := telegram_Feed.mono_l k
 unfold telegram_Feed.f
 repeat' first
   | (with_reducible exact ih0 _ _ _)
   | (with_reducible exact ih1 _ _ _ _)
   | (with_reducible exact ih2 _ _ _ _)
   | (with_reducible exact telegram_Check.mono _ _)
   | (with_reducible exact LeO.refl _)
   | (with_reducible exact LeO.none _)
   | (with_reducible refine LeO.ite ?_ ?_)
   | (with_reducible refine LeO.bind ?_ (fun _ => ?_))
   | exact ih0 _ _ _
   | exact ih1 _ _ _ _
   | exact ih2 _ _ _ _
   | exact telegram_Check.mono _ _
   | exact LeO.none _
   | refine LeO.ite ?_ ?_
   | refine LeO.bind ?_ (fun _ => ?_)
def telegram_Feed.T9 : Bool × List (List Nat × List Nat) := (true, [([], []), ([], []), ([1], [1]), ([0, 2], [0, 2]), ([3], [3]), ([], []), ([], []), ([6], [6]), ([5, 7], [5, 7]), ([8], [8]), ([9], [9]), ([10], [10]), ([], []), ([], []), ([13], [13]), ([12, 14], [12, 14]), ([15], [15]), ([16], [16]), ([11, 17], [11, 17]), ([4, 18], [4, 18])])
def telegram_Feed.B9 : List Nat := [0, 0, 2, 7, 15, 0, 0, 64, 224, 480, 992, 2016, 0, 0, 8192, 28672, 61440, 126976, 262112, 524287]
theorem telegram_Feed.tab9 : rtab .any (opsOf Try.f18 9) = telegram_Feed.T9 := by kernel_rfl
theorem telegram_Feed.bits9 : waitsOk telegram_Feed.T9.2 telegram_Feed.B9 = true := by kernel_rfl
def telegram_Feed.T11 : Bool × List (List Nat × List Nat) := (true, [([], []), ([], []), ([1], [1]), ([2], [2]), ([3], [3]), ([], []), ([5], [5]), ([6], [6]), ([7], [7]), ([], []), ([], []), ([10], [10]), ([9, 11], [9, 11]), ([12], [12]), ([4, 8, 13], [4, 8, 13]), ([14], [14]), ([0, 15, 13], [0, 15]), ([16, 16, 0, 1, 2, 3, 4, 5, 6, 7, 8, 9, 10, 11, 12, 13, 14, 15, 16], [0, 16])])
def telegram_Feed.B11 : List Nat := [0, 0, 2, 6, 14, 0, 32, 96, 224, 0, 0, 1024, 3584, 7680, 16382, 32766, 65535, 131071]
theorem telegram_Feed.tab11 : rtab .any (opsOf Try.f18 11) = telegram_Feed.T11 := by kernel_rfl
theorem telegram_Feed.bits11 : waitsOk telegram_Feed.T11.2 telegram_Feed.B11 = true := by kernel_rfl
set_option maxHeartbeats 8000000 in
set_option maxRecDepth 100000 in
theorem telegram_Feed.calls (k : Nat) (A0_0 : Option Addr) (c0_0 : Nat) (l0_0 : List Int) (a0_1 : Int) (A1 : Option Addr) (c1 : Nat) (l1 : List Int) (r1 : List Int) (r2 : Int) (r3 : List (S24)) (w : World) (hr0_0 : Kd.C (Kd.int .u8) w A0_0 l0_0.length l0_0) (hc0_0 : l0_0.length ≤ c0_0) (hr1 : Kd.C (Kd.int .u8) w A1 l1.length l1) (hc1 : l1.length ≤ c1) (h : telegram_Feed.f k l0_0 a0_1 l1 = some (r1, r2, r3)) :
  Calls Try.prog 18 #[.agg #[.slice A0_0 l0_0.length c0_0, .int .i64 a0_1], .slice A1 l1.length c1] w fun e w' => ∃ v0_ v2_ : Value, e = .returned (.tuple #[.agg #[v0_, .int .i64 r2], v2_]) ∧ Kd.R (Kd.int .u8) 5 w' w.heap.size (fun _ => True) v0_ r1 ∧ Kd.S k24 24 w' w.heap.size (fun k_ => some k_ ≠ (v0_ : Value).ownBlock) v2_ r3 ∧ Below w.heap.size w w' := by
 have hu36 := Try.underlying36
 have hu24 := Try.underlying24
 have HR0_0 := Aside0.mk hr0_0
 have HC0_0 := Aside0.mk hc0_0
 clear hr0_0 hc0_0
 have HR1 := Aside0.mk hr1
 have HC1 := Aside0.mk hc1
 clear hr1 hc1
 have HB := Aside0.mk (Below.refl w.heap.size w)
 have H : (if ([] : List Int).length + l0_0.length < 140737488355328 then ((some (([] : List Int) ++ l0_0 : List Int)).bind fun y122 => (if y122.length + l1.length < 140737488355328 then (telegram_Feed.l0 k (y122 ++ l1) ([] : List (S24)) a0_1) else (none))) else (none)) = some (r1, r2, r3) := h
 clear h
 by_cases c3 : ([] : List Int).length + l0_0.length < 140737488355328
 rotate_left
 ·
  rw [if_neg c3] at H
  exact absurd H (by simp)
 rw [if_pos c3] at H
 have LMc3 := Aside0.mk c3
 clear c3
 obtain ⟨y122, hy122⟩ : ∃ y_ : List Int, y_ = (([] : List Int) ++ l0_0) := ⟨_, rfl⟩
 replace H : (if y122.length + l1.length < 140737488355328 then (telegram_Feed.l0 k (y122 ++ l1) ([] : List (S24)) a0_1) else (none)) = some (r1, r2, r3) := by first | (rw [hy122]; with_reducible exact H) | (have H2_ := (Option.bind_some _ _).symm.trans H; rw [hy122]; with_reducible exact H2_) | (have H2_ := (Option.bind_some _ _).symm.trans H; with_reducible exact H2_) | with_reducible exact H | (rw [hy122]; exact H) | exact H
 have Ny122 := Aside0.mk hy122
 clear hy122
 by_cases c4 : y122.length + l1.length < 140737488355328
 rotate_left
 ·
  rw [if_neg c4] at H
  exact absurd H (by simp)
 rw [if_pos c4] at H
 have LMc4 := Aside0.mk c4
 clear c4
 obtain ⟨y125, hy125⟩ : ∃ y_ : List Int, y_ = (y122 ++ l1) := ⟨_, rfl⟩
 replace H : (telegram_Feed.l0 k y125 ([] : List (S24)) a0_1) = some (r1, r2, r3) := by first | (rw [hy125]; with_reducible exact H) | (have H2_ := (Option.bind_some _ _).symm.trans H; rw [hy125]; with_reducible exact H2_) | (have H2_ := (Option.bind_some _ _).symm.trans H; with_reducible exact H2_) | with_reducible exact H | (rw [hy125]; exact H) | exact H
 have Ny125 := Aside0.mk hy125
 clear hy125
 have H' := Aside0.mk H
 clear H
 go_enter Try.func18, Try.ntmps18
 go_wp2_with (first | ((with_reducible refine gate_dst (N := 2) rfl ?_); (try (refine gate_guard (by rfl) ?_; dsimp only)); refine box_event ?hg (N := 2) ?hd (cs := #[.slice A0_0 l0_0.length c0_0, .int .i64 a0_1]) (t := 36) ?hr ?_; (case hd => rfl); (case hg => rfl); (case hr => first | (go_simp; done) | (go_simp; rfl)); intro gb120 hg w5 hbox hb; have n0_ := Aside0.mk (below_step (by repeat (first | (with_reducible first | exact HB.out | apply below_alloc | apply pw_below_drewN | apply below_drew1) | exact HB.out)) hb); have n1_ := Aside0.mk (hbox); have n2_ := Aside0.mk ((by rw [hg]; exact (below_size (by repeat (first | (with_reducible first | exact HB.out | apply below_alloc | apply pw_below_drewN | apply below_drew1) | exact HB.out))) : w.heap.size ≤ gb120)); have n3_ := Aside0.mk ((by rw [hg]; exact (below_size (by repeat (first | (with_reducible first | exact HB.out | apply below_alloc | apply pw_below_drewN | apply below_drew1) | exact HB.out))) : w.heap.size ≤ gb120)); clear HB; have HB := n0_; have BK120 := n1_; have GW120 := n2_; have GE120 := n3_; clear n0_ n1_ n2_ n3_; clear hb hbox hg) | ((with_reducible refine gate_dst (N := 4) rfl ?_); (try (refine gate_guard (by rfl) ?_; dsimp only)); refine box_event ?hg (N := 4) ?hd (cs := #[.slice none 0 0, .int .i64 0]) (t := 36) ?hr ?_; (case hd => rfl); (case hg => rfl); (case hr => first | (go_simp; done) | (go_simp; rfl)); intro gb121 hg w6 hbox hb; have n0_ := Aside0.mk (blk_below (g := gb120) (o := .cells #[.slice A0_0 l0_0.length c0_0, .int .i64 a0_1] 36 (0, 0)) (by (with_reducible repeat (first | refine blk_drewN ?_ _ | refine blk_drew ?_ | refine blk_alloc ?_ _)); exact BK120.out) hb); have n1_ := Aside0.mk (below_step (by repeat (first | (with_reducible first | exact HB.out | apply below_alloc | apply pw_below_drewN | apply below_drew1 | refine below_set ?_ GE120.out) | exact HB.out)) hb); have n2_ := Aside0.mk (hbox); have n3_ := Aside0.mk ((by rw [hg]; exact (below_size (by repeat (first | (with_reducible first | exact HB.out | apply below_alloc | apply pw_below_drewN | apply below_drew1 | refine below_set ?_ GE120.out) | exact HB.out))) : w.heap.size ≤ gb121)); have n4_ := Aside0.mk ((by rw [hg]; exact (below_size (by repeat (first | (with_reducible first | exact HB.out | apply below_alloc | apply pw_below_drewN | apply below_drew1 | refine below_set ?_ GE120.out) | exact HB.out))) : w.heap.size ≤ gb121)); have n5_ := Aside0.mk ((by rw [hg]; exact Nat.ne_of_lt (blk_lt (g := gb120) (o := .cells #[.slice A0_0 l0_0.length c0_0, .int .i64 a0_1] 36 (0, 0)) (by (with_reducible repeat (first | refine blk_drewN ?_ _ | refine blk_drew ?_ | refine blk_alloc ?_ _)); exact BK120.out)) : gb120 ≠ gb121)); have n6_ := Aside0.mk ((by rw [hg]; exact Nat.ne_of_gt (blk_lt (g := gb120) (o := .cells #[.slice A0_0 l0_0.length c0_0, .int .i64 a0_1] 36 (0, 0)) (by (with_reducible repeat (first | refine blk_drewN ?_ _ | refine blk_drew ?_ | refine blk_alloc ?_ _)); exact BK120.out)) : gb121 ≠ gb120)); clear BK120; clear HB; have BK120 := n0_; have HB := n1_; have BK121 := n2_; have GW121 := n3_; have GE121 := n4_; have NB120_121 := n5_; have NB121_120 := n6_; clear n0_ n1_ n2_ n3_ n4_ n5_ n6_; clear hb hbox hg; have hnb7 := NB120_121.out; have hnc7 := NB121_120.out; have hcz8_0 : w6.cell? ⟨gb120, 0, none⟩ = some (.slice A0_0 l0_0.length c0_0) := (blk_cell BK120.out 0).trans rfl; have hcz8_1 : w6.cell? ⟨gb120, 1, none⟩ = some (.int .i64 a0_1) := (blk_cell BK120.out 1).trans rfl; have hfz8_0 := blk_frozen BK120.out 0; have hfz8_1 := blk_frozen BK120.out 1) | ((with_reducible refine gate_builtin (b := .append) (xs := #[.const (.slice none 0 0), .tmp 11]) rfl ?_); (try (refine gate_guard (by rfl) ?_; dsimp only)); at_builtin; refine Kd.R_append_rows (Kd.int .u8) (w0 := w) w.heap.size rfl (.const (.slice none 0 0)) (.tmp 11) 22 5 (.int .u8 0) 1 rfl Try.underlying22 info5 rfl (by decide) (by omega) (.slice none 0 0) ([] : List Int) l0_0 _ _ _ (fun _ => True) (fun _ => False) rfl rfl ?aO ?aR (fun _ _ h => h) (fun _ h => h.elim) ?aF ?aB ?aS ?aL ?_; (case aR => repeat (first | exact (Kd.C_below HR0_0.out HB.out) | (with_reducible refine Kd.C_alloc ?_ _) | (with_reducible refine Kd.C_drewN ?_ _) | (with_reducible refine Kd.C_drew ?_))); (case aB => exact (by repeat (first | (with_reducible first | exact HB.out | apply below_alloc | apply pw_below_drewN | apply below_drew1 | refine below_set ?_ GE120.out | refine below_set ?_ GE121.out) | exact HB.out))); (case aF => exact (fun _ _ => trivial)); (case aO => exact ((Kd.R_nil _ _ _ _ (fun _ => True)))); (case aS => exact (below_size (by repeat (first | (with_reducible first | exact HB.out | apply below_alloc | apply pw_below_drewN | apply below_drew1 | refine below_set ?_ GE120.out | refine below_set ?_ GE121.out) | exact HB.out)))); (case aL => have := LMc3.out; omega); intro v123 w9 ho hb hg hat; rw [← Ny122.out] at ho; have n0_ := Aside0.mk (blk_grown (g := gb120) (o := .cells #[.slice A0_0 l0_0.length c0_0, .int .i64 a0_1] 36 (0, 0)) (by (with_reducible repeat (first | refine blk_drewN ?_ _ | refine blk_drew ?_ | refine blk_alloc ?_ _)); exact BK120.out) hg (by simp [Value.ownBlock])); have n1_ := Aside0.mk (blk_grown (g := gb121) (o := .cells #[.slice none 0 0, .int .i64 0] 36 (0, 0)) (by (with_reducible repeat (first | refine blk_drewN ?_ _ | refine blk_drew ?_ | refine blk_alloc ?_ _)); exact BK121.out) hg (by simp [Value.ownBlock])); have n2_ := Aside0.mk (hb); have n3_ := Aside0.mk (ho); clear BK120; clear BK121; clear HB; have BK120 := n0_; have BK121 := n1_; have HB := n2_; have HO124 := n3_; clear n0_ n1_ n2_ n3_; clear ho hb hg hat) | ((with_reducible refine gate_builtin (b := .append) (xs := #[.tmp 12, .tmp 13]) rfl ?_); (try (refine gate_guard (by rfl) ?_; dsimp only)); at_builtin; refine Kd.R_append_rows (Kd.int .u8) (w0 := w) w.heap.size rfl (.tmp 12) (.tmp 13) 22 5 (.int .u8 0) 1 rfl Try.underlying22 info5 rfl (by decide) (by omega) v123 y122 l1 _ _ _ (fun _ => True) (fun _ => False) rfl rfl ?aO ?aR (fun _ _ h => h) (fun _ h => h.elim) ?aF ?aB ?aS ?aL ?_; (case aR => repeat (first | exact (Kd.C_below HR1.out HB.out) | (with_reducible refine Kd.C_alloc ?_ _) | (with_reducible refine Kd.C_drewN ?_ _) | (with_reducible refine Kd.C_drew ?_))); (case aB => exact (by repeat (first | (with_reducible first | exact HB.out | apply below_alloc | apply pw_below_drewN | apply below_drew1 | refine below_set ?_ GE120.out | refine below_set ?_ GE121.out) | exact HB.out))); (case aF => exact (fun _ _ => trivial)); (case aO => exact (by (with_reducible repeat (first | apply Kd.R_alloc | apply Kd.R_drewN | apply Kd.R_drew)); exact HO124.out)); (case aS => exact (below_size (by repeat (first | (with_reducible first | exact HB.out | apply below_alloc | apply pw_below_drewN | apply below_drew1 | refine below_set ?_ GE120.out | refine below_set ?_ GE121.out) | exact HB.out)))); (case aL => have := LMc4.out; omega); intro v126 w10 ho hb hg hat; rw [← Ny125.out] at ho; have n0_ := Aside0.mk (blk_grown (g := gb120) (o := .cells #[.slice A0_0 l0_0.length c0_0, .int .i64 a0_1] 36 (0, 0)) (by (with_reducible repeat (first | refine blk_drewN ?_ _ | refine blk_drew ?_ | refine blk_alloc ?_ _)); exact BK120.out) hg (Kd.R_ne HO124.out BK120.out (by decide))); have n1_ := Aside0.mk (blk_grown (g := gb121) (o := .cells #[.slice none 0 0, .int .i64 0] 36 (0, 0)) (by (with_reducible repeat (first | refine blk_drewN ?_ _ | refine blk_drew ?_ | refine blk_alloc ?_ _)); exact BK121.out) hg (Kd.R_ne HO124.out BK121.out (by decide))); have n2_ := Aside0.mk (hb); have n3_ := Aside0.mk (ho); clear BK120; clear BK121; clear HB; clear HO124; have BK120 := n0_; have BK121 := n1_; have HB := n2_; have HO127 := n3_; clear n0_ n1_ n2_ n3_; clear ho hb hg hat; have hcz11_0 : w10.cell? ⟨gb120, 0, none⟩ = some (.slice A0_0 l0_0.length c0_0) := (blk_cell BK120.out 0).trans rfl; have hcz11_1 : w10.cell? ⟨gb120, 1, none⟩ = some (.int .i64 a0_1) := (blk_cell BK120.out 1).trans rfl; have hfz11_0 := blk_frozen BK120.out 0; have hfz11_1 := blk_frozen BK120.out 1))
 go_loopg [6, 7, 8] k (fun kq v6 v7 v8 w' => ∃ (x6_1 : List Int) (x7_1 : List (S24)) (x8_1 : Int), v8 = .int .i64 x8_1 ∧ Aside0 (telegram_Feed.l0 kq x6_1 x7_1 x8_1 = some (r1, r2, r3)) ∧ Aside0 (kq ≤ k) ∧ Aside0 (Kd.Q (Kd.int .u8) 5 w' w.heap.size (fun _ => True) v6 x6_1) ∧ Aside0 (Kd.S k24 24 w' w.heap.size (fun k_ => some k_ ≠ (v6 : Value).ownBlock) v7 x7_1) ∧ Aside0 (w'.heap[gb120]? = some (.cells #[(.slice A0_0 l0_0.length c0_0), .int .i64 a0_1] 36 (0, 0))) ∧ Aside0 (w'.heap[gb121]? = some (.cells #[(.slice none 0 0), .int .i64 0] 36 (0, 0))) ∧ Aside0 (Below w.heap.size w w'))
 case atStart => exact ⟨(y125), (([] : List (S24))), (a0_1), (by first | rfl | (simp; done) | (simp [*]; done)), H', ⟨Nat.le_refl _⟩, ⟨Kd.Q_of_R (by (with_reducible repeat (first | apply Kd.R_alloc | apply Kd.R_drewN | apply Kd.R_drew)); exact HO127.out)⟩, ⟨by first | exact Kd.S_nil _ _ _ _ _ | exact Kd.N_nil _ _ _ _ _ | exact Kd.V_nil _ _ _ _ _ | exact Kd.Q_nil _ _ _ _ _ | exact Kd.R_nil _ _ _ _ _⟩, ⟨by (with_reducible repeat (first | refine blk_drewN ?_ _ | refine blk_drew ?_ | refine blk_alloc ?_ _)); exact BK120.out⟩, ⟨by (with_reducible repeat (first | refine blk_drewN ?_ _ | refine blk_drew ?_ | refine blk_alloc ?_ _)); exact BK121.out⟩, ⟨by repeat (first | (with_reducible first | exact HB.out | apply below_alloc | apply pw_below_drewN | apply below_drew1 | refine below_set ?_ GE120.out | refine below_set ?_ GE121.out) | exact HB.out)⟩⟩
 case round =>
  clear H'
  try clear c1; try clear p2; try clear c3; try clear c4; try clear c7; try clear hcz11_0; try clear hcz11_1; try clear hcz8_0; try clear hcz8_1; try clear hfz11_0; try clear hfz11_1; try clear hfz8_0; try clear hfz8_1
  obtain ⟨x6_1, x7_1, x8_1, rfl, HA, HK1, HO_6, HO_7, BK120, BK121, HB⟩ := hrel
  cases gk with
  | zero => exact absurd HA.out (by simp [telegram_Feed.l0])
  | succ k1 =>
   have H := HA.out
   clear HA
   simp only [telegram_Feed.l0] at H
   by_cases c12 : (x6_1.length : Int) > 0
   ·
    rw [if_pos c12] at H
    have c12b0 : decide (0 < (x6_1.length : Int)) = true := decide_eq_true c12
    have c12b1 : decide (0 < x6_1.length) = true := decide_eq_true (by omega)
    clear c12
    have HC13 := Aside0.mk H
    clear H
    obtain ⟨Ao14, co14, eo14, _⟩ := Kd.Q_slice HO_6.out
    subst eo14
    go_upto_region 5 with (fail)
    go_cut [35] (fun v35 wc => ∃ (kq : Nat) (x35_12 : Bool), v35 = .bool x35_12 ∧ Aside0 (telegram_Feed.j1 kq x6_1 x7_1 x8_1 x35_12 = some (r1, r2, r3)) ∧ Aside0 (kq ≤ k1) ∧ Aside0 (Kd.Q (Kd.int .u8) 5 wc w.heap.size (fun _ => True) (.slice Ao14 x6_1.length co14) x6_1) ∧ Aside0 (Kd.S k24 24 wc w.heap.size (fun k_ => some k_ ≠ ((.slice Ao14 x6_1.length co14) : Value).ownBlock) u7 x7_1) ∧ Aside0 (wc.heap[gb120]? = some (.cells #[(.slice A0_0 l0_0.length c0_0), .int .i64 a0_1] 36 (0, 0))) ∧ Aside0 (wc.heap[gb121]? = some (.cells #[(.slice none 0 0), .int .i64 0] 36 (0, 0))) ∧ Aside0 (Below w.heap.size w wc))
    case first =>
     have H := HC13.out
     clear HC13
     by_cases c15 : 0 < (x6_1.length : Int)
     rotate_left
     ·
      rw [if_neg c15] at H
      exact absurd H (by simp)
     rw [if_pos c15] at H
     have c15b0 : decide (0 < (x6_1.length : Int)) = true := decide_eq_true c15
     have c15b1 : decide (0 < x6_1.length) = true := decide_eq_true (by omega)
     clear c15
     (first | rw [c15b0] | (simp only [i64_w, i32_w]; rw [c15b0]) | skip)
     by_cases c16 : (rd x6_1 0) = 126
     ·
      rw [if_pos c16] at H
      have c16b0 : ((rd x6_1 0) == 126) = true := beq_iff_eq.mpr c16
      have c16b1 : ((rd x6_1 0) != 126) = false := bne_eq_false_iff_eq.mpr c16
      clear c16
      by_cases c17 : (x6_1.length : Int) > 1
      ·
       rw [if_pos c17] at H
       have c17b0 : decide (1 < (x6_1.length : Int)) = true := decide_eq_true c17
       have c17b1 : decide (1 < x6_1.length) = true := decide_eq_true (by omega)
       clear c17
       by_cases c18 : 1 < (x6_1.length : Int)
       rotate_left
       ·
        rw [if_neg c18] at H
        exact absurd H (by simp)
       rw [if_pos c18] at H
       have c18b0 : decide (1 < (x6_1.length : Int)) = true := decide_eq_true c18
       have c18b1 : decide (1 < x6_1.length) = true := decide_eq_true (by omega)
       clear c18
       have H' := Aside0.mk H
       clear H
       have p131 : 0 ≤ (0 : Int) := (by omega)
       have q131 : 0 < (x6_1.length : Int) := of_decide_eq_true (by first | (with_reducible assumption) | assumption)
       obtain ⟨ad131, e131, hx131_0⟩ := Kd.at_int (Kd.Q_reads' HO_6.out).2.2 0 p131 q131
       cases e131
       have qi131 : (0 < x6_1.length) = True := eq_true (by omega)
       (try rw [show ((0 : Int)).toNat = 0 from rfl] at hx131_0)
       (try rw [Addr.add_zero'] at hx131_0)
       replace p131 := eq_true p131
       replace q131 := eq_true q131
       have p132 : 0 ≤ (1 : Int) := (by omega)
       have q132 : 1 < (x6_1.length : Int) := of_decide_eq_true (by first | (with_reducible assumption) | assumption)
       obtain ⟨ad132, e132, hx132_0⟩ := Kd.at_int (Kd.Q_reads' HO_6.out).2.2 1 p132 q132
       obtain rfl : ad131 = ad132 := (by injection e132)
       (try simp only [show (1 : Int).toNat = 1 from rfl, Nat.reduceMul, Nat.reduceEqDiff, Go.Addr.add, ↓reduceIte] at hx132_0)
       have qi132 : (1 < x6_1.length) = True := eq_true (by omega)
       (try rw [show ((1 : Int)).toNat = 1 from rfl] at hx132_0)
       replace p132 := eq_true p132
       replace q132 := eq_true q132
       go_wp2
       go_meet
       case rel => exact ⟨_, (decide ((wrap64 (rd x6_1 1)) > 64)), (by first | rfl | (simp; done) | (simp [*]; done)), H', ⟨by have := HK1.out; first | omega | exact Nat.le_refl _⟩, ⟨by (with_reducible repeat (first | apply Kd.Q_alloc | apply Kd.Q_drewN | apply Kd.Q_drew)); exact HO_6.out⟩, ⟨by (with_reducible repeat (first | apply Kd.S_alloc | apply Kd.S_drewN | apply Kd.S_drew)); exact HO_7.out⟩, ⟨by (with_reducible repeat (first | refine blk_drewN ?_ _ | refine blk_drew ?_ | refine blk_alloc ?_ _)); exact BK120.out⟩, ⟨by (with_reducible repeat (first | refine blk_drewN ?_ _ | refine blk_drew ?_ | refine blk_alloc ?_ _)); exact BK121.out⟩, ⟨by repeat (first | (with_reducible first | exact HB.out | apply below_alloc | apply pw_below_drewN | apply below_drew1 | refine below_set ?_ GE120.out | refine below_set ?_ GE121.out) | exact HB.out)⟩⟩
      ·
       rw [if_neg c17] at H
       have c17b0 : decide (1 < (x6_1.length : Int)) = false := decide_eq_false c17
       have c17b1 : decide (1 < x6_1.length) = false := decide_eq_false (by omega)
       clear c17
       have H' := Aside0.mk H
       clear H
       have p131 : 0 ≤ (0 : Int) := (by omega)
       have q131 : 0 < (x6_1.length : Int) := of_decide_eq_true (by first | (with_reducible assumption) | assumption)
       obtain ⟨ad131, e131, hx131_0⟩ := Kd.at_int (Kd.Q_reads' HO_6.out).2.2 0 p131 q131
       cases e131
       have qi131 : (0 < x6_1.length) = True := eq_true (by omega)
       (try rw [show ((0 : Int)).toNat = 0 from rfl] at hx131_0)
       (try rw [Addr.add_zero'] at hx131_0)
       replace p131 := eq_true p131
       replace q131 := eq_true q131
       go_wp2
       go_meet
       case rel => exact ⟨_, (false), (by first | rfl | (simp; done) | (simp [*]; done)), H', ⟨by have := HK1.out; first | omega | exact Nat.le_refl _⟩, ⟨by (with_reducible repeat (first | apply Kd.Q_alloc | apply Kd.Q_drewN | apply Kd.Q_drew)); exact HO_6.out⟩, ⟨by (with_reducible repeat (first | apply Kd.S_alloc | apply Kd.S_drewN | apply Kd.S_drew)); exact HO_7.out⟩, ⟨by (with_reducible repeat (first | refine blk_drewN ?_ _ | refine blk_drew ?_ | refine blk_alloc ?_ _)); exact BK120.out⟩, ⟨by (with_reducible repeat (first | refine blk_drewN ?_ _ | refine blk_drew ?_ | refine blk_alloc ?_ _)); exact BK121.out⟩, ⟨by repeat (first | (with_reducible first | exact HB.out | apply below_alloc | apply pw_below_drewN | apply below_drew1 | refine below_set ?_ GE120.out | refine below_set ?_ GE121.out) | exact HB.out)⟩⟩
     ·
      rw [if_neg c16] at H
      have c16b0 : ((rd x6_1 0) == 126) = false := beq_eq_false_iff_ne.mpr c16
      have c16b1 : ((rd x6_1 0) != 126) = true := bne_iff_ne.mpr c16
      have H' := Aside0.mk H
      clear H
      have p131 : 0 ≤ (0 : Int) := (by omega)
      have q131 : 0 < (x6_1.length : Int) := of_decide_eq_true (by first | (with_reducible assumption) | assumption)
      obtain ⟨ad131, e131, hx131_0⟩ := Kd.at_int (Kd.Q_reads' HO_6.out).2.2 0 p131 q131
      cases e131
      have qi131 : (0 < x6_1.length) = True := eq_true (by omega)
      (try rw [show ((0 : Int)).toNat = 0 from rfl] at hx131_0)
      (try rw [Addr.add_zero'] at hx131_0)
      replace p131 := eq_true p131
      replace q131 := eq_true q131
      go_wp2
      go_meet
      case rel => exact ⟨_, (true), (by first | rfl | (simp; done) | (simp [*]; done)), H', ⟨by have := HK1.out; first | omega | exact Nat.le_refl _⟩, ⟨by (with_reducible repeat (first | apply Kd.Q_alloc | apply Kd.Q_drewN | apply Kd.Q_drew)); exact HO_6.out⟩, ⟨by (with_reducible repeat (first | apply Kd.S_alloc | apply Kd.S_drewN | apply Kd.S_drew)); exact HO_7.out⟩, ⟨by (with_reducible repeat (first | refine blk_drewN ?_ _ | refine blk_drew ?_ | refine blk_alloc ?_ _)); exact BK120.out⟩, ⟨by (with_reducible repeat (first | refine blk_drewN ?_ _ | refine blk_drew ?_ | refine blk_alloc ?_ _)); exact BK121.out⟩, ⟨by repeat (first | (with_reducible first | exact HB.out | apply below_alloc | apply pw_below_drewN | apply below_drew1 | refine below_set ?_ GE120.out | refine below_set ?_ GE121.out) | exact HB.out)⟩⟩
    case rest =>
     clear HC13
     try clear c1; try clear p1; try clear q1; try clear hx1; try clear qi1; try clear p2; try clear c3; try clear c4; try clear p6; try clear c7; try clear c12; try clear c12b0; try clear c12b1; try clear p13; try clear q13; try clear hx13; try clear qi13; try clear c15; try clear c15b0; try clear c15b1
     try clear c16; try clear c16b0; try clear c16b1; try clear c17; try clear c17b0; try clear c17b1; try clear c18; try clear c18b0; try clear c18b1; try clear hcz11_0; try clear hcz11_1; try clear hcz8_0; try clear hcz8_1; try clear hfz11_0; try clear hfz11_1; try clear hfz8_0; try clear hfz8_1; try clear hx131_0
     try clear hx132_0; try clear p131; try clear p132; try clear p2; try clear q131; try clear q132
     obtain ⟨kq, x35_12, rfl, HA, HJ12, HO_6, HO_7, BK120, BK121, HB⟩ := hcut
     cases kq with
     | zero => exact absurd HA.out (by simp [telegram_Feed.j1])
     | succ kj12 =>
      have H := HA.out
      clear HA
      simp only [telegram_Feed.j1] at H
      by_cases c19 : x35_12 = true
      ·
       subst c19
       have H1 : (if 1 ≤ (x6_1.length : Int) then (telegram_Feed.l0 kj12 (x6_1.drop (1 : Int).toNat) x7_1 (wrap64 (x8_1 + 1))) else (none)) = some (r1, r2, r3) := by rw [if_pos rfl] at H; exact H
       clear H
       have H := H1
       clear H1
       by_cases c20 : 1 ≤ (x6_1.length : Int)
       rotate_left
       ·
        rw [if_neg c20] at H
        exact absurd H (by simp)
       rw [if_pos c20] at H
       have c20b0 := eq_true c20
       have c20b1 : decide (1 ≤ (x6_1.length : Int)) = true := decide_eq_true c20
       clear c20
       obtain ⟨y133, hy133⟩ : ∃ y_ : List Int, y_ = (x6_1.drop (1 : Int).toNat) := ⟨_, rfl⟩
       replace H : (telegram_Feed.l0 kj12 y133 x7_1 (wrap64 (x8_1 + 1))) = some (r1, r2, r3) := by first | (rw [hy133]; with_reducible exact H) | (have H2_ := (Option.bind_some _ _).symm.trans H; rw [hy133]; with_reducible exact H2_) | (have H2_ := (Option.bind_some _ _).symm.trans H; with_reducible exact H2_) | with_reducible exact H | (rw [hy133]; exact H) | exact H
       have Ny133 := Aside0.mk hy133
       clear hy133
       have H' := Aside0.mk H
       clear H
       have q21 : (1 : Int) ≤ ((x6_1.length : Int) : Int) := of_decide_eq_true (by first | (with_reducible assumption) | assumption)
       obtain ⟨i021, hi021, _, hsz21, _⟩ := info_parts info5
       have hcut21 := cut_from (P := Try.prog) 22 5 .i64 Try.underlying22 hi021 1 hsz21 Ao14 x6_1.length co14 1 (by omega) q21
       have hr21 := Kd.Q_drop (k := (1 : Int).toNat) HO_6.out (by omega)
       obtain ⟨A21, hA21⟩ : ∃ A1, A1 = (if co14 = (1 : Int).toNat then Ao14 else (Ao14 : Option Addr).map (·.add ((1 : Int).toNat * 1))) := ⟨_, rfl⟩
       obtain ⟨c21, hc21⟩ : ∃ c1, c1 = co14 - (1 : Int).toNat := ⟨_, rfl⟩
       have hy21 : y133.length = x6_1.length - (1 : Int).toNat := (by rw [Ny133.out, List.length_drop])
       rw [← Ny133.out] at hr21
       rw [← hy21, ← hA21, ← hc21] at hcut21
       replace hr21 : Kd.Q (Kd.int .u8) 5 wc w.heap.size (fun _ => True) (.slice A21 y133.length c21) y133 := (by rw [hA21, hc21, hy21]; exact hr21)
       have HE21 : Aside0 ((Value.slice A21 y133.length c21).ownBlock = (.slice Ao14 x6_1.length co14 : Value).ownBlock) := ⟨by rw [hA21]; split <;> (first | rfl | (simp only [Option.map_some, Value.ownBlock, add_block]; done) | (cases (Ao14 : Option Addr) <;> first | rfl | (simp [Value.ownBlock, add_block]; done)))⟩
       clear hy21 hi021 hsz21 HO_6 hA21 hc21
       have HO135 := Aside0.mk hr21
       clear hr21
       replace q21 := eq_true q21
       have n_ := Aside0.mk (Kd.S_mono (ok' := fun k_ => some k_ ≠ (.slice A21 y133.length c21 : Value).ownBlock) HO_7.out (fun k_ hk => (by rw [HE21.out]; exact hk)))
       clear HO_7
       have HO_7 := n_
       clear n_
       go_wp2
       go_roundg kj12
       case measure => have := HK1.out; have := HJ12.out; omega
       case rel => exact ⟨(y133), (x7_1), (wrap64 (x8_1 + 1)), (by first | rfl | (simp; done) | (simp [*]; done)), H', ⟨by have := HK1.out; have := HJ12.out; omega⟩, ⟨by (with_reducible repeat (first | apply Kd.Q_alloc | apply Kd.Q_drewN | apply Kd.Q_drew)); exact HO135.out⟩, ⟨by (with_reducible repeat (first | apply Kd.S_alloc | apply Kd.S_drewN | apply Kd.S_drew)); exact HO_7.out⟩, ⟨by (with_reducible repeat (first | refine blk_drewN ?_ _ | refine blk_drew ?_ | refine blk_alloc ?_ _)); exact BK120.out⟩, ⟨by (with_reducible repeat (first | refine blk_drewN ?_ _ | refine blk_drew ?_ | refine blk_alloc ?_ _)); exact BK121.out⟩, ⟨by repeat (first | (with_reducible first | exact HB.out | apply below_alloc | apply pw_below_drewN | apply below_drew1 | refine below_set ?_ GE120.out | refine below_set ?_ GE121.out) | exact HB.out)⟩⟩
      ·
       replace c19 := Bool.eq_false_iff.mpr c19
       subst c19
       have H1 : (if (x6_1.length : Int) < 2 then (telegram_Feed.j2 kj12 x6_1 x7_1 x8_1 true) else (if 1 < (x6_1.length : Int) then (telegram_Feed.j2 kj12 x6_1 x7_1 x8_1 (decide ((x6_1.length : Int) < (wrap64 ((wrap64 (rd x6_1 1)) + 6))))) else (none))) = some (r1, r2, r3) := by rw [if_neg (show ¬ (false = true) by decide)] at H; exact H
       clear H
       have H := H1
       clear H1
       have HC22 := Aside0.mk H
       clear H
       go_upto_region 7 with (fail)
       go_cut [52] (fun v52 wc => ∃ (kq : Nat) (x52_21 : Bool), v52 = .bool x52_21 ∧ Aside0 (telegram_Feed.j2 kq x6_1 x7_1 x8_1 x52_21 = some (r1, r2, r3)) ∧ Aside0 (kq ≤ kj12) ∧ Aside0 (Kd.Q (Kd.int .u8) 5 wc w.heap.size (fun _ => True) (.slice Ao14 x6_1.length co14) x6_1) ∧ Aside0 (Kd.S k24 24 wc w.heap.size (fun k_ => some k_ ≠ ((.slice Ao14 x6_1.length co14) : Value).ownBlock) u7 x7_1) ∧ Aside0 (wc.heap[gb120]? = some (.cells #[(.slice A0_0 l0_0.length c0_0), .int .i64 a0_1] 36 (0, 0))) ∧ Aside0 (wc.heap[gb121]? = some (.cells #[(.slice none 0 0), .int .i64 0] 36 (0, 0))) ∧ Aside0 (Below w.heap.size w wc))
       case first =>
        have H := HC22.out
        clear HC22
        by_cases c23 : (x6_1.length : Int) < 2
        ·
         rw [if_pos c23] at H
         have c23b0 : decide ((x6_1.length : Int) < 2) = true := decide_eq_true c23
         have c23b1 : decide (x6_1.length < 2) = true := decide_eq_true (by omega)
         clear c23
         (first | rw [c23b0] | (simp only [i64_w, i32_w]; rw [c23b0]) | skip)
         have H' := Aside0.mk H
         clear H
         go_wp2
         go_meet
         case rel => exact ⟨_, (true), (by first | rfl | (simp; done) | (simp [*]; done)), H', ⟨by have := HK1.out; have := HJ12.out; first | omega | exact Nat.le_refl _⟩, ⟨by (with_reducible repeat (first | apply Kd.Q_alloc | apply Kd.Q_drewN | apply Kd.Q_drew)); exact HO_6.out⟩, ⟨by (with_reducible repeat (first | apply Kd.S_alloc | apply Kd.S_drewN | apply Kd.S_drew)); exact HO_7.out⟩, ⟨by (with_reducible repeat (first | refine blk_drewN ?_ _ | refine blk_drew ?_ | refine blk_alloc ?_ _)); exact BK120.out⟩, ⟨by (with_reducible repeat (first | refine blk_drewN ?_ _ | refine blk_drew ?_ | refine blk_alloc ?_ _)); exact BK121.out⟩, ⟨by repeat (first | (with_reducible first | exact HB.out | apply below_alloc | apply pw_below_drewN | apply below_drew1 | refine below_set ?_ GE120.out | refine below_set ?_ GE121.out) | exact HB.out)⟩⟩
        ·
         rw [if_neg c23] at H
         have c23b0 : decide ((x6_1.length : Int) < 2) = false := decide_eq_false c23
         have c23b1 : decide (x6_1.length < 2) = false := decide_eq_false (by omega)
         clear c23
         (first | rw [c23b0] | (simp only [i64_w, i32_w]; rw [c23b0]) | skip)
         by_cases c24 : 1 < (x6_1.length : Int)
         rotate_left
         ·
          rw [if_neg c24] at H
          exact absurd H (by simp)
         rw [if_pos c24] at H
         have c24b0 : decide (1 < (x6_1.length : Int)) = true := decide_eq_true c24
         have c24b1 : decide (1 < x6_1.length) = true := decide_eq_true (by omega)
         clear c24
         have H' := Aside0.mk H
         clear H
         have p136 : 0 ≤ (1 : Int) := (by omega)
         have q136 : 1 < (x6_1.length : Int) := of_decide_eq_true (by first | (with_reducible assumption) | assumption)
         obtain ⟨ad136, e136, hx136_0⟩ := Kd.at_int (Kd.Q_reads' HO_6.out).2.2 1 p136 q136
         cases e136
         (try simp only [show (1 : Int).toNat = 1 from rfl, Nat.reduceMul, Nat.reduceEqDiff, Go.Addr.add, ↓reduceIte] at hx136_0)
         have qi136 : (1 < x6_1.length) = True := eq_true (by omega)
         (try rw [show ((1 : Int)).toNat = 1 from rfl] at hx136_0)
         replace p136 := eq_true p136
         replace q136 := eq_true q136
         go_wp2
         go_meet
         case rel => exact ⟨_, (decide ((x6_1.length : Int) < (wrap64 ((wrap64 (rd x6_1 1)) + 6)))), (by first | rfl | (simp; done) | (simp [*]; done)), H', ⟨by have := HK1.out; have := HJ12.out; first | omega | exact Nat.le_refl _⟩, ⟨by (with_reducible repeat (first | apply Kd.Q_alloc | apply Kd.Q_drewN | apply Kd.Q_drew)); exact HO_6.out⟩, ⟨by (with_reducible repeat (first | apply Kd.S_alloc | apply Kd.S_drewN | apply Kd.S_drew)); exact HO_7.out⟩, ⟨by (with_reducible repeat (first | refine blk_drewN ?_ _ | refine blk_drew ?_ | refine blk_alloc ?_ _)); exact BK120.out⟩, ⟨by (with_reducible repeat (first | refine blk_drewN ?_ _ | refine blk_drew ?_ | refine blk_alloc ?_ _)); exact BK121.out⟩, ⟨by repeat (first | (with_reducible first | exact HB.out | apply below_alloc | apply pw_below_drewN | apply below_drew1 | refine below_set ?_ GE120.out | refine below_set ?_ GE121.out) | exact HB.out)⟩⟩
       case rest =>
        clear HC22
        try clear c1; try clear p1; try clear q1; try clear hx1; try clear qi1; try clear c2; try clear p2; try clear q2; try clear c3; try clear c4; try clear p6; try clear c7; try clear c12; try clear c12b0; try clear c12b1; try clear p13; try clear q13; try clear hx13; try clear qi13; try clear c15; try clear c15b0
        try clear c15b1; try clear c16; try clear c16b0; try clear c16b1; try clear c17; try clear c17b0; try clear c17b1; try clear c18; try clear c18b0; try clear c18b1; try clear c19; try clear c20; try clear c20b0; try clear c20b1; try clear c21; try clear q21; try clear c23; try clear c23b0; try clear c23b1
        try clear c24; try clear c24b0; try clear c24b1; try clear hcz11_0; try clear hcz11_1; try clear hcz8_0; try clear hcz8_1; try clear hfz11_0; try clear hfz11_1; try clear hfz8_0; try clear hfz8_1; try clear hx131_0; try clear hx132_0; try clear hx136_0; try clear p1; try clear p13; try clear p131; try clear p132
        try clear p136; try clear p2; try clear p6; try clear q1; try clear q13; try clear q131; try clear q132; try clear q136; try clear q21
        obtain ⟨kq, x52_21, rfl, HA, HJ21, HO_6, HO_7, BK120, BK121, HB⟩ := hcut
        cases kq with
        | zero => exact absurd HA.out (by simp [telegram_Feed.j2])
        | succ kj21 =>
         have H := HA.out
         clear HA
         simp only [telegram_Feed.j2] at H
         by_cases c25 : x52_21 = true
         ·
          subst c25
          have H1 : (if ([] : List Int).length + x6_1.length < 140737488355328 then (some ((([] : List Int) ++ x6_1), x8_1, x7_1)) else (none)) = some (r1, r2, r3) := by rw [if_pos rfl] at H; exact H
          clear H
          have H := H1
          clear H1
          by_cases c26 : ([] : List Int).length + x6_1.length < 140737488355328
          rotate_left
          ·
           rw [if_neg c26] at H
           exact absurd H (by simp)
          rw [if_pos c26] at H
          have LMc26 := Aside0.mk c26
          clear c26
          obtain ⟨y137, hy137⟩ : ∃ y_ : List Int, y_ = (([] : List Int) ++ x6_1) := ⟨_, rfl⟩
          replace H : (some (y137, x8_1, x7_1)) = some (r1, r2, r3) := by first | (rw [hy137]; with_reducible exact H) | (have H2_ := (Option.bind_some _ _).symm.trans H; rw [hy137]; with_reducible exact H2_) | (have H2_ := (Option.bind_some _ _).symm.trans H; with_reducible exact H2_) | with_reducible exact H | (rw [hy137]; exact H) | exact H
          have Ny137 := Aside0.mk hy137
          clear hy137
          simp only [Option.some.injEq, Prod.mk.injEq] at H
          obtain ⟨rfl, rfl, rfl⟩ := H
          go_wp2_with (first | ((with_reducible refine gate_builtin (b := .append) (xs := #[.const (.slice none 0 0), .tmp 102]) rfl ?_); (try (refine gate_guard (by rfl) ?_; dsimp only)); at_builtin; refine Kd.R_append_rows (Kd.int .u8) (w0 := w) w.heap.size rfl (.const (.slice none 0 0)) (.tmp 102) 22 5 (.int .u8 0) 1 rfl Try.underlying22 info5 rfl (by decide) (by omega) (.slice none 0 0) ([] : List Int) x6_1 _ _ _ (fun k_ => some k_ ≠ (.slice Ao14 x6_1.length co14 : Value).ownBlock) (fun _ => False) rfl rfl ?aO ?aR (fun _ _ h => h) (fun _ h => h.elim) ?aF ?aB ?aS ?aL ?_; (case aR => repeat (first | exact (Kd.Q_reads' HO_6.out).2.2 | (with_reducible refine Kd.C_alloc ?_ _) | (with_reducible refine Kd.C_drewN ?_ _) | (with_reducible refine Kd.C_drew ?_))); (case aB => exact (by repeat (first | (with_reducible first | exact HB.out | apply below_alloc | apply pw_below_drewN | apply below_drew1 | refine below_set ?_ GE120.out | refine below_set ?_ GE121.out) | exact HB.out))); (case aF => exact (fun k_ hk => Kd.fresh' (Kd.Q_lt (by (with_reducible repeat (first | apply Kd.Q_alloc | apply Kd.Q_drewN | apply Kd.Q_drew)); exact HO_6.out)) k_ hk)); (case aO => exact ((Kd.R_nil _ _ _ _ (fun k_ => some k_ ≠ (.slice Ao14 x6_1.length co14 : Value).ownBlock)))); (case aS => exact (below_size (by repeat (first | (with_reducible first | exact HB.out | apply below_alloc | apply pw_below_drewN | apply below_drew1 | refine below_set ?_ GE120.out | refine below_set ?_ GE121.out) | exact HB.out)))); (case aL => have := LMc26.out; omega); intro v138 w27 ho hb hg hat; rw [← Ny137.out] at ho; have n0_ := Aside0.mk (Kd.Q_after (Kd.Q_apart_nil (by (with_reducible repeat (first | apply Kd.Q_alloc | apply Kd.Q_drewN | apply Kd.Q_drew)); exact HO_6.out)) hg hat); have n1_ := Aside0.mk (Kd.S_after (Kd.S_apart_nil (by (with_reducible repeat (first | apply Kd.S_alloc | apply Kd.S_drewN | apply Kd.S_drew)); exact HO_7.out)) hg hat); have n2_ := Aside0.mk (blk_grown (g := gb120) (o := .cells #[.slice A0_0 l0_0.length c0_0, .int .i64 a0_1] 36 (0, 0)) (by (with_reducible repeat (first | refine blk_drewN ?_ _ | refine blk_drew ?_ | refine blk_alloc ?_ _)); exact BK120.out) hg (by simp [Value.ownBlock])); have n3_ := Aside0.mk (blk_grown (g := gb121) (o := .cells #[.slice none 0 0, .int .i64 0] 36 (0, 0)) (by (with_reducible repeat (first | refine blk_drewN ?_ _ | refine blk_drew ?_ | refine blk_alloc ?_ _)); exact BK121.out) hg (by simp [Value.ownBlock])); have n4_ := Aside0.mk (hb); have n5_ := Aside0.mk (ho); clear HO_6; clear HO_7; clear BK120; clear BK121; clear HB; have HO_6 := n0_; have HO_7 := n1_; have BK120 := n2_; have BK121 := n3_; have HB := n4_; have HO139 := n5_; clear n0_ n1_ n2_ n3_ n4_ n5_; clear ho hb hg hat; obtain ⟨Ao28, co28, eo28⟩ := Kd.R_slice HO139.out; subst eo28; have hnb29 := NB121_120.out; have hnc29 := NB120_121.out; have hcz30_0 : w27.cell? ⟨gb121, 0, none⟩ = some (.slice none 0 0) := (blk_cell BK121.out 0).trans rfl; have hcz30_1 : w27.cell? ⟨gb121, 1, none⟩ = some (.int .i64 0) := (blk_cell BK121.out 1).trans rfl; have hfz30_0 := blk_frozen BK121.out 0; have hfz30_1 := blk_frozen BK121.out 1))
          refine bodyPost_ret (results_ct rfl _ _ gb121 36 #[.slice Ao28 y137.length co28, .int .i64 x8_1] (0, 0) _ rfl (by (with_reducible repeat (first | refine blk_drewN ?_ _ | refine blk_drew ?_ | refine blk_alloc ?_ _)); refine blk_put (cs := #[.slice Ao28 y137.length co28, .int .i64 0]) ?_ 1 _ rfl; (with_reducible repeat (first | refine blk_drewN ?_ _ | refine blk_drew ?_ | refine blk_alloc ?_ _)); refine blk_put (cs := #[.slice none 0 0, .int .i64 0]) ?_ 0 _ rfl; (with_reducible repeat (first | refine blk_drewN ?_ _ | refine blk_drew ?_ | refine blk_alloc ?_ _)); exact BK121.out) Try.underlying36 rfl (by kernel_rfl)) rfl ?_
          exact ⟨_, _, by first | rfl | (simp [errW_none, errW_some] <;> rfl) | (simp [*, errW_none, errW_some] <;> rfl), by (with_reducible repeat (first | apply Kd.R_alloc | apply Kd.R_drewN | apply Kd.R_drew)); exact Kd.R_mono (Kd.R_far (p := ⟨gb121, 1, none⟩) (Kd.R_far (p := ⟨gb121, 0, none⟩) (Kd.R_types HO139.out BK121.out (by decide)) (fun _ hk => hk.2) (.slice Ao28 y137.length co28)) (fun _ hk => hk.2) (.int .i64 x8_1)) (fun _ hk => trivial), by (with_reducible repeat (first | apply Kd.S_alloc | apply Kd.S_drewN | apply Kd.S_drew)); exact Kd.S_mono (Kd.S_far (p := ⟨gb121, 1, none⟩) (Kd.S_far (p := ⟨gb121, 0, none⟩) (Kd.S_types HO_7.out BK121.out (by decide)) (fun _ hk => hk.2) (.slice Ao28 y137.length co28)) (fun _ hk => hk.2) (.int .i64 x8_1)) (fun _ hk => hk.1.2), by repeat (first | (with_reducible first | exact HB.out | apply below_alloc | apply pw_below_drewN | apply below_drew1 | refine below_set ?_ GE120.out | refine below_set ?_ GE121.out) | exact HB.out)⟩
         ·
          replace c25 := Bool.eq_false_iff.mpr c25
          subst c25
          have H1 : (if 1 < (x6_1.length : Int) then (if 1 ≤ (wrap64 (4 + (wrap64 (rd x6_1 1)))) then (if (wrap64 (4 + (wrap64 (rd x6_1 1)))) ≤ (x6_1.length : Int) then ((telegram_Check.f kj21 ((x6_1.take ((wrap64 (4 + (wrap64 (rd x6_1 1)))) : Int).toNat).drop 1)).bind fun t145 => (if 0 ≤ (wrap64 (4 + (wrap64 (rd x6_1 1)))) then (if (wrap64 (4 + (wrap64 (rd x6_1 1)))) < (x6_1.length : Int) then (if 0 ≤ (wrap64 (5 + (wrap64 (rd x6_1 1)))) then (if (wrap64 (5 + (wrap64 (rd x6_1 1)))) < (x6_1.length : Int) then (if t145 = (Go.bits .or .i64 (wrap64 ((wrap64 (rd x6_1 (wrap64 (4 + (wrap64 (rd x6_1 1)))))) * 256)) (wrap64 (rd x6_1 (wrap64 (5 + (wrap64 (rd x6_1 1))))))) then (if 2 < (x6_1.length : Int) then (if 3 < (x6_1.length : Int) then (if 4 ≤ (wrap64 (4 + (wrap64 (rd x6_1 1)))) then ((some ((x6_1.take ((wrap64 (4 + (wrap64 (rd x6_1 1)))) : Int).toNat).drop 4 : List Int)).bind fun y150 => (if ([] : List Int).length + y150.length < 140737488355328 then (if x7_1.length < 3518437208883 then (if 0 ≤ (wrap64 ((wrap64 (rd x6_1 1)) + 6)) then (if (wrap64 ((wrap64 (rd x6_1 1)) + 6)) ≤ (x6_1.length : Int) then (telegram_Feed.l0 kj21 (x6_1.drop ((wrap64 ((wrap64 (rd x6_1 1)) + 6)) : Int).toNat) (x7_1 ++ [(⟨wrap64 (rd x6_1 2), wrap64 (rd x6_1 3), (([] : List Int) ++ y150)⟩ : S24)]) x8_1) else (none)) else (none)) else (none)) else (none))) else (none)) else (none)) else (none)) else (if 1 ≤ (x6_1.length : Int) then (telegram_Feed.l0 kj21 (x6_1.drop (1 : Int).toNat) x7_1 (wrap64 (x8_1 + 1))) else (none))) else (none)) else (none)) else (none)) else (none))) else (none)) else (none)) else (none)) = some (r1, r2, r3) := by rw [if_neg (show ¬ (false = true) by decide)] at H; exact H
          clear H
          have H := H1
          clear H1
          by_cases c31 : 1 < (x6_1.length : Int)
          rotate_left
          ·
           rw [if_neg c31] at H
           exact absurd H (by simp)
          rw [if_pos c31] at H
          have c31b0 : decide (1 < (x6_1.length : Int)) = true := decide_eq_true c31
          have c31b1 : decide (1 < x6_1.length) = true := decide_eq_true (by omega)
          clear c31
          by_cases c32 : 1 ≤ (wrap64 (4 + (wrap64 (rd x6_1 1))))
          rotate_left
          ·
           rw [if_neg c32] at H
           exact absurd H (by simp)
          rw [if_pos c32] at H
          have c32b0 := eq_true c32
          have c32b1 : decide (1 ≤ (wrap64 (4 + (wrap64 (rd x6_1 1))))) = true := decide_eq_true c32
          by_cases c33 : (wrap64 (4 + (wrap64 (rd x6_1 1)))) ≤ (x6_1.length : Int)
          rotate_left
          ·
           rw [if_neg c33] at H
           exact absurd H (by simp)
          rw [if_pos c33] at H
          have c33b0 := eq_true c33
          have c33b1 : decide ((wrap64 (4 + (wrap64 (rd x6_1 1)))) ≤ (x6_1.length : Int)) = true := decide_eq_true c33
          obtain ⟨y141, hy141⟩ : ∃ y_ : List Int, y_ = ((x6_1.take ((wrap64 (4 + (wrap64 (rd x6_1 1)))) : Int).toNat).drop 1) := ⟨_, rfl⟩
          replace H : ((telegram_Check.f kj21 y141).bind fun t145 => (if 0 ≤ (wrap64 (4 + (wrap64 (rd x6_1 1)))) then (if (wrap64 (4 + (wrap64 (rd x6_1 1)))) < (x6_1.length : Int) then (if 0 ≤ (wrap64 (5 + (wrap64 (rd x6_1 1)))) then (if (wrap64 (5 + (wrap64 (rd x6_1 1)))) < (x6_1.length : Int) then (if t145 = (Go.bits .or .i64 (wrap64 ((wrap64 (rd x6_1 (wrap64 (4 + (wrap64 (rd x6_1 1)))))) * 256)) (wrap64 (rd x6_1 (wrap64 (5 + (wrap64 (rd x6_1 1))))))) then (if 2 < (x6_1.length : Int) then (if 3 < (x6_1.length : Int) then (if 4 ≤ (wrap64 (4 + (wrap64 (rd x6_1 1)))) then ((some ((x6_1.take ((wrap64 (4 + (wrap64 (rd x6_1 1)))) : Int).toNat).drop 4 : List Int)).bind fun y150 => (if ([] : List Int).length + y150.length < 140737488355328 then (if x7_1.length < 3518437208883 then (if 0 ≤ (wrap64 ((wrap64 (rd x6_1 1)) + 6)) then (if (wrap64 ((wrap64 (rd x6_1 1)) + 6)) ≤ (x6_1.length : Int) then (telegram_Feed.l0 kj21 (x6_1.drop ((wrap64 ((wrap64 (rd x6_1 1)) + 6)) : Int).toNat) (x7_1 ++ [(⟨wrap64 (rd x6_1 2), wrap64 (rd x6_1 3), (([] : List Int) ++ y150)⟩ : S24)]) x8_1) else (none)) else (none)) else (none)) else (none))) else (none)) else (none)) else (none)) else (if 1 ≤ (x6_1.length : Int) then (telegram_Feed.l0 kj21 (x6_1.drop (1 : Int).toNat) x7_1 (wrap64 (x8_1 + 1))) else (none))) else (none)) else (none)) else (none)) else (none))) = some (r1, r2, r3) := by first | (rw [hy141]; with_reducible exact H) | (have H2_ := (Option.bind_some _ _).symm.trans H; rw [hy141]; with_reducible exact H2_) | (have H2_ := (Option.bind_some _ _).symm.trans H; with_reducible exact H2_) | with_reducible exact H | (rw [hy141]; exact H) | exact H
          have Ny141 := Aside0.mk hy141
          clear hy141
          replace H := Option.bind_eq_some_iff.mp H
          obtain ⟨t145, A340, H⟩ := H
          replace H : (if 0 ≤ (wrap64 (4 + (wrap64 (rd x6_1 1)))) then (if (wrap64 (4 + (wrap64 (rd x6_1 1)))) < (x6_1.length : Int) then (if 0 ≤ (wrap64 (5 + (wrap64 (rd x6_1 1)))) then (if (wrap64 (5 + (wrap64 (rd x6_1 1)))) < (x6_1.length : Int) then (if t145 = (Go.bits .or .i64 (wrap64 ((wrap64 (rd x6_1 (wrap64 (4 + (wrap64 (rd x6_1 1)))))) * 256)) (wrap64 (rd x6_1 (wrap64 (5 + (wrap64 (rd x6_1 1))))))) then (if 2 < (x6_1.length : Int) then (if 3 < (x6_1.length : Int) then (if 4 ≤ (wrap64 (4 + (wrap64 (rd x6_1 1)))) then ((some ((x6_1.take ((wrap64 (4 + (wrap64 (rd x6_1 1)))) : Int).toNat).drop 4 : List Int)).bind fun y150 => (if ([] : List Int).length + y150.length < 140737488355328 then (if x7_1.length < 3518437208883 then (if 0 ≤ (wrap64 ((wrap64 (rd x6_1 1)) + 6)) then (if (wrap64 ((wrap64 (rd x6_1 1)) + 6)) ≤ (x6_1.length : Int) then (telegram_Feed.l0 kj21 (x6_1.drop ((wrap64 ((wrap64 (rd x6_1 1)) + 6)) : Int).toNat) (x7_1 ++ [(⟨wrap64 (rd x6_1 2), wrap64 (rd x6_1 3), (([] : List Int) ++ y150)⟩ : S24)]) x8_1) else (none)) else (none)) else (none)) else (none))) else (none)) else (none)) else (none)) else (if 1 ≤ (x6_1.length : Int) then (telegram_Feed.l0 kj21 (x6_1.drop (1 : Int).toNat) x7_1 (wrap64 (x8_1 + 1))) else (none))) else (none)) else (none)) else (none)) else (none)) = some (r1, r2, r3) := H
          have A34 := Aside0.mk A340
          clear A340
          obtain ⟨ji35, hji35⟩ : ∃ j_ : Int, (wrap64 (4 + (wrap64 (rd x6_1 1)))) = j_ := ⟨_, rfl⟩
          replace H : (if 0 ≤ (ji35) then (if (ji35) < (x6_1.length : Int) then (if 0 ≤ (wrap64 (5 + (wrap64 (rd x6_1 1)))) then (if (wrap64 (5 + (wrap64 (rd x6_1 1)))) < (x6_1.length : Int) then (if t145 = (Go.bits .or .i64 (wrap64 ((wrap64 (rd x6_1 (ji35))) * 256)) (wrap64 (rd x6_1 (wrap64 (5 + (wrap64 (rd x6_1 1))))))) then (if 2 < (x6_1.length : Int) then (if 3 < (x6_1.length : Int) then (if 4 ≤ (ji35) then ((some ((x6_1.take ((ji35) : Int).toNat).drop 4 : List Int)).bind fun y150 => (if ([] : List Int).length + y150.length < 140737488355328 then (if x7_1.length < 3518437208883 then (if 0 ≤ (wrap64 ((wrap64 (rd x6_1 1)) + 6)) then (if (wrap64 ((wrap64 (rd x6_1 1)) + 6)) ≤ (x6_1.length : Int) then (telegram_Feed.l0 kj21 (x6_1.drop ((wrap64 ((wrap64 (rd x6_1 1)) + 6)) : Int).toNat) (x7_1 ++ [(⟨wrap64 (rd x6_1 2), wrap64 (rd x6_1 3), (([] : List Int) ++ y150)⟩ : S24)]) x8_1) else (none)) else (none)) else (none)) else (none))) else (none)) else (none)) else (none)) else (if 1 ≤ (x6_1.length : Int) then (telegram_Feed.l0 kj21 (x6_1.drop (1 : Int).toNat) x7_1 (wrap64 (x8_1 + 1))) else (none))) else (none)) else (none)) else (none)) else (none)) = some (r1, r2, r3) := by first | (rw [hji35] at H; exact H) | (simp only [hji35] at H ⊢; exact H)
          (try rw [hji35] at c32b0)
          (try rw [hji35] at c32b1)
          (try rw [hji35] at c32)
          (try rw [hji35] at c33b0)
          (try rw [hji35] at c33b1)
          (try rw [hji35] at c33)
          (try rw [hji35] at Ny141)
          (try rw [hji35] at A34)
          have hji35w : (IntKind.i64.wrap (4 + (wrap64 (rd x6_1 1)))) = ji35 := (i64_w _).trans hji35
          by_cases c36 : 0 ≤ (ji35)
          rotate_left
          ·
           rw [if_neg c36] at H
           exact absurd H (by simp)
          rw [if_pos c36] at H
          have c36b0 : decide (0 ≤ (ji35)) = true := decide_eq_true c36
          clear c36
          by_cases c37 : (ji35) < (x6_1.length : Int)
          rotate_left
          ·
           rw [if_neg c37] at H
           exact absurd H (by simp)
          rw [if_pos c37] at H
          have c37b0 : decide ((ji35) < (x6_1.length : Int)) = true := decide_eq_true c37
          clear c37
          obtain ⟨ji38, hji38⟩ : ∃ j_ : Int, (wrap64 (5 + (wrap64 (rd x6_1 1)))) = j_ := ⟨_, rfl⟩
          replace H : (if 0 ≤ (ji38) then (if (ji38) < (x6_1.length : Int) then (if t145 = (Go.bits .or .i64 (wrap64 ((wrap64 (rd x6_1 (ji35))) * 256)) (wrap64 (rd x6_1 (ji38)))) then (if 2 < (x6_1.length : Int) then (if 3 < (x6_1.length : Int) then (if 4 ≤ (ji35) then ((some ((x6_1.take ((ji35) : Int).toNat).drop 4 : List Int)).bind fun y150 => (if ([] : List Int).length + y150.length < 140737488355328 then (if x7_1.length < 3518437208883 then (if 0 ≤ (wrap64 ((wrap64 (rd x6_1 1)) + 6)) then (if (wrap64 ((wrap64 (rd x6_1 1)) + 6)) ≤ (x6_1.length : Int) then (telegram_Feed.l0 kj21 (x6_1.drop ((wrap64 ((wrap64 (rd x6_1 1)) + 6)) : Int).toNat) (x7_1 ++ [(⟨wrap64 (rd x6_1 2), wrap64 (rd x6_1 3), (([] : List Int) ++ y150)⟩ : S24)]) x8_1) else (none)) else (none)) else (none)) else (none))) else (none)) else (none)) else (none)) else (if 1 ≤ (x6_1.length : Int) then (telegram_Feed.l0 kj21 (x6_1.drop (1 : Int).toNat) x7_1 (wrap64 (x8_1 + 1))) else (none))) else (none)) else (none)) = some (r1, r2, r3) := by first | (rw [hji38] at H; exact H) | (simp only [hji38] at H ⊢; exact H)
          (try rw [hji38] at A34)
          have hji38w : (IntKind.i64.wrap (5 + (wrap64 (rd x6_1 1)))) = ji38 := (i64_w _).trans hji38
          by_cases c39 : 0 ≤ (ji38)
          rotate_left
          ·
           rw [if_neg c39] at H
           exact absurd H (by simp)
          rw [if_pos c39] at H
          have c39b0 : decide (0 ≤ (ji38)) = true := decide_eq_true c39
          clear c39
          by_cases c40 : (ji38) < (x6_1.length : Int)
          rotate_left
          ·
           rw [if_neg c40] at H
           exact absurd H (by simp)
          rw [if_pos c40] at H
          have c40b0 : decide ((ji38) < (x6_1.length : Int)) = true := decide_eq_true c40
          clear c40
          by_cases c41 : t145 = (Go.bits .or .i64 (wrap64 ((wrap64 (rd x6_1 (ji35))) * 256)) (wrap64 (rd x6_1 (ji38))))
          ·
           rw [if_pos c41] at H
           have c41b0 : (t145 == (Go.bits .or .i64 (wrap64 ((wrap64 (rd x6_1 (ji35))) * 256)) (wrap64 (rd x6_1 (ji38))))) = true := beq_iff_eq.mpr c41
           have c41b1 : (t145 != (Go.bits .or .i64 (wrap64 ((wrap64 (rd x6_1 (ji35))) * 256)) (wrap64 (rd x6_1 (ji38))))) = false := bne_eq_false_iff_eq.mpr c41
           clear c41
           by_cases c42 : 2 < (x6_1.length : Int)
           rotate_left
           ·
            rw [if_neg c42] at H
            exact absurd H (by simp)
           rw [if_pos c42] at H
           have c42b0 : decide (2 < (x6_1.length : Int)) = true := decide_eq_true c42
           have c42b1 : decide (2 < x6_1.length) = true := decide_eq_true (by omega)
           clear c42
           by_cases c43 : 3 < (x6_1.length : Int)
           rotate_left
           ·
            rw [if_neg c43] at H
            exact absurd H (by simp)
           rw [if_pos c43] at H
           have c43b0 : decide (3 < (x6_1.length : Int)) = true := decide_eq_true c43
           have c43b1 : decide (3 < x6_1.length) = true := decide_eq_true (by omega)
           clear c43
           by_cases c44 : 4 ≤ (ji35)
           rotate_left
           ·
            rw [if_neg c44] at H
            exact absurd H (by simp)
           rw [if_pos c44] at H
           have c44b0 := eq_true c44
           have c44b1 : decide (4 ≤ (ji35)) = true := decide_eq_true c44
           clear c44
           have c45b0 := eq_true (of_decide_eq_true (by first | (with_reducible assumption) | assumption) : (ji35) ≤ (x6_1.length : Int))
           obtain ⟨y150, hy150⟩ : ∃ y_ : List Int, y_ = ((x6_1.take ((ji35) : Int).toNat).drop 4) := ⟨_, rfl⟩
           replace H : (if ([] : List Int).length + y150.length < 140737488355328 then (if x7_1.length < 3518437208883 then (if 0 ≤ (wrap64 ((wrap64 (rd x6_1 1)) + 6)) then (if (wrap64 ((wrap64 (rd x6_1 1)) + 6)) ≤ (x6_1.length : Int) then (telegram_Feed.l0 kj21 (x6_1.drop ((wrap64 ((wrap64 (rd x6_1 1)) + 6)) : Int).toNat) (x7_1 ++ [(⟨wrap64 (rd x6_1 2), wrap64 (rd x6_1 3), (([] : List Int) ++ y150)⟩ : S24)]) x8_1) else (none)) else (none)) else (none)) else (none)) = some (r1, r2, r3) := by first | (rw [hy150]; with_reducible exact H) | (have H2_ := (Option.bind_some _ _).symm.trans H; rw [hy150]; with_reducible exact H2_) | (have H2_ := (Option.bind_some _ _).symm.trans H; with_reducible exact H2_) | with_reducible exact H | (rw [hy150]; exact H) | exact H
           have Ny150 := Aside0.mk hy150
           clear hy150
           by_cases c46 : ([] : List Int).length + y150.length < 140737488355328
           rotate_left
           ·
            rw [if_neg c46] at H
            exact absurd H (by simp)
           rw [if_pos c46] at H
           have LMc46 := Aside0.mk c46
           clear c46
           obtain ⟨y154, hy154⟩ : ∃ y_ : List Int, y_ = (([] : List Int) ++ y150) := ⟨_, rfl⟩
           replace H : (if x7_1.length < 3518437208883 then (if 0 ≤ (wrap64 ((wrap64 (rd x6_1 1)) + 6)) then (if (wrap64 ((wrap64 (rd x6_1 1)) + 6)) ≤ (x6_1.length : Int) then (telegram_Feed.l0 kj21 (x6_1.drop ((wrap64 ((wrap64 (rd x6_1 1)) + 6)) : Int).toNat) (x7_1 ++ [(⟨wrap64 (rd x6_1 2), wrap64 (rd x6_1 3), y154⟩ : S24)]) x8_1) else (none)) else (none)) else (none)) = some (r1, r2, r3) := by first | (rw [hy154]; with_reducible exact H) | (have H2_ := (Option.bind_some _ _).symm.trans H; rw [hy154]; with_reducible exact H2_) | (have H2_ := (Option.bind_some _ _).symm.trans H; with_reducible exact H2_) | with_reducible exact H | (rw [hy154]; exact H) | exact H
           have Ny154 := Aside0.mk hy154
           clear hy154
           by_cases c47 : x7_1.length < 3518437208883
           rotate_left
           ·
            rw [if_neg c47] at H
            exact absurd H (by simp)
           rw [if_pos c47] at H
           have LMc47 := Aside0.mk c47
           clear c47
           obtain ⟨y157, hy157⟩ : ∃ y_ : List (S24), y_ = (x7_1 ++ [(⟨wrap64 (rd x6_1 2), wrap64 (rd x6_1 3), y154⟩ : S24)]) := ⟨_, rfl⟩
           replace H : (if 0 ≤ (wrap64 ((wrap64 (rd x6_1 1)) + 6)) then (if (wrap64 ((wrap64 (rd x6_1 1)) + 6)) ≤ (x6_1.length : Int) then (telegram_Feed.l0 kj21 (x6_1.drop ((wrap64 ((wrap64 (rd x6_1 1)) + 6)) : Int).toNat) y157 x8_1) else (none)) else (none)) = some (r1, r2, r3) := by first | (rw [hy157]; with_reducible exact H) | (have H2_ := (Option.bind_some _ _).symm.trans H; rw [hy157]; with_reducible exact H2_) | (have H2_ := (Option.bind_some _ _).symm.trans H; with_reducible exact H2_) | with_reducible exact H | (rw [hy157]; exact H) | exact H
           have Ny157 := Aside0.mk hy157
           clear hy157
           obtain ⟨ji48, hji48⟩ : ∃ j_ : Int, (wrap64 ((wrap64 (rd x6_1 1)) + 6)) = j_ := ⟨_, rfl⟩
           replace H : (if 0 ≤ (ji48) then (if (ji48) ≤ (x6_1.length : Int) then (telegram_Feed.l0 kj21 (x6_1.drop ((ji48) : Int).toNat) y157 x8_1) else (none)) else (none)) = some (r1, r2, r3) := by first | (rw [hji48] at H; exact H) | (simp only [hji48] at H ⊢; exact H)
           (try rw [hji48] at A34)
           have hji48w : (IntKind.i64.wrap ((wrap64 (rd x6_1 1)) + 6)) = ji48 := (i64_w _).trans hji48
           by_cases c49 : 0 ≤ (ji48)
           rotate_left
           ·
            rw [if_neg c49] at H
            exact absurd H (by simp)
           rw [if_pos c49] at H
           have c49b0 := eq_true c49
           have c49b1 : decide (0 ≤ (ji48)) = true := decide_eq_true c49
           clear c49
           by_cases c50 : (ji48) ≤ (x6_1.length : Int)
           rotate_left
           ·
            rw [if_neg c50] at H
            exact absurd H (by simp)
           rw [if_pos c50] at H
           have c50b0 := eq_true c50
           have c50b1 : decide ((ji48) ≤ (x6_1.length : Int)) = true := decide_eq_true c50
           clear c50
           obtain ⟨y160, hy160⟩ : ∃ y_ : List Int, y_ = (x6_1.drop ((ji48) : Int).toNat) := ⟨_, rfl⟩
           replace H : (telegram_Feed.l0 kj21 y160 y157 x8_1) = some (r1, r2, r3) := by first | (rw [hy160]; with_reducible exact H) | (have H2_ := (Option.bind_some _ _).symm.trans H; rw [hy160]; with_reducible exact H2_) | (have H2_ := (Option.bind_some _ _).symm.trans H; with_reducible exact H2_) | with_reducible exact H | (rw [hy160]; exact H) | exact H
           have Ny160 := Aside0.mk hy160
           clear hy160
           have H' := Aside0.mk H
           clear H
           have p140 : 0 ≤ (1 : Int) := (by omega)
           have q140 : 1 < (x6_1.length : Int) := of_decide_eq_true (by first | (with_reducible assumption) | assumption)
           obtain ⟨ad140, e140, hx140_0⟩ := Kd.at_int (Kd.Q_reads' HO_6.out).2.2 1 p140 q140
           cases e140
           (try simp only [show (1 : Int).toNat = 1 from rfl, Nat.reduceMul, Nat.reduceEqDiff, Go.Addr.add, ↓reduceIte] at hx140_0)
           have qi140 : (1 < x6_1.length) = True := eq_true (by omega)
           (try rw [show ((1 : Int)).toNat = 1 from rfl] at hx140_0)
           replace p140 := eq_true p140
           replace q140 := eq_true q140
           try go_wp2
           have n0_ := Aside0.mk (Kd.Q_drew HO_6.out)
           have n1_ := Aside0.mk (Kd.S_drew HO_7.out)
           have n2_ := Aside0.mk (blk_drew BK120.out)
           have n3_ := Aside0.mk (blk_drew BK121.out)
           have n4_ := Aside0.mk (below_drew1 HB.out)
           clear HO_6
           clear HO_7
           clear BK120
           clear BK121
           clear HB
           have HO_6 := n0_
           have HO_7 := n1_
           have BK120 := n2_
           have BK121 := n3_
           have HB := n4_
           clear n0_ n1_ n2_ n3_ n4_
           have q52 : ((ji35) : Int) ≤ ((x6_1.length : Int) : Int) := of_decide_eq_true (by first | (with_reducible assumption) | assumption)
           obtain ⟨i052, hi052, _, hsz52, _⟩ := info_parts info5
           have hroom52 : x6_1.length ≤ co14 := (Kd.Q_reads' HO_6.out).2.1
           have hC52 : Kd.C (Kd.int .u8) _ (some ad140) x6_1.length x6_1 := (Kd.Q_reads' HO_6.out).2.2
           have ql52 : (1 : Int) ≤ ((ji35) : Int) := of_decide_eq_true (by first | (with_reducible assumption) | assumption)
           have hcut52 := cut_mid (P := Try.prog) 22 5 .i64 .i64 Try.underlying22 hi052 1 hsz52 (some ad140) x6_1.length co14 1 (ji35) (by omega) ql52 q52 hroom52
           have hr52 := Kd.C_mid (lo := (1 : Int).toNat) (hi := ((ji35) : Int).toNat) (c := co14) hC52 (by omega) (by omega) hroom52
           obtain ⟨A52, hA52⟩ : ∃ A1, A1 = (if co14 = (1 : Int).toNat then (some ad140) else ((some ad140) : Option Addr).map (·.add ((1 : Int).toNat * 1))) := ⟨_, rfl⟩
           obtain ⟨c52, hc52⟩ : ∃ c1, c1 = co14 - (1 : Int).toNat := ⟨_, rfl⟩
           have hy52 : y141.length = ((ji35) : Int).toNat - (1 : Int).toNat := (by rw [Ny141.out, List.length_drop, List.length_take] <;> omega)
           rw [show ((x6_1).take ((ji35) : Int).toNat).drop (1 : Int).toNat = y141 from Ny141.out.symm] at hr52
           replace hr52 : Kd.C (Kd.int .u8) _ A52 y141.length y141 := (by rw [hA52]; exact hr52)
           rw [← hy52, ← hA52, ← hc52] at hcut52
           have HR144 := Aside0.mk hr52
           have HC144 := Aside0.mk (show y141.length ≤ c52 from by rw [hy52, hc52]; exact Nat.sub_le_sub_right (Nat.le_trans (by omega) hroom52) _)
           clear hr52 hC52 hroom52 hi052 hsz52 hc52
           have KY52 := Aside0.mk hy52
           have KA52 := Aside0.mk hA52
           clear hy52 hA52
           have KL52 := Aside0.mk (show ((ji35) : Int).toNat ≤ x6_1.length from by omega)
           have KM52 := Aside0.mk (show 1 ≤ ((ji35) : Int).toNat from by omega)
           replace q52 := eq_true q52
           have p146 : 0 ≤ ((ji35) : Int) := of_decide_eq_true (by first | (with_reducible assumption) | assumption)
           have q146 : (ji35) < (x6_1.length : Int) := of_decide_eq_true (by first | (with_reducible assumption) | assumption)
           obtain ⟨ad146, e146, hx146_0⟩ := Kd.at_int (Kd.Q_reads' HO_6.out).2.2 (ji35) p146 q146
           obtain rfl : ad140 = ad146 := (by injection e146)
           replace p146 := eq_true p146
           replace q146 := eq_true q146
           have p147 : 0 ≤ ((ji38) : Int) := of_decide_eq_true (by first | (with_reducible assumption) | assumption)
           have q147 : (ji38) < (x6_1.length : Int) := of_decide_eq_true (by first | (with_reducible assumption) | assumption)
           obtain ⟨ad147, e147, hx147_0⟩ := Kd.at_int (Kd.Q_reads' HO_6.out).2.2 (ji38) p147 q147
           obtain rfl : ad140 = ad147 := (by injection e147)
           replace p147 := eq_true p147
           replace q147 := eq_true q147
           refine start_ (n := 20) (S := fun w' => w'.cell? (ad140.add ((ji35)).toNat) = some (.int .u8 (rd x6_1 (ji35))) ∧ w'.cell? (ad140.add ((ji38)).toNat) = some (.int .u8 (rd x6_1 (ji38)))) (ds := []) #[false, false, false, false, false, false, false, false, false, false, false, false, false, false, false, false, false, false, false, false] (by kernel_rfl) rfl rfl ⟨hx146_0, hx147_0⟩ (fun hHeld => ?_); refine with_tabW telegram_Feed.tab9 telegram_Feed.bits9 (fun HT_ HW_ => ?_)
           generalize wc.drew = w51 at HO_6 HO_7 BK120 BK121 HB HR144 hx146_0 hx147_0 hHeld ⊢
           refine pure_ (i := 0) (N := some 57) (v := ?_) (a' := ?_) #[true, false, false, false, false, false, false, false, false, false, false, false, false, false, false, false, false, false, false, false] rfl rfl (any_of HT_.out (by kernel_rfl)) (fun _ _ _ h => h) (Or.inl ⟨by rfl, ?_⟩) ?_ ?_
           rotate_left
           ·
            intro w'
            go_simp
            with_reducible rfl
           rotate_left
           ·
            simp only [Act.put, List.setIfInBounds_toArray, List.set_cons_zero, List.set_cons_succ, i64_w, i32_w]
            rfl
           refine pure_ (i := 1) (N := some 58) (v := ?_) (a' := ?_) #[true, true, false, false, false, false, false, false, false, false, false, false, false, false, false, false, false, false, false, false] rfl rfl (any_of HT_.out (by kernel_rfl)) (fun _ _ _ h => h) (Or.inl ⟨by rfl, ?_⟩) ?_ ?_
           rotate_left
           ·
            intro w'
            go_simp
            with_reducible rfl
           rotate_left
           ·
            simp only [Act.put, List.setIfInBounds_toArray, List.set_cons_zero, List.set_cons_succ, i64_w, i32_w]
            rfl
           refine pure_ (i := 2) (N := some 59) (v := ?_) (a' := ?_) #[true, true, true, false, false, false, false, false, false, false, false, false, false, false, false, false, false, false, false, false] rfl rfl (any_of HT_.out (by kernel_rfl)) (fun _ _ _ h => h) (Or.inl ⟨by rfl, ?_⟩) ?_ ?_
           rotate_left
           ·
            intro w'
            go_simp
            with_reducible rfl
           rotate_left
           ·
            simp only [Act.put, List.setIfInBounds_toArray, List.set_cons_zero, List.set_cons_succ, i64_w, i32_w]
            rfl
           refine pure_ (i := 3) (N := some 60) (v := ?_) (a' := ?_) #[true, true, true, true, false, false, false, false, false, false, false, false, false, false, false, false, false, false, false, false] rfl rfl (any_of HT_.out (by kernel_rfl)) (fun _ _ _ h => h) (Or.inl ⟨by rfl, ?_⟩) ?_ ?_
           rotate_left
           ·
            intro w'
            go_simp
            with_reducible rfl
           rotate_left
           ·
            simp only [Act.put, List.setIfInBounds_toArray, List.set_cons_zero, List.set_cons_succ, i64_w, i32_w]
            rfl
           refine pure_ (i := 5) (N := some 62) (v := ?_) (a' := ?_) #[true, true, true, true, false, true, false, false, false, false, false, false, false, false, false, false, false, false, false, false] rfl rfl (any_of HT_.out (by kernel_rfl)) (fun _ _ _ h => h) (Or.inl ⟨by rfl, ?_⟩) ?_ ?_
           rotate_left
           ·
            intro w'
            go_simp
            with_reducible rfl
           rotate_left
           ·
            simp only [Act.put, List.setIfInBounds_toArray, List.set_cons_zero, List.set_cons_succ, i64_w, i32_w]
            rfl
           refine pure_ (i := 6) (N := some 63) (v := ?_) (a' := ?_) #[true, true, true, true, false, true, true, false, false, false, false, false, false, false, false, false, false, false, false, false] rfl rfl (any_of HT_.out (by kernel_rfl)) (fun _ _ _ h => h) (Or.inl ⟨by rfl, ?_⟩) ?_ ?_
           rotate_left
           ·
            intro w'
            go_simp
            with_reducible rfl
           rotate_left
           ·
            simp only [Act.put, List.setIfInBounds_toArray, List.set_cons_zero, List.set_cons_succ, i64_w, i32_w]
            rfl
           refine pure_ (i := 7) (N := some 64) (v := ?_) (a' := ?_) #[true, true, true, true, false, true, true, true, false, false, false, false, false, false, false, false, false, false, false, false] rfl rfl (any_of HT_.out (by kernel_rfl)) (fun _ _ _ h => h) (Or.inl ⟨by rfl, ?_⟩) ?_ ?_
           rotate_left
           ·
            intro w'
            go_simp
            with_reducible rfl
           rotate_left
           ·
            simp only [Act.put, List.setIfInBounds_toArray, List.set_cons_zero, List.set_cons_succ, i64_w, i32_w]
            rfl
           refine pure_ (i := 8) (N := some 65) (v := ?_) (a' := ?_) #[true, true, true, true, false, true, true, true, true, false, false, false, false, false, false, false, false, false, false, false] rfl rfl (any_of HT_.out (by kernel_rfl)) (fun _ _ _ h => h) (Or.inl ⟨by rfl, ?_⟩) ?_ ?_
           rotate_left
           ·
            intro w'
            go_simp
            with_reducible rfl
           rotate_left
           ·
            simp only [Act.put, List.setIfInBounds_toArray, List.set_cons_zero, List.set_cons_succ, i64_w, i32_w]
            rfl
           refine pure_ (i := 12) (N := some 69) (v := ?_) (a' := ?_) #[true, true, true, true, false, true, true, true, true, false, false, false, true, false, false, false, false, false, false, false] rfl rfl (any_of HT_.out (by kernel_rfl)) (fun _ _ _ h => h) (Or.inl ⟨by rfl, ?_⟩) ?_ ?_
           rotate_left
           ·
            intro w'
            go_simp
            with_reducible rfl
           rotate_left
           ·
            simp only [Act.put, List.setIfInBounds_toArray, List.set_cons_zero, List.set_cons_succ, i64_w, i32_w]
            rfl
           refine pure_ (i := 13) (N := some 70) (v := ?_) (a' := ?_) #[true, true, true, true, false, true, true, true, true, false, false, false, true, true, false, false, false, false, false, false] rfl rfl (any_of HT_.out (by kernel_rfl)) (fun _ _ _ h => h) (Or.inl ⟨by rfl, ?_⟩) ?_ ?_
           rotate_left
           ·
            intro w'
            go_simp
            with_reducible rfl
           rotate_left
           ·
            simp only [Act.put, List.setIfInBounds_toArray, List.set_cons_zero, List.set_cons_succ, i64_w, i32_w]
            rfl
           refine pure_ (i := 14) (N := some 71) (v := ?_) (a' := ?_) #[true, true, true, true, false, true, true, true, true, false, false, false, true, true, true, false, false, false, false, false] rfl rfl (any_of HT_.out (by kernel_rfl)) (fun _ _ _ h => h) (Or.inl ⟨by rfl, ?_⟩) ?_ ?_
           rotate_left
           ·
            intro w'
            go_simp
            with_reducible rfl
           rotate_left
           ·
            simp only [Act.put, List.setIfInBounds_toArray, List.set_cons_zero, List.set_cons_succ, i64_w, i32_w]
            rfl
           refine pure_ (i := 15) (N := some 72) (v := ?_) (a' := ?_) #[true, true, true, true, false, true, true, true, true, false, false, false, true, true, true, true, false, false, false, false] rfl rfl (any_of HT_.out (by kernel_rfl)) (fun _ _ _ h => h) (Or.inl ⟨by rfl, ?_⟩) ?_ ?_
           rotate_left
           ·
            intro w'
            go_simp
            with_reducible rfl
           rotate_left
           ·
            simp only [Act.put, List.setIfInBounds_toArray, List.set_cons_zero, List.set_cons_succ, i64_w, i32_w]
            rfl
           refine take_ (i := 9) (N := some 66) (v := ?_) (a' := ?_) #[true, true, true, true, false, true, true, true, true, true, false, false, true, true, true, true, false, false, false, false] rfl rfl (take_ofW HT_.out HW_.out (by kernel_rfl)) (fun _ _ _ h => h) (Or.inl ⟨by rfl, ?_⟩) hHeld ?_ ?_
           rotate_left
           ·
            rintro w' ⟨s0, s1⟩
            go_simp
            with_reducible rfl
           rotate_left
           ·
            simp only [Act.put, List.setIfInBounds_toArray, List.set_cons_zero, List.set_cons_succ, i64_w, i32_w]
            rfl
           refine pure_ (i := 10) (N := some 67) (v := ?_) (a' := ?_) #[true, true, true, true, false, true, true, true, true, true, true, false, true, true, true, true, false, false, false, false] rfl rfl (any_of HT_.out (by kernel_rfl)) (fun _ _ _ h => h) (Or.inl ⟨by rfl, ?_⟩) ?_ ?_
           rotate_left
           ·
            intro w'
            go_simp
            with_reducible rfl
           rotate_left
           ·
            simp only [Act.put, List.setIfInBounds_toArray, List.set_cons_zero, List.set_cons_succ, i64_w, i32_w]
            rfl
           refine pure_ (i := 11) (N := some 68) (v := ?_) (a' := ?_) #[true, true, true, true, false, true, true, true, true, true, true, true, true, true, true, true, false, false, false, false] rfl rfl (any_of HT_.out (by kernel_rfl)) (fun _ _ _ h => h) (Or.inl ⟨by rfl, ?_⟩) ?_ ?_
           rotate_left
           ·
            intro w'
            go_simp
            with_reducible rfl
           rotate_left
           ·
            simp only [Act.put, List.setIfInBounds_toArray, List.set_cons_zero, List.set_cons_succ, i64_w, i32_w]
            rfl
           refine take_ (i := 16) (N := some 73) (v := ?_) (a' := ?_) #[true, true, true, true, false, true, true, true, true, true, true, true, true, true, true, true, true, false, false, false] rfl rfl (take_ofW HT_.out HW_.out (by kernel_rfl)) (fun _ _ _ h => h) (Or.inl ⟨by rfl, ?_⟩) hHeld ?_ ?_
           rotate_left
           ·
            rintro w' ⟨s0, s1⟩
            go_simp
            with_reducible rfl
           rotate_left
           ·
            simp only [Act.put, List.setIfInBounds_toArray, List.set_cons_zero, List.set_cons_succ, i64_w, i32_w]
            rfl
           refine pure_ (i := 17) (N := some 74) (v := ?_) (a' := ?_) #[true, true, true, true, false, true, true, true, true, true, true, true, true, true, true, true, true, true, false, false] rfl rfl (any_of HT_.out (by kernel_rfl)) (fun _ _ _ h => h) (Or.inl ⟨by rfl, ?_⟩) ?_ ?_
           rotate_left
           ·
            intro w'
            go_simp
            with_reducible rfl
           rotate_left
           ·
            simp only [Act.put, List.setIfInBounds_toArray, List.set_cons_zero, List.set_cons_succ, i64_w, i32_w]
            rfl
           refine pure_ (i := 18) (N := some 75) (v := ?_) (a' := ?_) #[true, true, true, true, false, true, true, true, true, true, true, true, true, true, true, true, true, true, true, false] rfl rfl (any_of HT_.out (by kernel_rfl)) (fun _ _ _ h => h) (Or.inl ⟨by rfl, ?_⟩) ?_ ?_
           rotate_left
           ·
            intro w'
            go_simp
            with_reducible rfl
           rotate_left
           ·
            simp only [Act.put, List.setIfInBounds_toArray, List.set_cons_zero, List.set_cons_succ, i64_w, i32_w]
            rfl
           refine one_ (i := 4) (N := some 61) #[true, true, true, true, true, true, true, true, true, true, true, true, true, true, true, true, true, true, true, false] rfl rfl (one_of HT_.out (by kernel_rfl)) (by decide) (fun K hK => ?_)
           refine goes_ Try.func14 (by kernel_rfl) rfl #[.slice A52 y141.length c52] (by rfl) rfl rfl (by (try simp only [List.map_toArray, List.map_cons, List.map_nil]); first | done | rfl | (simp only [List.length_drop, List.length_take]; rfl)) ?_
           with_reducible refine (telegram_Check.calls kj21 _ _ y141 t145 _ ?side1 ?side2 A34.out).mono ?_
           (case side1 => repeat (first | exact (by repeat (first | (with_reducible exact HR144.out) | (with_reducible refine Kd.C_alloc ?_ _) | (with_reducible refine Kd.C_drewN ?_ _) | (with_reducible refine Kd.C_drew ?_) | exact HR144.out)) | (with_reducible refine Kd.C_alloc ?_ _) | (with_reducible refine Kd.C_drewN ?_ _) | (with_reducible refine Kd.C_drew ?_)))
           (case side2 => exact HC144.out)
           rintro e w' ⟨rfl, ⟨nd, rfl⟩⟩
           refine ⟨_, rfl, ?_⟩
           refine hK.out _ _ ⟨hHeld.1, hHeld.2⟩ (fun hHeld => ?_)
           clear hK K
           refine norm_ (a' := ?_) ?_ ?_
           rotate_left
           ·
            show Act.put _ (some 61) _ = _
            simp only [Act.put, List.setIfInBounds_toArray, List.set_cons_zero, List.set_cons_succ, i64_w, i32_w]
            rfl
           refine pure_ (i := 19) (N := some 76) (v := ?_) (a' := ?_) #[true, true, true, true, true, true, true, true, true, true, true, true, true, true, true, true, true, true, true, true] rfl rfl (any_of HT_.out (by kernel_rfl)) (fun _ _ _ h => h) (Or.inl ⟨by rfl, ?_⟩) ?_ ?_
           rotate_left
           ·
            intro w'
            go_simp
            with_reducible rfl
           rotate_left
           ·
            simp only [Act.put, List.setIfInBounds_toArray, List.set_cons_zero, List.set_cons_succ, i64_w, i32_w]
            rfl
           refine done_ (done_of HT_.out (by kernel_rfl)) ?_
           try go_wp2
           (try (rw [drewN_self w51]; generalize hq_ : World.drewN w51 _ = w51; have n0_ : Aside0 (Kd.Q (Kd.int .u8) 5 w51 w.heap.size (fun _ => True) (.slice (some ad140) x6_1.length co14) x6_1) := ⟨by rw [← hq_]; exact (by (with_reducible repeat (first | apply Kd.Q_alloc | apply Kd.Q_drewN | apply Kd.Q_drew)); exact HO_6.out)⟩; have n1_ : Aside0 (Kd.S k24 24 w51 w.heap.size (fun k_ => some k_ ≠ (.slice (some ad140) x6_1.length co14 : Value).ownBlock) u7 x7_1) := ⟨by rw [← hq_]; exact (by (with_reducible repeat (first | apply Kd.S_alloc | apply Kd.S_drewN | apply Kd.S_drew)); exact HO_7.out)⟩; have n2_ : Aside0 (w51.heap[gb120]? = some (.cells #[.slice A0_0 l0_0.length c0_0, .int .i64 a0_1] 36 (0, 0))) := ⟨by rw [← hq_]; exact (by (with_reducible repeat (first | refine blk_drewN ?_ _ | refine blk_drew ?_ | refine blk_alloc ?_ _)); exact BK120.out)⟩; have n3_ : Aside0 (w51.heap[gb121]? = some (.cells #[.slice none 0 0, .int .i64 0] 36 (0, 0))) := ⟨by rw [← hq_]; exact (by (with_reducible repeat (first | refine blk_drewN ?_ _ | refine blk_drew ?_ | refine blk_alloc ?_ _)); exact BK121.out)⟩; have n4_ : Aside0 (Below w.heap.size w w51) := ⟨by rw [← hq_]; exact (by repeat (first | (with_reducible first | exact HB.out | apply below_alloc | apply pw_below_drewN | apply below_drew1 | refine below_set ?_ GE120.out | refine below_set ?_ GE121.out) | exact HB.out))⟩; have n5_ : Aside0 (Kd.C (Kd.int .u8) w51 A52 y141.length y141) := ⟨by rw [← hq_]; exact (by repeat (first | (with_reducible exact HR144.out) | (with_reducible refine Kd.C_alloc ?_ _) | (with_reducible refine Kd.C_drewN ?_ _) | (with_reducible refine Kd.C_drew ?_) | exact HR144.out))⟩; clear HO_6 HO_7 BK120 BK121 HB HR144 hq_; have HO_6 := n0_; have HO_7 := n1_; have BK120 := n2_; have BK121 := n3_; have HB := n4_; have HR144 := n5_; clear n0_ n1_ n2_ n3_ n4_ n5_))
           have n0_ := Aside0.mk (Kd.Q_drew HO_6.out)
           have n1_ := Aside0.mk (Kd.S_drew HO_7.out)
           have n2_ := Aside0.mk (blk_drew BK120.out)
           have n3_ := Aside0.mk (blk_drew BK121.out)
           have n4_ := Aside0.mk (Kd.C_drew HR144.out)
           have n5_ := Aside0.mk (below_drew1 HB.out)
           clear HO_6
           clear HO_7
           clear BK120
           clear BK121
           clear HR144
           clear HB
           have HO_6 := n0_
           have HO_7 := n1_
           have BK120 := n2_
           have BK121 := n3_
           have HR144 := n4_
           have HB := n5_
           clear n0_ n1_ n2_ n3_ n4_ n5_
           have p148 : 0 ≤ (2 : Int) := (by omega)
           have q148 : 2 < (x6_1.length : Int) := of_decide_eq_true (by first | (with_reducible assumption) | assumption)
           obtain ⟨ad148, e148, hx148_0⟩ := Kd.at_int (Kd.Q_reads' HO_6.out).2.2 2 p148 q148
           obtain rfl : ad140 = ad148 := (by injection e148)
           (try simp only [show (2 : Int).toNat = 2 from rfl, Nat.reduceMul, Nat.reduceEqDiff, Go.Addr.add, ↓reduceIte] at hx148_0)
           have qi148 : (2 < x6_1.length) = True := eq_true (by omega)
           (try rw [show ((2 : Int)).toNat = 2 from rfl] at hx148_0)
           replace p148 := eq_true p148
           replace q148 := eq_true q148
           have p149 : 0 ≤ (3 : Int) := (by omega)
           have q149 : 3 < (x6_1.length : Int) := of_decide_eq_true (by first | (with_reducible assumption) | assumption)
           obtain ⟨ad149, e149, hx149_0⟩ := Kd.at_int (Kd.Q_reads' HO_6.out).2.2 3 p149 q149
           obtain rfl : ad140 = ad149 := (by injection e149)
           (try simp only [show (3 : Int).toNat = 3 from rfl, Nat.reduceMul, Nat.reduceEqDiff, Go.Addr.add, ↓reduceIte] at hx149_0)
           have qi149 : (3 < x6_1.length) = True := eq_true (by omega)
           (try rw [show ((3 : Int)).toNat = 3 from rfl] at hx149_0)
           replace p149 := eq_true p149
           replace q149 := eq_true q149
           have q54 : ((ji35) : Int) ≤ ((x6_1.length : Int) : Int) := of_decide_eq_true (by first | (with_reducible assumption) | assumption)
           obtain ⟨i054, hi054, _, hsz54, _⟩ := info_parts info5
           have hroom54 : x6_1.length ≤ co14 := (Kd.Q_reads' HO_6.out).2.1
           have hC54 : Kd.C (Kd.int .u8) _ (some ad140) x6_1.length x6_1 := (Kd.Q_reads' HO_6.out).2.2
           have ql54 : (4 : Int) ≤ ((ji35) : Int) := of_decide_eq_true (by first | (with_reducible assumption) | assumption)
           have hcut54 := cut_mid (P := Try.prog) 22 5 .i64 .i64 Try.underlying22 hi054 1 hsz54 (some ad140) x6_1.length co14 4 (ji35) (by omega) ql54 q54 hroom54
           have hr54 := Kd.C_mid (lo := (4 : Int).toNat) (hi := ((ji35) : Int).toNat) (c := co14) hC54 (by omega) (by omega) hroom54
           obtain ⟨A54, hA54⟩ : ∃ A1, A1 = (if co14 = (4 : Int).toNat then (some ad140) else ((some ad140) : Option Addr).map (·.add ((4 : Int).toNat * 1))) := ⟨_, rfl⟩
           obtain ⟨c54, hc54⟩ : ∃ c1, c1 = co14 - (4 : Int).toNat := ⟨_, rfl⟩
           have hy54 : y150.length = ((ji35) : Int).toNat - (4 : Int).toNat := (by rw [Ny150.out, List.length_drop, List.length_take] <;> omega)
           rw [show ((x6_1).take ((ji35) : Int).toNat).drop (4 : Int).toNat = y150 from Ny150.out.symm] at hr54
           replace hr54 : Kd.C (Kd.int .u8) _ A54 y150.length y150 := (by rw [hA54]; exact hr54)
           rw [← hy54, ← hA54, ← hc54] at hcut54
           have HR153 := Aside0.mk hr54
           have HC153 := Aside0.mk (show y150.length ≤ c54 from by rw [hy54, hc54]; exact Nat.sub_le_sub_right (Nat.le_trans (by omega) hroom54) _)
           clear hr54 hC54 hroom54 hi054 hsz54 hc54
           have KY54 := Aside0.mk hy54
           have KA54 := Aside0.mk hA54
           clear hy54 hA54
           have KL54 := Aside0.mk (show ((ji35) : Int).toNat ≤ x6_1.length from by omega)
           have KM54 := Aside0.mk (show 4 ≤ ((ji35) : Int).toNat from by omega)
           replace q54 := eq_true q54
           refine start_ (n := 18) (S := fun w' => w'.cell? ⟨ad140.block, ad140.off + 2, none⟩ = some (.int .u8 (rd x6_1 2)) ∧ w'.cell? ⟨ad140.block, ad140.off + 3, none⟩ = some (.int .u8 (rd x6_1 3))) (ds := [15, 16]) #[false, false, false, false, false, false, false, false, false, false, false, false, false, false, false, false, false, false] (by kernel_rfl) rfl rfl ⟨hx148_0, hx149_0⟩ (fun hHeld => ?_); refine with_tabW telegram_Feed.tab11 telegram_Feed.bits11 (fun HT_ HW_ => ?_)
           generalize w51.drew = w53 at HO_6 HO_7 BK120 BK121 HR144 HB HR153 hx148_0 hx149_0 hHeld ⊢
           refine pure_ (i := 0) (N := some 81) (v := ?_) (a' := ?_) #[true, false, false, false, false, false, false, false, false, false, false, false, false, false, false, false, false, false] rfl rfl (any_of HT_.out (by kernel_rfl)) (fun _ _ _ h => h) (Or.inl ⟨by rfl, ?_⟩) ?_ ?_
           rotate_left
           ·
            intro w'
            go_simp
            with_reducible rfl
           rotate_left
           ·
            simp only [Act.put, List.setIfInBounds_toArray, List.set_cons_zero, List.set_cons_succ, i64_w, i32_w]
            rfl
           refine pure_ (i := 1) (N := some 82) (v := ?_) (a' := ?_) #[true, true, false, false, false, false, false, false, false, false, false, false, false, false, false, false, false, false] rfl rfl (any_of HT_.out (by kernel_rfl)) (fun _ _ _ h => h) (Or.inl ⟨by rfl, ?_⟩) ?_ ?_
           rotate_left
           ·
            intro w'
            go_simp
            with_reducible rfl
           rotate_left
           ·
            simp only [Act.put, List.setIfInBounds_toArray, List.set_cons_zero, List.set_cons_succ, i64_w, i32_w]
            rfl
           refine pure_ (i := 2) (N := some 83) (v := ?_) (a' := ?_) #[true, true, true, false, false, false, false, false, false, false, false, false, false, false, false, false, false, false] rfl rfl (any_of HT_.out (by kernel_rfl)) (fun _ _ _ h => h) (Or.inl ⟨by rfl, ?_⟩) ?_ ?_
           rotate_left
           ·
            intro w'
            go_simp
            with_reducible rfl
           rotate_left
           ·
            simp only [Act.put, List.setIfInBounds_toArray, List.set_cons_zero, List.set_cons_succ, i64_w, i32_w]
            rfl
           refine pure_ (i := 5) (N := some 86) (v := ?_) (a' := ?_) #[true, true, true, false, false, true, false, false, false, false, false, false, false, false, false, false, false, false] rfl rfl (any_of HT_.out (by kernel_rfl)) (fun _ _ _ h => h) (Or.inl ⟨by rfl, ?_⟩) ?_ ?_
           rotate_left
           ·
            intro w'
            go_simp
            with_reducible rfl
           rotate_left
           ·
            simp only [Act.put, List.setIfInBounds_toArray, List.set_cons_zero, List.set_cons_succ, i64_w, i32_w]
            rfl
           refine pure_ (i := 6) (N := some 87) (v := ?_) (a' := ?_) #[true, true, true, false, false, true, true, false, false, false, false, false, false, false, false, false, false, false] rfl rfl (any_of HT_.out (by kernel_rfl)) (fun _ _ _ h => h) (Or.inl ⟨by rfl, ?_⟩) ?_ ?_
           rotate_left
           ·
            intro w'
            go_simp
            with_reducible rfl
           rotate_left
           ·
            simp only [Act.put, List.setIfInBounds_toArray, List.set_cons_zero, List.set_cons_succ, i64_w, i32_w]
            rfl
           refine pure_ (i := 9) (N := some 90) (v := ?_) (a' := ?_) #[true, true, true, false, false, true, true, false, false, true, false, false, false, false, false, false, false, false] rfl rfl (any_of HT_.out (by kernel_rfl)) (fun _ _ _ h => h) (Or.inl ⟨by rfl, ?_⟩) ?_ ?_
           rotate_left
           ·
            intro w'
            go_simp
            with_reducible rfl
           rotate_left
           ·
            simp only [Act.put, List.setIfInBounds_toArray, List.set_cons_zero, List.set_cons_succ, i64_w, i32_w]
            rfl
           refine pure_ (i := 10) (N := some 91) (v := ?_) (a' := ?_) #[true, true, true, false, false, true, true, false, false, true, true, false, false, false, false, false, false, false] rfl rfl (any_of HT_.out (by kernel_rfl)) (fun _ _ _ h => h) (Or.inl ⟨by rfl, ?_⟩) ?_ ?_
           rotate_left
           ·
            intro w'
            go_simp
            with_reducible rfl
           rotate_left
           ·
            simp only [Act.put, List.setIfInBounds_toArray, List.set_cons_zero, List.set_cons_succ, i64_w, i32_w]
            rfl
           refine pure_ (i := 11) (N := some 92) (v := ?_) (a' := ?_) #[true, true, true, false, false, true, true, false, false, true, true, true, false, false, false, false, false, false] rfl rfl (any_of HT_.out (by kernel_rfl)) (fun _ _ _ h => h) (Or.inl ⟨by rfl, ?_⟩) ?_ ?_
           rotate_left
           ·
            intro w'
            go_simp
            with_reducible rfl
           rotate_left
           ·
            simp only [Act.put, List.setIfInBounds_toArray, List.set_cons_zero, List.set_cons_succ, i64_w, i32_w]
            rfl
           refine pure_ (i := 12) (N := some 93) (v := ?_) (a' := ?_) #[true, true, true, false, false, true, true, false, false, true, true, true, true, false, false, false, false, false] rfl rfl (any_of HT_.out (by kernel_rfl)) (fun _ _ _ h => h) (Or.inl ⟨by rfl, ?_⟩) ?_ ?_
           rotate_left
           ·
            intro w'
            go_simp
            with_reducible rfl
           rotate_left
           ·
            simp only [Act.put, List.setIfInBounds_toArray, List.set_cons_zero, List.set_cons_succ, i64_w, i32_w]
            rfl
           refine take_ (i := 3) (N := some 84) (v := ?_) (a' := ?_) #[true, true, true, true, false, true, true, false, false, true, true, true, true, false, false, false, false, false] rfl rfl (take_ofW HT_.out HW_.out (by kernel_rfl)) (fun _ _ _ h => h) (Or.inl ⟨by rfl, ?_⟩) hHeld ?_ ?_
           rotate_left
           ·
            rintro w' ⟨s0, s1⟩
            go_simp
            with_reducible rfl
           rotate_left
           ·
            simp only [Act.put, List.setIfInBounds_toArray, List.set_cons_zero, List.set_cons_succ, i64_w, i32_w]
            rfl
           refine pure_ (i := 4) (N := some 85) (v := ?_) (a' := ?_) #[true, true, true, true, true, true, true, false, false, true, true, true, true, false, false, false, false, false] rfl rfl (any_of HT_.out (by kernel_rfl)) (fun _ _ _ h => h) (Or.inl ⟨by rfl, ?_⟩) ?_ ?_
           rotate_left
           ·
            intro w'
            go_simp
            with_reducible rfl
           rotate_left
           ·
            simp only [Act.put, List.setIfInBounds_toArray, List.set_cons_zero, List.set_cons_succ, i64_w, i32_w]
            rfl
           refine take_ (i := 7) (N := some 88) (v := ?_) (a' := ?_) #[true, true, true, true, true, true, true, true, false, true, true, true, true, false, false, false, false, false] rfl rfl (take_ofW HT_.out HW_.out (by kernel_rfl)) (fun _ _ _ h => h) (Or.inl ⟨by rfl, ?_⟩) hHeld ?_ ?_
           rotate_left
           ·
            rintro w' ⟨s0, s1⟩
            go_simp
            with_reducible rfl
           rotate_left
           ·
            simp only [Act.put, List.setIfInBounds_toArray, List.set_cons_zero, List.set_cons_succ, i64_w, i32_w]
            rfl
           refine pure_ (i := 8) (N := some 89) (v := ?_) (a' := ?_) #[true, true, true, true, true, true, true, true, true, true, true, true, true, false, false, false, false, false] rfl rfl (any_of HT_.out (by kernel_rfl)) (fun _ _ _ h => h) (Or.inl ⟨by rfl, ?_⟩) ?_ ?_
           rotate_left
           ·
            intro w'
            go_simp
            with_reducible rfl
           rotate_left
           ·
            simp only [Act.put, List.setIfInBounds_toArray, List.set_cons_zero, List.set_cons_succ, i64_w, i32_w]
            rfl
           refine one_ (i := 13) (N := some 94) #[true, true, true, true, true, true, true, true, true, true, true, true, true, true, false, false, false, false] rfl rfl (one_of HT_.out (by kernel_rfl)) (by decide) (fun K hK => ?_)
           refine Kd.R_append_rows_step (Kd.int .u8) (w0 := w) w.heap.size rfl (.const (.slice none 0 0)) (.tmp 93) 22 5 (.int .u8 0) 1 rfl Try.underlying22 info5 rfl (by decide) (by omega) (.slice none 0 0) ([] : List Int) y150 _ _ _ (fun k_ => some k_ ≠ (.slice (some ad140) x6_1.length co14 : Value).ownBlock) (fun _ => False) rfl rfl ?aO ?aR (fun _ _ h => h) (fun _ h => h.elim) ?aF ?aB ?aS ?aL ?_
           (case aR => repeat (first | exact (by repeat (first | (with_reducible exact HR153.out) | (with_reducible refine Kd.C_alloc ?_ _) | (with_reducible refine Kd.C_drewN ?_ _) | (with_reducible refine Kd.C_drew ?_) | exact HR153.out)) | (with_reducible refine Kd.C_alloc ?_ _) | (with_reducible refine Kd.C_drewN ?_ _) | (with_reducible refine Kd.C_drew ?_)))
           (case aB => exact (by repeat (first | (with_reducible first | exact HB.out | apply below_alloc | apply pw_below_drewN | apply below_drew1 | refine below_set ?_ GE120.out | refine below_set ?_ GE121.out) | exact HB.out)))
           (case aF => exact (fun k_ hk => Kd.fresh' (Kd.Q_lt (by (with_reducible repeat (first | apply Kd.Q_alloc | apply Kd.Q_drewN | apply Kd.Q_drew)); exact HO_6.out)) k_ hk))
           (case aO => exact ((Kd.R_nil _ _ _ _ (fun k_ => some k_ ≠ (.slice (some ad140) x6_1.length co14 : Value).ownBlock))))
           (case aS => exact (below_size (by repeat (first | (with_reducible first | exact HB.out | apply below_alloc | apply pw_below_drewN | apply below_drew1 | refine below_set ?_ GE120.out | refine below_set ?_ GE121.out) | exact HB.out))))
           (case aL => have := LMc46.out; omega)
           intro v155 w55 ho hb hg hat
           have HS0_ := cell_grown hg (hHeld.1) (by simp [Value.ownBlock])
           have HS1_ := cell_grown hg (hHeld.2) (by simp [Value.ownBlock])
           rw [← Ny154.out] at ho
           have n0_ := Aside0.mk (Kd.Q_after (Kd.Q_apart_nil (by (with_reducible repeat (first | apply Kd.Q_alloc | apply Kd.Q_drewN | apply Kd.Q_drew)); exact HO_6.out)) hg hat)
           have n1_ := Aside0.mk (Kd.S_after (Kd.S_apart_nil (by (with_reducible repeat (first | apply Kd.S_alloc | apply Kd.S_drewN | apply Kd.S_drew)); exact HO_7.out)) hg hat)
           have n2_ := Aside0.mk (blk_grown (g := gb120) (o := .cells #[.slice A0_0 l0_0.length c0_0, .int .i64 a0_1] 36 (0, 0)) (by (with_reducible repeat (first | refine blk_drewN ?_ _ | refine blk_drew ?_ | refine blk_alloc ?_ _)); exact BK120.out) hg (by simp [Value.ownBlock]))
           have n3_ := Aside0.mk (blk_grown (g := gb121) (o := .cells #[.slice none 0 0, .int .i64 0] 36 (0, 0)) (by (with_reducible repeat (first | refine blk_drewN ?_ _ | refine blk_drew ?_ | refine blk_alloc ?_ _)); exact BK121.out) hg (by simp [Value.ownBlock]))
           have n4_ := Aside0.mk (hb)
           have n5_ := Aside0.mk ((show Kd.C (Kd.int .u8) w55 A52 y141.length y141 from by rw [Ny141.out, KA52.out]; exact Kd.C_mid (lo := 1) (hi := ((ji35) : Int).toNat) (c := co14) ((Kd.Q_reads' (Kd.Q_after (Kd.Q_apart_nil (by (with_reducible repeat (first | apply Kd.Q_alloc | apply Kd.Q_drewN | apply Kd.Q_drew)); exact HO_6.out)) hg hat)).2.2) KM52.out KL52.out ((Kd.Q_reads' (Kd.Q_after (Kd.Q_apart_nil (by (with_reducible repeat (first | apply Kd.Q_alloc | apply Kd.Q_drewN | apply Kd.Q_drew)); exact HO_6.out)) hg hat)).2.1)))
           have n6_ := Aside0.mk ((show Kd.C (Kd.int .u8) w55 A54 y150.length y150 from by rw [Ny150.out, KA54.out]; exact Kd.C_mid (lo := 4) (hi := ((ji35) : Int).toNat) (c := co14) ((Kd.Q_reads' (Kd.Q_after (Kd.Q_apart_nil (by (with_reducible repeat (first | apply Kd.Q_alloc | apply Kd.Q_drewN | apply Kd.Q_drew)); exact HO_6.out)) hg hat)).2.2) KM54.out KL54.out ((Kd.Q_reads' (Kd.Q_after (Kd.Q_apart_nil (by (with_reducible repeat (first | apply Kd.Q_alloc | apply Kd.Q_drewN | apply Kd.Q_drew)); exact HO_6.out)) hg hat)).2.1)))
           have n7_ := Aside0.mk (ho)
           clear HO_6
           clear HO_7
           clear BK120
           clear BK121
           clear HB
           clear HR144
           clear HR153
           have HO_6 := n0_
           have HO_7 := n1_
           have BK120 := n2_
           have BK121 := n3_
           have HB := n4_
           have HR144 := n5_
           have HR153 := n6_
           have HO156 := n7_
           clear n0_ n1_ n2_ n3_ n4_ n5_ n6_ n7_
           clear ho hb hg hat
           obtain ⟨Ao56, co56, eo56⟩ := Kd.R_slice HO156.out
           (first | subst eo56 | (injection eo56 with f1_ f2_ f3_; have f4_ := f1_.symm; have f5_ := f3_.symm; clear f1_ f2_ f3_; subst f4_; subst f5_))
           refine hK.out _ _ ⟨HS0_, HS1_⟩ (fun hHeld => ?_)
           clear hK K
           refine norm_ (a' := ?_) ?_ ?_
           rotate_left
           ·
            show Act.put _ (some 94) _ = _
            simp only [Act.put, List.setIfInBounds_toArray, List.set_cons_zero, List.set_cons_succ, i64_w, i32_w]
            rfl
           refine pure_ (i := 14) (N := some 95) (v := ?_) (a' := ?_) #[true, true, true, true, true, true, true, true, true, true, true, true, true, true, true, false, false, false] rfl rfl (any_of HT_.out (by kernel_rfl)) (fun _ _ _ h => h) (Or.inl ⟨by rfl, ?_⟩) ?_ ?_
           rotate_left
           ·
            intro w'
            go_simp
            with_reducible rfl
           rotate_left
           ·
            simp only [Act.put, List.setIfInBounds_toArray, List.set_cons_zero, List.set_cons_succ, i64_w, i32_w]
            rfl
           refine last_ (i := 15) (N := some 96) #[true, true, true, true, true, true, true, true, true, true, true, true, true, true, true, true, false, false] rfl rfl (one_of HT_.out (by kernel_rfl)) (by decide) (fun K hK => ?_)
           refine value_ (w1 := ?_) (v := ?_) (by rfl) rfl ?_ ?_
           rotate_left 2
           ·
            go_simp
            constructor
            ·
             rfl
            ·
             rfl
           refine hK.out _ _ ?_
           clear hK K
           refine norm_ (a' := ?_) ?_ ?_
           rotate_left
           ·
            show Act.put _ (some 96) _ = _
            simp only [Act.put, List.setIfInBounds_toArray, List.set_cons_zero, List.set_cons_succ, i64_w, i32_w]
            rfl
           refine last_ (i := 16) (N := some 97) #[true, true, true, true, true, true, true, true, true, true, true, true, true, true, true, true, true, false] rfl rfl (one_of HT_.out (by kernel_rfl)) (by decide) (fun K hK => ?_)
           refine Kd.S_append_step k24 (w0 := w) w.heap.size (by rfl) (.tmp 81) (.tmp 96) 29 24 (.agg #[(.int .i64 0), (.int .i64 0), (.slice none 0 0)]) 40 rfl Try.underlying29 info24 rfl (by decide) (by omega) u7 x7_1 (⟨wrap64 (rd x6_1 2), wrap64 (rd x6_1 3), y154⟩ : S24) [.int .i64 (wrap64 (rd x6_1 2)), .int .i64 (wrap64 (rd x6_1 3)), .slice Ao56 y154.length co56] (fun k_ => some k_ ≠ (.slice (some ad140) x6_1.length co14 : Value).ownBlock) (fun k_ => some k_ = (.slice Ao56 y154.length co56 : Value).ownBlock) rfl rfl ?aP (fun k_ hk_ => ((Kd.R_mono (ok' := fun k_ => ((fun k_ => some k_ ≠ (.slice (some ad140) x6_1.length co14 : Value).ownBlock)) k_ ∧ some k_ ≠ (u7 : Value).ownBlock) (Kd.R_apart' (HO156.out) (Kd.S_typed HO_7.out) (by decide)) (fun k_ hk => ⟨hk.1, hk.2⟩))).1 k_ hk_.symm) ?aF ?aO ?aB ?aS ?aL ?_
           (case aP => exact k24_mkM _ _ _ (⟨wrap64 (rd x6_1 2), wrap64 (rd x6_1 3), y154⟩ : S24) (Kd.R_mono (Kd.R_tight rfl (Kd.R_mono (ok' := fun k_ => ((fun k_ => some k_ ≠ (.slice (some ad140) x6_1.length co14 : Value).ownBlock)) k_ ∧ some k_ ≠ (u7 : Value).ownBlock) (Kd.R_apart' (HO156.out) (Kd.S_typed HO_7.out) (by decide)) (fun k_ hk => ⟨hk.1, hk.2⟩))) (fun _ h_ => h_)))
           (case aB => exact (by repeat (first | (with_reducible first | exact HB.out | apply below_alloc | apply pw_below_drewN | apply below_drew1 | refine below_set ?_ GE120.out | refine below_set ?_ GE121.out) | exact HB.out)))
           (case aF => exact (fun k_ hk => Kd.fresh' (Kd.Q_lt (by (with_reducible repeat (first | apply Kd.Q_alloc | apply Kd.Q_drewN | apply Kd.Q_drew)); exact HO_6.out)) k_ hk))
           (case aO => exact (by (with_reducible repeat (first | apply Kd.S_alloc | apply Kd.S_drewN | apply Kd.S_drew)); exact Kd.S_mono HO_7.out (fun k_ hk => ⟨hk.1, fun e_ => hk.2 e_⟩)))
           (case aS => exact (below_size (by repeat (first | (with_reducible first | exact HB.out | apply below_alloc | apply pw_below_drewN | apply below_drew1 | refine below_set ?_ GE120.out | refine below_set ?_ GE121.out) | exact HB.out))))
           (case aL => have := LMc47.out; omega)
           intro v158 w57 ho hb hg hat
           rw [← Ny157.out] at ho
           have n0_ := Aside0.mk (Kd.Q_over' (by (with_reducible repeat (first | apply Kd.Q_alloc | apply Kd.Q_drewN | apply Kd.Q_drew)); exact HO_6.out) (Kd.S_typed (by (with_reducible repeat (first | apply Kd.S_alloc | apply Kd.S_drewN | apply Kd.S_drew)); exact HO_7.out)) (by decide) hg)
           have n1_ := Aside0.mk (blk_grown (g := gb120) (o := .cells #[.slice A0_0 l0_0.length c0_0, .int .i64 a0_1] 36 (0, 0)) (by (with_reducible repeat (first | refine blk_drewN ?_ _ | refine blk_drew ?_ | refine blk_alloc ?_ _)); exact BK120.out) hg (Kd.S_ne HO_7.out BK120.out (by decide)))
           have n2_ := Aside0.mk (blk_grown (g := gb121) (o := .cells #[.slice none 0 0, .int .i64 0] 36 (0, 0)) (by (with_reducible repeat (first | refine blk_drewN ?_ _ | refine blk_drew ?_ | refine blk_alloc ?_ _)); exact BK121.out) hg (Kd.S_ne HO_7.out BK121.out (by decide)))
           have n3_ := Aside0.mk (hb)
           have n4_ := Aside0.mk ((show Kd.C (Kd.int .u8) w57 A52 y141.length y141 from by rw [Ny141.out, KA52.out]; exact Kd.C_mid (lo := 1) (hi := ((ji35) : Int).toNat) (c := co14) ((Kd.Q_reads' (Kd.Q_over' (by (with_reducible repeat (first | apply Kd.Q_alloc | apply Kd.Q_drewN | apply Kd.Q_drew)); exact HO_6.out) (Kd.S_typed (by (with_reducible repeat (first | apply Kd.S_alloc | apply Kd.S_drewN | apply Kd.S_drew)); exact HO_7.out)) (by decide) hg)).2.2) KM52.out KL52.out ((Kd.Q_reads' (Kd.Q_over' (by (with_reducible repeat (first | apply Kd.Q_alloc | apply Kd.Q_drewN | apply Kd.Q_drew)); exact HO_6.out) (Kd.S_typed (by (with_reducible repeat (first | apply Kd.S_alloc | apply Kd.S_drewN | apply Kd.S_drew)); exact HO_7.out)) (by decide) hg)).2.1)))
           have n5_ := Aside0.mk ((show Kd.C (Kd.int .u8) w57 A54 y150.length y150 from by rw [Ny150.out, KA54.out]; exact Kd.C_mid (lo := 4) (hi := ((ji35) : Int).toNat) (c := co14) ((Kd.Q_reads' (Kd.Q_over' (by (with_reducible repeat (first | apply Kd.Q_alloc | apply Kd.Q_drewN | apply Kd.Q_drew)); exact HO_6.out) (Kd.S_typed (by (with_reducible repeat (first | apply Kd.S_alloc | apply Kd.S_drewN | apply Kd.S_drew)); exact HO_7.out)) (by decide) hg)).2.2) KM54.out KL54.out ((Kd.Q_reads' (Kd.Q_over' (by (with_reducible repeat (first | apply Kd.Q_alloc | apply Kd.Q_drewN | apply Kd.Q_drew)); exact HO_6.out) (Kd.S_typed (by (with_reducible repeat (first | apply Kd.S_alloc | apply Kd.S_drewN | apply Kd.S_drew)); exact HO_7.out)) (by decide) hg)).2.1)))
           have n6_ := Aside0.mk (ho)
           clear HO_6
           clear BK120
           clear BK121
           clear HB
           clear HR144
           clear HR153
           clear HO_7
           clear HO156
           have HO_6 := n0_
           have BK120 := n1_
           have BK121 := n2_
           have HB := n3_
           have HR144 := n4_
           have HR153 := n5_
           have HO159 := n6_
           clear n0_ n1_ n2_ n3_ n4_ n5_ n6_
           clear ho hb hg hat
           refine hK.out _ _ ?_
           clear hK K
           refine norm_ (a' := ?_) ?_ ?_
           rotate_left
           ·
            show Act.put _ (some 97) _ = _
            simp only [Act.put, List.setIfInBounds_toArray, List.set_cons_zero, List.set_cons_succ, i64_w, i32_w]
            rfl
           refine pure_ (i := 17) (N := some 7) (v := ?_) (a' := ?_) #[true, true, true, true, true, true, true, true, true, true, true, true, true, true, true, true, true, true] rfl rfl (any_of HT_.out (by kernel_rfl)) (fun _ _ _ h => h) (Or.inl ⟨by rfl, ?_⟩) ?_ ?_
           rotate_left
           ·
            intro w'
            go_simp
            with_reducible rfl
           rotate_left
           ·
            simp only [Act.put, List.setIfInBounds_toArray, List.set_cons_zero, List.set_cons_succ, i64_w, i32_w]
            rfl
           refine done_ (done_of HT_.out (by kernel_rfl)) ?_
           have n_ := Aside0.mk (Kd.Q_mono (ok' := (fun _ => True)) HO_6.out (fun k_ hk => trivial))
           clear HO_6
           have HO_6 := n_
           clear n_
           have q58 : ((ji48) : Int) ≤ ((x6_1.length : Int) : Int) := of_decide_eq_true (by first | (with_reducible assumption) | assumption)
           obtain ⟨i058, hi058, _, hsz58, _⟩ := info_parts info5
           have hcut58 := cut_from (P := Try.prog) 22 5 .i64 Try.underlying22 hi058 1 hsz58 (some ad140) x6_1.length co14 (ji48) (of_decide_eq_true (by first | (with_reducible assumption) | assumption)) q58
           have hr58 := Kd.Q_drop (k := ((ji48) : Int).toNat) HO_6.out (by omega)
           obtain ⟨A58, hA58⟩ : ∃ A1, A1 = (if co14 = ((ji48) : Int).toNat then (some ad140) else ((some ad140) : Option Addr).map (·.add (((ji48) : Int).toNat * 1))) := ⟨_, rfl⟩
           obtain ⟨c58, hc58⟩ : ∃ c1, c1 = co14 - ((ji48) : Int).toNat := ⟨_, rfl⟩
           have hy58 : y160.length = x6_1.length - ((ji48) : Int).toNat := (by rw [Ny160.out, List.length_drop])
           rw [← Ny160.out] at hr58
           rw [← hy58, ← hA58, ← hc58] at hcut58
           replace hr58 : Kd.Q (Kd.int .u8) 5 w57 w.heap.size (fun _ => True) (.slice A58 y160.length c58) y160 := (by rw [hA58, hc58, hy58]; exact hr58)
           have HE58 : Aside0 ((Value.slice A58 y160.length c58).ownBlock = (.slice (some ad140) x6_1.length co14 : Value).ownBlock) := ⟨by rw [hA58]; split <;> (first | rfl | (simp only [Option.map_some, Value.ownBlock, add_block]; done) | (cases ((some ad140) : Option Addr) <;> first | rfl | (simp [Value.ownBlock, add_block]; done)))⟩
           clear hy58 hi058 hsz58 HO_6 hA58 hc58
           have HO162 := Aside0.mk hr58
           clear hr58
           replace q58 := eq_true q58
           have n_ := Aside0.mk (Kd.S_mono (ok' := fun k_ => some k_ ≠ (.slice A58 y160.length c58 : Value).ownBlock) HO159.out (fun k_ hk => (by rw [HE58.out]; exact hk)))
           clear HO159
           have HO159 := n_
           clear n_
           try go_wp2
           go_roundg kj21
           case measure => have := HK1.out; have := HJ12.out; have := HJ21.out; omega
           case rel => exact ⟨(y160), (y157), (x8_1), (by first | rfl | (simp; done) | (simp [*]; done)), H', ⟨by have := HK1.out; have := HJ12.out; have := HJ21.out; omega⟩, ⟨by (with_reducible repeat (first | apply Kd.Q_alloc | apply Kd.Q_drewN | apply Kd.Q_drew)); exact HO162.out⟩, ⟨by (with_reducible repeat (first | apply Kd.S_alloc | apply Kd.S_drewN | apply Kd.S_drew)); exact HO159.out⟩, ⟨by (with_reducible repeat (first | refine blk_drewN ?_ _ | refine blk_drew ?_ | refine blk_alloc ?_ _)); exact BK120.out⟩, ⟨by (with_reducible repeat (first | refine blk_drewN ?_ _ | refine blk_drew ?_ | refine blk_alloc ?_ _)); exact BK121.out⟩, ⟨by repeat (first | (with_reducible first | exact HB.out | apply below_alloc | apply pw_below_drewN | apply below_drew1 | refine below_set ?_ GE120.out | refine below_set ?_ GE121.out) | exact HB.out)⟩⟩
          ·
           rw [if_neg c41] at H
           have c41b0 : (t145 == (Go.bits .or .i64 (wrap64 ((wrap64 (rd x6_1 (ji35))) * 256)) (wrap64 (rd x6_1 (ji38))))) = false := beq_eq_false_iff_ne.mpr c41
           have c41b1 : (t145 != (Go.bits .or .i64 (wrap64 ((wrap64 (rd x6_1 (ji35))) * 256)) (wrap64 (rd x6_1 (ji38))))) = true := bne_iff_ne.mpr c41
           by_cases c59 : 1 ≤ (x6_1.length : Int)
           rotate_left
           ·
            rw [if_neg c59] at H
            exact absurd H (by simp)
           rw [if_pos c59] at H
           have c59b0 := eq_true c59
           have c59b1 : decide (1 ≤ (x6_1.length : Int)) = true := decide_eq_true c59
           clear c59
           obtain ⟨y163, hy163⟩ : ∃ y_ : List Int, y_ = (x6_1.drop (1 : Int).toNat) := ⟨_, rfl⟩
           replace H : (telegram_Feed.l0 kj21 y163 x7_1 (wrap64 (x8_1 + 1))) = some (r1, r2, r3) := by first | (rw [hy163]; with_reducible exact H) | (have H2_ := (Option.bind_some _ _).symm.trans H; rw [hy163]; with_reducible exact H2_) | (have H2_ := (Option.bind_some _ _).symm.trans H; with_reducible exact H2_) | with_reducible exact H | (rw [hy163]; exact H) | exact H
           have Ny163 := Aside0.mk hy163
           clear hy163
           have H' := Aside0.mk H
           clear H
           have p140 : 0 ≤ (1 : Int) := (by omega)
           have q140 : 1 < (x6_1.length : Int) := of_decide_eq_true (by first | (with_reducible assumption) | assumption)
           obtain ⟨ad140, e140, hx140_0⟩ := Kd.at_int (Kd.Q_reads' HO_6.out).2.2 1 p140 q140
           cases e140
           (try simp only [show (1 : Int).toNat = 1 from rfl, Nat.reduceMul, Nat.reduceEqDiff, Go.Addr.add, ↓reduceIte] at hx140_0)
           have qi140 : (1 < x6_1.length) = True := eq_true (by omega)
           (try rw [show ((1 : Int)).toNat = 1 from rfl] at hx140_0)
           replace p140 := eq_true p140
           replace q140 := eq_true q140
           try go_wp2
           have n0_ := Aside0.mk (Kd.Q_drew HO_6.out)
           have n1_ := Aside0.mk (Kd.S_drew HO_7.out)
           have n2_ := Aside0.mk (blk_drew BK120.out)
           have n3_ := Aside0.mk (blk_drew BK121.out)
           have n4_ := Aside0.mk (below_drew1 HB.out)
           clear HO_6
           clear HO_7
           clear BK120
           clear BK121
           clear HB
           have HO_6 := n0_
           have HO_7 := n1_
           have BK120 := n2_
           have BK121 := n3_
           have HB := n4_
           clear n0_ n1_ n2_ n3_ n4_
           have q61 : ((ji35) : Int) ≤ ((x6_1.length : Int) : Int) := of_decide_eq_true (by first | (with_reducible assumption) | assumption)
           obtain ⟨i061, hi061, _, hsz61, _⟩ := info_parts info5
           have hroom61 : x6_1.length ≤ co14 := (Kd.Q_reads' HO_6.out).2.1
           have hC61 : Kd.C (Kd.int .u8) _ (some ad140) x6_1.length x6_1 := (Kd.Q_reads' HO_6.out).2.2
           have ql61 : (1 : Int) ≤ ((ji35) : Int) := of_decide_eq_true (by first | (with_reducible assumption) | assumption)
           have hcut61 := cut_mid (P := Try.prog) 22 5 .i64 .i64 Try.underlying22 hi061 1 hsz61 (some ad140) x6_1.length co14 1 (ji35) (by omega) ql61 q61 hroom61
           have hr61 := Kd.C_mid (lo := (1 : Int).toNat) (hi := ((ji35) : Int).toNat) (c := co14) hC61 (by omega) (by omega) hroom61
           obtain ⟨A61, hA61⟩ : ∃ A1, A1 = (if co14 = (1 : Int).toNat then (some ad140) else ((some ad140) : Option Addr).map (·.add ((1 : Int).toNat * 1))) := ⟨_, rfl⟩
           obtain ⟨c61, hc61⟩ : ∃ c1, c1 = co14 - (1 : Int).toNat := ⟨_, rfl⟩
           have hy61 : y141.length = ((ji35) : Int).toNat - (1 : Int).toNat := (by rw [Ny141.out, List.length_drop, List.length_take] <;> omega)
           rw [show ((x6_1).take ((ji35) : Int).toNat).drop (1 : Int).toNat = y141 from Ny141.out.symm] at hr61
           replace hr61 : Kd.C (Kd.int .u8) _ A61 y141.length y141 := (by rw [hA61]; exact hr61)
           rw [← hy61, ← hA61, ← hc61] at hcut61
           have HR144 := Aside0.mk hr61
           have HC144 := Aside0.mk (show y141.length ≤ c61 from by rw [hy61, hc61]; exact Nat.sub_le_sub_right (Nat.le_trans (by omega) hroom61) _)
           clear hr61 hC61 hroom61 hi061 hsz61 hc61
           have KY61 := Aside0.mk hy61
           have KA61 := Aside0.mk hA61
           clear hy61 hA61
           have KL61 := Aside0.mk (show ((ji35) : Int).toNat ≤ x6_1.length from by omega)
           have KM61 := Aside0.mk (show 1 ≤ ((ji35) : Int).toNat from by omega)
           replace q61 := eq_true q61
           have p146 : 0 ≤ ((ji35) : Int) := of_decide_eq_true (by first | (with_reducible assumption) | assumption)
           have q146 : (ji35) < (x6_1.length : Int) := of_decide_eq_true (by first | (with_reducible assumption) | assumption)
           obtain ⟨ad146, e146, hx146_0⟩ := Kd.at_int (Kd.Q_reads' HO_6.out).2.2 (ji35) p146 q146
           obtain rfl : ad140 = ad146 := (by injection e146)
           replace p146 := eq_true p146
           replace q146 := eq_true q146
           have p147 : 0 ≤ ((ji38) : Int) := of_decide_eq_true (by first | (with_reducible assumption) | assumption)
           have q147 : (ji38) < (x6_1.length : Int) := of_decide_eq_true (by first | (with_reducible assumption) | assumption)
           obtain ⟨ad147, e147, hx147_0⟩ := Kd.at_int (Kd.Q_reads' HO_6.out).2.2 (ji38) p147 q147
           obtain rfl : ad140 = ad147 := (by injection e147)
           replace p147 := eq_true p147
           replace q147 := eq_true q147
           refine start_ (n := 20) (S := fun w' => w'.cell? (ad140.add ((ji35)).toNat) = some (.int .u8 (rd x6_1 (ji35))) ∧ w'.cell? (ad140.add ((ji38)).toNat) = some (.int .u8 (rd x6_1 (ji38)))) (ds := []) #[false, false, false, false, false, false, false, false, false, false, false, false, false, false, false, false, false, false, false, false] (by kernel_rfl) rfl rfl ⟨hx146_0, hx147_0⟩ (fun hHeld => ?_); refine with_tabW telegram_Feed.tab9 telegram_Feed.bits9 (fun HT_ HW_ => ?_)
           generalize wc.drew = w60 at HO_6 HO_7 BK120 BK121 HB HR144 hx146_0 hx147_0 hHeld ⊢
           refine pure_ (i := 0) (N := some 57) (v := ?_) (a' := ?_) #[true, false, false, false, false, false, false, false, false, false, false, false, false, false, false, false, false, false, false, false] rfl rfl (any_of HT_.out (by kernel_rfl)) (fun _ _ _ h => h) (Or.inl ⟨by rfl, ?_⟩) ?_ ?_
           rotate_left
           ·
            intro w'
            go_simp
            with_reducible rfl
           rotate_left
           ·
            simp only [Act.put, List.setIfInBounds_toArray, List.set_cons_zero, List.set_cons_succ, i64_w, i32_w]
            rfl
           refine pure_ (i := 1) (N := some 58) (v := ?_) (a' := ?_) #[true, true, false, false, false, false, false, false, false, false, false, false, false, false, false, false, false, false, false, false] rfl rfl (any_of HT_.out (by kernel_rfl)) (fun _ _ _ h => h) (Or.inl ⟨by rfl, ?_⟩) ?_ ?_
           rotate_left
           ·
            intro w'
            go_simp
            with_reducible rfl
           rotate_left
           ·
            simp only [Act.put, List.setIfInBounds_toArray, List.set_cons_zero, List.set_cons_succ, i64_w, i32_w]
            rfl
           refine pure_ (i := 2) (N := some 59) (v := ?_) (a' := ?_) #[true, true, true, false, false, false, false, false, false, false, false, false, false, false, false, false, false, false, false, false] rfl rfl (any_of HT_.out (by kernel_rfl)) (fun _ _ _ h => h) (Or.inl ⟨by rfl, ?_⟩) ?_ ?_
           rotate_left
           ·
            intro w'
            go_simp
            with_reducible rfl
           rotate_left
           ·
            simp only [Act.put, List.setIfInBounds_toArray, List.set_cons_zero, List.set_cons_succ, i64_w, i32_w]
            rfl
           refine pure_ (i := 3) (N := some 60) (v := ?_) (a' := ?_) #[true, true, true, true, false, false, false, false, false, false, false, false, false, false, false, false, false, false, false, false] rfl rfl (any_of HT_.out (by kernel_rfl)) (fun _ _ _ h => h) (Or.inl ⟨by rfl, ?_⟩) ?_ ?_
           rotate_left
           ·
            intro w'
            go_simp
            with_reducible rfl
           rotate_left
           ·
            simp only [Act.put, List.setIfInBounds_toArray, List.set_cons_zero, List.set_cons_succ, i64_w, i32_w]
            rfl
           refine pure_ (i := 5) (N := some 62) (v := ?_) (a' := ?_) #[true, true, true, true, false, true, false, false, false, false, false, false, false, false, false, false, false, false, false, false] rfl rfl (any_of HT_.out (by kernel_rfl)) (fun _ _ _ h => h) (Or.inl ⟨by rfl, ?_⟩) ?_ ?_
           rotate_left
           ·
            intro w'
            go_simp
            with_reducible rfl
           rotate_left
           ·
            simp only [Act.put, List.setIfInBounds_toArray, List.set_cons_zero, List.set_cons_succ, i64_w, i32_w]
            rfl
           refine pure_ (i := 6) (N := some 63) (v := ?_) (a' := ?_) #[true, true, true, true, false, true, true, false, false, false, false, false, false, false, false, false, false, false, false, false] rfl rfl (any_of HT_.out (by kernel_rfl)) (fun _ _ _ h => h) (Or.inl ⟨by rfl, ?_⟩) ?_ ?_
           rotate_left
           ·
            intro w'
            go_simp
            with_reducible rfl
           rotate_left
           ·
            simp only [Act.put, List.setIfInBounds_toArray, List.set_cons_zero, List.set_cons_succ, i64_w, i32_w]
            rfl
           refine pure_ (i := 7) (N := some 64) (v := ?_) (a' := ?_) #[true, true, true, true, false, true, true, true, false, false, false, false, false, false, false, false, false, false, false, false] rfl rfl (any_of HT_.out (by kernel_rfl)) (fun _ _ _ h => h) (Or.inl ⟨by rfl, ?_⟩) ?_ ?_
           rotate_left
           ·
            intro w'
            go_simp
            with_reducible rfl
           rotate_left
           ·
            simp only [Act.put, List.setIfInBounds_toArray, List.set_cons_zero, List.set_cons_succ, i64_w, i32_w]
            rfl
           refine pure_ (i := 8) (N := some 65) (v := ?_) (a' := ?_) #[true, true, true, true, false, true, true, true, true, false, false, false, false, false, false, false, false, false, false, false] rfl rfl (any_of HT_.out (by kernel_rfl)) (fun _ _ _ h => h) (Or.inl ⟨by rfl, ?_⟩) ?_ ?_
           rotate_left
           ·
            intro w'
            go_simp
            with_reducible rfl
           rotate_left
           ·
            simp only [Act.put, List.setIfInBounds_toArray, List.set_cons_zero, List.set_cons_succ, i64_w, i32_w]
            rfl
           refine pure_ (i := 12) (N := some 69) (v := ?_) (a' := ?_) #[true, true, true, true, false, true, true, true, true, false, false, false, true, false, false, false, false, false, false, false] rfl rfl (any_of HT_.out (by kernel_rfl)) (fun _ _ _ h => h) (Or.inl ⟨by rfl, ?_⟩) ?_ ?_
           rotate_left
           ·
            intro w'
            go_simp
            with_reducible rfl
           rotate_left
           ·
            simp only [Act.put, List.setIfInBounds_toArray, List.set_cons_zero, List.set_cons_succ, i64_w, i32_w]
            rfl
           refine pure_ (i := 13) (N := some 70) (v := ?_) (a' := ?_) #[true, true, true, true, false, true, true, true, true, false, false, false, true, true, false, false, false, false, false, false] rfl rfl (any_of HT_.out (by kernel_rfl)) (fun _ _ _ h => h) (Or.inl ⟨by rfl, ?_⟩) ?_ ?_
           rotate_left
           ·
            intro w'
            go_simp
            with_reducible rfl
           rotate_left
           ·
            simp only [Act.put, List.setIfInBounds_toArray, List.set_cons_zero, List.set_cons_succ, i64_w, i32_w]
            rfl
           refine pure_ (i := 14) (N := some 71) (v := ?_) (a' := ?_) #[true, true, true, true, false, true, true, true, true, false, false, false, true, true, true, false, false, false, false, false] rfl rfl (any_of HT_.out (by kernel_rfl)) (fun _ _ _ h => h) (Or.inl ⟨by rfl, ?_⟩) ?_ ?_
           rotate_left
           ·
            intro w'
            go_simp
            with_reducible rfl
           rotate_left
           ·
            simp only [Act.put, List.setIfInBounds_toArray, List.set_cons_zero, List.set_cons_succ, i64_w, i32_w]
            rfl
           refine pure_ (i := 15) (N := some 72) (v := ?_) (a' := ?_) #[true, true, true, true, false, true, true, true, true, false, false, false, true, true, true, true, false, false, false, false] rfl rfl (any_of HT_.out (by kernel_rfl)) (fun _ _ _ h => h) (Or.inl ⟨by rfl, ?_⟩) ?_ ?_
           rotate_left
           ·
            intro w'
            go_simp
            with_reducible rfl
           rotate_left
           ·
            simp only [Act.put, List.setIfInBounds_toArray, List.set_cons_zero, List.set_cons_succ, i64_w, i32_w]
            rfl
           refine take_ (i := 9) (N := some 66) (v := ?_) (a' := ?_) #[true, true, true, true, false, true, true, true, true, true, false, false, true, true, true, true, false, false, false, false] rfl rfl (take_ofW HT_.out HW_.out (by kernel_rfl)) (fun _ _ _ h => h) (Or.inl ⟨by rfl, ?_⟩) hHeld ?_ ?_
           rotate_left
           ·
            rintro w' ⟨s0, s1⟩
            go_simp
            with_reducible rfl
           rotate_left
           ·
            simp only [Act.put, List.setIfInBounds_toArray, List.set_cons_zero, List.set_cons_succ, i64_w, i32_w]
            rfl
           refine pure_ (i := 10) (N := some 67) (v := ?_) (a' := ?_) #[true, true, true, true, false, true, true, true, true, true, true, false, true, true, true, true, false, false, false, false] rfl rfl (any_of HT_.out (by kernel_rfl)) (fun _ _ _ h => h) (Or.inl ⟨by rfl, ?_⟩) ?_ ?_
           rotate_left
           ·
            intro w'
            go_simp
            with_reducible rfl
           rotate_left
           ·
            simp only [Act.put, List.setIfInBounds_toArray, List.set_cons_zero, List.set_cons_succ, i64_w, i32_w]
            rfl
           refine pure_ (i := 11) (N := some 68) (v := ?_) (a' := ?_) #[true, true, true, true, false, true, true, true, true, true, true, true, true, true, true, true, false, false, false, false] rfl rfl (any_of HT_.out (by kernel_rfl)) (fun _ _ _ h => h) (Or.inl ⟨by rfl, ?_⟩) ?_ ?_
           rotate_left
           ·
            intro w'
            go_simp
            with_reducible rfl
           rotate_left
           ·
            simp only [Act.put, List.setIfInBounds_toArray, List.set_cons_zero, List.set_cons_succ, i64_w, i32_w]
            rfl
           refine take_ (i := 16) (N := some 73) (v := ?_) (a' := ?_) #[true, true, true, true, false, true, true, true, true, true, true, true, true, true, true, true, true, false, false, false] rfl rfl (take_ofW HT_.out HW_.out (by kernel_rfl)) (fun _ _ _ h => h) (Or.inl ⟨by rfl, ?_⟩) hHeld ?_ ?_
           rotate_left
           ·
            rintro w' ⟨s0, s1⟩
            go_simp
            with_reducible rfl
           rotate_left
           ·
            simp only [Act.put, List.setIfInBounds_toArray, List.set_cons_zero, List.set_cons_succ, i64_w, i32_w]
            rfl
           refine pure_ (i := 17) (N := some 74) (v := ?_) (a' := ?_) #[true, true, true, true, false, true, true, true, true, true, true, true, true, true, true, true, true, true, false, false] rfl rfl (any_of HT_.out (by kernel_rfl)) (fun _ _ _ h => h) (Or.inl ⟨by rfl, ?_⟩) ?_ ?_
           rotate_left
           ·
            intro w'
            go_simp
            with_reducible rfl
           rotate_left
           ·
            simp only [Act.put, List.setIfInBounds_toArray, List.set_cons_zero, List.set_cons_succ, i64_w, i32_w]
            rfl
           refine pure_ (i := 18) (N := some 75) (v := ?_) (a' := ?_) #[true, true, true, true, false, true, true, true, true, true, true, true, true, true, true, true, true, true, true, false] rfl rfl (any_of HT_.out (by kernel_rfl)) (fun _ _ _ h => h) (Or.inl ⟨by rfl, ?_⟩) ?_ ?_
           rotate_left
           ·
            intro w'
            go_simp
            with_reducible rfl
           rotate_left
           ·
            simp only [Act.put, List.setIfInBounds_toArray, List.set_cons_zero, List.set_cons_succ, i64_w, i32_w]
            rfl
           refine one_ (i := 4) (N := some 61) #[true, true, true, true, true, true, true, true, true, true, true, true, true, true, true, true, true, true, true, false] rfl rfl (one_of HT_.out (by kernel_rfl)) (by decide) (fun K hK => ?_)
           refine goes_ Try.func14 (by kernel_rfl) rfl #[.slice A61 y141.length c61] (by rfl) rfl rfl (by (try simp only [List.map_toArray, List.map_cons, List.map_nil]); first | done | rfl | (simp only [List.length_drop, List.length_take]; rfl)) ?_
           with_reducible refine (telegram_Check.calls kj21 _ _ y141 t145 _ ?side1 ?side2 A34.out).mono ?_
           (case side1 => repeat (first | exact (by repeat (first | (with_reducible exact HR144.out) | (with_reducible refine Kd.C_alloc ?_ _) | (with_reducible refine Kd.C_drewN ?_ _) | (with_reducible refine Kd.C_drew ?_) | exact HR144.out)) | (with_reducible refine Kd.C_alloc ?_ _) | (with_reducible refine Kd.C_drewN ?_ _) | (with_reducible refine Kd.C_drew ?_)))
           (case side2 => exact HC144.out)
           rintro e w' ⟨rfl, ⟨nd, rfl⟩⟩
           refine ⟨_, rfl, ?_⟩
           refine hK.out _ _ ⟨hHeld.1, hHeld.2⟩ (fun hHeld => ?_)
           clear hK K
           refine norm_ (a' := ?_) ?_ ?_
           rotate_left
           ·
            show Act.put _ (some 61) _ = _
            simp only [Act.put, List.setIfInBounds_toArray, List.set_cons_zero, List.set_cons_succ, i64_w, i32_w]
            rfl
           refine pure_ (i := 19) (N := some 76) (v := ?_) (a' := ?_) #[true, true, true, true, true, true, true, true, true, true, true, true, true, true, true, true, true, true, true, true] rfl rfl (any_of HT_.out (by kernel_rfl)) (fun _ _ _ h => h) (Or.inl ⟨by rfl, ?_⟩) ?_ ?_
           rotate_left
           ·
            intro w'
            go_simp
            with_reducible rfl
           rotate_left
           ·
            simp only [Act.put, List.setIfInBounds_toArray, List.set_cons_zero, List.set_cons_succ, i64_w, i32_w]
            rfl
           refine done_ (done_of HT_.out (by kernel_rfl)) ?_
           have q62 : (1 : Int) ≤ ((x6_1.length : Int) : Int) := of_decide_eq_true (by first | (with_reducible assumption) | assumption)
           obtain ⟨i062, hi062, _, hsz62, _⟩ := info_parts info5
           have hcut62 := cut_from (P := Try.prog) 22 5 .i64 Try.underlying22 hi062 1 hsz62 (some ad140) x6_1.length co14 1 (by omega) q62
           have hr62 := Kd.Q_drop (k := (1 : Int).toNat) HO_6.out (by omega)
           obtain ⟨A62, hA62⟩ : ∃ A1, A1 = (if co14 = (1 : Int).toNat then (some ad140) else ((some ad140) : Option Addr).map (·.add ((1 : Int).toNat * 1))) := ⟨_, rfl⟩
           obtain ⟨c62, hc62⟩ : ∃ c1, c1 = co14 - (1 : Int).toNat := ⟨_, rfl⟩
           have hy62 : y163.length = x6_1.length - (1 : Int).toNat := (by rw [Ny163.out, List.length_drop])
           rw [← Ny163.out] at hr62
           rw [← hy62, ← hA62, ← hc62] at hcut62
           replace hr62 : Kd.Q (Kd.int .u8) 5 w60 w.heap.size (fun _ => True) (.slice A62 y163.length c62) y163 := (by rw [hA62, hc62, hy62]; exact hr62)
           have HE62 : Aside0 ((Value.slice A62 y163.length c62).ownBlock = (.slice (some ad140) x6_1.length co14 : Value).ownBlock) := ⟨by rw [hA62]; split <;> (first | rfl | (simp only [Option.map_some, Value.ownBlock, add_block]; done) | (cases ((some ad140) : Option Addr) <;> first | rfl | (simp [Value.ownBlock, add_block]; done)))⟩
           clear hy62 hi062 hsz62 HO_6 hA62 hc62
           have HO165 := Aside0.mk hr62
           clear hr62
           replace q62 := eq_true q62
           have n_ := Aside0.mk (Kd.S_mono (ok' := fun k_ => some k_ ≠ (.slice A62 y163.length c62 : Value).ownBlock) HO_7.out (fun k_ hk => (by rw [HE62.out]; exact hk)))
           clear HO_7
           have HO_7 := n_
           clear n_
           try go_wp2
           go_roundg kj21
           case measure => have := HK1.out; have := HJ12.out; have := HJ21.out; omega
           case rel => exact ⟨(y163), (x7_1), (wrap64 (x8_1 + 1)), (by first | rfl | (simp; done) | (simp [*]; done)), H', ⟨by have := HK1.out; have := HJ12.out; have := HJ21.out; omega⟩, ⟨by (with_reducible repeat (first | apply Kd.Q_alloc | apply Kd.Q_drewN | apply Kd.Q_drew)); exact HO165.out⟩, ⟨by (with_reducible repeat (first | apply Kd.S_alloc | apply Kd.S_drewN | apply Kd.S_drew)); exact HO_7.out⟩, ⟨by (with_reducible repeat (first | refine blk_drewN ?_ _ | refine blk_drew ?_ | refine blk_alloc ?_ _)); exact BK120.out⟩, ⟨by (with_reducible repeat (first | refine blk_drewN ?_ _ | refine blk_drew ?_ | refine blk_alloc ?_ _)); exact BK121.out⟩, ⟨by repeat (first | (with_reducible first | exact HB.out | apply below_alloc | apply pw_below_drewN | apply below_drew1 | refine below_set ?_ GE120.out | refine below_set ?_ GE121.out) | exact HB.out)⟩⟩
   ·
    rw [if_neg c12] at H
    have c12b0 : decide (0 < (x6_1.length : Int)) = false := decide_eq_false c12
    have c12b1 : decide (0 < x6_1.length) = false := decide_eq_false (by omega)
    clear c12
    by_cases c63 : ([] : List Int).length + x6_1.length < 140737488355328
    rotate_left
    ·
     rw [if_neg c63] at H
     exact absurd H (by simp)
    rw [if_pos c63] at H
    have LMc63 := Aside0.mk c63
    clear c63
    obtain ⟨y128, hy128⟩ : ∃ y_ : List Int, y_ = (([] : List Int) ++ x6_1) := ⟨_, rfl⟩
    replace H : (some (y128, x8_1, x7_1)) = some (r1, r2, r3) := by first | (rw [hy128]; with_reducible exact H) | (have H2_ := (Option.bind_some _ _).symm.trans H; rw [hy128]; with_reducible exact H2_) | (have H2_ := (Option.bind_some _ _).symm.trans H; with_reducible exact H2_) | with_reducible exact H | (rw [hy128]; exact H) | exact H
    have Ny128 := Aside0.mk hy128
    clear hy128
    simp only [Option.some.injEq, Prod.mk.injEq] at H
    obtain ⟨rfl, rfl, rfl⟩ := H
    obtain ⟨Ao64, co64, eo64, _⟩ := Kd.Q_slice HO_6.out
    subst eo64
    go_wp2_with (first | ((with_reducible refine gate_builtin (b := .append) (xs := #[.const (.slice none 0 0), .tmp 102]) rfl ?_); (try (refine gate_guard (by rfl) ?_; dsimp only)); at_builtin; refine Kd.R_append_rows (Kd.int .u8) (w0 := w) w.heap.size rfl (.const (.slice none 0 0)) (.tmp 102) 22 5 (.int .u8 0) 1 rfl Try.underlying22 info5 rfl (by decide) (by omega) (.slice none 0 0) ([] : List Int) x6_1 _ _ _ (fun k_ => some k_ ≠ (.slice Ao64 x6_1.length co64 : Value).ownBlock) (fun _ => False) rfl rfl ?aO ?aR (fun _ _ h => h) (fun _ h => h.elim) ?aF ?aB ?aS ?aL ?_; (case aR => repeat (first | exact (Kd.Q_reads' HO_6.out).2.2 | (with_reducible refine Kd.C_alloc ?_ _) | (with_reducible refine Kd.C_drewN ?_ _) | (with_reducible refine Kd.C_drew ?_))); (case aB => exact (by repeat (first | (with_reducible first | exact HB.out | apply below_alloc | apply pw_below_drewN | apply below_drew1 | refine below_set ?_ GE120.out | refine below_set ?_ GE121.out) | exact HB.out))); (case aF => exact (fun k_ hk => Kd.fresh' (Kd.Q_lt (by (with_reducible repeat (first | apply Kd.Q_alloc | apply Kd.Q_drewN | apply Kd.Q_drew)); exact HO_6.out)) k_ hk)); (case aO => exact ((Kd.R_nil _ _ _ _ (fun k_ => some k_ ≠ (.slice Ao64 x6_1.length co64 : Value).ownBlock)))); (case aS => exact (below_size (by repeat (first | (with_reducible first | exact HB.out | apply below_alloc | apply pw_below_drewN | apply below_drew1 | refine below_set ?_ GE120.out | refine below_set ?_ GE121.out) | exact HB.out)))); (case aL => have := LMc63.out; omega); intro v129 w65 ho hb hg hat; rw [← Ny128.out] at ho; have n0_ := Aside0.mk (Kd.Q_after (Kd.Q_apart_nil (by (with_reducible repeat (first | apply Kd.Q_alloc | apply Kd.Q_drewN | apply Kd.Q_drew)); exact HO_6.out)) hg hat); have n1_ := Aside0.mk (Kd.S_after (Kd.S_apart_nil (by (with_reducible repeat (first | apply Kd.S_alloc | apply Kd.S_drewN | apply Kd.S_drew)); exact HO_7.out)) hg hat); have n2_ := Aside0.mk (blk_grown (g := gb120) (o := .cells #[.slice A0_0 l0_0.length c0_0, .int .i64 a0_1] 36 (0, 0)) (by (with_reducible repeat (first | refine blk_drewN ?_ _ | refine blk_drew ?_ | refine blk_alloc ?_ _)); exact BK120.out) hg (by simp [Value.ownBlock])); have n3_ := Aside0.mk (blk_grown (g := gb121) (o := .cells #[.slice none 0 0, .int .i64 0] 36 (0, 0)) (by (with_reducible repeat (first | refine blk_drewN ?_ _ | refine blk_drew ?_ | refine blk_alloc ?_ _)); exact BK121.out) hg (by simp [Value.ownBlock])); have n4_ := Aside0.mk (hb); have n5_ := Aside0.mk (ho); clear HO_6; clear HO_7; clear BK120; clear BK121; clear HB; have HO_6 := n0_; have HO_7 := n1_; have BK120 := n2_; have BK121 := n3_; have HB := n4_; have HO130 := n5_; clear n0_ n1_ n2_ n3_ n4_ n5_; clear ho hb hg hat; obtain ⟨Ao66, co66, eo66⟩ := Kd.R_slice HO130.out; subst eo66; have hnb67 := NB121_120.out; have hnc67 := NB120_121.out; have hcz68_0 : w65.cell? ⟨gb121, 0, none⟩ = some (.slice none 0 0) := (blk_cell BK121.out 0).trans rfl; have hcz68_1 : w65.cell? ⟨gb121, 1, none⟩ = some (.int .i64 0) := (blk_cell BK121.out 1).trans rfl; have hfz68_0 := blk_frozen BK121.out 0; have hfz68_1 := blk_frozen BK121.out 1))
    refine bodyPost_ret (results_ct rfl _ _ gb121 36 #[.slice Ao66 y128.length co66, .int .i64 x8_1] (0, 0) _ rfl (by (with_reducible repeat (first | refine blk_drewN ?_ _ | refine blk_drew ?_ | refine blk_alloc ?_ _)); refine blk_put (cs := #[.slice Ao66 y128.length co66, .int .i64 0]) ?_ 1 _ rfl; (with_reducible repeat (first | refine blk_drewN ?_ _ | refine blk_drew ?_ | refine blk_alloc ?_ _)); refine blk_put (cs := #[.slice none 0 0, .int .i64 0]) ?_ 0 _ rfl; (with_reducible repeat (first | refine blk_drewN ?_ _ | refine blk_drew ?_ | refine blk_alloc ?_ _)); exact BK121.out) Try.underlying36 rfl (by kernel_rfl)) rfl ?_
    exact ⟨_, _, by first | rfl | (simp [errW_none, errW_some] <;> rfl) | (simp [*, errW_none, errW_some] <;> rfl), by (with_reducible repeat (first | apply Kd.R_alloc | apply Kd.R_drewN | apply Kd.R_drew)); exact Kd.R_mono (Kd.R_far (p := ⟨gb121, 1, none⟩) (Kd.R_far (p := ⟨gb121, 0, none⟩) (Kd.R_types HO130.out BK121.out (by decide)) (fun _ hk => hk.2) (.slice Ao66 y128.length co66)) (fun _ hk => hk.2) (.int .i64 x8_1)) (fun _ hk => trivial), by (with_reducible repeat (first | apply Kd.S_alloc | apply Kd.S_drewN | apply Kd.S_drew)); exact Kd.S_mono (Kd.S_far (p := ⟨gb121, 1, none⟩) (Kd.S_far (p := ⟨gb121, 0, none⟩) (Kd.S_types HO_7.out BK121.out (by decide)) (fun _ hk => hk.2) (.slice Ao66 y128.length co66)) (fun _ hk => hk.2) (.int .i64 x8_1)) (fun _ hk => hk.1.2), by repeat (first | (with_reducible first | exact HB.out | apply below_alloc | apply pw_below_drewN | apply below_drew1 | refine below_set ?_ GE120.out | refine below_set ?_ GE121.out) | exact HB.out)⟩

end Go.Proofs.Ytacogcnckhgjbaa.PTer
