/- Functions of the given program as Lean functions, and proofs that its calls come to what these say. Written by a program of this seat (wip/mkprint.py); Lean checks it all. -/
import Derived.Test.YtcgeflbifbaecaaPFetx0
import Derived.Test.YtcgeflbifbaecaaPFetx1
namespace Go.Proofs.Ytcgeflbifbaecaa.PFet
open Go.RowKit Go.Proofs.YtcgeflbifbaecaaW.PrintWords Go.Proofs.YtcgeflbifbaecaaW.PrintLast Go.Proofs.YtcgeflbifbaecaaW.PrintMore
attribute [local go_sem] max2_int min2_int max_two min_two max_three min_three max_four min_four   -- for this text's walks alone
set_option linter.unusedVariables false
set_option linter.unusedSimpArgs false

attribute [local go_sem high] eqA32
/-! ### minecontrolref18_Same: function 24 -/
mutual
def minecontrolref18_Same.j0 : Nat → Bool → List (S32) → List Int → Int → List (S32) → List Int → Int → Option (Bool)
 | 0, _, _, _, _, _, _, _ => none
 | k + 1, x29, x260000, x260001, x260002, x261000, x261001, x261002 => if x29 = true then (some false) else (minecontrolref18_Same.l0 k 0 x260000 x260001 x260002 x261000 x261001 x261002)
def minecontrolref18_Same.l0 : Nat → Int → List (S32) → List Int → Int → List (S32) → List Int → Int → Option (Bool)
 | 0, _, _, _, _, _, _, _ => none
 | k + 1, x5, x260000, x260001, x260002, x261000, x261001, x261002 => if x5 < (x260000.length : Int) then (if 0 ≤ x5 then (if x5 < (x261000.length : Int) then (if (!(((rd_T32 x260000 x5).f0) == ((rd_T32 x261000 x5).f0)) || (!(((rd_T32 x260000 x5).f1) == ((rd_T32 x261000 x5).f1)) || (!(((rd_T32 x260000 x5).f2) == ((rd_T32 x261000 x5).f2)) || (!(((rd_T32 x260000 x5).f3) == ((rd_T32 x261000 x5).f3)) || (!(((rd_T32 x260000 x5).f4) == ((rd_T32 x261000 x5).f4))))))) = true then (some false) else (minecontrolref18_Same.l0 k (wrap64 (x5 + 1)) x260000 x260001 x260002 x261000 x261001 x261002)) else (none)) else (none)) else (minecontrolref18_Same.l1 k 0 x260000 x260001 x260002 x261000 x261001 x261002)
def minecontrolref18_Same.l1 : Nat → Int → List (S32) → List Int → Int → List (S32) → List Int → Int → Option (Bool)
 | 0, _, _, _, _, _, _, _ => none
 | k + 1, x6, x260000, x260001, x260002, x261000, x261001, x261002 => if x6 < (x260001.length : Int) then (if 0 ≤ x6 then (if x6 < (x261001.length : Int) then (if (rd x260001 x6) = (rd x261001 x6) then (minecontrolref18_Same.l1 k (wrap64 (x6 + 1)) x260000 x260001 x260002 x261000 x261001 x261002) else (some false)) else (none)) else (none)) else (some true)
end
def minecontrolref18_Same.f (k : Nat) (l0_0 : List (S32)) (l0_1 : List Int) (a0_2 : Int) (l1_0 : List (S32)) (l1_1 : List Int) (a1_2 : Int) : Option (Bool) := if a0_2 = a1_2 then (if (l0_0.length : Int) = (l1_0.length : Int) then (minecontrolref18_Same.j0 k ((l0_1.length : Int) != (l1_1.length : Int)) l0_0 l0_1 a0_2 l1_0 l1_1 a1_2) else (minecontrolref18_Same.j0 k true l0_0 l0_1 a0_2 l1_0 l1_1 a1_2)) else (minecontrolref18_Same.j0 k true l0_0 l0_1 a0_2 l1_0 l1_1 a1_2)
theorem minecontrolref18_Same.mono_l : ∀ k, (∀ y0 y1 y2 y3 y4 y5 y6, LeO (minecontrolref18_Same.j0 k y0 y1 y2 y3 y4 y5 y6) (minecontrolref18_Same.j0 (k + 1) y0 y1 y2 y3 y4 y5 y6)) ∧ (∀ y0 y1 y2 y3 y4 y5 y6, LeO (minecontrolref18_Same.l0 k y0 y1 y2 y3 y4 y5 y6) (minecontrolref18_Same.l0 (k + 1) y0 y1 y2 y3 y4 y5 y6)) ∧ (∀ y0 y1 y2 y3 y4 y5 y6, LeO (minecontrolref18_Same.l1 k y0 y1 y2 y3 y4 y5 y6) (minecontrolref18_Same.l1 (k + 1) y0 y1 y2 y3 y4 y5 y6))
 | 0 => ⟨fun _ _ _ _ _ _ _ r h => by simp [minecontrolref18_Same.j0] at h, fun _ _ _ _ _ _ _ r h => by simp [minecontrolref18_Same.l0] at h, fun _ _ _ _ _ _ _ r h => by simp [minecontrolref18_Same.l1] at h⟩
 | k + 1 => by
  obtain ⟨ih0, ih1, ih2⟩ := minecontrolref18_Same.mono_l k
  refine ⟨?_, ?_, ?_⟩
  ·
   intro y0 y1 y2 y3 y4 y5 y6
   unfold minecontrolref18_Same.j0
   repeat' first
   | (with_reducible exact ih0 _ _ _ _ _ _ _)
   | (with_reducible exact ih1 _ _ _ _ _ _ _)
   | (with_reducible exact ih2 _ _ _ _ _ _ _)
   | (with_reducible exact LeO.refl _)
   | (with_reducible exact LeO.none _)
   | (with_reducible refine LeO.ite ?_ ?_)
   | (with_reducible refine LeO.bind ?_ (fun _ => ?_))
   | exact ih0 _ _ _ _ _ _ _
   | exact ih1 _ _ _ _ _ _ _
   | exact ih2 _ _ _ _ _ _ _
   | exact LeO.none _
   | refine LeO.ite ?_ ?_
   | refine LeO.bind ?_ (fun _ => ?_)
  ·
   intro y0 y1 y2 y3 y4 y5 y6
   unfold minecontrolref18_Same.l0
   repeat' first
   | (with_reducible exact ih0 _ _ _ _ _ _ _)
   | (with_reducible exact ih1 _ _ _ _ _ _ _)
   | (with_reducible exact ih2 _ _ _ _ _ _ _)
   | (with_reducible exact LeO.refl _)
   | (with_reducible exact LeO.none _)
   | (with_reducible refine LeO.ite ?_ ?_)
   | (with_reducible refine LeO.bind ?_ (fun _ => ?_))
   | exact ih0 _ _ _ _ _ _ _
   | exact ih1 _ _ _ _ _ _ _
   | exact ih2 _ _ _ _ _ _ _
   | exact LeO.none _
   | refine LeO.ite ?_ ?_
   | refine LeO.bind ?_ (fun _ => ?_)
  intro y0 y1 y2 y3 y4 y5 y6
  unfold minecontrolref18_Same.l1
  repeat' first
  | (with_reducible exact ih0 _ _ _ _ _ _ _)
  | (with_reducible exact ih1 _ _ _ _ _ _ _)
  | (with_reducible exact ih2 _ _ _ _ _ _ _)
  | (with_reducible exact LeO.refl _)
  | (with_reducible exact LeO.none _)
  | (with_reducible refine LeO.ite ?_ ?_)
  | (with_reducible refine LeO.bind ?_ (fun _ => ?_))
  | exact ih0 _ _ _ _ _ _ _
  | exact ih1 _ _ _ _ _ _ _
  | exact ih2 _ _ _ _ _ _ _
  | exact LeO.none _
  | refine LeO.ite ?_ ?_
  | refine LeO.bind ?_ (fun _ => ?_)
theorem minecontrolref18_Same.mono : ∀ a0 a1 a2 a3 a4 a5 k, LeO (minecontrolref18_Same.f k a0 a1 a2 a3 a4 a5) (minecontrolref18_Same.f (k + 1) a0 a1 a2 a3 a4 a5) := by
 intro a0 a1 a2 a3 a4 a5 k
 obtain ⟨ih0, ih1, ih2⟩ := minecontrolref18_Same.mono_l k
 unfold minecontrolref18_Same.f
 repeat' first
   | (with_reducible exact ih0 _ _ _ _ _ _ _)
   | (with_reducible exact ih1 _ _ _ _ _ _ _)
   | (with_reducible exact ih2 _ _ _ _ _ _ _)
   | (with_reducible exact LeO.refl _)
   | (with_reducible exact LeO.none _)
   | (with_reducible refine LeO.ite ?_ ?_)
   | (with_reducible refine LeO.bind ?_ (fun _ => ?_))
   | exact ih0 _ _ _ _ _ _ _
   | exact ih1 _ _ _ _ _ _ _
   | exact ih2 _ _ _ _ _ _ _
   | exact LeO.none _
   | refine LeO.ite ?_ ?_
   | refine LeO.bind ?_ (fun _ => ?_)
set_option maxHeartbeats 8000000 in
set_option maxRecDepth 100000 in
theorem minecontrolref18_Same.calls (k : Nat) (A0_0 : Option Addr) (c0_0 : Nat) (l0_0 : List (S32)) (A0_1 : Option Addr) (c0_1 : Nat) (l0_1 : List Int) (a0_2 : Int) (A1_0 : Option Addr) (c1_0 : Nat) (l1_0 : List (S32)) (A1_1 : Option Addr) (c1_1 : Nat) (l1_1 : List Int) (a1_2 : Int) (r : Bool) (w : World) (hr0_0 : Kd.C k32 w A0_0 l0_0.length l0_0) (hc0_0 : l0_0.length ≤ c0_0) (hr0_1 : Kd.C (Kd.int .i64) w A0_1 l0_1.length l0_1) (hc0_1 : l0_1.length ≤ c0_1) (hr1_0 : Kd.C k32 w A1_0 l1_0.length l1_0) (hc1_0 : l1_0.length ≤ c1_0) (hr1_1 : Kd.C (Kd.int .i64) w A1_1 l1_1.length l1_1) (hc1_1 : l1_1.length ≤ c1_1) (h : minecontrolref18_Same.f k l0_0 l0_1 a0_2 l1_0 l1_1 a1_2 = some r) :
  Calls Try.prog 24 #[.agg #[.slice A0_0 l0_0.length c0_0, .slice A0_1 l0_1.length c0_1, .int .i64 a0_2], .agg #[.slice A1_0 l1_0.length c1_0, .slice A1_1 l1_1.length c1_1, .int .i64 a1_2]] w fun e w' => e = .returned (.bool r) ∧ Below w.heap.size w w' := by
 have hu28 := Try.underlying28
 have hu32 := Try.underlying32
 have HR0_0 := aM hr0_0
 have HC0_0 := aM hc0_0
 clear hr0_0 hc0_0
 have HR0_1 := aM hr0_1
 have HC0_1 := aM hc0_1
 clear hr0_1 hc0_1
 have HR1_0 := aM hr1_0
 have HC1_0 := aM hc1_0
 clear hr1_0 hc1_0
 have HR1_1 := aM hr1_1
 have HC1_1 := aM hc1_1
 clear hr1_1 hc1_1
 have HB := aM (Below.refl w.heap.size w)
 have H : (if a0_2 = a1_2 then (if (l0_0.length : Int) = (l1_0.length : Int) then (minecontrolref18_Same.j0 k ((l0_1.length : Int) != (l1_1.length : Int)) l0_0 l0_1 a0_2 l1_0 l1_1 a1_2) else (minecontrolref18_Same.j0 k true l0_0 l0_1 a0_2 l1_0 l1_1 a1_2)) else (minecontrolref18_Same.j0 k true l0_0 l0_1 a0_2 l1_0 l1_1 a1_2)) = some r := h
 clear h
 have HC3 := aM H
 clear H
 go_enter Try.func24, Try.ntmps24
 go_upto_region 1 with (first | ((with_reducible refine gate_dst (N := 2) rfl ?_); (try (refine gate_guard (by rfl) ?_; dsimp only)); refine box_event ?hg (N := 2) ?hd (cs := #[.slice A0_0 l0_0.length c0_0, .slice A0_1 l0_1.length c0_1, .int .i64 a0_2]) (t := 28) ?hr ?_; (case hd => rfl); (case hg => rfl); (case hr => first | (go_simp; done) | (go_simp; rfl)); intro gb259 hg w4 hbox hb; have BK259 := aM (hbox); have GW259 := aM ((by rw [hg]; exact (below_size (below_mv HB.out)) : w.heap.size ≤ gb259)); have GE259 := aM ((by rw [hg]; exact (below_size (below_mv HB.out)) : w.heap.size ≤ gb259)); replace HB := aM (below_step (below_mv HB.out) hb); clear hb hbox hg) | ((with_reducible refine gate_dst (N := 3) rfl ?_); (try (refine gate_guard (by rfl) ?_; dsimp only)); refine box_event ?hg (N := 3) ?hd (cs := #[.slice A1_0 l1_0.length c1_0, .slice A1_1 l1_1.length c1_1, .int .i64 a1_2]) (t := 28) ?hr ?_; (case hd => rfl); (case hg => rfl); (case hr => first | (go_simp; done) | (go_simp; rfl)); intro gb260 hg w5 hbox hb; have BK260 := aM (hbox); have GW260 := aM ((by rw [hg]; exact (below_size (by repeat (first | (with_reducible first | exact HB.out | apply bA | apply bN | apply bD | refine below_set ?_ GE259.out) | exact HB.out))) : w.heap.size ≤ gb260)); have GE260 := aM ((by rw [hg]; exact (below_size (by repeat (first | (with_reducible first | exact HB.out | apply bA | apply bN | apply bD | refine below_set ?_ GE259.out) | exact HB.out))) : w.heap.size ≤ gb260)); replace HB := aM (below_step (by repeat (first | (with_reducible first | exact HB.out | apply bA | apply bN | apply bD | refine below_set ?_ GE259.out) | exact HB.out)) hb); have NB259_260 := aM ((by rw [hg]; exact Nat.ne_of_lt (blk_lt (blk_mv BK259.out)) : gb259 ≠ gb260)); have NB260_259 := aM ((by rw [hg]; exact Nat.ne_of_gt (blk_lt (blk_mv BK259.out)) : gb260 ≠ gb259)); replace BK259 := aM (blk_below (blk_mv BK259.out) hb); clear hb hbox hg))
 repeat (go_quiet (first | ((with_reducible refine gate_dst (N := 2) rfl ?_); (try (refine gate_guard (by rfl) ?_; dsimp only)); refine box_event ?hg (N := 2) ?hd (cs := #[.slice A0_0 l0_0.length c0_0, .slice A0_1 l0_1.length c0_1, .int .i64 a0_2]) (t := 28) ?hr ?_; (case hd => rfl); (case hg => rfl); (case hr => first | (go_simp; done) | (go_simp; rfl)); intro gb259 hg w4 hbox hb; have BK259 := aM (hbox); have GW259 := aM ((by rw [hg]; exact (below_size (below_mv HB.out)) : w.heap.size ≤ gb259)); have GE259 := aM ((by rw [hg]; exact (below_size (below_mv HB.out)) : w.heap.size ≤ gb259)); replace HB := aM (below_step (below_mv HB.out) hb); clear hb hbox hg) | ((with_reducible refine gate_dst (N := 3) rfl ?_); (try (refine gate_guard (by rfl) ?_; dsimp only)); refine box_event ?hg (N := 3) ?hd (cs := #[.slice A1_0 l1_0.length c1_0, .slice A1_1 l1_1.length c1_1, .int .i64 a1_2]) (t := 28) ?hr ?_; (case hd => rfl); (case hg => rfl); (case hr => first | (go_simp; done) | (go_simp; rfl)); intro gb260 hg w5 hbox hb; have BK260 := aM (hbox); have GW260 := aM ((by rw [hg]; exact (below_size (by repeat (first | (with_reducible first | exact HB.out | apply bA | apply bN | apply bD | refine below_set ?_ GE259.out) | exact HB.out))) : w.heap.size ≤ gb260)); have GE260 := aM ((by rw [hg]; exact (below_size (by repeat (first | (with_reducible first | exact HB.out | apply bA | apply bN | apply bD | refine below_set ?_ GE259.out) | exact HB.out))) : w.heap.size ≤ gb260)); replace HB := aM (below_step (by repeat (first | (with_reducible first | exact HB.out | apply bA | apply bN | apply bD | refine below_set ?_ GE259.out) | exact HB.out)) hb); have NB259_260 := aM ((by rw [hg]; exact Nat.ne_of_lt (blk_lt (blk_mv BK259.out)) : gb259 ≠ gb260)); have NB260_259 := aM ((by rw [hg]; exact Nat.ne_of_gt (blk_lt (blk_mv BK259.out)) : gb260 ≠ gb259)); replace BK259 := aM (blk_below (blk_mv BK259.out) hb); clear hb hbox hg)); go_upto_region 1 with (first | ((with_reducible refine gate_dst (N := 2) rfl ?_); (try (refine gate_guard (by rfl) ?_; dsimp only)); refine box_event ?hg (N := 2) ?hd (cs := #[.slice A0_0 l0_0.length c0_0, .slice A0_1 l0_1.length c0_1, .int .i64 a0_2]) (t := 28) ?hr ?_; (case hd => rfl); (case hg => rfl); (case hr => first | (go_simp; done) | (go_simp; rfl)); intro gb259 hg w4 hbox hb; have BK259 := aM (hbox); have GW259 := aM ((by rw [hg]; exact (below_size (below_mv HB.out)) : w.heap.size ≤ gb259)); have GE259 := aM ((by rw [hg]; exact (below_size (below_mv HB.out)) : w.heap.size ≤ gb259)); replace HB := aM (below_step (below_mv HB.out) hb); clear hb hbox hg) | ((with_reducible refine gate_dst (N := 3) rfl ?_); (try (refine gate_guard (by rfl) ?_; dsimp only)); refine box_event ?hg (N := 3) ?hd (cs := #[.slice A1_0 l1_0.length c1_0, .slice A1_1 l1_1.length c1_1, .int .i64 a1_2]) (t := 28) ?hr ?_; (case hd => rfl); (case hg => rfl); (case hr => first | (go_simp; done) | (go_simp; rfl)); intro gb260 hg w5 hbox hb; have BK260 := aM (hbox); have GW260 := aM ((by rw [hg]; exact (below_size (by repeat (first | (with_reducible first | exact HB.out | apply bA | apply bN | apply bD | refine below_set ?_ GE259.out) | exact HB.out))) : w.heap.size ≤ gb260)); have GE260 := aM ((by rw [hg]; exact (below_size (by repeat (first | (with_reducible first | exact HB.out | apply bA | apply bN | apply bD | refine below_set ?_ GE259.out) | exact HB.out))) : w.heap.size ≤ gb260)); replace HB := aM (below_step (by repeat (first | (with_reducible first | exact HB.out | apply bA | apply bN | apply bD | refine below_set ?_ GE259.out) | exact HB.out)) hb); have NB259_260 := aM ((by rw [hg]; exact Nat.ne_of_lt (blk_lt (blk_mv BK259.out)) : gb259 ≠ gb260)); have NB260_259 := aM ((by rw [hg]; exact Nat.ne_of_gt (blk_lt (blk_mv BK259.out)) : gb260 ≠ gb259)); replace BK259 := aM (blk_below (blk_mv BK259.out) hb); clear hb hbox hg)))
 (try simp only [Act.put, List.setIfInBounds_toArray, List.set_cons_zero, List.set_cons_succ])
 go_cut [29] (fun v29 wc => ∃ (kq : Nat) (x29_2 : Bool), v29 = .bool x29_2 ∧ Aside0 (minecontrolref18_Same.j0 kq x29_2 l0_0 l0_1 a0_2 l1_0 l1_1 a1_2 = some r) ∧ Aside0 (kq ≤ k) ∧ Aside0 (wc.heap[gb259]? = some (.cells #[(.slice A0_0 l0_0.length c0_0), (.slice A0_1 l0_1.length c0_1), .int .i64 a0_2] 28 (0, 0))) ∧ Aside0 (wc.heap[gb260]? = some (.cells #[(.slice A1_0 l1_0.length c1_0), (.slice A1_1 l1_1.length c1_1), .int .i64 a1_2] 28 (0, 0))) ∧ Aside0 (Below w.heap.size w wc))
 case first =>
  have H := HC3.out
  clear HC3
  by_cases c6 : a0_2 = a1_2
  ·
   rw [if_pos c6] at H
   have c6b0 : (a0_2 == a1_2) = true := beq_iff_eq.mpr c6
   have c6b1 : (a0_2 != a1_2) = false := bne_eq_false_iff_eq.mpr c6
   clear c6
   (first | rw [c6b0] | (simp only [i64_w, i32_w]; rw [c6b0]) | skip)
   by_cases c7 : (l0_0.length : Int) = (l1_0.length : Int)
   ·
    rw [if_pos c7] at H
    have c7b0 : ((l0_0.length : Int) == (l1_0.length : Int)) = true := beq_iff_eq.mpr c7
    have c7b1 : ((l0_0.length : Int) != (l1_0.length : Int)) = false := bne_eq_false_iff_eq.mpr c7
    have c7b2 : (l0_0.length == l1_0.length) = true := by first | simpa using c7 | (simp at c7 ⊢; omega)
    clear c7
    have H' := aM H
    clear H
    have hnb8 := NB259_260.out
    have hnc8 := NB260_259.out
    obtain ⟨hcz9_0, hcz9_1, hcz9_2, hfz9_0, hfz9_1, hfz9_2⟩ := blk3 BK259.out
    obtain ⟨hcz10_0, hcz10_1, hcz10_2, hfz10_0, hfz10_1, hfz10_2⟩ := blk3 BK260.out
    go_wp2
    repeat (go_quiet (fail); try go_wp2)
    go_meet
    case rel => exact ⟨_, (((l0_1.length : Int) != (l1_1.length : Int))), (by first | rfl | (simp; done) | (simp [*]; done)), H', ⟨by first | omega | exact Nat.le_refl _⟩, ⟨blk_mv BK259.out⟩, ⟨blk_mv BK260.out⟩, ⟨by repeat (first | (with_reducible first | exact HB.out | apply bA | apply bN | apply bD | refine below_set ?_ GE259.out | refine below_set ?_ GE260.out) | exact HB.out)⟩⟩
   rw [if_neg c7] at H
   have c7b0 : ((l0_0.length : Int) == (l1_0.length : Int)) = false := beq_eq_false_iff_ne.mpr c7
   have c7b1 : ((l0_0.length : Int) != (l1_0.length : Int)) = true := bne_iff_ne.mpr c7
   have c7b2 : (l0_0.length == l1_0.length) = false := by first | simpa using c7 | (simp at c7 ⊢; omega)
   have H' := aM H
   clear H
   have hnb11 := NB259_260.out
   have hnc11 := NB260_259.out
   obtain ⟨hcz12_0, hcz12_1, hcz12_2, hfz12_0, hfz12_1, hfz12_2⟩ := blk3 BK259.out
   obtain ⟨hcz13_0, hcz13_1, hcz13_2, hfz13_0, hfz13_1, hfz13_2⟩ := blk3 BK260.out
   go_wp2
   repeat (go_quiet (fail); try go_wp2)
   go_meet
   case rel => exact ⟨_, (true), (by first | rfl | (simp; done) | (simp [*]; done)), H', ⟨by first | omega | exact Nat.le_refl _⟩, ⟨blk_mv BK259.out⟩, ⟨blk_mv BK260.out⟩, ⟨by repeat (first | (with_reducible first | exact HB.out | apply bA | apply bN | apply bD | refine below_set ?_ GE259.out | refine below_set ?_ GE260.out) | exact HB.out)⟩⟩
  rw [if_neg c6] at H
  have c6b0 : (a0_2 == a1_2) = false := beq_eq_false_iff_ne.mpr c6
  have c6b1 : (a0_2 != a1_2) = true := bne_iff_ne.mpr c6
  (first | rw [c6b0] | (simp only [i64_w, i32_w]; rw [c6b0]) | skip)
  have H' := aM H
  clear H
  have hnb14 := NB259_260.out
  have hnc14 := NB260_259.out
  obtain ⟨hcz15_0, hcz15_1, hcz15_2, hfz15_0, hfz15_1, hfz15_2⟩ := blk3 BK259.out
  obtain ⟨hcz16_0, hcz16_1, hcz16_2, hfz16_0, hfz16_1, hfz16_2⟩ := blk3 BK260.out
  go_wp2
  repeat (go_quiet (fail); try go_wp2)
  go_meet
  case rel => exact ⟨_, (true), (by first | rfl | (simp; done) | (simp [*]; done)), H', ⟨by first | omega | exact Nat.le_refl _⟩, ⟨blk_mv BK259.out⟩, ⟨blk_mv BK260.out⟩, ⟨by repeat (first | (with_reducible first | exact HB.out | apply bA | apply bN | apply bD | refine below_set ?_ GE259.out | refine below_set ?_ GE260.out) | exact HB.out)⟩⟩
 case rest =>
  clear HC3
  obtain ⟨kq, x29_2, rfl, HA, HJ2, BK259, BK260, HB⟩ := hcut
  cases kq with
  | zero => exact absurd HA.out (by simp [minecontrolref18_Same.j0])
  | succ kj2 =>
   have H := HA.out
   clear HA
   simp only [minecontrolref18_Same.j0] at H
   by_cases c17 : x29_2 = true
   ·
    subst c17
    have H1 : (some false) = some r := by rw [if_pos rfl] at H; exact H
    clear H
    have H := H1
    clear H1
    obtain rfl := Option.some.inj H
    go_wp2
    repeat (go_quiet (fail); try go_wp2)
    go_ret
    exact ⟨by first | rfl | (simp [errW_none, errW_some] <;> rfl) | (simp [*, errW_none, errW_some] <;> rfl), by repeat (first | (with_reducible first | exact HB.out | apply bA | apply bN | apply bD | refine below_set ?_ GE259.out | refine below_set ?_ GE260.out) | exact HB.out)⟩
   replace c17 := Bool.eq_false_iff.mpr c17
   subst c17
   have H1 : (minecontrolref18_Same.l0 kj2 0 l0_0 l0_1 a0_2 l1_0 l1_1 a1_2) = some r := by rw [if_neg (show ¬ (false = true) by decide)] at H; exact H
   clear H
   have H := H1
   clear H1
   have H' := aM H
   clear H
   go_wp2
   repeat (go_quiet (fail); try go_wp2)
   go_loopg [5] kj2 (fun kq v5 w' => ∃ (x5_2 : Int), v5 = .int .i64 x5_2 ∧ Aside0 (minecontrolref18_Same.l0 kq x5_2 l0_0 l0_1 a0_2 l1_0 l1_1 a1_2 = some r) ∧ Aside0 (kq ≤ kj2) ∧ Aside0 (w'.heap[gb259]? = some (.cells #[(.slice A0_0 l0_0.length c0_0), (.slice A0_1 l0_1.length c0_1), .int .i64 a0_2] 28 (0, 0))) ∧ Aside0 (w'.heap[gb260]? = some (.cells #[(.slice A1_0 l1_0.length c1_0), (.slice A1_1 l1_1.length c1_1), .int .i64 a1_2] 28 (0, 0))) ∧ Aside0 (Below w.heap.size w w'))
   case atStart => exact ⟨(0), (by first | rfl | (simp; done) | (simp [*]; done)), H', ⟨Nat.le_refl _⟩, ⟨blk_mv BK259.out⟩, ⟨blk_mv BK260.out⟩, ⟨by repeat (first | (with_reducible first | exact HB.out | apply bA | apply bN | apply bD | refine below_set ?_ GE259.out | refine below_set ?_ GE260.out) | exact HB.out)⟩⟩
   case round =>
    clear H'
    obtain ⟨x5_2, rfl, HA, HK2, BK259, BK260, HB⟩ := hrel
    cases gk with
    | zero => exact absurd HA.out (by simp [minecontrolref18_Same.l0])
    | succ k2 =>
     have H := HA.out
     clear HA
     simp only [minecontrolref18_Same.l0] at H
     by_cases c18 : x5_2 < (l0_0.length : Int)
     ·
      rw [if_pos c18] at H
      have c18b0 : decide (x5_2 < (l0_0.length : Int)) = true := decide_eq_true c18
      clear c18
      by_cases c19 : 0 ≤ x5_2
      rotate_left
      ·
       rw [if_neg c19] at H
       exact absurd H (by simp)
      rw [if_pos c19] at H
      have c19b0 : decide (0 ≤ x5_2) = true := decide_eq_true c19
      clear c19
      by_cases c20 : x5_2 < (l1_0.length : Int)
      rotate_left
      ·
       rw [if_neg c20] at H
       exact absurd H (by simp)
      rw [if_pos c20] at H
      have c20b0 : decide (x5_2 < (l1_0.length : Int)) = true := decide_eq_true c20
      clear c20
      by_cases c21 : (!(((rd_T32 l0_0 x5_2).f0) == ((rd_T32 l1_0 x5_2).f0)) || (!(((rd_T32 l0_0 x5_2).f1) == ((rd_T32 l1_0 x5_2).f1)) || (!(((rd_T32 l0_0 x5_2).f2) == ((rd_T32 l1_0 x5_2).f2)) || (!(((rd_T32 l0_0 x5_2).f3) == ((rd_T32 l1_0 x5_2).f3)) || (!(((rd_T32 l0_0 x5_2).f4) == ((rd_T32 l1_0 x5_2).f4))))))) = true
      ·
       rw [if_pos c21] at H
       have c21b0 : (!(((rd_T32 l0_0 x5_2).f0) == ((rd_T32 l1_0 x5_2).f0)) || (!(((rd_T32 l0_0 x5_2).f1) == ((rd_T32 l1_0 x5_2).f1)) || (!(((rd_T32 l0_0 x5_2).f2) == ((rd_T32 l1_0 x5_2).f2)) || (!(((rd_T32 l0_0 x5_2).f3) == ((rd_T32 l1_0 x5_2).f3)) || (!(((rd_T32 l0_0 x5_2).f4) == ((rd_T32 l1_0 x5_2).f4))))))) = true := c21
       clear c21
       obtain rfl := Option.some.inj H
       have hnb22 := NB259_260.out
       have hnc22 := NB260_259.out
       obtain ⟨hcz23_0, hcz23_1, hcz23_2, hfz23_0, hfz23_1, hfz23_2⟩ := blk3 BK259.out
       have p261 : 0 ≤ (x5_2 : Int) := of_decide_eq_true (by first | (with_reducible assumption) | assumption)
       have q261 : x5_2 < (l0_0.length : Int) := of_decide_eq_true (by first | (with_reducible assumption) | assumption)
       obtain ⟨ad261, e261, hx261_0, hx261_1, hx261_2, hx261_3, hx261_4⟩ := at_T32 HR0_0.out x5_2 p261 q261
       cases e261
       try replace hx261_0 := (HB.out.cell (World.block_lt_of_cell? w _ hx261_0)).trans hx261_0
       try replace hx261_1 := (HB.out.cell (World.block_lt_of_cell? w _ hx261_1)).trans hx261_1
       try replace hx261_2 := (HB.out.cell (World.block_lt_of_cell? w _ hx261_2)).trans hx261_2
       try replace hx261_3 := (HB.out.cell (World.block_lt_of_cell? w _ hx261_3)).trans hx261_3
       try replace hx261_4 := (HB.out.cell (World.block_lt_of_cell? w _ hx261_4)).trans hx261_4
       replace p261 := eq_true p261
       replace q261 := eq_true q261
       obtain ⟨hcz24_0, hcz24_1, hcz24_2, hfz24_0, hfz24_1, hfz24_2⟩ := blk3 BK260.out
       have p262 : 0 ≤ (x5_2 : Int) := of_decide_eq_true (by first | (with_reducible assumption) | assumption)
       have q262 : x5_2 < (l1_0.length : Int) := of_decide_eq_true (by first | (with_reducible assumption) | assumption)
       obtain ⟨ad262, e262, hx262_0, hx262_1, hx262_2, hx262_3, hx262_4⟩ := at_T32 HR1_0.out x5_2 p262 q262
       cases e262
       try replace hx262_0 := (HB.out.cell (World.block_lt_of_cell? w _ hx262_0)).trans hx262_0
       try replace hx262_1 := (HB.out.cell (World.block_lt_of_cell? w _ hx262_1)).trans hx262_1
       try replace hx262_2 := (HB.out.cell (World.block_lt_of_cell? w _ hx262_2)).trans hx262_2
       try replace hx262_3 := (HB.out.cell (World.block_lt_of_cell? w _ hx262_3)).trans hx262_3
       try replace hx262_4 := (HB.out.cell (World.block_lt_of_cell? w _ hx262_4)).trans hx262_4
       replace p262 := eq_true p262
       replace q262 := eq_true q262
       go_wp2
       repeat (go_quiet (fail); try go_wp2)
       go_ret
       exact ⟨by first | rfl | (simp [errW_none, errW_some] <;> rfl) | (simp [*, errW_none, errW_some] <;> rfl), by repeat (first | (with_reducible first | exact HB.out | apply bA | apply bN | apply bD | refine below_set ?_ GE259.out | refine below_set ?_ GE260.out) | exact HB.out)⟩
      rw [if_neg c21] at H
      have c21b0 : (!(((rd_T32 l0_0 x5_2).f0) == ((rd_T32 l1_0 x5_2).f0)) || (!(((rd_T32 l0_0 x5_2).f1) == ((rd_T32 l1_0 x5_2).f1)) || (!(((rd_T32 l0_0 x5_2).f2) == ((rd_T32 l1_0 x5_2).f2)) || (!(((rd_T32 l0_0 x5_2).f3) == ((rd_T32 l1_0 x5_2).f3)) || (!(((rd_T32 l0_0 x5_2).f4) == ((rd_T32 l1_0 x5_2).f4))))))) = false := by simpa using c21
      clear c21
      have H' := aM H
      clear H
      have hnb25 := NB259_260.out
      have hnc25 := NB260_259.out
      obtain ⟨hcz26_0, hcz26_1, hcz26_2, hfz26_0, hfz26_1, hfz26_2⟩ := blk3 BK259.out
      have p261 : 0 ≤ (x5_2 : Int) := of_decide_eq_true (by first | (with_reducible assumption) | assumption)
      have q261 : x5_2 < (l0_0.length : Int) := of_decide_eq_true (by first | (with_reducible assumption) | assumption)
      obtain ⟨ad261, e261, hx261_0, hx261_1, hx261_2, hx261_3, hx261_4⟩ := at_T32 HR0_0.out x5_2 p261 q261
      cases e261
      try replace hx261_0 := (HB.out.cell (World.block_lt_of_cell? w _ hx261_0)).trans hx261_0
      try replace hx261_1 := (HB.out.cell (World.block_lt_of_cell? w _ hx261_1)).trans hx261_1
      try replace hx261_2 := (HB.out.cell (World.block_lt_of_cell? w _ hx261_2)).trans hx261_2
      try replace hx261_3 := (HB.out.cell (World.block_lt_of_cell? w _ hx261_3)).trans hx261_3
      try replace hx261_4 := (HB.out.cell (World.block_lt_of_cell? w _ hx261_4)).trans hx261_4
      replace p261 := eq_true p261
      replace q261 := eq_true q261
      obtain ⟨hcz27_0, hcz27_1, hcz27_2, hfz27_0, hfz27_1, hfz27_2⟩ := blk3 BK260.out
      have p262 : 0 ≤ (x5_2 : Int) := of_decide_eq_true (by first | (with_reducible assumption) | assumption)
      have q262 : x5_2 < (l1_0.length : Int) := of_decide_eq_true (by first | (with_reducible assumption) | assumption)
      obtain ⟨ad262, e262, hx262_0, hx262_1, hx262_2, hx262_3, hx262_4⟩ := at_T32 HR1_0.out x5_2 p262 q262
      cases e262
      try replace hx262_0 := (HB.out.cell (World.block_lt_of_cell? w _ hx262_0)).trans hx262_0
      try replace hx262_1 := (HB.out.cell (World.block_lt_of_cell? w _ hx262_1)).trans hx262_1
      try replace hx262_2 := (HB.out.cell (World.block_lt_of_cell? w _ hx262_2)).trans hx262_2
      try replace hx262_3 := (HB.out.cell (World.block_lt_of_cell? w _ hx262_3)).trans hx262_3
      try replace hx262_4 := (HB.out.cell (World.block_lt_of_cell? w _ hx262_4)).trans hx262_4
      replace p262 := eq_true p262
      replace q262 := eq_true q262
      go_wp2
      repeat (go_quiet (fail); try go_wp2)
      go_roundg k2
      case measure => have := HJ2.out; have := HK2.out; omega
      case rel => exact ⟨(wrap64 (x5_2 + 1)), (by first | rfl | (simp; done) | (simp [*]; done)), H', ⟨by have := HJ2.out; have := HK2.out; omega⟩, ⟨blk_mv BK259.out⟩, ⟨blk_mv BK260.out⟩, ⟨by repeat (first | (with_reducible first | exact HB.out | apply bA | apply bN | apply bD | refine below_set ?_ GE259.out | refine below_set ?_ GE260.out) | exact HB.out)⟩⟩
     rw [if_neg c18] at H
     have c18b0 : decide (x5_2 < (l0_0.length : Int)) = false := decide_eq_false c18
     clear c18
     have H' := aM H
     clear H
     have hnb28 := NB259_260.out
     have hnc28 := NB260_259.out
     obtain ⟨hcz29_0, hcz29_1, hcz29_2, hfz29_0, hfz29_1, hfz29_2⟩ := blk3 BK259.out
     go_wp2
     repeat (go_quiet (fail); try go_wp2)
     go_loopg [6] k2 (fun kq v6 w' => ∃ (x6_3 : Int), v6 = .int .i64 x6_3 ∧ Aside0 (minecontrolref18_Same.l1 kq x6_3 l0_0 l0_1 a0_2 l1_0 l1_1 a1_2 = some r) ∧ Aside0 (kq ≤ k2) ∧ Aside0 (w'.heap[gb259]? = some (.cells #[(.slice A0_0 l0_0.length c0_0), (.slice A0_1 l0_1.length c0_1), .int .i64 a0_2] 28 (0, 0))) ∧ Aside0 (w'.heap[gb260]? = some (.cells #[(.slice A1_0 l1_0.length c1_0), (.slice A1_1 l1_1.length c1_1), .int .i64 a1_2] 28 (0, 0))) ∧ Aside0 (Below w.heap.size w w'))
     case atStart => exact ⟨(0), (by first | rfl | (simp; done) | (simp [*]; done)), H', ⟨Nat.le_refl _⟩, ⟨blk_mv BK259.out⟩, ⟨blk_mv BK260.out⟩, ⟨by repeat (first | (with_reducible first | exact HB.out | apply bA | apply bN | apply bD | refine below_set ?_ GE259.out | refine below_set ?_ GE260.out) | exact HB.out)⟩⟩
     case round =>
      clear H'
      obtain ⟨x6_3, rfl, HA, HK3, BK259, BK260, HB⟩ := hrel
      cases gk with
      | zero => exact absurd HA.out (by simp [minecontrolref18_Same.l1])
      | succ k3 =>
       have H := HA.out
       clear HA
       simp only [minecontrolref18_Same.l1] at H
       by_cases c30 : x6_3 < (l0_1.length : Int)
       ·
        rw [if_pos c30] at H
        have c30b0 : decide (x6_3 < (l0_1.length : Int)) = true := decide_eq_true c30
        clear c30
        by_cases c31 : 0 ≤ x6_3
        rotate_left
        ·
         rw [if_neg c31] at H
         exact absurd H (by simp)
        rw [if_pos c31] at H
        have c31b0 : decide (0 ≤ x6_3) = true := decide_eq_true c31
        clear c31
        by_cases c32 : x6_3 < (l1_1.length : Int)
        rotate_left
        ·
         rw [if_neg c32] at H
         exact absurd H (by simp)
        rw [if_pos c32] at H
        have c32b0 : decide (x6_3 < (l1_1.length : Int)) = true := decide_eq_true c32
        clear c32
        by_cases c33 : (rd l0_1 x6_3) = (rd l1_1 x6_3)
        ·
         rw [if_pos c33] at H
         have c33b0 : ((rd l0_1 x6_3) == (rd l1_1 x6_3)) = true := beq_iff_eq.mpr c33
         have c33b1 : ((rd l0_1 x6_3) != (rd l1_1 x6_3)) = false := bne_eq_false_iff_eq.mpr c33
         clear c33
         have H' := aM H
         clear H
         have hnb34 := NB259_260.out
         have hnc34 := NB260_259.out
         obtain ⟨hcz35_0, hcz35_1, hcz35_2, hfz35_0, hfz35_1, hfz35_2⟩ := blk3 BK259.out
         have p263 : 0 ≤ (x6_3 : Int) := of_decide_eq_true (by first | (with_reducible assumption) | assumption)
         have q263 : x6_3 < (l0_1.length : Int) := of_decide_eq_true (by first | (with_reducible assumption) | assumption)
         obtain ⟨ad263, e263, hx263_0⟩ := Kd.at_int HR0_1.out x6_3 p263 q263
         cases e263
         try replace hx263_0 := (HB.out.cell (World.block_lt_of_cell? w _ hx263_0)).trans hx263_0
         replace p263 := eq_true p263
         replace q263 := eq_true q263
         obtain ⟨hcz36_0, hcz36_1, hcz36_2, hfz36_0, hfz36_1, hfz36_2⟩ := blk3 BK260.out
         have p264 : 0 ≤ (x6_3 : Int) := of_decide_eq_true (by first | (with_reducible assumption) | assumption)
         have q264 : x6_3 < (l1_1.length : Int) := of_decide_eq_true (by first | (with_reducible assumption) | assumption)
         obtain ⟨ad264, e264, hx264_0⟩ := Kd.at_int HR1_1.out x6_3 p264 q264
         cases e264
         try replace hx264_0 := (HB.out.cell (World.block_lt_of_cell? w _ hx264_0)).trans hx264_0
         replace p264 := eq_true p264
         replace q264 := eq_true q264
         go_wp2
         repeat (go_quiet (fail); try go_wp2)
         go_roundg k3
         case measure => have := HJ2.out; have := HK2.out; have := HK3.out; omega
         case rel => exact ⟨(wrap64 (x6_3 + 1)), (by first | rfl | (simp; done) | (simp [*]; done)), H', ⟨by have := HJ2.out; have := HK2.out; have := HK3.out; omega⟩, ⟨blk_mv BK259.out⟩, ⟨blk_mv BK260.out⟩, ⟨by repeat (first | (with_reducible first | exact HB.out | apply bA | apply bN | apply bD | refine below_set ?_ GE259.out | refine below_set ?_ GE260.out) | exact HB.out)⟩⟩
        rw [if_neg c33] at H
        have c33b0 : ((rd l0_1 x6_3) == (rd l1_1 x6_3)) = false := beq_eq_false_iff_ne.mpr c33
        have c33b1 : ((rd l0_1 x6_3) != (rd l1_1 x6_3)) = true := bne_iff_ne.mpr c33
        obtain rfl := Option.some.inj H
        have hnb37 := NB259_260.out
        have hnc37 := NB260_259.out
        obtain ⟨hcz38_0, hcz38_1, hcz38_2, hfz38_0, hfz38_1, hfz38_2⟩ := blk3 BK259.out
        have p263 : 0 ≤ (x6_3 : Int) := of_decide_eq_true (by first | (with_reducible assumption) | assumption)
        have q263 : x6_3 < (l0_1.length : Int) := of_decide_eq_true (by first | (with_reducible assumption) | assumption)
        obtain ⟨ad263, e263, hx263_0⟩ := Kd.at_int HR0_1.out x6_3 p263 q263
        cases e263
        try replace hx263_0 := (HB.out.cell (World.block_lt_of_cell? w _ hx263_0)).trans hx263_0
        replace p263 := eq_true p263
        replace q263 := eq_true q263
        obtain ⟨hcz39_0, hcz39_1, hcz39_2, hfz39_0, hfz39_1, hfz39_2⟩ := blk3 BK260.out
        have p264 : 0 ≤ (x6_3 : Int) := of_decide_eq_true (by first | (with_reducible assumption) | assumption)
        have q264 : x6_3 < (l1_1.length : Int) := of_decide_eq_true (by first | (with_reducible assumption) | assumption)
        obtain ⟨ad264, e264, hx264_0⟩ := Kd.at_int HR1_1.out x6_3 p264 q264
        cases e264
        try replace hx264_0 := (HB.out.cell (World.block_lt_of_cell? w _ hx264_0)).trans hx264_0
        replace p264 := eq_true p264
        replace q264 := eq_true q264
        go_wp2
        repeat (go_quiet (fail); try go_wp2)
        go_ret
        exact ⟨by first | rfl | (simp [errW_none, errW_some] <;> rfl) | (simp [*, errW_none, errW_some] <;> rfl), by repeat (first | (with_reducible first | exact HB.out | apply bA | apply bN | apply bD | refine below_set ?_ GE259.out | refine below_set ?_ GE260.out) | exact HB.out)⟩
       rw [if_neg c30] at H
       have c30b0 : decide (x6_3 < (l0_1.length : Int)) = false := decide_eq_false c30
       clear c30
       obtain rfl := Option.some.inj H
       have hnb40 := NB259_260.out
       have hnc40 := NB260_259.out
       obtain ⟨hcz41_0, hcz41_1, hcz41_2, hfz41_0, hfz41_1, hfz41_2⟩ := blk3 BK259.out
       go_wp2
       repeat (go_quiet (fail); try go_wp2)
       go_ret
       exact ⟨by first | rfl | (simp [errW_none, errW_some] <;> rfl) | (simp [*, errW_none, errW_some] <;> rfl), by repeat (first | (with_reducible first | exact HB.out | apply bA | apply bN | apply bD | refine below_set ?_ GE259.out | refine below_set ?_ GE260.out) | exact HB.out)⟩

end Go.Proofs.Ytcgeflbifbaecaa.PFet
