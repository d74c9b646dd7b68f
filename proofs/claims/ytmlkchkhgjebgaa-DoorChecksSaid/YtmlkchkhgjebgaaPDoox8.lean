/- Functions of the given program as Lean functions, and proofs that its calls come to what these say. Written by a program of this seat (wip/mkprint.py); Lean checks it all. -/
import Derived.Test.YtmlkchkhgjebgaaPDoox0
namespace Go.Proofs.Ytmlkchkhgjebgaa.PDoo
open Go.RowKit Go.Proofs.YtmlkchkhgjebgaaW.PrintWords Go.Proofs.YtmlkchkhgjebgaaW.PrintLast Go.Proofs.YtmlkchkhgjebgaaW.PrintMore
attribute [local go_sem] max2_int min2_int max_two min_two max_three min_three max_four min_four   -- for this text's walks alone
set_option linter.unusedVariables false
set_option linter.unusedSimpArgs false

/-! ### minecontrolref08_Check: function 11 -/
mutual
def minecontrolref08_Check.l0 : Nat → List (S36) → Int → Option (Int)
 | 0, _, _ => none
 | k + 1, x0, x3 => if x3 < (x0.length : Int) then (if 0 ≤ x3 then (if ((rd_T36 x0 x3).f0) < 0 then (some 4) else (if (((rd_T36 x0 x3).f2).length : Int) < 2 then (minecontrolref08_Check.j1 k x0 x3 true ((rd_T36 x0 x3).f0) ((rd_T36 x0 x3).f1) ((rd_T36 x0 x3).f2)) else (minecontrolref08_Check.j1 k x0 x3 (decide ((((rd_T36 x0 x3).f2).length : Int) > 6)) ((rd_T36 x0 x3).f0) ((rd_T36 x0 x3).f1) ((rd_T36 x0 x3).f2)))) else (none)) else (some 0)
def minecontrolref08_Check.j1 : Nat → List (S36) → Int → Bool → Int → Int → List Int → Option (Int)
 | 0, _, _, _, _, _, _ => none
 | k + 1, x0, x3, x32, x277000, x277001, x277002 => if x32 = true then (some 2) else (minecontrolref08_Check.l1 k x0 x3 0 x277000 x277001 x277002)
def minecontrolref08_Check.l1 : Nat → List (S36) → Int → Int → Int → Int → List Int → Option (Int)
 | 0, _, _, _, _, _, _ => none
 | k + 1, x0, x3, x5, x277000, x277001, x277002 => if x5 < (x277002.length : Int) then (if 0 ≤ x5 then (if (rd x277002 x5) < 0 then (some 1) else (if (rd x277002 x5) > 262144 then (some 1) else (minecontrolref08_Check.l1 k x0 x3 (wrap64 (x5 + 1)) x277000 x277001 x277002))) else (none)) else (minecontrolref08_Check.l2 k x0 x3 1 x277000 x277001 x277002)
def minecontrolref08_Check.l2 : Nat → List (S36) → Int → Int → Int → Int → List Int → Option (Int)
 | 0, _, _, _, _, _, _ => none
 | k + 1, x0, x3, x6, x277000, x277001, x277002 => if x6 < (x277002.length : Int) then (if 0 ≤ x6 then (if 0 ≤ (wrap64 (x6 - 1)) then (if (wrap64 (x6 - 1)) < (x277002.length : Int) then (if (rd x277002 x6) ≥ (rd x277002 (wrap64 (x6 - 1))) then (some 15) else (minecontrolref08_Check.l2 k x0 x3 (wrap64 (x6 + 1)) x277000 x277001 x277002)) else (none)) else (none)) else (none)) else (if x277001 = (-1) then (minecontrolref08_Check.l0 k x0 (wrap64 (x3 + 1))) else (if x277001 < 0 then (some 15) else (if x277001 ≥ (x0.length : Int) then (some 15) else (if x277001 = x3 then (some 15) else (if 0 ≤ x277001 then (if x277001 < (x0.length : Int) then (if ((rd_T36 x0 x277001).f1) = x3 then (minecontrolref08_Check.l0 k x0 (wrap64 (x3 + 1))) else (some 15)) else (none)) else (none))))))
end
def minecontrolref08_Check.f (k : Nat) (l0 : List (S36)) : Option (Int) := if (l0.length : Int) > 16 then (some 2) else (minecontrolref08_Check.l0 k l0 0)
theorem minecontrolref08_Check.mono_l : ∀ k, (∀ y0 y1, LeO (minecontrolref08_Check.l0 k y0 y1) (minecontrolref08_Check.l0 (k + 1) y0 y1)) ∧ (∀ y0 y1 y2 y3 y4 y5, LeO (minecontrolref08_Check.j1 k y0 y1 y2 y3 y4 y5) (minecontrolref08_Check.j1 (k + 1) y0 y1 y2 y3 y4 y5)) ∧ (∀ y0 y1 y2 y3 y4 y5, LeO (minecontrolref08_Check.l1 k y0 y1 y2 y3 y4 y5) (minecontrolref08_Check.l1 (k + 1) y0 y1 y2 y3 y4 y5)) ∧ (∀ y0 y1 y2 y3 y4 y5, LeO (minecontrolref08_Check.l2 k y0 y1 y2 y3 y4 y5) (minecontrolref08_Check.l2 (k + 1) y0 y1 y2 y3 y4 y5))
 | 0 => ⟨fun _ _ r h => by simp [minecontrolref08_Check.l0] at h, fun _ _ _ _ _ _ r h => by simp [minecontrolref08_Check.j1] at h, fun _ _ _ _ _ _ r h => by simp [minecontrolref08_Check.l1] at h, fun _ _ _ _ _ _ r h => by simp [minecontrolref08_Check.l2] at h⟩
 | k + 1 => by
  obtain ⟨ih0, ih1, ih2, ih3⟩ := minecontrolref08_Check.mono_l k
  refine ⟨?_, ?_, ?_, ?_⟩
  ·
   intro y0 y1
   unfold minecontrolref08_Check.l0
   repeat' first
   | (with_reducible exact ih0 _ _)
   | (with_reducible exact ih1 _ _ _ _ _ _)
   | (with_reducible exact ih2 _ _ _ _ _ _)
   | (with_reducible exact ih3 _ _ _ _ _ _)
   | (with_reducible exact LeO.refl _)
   | (with_reducible exact LeO.none _)
   | (with_reducible refine LeO.ite ?_ ?_)
   | (with_reducible refine LeO.bind ?_ (fun _ => ?_))
   | exact ih0 _ _
   | exact ih1 _ _ _ _ _ _
   | exact ih2 _ _ _ _ _ _
   | exact ih3 _ _ _ _ _ _
   | exact LeO.none _
   | refine LeO.ite ?_ ?_
   | refine LeO.bind ?_ (fun _ => ?_)
  ·
   intro y0 y1 y2 y3 y4 y5
   unfold minecontrolref08_Check.j1
   repeat' first
   | (with_reducible exact ih0 _ _)
   | (with_reducible exact ih1 _ _ _ _ _ _)
   | (with_reducible exact ih2 _ _ _ _ _ _)
   | (with_reducible exact ih3 _ _ _ _ _ _)
   | (with_reducible exact LeO.refl _)
   | (with_reducible exact LeO.none _)
   | (with_reducible refine LeO.ite ?_ ?_)
   | (with_reducible refine LeO.bind ?_ (fun _ => ?_))
   | exact ih0 _ _
   | exact ih1 _ _ _ _ _ _
   | exact ih2 _ _ _ _ _ _
   | exact ih3 _ _ _ _ _ _
   | exact LeO.none _
   | refine LeO.ite ?_ ?_
   | refine LeO.bind ?_ (fun _ => ?_)
  ·
   intro y0 y1 y2 y3 y4 y5
   unfold minecontrolref08_Check.l1
   repeat' first
   | (with_reducible exact ih0 _ _)
   | (with_reducible exact ih1 _ _ _ _ _ _)
   | (with_reducible exact ih2 _ _ _ _ _ _)
   | (with_reducible exact ih3 _ _ _ _ _ _)
   | (with_reducible exact LeO.refl _)
   | (with_reducible exact LeO.none _)
   | (with_reducible refine LeO.ite ?_ ?_)
   | (with_reducible refine LeO.bind ?_ (fun _ => ?_))
   | exact ih0 _ _
   | exact ih1 _ _ _ _ _ _
   | exact ih2 _ _ _ _ _ _
   | exact ih3 _ _ _ _ _ _
   | exact LeO.none _
   | refine LeO.ite ?_ ?_
   | refine LeO.bind ?_ (fun _ => ?_)
  ·
   intro y0 y1 y2 y3 y4 y5
   unfold minecontrolref08_Check.l2
   repeat' first
   | (with_reducible exact ih0 _ _)
   | (with_reducible exact ih1 _ _ _ _ _ _)
   | (with_reducible exact ih2 _ _ _ _ _ _)
   | (with_reducible exact ih3 _ _ _ _ _ _)
   | (with_reducible exact LeO.refl _)
   | (with_reducible exact LeO.none _)
   | (with_reducible refine LeO.ite ?_ ?_)
   | (with_reducible refine LeO.bind ?_ (fun _ => ?_))
   | exact ih0 _ _
   | exact ih1 _ _ _ _ _ _
   | exact ih2 _ _ _ _ _ _
   | exact ih3 _ _ _ _ _ _
   | exact LeO.none _
   | refine LeO.ite ?_ ?_
   | refine LeO.bind ?_ (fun _ => ?_)
theorem minecontrolref08_Check.mono : ∀ a0 k, LeO (minecontrolref08_Check.f k a0) (minecontrolref08_Check.f (k + 1) a0) := by
 intro a0 k
 obtain ⟨ih0, ih1, ih2, ih3⟩ := minecontrolref08_Check.mono_l k
 unfold minecontrolref08_Check.f
 repeat' first
   | (with_reducible exact ih0 _ _)
   | (with_reducible exact ih1 _ _ _ _ _ _)
   | (with_reducible exact ih2 _ _ _ _ _ _)
   | (with_reducible exact ih3 _ _ _ _ _ _)
   | (with_reducible exact LeO.refl _)
   | (with_reducible exact LeO.none _)
   | (with_reducible refine LeO.ite ?_ ?_)
   | (with_reducible refine LeO.bind ?_ (fun _ => ?_))
   | exact ih0 _ _
   | exact ih1 _ _ _ _ _ _
   | exact ih2 _ _ _ _ _ _
   | exact ih3 _ _ _ _ _ _
   | exact LeO.none _
   | refine LeO.ite ?_ ?_
   | refine LeO.bind ?_ (fun _ => ?_)
set_option maxHeartbeats 8000000 in
set_option maxRecDepth 100000 in
theorem minecontrolref08_Check.calls (k : Nat) (A0 : Option Addr) (c0 : Nat) (l0 : List (S36)) (r : Int) (w : World) (hr0 : Kd.C k36 w A0 l0.length l0) (hc0 : l0.length ≤ c0) (h : minecontrolref08_Check.f k l0 = some r) :
  Calls Try.prog 11 #[.slice A0 l0.length c0] w fun e w' => e = .returned (.int .i64 r) ∧ Below w.heap.size w w' := by
 have hu36 := Try.underlying36
 have HR0 := Aside0.mk hr0
 have HC0 := Aside0.mk hc0
 clear hr0 hc0
 have HB := Aside0.mk (Below.refl w.heap.size w)
 have H : (if (l0.length : Int) > 16 then (some 2) else (minecontrolref08_Check.l0 k l0 0)) = some r := h
 clear h
 by_cases c2 : (l0.length : Int) > 16
 ·
  rw [if_pos c2] at H
  have c2b0 : decide (16 < (l0.length : Int)) = true := decide_eq_true c2
  have c2b1 : decide (16 < l0.length) = true := decide_eq_true (by omega)
  clear c2
  obtain rfl := Option.some.inj H
  go_enter Try.func11, Try.ntmps11
  go_wp2
  repeat (go_quiet (fail); try go_wp2)
  go_ret
  exact ⟨by first | rfl | (simp [errW_none, errW_some] <;> rfl) | (simp [*, errW_none, errW_some] <;> rfl), by repeat (first | (with_reducible first | exact HB.out | apply below_alloc | apply pw_below_drewN | apply below_drew1) | exact HB.out)⟩
 ·
  rw [if_neg c2] at H
  have c2b0 : decide (16 < (l0.length : Int)) = false := decide_eq_false c2
  have c2b1 : decide (16 < l0.length) = false := decide_eq_false (by omega)
  clear c2
  have H' := Aside0.mk H
  clear H
  go_enter Try.func11, Try.ntmps11
  go_wp2
  repeat (go_quiet (fail); try go_wp2)
  go_loopg [3] k (fun kq v3 w' => ∃ (x3_1 : Int), v3 = .int .i64 x3_1 ∧ Aside0 (minecontrolref08_Check.l0 kq l0 x3_1 = some r) ∧ Aside0 (kq ≤ k) ∧ Aside0 (Below w.heap.size w w'))
  case atStart => exact ⟨(0), (by first | rfl | (simp; done) | (simp [*]; done)), H', ⟨Nat.le_refl _⟩, ⟨by repeat (first | (with_reducible first | exact HB.out | apply below_alloc | apply pw_below_drewN | apply below_drew1) | exact HB.out)⟩⟩
  case round =>
   clear H'
   try clear c1; try clear c2; try clear c2b0; try clear c2b1; try clear p2
   obtain ⟨x3_1, rfl, HA, HK1, HB⟩ := hrel
   cases gk with
   | zero => exact absurd HA.out (by simp [minecontrolref08_Check.l0])
   | succ k1 =>
    have H := HA.out
    clear HA
    simp only [minecontrolref08_Check.l0] at H
    by_cases c3 : x3_1 < (l0.length : Int)
    ·
     rw [if_pos c3] at H
     have c3b0 : decide (x3_1 < (l0.length : Int)) = true := decide_eq_true c3
     clear c3
     by_cases c4 : 0 ≤ x3_1
     rotate_left
     ·
      rw [if_neg c4] at H
      exact absurd H (by simp)
     rw [if_pos c4] at H
     have c4b0 : decide (0 ≤ x3_1) = true := decide_eq_true c4
     clear c4
     by_cases c5 : ((rd_T36 l0 x3_1).f0) < 0
     ·
      rw [if_pos c5] at H
      have c5b0 : decide (((rd_T36 l0 x3_1).f0) < 0) = true := decide_eq_true c5
      clear c5
      obtain rfl := Option.some.inj H
      have p275 : 0 ≤ (x3_1 : Int) := of_decide_eq_true (by first | (with_reducible assumption) | assumption)
      have q275 : x3_1 < (l0.length : Int) := of_decide_eq_true (by first | (with_reducible assumption) | assumption)
      obtain ⟨ad275, A275_2, c275_2, e275, hx275_0, hx275_1, hx275_2, hl275_2, hi275_2⟩ := at_T36 HR0.out x3_1 p275 q275
      cases e275
      try replace hx275_0 := (HB.out.cell (World.block_lt_of_cell? w _ hx275_0)).trans hx275_0
      try replace hx275_1 := (HB.out.cell (World.block_lt_of_cell? w _ hx275_1)).trans hx275_1
      try replace hx275_2 := (HB.out.cell (World.block_lt_of_cell? w _ hx275_2)).trans hx275_2
      have HR275_2 := Aside0.mk hi275_2
      have HC275_2 := Aside0.mk hl275_2
      clear hi275_2 hl275_2
      replace p275 := eq_true p275
      replace q275 := eq_true q275
      go_wp2_with (first | ((with_reducible refine gate_dst (N := 4) rfl ?_); (try (refine gate_guard (by rfl) ?_; dsimp only)); refine box_event ?hg (N := 4) ?hd (cs := #[.int .i64 0, .int .i64 0, .slice none 0 0]) (t := 36) ?hr ?_; (case hd => rfl); (case hg => rfl); (case hr => first | (go_simp; done) | (go_simp; rfl)); intro gb276 hg w6 hbox hb; have n0_ := Aside0.mk (below_step (by repeat (first | (with_reducible first | exact HB.out | apply below_alloc | apply pw_below_drewN | apply below_drew1) | exact HB.out)) hb); have n1_ := Aside0.mk (hbox); have n2_ := Aside0.mk ((by rw [hg]; exact (below_size (by repeat (first | (with_reducible first | exact HB.out | apply below_alloc | apply pw_below_drewN | apply below_drew1) | exact HB.out))) : w.heap.size ≤ gb276)); have n3_ := Aside0.mk ((by rw [hg]; exact (below_size (by repeat (first | (with_reducible first | exact HB.out | apply below_alloc | apply pw_below_drewN | apply below_drew1) | exact HB.out))) : w.heap.size ≤ gb276)); clear HB; have HB := n0_; have BK276 := n1_; have GW276 := n2_; have GE276 := n3_; clear n0_ n1_ n2_ n3_; clear hb hbox hg; have hcz7_0 : w6.cell? ⟨gb276, 0, none⟩ = some (.int .i64 0) := (blk_cell BK276.out 0).trans rfl; have hcz7_1 : w6.cell? ⟨gb276, 1, none⟩ = some (.int .i64 0) := (blk_cell BK276.out 1).trans rfl; have hcz7_2 : w6.cell? ⟨gb276, 2, none⟩ = some (.slice none 0 0) := (blk_cell BK276.out 2).trans rfl; have hfz7_0 := blk_frozen BK276.out 0; have hfz7_1 := blk_frozen BK276.out 1; have hfz7_2 := blk_frozen BK276.out 2))
      repeat (go_quiet (first | ((with_reducible refine gate_dst (N := 4) rfl ?_); (try (refine gate_guard (by rfl) ?_; dsimp only)); refine box_event ?hg (N := 4) ?hd (cs := #[.int .i64 0, .int .i64 0, .slice none 0 0]) (t := 36) ?hr ?_; (case hd => rfl); (case hg => rfl); (case hr => first | (go_simp; done) | (go_simp; rfl)); intro gb276 hg w6 hbox hb; have n0_ := Aside0.mk (below_step (by repeat (first | (with_reducible first | exact HB.out | apply below_alloc | apply pw_below_drewN | apply below_drew1) | exact HB.out)) hb); have n1_ := Aside0.mk (hbox); have n2_ := Aside0.mk ((by rw [hg]; exact (below_size (by repeat (first | (with_reducible first | exact HB.out | apply below_alloc | apply pw_below_drewN | apply below_drew1) | exact HB.out))) : w.heap.size ≤ gb276)); have n3_ := Aside0.mk ((by rw [hg]; exact (below_size (by repeat (first | (with_reducible first | exact HB.out | apply below_alloc | apply pw_below_drewN | apply below_drew1) | exact HB.out))) : w.heap.size ≤ gb276)); clear HB; have HB := n0_; have BK276 := n1_; have GW276 := n2_; have GE276 := n3_; clear n0_ n1_ n2_ n3_; clear hb hbox hg; have hcz7_0 : w6.cell? ⟨gb276, 0, none⟩ = some (.int .i64 0) := (blk_cell BK276.out 0).trans rfl; have hcz7_1 : w6.cell? ⟨gb276, 1, none⟩ = some (.int .i64 0) := (blk_cell BK276.out 1).trans rfl; have hcz7_2 : w6.cell? ⟨gb276, 2, none⟩ = some (.slice none 0 0) := (blk_cell BK276.out 2).trans rfl; have hfz7_0 := blk_frozen BK276.out 0; have hfz7_1 := blk_frozen BK276.out 1; have hfz7_2 := blk_frozen BK276.out 2)); try go_wp2_with (first | ((with_reducible refine gate_dst (N := 4) rfl ?_); (try (refine gate_guard (by rfl) ?_; dsimp only)); refine box_event ?hg (N := 4) ?hd (cs := #[.int .i64 0, .int .i64 0, .slice none 0 0]) (t := 36) ?hr ?_; (case hd => rfl); (case hg => rfl); (case hr => first | (go_simp; done) | (go_simp; rfl)); intro gb276 hg w6 hbox hb; have n0_ := Aside0.mk (below_step (by repeat (first | (with_reducible first | exact HB.out | apply below_alloc | apply pw_below_drewN | apply below_drew1) | exact HB.out)) hb); have n1_ := Aside0.mk (hbox); have n2_ := Aside0.mk ((by rw [hg]; exact (below_size (by repeat (first | (with_reducible first | exact HB.out | apply below_alloc | apply pw_below_drewN | apply below_drew1) | exact HB.out))) : w.heap.size ≤ gb276)); have n3_ := Aside0.mk ((by rw [hg]; exact (below_size (by repeat (first | (with_reducible first | exact HB.out | apply below_alloc | apply pw_below_drewN | apply below_drew1) | exact HB.out))) : w.heap.size ≤ gb276)); clear HB; have HB := n0_; have BK276 := n1_; have GW276 := n2_; have GE276 := n3_; clear n0_ n1_ n2_ n3_; clear hb hbox hg; have hcz7_0 : w6.cell? ⟨gb276, 0, none⟩ = some (.int .i64 0) := (blk_cell BK276.out 0).trans rfl; have hcz7_1 : w6.cell? ⟨gb276, 1, none⟩ = some (.int .i64 0) := (blk_cell BK276.out 1).trans rfl; have hcz7_2 : w6.cell? ⟨gb276, 2, none⟩ = some (.slice none 0 0) := (blk_cell BK276.out 2).trans rfl; have hfz7_0 := blk_frozen BK276.out 0; have hfz7_1 := blk_frozen BK276.out 1; have hfz7_2 := blk_frozen BK276.out 2)))
      go_ret
      exact ⟨by first | rfl | (simp [errW_none, errW_some] <;> rfl) | (simp [*, errW_none, errW_some] <;> rfl), by repeat (first | (with_reducible first | exact HB.out | apply below_alloc | apply pw_below_drewN | apply below_drew1 | refine below_set ?_ GE276.out) | exact HB.out)⟩
     ·
      rw [if_neg c5] at H
      have c5b0 : decide (((rd_T36 l0 x3_1).f0) < 0) = false := decide_eq_false c5
      clear c5
      have HC8 := Aside0.mk H
      clear H
      have p275 : 0 ≤ (x3_1 : Int) := of_decide_eq_true (by first | (with_reducible assumption) | assumption)
      have q275 : x3_1 < (l0.length : Int) := of_decide_eq_true (by first | (with_reducible assumption) | assumption)
      obtain ⟨ad275, A275_2, c275_2, e275, hx275_0, hx275_1, hx275_2, hl275_2, hi275_2⟩ := at_T36 HR0.out x3_1 p275 q275
      cases e275
      try replace hx275_0 := (HB.out.cell (World.block_lt_of_cell? w _ hx275_0)).trans hx275_0
      try replace hx275_1 := (HB.out.cell (World.block_lt_of_cell? w _ hx275_1)).trans hx275_1
      try replace hx275_2 := (HB.out.cell (World.block_lt_of_cell? w _ hx275_2)).trans hx275_2
      have HR275_2 := Aside0.mk hi275_2
      have HC275_2 := Aside0.mk hl275_2
      clear hi275_2 hl275_2
      replace p275 := eq_true p275
      replace q275 := eq_true q275
      go_upto_region 9 with (first | ((with_reducible refine gate_dst (N := 4) rfl ?_); (try (refine gate_guard (by rfl) ?_; dsimp only)); refine box_event ?hg (N := 4) ?hd (cs := #[.int .i64 0, .int .i64 0, .slice none 0 0]) (t := 36) ?hr ?_; (case hd => rfl); (case hg => rfl); (case hr => first | (go_simp; done) | (go_simp; rfl)); intro gb276 hg w9 hbox hb; have n0_ := Aside0.mk (below_step (by repeat (first | (with_reducible first | exact HB.out | apply below_alloc | apply pw_below_drewN | apply below_drew1) | exact HB.out)) hb); have n1_ := Aside0.mk (hbox); have n2_ := Aside0.mk ((by rw [hg]; exact (below_size (by repeat (first | (with_reducible first | exact HB.out | apply below_alloc | apply pw_below_drewN | apply below_drew1) | exact HB.out))) : w.heap.size ≤ gb276)); have n3_ := Aside0.mk ((by rw [hg]; exact (below_size (by repeat (first | (with_reducible first | exact HB.out | apply below_alloc | apply pw_below_drewN | apply below_drew1) | exact HB.out))) : w.heap.size ≤ gb276)); clear HB; have HB := n0_; have BK276 := n1_; have GW276 := n2_; have GE276 := n3_; clear n0_ n1_ n2_ n3_; clear hb hbox hg; have hcz10_0 : w9.cell? ⟨gb276, 0, none⟩ = some (.int .i64 0) := (blk_cell BK276.out 0).trans rfl; have hcz10_1 : w9.cell? ⟨gb276, 1, none⟩ = some (.int .i64 0) := (blk_cell BK276.out 1).trans rfl; have hcz10_2 : w9.cell? ⟨gb276, 2, none⟩ = some (.slice none 0 0) := (blk_cell BK276.out 2).trans rfl; have hfz10_0 := blk_frozen BK276.out 0; have hfz10_1 := blk_frozen BK276.out 1; have hfz10_2 := blk_frozen BK276.out 2))
      repeat (go_quiet (first | ((with_reducible refine gate_dst (N := 4) rfl ?_); (try (refine gate_guard (by rfl) ?_; dsimp only)); refine box_event ?hg (N := 4) ?hd (cs := #[.int .i64 0, .int .i64 0, .slice none 0 0]) (t := 36) ?hr ?_; (case hd => rfl); (case hg => rfl); (case hr => first | (go_simp; done) | (go_simp; rfl)); intro gb276 hg w9 hbox hb; have n0_ := Aside0.mk (below_step (by repeat (first | (with_reducible first | exact HB.out | apply below_alloc | apply pw_below_drewN | apply below_drew1) | exact HB.out)) hb); have n1_ := Aside0.mk (hbox); have n2_ := Aside0.mk ((by rw [hg]; exact (below_size (by repeat (first | (with_reducible first | exact HB.out | apply below_alloc | apply pw_below_drewN | apply below_drew1) | exact HB.out))) : w.heap.size ≤ gb276)); have n3_ := Aside0.mk ((by rw [hg]; exact (below_size (by repeat (first | (with_reducible first | exact HB.out | apply below_alloc | apply pw_below_drewN | apply below_drew1) | exact HB.out))) : w.heap.size ≤ gb276)); clear HB; have HB := n0_; have BK276 := n1_; have GW276 := n2_; have GE276 := n3_; clear n0_ n1_ n2_ n3_; clear hb hbox hg; have hcz10_0 : w9.cell? ⟨gb276, 0, none⟩ = some (.int .i64 0) := (blk_cell BK276.out 0).trans rfl; have hcz10_1 : w9.cell? ⟨gb276, 1, none⟩ = some (.int .i64 0) := (blk_cell BK276.out 1).trans rfl; have hcz10_2 : w9.cell? ⟨gb276, 2, none⟩ = some (.slice none 0 0) := (blk_cell BK276.out 2).trans rfl; have hfz10_0 := blk_frozen BK276.out 0; have hfz10_1 := blk_frozen BK276.out 1; have hfz10_2 := blk_frozen BK276.out 2)); go_upto_region 9 with (first | ((with_reducible refine gate_dst (N := 4) rfl ?_); (try (refine gate_guard (by rfl) ?_; dsimp only)); refine box_event ?hg (N := 4) ?hd (cs := #[.int .i64 0, .int .i64 0, .slice none 0 0]) (t := 36) ?hr ?_; (case hd => rfl); (case hg => rfl); (case hr => first | (go_simp; done) | (go_simp; rfl)); intro gb276 hg w9 hbox hb; have n0_ := Aside0.mk (below_step (by repeat (first | (with_reducible first | exact HB.out | apply below_alloc | apply pw_below_drewN | apply below_drew1) | exact HB.out)) hb); have n1_ := Aside0.mk (hbox); have n2_ := Aside0.mk ((by rw [hg]; exact (below_size (by repeat (first | (with_reducible first | exact HB.out | apply below_alloc | apply pw_below_drewN | apply below_drew1) | exact HB.out))) : w.heap.size ≤ gb276)); have n3_ := Aside0.mk ((by rw [hg]; exact (below_size (by repeat (first | (with_reducible first | exact HB.out | apply below_alloc | apply pw_below_drewN | apply below_drew1) | exact HB.out))) : w.heap.size ≤ gb276)); clear HB; have HB := n0_; have BK276 := n1_; have GW276 := n2_; have GE276 := n3_; clear n0_ n1_ n2_ n3_; clear hb hbox hg; have hcz10_0 : w9.cell? ⟨gb276, 0, none⟩ = some (.int .i64 0) := (blk_cell BK276.out 0).trans rfl; have hcz10_1 : w9.cell? ⟨gb276, 1, none⟩ = some (.int .i64 0) := (blk_cell BK276.out 1).trans rfl; have hcz10_2 : w9.cell? ⟨gb276, 2, none⟩ = some (.slice none 0 0) := (blk_cell BK276.out 2).trans rfl; have hfz10_0 := blk_frozen BK276.out 0; have hfz10_1 := blk_frozen BK276.out 1; have hfz10_2 := blk_frozen BK276.out 2)))
      (try simp only [Act.put, List.setIfInBounds_toArray, List.set_cons_zero, List.set_cons_succ])
      go_cut [32] (fun v32 wc => ∃ (kq : Nat) (x32_7 : Bool), v32 = .bool x32_7 ∧ Aside0 (minecontrolref08_Check.j1 kq l0 x3_1 x32_7 ((rd_T36 l0 x3_1).f0) ((rd_T36 l0 x3_1).f1) ((rd_T36 l0 x3_1).f2) = some r) ∧ Aside0 (kq ≤ k1) ∧ Aside0 (wc.heap[gb276]? = some (.cells #[.int .i64 ((rd_T36 l0 x3_1).f0), .int .i64 ((rd_T36 l0 x3_1).f1), (.slice A275_2 ((rd_T36 l0 x3_1).f2).length c275_2)] 36 (0, 0))) ∧ Aside0 (Below w.heap.size w wc))
      case first =>
       have H := HC8.out
       clear HC8
       by_cases c11 : (((rd_T36 l0 x3_1).f2).length : Int) < 2
       ·
        rw [if_pos c11] at H
        have c11b0 : decide ((((rd_T36 l0 x3_1).f2).length : Int) < 2) = true := decide_eq_true c11
        have c11b1 : decide (((rd_T36 l0 x3_1).f2).length < 2) = true := decide_eq_true (by omega)
        clear c11
        (first | rw [c11b0] | (simp only [i64_w, i32_w]; rw [c11b0]) | skip)
        have H' := Aside0.mk H
        clear H
        have hcz12_0 : w9.cell? ⟨gb276, 0, none⟩ = some (.int .i64 0) := (blk_cell BK276.out 0).trans rfl
        have hcz12_1 : w9.cell? ⟨gb276, 1, none⟩ = some (.int .i64 0) := (blk_cell BK276.out 1).trans rfl
        have hcz12_2 : w9.cell? ⟨gb276, 2, none⟩ = some (.slice none 0 0) := (blk_cell BK276.out 2).trans rfl
        have hfz12_0 := blk_frozen BK276.out 0
        have hfz12_1 := blk_frozen BK276.out 1
        have hfz12_2 := blk_frozen BK276.out 2
        go_wp2
        repeat (go_quiet (fail); try go_wp2)
        go_meet
        case rel => exact ⟨_, (true), (by first | rfl | (simp; done) | (simp [*]; done)), H', ⟨by have := HK1.out; first | omega | exact Nat.le_refl _⟩, ⟨by (with_reducible repeat (first | refine blk_drewN ?_ _ | refine blk_drew ?_ | refine blk_alloc ?_ _)); refine blk_put (cs := #[.int .i64 ((rd_T36 l0 x3_1).f0), .int .i64 ((rd_T36 l0 x3_1).f1), .slice none 0 0]) ?_ 2 _ rfl; (with_reducible repeat (first | refine blk_drewN ?_ _ | refine blk_drew ?_ | refine blk_alloc ?_ _)); refine blk_put (cs := #[.int .i64 ((rd_T36 l0 x3_1).f0), .int .i64 0, .slice none 0 0]) ?_ 1 _ rfl; (with_reducible repeat (first | refine blk_drewN ?_ _ | refine blk_drew ?_ | refine blk_alloc ?_ _)); refine blk_put (cs := #[.int .i64 0, .int .i64 0, .slice none 0 0]) ?_ 0 _ rfl; (with_reducible repeat (first | refine blk_drewN ?_ _ | refine blk_drew ?_ | refine blk_alloc ?_ _)); exact BK276.out⟩, ⟨by repeat (first | (with_reducible first | exact HB.out | apply below_alloc | apply pw_below_drewN | apply below_drew1 | refine below_set ?_ GE276.out) | exact HB.out)⟩⟩
       ·
        rw [if_neg c11] at H
        have c11b0 : decide ((((rd_T36 l0 x3_1).f2).length : Int) < 2) = false := decide_eq_false c11
        have c11b1 : decide (((rd_T36 l0 x3_1).f2).length < 2) = false := decide_eq_false (by omega)
        clear c11
        (first | rw [c11b0] | (simp only [i64_w, i32_w]; rw [c11b0]) | skip)
        have H' := Aside0.mk H
        clear H
        have hcz13_0 : w9.cell? ⟨gb276, 0, none⟩ = some (.int .i64 0) := (blk_cell BK276.out 0).trans rfl
        have hcz13_1 : w9.cell? ⟨gb276, 1, none⟩ = some (.int .i64 0) := (blk_cell BK276.out 1).trans rfl
        have hcz13_2 : w9.cell? ⟨gb276, 2, none⟩ = some (.slice none 0 0) := (blk_cell BK276.out 2).trans rfl
        have hfz13_0 := blk_frozen BK276.out 0
        have hfz13_1 := blk_frozen BK276.out 1
        have hfz13_2 := blk_frozen BK276.out 2
        go_wp2
        repeat (go_quiet (fail); try go_wp2)
        go_meet
        case rel => exact ⟨_, (decide ((((rd_T36 l0 x3_1).f2).length : Int) > 6)), (by first | rfl | (simp; done) | (simp [*]; done)), H', ⟨by have := HK1.out; first | omega | exact Nat.le_refl _⟩, ⟨by (with_reducible repeat (first | refine blk_drewN ?_ _ | refine blk_drew ?_ | refine blk_alloc ?_ _)); refine blk_put (cs := #[.int .i64 ((rd_T36 l0 x3_1).f0), .int .i64 ((rd_T36 l0 x3_1).f1), .slice none 0 0]) ?_ 2 _ rfl; (with_reducible repeat (first | refine blk_drewN ?_ _ | refine blk_drew ?_ | refine blk_alloc ?_ _)); refine blk_put (cs := #[.int .i64 ((rd_T36 l0 x3_1).f0), .int .i64 0, .slice none 0 0]) ?_ 1 _ rfl; (with_reducible repeat (first | refine blk_drewN ?_ _ | refine blk_drew ?_ | refine blk_alloc ?_ _)); refine blk_put (cs := #[.int .i64 0, .int .i64 0, .slice none 0 0]) ?_ 0 _ rfl; (with_reducible repeat (first | refine blk_drewN ?_ _ | refine blk_drew ?_ | refine blk_alloc ?_ _)); exact BK276.out⟩, ⟨by repeat (first | (with_reducible first | exact HB.out | apply below_alloc | apply pw_below_drewN | apply below_drew1 | refine below_set ?_ GE276.out) | exact HB.out)⟩⟩
      case rest =>
       clear HC8
       try clear c1; try clear c2; try clear c2b0; try clear c2b1; try clear p2; try clear q2; try clear hx2; try clear c3; try clear c3b0; try clear c4; try clear c4b0; try clear c5; try clear c5b0; try clear c11; try clear c11b0; try clear c11b1; try clear hcz10_0; try clear hcz10_1; try clear hcz10_2; try clear hcz12_0
       try clear hcz12_1; try clear hcz12_2; try clear hcz13_0; try clear hcz13_1; try clear hcz13_2; try clear hcz7_0; try clear hcz7_1; try clear hcz7_2; try clear hfz10_0; try clear hfz10_1; try clear hfz10_2; try clear hfz12_0; try clear hfz12_1; try clear hfz12_2; try clear hfz13_0; try clear hfz13_1; try clear hfz13_2
       try clear hfz7_0; try clear hfz7_1; try clear hfz7_2; try clear hx275_0; try clear hx275_1; try clear hx275_2; try clear p2; try clear p275; try clear q275
       obtain ⟨kq, x32_7, rfl, HA, HJ7, BK276, HB⟩ := hcut
       cases kq with
       | zero => exact absurd HA.out (by simp [minecontrolref08_Check.j1])
       | succ kj7 =>
        have H := HA.out
        clear HA
        simp only [minecontrolref08_Check.j1] at H
        by_cases c14 : x32_7 = true
        ·
         subst c14
         have H1 : (some 2) = some r := by rw [if_pos rfl] at H; exact H
         clear H
         have H := H1
         clear H1
         obtain rfl := Option.some.inj H
         go_wp2
         repeat (go_quiet (fail); try go_wp2)
         go_ret
         exact ⟨by first | rfl | (simp [errW_none, errW_some] <;> rfl) | (simp [*, errW_none, errW_some] <;> rfl), by repeat (first | (with_reducible first | exact HB.out | apply below_alloc | apply pw_below_drewN | apply below_drew1 | refine below_set ?_ GE276.out) | exact HB.out)⟩
        ·
         replace c14 := Bool.eq_false_iff.mpr c14
         subst c14
         have H1 : (minecontrolref08_Check.l1 kj7 l0 x3_1 0 ((rd_T36 l0 x3_1).f0) ((rd_T36 l0 x3_1).f1) ((rd_T36 l0 x3_1).f2)) = some r := by rw [if_neg (show ¬ (false = true) by decide)] at H; exact H
         clear H
         have H := H1
         clear H1
         have H' := Aside0.mk H
         clear H
         go_wp2
         repeat (go_quiet (fail); try go_wp2)
         go_loopg [5] kj7 (fun kq v5 w' => ∃ (x5_3 : Int), v5 = .int .i64 x5_3 ∧ Aside0 (minecontrolref08_Check.l1 kq l0 x3_1 x5_3 ((rd_T36 l0 x3_1).f0) ((rd_T36 l0 x3_1).f1) ((rd_T36 l0 x3_1).f2) = some r) ∧ Aside0 (kq ≤ kj7) ∧ Aside0 (w'.heap[gb276]? = some (.cells #[.int .i64 ((rd_T36 l0 x3_1).f0), .int .i64 ((rd_T36 l0 x3_1).f1), (.slice A275_2 ((rd_T36 l0 x3_1).f2).length c275_2)] 36 (0, 0))) ∧ Aside0 (Below w.heap.size w w'))
         case atStart => exact ⟨(0), (by first | rfl | (simp; done) | (simp [*]; done)), H', ⟨Nat.le_refl _⟩, ⟨by (with_reducible repeat (first | refine blk_drewN ?_ _ | refine blk_drew ?_ | refine blk_alloc ?_ _)); exact BK276.out⟩, ⟨by repeat (first | (with_reducible first | exact HB.out | apply below_alloc | apply pw_below_drewN | apply below_drew1 | refine below_set ?_ GE276.out) | exact HB.out)⟩⟩
         case round =>
          clear H'
          try clear c1; try clear c2; try clear c2b0; try clear c2b1; try clear p2; try clear q2; try clear hx2; try clear c3; try clear c3b0; try clear c4; try clear c4b0; try clear c5; try clear c5b0; try clear c11; try clear c11b0; try clear c11b1; try clear c14; try clear hcz10_0; try clear hcz10_1; try clear hcz10_2
          try clear hcz12_0; try clear hcz12_1; try clear hcz12_2; try clear hcz13_0; try clear hcz13_1; try clear hcz13_2; try clear hcz7_0; try clear hcz7_1; try clear hcz7_2; try clear hfz10_0; try clear hfz10_1; try clear hfz10_2; try clear hfz12_0; try clear hfz12_1; try clear hfz12_2; try clear hfz13_0; try clear hfz13_1
          try clear hfz13_2; try clear hfz7_0; try clear hfz7_1; try clear hfz7_2; try clear hx275_0; try clear hx275_1; try clear hx275_2; try clear p2; try clear p275; try clear q2; try clear q275
          obtain ⟨x5_3, rfl, HA, HK3, BK276, HB⟩ := hrel
          cases gk with
          | zero => exact absurd HA.out (by simp [minecontrolref08_Check.l1])
          | succ k3 =>
           have H := HA.out
           clear HA
           simp only [minecontrolref08_Check.l1] at H
           by_cases c15 : x5_3 < (((rd_T36 l0 x3_1).f2).length : Int)
           ·
            rw [if_pos c15] at H
            have c15b0 : decide (x5_3 < (((rd_T36 l0 x3_1).f2).length : Int)) = true := decide_eq_true c15
            clear c15
            by_cases c16 : 0 ≤ x5_3
            rotate_left
            ·
             rw [if_neg c16] at H
             exact absurd H (by simp)
            rw [if_pos c16] at H
            have c16b0 : decide (0 ≤ x5_3) = true := decide_eq_true c16
            clear c16
            by_cases c17 : (rd ((rd_T36 l0 x3_1).f2) x5_3) < 0
            ·
             rw [if_pos c17] at H
             have c17b0 : decide ((rd ((rd_T36 l0 x3_1).f2) x5_3) < 0) = true := decide_eq_true c17
             clear c17
             obtain rfl := Option.some.inj H
             have hcz18_0 : wr.cell? ⟨gb276, 0, none⟩ = some (.int .i64 ((rd_T36 l0 x3_1).f0)) := (blk_cell BK276.out 0).trans rfl
             have hcz18_1 : wr.cell? ⟨gb276, 1, none⟩ = some (.int .i64 ((rd_T36 l0 x3_1).f1)) := (blk_cell BK276.out 1).trans rfl
             have hcz18_2 : wr.cell? ⟨gb276, 2, none⟩ = some (.slice A275_2 ((rd_T36 l0 x3_1).f2).length c275_2) := (blk_cell BK276.out 2).trans rfl
             have hfz18_0 := blk_frozen BK276.out 0
             have hfz18_1 := blk_frozen BK276.out 1
             have hfz18_2 := blk_frozen BK276.out 2
             have p277 : 0 ≤ (x5_3 : Int) := of_decide_eq_true (by first | (with_reducible assumption) | assumption)
             have q277 : x5_3 < (((rd_T36 l0 x3_1).f2).length : Int) := of_decide_eq_true (by first | (with_reducible assumption) | assumption)
             obtain ⟨ad277, e277, hx277_0⟩ := Kd.at_int HR275_2.out x5_3 p277 q277
             cases e277
             try replace hx277_0 := (HB.out.cell (World.block_lt_of_cell? w _ hx277_0)).trans hx277_0
             replace p277 := eq_true p277
             replace q277 := eq_true q277
             go_wp2
             repeat (go_quiet (fail); try go_wp2)
             go_ret
             exact ⟨by first | rfl | (simp [errW_none, errW_some] <;> rfl) | (simp [*, errW_none, errW_some] <;> rfl), by repeat (first | (with_reducible first | exact HB.out | apply below_alloc | apply pw_below_drewN | apply below_drew1 | refine below_set ?_ GE276.out) | exact HB.out)⟩
            ·
             rw [if_neg c17] at H
             have c17b0 : decide ((rd ((rd_T36 l0 x3_1).f2) x5_3) < 0) = false := decide_eq_false c17
             clear c17
             by_cases c19 : (rd ((rd_T36 l0 x3_1).f2) x5_3) > 262144
             ·
              rw [if_pos c19] at H
              have c19b0 : decide (262144 < (rd ((rd_T36 l0 x3_1).f2) x5_3)) = true := decide_eq_true c19
              clear c19
              obtain rfl := Option.some.inj H
              have hcz20_0 : wr.cell? ⟨gb276, 0, none⟩ = some (.int .i64 ((rd_T36 l0 x3_1).f0)) := (blk_cell BK276.out 0).trans rfl
              have hcz20_1 : wr.cell? ⟨gb276, 1, none⟩ = some (.int .i64 ((rd_T36 l0 x3_1).f1)) := (blk_cell BK276.out 1).trans rfl
              have hcz20_2 : wr.cell? ⟨gb276, 2, none⟩ = some (.slice A275_2 ((rd_T36 l0 x3_1).f2).length c275_2) := (blk_cell BK276.out 2).trans rfl
              have hfz20_0 := blk_frozen BK276.out 0
              have hfz20_1 := blk_frozen BK276.out 1
              have hfz20_2 := blk_frozen BK276.out 2
              have p277 : 0 ≤ (x5_3 : Int) := of_decide_eq_true (by first | (with_reducible assumption) | assumption)
              have q277 : x5_3 < (((rd_T36 l0 x3_1).f2).length : Int) := of_decide_eq_true (by first | (with_reducible assumption) | assumption)
              obtain ⟨ad277, e277, hx277_0⟩ := Kd.at_int HR275_2.out x5_3 p277 q277
              cases e277
              try replace hx277_0 := (HB.out.cell (World.block_lt_of_cell? w _ hx277_0)).trans hx277_0
              replace p277 := eq_true p277
              replace q277 := eq_true q277
              have p278 : 0 ≤ (x5_3 : Int) := of_decide_eq_true (by first | (with_reducible assumption) | assumption)
              have q278 : x5_3 < (((rd_T36 l0 x3_1).f2).length : Int) := of_decide_eq_true (by first | (with_reducible assumption) | assumption)
              obtain ⟨ad278, e278, hx278_0⟩ := Kd.at_int HR275_2.out x5_3 p278 q278
              obtain rfl : ad277 = ad278 := (by injection e278)
              try replace hx278_0 := (HB.out.cell (World.block_lt_of_cell? w _ hx278_0)).trans hx278_0
              replace p278 := eq_true p278
              replace q278 := eq_true q278
              go_wp2
              repeat (go_quiet (fail); try go_wp2)
              go_ret
              exact ⟨by first | rfl | (simp [errW_none, errW_some] <;> rfl) | (simp [*, errW_none, errW_some] <;> rfl), by repeat (first | (with_reducible first | exact HB.out | apply below_alloc | apply pw_below_drewN | apply below_drew1 | refine below_set ?_ GE276.out) | exact HB.out)⟩
             ·
              rw [if_neg c19] at H
              have c19b0 : decide (262144 < (rd ((rd_T36 l0 x3_1).f2) x5_3)) = false := decide_eq_false c19
              clear c19
              have H' := Aside0.mk H
              clear H
              have hcz21_0 : wr.cell? ⟨gb276, 0, none⟩ = some (.int .i64 ((rd_T36 l0 x3_1).f0)) := (blk_cell BK276.out 0).trans rfl
              have hcz21_1 : wr.cell? ⟨gb276, 1, none⟩ = some (.int .i64 ((rd_T36 l0 x3_1).f1)) := (blk_cell BK276.out 1).trans rfl
              have hcz21_2 : wr.cell? ⟨gb276, 2, none⟩ = some (.slice A275_2 ((rd_T36 l0 x3_1).f2).length c275_2) := (blk_cell BK276.out 2).trans rfl
              have hfz21_0 := blk_frozen BK276.out 0
              have hfz21_1 := blk_frozen BK276.out 1
              have hfz21_2 := blk_frozen BK276.out 2
              have p277 : 0 ≤ (x5_3 : Int) := of_decide_eq_true (by first | (with_reducible assumption) | assumption)
              have q277 : x5_3 < (((rd_T36 l0 x3_1).f2).length : Int) := of_decide_eq_true (by first | (with_reducible assumption) | assumption)
              obtain ⟨ad277, e277, hx277_0⟩ := Kd.at_int HR275_2.out x5_3 p277 q277
              cases e277
              try replace hx277_0 := (HB.out.cell (World.block_lt_of_cell? w _ hx277_0)).trans hx277_0
              replace p277 := eq_true p277
              replace q277 := eq_true q277
              have p278 : 0 ≤ (x5_3 : Int) := of_decide_eq_true (by first | (with_reducible assumption) | assumption)
              have q278 : x5_3 < (((rd_T36 l0 x3_1).f2).length : Int) := of_decide_eq_true (by first | (with_reducible assumption) | assumption)
              obtain ⟨ad278, e278, hx278_0⟩ := Kd.at_int HR275_2.out x5_3 p278 q278
              obtain rfl : ad277 = ad278 := (by injection e278)
              try replace hx278_0 := (HB.out.cell (World.block_lt_of_cell? w _ hx278_0)).trans hx278_0
              replace p278 := eq_true p278
              replace q278 := eq_true q278
              go_wp2
              repeat (go_quiet (fail); try go_wp2)
              go_roundg k3
              case measure => have := HK1.out; have := HJ7.out; have := HK3.out; omega
              case rel => exact ⟨(wrap64 (x5_3 + 1)), (by first | rfl | (simp; done) | (simp [*]; done)), H', ⟨by have := HK1.out; have := HJ7.out; have := HK3.out; omega⟩, ⟨by (with_reducible repeat (first | refine blk_drewN ?_ _ | refine blk_drew ?_ | refine blk_alloc ?_ _)); exact BK276.out⟩, ⟨by repeat (first | (with_reducible first | exact HB.out | apply below_alloc | apply pw_below_drewN | apply below_drew1 | refine below_set ?_ GE276.out) | exact HB.out)⟩⟩
           ·
            rw [if_neg c15] at H
            have c15b0 : decide (x5_3 < (((rd_T36 l0 x3_1).f2).length : Int)) = false := decide_eq_false c15
            clear c15
            have H' := Aside0.mk H
            clear H
            have hcz22_0 : wr.cell? ⟨gb276, 0, none⟩ = some (.int .i64 ((rd_T36 l0 x3_1).f0)) := (blk_cell BK276.out 0).trans rfl
            have hcz22_1 : wr.cell? ⟨gb276, 1, none⟩ = some (.int .i64 ((rd_T36 l0 x3_1).f1)) := (blk_cell BK276.out 1).trans rfl
            have hcz22_2 : wr.cell? ⟨gb276, 2, none⟩ = some (.slice A275_2 ((rd_T36 l0 x3_1).f2).length c275_2) := (blk_cell BK276.out 2).trans rfl
            have hfz22_0 := blk_frozen BK276.out 0
            have hfz22_1 := blk_frozen BK276.out 1
            have hfz22_2 := blk_frozen BK276.out 2
            go_wp2
            repeat (go_quiet (fail); try go_wp2)
            go_loopg [6] k3 (fun kq v6 w' => ∃ (x6_4 : Int), v6 = .int .i64 x6_4 ∧ Aside0 (minecontrolref08_Check.l2 kq l0 x3_1 x6_4 ((rd_T36 l0 x3_1).f0) ((rd_T36 l0 x3_1).f1) ((rd_T36 l0 x3_1).f2) = some r) ∧ Aside0 (kq ≤ k3) ∧ Aside0 (w'.heap[gb276]? = some (.cells #[.int .i64 ((rd_T36 l0 x3_1).f0), .int .i64 ((rd_T36 l0 x3_1).f1), (.slice A275_2 ((rd_T36 l0 x3_1).f2).length c275_2)] 36 (0, 0))) ∧ Aside0 (Below w.heap.size w w'))
            case atStart => exact ⟨(1), (by first | rfl | (simp; done) | (simp [*]; done)), H', ⟨Nat.le_refl _⟩, ⟨by (with_reducible repeat (first | refine blk_drewN ?_ _ | refine blk_drew ?_ | refine blk_alloc ?_ _)); exact BK276.out⟩, ⟨by repeat (first | (with_reducible first | exact HB.out | apply below_alloc | apply pw_below_drewN | apply below_drew1 | refine below_set ?_ GE276.out) | exact HB.out)⟩⟩
            case round =>
             clear H'
             try clear c1; try clear c2; try clear c2b0; try clear c2b1; try clear p2; try clear q2; try clear hx2; try clear c3; try clear c3b0; try clear c4; try clear c4b0; try clear c5; try clear c5b0; try clear p6; try clear c11; try clear c11b0; try clear c11b1; try clear c14; try clear c15; try clear c15b0
             try clear c16; try clear c16b0; try clear c17; try clear c17b0; try clear c19; try clear c19b0; try clear hcz10_0; try clear hcz10_1; try clear hcz10_2; try clear hcz12_0; try clear hcz12_1; try clear hcz12_2; try clear hcz13_0; try clear hcz13_1; try clear hcz13_2; try clear hcz18_0; try clear hcz18_1
             try clear hcz18_2; try clear hcz20_0; try clear hcz20_1; try clear hcz20_2; try clear hcz21_0; try clear hcz21_1; try clear hcz21_2; try clear hcz22_0; try clear hcz22_1; try clear hcz22_2; try clear hcz7_0; try clear hcz7_1; try clear hcz7_2; try clear hfz10_0; try clear hfz10_1; try clear hfz10_2; try clear hfz12_0
             try clear hfz12_1; try clear hfz12_2; try clear hfz13_0; try clear hfz13_1; try clear hfz13_2; try clear hfz18_0; try clear hfz18_1; try clear hfz18_2; try clear hfz20_0; try clear hfz20_1; try clear hfz20_2; try clear hfz21_0; try clear hfz21_1; try clear hfz21_2; try clear hfz22_0; try clear hfz22_1
             try clear hfz22_2; try clear hfz7_0; try clear hfz7_1; try clear hfz7_2; try clear hx275_0; try clear hx275_1; try clear hx275_2; try clear hx277_0; try clear hx278_0; try clear p2; try clear p275; try clear p277; try clear p278; try clear q2; try clear q275; try clear q277; try clear q278
             obtain ⟨x6_4, rfl, HA, HK4, BK276, HB⟩ := hrel
             cases gk with
             | zero => exact absurd HA.out (by simp [minecontrolref08_Check.l2])
             | succ k4 =>
              have H := HA.out
              clear HA
              simp only [minecontrolref08_Check.l2] at H
              by_cases c23 : x6_4 < (((rd_T36 l0 x3_1).f2).length : Int)
              ·
               rw [if_pos c23] at H
               have c23b0 : decide (x6_4 < (((rd_T36 l0 x3_1).f2).length : Int)) = true := decide_eq_true c23
               clear c23
               by_cases c24 : 0 ≤ x6_4
               rotate_left
               ·
                rw [if_neg c24] at H
                exact absurd H (by simp)
               rw [if_pos c24] at H
               have c24b0 : decide (0 ≤ x6_4) = true := decide_eq_true c24
               clear c24
               obtain ⟨ji25, hji25⟩ : ∃ j_ : Int, (wrap64 (x6_4 - 1)) = j_ := ⟨_, rfl⟩
               replace H : (if 0 ≤ (ji25) then (if (ji25) < (((rd_T36 l0 x3_1).f2).length : Int) then (if (rd ((rd_T36 l0 x3_1).f2) x6_4) ≥ (rd ((rd_T36 l0 x3_1).f2) (ji25)) then (some 15) else (minecontrolref08_Check.l2 k4 l0 x3_1 (wrap64 (x6_4 + 1)) ((rd_T36 l0 x3_1).f0) ((rd_T36 l0 x3_1).f1) ((rd_T36 l0 x3_1).f2))) else (none)) else (none)) = some r := by first | (rw [hji25] at H; exact H) | (simp only [hji25] at H ⊢; exact H)
               have hji25w : (IntKind.i64.wrap (x6_4 - 1)) = ji25 := (i64_w _).trans hji25
               by_cases c26 : 0 ≤ (ji25)
               rotate_left
               ·
                rw [if_neg c26] at H
                exact absurd H (by simp)
               rw [if_pos c26] at H
               have c26b0 : decide (0 ≤ (ji25)) = true := decide_eq_true c26
               clear c26
               by_cases c27 : (ji25) < (((rd_T36 l0 x3_1).f2).length : Int)
               rotate_left
               ·
                rw [if_neg c27] at H
                exact absurd H (by simp)
               rw [if_pos c27] at H
               have c27b0 : decide ((ji25) < (((rd_T36 l0 x3_1).f2).length : Int)) = true := decide_eq_true c27
               clear c27
               by_cases c28 : (rd ((rd_T36 l0 x3_1).f2) x6_4) ≥ (rd ((rd_T36 l0 x3_1).f2) (ji25))
               ·
                rw [if_pos c28] at H
                have c28b0 : decide ((rd ((rd_T36 l0 x3_1).f2) (ji25)) ≤ (rd ((rd_T36 l0 x3_1).f2) x6_4)) = true := decide_eq_true c28
                clear c28
                obtain rfl := Option.some.inj H
                have hcz29_0 : wr.cell? ⟨gb276, 0, none⟩ = some (.int .i64 ((rd_T36 l0 x3_1).f0)) := (blk_cell BK276.out 0).trans rfl
                have hcz29_1 : wr.cell? ⟨gb276, 1, none⟩ = some (.int .i64 ((rd_T36 l0 x3_1).f1)) := (blk_cell BK276.out 1).trans rfl
                have hcz29_2 : wr.cell? ⟨gb276, 2, none⟩ = some (.slice A275_2 ((rd_T36 l0 x3_1).f2).length c275_2) := (blk_cell BK276.out 2).trans rfl
                have hfz29_0 := blk_frozen BK276.out 0
                have hfz29_1 := blk_frozen BK276.out 1
                have hfz29_2 := blk_frozen BK276.out 2
                have p279 : 0 ≤ (x6_4 : Int) := of_decide_eq_true (by first | (with_reducible assumption) | assumption)
                have q279 : x6_4 < (((rd_T36 l0 x3_1).f2).length : Int) := of_decide_eq_true (by first | (with_reducible assumption) | assumption)
                obtain ⟨ad279, e279, hx279_0⟩ := Kd.at_int HR275_2.out x6_4 p279 q279
                cases e279
                try replace hx279_0 := (HB.out.cell (World.block_lt_of_cell? w _ hx279_0)).trans hx279_0
                replace p279 := eq_true p279
                replace q279 := eq_true q279
                have p280 : 0 ≤ ((ji25) : Int) := of_decide_eq_true (by first | (with_reducible assumption) | assumption)
                have q280 : (ji25) < (((rd_T36 l0 x3_1).f2).length : Int) := of_decide_eq_true (by first | (with_reducible assumption) | assumption)
                obtain ⟨ad280, e280, hx280_0⟩ := Kd.at_int HR275_2.out (ji25) p280 q280
                obtain rfl : ad279 = ad280 := (by injection e280)
                try replace hx280_0 := (HB.out.cell (World.block_lt_of_cell? w _ hx280_0)).trans hx280_0
                replace p280 := eq_true p280
                replace q280 := eq_true q280
                go_wp2
                repeat (go_quiet (fail); try go_wp2)
                go_ret
                exact ⟨by first | rfl | (simp [errW_none, errW_some] <;> rfl) | (simp only [← hji25]; first | rfl | (simp [errW_none, errW_some] <;> rfl)) | (simp [*, errW_none, errW_some] <;> rfl), by repeat (first | (with_reducible first | exact HB.out | apply below_alloc | apply pw_below_drewN | apply below_drew1 | refine below_set ?_ GE276.out) | exact HB.out)⟩
               ·
                rw [if_neg c28] at H
                have c28b0 : decide ((rd ((rd_T36 l0 x3_1).f2) (ji25)) ≤ (rd ((rd_T36 l0 x3_1).f2) x6_4)) = false := decide_eq_false c28
                clear c28
                have H' := Aside0.mk H
                clear H
                have hcz30_0 : wr.cell? ⟨gb276, 0, none⟩ = some (.int .i64 ((rd_T36 l0 x3_1).f0)) := (blk_cell BK276.out 0).trans rfl
                have hcz30_1 : wr.cell? ⟨gb276, 1, none⟩ = some (.int .i64 ((rd_T36 l0 x3_1).f1)) := (blk_cell BK276.out 1).trans rfl
                have hcz30_2 : wr.cell? ⟨gb276, 2, none⟩ = some (.slice A275_2 ((rd_T36 l0 x3_1).f2).length c275_2) := (blk_cell BK276.out 2).trans rfl
                have hfz30_0 := blk_frozen BK276.out 0
                have hfz30_1 := blk_frozen BK276.out 1
                have hfz30_2 := blk_frozen BK276.out 2
                have p279 : 0 ≤ (x6_4 : Int) := of_decide_eq_true (by first | (with_reducible assumption) | assumption)
                have q279 : x6_4 < (((rd_T36 l0 x3_1).f2).length : Int) := of_decide_eq_true (by first | (with_reducible assumption) | assumption)
                obtain ⟨ad279, e279, hx279_0⟩ := Kd.at_int HR275_2.out x6_4 p279 q279
                cases e279
                try replace hx279_0 := (HB.out.cell (World.block_lt_of_cell? w _ hx279_0)).trans hx279_0
                replace p279 := eq_true p279
                replace q279 := eq_true q279
                have p280 : 0 ≤ ((ji25) : Int) := of_decide_eq_true (by first | (with_reducible assumption) | assumption)
                have q280 : (ji25) < (((rd_T36 l0 x3_1).f2).length : Int) := of_decide_eq_true (by first | (with_reducible assumption) | assumption)
                obtain ⟨ad280, e280, hx280_0⟩ := Kd.at_int HR275_2.out (ji25) p280 q280
                obtain rfl : ad279 = ad280 := (by injection e280)
                try replace hx280_0 := (HB.out.cell (World.block_lt_of_cell? w _ hx280_0)).trans hx280_0
                replace p280 := eq_true p280
                replace q280 := eq_true q280
                go_wp2
                repeat (go_quiet (fail); try go_wp2)
                go_roundg k4
                case measure => have := HK1.out; have := HJ7.out; have := HK3.out; have := HK4.out; omega
                case rel => exact ⟨(wrap64 (x6_4 + 1)), (by first | rfl | (simp; done) | (simp [*]; done)), H', ⟨by have := HK1.out; have := HJ7.out; have := HK3.out; have := HK4.out; omega⟩, ⟨by (with_reducible repeat (first | refine blk_drewN ?_ _ | refine blk_drew ?_ | refine blk_alloc ?_ _)); exact BK276.out⟩, ⟨by repeat (first | (with_reducible first | exact HB.out | apply below_alloc | apply pw_below_drewN | apply below_drew1 | refine below_set ?_ GE276.out) | exact HB.out)⟩⟩
              ·
               rw [if_neg c23] at H
               have c23b0 : decide (x6_4 < (((rd_T36 l0 x3_1).f2).length : Int)) = false := decide_eq_false c23
               clear c23
               by_cases c31 : ((rd_T36 l0 x3_1).f1) = (-1)
               ·
                rw [if_pos c31] at H
                have c31b0 : (((rd_T36 l0 x3_1).f1) == (-1)) = true := beq_iff_eq.mpr c31
                have c31b1 : (((rd_T36 l0 x3_1).f1) != (-1)) = false := bne_eq_false_iff_eq.mpr c31
                clear c31
                have H' := Aside0.mk H
                clear H
                have hcz32_0 : wr.cell? ⟨gb276, 0, none⟩ = some (.int .i64 ((rd_T36 l0 x3_1).f0)) := (blk_cell BK276.out 0).trans rfl
                have hcz32_1 : wr.cell? ⟨gb276, 1, none⟩ = some (.int .i64 ((rd_T36 l0 x3_1).f1)) := (blk_cell BK276.out 1).trans rfl
                have hcz32_2 : wr.cell? ⟨gb276, 2, none⟩ = some (.slice A275_2 ((rd_T36 l0 x3_1).f2).length c275_2) := (blk_cell BK276.out 2).trans rfl
                have hfz32_0 := blk_frozen BK276.out 0
                have hfz32_1 := blk_frozen BK276.out 1
                have hfz32_2 := blk_frozen BK276.out 2
                go_wp2
                repeat (go_quiet (fail); try go_wp2)
                go_roundg k4
                case measure => have := HK1.out; have := HJ7.out; have := HK3.out; have := HK4.out; omega
                case rel => exact ⟨(wrap64 (x3_1 + 1)), (by first | rfl | (simp; done) | (simp [*]; done)), H', ⟨by have := HK1.out; have := HJ7.out; have := HK3.out; have := HK4.out; omega⟩, ⟨by repeat (first | (with_reducible first | exact HB.out | apply below_alloc | apply pw_below_drewN | apply below_drew1 | refine below_set ?_ GE276.out) | exact HB.out)⟩⟩
               ·
                rw [if_neg c31] at H
                have c31b0 : (((rd_T36 l0 x3_1).f1) == (-1)) = false := beq_eq_false_iff_ne.mpr c31
                have c31b1 : (((rd_T36 l0 x3_1).f1) != (-1)) = true := bne_iff_ne.mpr c31
                by_cases c33 : ((rd_T36 l0 x3_1).f1) < 0
                ·
                 rw [if_pos c33] at H
                 have c33b0 : decide (((rd_T36 l0 x3_1).f1) < 0) = true := decide_eq_true c33
                 clear c33
                 obtain rfl := Option.some.inj H
                 have hcz34_0 : wr.cell? ⟨gb276, 0, none⟩ = some (.int .i64 ((rd_T36 l0 x3_1).f0)) := (blk_cell BK276.out 0).trans rfl
                 have hcz34_1 : wr.cell? ⟨gb276, 1, none⟩ = some (.int .i64 ((rd_T36 l0 x3_1).f1)) := (blk_cell BK276.out 1).trans rfl
                 have hcz34_2 : wr.cell? ⟨gb276, 2, none⟩ = some (.slice A275_2 ((rd_T36 l0 x3_1).f2).length c275_2) := (blk_cell BK276.out 2).trans rfl
                 have hfz34_0 := blk_frozen BK276.out 0
                 have hfz34_1 := blk_frozen BK276.out 1
                 have hfz34_2 := blk_frozen BK276.out 2
                 go_wp2
                 repeat (go_quiet (fail); try go_wp2)
                 go_ret
                 exact ⟨by first | rfl | (simp [errW_none, errW_some] <;> rfl) | (simp [*, errW_none, errW_some] <;> rfl), by repeat (first | (with_reducible first | exact HB.out | apply below_alloc | apply pw_below_drewN | apply below_drew1 | refine below_set ?_ GE276.out) | exact HB.out)⟩
                ·
                 rw [if_neg c33] at H
                 have c33b0 : decide (((rd_T36 l0 x3_1).f1) < 0) = false := decide_eq_false c33
                 clear c33
                 by_cases c35 : ((rd_T36 l0 x3_1).f1) ≥ (l0.length : Int)
                 ·
                  rw [if_pos c35] at H
                  have c35b0 : decide ((l0.length : Int) ≤ ((rd_T36 l0 x3_1).f1)) = true := decide_eq_true c35
                  clear c35
                  obtain rfl := Option.some.inj H
                  have hcz36_0 : wr.cell? ⟨gb276, 0, none⟩ = some (.int .i64 ((rd_T36 l0 x3_1).f0)) := (blk_cell BK276.out 0).trans rfl
                  have hcz36_1 : wr.cell? ⟨gb276, 1, none⟩ = some (.int .i64 ((rd_T36 l0 x3_1).f1)) := (blk_cell BK276.out 1).trans rfl
                  have hcz36_2 : wr.cell? ⟨gb276, 2, none⟩ = some (.slice A275_2 ((rd_T36 l0 x3_1).f2).length c275_2) := (blk_cell BK276.out 2).trans rfl
                  have hfz36_0 := blk_frozen BK276.out 0
                  have hfz36_1 := blk_frozen BK276.out 1
                  have hfz36_2 := blk_frozen BK276.out 2
                  go_wp2
                  repeat (go_quiet (fail); try go_wp2)
                  go_ret
                  exact ⟨by first | rfl | (simp [errW_none, errW_some] <;> rfl) | (simp [*, errW_none, errW_some] <;> rfl), by repeat (first | (with_reducible first | exact HB.out | apply below_alloc | apply pw_below_drewN | apply below_drew1 | refine below_set ?_ GE276.out) | exact HB.out)⟩
                 ·
                  rw [if_neg c35] at H
                  have c35b0 : decide ((l0.length : Int) ≤ ((rd_T36 l0 x3_1).f1)) = false := decide_eq_false c35
                  clear c35
                  by_cases c37 : ((rd_T36 l0 x3_1).f1) = x3_1
                  ·
                   rw [if_pos c37] at H
                   have c37b0 : (((rd_T36 l0 x3_1).f1) == x3_1) = true := beq_iff_eq.mpr c37
                   have c37b1 : (((rd_T36 l0 x3_1).f1) != x3_1) = false := bne_eq_false_iff_eq.mpr c37
                   clear c37
                   obtain rfl := Option.some.inj H
                   have hcz38_0 : wr.cell? ⟨gb276, 0, none⟩ = some (.int .i64 ((rd_T36 l0 x3_1).f0)) := (blk_cell BK276.out 0).trans rfl
                   have hcz38_1 : wr.cell? ⟨gb276, 1, none⟩ = some (.int .i64 ((rd_T36 l0 x3_1).f1)) := (blk_cell BK276.out 1).trans rfl
                   have hcz38_2 : wr.cell? ⟨gb276, 2, none⟩ = some (.slice A275_2 ((rd_T36 l0 x3_1).f2).length c275_2) := (blk_cell BK276.out 2).trans rfl
                   have hfz38_0 := blk_frozen BK276.out 0
                   have hfz38_1 := blk_frozen BK276.out 1
                   have hfz38_2 := blk_frozen BK276.out 2
                   go_wp2
                   repeat (go_quiet (fail); try go_wp2)
                   go_ret
                   exact ⟨by first | rfl | (simp [errW_none, errW_some] <;> rfl) | (simp [*, errW_none, errW_some] <;> rfl), by repeat (first | (with_reducible first | exact HB.out | apply below_alloc | apply pw_below_drewN | apply below_drew1 | refine below_set ?_ GE276.out) | exact HB.out)⟩
                  ·
                   rw [if_neg c37] at H
                   have c37b0 : (((rd_T36 l0 x3_1).f1) == x3_1) = false := beq_eq_false_iff_ne.mpr c37
                   have c37b1 : (((rd_T36 l0 x3_1).f1) != x3_1) = true := bne_iff_ne.mpr c37
                   by_cases c39 : 0 ≤ ((rd_T36 l0 x3_1).f1)
                   rotate_left
                   ·
                    rw [if_neg c39] at H
                    exact absurd H (by simp)
                   rw [if_pos c39] at H
                   have c39b0 : decide (0 ≤ ((rd_T36 l0 x3_1).f1)) = true := decide_eq_true c39
                   clear c39
                   by_cases c40 : ((rd_T36 l0 x3_1).f1) < (l0.length : Int)
                   rotate_left
                   ·
                    rw [if_neg c40] at H
                    exact absurd H (by simp)
                   rw [if_pos c40] at H
                   have c40b0 : decide (((rd_T36 l0 x3_1).f1) < (l0.length : Int)) = true := decide_eq_true c40
                   clear c40
                   by_cases c41 : ((rd_T36 l0 ((rd_T36 l0 x3_1).f1)).f1) = x3_1
                   ·
                    rw [if_pos c41] at H
                    have c41b0 : (((rd_T36 l0 ((rd_T36 l0 x3_1).f1)).f1) == x3_1) = true := beq_iff_eq.mpr c41
                    have c41b1 : (((rd_T36 l0 ((rd_T36 l0 x3_1).f1)).f1) != x3_1) = false := bne_eq_false_iff_eq.mpr c41
                    clear c41
                    have H' := Aside0.mk H
                    clear H
                    have hcz42_0 : wr.cell? ⟨gb276, 0, none⟩ = some (.int .i64 ((rd_T36 l0 x3_1).f0)) := (blk_cell BK276.out 0).trans rfl
                    have hcz42_1 : wr.cell? ⟨gb276, 1, none⟩ = some (.int .i64 ((rd_T36 l0 x3_1).f1)) := (blk_cell BK276.out 1).trans rfl
                    have hcz42_2 : wr.cell? ⟨gb276, 2, none⟩ = some (.slice A275_2 ((rd_T36 l0 x3_1).f2).length c275_2) := (blk_cell BK276.out 2).trans rfl
                    have hfz42_0 := blk_frozen BK276.out 0
                    have hfz42_1 := blk_frozen BK276.out 1
                    have hfz42_2 := blk_frozen BK276.out 2
                    have p281 : 0 ≤ (((rd_T36 l0 x3_1).f1) : Int) := of_decide_eq_true (by first | (with_reducible assumption) | assumption)
                    have q281 : ((rd_T36 l0 x3_1).f1) < (l0.length : Int) := of_decide_eq_true (by first | (with_reducible assumption) | assumption)
                    obtain ⟨ad281, A281_2, c281_2, e281, hx281_0, hx281_1, hx281_2, hl281_2, hi281_2⟩ := at_T36 HR0.out ((rd_T36 l0 x3_1).f1) p281 q281
                    obtain rfl : ad275 = ad281 := (by injection e281)
                    try replace hx281_0 := (HB.out.cell (World.block_lt_of_cell? w _ hx281_0)).trans hx281_0
                    try replace hx281_1 := (HB.out.cell (World.block_lt_of_cell? w _ hx281_1)).trans hx281_1
                    try replace hx281_2 := (HB.out.cell (World.block_lt_of_cell? w _ hx281_2)).trans hx281_2
                    have HR281_2 := Aside0.mk hi281_2
                    have HC281_2 := Aside0.mk hl281_2
                    clear hi281_2 hl281_2
                    replace p281 := eq_true p281
                    replace q281 := eq_true q281
                    go_wp2
                    repeat (go_quiet (fail); try go_wp2)
                    go_roundg k4
                    case measure => have := HK1.out; have := HJ7.out; have := HK3.out; have := HK4.out; omega
                    case rel => exact ⟨(wrap64 (x3_1 + 1)), (by first | rfl | (simp; done) | (simp [*]; done)), H', ⟨by have := HK1.out; have := HJ7.out; have := HK3.out; have := HK4.out; omega⟩, ⟨by repeat (first | (with_reducible first | exact HB.out | apply below_alloc | apply pw_below_drewN | apply below_drew1 | refine below_set ?_ GE276.out) | exact HB.out)⟩⟩
                   ·
                    rw [if_neg c41] at H
                    have c41b0 : (((rd_T36 l0 ((rd_T36 l0 x3_1).f1)).f1) == x3_1) = false := beq_eq_false_iff_ne.mpr c41
                    have c41b1 : (((rd_T36 l0 ((rd_T36 l0 x3_1).f1)).f1) != x3_1) = true := bne_iff_ne.mpr c41
                    obtain rfl := Option.some.inj H
                    have hcz43_0 : wr.cell? ⟨gb276, 0, none⟩ = some (.int .i64 ((rd_T36 l0 x3_1).f0)) := (blk_cell BK276.out 0).trans rfl
                    have hcz43_1 : wr.cell? ⟨gb276, 1, none⟩ = some (.int .i64 ((rd_T36 l0 x3_1).f1)) := (blk_cell BK276.out 1).trans rfl
                    have hcz43_2 : wr.cell? ⟨gb276, 2, none⟩ = some (.slice A275_2 ((rd_T36 l0 x3_1).f2).length c275_2) := (blk_cell BK276.out 2).trans rfl
                    have hfz43_0 := blk_frozen BK276.out 0
                    have hfz43_1 := blk_frozen BK276.out 1
                    have hfz43_2 := blk_frozen BK276.out 2
                    have p281 : 0 ≤ (((rd_T36 l0 x3_1).f1) : Int) := of_decide_eq_true (by first | (with_reducible assumption) | assumption)
                    have q281 : ((rd_T36 l0 x3_1).f1) < (l0.length : Int) := of_decide_eq_true (by first | (with_reducible assumption) | assumption)
                    obtain ⟨ad281, A281_2, c281_2, e281, hx281_0, hx281_1, hx281_2, hl281_2, hi281_2⟩ := at_T36 HR0.out ((rd_T36 l0 x3_1).f1) p281 q281
                    obtain rfl : ad275 = ad281 := (by injection e281)
                    try replace hx281_0 := (HB.out.cell (World.block_lt_of_cell? w _ hx281_0)).trans hx281_0
                    try replace hx281_1 := (HB.out.cell (World.block_lt_of_cell? w _ hx281_1)).trans hx281_1
                    try replace hx281_2 := (HB.out.cell (World.block_lt_of_cell? w _ hx281_2)).trans hx281_2
                    have HR281_2 := Aside0.mk hi281_2
                    have HC281_2 := Aside0.mk hl281_2
                    clear hi281_2 hl281_2
                    replace p281 := eq_true p281
                    replace q281 := eq_true q281
                    go_wp2
                    repeat (go_quiet (fail); try go_wp2)
                    go_ret
                    exact ⟨by first | rfl | (simp [errW_none, errW_some] <;> rfl) | (simp [*, errW_none, errW_some] <;> rfl), by repeat (first | (with_reducible first | exact HB.out | apply below_alloc | apply pw_below_drewN | apply below_drew1 | refine below_set ?_ GE276.out) | exact HB.out)⟩
    ·
     rw [if_neg c3] at H
     have c3b0 : decide (x3_1 < (l0.length : Int)) = false := decide_eq_false c3
     clear c3
     obtain rfl := Option.some.inj H
     go_wp2
     repeat (go_quiet (fail); try go_wp2)
     go_ret
     exact ⟨by first | rfl | (simp [errW_none, errW_some] <;> rfl) | (simp [*, errW_none, errW_some] <;> rfl), by repeat (first | (with_reducible first | exact HB.out | apply below_alloc | apply pw_below_drewN | apply below_drew1) | exact HB.out)⟩

end Go.Proofs.Ytmlkchkhgjebgaa.PDoo
