/- Functions of the given program as Lean functions, and proofs that its calls come to what these say. Written by a program of this seat (wip/mkprint.py); Lean checks it all. -/
import Derived.Test.YtcgeflbifbaecaaPFetx0
namespace Go.Proofs.Ytcgeflbifbaecaa.PFet
open Go.RowKit Go.Proofs.YtcgeflbifbaecaaW.PrintWords Go.Proofs.YtcgeflbifbaecaaW.PrintLast Go.Proofs.YtcgeflbifbaecaaW.PrintMore
attribute [local go_sem] max2_int min2_int max_two min_two max_three min_three max_four min_four   -- for this text's walks alone
set_option linter.unusedVariables false
set_option linter.unusedSimpArgs false

/-! ### minecontrolref18_Check: function 26 -/
mutual
def minecontrolref18_Check.j0 : Nat → Bool → List (S32) → List Int → Int → Option (Int)
 | 0, _, _, _, _ => none
 | k + 1, x16, x266000, x266001, x266002 => if x16 = true then (some 2) else (minecontrolref18_Check.l0 k 0 x266000 x266001 x266002)
def minecontrolref18_Check.l0 : Nat → Int → List (S32) → List Int → Int → Option (Int)
 | 0, _, _, _, _ => none
 | k + 1, x3, x266000, x266001, x266002 => if x3 < (x266000.length : Int) then (if 0 ≤ x3 then (if ((rd_T32 x266000 x3).f0) < (-1) then (minecontrolref18_Check.j2 k x3 true x266000 x266001 x266002 ((rd_T32 x266000 x3).f0) ((rd_T32 x266000 x3).f1) ((rd_T32 x266000 x3).f2) ((rd_T32 x266000 x3).f3) ((rd_T32 x266000 x3).f4)) else (minecontrolref18_Check.j2 k x3 (decide (((rd_T32 x266000 x3).f0) ≥ x3)) x266000 x266001 x266002 ((rd_T32 x266000 x3).f0) ((rd_T32 x266000 x3).f1) ((rd_T32 x266000 x3).f2) ((rd_T32 x266000 x3).f3) ((rd_T32 x266000 x3).f4))) else (none)) else (minecontrolref18_Check.l1 k 0 x266000 x266001 x266002)
def minecontrolref18_Check.j2 : Nat → Int → Bool → List (S32) → List Int → Int → Int → Int → Int → Bool → Bool → Option (Int)
 | 0, _, _, _, _, _, _, _, _, _, _ => none
 | k + 1, x3, x37, x266000, x266001, x266002, x268000, x268001, x268002, x268003, x268004 => if x37 = true then (some 16) else (if x268001 < 0 then (minecontrolref18_Check.j3 k x3 true x266000 x266001 x266002 x268000 x268001 x268002 x268003 x268004) else (minecontrolref18_Check.j3 k x3 (decide (x268001 > 2147483648)) x266000 x266001 x266002 x268000 x268001 x268002 x268003 x268004))
def minecontrolref18_Check.j3 : Nat → Int → Bool → List (S32) → List Int → Int → Int → Int → Int → Bool → Bool → Option (Int)
 | 0, _, _, _, _, _, _, _, _, _, _ => none
 | k + 1, x3, x45, x266000, x266001, x266002, x268000, x268001, x268002, x268003, x268004 => if x45 = true then (some 8) else (if x268002 < (-1) then (some 10) else (if x268002 > 1 then (some 10) else (if x268004 = true then (if x268003 = true then (some 10) else (if x268002 = (-1) then (some 10) else (minecontrolref18_Check.l0 k (wrap64 (x3 + 1)) x266000 x266001 x266002))) else (minecontrolref18_Check.l0 k (wrap64 (x3 + 1)) x266000 x266001 x266002))))
def minecontrolref18_Check.l1 : Nat → Int → List (S32) → List Int → Int → Option (Int)
 | 0, _, _, _, _ => none
 | k + 1, x5, x266000, x266001, x266002 => if x5 < (x266001.length : Int) then (if 0 ≤ x5 then (if (rd x266001 x5) < 0 then (minecontrolref18_Check.j5 k x5 true x266000 x266001 x266002) else (minecontrolref18_Check.j5 k x5 (decide ((rd x266001 x5) ≥ (x266000.length : Int))) x266000 x266001 x266002)) else (none)) else (if x266002 < 1 then (some 1) else (if x266002 > 100000 then (some 1) else (some 0)))
def minecontrolref18_Check.j5 : Nat → Int → Bool → List (S32) → List Int → Int → Option (Int)
 | 0, _, _, _, _, _ => none
 | k + 1, x5, x90, x266000, x266001, x266002 => if x90 = true then (some 16) else (minecontrolref18_Check.l2 k x5 0 x266000 x266001 x266002)
def minecontrolref18_Check.l2 : Nat → Int → Int → List (S32) → List Int → Int → Option (Int)
 | 0, _, _, _, _, _ => none
 | k + 1, x5, x6, x266000, x266001, x266002 => if x6 < x5 then (if 0 ≤ x6 then (if x6 < (x266001.length : Int) then (if 0 ≤ x5 then (if x5 < (x266001.length : Int) then (if (rd x266001 x6) = (rd x266001 x5) then (some 17) else (minecontrolref18_Check.l2 k x5 (wrap64 (x6 + 1)) x266000 x266001 x266002)) else (none)) else (none)) else (none)) else (none)) else (minecontrolref18_Check.l1 k (wrap64 (x5 + 1)) x266000 x266001 x266002)
end
def minecontrolref18_Check.f (k : Nat) (l0_0 : List (S32)) (l0_1 : List Int) (a0_2 : Int) : Option (Int) := if (l0_0.length : Int) > 32 then (minecontrolref18_Check.j0 k true l0_0 l0_1 a0_2) else (minecontrolref18_Check.j0 k (decide ((l0_1.length : Int) > 16)) l0_0 l0_1 a0_2)
theorem minecontrolref18_Check.mono_l : ∀ k, (∀ y0 y1 y2 y3, LeO (minecontrolref18_Check.j0 k y0 y1 y2 y3) (minecontrolref18_Check.j0 (k + 1) y0 y1 y2 y3)) ∧ (∀ y0 y1 y2 y3, LeO (minecontrolref18_Check.l0 k y0 y1 y2 y3) (minecontrolref18_Check.l0 (k + 1) y0 y1 y2 y3)) ∧ (∀ y0 y1 y2 y3 y4 y5 y6 y7 y8 y9, LeO (minecontrolref18_Check.j2 k y0 y1 y2 y3 y4 y5 y6 y7 y8 y9) (minecontrolref18_Check.j2 (k + 1) y0 y1 y2 y3 y4 y5 y6 y7 y8 y9)) ∧ (∀ y0 y1 y2 y3 y4 y5 y6 y7 y8 y9, LeO (minecontrolref18_Check.j3 k y0 y1 y2 y3 y4 y5 y6 y7 y8 y9) (minecontrolref18_Check.j3 (k + 1) y0 y1 y2 y3 y4 y5 y6 y7 y8 y9)) ∧ (∀ y0 y1 y2 y3, LeO (minecontrolref18_Check.l1 k y0 y1 y2 y3) (minecontrolref18_Check.l1 (k + 1) y0 y1 y2 y3)) ∧ (∀ y0 y1 y2 y3 y4, LeO (minecontrolref18_Check.j5 k y0 y1 y2 y3 y4) (minecontrolref18_Check.j5 (k + 1) y0 y1 y2 y3 y4)) ∧ (∀ y0 y1 y2 y3 y4, LeO (minecontrolref18_Check.l2 k y0 y1 y2 y3 y4) (minecontrolref18_Check.l2 (k + 1) y0 y1 y2 y3 y4))
 | 0 => ⟨fun _ _ _ _ r h => by simp [minecontrolref18_Check.j0] at h, fun _ _ _ _ r h => by simp [minecontrolref18_Check.l0] at h, fun _ _ _ _ _ _ _ _ _ _ r h => by simp [minecontrolref18_Check.j2] at h, fun _ _ _ _ _ _ _ _ _ _ r h => by simp [minecontrolref18_Check.j3] at h, fun _ _ _ _ r h => by simp [minecontrolref18_Check.l1] at h, fun _ _ _ _ _ r h => by simp [minecontrolref18_Check.j5] at h, fun _ _ _ _ _ r h => by simp [minecontrolref18_Check.l2] at h⟩
 | k + 1 => by
  obtain ⟨ih0, ih1, ih2, ih3, ih4, ih5, ih6⟩ := minecontrolref18_Check.mono_l k
  refine ⟨?_, ?_, ?_, ?_, ?_, ?_, ?_⟩
  ·
   intro y0 y1 y2 y3
   unfold minecontrolref18_Check.j0
   repeat' first
   | (with_reducible exact ih0 _ _ _ _)
   | (with_reducible exact ih1 _ _ _ _)
   | (with_reducible exact ih2 _ _ _ _ _ _ _ _ _ _)
   | (with_reducible exact ih3 _ _ _ _ _ _ _ _ _ _)
   | (with_reducible exact ih4 _ _ _ _)
   | (with_reducible exact ih5 _ _ _ _ _)
   | (with_reducible exact ih6 _ _ _ _ _)
   | (with_reducible exact LeO.refl _)
   | (with_reducible exact LeO.none _)
   | (with_reducible refine LeO.ite ?_ ?_)
   | (with_reducible refine LeO.bind ?_ (fun _ => ?_))
   | exact ih0 _ _ _ _
   | exact ih1 _ _ _ _
   | exact ih2 _ _ _ _ _ _ _ _ _ _
   | exact ih3 _ _ _ _ _ _ _ _ _ _
   | exact ih4 _ _ _ _
   | exact ih5 _ _ _ _ _
   | exact ih6 _ _ _ _ _
   | exact LeO.none _
   | refine LeO.ite ?_ ?_
   | refine LeO.bind ?_ (fun _ => ?_)
  ·
   intro y0 y1 y2 y3
   unfold minecontrolref18_Check.l0
   repeat' first
   | (with_reducible exact ih0 _ _ _ _)
   | (with_reducible exact ih1 _ _ _ _)
   | (with_reducible exact ih2 _ _ _ _ _ _ _ _ _ _)
   | (with_reducible exact ih3 _ _ _ _ _ _ _ _ _ _)
   | (with_reducible exact ih4 _ _ _ _)
   | (with_reducible exact ih5 _ _ _ _ _)
   | (with_reducible exact ih6 _ _ _ _ _)
   | (with_reducible exact LeO.refl _)
   | (with_reducible exact LeO.none _)
   | (with_reducible refine LeO.ite ?_ ?_)
   | (with_reducible refine LeO.bind ?_ (fun _ => ?_))
   | exact ih0 _ _ _ _
   | exact ih1 _ _ _ _
   | exact ih2 _ _ _ _ _ _ _ _ _ _
   | exact ih3 _ _ _ _ _ _ _ _ _ _
   | exact ih4 _ _ _ _
   | exact ih5 _ _ _ _ _
   | exact ih6 _ _ _ _ _
   | exact LeO.none _
   | refine LeO.ite ?_ ?_
   | refine LeO.bind ?_ (fun _ => ?_)
  ·
   intro y0 y1 y2 y3 y4 y5 y6 y7 y8 y9
   unfold minecontrolref18_Check.j2
   repeat' first
   | (with_reducible exact ih0 _ _ _ _)
   | (with_reducible exact ih1 _ _ _ _)
   | (with_reducible exact ih2 _ _ _ _ _ _ _ _ _ _)
   | (with_reducible exact ih3 _ _ _ _ _ _ _ _ _ _)
   | (with_reducible exact ih4 _ _ _ _)
   | (with_reducible exact ih5 _ _ _ _ _)
   | (with_reducible exact ih6 _ _ _ _ _)
   | (with_reducible exact LeO.refl _)
   | (with_reducible exact LeO.none _)
   | (with_reducible refine LeO.ite ?_ ?_)
   | (with_reducible refine LeO.bind ?_ (fun _ => ?_))
   | exact ih0 _ _ _ _
   | exact ih1 _ _ _ _
   | exact ih2 _ _ _ _ _ _ _ _ _ _
   | exact ih3 _ _ _ _ _ _ _ _ _ _
   | exact ih4 _ _ _ _
   | exact ih5 _ _ _ _ _
   | exact ih6 _ _ _ _ _
   | exact LeO.none _
   | refine LeO.ite ?_ ?_
   | refine LeO.bind ?_ (fun _ => ?_)
  ·
   intro y0 y1 y2 y3 y4 y5 y6 y7 y8 y9
   unfold minecontrolref18_Check.j3
   repeat' first
   | (with_reducible exact ih0 _ _ _ _)
   | (with_reducible exact ih1 _ _ _ _)
   | (with_reducible exact ih2 _ _ _ _ _ _ _ _ _ _)
   | (with_reducible exact ih3 _ _ _ _ _ _ _ _ _ _)
   | (with_reducible exact ih4 _ _ _ _)
   | (with_reducible exact ih5 _ _ _ _ _)
   | (with_reducible exact ih6 _ _ _ _ _)
   | (with_reducible exact LeO.refl _)
   | (with_reducible exact LeO.none _)
   | (with_reducible refine LeO.ite ?_ ?_)
   | (with_reducible refine LeO.bind ?_ (fun _ => ?_))
   | exact ih0 _ _ _ _
   | exact ih1 _ _ _ _
   | exact ih2 _ _ _ _ _ _ _ _ _ _
   | exact ih3 _ _ _ _ _ _ _ _ _ _
   | exact ih4 _ _ _ _
   | exact ih5 _ _ _ _ _
   | exact ih6 _ _ _ _ _
   | exact LeO.none _
   | refine LeO.ite ?_ ?_
   | refine LeO.bind ?_ (fun _ => ?_)
  ·
   intro y0 y1 y2 y3
   unfold minecontrolref18_Check.l1
   repeat' first
   | (with_reducible exact ih0 _ _ _ _)
   | (with_reducible exact ih1 _ _ _ _)
   | (with_reducible exact ih2 _ _ _ _ _ _ _ _ _ _)
   | (with_reducible exact ih3 _ _ _ _ _ _ _ _ _ _)
   | (with_reducible exact ih4 _ _ _ _)
   | (with_reducible exact ih5 _ _ _ _ _)
   | (with_reducible exact ih6 _ _ _ _ _)
   | (with_reducible exact LeO.refl _)
   | (with_reducible exact LeO.none _)
   | (with_reducible refine LeO.ite ?_ ?_)
   | (with_reducible refine LeO.bind ?_ (fun _ => ?_))
   | exact ih0 _ _ _ _
   | exact ih1 _ _ _ _
   | exact ih2 _ _ _ _ _ _ _ _ _ _
   | exact ih3 _ _ _ _ _ _ _ _ _ _
   | exact ih4 _ _ _ _
   | exact ih5 _ _ _ _ _
   | exact ih6 _ _ _ _ _
   | exact LeO.none _
   | refine LeO.ite ?_ ?_
   | refine LeO.bind ?_ (fun _ => ?_)
  ·
   intro y0 y1 y2 y3 y4
   unfold minecontrolref18_Check.j5
   repeat' first
   | (with_reducible exact ih0 _ _ _ _)
   | (with_reducible exact ih1 _ _ _ _)
   | (with_reducible exact ih2 _ _ _ _ _ _ _ _ _ _)
   | (with_reducible exact ih3 _ _ _ _ _ _ _ _ _ _)
   | (with_reducible exact ih4 _ _ _ _)
   | (with_reducible exact ih5 _ _ _ _ _)
   | (with_reducible exact ih6 _ _ _ _ _)
   | (with_reducible exact LeO.refl _)
   | (with_reducible exact LeO.none _)
   | (with_reducible refine LeO.ite ?_ ?_)
   | (with_reducible refine LeO.bind ?_ (fun _ => ?_))
   | exact ih0 _ _ _ _
   | exact ih1 _ _ _ _
   | exact ih2 _ _ _ _ _ _ _ _ _ _
   | exact ih3 _ _ _ _ _ _ _ _ _ _
   | exact ih4 _ _ _ _
   | exact ih5 _ _ _ _ _
   | exact ih6 _ _ _ _ _
   | exact LeO.none _
   | refine LeO.ite ?_ ?_
   | refine LeO.bind ?_ (fun _ => ?_)
  intro y0 y1 y2 y3 y4
  unfold minecontrolref18_Check.l2
  repeat' first
  | (with_reducible exact ih0 _ _ _ _)
  | (with_reducible exact ih1 _ _ _ _)
  | (with_reducible exact ih2 _ _ _ _ _ _ _ _ _ _)
  | (with_reducible exact ih3 _ _ _ _ _ _ _ _ _ _)
  | (with_reducible exact ih4 _ _ _ _)
  | (with_reducible exact ih5 _ _ _ _ _)
  | (with_reducible exact ih6 _ _ _ _ _)
  | (with_reducible exact LeO.refl _)
  | (with_reducible exact LeO.none _)
  | (with_reducible refine LeO.ite ?_ ?_)
  | (with_reducible refine LeO.bind ?_ (fun _ => ?_))
  | exact ih0 _ _ _ _
  | exact ih1 _ _ _ _
  | exact ih2 _ _ _ _ _ _ _ _ _ _
  | exact ih3 _ _ _ _ _ _ _ _ _ _
  | exact ih4 _ _ _ _
  | exact ih5 _ _ _ _ _
  | exact ih6 _ _ _ _ _
  | exact LeO.none _
  | refine LeO.ite ?_ ?_
  | refine LeO.bind ?_ (fun _ => ?_)
theorem minecontrolref18_Check.mono : ∀ a0 a1 a2 k, LeO (minecontrolref18_Check.f k a0 a1 a2) (minecontrolref18_Check.f (k + 1) a0 a1 a2) := by
 intro a0 a1 a2 k
 obtain ⟨ih0, ih1, ih2, ih3, ih4, ih5, ih6⟩ := minecontrolref18_Check.mono_l k
 unfold minecontrolref18_Check.f
 repeat' first
   | (with_reducible exact ih0 _ _ _ _)
   | (with_reducible exact ih1 _ _ _ _)
   | (with_reducible exact ih2 _ _ _ _ _ _ _ _ _ _)
   | (with_reducible exact ih3 _ _ _ _ _ _ _ _ _ _)
   | (with_reducible exact ih4 _ _ _ _)
   | (with_reducible exact ih5 _ _ _ _ _)
   | (with_reducible exact ih6 _ _ _ _ _)
   | (with_reducible exact LeO.refl _)
   | (with_reducible exact LeO.none _)
   | (with_reducible refine LeO.ite ?_ ?_)
   | (with_reducible refine LeO.bind ?_ (fun _ => ?_))
   | exact ih0 _ _ _ _
   | exact ih1 _ _ _ _
   | exact ih2 _ _ _ _ _ _ _ _ _ _
   | exact ih3 _ _ _ _ _ _ _ _ _ _
   | exact ih4 _ _ _ _
   | exact ih5 _ _ _ _ _
   | exact ih6 _ _ _ _ _
   | exact LeO.none _
   | refine LeO.ite ?_ ?_
   | refine LeO.bind ?_ (fun _ => ?_)
set_option maxHeartbeats 8000000 in
set_option maxRecDepth 100000 in
theorem minecontrolref18_Check.calls (k : Nat) (A0_0 : Option Addr) (c0_0 : Nat) (l0_0 : List (S32)) (A0_1 : Option Addr) (c0_1 : Nat) (l0_1 : List Int) (a0_2 : Int) (r : Int) (w : World) (hr0_0 : Kd.C k32 w A0_0 l0_0.length l0_0) (hc0_0 : l0_0.length ≤ c0_0) (hr0_1 : Kd.C (Kd.int .i64) w A0_1 l0_1.length l0_1) (hc0_1 : l0_1.length ≤ c0_1) (h : minecontrolref18_Check.f k l0_0 l0_1 a0_2 = some r) :
  Calls Try.prog 26 #[.agg #[.slice A0_0 l0_0.length c0_0, .slice A0_1 l0_1.length c0_1, .int .i64 a0_2]] w fun e w' => e = .returned (.int .i64 r) ∧ Below w.heap.size w w' := by
 have hu28 := Try.underlying28
 have hu32 := Try.underlying32
 have HR0_0 := aM hr0_0
 have HC0_0 := aM hc0_0
 clear hr0_0 hc0_0
 have HR0_1 := aM hr0_1
 have HC0_1 := aM hc0_1
 clear hr0_1 hc0_1
 have HB := aM (Below.refl w.heap.size w)
 have H : (if (l0_0.length : Int) > 32 then (minecontrolref18_Check.j0 k true l0_0 l0_1 a0_2) else (minecontrolref18_Check.j0 k (decide ((l0_1.length : Int) > 16)) l0_0 l0_1 a0_2)) = some r := h
 clear h
 have HC2 := aM H
 clear H
 go_enter Try.func26, Try.ntmps26
 go_upto_region 1 with (first | ((with_reducible refine gate_dst (N := 1) rfl ?_); (try (refine gate_guard (by rfl) ?_; dsimp only)); refine box_event ?hg (N := 1) ?hd (cs := #[.slice A0_0 l0_0.length c0_0, .slice A0_1 l0_1.length c0_1, .int .i64 a0_2]) (t := 28) ?hr ?_; (case hd => rfl); (case hg => rfl); (case hr => first | (go_simp; done) | (go_simp; rfl)); intro gb265 hg w3 hbox hb; have BK265 := aM (hbox); have GW265 := aM ((by rw [hg]; exact (below_size (below_mv HB.out)) : w.heap.size ≤ gb265)); have GE265 := aM ((by rw [hg]; exact (below_size (below_mv HB.out)) : w.heap.size ≤ gb265)); replace HB := aM (below_step (below_mv HB.out) hb); clear hb hbox hg))
 repeat (go_quiet (first | ((with_reducible refine gate_dst (N := 1) rfl ?_); (try (refine gate_guard (by rfl) ?_; dsimp only)); refine box_event ?hg (N := 1) ?hd (cs := #[.slice A0_0 l0_0.length c0_0, .slice A0_1 l0_1.length c0_1, .int .i64 a0_2]) (t := 28) ?hr ?_; (case hd => rfl); (case hg => rfl); (case hr => first | (go_simp; done) | (go_simp; rfl)); intro gb265 hg w3 hbox hb; have BK265 := aM (hbox); have GW265 := aM ((by rw [hg]; exact (below_size (below_mv HB.out)) : w.heap.size ≤ gb265)); have GE265 := aM ((by rw [hg]; exact (below_size (below_mv HB.out)) : w.heap.size ≤ gb265)); replace HB := aM (below_step (below_mv HB.out) hb); clear hb hbox hg)); go_upto_region 1 with (first | ((with_reducible refine gate_dst (N := 1) rfl ?_); (try (refine gate_guard (by rfl) ?_; dsimp only)); refine box_event ?hg (N := 1) ?hd (cs := #[.slice A0_0 l0_0.length c0_0, .slice A0_1 l0_1.length c0_1, .int .i64 a0_2]) (t := 28) ?hr ?_; (case hd => rfl); (case hg => rfl); (case hr => first | (go_simp; done) | (go_simp; rfl)); intro gb265 hg w3 hbox hb; have BK265 := aM (hbox); have GW265 := aM ((by rw [hg]; exact (below_size (below_mv HB.out)) : w.heap.size ≤ gb265)); have GE265 := aM ((by rw [hg]; exact (below_size (below_mv HB.out)) : w.heap.size ≤ gb265)); replace HB := aM (below_step (below_mv HB.out) hb); clear hb hbox hg)))
 (try simp only [Act.put, List.setIfInBounds_toArray, List.set_cons_zero, List.set_cons_succ])
 go_cut [16] (fun v16 wc => ∃ (kq : Nat) (x16_1 : Bool), v16 = .bool x16_1 ∧ Aside0 (minecontrolref18_Check.j0 kq x16_1 l0_0 l0_1 a0_2 = some r) ∧ Aside0 (kq ≤ k) ∧ Aside0 (wc.heap[gb265]? = some (.cells #[(.slice A0_0 l0_0.length c0_0), (.slice A0_1 l0_1.length c0_1), .int .i64 a0_2] 28 (0, 0))) ∧ Aside0 (Below w.heap.size w wc))
 case first =>
  have H := HC2.out
  clear HC2
  by_cases c4 : (l0_0.length : Int) > 32
  ·
   rw [if_pos c4] at H
   have c4b0 : decide (32 < (l0_0.length : Int)) = true := decide_eq_true c4
   have c4b1 : decide (32 < l0_0.length) = true := decide_eq_true (by omega)
   clear c4
   (first | rw [c4b0] | (simp only [i64_w, i32_w]; rw [c4b0]) | skip)
   have H' := aM H
   clear H
   obtain ⟨hcz5_0, hcz5_1, hcz5_2, hfz5_0, hfz5_1, hfz5_2⟩ := blk3 BK265.out
   go_wp2
   repeat (go_quiet (fail); try go_wp2)
   go_meet
   case rel => exact ⟨_, (true), (by first | rfl | (simp; done) | (simp [*]; done)), H', ⟨by first | omega | exact Nat.le_refl _⟩, ⟨blk_mv BK265.out⟩, ⟨by repeat (first | (with_reducible first | exact HB.out | apply bA | apply bN | apply bD | refine below_set ?_ GE265.out) | exact HB.out)⟩⟩
  rw [if_neg c4] at H
  have c4b0 : decide (32 < (l0_0.length : Int)) = false := decide_eq_false c4
  have c4b1 : decide (32 < l0_0.length) = false := decide_eq_false (by omega)
  clear c4
  (first | rw [c4b0] | (simp only [i64_w, i32_w]; rw [c4b0]) | skip)
  have H' := aM H
  clear H
  obtain ⟨hcz6_0, hcz6_1, hcz6_2, hfz6_0, hfz6_1, hfz6_2⟩ := blk3 BK265.out
  go_wp2
  repeat (go_quiet (fail); try go_wp2)
  go_meet
  case rel => exact ⟨_, (decide ((l0_1.length : Int) > 16)), (by first | rfl | (simp; done) | (simp [*]; done)), H', ⟨by first | omega | exact Nat.le_refl _⟩, ⟨blk_mv BK265.out⟩, ⟨by repeat (first | (with_reducible first | exact HB.out | apply bA | apply bN | apply bD | refine below_set ?_ GE265.out) | exact HB.out)⟩⟩
 case rest =>
  clear HC2
  obtain ⟨kq, x16_1, rfl, HA, HJ1, BK265, HB⟩ := hcut
  cases kq with
  | zero => exact absurd HA.out (by simp [minecontrolref18_Check.j0])
  | succ kj1 =>
   have H := HA.out
   clear HA
   simp only [minecontrolref18_Check.j0] at H
   by_cases c7 : x16_1 = true
   ·
    subst c7
    have H1 : (some 2) = some r := by rw [if_pos rfl] at H; exact H
    clear H
    have H := H1
    clear H1
    obtain rfl := Option.some.inj H
    go_wp2
    repeat (go_quiet (fail); try go_wp2)
    go_ret
    exact ⟨by first | rfl | (simp [errW_none, errW_some] <;> rfl) | (simp [*, errW_none, errW_some] <;> rfl), by repeat (first | (with_reducible first | exact HB.out | apply bA | apply bN | apply bD | refine below_set ?_ GE265.out) | exact HB.out)⟩
   replace c7 := Bool.eq_false_iff.mpr c7
   subst c7
   have H1 : (minecontrolref18_Check.l0 kj1 0 l0_0 l0_1 a0_2) = some r := by rw [if_neg (show ¬ (false = true) by decide)] at H; exact H
   clear H
   have H := H1
   clear H1
   have H' := aM H
   clear H
   go_wp2
   repeat (go_quiet (fail); try go_wp2)
   go_loopg [3] kj1 (fun kq v3 w' => ∃ (x3_2 : Int), v3 = .int .i64 x3_2 ∧ Aside0 (minecontrolref18_Check.l0 kq x3_2 l0_0 l0_1 a0_2 = some r) ∧ Aside0 (kq ≤ kj1) ∧ Aside0 (w'.heap[gb265]? = some (.cells #[(.slice A0_0 l0_0.length c0_0), (.slice A0_1 l0_1.length c0_1), .int .i64 a0_2] 28 (0, 0))) ∧ Aside0 (Below w.heap.size w w'))
   case atStart => exact ⟨(0), (by first | rfl | (simp; done) | (simp [*]; done)), H', ⟨Nat.le_refl _⟩, ⟨blk_mv BK265.out⟩, ⟨by repeat (first | (with_reducible first | exact HB.out | apply bA | apply bN | apply bD | refine below_set ?_ GE265.out) | exact HB.out)⟩⟩
   case round =>
    clear H'
    obtain ⟨x3_2, rfl, HA, HK2, BK265, HB⟩ := hrel
    cases gk with
    | zero => exact absurd HA.out (by simp [minecontrolref18_Check.l0])
    | succ k2 =>
     have H := HA.out
     clear HA
     simp only [minecontrolref18_Check.l0] at H
     by_cases c8 : x3_2 < (l0_0.length : Int)
     ·
      rw [if_pos c8] at H
      have c8b0 : decide (x3_2 < (l0_0.length : Int)) = true := decide_eq_true c8
      clear c8
      by_cases c9 : 0 ≤ x3_2
      rotate_left
      ·
       rw [if_neg c9] at H
       exact absurd H (by simp)
      rw [if_pos c9] at H
      have c9b0 : decide (0 ≤ x3_2) = true := decide_eq_true c9
      clear c9
      have HC10 := aM H
      clear H
      obtain ⟨hcz11_0, hcz11_1, hcz11_2, hfz11_0, hfz11_1, hfz11_2⟩ := blk3 BK265.out
      have p266 : 0 ≤ (x3_2 : Int) := of_decide_eq_true (by first | (with_reducible assumption) | assumption)
      have q266 : x3_2 < (l0_0.length : Int) := of_decide_eq_true (by first | (with_reducible assumption) | assumption)
      obtain ⟨ad266, e266, hx266_0, hx266_1, hx266_2, hx266_3, hx266_4⟩ := at_T32 HR0_0.out x3_2 p266 q266
      cases e266
      try replace hx266_0 := (HB.out.cell (World.block_lt_of_cell? w _ hx266_0)).trans hx266_0
      try replace hx266_1 := (HB.out.cell (World.block_lt_of_cell? w _ hx266_1)).trans hx266_1
      try replace hx266_2 := (HB.out.cell (World.block_lt_of_cell? w _ hx266_2)).trans hx266_2
      try replace hx266_3 := (HB.out.cell (World.block_lt_of_cell? w _ hx266_3)).trans hx266_3
      try replace hx266_4 := (HB.out.cell (World.block_lt_of_cell? w _ hx266_4)).trans hx266_4
      replace p266 := eq_true p266
      replace q266 := eq_true q266
      go_upto_region 7 with (first | ((with_reducible refine gate_dst (N := 4) rfl ?_); (try (refine gate_guard (by rfl) ?_; dsimp only)); refine box_event ?hg (N := 4) ?hd (cs := #[.int .i64 0, .int .i64 0, .int .i64 0, .bool false, .bool false]) (t := 32) ?hr ?_; (case hd => rfl); (case hg => rfl); (case hr => first | (go_simp; done) | (go_simp; rfl)); intro gb267 hg w12 hbox hb; have BK267 := aM (hbox); have GW267 := aM ((by rw [hg]; exact (below_size (by repeat (first | (with_reducible first | exact HB.out | apply bA | apply bN | apply bD | refine below_set ?_ GE265.out) | exact HB.out))) : w.heap.size ≤ gb267)); have GE267 := aM ((by rw [hg]; exact (below_size (by repeat (first | (with_reducible first | exact HB.out | apply bA | apply bN | apply bD | refine below_set ?_ GE265.out) | exact HB.out))) : w.heap.size ≤ gb267)); replace HB := aM (below_step (by repeat (first | (with_reducible first | exact HB.out | apply bA | apply bN | apply bD | refine below_set ?_ GE265.out) | exact HB.out)) hb); have NB265_267 := aM ((by rw [hg]; exact Nat.ne_of_lt (blk_lt (blk_mv BK265.out)) : gb265 ≠ gb267)); have NB267_265 := aM ((by rw [hg]; exact Nat.ne_of_gt (blk_lt (blk_mv BK265.out)) : gb267 ≠ gb265)); replace BK265 := aM (blk_below (blk_mv BK265.out) hb); clear hb hbox hg; have hnb13 := NB267_265.out; have hnc13 := NB265_267.out; have hcz14_0 : w12.cell? ⟨gb267, 0, none⟩ = some (.int .i64 0) := (blk_cell BK267.out 0).trans rfl; have hcz14_1 : w12.cell? ⟨gb267, 1, none⟩ = some (.int .i64 0) := (blk_cell BK267.out 1).trans rfl; have hcz14_2 : w12.cell? ⟨gb267, 2, none⟩ = some (.int .i64 0) := (blk_cell BK267.out 2).trans rfl; have hcz14_3 : w12.cell? ⟨gb267, 3, none⟩ = some (.bool false) := (blk_cell BK267.out 3).trans rfl; have hcz14_4 : w12.cell? ⟨gb267, 4, none⟩ = some (.bool false) := (blk_cell BK267.out 4).trans rfl; have hfz14_0 := blk_frozen BK267.out 0; have hfz14_1 := blk_frozen BK267.out 1; have hfz14_2 := blk_frozen BK267.out 2; have hfz14_3 := blk_frozen BK267.out 3; have hfz14_4 := blk_frozen BK267.out 4))
      repeat (go_quiet (first | ((with_reducible refine gate_dst (N := 4) rfl ?_); (try (refine gate_guard (by rfl) ?_; dsimp only)); refine box_event ?hg (N := 4) ?hd (cs := #[.int .i64 0, .int .i64 0, .int .i64 0, .bool false, .bool false]) (t := 32) ?hr ?_; (case hd => rfl); (case hg => rfl); (case hr => first | (go_simp; done) | (go_simp; rfl)); intro gb267 hg w12 hbox hb; have BK267 := aM (hbox); have GW267 := aM ((by rw [hg]; exact (below_size (by repeat (first | (with_reducible first | exact HB.out | apply bA | apply bN | apply bD | refine below_set ?_ GE265.out) | exact HB.out))) : w.heap.size ≤ gb267)); have GE267 := aM ((by rw [hg]; exact (below_size (by repeat (first | (with_reducible first | exact HB.out | apply bA | apply bN | apply bD | refine below_set ?_ GE265.out) | exact HB.out))) : w.heap.size ≤ gb267)); replace HB := aM (below_step (by repeat (first | (with_reducible first | exact HB.out | apply bA | apply bN | apply bD | refine below_set ?_ GE265.out) | exact HB.out)) hb); have NB265_267 := aM ((by rw [hg]; exact Nat.ne_of_lt (blk_lt (blk_mv BK265.out)) : gb265 ≠ gb267)); have NB267_265 := aM ((by rw [hg]; exact Nat.ne_of_gt (blk_lt (blk_mv BK265.out)) : gb267 ≠ gb265)); replace BK265 := aM (blk_below (blk_mv BK265.out) hb); clear hb hbox hg; have hnb13 := NB267_265.out; have hnc13 := NB265_267.out; have hcz14_0 : w12.cell? ⟨gb267, 0, none⟩ = some (.int .i64 0) := (blk_cell BK267.out 0).trans rfl; have hcz14_1 : w12.cell? ⟨gb267, 1, none⟩ = some (.int .i64 0) := (blk_cell BK267.out 1).trans rfl; have hcz14_2 : w12.cell? ⟨gb267, 2, none⟩ = some (.int .i64 0) := (blk_cell BK267.out 2).trans rfl; have hcz14_3 : w12.cell? ⟨gb267, 3, none⟩ = some (.bool false) := (blk_cell BK267.out 3).trans rfl; have hcz14_4 : w12.cell? ⟨gb267, 4, none⟩ = some (.bool false) := (blk_cell BK267.out 4).trans rfl; have hfz14_0 := blk_frozen BK267.out 0; have hfz14_1 := blk_frozen BK267.out 1; have hfz14_2 := blk_frozen BK267.out 2; have hfz14_3 := blk_frozen BK267.out 3; have hfz14_4 := blk_frozen BK267.out 4)); go_upto_region 7 with (first | ((with_reducible refine gate_dst (N := 4) rfl ?_); (try (refine gate_guard (by rfl) ?_; dsimp only)); refine box_event ?hg (N := 4) ?hd (cs := #[.int .i64 0, .int .i64 0, .int .i64 0, .bool false, .bool false]) (t := 32) ?hr ?_; (case hd => rfl); (case hg => rfl); (case hr => first | (go_simp; done) | (go_simp; rfl)); intro gb267 hg w12 hbox hb; have BK267 := aM (hbox); have GW267 := aM ((by rw [hg]; exact (below_size (by repeat (first | (with_reducible first | exact HB.out | apply bA | apply bN | apply bD | refine below_set ?_ GE265.out) | exact HB.out))) : w.heap.size ≤ gb267)); have GE267 := aM ((by rw [hg]; exact (below_size (by repeat (first | (with_reducible first | exact HB.out | apply bA | apply bN | apply bD | refine below_set ?_ GE265.out) | exact HB.out))) : w.heap.size ≤ gb267)); replace HB := aM (below_step (by repeat (first | (with_reducible first | exact HB.out | apply bA | apply bN | apply bD | refine below_set ?_ GE265.out) | exact HB.out)) hb); have NB265_267 := aM ((by rw [hg]; exact Nat.ne_of_lt (blk_lt (blk_mv BK265.out)) : gb265 ≠ gb267)); have NB267_265 := aM ((by rw [hg]; exact Nat.ne_of_gt (blk_lt (blk_mv BK265.out)) : gb267 ≠ gb265)); replace BK265 := aM (blk_below (blk_mv BK265.out) hb); clear hb hbox hg; have hnb13 := NB267_265.out; have hnc13 := NB265_267.out; have hcz14_0 : w12.cell? ⟨gb267, 0, none⟩ = some (.int .i64 0) := (blk_cell BK267.out 0).trans rfl; have hcz14_1 : w12.cell? ⟨gb267, 1, none⟩ = some (.int .i64 0) := (blk_cell BK267.out 1).trans rfl; have hcz14_2 : w12.cell? ⟨gb267, 2, none⟩ = some (.int .i64 0) := (blk_cell BK267.out 2).trans rfl; have hcz14_3 : w12.cell? ⟨gb267, 3, none⟩ = some (.bool false) := (blk_cell BK267.out 3).trans rfl; have hcz14_4 : w12.cell? ⟨gb267, 4, none⟩ = some (.bool false) := (blk_cell BK267.out 4).trans rfl; have hfz14_0 := blk_frozen BK267.out 0; have hfz14_1 := blk_frozen BK267.out 1; have hfz14_2 := blk_frozen BK267.out 2; have hfz14_3 := blk_frozen BK267.out 3; have hfz14_4 := blk_frozen BK267.out 4)))
      (try simp only [Act.put, List.setIfInBounds_toArray, List.set_cons_zero, List.set_cons_succ])
      go_cut [37] (fun v37 wc => ∃ (kq : Nat) (x37_9 : Bool), v37 = .bool x37_9 ∧ Aside0 (minecontrolref18_Check.j2 kq x3_2 x37_9 l0_0 l0_1 a0_2 ((rd_T32 l0_0 x3_2).f0) ((rd_T32 l0_0 x3_2).f1) ((rd_T32 l0_0 x3_2).f2) ((rd_T32 l0_0 x3_2).f3) ((rd_T32 l0_0 x3_2).f4) = some r) ∧ Aside0 (kq ≤ k2) ∧ Aside0 (wc.heap[gb265]? = some (.cells #[(.slice (some ad266) l0_0.length c0_0), (.slice A0_1 l0_1.length c0_1), .int .i64 a0_2] 28 (0, 0))) ∧ Aside0 (wc.heap[gb267]? = some (.cells #[.int .i64 ((rd_T32 l0_0 x3_2).f0), .int .i64 ((rd_T32 l0_0 x3_2).f1), .int .i64 ((rd_T32 l0_0 x3_2).f2), .bool ((rd_T32 l0_0 x3_2).f3), .bool ((rd_T32 l0_0 x3_2).f4)] 32 (0, 0))) ∧ Aside0 (Below w.heap.size w wc))
      case first =>
       have H := HC10.out
       clear HC10
       by_cases c15 : ((rd_T32 l0_0 x3_2).f0) < (-1)
       ·
        rw [if_pos c15] at H
        have c15b0 : decide (((rd_T32 l0_0 x3_2).f0) < (-1)) = true := decide_eq_true c15
        clear c15
        (first | rw [c15b0] | (simp only [i64_w, i32_w]; rw [c15b0]) | skip)
        have H' := aM H
        clear H
        have hnb16 := NB267_265.out
        have hnc16 := NB265_267.out
        obtain ⟨hcz17_0, hcz17_1, hcz17_2, hcz17_3, hcz17_4, hfz17_0, hfz17_1, hfz17_2, hfz17_3, hfz17_4⟩ := blk5 BK267.out
        go_wp2
        repeat (go_quiet (fail); try go_wp2)
        go_meet
        case rel => exact ⟨_, (true), (by first | rfl | (simp; done) | (simp [*]; done)), H', ⟨by have := HJ1.out; have := HK2.out; first | omega | exact Nat.le_refl _⟩, ⟨by (with_reducible repeat (first | refine kN ?_ _ | refine kD ?_ | refine kA ?_ _)); refine blk_far ?_ NB265_267.out _; (with_reducible repeat (first | refine kN ?_ _ | refine kD ?_ | refine kA ?_ _)); refine blk_far ?_ NB265_267.out _; (with_reducible repeat (first | refine kN ?_ _ | refine kD ?_ | refine kA ?_ _)); refine blk_far ?_ NB265_267.out _; (with_reducible repeat (first | refine kN ?_ _ | refine kD ?_ | refine kA ?_ _)); refine blk_far ?_ NB265_267.out _; (with_reducible repeat (first | refine kN ?_ _ | refine kD ?_ | refine kA ?_ _)); refine blk_far ?_ NB265_267.out _; (with_reducible repeat (first | refine kN ?_ _ | refine kD ?_ | refine kA ?_ _)); exact BK265.out⟩, ⟨by (with_reducible repeat (first | refine kN ?_ _ | refine kD ?_ | refine kA ?_ _)); refine blk_put (cs := #[.int .i64 ((rd_T32 l0_0 x3_2).f0), .int .i64 ((rd_T32 l0_0 x3_2).f1), .int .i64 ((rd_T32 l0_0 x3_2).f2), .bool ((rd_T32 l0_0 x3_2).f3), .bool false]) ?_ 4 _ rfl; (with_reducible repeat (first | refine kN ?_ _ | refine kD ?_ | refine kA ?_ _)); refine blk_put (cs := #[.int .i64 ((rd_T32 l0_0 x3_2).f0), .int .i64 ((rd_T32 l0_0 x3_2).f1), .int .i64 ((rd_T32 l0_0 x3_2).f2), .bool false, .bool false]) ?_ 3 _ rfl; (with_reducible repeat (first | refine kN ?_ _ | refine kD ?_ | refine kA ?_ _)); refine blk_put (cs := #[.int .i64 ((rd_T32 l0_0 x3_2).f0), .int .i64 ((rd_T32 l0_0 x3_2).f1), .int .i64 0, .bool false, .bool false]) ?_ 2 _ rfl; (with_reducible repeat (first | refine kN ?_ _ | refine kD ?_ | refine kA ?_ _)); refine blk_put (cs := #[.int .i64 ((rd_T32 l0_0 x3_2).f0), .int .i64 0, .int .i64 0, .bool false, .bool false]) ?_ 1 _ rfl; (with_reducible repeat (first | refine kN ?_ _ | refine kD ?_ | refine kA ?_ _)); refine blk_put (cs := #[.int .i64 0, .int .i64 0, .int .i64 0, .bool false, .bool false]) ?_ 0 _ rfl; (with_reducible repeat (first | refine kN ?_ _ | refine kD ?_ | refine kA ?_ _)); exact BK267.out⟩, ⟨by repeat (first | (with_reducible first | exact HB.out | apply bA | apply bN | apply bD | refine below_set ?_ GE265.out | refine below_set ?_ GE267.out) | exact HB.out)⟩⟩
       rw [if_neg c15] at H
       have c15b0 : decide (((rd_T32 l0_0 x3_2).f0) < (-1)) = false := decide_eq_false c15
       clear c15
       (first | rw [c15b0] | (simp only [i64_w, i32_w]; rw [c15b0]) | skip)
       have H' := aM H
       clear H
       have hnb18 := NB267_265.out
       have hnc18 := NB265_267.out
       obtain ⟨hcz19_0, hcz19_1, hcz19_2, hcz19_3, hcz19_4, hfz19_0, hfz19_1, hfz19_2, hfz19_3, hfz19_4⟩ := blk5 BK267.out
       go_wp2
       repeat (go_quiet (fail); try go_wp2)
       go_meet
       case rel => exact ⟨_, (decide (((rd_T32 l0_0 x3_2).f0) ≥ x3_2)), (by first | rfl | (simp; done) | (simp [*]; done)), H', ⟨by have := HJ1.out; have := HK2.out; first | omega | exact Nat.le_refl _⟩, ⟨by (with_reducible repeat (first | refine kN ?_ _ | refine kD ?_ | refine kA ?_ _)); refine blk_far ?_ NB265_267.out _; (with_reducible repeat (first | refine kN ?_ _ | refine kD ?_ | refine kA ?_ _)); refine blk_far ?_ NB265_267.out _; (with_reducible repeat (first | refine kN ?_ _ | refine kD ?_ | refine kA ?_ _)); refine blk_far ?_ NB265_267.out _; (with_reducible repeat (first | refine kN ?_ _ | refine kD ?_ | refine kA ?_ _)); refine blk_far ?_ NB265_267.out _; (with_reducible repeat (first | refine kN ?_ _ | refine kD ?_ | refine kA ?_ _)); refine blk_far ?_ NB265_267.out _; (with_reducible repeat (first | refine kN ?_ _ | refine kD ?_ | refine kA ?_ _)); exact BK265.out⟩, ⟨by (with_reducible repeat (first | refine kN ?_ _ | refine kD ?_ | refine kA ?_ _)); refine blk_put (cs := #[.int .i64 ((rd_T32 l0_0 x3_2).f0), .int .i64 ((rd_T32 l0_0 x3_2).f1), .int .i64 ((rd_T32 l0_0 x3_2).f2), .bool ((rd_T32 l0_0 x3_2).f3), .bool false]) ?_ 4 _ rfl; (with_reducible repeat (first | refine kN ?_ _ | refine kD ?_ | refine kA ?_ _)); refine blk_put (cs := #[.int .i64 ((rd_T32 l0_0 x3_2).f0), .int .i64 ((rd_T32 l0_0 x3_2).f1), .int .i64 ((rd_T32 l0_0 x3_2).f2), .bool false, .bool false]) ?_ 3 _ rfl; (with_reducible repeat (first | refine kN ?_ _ | refine kD ?_ | refine kA ?_ _)); refine blk_put (cs := #[.int .i64 ((rd_T32 l0_0 x3_2).f0), .int .i64 ((rd_T32 l0_0 x3_2).f1), .int .i64 0, .bool false, .bool false]) ?_ 2 _ rfl; (with_reducible repeat (first | refine kN ?_ _ | refine kD ?_ | refine kA ?_ _)); refine blk_put (cs := #[.int .i64 ((rd_T32 l0_0 x3_2).f0), .int .i64 0, .int .i64 0, .bool false, .bool false]) ?_ 1 _ rfl; (with_reducible repeat (first | refine kN ?_ _ | refine kD ?_ | refine kA ?_ _)); refine blk_put (cs := #[.int .i64 0, .int .i64 0, .int .i64 0, .bool false, .bool false]) ?_ 0 _ rfl; (with_reducible repeat (first | refine kN ?_ _ | refine kD ?_ | refine kA ?_ _)); exact BK267.out⟩, ⟨by repeat (first | (with_reducible first | exact HB.out | apply bA | apply bN | apply bD | refine below_set ?_ GE265.out | refine below_set ?_ GE267.out) | exact HB.out)⟩⟩
      case rest =>
       clear HC10
       obtain ⟨kq, x37_9, rfl, HA, HJ9, BK265, BK267, HB⟩ := hcut
       cases kq with
       | zero => exact absurd HA.out (by simp [minecontrolref18_Check.j2])
       | succ kj9 =>
        have H := HA.out
        clear HA
        simp only [minecontrolref18_Check.j2] at H
        by_cases c20 : x37_9 = true
        ·
         subst c20
         have H1 : (some 16) = some r := by rw [if_pos rfl] at H; exact H
         clear H
         have H := H1
         clear H1
         obtain rfl := Option.some.inj H
         go_wp2
         repeat (go_quiet (fail); try go_wp2)
         go_ret
         exact ⟨by first | rfl | (simp [errW_none, errW_some] <;> rfl) | (simp [*, errW_none, errW_some] <;> rfl), by repeat (first | (with_reducible first | exact HB.out | apply bA | apply bN | apply bD | refine below_set ?_ GE265.out | refine below_set ?_ GE267.out) | exact HB.out)⟩
        replace c20 := Bool.eq_false_iff.mpr c20
        subst c20
        have H1 : (if ((rd_T32 l0_0 x3_2).f1) < 0 then (minecontrolref18_Check.j3 kj9 x3_2 true l0_0 l0_1 a0_2 ((rd_T32 l0_0 x3_2).f0) ((rd_T32 l0_0 x3_2).f1) ((rd_T32 l0_0 x3_2).f2) ((rd_T32 l0_0 x3_2).f3) ((rd_T32 l0_0 x3_2).f4)) else (minecontrolref18_Check.j3 kj9 x3_2 (decide (((rd_T32 l0_0 x3_2).f1) > 2147483648)) l0_0 l0_1 a0_2 ((rd_T32 l0_0 x3_2).f0) ((rd_T32 l0_0 x3_2).f1) ((rd_T32 l0_0 x3_2).f2) ((rd_T32 l0_0 x3_2).f3) ((rd_T32 l0_0 x3_2).f4))) = some r := by rw [if_neg (show ¬ (false = true) by decide)] at H; exact H
        clear H
        have H := H1
        clear H1
        have HC21 := aM H
        clear H
        go_upto_region 9 with (fail)
        repeat (go_quiet (fail); go_upto_region 9 with (fail))
        go_cut [45] (fun v45 wc => ∃ (kq : Nat) (x45_20 : Bool), v45 = .bool x45_20 ∧ Aside0 (minecontrolref18_Check.j3 kq x3_2 x45_20 l0_0 l0_1 a0_2 ((rd_T32 l0_0 x3_2).f0) ((rd_T32 l0_0 x3_2).f1) ((rd_T32 l0_0 x3_2).f2) ((rd_T32 l0_0 x3_2).f3) ((rd_T32 l0_0 x3_2).f4) = some r) ∧ Aside0 (kq ≤ kj9) ∧ Aside0 (wc.heap[gb265]? = some (.cells #[(.slice (some ad266) l0_0.length c0_0), (.slice A0_1 l0_1.length c0_1), .int .i64 a0_2] 28 (0, 0))) ∧ Aside0 (wc.heap[gb267]? = some (.cells #[.int .i64 ((rd_T32 l0_0 x3_2).f0), .int .i64 ((rd_T32 l0_0 x3_2).f1), .int .i64 ((rd_T32 l0_0 x3_2).f2), .bool ((rd_T32 l0_0 x3_2).f3), .bool ((rd_T32 l0_0 x3_2).f4)] 32 (0, 0))) ∧ Aside0 (Below w.heap.size w wc))
        case first =>
         have H := HC21.out
         clear HC21
         by_cases c22 : ((rd_T32 l0_0 x3_2).f1) < 0
         ·
          rw [if_pos c22] at H
          have c22b0 : decide (((rd_T32 l0_0 x3_2).f1) < 0) = true := decide_eq_true c22
          clear c22
          (first | rw [c22b0] | (simp only [i64_w, i32_w]; rw [c22b0]) | skip)
          have H' := aM H
          clear H
          have hnb23 := NB267_265.out
          have hnc23 := NB265_267.out
          obtain ⟨hcz24_0, hcz24_1, hcz24_2, hcz24_3, hcz24_4, hfz24_0, hfz24_1, hfz24_2, hfz24_3, hfz24_4⟩ := blk5 BK267.out
          go_wp2
          repeat (go_quiet (fail); try go_wp2)
          go_meet
          case rel => exact ⟨_, (true), (by first | rfl | (simp; done) | (simp [*]; done)), H', ⟨by have := HJ1.out; have := HK2.out; have := HJ9.out; first | omega | exact Nat.le_refl _⟩, ⟨blk_mv BK265.out⟩, ⟨blk_mv BK267.out⟩, ⟨by repeat (first | (with_reducible first | exact HB.out | apply bA | apply bN | apply bD | refine below_set ?_ GE265.out | refine below_set ?_ GE267.out) | exact HB.out)⟩⟩
         rw [if_neg c22] at H
         have c22b0 : decide (((rd_T32 l0_0 x3_2).f1) < 0) = false := decide_eq_false c22
         clear c22
         (first | rw [c22b0] | (simp only [i64_w, i32_w]; rw [c22b0]) | skip)
         have H' := aM H
         clear H
         have hnb25 := NB267_265.out
         have hnc25 := NB265_267.out
         obtain ⟨hcz26_0, hcz26_1, hcz26_2, hcz26_3, hcz26_4, hfz26_0, hfz26_1, hfz26_2, hfz26_3, hfz26_4⟩ := blk5 BK267.out
         go_wp2
         repeat (go_quiet (fail); try go_wp2)
         go_meet
         case rel => exact ⟨_, (decide (((rd_T32 l0_0 x3_2).f1) > 2147483648)), (by first | rfl | (simp; done) | (simp [*]; done)), H', ⟨by have := HJ1.out; have := HK2.out; have := HJ9.out; first | omega | exact Nat.le_refl _⟩, ⟨blk_mv BK265.out⟩, ⟨blk_mv BK267.out⟩, ⟨by repeat (first | (with_reducible first | exact HB.out | apply bA | apply bN | apply bD | refine below_set ?_ GE265.out | refine below_set ?_ GE267.out) | exact HB.out)⟩⟩
        case rest =>
         clear HC21
         obtain ⟨kq, x45_20, rfl, HA, HJ20, BK265, BK267, HB⟩ := hcut
         cases kq with
         | zero => exact absurd HA.out (by simp [minecontrolref18_Check.j3])
         | succ kj20 =>
          have H := HA.out
          clear HA
          simp only [minecontrolref18_Check.j3] at H
          by_cases c27 : x45_20 = true
          ·
           subst c27
           have H1 : (some 8) = some r := by rw [if_pos rfl] at H; exact H
           clear H
           have H := H1
           clear H1
           obtain rfl := Option.some.inj H
           go_wp2
           repeat (go_quiet (fail); try go_wp2)
           go_ret
           exact ⟨by first | rfl | (simp [errW_none, errW_some] <;> rfl) | (simp [*, errW_none, errW_some] <;> rfl), by repeat (first | (with_reducible first | exact HB.out | apply bA | apply bN | apply bD | refine below_set ?_ GE265.out | refine below_set ?_ GE267.out) | exact HB.out)⟩
          replace c27 := Bool.eq_false_iff.mpr c27
          subst c27
          have H1 : (if ((rd_T32 l0_0 x3_2).f2) < (-1) then (some 10) else (if ((rd_T32 l0_0 x3_2).f2) > 1 then (some 10) else (if ((rd_T32 l0_0 x3_2).f4) = true then (if ((rd_T32 l0_0 x3_2).f3) = true then (some 10) else (if ((rd_T32 l0_0 x3_2).f2) = (-1) then (some 10) else (minecontrolref18_Check.l0 kj20 (wrap64 (x3_2 + 1)) l0_0 l0_1 a0_2))) else (minecontrolref18_Check.l0 kj20 (wrap64 (x3_2 + 1)) l0_0 l0_1 a0_2)))) = some r := by rw [if_neg (show ¬ (false = true) by decide)] at H; exact H
          clear H
          have H := H1
          clear H1
          by_cases c28 : ((rd_T32 l0_0 x3_2).f2) < (-1)
          ·
           rw [if_pos c28] at H
           have c28b0 : decide (((rd_T32 l0_0 x3_2).f2) < (-1)) = true := decide_eq_true c28
           clear c28
           obtain rfl := Option.some.inj H
           have hnb29 := NB267_265.out
           have hnc29 := NB265_267.out
           obtain ⟨hcz30_0, hcz30_1, hcz30_2, hcz30_3, hcz30_4, hfz30_0, hfz30_1, hfz30_2, hfz30_3, hfz30_4⟩ := blk5 BK267.out
           go_wp2
           repeat (go_quiet (fail); try go_wp2)
           go_ret
           exact ⟨by first | rfl | (simp [errW_none, errW_some] <;> rfl) | (simp [*, errW_none, errW_some] <;> rfl), by repeat (first | (with_reducible first | exact HB.out | apply bA | apply bN | apply bD | refine below_set ?_ GE265.out | refine below_set ?_ GE267.out) | exact HB.out)⟩
          rw [if_neg c28] at H
          have c28b0 : decide (((rd_T32 l0_0 x3_2).f2) < (-1)) = false := decide_eq_false c28
          clear c28
          by_cases c31 : ((rd_T32 l0_0 x3_2).f2) > 1
          ·
           rw [if_pos c31] at H
           have c31b0 : decide (1 < ((rd_T32 l0_0 x3_2).f2)) = true := decide_eq_true c31
           clear c31
           obtain rfl := Option.some.inj H
           have hnb32 := NB267_265.out
           have hnc32 := NB265_267.out
           obtain ⟨hcz33_0, hcz33_1, hcz33_2, hcz33_3, hcz33_4, hfz33_0, hfz33_1, hfz33_2, hfz33_3, hfz33_4⟩ := blk5 BK267.out
           go_wp2
           repeat (go_quiet (fail); try go_wp2)
           go_ret
           exact ⟨by first | rfl | (simp [errW_none, errW_some] <;> rfl) | (simp [*, errW_none, errW_some] <;> rfl), by repeat (first | (with_reducible first | exact HB.out | apply bA | apply bN | apply bD | refine below_set ?_ GE265.out | refine below_set ?_ GE267.out) | exact HB.out)⟩
          rw [if_neg c31] at H
          have c31b0 : decide (1 < ((rd_T32 l0_0 x3_2).f2)) = false := decide_eq_false c31
          clear c31
          by_cases c34 : ((rd_T32 l0_0 x3_2).f4) = true
          ·
           rw [if_pos c34] at H
           have c34b0 : ((rd_T32 l0_0 x3_2).f4) = true := c34
           clear c34
           by_cases c35 : ((rd_T32 l0_0 x3_2).f3) = true
           ·
            rw [if_pos c35] at H
            have c35b0 : ((rd_T32 l0_0 x3_2).f3) = true := c35
            clear c35
            obtain rfl := Option.some.inj H
            have hnb36 := NB267_265.out
            have hnc36 := NB265_267.out
            obtain ⟨hcz37_0, hcz37_1, hcz37_2, hcz37_3, hcz37_4, hfz37_0, hfz37_1, hfz37_2, hfz37_3, hfz37_4⟩ := blk5 BK267.out
            go_wp2
            repeat (go_quiet (fail); try go_wp2)
            go_ret
            exact ⟨by first | rfl | (simp [errW_none, errW_some] <;> rfl) | (simp [*, errW_none, errW_some] <;> rfl), by repeat (first | (with_reducible first | exact HB.out | apply bA | apply bN | apply bD | refine below_set ?_ GE265.out | refine below_set ?_ GE267.out) | exact HB.out)⟩
           rw [if_neg c35] at H
           have c35b0 : ((rd_T32 l0_0 x3_2).f3) = false := by simpa using c35
           clear c35
           by_cases c38 : ((rd_T32 l0_0 x3_2).f2) = (-1)
           ·
            rw [if_pos c38] at H
            have c38b0 : (((rd_T32 l0_0 x3_2).f2) == (-1)) = true := beq_iff_eq.mpr c38
            have c38b1 : (((rd_T32 l0_0 x3_2).f2) != (-1)) = false := bne_eq_false_iff_eq.mpr c38
            clear c38
            obtain rfl := Option.some.inj H
            have hnb39 := NB267_265.out
            have hnc39 := NB265_267.out
            obtain ⟨hcz40_0, hcz40_1, hcz40_2, hcz40_3, hcz40_4, hfz40_0, hfz40_1, hfz40_2, hfz40_3, hfz40_4⟩ := blk5 BK267.out
            go_wp2
            repeat (go_quiet (fail); try go_wp2)
            go_ret
            exact ⟨by first | rfl | (simp [errW_none, errW_some] <;> rfl) | (simp [*, errW_none, errW_some] <;> rfl), by repeat (first | (with_reducible first | exact HB.out | apply bA | apply bN | apply bD | refine below_set ?_ GE265.out | refine below_set ?_ GE267.out) | exact HB.out)⟩
           rw [if_neg c38] at H
           have c38b0 : (((rd_T32 l0_0 x3_2).f2) == (-1)) = false := beq_eq_false_iff_ne.mpr c38
           have c38b1 : (((rd_T32 l0_0 x3_2).f2) != (-1)) = true := bne_iff_ne.mpr c38
           have H' := aM H
           clear H
           have hnb41 := NB267_265.out
           have hnc41 := NB265_267.out
           obtain ⟨hcz42_0, hcz42_1, hcz42_2, hcz42_3, hcz42_4, hfz42_0, hfz42_1, hfz42_2, hfz42_3, hfz42_4⟩ := blk5 BK267.out
           go_wp2
           repeat (go_quiet (fail); try go_wp2)
           go_roundg kj20
           case measure => have := HJ1.out; have := HK2.out; have := HJ9.out; have := HJ20.out; omega
           case rel => exact ⟨(wrap64 (x3_2 + 1)), (by first | rfl | (simp; done) | (simp [*]; done)), H', ⟨by have := HJ1.out; have := HK2.out; have := HJ9.out; have := HJ20.out; omega⟩, ⟨blk_mv BK265.out⟩, ⟨by repeat (first | (with_reducible first | exact HB.out | apply bA | apply bN | apply bD | refine below_set ?_ GE265.out | refine below_set ?_ GE267.out) | exact HB.out)⟩⟩
          rw [if_neg c34] at H
          have c34b0 : ((rd_T32 l0_0 x3_2).f4) = false := by simpa using c34
          clear c34
          have H' := aM H
          clear H
          have hnb43 := NB267_265.out
          have hnc43 := NB265_267.out
          obtain ⟨hcz44_0, hcz44_1, hcz44_2, hcz44_3, hcz44_4, hfz44_0, hfz44_1, hfz44_2, hfz44_3, hfz44_4⟩ := blk5 BK267.out
          go_wp2
          repeat (go_quiet (fail); try go_wp2)
          go_roundg kj20
          case measure => have := HJ1.out; have := HK2.out; have := HJ9.out; have := HJ20.out; omega
          case rel => exact ⟨(wrap64 (x3_2 + 1)), (by first | rfl | (simp; done) | (simp [*]; done)), H', ⟨by have := HJ1.out; have := HK2.out; have := HJ9.out; have := HJ20.out; omega⟩, ⟨blk_mv BK265.out⟩, ⟨by repeat (first | (with_reducible first | exact HB.out | apply bA | apply bN | apply bD | refine below_set ?_ GE265.out | refine below_set ?_ GE267.out) | exact HB.out)⟩⟩
     rw [if_neg c8] at H
     have c8b0 : decide (x3_2 < (l0_0.length : Int)) = false := decide_eq_false c8
     clear c8
     have H' := aM H
     clear H
     obtain ⟨hcz45_0, hcz45_1, hcz45_2, hfz45_0, hfz45_1, hfz45_2⟩ := blk3 BK265.out
     go_wp2
     repeat (go_quiet (fail); try go_wp2)
     go_loopg [5] k2 (fun kq v5 w' => ∃ (x5_3 : Int), v5 = .int .i64 x5_3 ∧ Aside0 (minecontrolref18_Check.l1 kq x5_3 l0_0 l0_1 a0_2 = some r) ∧ Aside0 (kq ≤ k2) ∧ Aside0 (w'.heap[gb265]? = some (.cells #[(.slice A0_0 l0_0.length c0_0), (.slice A0_1 l0_1.length c0_1), .int .i64 a0_2] 28 (0, 0))) ∧ Aside0 (Below w.heap.size w w'))
     case atStart => exact ⟨(0), (by first | rfl | (simp; done) | (simp [*]; done)), H', ⟨Nat.le_refl _⟩, ⟨blk_mv BK265.out⟩, ⟨by repeat (first | (with_reducible first | exact HB.out | apply bA | apply bN | apply bD | refine below_set ?_ GE265.out) | exact HB.out)⟩⟩
     case round =>
      clear H'
      obtain ⟨x5_3, rfl, HA, HK3, BK265, HB⟩ := hrel
      cases gk with
      | zero => exact absurd HA.out (by simp [minecontrolref18_Check.l1])
      | succ k3 =>
       have H := HA.out
       clear HA
       simp only [minecontrolref18_Check.l1] at H
       by_cases c46 : x5_3 < (l0_1.length : Int)
       ·
        rw [if_pos c46] at H
        have c46b0 : decide (x5_3 < (l0_1.length : Int)) = true := decide_eq_true c46
        clear c46
        have HC47 := aM H
        clear H
        obtain ⟨hcz48_0, hcz48_1, hcz48_2, hfz48_0, hfz48_1, hfz48_2⟩ := blk3 BK265.out
        go_upto_region 16 with (fail)
        repeat (go_quiet (fail); go_upto_region 16 with (fail))
        go_cut [90] (fun v90 wc => ∃ (kq : Nat) (x90_46 : Bool), v90 = .bool x90_46 ∧ Aside0 (minecontrolref18_Check.j5 kq x5_3 x90_46 l0_0 l0_1 a0_2 = some r) ∧ Aside0 (kq ≤ k3) ∧ Aside0 (wc.heap[gb265]? = some (.cells #[(.slice A0_0 l0_0.length c0_0), (.slice A0_1 l0_1.length c0_1), .int .i64 a0_2] 28 (0, 0))) ∧ Aside0 (Below w.heap.size w wc))
        case first =>
         have H := HC47.out
         clear HC47
         by_cases c49 : 0 ≤ x5_3
         rotate_left
         ·
          rw [if_neg c49] at H
          exact absurd H (by simp)
         rw [if_pos c49] at H
         have c49b0 : decide (0 ≤ x5_3) = true := decide_eq_true c49
         clear c49
         (first | rw [c49b0] | (simp only [i64_w, i32_w]; rw [c49b0]) | skip)
         by_cases c50 : (rd l0_1 x5_3) < 0
         ·
          rw [if_pos c50] at H
          have c50b0 : decide ((rd l0_1 x5_3) < 0) = true := decide_eq_true c50
          clear c50
          have H' := aM H
          clear H
          obtain ⟨hcz51_0, hcz51_1, hcz51_2, hfz51_0, hfz51_1, hfz51_2⟩ := blk3 BK265.out
          have p268 : 0 ≤ (x5_3 : Int) := of_decide_eq_true (by first | (with_reducible assumption) | assumption)
          have q268 : x5_3 < (l0_1.length : Int) := of_decide_eq_true (by first | (with_reducible assumption) | assumption)
          obtain ⟨ad268, e268, hx268_0⟩ := Kd.at_int HR0_1.out x5_3 p268 q268
          cases e268
          try replace hx268_0 := (HB.out.cell (World.block_lt_of_cell? w _ hx268_0)).trans hx268_0
          replace p268 := eq_true p268
          replace q268 := eq_true q268
          go_wp2
          repeat (go_quiet (fail); try go_wp2)
          go_meet
          case rel => exact ⟨_, (true), (by first | rfl | (simp; done) | (simp [*]; done)), H', ⟨by have := HJ1.out; have := HK2.out; have := HK3.out; first | omega | exact Nat.le_refl _⟩, ⟨blk_mv BK265.out⟩, ⟨by repeat (first | (with_reducible first | exact HB.out | apply bA | apply bN | apply bD | refine below_set ?_ GE265.out) | exact HB.out)⟩⟩
         rw [if_neg c50] at H
         have c50b0 : decide ((rd l0_1 x5_3) < 0) = false := decide_eq_false c50
         clear c50
         have H' := aM H
         clear H
         obtain ⟨hcz52_0, hcz52_1, hcz52_2, hfz52_0, hfz52_1, hfz52_2⟩ := blk3 BK265.out
         have p268 : 0 ≤ (x5_3 : Int) := of_decide_eq_true (by first | (with_reducible assumption) | assumption)
         have q268 : x5_3 < (l0_1.length : Int) := of_decide_eq_true (by first | (with_reducible assumption) | assumption)
         obtain ⟨ad268, e268, hx268_0⟩ := Kd.at_int HR0_1.out x5_3 p268 q268
         cases e268
         try replace hx268_0 := (HB.out.cell (World.block_lt_of_cell? w _ hx268_0)).trans hx268_0
         replace p268 := eq_true p268
         replace q268 := eq_true q268
         have p269 : 0 ≤ (x5_3 : Int) := of_decide_eq_true (by first | (with_reducible assumption) | assumption)
         have q269 : x5_3 < (l0_1.length : Int) := of_decide_eq_true (by first | (with_reducible assumption) | assumption)
         obtain ⟨ad269, e269, hx269_0⟩ := Kd.at_int HR0_1.out x5_3 p269 q269
         obtain rfl : ad268 = ad269 := (by injection e269)
         try replace hx269_0 := (HB.out.cell (World.block_lt_of_cell? w _ hx269_0)).trans hx269_0
         replace p269 := eq_true p269
         replace q269 := eq_true q269
         go_wp2
         repeat (go_quiet (fail); try go_wp2)
         go_meet
         case rel => exact ⟨_, (decide ((rd l0_1 x5_3) ≥ (l0_0.length : Int))), (by first | rfl | (simp; done) | (simp [*]; done)), H', ⟨by have := HJ1.out; have := HK2.out; have := HK3.out; first | omega | exact Nat.le_refl _⟩, ⟨blk_mv BK265.out⟩, ⟨by repeat (first | (with_reducible first | exact HB.out | apply bA | apply bN | apply bD | refine below_set ?_ GE265.out) | exact HB.out)⟩⟩
        case rest =>
         clear HC47
         obtain ⟨kq, x90_46, rfl, HA, HJ46, BK265, HB⟩ := hcut
         cases kq with
         | zero => exact absurd HA.out (by simp [minecontrolref18_Check.j5])
         | succ kj46 =>
          have H := HA.out
          clear HA
          simp only [minecontrolref18_Check.j5] at H
          by_cases c53 : x90_46 = true
          ·
           subst c53
           have H1 : (some 16) = some r := by rw [if_pos rfl] at H; exact H
           clear H
           have H := H1
           clear H1
           obtain rfl := Option.some.inj H
           go_wp2
           repeat (go_quiet (fail); try go_wp2)
           go_ret
           exact ⟨by first | rfl | (simp [errW_none, errW_some] <;> rfl) | (simp [*, errW_none, errW_some] <;> rfl), by repeat (first | (with_reducible first | exact HB.out | apply bA | apply bN | apply bD | refine below_set ?_ GE265.out) | exact HB.out)⟩
          replace c53 := Bool.eq_false_iff.mpr c53
          subst c53
          have H1 : (minecontrolref18_Check.l2 kj46 x5_3 0 l0_0 l0_1 a0_2) = some r := by rw [if_neg (show ¬ (false = true) by decide)] at H; exact H
          clear H
          have H := H1
          clear H1
          have H' := aM H
          clear H
          go_wp2
          repeat (go_quiet (fail); try go_wp2)
          go_loopg [6] kj46 (fun kq v6 w' => ∃ (x6_5 : Int), v6 = .int .i64 x6_5 ∧ Aside0 (minecontrolref18_Check.l2 kq x5_3 x6_5 l0_0 l0_1 a0_2 = some r) ∧ Aside0 (kq ≤ kj46) ∧ Aside0 (w'.heap[gb265]? = some (.cells #[(.slice A0_0 l0_0.length c0_0), (.slice A0_1 l0_1.length c0_1), .int .i64 a0_2] 28 (0, 0))) ∧ Aside0 (Below w.heap.size w w'))
          case atStart => exact ⟨(0), (by first | rfl | (simp; done) | (simp [*]; done)), H', ⟨Nat.le_refl _⟩, ⟨blk_mv BK265.out⟩, ⟨by repeat (first | (with_reducible first | exact HB.out | apply bA | apply bN | apply bD | refine below_set ?_ GE265.out) | exact HB.out)⟩⟩
          case round =>
           clear H'
           obtain ⟨x6_5, rfl, HA, HK5, BK265, HB⟩ := hrel
           cases gk with
           | zero => exact absurd HA.out (by simp [minecontrolref18_Check.l2])
           | succ k5 =>
            have H := HA.out
            clear HA
            simp only [minecontrolref18_Check.l2] at H
            by_cases c54 : x6_5 < x5_3
            ·
             rw [if_pos c54] at H
             have c54b0 : decide (x6_5 < x5_3) = true := decide_eq_true c54
             clear c54
             by_cases c55 : 0 ≤ x6_5
             rotate_left
             ·
              rw [if_neg c55] at H
              exact absurd H (by simp)
             rw [if_pos c55] at H
             have c55b0 : decide (0 ≤ x6_5) = true := decide_eq_true c55
             clear c55
             by_cases c56 : x6_5 < (l0_1.length : Int)
             rotate_left
             ·
              rw [if_neg c56] at H
              exact absurd H (by simp)
             rw [if_pos c56] at H
             have c56b0 : decide (x6_5 < (l0_1.length : Int)) = true := decide_eq_true c56
             clear c56
             by_cases c57 : 0 ≤ x5_3
             rotate_left
             ·
              rw [if_neg c57] at H
              exact absurd H (by simp)
             rw [if_pos c57] at H
             have c57b0 : decide (0 ≤ x5_3) = true := decide_eq_true c57
             clear c57
             by_cases c58 : x5_3 < (l0_1.length : Int)
             rotate_left
             ·
              rw [if_neg c58] at H
              exact absurd H (by simp)
             rw [if_pos c58] at H
             have c58b0 : decide (x5_3 < (l0_1.length : Int)) = true := decide_eq_true c58
             clear c58
             by_cases c59 : (rd l0_1 x6_5) = (rd l0_1 x5_3)
             ·
              rw [if_pos c59] at H
              have c59b0 : ((rd l0_1 x6_5) == (rd l0_1 x5_3)) = true := beq_iff_eq.mpr c59
              have c59b1 : ((rd l0_1 x6_5) != (rd l0_1 x5_3)) = false := bne_eq_false_iff_eq.mpr c59
              clear c59
              obtain rfl := Option.some.inj H
              obtain ⟨hcz60_0, hcz60_1, hcz60_2, hfz60_0, hfz60_1, hfz60_2⟩ := blk3 BK265.out
              have p270 : 0 ≤ (x6_5 : Int) := of_decide_eq_true (by first | (with_reducible assumption) | assumption)
              have q270 : x6_5 < (l0_1.length : Int) := of_decide_eq_true (by first | (with_reducible assumption) | assumption)
              obtain ⟨ad270, e270, hx270_0⟩ := Kd.at_int HR0_1.out x6_5 p270 q270
              cases e270
              try replace hx270_0 := (HB.out.cell (World.block_lt_of_cell? w _ hx270_0)).trans hx270_0
              replace p270 := eq_true p270
              replace q270 := eq_true q270
              have p271 : 0 ≤ (x5_3 : Int) := of_decide_eq_true (by first | (with_reducible assumption) | assumption)
              have q271 : x5_3 < (l0_1.length : Int) := of_decide_eq_true (by first | (with_reducible assumption) | assumption)
              obtain ⟨ad271, e271, hx271_0⟩ := Kd.at_int HR0_1.out x5_3 p271 q271
              obtain rfl : ad270 = ad271 := (by injection e271)
              try replace hx271_0 := (HB.out.cell (World.block_lt_of_cell? w _ hx271_0)).trans hx271_0
              replace p271 := eq_true p271
              replace q271 := eq_true q271
              go_wp2
              repeat (go_quiet (fail); try go_wp2)
              go_ret
              exact ⟨by first | rfl | (simp [errW_none, errW_some] <;> rfl) | (simp [*, errW_none, errW_some] <;> rfl), by repeat (first | (with_reducible first | exact HB.out | apply bA | apply bN | apply bD | refine below_set ?_ GE265.out) | exact HB.out)⟩
             rw [if_neg c59] at H
             have c59b0 : ((rd l0_1 x6_5) == (rd l0_1 x5_3)) = false := beq_eq_false_iff_ne.mpr c59
             have c59b1 : ((rd l0_1 x6_5) != (rd l0_1 x5_3)) = true := bne_iff_ne.mpr c59
             have H' := aM H
             clear H
             obtain ⟨hcz61_0, hcz61_1, hcz61_2, hfz61_0, hfz61_1, hfz61_2⟩ := blk3 BK265.out
             have p270 : 0 ≤ (x6_5 : Int) := of_decide_eq_true (by first | (with_reducible assumption) | assumption)
             have q270 : x6_5 < (l0_1.length : Int) := of_decide_eq_true (by first | (with_reducible assumption) | assumption)
             obtain ⟨ad270, e270, hx270_0⟩ := Kd.at_int HR0_1.out x6_5 p270 q270
             cases e270
             try replace hx270_0 := (HB.out.cell (World.block_lt_of_cell? w _ hx270_0)).trans hx270_0
             replace p270 := eq_true p270
             replace q270 := eq_true q270
             have p271 : 0 ≤ (x5_3 : Int) := of_decide_eq_true (by first | (with_reducible assumption) | assumption)
             have q271 : x5_3 < (l0_1.length : Int) := of_decide_eq_true (by first | (with_reducible assumption) | assumption)
             obtain ⟨ad271, e271, hx271_0⟩ := Kd.at_int HR0_1.out x5_3 p271 q271
             obtain rfl : ad270 = ad271 := (by injection e271)
             try replace hx271_0 := (HB.out.cell (World.block_lt_of_cell? w _ hx271_0)).trans hx271_0
             replace p271 := eq_true p271
             replace q271 := eq_true q271
             go_wp2
             repeat (go_quiet (fail); try go_wp2)
             go_roundg k5
             case measure => have := HJ1.out; have := HK2.out; have := HK3.out; have := HJ46.out; have := HK5.out; omega
             case rel => exact ⟨(wrap64 (x6_5 + 1)), (by first | rfl | (simp; done) | (simp [*]; done)), H', ⟨by have := HJ1.out; have := HK2.out; have := HK3.out; have := HJ46.out; have := HK5.out; omega⟩, ⟨blk_mv BK265.out⟩, ⟨by repeat (first | (with_reducible first | exact HB.out | apply bA | apply bN | apply bD | refine below_set ?_ GE265.out) | exact HB.out)⟩⟩
            rw [if_neg c54] at H
            have c54b0 : decide (x6_5 < x5_3) = false := decide_eq_false c54
            clear c54
            have H' := aM H
            clear H
            go_wp2
            repeat (go_quiet (fail); try go_wp2)
            go_roundg k5
            case measure => have := HJ1.out; have := HK2.out; have := HK3.out; have := HJ46.out; have := HK5.out; omega
            case rel => exact ⟨(wrap64 (x5_3 + 1)), (by first | rfl | (simp; done) | (simp [*]; done)), H', ⟨by have := HJ1.out; have := HK2.out; have := HK3.out; have := HJ46.out; have := HK5.out; omega⟩, ⟨blk_mv BK265.out⟩, ⟨by repeat (first | (with_reducible first | exact HB.out | apply bA | apply bN | apply bD | refine below_set ?_ GE265.out) | exact HB.out)⟩⟩
       rw [if_neg c46] at H
       have c46b0 : decide (x5_3 < (l0_1.length : Int)) = false := decide_eq_false c46
       clear c46
       by_cases c62 : a0_2 < 1
       ·
        rw [if_pos c62] at H
        have c62b0 : decide (a0_2 < 1) = true := decide_eq_true c62
        clear c62
        obtain rfl := Option.some.inj H
        obtain ⟨hcz63_0, hcz63_1, hcz63_2, hfz63_0, hfz63_1, hfz63_2⟩ := blk3 BK265.out
        go_wp2
        repeat (go_quiet (fail); try go_wp2)
        go_ret
        exact ⟨by first | rfl | (simp [errW_none, errW_some] <;> rfl) | (simp [*, errW_none, errW_some] <;> rfl), by repeat (first | (with_reducible first | exact HB.out | apply bA | apply bN | apply bD | refine below_set ?_ GE265.out) | exact HB.out)⟩
       rw [if_neg c62] at H
       have c62b0 : decide (a0_2 < 1) = false := decide_eq_false c62
       clear c62
       by_cases c64 : a0_2 > 100000
       ·
        rw [if_pos c64] at H
        have c64b0 : decide (100000 < a0_2) = true := decide_eq_true c64
        clear c64
        obtain rfl := Option.some.inj H
        obtain ⟨hcz65_0, hcz65_1, hcz65_2, hfz65_0, hfz65_1, hfz65_2⟩ := blk3 BK265.out
        go_wp2
        repeat (go_quiet (fail); try go_wp2)
        go_ret
        exact ⟨by first | rfl | (simp [errW_none, errW_some] <;> rfl) | (simp [*, errW_none, errW_some] <;> rfl), by repeat (first | (with_reducible first | exact HB.out | apply bA | apply bN | apply bD | refine below_set ?_ GE265.out) | exact HB.out)⟩
       rw [if_neg c64] at H
       have c64b0 : decide (100000 < a0_2) = false := decide_eq_false c64
       clear c64
       obtain rfl := Option.some.inj H
       obtain ⟨hcz66_0, hcz66_1, hcz66_2, hfz66_0, hfz66_1, hfz66_2⟩ := blk3 BK265.out
       go_wp2
       repeat (go_quiet (fail); try go_wp2)
       go_ret
       exact ⟨by first | rfl | (simp [errW_none, errW_some] <;> rfl) | (simp [*, errW_none, errW_some] <;> rfl), by repeat (first | (with_reducible first | exact HB.out | apply bA | apply bN | apply bD | refine below_set ?_ GE265.out) | exact HB.out)⟩

end Go.Proofs.Ytcgeflbifbaecaa.PFet
