/- Functions of the given program as Lean functions, and proofs that its calls come to what these say. Written by a program of this seat (wip/mkprint.py); Lean checks it all. -/
import Derived.Test.YtcgeflbifbaecaaPFecx0
namespace Go.Proofs.Ytcgeflbifbaecaa.PFec
open Go.RowKit Go.Proofs.YtcgeflbifbaecaaW.PrintWords Go.Proofs.YtcgeflbifbaecaaW.PrintLast Go.Proofs.YtcgeflbifbaecaaW.PrintMore
attribute [local go_sem] max2_int min2_int max_two min_two max_three min_three max_four min_four   -- for this text's walks alone
set_option linter.unusedVariables false
set_option linter.unusedSimpArgs false

/-! ### minecontrolref18_Check: function 26 -/
mutual
def minecontrolref18_Check.j0 : Nat → Bool → List (S32) → List Int → Int → Option (Int)
 | 0, _, _, _, _ => none
 | k + 1, x16, x284000, x284001, x284002 => if x16 = true then (some 2) else (minecontrolref18_Check.l0 k 0 x284000 x284001 x284002)
def minecontrolref18_Check.l0 : Nat → Int → List (S32) → List Int → Int → Option (Int)
 | 0, _, _, _, _ => none
 | k + 1, x3, x284000, x284001, x284002 => if x3 < (x284000.length : Int) then (if 0 ≤ x3 then (if ((rd_T32 x284000 x3).f0) < (-1) then (minecontrolref18_Check.j2 k x3 true x284000 x284001 x284002 ((rd_T32 x284000 x3).f0) ((rd_T32 x284000 x3).f1) ((rd_T32 x284000 x3).f2) ((rd_T32 x284000 x3).f3) ((rd_T32 x284000 x3).f4)) else (minecontrolref18_Check.j2 k x3 (decide (((rd_T32 x284000 x3).f0) ≥ x3)) x284000 x284001 x284002 ((rd_T32 x284000 x3).f0) ((rd_T32 x284000 x3).f1) ((rd_T32 x284000 x3).f2) ((rd_T32 x284000 x3).f3) ((rd_T32 x284000 x3).f4))) else (none)) else (minecontrolref18_Check.l1 k 0 x284000 x284001 x284002)
def minecontrolref18_Check.j2 : Nat → Int → Bool → List (S32) → List Int → Int → Int → Int → Int → Bool → Bool → Option (Int)
 | 0, _, _, _, _, _, _, _, _, _, _ => none
 | k + 1, x3, x37, x284000, x284001, x284002, x286000, x286001, x286002, x286003, x286004 => if x37 = true then (some 16) else (if x286001 < 0 then (minecontrolref18_Check.j3 k x3 true x284000 x284001 x284002 x286000 x286001 x286002 x286003 x286004) else (minecontrolref18_Check.j3 k x3 (decide (x286001 > 2147483648)) x284000 x284001 x284002 x286000 x286001 x286002 x286003 x286004))
def minecontrolref18_Check.j3 : Nat → Int → Bool → List (S32) → List Int → Int → Int → Int → Int → Bool → Bool → Option (Int)
 | 0, _, _, _, _, _, _, _, _, _, _ => none
 | k + 1, x3, x45, x284000, x284001, x284002, x286000, x286001, x286002, x286003, x286004 => if x45 = true then (some 8) else (if x286002 < (-1) then (some 10) else (if x286002 > 1 then (some 10) else (if x286004 = true then (if x286003 = true then (some 10) else (if x286002 = (-1) then (some 10) else (minecontrolref18_Check.l0 k (wrap64 (x3 + 1)) x284000 x284001 x284002))) else (minecontrolref18_Check.l0 k (wrap64 (x3 + 1)) x284000 x284001 x284002))))
def minecontrolref18_Check.l1 : Nat → Int → List (S32) → List Int → Int → Option (Int)
 | 0, _, _, _, _ => none
 | k + 1, x5, x284000, x284001, x284002 => if x5 < (x284001.length : Int) then (if 0 ≤ x5 then (if (rd x284001 x5) < 0 then (minecontrolref18_Check.j5 k x5 true x284000 x284001 x284002) else (minecontrolref18_Check.j5 k x5 (decide ((rd x284001 x5) ≥ (x284000.length : Int))) x284000 x284001 x284002)) else (none)) else (if x284002 < 1 then (some 1) else (if x284002 > 100000 then (some 1) else (some 0)))
def minecontrolref18_Check.j5 : Nat → Int → Bool → List (S32) → List Int → Int → Option (Int)
 | 0, _, _, _, _, _ => none
 | k + 1, x5, x90, x284000, x284001, x284002 => if x90 = true then (some 16) else (minecontrolref18_Check.l2 k x5 0 x284000 x284001 x284002)
def minecontrolref18_Check.l2 : Nat → Int → Int → List (S32) → List Int → Int → Option (Int)
 | 0, _, _, _, _, _ => none
 | k + 1, x5, x6, x284000, x284001, x284002 => if x6 < x5 then (if 0 ≤ x6 then (if x6 < (x284001.length : Int) then (if 0 ≤ x5 then (if x5 < (x284001.length : Int) then (if (rd x284001 x6) = (rd x284001 x5) then (some 17) else (minecontrolref18_Check.l2 k x5 (wrap64 (x6 + 1)) x284000 x284001 x284002)) else (none)) else (none)) else (none)) else (none)) else (minecontrolref18_Check.l1 k (wrap64 (x5 + 1)) x284000 x284001 x284002)
end
def minecontrolref18_Check.f (k : Nat) (l0_0 : List (S32)) (l0_1 : List Int) (a0_2 : Int) : Option (Int) := if (l0_0.length : Int) > 32 then (minecontrolref18_Check.j0 k true l0_0 l0_1 a0_2) else (minecontrolref18_Check.j0 k (decide ((l0_1.length : Int) > 16)) l0_0 l0_1 a0_2)
theorem minecontrolref18_Check.mono_l : ∀ k, (∀ y0 y1 y2 y3, LeO (minecontrolref18_Check.j0 k y0 y1 y2 y3) (minecontrolref18_Check.j0 (k + 1) y0 y1 y2 y3)) ∧ (∀ y0 y1 y2 y3, LeO (minecontrolref18_Check.l0 k y0 y1 y2 y3) (minecontrolref18_Check.l0 (k + 1) y0 y1 y2 y3)) ∧ (∀ y0 y1 y2 y3 y4 y5 y6 y7 y8 y9, LeO (minecontrolref18_Check.j2 k y0 y1 y2 y3 y4 y5 y6 y7 y8 y9) (minecontrolref18_Check.j2 (k + 1) y0 y1 y2 y3 y4 y5 y6 y7 y8 y9)) ∧ (∀ y0 y1 y2 y3 y4 y5 y6 y7 y8 y9, LeO (minecontrolref18_Check.j3 k y0 y1 y2 y3 y4 y5 y6 y7 y8 y9) (minecontrolref18_Check.j3 (k + 1) y0 y1 y2 y3 y4 y5 y6 y7 y8 y9)) ∧ (∀ y0 y1 y2 y3, LeO (minecontrolref18_Check.l1 k y0 y1 y2 y3) (minecontrolref18_Check.l1 (k + 1) y0 y1 y2 y3)) ∧ (∀ y0 y1 y2 y3 y4, LeO (minecontrolref18_Check.j5 k y0 y1 y2 y3 y4) (minecontrolref18_Check.j5 (k + 1) y0 y1 y2 y3 y4)) ∧ (∀ y0 y1 y2 y3 y4, LeO (minecontrolref18_Check.l2 k y0 y1 y2 y3 y4) (minecontrolref18_Check.l2 (k + 1) y0 y1 y2 y3 y4))
 | 0 => ⟨fun _ _ _ _ r h => by simp [minecontrolref18_Check.j0] at h, fun _ _ _ _ r h => by simp [minecontrolref18_Check.l0] at h, fun _ _ _ _ _ _ _ _ _ _ r h => by simp [minecontrolref18_Check.j2] at h, fun _ _ _ _ _ _ _ _ _ _ r h => by simp [minecontrolref18_Check.j3] at h, fun _ _ _ _ r h => by simp [minecontrolref18_Check.l1] at h, fun _ _ _ _ _ r h => by simp [minecontrolref18_Check.j5] at h, fun _ _ _ _ _ r h => by simp [minecontrolref18_Check.l2] at h⟩
 | k + 1 => by
  obtain ⟨ih0, ih1, ih2, ih3, ih4, ih5, ih6⟩ := minecontrolref18_Check.mono_l k
  refine ⟨?_, ?_, ?_, ?_, ?_, ?_, ?_⟩
  ·
   intro y0 y1 y2 y3
   unfold minecontrolref18_Check.j0
   repeat' first
   | (with_reducible exact ih0 _ _ _ _)
   | (with_reducible exact ih1 _ _ _ _)
   | (with_reducible exact ih2 _ _ _ _ _ _ _ _ _ _)
   | (with_reducible exact ih3 _ _ _ _ _ _ _ _ _ _)
   | (with_reducible exact ih4 _ _ _ _)
   | (with_reducible exact ih5 _ _ _ _ _)
   | (with_reducible exact ih6 _ _ _ _ _)
   | (with_reducible exact LeO.refl _)
   | (with_reducible exact LeO.none _)
   | (with_reducible refine LeO.ite ?_ ?_)
   | (with_reducible refine LeO.bind ?_ (fun _ => ?_))
   | exact ih0 _ _ _ _
   | exact ih1 _ _ _ _
   | exact ih2 _ _ _ _ _ _ _ _ _ _
   | exact ih3 _ _ _ _ _ _ _ _ _ _
   | exact ih4 _ _ _ _
   | exact ih5 _ _ _ _ _
   | exact ih6 _ _ _ _ _
   | exact LeO.none _
   | refine LeO.ite ?_ ?_
   | refine LeO.bind ?_ (fun _ => ?_)
  ·
   intro y0 y1 y2 y3
   unfold minecontrolref18_Check.l0
   repeat' first
   | (with_reducible exact ih0 _ _ _ _)
   | (with_reducible exact ih1 _ _ _ _)
   | (with_reducible exact ih2 _ _ _ _ _ _ _ _ _ _)
   | (with_reducible exact ih3 _ _ _ _ _ _ _ _ _ _)
   | (with_reducible exact ih4 _ _ _ _)
   | (with_reducible exact ih5 _ _ _ _ _)
   | (with_reducible exact ih6 _ _ _ _ _)
   | (with_reducible exact LeO.refl _)
   | (with_reducible exact LeO.none _)
   | (with_reducible refine LeO.ite ?_ ?_)
   | (with_reducible refine LeO.bind ?_ (fun _ => ?_))
   | exact ih0 _ _ _ _
   | exact ih1 _ _ _ _
   | exact ih2 _ _ _ _ _ _ _ _ _ _
   | exact ih3 _ _ _ _ _ _ _ _ _ _
   | exact ih4 _ _ _ _
   | exact ih5 _ _ _ _ _
   | exact ih6 _ _ _ _ _
   | exact LeO.none _
   | refine LeO.ite ?_ ?_
   | refine LeO.bind ?_ (fun _ => ?_)
  ·
   intro y0 y1 y2 y3 y4 y5 y6 y7 y8 y9
   unfold minecontrolref18_Check.j2
   repeat' first
   | (with_reducible exact ih0 _ _ _ _)
   | (with_reducible exact ih1 _ _ _ _)
   | (with_reducible exact ih2 _ _ _ _ _ _ _ _ _ _)
   | (with_reducible exact ih3 _ _ _ _ _ _ _ _ _ _)
   | (with_reducible exact ih4 _ _ _ _)
   | (with_reducible exact ih5 _ _ _ _ _)
   | (with_reducible exact ih6 _ _ _ _ _)
   | (with_reducible exact LeO.refl _)
   | (with_reducible exact LeO.none _)
   | (with_reducible refine LeO.ite ?_ ?_)
   | (with_reducible refine LeO.bind ?_ (fun _ => ?_))
   | exact ih0 _ _ _ _
   | exact ih1 _ _ _ _
   | exact ih2 _ _ _ _ _ _ _ _ _ _
   | exact ih3 _ _ _ _ _ _ _ _ _ _
   | exact ih4 _ _ _ _
   | exact ih5 _ _ _ _ _
   | exact ih6 _ _ _ _ _
   | exact LeO.none _
   | refine LeO.ite ?_ ?_
   | refine LeO.bind ?_ (fun _ => ?_)
  ·
   intro y0 y1 y2 y3 y4 y5 y6 y7 y8 y9
   unfold minecontrolref18_Check.j3
   repeat' first
   | (with_reducible exact ih0 _ _ _ _)
   | (with_reducible exact ih1 _ _ _ _)
   | (with_reducible exact ih2 _ _ _ _ _ _ _ _ _ _)
   | (with_reducible exact ih3 _ _ _ _ _ _ _ _ _ _)
   | (with_reducible exact ih4 _ _ _ _)
   | (with_reducible exact ih5 _ _ _ _ _)
   | (with_reducible exact ih6 _ _ _ _ _)
   | (with_reducible exact LeO.refl _)
   | (with_reducible exact LeO.none _)
   | (with_reducible refine LeO.ite ?_ ?_)
   | (with_reducible refine LeO.bind ?_ (fun _ => ?_))
   | exact ih0 _ _ _ _
   | exact ih1 _ _ _ _
   | exact ih2 _ _ _ _ _ _ _ _ _ _
   | exact ih3 _ _ _ _ _ _ _ _ _ _
   | exact ih4 _ _ _ _
   | exact ih5 _ _ _ _ _
   | exact ih6 _ _ _ _ _
   | exact LeO.none _
   | refine LeO.ite ?_ ?_
   | refine LeO.bind ?_ (fun _ => ?_)
  ·
   intro y0 y1 y2 y3
   unfold minecontrolref18_Check.l1
   repeat' first
   | (with_reducible exact ih0 _ _ _ _)
   | (with_reducible exact ih1 _ _ _ _)
   | (with_reducible exact ih2 _ _ _ _ _ _ _ _ _ _)
   | (with_reducible exact ih3 _ _ _ _ _ _ _ _ _ _)
   | (with_reducible exact ih4 _ _ _ _)
   | (with_reducible exact ih5 _ _ _ _ _)
   | (with_reducible exact ih6 _ _ _ _ _)
   | (with_reducible exact LeO.refl _)
   | (with_reducible exact LeO.none _)
   | (with_reducible refine LeO.ite ?_ ?_)
   | (with_reducible refine LeO.bind ?_ (fun _ => ?_))
   | exact ih0 _ _ _ _
   | exact ih1 _ _ _ _
   | exact ih2 _ _ _ _ _ _ _ _ _ _
   | exact ih3 _ _ _ _ _ _ _ _ _ _
   | exact ih4 _ _ _ _
   | exact ih5 _ _ _ _ _
   | exact ih6 _ _ _ _ _
   | exact LeO.none _
   | refine LeO.ite ?_ ?_
   | refine LeO.bind ?_ (fun _ => ?_)
  ·
   intro y0 y1 y2 y3 y4
   unfold minecontrolref18_Check.j5
   repeat' first
   | (with_reducible exact ih0 _ _ _ _)
   | (with_reducible exact ih1 _ _ _ _)
   | (with_reducible exact ih2 _ _ _ _ _ _ _ _ _ _)
   | (with_reducible exact ih3 _ _ _ _ _ _ _ _ _ _)
   | (with_reducible exact ih4 _ _ _ _)
   | (with_reducible exact ih5 _ _ _ _ _)
   | (with_reducible exact ih6 _ _ _ _ _)
   | (with_reducible exact LeO.refl _)
   | (with_reducible exact LeO.none _)
   | (with_reducible refine LeO.ite ?_ ?_)
   | (with_reducible refine LeO.bind ?_ (fun _ => ?_))
   | exact ih0 _ _ _ _
   | exact ih1 _ _ _ _
   | exact ih2 _ _ _ _ _ _ _ _ _ _
   | exact ih3 _ _ _ _ _ _ _ _ _ _
   | exact ih4 _ _ _ _
   | exact ih5 _ _ _ _ _
   | exact ih6 _ _ _ _ _
   | exact LeO.none _
   | refine LeO.ite ?_ ?_
   | refine LeO.bind ?_ (fun _ => ?_)
  ·
   intro y0 y1 y2 y3 y4
   unfold minecontrolref18_Check.l2
   repeat' first
   | (with_reducible exact ih0 _ _ _ _)
   | (with_reducible exact ih1 _ _ _ _)
   | (with_reducible exact ih2 _ _ _ _ _ _ _ _ _ _)
   | (with_reducible exact ih3 _ _ _ _ _ _ _ _ _ _)
   | (with_reducible exact ih4 _ _ _ _)
   | (with_reducible exact ih5 _ _ _ _ _)
   | (with_reducible exact ih6 _ _ _ _ _)
   | (with_reducible exact LeO.refl _)
   | (with_reducible exact LeO.none _)
   | (with_reducible refine LeO.ite ?_ ?_)
   | (with_reducible refine LeO.bind ?_ (fun _ => ?_))
   | exact ih0 _ _ _ _
   | exact ih1 _ _ _ _
   | exact ih2 _ _ _ _ _ _ _ _ _ _
   | exact ih3 _ _ _ _ _ _ _ _ _ _
   | exact ih4 _ _ _ _
   | exact ih5 _ _ _ _ _
   | exact ih6 _ _ _ _ _
   | exact LeO.none _
   | refine LeO.ite ?_ ?_
   | refine LeO.bind ?_ (fun _ => ?_)
theorem minecontrolref18_Check.mono : ∀ a0 a1 a2 k, LeO (minecontrolref18_Check.f k a0 a1 a2) (minecontrolref18_Check.f (k + 1) a0 a1 a2) := by
 intro a0 a1 a2 k
 obtain ⟨ih0, ih1, ih2, ih3, ih4, ih5, ih6⟩ := minecontrolref18_Check.mono_l k
 unfold minecontrolref18_Check.f
 repeat' first
   | (with_reducible exact ih0 _ _ _ _)
   | (with_reducible exact ih1 _ _ _ _)
   | (with_reducible exact ih2 _ _ _ _ _ _ _ _ _ _)
   | (with_reducible exact ih3 _ _ _ _ _ _ _ _ _ _)
   | (with_reducible exact ih4 _ _ _ _)
   | (with_reducible exact ih5 _ _ _ _ _)
   | (with_reducible exact ih6 _ _ _ _ _)
   | (with_reducible exact LeO.refl _)
   | (with_reducible exact LeO.none _)
   | (with_reducible refine LeO.ite ?_ ?_)
   | (with_reducible refine LeO.bind ?_ (fun _ => ?_))
   | exact ih0 _ _ _ _
   | exact ih1 _ _ _ _
   | exact ih2 _ _ _ _ _ _ _ _ _ _
   | exact ih3 _ _ _ _ _ _ _ _ _ _
   | exact ih4 _ _ _ _
   | exact ih5 _ _ _ _ _
   | exact ih6 _ _ _ _ _
   | exact LeO.none _
   | refine LeO.ite ?_ ?_
   | refine LeO.bind ?_ (fun _ => ?_)
set_option maxHeartbeats 8000000 in
set_option maxRecDepth 100000 in
theorem minecontrolref18_Check.calls (k : Nat) (A0_0 : Option Addr) (c0_0 : Nat) (l0_0 : List (S32)) (A0_1 : Option Addr) (c0_1 : Nat) (l0_1 : List Int) (a0_2 : Int) (r : Int) (w : World) (hr0_0 : Kd.C k32 w A0_0 l0_0.length l0_0) (hc0_0 : l0_0.length ≤ c0_0) (hr0_1 : Kd.C (Kd.int .i64) w A0_1 l0_1.length l0_1) (hc0_1 : l0_1.length ≤ c0_1) (h : minecontrolref18_Check.f k l0_0 l0_1 a0_2 = some r) :
  Calls Try.prog 26 #[.agg #[.slice A0_0 l0_0.length c0_0, .slice A0_1 l0_1.length c0_1, .int .i64 a0_2]] w fun e w' => e = .returned (.int .i64 r) ∧ Below w.heap.size w w' := by
 have hu28 := Try.underlying28
 have hu32 := Try.underlying32
 have HR0_0 := Aside0.mk hr0_0
 have HC0_0 := Aside0.mk hc0_0
 clear hr0_0 hc0_0
 have HR0_1 := Aside0.mk hr0_1
 have HC0_1 := Aside0.mk hc0_1
 clear hr0_1 hc0_1
 have HB := Aside0.mk (Below.refl w.heap.size w)
 have H : (if (l0_0.length : Int) > 32 then (minecontrolref18_Check.j0 k true l0_0 l0_1 a0_2) else (minecontrolref18_Check.j0 k (decide ((l0_1.length : Int) > 16)) l0_0 l0_1 a0_2)) = some r := h
 clear h
 have HC2 := Aside0.mk H
 clear H
 go_enter Try.func26, Try.ntmps26
 go_upto_region 1 with (first | ((with_reducible refine gate_dst (N := 1) rfl ?_); (try (refine gate_guard (by rfl) ?_; dsimp only)); refine box_event ?hg (N := 1) ?hd (cs := #[.slice A0_0 l0_0.length c0_0, .slice A0_1 l0_1.length c0_1, .int .i64 a0_2]) (t := 28) ?hr ?_; (case hd => rfl); (case hg => rfl); (case hr => first | (go_simp; done) | (go_simp; rfl)); intro gb283 hg w3 hbox hb; have n0_ := Aside0.mk (below_step (by repeat (first | (with_reducible first | exact HB.out | apply below_alloc | apply pw_below_drewN | apply below_drew1) | exact HB.out)) hb); have n1_ := Aside0.mk (hbox); have n2_ := Aside0.mk ((by rw [hg]; exact (below_size (by repeat (first | (with_reducible first | exact HB.out | apply below_alloc | apply pw_below_drewN | apply below_drew1) | exact HB.out))) : w.heap.size ≤ gb283)); have n3_ := Aside0.mk ((by rw [hg]; exact (below_size (by repeat (first | (with_reducible first | exact HB.out | apply below_alloc | apply pw_below_drewN | apply below_drew1) | exact HB.out))) : w.heap.size ≤ gb283)); clear HB; have HB := n0_; have BK283 := n1_; have GW283 := n2_; have GE283 := n3_; clear n0_ n1_ n2_ n3_; clear hb hbox hg))
 repeat (go_quiet (first | ((with_reducible refine gate_dst (N := 1) rfl ?_); (try (refine gate_guard (by rfl) ?_; dsimp only)); refine box_event ?hg (N := 1) ?hd (cs := #[.slice A0_0 l0_0.length c0_0, .slice A0_1 l0_1.length c0_1, .int .i64 a0_2]) (t := 28) ?hr ?_; (case hd => rfl); (case hg => rfl); (case hr => first | (go_simp; done) | (go_simp; rfl)); intro gb283 hg w3 hbox hb; have n0_ := Aside0.mk (below_step (by repeat (first | (with_reducible first | exact HB.out | apply below_alloc | apply pw_below_drewN | apply below_drew1) | exact HB.out)) hb); have n1_ := Aside0.mk (hbox); have n2_ := Aside0.mk ((by rw [hg]; exact (below_size (by repeat (first | (with_reducible first | exact HB.out | apply below_alloc | apply pw_below_drewN | apply below_drew1) | exact HB.out))) : w.heap.size ≤ gb283)); have n3_ := Aside0.mk ((by rw [hg]; exact (below_size (by repeat (first | (with_reducible first | exact HB.out | apply below_alloc | apply pw_below_drewN | apply below_drew1) | exact HB.out))) : w.heap.size ≤ gb283)); clear HB; have HB := n0_; have BK283 := n1_; have GW283 := n2_; have GE283 := n3_; clear n0_ n1_ n2_ n3_; clear hb hbox hg)); go_upto_region 1 with (first | ((with_reducible refine gate_dst (N := 1) rfl ?_); (try (refine gate_guard (by rfl) ?_; dsimp only)); refine box_event ?hg (N := 1) ?hd (cs := #[.slice A0_0 l0_0.length c0_0, .slice A0_1 l0_1.length c0_1, .int .i64 a0_2]) (t := 28) ?hr ?_; (case hd => rfl); (case hg => rfl); (case hr => first | (go_simp; done) | (go_simp; rfl)); intro gb283 hg w3 hbox hb; have n0_ := Aside0.mk (below_step (by repeat (first | (with_reducible first | exact HB.out | apply below_alloc | apply pw_below_drewN | apply below_drew1) | exact HB.out)) hb); have n1_ := Aside0.mk (hbox); have n2_ := Aside0.mk ((by rw [hg]; exact (below_size (by repeat (first | (with_reducible first | exact HB.out | apply below_alloc | apply pw_below_drewN | apply below_drew1) | exact HB.out))) : w.heap.size ≤ gb283)); have n3_ := Aside0.mk ((by rw [hg]; exact (below_size (by repeat (first | (with_reducible first | exact HB.out | apply below_alloc | apply pw_below_drewN | apply below_drew1) | exact HB.out))) : w.heap.size ≤ gb283)); clear HB; have HB := n0_; have BK283 := n1_; have GW283 := n2_; have GE283 := n3_; clear n0_ n1_ n2_ n3_; clear hb hbox hg)))
 (try simp only [Act.put, List.setIfInBounds_toArray, List.set_cons_zero, List.set_cons_succ])
 go_cut [16] (fun v16 wc => ∃ (kq : Nat) (x16_1 : Bool), v16 = .bool x16_1 ∧ Aside0 (minecontrolref18_Check.j0 kq x16_1 l0_0 l0_1 a0_2 = some r) ∧ Aside0 (kq ≤ k) ∧ Aside0 (wc.heap[gb283]? = some (.cells #[(.slice A0_0 l0_0.length c0_0), (.slice A0_1 l0_1.length c0_1), .int .i64 a0_2] 28 (0, 0))) ∧ Aside0 (Below w.heap.size w wc))
 case first =>
  have H := HC2.out
  clear HC2
  by_cases c4 : (l0_0.length : Int) > 32
  ·
   rw [if_pos c4] at H
   have c4b0 : decide (32 < (l0_0.length : Int)) = true := decide_eq_true c4
   have c4b1 : decide (32 < l0_0.length) = true := decide_eq_true (by omega)
   clear c4
   (first | rw [c4b0] | (simp only [i64_w, i32_w]; rw [c4b0]) | skip)
   have H' := Aside0.mk H
   clear H
   have hcz5_0 : w3.cell? ⟨gb283, 0, none⟩ = some (.slice A0_0 l0_0.length c0_0) := (blk_cell BK283.out 0).trans rfl
   have hcz5_1 : w3.cell? ⟨gb283, 1, none⟩ = some (.slice A0_1 l0_1.length c0_1) := (blk_cell BK283.out 1).trans rfl
   have hcz5_2 : w3.cell? ⟨gb283, 2, none⟩ = some (.int .i64 a0_2) := (blk_cell BK283.out 2).trans rfl
   have hfz5_0 := blk_frozen BK283.out 0
   have hfz5_1 := blk_frozen BK283.out 1
   have hfz5_2 := blk_frozen BK283.out 2
   go_wp2
   repeat (go_quiet (fail); try go_wp2)
   go_meet
   case rel => exact ⟨_, (true), (by first | rfl | (simp; done) | (simp [*]; done)), H', ⟨by first | omega | exact Nat.le_refl _⟩, ⟨by (with_reducible repeat (first | refine blk_drewN ?_ _ | refine blk_drew ?_ | refine blk_alloc ?_ _)); exact BK283.out⟩, ⟨by repeat (first | (with_reducible first | exact HB.out | apply below_alloc | apply pw_below_drewN | apply below_drew1 | refine below_set ?_ GE283.out) | exact HB.out)⟩⟩
  ·
   rw [if_neg c4] at H
   have c4b0 : decide (32 < (l0_0.length : Int)) = false := decide_eq_false c4
   have c4b1 : decide (32 < l0_0.length) = false := decide_eq_false (by omega)
   clear c4
   (first | rw [c4b0] | (simp only [i64_w, i32_w]; rw [c4b0]) | skip)
   have H' := Aside0.mk H
   clear H
   have hcz6_0 : w3.cell? ⟨gb283, 0, none⟩ = some (.slice A0_0 l0_0.length c0_0) := (blk_cell BK283.out 0).trans rfl
   have hcz6_1 : w3.cell? ⟨gb283, 1, none⟩ = some (.slice A0_1 l0_1.length c0_1) := (blk_cell BK283.out 1).trans rfl
   have hcz6_2 : w3.cell? ⟨gb283, 2, none⟩ = some (.int .i64 a0_2) := (blk_cell BK283.out 2).trans rfl
   have hfz6_0 := blk_frozen BK283.out 0
   have hfz6_1 := blk_frozen BK283.out 1
   have hfz6_2 := blk_frozen BK283.out 2
   go_wp2
   repeat (go_quiet (fail); try go_wp2)
   go_meet
   case rel => exact ⟨_, (decide ((l0_1.length : Int) > 16)), (by first | rfl | (simp; done) | (simp [*]; done)), H', ⟨by first | omega | exact Nat.le_refl _⟩, ⟨by (with_reducible repeat (first | refine blk_drewN ?_ _ | refine blk_drew ?_ | refine blk_alloc ?_ _)); exact BK283.out⟩, ⟨by repeat (first | (with_reducible first | exact HB.out | apply below_alloc | apply pw_below_drewN | apply below_drew1 | refine below_set ?_ GE283.out) | exact HB.out)⟩⟩
 case rest =>
  clear HC2
  try clear c2; try clear p2; try clear c4; try clear c4b0; try clear c4b1; try clear hcz5_0; try clear hcz5_1; try clear hcz5_2; try clear hcz6_0; try clear hcz6_1; try clear hcz6_2; try clear hfz5_0; try clear hfz5_1; try clear hfz5_2; try clear hfz6_0; try clear hfz6_1; try clear hfz6_2
  obtain ⟨kq, x16_1, rfl, HA, HJ1, BK283, HB⟩ := hcut
  cases kq with
  | zero => exact absurd HA.out (by simp [minecontrolref18_Check.j0])
  | succ kj1 =>
   have H := HA.out
   clear HA
   simp only [minecontrolref18_Check.j0] at H
   by_cases c7 : x16_1 = true
   ·
    subst c7
    have H1 : (some 2) = some r := by rw [if_pos rfl] at H; exact H
    clear H
    have H := H1
    clear H1
    obtain rfl := Option.some.inj H
    go_wp2
    repeat (go_quiet (fail); try go_wp2)
    go_ret
    exact ⟨by first | rfl | (simp [errW_none, errW_some] <;> rfl) | (simp [*, errW_none, errW_some] <;> rfl), by repeat (first | (with_reducible first | exact HB.out | apply below_alloc | apply pw_below_drewN | apply below_drew1 | refine below_set ?_ GE283.out) | exact HB.out)⟩
   ·
    replace c7 := Bool.eq_false_iff.mpr c7
    subst c7
    have H1 : (minecontrolref18_Check.l0 kj1 0 l0_0 l0_1 a0_2) = some r := by rw [if_neg (show ¬ (false = true) by decide)] at H; exact H
    clear H
    have H := H1
    clear H1
    have H' := Aside0.mk H
    clear H
    go_wp2
    repeat (go_quiet (fail); try go_wp2)
    go_loopg [3] kj1 (fun kq v3 w' => ∃ (x3_2 : Int), v3 = .int .i64 x3_2 ∧ Aside0 (minecontrolref18_Check.l0 kq x3_2 l0_0 l0_1 a0_2 = some r) ∧ Aside0 (kq ≤ kj1) ∧ Aside0 (w'.heap[gb283]? = some (.cells #[(.slice A0_0 l0_0.length c0_0), (.slice A0_1 l0_1.length c0_1), .int .i64 a0_2] 28 (0, 0))) ∧ Aside0 (Below w.heap.size w w'))
    case atStart => exact ⟨(0), (by first | rfl | (simp; done) | (simp [*]; done)), H', ⟨Nat.le_refl _⟩, ⟨by (with_reducible repeat (first | refine blk_drewN ?_ _ | refine blk_drew ?_ | refine blk_alloc ?_ _)); exact BK283.out⟩, ⟨by repeat (first | (with_reducible first | exact HB.out | apply below_alloc | apply pw_below_drewN | apply below_drew1 | refine below_set ?_ GE283.out) | exact HB.out)⟩⟩
    case round =>
     clear H'
     try clear c2; try clear p2; try clear c4; try clear c4b0; try clear c4b1; try clear c7; try clear hcz5_0; try clear hcz5_1; try clear hcz5_2; try clear hcz6_0; try clear hcz6_1; try clear hcz6_2; try clear hfz5_0; try clear hfz5_1; try clear hfz5_2; try clear hfz6_0; try clear hfz6_1; try clear hfz6_2
     try clear p2
     obtain ⟨x3_2, rfl, HA, HK2, BK283, HB⟩ := hrel
     cases gk with
     | zero => exact absurd HA.out (by simp [minecontrolref18_Check.l0])
     | succ k2 =>
      have H := HA.out
      clear HA
      simp only [minecontrolref18_Check.l0] at H
      by_cases c8 : x3_2 < (l0_0.length : Int)
      ·
       rw [if_pos c8] at H
       have c8b0 : decide (x3_2 < (l0_0.length : Int)) = true := decide_eq_true c8
       clear c8
       by_cases c9 : 0 ≤ x3_2
       rotate_left
       ·
        rw [if_neg c9] at H
        exact absurd H (by simp)
       rw [if_pos c9] at H
       have c9b0 : decide (0 ≤ x3_2) = true := decide_eq_true c9
       clear c9
       have HC10 := Aside0.mk H
       clear H
       have hcz11_0 : wr.cell? ⟨gb283, 0, none⟩ = some (.slice A0_0 l0_0.length c0_0) := (blk_cell BK283.out 0).trans rfl
       have hcz11_1 : wr.cell? ⟨gb283, 1, none⟩ = some (.slice A0_1 l0_1.length c0_1) := (blk_cell BK283.out 1).trans rfl
       have hcz11_2 : wr.cell? ⟨gb283, 2, none⟩ = some (.int .i64 a0_2) := (blk_cell BK283.out 2).trans rfl
       have hfz11_0 := blk_frozen BK283.out 0
       have hfz11_1 := blk_frozen BK283.out 1
       have hfz11_2 := blk_frozen BK283.out 2
       have p284 : 0 ≤ (x3_2 : Int) := of_decide_eq_true (by first | (with_reducible assumption) | assumption)
       have q284 : x3_2 < (l0_0.length : Int) := of_decide_eq_true (by first | (with_reducible assumption) | assumption)
       obtain ⟨ad284, e284, hx284_0, hx284_1, hx284_2, hx284_3, hx284_4⟩ := at_T32 HR0_0.out x3_2 p284 q284
       cases e284
       try replace hx284_0 := (HB.out.cell (World.block_lt_of_cell? w _ hx284_0)).trans hx284_0
       try replace hx284_1 := (HB.out.cell (World.block_lt_of_cell? w _ hx284_1)).trans hx284_1
       try replace hx284_2 := (HB.out.cell (World.block_lt_of_cell? w _ hx284_2)).trans hx284_2
       try replace hx284_3 := (HB.out.cell (World.block_lt_of_cell? w _ hx284_3)).trans hx284_3
       try replace hx284_4 := (HB.out.cell (World.block_lt_of_cell? w _ hx284_4)).trans hx284_4
       replace p284 := eq_true p284
       replace q284 := eq_true q284
       go_upto_region 7 with (first | ((with_reducible refine gate_dst (N := 4) rfl ?_); (try (refine gate_guard (by rfl) ?_; dsimp only)); refine box_event ?hg (N := 4) ?hd (cs := #[.int .i64 0, .int .i64 0, .int .i64 0, .bool false, .bool false]) (t := 32) ?hr ?_; (case hd => rfl); (case hg => rfl); (case hr => first | (go_simp; done) | (go_simp; rfl)); intro gb285 hg w12 hbox hb; have n0_ := Aside0.mk (blk_below (g := gb283) (o := .cells #[.slice (some ad284) l0_0.length c0_0, .slice A0_1 l0_1.length c0_1, .int .i64 a0_2] 28 (0, 0)) (by (with_reducible repeat (first | refine blk_drewN ?_ _ | refine blk_drew ?_ | refine blk_alloc ?_ _)); exact BK283.out) hb); have n1_ := Aside0.mk (below_step (by repeat (first | (with_reducible first | exact HB.out | apply below_alloc | apply pw_below_drewN | apply below_drew1 | refine below_set ?_ GE283.out) | exact HB.out)) hb); have n2_ := Aside0.mk (hbox); have n3_ := Aside0.mk ((by rw [hg]; exact (below_size (by repeat (first | (with_reducible first | exact HB.out | apply below_alloc | apply pw_below_drewN | apply below_drew1 | refine below_set ?_ GE283.out) | exact HB.out))) : w.heap.size ≤ gb285)); have n4_ := Aside0.mk ((by rw [hg]; exact (below_size (by repeat (first | (with_reducible first | exact HB.out | apply below_alloc | apply pw_below_drewN | apply below_drew1 | refine below_set ?_ GE283.out) | exact HB.out))) : w.heap.size ≤ gb285)); have n5_ := Aside0.mk ((by rw [hg]; exact Nat.ne_of_lt (blk_lt (g := gb283) (o := .cells #[.slice (some ad284) l0_0.length c0_0, .slice A0_1 l0_1.length c0_1, .int .i64 a0_2] 28 (0, 0)) (by (with_reducible repeat (first | refine blk_drewN ?_ _ | refine blk_drew ?_ | refine blk_alloc ?_ _)); exact BK283.out)) : gb283 ≠ gb285)); have n6_ := Aside0.mk ((by rw [hg]; exact Nat.ne_of_gt (blk_lt (g := gb283) (o := .cells #[.slice (some ad284) l0_0.length c0_0, .slice A0_1 l0_1.length c0_1, .int .i64 a0_2] 28 (0, 0)) (by (with_reducible repeat (first | refine blk_drewN ?_ _ | refine blk_drew ?_ | refine blk_alloc ?_ _)); exact BK283.out)) : gb285 ≠ gb283)); clear BK283; clear HB; have BK283 := n0_; have HB := n1_; have BK285 := n2_; have GW285 := n3_; have GE285 := n4_; have NB283_285 := n5_; have NB285_283 := n6_; clear n0_ n1_ n2_ n3_ n4_ n5_ n6_; clear hb hbox hg; have hnb13 := NB285_283.out; have hnc13 := NB283_285.out; have hcz14_0 : w12.cell? ⟨gb285, 0, none⟩ = some (.int .i64 0) := (blk_cell BK285.out 0).trans rfl; have hcz14_1 : w12.cell? ⟨gb285, 1, none⟩ = some (.int .i64 0) := (blk_cell BK285.out 1).trans rfl; have hcz14_2 : w12.cell? ⟨gb285, 2, none⟩ = some (.int .i64 0) := (blk_cell BK285.out 2).trans rfl; have hcz14_3 : w12.cell? ⟨gb285, 3, none⟩ = some (.bool false) := (blk_cell BK285.out 3).trans rfl; have hcz14_4 : w12.cell? ⟨gb285, 4, none⟩ = some (.bool false) := (blk_cell BK285.out 4).trans rfl; have hfz14_0 := blk_frozen BK285.out 0; have hfz14_1 := blk_frozen BK285.out 1; have hfz14_2 := blk_frozen BK285.out 2; have hfz14_3 := blk_frozen BK285.out 3; have hfz14_4 := blk_frozen BK285.out 4))
       repeat (go_quiet (first | ((with_reducible refine gate_dst (N := 4) rfl ?_); (try (refine gate_guard (by rfl) ?_; dsimp only)); refine box_event ?hg (N := 4) ?hd (cs := #[.int .i64 0, .int .i64 0, .int .i64 0, .bool false, .bool false]) (t := 32) ?hr ?_; (case hd => rfl); (case hg => rfl); (case hr => first | (go_simp; done) | (go_simp; rfl)); intro gb285 hg w12 hbox hb; have n0_ := Aside0.mk (blk_below (g := gb283) (o := .cells #[.slice (some ad284) l0_0.length c0_0, .slice A0_1 l0_1.length c0_1, .int .i64 a0_2] 28 (0, 0)) (by (with_reducible repeat (first | refine blk_drewN ?_ _ | refine blk_drew ?_ | refine blk_alloc ?_ _)); exact BK283.out) hb); have n1_ := Aside0.mk (below_step (by repeat (first | (with_reducible first | exact HB.out | apply below_alloc | apply pw_below_drewN | apply below_drew1 | refine below_set ?_ GE283.out) | exact HB.out)) hb); have n2_ := Aside0.mk (hbox); have n3_ := Aside0.mk ((by rw [hg]; exact (below_size (by repeat (first | (with_reducible first | exact HB.out | apply below_alloc | apply pw_below_drewN | apply below_drew1 | refine below_set ?_ GE283.out) | exact HB.out))) : w.heap.size ≤ gb285)); have n4_ := Aside0.mk ((by rw [hg]; exact (below_size (by repeat (first | (with_reducible first | exact HB.out | apply below_alloc | apply pw_below_drewN | apply below_drew1 | refine below_set ?_ GE283.out) | exact HB.out))) : w.heap.size ≤ gb285)); have n5_ := Aside0.mk ((by rw [hg]; exact Nat.ne_of_lt (blk_lt (g := gb283) (o := .cells #[.slice (some ad284) l0_0.length c0_0, .slice A0_1 l0_1.length c0_1, .int .i64 a0_2] 28 (0, 0)) (by (with_reducible repeat (first | refine blk_drewN ?_ _ | refine blk_drew ?_ | refine blk_alloc ?_ _)); exact BK283.out)) : gb283 ≠ gb285)); have n6_ := Aside0.mk ((by rw [hg]; exact Nat.ne_of_gt (blk_lt (g := gb283) (o := .cells #[.slice (some ad284) l0_0.length c0_0, .slice A0_1 l0_1.length c0_1, .int .i64 a0_2] 28 (0, 0)) (by (with_reducible repeat (first | refine blk_drewN ?_ _ | refine blk_drew ?_ | refine blk_alloc ?_ _)); exact BK283.out)) : gb285 ≠ gb283)); clear BK283; clear HB; have BK283 := n0_; have HB := n1_; have BK285 := n2_; have GW285 := n3_; have GE285 := n4_; have NB283_285 := n5_; have NB285_283 := n6_; clear n0_ n1_ n2_ n3_ n4_ n5_ n6_; clear hb hbox hg; have hnb13 := NB285_283.out; have hnc13 := NB283_285.out; have hcz14_0 : w12.cell? ⟨gb285, 0, none⟩ = some (.int .i64 0) := (blk_cell BK285.out 0).trans rfl; have hcz14_1 : w12.cell? ⟨gb285, 1, none⟩ = some (.int .i64 0) := (blk_cell BK285.out 1).trans rfl; have hcz14_2 : w12.cell? ⟨gb285, 2, none⟩ = some (.int .i64 0) := (blk_cell BK285.out 2).trans rfl; have hcz14_3 : w12.cell? ⟨gb285, 3, none⟩ = some (.bool false) := (blk_cell BK285.out 3).trans rfl; have hcz14_4 : w12.cell? ⟨gb285, 4, none⟩ = some (.bool false) := (blk_cell BK285.out 4).trans rfl; have hfz14_0 := blk_frozen BK285.out 0; have hfz14_1 := blk_frozen BK285.out 1; have hfz14_2 := blk_frozen BK285.out 2; have hfz14_3 := blk_frozen BK285.out 3; have hfz14_4 := blk_frozen BK285.out 4)); go_upto_region 7 with (first | ((with_reducible refine gate_dst (N := 4) rfl ?_); (try (refine gate_guard (by rfl) ?_; dsimp only)); refine box_event ?hg (N := 4) ?hd (cs := #[.int .i64 0, .int .i64 0, .int .i64 0, .bool false, .bool false]) (t := 32) ?hr ?_; (case hd => rfl); (case hg => rfl); (case hr => first | (go_simp; done) | (go_simp; rfl)); intro gb285 hg w12 hbox hb; have n0_ := Aside0.mk (blk_below (g := gb283) (o := .cells #[.slice (some ad284) l0_0.length c0_0, .slice A0_1 l0_1.length c0_1, .int .i64 a0_2] 28 (0, 0)) (by (with_reducible repeat (first | refine blk_drewN ?_ _ | refine blk_drew ?_ | refine blk_alloc ?_ _)); exact BK283.out) hb); have n1_ := Aside0.mk (below_step (by repeat (first | (with_reducible first | exact HB.out | apply below_alloc | apply pw_below_drewN | apply below_drew1 | refine below_set ?_ GE283.out) | exact HB.out)) hb); have n2_ := Aside0.mk (hbox); have n3_ := Aside0.mk ((by rw [hg]; exact (below_size (by repeat (first | (with_reducible first | exact HB.out | apply below_alloc | apply pw_below_drewN | apply below_drew1 | refine below_set ?_ GE283.out) | exact HB.out))) : w.heap.size ≤ gb285)); have n4_ := Aside0.mk ((by rw [hg]; exact (below_size (by repeat (first | (with_reducible first | exact HB.out | apply below_alloc | apply pw_below_drewN | apply below_drew1 | refine below_set ?_ GE283.out) | exact HB.out))) : w.heap.size ≤ gb285)); have n5_ := Aside0.mk ((by rw [hg]; exact Nat.ne_of_lt (blk_lt (g := gb283) (o := .cells #[.slice (some ad284) l0_0.length c0_0, .slice A0_1 l0_1.length c0_1, .int .i64 a0_2] 28 (0, 0)) (by (with_reducible repeat (first | refine blk_drewN ?_ _ | refine blk_drew ?_ | refine blk_alloc ?_ _)); exact BK283.out)) : gb283 ≠ gb285)); have n6_ := Aside0.mk ((by rw [hg]; exact Nat.ne_of_gt (blk_lt (g := gb283) (o := .cells #[.slice (some ad284) l0_0.length c0_0, .slice A0_1 l0_1.length c0_1, .int .i64 a0_2] 28 (0, 0)) (by (with_reducible repeat (first | refine blk_drewN ?_ _ | refine blk_drew ?_ | refine blk_alloc ?_ _)); exact BK283.out)) : gb285 ≠ gb283)); clear BK283; clear HB; have BK283 := n0_; have HB := n1_; have BK285 := n2_; have GW285 := n3_; have GE285 := n4_; have NB283_285 := n5_; have NB285_283 := n6_; clear n0_ n1_ n2_ n3_ n4_ n5_ n6_; clear hb hbox hg; have hnb13 := NB285_283.out; have hnc13 := NB283_285.out; have hcz14_0 : w12.cell? ⟨gb285, 0, none⟩ = some (.int .i64 0) := (blk_cell BK285.out 0).trans rfl; have hcz14_1 : w12.cell? ⟨gb285, 1, none⟩ = some (.int .i64 0) := (blk_cell BK285.out 1).trans rfl; have hcz14_2 : w12.cell? ⟨gb285, 2, none⟩ = some (.int .i64 0) := (blk_cell BK285.out 2).trans rfl; have hcz14_3 : w12.cell? ⟨gb285, 3, none⟩ = some (.bool false) := (blk_cell BK285.out 3).trans rfl; have hcz14_4 : w12.cell? ⟨gb285, 4, none⟩ = some (.bool false) := (blk_cell BK285.out 4).trans rfl; have hfz14_0 := blk_frozen BK285.out 0; have hfz14_1 := blk_frozen BK285.out 1; have hfz14_2 := blk_frozen BK285.out 2; have hfz14_3 := blk_frozen BK285.out 3; have hfz14_4 := blk_frozen BK285.out 4)))
       (try simp only [Act.put, List.setIfInBounds_toArray, List.set_cons_zero, List.set_cons_succ])
       go_cut [37] (fun v37 wc => ∃ (kq : Nat) (x37_9 : Bool), v37 = .bool x37_9 ∧ Aside0 (minecontrolref18_Check.j2 kq x3_2 x37_9 l0_0 l0_1 a0_2 ((rd_T32 l0_0 x3_2).f0) ((rd_T32 l0_0 x3_2).f1) ((rd_T32 l0_0 x3_2).f2) ((rd_T32 l0_0 x3_2).f3) ((rd_T32 l0_0 x3_2).f4) = some r) ∧ Aside0 (kq ≤ k2) ∧ Aside0 (wc.heap[gb283]? = some (.cells #[(.slice (some ad284) l0_0.length c0_0), (.slice A0_1 l0_1.length c0_1), .int .i64 a0_2] 28 (0, 0))) ∧ Aside0 (wc.heap[gb285]? = some (.cells #[.int .i64 ((rd_T32 l0_0 x3_2).f0), .int .i64 ((rd_T32 l0_0 x3_2).f1), .int .i64 ((rd_T32 l0_0 x3_2).f2), .bool ((rd_T32 l0_0 x3_2).f3), .bool ((rd_T32 l0_0 x3_2).f4)] 32 (0, 0))) ∧ Aside0 (Below w.heap.size w wc))
       case first =>
        have H := HC10.out
        clear HC10
        by_cases c15 : ((rd_T32 l0_0 x3_2).f0) < (-1)
        ·
         rw [if_pos c15] at H
         have c15b0 : decide (((rd_T32 l0_0 x3_2).f0) < (-1)) = true := decide_eq_true c15
         clear c15
         (first | rw [c15b0] | (simp only [i64_w, i32_w]; rw [c15b0]) | skip)
         have H' := Aside0.mk H
         clear H
         have hnb16 := NB285_283.out
         have hnc16 := NB283_285.out
         have hcz17_0 : w12.cell? ⟨gb285, 0, none⟩ = some (.int .i64 0) := (blk_cell BK285.out 0).trans rfl
         have hcz17_1 : w12.cell? ⟨gb285, 1, none⟩ = some (.int .i64 0) := (blk_cell BK285.out 1).trans rfl
         have hcz17_2 : w12.cell? ⟨gb285, 2, none⟩ = some (.int .i64 0) := (blk_cell BK285.out 2).trans rfl
         have hcz17_3 : w12.cell? ⟨gb285, 3, none⟩ = some (.bool false) := (blk_cell BK285.out 3).trans rfl
         have hcz17_4 : w12.cell? ⟨gb285, 4, none⟩ = some (.bool false) := (blk_cell BK285.out 4).trans rfl
         have hfz17_0 := blk_frozen BK285.out 0
         have hfz17_1 := blk_frozen BK285.out 1
         have hfz17_2 := blk_frozen BK285.out 2
         have hfz17_3 := blk_frozen BK285.out 3
         have hfz17_4 := blk_frozen BK285.out 4
         go_wp2
         repeat (go_quiet (fail); try go_wp2)
         go_meet
         case rel => exact ⟨_, (true), (by first | rfl | (simp; done) | (simp [*]; done)), H', ⟨by have := HJ1.out; have := HK2.out; first | omega | exact Nat.le_refl _⟩, ⟨by (with_reducible repeat (first | refine blk_drewN ?_ _ | refine blk_drew ?_ | refine blk_alloc ?_ _)); refine blk_far ?_ NB283_285.out _; (with_reducible repeat (first | refine blk_drewN ?_ _ | refine blk_drew ?_ | refine blk_alloc ?_ _)); refine blk_far ?_ NB283_285.out _; (with_reducible repeat (first | refine blk_drewN ?_ _ | refine blk_drew ?_ | refine blk_alloc ?_ _)); refine blk_far ?_ NB283_285.out _; (with_reducible repeat (first | refine blk_drewN ?_ _ | refine blk_drew ?_ | refine blk_alloc ?_ _)); refine blk_far ?_ NB283_285.out _; (with_reducible repeat (first | refine blk_drewN ?_ _ | refine blk_drew ?_ | refine blk_alloc ?_ _)); refine blk_far ?_ NB283_285.out _; (with_reducible repeat (first | refine blk_drewN ?_ _ | refine blk_drew ?_ | refine blk_alloc ?_ _)); exact BK283.out⟩, ⟨by (with_reducible repeat (first | refine blk_drewN ?_ _ | refine blk_drew ?_ | refine blk_alloc ?_ _)); refine blk_put (cs := #[.int .i64 ((rd_T32 l0_0 x3_2).f0), .int .i64 ((rd_T32 l0_0 x3_2).f1), .int .i64 ((rd_T32 l0_0 x3_2).f2), .bool ((rd_T32 l0_0 x3_2).f3), .bool false]) ?_ 4 _ rfl; (with_reducible repeat (first | refine blk_drewN ?_ _ | refine blk_drew ?_ | refine blk_alloc ?_ _)); refine blk_put (cs := #[.int .i64 ((rd_T32 l0_0 x3_2).f0), .int .i64 ((rd_T32 l0_0 x3_2).f1), .int .i64 ((rd_T32 l0_0 x3_2).f2), .bool false, .bool false]) ?_ 3 _ rfl; (with_reducible repeat (first | refine blk_drewN ?_ _ | refine blk_drew ?_ | refine blk_alloc ?_ _)); refine blk_put (cs := #[.int .i64 ((rd_T32 l0_0 x3_2).f0), .int .i64 ((rd_T32 l0_0 x3_2).f1), .int .i64 0, .bool false, .bool false]) ?_ 2 _ rfl; (with_reducible repeat (first | refine blk_drewN ?_ _ | refine blk_drew ?_ | refine blk_alloc ?_ _)); refine blk_put (cs := #[.int .i64 ((rd_T32 l0_0 x3_2).f0), .int .i64 0, .int .i64 0, .bool false, .bool false]) ?_ 1 _ rfl; (with_reducible repeat (first | refine blk_drewN ?_ _ | refine blk_drew ?_ | refine blk_alloc ?_ _)); refine blk_put (cs := #[.int .i64 0, .int .i64 0, .int .i64 0, .bool false, .bool false]) ?_ 0 _ rfl; (with_reducible repeat (first | refine blk_drewN ?_ _ | refine blk_drew ?_ | refine blk_alloc ?_ _)); exact BK285.out⟩, ⟨by repeat (first | (with_reducible first | exact HB.out | apply below_alloc | apply pw_below_drewN | apply below_drew1 | refine below_set ?_ GE283.out | refine below_set ?_ GE285.out) | exact HB.out)⟩⟩
        ·
         rw [if_neg c15] at H
         have c15b0 : decide (((rd_T32 l0_0 x3_2).f0) < (-1)) = false := decide_eq_false c15
         clear c15
         (first | rw [c15b0] | (simp only [i64_w, i32_w]; rw [c15b0]) | skip)
         have H' := Aside0.mk H
         clear H
         have hnb18 := NB285_283.out
         have hnc18 := NB283_285.out
         have hcz19_0 : w12.cell? ⟨gb285, 0, none⟩ = some (.int .i64 0) := (blk_cell BK285.out 0).trans rfl
         have hcz19_1 : w12.cell? ⟨gb285, 1, none⟩ = some (.int .i64 0) := (blk_cell BK285.out 1).trans rfl
         have hcz19_2 : w12.cell? ⟨gb285, 2, none⟩ = some (.int .i64 0) := (blk_cell BK285.out 2).trans rfl
         have hcz19_3 : w12.cell? ⟨gb285, 3, none⟩ = some (.bool false) := (blk_cell BK285.out 3).trans rfl
         have hcz19_4 : w12.cell? ⟨gb285, 4, none⟩ = some (.bool false) := (blk_cell BK285.out 4).trans rfl
         have hfz19_0 := blk_frozen BK285.out 0
         have hfz19_1 := blk_frozen BK285.out 1
         have hfz19_2 := blk_frozen BK285.out 2
         have hfz19_3 := blk_frozen BK285.out 3
         have hfz19_4 := blk_frozen BK285.out 4
         go_wp2
         repeat (go_quiet (fail); try go_wp2)
         go_meet
         case rel => exact ⟨_, (decide (((rd_T32 l0_0 x3_2).f0) ≥ x3_2)), (by first | rfl | (simp; done) | (simp [*]; done)), H', ⟨by have := HJ1.out; have := HK2.out; first | omega | exact Nat.le_refl _⟩, ⟨by (with_reducible repeat (first | refine blk_drewN ?_ _ | refine blk_drew ?_ | refine blk_alloc ?_ _)); refine blk_far ?_ NB283_285.out _; (with_reducible repeat (first | refine blk_drewN ?_ _ | refine blk_drew ?_ | refine blk_alloc ?_ _)); refine blk_far ?_ NB283_285.out _; (with_reducible repeat (first | refine blk_drewN ?_ _ | refine blk_drew ?_ | refine blk_alloc ?_ _)); refine blk_far ?_ NB283_285.out _; (with_reducible repeat (first | refine blk_drewN ?_ _ | refine blk_drew ?_ | refine blk_alloc ?_ _)); refine blk_far ?_ NB283_285.out _; (with_reducible repeat (first | refine blk_drewN ?_ _ | refine blk_drew ?_ | refine blk_alloc ?_ _)); refine blk_far ?_ NB283_285.out _; (with_reducible repeat (first | refine blk_drewN ?_ _ | refine blk_drew ?_ | refine blk_alloc ?_ _)); exact BK283.out⟩, ⟨by (with_reducible repeat (first | refine blk_drewN ?_ _ | refine blk_drew ?_ | refine blk_alloc ?_ _)); refine blk_put (cs := #[.int .i64 ((rd_T32 l0_0 x3_2).f0), .int .i64 ((rd_T32 l0_0 x3_2).f1), .int .i64 ((rd_T32 l0_0 x3_2).f2), .bool ((rd_T32 l0_0 x3_2).f3), .bool false]) ?_ 4 _ rfl; (with_reducible repeat (first | refine blk_drewN ?_ _ | refine blk_drew ?_ | refine blk_alloc ?_ _)); refine blk_put (cs := #[.int .i64 ((rd_T32 l0_0 x3_2).f0), .int .i64 ((rd_T32 l0_0 x3_2).f1), .int .i64 ((rd_T32 l0_0 x3_2).f2), .bool false, .bool false]) ?_ 3 _ rfl; (with_reducible repeat (first | refine blk_drewN ?_ _ | refine blk_drew ?_ | refine blk_alloc ?_ _)); refine blk_put (cs := #[.int .i64 ((rd_T32 l0_0 x3_2).f0), .int .i64 ((rd_T32 l0_0 x3_2).f1), .int .i64 0, .bool false, .bool false]) ?_ 2 _ rfl; (with_reducible repeat (first | refine blk_drewN ?_ _ | refine blk_drew ?_ | refine blk_alloc ?_ _)); refine blk_put (cs := #[.int .i64 ((rd_T32 l0_0 x3_2).f0), .int .i64 0, .int .i64 0, .bool false, .bool false]) ?_ 1 _ rfl; (with_reducible repeat (first | refine blk_drewN ?_ _ | refine blk_drew ?_ | refine blk_alloc ?_ _)); refine blk_put (cs := #[.int .i64 0, .int .i64 0, .int .i64 0, .bool false, .bool false]) ?_ 0 _ rfl; (with_reducible repeat (first | refine blk_drewN ?_ _ | refine blk_drew ?_ | refine blk_alloc ?_ _)); exact BK285.out⟩, ⟨by repeat (first | (with_reducible first | exact HB.out | apply below_alloc | apply pw_below_drewN | apply below_drew1 | refine below_set ?_ GE283.out | refine below_set ?_ GE285.out) | exact HB.out)⟩⟩
       case rest =>
        clear HC10
        try clear c1; try clear c2; try clear p2; try clear q2; try clear hx2; try clear c4; try clear c4b0; try clear c4b1; try clear c7; try clear c8; try clear c8b0; try clear c9; try clear c9b0; try clear c13; try clear c15; try clear c15b0; try clear c16; try clear c18; try clear hcz11_0; try clear hcz11_1
        try clear hcz11_2; try clear hcz14_0; try clear hcz14_1; try clear hcz14_2; try clear hcz14_3; try clear hcz14_4; try clear hcz17_0; try clear hcz17_1; try clear hcz17_2; try clear hcz17_3; try clear hcz17_4; try clear hcz19_0; try clear hcz19_1; try clear hcz19_2; try clear hcz19_3; try clear hcz19_4
        try clear hcz5_0; try clear hcz5_1; try clear hcz5_2; try clear hcz6_0; try clear hcz6_1; try clear hcz6_2; try clear hfz11_0; try clear hfz11_1; try clear hfz11_2; try clear hfz14_0; try clear hfz14_1; try clear hfz14_2; try clear hfz14_3; try clear hfz14_4; try clear hfz17_0; try clear hfz17_1; try clear hfz17_2
        try clear hfz17_3; try clear hfz17_4; try clear hfz19_0; try clear hfz19_1; try clear hfz19_2; try clear hfz19_3; try clear hfz19_4; try clear hfz5_0; try clear hfz5_1; try clear hfz5_2; try clear hfz6_0; try clear hfz6_1; try clear hfz6_2; try clear hx284_0; try clear hx284_1; try clear hx284_2; try clear hx284_3
        try clear hx284_4; try clear p2; try clear p284; try clear q284
        obtain ⟨kq, x37_9, rfl, HA, HJ9, BK283, BK285, HB⟩ := hcut
        cases kq with
        | zero => exact absurd HA.out (by simp [minecontrolref18_Check.j2])
        | succ kj9 =>
         have H := HA.out
         clear HA
         simp only [minecontrolref18_Check.j2] at H
         by_cases c20 : x37_9 = true
         ·
          subst c20
          have H1 : (some 16) = some r := by rw [if_pos rfl] at H; exact H
          clear H
          have H := H1
          clear H1
          obtain rfl := Option.some.inj H
          go_wp2
          repeat (go_quiet (fail); try go_wp2)
          go_ret
          exact ⟨by first | rfl | (simp [errW_none, errW_some] <;> rfl) | (simp [*, errW_none, errW_some] <;> rfl), by repeat (first | (with_reducible first | exact HB.out | apply below_alloc | apply pw_below_drewN | apply below_drew1 | refine below_set ?_ GE283.out | refine below_set ?_ GE285.out) | exact HB.out)⟩
         ·
          replace c20 := Bool.eq_false_iff.mpr c20
          subst c20
          have H1 : (if ((rd_T32 l0_0 x3_2).f1) < 0 then (minecontrolref18_Check.j3 kj9 x3_2 true l0_0 l0_1 a0_2 ((rd_T32 l0_0 x3_2).f0) ((rd_T32 l0_0 x3_2).f1) ((rd_T32 l0_0 x3_2).f2) ((rd_T32 l0_0 x3_2).f3) ((rd_T32 l0_0 x3_2).f4)) else (minecontrolref18_Check.j3 kj9 x3_2 (decide (((rd_T32 l0_0 x3_2).f1) > 2147483648)) l0_0 l0_1 a0_2 ((rd_T32 l0_0 x3_2).f0) ((rd_T32 l0_0 x3_2).f1) ((rd_T32 l0_0 x3_2).f2) ((rd_T32 l0_0 x3_2).f3) ((rd_T32 l0_0 x3_2).f4))) = some r := by rw [if_neg (show ¬ (false = true) by decide)] at H; exact H
          clear H
          have H := H1
          clear H1
          have HC21 := Aside0.mk H
          clear H
          go_upto_region 9 with (fail)
          repeat (go_quiet (fail); go_upto_region 9 with (fail))
          go_cut [45] (fun v45 wc => ∃ (kq : Nat) (x45_20 : Bool), v45 = .bool x45_20 ∧ Aside0 (minecontrolref18_Check.j3 kq x3_2 x45_20 l0_0 l0_1 a0_2 ((rd_T32 l0_0 x3_2).f0) ((rd_T32 l0_0 x3_2).f1) ((rd_T32 l0_0 x3_2).f2) ((rd_T32 l0_0 x3_2).f3) ((rd_T32 l0_0 x3_2).f4) = some r) ∧ Aside0 (kq ≤ kj9) ∧ Aside0 (wc.heap[gb283]? = some (.cells #[(.slice (some ad284) l0_0.length c0_0), (.slice A0_1 l0_1.length c0_1), .int .i64 a0_2] 28 (0, 0))) ∧ Aside0 (wc.heap[gb285]? = some (.cells #[.int .i64 ((rd_T32 l0_0 x3_2).f0), .int .i64 ((rd_T32 l0_0 x3_2).f1), .int .i64 ((rd_T32 l0_0 x3_2).f2), .bool ((rd_T32 l0_0 x3_2).f3), .bool ((rd_T32 l0_0 x3_2).f4)] 32 (0, 0))) ∧ Aside0 (Below w.heap.size w wc))
          case first =>
           have H := HC21.out
           clear HC21
           by_cases c22 : ((rd_T32 l0_0 x3_2).f1) < 0
           ·
            rw [if_pos c22] at H
            have c22b0 : decide (((rd_T32 l0_0 x3_2).f1) < 0) = true := decide_eq_true c22
            clear c22
            (first | rw [c22b0] | (simp only [i64_w, i32_w]; rw [c22b0]) | skip)
            have H' := Aside0.mk H
            clear H
            have hnb23 := NB285_283.out
            have hnc23 := NB283_285.out
            have hcz24_0 : wc.cell? ⟨gb285, 0, none⟩ = some (.int .i64 ((rd_T32 l0_0 x3_2).f0)) := (blk_cell BK285.out 0).trans rfl
            have hcz24_1 : wc.cell? ⟨gb285, 1, none⟩ = some (.int .i64 ((rd_T32 l0_0 x3_2).f1)) := (blk_cell BK285.out 1).trans rfl
            have hcz24_2 : wc.cell? ⟨gb285, 2, none⟩ = some (.int .i64 ((rd_T32 l0_0 x3_2).f2)) := (blk_cell BK285.out 2).trans rfl
            have hcz24_3 : wc.cell? ⟨gb285, 3, none⟩ = some (.bool ((rd_T32 l0_0 x3_2).f3)) := (blk_cell BK285.out 3).trans rfl
            have hcz24_4 : wc.cell? ⟨gb285, 4, none⟩ = some (.bool ((rd_T32 l0_0 x3_2).f4)) := (blk_cell BK285.out 4).trans rfl
            have hfz24_0 := blk_frozen BK285.out 0
            have hfz24_1 := blk_frozen BK285.out 1
            have hfz24_2 := blk_frozen BK285.out 2
            have hfz24_3 := blk_frozen BK285.out 3
            have hfz24_4 := blk_frozen BK285.out 4
            go_wp2
            repeat (go_quiet (fail); try go_wp2)
            go_meet
            case rel => exact ⟨_, (true), (by first | rfl | (simp; done) | (simp [*]; done)), H', ⟨by have := HJ1.out; have := HK2.out; have := HJ9.out; first | omega | exact Nat.le_refl _⟩, ⟨by (with_reducible repeat (first | refine blk_drewN ?_ _ | refine blk_drew ?_ | refine blk_alloc ?_ _)); exact BK283.out⟩, ⟨by (with_reducible repeat (first | refine blk_drewN ?_ _ | refine blk_drew ?_ | refine blk_alloc ?_ _)); exact BK285.out⟩, ⟨by repeat (first | (with_reducible first | exact HB.out | apply below_alloc | apply pw_below_drewN | apply below_drew1 | refine below_set ?_ GE283.out | refine below_set ?_ GE285.out) | exact HB.out)⟩⟩
           ·
            rw [if_neg c22] at H
            have c22b0 : decide (((rd_T32 l0_0 x3_2).f1) < 0) = false := decide_eq_false c22
            clear c22
            (first | rw [c22b0] | (simp only [i64_w, i32_w]; rw [c22b0]) | skip)
            have H' := Aside0.mk H
            clear H
            have hnb25 := NB285_283.out
            have hnc25 := NB283_285.out
            have hcz26_0 : wc.cell? ⟨gb285, 0, none⟩ = some (.int .i64 ((rd_T32 l0_0 x3_2).f0)) := (blk_cell BK285.out 0).trans rfl
            have hcz26_1 : wc.cell? ⟨gb285, 1, none⟩ = some (.int .i64 ((rd_T32 l0_0 x3_2).f1)) := (blk_cell BK285.out 1).trans rfl
            have hcz26_2 : wc.cell? ⟨gb285, 2, none⟩ = some (.int .i64 ((rd_T32 l0_0 x3_2).f2)) := (blk_cell BK285.out 2).trans rfl
            have hcz26_3 : wc.cell? ⟨gb285, 3, none⟩ = some (.bool ((rd_T32 l0_0 x3_2).f3)) := (blk_cell BK285.out 3).trans rfl
            have hcz26_4 : wc.cell? ⟨gb285, 4, none⟩ = some (.bool ((rd_T32 l0_0 x3_2).f4)) := (blk_cell BK285.out 4).trans rfl
            have hfz26_0 := blk_frozen BK285.out 0
            have hfz26_1 := blk_frozen BK285.out 1
            have hfz26_2 := blk_frozen BK285.out 2
            have hfz26_3 := blk_frozen BK285.out 3
            have hfz26_4 := blk_frozen BK285.out 4
            go_wp2
            repeat (go_quiet (fail); try go_wp2)
            go_meet
            case rel => exact ⟨_, (decide (((rd_T32 l0_0 x3_2).f1) > 2147483648)), (by first | rfl | (simp; done) | (simp [*]; done)), H', ⟨by have := HJ1.out; have := HK2.out; have := HJ9.out; first | omega | exact Nat.le_refl _⟩, ⟨by (with_reducible repeat (first | refine blk_drewN ?_ _ | refine blk_drew ?_ | refine blk_alloc ?_ _)); exact BK283.out⟩, ⟨by (with_reducible repeat (first | refine blk_drewN ?_ _ | refine blk_drew ?_ | refine blk_alloc ?_ _)); exact BK285.out⟩, ⟨by repeat (first | (with_reducible first | exact HB.out | apply below_alloc | apply pw_below_drewN | apply below_drew1 | refine below_set ?_ GE283.out | refine below_set ?_ GE285.out) | exact HB.out)⟩⟩
          case rest =>
           clear HC21
           try clear c1; try clear c2; try clear p2; try clear q2; try clear hx2; try clear c4; try clear c4b0; try clear c4b1; try clear c7; try clear c8; try clear c8b0; try clear c9; try clear c9b0; try clear c13; try clear c15; try clear c15b0; try clear c16; try clear c18; try clear c20; try clear c22; try clear c22b0
           try clear c23; try clear c25; try clear c26; try clear hcz11_0; try clear hcz11_1; try clear hcz11_2; try clear hcz14_0; try clear hcz14_1; try clear hcz14_2; try clear hcz14_3; try clear hcz14_4; try clear hcz17_0; try clear hcz17_1; try clear hcz17_2; try clear hcz17_3; try clear hcz17_4; try clear hcz19_0
           try clear hcz19_1; try clear hcz19_2; try clear hcz19_3; try clear hcz19_4; try clear hcz24_0; try clear hcz24_1; try clear hcz24_2; try clear hcz24_3; try clear hcz24_4; try clear hcz26_0; try clear hcz26_1; try clear hcz26_2; try clear hcz26_3; try clear hcz26_4; try clear hcz5_0; try clear hcz5_1
           try clear hcz5_2; try clear hcz6_0; try clear hcz6_1; try clear hcz6_2; try clear hfz11_0; try clear hfz11_1; try clear hfz11_2; try clear hfz14_0; try clear hfz14_1; try clear hfz14_2; try clear hfz14_3; try clear hfz14_4; try clear hfz17_0; try clear hfz17_1; try clear hfz17_2; try clear hfz17_3; try clear hfz17_4
           try clear hfz19_0; try clear hfz19_1; try clear hfz19_2; try clear hfz19_3; try clear hfz19_4; try clear hfz24_0; try clear hfz24_1; try clear hfz24_2; try clear hfz24_3; try clear hfz24_4; try clear hfz26_0; try clear hfz26_1; try clear hfz26_2; try clear hfz26_3; try clear hfz26_4; try clear hfz5_0
           try clear hfz5_1; try clear hfz5_2; try clear hfz6_0; try clear hfz6_1; try clear hfz6_2; try clear hx284_0; try clear hx284_1; try clear hx284_2; try clear hx284_3; try clear hx284_4; try clear p2; try clear p284; try clear q2; try clear q284
           obtain ⟨kq, x45_20, rfl, HA, HJ20, BK283, BK285, HB⟩ := hcut
           cases kq with
           | zero => exact absurd HA.out (by simp [minecontrolref18_Check.j3])
           | succ kj20 =>
            have H := HA.out
            clear HA
            simp only [minecontrolref18_Check.j3] at H
            by_cases c27 : x45_20 = true
            ·
             subst c27
             have H1 : (some 8) = some r := by rw [if_pos rfl] at H; exact H
             clear H
             have H := H1
             clear H1
             obtain rfl := Option.some.inj H
             go_wp2
             repeat (go_quiet (fail); try go_wp2)
             go_ret
             exact ⟨by first | rfl | (simp [errW_none, errW_some] <;> rfl) | (simp [*, errW_none, errW_some] <;> rfl), by repeat (first | (with_reducible first | exact HB.out | apply below_alloc | apply pw_below_drewN | apply below_drew1 | refine below_set ?_ GE283.out | refine below_set ?_ GE285.out) | exact HB.out)⟩
            ·
             replace c27 := Bool.eq_false_iff.mpr c27
             subst c27
             have H1 : (if ((rd_T32 l0_0 x3_2).f2) < (-1) then (some 10) else (if ((rd_T32 l0_0 x3_2).f2) > 1 then (some 10) else (if ((rd_T32 l0_0 x3_2).f4) = true then (if ((rd_T32 l0_0 x3_2).f3) = true then (some 10) else (if ((rd_T32 l0_0 x3_2).f2) = (-1) then (some 10) else (minecontrolref18_Check.l0 kj20 (wrap64 (x3_2 + 1)) l0_0 l0_1 a0_2))) else (minecontrolref18_Check.l0 kj20 (wrap64 (x3_2 + 1)) l0_0 l0_1 a0_2)))) = some r := by rw [if_neg (show ¬ (false = true) by decide)] at H; exact H
             clear H
             have H := H1
             clear H1
             by_cases c28 : ((rd_T32 l0_0 x3_2).f2) < (-1)
             ·
              rw [if_pos c28] at H
              have c28b0 : decide (((rd_T32 l0_0 x3_2).f2) < (-1)) = true := decide_eq_true c28
              clear c28
              obtain rfl := Option.some.inj H
              have hnb29 := NB285_283.out
              have hnc29 := NB283_285.out
              have hcz30_0 : wc.cell? ⟨gb285, 0, none⟩ = some (.int .i64 ((rd_T32 l0_0 x3_2).f0)) := (blk_cell BK285.out 0).trans rfl
              have hcz30_1 : wc.cell? ⟨gb285, 1, none⟩ = some (.int .i64 ((rd_T32 l0_0 x3_2).f1)) := (blk_cell BK285.out 1).trans rfl
              have hcz30_2 : wc.cell? ⟨gb285, 2, none⟩ = some (.int .i64 ((rd_T32 l0_0 x3_2).f2)) := (blk_cell BK285.out 2).trans rfl
              have hcz30_3 : wc.cell? ⟨gb285, 3, none⟩ = some (.bool ((rd_T32 l0_0 x3_2).f3)) := (blk_cell BK285.out 3).trans rfl
              have hcz30_4 : wc.cell? ⟨gb285, 4, none⟩ = some (.bool ((rd_T32 l0_0 x3_2).f4)) := (blk_cell BK285.out 4).trans rfl
              have hfz30_0 := blk_frozen BK285.out 0
              have hfz30_1 := blk_frozen BK285.out 1
              have hfz30_2 := blk_frozen BK285.out 2
              have hfz30_3 := blk_frozen BK285.out 3
              have hfz30_4 := blk_frozen BK285.out 4
              go_wp2
              repeat (go_quiet (fail); try go_wp2)
              go_ret
              exact ⟨by first | rfl | (simp [errW_none, errW_some] <;> rfl) | (simp [*, errW_none, errW_some] <;> rfl), by repeat (first | (with_reducible first | exact HB.out | apply below_alloc | apply pw_below_drewN | apply below_drew1 | refine below_set ?_ GE283.out | refine below_set ?_ GE285.out) | exact HB.out)⟩
             ·
              rw [if_neg c28] at H
              have c28b0 : decide (((rd_T32 l0_0 x3_2).f2) < (-1)) = false := decide_eq_false c28
              clear c28
              by_cases c31 : ((rd_T32 l0_0 x3_2).f2) > 1
              ·
               rw [if_pos c31] at H
               have c31b0 : decide (1 < ((rd_T32 l0_0 x3_2).f2)) = true := decide_eq_true c31
               clear c31
               obtain rfl := Option.some.inj H
               have hnb32 := NB285_283.out
               have hnc32 := NB283_285.out
               have hcz33_0 : wc.cell? ⟨gb285, 0, none⟩ = some (.int .i64 ((rd_T32 l0_0 x3_2).f0)) := (blk_cell BK285.out 0).trans rfl
               have hcz33_1 : wc.cell? ⟨gb285, 1, none⟩ = some (.int .i64 ((rd_T32 l0_0 x3_2).f1)) := (blk_cell BK285.out 1).trans rfl
               have hcz33_2 : wc.cell? ⟨gb285, 2, none⟩ = some (.int .i64 ((rd_T32 l0_0 x3_2).f2)) := (blk_cell BK285.out 2).trans rfl
               have hcz33_3 : wc.cell? ⟨gb285, 3, none⟩ = some (.bool ((rd_T32 l0_0 x3_2).f3)) := (blk_cell BK285.out 3).trans rfl
               have hcz33_4 : wc.cell? ⟨gb285, 4, none⟩ = some (.bool ((rd_T32 l0_0 x3_2).f4)) := (blk_cell BK285.out 4).trans rfl
               have hfz33_0 := blk_frozen BK285.out 0
               have hfz33_1 := blk_frozen BK285.out 1
               have hfz33_2 := blk_frozen BK285.out 2
               have hfz33_3 := blk_frozen BK285.out 3
               have hfz33_4 := blk_frozen BK285.out 4
               go_wp2
               repeat (go_quiet (fail); try go_wp2)
               go_ret
               exact ⟨by first | rfl | (simp [errW_none, errW_some] <;> rfl) | (simp [*, errW_none, errW_some] <;> rfl), by repeat (first | (with_reducible first | exact HB.out | apply below_alloc | apply pw_below_drewN | apply below_drew1 | refine below_set ?_ GE283.out | refine below_set ?_ GE285.out) | exact HB.out)⟩
              ·
               rw [if_neg c31] at H
               have c31b0 : decide (1 < ((rd_T32 l0_0 x3_2).f2)) = false := decide_eq_false c31
               clear c31
               by_cases c34 : ((rd_T32 l0_0 x3_2).f4) = true
               ·
                rw [if_pos c34] at H
                have c34b0 : ((rd_T32 l0_0 x3_2).f4) = true := c34
                clear c34
                by_cases c35 : ((rd_T32 l0_0 x3_2).f3) = true
                ·
                 rw [if_pos c35] at H
                 have c35b0 : ((rd_T32 l0_0 x3_2).f3) = true := c35
                 clear c35
                 obtain rfl := Option.some.inj H
                 have hnb36 := NB285_283.out
                 have hnc36 := NB283_285.out
                 have hcz37_0 : wc.cell? ⟨gb285, 0, none⟩ = some (.int .i64 ((rd_T32 l0_0 x3_2).f0)) := (blk_cell BK285.out 0).trans rfl
                 have hcz37_1 : wc.cell? ⟨gb285, 1, none⟩ = some (.int .i64 ((rd_T32 l0_0 x3_2).f1)) := (blk_cell BK285.out 1).trans rfl
                 have hcz37_2 : wc.cell? ⟨gb285, 2, none⟩ = some (.int .i64 ((rd_T32 l0_0 x3_2).f2)) := (blk_cell BK285.out 2).trans rfl
                 have hcz37_3 : wc.cell? ⟨gb285, 3, none⟩ = some (.bool ((rd_T32 l0_0 x3_2).f3)) := (blk_cell BK285.out 3).trans rfl
                 have hcz37_4 : wc.cell? ⟨gb285, 4, none⟩ = some (.bool ((rd_T32 l0_0 x3_2).f4)) := (blk_cell BK285.out 4).trans rfl
                 have hfz37_0 := blk_frozen BK285.out 0
                 have hfz37_1 := blk_frozen BK285.out 1
                 have hfz37_2 := blk_frozen BK285.out 2
                 have hfz37_3 := blk_frozen BK285.out 3
                 have hfz37_4 := blk_frozen BK285.out 4
                 go_wp2
                 repeat (go_quiet (fail); try go_wp2)
                 go_ret
                 exact ⟨by first | rfl | (simp [errW_none, errW_some] <;> rfl) | (simp [*, errW_none, errW_some] <;> rfl), by repeat (first | (with_reducible first | exact HB.out | apply below_alloc | apply pw_below_drewN | apply below_drew1 | refine below_set ?_ GE283.out | refine below_set ?_ GE285.out) | exact HB.out)⟩
                ·
                 rw [if_neg c35] at H
                 have c35b0 : ((rd_T32 l0_0 x3_2).f3) = false := by simpa using c35
                 clear c35
                 by_cases c38 : ((rd_T32 l0_0 x3_2).f2) = (-1)
                 ·
                  rw [if_pos c38] at H
                  have c38b0 : (((rd_T32 l0_0 x3_2).f2) == (-1)) = true := beq_iff_eq.mpr c38
                  have c38b1 : (((rd_T32 l0_0 x3_2).f2) != (-1)) = false := bne_eq_false_iff_eq.mpr c38
                  clear c38
                  obtain rfl := Option.some.inj H
                  have hnb39 := NB285_283.out
                  have hnc39 := NB283_285.out
                  have hcz40_0 : wc.cell? ⟨gb285, 0, none⟩ = some (.int .i64 ((rd_T32 l0_0 x3_2).f0)) := (blk_cell BK285.out 0).trans rfl
                  have hcz40_1 : wc.cell? ⟨gb285, 1, none⟩ = some (.int .i64 ((rd_T32 l0_0 x3_2).f1)) := (blk_cell BK285.out 1).trans rfl
                  have hcz40_2 : wc.cell? ⟨gb285, 2, none⟩ = some (.int .i64 ((rd_T32 l0_0 x3_2).f2)) := (blk_cell BK285.out 2).trans rfl
                  have hcz40_3 : wc.cell? ⟨gb285, 3, none⟩ = some (.bool ((rd_T32 l0_0 x3_2).f3)) := (blk_cell BK285.out 3).trans rfl
                  have hcz40_4 : wc.cell? ⟨gb285, 4, none⟩ = some (.bool ((rd_T32 l0_0 x3_2).f4)) := (blk_cell BK285.out 4).trans rfl
                  have hfz40_0 := blk_frozen BK285.out 0
                  have hfz40_1 := blk_frozen BK285.out 1
                  have hfz40_2 := blk_frozen BK285.out 2
                  have hfz40_3 := blk_frozen BK285.out 3
                  have hfz40_4 := blk_frozen BK285.out 4
                  go_wp2
                  repeat (go_quiet (fail); try go_wp2)
                  go_ret
                  exact ⟨by first | rfl | (simp [errW_none, errW_some] <;> rfl) | (simp [*, errW_none, errW_some] <;> rfl), by repeat (first | (with_reducible first | exact HB.out | apply below_alloc | apply pw_below_drewN | apply below_drew1 | refine below_set ?_ GE283.out | refine below_set ?_ GE285.out) | exact HB.out)⟩
                 ·
                  rw [if_neg c38] at H
                  have c38b0 : (((rd_T32 l0_0 x3_2).f2) == (-1)) = false := beq_eq_false_iff_ne.mpr c38
                  have c38b1 : (((rd_T32 l0_0 x3_2).f2) != (-1)) = true := bne_iff_ne.mpr c38
                  have H' := Aside0.mk H
                  clear H
                  have hnb41 := NB285_283.out
                  have hnc41 := NB283_285.out
                  have hcz42_0 : wc.cell? ⟨gb285, 0, none⟩ = some (.int .i64 ((rd_T32 l0_0 x3_2).f0)) := (blk_cell BK285.out 0).trans rfl
                  have hcz42_1 : wc.cell? ⟨gb285, 1, none⟩ = some (.int .i64 ((rd_T32 l0_0 x3_2).f1)) := (blk_cell BK285.out 1).trans rfl
                  have hcz42_2 : wc.cell? ⟨gb285, 2, none⟩ = some (.int .i64 ((rd_T32 l0_0 x3_2).f2)) := (blk_cell BK285.out 2).trans rfl
                  have hcz42_3 : wc.cell? ⟨gb285, 3, none⟩ = some (.bool ((rd_T32 l0_0 x3_2).f3)) := (blk_cell BK285.out 3).trans rfl
                  have hcz42_4 : wc.cell? ⟨gb285, 4, none⟩ = some (.bool ((rd_T32 l0_0 x3_2).f4)) := (blk_cell BK285.out 4).trans rfl
                  have hfz42_0 := blk_frozen BK285.out 0
                  have hfz42_1 := blk_frozen BK285.out 1
                  have hfz42_2 := blk_frozen BK285.out 2
                  have hfz42_3 := blk_frozen BK285.out 3
                  have hfz42_4 := blk_frozen BK285.out 4
                  go_wp2
                  repeat (go_quiet (fail); try go_wp2)
                  go_roundg kj20
                  case measure => have := HJ1.out; have := HK2.out; have := HJ9.out; have := HJ20.out; omega
                  case rel => exact ⟨(wrap64 (x3_2 + 1)), (by first | rfl | (simp; done) | (simp [*]; done)), H', ⟨by have := HJ1.out; have := HK2.out; have := HJ9.out; have := HJ20.out; omega⟩, ⟨by (with_reducible repeat (first | refine blk_drewN ?_ _ | refine blk_drew ?_ | refine blk_alloc ?_ _)); exact BK283.out⟩, ⟨by repeat (first | (with_reducible first | exact HB.out | apply below_alloc | apply pw_below_drewN | apply below_drew1 | refine below_set ?_ GE283.out | refine below_set ?_ GE285.out) | exact HB.out)⟩⟩
               ·
                rw [if_neg c34] at H
                have c34b0 : ((rd_T32 l0_0 x3_2).f4) = false := by simpa using c34
                clear c34
                have H' := Aside0.mk H
                clear H
                have hnb43 := NB285_283.out
                have hnc43 := NB283_285.out
                have hcz44_0 : wc.cell? ⟨gb285, 0, none⟩ = some (.int .i64 ((rd_T32 l0_0 x3_2).f0)) := (blk_cell BK285.out 0).trans rfl
                have hcz44_1 : wc.cell? ⟨gb285, 1, none⟩ = some (.int .i64 ((rd_T32 l0_0 x3_2).f1)) := (blk_cell BK285.out 1).trans rfl
                have hcz44_2 : wc.cell? ⟨gb285, 2, none⟩ = some (.int .i64 ((rd_T32 l0_0 x3_2).f2)) := (blk_cell BK285.out 2).trans rfl
                have hcz44_3 : wc.cell? ⟨gb285, 3, none⟩ = some (.bool ((rd_T32 l0_0 x3_2).f3)) := (blk_cell BK285.out 3).trans rfl
                have hcz44_4 : wc.cell? ⟨gb285, 4, none⟩ = some (.bool ((rd_T32 l0_0 x3_2).f4)) := (blk_cell BK285.out 4).trans rfl
                have hfz44_0 := blk_frozen BK285.out 0
                have hfz44_1 := blk_frozen BK285.out 1
                have hfz44_2 := blk_frozen BK285.out 2
                have hfz44_3 := blk_frozen BK285.out 3
                have hfz44_4 := blk_frozen BK285.out 4
                go_wp2
                repeat (go_quiet (fail); try go_wp2)
                go_roundg kj20
                case measure => have := HJ1.out; have := HK2.out; have := HJ9.out; have := HJ20.out; omega
                case rel => exact ⟨(wrap64 (x3_2 + 1)), (by first | rfl | (simp; done) | (simp [*]; done)), H', ⟨by have := HJ1.out; have := HK2.out; have := HJ9.out; have := HJ20.out; omega⟩, ⟨by (with_reducible repeat (first | refine blk_drewN ?_ _ | refine blk_drew ?_ | refine blk_alloc ?_ _)); exact BK283.out⟩, ⟨by repeat (first | (with_reducible first | exact HB.out | apply below_alloc | apply pw_below_drewN | apply below_drew1 | refine below_set ?_ GE283.out | refine below_set ?_ GE285.out) | exact HB.out)⟩⟩
      ·
       rw [if_neg c8] at H
       have c8b0 : decide (x3_2 < (l0_0.length : Int)) = false := decide_eq_false c8
       clear c8
       have H' := Aside0.mk H
       clear H
       have hcz45_0 : wr.cell? ⟨gb283, 0, none⟩ = some (.slice A0_0 l0_0.length c0_0) := (blk_cell BK283.out 0).trans rfl
       have hcz45_1 : wr.cell? ⟨gb283, 1, none⟩ = some (.slice A0_1 l0_1.length c0_1) := (blk_cell BK283.out 1).trans rfl
       have hcz45_2 : wr.cell? ⟨gb283, 2, none⟩ = some (.int .i64 a0_2) := (blk_cell BK283.out 2).trans rfl
       have hfz45_0 := blk_frozen BK283.out 0
       have hfz45_1 := blk_frozen BK283.out 1
       have hfz45_2 := blk_frozen BK283.out 2
       go_wp2
       repeat (go_quiet (fail); try go_wp2)
       go_loopg [5] k2 (fun kq v5 w' => ∃ (x5_3 : Int), v5 = .int .i64 x5_3 ∧ Aside0 (minecontrolref18_Check.l1 kq x5_3 l0_0 l0_1 a0_2 = some r) ∧ Aside0 (kq ≤ k2) ∧ Aside0 (w'.heap[gb283]? = some (.cells #[(.slice A0_0 l0_0.length c0_0), (.slice A0_1 l0_1.length c0_1), .int .i64 a0_2] 28 (0, 0))) ∧ Aside0 (Below w.heap.size w w'))
       case atStart => exact ⟨(0), (by first | rfl | (simp; done) | (simp [*]; done)), H', ⟨Nat.le_refl _⟩, ⟨by (with_reducible repeat (first | refine blk_drewN ?_ _ | refine blk_drew ?_ | refine blk_alloc ?_ _)); exact BK283.out⟩, ⟨by repeat (first | (with_reducible first | exact HB.out | apply below_alloc | apply pw_below_drewN | apply below_drew1 | refine below_set ?_ GE283.out) | exact HB.out)⟩⟩
       case round =>
        clear H'
        try clear c1; try clear c2; try clear p2; try clear q2; try clear hx2; try clear c3; try clear c4; try clear c4b0; try clear c4b1; try clear p6; try clear c7; try clear c8; try clear c8b0; try clear c9; try clear c9b0; try clear c13; try clear c15; try clear c15b0; try clear c16; try clear c18; try clear c20
        try clear c22; try clear c22b0; try clear c23; try clear c25; try clear c26; try clear c27; try clear c28; try clear c28b0; try clear p28; try clear q28; try clear hx28; try clear c29; try clear c31; try clear c31b0; try clear c32; try clear c34; try clear c34b0; try clear c35; try clear c35b0; try clear c36
        try clear c38; try clear c38b0; try clear c38b1; try clear c39; try clear c41; try clear c43; try clear hcz11_0; try clear hcz11_1; try clear hcz11_2; try clear hcz14_0; try clear hcz14_1; try clear hcz14_2; try clear hcz14_3; try clear hcz14_4; try clear hcz17_0; try clear hcz17_1; try clear hcz17_2
        try clear hcz17_3; try clear hcz17_4; try clear hcz19_0; try clear hcz19_1; try clear hcz19_2; try clear hcz19_3; try clear hcz19_4; try clear hcz24_0; try clear hcz24_1; try clear hcz24_2; try clear hcz24_3; try clear hcz24_4; try clear hcz26_0; try clear hcz26_1; try clear hcz26_2; try clear hcz26_3
        try clear hcz26_4; try clear hcz30_0; try clear hcz30_1; try clear hcz30_2; try clear hcz30_3; try clear hcz30_4; try clear hcz33_0; try clear hcz33_1; try clear hcz33_2; try clear hcz33_3; try clear hcz33_4; try clear hcz37_0; try clear hcz37_1; try clear hcz37_2; try clear hcz37_3; try clear hcz37_4
        try clear hcz40_0; try clear hcz40_1; try clear hcz40_2; try clear hcz40_3; try clear hcz40_4; try clear hcz42_0; try clear hcz42_1; try clear hcz42_2; try clear hcz42_3; try clear hcz42_4; try clear hcz44_0; try clear hcz44_1; try clear hcz44_2; try clear hcz44_3; try clear hcz44_4; try clear hcz45_0
        try clear hcz45_1; try clear hcz45_2; try clear hcz5_0; try clear hcz5_1; try clear hcz5_2; try clear hcz6_0; try clear hcz6_1; try clear hcz6_2; try clear hfz11_0; try clear hfz11_1; try clear hfz11_2; try clear hfz14_0; try clear hfz14_1; try clear hfz14_2; try clear hfz14_3; try clear hfz14_4; try clear hfz17_0
        try clear hfz17_1; try clear hfz17_2; try clear hfz17_3; try clear hfz17_4; try clear hfz19_0; try clear hfz19_1; try clear hfz19_2; try clear hfz19_3; try clear hfz19_4; try clear hfz24_0; try clear hfz24_1; try clear hfz24_2; try clear hfz24_3; try clear hfz24_4; try clear hfz26_0; try clear hfz26_1
        try clear hfz26_2; try clear hfz26_3; try clear hfz26_4; try clear hfz30_0; try clear hfz30_1; try clear hfz30_2; try clear hfz30_3; try clear hfz30_4; try clear hfz33_0; try clear hfz33_1; try clear hfz33_2; try clear hfz33_3; try clear hfz33_4; try clear hfz37_0; try clear hfz37_1; try clear hfz37_2
        try clear hfz37_3; try clear hfz37_4; try clear hfz40_0; try clear hfz40_1; try clear hfz40_2; try clear hfz40_3; try clear hfz40_4; try clear hfz42_0; try clear hfz42_1; try clear hfz42_2; try clear hfz42_3; try clear hfz42_4; try clear hfz44_0; try clear hfz44_1; try clear hfz44_2; try clear hfz44_3
        try clear hfz44_4; try clear hfz45_0; try clear hfz45_1; try clear hfz45_2; try clear hfz5_0; try clear hfz5_1; try clear hfz5_2; try clear hfz6_0; try clear hfz6_1; try clear hfz6_2; try clear hx284_0; try clear hx284_1; try clear hx284_2; try clear hx284_3; try clear hx284_4; try clear p2; try clear p284
        try clear q2; try clear q284
        obtain ⟨x5_3, rfl, HA, HK3, BK283, HB⟩ := hrel
        cases gk with
        | zero => exact absurd HA.out (by simp [minecontrolref18_Check.l1])
        | succ k3 =>
         have H := HA.out
         clear HA
         simp only [minecontrolref18_Check.l1] at H
         by_cases c46 : x5_3 < (l0_1.length : Int)
         ·
          rw [if_pos c46] at H
          have c46b0 : decide (x5_3 < (l0_1.length : Int)) = true := decide_eq_true c46
          clear c46
          have HC47 := Aside0.mk H
          clear H
          have hcz48_0 : wr.cell? ⟨gb283, 0, none⟩ = some (.slice A0_0 l0_0.length c0_0) := (blk_cell BK283.out 0).trans rfl
          have hcz48_1 : wr.cell? ⟨gb283, 1, none⟩ = some (.slice A0_1 l0_1.length c0_1) := (blk_cell BK283.out 1).trans rfl
          have hcz48_2 : wr.cell? ⟨gb283, 2, none⟩ = some (.int .i64 a0_2) := (blk_cell BK283.out 2).trans rfl
          have hfz48_0 := blk_frozen BK283.out 0
          have hfz48_1 := blk_frozen BK283.out 1
          have hfz48_2 := blk_frozen BK283.out 2
          go_upto_region 16 with (fail)
          repeat (go_quiet (fail); go_upto_region 16 with (fail))
          go_cut [90] (fun v90 wc => ∃ (kq : Nat) (x90_46 : Bool), v90 = .bool x90_46 ∧ Aside0 (minecontrolref18_Check.j5 kq x5_3 x90_46 l0_0 l0_1 a0_2 = some r) ∧ Aside0 (kq ≤ k3) ∧ Aside0 (wc.heap[gb283]? = some (.cells #[(.slice A0_0 l0_0.length c0_0), (.slice A0_1 l0_1.length c0_1), .int .i64 a0_2] 28 (0, 0))) ∧ Aside0 (Below w.heap.size w wc))
          case first =>
           have H := HC47.out
           clear HC47
           by_cases c49 : 0 ≤ x5_3
           rotate_left
           ·
            rw [if_neg c49] at H
            exact absurd H (by simp)
           rw [if_pos c49] at H
           have c49b0 : decide (0 ≤ x5_3) = true := decide_eq_true c49
           clear c49
           (first | rw [c49b0] | (simp only [i64_w, i32_w]; rw [c49b0]) | skip)
           by_cases c50 : (rd l0_1 x5_3) < 0
           ·
            rw [if_pos c50] at H
            have c50b0 : decide ((rd l0_1 x5_3) < 0) = true := decide_eq_true c50
            clear c50
            have H' := Aside0.mk H
            clear H
            have hcz51_0 : wr.cell? ⟨gb283, 0, none⟩ = some (.slice A0_0 l0_0.length c0_0) := (blk_cell BK283.out 0).trans rfl
            have hcz51_1 : wr.cell? ⟨gb283, 1, none⟩ = some (.slice A0_1 l0_1.length c0_1) := (blk_cell BK283.out 1).trans rfl
            have hcz51_2 : wr.cell? ⟨gb283, 2, none⟩ = some (.int .i64 a0_2) := (blk_cell BK283.out 2).trans rfl
            have hfz51_0 := blk_frozen BK283.out 0
            have hfz51_1 := blk_frozen BK283.out 1
            have hfz51_2 := blk_frozen BK283.out 2
            have p286 : 0 ≤ (x5_3 : Int) := of_decide_eq_true (by first | (with_reducible assumption) | assumption)
            have q286 : x5_3 < (l0_1.length : Int) := of_decide_eq_true (by first | (with_reducible assumption) | assumption)
            obtain ⟨ad286, e286, hx286_0⟩ := Kd.at_int HR0_1.out x5_3 p286 q286
            cases e286
            try replace hx286_0 := (HB.out.cell (World.block_lt_of_cell? w _ hx286_0)).trans hx286_0
            replace p286 := eq_true p286
            replace q286 := eq_true q286
            go_wp2
            repeat (go_quiet (fail); try go_wp2)
            go_meet
            case rel => exact ⟨_, (true), (by first | rfl | (simp; done) | (simp [*]; done)), H', ⟨by have := HJ1.out; have := HK2.out; have := HK3.out; first | omega | exact Nat.le_refl _⟩, ⟨by (with_reducible repeat (first | refine blk_drewN ?_ _ | refine blk_drew ?_ | refine blk_alloc ?_ _)); exact BK283.out⟩, ⟨by repeat (first | (with_reducible first | exact HB.out | apply below_alloc | apply pw_below_drewN | apply below_drew1 | refine below_set ?_ GE283.out) | exact HB.out)⟩⟩
           ·
            rw [if_neg c50] at H
            have c50b0 : decide ((rd l0_1 x5_3) < 0) = false := decide_eq_false c50
            clear c50
            have H' := Aside0.mk H
            clear H
            have hcz52_0 : wr.cell? ⟨gb283, 0, none⟩ = some (.slice A0_0 l0_0.length c0_0) := (blk_cell BK283.out 0).trans rfl
            have hcz52_1 : wr.cell? ⟨gb283, 1, none⟩ = some (.slice A0_1 l0_1.length c0_1) := (blk_cell BK283.out 1).trans rfl
            have hcz52_2 : wr.cell? ⟨gb283, 2, none⟩ = some (.int .i64 a0_2) := (blk_cell BK283.out 2).trans rfl
            have hfz52_0 := blk_frozen BK283.out 0
            have hfz52_1 := blk_frozen BK283.out 1
            have hfz52_2 := blk_frozen BK283.out 2
            have p286 : 0 ≤ (x5_3 : Int) := of_decide_eq_true (by first | (with_reducible assumption) | assumption)
            have q286 : x5_3 < (l0_1.length : Int) := of_decide_eq_true (by first | (with_reducible assumption) | assumption)
            obtain ⟨ad286, e286, hx286_0⟩ := Kd.at_int HR0_1.out x5_3 p286 q286
            cases e286
            try replace hx286_0 := (HB.out.cell (World.block_lt_of_cell? w _ hx286_0)).trans hx286_0
            replace p286 := eq_true p286
            replace q286 := eq_true q286
            have p287 : 0 ≤ (x5_3 : Int) := of_decide_eq_true (by first | (with_reducible assumption) | assumption)
            have q287 : x5_3 < (l0_1.length : Int) := of_decide_eq_true (by first | (with_reducible assumption) | assumption)
            obtain ⟨ad287, e287, hx287_0⟩ := Kd.at_int HR0_1.out x5_3 p287 q287
            obtain rfl : ad286 = ad287 := (by injection e287)
            try replace hx287_0 := (HB.out.cell (World.block_lt_of_cell? w _ hx287_0)).trans hx287_0
            replace p287 := eq_true p287
            replace q287 := eq_true q287
            go_wp2
            repeat (go_quiet (fail); try go_wp2)
            go_meet
            case rel => exact ⟨_, (decide ((rd l0_1 x5_3) ≥ (l0_0.length : Int))), (by first | rfl | (simp; done) | (simp [*]; done)), H', ⟨by have := HJ1.out; have := HK2.out; have := HK3.out; first | omega | exact Nat.le_refl _⟩, ⟨by (with_reducible repeat (first | refine blk_drewN ?_ _ | refine blk_drew ?_ | refine blk_alloc ?_ _)); exact BK283.out⟩, ⟨by repeat (first | (with_reducible first | exact HB.out | apply below_alloc | apply pw_below_drewN | apply below_drew1 | refine below_set ?_ GE283.out) | exact HB.out)⟩⟩
          case rest =>
           clear HC47
           try clear c1; try clear c2; try clear p2; try clear q2; try clear hx2; try clear c3; try clear c4; try clear c4b0; try clear c4b1; try clear c5; try clear p6; try clear c7; try clear c8; try clear c8b0; try clear c9; try clear c9b0; try clear c13; try clear c15; try clear c15b0; try clear c16; try clear c18
           try clear c20; try clear c22; try clear c22b0; try clear c23; try clear c25; try clear c26; try clear c27; try clear c28; try clear c28b0; try clear p28; try clear q28; try clear hx28; try clear c29; try clear c31; try clear c31b0; try clear c32; try clear c34; try clear c34b0; try clear c35; try clear c35b0
           try clear c36; try clear c38; try clear c38b0; try clear c38b1; try clear c39; try clear c41; try clear c43; try clear c46; try clear c46b0; try clear c49; try clear c49b0; try clear c50; try clear c50b0; try clear hcz11_0; try clear hcz11_1; try clear hcz11_2; try clear hcz14_0; try clear hcz14_1; try clear hcz14_2
           try clear hcz14_3; try clear hcz14_4; try clear hcz17_0; try clear hcz17_1; try clear hcz17_2; try clear hcz17_3; try clear hcz17_4; try clear hcz19_0; try clear hcz19_1; try clear hcz19_2; try clear hcz19_3; try clear hcz19_4; try clear hcz24_0; try clear hcz24_1; try clear hcz24_2; try clear hcz24_3
           try clear hcz24_4; try clear hcz26_0; try clear hcz26_1; try clear hcz26_2; try clear hcz26_3; try clear hcz26_4; try clear hcz30_0; try clear hcz30_1; try clear hcz30_2; try clear hcz30_3; try clear hcz30_4; try clear hcz33_0; try clear hcz33_1; try clear hcz33_2; try clear hcz33_3; try clear hcz33_4
           try clear hcz37_0; try clear hcz37_1; try clear hcz37_2; try clear hcz37_3; try clear hcz37_4; try clear hcz40_0; try clear hcz40_1; try clear hcz40_2; try clear hcz40_3; try clear hcz40_4; try clear hcz42_0; try clear hcz42_1; try clear hcz42_2; try clear hcz42_3; try clear hcz42_4; try clear hcz44_0
           try clear hcz44_1; try clear hcz44_2; try clear hcz44_3; try clear hcz44_4; try clear hcz45_0; try clear hcz45_1; try clear hcz45_2; try clear hcz48_0; try clear hcz48_1; try clear hcz48_2; try clear hcz51_0; try clear hcz51_1; try clear hcz51_2; try clear hcz52_0; try clear hcz52_1; try clear hcz52_2
           try clear hcz5_0; try clear hcz5_1; try clear hcz5_2; try clear hcz6_0; try clear hcz6_1; try clear hcz6_2; try clear hfz11_0; try clear hfz11_1; try clear hfz11_2; try clear hfz14_0; try clear hfz14_1; try clear hfz14_2; try clear hfz14_3; try clear hfz14_4; try clear hfz17_0; try clear hfz17_1; try clear hfz17_2
           try clear hfz17_3; try clear hfz17_4; try clear hfz19_0; try clear hfz19_1; try clear hfz19_2; try clear hfz19_3; try clear hfz19_4; try clear hfz24_0; try clear hfz24_1; try clear hfz24_2; try clear hfz24_3; try clear hfz24_4; try clear hfz26_0; try clear hfz26_1; try clear hfz26_2; try clear hfz26_3
           try clear hfz26_4; try clear hfz30_0; try clear hfz30_1; try clear hfz30_2; try clear hfz30_3; try clear hfz30_4; try clear hfz33_0; try clear hfz33_1; try clear hfz33_2; try clear hfz33_3; try clear hfz33_4; try clear hfz37_0; try clear hfz37_1; try clear hfz37_2; try clear hfz37_3; try clear hfz37_4
           try clear hfz40_0; try clear hfz40_1; try clear hfz40_2; try clear hfz40_3; try clear hfz40_4; try clear hfz42_0; try clear hfz42_1; try clear hfz42_2; try clear hfz42_3; try clear hfz42_4; try clear hfz44_0; try clear hfz44_1; try clear hfz44_2; try clear hfz44_3; try clear hfz44_4; try clear hfz45_0
           try clear hfz45_1; try clear hfz45_2; try clear hfz48_0; try clear hfz48_1; try clear hfz48_2; try clear hfz51_0; try clear hfz51_1; try clear hfz51_2; try clear hfz52_0; try clear hfz52_1; try clear hfz52_2; try clear hfz5_0; try clear hfz5_1; try clear hfz5_2; try clear hfz6_0; try clear hfz6_1; try clear hfz6_2
           try clear hx284_0; try clear hx284_1; try clear hx284_2; try clear hx284_3; try clear hx284_4; try clear hx286_0; try clear hx287_0; try clear p2; try clear p28; try clear p284; try clear p286; try clear p287; try clear p6; try clear q2; try clear q28; try clear q284; try clear q286; try clear q287
           obtain ⟨kq, x90_46, rfl, HA, HJ46, BK283, HB⟩ := hcut
           cases kq with
           | zero => exact absurd HA.out (by simp [minecontrolref18_Check.j5])
           | succ kj46 =>
            have H := HA.out
            clear HA
            simp only [minecontrolref18_Check.j5] at H
            by_cases c53 : x90_46 = true
            ·
             subst c53
             have H1 : (some 16) = some r := by rw [if_pos rfl] at H; exact H
             clear H
             have H := H1
             clear H1
             obtain rfl := Option.some.inj H
             go_wp2
             repeat (go_quiet (fail); try go_wp2)
             go_ret
             exact ⟨by first | rfl | (simp [errW_none, errW_some] <;> rfl) | (simp [*, errW_none, errW_some] <;> rfl), by repeat (first | (with_reducible first | exact HB.out | apply below_alloc | apply pw_below_drewN | apply below_drew1 | refine below_set ?_ GE283.out) | exact HB.out)⟩
            ·
             replace c53 := Bool.eq_false_iff.mpr c53
             subst c53
             have H1 : (minecontrolref18_Check.l2 kj46 x5_3 0 l0_0 l0_1 a0_2) = some r := by rw [if_neg (show ¬ (false = true) by decide)] at H; exact H
             clear H
             have H := H1
             clear H1
             have H' := Aside0.mk H
             clear H
             go_wp2
             repeat (go_quiet (fail); try go_wp2)
             go_loopg [6] kj46 (fun kq v6 w' => ∃ (x6_5 : Int), v6 = .int .i64 x6_5 ∧ Aside0 (minecontrolref18_Check.l2 kq x5_3 x6_5 l0_0 l0_1 a0_2 = some r) ∧ Aside0 (kq ≤ kj46) ∧ Aside0 (w'.heap[gb283]? = some (.cells #[(.slice A0_0 l0_0.length c0_0), (.slice A0_1 l0_1.length c0_1), .int .i64 a0_2] 28 (0, 0))) ∧ Aside0 (Below w.heap.size w w'))
             case atStart => exact ⟨(0), (by first | rfl | (simp; done) | (simp [*]; done)), H', ⟨Nat.le_refl _⟩, ⟨by (with_reducible repeat (first | refine blk_drewN ?_ _ | refine blk_drew ?_ | refine blk_alloc ?_ _)); exact BK283.out⟩, ⟨by repeat (first | (with_reducible first | exact HB.out | apply below_alloc | apply pw_below_drewN | apply below_drew1 | refine below_set ?_ GE283.out) | exact HB.out)⟩⟩
             case round =>
              clear H'
              try clear c1; try clear c2; try clear p2; try clear q2; try clear hx2; try clear c3; try clear c4; try clear c4b0; try clear c4b1; try clear c5; try clear p6; try clear c7; try clear c8; try clear c8b0; try clear c9; try clear c9b0; try clear c13; try clear c15; try clear c15b0; try clear c16; try clear c18
              try clear c20; try clear c22; try clear c22b0; try clear c23; try clear c25; try clear c26; try clear c27; try clear c28; try clear c28b0; try clear p28; try clear q28; try clear hx28; try clear c29; try clear c31; try clear c31b0; try clear c32; try clear c34; try clear c34b0; try clear c35; try clear c35b0
              try clear c36; try clear c38; try clear c38b0; try clear c38b1; try clear c39; try clear c41; try clear c43; try clear c46; try clear c46b0; try clear c49; try clear c49b0; try clear c50; try clear c50b0; try clear c53; try clear hcz11_0; try clear hcz11_1; try clear hcz11_2; try clear hcz14_0; try clear hcz14_1
              try clear hcz14_2; try clear hcz14_3; try clear hcz14_4; try clear hcz17_0; try clear hcz17_1; try clear hcz17_2; try clear hcz17_3; try clear hcz17_4; try clear hcz19_0; try clear hcz19_1; try clear hcz19_2; try clear hcz19_3; try clear hcz19_4; try clear hcz24_0; try clear hcz24_1; try clear hcz24_2
              try clear hcz24_3; try clear hcz24_4; try clear hcz26_0; try clear hcz26_1; try clear hcz26_2; try clear hcz26_3; try clear hcz26_4; try clear hcz30_0; try clear hcz30_1; try clear hcz30_2; try clear hcz30_3; try clear hcz30_4; try clear hcz33_0; try clear hcz33_1; try clear hcz33_2; try clear hcz33_3
              try clear hcz33_4; try clear hcz37_0; try clear hcz37_1; try clear hcz37_2; try clear hcz37_3; try clear hcz37_4; try clear hcz40_0; try clear hcz40_1; try clear hcz40_2; try clear hcz40_3; try clear hcz40_4; try clear hcz42_0; try clear hcz42_1; try clear hcz42_2; try clear hcz42_3; try clear hcz42_4
              try clear hcz44_0; try clear hcz44_1; try clear hcz44_2; try clear hcz44_3; try clear hcz44_4; try clear hcz45_0; try clear hcz45_1; try clear hcz45_2; try clear hcz48_0; try clear hcz48_1; try clear hcz48_2; try clear hcz51_0; try clear hcz51_1; try clear hcz51_2; try clear hcz52_0; try clear hcz52_1
              try clear hcz52_2; try clear hcz5_0; try clear hcz5_1; try clear hcz5_2; try clear hcz6_0; try clear hcz6_1; try clear hcz6_2; try clear hfz11_0; try clear hfz11_1; try clear hfz11_2; try clear hfz14_0; try clear hfz14_1; try clear hfz14_2; try clear hfz14_3; try clear hfz14_4; try clear hfz17_0; try clear hfz17_1
              try clear hfz17_2; try clear hfz17_3; try clear hfz17_4; try clear hfz19_0; try clear hfz19_1; try clear hfz19_2; try clear hfz19_3; try clear hfz19_4; try clear hfz24_0; try clear hfz24_1; try clear hfz24_2; try clear hfz24_3; try clear hfz24_4; try clear hfz26_0; try clear hfz26_1; try clear hfz26_2
              try clear hfz26_3; try clear hfz26_4; try clear hfz30_0; try clear hfz30_1; try clear hfz30_2; try clear hfz30_3; try clear hfz30_4; try clear hfz33_0; try clear hfz33_1; try clear hfz33_2; try clear hfz33_3; try clear hfz33_4; try clear hfz37_0; try clear hfz37_1; try clear hfz37_2; try clear hfz37_3
              try clear hfz37_4; try clear hfz40_0; try clear hfz40_1; try clear hfz40_2; try clear hfz40_3; try clear hfz40_4; try clear hfz42_0; try clear hfz42_1; try clear hfz42_2; try clear hfz42_3; try clear hfz42_4; try clear hfz44_0; try clear hfz44_1; try clear hfz44_2; try clear hfz44_3; try clear hfz44_4
              try clear hfz45_0; try clear hfz45_1; try clear hfz45_2; try clear hfz48_0; try clear hfz48_1; try clear hfz48_2; try clear hfz51_0; try clear hfz51_1; try clear hfz51_2; try clear hfz52_0; try clear hfz52_1; try clear hfz52_2; try clear hfz5_0; try clear hfz5_1; try clear hfz5_2; try clear hfz6_0; try clear hfz6_1
              try clear hfz6_2; try clear hx284_0; try clear hx284_1; try clear hx284_2; try clear hx284_3; try clear hx284_4; try clear hx286_0; try clear hx287_0; try clear p2; try clear p28; try clear p284; try clear p286; try clear p287; try clear p6; try clear q2; try clear q28; try clear q284; try clear q286
              try clear q287
              obtain ⟨x6_5, rfl, HA, HK5, BK283, HB⟩ := hrel
              cases gk with
              | zero => exact absurd HA.out (by simp [minecontrolref18_Check.l2])
              | succ k5 =>
               have H := HA.out
               clear HA
               simp only [minecontrolref18_Check.l2] at H
               by_cases c54 : x6_5 < x5_3
               ·
                rw [if_pos c54] at H
                have c54b0 : decide (x6_5 < x5_3) = true := decide_eq_true c54
                clear c54
                by_cases c55 : 0 ≤ x6_5
                rotate_left
                ·
                 rw [if_neg c55] at H
                 exact absurd H (by simp)
                rw [if_pos c55] at H
                have c55b0 : decide (0 ≤ x6_5) = true := decide_eq_true c55
                clear c55
                by_cases c56 : x6_5 < (l0_1.length : Int)
                rotate_left
                ·
                 rw [if_neg c56] at H
                 exact absurd H (by simp)
                rw [if_pos c56] at H
                have c56b0 : decide (x6_5 < (l0_1.length : Int)) = true := decide_eq_true c56
                clear c56
                by_cases c57 : 0 ≤ x5_3
                rotate_left
                ·
                 rw [if_neg c57] at H
                 exact absurd H (by simp)
                rw [if_pos c57] at H
                have c57b0 : decide (0 ≤ x5_3) = true := decide_eq_true c57
                clear c57
                by_cases c58 : x5_3 < (l0_1.length : Int)
                rotate_left
                ·
                 rw [if_neg c58] at H
                 exact absurd H (by simp)
                rw [if_pos c58] at H
                have c58b0 : decide (x5_3 < (l0_1.length : Int)) = true := decide_eq_true c58
                clear c58
                by_cases c59 : (rd l0_1 x6_5) = (rd l0_1 x5_3)
                ·
                 rw [if_pos c59] at H
                 have c59b0 : ((rd l0_1 x6_5) == (rd l0_1 x5_3)) = true := beq_iff_eq.mpr c59
                 have c59b1 : ((rd l0_1 x6_5) != (rd l0_1 x5_3)) = false := bne_eq_false_iff_eq.mpr c59
                 clear c59
                 obtain rfl := Option.some.inj H
                 have hcz60_0 : wr.cell? ⟨gb283, 0, none⟩ = some (.slice A0_0 l0_0.length c0_0) := (blk_cell BK283.out 0).trans rfl
                 have hcz60_1 : wr.cell? ⟨gb283, 1, none⟩ = some (.slice A0_1 l0_1.length c0_1) := (blk_cell BK283.out 1).trans rfl
                 have hcz60_2 : wr.cell? ⟨gb283, 2, none⟩ = some (.int .i64 a0_2) := (blk_cell BK283.out 2).trans rfl
                 have hfz60_0 := blk_frozen BK283.out 0
                 have hfz60_1 := blk_frozen BK283.out 1
                 have hfz60_2 := blk_frozen BK283.out 2
                 have p288 : 0 ≤ (x6_5 : Int) := of_decide_eq_true (by first | (with_reducible assumption) | assumption)
                 have q288 : x6_5 < (l0_1.length : Int) := of_decide_eq_true (by first | (with_reducible assumption) | assumption)
                 obtain ⟨ad288, e288, hx288_0⟩ := Kd.at_int HR0_1.out x6_5 p288 q288
                 cases e288
                 try replace hx288_0 := (HB.out.cell (World.block_lt_of_cell? w _ hx288_0)).trans hx288_0
                 replace p288 := eq_true p288
                 replace q288 := eq_true q288
                 have p289 : 0 ≤ (x5_3 : Int) := of_decide_eq_true (by first | (with_reducible assumption) | assumption)
                 have q289 : x5_3 < (l0_1.length : Int) := of_decide_eq_true (by first | (with_reducible assumption) | assumption)
                 obtain ⟨ad289, e289, hx289_0⟩ := Kd.at_int HR0_1.out x5_3 p289 q289
                 obtain rfl : ad288 = ad289 := (by injection e289)
                 try replace hx289_0 := (HB.out.cell (World.block_lt_of_cell? w _ hx289_0)).trans hx289_0
                 replace p289 := eq_true p289
                 replace q289 := eq_true q289
                 go_wp2
                 repeat (go_quiet (fail); try go_wp2)
                 go_ret
                 exact ⟨by first | rfl | (simp [errW_none, errW_some] <;> rfl) | (simp [*, errW_none, errW_some] <;> rfl), by repeat (first | (with_reducible first | exact HB.out | apply below_alloc | apply pw_below_drewN | apply below_drew1 | refine below_set ?_ GE283.out) | exact HB.out)⟩
                ·
                 rw [if_neg c59] at H
                 have c59b0 : ((rd l0_1 x6_5) == (rd l0_1 x5_3)) = false := beq_eq_false_iff_ne.mpr c59
                 have c59b1 : ((rd l0_1 x6_5) != (rd l0_1 x5_3)) = true := bne_iff_ne.mpr c59
                 have H' := Aside0.mk H
                 clear H
                 have hcz61_0 : wr.cell? ⟨gb283, 0, none⟩ = some (.slice A0_0 l0_0.length c0_0) := (blk_cell BK283.out 0).trans rfl
                 have hcz61_1 : wr.cell? ⟨gb283, 1, none⟩ = some (.slice A0_1 l0_1.length c0_1) := (blk_cell BK283.out 1).trans rfl
                 have hcz61_2 : wr.cell? ⟨gb283, 2, none⟩ = some (.int .i64 a0_2) := (blk_cell BK283.out 2).trans rfl
                 have hfz61_0 := blk_frozen BK283.out 0
                 have hfz61_1 := blk_frozen BK283.out 1
                 have hfz61_2 := blk_frozen BK283.out 2
                 have p288 : 0 ≤ (x6_5 : Int) := of_decide_eq_true (by first | (with_reducible assumption) | assumption)
                 have q288 : x6_5 < (l0_1.length : Int) := of_decide_eq_true (by first | (with_reducible assumption) | assumption)
                 obtain ⟨ad288, e288, hx288_0⟩ := Kd.at_int HR0_1.out x6_5 p288 q288
                 cases e288
                 try replace hx288_0 := (HB.out.cell (World.block_lt_of_cell? w _ hx288_0)).trans hx288_0
                 replace p288 := eq_true p288
                 replace q288 := eq_true q288
                 have p289 : 0 ≤ (x5_3 : Int) := of_decide_eq_true (by first | (with_reducible assumption) | assumption)
                 have q289 : x5_3 < (l0_1.length : Int) := of_decide_eq_true (by first | (with_reducible assumption) | assumption)
                 obtain ⟨ad289, e289, hx289_0⟩ := Kd.at_int HR0_1.out x5_3 p289 q289
                 obtain rfl : ad288 = ad289 := (by injection e289)
                 try replace hx289_0 := (HB.out.cell (World.block_lt_of_cell? w _ hx289_0)).trans hx289_0
                 replace p289 := eq_true p289
                 replace q289 := eq_true q289
                 go_wp2
                 repeat (go_quiet (fail); try go_wp2)
                 go_roundg k5
                 case measure => have := HJ1.out; have := HK2.out; have := HK3.out; have := HJ46.out; have := HK5.out; omega
                 case rel => exact ⟨(wrap64 (x6_5 + 1)), (by first | rfl | (simp; done) | (simp [*]; done)), H', ⟨by have := HJ1.out; have := HK2.out; have := HK3.out; have := HJ46.out; have := HK5.out; omega⟩, ⟨by (with_reducible repeat (first | refine blk_drewN ?_ _ | refine blk_drew ?_ | refine blk_alloc ?_ _)); exact BK283.out⟩, ⟨by repeat (first | (with_reducible first | exact HB.out | apply below_alloc | apply pw_below_drewN | apply below_drew1 | refine below_set ?_ GE283.out) | exact HB.out)⟩⟩
               ·
                rw [if_neg c54] at H
                have c54b0 : decide (x6_5 < x5_3) = false := decide_eq_false c54
                clear c54
                have H' := Aside0.mk H
                clear H
                go_wp2
                repeat (go_quiet (fail); try go_wp2)
                go_roundg k5
                case measure => have := HJ1.out; have := HK2.out; have := HK3.out; have := HJ46.out; have := HK5.out; omega
                case rel => exact ⟨(wrap64 (x5_3 + 1)), (by first | rfl | (simp; done) | (simp [*]; done)), H', ⟨by have := HJ1.out; have := HK2.out; have := HK3.out; have := HJ46.out; have := HK5.out; omega⟩, ⟨by (with_reducible repeat (first | refine blk_drewN ?_ _ | refine blk_drew ?_ | refine blk_alloc ?_ _)); exact BK283.out⟩, ⟨by repeat (first | (with_reducible first | exact HB.out | apply below_alloc | apply pw_below_drewN | apply below_drew1 | refine below_set ?_ GE283.out) | exact HB.out)⟩⟩
         ·
          rw [if_neg c46] at H
          have c46b0 : decide (x5_3 < (l0_1.length : Int)) = false := decide_eq_false c46
          clear c46
          by_cases c62 : a0_2 < 1
          ·
           rw [if_pos c62] at H
           have c62b0 : decide (a0_2 < 1) = true := decide_eq_true c62
           clear c62
           obtain rfl := Option.some.inj H
           have hcz63_0 : wr.cell? ⟨gb283, 0, none⟩ = some (.slice A0_0 l0_0.length c0_0) := (blk_cell BK283.out 0).trans rfl
           have hcz63_1 : wr.cell? ⟨gb283, 1, none⟩ = some (.slice A0_1 l0_1.length c0_1) := (blk_cell BK283.out 1).trans rfl
           have hcz63_2 : wr.cell? ⟨gb283, 2, none⟩ = some (.int .i64 a0_2) := (blk_cell BK283.out 2).trans rfl
           have hfz63_0 := blk_frozen BK283.out 0
           have hfz63_1 := blk_frozen BK283.out 1
           have hfz63_2 := blk_frozen BK283.out 2
           go_wp2
           repeat (go_quiet (fail); try go_wp2)
           go_ret
           exact ⟨by first | rfl | (simp [errW_none, errW_some] <;> rfl) | (simp [*, errW_none, errW_some] <;> rfl), by repeat (first | (with_reducible first | exact HB.out | apply below_alloc | apply pw_below_drewN | apply below_drew1 | refine below_set ?_ GE283.out) | exact HB.out)⟩
          ·
           rw [if_neg c62] at H
           have c62b0 : decide (a0_2 < 1) = false := decide_eq_false c62
           clear c62
           by_cases c64 : a0_2 > 100000
           ·
            rw [if_pos c64] at H
            have c64b0 : decide (100000 < a0_2) = true := decide_eq_true c64
            clear c64
            obtain rfl := Option.some.inj H
            have hcz65_0 : wr.cell? ⟨gb283, 0, none⟩ = some (.slice A0_0 l0_0.length c0_0) := (blk_cell BK283.out 0).trans rfl
            have hcz65_1 : wr.cell? ⟨gb283, 1, none⟩ = some (.slice A0_1 l0_1.length c0_1) := (blk_cell BK283.out 1).trans rfl
            have hcz65_2 : wr.cell? ⟨gb283, 2, none⟩ = some (.int .i64 a0_2) := (blk_cell BK283.out 2).trans rfl
            have hfz65_0 := blk_frozen BK283.out 0
            have hfz65_1 := blk_frozen BK283.out 1
            have hfz65_2 := blk_frozen BK283.out 2
            go_wp2
            repeat (go_quiet (fail); try go_wp2)
            go_ret
            exact ⟨by first | rfl | (simp [errW_none, errW_some] <;> rfl) | (simp [*, errW_none, errW_some] <;> rfl), by repeat (first | (with_reducible first | exact HB.out | apply below_alloc | apply pw_below_drewN | apply below_drew1 | refine below_set ?_ GE283.out) | exact HB.out)⟩
           ·
            rw [if_neg c64] at H
            have c64b0 : decide (100000 < a0_2) = false := decide_eq_false c64
            clear c64
            obtain rfl := Option.some.inj H
            have hcz66_0 : wr.cell? ⟨gb283, 0, none⟩ = some (.slice A0_0 l0_0.length c0_0) := (blk_cell BK283.out 0).trans rfl
            have hcz66_1 : wr.cell? ⟨gb283, 1, none⟩ = some (.slice A0_1 l0_1.length c0_1) := (blk_cell BK283.out 1).trans rfl
            have hcz66_2 : wr.cell? ⟨gb283, 2, none⟩ = some (.int .i64 a0_2) := (blk_cell BK283.out 2).trans rfl
            have hfz66_0 := blk_frozen BK283.out 0
            have hfz66_1 := blk_frozen BK283.out 1
            have hfz66_2 := blk_frozen BK283.out 2
            go_wp2
            repeat (go_quiet (fail); try go_wp2)
            go_ret
            exact ⟨by first | rfl | (simp [errW_none, errW_some] <;> rfl) | (simp [*, errW_none, errW_some] <;> rfl), by repeat (first | (with_reducible first | exact HB.out | apply below_alloc | apply pw_below_drewN | apply below_drew1 | refine below_set ?_ GE283.out) | exact HB.out)⟩

end Go.Proofs.Ytcgeflbifbaecaa.PFec
