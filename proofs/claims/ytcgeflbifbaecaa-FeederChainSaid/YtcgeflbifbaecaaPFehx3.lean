/- Functions of the given program as Lean functions, and proofs that its calls come to what these say. Written by a program of this seat (wip/mkprint.py); Lean checks it all. -/
import Derived.Test.YtcgeflbifbaecaaPFehx0
namespace Go.Proofs.Ytcgeflbifbaecaa.PFeh
open Go.RowKit Go.Proofs.YtcgeflbifbaecaaW.PrintWords Go.Proofs.YtcgeflbifbaecaaW.PrintLast Go.Proofs.YtcgeflbifbaecaaW.PrintMore
attribute [local go_sem] max2_int min2_int max_two min_two max_three min_three max_four min_four   -- for this text's walks alone
set_option linter.unusedVariables false
set_option linter.unusedSimpArgs false

/-! ### feeder_Check: function 23 -/
mutual
def feeder_Check.j0 : Nat → Bool → List (S32) → List Int → Int → Option (Int)
 | 0, _, _, _, _ => none
 | k + 1, x17, x137000, x137001, x137002 => if x17 = true then (some 2) else (feeder_Check.l0 k x137000 (x137000.length : Int) 0 x137000 x137001 x137002)
def feeder_Check.l0 : Nat → List (S32) → Int → Int → List (S32) → List Int → Int → Option (Int)
 | 0, _, _, _, _, _, _ => none
 | k + 1, x19, x20, x21, x137000, x137001, x137002 => if x21 < x20 then (if 0 ≤ x21 then (if x21 < (x19.length : Int) then (if ((rd_T32 x19 x21).f0) < (-1) then (feeder_Check.j2 k x19 x20 x21 true x137000 x137001 x137002 ((rd_T32 x19 x21).f0) ((rd_T32 x19 x21).f1) ((rd_T32 x19 x21).f2) ((rd_T32 x19 x21).f3) ((rd_T32 x19 x21).f4)) else (feeder_Check.j2 k x19 x20 x21 (decide (((rd_T32 x19 x21).f0) ≥ x21)) x137000 x137001 x137002 ((rd_T32 x19 x21).f0) ((rd_T32 x19 x21).f1) ((rd_T32 x19 x21).f2) ((rd_T32 x19 x21).f3) ((rd_T32 x19 x21).f4))) else (none)) else (none)) else (if 0 ≤ (x137000.length : Int) then (if ((x137000.length : Int) : Int).toNat ≤ 281474976710656 then (feeder_Check.l1 k (List.replicate ((x137000.length : Int) : Int).toNat false) x137001 (x137001.length : Int) 0 x137000 x137001 x137002) else (none)) else (none))
def feeder_Check.j2 : Nat → List (S32) → Int → Int → Bool → List (S32) → List Int → Int → Int → Int → Int → Bool → Bool → Option (Int)
 | 0, _, _, _, _, _, _, _, _, _, _, _, _ => none
 | k + 1, x19, x20, x21, x34, x137000, x137001, x137002, x139000, x139001, x139002, x139003, x139004 => if x34 = true then (some 16) else (if x139001 < 0 then (feeder_Check.j3 k x19 x20 x21 true x137000 x137001 x137002 x139000 x139001 x139002 x139003 x139004) else (feeder_Check.j3 k x19 x20 x21 (decide (x139001 > 2147483648)) x137000 x137001 x137002 x139000 x139001 x139002 x139003 x139004))
def feeder_Check.j3 : Nat → List (S32) → Int → Int → Bool → List (S32) → List Int → Int → Int → Int → Int → Bool → Bool → Option (Int)
 | 0, _, _, _, _, _, _, _, _, _, _, _, _ => none
 | k + 1, x19, x20, x21, x42, x137000, x137001, x137002, x139000, x139001, x139002, x139003, x139004 => if x42 = true then (some 8) else (if x139002 < (-1) then (some 10) else (if x139002 > 1 then (some 10) else (if x139004 = true then (if x139003 = true then (some 10) else (if x139002 = (-1) then (some 10) else (feeder_Check.l0 k x19 x20 (wrap64 (x21 + 1)) x137000 x137001 x137002))) else (feeder_Check.l0 k x19 x20 (wrap64 (x21 + 1)) x137000 x137001 x137002))))
def feeder_Check.l1 : Nat → List Bool → List Int → Int → Int → List (S32) → List Int → Int → Option (Int)
 | 0, _, _, _, _, _, _, _ => none
 | k + 1, x5, x70, x71, x72, x137000, x137001, x137002 => if x72 < x71 then (if 0 ≤ x72 then (if x72 < (x70.length : Int) then (if (rd x70 x72) < 0 then (feeder_Check.j5 k x5 (rd x70 x72) x70 x71 x72 true x137000 x137001 x137002) else (feeder_Check.j5 k x5 (rd x70 x72) x70 x71 x72 (decide ((rd x70 x72) ≥ (x137000.length : Int))) x137000 x137001 x137002)) else (none)) else (none)) else (if x137002 < 1 then (some 1) else (if x137002 > 100000 then (some 1) else (some 0)))
def feeder_Check.j5 : Nat → List Bool → Int → List Int → Int → Int → Bool → List (S32) → List Int → Int → Option (Int)
 | 0, _, _, _, _, _, _, _, _, _ => none
 | k + 1, x5, x7, x70, x71, x72, x84, x137000, x137001, x137002 => if x84 = true then (some 16) else (if 0 ≤ x7 then (if x7 < (x5.length : Int) then (if rdOf false x5 x7 = true then (some 17) else (feeder_Check.l1 k (x5.set (x7 : Int).toNat true) x70 x71 (wrap64 (x72 + 1)) x137000 x137001 x137002)) else (none)) else (none))
end
def feeder_Check.f (k : Nat) (l0_0 : List (S32)) (l0_1 : List Int) (a0_2 : Int) : Option (Int) := if (l0_0.length : Int) > 32 then (feeder_Check.j0 k true l0_0 l0_1 a0_2) else (feeder_Check.j0 k (decide ((l0_1.length : Int) > 16)) l0_0 l0_1 a0_2)
theorem feeder_Check.mono_l : ∀ k, (∀ y0 y1 y2 y3, LeO (feeder_Check.j0 k y0 y1 y2 y3) (feeder_Check.j0 (k + 1) y0 y1 y2 y3)) ∧ (∀ y0 y1 y2 y3 y4 y5, LeO (feeder_Check.l0 k y0 y1 y2 y3 y4 y5) (feeder_Check.l0 (k + 1) y0 y1 y2 y3 y4 y5)) ∧ (∀ y0 y1 y2 y3 y4 y5 y6 y7 y8 y9 y10 y11, LeO (feeder_Check.j2 k y0 y1 y2 y3 y4 y5 y6 y7 y8 y9 y10 y11) (feeder_Check.j2 (k + 1) y0 y1 y2 y3 y4 y5 y6 y7 y8 y9 y10 y11)) ∧ (∀ y0 y1 y2 y3 y4 y5 y6 y7 y8 y9 y10 y11, LeO (feeder_Check.j3 k y0 y1 y2 y3 y4 y5 y6 y7 y8 y9 y10 y11) (feeder_Check.j3 (k + 1) y0 y1 y2 y3 y4 y5 y6 y7 y8 y9 y10 y11)) ∧ (∀ y0 y1 y2 y3 y4 y5 y6, LeO (feeder_Check.l1 k y0 y1 y2 y3 y4 y5 y6) (feeder_Check.l1 (k + 1) y0 y1 y2 y3 y4 y5 y6)) ∧ (∀ y0 y1 y2 y3 y4 y5 y6 y7 y8, LeO (feeder_Check.j5 k y0 y1 y2 y3 y4 y5 y6 y7 y8) (feeder_Check.j5 (k + 1) y0 y1 y2 y3 y4 y5 y6 y7 y8))
 | 0 => ⟨fun _ _ _ _ r h => by simp [feeder_Check.j0] at h, fun _ _ _ _ _ _ r h => by simp [feeder_Check.l0] at h, fun _ _ _ _ _ _ _ _ _ _ _ _ r h => by simp [feeder_Check.j2] at h, fun _ _ _ _ _ _ _ _ _ _ _ _ r h => by simp [feeder_Check.j3] at h, fun _ _ _ _ _ _ _ r h => by simp [feeder_Check.l1] at h, fun _ _ _ _ _ _ _ _ _ r h => by simp [feeder_Check.j5] at h⟩
 | k + 1 => by
  obtain ⟨ih0, ih1, ih2, ih3, ih4, ih5⟩ := feeder_Check.mono_l k
  refine ⟨?_, ?_, ?_, ?_, ?_, ?_⟩
  ·
   intro y0 y1 y2 y3
   unfold feeder_Check.j0
   repeat' first
   | (with_reducible exact ih0 _ _ _ _)
   | (with_reducible exact ih1 _ _ _ _ _ _)
   | (with_reducible exact ih2 _ _ _ _ _ _ _ _ _ _ _ _)
   | (with_reducible exact ih3 _ _ _ _ _ _ _ _ _ _ _ _)
   | (with_reducible exact ih4 _ _ _ _ _ _ _)
   | (with_reducible exact ih5 _ _ _ _ _ _ _ _ _)
   | (with_reducible exact LeO.refl _)
   | (with_reducible exact LeO.none _)
   | (with_reducible refine LeO.ite ?_ ?_)
   | (with_reducible refine LeO.bind ?_ (fun _ => ?_))
   | exact ih0 _ _ _ _
   | exact ih1 _ _ _ _ _ _
   | exact ih2 _ _ _ _ _ _ _ _ _ _ _ _
   | exact ih3 _ _ _ _ _ _ _ _ _ _ _ _
   | exact ih4 _ _ _ _ _ _ _
   | exact ih5 _ _ _ _ _ _ _ _ _
   | exact LeO.none _
   | refine LeO.ite ?_ ?_
   | refine LeO.bind ?_ (fun _ => ?_)
  ·
   intro y0 y1 y2 y3 y4 y5
   unfold feeder_Check.l0
   repeat' first
   | (with_reducible exact ih0 _ _ _ _)
   | (with_reducible exact ih1 _ _ _ _ _ _)
   | (with_reducible exact ih2 _ _ _ _ _ _ _ _ _ _ _ _)
   | (with_reducible exact ih3 _ _ _ _ _ _ _ _ _ _ _ _)
   | (with_reducible exact ih4 _ _ _ _ _ _ _)
   | (with_reducible exact ih5 _ _ _ _ _ _ _ _ _)
   | (with_reducible exact LeO.refl _)
   | (with_reducible exact LeO.none _)
   | (with_reducible refine LeO.ite ?_ ?_)
   | (with_reducible refine LeO.bind ?_ (fun _ => ?_))
   | exact ih0 _ _ _ _
   | exact ih1 _ _ _ _ _ _
   | exact ih2 _ _ _ _ _ _ _ _ _ _ _ _
   | exact ih3 _ _ _ _ _ _ _ _ _ _ _ _
   | exact ih4 _ _ _ _ _ _ _
   | exact ih5 _ _ _ _ _ _ _ _ _
   | exact LeO.none _
   | refine LeO.ite ?_ ?_
   | refine LeO.bind ?_ (fun _ => ?_)
  ·
   intro y0 y1 y2 y3 y4 y5 y6 y7 y8 y9 y10 y11
   unfold feeder_Check.j2
   repeat' first
   | (with_reducible exact ih0 _ _ _ _)
   | (with_reducible exact ih1 _ _ _ _ _ _)
   | (with_reducible exact ih2 _ _ _ _ _ _ _ _ _ _ _ _)
   | (with_reducible exact ih3 _ _ _ _ _ _ _ _ _ _ _ _)
   | (with_reducible exact ih4 _ _ _ _ _ _ _)
   | (with_reducible exact ih5 _ _ _ _ _ _ _ _ _)
   | (with_reducible exact LeO.refl _)
   | (with_reducible exact LeO.none _)
   | (with_reducible refine LeO.ite ?_ ?_)
   | (with_reducible refine LeO.bind ?_ (fun _ => ?_))
   | exact ih0 _ _ _ _
   | exact ih1 _ _ _ _ _ _
   | exact ih2 _ _ _ _ _ _ _ _ _ _ _ _
   | exact ih3 _ _ _ _ _ _ _ _ _ _ _ _
   | exact ih4 _ _ _ _ _ _ _
   | exact ih5 _ _ _ _ _ _ _ _ _
   | exact LeO.none _
   | refine LeO.ite ?_ ?_
   | refine LeO.bind ?_ (fun _ => ?_)
  ·
   intro y0 y1 y2 y3 y4 y5 y6 y7 y8 y9 y10 y11
   unfold feeder_Check.j3
   repeat' first
   | (with_reducible exact ih0 _ _ _ _)
   | (with_reducible exact ih1 _ _ _ _ _ _)
   | (with_reducible exact ih2 _ _ _ _ _ _ _ _ _ _ _ _)
   | (with_reducible exact ih3 _ _ _ _ _ _ _ _ _ _ _ _)
   | (with_reducible exact ih4 _ _ _ _ _ _ _)
   | (with_reducible exact ih5 _ _ _ _ _ _ _ _ _)
   | (with_reducible exact LeO.refl _)
   | (with_reducible exact LeO.none _)
   | (with_reducible refine LeO.ite ?_ ?_)
   | (with_reducible refine LeO.bind ?_ (fun _ => ?_))
   | exact ih0 _ _ _ _
   | exact ih1 _ _ _ _ _ _
   | exact ih2 _ _ _ _ _ _ _ _ _ _ _ _
   | exact ih3 _ _ _ _ _ _ _ _ _ _ _ _
   | exact ih4 _ _ _ _ _ _ _
   | exact ih5 _ _ _ _ _ _ _ _ _
   | exact LeO.none _
   | refine LeO.ite ?_ ?_
   | refine LeO.bind ?_ (fun _ => ?_)
  ·
   intro y0 y1 y2 y3 y4 y5 y6
   unfold feeder_Check.l1
   repeat' first
   | (with_reducible exact ih0 _ _ _ _)
   | (with_reducible exact ih1 _ _ _ _ _ _)
   | (with_reducible exact ih2 _ _ _ _ _ _ _ _ _ _ _ _)
   | (with_reducible exact ih3 _ _ _ _ _ _ _ _ _ _ _ _)
   | (with_reducible exact ih4 _ _ _ _ _ _ _)
   | (with_reducible exact ih5 _ _ _ _ _ _ _ _ _)
   | (with_reducible exact LeO.refl _)
   | (with_reducible exact LeO.none _)
   | (with_reducible refine LeO.ite ?_ ?_)
   | (with_reducible refine LeO.bind ?_ (fun _ => ?_))
   | exact ih0 _ _ _ _
   | exact ih1 _ _ _ _ _ _
   | exact ih2 _ _ _ _ _ _ _ _ _ _ _ _
   | exact ih3 _ _ _ _ _ _ _ _ _ _ _ _
   | exact ih4 _ _ _ _ _ _ _
   | exact ih5 _ _ _ _ _ _ _ _ _
   | exact LeO.none _
   | refine LeO.ite ?_ ?_
   | refine LeO.bind ?_ (fun _ => ?_)
  intro y0 y1 y2 y3 y4 y5 y6 y7 y8
  unfold feeder_Check.j5
  repeat' first
  | (with_reducible exact ih0 _ _ _ _)
  | (with_reducible exact ih1 _ _ _ _ _ _)
  | (with_reducible exact ih2 _ _ _ _ _ _ _ _ _ _ _ _)
  | (with_reducible exact ih3 _ _ _ _ _ _ _ _ _ _ _ _)
  | (with_reducible exact ih4 _ _ _ _ _ _ _)
  | (with_reducible exact ih5 _ _ _ _ _ _ _ _ _)
  | (with_reducible exact LeO.refl _)
  | (with_reducible exact LeO.none _)
  | (with_reducible refine LeO.ite ?_ ?_)
  | (with_reducible refine LeO.bind ?_ (fun _ => ?_))
  | exact ih0 _ _ _ _
  | exact ih1 _ _ _ _ _ _
  | exact ih2 _ _ _ _ _ _ _ _ _ _ _ _
  | exact ih3 _ _ _ _ _ _ _ _ _ _ _ _
  | exact ih4 _ _ _ _ _ _ _
  | exact ih5 _ _ _ _ _ _ _ _ _
  | exact LeO.none _
  | refine LeO.ite ?_ ?_
  | refine LeO.bind ?_ (fun _ => ?_)
theorem feeder_Check.mono : ∀ a0 a1 a2 k, LeO (feeder_Check.f k a0 a1 a2) (feeder_Check.f (k + 1) a0 a1 a2) := by
 intro a0 a1 a2 k
 obtain ⟨ih0, ih1, ih2, ih3, ih4, ih5⟩ := feeder_Check.mono_l k
 unfold feeder_Check.f
 repeat' first
   | (with_reducible exact ih0 _ _ _ _)
   | (with_reducible exact ih1 _ _ _ _ _ _)
   | (with_reducible exact ih2 _ _ _ _ _ _ _ _ _ _ _ _)
   | (with_reducible exact ih3 _ _ _ _ _ _ _ _ _ _ _ _)
   | (with_reducible exact ih4 _ _ _ _ _ _ _)
   | (with_reducible exact ih5 _ _ _ _ _ _ _ _ _)
   | (with_reducible exact LeO.refl _)
   | (with_reducible exact LeO.none _)
   | (with_reducible refine LeO.ite ?_ ?_)
   | (with_reducible refine LeO.bind ?_ (fun _ => ?_))
   | exact ih0 _ _ _ _
   | exact ih1 _ _ _ _ _ _
   | exact ih2 _ _ _ _ _ _ _ _ _ _ _ _
   | exact ih3 _ _ _ _ _ _ _ _ _ _ _ _
   | exact ih4 _ _ _ _ _ _ _
   | exact ih5 _ _ _ _ _ _ _ _ _
   | exact LeO.none _
   | refine LeO.ite ?_ ?_
   | refine LeO.bind ?_ (fun _ => ?_)
set_option maxHeartbeats 8000000 in
set_option maxRecDepth 100000 in
theorem feeder_Check.calls (k : Nat) (A0_0 : Option Addr) (c0_0 : Nat) (l0_0 : List (S32)) (A0_1 : Option Addr) (c0_1 : Nat) (l0_1 : List Int) (a0_2 : Int) (r : Int) (w : World) (hr0_0 : Kd.C k32 w A0_0 l0_0.length l0_0) (hc0_0 : l0_0.length ≤ c0_0) (hr0_1 : Kd.C (Kd.int .i64) w A0_1 l0_1.length l0_1) (hc0_1 : l0_1.length ≤ c0_1) (h : feeder_Check.f k l0_0 l0_1 a0_2 = some r) :
  Calls Try.prog 23 #[.agg #[.slice A0_0 l0_0.length c0_0, .slice A0_1 l0_1.length c0_1, .int .i64 a0_2]] w fun e w' => e = .returned (.int .i64 r) ∧ Below w.heap.size w w' := by
 have hu28 := Try.underlying28
 have hu32 := Try.underlying32
 have HR0_0 := aM hr0_0
 have HC0_0 := aM hc0_0
 clear hr0_0 hc0_0
 have HR0_1 := aM hr0_1
 have HC0_1 := aM hc0_1
 clear hr0_1 hc0_1
 have HB := aM (Below.refl w.heap.size w)
 have H : (if (l0_0.length : Int) > 32 then (feeder_Check.j0 k true l0_0 l0_1 a0_2) else (feeder_Check.j0 k (decide ((l0_1.length : Int) > 16)) l0_0 l0_1 a0_2)) = some r := h
 clear h
 have HC2 := aM H
 clear H
 go_enter Try.func23, Try.ntmps23
 go_upto_region 1 with (first | ((with_reducible refine gate_dst (N := 1) rfl ?_); (try (refine gate_guard (by rfl) ?_; dsimp only)); refine box_event ?hg (N := 1) ?hd (cs := #[.slice A0_0 l0_0.length c0_0, .slice A0_1 l0_1.length c0_1, .int .i64 a0_2]) (t := 28) ?hr ?_; (case hd => rfl); (case hg => rfl); (case hr => first | (go_simp; done) | (go_simp; rfl)); intro gb136 hg w3 hbox hb; have BK136 := aM (hbox); have GW136 := aM ((by rw [hg]; exact (below_size (below_mv HB.out)) : w.heap.size ≤ gb136)); have GE136 := aM ((by rw [hg]; exact (below_size (below_mv HB.out)) : w.heap.size ≤ gb136)); replace HB := aM (below_step (below_mv HB.out) hb); clear hb hbox hg))
 (try simp only [Act.put, List.setIfInBounds_toArray, List.set_cons_zero, List.set_cons_succ])
 go_cut [17] (fun v17 wc => ∃ (kq : Nat) (x17_1 : Bool), v17 = .bool x17_1 ∧ Aside0 (feeder_Check.j0 kq x17_1 l0_0 l0_1 a0_2 = some r) ∧ Aside0 (kq ≤ k) ∧ Aside0 (wc.heap[gb136]? = some (.cells #[(.slice A0_0 l0_0.length c0_0), (.slice A0_1 l0_1.length c0_1), .int .i64 a0_2] 28 (0, 0))) ∧ Aside0 (Below w.heap.size w wc))
 case first =>
  have H := HC2.out
  clear HC2
  by_cases c4 : (l0_0.length : Int) > 32
  ·
   rw [if_pos c4] at H
   have c4b0 : decide (32 < (l0_0.length : Int)) = true := decide_eq_true c4
   have c4b1 : decide (32 < l0_0.length) = true := decide_eq_true (by omega)
   clear c4
   (first | rw [c4b0] | (simp only [i64_w, i32_w]; rw [c4b0]) | skip)
   have H' := aM H
   clear H
   obtain ⟨hcz5_0, hcz5_1, hcz5_2, hfz5_0, hfz5_1, hfz5_2⟩ := blk3 BK136.out
   go_wp2
   go_meet
   case rel => exact ⟨_, (true), (by first | rfl | (simp; done) | (simp [*]; done)), H', ⟨by first | omega | exact Nat.le_refl _⟩, ⟨blk_mv BK136.out⟩, ⟨by repeat (first | (with_reducible first | exact HB.out | apply bA | apply bN | apply bD | refine below_set ?_ GE136.out) | exact HB.out)⟩⟩
  rw [if_neg c4] at H
  have c4b0 : decide (32 < (l0_0.length : Int)) = false := decide_eq_false c4
  have c4b1 : decide (32 < l0_0.length) = false := decide_eq_false (by omega)
  clear c4
  (first | rw [c4b0] | (simp only [i64_w, i32_w]; rw [c4b0]) | skip)
  have H' := aM H
  clear H
  obtain ⟨hcz6_0, hcz6_1, hcz6_2, hfz6_0, hfz6_1, hfz6_2⟩ := blk3 BK136.out
  go_wp2
  go_meet
  case rel => exact ⟨_, (decide ((l0_1.length : Int) > 16)), (by first | rfl | (simp; done) | (simp [*]; done)), H', ⟨by first | omega | exact Nat.le_refl _⟩, ⟨blk_mv BK136.out⟩, ⟨by repeat (first | (with_reducible first | exact HB.out | apply bA | apply bN | apply bD | refine below_set ?_ GE136.out) | exact HB.out)⟩⟩
 case rest =>
  clear HC2
  obtain ⟨kq, x17_1, rfl, HA, HJ1, BK136, HB⟩ := hcut
  cases kq with
  | zero => exact absurd HA.out (by simp [feeder_Check.j0])
  | succ kj1 =>
   have H := HA.out
   clear HA
   simp only [feeder_Check.j0] at H
   by_cases c7 : x17_1 = true
   ·
    subst c7
    have H1 : (some 2) = some r := by rw [if_pos rfl] at H; exact H
    clear H
    have H := H1
    clear H1
    obtain rfl := Option.some.inj H
    go_wp2
    go_ret
    exact ⟨by first | rfl | (simp [errW_none, errW_some] <;> rfl) | (simp [*, errW_none, errW_some] <;> rfl), by repeat (first | (with_reducible first | exact HB.out | apply bA | apply bN | apply bD | refine below_set ?_ GE136.out) | exact HB.out)⟩
   replace c7 := Bool.eq_false_iff.mpr c7
   subst c7
   have H1 : (feeder_Check.l0 kj1 l0_0 (l0_0.length : Int) 0 l0_0 l0_1 a0_2) = some r := by rw [if_neg (show ¬ (false = true) by decide)] at H; exact H
   clear H
   have H := H1
   clear H1
   have H' := aM H
   clear H
   obtain ⟨hcz8_0, hcz8_1, hcz8_2, hfz8_0, hfz8_1, hfz8_2⟩ := blk3 BK136.out
   go_wp2
   go_loopg [21] kj1 (fun kq v21 w' => ∃ (x21_2 : Int), v21 = .int .i64 x21_2 ∧ Aside0 (feeder_Check.l0 kq l0_0 (l0_0.length : Int) x21_2 l0_0 l0_1 a0_2 = some r) ∧ Aside0 (kq ≤ kj1) ∧ Aside0 (w'.heap[gb136]? = some (.cells #[(.slice A0_0 l0_0.length c0_0), (.slice A0_1 l0_1.length c0_1), .int .i64 a0_2] 28 (0, 0))) ∧ Aside0 (Below w.heap.size w w'))
   case atStart => exact ⟨(0), (by first | rfl | (simp; done) | (simp [*]; done)), H', ⟨Nat.le_refl _⟩, ⟨blk_mv BK136.out⟩, ⟨by repeat (first | (with_reducible first | exact HB.out | apply bA | apply bN | apply bD | refine below_set ?_ GE136.out) | exact HB.out)⟩⟩
   case round =>
    clear H'
    obtain ⟨x21_2, rfl, HA, HK2, BK136, HB⟩ := hrel
    cases gk with
    | zero => exact absurd HA.out (by simp [feeder_Check.l0])
    | succ k2 =>
     have H := HA.out
     clear HA
     simp only [feeder_Check.l0] at H
     by_cases c9 : x21_2 < (l0_0.length : Int)
     ·
      rw [if_pos c9] at H
      have c9b0 : decide (x21_2 < (l0_0.length : Int)) = true := decide_eq_true c9
      clear c9
      by_cases c10 : 0 ≤ x21_2
      rotate_left
      ·
       rw [if_neg c10] at H
       exact absurd H (by simp)
      rw [if_pos c10] at H
      have c10b0 : decide (0 ≤ x21_2) = true := decide_eq_true c10
      clear c10
      by_cases c11 : x21_2 < (l0_0.length : Int)
      rotate_left
      ·
       rw [if_neg c11] at H
       exact absurd H (by simp)
      rw [if_pos c11] at H
      have c11b0 : decide (x21_2 < (l0_0.length : Int)) = true := decide_eq_true c11
      clear c11
      have HC12 := aM H
      clear H
      have p137 : 0 ≤ (x21_2 : Int) := of_decide_eq_true (by first | (with_reducible assumption) | assumption)
      have q137 : x21_2 < (l0_0.length : Int) := of_decide_eq_true (by first | (with_reducible assumption) | assumption)
      obtain ⟨ad137, e137, hx137_0, hx137_1, hx137_2, hx137_3, hx137_4⟩ := at_T32 HR0_0.out x21_2 p137 q137
      cases e137
      try replace hx137_0 := (HB.out.cell (World.block_lt_of_cell? w _ hx137_0)).trans hx137_0
      try replace hx137_1 := (HB.out.cell (World.block_lt_of_cell? w _ hx137_1)).trans hx137_1
      try replace hx137_2 := (HB.out.cell (World.block_lt_of_cell? w _ hx137_2)).trans hx137_2
      try replace hx137_3 := (HB.out.cell (World.block_lt_of_cell? w _ hx137_3)).trans hx137_3
      try replace hx137_4 := (HB.out.cell (World.block_lt_of_cell? w _ hx137_4)).trans hx137_4
      replace p137 := eq_true p137
      replace q137 := eq_true q137
      go_upto_region 6 with (first | ((with_reducible refine gate_dst (N := 4) rfl ?_); (try (refine gate_guard (by rfl) ?_; dsimp only)); refine box_event ?hg (N := 4) ?hd (cs := #[.int .i64 0, .int .i64 0, .int .i64 0, .bool false, .bool false]) (t := 32) ?hr ?_; (case hd => rfl); (case hg => rfl); (case hr => first | (go_simp; done) | (go_simp; rfl)); intro gb138 hg w13 hbox hb; have BK138 := aM (hbox); have GW138 := aM ((by rw [hg]; exact (below_size (by repeat (first | (with_reducible first | exact HB.out | apply bA | apply bN | apply bD | refine below_set ?_ GE136.out) | exact HB.out))) : w.heap.size ≤ gb138)); have GE138 := aM ((by rw [hg]; exact (below_size (by repeat (first | (with_reducible first | exact HB.out | apply bA | apply bN | apply bD | refine below_set ?_ GE136.out) | exact HB.out))) : w.heap.size ≤ gb138)); replace HB := aM (below_step (by repeat (first | (with_reducible first | exact HB.out | apply bA | apply bN | apply bD | refine below_set ?_ GE136.out) | exact HB.out)) hb); have NB136_138 := aM ((by rw [hg]; exact Nat.ne_of_lt (blk_lt (blk_mv BK136.out)) : gb136 ≠ gb138)); have NB138_136 := aM ((by rw [hg]; exact Nat.ne_of_gt (blk_lt (blk_mv BK136.out)) : gb138 ≠ gb136)); replace BK136 := aM (blk_below (blk_mv BK136.out) hb); clear hb hbox hg; have hnb14 := NB138_136.out; have hnc14 := NB136_138.out; have hcz15_0 : w13.cell? ⟨gb138, 0, none⟩ = some (.int .i64 0) := (blk_cell BK138.out 0).trans rfl; have hcz15_1 : w13.cell? ⟨gb138, 1, none⟩ = some (.int .i64 0) := (blk_cell BK138.out 1).trans rfl; have hcz15_2 : w13.cell? ⟨gb138, 2, none⟩ = some (.int .i64 0) := (blk_cell BK138.out 2).trans rfl; have hcz15_3 : w13.cell? ⟨gb138, 3, none⟩ = some (.bool false) := (blk_cell BK138.out 3).trans rfl; have hcz15_4 : w13.cell? ⟨gb138, 4, none⟩ = some (.bool false) := (blk_cell BK138.out 4).trans rfl; have hfz15_0 := blk_frozen BK138.out 0; have hfz15_1 := blk_frozen BK138.out 1; have hfz15_2 := blk_frozen BK138.out 2; have hfz15_3 := blk_frozen BK138.out 3; have hfz15_4 := blk_frozen BK138.out 4))
      (try simp only [Act.put, List.setIfInBounds_toArray, List.set_cons_zero, List.set_cons_succ])
      go_cut [34] (fun v34 wc => ∃ (kq : Nat) (x34_11 : Bool), v34 = .bool x34_11 ∧ Aside0 (feeder_Check.j2 kq l0_0 (l0_0.length : Int) x21_2 x34_11 l0_0 l0_1 a0_2 ((rd_T32 l0_0 x21_2).f0) ((rd_T32 l0_0 x21_2).f1) ((rd_T32 l0_0 x21_2).f2) ((rd_T32 l0_0 x21_2).f3) ((rd_T32 l0_0 x21_2).f4) = some r) ∧ Aside0 (kq ≤ k2) ∧ Aside0 (wc.heap[gb136]? = some (.cells #[(.slice (some ad137) l0_0.length c0_0), (.slice A0_1 l0_1.length c0_1), .int .i64 a0_2] 28 (0, 0))) ∧ Aside0 (wc.heap[gb138]? = some (.cells #[.int .i64 ((rd_T32 l0_0 x21_2).f0), .int .i64 ((rd_T32 l0_0 x21_2).f1), .int .i64 ((rd_T32 l0_0 x21_2).f2), .bool ((rd_T32 l0_0 x21_2).f3), .bool ((rd_T32 l0_0 x21_2).f4)] 32 (0, 0))) ∧ Aside0 (Below w.heap.size w wc))
      case first =>
       have H := HC12.out
       clear HC12
       by_cases c16 : ((rd_T32 l0_0 x21_2).f0) < (-1)
       ·
        rw [if_pos c16] at H
        have c16b0 : decide (((rd_T32 l0_0 x21_2).f0) < (-1)) = true := decide_eq_true c16
        clear c16
        (first | rw [c16b0] | (simp only [i64_w, i32_w]; rw [c16b0]) | skip)
        have H' := aM H
        clear H
        have hnb17 := NB138_136.out
        have hnc17 := NB136_138.out
        obtain ⟨hcz18_0, hcz18_1, hcz18_2, hcz18_3, hcz18_4, hfz18_0, hfz18_1, hfz18_2, hfz18_3, hfz18_4⟩ := blk5 BK138.out
        go_wp2
        go_meet
        case rel => exact ⟨_, (true), (by first | rfl | (simp; done) | (simp [*]; done)), H', ⟨by have := HJ1.out; have := HK2.out; first | omega | exact Nat.le_refl _⟩, ⟨by (with_reducible repeat (first | refine kN ?_ _ | refine kD ?_ | refine kA ?_ _)); refine blk_far ?_ NB136_138.out _; (with_reducible repeat (first | refine kN ?_ _ | refine kD ?_ | refine kA ?_ _)); refine blk_far ?_ NB136_138.out _; (with_reducible repeat (first | refine kN ?_ _ | refine kD ?_ | refine kA ?_ _)); refine blk_far ?_ NB136_138.out _; (with_reducible repeat (first | refine kN ?_ _ | refine kD ?_ | refine kA ?_ _)); refine blk_far ?_ NB136_138.out _; (with_reducible repeat (first | refine kN ?_ _ | refine kD ?_ | refine kA ?_ _)); refine blk_far ?_ NB136_138.out _; (with_reducible repeat (first | refine kN ?_ _ | refine kD ?_ | refine kA ?_ _)); exact BK136.out⟩, ⟨by (with_reducible repeat (first | refine kN ?_ _ | refine kD ?_ | refine kA ?_ _)); refine blk_put (cs := #[.int .i64 ((rd_T32 l0_0 x21_2).f0), .int .i64 ((rd_T32 l0_0 x21_2).f1), .int .i64 ((rd_T32 l0_0 x21_2).f2), .bool ((rd_T32 l0_0 x21_2).f3), .bool false]) ?_ 4 _ rfl; (with_reducible repeat (first | refine kN ?_ _ | refine kD ?_ | refine kA ?_ _)); refine blk_put (cs := #[.int .i64 ((rd_T32 l0_0 x21_2).f0), .int .i64 ((rd_T32 l0_0 x21_2).f1), .int .i64 ((rd_T32 l0_0 x21_2).f2), .bool false, .bool false]) ?_ 3 _ rfl; (with_reducible repeat (first | refine kN ?_ _ | refine kD ?_ | refine kA ?_ _)); refine blk_put (cs := #[.int .i64 ((rd_T32 l0_0 x21_2).f0), .int .i64 ((rd_T32 l0_0 x21_2).f1), .int .i64 0, .bool false, .bool false]) ?_ 2 _ rfl; (with_reducible repeat (first | refine kN ?_ _ | refine kD ?_ | refine kA ?_ _)); refine blk_put (cs := #[.int .i64 ((rd_T32 l0_0 x21_2).f0), .int .i64 0, .int .i64 0, .bool false, .bool false]) ?_ 1 _ rfl; (with_reducible repeat (first | refine kN ?_ _ | refine kD ?_ | refine kA ?_ _)); refine blk_put (cs := #[.int .i64 0, .int .i64 0, .int .i64 0, .bool false, .bool false]) ?_ 0 _ rfl; (with_reducible repeat (first | refine kN ?_ _ | refine kD ?_ | refine kA ?_ _)); exact BK138.out⟩, ⟨by repeat (first | (with_reducible first | exact HB.out | apply bA | apply bN | apply bD | refine below_set ?_ GE136.out | refine below_set ?_ GE138.out) | exact HB.out)⟩⟩
       rw [if_neg c16] at H
       have c16b0 : decide (((rd_T32 l0_0 x21_2).f0) < (-1)) = false := decide_eq_false c16
       clear c16
       (first | rw [c16b0] | (simp only [i64_w, i32_w]; rw [c16b0]) | skip)
       have H' := aM H
       clear H
       have hnb19 := NB138_136.out
       have hnc19 := NB136_138.out
       obtain ⟨hcz20_0, hcz20_1, hcz20_2, hcz20_3, hcz20_4, hfz20_0, hfz20_1, hfz20_2, hfz20_3, hfz20_4⟩ := blk5 BK138.out
       go_wp2
       go_meet
       case rel => exact ⟨_, (decide (((rd_T32 l0_0 x21_2).f0) ≥ x21_2)), (by first | rfl | (simp; done) | (simp [*]; done)), H', ⟨by have := HJ1.out; have := HK2.out; first | omega | exact Nat.le_refl _⟩, ⟨by (with_reducible repeat (first | refine kN ?_ _ | refine kD ?_ | refine kA ?_ _)); refine blk_far ?_ NB136_138.out _; (with_reducible repeat (first | refine kN ?_ _ | refine kD ?_ | refine kA ?_ _)); refine blk_far ?_ NB136_138.out _; (with_reducible repeat (first | refine kN ?_ _ | refine kD ?_ | refine kA ?_ _)); refine blk_far ?_ NB136_138.out _; (with_reducible repeat (first | refine kN ?_ _ | refine kD ?_ | refine kA ?_ _)); refine blk_far ?_ NB136_138.out _; (with_reducible repeat (first | refine kN ?_ _ | refine kD ?_ | refine kA ?_ _)); refine blk_far ?_ NB136_138.out _; (with_reducible repeat (first | refine kN ?_ _ | refine kD ?_ | refine kA ?_ _)); exact BK136.out⟩, ⟨by (with_reducible repeat (first | refine kN ?_ _ | refine kD ?_ | refine kA ?_ _)); refine blk_put (cs := #[.int .i64 ((rd_T32 l0_0 x21_2).f0), .int .i64 ((rd_T32 l0_0 x21_2).f1), .int .i64 ((rd_T32 l0_0 x21_2).f2), .bool ((rd_T32 l0_0 x21_2).f3), .bool false]) ?_ 4 _ rfl; (with_reducible repeat (first | refine kN ?_ _ | refine kD ?_ | refine kA ?_ _)); refine blk_put (cs := #[.int .i64 ((rd_T32 l0_0 x21_2).f0), .int .i64 ((rd_T32 l0_0 x21_2).f1), .int .i64 ((rd_T32 l0_0 x21_2).f2), .bool false, .bool false]) ?_ 3 _ rfl; (with_reducible repeat (first | refine kN ?_ _ | refine kD ?_ | refine kA ?_ _)); refine blk_put (cs := #[.int .i64 ((rd_T32 l0_0 x21_2).f0), .int .i64 ((rd_T32 l0_0 x21_2).f1), .int .i64 0, .bool false, .bool false]) ?_ 2 _ rfl; (with_reducible repeat (first | refine kN ?_ _ | refine kD ?_ | refine kA ?_ _)); refine blk_put (cs := #[.int .i64 ((rd_T32 l0_0 x21_2).f0), .int .i64 0, .int .i64 0, .bool false, .bool false]) ?_ 1 _ rfl; (with_reducible repeat (first | refine kN ?_ _ | refine kD ?_ | refine kA ?_ _)); refine blk_put (cs := #[.int .i64 0, .int .i64 0, .int .i64 0, .bool false, .bool false]) ?_ 0 _ rfl; (with_reducible repeat (first | refine kN ?_ _ | refine kD ?_ | refine kA ?_ _)); exact BK138.out⟩, ⟨by repeat (first | (with_reducible first | exact HB.out | apply bA | apply bN | apply bD | refine below_set ?_ GE136.out | refine below_set ?_ GE138.out) | exact HB.out)⟩⟩
      case rest =>
       clear HC12
       obtain ⟨kq, x34_11, rfl, HA, HJ11, BK136, BK138, HB⟩ := hcut
       cases kq with
       | zero => exact absurd HA.out (by simp [feeder_Check.j2])
       | succ kj11 =>
        have H := HA.out
        clear HA
        simp only [feeder_Check.j2] at H
        by_cases c21 : x34_11 = true
        ·
         subst c21
         have H1 : (some 16) = some r := by rw [if_pos rfl] at H; exact H
         clear H
         have H := H1
         clear H1
         obtain rfl := Option.some.inj H
         go_wp2
         go_ret
         exact ⟨by first | rfl | (simp [errW_none, errW_some] <;> rfl) | (simp [*, errW_none, errW_some] <;> rfl), by repeat (first | (with_reducible first | exact HB.out | apply bA | apply bN | apply bD | refine below_set ?_ GE136.out | refine below_set ?_ GE138.out) | exact HB.out)⟩
        replace c21 := Bool.eq_false_iff.mpr c21
        subst c21
        have H1 : (if ((rd_T32 l0_0 x21_2).f1) < 0 then (feeder_Check.j3 kj11 l0_0 (l0_0.length : Int) x21_2 true l0_0 l0_1 a0_2 ((rd_T32 l0_0 x21_2).f0) ((rd_T32 l0_0 x21_2).f1) ((rd_T32 l0_0 x21_2).f2) ((rd_T32 l0_0 x21_2).f3) ((rd_T32 l0_0 x21_2).f4)) else (feeder_Check.j3 kj11 l0_0 (l0_0.length : Int) x21_2 (decide (((rd_T32 l0_0 x21_2).f1) > 2147483648)) l0_0 l0_1 a0_2 ((rd_T32 l0_0 x21_2).f0) ((rd_T32 l0_0 x21_2).f1) ((rd_T32 l0_0 x21_2).f2) ((rd_T32 l0_0 x21_2).f3) ((rd_T32 l0_0 x21_2).f4))) = some r := by rw [if_neg (show ¬ (false = true) by decide)] at H; exact H
        clear H
        have H := H1
        clear H1
        have HC22 := aM H
        clear H
        go_upto_region 8 with (fail)
        go_cut [42] (fun v42 wc => ∃ (kq : Nat) (x42_21 : Bool), v42 = .bool x42_21 ∧ Aside0 (feeder_Check.j3 kq l0_0 (l0_0.length : Int) x21_2 x42_21 l0_0 l0_1 a0_2 ((rd_T32 l0_0 x21_2).f0) ((rd_T32 l0_0 x21_2).f1) ((rd_T32 l0_0 x21_2).f2) ((rd_T32 l0_0 x21_2).f3) ((rd_T32 l0_0 x21_2).f4) = some r) ∧ Aside0 (kq ≤ kj11) ∧ Aside0 (wc.heap[gb136]? = some (.cells #[(.slice (some ad137) l0_0.length c0_0), (.slice A0_1 l0_1.length c0_1), .int .i64 a0_2] 28 (0, 0))) ∧ Aside0 (wc.heap[gb138]? = some (.cells #[.int .i64 ((rd_T32 l0_0 x21_2).f0), .int .i64 ((rd_T32 l0_0 x21_2).f1), .int .i64 ((rd_T32 l0_0 x21_2).f2), .bool ((rd_T32 l0_0 x21_2).f3), .bool ((rd_T32 l0_0 x21_2).f4)] 32 (0, 0))) ∧ Aside0 (Below w.heap.size w wc))
        case first =>
         have H := HC22.out
         clear HC22
         by_cases c23 : ((rd_T32 l0_0 x21_2).f1) < 0
         ·
          rw [if_pos c23] at H
          have c23b0 : decide (((rd_T32 l0_0 x21_2).f1) < 0) = true := decide_eq_true c23
          clear c23
          (first | rw [c23b0] | (simp only [i64_w, i32_w]; rw [c23b0]) | skip)
          have H' := aM H
          clear H
          have hnb24 := NB138_136.out
          have hnc24 := NB136_138.out
          obtain ⟨hcz25_0, hcz25_1, hcz25_2, hcz25_3, hcz25_4, hfz25_0, hfz25_1, hfz25_2, hfz25_3, hfz25_4⟩ := blk5 BK138.out
          go_wp2
          go_meet
          case rel => exact ⟨_, (true), (by first | rfl | (simp; done) | (simp [*]; done)), H', ⟨by have := HJ1.out; have := HK2.out; have := HJ11.out; first | omega | exact Nat.le_refl _⟩, ⟨blk_mv BK136.out⟩, ⟨blk_mv BK138.out⟩, ⟨by repeat (first | (with_reducible first | exact HB.out | apply bA | apply bN | apply bD | refine below_set ?_ GE136.out | refine below_set ?_ GE138.out) | exact HB.out)⟩⟩
         rw [if_neg c23] at H
         have c23b0 : decide (((rd_T32 l0_0 x21_2).f1) < 0) = false := decide_eq_false c23
         clear c23
         (first | rw [c23b0] | (simp only [i64_w, i32_w]; rw [c23b0]) | skip)
         have H' := aM H
         clear H
         have hnb26 := NB138_136.out
         have hnc26 := NB136_138.out
         obtain ⟨hcz27_0, hcz27_1, hcz27_2, hcz27_3, hcz27_4, hfz27_0, hfz27_1, hfz27_2, hfz27_3, hfz27_4⟩ := blk5 BK138.out
         go_wp2
         go_meet
         case rel => exact ⟨_, (decide (((rd_T32 l0_0 x21_2).f1) > 2147483648)), (by first | rfl | (simp; done) | (simp [*]; done)), H', ⟨by have := HJ1.out; have := HK2.out; have := HJ11.out; first | omega | exact Nat.le_refl _⟩, ⟨blk_mv BK136.out⟩, ⟨blk_mv BK138.out⟩, ⟨by repeat (first | (with_reducible first | exact HB.out | apply bA | apply bN | apply bD | refine below_set ?_ GE136.out | refine below_set ?_ GE138.out) | exact HB.out)⟩⟩
        case rest =>
         clear HC22
         obtain ⟨kq, x42_21, rfl, HA, HJ21, BK136, BK138, HB⟩ := hcut
         cases kq with
         | zero => exact absurd HA.out (by simp [feeder_Check.j3])
         | succ kj21 =>
          have H := HA.out
          clear HA
          simp only [feeder_Check.j3] at H
          by_cases c28 : x42_21 = true
          ·
           subst c28
           have H1 : (some 8) = some r := by rw [if_pos rfl] at H; exact H
           clear H
           have H := H1
           clear H1
           obtain rfl := Option.some.inj H
           go_wp2
           go_ret
           exact ⟨by first | rfl | (simp [errW_none, errW_some] <;> rfl) | (simp [*, errW_none, errW_some] <;> rfl), by repeat (first | (with_reducible first | exact HB.out | apply bA | apply bN | apply bD | refine below_set ?_ GE136.out | refine below_set ?_ GE138.out) | exact HB.out)⟩
          replace c28 := Bool.eq_false_iff.mpr c28
          subst c28
          have H1 : (if ((rd_T32 l0_0 x21_2).f2) < (-1) then (some 10) else (if ((rd_T32 l0_0 x21_2).f2) > 1 then (some 10) else (if ((rd_T32 l0_0 x21_2).f4) = true then (if ((rd_T32 l0_0 x21_2).f3) = true then (some 10) else (if ((rd_T32 l0_0 x21_2).f2) = (-1) then (some 10) else (feeder_Check.l0 kj21 l0_0 (l0_0.length : Int) (wrap64 (x21_2 + 1)) l0_0 l0_1 a0_2))) else (feeder_Check.l0 kj21 l0_0 (l0_0.length : Int) (wrap64 (x21_2 + 1)) l0_0 l0_1 a0_2)))) = some r := by rw [if_neg (show ¬ (false = true) by decide)] at H; exact H
          clear H
          have H := H1
          clear H1
          by_cases c29 : ((rd_T32 l0_0 x21_2).f2) < (-1)
          ·
           rw [if_pos c29] at H
           have c29b0 : decide (((rd_T32 l0_0 x21_2).f2) < (-1)) = true := decide_eq_true c29
           clear c29
           obtain rfl := Option.some.inj H
           have hnb30 := NB138_136.out
           have hnc30 := NB136_138.out
           obtain ⟨hcz31_0, hcz31_1, hcz31_2, hcz31_3, hcz31_4, hfz31_0, hfz31_1, hfz31_2, hfz31_3, hfz31_4⟩ := blk5 BK138.out
           go_wp2
           go_ret
           exact ⟨by first | rfl | (simp [errW_none, errW_some] <;> rfl) | (simp [*, errW_none, errW_some] <;> rfl), by repeat (first | (with_reducible first | exact HB.out | apply bA | apply bN | apply bD | refine below_set ?_ GE136.out | refine below_set ?_ GE138.out) | exact HB.out)⟩
          rw [if_neg c29] at H
          have c29b0 : decide (((rd_T32 l0_0 x21_2).f2) < (-1)) = false := decide_eq_false c29
          clear c29
          by_cases c32 : ((rd_T32 l0_0 x21_2).f2) > 1
          ·
           rw [if_pos c32] at H
           have c32b0 : decide (1 < ((rd_T32 l0_0 x21_2).f2)) = true := decide_eq_true c32
           clear c32
           obtain rfl := Option.some.inj H
           have hnb33 := NB138_136.out
           have hnc33 := NB136_138.out
           obtain ⟨hcz34_0, hcz34_1, hcz34_2, hcz34_3, hcz34_4, hfz34_0, hfz34_1, hfz34_2, hfz34_3, hfz34_4⟩ := blk5 BK138.out
           go_wp2
           go_ret
           exact ⟨by first | rfl | (simp [errW_none, errW_some] <;> rfl) | (simp [*, errW_none, errW_some] <;> rfl), by repeat (first | (with_reducible first | exact HB.out | apply bA | apply bN | apply bD | refine below_set ?_ GE136.out | refine below_set ?_ GE138.out) | exact HB.out)⟩
          rw [if_neg c32] at H
          have c32b0 : decide (1 < ((rd_T32 l0_0 x21_2).f2)) = false := decide_eq_false c32
          clear c32
          by_cases c35 : ((rd_T32 l0_0 x21_2).f4) = true
          ·
           rw [if_pos c35] at H
           have c35b0 : ((rd_T32 l0_0 x21_2).f4) = true := c35
           clear c35
           by_cases c36 : ((rd_T32 l0_0 x21_2).f3) = true
           ·
            rw [if_pos c36] at H
            have c36b0 : ((rd_T32 l0_0 x21_2).f3) = true := c36
            clear c36
            obtain rfl := Option.some.inj H
            have hnb37 := NB138_136.out
            have hnc37 := NB136_138.out
            obtain ⟨hcz38_0, hcz38_1, hcz38_2, hcz38_3, hcz38_4, hfz38_0, hfz38_1, hfz38_2, hfz38_3, hfz38_4⟩ := blk5 BK138.out
            go_wp2
            go_ret
            exact ⟨by first | rfl | (simp [errW_none, errW_some] <;> rfl) | (simp [*, errW_none, errW_some] <;> rfl), by repeat (first | (with_reducible first | exact HB.out | apply bA | apply bN | apply bD | refine below_set ?_ GE136.out | refine below_set ?_ GE138.out) | exact HB.out)⟩
           rw [if_neg c36] at H
           have c36b0 : ((rd_T32 l0_0 x21_2).f3) = false := by simpa using c36
           clear c36
           by_cases c39 : ((rd_T32 l0_0 x21_2).f2) = (-1)
           ·
            rw [if_pos c39] at H
            have c39b0 : (((rd_T32 l0_0 x21_2).f2) == (-1)) = true := beq_iff_eq.mpr c39
            have c39b1 : (((rd_T32 l0_0 x21_2).f2) != (-1)) = false := bne_eq_false_iff_eq.mpr c39
            clear c39
            obtain rfl := Option.some.inj H
            have hnb40 := NB138_136.out
            have hnc40 := NB136_138.out
            obtain ⟨hcz41_0, hcz41_1, hcz41_2, hcz41_3, hcz41_4, hfz41_0, hfz41_1, hfz41_2, hfz41_3, hfz41_4⟩ := blk5 BK138.out
            go_wp2
            go_ret
            exact ⟨by first | rfl | (simp [errW_none, errW_some] <;> rfl) | (simp [*, errW_none, errW_some] <;> rfl), by repeat (first | (with_reducible first | exact HB.out | apply bA | apply bN | apply bD | refine below_set ?_ GE136.out | refine below_set ?_ GE138.out) | exact HB.out)⟩
           rw [if_neg c39] at H
           have c39b0 : (((rd_T32 l0_0 x21_2).f2) == (-1)) = false := beq_eq_false_iff_ne.mpr c39
           have c39b1 : (((rd_T32 l0_0 x21_2).f2) != (-1)) = true := bne_iff_ne.mpr c39
           have H' := aM H
           clear H
           have hnb42 := NB138_136.out
           have hnc42 := NB136_138.out
           obtain ⟨hcz43_0, hcz43_1, hcz43_2, hcz43_3, hcz43_4, hfz43_0, hfz43_1, hfz43_2, hfz43_3, hfz43_4⟩ := blk5 BK138.out
           go_wp2
           go_roundg kj21
           case measure => have := HJ1.out; have := HK2.out; have := HJ11.out; have := HJ21.out; omega
           case rel => exact ⟨(wrap64 (x21_2 + 1)), (by first | rfl | (simp; done) | (simp [*]; done)), H', ⟨by have := HJ1.out; have := HK2.out; have := HJ11.out; have := HJ21.out; omega⟩, ⟨blk_mv BK136.out⟩, ⟨by repeat (first | (with_reducible first | exact HB.out | apply bA | apply bN | apply bD | refine below_set ?_ GE136.out | refine below_set ?_ GE138.out) | exact HB.out)⟩⟩
          rw [if_neg c35] at H
          have c35b0 : ((rd_T32 l0_0 x21_2).f4) = false := by simpa using c35
          clear c35
          have H' := aM H
          clear H
          have hnb44 := NB138_136.out
          have hnc44 := NB136_138.out
          obtain ⟨hcz45_0, hcz45_1, hcz45_2, hcz45_3, hcz45_4, hfz45_0, hfz45_1, hfz45_2, hfz45_3, hfz45_4⟩ := blk5 BK138.out
          go_wp2
          go_roundg kj21
          case measure => have := HJ1.out; have := HK2.out; have := HJ11.out; have := HJ21.out; omega
          case rel => exact ⟨(wrap64 (x21_2 + 1)), (by first | rfl | (simp; done) | (simp [*]; done)), H', ⟨by have := HJ1.out; have := HK2.out; have := HJ11.out; have := HJ21.out; omega⟩, ⟨blk_mv BK136.out⟩, ⟨by repeat (first | (with_reducible first | exact HB.out | apply bA | apply bN | apply bD | refine below_set ?_ GE136.out | refine below_set ?_ GE138.out) | exact HB.out)⟩⟩
     rw [if_neg c9] at H
     have c9b0 : decide (x21_2 < (l0_0.length : Int)) = false := decide_eq_false c9
     clear c9
     by_cases c46 : 0 ≤ (l0_0.length : Int)
     rotate_left
     ·
      rw [if_neg c46] at H
      exact absurd H (by simp)
     rw [if_pos c46] at H
     have c46b0 := eq_true c46
     have c46b1 : decide (0 ≤ (l0_0.length : Int)) = true := decide_eq_true c46
     clear c46
     by_cases c47 : ((l0_0.length : Int) : Int).toNat ≤ 281474976710656
     rotate_left
     ·
      rw [if_neg c47] at H
      exact absurd H (by simp)
     rw [if_pos c47] at H
     have c47b0 := eq_true c47
     have c47b1 : decide (((l0_0.length : Int) : Int).toNat ≤ 281474976710656) = true := decide_eq_true c47
     clear c47
     obtain ⟨y139, hy139⟩ : ∃ y_ : List Bool, y_ = (List.replicate ((l0_0.length : Int) : Int).toNat false) := ⟨_, rfl⟩
     replace H : (feeder_Check.l1 k2 y139 l0_1 (l0_1.length : Int) 0 l0_0 l0_1 a0_2) = some r := by first | (rw [hy139]; with_reducible exact H) | (have H2_ := (Option.bind_some _ _).symm.trans H; rw [hy139]; with_reducible exact H2_) | (have H2_ := (Option.bind_some _ _).symm.trans H; with_reducible exact H2_) | with_reducible exact H | (rw [hy139]; exact H) | exact H
     have Ny139 := aM hy139
     clear hy139
     have H' := aM H
     clear H
     obtain ⟨hcz48_0, hcz48_1, hcz48_2, hfz48_0, hfz48_1, hfz48_2⟩ := blk3 BK136.out
     go_wp2_with (first | ((with_reducible refine gate_dst (N := 68) rfl ?_); (try (refine gate_guard (by rfl) ?_; dsimp only)); refine Kd.R_make Kd.bool _ 4 rfl (N := 68) rfl 64 _ _ rfl (l0_0.length : Int) rfl rfl Try.underlying64 (.bool false) 1 info4 rfl (by decide) (by omega) false (ok := fun _ => True) (okp := fun _ => True) rfl (fun _ hk => hk) trivial (of_decide_eq_true (by first | (with_reducible assumption) | assumption)) (Nat.le_trans (Nat.mul_le_mul_right _ (of_decide_eq_true (by first | (with_reducible assumption) | assumption) : (l0_0.length : Int).toNat ≤ 281474976710656)) (by omega)) (Below.refl _ _) (Nat.le_refl _) ?_; intro v140 w49 ho50 hb hg_ hnew_; clear hg_ hnew_; (first | rw [← Ny139.out] at ho50 | (simp only [Int.reduceToNat] at ho50; rw [← Ny139.out] at ho50)); have HO141 := aM (Kd.R_lower ho50 (below_size (by repeat (first | (with_reducible first | exact HB.out | apply bA | apply bN | apply bD | refine below_set ?_ GE136.out) | exact HB.out)))); replace BK136 := aM (blk_below (blk_mv BK136.out) hb); replace HB := aM (below_step (by repeat (first | (with_reducible first | exact HB.out | apply bA | apply bN | apply bD | refine below_set ?_ GE136.out) | exact HB.out)) hb); clear hb ho50; obtain ⟨hcz51_0, hcz51_1, hcz51_2, hfz51_0, hfz51_1, hfz51_2⟩ := blk3 BK136.out))
     go_loopg [72] k2 (fun kq v72 w' => ∃ (x5_3 : List Bool) (x72_3 : Int), v72 = .int .i64 x72_3 ∧ Aside0 (feeder_Check.l1 kq x5_3 l0_1 (l0_1.length : Int) x72_3 l0_0 l0_1 a0_2 = some r) ∧ Aside0 (kq ≤ k2) ∧ Aside0 (Kd.R Kd.bool 4 w' w.heap.size (fun _ => True) v140 x5_3) ∧ Aside0 (w'.heap[gb136]? = some (.cells #[(.slice A0_0 l0_0.length c0_0), (.slice A0_1 l0_1.length c0_1), .int .i64 a0_2] 28 (0, 0))) ∧ Aside0 (Below w.heap.size w w'))
     case atStart => exact ⟨(y139), (0), (by first | rfl | (simp; done) | (simp [*]; done)), H', ⟨Nat.le_refl _⟩, ⟨by (with_reducible repeat (first | apply Kd.R_alloc | apply Kd.R_drewN | apply Kd.R_drew)); exact HO141.out⟩, ⟨blk_mv BK136.out⟩, ⟨by repeat (first | (with_reducible first | exact HB.out | apply bA | apply bN | apply bD | refine below_set ?_ GE136.out) | exact HB.out)⟩⟩
     case round =>
      clear H'
      obtain ⟨x5_3, x72_3, rfl, HA, HK3, HO_5, BK136, HB⟩ := hrel
      cases gk with
      | zero => exact absurd HA.out (by simp [feeder_Check.l1])
      | succ k3 =>
       have H := HA.out
       clear HA
       simp only [feeder_Check.l1] at H
       by_cases c52 : x72_3 < (l0_1.length : Int)
       ·
        rw [if_pos c52] at H
        have c52b0 : decide (x72_3 < (l0_1.length : Int)) = true := decide_eq_true c52
        clear c52
        by_cases c53 : 0 ≤ x72_3
        rotate_left
        ·
         rw [if_neg c53] at H
         exact absurd H (by simp)
        rw [if_pos c53] at H
        have c53b0 : decide (0 ≤ x72_3) = true := decide_eq_true c53
        clear c53
        by_cases c54 : x72_3 < (l0_1.length : Int)
        rotate_left
        ·
         rw [if_neg c54] at H
         exact absurd H (by simp)
        rw [if_pos c54] at H
        have c54b0 : decide (x72_3 < (l0_1.length : Int)) = true := decide_eq_true c54
        clear c54
        have HC55 := aM H
        clear H
        have p142 : 0 ≤ (x72_3 : Int) := of_decide_eq_true (by first | (with_reducible assumption) | assumption)
        have q142 : x72_3 < (l0_1.length : Int) := of_decide_eq_true (by first | (with_reducible assumption) | assumption)
        obtain ⟨ad142, e142, hx142_0⟩ := Kd.at_int HR0_1.out x72_3 p142 q142
        cases e142
        try replace hx142_0 := (HB.out.cell (World.block_lt_of_cell? w _ hx142_0)).trans hx142_0
        replace p142 := eq_true p142
        replace q142 := eq_true q142
        go_upto_region 17 with (fail)
        go_cut [84] (fun v84 wc => ∃ (kq : Nat) (x84_54 : Bool), v84 = .bool x84_54 ∧ Aside0 (feeder_Check.j5 kq x5_3 (rd l0_1 x72_3) l0_1 (l0_1.length : Int) x72_3 x84_54 l0_0 l0_1 a0_2 = some r) ∧ Aside0 (kq ≤ k3) ∧ Aside0 (Kd.R Kd.bool 4 wc w.heap.size (fun _ => True) v140 x5_3) ∧ Aside0 (wc.heap[gb136]? = some (.cells #[(.slice A0_0 l0_0.length c0_0), (.slice (some ad142) l0_1.length c0_1), .int .i64 a0_2] 28 (0, 0))) ∧ Aside0 (Below w.heap.size w wc))
        case first =>
         have H := HC55.out
         clear HC55
         by_cases c56 : (rd l0_1 x72_3) < 0
         ·
          rw [if_pos c56] at H
          have c56b0 : decide ((rd l0_1 x72_3) < 0) = true := decide_eq_true c56
          clear c56
          (first | rw [c56b0] | (simp only [i64_w, i32_w]; rw [c56b0]) | skip)
          have H' := aM H
          clear H
          go_wp2
          go_meet
          case rel => exact ⟨_, (true), (by first | rfl | (simp; done) | (simp [*]; done)), H', ⟨by have := HJ1.out; have := HK2.out; have := HK3.out; first | omega | exact Nat.le_refl _⟩, ⟨by (with_reducible repeat (first | apply Kd.R_alloc | apply Kd.R_drewN | apply Kd.R_drew)); exact HO_5.out⟩, ⟨blk_mv BK136.out⟩, ⟨by repeat (first | (with_reducible first | exact HB.out | apply bA | apply bN | apply bD | refine below_set ?_ GE136.out) | exact HB.out)⟩⟩
         rw [if_neg c56] at H
         have c56b0 : decide ((rd l0_1 x72_3) < 0) = false := decide_eq_false c56
         clear c56
         (first | rw [c56b0] | (simp only [i64_w, i32_w]; rw [c56b0]) | skip)
         have H' := aM H
         clear H
         obtain ⟨hcz57_0, hcz57_1, hcz57_2, hfz57_0, hfz57_1, hfz57_2⟩ := blk3 BK136.out
         go_wp2
         go_meet
         case rel => exact ⟨_, (decide ((rd l0_1 x72_3) ≥ (l0_0.length : Int))), (by first | rfl | (simp; done) | (simp [*]; done)), H', ⟨by have := HJ1.out; have := HK2.out; have := HK3.out; first | omega | exact Nat.le_refl _⟩, ⟨by (with_reducible repeat (first | apply Kd.R_alloc | apply Kd.R_drewN | apply Kd.R_drew)); exact HO_5.out⟩, ⟨blk_mv BK136.out⟩, ⟨by repeat (first | (with_reducible first | exact HB.out | apply bA | apply bN | apply bD | refine below_set ?_ GE136.out) | exact HB.out)⟩⟩
        case rest =>
         clear HC55
         obtain ⟨kq, x84_54, rfl, HA, HJ54, HO_5, BK136, HB⟩ := hcut
         cases kq with
         | zero => exact absurd HA.out (by simp [feeder_Check.j5])
         | succ kj54 =>
          have H := HA.out
          clear HA
          simp only [feeder_Check.j5] at H
          by_cases c58 : x84_54 = true
          ·
           subst c58
           have H1 : (some 16) = some r := by rw [if_pos rfl] at H; exact H
           clear H
           have H := H1
           clear H1
           obtain rfl := Option.some.inj H
           go_wp2
           go_ret
           exact ⟨by first | rfl | (simp [errW_none, errW_some] <;> rfl) | (simp [*, errW_none, errW_some] <;> rfl), by repeat (first | (with_reducible first | exact HB.out | apply bA | apply bN | apply bD | refine below_set ?_ GE136.out) | exact HB.out)⟩
          replace c58 := Bool.eq_false_iff.mpr c58
          subst c58
          have H1 : (if 0 ≤ (rd l0_1 x72_3) then (if (rd l0_1 x72_3) < (x5_3.length : Int) then (if rdOf false x5_3 (rd l0_1 x72_3) = true then (some 17) else (feeder_Check.l1 kj54 (x5_3.set ((rd l0_1 x72_3) : Int).toNat true) l0_1 (l0_1.length : Int) (wrap64 (x72_3 + 1)) l0_0 l0_1 a0_2)) else (none)) else (none)) = some r := by rw [if_neg (show ¬ (false = true) by decide)] at H; exact H
          clear H
          have H := H1
          clear H1
          by_cases c59 : 0 ≤ (rd l0_1 x72_3)
          rotate_left
          ·
           rw [if_neg c59] at H
           exact absurd H (by simp)
          rw [if_pos c59] at H
          have c59b0 : decide (0 ≤ (rd l0_1 x72_3)) = true := decide_eq_true c59
          clear c59
          by_cases c60 : (rd l0_1 x72_3) < (x5_3.length : Int)
          rotate_left
          ·
           rw [if_neg c60] at H
           exact absurd H (by simp)
          rw [if_pos c60] at H
          have c60b0 : decide ((rd l0_1 x72_3) < (x5_3.length : Int)) = true := decide_eq_true c60
          clear c60
          obtain ⟨bq61, hbq61⟩ : ∃ b_ : Bool, b_ = (rdOf false x5_3 (rd l0_1 x72_3)) := ⟨_, rfl⟩
          replace H : (if bq61 = true then (some 17) else (feeder_Check.l1 kj54 (x5_3.set ((rd l0_1 x72_3) : Int).toNat true) l0_1 (l0_1.length : Int) (wrap64 (x72_3 + 1)) l0_0 l0_1 a0_2)) = some r := by rw [← hbq61] at H; exact H
          have Nbq61 := aM hbq61
          clear hbq61
          by_cases c62 : bq61 = true
          ·
           subst c62
           have H1 : (some 17) = some r := by rw [if_pos rfl] at H; exact H
           clear H
           have H := H1
           clear H1
           obtain rfl := Option.some.inj H
           obtain ⟨Ao63, co63, eo63⟩ := Kd.R_slice HO_5.out
           subst eo63
           have p143 : 0 ≤ ((rd l0_1 x72_3) : Int) := of_decide_eq_true (by first | (with_reducible assumption) | assumption)
           have q143 : (rd l0_1 x72_3) < (x5_3.length : Int) := of_decide_eq_true (by first | (with_reducible assumption) | assumption)
           obtain ⟨ad143, e143, hx143_0⟩ := Kd.at_bool (Kd.R_reads' HO_5.out).2.2 (rd l0_1 x72_3) p143 q143
           (try rw [← Nbq61.out] at hx143_0)
           cases e143
           replace p143 := eq_true p143
           replace q143 := eq_true q143
           go_wp2
           go_ret
           exact ⟨by first | rfl | (simp [errW_none, errW_some] <;> rfl) | (simp [*, errW_none, errW_some] <;> rfl), by repeat (first | (with_reducible first | exact HB.out | apply bA | apply bN | apply bD | refine below_set ?_ GE136.out) | exact HB.out)⟩
          replace c62 := Bool.eq_false_iff.mpr c62
          subst c62
          have H1 : (feeder_Check.l1 kj54 (x5_3.set ((rd l0_1 x72_3) : Int).toNat true) l0_1 (l0_1.length : Int) (wrap64 (x72_3 + 1)) l0_0 l0_1 a0_2) = some r := by rw [if_neg (show ¬ (false = true) by decide)] at H; exact H
          clear H
          have H := H1
          clear H1
          obtain ⟨y144, hy144⟩ : ∃ y_ : List Bool, y_ = (x5_3.set ((rd l0_1 x72_3) : Int).toNat true) := ⟨_, rfl⟩
          replace H : (feeder_Check.l1 kj54 y144 l0_1 (l0_1.length : Int) (wrap64 (x72_3 + 1)) l0_0 l0_1 a0_2) = some r := by first | (rw [hy144]; with_reducible exact H) | (have H2_ := (Option.bind_some _ _).symm.trans H; rw [hy144]; with_reducible exact H2_) | (have H2_ := (Option.bind_some _ _).symm.trans H; with_reducible exact H2_) | with_reducible exact H | (rw [hy144]; exact H) | exact H
          have Ny144 := aM hy144
          clear hy144
          have H' := aM H
          clear H
          obtain ⟨Ao65, co65, eo65⟩ := Kd.R_slice HO_5.out
          subst eo65
          have p143 : 0 ≤ ((rd l0_1 x72_3) : Int) := of_decide_eq_true (by first | (with_reducible assumption) | assumption)
          have q143 : (rd l0_1 x72_3) < (x5_3.length : Int) := of_decide_eq_true (by first | (with_reducible assumption) | assumption)
          obtain ⟨ad143, e143, hx143_0⟩ := Kd.at_bool (Kd.R_reads' HO_5.out).2.2 (rd l0_1 x72_3) p143 q143
          (try rw [← Nbq61.out] at hx143_0)
          cases e143
          replace p143 := eq_true p143
          replace q143 := eq_true q143
          have p64 : 0 ≤ ((rd l0_1 x72_3) : Int) := of_decide_eq_true (by first | (with_reducible assumption) | assumption)
          have q64 : ((rd l0_1 x72_3) : Int) < ((x5_3.length : Int) : Int) := of_decide_eq_true (by first | (with_reducible assumption) | assumption)
          obtain ⟨go64, co64, eo64, gb64, gl64, cl64, HG64⟩ := Kd.R_form HO_5.out (by omega)
          (first | cases eo64 | (injection eo64 with ea_ en_ ec_; (first | subst ea_ | (injection ea_ with ea_; subst ea_)); subst ec_; clear en_))
          have GB64 := aM gb64
          have GG64 := aM HG64
          clear gb64 gl64 HG64
          (first | simp only [add_plain] at hx143_0 | skip)
          obtain ⟨hx64_0, hf64_0⟩ := Kd.R_celln false HO_5.out ((rd l0_1 x72_3) : Int) p64 q64
          replace p64 := eq_true p64
          replace q64 := eq_true q64
          have HP66 := Kd.R_putg HO_5.out ((rd l0_1 x72_3) : Int) true
          go_wp2_with (first | ((with_reducible refine gate_store (t := 4) (p := 91) rfl ?_); refine store_event (t := 4) (p := 91) (v := ?vo_w67) (w1 := (wc.setCell ⟨go64, ((rd l0_1 x72_3) : Int).toNat, none⟩ (.bool true))) ?hg ?ho ?hn ?hr ?_; (case ho => rfl); (case hg => rfl); (case hn => rfl); (case hr => first | (go_simp; done) | (go_simp; rfl)); intro w67 hw; have hg : wc.grownBy w67 (some go64) := (by rw [hw]; exact HP66.2); have hp_ : Kd.R Kd.bool 4 w67 w.heap.size (fun _ => True) (.slice (some ⟨go64, 0, none⟩) x5_3.length co65) y144 := (by rw [hw, Ny144.out]; exact HP66.1); clear HP66; replace BK136 := aM (blk_grown (blk_mv BK136.out) hg (Kd.R_ne HO_5.out BK136.out (by decide))); replace HO_5 := aM (hp_); replace HB := aM ((by rw [hw]; exact below_set (HB.out) GB64.out : Below w.heap.size w w67)); clear hg hw hp_))
          go_roundg kj54
          case measure => have := HJ1.out; have := HK2.out; have := HK3.out; have := HJ54.out; omega
          case rel => exact ⟨(y144), (wrap64 (x72_3 + 1)), (by first | rfl | (simp; done) | (simp [*]; done)), H', ⟨by have := HJ1.out; have := HK2.out; have := HK3.out; have := HJ54.out; omega⟩, ⟨by (with_reducible repeat (first | apply Kd.R_alloc | apply Kd.R_drewN | apply Kd.R_drew)); exact HO_5.out⟩, ⟨blk_mv BK136.out⟩, ⟨by repeat (first | (with_reducible first | exact HB.out | apply bA | apply bN | apply bD | refine below_set ?_ GE136.out) | exact HB.out)⟩⟩
       rw [if_neg c52] at H
       have c52b0 : decide (x72_3 < (l0_1.length : Int)) = false := decide_eq_false c52
       clear c52
       by_cases c68 : a0_2 < 1
       ·
        rw [if_pos c68] at H
        have c68b0 : decide (a0_2 < 1) = true := decide_eq_true c68
        clear c68
        obtain rfl := Option.some.inj H
        obtain ⟨hcz69_0, hcz69_1, hcz69_2, hfz69_0, hfz69_1, hfz69_2⟩ := blk3 BK136.out
        go_wp2
        go_ret
        exact ⟨by first | rfl | (simp [errW_none, errW_some] <;> rfl) | (simp [*, errW_none, errW_some] <;> rfl), by repeat (first | (with_reducible first | exact HB.out | apply bA | apply bN | apply bD | refine below_set ?_ GE136.out) | exact HB.out)⟩
       rw [if_neg c68] at H
       have c68b0 : decide (a0_2 < 1) = false := decide_eq_false c68
       clear c68
       by_cases c70 : a0_2 > 100000
       ·
        rw [if_pos c70] at H
        have c70b0 : decide (100000 < a0_2) = true := decide_eq_true c70
        clear c70
        obtain rfl := Option.some.inj H
        obtain ⟨hcz71_0, hcz71_1, hcz71_2, hfz71_0, hfz71_1, hfz71_2⟩ := blk3 BK136.out
        go_wp2
        go_ret
        exact ⟨by first | rfl | (simp [errW_none, errW_some] <;> rfl) | (simp [*, errW_none, errW_some] <;> rfl), by repeat (first | (with_reducible first | exact HB.out | apply bA | apply bN | apply bD | refine below_set ?_ GE136.out) | exact HB.out)⟩
       rw [if_neg c70] at H
       have c70b0 : decide (100000 < a0_2) = false := decide_eq_false c70
       clear c70
       obtain rfl := Option.some.inj H
       obtain ⟨hcz72_0, hcz72_1, hcz72_2, hfz72_0, hfz72_1, hfz72_2⟩ := blk3 BK136.out
       go_wp2
       go_ret
       exact ⟨by first | rfl | (simp [errW_none, errW_some] <;> rfl) | (simp [*, errW_none, errW_some] <;> rfl), by repeat (first | (with_reducible first | exact HB.out | apply bA | apply bN | apply bD | refine below_set ?_ GE136.out) | exact HB.out)⟩

end Go.Proofs.Ytcgeflbifbaecaa.PFeh
