/- Functions of the given program as Lean functions, and proofs that its calls come to what these say. Written by a program of this seat (wip/mkprint.py); Lean checks it all. -/
import Derived.Test.YtcgeflbifbaecaaPFekx0
import Derived.Test.YtcgeflbifbaecaaPFekx7
namespace Go.Proofs.Ytcgeflbifbaecaa.PFek
open Go.RowKit Go.Proofs.YtcgeflbifbaecaaW.PrintWords Go.Proofs.YtcgeflbifbaecaaW.PrintLast Go.Proofs.YtcgeflbifbaecaaW.PrintMore
attribute [local go_sem] max2_int min2_int max_two min_two max_three min_three max_four min_four   -- for this text's walks alone
set_option linter.unusedVariables false
set_option linter.unusedSimpArgs false

/-! ### minecontrolref18_Path: function 29 -/
mutual
def minecontrolref18_Path.j0 : Nat → Int → Bool → List (S32) → List Int → Int → Option (List Int)
 | 0, _, _, _, _, _ => none
 | k + 1, x1, x19, x301000, x301001, x301002 => if x19 = true then (some ([] : List Int)) else (minecontrolref18_Path.l0 k x1 ([] : List Int) x301000 x301001 x301002)
def minecontrolref18_Path.l0 : Nat → Int → List Int → List (S32) → List Int → Int → Option (List Int)
 | 0, _, _, _, _, _ => none
 | k + 1, x1, x5, x301000, x301001, x301002 => if x1 ≥ 0 then (if x5.length < 17592186044416 then (if 0 ≤ x1 then (if x1 < (x301000.length : Int) then (minecontrolref18_Path.l0 k ((rd_T32 x301000 x1).f0) (x5 ++ [x1]) x301000 x301001 x301002) else (none)) else (none)) else (none)) else (some x5)
end
def minecontrolref18_Path.f (k : Nat) (l0_0 : List (S32)) (l0_1 : List Int) (a0_2 : Int) (a1 : Int) : Option (List Int) := (minecontrolref18_Check.f k l0_0 l0_1 a0_2).bind fun t301 => (if t301 = 0 then (if a1 < 0 then (minecontrolref18_Path.j0 k a1 true l0_0 l0_1 a0_2) else (minecontrolref18_Path.j0 k a1 (decide (a1 ≥ (l0_0.length : Int))) l0_0 l0_1 a0_2)) else (minecontrolref18_Path.j0 k a1 true l0_0 l0_1 a0_2))
theorem minecontrolref18_Path.mono_l : ∀ k, (∀ y0 y1 y2 y3 y4, LeO (minecontrolref18_Path.j0 k y0 y1 y2 y3 y4) (minecontrolref18_Path.j0 (k + 1) y0 y1 y2 y3 y4)) ∧ (∀ y0 y1 y2 y3 y4, LeO (minecontrolref18_Path.l0 k y0 y1 y2 y3 y4) (minecontrolref18_Path.l0 (k + 1) y0 y1 y2 y3 y4))
 | 0 => ⟨fun _ _ _ _ _ r h => by simp [minecontrolref18_Path.j0] at h, fun _ _ _ _ _ r h => by simp [minecontrolref18_Path.l0] at h⟩
 | k + 1 => by
  obtain ⟨ih0, ih1⟩ := minecontrolref18_Path.mono_l k
  refine ⟨?_, ?_⟩
  ·
   intro y0 y1 y2 y3 y4
   unfold minecontrolref18_Path.j0
   repeat' first
   | (with_reducible exact ih0 _ _ _ _ _)
   | (with_reducible exact ih1 _ _ _ _ _)
   | (with_reducible exact minecontrolref18_Check.mono _ _ _ _)
   | (with_reducible exact LeO.refl _)
   | (with_reducible exact LeO.none _)
   | (with_reducible refine LeO.ite ?_ ?_)
   | (with_reducible refine LeO.bind ?_ (fun _ => ?_))
   | exact ih0 _ _ _ _ _
   | exact ih1 _ _ _ _ _
   | exact LeO.none _
   | refine LeO.ite ?_ ?_
   | refine LeO.bind ?_ (fun _ => ?_)
  intro y0 y1 y2 y3 y4
  unfold minecontrolref18_Path.l0
  repeat' first
  | (with_reducible exact ih0 _ _ _ _ _)
  | (with_reducible exact ih1 _ _ _ _ _)
  | (with_reducible exact minecontrolref18_Check.mono _ _ _ _)
  | (with_reducible exact LeO.refl _)
  | (with_reducible exact LeO.none _)
  | (with_reducible refine LeO.ite ?_ ?_)
  | (with_reducible refine LeO.bind ?_ (fun _ => ?_))
  | exact ih0 _ _ _ _ _
  | exact ih1 _ _ _ _ _
  | exact LeO.none _
  | refine LeO.ite ?_ ?_
  | refine LeO.bind ?_ (fun _ => ?_)
theorem minecontrolref18_Path.mono : ∀ a0 a1 a2 a3 k, LeO (minecontrolref18_Path.f k a0 a1 a2 a3) (minecontrolref18_Path.f (k + 1) a0 a1 a2 a3) := by
 intro a0 a1 a2 a3 k
 obtain ⟨ih0, ih1⟩ := minecontrolref18_Path.mono_l k
 unfold minecontrolref18_Path.f
 repeat' first
   | (with_reducible exact ih0 _ _ _ _ _)
   | (with_reducible exact ih1 _ _ _ _ _)
   | (with_reducible exact minecontrolref18_Check.mono _ _ _ _)
   | (with_reducible exact LeO.refl _)
   | (with_reducible exact LeO.none _)
   | (with_reducible refine LeO.ite ?_ ?_)
   | (with_reducible refine LeO.bind ?_ (fun _ => ?_))
   | exact ih0 _ _ _ _ _
   | exact ih1 _ _ _ _ _
   | exact LeO.none _
   | refine LeO.ite ?_ ?_
   | refine LeO.bind ?_ (fun _ => ?_)
set_option maxHeartbeats 8000000 in
set_option maxRecDepth 100000 in
theorem minecontrolref18_Path.calls (k : Nat) (A0_0 : Option Addr) (c0_0 : Nat) (l0_0 : List (S32)) (A0_1 : Option Addr) (c0_1 : Nat) (l0_1 : List Int) (a0_2 : Int) (a1 : Int) (r : List Int) (w : World) (hr0_0 : Kd.C k32 w A0_0 l0_0.length l0_0) (hc0_0 : l0_0.length ≤ c0_0) (hr0_1 : Kd.C (Kd.int .i64) w A0_1 l0_1.length l0_1) (hc0_1 : l0_1.length ≤ c0_1) (h : minecontrolref18_Path.f k l0_0 l0_1 a0_2 a1 = some r) :
  Calls Try.prog 29 #[.agg #[.slice A0_0 l0_0.length c0_0, .slice A0_1 l0_1.length c0_1, .int .i64 a0_2], .int .i64 a1] w fun e w' => ∃ v0_ : Value, e = .returned (v0_) ∧ Kd.R (Kd.int .i64) 3 w' w.heap.size (fun _ => True) v0_ r ∧ Below w.heap.size w w' := by
 have hu28 := Try.underlying28
 have HR0_0 := aM hr0_0
 have HC0_0 := aM hc0_0
 clear hr0_0 hc0_0
 have HR0_1 := aM hr0_1
 have HC0_1 := aM hc0_1
 clear hr0_1 hc0_1
 have HB := aM (Below.refl w.heap.size w)
 have H : ((minecontrolref18_Check.f k l0_0 l0_1 a0_2).bind fun t301 => (if t301 = 0 then (if a1 < 0 then (minecontrolref18_Path.j0 k a1 true l0_0 l0_1 a0_2) else (minecontrolref18_Path.j0 k a1 (decide (a1 ≥ (l0_0.length : Int))) l0_0 l0_1 a0_2)) else (minecontrolref18_Path.j0 k a1 true l0_0 l0_1 a0_2))) = some r := h
 clear h
 have HC3 := aM H
 clear H
 go_enter Try.func29, Try.ntmps29
 go_upto_region 1 with (first | ((with_reducible refine gate_dst (N := 2) rfl ?_); (try (refine gate_guard (by rfl) ?_; dsimp only)); refine box_event ?hg (N := 2) ?hd (cs := #[.slice A0_0 l0_0.length c0_0, .slice A0_1 l0_1.length c0_1, .int .i64 a0_2]) (t := 28) ?hr ?_; (case hd => rfl); (case hg => rfl); (case hr => first | (go_simp; done) | (go_simp; rfl)); intro gb300 hg w4 hbox hb; have BK300 := aM (hbox); have GW300 := aM ((by rw [hg]; exact (below_size (below_mv HB.out)) : w.heap.size ≤ gb300)); have GE300 := aM ((by rw [hg]; exact (below_size (below_mv HB.out)) : w.heap.size ≤ gb300)); replace HB := aM (below_step (below_mv HB.out) hb); clear hb hbox hg))
 (try simp only [Act.put, List.setIfInBounds_toArray, List.set_cons_zero, List.set_cons_succ])
 go_cut [19] (fun v19 wc => ∃ (kq : Nat) (x19_2 : Bool), v19 = .bool x19_2 ∧ Aside0 (minecontrolref18_Path.j0 kq a1 x19_2 l0_0 l0_1 a0_2 = some r) ∧ Aside0 (kq ≤ k) ∧ Aside0 (wc.heap[gb300]? = some (.cells #[(.slice A0_0 l0_0.length c0_0), (.slice A0_1 l0_1.length c0_1), .int .i64 a0_2] 28 (0, 0))) ∧ Aside0 (Below w.heap.size w wc))
 case first =>
  have H := HC3.out
  clear HC3
  replace H := Option.bind_eq_some_iff.mp H
  obtain ⟨t301, A50, H⟩ := H
  replace H : (if t301 = 0 then (if a1 < 0 then (minecontrolref18_Path.j0 k a1 true l0_0 l0_1 a0_2) else (minecontrolref18_Path.j0 k a1 (decide (a1 ≥ (l0_0.length : Int))) l0_0 l0_1 a0_2)) else (minecontrolref18_Path.j0 k a1 true l0_0 l0_1 a0_2)) = some r := H
  have A5 := aM A50
  clear A50
  by_cases c6 : t301 = 0
  ·
   rw [if_pos c6] at H
   have c6b0 : (t301 == 0) = true := beq_iff_eq.mpr c6
   have c6b1 : (t301 != 0) = false := bne_eq_false_iff_eq.mpr c6
   clear c6
   (first | rw [c6b0] | (simp only [i64_w, i32_w]; rw [c6b0]) | skip)
   by_cases c7 : a1 < 0
   ·
    rw [if_pos c7] at H
    have c7b0 : decide (a1 < 0) = true := decide_eq_true c7
    clear c7
    have H' := aM H
    clear H
    obtain ⟨hcz8_0, hcz8_1, hcz8_2, hfz8_0, hfz8_1, hfz8_2⟩ := blk3 BK300.out
    go_wp2_with (first | ((with_reducible refine gate_callee (f := 26) rfl ?_); refine goesL_ (some 7) rfl rfl Try.func26 (by kernel_rfl) rfl #[.agg #[.slice A0_0 l0_0.length c0_0, .slice A0_1 l0_1.length c0_1, .int .i64 a0_2]] rfl (by first | rfl | (simp only [List.map_toArray, List.map_cons, List.map_nil, List.length_drop, List.length_take]; rfl)) ?_; (with_reducible refine (minecontrolref18_Check.calls k _ _ l0_0 _ _ l0_1 a0_2 t301 _ ?side1 ?side2 ?side3 ?side4 A5.out).mono ?_); (case side1 => first | exact C_mv (Kd.C_below HR0_0.out HB.out) | exact C_mv HR0_0.out); (case side2 => exact HC0_0.out); (case side3 => first | exact C_mv (Kd.C_below HR0_1.out HB.out) | exact C_mv HR0_1.out); (case side4 => exact HC0_1.out); rintro e w9 ⟨rfl, hb⟩; refine ⟨_, rfl, ?_⟩; replace BK300 := aM (blk_below (blk_mv BK300.out) hb); replace HB := aM (below_step (by repeat (first | (with_reducible first | exact HB.out | apply bA | apply bN | apply bD | refine below_set ?_ GE300.out) | exact HB.out)) hb); (try clear hb); (try clear hb2); (try clear hge); (try clear hk); (try clear hi)))
    go_meet
    case rel => exact ⟨_, (true), (by first | rfl | (simp; done) | (simp [*]; done)), H', ⟨by first | omega | exact Nat.le_refl _⟩, ⟨blk_mv BK300.out⟩, ⟨by repeat (first | (with_reducible first | exact HB.out | apply bA | apply bN | apply bD | refine below_set ?_ GE300.out) | exact HB.out)⟩⟩
   rw [if_neg c7] at H
   have c7b0 : decide (a1 < 0) = false := decide_eq_false c7
   clear c7
   have H' := aM H
   clear H
   obtain ⟨hcz10_0, hcz10_1, hcz10_2, hfz10_0, hfz10_1, hfz10_2⟩ := blk3 BK300.out
   go_wp2_with (first | ((with_reducible refine gate_callee (f := 26) rfl ?_); refine goesL_ (some 7) rfl rfl Try.func26 (by kernel_rfl) rfl #[.agg #[.slice A0_0 l0_0.length c0_0, .slice A0_1 l0_1.length c0_1, .int .i64 a0_2]] rfl (by first | rfl | (simp only [List.map_toArray, List.map_cons, List.map_nil, List.length_drop, List.length_take]; rfl)) ?_; (with_reducible refine (minecontrolref18_Check.calls k _ _ l0_0 _ _ l0_1 a0_2 t301 _ ?side1 ?side2 ?side3 ?side4 A5.out).mono ?_); (case side1 => first | exact C_mv (Kd.C_below HR0_0.out HB.out) | exact C_mv HR0_0.out); (case side2 => exact HC0_0.out); (case side3 => first | exact C_mv (Kd.C_below HR0_1.out HB.out) | exact C_mv HR0_1.out); (case side4 => exact HC0_1.out); rintro e w11 ⟨rfl, hb⟩; refine ⟨_, rfl, ?_⟩; replace BK300 := aM (blk_below (blk_mv BK300.out) hb); replace HB := aM (below_step (by repeat (first | (with_reducible first | exact HB.out | apply bA | apply bN | apply bD | refine below_set ?_ GE300.out) | exact HB.out)) hb); (try clear hb); (try clear hb2); (try clear hge); (try clear hk); (try clear hi); obtain ⟨hcz12_0, hcz12_1, hcz12_2, hfz12_0, hfz12_1, hfz12_2⟩ := blk3 BK300.out))
   go_meet
   case rel => exact ⟨_, (decide (a1 ≥ (l0_0.length : Int))), (by first | rfl | (simp; done) | (simp [*]; done)), H', ⟨by first | omega | exact Nat.le_refl _⟩, ⟨blk_mv BK300.out⟩, ⟨by repeat (first | (with_reducible first | exact HB.out | apply bA | apply bN | apply bD | refine below_set ?_ GE300.out) | exact HB.out)⟩⟩
  rw [if_neg c6] at H
  have c6b0 : (t301 == 0) = false := beq_eq_false_iff_ne.mpr c6
  have c6b1 : (t301 != 0) = true := bne_iff_ne.mpr c6
  (first | rw [c6b0] | (simp only [i64_w, i32_w]; rw [c6b0]) | skip)
  have H' := aM H
  clear H
  obtain ⟨hcz13_0, hcz13_1, hcz13_2, hfz13_0, hfz13_1, hfz13_2⟩ := blk3 BK300.out
  go_wp2_with (first | ((with_reducible refine gate_callee (f := 26) rfl ?_); refine goesL_ (some 7) rfl rfl Try.func26 (by kernel_rfl) rfl #[.agg #[.slice A0_0 l0_0.length c0_0, .slice A0_1 l0_1.length c0_1, .int .i64 a0_2]] rfl (by first | rfl | (simp only [List.map_toArray, List.map_cons, List.map_nil, List.length_drop, List.length_take]; rfl)) ?_; (with_reducible refine (minecontrolref18_Check.calls k _ _ l0_0 _ _ l0_1 a0_2 t301 _ ?side1 ?side2 ?side3 ?side4 A5.out).mono ?_); (case side1 => first | exact C_mv (Kd.C_below HR0_0.out HB.out) | exact C_mv HR0_0.out); (case side2 => exact HC0_0.out); (case side3 => first | exact C_mv (Kd.C_below HR0_1.out HB.out) | exact C_mv HR0_1.out); (case side4 => exact HC0_1.out); rintro e w14 ⟨rfl, hb⟩; refine ⟨_, rfl, ?_⟩; replace BK300 := aM (blk_below (blk_mv BK300.out) hb); replace HB := aM (below_step (by repeat (first | (with_reducible first | exact HB.out | apply bA | apply bN | apply bD | refine below_set ?_ GE300.out) | exact HB.out)) hb); (try clear hb); (try clear hb2); (try clear hge); (try clear hk); (try clear hi)))
  go_meet
  case rel => exact ⟨_, (true), (by first | rfl | (simp; done) | (simp [*]; done)), H', ⟨by first | omega | exact Nat.le_refl _⟩, ⟨blk_mv BK300.out⟩, ⟨by repeat (first | (with_reducible first | exact HB.out | apply bA | apply bN | apply bD | refine below_set ?_ GE300.out) | exact HB.out)⟩⟩
 case rest =>
  clear HC3
  obtain ⟨kq, x19_2, rfl, HA, HJ2, BK300, HB⟩ := hcut
  cases kq with
  | zero => exact absurd HA.out (by simp [minecontrolref18_Path.j0])
  | succ kj2 =>
   have H := HA.out
   clear HA
   simp only [minecontrolref18_Path.j0] at H
   by_cases c15 : x19_2 = true
   ·
    subst c15
    have H1 : (some ([] : List Int)) = some r := by rw [if_pos rfl] at H; exact H
    clear H
    have H := H1
    clear H1
    obtain rfl := Option.some.inj H
    go_wp2
    go_ret
    exact ⟨_, by first | rfl | (simp [errW_none, errW_some] <;> rfl) | (simp [*, errW_none, errW_some] <;> rfl), by first | exact Kd.R_nil _ _ _ _ _ | exact Kd.N_nil _ _ _ _ _ | exact Kd.V_nil _ _ _ _ _ | exact Kd.Q_nil _ _ _ _ _ | exact Kd.S_nil _ _ _ _ _, by repeat (first | (with_reducible first | exact HB.out | apply bA | apply bN | apply bD | refine below_set ?_ GE300.out) | exact HB.out)⟩
   replace c15 := Bool.eq_false_iff.mpr c15
   subst c15
   have H1 : (minecontrolref18_Path.l0 kj2 a1 ([] : List Int) l0_0 l0_1 a0_2) = some r := by rw [if_neg (show ¬ (false = true) by decide)] at H; exact H
   clear H
   have H := H1
   clear H1
   have H' := aM H
   clear H
   go_wp2
   go_loopg [1, 5] kj2 (fun kq v1 v5 w' => ∃ (x1_2 : Int) (x5_2 : List Int), v1 = .int .i64 x1_2 ∧ Aside0 (minecontrolref18_Path.l0 kq x1_2 x5_2 l0_0 l0_1 a0_2 = some r) ∧ Aside0 (kq ≤ kj2) ∧ Aside0 (Kd.R (Kd.int .i64) 3 w' w.heap.size (fun _ => True) v5 x5_2) ∧ Aside0 (w'.heap[gb300]? = some (.cells #[(.slice A0_0 l0_0.length c0_0), (.slice A0_1 l0_1.length c0_1), .int .i64 a0_2] 28 (0, 0))) ∧ Aside0 (Below w.heap.size w w'))
   case atStart => exact ⟨(a1), (([] : List Int)), (by first | rfl | (simp; done) | (simp [*]; done)), H', ⟨Nat.le_refl _⟩, ⟨by first | exact Kd.R_nil _ _ _ _ _ | exact Kd.N_nil _ _ _ _ _ | exact Kd.V_nil _ _ _ _ _ | exact Kd.Q_nil _ _ _ _ _ | exact Kd.S_nil _ _ _ _ _⟩, ⟨blk_mv BK300.out⟩, ⟨by repeat (first | (with_reducible first | exact HB.out | apply bA | apply bN | apply bD | refine below_set ?_ GE300.out) | exact HB.out)⟩⟩
   case round =>
    clear H'
    obtain ⟨x1_2, x5_2, rfl, HA, HK2, HO_5, BK300, HB⟩ := hrel
    cases gk with
    | zero => exact absurd HA.out (by simp [minecontrolref18_Path.l0])
    | succ k2 =>
     have H := HA.out
     clear HA
     simp only [minecontrolref18_Path.l0] at H
     by_cases c16 : x1_2 ≥ 0
     ·
      rw [if_pos c16] at H
      have c16b0 : decide (0 ≤ x1_2) = true := decide_eq_true c16
      clear c16
      by_cases c17 : x5_2.length < 17592186044416
      rotate_left
      ·
       rw [if_neg c17] at H
       exact absurd H (by simp)
      rw [if_pos c17] at H
      have LMc17 := aM c17
      clear c17
      obtain ⟨y302, hy302⟩ : ∃ y_ : List Int, y_ = (x5_2 ++ [x1_2]) := ⟨_, rfl⟩
      replace H : (if 0 ≤ x1_2 then (if x1_2 < (l0_0.length : Int) then (minecontrolref18_Path.l0 k2 ((rd_T32 l0_0 x1_2).f0) y302 l0_0 l0_1 a0_2) else (none)) else (none)) = some r := by first | (rw [hy302]; with_reducible exact H) | (have H2_ := (Option.bind_some _ _).symm.trans H; rw [hy302]; with_reducible exact H2_) | (have H2_ := (Option.bind_some _ _).symm.trans H; with_reducible exact H2_) | with_reducible exact H | (rw [hy302]; exact H) | exact H
      have Ny302 := aM hy302
      clear hy302
      by_cases c18 : 0 ≤ x1_2
      rotate_left
      ·
       rw [if_neg c18] at H
       exact absurd H (by simp)
      rw [if_pos c18] at H
      have c18b0 : decide (0 ≤ x1_2) = true := decide_eq_true c18
      clear c18
      by_cases c19 : x1_2 < (l0_0.length : Int)
      rotate_left
      ·
       rw [if_neg c19] at H
       exact absurd H (by simp)
      rw [if_pos c19] at H
      have c19b0 : decide (x1_2 < (l0_0.length : Int)) = true := decide_eq_true c19
      clear c19
      have H' := aM H
      clear H
      go_wp2_with (first | ((with_reducible refine gate_builtin (b := .append) (xs := #[.tmp 28, .tmp 30]) rfl ?_); (try (refine gate_guard (by rfl) ?_; dsimp only)); at_builtin; refine Kd.R_append (Kd.int .i64) (w0 := w) w.heap.size rfl (.tmp 28) (.tmp 30) 26 3 (.int .i64 0) 8 rfl Try.underlying26 info3 rfl (by decide) (by omega) u5 x5_2 x1_2 [.int .i64 x1_2] (fun _ => True) (fun _ => False) rfl rfl ?aP (fun _ hk => hk.elim) ?aF ?aO ?aB ?aS ?aL ?_; (case aP => exact rfl); (case aB => exact (by repeat (first | (with_reducible first | exact HB.out | apply bA | apply bN | apply bD | refine below_set ?_ GE300.out) | exact HB.out))); (case aF => exact (fun _ _ => trivial)); (case aO => exact (R_mv HO_5.out)); (case aS => exact (below_size (by repeat (first | (with_reducible first | exact HB.out | apply bA | apply bN | apply bD | refine below_set ?_ GE300.out) | exact HB.out)))); (case aL => have := LMc17.out; omega); intro v303 w20 ho hb hg hat; rw [← Ny302.out] at ho; have n0_ := aM (blk_grown (blk_mv BK300.out) hg (Kd.R_ne HO_5.out BK300.out (by decide))); have n1_ := aM (hb); have n2_ := aM (ho); clear BK300; clear HB; clear HO_5; have BK300 := n0_; have HB := n1_; have HO304 := n2_; clear n0_ n1_ n2_; clear ho hb hg hat; obtain ⟨hcz21_0, hcz21_1, hcz21_2, hfz21_0, hfz21_1, hfz21_2⟩ := blk3 BK300.out; have p305 : 0 ≤ (x1_2 : Int) := of_decide_eq_true (by first | (with_reducible assumption) | assumption); have q305 : x1_2 < (l0_0.length : Int) := of_decide_eq_true (by first | (with_reducible assumption) | assumption); obtain ⟨ad305, e305, hx305_0, hx305_1, hx305_2, hx305_3, hx305_4⟩ := at_T32 HR0_0.out x1_2 p305 q305; cases e305; try replace hx305_0 := (HB.out.cell (World.block_lt_of_cell? w _ hx305_0)).trans hx305_0; try replace hx305_1 := (HB.out.cell (World.block_lt_of_cell? w _ hx305_1)).trans hx305_1; try replace hx305_2 := (HB.out.cell (World.block_lt_of_cell? w _ hx305_2)).trans hx305_2; try replace hx305_3 := (HB.out.cell (World.block_lt_of_cell? w _ hx305_3)).trans hx305_3; try replace hx305_4 := (HB.out.cell (World.block_lt_of_cell? w _ hx305_4)).trans hx305_4; replace p305 := eq_true p305; replace q305 := eq_true q305))
      go_roundg k2
      case measure => have := HJ2.out; have := HK2.out; omega
      case rel => exact ⟨((rd_T32 l0_0 x1_2).f0), (y302), (by first | rfl | (simp; done) | (simp [*]; done)), H', ⟨by have := HJ2.out; have := HK2.out; omega⟩, ⟨by (with_reducible repeat (first | apply Kd.R_alloc | apply Kd.R_drewN | apply Kd.R_drew)); exact HO304.out⟩, ⟨blk_mv BK300.out⟩, ⟨by repeat (first | (with_reducible first | exact HB.out | apply bA | apply bN | apply bD | refine below_set ?_ GE300.out) | exact HB.out)⟩⟩
     rw [if_neg c16] at H
     have c16b0 : decide (0 ≤ x1_2) = false := decide_eq_false c16
     clear c16
     obtain rfl := Option.some.inj H
     go_wp2
     go_ret
     exact ⟨_, by first | rfl | (simp [errW_none, errW_some] <;> rfl) | (simp [*, errW_none, errW_some] <;> rfl), by (with_reducible repeat (first | apply Kd.R_alloc | apply Kd.R_drewN | apply Kd.R_drew)); exact HO_5.out, by repeat (first | (with_reducible first | exact HB.out | apply bA | apply bN | apply bD | refine below_set ?_ GE300.out) | exact HB.out)⟩

/-! ### minecontrolref18_Live: function 30 -/
mutual
def minecontrolref18_Live.j0 : Nat → Int → Bool → List (S32) → List Int → Int → Option (Int)
 | 0, _, _, _, _, _ => none
 | k + 1, x1, x21, x307000, x307001, x307002 => if x21 = true then (some 0) else (if 0 ≤ x1 then (if x1 < (x307001.length : Int) then ((minecontrolref18_Path.f k x307000 x307001 x307002 (rd x307001 x1)).bind fun t309 => (minecontrolref18_Live.l0 k 1 t309 0 x307000 x307001 x307002)) else (none)) else (none))
def minecontrolref18_Live.l0 : Nat → Int → List Int → Int → List (S32) → List Int → Int → Option (Int)
 | 0, _, _, _, _, _, _ => none
 | k + 1, x5, x6, x7, x307000, x307001, x307002 => if x7 < (x6.length : Int) then (if 0 ≤ x7 then (if 0 ≤ (rd x6 x7) then (if (rd x6 x7) < (x307000.length : Int) then (minecontrolref18_Live.l0 k (mn x5 ((rd_T32 x307000 (rd x6 x7)).f2)) x6 (wrap64 (x7 + 1)) x307000 x307001 x307002) else (none)) else (none)) else (none)) else (some x5)
end
def minecontrolref18_Live.f (k : Nat) (l0_0 : List (S32)) (l0_1 : List Int) (a0_2 : Int) (a1 : Int) : Option (Int) := (minecontrolref18_Check.f k l0_0 l0_1 a0_2).bind fun t307 => (if t307 = 0 then (if a1 < 0 then (minecontrolref18_Live.j0 k a1 true l0_0 l0_1 a0_2) else (minecontrolref18_Live.j0 k a1 (decide (a1 ≥ (l0_1.length : Int))) l0_0 l0_1 a0_2)) else (minecontrolref18_Live.j0 k a1 true l0_0 l0_1 a0_2))
theorem minecontrolref18_Live.mono_l : ∀ k, (∀ y0 y1 y2 y3 y4, LeO (minecontrolref18_Live.j0 k y0 y1 y2 y3 y4) (minecontrolref18_Live.j0 (k + 1) y0 y1 y2 y3 y4)) ∧ (∀ y0 y1 y2 y3 y4 y5, LeO (minecontrolref18_Live.l0 k y0 y1 y2 y3 y4 y5) (minecontrolref18_Live.l0 (k + 1) y0 y1 y2 y3 y4 y5))
 | 0 => ⟨fun _ _ _ _ _ r h => by simp [minecontrolref18_Live.j0] at h, fun _ _ _ _ _ _ r h => by simp [minecontrolref18_Live.l0] at h⟩
 | k + 1 => by
  obtain ⟨ih0, ih1⟩ := minecontrolref18_Live.mono_l k
  refine ⟨?_, ?_⟩
  ·
   intro y0 y1 y2 y3 y4
   unfold minecontrolref18_Live.j0
   repeat' first
   | (with_reducible exact ih0 _ _ _ _ _)
   | (with_reducible exact ih1 _ _ _ _ _ _)
   | (with_reducible exact minecontrolref18_Check.mono _ _ _ _)
   | (with_reducible exact minecontrolref18_Path.mono _ _ _ _ _)
   | (with_reducible exact LeO.refl _)
   | (with_reducible exact LeO.none _)
   | (with_reducible refine LeO.ite ?_ ?_)
   | (with_reducible refine LeO.bind ?_ (fun _ => ?_))
   | exact ih0 _ _ _ _ _
   | exact ih1 _ _ _ _ _ _
   | exact LeO.none _
   | refine LeO.ite ?_ ?_
   | refine LeO.bind ?_ (fun _ => ?_)
  intro y0 y1 y2 y3 y4 y5
  unfold minecontrolref18_Live.l0
  repeat' first
  | (with_reducible exact ih0 _ _ _ _ _)
  | (with_reducible exact ih1 _ _ _ _ _ _)
  | (with_reducible exact minecontrolref18_Check.mono _ _ _ _)
  | (with_reducible exact minecontrolref18_Path.mono _ _ _ _ _)
  | (with_reducible exact LeO.refl _)
  | (with_reducible exact LeO.none _)
  | (with_reducible refine LeO.ite ?_ ?_)
  | (with_reducible refine LeO.bind ?_ (fun _ => ?_))
  | exact ih0 _ _ _ _ _
  | exact ih1 _ _ _ _ _ _
  | exact LeO.none _
  | refine LeO.ite ?_ ?_
  | refine LeO.bind ?_ (fun _ => ?_)
theorem minecontrolref18_Live.mono : ∀ a0 a1 a2 a3 k, LeO (minecontrolref18_Live.f k a0 a1 a2 a3) (minecontrolref18_Live.f (k + 1) a0 a1 a2 a3) := by
 intro a0 a1 a2 a3 k
 obtain ⟨ih0, ih1⟩ := minecontrolref18_Live.mono_l k
 unfold minecontrolref18_Live.f
 repeat' first
   | (with_reducible exact ih0 _ _ _ _ _)
   | (with_reducible exact ih1 _ _ _ _ _ _)
   | (with_reducible exact minecontrolref18_Check.mono _ _ _ _)
   | (with_reducible exact minecontrolref18_Path.mono _ _ _ _ _)
   | (with_reducible exact LeO.refl _)
   | (with_reducible exact LeO.none _)
   | (with_reducible refine LeO.ite ?_ ?_)
   | (with_reducible refine LeO.bind ?_ (fun _ => ?_))
   | exact ih0 _ _ _ _ _
   | exact ih1 _ _ _ _ _ _
   | exact LeO.none _
   | refine LeO.ite ?_ ?_
   | refine LeO.bind ?_ (fun _ => ?_)
def minecontrolref18_Live.T4 : Bool × List (List Nat × List Nat) := (true, [([], []), ([], []), ([1], [1]), ([], []), ([2, 3], [2, 3]), ([4], [4]), ([0, 5], [0, 5]), ([6, 6, 0, 1, 2, 3, 4, 5, 6], [6])])
def minecontrolref18_Live.B4 : List Nat := [0, 0, 2, 0, 14, 30, 63, 127]
theorem minecontrolref18_Live.tab4 : rtab .any (opsOf Try.f30 4) = minecontrolref18_Live.T4 := by kernel_rfl
theorem minecontrolref18_Live.bits4 : waitsOk minecontrolref18_Live.T4.2 minecontrolref18_Live.B4 = true := by kernel_rfl
def minecontrolref18_Live.T8 : Bool × List (List Nat × List Nat) := (true, [([], []), ([], []), ([1], [1]), ([], []), ([], []), ([3, 4], [3, 4]), ([5], [5]), ([2, 6], [2, 6]), ([7], [7]), ([8], [8]), ([0, 9], [0, 9]), ([10, 0, 1, 2, 3, 4, 5, 6, 7, 8, 9, 10], [0, 10])])
def minecontrolref18_Live.B8 : List Nat := [0, 0, 2, 0, 0, 24, 56, 126, 254, 510, 1023, 2047]
theorem minecontrolref18_Live.tab8 : rtab .any (opsOf Try.f30 8) = minecontrolref18_Live.T8 := by kernel_rfl
theorem minecontrolref18_Live.bits8 : waitsOk minecontrolref18_Live.T8.2 minecontrolref18_Live.B8 = true := by kernel_rfl
set_option maxHeartbeats 8000000 in
set_option maxRecDepth 100000 in
theorem minecontrolref18_Live.calls (k : Nat) (A0_0 : Option Addr) (c0_0 : Nat) (l0_0 : List (S32)) (A0_1 : Option Addr) (c0_1 : Nat) (l0_1 : List Int) (a0_2 : Int) (a1 : Int) (r : Int) (w : World) (hr0_0 : Kd.C k32 w A0_0 l0_0.length l0_0) (hc0_0 : l0_0.length ≤ c0_0) (hr0_1 : Kd.C (Kd.int .i64) w A0_1 l0_1.length l0_1) (hc0_1 : l0_1.length ≤ c0_1) (h : minecontrolref18_Live.f k l0_0 l0_1 a0_2 a1 = some r) :
  Calls Try.prog 30 #[.agg #[.slice A0_0 l0_0.length c0_0, .slice A0_1 l0_1.length c0_1, .int .i64 a0_2], .int .i64 a1] w fun e w' => e = .returned (.int .i64 r) ∧ Below w.heap.size w w' := by
 have hu28 := Try.underlying28
 have HR0_0 := aM hr0_0
 have HC0_0 := aM hc0_0
 clear hr0_0 hc0_0
 have HR0_1 := aM hr0_1
 have HC0_1 := aM hc0_1
 clear hr0_1 hc0_1
 have HB := aM (Below.refl w.heap.size w)
 have H : ((minecontrolref18_Check.f k l0_0 l0_1 a0_2).bind fun t307 => (if t307 = 0 then (if a1 < 0 then (minecontrolref18_Live.j0 k a1 true l0_0 l0_1 a0_2) else (minecontrolref18_Live.j0 k a1 (decide (a1 ≥ (l0_1.length : Int))) l0_0 l0_1 a0_2)) else (minecontrolref18_Live.j0 k a1 true l0_0 l0_1 a0_2))) = some r := h
 clear h
 have HC3 := aM H
 clear H
 go_enter Try.func30, Try.ntmps30
 go_upto_region 1 with (first | ((with_reducible refine gate_dst (N := 2) rfl ?_); (try (refine gate_guard (by rfl) ?_; dsimp only)); refine box_event ?hg (N := 2) ?hd (cs := #[.slice A0_0 l0_0.length c0_0, .slice A0_1 l0_1.length c0_1, .int .i64 a0_2]) (t := 28) ?hr ?_; (case hd => rfl); (case hg => rfl); (case hr => first | (go_simp; done) | (go_simp; rfl)); intro gb306 hg w4 hbox hb; have BK306 := aM (hbox); have GW306 := aM ((by rw [hg]; exact (below_size (below_mv HB.out)) : w.heap.size ≤ gb306)); have GE306 := aM ((by rw [hg]; exact (below_size (below_mv HB.out)) : w.heap.size ≤ gb306)); replace HB := aM (below_step (below_mv HB.out) hb); clear hb hbox hg))
 (try simp only [Act.put, List.setIfInBounds_toArray, List.set_cons_zero, List.set_cons_succ])
 go_cut [21] (fun v21 wc => ∃ (kq : Nat) (x21_2 : Bool), v21 = .bool x21_2 ∧ Aside0 (minecontrolref18_Live.j0 kq a1 x21_2 l0_0 l0_1 a0_2 = some r) ∧ Aside0 (kq ≤ k) ∧ Aside0 (wc.heap[gb306]? = some (.cells #[(.slice A0_0 l0_0.length c0_0), (.slice A0_1 l0_1.length c0_1), .int .i64 a0_2] 28 (0, 0))) ∧ Aside0 (Below w.heap.size w wc))
 case first =>
  have H := HC3.out
  clear HC3
  replace H := Option.bind_eq_some_iff.mp H
  obtain ⟨t307, A50, H⟩ := H
  replace H : (if t307 = 0 then (if a1 < 0 then (minecontrolref18_Live.j0 k a1 true l0_0 l0_1 a0_2) else (minecontrolref18_Live.j0 k a1 (decide (a1 ≥ (l0_1.length : Int))) l0_0 l0_1 a0_2)) else (minecontrolref18_Live.j0 k a1 true l0_0 l0_1 a0_2)) = some r := H
  have A5 := aM A50
  clear A50
  by_cases c6 : t307 = 0
  ·
   rw [if_pos c6] at H
   have c6b0 : (t307 == 0) = true := beq_iff_eq.mpr c6
   have c6b1 : (t307 != 0) = false := bne_eq_false_iff_eq.mpr c6
   clear c6
   (first | rw [c6b0] | (simp only [i64_w, i32_w]; rw [c6b0]) | skip)
   by_cases c7 : a1 < 0
   ·
    rw [if_pos c7] at H
    have c7b0 : decide (a1 < 0) = true := decide_eq_true c7
    clear c7
    have H' := aM H
    clear H
    obtain ⟨hcz8_0, hcz8_1, hcz8_2, hfz8_0, hfz8_1, hfz8_2⟩ := blk3 BK306.out
    go_wp2_with (first | ((with_reducible refine gate_callee (f := 26) rfl ?_); refine goesL_ (some 9) rfl rfl Try.func26 (by kernel_rfl) rfl #[.agg #[.slice A0_0 l0_0.length c0_0, .slice A0_1 l0_1.length c0_1, .int .i64 a0_2]] rfl (by first | rfl | (simp only [List.map_toArray, List.map_cons, List.map_nil, List.length_drop, List.length_take]; rfl)) ?_; (with_reducible refine (minecontrolref18_Check.calls k _ _ l0_0 _ _ l0_1 a0_2 t307 _ ?side1 ?side2 ?side3 ?side4 A5.out).mono ?_); (case side1 => first | exact C_mv (Kd.C_below HR0_0.out HB.out) | exact C_mv HR0_0.out); (case side2 => exact HC0_0.out); (case side3 => first | exact C_mv (Kd.C_below HR0_1.out HB.out) | exact C_mv HR0_1.out); (case side4 => exact HC0_1.out); rintro e w9 ⟨rfl, hb⟩; refine ⟨_, rfl, ?_⟩; replace BK306 := aM (blk_below (blk_mv BK306.out) hb); replace HB := aM (below_step (by repeat (first | (with_reducible first | exact HB.out | apply bA | apply bN | apply bD | refine below_set ?_ GE306.out) | exact HB.out)) hb); (try clear hb); (try clear hb2); (try clear hge); (try clear hk); (try clear hi)))
    go_meet
    case rel => exact ⟨_, (true), (by first | rfl | (simp; done) | (simp [*]; done)), H', ⟨by first | omega | exact Nat.le_refl _⟩, ⟨blk_mv BK306.out⟩, ⟨by repeat (first | (with_reducible first | exact HB.out | apply bA | apply bN | apply bD | refine below_set ?_ GE306.out) | exact HB.out)⟩⟩
   rw [if_neg c7] at H
   have c7b0 : decide (a1 < 0) = false := decide_eq_false c7
   clear c7
   have H' := aM H
   clear H
   obtain ⟨hcz10_0, hcz10_1, hcz10_2, hfz10_0, hfz10_1, hfz10_2⟩ := blk3 BK306.out
   go_wp2_with (first | ((with_reducible refine gate_callee (f := 26) rfl ?_); refine goesL_ (some 9) rfl rfl Try.func26 (by kernel_rfl) rfl #[.agg #[.slice A0_0 l0_0.length c0_0, .slice A0_1 l0_1.length c0_1, .int .i64 a0_2]] rfl (by first | rfl | (simp only [List.map_toArray, List.map_cons, List.map_nil, List.length_drop, List.length_take]; rfl)) ?_; (with_reducible refine (minecontrolref18_Check.calls k _ _ l0_0 _ _ l0_1 a0_2 t307 _ ?side1 ?side2 ?side3 ?side4 A5.out).mono ?_); (case side1 => first | exact C_mv (Kd.C_below HR0_0.out HB.out) | exact C_mv HR0_0.out); (case side2 => exact HC0_0.out); (case side3 => first | exact C_mv (Kd.C_below HR0_1.out HB.out) | exact C_mv HR0_1.out); (case side4 => exact HC0_1.out); rintro e w11 ⟨rfl, hb⟩; refine ⟨_, rfl, ?_⟩; replace BK306 := aM (blk_below (blk_mv BK306.out) hb); replace HB := aM (below_step (by repeat (first | (with_reducible first | exact HB.out | apply bA | apply bN | apply bD | refine below_set ?_ GE306.out) | exact HB.out)) hb); (try clear hb); (try clear hb2); (try clear hge); (try clear hk); (try clear hi); obtain ⟨hcz12_0, hcz12_1, hcz12_2, hfz12_0, hfz12_1, hfz12_2⟩ := blk3 BK306.out))
   go_meet
   case rel => exact ⟨_, (decide (a1 ≥ (l0_1.length : Int))), (by first | rfl | (simp; done) | (simp [*]; done)), H', ⟨by first | omega | exact Nat.le_refl _⟩, ⟨blk_mv BK306.out⟩, ⟨by repeat (first | (with_reducible first | exact HB.out | apply bA | apply bN | apply bD | refine below_set ?_ GE306.out) | exact HB.out)⟩⟩
  rw [if_neg c6] at H
  have c6b0 : (t307 == 0) = false := beq_eq_false_iff_ne.mpr c6
  have c6b1 : (t307 != 0) = true := bne_iff_ne.mpr c6
  (first | rw [c6b0] | (simp only [i64_w, i32_w]; rw [c6b0]) | skip)
  have H' := aM H
  clear H
  obtain ⟨hcz13_0, hcz13_1, hcz13_2, hfz13_0, hfz13_1, hfz13_2⟩ := blk3 BK306.out
  go_wp2_with (first | ((with_reducible refine gate_callee (f := 26) rfl ?_); refine goesL_ (some 9) rfl rfl Try.func26 (by kernel_rfl) rfl #[.agg #[.slice A0_0 l0_0.length c0_0, .slice A0_1 l0_1.length c0_1, .int .i64 a0_2]] rfl (by first | rfl | (simp only [List.map_toArray, List.map_cons, List.map_nil, List.length_drop, List.length_take]; rfl)) ?_; (with_reducible refine (minecontrolref18_Check.calls k _ _ l0_0 _ _ l0_1 a0_2 t307 _ ?side1 ?side2 ?side3 ?side4 A5.out).mono ?_); (case side1 => first | exact C_mv (Kd.C_below HR0_0.out HB.out) | exact C_mv HR0_0.out); (case side2 => exact HC0_0.out); (case side3 => first | exact C_mv (Kd.C_below HR0_1.out HB.out) | exact C_mv HR0_1.out); (case side4 => exact HC0_1.out); rintro e w14 ⟨rfl, hb⟩; refine ⟨_, rfl, ?_⟩; replace BK306 := aM (blk_below (blk_mv BK306.out) hb); replace HB := aM (below_step (by repeat (first | (with_reducible first | exact HB.out | apply bA | apply bN | apply bD | refine below_set ?_ GE306.out) | exact HB.out)) hb); (try clear hb); (try clear hb2); (try clear hge); (try clear hk); (try clear hi)))
  go_meet
  case rel => exact ⟨_, (true), (by first | rfl | (simp; done) | (simp [*]; done)), H', ⟨by first | omega | exact Nat.le_refl _⟩, ⟨blk_mv BK306.out⟩, ⟨by repeat (first | (with_reducible first | exact HB.out | apply bA | apply bN | apply bD | refine below_set ?_ GE306.out) | exact HB.out)⟩⟩
 case rest =>
  clear HC3
  obtain ⟨kq, x21_2, rfl, HA, HJ2, BK306, HB⟩ := hcut
  cases kq with
  | zero => exact absurd HA.out (by simp [minecontrolref18_Live.j0])
  | succ kj2 =>
   have H := HA.out
   clear HA
   simp only [minecontrolref18_Live.j0] at H
   by_cases c15 : x21_2 = true
   ·
    subst c15
    have H1 : (some 0) = some r := by rw [if_pos rfl] at H; exact H
    clear H
    have H := H1
    clear H1
    obtain rfl := Option.some.inj H
    go_wp2
    go_ret
    exact ⟨by first | rfl | (simp [errW_none, errW_some] <;> rfl) | (simp [*, errW_none, errW_some] <;> rfl), by repeat (first | (with_reducible first | exact HB.out | apply bA | apply bN | apply bD | refine below_set ?_ GE306.out) | exact HB.out)⟩
   replace c15 := Bool.eq_false_iff.mpr c15
   subst c15
   have H1 : (if 0 ≤ a1 then (if a1 < (l0_1.length : Int) then ((minecontrolref18_Path.f kj2 l0_0 l0_1 a0_2 (rd l0_1 a1)).bind fun t309 => (minecontrolref18_Live.l0 kj2 1 t309 0 l0_0 l0_1 a0_2)) else (none)) else (none)) = some r := by rw [if_neg (show ¬ (false = true) by decide)] at H; exact H
   clear H
   have H := H1
   clear H1
   by_cases c16 : 0 ≤ a1
   rotate_left
   ·
    rw [if_neg c16] at H
    exact absurd H (by simp)
   rw [if_pos c16] at H
   have c16b0 : decide (0 ≤ a1) = true := decide_eq_true c16
   clear c16
   by_cases c17 : a1 < (l0_1.length : Int)
   rotate_left
   ·
    rw [if_neg c17] at H
    exact absurd H (by simp)
   rw [if_pos c17] at H
   have c17b0 : decide (a1 < (l0_1.length : Int)) = true := decide_eq_true c17
   clear c17
   replace H := Option.bind_eq_some_iff.mp H
   obtain ⟨t309, A180, H⟩ := H
   replace H : (minecontrolref18_Live.l0 kj2 1 t309 0 l0_0 l0_1 a0_2) = some r := H
   have A18 := aM A180
   clear A180
   have H' := aM H
   clear H
   try go_wp2
   replace BK306 := aM (blk_drew BK306.out)
   replace HB := aM (below_drew1 HB.out)
   have p308 : 0 ≤ (a1 : Int) := of_decide_eq_true (by first | (with_reducible assumption) | assumption)
   have q308 : a1 < (l0_1.length : Int) := of_decide_eq_true (by first | (with_reducible assumption) | assumption)
   obtain ⟨ad308, e308, hx308_0⟩ := Kd.at_int HR0_1.out a1 p308 q308
   have hw308_0 := hx308_0
   cases e308
   try replace hx308_0 := (HB.out.cell (World.block_lt_of_cell? w _ hx308_0)).trans hx308_0
   replace p308 := eq_true p308
   replace q308 := eq_true q308
   refine start_ (n := 8) (S := fun w' => w'.cell? ⟨gb306, 0, none⟩ = some (.slice A0_0 l0_0.length c0_0) ∧ w'.cell? ⟨gb306, 1, none⟩ = some (.slice (some ad308) l0_1.length c0_1) ∧ w'.cell? ⟨gb306, 2, none⟩ = some (.int .i64 a0_2) ∧ w'.cell? (ad308.add (a1).toNat) = some (.int .i64 (rd l0_1 a1))) (ds := []) #[false, false, false, false, false, false, false, false] (by kernel_rfl) rfl rfl ⟨(blk_cell BK306.out 0).trans rfl, (blk_cell BK306.out 1).trans rfl, (blk_cell BK306.out 2).trans rfl, (by first | exact ((HB.out.cell (World.block_lt_of_cell? w _ hw308_0)).trans hw308_0) | exact hw308_0 | exact hx308_0)⟩ (fun hHeld => ?_); refine with_tabW minecontrolref18_Live.tab4 minecontrolref18_Live.bits4 (fun HT_ HW_ => ?_)
   generalize wc.drew = w19 at BK306 HB hx308_0 hHeld ⊢
   refine pure_ (i := 1) (N := some 23) (v := ?_) (a' := ?_) #[false, true, false, false, false, false, false, false] rfl rfl (any_of HT_.out (by kernel_rfl)) (fun _ _ _ h => h) (Or.inl ⟨by rfl, ?_⟩) ?_ ?_
   rotate_left
   ·
    intro w'
    go_simp
    with_reducible rfl
   rotate_left
   ·
    simp only [Act.put, sT, sZ, sS, i64_w, i32_w]
    rfl
   refine pure_ (i := 3) (N := some 25) (v := ?_) (a' := ?_) #[false, true, false, true, false, false, false, false] rfl rfl (any_of HT_.out (by kernel_rfl)) (fun _ _ _ h => h) (Or.inl ⟨by rfl, ?_⟩) ?_ ?_
   rotate_left
   ·
    intro w'
    go_simp
    with_reducible rfl
   rotate_left
   ·
    simp only [Act.put, sT, sZ, sS, i64_w, i32_w]
    rfl
   refine take_ (i := 0) (N := some 22) (v := ?_) (a' := ?_) #[true, true, false, true, false, false, false, false] rfl rfl (take_ofW HT_.out HW_.out (by kernel_rfl)) (fun _ _ _ h => h) (Or.inl ⟨by rfl, ?_⟩) hHeld ?_ ?_
   rotate_left
   ·
    rintro w' ⟨s0, s1, s2, s3⟩
    go_simp
    with_reducible rfl
   rotate_left
   ·
    simp only [Act.put, sT, sZ, sS, i64_w, i32_w]
    rfl
   refine take_ (i := 2) (N := some 24) (v := ?_) (a' := ?_) #[true, true, true, true, false, false, false, false] rfl rfl (take_ofW HT_.out HW_.out (by kernel_rfl)) (fun _ _ _ h => h) (Or.inl ⟨by rfl, ?_⟩) hHeld ?_ ?_
   rotate_left
   ·
    rintro w' ⟨s0, s1, s2, s3⟩
    go_simp
    with_reducible rfl
   rotate_left
   ·
    simp only [Act.put, sT, sZ, sS, i64_w, i32_w]
    rfl
   refine pure_ (i := 4) (N := some 26) (v := ?_) (a' := ?_) #[true, true, true, true, true, false, false, false] rfl rfl (any_of HT_.out (by kernel_rfl)) (fun _ _ _ h => h) (Or.inl ⟨by rfl, ?_⟩) ?_ ?_
   rotate_left
   ·
    intro w'
    go_simp
    with_reducible rfl
   rotate_left
   ·
    simp only [Act.put, sT, sZ, sS, i64_w, i32_w]
    rfl
   refine take_ (i := 5) (N := some 27) (v := ?_) (a' := ?_) #[true, true, true, true, true, true, false, false] rfl rfl (take_ofW HT_.out HW_.out (by kernel_rfl)) (fun _ _ _ h => h) (Or.inl ⟨by rfl, ?_⟩) hHeld ?_ ?_
   rotate_left
   ·
    rintro w' ⟨s0, s1, s2, s3⟩
    go_simp
    with_reducible rfl
   rotate_left
   ·
    simp only [Act.put, sT, sZ, sS, i64_w, i32_w]
    rfl
   refine one_ (i := 6) (N := some 28) #[true, true, true, true, true, true, true, false] rfl rfl (one_of HT_.out (by kernel_rfl)) (by decide) (fun K hK => ?_)
   refine goes_ Try.func29 (by kernel_rfl) rfl #[.agg #[.slice A0_0 l0_0.length c0_0, .slice (some ad308) l0_1.length c0_1, .int .i64 a0_2], .int .i64 (rd l0_1 a1)] (by rfl) rfl rfl (by first | rfl | (simp only [List.map_toArray, List.map_cons, List.map_nil, List.length_drop, List.length_take]; rfl)) ?_
   with_reducible refine (minecontrolref18_Path.calls kj2 _ _ l0_0 _ _ l0_1 a0_2 (rd l0_1 a1) t309 _ ?side1 ?side2 ?side3 ?side4 A18.out).mono ?_
   (case side1 => first | exact C_mv (Kd.C_below HR0_0.out HB.out) | exact C_mv HR0_0.out)
   (case side2 => exact HC0_0.out)
   (case side3 => first | exact C_mv (Kd.C_below HR0_1.out HB.out) | exact C_mv HR0_1.out)
   (case side4 => exact HC0_1.out)
   rintro e w20 ⟨v310, rfl, ho0, hb⟩
   refine ⟨_, rfl, ?_⟩
   have HO311 := aM (Kd.R_lower ho0 (below_size (by repeat (first | (with_reducible first | exact HB.out | apply bA | apply bN | apply bD | refine below_set ?_ GE306.out) | exact HB.out))))
   replace BK306 := aM (blk_below (blk_mv BK306.out) hb)
   replace HB := aM (below_step (by repeat (first | (with_reducible first | exact HB.out | apply bA | apply bN | apply bD | refine below_set ?_ GE306.out) | exact HB.out)) hb)
   (try replace hw308_0 := (hb.cell (World.block_lt_of_cell? _ _ hw308_0)).trans hw308_0)
   (try replace hx308_0 := (hb.cell (World.block_lt_of_cell? _ _ hx308_0)).trans hx308_0)
   (try replace HR0_0 := aM (Kd.C_below HR0_0.out hb))
   (try replace HR0_1 := aM (Kd.C_below HR0_1.out hb))
   (try clear hb)
   (try clear hb2)
   (try clear hge)
   (try clear hk)
   (try clear hi)
   (try clear ho0)
   refine hK.out _ _ ⟨(blk_cell BK306.out 0).trans rfl, (blk_cell BK306.out 1).trans rfl, (blk_cell BK306.out 2).trans rfl, (by first | exact ((HB.out.cell (World.block_lt_of_cell? w _ hw308_0)).trans hw308_0) | exact hw308_0 | exact hx308_0)⟩ (fun hHeld => ?_)
   clear hK K
   refine norm_ (a' := ?_) ?_ ?_
   rotate_left
   ·
    show Act.put _ (some 28) _ = _
    simp only [Act.put, sT, sZ, sS, i64_w, i32_w]
    rfl
   refine pure_ (i := 7) (N := some 6) (v := ?_) (a' := ?_) #[true, true, true, true, true, true, true, true] rfl rfl (any_of HT_.out (by kernel_rfl)) (fun _ _ _ h => h) (Or.inl ⟨by rfl, ?_⟩) ?_ ?_
   rotate_left
   ·
    intro w'
    go_simp
    with_reducible rfl
   rotate_left
   ·
    simp only [Act.put, sT, sZ, sS, i64_w, i32_w]
    rfl
   refine done_ (done_of HT_.out (by kernel_rfl)) ?_
   try go_wp2
   go_loopg [5, 7] kj2 (fun kq v5 v7 w' => ∃ (x5_2 : Int) (x7_2 : Int), v5 = .int .i64 x5_2 ∧ v7 = .int .i64 x7_2 ∧ Aside0 (minecontrolref18_Live.l0 kq x5_2 t309 x7_2 l0_0 l0_1 a0_2 = some r) ∧ Aside0 (kq ≤ kj2) ∧ Aside0 (Kd.R (Kd.int .i64) 3 w' w.heap.size (fun _ => True) v310 t309) ∧ Aside0 (w'.heap[gb306]? = some (.cells #[(.slice A0_0 l0_0.length c0_0), (.slice (some ad308) l0_1.length c0_1), .int .i64 a0_2] 28 (0, 0))) ∧ Aside0 (Below w.heap.size w w'))
   case atStart => exact ⟨(1), (0), (by first | rfl | (simp; done) | (simp [*]; done)), (by first | rfl | (simp; done) | (simp [*]; done)), H', ⟨Nat.le_refl _⟩, ⟨by (with_reducible repeat (first | apply Kd.R_alloc | apply Kd.R_drewN | apply Kd.R_drew)); exact HO311.out⟩, ⟨blk_mv BK306.out⟩, ⟨by repeat (first | (with_reducible first | exact HB.out | apply bA | apply bN | apply bD | refine below_set ?_ GE306.out) | exact HB.out)⟩⟩
   case round =>
    clear H'
    obtain ⟨x5_2, x7_2, rfl, rfl, HA, HK2, HO_6, BK306, HB⟩ := hrel
    cases gk with
    | zero => exact absurd HA.out (by simp [minecontrolref18_Live.l0])
    | succ k2 =>
     have H := HA.out
     clear HA
     simp only [minecontrolref18_Live.l0] at H
     by_cases c21 : x7_2 < (t309.length : Int)
     ·
      rw [if_pos c21] at H
      have c21b0 : decide (x7_2 < (t309.length : Int)) = true := decide_eq_true c21
      clear c21
      by_cases c22 : 0 ≤ x7_2
      rotate_left
      ·
       rw [if_neg c22] at H
       exact absurd H (by simp)
      rw [if_pos c22] at H
      have c22b0 : decide (0 ≤ x7_2) = true := decide_eq_true c22
      clear c22
      by_cases c23 : 0 ≤ (rd t309 x7_2)
      rotate_left
      ·
       rw [if_neg c23] at H
       exact absurd H (by simp)
      rw [if_pos c23] at H
      have c23b0 : decide (0 ≤ (rd t309 x7_2)) = true := decide_eq_true c23
      clear c23
      by_cases c24 : (rd t309 x7_2) < (l0_0.length : Int)
      rotate_left
      ·
       rw [if_neg c24] at H
       exact absurd H (by simp)
      rw [if_pos c24] at H
      have c24b0 : decide ((rd t309 x7_2) < (l0_0.length : Int)) = true := decide_eq_true c24
      clear c24
      obtain ⟨ji25, hji25⟩ : ∃ j_ : Int, (mn x5_2 ((rd_T32 l0_0 (rd t309 x7_2)).f2)) = j_ := ⟨_, rfl⟩
      replace H : (minecontrolref18_Live.l0 k2 ji25 t309 (wrap64 (x7_2 + 1)) l0_0 l0_1 a0_2) = some r := by first | (rw [hji25] at H; exact H) | (simp only [hji25] at H ⊢; exact H)
      have hji25_ : (if ((rd_T32 l0_0 (rd t309 x7_2)).f2) < x5_2 then ((rd_T32 l0_0 (rd t309 x7_2)).f2) else x5_2) = ji25 := hji25
      have H' := aM H
      clear H
      obtain ⟨Ao26, co26, eo26⟩ := Kd.R_slice HO_6.out
      subst eo26
      try go_wp2
      replace HO_6 := aM (Kd.R_drew HO_6.out)
      replace BK306 := aM (blk_drew BK306.out)
      replace HB := aM (below_drew1 HB.out)
      have p312 : 0 ≤ (x7_2 : Int) := of_decide_eq_true (by first | (with_reducible assumption) | assumption)
      have q312 : x7_2 < (t309.length : Int) := of_decide_eq_true (by first | (with_reducible assumption) | assumption)
      obtain ⟨ad312, e312, hx312_0⟩ := Kd.at_int (Kd.R_reads' HO_6.out).2.2 x7_2 p312 q312
      cases e312
      replace p312 := eq_true p312
      replace q312 := eq_true q312
      have p313 : 0 ≤ ((rd t309 x7_2) : Int) := of_decide_eq_true (by first | (with_reducible assumption) | assumption)
      have q313 : (rd t309 x7_2) < (l0_0.length : Int) := of_decide_eq_true (by first | (with_reducible assumption) | assumption)
      obtain ⟨ad313, e313, hx313_0, hx313_1, hx313_2, hx313_3, hx313_4⟩ := at_T32 HR0_0.out (rd t309 x7_2) p313 q313
      have hw313_4 := hx313_4
      have hw313_3 := hx313_3
      have hw313_2 := hx313_2
      have hw313_1 := hx313_1
      have hw313_0 := hx313_0
      cases e313
      try replace hx313_0 := (HB.out.cell (World.block_lt_of_cell? w _ hx313_0)).trans hx313_0
      try replace hx313_1 := (HB.out.cell (World.block_lt_of_cell? w _ hx313_1)).trans hx313_1
      try replace hx313_2 := (HB.out.cell (World.block_lt_of_cell? w _ hx313_2)).trans hx313_2
      try replace hx313_3 := (HB.out.cell (World.block_lt_of_cell? w _ hx313_3)).trans hx313_3
      try replace hx313_4 := (HB.out.cell (World.block_lt_of_cell? w _ hx313_4)).trans hx313_4
      replace p313 := eq_true p313
      replace q313 := eq_true q313
      refine start_ (n := 12) (S := fun w' => w'.cell? ⟨gb306, 0, none⟩ = some (.slice (some ad313) l0_0.length c0_0) ∧ w'.cell? ⟨gb306, 1, none⟩ = some (.slice (some ad308) l0_1.length c0_1) ∧ w'.cell? ⟨gb306, 2, none⟩ = some (.int .i64 a0_2) ∧ w'.cell? (ad312.add (x7_2).toNat) = some (.int .i64 (rd t309 x7_2)) ∧ w'.cell? (ad313.add (((rd t309 x7_2)).toNat * 5)) = some (.int .i64 ((rd_T32 l0_0 (rd t309 x7_2)).f0)) ∧ w'.cell? ⟨(ad313.add (((rd t309 x7_2)).toNat * 5)).block, (ad313.add (((rd t309 x7_2)).toNat * 5)).off + 1, none⟩ = some (.int .i64 ((rd_T32 l0_0 (rd t309 x7_2)).f1)) ∧ w'.cell? ⟨(ad313.add (((rd t309 x7_2)).toNat * 5)).block, (ad313.add (((rd t309 x7_2)).toNat * 5)).off + 2, none⟩ = some (.int .i64 ((rd_T32 l0_0 (rd t309 x7_2)).f2)) ∧ w'.cell? ⟨(ad313.add (((rd t309 x7_2)).toNat * 5)).block, (ad313.add (((rd t309 x7_2)).toNat * 5)).off + 3, none⟩ = some (.bool ((rd_T32 l0_0 (rd t309 x7_2)).f3)) ∧ w'.cell? ⟨(ad313.add (((rd t309 x7_2)).toNat * 5)).block, (ad313.add (((rd t309 x7_2)).toNat * 5)).off + 4, none⟩ = some (.bool ((rd_T32 l0_0 (rd t309 x7_2)).f4))) (ds := []) #[false, false, false, false, false, false, false, false, false, false, false, false] (by kernel_rfl) rfl rfl ⟨(blk_cell BK306.out 0).trans rfl, (blk_cell BK306.out 1).trans rfl, (blk_cell BK306.out 2).trans rfl, hx312_0, (by first | exact ((HB.out.cell (World.block_lt_of_cell? w _ hw313_0)).trans hw313_0) | exact hw313_0 | exact hx313_0), (by first | exact ((HB.out.cell (World.block_lt_of_cell? w _ hw313_1)).trans hw313_1) | exact hw313_1 | exact hx313_1), (by first | exact ((HB.out.cell (World.block_lt_of_cell? w _ hw313_2)).trans hw313_2) | exact hw313_2 | exact hx313_2), (by first | exact ((HB.out.cell (World.block_lt_of_cell? w _ hw313_3)).trans hw313_3) | exact hw313_3 | exact hx313_3), (by first | exact ((HB.out.cell (World.block_lt_of_cell? w _ hw313_4)).trans hw313_4) | exact hw313_4 | exact hx313_4)⟩ (fun hHeld => ?_); refine with_tabW minecontrolref18_Live.tab8 minecontrolref18_Live.bits8 (fun HT_ HW_ => ?_)
      generalize wr.drew = w27 at HO_6 BK306 HB hx312_0 hx313_0 hx313_1 hx313_2 hx313_3 hx313_4 hHeld ⊢
      refine pure_ (i := 0) (N := some 35) (v := ?_) (a' := ?_) #[true, false, false, false, false, false, false, false, false, false, false, false] rfl rfl (any_of HT_.out (by kernel_rfl)) (fun _ _ _ h => h) (Or.inl ⟨by rfl, ?_⟩) ?_ ?_
      rotate_left
      ·
       intro w'
       go_simp
       with_reducible rfl
      rotate_left
      ·
       simp only [Act.put, sT, sZ, sS, i64_w, i32_w]
       rfl
      refine pure_ (i := 1) (N := some 36) (v := ?_) (a' := ?_) #[true, true, false, false, false, false, false, false, false, false, false, false] rfl rfl (any_of HT_.out (by kernel_rfl)) (fun _ _ _ h => h) (Or.inl ⟨by rfl, ?_⟩) ?_ ?_
      rotate_left
      ·
       intro w'
       go_simp
       with_reducible rfl
      rotate_left
      ·
       simp only [Act.put, sT, sZ, sS, i64_w, i32_w]
       rfl
      refine pure_ (i := 3) (N := some 38) (v := ?_) (a' := ?_) #[true, true, false, true, false, false, false, false, false, false, false, false] rfl rfl (any_of HT_.out (by kernel_rfl)) (fun _ _ _ h => h) (Or.inl ⟨by rfl, ?_⟩) ?_ ?_
      rotate_left
      ·
       intro w'
       go_simp
       with_reducible rfl
      rotate_left
      ·
       simp only [Act.put, sT, sZ, sS, i64_w, i32_w]
       rfl
      refine pure_ (i := 4) (N := some 39) (v := ?_) (a' := ?_) #[true, true, false, true, true, false, false, false, false, false, false, false] rfl rfl (any_of HT_.out (by kernel_rfl)) (fun _ _ _ h => h) (Or.inl ⟨by rfl, ?_⟩) ?_ ?_
      rotate_left
      ·
       intro w'
       go_simp
       with_reducible rfl
      rotate_left
      ·
       simp only [Act.put, sT, sZ, sS, i64_w, i32_w]
       rfl
      refine pure_ (i := 5) (N := some 40) (v := ?_) (a' := ?_) #[true, true, false, true, true, true, false, false, false, false, false, false] rfl rfl (any_of HT_.out (by kernel_rfl)) (fun _ _ _ h => h) (Or.inl ⟨by rfl, ?_⟩) ?_ ?_
      rotate_left
      ·
       intro w'
       go_simp
       with_reducible rfl
      rotate_left
      ·
       simp only [Act.put, sT, sZ, sS, i64_w, i32_w]
       rfl
      refine take_ (i := 2) (N := some 37) (v := ?_) (a' := ?_) #[true, true, true, true, true, true, false, false, false, false, false, false] rfl rfl (take_ofW HT_.out HW_.out (by kernel_rfl)) (fun _ _ _ h => h) (Or.inl ⟨by rfl, ?_⟩) hHeld ?_ ?_
      rotate_left
      ·
       rintro w' ⟨s0, s1, s2, s3, s4, s5, s6, s7, s8⟩
       go_simp
       with_reducible rfl
      rotate_left
      ·
       simp only [Act.put, sT, sZ, sS, i64_w, i32_w]
       rfl
      refine take_ (i := 6) (N := some 41) (v := ?_) (a' := ?_) #[true, true, true, true, true, true, true, false, false, false, false, false] rfl rfl (take_ofW HT_.out HW_.out (by kernel_rfl)) (fun _ _ _ h => h) (Or.inl ⟨by rfl, ?_⟩) hHeld ?_ ?_
      rotate_left
      ·
       rintro w' ⟨s0, s1, s2, s3, s4, s5, s6, s7, s8⟩
       go_simp
       with_reducible rfl
      rotate_left
      ·
       simp only [Act.put, sT, sZ, sS, i64_w, i32_w]
       rfl
      refine pure_ (i := 7) (N := some 42) (v := ?_) (a' := ?_) #[true, true, true, true, true, true, true, true, false, false, false, false] rfl rfl (any_of HT_.out (by kernel_rfl)) (fun _ _ _ h => h) (Or.inl ⟨by rfl, ?_⟩) ?_ ?_
      rotate_left
      ·
       intro w'
       go_simp
       with_reducible rfl
      rotate_left
      ·
       simp only [Act.put, sT, sZ, sS, i64_w, i32_w]
       rfl
      refine pure_ (i := 8) (N := some 43) (v := ?_) (a' := ?_) #[true, true, true, true, true, true, true, true, true, false, false, false] rfl rfl (any_of HT_.out (by kernel_rfl)) (fun _ _ _ h => h) (Or.inl ⟨by rfl, ?_⟩) ?_ ?_
      rotate_left
      ·
       intro w'
       go_simp
       with_reducible rfl
      rotate_left
      ·
       simp only [Act.put, sT, sZ, sS, i64_w, i32_w]
       rfl
      refine take_ (i := 9) (N := some 44) (v := ?_) (a' := ?_) #[true, true, true, true, true, true, true, true, true, true, false, false] rfl rfl (take_ofW HT_.out HW_.out (by kernel_rfl)) (fun _ _ _ h => h) (Or.inl ⟨by rfl, ?_⟩) hHeld ?_ ?_
      rotate_left
      ·
       rintro w' ⟨s0, s1, s2, s3, s4, s5, s6, s7, s8⟩
       go_simp
       with_reducible rfl
      rotate_left
      ·
       simp only [Act.put, sT, sZ, sS, i64_w, i32_w]
       rfl
      refine pure_ (i := 10) (N := some 45) (v := ?_) (a' := ?_) #[true, true, true, true, true, true, true, true, true, true, true, false] rfl rfl (any_of HT_.out (by kernel_rfl)) (fun _ _ _ h => h) (Or.inl ⟨by rfl, ?_⟩) ?_ ?_
      rotate_left
      ·
       intro w'
       go_simp
       with_reducible rfl
      rotate_left
      ·
       simp only [Act.put, sT, sZ, sS, i64_w, i32_w]
       rfl
      refine pure_ (i := 11) (N := some 5) (v := ?_) (a' := ?_) #[true, true, true, true, true, true, true, true, true, true, true, true] rfl rfl (any_of HT_.out (by kernel_rfl)) (fun _ _ _ h => h) (Or.inl ⟨by rfl, ?_⟩) ?_ ?_
      rotate_left
      ·
       intro w'
       go_simp
       with_reducible rfl
      rotate_left
      ·
       simp only [Act.put, sT, sZ, sS, i64_w, i32_w]
       rfl
      refine done_ (done_of HT_.out (by kernel_rfl)) ?_
      try go_wp2
      go_roundg k2
      case measure => have := HJ2.out; have := HK2.out; omega
      case rel => exact ⟨(ji25), (wrap64 (x7_2 + 1)), (by first | rfl | (simp; done) | (simp only [← hji25] <;> (first | rfl | simp)) | (simp [*]; done)), (by first | rfl | (simp; done) | (simp [*]; done)), H', ⟨by have := HJ2.out; have := HK2.out; omega⟩, ⟨by (with_reducible repeat (first | apply Kd.R_alloc | apply Kd.R_drewN | apply Kd.R_drew)); exact HO_6.out⟩, ⟨blk_mv BK306.out⟩, ⟨by repeat (first | (with_reducible first | exact HB.out | apply bA | apply bN | apply bD | refine below_set ?_ GE306.out) | exact HB.out)⟩⟩
     rw [if_neg c21] at H
     have c21b0 : decide (x7_2 < (t309.length : Int)) = false := decide_eq_false c21
     clear c21
     obtain rfl := Option.some.inj H
     obtain ⟨Ao28, co28, eo28⟩ := Kd.R_slice HO_6.out
     subst eo28
     go_wp2
     go_ret
     exact ⟨by first | rfl | (simp [errW_none, errW_some] <;> rfl) | (simp [*, errW_none, errW_some] <;> rfl), by repeat (first | (with_reducible first | exact HB.out | apply bA | apply bN | apply bD | refine below_set ?_ GE306.out) | exact HB.out)⟩

end Go.Proofs.Ytcgeflbifbaecaa.PFek
