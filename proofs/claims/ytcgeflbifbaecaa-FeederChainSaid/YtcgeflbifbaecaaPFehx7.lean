/- Functions of the given program as Lean functions, and proofs that its calls come to what these say. Written by a program of this seat (wip/mkprint.py); Lean checks it all. -/
import Derived.Test.YtcgeflbifbaecaaUph
import Derived.Test.YtcgeflbifbaecaaPFehx0
import Derived.Test.YtcgeflbifbaecaaPFehx3
import Derived.Test.YtcgeflbifbaecaaPFehx4
import Derived.Test.YtcgeflbifbaecaaPFehx5
import Derived.Test.YtcgeflbifbaecaaPFehx6
namespace Go.Proofs.Ytcgeflbifbaecaa.PFeh
open Go.RowKit Go.Proofs.YtcgeflbifbaecaaW.PrintWords Go.Proofs.YtcgeflbifbaecaaW.PrintLast Go.Proofs.YtcgeflbifbaecaaW.PrintMore
attribute [local go_sem] max2_int min2_int max_two min_two max_three min_three max_four min_four   -- for this text's walks alone
set_option linter.unusedVariables false
set_option linter.unusedSimpArgs false

/-! ### minecontrolref01_Ints: function 17 -/
def minecontrolref01_Ints.l0 : Nat → List Int → List Int → Int → Option (Bool)
  | 0, _, _, _ => none
  | k + 1, x0, x1, x5 => if x5 < (x0.length : Int) then (if 0 ≤ x5 then (if x5 < (x1.length : Int) then (if (rd x0 x5) = (rd x1 x5) then (minecontrolref01_Ints.l0 k x0 x1 (wrap64 (x5 + 1))) else (some false)) else (none)) else (none)) else (some true)
def minecontrolref01_Ints.f (k : Nat) (l0 : List Int) (l1 : List Int) : Option (Bool) := if (l0.length : Int) = (l1.length : Int) then (minecontrolref01_Ints.l0 k l0 l1 0) else (some false)
theorem minecontrolref01_Ints.mono_l : ∀ k, (∀ y0 y1 y2, LeO (minecontrolref01_Ints.l0 k y0 y1 y2) (minecontrolref01_Ints.l0 (k + 1) y0 y1 y2))
  | 0 => fun _ _ _ r h => by simp [minecontrolref01_Ints.l0] at h
  | k + 1 => by
    have ih0 := minecontrolref01_Ints.mono_l k
    · intro y0 y1 y2
      unfold minecontrolref01_Ints.l0
      repeat' first
      | (with_reducible exact ih0 _ _ _)
      | (with_reducible exact LeO.refl _)
      | (with_reducible exact LeO.none _)
      | (with_reducible refine LeO.ite ?_ ?_)
      | (with_reducible refine LeO.bind ?_ (fun _ => ?_))
      | exact ih0 _ _ _
      | exact LeO.none _
      | refine LeO.ite ?_ ?_
      | refine LeO.bind ?_ (fun _ => ?_)
theorem minecontrolref01_Ints.mono : ∀ a0 a1 k, LeO (minecontrolref01_Ints.f k a0 a1) (minecontrolref01_Ints.f (k + 1) a0 a1) := by
  intro a0 a1 k
  have ih0 := minecontrolref01_Ints.mono_l k
  unfold minecontrolref01_Ints.f
  repeat' first
      | (with_reducible exact ih0 _ _ _)
      | (with_reducible exact LeO.refl _)
      | (with_reducible exact LeO.none _)
      | (with_reducible refine LeO.ite ?_ ?_)
      | (with_reducible refine LeO.bind ?_ (fun _ => ?_))
      | exact ih0 _ _ _
      | exact LeO.none _
      | refine LeO.ite ?_ ?_
      | refine LeO.bind ?_ (fun _ => ?_)
set_option maxHeartbeats 8000000 in
set_option maxRecDepth 100000 in
theorem minecontrolref01_Ints.calls (k : Nat) (A0 : Option Addr) (c0 : Nat) (l0 : List Int) (A1 : Option Addr) (c1 : Nat) (l1 : List Int) (r : Bool) (w : World) (hr0 : Kd.C (Kd.int .i64) w A0 l0.length l0) (hc0 : l0.length ≤ c0) (hr1 : Kd.C (Kd.int .i64) w A1 l1.length l1) (hc1 : l1.length ≤ c1) (h : minecontrolref01_Ints.f k l0 l1 = some r) :
    Calls Try.prog 17 #[.slice A0 l0.length c0, .slice A1 l1.length c1] w fun e w' => e = .returned (.bool r) ∧ Drawn0 w w' := by
  have HR0 := aM hr0
  have HC0 := aM hc0
  clear hr0 hc0
  have HR1 := aM hr1
  have HC1 := aM hc1
  clear hr1 hc1
  have H : (if (l0.length : Int) = (l1.length : Int) then (minecontrolref01_Ints.l0 k l0 l1 0) else (some false)) = some r := h
  clear h
  by_cases c3 : (l0.length : Int) = (l1.length : Int)
  · rw [if_pos c3] at H
    have c3b0 : ((l0.length : Int) == (l1.length : Int)) = true := beq_iff_eq.mpr c3
    have c3b1 : ((l0.length : Int) != (l1.length : Int)) = false := bne_eq_false_iff_eq.mpr c3
    have c3b2 : (l0.length == l1.length) = true := by first | simpa using c3 | (simp at c3 ⊢; omega)
    clear c3
    have H' := aM H
    clear H
    go_enter Try.func17, Try.ntmps17
    go_wp2
    repeat (go_quiet (fail); try go_wp2)
    go_loopg [5] k (fun kq v5 w' => ∃ (x5_1 : Int), v5 = .int .i64 x5_1 ∧ Aside0 (minecontrolref01_Ints.l0 kq l0 l1 x5_1 = some r) ∧ Aside0 (kq ≤ k) ∧ Drawn0 w w')
    case atStart => exact ⟨(0), (by first | rfl | (simp; done) | (simp [*]; done)), H', ⟨Nat.le_refl _⟩, by repeat (first | exact Drawn0.refl _ | apply Drawn0.step)⟩
    case round =>
      clear H'
      obtain ⟨x5_1, rfl, HA, HK1, ⟨m1, rfl⟩⟩ := hrel
      cases gk with
      | zero => exact absurd HA.out (by simp [minecontrolref01_Ints.l0])
      | succ k1 =>
        have H := HA.out
        clear HA
        simp only [minecontrolref01_Ints.l0] at H
        by_cases c4 : x5_1 < (l0.length : Int)
        · rw [if_pos c4] at H
          have c4b0 : decide (x5_1 < (l0.length : Int)) = true := decide_eq_true c4
          clear c4
          by_cases c5 : 0 ≤ x5_1
          rotate_left
          · rw [if_neg c5] at H
            exact absurd H (by simp)
          rw [if_pos c5] at H
          have c5b0 : decide (0 ≤ x5_1) = true := decide_eq_true c5
          clear c5
          by_cases c6 : x5_1 < (l1.length : Int)
          rotate_left
          · rw [if_neg c6] at H
            exact absurd H (by simp)
          rw [if_pos c6] at H
          have c6b0 : decide (x5_1 < (l1.length : Int)) = true := decide_eq_true c6
          clear c6
          by_cases c7 : (rd l0 x5_1) = (rd l1 x5_1)
          · rw [if_pos c7] at H
            have c7b0 : ((rd l0 x5_1) == (rd l1 x5_1)) = true := beq_iff_eq.mpr c7
            have c7b1 : ((rd l0 x5_1) != (rd l1 x5_1)) = false := bne_eq_false_iff_eq.mpr c7
            clear c7
            have H' := aM H
            clear H
            have p213 : 0 ≤ (x5_1 : Int) := of_decide_eq_true (by first | (with_reducible assumption) | assumption)
            have q213 : x5_1 < (l0.length : Int) := of_decide_eq_true (by first | (with_reducible assumption) | assumption)
            obtain ⟨ad213, e213, hx213_0⟩ := Kd.at_int HR0.out x5_1 p213 q213
            cases e213
            replace p213 := eq_true p213
            replace q213 := eq_true q213
            have p214 : 0 ≤ (x5_1 : Int) := of_decide_eq_true (by first | (with_reducible assumption) | assumption)
            have q214 : x5_1 < (l1.length : Int) := of_decide_eq_true (by first | (with_reducible assumption) | assumption)
            obtain ⟨ad214, e214, hx214_0⟩ := Kd.at_int HR1.out x5_1 p214 q214
            cases e214
            replace p214 := eq_true p214
            replace q214 := eq_true q214
            go_wp2
            repeat (go_quiet (fail); try go_wp2)
            go_roundg k1
            case measure => have := HK1.out; omega
            case rel => exact ⟨(wrap64 (x5_1 + 1)), (by first | rfl | (simp; done) | (simp [*]; done)), H', ⟨by have := HK1.out; omega⟩, by repeat (first | exact Drawn0.refl _ | apply Drawn0.step)⟩
          · rw [if_neg c7] at H
            have c7b0 : ((rd l0 x5_1) == (rd l1 x5_1)) = false := beq_eq_false_iff_ne.mpr c7
            have c7b1 : ((rd l0 x5_1) != (rd l1 x5_1)) = true := bne_iff_ne.mpr c7
            obtain rfl := Option.some.inj H
            have p213 : 0 ≤ (x5_1 : Int) := of_decide_eq_true (by first | (with_reducible assumption) | assumption)
            have q213 : x5_1 < (l0.length : Int) := of_decide_eq_true (by first | (with_reducible assumption) | assumption)
            obtain ⟨ad213, e213, hx213_0⟩ := Kd.at_int HR0.out x5_1 p213 q213
            cases e213
            replace p213 := eq_true p213
            replace q213 := eq_true q213
            have p214 : 0 ≤ (x5_1 : Int) := of_decide_eq_true (by first | (with_reducible assumption) | assumption)
            have q214 : x5_1 < (l1.length : Int) := of_decide_eq_true (by first | (with_reducible assumption) | assumption)
            obtain ⟨ad214, e214, hx214_0⟩ := Kd.at_int HR1.out x5_1 p214 q214
            cases e214
            replace p214 := eq_true p214
            replace q214 := eq_true q214
            go_wp2
            repeat (go_quiet (fail); try go_wp2)
            go_ret
            exact ⟨by first | rfl | (simp; done) | (simp [*]; done), by repeat (first | exact Drawn0.refl _ | apply Drawn0.step)⟩
        · rw [if_neg c4] at H
          have c4b0 : decide (x5_1 < (l0.length : Int)) = false := decide_eq_false c4
          clear c4
          obtain rfl := Option.some.inj H
          go_wp2
          repeat (go_quiet (fail); try go_wp2)
          go_ret
          exact ⟨by first | rfl | (simp; done) | (simp [*]; done), by repeat (first | exact Drawn0.refl _ | apply Drawn0.step)⟩
  · rw [if_neg c3] at H
    have c3b0 : ((l0.length : Int) == (l1.length : Int)) = false := beq_eq_false_iff_ne.mpr c3
    have c3b1 : ((l0.length : Int) != (l1.length : Int)) = true := bne_iff_ne.mpr c3
    have c3b2 : (l0.length == l1.length) = false := by first | simpa using c3 | (simp at c3 ⊢; omega)
    obtain rfl := Option.some.inj H
    go_enter Try.func17, Try.ntmps17
    go_wp2
    repeat (go_quiet (fail); try go_wp2)
    go_ret
    exact ⟨by first | rfl | (simp; done) | (simp [*]; done), by repeat (first | exact Drawn0.refl _ | apply Drawn0.step)⟩

/-! ### feeder_Failed: function 18 -/
def feeder_Failed.l0 : Nat → List Int → List (S32) → Int → Int → Option (List Int)
  | 0, _, _, _, _ => none
  | k + 1, x3, x10, x11, x12 => if x12 < x11 then (if 0 ≤ x12 then (if x12 < (x10.length : Int) then (if ((rd_T32 x10 x12).f0) < 0 then (if (rd_T32 x10 x12).f4 = true then (if x3.length < 17592186044416 then (feeder_Failed.l0 k (x3 ++ [x12]) x10 x11 (wrap64 (x12 + 1))) else (none)) else (feeder_Failed.l0 k x3 x10 x11 (wrap64 (x12 + 1)))) else (feeder_Failed.l0 k x3 x10 x11 (wrap64 (x12 + 1)))) else (none)) else (none)) else (some x3)
def feeder_Failed.f (k : Nat) (l0_0 : List (S32)) (l0_1 : List Int) (a0_2 : Int) : Option (List Int) := (feeder_Check.f k l0_0 l0_1 a0_2).bind fun t216 => (if t216 = 0 then (feeder_Failed.l0 k ([] : List Int) l0_0 (l0_0.length : Int) 0) else (some ([] : List Int)))
theorem feeder_Failed.mono_l : ∀ k, (∀ y0 y1 y2 y3, LeO (feeder_Failed.l0 k y0 y1 y2 y3) (feeder_Failed.l0 (k + 1) y0 y1 y2 y3))
  | 0 => fun _ _ _ _ r h => by simp [feeder_Failed.l0] at h
  | k + 1 => by
    have ih0 := feeder_Failed.mono_l k
    · intro y0 y1 y2 y3
      unfold feeder_Failed.l0
      repeat' first
      | (with_reducible exact ih0 _ _ _ _)
      | (with_reducible exact feeder_Check.mono _ _ _ _)
      | (with_reducible exact LeO.refl _)
      | (with_reducible exact LeO.none _)
      | (with_reducible refine LeO.ite ?_ ?_)
      | (with_reducible refine LeO.bind ?_ (fun _ => ?_))
      | exact ih0 _ _ _ _
      | exact LeO.none _
      | refine LeO.ite ?_ ?_
      | refine LeO.bind ?_ (fun _ => ?_)
theorem feeder_Failed.mono : ∀ a0 a1 a2 k, LeO (feeder_Failed.f k a0 a1 a2) (feeder_Failed.f (k + 1) a0 a1 a2) := by
  intro a0 a1 a2 k
  have ih0 := feeder_Failed.mono_l k
  unfold feeder_Failed.f
  repeat' first
      | (with_reducible exact ih0 _ _ _ _)
      | (with_reducible exact feeder_Check.mono _ _ _ _)
      | (with_reducible exact LeO.refl _)
      | (with_reducible exact LeO.none _)
      | (with_reducible refine LeO.ite ?_ ?_)
      | (with_reducible refine LeO.bind ?_ (fun _ => ?_))
      | exact ih0 _ _ _ _
      | exact LeO.none _
      | refine LeO.ite ?_ ?_
      | refine LeO.bind ?_ (fun _ => ?_)
set_option maxHeartbeats 8000000 in
set_option maxRecDepth 100000 in
theorem feeder_Failed.calls (k : Nat) (A0_0 : Option Addr) (c0_0 : Nat) (l0_0 : List (S32)) (A0_1 : Option Addr) (c0_1 : Nat) (l0_1 : List Int) (a0_2 : Int) (r : List Int) (w : World) (hr0_0 : Kd.C k32 w A0_0 l0_0.length l0_0) (hc0_0 : l0_0.length ≤ c0_0) (hr0_1 : Kd.C (Kd.int .i64) w A0_1 l0_1.length l0_1) (hc0_1 : l0_1.length ≤ c0_1) (h : feeder_Failed.f k l0_0 l0_1 a0_2 = some r) :
    Calls Try.prog 18 #[.agg #[.slice A0_0 l0_0.length c0_0, .slice A0_1 l0_1.length c0_1, .int .i64 a0_2]] w fun e w' => ∃ v0_ : Value, e = .returned (v0_) ∧ Kd.R (Kd.int .i64) 3 w' w.heap.size (fun _ => True) v0_ r ∧ Below w.heap.size w w' := by
  have hu28 := Try.underlying28
  have hu32 := Try.underlying32
  have HR0_0 := aM hr0_0
  have HC0_0 := aM hc0_0
  clear hr0_0 hc0_0
  have HR0_1 := aM hr0_1
  have HC0_1 := aM hc0_1
  clear hr0_1 hc0_1
  have HB := aM (Below.refl w.heap.size w)
  have H : ((feeder_Check.f k l0_0 l0_1 a0_2).bind fun t216 => (if t216 = 0 then (feeder_Failed.l0 k ([] : List Int) l0_0 (l0_0.length : Int) 0) else (some ([] : List Int)))) = some r := h
  clear h
  replace H := Option.bind_eq_some_iff.mp H
  obtain ⟨t216, A20, H⟩ := H
  replace H : (if t216 = 0 then (feeder_Failed.l0 k ([] : List Int) l0_0 (l0_0.length : Int) 0) else (some ([] : List Int))) = some r := H
  have A2 := aM A20
  clear A20
  by_cases c3 : t216 = 0
  · rw [if_pos c3] at H
    have c3b0 : (t216 == 0) = true := beq_iff_eq.mpr c3
    have c3b1 : (t216 != 0) = false := bne_eq_false_iff_eq.mpr c3
    clear c3
    have H' := aM H
    clear H
    go_enter Try.func18, Try.ntmps18
    go_wp2_with (first | ((with_reducible refine gate_dst (N := 1) rfl ?_); refine box_event ?hg (N := 1) ?hd (cs := #[.slice A0_0 l0_0.length c0_0, .slice A0_1 l0_1.length c0_1, .int .i64 a0_2]) (t := 28) ?hr ?_; (case hd => rfl); (case hg => rfl); (case hr => first | (go_simp; done) | (go_simp; rfl)); intro gb215 hg w4 hbox hb; have BK215 := aM (hbox); have GW215 := aM ((by rw [hg]; exact (below_size (below_mv HB.out)) : w.heap.size ≤ gb215)); have GE215 := aM ((by rw [hg]; exact (below_size (below_mv HB.out)) : w.heap.size ≤ gb215)); replace HB := aM (below_step (below_mv HB.out) hb); clear hb hbox hg; obtain ⟨hcz5_0, hcz5_1, hcz5_2, hfz5_0, hfz5_1, hfz5_2⟩ := blk3 BK215.out) | ((with_reducible refine gate_callee (f := 23) rfl ?_); refine goesL_ (some 7) rfl rfl Try.func23 (by kernel_rfl) rfl #[.agg #[.slice A0_0 l0_0.length c0_0, .slice A0_1 l0_1.length c0_1, .int .i64 a0_2]] rfl (by first | rfl | (simp only [List.map_toArray, List.map_cons, List.map_nil, List.length_drop, List.length_take]; try rfl)) ?_; (with_reducible refine (feeder_Check.calls k _ _ l0_0 _ _ l0_1 a0_2 t216 _ ?side1 ?side2 ?side3 ?side4 A2.out).mono ?_); (case side1 => first | exact C_mv (Kd.C_below HR0_0.out HB.out) | exact C_mv HR0_0.out); (case side2 => exact HC0_0.out); (case side3 => first | exact C_mv (Kd.C_below HR0_1.out HB.out) | exact C_mv HR0_1.out); (case side4 => exact HC0_1.out); rintro e w6 ⟨rfl, hb⟩; refine ⟨_, rfl, ?_⟩; replace BK215 := aM (blk_below (blk_mv BK215.out) hb); replace HB := aM (below_step (by repeat (first | (with_reducible first | exact HB.out | apply bA | apply bN | apply bD | refine below_set ?_ GE215.out) | exact HB.out)) hb); (try clear hb); (try clear hb2); (try clear hge); (try clear hk); (try clear hi); obtain ⟨hcz7_0, hcz7_1, hcz7_2, hfz7_0, hfz7_1, hfz7_2⟩ := blk3 BK215.out))
    go_loopg [3, 12] k (fun kq v3 v12 w' => ∃ (x3_1 : List Int) (x12_1 : Int), v12 = .int .i64 x12_1 ∧ Aside0 (feeder_Failed.l0 kq x3_1 l0_0 (l0_0.length : Int) x12_1 = some r) ∧ Aside0 (kq ≤ k) ∧ Aside0 (Kd.R (Kd.int .i64) 3 w' w.heap.size (fun _ => True) v3 x3_1) ∧ Aside0 (w'.heap[gb215]? = some (.cells #[(.slice A0_0 l0_0.length c0_0), (.slice A0_1 l0_1.length c0_1), .int .i64 a0_2] 28 (0, 0))) ∧ Aside0 (Below w.heap.size w w'))
    case atStart => exact ⟨(([] : List Int)), (0), (by first | rfl | (simp; done) | (simp [*]; done)), H', ⟨Nat.le_refl _⟩, ⟨by first | exact Kd.R_nil _ _ _ _ _ | exact Kd.N_nil _ _ _ _ _ | exact Kd.V_nil _ _ _ _ _ | exact Kd.Q_nil _ _ _ _ _ | exact Kd.S_nil _ _ _ _ _⟩, ⟨blk_mv BK215.out⟩, ⟨by repeat (first | (with_reducible first | exact HB.out | apply bA | apply bN | apply bD | refine below_set ?_ GE215.out) | exact HB.out)⟩⟩
    case round =>
      clear H'
      obtain ⟨x3_1, x12_1, rfl, HA, HK1, HO_3, BK215, HB⟩ := hrel
      cases gk with
      | zero => exact absurd HA.out (by simp [feeder_Failed.l0])
      | succ k1 =>
        have H := HA.out
        clear HA
        simp only [feeder_Failed.l0] at H
        by_cases c8 : x12_1 < (l0_0.length : Int)
        · rw [if_pos c8] at H
          have c8b0 : decide (x12_1 < (l0_0.length : Int)) = true := decide_eq_true c8
          clear c8
          by_cases c9 : 0 ≤ x12_1
          rotate_left
          · rw [if_neg c9] at H
            exact absurd H (by simp)
          rw [if_pos c9] at H
          have c9b0 : decide (0 ≤ x12_1) = true := decide_eq_true c9
          clear c9
          by_cases c10 : x12_1 < (l0_0.length : Int)
          rotate_left
          · rw [if_neg c10] at H
            exact absurd H (by simp)
          rw [if_pos c10] at H
          have c10b0 : decide (x12_1 < (l0_0.length : Int)) = true := decide_eq_true c10
          clear c10
          by_cases c11 : ((rd_T32 l0_0 x12_1).f0) < 0
          · rw [if_pos c11] at H
            have c11b0 : decide (((rd_T32 l0_0 x12_1).f0) < 0) = true := decide_eq_true c11
            clear c11
            obtain ⟨bq12, hbq12⟩ : ∃ b_ : Bool, b_ = ((rd_T32 l0_0 x12_1).f4) := ⟨_, rfl⟩
            replace H : (if bq12 = true then (if x3_1.length < 17592186044416 then (feeder_Failed.l0 k1 (x3_1 ++ [x12_1]) l0_0 (l0_0.length : Int) (wrap64 (x12_1 + 1))) else (none)) else (feeder_Failed.l0 k1 x3_1 l0_0 (l0_0.length : Int) (wrap64 (x12_1 + 1)))) = some r := by rw [← hbq12] at H; exact H
            have Nbq12 := aM hbq12
            clear hbq12
            by_cases c13 : bq12 = true
            · subst c13
              have H1 : (if x3_1.length < 17592186044416 then (feeder_Failed.l0 k1 (x3_1 ++ [x12_1]) l0_0 (l0_0.length : Int) (wrap64 (x12_1 + 1))) else (none)) = some r := by rw [if_pos rfl] at H; exact H
              clear H
              have H := H1
              clear H1
              by_cases c14 : x3_1.length < 17592186044416
              rotate_left
              · rw [if_neg c14] at H
                exact absurd H (by simp)
              rw [if_pos c14] at H
              have LMc14 := aM c14
              clear c14
              obtain ⟨y219, hy219⟩ : ∃ y_ : List Int, y_ = (x3_1 ++ [x12_1]) := ⟨_, rfl⟩
              replace H : (feeder_Failed.l0 k1 y219 l0_0 (l0_0.length : Int) (wrap64 (x12_1 + 1))) = some r := by first | (rw [hy219]; with_reducible exact H) | (have H2_ := (Option.bind_some _ _).symm.trans H; rw [hy219]; with_reducible exact H2_) | (have H2_ := (Option.bind_some _ _).symm.trans H; with_reducible exact H2_) | with_reducible exact H | (rw [hy219]; exact H) | exact H
              have Ny219 := aM hy219
              clear hy219
              have H' := aM H
              clear H
              have p217 : 0 ≤ (x12_1 : Int) := of_decide_eq_true (by first | (with_reducible assumption) | assumption)
              have q217 : x12_1 < (l0_0.length : Int) := of_decide_eq_true (by first | (with_reducible assumption) | assumption)
              obtain ⟨ad217, e217, hx217_0, hx217_1, hx217_2, hx217_3, hx217_4⟩ := at_T32 HR0_0.out x12_1 p217 q217
              (try rw [← Nbq12.out] at hx217_3)
              (try rw [← Nbq12.out] at hx217_4)
              cases e217
              try replace hx217_0 := (HB.out.cell (World.block_lt_of_cell? w _ hx217_0)).trans hx217_0
              try replace hx217_1 := (HB.out.cell (World.block_lt_of_cell? w _ hx217_1)).trans hx217_1
              try replace hx217_2 := (HB.out.cell (World.block_lt_of_cell? w _ hx217_2)).trans hx217_2
              try replace hx217_3 := (HB.out.cell (World.block_lt_of_cell? w _ hx217_3)).trans hx217_3
              try replace hx217_4 := (HB.out.cell (World.block_lt_of_cell? w _ hx217_4)).trans hx217_4
              replace p217 := eq_true p217
              replace q217 := eq_true q217
              go_wp2_with (first | ((with_reducible refine gate_dst (N := 5) rfl ?_); refine box_event ?hg (N := 5) ?hd (cs := #[.int .i64 0, .int .i64 0, .int .i64 0, .bool false, .bool false]) (t := 32) ?hr ?_; (case hd => rfl); (case hg => rfl); (case hr => first | (go_simp; done) | (go_simp; rfl)); intro gb218 hg w15 hbox hb; replace HO_3 := aM (Kd.R_below (R_mv HO_3.out) hb); have BK218 := aM (hbox); have GW218 := aM ((by rw [hg]; exact (below_size (by repeat (first | (with_reducible first | exact HB.out | apply bA | apply bN | apply bD | refine below_set ?_ GE215.out) | exact HB.out))) : w.heap.size ≤ gb218)); have GE218 := aM ((by rw [hg]; exact (below_size (by repeat (first | (with_reducible first | exact HB.out | apply bA | apply bN | apply bD | refine below_set ?_ GE215.out) | exact HB.out))) : w.heap.size ≤ gb218)); replace HB := aM (below_step (by repeat (first | (with_reducible first | exact HB.out | apply bA | apply bN | apply bD | refine below_set ?_ GE215.out) | exact HB.out)) hb); have NB215_218 := aM ((by rw [hg]; exact Nat.ne_of_lt (blk_lt (blk_mv BK215.out)) : gb215 ≠ gb218)); have NB218_215 := aM ((by rw [hg]; exact Nat.ne_of_gt (blk_lt (blk_mv BK215.out)) : gb218 ≠ gb215)); replace BK215 := aM (blk_below (blk_mv BK215.out) hb); clear hb hbox hg; have hnb16 := NB218_215.out; have hnc16 := NB215_218.out; have hcz17_0 : w15.cell? ⟨gb218, 0, none⟩ = some (.int .i64 0) := (blk_cell BK218.out 0).trans rfl; have hcz17_1 : w15.cell? ⟨gb218, 1, none⟩ = some (.int .i64 0) := (blk_cell BK218.out 1).trans rfl; have hcz17_2 : w15.cell? ⟨gb218, 2, none⟩ = some (.int .i64 0) := (blk_cell BK218.out 2).trans rfl; have hcz17_3 : w15.cell? ⟨gb218, 3, none⟩ = some (.bool false) := (blk_cell BK218.out 3).trans rfl; have hcz17_4 : w15.cell? ⟨gb218, 4, none⟩ = some (.bool false) := (blk_cell BK218.out 4).trans rfl; have hfz17_0 := blk_frozen BK218.out 0; have hfz17_1 := blk_frozen BK218.out 1; have hfz17_2 := blk_frozen BK218.out 2; have hfz17_3 := blk_frozen BK218.out 3; have hfz17_4 := blk_frozen BK218.out 4) | ((with_reducible refine gate_builtin (b := .append) (xs := #[.tmp 24, .tmp 26]) rfl ?_); at_builtin; refine Kd.R_append (Kd.int .i64) (w0 := w) w.heap.size rfl (.tmp 24) (.tmp 26) 26 3 (.int .i64 0) 8 rfl Try.underlying26 info3 rfl (by decide) (by omega) u3 x3_1 x12_1 [.int .i64 x12_1] (fun _ => True) (fun _ => False) rfl (by first | (go_simp; done) | (go_simp; rfl)) ?aP (fun _ hk => hk.elim) ?aF ?aO ?aB ?aS ?aL ?_; (case aP => exact rfl); (case aB => exact (by repeat (first | (with_reducible first | exact HB.out | apply bA | apply bN | apply bD | refine below_set ?_ GE215.out | refine below_set ?_ GE218.out) | exact HB.out))); (case aF => exact (fun _ _ => trivial)); (case aO => exact (by (with_reducible repeat (first | apply Kd.R_alloc | apply Kd.R_drewN | apply Kd.R_drew)); exact Kd.R_mono (Kd.R_far (p := ⟨gb218, 4, none⟩) (Kd.R_far (p := ⟨gb218, 3, none⟩) (Kd.R_far (p := ⟨gb218, 2, none⟩) (Kd.R_far (p := ⟨gb218, 1, none⟩) (Kd.R_far (p := ⟨gb218, 0, none⟩) (Kd.R_types HO_3.out BK218.out (by decide)) (fun _ hk => hk.2) (.int .i64 ((rd_T32 l0_0 x12_1).f0))) (fun _ hk => hk.2) (.int .i64 ((rd_T32 l0_0 x12_1).f1))) (fun _ hk => hk.2) (.int .i64 ((rd_T32 l0_0 x12_1).f2))) (fun _ hk => hk.2) (.bool ((rd_T32 l0_0 x12_1).f3))) (fun _ hk => hk.2) (.bool true)) (fun _ hk => trivial))); (case aS => exact (below_size (by repeat (first | (with_reducible first | exact HB.out | apply bA | apply bN | apply bD | refine below_set ?_ GE215.out | refine below_set ?_ GE218.out) | exact HB.out)))); (case aL => have := LMc14.out; omega); intro v220 w18 ho hb hg hat; rw [← Ny219.out] at ho; have n0_ := aM (blk_grown (g := gb215) (o := .cells #[.slice (some ad217) l0_0.length c0_0, .slice A0_1 l0_1.length c0_1, .int .i64 a0_2] 28 (0, 0)) (by (with_reducible repeat (first | refine kN ?_ _ | refine kD ?_ | refine kA ?_ _)); refine blk_far ?_ NB215_218.out _; (with_reducible repeat (first | refine kN ?_ _ | refine kD ?_ | refine kA ?_ _)); refine blk_far ?_ NB215_218.out _; (with_reducible repeat (first | refine kN ?_ _ | refine kD ?_ | refine kA ?_ _)); refine blk_far ?_ NB215_218.out _; (with_reducible repeat (first | refine kN ?_ _ | refine kD ?_ | refine kA ?_ _)); refine blk_far ?_ NB215_218.out _; (with_reducible repeat (first | refine kN ?_ _ | refine kD ?_ | refine kA ?_ _)); refine blk_far ?_ NB215_218.out _; (with_reducible repeat (first | refine kN ?_ _ | refine kD ?_ | refine kA ?_ _)); exact BK215.out) hg (Kd.R_ne HO_3.out BK215.out (by decide))); have n1_ := aM (blk_grown (g := gb218) (o := .cells #[.int .i64 ((rd_T32 l0_0 x12_1).f0), .int .i64 ((rd_T32 l0_0 x12_1).f1), .int .i64 ((rd_T32 l0_0 x12_1).f2), .bool ((rd_T32 l0_0 x12_1).f3), .bool true] 32 (0, 0)) (by (with_reducible repeat (first | refine kN ?_ _ | refine kD ?_ | refine kA ?_ _)); refine blk_put (cs := #[.int .i64 ((rd_T32 l0_0 x12_1).f0), .int .i64 ((rd_T32 l0_0 x12_1).f1), .int .i64 ((rd_T32 l0_0 x12_1).f2), .bool ((rd_T32 l0_0 x12_1).f3), .bool false]) ?_ 4 _ rfl; (with_reducible repeat (first | refine kN ?_ _ | refine kD ?_ | refine kA ?_ _)); refine blk_put (cs := #[.int .i64 ((rd_T32 l0_0 x12_1).f0), .int .i64 ((rd_T32 l0_0 x12_1).f1), .int .i64 ((rd_T32 l0_0 x12_1).f2), .bool false, .bool false]) ?_ 3 _ rfl; (with_reducible repeat (first | refine kN ?_ _ | refine kD ?_ | refine kA ?_ _)); refine blk_put (cs := #[.int .i64 ((rd_T32 l0_0 x12_1).f0), .int .i64 ((rd_T32 l0_0 x12_1).f1), .int .i64 0, .bool false, .bool false]) ?_ 2 _ rfl; (with_reducible repeat (first | refine kN ?_ _ | refine kD ?_ | refine kA ?_ _)); refine blk_put (cs := #[.int .i64 ((rd_T32 l0_0 x12_1).f0), .int .i64 0, .int .i64 0, .bool false, .bool false]) ?_ 1 _ rfl; (with_reducible repeat (first | refine kN ?_ _ | refine kD ?_ | refine kA ?_ _)); refine blk_put (cs := #[.int .i64 0, .int .i64 0, .int .i64 0, .bool false, .bool false]) ?_ 0 _ rfl; (with_reducible repeat (first | refine kN ?_ _ | refine kD ?_ | refine kA ?_ _)); exact BK218.out) hg (Kd.R_ne HO_3.out BK218.out (by decide))); have n2_ := aM (hb); have n3_ := aM (ho); clear BK215; clear BK218; clear HB; clear HO_3; have BK215 := n0_; have BK218 := n1_; have HB := n2_; have HO221 := n3_; clear n0_ n1_ n2_ n3_; clear ho hb hg hat))
              go_roundg k1
              case measure => have := HK1.out; omega
              case rel => exact ⟨(y219), (wrap64 (x12_1 + 1)), (by first | rfl | (simp; done) | (simp [*]; done)), H', ⟨by have := HK1.out; omega⟩, ⟨by (with_reducible repeat (first | apply Kd.R_alloc | apply Kd.R_drewN | apply Kd.R_drew)); exact HO221.out⟩, ⟨blk_mv BK215.out⟩, ⟨by repeat (first | (with_reducible first | exact HB.out | apply bA | apply bN | apply bD | refine below_set ?_ GE215.out | refine below_set ?_ GE218.out) | exact HB.out)⟩⟩
            · replace c13 := Bool.eq_false_iff.mpr c13
              subst c13
              have H1 : (feeder_Failed.l0 k1 x3_1 l0_0 (l0_0.length : Int) (wrap64 (x12_1 + 1))) = some r := by rw [if_neg (show ¬ (false = true) by decide)] at H; exact H
              clear H
              have H := H1
              clear H1
              have H' := aM H
              clear H
              have p217 : 0 ≤ (x12_1 : Int) := of_decide_eq_true (by first | (with_reducible assumption) | assumption)
              have q217 : x12_1 < (l0_0.length : Int) := of_decide_eq_true (by first | (with_reducible assumption) | assumption)
              obtain ⟨ad217, e217, hx217_0, hx217_1, hx217_2, hx217_3, hx217_4⟩ := at_T32 HR0_0.out x12_1 p217 q217
              (try rw [← Nbq12.out] at hx217_3)
              (try rw [← Nbq12.out] at hx217_4)
              cases e217
              try replace hx217_0 := (HB.out.cell (World.block_lt_of_cell? w _ hx217_0)).trans hx217_0
              try replace hx217_1 := (HB.out.cell (World.block_lt_of_cell? w _ hx217_1)).trans hx217_1
              try replace hx217_2 := (HB.out.cell (World.block_lt_of_cell? w _ hx217_2)).trans hx217_2
              try replace hx217_3 := (HB.out.cell (World.block_lt_of_cell? w _ hx217_3)).trans hx217_3
              try replace hx217_4 := (HB.out.cell (World.block_lt_of_cell? w _ hx217_4)).trans hx217_4
              replace p217 := eq_true p217
              replace q217 := eq_true q217
              go_wp2_with (first | ((with_reducible refine gate_dst (N := 5) rfl ?_); refine box_event ?hg (N := 5) ?hd (cs := #[.int .i64 0, .int .i64 0, .int .i64 0, .bool false, .bool false]) (t := 32) ?hr ?_; (case hd => rfl); (case hg => rfl); (case hr => first | (go_simp; done) | (go_simp; rfl)); intro gb218 hg w19 hbox hb; replace HO_3 := aM (Kd.R_below (R_mv HO_3.out) hb); have BK218 := aM (hbox); have GW218 := aM ((by rw [hg]; exact (below_size (by repeat (first | (with_reducible first | exact HB.out | apply bA | apply bN | apply bD | refine below_set ?_ GE215.out) | exact HB.out))) : w.heap.size ≤ gb218)); have GE218 := aM ((by rw [hg]; exact (below_size (by repeat (first | (with_reducible first | exact HB.out | apply bA | apply bN | apply bD | refine below_set ?_ GE215.out) | exact HB.out))) : w.heap.size ≤ gb218)); replace HB := aM (below_step (by repeat (first | (with_reducible first | exact HB.out | apply bA | apply bN | apply bD | refine below_set ?_ GE215.out) | exact HB.out)) hb); have NB215_218 := aM ((by rw [hg]; exact Nat.ne_of_lt (blk_lt (blk_mv BK215.out)) : gb215 ≠ gb218)); have NB218_215 := aM ((by rw [hg]; exact Nat.ne_of_gt (blk_lt (blk_mv BK215.out)) : gb218 ≠ gb215)); replace BK215 := aM (blk_below (blk_mv BK215.out) hb); clear hb hbox hg; have hnb20 := NB218_215.out; have hnc20 := NB215_218.out; have hcz21_0 : w19.cell? ⟨gb218, 0, none⟩ = some (.int .i64 0) := (blk_cell BK218.out 0).trans rfl; have hcz21_1 : w19.cell? ⟨gb218, 1, none⟩ = some (.int .i64 0) := (blk_cell BK218.out 1).trans rfl; have hcz21_2 : w19.cell? ⟨gb218, 2, none⟩ = some (.int .i64 0) := (blk_cell BK218.out 2).trans rfl; have hcz21_3 : w19.cell? ⟨gb218, 3, none⟩ = some (.bool false) := (blk_cell BK218.out 3).trans rfl; have hcz21_4 : w19.cell? ⟨gb218, 4, none⟩ = some (.bool false) := (blk_cell BK218.out 4).trans rfl; have hfz21_0 := blk_frozen BK218.out 0; have hfz21_1 := blk_frozen BK218.out 1; have hfz21_2 := blk_frozen BK218.out 2; have hfz21_3 := blk_frozen BK218.out 3; have hfz21_4 := blk_frozen BK218.out 4))
              go_roundg k1
              case measure => have := HK1.out; omega
              case rel => exact ⟨(x3_1), (wrap64 (x12_1 + 1)), (by first | rfl | (simp; done) | (simp [*]; done)), H', ⟨by have := HK1.out; omega⟩, ⟨by (with_reducible repeat (first | apply Kd.R_alloc | apply Kd.R_drewN | apply Kd.R_drew)); exact Kd.R_mono (Kd.R_far (p := ⟨gb218, 4, none⟩) (Kd.R_far (p := ⟨gb218, 3, none⟩) (Kd.R_far (p := ⟨gb218, 2, none⟩) (Kd.R_far (p := ⟨gb218, 1, none⟩) (Kd.R_far (p := ⟨gb218, 0, none⟩) (Kd.R_types HO_3.out BK218.out (by decide)) (fun _ hk => hk.2) (.int .i64 ((rd_T32 l0_0 x12_1).f0))) (fun _ hk => hk.2) (.int .i64 ((rd_T32 l0_0 x12_1).f1))) (fun _ hk => hk.2) (.int .i64 ((rd_T32 l0_0 x12_1).f2))) (fun _ hk => hk.2) (.bool ((rd_T32 l0_0 x12_1).f3))) (fun _ hk => hk.2) (.bool false)) (fun _ hk => trivial)⟩, ⟨by (with_reducible repeat (first | refine kN ?_ _ | refine kD ?_ | refine kA ?_ _)); refine blk_far ?_ NB215_218.out _; (with_reducible repeat (first | refine kN ?_ _ | refine kD ?_ | refine kA ?_ _)); refine blk_far ?_ NB215_218.out _; (with_reducible repeat (first | refine kN ?_ _ | refine kD ?_ | refine kA ?_ _)); refine blk_far ?_ NB215_218.out _; (with_reducible repeat (first | refine kN ?_ _ | refine kD ?_ | refine kA ?_ _)); refine blk_far ?_ NB215_218.out _; (with_reducible repeat (first | refine kN ?_ _ | refine kD ?_ | refine kA ?_ _)); refine blk_far ?_ NB215_218.out _; (with_reducible repeat (first | refine kN ?_ _ | refine kD ?_ | refine kA ?_ _)); exact BK215.out⟩, ⟨by repeat (first | (with_reducible first | exact HB.out | apply bA | apply bN | apply bD | refine below_set ?_ GE215.out | refine below_set ?_ GE218.out) | exact HB.out)⟩⟩
          · rw [if_neg c11] at H
            have c11b0 : decide (((rd_T32 l0_0 x12_1).f0) < 0) = false := decide_eq_false c11
            clear c11
            have H' := aM H
            clear H
            have p217 : 0 ≤ (x12_1 : Int) := of_decide_eq_true (by first | (with_reducible assumption) | assumption)
            have q217 : x12_1 < (l0_0.length : Int) := of_decide_eq_true (by first | (with_reducible assumption) | assumption)
            obtain ⟨ad217, e217, hx217_0, hx217_1, hx217_2, hx217_3, hx217_4⟩ := at_T32 HR0_0.out x12_1 p217 q217
            cases e217
            try replace hx217_0 := (HB.out.cell (World.block_lt_of_cell? w _ hx217_0)).trans hx217_0
            try replace hx217_1 := (HB.out.cell (World.block_lt_of_cell? w _ hx217_1)).trans hx217_1
            try replace hx217_2 := (HB.out.cell (World.block_lt_of_cell? w _ hx217_2)).trans hx217_2
            try replace hx217_3 := (HB.out.cell (World.block_lt_of_cell? w _ hx217_3)).trans hx217_3
            try replace hx217_4 := (HB.out.cell (World.block_lt_of_cell? w _ hx217_4)).trans hx217_4
            replace p217 := eq_true p217
            replace q217 := eq_true q217
            go_wp2_with (first | ((with_reducible refine gate_dst (N := 5) rfl ?_); refine box_event ?hg (N := 5) ?hd (cs := #[.int .i64 0, .int .i64 0, .int .i64 0, .bool false, .bool false]) (t := 32) ?hr ?_; (case hd => rfl); (case hg => rfl); (case hr => first | (go_simp; done) | (go_simp; rfl)); intro gb218 hg w22 hbox hb; replace HO_3 := aM (Kd.R_below (R_mv HO_3.out) hb); have BK218 := aM (hbox); have GW218 := aM ((by rw [hg]; exact (below_size (by repeat (first | (with_reducible first | exact HB.out | apply bA | apply bN | apply bD | refine below_set ?_ GE215.out) | exact HB.out))) : w.heap.size ≤ gb218)); have GE218 := aM ((by rw [hg]; exact (below_size (by repeat (first | (with_reducible first | exact HB.out | apply bA | apply bN | apply bD | refine below_set ?_ GE215.out) | exact HB.out))) : w.heap.size ≤ gb218)); replace HB := aM (below_step (by repeat (first | (with_reducible first | exact HB.out | apply bA | apply bN | apply bD | refine below_set ?_ GE215.out) | exact HB.out)) hb); have NB215_218 := aM ((by rw [hg]; exact Nat.ne_of_lt (blk_lt (blk_mv BK215.out)) : gb215 ≠ gb218)); have NB218_215 := aM ((by rw [hg]; exact Nat.ne_of_gt (blk_lt (blk_mv BK215.out)) : gb218 ≠ gb215)); replace BK215 := aM (blk_below (blk_mv BK215.out) hb); clear hb hbox hg; have hnb23 := NB218_215.out; have hnc23 := NB215_218.out; have hcz24_0 : w22.cell? ⟨gb218, 0, none⟩ = some (.int .i64 0) := (blk_cell BK218.out 0).trans rfl; have hcz24_1 : w22.cell? ⟨gb218, 1, none⟩ = some (.int .i64 0) := (blk_cell BK218.out 1).trans rfl; have hcz24_2 : w22.cell? ⟨gb218, 2, none⟩ = some (.int .i64 0) := (blk_cell BK218.out 2).trans rfl; have hcz24_3 : w22.cell? ⟨gb218, 3, none⟩ = some (.bool false) := (blk_cell BK218.out 3).trans rfl; have hcz24_4 : w22.cell? ⟨gb218, 4, none⟩ = some (.bool false) := (blk_cell BK218.out 4).trans rfl; have hfz24_0 := blk_frozen BK218.out 0; have hfz24_1 := blk_frozen BK218.out 1; have hfz24_2 := blk_frozen BK218.out 2; have hfz24_3 := blk_frozen BK218.out 3; have hfz24_4 := blk_frozen BK218.out 4))
            go_roundg k1
            case measure => have := HK1.out; omega
            case rel => exact ⟨(x3_1), (wrap64 (x12_1 + 1)), (by first | rfl | (simp; done) | (simp [*]; done)), H', ⟨by have := HK1.out; omega⟩, ⟨by (with_reducible repeat (first | apply Kd.R_alloc | apply Kd.R_drewN | apply Kd.R_drew)); exact Kd.R_mono (Kd.R_far (p := ⟨gb218, 4, none⟩) (Kd.R_far (p := ⟨gb218, 3, none⟩) (Kd.R_far (p := ⟨gb218, 2, none⟩) (Kd.R_far (p := ⟨gb218, 1, none⟩) (Kd.R_far (p := ⟨gb218, 0, none⟩) (Kd.R_types HO_3.out BK218.out (by decide)) (fun _ hk => hk.2) (.int .i64 ((rd_T32 l0_0 x12_1).f0))) (fun _ hk => hk.2) (.int .i64 ((rd_T32 l0_0 x12_1).f1))) (fun _ hk => hk.2) (.int .i64 ((rd_T32 l0_0 x12_1).f2))) (fun _ hk => hk.2) (.bool ((rd_T32 l0_0 x12_1).f3))) (fun _ hk => hk.2) (.bool ((rd_T32 l0_0 x12_1).f4))) (fun _ hk => trivial)⟩, ⟨by (with_reducible repeat (first | refine kN ?_ _ | refine kD ?_ | refine kA ?_ _)); refine blk_far ?_ NB215_218.out _; (with_reducible repeat (first | refine kN ?_ _ | refine kD ?_ | refine kA ?_ _)); refine blk_far ?_ NB215_218.out _; (with_reducible repeat (first | refine kN ?_ _ | refine kD ?_ | refine kA ?_ _)); refine blk_far ?_ NB215_218.out _; (with_reducible repeat (first | refine kN ?_ _ | refine kD ?_ | refine kA ?_ _)); refine blk_far ?_ NB215_218.out _; (with_reducible repeat (first | refine kN ?_ _ | refine kD ?_ | refine kA ?_ _)); refine blk_far ?_ NB215_218.out _; (with_reducible repeat (first | refine kN ?_ _ | refine kD ?_ | refine kA ?_ _)); exact BK215.out⟩, ⟨by repeat (first | (with_reducible first | exact HB.out | apply bA | apply bN | apply bD | refine below_set ?_ GE215.out | refine below_set ?_ GE218.out) | exact HB.out)⟩⟩
        · rw [if_neg c8] at H
          have c8b0 : decide (x12_1 < (l0_0.length : Int)) = false := decide_eq_false c8
          clear c8
          obtain rfl := Option.some.inj H
          go_wp2
          go_ret
          exact ⟨_, by first | rfl | (simp [errW_none, errW_some] <;> rfl) | (simp [*, errW_none, errW_some] <;> rfl), by (with_reducible repeat (first | apply Kd.R_alloc | apply Kd.R_drewN | apply Kd.R_drew)); exact HO_3.out, by repeat (first | (with_reducible first | exact HB.out | apply bA | apply bN | apply bD | refine below_set ?_ GE215.out) | exact HB.out)⟩
  · rw [if_neg c3] at H
    have c3b0 : (t216 == 0) = false := beq_eq_false_iff_ne.mpr c3
    have c3b1 : (t216 != 0) = true := bne_iff_ne.mpr c3
    obtain rfl := Option.some.inj H
    go_enter Try.func18, Try.ntmps18
    go_wp2_with (first | ((with_reducible refine gate_dst (N := 1) rfl ?_); refine box_event ?hg (N := 1) ?hd (cs := #[.slice A0_0 l0_0.length c0_0, .slice A0_1 l0_1.length c0_1, .int .i64 a0_2]) (t := 28) ?hr ?_; (case hd => rfl); (case hg => rfl); (case hr => first | (go_simp; done) | (go_simp; rfl)); intro gb215 hg w25 hbox hb; have BK215 := aM (hbox); have GW215 := aM ((by rw [hg]; exact (below_size (below_mv HB.out)) : w.heap.size ≤ gb215)); have GE215 := aM ((by rw [hg]; exact (below_size (below_mv HB.out)) : w.heap.size ≤ gb215)); replace HB := aM (below_step (below_mv HB.out) hb); clear hb hbox hg; obtain ⟨hcz26_0, hcz26_1, hcz26_2, hfz26_0, hfz26_1, hfz26_2⟩ := blk3 BK215.out) | ((with_reducible refine gate_callee (f := 23) rfl ?_); refine goesL_ (some 7) rfl rfl Try.func23 (by kernel_rfl) rfl #[.agg #[.slice A0_0 l0_0.length c0_0, .slice A0_1 l0_1.length c0_1, .int .i64 a0_2]] rfl (by first | rfl | (simp only [List.map_toArray, List.map_cons, List.map_nil, List.length_drop, List.length_take]; try rfl)) ?_; (with_reducible refine (feeder_Check.calls k _ _ l0_0 _ _ l0_1 a0_2 t216 _ ?side1 ?side2 ?side3 ?side4 A2.out).mono ?_); (case side1 => first | exact C_mv (Kd.C_below HR0_0.out HB.out) | exact C_mv HR0_0.out); (case side2 => exact HC0_0.out); (case side3 => first | exact C_mv (Kd.C_below HR0_1.out HB.out) | exact C_mv HR0_1.out); (case side4 => exact HC0_1.out); rintro e w27 ⟨rfl, hb⟩; refine ⟨_, rfl, ?_⟩; replace BK215 := aM (blk_below (blk_mv BK215.out) hb); replace HB := aM (below_step (by repeat (first | (with_reducible first | exact HB.out | apply bA | apply bN | apply bD | refine below_set ?_ GE215.out) | exact HB.out)) hb); (try clear hb); (try clear hb2); (try clear hge); (try clear hk); (try clear hi)))
    go_ret
    exact ⟨_, by first | rfl | (simp [errW_none, errW_some] <;> rfl) | (simp [*, errW_none, errW_some] <;> rfl), by first | exact Kd.R_nil _ _ _ _ _ | exact Kd.N_nil _ _ _ _ _ | exact Kd.V_nil _ _ _ _ _ | exact Kd.Q_nil _ _ _ _ _ | exact Kd.S_nil _ _ _ _ _, by repeat (first | (with_reducible first | exact HB.out | apply bA | apply bN | apply bD | refine below_set ?_ GE215.out) | exact HB.out)⟩

/-! ### feeder_Live: function 19 -/
def feeder_Live.l0 : Nat → List S32 → Int → Int → Option Int
 | 0, _, _, _ => none
 | k + 1, l, s, o => if 0 ≤ s then (if s < (l.length : Int) then (feeder_Live.l0 k l ((rd_T32 l s).f0) (mn o ((rd_T32 l s).f2))) else (none)) else (some o)
def feeder_Live.f (k : Nat) (l0_0 : List S32) (l0_1 : List Int) (a0_2 : Int) (a1 : Int) : Option Int := (feeder_Check.f k l0_0 l0_1 a0_2).bind fun t => (if t = 0 then (if 0 ≤ a1 then (if a1 < (l0_1.length : Int) then (feeder_Live.l0 k l0_0 (rd l0_1 a1) 1) else (some 0)) else (some 0)) else (some 0))
theorem feeder_Live.mono_l : ∀ k, ∀ y0 y1 y2, LeO (feeder_Live.l0 k y0 y1 y2) (feeder_Live.l0 (k + 1) y0 y1 y2)
 | 0 => fun _ _ _ r h => by simp [feeder_Live.l0] at h
 | k + 1 => by
  have ih0 := feeder_Live.mono_l k
  intro y0 y1 y2
  unfold feeder_Live.l0
  repeat' first
  | (with_reducible exact ih0 _ _ _)
  | (with_reducible exact LeO.refl _)
  | (with_reducible exact LeO.none _)
  | (with_reducible refine LeO.ite ?_ ?_)
theorem feeder_Live.mono : ∀ a0 a1 a2 a3 k, LeO (feeder_Live.f k a0 a1 a2 a3) (feeder_Live.f (k + 1) a0 a1 a2 a3) := by
 intro a0 a1 a2 a3 k
 have ih0 := feeder_Live.mono_l k
 unfold feeder_Live.f
 repeat' first
 | (with_reducible exact ih0 _ _ _)
 | (with_reducible exact feeder_Check.mono _ _ _ _)
 | (with_reducible exact LeO.refl _)
 | (with_reducible exact LeO.none _)
 | (with_reducible refine LeO.ite ?_ ?_)
 | (with_reducible refine LeO.bind ?_ (fun _ => ?_))
-- IMPORT Derived.Test.YtcgeflbifbaecaaUp
section
open Go.Shelf Up
attribute [local go_sem] Oper.semAt_some
/-- What lives: the least of what the switches show. -/
def liveOf (ss : List S32) (o : Int) (xs : List (Ix ss)) : Int := xs.foldl (fun o x => mn o (rd_T32 ss x.1).f2) o
theorem feeder_Live.chain {ss : List S32} : ∀ (k : Nat) {s o r : Int}, feeder_Live.l0 k ss s o = some r → ∃ xs : List (Ix ss), Chain ss s xs ∧ liveOf ss o xs = r
  | 0, s, o, r, h => by simp [feeder_Live.l0] at h
  | k + 1, s, o, r, h => by
    simp only [feeder_Live.l0] at h
    by_cases h0 : 0 ≤ s
    · rw [if_pos h0] at h
      by_cases h1 : s < (ss.length : Int)
      · rw [if_pos h1] at h
        obtain ⟨xs, hc, hr⟩ := feeder_Live.chain k h
        exact ⟨⟨s, h0, h1⟩ :: xs, ⟨rfl, hc⟩, hr⟩
      · rw [if_neg h1] at h; cases h
    · rw [if_neg h0] at h
      exact ⟨[], (by show s < 0; omega), Option.some.inj h⟩
theorem liveOf_snoc {ss : List S32} (o : Int) (pre : List (Ix ss)) (x : Ix ss) : liveOf ss o (pre ++ [x]) = mn (liveOf ss o pre) (rd_T32 ss x.1).f2 := by simp [liveOf]

set_option maxRecDepth 100000 in
set_option maxHeartbeats 8000000 in
theorem feeder_Live.calls (k : Nat) (A0_0 : Option Addr) (c0_0 : Nat) (l0_0 : List (S32)) (A0_1 : Option Addr) (c0_1 : Nat) (l0_1 : List Int) (a0_2 : Int) (a1 : Int) (r : Int) (w : World) (hr0_0 : Kd.C k32 w A0_0 l0_0.length l0_0) (hc0_0 : l0_0.length ≤ c0_0) (hr0_1 : Kd.C (Kd.int .i64) w A0_1 l0_1.length l0_1) (hc0_1 : l0_1.length ≤ c0_1) (h : feeder_Live.f k l0_0 l0_1 a0_2 a1 = some r) :
  Calls Try.prog 19 #[.agg #[.slice A0_0 l0_0.length c0_0, .slice A0_1 l0_1.length c0_1, .int .i64 a0_2], .int .i64 a1] w fun e w' => e = .returned (.int .i64 r) ∧ Below w.heap.size w w' := by
  unfold feeder_Live.f at h
  obtain ⟨t, ht, h⟩ := Option.bind_eq_some_iff.1 h
  by_cases h0 : t = 0
  rotate_left
  · rw [if_neg h0] at h
    obtain rfl := Option.some.inj h
    have c0 : (t != 0) = true := by simpa using h0
    refine (callsIn_wide (n := 5)).1 ?_
    refine callsIn_of_wp_marks Try.func19 rfl trivial ?_ rfl
    simp only [Try.ntmps19, List.size_toArray, List.length_cons, List.length_nil, Nat.reduceAdd, Nat.reduceSub, Array.replicate_succ, Array.replicate_zero, List.push_toArray, List.append_toArray, List.nil_append, List.cons_append]
    gi_wp2_with (first
      | (refine ⟨trivial, ?_⟩; gi_at_call 23; refine (callsIn_wide.2 (feeder_Check.calls k _ _ l0_0 _ _ l0_1 a0_2 _ _ (Kd.C_alloc hr0_0 _) hc0_0 (Kd.C_alloc hr0_1 _) hc0_1 ht)).mono ?_; rintro e w1 ⟨rfl, hb⟩; have hX : w1.heap[w.heap.size]? = some (.cells #[.slice A0_0 l0_0.length c0_0, .slice A0_1 l0_1.length c0_1, .int .i64 a0_2] 28 (0, 0)) := (hb.block _ (by simp)).trans (World.alloc_heap_new w _); have hx0 : w1.cell? ⟨w.heap.size, 0, none⟩ = some (.slice A0_0 l0_0.length c0_0) := by simp [World.cell?, hX]
         have hx1 : w1.cell? ⟨w.heap.size, 1, none⟩ = some (.slice A0_1 l0_1.length c0_1) := by simp [World.cell?, hX]
         have hx2 : w1.cell? ⟨w.heap.size, 2, none⟩ = some (.int .i64 a0_2) := by simp [World.cell?, hX]
         have HB : Below w.heap.size w w1 := ((Below.refl _ w).alloc (Nat.le_refl _) _).trans (hb.mono (by simp)))
      )
    refine ⟨_, results_tmp rfl _ _ _, rfl, HB⟩
  subst h0
  rw [if_pos rfl] at h
  by_cases h1 : 0 ≤ a1
  rotate_left
  · rw [if_neg h1] at h
    obtain rfl := Option.some.inj h
    have c1 : decide (a1 < 0) = true := decide_eq_true (by omega)
    refine (callsIn_wide (n := 5)).1 ?_
    refine callsIn_of_wp_marks Try.func19 rfl trivial ?_ rfl
    simp only [Try.ntmps19, List.size_toArray, List.length_cons, List.length_nil, Nat.reduceAdd, Nat.reduceSub, Array.replicate_succ, Array.replicate_zero, List.push_toArray, List.append_toArray, List.nil_append, List.cons_append]
    gi_wp2_with (first
      | (refine ⟨trivial, ?_⟩; gi_at_call 23; refine (callsIn_wide.2 (feeder_Check.calls k _ _ l0_0 _ _ l0_1 a0_2 _ _ (Kd.C_alloc hr0_0 _) hc0_0 (Kd.C_alloc hr0_1 _) hc0_1 ht)).mono ?_; rintro e w1 ⟨rfl, hb⟩; have hX : w1.heap[w.heap.size]? = some (.cells #[.slice A0_0 l0_0.length c0_0, .slice A0_1 l0_1.length c0_1, .int .i64 a0_2] 28 (0, 0)) := (hb.block _ (by simp)).trans (World.alloc_heap_new w _); have hx0 : w1.cell? ⟨w.heap.size, 0, none⟩ = some (.slice A0_0 l0_0.length c0_0) := by simp [World.cell?, hX]
         have hx1 : w1.cell? ⟨w.heap.size, 1, none⟩ = some (.slice A0_1 l0_1.length c0_1) := by simp [World.cell?, hX]
         have hx2 : w1.cell? ⟨w.heap.size, 2, none⟩ = some (.int .i64 a0_2) := by simp [World.cell?, hX]
         have HB : Below w.heap.size w w1 := ((Below.refl _ w).alloc (Nat.le_refl _) _).trans (hb.mono (by simp)))
      )
    refine ⟨_, results_tmp rfl _ _ _, rfl, HB⟩
  rw [if_pos h1] at h
  have c1 : decide (a1 < 0) = false := decide_eq_false (by omega)
  by_cases h2 : a1 < (l0_1.length : Int)
  rotate_left
  · rw [if_neg h2] at h
    obtain rfl := Option.some.inj h
    have c2 : decide ((l0_1.length : Int) ≤ a1) = true := decide_eq_true (by omega)
    refine (callsIn_wide (n := 5)).1 ?_
    refine callsIn_of_wp_marks Try.func19 rfl trivial ?_ rfl
    simp only [Try.ntmps19, List.size_toArray, List.length_cons, List.length_nil, Nat.reduceAdd, Nat.reduceSub, Array.replicate_succ, Array.replicate_zero, List.push_toArray, List.append_toArray, List.nil_append, List.cons_append]
    gi_wp2_with (first
      | (refine ⟨trivial, ?_⟩; gi_at_call 23; refine (callsIn_wide.2 (feeder_Check.calls k _ _ l0_0 _ _ l0_1 a0_2 _ _ (Kd.C_alloc hr0_0 _) hc0_0 (Kd.C_alloc hr0_1 _) hc0_1 ht)).mono ?_; rintro e w1 ⟨rfl, hb⟩; have hX : w1.heap[w.heap.size]? = some (.cells #[.slice A0_0 l0_0.length c0_0, .slice A0_1 l0_1.length c0_1, .int .i64 a0_2] 28 (0, 0)) := (hb.block _ (by simp)).trans (World.alloc_heap_new w _); have hx0 : w1.cell? ⟨w.heap.size, 0, none⟩ = some (.slice A0_0 l0_0.length c0_0) := by simp [World.cell?, hX]
         have hx1 : w1.cell? ⟨w.heap.size, 1, none⟩ = some (.slice A0_1 l0_1.length c0_1) := by simp [World.cell?, hX]
         have hx2 : w1.cell? ⟨w.heap.size, 2, none⟩ = some (.int .i64 a0_2) := by simp [World.cell?, hX]
         have HB : Below w.heap.size w w1 := ((Below.refl _ w).alloc (Nat.le_refl _) _).trans (hb.mono (by simp)))
      )
    refine ⟨_, results_tmp rfl _ _ _, rfl, HB⟩
  rw [if_pos h2] at h
  have c2 : decide ((l0_1.length : Int) ≤ a1) = false := decide_eq_false (by omega)
  obtain ⟨xs, hch, hr⟩ := feeder_Live.chain k h
  refine (callsIn_wide (n := 5)).1 ?_
  refine callsIn_of_wp_marks Try.func19 rfl trivial ?_ rfl
  simp only [Try.ntmps19, List.size_toArray, List.length_cons, List.length_nil, Nat.reduceAdd, Nat.reduceSub, Array.replicate_succ, Array.replicate_zero, List.push_toArray, List.append_toArray, List.nil_append, List.cons_append]
  gi_wp2_with (first
    | (refine ⟨trivial, ?_⟩; gi_at_call 23; refine (callsIn_wide.2 (feeder_Check.calls k _ _ l0_0 _ _ l0_1 a0_2 _ _ (Kd.C_alloc hr0_0 _) hc0_0 (Kd.C_alloc hr0_1 _) hc0_1 ht)).mono ?_; rintro e w1 ⟨rfl, hb⟩; have hX : w1.heap[w.heap.size]? = some (.cells #[.slice A0_0 l0_0.length c0_0, .slice A0_1 l0_1.length c0_1, .int .i64 a0_2] 28 (0, 0)) := (hb.block _ (by simp)).trans (World.alloc_heap_new w _); have hx0 : w1.cell? ⟨w.heap.size, 0, none⟩ = some (.slice A0_0 l0_0.length c0_0) := by simp [World.cell?, hX]
       have hx1 : w1.cell? ⟨w.heap.size, 1, none⟩ = some (.slice A0_1 l0_1.length c0_1) := by simp [World.cell?, hX]
       have hx2 : w1.cell? ⟨w.heap.size, 2, none⟩ = some (.int .i64 a0_2) := by simp [World.cell?, hX]
       have HB : Below w.heap.size w w1 := ((Below.refl _ w).alloc (Nat.le_refl _) _).trans (hb.mono (by simp)))
    )
  obtain ⟨w2, hw2⟩ : ∃ w2, w1.alloc (.cells #[.int .i64 1] 3) = w2 := ⟨_, rfl⟩
  have hb12 : Below w1.heap.size w1 w2 := by rw [← hw2]; exact (Below.refl _ w1).alloc (Nat.le_refl _) _
  have hO : Boxed w2 w1.heap.size 3 (.int .i64 1) := by rw [← hw2]; exact Boxed.new _ _ _
  have hs1 : w.heap.size < w1.heap.size := (Array.getElem?_eq_some_iff.1 hX).1
  have hX2 := (hb12.block _ hs1).trans hX
  have HB2 : Below w.heap.size w w2 := HB.trans (hb12.mono (by omega))
  have hs2 : w2.heap.size = w1.heap.size + 1 := by rw [← hw2]; simp
  clear hx0 hx1 hx2
  have hx0 : w2.cell? ⟨w.heap.size, 0, none⟩ = some (.slice A0_0 l0_0.length c0_0) := by simp [World.cell?, hX2]
  have hx1 : w2.cell? ⟨w.heap.size, 1, none⟩ = some (.slice A0_1 l0_1.length c0_1) := by simp [World.cell?, hX2]
  have hx2 : w2.cell? ⟨w.heap.size, 2, none⟩ = some (.int .i64 a0_2) := by simp [World.cell?, hX2]
  rw [hw2]
  have p0 : (0 ≤ a1) = True := eq_true h1
  have p1 : (a1 < (l0_1.length : Int)) = True := eq_true h2
  have hmx : Try.prog.follows .mixedOrders = true := by kernel_rfl
  obtain ⟨ad, rfl, g0⟩ := Kd.at_int (Kd.C_below hr0_1 HB2) a1 h1 h2
  refine wpIn_mono (Q := only (fun a' w' => a' = { tmps := #[.agg #[.slice A0_0 l0_0.length c0_0, .slice (some ad) l0_1.length c0_1, .int .i64 a0_2], .int .i64 a1, .pointer (some ⟨w.heap.size, 0, none⟩), undef, .int .i64 0, .pointer (some ⟨w1.heap.size, 0, none⟩), undef,
      .agg #[.slice A0_0 l0_0.length c0_0, .slice (some ad) l0_1.length c0_1, .int .i64 a0_2], .int .i64 0, .bool false, .bool false, .int .i64 a1, .bool false, .bool false, .bool false, .int .i64 a1, .pointer (some ⟨w.heap.size, 1, none⟩), .slice (some ad) l0_1.length c0_1, .int .i64 (l0_1.length : Int), .bool false, .bool false,
      .agg #[.slice A0_0 l0_0.length c0_0, .slice (some ad) l0_1.length c0_1, .int .i64 a0_2], .pointer (some ⟨w.heap.size, 1, none⟩), .slice (some ad) l0_1.length c0_1, .int .i64 a1, .pointer (some (ad.add a1.toNat)), .int .i64 (rd l0_1 a1),
      .func (.func 51) #[] #[.pointer (some ⟨w1.heap.size + 1 + 1, 0, none⟩), .pointer (some ⟨w1.heap.size + 1, 0, none⟩)], undef, undef, undef, undef, undef, undef, undef, undef, undef, undef], defers := [] }
      ∧ w' = ((w2.alloc (.cells #[.slice A0_0 l0_0.length c0_0, .slice (some ad) l0_1.length c0_1, .int .i64 a0_2] 28)).alloc (.cells #[.int .i64 (rd l0_1 a1)] 3)).drew)) ?region ?back
  case region =>
    gi_region_with_o (refine ⟨trivial, ?_⟩; gi_at_call 41; refine (up_in Fence.wide _ trivial rfl A0_0 l0_0.length c0_0 _ l0_1.length c0_1 a0_2 (rd l0_1 a1) _).mono ?_; rintro e w' ⟨rfl, rfl⟩)
    all_goals gi_wp2
    all_goals exact ⟨rfl, rfl⟩
  case back =>
    intro e a' w' hq
    cases e with
    | ret => exact hq.elim
    | exit id => exact hq.elim
    | goto t => exact hq.elim
    | panic ch => exact hq.elim
    | outgrown => exact hq.elim
    | normal =>
      obtain ⟨rfl, rfl⟩ := hq
      gi_wp2
      obtain ⟨w5, hw5⟩ : ∃ w5, ((w2.alloc (.cells #[.slice A0_0 l0_0.length c0_0, .slice (some ad) l0_1.length c0_1, .int .i64 a0_2] 28)).alloc (.cells #[.int .i64 (rd l0_1 a1)] 3)).drew = w5 := ⟨_, rfl⟩
      have hB25 : Below w2.heap.size w2 w5 := by rw [← hw5]; exact (((Below.refl _ w2).alloc (Nat.le_refl _) _).alloc (by simp) _).drew
      have hs5 : w5.heap.size = w1.heap.size + 3 := by rw [← hw5]; simp [hs2]
      have hF5 : w5.heap[w1.heap.size + 1]? = some (.cells #[.slice A0_0 l0_0.length c0_0, .slice (some ad) l0_1.length c0_1, .int .i64 a0_2] 28 (0, 0)) := by
        rw [← hw5, ← hs2]; exact (Below.heap_alloc _ _ _ (by simp)).trans (World.alloc_heap_new w2 _)
      have hS5 : Boxed w5 (w1.heap.size + 1 + 1) 3 (.int .i64 (rd l0_1 a1)) := by
        have e : w1.heap.size + 1 + 1 = (w2.alloc (.cells #[.slice A0_0 l0_0.length c0_0, .slice (some ad) l0_1.length c0_1, .int .i64 a0_2] 28)).heap.size := by simp [hs2]
        rw [← hw5, e]; exact World.alloc_heap_new _ _
      have hX5 := (hB25.block _ (by omega)).trans hX2
      have hO5 : Boxed w5 w1.heap.size 3 (.int .i64 1) := (hB25.block _ (by omega)).trans hO
      have HB5 : Below w.heap.size w w5 := HB2.trans (hB25.mono (by omega))
      rw [hw5]
      refine range_up Fence.wide 5 trivial rfl (by omega) hch (Bs := w1.heap.size + 1 + 1) (Bf := w1.heap.size + 1) (n₀ := w.heap.size) (by omega) rfl rfl hS5 hF5 (by omega) ((SwAt.of hr0_0).step HB5)
        (fun pre W => Boxed W w1.heap.size 3 (.int .i64 (liveOf l0_0 1 pre)) ∧ W.heap[w.heap.size]? = some (.cells #[.slice A0_0 l0_0.length c0_0, .slice (some ad) l0_1.length c0_1, .int .i64 a0_2] 28 (0, 0)) ∧ Below w.heap.size w W)
        ?own ⟨hO5, hX5, HB5⟩
        (fun x => { tmps := #[.agg #[.slice A0_0 l0_0.length c0_0, .slice (some ad) l0_1.length c0_1, .int .i64 a0_2], .int .i64 a1, .pointer (some ⟨w.heap.size, 0, none⟩), undef, .int .i64 0, .pointer (some ⟨w1.heap.size, 0, none⟩), .int .i64 x.1,
          .agg #[.slice A0_0 l0_0.length c0_0, .slice (some ad) l0_1.length c0_1, .int .i64 a0_2], .int .i64 0, .bool false, .bool false, .int .i64 a1, .bool false, .bool false, .bool false, .int .i64 a1, .pointer (some ⟨w.heap.size, 1, none⟩), .slice (some ad) l0_1.length c0_1, .int .i64 (l0_1.length : Int), .bool false, .bool false,
          .agg #[.slice A0_0 l0_0.length c0_0, .slice (some ad) l0_1.length c0_1, .int .i64 a0_2], .pointer (some ⟨w.heap.size, 1, none⟩), .slice (some ad) l0_1.length c0_1, .int .i64 a1, .pointer (some (ad.add a1.toNat)), .int .i64 (rd l0_1 a1),
          .func (.func 51) #[] #[.pointer (some ⟨w1.heap.size + 1 + 1, 0, none⟩), .pointer (some ⟨w1.heap.size + 1, 0, none⟩)], .int .i64 x.1, undef, undef, undef, undef, undef, undef, undef, undef, undef], defers := [] }) ?assign ?body ?done
      case own =>
        rintro pre W W' row ⟨k1, k2, k3⟩ hg hrow
        have hne : ∀ b, b = w1.heap.size ∨ b = w.heap.size → some b ≠ row := by
          rintro b hb e
          rcases hrow b e.symm with e2 | ⟨e2, _⟩ <;> omega
        refine ⟨k1.kept hg (hne _ (.inl rfl)), (hg.block _ (Array.getElem?_eq_some_iff.1 k2).1 (hne _ (.inr rfl))).trans k2, k3.grown hg k3.size (fun r e => ?_)⟩
        rcases hrow r e with e2 | ⟨e2, _⟩ <;> omega
      case assign =>
        intro l x W K hK
        gi_wp2
        exact hK
      case body =>
        rintro l pre x W ⟨k1, k2, k3⟩ _
        have q1 := k1.cell
        have q2 := k1.frozen
        have q3 : W.cell? ⟨w.heap.size, 0, none⟩ = some (.slice A0_0 l0_0.length c0_0) := by simp [World.cell?, k2]
        obtain ⟨ad2, rfl, g0, g1, g2, g3, g4⟩ := at_T32 ((SwAt.of hr0_0).step k3).now x.1 x.2.1 x.2.2
        have u0 : (0 ≤ x.1) = True := eq_true x.2.1
        have u1 : (x.1 < (l0_0.length : Int)) = True := eq_true x.2.2
        have fin : ∀ v, v = mn (liveOf l0_0 1 pre) (rd_T32 l0_0 x.1).f2 → KeepsOthers W (W.setCell ⟨w1.heap.size, 0, none⟩ (.int .i64 v)).drew ∧ Keeps w.heap.size (w1.heap.size + 1 + 1) (w1.heap.size + 1) W (W.setCell ⟨w1.heap.size, 0, none⟩ (.int .i64 v)).drew ∧
            (Boxed (W.setCell ⟨w1.heap.size, 0, none⟩ (.int .i64 v)).drew w1.heap.size 3 (.int .i64 (liveOf l0_0 1 (pre ++ [x]))) ∧ (W.setCell ⟨w1.heap.size, 0, none⟩ (.int .i64 v)).drew.heap[w.heap.size]? = some (.cells #[.slice (some ad2) l0_0.length c0_0, .slice (some ad) l0_1.length c0_1, .int .i64 a0_2] 28 (0, 0)) ∧ Below w.heap.size w (W.setCell ⟨w1.heap.size, 0, none⟩ (.int .i64 v)).drew) := by
          intro v hv
          have hBl : Below w1.heap.size W (W.setCell ⟨w1.heap.size, 0, none⟩ (.int .i64 v)).drew := ((Below.refl _ W).setCell (p := ⟨w1.heap.size, 0, none⟩) (Nat.le_refl _) _).drew
          refine ⟨(KeepsOthers.setCell _ _ _).trans (KeepsOthers.drew _), ⟨hBl.mono (by omega), Below.heap_setCell _ _ _ _ (by show w1.heap.size + 1 + 1 ≠ w1.heap.size; omega), Below.heap_setCell _ _ _ _ (by show w1.heap.size + 1 ≠ w1.heap.size; omega)⟩, ?_, (hBl.block _ (by omega)).trans k2, k3.trans (hBl.mono (by omega))⟩
          rw [liveOf_snoc, ← hv]
          exact k1.set _
        gi_wp2
        gi_region_o
        all_goals gi_wp2
        all_goals (refine fin _ ?_; unfold mn; split <;> omega)
      case done =>
        rintro D W hD ⟨k1, k2, k3⟩ hK
        have q1 := k1.cell
        gi_wp2
        refine ⟨by simp, .inl ⟨_, _, rfl, run_takeDeferred hK, ?_⟩⟩
        exact ⟨_, results_tmp rfl _ _ _, rfl, k3.trans (belowK_b (w := w) (Nat.le_refl _) W D _ _ (by omega) hK rfl rfl)⟩

end

/-! ### minecontrollaw18_awake: function 20 -/
def minecontrollaw18_awake.f (k : Nat)  : Option (Bool) := (some (([(⟨(-1), 0, 1, true, false⟩ : S32), (⟨0, 0, 1, true, false⟩ : S32)] : List (S32)) : List (S32))).bind fun y222 => ((some (([1] : List Int) : List Int)).bind fun y225 => ((feeder_Open.f k y222 y225 5 1 10).bind fun bt229 => ((feeder_Tick.f k bt229.1 bt229.2.1 bt229.2.2.1 15).bind fun bt238 => ((feeder_Check.f k y222 y225 5).bind fun t253 => (if t253 = 0 then ((feeder_Live.f k y222 y225 5 0).bind fun t254 => (if t254 = 1 then (if bt229.2.2.2 = 0 then ((feeder_Live.f k bt229.1 bt229.2.1 bt229.2.2.1 0).bind fun t255 => (if t255 = 0 then ((feeder_Due.f k bt229.1 bt229.2.1 bt229.2.2.1).bind fun t256 => (if t256 = 15 then (if bt238.2.2.2.2.2 = 0 then ((minecontrolref01_Ints.f k bt238.2.2.2.1 (([1] : List Int))).bind fun t260 => (if t260 = true then ((minecontrolref01_Ints.f k bt238.2.2.2.2.1 (([0] : List Int))).bind fun t264 => (if t264 = true then (if (bt238.1.length : Int) = 2 then (if 0 < (bt238.1.length : Int) then (some (!((rd_T32 bt238.1 0).f3))) else (none)) else (some false)) else (some false))) else (some false))) else (some false)) else (some false))) else (some false))) else (some false)) else (some false))) else (some false))))))
theorem minecontrollaw18_awake.mono : ∀ k, LeO (minecontrollaw18_awake.f k ) (minecontrollaw18_awake.f (k + 1) ) := by
  intro  k
  unfold minecontrollaw18_awake.f
  repeat' first
      | (with_reducible exact feeder_Check.mono _ _ _ _)
      | (with_reducible exact feeder_Due.mono _ _ _ _)
      | (with_reducible exact feeder_Live.mono _ _ _ _ _)
      | (with_reducible exact feeder_Open.mono _ _ _ _ _ _)
      | (with_reducible exact feeder_Tick.mono _ _ _ _ _)
      | (with_reducible exact minecontrolref01_Ints.mono _ _ _)
      | (with_reducible exact LeO.refl _)
      | (with_reducible exact LeO.none _)
      | (with_reducible refine LeO.ite ?_ ?_)
      | (with_reducible refine LeO.bind ?_ (fun _ => ?_))
      | exact LeO.none _
      | refine LeO.ite ?_ ?_
      | refine LeO.bind ?_ (fun _ => ?_)
set_option maxHeartbeats 8000000 in
set_option maxRecDepth 100000 in
theorem minecontrollaw18_awake.calls1 (k : Nat)  (r : Bool) (w : World) (hr_ : Aside0 (r = true)) (h : minecontrollaw18_awake.f k  = some r) :
    Calls Try.prog 20 #[] w fun e w' => e = .returned (.bool r) ∧ Below w.heap.size w w' := by
  have hu32 := Try.underlying32
  have hu28 := Try.underlying28
  have HB := aM (Below.refl w.heap.size w)
  have H : ((some (([(⟨(-1), 0, 1, true, false⟩ : S32), (⟨0, 0, 1, true, false⟩ : S32)] : List (S32)) : List (S32))).bind fun y222 => ((some (([1] : List Int) : List Int)).bind fun y225 => ((feeder_Open.f k y222 y225 5 1 10).bind fun bt229 => ((feeder_Tick.f k bt229.1 bt229.2.1 bt229.2.2.1 15).bind fun bt238 => ((feeder_Check.f k y222 y225 5).bind fun t253 => (if t253 = 0 then ((feeder_Live.f k y222 y225 5 0).bind fun t254 => (if t254 = 1 then (if bt229.2.2.2 = 0 then ((feeder_Live.f k bt229.1 bt229.2.1 bt229.2.2.1 0).bind fun t255 => (if t255 = 0 then ((feeder_Due.f k bt229.1 bt229.2.1 bt229.2.2.1).bind fun t256 => (if t256 = 15 then (if bt238.2.2.2.2.2 = 0 then ((minecontrolref01_Ints.f k bt238.2.2.2.1 (([1] : List Int))).bind fun t260 => (if t260 = true then ((minecontrolref01_Ints.f k bt238.2.2.2.2.1 (([0] : List Int))).bind fun t264 => (if t264 = true then (if (bt238.1.length : Int) = 2 then (if 0 < (bt238.1.length : Int) then (some (!((rd_T32 bt238.1 0).f3))) else (none)) else (some false)) else (some false))) else (some false))) else (some false)) else (some false))) else (some false))) else (some false)) else (some false))) else (some false))))))) = some r := h
  clear h
  obtain ⟨y222, hy222⟩ : ∃ y_ : List (S32), y_ = (([(⟨(-1), 0, 1, true, false⟩ : S32), (⟨0, 0, 1, true, false⟩ : S32)] : List (S32))) := ⟨_, rfl⟩
  replace H : ((some (([1] : List Int) : List Int)).bind fun y225 => ((feeder_Open.f k y222 y225 5 1 10).bind fun bt229 => ((feeder_Tick.f k bt229.1 bt229.2.1 bt229.2.2.1 15).bind fun bt238 => ((feeder_Check.f k y222 y225 5).bind fun t253 => (if t253 = 0 then ((feeder_Live.f k y222 y225 5 0).bind fun t254 => (if t254 = 1 then (if bt229.2.2.2 = 0 then ((feeder_Live.f k bt229.1 bt229.2.1 bt229.2.2.1 0).bind fun t255 => (if t255 = 0 then ((feeder_Due.f k bt229.1 bt229.2.1 bt229.2.2.1).bind fun t256 => (if t256 = 15 then (if bt238.2.2.2.2.2 = 0 then ((minecontrolref01_Ints.f k bt238.2.2.2.1 (([1] : List Int))).bind fun t260 => (if t260 = true then ((minecontrolref01_Ints.f k bt238.2.2.2.2.1 (([0] : List Int))).bind fun t264 => (if t264 = true then (if (bt238.1.length : Int) = 2 then (if 0 < (bt238.1.length : Int) then (some (!((rd_T32 bt238.1 0).f3))) else (none)) else (some false)) else (some false))) else (some false))) else (some false)) else (some false))) else (some false))) else (some false)) else (some false))) else (some false)))))) = some r := by first | (rw [hy222]; with_reducible exact H) | (have H2_ := (Option.bind_some _ _).symm.trans H; rw [hy222]; with_reducible exact H2_) | (have H2_ := (Option.bind_some _ _).symm.trans H; with_reducible exact H2_) | with_reducible exact H | (rw [hy222]; exact H) | exact H
  have Ny222 := aM hy222
  clear hy222
  obtain ⟨y225, hy225⟩ : ∃ y_ : List Int, y_ = (([1] : List Int)) := ⟨_, rfl⟩
  replace H : ((feeder_Open.f k y222 y225 5 1 10).bind fun bt229 => ((feeder_Tick.f k bt229.1 bt229.2.1 bt229.2.2.1 15).bind fun bt238 => ((feeder_Check.f k y222 y225 5).bind fun t253 => (if t253 = 0 then ((feeder_Live.f k y222 y225 5 0).bind fun t254 => (if t254 = 1 then (if bt229.2.2.2 = 0 then ((feeder_Live.f k bt229.1 bt229.2.1 bt229.2.2.1 0).bind fun t255 => (if t255 = 0 then ((feeder_Due.f k bt229.1 bt229.2.1 bt229.2.2.1).bind fun t256 => (if t256 = 15 then (if bt238.2.2.2.2.2 = 0 then ((minecontrolref01_Ints.f k bt238.2.2.2.1 (([1] : List Int))).bind fun t260 => (if t260 = true then ((minecontrolref01_Ints.f k bt238.2.2.2.2.1 (([0] : List Int))).bind fun t264 => (if t264 = true then (if (bt238.1.length : Int) = 2 then (if 0 < (bt238.1.length : Int) then (some (!((rd_T32 bt238.1 0).f3))) else (none)) else (some false)) else (some false))) else (some false))) else (some false)) else (some false))) else (some false))) else (some false)) else (some false))) else (some false))))) = some r := by first | (rw [hy225]; with_reducible exact H) | (have H2_ := (Option.bind_some _ _).symm.trans H; rw [hy225]; with_reducible exact H2_) | (have H2_ := (Option.bind_some _ _).symm.trans H; with_reducible exact H2_) | with_reducible exact H | (rw [hy225]; exact H) | exact H
  have Ny225 := aM hy225
  clear hy225
  replace H := Option.bind_eq_some_iff.mp H
  obtain ⟨⟨t229, t232, t235, t236⟩, A10, H⟩ := H
  replace H : ((feeder_Tick.f k t229 t232 t235 15).bind fun bt238 => ((feeder_Check.f k y222 y225 5).bind fun t253 => (if t253 = 0 then ((feeder_Live.f k y222 y225 5 0).bind fun t254 => (if t254 = 1 then (if t236 = 0 then ((feeder_Live.f k t229 t232 t235 0).bind fun t255 => (if t255 = 0 then ((feeder_Due.f k t229 t232 t235).bind fun t256 => (if t256 = 15 then (if bt238.2.2.2.2.2 = 0 then ((minecontrolref01_Ints.f k bt238.2.2.2.1 (([1] : List Int))).bind fun t260 => (if t260 = true then ((minecontrolref01_Ints.f k bt238.2.2.2.2.1 (([0] : List Int))).bind fun t264 => (if t264 = true then (if (bt238.1.length : Int) = 2 then (if 0 < (bt238.1.length : Int) then (some (!((rd_T32 bt238.1 0).f3))) else (none)) else (some false)) else (some false))) else (some false))) else (some false)) else (some false))) else (some false))) else (some false)) else (some false))) else (some false)))) = some r := H
  have A1 := aM A10
  clear A10
  replace H := Option.bind_eq_some_iff.mp H
  obtain ⟨⟨t238, t241, t244, t245, t248, t251⟩, A20, H⟩ := H
  replace H : ((feeder_Check.f k y222 y225 5).bind fun t253 => (if t253 = 0 then ((feeder_Live.f k y222 y225 5 0).bind fun t254 => (if t254 = 1 then (if t236 = 0 then ((feeder_Live.f k t229 t232 t235 0).bind fun t255 => (if t255 = 0 then ((feeder_Due.f k t229 t232 t235).bind fun t256 => (if t256 = 15 then (if t251 = 0 then ((minecontrolref01_Ints.f k t245 (([1] : List Int))).bind fun t260 => (if t260 = true then ((minecontrolref01_Ints.f k t248 (([0] : List Int))).bind fun t264 => (if t264 = true then (if (t238.length : Int) = 2 then (if 0 < (t238.length : Int) then (some (!((rd_T32 t238 0).f3))) else (none)) else (some false)) else (some false))) else (some false))) else (some false)) else (some false))) else (some false))) else (some false)) else (some false))) else (some false))) = some r := H
  have A2 := aM A20
  clear A20
  replace H := Option.bind_eq_some_iff.mp H
  obtain ⟨t253, A30, H⟩ := H
  replace H : (if t253 = 0 then ((feeder_Live.f k y222 y225 5 0).bind fun t254 => (if t254 = 1 then (if t236 = 0 then ((feeder_Live.f k t229 t232 t235 0).bind fun t255 => (if t255 = 0 then ((feeder_Due.f k t229 t232 t235).bind fun t256 => (if t256 = 15 then (if t251 = 0 then ((minecontrolref01_Ints.f k t245 (([1] : List Int))).bind fun t260 => (if t260 = true then ((minecontrolref01_Ints.f k t248 (([0] : List Int))).bind fun t264 => (if t264 = true then (if (t238.length : Int) = 2 then (if 0 < (t238.length : Int) then (some (!((rd_T32 t238 0).f3))) else (none)) else (some false)) else (some false))) else (some false))) else (some false)) else (some false))) else (some false))) else (some false)) else (some false))) else (some false)) = some r := H
  have A3 := aM A30
  clear A30
  by_cases c4 : t253 = 0
  · rw [if_pos c4] at H
    have c4b0 : (t253 == 0) = true := beq_iff_eq.mpr c4
    have c4b1 : (t253 != 0) = false := bne_eq_false_iff_eq.mpr c4
    clear c4
    replace H := Option.bind_eq_some_iff.mp H
    obtain ⟨t254, A50, H⟩ := H
    replace H : (if t254 = 1 then (if t236 = 0 then ((feeder_Live.f k t229 t232 t235 0).bind fun t255 => (if t255 = 0 then ((feeder_Due.f k t229 t232 t235).bind fun t256 => (if t256 = 15 then (if t251 = 0 then ((minecontrolref01_Ints.f k t245 (([1] : List Int))).bind fun t260 => (if t260 = true then ((minecontrolref01_Ints.f k t248 (([0] : List Int))).bind fun t264 => (if t264 = true then (if (t238.length : Int) = 2 then (if 0 < (t238.length : Int) then (some (!((rd_T32 t238 0).f3))) else (none)) else (some false)) else (some false))) else (some false))) else (some false)) else (some false))) else (some false))) else (some false)) else (some false)) = some r := H
    have A5 := aM A50
    clear A50
    by_cases c6 : t254 = 1
    · rw [if_pos c6] at H
      have c6b0 : (t254 == 1) = true := beq_iff_eq.mpr c6
      have c6b1 : (t254 != 1) = false := bne_eq_false_iff_eq.mpr c6
      clear c6
      by_cases c7 : t236 = 0
      · rw [if_pos c7] at H
        have c7b0 : (t236 == 0) = true := beq_iff_eq.mpr c7
        have c7b1 : (t236 != 0) = false := bne_eq_false_iff_eq.mpr c7
        clear c7
        replace H := Option.bind_eq_some_iff.mp H
        obtain ⟨t255, A80, H⟩ := H
        replace H : (if t255 = 0 then ((feeder_Due.f k t229 t232 t235).bind fun t256 => (if t256 = 15 then (if t251 = 0 then ((minecontrolref01_Ints.f k t245 (([1] : List Int))).bind fun t260 => (if t260 = true then ((minecontrolref01_Ints.f k t248 (([0] : List Int))).bind fun t264 => (if t264 = true then (if (t238.length : Int) = 2 then (if 0 < (t238.length : Int) then (some (!((rd_T32 t238 0).f3))) else (none)) else (some false)) else (some false))) else (some false))) else (some false)) else (some false))) else (some false)) = some r := H
        have A8 := aM A80
        clear A80
        by_cases c9 : t255 = 0
        · rw [if_pos c9] at H
          have c9b0 : (t255 == 0) = true := beq_iff_eq.mpr c9
          have c9b1 : (t255 != 0) = false := bne_eq_false_iff_eq.mpr c9
          clear c9
          replace H := Option.bind_eq_some_iff.mp H
          obtain ⟨t256, A100, H⟩ := H
          replace H : (if t256 = 15 then (if t251 = 0 then ((minecontrolref01_Ints.f k t245 (([1] : List Int))).bind fun t260 => (if t260 = true then ((minecontrolref01_Ints.f k t248 (([0] : List Int))).bind fun t264 => (if t264 = true then (if (t238.length : Int) = 2 then (if 0 < (t238.length : Int) then (some (!((rd_T32 t238 0).f3))) else (none)) else (some false)) else (some false))) else (some false))) else (some false)) else (some false)) = some r := H
          have A10 := aM A100
          clear A100
          by_cases c11 : t256 = 15
          · rw [if_pos c11] at H
            have c11b0 : (t256 == 15) = true := beq_iff_eq.mpr c11
            have c11b1 : (t256 != 15) = false := bne_eq_false_iff_eq.mpr c11
            clear c11
            by_cases c12 : t251 = 0
            · rw [if_pos c12] at H
              have c12b0 : (t251 == 0) = true := beq_iff_eq.mpr c12
              have c12b1 : (t251 != 0) = false := bne_eq_false_iff_eq.mpr c12
              clear c12
              obtain ⟨y257, hy257⟩ : ∃ y_ : List Int, y_ = (([1] : List Int)) := ⟨_, rfl⟩
              replace H : ((minecontrolref01_Ints.f k t245 y257).bind fun t260 => (if t260 = true then ((minecontrolref01_Ints.f k t248 (([0] : List Int))).bind fun t264 => (if t264 = true then (if (t238.length : Int) = 2 then (if 0 < (t238.length : Int) then (some (!((rd_T32 t238 0).f3))) else (none)) else (some false)) else (some false))) else (some false))) = some r := by first | (rw [hy257]; with_reducible exact H) | (have H2_ := (Option.bind_some _ _).symm.trans H; rw [hy257]; with_reducible exact H2_) | (have H2_ := (Option.bind_some _ _).symm.trans H; with_reducible exact H2_) | with_reducible exact H | (rw [hy257]; exact H) | exact H
              have Ny257 := aM hy257
              clear hy257
              replace H := Option.bind_eq_some_iff.mp H
              obtain ⟨t260, A130, H⟩ := H
              replace H : (if t260 = true then ((minecontrolref01_Ints.f k t248 (([0] : List Int))).bind fun t264 => (if t264 = true then (if (t238.length : Int) = 2 then (if 0 < (t238.length : Int) then (some (!((rd_T32 t238 0).f3))) else (none)) else (some false)) else (some false))) else (some false)) = some r := H
              have A13 := aM A130
              clear A130
              by_cases c14 : t260 = true
              · subst c14
                have H1 : ((minecontrolref01_Ints.f k t248 (([0] : List Int))).bind fun t264 => (if t264 = true then (if (t238.length : Int) = 2 then (if 0 < (t238.length : Int) then (some (!((rd_T32 t238 0).f3))) else (none)) else (some false)) else (some false))) = some r := by rw [if_pos rfl] at H; exact H
                clear H
                have H := H1
                clear H1
                obtain ⟨y261, hy261⟩ : ∃ y_ : List Int, y_ = (([0] : List Int)) := ⟨_, rfl⟩
                replace H : ((minecontrolref01_Ints.f k t248 y261).bind fun t264 => (if t264 = true then (if (t238.length : Int) = 2 then (if 0 < (t238.length : Int) then (some (!((rd_T32 t238 0).f3))) else (none)) else (some false)) else (some false))) = some r := by first | (rw [hy261]; with_reducible exact H) | (have H2_ := (Option.bind_some _ _).symm.trans H; rw [hy261]; with_reducible exact H2_) | (have H2_ := (Option.bind_some _ _).symm.trans H; with_reducible exact H2_) | with_reducible exact H | (rw [hy261]; exact H) | exact H
                have Ny261 := aM hy261
                clear hy261
                replace H := Option.bind_eq_some_iff.mp H
                obtain ⟨t264, A150, H⟩ := H
                replace H : (if t264 = true then (if (t238.length : Int) = 2 then (if 0 < (t238.length : Int) then (some (!((rd_T32 t238 0).f3))) else (none)) else (some false)) else (some false)) = some r := H
                have A15 := aM A150
                clear A150
                by_cases c16 : t264 = true
                · subst c16
                  have H1 : (if (t238.length : Int) = 2 then (if 0 < (t238.length : Int) then (some (!((rd_T32 t238 0).f3))) else (none)) else (some false)) = some r := by rw [if_pos rfl] at H; exact H
                  clear H
                  have H := H1
                  clear H1
                  by_cases c17 : (t238.length : Int) = 2
                  · rw [if_pos c17] at H
                    have c17b0 : ((t238.length : Int) == 2) = true := beq_iff_eq.mpr c17
                    have c17b1 : ((t238.length : Int) != 2) = false := bne_eq_false_iff_eq.mpr c17
                    clear c17
                    by_cases c18 : 0 < (t238.length : Int)
                    rotate_left
                    · rw [if_neg c18] at H
                      exact absurd H (by simp)
                    rw [if_pos c18] at H
                    have c18b0 : decide (0 < (t238.length : Int)) = true := decide_eq_true c18
                    have c18b1 : decide (0 < t238.length) = true := decide_eq_true (by omega)
                    clear c18
                    obtain rfl := Option.some.inj H
                    go_enter Try.func20, Try.ntmps20
                    go_wp2_with (first | ((with_reducible refine gate_dst (N := 10) rfl ?_); (try (refine gate_guard (by rfl) ?_; dsimp only)); refine Kd.R_lit k32 _ 32 ?hg (N := 10) ?hd (xs := ([(⟨(-1), 0, 1, true, false⟩ : S32), (⟨0, 0, 1, true, false⟩ : S32)] : List (S32))) (inner := [.int .i64 (-1), .int .i64 0, .int .i64 1, .bool true, .bool false, .int .i64 0, .int .i64 0, .int .i64 1, .bool true, .bool false]) (ok := fun _ => True) (okp := fun _ => True) ?hr ?hp (fun _ hk => hk) trivial (Below.refl _ _) (Nat.le_refl _) (by simp) ?_; (case hd => rfl); (case hg => rfl); (case hr => first | (go_simp; done) | (go_simp; rfl)); (case hp => exact (Reps.c5 (show Kd.M k32 _ _ _ (⟨(-1), 0, 1, true, false⟩ : S32) [.int .i64 (-1), .int .i64 0, .int .i64 1, .bool true, .bool false] from (k32_mkM _ _ _ (⟨(-1), 0, 1, true, false⟩ : S32) )) (Reps.c5 (show Kd.M k32 _ _ _ (⟨0, 0, 1, true, false⟩ : S32) [.int .i64 0, .int .i64 0, .int .i64 1, .bool true, .bool false] from (k32_mkM _ _ _ (⟨0, 0, 1, true, false⟩ : S32) )) (Reps.none _ _)))); intro v223 w19 ho20 hb hg_ hnew_; clear hg_ hnew_; (first | rw [← Ny222.out] at ho20 | (simp only [Int.reduceToNat] at ho20; rw [← Ny222.out] at ho20)); have HO224 := aM (Kd.R_lower ho20 (below_size (below_mv HB.out))); replace HB := aM (below_step (below_mv HB.out) hb); clear hb ho20) | ((with_reducible refine gate_dst (N := 11) rfl ?_); (try (refine gate_guard (by rfl) ?_; dsimp only)); refine Kd.R_lit (Kd.int .i64) _ 3 ?hg (N := 11) ?hd (xs := ([1] : List Int)) (inner := [.int .i64 1]) (ok := fun _ => True) (okp := fun _ => True) ?hr ?hp (fun _ hk => hk) trivial (Below.refl _ _) (Nat.le_refl _) (by simp) ?_; (case hd => rfl); (case hg => rfl); (case hr => first | (go_simp; done) | (go_simp; rfl)); (case hp => exact (Reps.one (show Kd.M (Kd.int .i64) _ _ _ 1 [.int .i64 1] from rfl) (Reps.none _ _))); intro v226 w21 ho22 hb hg_ hnew_; clear hg_ hnew_; (first | rw [← Ny225.out] at ho22 | (simp only [Int.reduceToNat] at ho22; rw [← Ny225.out] at ho22)); replace HO224 := aM (Kd.R_below (R_mv HO224.out) hb); have HO227 := aM (Kd.R_lower ho22 (below_size (below_mv HB.out))); replace HB := aM (below_step (below_mv HB.out) hb); clear hb ho22; obtain ⟨Ao23, co23, eo23⟩ := Kd.R_slice HO227.out; subst eo23; obtain ⟨Ao24, co24, eo24⟩ := Kd.R_slice HO224.out; subst eo24) | ((with_reducible refine gate_dst (N := 1) rfl ?_); (try (refine gate_guard (by rfl) ?_; dsimp only)); refine box_event ?hg (N := 1) ?hd (cs := #[.slice none 0 0, .slice none 0 0, .int .i64 0]) (t := 28) ?hr ?_; (case hd => rfl); (case hg => rfl); (case hr => first | (go_simp; done) | (go_simp; rfl)); intro gb228 hg w25 hbox hb; replace HO224 := aM (Kd.R_below (R_mv HO224.out) hb); replace HO227 := aM (Kd.R_below (R_mv HO227.out) hb); have BK228 := aM (hbox); have GW228 := aM ((by rw [hg]; exact (below_size (below_mv HB.out)) : w.heap.size ≤ gb228)); have GE228 := aM ((by rw [hg]; exact (below_size (below_mv HB.out)) : w.heap.size ≤ gb228)); replace HB := aM (below_step (below_mv HB.out) hb); clear hb hbox hg; obtain ⟨hcz26_0, hcz26_1, hcz26_2, hfz26_0, hfz26_1, hfz26_2⟩ := blk3 BK228.out) | ((with_reducible refine gate_callee (f := 14) rfl ?_); refine goesL_ (some 15) rfl rfl Try.func14 (by kernel_rfl) rfl #[.agg #[.slice Ao24 y222.length co24, .slice Ao23 y225.length co23, .int .i64 5], .int .i64 1, .int .i64 10] rfl (by first | rfl | (simp only [List.map_toArray, List.map_cons, List.map_nil, List.length_drop, List.length_take]; try rfl)) ?_; (with_reducible refine (feeder_Open.calls k _ _ y222 _ _ y225 5 1 10 t229 t232 t235 t236 _ ?side1 ?side2 ?side3 ?side4 A1.out).mono ?_); (case side1 => refine (Kd.R_reads' (e := 32) (base := w.heap.size) (ok := fun k_ => True) (n := y222.length) (c := co24) ?_).2.2; exact (by (with_reducible repeat (first | apply Kd.R_alloc | apply Kd.R_drewN | apply Kd.R_drew)); exact (Kd.R_mono (f3 HO224.out BK228.out (by decide)) (fun _ h_ => h_.1)))); (case side2 => exact (Kd.R_reads' HO224.out).2.1); (case side3 => refine (Kd.R_reads' (e := 3) (base := w.heap.size) (ok := fun k_ => True) (n := y225.length) (c := co23) ?_).2.2; exact (by (with_reducible repeat (first | apply Kd.R_alloc | apply Kd.R_drewN | apply Kd.R_drew)); exact (Kd.R_mono (f3 HO227.out BK228.out (by decide)) (fun _ h_ => h_.1)))); (case side4 => exact (Kd.R_reads' HO227.out).2.1); rintro e w27 ⟨v230, v233, rfl, ho0, ho1, hb⟩; refine ⟨_, rfl, ?_⟩; have HO231 := aM (Kd.R_lower (Kd.R_new' ho0 (Kd.R_lt (by (with_reducible repeat (first | apply Kd.R_alloc | apply Kd.R_drewN | apply Kd.R_drew)); exact (Kd.R_mono (f3 HO224.out BK228.out (by decide)) (fun _ h_ => h_.1))))) (below_size (by repeat (first | (with_reducible first | exact HB.out | apply bA | apply bN | apply bD | refine below_set ?_ GE228.out) | exact HB.out)))); replace HO224 := aM (Kd.R_elder' (by (with_reducible repeat (first | apply Kd.R_alloc | apply Kd.R_drewN | apply Kd.R_drew)); exact (Kd.R_mono (f3 HO224.out BK228.out (by decide)) (fun _ h_ => h_.1))) (Kd.R_base ho0) hb); have HO234 := aM (Kd.R_lower (Kd.R_new' ho1 (Kd.R_lt (by (with_reducible repeat (first | apply Kd.R_alloc | apply Kd.R_drewN | apply Kd.R_drew)); exact (Kd.R_mono (f3 HO227.out BK228.out (by decide)) (fun _ h_ => h_.1))))) (below_size (by repeat (first | (with_reducible first | exact HB.out | apply bA | apply bN | apply bD | refine below_set ?_ GE228.out) | exact HB.out)))); replace HO227 := aM (Kd.R_elder' (by (with_reducible repeat (first | apply Kd.R_alloc | apply Kd.R_drewN | apply Kd.R_drew)); exact (Kd.R_mono (f3 HO227.out BK228.out (by decide)) (fun _ h_ => h_.1))) (Kd.R_base ho1) hb); replace BK228 := aM (blk_below (g := gb228) (o := .cells #[.slice Ao24 y222.length co24, .slice Ao23 y225.length co23, .int .i64 5] 28 (0, 0)) (by (with_reducible repeat (first | refine kN ?_ _ | refine kD ?_ | refine kA ?_ _)); refine blk_put (cs := #[.slice Ao24 y222.length co24, .slice Ao23 y225.length co23, .int .i64 0]) ?_ 2 _ rfl; (with_reducible repeat (first | refine kN ?_ _ | refine kD ?_ | refine kA ?_ _)); refine blk_put (cs := #[.slice Ao24 y222.length co24, .slice none 0 0, .int .i64 0]) ?_ 1 _ rfl; (with_reducible repeat (first | refine kN ?_ _ | refine kD ?_ | refine kA ?_ _)); refine blk_put (cs := #[.slice none 0 0, .slice none 0 0, .int .i64 0]) ?_ 0 _ rfl; (with_reducible repeat (first | refine kN ?_ _ | refine kD ?_ | refine kA ?_ _)); exact BK228.out) hb); replace HB := aM (below_step (by repeat (first | (with_reducible first | exact HB.out | apply bA | apply bN | apply bD | refine below_set ?_ GE228.out) | exact HB.out)) hb); (try clear hb); (try clear hb2); (try clear hge); (try clear hk); (try clear hi); (try clear ho0); (try clear ho1)) | ((with_reducible refine gate_dst (N := 2) rfl ?_); (try (refine gate_guard (by rfl) ?_; dsimp only)); refine box_event ?hg (N := 2) ?hd (cs := #[.slice none 0 0, .slice none 0 0, .int .i64 0]) (t := 28) ?hr ?_; (case hd => rfl); (case hg => rfl); (case hr => first | (go_simp; done) | (go_simp; rfl)); intro gb237 hg w28 hbox hb; replace HO224 := aM (Kd.R_below (R_mv HO224.out) hb); replace HO227 := aM (Kd.R_below (R_mv HO227.out) hb); replace HO231 := aM (Kd.R_below (R_mv HO231.out) hb); replace HO234 := aM (Kd.R_below (R_mv HO234.out) hb); have BK237 := aM (hbox); have GW237 := aM ((by rw [hg]; exact (below_size (by repeat (first | (with_reducible first | exact HB.out | apply bA | apply bN | apply bD | refine below_set ?_ GE228.out) | exact HB.out))) : w.heap.size ≤ gb237)); have GE237 := aM ((by rw [hg]; exact (below_size (by repeat (first | (with_reducible first | exact HB.out | apply bA | apply bN | apply bD | refine below_set ?_ GE228.out) | exact HB.out))) : w.heap.size ≤ gb237)); replace HB := aM (below_step (by repeat (first | (with_reducible first | exact HB.out | apply bA | apply bN | apply bD | refine below_set ?_ GE228.out) | exact HB.out)) hb); have NB228_237 := aM ((by rw [hg]; exact Nat.ne_of_lt (blk_lt (blk_mv BK228.out)) : gb228 ≠ gb237)); have NB237_228 := aM ((by rw [hg]; exact Nat.ne_of_gt (blk_lt (blk_mv BK228.out)) : gb237 ≠ gb228)); replace BK228 := aM (blk_below (blk_mv BK228.out) hb); clear hb hbox hg; obtain ⟨Ao29, co29, eo29⟩ := Kd.R_slice HO231.out; subst eo29; have hnb30 := NB237_228.out; have hnc30 := NB228_237.out; obtain ⟨hcz31_0, hcz31_1, hcz31_2, hfz31_0, hfz31_1, hfz31_2⟩ := blk3 BK237.out; obtain ⟨Ao32, co32, eo32⟩ := Kd.R_slice HO234.out; subst eo32) | ((with_reducible refine gate_callee (f := 16) rfl ?_); refine goesL_ (some 20) rfl rfl Try.func16 (by kernel_rfl) rfl #[.agg #[.slice Ao29 t229.length co29, .slice Ao32 t232.length co32, .int .i64 t235], .int .i64 15] rfl (by first | rfl | (simp only [List.map_toArray, List.map_cons, List.map_nil, List.length_drop, List.length_take]; try rfl)) ?_; (with_reducible refine (feeder_Tick.calls k _ _ t229 _ _ t232 t235 15 t238 t241 t244 t245 t248 t251 _ ?side1 ?side2 ?side3 ?side4 A2.out).mono ?_); (case side1 => refine (Kd.R_reads' (e := 32) (base := w.heap.size) (ok := fun k_ => (True ∧ some k_ ≠ (.slice Ao24 y222.length co24 : Value).ownBlock)) (n := t229.length) (c := co29) ?_).2.2; exact (by (with_reducible repeat (first | apply Kd.R_alloc | apply Kd.R_drewN | apply Kd.R_drew)); exact (Kd.R_mono (f3 HO231.out BK237.out (by decide)) (fun _ h_ => h_.1)))); (case side2 => exact (Kd.R_reads' HO231.out).2.1); (case side3 => refine (Kd.R_reads' (e := 3) (base := w.heap.size) (ok := fun k_ => (True ∧ some k_ ≠ (.slice Ao23 y225.length co23 : Value).ownBlock)) (n := t232.length) (c := co32) ?_).2.2; exact (by (with_reducible repeat (first | apply Kd.R_alloc | apply Kd.R_drewN | apply Kd.R_drew)); exact (Kd.R_mono (f3 HO234.out BK237.out (by decide)) (fun _ h_ => h_.1)))); (case side4 => exact (Kd.R_reads' HO234.out).2.1); rintro e w33 ⟨v239, v242, v246, v249, rfl, ho0, ho1, ho2, ho3, hb⟩; refine ⟨_, rfl, ?_⟩; have HO240 := aM (Kd.R_lower (Kd.R_new' (Kd.R_new' ho0 (Kd.R_lt (by (with_reducible repeat (first | apply Kd.R_alloc | apply Kd.R_drewN | apply Kd.R_drew)); exact (Kd.R_mono (f3 HO224.out BK237.out (by decide)) (fun _ h_ => h_.1))))) (Kd.R_lt (by (with_reducible repeat (first | apply Kd.R_alloc | apply Kd.R_drewN | apply Kd.R_drew)); exact (Kd.R_mono (f3 HO231.out BK237.out (by decide)) (fun _ h_ => h_.1))))) (below_size (by repeat (first | (with_reducible first | exact HB.out | apply bA | apply bN | apply bD | refine below_set ?_ GE228.out | refine below_set ?_ GE237.out) | exact HB.out)))); replace HO224 := aM (Kd.R_elder' (by (with_reducible repeat (first | apply Kd.R_alloc | apply Kd.R_drewN | apply Kd.R_drew)); exact (Kd.R_mono (f3 HO224.out BK237.out (by decide)) (fun _ h_ => h_.1))) (Kd.R_base ho0) hb); replace HO231 := aM (Kd.R_elder' (by (with_reducible repeat (first | apply Kd.R_alloc | apply Kd.R_drewN | apply Kd.R_drew)); exact (Kd.R_mono (f3 HO231.out BK237.out (by decide)) (fun _ h_ => h_.1))) (Kd.R_base ho0) hb); have HO243 := aM (Kd.R_lower (Kd.R_new' (Kd.R_new' ho1 (Kd.R_lt (by (with_reducible repeat (first | apply Kd.R_alloc | apply Kd.R_drewN | apply Kd.R_drew)); exact (Kd.R_mono (f3 HO227.out BK237.out (by decide)) (fun _ h_ => h_.1))))) (Kd.R_lt (by (with_reducible repeat (first | apply Kd.R_alloc | apply Kd.R_drewN | apply Kd.R_drew)); exact (Kd.R_mono (f3 HO234.out BK237.out (by decide)) (fun _ h_ => h_.1))))) (below_size (by repeat (first | (with_reducible first | exact HB.out | apply bA | apply bN | apply bD | refine below_set ?_ GE228.out | refine below_set ?_ GE237.out) | exact HB.out)))); have HO247 := aM (Kd.R_lower (Kd.R_new' (Kd.R_new' ho2 (Kd.R_lt (by (with_reducible repeat (first | apply Kd.R_alloc | apply Kd.R_drewN | apply Kd.R_drew)); exact (Kd.R_mono (f3 HO227.out BK237.out (by decide)) (fun _ h_ => h_.1))))) (Kd.R_lt (by (with_reducible repeat (first | apply Kd.R_alloc | apply Kd.R_drewN | apply Kd.R_drew)); exact (Kd.R_mono (f3 HO234.out BK237.out (by decide)) (fun _ h_ => h_.1))))) (below_size (by repeat (first | (with_reducible first | exact HB.out | apply bA | apply bN | apply bD | refine below_set ?_ GE228.out | refine below_set ?_ GE237.out) | exact HB.out)))); have HO250 := aM (Kd.R_lower (Kd.R_new' (Kd.R_new' ho3 (Kd.R_lt (by (with_reducible repeat (first | apply Kd.R_alloc | apply Kd.R_drewN | apply Kd.R_drew)); exact (Kd.R_mono (f3 HO227.out BK237.out (by decide)) (fun _ h_ => h_.1))))) (Kd.R_lt (by (with_reducible repeat (first | apply Kd.R_alloc | apply Kd.R_drewN | apply Kd.R_drew)); exact (Kd.R_mono (f3 HO234.out BK237.out (by decide)) (fun _ h_ => h_.1))))) (below_size (by repeat (first | (with_reducible first | exact HB.out | apply bA | apply bN | apply bD | refine below_set ?_ GE228.out | refine below_set ?_ GE237.out) | exact HB.out)))); replace HO227 := aM (Kd.R_mono (Kd.R_told (Kd.R_told (Kd.R_told (Kd.R_old (by (with_reducible repeat (first | apply Kd.R_alloc | apply Kd.R_drewN | apply Kd.R_drew)); exact (Kd.R_mono (f3 HO227.out BK237.out (by decide)) (fun _ h_ => h_.1))) hb) (Kd.R_base ho1)) (Kd.R_base ho2)) (Kd.R_base ho3)) (fun _ h_ => h_.1)); replace HO234 := aM (Kd.R_mono (Kd.R_told (Kd.R_told (Kd.R_told (Kd.R_old (by (with_reducible repeat (first | apply Kd.R_alloc | apply Kd.R_drewN | apply Kd.R_drew)); exact (Kd.R_mono (f3 HO234.out BK237.out (by decide)) (fun _ h_ => h_.1))) hb) (Kd.R_base ho1)) (Kd.R_base ho2)) (Kd.R_base ho3)) (fun _ h_ => h_.1)); replace BK228 := aM (blk_below (g := gb228) (o := .cells #[.slice Ao24 y222.length co24, .slice Ao23 y225.length co23, .int .i64 5] 28 (0, 0)) (by (with_reducible repeat (first | refine kN ?_ _ | refine kD ?_ | refine kA ?_ _)); refine blk_far ?_ NB228_237.out _; (with_reducible repeat (first | refine kN ?_ _ | refine kD ?_ | refine kA ?_ _)); refine blk_far ?_ NB228_237.out _; (with_reducible repeat (first | refine kN ?_ _ | refine kD ?_ | refine kA ?_ _)); refine blk_far ?_ NB228_237.out _; (with_reducible repeat (first | refine kN ?_ _ | refine kD ?_ | refine kA ?_ _)); exact BK228.out) hb); replace BK237 := aM (blk_below (g := gb237) (o := .cells #[.slice Ao29 t229.length co29, .slice Ao32 t232.length co32, .int .i64 t235] 28 (0, 0)) (by (with_reducible repeat (first | refine kN ?_ _ | refine kD ?_ | refine kA ?_ _)); refine blk_put (cs := #[.slice Ao29 t229.length co29, .slice Ao32 t232.length co32, .int .i64 0]) ?_ 2 _ rfl; (with_reducible repeat (first | refine kN ?_ _ | refine kD ?_ | refine kA ?_ _)); refine blk_put (cs := #[.slice Ao29 t229.length co29, .slice none 0 0, .int .i64 0]) ?_ 1 _ rfl; (with_reducible repeat (first | refine kN ?_ _ | refine kD ?_ | refine kA ?_ _)); refine blk_put (cs := #[.slice none 0 0, .slice none 0 0, .int .i64 0]) ?_ 0 _ rfl; (with_reducible repeat (first | refine kN ?_ _ | refine kD ?_ | refine kA ?_ _)); exact BK237.out) hb); replace HB := aM (below_step (by repeat (first | (with_reducible first | exact HB.out | apply bA | apply bN | apply bD | refine below_set ?_ GE228.out | refine below_set ?_ GE237.out) | exact HB.out)) hb); (try clear hb); (try clear hb2); (try clear hge); (try clear hk); (try clear hi); (try clear ho0); (try clear ho1); (try clear ho2); (try clear ho3)) | ((with_reducible refine gate_dst (N := 4) rfl ?_); (try (refine gate_guard (by rfl) ?_; dsimp only)); refine box_event ?hg (N := 4) ?hd (cs := #[.slice none 0 0, .slice none 0 0, .int .i64 0]) (t := 28) ?hr ?_; (case hd => rfl); (case hg => rfl); (case hr => first | (go_simp; done) | (go_simp; rfl)); intro gb252 hg w34 hbox hb; replace HO224 := aM (Kd.R_below (R_mv HO224.out) hb); replace HO227 := aM (Kd.R_below (R_mv HO227.out) hb); replace HO231 := aM (Kd.R_below (R_mv HO231.out) hb); replace HO234 := aM (Kd.R_below (R_mv HO234.out) hb); replace HO240 := aM (Kd.R_below (R_mv HO240.out) hb); replace HO243 := aM (Kd.R_below (R_mv HO243.out) hb); replace HO247 := aM (Kd.R_below (R_mv HO247.out) hb); replace HO250 := aM (Kd.R_below (R_mv HO250.out) hb); have BK252 := aM (hbox); have GW252 := aM ((by rw [hg]; exact (below_size (by repeat (first | (with_reducible first | exact HB.out | apply bA | apply bN | apply bD | refine below_set ?_ GE228.out | refine below_set ?_ GE237.out) | exact HB.out))) : w.heap.size ≤ gb252)); have GE252 := aM ((by rw [hg]; exact (below_size (by repeat (first | (with_reducible first | exact HB.out | apply bA | apply bN | apply bD | refine below_set ?_ GE228.out | refine below_set ?_ GE237.out) | exact HB.out))) : w.heap.size ≤ gb252)); replace HB := aM (below_step (by repeat (first | (with_reducible first | exact HB.out | apply bA | apply bN | apply bD | refine below_set ?_ GE228.out | refine below_set ?_ GE237.out) | exact HB.out)) hb); have NB228_252 := aM ((by rw [hg]; exact Nat.ne_of_lt (blk_lt (blk_mv BK228.out)) : gb228 ≠ gb252)); have NB252_228 := aM ((by rw [hg]; exact Nat.ne_of_gt (blk_lt (blk_mv BK228.out)) : gb252 ≠ gb228)); replace BK228 := aM (blk_below (blk_mv BK228.out) hb); have NB237_252 := aM ((by rw [hg]; exact Nat.ne_of_lt (blk_lt (blk_mv BK237.out)) : gb237 ≠ gb252)); have NB252_237 := aM ((by rw [hg]; exact Nat.ne_of_gt (blk_lt (blk_mv BK237.out)) : gb252 ≠ gb237)); replace BK237 := aM (blk_below (blk_mv BK237.out) hb); clear hb hbox hg; obtain ⟨Ao35, co35, eo35⟩ := Kd.R_slice HO240.out; subst eo35; have hnb36 := NB252_228.out; have hnc36 := NB228_252.out; have hnb37 := NB252_237.out; have hnc37 := NB237_252.out; obtain ⟨hcz38_0, hcz38_1, hcz38_2, hfz38_0, hfz38_1, hfz38_2⟩ := blk3 BK252.out; obtain ⟨Ao39, co39, eo39⟩ := Kd.R_slice HO243.out; subst eo39; obtain ⟨hcz40_0, hcz40_1, hcz40_2, hfz40_0, hfz40_1, hfz40_2⟩ := blk3 BK228.out) | ((with_reducible refine gate_callee (f := 23) rfl ?_); refine goesL_ (some 26) rfl rfl Try.func23 (by kernel_rfl) rfl #[.agg #[.slice Ao24 y222.length co24, .slice Ao23 y225.length co23, .int .i64 5]] rfl (by first | rfl | (simp only [List.map_toArray, List.map_cons, List.map_nil, List.length_drop, List.length_take]; try rfl)) ?_; (with_reducible refine (feeder_Check.calls k _ _ y222 _ _ y225 5 t253 _ ?side1 ?side2 ?side3 ?side4 A3.out).mono ?_); (case side1 => refine (Kd.R_reads' (e := 32) (base := w.heap.size) (ok := fun k_ => ((True ∧ some k_ ≠ (.slice Ao29 t229.length co29 : Value).ownBlock) ∧ some k_ ≠ (.slice Ao35 t238.length co35 : Value).ownBlock)) (n := y222.length) (c := co24) ?_).2.2; exact (by (with_reducible repeat (first | apply Kd.R_alloc | apply Kd.R_drewN | apply Kd.R_drew)); exact (Kd.R_mono (f3 HO224.out BK252.out (by decide)) (fun _ h_ => h_.1)))); (case side2 => exact (Kd.R_reads' HO224.out).2.1); (case side3 => refine (Kd.R_reads' (e := 3) (base := w.heap.size) (ok := fun k_ => ((((True ∧ some k_ ≠ (.slice Ao32 t232.length co32 : Value).ownBlock) ∧ some k_ ≠ (.slice Ao39 t241.length co39 : Value).ownBlock) ∧ some k_ ≠ (v246 : Value).ownBlock) ∧ some k_ ≠ (v249 : Value).ownBlock)) (n := y225.length) (c := co23) ?_).2.2; exact (by (with_reducible repeat (first | apply Kd.R_alloc | apply Kd.R_drewN | apply Kd.R_drew)); exact (Kd.R_mono (f3 HO227.out BK252.out (by decide)) (fun _ h_ => h_.1)))); (case side4 => exact (Kd.R_reads' HO227.out).2.1); rintro e w41 ⟨rfl, hb⟩; refine ⟨_, rfl, ?_⟩; replace HO224 := aM (Kd.R_below (by (with_reducible repeat (first | apply Kd.R_alloc | apply Kd.R_drewN | apply Kd.R_drew)); exact (Kd.R_mono (f3 HO224.out BK252.out (by decide)) (fun _ h_ => h_.1))) hb); replace HO227 := aM (Kd.R_below (by (with_reducible repeat (first | apply Kd.R_alloc | apply Kd.R_drewN | apply Kd.R_drew)); exact (Kd.R_mono (f3 HO227.out BK252.out (by decide)) (fun _ h_ => h_.1))) hb); replace HO231 := aM (Kd.R_below (by (with_reducible repeat (first | apply Kd.R_alloc | apply Kd.R_drewN | apply Kd.R_drew)); exact (Kd.R_mono (f3 HO231.out BK252.out (by decide)) (fun _ h_ => h_.1))) hb); replace HO234 := aM (Kd.R_below (by (with_reducible repeat (first | apply Kd.R_alloc | apply Kd.R_drewN | apply Kd.R_drew)); exact (Kd.R_mono (f3 HO234.out BK252.out (by decide)) (fun _ h_ => h_.1))) hb); replace HO240 := aM (Kd.R_below (by (with_reducible repeat (first | apply Kd.R_alloc | apply Kd.R_drewN | apply Kd.R_drew)); exact (Kd.R_mono (f3 HO240.out BK252.out (by decide)) (fun _ h_ => h_.1))) hb); replace HO243 := aM (Kd.R_below (by (with_reducible repeat (first | apply Kd.R_alloc | apply Kd.R_drewN | apply Kd.R_drew)); exact (Kd.R_mono (f3 HO243.out BK252.out (by decide)) (fun _ h_ => h_.1))) hb); replace HO247 := aM (Kd.R_below (by (with_reducible repeat (first | apply Kd.R_alloc | apply Kd.R_drewN | apply Kd.R_drew)); exact (Kd.R_mono (f3 HO247.out BK252.out (by decide)) (fun _ h_ => h_.1))) hb); replace HO250 := aM (Kd.R_below (by (with_reducible repeat (first | apply Kd.R_alloc | apply Kd.R_drewN | apply Kd.R_drew)); exact (Kd.R_mono (f3 HO250.out BK252.out (by decide)) (fun _ h_ => h_.1))) hb); replace BK228 := aM (blk_below (g := gb228) (o := .cells #[.slice Ao24 y222.length co24, .slice Ao23 y225.length co23, .int .i64 5] 28 (0, 0)) (by (with_reducible repeat (first | refine kN ?_ _ | refine kD ?_ | refine kA ?_ _)); refine blk_far ?_ NB228_252.out _; (with_reducible repeat (first | refine kN ?_ _ | refine kD ?_ | refine kA ?_ _)); refine blk_far ?_ NB228_252.out _; (with_reducible repeat (first | refine kN ?_ _ | refine kD ?_ | refine kA ?_ _)); refine blk_far ?_ NB228_252.out _; (with_reducible repeat (first | refine kN ?_ _ | refine kD ?_ | refine kA ?_ _)); exact BK228.out) hb); replace BK237 := aM (blk_below (g := gb237) (o := .cells #[.slice Ao29 t229.length co29, .slice Ao32 t232.length co32, .int .i64 t235] 28 (0, 0)) (by (with_reducible repeat (first | refine kN ?_ _ | refine kD ?_ | refine kA ?_ _)); refine blk_far ?_ NB237_252.out _; (with_reducible repeat (first | refine kN ?_ _ | refine kD ?_ | refine kA ?_ _)); refine blk_far ?_ NB237_252.out _; (with_reducible repeat (first | refine kN ?_ _ | refine kD ?_ | refine kA ?_ _)); refine blk_far ?_ NB237_252.out _; (with_reducible repeat (first | refine kN ?_ _ | refine kD ?_ | refine kA ?_ _)); exact BK237.out) hb); replace BK252 := aM (blk_below (g := gb252) (o := .cells #[.slice Ao35 t238.length co35, .slice Ao39 t241.length co39, .int .i64 t244] 28 (0, 0)) (by (with_reducible repeat (first | refine kN ?_ _ | refine kD ?_ | refine kA ?_ _)); refine blk_put (cs := #[.slice Ao35 t238.length co35, .slice Ao39 t241.length co39, .int .i64 0]) ?_ 2 _ rfl; (with_reducible repeat (first | refine kN ?_ _ | refine kD ?_ | refine kA ?_ _)); refine blk_put (cs := #[.slice Ao35 t238.length co35, .slice none 0 0, .int .i64 0]) ?_ 1 _ rfl; (with_reducible repeat (first | refine kN ?_ _ | refine kD ?_ | refine kA ?_ _)); refine blk_put (cs := #[.slice none 0 0, .slice none 0 0, .int .i64 0]) ?_ 0 _ rfl; (with_reducible repeat (first | refine kN ?_ _ | refine kD ?_ | refine kA ?_ _)); exact BK252.out) hb); replace HB := aM (below_step (by repeat (first | (with_reducible first | exact HB.out | apply bA | apply bN | apply bD | refine below_set ?_ GE228.out | refine below_set ?_ GE237.out | refine below_set ?_ GE252.out) | exact HB.out)) hb); (try clear hb); (try clear hb2); (try clear hge); (try clear hk); (try clear hi); obtain ⟨hcz42_0, hcz42_1, hcz42_2, hfz42_0, hfz42_1, hfz42_2⟩ := blk3 BK228.out) | (go_at_call 19; (with_reducible refine (feeder_Live.calls k _ _ y222 _ _ y225 5 0 t254 _ ?side1 ?side2 ?side3 ?side4 A5.out).mono ?_); (case side1 => exact C_mv (Kd.R_reads' HO224.out).2.2); (case side2 => exact (Kd.R_reads' HO224.out).2.1); (case side3 => exact C_mv (Kd.R_reads' HO227.out).2.2); (case side4 => exact (Kd.R_reads' HO227.out).2.1); rintro e w43 ⟨rfl, hb⟩; replace HO224 := aM (Kd.R_below (R_mv HO224.out) hb); replace HO227 := aM (Kd.R_below (R_mv HO227.out) hb); replace HO231 := aM (Kd.R_below (R_mv HO231.out) hb); replace HO234 := aM (Kd.R_below (R_mv HO234.out) hb); replace HO240 := aM (Kd.R_below (R_mv HO240.out) hb); replace HO243 := aM (Kd.R_below (R_mv HO243.out) hb); replace HO247 := aM (Kd.R_below (R_mv HO247.out) hb); replace HO250 := aM (Kd.R_below (R_mv HO250.out) hb); replace BK228 := aM (blk_below (blk_mv BK228.out) hb); replace BK237 := aM (blk_below (blk_mv BK237.out) hb); replace BK252 := aM (blk_below (blk_mv BK252.out) hb); replace HB := aM (below_step (by repeat (first | (with_reducible first | exact HB.out | apply bA | apply bN | apply bD | refine below_set ?_ GE228.out | refine below_set ?_ GE237.out | refine below_set ?_ GE252.out) | exact HB.out)) hb); (try clear hb); (try clear hb2); (try clear hge); (try clear hk); (try clear hi); obtain ⟨hcz44_0, hcz44_1, hcz44_2, hfz44_0, hfz44_1, hfz44_2⟩ := blk3 BK237.out) | (go_at_call 19; (with_reducible refine (feeder_Live.calls k _ _ t229 _ _ t232 t235 0 t255 _ ?side1 ?side2 ?side3 ?side4 A8.out).mono ?_); (case side1 => exact C_mv (Kd.R_reads' HO231.out).2.2); (case side2 => exact (Kd.R_reads' HO231.out).2.1); (case side3 => exact C_mv (Kd.R_reads' HO234.out).2.2); (case side4 => exact (Kd.R_reads' HO234.out).2.1); rintro e w45 ⟨rfl, hb⟩; replace HO224 := aM (Kd.R_below (R_mv HO224.out) hb); replace HO227 := aM (Kd.R_below (R_mv HO227.out) hb); replace HO231 := aM (Kd.R_below (R_mv HO231.out) hb); replace HO234 := aM (Kd.R_below (R_mv HO234.out) hb); replace HO240 := aM (Kd.R_below (R_mv HO240.out) hb); replace HO243 := aM (Kd.R_below (R_mv HO243.out) hb); replace HO247 := aM (Kd.R_below (R_mv HO247.out) hb); replace HO250 := aM (Kd.R_below (R_mv HO250.out) hb); replace BK228 := aM (blk_below (blk_mv BK228.out) hb); replace BK237 := aM (blk_below (blk_mv BK237.out) hb); replace BK252 := aM (blk_below (blk_mv BK252.out) hb); replace HB := aM (below_step (by repeat (first | (with_reducible first | exact HB.out | apply bA | apply bN | apply bD | refine below_set ?_ GE228.out | refine below_set ?_ GE237.out | refine below_set ?_ GE252.out) | exact HB.out)) hb); (try clear hb); (try clear hb2); (try clear hge); (try clear hk); (try clear hi); obtain ⟨hcz46_0, hcz46_1, hcz46_2, hfz46_0, hfz46_1, hfz46_2⟩ := blk3 BK237.out) | (go_at_call 15; (with_reducible refine (feeder_Due.calls k _ _ t229 _ _ t232 t235 t256 _ ?side1 ?side2 ?side3 ?side4 A10.out).mono ?_); (case side1 => exact C_mv (Kd.R_reads' HO231.out).2.2); (case side2 => exact (Kd.R_reads' HO231.out).2.1); (case side3 => exact C_mv (Kd.R_reads' HO234.out).2.2); (case side4 => exact (Kd.R_reads' HO234.out).2.1); rintro e w47 ⟨rfl, hb⟩; replace HO224 := aM (Kd.R_below (R_mv HO224.out) hb); replace HO227 := aM (Kd.R_below (R_mv HO227.out) hb); replace HO231 := aM (Kd.R_below (R_mv HO231.out) hb); replace HO234 := aM (Kd.R_below (R_mv HO234.out) hb); replace HO240 := aM (Kd.R_below (R_mv HO240.out) hb); replace HO243 := aM (Kd.R_below (R_mv HO243.out) hb); replace HO247 := aM (Kd.R_below (R_mv HO247.out) hb); replace HO250 := aM (Kd.R_below (R_mv HO250.out) hb); replace BK228 := aM (blk_below (blk_mv BK228.out) hb); replace BK237 := aM (blk_below (blk_mv BK237.out) hb); replace BK252 := aM (blk_below (blk_mv BK252.out) hb); replace HB := aM (below_step (by repeat (first | (with_reducible first | exact HB.out | apply bA | apply bN | apply bD | refine below_set ?_ GE228.out | refine below_set ?_ GE237.out | refine below_set ?_ GE252.out) | exact HB.out)) hb); (try clear hb); (try clear hb2); (try clear hge); (try clear hk); (try clear hi)) | ((with_reducible refine gate_dst (N := 53) rfl ?_); (try (refine gate_guard (by rfl) ?_; dsimp only)); refine Kd.R_lit (Kd.int .i64) _ 3 ?hg (N := 53) ?hd (xs := ([1] : List Int)) (inner := [.int .i64 1]) (ok := fun _ => True) (okp := fun _ => True) ?hr ?hp (fun _ hk => hk) trivial (Below.refl _ _) (Nat.le_refl _) (by simp) ?_; (case hd => rfl); (case hg => rfl); (case hr => first | (go_simp; done) | (go_simp; rfl)); (case hp => exact (Reps.one (show Kd.M (Kd.int .i64) _ _ _ 1 [.int .i64 1] from rfl) (Reps.none _ _))); intro v258 w48 ho49 hb hg_ hnew_; clear hg_ hnew_; (first | rw [← Ny257.out] at ho49 | (simp only [Int.reduceToNat] at ho49; rw [← Ny257.out] at ho49)); replace HO224 := aM (Kd.R_below (R_mv HO224.out) hb); replace HO231 := aM (Kd.R_below (R_mv HO231.out) hb); replace HO240 := aM (Kd.R_below (R_mv HO240.out) hb); have HO259 := aM (Kd.R_lower (Kd.R_new' (Kd.R_new' (Kd.R_new' (Kd.R_new' (Kd.R_new' ho49 (Kd.R_lt (R_mv HO227.out))) (Kd.R_lt (R_mv HO234.out))) (Kd.R_lt (R_mv HO243.out))) (Kd.R_lt (R_mv HO247.out))) (Kd.R_lt (R_mv HO250.out))) (below_size (by repeat (first | (with_reducible first | exact HB.out | apply bA | apply bN | apply bD | refine below_set ?_ GE228.out | refine below_set ?_ GE237.out | refine below_set ?_ GE252.out) | exact HB.out)))); replace HO227 := aM (Kd.R_elder' (R_mv HO227.out) (Kd.R_base ho49) hb); replace HO234 := aM (Kd.R_elder' (R_mv HO234.out) (Kd.R_base ho49) hb); replace HO243 := aM (Kd.R_elder' (R_mv HO243.out) (Kd.R_base ho49) hb); replace HO247 := aM (Kd.R_elder' (R_mv HO247.out) (Kd.R_base ho49) hb); replace HO250 := aM (Kd.R_elder' (R_mv HO250.out) (Kd.R_base ho49) hb); replace BK228 := aM (blk_below (blk_mv BK228.out) hb); replace BK237 := aM (blk_below (blk_mv BK237.out) hb); replace BK252 := aM (blk_below (blk_mv BK252.out) hb); replace HB := aM (below_step (by repeat (first | (with_reducible first | exact HB.out | apply bA | apply bN | apply bD | refine below_set ?_ GE228.out | refine below_set ?_ GE237.out | refine below_set ?_ GE252.out) | exact HB.out)) hb); clear hb ho49; obtain ⟨Ao50, co50, eo50⟩ := Kd.R_slice HO247.out; subst eo50; obtain ⟨Ao51, co51, eo51⟩ := Kd.R_slice HO259.out; subst eo51) | (go_at_call 17; (with_reducible refine (minecontrolref01_Ints.calls k _ _ t245 _ _ y257 true _ ?side1 ?side2 ?side3 ?side4 A13.out).mono ?_); (case side1 => exact C_mv (Kd.R_reads' HO247.out).2.2); (case side2 => exact (Kd.R_reads' HO247.out).2.1); (case side3 => exact C_mv (Kd.R_reads' HO259.out).2.2); (case side4 => exact (Kd.R_reads' HO259.out).2.1); rintro e w' ⟨rfl, ⟨nd, rfl⟩⟩) | ((with_reducible refine gate_dst (N := 58) rfl ?_); (try (refine gate_guard (by rfl) ?_; dsimp only)); refine Kd.R_lit (Kd.int .i64) _ 3 ?hg (N := 58) ?hd (xs := ([0] : List Int)) (inner := [.int .i64 0]) (ok := fun _ => True) (okp := fun _ => True) ?hr ?hp (fun _ hk => hk) trivial (Below.refl _ _) (Nat.le_refl _) (by simp) ?_; (case hd => rfl); (case hg => rfl); (case hr => first | (go_simp; done) | (go_simp; rfl)); (case hp => exact (Reps.one (show Kd.M (Kd.int .i64) _ _ _ 0 [.int .i64 0] from rfl) (Reps.none _ _))); intro v262 w52 ho53 hb hg_ hnew_; clear hg_ hnew_; (first | rw [← Ny261.out] at ho53 | (simp only [Int.reduceToNat] at ho53; rw [← Ny261.out] at ho53)); replace HO224 := aM (Kd.R_below (R_mv HO224.out) hb); replace HO231 := aM (Kd.R_below (R_mv HO231.out) hb); replace HO240 := aM (Kd.R_below (R_mv HO240.out) hb); have HO263 := aM (Kd.R_lower (Kd.R_new' (Kd.R_new' (Kd.R_new' (Kd.R_new' (Kd.R_new' (Kd.R_new' ho53 (Kd.R_lt (R_mv HO227.out))) (Kd.R_lt (R_mv HO234.out))) (Kd.R_lt (R_mv HO243.out))) (Kd.R_lt (R_mv HO247.out))) (Kd.R_lt (R_mv HO250.out))) (Kd.R_lt (R_mv HO259.out))) (below_size (by repeat (first | (with_reducible first | exact HB.out | apply bA | apply bN | apply bD | refine below_set ?_ GE228.out | refine below_set ?_ GE237.out | refine below_set ?_ GE252.out) | exact HB.out)))); replace HO227 := aM (Kd.R_elder' (R_mv HO227.out) (Kd.R_base ho53) hb); replace HO234 := aM (Kd.R_elder' (R_mv HO234.out) (Kd.R_base ho53) hb); replace HO243 := aM (Kd.R_elder' (R_mv HO243.out) (Kd.R_base ho53) hb); replace HO247 := aM (Kd.R_elder' (R_mv HO247.out) (Kd.R_base ho53) hb); replace HO250 := aM (Kd.R_elder' (R_mv HO250.out) (Kd.R_base ho53) hb); replace HO259 := aM (Kd.R_elder' (R_mv HO259.out) (Kd.R_base ho53) hb); replace BK228 := aM (blk_below (blk_mv BK228.out) hb); replace BK237 := aM (blk_below (blk_mv BK237.out) hb); replace BK252 := aM (blk_below (blk_mv BK252.out) hb); replace HB := aM (below_step (by repeat (first | (with_reducible first | exact HB.out | apply bA | apply bN | apply bD | refine below_set ?_ GE228.out | refine below_set ?_ GE237.out | refine below_set ?_ GE252.out) | exact HB.out)) hb); clear hb ho53; obtain ⟨Ao54, co54, eo54⟩ := Kd.R_slice HO250.out; subst eo54; obtain ⟨Ao55, co55, eo55⟩ := Kd.R_slice HO263.out; subst eo55) | (go_at_call 17; (with_reducible refine (minecontrolref01_Ints.calls k _ _ t248 _ _ y261 true _ ?side1 ?side2 ?side3 ?side4 A15.out).mono ?_); (case side1 => exact C_mv (Kd.R_reads' HO250.out).2.2); (case side2 => exact (Kd.R_reads' HO250.out).2.1); (case side3 => exact C_mv (Kd.R_reads' HO263.out).2.2); (case side4 => exact (Kd.R_reads' HO263.out).2.1); rintro e w' ⟨rfl, ⟨nd, rfl⟩⟩; obtain ⟨hcz56_0, hcz56_1, hcz56_2, hfz56_0, hfz56_1, hfz56_2⟩ := blk3 BK252.out; have p265 : 0 ≤ (0 : Int) := (by omega); have q265 : 0 < (t238.length : Int) := of_decide_eq_true (by first | (with_reducible assumption) | assumption); obtain ⟨ad265, e265, hx265_0, hx265_1, hx265_2, hx265_3, hx265_4⟩ := at_T32 (Kd.R_reads' HO240.out).2.2 0 p265 q265; cases e265; have qi265 : (0 < t238.length) = True := eq_true (by omega); (try rw [show ((0 : Int)).toNat = 0 from rfl] at hx265_0); (try rw [show 0 * 5 = 0 from rfl] at hx265_0); (try rw [Addr.add_zero'] at hx265_0); (try rw [show ((0 : Int)).toNat = 0 from rfl] at hx265_1); (try rw [show 0 * 5 = 0 from rfl] at hx265_1); (try rw [Addr.add_zero'] at hx265_1); (try rw [show ((0 : Int)).toNat = 0 from rfl] at hx265_2); (try rw [show 0 * 5 = 0 from rfl] at hx265_2); (try rw [Addr.add_zero'] at hx265_2); (try rw [show ((0 : Int)).toNat = 0 from rfl] at hx265_3); (try rw [show 0 * 5 = 0 from rfl] at hx265_3); (try rw [Addr.add_zero'] at hx265_3); (try rw [show ((0 : Int)).toNat = 0 from rfl] at hx265_4); (try rw [show 0 * 5 = 0 from rfl] at hx265_4); (try rw [Addr.add_zero'] at hx265_4); replace p265 := eq_true p265; replace q265 := eq_true q265))
                    go_ret
                    exact ⟨by first | rfl | (simp [errW_none, errW_some] <;> rfl) | (simp [*, errW_none, errW_some] <;> rfl), by repeat (first | (with_reducible first | exact HB.out | apply bA | apply bN | apply bD | refine below_set ?_ GE228.out | refine below_set ?_ GE237.out | refine below_set ?_ GE252.out) | exact HB.out)⟩
                  · rw [if_neg c17] at H
                    have c17b0 : ((t238.length : Int) == 2) = false := beq_eq_false_iff_ne.mpr c17
                    have c17b1 : ((t238.length : Int) != 2) = true := bne_iff_ne.mpr c17
                    obtain rfl := Option.some.inj H
                    exact absurd hr_.out (by decide)
                · replace c16 := Bool.eq_false_iff.mpr c16
                  subst c16
                  have H1 : (some false) = some r := by rw [if_neg (show ¬ (false = true) by decide)] at H; exact H
                  clear H
                  have H := H1
                  clear H1
                  obtain rfl := Option.some.inj H
                  exact absurd hr_.out (by decide)
              · replace c14 := Bool.eq_false_iff.mpr c14
                subst c14
                have H1 : (some false) = some r := by rw [if_neg (show ¬ (false = true) by decide)] at H; exact H
                clear H
                have H := H1
                clear H1
                obtain rfl := Option.some.inj H
                exact absurd hr_.out (by decide)
            · rw [if_neg c12] at H
              have c12b0 : (t251 == 0) = false := beq_eq_false_iff_ne.mpr c12
              have c12b1 : (t251 != 0) = true := bne_iff_ne.mpr c12
              obtain rfl := Option.some.inj H
              exact absurd hr_.out (by decide)
          · rw [if_neg c11] at H
            have c11b0 : (t256 == 15) = false := beq_eq_false_iff_ne.mpr c11
            have c11b1 : (t256 != 15) = true := bne_iff_ne.mpr c11
            obtain rfl := Option.some.inj H
            exact absurd hr_.out (by decide)
        · rw [if_neg c9] at H
          have c9b0 : (t255 == 0) = false := beq_eq_false_iff_ne.mpr c9
          have c9b1 : (t255 != 0) = true := bne_iff_ne.mpr c9
          obtain rfl := Option.some.inj H
          exact absurd hr_.out (by decide)
      · rw [if_neg c7] at H
        have c7b0 : (t236 == 0) = false := beq_eq_false_iff_ne.mpr c7
        have c7b1 : (t236 != 0) = true := bne_iff_ne.mpr c7
        obtain rfl := Option.some.inj H
        exact absurd hr_.out (by decide)
    · rw [if_neg c6] at H
      have c6b0 : (t254 == 1) = false := beq_eq_false_iff_ne.mpr c6
      have c6b1 : (t254 != 1) = true := bne_iff_ne.mpr c6
      obtain rfl := Option.some.inj H
      exact absurd hr_.out (by decide)
  · rw [if_neg c4] at H
    have c4b0 : (t253 == 0) = false := beq_eq_false_iff_ne.mpr c4
    have c4b1 : (t253 != 0) = true := bne_iff_ne.mpr c4
    obtain rfl := Option.some.inj H
    exact absurd hr_.out (by decide)

set_option maxRecDepth 100000 in
theorem minecontrollaw18_awake.only : ∀ k r, minecontrollaw18_awake.f k = some r → r = true := by
  intro k r h
  have h1 : minecontrollaw18_awake.f 60 = some true := by decide +kernel
  have h2 := more_rounds minecontrollaw18_awake.mono k 60 r h
  have h3 := more_rounds minecontrollaw18_awake.mono 60 k true h1
  rw [Nat.add_comm] at h3
  rw [h3] at h2
  exact (Option.some.inj h2).symm
theorem minecontrollaw18_awake.calls (k : Nat) (r : Bool) (w : World) (h : minecontrollaw18_awake.f k  = some r) :
    Calls Try.prog 20 #[] w fun e w' => e = .returned (.bool r) ∧ Below w.heap.size w w' := minecontrollaw18_awake.calls1 k r w (.mk (minecontrollaw18_awake.only k r h)) h

end Go.Proofs.Ytcgeflbifbaecaa.PFeh
