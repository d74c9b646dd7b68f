/- What a door adds: the program and the reference come to one and the same two numbers. -/
import Derived.Test.YtmlkchkhgjebgaaComB
import Derived.Test.YtmlkchkhgjebgaaPDoox9
import Derived.Test.YtmlkchkhgjebgaaPDoox3
namespace Go.Proofs.Ytmlkchkhgjebgaa.Com
open Go.RowKit Go.Proofs.Ytmlkchkhgjebgaa.PDoo Go.Proofs.YtmlkchkhgjebgaaW.PrintWords Go.Proofs.YtmlkchkhgjebgaaW.PrintLast Go.Proofs.YtmlkchkhgjebgaaW.PrintMore

/-- The least of m and the d numbers from place i on; the greatest. -/
def mnf (r : List Int) : Nat → Nat → Int → Int
  | 0, _, m => m
  | d + 1, i, m => mnf r d (i + 1) (mn m (rd r i))
def mxf (r : List Int) : Nat → Nat → Int → Int
  | 0, _, m => m
  | d + 1, i, m => mxf r d (i + 1) (mx m (rd r i))
theorem mn_le (a b : Int) : mn a b ≤ a ∧ mn a b ≤ b := by unfold mn; split <;> omega
theorem mx_ge (a b : Int) : a ≤ mx a b ∧ b ≤ mx a b := by unfold mx; split <;> omega
theorem mn_same (a : Int) : mn a a = a := by unfold mn; split <;> rfl
theorem mx_same (a : Int) : mx a a = a := by unfold mx; split <;> rfl
theorem mnf_le {r : List Int} : ∀ (d i : Nat) (m : Int), mnf r d i m ≤ m ∧ ∀ j : Nat, i ≤ j → j < i + d → mnf r d i m ≤ rd r j := by
  intro d
  induction d with
  | zero => exact fun i m => ⟨Int.le_refl _, fun j h1 h2 => by omega⟩
  | succ d ih =>
    intro i m
    obtain ⟨a, b⟩ := ih (i + 1) (mn m (rd r i))
    have := mn_le m (rd r i)
    simp only [mnf]
    refine ⟨by omega, fun j h1 h2 => ?_⟩
    by_cases e : j = i
    · subst e; omega
    · exact b j (by omega) (by omega)
theorem mxf_ge {r : List Int} : ∀ (d i : Nat) (m : Int), m ≤ mxf r d i m ∧ ∀ j : Nat, i ≤ j → j < i + d → rd r j ≤ mxf r d i m := by
  intro d
  induction d with
  | zero => exact fun i m => ⟨Int.le_refl _, fun j h1 h2 => by omega⟩
  | succ d ih =>
    intro i m
    obtain ⟨a, b⟩ := ih (i + 1) (mx m (rd r i))
    have := mx_ge m (rd r i)
    simp only [mxf]
    refine ⟨by omega, fun j h1 h2 => ?_⟩
    by_cases e : j = i
    · subst e; omega
    · exact b j (by omega) (by omega)

theorem next_i {r : List Int} (hr : r.length ≤ maxLen) {i : Nat} (h : i < r.length) : wrap64 ((i : Int) + 1) = ((i + 1 : Nat) : Int) := by
  unfold maxLen at hr
  rw [w64' (by omega) (by omega)]; rfl

theorem min_l0 {r : List Int} (hr : r.length ≤ maxLen) : ∀ (d i : Nat) (m : Int), i + d = r.length → Ev (fun k => slices_Min_int_int.l0 k r m (i : Int)) (mnf r d i m) := by
  intro d
  induction d with
  | zero =>
    intro i m hi
    refine Ev.step (f := fun _ => some m) (fun k => ?_) (Ev.now _)
    simp only [slices_Min_int_int.l0]
    rw [if_neg (by omega)]
  | succ d ih =>
    intro i m hi
    refine Ev.step (fun k => ?_) (ih (i + 1) _ (by omega))
    simp only [slices_Min_int_int.l0]
    rw [if_pos (by omega), if_pos (by omega), next_i hr (by omega)]
theorem max_l0 {r : List Int} (hr : r.length ≤ maxLen) : ∀ (d i : Nat) (m : Int), i + d = r.length → Ev (fun k => slices_Max_int_int.l0 k r m (i : Int)) (mxf r d i m) := by
  intro d
  induction d with
  | zero =>
    intro i m hi
    refine Ev.step (f := fun _ => some m) (fun k => ?_) (Ev.now _)
    simp only [slices_Max_int_int.l0]
    rw [if_neg (by omega)]
  | succ d ih =>
    intro i m hi
    refine Ev.step (fun k => ?_) (ih (i + 1) _ (by omega))
    simp only [slices_Max_int_int.l0]
    rw [if_pos (by omega), if_pos (by omega), next_i hr (by omega)]
theorem min_ev {r : List Int} (hr : r.length ≤ maxLen) (h : 1 ≤ r.length) : Ev (fun k => slices_Min_int_int.f k r) (mnf r (r.length - 1) 1 (rd r 0)) := by
  refine Ev.congr (fun k => ?_) (min_l0 hr (r.length - 1) 1 (rd r 0) (by omega))
  unfold slices_Min_int_int.f
  rw [if_neg (by omega), if_pos (by omega)]; rfl
theorem max_ev {r : List Int} (hr : r.length ≤ maxLen) (h : 1 ≤ r.length) : Ev (fun k => slices_Max_int_int.f k r) (mxf r (r.length - 1) 1 (rd r 0)) := by
  refine Ev.congr (fun k => ?_) (max_l0 hr (r.length - 1) 1 (rd r 0) (by omega))
  unfold slices_Max_int_int.f
  rw [if_neg (by omega), if_pos (by omega)]; rfl
theorem both_l0 {r : List Int} (hr : r.length ≤ maxLen) {f0 f1 : Int} : ∀ (d i : Nat) (m n : Int), i + d = r.length → Ev (fun k => minecontrolref08_Rest.l0 k (i : Int) f0 f1 r m n) (mnf r d i m, mxf r d i n) := by
  intro d
  induction d with
  | zero =>
    intro i m n hi
    refine Ev.step (f := fun _ => some (m, n)) (fun k => ?_) (Ev.now _)
    simp only [minecontrolref08_Rest.l0]
    rw [if_neg (by omega)]
  | succ d ih =>
    intro i m n hi
    refine Ev.step (fun k => ?_) (ih (i + 1) _ _ (by omega))
    simp only [minecontrolref08_Rest.l0]
    rw [if_pos (by omega), if_pos (by omega), next_i hr (by omega)]

/-- What a door adds. -/
def rest (r : List Int) (a : Int) : Int × Int :=
  if r.length = 0 ∨ a < -1 ∨ a ≥ r.length then (0, 0) else if a = -1 then (mnf r (r.length - 1) 1 (rd r 0), mxf r (r.length - 1) 1 (rd r 0)) else (rd r a, rd r a)

theorem p_rest {r : List Int} (hr : r.length ≤ maxLen) (f0 f1 a : Int) : Ev (fun k => door_Rest.f k f0 f1 r a) (rest r a) := by
  have J : ∀ b : Bool, b = decide (r.length = 0 ∨ a < -1 ∨ a ≥ r.length) → Ev (fun k => door_Rest.j0 k a b f0 f1 r) (rest r a) := by
    intro b hb
    unfold rest
    by_cases h : r.length = 0 ∨ a < -1 ∨ a ≥ r.length
    · rw [decide_eq_true h] at hb; subst hb; rw [if_pos h]
      exact Ev.step (f := fun _ => some (0, 0)) (fun k => by simp only [door_Rest.j0, if_true]) (Ev.now _)
    · rw [decide_eq_false h] at hb; subst hb; rw [if_neg h]
      by_cases h1 : a = -1
      · rw [if_pos h1]
        refine Ev.step (fun k => ?_) (Ev.bind (f := fun k t => (slices_Max_int_int.f k r).bind fun t' => some (t, t')) (min_ev hr (by omega)) (Ev.bind (f := fun _ t => some (mnf r (r.length - 1) 1 (rd r 0), t)) (max_ev hr (by omega)) (Ev.now _)))
        simp only [door_Rest.j0, Bool.false_eq_true, if_false, if_pos h1]
      · rw [if_neg h1]
        refine Ev.step (f := fun _ => some (rd r a, rd r a)) (fun k => ?_) (Ev.now _)
        simp only [door_Rest.j0, Bool.false_eq_true, if_false, if_neg h1]
        rw [if_pos (by omega), if_pos (by omega)]
  unfold door_Rest.f
  by_cases h1 : r.length = 0
  · simp only [if_pos (show (r.length : Int) = 0 by omega)]
    exact J true (by simp [h1])
  · simp only [if_neg (show ¬ (r.length : Int) = 0 by omega)]
    by_cases h2 : a < -1
    · simp only [if_pos h2]; exact J true (by simp [h2])
    · simp only [if_neg h2]; exact J _ (by apply decide_eq_decide.2; omega)
theorem r_rest {r : List Int} (hr : r.length ≤ maxLen) (f0 f1 a : Int) : Ev (fun k => minecontrolref08_Rest.f k f0 f1 r a) (rest r a) := by
  have J : ∀ b : Bool, b = decide (r.length = 0 ∨ a < -1 ∨ a ≥ r.length) → Ev (fun k => minecontrolref08_Rest.j0 k a b f0 f1 r) (rest r a) := by
    intro b hb
    unfold rest
    by_cases h : r.length = 0 ∨ a < -1 ∨ a ≥ r.length
    · rw [decide_eq_true h] at hb; subst hb; rw [if_pos h]
      exact Ev.step (f := fun _ => some (0, 0)) (fun k => by simp only [minecontrolref08_Rest.j0, if_true]) (Ev.now _)
    · rw [decide_eq_false h] at hb; subst hb; rw [if_neg h]
      by_cases h1 : a = -1
      · rw [if_pos h1]
        have e := both_l0 hr (f0 := f0) (f1 := f1) r.length 0 (rd r 0) (rd r 0) (by omega)
        obtain ⟨n, hn⟩ : ∃ n, r.length = n + 1 := ⟨r.length - 1, by omega⟩
        rw [hn] at e
        simp only [mnf, mxf] at e
        rw [show ((0 : Nat) : Int) = 0 from rfl, mn_same, mx_same] at e
        rw [hn]
        refine Ev.step (fun k => ?_) e
        simp only [minecontrolref08_Rest.j0, Bool.false_eq_true, if_false]
        rw [if_neg (by omega), if_pos (by omega)]
      · rw [if_neg h1]
        refine Ev.step (f := fun _ => some (rd r a, rd r a)) (fun k => ?_) (Ev.now _)
        simp only [minecontrolref08_Rest.j0, Bool.false_eq_true, if_false]
        rw [if_pos (by omega), if_pos (by omega), if_pos (by omega)]
  unfold minecontrolref08_Rest.f
  by_cases h1 : r.length = 0
  · simp only [if_pos (show (r.length : Int) = 0 by omega)]
    exact J true (by simp [h1])
  · simp only [if_neg (show ¬ (r.length : Int) = 0 by omega)]
    by_cases h2 : a < -1
    · simp only [if_pos h2]; exact J true (by simp [h2])
    · simp only [if_neg h2]; exact J _ (by apply decide_eq_decide.2; omega)

end Go.Proofs.Ytmlkchkhgjebgaa.Com
