/- The plain law of DoorOpens. -/
import Derived.Test.YtmlkchkhgjebgaaPDoox11
import Derived.Test.YtmlkchkhgjebgaaComA
import Derived.Test.YtmlkchkhgjebgaaComC
namespace Go.Proofs.Ytmlkchkhgjebgaa.Pure
open Go.RowKit Go.Proofs.Ytmlkchkhgjebgaa.PDoo Go.Proofs.Ytmlkchkhgjebgaa.Com Go.Proofs.YtmlkchkhgjebgaaW.PrintWords Go.Proofs.YtmlkchkhgjebgaaW.PrintLast Go.Proofs.YtmlkchkhgjebgaaW.PrintMore
set_option linter.unusedVariables false

theorem r_open_l0 {l : List S36} {st : List Int} (hc : chk l = 0) (hs : st.length = l.length) : ∀ (d i : Nat) (acc : List Int), i + d = l.length → acc.length ≤ i →
    Ev (fun k => minecontrolref08_Open.l0 k l st acc (i : Int)) (op l st d i acc) := by
  have hl := (chk_zero hc).1
  intro d
  induction d with
  | zero =>
    intro i acc hi ha
    refine Ev.step (f := fun _ => some acc) (fun k => ?_) (Ev.now _)
    simp only [minecontrolref08_Open.l0]
    rw [if_neg (by omega)]
  | succ d ih =>
    intro i acc hi ha
    have w1 : wrap64 ((i : Int) + 1) = ((i + 1 : Nat) : Int) := by rw [w64' (by omega) (by omega)]; rfl
    simp only [op]
    by_cases h1 : (rd_T36 l i).f1 ≥ 0
    · have ho := other_lt hc (i := (i : Int)) (by omega) (by omega) h1
      by_cases h2 : rd st i = 0
      · refine Ev.step (fun k => ?_) (ih (i + 1) _ (by omega) (by rw [if_pos h1, if_pos h2]; omega))
        simp only [minecontrolref08_Open.l0]
        rw [if_pos (by omega), if_pos (by omega), if_pos h1, if_pos (by omega), if_pos h2, w1, if_pos h1, if_pos h2]
      · by_cases h3 : rd st (rd_T36 l i).f1 = 0
        · refine Ev.step (fun k => ?_) (ih (i + 1) _ (by omega) (by rw [if_pos h1, if_neg h2, if_pos h3]; omega))
          simp only [minecontrolref08_Open.l0]
          rw [if_pos (by omega), if_pos (by omega), if_pos h1, if_pos (by omega), if_neg h2, if_pos (by omega), if_pos (by omega), if_pos h3, w1, if_pos h1, if_neg h2, if_pos h3]
        · refine Ev.step (fun k => ?_) (ih (i + 1) _ (by omega) (by rw [if_pos h1, if_neg h2, if_neg h3]; simp; omega))
          simp only [minecontrolref08_Open.l0]
          rw [if_pos (by omega), if_pos (by omega), if_pos h1, if_pos (by omega), if_neg h2, if_pos (by omega), if_pos (by omega), if_neg h3, if_pos (by omega), w1, if_pos h1, if_neg h2, if_neg h3]
    · refine Ev.step (fun k => ?_) (ih (i + 1) _ (by omega) (by rw [if_neg h1]; omega))
      simp only [minecontrolref08_Open.l0]
      rw [if_pos (by omega), if_pos (by omega), if_neg h1, w1, if_neg h1]
theorem r_open (l : List S36) (st : List Int) : Ev (fun k => minecontrolref08_Open.f k l st) (opens l st) := by
  unfold minecontrolref08_Open.f
  refine Ev.bind (rcheck l) ?_
  unfold opens
  by_cases hc : chk l = 0
  · simp only [if_pos hc]
    by_cases hs : st.length = l.length
    · rw [if_pos hs]
      refine Ev.step (fun k => ?_) (r_open_l0 hc hs l.length 0 [] (by omega) (by simp))
      simp only [minecontrolref08_Open.j0]
      rw [if_neg (by simp; omega)]; rfl
    · rw [if_neg hs]
      refine Ev.step (f := fun _ => some []) (fun k => ?_) (Ev.now _)
      simp only [minecontrolref08_Open.j0]
      rw [if_pos (by simp; omega)]
  · simp only [if_neg hc]
    exact Ev.step (f := fun _ => some []) (fun k => by simp only [minecontrolref08_Open.j0, if_true]) (Ev.now _)
theorem opens_len (l : List S36) (st : List Int) : (opens l st).length ≤ 1000000 := by
  unfold opens
  split
  · have := (chk_zero ‹_›).1
    split
    · have := op_len (l := l) (st := st) l.length 0 []
      simp at this; omega
    · simp
  · simp

theorem DoorOpens : minecontrollaw08_DoorOpens.Pure := by
  intro l0 l1 a2 a3 _ _ hb _ _ _ _ _
  obtain ⟨ds, ss, e0, -, -, -⟩ := doors_ev hb a2 a3
  refine Ev.rounds (g := fun k => minecontrollaw08_DoorOpens.f k l0 l1 a2 a3) ?_
  unfold minecontrollaw08_DoorOpens.f
  refine Ev.bind e0 ?_
  dsimp only
  refine Ev.bind (p_open ds ss) (Ev.bind (r_open ds ss) (Ev.bind (ints_ev (opens_len ds ss)) ?_))
  simp only [if_true]
  refine Ev.bind (p_open ds l1) (Ev.bind (r_open ds l1) (Ev.bind (ints_ev (opens_len ds l1)) ?_))
  simp only [if_true]
  exact Ev.bind awake_ev (Ev.now _)

end Go.Proofs.Ytmlkchkhgjebgaa.Pure
