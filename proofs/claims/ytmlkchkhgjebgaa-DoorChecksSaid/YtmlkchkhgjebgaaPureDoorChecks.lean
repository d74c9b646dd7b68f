/- The plain law of DoorChecks. -/
import Derived.Test.YtmlkchkhgjebgaaPDoox10
import Derived.Test.YtmlkchkhgjebgaaComA
import Derived.Test.YtmlkchkhgjebgaaComC
import Derived.Test.YtmlkchkhgjebgaaComD
namespace Go.Proofs.Ytmlkchkhgjebgaa.Pure
open Go.RowKit Go.Proofs.Ytmlkchkhgjebgaa.PDoo Go.Proofs.Ytmlkchkhgjebgaa.Com Go.Proofs.YtmlkchkhgjebgaaW.PrintWords Go.Proofs.YtmlkchkhgjebgaaW.PrintLast Go.Proofs.YtmlkchkhgjebgaaW.PrintMore
set_option linter.unusedVariables false

theorem checks_l1 {x4 : Int} {l : List S36} {x30 : List (List S36)} {x31 x32 : Int} (hl : l.length ≤ 1000) (hr : ∀ x ∈ l, x.f2.length ≤ maxLen)
    (h : Ev (fun k => minecontrollaw08_DoorChecks.l0 k x4 x30 x31 (wrap64 (x32 + 1))) true) : ∀ (d i : Nat), i + d = l.length → Ev (fun k => minecontrollaw08_DoorChecks.l1 k x4 l (i : Int) x30 x31 x32) true := by
  obtain ⟨q, hq, -, -⟩ := mod_in x4 9 (by omega) (by omega)
  intro d
  induction d with
  | zero =>
    intro i hi
    exact Ev.step (fun k => by simp only [minecontrollaw08_DoorChecks.l1]; rw [if_neg (by omega)]) h
  | succ d ih =>
    intro i hi
    have w1 : wrap64 ((i : Int) + 1) = ((i + 1 : Nat) : Int) := by rw [w64' (by omega) (by omega)]; rfl
    have hm := hr _ (rd_T36_mem (l := l) (i := (i : Int)) (by omega) (by omega))
    refine Ev.step (fun k => by simp only [minecontrollaw08_DoorChecks.l1]; rw [if_pos (by omega), hq, Option.bind_some, if_pos (by omega), w1]) ?_
    refine Ev.bind (p_rest hm _ _ _) (Ev.bind (r_rest hm _ _ _) ?_)
    simp only [beq_self_eq_true, Bool.not_true, Bool.or_self, Bool.false_eq_true, if_false]
    refine Ev.bind (p_rest hm _ _ _) (Ev.bind (r_rest hm _ _ _) ?_)
    simp only [beq_self_eq_true, Bool.not_true, Bool.or_self, Bool.false_eq_true, if_false]
    exact ih (i + 1) (by omega)
theorem checks_round {x4 : Int} {x30 : List (List S36)} {n i : Int} (h0 : 0 ≤ i) (h1 : i < x30.length) (h2 : i < n) (hl : (rd_L4 x30 i).length ≤ 1000) (hr : ∀ x ∈ rd_L4 x30 i, x.f2.length ≤ maxLen)
    (h : Ev (fun k => minecontrollaw08_DoorChecks.l0 k x4 x30 n (wrap64 (i + 1))) true) : Ev (fun k => minecontrollaw08_DoorChecks.l0 k x4 x30 n i) true := by
  refine Ev.step (fun k => by simp only [minecontrollaw08_DoorChecks.l0]; rw [if_pos h2, if_pos h0, if_pos h1]) ?_
  refine Ev.bind (pcheck _) (Ev.bind (rcheck _) ?_)
  simp only [if_true]
  exact checks_l1 hl hr h (rd_L4 x30 i).length 0 (by omega)
theorem DoorChecks : minecontrollaw08_DoorChecks.Pure := by
  intro l0 l1 a2 a3 a4 _ _ hb hq _ _ _
  obtain ⟨ds, ss, e0, hD, hl, -⟩ := doors_ev hb a2 a3
  refine Ev.rounds (g := fun k => minecontrollaw08_DoorChecks.f k l0 l1 a2 a3 a4) ?_
  unfold minecontrollaw08_DoorChecks.f
  by_cases h30 : (l1.length : Int) > 30
  · simp only [if_pos h30]
    exact Ev.bind awake_ev (Ev.now _)
  simp only [if_neg h30]
  refine Ev.bind e0 ?_
  dsimp only
  simp only [Option.bind_some]
  refine checks_round (by omega) (by simp) (by simp) (by show ds.length ≤ 1000; omega) (by show ∀ x ∈ ds, x.f2.length ≤ maxLen; exact fun x hx => by have := hD x hx; unfold maxLen; omega) ?_
  rw [show wrap64 (0 + 1) = 1 from by rw [w64 (by omega) (by omega)]; rfl]
  refine checks_round (by omega) (by simp) (by simp) (by show l1.length ≤ 1000; omega) (by show ∀ x ∈ l1, x.f2.length ≤ maxLen; exact fun x hx => (hq.2 x hx).2.2.1) ?_
  rw [show wrap64 (1 + 1) = 2 from by rw [w64 (by omega) (by omega)]; rfl]
  refine Ev.step (fun k => by simp only [minecontrollaw08_DoorChecks.l0]; rw [if_neg (by simp)]) ?_
  exact Ev.bind awake_ev (Ev.now _)

end Go.Proofs.Ytmlkchkhgjebgaa.Pure
