/- The plain law of FeederChecks. -/
import Derived.Test.YtcgeflbifbaecaaComEk
import Derived.Test.YtcgeflbifbaecaaComFk
import Derived.Test.YtcgeflbifbaecaaPFekx13
import Derived.Test.YtcgeflbifbaecaaPFekx3
namespace Go.Proofs.Ytcgeflbifbaecaa.Pure
open Go.RowKit Go.Proofs.Ytcgeflbifbaecaa.PFek Go.Proofs.Ytcgeflbifbaecaa.Com Go.Proofs.YtcgeflbifbaecaaW.PrintWords Go.Proofs.YtcgeflbifbaecaaW.PrintLast Go.Proofs.YtcgeflbifbaecaaW.PrintMore
set_option linter.unusedVariables false

theorem ints_path (ss : List S32) (zs : List Int) (rp s : Int) : Ev (fun k => minecontrolref01_Ints.f k (path ss zs rp s) (path ss zs rp s)) true := ints_ev (by have := path_len ss zs rp s; omega)
theorem ints_failed (ss : List S32) (zs : List Int) (rp : Int) : Ev (fun k => minecontrolref01_Ints.f k (failed ss zs rp) (failed ss zs rp)) true := ints_ev (by have := failed_len ss zs rp; omega)
theorem checks_round {x4 x11 : Int} {l : List S28} {n i : Int} (h0 : 0 ≤ i) (h1 : i < l.length) (h2 : i < n) (h : Ev (fun k => minecontrollaw18_FeederChecks.l0 k x4 x11 l n (wrap64 (i + 1))) true) : Ev (fun k => minecontrollaw18_FeederChecks.l0 k x4 x11 l n i) true := by
  refine Ev.step (fun k => by simp only [minecontrollaw18_FeederChecks.l0]; rw [if_pos h2, if_pos h0, if_pos h1]) ?_
  refine Ev.bind (pcheck _ _ _) (Ev.bind (rcheck _ _ _) ?_)
  simp only [if_true]
  refine Ev.bind (p_path _ _ _ _) (Ev.bind (r_path _ _ _ _) (Ev.bind (ints_path _ _ _ _) ?_))
  simp only [if_true]
  refine Ev.bind (p_path _ _ _ _) (Ev.bind (r_path _ _ _ _) (Ev.bind (ints_path _ _ _ _) ?_))
  simp only [if_true]
  refine Ev.bind (p_live _ _ _ _) (Ev.bind (r_live _ _ _ _) ?_)
  simp only [if_true]
  refine Ev.bind (p_live _ _ _ _) (Ev.bind (r_live _ _ _ _) ?_)
  simp only [if_true]
  refine Ev.bind (p_due _ _ _) (Ev.bind (r_due _ _ _) ?_)
  simp only [if_true]
  refine Ev.bind (p_failed _ _ _) (Ev.bind (r_failed _ _ _) (Ev.bind (ints_failed _ _ _) ?_))
  simp only [if_true]
  exact h
theorem FeederChecks : minecontrollaw18_FeederChecks.Pure := by
  intro l0 l1_0 l1_1 a1_2 a2 a3 a4 _ _ hb _ _ _ _ _ _
  refine Ev.rounds (g := fun k => minecontrollaw18_FeederChecks.f k l0 l1_0 l1_1 a1_2 a2 a3 a4) ?_
  unfold minecontrollaw18_FeederChecks.f
  have J : Ev (fun k => minecontrollaw18_FeederChecks.j0 k l0 a2 a3 a4 true l1_0 l1_1 a1_2) true :=
    Ev.step (fun k => by simp only [minecontrollaw18_FeederChecks.j0, if_true]) (Ev.bind awake_ev (Ev.now _))
  by_cases h1 : (l1_0.length : Int) > 40
  · simp only [if_pos h1]; exact J
  simp only [if_neg h1]
  by_cases h2 : (l1_1.length : Int) > 40
  · rw [decide_eq_true h2]; exact J
  rw [decide_eq_false h2]
  obtain ⟨ss, zs, rp, e⟩ := made_ev hb a2 a3
  obtain ⟨q, hq, -, -⟩ := mod_in a4 6 (by omega) (by omega)
  refine Ev.step (fun k => by simp only [minecontrollaw18_FeederChecks.j0, Bool.false_eq_true, if_false]; rw [hq, Option.bind_some]) (Ev.bind e ?_)
  dsimp only
  simp only [Option.bind_some]
  refine checks_round (by omega) (by simp) (by simp) ?_
  rw [show wrap64 (0 + 1) = 1 from by rw [w64 (by omega) (by omega)]; rfl]
  refine checks_round (by omega) (by simp) (by simp) ?_
  rw [show wrap64 (1 + 1) = 2 from by rw [w64 (by omega) (by omega)]; rfl]
  refine Ev.step (fun k => by simp only [minecontrollaw18_FeederChecks.l0]; rw [if_neg (by simp)]) ?_
  exact Ev.bind awake_ev (Ev.now _)

end Go.Proofs.Ytcgeflbifbaecaa.Pure
