/- The plain law of DoorShuts. -/
import Derived.Test.YtmlkchkhgjebgaaPDoox13
import Derived.Test.YtmlkchkhgjebgaaComA
import Derived.Test.YtmlkchkhgjebgaaComC
import Derived.Test.YtmlkchkhgjebgaaComD
namespace Go.Proofs.Ytmlkchkhgjebgaa.Pure
open Go.RowKit Go.Proofs.Ytmlkchkhgjebgaa.PDoo Go.Proofs.Ytmlkchkhgjebgaa.Com Go.Proofs.YtmlkchkhgjebgaaW.PrintWords Go.Proofs.YtmlkchkhgjebgaaW.PrintLast Go.Proofs.YtmlkchkhgjebgaaW.PrintMore
set_option linter.unusedVariables false

theorem rest_all {r : List Int} (h : 1 ≤ r.length) {j : Nat} (hj : j < r.length) : (rest r (-1)).1 ≤ rd r j ∧ rd r j ≤ (rest r (-1)).2 := by
  unfold rest
  rw [if_neg (by omega), if_pos rfl]
  have a := mnf_le (r := r) (r.length - 1) 1 (rd r 0)
  have b := mxf_ge (r := r) (r.length - 1) 1 (rd r 0)
  dsimp only
  by_cases e : j = 0
  · subst e; exact ⟨a.1, b.1⟩
  · exact ⟨a.2 j (by omega) (by omega), b.2 j (by omega) (by omega)⟩
theorem rest_one {r : List Int} {j : Nat} (hj : j < r.length) : rest r (j : Int) = (rd r j, rd r j) := by
  unfold rest
  rw [if_neg (by omega), if_neg (by omega)]

theorem shuts_l0 {l : List S36} {t : Int} (h0 : 0 ≤ t) (h1 : t < l.length) (h2 : 1 ≤ (rd_T36 l t).f2.length) (h3 : (rd_T36 l t).f2.length ≤ 100) : ∀ (d i : Nat), i + d = (rd_T36 l t).f2.length →
    Ev (fun k => minecontrollaw08_DoorShuts.l0 k l t (i : Int) (rest (rd_T36 l t).f2 (-1)).1 (rest (rd_T36 l t).f2 (-1)).2) true := by
  intro d
  induction d with
  | zero =>
    intro i hi
    refine Ev.step (fun k => by simp only [minecontrollaw08_DoorShuts.l0]; rw [if_pos h0, if_pos h1, if_neg (by omega)]) ?_
    exact Ev.bind awake_ev (Ev.now _)
  | succ d ih =>
    intro i hi
    have w1 : wrap64 ((i : Int) + 1) = ((i + 1 : Nat) : Int) := by rw [w64' (by omega) (by omega)]; rfl
    refine Ev.step (fun k => by simp only [minecontrollaw08_DoorShuts.l0]; rw [if_pos h0, if_pos h1, if_pos (by omega)]) ?_
    refine Ev.bind (p_rest (by unfold maxLen; omega) _ _ _) ?_
    have hb := rest_all h2 (j := i) (by omega)
    rw [rest_one (by omega)]
    refine Ev.congr (fun k => ?_) (ih (i + 1) (by omega))
    dsimp only
    rw [if_pos (by omega), if_pos rfl, if_pos rfl, if_neg (by omega), if_neg (by omega), w1]
theorem DoorShuts : minecontrollaw08_DoorShuts.Pure := by
  intro l0 a1 _ _ hb _
  obtain ⟨ds, ss, e0, hD, hl, -⟩ := doors_ev hb 0 0
  refine Ev.rounds (g := fun k => minecontrollaw08_DoorShuts.f k l0 a1) ?_
  unfold minecontrollaw08_DoorShuts.f
  refine Ev.bind e0 ?_
  dsimp only
  refine Ev.bind (rcheck ds) ?_
  have J : Ev (fun k => minecontrollaw08_DoorShuts.j0 k a1 ds ss true) true :=
    Ev.step (fun k => by simp only [minecontrollaw08_DoorShuts.j0, if_true]) (Ev.bind awake_ev (Ev.now _))
  by_cases hc : chk ds = 0
  · simp only [if_pos hc]
    by_cases hz : (ds.length : Int) = 0
    · simp only [if_pos hz]; exact J
    · simp only [if_neg hz]
      by_cases hs : ss.length = ds.length
      · obtain ⟨t, ht, t0, t1⟩ := mod_in a1 (ds.length : Int) (by omega) (by omega)
        have h2 := hD _ (rd_T36_mem t0 t1)
        have hg : cmd ds ss t 0 = (ss.set t.toNat 0, 0) := by
          have : chg ds ss t 0 0 = 0 := by
            unfold chg
            rw [if_pos hc, if_pos hs, if_neg (by omega), if_neg (by omega), if_neg (by omega), if_neg (by omega)]
          unfold cmd
          rw [if_pos this, if_pos rfl]
        refine Ev.step (fun k => by simp only [minecontrollaw08_DoorShuts.j0]; rw [if_neg (by simp; omega), ht]) ?_
        simp only [Option.bind_some]
        refine Ev.bind (p_command ds ss t 0) ?_
        rw [hg]
        dsimp only
        simp only [if_true, List.length_set, rd_set_eq (l := ss) (v := 0) t0 (by omega), if_pos (show (ss.length : Int) = (ds.length : Int) by omega), if_pos t0, if_pos (show t < (ss.length : Int) by omega)]
        refine Ev.step (fun k => by simp only [minecontrollaw08_DoorShuts.j1]; rw [if_neg (by simp), if_pos t0, if_pos t1]) ?_
        refine Ev.bind (p_rest (by unfold maxLen; omega) _ _ _) ?_
        exact shuts_l0 t0 t1 (by omega) (by omega) (rd_T36 ds t).f2.length 0 (by omega)
      · have : ((ss.length : Int) != (ds.length : Int)) = true := by simp; omega
        simp only [this]; exact J
  · simp only [if_neg hc]; exact J

end Go.Proofs.Ytmlkchkhgjebgaa.Pure
