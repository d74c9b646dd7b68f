/- The plain law of DoorCommands. -/
import Derived.Test.YtmlkchkhgjebgaaPDoox15
import Derived.Test.YtmlkchkhgjebgaaComA
import Derived.Test.YtmlkchkhgjebgaaComE
namespace Go.Proofs.Ytmlkchkhgjebgaa.Pure
open Go.RowKit Go.Proofs.Ytmlkchkhgjebgaa.PDoo Go.Proofs.Ytmlkchkhgjebgaa.Com Go.Proofs.YtmlkchkhgjebgaaW.PrintWords Go.Proofs.YtmlkchkhgjebgaaW.PrintLast Go.Proofs.YtmlkchkhgjebgaaW.PrintMore
set_option linter.unusedVariables false

theorem ints_cmd (l : List S36) (st : List Int) (d s : Int) : Ev (fun k => minecontrolref01_Ints.f k (cmd l st d s).1 (cmd l st d s).1) true := ints_ev (by have := cmd_len l st d s; omega)
theorem ints_seen (l : List S36) (st : List Int) (d s : Int) : Ev (fun k => minecontrolref01_Ints.f k (Com.seen l st d s).1 (Com.seen l st d s).1) true := ints_ev (by have := Com.seen_len l st d s; omega)

theorem commands_round {x4 x5 x15 x16 : Int} {l : List S36} {ss : List Int} {x48 : List (List Int)} {n : Int} {i : Int} (h0 : 0 ≤ i) (h1 : i < x48.length) (h2 : i < n)
    (h : Ev (fun k => minecontrollaw08_DoorCommands.l0 k x4 x5 l ss x15 x16 x48 n (wrap64 (i + 1))) true) : Ev (fun k => minecontrollaw08_DoorCommands.l0 k x4 x5 l ss x15 x16 x48 n i) true := by
  refine Ev.step (fun k => by simp only [minecontrollaw08_DoorCommands.l0]; rw [if_pos h2, if_pos h0, if_pos h1]) ?_
  refine Ev.bind (p_command l (rd_L1 x48 i) x15 x16) (Ev.bind (r_command l (rd_L1 x48 i) x15 x16) (Ev.bind (p_seen l (rd_L1 x48 i) x15 x16) (Ev.bind (r_seen l (rd_L1 x48 i) x15 x16) ?_)))
  simp only [if_true]
  refine Ev.bind (ints_cmd l (rd_L1 x48 i) x15 x16) ?_
  simp only [if_true]
  refine Ev.bind (ints_seen l (rd_L1 x48 i) x15 x16) ?_
  simp only [if_true]
  exact h
theorem DoorCommands : minecontrollaw08_DoorCommands.Pure := by
  intro l0 l1 a2 a3 a4 a5 _ _ hb _ _ _ _ _ _ _
  obtain ⟨ds, ss, e0, -, hl, -⟩ := doors_ev hb a2 a3
  obtain ⟨r, hr, -, -⟩ := mod_in a4 (wrap64 ((ds.length : Int) + 1)) (by rw [w64 (by omega) (by omega)]; omega) (by rw [w64 (by omega) (by omega)]; omega)
  obtain ⟨q, hq, -, -⟩ := mod_in a5 7 (by omega) (by omega)
  refine Ev.rounds (g := fun k => minecontrollaw08_DoorCommands.f k l0 l1 a2 a3 a4 a5) ?_
  unfold minecontrollaw08_DoorCommands.f
  refine Ev.bind e0 ?_
  dsimp only
  simp only [hr, hq, Option.bind_some]
  refine commands_round (by omega) (by simp) (by simp) ?_
  rw [show wrap64 (0 + 1) = 1 from by rw [w64 (by omega) (by omega)]; rfl]
  refine commands_round (by omega) (by simp) (by simp) ?_
  rw [show wrap64 (1 + 1) = 2 from by rw [w64 (by omega) (by omega)]; rfl]
  refine Ev.step (fun k => by simp only [minecontrollaw08_DoorCommands.l0]; rw [if_neg (by simp)]) ?_
  refine Ev.bind (p_command ds ss a4 a5) (Ev.bind (r_command ds ss a4 a5) ?_)
  simp only [if_true]
  refine Ev.bind (ints_cmd ds ss a4 a5) ?_
  simp only [if_true]
  exact Ev.bind awake_ev (Ev.now _)

end Go.Proofs.Ytmlkchkhgjebgaa.Pure
