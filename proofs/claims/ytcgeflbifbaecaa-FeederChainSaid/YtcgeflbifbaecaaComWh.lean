/- When a tick is due: what the program comes to. -/
import Derived.Test.YtcgeflbifbaecaaComCh
import Derived.Test.YtcgeflbifbaecaaPFehx4
import Derived.Test.YtcgeflbifbaecaaPFehx5
namespace Go.Proofs.Ytcgeflbifbaecaa.Com
open Go.RowKit Go.Proofs.Ytcgeflbifbaecaa.PFeh Go.Proofs.YtcgeflbifbaecaaW.PrintWords Go.Proofs.YtcgeflbifbaecaaW.PrintLast Go.Proofs.YtcgeflbifbaecaaW.PrintMore

def waitsB (s : S32) : Bool := if s.f3 = true then false else if s.f2 = -1 then false else !s.f4
theorem waits_ev (s : S32) : feeder_waits.f s.f0 s.f1 s.f2 s.f3 s.f4 = some (waitsB s) := by
  unfold feeder_waits.f waitsB
  by_cases h1 : s.f3 = true
  · rw [if_pos h1, if_pos h1]
  · rw [if_neg h1, if_neg h1]
    by_cases h2 : s.f2 = -1
    · rw [if_pos h2, if_pos h2]
    · rw [if_neg h2, if_neg h2]
def dueF (ss : List S32) (rp : Int) : Nat → Nat → Int → Int
  | 0, _, o => o
  | d + 1, i, o => dueF ss rp d (i + 1) (if waitsB (rd_T32 ss i) = true then mn o (wrap64 ((rd_T32 ss i).f1 + rp)) else o)
noncomputable def due (ss : List S32) (zs : List Int) (rp : Int) : Int := if chk ss zs rp = 0 then dueF ss rp ss.length 0 1099511627776 else 0
theorem p_due_l0 {ss : List S32} {zs : List Int} {rp : Int} (hl : ss.length ≤ 32) : ∀ (d i : Nat) (o : Int), i + d = ss.length → Ev (fun k => feeder_Due.l0 k o ss (ss.length : Int) (i : Int) ss zs rp) (dueF ss rp d i o) := by
  intro d
  induction d with
  | zero =>
    intro i o hi
    exact Ev.step (f := fun _ => some o) (fun k => by simp only [feeder_Due.l0]; rw [if_neg (by omega)]) (Ev.now _)
  | succ d ih =>
    intro i o hi
    simp only [dueF]
    have w1 : wrap64 ((i : Int) + 1) = ((i + 1 : Nat) : Int) := by rw [w64 (by omega) (by omega)]; rfl
    by_cases h : waitsB (rd_T32 ss i) = true
    · rw [if_pos h]
      refine Ev.step (fun k => ?_) (ih (i + 1) _ (by omega))
      simp only [feeder_Due.l0]
      rw [if_pos (by omega), if_pos (by omega), if_pos (by omega), waits_ev]
      simp only [Option.bind_some]
      rw [if_pos h, w1]
    · rw [if_neg h]
      refine Ev.step (fun k => ?_) (ih (i + 1) _ (by omega))
      simp only [feeder_Due.l0]
      rw [if_pos (by omega), if_pos (by omega), if_pos (by omega), waits_ev]
      simp only [Option.bind_some]
      rw [if_neg h, w1]
theorem p_due (ss : List S32) (zs : List Int) (rp : Int) : Ev (fun k => feeder_Due.f k ss zs rp) (due ss zs rp) := by
  unfold feeder_Due.f
  refine Ev.bind (pcheck ss zs rp) ?_
  unfold due
  by_cases hc : chk ss zs rp = 0
  · simp only [if_pos hc]; exact p_due_l0 (chk_zero.1 hc).few ss.length 0 _ (by omega)
  · simp only [if_neg hc]; exact Ev.now _
end Go.Proofs.Ytcgeflbifbaecaa.Com
