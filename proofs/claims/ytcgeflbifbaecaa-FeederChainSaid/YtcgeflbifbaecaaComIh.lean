/- Opening, closing, answers and ticks: what the program comes to, for any network. -/
import Derived.Test.YtcgeflbifbaecaaComHh
import Derived.Test.YtcgeflbifbaecaaPFehx4
namespace Go.Proofs.Ytcgeflbifbaecaa.Com
open Go.RowKit Go.Proofs.Ytcgeflbifbaecaa.PFeh Go.Proofs.YtcgeflbifbaecaaW.PrintWords Go.Proofs.YtcgeflbifbaecaaW.PrintLast Go.Proofs.YtcgeflbifbaecaaW.PrintMore

/-- An error, and no network. -/
abbrev errR (e : Int) : List S32 × List Int × Int × Int := ([], [], 0, e)
/-- Opening. -/
noncomputable def openR (ss : List S32) (zs : List Int) (rp s t : Int) : List S32 × List Int × Int × Int :=
  if cn ss zs rp s t = 0 then ((openS ss s t).2, zs, rp, 0) else errR (cn ss zs rp s t)
theorem open_ev (ss : List S32) (zs : List Int) (rp s t : Int) : Ev (fun k => feeder_Open.f k ss zs rp s t) (openR ss zs rp s t) := by
  unfold feeder_Open.f
  refine Ev.bind (can_ev ss zs rp s t) ?_
  unfold openR
  by_cases h : cn ss zs rp s t = 0
  · obtain ⟨ho, h0, h1, -⟩ := cn_zero.1 h
    simp only [if_pos h, clone_ev ho.few ho.zfew, Option.bind_some, open_f h0 h1]
    exact Ev.now _
  · simp only [if_neg h]; exact Ev.now _
end Go.Proofs.Ytcgeflbifbaecaa.Com
