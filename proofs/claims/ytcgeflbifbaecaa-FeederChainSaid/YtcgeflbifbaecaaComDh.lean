/- The path of a switch: what the program comes to. -/
import Derived.Test.YtcgeflbifbaecaaComUh
import Derived.Test.YtcgeflbifbaecaaPFehx4
namespace Go.Proofs.Ytcgeflbifbaecaa.Com
open Go.RowKit Go.Proofs.Ytcgeflbifbaecaa.PFeh Go.Proofs.YtcgeflbifbaecaaW.PrintWords Go.Proofs.YtcgeflbifbaecaaW.PrintLast Go.Proofs.YtcgeflbifbaecaaW.PrintMore

theorem p_path_l0 {ss : List S32} {zs : List Int} {rp : Int} (h : Ok ss zs rp) : ∀ (n : Nat) (s : Int) (acc : List Int), s < n → s < ss.length → acc.length + n ≤ 1000 → Ev (fun k => feeder_Path.l0 k ss s acc) (acc ++ up ss n s) := by
  intro n
  induction n with
  | zero =>
    intro s acc hn hs ha
    rw [show acc ++ up ss 0 s = acc by simp [up]]
    exact Ev.step (f := fun _ => some acc) (fun k => by simp only [feeder_Path.l0]; rw [if_neg (by omega)]) (Ev.now _)
  | succ n ih =>
    intro s acc hn hs ha
    simp only [up]
    by_cases h0 : s < 0
    · rw [if_pos h0, List.append_nil]
      exact Ev.step (f := fun _ => some acc) (fun k => by simp only [feeder_Path.l0]; rw [if_neg (by omega)]) (Ev.now _)
    · have := h.above (s := s) (by omega) hs
      rw [if_neg h0, show acc ++ s :: up ss n (rd_T32 ss s).f0 = (acc ++ [s]) ++ up ss n (rd_T32 ss s).f0 by simp]
      refine Ev.step (fun k => ?_) (ih _ (acc ++ [s]) (by omega) (by omega) (by simp; omega))
      simp only [feeder_Path.l0]
      rw [if_pos (by omega), if_pos hs, if_pos (by omega)]
/-- The path of a switch. -/
noncomputable def path (ss : List S32) (zs : List Int) (rp s : Int) : List Int := if chk ss zs rp = 0 then (if 0 ≤ s then (if s < ss.length then up ss ss.length s else []) else []) else []
theorem path_len (ss : List S32) (zs : List Int) (rp s : Int) : (path ss zs rp s).length ≤ 32 := by
  unfold path
  split
  · have := (chk_zero.1 ‹_›).few
    split
    · split
      · exact Nat.le_trans (up_len _ _) this
      · simp
    · simp
  · simp
theorem path_in {ss : List S32} {zs : List Int} {rp s : Int} : ∀ x ∈ path ss zs rp s, 0 ≤ x ∧ x < ss.length := by
  unfold path
  split
  · have h := chk_zero.1 ‹_›
    split
    · split
      · exact up_in h _ _ ‹_›
      · simp
    · simp
  · simp
theorem p_path (ss : List S32) (zs : List Int) (rp s : Int) : Ev (fun k => feeder_Path.f k ss zs rp s) (path ss zs rp s) := by
  unfold feeder_Path.f
  refine Ev.bind (pcheck ss zs rp) ?_
  unfold path
  by_cases hc : chk ss zs rp = 0
  · have h := chk_zero.1 hc
    have := h.few
    simp only [if_pos hc]
    by_cases h0 : 0 ≤ s
    · simp only [if_pos h0]
      by_cases h1 : s < (ss.length : Int)
      · simp only [if_pos h1]
        have := p_path_l0 h ss.length s [] h1 h1 (by simp; omega)
        rw [List.nil_append] at this
        exact this
      · simp only [if_neg h1]; exact Ev.now _
    · simp only [if_neg h0]; exact Ev.now _
  · simp only [if_neg hc]; exact Ev.now _
end Go.Proofs.Ytcgeflbifbaecaa.Com
