/- When a tick is due, and which switches have failed: the program and the reference come to one and the same. -/
import Derived.Test.YtcgeflbifbaecaaComDk
import Derived.Test.YtcgeflbifbaecaaPFekx12
import Derived.Test.YtcgeflbifbaecaaPFekx3
namespace Go.Proofs.Ytcgeflbifbaecaa.Com
open Go.RowKit Go.Proofs.Ytcgeflbifbaecaa.PFek Go.Proofs.YtcgeflbifbaecaaW.PrintWords Go.Proofs.YtcgeflbifbaecaaW.PrintLast Go.Proofs.YtcgeflbifbaecaaW.PrintMore

/-- Whether a switch waits. -/
def waitsB (s : S32) : Bool := if s.f3 = true then false else if s.f2 = -1 then false else !s.f4
theorem waits_ev (s : S32) : feeder_waits.f s.f0 s.f1 s.f2 s.f3 s.f4 = some (waitsB s) := by
  unfold feeder_waits.f waitsB
  by_cases h1 : s.f3 = true
  · rw [if_pos h1, if_pos h1]
  · rw [if_neg h1, if_neg h1]
    by_cases h2 : s.f2 = -1
    · rw [if_pos h2, if_pos h2]
    · rw [if_neg h2, if_neg h2]
def dueF (ss : List S32) (rp : Int) : Nat → Nat → Int → Int
  | 0, _, o => o
  | d + 1, i, o => dueF ss rp d (i + 1) (if waitsB (rd_T32 ss i) = true then mn o (wrap64 ((rd_T32 ss i).f1 + rp)) else o)
noncomputable def due (ss : List S32) (zs : List Int) (rp : Int) : Int := if chk ss zs rp = 0 then dueF ss rp ss.length 0 1099511627776 else 0
theorem p_due_l0 {ss : List S32} {zs : List Int} {rp : Int} (hl : ss.length ≤ 32) : ∀ (d i : Nat) (o : Int), i + d = ss.length → Ev (fun k => feeder_Due.l0 k o ss (ss.length : Int) (i : Int) ss zs rp) (dueF ss rp d i o) := by
  intro d
  induction d with
  | zero =>
    intro i o hi
    exact Ev.step (f := fun _ => some o) (fun k => by simp only [feeder_Due.l0]; rw [if_neg (by omega)]) (Ev.now _)
  | succ d ih =>
    intro i o hi
    simp only [dueF]
    have w1 : wrap64 ((i : Int) + 1) = ((i + 1 : Nat) : Int) := by rw [w64 (by omega) (by omega)]; rfl
    by_cases h : waitsB (rd_T32 ss i) = true
    · rw [if_pos h]
      refine Ev.step (fun k => ?_) (ih (i + 1) _ (by omega))
      simp only [feeder_Due.l0]
      rw [if_pos (by omega), if_pos (by omega), if_pos (by omega), waits_ev]
      simp only [Option.bind_some]
      rw [if_pos h, w1]
    · rw [if_neg h]
      refine Ev.step (fun k => ?_) (ih (i + 1) _ (by omega))
      simp only [feeder_Due.l0]
      rw [if_pos (by omega), if_pos (by omega), if_pos (by omega), waits_ev]
      simp only [Option.bind_some]
      rw [if_neg h, w1]
theorem r_due_l0 {ss : List S32} {zs : List Int} {rp : Int} (hl : ss.length ≤ 32) : ∀ (d i : Nat) (o : Int), i + d = ss.length → Ev (fun k => minecontrolref18_Due.l0 k o (i : Int) ss zs rp) (dueF ss rp d i o) := by
  intro d
  induction d with
  | zero =>
    intro i o hi
    exact Ev.step (f := fun _ => some o) (fun k => by simp only [minecontrolref18_Due.l0]; rw [if_neg (by omega)]) (Ev.now _)
  | succ d ih =>
    intro i o hi
    simp only [dueF]
    have w1 : wrap64 ((i : Int) + 1) = ((i + 1 : Nat) : Int) := by rw [w64 (by omega) (by omega)]; rfl
    by_cases h1 : (rd_T32 ss i).f3 = true
    · rw [if_neg (by unfold waitsB; rw [if_pos h1]; simp)]
      refine Ev.step (fun k => ?_) (ih (i + 1) _ (by omega))
      simp only [minecontrolref18_Due.l0]
      rw [if_pos (by omega), if_pos (by omega), if_pos h1, w1]
    by_cases h2 : (rd_T32 ss i).f2 = -1
    · rw [if_neg (by unfold waitsB; rw [if_neg h1, if_pos h2]; simp)]
      refine Ev.step (fun k => ?_) (ih (i + 1) _ (by omega))
      simp only [minecontrolref18_Due.l0]
      rw [if_pos (by omega), if_pos (by omega), if_neg h1, if_pos h2, w1]
    by_cases h3 : (rd_T32 ss i).f4 = true
    · rw [if_neg (by unfold waitsB; rw [if_neg h1, if_neg h2, h3]; simp)]
      refine Ev.step (fun k => ?_) (ih (i + 1) _ (by omega))
      simp only [minecontrolref18_Due.l0]
      rw [if_pos (by omega), if_pos (by omega), if_neg h1, if_neg h2, if_pos h3, w1]
    · rw [if_pos (by unfold waitsB; rw [if_neg h1, if_neg h2]; simpa using h3)]
      refine Ev.step (fun k => ?_) (ih (i + 1) _ (by omega))
      simp only [minecontrolref18_Due.l0]
      rw [if_pos (by omega), if_pos (by omega), if_neg h1, if_neg h2, if_neg h3, w1]
theorem p_due (ss : List S32) (zs : List Int) (rp : Int) : Ev (fun k => feeder_Due.f k ss zs rp) (due ss zs rp) := by
  unfold feeder_Due.f
  refine Ev.bind (pcheck ss zs rp) ?_
  unfold due
  by_cases hc : chk ss zs rp = 0
  · simp only [if_pos hc]; exact p_due_l0 (chk_zero.1 hc).few ss.length 0 _ (by omega)
  · simp only [if_neg hc]; exact Ev.now _
theorem r_due (ss : List S32) (zs : List Int) (rp : Int) : Ev (fun k => minecontrolref18_Due.f k ss zs rp) (due ss zs rp) := by
  unfold minecontrolref18_Due.f
  refine Ev.bind (rcheck ss zs rp) ?_
  unfold due
  by_cases hc : chk ss zs rp = 0
  · simp only [if_pos hc]; exact r_due_l0 (chk_zero.1 hc).few ss.length 0 _ (by omega)
  · simp only [if_neg hc]; exact Ev.now _

def failF (ss : List S32) : Nat → Nat → List Int → List Int
  | 0, _, acc => acc
  | d + 1, i, acc => failF ss d (i + 1) (if (rd_T32 ss i).f0 < 0 then (if (rd_T32 ss i).f4 = true then acc ++ [(i : Int)] else acc) else acc)
noncomputable def failed (ss : List S32) (zs : List Int) (rp : Int) : List Int := if chk ss zs rp = 0 then failF ss ss.length 0 [] else []
theorem failF_len {ss : List S32} : ∀ (d i : Nat) (acc : List Int), (failF ss d i acc).length ≤ acc.length + d := by
  intro d
  induction d with
  | zero => intro i acc; exact Nat.le_refl _
  | succ d ih =>
    intro i acc
    simp only [failF]
    refine Nat.le_trans (ih _ _) ?_
    split
    · split
      · simp; omega
      · omega
    · omega
theorem failed_len (ss : List S32) (zs : List Int) (rp : Int) : (failed ss zs rp).length ≤ 32 := by
  unfold failed
  split
  · have := (chk_zero.1 ‹_›).few
    have := failF_len (ss := ss) ss.length 0 []
    simp at this; omega
  · simp
theorem p_failed_l0 {ss : List S32} (hl : ss.length ≤ 32) : ∀ (d i : Nat) (acc : List Int), i + d = ss.length → acc.length ≤ i → Ev (fun k => feeder_Failed.l0 k acc ss (ss.length : Int) (i : Int)) (failF ss d i acc) := by
  intro d
  induction d with
  | zero =>
    intro i acc hi ha
    exact Ev.step (f := fun _ => some acc) (fun k => by simp only [feeder_Failed.l0]; rw [if_neg (by omega)]) (Ev.now _)
  | succ d ih =>
    intro i acc hi ha
    simp only [failF]
    have w1 : wrap64 ((i : Int) + 1) = ((i + 1 : Nat) : Int) := by rw [w64 (by omega) (by omega)]; rfl
    by_cases h1 : (rd_T32 ss i).f0 < 0
    · by_cases h2 : (rd_T32 ss i).f4 = true
      · rw [if_pos h1, if_pos h2]
        refine Ev.step (fun k => ?_) (ih (i + 1) _ (by omega) (by simp; omega))
        simp only [feeder_Failed.l0]
        rw [if_pos (by omega), if_pos (by omega), if_pos (by omega), if_pos h1, if_pos h2, if_pos (by omega), w1]
      · rw [if_pos h1, if_neg h2]
        refine Ev.step (fun k => ?_) (ih (i + 1) _ (by omega) (by omega))
        simp only [feeder_Failed.l0]
        rw [if_pos (by omega), if_pos (by omega), if_pos (by omega), if_pos h1, if_neg h2, w1]
    · rw [if_neg h1]
      refine Ev.step (fun k => ?_) (ih (i + 1) _ (by omega) (by omega))
      simp only [feeder_Failed.l0]
      rw [if_pos (by omega), if_pos (by omega), if_pos (by omega), if_neg h1, w1]
theorem r_failed_l0 {ss : List S32} {zs : List Int} {rp : Int} (h : Ok ss zs rp) : ∀ (d i : Nat) (acc : List Int), i + d = ss.length → acc.length ≤ i → Ev (fun k => minecontrolref18_Failed.l0 k acc (i : Int) ss zs rp) (failF ss d i acc) := by
  have hl := h.few
  intro d
  induction d with
  | zero =>
    intro i acc hi ha
    exact Ev.step (f := fun _ => some acc) (fun k => by simp only [minecontrolref18_Failed.l0]; rw [if_neg (by omega)]) (Ev.now _)
  | succ d ih =>
    intro i acc hi ha
    simp only [failF]
    have ho := h.above (s := (i : Int)) (by omega) (by omega)
    have w1 : wrap64 ((i : Int) + 1) = ((i + 1 : Nat) : Int) := by rw [w64 (by omega) (by omega)]; rfl
    by_cases h1 : (rd_T32 ss i).f0 < 0
    · by_cases h2 : (rd_T32 ss i).f4 = true
      · rw [if_pos h1, if_pos h2]
        refine Ev.step (fun k => ?_) (ih (i + 1) _ (by omega) (by simp; omega))
        simp only [minecontrolref18_Failed.l0]
        rw [if_pos (by omega), if_pos (by omega), if_pos (by omega), if_pos h2, if_pos (by omega), w1]
      · rw [if_pos h1, if_neg h2]
        refine Ev.step (fun k => ?_) (ih (i + 1) _ (by omega) (by omega))
        simp only [minecontrolref18_Failed.l0]
        rw [if_pos (by omega), if_pos (by omega), if_pos (by omega), if_neg h2, w1]
    · rw [if_neg h1]
      refine Ev.step (fun k => ?_) (ih (i + 1) _ (by omega) (by omega))
      simp only [minecontrolref18_Failed.l0]
      rw [if_pos (by omega), if_pos (by omega), if_neg (by omega), w1]
theorem p_failed (ss : List S32) (zs : List Int) (rp : Int) : Ev (fun k => feeder_Failed.f k ss zs rp) (failed ss zs rp) := by
  unfold feeder_Failed.f
  refine Ev.bind (pcheck ss zs rp) ?_
  unfold failed
  by_cases hc : chk ss zs rp = 0
  · simp only [if_pos hc]; exact p_failed_l0 (chk_zero.1 hc).few ss.length 0 [] (by omega) (by simp)
  · simp only [if_neg hc]; exact Ev.now _
theorem r_failed (ss : List S32) (zs : List Int) (rp : Int) : Ev (fun k => minecontrolref18_Failed.f k ss zs rp) (failed ss zs rp) := by
  unfold minecontrolref18_Failed.f
  refine Ev.bind (rcheck ss zs rp) ?_
  unfold failed
  by_cases hc : chk ss zs rp = 0
  · simp only [if_pos hc]; exact r_failed_l0 (chk_zero.1 hc) ss.length 0 [] (by omega) (by simp)
  · simp only [if_neg hc]; exact Ev.now _

/-- A list is as itself. -/
theorem ints_l0 {l : List Int} (hl : l.length ≤ 1000000) : ∀ (d i : Nat), i + d = l.length → Ev (fun k => minecontrolref01_Ints.l0 k l l (i : Int)) true := by
  intro d
  induction d with
  | zero =>
    intro i hi
    exact Ev.step (f := fun _ => some true) (fun k => by simp only [minecontrolref01_Ints.l0]; rw [if_neg (by omega)]) (Ev.now _)
  | succ d ih =>
    intro i hi
    refine Ev.step (fun k => ?_) (ih (i + 1) (by omega))
    simp only [minecontrolref01_Ints.l0]
    rw [if_pos (by omega), if_pos (by omega), if_pos (by omega), if_pos trivial, w64 (by omega) (by omega)]; rfl
theorem ints_ev {l : List Int} (hl : l.length ≤ 1000000) : Ev (fun k => minecontrolref01_Ints.f k l l) true := by
  refine Ev.congr (fun k => ?_) (ints_l0 hl l.length 0 (by omega))
  unfold minecontrolref01_Ints.f
  rw [if_pos rfl]; rfl

end Go.Proofs.Ytcgeflbifbaecaa.Com
