/- Which switches have failed: what the program comes to; where it is one alone. -/
import Derived.Test.YtcgeflbifbaecaaComUh
import Derived.Test.YtcgeflbifbaecaaPFehx7
namespace Go.Proofs.Ytcgeflbifbaecaa.Com
open Go.RowKit Go.Proofs.Ytcgeflbifbaecaa.PFeh Go.Proofs.YtcgeflbifbaecaaW.PrintWords Go.Proofs.YtcgeflbifbaecaaW.PrintLast Go.Proofs.YtcgeflbifbaecaaW.PrintMore

def failF (ss : List S32) : Nat → Nat → List Int → List Int
  | 0, _, acc => acc
  | d + 1, i, acc => failF ss d (i + 1) (if (rd_T32 ss i).f0 < 0 then (if (rd_T32 ss i).f4 = true then acc ++ [(i : Int)] else acc) else acc)
noncomputable def failed (ss : List S32) (zs : List Int) (rp : Int) : List Int := if chk ss zs rp = 0 then failF ss ss.length 0 [] else []
theorem p_failed_l0 {ss : List S32} (hl : ss.length ≤ 32) : ∀ (d i : Nat) (acc : List Int), i + d = ss.length → acc.length ≤ i → Ev (fun k => feeder_Failed.l0 k acc ss (ss.length : Int) (i : Int)) (failF ss d i acc) := by
  intro d
  induction d with
  | zero =>
    intro i acc hi ha
    exact Ev.step (f := fun _ => some acc) (fun k => by simp only [feeder_Failed.l0]; rw [if_neg (by omega)]) (Ev.now _)
  | succ d ih =>
    intro i acc hi ha
    simp only [failF]
    have w1 : wrap64 ((i : Int) + 1) = ((i + 1 : Nat) : Int) := by rw [w64 (by omega) (by omega)]; rfl
    by_cases h1 : (rd_T32 ss i).f0 < 0
    · by_cases h2 : (rd_T32 ss i).f4 = true
      · rw [if_pos h1, if_pos h2]
        refine Ev.step (fun k => ?_) (ih (i + 1) _ (by omega) (by simp; omega))
        simp only [feeder_Failed.l0]
        rw [if_pos (by omega), if_pos (by omega), if_pos (by omega), if_pos h1, if_pos h2, if_pos (by omega), w1]
      · rw [if_pos h1, if_neg h2]
        refine Ev.step (fun k => ?_) (ih (i + 1) _ (by omega) (by omega))
        simp only [feeder_Failed.l0]
        rw [if_pos (by omega), if_pos (by omega), if_pos (by omega), if_pos h1, if_neg h2, w1]
    · rw [if_neg h1]
      refine Ev.step (fun k => ?_) (ih (i + 1) _ (by omega) (by omega))
      simp only [feeder_Failed.l0]
      rw [if_pos (by omega), if_pos (by omega), if_pos (by omega), if_neg h1, w1]
theorem p_failed (ss : List S32) (zs : List Int) (rp : Int) : Ev (fun k => feeder_Failed.f k ss zs rp) (failed ss zs rp) := by
  unfold feeder_Failed.f
  refine Ev.bind (pcheck ss zs rp) ?_
  unfold failed
  by_cases hc : chk ss zs rp = 0
  · simp only [if_pos hc]; exact p_failed_l0 (chk_zero.1 hc).few ss.length 0 [] (by omega) (by simp)
  · simp only [if_neg hc]; exact Ev.now _
/-- Where of the switches from i on one alone has failed. -/
theorem fail_one {ss : List S32} {i0 : Nat} : ∀ (d i : Nat) (acc : List Int), (∀ j : Nat, i ≤ j → j < i + d → (((rd_T32 ss (j : Int)).f0 < 0 ∧ (rd_T32 ss (j : Int)).f4 = true) ↔ j = i0)) → failF ss d i acc = if i ≤ i0 ∧ i0 < i + d then acc ++ [(i0 : Int)] else acc := by
  intro d
  induction d with
  | zero => intro i acc _; rw [if_neg (by omega)]; rfl
  | succ d ih =>
    intro i acc h
    have hi := h i (Nat.le_refl _) (by omega)
    simp only [failF]
    rw [ih (i + 1) _ (fun j h1 h2 => h j (by omega) (by omega))]
    by_cases e : i = i0
    · obtain ⟨a, b⟩ := hi.2 e
      rw [if_pos a, if_pos b, if_neg (by omega), if_pos (by omega), e]
    · have : (if (rd_T32 ss (i : Int)).f0 < 0 then (if (rd_T32 ss (i : Int)).f4 = true then acc ++ [(i : Int)] else acc) else acc) = acc := by
        by_cases a : (rd_T32 ss (i : Int)).f0 < 0
        · by_cases b : (rd_T32 ss (i : Int)).f4 = true
          · exact absurd (hi.1 ⟨a, b⟩) e
          · rw [if_pos a, if_neg b]
        · rw [if_neg a]
      rw [this]
      by_cases g : i ≤ i0 ∧ i0 < i + (d + 1)
      · rw [if_pos g, if_pos (by omega)]
      · rw [if_neg g, if_neg (by omega)]

/-- A list is as itself. -/
theorem ints_l0 {l : List Int} (hl : l.length ≤ 1000000) : ∀ (d i : Nat), i + d = l.length → Ev (fun k => minecontrolref01_Ints.l0 k l l (i : Int)) true := by
  intro d
  induction d with
  | zero =>
    intro i hi
    exact Ev.step (f := fun _ => some true) (fun k => by simp only [minecontrolref01_Ints.l0]; rw [if_neg (by omega)]) (Ev.now _)
  | succ d ih =>
    intro i hi
    refine Ev.step (fun k => ?_) (ih (i + 1) (by omega))
    simp only [minecontrolref01_Ints.l0]
    rw [if_pos (by omega), if_pos (by omega), if_pos (by omega), if_pos trivial, w64 (by omega) (by omega)]; rfl
theorem ints_ev {l : List Int} (hl : l.length ≤ 1000000) : Ev (fun k => minecontrolref01_Ints.f k l l) true := by
  refine Ev.congr (fun k => ?_) (ints_l0 hl l.length 0 (by omega))
  unfold minecontrolref01_Ints.f
  rw [if_pos rfl]; rfl

/-- The switches of a path: each is above the one ahead of it. -/
theorem up_step {ss : List S32} {zs : List Int} {rp : Int} (h : Ok ss zs rp) : ∀ (n : Nat) (s : Int), s < n → s < ss.length → ∀ q : Nat, q < (up ss n s).length →
    0 ≤ rd (up ss n s) (q : Int) ∧ rd (up ss n s) (q : Int) < ss.length ∧ (q + 1 < (up ss n s).length → rd (up ss n s) ((q + 1 : Nat) : Int) = (rd_T32 ss (rd (up ss n s) (q : Int))).f0 ∧ 0 ≤ rd (up ss n s) ((q + 1 : Nat) : Int)) ∧ (q + 1 = (up ss n s).length → (rd_T32 ss (rd (up ss n s) (q : Int))).f0 < 0) := by
  intro n
  induction n with
  | zero => intro s _ _ q hq; simp [up] at hq
  | succ n ih =>
    intro s hn hs q hq
    simp only [up] at hq ⊢
    by_cases h0 : s < 0
    · rw [if_pos h0] at hq; simp at hq
    · rw [if_neg h0] at hq ⊢
      have hu := h.above (s := s) (by omega) hs
      have ih := ih (rd_T32 ss s).f0 (by omega) (by omega)
      have hc : ∀ m : Nat, rd (s :: up ss n (rd_T32 ss s).f0) ((m + 1 : Nat) : Int) = rd (up ss n (rd_T32 ss s).f0) (m : Int) := by
        intro m; unfold rd; simp
      have hz : rd (s :: up ss n (rd_T32 ss s).f0) ((0 : Nat) : Int) = s := by unfold rd; simp
      cases q with
      | zero =>
        rw [hz]
        refine ⟨by omega, hs, fun hl => ?_, fun hl => ?_⟩
        · rw [hc]
          simp only [List.length_cons] at hl
          have hup : 0 < (up ss n (rd_T32 ss s).f0).length := by omega
          cases n with
          | zero => simp [up] at hup
          | succ n =>
            simp only [up] at hup ⊢
            by_cases g : (rd_T32 ss s).f0 < 0
            · rw [if_pos g] at hup; simp at hup
            · rw [if_neg g]
              have : rd ((rd_T32 ss s).f0 :: up ss n (rd_T32 ss (rd_T32 ss s).f0).f0) ((0 : Nat) : Int) = (rd_T32 ss s).f0 := by unfold rd; simp
              rw [this]; exact ⟨rfl, by omega⟩
        · simp only [List.length_cons] at hl
          apply Classical.byContradiction
          intro g
          cases n with
          | zero => omega
          | succ n =>
            simp only [up] at hl
            rw [if_neg (by omega)] at hl
            simp only [List.length_cons] at hl
            omega
      | succ q =>
        simp only [List.length_cons] at hq
        obtain ⟨a, b, c, e⟩ := ih q (by omega)
        rw [hc]
        refine ⟨a, b, fun hl => ?_, fun hl => ?_⟩
        · rw [hc]
          simp only [List.length_cons] at hl
          exact c (by omega)
        · simp only [List.length_cons] at hl
          exact e (by omega)
end Go.Proofs.Ytcgeflbifbaecaa.Com
