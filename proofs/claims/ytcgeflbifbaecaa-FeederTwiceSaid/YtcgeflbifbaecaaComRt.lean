/- Which networks are right, or the first error: the reference comes to the program's plain number. -/
import Derived.Test.YtcgeflbifbaecaaComBt
import Derived.Test.YtcgeflbifbaecaaPFetx9
namespace Go.Proofs.Ytcgeflbifbaecaa.Com
open Go.RowKit Go.Proofs.Ytcgeflbifbaecaa.PFet Go.Proofs.YtcgeflbifbaecaaW.PrintWords Go.Proofs.YtcgeflbifbaecaaW.PrintLast Go.Proofs.YtcgeflbifbaecaaW.PrintMore

theorem r_step {ss : List S32} {zs : List Int} {rp : Int} (_hl : ss.length ≤ 32) {i : Nat} (hi : i < ss.length) {q : Int} (h : Ev (fun k => minecontrolref18_Check.l0 k (wrap64 ((i : Int) + 1)) ss zs rp) q) :
    Ev (fun k => minecontrolref18_Check.l0 k (i : Int) ss zs rp) (if sBad (rd_T32 ss i) i = 0 then q else sBad (rd_T32 ss i) i) := by
  obtain ⟨s, hs⟩ : ∃ s, rd_T32 ss (i : Int) = s := ⟨_, rfl⟩
  have J3 : ∀ b : Bool, s.f0 ≥ -1 → s.f0 < i → b = decide (s.f1 < 0 ∨ s.f1 > 2147483648) → Ev (fun k => minecontrolref18_Check.j3 k (i : Int) b ss zs rp s.f0 s.f1 s.f2 s.f3 s.f4) (if sBad s i = 0 then q else sBad s i) := by
    intro b g0 g1 hb
    unfold sBad
    rw [if_neg (show ¬ s.f0 < -1 by omega), if_neg (show ¬ s.f0 ≥ (i : Int) by omega)]
    by_cases h1 : s.f1 < 0 ∨ s.f1 > 2147483648
    · rw [decide_eq_true h1] at hb; subst hb
      have e : (if s.f1 < 0 then (8 : Int) else if s.f1 > 2147483648 then 8 else if s.f2 < -1 then 10 else if s.f2 > 1 then 10 else if s.f4 = true then (if s.f3 = true then 10 else if s.f2 = -1 then 10 else 0) else 0) = 8 := by
        rcases h1 with h1 | h1
        · rw [if_pos h1]
        · by_cases h2 : s.f1 < 0
          · rw [if_pos h2]
          · rw [if_neg h2, if_pos h1]
      rw [e, if_neg (by decide)]
      exact Ev.step (f := fun _ => some 8) (fun k => by simp only [minecontrolref18_Check.j3, if_true]) (Ev.now _)
    · rw [decide_eq_false h1] at hb; subst hb
      rw [if_neg (show ¬ s.f1 < 0 from fun z => h1 (.inl z)), if_neg (show ¬ s.f1 > 2147483648 from fun z => h1 (.inr z))]
      by_cases h2 : s.f2 < -1
      · rw [if_pos h2, if_neg (by decide)]
        exact Ev.step (f := fun _ => some 10) (fun k => by simp only [minecontrolref18_Check.j3, Bool.false_eq_true, if_false]; rw [if_pos h2]) (Ev.now _)
      by_cases h3 : s.f2 > 1
      · rw [if_neg h2, if_pos h3, if_neg (by decide)]
        exact Ev.step (f := fun _ => some 10) (fun k => by simp only [minecontrolref18_Check.j3, Bool.false_eq_true, if_false]; rw [if_neg h2, if_pos h3]) (Ev.now _)
      rw [if_neg h2, if_neg h3]
      by_cases h4 : s.f4 = true
      · rw [if_pos h4]
        by_cases h5 : s.f3 = true
        · rw [if_pos h5, if_neg (by decide)]
          exact Ev.step (f := fun _ => some 10) (fun k => by simp only [minecontrolref18_Check.j3, Bool.false_eq_true, if_false]; rw [if_neg h2, if_neg h3, if_pos h4, if_pos h5]) (Ev.now _)
        by_cases h6 : s.f2 = -1
        · rw [if_neg h5, if_pos h6, if_neg (by decide)]
          exact Ev.step (f := fun _ => some 10) (fun k => by simp only [minecontrolref18_Check.j3, Bool.false_eq_true, if_false]; rw [if_neg h2, if_neg h3, if_pos h4, if_neg h5, if_pos h6]) (Ev.now _)
        rw [if_neg h5, if_neg h6, if_pos rfl]
        exact Ev.step (fun k => by simp only [minecontrolref18_Check.j3, Bool.false_eq_true, if_false]; rw [if_neg h2, if_neg h3, if_pos h4, if_neg h5, if_neg h6]) h
      · rw [if_neg h4, if_pos rfl]
        exact Ev.step (fun k => by simp only [minecontrolref18_Check.j3, Bool.false_eq_true, if_false]; rw [if_neg h2, if_neg h3, if_neg h4]) h
  have J2 : ∀ b : Bool, b = decide (s.f0 < -1 ∨ s.f0 ≥ i) → Ev (fun k => minecontrolref18_Check.j2 k (i : Int) b ss zs rp s.f0 s.f1 s.f2 s.f3 s.f4) (if sBad s i = 0 then q else sBad s i) := by
    intro b hb
    by_cases h1 : s.f0 < -1 ∨ s.f0 ≥ (i : Int)
    · rw [decide_eq_true h1] at hb; subst hb
      have e : sBad s i = 16 := by
        unfold sBad
        rcases h1 with h1 | h1
        · rw [if_pos h1]
        · by_cases h2 : s.f0 < -1
          · rw [if_pos h2]
          · rw [if_neg h2, if_pos h1]
      rw [e, if_neg (by decide)]
      exact Ev.step (f := fun _ => some 16) (fun k => by simp only [minecontrolref18_Check.j2, if_true]) (Ev.now _)
    · rw [decide_eq_false h1] at hb; subst hb
      by_cases h2 : s.f1 < 0
      · refine Ev.step (fun k => ?_) (J3 true (by omega) (by omega) (by simp [h2]))
        simp only [minecontrolref18_Check.j2, Bool.false_eq_true, if_false]; rw [if_pos h2]
      · refine Ev.step (fun k => ?_) (J3 (decide (s.f1 > 2147483648)) (by omega) (by omega) (decide_eq_decide.2 (by omega)))
        simp only [minecontrolref18_Check.j2, Bool.false_eq_true, if_false]; rw [if_neg h2]
  rw [hs]
  by_cases h1 : s.f0 < -1
  · refine Ev.step (fun k => ?_) (J2 true (by simp [h1]))
    simp only [minecontrolref18_Check.l0]; rw [if_pos (by omega), if_pos (by omega), hs, if_pos h1]
  · refine Ev.step (fun k => ?_) (J2 (decide (s.f0 ≥ (i : Int))) (decide_eq_decide.2 (by omega)))
    simp only [minecontrolref18_Check.l0]; rw [if_pos (by omega), if_pos (by omega), hs, if_neg h1]

theorem r_l2 {ss : List S32} {zs : List Int} {rp : Int} (hz : zs.length ≤ 16) {i : Nat} (hi : i < zs.length) {q : Int} (h : Ev (fun k => minecontrolref18_Check.l1 k (wrap64 ((i : Int) + 1)) ss zs rp) q) : ∀ (d m : Nat), m + d = i → (∀ k : Nat, k < m → rd zs k ≠ rd zs i) →
    Ev (fun k => minecontrolref18_Check.l2 k (i : Int) (m : Int) ss zs rp) (open Classical in if (∃ k : Nat, k < i ∧ rd zs k = rd zs i) then 17 else q) := by
  intro d
  induction d with
  | zero =>
    intro m hm hno
    rw [if_neg (by rintro ⟨k, hk, hv⟩; exact hno k (by omega) hv)]
    refine Ev.step (fun k => ?_) h
    simp only [minecontrolref18_Check.l2]
    rw [if_neg (by omega)]
  | succ d ih =>
    intro m hm hno
    by_cases he : rd zs m = rd zs i
    · rw [if_pos ⟨m, by omega, he⟩]
      refine Ev.step (f := fun _ => some 17) (fun k => ?_) (Ev.now _)
      simp only [minecontrolref18_Check.l2]
      rw [if_pos (by omega), if_pos (by omega), if_pos (by omega), if_pos (by omega), if_pos (by omega), if_pos he]
    · refine Ev.step (fun k => ?_) (ih (m + 1) (by omega) (fun k hk => by
        by_cases e : k = m
        · subst e; exact he
        · exact hno k (by omega)))
      simp only [minecontrolref18_Check.l2]
      rw [if_pos (by omega), if_pos (by omega), if_pos (by omega), if_pos (by omega), if_pos (by omega), if_neg he, w64 (by omega) (by omega)]; rfl

theorem r_zones {ss : List S32} {zs : List Int} {rp : Int} (hz : zs.length ≤ 16) : ∀ (d i : Nat), i + d = zs.length → Ev (fun k => minecontrolref18_Check.l1 k (i : Int) ss zs rp) (zErrs ss.length zs rp d i) := by
  intro d
  induction d with
  | zero =>
    intro i hi
    simp only [zErrs]
    by_cases h1 : rp < 1
    · rw [if_pos h1]
      exact Ev.step (f := fun _ => some 1) (fun k => by simp only [minecontrolref18_Check.l1]; rw [if_neg (by omega), if_pos h1]) (Ev.now _)
    by_cases h2 : rp > 100000
    · rw [if_neg h1, if_pos h2]
      exact Ev.step (f := fun _ => some 1) (fun k => by simp only [minecontrolref18_Check.l1]; rw [if_neg (by omega), if_neg h1, if_pos h2]) (Ev.now _)
    · rw [if_neg h1, if_neg h2]
      exact Ev.step (f := fun _ => some 0) (fun k => by simp only [minecontrolref18_Check.l1]; rw [if_neg (by omega), if_neg h1, if_neg h2]) (Ev.now _)
  | succ d ih =>
    intro i hi
    simp only [zErrs]
    by_cases h1 : rd zs i < 0
    · rw [if_pos h1]
      refine Ev.step (fun k => by simp only [minecontrolref18_Check.l1]; rw [if_pos (by omega), if_pos (by omega), if_pos h1]) ?_
      exact Ev.step (f := fun _ => some 16) (fun k => by simp only [minecontrolref18_Check.j5, if_true]) (Ev.now _)
    rw [if_neg h1]
    by_cases h2 : rd zs i ≥ (ss.length : Int)
    · rw [if_pos h2]
      refine Ev.step (fun k => by simp only [minecontrolref18_Check.l1]; rw [if_pos (by omega), if_pos (by omega), if_neg h1, decide_eq_true h2]) ?_
      exact Ev.step (f := fun _ => some 16) (fun k => by simp only [minecontrolref18_Check.j5, if_true]) (Ev.now _)
    rw [if_neg h2]
    refine Ev.step (fun k => by simp only [minecontrolref18_Check.l1]; rw [if_pos (by omega), if_pos (by omega), if_neg h1, decide_eq_false h2]) ?_
    refine Ev.step (f := fun k => minecontrolref18_Check.l2 k (i : Int) 0 ss zs rp) (fun k => by simp only [minecontrolref18_Check.j5, Bool.false_eq_true, if_false]) ?_
    exact r_l2 hz (by omega) (by rw [w64 (by omega) (by omega)]; exact ih (i + 1) (by omega)) i 0 (by omega) (fun k hk => by omega)

theorem r_l0 {ss : List S32} {zs : List Int} {rp : Int} (hl : ss.length ≤ 32) (hz : zs.length ≤ 16) : ∀ (d i : Nat), i + d = ss.length → Ev (fun k => minecontrolref18_Check.l0 k (i : Int) ss zs rp) (sErrs ss (zErrs ss.length zs rp zs.length 0) d i) := by
  intro d
  induction d with
  | zero =>
    intro i hi
    refine Ev.step (fun k => ?_) (r_zones (ss := ss) (rp := rp) hz zs.length 0 (by omega))
    simp only [minecontrolref18_Check.l0]
    rw [if_neg (by omega)]; rfl
  | succ d ih =>
    intro i hi
    simp only [sErrs]
    exact r_step hl (by omega) (by rw [w64 (by omega) (by omega)]; exact ih (i + 1) (by omega))

theorem rcheck (ss : List S32) (zs : List Int) (rp : Int) : Ev (fun k => minecontrolref18_Check.f k ss zs rp) (chk ss zs rp) := by
  unfold chk minecontrolref18_Check.f
  by_cases h1 : ss.length > 32
  · simp only [if_pos h1, if_pos (show (ss.length : Int) > 32 by omega)]
    exact Ev.step (f := fun _ => some 2) (fun k => by simp only [minecontrolref18_Check.j0, if_true]) (Ev.now _)
  · simp only [if_neg h1, if_neg (show ¬ (ss.length : Int) > 32 by omega)]
    by_cases h2 : zs.length > 16
    · rw [if_pos h2]
      exact Ev.step (f := fun _ => some 2) (fun k => by simp only [minecontrolref18_Check.j0]; rw [if_pos (by simp; omega)]) (Ev.now _)
    · rw [if_neg h2]
      exact Ev.step (fun k => by simp only [minecontrolref18_Check.j0]; rw [if_neg (by simp; omega)]; rfl) (r_l0 (by omega) (by omega) ss.length 0 (by omega))

end Go.Proofs.Ytcgeflbifbaecaa.Com
