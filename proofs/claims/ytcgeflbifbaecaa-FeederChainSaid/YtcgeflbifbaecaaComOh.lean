/- A tick at which one switch alone has not opened in time; which switches have failed, where it is one. -/
import Derived.Test.YtcgeflbifbaecaaComHh
import Derived.Test.YtcgeflbifbaecaaPFehx0
namespace Go.Proofs.Ytcgeflbifbaecaa.Com
open Go.RowKit Go.Proofs.Ytcgeflbifbaecaa.PFeh Go.Proofs.YtcgeflbifbaecaaW.PrintWords Go.Proofs.YtcgeflbifbaecaaW.PrintLast Go.Proofs.YtcgeflbifbaecaaW.PrintMore

theorem St.tick' {ss : List S32} {zs : List Int} {rp t : Int} (h : St ss zs rp t) (t0 : 0 ≤ t) (t1 : t ≤ 2147483648) : St (tickS ss t rp).1 zs rp t := (tickF_in t0 t1 ss.length ss [] [] h (Nat.le_refl _)).1
theorem tickF_skip {t rp : Int} : ∀ (d i : Nat) (ss : List S32) (l o : List Int), (∀ j : Nat, i ≤ j → j < i + d → fire (rd_T32 ss (j : Int)) t rp = false) → tickF t rp (i + d) ss l o = tickF t rp i ss l o := by
  intro d
  induction d with
  | zero => intro i ss l o _; rfl
  | succ d ih =>
    intro i ss l o h
    rw [show i + (d + 1) = (i + d) + 1 from rfl]
    simp only [tickF]
    rw [if_neg (by rw [h (i + d) (by omega) (by omega)]; simp), ih i ss l o (fun j h1 h2 => h j h1 (by omega))]
/-- What a tick does, where the switch i alone has not opened in time. -/
theorem tick_one {ss : List S32} {zs : List Int} {rp t : Int} (h : St ss zs rp t) (t0 : 0 ≤ t) (t1 : t ≤ 2147483648) {i : Nat} (hi : i < ss.length)
    (hf : ∀ j : Nat, j < ss.length → (fire (rd_T32 ss (j : Int)) t rp = true ↔ j = i)) :
    tickS ss t rp = if (rd_T32 ss (i : Int)).f0 ≥ 0 then ((openS (ss.set i (lateS (rd_T32 ss (i : Int)))) (rd_T32 ss (i : Int)).f0 t).2, [(i : Int)], if (openS (ss.set i (lateS (rd_T32 ss (i : Int)))) (rd_T32 ss (i : Int)).f0 t).1 = true then [(rd_T32 ss (i : Int)).f0] else []) else (ss.set i (lateS (rd_T32 ss (i : Int))), [(i : Int)], []) := by
  have no : ∀ j : Nat, j < ss.length → j ≠ i → fire (rd_T32 ss (j : Int)) t rp = false := by
    intro j hj hne
    cases hc : fire (rd_T32 ss (j : Int)) t rp with
    | false => rfl
    | true => exact absurd ((hf j hj).1 hc) hne
  unfold tickS
  rw [show ss.length = (i + 1) + (ss.length - (i + 1)) from by omega, tickF_skip _ _ _ _ _ (fun j h1 h2 => no j (by omega) (by omega))]
  simp only [tickF]
  have hfi := (hf i hi).2 rfl
  rw [if_pos hfi]
  have hS := h.late hi hfi
  have hu := h.above (i := i) (by omega)
  have setne : ∀ j : Nat, j < i → rd_T32 (ss.set i (lateS (rd_T32 ss (i : Int)))) (j : Int) = rd_T32 ss (j : Int) := by
    intro j hj
    have := rd32_set_ne (l := ss) (i := (i : Int)) (j := (j : Int)) (v := lateS (rd_T32 ss (i : Int))) (by omega) (by omega) (by omega)
    rwa [Int.toNat_natCast] at this
  by_cases ha : (rd_T32 ss (i : Int)).f0 ≥ 0
  · rw [if_pos ha, if_pos ha, tickF_none]
    · simp only [List.nil_append]
    · intro j hj
      unfold openS
      by_cases hc : (rd_T32 (ss.set i (lateS (rd_T32 ss (i : Int)))) (rd_T32 ss (i : Int)).f0).f3 = true
      · rw [if_pos hc]
        simp only
        by_cases e : (j : Int) = (rd_T32 ss (i : Int)).f0
        · rw [e, rd32_set_eq ha (by rw [List.length_set]; omega)]
          cases hq : fire ⟨(rd_T32 (ss.set i (lateS (rd_T32 ss (i : Int)))) (rd_T32 ss (i : Int)).f0).f0, t, 0, false, false⟩ t rp with
          | false => rfl
          | true =>
            have := (fire_is.1 hq).2
            have hr := h.1.rp0
            have e3 : (⟨(rd_T32 (ss.set i (lateS (rd_T32 ss (i : Int)))) (rd_T32 ss (i : Int)).f0).f0, t, 0, false, false⟩ : S32).f1 = t := rfl
            rw [e3] at this
            omega
        · rw [rd32_set_ne ha (by omega) e, setne j hj]; exact no j (by omega) (by omega)
      · rw [if_neg hc, setne j hj]; exact no j (by omega) (by omega)
  · rw [if_neg ha, if_neg ha, tickF_none]
    · simp only [List.nil_append]
    · intro j hj
      rw [setne j hj]; exact no j (by omega) (by omega)
end Go.Proofs.Ytcgeflbifbaecaa.Com
