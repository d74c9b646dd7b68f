/- When a tick is due. -/
import Derived.Test.YtcgeflbifbaecaaComGh
import Derived.Test.YtcgeflbifbaecaaComWh
import Derived.Test.YtcgeflbifbaecaaPFehx0
namespace Go.Proofs.Ytcgeflbifbaecaa.Com
open Go.RowKit Go.Proofs.Ytcgeflbifbaecaa.PFeh Go.Proofs.YtcgeflbifbaecaaW.PrintWords Go.Proofs.YtcgeflbifbaecaaW.PrintLast Go.Proofs.YtcgeflbifbaecaaW.PrintMore

theorem dueF_in {ss : List S32} {zs : List Int} {rp t : Int} (h : St ss zs rp t) : ∀ (d i : Nat) (o : Int), i + d = ss.length →
    dueF ss rp d i o ≤ o ∧ (∀ j : Nat, i ≤ j → j < ss.length → waitsB (rd_T32 ss (j : Int)) = true → dueF ss rp d i o ≤ (rd_T32 ss (j : Int)).f1 + rp) ∧ (dueF ss rp d i o = o ∨ ∃ j : Nat, j < ss.length ∧ waitsB (rd_T32 ss (j : Int)) = true ∧ dueF ss rp d i o = (rd_T32 ss (j : Int)).f1 + rp) := by
  intro d
  induction d with
  | zero => intro i o hi; exact ⟨Int.le_refl _, fun j h1 h2 => by omega, .inl rfl⟩
  | succ d ih =>
    intro i o hi
    have hb := sBad_zero.1 (h.bad (s := (i : Int)) (by omega) (by omega))
    have hr := h.1.rp0; have hr1 := h.1.rp1
    simp only [dueF]
    by_cases hw : waitsB (rd_T32 ss (i : Int)) = true
    · rw [if_pos hw, w64 (n := (rd_T32 ss (i : Int)).f1 + rp) (by omega) (by omega)]
      obtain ⟨a, b, c⟩ := ih (i + 1) (mn o ((rd_T32 ss (i : Int)).f1 + rp)) (by omega)
      have hm : mn o ((rd_T32 ss (i : Int)).f1 + rp) ≤ o ∧ mn o ((rd_T32 ss (i : Int)).f1 + rp) ≤ (rd_T32 ss (i : Int)).f1 + rp ∧ (mn o ((rd_T32 ss (i : Int)).f1 + rp) = o ∨ mn o ((rd_T32 ss (i : Int)).f1 + rp) = (rd_T32 ss (i : Int)).f1 + rp) := by unfold mn; split <;> omega
      refine ⟨by omega, fun j h1 h2 h3 => ?_, ?_⟩
      · by_cases e : j = i
        · subst e; omega
        · exact b j (by omega) h2 h3
      · rcases c with c | c
        · rcases hm.2.2 with hm | hm
          · exact .inl (by omega)
          · exact .inr ⟨i, by omega, hw, by omega⟩
        · exact .inr c
    · rw [if_neg hw]
      obtain ⟨a, b, c⟩ := ih (i + 1) o (by omega)
      refine ⟨a, fun j h1 h2 h3 => ?_, c⟩
      by_cases e : j = i
      · subst e; exact absurd h3 hw
      · exact b j (by omega) h2 h3
end Go.Proofs.Ytcgeflbifbaecaa.Com
