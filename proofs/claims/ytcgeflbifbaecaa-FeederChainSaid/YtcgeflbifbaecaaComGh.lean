/- Networks over a story: what opening, closing and answers come to, and that right networks stay right. -/
import Derived.Test.YtcgeflbifbaecaaComCh
import Derived.Test.YtcgeflbifbaecaaPFehx4
namespace Go.Proofs.Ytcgeflbifbaecaa.Com
open Go.RowKit Go.Proofs.Ytcgeflbifbaecaa.PFeh Go.Proofs.YtcgeflbifbaecaaW.PrintWords Go.Proofs.YtcgeflbifbaecaaW.PrintLast Go.Proofs.YtcgeflbifbaecaaW.PrintMore

/-- A right network in which nothing was told later than t. -/
def St (ss : List S32) (zs : List Int) (rp t : Int) : Prop := Ok ss zs rp ∧ ∀ j : Nat, j < ss.length → (rd_T32 ss j).f1 ≤ t
theorem St.later {ss : List S32} {zs : List Int} {rp t t' : Int} (h : St ss zs rp t) (ht : t ≤ t') : St ss zs rp t' := ⟨h.1, fun j hj => Int.le_trans (h.2 j hj) ht⟩
theorem St.set {ss : List S32} {zs : List Int} {rp t : Int} (h : St ss zs rp t) {s : Int} (s0 : 0 ≤ s) (s1 : s < ss.length) {x : S32} (hx : sBad x s = 0) (h1 : x.f1 ≤ t) : St (ss.set s.toNat x) zs rp t := by
  have key : ∀ j : Nat, j < ss.length → (rd_T32 (ss.set s.toNat x) j = x ∧ (j : Int) = s) ∨ (rd_T32 (ss.set s.toNat x) j = rd_T32 ss j ∧ (j : Int) ≠ s) := by
    intro j hj
    by_cases e : (j : Int) = s
    · subst e; exact .inl ⟨rd32_set_eq s0 s1, rfl⟩
    · exact .inr ⟨rd32_set_ne s0 (by omega) e, e⟩
  refine ⟨⟨by rw [List.length_set]; exact h.1.few, h.1.zfew, fun i hi => ?_, fun i hi => ?_, h.1.rp0, h.1.rp1⟩, fun j hj => ?_⟩
  · rw [List.length_set] at hi
    rcases key i hi with ⟨e, e2⟩ | ⟨e, -⟩
    · rw [e, e2]; exact hx
    · rw [e]; exact h.1.sw i hi
  · rw [List.length_set]; exact h.1.zo i hi
  · rw [List.length_set] at hj
    rcases key j hj with ⟨e, -⟩ | ⟨e, -⟩
    · rw [e]; exact h1
    · rw [e]; exact h.2 j hj
theorem St.bad {ss : List S32} {zs : List Int} {rp t : Int} (h : St ss zs rp t) {s : Int} (s0 : 0 ≤ s) (s1 : s < ss.length) : sBad (rd_T32 ss s) s = 0 := by
  obtain ⟨n, rfl⟩ : ∃ n : Nat, s = (n : Int) := ⟨s.toNat, by omega⟩
  exact h.1.sw n (by omega)
theorem St.tim {ss : List S32} {zs : List Int} {rp t : Int} (h : St ss zs rp t) {u : Int} (h0 : 0 ≤ u) (h1 : u ≤ 2147483648) (h2 : t ≤ u) : tim ss u = true := tim_true.2 ⟨h0, h1, fun j hj => Int.le_trans (h.2 j hj) h2⟩

/-- What telling a switch to open does. -/
def openS (ss : List S32) (s t : Int) : Bool × List S32 := if (rd_T32 ss s).f3 = true then (true, ss.set s.toNat ⟨(rd_T32 ss s).f0, t, 0, false, false⟩) else (false, ss)
theorem openS_len (ss : List S32) (s t : Int) : (openS ss s t).2.length = ss.length := by
  unfold openS; split
  · rw [List.length_set]
  · rfl
theorem open_f {ss : List S32} {s : Int} (s0 : 0 ≤ s) (s1 : s < ss.length) (zs : List Int) (rp t : Int) : feeder_open.f ss zs rp s t = some (openS ss s t) := by
  unfold feeder_open.f openS
  rw [if_pos s0, if_pos s1]
  by_cases h : (rd_T32 ss s).f3 = true
  · rw [if_pos h, if_pos h]
    simp only [Option.bind_some]
    rw [rd32_set_eq s0 s1]
    simp only [List.set_set]
    rw [rd32_set_eq s0 s1]
    simp only
    rw [rd32_set_eq s0 s1]
  · rw [if_neg h, if_neg h]
theorem St.open {ss : List S32} {zs : List Int} {rp t : Int} (h : St ss zs rp t) {s : Int} (s0 : 0 ≤ s) (s1 : s < ss.length) (h0 : 0 ≤ t) (h1 : t ≤ 2147483648) : St (openS ss s t).2 zs rp t := by
  unfold openS
  split
  · have hb := sBad_zero.1 (h.bad s0 s1)
    exact h.set s0 s1 (sBad_zero.2 ⟨hb.1, hb.2.1, h0, h1, by show (-1 : Int) ≤ 0; omega, by show (0 : Int) ≤ 1; omega, fun g => by simp at g⟩) (Int.le_refl _)
  · exact h
end Go.Proofs.Ytcgeflbifbaecaa.Com
