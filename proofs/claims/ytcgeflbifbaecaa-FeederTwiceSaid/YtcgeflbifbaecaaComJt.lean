/- Answers, and ticks: what the program comes to, for any network. -/
import Derived.Test.YtcgeflbifbaecaaComIt
import Derived.Test.YtcgeflbifbaecaaPFetx10
namespace Go.Proofs.Ytcgeflbifbaecaa.Com
open Go.RowKit Go.Proofs.Ytcgeflbifbaecaa.PFet Go.Proofs.YtcgeflbifbaecaaW.PrintWords Go.Proofs.YtcgeflbifbaecaaW.PrintLast Go.Proofs.YtcgeflbifbaecaaW.PrintMore

/-- A switch behind an answer. -/
def answS (x : S32) (sh : Int) : S32 := ⟨x.f0, x.f1, sh, x.f3, x.f4 && sh != -1⟩
/-- An answer. -/
noncomputable def answR (ss : List S32) (zs : List Int) (rp s sh : Int) : List S32 × List Int × Int × Int :=
  if chk ss zs rp = 0 then (if s < 0 then errR 16 else if s ≥ ss.length then errR 16 else if sh = 1 then (ss.set s.toNat (answS (rd_T32 ss s) sh), zs, rp, 0) else if sh = -1 then (ss.set s.toNat (answS (rd_T32 ss s) sh), zs, rp, 0) else errR 10) else errR (chk ss zs rp)
theorem answ_ev (ss : List S32) (zs : List Int) (rp s sh : Int) : Ev (fun k => feeder_Answer.f k ss zs rp s sh) (answR ss zs rp s sh) := by
  unfold feeder_Answer.f
  refine Ev.bind (pcheck ss zs rp) ?_
  unfold answR
  by_cases h : chk ss zs rp = 0
  · simp only [if_pos h]
    have ho := chk_zero.1 h
    have J : Ev (fun k => feeder_Answer.j0 k s sh true ss zs rp) (errR 16) := Ev.step (f := fun _ => some (errR 16)) (fun k => by simp only [feeder_Answer.j0, if_true]) (Ev.now _)
    by_cases h0 : s < 0
    · simp only [if_pos h0]; exact J
    simp only [if_neg h0]
    by_cases h1 : s ≥ (ss.length : Int)
    · rw [if_pos h1, decide_eq_true h1]; exact J
    rw [if_neg h1, decide_eq_false h1]
    have key : ∀ r, (if (answS (rd_T32 ss s) sh).f4 = (answS (rd_T32 ss s) sh).f4 then some (ss.set s.toNat (answS (rd_T32 ss s) sh), zs, rp, 0) else none) = some r → (some (ss.set s.toNat ⟨(rd_T32 ss s).f0, (rd_T32 ss s).f1, sh, (rd_T32 ss s).f3, (rd_T32 ss s).f4⟩)).bind (fun y : List S32 => if (rd_T32 y s).f4 = true then some (y.set s.toNat (⟨(rd_T32 y s).f0, (rd_T32 y s).f1, (rd_T32 y s).f2, (rd_T32 y s).f3, (sh != (-1))⟩ : S32), zs, rp, (0 : Int)) else some (y.set s.toNat (⟨(rd_T32 y s).f0, (rd_T32 y s).f1, (rd_T32 y s).f2, (rd_T32 y s).f3, false⟩ : S32), zs, rp, 0)) = some r := by
      intro r hr
      rw [if_pos rfl] at hr
      rw [← hr]
      simp only [Option.bind_some]
      rw [rd32_set_eq (by omega) (by omega)]
      simp only [List.set_set]
      unfold answS
      cases h4 : (rd_T32 ss s).f4
      · simp
      · simp
    by_cases h2 : sh = 1
    · rw [if_pos h2]
      refine Ev.step (f := fun _ => some (ss.set s.toNat (answS (rd_T32 ss s) sh), zs, rp, 0)) (fun k => ?_) (Ev.now _)
      simp only [feeder_Answer.j0, Bool.false_eq_true, if_false]
      rw [if_pos h2, clone_ev ho.few ho.zfew]
      simp only [Option.bind_some]
      rw [if_pos (by omega), if_pos (by omega)]
      exact key _ (if_pos rfl)
    by_cases h3 : sh = -1
    · rw [if_neg h2, if_pos h3]
      refine Ev.step (f := fun _ => some (ss.set s.toNat (answS (rd_T32 ss s) sh), zs, rp, 0)) (fun k => ?_) (Ev.now _)
      simp only [feeder_Answer.j0, Bool.false_eq_true, if_false]
      rw [if_neg h2, if_pos h3, clone_ev ho.few ho.zfew]
      simp only [Option.bind_some]
      rw [if_pos (by omega), if_pos (by omega)]
      exact key _ (if_pos rfl)
    · rw [if_neg h2, if_neg h3]
      refine Ev.step (f := fun _ => some (errR 10)) (fun k => ?_) (Ev.now _)
      simp only [feeder_Answer.j0, Bool.false_eq_true, if_false]
      rw [if_neg h2, if_neg h3]
  · simp only [if_neg h]; exact Ev.now _

theorem St.answ {ss : List S32} {zs : List Int} {rp t : Int} (h : St ss zs rp t) {s : Int} (s0 : 0 ≤ s) (s1 : s < ss.length) {sh : Int} (hs : sh = 1 ∨ sh = -1) : St (ss.set s.toNat (answS (rd_T32 ss s) sh)) zs rp t := by
  have hb := sBad_zero.1 (h.bad s0 s1)
  refine h.set s0 s1 (sBad_zero.2 ⟨hb.1, hb.2.1, hb.2.2.1, hb.2.2.2.1, ?_, ?_, fun g => ?_⟩) ?_
  · show -1 ≤ sh; omega
  · show sh ≤ 1; omega
  · have g : ((rd_T32 ss s).f4 && sh != -1) = true := g
    rw [Bool.and_eq_true] at g
    exact ⟨(hb.2.2.2.2.2.2 g.1).1, by show ¬ sh = -1; simpa using g.2⟩
  · obtain ⟨n, rfl⟩ : ∃ n : Nat, s = (n : Int) := ⟨s.toNat, by omega⟩
    exact h.2 n (by omega)
theorem St.tick {ss : List S32} {zs : List Int} {rp t : Int} (h : St ss zs rp t) (t0 : 0 ≤ t) (t1 : t ≤ 2147483648) : St (tickS ss t rp).1 zs rp t := (tickF_in t0 t1 ss.length ss [] [] h (Nat.le_refl _)).1
end Go.Proofs.Ytcgeflbifbaecaa.Com
