/- The statement LevelStories, over numbers and lists: over any story that is drawn, the program's watch and the reference's are the same, step by step. -/
import Derived.Test.YthdeooggfdfoiaaComC
import Derived.Test.YthdeooggfdfoiaaComD
import Derived.Test.YthdeooggfdfoiaaPLevx9
namespace Go.Proofs.Ythdeooggfdfoiaa.Pure
open Go.RowKit Go.Proofs.Ythdeooggfdfoiaa.PLev Go.Proofs.Ythdeooggfdfoiaa.Com Go.Proofs.YthdeooggfdfoiaaW.PrintWords Go.Proofs.YthdeooggfdfoiaaW.PrintLast Go.Proofs.YthdeooggfdfoiaaW.PrintMore

theorem stories_l0 {cut clear delay : Int} (hL : Lv cut clear delay) (out : List S48) (hg : ∀ s ∈ out, G s) (hlen : out.length ≤ 13) : ∀ (d : Nat) (i t since last : Int) (over : Bool),
    0 ≤ i → i + d = out.length → Wt over since last → last ≤ t → 0 ≤ t → t ≤ 5 * i →
    Ev (fun k => minecontrollaw17_LevelStories.l0 k t out (out.length : Int) i cut clear delay over since last over since last) true
  | 0, i, t, since, last, over, h0, hd, hw, hl, ht0, ht => by
    refine Ev.step (fun k => by rw [minecontrollaw17_LevelStories.l0]) ?_
    simp only [if_neg (show ¬ i < (out.length : Int) by omega)]
    refine Ev.bind awake_ev ?_
    exact Ev.now _
  | d + 1, i, t, since, last, over, h0, hd, hw, hl, ht0, ht => by
    have hlt : i < (out.length : Int) := by omega
    have hG := rd_G hg h0 hlt
    have hw0 := hG.w0; have hw1 := hG.w1
    refine Ev.step (fun k => by rw [minecontrollaw17_LevelStories.l0]) ?_
    simp only [if_pos hlt, if_pos h0]
    rw [w64 (n := t + (rd_T48 out i).f0) (by omega) (by omega)]
    refine Ev.bind (step_ev hL hw (by omega) (by omega) (by omega)) ?_
    refine Ev.bind (rstep_ev hL hw (by omega) (by omega) (by omega)) ?_
    simp only [beq_self_eq_true, Bool.not_true, Bool.or_self, Bool.false_eq_true, if_false, if_true]
    obtain ⟨hw', e3, _⟩ := stp_wt (cut := cut) (clear := clear) (delay := delay) (lo := (rd_T48 out i).f1) (hi := (rd_T48 out i).f2) (t := t + (rd_T48 out i).f0) hw (by omega) (by omega)
    rw [w64 (n := i + 1) (by omega) (by omega)]
    exact stories_l0 hL out hg hlen d (i + 1) _ _ _ _ (by omega) (by omega) hw' (by omega) (by omega) (by omega)

theorem LevelStories : minecontrollaw17_LevelStories.Pure := by
  intro l _ _ hb
  refine Ev.rounds ?_
  obtain ⟨l', e0, c0⟩ := new_ev hb
  obtain ⟨cut, clear, delay, a1, e1, c1, h1, h2, h3, h4, h5, h6⟩ := level_ev c0
  obtain ⟨out, a2, e2, hlen, hg⟩ := story_ev (clear := clear) (cut := cut) (delay := delay) c1 h3 (by omega)
  have hL : Lv cut clear delay := ⟨h3, h4, by omega, h5, by omega⟩
  unfold minecontrollaw17_LevelStories.f
  rw [e0]; simp only [Option.bind_some]
  refine Ev.bind e1 ?_
  dsimp only
  unfold level_Begin.f minecontrolref17_Begin.f
  simp only [Option.bind_some]
  refine Ev.bind e2 ?_
  dsimp only
  exact stories_l0 hL out hg hlen out.length 0 0 (-1) 0 true (by omega) (by omega) ⟨by omega, by omega, by omega, .inl rfl⟩ (by omega) (by omega) (by omega)

end Go.Proofs.Ythdeooggfdfoiaa.Pure
