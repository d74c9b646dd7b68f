/- The statement LevelNext, over numbers: the program and the reference tell the same time from which on a threshold can end. -/
import Derived.Test.YthdeooggfdfoiaaComA
import Derived.Test.YthdeooggfdfoiaaComD
import Derived.Test.YthdeooggfdfoiaaPLevx7
namespace Go.Proofs.Ythdeooggfdfoiaa.Pure
open Go.RowKit Go.Proofs.Ythdeooggfdfoiaa.PLev Go.Proofs.Ythdeooggfdfoiaa.Com Go.Proofs.YthdeooggfdfoiaaW.PrintWords Go.Proofs.YthdeooggfdfoiaaW.PrintLast Go.Proofs.YthdeooggfdfoiaaW.PrintMore

theorem check_eq (a b c : Int) : ∃ v, level_Check.f a b c = some v ∧ minecontrolref17_Check.f a b c = some v := by
  unfold level_Check.f minecontrolref17_Check.f
  by_cases h1 : a > 1000000 <;> by_cases h2 : b < 0 <;> by_cases h3 : b ≥ a <;> by_cases h4 : c < 0 <;> by_cases h5 : c > 100000 <;> simp only [h1, h2, h3, h4, h5, if_true, if_false] <;> exact ⟨_, rfl, rfl⟩

theorem next_eq (a b c : Int) (o : Bool) (s l : Int) : ∃ v, level_Next.f a b c o s l = some v ∧ minecontrolref17_Next.f a b c o s l = some v := by
  obtain ⟨v, h1, h2⟩ := check_eq a b c
  unfold level_Next.f minecontrolref17_Next.f
  rw [h1, h2]
  simp only [Option.bind_some]
  split
  · split <;> exact ⟨_, rfl, rfl⟩
  · exact ⟨_, rfl, rfl⟩

theorem LevelNext : minecontrollaw17_LevelNext.Pure := by
  intro l a b c o s la _ _ hb _ _ _ _ _
  refine Ev.rounds ?_
  unfold minecontrollaw17_LevelNext.f
  by_cases hs : s > 2147483648
  · simp only [if_pos hs]
    exact Ev.bind awake_ev (Ev.now _)
  · simp only [if_neg hs]
    obtain ⟨l', e0, c0⟩ := new_ev hb
    obtain ⟨cut, clear, delay, a1, e1, c1, _⟩ := level_ev c0
    obtain ⟨v, a2, e2, c2, _⟩ := range_ev c1 (-1) 30 (by omega) (by omega) (by omega)
    rw [e0]; simp only [Option.bind_some]
    refine Ev.bind e1 ?_
    dsimp only
    refine Ev.bind e2 ?_
    dsimp only
    obtain ⟨x1, h1, h1'⟩ := next_eq cut clear delay o s la
    obtain ⟨x2, h2, h2'⟩ := next_eq a b c o s la
    obtain ⟨x3, h3, h3'⟩ := next_eq cut clear delay true v 0
    rw [h1, h1', h2, h2', h3, h3']
    simp only [Option.bind_some, if_true]
    exact Ev.bind awake_ev (Ev.now _)

end Go.Proofs.Ythdeooggfdfoiaa.Pure
