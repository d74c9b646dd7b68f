/- The statement LevelSteps, over numbers: the program's step and the reference's come to the same watch or the same error, at any threshold, watch, span and time. -/
import Derived.Test.YthdeooggfdfoiaaComA
import Derived.Test.YthdeooggfdfoiaaComD
import Derived.Test.YthdeooggfdfoiaaPLevx6
namespace Go.Proofs.Ythdeooggfdfoiaa.Pure
open Go.RowKit Go.Proofs.Ythdeooggfdfoiaa.PLev Go.Proofs.Ythdeooggfdfoiaa.Com Go.Proofs.YthdeooggfdfoiaaW.PrintWords Go.Proofs.YthdeooggfdfoiaaW.PrintLast Go.Proofs.YthdeooggfdfoiaaW.PrintMore

theorem check_cases (a b c : Int) : (Lv a b c ∧ level_Check.f a b c = some 0 ∧ minecontrolref17_Check.f a b c = some 0) ∨ (level_Check.f a b c = some 1 ∧ minecontrolref17_Check.f a b c = some 1) := by
  by_cases h : 0 ≤ b ∧ b < a ∧ a ≤ 1000000 ∧ 0 ≤ c ∧ c ≤ 100000
  · have hL : Lv a b c := ⟨h.1, h.2.1, h.2.2.1, h.2.2.2.1, h.2.2.2.2⟩
    exact .inl ⟨hL, check_ok hL, rcheck_ok hL⟩
  · refine .inr ⟨?_, ?_⟩
    · unfold level_Check.f
      by_cases h1 : a > 1000000 <;> by_cases h2 : b < 0 <;> by_cases h3 : b ≥ a <;> by_cases h4 : c < 0 <;> by_cases h5 : c > 100000 <;> simp only [h1, h2, h3, h4, h5, if_true, if_false]
      exact absurd ⟨by omega, by omega, by omega, by omega, by omega⟩ h
    · unfold minecontrolref17_Check.f
      by_cases h1 : a > 1000000 <;> by_cases h2 : b < 0 <;> by_cases h3 : b ≥ a <;> by_cases h4 : c < 0 <;> by_cases h5 : c > 100000 <;> simp only [h1, h2, h3, h4, h5, if_true, if_false]
      exact absurd ⟨by omega, by omega, by omega, by omega, by omega⟩ h

theorem step_eq (cut clear delay since last lo hi t : Int) (over : Bool) :
    ∃ r, Ev (fun k => level_Step.f k cut clear delay over since last lo hi t) r ∧ Ev (fun k => minecontrolref17_Step.f k cut clear delay over since last lo hi t) r := by
  rcases check_cases cut clear delay with ⟨hL, e1, e2⟩ | ⟨e1, e2⟩
  · by_cases ht : t < 0 ∨ t > 2147483648 ∨ t < last
    · refine ⟨(false, 0, 0, 8), ⟨1, fun k hk => ?_⟩, ⟨1, fun k hk => ?_⟩⟩
      · obtain ⟨k, rfl⟩ : ∃ m, k = m + 1 := ⟨k - 1, by omega⟩
        show level_Step.f (k + 1) cut clear delay over since last lo hi t = _
        unfold level_Step.f
        rw [e1]; simp only [Option.bind_some, if_true]
        by_cases h1 : t < 0
        · rw [if_pos h1]; simp only [level_Step.j0, if_true]
        · rw [if_neg h1]
          by_cases h2 : t > 2147483648
          · rw [if_pos h2]; simp only [level_Step.j0, if_true]
          · rw [if_neg h2, decide_eq_true (show t < last by omega)]; simp only [level_Step.j0, if_true]
      · obtain ⟨k, rfl⟩ : ∃ m, k = m + 1 := ⟨k - 1, by omega⟩
        show minecontrolref17_Step.f (k + 1) cut clear delay over since last lo hi t = _
        unfold minecontrolref17_Step.f
        rw [e2]; simp only [Option.bind_some, if_true]
        by_cases h1 : t < 0
        · rw [if_pos h1]; simp only [minecontrolref17_Step.j0, if_true]
        · rw [if_neg h1]
          by_cases h2 : t > 2147483648
          · rw [if_pos h2]; simp only [minecontrolref17_Step.j0, if_true]
          · rw [if_neg h2, decide_eq_true (show t < last by omega)]; simp only [minecontrolref17_Step.j0, if_true]
    · by_cases hw : 0 ≤ last ∧ -1 ≤ since ∧ since ≤ last ∧ (since = -1 ∨ over = true)
      · have hW : Wt over since last := ⟨hw.1, hw.2.1, hw.2.2.1, hw.2.2.2⟩
        exact ⟨_, step_ev hL hW (by omega) (by omega) (by omega), rstep_ev hL hW (by omega) (by omega) (by omega)⟩
      · refine ⟨(false, 0, 0, 10), ⟨2, fun k hk => ?_⟩, ⟨2, fun k hk => ?_⟩⟩
        · obtain ⟨k, rfl⟩ : ∃ m, k = m + 2 := ⟨k - 2, by omega⟩
          show level_Step.f (k + 2) cut clear delay over since last lo hi t = _
          unfold level_Step.f
          rw [e1]; simp only [Option.bind_some, if_true]
          rw [if_neg (by omega), if_neg (by omega), decide_eq_false (show ¬ t < last by omega)]
          simp only [level_Step.j0, Bool.false_eq_true, if_false]
          by_cases h1 : last < 0
          · rw [if_pos h1]; simp only [level_Step.j1, if_true]
          · rw [if_neg h1, if_neg (by omega)]
            by_cases h2 : since < -1
            · rw [if_pos h2]; simp only [level_Step.j1, if_true]
            · rw [if_neg h2]
              by_cases h3 : since > last
              · rw [if_pos h3]; simp only [level_Step.j1, if_true]
              · rw [if_neg h3, if_neg (fun h => hw ⟨by omega, by omega, by omega, .inl h⟩)]
                cases over with
                | true => exact absurd ⟨by omega, by omega, by omega, .inr rfl⟩ hw
                | false => simp only [Bool.not_false, level_Step.j1, if_true]
        · obtain ⟨k, rfl⟩ : ∃ m, k = m + 2 := ⟨k - 2, by omega⟩
          show minecontrolref17_Step.f (k + 2) cut clear delay over since last lo hi t = _
          unfold minecontrolref17_Step.f
          rw [e2]; simp only [Option.bind_some, if_true]
          rw [if_neg (by omega), if_neg (by omega), decide_eq_false (show ¬ t < last by omega)]
          simp only [minecontrolref17_Step.j0, Bool.false_eq_true, if_false]
          by_cases h1 : last < 0
          · rw [if_pos h1]; simp only [minecontrolref17_Step.j1, if_true]
          · rw [if_neg h1]
            by_cases h2 : since < -1
            · rw [if_pos h2]; simp only [minecontrolref17_Step.j1, if_true]
            · rw [if_neg h2]
              by_cases h3 : since > last
              · rw [if_pos h3]; simp only [minecontrolref17_Step.j1, if_true]
              · rw [if_neg h3, if_neg (fun h => hw ⟨by omega, by omega, by omega, .inl h⟩)]
                cases over with
                | true => exact absurd ⟨by omega, by omega, by omega, .inr rfl⟩ hw
                | false => simp only [Bool.not_false, minecontrolref17_Step.j1, if_true]
  · refine ⟨(false, 0, 0, 1), ⟨0, fun k _ => ?_⟩, ⟨0, fun k _ => ?_⟩⟩
    · show level_Step.f k cut clear delay over since last lo hi t = _
      unfold level_Step.f
      rw [e1]; simp only [Option.bind_some]
      rw [if_neg (by decide)]
    · show minecontrolref17_Step.f k cut clear delay over since last lo hi t = _
      unfold minecontrolref17_Step.f
      rw [e2]; simp only [Option.bind_some]
      rw [if_neg (by decide)]

theorem steps_l0 (time t : Int) (ls : List S24) (hls : ls.length = 2) (o2 : Bool) (s2 l2 lo hi cut clear delay : Int) (o3 : Bool) (s3 l3 : Int) : ∀ (d : Nat) (i : Int), 0 ≤ i → i + d = 2 →
    Ev (fun k => minecontrollaw17_LevelSteps.l0 k time t ls (ls.length : Int) i o2 s2 l2 lo hi cut clear delay o3 s3 l3) true
  | 0, i, h0, hd => by
    refine Ev.step (fun k => by rw [minecontrollaw17_LevelSteps.l0]) ?_
    simp only [if_neg (show ¬ i < (ls.length : Int) by omega)]
    unfold level_Begin.f minecontrolref17_Begin.f
    simp only [Option.bind_some, beq_self_eq_true, Bool.and_self, if_true]
    exact Ev.bind awake_ev (Ev.now _)
  | d + 1, i, h0, hd => by
    have next := steps_l0 time t ls hls o2 s2 l2 lo hi cut clear delay o3 s3 l3 d (i + 1) (by omega) (by omega)
    refine Ev.step (fun k => by rw [minecontrollaw17_LevelSteps.l0]) ?_
    simp only [if_pos (show i < (ls.length : Int) by omega), if_pos h0]
    unfold level_Begin.f
    simp only [Option.bind_some]
    generalize hws : ([(⟨o2, s2, l2⟩ : S26), (⟨o3, s3, l3⟩ : S26), (⟨true, -1, 0⟩ : S26)] : List S26) = ws
    have hwl : ws.length = 3 := by rw [← hws]; rfl
    have l1 : ∀ (e : Nat) (j : Int), 0 ≤ j → j + e = 3 → Ev (fun k => minecontrollaw17_LevelSteps.l1 k time t ls (ls.length : Int) i ws (ws.length : Int) j o2 s2 l2 lo hi cut clear delay o3 s3 l3 ((rd_T24 ls i).f0) ((rd_T24 ls i).f1) ((rd_T24 ls i).f2)) true := by
      intro e
      induction e with
      | zero =>
        intro j hj he
        refine Ev.step (fun k => by rw [minecontrollaw17_LevelSteps.l1]) ?_
        simp only [if_neg (show ¬ j < (ws.length : Int) by omega)]
        rcases check_cases (rd_T24 ls i).f0 (rd_T24 ls i).f1 (rd_T24 ls i).f2 with ⟨_, e1, e2⟩ | ⟨e1, e2⟩ <;>
          (rw [e1, e2]; simp only [Option.bind_some, if_true]; rw [w64 (n := i + 1) (by omega) (by omega)]; exact next)
      | succ e ih =>
        intro j hj he
        refine Ev.step (fun k => by rw [minecontrollaw17_LevelSteps.l1]) ?_
        simp only [if_pos (show j < (ws.length : Int) by omega), if_pos hj]
        obtain ⟨r, hr, hr'⟩ := step_eq (rd_T24 ls i).f0 (rd_T24 ls i).f1 (rd_T24 ls i).f2 (rd_T26 ws j).f1 (rd_T26 ws j).f2 lo hi time (rd_T26 ws j).f0
        refine Ev.bind hr ?_
        refine Ev.bind hr' ?_
        have nx := ih (j + 1) (by omega) (by omega)
        have l2' : ∀ (f : Nat) (q : Int), -1 ≤ q → q + f = 3 → Ev (fun k => minecontrollaw17_LevelSteps.l2 k time t r.2.2.2 r.2.2.2 q ls (ls.length : Int) i ws (ws.length : Int) j o2 s2 l2 lo hi cut clear delay o3 s3 l3 ((rd_T24 ls i).f0) ((rd_T24 ls i).f1) ((rd_T24 ls i).f2) ((rd_T26 ws j).f0) ((rd_T26 ws j).f1) ((rd_T26 ws j).f2) r.1 r.2.1 r.2.2.1 r.1 r.2.1 r.2.2.1) true := by
          intro f
          induction f with
          | zero =>
            intro q hq hf
            refine Ev.step (fun k => by rw [minecontrollaw17_LevelSteps.l2]) ?_
            simp only [if_neg (show ¬ q < 3 by omega), beq_self_eq_true, Bool.not_true, Bool.or_self, Bool.false_eq_true, if_false, if_true]
            rw [w64 (n := j + 1) (by omega) (by omega)]
            exact nx
          | succ f ihf =>
            intro q hq hf
            refine Ev.step (fun k => by rw [minecontrollaw17_LevelSteps.l2]) ?_
            simp only [if_pos (show q < 3 by omega)]
            obtain ⟨r2, hr2, hr2'⟩ := step_eq (rd_T24 ls i).f0 (rd_T24 ls i).f1 (rd_T24 ls i).f2 (rd_T26 ws j).f1 (rd_T26 ws j).f2 (-1) (wrap64 (clear + q)) t (rd_T26 ws j).f0
            refine Ev.bind hr2 ?_
            refine Ev.bind hr2' ?_
            simp only [beq_self_eq_true, Bool.not_true, Bool.or_self, Bool.false_eq_true, if_false, if_true]
            rw [w64 (n := q + 1) (by omega) (by omega)]
            exact ihf (q + 1) (by omega) (by omega)
        exact l2' 4 (-1) (by omega) (by omega)
    exact l1 3 0 (by omega) (by omega)

theorem LevelSteps : minecontrollaw17_LevelSteps.Pure := by
  intro l a b c o s la x y time _ _ hb _ _ _ _ _ _ _ _
  refine Ev.rounds ?_
  unfold minecontrollaw17_LevelSteps.f
  obtain ⟨l', e0, c0⟩ := new_ev hb
  obtain ⟨cut, clear, delay, a1, e1, c1, _⟩ := level_ev c0
  obtain ⟨v1, a2, e2, c2⟩ := one_ev c1 2 (by omega)
  obtain ⟨v2, a3, e3, c3, _⟩ := range_ev c2 (-1) 9 (by omega) (by omega) (by omega)
  obtain ⟨v3, a4, e4, c4, _⟩ := range_ev c3 0 9 (by omega) (by omega) (by omega)
  rw [e0]; simp only [Option.bind_some]
  refine Ev.bind e1 ?_
  dsimp only
  refine Ev.bind e2 ?_
  dsimp only
  refine Ev.bind e3 ?_
  dsimp only
  refine Ev.bind e4 ?_
  dsimp only
  obtain ⟨m, hm⟩ : ∃ m, minecontroldraw_Mod.f time 30 = some m := by
    unfold minecontroldraw_Mod.f
    rw [if_neg (by decide), if_neg (by decide)]
    split <;> exact ⟨_, rfl⟩
  rw [hm]; simp only [Option.bind_some]
  exact steps_l0 time m _ rfl o s la x y cut clear delay v1 v2 v3 2 0 (by omega) (by omega)

end Go.Proofs.Ythdeooggfdfoiaa.Pure
