/- The plain law of DoorLocks: orders never leave both ends of a double door open. -/
import Derived.Test.YtmlkchkhgjebgaaPDoox12
import Derived.Test.YtmlkchkhgjebgaaComA
import Derived.Test.YtmlkchkhgjebgaaComC
namespace Go.Proofs.Ytmlkchkhgjebgaa.Pure
open Go.RowKit Go.Proofs.Ytmlkchkhgjebgaa.PDoo Go.Proofs.Ytmlkchkhgjebgaa.Com Go.Proofs.YtmlkchkhgjebgaaW.PrintWords Go.Proofs.YtmlkchkhgjebgaaW.PrintLast Go.Proofs.YtmlkchkhgjebgaaW.PrintMore
set_option linter.unusedVariables false

/-- One end of each double door is shut. -/
def Safe (l : List S36) (st : List Int) : Prop := ∀ j : Int, 0 ≤ j → j < l.length → (rd_T36 l j).f1 ≥ 0 → rd st j = 0 ∨ rd st (rd_T36 l j).f1 = 0
theorem safe_op {l : List S36} {st : List Int} (h : Safe l st) : ∀ (d i : Nat), i + d = l.length → op l st d i [] = [] := by
  intro d
  induction d with
  | zero => intro i _; rfl
  | succ d ih =>
    intro i hi
    simp only [op]
    by_cases h1 : (rd_T36 l i).f1 ≥ 0
    · rw [if_pos h1]
      rcases h i (by omega) (by omega) h1 with e | e
      · rw [if_pos e]; exact ih (i + 1) (by omega)
      · rw [if_pos e, ite_self]; exact ih (i + 1) (by omega)
    · rw [if_neg h1]; exact ih (i + 1) (by omega)
theorem safe_opens {l : List S36} {st : List Int} (h : Safe l st) : opens l st = [] := by
  unfold opens
  split
  · split
    · exact safe_op h l.length 0 (by omega)
    · rfl
  · rfl
theorem safe_set {l : List S36} {st : List Int} {d s : Int} (hc : chk l = 0) (hs : st.length = l.length) (h0 : 0 ≤ d) (h1 : d < l.length) (h : Safe l st)
    (hd : s = 0 ∨ (rd_T36 l d).f1 < 0 ∨ rd st (rd_T36 l d).f1 = 0) : Safe l (st.set d.toNat s) := by
  intro j j0 j1 j2
  have ho := other_lt hc j0 j1 j2
  by_cases e : j = d
  · subst e
    rw [rd_set_eq h0 (by omega), rd_set_ne h0 j2 ho.2.1]
    rcases hd with e | e | e
    · exact .inl e
    · omega
    · exact .inr e
  · rw [rd_set_ne h0 j0 e]
    by_cases e2 : (rd_T36 l j).f1 = d
    · rw [e2, rd_set_eq h0 (by omega)]
      have e3 : (rd_T36 l d).f1 = j := by rw [← e2]; exact ho.2.2
      rw [e3] at hd
      rcases hd with e | e | e
      · exact .inr e
      · omega
      · exact .inl e
    · rw [rd_set_ne h0 j2 e2]
      exact h j j0 j1 j2
theorem safe_cmd {l : List S36} {st : List Int} {d s : Int} (h : Safe l st) (h0 : (cmd l st d s).2 = 0) : Safe l (cmd l st d s).1 := by
  unfold cmd at h0 ⊢
  by_cases hz : chg l st d s 0 = 0
  · obtain ⟨hc, hs, d0, d1, -, -⟩ := chg_zero hz
    rw [if_pos hz] at h0 ⊢
    by_cases g : s = 0
    · rw [if_pos g]
      exact safe_set hc hs d0 d1 h (.inl g)
    · rw [if_neg g] at h0 ⊢
      by_cases g1 : (rd_T36 l d).f1 ≥ 0
      · rw [if_pos g1] at h0 ⊢
        by_cases g2 : rd st (rd_T36 l d).f1 = 0
        · rw [if_pos g2]
          exact safe_set hc hs d0 d1 h (.inr (.inr g2))
        · rw [if_neg g2] at h0
          simp at h0
      · rw [if_neg g1]
        exact safe_set hc hs d0 d1 h (.inr (.inl (by omega)))
  · rw [if_neg hz] at h0
    exact absurd h0 hz
theorem cmd_length {l : List S36} {st : List Int} {d s : Int} (h0 : (cmd l st d s).2 = 0) : (cmd l st d s).1.length = l.length := by
  unfold cmd at h0 ⊢
  by_cases hz : chg l st d s 0 = 0
  · obtain ⟨hc, hs, -⟩ := chg_zero hz
    rw [if_pos hz] at h0 ⊢
    by_cases g : s = 0
    · rw [if_pos g, List.length_set]; exact hs
    · rw [if_neg g] at h0 ⊢
      by_cases g1 : (rd_T36 l d).f1 ≥ 0
      · rw [if_pos g1] at h0 ⊢
        by_cases g2 : rd st (rd_T36 l d).f1 = 0
        · rw [if_pos g2, List.length_set]; exact hs
        · rw [if_neg g2] at h0
          simp at h0
      · rw [if_neg g1, List.length_set]; exact hs
  · rw [if_neg hz] at h0
    exact absurd h0 hz

theorem locks_l0 {x1 : List Int} {l : List S36} (hx : x1.length ≤ 60) : ∀ (d i : Nat) (st : List Int), i + d = x1.length → Safe l st → Ev (fun k => minecontrollaw08_DoorLocks.l0 k x1 l st (i : Int)) true := by
  intro d
  induction d with
  | zero =>
    intro i st hi _
    refine Ev.step (fun k => by simp only [minecontrollaw08_DoorLocks.l0]; rw [if_neg (by omega)]) ?_
    exact Ev.bind awake_ev (Ev.now _)
  | succ d ih =>
    intro i st hi hS
    have w1 : wrap64 ((i : Int) + 1) = ((i + 1 : Nat) : Int) := by rw [w64' (by omega) (by omega)]; rfl
    refine Ev.step (fun k => by simp only [minecontrollaw08_DoorLocks.l0]; rw [if_pos (by omega), if_pos (by omega), w1]) ?_
    refine Ev.bind (p_command l st _ _) ?_
    by_cases h0 : (cmd l st (wrap64 (Int.tmod (rd x1 i) 8)) (wrap64 ((wrap64 (Int.tmod (IntKind.u16.wrap (Int.tdiv (rd x1 i) 8)) 7)) - 1))).2 = 0
    · simp only [if_pos h0, if_pos (show (((cmd l st (wrap64 (Int.tmod (rd x1 i) 8)) (wrap64 ((wrap64 (Int.tmod (IntKind.u16.wrap (Int.tdiv (rd x1 i) 8)) 7)) - 1))).1.length : Int) = (l.length : Int)) by rw [cmd_length h0])]
      have hS2 := safe_cmd hS h0
      refine Ev.bind (p_open l _) ?_
      rw [safe_opens hS2]
      simp only [List.length_nil]
      refine Ev.congr (fun k => by rw [if_neg (by omega)]) (ih (i + 1) _ (by omega) hS2)
    · simp only [if_neg h0]
      exact ih (i + 1) st (by omega) hS
theorem DoorLocks : minecontrollaw08_DoorLocks.Pure := by
  intro l0 l1 _ _ hb _ _ _
  obtain ⟨ds, ss, e0, -, hl, -⟩ := doors_ev hb 0 0
  refine Ev.rounds (g := fun k => minecontrollaw08_DoorLocks.f k l0 l1) ?_
  unfold minecontrollaw08_DoorLocks.f
  refine Ev.bind e0 ?_
  dsimp only
  refine Ev.bind (rcheck ds) ?_
  have J : Ev (fun k => minecontrollaw08_DoorLocks.j0 k l1 ds true) true :=
    Ev.step (fun k => by simp only [minecontrollaw08_DoorLocks.j0, if_true]) (Ev.bind awake_ev (Ev.now _))
  by_cases hc : chk ds = 0
  · simp only [if_pos hc]
    by_cases h60 : (l1.length : Int) > 60
    · simp only [decide_eq_true h60]; exact J
    · simp only [decide_eq_false h60]
      refine Ev.step (fun k => ?_) (locks_l0 (x1 := l1) (l := ds) (by omega) l1.length 0 (List.replicate ((ds.length : Int)).toNat 0) (by omega) ?_)
      · simp only [minecontrollaw08_DoorLocks.j0, Bool.false_eq_true, if_false]
        rw [if_pos (by omega), if_pos (by omega)]; rfl
      · intro j j0 j1 _
        left
        unfold rd
        rw [List.getD_eq_getElem?_getD, List.getElem?_replicate]
        split <;> rfl
  · simp only [if_neg hc]; exact J

end Go.Proofs.Ytmlkchkhgjebgaa.Pure
