/- The orders and the sightings of doors, as the reference has them. -/
import Derived.Test.YtmlkchkhgjebgaaComC
import Derived.Test.YtmlkchkhgjebgaaPDoox14
namespace Go.Proofs.Ytmlkchkhgjebgaa.Com
open Go.RowKit Go.Proofs.Ytmlkchkhgjebgaa.PDoo Go.Proofs.YtmlkchkhgjebgaaW.PrintWords Go.Proofs.YtmlkchkhgjebgaaW.PrintLast Go.Proofs.YtmlkchkhgjebgaaW.PrintMore

theorem p_seen (l : List S36) (st : List Int) (d s : Int) : Ev (fun k => door_Seen.f k l st d s) (seen l st d s) := by
  unfold door_Seen.f
  refine Ev.bind (change_ev l st d s (-1)) ?_
  unfold seen
  by_cases h : chg l st d s (-1) = 0
  · obtain ⟨hc, hs, h0, h1, h2, h3⟩ := chg_zero h
    have hl := (chk_zero hc).1
    have hw := with_ev (st := st) (d := d) s (by omega) h0 (by omega)
    simp only [if_pos h, hw, Option.bind_some]
    exact Ev.now _
  · simp only [if_neg h]
    exact Ev.now _

/-- What the reference's one function answers: an order, or a sighting. -/
noncomputable def sets (l : List S36) (st : List Int) (d s : Int) (b : Bool) : List Int × Int := if b then cmd l st d s else seen l st d s

theorem set_j1 {l : List S36} {st : List Int} {d s : Int} (hc : chk l = 0) (hs : st.length = l.length) (h0 : 0 ≤ d) (h1 : d < l.length) {b : Bool} (h2 : if b then 0 ≤ s else -1 ≤ s) :
    Ev (fun k => minecontrolref08_set.j1 k l st d s b (decide (s ≥ (((rd_T36 l d).f2).length : Int)))) (sets l st d s b) := by
  have hl := (chk_zero hc).1
  have hsl : ([] : List Int).length + st.length < 17592186044416 := by simp only [List.length_nil]; omega
  have hg : ∀ least : Int, least ≤ s → chg l st d s least = (if s ≥ (((rd_T36 l d).f2).length : Int) then 1 else 0) := by
    intro least hle
    unfold chg
    rw [if_pos hc, if_pos hs, if_neg (by omega), if_neg (by omega), if_neg (by omega)]
  by_cases h3 : s ≥ (((rd_T36 l d).f2).length : Int)
  · have e : sets l st d s b = ([], 1) := by
      unfold sets
      cases b with
      | true => simp only [if_true] at h2 ⊢; unfold cmd; rw [hg 0 h2, if_pos h3]; rfl
      | false => simp only [Bool.false_eq_true, if_false] at h2 ⊢; unfold seen; rw [hg (-1) h2, if_pos h3]; rfl
    rw [e]
    refine Ev.step (f := fun _ => some ([], 1)) (fun k => ?_) (Ev.now _)
    simp only [minecontrolref08_set.j1]
    rw [if_pos (by simp; omega)]
  · cases b with
    | false =>
      simp only [Bool.false_eq_true, if_false] at h2
      have e : sets l st d s false = (st.set d.toNat s, 0) := by
        simp only [sets, Bool.false_eq_true, if_false]
        unfold seen; rw [hg (-1) h2, if_neg h3]; rfl
      rw [e]
      refine Ev.step (f := fun _ => some (st.set d.toNat s, 0)) (fun k => ?_) (Ev.now _)
      simp only [minecontrolref08_set.j1, Bool.false_eq_true, if_false]
      rw [if_neg (by simp; omega), if_pos h0, if_pos h1, if_pos hsl]
      simp only [List.nil_append, Option.bind_some]
      rw [if_pos (by omega)]
    | true =>
      simp only [if_true] at h2
      have e : sets l st d s true = (if s = 0 then (st.set d.toNat s, 0) else if (rd_T36 l d).f1 ≥ 0 then (if rd st (rd_T36 l d).f1 = 0 then (st.set d.toNat s, 0) else ([], 10)) else (st.set d.toNat s, 0)) := by
        simp only [sets, if_true]
        unfold cmd; rw [hg 0 h2, if_neg h3, if_pos rfl]
      rw [e]
      by_cases g : s = 0
      · rw [if_pos g]
        refine Ev.step (f := fun _ => some (st.set d.toNat s, 0)) (fun k => ?_) (Ev.now _)
        simp only [minecontrolref08_set.j1, if_true]
        rw [if_neg (by simp; omega), if_pos h0, if_pos h1, if_pos g, if_pos hsl]
        simp only [List.nil_append, Option.bind_some]
        rw [if_pos (by omega)]
      · rw [if_neg g]
        by_cases g1 : (rd_T36 l d).f1 ≥ 0
        · have ho := other_lt hc h0 h1 g1
          rw [if_pos g1]
          by_cases g2 : rd st (rd_T36 l d).f1 = 0
          · rw [if_pos g2]
            refine Ev.step (f := fun _ => some (st.set d.toNat s, 0)) (fun k => ?_) (Ev.now _)
            simp only [minecontrolref08_set.j1, if_true]
            rw [if_neg (by simp; omega), if_pos h0, if_pos h1, if_neg g, if_pos g1, if_pos (by omega), if_pos (by omega), if_pos g2, if_pos hsl]
            simp only [List.nil_append, Option.bind_some]
            rw [if_pos (by omega)]
          · rw [if_neg g2]
            refine Ev.step (f := fun _ => some ([], 10)) (fun k => ?_) (Ev.now _)
            simp only [minecontrolref08_set.j1, if_true]
            rw [if_neg (by simp; omega), if_pos h0, if_pos h1, if_neg g, if_pos g1, if_pos (by omega), if_pos (by omega), if_neg g2]
        · rw [if_neg g1]
          refine Ev.step (f := fun _ => some (st.set d.toNat s, 0)) (fun k => ?_) (Ev.now _)
          simp only [minecontrolref08_set.j1, if_true]
          rw [if_neg (by simp; omega), if_pos h0, if_pos h1, if_neg g, if_neg g1, if_pos hsl]
          simp only [List.nil_append, Option.bind_some]
          rw [if_pos (by omega)]

theorem sets_err {l : List S36} {st : List Int} {d s : Int} {b : Bool} {e : Int} (he : e ≠ 0) (h : ∀ least, (least = if b then 0 else -1) → chg l st d s least = e) : sets l st d s b = ([], e) := by
  unfold sets
  cases b with
  | true => simp only [if_true]; unfold cmd; rw [h 0 rfl, if_neg he]
  | false => simp only [Bool.false_eq_true, if_false]; unfold seen; rw [h (-1) rfl, if_neg he]

theorem set_ev (l : List S36) (st : List Int) (d s : Int) (b : Bool) : Ev (fun k => minecontrolref08_set.f k l st d s b) (sets l st d s b) := by
  unfold minecontrolref08_set.f
  refine Ev.bind (rcheck l) ?_
  by_cases hc : chk l = 0
  · simp only [if_pos hc]
    by_cases hs : st.length = l.length
    · simp only [if_pos (show (st.length : Int) = (l.length : Int) by omega)]
      by_cases h0 : d < 0
      · simp only [if_pos h0]
        rw [sets_err (e := 15) (by decide) (fun least _ => by unfold chg; rw [if_pos hc, if_pos hs, if_pos h0])]
        exact Ev.step (f := fun _ => some ([], 15)) (fun k => by simp only [minecontrolref08_set.j0, if_true]) (Ev.now _)
      simp only [if_neg h0]
      by_cases h1 : d ≥ (l.length : Int)
      · rw [sets_err (e := 15) (by decide) (fun least _ => by unfold chg; rw [if_pos hc, if_pos hs, if_neg h0, if_pos h1])]
        refine Ev.step (f := fun _ => some ([], 15)) (fun k => ?_) (Ev.now _)
        simp only [minecontrolref08_set.j0]
        rw [if_pos (by simp; omega)]
      have J : ∀ {F : Nat → Option (List Int × Int)}, (s < if b then 0 else -1) → (∀ k, F (k + 1) = minecontrolref08_set.j1 k l st d s b true) → Ev F (sets l st d s b) := by
        intro F hlt hF
        rw [sets_err (e := 1) (by decide) (fun least hle => by unfold chg; rw [if_pos hc, if_pos hs, if_neg h0, if_neg h1, if_pos (by rw [hle]; exact hlt)])]
        exact Ev.step hF (Ev.step (f := fun _ => some ([], 1)) (fun k => by simp only [minecontrolref08_set.j1, if_true]) (Ev.now _))
      by_cases h2 : s < 0
      · cases b with
        | true =>
          refine J (by simpa using h2) (fun k => ?_)
          simp only [minecontrolref08_set.j0, if_true]
          rw [if_neg (by simp; omega), if_pos h2]
        | false =>
          by_cases h3 : s = -1
          · refine Ev.step (fun k => ?_) (set_j1 hc hs (by omega) (by omega) (b := false) (s := s) (by simp; omega))
            simp only [minecontrolref08_set.j0, Bool.false_eq_true, if_false]
            rw [if_neg (by simp; omega), if_pos h2, if_pos h3, if_pos (by omega), if_pos (by omega)]
          · refine J (by simp; omega) (fun k => ?_)
            simp only [minecontrolref08_set.j0, Bool.false_eq_true, if_false]
            rw [if_neg (by simp; omega), if_pos h2, if_neg h3]
      · refine Ev.step (fun k => ?_) (set_j1 hc hs (by omega) (by omega) (b := b) (s := s) (by cases b <;> simp <;> omega))
        simp only [minecontrolref08_set.j0]
        rw [if_neg (by simp; omega), if_neg h2, if_pos (by omega), if_pos (by omega)]
    · simp only [if_neg (show ¬ (st.length : Int) = (l.length : Int) by omega)]
      rw [sets_err (e := 11) (by decide) (fun least _ => by unfold chg; rw [if_pos hc, if_neg hs])]
      exact Ev.now _
  · simp only [if_neg hc]
    rw [sets_err (e := chk l) hc (fun least _ => by unfold chg; rw [if_neg hc])]
    exact Ev.now _

theorem r_command (l : List S36) (st : List Int) (d s : Int) : Ev (fun k => minecontrolref08_Command.f k l st d s) (cmd l st d s) := by
  unfold minecontrolref08_Command.f
  exact Ev.bind (set_ev l st d s true) (Ev.now _)
theorem r_seen (l : List S36) (st : List Int) (d s : Int) : Ev (fun k => minecontrolref08_Seen.f k l st d s) (seen l st d s) := by
  unfold minecontrolref08_Seen.f
  exact Ev.bind (set_ev l st d s false) (Ev.now _)

end Go.Proofs.Ytmlkchkhgjebgaa.Com
