/- The open doors, the orders and the sightings of doors: the program and the reference come to one and the same plain answer. -/
import Derived.Test.YtmlkchkhgjebgaaComB
import Derived.Test.YtmlkchkhgjebgaaPDoox4
import Derived.Test.YtmlkchkhgjebgaaPDoox3
namespace Go.Proofs.Ytmlkchkhgjebgaa.Com
open Go.RowKit Go.Proofs.Ytmlkchkhgjebgaa.PDoo Go.Proofs.YtmlkchkhgjebgaaW.PrintWords Go.Proofs.YtmlkchkhgjebgaaW.PrintLast Go.Proofs.YtmlkchkhgjebgaaW.PrintMore

theorem rd_set_eq {l : List Int} {i v : Int} (h0 : 0 ≤ i) (h1 : i < l.length) : rd (l.set i.toNat v) i = v := by
  unfold rd
  rw [List.getD_eq_getElem?_getD, List.getElem?_set_self (by omega)]; rfl
theorem rd_set_ne {l : List Int} {i j v : Int} (h0 : 0 ≤ i) (h1 : 0 ≤ j) (h : j ≠ i) : rd (l.set i.toNat v) j = rd l j := by
  unfold rd
  rw [List.getD_eq_getElem?_getD, List.getElem?_set_ne (by omega), ← List.getD_eq_getElem?_getD]

/-- A list is as itself. -/
theorem ints_l0 {l : List Int} (hl : l.length ≤ 1000000) : ∀ (d i : Nat), i + d = l.length → Ev (fun k => minecontrolref01_Ints.l0 k l l (i : Int)) true := by
  intro d
  induction d with
  | zero =>
    intro i hi
    refine Ev.step (f := fun _ => some true) (fun k => ?_) (Ev.now _)
    simp only [minecontrolref01_Ints.l0]
    rw [if_neg (by omega)]
  | succ d ih =>
    intro i hi
    refine Ev.step (fun k => ?_) (ih (i + 1) (by omega))
    simp only [minecontrolref01_Ints.l0]
    rw [if_pos (by omega), if_pos (by omega), if_pos (by omega), if_pos trivial, w64' (by omega) (by omega)]; rfl
theorem ints_ev {l : List Int} (hl : l.length ≤ 1000000) : Ev (fun k => minecontrolref01_Ints.f k l l) true := by
  refine Ev.congr (fun k => ?_) (ints_l0 hl l.length 0 (by omega))
  unfold minecontrolref01_Ints.f
  rw [if_pos rfl]; rfl

set_option maxRecDepth 20000 in
theorem awake_ev : Ev (fun k => minecontrollaw08_awake.f k) true :=
  Ev.of (fun k => minecontrollaw08_awake.mono k) (k := 40) (by decide +kernel)

/-- The open doors from i on (d of them are left). -/
def op (l : List S36) (st : List Int) : Nat → Nat → List Int → List Int
  | 0, _, acc => acc
  | d + 1, i, acc => op l st d (i + 1) (if (rd_T36 l i).f1 ≥ 0 then (if rd st i = 0 then acc else if rd st (rd_T36 l i).f1 = 0 then acc else acc ++ [(i : Int)]) else acc)
noncomputable def opens (l : List S36) (st : List Int) : List Int := if chk l = 0 then (if st.length = l.length then op l st l.length 0 [] else []) else []
theorem op_len {l : List S36} {st : List Int} : ∀ (d i : Nat) (acc : List Int), (op l st d i acc).length ≤ acc.length + d := by
  intro d
  induction d with
  | zero => intro i acc; exact Nat.le_refl _
  | succ d ih =>
    intro i acc
    simp only [op]
    refine Nat.le_trans (ih _ _) ?_
    split
    · split
      · omega
      · split
        · omega
        · simp; omega
    · omega

theorem other_lt {l : List S36} (h : chk l = 0) {i : Int} (h0 : 0 ≤ i) (h1 : i < l.length) (h2 : (rd_T36 l i).f1 ≥ 0) : (rd_T36 l i).f1 < l.length ∧ (rd_T36 l i).f1 ≠ i ∧ (rd_T36 l (rd_T36 l i).f1).f1 = i := by
  obtain ⟨n, rfl⟩ : ∃ n : Nat, i = (n : Int) := ⟨i.toNat, by omega⟩
  have := ((chk_zero h).2 n (by omega)).2.2
  rcases this with e | ⟨a, b, c, d⟩
  · omega
  · exact ⟨b, c, d⟩

theorem p_open_l0 {l : List S36} {st : List Int} (hc : chk l = 0) (hs : st.length = l.length) : ∀ (d i : Nat) (acc : List Int), i + d = l.length → acc.length ≤ i →
    Ev (fun k => door_Open.l0 k st acc l (l.length : Int) (i : Int)) (op l st d i acc) := by
  have hl := (chk_zero hc).1
  intro d
  induction d with
  | zero =>
    intro i acc hi ha
    refine Ev.step (f := fun _ => some acc) (fun k => ?_) (Ev.now _)
    simp only [door_Open.l0]
    rw [if_neg (by omega)]
  | succ d ih =>
    intro i acc hi ha
    have w1 : wrap64 ((i : Int) + 1) = ((i + 1 : Nat) : Int) := by rw [w64' (by omega) (by omega)]; rfl
    simp only [op]
    by_cases h1 : (rd_T36 l i).f1 ≥ 0
    · have ho := other_lt hc (i := (i : Int)) (by omega) (by omega) h1
      by_cases h2 : rd st i = 0
      · refine Ev.step (fun k => ?_) (ih (i + 1) _ (by omega) (by rw [if_pos h1, if_pos h2]; omega))
        simp only [door_Open.l0]
        rw [if_pos (by omega), if_pos (by omega), if_pos (by omega), if_pos h1, if_pos (by omega), if_pos h2, w1, if_pos h1, if_pos h2]
      · by_cases h3 : rd st (rd_T36 l i).f1 = 0
        · refine Ev.step (fun k => ?_) (ih (i + 1) _ (by omega) (by rw [if_pos h1, if_neg h2, if_pos h3]; omega))
          simp only [door_Open.l0]
          rw [if_pos (by omega), if_pos (by omega), if_pos (by omega), if_pos h1, if_pos (by omega), if_neg h2, if_pos (by omega), if_pos (by omega), if_pos h3, w1, if_pos h1, if_neg h2, if_pos h3]
        · refine Ev.step (fun k => ?_) (ih (i + 1) _ (by omega) (by rw [if_pos h1, if_neg h2, if_neg h3]; simp; omega))
          simp only [door_Open.l0]
          rw [if_pos (by omega), if_pos (by omega), if_pos (by omega), if_pos h1, if_pos (by omega), if_neg h2, if_pos (by omega), if_pos (by omega), if_neg h3, if_pos (by omega), w1, if_pos h1, if_neg h2, if_neg h3]
    · refine Ev.step (fun k => ?_) (ih (i + 1) _ (by omega) (by rw [if_neg h1]; omega))
      simp only [door_Open.l0]
      rw [if_pos (by omega), if_pos (by omega), if_pos (by omega), if_neg h1, w1, if_neg h1]
theorem p_open (l : List S36) (st : List Int) : Ev (fun k => door_Open.f k l st) (opens l st) := by
  unfold door_Open.f
  refine Ev.bind (pcheck l) ?_
  unfold opens
  by_cases hc : chk l = 0
  · simp only [if_pos hc]
    by_cases hs : st.length = l.length
    · rw [if_pos hs]
      refine Ev.step (fun k => ?_) (p_open_l0 hc hs l.length 0 [] (by omega) (by simp))
      simp only [door_Open.j0]
      rw [if_neg (by simp; omega)]; rfl
    · rw [if_neg hs]
      refine Ev.step (f := fun _ => some []) (fun k => ?_) (Ev.now _)
      simp only [door_Open.j0]
      rw [if_pos (by simp; omega)]
  · simp only [if_neg hc]
    exact Ev.step (f := fun _ => some []) (fun k => by simp only [door_Open.j0, if_true]) (Ev.now _)

/-- The error of a change. -/
noncomputable def chg (l : List S36) (st : List Int) (d s least : Int) : Int :=
  if chk l = 0 then (if st.length = l.length then (if d < 0 then 15 else if d ≥ l.length then 15 else if s < least then 1 else if s ≥ (rd_T36 l d).f2.length then 1 else 0) else 11) else chk l
theorem chg_zero {l : List S36} {st : List Int} {d s least : Int} (h : chg l st d s least = 0) : chk l = 0 ∧ st.length = l.length ∧ 0 ≤ d ∧ d < l.length ∧ least ≤ s ∧ s < (rd_T36 l d).f2.length := by
  unfold chg at h
  split at h
  · split at h
    · split at h
      · simp at h
      · split at h
        · simp at h
        · split at h
          · simp at h
          · split at h
            · simp at h
            · exact ⟨‹_›, ‹_›, by omega, by omega, by omega, by omega⟩
    · simp at h
  · exact absurd h ‹_›
theorem change_ev (l : List S36) (st : List Int) (d s least : Int) : Ev (fun k => door_change.f k l st d s least) (chg l st d s least) := by
  unfold door_change.f
  refine Ev.bind (pcheck l) ?_
  unfold chg
  by_cases hc : chk l = 0
  · simp only [if_pos hc]
    by_cases hs : st.length = l.length
    · simp only [if_pos hs, if_pos (show (st.length : Int) = (l.length : Int) by omega)]
      by_cases h1 : d < 0
      · simp only [if_pos h1]
        exact Ev.step (f := fun _ => some 15) (fun k => by simp only [door_change.j0, if_true]) (Ev.now _)
      · simp only [if_neg h1]
        by_cases h2 : d ≥ (l.length : Int)
        · rw [if_pos h2]
          refine Ev.step (f := fun _ => some 15) (fun k => ?_) (Ev.now _)
          simp only [door_change.j0]
          rw [if_pos (by simp; omega)]
        · rw [if_neg h2]
          by_cases h3 : s < least
          · rw [if_pos h3]
            refine Ev.step (f := fun _ => some 1) (fun k => ?_) (Ev.now _)
            simp only [door_change.j0]
            rw [if_neg (by simp; omega), if_pos h3]
          · rw [if_neg h3]
            by_cases h4 : s ≥ ((rd_T36 l d).f2.length : Int)
            · rw [if_pos h4]
              refine Ev.step (f := fun _ => some 1) (fun k => ?_) (Ev.now _)
              simp only [door_change.j0]
              rw [if_neg (by simp; omega), if_neg h3, if_pos (by omega), if_pos (by omega), if_pos h4]
            · rw [if_neg h4]
              refine Ev.step (f := fun _ => some 0) (fun k => ?_) (Ev.now _)
              simp only [door_change.j0]
              rw [if_neg (by simp; omega), if_neg h3, if_pos (by omega), if_pos (by omega), if_neg h4]
    · simp only [if_neg hs, if_neg (show ¬ (st.length : Int) = (l.length : Int) by omega)]
      exact Ev.now _
  · simp only [if_neg hc]
    exact Ev.now _

theorem with_ev {st : List Int} {d : Int} (s : Int) (hs : st.length ≤ 1000000) (h0 : 0 ≤ d) (h1 : d < st.length) : door_with.f st d s = some (st.set d.toNat s) := by
  unfold door_with.f
  rw [if_pos (by simp only [List.length_nil]; omega)]
  simp only [List.nil_append, Option.bind_some]
  rw [if_pos h0, if_pos h1]

/-- The states after an order, or its error. -/
noncomputable def cmd (l : List S36) (st : List Int) (d s : Int) : List Int × Int :=
  if chg l st d s 0 = 0 then (if s = 0 then (st.set d.toNat s, 0) else if (rd_T36 l d).f1 ≥ 0 then (if rd st (rd_T36 l d).f1 = 0 then (st.set d.toNat s, 0) else ([], 10)) else (st.set d.toNat s, 0)) else ([], chg l st d s 0)
noncomputable def seen (l : List S36) (st : List Int) (d s : Int) : List Int × Int :=
  if chg l st d s (-1) = 0 then (st.set d.toNat s, 0) else ([], chg l st d s (-1))
theorem cmd_len (l : List S36) (st : List Int) (d s : Int) : (cmd l st d s).1.length ≤ 16 := by
  unfold cmd
  by_cases h : chg l st d s 0 = 0
  · obtain ⟨hc, hs, -⟩ := chg_zero h
    have := (chk_zero hc).1
    rw [if_pos h]
    split
    · simp; omega
    · split
      · split
        · simp; omega
        · simp
      · simp; omega
  · rw [if_neg h]; simp
theorem seen_len (l : List S36) (st : List Int) (d s : Int) : (seen l st d s).1.length ≤ 16 := by
  unfold seen
  by_cases h : chg l st d s (-1) = 0
  · obtain ⟨hc, hs, -⟩ := chg_zero h
    have := (chk_zero hc).1
    rw [if_pos h]; simp; omega
  · rw [if_neg h]; simp

theorem p_command (l : List S36) (st : List Int) (d s : Int) : Ev (fun k => door_Command.f k l st d s) (cmd l st d s) := by
  unfold door_Command.f
  refine Ev.bind (change_ev l st d s 0) ?_
  unfold cmd
  by_cases h : chg l st d s 0 = 0
  · obtain ⟨hc, hs, h0, h1, h2, h3⟩ := chg_zero h
    have hl := (chk_zero hc).1
    have hw := with_ev (st := st) (d := d) s (by omega) h0 (by omega)
    simp only [if_pos h, if_pos h0, if_pos h1, hw, Option.bind_some]
    by_cases g : s = 0
    · simp only [if_pos g]; exact Ev.now _
    · simp only [if_neg g]
      by_cases g1 : (rd_T36 l d).f1 ≥ 0
      · have ho := other_lt hc h0 h1 g1
        simp only [if_pos g1, if_pos (show (rd_T36 l d).f1 < (st.length : Int) by omega)]
        by_cases g2 : rd st (rd_T36 l d).f1 = 0
        · simp only [if_pos g2]; exact Ev.now _
        · simp only [if_neg g2]; exact Ev.now _
      · simp only [if_neg g1]; exact Ev.now _
  · simp only [if_neg h]
    exact Ev.now _

end Go.Proofs.Ytmlkchkhgjebgaa.Com
