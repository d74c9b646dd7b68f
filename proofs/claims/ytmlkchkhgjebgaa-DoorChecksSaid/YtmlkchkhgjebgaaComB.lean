/- Which doors are right, or the first error: the program and the reference come to one and the same plain number. -/
import Derived.Test.YtmlkchkhgjebgaaPDoox2
import Derived.Test.YtmlkchkhgjebgaaPDoox8
namespace Go.Proofs.Ytmlkchkhgjebgaa.Com
open Go.RowKit Go.Proofs.Ytmlkchkhgjebgaa.PDoo Go.Proofs.YtmlkchkhgjebgaaW.PrintWords Go.Proofs.YtmlkchkhgjebgaaW.PrintLast Go.Proofs.YtmlkchkhgjebgaaW.PrintMore

theorem w64' {n : Int} (h : -9223372036854775808 ≤ n) (h' : n ≤ 9223372036854775807) : wrap64 n = n := by
  unfold wrap64; omega

/-- A number within the bounds. -/
def inB (x : Int) : Prop := 0 ≤ x ∧ x ≤ 262144
instance (x : Int) : Decidable (inB x) := by unfold inB; infer_instance
/-- From place j on, all are within the bounds. -/
def allB (r : List Int) (j : Nat) : Prop := ∀ i : Nat, j ≤ i → i < r.length → inB (rd r i)
/-- Each one up to place m is less than the one ahead of it. -/
def falls (r : List Int) (m : Nat) : Prop := ∀ i : Nat, 1 ≤ i → i < m → rd r i < rd r ((i : Int) - 1)
/-- The other door of door i is a right one. -/
def other (l : List S36) (i o : Int) : Prop := o = -1 ∨ 0 ≤ o ∧ o < l.length ∧ o ≠ i ∧ (rd_T36 l o).f1 = i

open Classical in
noncomputable def res (l : List S36) (i : Int) (r : List Int) (o : Int) (j : Nat) (q : Int) : Int :=
  if allB r j then (if falls r r.length then (if other l i o then q else 15) else 15) else 1

theorem allB_step {r : List Int} {j : Nat} (h : j < r.length) (hb : inB (rd r j)) : allB r j ↔ allB r (j + 1) := by
  constructor
  · exact fun H i hi hl => H i (by omega) hl
  · intro H i hi hl
    by_cases e : i = j
    · subst e; exact hb
    · exact H i (by omega) hl
theorem not_allB {r : List Int} {j : Nat} (h : j < r.length) (hb : ¬ inB (rd r j)) : ¬ allB r j := fun H => hb (H j (Nat.le_refl _) h)
theorem falls_step {r : List Int} {j : Nat} (h : 1 ≤ j) : falls r (j + 1) ↔ falls r j ∧ rd r j < rd r ((j : Int) - 1) := by
  constructor
  · exact fun H => ⟨fun i h1 h2 => H i h1 (by omega), H j h (by omega)⟩
  · rintro ⟨H, hj⟩ i h1 h2
    by_cases e : i = j
    · subst e; exact hj
    · exact H i h1 (by omega)
theorem falls_one (r : List Int) : falls r 1 := fun i h1 h2 => by omega

theorem res_step {l : List S36} {i : Int} {r : List Int} {o : Int} {j : Nat} {q : Int} (h : j < r.length) (hb : inB (rd r j)) : res l i r o j q = res l i r o (j + 1) q := by
  unfold res
  by_cases H : allB r j
  · rw [if_pos H, if_pos ((allB_step h hb).1 H)]
  · rw [if_neg H, if_neg (fun z => H ((allB_step h hb).2 z))]
theorem res_out {l : List S36} {i : Int} {r : List Int} {o : Int} {j : Nat} {q : Int} (h : j < r.length) (hb : ¬ inB (rd r j)) : res l i r o j q = 1 := by
  unfold res
  rw [if_neg (not_allB h hb)]

/-- The end of a door's check: the other door. -/
theorem other_ev {l : List S36} (_hl : l.length ≤ 1000000) {i : Nat} {o q : Int} {F : Nat → Option Int} {g : Nat → Option Int} (h : Ev g q)
    (e : ∀ k, F (k + 1) = (if o = (-1) then g k else (if o < 0 then (some 15) else (if o ≥ (l.length : Int) then (some 15) else (if o = (i : Int) then (some 15) else (if 0 ≤ o then (if o < (l.length : Int) then (if ((rd_T36 l o).f1) = (i : Int) then g k else (some 15)) else (none)) else (none))))))) :
    Ev F (open Classical in if other l i o then q else 15) := by
  by_cases h1 : o = -1
  · rw [if_pos (show other l i o from .inl h1)]
    exact Ev.step (fun k => by rw [e, if_pos h1]) h
  by_cases h2 : o < 0
  · rw [if_neg (show ¬ other l i o from fun z => z.elim h1 (fun z => by omega))]
    exact Ev.step (f := fun _ => some 15) (fun k => by rw [e, if_neg h1, if_pos h2]) (Ev.now _)
  by_cases h3 : o ≥ (l.length : Int)
  · rw [if_neg (show ¬ other l i o from fun z => z.elim h1 (fun z => by omega))]
    exact Ev.step (f := fun _ => some 15) (fun k => by rw [e, if_neg h1, if_neg h2, if_pos h3]) (Ev.now _)
  by_cases h4 : o = (i : Int)
  · rw [if_neg (show ¬ other l i o from fun z => z.elim h1 (fun z => z.2.2.1 h4))]
    exact Ev.step (f := fun _ => some 15) (fun k => by rw [e, if_neg h1, if_neg h2, if_neg h3, if_pos h4]) (Ev.now _)
  by_cases h5 : (rd_T36 l o).f1 = (i : Int)
  · rw [if_pos (show other l i o from .inr ⟨by omega, by omega, h4, h5⟩)]
    exact Ev.step (fun k => by rw [e, if_neg h1, if_neg h2, if_neg h3, if_neg h4, if_pos (by omega), if_pos (by omega), if_pos h5]) h
  · rw [if_neg (show ¬ other l i o from fun z => z.elim h1 (fun z => h5 z.2.2.2))]
    exact Ev.step (f := fun _ => some 15) (fun k => by rw [e, if_neg h1, if_neg h2, if_neg h3, if_neg h4, if_pos (by omega), if_pos (by omega), if_neg h5]) (Ev.now _)

theorem p_l1 {l : List S36} (hl : l.length ≤ 1000000) {i : Nat} {f0 o : Int} {r : List Int} (hr : r.length ≤ 1000000) {q : Int}
    (h : Ev (fun k => door_Check.l0 k l l (l.length : Int) (wrap64 ((i : Int) + 1))) q) : ∀ (n j : Nat) (b : Bool), j + n = r.length → (b = true ↔ falls r j) →
    Ev (fun k => door_Check.l1 k l (i : Int) b l (l.length : Int) (i : Int) r (r.length : Int) (j : Int) f0 o r) (res l i r o j q) := by
  intro n
  induction n with
  | zero =>
    intro j b hj hb
    have hjl : j = r.length := by omega
    have hall : allB r j := fun z h1 h2 => by omega
    unfold res
    rw [if_pos hall]
    cases b with
    | false =>
      rw [if_neg (show ¬ falls r r.length from fun z => by rw [← hjl] at z; exact absurd (hb.2 z) (by simp))]
      refine Ev.step (f := fun _ => some 15) (fun k => ?_) (Ev.now _)
      simp only [door_Check.l1]
      rw [if_neg (by omega), if_neg (by simp)]
    | true =>
      rw [if_pos (show falls r r.length by rw [← hjl]; exact hb.1 rfl)]
      refine other_ev hl h (fun k => ?_)
      simp only [door_Check.l1]
      rw [if_neg (by omega), if_pos trivial]
  | succ n ih =>
    intro j b hj hb
    have hjl : j < r.length := by omega
    by_cases hB : inB (rd r j)
    · rw [res_step hjl hB]
      have hB' := hB
      obtain ⟨b0, b1⟩ := hB'
      have w1 : wrap64 ((j : Int) + 1) = ((j + 1 : Nat) : Int) := by rw [w64' (by omega) (by omega)]; rfl
      by_cases h0 : j = 0
      · subst h0
        have hb2 : b = true := hb.2 (fun z h1 h2 => by omega)
        subst hb2
        refine Ev.step (fun k => ?_) (ih 1 true (by omega) ⟨fun _ => falls_one r, fun _ => rfl⟩)
        simp only [door_Check.l1]
        rw [if_pos (by omega), if_pos (by omega), if_pos (by omega), if_neg (by omega), if_neg (by omega), if_pos trivial, if_pos (by simp), w1]
      · cases b with
        | false =>
          refine Ev.step (fun k => ?_) (ih (j + 1) false (by omega) ⟨fun z => by simp at z, fun z => by have := hb.2 ((falls_step (by omega)).1 z).1; simp at this⟩)
          simp only [door_Check.l1]
          rw [if_pos (by omega), if_pos (by omega), if_pos (by omega), if_neg (by omega), if_neg (by omega), if_neg (by simp), w1]
        | true =>
          refine Ev.step (fun k => ?_) (ih (j + 1) (decide (rd r j < rd r ((j : Int) - 1))) (by omega) (by rw [falls_step (by omega), decide_eq_true_iff]; exact ⟨fun z => ⟨hb.1 rfl, z⟩, fun z => z.2⟩))
          simp only [door_Check.l1]
          rw [if_pos (by omega), if_pos (by omega), if_pos (by omega), if_neg (by omega), if_neg (by omega), if_pos trivial, if_neg (by omega), w64' (n := (j : Int) - 1) (by omega) (by omega), if_pos (by omega), if_pos (by omega), w1]
    · rw [res_out hjl hB]
      refine Ev.step (f := fun _ => some 1) (fun k => ?_) (Ev.now _)
      simp only [door_Check.l1]
      rw [if_pos (by omega), if_pos (by omega), if_pos (by omega)]
      by_cases h1 : rd r j < 0
      · rw [if_pos h1]
      · rw [if_neg h1, if_pos (by unfold inB at hB; omega)]

theorem r_l2 {l : List S36} (hl : l.length ≤ 1000000) {i : Nat} {f0 o : Int} {r : List Int} (hr : r.length ≤ 1000000) {q : Int}
    (h : Ev (fun k => minecontrolref08_Check.l0 k l (wrap64 ((i : Int) + 1))) q) : ∀ (n j : Nat), j + n = r.length → 1 ≤ j → falls r j →
    Ev (fun k => minecontrolref08_Check.l2 k l (i : Int) (j : Int) f0 o r) (open Classical in if falls r r.length then (if other l i o then q else 15) else 15) := by
  intro n
  induction n with
  | zero =>
    intro j hj h1 hf
    have hjl : j = r.length := by omega
    rw [if_pos (show falls r r.length by rw [← hjl]; exact hf)]
    refine other_ev hl h (fun k => ?_)
    simp only [minecontrolref08_Check.l2]
    rw [if_neg (by omega)]
  | succ n ih =>
    intro j hj h1 hf
    have w0 : wrap64 ((j : Int) - 1) = (j : Int) - 1 := w64' (by omega) (by omega)
    by_cases hd : rd r j ≥ rd r ((j : Int) - 1)
    · rw [if_neg (show ¬ falls r r.length from fun z => by have := z j h1 (by omega); omega)]
      refine Ev.step (f := fun _ => some 15) (fun k => ?_) (Ev.now _)
      simp only [minecontrolref08_Check.l2]
      rw [if_pos (by omega), if_pos (by omega), w0, if_pos (by omega), if_pos (by omega), if_pos hd]
    · refine Ev.step (fun k => ?_) (ih (j + 1) (by omega) (by omega) ((falls_step h1).2 ⟨hf, by omega⟩))
      simp only [minecontrolref08_Check.l2]
      rw [if_pos (by omega), if_pos (by omega), w0, if_pos (by omega), if_pos (by omega), if_neg hd, w64' (by omega) (by omega)]
      rfl

theorem r_l1 {l : List S36} (hl : l.length ≤ 1000000) {i : Nat} {f0 o : Int} {r : List Int} (hr : r.length ≤ 1000000) (h1 : 1 ≤ r.length) {q : Int}
    (h : Ev (fun k => minecontrolref08_Check.l0 k l (wrap64 ((i : Int) + 1))) q) : ∀ (n j : Nat), j + n = r.length →
    Ev (fun k => minecontrolref08_Check.l1 k l (i : Int) (j : Int) f0 o r) (res l i r o j q) := by
  intro n
  induction n with
  | zero =>
    intro j hj
    have hall : allB r j := fun z h1 h2 => by omega
    unfold res
    rw [if_pos hall]
    refine Ev.step (fun k => ?_) (r_l2 (f0 := f0) hl hr h (r.length - 1) 1 (by omega) (by omega) (falls_one r))
    simp only [minecontrolref08_Check.l1]
    rw [if_neg (by omega)]; rfl
  | succ n ih =>
    intro j hj
    have hjl : j < r.length := by omega
    by_cases hB : inB (rd r j)
    · rw [res_step hjl hB]
      have hB' := hB
      obtain ⟨b0, b1⟩ := hB'
      refine Ev.step (fun k => ?_) (ih (j + 1) (by omega))
      simp only [minecontrolref08_Check.l1]
      rw [if_pos (by omega), if_pos (by omega), if_neg (by omega), if_neg (by omega), w64' (by omega) (by omega)]
      rfl
    · rw [res_out hjl hB]
      refine Ev.step (f := fun _ => some 1) (fun k => ?_) (Ev.now _)
      simp only [minecontrolref08_Check.l1]
      rw [if_pos (by omega), if_pos (by omega)]
      by_cases h1 : rd r j < 0
      · rw [if_pos h1]
      · rw [if_neg h1, if_pos (by unfold inB at hB; omega)]

/-- The error of the doors from i on (d of them are left). -/
noncomputable def errs (l : List S36) : Nat → Nat → Int
  | 0, _ => 0
  | d + 1, i => if (rd_T36 l i).f0 < 0 then 4 else if (rd_T36 l i).f2.length < 2 ∨ (rd_T36 l i).f2.length > 6 then 2 else res l i (rd_T36 l i).f2 (rd_T36 l i).f1 0 (errs l d (i + 1))
open Classical in
noncomputable def chk (l : List S36) : Int := if l.length > 16 then 2 else errs l l.length 0

theorem p_l0 {l : List S36} (hl : l.length ≤ 16) : ∀ (d i : Nat), i + d = l.length → Ev (fun k => door_Check.l0 k l l (l.length : Int) (i : Int)) (errs l d i) := by
  intro d
  induction d with
  | zero =>
    intro i hi
    refine Ev.step (f := fun _ => some 0) (fun k => ?_) (Ev.now _)
    simp only [door_Check.l0]
    rw [if_neg (by omega)]
  | succ d ih =>
    intro i hi
    simp only [errs]
    by_cases h0 : (rd_T36 l i).f0 < 0
    · rw [if_pos h0]
      refine Ev.step (f := fun _ => some 4) (fun k => ?_) (Ev.now _)
      simp only [door_Check.l0]
      rw [if_pos (by omega), if_pos (by omega), if_pos (by omega), if_pos h0]
    rw [if_neg h0]
    have J : ∀ b : Bool, b = decide ((rd_T36 l i).f2.length < 2 ∨ (rd_T36 l i).f2.length > 6) → Ev (fun k => door_Check.j1 k l (i : Int) l (l.length : Int) (i : Int) b (rd_T36 l i).f0 (rd_T36 l i).f1 (rd_T36 l i).f2) (if (rd_T36 l i).f2.length < 2 ∨ (rd_T36 l i).f2.length > 6 then 2 else res l i (rd_T36 l i).f2 (rd_T36 l i).f1 0 (errs l d (i + 1))) := by
      intro b hb
      by_cases h1 : (rd_T36 l i).f2.length < 2 ∨ (rd_T36 l i).f2.length > 6
      · rw [decide_eq_true h1] at hb
        subst hb
        rw [if_pos h1]
        exact Ev.step (f := fun _ => some 2) (fun k => by simp only [door_Check.j1, if_true]) (Ev.now _)
      · rw [decide_eq_false h1] at hb
        subst hb
        rw [if_neg h1]
        refine Ev.step (fun k => ?_) (p_l1 (f0 := (rd_T36 l i).f0) (o := (rd_T36 l i).f1) (r := (rd_T36 l i).f2) (by omega) (by omega) (by rw [w64' (by omega) (by omega)]; exact ih (i + 1) (by omega)) (rd_T36 l i).f2.length 0 true (by omega) ⟨fun _ z h1 h2 => by omega, fun _ => rfl⟩)
        simp only [door_Check.j1, Bool.false_eq_true, if_false]; rfl
    by_cases h2 : (((rd_T36 l i).f2).length : Int) < 2
    · refine Ev.step (fun k => ?_) (J true (decide_eq_true (by omega)).symm)
      simp only [door_Check.l0]
      rw [if_pos (by omega), if_pos (by omega), if_pos (by omega), if_neg h0, if_pos h2]
    · refine Ev.step (fun k => ?_) (J (decide ((((rd_T36 l i).f2).length : Int) > 6)) (decide_eq_decide.2 (by omega)))
      simp only [door_Check.l0]
      rw [if_pos (by omega), if_pos (by omega), if_pos (by omega), if_neg h0, if_neg h2]

theorem r_l0 {l : List S36} (hl : l.length ≤ 16) : ∀ (d i : Nat), i + d = l.length → Ev (fun k => minecontrolref08_Check.l0 k l (i : Int)) (errs l d i) := by
  intro d
  induction d with
  | zero =>
    intro i hi
    refine Ev.step (f := fun _ => some 0) (fun k => ?_) (Ev.now _)
    simp only [minecontrolref08_Check.l0]
    rw [if_neg (by omega)]
  | succ d ih =>
    intro i hi
    simp only [errs]
    by_cases h0 : (rd_T36 l i).f0 < 0
    · rw [if_pos h0]
      refine Ev.step (f := fun _ => some 4) (fun k => ?_) (Ev.now _)
      simp only [minecontrolref08_Check.l0]
      rw [if_pos (by omega), if_pos (by omega), if_pos h0]
    rw [if_neg h0]
    have J : ∀ b : Bool, b = decide ((rd_T36 l i).f2.length < 2 ∨ (rd_T36 l i).f2.length > 6) → Ev (fun k => minecontrolref08_Check.j1 k l (i : Int) b (rd_T36 l i).f0 (rd_T36 l i).f1 (rd_T36 l i).f2) (if (rd_T36 l i).f2.length < 2 ∨ (rd_T36 l i).f2.length > 6 then 2 else res l i (rd_T36 l i).f2 (rd_T36 l i).f1 0 (errs l d (i + 1))) := by
      intro b hb
      by_cases h1 : (rd_T36 l i).f2.length < 2 ∨ (rd_T36 l i).f2.length > 6
      · rw [decide_eq_true h1] at hb
        subst hb
        rw [if_pos h1]
        exact Ev.step (f := fun _ => some 2) (fun k => by simp only [minecontrolref08_Check.j1, if_true]) (Ev.now _)
      · rw [decide_eq_false h1] at hb
        subst hb
        rw [if_neg h1]
        refine Ev.step (fun k => ?_) (r_l1 (f0 := (rd_T36 l i).f0) (o := (rd_T36 l i).f1) (r := (rd_T36 l i).f2) (by omega) (by omega) (by omega) (by rw [w64' (by omega) (by omega)]; exact ih (i + 1) (by omega)) (rd_T36 l i).f2.length 0 (by omega))
        simp only [minecontrolref08_Check.j1, Bool.false_eq_true, if_false]; rfl
    by_cases h2 : (((rd_T36 l i).f2).length : Int) < 2
    · refine Ev.step (fun k => ?_) (J true (decide_eq_true (by omega)).symm)
      simp only [minecontrolref08_Check.l0]
      rw [if_pos (by omega), if_pos (by omega), if_neg h0, if_pos h2]
    · refine Ev.step (fun k => ?_) (J (decide ((((rd_T36 l i).f2).length : Int) > 6)) (decide_eq_decide.2 (by omega)))
      simp only [minecontrolref08_Check.l0]
      rw [if_pos (by omega), if_pos (by omega), if_neg h0, if_neg h2]

theorem pcheck (l : List S36) : Ev (fun k => door_Check.f k l) (chk l) := by
  unfold chk door_Check.f
  by_cases h : l.length > 16
  · simp only [if_pos h, if_pos (show (l.length : Int) > 16 by omega)]
    exact Ev.now _
  · simp only [if_neg h, if_neg (show ¬ (l.length : Int) > 16 by omega)]
    exact p_l0 (by omega) l.length 0 (by omega)
theorem rcheck (l : List S36) : Ev (fun k => minecontrolref08_Check.f k l) (chk l) := by
  unfold chk minecontrolref08_Check.f
  by_cases h : l.length > 16
  · simp only [if_pos h, if_pos (show (l.length : Int) > 16 by omega)]
    exact Ev.now _
  · simp only [if_neg h, if_neg (show ¬ (l.length : Int) > 16 by omega)]
    exact r_l0 (by omega) l.length 0 (by omega)

/-- What right doors are. -/
theorem errs_zero {l : List S36} : ∀ (d i : Nat), errs l d i = 0 → ∀ j : Nat, i ≤ j → j < i + d → 2 ≤ (rd_T36 l j).f2.length ∧ (rd_T36 l j).f2.length ≤ 6 ∧ other l j (rd_T36 l j).f1 := by
  intro d
  induction d with
  | zero => intro i _ j h1 h2; omega
  | succ d ih =>
    intro i h j h1 h2
    simp only [errs] at h
    split at h
    · simp at h
    split at h
    · simp at h
    rename_i g1 g2
    unfold res at h
    split at h
    · split at h
      · split at h
        · by_cases e : j = i
          · subst e; rename_i hoth; exact ⟨by omega, by omega, hoth⟩
          · exact ih (i + 1) h j (by omega) (by omega)
        · simp at h
      · simp at h
    · simp at h
theorem chk_zero {l : List S36} (h : chk l = 0) : l.length ≤ 16 ∧ ∀ j : Nat, j < l.length → 2 ≤ (rd_T36 l j).f2.length ∧ (rd_T36 l j).f2.length ≤ 6 ∧ other l j (rd_T36 l j).f1 := by
  unfold chk at h
  split at h
  · simp at h
  · exact ⟨by omega, fun j hj => errs_zero _ _ h j (by omega) (by omega)⟩

end Go.Proofs.Ytmlkchkhgjebgaa.Com
