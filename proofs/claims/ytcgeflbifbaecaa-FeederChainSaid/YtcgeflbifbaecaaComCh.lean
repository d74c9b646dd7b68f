/- Orders to switches: what the program comes to, as plain values. -/
import Derived.Test.YtcgeflbifbaecaaComBh
import Derived.Test.YtcgeflbifbaecaaPFehx4
import Derived.Test.YtcgeflbifbaecaaPFehx7
namespace Go.Proofs.Ytcgeflbifbaecaa.Com
open Go.RowKit Go.Proofs.Ytcgeflbifbaecaa.PFeh Go.Proofs.YtcgeflbifbaecaaW.PrintWords Go.Proofs.YtcgeflbifbaecaaW.PrintLast Go.Proofs.YtcgeflbifbaecaaW.PrintMore

theorem rd32_set_eq {l : List S32} {i : Int} {v : S32} (h0 : 0 ≤ i) (h1 : i < l.length) : rd_T32 (l.set i.toNat v) i = v := by
  unfold rd_T32
  rw [List.getD_eq_getElem?_getD, List.getElem?_set_self (by omega)]; rfl
theorem rd32_set_ne {l : List S32} {i j : Int} {v : S32} (h0 : 0 ≤ i) (h1 : 0 ≤ j) (h : j ≠ i) : rd_T32 (l.set i.toNat v) j = rd_T32 l j := by
  unfold rd_T32
  rw [List.getD_eq_getElem?_getD, List.getElem?_set_ne (by omega), ← List.getD_eq_getElem?_getD]

set_option maxRecDepth 20000 in
theorem awake_ev : Ev (fun k => minecontrollaw18_awake.f k) true :=
  Ev.of (fun k => minecontrollaw18_awake.mono k) (k := 60) (by decide +kernel)

/-- No switch from i on is of a later time (d of them are left). -/
def tims (ss : List S32) (t : Int) : Nat → Nat → Bool
  | 0, _ => true
  | d + 1, i => if t < (rd_T32 ss i).f1 then false else tims ss t d (i + 1)
def tim (ss : List S32) (t : Int) : Bool := if t < 0 then false else if t > 2147483648 then false else tims ss t ss.length 0
theorem tims_true {ss : List S32} {t : Int} : ∀ (d i : Nat), tims ss t d i = true ↔ ∀ j : Nat, i ≤ j → j < i + d → (rd_T32 ss j).f1 ≤ t := by
  intro d
  induction d with
  | zero => intro i; simp only [tims, true_iff]; intro j h1 h2; omega
  | succ d ih =>
    intro i
    simp only [tims]
    by_cases h : t < (rd_T32 ss i).f1
    · rw [if_pos h]
      exact ⟨fun h0 => by simp at h0, fun h0 => by have := h0 i (by omega) (by omega); omega⟩
    · rw [if_neg h, ih (i + 1)]
      refine ⟨fun h0 j j1 j2 => ?_, fun h0 j j1 j2 => h0 j (by omega) (by omega)⟩
      by_cases e : j = i
      · subst e; omega
      · exact h0 j (by omega) (by omega)
theorem tim_true {ss : List S32} {t : Int} : tim ss t = true ↔ 0 ≤ t ∧ t ≤ 2147483648 ∧ ∀ j : Nat, j < ss.length → (rd_T32 ss j).f1 ≤ t := by
  unfold tim
  by_cases h1 : t < 0
  · rw [if_pos h1]; exact ⟨fun h => by simp at h, fun h => by omega⟩
  by_cases h2 : t > 2147483648
  · rw [if_neg h1, if_pos h2]; exact ⟨fun h => by simp at h, fun h => by omega⟩
  rw [if_neg h1, if_neg h2, tims_true]
  exact ⟨fun h => ⟨by omega, by omega, fun j hj => h j (by omega) (by omega)⟩, fun h j _ hj => h.2.2 j (by omega)⟩

theorem timely_l0 {ss : List S32} {t : Int} (hl : ss.length ≤ 32) : ∀ (d i : Nat), i + d = ss.length → Ev (fun k => feeder_timely.l0 k t ss (ss.length : Int) (i : Int)) (tims ss t d i) := by
  intro d
  induction d with
  | zero =>
    intro i hi
    exact Ev.step (f := fun _ => some true) (fun k => by simp only [feeder_timely.l0]; rw [if_neg (by omega)]) (Ev.now _)
  | succ d ih =>
    intro i hi
    simp only [tims]
    by_cases h : t < (rd_T32 ss i).f1
    · rw [if_pos h]
      exact Ev.step (f := fun _ => some false) (fun k => by simp only [feeder_timely.l0]; rw [if_pos (by omega), if_pos (by omega), if_pos (by omega), if_pos h]) (Ev.now _)
    · rw [if_neg h]
      refine Ev.step (fun k => ?_) (ih (i + 1) (by omega))
      simp only [feeder_timely.l0]
      rw [if_pos (by omega), if_pos (by omega), if_pos (by omega), if_neg h, w64 (by omega) (by omega)]; rfl
theorem timely_ev {ss : List S32} (hl : ss.length ≤ 32) (zs : List Int) (rp t : Int) : Ev (fun k => feeder_timely.f k ss zs rp t) (tim ss t) := by
  unfold feeder_timely.f tim
  by_cases h1 : t < 0
  · simp only [if_pos h1]
    exact Ev.step (f := fun _ => some false) (fun k => by simp only [feeder_timely.j0, if_true]) (Ev.now _)
  · simp only [if_neg h1]
    by_cases h2 : t > 2147483648
    · rw [if_pos h2, decide_eq_true h2]
      exact Ev.step (f := fun _ => some false) (fun k => by simp only [feeder_timely.j0, if_true]) (Ev.now _)
    · rw [if_neg h2, decide_eq_false h2]
      exact Ev.step (fun k => by simp only [feeder_timely.j0, Bool.false_eq_true, if_false]; rfl) (timely_l0 hl ss.length 0 (by omega))

/-- The error of an order. -/
noncomputable def cn (ss : List S32) (zs : List Int) (rp s t : Int) : Int :=
  if chk ss zs rp = 0 then (if s < 0 then 16 else if s ≥ ss.length then 16 else if tim ss t = true then 0 else 8) else chk ss zs rp
theorem cn_zero {ss : List S32} {zs : List Int} {rp s t : Int} : cn ss zs rp s t = 0 ↔ Ok ss zs rp ∧ 0 ≤ s ∧ s < ss.length ∧ tim ss t = true := by
  unfold cn
  by_cases h : chk ss zs rp = 0
  · rw [if_pos h]
    have ho := chk_zero.1 h
    by_cases h1 : s < 0
    · rw [if_pos h1]; exact ⟨fun h => by simp at h, fun h => by omega⟩
    by_cases h2 : s ≥ ss.length
    · rw [if_neg h1, if_pos h2]; exact ⟨fun h => by simp at h, fun h => by omega⟩
    by_cases h3 : tim ss t = true
    · rw [if_neg h1, if_neg h2, if_pos h3]; exact ⟨fun _ => ⟨ho, by omega, by omega, h3⟩, fun _ => rfl⟩
    · rw [if_neg h1, if_neg h2, if_neg h3]; exact ⟨fun h => by simp at h, fun h => absurd h.2.2.2 h3⟩
  · rw [if_neg h]
    exact ⟨fun h0 => absurd h0 h, fun h0 => absurd (chk_zero.2 h0.1) h⟩
theorem can_ev (ss : List S32) (zs : List Int) (rp s t : Int) : Ev (fun k => feeder_can.f k ss zs rp s t) (cn ss zs rp s t) := by
  unfold feeder_can.f
  refine Ev.bind (pcheck ss zs rp) ?_
  unfold cn
  by_cases h : chk ss zs rp = 0
  · simp only [if_pos h]
    have ho := (chk_zero.1 h).few
    by_cases h1 : s < 0
    · simp only [if_pos h1]
      exact Ev.step (f := fun _ => some 16) (fun k => by simp only [feeder_can.j0, if_true]) (Ev.now _)
    simp only [if_neg h1]
    by_cases h2 : s ≥ ss.length
    · rw [if_pos h2, decide_eq_true h2]
      exact Ev.step (f := fun _ => some 16) (fun k => by simp only [feeder_can.j0, if_true]) (Ev.now _)
    rw [if_neg h2, decide_eq_false h2]
    refine Ev.step (fun k => by simp only [feeder_can.j0, Bool.false_eq_true, if_false]) (Ev.bind (f := fun _ b => if b = true then some 0 else some 8) (timely_ev ho zs rp t) ?_)
    by_cases h3 : tim ss t = true
    · simp only [if_pos h3]; exact Ev.now _
    · simp only [if_neg h3]; exact Ev.now _
  · simp only [if_neg h]
    exact Ev.now _
theorem clone_ev {ss : List S32} {zs : List Int} (h1 : ss.length ≤ 32) (h2 : zs.length ≤ 16) (rp : Int) : feeder_clone.f ss zs rp = some (ss, zs, rp) := by
  unfold feeder_clone.f
  rw [if_pos (by simp only [List.length_nil]; omega), if_pos (by simp only [List.length_nil]; omega)]
  simp only [List.nil_append]

/-- A network with one other switch. -/
def put (ss : List S32) (s : Int) (x : S32) : List S32 := ss.set s.toNat x
end Go.Proofs.Ytcgeflbifbaecaa.Com
