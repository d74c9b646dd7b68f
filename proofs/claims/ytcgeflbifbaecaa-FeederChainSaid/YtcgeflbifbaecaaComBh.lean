/- Which networks are right, or the first error: the program comes to a plain number. -/
import Derived.Test.YtcgeflbifbaecaaComAh
import Derived.Test.YtcgeflbifbaecaaPFehx3
namespace Go.Proofs.Ytcgeflbifbaecaa.Com
open Go.RowKit Go.Proofs.Ytcgeflbifbaecaa.PFeh Go.Proofs.YtcgeflbifbaecaaW.PrintWords Go.Proofs.YtcgeflbifbaecaaW.PrintLast Go.Proofs.YtcgeflbifbaecaaW.PrintMore

/-- The error of the switch at place i. -/
def sBad (s : S32) (i : Int) : Int :=
  if s.f0 < -1 then 16 else if s.f0 ≥ i then 16 else if s.f1 < 0 then 8 else if s.f1 > 2147483648 then 8 else if s.f2 < -1 then 10 else if s.f2 > 1 then 10 else
  if s.f4 = true then (if s.f3 = true then 10 else if s.f2 = -1 then 10 else 0) else 0
/-- The error of the switches from i on (d of them are left), or q. -/
def sErrs (ss : List S32) (q : Int) : Nat → Nat → Int
  | 0, _ => q
  | d + 1, i => if sBad (rd_T32 ss i) i = 0 then sErrs ss q d (i + 1) else sBad (rd_T32 ss i) i
open Classical in
/-- The error of the zones from i on, or of the time for an answer. -/
noncomputable def zErrs (n : Int) (zs : List Int) (rp : Int) : Nat → Nat → Int
  | 0, _ => if rp < 1 then 1 else if rp > 100000 then 1 else 0
  | d + 1, i => if rd zs i < 0 then 16 else if rd zs i ≥ n then 16 else if (∃ k : Nat, k < i ∧ rd zs k = rd zs i) then 17 else zErrs n zs rp d (i + 1)
noncomputable def chk (ss : List S32) (zs : List Int) (rp : Int) : Int :=
  if ss.length > 32 then 2 else if zs.length > 16 then 2 else sErrs ss (zErrs ss.length zs rp zs.length 0) ss.length 0

theorem p_step {ss : List S32} {zs : List Int} {rp : Int} (_hl : ss.length ≤ 32) {i : Nat} (hi : i < ss.length) {q : Int} (h : Ev (fun k => feeder_Check.l0 k ss (ss.length : Int) (wrap64 ((i : Int) + 1)) ss zs rp) q) :
    Ev (fun k => feeder_Check.l0 k ss (ss.length : Int) (i : Int) ss zs rp) (if sBad (rd_T32 ss i) i = 0 then q else sBad (rd_T32 ss i) i) := by
  obtain ⟨s, hs⟩ : ∃ s, rd_T32 ss (i : Int) = s := ⟨_, rfl⟩
  have J3 : ∀ b : Bool, s.f0 ≥ -1 → s.f0 < i → b = decide (s.f1 < 0 ∨ s.f1 > 2147483648) → Ev (fun k => feeder_Check.j3 k ss (ss.length : Int) (i : Int) b ss zs rp s.f0 s.f1 s.f2 s.f3 s.f4) (if sBad s i = 0 then q else sBad s i) := by
    intro b g0 g1 hb
    unfold sBad
    rw [if_neg (show ¬ s.f0 < -1 by omega), if_neg (show ¬ s.f0 ≥ (i : Int) by omega)]
    by_cases h1 : s.f1 < 0 ∨ s.f1 > 2147483648
    · rw [decide_eq_true h1] at hb; subst hb
      have e : (if s.f1 < 0 then (8 : Int) else if s.f1 > 2147483648 then 8 else if s.f2 < -1 then 10 else if s.f2 > 1 then 10 else if s.f4 = true then (if s.f3 = true then 10 else if s.f2 = -1 then 10 else 0) else 0) = 8 := by
        rcases h1 with h1 | h1
        · rw [if_pos h1]
        · by_cases h2 : s.f1 < 0
          · rw [if_pos h2]
          · rw [if_neg h2, if_pos h1]
      rw [e, if_neg (by decide)]
      exact Ev.step (f := fun _ => some 8) (fun k => by simp only [feeder_Check.j3, if_true]) (Ev.now _)
    · rw [decide_eq_false h1] at hb; subst hb
      rw [if_neg (show ¬ s.f1 < 0 from fun z => h1 (.inl z)), if_neg (show ¬ s.f1 > 2147483648 from fun z => h1 (.inr z))]
      by_cases h2 : s.f2 < -1
      · rw [if_pos h2, if_neg (by decide)]
        exact Ev.step (f := fun _ => some 10) (fun k => by simp only [feeder_Check.j3, Bool.false_eq_true, if_false]; rw [if_pos h2]) (Ev.now _)
      by_cases h3 : s.f2 > 1
      · rw [if_neg h2, if_pos h3, if_neg (by decide)]
        exact Ev.step (f := fun _ => some 10) (fun k => by simp only [feeder_Check.j3, Bool.false_eq_true, if_false]; rw [if_neg h2, if_pos h3]) (Ev.now _)
      rw [if_neg h2, if_neg h3]
      by_cases h4 : s.f4 = true
      · rw [if_pos h4]
        by_cases h5 : s.f3 = true
        · rw [if_pos h5, if_neg (by decide)]
          exact Ev.step (f := fun _ => some 10) (fun k => by simp only [feeder_Check.j3, Bool.false_eq_true, if_false]; rw [if_neg h2, if_neg h3, if_pos h4, if_pos h5]) (Ev.now _)
        by_cases h6 : s.f2 = -1
        · rw [if_neg h5, if_pos h6, if_neg (by decide)]
          exact Ev.step (f := fun _ => some 10) (fun k => by simp only [feeder_Check.j3, Bool.false_eq_true, if_false]; rw [if_neg h2, if_neg h3, if_pos h4, if_neg h5, if_pos h6]) (Ev.now _)
        rw [if_neg h5, if_neg h6, if_pos rfl]
        exact Ev.step (fun k => by simp only [feeder_Check.j3, Bool.false_eq_true, if_false]; rw [if_neg h2, if_neg h3, if_pos h4, if_neg h5, if_neg h6]) h
      · rw [if_neg h4, if_pos rfl]
        exact Ev.step (fun k => by simp only [feeder_Check.j3, Bool.false_eq_true, if_false]; rw [if_neg h2, if_neg h3, if_neg h4]) h
  have J2 : ∀ b : Bool, b = decide (s.f0 < -1 ∨ s.f0 ≥ i) → Ev (fun k => feeder_Check.j2 k ss (ss.length : Int) (i : Int) b ss zs rp s.f0 s.f1 s.f2 s.f3 s.f4) (if sBad s i = 0 then q else sBad s i) := by
    intro b hb
    by_cases h1 : s.f0 < -1 ∨ s.f0 ≥ (i : Int)
    · rw [decide_eq_true h1] at hb; subst hb
      have e : sBad s i = 16 := by
        unfold sBad
        rcases h1 with h1 | h1
        · rw [if_pos h1]
        · by_cases h2 : s.f0 < -1
          · rw [if_pos h2]
          · rw [if_neg h2, if_pos h1]
      rw [e, if_neg (by decide)]
      exact Ev.step (f := fun _ => some 16) (fun k => by simp only [feeder_Check.j2, if_true]) (Ev.now _)
    · rw [decide_eq_false h1] at hb; subst hb
      by_cases h2 : s.f1 < 0
      · refine Ev.step (fun k => ?_) (J3 true (by omega) (by omega) (by simp [h2]))
        simp only [feeder_Check.j2, Bool.false_eq_true, if_false]; rw [if_pos h2]
      · refine Ev.step (fun k => ?_) (J3 (decide (s.f1 > 2147483648)) (by omega) (by omega) (decide_eq_decide.2 (by omega)))
        simp only [feeder_Check.j2, Bool.false_eq_true, if_false]; rw [if_neg h2]
  rw [hs]
  by_cases h1 : s.f0 < -1
  · refine Ev.step (fun k => ?_) (J2 true (by simp [h1]))
    simp only [feeder_Check.l0]; rw [if_pos (by omega), if_pos (by omega), if_pos (by omega), hs, if_pos h1]
  · refine Ev.step (fun k => ?_) (J2 (decide (s.f0 ≥ (i : Int))) (decide_eq_decide.2 (by omega)))
    simp only [feeder_Check.l0]; rw [if_pos (by omega), if_pos (by omega), if_pos (by omega), hs, if_neg h1]

theorem p_zones {ss : List S32} {zs : List Int} {rp : Int} (_hl : ss.length ≤ 32) (hz : zs.length ≤ 16) : ∀ (d i : Nat) (T : List Bool), i + d = zs.length → T.length = ss.length →
    (∀ j : Nat, j < ss.length → (rdOf false T j = true ↔ ∃ k : Nat, k < i ∧ rd zs k = j)) → Ev (fun k => feeder_Check.l1 k T zs (zs.length : Int) (i : Int) ss zs rp) (zErrs ss.length zs rp d i) := by
  intro d
  induction d with
  | zero =>
    intro i T hi hT hm
    simp only [zErrs]
    by_cases h1 : rp < 1
    · rw [if_pos h1]
      exact Ev.step (f := fun _ => some 1) (fun k => by simp only [feeder_Check.l1]; rw [if_neg (by omega), if_pos h1]) (Ev.now _)
    by_cases h2 : rp > 100000
    · rw [if_neg h1, if_pos h2]
      exact Ev.step (f := fun _ => some 1) (fun k => by simp only [feeder_Check.l1]; rw [if_neg (by omega), if_neg h1, if_pos h2]) (Ev.now _)
    · rw [if_neg h1, if_neg h2]
      exact Ev.step (f := fun _ => some 0) (fun k => by simp only [feeder_Check.l1]; rw [if_neg (by omega), if_neg h1, if_neg h2]) (Ev.now _)
  | succ d ih =>
    intro i T hi hT hm
    simp only [zErrs]
    have w1 : wrap64 ((i : Int) + 1) = ((i + 1 : Nat) : Int) := by rw [w64 (by omega) (by omega)]; rfl
    by_cases h1 : rd zs i < 0
    · rw [if_pos h1]
      refine Ev.step (fun k => by simp only [feeder_Check.l1]; rw [if_pos (by omega), if_pos (by omega), if_pos (by omega), if_pos h1]) ?_
      exact Ev.step (f := fun _ => some 16) (fun k => by simp only [feeder_Check.j5, if_true]) (Ev.now _)
    rw [if_neg h1]
    by_cases h2 : rd zs i ≥ (ss.length : Int)
    · rw [if_pos h2]
      refine Ev.step (fun k => by simp only [feeder_Check.l1]; rw [if_pos (by omega), if_pos (by omega), if_pos (by omega), if_neg h1, decide_eq_true h2]) ?_
      exact Ev.step (f := fun _ => some 16) (fun k => by simp only [feeder_Check.j5, if_true]) (Ev.now _)
    rw [if_neg h2]
    obtain ⟨z, hzv⟩ : ∃ z : Nat, rd zs i = (z : Int) := ⟨(rd zs i).toNat, by omega⟩
    rw [hzv] at h1 h2 ⊢
    refine Ev.step (fun k => by simp only [feeder_Check.l1]; rw [if_pos (by omega), if_pos (by omega), if_pos (by omega), hzv, if_neg h1, decide_eq_false h2]) ?_
    by_cases h3 : ∃ k : Nat, k < i ∧ rd zs k = (z : Int)
    · rw [if_pos h3]
      refine Ev.step (f := fun _ => some 17) (fun k => ?_) (Ev.now _)
      simp only [feeder_Check.j5, Bool.false_eq_true, if_false]
      rw [if_pos (by omega), if_pos (by omega), if_pos ((hm z (by omega)).2 h3)]
    · rw [if_neg h3]
      refine Ev.step (fun k => ?_) (ih (i + 1) (T.set z true) (by omega) (by rw [List.length_set]; exact hT) ?_)
      · simp only [feeder_Check.j5, Bool.false_eq_true, if_false]
        rw [if_pos (by omega), if_pos (by omega), if_neg (fun hh => h3 ((hm z (by omega)).1 hh)), w1]; rfl
      · intro j hj
        by_cases e : j = z
        · subst e
          have := rdb_set_eq (l := T) (i := (j : Int)) (v := true) (by omega) (by omega)
          rw [Int.toNat_natCast] at this
          rw [this]
          exact ⟨fun _ => ⟨i, by omega, hzv⟩, fun _ => rfl⟩
        · have := rdb_set_ne (l := T) (i := (z : Int)) (j := (j : Int)) (v := true) (by omega) (by omega) (by omega)
          rw [Int.toNat_natCast] at this
          rw [this, hm j hj]
          constructor
          · rintro ⟨k, hk, hv⟩; exact ⟨k, by omega, hv⟩
          · rintro ⟨k, hk, hv⟩
            by_cases ek : k = i
            · subst ek; rw [hzv] at hv; omega
            · exact ⟨k, by omega, hv⟩

theorem p_l0 {ss : List S32} {zs : List Int} {rp : Int} (hl : ss.length ≤ 32) (hz : zs.length ≤ 16) : ∀ (d i : Nat), i + d = ss.length → Ev (fun k => feeder_Check.l0 k ss (ss.length : Int) (i : Int) ss zs rp) (sErrs ss (zErrs ss.length zs rp zs.length 0) d i) := by
  intro d
  induction d with
  | zero =>
    intro i hi
    refine Ev.step (fun k => ?_) (p_zones hl hz zs.length 0 (List.replicate ss.length false) (by omega) (by simp) (fun j hj => by rw [rdb_replicate]; exact ⟨fun h => (by cases h), fun ⟨k, hk, _⟩ => (by omega)⟩))
    simp only [feeder_Check.l0]
    rw [if_neg (by omega), if_pos (by omega), if_pos (by omega), Int.toNat_natCast]; rfl
  | succ d ih =>
    intro i hi
    simp only [sErrs]
    exact p_step hl (by omega) (by rw [w64 (by omega) (by omega)]; exact ih (i + 1) (by omega))
theorem pcheck (ss : List S32) (zs : List Int) (rp : Int) : Ev (fun k => feeder_Check.f k ss zs rp) (chk ss zs rp) := by
  unfold chk feeder_Check.f
  by_cases h1 : ss.length > 32
  · simp only [if_pos h1, if_pos (show (ss.length : Int) > 32 by omega)]
    exact Ev.step (f := fun _ => some 2) (fun k => by simp only [feeder_Check.j0, if_true]) (Ev.now _)
  · simp only [if_neg h1, if_neg (show ¬ (ss.length : Int) > 32 by omega)]
    by_cases h2 : zs.length > 16
    · rw [if_pos h2]
      exact Ev.step (f := fun _ => some 2) (fun k => by simp only [feeder_Check.j0]; rw [if_pos (by simp; omega)]) (Ev.now _)
    · rw [if_neg h2]
      exact Ev.step (fun k => by simp only [feeder_Check.j0]; rw [if_neg (by simp; omega)]; rfl) (p_l0 (by omega) (by omega) ss.length 0 (by omega))
/-- What right networks are. -/
structure Ok (ss : List S32) (zs : List Int) (rp : Int) : Prop where
  few : ss.length ≤ 32
  zfew : zs.length ≤ 16
  sw : ∀ i : Nat, i < ss.length → sBad (rd_T32 ss i) i = 0
  zo : ∀ i : Nat, i < zs.length → 0 ≤ rd zs i ∧ rd zs i < ss.length ∧ ∀ k : Nat, k < i → rd zs k ≠ rd zs i
  rp0 : 1 ≤ rp
  rp1 : rp ≤ 100000

theorem zErrs_zero {n : Int} {zs : List Int} {rp : Int} : ∀ (d i : Nat), zErrs n zs rp d i = 0 ↔ (∀ j : Nat, i ≤ j → j < i + d → 0 ≤ rd zs j ∧ rd zs j < n ∧ ∀ k : Nat, k < j → rd zs k ≠ rd zs j) ∧ 1 ≤ rp ∧ rp ≤ 100000 := by
  intro d
  induction d with
  | zero =>
    intro i
    simp only [zErrs]
    constructor
    · intro h
      split at h
      · simp at h
      · split at h
        · simp at h
        · exact ⟨fun j h1 h2 => by omega, by omega, by omega⟩
    · rintro ⟨-, h1, h2⟩
      rw [if_neg (by omega), if_neg (by omega)]
  | succ d ih =>
    intro i
    simp only [zErrs]
    constructor
    · intro h
      split at h
      · simp at h
      split at h
      · simp at h
      split at h
      · simp at h
      rename_i g1 g2 g3
      obtain ⟨h1, h2⟩ := (ih (i + 1)).1 h
      refine ⟨fun j j1 j2 => ?_, h2⟩
      by_cases e : j = i
      · subst e; exact ⟨by omega, by omega, fun k hk he => g3 ⟨k, hk, he⟩⟩
      · exact h1 j (by omega) (by omega)
    · rintro ⟨h1, h2⟩
      have hi := h1 i (by omega) (by omega)
      rw [if_neg (by omega), if_neg (by omega), if_neg (by rintro ⟨k, hk, he⟩; exact hi.2.2 k hk he)]
      exact (ih (i + 1)).2 ⟨fun j j1 j2 => h1 j (by omega) (by omega), h2⟩
theorem sErrs_zero {ss : List S32} {q : Int} : ∀ (d i : Nat), sErrs ss q d i = 0 ↔ (∀ j : Nat, i ≤ j → j < i + d → sBad (rd_T32 ss j) j = 0) ∧ q = 0 := by
  intro d
  induction d with
  | zero => intro i; simp only [sErrs]; exact ⟨fun h => ⟨fun j h1 h2 => by omega, h⟩, fun h => h.2⟩
  | succ d ih =>
    intro i
    simp only [sErrs]
    by_cases h0 : sBad (rd_T32 ss i) i = 0
    · rw [if_pos h0, ih (i + 1)]
      refine ⟨fun h => ⟨fun j j1 j2 => ?_, h.2⟩, fun h => ⟨fun j j1 j2 => h.1 j (by omega) (by omega), h.2⟩⟩
      by_cases e : j = i
      · subst e; exact h0
      · exact h.1 j (by omega) (by omega)
    · rw [if_neg h0]
      exact ⟨fun h => absurd h h0, fun h => absurd (h.1 i (by omega) (by omega)) h0⟩
theorem chk_zero {ss : List S32} {zs : List Int} {rp : Int} : chk ss zs rp = 0 ↔ Ok ss zs rp := by
  unfold chk
  constructor
  · intro h
    split at h
    · simp at h
    split at h
    · simp at h
    obtain ⟨h1, h2⟩ := (sErrs_zero _ _).1 h
    obtain ⟨h3, h4, h5⟩ := (zErrs_zero _ _).1 h2
    exact ⟨by omega, by omega, fun i hi => h1 i (by omega) (by omega), fun i hi => h3 i (by omega) (by omega), h4, h5⟩
  · intro h
    have := h.few; have := h.zfew
    rw [if_neg (by omega), if_neg (by omega)]
    exact (sErrs_zero _ _).2 ⟨fun j _ hj => h.sw j (by omega), (zErrs_zero _ _).2 ⟨fun j _ hj => h.zo j (by omega), h.rp0, h.rp1⟩⟩
theorem sBad_zero {s : S32} {i : Int} : sBad s i = 0 ↔ -1 ≤ s.f0 ∧ s.f0 < i ∧ 0 ≤ s.f1 ∧ s.f1 ≤ 2147483648 ∧ -1 ≤ s.f2 ∧ s.f2 ≤ 1 ∧ (s.f4 = true → s.f3 = false ∧ s.f2 ≠ -1) := by
  unfold sBad
  constructor
  · intro h
    split at h
    · simp at h
    split at h
    · simp at h
    split at h
    · simp at h
    split at h
    · simp at h
    split at h
    · simp at h
    split at h
    · simp at h
    refine ⟨by omega, by omega, by omega, by omega, by omega, by omega, fun h4 => ?_⟩
    rw [if_pos h4] at h
    split at h
    · simp at h
    split at h
    · simp at h
    rename_i g1 g2
    exact ⟨by simpa using g1, g2⟩
  · rintro ⟨h1, h2, h3, h4, h5, h6, h7⟩
    rw [if_neg (by omega), if_neg (by omega), if_neg (by omega), if_neg (by omega), if_neg (by omega), if_neg (by omega)]
    by_cases g : s.f4 = true
    · obtain ⟨g1, g2⟩ := h7 g
      rw [if_pos g, if_neg (by simp [g1]), if_neg g2]
    · rw [if_neg g]

/-- What is drawn is right. -/
theorem net_ok {ss : List S32} {zs : List Int} {rp : Int} {z : Nat} (h : Net ss zs rp z) (hz : z ≤ 16) : Ok ss zs rp := by
  have h1 := h.few; have h2 := h.zl; have h3 := h.rp0; have h4 := h.rp1
  refine ⟨by omega, by omega, fun i hi => ?_, fun i hi => ?_, by omega, by omega⟩
  · obtain ⟨a, b, c, d, e, f⟩ := h.so i hi
    exact sBad_zero.2 ⟨a, b, by omega, by omega, d, e, fun g => by rw [f] at g; cases g⟩
  · have hm := h.zo.1 _ (rd_mem (l := zs) (i := (i : Int)) (by omega) (by omega))
    refine ⟨hm.1, hm.2, fun k hk he => ?_⟩
    have hn := h.zo.2
    unfold rd at he
    simp only [Int.toNat_natCast, List.getD_eq_getElem?_getD] at he
    rw [List.getElem?_eq_getElem (show k < zs.length by omega), List.getElem?_eq_getElem hi] at he
    exact (List.pairwise_iff_getElem.1 hn) k i (by omega) hi hk (by simpa using he)

end Go.Proofs.Ytcgeflbifbaecaa.Com
