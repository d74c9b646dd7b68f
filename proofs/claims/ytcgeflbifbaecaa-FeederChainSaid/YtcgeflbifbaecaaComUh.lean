/- Roads up, and which zones have power: what the program comes to. -/
import Derived.Test.YtcgeflbifbaecaaComCh
import Derived.Test.YtcgeflbifbaecaaPFehx7
namespace Go.Proofs.Ytcgeflbifbaecaa.Com
open Go.RowKit Go.Proofs.Ytcgeflbifbaecaa.PFeh Go.Proofs.YtcgeflbifbaecaaW.PrintWords Go.Proofs.YtcgeflbifbaecaaW.PrintLast Go.Proofs.YtcgeflbifbaecaaW.PrintMore

/-- The road up from s, of n switches at most. -/
def up (ss : List S32) : Nat → Int → List Int
  | 0, _ => []
  | n + 1, s => if s < 0 then [] else s :: up ss n (rd_T32 ss s).f0
theorem Ok.above {ss : List S32} {zs : List Int} {rp : Int} (h : Ok ss zs rp) {s : Int} (h0 : 0 ≤ s) (h1 : s < ss.length) : -1 ≤ (rd_T32 ss s).f0 ∧ (rd_T32 ss s).f0 < s := by
  obtain ⟨n, rfl⟩ : ∃ n : Nat, s = (n : Int) := ⟨s.toNat, by omega⟩
  have := sBad_zero.1 (h.sw n (by omega))
  exact ⟨this.1, this.2.1⟩
theorem up_len {ss : List S32} : ∀ (n : Nat) (s : Int), (up ss n s).length ≤ n := by
  intro n
  induction n with
  | zero => intro s; exact Nat.le_refl _
  | succ n ih =>
    intro s
    simp only [up]
    split
    · simp
    · simp only [List.length_cons]; exact Nat.succ_le_succ (ih _)
theorem up_in {ss : List S32} {zs : List Int} {rp : Int} (h : Ok ss zs rp) : ∀ (n : Nat) (s : Int), s < ss.length → ∀ x ∈ up ss n s, 0 ≤ x ∧ x < ss.length := by
  intro n
  induction n with
  | zero => intro s _ x hx; simp [up] at hx
  | succ n ih =>
    intro s hs x hx
    simp only [up] at hx
    split at hx
    · simp at hx
    · simp only [List.mem_cons] at hx
      rcases hx with rfl | hx
      · omega
      · have := h.above (s := s) (by omega) hs
        exact ih _ (by omega) x hx
/-- The least of what these switches show. -/
def least (ss : List S32) (o : Int) (l : List Int) : Int := l.foldl (fun o x => mn o (rd_T32 ss x).f2) o
theorem p_live_l0 {ss : List S32} {zs : List Int} {rp : Int} (h : Ok ss zs rp) : ∀ (n : Nat) (s o : Int), s < n → s < ss.length → Ev (fun k => feeder_Live.l0 k ss s o) (least ss o (up ss n s)) := by
  intro n
  induction n with
  | zero =>
    intro s o hn hs
    exact Ev.step (f := fun _ => some o) (fun k => by simp only [feeder_Live.l0]; rw [if_neg (by omega)]) (Ev.now _)
  | succ n ih =>
    intro s o hn hs
    simp only [up]
    by_cases h0 : s < 0
    · rw [if_pos h0]
      exact Ev.step (f := fun _ => some o) (fun k => by simp only [feeder_Live.l0]; rw [if_neg (by omega)]) (Ev.now _)
    · have := h.above (s := s) (by omega) hs
      rw [if_neg h0]
      refine Ev.step (fun k => ?_) (ih (rd_T32 ss s).f0 (mn o (rd_T32 ss s).f2) (by omega) (by omega))
      simp only [feeder_Live.l0]
      rw [if_pos (by omega), if_pos hs]
/-- Whether a zone has power. -/
noncomputable def live (ss : List S32) (zs : List Int) (rp z : Int) : Int := if chk ss zs rp = 0 then (if 0 ≤ z then (if z < zs.length then least ss 1 (up ss ss.length (rd zs z)) else 0) else 0) else 0
theorem p_live (ss : List S32) (zs : List Int) (rp z : Int) : Ev (fun k => feeder_Live.f k ss zs rp z) (live ss zs rp z) := by
  unfold feeder_Live.f
  refine Ev.bind (pcheck ss zs rp) ?_
  unfold live
  by_cases hc : chk ss zs rp = 0
  · have h := chk_zero.1 hc
    simp only [if_pos hc]
    by_cases h0 : 0 ≤ z
    · simp only [if_pos h0]
      by_cases h1 : z < (zs.length : Int)
      · simp only [if_pos h1]
        obtain ⟨n, rfl⟩ : ∃ n : Nat, z = (n : Int) := ⟨z.toNat, by omega⟩
        have := h.zo n (by omega)
        exact p_live_l0 h ss.length _ 1 this.2.1 this.2.1
      · simp only [if_neg h1]; exact Ev.now _
    · simp only [if_neg h0]; exact Ev.now _
  · simp only [if_neg hc]; exact Ev.now _
theorem mn_low (a b : Int) (ha : -1 ≤ a) (hb : -1 ≤ b) : (mn a b == -1) = (a == -1 || b == -1) := by
  rw [Bool.eq_iff_iff]; simp only [Bool.or_eq_true, beq_iff_eq]; unfold mn; split <;> omega
theorem mn_high (a b : Int) (ha : a ≤ 1) (hb : b ≤ 1) : (mn a b == 1) = (a == 1 && b == 1) := by
  rw [Bool.eq_iff_iff]; simp only [Bool.and_eq_true, beq_iff_eq]; unfold mn; split <;> omega
theorem least_is {ss : List S32} : ∀ (l : List Int) (o : Int), (∀ x ∈ l, -1 ≤ (rd_T32 ss x).f2 ∧ (rd_T32 ss x).f2 ≤ 1) → -1 ≤ o → o ≤ 1 →
    (least ss o l == -1) = (o == -1 || l.any fun x => (rd_T32 ss x).f2 == -1) ∧ (least ss o l == 1) = (o == 1 && l.all fun x => (rd_T32 ss x).f2 == 1) := by
  intro l
  induction l with
  | nil => intro o _ _ _; simp [least]
  | cons x l ih =>
    intro o h o0 o1
    have hx := h x (List.mem_cons_self ..)
    have hm : -1 ≤ mn o (rd_T32 ss x).f2 ∧ mn o (rd_T32 ss x).f2 ≤ 1 := by unfold mn; split <;> omega
    obtain ⟨a, b⟩ := ih (mn o (rd_T32 ss x).f2) (fun y hy => h y (List.mem_cons_of_mem _ hy)) hm.1 hm.2
    have e : least ss o (x :: l) = least ss (mn o (rd_T32 ss x).f2) l := rfl
    rw [e, a, b, mn_low _ _ o0 hx.1, mn_high _ _ o1 hx.2]
    simp [Bool.or_assoc, Bool.and_assoc]
end Go.Proofs.Ytcgeflbifbaecaa.Com
