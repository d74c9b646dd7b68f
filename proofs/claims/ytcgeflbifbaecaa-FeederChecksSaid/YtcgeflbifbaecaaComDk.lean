/- Roads up, which zones have power, when a tick is due, which switches have failed: the program and the reference come to one and the same. -/
import Derived.Test.YtcgeflbifbaecaaComCk
import Derived.Test.YtcgeflbifbaecaaPFekx11
import Derived.Test.YtcgeflbifbaecaaPFekx3
import Derived.Test.YtcgeflbifbaecaaPFekx4
namespace Go.Proofs.Ytcgeflbifbaecaa.Com
open Go.RowKit Go.Proofs.Ytcgeflbifbaecaa.PFek Go.Proofs.YtcgeflbifbaecaaW.PrintWords Go.Proofs.YtcgeflbifbaecaaW.PrintLast Go.Proofs.YtcgeflbifbaecaaW.PrintMore

/-- The road up from s, of n switches at most. -/
def up (ss : List S32) : Nat → Int → List Int
  | 0, _ => []
  | n + 1, s => if s < 0 then [] else s :: up ss n (rd_T32 ss s).f0
theorem Ok.above {ss : List S32} {zs : List Int} {rp : Int} (h : Ok ss zs rp) {s : Int} (h0 : 0 ≤ s) (h1 : s < ss.length) : -1 ≤ (rd_T32 ss s).f0 ∧ (rd_T32 ss s).f0 < s := by
  obtain ⟨n, rfl⟩ : ∃ n : Nat, s = (n : Int) := ⟨s.toNat, by omega⟩
  have := sBad_zero.1 (h.sw n (by omega))
  exact ⟨this.1, this.2.1⟩
theorem up_len {ss : List S32} : ∀ (n : Nat) (s : Int), (up ss n s).length ≤ n := by
  intro n
  induction n with
  | zero => intro s; exact Nat.le_refl _
  | succ n ih =>
    intro s
    simp only [up]
    split
    · simp
    · simp only [List.length_cons]; exact Nat.succ_le_succ (ih _)
theorem up_in {ss : List S32} {zs : List Int} {rp : Int} (h : Ok ss zs rp) : ∀ (n : Nat) (s : Int), s < ss.length → ∀ x ∈ up ss n s, 0 ≤ x ∧ x < ss.length := by
  intro n
  induction n with
  | zero => intro s _ x hx; simp [up] at hx
  | succ n ih =>
    intro s hs x hx
    simp only [up] at hx
    split at hx
    · simp at hx
    · simp only [List.mem_cons] at hx
      rcases hx with rfl | hx
      · omega
      · have := h.above (s := s) (by omega) hs
        exact ih _ (by omega) x hx
theorem p_path_l0 {ss : List S32} {zs : List Int} {rp : Int} (h : Ok ss zs rp) : ∀ (n : Nat) (s : Int) (acc : List Int), s < n → s < ss.length → acc.length + n ≤ 1000 → Ev (fun k => feeder_Path.l0 k ss s acc) (acc ++ up ss n s) := by
  intro n
  induction n with
  | zero =>
    intro s acc hn hs ha
    rw [show acc ++ up ss 0 s = acc by simp [up]]
    exact Ev.step (f := fun _ => some acc) (fun k => by simp only [feeder_Path.l0]; rw [if_neg (by omega)]) (Ev.now _)
  | succ n ih =>
    intro s acc hn hs ha
    simp only [up]
    by_cases h0 : s < 0
    · rw [if_pos h0, List.append_nil]
      exact Ev.step (f := fun _ => some acc) (fun k => by simp only [feeder_Path.l0]; rw [if_neg (by omega)]) (Ev.now _)
    · have := h.above (s := s) (by omega) hs
      rw [if_neg h0, show acc ++ s :: up ss n (rd_T32 ss s).f0 = (acc ++ [s]) ++ up ss n (rd_T32 ss s).f0 by simp]
      refine Ev.step (fun k => ?_) (ih _ (acc ++ [s]) (by omega) (by omega) (by simp; omega))
      simp only [feeder_Path.l0]
      rw [if_pos (by omega), if_pos hs, if_pos (by omega)]
theorem r_path_l0 {ss : List S32} {zs : List Int} {rp : Int} (h : Ok ss zs rp) : ∀ (n : Nat) (s : Int) (acc : List Int), s < n → s < ss.length → acc.length + n ≤ 1000 → Ev (fun k => minecontrolref18_Path.l0 k s acc ss zs rp) (acc ++ up ss n s) := by
  intro n
  induction n with
  | zero =>
    intro s acc hn hs ha
    rw [show acc ++ up ss 0 s = acc by simp [up]]
    exact Ev.step (f := fun _ => some acc) (fun k => by simp only [minecontrolref18_Path.l0]; rw [if_neg (by omega)]) (Ev.now _)
  | succ n ih =>
    intro s acc hn hs ha
    simp only [up]
    by_cases h0 : s < 0
    · rw [if_pos h0, List.append_nil]
      exact Ev.step (f := fun _ => some acc) (fun k => by simp only [minecontrolref18_Path.l0]; rw [if_neg (by omega)]) (Ev.now _)
    · have := h.above (s := s) (by omega) hs
      rw [if_neg h0, show acc ++ s :: up ss n (rd_T32 ss s).f0 = (acc ++ [s]) ++ up ss n (rd_T32 ss s).f0 by simp]
      refine Ev.step (fun k => ?_) (ih _ (acc ++ [s]) (by omega) (by omega) (by simp; omega))
      simp only [minecontrolref18_Path.l0]
      rw [if_pos (by omega), if_pos (by omega), if_pos (by omega), if_pos hs]
/-- The path of a switch. -/
noncomputable def path (ss : List S32) (zs : List Int) (rp s : Int) : List Int := if chk ss zs rp = 0 then (if 0 ≤ s then (if s < ss.length then up ss ss.length s else []) else []) else []
theorem path_len (ss : List S32) (zs : List Int) (rp s : Int) : (path ss zs rp s).length ≤ 32 := by
  unfold path
  split
  · have := (chk_zero.1 ‹_›).few
    split
    · split
      · exact Nat.le_trans (up_len _ _) this
      · simp
    · simp
  · simp
theorem path_in {ss : List S32} {zs : List Int} {rp s : Int} : ∀ x ∈ path ss zs rp s, 0 ≤ x ∧ x < ss.length := by
  unfold path
  split
  · have h := chk_zero.1 ‹_›
    split
    · split
      · exact up_in h _ _ ‹_›
      · simp
    · simp
  · simp
theorem p_path (ss : List S32) (zs : List Int) (rp s : Int) : Ev (fun k => feeder_Path.f k ss zs rp s) (path ss zs rp s) := by
  unfold feeder_Path.f
  refine Ev.bind (pcheck ss zs rp) ?_
  unfold path
  by_cases hc : chk ss zs rp = 0
  · have h := chk_zero.1 hc
    have := h.few
    simp only [if_pos hc]
    by_cases h0 : 0 ≤ s
    · simp only [if_pos h0]
      by_cases h1 : s < (ss.length : Int)
      · simp only [if_pos h1]
        have := p_path_l0 h ss.length s [] h1 h1 (by simp; omega)
        rw [List.nil_append] at this
        exact this
      · simp only [if_neg h1]; exact Ev.now _
    · simp only [if_neg h0]; exact Ev.now _
  · simp only [if_neg hc]; exact Ev.now _
theorem r_path (ss : List S32) (zs : List Int) (rp s : Int) : Ev (fun k => minecontrolref18_Path.f k ss zs rp s) (path ss zs rp s) := by
  unfold minecontrolref18_Path.f
  refine Ev.bind (rcheck ss zs rp) ?_
  have J : Ev (fun k => minecontrolref18_Path.j0 k s true ss zs rp) [] := Ev.step (f := fun _ => some []) (fun k => by simp only [minecontrolref18_Path.j0, if_true]) (Ev.now _)
  unfold path
  by_cases hc : chk ss zs rp = 0
  · have h := chk_zero.1 hc
    have := h.few
    simp only [if_pos hc]
    by_cases h0 : 0 ≤ s
    · simp only [if_pos h0, if_neg (show ¬ s < 0 by omega)]
      by_cases h1 : s < (ss.length : Int)
      · rw [if_pos h1]
        have := r_path_l0 h ss.length s [] h1 h1 (by simp; omega)
        rw [List.nil_append] at this
        exact Ev.step (fun k => by simp only [minecontrolref18_Path.j0]; rw [if_neg (by simp; omega)]) this
      · rw [if_neg h1, decide_eq_true (show s ≥ (ss.length : Int) by omega)]; exact J
    · simp only [if_neg h0, if_pos (show s < 0 by omega)]; exact J
  · simp only [if_neg hc]; exact J

/-- The least of what these switches show. -/
def least (ss : List S32) (o : Int) (l : List Int) : Int := l.foldl (fun o x => mn o (rd_T32 ss x).f2) o
theorem p_live_l0 {ss : List S32} {zs : List Int} {rp : Int} (h : Ok ss zs rp) : ∀ (n : Nat) (s o : Int), s < n → s < ss.length → Ev (fun k => feeder_Live.l0 k ss s o) (least ss o (up ss n s)) := by
  intro n
  induction n with
  | zero =>
    intro s o hn hs
    exact Ev.step (f := fun _ => some o) (fun k => by simp only [feeder_Live.l0]; rw [if_neg (by omega)]) (Ev.now _)
  | succ n ih =>
    intro s o hn hs
    simp only [up]
    by_cases h0 : s < 0
    · rw [if_pos h0]
      exact Ev.step (f := fun _ => some o) (fun k => by simp only [feeder_Live.l0]; rw [if_neg (by omega)]) (Ev.now _)
    · have := h.above (s := s) (by omega) hs
      rw [if_neg h0]
      refine Ev.step (fun k => ?_) (ih (rd_T32 ss s).f0 (mn o (rd_T32 ss s).f2) (by omega) (by omega))
      simp only [feeder_Live.l0]
      rw [if_pos (by omega), if_pos hs]
theorem r_live_l0 {ss : List S32} {zs : List Int} {rp : Int} {l : List Int} (hl : l.length ≤ 1000) (hin : ∀ x ∈ l, 0 ≤ x ∧ x < ss.length) : ∀ (d i : Nat) (o : Int), i + d = l.length → Ev (fun k => minecontrolref18_Live.l0 k o l (i : Int) ss zs rp) (least ss o (l.drop i)) := by
  intro d
  induction d with
  | zero =>
    intro i o hi
    rw [List.drop_of_length_le (by omega)]
    exact Ev.step (f := fun _ => some o) (fun k => by simp only [minecontrolref18_Live.l0]; rw [if_neg (by omega)]) (Ev.now _)
  | succ d ih =>
    intro i o hi
    have hx := hin _ (rd_mem (l := l) (i := (i : Int)) (by omega) (by omega))
    have e : l.drop i = rd l (i : Int) :: l.drop (i + 1) := by
      rw [List.drop_eq_getElem_cons (by omega)]
      unfold rd
      simp only [Int.toNat_natCast, List.getD_eq_getElem?_getD]
      rw [List.getElem?_eq_getElem (by omega)]; rfl
    rw [e]
    refine Ev.step (fun k => ?_) (ih (i + 1) (mn o (rd_T32 ss (rd l (i : Int))).f2) (by omega))
    simp only [minecontrolref18_Live.l0]
    rw [if_pos (by omega), if_pos (by omega), if_pos hx.1, if_pos hx.2, w64 (by omega) (by omega)]; rfl
/-- Whether a zone has power. -/
noncomputable def live (ss : List S32) (zs : List Int) (rp z : Int) : Int := if chk ss zs rp = 0 then (if 0 ≤ z then (if z < zs.length then least ss 1 (up ss ss.length (rd zs z)) else 0) else 0) else 0
theorem p_live (ss : List S32) (zs : List Int) (rp z : Int) : Ev (fun k => feeder_Live.f k ss zs rp z) (live ss zs rp z) := by
  unfold feeder_Live.f
  refine Ev.bind (pcheck ss zs rp) ?_
  unfold live
  by_cases hc : chk ss zs rp = 0
  · have h := chk_zero.1 hc
    simp only [if_pos hc]
    by_cases h0 : 0 ≤ z
    · simp only [if_pos h0]
      by_cases h1 : z < (zs.length : Int)
      · simp only [if_pos h1]
        obtain ⟨n, rfl⟩ : ∃ n : Nat, z = (n : Int) := ⟨z.toNat, by omega⟩
        have := h.zo n (by omega)
        exact p_live_l0 h ss.length _ 1 this.2.1 this.2.1
      · simp only [if_neg h1]; exact Ev.now _
    · simp only [if_neg h0]; exact Ev.now _
  · simp only [if_neg hc]; exact Ev.now _
theorem r_live (ss : List S32) (zs : List Int) (rp z : Int) : Ev (fun k => minecontrolref18_Live.f k ss zs rp z) (live ss zs rp z) := by
  unfold minecontrolref18_Live.f
  refine Ev.bind (rcheck ss zs rp) ?_
  have J : Ev (fun k => minecontrolref18_Live.j0 k z true ss zs rp) 0 := Ev.step (f := fun _ => some 0) (fun k => by simp only [minecontrolref18_Live.j0, if_true]) (Ev.now _)
  unfold live
  by_cases hc : chk ss zs rp = 0
  · have h := chk_zero.1 hc
    simp only [if_pos hc]
    by_cases h0 : 0 ≤ z
    · simp only [if_pos h0, if_neg (show ¬ z < 0 by omega)]
      by_cases h1 : z < (zs.length : Int)
      · rw [if_pos h1]
        obtain ⟨n, rfl⟩ : ∃ n : Nat, z = (n : Int) := ⟨z.toNat, by omega⟩
        have hz := h.zo n (by omega)
        have e : path ss zs rp (rd zs (n : Int)) = up ss ss.length (rd zs (n : Int)) := by
          unfold path; rw [if_pos hc, if_pos hz.1, if_pos hz.2.1]
        have hp := path_len ss zs rp (rd zs (n : Int))
        have e2 := r_live_l0 (ss := ss) (zs := zs) (rp := rp) (l := path ss zs rp (rd zs (n : Int))) (by omega) path_in _ 0 1 (Nat.zero_add _)
        rw [List.drop_zero, e] at e2
        refine Ev.step (fun k => by simp only [minecontrolref18_Live.j0]; rw [if_neg (by simp; omega), if_pos h0, if_pos h1]) (Ev.bind (r_path ss zs rp (rd zs (n : Int))) ?_)
        rw [e]
        exact e2
      · rw [if_neg h1, decide_eq_true (show z ≥ (zs.length : Int) by omega)]; exact J
    · simp only [if_neg h0, if_pos (show z < 0 by omega)]; exact J
  · simp only [if_neg hc]; exact J
end Go.Proofs.Ytcgeflbifbaecaa.Com
