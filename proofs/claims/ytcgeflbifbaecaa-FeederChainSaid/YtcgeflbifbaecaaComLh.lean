/- Networks of which one differs from the other in that some switches are not known to be closed any more: no zone that was dead is live. -/
import Derived.Test.YtcgeflbifbaecaaComHh
import Derived.Test.YtcgeflbifbaecaaComUh
import Derived.Test.YtcgeflbifbaecaaPFehx0
namespace Go.Proofs.Ytcgeflbifbaecaa.Com
open Go.RowKit Go.Proofs.Ytcgeflbifbaecaa.PFeh Go.Proofs.YtcgeflbifbaecaaW.PrintWords Go.Proofs.YtcgeflbifbaecaaW.PrintLast Go.Proofs.YtcgeflbifbaecaaW.PrintMore

/-- The same switches above each, and what is shown is as it was, or is not that it is closed. -/
def AlikeS (a b : List S32) : Prop := b.length = a.length ∧ ∀ j : Nat, j < a.length → (rd_T32 b (j : Int)).f0 = (rd_T32 a (j : Int)).f0 ∧ ((rd_T32 b (j : Int)).f2 = (rd_T32 a (j : Int)).f2 ∨ (rd_T32 b (j : Int)).f2 ≤ 0)
theorem AlikeS.rfl (a : List S32) : AlikeS a a := ⟨Eq.refl _, fun _ _ => ⟨Eq.refl _, .inl (Eq.refl _)⟩⟩
theorem AlikeS.trans {a b c : List S32} (h : AlikeS a b) (k : AlikeS b c) : AlikeS a c := ⟨k.1.trans h.1, fun j hj => by
  have h2 := h.2 j hj; have k2 := k.2 j (by rw [h.1]; exact hj)
  exact ⟨k2.1.trans h2.1, by rcases k2.2 with e | e <;> rcases h2.2 with f | f <;> first | exact .inl (e.trans f) | (right; omega)⟩⟩
theorem AlikeS.set {a : List S32} {s : Int} (s0 : 0 ≤ s) (s1 : s < a.length) {x : S32} (h0 : x.f0 = (rd_T32 a s).f0) (h2 : x.f2 = (rd_T32 a s).f2 ∨ x.f2 ≤ 0) : AlikeS a (a.set s.toNat x) := ⟨List.length_set .., fun j hj => by
  by_cases e : (j : Int) = s
  · subst e; rw [rd32_set_eq s0 s1]; exact ⟨h0, h2⟩
  · rw [rd32_set_ne s0 (by omega) e]; exact ⟨Eq.refl _, .inl (Eq.refl _)⟩⟩
theorem AlikeS.open {a : List S32} {s : Int} (s0 : 0 ≤ s) (s1 : s < a.length) (t : Int) : AlikeS a (openS a s t).2 := by
  unfold openS; split
  · exact AlikeS.set s0 s1 (Eq.refl _) (.inr (Int.le_refl _))
  · exact AlikeS.rfl a
theorem AlikeS.tick {zs : List Int} {t rp : Int} (t0 : 0 ≤ t) (t1 : t ≤ 2147483648) : ∀ (i : Nat) (ss : List S32) (l o : List Int), St ss zs rp t → i ≤ ss.length → AlikeS ss (tickF t rp i ss l o).1 := by
  intro i
  induction i with
  | zero => intro ss l o _ _; exact AlikeS.rfl ss
  | succ i ih =>
    intro ss l o h hi
    simp only [tickF]
    by_cases hf : fire (rd_T32 ss (i : Int)) t rp = true
    · rw [if_pos hf]
      have hS := h.late hi hf
      have hu := h.above (i := i) (by omega)
      have hA : AlikeS ss (ss.set i (lateS (rd_T32 ss (i : Int)))) := by
        have := AlikeS.set (a := ss) (s := (i : Int)) (by omega) (by omega) (x := lateS (rd_T32 ss (i : Int))) (Eq.refl _) (.inl (Eq.refl _))
        rwa [Int.toNat_natCast] at this
      by_cases ha : (rd_T32 ss (i : Int)).f0 ≥ 0
      · rw [if_pos ha]
        have hO := hS.open (s := (rd_T32 ss (i : Int)).f0) ha (by rw [List.length_set]; omega) t0 t1
        exact (hA.trans (AlikeS.open ha (by rw [List.length_set]; omega) t)).trans (ih _ _ _ hO (by rw [openS_len, List.length_set]; omega))
      · rw [if_neg ha]
        exact hA.trans (ih _ _ _ hS (by rw [List.length_set]; omega))
    · rw [if_neg hf]
      exact ih ss l o h (by omega)
theorem up_alike {a b : List S32} {zs : List Int} {rp : Int} (h : AlikeS a b) (ho : Ok a zs rp) : ∀ (n : Nat) (s : Int), s < a.length → up b n s = up a n s := by
  intro n
  induction n with
  | zero => intro s _; simp [up]
  | succ n ih =>
    intro s hs
    simp only [up]
    by_cases h0 : s < 0
    · rw [if_pos h0, if_pos h0]
    · rw [if_neg h0, if_neg h0]
      have hu := ho.above (s := s) (by omega) hs
      have e : (rd_T32 b s).f0 = (rd_T32 a s).f0 := by
        obtain ⟨m, rfl⟩ : ∃ m : Nat, s = (m : Int) := ⟨s.toNat, by omega⟩
        exact (h.2 m (by omega)).1
      rw [e, ih _ (by omega)]
theorem live_alike {a b : List S32} {zs : List Int} {rp z : Int} (h : AlikeS a b) (ha : Ok a zs rp) (hb : Ok b zs rp) (h1 : live a zs rp z = -1) : live b zs rp z ≠ 1 := by
  unfold live at h1 ⊢
  rw [if_pos (chk_zero.2 ha)] at h1
  rw [if_pos (chk_zero.2 hb)]
  by_cases h0 : 0 ≤ z
  · rw [if_pos h0] at h1 ⊢
    by_cases hz : z < zs.length
    · rw [if_pos hz] at h1 ⊢
      obtain ⟨n, rfl⟩ : ∃ n : Nat, z = (n : Int) := ⟨z.toNat, by omega⟩
      have hzo := ha.zo n (by omega)
      have bnd : ∀ {c : List S32}, Ok c zs rp → c.length = a.length → ∀ x ∈ up a a.length (rd zs (n : Int)), -1 ≤ (rd_T32 c x).f2 ∧ (rd_T32 c x).f2 ≤ 1 := by
        intro c hc hl x hx
        obtain ⟨x0, x1⟩ := up_in ha _ _ hzo.2.1 x hx
        obtain ⟨m, rfl⟩ : ∃ m : Nat, x = (m : Int) := ⟨x.toNat, by omega⟩
        have := sBad_zero.1 (hc.sw m (by omega))
        exact ⟨this.2.2.2.2.1, this.2.2.2.2.2.1⟩
      have la := (least_is (ss := a) (up a a.length (rd zs (n : Int))) 1 (bnd ha (Eq.refl _)) (by omega) (by omega)).1
      have lb := (least_is (ss := b) (up a a.length (rd zs (n : Int))) 1 (bnd hb h.1) (by omega) (by omega)).2
      rw [h1] at la
      have la : ((up a a.length (rd zs (n : Int))).any fun x => (rd_T32 a x).f2 == -1) = true := by simpa using la.symm
      obtain ⟨x, hx, e⟩ := List.any_eq_true.1 la
      have e : (rd_T32 a x).f2 = -1 := by simpa using e
      intro h2
      rw [h.1, up_alike h ha _ _ hzo.2.1] at h2
      rw [h2] at lb
      have lb : ((up a a.length (rd zs (n : Int))).all fun x => (rd_T32 b x).f2 == 1) = true := by simpa using lb.symm
      have e2 := List.all_eq_true.1 lb x hx
      have e2 : (rd_T32 b x).f2 = 1 := by simpa using e2
      obtain ⟨x0, x1⟩ := up_in ha _ _ hzo.2.1 x hx
      obtain ⟨m, rfl⟩ : ∃ m : Nat, x = (m : Int) := ⟨x.toNat, by omega⟩
      rcases (h.2 m (by omega)).2 with g | g <;> omega
    · rw [if_neg hz] at h1; omega
  · rw [if_neg h0] at h1; omega
end Go.Proofs.Ytcgeflbifbaecaa.Com
