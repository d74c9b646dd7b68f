/- Whether two networks are the same; when a tick is due. -/
import Derived.Test.YtcgeflbifbaecaaComJt
import Derived.Test.YtcgeflbifbaecaaPFetx8
namespace Go.Proofs.Ytcgeflbifbaecaa.Com
open Go.RowKit Go.Proofs.Ytcgeflbifbaecaa.PFet Go.Proofs.YtcgeflbifbaecaaW.PrintWords Go.Proofs.YtcgeflbifbaecaaW.PrintLast Go.Proofs.YtcgeflbifbaecaaW.PrintMore

theorem neq32 {a b : S32} : ((!(a.f0 == b.f0) || (!(a.f1 == b.f1) || (!(a.f2 == b.f2) || (!(a.f3 == b.f3) || (!(a.f4 == b.f4)))))) = true) ↔ a ≠ b := by
  obtain ⟨a0, a1, a2, a3, a4⟩ := a; obtain ⟨b0, b1, b2, b3, b4⟩ := b
  simp only [Bool.or_eq_true, Bool.not_eq_true', beq_eq_false_iff_ne, ne_eq, S32.mk.injEq]
  exact ⟨fun h g => by obtain ⟨g0, g1, g2, g3, g4⟩ := g; rcases h with h | h | h | h | h <;> contradiction, fun h => by
    apply Classical.byContradiction
    intro n
    simp only [not_or, Classical.not_not] at n
    exact h n⟩
theorem same_l1 {a b : List S32} {zs : List Int} {p q : Int} (hz : zs.length ≤ 1000) : ∀ (d i : Nat), i + d = zs.length → Ev (fun k => minecontrolref18_Same.l1 k (i : Int) a zs p b zs q) true := by
  intro d
  induction d with
  | zero => intro i hi; exact Ev.step (f := fun _ => some true) (fun k => by simp only [minecontrolref18_Same.l1]; rw [if_neg (by omega)]) (Ev.now _)
  | succ d ih =>
    intro i hi
    refine Ev.step (fun k => ?_) (ih (i + 1) (by omega))
    simp only [minecontrolref18_Same.l1]
    rw [if_pos (by omega), if_pos (by omega), if_pos (by omega), if_pos trivial, w64 (by omega) (by omega)]; rfl
theorem same_l0 {a b : List S32} {zs : List Int} {p q : Int} (hl : a.length = b.length) (ha : a.length ≤ 1000) (hz : zs.length ≤ 1000) {r : Bool} : ∀ (d i : Nat), i + d = a.length →
    ((r = true ∧ ∀ j : Nat, i ≤ j → j < a.length → rd_T32 a (j : Int) = rd_T32 b (j : Int)) ∨ (r = false ∧ ∃ j : Nat, i ≤ j ∧ j < a.length ∧ rd_T32 a (j : Int) ≠ rd_T32 b (j : Int))) → Ev (fun k => minecontrolref18_Same.l0 k (i : Int) a zs p b zs q) r := by
  intro d
  induction d with
  | zero =>
    intro i hi h
    rcases h with ⟨rfl, -⟩ | ⟨-, j, h1, h2, -⟩
    · exact Ev.step (fun k => by simp only [minecontrolref18_Same.l0]; rw [if_neg (by omega)]; rfl) (same_l1 (a := a) (b := b) (p := p) (q := q) hz zs.length 0 (by omega))
    · omega
  | succ d ih =>
    intro i hi h
    by_cases e : rd_T32 a (i : Int) = rd_T32 b (i : Int)
    · refine Ev.step (fun k => ?_) (ih (i + 1) (by omega) ?_)
      · simp only [minecontrolref18_Same.l0]
        rw [if_pos (by omega), if_pos (by omega), if_pos (by omega), if_neg (fun h => neq32.1 h e), w64 (by omega) (by omega)]; rfl
      · rcases h with ⟨h1, h2⟩ | ⟨h1, j, h2, h3, h4⟩
        · exact .inl ⟨h1, fun j hj hj2 => h2 j (by omega) hj2⟩
        · refine .inr ⟨h1, j, ?_, h3, h4⟩
          by_cases e2 : j = i
          · subst e2; exact absurd e h4
          · omega
    · rcases h with ⟨-, h2⟩ | ⟨rfl, -⟩
      · exact absurd (h2 i (Nat.le_refl _) (by omega)) e
      · refine Ev.step (f := fun _ => some false) (fun k => ?_) (Ev.now _)
        simp only [minecontrolref18_Same.l0]
        rw [if_pos (by omega), if_pos (by omega), if_pos (by omega), if_pos (neq32.2 e)]
theorem same_ev {a b : List S32} {zs : List Int} {p : Int} (hl : a.length = b.length) (ha : a.length ≤ 1000) (hz : zs.length ≤ 1000) {r : Bool}
    (h : (r = true ∧ ∀ j : Nat, j < a.length → rd_T32 a (j : Int) = rd_T32 b (j : Int)) ∨ (r = false ∧ ∃ j : Nat, j < a.length ∧ rd_T32 a (j : Int) ≠ rd_T32 b (j : Int))) : Ev (fun k => minecontrolref18_Same.f k a zs p b zs p) r := by
  unfold minecontrolref18_Same.f
  simp only [if_true, if_pos (show (a.length : Int) = (b.length : Int) by omega)]
  refine Ev.step (fun k => by simp only [minecontrolref18_Same.j0]; rw [if_neg (by simp)]; rfl) (same_l0 (p := p) (q := p) hl ha hz a.length 0 (by omega) ?_)
  rcases h with ⟨h1, h2⟩ | ⟨h1, j, h2, h3⟩
  · exact .inl ⟨h1, fun j _ => h2 j⟩
  · exact .inr ⟨h1, j, Nat.zero_le _, h2, h3⟩
theorem same_refl {a : List S32} {zs : List Int} {p : Int} (ha : a.length ≤ 1000) (hz : zs.length ≤ 1000) : Ev (fun k => minecontrolref18_Same.f k a zs p a zs p) true := same_ev rfl ha hz (.inl ⟨rfl, fun _ _ => rfl⟩)

theorem dueF_in {ss : List S32} {zs : List Int} {rp t : Int} (h : St ss zs rp t) : ∀ (d i : Nat) (o : Int), i + d = ss.length →
    dueF ss rp d i o ≤ o ∧ (∀ j : Nat, i ≤ j → j < ss.length → waitsB (rd_T32 ss (j : Int)) = true → dueF ss rp d i o ≤ (rd_T32 ss (j : Int)).f1 + rp) ∧ (dueF ss rp d i o = o ∨ ∃ j : Nat, j < ss.length ∧ waitsB (rd_T32 ss (j : Int)) = true ∧ dueF ss rp d i o = (rd_T32 ss (j : Int)).f1 + rp) := by
  intro d
  induction d with
  | zero => intro i o hi; exact ⟨Int.le_refl _, fun j h1 h2 => by omega, .inl rfl⟩
  | succ d ih =>
    intro i o hi
    have hb := sBad_zero.1 (h.bad (s := (i : Int)) (by omega) (by omega))
    have hr := h.1.rp0; have hr1 := h.1.rp1
    simp only [dueF]
    by_cases hw : waitsB (rd_T32 ss (i : Int)) = true
    · rw [if_pos hw, w64 (n := (rd_T32 ss (i : Int)).f1 + rp) (by omega) (by omega)]
      obtain ⟨a, b, c⟩ := ih (i + 1) (mn o ((rd_T32 ss (i : Int)).f1 + rp)) (by omega)
      have hm : mn o ((rd_T32 ss (i : Int)).f1 + rp) ≤ o ∧ mn o ((rd_T32 ss (i : Int)).f1 + rp) ≤ (rd_T32 ss (i : Int)).f1 + rp ∧ (mn o ((rd_T32 ss (i : Int)).f1 + rp) = o ∨ mn o ((rd_T32 ss (i : Int)).f1 + rp) = (rd_T32 ss (i : Int)).f1 + rp) := by unfold mn; split <;> omega
      refine ⟨by omega, fun j h1 h2 h3 => ?_, ?_⟩
      · by_cases e : j = i
        · subst e; omega
        · exact b j (by omega) h2 h3
      · rcases c with c | c
        · rcases hm.2.2 with hm | hm
          · exact .inl (by omega)
          · exact .inr ⟨i, by omega, hw, by omega⟩
        · exact .inr c
    · rw [if_neg hw]
      obtain ⟨a, b, c⟩ := ih (i + 1) o (by omega)
      refine ⟨a, fun j h1 h2 h3 => ?_, c⟩
      by_cases e : j = i
      · subst e; exact absurd h3 hw
      · exact b j (by omega) h2 h3
end Go.Proofs.Ytcgeflbifbaecaa.Com
