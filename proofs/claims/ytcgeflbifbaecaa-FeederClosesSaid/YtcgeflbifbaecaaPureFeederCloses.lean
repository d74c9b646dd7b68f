/- The plain law of FeederCloses. -/
import Derived.Test.YtcgeflbifbaecaaComCc
import Derived.Test.YtcgeflbifbaecaaPFecx6
import Derived.Test.YtcgeflbifbaecaaPFecx8
namespace Go.Proofs.Ytcgeflbifbaecaa.Pure
open Go.RowKit Go.Proofs.Ytcgeflbifbaecaa.PFec Go.Proofs.Ytcgeflbifbaecaa.Com Go.Proofs.YtcgeflbifbaecaaW.PrintWords Go.Proofs.YtcgeflbifbaecaaW.PrintLast Go.Proofs.YtcgeflbifbaecaaW.PrintMore
set_option linter.unusedVariables false

theorem close_yes {ss : List S32} {zs : List Int} {rp s t : Int} (hc : cn ss zs rp s t = 0) (h2 : (rd_T32 ss s).f2 = -1) (h0 : (rd_T32 ss s).f0 < 0 ∨ (0 ≤ (rd_T32 ss s).f0 ∧ (rd_T32 ss s).f0 < ss.length ∧ (rd_T32 ss (rd_T32 ss s).f0).f2 = 1)) :
    Ev (fun k => feeder_Close.f k ss zs rp s t) (ss.set s.toNat ⟨(rd_T32 ss s).f0, t, 0, true, false⟩, zs, rp, 0) := by
  obtain ⟨ho, s0, s1, -⟩ := cn_zero.1 hc
  have hcl := clone_ev (ss := ss) (zs := zs) ho.few ho.zfew rp
  unfold feeder_Close.f
  refine Ev.bind (can_ev ss zs rp s t) ?_
  simp only [if_pos hc, if_pos s0, if_pos s1, if_pos h2, hcl, Option.bind_some]
  rcases h0 with h0 | ⟨a, b, c⟩
  · simp only [if_neg (show ¬ (rd_T32 ss s).f0 ≥ 0 by omega)]; exact Ev.now _
  · simp only [if_pos (show (rd_T32 ss s).f0 ≥ 0 from a), if_pos b, if_pos c]; exact Ev.now _
theorem close_no {ss : List S32} {zs : List Int} {rp s t : Int} (hc : cn ss zs rp s t = 0) (h : (rd_T32 ss s).f2 ≠ -1 ∨ (0 ≤ (rd_T32 ss s).f0 ∧ (rd_T32 ss s).f0 < ss.length ∧ (rd_T32 ss (rd_T32 ss s).f0).f2 ≠ 1)) :
    Ev (fun k => feeder_Close.f k ss zs rp s t) (([] : List S32), ([] : List Int), 0, 10) := by
  obtain ⟨ho, s0, s1, -⟩ := cn_zero.1 hc
  unfold feeder_Close.f
  refine Ev.bind (can_ev ss zs rp s t) ?_
  simp only [if_pos hc, if_pos s0, if_pos s1]
  by_cases h2 : (rd_T32 ss s).f2 = -1
  · rcases h with h | ⟨a, b, c⟩
    · exact absurd h2 h
    · simp only [if_pos h2, if_pos (show (rd_T32 ss s).f0 ≥ 0 from a), if_pos b, if_neg c]; exact Ev.now _
  · simp only [if_neg h2]; exact Ev.now _

theorem FeederCloses : minecontrollaw18_FeederCloses.Pure := by
  intro l0 a1 _ _ hb _
  obtain ⟨l, hn, hc⟩ := new_ev hb
  obtain ⟨v, a', e1, c1, v0, v1, -⟩ := next_ev hc 4 (by omega)
  have v1 := v1 (by omega)
  obtain ⟨z, rfl⟩ : ∃ z : Nat, v = (z : Int) := ⟨v.toNat, by omega⟩
  obtain ⟨ss, zs, rp, a'', e2, c2, N⟩ := feeder_ev c1 z (by omega)
  have ho := net_ok N (by omega)
  have hfew := N.few; have hpos := N.pos
  obtain ⟨s, hs, s0, s1⟩ := mod_in a1 (ss.length : Int) (by omega) (by omega)
  have hcn : cn ss zs rp s 5 = 0 := cn_zero.2 ⟨ho, s0, s1, tim_true.2 ⟨by omega, by omega, fun j hj => by rw [(N.so j hj).2.2.1]; omega⟩⟩
  obtain ⟨n, rfl⟩ : ∃ n : Nat, s = (n : Int) := ⟨s.toNat, by omega⟩
  obtain ⟨b0, b1, b2, b3, b4, b5⟩ := N.so n (by omega)
  have hck := chk_zero.2 ho
  obtain ⟨Kc, ec⟩ := rcheck ss zs rp
  obtain ⟨Ka, ea⟩ := awake_ev
  rw [hck] at ec
  dsimp only at ec ea
  have J0 : ∀ r1 r2 r3, Ev (fun k => minecontrollaw18_FeederCloses.j0 k (n : Int) 10 false ss zs rp r1 r2 r3) true := by
    intro r1 r2 r3
    refine ⟨Kc + Ka + 1, fun k hk => ?_⟩
    obtain ⟨m, rfl⟩ : ∃ m, k = m + 1 := ⟨k - 1, by omega⟩
    simp only [minecontrollaw18_FeederCloses.j0]
    rw [ec m (by omega)]
    simp only [Option.bind_some, if_true, Bool.false_eq_true, if_false]
    rw [ea m (by omega)]; rfl
  have J1 : ∀ r2 r3, Ev (fun k => minecontrollaw18_FeederCloses.j0 k (n : Int) 0 true ss zs rp (ss.set n ⟨(rd_T32 ss (n : Int)).f0, 5, 0, true, false⟩) r2 r3) true := by
    intro r2 r3
    refine ⟨Kc + Ka + 1, fun k hk => ?_⟩
    obtain ⟨m, rfl⟩ : ∃ m, k = m + 1 := ⟨k - 1, by omega⟩
    have hx := rd32_set_eq (l := ss) (i := (n : Int)) (v := ⟨(rd_T32 ss (n : Int)).f0, 5, 0, true, false⟩) (by omega) (by omega)
    rw [Int.toNat_natCast] at hx
    simp only [minecontrollaw18_FeederCloses.j0]
    rw [ec m (by omega)]
    simp only [Option.bind_some, if_true, List.length_set, hx]
    rw [if_pos (by omega), if_pos (by omega), ea m (by omega)]; rfl
  -- what the order comes to, and what may be
  have fin : ∀ (e : List S32 × List Int × Int × Int) (b : Bool), Ev (fun k => feeder_Close.f k ss zs rp (n : Int) 5) e → Ev (fun k => minecontrollaw18_FeederCloses.j0 k (n : Int) e.2.2.2 b ss zs rp e.1 e.2.1 e.2.2.1) true →
      ((rd_T32 ss (n : Int)).f2 = -1 → (rd_T32 ss (n : Int)).f0 = -1 → b = true) → ((rd_T32 ss (n : Int)).f2 = -1 → (rd_T32 ss (n : Int)).f0 ≠ -1 → b = ((rd_T32 ss (rd_T32 ss (n : Int)).f0).f2 == 1)) → ((rd_T32 ss (n : Int)).f2 ≠ -1 → b = false) → ∃ k, minecontrollaw18_FeederCloses.f k l0 a1 = some true := by
    intro e b E E2 g1 g2 g3
    refine Ev.rounds (g := fun k => minecontrollaw18_FeederCloses.f k l0 a1) ?_
    unfold minecontrollaw18_FeederCloses.f
    simp only [hn, Option.bind_some]
    refine Ev.bind e1 (Ev.bind e2 ?_)
    simp only [hs, Option.bind_some]
    refine Ev.bind E ?_
    simp only [if_pos s0, if_pos s1]
    by_cases h2 : (rd_T32 ss (n : Int)).f2 = -1
    · simp only [if_pos h2]
      by_cases h0 : (rd_T32 ss (n : Int)).f0 = -1
      · simp only [if_pos h0]
        rw [g1 h2 h0] at E2
        exact E2
      · simp only [if_neg h0, if_pos (show 0 ≤ (rd_T32 ss (n : Int)).f0 by omega), if_pos (show (rd_T32 ss (n : Int)).f0 < (ss.length : Int) by omega)]
        rw [g2 h2 h0] at E2
        exact E2
    · simp only [if_neg h2]
      rw [g3 h2] at E2
      exact E2
  by_cases h2 : (rd_T32 ss (n : Int)).f2 = -1
  · by_cases h0 : (rd_T32 ss (n : Int)).f0 = -1
    · exact fin _ true (close_yes hcn h2 (.inl (by omega))) (J1 _ _) (fun _ _ => rfl) (fun _ h => absurd h0 h) (fun h => absurd h2 h)
    · by_cases h1 : (rd_T32 ss (rd_T32 ss (n : Int)).f0).f2 = 1
      · exact fin _ true (close_yes hcn h2 (.inr ⟨by omega, by omega, h1⟩)) (J1 _ _) (fun _ h => absurd h h0) (fun _ _ => by simp [h1]) (fun h => absurd h2 h)
      · exact fin _ false (close_no hcn (.inr ⟨by omega, by omega, h1⟩)) (J0 _ _ _) (fun _ h => absurd h h0) (fun _ _ => by simp [h1]) (fun h => absurd h2 h)
  · exact fin _ false (close_no hcn (.inl h2)) (J0 _ _ _) (fun h => absurd h h2) (fun h => absurd h h2) (fun _ => rfl)

end Go.Proofs.Ytcgeflbifbaecaa.Pure
