/- The statement LevelLonger, over numbers and lists: over any story that is drawn, with a longer Delay, a lesser Clear or a lesser Cut a threshold that counts as exceeded still does. -/
import Derived.Test.YthdeooggfdfoiaaComC
import Derived.Test.YthdeooggfdfoiaaComE
import Derived.Test.YthdeooggfdfoiaaPLevx12
namespace Go.Proofs.Ythdeooggfdfoiaa.Pure
open Go.RowKit Go.Proofs.Ythdeooggfdfoiaa.PLev Go.Proofs.Ythdeooggfdfoiaa.Com Go.Proofs.YthdeooggfdfoiaaW.PrintWords Go.Proofs.YthdeooggfdfoiaaW.PrintLast Go.Proofs.YthdeooggfdfoiaaW.PrintMore

theorem low_lesser {lo hi cut cut' : Int} (hc : cut' ≤ cut) (h : low lo hi cut' = true) : low lo hi cut = true := by
  unfold low at *
  simp only [Bool.and_eq_true, decide_eq_true_eq] at *
  omega

theorem longer_l0 {cut clear delay cut' clear' delay' : Int} (hL : Lv cut clear delay) (hL' : Lv cut' clear' delay') (hc : cut' ≤ cut) (hcl : clear' ≤ clear) (hdl : delay ≤ delay') (out : List S48) (hg : ∀ s ∈ out, G s) (hlen : out.length ≤ 13) :
    ∀ (d : Nat) (i t sa la sb lb : Int) (oa ob : Bool),
    0 ≤ i → i + d = out.length → Wt oa sa la → Wt ob sb lb → la ≤ t → lb ≤ t → Stricter oa sa ob sb → 0 ≤ t → t ≤ 5 * i →
    Ev (fun k => minecontrollaw17_LevelLonger.l0 k t out (out.length : Int) i cut clear delay cut' clear' delay' oa sa la ob sb lb) true
  | 0, i, t, sa, la, sb, lb, oa, ob, h0, hd, ha, hb, hla, hlb, hS, ht0, ht => by
    refine Ev.step (fun k => by rw [minecontrollaw17_LevelLonger.l0]) ?_
    simp only [if_neg (show ¬ i < (out.length : Int) by omega)]
    refine Ev.bind awake_ev ?_
    exact Ev.now _
  | d + 1, i, t, sa, la, sb, lb, oa, ob, h0, hd, ha, hb, hla, hlb, hS, ht0, ht => by
    have hlt : i < (out.length : Int) := by omega
    have hG := rd_G hg h0 hlt
    have hw0 := hG.w0; have hw1 := hG.w1; have hlh := hG.lh; have hlo := hG.lo; have hhi := hG.hi
    refine Ev.step (fun k => by rw [minecontrollaw17_LevelLonger.l0]) ?_
    simp only [if_pos hlt, if_pos h0]
    rw [w64 (n := t + (rd_T48 out i).f0) (by omega) (by omega), w64 (n := i + 1) (by omega) (by omega)]
    generalize (rd_T48 out i).f0 = w at *
    generalize (rd_T48 out i).f1 = lo at *
    generalize (rd_T48 out i).f2 = hi at *
    have ea := step_ev (lo := lo) (hi := hi) (t := t + w) hL ha (by omega) (by omega) (by omega)
    have eb := step_ev (lo := lo) (hi := hi) (t := t + w) hL' hb (by omega) (by omega) (by omega)
    obtain ⟨wa, ta, za⟩ := stp_wt (cut := cut) (clear := clear) (delay := delay) (lo := lo) (hi := hi) (t := t + w) ha (by omega) (by omega)
    obtain ⟨wb, tb, zb⟩ := stp_wt (cut := cut') (clear := clear') (delay := delay') (lo := lo) (hi := hi) (t := t + w) hb (by omega) (by omega)
    have hS' := stp_mono (cut := cut) (clear := clear) (delay := delay) (lo := lo) (hi := hi) (cut' := cut') (clear' := clear') (delay' := delay') (lo' := lo) (hi' := hi) (t := t + w)
      (low_lesser hc) (fun _ h => by omega) hdl hL.d0 ha hb (by omega) hS
    generalize stp cut clear delay oa sa lo hi (t + w) = ra at *
    generalize stp cut' clear' delay' ob sb lo hi (t + w) = rb at *
    obtain ⟨oa', sa', la', za'⟩ := ra
    obtain ⟨ob', sb', lb', zb'⟩ := rb
    dsimp only at *
    subst za zb ta tb
    refine Ev.bind ea ?_
    dsimp only
    refine Ev.bind eb ?_
    simp only [if_true]
    have hn := longer_l0 hL hL' hc hcl hdl out hg hlen d (i + 1) _ sa' _ sb' _ oa' ob' (by omega) (by omega) wa wb (Int.le_refl _) (Int.le_refl _) hS' (by omega) (by omega)
    cases oa' with
    | false => simpa using hn
    | true =>
      have : ob' = true := hS'.o rfl
      subst this
      simpa using hn

theorem longer_j0 {l : List Int} {a cut clear delay cut' clear' delay' : Int} (hC : C l a) (hL : Lv cut clear delay) (h120 : cut ≤ 120) (hL' : Lv cut' clear' delay') (hc : cut' ≤ cut) (hcl : clear' ≤ clear) (hdl : delay ≤ delay') :
    Ev (fun k => minecontrollaw17_LevelLonger.j0 k l a cut clear delay cut' clear' delay') true := by
  have := hL.c1
  obtain ⟨out, a2, e2, hlen, hg⟩ := story_ev (clear := clear) (cut := cut) (delay := delay) hC hL.c0 (by omega)
  refine Ev.step (fun k => by rw [minecontrollaw17_LevelLonger.j0]) ?_
  unfold level_Begin.f
  simp only [Option.bind_some]
  refine Ev.bind e2 ?_
  dsimp only
  have hW : Wt true (-1) 0 := ⟨by omega, by omega, by omega, .inl rfl⟩
  exact longer_l0 hL hL' hc hcl hdl out hg hlen out.length 0 0 (-1) 0 (-1) 0 true true (by omega) (by omega) hW hW (by omega) (by omega) ⟨fun _ => rfl, fun _ h => absurd rfl h⟩ (by omega) (by omega)

theorem LevelLonger : minecontrollaw17_LevelLonger.Pure := by
  intro l a1 a2 _ _ hb hw1 hw2
  refine Ev.rounds ?_
  have b1 := wf_u8 hw1; have b2 := wf_u8 hw2
  obtain ⟨l', e0, c0⟩ := new_ev hb
  obtain ⟨cut, clear, delay, a3, e1, c1, h1, h2, h3, h4, h5, h6⟩ := level_ev c0
  have hL : Lv cut clear delay := ⟨h3, h4, by omega, h5, by omega⟩
  unfold minecontrollaw17_LevelLonger.f
  rw [e0]; simp only [Option.bind_some]
  refine Ev.bind e1 ?_
  dsimp only
  have m1 : 0 ≤ Int.tmod a1 9 ∧ Int.tmod a1 9 < 9 := ⟨Int.tmod_nonneg _ (by omega), Int.tmod_lt_of_pos _ (by omega)⟩
  have m2 : 0 ≤ Int.tmod a2 20 ∧ Int.tmod a2 20 < 20 := ⟨Int.tmod_nonneg _ (by omega), Int.tmod_lt_of_pos _ (by omega)⟩
  rw [w64 (n := a1) (by omega) (by omega), w64 (n := a2) (by omega) (by omega), w64 (n := clear - Int.tmod a2 20) (by omega) (by omega), w64 (n := delay + Int.tmod a1 9) (by omega) (by omega)]
  have hx : 0 ≤ mx 0 (clear - Int.tmod a2 20) ∧ mx 0 (clear - Int.tmod a2 20) ≤ clear := by unfold mx; split <;> omega
  generalize mx 0 (clear - Int.tmod a2 20) = cl at *
  rw [w64 (n := cl + 1) (by omega) (by omega)]
  by_cases h : a2 > 128
  · simp only [if_pos h]
    exact longer_j0 c1 hL h2 ⟨hx.1, by omega, by omega, by omega, by omega⟩ (by omega) hx.2 (by omega)
  · simp only [if_neg h]
    exact longer_j0 c1 hL h2 ⟨hx.1, by omega, by omega, by omega, by omega⟩ (by omega) hx.2 (by omega)

end Go.Proofs.Ythdeooggfdfoiaa.Pure
