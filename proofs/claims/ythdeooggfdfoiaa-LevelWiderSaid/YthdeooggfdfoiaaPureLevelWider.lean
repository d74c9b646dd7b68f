/- The statement LevelWider, over numbers and lists: over any story that is drawn, with wider spans a threshold that counts as exceeded still does. -/
import Derived.Test.YthdeooggfdfoiaaComC
import Derived.Test.YthdeooggfdfoiaaComE
import Derived.Test.YthdeooggfdfoiaaPLevx11
namespace Go.Proofs.Ythdeooggfdfoiaa.Pure
open Go.RowKit Go.Proofs.Ythdeooggfdfoiaa.PLev Go.Proofs.Ythdeooggfdfoiaa.Com Go.Proofs.YthdeooggfdfoiaaW.PrintWords Go.Proofs.YthdeooggfdfoiaaW.PrintLast Go.Proofs.YthdeooggfdfoiaaW.PrintMore

theorem low_wider {lo hi cut m : Int} (hm : 0 ≤ m) (hlh : lo ≤ hi) (h : low (lo - m) (hi + m) cut = true) : low lo hi cut = true := by
  unfold low at *
  simp only [Bool.and_eq_true, decide_eq_true_eq] at *
  omega

theorem wider_l0 {cut clear delay : Int} (hL : Lv cut clear delay) (by_ : List Int) (hby : ∀ x ∈ by_, 0 ≤ x ∧ x ≤ 255) (out : List S48) (hg : ∀ s ∈ out, G s) (hlen : out.length ≤ 13) : ∀ (d : Nat) (i t sa la sb lb : Int) (oa ob : Bool),
    0 ≤ i → i + d = out.length → Wt oa sa la → Wt ob sb lb → la ≤ t → lb ≤ t → Stricter oa sa ob sb → 0 ≤ t → t ≤ 5 * i →
    Ev (fun k => minecontrollaw17_LevelWider.l0 k by_ t out (out.length : Int) i cut clear delay oa sa la ob sb lb) true
  | 0, i, t, sa, la, sb, lb, oa, ob, h0, hd, ha, hb, hla, hlb, hS, ht0, ht => by
    refine Ev.step (fun k => by rw [minecontrollaw17_LevelWider.l0]) ?_
    simp only [if_neg (show ¬ i < (out.length : Int) by omega)]
    refine Ev.bind awake_ev ?_
    exact Ev.now _
  | d + 1, i, t, sa, la, sb, lb, oa, ob, h0, hd, ha, hb, hla, hlb, hS, ht0, ht => by
    have hlt : i < (out.length : Int) := by omega
    have hG := rd_G hg h0 hlt
    have hw0 := hG.w0; have hw1 := hG.w1; have hlh := hG.lh; have hlo := hG.lo; have hhi := hG.hi
    refine Ev.step (fun k => by rw [minecontrollaw17_LevelWider.l0]) ?_
    simp only [if_pos hlt, if_pos h0]
    rw [w64 (n := t + (rd_T48 out i).f0) (by omega) (by omega)]
    generalize (rd_T48 out i).f0 = w at *
    generalize (rd_T48 out i).f1 = lo at *
    generalize (rd_T48 out i).f2 = hi at *
    have key : ∀ m : Int, 0 ≤ m → m ≤ 255 → Ev (fun k => minecontrollaw17_LevelWider.j1 k by_ (t + w) m out (out.length : Int) i cut clear delay oa sa la ob sb lb w lo hi) true := by
      intro m hm0 hm1
      refine Ev.step (fun k => by rw [minecontrollaw17_LevelWider.j1]) ?_
      rw [w64 (n := lo - m) (by omega) (by omega), w64 (n := hi + m) (by omega) (by omega), w64 (n := i + 1) (by omega) (by omega)]
      have ea := step_ev (lo := lo) (hi := hi) (t := t + w) hL ha (by omega) (by omega) (by omega)
      have eb := step_ev (lo := lo - m) (hi := hi + m) (t := t + w) hL hb (by omega) (by omega) (by omega)
      obtain ⟨wa, ta, za⟩ := stp_wt (cut := cut) (clear := clear) (delay := delay) (lo := lo) (hi := hi) (t := t + w) ha (by omega) (by omega)
      obtain ⟨wb, tb, zb⟩ := stp_wt (cut := cut) (clear := clear) (delay := delay) (lo := lo - m) (hi := hi + m) (t := t + w) hb (by omega) (by omega)
      have hS' := stp_mono (cut := cut) (clear := clear) (delay := delay) (lo := lo) (hi := hi) (cut' := cut) (clear' := clear) (delay' := delay) (lo' := lo - m) (hi' := hi + m) (t := t + w)
        (low_wider hm0 hlh) (fun _ h => by omega) (by omega) hL.d0 ha hb (by omega) hS
      generalize stp cut clear delay oa sa lo hi (t + w) = ra at *
      generalize stp cut clear delay ob sb (lo - m) (hi + m) (t + w) = rb at *
      obtain ⟨oa', sa', la', za'⟩ := ra
      obtain ⟨ob', sb', lb', zb'⟩ := rb
      dsimp only at *
      subst za zb ta tb
      refine Ev.bind ea ?_
      dsimp only
      refine Ev.bind eb ?_
      simp only [if_true]
      have hn := wider_l0 hL by_ hby out hg hlen d (i + 1) _ sa' _ sb' _ oa' ob' (by omega) (by omega) wa wb (Int.le_refl _) (Int.le_refl _) hS' (by omega) (by omega)
      cases oa' with
      | false => simpa using hn
      | true =>
        have : ob' = true := hS'.o rfl
        subst this
        simpa using hn
    by_cases hi2 : i < (by_.length : Int)
    · simp only [if_pos hi2]
      have hm := hby _ (rd_mem h0 hi2)
      rw [w64 (n := rd by_ i) (by omega) (by omega)]
      exact key _ hm.1 hm.2
    · simp only [if_neg hi2]
      exact key 0 (by omega) (by omega)

theorem LevelWider : minecontrollaw17_LevelWider.Pure := by
  intro l by_ _ _ hb _ _ hb2
  refine Ev.rounds ?_
  obtain ⟨l', e0, c0⟩ := new_ev hb
  obtain ⟨cut, clear, delay, a1, e1, c1, h1, h2, h3, h4, h5, h6⟩ := level_ev c0
  obtain ⟨out, a2, e2, hlen, hg⟩ := story_ev (clear := clear) (cut := cut) (delay := delay) c1 h3 (by omega)
  have hL : Lv cut clear delay := ⟨h3, h4, by omega, h5, by omega⟩
  unfold minecontrollaw17_LevelWider.f
  rw [e0]; simp only [Option.bind_some]
  refine Ev.bind e1 ?_
  dsimp only
  unfold level_Begin.f
  simp only [Option.bind_some]
  refine Ev.bind e2 ?_
  dsimp only
  have hW : Wt true (-1) 0 := ⟨by omega, by omega, by omega, .inl rfl⟩
  exact wider_l0 hL by_ (fun x hx => wf_u8 (hb2 x hx)) out hg hlen out.length 0 0 (-1) 0 (-1) 0 true true (by omega) (by omega) hW hW (by omega) (by omega) ⟨fun _ => rfl, fun _ h => absurd rfl h⟩ (by omega) (by omega)

end Go.Proofs.Ythdeooggfdfoiaa.Pure
