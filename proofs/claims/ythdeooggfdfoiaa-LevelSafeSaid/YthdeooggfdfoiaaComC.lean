/- A story that is drawn comes to its end: at most 13 parts, each with a wait from 0 to 5 and a span that is not empty and not too wide. -/
import Derived.Test.YthdeooggfdfoiaaComA
import Derived.Test.YthdeooggfdfoiaaPLevx8
namespace Go.Proofs.Ythdeooggfdfoiaa.Com
open Go.RowKit Go.Proofs.Ythdeooggfdfoiaa.PLev Go.Proofs.YthdeooggfdfoiaaW.PrintWords Go.Proofs.YthdeooggfdfoiaaW.PrintLast Go.Proofs.YthdeooggfdfoiaaW.PrintMore

/-- A part of a story. -/
structure G (s : S48) : Prop where
  w0 : 0 ≤ s.f0
  w1 : s.f0 ≤ 5
  lh : s.f1 ≤ s.f2
  lo : -1125899906842624 ≤ s.f1
  hi : s.f2 ≤ 1125899906842624

theorem one_bool {l : List Int} {a : Int} (h : C l a) (n : Int) (hn : n ≤ 1000000) : ∃ v a', Ev (fun k => minecontroldraw_Codes_One.f k l a n) (v, a') ∧ C l a' := one_ev h n hn

theorem story_l0 (clear cut delay : Int) (h0 : 0 ≤ clear) (h1 : clear ≤ 120) : ∀ (n : Nat) (out : List S48) (l : List Int) (a : Int), C l a → out.length + n ≤ 100 → (∀ s ∈ out, G s) →
    ∃ out' a', Ev (fun k => minecontrollaw17_story.l0 k out (n : Int) l a cut clear delay) (out', a') ∧ out'.length ≤ out.length + n ∧ ∀ s ∈ out', G s
  | 0, out, l, a, hc, hn, hg => by
    refine ⟨out, a, ⟨1, fun k hk => ?_⟩, by omega, hg⟩
    obtain ⟨k, rfl⟩ : ∃ m, k = m + 1 := ⟨k - 1, by omega⟩
    show minecontrollaw17_story.l0 (k + 1) out 0 l a cut clear delay = _
    simp only [minecontrollaw17_story.l0]
    rw [if_neg (by omega)]
  | n + 1, out, l, a, hc, hn, hg => by
    obtain ⟨w, a1, e1, c1, hw0, hw1, _⟩ := next_ev hc 6 (by omega)
    have hw1 := hw1 (by omega)
    obtain ⟨lw, a2, e2, c2, hl0, hl1⟩ := range_ev c1 (-5) 130 (by omega) (by omega) (by omega)
    obtain ⟨b, a3, e3, c3⟩ := one_ev c2 3 (by omega)
    obtain ⟨d, a4, e4, c4, hd0, hd1, _⟩ := next_ev c3 3 (by omega)
    have hd1 := hd1 (by omega)
    -- behind the low end
    have key : ∀ (a5 : Int) (lw : Int), C l a5 → -5 ≤ lw → lw ≤ 130 → ∃ out' a', Ev (fun k => minecontrollaw17_story.j1 k out ((n + 1 : Nat) : Int) l a5 cut clear delay w lw 0) (out', a') ∧ out'.length ≤ out.length + (n + 1) ∧ ∀ s ∈ out', G s := by
      intro a5 lw c5 hl0 hl1
      obtain ⟨d, a6, e6, c6, hd0, hd1, _⟩ := next_ev c5 5 (by omega)
      have hd1 := hd1 (by omega)
      obtain ⟨b, a7, e7, c7⟩ := one_ev c6 9 (by omega)
      have hlim : out.length < 5864062014805 := by omega
      have hx : wrap64 (((n + 1 : Nat) : Int) - 1) = (n : Int) := by rw [w64 (by omega) (by omega)]; omega
      cases b with
      | true =>
        obtain ⟨out', a', e, hlen, hg'⟩ := story_l0 clear cut delay h0 h1 n (out ++ [⟨w, -1125899906842624, 1125899906842624⟩]) l a7 c7 (by simp; omega)
          (by intro s hs; rw [List.mem_append] at hs; rcases hs with hs | hs
              · exact hg s hs
              · obtain rfl : s = _ := by simpa using hs
                exact ⟨hw0, by simp; omega, by simp, by simp, by simp⟩)
        refine ⟨out', a', ?_, by simp at hlen; omega, hg'⟩
        refine Ev.step (fun k => by rw [minecontrollaw17_story.j1]) ?_
        refine Ev.bind e6 ?_
        dsimp only
        refine Ev.bind e7 ?_
        dsimp only
        simp only [if_true]
        simp only [if_pos hlim, hx]
        exact e
      | false =>
        obtain ⟨out', a', e, hlen, hg'⟩ := story_l0 clear cut delay h0 h1 n (out ++ [⟨w, lw, lw + d⟩]) l a7 c7 (by simp; omega)
          (by intro s hs; rw [List.mem_append] at hs; rcases hs with hs | hs
              · exact hg s hs
              · obtain rfl : s = _ := by simpa using hs
                exact ⟨hw0, by simp; omega, by simp; omega, by simp; omega, by simp; omega⟩)
        refine ⟨out', a', ?_, by simp at hlen; omega, hg'⟩
        refine Ev.step (fun k => by rw [minecontrollaw17_story.j1]) ?_
        refine Ev.bind e6 ?_
        dsimp only
        refine Ev.bind e7 ?_
        dsimp only
        simp only [Bool.false_eq_true, if_false]
        simp only [if_pos hlim, hx, w64 (n := lw + d) (by omega) (by omega)]
        exact e
    have step : ∀ (a5 lw' : Int), (b = true → a5 = a4 ∧ lw' = clear - d) → (b = false → a5 = a3 ∧ lw' = lw) → ∀ r, Ev (fun k => minecontrollaw17_story.j1 k out ((n + 1 : Nat) : Int) l a5 cut clear delay w lw' 0) r →
        Ev (fun k => minecontrollaw17_story.l0 k out ((n + 1 : Nat) : Int) l a cut clear delay) r := by
      intro a5 lw' ht hf r hr
      refine Ev.step (fun k => by rw [minecontrollaw17_story.l0]) ?_
      simp only [if_pos (show ((n + 1 : Nat) : Int) > 0 from by omega)]
      refine Ev.bind e1 ?_
      dsimp only
      refine Ev.bind e2 ?_
      dsimp only
      refine Ev.bind e3 ?_
      dsimp only
      cases b with
      | true =>
        obtain ⟨rfl, rfl⟩ := ht rfl
        simp only [if_true]
        refine Ev.bind e4 ?_
        dsimp only
        simp only [w64 (n := clear - d) (by omega) (by omega)]
        exact hr
      | false =>
        obtain ⟨rfl, rfl⟩ := hf rfl
        simp only [Bool.false_eq_true, if_false]
        exact hr
    cases b with
    | true =>
      obtain ⟨out', a', e, hlen, hg'⟩ := key a4 (clear - d) c4 (by omega) (by omega)
      exact ⟨out', a', step a4 (clear - d) (fun _ => ⟨rfl, rfl⟩) (fun h => by cases h) _ e, hlen, hg'⟩
    | false =>
      obtain ⟨out', a', e, hlen, hg'⟩ := key a3 lw c3 (by omega) (by omega)
      exact ⟨out', a', step a3 lw (fun h => by cases h) (fun _ => ⟨rfl, rfl⟩) _ e, hlen, hg'⟩

theorem story_ev {l : List Int} {a clear cut delay : Int} (hc : C l a) (h0 : 0 ≤ clear) (h1 : clear ≤ 120) :
    ∃ out a', Ev (fun k => minecontrollaw17_story.f k l a cut clear delay) (out, a') ∧ out.length ≤ 13 ∧ ∀ s ∈ out, G s := by
  obtain ⟨n, a1, e1, c1, hn0, hn1, _⟩ := next_ev hc 14 (by omega)
  have hn1 := hn1 (by omega)
  obtain ⟨m, rfl⟩ := Int.eq_ofNat_of_zero_le hn0
  obtain ⟨out, a', e, hlen, hg⟩ := story_l0 clear cut delay h0 h1 m [] l a1 c1 (by simp; omega) (by simp)
  refine ⟨out, a', ?_, by simp at hlen; omega, hg⟩
  unfold minecontrollaw17_story.f
  refine Ev.bind e1 ?_
  dsimp only
  exact e

theorem rd_G {out : List S48} (hg : ∀ s ∈ out, G s) {i : Int} (h0 : 0 ≤ i) (h1 : i < out.length) : G (rd_T48 out i) := by
  unfold rd_T48
  have h : i.toNat < out.length := by omega
  rw [List.getD_eq_getElem?_getD, List.getElem?_eq_getElem h]
  exact hg _ (List.getElem_mem h)

end Go.Proofs.Ythdeooggfdfoiaa.Com
