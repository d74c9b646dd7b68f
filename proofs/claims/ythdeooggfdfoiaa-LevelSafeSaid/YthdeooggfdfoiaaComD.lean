/- The reference's step comes to the same plain answer as the program's, and the sanity check to true. -/
import Derived.Test.YthdeooggfdfoiaaComB
import Derived.Test.YthdeooggfdfoiaaPLevx5
namespace Go.Proofs.Ythdeooggfdfoiaa.Com
open Go.RowKit Go.Proofs.Ythdeooggfdfoiaa.PLev Go.Proofs.YthdeooggfdfoiaaW.PrintWords Go.Proofs.YthdeooggfdfoiaaW.PrintLast Go.Proofs.YthdeooggfdfoiaaW.PrintMore

set_option maxRecDepth 100000 in
theorem awake_ev : Ev (fun k => minecontrollaw17_awake.f k) true := Ev.of minecontrollaw17_awake.mono (k := 60) (by decide +kernel)

theorem rcheck_ok {cut clear delay : Int} (h : Lv cut clear delay) : minecontrolref17_Check.f cut clear delay = some 0 := by
  have := h.c0; have := h.c1; have := h.c2; have := h.d0; have := h.d1
  unfold minecontrolref17_Check.f
  rw [if_neg (by omega), if_neg (by omega), if_neg (by omega), if_neg (by omega), if_neg (by omega)]

theorem rabove (lo hi cut : Int) : minecontrolref06_Above.f lo hi cut = window_Above.f lo hi cut := rfl

theorem rstep_j1 {cut clear delay lo hi t since last : Int} {over : Bool} (hw : Wt over since last) (hl : last ≤ t) (h0 : 0 ≤ t) (h1 : t ≤ 2147483648) (k : Nat) :
    minecontrolref17_Step.j1 (k + 1) t false cut clear delay over since last lo hi = some (stp cut clear delay over since lo hi t) := by
  have := hw.l0; have := hw.s0; have := hw.s1; have hso := hw.so
  obtain ⟨v, hv, hlow⟩ := above_low lo hi cut
  simp only [minecontrolref17_Step.j1, Bool.false_eq_true, if_false]
  rw [rabove, hv]; simp only [Option.bind_some]
  unfold stp
  by_cases hz : low lo hi cut = true
  · rw [if_pos (hlow.2 hz), hz]
    simp only [Bool.true_eq_false, if_false]
    cases over with
    | false =>
      simp only [Bool.false_eq_true, if_true, if_false]
    | true =>
      simp only [Bool.true_eq_false, if_true, if_false]
      by_cases hc : hi > clear
      · rw [if_pos hc, if_pos hc]
      · rw [if_neg hc, if_neg hc]
        by_cases hs : since = -1
        · rw [if_pos hs, if_pos hs]
          split <;> rfl
        · rw [if_neg hs, if_neg hs, w64 (by omega) (by omega)]
          split <;> rfl
  · have hz' : low lo hi cut = false := by simpa using hz
    rw [if_neg (fun h => hz (hlow.1 h)), if_pos hz']

theorem rstep_ev {cut clear delay lo hi t since last : Int} {over : Bool} (hL : Lv cut clear delay) (hw : Wt over since last) (hl : last ≤ t) (h0 : 0 ≤ t) (h1 : t ≤ 2147483648) :
    Ev (fun k => minecontrolref17_Step.f k cut clear delay over since last lo hi t) (stp cut clear delay over since lo hi t) := by
  refine ⟨2, fun k hk => ?_⟩
  obtain ⟨k, rfl⟩ : ∃ m, k = m + 2 := ⟨k - 2, by omega⟩
  have := hw.l0; have := hw.s0; have := hw.s1; have hso := hw.so
  show minecontrolref17_Step.f (k + 2) cut clear delay over since last lo hi t = _
  unfold minecontrolref17_Step.f
  rw [rcheck_ok hL]; simp only [Option.bind_some, if_true]
  rw [if_neg (by omega), if_neg (by omega), decide_eq_false (show ¬ t < last by omega)]
  simp only [minecontrolref17_Step.j0, Bool.false_eq_true, if_false]
  rw [if_neg (by omega), if_neg (by omega), if_neg (by omega)]
  by_cases hs : since = -1
  · rw [if_pos hs]; exact rstep_j1 hw hl h0 h1 k
  · rw [if_neg hs]
    obtain rfl : over = true := by rcases hso with h | h; · exact absurd h hs
                                   · exact h
    exact rstep_j1 hw hl h0 h1 k

end Go.Proofs.Ythdeooggfdfoiaa.Com
