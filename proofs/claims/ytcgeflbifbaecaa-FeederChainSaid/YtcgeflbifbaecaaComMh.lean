/- A remainder comes to its answer, within its bounds. -/
import Derived.Test.YtcgeflbifbaecaaComAh
import Derived.Test.YtcgeflbifbaecaaPFehx2
namespace Go.Proofs.Ytcgeflbifbaecaa.Com
open Go.RowKit Go.Proofs.Ytcgeflbifbaecaa.PFeh Go.Proofs.YtcgeflbifbaecaaW.PrintWords Go.Proofs.YtcgeflbifbaecaaW.PrintLast Go.Proofs.YtcgeflbifbaecaaW.PrintMore

theorem mod_in (k n : Int) (h : 1 ≤ n) (hn : n ≤ 1000000) : ∃ r, minecontroldraw_Mod.f k n = some r ∧ 0 ≤ r ∧ r < n := by
  have h1 := Int.tmod_lt_of_pos k (show 0 < n by omega)
  have h2 : -n < Int.tmod k n := by
    rcases Int.le_total 0 k with hk | hk
    · have := Int.tmod_nonneg n hk; omega
    · have := Int.tmod_lt_of_pos (-k) (show 0 < n by omega)
      rw [Int.neg_tmod] at this; omega
  unfold minecontroldraw_Mod.f
  rw [if_neg (by omega), if_neg (by omega)]
  by_cases hr : Int.tmod k n < 0
  · rw [if_pos hr, w64 (by omega) (by omega)]
    exact ⟨_, rfl, by omega, by omega⟩
  · rw [if_neg hr]
    exact ⟨_, rfl, by omega, by omega⟩

end Go.Proofs.Ytcgeflbifbaecaa.Com
