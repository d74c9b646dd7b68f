/- One step of a threshold, by the program and by the reference, comes to one and the same plain answer: at right thresholds, watches and times. -/
import Derived.Test.YthdeooggfdfoiaaComA
import Derived.Test.YthdeooggfdfoiaaPLevx3
namespace Go.Proofs.Ythdeooggfdfoiaa.Com
open Go.RowKit Go.Proofs.Ythdeooggfdfoiaa.PLev Go.Proofs.YthdeooggfdfoiaaW.PrintWords Go.Proofs.YthdeooggfdfoiaaW.PrintLast Go.Proofs.YthdeooggfdfoiaaW.PrintMore

/-- Right thresholds. -/
structure Lv (cut clear delay : Int) : Prop where
  c0 : 0 ≤ clear
  c1 : clear < cut
  c2 : cut ≤ 1000000
  d0 : 0 ≤ delay
  d1 : delay ≤ 100000

/-- Right watches. -/
structure Wt (over : Bool) (since last : Int) : Prop where
  l0 : 0 ≤ last
  s0 : -1 ≤ since
  s1 : since ≤ last
  so : since = -1 ∨ over = true

def low (lo hi cut : Int) : Bool := decide (lo ≤ hi) && (decide (lo < cut) && decide (hi < cut))

def stp (cut clear delay : Int) (over : Bool) (since lo hi t : Int) : Bool × Int × Int × Int :=
  if low lo hi cut = false then (true, -1, t, 0)
  else if over = false then (false, since, t, 0)
  else if hi > clear then (true, -1, t, 0)
  else if since = -1 then (if 0 ≥ delay then (false, -1, t, 0) else (true, t, t, 0))
  else if t - since ≥ delay then (false, -1, t, 0) else (true, since, t, 0)

theorem check_ok {cut clear delay : Int} (h : Lv cut clear delay) : level_Check.f cut clear delay = some 0 := by
  have := h.c0; have := h.c1; have := h.c2; have := h.d0; have := h.d1
  unfold level_Check.f
  rw [if_neg (by omega), if_neg (by omega), if_neg (by omega), if_neg (by omega), if_neg (by omega)]

theorem above_low (lo hi cut : Int) : ∃ v, window_Above.f lo hi cut = some v ∧ (v = -1 ↔ low lo hi cut = true) := by
  unfold window_Above.f low
  by_cases h1 : lo > hi
  · exact ⟨0, by rw [if_pos h1], by simp; omega⟩
  · by_cases h2 : lo ≥ cut
    · exact ⟨1, by rw [if_neg h1, if_pos h2], by simp; omega⟩
    · by_cases h3 : hi < cut
      · exact ⟨-1, by rw [if_neg h1, if_neg h2, if_pos h3], by simp; omega⟩
      · exact ⟨0, by rw [if_neg h1, if_neg h2, if_neg h3], by simp; omega⟩

theorem step_j1 {cut clear delay lo hi t since last : Int} {over : Bool} (hw : Wt over since last) (hl : last ≤ t) (h0 : 0 ≤ t) (h1 : t ≤ 2147483648) (k : Nat) :
    level_Step.j1 (k + 1) t false cut clear delay over since last lo hi = some (stp cut clear delay over since lo hi t) := by
  have := hw.l0; have := hw.s0; have := hw.s1; have hso := hw.so
  obtain ⟨v, hv, hlow⟩ := above_low lo hi cut
  simp only [level_Step.j1, Bool.false_eq_true, if_false]
  rw [hv]; simp only [Option.bind_some]
  unfold stp
  by_cases hz : low lo hi cut = true
  · rw [if_pos (hlow.2 hz), hz]
    simp only [Bool.true_eq_false, if_false]
    cases over with
    | false =>
      simp only [Bool.false_eq_true, if_true, if_false]
    | true =>
      simp only [Bool.true_eq_false, if_true, if_false]
      by_cases hc : hi > clear
      · rw [if_pos hc, if_pos hc]
      · rw [if_neg hc, if_neg hc]
        by_cases hs : since = -1
        · rw [if_pos (by omega), if_pos hs]
          split <;> rfl
        · rw [if_neg (by omega), if_neg hs, w64 (by omega) (by omega)]
          split <;> rfl
  · have hz' : low lo hi cut = false := by simpa using hz
    rw [if_neg (fun h => hz (hlow.1 h)), if_pos hz']

theorem step_ev {cut clear delay lo hi t since last : Int} {over : Bool} (hL : Lv cut clear delay) (hw : Wt over since last) (hl : last ≤ t) (h0 : 0 ≤ t) (h1 : t ≤ 2147483648) :
    Ev (fun k => level_Step.f k cut clear delay over since last lo hi t) (stp cut clear delay over since lo hi t) := by
  refine ⟨2, fun k hk => ?_⟩
  obtain ⟨k, rfl⟩ : ∃ m, k = m + 2 := ⟨k - 2, by omega⟩
  have := hw.l0; have := hw.s0; have := hw.s1; have hso := hw.so
  show level_Step.f (k + 2) cut clear delay over since last lo hi t = _
  unfold level_Step.f
  rw [check_ok hL]; simp only [Option.bind_some, if_true]
  rw [if_neg (by omega), if_neg (by omega), decide_eq_false (show ¬ t < last by omega)]
  simp only [level_Step.j0, Bool.false_eq_true, if_false]
  rw [if_neg (by omega), if_neg (by omega), if_neg (by omega), if_neg (by omega)]
  by_cases hs : since = -1
  · rw [if_pos hs]; exact step_j1 hw hl h0 h1 k
  · rw [if_neg hs]
    obtain rfl : over = true := by rcases hso with h | h; · exact absurd h hs
                                   · exact h
    exact step_j1 hw hl h0 h1 k

theorem stp_wt {cut clear delay lo hi t since last : Int} {over : Bool} (hw : Wt over since last) (hl : last ≤ t) (h0 : 0 ≤ t) :
    Wt (stp cut clear delay over since lo hi t).1 (stp cut clear delay over since lo hi t).2.1 (stp cut clear delay over since lo hi t).2.2.1 ∧ (stp cut clear delay over since lo hi t).2.2.1 = t ∧ (stp cut clear delay over since lo hi t).2.2.2 = 0 := by
  have := hw.l0; have := hw.s0; have := hw.s1; have hso := hw.so
  unfold stp
  split
  · exact ⟨⟨h0, by simp, by simp; omega, .inl rfl⟩, rfl, rfl⟩
  · split
    · rename_i h _; exact ⟨⟨h0, by simp; omega, by simp; omega, by rcases hso with h | h <;> simp_all⟩, rfl, rfl⟩
    · split
      · exact ⟨⟨h0, by simp, by simp; omega, .inl rfl⟩, rfl, rfl⟩
      · split
        · split
          · exact ⟨⟨h0, by simp, by simp; omega, .inl rfl⟩, rfl, rfl⟩
          · exact ⟨⟨h0, by simp; omega, by simp, .inr rfl⟩, rfl, rfl⟩
        · split
          · exact ⟨⟨h0, by simp, by simp; omega, .inl rfl⟩, rfl, rfl⟩
          · exact ⟨⟨h0, by simp; omega, by simp; omega, .inr rfl⟩, rfl, rfl⟩

end Go.Proofs.Ythdeooggfdfoiaa.Com
