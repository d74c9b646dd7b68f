/- The statement LevelSafe, over numbers and lists: over any story that is drawn, a threshold does not count as exceeded just where the value was known to be at most Clear for a time of Delay, and less than Cut since. -/
import Derived.Test.YthdeooggfdfoiaaComC
import Derived.Test.YthdeooggfdfoiaaComD
import Derived.Test.YthdeooggfdfoiaaPLevx10
namespace Go.Proofs.Ythdeooggfdfoiaa.Pure
open Go.RowKit Go.Proofs.Ythdeooggfdfoiaa.PLev Go.Proofs.Ythdeooggfdfoiaa.Com Go.Proofs.YthdeooggfdfoiaaW.PrintWords Go.Proofs.YthdeooggfdfoiaaW.PrintLast Go.Proofs.YthdeooggfdfoiaaW.PrintMore

/-- What the law's own account and the watch have in common. -/
structure Acc (t begin_ : Int) (cleared over : Bool) (since last : Int) : Prop where
  wt : Wt over since last
  lt : last ≤ t
  b0 : -1 ≤ begin_
  b1 : begin_ ≤ t
  ov : over = !cleared
  sb : cleared = false → since = begin_

theorem low_of {lo hi cut : Int} (h : lo ≤ hi) : low lo hi cut = decide (hi < cut) := by
  unfold low
  by_cases h2 : hi < cut
  · simp [h, h2]; omega
  · simp [h2]

theorem safe_l0 {cut clear delay : Int} (hL : Lv cut clear delay) (out : List S48) (hg : ∀ s ∈ out, G s) (hlen : out.length ≤ 13) : ∀ (d : Nat) (i t b since last : Int) (cl over : Bool),
    0 ≤ i → i + d = out.length → Acc t b cl over since last → 0 ≤ t → t ≤ 5 * i →
    Ev (fun k => minecontrollaw17_LevelSafe.l0 k t b cl out (out.length : Int) i cut clear delay over since last) true
  | 0, i, t, b, since, last, cl, over, h0, hd, hA, ht0, ht => by
    refine Ev.step (fun k => by rw [minecontrollaw17_LevelSafe.l0]) ?_
    simp only [if_neg (show ¬ i < (out.length : Int) by omega)]
    refine Ev.bind awake_ev ?_
    exact Ev.now _
  | d + 1, i, t, b, since, last, cl, over, h0, hd, hA, ht0, ht => by
    have hlt : i < (out.length : Int) := by omega
    have hG := rd_G hg h0 hlt
    have hw0 := hG.w0; have hw1 := hG.w1; have hlh := hG.lh
    have hw := hA.wt; have hlast := hA.lt; have hb0 := hA.b0; have hb1 := hA.b1; have hov := hA.ov; have hsb := hA.sb
    have hl0 := hw.l0; have hs0 := hw.s0; have hs1 := hw.s1
    refine Ev.step (fun k => by rw [minecontrollaw17_LevelSafe.l0]) ?_
    simp only [if_pos hlt, if_pos h0]
    rw [w64 (n := t + (rd_T48 out i).f0) (by omega) (by omega), w64 (n := i + 1) (by omega) (by omega)]
    generalize (rd_T48 out i).f0 = w at *
    generalize (rd_T48 out i).f1 = lo at *
    generalize (rd_T48 out i).f2 = hi at *
    have hst := step_ev (lo := lo) (hi := hi) (t := t + w) hL hw (by omega) (by omega) (by omega)
    have next : ∀ (b' since' : Int) (cl' over' : Bool), Acc (t + w) b' cl' over' since' (t + w) → Ev (fun k => minecontrollaw17_LevelSafe.l0 k (t + w) b' cl' out (out.length : Int) (i + 1) cut clear delay over' since' (t + w)) true :=
      fun b' since' cl' over' hA' => safe_l0 hL out hg hlen d (i + 1) (t + w) b' since' (t + w) cl' over' (by omega) (by omega) hA' (by omega) (by omega)
    have hlow := low_of (cut := cut) hlh
    have hsp : ∀ r, stp cut clear delay over since lo hi (t + w) = r → Ev (fun k => level_Step.f k cut clear delay over since last lo hi (t + w)) r := fun r h => h ▸ hst
    by_cases h1 : hi ≥ cut
    · have e : stp cut clear delay over since lo hi (t + w) = (true, -1, t + w, 0) := by
        unfold stp; rw [if_pos (by rw [hlow]; simp; omega)]
      refine Ev.bind (hsp _ e) ?_
      simp only [if_true, if_pos h1]
      (try simp only [Bool.false_eq_true, if_false])
      exact next _ _ _ _ ⟨⟨by omega, by omega, by omega, .inl rfl⟩, by omega, by omega, by omega, rfl, fun _ => rfl⟩
    · have hz : ¬ (low lo hi cut = false) := by rw [hlow]; simp; omega
      by_cases h2 : hi ≤ clear
      · cases cl with
        | true =>
          simp only [Bool.not_true] at hov
          subst hov
          have e : stp cut clear delay false since lo hi (t + w) = (false, since, t + w, 0) := by
            unfold stp; rw [if_neg hz, if_pos rfl]
          refine Ev.bind (hsp _ e) ?_
          simp only [if_true, if_neg h1, if_pos h2]
          (try simp only [Bool.false_eq_true, if_false])
          have hss : since = -1 := by rcases hw.so with h | h; · exact h
                                      · cases h
          by_cases h3 : b = -1
          · simp only [if_pos h3]
            exact next _ _ _ _ ⟨⟨by omega, by omega, by omega, .inl hss⟩, by omega, by omega, by omega, rfl, fun h => by cases h⟩
          · simp only [if_neg h3]
            exact next _ _ _ _ ⟨⟨by omega, by omega, by omega, .inl hss⟩, by omega, by omega, by omega, rfl, fun h => by cases h⟩
        | false =>
          simp only [Bool.not_false] at hov
          subst hov
          obtain rfl := hsb rfl
          have e : stp cut clear delay true since lo hi (t + w) = (if since = -1 then (if 0 ≥ delay then (false, -1, t + w, 0) else (true, t + w, t + w, 0)) else if t + w - since ≥ delay then (false, -1, t + w, 0) else (true, since, t + w, 0)) := by
            unfold stp; rw [if_neg hz, if_neg (by decide), if_neg (by omega)]
          by_cases h3 : since = -1
          · rw [if_pos h3] at e
            by_cases h4 : 0 ≥ delay
            · rw [if_pos h4] at e
              refine Ev.bind (hsp _ e) ?_
              simp only [if_true, if_neg h1, if_pos h2, if_pos h3, decide_eq_true h4]
              (try simp only [Bool.false_eq_true, if_false])
              exact next _ _ _ _ ⟨⟨by omega, by omega, by omega, .inl rfl⟩, by omega, by omega, by omega, rfl, fun h => by cases h⟩
            · rw [if_neg h4] at e
              refine Ev.bind (hsp _ e) ?_
              simp only [if_true, if_neg h1, if_pos h2, if_pos h3, decide_eq_false h4]
              (try simp only [Bool.false_eq_true, if_false])
              exact next _ _ _ _ ⟨⟨by omega, by omega, by omega, .inr rfl⟩, by omega, by omega, by omega, rfl, fun _ => rfl⟩
          · rw [if_neg h3] at e
            by_cases h4 : t + w - since ≥ delay
            · rw [if_pos h4] at e
              refine Ev.bind (hsp _ e) ?_
              simp only [if_true, if_neg h1, if_pos h2, if_neg h3, w64 (n := t + w - since) (by omega) (by omega), decide_eq_true h4]
              (try simp only [Bool.false_eq_true, if_false])
              exact next _ _ _ _ ⟨⟨by omega, by omega, by omega, .inl rfl⟩, by omega, by omega, by omega, rfl, fun h => by cases h⟩
            · rw [if_neg h4] at e
              refine Ev.bind (hsp _ e) ?_
              simp only [if_true, if_neg h1, if_pos h2, if_neg h3, w64 (n := t + w - since) (by omega) (by omega), decide_eq_false h4]
              (try simp only [Bool.false_eq_true, if_false])
              exact next _ _ _ _ ⟨⟨by omega, by omega, by omega, .inr rfl⟩, by omega, by omega, by omega, rfl, fun _ => rfl⟩
      · cases cl with
        | true =>
          simp only [Bool.not_true] at hov
          subst hov
          have hss : since = -1 := by rcases hw.so with h | h; · exact h
                                      · cases h
          have e : stp cut clear delay false since lo hi (t + w) = (false, since, t + w, 0) := by
            unfold stp; rw [if_neg hz, if_pos rfl]
          refine Ev.bind (hsp _ e) ?_
          simp only [if_true, if_neg h1, if_neg h2]
          (try simp only [Bool.false_eq_true, if_false])
          exact next _ _ _ _ ⟨⟨by omega, by omega, by omega, .inl hss⟩, by omega, by omega, by omega, rfl, fun h => by cases h⟩
        | false =>
          simp only [Bool.not_false] at hov
          subst hov
          have e : stp cut clear delay true since lo hi (t + w) = (true, -1, t + w, 0) := by
            unfold stp; rw [if_neg hz, if_neg (by decide), if_pos (by omega)]
          refine Ev.bind (hsp _ e) ?_
          simp only [if_true, if_neg h1, if_neg h2, Bool.false_eq_true, if_false]
          (try simp only [Bool.false_eq_true, if_false])
          exact next _ _ _ _ ⟨⟨by omega, by omega, by omega, .inl rfl⟩, by omega, by omega, by omega, rfl, fun _ => rfl⟩

theorem LevelSafe : minecontrollaw17_LevelSafe.Pure := by
  intro l _ _ hb
  refine Ev.rounds ?_
  obtain ⟨l', e0, c0⟩ := new_ev hb
  obtain ⟨cut, clear, delay, a1, e1, c1, h1, h2, h3, h4, h5, h6⟩ := level_ev c0
  obtain ⟨out, a2, e2, hlen, hg⟩ := story_ev (clear := clear) (cut := cut) (delay := delay) c1 h3 (by omega)
  have hL : Lv cut clear delay := ⟨h3, h4, by omega, h5, by omega⟩
  unfold minecontrollaw17_LevelSafe.f
  rw [e0]; simp only [Option.bind_some]
  refine Ev.bind e1 ?_
  dsimp only
  unfold level_Begin.f
  simp only [Option.bind_some]
  refine Ev.bind e2 ?_
  dsimp only
  exact safe_l0 hL out hg hlen out.length 0 0 (-1) (-1) 0 false true (by omega) (by omega) ⟨⟨by omega, by omega, by omega, .inl rfl⟩, by omega, by omega, by omega, rfl, fun _ => rfl⟩ (by omega) (by omega)

end Go.Proofs.Ythdeooggfdfoiaa.Pure
