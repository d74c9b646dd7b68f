/- Opening a switch twice is opening it once, an answer twice is one, and no act but closing makes a zone live that was known to be dead: for any choices and any number. -/
import Derived.Test.YtcgeflbifbaecaaComLt
import Derived.Test.YtcgeflbifbaecaaComKt
import Derived.Test.YtcgeflbifbaecaaComRt
import Derived.Test.YtcgeflbifbaecaaComMt
import Derived.Test.YtcgeflbifbaecaaPFetx11
import Derived.Test.YtcgeflbifbaecaaPFetx7
namespace Go.Proofs.Ytcgeflbifbaecaa.Pure
open Go.RowKit Go.Proofs.Ytcgeflbifbaecaa.PFet Go.Proofs.YtcgeflbifbaecaaW.PrintWords Go.Proofs.YtcgeflbifbaecaaW.PrintLast Go.Proofs.YtcgeflbifbaecaaW.PrintMore Com

theorem l0_ev {ss xs ps qs : List S32} {zs : List Int} {rp : Int} (hs : Ok ss zs rp) (hx : Ok xs zs rp) (hp : Ok ps zs rp) (hq : Ok qs zs rp) (ax : AlikeS ss xs) (aq : AlikeS xs qs) (ap : AlikeS ss ps) :
    ∀ (d i : Nat), i + d = zs.length → Ev (fun k => minecontrollaw18_FeederTwice.l0 k 0 (zs.length : Int) (i : Int) ss zs rp xs zs rp ps zs rp qs zs rp) true := by
  have hz := hs.zfew
  intro d
  induction d with
  | zero =>
    intro i hi
    exact Ev.step (fun k => by simp only [minecontrollaw18_FeederTwice.l0]; rw [if_neg (by omega)]; simp only [if_true]) (Ev.bind awake_ev (Ev.now _))
  | succ d ih =>
    intro i hi
    have w1 : wrap64 ((i : Int) + 1) = ((i + 1 : Nat) : Int) := by rw [w64 (by omega) (by omega)]; rfl
    have H := ih (i + 1) (by omega)
    rw [← w1] at H
    have nx := live_alike (z := (i : Int)) ax hs hx
    have nq := live_alike (z := (i : Int)) aq hx hq
    have np := live_alike (z := (i : Int)) ap hs hp
    have es := p_live ss zs rp (i : Int); have ex := p_live xs zs rp (i : Int); have ep := p_live ps zs rp (i : Int); have eq := p_live qs zs rp (i : Int)
    have last : Ev (fun k => (feeder_Live.f k ps zs rp (i : Int)).bind fun t => (if t = 1 then ((feeder_Live.f k ss zs rp (i : Int)).bind fun u => (if u = (-1) then (some false) else (minecontrollaw18_FeederTwice.l0 k 0 (zs.length : Int) (wrap64 ((i : Int) + 1)) ss zs rp xs zs rp ps zs rp qs zs rp))) else (minecontrollaw18_FeederTwice.l0 k 0 (zs.length : Int) (wrap64 ((i : Int) + 1)) ss zs rp xs zs rp ps zs rp qs zs rp))) true := by
      refine Ev.bind ep ?_
      by_cases h1 : live ps zs rp (i : Int) = 1
      · simp only [if_pos h1]
        refine Ev.bind es ?_
        simp only [if_neg (show ¬ live ss zs rp (i : Int) = -1 from fun h => np h h1)]
        exact H
      · simp only [if_neg h1]; exact H
    have mid : Ev (fun k => (feeder_Live.f k xs zs rp (i : Int)).bind fun t => (if t = (-1) then ((feeder_Live.f k qs zs rp (i : Int)).bind fun u => (if u = 1 then (some false) else ((feeder_Live.f k ps zs rp (i : Int)).bind fun t => (if t = 1 then ((feeder_Live.f k ss zs rp (i : Int)).bind fun u => (if u = (-1) then (some false) else (minecontrollaw18_FeederTwice.l0 k 0 (zs.length : Int) (wrap64 ((i : Int) + 1)) ss zs rp xs zs rp ps zs rp qs zs rp))) else (minecontrollaw18_FeederTwice.l0 k 0 (zs.length : Int) (wrap64 ((i : Int) + 1)) ss zs rp xs zs rp ps zs rp qs zs rp))))) else ((feeder_Live.f k ps zs rp (i : Int)).bind fun t => (if t = 1 then ((feeder_Live.f k ss zs rp (i : Int)).bind fun u => (if u = (-1) then (some false) else (minecontrollaw18_FeederTwice.l0 k 0 (zs.length : Int) (wrap64 ((i : Int) + 1)) ss zs rp xs zs rp ps zs rp qs zs rp))) else (minecontrollaw18_FeederTwice.l0 k 0 (zs.length : Int) (wrap64 ((i : Int) + 1)) ss zs rp xs zs rp ps zs rp qs zs rp))))) true := by
      refine Ev.bind ex ?_
      by_cases h1 : live xs zs rp (i : Int) = -1
      · simp only [if_pos h1]
        refine Ev.bind eq ?_
        simp only [if_neg (nq h1)]
        exact last
      · simp only [if_neg h1]; exact last
    refine Ev.step (fun k => by simp only [minecontrollaw18_FeederTwice.l0]; rw [if_pos (by omega)]) (Ev.bind es ?_)
    by_cases h1 : live ss zs rp (i : Int) = -1
    · simp only [if_pos h1]
      refine Ev.bind ex ?_
      simp only [if_neg (nx h1)]
      exact mid
    · simp only [if_neg h1]; exact mid

theorem FeederTwice : minecontrollaw18_FeederTwice.Pure := by
  intro l0 a1 _ _ hb _
  obtain ⟨l, hn, hc⟩ := new_ev hb
  obtain ⟨v, b1, e1, c1, v0, v1, -⟩ := next_ev hc 4 (by omega)
  have v1 := v1 (by omega)
  obtain ⟨z, rfl⟩ : ∃ z : Nat, v = (z : Int) := ⟨v.toNat, by omega⟩
  obtain ⟨ss, zs, rp, b2, e2, c2, N⟩ := feeder_ev c1 z (by omega)
  have hfew := N.few; have hpos := N.pos; have hzl := N.zl; have hzle := N.zle
  obtain ⟨s, hs, s0, s1⟩ := mod_in a1 (ss.length : Int) (by omega) (by omega)
  have hO := net_ok N (by omega)
  have hS : St ss zs rp 7 := ⟨hO, fun j hj => by rw [(N.so j hj).2.2.1]; omega⟩
  have hX := hS.open s0 s1 (by omega) (by omega)
  have lX : (openS ss s 7).2.length = ss.length := openS_len ..
  have hX9 := hX.later (t' := 9) (by omega)
  have cx : cn ss zs rp s 7 = 0 := cn_zero.2 ⟨hO, s0, s1, hS.tim (by omega) (by omega) (Int.le_refl _)⟩
  have cy : cn (openS ss s 7).2 zs rp s 9 = 0 := cn_zero.2 ⟨hX.1, s0, by omega, hX9.tim (by omega) (by omega) (Int.le_refl _)⟩
  have o1 := open_ev ss zs rp s 7
  unfold openR at o1; rw [if_pos cx] at o1
  have yx : (openS (openS ss s 7).2 s 9).2 = (openS ss s 7).2 := by
    have h3 : (rd_T32 (openS ss s 7).2 s).f3 = false := by
      unfold openS
      by_cases h : (rd_T32 ss s).f3 = true
      · rw [if_pos h]; simp only; rw [rd32_set_eq s0 s1]
      · rw [if_neg h]; simpa using h
    have : ∀ ys : List S32, (rd_T32 ys s).f3 = false → (openS ys s 9).2 = ys := by
      intro ys h; unfold openS; rw [if_neg (by rw [h]; simp)]
    exact this _ h3
  have o2 := open_ev (openS ss s 7).2 zs rp s 9
  unfold openR at o2; rw [if_pos cy, yx] at o2
  have hP := hS.answ s0 s1 (sh := -1) (.inr rfl)
  have lP : (ss.set s.toNat (answS (rd_T32 ss s) (-1))).length = ss.length := List.length_set ..
  have a1' := answ_ev ss zs rp s (-1)
  unfold answR at a1'; rw [if_pos (chk_zero.2 hO), if_neg (by omega), if_neg (by omega), if_neg (by decide), if_pos rfl] at a1'
  have a2' := answ_ev (ss.set s.toNat (answS (rd_T32 ss s) (-1))) zs rp s (-1)
  unfold answR at a2'; rw [if_pos (chk_zero.2 hP.1), if_neg (by omega), if_neg (by omega), if_neg (by decide), if_pos rfl, rd32_set_eq s0 s1, List.set_set] at a2'
  have ea : answS (answS (rd_T32 ss s) (-1)) (-1) = answS (rd_T32 ss s) (-1) := by unfold answS; simp
  rw [ea] at a2'
  have hz := hO.zfew
  have sx := same_refl (a := (openS ss s 7).2) (zs := zs) (p := rp) (by omega) (by omega)
  have sp := same_refl (a := ss.set s.toNat (answS (rd_T32 ss s) (-1))) (zs := zs) (p := rp) (by omega) (by omega)
  have tk := tick_ev hX (u := 30) (by omega) (by omega) (by omega)
  have hQ := (hX.later (t' := 30) (by omega)).tick (by omega) (by omega)
  have aq : AlikeS (openS ss s 7).2 (tickS (openS ss s 7).2 30 rp).1 := AlikeS.tick (zs := zs) (by omega) (by omega) _ _ _ _ (hX.later (t' := 30) (by omega)) (Nat.le_refl _)
  have ap : AlikeS ss (ss.set s.toNat (answS (rd_T32 ss s) (-1))) := AlikeS.set s0 s1 (x := answS (rd_T32 ss s) (-1)) (Eq.refl _) (.inr (by show (-1 : Int) ≤ 0; omega))
  have L := l0_ev hO hX.1 hP.1 hQ.1 (AlikeS.open s0 s1 7) aq ap zs.length 0 (Nat.zero_add _)
  apply Ev.rounds
  unfold minecontrollaw18_FeederTwice.f
  simp only [hn, Option.bind_some]
  refine Ev.bind e1 (Ev.bind e2 ?_)
  simp only [hs, Option.bind_some]
  refine Ev.bind (rcheck ss zs rp) ?_
  rw [chk_zero.2 hO]
  simp only [if_true]
  refine Ev.bind o1 (Ev.bind o2 (Ev.bind a1' (Ev.bind a2' ?_)))
  simp only [if_true]
  refine Ev.bind sx ?_
  simp only [if_true]
  refine Ev.bind sp ?_
  refine Ev.step (fun k => by simp only [minecontrollaw18_FeederTwice.j0]; rw [if_neg (by simp)]) (Ev.bind tk ?_)
  exact L
end Go.Proofs.Ytcgeflbifbaecaa.Pure
