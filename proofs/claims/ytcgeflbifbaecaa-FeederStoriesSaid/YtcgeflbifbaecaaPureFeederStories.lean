/- Over any story networks stay right, what has power has only closed switches above it, and a tick first changes something when Due says so: for any choices. -/
import Derived.Test.YtcgeflbifbaecaaComKs
import Derived.Test.YtcgeflbifbaecaaComDs
import Derived.Test.YtcgeflbifbaecaaPFesx10
import Derived.Test.YtcgeflbifbaecaaPFesx12
import Derived.Test.YtcgeflbifbaecaaPFesx7
import Derived.Test.YtcgeflbifbaecaaPFesx8
namespace Go.Proofs.Ytcgeflbifbaecaa.Pure
open Go.RowKit Go.Proofs.Ytcgeflbifbaecaa.PFes Go.Proofs.YtcgeflbifbaecaaW.PrintWords Go.Proofs.YtcgeflbifbaecaaW.PrintLast Go.Proofs.YtcgeflbifbaecaaW.PrintMore Com

theorem mn_low (a b : Int) (ha : -1 ≤ a) (hb : -1 ≤ b) : (mn a b == -1) = (a == -1 || b == -1) := by
  rw [Bool.eq_iff_iff]; simp only [Bool.or_eq_true, beq_iff_eq]; unfold mn; split <;> omega
theorem mn_high (a b : Int) (ha : a ≤ 1) (hb : b ≤ 1) : (mn a b == 1) = (a == 1 && b == 1) := by
  rw [Bool.eq_iff_iff]; simp only [Bool.and_eq_true, beq_iff_eq]; unfold mn; split <;> omega
theorem least_is {ss : List S32} : ∀ (l : List Int) (o : Int), (∀ x ∈ l, -1 ≤ (rd_T32 ss x).f2 ∧ (rd_T32 ss x).f2 ≤ 1) → -1 ≤ o → o ≤ 1 →
    (least ss o l == -1) = (o == -1 || l.any fun x => (rd_T32 ss x).f2 == -1) ∧ (least ss o l == 1) = (o == 1 && l.all fun x => (rd_T32 ss x).f2 == 1) := by
  intro l
  induction l with
  | nil => intro o _ _ _; simp [least]
  | cons x l ih =>
    intro o h o0 o1
    have hx := h x (List.mem_cons_self ..)
    have hm : -1 ≤ mn o (rd_T32 ss x).f2 ∧ mn o (rd_T32 ss x).f2 ≤ 1 := by unfold mn; split <;> omega
    obtain ⟨a, b⟩ := ih (mn o (rd_T32 ss x).f2) (fun y hy => h y (List.mem_cons_of_mem _ hy)) hm.1 hm.2
    have e : least ss o (x :: l) = least ss (mn o (rd_T32 ss x).f2) l := rfl
    rw [e, a, b, mn_low _ _ o0 hx.1, mn_high _ _ o1 hx.2]
    simp [Bool.or_assoc, Bool.and_assoc]

section story
variable {ss : List S32} {zs : List Int} {rp : Int} {L : List S49} {r : Bool}

theorem l2_ev {t z n qa zn zi : Int} {zs' p : List Int} {v : Int} (hp : p.length ≤ 1000) (hin : ∀ x ∈ p, 0 ≤ x ∧ x < ss.length) (hv : Ev (fun k => feeder_Live.f k ss zs rp z) v)
    (H : Ev (fun k => minecontrollaw18_FeederStories.l1 k t L n qa zs' zn (wrap64 (zi + 1)) ss zs rp) r) : ∀ (d q : Nat) (dead all : Bool), q + d = p.length →
    (dead || (p.drop q).any fun x => (rd_T32 ss x).f2 == -1) = (v == -1) → (all && (p.drop q).all fun x => (rd_T32 ss x).f2 == 1) = (v == 1) →
    Ev (fun k => minecontrollaw18_FeederStories.l2 k t z dead all L n qa zs' zn zi p (p.length : Int) (q : Int) ss zs rp) r := by
  intro d
  induction d with
  | zero =>
    intro q dead all hq h1 h2
    rw [List.drop_of_length_le (by omega)] at h1 h2
    simp only [List.any_nil, List.all_nil, Bool.or_false, Bool.and_true] at h1 h2
    refine Ev.step (fun k => by simp only [minecontrollaw18_FeederStories.l2]; rw [if_neg (by omega)]) (Ev.bind hv ?_)
    rw [← h1, ← h2]
    simp only [bne_self_eq_false, Bool.false_eq_true, if_false]
    exact H
  | succ d ih =>
    intro q dead all hq h1 h2
    have hx := hin _ (rd_mem (l := p) (i := (q : Int)) (by omega) (by omega))
    have e : p.drop q = rd p (q : Int) :: p.drop (q + 1) := by
      rw [List.drop_eq_getElem_cons (by omega)]
      unfold rd
      simp only [Int.toNat_natCast, List.getD_eq_getElem?_getD]
      rw [List.getElem?_eq_getElem (by omega)]; rfl
    rw [e] at h1 h2
    simp only [List.any_cons, List.all_cons] at h1 h2
    have w1 : wrap64 ((q : Int) + 1) = ((q + 1 : Nat) : Int) := by rw [w64 (by omega) (by omega)]; rfl
    have ih := ih (q + 1) (dead || (rd_T32 ss (rd p (q : Int))).f2 == -1) (all && (rd_T32 ss (rd p (q : Int))).f2 == 1) (by omega) (by rw [Bool.or_assoc]; exact h1) (by rw [Bool.and_assoc]; exact h2)
    refine Ev.step (fun k => ?_) ih
    simp only [minecontrollaw18_FeederStories.l2]
    rw [if_pos (by omega), if_pos (by omega), if_pos (by omega), w1]
    cases dead
    · simp only [Bool.false_eq_true, if_false, Bool.false_or]
      rw [if_pos hx.1, if_pos hx.2]
      cases all
      · simp only [Bool.false_eq_true, if_false, Bool.false_and]
      · simp only [if_true, Bool.true_and]
    · simp only [if_true, Bool.true_or]
      cases all
      · simp only [Bool.false_eq_true, if_false, Bool.false_and]
      · simp only [if_true, Bool.true_and]
        rw [if_pos hx.1, if_pos hx.2]

theorem l1_ev {t n : Int} {qa : Int} (h : Ok ss zs rp) (H : Ev (fun k => minecontrollaw18_FeederStories.l0 k t L n (wrap64 (qa + 1)) ss zs rp) r) : ∀ (d i : Nat), i + d = zs.length →
    Ev (fun k => minecontrollaw18_FeederStories.l1 k t L n qa zs (zs.length : Int) (i : Int) ss zs rp) r := by
  have hz := h.zfew
  intro d
  induction d with
  | zero => intro i hi; exact Ev.step (fun k => by simp only [minecontrollaw18_FeederStories.l1]; rw [if_neg (by omega)]) H
  | succ d ih =>
    intro i hi
    have w1 : wrap64 ((i : Int) + 1) = ((i + 1 : Nat) : Int) := by rw [w64 (by omega) (by omega)]; rfl
    have hzo := h.zo i (by omega)
    have hpe : path ss zs rp (rd zs (i : Int)) = up ss ss.length (rd zs (i : Int)) := by unfold path; rw [if_pos (chk_zero.2 h), if_pos hzo.1, if_pos hzo.2.1]
    have hlv : live ss zs rp (i : Int) = least ss 1 (path ss zs rp (rd zs (i : Int))) := by rw [hpe]; unfold live; rw [if_pos (chk_zero.2 h), if_pos (by omega), if_pos (by omega)]
    have hin : ∀ x ∈ path ss zs rp (rd zs (i : Int)), 0 ≤ x ∧ x < ss.length := path_in
    have hb : ∀ x ∈ path ss zs rp (rd zs (i : Int)), -1 ≤ (rd_T32 ss x).f2 ∧ (rd_T32 ss x).f2 ≤ 1 := by
      intro x hx
      obtain ⟨x0, x1⟩ := hin x hx
      obtain ⟨m, rfl⟩ : ∃ m : Nat, x = (m : Int) := ⟨x.toNat, by omega⟩
      have := sBad_zero.1 (h.sw m (by omega))
      exact ⟨this.2.2.2.2.1, this.2.2.2.2.2.1⟩
    obtain ⟨la, lb⟩ := least_is (ss := ss) (path ss zs rp (rd zs (i : Int))) 1 hb (by omega) (by omega)
    have hpl := path_len ss zs rp (rd zs (i : Int))
    refine Ev.step (fun k => by simp only [minecontrollaw18_FeederStories.l1]; rw [if_pos (by omega), if_pos (by omega), if_pos (by omega)]) (Ev.bind (p_path ss zs rp (rd zs (i : Int))) ?_)
    refine l2_ev (z := (i : Int)) (v := live ss zs rp (i : Int)) (by omega) hin (p_live ss zs rp (i : Int)) (by rw [w1]; exact ih (i + 1) (by omega)) (path ss zs rp (rd zs (i : Int))).length 0 false true (Nat.zero_add _) ?_ ?_
    · rw [hlv, la]; simp
    · rw [hlv, lb]; simp

theorem j4_ev {t n qa : Int} (h : Ok ss zs rp) (H : Ev (fun k => minecontrollaw18_FeederStories.l0 k t L n (wrap64 (qa + 1)) ss zs rp) r) : Ev (fun k => minecontrollaw18_FeederStories.j4 k t L n qa ss zs rp) r :=
  Ev.step (fun k => by simp only [minecontrollaw18_FeederStories.j4]; rfl) (l1_ev h H zs.length 0 (Nat.zero_add _))

theorem j1_ev {t n qa : Int} (h : St ss zs rp t) (t0 : 0 ≤ t) (t1 : t ≤ 1000) (H : Ev (fun k => minecontrollaw18_FeederStories.l0 k t L n (wrap64 (qa + 1)) ss zs rp) r) : Ev (fun k => minecontrollaw18_FeederStories.j1 k t L n qa ss zs rp) r := by
  have hl := h.1.few; have hz := h.1.zfew; have hr0 := h.1.rp0; have hr1 := h.1.rp1
  refine Ev.step (fun k => by simp only [minecontrollaw18_FeederStories.j1]; rfl) (Ev.bind (pcheck ss zs rp) ?_)
  rw [chk_zero.2 h.1]
  simp only [if_true]
  refine Ev.bind (p_due ss zs rp) ?_
  have J4 := j4_ev (L := L) (n := n) (t := t) (qa := qa) h.1 H
  obtain ⟨da, db, dc⟩ := dueF_in h ss.length 0 1099511627776 (Nat.zero_add _)
  have hd : Com.due ss zs rp = dueF ss rp ss.length 0 1099511627776 := by unfold Com.due; rw [if_pos (chk_zero.2 h.1)]
  rw [hd]
  generalize dueF ss rp ss.length 0 1099511627776 = D at da db dc
  by_cases hD : D < 1099511627776
  · simp only [if_pos hD]
    obtain ⟨j, j1, j2, j3⟩ := dc.resolve_left (by omega)
    have hb := sBad_zero.1 (h.bad (s := (j : Int)) (by omega) (by omega))
    have ht := h.2 j j1
    have J3 : Ev (fun k => minecontrollaw18_FeederStories.j3 k t D L n qa false ss zs rp) r := by
      by_cases hgt : D > t
      · have htk := tick_ev h (u := D - 1) (by omega) (by omega) (by omega)
        have hno : tickS ss (D - 1) rp = (ss, [], []) := tickF_none ss.length ss [] [] (fun i hi => by
          cases hc : fire (rd_T32 ss (i : Int)) (D - 1) rp with
          | false => rfl
          | true =>
            obtain ⟨c1, c2⟩ := fire_is.1 hc
            have := db i (Nat.zero_le _) hi c1
            omega)
        rw [hno] at htk
        refine Ev.step (fun k => by simp only [minecontrollaw18_FeederStories.j3, Bool.false_eq_true, if_false]; rw [if_pos hgt, w64 (by omega) (by omega)]) (Ev.bind htk ?_)
        simp only [if_true]
        refine Ev.bind (same_refl (by omega) (by omega)) ?_
        simp only [if_true]
        exact J4
      · exact Ev.step (fun k => by simp only [minecontrollaw18_FeederStories.j3, Bool.false_eq_true, if_false]; rw [if_neg hgt]) J4
    have J2 : ∀ u, t ≤ u → D ≤ u → u ≤ 2147483648 → Ev (fun k => minecontrollaw18_FeederStories.j2 k t D u L n qa ss zs rp) r := by
      intro u u0 u1 u2
      refine Ev.step (fun k => by simp only [minecontrollaw18_FeederStories.j2]; rfl) (Ev.bind (tick_ev h (u := u) (by omega) u2 u0) ?_)
      simp only [if_true]
      have hs := tickF_in (zs := zs) (rp := rp) (t := u) (by omega) u2 ss.length ss [] [] (h.later u0) (Nat.le_refl _)
      obtain ⟨i, i1, i2, i3⟩ := tickF_some (zs := zs) (rp := rp) (t := u) (by omega) u2 ss.length ss [] [] (h.later u0) (Nat.le_refl _) ⟨j, j1, fire_is.2 ⟨j2, by omega⟩⟩
      refine Ev.bind (same_ev (r := false) (a := (tickS ss u rp).1) hs.2.1 (by have := hs.2.1; unfold tickS; omega) (by omega) (.inr ⟨rfl, i, by have := hs.2.1; unfold tickS; omega, fun e => ?_⟩)) J3
      unfold tickS at e
      rw [e, i2] at i3
      exact absurd i3 (by simp)
    by_cases hlt : D < t
    · simp only [if_pos hlt]; exact J2 t (Int.le_refl _) (by omega) (by omega)
    · simp only [if_neg hlt]; exact J2 D (by omega) (Int.le_refl _) (by omega)
  · simp only [if_neg hD]; exact J4
end story

/-- An act leaves a network right, or is refused. -/
theorem done_ev {ss : List S32} {zs : List Int} {rp t : Int} (h : St ss zs rp t) (t0 : 0 ≤ t) (t1 : t ≤ 1000) (kd n w : Int) : ∃ q : List S32 × List Int × Int × Int, Ev (fun k => minecontrollaw18_done.f k ss zs rp kd n w t) q ∧ (q.2.2.2 = 0 → St q.1 q.2.1 q.2.2.1 t) := by
  have J : ∀ b : Bool, ∃ q : List S32 × List Int × Int × Int, Ev (fun k => minecontrollaw18_done.j0 k t kd b ss zs rp kd n w) q ∧ (q.2.2.2 = 0 → St q.1 q.2.1 q.2.2.1 t) := by
    have goA : ∀ sh : Int, ((answR ss zs rp n sh).2.2.2 = 0 → St (answR ss zs rp n sh).1 (answR ss zs rp n sh).2.1 (answR ss zs rp n sh).2.2.1 t) := by
      intro sh
      unfold answR
      rw [if_pos (chk_zero.2 h.1)]
      by_cases h0 : n < 0
      · rw [if_pos h0]; intro g; exact absurd g (by decide)
      by_cases h1 : n ≥ ss.length
      · rw [if_neg h0, if_pos h1]; intro g; exact absurd g (by decide)
      rw [if_neg h0, if_neg h1]
      by_cases h2 : sh = 1
      · rw [if_pos h2]; intro _; exact h.answ (by omega) (by omega) (.inl h2)
      by_cases h3 : sh = -1
      · rw [if_neg h2, if_pos h3]; intro _; exact h.answ (by omega) (by omega) (.inr h3)
      · rw [if_neg h2, if_neg h3]; intro g; exact absurd g (by decide)
    intro b
    cases b with
    | true =>
      refine ⟨openR ss zs rp n t, Ev.step (fun k => by simp only [minecontrollaw18_done.j0, if_true]) (Ev.bind (open_ev ss zs rp n t) (Ev.now _)), ?_⟩
      unfold openR
      by_cases hc : cn ss zs rp n t = 0
      · obtain ⟨-, h0, h1, -⟩ := cn_zero.1 hc
        rw [if_pos hc]; intro _; exact h.open h0 h1 t0 (by omega)
      · rw [if_neg hc]; intro g; exact absurd g hc
    | false =>
      by_cases k2 : kd = 2
      · refine ⟨closeR ss zs rp n t, Ev.step (fun k => by simp only [minecontrollaw18_done.j0, Bool.false_eq_true, if_false]; rw [if_pos k2]) (Ev.bind (close_ev ss zs rp n t) (Ev.now _)), ?_⟩
        unfold closeR
        by_cases hc : cn ss zs rp n t = 0
        · obtain ⟨-, h0, h1, -⟩ := cn_zero.1 hc
          rw [if_pos hc]
          split
          · intro _; exact h.close h0 h1 t0 (by omega)
          · intro g; exact absurd g (by decide)
        · rw [if_neg hc]; intro g; exact absurd g hc
      by_cases k3 : kd = 3
      · exact ⟨answR ss zs rp n (-1), Ev.step (fun k => by simp only [minecontrollaw18_done.j0, Bool.false_eq_true, if_false]; rw [if_neg k2, if_pos k3]) (Ev.bind (answ_ev ss zs rp n (-1)) (Ev.now _)), goA (-1)⟩
      by_cases k4 : kd = 4
      · exact ⟨answR ss zs rp n 1, Ev.step (fun k => by simp only [minecontrollaw18_done.j0, Bool.false_eq_true, if_false]; rw [if_neg k2, if_neg k3, if_pos k4]) (Ev.bind (answ_ev ss zs rp n 1) (Ev.now _)), goA 1⟩
      · exact ⟨((tickS ss t rp).1, zs, rp, 0), Ev.step (fun k => by simp only [minecontrollaw18_done.j0, Bool.false_eq_true, if_false]; rw [if_neg k2, if_neg k3, if_neg k4]) (Ev.bind (tick_ev h t0 (by omega) (Int.le_refl _)) (Ev.now _)), fun _ => h.tick t0 (by omega)⟩
  unfold minecontrollaw18_done.f
  by_cases k0 : kd = 0
  · simp only [if_pos k0]; exact J _
  · simp only [if_neg k0]; exact J _

/-- Acts, each of some kind, at some switch, after some time. -/
def Acts (L : List S49) : Prop := ∀ j : Nat, j < L.length → 0 ≤ (rd_T49 L j).f2 ∧ (rd_T49 L j).f2 ≤ 3
theorem l0_ev {L : List S49} (hA : Acts L) (hn : L.length ≤ 30) : ∀ (d q : Nat), q + d = L.length → ∀ (ss : List S32) (zs : List Int) (rp t : Int), St ss zs rp t → 0 ≤ t → t ≤ 3 * q →
    Ev (fun k => minecontrollaw18_FeederStories.l0 k t L (L.length : Int) (q : Int) ss zs rp) true := by
  intro d
  induction d with
  | zero =>
    intro q hq ss zs rp t _ _ _
    exact Ev.step (fun k => by simp only [minecontrollaw18_FeederStories.l0]; rw [if_neg (by omega)]) (Ev.bind awake_ev (Ev.now _))
  | succ d ih =>
    intro q hq ss zs rp t h t0 t1
    have ha := hA q (by omega)
    have w1 : wrap64 ((q : Int) + 1) = ((q + 1 : Nat) : Int) := by rw [w64 (by omega) (by omega)]; rfl
    have w2 : wrap64 (t + (rd_T49 L (q : Int)).f2) = t + (rd_T49 L (q : Int)).f2 := w64 (by omega) (by omega)
    have h' := h.later (t' := t + (rd_T49 L (q : Int)).f2) (by omega)
    obtain ⟨x, hx, hs⟩ := done_ev h' (by omega) (by omega) (rd_T49 L (q : Int)).f0 (rd_T49 L (q : Int)).f1 (rd_T49 L (q : Int)).f2
    refine Ev.step (fun k => by simp only [minecontrollaw18_FeederStories.l0]; rw [if_pos (by omega), if_pos (by omega), if_pos (by omega), w2]) (Ev.bind hx ?_)
    by_cases h0 : x.2.2.2 = 0
    · simp only [if_pos h0]
      exact j1_ev (hs h0) (by omega) (by omega) (by rw [w1]; exact ih (q + 1) (by omega) _ _ _ _ (hs h0) (by omega) (by omega))
    · simp only [if_neg h0]
      exact j1_ev h' (by omega) (by omega) (by rw [w1]; exact ih (q + 1) (by omega) _ _ _ _ h' (by omega) (by omega))

theorem rd49_lt {l : List S49} {x : S49} {i : Nat} (h : i < l.length) : rd_T49 (l ++ [x]) i = rd_T49 l i := by
  unfold rd_T49
  simp only [Int.toNat_natCast, List.getD_eq_getElem?_getD]
  rw [List.getElem?_append_left h]
theorem rd49_eq {l : List S49} {x : S49} {i : Nat} (h : i = l.length) : rd_T49 (l ++ [x]) i = x := by
  unfold rd_T49
  subst h
  simp [List.getD_eq_getElem?_getD]
theorem acts_l0 {l : List Int} : ∀ (d : Nat) (L : List S49) (a : Int), C l a → Acts L → L.length + d ≤ 30 → ∃ (L' : List S49) (a' : Int), Ev (fun k => minecontrollaw18_acts.l0 k L (d : Int) l a) (L', a') ∧ Acts L' ∧ L'.length ≤ 30 := by
  intro d
  induction d with
  | zero =>
    intro L a _ hA hL
    exact ⟨L, a, Ev.step (f := fun _ => some (L, a)) (fun k => by simp only [minecontrollaw18_acts.l0]; rw [if_neg (by omega)]) (Ev.now _), hA, by omega⟩
  | succ d ih =>
    intro L a hc hA hL
    obtain ⟨u, a1, ⟨K1, e1⟩, c1, -, -, -⟩ := next_ev hc 6 (by omega)
    obtain ⟨v, a2, ⟨K2, e2⟩, c2, -, -, -⟩ := next_ev c1 6 (by omega)
    obtain ⟨w, a3, ⟨K3, e3⟩, c3, w0, w1, -⟩ := next_ev c2 4 (by omega)
    have w1 := w1 (by omega)
    obtain ⟨L', a', ⟨K4, e4⟩, hA', hl'⟩ := ih (L ++ [⟨u, v, w⟩]) a3 c3 (by
      intro j hj
      simp only [List.length_append, List.length_cons, List.length_nil] at hj
      by_cases e : j = L.length
      · rw [rd49_eq e]; exact ⟨w0, by show w ≤ 3; omega⟩
      · rw [rd49_lt (by omega)]; exact hA j (by omega)) (by simp; omega)
    refine ⟨L', a', ⟨K1 + K2 + K3 + K4 + 1, fun k hk => ?_⟩, hA', hl'⟩
    obtain ⟨m, rfl⟩ : ∃ m, k = m + 1 := ⟨k - 1, by omega⟩
    have f1 := e1 m (by omega); have f2 := e2 m (by omega); have f3 := e3 m (by omega); have f4 := e4 m (by omega)
    dsimp only at f1 f2 f3 f4
    simp only [minecontrollaw18_acts.l0]
    rw [if_pos (by omega), f1]; simp only [Option.bind_some]
    rw [f2]; simp only [Option.bind_some]
    rw [f3]; simp only [Option.bind_some]
    rw [if_pos (by omega), w64 (by omega) (by omega), show ((d + 1 : Nat) : Int) - 1 = (d : Int) from by omega]
    exact f4

theorem FeederStories : minecontrollaw18_FeederStories.Pure := by
  intro l0 _ _ hb
  obtain ⟨l, hn, hc⟩ := new_ev hb
  obtain ⟨v, a1, e1, c1, v0, v1, -⟩ := next_ev hc 4 (by omega)
  have v1 := v1 (by omega)
  obtain ⟨z, rfl⟩ : ∃ z : Nat, v = (z : Int) := ⟨v.toNat, by omega⟩
  obtain ⟨ss, zs, rp, a2, e2, c2, N⟩ := feeder_ev c1 z (by omega)
  obtain ⟨u, a3, e3, c3, u0, u1, -⟩ := next_ev c2 20 (by omega)
  have u1 := u1 (by omega)
  obtain ⟨d, rfl⟩ : ∃ d : Nat, u = (d : Int) := ⟨u.toNat, by omega⟩
  obtain ⟨L, a4, e4, hA, hL⟩ := acts_l0 (l := l) d [] a3 c3 (by intro j hj; simp at hj) (by simp; omega)
  have hS : St ss zs rp 0 := ⟨net_ok N (by omega), fun j hj => by rw [(N.so j hj).2.2.1]; omega⟩
  have e5 := l0_ev hA hL L.length 0 (Nat.zero_add _) ss zs rp 0 hS (by omega) (by omega)
  have acts : Ev (fun k => minecontrollaw18_acts.f k l a2) (L, a4) := by
    unfold minecontrollaw18_acts.f
    exact Ev.bind e3 e4
  apply Ev.rounds
  unfold minecontrollaw18_FeederStories.f
  simp only [hn, Option.bind_some]
  exact Ev.bind e1 (Ev.bind e2 (Ev.bind acts e5))
end Go.Proofs.Ytcgeflbifbaecaa.Pure
