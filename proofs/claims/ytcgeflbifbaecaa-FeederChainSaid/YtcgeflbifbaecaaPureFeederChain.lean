/- If no switch answers any more, then behind the opening of the switch of a zone, with a tick whenever one is due, each switch above it has been told to open, one after the other, and the topmost one fails: for any choices and any zone. -/
import Derived.Test.YtcgeflbifbaecaaComOh
import Derived.Test.YtcgeflbifbaecaaComSh
import Derived.Test.YtcgeflbifbaecaaComTh
import Derived.Test.YtcgeflbifbaecaaComIh
import Derived.Test.YtcgeflbifbaecaaComLh
import Derived.Test.YtcgeflbifbaecaaComDh
import Derived.Test.YtcgeflbifbaecaaComMh
import Derived.Test.YtcgeflbifbaecaaPFehx6
import Derived.Test.YtcgeflbifbaecaaPFehx8
namespace Go.Proofs.Ytcgeflbifbaecaa.Pure
open Go.RowKit Go.Proofs.Ytcgeflbifbaecaa.PFeh Go.Proofs.YtcgeflbifbaecaaW.PrintWords Go.Proofs.YtcgeflbifbaecaaW.PrintLast Go.Proofs.YtcgeflbifbaecaaW.PrintMore Com

/-- A switch that was told to be closed, and shows it. -/
def clo (s : S32) : S32 := ⟨s.f0, s.f1, 1, true, s.f4⟩
/-- Numbers that fall. -/
theorem falls {P : List Int} (h : ∀ q : Nat, q + 1 < P.length → rd P ((q + 1 : Nat) : Int) < rd P (q : Int)) : ∀ (d q : Nat), q + d + 1 < P.length → rd P ((q + d + 1 : Nat) : Int) < rd P (q : Int) := by
  intro d
  induction d with
  | zero => intro q hq; exact h q hq
  | succ d ih => intro q hq; exact Int.lt_trans (h (q + d + 1) hq) (ih q (by omega))
theorem falls_inj {P : List Int} (h : ∀ q : Nat, q + 1 < P.length → rd P ((q + 1 : Nat) : Int) < rd P (q : Int)) {a b : Nat} (ha : a < P.length) (hb : b < P.length) (e : rd P (a : Int) = rd P (b : Int)) : a = b := by
  rcases Nat.lt_trichotomy a b with g | g | g
  · have := falls h (b - a - 1) a (by omega)
    rw [show a + (b - a - 1) + 1 = b from by omega] at this; omega
  · exact g
  · have := falls h (a - b - 1) b (by omega)
    rw [show b + (a - b - 1) + 1 = a from by omega] at this; omega

/-- The path, the switches above each other, of a network in which all is closed. -/
structure Ch (ss : List S32) (zs : List Int) (rp : Int) (P : List Int) : Prop where
  ok : Ok ss zs rp
  cl : ∀ j : Nat, j < ss.length → (rd_T32 ss (j : Int)).f1 = 0 ∧ (rd_T32 ss (j : Int)).f2 = 1 ∧ (rd_T32 ss (j : Int)).f3 = true ∧ (rd_T32 ss (j : Int)).f4 = false
  pos : 1 ≤ P.length
  few : P.length ≤ 32
  at_ : ∀ q : Nat, q < P.length → 0 ≤ rd P (q : Int) ∧ rd P (q : Int) < ss.length ∧ (q + 1 < P.length → rd P ((q + 1 : Nat) : Int) = (rd_T32 ss (rd P (q : Int))).f0 ∧ 0 ≤ rd P ((q + 1 : Nat) : Int)) ∧ (q + 1 = P.length → (rd_T32 ss (rd P (q : Int))).f0 < 0)
theorem Ch.low {ss : List S32} {zs : List Int} {rp : Int} {P : List Int} (h : Ch ss zs rp P) (q : Nat) (hq : q + 1 < P.length) : rd P ((q + 1 : Nat) : Int) < rd P (q : Int) := by
  obtain ⟨a, b, c, -⟩ := h.at_ q (by omega)
  rw [(c hq).1]
  exact (h.ok.above a b).2
theorem Ch.inj {ss : List S32} {zs : List Int} {rp : Int} {P : List Int} (h : Ch ss zs rp P) {a b : Nat} (ha : a < P.length) (hb : b < P.length) (e : rd P (a : Int) = rd P (b : Int)) : a = b := falls_inj h.low ha hb e
/-- The network where m switches of the path have been told to open; all of them but the last are late, and that one, too, where m is past the path's end. -/
structure Inv (ss : List S32) (zs : List Int) (rp : Int) (P : List Int) (x : List S32) (m : Nat) : Prop where
  len : x.length = ss.length
  up : ∀ q : Nat, q < P.length → q < m → rd_T32 x (rd P (q : Int)) = ⟨(rd_T32 ss (rd P (q : Int))).f0, (q : Int) * rp, 0, false, decide (q + 1 < m)⟩
  rest : ∀ j : Nat, j < ss.length → (∀ q : Nat, q < P.length → q < m → (j : Int) ≠ rd P (q : Int)) → rd_T32 x (j : Int) = rd_T32 ss (j : Int)

section
variable {ss : List S32} {zs : List Int} {rp : Int} {P : List Int} {x : List S32}
theorem Inv.wait (h : Ch ss zs rp P) {m : Nat} (I : Inv ss zs rp P x m) {j : Nat} (hj : j < ss.length) : waitsB (rd_T32 x (j : Int)) = true ↔ ∃ q : Nat, q < P.length ∧ q + 1 = m ∧ (j : Int) = rd P (q : Int) := by
  by_cases hq : ∃ q : Nat, q < P.length ∧ q < m ∧ (j : Int) = rd P (q : Int)
  · obtain ⟨q, q1, q2, e⟩ := hq
    rw [e, I.up q q1 q2, waits_is]
    simp only [decide_eq_false_iff_not]
    constructor
    · intro g; exact ⟨q, q1, by omega, rfl⟩
    · rintro ⟨r, r1, r2, e2⟩
      have := h.inj q1 r1 e2
      exact ⟨trivial, by omega, by omega⟩
  · rw [I.rest j hj (fun q q1 q2 e => hq ⟨q, q1, q2, e⟩), waits_is, (h.cl j hj).2.2.1]
    constructor
    · intro g; exact absurd g.1 (by simp)
    · rintro ⟨r, r1, r2, e2⟩; exact absurd ⟨r, r1, by omega, e2⟩ hq
theorem Inv.alike (h : Ch ss zs rp P) {m : Nat} (I : Inv ss zs rp P x m) : AlikeS ss x := by
  refine ⟨I.len, fun j hj => ?_⟩
  by_cases hq : ∃ q : Nat, q < P.length ∧ q < m ∧ (j : Int) = rd P (q : Int)
  · obtain ⟨q, q1, q2, e⟩ := hq
    rw [e, I.up q q1 q2]; exact ⟨rfl, .inr (Int.le_refl _)⟩
  · rw [I.rest j hj (fun q q1 q2 e => hq ⟨q, q1, q2, e⟩)]; exact ⟨rfl, .inl rfl⟩
theorem mul_step (n : Nat) : ((n + 1 : Nat) : Int) * rp = (n : Int) * rp + rp := by
  rw [show ((n + 1 : Nat) : Int) = (n : Int) + 1 from rfl, Int.add_mul, Int.one_mul]
theorem mul_le (hr : 0 ≤ rp) (hr2 : rp ≤ 100000) : ∀ n : Nat, 0 ≤ (n : Int) * rp ∧ (n : Int) * rp ≤ (n : Int) * 100000 := by
  intro n
  induction n with
  | zero => simp
  | succ n ih => rw [mul_step]; omega

/-- The tick that is due: the switch that was told last is late, and the next one, if there is one, is told. -/
theorem tick_next (h : Ch ss zs rp P) {m : Nat} (hm : m < P.length) (I : Inv ss zs rp P x (m + 1)) (S : St x zs rp ((m : Int) * rp)) :
    Inv ss zs rp P (tickS x (((m + 1 : Nat) : Int) * rp) rp).1 (m + 2) ∧ (tickS x (((m + 1 : Nat) : Int) * rp) rp).2.1 = [rd P (m : Int)] ∧ (tickS x (((m + 1 : Nat) : Int) * rp) rp).2.2 = if m + 1 < P.length then [rd P ((m + 1 : Nat) : Int)] else [] := by
  have hr0 := h.ok.rp0; have hr1 := h.ok.rp1; have hfew := h.few
  have b0 := mul_le (rp := rp) (by omega) hr1 m; have b1 := mul_step (rp := rp) m; have bb := mul_le (rp := rp) (by omega) hr1 (m + 1)
  obtain ⟨p0, p1, pn, pl⟩ := h.at_ m hm
  obtain ⟨i, hi⟩ : ∃ i : Nat, rd P (m : Int) = (i : Int) := ⟨(rd P (m : Int)).toNat, by omega⟩
  have rdi : rd_T32 x (i : Int) = ⟨(rd_T32 ss (i : Int)).f0, (m : Int) * rp, 0, false, false⟩ := by
    have := I.up m hm (by omega)
    rw [hi] at this
    rw [this]; simp
  have il : i < x.length := by rw [I.len]; omega
  have hfire : ∀ j : Nat, j < x.length → (fire (rd_T32 x (j : Int)) (((m + 1 : Nat) : Int) * rp) rp = true ↔ j = i) := by
    intro j hj
    rw [I.len] at hj
    constructor
    · intro g
      obtain ⟨q, q1, q2, e⟩ := (I.wait h hj).1 (fire_is.1 g).1
      have : q = m := by omega
      subst this; rw [hi] at e; omega
    · rintro rfl
      refine fire_is.2 ⟨(I.wait h hj).2 ⟨m, hm, rfl, hi.symm⟩, ?_⟩
      rw [rdi]; show rp ≤ ((m + 1 : Nat) : Int) * rp - (m : Int) * rp; omega
  have T := tick_one (S.later (t' := ((m + 1 : Nat) : Int) * rp) (by omega)) (by omega) (by omega) il hfire
  have setne : ∀ j : Int, 0 ≤ j → j ≠ (i : Int) → rd_T32 (x.set i (lateS (rd_T32 x (i : Int)))) j = rd_T32 x j := by
    intro j hj hne
    have := rd32_set_ne (l := x) (i := (i : Int)) (j := j) (v := lateS (rd_T32 x (i : Int))) (by omega) hj hne
    rwa [Int.toNat_natCast] at this
  have seteq : rd_T32 (x.set i (lateS (rd_T32 x (i : Int)))) (i : Int) = lateS (rd_T32 x (i : Int)) := by
    have := rd32_set_eq (l := x) (i := (i : Int)) (v := lateS (rd_T32 x (i : Int))) (by omega) (by omega)
    rwa [Int.toNat_natCast] at this
  have late_is : lateS (rd_T32 x (i : Int)) = ⟨(rd_T32 ss (i : Int)).f0, (m : Int) * rp, 0, false, true⟩ := by rw [rdi]; rfl
  have f0x : (rd_T32 x (i : Int)).f0 = (rd_T32 ss (i : Int)).f0 := by rw [rdi]
  by_cases hl : m + 1 < P.length
  · obtain ⟨e1, g1⟩ := pn hl
    obtain ⟨q0, q1, -, -⟩ := h.at_ (m + 1) hl
    rw [hi] at e1
    obtain ⟨u, hu⟩ : ∃ u : Nat, rd P ((m + 1 : Nat) : Int) = (u : Int) := ⟨(rd P ((m + 1 : Nat) : Int)).toNat, by omega⟩
    have ne_ui : (u : Int) ≠ (i : Int) := by have := h.low m hl; omega
    have eu : (rd_T32 ss (i : Int)).f0 = (u : Int) := by omega
    have rdu : rd_T32 x (u : Int) = rd_T32 ss (u : Int) := I.rest u (by omega) (fun q a b e => by
      have := h.inj (a := m + 1) (b := q) hl a (by rw [hu]; exact e)
      omega)
    have cu := h.cl u (by omega)
    have hop : openS (x.set i (lateS (rd_T32 x (i : Int)))) (u : Int) (((m + 1 : Nat) : Int) * rp) = (true, (x.set i (lateS (rd_T32 x (i : Int)))).set u ⟨(rd_T32 ss (u : Int)).f0, ((m + 1 : Nat) : Int) * rp, 0, false, false⟩) := by
      unfold openS
      rw [setne (u : Int) (by omega) ne_ui, rdu, if_pos cu.2.2.1, Int.toNat_natCast]
    rw [f0x, eu, if_pos (by omega), hop] at T
    simp only [if_true] at T
    have ul : u < (x.set i (lateS (rd_T32 x (i : Int)))).length := by rw [List.length_set, I.len]; omega
    have set2ne : ∀ j : Int, 0 ≤ j → j ≠ (u : Int) → rd_T32 ((x.set i (lateS (rd_T32 x (i : Int)))).set u ⟨(rd_T32 ss (u : Int)).f0, ((m + 1 : Nat) : Int) * rp, 0, false, false⟩) j = rd_T32 (x.set i (lateS (rd_T32 x (i : Int)))) j := by
      intro j hj hne
      have := rd32_set_ne (l := x.set i (lateS (rd_T32 x (i : Int)))) (i := (u : Int)) (j := j) (v := ⟨(rd_T32 ss (u : Int)).f0, ((m + 1 : Nat) : Int) * rp, 0, false, false⟩) (by omega) hj hne
      rwa [Int.toNat_natCast] at this
    have set2eq : rd_T32 ((x.set i (lateS (rd_T32 x (i : Int)))).set u ⟨(rd_T32 ss (u : Int)).f0, ((m + 1 : Nat) : Int) * rp, 0, false, false⟩) (u : Int) = ⟨(rd_T32 ss (u : Int)).f0, ((m + 1 : Nat) : Int) * rp, 0, false, false⟩ := by
      have := rd32_set_eq (l := x.set i (lateS (rd_T32 x (i : Int)))) (i := (u : Int)) (v := ⟨(rd_T32 ss (u : Int)).f0, ((m + 1 : Nat) : Int) * rp, 0, false, false⟩) (by omega) (by omega)
      rwa [Int.toNat_natCast] at this
    rw [T]
    refine ⟨⟨?_, fun q a b => ?_, fun j hj hno => ?_⟩, by rw [hi], by rw [if_pos hl, hu]⟩
    · rw [List.length_set, List.length_set, I.len]
    · by_cases eq1 : q = m + 1
      · subst eq1
        rw [hu, set2eq]; simp
      · have qa := (h.at_ q a).1
        have nu : rd P (q : Int) ≠ (u : Int) := fun e => eq1 (h.inj a hl (by rw [hu]; exact e))
        rw [set2ne _ qa nu]
        by_cases eq2 : q = m
        · subst eq2; rw [hi, seteq, late_is]; simp
        · have ni : rd P (q : Int) ≠ (i : Int) := fun e => eq2 (h.inj a hm (by rw [hi]; exact e))
          rw [setne _ qa ni, I.up q a (by omega)]
          have : (decide (q + 1 < m + 1)) = decide (q + 1 < m + 2) := by rw [decide_eq_decide]; omega
          rw [this]
    · have nu : (j : Int) ≠ (u : Int) := by rw [← hu]; exact hno (m + 1) hl (by omega)
      have ni : (j : Int) ≠ (i : Int) := by rw [← hi]; exact hno m hm (by omega)
      rw [set2ne _ (by omega) nu, setne _ (by omega) ni]
      exact I.rest j hj (fun q a b => hno q a (by omega))
  · have pe := pl (by omega)
    rw [hi] at pe
    rw [f0x, if_neg (by omega)] at T
    rw [T]
    refine ⟨⟨?_, fun q a b => ?_, fun j hj hno => ?_⟩, by rw [hi], by rw [if_neg hl]⟩
    · rw [List.length_set, I.len]
    · have qa := (h.at_ q a).1
      by_cases eq2 : q = m
      · subst eq2; rw [hi, seteq, late_is]; simp
      · have ni : rd P (q : Int) ≠ (i : Int) := fun e => eq2 (h.inj a hm (by rw [hi]; exact e))
        rw [setne _ qa ni, I.up q a (by omega)]
        have : (decide (q + 1 < m + 1)) = decide (q + 1 < m + 2) := by rw [decide_eq_decide]; omega
        rw [this]
    · have ni : (j : Int) ≠ (i : Int) := by rw [← hi]; exact hno m hm (by omega)
      rw [setne _ (by omega) ni]
      exact I.rest j hj (fun q a b => hno q a (by omega))

theorem drop_one {l : List Int} {m : Nat} (h : m < l.length) : l.drop m = rd l (m : Int) :: l.drop (m + 1) := by
  rw [List.drop_eq_getElem_cons (by omega)]
  unfold rd
  simp only [Int.toNat_natCast, List.getD_eq_getElem?_getD]
  rw [List.getElem?_eq_getElem (by omega)]; rfl
theorem cut_one {l : List Int} {m : Nat} (h : m < l.length) : (l.take (m + 1)).drop m = [rd l (m : Int)] := by
  rw [List.drop_take, drop_one h, show m + 1 - m = 1 from by omega]; rfl
theorem least_zero {y : List S32} : ∀ l : List Int, (∀ j ∈ l, (rd_T32 y j).f2 = 0) → least y 0 l = 0 := by
  intro l
  induction l with
  | nil => intro _; rfl
  | cons j l ih =>
    intro h
    have e : least y 0 (j :: l) = least y (mn 0 (rd_T32 y j).f2) l := rfl
    rw [e, h j (List.mem_cons_self ..), show mn 0 0 = 0 from rfl]
    exact ih (fun i hi => h i (List.mem_cons_of_mem _ hi))
theorem rd_of_mem {l : List Int} {y : Int} (h : y ∈ l) : ∃ q : Nat, q < l.length ∧ rd l (q : Int) = y := by
  obtain ⟨q, hq, e⟩ := List.getElem_of_mem h
  refine ⟨q, hq, ?_⟩
  unfold rd
  simp only [Int.toNat_natCast, List.getD_eq_getElem?_getD]
  rw [List.getElem?_eq_getElem hq, e]; rfl

theorem end_ev (h : Ch ss zs rp P) {zi : Int} (z0 : 0 ≤ zi) (z1 : zi < zs.length) (hP : P = up ss ss.length (rd zs zi)) (I : Inv ss zs rp P x (P.length + 1)) {t : Int} (S : St x zs rp t) :
    Ev (fun k => minecontrollaw18_FeederChain.l1 k zi P ((P.length + 1 : Nat) : Int) ss zs rp x zs rp) true := by
  have hpos := h.pos; have hfew := h.few
  obtain ⟨-, -, dc⟩ := dueF_in S x.length 0 1099511627776 (Nat.zero_add _)
  have hd : Com.due x zs rp = 1099511627776 := by
    unfold Com.due; rw [if_pos (chk_zero.2 S.1)]
    rcases dc with e | ⟨j, j1, j2, -⟩
    · exact e
    · rw [I.len] at j1
      obtain ⟨q, q1, q2, -⟩ := (I.wait h j1).1 j2
      omega
  obtain ⟨p0, p1, -, pl⟩ := h.at_ (P.length - 1) (by omega)
  obtain ⟨i, hi⟩ : ∃ i : Nat, rd P ((P.length - 1 : Nat) : Int) = (i : Int) := ⟨(rd P ((P.length - 1 : Nat) : Int)).toNat, by omega⟩
  have hf : failed x zs rp = [(i : Int)] := by
    unfold failed; rw [if_pos (chk_zero.2 S.1)]
    rw [fail_one (i0 := i) x.length 0 [] (fun j _ hj => ?_), if_pos (by rw [I.len]; omega)]
    · rfl
    · rw [Nat.zero_add, I.len] at hj
      by_cases hq : ∃ q : Nat, q < P.length ∧ q < P.length + 1 ∧ (j : Int) = rd P (q : Int)
      · obtain ⟨q, q1, q2, e⟩ := hq
        rw [e, I.up q q1 q2]
        obtain ⟨a, b, c, g⟩ := h.at_ q q1
        by_cases eq : q + 1 = P.length
        · have : q = P.length - 1 := by omega
          subst this
          rw [hi] at e
          exact ⟨fun _ => by omega, fun _ => ⟨g eq, by simp; omega⟩⟩
        · have c := c (by omega)
          refine ⟨fun w => ?_, fun w => ?_⟩
          · have w1 : (rd_T32 ss (rd P (q : Int))).f0 < 0 := w.1
            omega
          · subst w
            have := h.inj q1 (by omega : P.length - 1 < P.length) (by rw [hi]; exact e.symm)
            omega
      · rw [I.rest j hj (fun q q1 q2 e => hq ⟨q, q1, q2, e⟩)]
        refine ⟨fun w => ?_, fun w => ?_⟩
        · rw [(h.cl j hj).2.2.2] at w; exact absurd w.2 (by simp)
        · subst w; exact absurd ⟨P.length - 1, by omega, by omega, hi.symm⟩ hq
  have hlv : live x zs rp zi = 0 := by
    unfold live
    rw [if_pos (chk_zero.2 S.1), if_pos z0, if_pos z1, I.len]
    obtain ⟨zn, rfl⟩ : ∃ zn : Nat, zi = (zn : Int) := ⟨zi.toNat, by omega⟩
    rw [up_alike (I.alike h) h.ok _ _ (h.ok.zo zn (by omega)).2.1, ← hP]
    have h0 : ∀ y ∈ P, (rd_T32 x y).f2 = 0 := by
      intro y hy
      obtain ⟨q, q1, e⟩ := rd_of_mem hy
      rw [← e, I.up q q1 (by omega)]
    have e0 := drop_one (l := P) (m := 0) (by omega)
    rw [List.drop_zero] at e0
    have e1 : least x 1 P = least x (mn 1 (rd_T32 x (rd P ((0 : Nat) : Int))).f2) (P.drop 1) := by
      conv => lhs; rw [e0]
      rfl
    rw [e1, h0 _ (rd_mem (by omega) (by omega)), show mn 1 0 = 0 from rfl]
    exact least_zero _ (fun y hy => h0 y (List.mem_of_mem_drop hy))
  have wl : wrap64 ((P.length : Int) - 1) = ((P.length - 1 : Nat) : Int) := by rw [w64 (by omega) (by omega)]; omega
  have hdrop : P.drop (P.length - 1) = [(i : Int)] := by
    rw [drop_one (by omega), hi, List.drop_of_length_le (by omega)]
  refine Ev.step (fun k => by simp only [minecontrollaw18_FeederChain.l1]; rw [if_neg (by omega)]) (Ev.bind (p_due x zs rp) ?_)
  simp only [hd, if_true]
  refine Ev.bind (p_failed x zs rp) ?_
  rw [hf]
  simp only [wl, Int.toNat_natCast, hdrop]
  simp only [if_pos (show (0 : Int) ≤ ((P.length - 1 : Nat) : Int) by omega), if_pos (show ((P.length - 1 : Nat) : Int) ≤ (P.length : Int) by omega)]
  refine Ev.bind (ints_ev (by simp)) ?_
  simp only [if_true]
  refine Ev.bind (p_live x zs rp zi) ?_
  simp only [hlv, if_true]
  exact Ev.bind awake_ev (Ev.now _)
theorem mulb (h : Ok ss zs rp) {n : Nat} (hn : n ≤ 33) : 0 ≤ (n : Int) * rp ∧ (n : Int) * rp ≤ 3300000 := by
  have := mul_le (rp := rp) (by have := h.rp0; omega) h.rp1 n
  generalize (n : Int) * rp = M at this ⊢
  omega
theorem due_is {M pm : Int} (S : St x zs rp M) (M0 : 0 ≤ M) (M1 : M ≤ 3300000) (p0 : 0 ≤ pm) (p1 : pm < x.length) (hw : ∀ j : Nat, j < x.length → (waitsB (rd_T32 x (j : Int)) = true ↔ (j : Int) = pm)) (hf : (rd_T32 x pm).f1 = M) : Com.due x zs rp = M + rp := by
  obtain ⟨da, db, dc⟩ := dueF_in S x.length 0 1099511627776 (Nat.zero_add _)
  have hr1 := S.1.rp1
  unfold Com.due; rw [if_pos (chk_zero.2 S.1)]
  obtain ⟨i, rfl⟩ : ∃ i : Nat, pm = (i : Int) := ⟨pm.toNat, by omega⟩
  have hle := db i (Nat.zero_le _) (by omega) ((hw i (by omega)).2 rfl)
  rw [hf] at hle
  rcases dc with e | ⟨j, j1, j2, e⟩
  · omega
  · have := (hw j j1).1 j2
    rw [this, hf] at e
    exact e
theorem l1_step {zi T : Int} {m : Nat} {y : List S32} (hml : m < P.length) (hfew : P.length ≤ 32) (wT : wrap64 (((m + 1 : Nat) : Int) * rp) = T) (hd : Com.due x zs rp = T)
    (tk : Ev (fun k => feeder_Tick.f k x zs rp T) (y, zs, rp, [rd P (m : Int)], (if m + 1 < P.length then [rd P ((m + 1 : Nat) : Int)] else []), 0))
    (nxt : Ev (fun k => minecontrollaw18_FeederChain.l1 k zi P ((m + 2 : Nat) : Int) ss zs rp y zs rp) true) : Ev (fun k => minecontrollaw18_FeederChain.l1 k zi P ((m + 1 : Nat) : Int) ss zs rp x zs rp) true := by
  have wm : wrap64 (((m + 1 : Nat) : Int) - 1) = (m : Int) := by rw [w64 (by omega) (by omega)]; omega
  have wp : wrap64 (((m + 1 : Nat) : Int) + 1) = ((m + 2 : Nat) : Int) := by rw [w64 (by omega) (by omega)]; rfl
  refine Ev.step (fun k => by simp only [minecontrollaw18_FeederChain.l1]; rw [if_pos (by omega)]) (Ev.bind (p_due x zs rp) ?_)
  simp only [hd, wT, if_true]
  refine Ev.bind tk ?_
  simp only [wm, wp, if_true, Int.toNat_natCast, cut_one hml]
  simp only [if_pos (show (0 : Int) ≤ (m : Int) by omega), if_pos (show (m : Int) ≤ ((m + 1 : Nat) : Int) by omega)]
  refine Ev.bind (ints_ev (by simp)) ?_
  simp only [if_true]
  by_cases hl : m + 1 < P.length
  · simp only [if_pos hl, if_pos (show ((m + 1 : Nat) : Int) < (P.length : Int) by omega), if_pos (show (0 : Int) ≤ ((m + 1 : Nat) : Int) by omega), if_pos (show ((m + 1 : Nat) : Int) ≤ ((m + 2 : Nat) : Int) by omega), if_pos (show ((m + 2 : Nat) : Int) ≤ (P.length : Int) by omega), cut_one hl]
    refine Ev.bind (ints_ev (by simp)) ?_
    simp only [if_true, if_neg (show ¬ ((m + 1 : Nat) : Int) = (P.length : Int) by omega)]
    exact nxt
  · simp only [if_neg hl, if_neg (show ¬ ((m + 1 : Nat) : Int) < (P.length : Int) by omega), if_pos (show ((m + 1 : Nat) : Int) = (P.length : Int) by omega), List.length_nil, if_neg (show ¬ (((0 : Nat) : Int) > 0) by omega)]
    exact nxt
theorem l1_ev (h : Ch ss zs rp P) {zi : Int} (z0 : 0 ≤ zi) (z1 : zi < zs.length) (hP : P = up ss ss.length (rd zs zi)) : ∀ (d m : Nat) (x : List S32), m + d = P.length → Inv ss zs rp P x (m + 1) → St x zs rp ((m : Int) * rp) →
    Ev (fun k => minecontrollaw18_FeederChain.l1 k zi P ((m + 1 : Nat) : Int) ss zs rp x zs rp) true := by
  have hfew := h.few
  intro d
  induction d with
  | zero =>
    intro m x hm I S
    have : m = P.length := by omega
    subst this
    exact end_ev h z0 z1 hP I S
  | succ d ih =>
    intro m x hm I S
    have hml : m < P.length := by omega
    have hm32 : m ≤ 33 := by omega
    have hm33 : m + 1 ≤ 33 := by omega
    have hmd : m + 1 + d = P.length := by omega
    obtain ⟨p0, p1, -, -⟩ := h.at_ m hml
    have hw : ∀ j : Nat, j < x.length → (waitsB (rd_T32 x (j : Int)) = true ↔ (j : Int) = rd P (m : Int)) := by
      intro j hj
      rw [I.wait h (by rw [← I.len]; exact hj)]
      constructor
      · rintro ⟨q, q1, q2, e⟩
        have : q = m := Nat.succ.inj q2
        rw [← this]; exact e
      · intro e; exact ⟨m, hml, rfl, e⟩
    obtain ⟨I', e1, e2⟩ := tick_next h hml I S
    have B0 := mulb h.ok hm32
    have B1 := mulb h.ok hm33
    have lt : (m : Int) * rp ≤ ((m + 1 : Nat) : Int) * rp := by rw [mul_step]; exact Int.le_add_of_nonneg_right (Int.le_trans (by decide) h.ok.rp0)
    have u1 : ((m + 1 : Nat) : Int) * rp ≤ 2147483648 := Int.le_trans B1.2 (by decide)
    have S' := (S.later lt).tick' B1.1 u1
    have wT : wrap64 (((m + 1 : Nat) : Int) * rp) = ((m + 1 : Nat) : Int) * rp := w64 (Int.le_trans (by decide) B1.1) (Int.le_trans B1.2 (by decide))
    have hd := due_is S B0.1 B0.2 p0 (by rw [I.len]; exact p1) hw (by rw [I.up m hml (Nat.lt_succ_self m)])
    rw [← mul_step] at hd
    have tk := tick_ev S B1.1 u1 lt
    rw [e1, e2] at tk
    exact l1_step hml hfew wT hd tk (ih (m + 1) _ hmd I' S')
end

/-- All is told to be closed, and shows it, one switch after the other. -/
theorem l0_ev {x1 : Int} {ss zs : List _} {rp : Int} (hl : ss.length ≤ 32) (H : ∀ ys : List S32, ys.length = ss.length → (∀ j : Nat, j < ss.length → rd_T32 ys (j : Int) = clo (rd_T32 ss (j : Int))) → Ev (fun k => minecontrollaw18_FeederChain.l0 k x1 (ss.length : Int) (ss.length : Int) ys zs rp) true) :
    ∀ (d i : Nat) (xs : List S32), i + d = ss.length → xs.length = ss.length → (∀ j : Nat, j < ss.length → rd_T32 xs (j : Int) = if j < i then clo (rd_T32 ss (j : Int)) else rd_T32 ss (j : Int)) → Ev (fun k => minecontrollaw18_FeederChain.l0 k x1 (ss.length : Int) (i : Int) xs zs rp) true := by
  intro d
  induction d with
  | zero =>
    intro i xs hi lx hx
    have : i = ss.length := by omega
    subst this
    exact H xs lx (fun j hj => by rw [hx j hj, if_pos hj])
  | succ d ih =>
    intro i xs hi lx hx
    have w1 : wrap64 ((i : Int) + 1) = ((i + 1 : Nat) : Int) := by rw [w64 (by omega) (by omega)]; rfl
    refine Ev.step (fun k => ?_) (ih (i + 1) (xs.set i (clo (rd_T32 xs (i : Int)))) (by omega) (by rw [List.length_set]; exact lx) (fun j hj => ?_))
    · simp only [minecontrollaw18_FeederChain.l0]
      rw [if_pos (by omega), if_pos (by omega), if_pos (by omega)]
      simp only [Option.bind_some, Int.toNat_natCast]
      have e := rd32_set_eq (l := xs) (i := (i : Int)) (v := ⟨(rd_T32 xs (i : Int)).f0, (rd_T32 xs (i : Int)).f1, (rd_T32 xs (i : Int)).f2, true, (rd_T32 xs (i : Int)).f4⟩) (by omega) (by omega)
      rw [Int.toNat_natCast] at e
      rw [e, List.set_set, w1]; rfl
    · by_cases e : j = i
      · subst e
        have e := rd32_set_eq (l := xs) (i := (j : Int)) (v := clo (rd_T32 xs (j : Int))) (by omega) (by omega)
        rw [Int.toNat_natCast] at e
        rw [e, if_pos (by omega), hx j hj, if_neg (by omega)]
      · have e2 := rd32_set_ne (l := xs) (i := (i : Int)) (j := (j : Int)) (v := clo (rd_T32 xs (i : Int))) (by omega) (by omega) (by omega)
        rw [Int.toNat_natCast] at e2
        rw [e2, hx j hj]
        by_cases g : j < i
        · rw [if_pos g, if_pos (by omega)]
        · rw [if_neg g, if_neg (by omega)]

theorem FeederChain : minecontrollaw18_FeederChain.Pure := by
  intro l0 a1 _ _ hb _
  obtain ⟨l, hn, hc⟩ := new_ev hb
  obtain ⟨v, b1, e1, c1, v0, v1, -⟩ := next_ev hc 3 (by omega)
  have v1 := v1 (by omega)
  obtain ⟨z, hz⟩ : ∃ z : Nat, 1 + v = (z : Int) := ⟨(1 + v).toNat, by omega⟩
  obtain ⟨s0, zs, rp, b2, e2, c2, N⟩ := feeder_ev c1 z (by omega)
  have hfew := N.few; have hpos := N.pos; have hzl := N.zl; have hzle := N.zle
  have hO0 := net_ok N (by omega)
  obtain ⟨zi, hzi, z0, z1⟩ := mod_in a1 (zs.length : Int) (by omega) (by omega)
  apply Ev.rounds
  unfold minecontrollaw18_FeederChain.f
  simp only [hn, Option.bind_some]
  refine Ev.bind e1 ?_
  rw [w64 (by omega) (by omega), hz]
  refine Ev.bind e2 ?_
  show Ev (fun k => minecontrollaw18_FeederChain.l0 k a1 (s0.length : Int) ((0 : Nat) : Int) s0 zs rp) true
  refine l0_ev (by omega) (fun ss ls hs => ?_) s0.length 0 s0 (Nat.zero_add _) rfl (fun j hj => by rw [if_neg (by omega)])
  have hO : Ok ss zs rp := ⟨by omega, hO0.zfew, fun j hj => by
    rw [ls] at hj
    have b := sBad_zero.1 (hO0.sw j hj)
    have n := N.so j hj
    rw [hs j hj]
    exact sBad_zero.2 ⟨b.1, b.2.1, b.2.2.1, b.2.2.2.1, by show (-1 : Int) ≤ 1; omega, by show (1 : Int) ≤ 1; omega, fun g => by
      have g : (rd_T32 s0 (j : Int)).f4 = true := g
      rw [n.2.2.2.2.2] at g; exact absurd g (by simp)⟩, fun j hj => by rw [ls]; exact hO0.zo j hj, hO0.rp0, hO0.rp1⟩
  have hcl : ∀ j : Nat, j < ss.length → (rd_T32 ss (j : Int)).f1 = 0 ∧ (rd_T32 ss (j : Int)).f2 = 1 ∧ (rd_T32 ss (j : Int)).f3 = true ∧ (rd_T32 ss (j : Int)).f4 = false := by
    intro j hj
    rw [ls] at hj
    have n := N.so j hj
    rw [hs j hj]; exact ⟨n.2.2.1, rfl, rfl, n.2.2.2.2.2⟩
  obtain ⟨zn, rfl⟩ : ∃ zn : Nat, zi = (zn : Int) := ⟨zi.toNat, by omega⟩
  have hzo := hO.zo zn (by omega)
  have hpe : path ss zs rp (rd zs (zn : Int)) = up ss ss.length (rd zs (zn : Int)) := by unfold path; rw [if_pos (chk_zero.2 hO), if_pos hzo.1, if_pos hzo.2.1]
  obtain ⟨P, hP⟩ : ∃ P, P = up ss ss.length (rd zs (zn : Int)) := ⟨_, rfl⟩
  have hP1 : ∃ T, P = rd zs (zn : Int) :: T := by
    rw [hP, show ss.length = (ss.length - 1) + 1 from by omega]
    simp only [Com.up]
    rw [if_neg (by omega)]
    exact ⟨_, rfl⟩
  obtain ⟨T, hT⟩ := hP1
  have hh : Ch ss zs rp P := ⟨hO, hcl, by rw [hT]; simp, by rw [hP]; exact Nat.le_trans (up_len _ _) (by omega), fun q hq => by rw [hP] at hq ⊢; exact up_step hO ss.length _ hzo.2.1 hzo.2.1 q hq⟩
  have rd0 : rd P ((0 : Nat) : Int) = rd zs (zn : Int) := by rw [hT]; unfold rd; simp
  have S0 : St ss zs rp 0 := ⟨hO, fun j hj => by rw [(hcl j hj).1]; omega⟩
  obtain ⟨u, hu⟩ : ∃ u : Nat, rd zs (zn : Int) = (u : Int) := ⟨(rd zs (zn : Int)).toNat, by omega⟩
  have cu := hcl u (by omega)
  have hop : openS ss (u : Int) 0 = (true, ss.set u ⟨(rd_T32 ss (u : Int)).f0, 0, 0, false, false⟩) := by
    unfold openS; rw [if_pos cu.2.2.1, Int.toNat_natCast]
  have hX := S0.open (s := (u : Int)) (by omega) (by omega) (by omega) (by omega)
  rw [hop] at hX
  have cx : cn ss zs rp (u : Int) 0 = 0 := cn_zero.2 ⟨hO, by omega, by omega, S0.tim (by omega) (by omega) (Int.le_refl _)⟩
  have o1 := open_ev ss zs rp (u : Int) 0
  unfold openR at o1; rw [if_pos cx, hop] at o1
  have I : Inv ss zs rp P (ss.set u ⟨(rd_T32 ss (u : Int)).f0, 0, 0, false, false⟩) 1 := by
    have seteq := rd32_set_eq (l := ss) (i := (u : Int)) (v := ⟨(rd_T32 ss (u : Int)).f0, 0, 0, false, false⟩) (by omega) (by omega)
    rw [Int.toNat_natCast] at seteq
    refine ⟨List.length_set .., fun q q1 q2 => ?_, fun j hj hno => ?_⟩
    · have : q = 0 := by omega
      subst this
      rw [rd0, hu, seteq]; simp
    · have ne : (j : Int) ≠ (u : Int) := by rw [← hu, ← rd0]; exact hno 0 (by have := hh.pos; omega) (by omega)
      have := rd32_set_ne (l := ss) (i := (u : Int)) (j := (j : Int)) (v := ⟨(rd_T32 ss (u : Int)).f0, 0, 0, false, false⟩) (by omega) (by omega) ne
      rwa [Int.toNat_natCast] at this
  have L := l1_ev hh (zi := (zn : Int)) (by omega) z1 hP P.length 0 _ (Nat.zero_add _) I (by rw [show ((0 : Nat) : Int) * rp = 0 from by simp]; exact hX)
  have hpp := p_path ss zs rp (rd zs (zn : Int))
  rw [hpe, ← hP] at hpp
  rw [hu] at hpp
  have hne : ((P.length : Int) == 0) = false := beq_eq_false_iff_ne.2 (by have := hh.pos; omega)
  refine Ev.step (fun k => by simp only [minecontrollaw18_FeederChain.l0]; rw [if_neg (by omega), hzi]; simp only [Option.bind_some]; rw [if_pos z0, if_pos z1, hu]) (Ev.bind hpp (Ev.bind o1 ?_))
  simp only [if_true, hne]
  exact Ev.step (fun k => by simp only [minecontrollaw18_FeederChain.j1]; rw [if_neg (by simp)]; rfl) L
end Go.Proofs.Ytcgeflbifbaecaa.Pure
