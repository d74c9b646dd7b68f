/- What a tick comes to. -/
import Derived.Test.YtcgeflbifbaecaaComGh
import Derived.Test.YtcgeflbifbaecaaComWh
import Derived.Test.YtcgeflbifbaecaaPFehx6
namespace Go.Proofs.Ytcgeflbifbaecaa.Com
open Go.RowKit Go.Proofs.Ytcgeflbifbaecaa.PFeh Go.Proofs.YtcgeflbifbaecaaW.PrintWords Go.Proofs.YtcgeflbifbaecaaW.PrintLast Go.Proofs.YtcgeflbifbaecaaW.PrintMore

/-- Whether a switch has not opened in time. -/
def fire (s : S32) (t rp : Int) : Bool := if waitsB s = true then !(decide (t - s.f1 < rp)) else false
/-- A switch that is late. -/
def lateS (s : S32) : S32 := ⟨s.f0, s.f1, s.f2, s.f3, true⟩
/-- The i switches that are left, from the highest down. -/
def tickF (t rp : Int) : Nat → List S32 → List Int → List Int → List S32 × List Int × List Int
  | 0, ss, l, o => (ss, l, o)
  | i + 1, ss, l, o =>
    if fire (rd_T32 ss (i : Int)) t rp = true then
      (if (rd_T32 ss (i : Int)).f0 ≥ 0 then
        tickF t rp i (openS (ss.set i (lateS (rd_T32 ss (i : Int)))) (rd_T32 ss (i : Int)).f0 t).2 (l ++ [(i : Int)])
          (if (openS (ss.set i (lateS (rd_T32 ss (i : Int)))) (rd_T32 ss (i : Int)).f0 t).1 = true then o ++ [(rd_T32 ss (i : Int)).f0] else o)
        else tickF t rp i (ss.set i (lateS (rd_T32 ss (i : Int)))) (l ++ [(i : Int)]) o)
    else tickF t rp i ss l o

theorem waits_is {s : S32} : waitsB s = true ↔ s.f3 = false ∧ s.f2 ≠ -1 ∧ s.f4 = false := by
  unfold waitsB
  by_cases h1 : s.f3 = true
  · rw [if_pos h1]; exact ⟨fun h => by simp at h, fun h => by rw [h1] at h; simp at h⟩
  · rw [if_neg h1]
    by_cases h2 : s.f2 = -1
    · rw [if_pos h2]; exact ⟨fun h => by simp at h, fun h => absurd h2 h.2.1⟩
    · rw [if_neg h2]; exact ⟨fun h => ⟨by simpa using h1, h2, by simpa using h⟩, fun h => by simpa using h.2.2⟩
theorem fire_is {s : S32} {t rp : Int} : fire s t rp = true ↔ waitsB s = true ∧ rp ≤ t - s.f1 := by
  unfold fire
  by_cases h : waitsB s = true
  · rw [if_pos h]; simp [h]
  · rw [if_neg h]; simp [h]
theorem openS_ne {ss : List S32} {s t j : Int} (s0 : 0 ≤ s) (j0 : 0 ≤ j) (h : j ≠ s) : rd_T32 (openS ss s t).2 j = rd_T32 ss j := by
  unfold openS; split
  · exact rd32_set_ne s0 j0 h
  · rfl
theorem St.late {ss : List S32} {zs : List Int} {rp t : Int} (h : St ss zs rp t) {i : Nat} (hi : i < ss.length) {u : Int} (hf : fire (rd_T32 ss (i : Int)) u rp = true) : St (ss.set i (lateS (rd_T32 ss (i : Int)))) zs rp t := by
  have hw := waits_is.1 (fire_is.1 hf).1
  have hb := sBad_zero.1 (h.bad (s := (i : Int)) (by omega) (by omega))
  have := h.set (s := (i : Int)) (by omega) (by omega) (x := lateS (rd_T32 ss (i : Int))) (sBad_zero.2 ⟨hb.1, hb.2.1, hb.2.2.1, hb.2.2.2.1, hb.2.2.2.2.1, hb.2.2.2.2.2.1, fun _ => ⟨hw.1, hw.2.1⟩⟩) (h.2 i hi)
  rwa [Int.toNat_natCast] at this
theorem St.above {ss : List S32} {zs : List Int} {rp t : Int} (h : St ss zs rp t) {i : Nat} (hi : i < ss.length) : -1 ≤ (rd_T32 ss (i : Int)).f0 ∧ (rd_T32 ss (i : Int)).f0 < i := by
  have hb := sBad_zero.1 (h.bad (s := (i : Int)) (by omega) (by omega))
  exact ⟨hb.1, hb.2.1⟩

theorem tick_l0 {ss0 : List S32} {zs0 zs : List Int} {rp t : Int} (t0 : 0 ≤ t) (t1 : t ≤ 2147483648) : ∀ (i : Nat) (ss : List S32) (l o : List Int), St ss zs rp t → i ≤ ss.length → l.length + i ≤ 1000 → o.length + i ≤ 1000 →
    Ev (fun k => feeder_Tick.l0 k t l o ((i : Int) - 1) ss0 zs0 rp ss zs rp) ((tickF t rp i ss l o).1, zs, rp, (tickF t rp i ss l o).2.1, (tickF t rp i ss l o).2.2, 0) := by
  intro i
  induction i with
  | zero =>
    intro ss l o _ _ _ _
    exact Ev.step (f := fun _ => some (ss, zs, rp, l, o, 0)) (fun k => by simp only [feeder_Tick.l0]; rw [if_neg (by omega)]) (Ev.now _)
  | succ i ih =>
    intro ss l o h hi hl ho
    have e1 : ((i + 1 : Nat) : Int) - 1 = (i : Int) := by omega
    have w1 : wrap64 ((i : Int) - 1) = (i : Int) - 1 := w64 (by have := h.1.few; omega) (by have := h.1.few; omega)
    have hb := sBad_zero.1 (h.bad (s := (i : Int)) (by omega) (by omega))
    have w2 : wrap64 (t - (rd_T32 ss (i : Int)).f1) = t - (rd_T32 ss (i : Int)).f1 := w64 (by omega) (by omega)
    rw [e1]
    simp only [tickF]
    have skip : fire (rd_T32 ss (i : Int)) t rp = false → Ev (fun k => feeder_Tick.j1 k t l o (i : Int) true ss0 zs0 rp ss zs rp) ((tickF t rp i ss l o).1, zs, rp, (tickF t rp i ss l o).2.1, (tickF t rp i ss l o).2.2, 0) := by
      intro _
      refine Ev.step (fun k => ?_) (ih ss l o h (by omega) (by omega) (by omega))
      simp only [feeder_Tick.j1, if_true]
      rw [w1]
    by_cases hw : waitsB (rd_T32 ss (i : Int)) = true
    · by_cases hd : t - (rd_T32 ss (i : Int)).f1 < rp
      · have hf : fire (rd_T32 ss (i : Int)) t rp = false := by
          cases hc : fire (rd_T32 ss (i : Int)) t rp with
          | false => rfl
          | true => have := (fire_is.1 hc).2; omega
        rw [hf]; simp only [Bool.false_eq_true, if_false]
        refine Ev.step (fun k => ?_) (skip hf)
        simp only [feeder_Tick.l0]
        rw [if_pos (by omega), if_pos (by omega), if_pos (by omega), waits_ev]
        simp only [Option.bind_some]
        rw [if_pos hw, w2, decide_eq_true hd]
      · have hf : fire (rd_T32 ss (i : Int)) t rp = true := fire_is.2 ⟨hw, by omega⟩
        rw [if_pos hf]
        have hS := h.late hi hf
        have hu := h.above (i := i) (by omega)
        have rdl : rd_T32 (ss.set i (lateS (rd_T32 ss (i : Int)))) (i : Int) = lateS (rd_T32 ss (i : Int)) := by
          have := rd32_set_eq (l := ss) (i := (i : Int)) (v := lateS (rd_T32 ss (i : Int))) (by omega) (by omega)
          rwa [Int.toNat_natCast] at this
        have f0l : (lateS (rd_T32 ss (i : Int))).f0 = (rd_T32 ss (i : Int)).f0 := rfl
        have base : ∀ r, Ev (fun k => feeder_Tick.j1 k t l o (i : Int) false ss0 zs0 rp ss zs rp) r → Ev (fun k => feeder_Tick.l0 k t l o (i : Int) ss0 zs0 rp ss zs rp) r := fun r hh => by
          refine Ev.step (fun k => ?_) hh
          simp only [feeder_Tick.l0]
          rw [if_pos (by omega), if_pos (by omega), if_pos (by omega), waits_ev]
          simp only [Option.bind_some]
          rw [if_pos hw, w2, decide_eq_false hd]
        refine base _ ?_
        by_cases ha : (rd_T32 ss (i : Int)).f0 ≥ 0
        · rw [if_pos ha]
          have hO := hS.open (s := (rd_T32 ss (i : Int)).f0) ha (by rw [List.length_set]; omega) t0 t1
          have lO : (openS (ss.set i (lateS (rd_T32 ss (i : Int)))) (rd_T32 ss (i : Int)).f0 t).2.length = ss.length := by rw [openS_len, List.length_set]
          have rdo : rd_T32 (openS (ss.set i (lateS (rd_T32 ss (i : Int)))) (rd_T32 ss (i : Int)).f0 t).2 (i : Int) = lateS (rd_T32 ss (i : Int)) := by
            rw [openS_ne ha (by omega) (by omega), rdl]
          by_cases hc : (openS (ss.set i (lateS (rd_T32 ss (i : Int)))) (rd_T32 ss (i : Int)).f0 t).1 = true
          · rw [if_pos hc]
            refine Ev.step (fun k => ?_) (ih _ (l ++ [(i : Int)]) (o ++ [(rd_T32 ss (i : Int)).f0]) hO (by omega) (by simp; omega) (by simp; omega))
            simp only [feeder_Tick.j1, Bool.false_eq_true, if_false]
            rw [if_pos (by omega), if_pos (by omega)]
            simp only [Option.bind_some, Int.toNat_natCast]
            rw [if_pos (by omega), show (⟨(rd_T32 ss (i : Int)).f0, (rd_T32 ss (i : Int)).f1, (rd_T32 ss (i : Int)).f2, (rd_T32 ss (i : Int)).f3, true⟩ : S32) = lateS (rd_T32 ss (i : Int)) from rfl, rdl, f0l, if_pos ha, open_f ha (by rw [List.length_set]; omega)]
            simp only [Option.bind_some]
            rw [if_pos hc, if_pos (by omega), rdo, f0l, w1]
          · rw [if_neg hc]
            refine Ev.step (fun k => ?_) (ih _ (l ++ [(i : Int)]) o hO (by omega) (by simp; omega) (by omega))
            simp only [feeder_Tick.j1, Bool.false_eq_true, if_false]
            rw [if_pos (by omega), if_pos (by omega)]
            simp only [Option.bind_some, Int.toNat_natCast]
            rw [if_pos (by omega), show (⟨(rd_T32 ss (i : Int)).f0, (rd_T32 ss (i : Int)).f1, (rd_T32 ss (i : Int)).f2, (rd_T32 ss (i : Int)).f3, true⟩ : S32) = lateS (rd_T32 ss (i : Int)) from rfl, rdl, f0l, if_pos ha, open_f ha (by rw [List.length_set]; omega)]
            simp only [Option.bind_some]
            rw [if_neg hc, w1]
        · rw [if_neg ha]
          refine Ev.step (fun k => ?_) (ih _ (l ++ [(i : Int)]) o hS (by rw [List.length_set]; omega) (by simp; omega) (by omega))
          simp only [feeder_Tick.j1, Bool.false_eq_true, if_false]
          rw [if_pos (by omega), if_pos (by omega)]
          simp only [Option.bind_some, Int.toNat_natCast]
          rw [if_pos (by omega), show (⟨(rd_T32 ss (i : Int)).f0, (rd_T32 ss (i : Int)).f1, (rd_T32 ss (i : Int)).f2, (rd_T32 ss (i : Int)).f3, true⟩ : S32) = lateS (rd_T32 ss (i : Int)) from rfl, rdl, f0l, if_neg ha, w1]
    · have hf : fire (rd_T32 ss (i : Int)) t rp = false := by
        cases hc : fire (rd_T32 ss (i : Int)) t rp with
        | false => rfl
        | true => exact absurd (fire_is.1 hc).1 hw
      rw [hf]; simp only [Bool.false_eq_true, if_false]
      refine Ev.step (fun k => ?_) (skip hf)
      simp only [feeder_Tick.l0]
      rw [if_pos (by omega), if_pos (by omega), if_pos (by omega), waits_ev]
      simp only [Option.bind_some]
      rw [if_neg hw]

/-- What a tick does to the switches. -/
def tickS (ss : List S32) (t rp : Int) : List S32 × List Int × List Int := tickF t rp ss.length ss [] []
theorem tick_ev {ss : List S32} {zs : List Int} {rp t u : Int} (h : St ss zs rp t) (u0 : 0 ≤ u) (u1 : u ≤ 2147483648) (hu : t ≤ u) : Ev (fun k => feeder_Tick.f k ss zs rp u) ((tickS ss u rp).1, zs, rp, (tickS ss u rp).2.1, (tickS ss u rp).2.2, 0) := by
  unfold feeder_Tick.f
  refine Ev.bind (pcheck ss zs rp) ?_
  rw [chk_zero.2 h.1]
  simp only [if_true]
  refine Ev.bind (timely_ev h.1.few zs rp u) ?_
  rw [h.tim u0 u1 hu]
  simp only [if_true, clone_ev h.1.few h.1.zfew, Option.bind_some]
  rw [w64 (by have := h.1.few; omega) (by have := h.1.few; omega)]
  have hf := h.1.few
  exact tick_l0 u0 u1 ss.length ss [] [] (h.later hu) (Nat.le_refl _) (by simp; omega) (by simp; omega)

theorem tickF_in {zs : List Int} {t rp : Int} (t0 : 0 ≤ t) (t1 : t ≤ 2147483648) : ∀ (i : Nat) (ss : List S32) (l o : List Int), St ss zs rp t → i ≤ ss.length → St (tickF t rp i ss l o).1 zs rp t ∧ (tickF t rp i ss l o).1.length = ss.length ∧ ∀ j : Nat, i ≤ j → rd_T32 (tickF t rp i ss l o).1 (j : Int) = rd_T32 ss (j : Int) := by
  intro i
  induction i with
  | zero => intro ss l o h _; exact ⟨h, rfl, fun _ _ => rfl⟩
  | succ i ih =>
    intro ss l o h hi
    simp only [tickF]
    by_cases hf : fire (rd_T32 ss (i : Int)) t rp = true
    · rw [if_pos hf]
      have hS := h.late hi hf
      have hu := h.above (i := i) (by omega)
      have setne : ∀ j : Nat, i + 1 ≤ j → rd_T32 (ss.set i (lateS (rd_T32 ss (i : Int)))) (j : Int) = rd_T32 ss (j : Int) := by
        intro j hj
        have := rd32_set_ne (l := ss) (i := (i : Int)) (j := (j : Int)) (v := lateS (rd_T32 ss (i : Int))) (by omega) (by omega) (by omega)
        rwa [Int.toNat_natCast] at this
      by_cases ha : (rd_T32 ss (i : Int)).f0 ≥ 0
      · rw [if_pos ha]
        have hO := hS.open (s := (rd_T32 ss (i : Int)).f0) ha (by rw [List.length_set]; omega) t0 t1
        have lO : (openS (ss.set i (lateS (rd_T32 ss (i : Int)))) (rd_T32 ss (i : Int)).f0 t).2.length = ss.length := by rw [openS_len, List.length_set]
        obtain ⟨a, b, c⟩ := ih _ (l ++ [(i : Int)]) (if (openS (ss.set i (lateS (rd_T32 ss (i : Int)))) (rd_T32 ss (i : Int)).f0 t).1 = true then o ++ [(rd_T32 ss (i : Int)).f0] else o) hO (by omega)
        exact ⟨a, b.trans lO, fun j hj => by rw [c j (by omega), openS_ne ha (by omega) (by omega), setne j hj]⟩
      · rw [if_neg ha]
        obtain ⟨a, b, c⟩ := ih _ (l ++ [(i : Int)]) o hS (by rw [List.length_set]; omega)
        exact ⟨a, b.trans (List.length_set ..), fun j hj => by rw [c j (by omega), setne j hj]⟩
    · rw [if_neg hf]
      obtain ⟨a, b, c⟩ := ih ss l o h (by omega)
      exact ⟨a, b, fun j hj => c j (by omega)⟩
theorem tickF_none {t rp : Int} : ∀ (i : Nat) (ss : List S32) (l o : List Int), (∀ j : Nat, j < i → fire (rd_T32 ss (j : Int)) t rp = false) → tickF t rp i ss l o = (ss, l, o) := by
  intro i
  induction i with
  | zero => intro ss l o _; rfl
  | succ i ih =>
    intro ss l o h
    simp only [tickF]
    rw [if_neg (by rw [h i (by omega)]; simp), ih ss l o (fun j hj => h j (by omega))]
theorem tickF_some {zs : List Int} {t rp : Int} (t0 : 0 ≤ t) (t1 : t ≤ 2147483648) : ∀ (i : Nat) (ss : List S32) (l o : List Int), St ss zs rp t → i ≤ ss.length → (∃ j : Nat, j < i ∧ fire (rd_T32 ss (j : Int)) t rp = true) →
    ∃ j : Nat, j < i ∧ (rd_T32 ss (j : Int)).f4 = false ∧ (rd_T32 (tickF t rp i ss l o).1 (j : Int)).f4 = true := by
  intro i
  induction i with
  | zero => intro ss l o _ _ ⟨j, hj, _⟩; omega
  | succ i ih =>
    intro ss l o h hi ⟨j, hj, hf⟩
    simp only [tickF]
    by_cases hfi : fire (rd_T32 ss (i : Int)) t rp = true
    · rw [if_pos hfi]
      refine ⟨i, by omega, (waits_is.1 (fire_is.1 hfi).1).2.2, ?_⟩
      have hS := h.late hi hfi
      have hu := h.above (i := i) (by omega)
      have rdl : rd_T32 (ss.set i (lateS (rd_T32 ss (i : Int)))) (i : Int) = lateS (rd_T32 ss (i : Int)) := by
        have := rd32_set_eq (l := ss) (i := (i : Int)) (v := lateS (rd_T32 ss (i : Int))) (by omega) (by omega)
        rwa [Int.toNat_natCast] at this
      by_cases ha : (rd_T32 ss (i : Int)).f0 ≥ 0
      · rw [if_pos ha]
        have hO := hS.open (s := (rd_T32 ss (i : Int)).f0) ha (by rw [List.length_set]; omega) t0 t1
        have lO : (openS (ss.set i (lateS (rd_T32 ss (i : Int)))) (rd_T32 ss (i : Int)).f0 t).2.length = ss.length := by rw [openS_len, List.length_set]
        rw [(tickF_in t0 t1 i _ _ _ hO (by omega)).2.2 i (Nat.le_refl _), openS_ne ha (by omega) (by omega), rdl]; rfl
      · rw [if_neg ha, (tickF_in t0 t1 i _ _ _ hS (by rw [List.length_set]; omega)).2.2 i (Nat.le_refl _), rdl]; rfl
    · rw [if_neg hfi]
      obtain ⟨j', a, b, c⟩ := ih ss l o h (by omega) ⟨j, by
        by_cases e : j = i
        · subst e; exact absurd hf hfi
        · omega, hf⟩
      exact ⟨j', by omega, b, c⟩
end Go.Proofs.Ytcgeflbifbaecaa.Com
