/- The choices of minecontroldraw come to their answers, and each answer lies within its bounds: for any bytes as choices. -/
import Derived.Test.YtmlkchkhgjebgaaPDoox7
namespace Go.Proofs.Ytmlkchkhgjebgaa.Com
open Go.RowKit Go.Proofs.Ytmlkchkhgjebgaa.PDoo Go.Proofs.YtmlkchkhgjebgaaW.PrintWords Go.Proofs.YtmlkchkhgjebgaaW.PrintLast Go.Proofs.YtmlkchkhgjebgaaW.PrintMore

theorem w64 {n : Int} (h : -9223372036854775808 ≤ n) (h' : n ≤ 9223372036854775807) : wrap64 n = n := by
  unfold wrap64; omega

/-- At most 300 bytes, and a place in them. -/
structure C (l : List Int) (a : Int) : Prop where
  len : l.length ≤ 300
  b : ∀ x ∈ l, 0 ≤ x ∧ x ≤ 255
  lo : 0 ≤ a
  hi : a ≤ l.length

theorem rd_mem {l : List Int} {i : Int} (h0 : 0 ≤ i) (h1 : i < l.length) : rd l i ∈ l := by
  unfold rd
  have h : i.toNat < l.length := by omega
  rw [List.getD_eq_getElem?_getD, List.getElem?_eq_getElem h]
  exact List.getElem_mem h

theorem C.at {l : List Int} {a : Int} (h : C l a) {i : Int} (h0 : 0 ≤ i) (h1 : i < l.length) : 0 ≤ rd l i ∧ rd l i ≤ 255 := h.b _ (rd_mem h0 h1)

theorem wf_u8 {x : Int} (h : (Lit.int .u8 x).wf = true) : 0 ≤ x ∧ x ≤ 255 := by
  simp [Lit.wf, IntKind.min, IntKind.max, IntKind.bits, IntKind.signed] at h
  omega

theorem new_ev {l : List Int} (h : ∀ x ∈ l, (Lit.int .u8 x).wf = true) : ∃ l', minecontroldraw_New.f l = some (l', 0) ∧ C l' 0 := by
  have hm : mn (l.length : Int) 300 ≤ l.length ∧ mn (l.length : Int) 300 ≤ 300 ∧ 0 ≤ mn (l.length : Int) 300 := by unfold mn; split <;> omega
  refine ⟨l.take (mn (l.length : Int) 300).toNat, ?_, ?_⟩
  · unfold minecontroldraw_New.f
    rw [if_pos hm.2.2, if_pos hm.1]
  · refine ⟨?_, ?_, by omega, by omega⟩
    · rw [List.length_take]; omega
    · intro x hx
      exact wf_u8 (h x (List.mem_of_mem_take hx))

theorem next_ev {l : List Int} {a : Int} (h : C l a) (n : Int) (hn : n ≤ 1000000) : ∃ v a', Ev (fun k => minecontroldraw_Codes_Next.f k l a n) (v, a') ∧ C l a' ∧ 0 ≤ v ∧ (1 ≤ n → v < n) ∧ (n < 1 → v = 0) := by
  have hl := h.len; have h0 := h.lo; have h1 := h.hi
  by_cases hn1 : n < 1
  · refine ⟨0, a, ⟨1, fun k hk => ?_⟩, h, by omega, by omega, by omega⟩
    obtain ⟨k, rfl⟩ : ∃ m, k = m + 1 := ⟨k - 1, by omega⟩
    show minecontroldraw_Codes_Next.f (k + 1) l a n = _
    unfold minecontroldraw_Codes_Next.f
    rw [if_pos hn1]; simp only [minecontroldraw_Codes_Next.j0, if_true]
  by_cases hge : a ≥ (l.length : Int)
  · refine ⟨0, a, ⟨1, fun k hk => ?_⟩, h, by omega, by omega, by omega⟩
    obtain ⟨k, rfl⟩ : ∃ m, k = m + 1 := ⟨k - 1, by omega⟩
    show minecontroldraw_Codes_Next.f (k + 1) l a n = _
    unfold minecontroldraw_Codes_Next.f
    rw [if_neg hn1, decide_eq_true hge]; simp only [minecontroldraw_Codes_Next.j0, if_true]
  have e1 : wrap64 (a + 1) = a + 1 := w64 (by omega) (by omega)
  have e2 : wrap64 (a + 1 - 1) = a := by rw [w64 (by omega) (by omega)]; omega
  have hb := h.at (i := a) h0 (by omega)
  by_cases h256 : n > 256
  · by_cases hlt : a + 1 < (l.length : Int)
    · have hb2 := h.at (i := a + 1) (by omega) (by omega)
      have e3 : wrap64 (wrap64 (wrap64 (rd l a) * 256) + wrap64 (rd l (a + 1))) = rd l a * 256 + rd l (a + 1) := by
        rw [w64 (n := rd l a) (by omega) (by omega), w64 (n := rd l a * 256) (by omega) (by omega), w64 (n := rd l (a + 1)) (by omega) (by omega), w64 (by omega) (by omega)]
      refine ⟨Int.tmod (rd l a * 256 + rd l (a + 1)) n, a + 2, ⟨1, fun k hk => ?_⟩, ⟨hl, h.b, by omega, by omega⟩, Int.tmod_nonneg _ (by omega), fun _ => Int.tmod_lt_of_pos _ (by omega), by omega⟩
      obtain ⟨k, rfl⟩ : ∃ m, k = m + 1 := ⟨k - 1, by omega⟩
      show minecontroldraw_Codes_Next.f (k + 1) l a n = _
      unfold minecontroldraw_Codes_Next.f
      rw [if_neg hn1, decide_eq_false hge]; simp only [minecontroldraw_Codes_Next.j0, Bool.false_eq_true, if_false]
      rw [e1, e2, if_pos h0, if_pos (by omega), if_pos h256, if_pos hlt, if_pos (by omega), if_neg (by omega), e3, w64 (n := a + 1 + 1) (by omega) (by omega)]
      rw [show a + 1 + 1 = a + 2 from by omega]
    · refine ⟨Int.tmod (rd l a) n, a + 1, ⟨1, fun k hk => ?_⟩, ⟨hl, h.b, by omega, by omega⟩, Int.tmod_nonneg _ (by omega), fun _ => Int.tmod_lt_of_pos _ (by omega), by omega⟩
      obtain ⟨k, rfl⟩ : ∃ m, k = m + 1 := ⟨k - 1, by omega⟩
      show minecontroldraw_Codes_Next.f (k + 1) l a n = _
      unfold minecontroldraw_Codes_Next.f
      rw [if_neg hn1, decide_eq_false hge]; simp only [minecontroldraw_Codes_Next.j0, Bool.false_eq_true, if_false]
      rw [e1, e2, if_pos h0, if_pos (by omega), if_pos h256, if_neg hlt, if_neg (by omega), w64 (n := rd l a) (by omega) (by omega)]
  · refine ⟨Int.tmod (rd l a) n, a + 1, ⟨1, fun k hk => ?_⟩, ⟨hl, h.b, by omega, by omega⟩, Int.tmod_nonneg _ (by omega), fun _ => Int.tmod_lt_of_pos _ (by omega), by omega⟩
    obtain ⟨k, rfl⟩ : ∃ m, k = m + 1 := ⟨k - 1, by omega⟩
    show minecontroldraw_Codes_Next.f (k + 1) l a n = _
    unfold minecontroldraw_Codes_Next.f
    rw [if_neg hn1, decide_eq_false hge]; simp only [minecontroldraw_Codes_Next.j0, Bool.false_eq_true, if_false]
    rw [e1, e2, if_pos h0, if_pos (by omega), if_neg h256, if_neg (by omega), w64 (n := rd l a) (by omega) (by omega)]

theorem one_ev {l : List Int} {a : Int} (h : C l a) (n : Int) (h0 : 1 ≤ n) (h1 : n ≤ 1000) : ∃ b a', Ev (fun k => minecontroldraw_Codes_One.f k l a n) (b, a') ∧ C l a' := by
  obtain ⟨v, a', ⟨K, e⟩, hc, -, -, -⟩ := next_ev h n (by omega)
  refine ⟨(v == wrap64 (n - 1)), a', ⟨K, fun k hk => ?_⟩, hc⟩
  have f := e k hk
  dsimp only at f
  show minecontroldraw_Codes_One.f k l a n = _
  unfold minecontroldraw_Codes_One.f
  rw [f]; rfl

theorem range_ev {l : List Int} {a : Int} (h : C l a) (lo hi : Int) (h0 : -1000000 ≤ lo) (h1 : lo ≤ hi) (h2 : hi ≤ 900000) (h3 : hi - lo ≤ 900000) : ∃ v a', Ev (fun k => minecontroldraw_Codes_Range.f k l a lo hi) (v, a') ∧ C l a' ∧ lo ≤ v ∧ v ≤ hi := by
  obtain ⟨v, a', ⟨K, e⟩, hc, v0, v1, -⟩ := next_ev h (hi - lo + 1) (by omega)
  have v1 := v1 (by omega)
  refine ⟨lo + v, a', ⟨K, fun k hk => ?_⟩, hc, by omega, by omega⟩
  have f := e k hk
  dsimp only at f
  show minecontroldraw_Codes_Range.f k l a lo hi = _
  unfold minecontroldraw_Codes_Range.f
  rw [w64 (n := hi - lo) (by omega) (by omega), w64 (n := hi - lo + 1) (by omega) (by omega), f]
  simp only [Option.bind_some]
  rw [w64 (by omega) (by omega)]

theorem mod_in (k n : Int) (h : 1 ≤ n) (hn : n ≤ 1000000) : ∃ r, minecontroldraw_Mod.f k n = some r ∧ 0 ≤ r ∧ r < n := by
  have h1 := Int.tmod_lt_of_pos k (show 0 < n by omega)
  have h2 : -n < Int.tmod k n := by
    rcases Int.le_total 0 k with hk | hk
    · have := Int.tmod_nonneg n hk; omega
    · have := Int.tmod_lt_of_pos (-k) (show 0 < n by omega)
      rw [Int.neg_tmod] at this; omega
  unfold minecontroldraw_Mod.f
  rw [if_neg (by omega), if_neg (by omega)]
  by_cases hr : Int.tmod k n < 0
  · rw [if_pos hr, w64 (by omega) (by omega)]
    exact ⟨_, rfl, by omega, by omega⟩
  · rw [if_neg hr]
    exact ⟨_, rfl, by omega, by omega⟩

theorem door_from {l : List Int} {rd0 ot : Int} : ∀ (n : Nat) (rs : List Int) (a : Int), C l a → 1 ≤ rs.length → rs.length + n ≤ 1000 →
    ∃ rs' a', Ev (fun k => minecontroldraw_Codes_Door.l0 k (n : Int) l a rd0 ot rs) (rd0, ot, rs', a') ∧ C l a' ∧ rs'.length = rs.length + n := by
  intro n
  induction n with
  | zero =>
    intro rs a hc _ _
    refine ⟨rs, a, Ev.step (f := fun _ => some (rd0, ot, rs, a)) (fun k => ?_) (Ev.now _), hc, by omega⟩
    simp only [minecontroldraw_Codes_Door.l0]
    rw [if_neg (by omega)]
  | succ n ih =>
    intro rs a hc h1 h2
    obtain ⟨v, a1, ⟨K1, e1⟩, c1, v0, v1⟩ := range_ev hc 1 60 (by omega) (by omega) (by omega) (by omega)
    obtain ⟨rs', a', ⟨K2, e2⟩, c2, hl⟩ := ih (rs ++ [mx 0 (wrap64 (rd rs ((rs.length : Int) - 1) - v))]) a1 c1 (by simp) (by simp; omega)
    refine ⟨rs', a', ⟨K1 + K2 + 1, fun q hq => ?_⟩, c2, by rw [hl]; simp; omega⟩
    obtain ⟨m, rfl⟩ : ∃ m, q = m + 1 := ⟨q - 1, by omega⟩
    have f1 := e1 m (by omega); have f2 := e2 m (by omega)
    dsimp only at f1 f2
    simp only [minecontroldraw_Codes_Door.l0]
    rw [if_pos (by omega), w64 (n := (rs.length : Int) - 1) (by omega) (by omega), if_pos (by omega), if_pos (by omega), f1]; simp only [Option.bind_some]
    rw [if_pos (by omega), w64 (n := ((n + 1 : Nat) : Int) - 1) (by omega) (by omega), show ((n + 1 : Nat) : Int) - 1 = (n : Int) by omega]
    exact f2

theorem door_ev {l : List Int} {a : Int} (h : C l a) (road : Int) : ∃ rs a', Ev (fun k => minecontroldraw_Codes_Door.f k l a road) (road, -1, rs, a') ∧ C l a' ∧ 2 ≤ rs.length ∧ rs.length ≤ 4 := by
  obtain ⟨v, a1, ⟨K1, e1⟩, c1, v0, v1⟩ := range_ev h 200 900 (by omega) (by omega) (by omega) (by omega)
  obtain ⟨n, a2, ⟨K2, e2⟩, c2, n0, n1⟩ := range_ev c1 1 3 (by omega) (by omega) (by omega) (by omega)
  obtain ⟨m, rfl⟩ : ∃ m : Nat, n = (m : Int) := ⟨n.toNat, by omega⟩
  obtain ⟨rs, a', ⟨K3, e3⟩, c3, hl⟩ := door_from (l := l) (rd0 := road) (ot := -1) m [v] a2 c2 (by simp) (by simp; omega)
  simp only [List.length_cons, List.length_nil] at hl
  refine ⟨rs, a', ⟨K1 + K2 + K3, fun k hk => ?_⟩, c3, by omega, by omega⟩
  have f1 := e1 k (by omega); have f2 := e2 k (by omega); have f3 := e3 k (by omega)
  dsimp only at f1 f2 f3
  show minecontroldraw_Codes_Door.f k l a road = _
  unfold minecontroldraw_Codes_Door.f
  rw [f1]; simp only [Option.bind_some]
  rw [f2]; simp only [Option.bind_some]
  exact f3

theorem double_ev {l : List Int} {a : Int} (h : C l a) (first r0 r1 : Int) : ∃ x y a', Ev (fun k => minecontroldraw_Codes_DoubleDoor.f k l a first r0 r1) ([x, y], a') ∧ C l a' ∧ 2 ≤ x.f2.length ∧ x.f2.length ≤ 4 ∧ 2 ≤ y.f2.length ∧ y.f2.length ≤ 4 := by
  obtain ⟨rs, a1, ⟨K1, e1⟩, c1, l0, l1⟩ := door_ev h r0
  obtain ⟨ss, a2, ⟨K2, e2⟩, c2, m0, m1⟩ := door_ev c1 r1
  refine ⟨⟨r0, wrap64 (first + 1), rs⟩, ⟨r1, first, ss⟩, a2, ⟨K1 + K2, fun k hk => ?_⟩, c2, l0, l1, m0, m1⟩
  have f1 := e1 k (by omega); have f2 := e2 k (by omega)
  dsimp only at f1 f2
  show minecontroldraw_Codes_DoubleDoor.f k l a first r0 r1 = _
  unfold minecontroldraw_Codes_DoubleDoor.f
  rw [f1]; simp only [Option.bind_some]
  rw [f2]; rfl

/-- Doors as they are drawn: few, each with two to four states. -/
def Ds (l : List S36) : Prop := ∀ d ∈ l, 2 ≤ d.f2.length ∧ d.f2.length ≤ 4
theorem rd_T36_mem {l : List S36} {i : Int} (h0 : 0 ≤ i) (h1 : i < l.length) : rd_T36 l i ∈ l := by
  unfold rd_T36
  rw [List.getD_eq_getElem?_getD, List.getElem?_eq_getElem (by omega)]
  exact List.getElem_mem (by omega)
theorem Ds.set {l : List S36} (h : Ds l) (i : Nat) {d : S36} (hd : 2 ≤ d.f2.length ∧ d.f2.length ≤ 4) : Ds (l.set i d) := by
  intro x hx
  rcases List.mem_or_eq_of_mem_set hx with hx | rfl
  · exact h x hx
  · exact hd

theorem doors_l1 {c : List Int} {a1 a2 : Int} {l : List S36} (hD : Ds l) (hl : l.length ≤ 100) : ∀ (n i : Nat) (ss : List Int) (a : Int), C c a → i + n = l.length → ss.length = i →
    ∃ l' ss', Ev (fun k => minecontrollaw08_doors.l1 k a1 a2 l ss (i : Int) c a) (l', ss') ∧ Ds l' ∧ l'.length = l.length ∧ ss'.length ≤ l.length := by
  intro n
  induction n with
  | zero =>
    intro i ss a hc hi hs
    have step : ∀ {r : List S36 × List Int}, (∃ K, ∀ k, K ≤ k → (if (l.length : Int) > 0 then ((minecontroldraw_Mod.f a1 (l.length : Int)).bind fun t260 => (if 0 ≤ t260 then (if t260 < (l.length : Int) then ((minecontroldraw_Codes_Next.f k c a 10).bind fun bt262 => (if bt262.1 = 1 then (some ((l.set (t260 : Int).toNat (⟨(rd_T36 l t260).f0, a2, (rd_T36 l t260).f2⟩ : S36)), ss)) else (if bt262.1 = 2 then ((minecontroldraw_Mod.f a1 (((rd_T36 l t260).f2).length : Int)).bind fun t267 => (if 0 ≤ t267 then (if t267 < (((rd_T36 l t260).f2).length : Int) then (some ((l.set (t260 : Int).toNat (⟨(rd_T36 l t260).f0, (rd_T36 l t260).f1, (((rd_T36 l t260).f2).set (t267 : Int).toNat a2)⟩ : S36)), ss)) else (none)) else (none))) else (if bt262.1 = 3 then (some ((l.set (t260 : Int).toNat (⟨a2, (rd_T36 l t260).f1, (rd_T36 l t260).f2⟩ : S36)), ss)) else (if bt262.1 = 4 then (if 1 ≤ (ss.length : Int) then (some (l, (ss.drop (1 : Int).toNat))) else (none)) else (some (l, ss))))))) else (none)) else (none))) else (some (l, ss))) = some r) → Ev (fun k => minecontrollaw08_doors.l1 k a1 a2 l ss (i : Int) c a) r := by
      rintro r ⟨K, H⟩
      refine ⟨K + 1, fun k hk => ?_⟩
      obtain ⟨m, rfl⟩ : ∃ m, k = m + 1 := ⟨k - 1, by omega⟩
      have f := H m (by omega)
      simp only [minecontrollaw08_doors.l1]
      rw [if_neg (by omega)]
      exact f
    by_cases h0 : (l.length : Int) > 0
    · obtain ⟨t, ht, t0, t1⟩ := mod_in a1 (l.length : Int) (by omega) (by omega)
      obtain ⟨v, a', ⟨K, e⟩, hc', v0, v1, -⟩ := next_ev hc 10 (by omega)
      have hm := hD _ (rd_T36_mem t0 t1)
      have hn : ∀ k, K ≤ k → minecontroldraw_Codes_Next.f k c a 10 = some (v, a') := fun k hk => e k hk
      by_cases h1 : v = 1
      · exact ⟨l.set t.toNat ⟨(rd_T36 l t).f0, a2, (rd_T36 l t).f2⟩, ss, step ⟨K, fun k hk => by rw [if_pos h0, ht]; simp only [Option.bind_some]; rw [if_pos t0, if_pos t1, hn k hk]; simp only [Option.bind_some]; rw [if_pos h1]⟩, hD.set _ hm, by rw [List.length_set], by omega⟩
      by_cases h2 : v = 2
      · obtain ⟨u, hu, u0, u1⟩ := mod_in a1 (((rd_T36 l t).f2).length : Int) (by omega) (by omega)
        exact ⟨l.set t.toNat ⟨(rd_T36 l t).f0, (rd_T36 l t).f1, (rd_T36 l t).f2.set u.toNat a2⟩, ss, step ⟨K, fun k hk => by rw [if_pos h0, ht]; simp only [Option.bind_some]; rw [if_pos t0, if_pos t1, hn k hk]; simp only [Option.bind_some]; rw [if_neg h1, if_pos h2, hu]; simp only [Option.bind_some]; rw [if_pos u0, if_pos u1]⟩, hD.set _ (by show 2 ≤ (List.set _ _ _).length ∧ (List.set _ _ _).length ≤ 4; rw [List.length_set]; exact hm), by rw [List.length_set], by omega⟩
      by_cases h3 : v = 3
      · exact ⟨l.set t.toNat ⟨a2, (rd_T36 l t).f1, (rd_T36 l t).f2⟩, ss, step ⟨K, fun k hk => by rw [if_pos h0, ht]; simp only [Option.bind_some]; rw [if_pos t0, if_pos t1, hn k hk]; simp only [Option.bind_some]; rw [if_neg h1, if_neg h2, if_pos h3]⟩, hD.set _ hm, by rw [List.length_set], by omega⟩
      by_cases h4 : v = 4
      · exact ⟨l, ss.drop 1, step ⟨K, fun k hk => by rw [if_pos h0, ht]; simp only [Option.bind_some]; rw [if_pos t0, if_pos t1, hn k hk]; simp only [Option.bind_some]; rw [if_neg h1, if_neg h2, if_neg h3, if_pos h4, if_pos (by omega)]; rfl⟩, hD, rfl, by rw [List.length_drop]; omega⟩
      · exact ⟨l, ss, step ⟨K, fun k hk => by rw [if_pos h0, ht]; simp only [Option.bind_some]; rw [if_pos t0, if_pos t1, hn k hk]; simp only [Option.bind_some]; rw [if_neg h1, if_neg h2, if_neg h3, if_neg h4]⟩, hD, rfl, by omega⟩
    · exact ⟨l, ss, step ⟨0, fun k _ => by rw [if_neg h0]⟩, hD, rfl, by omega⟩
  | succ n ih =>
    intro i ss a hc hi hs
    have hm := hD _ (rd_T36_mem (l := l) (i := (i : Int)) (by omega) (by omega))
    obtain ⟨v, a', ⟨K1, e1⟩, hc', v0, v1, -⟩ := next_ev hc (((rd_T36 l i).f2.length : Int) + 1) (by omega)
    obtain ⟨l', ss', ⟨K2, e2⟩, r1, r2, r3⟩ := ih (i + 1) (ss ++ [wrap64 (v - 1)]) a' hc' (by omega) (by simp; omega)
    refine ⟨l', ss', ⟨K1 + K2 + 1, fun k hk => ?_⟩, r1, r2, r3⟩
    obtain ⟨m, rfl⟩ : ∃ m, k = m + 1 := ⟨k - 1, by omega⟩
    have f1 := e1 m (by omega); have f2 := e2 m (by omega)
    dsimp only at f1 f2
    simp only [minecontrollaw08_doors.l1]
    rw [if_pos (by omega), if_pos (by omega), w64 (n := ((rd_T36 l i).f2.length : Int) + 1) (by omega) (by omega), f1]; simp only [Option.bind_some]
    rw [if_pos (by omega), w64 (n := (i : Int) + 1) (by omega) (by omega)]
    exact f2

theorem doors_l0 {c : List Int} {a1 a2 : Int} : ∀ (n : Nat) (l : List S36) (a : Int), C c a → Ds l → l.length + 2 * n ≤ 100 →
    ∃ l' ss', Ev (fun k => minecontrollaw08_doors.l0 k a1 a2 l (n : Int) c a) (l', ss') ∧ Ds l' ∧ l'.length ≤ l.length + 2 * n ∧ ss'.length ≤ l'.length := by
  intro n
  induction n with
  | zero =>
    intro l a hc hD hl
    obtain ⟨l', ss', ev, r1, r2, r3⟩ := doors_l1 (a1 := a1) (a2 := a2) hD (by omega) l.length 0 [] a hc (by omega) rfl
    refine ⟨l', ss', Ev.step (fun k => ?_) ev, r1, by omega, by omega⟩
    simp only [minecontrollaw08_doors.l0]
    rw [if_neg (by omega)]; rfl
  | succ n ih =>
    intro l a hc hD hl
    have w1 : wrap64 (((n + 1 : Nat) : Int) - 1) = (n : Int) := by rw [w64 (by omega) (by omega)]; omega
    obtain ⟨b, a1', ⟨K1, e1⟩, c1⟩ := one_ev hc 2 (by omega) (by omega)
    cases b with
    | true =>
      obtain ⟨r0, a2', ⟨K2, e2⟩, c2, -, -, -⟩ := next_ev c1 3 (by omega)
      obtain ⟨r1, a3', ⟨K3, e3⟩, c3, -, -, -⟩ := next_ev c2 3 (by omega)
      obtain ⟨x, y, a4', ⟨K4, e4⟩, c4, hx0, hx1, hy0, hy1⟩ := double_ev c3 (l.length : Int) r0 r1
      have hD2 : Ds (l ++ [x, y]) := by
        intro d hd
        simp only [List.mem_append, List.mem_cons, List.not_mem_nil, or_false] at hd
        rcases hd with hd | rfl | rfl
        · exact hD d hd
        · exact ⟨hx0, hx1⟩
        · exact ⟨hy0, hy1⟩
      have hll : (l ++ [x, y]).length = l.length + 2 := by simp
      obtain ⟨l', ss', ⟨K5, e5⟩, s1, s2, s3⟩ := ih (l ++ [x, y]) a4' c4 hD2 (by omega)
      refine ⟨l', ss', ⟨K1 + K2 + K3 + K4 + K5 + 1, fun k hk => ?_⟩, s1, by omega, s3⟩
      obtain ⟨m, rfl⟩ : ∃ m, k = m + 1 := ⟨k - 1, by omega⟩
      have f1 := e1 m (by omega); have f2 := e2 m (by omega); have f3 := e3 m (by omega); have f4 := e4 m (by omega); have f5 := e5 m (by omega)
      dsimp only at f1 f2 f3 f4 f5
      simp only [minecontrollaw08_doors.l0]
      rw [if_pos (by omega), f1]; simp only [Option.bind_some, if_true]
      rw [f2]; simp only [Option.bind_some]
      rw [f3]; simp only [Option.bind_some]
      rw [f4]; simp only [Option.bind_some]
      rw [if_pos (by simp; omega), w1]
      exact f5
    | false =>
      obtain ⟨r0, a2', ⟨K2, e2⟩, c2, -, -, -⟩ := next_ev c1 3 (by omega)
      obtain ⟨rs, a3', ⟨K3, e3⟩, c3, m0, m1⟩ := door_ev c2 r0
      have hD2 : Ds (l ++ [⟨r0, -1, rs⟩]) := by
        intro d hd
        simp only [List.mem_append, List.mem_cons, List.not_mem_nil, or_false] at hd
        rcases hd with hd | rfl
        · exact hD d hd
        · exact ⟨m0, m1⟩
      have hll : (l ++ [(⟨r0, -1, rs⟩ : S36)]).length = l.length + 1 := by simp
      obtain ⟨l', ss', ⟨K5, e5⟩, s1, s2, s3⟩ := ih (l ++ [⟨r0, -1, rs⟩]) a3' c3 hD2 (by omega)
      refine ⟨l', ss', ⟨K1 + K2 + K3 + K5 + 1, fun k hk => ?_⟩, s1, by omega, s3⟩
      obtain ⟨m, rfl⟩ : ∃ m, k = m + 1 := ⟨k - 1, by omega⟩
      have f1 := e1 m (by omega); have f2 := e2 m (by omega); have f3 := e3 m (by omega); have f5 := e5 m (by omega)
      dsimp only at f1 f2 f3 f5
      simp only [minecontrollaw08_doors.l0]
      rw [if_pos (by omega), f1]; simp only [Option.bind_some, Bool.false_eq_true, if_false]
      rw [f2]; simp only [Option.bind_some]
      rw [f3]; simp only [Option.bind_some]
      rw [if_pos (by omega), w1]
      exact f5

theorem doors_ev {l : List Int} (h : ∀ x ∈ l, (Lit.int .u8 x).wf = true) (a1 a2 : Int) : ∃ ds ss, Ev (fun k => minecontrollaw08_doors.f k l a1 a2) (ds, ss) ∧ Ds ds ∧ ds.length ≤ 6 ∧ ss.length ≤ 6 := by
  obtain ⟨l', hn, hc⟩ := new_ev h
  obtain ⟨v, a', ⟨K1, e1⟩, c1, v0, v1, -⟩ := next_ev hc 4 (by omega)
  have v1 := v1 (by omega)
  obtain ⟨m, rfl⟩ : ∃ m : Nat, v = (m : Int) := ⟨v.toNat, by omega⟩
  obtain ⟨ds, ss, ⟨K2, e2⟩, r1, r2, r3⟩ := doors_l0 (c := l') (a1 := a1) (a2 := a2) m [] a' c1 (by intro d hd; simp at hd) (by simp only [List.length_nil]; omega)
  simp only [List.length_nil] at r2
  refine ⟨ds, ss, ⟨K1 + K2, fun k hk => ?_⟩, r1, by omega, by omega⟩
  have f1 := e1 k (by omega); have f2 := e2 k (by omega)
  dsimp only at f1 f2
  show minecontrollaw08_doors.f k l a1 a2 = _
  unfold minecontrollaw08_doors.f
  rw [hn]; simp only [Option.bind_some]
  rw [f1]; simp only [Option.bind_some]
  exact f2

end Go.Proofs.Ytmlkchkhgjebgaa.Com
