/- The choices of minecontroldraw come to their answers, and each answer lies within its bounds: for any bytes as choices. -/
import Derived.Test.YtcgeflbifbaecaaPFehx1
import Derived.Test.YtcgeflbifbaecaaPFehx2
namespace Go.Proofs.Ytcgeflbifbaecaa.Com
open Go.RowKit Go.Proofs.Ytcgeflbifbaecaa.PFeh Go.Proofs.YtcgeflbifbaecaaW.PrintWords Go.Proofs.YtcgeflbifbaecaaW.PrintLast Go.Proofs.YtcgeflbifbaecaaW.PrintMore

theorem w64 {n : Int} (h : -9223372036854775808 ≤ n) (h' : n ≤ 9223372036854775807) : wrap64 n = n := by
  unfold wrap64; omega

/-- At most 300 bytes, and a place in them. -/
structure C (l : List Int) (a : Int) : Prop where
  len : l.length ≤ 300
  b : ∀ x ∈ l, 0 ≤ x ∧ x ≤ 255
  lo : 0 ≤ a
  hi : a ≤ l.length

theorem rd_mem {l : List Int} {i : Int} (h0 : 0 ≤ i) (h1 : i < l.length) : rd l i ∈ l := by
  unfold rd
  have h : i.toNat < l.length := by omega
  rw [List.getD_eq_getElem?_getD, List.getElem?_eq_getElem h]
  exact List.getElem_mem h

theorem C.at {l : List Int} {a : Int} (h : C l a) {i : Int} (h0 : 0 ≤ i) (h1 : i < l.length) : 0 ≤ rd l i ∧ rd l i ≤ 255 := h.b _ (rd_mem h0 h1)

theorem wf_u8 {x : Int} (h : (Lit.int .u8 x).wf = true) : 0 ≤ x ∧ x ≤ 255 := by
  simp [Lit.wf, IntKind.min, IntKind.max, IntKind.bits, IntKind.signed] at h
  omega

theorem new_ev {l : List Int} (h : ∀ x ∈ l, (Lit.int .u8 x).wf = true) : ∃ l', minecontroldraw_New.f l = some (l', 0) ∧ C l' 0 := by
  have hm : mn (l.length : Int) 300 ≤ l.length ∧ mn (l.length : Int) 300 ≤ 300 ∧ 0 ≤ mn (l.length : Int) 300 := by unfold mn; split <;> omega
  refine ⟨l.take (mn (l.length : Int) 300).toNat, ?_, ?_⟩
  · unfold minecontroldraw_New.f
    rw [if_pos hm.2.2, if_pos hm.1]
  · refine ⟨?_, ?_, by omega, by omega⟩
    · rw [List.length_take]; omega
    · intro x hx
      exact wf_u8 (h x (List.mem_of_mem_take hx))

theorem next_ev {l : List Int} {a : Int} (h : C l a) (n : Int) (hn : n ≤ 1000000) : ∃ v a', Ev (fun k => minecontroldraw_Codes_Next.f k l a n) (v, a') ∧ C l a' ∧ 0 ≤ v ∧ (1 ≤ n → v < n) ∧ (n < 1 → v = 0) := by
  have hl := h.len; have h0 := h.lo; have h1 := h.hi
  by_cases hn1 : n < 1
  · refine ⟨0, a, ⟨1, fun k hk => ?_⟩, h, by omega, by omega, by omega⟩
    obtain ⟨k, rfl⟩ : ∃ m, k = m + 1 := ⟨k - 1, by omega⟩
    show minecontroldraw_Codes_Next.f (k + 1) l a n = _
    unfold minecontroldraw_Codes_Next.f
    rw [if_pos hn1]; simp only [minecontroldraw_Codes_Next.j0, if_true]
  by_cases hge : a ≥ (l.length : Int)
  · refine ⟨0, a, ⟨1, fun k hk => ?_⟩, h, by omega, by omega, by omega⟩
    obtain ⟨k, rfl⟩ : ∃ m, k = m + 1 := ⟨k - 1, by omega⟩
    show minecontroldraw_Codes_Next.f (k + 1) l a n = _
    unfold minecontroldraw_Codes_Next.f
    rw [if_neg hn1, decide_eq_true hge]; simp only [minecontroldraw_Codes_Next.j0, if_true]
  have e1 : wrap64 (a + 1) = a + 1 := w64 (by omega) (by omega)
  have e2 : wrap64 (a + 1 - 1) = a := by rw [w64 (by omega) (by omega)]; omega
  have hb := h.at (i := a) h0 (by omega)
  by_cases h256 : n > 256
  · by_cases hlt : a + 1 < (l.length : Int)
    · have hb2 := h.at (i := a + 1) (by omega) (by omega)
      have e3 : wrap64 (wrap64 (wrap64 (rd l a) * 256) + wrap64 (rd l (a + 1))) = rd l a * 256 + rd l (a + 1) := by
        rw [w64 (n := rd l a) (by omega) (by omega), w64 (n := rd l a * 256) (by omega) (by omega), w64 (n := rd l (a + 1)) (by omega) (by omega), w64 (by omega) (by omega)]
      refine ⟨Int.tmod (rd l a * 256 + rd l (a + 1)) n, a + 2, ⟨1, fun k hk => ?_⟩, ⟨hl, h.b, by omega, by omega⟩, Int.tmod_nonneg _ (by omega), fun _ => Int.tmod_lt_of_pos _ (by omega), by omega⟩
      obtain ⟨k, rfl⟩ : ∃ m, k = m + 1 := ⟨k - 1, by omega⟩
      show minecontroldraw_Codes_Next.f (k + 1) l a n = _
      unfold minecontroldraw_Codes_Next.f
      rw [if_neg hn1, decide_eq_false hge]; simp only [minecontroldraw_Codes_Next.j0, Bool.false_eq_true, if_false]
      rw [e1, e2, if_pos h0, if_pos (by omega), if_pos h256, if_pos hlt, if_pos (by omega), if_neg (by omega), e3, w64 (n := a + 1 + 1) (by omega) (by omega)]
      rw [show a + 1 + 1 = a + 2 from by omega]
    · refine ⟨Int.tmod (rd l a) n, a + 1, ⟨1, fun k hk => ?_⟩, ⟨hl, h.b, by omega, by omega⟩, Int.tmod_nonneg _ (by omega), fun _ => Int.tmod_lt_of_pos _ (by omega), by omega⟩
      obtain ⟨k, rfl⟩ : ∃ m, k = m + 1 := ⟨k - 1, by omega⟩
      show minecontroldraw_Codes_Next.f (k + 1) l a n = _
      unfold minecontroldraw_Codes_Next.f
      rw [if_neg hn1, decide_eq_false hge]; simp only [minecontroldraw_Codes_Next.j0, Bool.false_eq_true, if_false]
      rw [e1, e2, if_pos h0, if_pos (by omega), if_pos h256, if_neg hlt, if_neg (by omega), w64 (n := rd l a) (by omega) (by omega)]
  · refine ⟨Int.tmod (rd l a) n, a + 1, ⟨1, fun k hk => ?_⟩, ⟨hl, h.b, by omega, by omega⟩, Int.tmod_nonneg _ (by omega), fun _ => Int.tmod_lt_of_pos _ (by omega), by omega⟩
    obtain ⟨k, rfl⟩ : ∃ m, k = m + 1 := ⟨k - 1, by omega⟩
    show minecontroldraw_Codes_Next.f (k + 1) l a n = _
    unfold minecontroldraw_Codes_Next.f
    rw [if_neg hn1, decide_eq_false hge]; simp only [minecontroldraw_Codes_Next.j0, Bool.false_eq_true, if_false]
    rw [e1, e2, if_pos h0, if_pos (by omega), if_neg h256, if_neg (by omega), w64 (n := rd l a) (by omega) (by omega)]

theorem one_ev {l : List Int} {a : Int} (h : C l a) (n : Int) (h0 : 1 ≤ n) (h1 : n ≤ 1000) : ∃ b a', Ev (fun k => minecontroldraw_Codes_One.f k l a n) (b, a') ∧ C l a' := by
  obtain ⟨v, a', ⟨K, e⟩, hc, -, -, -⟩ := next_ev h n (by omega)
  refine ⟨(v == wrap64 (n - 1)), a', ⟨K, fun k hk => ?_⟩, hc⟩
  have f := e k hk
  dsimp only at f
  show minecontroldraw_Codes_One.f k l a n = _
  unfold minecontroldraw_Codes_One.f
  rw [f]; rfl

theorem range_ev {l : List Int} {a : Int} (h : C l a) (lo hi : Int) (h0 : -1000000 ≤ lo) (h1 : lo ≤ hi) (h2 : hi ≤ 900000) (h3 : hi - lo ≤ 900000) : ∃ v a', Ev (fun k => minecontroldraw_Codes_Range.f k l a lo hi) (v, a') ∧ C l a' ∧ lo ≤ v ∧ v ≤ hi := by
  obtain ⟨v, a', ⟨K, e⟩, hc, v0, v1, -⟩ := next_ev h (hi - lo + 1) (by omega)
  have v1 := v1 (by omega)
  refine ⟨lo + v, a', ⟨K, fun k hk => ?_⟩, hc, by omega, by omega⟩
  have f := e k hk
  dsimp only at f
  show minecontroldraw_Codes_Range.f k l a lo hi = _
  unfold minecontroldraw_Codes_Range.f
  rw [w64 (n := hi - lo) (by omega) (by omega), w64 (n := hi - lo + 1) (by omega) (by omega), f]
  simp only [Option.bind_some]
  rw [w64 (by omega) (by omega)]

theorem truth_ev {l : List Int} {a : Int} (h : C l a) : ∃ v a', Ev (fun k => minecontroldraw_Codes_Truth.f k l a) (v, a') ∧ C l a' ∧ -1 ≤ v ∧ v ≤ 1 := by
  obtain ⟨v, a', ⟨K, e⟩, hc, v0, v1, -⟩ := next_ev h 3 (by omega)
  have v1 := v1 (by omega)
  refine ⟨v - 1, a', ⟨K, fun k hk => ?_⟩, hc, by omega, by omega⟩
  have f := e k hk
  dsimp only at f
  show minecontroldraw_Codes_Truth.f k l a = _
  unfold minecontroldraw_Codes_Truth.f
  rw [f]
  simp only [Option.bind_some]
  rw [w64 (by omega) (by omega)]

/-- Each of the numbers below n is in the list: it is at least as long. -/
theorem length_of_all : ∀ (n : Nat) (l : List Int), (∀ j : Nat, j < n → (j : Int) ∈ l) → n ≤ l.length := by
  intro n
  induction n with
  | zero => intro l _; exact Nat.zero_le _
  | succ n ih =>
    intro l h
    have hm := h n (by omega)
    have := ih (l.erase (n : Int)) (fun j hj => (List.mem_erase_of_ne (by omega)).2 (h j (by omega)))
    rw [List.length_erase_of_mem hm] at this
    have : 0 < l.length := List.length_pos_of_mem hm
    omega

theorem rdb_set_eq {l : List Bool} {i : Int} {v : Bool} (h0 : 0 ≤ i) (h1 : i < l.length) : rdOf false (l.set i.toNat v) i = v := by
  unfold rdOf
  rw [List.getD_eq_getElem?_getD, List.getElem?_set_self (by omega)]; rfl
theorem rdb_set_ne {l : List Bool} {i j : Int} {v : Bool} (h0 : 0 ≤ i) (h1 : 0 ≤ j) (h : j ≠ i) : rdOf false (l.set i.toNat v) j = rdOf false l j := by
  unfold rdOf
  rw [List.getD_eq_getElem?_getD, List.getElem?_set_ne (by omega), ← List.getD_eq_getElem?_getD]
theorem rdb_replicate (n : Nat) (j : Int) : rdOf false (List.replicate n false) j = false := by
  unfold rdOf
  rw [List.getD_eq_getElem?_getD, List.getElem?_replicate]
  split <;> rfl

theorem rd32_lt {l : List S32} {x : S32} {i : Nat} (h : i < l.length) : rd_T32 (l ++ [x]) i = rd_T32 l i := by
  unfold rd_T32
  simp only [Int.toNat_natCast, List.getD_eq_getElem?_getD]
  rw [List.getElem?_append_left h]
theorem rd32_eq {l : List S32} {x : S32} {i : Nat} (h : i = l.length) : rd_T32 (l ++ [x]) i = x := by
  unfold rd_T32
  subst h
  simp [List.getD_eq_getElem?_getD]

/-- A free place is found. -/
theorem free_ev {l : List Int} {x1 : Int} {T : List Bool} {n : Nat} (hT : T.length = n) (hn2 : n ≤ 1000) {i a : Int} {ss : List S32} {zs : List Int} {rp : Int} (hz : zs.length ≤ 1000) :
    ∀ (m k0 : Nat), k0 < n → rdOf false T (((k0 + m) % n : Nat) : Int) = false → ∃ k' : Nat, k' < n ∧ rdOf false T k' = false ∧
      ∀ r, Ev (fun k => minecontroldraw_Codes_Feeder.l1 k x1 (T.set k' true) (wrap64 (i + 1)) l a ss (zs ++ [(k' : Int)]) rp) r → Ev (fun k => minecontroldraw_Codes_Feeder.l2 k x1 T i (k0 : Int) l a ss zs rp) r := by
  intro m
  induction m with
  | zero =>
    intro k0 hk h
    rw [Nat.add_zero, Nat.mod_eq_of_lt hk] at h
    refine ⟨k0, hk, h, fun r hr => Ev.step (fun k => ?_) hr⟩
    simp only [minecontroldraw_Codes_Feeder.l2]
    rw [if_pos (by omega), if_pos (by omega), if_neg (by simp [h]), if_pos (by omega)]; rfl
  | succ m ih =>
    intro k0 hk h
    by_cases h0 : rdOf false T (k0 : Int) = true
    · have e : ((k0 + 1) % n + m) % n = (k0 + (m + 1)) % n := by rw [Nat.mod_add_mod]; congr 1; omega
      obtain ⟨k', h1, h2, h3⟩ := ih ((k0 + 1) % n) (Nat.mod_lt _ (by omega)) (by rw [e]; exact h)
      refine ⟨k', h1, h2, fun r hr => Ev.step (fun k => ?_) (h3 r hr)⟩
      simp only [minecontroldraw_Codes_Feeder.l2]
      have e2 : Int.tmod (((k0 + 1 : Nat)) : Int) ((n : Nat) : Int) = (((k0 + 1) % n : Nat) : Int) := rfl
      rw [if_pos (by omega), if_pos (by omega), if_pos h0, if_neg (by omega), w64 (by omega) (by omega), hT, show (k0 : Int) + 1 = ((k0 + 1 : Nat) : Int) from rfl, e2]
    · have h0 : rdOf false T (k0 : Int) = false := by simpa using h0
      refine ⟨k0, hk, h0, fun r hr => Ev.step (fun k => ?_) hr⟩
      simp only [minecontroldraw_Codes_Feeder.l2]
      rw [if_pos (by omega), if_pos (by omega), if_neg (by simp [h0]), if_pos (by omega)]; rfl

/-- Zones, each on a switch of its own. -/
def Zs (n : Nat) (zs : List Int) : Prop := (∀ x ∈ zs, 0 ≤ x ∧ x < n) ∧ zs.Nodup
/-- Switches as they are drawn. -/
def Sw (ss : List S32) : Prop := ∀ i : Nat, i < ss.length → -1 ≤ (rd_T32 ss i).f0 ∧ (rd_T32 ss i).f0 < i ∧ (rd_T32 ss i).f1 = 0 ∧ -1 ≤ (rd_T32 ss i).f2 ∧ (rd_T32 ss i).f2 ≤ 1 ∧ (rd_T32 ss i).f4 = false

theorem zones_ev {l : List Int} {ss : List S32} {rp : Int} {z : Nat} (hz : z ≤ ss.length) (hn2 : ss.length ≤ 1000) : ∀ (d i : Nat) (T : List Bool) (zs : List Int) (a : Int), C l a → i + d = z → zs.length = i → T.length = ss.length →
    (∀ j : Nat, j < ss.length → (rdOf false T j = true ↔ (j : Int) ∈ zs)) → Zs ss.length zs →
    ∃ zs' a', Ev (fun k => minecontroldraw_Codes_Feeder.l1 k (z : Int) T (i : Int) l a ss zs rp) (ss, zs', rp, a') ∧ C l a' ∧ zs'.length = z ∧ Zs ss.length zs' := by
  intro d
  induction d with
  | zero =>
    intro i T zs a hc hi hl hT hm hZ
    refine ⟨zs, a, Ev.step (f := fun _ => some (ss, zs, rp, a)) (fun k => ?_) (Ev.now _), hc, by omega, hZ⟩
    simp only [minecontroldraw_Codes_Feeder.l1]
    rw [if_neg (by omega)]
  | succ d ih =>
    intro i T zs a hc hi hl hT hm hZ
    have hlt : (i : Int) < (z : Int) := by omega
    obtain ⟨v, a1, ⟨K1, e1⟩, c1, v0, v1, -⟩ := next_ev hc (ss.length : Int) (by omega)
    have v1 := v1 (by omega)
    obtain ⟨k0, rfl⟩ : ∃ k0 : Nat, v = (k0 : Int) := ⟨v.toNat, by omega⟩
    obtain ⟨j, hj, hfree⟩ : ∃ j : Nat, j < ss.length ∧ rdOf false T j = false := by
      apply Classical.byContradiction
      intro hno
      have := length_of_all ss.length zs (fun j hj => (hm j hj).1 (by
        cases hb : rdOf false T (j : Int) with
        | true => rfl
        | false => exact absurd ⟨j, hj, hb⟩ hno))
      omega
    have hmod : (k0 + (j + ss.length - k0)) % ss.length = j := by
      rw [show k0 + (j + ss.length - k0) = j + ss.length from by omega, Nat.add_mod_right, Nat.mod_eq_of_lt hj]
    obtain ⟨k', hk', hk0, H⟩ := free_ev (l := l) (x1 := (z : Int)) (i := (i : Int)) (a := a1) (ss := ss) (zs := zs) (rp := rp) hT hn2 (by omega) (j + ss.length - k0) k0 (by omega) (by rw [hmod]; exact hfree)
    have hnot : (k' : Int) ∉ zs := fun hin => by rw [(hm k' hk').2 hin] at hk0; cases hk0
    obtain ⟨zs', a', E, c', l', Z'⟩ := ih (i + 1) (T.set k' true) (zs ++ [(k' : Int)]) a1 c1 (by omega) (by simp; omega) (by rw [List.length_set]; exact hT) (by
      intro q hq
      by_cases e : q = k'
      · subst e
        have := rdb_set_eq (l := T) (i := (q : Int)) (v := true) (by omega) (by omega)
        rw [Int.toNat_natCast] at this
        rw [this]; simp
      · have := rdb_set_ne (l := T) (i := (k' : Int)) (j := (q : Int)) (v := true) (by omega) (by omega) (by omega)
        rw [Int.toNat_natCast] at this
        rw [this, hm q hq]
        simp only [List.mem_append, List.mem_cons, List.not_mem_nil, or_false]
        exact ⟨.inl, fun h => h.elim id (fun h => by omega)⟩) ⟨by
        intro x hx
        simp only [List.mem_append, List.mem_cons, List.not_mem_nil, or_false] at hx
        rcases hx with hx | rfl
        · exact hZ.1 x hx
        · omega, by
        rw [List.nodup_append]
        refine ⟨hZ.2, by simp, ?_⟩
        intro x hx y hy
        simp only [List.mem_cons, List.not_mem_nil, or_false] at hy
        subst hy
        intro e; subst e; exact hnot hx⟩
    have w1 : wrap64 ((i : Int) + 1) = ((i + 1 : Nat) : Int) := by rw [w64 (by omega) (by omega)]; rfl
    rw [← w1] at E
    obtain ⟨K2, e2⟩ := H _ E
    refine ⟨zs', a', ⟨K1 + K2 + 1, fun k hk => ?_⟩, c', l', Z'⟩
    obtain ⟨m, rfl⟩ : ∃ m, k = m + 1 := ⟨k - 1, by omega⟩
    have f1 := e1 m (by omega); have f2 := e2 m (by omega)
    dsimp only at f1 f2
    simp only [minecontroldraw_Codes_Feeder.l1]
    rw [if_pos hlt, f1]; simp only [Option.bind_some]
    exact f2

theorem sw_ev {l : List Int} {x1 x6 : Int} {rp : Int} {n : Nat} (hn : mx x6 1 = (n : Int)) (hn2 : n ≤ 1000) : ∀ (d i : Nat) (ss : List S32) (a : Int), C l a → i + d = n → ss.length = i → Sw ss →
    ∃ ss' a', C l a' ∧ ss'.length = n ∧ Sw ss' ∧ ∀ r, Ev (fun k => minecontroldraw_Codes_Feeder.l1 k x1 (List.replicate n false) 0 l a' ss' [] rp) r → Ev (fun k => minecontroldraw_Codes_Feeder.l0 k x1 x6 (i : Int) l a ss rp) r := by
  intro d
  induction d with
  | zero =>
    intro i ss a hc hi hl hS
    refine ⟨ss, a, hc, by omega, hS, fun r hr => Ev.step (fun k => ?_) hr⟩
    simp only [minecontroldraw_Codes_Feeder.l0]
    rw [if_neg (by omega), if_pos (by omega), if_pos (by omega)]
    rw [show ((ss.length : Int)).toNat = n from by omega]
  | succ d ih =>
    intro i ss a hc hi hl hS
    obtain ⟨v, a1, ⟨K1, e1⟩, c1, v0, v1, -⟩ := next_ev hc ((i : Int) + 1) (by omega)
    have v1 := v1 (by omega)
    obtain ⟨b, a2, ⟨K2, e2⟩, c2⟩ := one_ev c1 2 (by omega) (by omega)
    obtain ⟨u, a3, ⟨K3, e3⟩, c3, u0, u1⟩ := truth_ev c2
    obtain ⟨ss', a', c', l', S', H⟩ := ih (i + 1) (ss ++ [⟨v - 1, 0, u, b, false⟩]) a3 c3 (by omega) (by simp; omega) (by
      intro q hq
      simp only [List.length_append, List.length_cons, List.length_nil] at hq
      by_cases e : q = ss.length
      · rw [rd32_eq e]
        exact ⟨by show -1 ≤ v - 1; omega, by show v - 1 < q; omega, rfl, u0, u1, rfl⟩
      · rw [rd32_lt (by omega)]
        exact hS q (by omega))
    refine ⟨ss', a', c', l', S', fun r hr => ?_⟩
    obtain ⟨K4, e4⟩ := H r hr
    refine ⟨K1 + K2 + K3 + K4 + 1, fun k hk => ?_⟩
    obtain ⟨m, rfl⟩ : ∃ m, k = m + 1 := ⟨k - 1, by omega⟩
    have f1 := e1 m (by omega); have f2 := e2 m (by omega); have f3 := e3 m (by omega); have f4 := e4 m (by omega)
    dsimp only at f1 f2 f3 f4
    simp only [minecontroldraw_Codes_Feeder.l0]
    rw [if_pos (by omega), w64 (n := (i : Int) + 1) (by omega) (by omega), f1]; simp only [Option.bind_some]
    rw [f2]; simp only [Option.bind_some]
    rw [f3]; simp only [Option.bind_some]
    rw [if_pos (by omega), w64 (n := v - 1) (by omega) (by omega)]
    exact f4

/-- A network as it is drawn. -/
structure Net (ss : List S32) (zs : List Int) (rp : Int) (z : Nat) : Prop where
  so : Sw ss
  zo : Zs ss.length zs
  pos : 1 ≤ ss.length
  few : ss.length ≤ 20
  zl : zs.length = z
  zle : z ≤ ss.length
  rp0 : 1 ≤ rp
  rp1 : rp ≤ 9

theorem mx1 (a : Int) : 1 ≤ mx a 1 := by unfold mx; split <;> omega
theorem feeder_ev {l : List Int} {a : Int} (h : C l a) (z : Nat) (hz : z ≤ 10) : ∃ ss zs rp a', Ev (fun k => minecontroldraw_Codes_Feeder.f k l a (z : Int)) (ss, zs, rp, a') ∧ C l a' ∧ Net ss zs rp z := by
  obtain ⟨rp, a1, ⟨K1, e1⟩, c1, r0, r1⟩ := range_ev h 1 9 (by omega) (by omega) (by omega) (by omega)
  obtain ⟨v, a2, ⟨K2, e2⟩, c2, v0, v1, -⟩ := next_ev c1 3 (by omega)
  have v1 := v1 (by omega)
  obtain ⟨n, hn⟩ : ∃ n : Nat, mx ((z : Int) + v) 1 = (n : Int) := ⟨(mx ((z : Int) + v) 1).toNat, by have := mx1 ((z : Int) + v); omega⟩
  have hn1 : 1 ≤ n ∧ z ≤ n ∧ n ≤ 20 := by unfold mx at hn; split at hn <;> omega
  obtain ⟨ss, a3, c3, ls, S3, H⟩ := sw_ev (l := l) (x1 := (z : Int)) (x6 := (z : Int) + v) (rp := rp) hn (by omega) n 0 [] a2 c2 (by omega) rfl (by intro i hi; simp at hi)
  obtain ⟨zs, a4, E, c4, lz, Z4⟩ := zones_ev (l := l) (ss := ss) (rp := rp) (z := z) (by omega) (by omega) z 0 (List.replicate n false) [] a3 c3 (by omega) rfl (by simp; omega) (by
    intro j hj
    rw [rdb_replicate]; simp) ⟨by simp, by simp⟩
  obtain ⟨K3, e3⟩ := H _ E
  refine ⟨ss, zs, rp, a4, ⟨K1 + K2 + K3, fun k hk => ?_⟩, c4, ⟨S3, Z4, by omega, by omega, lz, by omega, r0, r1⟩⟩
  have f1 := e1 k (by omega); have f2 := e2 k (by omega); have f3 := e3 k (by omega)
  dsimp only at f1 f2 f3
  show minecontroldraw_Codes_Feeder.f k l a (z : Int) = _
  unfold minecontroldraw_Codes_Feeder.f
  rw [f1]; simp only [Option.bind_some]
  rw [f2]; simp only [Option.bind_some]
  rw [w64 (by omega) (by omega)]
  exact f3

end Go.Proofs.Ytcgeflbifbaecaa.Com
