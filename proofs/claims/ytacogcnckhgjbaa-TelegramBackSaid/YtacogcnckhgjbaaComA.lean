/- The choices of minecontroldraw come to their answers, and each answer lies within its bounds: for any bytes as choices. -/
import Derived.Test.YtacogcnckhgjbaaPTelx3
namespace Go.Proofs.Ytacogcnckhgjbaa.Com
open Go.RowKit Go.Proofs.Ytacogcnckhgjbaa.PTel Go.Proofs.YtacogcnckhgjbaaW.PrintWords Go.Proofs.YtacogcnckhgjbaaW.PrintLast Go.Proofs.YtacogcnckhgjbaaW.PrintMore

theorem w64 {n : Int} (h : -9223372036854775808 ≤ n) (h' : n ≤ 9223372036854775807) : wrap64 n = n := by
  unfold wrap64; omega

/-- At most 300 bytes, and a place in them. -/
structure C (l : List Int) (a : Int) : Prop where
  len : l.length ≤ 300
  b : ∀ x ∈ l, 0 ≤ x ∧ x ≤ 255
  lo : 0 ≤ a
  hi : a ≤ l.length

theorem rd_mem {l : List Int} {i : Int} (h0 : 0 ≤ i) (h1 : i < l.length) : rd l i ∈ l := by
  unfold rd
  have h : i.toNat < l.length := by omega
  rw [List.getD_eq_getElem?_getD, List.getElem?_eq_getElem h]
  exact List.getElem_mem h

theorem C.at {l : List Int} {a : Int} (h : C l a) {i : Int} (h0 : 0 ≤ i) (h1 : i < l.length) : 0 ≤ rd l i ∧ rd l i ≤ 255 := h.b _ (rd_mem h0 h1)

theorem wf_u8 {x : Int} (h : (Lit.int .u8 x).wf = true) : 0 ≤ x ∧ x ≤ 255 := by
  simp [Lit.wf, IntKind.min, IntKind.max, IntKind.bits, IntKind.signed] at h
  omega

theorem new_ev {l : List Int} (h : ∀ x ∈ l, (Lit.int .u8 x).wf = true) : ∃ l', minecontroldraw_New.f l = some (l', 0) ∧ C l' 0 := by
  have hm : mn (l.length : Int) 300 ≤ l.length ∧ mn (l.length : Int) 300 ≤ 300 ∧ 0 ≤ mn (l.length : Int) 300 := by unfold mn; split <;> omega
  refine ⟨l.take (mn (l.length : Int) 300).toNat, ?_, ?_⟩
  · unfold minecontroldraw_New.f
    rw [if_pos hm.2.2, if_pos hm.1]
  · refine ⟨?_, ?_, by omega, by omega⟩
    · rw [List.length_take]; omega
    · intro x hx
      exact wf_u8 (h x (List.mem_of_mem_take hx))

theorem next_ev {l : List Int} {a : Int} (h : C l a) (n : Int) (hn : n ≤ 1000000) : ∃ v a', Ev (fun k => minecontroldraw_Codes_Next.f k l a n) (v, a') ∧ C l a' ∧ 0 ≤ v ∧ (1 ≤ n → v < n) ∧ (n < 1 → v = 0) := by
  have hl := h.len; have h0 := h.lo; have h1 := h.hi
  by_cases hn1 : n < 1
  · refine ⟨0, a, ⟨1, fun k hk => ?_⟩, h, by omega, by omega, by omega⟩
    obtain ⟨k, rfl⟩ : ∃ m, k = m + 1 := ⟨k - 1, by omega⟩
    show minecontroldraw_Codes_Next.f (k + 1) l a n = _
    unfold minecontroldraw_Codes_Next.f
    rw [if_pos hn1]; simp only [minecontroldraw_Codes_Next.j0, if_true]
  by_cases hge : a ≥ (l.length : Int)
  · refine ⟨0, a, ⟨1, fun k hk => ?_⟩, h, by omega, by omega, by omega⟩
    obtain ⟨k, rfl⟩ : ∃ m, k = m + 1 := ⟨k - 1, by omega⟩
    show minecontroldraw_Codes_Next.f (k + 1) l a n = _
    unfold minecontroldraw_Codes_Next.f
    rw [if_neg hn1, decide_eq_true hge]; simp only [minecontroldraw_Codes_Next.j0, if_true]
  have e1 : wrap64 (a + 1) = a + 1 := w64 (by omega) (by omega)
  have e2 : wrap64 (a + 1 - 1) = a := by rw [w64 (by omega) (by omega)]; omega
  have hb := h.at (i := a) h0 (by omega)
  by_cases h256 : n > 256
  · by_cases hlt : a + 1 < (l.length : Int)
    · have hb2 := h.at (i := a + 1) (by omega) (by omega)
      have e3 : wrap64 (wrap64 (wrap64 (rd l a) * 256) + wrap64 (rd l (a + 1))) = rd l a * 256 + rd l (a + 1) := by
        rw [w64 (n := rd l a) (by omega) (by omega), w64 (n := rd l a * 256) (by omega) (by omega), w64 (n := rd l (a + 1)) (by omega) (by omega), w64 (by omega) (by omega)]
      refine ⟨Int.tmod (rd l a * 256 + rd l (a + 1)) n, a + 2, ⟨1, fun k hk => ?_⟩, ⟨hl, h.b, by omega, by omega⟩, Int.tmod_nonneg _ (by omega), fun _ => Int.tmod_lt_of_pos _ (by omega), by omega⟩
      obtain ⟨k, rfl⟩ : ∃ m, k = m + 1 := ⟨k - 1, by omega⟩
      show minecontroldraw_Codes_Next.f (k + 1) l a n = _
      unfold minecontroldraw_Codes_Next.f
      rw [if_neg hn1, decide_eq_false hge]; simp only [minecontroldraw_Codes_Next.j0, Bool.false_eq_true, if_false]
      rw [e1, e2, if_pos h0, if_pos (by omega), if_pos h256, if_pos hlt, if_pos (by omega), if_neg (by omega), e3, w64 (n := a + 1 + 1) (by omega) (by omega)]
      rw [show a + 1 + 1 = a + 2 from by omega]
    · refine ⟨Int.tmod (rd l a) n, a + 1, ⟨1, fun k hk => ?_⟩, ⟨hl, h.b, by omega, by omega⟩, Int.tmod_nonneg _ (by omega), fun _ => Int.tmod_lt_of_pos _ (by omega), by omega⟩
      obtain ⟨k, rfl⟩ : ∃ m, k = m + 1 := ⟨k - 1, by omega⟩
      show minecontroldraw_Codes_Next.f (k + 1) l a n = _
      unfold minecontroldraw_Codes_Next.f
      rw [if_neg hn1, decide_eq_false hge]; simp only [minecontroldraw_Codes_Next.j0, Bool.false_eq_true, if_false]
      rw [e1, e2, if_pos h0, if_pos (by omega), if_pos h256, if_neg hlt, if_neg (by omega), w64 (n := rd l a) (by omega) (by omega)]
  · refine ⟨Int.tmod (rd l a) n, a + 1, ⟨1, fun k hk => ?_⟩, ⟨hl, h.b, by omega, by omega⟩, Int.tmod_nonneg _ (by omega), fun _ => Int.tmod_lt_of_pos _ (by omega), by omega⟩
    obtain ⟨k, rfl⟩ : ∃ m, k = m + 1 := ⟨k - 1, by omega⟩
    show minecontroldraw_Codes_Next.f (k + 1) l a n = _
    unfold minecontroldraw_Codes_Next.f
    rw [if_neg hn1, decide_eq_false hge]; simp only [minecontroldraw_Codes_Next.j0, Bool.false_eq_true, if_false]
    rw [e1, e2, if_pos h0, if_pos (by omega), if_neg h256, if_neg (by omega), w64 (n := rd l a) (by omega) (by omega)]

end Go.Proofs.Ytacogcnckhgjbaa.Com
