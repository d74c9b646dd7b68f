/- What holds of the plain reading: bytes in two pieces, how many bytes are where, what is left, and a telegram in front. -/
import Derived.Test.YtacogcnckhgjbaaComC
namespace Go.Proofs.Ytacogcnckhgjbaa.Com
open Go.RowKit Go.Proofs.Ytacogcnckhgjbaa.PTel Go.Proofs.YtacogcnckhgjbaaW.PrintWords Go.Proofs.YtacogcnckhgjbaaW.PrintLast Go.Proofs.YtacogcnckhgjbaaW.PrintMore

theorem rd_append {l : List Int} (m : List Int) {i : Int} (h : i.toNat < l.length) : rd (l ++ m) i = rd l i := by
  unfold rd
  rw [List.getD_eq_getElem?_getD, List.getD_eq_getElem?_getD, List.getElem?_append_left h]

theorem body_append {l : List Int} (m : List Int) (hw : Whole l) : body (l ++ m) = body l := by
  obtain ⟨hB, n0, n1, hlen, _⟩ := hw
  unfold body
  rw [rd_append m (by omega), List.take_append_of_le_length (by omega)]
theorem right_append {l : List Int} (m : List Int) (hw : Whole l) : right (l ++ m) ↔ right l := by
  have hb := body_append m hw
  obtain ⟨hB, n0, n1, hlen, _⟩ := hw
  have e1 : rd (l ++ m) 1 = rd l 1 := rd_append m (by omega)
  unfold right
  rw [hb, e1, rd_append m (by omega), rd_append m (by omega)]
theorem fr_append {l : List Int} (m : List Int) (hw : Whole l) : fr (l ++ m) = fr l := by
  obtain ⟨hB, n0, n1, hlen, _⟩ := hw
  have e1 : rd (l ++ m) 1 = rd l 1 := rd_append m (by omega)
  unfold fr
  rw [e1, rd_append m (by omega), rd_append m (by omega), List.take_append_of_le_length (by omega)]

theorem nxt_append {l : List Int} (m : List Int) (hl : l ≠ []) (hB : Bt l) (hb : l.length ≤ 1000000) (h : nxt l ≠ .wait) : nxt (l ++ m) = nxt l := by
  have hp := List.length_pos_iff.2 hl
  have ha : (l ++ m).length = l.length + m.length := List.length_append
  have e0 : rd (l ++ m) 0 = rd l 0 := rd_append m (by omega)
  cases e : nxt l with
  | wait => exact absurd e h
  | drop =>
    rcases nxt_drop e with (e1 | e1) | ⟨e1, e2, e3, e4⟩
    · unfold nxt; rw [e0, if_pos e1]
    · have e2 : rd (l ++ m) 1 = rd l 1 := rd_append m (by omega)
      unfold nxt; rw [e0, e2]
      split
      · rfl
      · rw [if_pos (by omega)]
    · have hw := whole hB hb e2 e3
      have := hw.len; have := hw.n0
      have h1 : rd (l ++ m) 1 = rd l 1 := rd_append m (by omega)
      unfold nxt
      rw [e0, h1, if_neg (by simpa using e1), if_neg (by omega), if_neg (by omega), if_neg (fun z => e4 ((right_append m hw).1 z))]
  | take =>
    obtain ⟨e1, e2, e3, e4⟩ := nxt_take e
    have hw := whole hB hb e2 e3
    have := hw.len; have := hw.n0
    have h1 : rd (l ++ m) 1 = rd l 1 := rd_append m (by omega)
    unfold nxt
    rw [e0, h1, if_neg (by simpa using e1), if_neg (by omega), if_neg (by omega), if_pos ((right_append m hw).2 e4)]

/-- Bytes in two pieces. -/
theorem parse_append (m : List Int) : ∀ (n : Nat) (l : List Int), l.length ≤ n → Bt l → l.length ≤ 1000000 →
    parse (l ++ m) = ((parse ((parse l).1 ++ m)).1, (parse l).2.1 + (parse ((parse l).1 ++ m)).2.1, (parse l).2.2 ++ (parse ((parse l).1 ++ m)).2.2) := by
  intro n
  induction n with
  | zero =>
    intro l hn _ _
    obtain rfl : l = [] := List.length_eq_zero_iff.1 (by omega)
    simp [parse_nil]
  | succ n ih =>
    intro l hn hB hb
    by_cases hl : l = []
    · subst hl; simp [parse_nil]
    have hp := List.length_pos_iff.2 hl
    have hlm : l ++ m ≠ [] := by simp [hl]
    have hd1 : (l.drop 1).length = l.length - 1 := List.length_drop
    cases e : nxt l with
    | wait => rw [parse_wait hl e]; simp
    | drop =>
      have e' := (nxt_append m hl hB hb (by rw [e]; decide)).trans e
      rw [parse_drop hlm e', parse_drop hl e, List.drop_append_of_le_length (by omega), ih _ (by omega) (hB.drop 1) (by omega)]
      simp only [Prod.mk.injEq, and_true, true_and]
      omega
    | take =>
      have e' := (nxt_append m hl hB hb (by rw [e]; decide)).trans e
      obtain ⟨e0, e1, e2, e3⟩ := nxt_take e
      have hw := whole hB hb e1 e2
      have := hw.len; have := hw.n0
      have h1 : rd (l ++ m) 1 = rd l 1 := rd_append m (by omega)
      have hd6 : (l.drop ((rd l 1).toNat + 6)).length = l.length - ((rd l 1).toNat + 6) := List.length_drop
      rw [parse_take hlm e', parse_take hl e, h1, fr_append m hw, List.drop_append_of_le_length (by omega), ih _ (by omega) (hB.drop _) (by omega)]
      rfl

/-- How many bytes telegrams have. -/
def tot : List S24 → Nat
  | [] => 0
  | f :: l => 6 + f.f2.length + tot l
theorem tot_len : ∀ l, l.length ≤ tot l
  | [] => Nat.le_refl _
  | f :: l => by simp only [tot, List.length_cons]; have := tot_len l; omega
theorem tot_append : ∀ l m, tot (l ++ m) = tot l + tot m
  | [], m => by simp [tot]
  | f :: l, m => by simp only [List.cons_append, tot]; rw [tot_append l m]; omega

/-- No byte is lost; what is left is short; all are bytes. -/
theorem parse_tells : ∀ (n : Nat) (l : List Int), l.length ≤ n → Bt l → l.length ≤ 1000000 →
    (parse l).2.1 + (parse l).1.length + tot (parse l).2.2 = l.length ∧ (parse l).1.length < 70 ∧ Bt (parse l).1 := by
  intro n
  induction n with
  | zero =>
    intro l hn _ _
    obtain rfl : l = [] := List.length_eq_zero_iff.1 (by omega)
    rw [parse_nil]
    exact ⟨by simp [tot], by simp, by intro x hx; simp at hx⟩
  | succ n ih =>
    intro l hn hB hb
    by_cases hl : l = []
    · subst hl; rw [parse_nil]; exact ⟨by simp [tot], by simp, by intro x hx; simp at hx⟩
    have hp := List.length_pos_iff.2 hl
    have hd1 : (l.drop 1).length = l.length - 1 := List.length_drop
    cases e : nxt l with
    | wait =>
      obtain ⟨e0, e1, e2⟩ := nxt_wait e
      rw [parse_wait hl e]
      have := hB.rd 1
      refine ⟨by simp [tot], ?_, hB⟩
      show l.length < 70
      omega
    | drop =>
      obtain ⟨i1, i2, i3⟩ := ih (l.drop 1) (by omega) (hB.drop 1) (by omega)
      rw [parse_drop hl e]
      refine ⟨?_, i2, i3⟩
      show (parse (l.drop 1)).2.1 + 1 + (parse (l.drop 1)).1.length + tot (parse (l.drop 1)).2.2 = l.length
      omega
    | take =>
      obtain ⟨e0, e1, e2, e3⟩ := nxt_take e
      have hw := whole hB hb e1 e2
      have := hw.len; have := hw.n0
      have hd6 : (l.drop ((rd l 1).toNat + 6)).length = l.length - ((rd l 1).toNat + 6) := List.length_drop
      obtain ⟨i1, i2, i3⟩ := ih (l.drop ((rd l 1).toNat + 6)) (by omega) (hB.drop _) (by omega)
      rw [parse_take hl e]
      refine ⟨?_, i2, i3⟩
      have hf : (fr l).f2.length = (rd l 1).toNat := by
        unfold fr
        rw [List.length_drop, List.length_take]; omega
      simp only [tot]
      omega

/-! a telegram -/
def sums (a k : Int) (d : List Int) : Nat := crc 65535 ([(d.length : Int), a, k] ++ d)
def wr (a k : Int) (d : List Int) : List Int := [126, (d.length : Int), a, k] ++ d ++ [((sums a k d / 256 : Nat) : Int), ((sums a k d % 256 : Nat) : Int)]

structure Fr (a k : Int) (d : List Int) : Prop where
  a0 : 0 ≤ a
  a1 : a ≤ 255
  k0 : 0 ≤ k
  k1 : k ≤ 255
  n : d.length ≤ 64
  b : Bt d

theorem sums_lt (a k : Int) (d : List Int) : sums a k d < 65536 := crc_lt (by decide) _
theorem wr_len (a k : Int) (d : List Int) : (wr a k d).length = 6 + d.length := by
  unfold wr
  simp only [List.length_append, List.length_cons, List.length_nil]; omega
theorem wr_bt {a k : Int} {d : List Int} (h : Fr a k d) : Bt (wr a k d) := by
  obtain ⟨a0, a1, k0, k1, n, b⟩ := h
  have hs := sums_lt a k d
  intro x hx
  unfold wr at hx
  simp only [List.mem_append, List.mem_cons, List.not_mem_nil, or_false] at hx
  rcases hx with ((rfl | rfl | rfl | rfl) | hx) | (rfl | rfl)
  · omega
  · omega
  · omega
  · omega
  · exact b x hx
  · omega
  · omega

theorem wr_1 (a k : Int) (d m : List Int) : rd (wr a k d ++ m) 1 = (d.length : Int) := rfl
theorem wr_0 (a k : Int) (d m : List Int) : rd (wr a k d ++ m) 0 = 126 := rfl
theorem wr_2 (a k : Int) (d m : List Int) : rd (wr a k d ++ m) 2 = a := rfl
theorem wr_3 (a k : Int) (d m : List Int) : rd (wr a k d ++ m) 3 = k := rfl
theorem wr_take (a k : Int) (d m : List Int) : (wr a k d ++ m).take (4 + d.length) = [126, (d.length : Int), a, k] ++ d := by
  unfold wr
  rw [List.append_assoc, List.take_append_of_le_length (by simp only [List.length_append, List.length_cons, List.length_nil]; omega), List.take_of_length_le (by simp only [List.length_append, List.length_cons, List.length_nil]; omega)]
theorem rd_at (p : List Int) (x : Int) (m : List Int) {i : Int} (h : i = p.length) : rd (p ++ x :: m) i = x := by
  subst h
  unfold rd
  rw [List.getD_eq_getElem?_getD, Int.toNat_natCast, List.getElem?_append_right (Nat.le_refl _), Nat.sub_self]
  rfl
theorem wr_4 (a k : Int) (d m : List Int) : rd (wr a k d ++ m) (4 + d.length) = ((sums a k d / 256 : Nat) : Int) := by
  unfold wr
  rw [List.append_assoc]
  exact rd_at _ _ _ (by simp only [List.length_append, List.length_cons, List.length_nil]; omega)
theorem wr_5 (a k : Int) (d m : List Int) : rd (wr a k d ++ m) (5 + d.length) = ((sums a k d % 256 : Nat) : Int) := by
  unfold wr
  have e : ([126, (d.length : Int), a, k] ++ d ++ [((sums a k d / 256 : Nat) : Int), ((sums a k d % 256 : Nat) : Int)] ++ m) = ([126, (d.length : Int), a, k] ++ d ++ [((sums a k d / 256 : Nat) : Int)]) ++ ((sums a k d % 256 : Nat) : Int) :: m := by simp
  rw [e]
  exact rd_at _ _ _ (by simp only [List.length_append, List.length_cons, List.length_nil]; omega)
theorem wr_nxt {a k : Int} {d : List Int} (h : Fr a k d) (m : List Int) : nxt (wr a k d ++ m) = .take := by
  have hn := h.n
  have hs := sums_lt a k d
  have hl : (wr a k d ++ m).length = 6 + d.length + m.length := by rw [List.length_append, wr_len]
  have hr : right (wr a k d ++ m) := by
    unfold right body
    rw [wr_1, Int.toNat_natCast, wr_take, wr_4, wr_5]
    show ((sums a k d : Nat) : Int) = _
    omega
  unfold nxt
  rw [wr_0, wr_1, if_neg (by simp), if_neg (by omega), if_neg (by omega), if_pos hr]
theorem parse_wr {a k : Int} {d : List Int} (h : Fr a k d) (m : List Int) : parse (wr a k d ++ m) = ((parse m).1, (parse m).2.1, (⟨a, k, d⟩ : S24) :: (parse m).2.2) := by
  have hl : wr a k d ++ m ≠ [] := by simp [wr]
  rw [parse_take hl (wr_nxt h m), wr_1, Int.toNat_natCast, List.drop_append, wr_len]
  have e1 : (wr a k d).drop (d.length + 6) = [] := List.drop_of_length_le (by rw [wr_len]; omega)
  rw [e1, List.nil_append, show d.length + 6 - (6 + d.length) = 0 by omega, List.drop_zero]
  have e2 : fr (wr a k d ++ m) = ⟨a, k, d⟩ := by
    unfold fr
    rw [wr_1, Int.toNat_natCast, wr_take, wr_2, wr_3]
    rfl
  rw [e2]

end Go.Proofs.Ytacogcnckhgjbaa.Com
