/- What is read of any bytes, as a plain function; and the program's reading comes to it. -/
import Derived.Test.YtacogcnckhgjbaaComB
import Derived.Test.YtacogcnckhgjbaaPTelx2
namespace Go.Proofs.Ytacogcnckhgjbaa.Com
open Go.RowKit Go.Proofs.Ytacogcnckhgjbaa.PTel Go.Proofs.YtacogcnckhgjbaaW.PrintWords Go.Proofs.YtacogcnckhgjbaaW.PrintLast Go.Proofs.YtacogcnckhgjbaaW.PrintMore

/-- What comes next, in front of some bytes. -/
inductive Nxt where
  | drop
  | wait
  | take
deriving DecidableEq

def Bt (l : List Int) : Prop := ∀ x ∈ l, 0 ≤ x ∧ x ≤ 255
def body (l : List Int) : List Int := (l.take (4 + (rd l 1).toNat)).drop 1
def fr (l : List Int) : S24 := ⟨rd l 2, rd l 3, (l.take (4 + (rd l 1).toNat)).drop 4⟩
def right (l : List Int) : Prop := (crc 65535 (body l) : Int) = rd l (4 + rd l 1) * 256 + rd l (5 + rd l 1)
instance (l : List Int) : Decidable (right l) := by unfold right; infer_instance
def nxt (l : List Int) : Nxt :=
  if rd l 0 ≠ 126 then .drop else if 1 < (l.length : Int) ∧ rd l 1 > 64 then .drop
  else if (l.length : Int) < 2 ∨ (l.length : Int) < rd l 1 + 6 then .wait else if right l then .take else .drop

def parse (l : List Int) : List Int × Nat × List S24 :=
  if _h : l = [] then ([], 0, []) else
  match nxt l with
  | .drop => let p := parse (l.drop 1); (p.1, p.2.1 + 1, p.2.2)
  | .wait => (l, 0, [])
  | .take => let p := parse (l.drop ((rd l 1).toNat + 6)); (p.1, p.2.1, fr l :: p.2.2)
termination_by l.length
decreasing_by
  all_goals
    have := List.length_pos_iff.2 _h
    rw [List.length_drop]; omega

theorem parse_nil : parse [] = ([], 0, []) := by rw [parse]; rfl
theorem parse_drop {l : List Int} (h : l ≠ []) (e : nxt l = .drop) : parse l = ((parse (l.drop 1)).1, (parse (l.drop 1)).2.1 + 1, (parse (l.drop 1)).2.2) := by
  rw [parse, dif_neg h, e]
theorem parse_wait {l : List Int} (h : l ≠ []) (e : nxt l = .wait) : parse l = (l, 0, []) := by
  rw [parse, dif_neg h, e]
theorem parse_take {l : List Int} (h : l ≠ []) (e : nxt l = .take) : parse l = ((parse (l.drop ((rd l 1).toNat + 6))).1, (parse (l.drop ((rd l 1).toNat + 6))).2.1, fr l :: (parse (l.drop ((rd l 1).toNat + 6))).2.2) := by
  rw [parse, dif_neg h, e]

/-- How a count grows, one by one. -/
def dropN (d : Int) : Nat → Int
  | 0 => d
  | n + 1 => dropN (wrap64 (d + 1)) n
theorem dropN_add (a b : Nat) : ∀ d, dropN d (a + b) = dropN (dropN d a) b := by
  induction a with
  | zero => intro d; rw [Nat.zero_add]; rfl
  | succ a ih => intro d; rw [Nat.succ_add]; exact ih _
theorem dropN_small : ∀ (n : Nat) (d : Int), 0 ≤ d → d + n ≤ 1000000000 → dropN d n = d + n := by
  intro n
  induction n with
  | zero => intro d _ _; simp [dropN]
  | succ n ih =>
    intro d h0 h1
    show dropN (wrap64 (d + 1)) n = _
    rw [w64 (by omega) (by omega), ih _ (by omega) (by omega)]; omega

theorem Bt.drop {l : List Int} (h : Bt l) (n : Nat) : Bt (l.drop n) := fun x hx => h x (List.mem_of_mem_drop hx)
theorem Bt.take {l : List Int} (h : Bt l) (n : Nat) : Bt (l.take n) := fun x hx => h x (List.mem_of_mem_take hx)
theorem Bt.append {l m : List Int} (h : Bt l) (h2 : Bt m) : Bt (l ++ m) := fun x hx => (List.mem_append.1 hx).elim (h x) (h2 x)
theorem Bt.rd {l : List Int} (h : Bt l) (i : Int) : 0 ≤ rd l i ∧ rd l i ≤ 255 := by
  unfold YtacogcnckhgjbaaW.PrintWords.rd
  by_cases hi : i.toNat < l.length
  · rw [List.getD_eq_getElem?_getD, List.getElem?_eq_getElem hi]
    exact h _ (List.getElem_mem hi)
  · rw [List.getD_eq_getElem?_getD, List.getElem?_eq_none (by omega)]
    exact ⟨by decide, by decide⟩
theorem Bt.body {l : List Int} (h : Bt l) : Bt (body l) := (h.take _).drop _

theorem or_two (a b : Int) (h0 : 0 ≤ a) (h1 : a ≤ 255) (h2 : 0 ≤ b) (h3 : b ≤ 255) : Go.bits .or .i64 (wrap64 (a * 256)) b = a * 256 + b := by
  rw [w64 (by omega) (by omega)]
  exact bits_join .i64 63 (by decide) wraps_i64 8 (a * 256) b (by omega) (by omega) (by omega) h2 (by omega) (by omega)

/-- The facts of a telegram that is whole. -/
structure Whole (l : List Int) : Prop where
  b : Bt l
  n0 : 0 ≤ rd l 1
  n1 : rd l 1 ≤ 64
  len : rd l 1 + 6 ≤ (l.length : Int)
  big : l.length ≤ 1000000

theorem feed_drop {l : List Int} (hl : l ≠ []) (hb : l.length ≤ 1000000) {q : List Int × Int × List S24} (fs : List S24) (d : Int) (e : rd l 0 ≠ 126 ∨ (1 < (l.length : Int) ∧ rd l 1 > 64)) (hB : Bt l)
    (h : Ev (fun k => telegram_Feed.l0 k (l.drop 1) fs (wrap64 (d + 1))) q) : Ev (fun k => telegram_Feed.l0 k l fs d) q := by
  have hp := List.length_pos_iff.2 hl
  have h1 := hB.rd 1
  have hj : Ev (fun k => telegram_Feed.j1 k l fs d true) q := by
    refine Ev.step (f := fun k => telegram_Feed.l0 k (l.drop 1) fs (wrap64 (d + 1))) (fun k => ?_) h
    simp only [telegram_Feed.j1, if_true]
    rw [if_pos (by omega)]; rfl
  refine Ev.step (f := fun k => telegram_Feed.j1 k l fs d true) (fun k => ?_) hj
  simp only [telegram_Feed.l0]
  rw [if_pos (by omega), if_pos (by omega)]
  by_cases h0 : rd l 0 = 126
  · have e2 := e.resolve_left (fun z => z h0)
    rw [if_pos h0, if_pos e2.1, if_pos e2.1, w64 (by omega) (by omega), decide_eq_true e2.2]
  · rw [if_neg h0]

theorem feed_j1 {l : List Int} (hl : l ≠ []) (hB : Bt l) (fs : List S24) (d : Int) (h0 : rd l 0 = 126) (h1 : ¬ (1 < (l.length : Int) ∧ rd l 1 > 64)) {q : List Int × Int × List S24}
    (h : Ev (fun k => telegram_Feed.j1 k l fs d false) q) : Ev (fun k => telegram_Feed.l0 k l fs d) q := by
  have hp := List.length_pos_iff.2 hl
  have hr := hB.rd 1
  refine Ev.step (f := fun k => telegram_Feed.j1 k l fs d false) (fun k => ?_) h
  simp only [telegram_Feed.l0]
  rw [if_pos (by omega), if_pos (by omega), if_pos h0]
  by_cases h2 : 1 < (l.length : Int)
  · rw [if_pos h2, if_pos h2, w64 (by omega) (by omega), decide_eq_false (fun z => h1 ⟨h2, z⟩)]
  · rw [if_neg h2]

theorem feed_wait {l : List Int} (hl : l ≠ []) (hb : l.length ≤ 1000000) (fs : List S24) (d : Int) (hB : Bt l) (h0 : rd l 0 = 126) (h1 : ¬ (1 < (l.length : Int) ∧ rd l 1 > 64)) (h2 : (l.length : Int) < 2 ∨ (l.length : Int) < rd l 1 + 6) :
    Ev (fun k => telegram_Feed.l0 k l fs d) (l, d, fs) := by
  have hp := List.length_pos_iff.2 hl
  have hr := hB.rd 1
  refine feed_j1 hl hB fs d h0 h1 ?_
  have hj : Ev (fun k => telegram_Feed.j2 k l fs d true) (l, d, fs) := by
    refine Ev.step (f := fun _ => some (l, d, fs)) (fun k => ?_) (Ev.now _)
    simp only [telegram_Feed.j2, if_true]
    rw [if_pos (by simp; omega)]; rfl
  refine Ev.step (f := fun k => telegram_Feed.j2 k l fs d true) (fun k => ?_) hj
  simp only [telegram_Feed.j1, Bool.false_eq_true, if_false]
  by_cases h3 : (l.length : Int) < 2
  · rw [if_pos h3]
  · have h4 := h2.resolve_left h3
    rw [if_neg h3, if_pos (by omega), w64 (n := rd l 1) (by omega) (by omega), w64 (by omega) (by omega), decide_eq_true h4]

theorem feed_j2 {l : List Int} (hw : Whole l) (fs : List S24) (d : Int) (h0 : rd l 0 = 126) {q : List Int × Int × List S24}
    (h : Ev (fun k => telegram_Feed.j2 k l fs d false) q) : Ev (fun k => telegram_Feed.l0 k l fs d) q := by
  obtain ⟨hB, n0, n1, hlen, hb⟩ := hw
  have hl : l ≠ [] := by rintro rfl; simp at hlen; omega
  refine feed_j1 hl hB fs d h0 (by omega) ?_
  refine Ev.step (f := fun k => telegram_Feed.j2 k l fs d false) (fun k => ?_) h
  simp only [telegram_Feed.j1, Bool.false_eq_true, if_false]
  rw [if_neg (by omega), if_pos (by omega), w64 (n := rd l 1) (by omega) (by omega), w64 (by omega) (by omega), decide_eq_false (by omega)]

theorem body_len {l : List Int} (hw : Whole l) : (body l).length ≤ 1000000 := by
  have := hw.big
  unfold body
  rw [List.length_drop, List.length_take]; omega

theorem body_as {l : List Int} (n0 : 0 ≤ rd l 1) (_h : rd l 1 ≤ 64) : ((l.take ((4 + rd l 1 : Int)).toNat).drop 1) = body l := by
  unfold body
  rw [show (4 + rd l 1).toNat = 4 + (rd l 1).toNat by omega]
theorem data_as {l : List Int} (n0 : 0 ≤ rd l 1) (_h : rd l 1 ≤ 64) : ((l.take ((4 + rd l 1 : Int)).toNat).drop 4) = (l.take (4 + (rd l 1).toNat)).drop 4 := by
  rw [show (4 + rd l 1).toNat = 4 + (rd l 1).toNat by omega]

theorem feed_bad {l : List Int} (hw : Whole l) (fs : List S24) (d : Int) (h0 : rd l 0 = 126) (hr : ¬ right l) {q : List Int × Int × List S24}
    (h : Ev (fun k => telegram_Feed.l0 k (l.drop 1) fs (wrap64 (d + 1))) q) : Ev (fun k => telegram_Feed.l0 k l fs d) q := by
  refine feed_j2 hw fs d h0 ?_
  obtain ⟨K1, hc⟩ := tcheck (body_len hw) hw.b.body
  obtain ⟨K2, h⟩ := h
  obtain ⟨hB, n0, n1, hlen, hb⟩ := hw
  have a4 := hB.rd (4 + rd l 1)
  have a5 := hB.rd (5 + rd l 1)
  refine ⟨max K1 K2 + 1, fun k hk => ?_⟩
  obtain ⟨m, rfl⟩ : ∃ m, k = m + 1 := ⟨k - 1, by omega⟩
  have c1 : telegram_Check.f m (body l) = some ((crc 65535 (body l) : Nat) : Int) := hc m (by omega)
  have h1 := h m (by omega)
  show telegram_Feed.j2 (m + 1) l fs d false = some q
  simp only [telegram_Feed.j2, Bool.false_eq_true, if_false]
  rw [w64 (n := rd l 1) (by omega) (by omega), w64 (n := 4 + rd l 1) (by omega) (by omega), w64 (n := 5 + rd l 1) (by omega) (by omega)]
  rw [if_pos (by omega), if_pos (by omega), if_pos (by omega), body_as n0 n1, c1]
  simp only [Option.bind_some]
  rw [if_pos (by omega), if_pos (by omega), if_pos (by omega), if_pos (by omega), w64 (n := rd l (4 + rd l 1)) (by omega) (by omega), w64 (n := rd l (5 + rd l 1)) (by omega) (by omega), or_two _ _ a4.1 a4.2 a5.1 a5.2, if_neg (show ¬ ((crc 65535 (body l) : Nat) : Int) = rd l (4 + rd l 1) * 256 + rd l (5 + rd l 1) from hr), if_pos (by omega)]
  exact h1

theorem feed_good {l : List Int} (hw : Whole l) (fs : List S24) (hf : fs.length ≤ 1000000) (d : Int) (h0 : rd l 0 = 126) (hr : right l) {q : List Int × Int × List S24}
    (h : Ev (fun k => telegram_Feed.l0 k (l.drop ((rd l 1).toNat + 6)) (fs ++ [fr l]) d) q) : Ev (fun k => telegram_Feed.l0 k l fs d) q := by
  refine feed_j2 hw fs d h0 ?_
  obtain ⟨K1, hc⟩ := tcheck (body_len hw) hw.b.body
  obtain ⟨K2, h⟩ := h
  obtain ⟨hB, n0, n1, hlen, hb⟩ := hw
  have a4 := hB.rd (4 + rd l 1)
  have a5 := hB.rd (5 + rd l 1)
  have a2 := hB.rd 2
  have a3 := hB.rd 3
  refine ⟨max K1 K2 + 1, fun k hk => ?_⟩
  obtain ⟨m, rfl⟩ : ∃ m, k = m + 1 := ⟨k - 1, by omega⟩
  have c1 : telegram_Check.f m (body l) = some ((crc 65535 (body l) : Nat) : Int) := hc m (by omega)
  have h1 := h m (by omega)
  show telegram_Feed.j2 (m + 1) l fs d false = some q
  simp only [telegram_Feed.j2, Bool.false_eq_true, if_false]
  rw [w64 (n := rd l 1) (by omega) (by omega), w64 (n := 4 + rd l 1) (by omega) (by omega), w64 (n := 5 + rd l 1) (by omega) (by omega)]
  rw [if_pos (by omega), if_pos (by omega), if_pos (by omega), body_as n0 n1, c1]
  simp only [Option.bind_some]
  rw [if_pos (by omega), if_pos (by omega), if_pos (by omega), if_pos (by omega), w64 (n := rd l (4 + rd l 1)) (by omega) (by omega), w64 (n := rd l (5 + rd l 1)) (by omega) (by omega), or_two _ _ a4.1 a4.2 a5.1 a5.2, if_pos (show ((crc 65535 (body l) : Nat) : Int) = rd l (4 + rd l 1) * 256 + rd l (5 + rd l 1) from hr), if_pos (by omega), if_pos (by omega), if_pos (by omega), data_as n0 n1]
  have hdl : ((l.take (4 + (rd l 1).toNat)).drop 4).length ≤ 64 := by rw [List.length_drop, List.length_take]; omega
  rw [if_pos (by simp only [List.length_nil]; omega), if_pos (by omega), w64 (n := rd l 1 + 6) (by omega) (by omega), if_pos (by omega), if_pos (by omega), w64 (n := rd l 2) (by omega) (by omega), w64 (n := rd l 3) (by omega) (by omega)]
  rw [show (rd l 1 + 6).toNat = (rd l 1).toNat + 6 by omega]
  exact h1

theorem nxt_wait {l : List Int} (e : nxt l = .wait) : rd l 0 = 126 ∧ ¬ (1 < (l.length : Int) ∧ rd l 1 > 64) ∧ ((l.length : Int) < 2 ∨ (l.length : Int) < rd l 1 + 6) := by
  unfold nxt at e
  split at e
  · cases e
  · split at e
    · cases e
    · split at e
      · rename_i h1 h2 h3; exact ⟨by simpa using h1, h2, h3⟩
      · split at e <;> cases e
theorem nxt_take {l : List Int} (e : nxt l = .take) : rd l 0 = 126 ∧ ¬ (1 < (l.length : Int) ∧ rd l 1 > 64) ∧ ¬ ((l.length : Int) < 2 ∨ (l.length : Int) < rd l 1 + 6) ∧ right l := by
  unfold nxt at e
  split at e
  · cases e
  · split at e
    · cases e
    · split at e
      · cases e
      · split at e
        · rename_i h1 h2 h3 h4; exact ⟨by simpa using h1, h2, h3, h4⟩
        · cases e
theorem nxt_drop {l : List Int} (e : nxt l = .drop) : (rd l 0 ≠ 126 ∨ (1 < (l.length : Int) ∧ rd l 1 > 64)) ∨ rd l 0 = 126 ∧ ¬ (1 < (l.length : Int) ∧ rd l 1 > 64) ∧ ¬ ((l.length : Int) < 2 ∨ (l.length : Int) < rd l 1 + 6) ∧ ¬ right l := by
  unfold nxt at e
  split at e
  · rename_i h1; exact .inl (.inl h1)
  · split at e
    · rename_i h1 h2; exact .inl (.inr h2)
    · split at e
      · cases e
      · split at e
        · cases e
        · rename_i h1 h2 h3 h4; exact .inr ⟨by simpa using h1, h2, h3, h4⟩
theorem whole {l : List Int} (hB : Bt l) (hb : l.length ≤ 1000000) (h2 : ¬ (1 < (l.length : Int) ∧ rd l 1 > 64)) (h3 : ¬ ((l.length : Int) < 2 ∨ (l.length : Int) < rd l 1 + 6)) : Whole l :=
  ⟨hB, (hB.rd 1).1, by omega, by omega, hb⟩

theorem feed_l0 : ∀ (n : Nat) (l : List Int), l.length ≤ n → Bt l → l.length ≤ 1000000 → ∀ (fs : List S24) (d : Int), fs.length + l.length ≤ 1000000 →
    Ev (fun k => telegram_Feed.l0 k l fs d) ((parse l).1, dropN d (parse l).2.1, fs ++ (parse l).2.2) := by
  intro n
  induction n with
  | zero =>
    intro l hn _ _ fs d _
    obtain rfl : l = [] := List.length_eq_zero_iff.1 (by omega)
    rw [parse_nil]
    simp only [dropN, List.append_nil]
    refine Ev.step (f := fun _ => some ([], d, fs)) (fun k => ?_) (Ev.now _)
    simp only [telegram_Feed.l0]
    rw [if_neg (by simp), if_pos (by simp)]; rfl
  | succ n ih =>
    intro l hn hB hb fs d hf
    by_cases hl : l = []
    · subst hl; exact ih [] (by simp) hB (by simp) fs d (by simp at hf ⊢; omega)
    have hp := List.length_pos_iff.2 hl
    have hd1 : (l.drop 1).length = l.length - 1 := List.length_drop
    have hi1 := ih (l.drop 1) (by omega) (hB.drop 1) (by omega) fs (wrap64 (d + 1)) (by omega)
    cases e : nxt l with
    | drop =>
      rw [parse_drop hl e]
      simp only [dropN]
      rcases nxt_drop e with e | ⟨e0, e1, e2, e3⟩
      · exact feed_drop hl hb fs d e hB hi1
      · exact feed_bad (whole hB hb e1 e2) fs d e0 e3 hi1
    | wait =>
      obtain ⟨e0, e1, e2⟩ := nxt_wait e
      rw [parse_wait hl e]
      simp only [dropN, List.append_nil]
      exact feed_wait hl hb fs d hB e0 e1 e2
    | take =>
      obtain ⟨e0, e1, e2, e3⟩ := nxt_take e
      rw [parse_take hl e]
      have hd6 : (l.drop ((rd l 1).toNat + 6)).length = l.length - ((rd l 1).toNat + 6) := List.length_drop
      have hi6 := ih (l.drop ((rd l 1).toNat + 6)) (by omega) (hB.drop _) (by omega) (fs ++ [fr l]) d (by rw [List.length_append, List.length_singleton]; omega)
      rw [List.append_assoc] at hi6
      exact feed_good (whole hB hb e1 e2) fs (by omega) d e0 e3 hi6

theorem feed {h l : List Int} (hB : Bt h) (lB : Bt l) (hn : h.length + l.length ≤ 900000) (d : Int) :
    Ev (fun k => telegram_Feed.f k h d l) ((parse (h ++ l)).1, dropN d (parse (h ++ l)).2.1, (parse (h ++ l)).2.2) := by
  have hlen : (h ++ l).length = h.length + l.length := List.length_append
  have H := feed_l0 _ (h ++ l) (Nat.le_refl _) (hB.append lB) (by omega) [] d (by simp only [List.length_nil]; omega)
  rw [List.nil_append] at H
  refine Ev.congr (fun k => ?_) H
  unfold telegram_Feed.f
  rw [if_pos (by simp only [List.length_nil]; omega)]
  simp only [Option.bind_some, List.nil_append]
  rw [if_pos (by omega)]

end Go.Proofs.Ytacogcnckhgjbaa.Com
