/- Choices, check values, telegrams as they are written, drawn and read: what the program and the reference come to. -/
import Derived.Test.YtacogcnckhgjbaaPTerx1
import Derived.Test.YtacogcnckhgjbaaPTerx2
import Derived.Test.YtacogcnckhgjbaaPTerx3
import Derived.Test.YtacogcnckhgjbaaPTerx4
import Derived.Test.YtacogcnckhgjbaaPTerx5
import Derived.Test.YtacogcnckhgjbaaPTerx6
namespace Go.Proofs.Ytacogcnckhgjbaa.Com
open Go.RowKit Go.Proofs.Ytacogcnckhgjbaa.PTer Go.Proofs.YtacogcnckhgjbaaW.PrintWords Go.Proofs.YtacogcnckhgjbaaW.PrintLast Go.Proofs.YtacogcnckhgjbaaW.PrintMore

theorem w64 {n : Int} (h : -9223372036854775808 ≤ n) (h' : n ≤ 9223372036854775807) : wrap64 n = n := by
  unfold wrap64; omega
/-- At most 300 bytes, and a place in them. -/
structure C (l : List Int) (a : Int) : Prop where
  len : l.length ≤ 300
  b : ∀ x ∈ l, 0 ≤ x ∧ x ≤ 255
  lo : 0 ≤ a
  hi : a ≤ l.length
theorem rd_mem {l : List Int} {i : Int} (h0 : 0 ≤ i) (h1 : i < l.length) : rd l i ∈ l := by
  unfold rd
  have h : i.toNat < l.length := by omega
  rw [List.getD_eq_getElem?_getD, List.getElem?_eq_getElem h]
  exact List.getElem_mem h
theorem C.at {l : List Int} {a : Int} (h : C l a) {i : Int} (h0 : 0 ≤ i) (h1 : i < l.length) : 0 ≤ rd l i ∧ rd l i ≤ 255 := h.b _ (rd_mem h0 h1)
theorem wf_u8 {x : Int} (h : (Lit.int .u8 x).wf = true) : 0 ≤ x ∧ x ≤ 255 := by
  simp [Lit.wf, IntKind.min, IntKind.max, IntKind.bits, IntKind.signed] at h
  omega
theorem new_ev {l : List Int} (h : ∀ x ∈ l, (Lit.int .u8 x).wf = true) : ∃ l', minecontroldraw_New.f l = some (l', 0) ∧ C l' 0 := by
  have hm : mn (l.length : Int) 300 ≤ l.length ∧ mn (l.length : Int) 300 ≤ 300 ∧ 0 ≤ mn (l.length : Int) 300 := by unfold mn; split <;> omega
  refine ⟨l.take (mn (l.length : Int) 300).toNat, ?_, ?_⟩
  · unfold minecontroldraw_New.f
    rw [if_pos hm.2.2, if_pos hm.1]
  · refine ⟨?_, ?_, by omega, by omega⟩
    · rw [List.length_take]; omega
    · intro x hx
      exact wf_u8 (h x (List.mem_of_mem_take hx))
theorem next_ev {l : List Int} {a : Int} (h : C l a) (n : Int) (hn : n ≤ 1000000) : ∃ v a', Ev (fun k => minecontroldraw_Codes_Next.f k l a n) (v, a') ∧ C l a' ∧ 0 ≤ v ∧ (1 ≤ n → v < n) ∧ (n < 1 → v = 0) := by
  have hl := h.len; have h0 := h.lo; have h1 := h.hi
  by_cases hn1 : n < 1
  · refine ⟨0, a, ⟨1, fun k hk => ?_⟩, h, by omega, by omega, by omega⟩
    obtain ⟨k, rfl⟩ : ∃ m, k = m + 1 := ⟨k - 1, by omega⟩
    show minecontroldraw_Codes_Next.f (k + 1) l a n = _
    unfold minecontroldraw_Codes_Next.f
    rw [if_pos hn1]; simp only [minecontroldraw_Codes_Next.j0, if_true]
  by_cases hge : a ≥ (l.length : Int)
  · refine ⟨0, a, ⟨1, fun k hk => ?_⟩, h, by omega, by omega, by omega⟩
    obtain ⟨k, rfl⟩ : ∃ m, k = m + 1 := ⟨k - 1, by omega⟩
    show minecontroldraw_Codes_Next.f (k + 1) l a n = _
    unfold minecontroldraw_Codes_Next.f
    rw [if_neg hn1, decide_eq_true hge]; simp only [minecontroldraw_Codes_Next.j0, if_true]
  have e1 : wrap64 (a + 1) = a + 1 := w64 (by omega) (by omega)
  have e2 : wrap64 (a + 1 - 1) = a := by rw [w64 (by omega) (by omega)]; omega
  have hb := h.at (i := a) h0 (by omega)
  by_cases h256 : n > 256
  · by_cases hlt : a + 1 < (l.length : Int)
    · have hb2 := h.at (i := a + 1) (by omega) (by omega)
      have e3 : wrap64 (wrap64 (wrap64 (rd l a) * 256) + wrap64 (rd l (a + 1))) = rd l a * 256 + rd l (a + 1) := by
        rw [w64 (n := rd l a) (by omega) (by omega), w64 (n := rd l a * 256) (by omega) (by omega), w64 (n := rd l (a + 1)) (by omega) (by omega), w64 (by omega) (by omega)]
      refine ⟨Int.tmod (rd l a * 256 + rd l (a + 1)) n, a + 2, ⟨1, fun k hk => ?_⟩, ⟨hl, h.b, by omega, by omega⟩, Int.tmod_nonneg _ (by omega), fun _ => Int.tmod_lt_of_pos _ (by omega), by omega⟩
      obtain ⟨k, rfl⟩ : ∃ m, k = m + 1 := ⟨k - 1, by omega⟩
      show minecontroldraw_Codes_Next.f (k + 1) l a n = _
      unfold minecontroldraw_Codes_Next.f
      rw [if_neg hn1, decide_eq_false hge]; simp only [minecontroldraw_Codes_Next.j0, Bool.false_eq_true, if_false]
      rw [e1, e2, if_pos h0, if_pos (by omega), if_pos h256, if_pos hlt, if_pos (by omega), if_neg (by omega), e3, w64 (n := a + 1 + 1) (by omega) (by omega)]
      rw [show a + 1 + 1 = a + 2 from by omega]
    · refine ⟨Int.tmod (rd l a) n, a + 1, ⟨1, fun k hk => ?_⟩, ⟨hl, h.b, by omega, by omega⟩, Int.tmod_nonneg _ (by omega), fun _ => Int.tmod_lt_of_pos _ (by omega), by omega⟩
      obtain ⟨k, rfl⟩ : ∃ m, k = m + 1 := ⟨k - 1, by omega⟩
      show minecontroldraw_Codes_Next.f (k + 1) l a n = _
      unfold minecontroldraw_Codes_Next.f
      rw [if_neg hn1, decide_eq_false hge]; simp only [minecontroldraw_Codes_Next.j0, Bool.false_eq_true, if_false]
      rw [e1, e2, if_pos h0, if_pos (by omega), if_pos h256, if_neg hlt, if_neg (by omega), w64 (n := rd l a) (by omega) (by omega)]
  · refine ⟨Int.tmod (rd l a) n, a + 1, ⟨1, fun k hk => ?_⟩, ⟨hl, h.b, by omega, by omega⟩, Int.tmod_nonneg _ (by omega), fun _ => Int.tmod_lt_of_pos _ (by omega), by omega⟩
    obtain ⟨k, rfl⟩ : ∃ m, k = m + 1 := ⟨k - 1, by omega⟩
    show minecontroldraw_Codes_Next.f (k + 1) l a n = _
    unfold minecontroldraw_Codes_Next.f
    rw [if_neg hn1, decide_eq_false hge]; simp only [minecontroldraw_Codes_Next.j0, Bool.false_eq_true, if_false]
    rw [e1, e2, if_pos h0, if_pos (by omega), if_neg h256, if_neg (by omega), w64 (n := rd l a) (by omega) (by omega)]
/-- One bit goes into the register. -/
def stp (r b : Nat) : Nat := ((r <<< 1) % 2 ^ 16) ^^^ (if (r >>> 15) ^^^ b = 0 then 0 else 4129)
def bitOf (x n : Nat) : Nat := (x >>> n) % 2 ^ 1
/-- The n lowest bits of a byte go in, the highest first. -/
def byt (r x : Nat) : Nat → Nat
  | 0 => r
  | n + 1 => byt (stp r (bitOf x n)) x n
def crc (r : Nat) : List Int → Nat
  | [] => r
  | x :: l => crc (byt r x.toNat 8) l
theorem stp_lt (r b : Nat) : stp r b < 65536 := by
  unfold stp
  refine Nat.xor_lt_two_pow (n := 16) (Nat.mod_lt _ (by decide)) ?_
  split <;> decide
theorem byt_lt {r : Nat} (h : r < 65536) (x : Nat) : ∀ n, byt r x n < 65536 := by
  intro n
  induction n generalizing r with
  | zero => exact h
  | succ n ih => exact ih (stp_lt _ _)
theorem crc_lt {r : Nat} (h : r < 65536) : ∀ l, crc r l < 65536 := by
  intro l
  induction l generalizing r with
  | nil => exact h
  | cons x l ih => exact ih (byt_lt h _ _)
theorem xor_ne {a b : Nat} : a ^^^ b = 0 ↔ a = b :=
  ⟨fun h => by have h2 := congrArg (· ^^^ b) h; simpa [Nat.xor_assoc] using h2, by rintro rfl; simp⟩
theorem xor16 {r s : Nat} (hr : r < 65536) (hs : s < 65536) : r ^^^ s < 65536 := Nat.xor_lt_two_pow (n := 16) hr hs
theorem wraps_i64 (n : Int) (h₀ : 0 ≤ n) (h₁ : n < 2 ^ 63) : IntKind.i64.wrap n = n := by rw [IntKind.wrap_i64]; omega
theorem bits_xor (a b : Nat) (ha : a < 65536) (hb : b < 65536) : Go.bits .xor .i64 (a : Int) (b : Int) = ((a ^^^ b : Nat) : Int) := by
  have ha' : a % 2 ^ 64 = a := Nat.mod_eq_of_lt (by omega)
  have hb' : b % 2 ^ 64 = b := Nat.mod_eq_of_lt (by omega)
  have h := xor16 ha hb
  have e : Go.bits .xor .i64 (a : Int) (b : Int) = IntKind.i64.wrap (((BitVec.ofInt 64 (a : Int)) ^^^ (BitVec.ofInt 64 (b : Int))).toNat : Int) := rfl
  rw [e, BitVec.ofInt_natCast, BitVec.ofInt_natCast, BitVec.toNat_xor, BitVec.toNat_ofNat, BitVec.toNat_ofNat, ha', hb', wraps_i64 _ (by omega) (by omega)]
theorem and_mask (x : Int) (h0 : 0 ≤ x) (h1 : x < 131072) : Go.bits .and .i64 x 65535 = x % 65536 := bits_mask .i64 63 (by decide) wraps_i64 16 (by decide) x h0 (by omega)
theorem and_one (x : Int) (h0 : 0 ≤ x) (h1 : x < 131072) : Go.bits .and .i64 x 1 = x % 2 := bits_mask .i64 63 (by decide) wraps_i64 1 (by decide) x h0 (by omega)
theorem and_one8 (x : Int) (h0 : 0 ≤ x) (h1 : x < 256) : Go.bits .and .u8 x 1 = x % 2 := bits_mask .u8 8 (by decide) wraps_u8 1 (by decide) x h0 h1
theorem shift_in {r : Nat} (h : r < 65536) : Go.bits .and .i64 (wrap64 ((r : Int) * 2)) 65535 = ((r <<< 1 % 2 ^ 16 : Nat) : Int) := by
  rw [w64 (by omega) (by omega), and_mask _ (by omega) (by omega), Nat.shiftLeft_eq]
  omega
theorem stp_eq {r b : Nat} (_h : r < 65536) (e : r / 32768 = b) : ((r <<< 1 % 2 ^ 16 : Nat) : Int) = (stp r b : Nat) := by
  unfold stp
  rw [Nat.shiftRight_eq_div_pow, show r / 2 ^ 15 = b from e, Nat.xor_self, if_pos rfl, Nat.xor_zero]
theorem stp_ne {r b : Nat} (_h : r < 65536) (e : ¬ r / 32768 = b) : Go.bits .xor .i64 ((r <<< 1 % 2 ^ 16 : Nat) : Int) 4129 = (stp r b : Nat) := by
  unfold stp
  rw [Nat.shiftRight_eq_div_pow, if_neg (fun z => e (xor_ne.1 z))]
  exact bits_xor _ 4129 (Nat.mod_lt _ (by decide)) (by decide)
theorem u64_small {n : Nat} (h : n < 8) : IntKind.u64.wrap (n : Int) = n := by
  simp [IntKind.wrap, IntKind.bits, IntKind.signed]; omega
theorem shr_bit {x : Int} {n : Nat} (hx : 0 ≤ x ∧ x ≤ 255) (h : n < 8) : shr .u8 x n = ((x.toNat >>> n : Nat) : Int) := by
  unfold shr
  have e : min ((n : Int).toNat) IntKind.u8.bits = n := by simp [IntKind.bits]; omega
  rw [e, Nat.shiftRight_eq_div_pow]
  have : ((x.toNat : Nat) : Int) = x := by omega
  rw [← this]
  simp
theorem shiftR_lt {x : Int} (hx : 0 ≤ x ∧ x ≤ 255) (n : Nat) : x.toNat >>> n < 256 := by
  rw [Nat.shiftRight_eq_div_pow]
  exact Nat.lt_of_le_of_lt (Nat.div_le_self _ _) (by omega)
theorem tbits {l : List Int} {x i : Int} (hx : 0 ≤ x ∧ x ≤ 255) {q : Int} : ∀ (n r : Nat), n ≤ 8 → r < 65536 →
    Ev (fun k => telegram_Check.l0 k ((byt r x.toNat n : Nat) : Int) l (l.length : Int) (wrap64 (i + 1))) q → Ev (fun k => telegram_Check.l1 k (r : Int) x ((n : Int) - 1) l (l.length : Int) i) q := by
  intro n
  induction n with
  | zero =>
    intro r _ _ h
    refine Ev.step (f := fun k => telegram_Check.l0 k (r : Int) l (l.length : Int) (wrap64 (i + 1))) (fun k => ?_) h
    simp only [telegram_Check.l1]
    rw [if_neg (by omega)]
  | succ n ih =>
    intro r hn hr h
    have hs := shiftR_lt hx n
    have hsb := shr_bit hx (n := n) (by omega)
    have hbo : bitOf x.toNat n = (x.toNat >>> n) % 2 := rfl
    generalize x.toNat >>> n = s at hs hsb hbo
    refine Ev.step (f := fun k => telegram_Check.l1 k ((stp r (bitOf x.toNat n) : Nat) : Int) x ((n : Int) - 1) l (l.length : Int) i) (fun k => ?_) (ih _ (by omega) (stp_lt _ _) h)
    simp only [telegram_Check.l1]
    rw [show ((n + 1 : Nat) : Int) - 1 = (n : Int) by omega, u64_small (by omega), hsb, w64 (n := (s : Int)) (by omega) (by omega), and_one (s : Int) (by omega) (by omega), shift_in hr, w64 (n := (n : Int) - 1) (by omega) (by omega)]
    rw [if_pos (by omega), if_pos (by omega)]
    by_cases e : r / 32768 = bitOf x.toNat n
    · have e' : (r : Int) / 32768 = (s : Int) % 2 := by rw [hbo] at e; omega
      rw [if_pos e', stp_eq hr e]
    · have e' : ¬ (r : Int) / 32768 = (s : Int) % 2 := by rw [hbo] at e; omega
      rw [if_neg e', stp_ne hr e]
theorem drop_cons {l : List Int} {i : Nat} (h : i < l.length) : l.drop i = rd l i :: l.drop (i + 1) := by
  rw [List.drop_eq_getElem_cons h]
  congr 1
  unfold rd
  rw [List.getD_eq_getElem?_getD, Int.toNat_natCast, List.getElem?_eq_getElem h]
  rfl
theorem tcheck_from {l : List Int} (hl : l.length ≤ 1000000) (hb : ∀ x ∈ l, 0 ≤ x ∧ x ≤ 255) : ∀ (d i r : Nat), r < 65536 → i + d = l.length →
    Ev (fun k => telegram_Check.l0 k (r : Int) l (l.length : Int) (i : Int)) ((crc r (l.drop i) : Nat) : Int) := by
  intro d
  induction d with
  | zero =>
    intro i r _ hi
    refine Ev.step (f := fun _ => some (r : Int)) (fun k => ?_) (by rw [List.drop_of_length_le (by omega)]; exact Ev.now _)
    simp only [telegram_Check.l0]
    rw [if_neg (by omega)]
  | succ d ih =>
    intro i r hr hi
    have hx := hb _ (rd_mem (l := l) (i := i) (by omega) (by omega))
    refine Ev.step (f := fun k => telegram_Check.l1 k (r : Int) (rd l i) 7 l (l.length : Int) (i : Int)) (fun k => ?_) ?_
    · simp only [telegram_Check.l0]
      rw [if_pos (by omega), if_pos (by omega), if_pos (by omega)]
    · refine tbits hx 8 r (by omega) hr ?_
      rw [w64 (by omega) (by omega), drop_cons (by omega)]
      exact ih (i + 1) _ (byt_lt hr _ _) (by omega)
theorem tcheck {l : List Int} (hl : l.length ≤ 1000000) (hb : ∀ x ∈ l, 0 ≤ x ∧ x ≤ 255) : Ev (fun k => telegram_Check.f k l) ((crc 65535 l : Nat) : Int) := by
  have h := tcheck_from hl hb l.length 0 65535 (by decide) (by omega)
  rw [List.drop_zero] at h
  exact h
theorem rbits {l : List Int} {i : Int} (h0 : 0 ≤ i) (h1 : i < l.length) (hx : 0 ≤ rd l i ∧ rd l i ≤ 255) {q : Int} : ∀ (n r : Nat), n ≤ 8 → r < 65536 →
    Ev (fun k => minecontrolref04_Check.l0 k l ((byt r (rd l i).toNat n : Nat) : Int) (wrap64 (i + 1))) q → Ev (fun k => minecontrolref04_Check.l1 k l (r : Int) i ((n : Int) - 1)) q := by
  intro n
  induction n with
  | zero =>
    intro r _ _ h
    refine Ev.step (f := fun k => minecontrolref04_Check.l0 k l (r : Int) (wrap64 (i + 1))) (fun k => ?_) h
    simp only [minecontrolref04_Check.l1]
    rw [if_neg (by omega)]
  | succ n ih =>
    intro r hn hr h
    have hs := shiftR_lt hx n
    have hsb := shr_bit hx (n := n) (by omega)
    have hbo : bitOf (rd l i).toNat n = ((rd l i).toNat >>> n) % 2 := rfl
    generalize (rd l i).toNat >>> n = s at hs hsb hbo
    refine Ev.step (f := fun k => minecontrolref04_Check.l1 k l ((stp r (bitOf (rd l i).toNat n) : Nat) : Int) i ((n : Int) - 1)) (fun k => ?_) (ih _ (by omega) (stp_lt _ _) h)
    simp only [minecontrolref04_Check.l1]
    rw [show ((n + 1 : Nat) : Int) - 1 = (n : Int) by omega, u64_small (by omega), hsb, and_one8 (s : Int) (by omega) (by omega), w64 (n := (s : Int) % 2) (by omega) (by omega), and_one ((r : Int) / 32768) (by omega) (by omega), shift_in hr, w64 (n := (n : Int) - 1) (by omega) (by omega)]
    rw [if_pos (by omega), if_pos h0, if_pos h1, if_pos (by omega)]
    by_cases e : r / 32768 = bitOf (rd l i).toNat n
    · have e' : (r : Int) / 32768 % 2 = (s : Int) % 2 := by rw [hbo] at e; omega
      rw [if_pos e', stp_eq hr e]
    · have e' : ¬ (r : Int) / 32768 % 2 = (s : Int) % 2 := by rw [hbo] at e; omega
      rw [if_neg e', stp_ne hr e]
theorem rcheck_from {l : List Int} (hl : l.length ≤ 1000000) (hb : ∀ x ∈ l, 0 ≤ x ∧ x ≤ 255) : ∀ (d i r : Nat), r < 65536 → i + d = l.length →
    Ev (fun k => minecontrolref04_Check.l0 k l (r : Int) (i : Int)) ((crc r (l.drop i) : Nat) : Int) := by
  intro d
  induction d with
  | zero =>
    intro i r _ hi
    refine Ev.step (f := fun _ => some (r : Int)) (fun k => ?_) (by rw [List.drop_of_length_le (by omega)]; exact Ev.now _)
    simp only [minecontrolref04_Check.l0]
    rw [if_neg (by omega)]
  | succ d ih =>
    intro i r hr hi
    have hx := hb _ (rd_mem (l := l) (i := i) (by omega) (by omega))
    refine Ev.step (f := fun k => minecontrolref04_Check.l1 k l (r : Int) (i : Int) 7) (fun k => ?_) ?_
    · simp only [minecontrolref04_Check.l0]
      rw [if_pos (by omega)]
    · refine rbits (by omega) (by omega) hx 8 r (by omega) hr ?_
      rw [w64 (by omega) (by omega), drop_cons (by omega)]
      exact ih (i + 1) _ (byt_lt hr _ _) (by omega)
theorem rcheck {l : List Int} (hl : l.length ≤ 1000000) (hb : ∀ x ∈ l, 0 ≤ x ∧ x ≤ 255) : Ev (fun k => minecontrolref04_Check.f k l) ((crc 65535 l : Nat) : Int) := by
  have h := rcheck_from hl hb l.length 0 65535 (by decide) (by omega)
  rw [List.drop_zero] at h
  exact h
/-- What comes next, in front of some bytes. -/
inductive Nxt where
  | drop
  | wait
  | take
deriving DecidableEq
def Bt (l : List Int) : Prop := ∀ x ∈ l, 0 ≤ x ∧ x ≤ 255
def body (l : List Int) : List Int := (l.take (4 + (rd l 1).toNat)).drop 1
def fr (l : List Int) : S24 := ⟨rd l 2, rd l 3, (l.take (4 + (rd l 1).toNat)).drop 4⟩
def right (l : List Int) : Prop := (crc 65535 (body l) : Int) = rd l (4 + rd l 1) * 256 + rd l (5 + rd l 1)
instance (l : List Int) : Decidable (right l) := by unfold right; infer_instance
def nxt (l : List Int) : Nxt :=
  if rd l 0 ≠ 126 then .drop else if 1 < (l.length : Int) ∧ rd l 1 > 64 then .drop
  else if (l.length : Int) < 2 ∨ (l.length : Int) < rd l 1 + 6 then .wait else if right l then .take else .drop
def parse (l : List Int) : List Int × Nat × List S24 :=
  if _h : l = [] then ([], 0, []) else
  match nxt l with
  | .drop => let p := parse (l.drop 1); (p.1, p.2.1 + 1, p.2.2)
  | .wait => (l, 0, [])
  | .take => let p := parse (l.drop ((rd l 1).toNat + 6)); (p.1, p.2.1, fr l :: p.2.2)
termination_by l.length
decreasing_by
  all_goals
    have := List.length_pos_iff.2 _h
    rw [List.length_drop]; omega
theorem parse_nil : parse [] = ([], 0, []) := by rw [parse]; rfl
theorem parse_drop {l : List Int} (h : l ≠ []) (e : nxt l = .drop) : parse l = ((parse (l.drop 1)).1, (parse (l.drop 1)).2.1 + 1, (parse (l.drop 1)).2.2) := by
  rw [parse, dif_neg h, e]
theorem parse_wait {l : List Int} (h : l ≠ []) (e : nxt l = .wait) : parse l = (l, 0, []) := by
  rw [parse, dif_neg h, e]
theorem parse_take {l : List Int} (h : l ≠ []) (e : nxt l = .take) : parse l = ((parse (l.drop ((rd l 1).toNat + 6))).1, (parse (l.drop ((rd l 1).toNat + 6))).2.1, fr l :: (parse (l.drop ((rd l 1).toNat + 6))).2.2) := by
  rw [parse, dif_neg h, e]
/-- How a count grows, one by one. -/
def dropN (d : Int) : Nat → Int
  | 0 => d
  | n + 1 => dropN (wrap64 (d + 1)) n
theorem Bt.drop {l : List Int} (h : Bt l) (n : Nat) : Bt (l.drop n) := fun x hx => h x (List.mem_of_mem_drop hx)
theorem Bt.take {l : List Int} (h : Bt l) (n : Nat) : Bt (l.take n) := fun x hx => h x (List.mem_of_mem_take hx)
theorem Bt.append {l m : List Int} (h : Bt l) (h2 : Bt m) : Bt (l ++ m) := fun x hx => (List.mem_append.1 hx).elim (h x) (h2 x)
theorem Bt.rd {l : List Int} (h : Bt l) (i : Int) : 0 ≤ rd l i ∧ rd l i ≤ 255 := by
  unfold YtacogcnckhgjbaaW.PrintWords.rd
  by_cases hi : i.toNat < l.length
  · rw [List.getD_eq_getElem?_getD, List.getElem?_eq_getElem hi]
    exact h _ (List.getElem_mem hi)
  · rw [List.getD_eq_getElem?_getD, List.getElem?_eq_none (by omega)]
    exact ⟨by decide, by decide⟩
theorem Bt.body {l : List Int} (h : Bt l) : Bt (body l) := (h.take _).drop _
theorem or_two (a b : Int) (h0 : 0 ≤ a) (h1 : a ≤ 255) (h2 : 0 ≤ b) (h3 : b ≤ 255) : Go.bits .or .i64 (wrap64 (a * 256)) b = a * 256 + b := by
  rw [w64 (by omega) (by omega)]
  exact bits_join .i64 63 (by decide) wraps_i64 8 (a * 256) b (by omega) (by omega) (by omega) h2 (by omega) (by omega)
/-- The facts of a telegram that is whole. -/
structure Whole (l : List Int) : Prop where
  b : Bt l
  n0 : 0 ≤ rd l 1
  n1 : rd l 1 ≤ 64
  len : rd l 1 + 6 ≤ (l.length : Int)
  big : l.length ≤ 1000000
theorem feed_drop {l : List Int} (hl : l ≠ []) (hb : l.length ≤ 1000000) {q : List Int × Int × List S24} (fs : List S24) (d : Int) (e : rd l 0 ≠ 126 ∨ (1 < (l.length : Int) ∧ rd l 1 > 64)) (hB : Bt l)
    (h : Ev (fun k => telegram_Feed.l0 k (l.drop 1) fs (wrap64 (d + 1))) q) : Ev (fun k => telegram_Feed.l0 k l fs d) q := by
  have hp := List.length_pos_iff.2 hl
  have h1 := hB.rd 1
  have hj : Ev (fun k => telegram_Feed.j1 k l fs d true) q := by
    refine Ev.step (f := fun k => telegram_Feed.l0 k (l.drop 1) fs (wrap64 (d + 1))) (fun k => ?_) h
    simp only [telegram_Feed.j1, if_true]
    rw [if_pos (by omega)]; rfl
  refine Ev.step (f := fun k => telegram_Feed.j1 k l fs d true) (fun k => ?_) hj
  simp only [telegram_Feed.l0]
  rw [if_pos (by omega), if_pos (by omega)]
  by_cases h0 : rd l 0 = 126
  · have e2 := e.resolve_left (fun z => z h0)
    rw [if_pos h0, if_pos e2.1, if_pos e2.1, w64 (by omega) (by omega), decide_eq_true e2.2]
  · rw [if_neg h0]
theorem feed_j1 {l : List Int} (hl : l ≠ []) (hB : Bt l) (fs : List S24) (d : Int) (h0 : rd l 0 = 126) (h1 : ¬ (1 < (l.length : Int) ∧ rd l 1 > 64)) {q : List Int × Int × List S24}
    (h : Ev (fun k => telegram_Feed.j1 k l fs d false) q) : Ev (fun k => telegram_Feed.l0 k l fs d) q := by
  have hp := List.length_pos_iff.2 hl
  have hr := hB.rd 1
  refine Ev.step (f := fun k => telegram_Feed.j1 k l fs d false) (fun k => ?_) h
  simp only [telegram_Feed.l0]
  rw [if_pos (by omega), if_pos (by omega), if_pos h0]
  by_cases h2 : 1 < (l.length : Int)
  · rw [if_pos h2, if_pos h2, w64 (by omega) (by omega), decide_eq_false (fun z => h1 ⟨h2, z⟩)]
  · rw [if_neg h2]
theorem feed_wait {l : List Int} (hl : l ≠ []) (hb : l.length ≤ 1000000) (fs : List S24) (d : Int) (hB : Bt l) (h0 : rd l 0 = 126) (h1 : ¬ (1 < (l.length : Int) ∧ rd l 1 > 64)) (h2 : (l.length : Int) < 2 ∨ (l.length : Int) < rd l 1 + 6) :
    Ev (fun k => telegram_Feed.l0 k l fs d) (l, d, fs) := by
  have hp := List.length_pos_iff.2 hl
  have hr := hB.rd 1
  refine feed_j1 hl hB fs d h0 h1 ?_
  have hj : Ev (fun k => telegram_Feed.j2 k l fs d true) (l, d, fs) := by
    refine Ev.step (f := fun _ => some (l, d, fs)) (fun k => ?_) (Ev.now _)
    simp only [telegram_Feed.j2, if_true]
    rw [if_pos (by simp; omega)]; rfl
  refine Ev.step (f := fun k => telegram_Feed.j2 k l fs d true) (fun k => ?_) hj
  simp only [telegram_Feed.j1, Bool.false_eq_true, if_false]
  by_cases h3 : (l.length : Int) < 2
  · rw [if_pos h3]
  · have h4 := h2.resolve_left h3
    rw [if_neg h3, if_pos (by omega), w64 (n := rd l 1) (by omega) (by omega), w64 (by omega) (by omega), decide_eq_true h4]
theorem feed_j2 {l : List Int} (hw : Whole l) (fs : List S24) (d : Int) (h0 : rd l 0 = 126) {q : List Int × Int × List S24}
    (h : Ev (fun k => telegram_Feed.j2 k l fs d false) q) : Ev (fun k => telegram_Feed.l0 k l fs d) q := by
  obtain ⟨hB, n0, n1, hlen, hb⟩ := hw
  have hl : l ≠ [] := by rintro rfl; simp at hlen; omega
  refine feed_j1 hl hB fs d h0 (by omega) ?_
  refine Ev.step (f := fun k => telegram_Feed.j2 k l fs d false) (fun k => ?_) h
  simp only [telegram_Feed.j1, Bool.false_eq_true, if_false]
  rw [if_neg (by omega), if_pos (by omega), w64 (n := rd l 1) (by omega) (by omega), w64 (by omega) (by omega), decide_eq_false (by omega)]
theorem body_len {l : List Int} (hw : Whole l) : (body l).length ≤ 1000000 := by
  have := hw.big
  unfold body
  rw [List.length_drop, List.length_take]; omega
theorem body_as {l : List Int} (n0 : 0 ≤ rd l 1) (_h : rd l 1 ≤ 64) : ((l.take ((4 + rd l 1 : Int)).toNat).drop 1) = body l := by
  unfold body
  rw [show (4 + rd l 1).toNat = 4 + (rd l 1).toNat by omega]
theorem data_as {l : List Int} (n0 : 0 ≤ rd l 1) (_h : rd l 1 ≤ 64) : ((l.take ((4 + rd l 1 : Int)).toNat).drop 4) = (l.take (4 + (rd l 1).toNat)).drop 4 := by
  rw [show (4 + rd l 1).toNat = 4 + (rd l 1).toNat by omega]
theorem feed_bad {l : List Int} (hw : Whole l) (fs : List S24) (d : Int) (h0 : rd l 0 = 126) (hr : ¬ right l) {q : List Int × Int × List S24}
    (h : Ev (fun k => telegram_Feed.l0 k (l.drop 1) fs (wrap64 (d + 1))) q) : Ev (fun k => telegram_Feed.l0 k l fs d) q := by
  refine feed_j2 hw fs d h0 ?_
  obtain ⟨K1, hc⟩ := tcheck (body_len hw) hw.b.body
  obtain ⟨K2, h⟩ := h
  obtain ⟨hB, n0, n1, hlen, hb⟩ := hw
  have a4 := hB.rd (4 + rd l 1)
  have a5 := hB.rd (5 + rd l 1)
  refine ⟨max K1 K2 + 1, fun k hk => ?_⟩
  obtain ⟨m, rfl⟩ : ∃ m, k = m + 1 := ⟨k - 1, by omega⟩
  have c1 : telegram_Check.f m (body l) = some ((crc 65535 (body l) : Nat) : Int) := hc m (by omega)
  have h1 := h m (by omega)
  show telegram_Feed.j2 (m + 1) l fs d false = some q
  simp only [telegram_Feed.j2, Bool.false_eq_true, if_false]
  rw [w64 (n := rd l 1) (by omega) (by omega), w64 (n := 4 + rd l 1) (by omega) (by omega), w64 (n := 5 + rd l 1) (by omega) (by omega)]
  rw [if_pos (by omega), if_pos (by omega), if_pos (by omega), body_as n0 n1, c1]
  simp only [Option.bind_some]
  rw [if_pos (by omega), if_pos (by omega), if_pos (by omega), if_pos (by omega), w64 (n := rd l (4 + rd l 1)) (by omega) (by omega), w64 (n := rd l (5 + rd l 1)) (by omega) (by omega), or_two _ _ a4.1 a4.2 a5.1 a5.2, if_neg (show ¬ ((crc 65535 (body l) : Nat) : Int) = rd l (4 + rd l 1) * 256 + rd l (5 + rd l 1) from hr), if_pos (by omega)]
  exact h1
theorem feed_good {l : List Int} (hw : Whole l) (fs : List S24) (hf : fs.length ≤ 1000000) (d : Int) (h0 : rd l 0 = 126) (hr : right l) {q : List Int × Int × List S24}
    (h : Ev (fun k => telegram_Feed.l0 k (l.drop ((rd l 1).toNat + 6)) (fs ++ [fr l]) d) q) : Ev (fun k => telegram_Feed.l0 k l fs d) q := by
  refine feed_j2 hw fs d h0 ?_
  obtain ⟨K1, hc⟩ := tcheck (body_len hw) hw.b.body
  obtain ⟨K2, h⟩ := h
  obtain ⟨hB, n0, n1, hlen, hb⟩ := hw
  have a4 := hB.rd (4 + rd l 1)
  have a5 := hB.rd (5 + rd l 1)
  have a2 := hB.rd 2
  have a3 := hB.rd 3
  refine ⟨max K1 K2 + 1, fun k hk => ?_⟩
  obtain ⟨m, rfl⟩ : ∃ m, k = m + 1 := ⟨k - 1, by omega⟩
  have c1 : telegram_Check.f m (body l) = some ((crc 65535 (body l) : Nat) : Int) := hc m (by omega)
  have h1 := h m (by omega)
  show telegram_Feed.j2 (m + 1) l fs d false = some q
  simp only [telegram_Feed.j2, Bool.false_eq_true, if_false]
  rw [w64 (n := rd l 1) (by omega) (by omega), w64 (n := 4 + rd l 1) (by omega) (by omega), w64 (n := 5 + rd l 1) (by omega) (by omega)]
  rw [if_pos (by omega), if_pos (by omega), if_pos (by omega), body_as n0 n1, c1]
  simp only [Option.bind_some]
  rw [if_pos (by omega), if_pos (by omega), if_pos (by omega), if_pos (by omega), w64 (n := rd l (4 + rd l 1)) (by omega) (by omega), w64 (n := rd l (5 + rd l 1)) (by omega) (by omega), or_two _ _ a4.1 a4.2 a5.1 a5.2, if_pos (show ((crc 65535 (body l) : Nat) : Int) = rd l (4 + rd l 1) * 256 + rd l (5 + rd l 1) from hr), if_pos (by omega), if_pos (by omega), if_pos (by omega), data_as n0 n1]
  have hdl : ((l.take (4 + (rd l 1).toNat)).drop 4).length ≤ 64 := by rw [List.length_drop, List.length_take]; omega
  rw [if_pos (by simp only [List.length_nil]; omega), if_pos (by omega), w64 (n := rd l 1 + 6) (by omega) (by omega), if_pos (by omega), if_pos (by omega), w64 (n := rd l 2) (by omega) (by omega), w64 (n := rd l 3) (by omega) (by omega)]
  rw [show (rd l 1 + 6).toNat = (rd l 1).toNat + 6 by omega]
  exact h1
theorem nxt_wait {l : List Int} (e : nxt l = .wait) : rd l 0 = 126 ∧ ¬ (1 < (l.length : Int) ∧ rd l 1 > 64) ∧ ((l.length : Int) < 2 ∨ (l.length : Int) < rd l 1 + 6) := by
  unfold nxt at e
  split at e
  · cases e
  · split at e
    · cases e
    · split at e
      · rename_i h1 h2 h3; exact ⟨by simpa using h1, h2, h3⟩
      · split at e <;> cases e
theorem nxt_take {l : List Int} (e : nxt l = .take) : rd l 0 = 126 ∧ ¬ (1 < (l.length : Int) ∧ rd l 1 > 64) ∧ ¬ ((l.length : Int) < 2 ∨ (l.length : Int) < rd l 1 + 6) ∧ right l := by
  unfold nxt at e
  split at e
  · cases e
  · split at e
    · cases e
    · split at e
      · cases e
      · split at e
        · rename_i h1 h2 h3 h4; exact ⟨by simpa using h1, h2, h3, h4⟩
        · cases e
theorem nxt_drop {l : List Int} (e : nxt l = .drop) : (rd l 0 ≠ 126 ∨ (1 < (l.length : Int) ∧ rd l 1 > 64)) ∨ rd l 0 = 126 ∧ ¬ (1 < (l.length : Int) ∧ rd l 1 > 64) ∧ ¬ ((l.length : Int) < 2 ∨ (l.length : Int) < rd l 1 + 6) ∧ ¬ right l := by
  unfold nxt at e
  split at e
  · rename_i h1; exact .inl (.inl h1)
  · split at e
    · rename_i h1 h2; exact .inl (.inr h2)
    · split at e
      · cases e
      · split at e
        · cases e
        · rename_i h1 h2 h3 h4; exact .inr ⟨by simpa using h1, h2, h3, h4⟩
theorem whole {l : List Int} (hB : Bt l) (hb : l.length ≤ 1000000) (h2 : ¬ (1 < (l.length : Int) ∧ rd l 1 > 64)) (h3 : ¬ ((l.length : Int) < 2 ∨ (l.length : Int) < rd l 1 + 6)) : Whole l :=
  ⟨hB, (hB.rd 1).1, by omega, by omega, hb⟩
theorem feed_l0 : ∀ (n : Nat) (l : List Int), l.length ≤ n → Bt l → l.length ≤ 1000000 → ∀ (fs : List S24) (d : Int), fs.length + l.length ≤ 1000000 →
    Ev (fun k => telegram_Feed.l0 k l fs d) ((parse l).1, dropN d (parse l).2.1, fs ++ (parse l).2.2) := by
  intro n
  induction n with
  | zero =>
    intro l hn _ _ fs d _
    obtain rfl : l = [] := List.length_eq_zero_iff.1 (by omega)
    rw [parse_nil]
    simp only [dropN, List.append_nil]
    refine Ev.step (f := fun _ => some ([], d, fs)) (fun k => ?_) (Ev.now _)
    simp only [telegram_Feed.l0]
    rw [if_neg (by simp), if_pos (by simp)]; rfl
  | succ n ih =>
    intro l hn hB hb fs d hf
    by_cases hl : l = []
    · subst hl; exact ih [] (by simp) hB (by simp) fs d (by simp at hf ⊢; omega)
    have hp := List.length_pos_iff.2 hl
    have hd1 : (l.drop 1).length = l.length - 1 := List.length_drop
    have hi1 := ih (l.drop 1) (by omega) (hB.drop 1) (by omega) fs (wrap64 (d + 1)) (by omega)
    cases e : nxt l with
    | drop =>
      rw [parse_drop hl e]
      simp only [dropN]
      rcases nxt_drop e with e | ⟨e0, e1, e2, e3⟩
      · exact feed_drop hl hb fs d e hB hi1
      · exact feed_bad (whole hB hb e1 e2) fs d e0 e3 hi1
    | wait =>
      obtain ⟨e0, e1, e2⟩ := nxt_wait e
      rw [parse_wait hl e]
      simp only [dropN, List.append_nil]
      exact feed_wait hl hb fs d hB e0 e1 e2
    | take =>
      obtain ⟨e0, e1, e2, e3⟩ := nxt_take e
      rw [parse_take hl e]
      have hd6 : (l.drop ((rd l 1).toNat + 6)).length = l.length - ((rd l 1).toNat + 6) := List.length_drop
      have hi6 := ih (l.drop ((rd l 1).toNat + 6)) (by omega) (hB.drop _) (by omega) (fs ++ [fr l]) d (by rw [List.length_append, List.length_singleton]; omega)
      rw [List.append_assoc] at hi6
      exact feed_good (whole hB hb e1 e2) fs (by omega) d e0 e3 hi6
theorem feed {h l : List Int} (hB : Bt h) (lB : Bt l) (hn : h.length + l.length ≤ 900000) (d : Int) :
    Ev (fun k => telegram_Feed.f k h d l) ((parse (h ++ l)).1, dropN d (parse (h ++ l)).2.1, (parse (h ++ l)).2.2) := by
  have hlen : (h ++ l).length = h.length + l.length := List.length_append
  have H := feed_l0 _ (h ++ l) (Nat.le_refl _) (hB.append lB) (by omega) [] d (by simp only [List.length_nil]; omega)
  rw [List.nil_append] at H
  refine Ev.congr (fun k => ?_) H
  unfold telegram_Feed.f
  rw [if_pos (by simp only [List.length_nil]; omega)]
  simp only [Option.bind_some, List.nil_append]
  rw [if_pos (by omega)]
/-- How many bytes telegrams have. -/
def tot : List S24 → Nat
  | [] => 0
  | f :: l => 6 + f.f2.length + tot l
theorem tot_len : ∀ l, l.length ≤ tot l
  | [] => Nat.le_refl _
  | f :: l => by simp only [tot, List.length_cons]; have := tot_len l; omega
/-- No byte is lost; what is left is short; all are bytes. -/
theorem parse_tells : ∀ (n : Nat) (l : List Int), l.length ≤ n → Bt l → l.length ≤ 1000000 →
    (parse l).2.1 + (parse l).1.length + tot (parse l).2.2 = l.length ∧ (parse l).1.length < 70 ∧ Bt (parse l).1 := by
  intro n
  induction n with
  | zero =>
    intro l hn _ _
    obtain rfl : l = [] := List.length_eq_zero_iff.1 (by omega)
    rw [parse_nil]
    exact ⟨by simp [tot], by simp, by intro x hx; simp at hx⟩
  | succ n ih =>
    intro l hn hB hb
    by_cases hl : l = []
    · subst hl; rw [parse_nil]; exact ⟨by simp [tot], by simp, by intro x hx; simp at hx⟩
    have hp := List.length_pos_iff.2 hl
    have hd1 : (l.drop 1).length = l.length - 1 := List.length_drop
    cases e : nxt l with
    | wait =>
      obtain ⟨e0, e1, e2⟩ := nxt_wait e
      rw [parse_wait hl e]
      have := hB.rd 1
      refine ⟨by simp [tot], ?_, hB⟩
      show l.length < 70
      omega
    | drop =>
      obtain ⟨i1, i2, i3⟩ := ih (l.drop 1) (by omega) (hB.drop 1) (by omega)
      rw [parse_drop hl e]
      refine ⟨?_, i2, i3⟩
      show (parse (l.drop 1)).2.1 + 1 + (parse (l.drop 1)).1.length + tot (parse (l.drop 1)).2.2 = l.length
      omega
    | take =>
      obtain ⟨e0, e1, e2, e3⟩ := nxt_take e
      have hw := whole hB hb e1 e2
      have := hw.len; have := hw.n0
      have hd6 : (l.drop ((rd l 1).toNat + 6)).length = l.length - ((rd l 1).toNat + 6) := List.length_drop
      obtain ⟨i1, i2, i3⟩ := ih (l.drop ((rd l 1).toNat + 6)) (by omega) (hB.drop _) (by omega)
      rw [parse_take hl e]
      refine ⟨?_, i2, i3⟩
      have hf : (fr l).f2.length = (rd l 1).toNat := by
        unfold fr
        rw [List.length_drop, List.length_take]; omega
      simp only [tot]
      omega
def sums (a k : Int) (d : List Int) : Nat := crc 65535 ([(d.length : Int), a, k] ++ d)
def wr (a k : Int) (d : List Int) : List Int := [126, (d.length : Int), a, k] ++ d ++ [((sums a k d / 256 : Nat) : Int), ((sums a k d % 256 : Nat) : Int)]
structure Fr (a k : Int) (d : List Int) : Prop where
  a0 : 0 ≤ a
  a1 : a ≤ 255
  k0 : 0 ≤ k
  k1 : k ≤ 255
  n : d.length ≤ 64
  b : Bt d
theorem sums_lt (a k : Int) (d : List Int) : sums a k d < 65536 := crc_lt (by decide) _
theorem wr_len (a k : Int) (d : List Int) : (wr a k d).length = 6 + d.length := by
  unfold wr
  simp only [List.length_append, List.length_cons, List.length_nil]; omega
theorem wr_bt {a k : Int} {d : List Int} (h : Fr a k d) : Bt (wr a k d) := by
  obtain ⟨a0, a1, k0, k1, n, b⟩ := h
  have hs := sums_lt a k d
  intro x hx
  unfold wr at hx
  simp only [List.mem_append, List.mem_cons, List.not_mem_nil, or_false] at hx
  rcases hx with ((rfl | rfl | rfl | rfl) | hx) | (rfl | rfl)
  · omega
  · omega
  · omega
  · omega
  · exact b x hx
  · omega
  · omega
theorem awake_ev : Ev (fun k => minecontrollaw04_awake.f k) true :=
  Ev.of minecontrollaw04_awake.mono (k := 400) (by decide +kernel)
theorem same_from (l : List S24) (hl : l.length ≤ 1000000) : ∀ (d i : Nat), i + d = l.length → Ev (fun k => minecontrolref04_Same.l0 k l l (i : Int)) true := by
  intro d
  induction d with
  | zero =>
    intro i hi
    refine Ev.step (f := fun _ => some true) (fun k => ?_) (Ev.now _)
    simp only [minecontrolref04_Same.l0]
    rw [if_neg (by omega)]
  | succ d ih =>
    intro i hi
    refine Ev.step (fun k => ?_) (ih (i + 1) (by omega))
    simp only [minecontrolref04_Same.l0]
    rw [if_pos (by omega), if_pos (by omega), if_pos (by omega), if_pos trivial, if_pos trivial, if_pos trivial, w64 (by omega) (by omega)]
    rfl
theorem same_ev (l : List S24) (hl : l.length ≤ 1000000) : Ev (fun k => minecontrolref04_Same.f k l l) true := by
  refine Ev.congr (fun k => ?_) (same_from l hl l.length 0 (by omega))
  unfold minecontrolref04_Same.f
  rw [if_pos rfl]; rfl
theorem two_bytes {a k : Int} {d : List Int} (h : Fr a k d) : ([126, ((d.length : Int)) % 256, a % 256, k % 256] : List Int) = [126, (d.length : Int), a, k] := by
  obtain ⟨a0, a1, k0, k1, n, b⟩ := h
  rw [show (d.length : Int) % 256 = d.length by omega, show a % 256 = a by omega, show k % 256 = k by omega]
theorem sums_bytes (a k : Int) (d : List Int) : ([((sums a k d : Nat) : Int) / 256 % 256, ((sums a k d : Nat) : Int) % 256] : List Int) = [((sums a k d / 256 : Nat) : Int), ((sums a k d % 256 : Nat) : Int)] := by
  have := sums_lt a k d
  rw [show ((sums a k d : Nat) : Int) / 256 % 256 = ((sums a k d / 256 : Nat) : Int) by omega, show ((sums a k d : Nat) : Int) % 256 = ((sums a k d % 256 : Nat) : Int) by omega]
theorem head_bt {a k : Int} {d : List Int} (h : Fr a k d) : Bt ([(d.length : Int), a, k] ++ d) := by
  obtain ⟨a0, a1, k0, k1, n, b⟩ := h
  intro x hx
  simp only [List.mem_append, List.mem_cons, List.not_mem_nil, or_false] at hx
  rcases hx with (rfl | rfl | rfl) | hx
  · omega
  · omega
  · omega
  · exact b x hx
theorem rwrite {a k : Int} {d : List Int} (h : Fr a k d) : Ev (fun n => minecontrolref04_Write.f n a k d) (wr a k d, 0) := by
  obtain ⟨K, hc⟩ := rcheck (l := [(d.length : Int), a, k] ++ d) (by have := h.n; simp only [List.length_append, List.length_cons, List.length_nil]; omega) (head_bt h)
  have e2 := two_bytes h
  obtain ⟨a0, a1, k0, k1, n, b⟩ := h
  refine ⟨K + 1, fun q hq => ?_⟩
  obtain ⟨m, rfl⟩ : ∃ m, q = m + 1 := ⟨q - 1, by omega⟩
  have hc' : minecontrolref04_Check.f m ([(d.length : Int), a, k] ++ d) = some ((sums a k d : Nat) : Int) := hc m (by omega)
  show minecontrolref04_Write.f (m + 1) a k d = _
  unfold minecontrolref04_Write.f
  rw [if_neg (by omega), if_neg (by omega), if_neg (by omega), decide_eq_false (by omega)]
  simp only [minecontrolref04_Write.j0, Bool.false_eq_true, if_false, Option.bind_some]
  rw [if_neg (by omega), e2, if_pos (by simp only [List.length_cons, List.length_nil]; omega), if_pos (by simp only [List.length_append, List.length_cons, List.length_nil]; omega)]
  rw [show ([126, (d.length : Int), a, k] ++ d).drop 1 = [(d.length : Int), a, k] ++ d from rfl, hc']
  simp only [Option.bind_some]
  rw [sums_bytes, if_pos (by simp only [List.length_append, List.length_cons, List.length_nil]; omega)]
  rfl
theorem frame_ev {l : List Int} {a : Int} (h : C l a) : ∃ A K D a', Ev (fun k => minecontroldraw_Codes_Frame.f k l a) (A, K, D, a') ∧ C l a' ∧ Fr A K D ∧ D.length ≤ 2 := by
  obtain ⟨A, a1, e1, c1, A0, A1, -⟩ := next_ev h 6 (by omega)
  obtain ⟨p, a2, e2, c2, p0, p1, -⟩ := next_ev c1 2 (by omega)
  obtain ⟨q, a3, e3, c3, q0, q1, -⟩ := next_ev c2 256 (by omega)
  obtain ⟨s, a4, e4, c4, s0, s1, -⟩ := next_ev c3 8 (by omega)
  have A1 := A1 (by omega); have p1 := p1 (by omega); have q1 := q1 (by omega)
  have hD : Bt [p % 256, q % 256] := by
    intro x hx
    simp only [List.mem_cons, List.not_mem_nil, or_false] at hx
    rcases hx with rfl | rfl <;> omega
  have E : ∀ {r : Int × Int × List Int × Int} (K0 : Nat), (∀ k, K0 ≤ k → (if s = 5 then (some (A, 2, ([] : List Int), a4)) else (if s = 6 then ((minecontroldraw_Codes_Next.f k l a4 4).bind fun bt216 => (some (A, bt216.1, [p % 256, q % 256], bt216.2))) else (if s = 7 then ((minecontroldraw_Codes_Next.f k l a4 3).bind fun bt218 => (if 0 ≤ bt218.1 then (if bt218.1 ≤ ((([p % 256, q % 256] : List Int).length : Nat) : Int) then (some (A, 1, (([p % 256, q % 256] : List Int).take (bt218.1 : Int).toNat), bt218.2)) else (none)) else (none))) else (some (A, 1, [p % 256, q % 256], a4))))) = some r) → Ev (fun k => minecontroldraw_Codes_Frame.f k l a) r := by
    intro r K5 H
    obtain ⟨K1, e1⟩ := e1
    obtain ⟨K2, e2⟩ := e2
    obtain ⟨K3, e3⟩ := e3
    obtain ⟨K4, e4⟩ := e4
    refine ⟨K1 + K2 + K3 + K4 + K5, fun k hk => ?_⟩
    have f1 := e1 k (by omega); have f2 := e2 k (by omega); have f3 := e3 k (by omega); have f4 := e4 k (by omega)
    dsimp only at f1 f2 f3 f4
    show minecontroldraw_Codes_Frame.f k l a = some r
    unfold minecontroldraw_Codes_Frame.f
    rw [f1]; simp only [Option.bind_some]
    rw [f2]; simp only [Option.bind_some]
    rw [f3]; simp only [Option.bind_some]
    rw [f4]; simp only [Option.bind_some]
    exact H k (by omega)
  by_cases h5 : s = 5
  · exact ⟨A, 2, [], a4, E 0 (fun k _ => by rw [if_pos h5]), c4, ⟨by omega, by omega, by omega, by omega, by simp, by intro x hx; simp at hx⟩, by simp⟩
  by_cases h6 : s = 6
  · obtain ⟨v, a5, ⟨K5, e5⟩, c5, v0, v1, -⟩ := next_ev c4 4 (by omega)
    have v1 := v1 (by omega)
    exact ⟨A, v, _, a5, E K5 (fun k hk => by have f5 := e5 k hk; dsimp only at f5; rw [if_neg h5, if_pos h6, f5]; rfl), c5, ⟨by omega, by omega, by omega, by omega, by simp, hD⟩, by simp⟩
  by_cases h7 : s = 7
  · obtain ⟨v, a5, ⟨K5, e5⟩, c5, v0, v1, -⟩ := next_ev c4 3 (by omega)
    have v1 := v1 (by omega)
    refine ⟨A, 1, [p % 256, q % 256].take v.toNat, a5, E K5 (fun k hk => ?_), c5, ⟨by omega, by omega, by omega, by omega, ?_, hD.take _⟩, ?_⟩
    · have f5 := e5 k hk
      dsimp only at f5
      rw [if_neg h5, if_neg h6, if_pos h7, f5]
      simp only [Option.bind_some]
      rw [if_pos v0, if_pos (by simp only [List.length_cons, List.length_nil]; omega)]
    · rw [List.length_take]; simp only [List.length_cons, List.length_nil]; omega
    · rw [List.length_take]; simp only [List.length_cons, List.length_nil]; omega
  · exact ⟨A, 1, _, a4, E 0 (fun k _ => by rw [if_neg h5, if_neg h6, if_neg h7]), c4, ⟨by omega, by omega, by omega, by omega, by simp, hD⟩, by simp⟩
theorem bits_u8 (op : BinOp) (x y : Int) : 0 ≤ Go.bits op .u8 x y ∧ Go.bits op .u8 x y ≤ 255 := by
  unfold Go.bits
  simp only [IntKind.wrap_u8]
  omega
theorem Bt.set {l : List Int} (h : Bt l) (i : Nat) {v : Int} (hv : 0 ≤ v ∧ v ≤ 255) : Bt (l.set i v) := by
  intro x hx
  rcases List.mem_or_eq_of_mem_set hx with hx | rfl
  · exact h x hx
  · exact hv
theorem bytes_from {l : List Int} : ∀ (n : Nat) (o : List Int) (a : Int), C l a → Bt o → o.length + 10 * n ≤ 100000 → n ≤ 1000 →
    ∃ b a', Ev (fun k => minecontroldraw_Codes_Bytes.l0 k o (n : Int) l a) (b, a') ∧ C l a' ∧ Bt b ∧ b.length ≤ o.length + 10 * n := by
  intro n
  induction n with
  | zero =>
    intro o a hc ho hl _
    refine ⟨o, a, Ev.step (f := fun _ => some (o, a)) (fun k => ?_) (Ev.now _), hc, ho, by omega⟩
    simp only [minecontroldraw_Codes_Bytes.l0]
    rw [if_neg (by omega)]
  | succ n ih =>
    intro o a hc ho hl hn
    obtain ⟨A, K, D, a1, e1, c1, hf, hd⟩ := frame_ev hc
    have e2 := rwrite hf
    have hwl := wr_len A K D
    have hwb := wr_bt hf
    obtain ⟨s, a2, e3, c2, s0, s1, -⟩ := next_ev c1 6 (by omega)
    have E : ∀ {r : List Int × Int} (K0 : Nat), (∀ k, K0 ≤ k → minecontroldraw_Codes_Frame.f k l a = some (A, K, D, a1) → minecontrolref04_Write.f k A K D = some (wr A K D, 0) → minecontroldraw_Codes_Next.f k l a1 6 = some (s, a2) → minecontroldraw_Codes_Bytes.l0 (k + 1) o ((n + 1 : Nat) : Int) l a = some r) → Ev (fun k => minecontroldraw_Codes_Bytes.l0 k o ((n + 1 : Nat) : Int) l a) r := by
      intro r K0 H
      obtain ⟨K1, e1⟩ := e1
      obtain ⟨K2, e2⟩ := e2
      obtain ⟨K3, e3⟩ := e3
      refine ⟨K1 + K2 + K3 + K0 + 1, fun k hk => ?_⟩
      obtain ⟨m, rfl⟩ : ∃ m, k = m + 1 := ⟨k - 1, by omega⟩
      exact H m (by omega) (e1 m (by omega)) (e2 m (by omega)) (e3 m (by omega))
    have w1 : wrap64 (((n + 1 : Nat) : Int) - 1) = (n : Int) := by rw [w64 (by omega) (by omega)]; omega
    by_cases h3 : s = 3
    · obtain ⟨i, a3, ⟨K4, e4⟩, c3, i0, i1, -⟩ := next_ev c2 ((wr A K D).length : Int) (by omega)
      have i1 := i1 (by omega)
      obtain ⟨j, a4, ⟨K5, e5⟩, c4, j0, j1, -⟩ := next_ev c3 8 (by omega)
      have j1 := j1 (by omega)
      have hju : IntKind.u64.wrap j = j := by simp [IntKind.wrap, IntKind.bits, IntKind.signed]; omega
      obtain ⟨b, a', ⟨K6, ev⟩, cb, bb, bl⟩ := ih (o ++ (wr A K D).set i.toNat (Go.bits .xor .u8 (rd (wr A K D) i) (shl .u8 1 j))) a4 c4 (ho.append (hwb.set _ (bits_u8 _ _ _))) (by rw [List.length_append, List.length_set]; omega) (by omega)
      rw [List.length_append, List.length_set] at bl
      refine ⟨b, a', E (K4 + K5 + K6) ?_, cb, bb, by omega⟩
      intro k hk f1 f2 f3
      have f4 := e4 k (by omega); have f5 := e5 k (by omega); have f6 := ev k (by omega)
      dsimp only at f4 f5 f6
      simp only [minecontroldraw_Codes_Bytes.l0]
      rw [if_pos (by omega), f1]; simp only [Option.bind_some]
      rw [f2]; simp only [Option.bind_some]
      rw [f3]; simp only [Option.bind_some]
      rw [if_pos h3, f4]; simp only [Option.bind_some]
      rw [if_pos i0, if_pos i1, f5]; simp only [Option.bind_some]
      rw [hju, if_pos j0, if_pos (by rw [List.length_set]; omega), w1]
      exact f6
    by_cases h4 : s = 4
    · obtain ⟨i, a3, ⟨K4, e4⟩, c3, i0, i1, -⟩ := next_ev c2 (((wr A K D).length : Int) + 1) (by omega)
      have i1 := i1 (by omega)
      have htl : ((wr A K D).take i.toNat).length ≤ (wr A K D).length := by rw [List.length_take]; omega
      obtain ⟨b, a', ⟨K6, ev⟩, cb, bb, bl⟩ := ih (o ++ (wr A K D).take i.toNat) a3 c3 (ho.append (hwb.take _)) (by rw [List.length_append]; omega) (by omega)
      rw [List.length_append] at bl
      refine ⟨b, a', E (K4 + K6) ?_, cb, bb, by omega⟩
      intro k hk f1 f2 f3
      have f4 := e4 k (by omega); have f6 := ev k (by omega)
      dsimp only at f4 f6
      simp only [minecontroldraw_Codes_Bytes.l0]
      rw [if_pos (by omega), f1]; simp only [Option.bind_some]
      rw [f2]; simp only [Option.bind_some]
      rw [f3]; simp only [Option.bind_some]
      rw [if_neg h3, if_pos h4, w64 (n := ((wr A K D).length : Int) + 1) (by omega) (by omega), f4]; simp only [Option.bind_some]
      rw [if_pos i0, if_pos (by omega), if_pos (by omega), w1]
      exact f6
    by_cases h5 : s = 5
    · obtain ⟨i, a3, ⟨K4, e4⟩, c3, i0, i1, -⟩ := next_ev c2 256 (by omega)
      have i1 := i1 (by omega)
      have hib : Bt [i % 256, 126] := by
        intro x hx
        simp only [List.mem_cons, List.not_mem_nil, or_false] at hx
        rcases hx with rfl | rfl <;> omega
      have hil : ([i % 256, 126] : List Int).length = 2 := rfl
      obtain ⟨b, a', ⟨K6, ev⟩, cb, bb, bl⟩ := ih (o ++ [i % 256, 126] ++ wr A K D) a3 c3 ((ho.append hib).append hwb) (by rw [List.length_append, List.length_append]; omega) (by omega)
      rw [List.length_append, List.length_append] at bl
      refine ⟨b, a', E (K4 + K6) ?_, cb, bb, by omega⟩
      intro k hk f1 f2 f3
      have f4 := e4 k (by omega); have f6 := ev k (by omega)
      dsimp only at f4 f6
      simp only [minecontroldraw_Codes_Bytes.l0]
      rw [if_pos (by omega), f1]; simp only [Option.bind_some]
      rw [f2]; simp only [Option.bind_some]
      rw [f3]; simp only [Option.bind_some]
      rw [if_neg h3, if_neg h4, if_pos h5, f4]; simp only [Option.bind_some]
      rw [if_pos (by omega), if_pos (by rw [List.length_append]; omega), w1]
      exact f6
    · obtain ⟨b, a', ⟨K6, ev⟩, cb, bb, bl⟩ := ih (o ++ wr A K D) a2 c2 (ho.append hwb) (by rw [List.length_append]; omega) (by omega)
      rw [List.length_append] at bl
      refine ⟨b, a', E K6 ?_, cb, bb, by omega⟩
      intro k hk f1 f2 f3
      have f6 := ev k (by omega)
      dsimp only at f6
      simp only [minecontroldraw_Codes_Bytes.l0]
      rw [if_pos (by omega), f1]; simp only [Option.bind_some]
      rw [f2]; simp only [Option.bind_some]
      rw [f3]; simp only [Option.bind_some]
      rw [if_neg h3, if_neg h4, if_neg h5, if_pos (by omega), w1]
      exact f6
theorem bytes_ev {l : List Int} {a : Int} (h : C l a) (most : Int) (h0 : 0 ≤ most) (h1 : most ≤ 100) : ∃ b a', Ev (fun k => minecontroldraw_Codes_Bytes.f k l a most) (b, a') ∧ C l a' ∧ Bt b ∧ b.length ≤ 1010 := by
  obtain ⟨n, a1, ⟨K1, e1⟩, c1, n0, n1, -⟩ := next_ev h (most + 1) (by omega)
  have n1 := n1 (by omega)
  obtain ⟨m, rfl⟩ : ∃ m : Nat, n = (m : Int) := ⟨n.toNat, by omega⟩
  obtain ⟨b, a', ⟨K2, ev⟩, cb, bb, bl⟩ := bytes_from (l := l) m [] a1 c1 (by intro x hx; simp at hx) (by simp only [List.length_nil]; omega) (by omega)
  simp only [List.length_nil] at bl
  refine ⟨b, a', ⟨K1 + K2, fun k hk => ?_⟩, cb, bb, by omega⟩
  have f1 := e1 k (by omega); have f2 := ev k (by omega)
  dsimp only at f1 f2
  show minecontroldraw_Codes_Bytes.f k l a most = _
  unfold minecontroldraw_Codes_Bytes.f
  rw [w64 (by omega) (by omega), f1]; simp only [Option.bind_some]
  exact f2
theorem rfeed_drop {l : List Int} (hl : l ≠ []) (hb : l.length ≤ 1000000) {q : List Int × Int × List S24} (fs : List S24) (d : Int) (e : rd l 0 ≠ 126 ∨ (1 < (l.length : Int) ∧ rd l 1 > 64)) (hB : Bt l)
    (h : Ev (fun k => minecontrolref04_Feed.l0 k (l.drop 1) fs (wrap64 (d + 1))) q) : Ev (fun k => minecontrolref04_Feed.l0 k l fs d) q := by
  have hp := List.length_pos_iff.2 hl
  have h1 := hB.rd 1
  have hj : Ev (fun k => minecontrolref04_Feed.j1 k l fs true d) q := by
    refine Ev.step (f := fun k => minecontrolref04_Feed.l0 k (l.drop 1) fs (wrap64 (d + 1))) (fun k => ?_) h
    simp only [minecontrolref04_Feed.j1, if_true]
    rw [if_pos (by omega)]; rfl
  refine Ev.step (f := fun k => minecontrolref04_Feed.j1 k l fs true d) (fun k => ?_) hj
  simp only [minecontrolref04_Feed.l0]
  rw [if_pos (by omega), if_pos (by omega)]
  by_cases h0 : rd l 0 = 126
  · have e2 := e.resolve_left (fun z => z h0)
    rw [if_pos h0, if_pos e2.1, if_pos e2.1, w64 (by omega) (by omega), decide_eq_true e2.2]
  · rw [if_neg h0]
theorem rfeed_j1 {l : List Int} (hl : l ≠ []) (hB : Bt l) (fs : List S24) (d : Int) (h0 : rd l 0 = 126) (h1 : ¬ (1 < (l.length : Int) ∧ rd l 1 > 64)) {q : List Int × Int × List S24}
    (h : Ev (fun k => minecontrolref04_Feed.j1 k l fs false d) q) : Ev (fun k => minecontrolref04_Feed.l0 k l fs d) q := by
  have hp := List.length_pos_iff.2 hl
  have hr := hB.rd 1
  refine Ev.step (f := fun k => minecontrolref04_Feed.j1 k l fs false d) (fun k => ?_) h
  simp only [minecontrolref04_Feed.l0]
  rw [if_pos (by omega), if_pos (by omega), if_pos h0]
  by_cases h2 : 1 < (l.length : Int)
  · rw [if_pos h2, if_pos h2, w64 (by omega) (by omega), decide_eq_false (fun z => h1 ⟨h2, z⟩)]
  · rw [if_neg h2]
theorem rfeed_wait {l : List Int} (hl : l ≠ []) (hb : l.length ≤ 1000000) (fs : List S24) (d : Int) (hB : Bt l) (h0 : rd l 0 = 126) (h1 : ¬ (1 < (l.length : Int) ∧ rd l 1 > 64)) (h2 : (l.length : Int) < 2 ∨ (l.length : Int) < rd l 1 + 6) :
    Ev (fun k => minecontrolref04_Feed.l0 k l fs d) (l, d, fs) := by
  have hp := List.length_pos_iff.2 hl
  have hr := hB.rd 1
  refine rfeed_j1 hl hB fs d h0 h1 ?_
  have hj : Ev (fun k => minecontrolref04_Feed.j2 k l fs true d) (l, d, fs) := by
    refine Ev.step (f := fun _ => some (l, d, fs)) (fun k => ?_) (Ev.now _)
    simp only [minecontrolref04_Feed.j2, if_true]
    rw [if_pos (by simp; omega)]; rfl
  refine Ev.step (f := fun k => minecontrolref04_Feed.j2 k l fs true d) (fun k => ?_) hj
  simp only [minecontrolref04_Feed.j1, Bool.false_eq_true, if_false]
  by_cases h3 : (l.length : Int) < 2
  · rw [if_pos h3]
  · have h4 := h2.resolve_left h3
    rw [if_neg h3, if_pos (by omega), w64 (n := rd l 1) (by omega) (by omega), Int.add_comm 6 (rd l 1), w64 (by omega) (by omega), decide_eq_true h4]
theorem rfeed_j2 {l : List Int} (hw : Whole l) (fs : List S24) (d : Int) (h0 : rd l 0 = 126) {q : List Int × Int × List S24}
    (h : Ev (fun k => minecontrolref04_Feed.j2 k l fs false d) q) : Ev (fun k => minecontrolref04_Feed.l0 k l fs d) q := by
  obtain ⟨hB, n0, n1, hlen, hb⟩ := hw
  have hl : l ≠ [] := by rintro rfl; simp at hlen; omega
  refine rfeed_j1 hl hB fs d h0 (by omega) ?_
  refine Ev.step (f := fun k => minecontrolref04_Feed.j2 k l fs false d) (fun k => ?_) h
  simp only [minecontrolref04_Feed.j1, Bool.false_eq_true, if_false]
  rw [if_neg (by omega), if_pos (by omega), w64 (n := rd l 1) (by omega) (by omega), Int.add_comm 6 (rd l 1), w64 (by omega) (by omega), decide_eq_false (by omega)]
theorem rfeed_bad {l : List Int} (hw : Whole l) (fs : List S24) (d : Int) (h0 : rd l 0 = 126) (hr : ¬ right l) {q : List Int × Int × List S24}
    (h : Ev (fun k => minecontrolref04_Feed.l0 k (l.drop 1) fs (wrap64 (d + 1))) q) : Ev (fun k => minecontrolref04_Feed.l0 k l fs d) q := by
  refine rfeed_j2 hw fs d h0 ?_
  obtain ⟨K1, hc⟩ := rcheck (body_len hw) hw.b.body
  obtain ⟨K2, h⟩ := h
  obtain ⟨hB, n0, n1, hlen, hb⟩ := hw
  have a4 := hB.rd (4 + rd l 1)
  have a5 := hB.rd (5 + rd l 1)
  refine ⟨max K1 K2 + 1, fun k hk => ?_⟩
  obtain ⟨m, rfl⟩ : ∃ m, k = m + 1 := ⟨k - 1, by omega⟩
  have c1 : minecontrolref04_Check.f m (body l) = some ((crc 65535 (body l) : Nat) : Int) := hc m (by omega)
  have h1 := h m (by omega)
  show minecontrolref04_Feed.j2 (m + 1) l fs false d = some q
  simp only [minecontrolref04_Feed.j2, Bool.false_eq_true, if_false]
  rw [w64 (n := rd l 1) (by omega) (by omega), w64 (n := 4 + rd l 1) (by omega) (by omega), w64 (n := 5 + rd l 1) (by omega) (by omega)]
  rw [if_pos (by omega), if_pos (by omega), if_pos (by omega), body_as n0 n1, c1]
  simp only [Option.bind_some]
  rw [if_pos (by omega), if_pos (by omega), if_pos (by omega), if_pos (by omega), w64 (n := rd l (4 + rd l 1)) (by omega) (by omega), w64 (n := rd l (5 + rd l 1)) (by omega) (by omega), or_two _ _ a4.1 a4.2 a5.1 a5.2, if_neg (show ¬ ((crc 65535 (body l) : Nat) : Int) = rd l (4 + rd l 1) * 256 + rd l (5 + rd l 1) from hr), if_pos (by omega)]
  exact h1
theorem rfeed_good {l : List Int} (hw : Whole l) (fs : List S24) (hf : fs.length ≤ 1000000) (d : Int) (h0 : rd l 0 = 126) (hr : right l) {q : List Int × Int × List S24}
    (h : Ev (fun k => minecontrolref04_Feed.l0 k (l.drop ((rd l 1).toNat + 6)) (fs ++ [fr l]) d) q) : Ev (fun k => minecontrolref04_Feed.l0 k l fs d) q := by
  refine rfeed_j2 hw fs d h0 ?_
  obtain ⟨K1, hc⟩ := rcheck (body_len hw) hw.b.body
  obtain ⟨K2, h⟩ := h
  obtain ⟨hB, n0, n1, hlen, hb⟩ := hw
  have a4 := hB.rd (4 + rd l 1)
  have a5 := hB.rd (5 + rd l 1)
  have a2 := hB.rd 2
  have a3 := hB.rd 3
  refine ⟨max K1 K2 + 1, fun k hk => ?_⟩
  obtain ⟨m, rfl⟩ : ∃ m, k = m + 1 := ⟨k - 1, by omega⟩
  have c1 : minecontrolref04_Check.f m (body l) = some ((crc 65535 (body l) : Nat) : Int) := hc m (by omega)
  have h1 := h m (by omega)
  show minecontrolref04_Feed.j2 (m + 1) l fs false d = some q
  simp only [minecontrolref04_Feed.j2, Bool.false_eq_true, if_false]
  rw [w64 (n := rd l 1) (by omega) (by omega), w64 (n := 4 + rd l 1) (by omega) (by omega), w64 (n := 5 + rd l 1) (by omega) (by omega)]
  rw [if_pos (by omega), if_pos (by omega), if_pos (by omega), body_as n0 n1, c1]
  simp only [Option.bind_some]
  rw [if_pos (by omega), if_pos (by omega), if_pos (by omega), if_pos (by omega), w64 (n := rd l (4 + rd l 1)) (by omega) (by omega), w64 (n := rd l (5 + rd l 1)) (by omega) (by omega), or_two _ _ a4.1 a4.2 a5.1 a5.2, if_pos (show ((crc 65535 (body l) : Nat) : Int) = rd l (4 + rd l 1) * 256 + rd l (5 + rd l 1) from hr), if_pos (by omega), if_pos (by omega), if_pos (by omega), data_as n0 n1]
  have hdl : ((l.take (4 + (rd l 1).toNat)).drop 4).length ≤ 64 := by rw [List.length_drop, List.length_take]; omega
  rw [if_pos (by simp only [List.length_nil]; omega), if_pos (by omega), Int.add_comm 6 (rd l 1), w64 (n := rd l 1 + 6) (by omega) (by omega), if_pos (by omega), if_pos (by omega), w64 (n := rd l 2) (by omega) (by omega), w64 (n := rd l 3) (by omega) (by omega)]
  rw [show (rd l 1 + 6).toNat = (rd l 1).toNat + 6 by omega]
  exact h1
theorem rfeed_l0 : ∀ (n : Nat) (l : List Int), l.length ≤ n → Bt l → l.length ≤ 1000000 → ∀ (fs : List S24) (d : Int), fs.length + l.length ≤ 1000000 →
    Ev (fun k => minecontrolref04_Feed.l0 k l fs d) ((parse l).1, dropN d (parse l).2.1, fs ++ (parse l).2.2) := by
  intro n
  induction n with
  | zero =>
    intro l hn _ _ fs d _
    obtain rfl : l = [] := List.length_eq_zero_iff.1 (by omega)
    rw [parse_nil]
    simp only [dropN, List.append_nil]
    refine Ev.step (f := fun _ => some ([], d, fs)) (fun k => ?_) (Ev.now _)
    simp only [minecontrolref04_Feed.l0]
    rw [if_neg (by simp), if_pos (by simp)]; rfl
  | succ n ih =>
    intro l hn hB hb fs d hf
    by_cases hl : l = []
    · subst hl; exact ih [] (by simp) hB (by simp) fs d (by simp at hf ⊢; omega)
    have hp := List.length_pos_iff.2 hl
    have hd1 : (l.drop 1).length = l.length - 1 := List.length_drop
    have hi1 := ih (l.drop 1) (by omega) (hB.drop 1) (by omega) fs (wrap64 (d + 1)) (by omega)
    cases e : nxt l with
    | drop =>
      rw [parse_drop hl e]
      simp only [dropN]
      rcases nxt_drop e with e | ⟨e0, e1, e2, e3⟩
      · exact rfeed_drop hl hb fs d e hB hi1
      · exact rfeed_bad (whole hB hb e1 e2) fs d e0 e3 hi1
    | wait =>
      obtain ⟨e0, e1, e2⟩ := nxt_wait e
      rw [parse_wait hl e]
      simp only [dropN, List.append_nil]
      exact rfeed_wait hl hb fs d hB e0 e1 e2
    | take =>
      obtain ⟨e0, e1, e2, e3⟩ := nxt_take e
      rw [parse_take hl e]
      have hd6 : (l.drop ((rd l 1).toNat + 6)).length = l.length - ((rd l 1).toNat + 6) := List.length_drop
      have hi6 := ih (l.drop ((rd l 1).toNat + 6)) (by omega) (hB.drop _) (by omega) (fs ++ [fr l]) d (by rw [List.length_append, List.length_singleton]; omega)
      rw [List.append_assoc] at hi6
      exact rfeed_good (whole hB hb e1 e2) fs (by omega) d e0 e3 hi6
theorem rfeed {h l : List Int} (hB : Bt h) (lB : Bt l) (hn : h.length + l.length ≤ 900000) (d : Int) :
    Ev (fun k => minecontrolref04_Feed.f k h d l) ((parse (h ++ l)).1, dropN d (parse (h ++ l)).2.1, (parse (h ++ l)).2.2) := by
  have hlen : (h ++ l).length = h.length + l.length := List.length_append
  have H := rfeed_l0 _ (h ++ l) (Nat.le_refl _) (hB.append lB) (by omega) [] d (by simp only [List.length_nil]; omega)
  rw [List.nil_append] at H
  refine Ev.congr (fun k => ?_) H
  unfold minecontrolref04_Feed.f
  rw [if_pos (by simp only [List.length_nil]; omega)]
  simp only [Option.bind_some, List.nil_append]
  rw [if_pos (by omega)]

end Go.Proofs.Ytacogcnckhgjbaa.Com
