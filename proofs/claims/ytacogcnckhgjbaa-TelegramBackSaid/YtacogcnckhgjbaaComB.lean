/- The check value of any bytes, by the program and by the reference, is one and the same plain number; and two rows of bytes that differ in one byte have two check values. -/
import Derived.Test.YtacogcnckhgjbaaComA
import Derived.Test.YtacogcnckhgjbaaPTelx1
import Derived.Test.YtacogcnckhgjbaaPTelx4
namespace Go.Proofs.Ytacogcnckhgjbaa.Com
open Go.RowKit Go.Proofs.Ytacogcnckhgjbaa.PTel Go.Proofs.YtacogcnckhgjbaaW.PrintWords Go.Proofs.YtacogcnckhgjbaaW.PrintLast Go.Proofs.YtacogcnckhgjbaaW.PrintMore

/-- One bit goes into the register. -/
def stp (r b : Nat) : Nat := ((r <<< 1) % 2 ^ 16) ^^^ (if (r >>> 15) ^^^ b = 0 then 0 else 4129)
def bitOf (x n : Nat) : Nat := (x >>> n) % 2 ^ 1
/-- The n lowest bits of a byte go in, the highest first. -/
def byt (r x : Nat) : Nat → Nat
  | 0 => r
  | n + 1 => byt (stp r (bitOf x n)) x n
def crc (r : Nat) : List Int → Nat
  | [] => r
  | x :: l => crc (byt r x.toNat 8) l

theorem bitOf_lt (x n : Nat) : bitOf x n < 2 := Nat.mod_lt _ (by decide)
theorem stp_lt (r b : Nat) : stp r b < 65536 := by
  unfold stp
  refine Nat.xor_lt_two_pow (n := 16) (Nat.mod_lt _ (by decide)) ?_
  split <;> decide
theorem byt_lt {r : Nat} (h : r < 65536) (x : Nat) : ∀ n, byt r x n < 65536 := by
  intro n
  induction n generalizing r with
  | zero => exact h
  | succ n ih => exact ih (stp_lt _ _)
theorem crc_lt {r : Nat} (h : r < 65536) : ∀ l, crc r l < 65536 := by
  intro l
  induction l generalizing r with
  | nil => exact h
  | cons x l ih => exact ih (byt_lt h _ _)

/-! what differs goes its own way -/
theorem xor_ne {a b : Nat} : a ^^^ b = 0 ↔ a = b :=
  ⟨fun h => by have h2 := congrArg (· ^^^ b) h; simpa [Nat.xor_assoc] using h2, by rintro rfl; simp⟩
theorem two_cases {a : Nat} (h : a < 2) : a = 0 ∨ a = 1 := by omega
theorem ite_lin {x y : Nat} (hx : x < 2) (hy : y < 2) (p : Nat) : (if x ^^^ y = 0 then 0 else p) = (if x = 0 then 0 else p) ^^^ (if y = 0 then 0 else p) := by
  rcases two_cases hx with rfl | rfl <;> rcases two_cases hy with rfl | rfl <;> simp
theorem top_lt {r : Nat} (h : r < 65536) : r >>> 15 < 2 := by
  rw [Nat.shiftRight_eq_div_pow]; omega
theorem xor_lt2 {a b : Nat} (ha : a < 2) (hb : b < 2) : a ^^^ b < 2 := Nat.xor_lt_two_pow (n := 1) ha hb
theorem stp_lin {r s b c : Nat} (hr : r < 65536) (hs : s < 65536) (hb : b < 2) (hc : c < 2) : stp (r ^^^ s) (b ^^^ c) = stp r b ^^^ stp s c := by
  unfold stp
  rw [Nat.shiftLeft_xor_distrib, Nat.xor_mod_two_pow, Nat.shiftRight_xor_distrib]
  have e : (r >>> 15 ^^^ s >>> 15) ^^^ (b ^^^ c) = (r >>> 15 ^^^ b) ^^^ (s >>> 15 ^^^ c) := by
    simp only [Nat.xor_assoc]
    congr 1
    rw [← Nat.xor_assoc, Nat.xor_comm (s >>> 15) b, Nat.xor_assoc]
  rw [e, ite_lin (xor_lt2 (top_lt hr) hb) (xor_lt2 (top_lt hs) hc)]
  simp only [Nat.xor_assoc]
  congr 1
  rw [← Nat.xor_assoc, Nat.xor_comm ((s <<< 1) % 2 ^ 16), Nat.xor_assoc]
theorem bitOf_lin (x y n : Nat) : bitOf (x ^^^ y) n = bitOf x n ^^^ bitOf y n := by
  unfold bitOf
  rw [Nat.shiftRight_xor_distrib, Nat.xor_mod_two_pow]
theorem xor16 {r s : Nat} (hr : r < 65536) (hs : s < 65536) : r ^^^ s < 65536 := Nat.xor_lt_two_pow (n := 16) hr hs
theorem byt_lin {x y : Nat} : ∀ (n : Nat) {r s : Nat}, r < 65536 → s < 65536 → byt (r ^^^ s) (x ^^^ y) n = byt r x n ^^^ byt s y n := by
  intro n
  induction n with
  | zero => intro r s _ _; rfl
  | succ n ih =>
    intro r s hr hs
    simp only [byt]
    rw [bitOf_lin, stp_lin hr hs (bitOf_lt _ _) (bitOf_lt _ _), ih (stp_lt _ _) (stp_lt _ _)]
theorem stp_zero {d : Nat} (_h : d < 65536) (e : stp d 0 = 0) : d = 0 := by
  unfold stp at e
  have e2 := xor_ne.1 e
  rw [Nat.xor_zero, Nat.shiftLeft_eq, Nat.shiftRight_eq_div_pow] at e2
  split at e2 <;> omega
theorem byt_zero : ∀ (n : Nat) {d : Nat}, d < 65536 → byt d 0 n = 0 → d = 0 := by
  intro n
  induction n with
  | zero => intro d _ e; exact e
  | succ n ih =>
    intro d h e
    simp only [byt] at e
    have hb : bitOf 0 n = 0 := by simp [bitOf]
    rw [hb] at e
    exact stp_zero h (ih (stp_lt _ _) e)
theorem byt_diff : ∀ e, e < 256 → e ≠ 0 → byt 0 e 8 ≠ 0 := by decide +kernel
theorem crc_inj {r s : Nat} (hr : r < 65536) (hs : s < 65536) (hne : r ≠ s) : ∀ l, crc r l ≠ crc s l := by
  intro l
  induction l generalizing r s with
  | nil => exact hne
  | cons x l ih =>
    refine ih (byt_lt hr _ _) (byt_lt hs _ _) fun e => hne ?_
    rw [← xor_ne] at e ⊢
    refine byt_zero 8 (xor16 hr hs) ?_
    have h2 := byt_lin (x := x.toNat) (y := x.toNat) 8 hr hs
    rw [Nat.xor_self] at h2
    rw [h2]; exact e
theorem crc_append (l m : List Int) : ∀ r, crc r (l ++ m) = crc (crc r l) m := by
  induction l with
  | nil => intro r; rfl
  | cons x l ih => intro r; exact ih _
theorem crc_one {x y : Int} (hx : 0 ≤ x ∧ x ≤ 255) (hy : 0 ≤ y ∧ y ≤ 255) (hne : x ≠ y) (l m : List Int) : crc 65535 (l ++ x :: m) ≠ crc 65535 (l ++ y :: m) := by
  rw [crc_append, crc_append]
  have hr : crc 65535 l < 65536 := crc_lt (by decide) _
  refine crc_inj (byt_lt hr _ _) (byt_lt hr _ _) (fun e => ?_) m
  rw [← xor_ne, ← byt_lin 8 hr hr, Nat.xor_self] at e
  refine byt_diff _ (Nat.xor_lt_two_pow (n := 8) (by omega) (by omega)) (fun e2 => hne ?_) e
  have := xor_ne.1 e2
  omega

/-! the walk's words -/
theorem wraps_i64 (n : Int) (h₀ : 0 ≤ n) (h₁ : n < 2 ^ 63) : IntKind.i64.wrap n = n := by rw [IntKind.wrap_i64]; omega
theorem bits_xor (a b : Nat) (ha : a < 65536) (hb : b < 65536) : Go.bits .xor .i64 (a : Int) (b : Int) = ((a ^^^ b : Nat) : Int) := by
  have ha' : a % 2 ^ 64 = a := Nat.mod_eq_of_lt (by omega)
  have hb' : b % 2 ^ 64 = b := Nat.mod_eq_of_lt (by omega)
  have h := xor16 ha hb
  have e : Go.bits .xor .i64 (a : Int) (b : Int) = IntKind.i64.wrap (((BitVec.ofInt 64 (a : Int)) ^^^ (BitVec.ofInt 64 (b : Int))).toNat : Int) := rfl
  rw [e, BitVec.ofInt_natCast, BitVec.ofInt_natCast, BitVec.toNat_xor, BitVec.toNat_ofNat, BitVec.toNat_ofNat, ha', hb', wraps_i64 _ (by omega) (by omega)]
theorem and_mask (x : Int) (h0 : 0 ≤ x) (h1 : x < 131072) : Go.bits .and .i64 x 65535 = x % 65536 := bits_mask .i64 63 (by decide) wraps_i64 16 (by decide) x h0 (by omega)
theorem and_one (x : Int) (h0 : 0 ≤ x) (h1 : x < 131072) : Go.bits .and .i64 x 1 = x % 2 := bits_mask .i64 63 (by decide) wraps_i64 1 (by decide) x h0 (by omega)
theorem and_one8 (x : Int) (h0 : 0 ≤ x) (h1 : x < 256) : Go.bits .and .u8 x 1 = x % 2 := bits_mask .u8 8 (by decide) wraps_u8 1 (by decide) x h0 h1

theorem shift_in {r : Nat} (h : r < 65536) : Go.bits .and .i64 (wrap64 ((r : Int) * 2)) 65535 = ((r <<< 1 % 2 ^ 16 : Nat) : Int) := by
  rw [w64 (by omega) (by omega), and_mask _ (by omega) (by omega), Nat.shiftLeft_eq]
  omega
theorem stp_eq {r b : Nat} (_h : r < 65536) (e : r / 32768 = b) : ((r <<< 1 % 2 ^ 16 : Nat) : Int) = (stp r b : Nat) := by
  unfold stp
  rw [Nat.shiftRight_eq_div_pow, show r / 2 ^ 15 = b from e, Nat.xor_self, if_pos rfl, Nat.xor_zero]
theorem stp_ne {r b : Nat} (_h : r < 65536) (e : ¬ r / 32768 = b) : Go.bits .xor .i64 ((r <<< 1 % 2 ^ 16 : Nat) : Int) 4129 = (stp r b : Nat) := by
  unfold stp
  rw [Nat.shiftRight_eq_div_pow, if_neg (fun z => e (xor_ne.1 z))]
  exact bits_xor _ 4129 (Nat.mod_lt _ (by decide)) (by decide)
theorem u64_small {n : Nat} (h : n < 8) : IntKind.u64.wrap (n : Int) = n := by
  simp [IntKind.wrap, IntKind.bits, IntKind.signed]; omega
theorem shr_bit {x : Int} {n : Nat} (hx : 0 ≤ x ∧ x ≤ 255) (h : n < 8) : shr .u8 x n = ((x.toNat >>> n : Nat) : Int) := by
  unfold shr
  have e : min ((n : Int).toNat) IntKind.u8.bits = n := by simp [IntKind.bits]; omega
  rw [e, Nat.shiftRight_eq_div_pow]
  have : ((x.toNat : Nat) : Int) = x := by omega
  rw [← this]
  simp
theorem shiftR_lt {x : Int} (hx : 0 ≤ x ∧ x ≤ 255) (n : Nat) : x.toNat >>> n < 256 := by
  rw [Nat.shiftRight_eq_div_pow]
  exact Nat.lt_of_le_of_lt (Nat.div_le_self _ _) (by omega)

theorem tbits {l : List Int} {x i : Int} (hx : 0 ≤ x ∧ x ≤ 255) {q : Int} : ∀ (n r : Nat), n ≤ 8 → r < 65536 →
    Ev (fun k => telegram_Check.l0 k ((byt r x.toNat n : Nat) : Int) l (l.length : Int) (wrap64 (i + 1))) q → Ev (fun k => telegram_Check.l1 k (r : Int) x ((n : Int) - 1) l (l.length : Int) i) q := by
  intro n
  induction n with
  | zero =>
    intro r _ _ h
    refine Ev.step (f := fun k => telegram_Check.l0 k (r : Int) l (l.length : Int) (wrap64 (i + 1))) (fun k => ?_) h
    simp only [telegram_Check.l1]
    rw [if_neg (by omega)]
  | succ n ih =>
    intro r hn hr h
    have hs := shiftR_lt hx n
    have hsb := shr_bit hx (n := n) (by omega)
    have hbo : bitOf x.toNat n = (x.toNat >>> n) % 2 := rfl
    generalize x.toNat >>> n = s at hs hsb hbo
    refine Ev.step (f := fun k => telegram_Check.l1 k ((stp r (bitOf x.toNat n) : Nat) : Int) x ((n : Int) - 1) l (l.length : Int) i) (fun k => ?_) (ih _ (by omega) (stp_lt _ _) h)
    simp only [telegram_Check.l1]
    rw [show ((n + 1 : Nat) : Int) - 1 = (n : Int) by omega, u64_small (by omega), hsb, w64 (n := (s : Int)) (by omega) (by omega), and_one (s : Int) (by omega) (by omega), shift_in hr, w64 (n := (n : Int) - 1) (by omega) (by omega)]
    rw [if_pos (by omega), if_pos (by omega)]
    by_cases e : r / 32768 = bitOf x.toNat n
    · have e' : (r : Int) / 32768 = (s : Int) % 2 := by rw [hbo] at e; omega
      rw [if_pos e', stp_eq hr e]
    · have e' : ¬ (r : Int) / 32768 = (s : Int) % 2 := by rw [hbo] at e; omega
      rw [if_neg e', stp_ne hr e]

theorem drop_cons {l : List Int} {i : Nat} (h : i < l.length) : l.drop i = rd l i :: l.drop (i + 1) := by
  rw [List.drop_eq_getElem_cons h]
  congr 1
  unfold rd
  rw [List.getD_eq_getElem?_getD, Int.toNat_natCast, List.getElem?_eq_getElem h]
  rfl

theorem tcheck_from {l : List Int} (hl : l.length ≤ 1000000) (hb : ∀ x ∈ l, 0 ≤ x ∧ x ≤ 255) : ∀ (d i r : Nat), r < 65536 → i + d = l.length →
    Ev (fun k => telegram_Check.l0 k (r : Int) l (l.length : Int) (i : Int)) ((crc r (l.drop i) : Nat) : Int) := by
  intro d
  induction d with
  | zero =>
    intro i r _ hi
    refine Ev.step (f := fun _ => some (r : Int)) (fun k => ?_) (by rw [List.drop_of_length_le (by omega)]; exact Ev.now _)
    simp only [telegram_Check.l0]
    rw [if_neg (by omega)]
  | succ d ih =>
    intro i r hr hi
    have hx := hb _ (rd_mem (l := l) (i := i) (by omega) (by omega))
    refine Ev.step (f := fun k => telegram_Check.l1 k (r : Int) (rd l i) 7 l (l.length : Int) (i : Int)) (fun k => ?_) ?_
    · simp only [telegram_Check.l0]
      rw [if_pos (by omega), if_pos (by omega), if_pos (by omega)]
    · refine tbits hx 8 r (by omega) hr ?_
      rw [w64 (by omega) (by omega), drop_cons (by omega)]
      exact ih (i + 1) _ (byt_lt hr _ _) (by omega)

theorem tcheck {l : List Int} (hl : l.length ≤ 1000000) (hb : ∀ x ∈ l, 0 ≤ x ∧ x ≤ 255) : Ev (fun k => telegram_Check.f k l) ((crc 65535 l : Nat) : Int) := by
  have h := tcheck_from hl hb l.length 0 65535 (by decide) (by omega)
  rw [List.drop_zero] at h
  exact h

theorem rbits {l : List Int} {i : Int} (h0 : 0 ≤ i) (h1 : i < l.length) (hx : 0 ≤ rd l i ∧ rd l i ≤ 255) {q : Int} : ∀ (n r : Nat), n ≤ 8 → r < 65536 →
    Ev (fun k => minecontrolref04_Check.l0 k l ((byt r (rd l i).toNat n : Nat) : Int) (wrap64 (i + 1))) q → Ev (fun k => minecontrolref04_Check.l1 k l (r : Int) i ((n : Int) - 1)) q := by
  intro n
  induction n with
  | zero =>
    intro r _ _ h
    refine Ev.step (f := fun k => minecontrolref04_Check.l0 k l (r : Int) (wrap64 (i + 1))) (fun k => ?_) h
    simp only [minecontrolref04_Check.l1]
    rw [if_neg (by omega)]
  | succ n ih =>
    intro r hn hr h
    have hs := shiftR_lt hx n
    have hsb := shr_bit hx (n := n) (by omega)
    have hbo : bitOf (rd l i).toNat n = ((rd l i).toNat >>> n) % 2 := rfl
    generalize (rd l i).toNat >>> n = s at hs hsb hbo
    refine Ev.step (f := fun k => minecontrolref04_Check.l1 k l ((stp r (bitOf (rd l i).toNat n) : Nat) : Int) i ((n : Int) - 1)) (fun k => ?_) (ih _ (by omega) (stp_lt _ _) h)
    simp only [minecontrolref04_Check.l1]
    rw [show ((n + 1 : Nat) : Int) - 1 = (n : Int) by omega, u64_small (by omega), hsb, and_one8 (s : Int) (by omega) (by omega), w64 (n := (s : Int) % 2) (by omega) (by omega), and_one ((r : Int) / 32768) (by omega) (by omega), shift_in hr, w64 (n := (n : Int) - 1) (by omega) (by omega)]
    rw [if_pos (by omega), if_pos h0, if_pos h1, if_pos (by omega)]
    by_cases e : r / 32768 = bitOf (rd l i).toNat n
    · have e' : (r : Int) / 32768 % 2 = (s : Int) % 2 := by rw [hbo] at e; omega
      rw [if_pos e', stp_eq hr e]
    · have e' : ¬ (r : Int) / 32768 % 2 = (s : Int) % 2 := by rw [hbo] at e; omega
      rw [if_neg e', stp_ne hr e]

theorem rcheck_from {l : List Int} (hl : l.length ≤ 1000000) (hb : ∀ x ∈ l, 0 ≤ x ∧ x ≤ 255) : ∀ (d i r : Nat), r < 65536 → i + d = l.length →
    Ev (fun k => minecontrolref04_Check.l0 k l (r : Int) (i : Int)) ((crc r (l.drop i) : Nat) : Int) := by
  intro d
  induction d with
  | zero =>
    intro i r _ hi
    refine Ev.step (f := fun _ => some (r : Int)) (fun k => ?_) (by rw [List.drop_of_length_le (by omega)]; exact Ev.now _)
    simp only [minecontrolref04_Check.l0]
    rw [if_neg (by omega)]
  | succ d ih =>
    intro i r hr hi
    have hx := hb _ (rd_mem (l := l) (i := i) (by omega) (by omega))
    refine Ev.step (f := fun k => minecontrolref04_Check.l1 k l (r : Int) (i : Int) 7) (fun k => ?_) ?_
    · simp only [minecontrolref04_Check.l0]
      rw [if_pos (by omega)]
    · refine rbits (by omega) (by omega) hx 8 r (by omega) hr ?_
      rw [w64 (by omega) (by omega), drop_cons (by omega)]
      exact ih (i + 1) _ (byt_lt hr _ _) (by omega)

theorem rcheck {l : List Int} (hl : l.length ≤ 1000000) (hb : ∀ x ∈ l, 0 ≤ x ∧ x ≤ 255) : Ev (fun k => minecontrolref04_Check.f k l) ((crc 65535 l : Nat) : Int) := by
  have h := rcheck_from hl hb l.length 0 65535 (by decide) (by omega)
  rw [List.drop_zero] at h
  exact h

end Go.Proofs.Ytacogcnckhgjbaa.Com
