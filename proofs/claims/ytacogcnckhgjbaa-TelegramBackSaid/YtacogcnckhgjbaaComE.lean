/- Telegrams as they are written, drawn and compared: what the program and the reference come to. -/
import Derived.Test.YtacogcnckhgjbaaComD
import Derived.Test.YtacogcnckhgjbaaPTelx6
namespace Go.Proofs.Ytacogcnckhgjbaa.Com
open Go.RowKit Go.Proofs.Ytacogcnckhgjbaa.PTel Go.Proofs.YtacogcnckhgjbaaW.PrintWords Go.Proofs.YtacogcnckhgjbaaW.PrintLast Go.Proofs.YtacogcnckhgjbaaW.PrintMore

theorem ev_step {α : Type} {g f : Nat → Option α} {r : α} (h : Ev f r) (e : ∀ k, f k = some r → g (k + 1) = some r) : Ev g r := by
  obtain ⟨K, h⟩ := h
  refine ⟨K + 1, fun k hk => ?_⟩
  obtain ⟨m, rfl⟩ : ∃ m, k = m + 1 := ⟨k - 1, by omega⟩
  exact e m (h m (by omega))
theorem ev_and {α β : Type} {g : Nat → Option α} {f : Nat → Option β} {a : α} {b : β} (h : Ev g a) (h2 : Ev f b) : ∃ K, ∀ k, K ≤ k → g k = some a ∧ f k = some b := by
  obtain ⟨K, h⟩ := h
  obtain ⟨K', h2⟩ := h2
  exact ⟨max K K', fun k hk => ⟨h k (by omega), h2 k (by omega)⟩⟩

theorem awake_ev : Ev (fun k => minecontrollaw04_awake.f k) true :=
  Ev.of minecontrollaw04_awake.mono (k := 400) (by decide +kernel)

/-! the same telegrams -/
theorem same_from (l : List S24) (hl : l.length ≤ 1000000) : ∀ (d i : Nat), i + d = l.length → Ev (fun k => minecontrolref04_Same.l0 k l l (i : Int)) true := by
  intro d
  induction d with
  | zero =>
    intro i hi
    refine Ev.step (f := fun _ => some true) (fun k => ?_) (Ev.now _)
    simp only [minecontrolref04_Same.l0]
    rw [if_neg (by omega)]
  | succ d ih =>
    intro i hi
    refine Ev.step (fun k => ?_) (ih (i + 1) (by omega))
    simp only [minecontrolref04_Same.l0]
    rw [if_pos (by omega), if_pos (by omega), if_pos (by omega), if_pos trivial, if_pos trivial, if_pos trivial, w64 (by omega) (by omega)]
    rfl
theorem same_ev (l : List S24) (hl : l.length ≤ 1000000) : Ev (fun k => minecontrolref04_Same.f k l l) true := by
  refine Ev.congr (fun k => ?_) (same_from l hl l.length 0 (by omega))
  unfold minecontrolref04_Same.f
  rw [if_pos rfl]; rfl
theorem same_any_from (l m : List S24) (hl : l.length ≤ 1000000) (hm : l.length = m.length) : ∀ (d i : Nat), i + d = l.length → ∃ b, Ev (fun k => minecontrolref04_Same.l0 k l m (i : Int)) b := by
  intro d
  induction d with
  | zero =>
    intro i hi
    refine ⟨true, Ev.step (f := fun _ => some true) (fun k => ?_) (Ev.now _)⟩
    simp only [minecontrolref04_Same.l0]
    rw [if_neg (by omega)]
  | succ d ih =>
    intro i hi
    obtain ⟨b, hb⟩ := ih (i + 1) (by omega)
    by_cases h0 : (rd_T24 l i).f0 = (rd_T24 m i).f0
    · by_cases h1 : (rd_T24 l i).f1 = (rd_T24 m i).f1
      · by_cases h2 : (strOfNums ((rd_T24 l i).f2)).toList = (strOfNums ((rd_T24 m i).f2)).toList
        · refine ⟨b, Ev.step (fun k => ?_) hb⟩
          simp only [minecontrolref04_Same.l0]
          rw [if_pos (by omega), if_pos (by omega), if_pos (by omega), if_pos h0, if_pos h1, if_pos h2, w64 (by omega) (by omega)]
          rfl
        · refine ⟨false, Ev.step (f := fun _ => some false) (fun k => ?_) (Ev.now _)⟩
          simp only [minecontrolref04_Same.l0]
          rw [if_pos (by omega), if_pos (by omega), if_pos (by omega), if_pos h0, if_pos h1, if_neg h2]
      · refine ⟨false, Ev.step (f := fun _ => some false) (fun k => ?_) (Ev.now _)⟩
        simp only [minecontrolref04_Same.l0]
        rw [if_pos (by omega), if_pos (by omega), if_pos (by omega), if_pos h0, if_neg h1]
    · refine ⟨false, Ev.step (f := fun _ => some false) (fun k => ?_) (Ev.now _)⟩
      simp only [minecontrolref04_Same.l0]
      rw [if_pos (by omega), if_pos (by omega), if_pos (by omega), if_neg h0]
theorem same_any (l m : List S24) (hl : l.length ≤ 1000000) : ∃ b, Ev (fun k => minecontrolref04_Same.f k l m) b := by
  by_cases h : l.length = m.length
  · obtain ⟨b, hb⟩ := same_any_from l m hl h l.length 0 (by omega)
    refine ⟨b, Ev.congr (fun k => ?_) hb⟩
    unfold minecontrolref04_Same.f
    rw [if_pos (by omega)]; rfl
  · refine ⟨false, Ev.congr (f := fun _ => some false) (fun k => ?_) (Ev.now _)⟩
    unfold minecontrolref04_Same.f
    rw [if_neg (by omega)]

/-! writing -/
theorem two_bytes {a k : Int} {d : List Int} (h : Fr a k d) : ([126, ((d.length : Int)) % 256, a % 256, k % 256] : List Int) = [126, (d.length : Int), a, k] := by
  obtain ⟨a0, a1, k0, k1, n, b⟩ := h
  rw [show (d.length : Int) % 256 = d.length by omega, show a % 256 = a by omega, show k % 256 = k by omega]
theorem sums_bytes (a k : Int) (d : List Int) : ([((sums a k d : Nat) : Int) / 256 % 256, ((sums a k d : Nat) : Int) % 256] : List Int) = [((sums a k d / 256 : Nat) : Int), ((sums a k d % 256 : Nat) : Int)] := by
  have := sums_lt a k d
  rw [show ((sums a k d : Nat) : Int) / 256 % 256 = ((sums a k d / 256 : Nat) : Int) by omega, show ((sums a k d : Nat) : Int) % 256 = ((sums a k d % 256 : Nat) : Int) by omega]
theorem head_bt {a k : Int} {d : List Int} (h : Fr a k d) : Bt ([(d.length : Int), a, k] ++ d) := by
  obtain ⟨a0, a1, k0, k1, n, b⟩ := h
  intro x hx
  simp only [List.mem_append, List.mem_cons, List.not_mem_nil, or_false] at hx
  rcases hx with (rfl | rfl | rfl) | hx
  · omega
  · omega
  · omega
  · exact b x hx

theorem twrite {a k : Int} {d : List Int} (h : Fr a k d) : Ev (fun n => telegram_Write.f n a k d) (wr a k d, 0) := by
  obtain ⟨K, hc⟩ := tcheck (l := [(d.length : Int), a, k] ++ d) (by have := h.n; simp only [List.length_append, List.length_cons, List.length_nil]; omega) (head_bt h)
  have e2 := two_bytes h
  obtain ⟨a0, a1, k0, k1, n, b⟩ := h
  refine ⟨K + 1, fun q hq => ?_⟩
  obtain ⟨m, rfl⟩ : ∃ m, q = m + 1 := ⟨q - 1, by omega⟩
  have hc' : telegram_Check.f m ([(d.length : Int), a, k] ++ d) = some ((sums a k d : Nat) : Int) := hc m (by omega)
  show telegram_Write.f (m + 1) a k d = _
  unfold telegram_Write.f
  rw [if_neg (by omega), if_neg (by omega), if_neg (by omega), decide_eq_false (by omega)]
  simp only [telegram_Write.j0, Bool.false_eq_true, if_false, Option.bind_some]
  rw [if_neg (by omega), e2, if_pos (by simp only [List.length_cons, List.length_nil]; omega), if_pos (by simp only [List.length_append, List.length_cons, List.length_nil]; omega)]
  rw [show ([126, (d.length : Int), a, k] ++ d).drop 1 = [(d.length : Int), a, k] ++ d from rfl, hc']
  simp only [Option.bind_some]
  rw [sums_bytes, if_pos (by simp only [List.length_append, List.length_cons, List.length_nil]; omega)]
  rfl
theorem rwrite {a k : Int} {d : List Int} (h : Fr a k d) : Ev (fun n => minecontrolref04_Write.f n a k d) (wr a k d, 0) := by
  obtain ⟨K, hc⟩ := rcheck (l := [(d.length : Int), a, k] ++ d) (by have := h.n; simp only [List.length_append, List.length_cons, List.length_nil]; omega) (head_bt h)
  have e2 := two_bytes h
  obtain ⟨a0, a1, k0, k1, n, b⟩ := h
  refine ⟨K + 1, fun q hq => ?_⟩
  obtain ⟨m, rfl⟩ : ∃ m, q = m + 1 := ⟨q - 1, by omega⟩
  have hc' : minecontrolref04_Check.f m ([(d.length : Int), a, k] ++ d) = some ((sums a k d : Nat) : Int) := hc m (by omega)
  show minecontrolref04_Write.f (m + 1) a k d = _
  unfold minecontrolref04_Write.f
  rw [if_neg (by omega), if_neg (by omega), if_neg (by omega), decide_eq_false (by omega)]
  simp only [minecontrolref04_Write.j0, Bool.false_eq_true, if_false, Option.bind_some]
  rw [if_neg (by omega), e2, if_pos (by simp only [List.length_cons, List.length_nil]; omega), if_pos (by simp only [List.length_append, List.length_cons, List.length_nil]; omega)]
  rw [show ([126, (d.length : Int), a, k] ++ d).drop 1 = [(d.length : Int), a, k] ++ d from rfl, hc']
  simp only [Option.bind_some]
  rw [sums_bytes, if_pos (by simp only [List.length_append, List.length_cons, List.length_nil]; omega)]
  rfl
/-- Whatever is written: the two come to the same. -/
theorem write_any (a k : Int) (d : List Int) (hn : d.length ≤ 1000) (hB : Bt d) : ∃ r, Ev (fun n => telegram_Write.f n a k d) r ∧ Ev (fun n => minecontrolref04_Write.f n a k d) r := by
  by_cases hr : a < 0 ∨ a > 255 ∨ k < 0 ∨ k > 255
  · have h1 : Ev (fun n => telegram_Write.j0 n true a k d) ([], 1) := Ev.step (f := fun _ => some ([], 1)) (fun n => by simp only [telegram_Write.j0, if_true]) (Ev.now _)
    have h2 : Ev (fun n => minecontrolref04_Write.j0 n true a k d) ([], 1) := Ev.step (f := fun _ => some ([], 1)) (fun n => by simp only [minecontrolref04_Write.j0, if_true]) (Ev.now _)
    refine ⟨([], 1), Ev.congr (fun n => ?_) h1, Ev.congr (fun n => ?_) h2⟩
    · unfold telegram_Write.f
      split
      · rfl
      · split
        · rfl
        · split
          · rfl
          · rw [decide_eq_true (by omega)]
    · unfold minecontrolref04_Write.f
      split
      · rfl
      · split
        · rfl
        · split
          · rfl
          · rw [decide_eq_true (by omega)]
  · by_cases hl : d.length ≤ 64
    · have h : Fr a k d := ⟨by omega, by omega, by omega, by omega, hl, hB⟩
      exact ⟨_, twrite h, rwrite h⟩
    · have h1 : Ev (fun n => telegram_Write.j0 n false a k d) ([], 2) := Ev.step (f := fun _ => some ([], 2)) (fun n => by simp only [telegram_Write.j0, Bool.false_eq_true, if_false]; rw [if_pos (by omega)]) (Ev.now _)
      have h2 : Ev (fun n => minecontrolref04_Write.j0 n false a k d) ([], 2) := Ev.step (f := fun _ => some ([], 2)) (fun n => by simp only [minecontrolref04_Write.j0, Bool.false_eq_true, if_false]; rw [if_pos (by omega)]) (Ev.now _)
      refine ⟨([], 2), Ev.congr (fun n => ?_) h1, Ev.congr (fun n => ?_) h2⟩
      · unfold telegram_Write.f
        rw [if_neg (by omega), if_neg (by omega), if_neg (by omega), decide_eq_false (by omega)]
      · unfold minecontrolref04_Write.f
        rw [if_neg (by omega), if_neg (by omega), if_neg (by omega), decide_eq_false (by omega)]

/-! what is drawn -/
theorem frame_ev {l : List Int} {a : Int} (h : C l a) : ∃ A K D a', Ev (fun k => minecontroldraw_Codes_Frame.f k l a) (A, K, D, a') ∧ C l a' ∧ Fr A K D ∧ D.length ≤ 2 := by
  obtain ⟨A, a1, e1, c1, A0, A1, -⟩ := next_ev h 6 (by omega)
  obtain ⟨p, a2, e2, c2, p0, p1, -⟩ := next_ev c1 2 (by omega)
  obtain ⟨q, a3, e3, c3, q0, q1, -⟩ := next_ev c2 256 (by omega)
  obtain ⟨s, a4, e4, c4, s0, s1, -⟩ := next_ev c3 8 (by omega)
  have A1 := A1 (by omega); have p1 := p1 (by omega); have q1 := q1 (by omega)
  have hD : Bt [p % 256, q % 256] := by
    intro x hx
    simp only [List.mem_cons, List.not_mem_nil, or_false] at hx
    rcases hx with rfl | rfl <;> omega
  have E : ∀ {r : Int × Int × List Int × Int} (K0 : Nat), (∀ k, K0 ≤ k → (if s = 5 then (some (A, 2, ([] : List Int), a4)) else (if s = 6 then ((minecontroldraw_Codes_Next.f k l a4 4).bind fun bt216 => (some (A, bt216.1, [p % 256, q % 256], bt216.2))) else (if s = 7 then ((minecontroldraw_Codes_Next.f k l a4 3).bind fun bt218 => (if 0 ≤ bt218.1 then (if bt218.1 ≤ ((([p % 256, q % 256] : List Int).length : Nat) : Int) then (some (A, 1, (([p % 256, q % 256] : List Int).take (bt218.1 : Int).toNat), bt218.2)) else (none)) else (none))) else (some (A, 1, [p % 256, q % 256], a4))))) = some r) → Ev (fun k => minecontroldraw_Codes_Frame.f k l a) r := by
    intro r K5 H
    obtain ⟨K1, e1⟩ := e1
    obtain ⟨K2, e2⟩ := e2
    obtain ⟨K3, e3⟩ := e3
    obtain ⟨K4, e4⟩ := e4
    refine ⟨K1 + K2 + K3 + K4 + K5, fun k hk => ?_⟩
    have f1 := e1 k (by omega); have f2 := e2 k (by omega); have f3 := e3 k (by omega); have f4 := e4 k (by omega)
    dsimp only at f1 f2 f3 f4
    show minecontroldraw_Codes_Frame.f k l a = some r
    unfold minecontroldraw_Codes_Frame.f
    rw [f1]; simp only [Option.bind_some]
    rw [f2]; simp only [Option.bind_some]
    rw [f3]; simp only [Option.bind_some]
    rw [f4]; simp only [Option.bind_some]
    exact H k (by omega)
  by_cases h5 : s = 5
  · exact ⟨A, 2, [], a4, E 0 (fun k _ => by rw [if_pos h5]), c4, ⟨by omega, by omega, by omega, by omega, by simp, by intro x hx; simp at hx⟩, by simp⟩
  by_cases h6 : s = 6
  · obtain ⟨v, a5, ⟨K5, e5⟩, c5, v0, v1, -⟩ := next_ev c4 4 (by omega)
    have v1 := v1 (by omega)
    exact ⟨A, v, _, a5, E K5 (fun k hk => by have f5 := e5 k hk; dsimp only at f5; rw [if_neg h5, if_pos h6, f5]; rfl), c5, ⟨by omega, by omega, by omega, by omega, by simp, hD⟩, by simp⟩
  by_cases h7 : s = 7
  · obtain ⟨v, a5, ⟨K5, e5⟩, c5, v0, v1, -⟩ := next_ev c4 3 (by omega)
    have v1 := v1 (by omega)
    refine ⟨A, 1, [p % 256, q % 256].take v.toNat, a5, E K5 (fun k hk => ?_), c5, ⟨by omega, by omega, by omega, by omega, ?_, hD.take _⟩, ?_⟩
    · have f5 := e5 k hk
      dsimp only at f5
      rw [if_neg h5, if_neg h6, if_pos h7, f5]
      simp only [Option.bind_some]
      rw [if_pos v0, if_pos (by simp only [List.length_cons, List.length_nil]; omega)]
    · rw [List.length_take]; simp only [List.length_cons, List.length_nil]; omega
    · rw [List.length_take]; simp only [List.length_cons, List.length_nil]; omega
  · exact ⟨A, 1, _, a4, E 0 (fun k _ => by rw [if_neg h5, if_neg h6, if_neg h7]), c4, ⟨by omega, by omega, by omega, by omega, by simp, hD⟩, by simp⟩

theorem bits_u8 (op : BinOp) (x y : Int) : 0 ≤ Go.bits op .u8 x y ∧ Go.bits op .u8 x y ≤ 255 := by
  unfold Go.bits
  simp only [IntKind.wrap_u8]
  omega

theorem Bt.set {l : List Int} (h : Bt l) (i : Nat) {v : Int} (hv : 0 ≤ v ∧ v ≤ 255) : Bt (l.set i v) := by
  intro x hx
  rcases List.mem_or_eq_of_mem_set hx with hx | rfl
  · exact h x hx
  · exact hv

theorem bytes_from {l : List Int} : ∀ (n : Nat) (o : List Int) (a : Int), C l a → Bt o → o.length + 10 * n ≤ 100000 → n ≤ 1000 →
    ∃ b a', Ev (fun k => minecontroldraw_Codes_Bytes.l0 k o (n : Int) l a) (b, a') ∧ C l a' ∧ Bt b ∧ b.length ≤ o.length + 10 * n := by
  intro n
  induction n with
  | zero =>
    intro o a hc ho hl _
    refine ⟨o, a, Ev.step (f := fun _ => some (o, a)) (fun k => ?_) (Ev.now _), hc, ho, by omega⟩
    simp only [minecontroldraw_Codes_Bytes.l0]
    rw [if_neg (by omega)]
  | succ n ih =>
    intro o a hc ho hl hn
    obtain ⟨A, K, D, a1, e1, c1, hf, hd⟩ := frame_ev hc
    have e2 := rwrite hf
    have hwl := wr_len A K D
    have hwb := wr_bt hf
    obtain ⟨s, a2, e3, c2, s0, s1, -⟩ := next_ev c1 6 (by omega)
    have E : ∀ {r : List Int × Int} (K0 : Nat), (∀ k, K0 ≤ k → minecontroldraw_Codes_Frame.f k l a = some (A, K, D, a1) → minecontrolref04_Write.f k A K D = some (wr A K D, 0) → minecontroldraw_Codes_Next.f k l a1 6 = some (s, a2) → minecontroldraw_Codes_Bytes.l0 (k + 1) o ((n + 1 : Nat) : Int) l a = some r) → Ev (fun k => minecontroldraw_Codes_Bytes.l0 k o ((n + 1 : Nat) : Int) l a) r := by
      intro r K0 H
      obtain ⟨K1, e1⟩ := e1
      obtain ⟨K2, e2⟩ := e2
      obtain ⟨K3, e3⟩ := e3
      refine ⟨K1 + K2 + K3 + K0 + 1, fun k hk => ?_⟩
      obtain ⟨m, rfl⟩ : ∃ m, k = m + 1 := ⟨k - 1, by omega⟩
      exact H m (by omega) (e1 m (by omega)) (e2 m (by omega)) (e3 m (by omega))
    have w1 : wrap64 (((n + 1 : Nat) : Int) - 1) = (n : Int) := by rw [w64 (by omega) (by omega)]; omega
    by_cases h3 : s = 3
    · obtain ⟨i, a3, ⟨K4, e4⟩, c3, i0, i1, -⟩ := next_ev c2 ((wr A K D).length : Int) (by omega)
      have i1 := i1 (by omega)
      obtain ⟨j, a4, ⟨K5, e5⟩, c4, j0, j1, -⟩ := next_ev c3 8 (by omega)
      have j1 := j1 (by omega)
      have hju : IntKind.u64.wrap j = j := by simp [IntKind.wrap, IntKind.bits, IntKind.signed]; omega
      obtain ⟨b, a', ⟨K6, ev⟩, cb, bb, bl⟩ := ih (o ++ (wr A K D).set i.toNat (Go.bits .xor .u8 (rd (wr A K D) i) (shl .u8 1 j))) a4 c4 (ho.append (hwb.set _ (bits_u8 _ _ _))) (by rw [List.length_append, List.length_set]; omega) (by omega)
      rw [List.length_append, List.length_set] at bl
      refine ⟨b, a', E (K4 + K5 + K6) ?_, cb, bb, by omega⟩
      intro k hk f1 f2 f3
      have f4 := e4 k (by omega); have f5 := e5 k (by omega); have f6 := ev k (by omega)
      dsimp only at f4 f5 f6
      simp only [minecontroldraw_Codes_Bytes.l0]
      rw [if_pos (by omega), f1]; simp only [Option.bind_some]
      rw [f2]; simp only [Option.bind_some]
      rw [f3]; simp only [Option.bind_some]
      rw [if_pos h3, f4]; simp only [Option.bind_some]
      rw [if_pos i0, if_pos i1, f5]; simp only [Option.bind_some]
      rw [hju, if_pos j0, if_pos (by rw [List.length_set]; omega), w1]
      exact f6
    by_cases h4 : s = 4
    · obtain ⟨i, a3, ⟨K4, e4⟩, c3, i0, i1, -⟩ := next_ev c2 (((wr A K D).length : Int) + 1) (by omega)
      have i1 := i1 (by omega)
      have htl : ((wr A K D).take i.toNat).length ≤ (wr A K D).length := by rw [List.length_take]; omega
      obtain ⟨b, a', ⟨K6, ev⟩, cb, bb, bl⟩ := ih (o ++ (wr A K D).take i.toNat) a3 c3 (ho.append (hwb.take _)) (by rw [List.length_append]; omega) (by omega)
      rw [List.length_append] at bl
      refine ⟨b, a', E (K4 + K6) ?_, cb, bb, by omega⟩
      intro k hk f1 f2 f3
      have f4 := e4 k (by omega); have f6 := ev k (by omega)
      dsimp only at f4 f6
      simp only [minecontroldraw_Codes_Bytes.l0]
      rw [if_pos (by omega), f1]; simp only [Option.bind_some]
      rw [f2]; simp only [Option.bind_some]
      rw [f3]; simp only [Option.bind_some]
      rw [if_neg h3, if_pos h4, w64 (n := ((wr A K D).length : Int) + 1) (by omega) (by omega), f4]; simp only [Option.bind_some]
      rw [if_pos i0, if_pos (by omega), if_pos (by omega), w1]
      exact f6
    by_cases h5 : s = 5
    · obtain ⟨i, a3, ⟨K4, e4⟩, c3, i0, i1, -⟩ := next_ev c2 256 (by omega)
      have i1 := i1 (by omega)
      have hib : Bt [i % 256, 126] := by
        intro x hx
        simp only [List.mem_cons, List.not_mem_nil, or_false] at hx
        rcases hx with rfl | rfl <;> omega
      have hil : ([i % 256, 126] : List Int).length = 2 := rfl
      obtain ⟨b, a', ⟨K6, ev⟩, cb, bb, bl⟩ := ih (o ++ [i % 256, 126] ++ wr A K D) a3 c3 ((ho.append hib).append hwb) (by rw [List.length_append, List.length_append]; omega) (by omega)
      rw [List.length_append, List.length_append] at bl
      refine ⟨b, a', E (K4 + K6) ?_, cb, bb, by omega⟩
      intro k hk f1 f2 f3
      have f4 := e4 k (by omega); have f6 := ev k (by omega)
      dsimp only at f4 f6
      simp only [minecontroldraw_Codes_Bytes.l0]
      rw [if_pos (by omega), f1]; simp only [Option.bind_some]
      rw [f2]; simp only [Option.bind_some]
      rw [f3]; simp only [Option.bind_some]
      rw [if_neg h3, if_neg h4, if_pos h5, f4]; simp only [Option.bind_some]
      rw [if_pos (by omega), if_pos (by rw [List.length_append]; omega), w1]
      exact f6
    · obtain ⟨b, a', ⟨K6, ev⟩, cb, bb, bl⟩ := ih (o ++ wr A K D) a2 c2 (ho.append hwb) (by rw [List.length_append]; omega) (by omega)
      rw [List.length_append] at bl
      refine ⟨b, a', E K6 ?_, cb, bb, by omega⟩
      intro k hk f1 f2 f3
      have f6 := ev k (by omega)
      dsimp only at f6
      simp only [minecontroldraw_Codes_Bytes.l0]
      rw [if_pos (by omega), f1]; simp only [Option.bind_some]
      rw [f2]; simp only [Option.bind_some]
      rw [f3]; simp only [Option.bind_some]
      rw [if_neg h3, if_neg h4, if_neg h5, if_pos (by omega), w1]
      exact f6

theorem bytes_ev {l : List Int} {a : Int} (h : C l a) (most : Int) (h0 : 0 ≤ most) (h1 : most ≤ 100) : ∃ b a', Ev (fun k => minecontroldraw_Codes_Bytes.f k l a most) (b, a') ∧ C l a' ∧ Bt b ∧ b.length ≤ 1010 := by
  obtain ⟨n, a1, ⟨K1, e1⟩, c1, n0, n1, -⟩ := next_ev h (most + 1) (by omega)
  have n1 := n1 (by omega)
  obtain ⟨m, rfl⟩ : ∃ m : Nat, n = (m : Int) := ⟨n.toNat, by omega⟩
  obtain ⟨b, a', ⟨K2, ev⟩, cb, bb, bl⟩ := bytes_from (l := l) m [] a1 c1 (by intro x hx; simp at hx) (by simp only [List.length_nil]; omega) (by omega)
  simp only [List.length_nil] at bl
  refine ⟨b, a', ⟨K1 + K2, fun k hk => ?_⟩, cb, bb, by omega⟩
  have f1 := e1 k (by omega); have f2 := ev k (by omega)
  dsimp only at f1 f2
  show minecontroldraw_Codes_Bytes.f k l a most = _
  unfold minecontroldraw_Codes_Bytes.f
  rw [w64 (by omega) (by omega), f1]; simp only [Option.bind_some]
  exact f2

end Go.Proofs.Ytacogcnckhgjbaa.Com
