/- Telegrams that were written are read, in order, with nothing dropped, and behind any bytes a telegram is found again, once enough bytes have come, for any choices and any noise. -/
import Derived.Test.YtacogcnckhgjbaaComE
import Derived.Test.YtacogcnckhgjbaaPTelx10
namespace Go.Proofs.Ytacogcnckhgjbaa.Pure
open Go.RowKit Go.Proofs.Ytacogcnckhgjbaa.PTel Go.Proofs.YtacogcnckhgjbaaW.PrintWords Go.Proofs.YtacogcnckhgjbaaW.PrintLast Go.Proofs.YtacogcnckhgjbaaW.PrintMore Go.Proofs.Ytacogcnckhgjbaa.Com

theorem found_behind {rest : List Int} (hB : Bt rest) (h0 : 70 ≤ rest.length) (h1 : rest.length ≤ 1000) (hr : (parse rest).2.2 ≠ []) : ∀ (n : Nat) (noise : List Int), noise.length ≤ n → Bt noise → noise.length ≤ 1000 → (parse (noise ++ rest)).2.2 ≠ [] := by
  intro n
  induction n with
  | zero =>
    intro noise hn _ _
    obtain rfl : noise = [] := List.length_eq_zero_iff.1 (by omega)
    exact hr
  | succ n ih =>
    intro noise hn hN hl
    by_cases hz : noise = []
    · subst hz; exact hr
    have hp := List.length_pos_iff.2 hz
    have hd1 : (noise.drop 1).length = noise.length - 1 := List.length_drop
    have hB2 := hN.append hB
    have hal : (noise ++ rest).length = noise.length + rest.length := List.length_append
    have hne : noise ++ rest ≠ [] := by simp [hz]
    cases e : nxt (noise ++ rest) with
    | wait =>
      obtain ⟨e0, e1, e2⟩ := nxt_wait e
      have := hB2.rd 1
      omega
    | drop =>
      rw [parse_drop hne e, List.drop_append_of_le_length (by omega)]
      exact ih (noise.drop 1) (by omega) (hN.drop 1) (by omega)
    | take => rw [parse_take hne e]; simp

theorem back_l2 {a k : Int} {d : List Int} (l : List S24) (hl : l.length ≤ 100000) (hne : l ≠ []) : ∀ (n i : Nat) (b : Bool), i + n = l.length → Ev (fun m => minecontrollaw04_TelegramBack.l2 m l b (i : Int) a k d) true := by
  intro n
  induction n with
  | zero =>
    intro i b hi
    have hp := List.length_pos_iff.2 hne
    refine Ev.step (fun m => ?_) awake_ev
    simp only [minecontrollaw04_TelegramBack.l2]
    rw [if_neg (by omega)]
    cases b with
    | true => rw [if_pos rfl]; cases minecontrollaw04_awake.f m <;> rfl
    | false => rw [if_neg (by simp), if_pos (by omega)]; cases minecontrollaw04_awake.f m <;> rfl
  | succ n ih =>
    intro i b hi
    have w1 : wrap64 ((i : Int) + 1) = ((i + 1 : Nat) : Int) := by rw [w64 (by omega) (by omega)]; rfl
    cases b with
    | true =>
      refine Ev.step (fun m => ?_) (ih (i + 1) true (by omega))
      simp only [minecontrollaw04_TelegramBack.l2]
      rw [if_pos (by omega), if_pos trivial, w1]
    | false =>
      obtain ⟨b, K1, e1⟩ := same_any ((l.take (i + 1)).drop i) [⟨a, k, d⟩] (by rw [List.length_drop, List.length_take]; omega)
      obtain ⟨K2, e2⟩ := ih (i + 1) b (by omega)
      refine ⟨K1 + K2 + 1, fun q hq => ?_⟩
      obtain ⟨m, rfl⟩ : ∃ m, q = m + 1 := ⟨q - 1, by omega⟩
      have f1 := e1 m (by omega); have f2 := e2 m (by omega)
      dsimp only at f1 f2
      simp only [minecontrollaw04_TelegramBack.l2]
      rw [if_pos (by omega), if_neg (by simp), w1, if_pos (by omega), if_pos (by omega), if_pos (by omega), Int.toNat_natCast, Int.toNat_natCast, f1]; simp only [Option.bind_some]
      exact f2

theorem back_l1 {a k : Int} {d base : List Int} (hB : Bt base) (hb : base.length ≤ 1000) (hf : (parse (base ++ List.replicate 75 0)).2.2 ≠ []) : ∀ (n i : Nat), i + n = 75 → Ev (fun m => minecontrollaw04_TelegramBack.l1 m (base ++ List.replicate i 0) (i : Int) a k d) true := by
  intro n
  induction n with
  | zero =>
    intro i hi
    obtain rfl : i = 75 := by omega
    have hB2 : Bt (base ++ List.replicate 75 0) := hB.append (by intro x hx; rw [(List.mem_replicate.1 hx).2]; exact ⟨by decide, by decide⟩)
    have hlen : (base ++ List.replicate 75 (0 : Int)).length = base.length + 75 := by rw [List.length_append, List.length_replicate]
    obtain ⟨K1, e1⟩ := feed (h := []) (l := base ++ List.replicate 75 0) (by intro x hx; simp at hx) hB2 (by simp only [List.length_nil]; omega) 0
    rw [List.nil_append] at e1
    obtain ⟨t1, -, -⟩ := parse_tells _ (base ++ List.replicate 75 0) (Nat.le_refl _) hB2 (by omega)
    have t2 := tot_len (parse (base ++ List.replicate 75 0)).2.2
    obtain ⟨K2, e2⟩ := back_l2 (a := a) (k := k) (d := d) (parse (base ++ List.replicate 75 0)).2.2 (by omega) hf _ 0 false (Nat.zero_add _)
    refine ⟨K1 + K2 + 1, fun q hq => ?_⟩
    obtain ⟨m, rfl⟩ : ∃ m, q = m + 1 := ⟨q - 1, by omega⟩
    have f1 := e1 m (by omega); have f2 := e2 m (by omega)
    dsimp only at f1 f2
    simp only [minecontrollaw04_TelegramBack.l1]
    rw [if_neg (by omega), f1]; simp only [Option.bind_some]
    exact f2
  | succ n ih =>
    intro i hi
    refine Ev.step (fun m => ?_) (ih (i + 1) (by omega))
    simp only [minecontrollaw04_TelegramBack.l1, Option.bind_some]
    rw [if_pos (by omega), if_pos (by simp only [List.length_append, List.length_replicate, List.length_cons, List.length_nil]; omega), w64 (by omega) (by omega), List.append_assoc, List.replicate_succ']
    rfl

theorem back_j1 {noise : List Int} (hN : Bt noise) (hl : noise.length ≤ 60) : Ev (fun m => minecontrollaw04_TelegramBack.j1 m noise false) true := by
  have hf : Fr 200 77 [1] := ⟨by decide, by decide, by decide, by decide, by decide, by intro x hx; simp at hx; subst hx; exact ⟨by decide, by decide⟩⟩
  have hwl := wr_len 200 77 [1]
  have hwb := wr_bt hf
  have hz : Bt (List.replicate 75 (0 : Int)) := by intro x hx; rw [(List.mem_replicate.1 hx).2]; exact ⟨by decide, by decide⟩
  simp only [List.length_cons, List.length_nil] at hwl
  have hlen : (wr 200 77 [1] ++ List.replicate 75 (0 : Int)).length = 82 := by rw [List.length_append, List.length_replicate, hwl]
  have hr := found_behind (rest := wr 200 77 [1] ++ List.replicate 75 0) (hwb.append hz) (by omega) (by omega) (by rw [parse_wr hf]; simp) noise.length noise (Nat.le_refl _) hN (by omega)
  obtain ⟨K1, e1⟩ := twrite hf
  obtain ⟨K2, e2⟩ := back_l1 (a := 200) (k := 77) (d := [1]) (base := noise ++ wr 200 77 [1]) (hN.append hwb) (by rw [List.length_append]; omega) (by rw [List.append_assoc]; exact hr) 75 0 rfl
  rw [List.replicate_zero, List.append_nil] at e2
  refine ⟨K1 + K2 + 1, fun q hq => ?_⟩
  obtain ⟨m, rfl⟩ : ∃ m, q = m + 1 := ⟨q - 1, by omega⟩
  have f1 := e1 m (by omega); have f2 := e2 m (by omega)
  dsimp only at f1 f2
  simp only [minecontrollaw04_TelegramBack.j1, Bool.false_eq_true, if_false, Option.bind_some]
  rw [f1]; simp only [Option.bind_some]
  rw [if_pos (by simp only [List.length_nil]; omega), List.nil_append, if_pos (by omega)]
  exact f2

theorem back_l0 {noise l : List Int} (hN : Bt noise) (hl : noise.length ≤ 60) : ∀ (n : Nat) (all : List Int) (want : List S24) (a : Int), C l a → Bt all → all.length + 100 * n ≤ 10000 → want.length ≤ all.length → (∀ m, parse (all ++ m) = ((parse m).1, (parse m).2.1, want ++ (parse m).2.2)) →
    Ev (fun k => minecontrollaw04_TelegramBack.l0 k noise all want (n : Int) l a) true := by
  intro n
  induction n with
  | zero =>
    intro all want a _ hB hal hw hp
    have h0 := hp []
    rw [List.append_nil, parse_nil, List.append_nil] at h0
    obtain ⟨K1, e1⟩ := feed (h := []) (l := all) (by intro x hx; simp at hx) hB (by simp only [List.length_nil]; omega) 0
    rw [List.nil_append, h0] at e1
    obtain ⟨K2, e2⟩ := same_ev want (by omega)
    obtain ⟨K3, e3⟩ := back_j1 hN hl
    refine ⟨K1 + K2 + K3 + 1, fun q hq => ?_⟩
    obtain ⟨m, rfl⟩ : ∃ m, q = m + 1 := ⟨q - 1, by omega⟩
    have f1 := e1 m (by omega); have f2 := e2 m (by omega); have f3 := e3 m (by omega)
    dsimp only at f1 f2 f3
    simp only [minecontrollaw04_TelegramBack.l0]
    rw [if_neg (by omega), f1]; simp only [Option.bind_some, dropN]
    rw [if_pos trivial, if_pos (by simp), f2]; simp only [Option.bind_some]
    exact f3
  | succ n ih =>
    intro all want a hc hB hal hw hp
    obtain ⟨A, K, D, a', ⟨K1, e1⟩, hc2, hf, hD⟩ := frame_ev hc
    obtain ⟨K2, e2⟩ := twrite hf
    have hwl := wr_len A K D
    have hwb := wr_bt hf
    obtain ⟨K3, e3⟩ := ih (all ++ wr A K D) (want ++ [⟨A, K, D⟩]) a' hc2 (hB.append hwb) (by rw [List.length_append]; omega) (by rw [List.length_append, List.length_append]; simp only [List.length_cons, List.length_nil]; omega) (by
      intro m
      rw [List.append_assoc, hp, parse_wr hf]
      simp)
    refine ⟨K1 + K2 + K3 + 1, fun q hq => ?_⟩
    obtain ⟨m, rfl⟩ : ∃ m, q = m + 1 := ⟨q - 1, by omega⟩
    have f1 := e1 m (by omega); have f2 := e2 m (by omega); have f3 := e3 m (by omega)
    dsimp only at f1 f2 f3
    simp only [minecontrollaw04_TelegramBack.l0]
    rw [if_pos (by omega), f1]; simp only [Option.bind_some]
    rw [f2]; simp only [Option.bind_some]
    rw [if_pos trivial, if_pos (by omega), if_pos (by simp only [List.length_cons, List.length_nil]; omega), w64 (by omega) (by omega), show ((n + 1 : Nat) : Int) - 1 = (n : Int) by omega]
    exact f3

theorem TelegramBack : minecontrollaw04_TelegramBack.Pure := by
  intro l0 l1 _ _ hb0 _ _ hb1
  refine Ev.rounds (g := fun n => minecontrollaw04_TelegramBack.f n l0 l1) ?_
  unfold minecontrollaw04_TelegramBack.f
  by_cases h : (l1.length : Int) > 60
  · simp only [if_pos h]
    exact awake_ev.bind (f := fun _ t => some t) (Ev.now _)
  · simp only [if_neg h]
    obtain ⟨l', hn, hc⟩ := new_ev hb0
    obtain ⟨v, a', ⟨K1, e1⟩, hc2, v0, v1, -⟩ := next_ev hc 5 (by omega)
    have v1 := v1 (by omega)
    obtain ⟨m, rfl⟩ : ∃ m : Nat, v = (m : Int) := ⟨v.toNat, by omega⟩
    obtain ⟨K2, e2⟩ := back_l0 (noise := l1) (l := l') (fun x hx => wf_u8 (hb1 x hx)) (by omega) m [] [] a' hc2 (by intro x hx; simp at hx) (by simp only [List.length_nil]; omega) (by simp) (fun m => by simp)
    refine ⟨K1 + K2, fun k hk => ?_⟩
    have f1 := e1 k (by omega); have f2 := e2 k (by omega)
    dsimp only at f1 f2 ⊢
    rw [hn]; simp only [Option.bind_some]
    rw [f1]; simp only [Option.bind_some]
    exact f2

end Go.Proofs.Ytacogcnckhgjbaa.Pure
