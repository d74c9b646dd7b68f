/- Bytes can come in any pieces: the same telegrams are read as of all of them at once, and the same is left, for any choices and any sizes of the pieces. -/
import Derived.Test.YtacogcnckhgjbaaComE
import Derived.Test.YtacogcnckhgjbaaPTelx9
namespace Go.Proofs.Ytacogcnckhgjbaa.Pure
open Go.RowKit Go.Proofs.Ytacogcnckhgjbaa.PTel Go.Proofs.YtacogcnckhgjbaaW.PrintWords Go.Proofs.YtacogcnckhgjbaaW.PrintLast Go.Proofs.YtacogcnckhgjbaaW.PrintMore Go.Proofs.Ytacogcnckhgjbaa.Com

theorem pieces_from {sizes all : List Int} (hs : ∀ x ∈ sizes, 0 ≤ x ∧ x ≤ 255) (hB : Bt all) (hl : all.length ≤ 10000) : ∀ (n : Nat) (pre rest : List Int) (i : Nat), rest.length ≤ n → all = pre ++ rest → i + rest.length ≤ 100000 →
    Ev (fun k => minecontrollaw04_TelegramPieces.l0 k sizes rest (parse all).2.2 (parse pre).2.2 (i : Int) (parse all).1 (dropN 0 (parse all).2.1) (parse pre).1 (dropN 0 (parse pre).2.1)) true := by
  intro n
  induction n with
  | zero =>
    intro pre rest i hn ha _
    obtain rfl : rest = [] := List.length_eq_zero_iff.1 (by omega)
    rw [List.append_nil] at ha
    subst ha
    obtain ⟨t1, t2, -⟩ := parse_tells all.length all (Nat.le_refl _) hB (by omega)
    have t3 := tot_len (parse all).2.2
    obtain ⟨K1, e1⟩ := same_ev (parse all).2.2 (by omega)
    obtain ⟨K2, e2⟩ := awake_ev
    refine ⟨K1 + K2 + 1, fun k hk => ?_⟩
    obtain ⟨m, rfl⟩ : ∃ m, k = m + 1 := ⟨k - 1, by omega⟩
    have f1 := e1 m (by omega); have f2 := e2 m (by omega)
    dsimp only at f1 f2
    simp only [minecontrollaw04_TelegramPieces.l0]
    rw [if_neg (by simp), if_pos trivial, if_pos trivial, f1]; simp only [Option.bind_some, if_true]
    rw [if_pos (by omega), f2]; rfl
  | succ n ih =>
    intro pre rest i hn ha hi
    by_cases hr : rest = []
    · subst hr; exact ih pre [] i (by simp) ha hi
    have hp := List.length_pos_iff.2 hr
    have hal : all.length = pre.length + rest.length := by rw [ha, List.length_append]
    have hBp : Bt pre := fun x hx => hB x (by rw [ha]; exact List.mem_append.2 (.inl hx))
    have hBr : Bt rest := fun x hx => hB x (by rw [ha]; exact List.mem_append.2 (.inr hx))
    obtain ⟨t1, t2, t3⟩ := parse_tells pre.length pre (Nat.le_refl _) hBp (by omega)
    have t4 := tot_len (parse pre).2.2
    -- one piece of any size
    have P : ∀ z : Int, 1 ≤ z → z ≤ rest.length → ∃ K, ∀ m, K ≤ m → (if 0 ≤ z then (if z ≤ (rest.length : Int) then ((telegram_Feed.f m (parse pre).1 (dropN 0 (parse pre).2.1) (rest.take z.toNat)).bind fun b => (if (parse pre).2.2.length + b.2.2.length < 3518437208883 then (minecontrollaw04_TelegramPieces.l0 m sizes (rest.drop z.toNat) (parse all).2.2 ((parse pre).2.2 ++ b.2.2) (wrap64 ((i : Int) + 1)) (parse all).1 (dropN 0 (parse all).2.1) b.1 b.2.1) else none)) else none) else none) = some true := by
      intro z z0 z1
      have hlt : (rest.take z.toNat).length = z.toNat := by rw [List.length_take]; omega
      have hld : (rest.drop z.toNat).length = rest.length - z.toNat := List.length_drop
      obtain ⟨K1, e1⟩ := (feed t3 (hBr.take z.toNat) (by omega) (dropN 0 (parse pre).2.1))
      have hpa := parse_append (rest.take z.toNat) pre.length pre (Nat.le_refl _) hBp (by omega)
      obtain ⟨s1, -, -⟩ := parse_tells _ ((parse pre).1 ++ rest.take z.toNat) (Nat.le_refl _) (t3.append (hBr.take _)) (by rw [List.length_append]; omega)
      have s2 := tot_len (parse ((parse pre).1 ++ rest.take z.toNat)).2.2
      rw [List.length_append] at s1
      obtain ⟨K2, e2⟩ := ih (pre ++ rest.take z.toNat) (rest.drop z.toNat) (i + 1) (by omega) (by rw [List.append_assoc, List.take_append_drop]; exact ha) (by omega)
      rw [hpa, dropN_add] at e2
      refine ⟨K1 + K2, fun m hm => ?_⟩
      have f1 := e1 m (by omega); have f2 := e2 m (by omega)
      dsimp only at f1 f2
      rw [if_pos (by omega), if_pos z1, f1]; simp only [Option.bind_some]
      rw [if_pos (by omega), w64 (by omega) (by omega)]
      exact f2
    by_cases h1 : (i : Int) < (sizes.length : Int)
    · by_cases h2 : (i : Int) < 100
      · have hx := hs _ (rd_mem (l := sizes) (i := i) (by omega) (by omega))
        have hz : 1 ≤ mn (rest.length : Int) (1 + Int.tmod (rd sizes i) 9) ∧ mn (rest.length : Int) (1 + Int.tmod (rd sizes i) 9) ≤ rest.length := by
          rw [Int.tmod_eq_emod_of_nonneg hx.1]
          unfold mn
          split <;> omega
        have hw : wrap64 (1 + Int.tmod (wrap64 (rd sizes i)) 9) = 1 + Int.tmod (rd sizes i) 9 := by
          rw [w64 (n := rd sizes i) (by omega) (by omega), Int.tmod_eq_emod_of_nonneg hx.1, w64 (by omega) (by omega)]
        obtain ⟨K, P⟩ := P _ hz.1 hz.2
        refine ⟨K + 1, fun k hk => ?_⟩
        obtain ⟨m, rfl⟩ : ∃ m, k = m + 1 := ⟨k - 1, by omega⟩
        simp only [minecontrollaw04_TelegramPieces.l0]
        rw [if_pos (by omega), if_pos h1, if_pos h2, if_pos (by omega), hw]
        exact P m (by omega)
      · obtain ⟨K, P⟩ := P (rest.length : Int) (by omega) (by omega)
        refine ⟨K + 1, fun k hk => ?_⟩
        obtain ⟨m, rfl⟩ : ∃ m, k = m + 1 := ⟨k - 1, by omega⟩
        simp only [minecontrollaw04_TelegramPieces.l0]
        rw [if_pos (by omega), if_pos h1, if_neg h2]
        exact P m (by omega)
    · obtain ⟨K, P⟩ := P (rest.length : Int) (by omega) (by omega)
      refine ⟨K + 1, fun k hk => ?_⟩
      obtain ⟨m, rfl⟩ : ∃ m, k = m + 1 := ⟨k - 1, by omega⟩
      simp only [minecontrollaw04_TelegramPieces.l0]
      rw [if_pos (by omega), if_neg h1]
      exact P m (by omega)

theorem TelegramPieces : minecontrollaw04_TelegramPieces.Pure := by
  intro l0 l1 _ _ hb0 _ _ hb1
  refine Ev.rounds (g := fun n => minecontrollaw04_TelegramPieces.f n l0 l1) ?_
  obtain ⟨l', hn, hc⟩ := new_ev hb0
  obtain ⟨b, a', ⟨K1, e1⟩, -, hB, hbl⟩ := bytes_ev hc 6 (by omega) (by omega)
  obtain ⟨K2, e2⟩ := (feed (h := []) (l := b) (by intro x hx; simp at hx) hB (by simp only [List.length_nil]; omega) 0)
  rw [List.nil_append] at e2
  obtain ⟨K3, e3⟩ := pieces_from (sizes := l1) (all := b) (fun x hx => wf_u8 (hb1 x hx)) hB (by omega) b.length [] b 0 (Nat.le_refl _) rfl (by omega)
  rw [parse_nil] at e3
  refine ⟨K1 + K2 + K3, fun m hk => ?_⟩
  have f1 := e1 m (by omega); have f2 := e2 m (by omega); have f3 := e3 m (by omega)
  dsimp only at f1 f2 f3 ⊢
  unfold minecontrollaw04_TelegramPieces.f
  rw [hn]; simp only [Option.bind_some]
  rw [f1]; simp only [Option.bind_some]
  rw [f2]; simp only [Option.bind_some]
  exact f3

end Go.Proofs.Ytacogcnckhgjbaa.Pure
