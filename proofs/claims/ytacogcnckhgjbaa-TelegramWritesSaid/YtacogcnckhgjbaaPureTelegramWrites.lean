/- The check value of any bytes, and the bytes of any telegram, or the error: by the program and by the reference they are the same, for any raw bytes, any telegram and any choices. -/
import Derived.Test.YtacogcnckhgjbaaComE
import Derived.Test.YtacogcnckhgjbaaPTelx5
namespace Go.Proofs.Ytacogcnckhgjbaa.Pure
open Go.RowKit Go.Proofs.Ytacogcnckhgjbaa.PTel Go.Proofs.YtacogcnckhgjbaaW.PrintWords Go.Proofs.YtacogcnckhgjbaaW.PrintLast Go.Proofs.YtacogcnckhgjbaaW.PrintMore Go.Proofs.Ytacogcnckhgjbaa.Com

theorem writes_from {raw : List Int} (hr : raw.length ≤ 1000) (hB : Bt raw) (ys : List S24) (hy : ys.length ≤ 1000) (hys : ∀ y ∈ ys, y.f2.length ≤ 1000 ∧ Bt y.f2) :
    ∀ (d i : Nat), i + d = ys.length → Ev (fun k => minecontrollaw04_TelegramWrites.l0 k raw ys (ys.length : Int) (i : Int)) true := by
  intro d
  induction d with
  | zero =>
    intro i hi
    obtain ⟨K1, e1⟩ := tcheck (l := raw) (by omega) hB
    obtain ⟨K2, e2⟩ := rcheck (l := raw) (by omega) hB
    obtain ⟨K3, e3⟩ := awake_ev
    refine ⟨K1 + K2 + K3 + 1, fun k hk => ?_⟩
    obtain ⟨m, rfl⟩ : ∃ m, k = m + 1 := ⟨k - 1, by omega⟩
    have f1 := e1 m (by omega); have f2 := e2 m (by omega); have f3 := e3 m (by omega)
    dsimp only at f1 f2 f3
    simp only [minecontrollaw04_TelegramWrites.l0]
    rw [if_neg (by omega), f1, f2]; simp only [Option.bind_some]
    rw [if_pos trivial, f3]; rfl
  | succ d ih =>
    intro i hi
    have hm : rd_T24 ys i ∈ ys := by
      unfold rd_T24
      rw [List.getD_eq_getElem?_getD, Int.toNat_natCast, List.getElem?_eq_getElem (by omega)]
      exact List.getElem_mem (by omega)
    obtain ⟨r, ⟨K1, e1⟩, ⟨K2, e2⟩⟩ := write_any (rd_T24 ys i).f0 (rd_T24 ys i).f1 (rd_T24 ys i).f2 (hys _ hm).1 (hys _ hm).2
    obtain ⟨K3, e3⟩ := ih (i + 1) (by omega)
    refine ⟨K1 + K2 + K3 + 1, fun k hk => ?_⟩
    obtain ⟨m, rfl⟩ : ∃ m, k = m + 1 := ⟨k - 1, by omega⟩
    have f1 := e1 m (by omega); have f2 := e2 m (by omega); have f3 := e3 m (by omega)
    dsimp only at f1 f2 f3
    simp only [minecontrollaw04_TelegramWrites.l0]
    rw [if_pos (by omega), if_pos (by omega), if_pos (by omega), f1, f2]; simp only [Option.bind_some]
    rw [if_pos trivial, if_pos trivial, w64 (by omega) (by omega)]
    exact f3

theorem TelegramWrites : minecontrollaw04_TelegramWrites.Pure := by
  intro l0 a k d l2 _ _ hb0 _ _ hd _ _ hb2
  have hB0 : Bt l0 := fun x hx => wf_u8 (hb0 x hx)
  have hBd : Bt d := fun x hx => wf_u8 (hd.2 x hx)
  suffices H : ∀ b : Bool, (b = false → l0.length ≤ 300 ∧ d.length ≤ 300) → Ev (fun n => minecontrollaw04_TelegramWrites.j0 n l0 l2 b a k d) true by
    refine Ev.rounds (g := fun n => minecontrollaw04_TelegramWrites.f n l0 a k d l2) ?_
    unfold minecontrollaw04_TelegramWrites.f
    by_cases h : (l0.length : Int) > 300
    · simp only [if_pos h]; exact H true (by simp)
    · simp only [if_neg h]; exact H _ (fun z => by simp at z; omega)
  intro b hb
  cases b with
  | true =>
    refine Ev.step (fun n => ?_) awake_ev
    simp only [minecontrollaw04_TelegramWrites.j0, if_true]
    cases minecontrollaw04_awake.f n <;> rfl
  | false =>
    obtain ⟨h0, h1⟩ := hb rfl
    obtain ⟨l', hn, hc⟩ := new_ev hb2
    obtain ⟨A, K, D, a', ⟨K1, e1⟩, -, hf, hD⟩ := frame_ev hc
    obtain ⟨K2, e2⟩ := writes_from (raw := l0) (by omega) hB0 [⟨a, k, d⟩, ⟨A, K, D⟩] (by simp) (by
      intro y hy
      simp only [List.mem_cons, List.not_mem_nil, or_false] at hy
      rcases hy with rfl | rfl
      · exact ⟨by show d.length ≤ 1000; omega, hBd⟩
      · exact ⟨by show D.length ≤ 1000; omega, hf.b⟩) 2 0 (by simp)
    refine ⟨K1 + K2 + 1, fun n hk => ?_⟩
    obtain ⟨m, rfl⟩ : ∃ m, n = m + 1 := ⟨n - 1, by omega⟩
    have f1 := e1 m (by omega); have f2 := e2 m (by omega)
    dsimp only at f1 f2
    simp only [minecontrollaw04_TelegramWrites.j0, Bool.false_eq_true, if_false]
    rw [hn]; simp only [Option.bind_some]
    rw [f1]; simp only [Option.bind_some]
    exact f2

end Go.Proofs.Ytacogcnckhgjbaa.Pure
