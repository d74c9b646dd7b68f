/- What is read of any bytes, in two pieces, from any reader: by the program and by the reference it is the same. -/
import Derived.Test.YtacogcnckhgjbaaComG
import Derived.Test.YtacogcnckhgjbaaPTerx7
namespace Go.Proofs.Ytacogcnckhgjbaa.Pure
open Go.RowKit Go.Proofs.Ytacogcnckhgjbaa.PTer Go.Proofs.YtacogcnckhgjbaaW.PrintWords Go.Proofs.YtacogcnckhgjbaaW.PrintLast Go.Proofs.YtacogcnckhgjbaaW.PrintMore Go.Proofs.Ytacogcnckhgjbaa.Com

theorem mod_in (k n : Int) (h : 1 ≤ n) (hn : n ≤ 1000000) : ∃ r, minecontroldraw_Mod.f k n = some r ∧ 0 ≤ r ∧ r < n := by
  have h1 := Int.tmod_lt_of_pos k (show 0 < n by omega)
  have h2 : -n < Int.tmod k n := by
    rcases Int.le_total 0 k with hk | hk
    · have := Int.tmod_nonneg n hk; omega
    · have := Int.tmod_lt_of_pos (-k) (show 0 < n by omega)
      rw [Int.neg_tmod] at this; omega
  unfold minecontroldraw_Mod.f
  rw [if_neg (by omega), if_neg (by omega)]
  by_cases hr : Int.tmod k n < 0
  · rw [if_pos hr, w64 (by omega) (by omega)]
    exact ⟨_, rfl, by omega, by omega⟩
  · rw [if_neg hr]
    exact ⟨_, rfl, by omega, by omega⟩

/-- One piece of bytes: the two readings come to the same. -/
theorem both {h l : List Int} (hB : Bt h) (lB : Bt l) (hn : h.length + l.length ≤ 20000) (d : Int) : ∃ p : List Int × Int × List S24, Ev (fun k => telegram_Feed.f k h d l) p ∧ Ev (fun k => minecontrolref04_Feed.f k h d l) p ∧ Bt p.1 ∧ p.1.length ≤ 100 ∧ p.2.2.length ≤ 30000 := by
  have hl : (h ++ l).length = h.length + l.length := List.length_append
  obtain ⟨t1, t2, t3⟩ := parse_tells _ (h ++ l) (Nat.le_refl _) (hB.append lB) (by omega)
  have t4 := tot_len (parse (h ++ l)).2.2
  exact ⟨_, feed hB lB (by omega) d, rfeed hB lB (by omega) d, t3, by show (parse (h ++ l)).1.length ≤ 100; omega, by show (parse (h ++ l)).2.2.length ≤ 30000; omega⟩

theorem reads_l0 {h : List Int} (hB : Bt h) (hl : h.length ≤ 200) (d a3 : Int) (ys : List (List Int)) (hyl : ys.length ≤ 1000) (hys : ∀ y ∈ ys, y.length ≤ 10000 ∧ Bt y) : ∀ (n i : Nat), i + n = ys.length →
    Ev (fun k => minecontrollaw04_TelegramReads.l0 k a3 ys (ys.length : Int) (i : Int) h d) true := by
  intro n
  induction n with
  | zero =>
    intro i hi
    refine Ev.step (fun k => ?_) awake_ev
    simp only [minecontrollaw04_TelegramReads.l0]
    rw [if_neg (by omega)]
    cases minecontrollaw04_awake.f k <;> rfl
  | succ n ih =>
    intro i hi
    have hm : rd_L2 ys i ∈ ys := by
      unfold rd_L2
      rw [List.getD_eq_getElem?_getD, Int.toNat_natCast, List.getElem?_eq_getElem (by omega)]
      exact List.getElem_mem (by omega)
    obtain ⟨hlen, hb⟩ := hys _ hm
    generalize hbb : rd_L2 ys i = b at *
    obtain ⟨r, hr, r0, r1⟩ := mod_in a3 ((b.length : Int) + 1) (by omega) (by omega)
    have hlt : (b.take r.toNat).length ≤ b.length := by rw [List.length_take]; omega
    have hld : (b.drop r.toNat).length ≤ b.length := by rw [List.length_drop]; omega
    obtain ⟨⟨p1, p2, p3⟩, ⟨K1, e1⟩, ⟨K2, e2⟩, pB, pl, pf⟩ := both hB (hb.take r.toNat) (by omega) d
    dsimp only at pB pl pf
    obtain ⟨⟨q1, q2, q3⟩, ⟨K3, e3⟩, ⟨K4, e4⟩, -, -, qf⟩ := both pB (hb.drop r.toNat) (by omega) p2
    dsimp only at qf
    obtain ⟨K5, e5⟩ := same_ev p3 (by omega)
    obtain ⟨K6, e6⟩ := same_ev q3 (by omega)
    obtain ⟨K7, e7⟩ := ih (i + 1) (by omega)
    refine ⟨K1 + K2 + K3 + K4 + K5 + K6 + K7 + 2, fun k hk => ?_⟩
    obtain ⟨m, rfl⟩ : ∃ m, k = m + 1 + 1 := ⟨k - 2, by omega⟩
    have f1 := e1 (m + 1) (by omega); have f2 := e2 (m + 1) (by omega); have f5 := e5 (m + 1) (by omega)
    have f3 := e3 m (by omega); have f4 := e4 m (by omega); have f6 := e6 m (by omega); have f7 := e7 m (by omega)
    dsimp only at f1 f2 f3 f4 f5 f6 f7
    simp only [minecontrollaw04_TelegramReads.l0]
    rw [if_pos (by omega), if_pos (by omega), if_pos (by omega), hbb, w64 (n := (b.length : Int) + 1) (by omega) (by omega), hr]; simp only [Option.bind_some]
    rw [if_pos r0, if_pos (by omega), f1]; simp only [Option.bind_some]
    rw [f2]; simp only [Option.bind_some]
    rw [if_pos trivial, if_pos trivial, f5]; simp only [Option.bind_some, Bool.not_true]
    simp only [minecontrollaw04_TelegramReads.j2, Bool.false_eq_true, if_false]
    rw [if_pos r0, if_pos (by omega), f3]; simp only [Option.bind_some]
    rw [f4]; simp only [Option.bind_some]
    rw [if_pos trivial, if_pos trivial, f6]; simp only [Option.bind_some, if_true]
    rw [w64 (by omega) (by omega)]
    exact f7

theorem TelegramReads : minecontrollaw04_TelegramReads.Pure := by
  intro l0 h d l2 a3 _ _ hb0 hh _ _ _ hb2 _
  have hB : Bt h := fun x hx => wf_u8 (hh.2 x hx)
  suffices H : ∀ b : Bool, (b = false → h.length ≤ 200 ∧ l2.length ≤ 300) → Ev (fun n => minecontrollaw04_TelegramReads.j0 n l0 l2 a3 b h d) true by
    refine Ev.rounds (g := fun n => minecontrollaw04_TelegramReads.f n l0 h d l2 a3) ?_
    unfold minecontrollaw04_TelegramReads.f
    by_cases h1 : (h.length : Int) > 200
    · simp only [if_pos h1]; exact H true (by simp)
    · by_cases h2 : (l2.length : Int) > 300
      · simp only [if_neg h1, if_pos h2]; exact H true (by simp)
      · simp only [if_neg h1, if_neg h2]; exact H _ (fun _ => by omega)
  intro b hb
  cases b with
  | true =>
    refine Ev.step (fun n => ?_) awake_ev
    simp only [minecontrollaw04_TelegramReads.j0, if_true]
    cases minecontrollaw04_awake.f n <;> rfl
  | false =>
    obtain ⟨h0, h1⟩ := hb rfl
    obtain ⟨l', hn, hc⟩ := new_ev hb0
    obtain ⟨b, a', ⟨K1, e1⟩, -, bB, bl⟩ := bytes_ev hc 5 (by omega) (by omega)
    obtain ⟨K2, e2⟩ := reads_l0 hB h0 d a3 [b, l2] (by simp) (by
      intro y hy
      simp only [List.mem_cons, List.not_mem_nil, or_false] at hy
      rcases hy with rfl | rfl
      · exact ⟨by omega, bB⟩
      · exact ⟨by omega, fun x hx => wf_u8 (hb2 x hx)⟩) 2 0 (by simp)
    refine ⟨K1 + K2 + 1, fun n hk => ?_⟩
    obtain ⟨m, rfl⟩ : ∃ m, n = m + 1 := ⟨n - 1, by omega⟩
    have f1 := e1 m (by omega); have f2 := e2 m (by omega)
    dsimp only at f1 f2
    simp only [minecontrollaw04_TelegramReads.j0, Bool.false_eq_true, if_false]
    rw [hn]; simp only [Option.bind_some]
    rw [f1]; simp only [Option.bind_some]
    exact f2

end Go.Proofs.Ytacogcnckhgjbaa.Pure
