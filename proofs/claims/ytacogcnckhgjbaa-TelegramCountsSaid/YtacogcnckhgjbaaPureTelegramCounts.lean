/- No byte is lost in reading: those that are dropped, held, and in telegrams that are returned are together those that came, for any choices and any raw bytes. -/
import Derived.Test.YtacogcnckhgjbaaComE
import Derived.Test.YtacogcnckhgjbaaPTelx11
namespace Go.Proofs.Ytacogcnckhgjbaa.Pure
open Go.RowKit Go.Proofs.Ytacogcnckhgjbaa.PTel Go.Proofs.YtacogcnckhgjbaaW.PrintWords Go.Proofs.YtacogcnckhgjbaaW.PrintLast Go.Proofs.YtacogcnckhgjbaaW.PrintMore Go.Proofs.Ytacogcnckhgjbaa.Com

theorem drop_T24 {l : List S24} {i : Nat} (h : i < l.length) : l.drop i = rd_T24 l i :: l.drop (i + 1) := by
  rw [List.drop_eq_getElem_cons h]
  congr 1
  unfold rd_T24
  rw [List.getD_eq_getElem?_getD, Int.toNat_natCast, List.getElem?_eq_getElem h]
  rfl

theorem counts_l1 {b : List Int} {ys : List (List Int)} {len i : Int} (fs : List S24) (hb : b.length ≤ 100000) (hf : fs.length ≤ 100000)
    (h : Ev (fun k => minecontrollaw04_TelegramCounts.l0 k ys len (wrap64 (i + 1))) true) : ∀ (d j n : Nat), j + d = fs.length → n + tot (fs.drop j) = b.length →
    Ev (fun k => minecontrollaw04_TelegramCounts.l1 k b fs (n : Int) ys len i (fs.length : Int) (j : Int)) true := by
  intro d
  induction d with
  | zero =>
    intro j n hj hn
    rw [List.drop_of_length_le (by omega)] at hn
    simp only [tot] at hn
    refine Ev.step (fun k => ?_) h
    simp only [minecontrollaw04_TelegramCounts.l1]
    rw [if_neg (by omega), if_pos (by omega)]
  | succ d ih =>
    intro j n hj hn
    rw [drop_T24 (by omega)] at hn
    simp only [tot] at hn
    refine Ev.step (fun k => ?_) (ih (j + 1) (n + (6 + (rd_T24 fs j).f2.length)) (by omega) (by omega))
    simp only [minecontrollaw04_TelegramCounts.l1]
    rw [if_pos (by omega), if_pos (by omega), if_pos (by omega), w64 (n := 6 + ((rd_T24 fs j).f2.length : Int)) (by omega) (by omega), w64 (n := (n : Int) + _) (by omega) (by omega), w64 (n := (j : Int) + 1) (by omega) (by omega)]
    rfl

theorem counts_l0 (ys : List (List Int)) (hl : ys.length ≤ 1000) (hys : ∀ y ∈ ys, y.length ≤ 10000 ∧ Bt y) : ∀ (d i : Nat), i + d = ys.length →
    Ev (fun k => minecontrollaw04_TelegramCounts.l0 k ys (ys.length : Int) (i : Int)) true := by
  intro d
  induction d with
  | zero =>
    intro i hi
    refine Ev.step (fun k => ?_) awake_ev
    simp only [minecontrollaw04_TelegramCounts.l0]
    rw [if_neg (by omega)]
    cases minecontrollaw04_awake.f k <;> rfl
  | succ d ih =>
    intro i hi
    have hm : rd_L2 ys i ∈ ys := by
      unfold rd_L2
      rw [List.getD_eq_getElem?_getD, Int.toNat_natCast, List.getElem?_eq_getElem (by omega)]
      exact List.getElem_mem (by omega)
    obtain ⟨hlen, hB⟩ := hys _ hm
    generalize hb : rd_L2 ys i = b at *
    obtain ⟨K1, e1⟩ := (feed (h := []) (l := b) (by intro x hx; simp at hx) hB (by simp only [List.length_nil]; omega) 0)
    rw [List.nil_append] at e1
    obtain ⟨t1, t2, -⟩ := parse_tells b.length b (Nat.le_refl _) hB (by omega)
    have t3 := tot_len (parse b).2.2
    rw [dropN_small _ 0 (by omega) (by omega)] at e1
    obtain ⟨K2, e2⟩ := counts_l1 (b := b) (ys := ys) (len := (ys.length : Int)) (i := (i : Int)) (parse b).2.2 (by omega) (by omega) (by rw [w64 (by omega) (by omega)]; exact ih (i + 1) (by omega)) (parse b).2.2.length 0 ((parse b).2.1 + (parse b).1.length) (by omega) (by rw [List.drop_zero]; omega)
    refine ⟨K1 + K2 + 1, fun k hk => ?_⟩
    obtain ⟨m, rfl⟩ : ∃ m, k = m + 1 := ⟨k - 1, by omega⟩
    have f1 := e1 m (by omega); have f2 := e2 m (by omega)
    dsimp only at f1 f2
    simp only [minecontrollaw04_TelegramCounts.l0]
    rw [if_pos (by omega), if_pos (by omega), if_pos (by omega), hb, f1]; simp only [Option.bind_some]
    rw [w64 (by omega) (by omega), Int.zero_add]
    rw [Int.natCast_add] at f2
    exact f2

theorem TelegramCounts : minecontrollaw04_TelegramCounts.Pure := by
  intro l0 l1 _ _ hb0 _ _ hb1
  refine Ev.rounds (g := fun n => minecontrollaw04_TelegramCounts.f n l0 l1) ?_
  unfold minecontrollaw04_TelegramCounts.f
  by_cases h : (l1.length : Int) > 300
  · simp only [if_pos h]
    exact awake_ev.bind (f := fun _ t => some t) (Ev.now _)
  · simp only [if_neg h]
    obtain ⟨l', hn, hc⟩ := new_ev hb0
    obtain ⟨b, a', ⟨K1, e1⟩, -, hB, hbl⟩ := bytes_ev hc 6 (by omega) (by omega)
    obtain ⟨K2, e2⟩ := counts_l0 [b, l1] (by simp) (by
      intro y hy
      simp only [List.mem_cons, List.not_mem_nil, or_false] at hy
      rcases hy with rfl | rfl
      · exact ⟨by omega, hB⟩
      · exact ⟨by omega, fun x hx => wf_u8 (hb1 x hx)⟩) 2 0 (by simp)
    refine ⟨K1 + K2, fun m hk => ?_⟩
    have f1 := e1 m (by omega); have f2 := e2 m (by omega)
    dsimp only at f1 f2 ⊢
    rw [hn]; simp only [Option.bind_some]
    rw [f1]; simp only [Option.bind_some]
    exact f2

end Go.Proofs.Ytacogcnckhgjbaa.Pure
