/- A telegram of which one byte is another one is not read as it was, and no other one of its length is read, for any choices, any place and any byte. -/
import Derived.Test.YtacogcnckhgjbaaComE
import Derived.Test.YtacogcnckhgjbaaPTelx11
namespace Go.Proofs.Ytacogcnckhgjbaa.Pure
open Go.RowKit Go.Proofs.Ytacogcnckhgjbaa.PTel Go.Proofs.YtacogcnckhgjbaaW.PrintWords Go.Proofs.YtacogcnckhgjbaaW.PrintLast Go.Proofs.YtacogcnckhgjbaaW.PrintMore Go.Proofs.Ytacogcnckhgjbaa.Com

theorem mod_in (k n : Int) (h : 1 ≤ n) (hn : n ≤ 1000000) : ∃ r, minecontroldraw_Mod.f k n = some r ∧ 0 ≤ r ∧ r < n := by
  have h1 := Int.tmod_lt_of_pos k (show 0 < n by omega)
  have h2 : -n < Int.tmod k n := by
    rcases Int.le_total 0 k with hk | hk
    · have := Int.tmod_nonneg n hk; omega
    · have := Int.tmod_lt_of_pos (-k) (show 0 < n by omega)
      rw [Int.neg_tmod] at this; omega
  unfold minecontroldraw_Mod.f
  rw [if_neg (by omega), if_neg (by omega)]
  by_cases hr : Int.tmod k n < 0
  · rw [if_pos hr, w64 (by omega) (by omega)]
    exact ⟨_, rfl, by omega, by omega⟩
  · rw [if_neg hr]
    exact ⟨_, rfl, by omega, by omega⟩

/-- No telegram of a certain length, where not enough bytes stand, or the first one is none. -/
theorem none_of (n : Nat) : ∀ (m : Nat) (l : List Int), l.length ≤ m → Bt l → l.length ≤ 1000000 → l.length ≤ 6 + n → (l.length = 6 + n → nxt l = .take → rd l 1 ≠ n) → ∀ f ∈ (parse l).2.2, f.f2.length ≠ n := by
  intro m
  induction m with
  | zero =>
    intro l hm _ _ _ _ f hf
    obtain rfl : l = [] := List.length_eq_zero_iff.1 (by omega)
    rw [parse_nil] at hf; simp at hf
  | succ m ih =>
    intro l hm hB hb hn hne f hf
    by_cases hl : l = []
    · subst hl; rw [parse_nil] at hf; simp at hf
    have hp := List.length_pos_iff.2 hl
    have hd1 : (l.drop 1).length = l.length - 1 := List.length_drop
    cases e : nxt l with
    | wait => rw [parse_wait hl e] at hf; simp at hf
    | drop =>
      rw [parse_drop hl e] at hf
      exact ih (l.drop 1) (by omega) (hB.drop 1) (by omega) (by omega) (by omega) f hf
    | take =>
      obtain ⟨e0, e1, e2, e3⟩ := nxt_take e
      have hw := whole hB hb e1 e2
      have := hw.len; have := hw.n0
      have hd6 : (l.drop ((rd l 1).toNat + 6)).length = l.length - ((rd l 1).toNat + 6) := List.length_drop
      rw [parse_take hl e] at hf
      rcases List.mem_cons.1 hf with rfl | hf
      · have hfl : (fr l).f2.length = (rd l 1).toNat := by
          unfold fr
          rw [List.length_drop, List.length_take]; omega
        rw [hfl]
        intro hc
        exact hne (by omega) e (by omega)
      · exact ih _ (by omega) (hB.drop _) (by omega) (by omega) (by omega) f hf

theorem rd_set {l : List Int} {i : Int} {v : Int} (h0 : 0 ≤ i) (h : i < l.length) (j : Int) (hj : 0 ≤ j) : rd (l.set i.toNat v) j = if j = i then v else rd l j := by
  unfold rd
  rw [List.getD_eq_getElem?_getD, List.getD_eq_getElem?_getD, List.getElem?_set]
  by_cases e : j = i
  · subst e
    rw [if_pos rfl, if_pos rfl, if_pos (by omega)]; rfl
  · rw [if_neg (by omega), if_neg e]

/-- A telegram with one other byte isn't taken as one of its length. -/
theorem damaged {a k : Int} {d : List Int} (h : Fr a k d) {i v : Int} (h0 : 0 ≤ i) (hi : i < (wr a k d).length) (hv : 0 ≤ v ∧ v ≤ 255) (hne : rd (wr a k d) i ≠ v) :
    nxt ((wr a k d).set i.toNat v) = .take → rd ((wr a k d).set i.toNat v) 1 ≠ d.length := by
  intro ht h1
  have hwl := wr_len a k d
  have hwb := wr_bt h
  have hs := sums_lt a k d
  obtain ⟨e0, e1, e2, e3⟩ := nxt_take ht
  have q0 : rd (wr a k d) 0 = 126 := by have := wr_0 a k d []; rwa [List.append_nil] at this
  have q1 : rd (wr a k d) 1 = d.length := by have := wr_1 a k d []; rwa [List.append_nil] at this
  have q4 : rd (wr a k d) (4 + d.length) = ((sums a k d / 256 : Nat) : Int) := by have := wr_4 a k d []; rwa [List.append_nil] at this
  have q5 : rd (wr a k d) (5 + d.length) = ((sums a k d % 256 : Nat) : Int) := by have := wr_5 a k d []; rwa [List.append_nil] at this
  have qt : (wr a k d).take (4 + d.length) = [126, (d.length : Int), a, k] ++ d := by have := wr_take a k d []; rwa [List.append_nil] at this
  rw [rd_set h0 hi 0 (by omega)] at e0
  by_cases hi0 : i = 0
  · subst hi0
    rw [if_pos rfl] at e0
    exact hne (by rw [q0, e0])
  rw [rd_set h0 hi 1 (by omega)] at h1
  by_cases hi1 : i = 1
  · subst hi1
    rw [if_pos rfl] at h1
    exact hne (by rw [q1, h1])
  -- the length stays as it was
  have l1 : rd ((wr a k d).set i.toNat v) 1 = d.length := by rw [rd_set h0 hi 1 (by omega), if_neg (by omega), q1]
  unfold right body at e3
  rw [l1, Int.toNat_natCast, rd_set h0 hi _ (by omega), rd_set h0 hi _ (by omega), q4, q5] at e3
  by_cases hi4 : i < 4 + d.length
  · -- one of the bytes that are checked
    rw [if_neg (by omega), if_neg (by omega), show ((sums a k d / 256 : Nat) : Int) * 256 + ((sums a k d % 256 : Nat) : Int) = ((sums a k d : Nat) : Int) by omega] at e3
    have e4 : crc 65535 ((((wr a k d).set i.toNat v).take (4 + d.length)).drop 1) = sums a k d := by omega
    have e5 : sums a k d = crc 65535 (((wr a k d).take (4 + d.length)).drop 1) := by rw [qt]; rfl
    rw [e5] at e4
    have hT : ((wr a k d).take (4 + d.length)).length = 4 + d.length := by rw [List.length_take]; omega
    rw [List.take_set] at e4
    generalize hTT : (wr a k d).take (4 + d.length) = T at e4 hT
    have hTi : rd T i = rd (wr a k d) i := by
      rw [← hTT]
      unfold rd
      rw [List.getD_eq_getElem?_getD, List.getD_eq_getElem?_getD, List.getElem?_take, if_pos (by omega)]
    have hTB : Bt T := by rw [← hTT]; exact hwb.take _
    obtain ⟨j, hj⟩ : ∃ j : Nat, i.toNat = j + 1 := ⟨i.toNat - 1, by omega⟩
    rw [hj, List.drop_set, if_neg (by omega), Nat.add_sub_cancel] at e4
    have hD : (T.drop 1).length = 3 + d.length := by rw [List.length_drop]; omega
    have hx : (T.drop 1)[j]? = some (rd T i) := by
      rw [List.getElem?_drop]
      unfold rd
      rw [List.getD_eq_getElem?_getD, show i.toNat = 1 + j by omega, List.getElem?_eq_getElem (by omega)]
      rfl
    generalize T.drop 1 = D at e4 hD hx
    have hjl : j < D.length := by omega
    have hs1 : D = D.take j ++ rd T i :: D.drop (j + 1) := by
      rw [List.getElem?_eq_getElem hjl] at hx
      rw [← Option.some.inj hx, List.getElem_cons_drop, List.take_append_drop]
    have hs2 : D.set j v = D.take j ++ v :: D.drop (j + 1) := by rw [List.set_eq_take_append_cons_drop, if_pos hjl]
    rw [hs2] at e4
    have e6 : crc 65535 D = crc 65535 (D.take j ++ rd T i :: D.drop (j + 1)) := congrArg (crc 65535) hs1
    rw [e6] at e4
    exact crc_one hv (hTB.rd i) (by rw [hTi]; exact fun z => hne z.symm) (D.take j) (D.drop (j + 1)) e4
  · -- one of the two last bytes
    have e5 : crc 65535 ((((wr a k d).set i.toNat v).take (4 + d.length)).drop 1) = sums a k d := by
      rw [List.take_set_of_le (by omega), qt]; rfl
    rw [e5] at e3
    by_cases hi5 : i = 4 + d.length
    · rw [if_pos hi5.symm, if_neg (by omega)] at e3
      exact hne (by rw [hi5, q4]; omega)
    · have hi6 : i = 5 + d.length := by omega
      rw [if_neg (by omega), if_pos hi6.symm] at e3
      exact hne (by rw [hi6, q5]; omega)

theorem damage_from {a k : Int} {d : List Int} (l : List S24) (hl : l.length ≤ 100000) (hd : ∀ f ∈ l, f.f2.length ≠ d.length) : ∀ (n i : Nat), i + n = l.length → Ev (fun m => minecontrollaw04_TelegramDamage.l0 m l (i : Int) a k d) true := by
  intro n
  induction n with
  | zero =>
    intro i hi
    refine Ev.step (fun m => ?_) awake_ev
    simp only [minecontrollaw04_TelegramDamage.l0]
    rw [if_neg (by omega)]
    cases minecontrollaw04_awake.f m <;> rfl
  | succ n ih =>
    intro i hi
    have hm : rd_T24 l i ∈ l := by
      unfold rd_T24
      rw [List.getD_eq_getElem?_getD, Int.toNat_natCast, List.getElem?_eq_getElem (by omega)]
      exact List.getElem_mem (by omega)
    have := hd _ hm
    refine Ev.step (fun m => ?_) (ih (i + 1) (by omega))
    simp only [minecontrollaw04_TelegramDamage.l0]
    rw [if_pos (by omega), if_pos (by omega), if_neg (by omega), w64 (by omega) (by omega)]
    rfl

theorem TelegramDamage : minecontrollaw04_TelegramDamage.Pure := by
  intro l0 at' by' _ _ hb0 _ hby
  refine Ev.rounds (g := fun n => minecontrollaw04_TelegramDamage.f n l0 at' by') ?_
  obtain ⟨l', hn, hc⟩ := new_ev hb0
  obtain ⟨A, K, D, a', ⟨K1, e1⟩, -, hf, hD⟩ := frame_ev hc
  obtain ⟨K2, e2⟩ := twrite hf
  have hwl := wr_len A K D
  have hwb := wr_bt hf
  obtain ⟨r, hr, r0, r1⟩ := mod_in at' ((wr A K D).length : Int) (by omega) (by omega)
  have hby := wf_u8 hby
  -- what stands behind the writing
  have J : Ev (fun m => minecontrollaw04_TelegramDamage.j0 m at' by' (wr A K D) false A K D) true := by
    by_cases he : rd (wr A K D) r = by'
    · refine Ev.step (fun m => ?_) awake_ev
      simp only [minecontrollaw04_TelegramDamage.j0, Bool.false_eq_true, if_false]
      rw [hr]; simp only [Option.bind_some]
      rw [if_pos r0, if_pos r1, if_pos he]
      cases minecontrollaw04_awake.f m <;> rfl
    · have hB2 : Bt ((wr A K D).set r.toNat by') := hwb.set _ hby
      obtain ⟨K3, e3⟩ := feed (h := []) (l := (wr A K D).set r.toNat by') (by intro x hx; simp at hx) hB2 (by rw [List.length_set]; simp only [List.length_nil]; omega) 0
      rw [List.nil_append] at e3
      obtain ⟨t1, -, -⟩ := parse_tells _ ((wr A K D).set r.toNat by') (Nat.le_refl _) hB2 (by rw [List.length_set]; omega)
      have t2 := tot_len (parse ((wr A K D).set r.toNat by')).2.2
      rw [List.length_set] at t1
      have hno := none_of D.length _ ((wr A K D).set r.toNat by') (Nat.le_refl _) hB2 (by rw [List.length_set]; omega) (by rw [List.length_set]; omega) (fun _ => damaged hf r0 r1 hby he)
      obtain ⟨K4, e4⟩ := damage_from (a := A) (k := K) (d := D) (parse ((wr A K D).set r.toNat by')).2.2 (by omega) hno _ 0 (Nat.zero_add _)
      refine ⟨K3 + K4 + 1, fun k hk => ?_⟩
      obtain ⟨m, rfl⟩ : ∃ m, k = m + 1 := ⟨k - 1, by omega⟩
      have f3 := e3 m (by omega); have f4 := e4 m (by omega)
      dsimp only at f3 f4
      simp only [minecontrollaw04_TelegramDamage.j0, Bool.false_eq_true, if_false]
      rw [hr]; simp only [Option.bind_some]
      rw [if_pos r0, if_pos r1, if_neg he, if_pos (by simp only [List.length_nil]; omega), List.nil_append, if_pos (by omega), f3]; simp only [Option.bind_some]
      exact f4
  obtain ⟨K5, J⟩ := J
  refine ⟨K1 + K2 + K5, fun m hk => ?_⟩
  have f1 := e1 m (by omega); have f2 := e2 m (by omega); have f5 := J m (by omega)
  dsimp only at f1 f2 f5 ⊢
  unfold minecontrollaw04_TelegramDamage.f
  rw [hn]; simp only [Option.bind_some]
  rw [f1]; simp only [Option.bind_some]
  rw [f2]; simp only [Option.bind_some]
  rw [if_pos trivial, decide_eq_false (by omega)]
  exact f5

end Go.Proofs.Ytacogcnckhgjbaa.Pure
