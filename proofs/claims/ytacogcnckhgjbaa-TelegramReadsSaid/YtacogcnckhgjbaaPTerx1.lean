/- Functions of the given program as Lean functions, and proofs that its calls come to what these say. Written by a program of this seat (wip/mkprint.py); Lean checks it all. -/
import Derived.Test.YtacogcnckhgjbaaPTerx0
namespace Go.Proofs.Ytacogcnckhgjbaa.PTer
open Go.RowKit Go.Proofs.YtacogcnckhgjbaaW.PrintWords Go.Proofs.YtacogcnckhgjbaaW.PrintLast Go.Proofs.YtacogcnckhgjbaaW.PrintMore
attribute [local go_sem] max2_int min2_int max_two min_two max_three min_three max_four min_four   -- for this text's walks alone
set_option linter.unusedVariables false
set_option linter.unusedSimpArgs false

/-! ### telegram_Check: function 14 -/
mutual
def telegram_Check.l0 : Nat → Int → List Int → Int → Int → Option (Int)
 | 0, _, _, _, _ => none
 | k + 1, x3, x8, x9, x10 => if x10 < x9 then (if 0 ≤ x10 then (if x10 < (x8.length : Int) then (telegram_Check.l1 k x3 (rd x8 x10) 7 x8 x9 x10) else (none)) else (none)) else (some x3)
def telegram_Check.l1 : Nat → Int → Int → Int → List Int → Int → Int → Option (Int)
 | 0, _, _, _, _, _, _ => none
 | k + 1, x3, x5, x6, x8, x9, x10 => if x6 ≥ 0 then (if 0 ≤ (IntKind.u64.wrap (x6)) then (if (x3 / 32768) = (Go.bits .and .i64 (wrap64 (shr .u8 x5 (IntKind.u64.wrap (x6)))) 1) then (telegram_Check.l1 k (Go.bits .and .i64 (wrap64 (x3 * 2)) 65535) x5 (wrap64 (x6 - 1)) x8 x9 x10) else (telegram_Check.l1 k (Go.bits .xor .i64 (Go.bits .and .i64 (wrap64 (x3 * 2)) 65535) 4129) x5 (wrap64 (x6 - 1)) x8 x9 x10)) else (none)) else (telegram_Check.l0 k x3 x8 x9 (wrap64 (x10 + 1)))
end
def telegram_Check.f (k : Nat) (l0 : List Int) : Option (Int) := telegram_Check.l0 k 65535 l0 (l0.length : Int) 0
theorem telegram_Check.mono_l : ∀ k, (∀ y0 y1 y2 y3, LeO (telegram_Check.l0 k y0 y1 y2 y3) (telegram_Check.l0 (k + 1) y0 y1 y2 y3)) ∧ (∀ y0 y1 y2 y3 y4 y5, LeO (telegram_Check.l1 k y0 y1 y2 y3 y4 y5) (telegram_Check.l1 (k + 1) y0 y1 y2 y3 y4 y5))
 | 0 => ⟨fun _ _ _ _ r h => by simp [telegram_Check.l0] at h, fun _ _ _ _ _ _ r h => by simp [telegram_Check.l1] at h⟩
 | k + 1 => by
  obtain ⟨ih0, ih1⟩ := telegram_Check.mono_l k
  refine ⟨?_, ?_⟩
  ·
   intro y0 y1 y2 y3
   unfold telegram_Check.l0
   repeat' first
   | (with_reducible exact ih0 _ _ _ _)
   | (with_reducible exact ih1 _ _ _ _ _ _)
   | (with_reducible exact LeO.refl _)
   | (with_reducible exact LeO.none _)
   | (with_reducible refine LeO.ite ?_ ?_)
   | (with_reducible refine LeO.bind ?_ (fun _ => ?_))
   | exact ih0 _ _ _ _
   | exact ih1 _ _ _ _ _ _
   | exact LeO.none _
   | refine LeO.ite ?_ ?_
   | refine LeO.bind ?_ (fun _ => ?_)
  ·
   intro y0 y1 y2 y3 y4 y5
   unfold telegram_Check.l1
   repeat' first
   | (with_reducible exact ih0 _ _ _ _)
   | (with_reducible exact ih1 _ _ _ _ _ _)
   | (with_reducible exact LeO.refl _)
   | (with_reducible exact LeO.none _)
   | (with_reducible refine LeO.ite ?_ ?_)
   | (with_reducible refine LeO.bind ?_ (fun _ => ?_))
   | exact ih0 _ _ _ _
   | exact ih1 _ _ _ _ _ _
   | exact LeO.none _
   | refine LeO.ite ?_ ?_
   | refine LeO.bind ?_ (fun _ => ?_)
theorem telegram_Check.mono : ∀ a0 k, LeO (telegram_Check.f k a0) (telegram_Check.f (k + 1) a0) := by
 intro a0 k
 obtain ⟨ih0, ih1⟩ := telegram_Check.mono_l k
 unfold telegram_Check.f
 repeat' first
   | (with_reducible exact ih0 _ _ _ _)
   | (with_reducible exact ih1 _ _ _ _ _ _)
   | (with_reducible exact LeO.refl _)
   | (with_reducible exact LeO.none _)
   | (with_reducible refine LeO.ite ?_ ?_)
   | (with_reducible refine LeO.bind ?_ (fun _ => ?_))
   | exact ih0 _ _ _ _
   | exact ih1 _ _ _ _ _ _
   | exact LeO.none _
   | refine LeO.ite ?_ ?_
   | refine LeO.bind ?_ (fun _ => ?_)
set_option maxHeartbeats 8000000 in
set_option maxRecDepth 100000 in
theorem telegram_Check.calls (k : Nat) (A0 : Option Addr) (c0 : Nat) (l0 : List Int) (r : Int) (w : World) (hr0 : Kd.C (Kd.int .u8) w A0 l0.length l0) (hc0 : l0.length ≤ c0) (h : telegram_Check.f k l0 = some r) :
  Calls Try.prog 14 #[.slice A0 l0.length c0] w fun e w' => e = .returned (.int .i64 r) ∧ Drawn0 w w' := by
 have HR0 := Aside0.mk hr0
 have HC0 := Aside0.mk hc0
 clear hr0 hc0
 have H : (telegram_Check.l0 k 65535 l0 (l0.length : Int) 0) = some r := h
 clear h
 have H' := Aside0.mk H
 clear H
 go_enter Try.func14, Try.ntmps14
 go_wp2
 go_loopg [3, 10] k (fun kq v3 v10 w' => ∃ (x3_1 : Int) (x10_1 : Int), v3 = .int .i64 x3_1 ∧ v10 = .int .i64 x10_1 ∧ Aside0 (telegram_Check.l0 kq x3_1 l0 (l0.length : Int) x10_1 = some r) ∧ Aside0 (kq ≤ k) ∧ Drawn0 w w')
 case atStart => exact ⟨(65535), (0), (by first | rfl | (simp; done) | (simp [*]; done)), (by first | rfl | (simp; done) | (simp [*]; done)), H', ⟨Nat.le_refl _⟩, by repeat (first | exact Drawn0.refl _ | apply Drawn0.step)⟩
 case round =>
  clear H'
  try clear c1
  obtain ⟨x3_1, x10_1, rfl, rfl, HA, HK1, ⟨m1, rfl⟩⟩ := hrel
  cases gk with
  | zero => exact absurd HA.out (by simp [telegram_Check.l0])
  | succ k1 =>
   have H := HA.out
   clear HA
   simp only [telegram_Check.l0] at H
   by_cases c2 : x10_1 < (l0.length : Int)
   ·
    rw [if_pos c2] at H
    have c2b0 : decide (x10_1 < (l0.length : Int)) = true := decide_eq_true c2
    clear c2
    by_cases c3 : 0 ≤ x10_1
    rotate_left
    ·
     rw [if_neg c3] at H
     exact absurd H (by simp)
    rw [if_pos c3] at H
    have c3b0 : decide (0 ≤ x10_1) = true := decide_eq_true c3
    clear c3
    by_cases c4 : x10_1 < (l0.length : Int)
    rotate_left
    ·
     rw [if_neg c4] at H
     exact absurd H (by simp)
    rw [if_pos c4] at H
    have c4b0 : decide (x10_1 < (l0.length : Int)) = true := decide_eq_true c4
    clear c4
    have H' := Aside0.mk H
    clear H
    have p101 : 0 ≤ (x10_1 : Int) := of_decide_eq_true (by first | (with_reducible assumption) | assumption)
    have q101 : x10_1 < (l0.length : Int) := of_decide_eq_true (by first | (with_reducible assumption) | assumption)
    obtain ⟨ad101, e101, hx101_0⟩ := Kd.at_int HR0.out x10_1 p101 q101
    cases e101
    replace p101 := eq_true p101
    replace q101 := eq_true q101
    go_wp2
    go_loopg [3, 6] k1 (fun kq v3 v6 w' => ∃ (x3_2 : Int) (x6_2 : Int), v3 = .int .i64 x3_2 ∧ v6 = .int .i64 x6_2 ∧ Aside0 (telegram_Check.l1 kq x3_2 (rd l0 x10_1) x6_2 l0 (l0.length : Int) x10_1 = some r) ∧ Aside0 (kq ≤ k1) ∧ Drawn0 w w')
    case atStart => exact ⟨(x3_1), (7), (by first | rfl | (simp; done) | (simp [*]; done)), (by first | rfl | (simp; done) | (simp [*]; done)), H', ⟨Nat.le_refl _⟩, by repeat (first | exact Drawn0.refl _ | apply Drawn0.step)⟩
    case round =>
     clear H'
     try clear c1; try clear p1; try clear q1; try clear hx1; try clear c2; try clear c2b0; try clear p2; try clear c3; try clear c3b0; try clear c4; try clear c4b0; try clear hx101_0; try clear p101; try clear q101
     obtain ⟨x3_2, x6_2, rfl, rfl, HA, HK2, ⟨m2, rfl⟩⟩ := hrel
     cases gk with
     | zero => exact absurd HA.out (by simp [telegram_Check.l1])
     | succ k2 =>
      have H := HA.out
      clear HA
      simp only [telegram_Check.l1] at H
      by_cases c5 : x6_2 ≥ 0
      ·
       rw [if_pos c5] at H
       have c5b0 : decide (0 ≤ x6_2) = true := decide_eq_true c5
       clear c5
       obtain ⟨ji6, hji6⟩ : ∃ j_ : Int, (IntKind.u64.wrap (x6_2)) = j_ := ⟨_, rfl⟩
       replace H : (if 0 ≤ (ji6) then (if (x3_2 / 32768) = (Go.bits .and .i64 (wrap64 (shr .u8 (rd l0 x10_1) (ji6))) 1) then (telegram_Check.l1 k2 (Go.bits .and .i64 (wrap64 (x3_2 * 2)) 65535) (rd l0 x10_1) (wrap64 (x6_2 - 1)) l0 (l0.length : Int) x10_1) else (telegram_Check.l1 k2 (Go.bits .xor .i64 (Go.bits .and .i64 (wrap64 (x3_2 * 2)) 65535) 4129) (rd l0 x10_1) (wrap64 (x6_2 - 1)) l0 (l0.length : Int) x10_1)) else (none)) = some r := by first | (rw [hji6] at H; exact H) | (simp only [hji6] at H ⊢; exact H)
       by_cases c7 : 0 ≤ (ji6)
       rotate_left
       ·
        rw [if_neg c7] at H
        exact absurd H (by simp)
       rw [if_pos c7] at H
       have c7b0 := eq_true c7
       have c7b1 : decide (0 ≤ (ji6)) = true := decide_eq_true c7
       clear c7
       obtain ⟨ji8, hji8⟩ : ∃ j_ : Int, (shr .u8 (rd l0 x10_1) (ji6)) = j_ := ⟨_, rfl⟩
       replace H : (if (x3_2 / 32768) = (Go.bits .and .i64 (wrap64 (ji8)) 1) then (telegram_Check.l1 k2 (Go.bits .and .i64 (wrap64 (x3_2 * 2)) 65535) (rd l0 x10_1) (wrap64 (x6_2 - 1)) l0 (l0.length : Int) x10_1) else (telegram_Check.l1 k2 (Go.bits .xor .i64 (Go.bits .and .i64 (wrap64 (x3_2 * 2)) 65535) 4129) (rd l0 x10_1) (wrap64 (x6_2 - 1)) l0 (l0.length : Int) x10_1)) = some r := by first | (rw [hji8] at H; exact H) | (simp only [hji8] at H ⊢; exact H)
       have hji8_ : ((rd l0 x10_1) / 2 ^ min (ji6).toNat 8) = ji8 := hji8
       have hji8z : (ji6) ≤ 8 → ((rd l0 x10_1) / 2 ^ (ji6).toNat) = ji8 := shr_small hji8
       by_cases c9 : (x3_2 / 32768) = (Go.bits .and .i64 (wrap64 (ji8)) 1)
       ·
        rw [if_pos c9] at H
        have c9b0 : ((x3_2 / 32768) == (Go.bits .and .i64 (wrap64 (ji8)) 1)) = true := beq_iff_eq.mpr c9
        have c9b1 : ((x3_2 / 32768) != (Go.bits .and .i64 (wrap64 (ji8)) 1)) = false := bne_eq_false_iff_eq.mpr c9
        clear c9
        have H' := Aside0.mk H
        clear H
        go_wp2
        go_roundg k2
        case measure => have := HK1.out; have := HK2.out; omega
        case rel => exact ⟨(Go.bits .and .i64 (wrap64 (x3_2 * 2)) 65535), (wrap64 (x6_2 - 1)), (by first | rfl | (simp; done) | (simp [*]; done)), (by first | rfl | (simp; done) | (simp [*]; done)), H', ⟨by have := HK1.out; have := HK2.out; omega⟩, by repeat (first | exact Drawn0.refl _ | apply Drawn0.step)⟩
       ·
        rw [if_neg c9] at H
        have c9b0 : ((x3_2 / 32768) == (Go.bits .and .i64 (wrap64 (ji8)) 1)) = false := beq_eq_false_iff_ne.mpr c9
        have c9b1 : ((x3_2 / 32768) != (Go.bits .and .i64 (wrap64 (ji8)) 1)) = true := bne_iff_ne.mpr c9
        have H' := Aside0.mk H
        clear H
        go_wp2
        go_roundg k2
        case measure => have := HK1.out; have := HK2.out; omega
        case rel => exact ⟨(Go.bits .xor .i64 (Go.bits .and .i64 (wrap64 (x3_2 * 2)) 65535) 4129), (wrap64 (x6_2 - 1)), (by first | rfl | (simp; done) | (simp [*]; done)), (by first | rfl | (simp; done) | (simp [*]; done)), H', ⟨by have := HK1.out; have := HK2.out; omega⟩, by repeat (first | exact Drawn0.refl _ | apply Drawn0.step)⟩
      ·
       rw [if_neg c5] at H
       have c5b0 : decide (0 ≤ x6_2) = false := decide_eq_false c5
       clear c5
       have H' := Aside0.mk H
       clear H
       go_wp2
       go_roundg k2
       case measure => have := HK1.out; have := HK2.out; omega
       case rel => exact ⟨(x3_2), (wrap64 (x10_1 + 1)), (by first | rfl | (simp; done) | (simp [*]; done)), (by first | rfl | (simp; done) | (simp [*]; done)), H', ⟨by have := HK1.out; have := HK2.out; omega⟩, by repeat (first | exact Drawn0.refl _ | apply Drawn0.step)⟩
   ·
    rw [if_neg c2] at H
    have c2b0 : decide (x10_1 < (l0.length : Int)) = false := decide_eq_false c2
    clear c2
    obtain rfl := Option.some.inj H
    go_wp2
    go_ret
    exact ⟨by first | rfl | (simp; done) | (simp [*]; done), by repeat (first | exact Drawn0.refl _ | apply Drawn0.step)⟩

/-! ### telegram_Write: function 12 -/
def telegram_Write.j0 : Nat → Bool → Int → Int → List Int → Option (List Int × Int)
 | 0, _, _, _, _ => none
 | k + 1, x23, x103000, x103001, x103002 => if x23 = true then (some (([] : List Int), 1)) else (if (x103002.length : Int) > 64 then (some (([] : List Int), 2)) else ((some (([126, ((x103002.length : Int)) % 256, (x103000) % 256, (x103001) % 256] : List Int) : List Int)).bind fun y103 => (if y103.length + x103002.length < 140737488355328 then ((some (y103 ++ x103002 : List Int)).bind fun y106 => (if 1 ≤ (y106.length : Int) then ((telegram_Check.f k (y106.drop 1)).bind fun t113 => ((some (([(t113 / 256) % 256, (t113) % 256] : List Int) : List Int)).bind fun y114 => (if y106.length + y114.length < 140737488355328 then (some ((y106 ++ y114), 0)) else (none)))) else (none))) else (none))))
def telegram_Write.f (k : Nat) (a0_0 : Int) (a0_1 : Int) (l0_2 : List Int) : Option (List Int × Int) := if a0_0 < 0 then (telegram_Write.j0 k true a0_0 a0_1 l0_2) else (if a0_0 > 255 then (telegram_Write.j0 k true a0_0 a0_1 l0_2) else (if a0_1 < 0 then (telegram_Write.j0 k true a0_0 a0_1 l0_2) else (telegram_Write.j0 k (decide (a0_1 > 255)) a0_0 a0_1 l0_2)))
theorem telegram_Write.mono_l : ∀ k, (∀ y0 y1 y2 y3, LeO (telegram_Write.j0 k y0 y1 y2 y3) (telegram_Write.j0 (k + 1) y0 y1 y2 y3))
 | 0 => fun _ _ _ _ r h => by simp [telegram_Write.j0] at h
 | k + 1 => by
  have ih0 := telegram_Write.mono_l k
  ·
   intro y0 y1 y2 y3
   unfold telegram_Write.j0
   repeat' first
   | (with_reducible exact ih0 _ _ _ _)
   | (with_reducible exact telegram_Check.mono _ _)
   | (with_reducible exact LeO.refl _)
   | (with_reducible exact LeO.none _)
   | (with_reducible refine LeO.ite ?_ ?_)
   | (with_reducible refine LeO.bind ?_ (fun _ => ?_))
   | exact ih0 _ _ _ _
   | exact telegram_Check.mono _ _
   | exact LeO.none _
   | refine LeO.ite ?_ ?_
   | refine LeO.bind ?_ (fun _ => ?_)
theorem telegram_Write.mono : ∀ a0 a1 a2 k, LeO (telegram_Write.f k a0 a1 a2) (telegram_Write.f (k + 1) a0 a1 a2) := by
 intro a0 a1 a2 k
 have ih0 := telegram_Write.mono_l k
 unfold telegram_Write.f
 repeat' first
   | (with_reducible exact ih0 _ _ _ _)
   | (with_reducible exact telegram_Check.mono _ _)
   | (with_reducible exact LeO.refl _)
   | (with_reducible exact LeO.none _)
   | (with_reducible refine LeO.ite ?_ ?_)
   | (with_reducible refine LeO.bind ?_ (fun _ => ?_))
   | exact ih0 _ _ _ _
   | exact telegram_Check.mono _ _
   | exact LeO.none _
   | refine LeO.ite ?_ ?_
   | refine LeO.bind ?_ (fun _ => ?_)
set_option maxHeartbeats 8000000 in
set_option maxRecDepth 100000 in
theorem telegram_Write.calls (k : Nat) (a0_0 : Int) (a0_1 : Int) (A0_2 : Option Addr) (c0_2 : Nat) (l0_2 : List Int) (r1 : List Int) (r2 : Int) (w : World) (hr0_2 : Kd.C (Kd.int .u8) w A0_2 l0_2.length l0_2) (hc0_2 : l0_2.length ≤ c0_2) (h : telegram_Write.f k a0_0 a0_1 l0_2 = some (r1, r2)) :
  Calls Try.prog 12 #[.agg #[.int .i64 a0_0, .int .i64 a0_1, .slice A0_2 l0_2.length c0_2]] w fun e w' => ∃ v0_ : Value, e = .returned (.tuple #[v0_, .int .i64 r2]) ∧ Kd.R (Kd.int .u8) 5 w' w.heap.size (fun _ => True) v0_ r1 ∧ Below w.heap.size w w' := by
 have hu24 := Try.underlying24
 have HR0_2 := Aside0.mk hr0_2
 have HC0_2 := Aside0.mk hc0_2
 clear hr0_2 hc0_2
 have HB := Aside0.mk (Below.refl w.heap.size w)
 have H : (if a0_0 < 0 then (telegram_Write.j0 k true a0_0 a0_1 l0_2) else (if a0_0 > 255 then (telegram_Write.j0 k true a0_0 a0_1 l0_2) else (if a0_1 < 0 then (telegram_Write.j0 k true a0_0 a0_1 l0_2) else (telegram_Write.j0 k (decide (a0_1 > 255)) a0_0 a0_1 l0_2)))) = some (r1, r2) := h
 clear h
 have HC2 := Aside0.mk H
 clear H
 go_enter Try.func12, Try.ntmps12
 go_upto_region 1 with (first | ((with_reducible refine gate_dst (N := 1) rfl ?_); refine box_event ?hg (N := 1) ?hd (cs := #[.int .i64 a0_0, .int .i64 a0_1, .slice A0_2 l0_2.length c0_2]) (t := 24) ?hr ?_; (case hd => rfl); (case hg => rfl); (case hr => first | (go_simp; done) | (go_simp; rfl)); intro gb102 hg w3 hbox hb; have n0_ := Aside0.mk (below_step (by repeat (first | (with_reducible first | exact HB.out | apply below_alloc | apply pw_below_drewN | apply below_drew1) | exact HB.out)) hb); have n1_ := Aside0.mk (hbox); have n2_ := Aside0.mk ((by rw [hg]; exact (below_size (by repeat (first | (with_reducible first | exact HB.out | apply below_alloc | apply pw_below_drewN | apply below_drew1) | exact HB.out))) : w.heap.size ≤ gb102)); have n3_ := Aside0.mk ((by rw [hg]; exact (below_size (by repeat (first | (with_reducible first | exact HB.out | apply below_alloc | apply pw_below_drewN | apply below_drew1) | exact HB.out))) : w.heap.size ≤ gb102)); clear HB; have HB := n0_; have BK102 := n1_; have GW102 := n2_; have GE102 := n3_; clear n0_ n1_ n2_ n3_; clear hb hbox hg))
 (try simp only [Act.put, List.setIfInBounds_toArray, List.set_cons_zero, List.set_cons_succ])
 go_cut [23] (fun v23 wc => ∃ (kq : Nat) (x23_1 : Bool), v23 = .bool x23_1 ∧ Aside0 (telegram_Write.j0 kq x23_1 a0_0 a0_1 l0_2 = some (r1, r2)) ∧ Aside0 (kq ≤ k) ∧ Aside0 (wc.heap[gb102]? = some (.cells #[.int .i64 a0_0, .int .i64 a0_1, (.slice A0_2 l0_2.length c0_2)] 24 (0, 0))) ∧ Aside0 (Below w.heap.size w wc))
 case first =>
  have H := HC2.out
  clear HC2
  by_cases c4 : a0_0 < 0
  ·
   rw [if_pos c4] at H
   have c4b0 : decide (a0_0 < 0) = true := decide_eq_true c4
   clear c4
   (first | rw [c4b0] | (simp only [i64_w, i32_w]; rw [c4b0]) | skip)
   have H' := Aside0.mk H
   clear H
   have hcz5_0 : w3.cell? ⟨gb102, 0, none⟩ = some (.int .i64 a0_0) := (blk_cell BK102.out 0).trans rfl
   have hcz5_1 : w3.cell? ⟨gb102, 1, none⟩ = some (.int .i64 a0_1) := (blk_cell BK102.out 1).trans rfl
   have hcz5_2 : w3.cell? ⟨gb102, 2, none⟩ = some (.slice A0_2 l0_2.length c0_2) := (blk_cell BK102.out 2).trans rfl
   have hfz5_0 := blk_frozen BK102.out 0
   have hfz5_1 := blk_frozen BK102.out 1
   have hfz5_2 := blk_frozen BK102.out 2
   go_wp2
   go_meet
   case rel => exact ⟨_, (true), (by first | rfl | (simp; done) | (simp [*]; done)), H', ⟨by first | omega | exact Nat.le_refl _⟩, ⟨by (with_reducible repeat (first | refine blk_drewN ?_ _ | refine blk_drew ?_ | refine blk_alloc ?_ _)); exact BK102.out⟩, ⟨by repeat (first | (with_reducible first | exact HB.out | apply below_alloc | apply pw_below_drewN | apply below_drew1 | refine below_set ?_ GE102.out) | exact HB.out)⟩⟩
  ·
   rw [if_neg c4] at H
   have c4b0 : decide (a0_0 < 0) = false := decide_eq_false c4
   clear c4
   (first | rw [c4b0] | (simp only [i64_w, i32_w]; rw [c4b0]) | skip)
   by_cases c6 : a0_0 > 255
   ·
    rw [if_pos c6] at H
    have c6b0 : decide (255 < a0_0) = true := decide_eq_true c6
    clear c6
    have H' := Aside0.mk H
    clear H
    have hcz7_0 : w3.cell? ⟨gb102, 0, none⟩ = some (.int .i64 a0_0) := (blk_cell BK102.out 0).trans rfl
    have hcz7_1 : w3.cell? ⟨gb102, 1, none⟩ = some (.int .i64 a0_1) := (blk_cell BK102.out 1).trans rfl
    have hcz7_2 : w3.cell? ⟨gb102, 2, none⟩ = some (.slice A0_2 l0_2.length c0_2) := (blk_cell BK102.out 2).trans rfl
    have hfz7_0 := blk_frozen BK102.out 0
    have hfz7_1 := blk_frozen BK102.out 1
    have hfz7_2 := blk_frozen BK102.out 2
    go_wp2
    go_meet
    case rel => exact ⟨_, (true), (by first | rfl | (simp; done) | (simp [*]; done)), H', ⟨by first | omega | exact Nat.le_refl _⟩, ⟨by (with_reducible repeat (first | refine blk_drewN ?_ _ | refine blk_drew ?_ | refine blk_alloc ?_ _)); exact BK102.out⟩, ⟨by repeat (first | (with_reducible first | exact HB.out | apply below_alloc | apply pw_below_drewN | apply below_drew1 | refine below_set ?_ GE102.out) | exact HB.out)⟩⟩
   ·
    rw [if_neg c6] at H
    have c6b0 : decide (255 < a0_0) = false := decide_eq_false c6
    clear c6
    by_cases c8 : a0_1 < 0
    ·
     rw [if_pos c8] at H
     have c8b0 : decide (a0_1 < 0) = true := decide_eq_true c8
     clear c8
     have H' := Aside0.mk H
     clear H
     have hcz9_0 : w3.cell? ⟨gb102, 0, none⟩ = some (.int .i64 a0_0) := (blk_cell BK102.out 0).trans rfl
     have hcz9_1 : w3.cell? ⟨gb102, 1, none⟩ = some (.int .i64 a0_1) := (blk_cell BK102.out 1).trans rfl
     have hcz9_2 : w3.cell? ⟨gb102, 2, none⟩ = some (.slice A0_2 l0_2.length c0_2) := (blk_cell BK102.out 2).trans rfl
     have hfz9_0 := blk_frozen BK102.out 0
     have hfz9_1 := blk_frozen BK102.out 1
     have hfz9_2 := blk_frozen BK102.out 2
     go_wp2
     go_meet
     case rel => exact ⟨_, (true), (by first | rfl | (simp; done) | (simp [*]; done)), H', ⟨by first | omega | exact Nat.le_refl _⟩, ⟨by (with_reducible repeat (first | refine blk_drewN ?_ _ | refine blk_drew ?_ | refine blk_alloc ?_ _)); exact BK102.out⟩, ⟨by repeat (first | (with_reducible first | exact HB.out | apply below_alloc | apply pw_below_drewN | apply below_drew1 | refine below_set ?_ GE102.out) | exact HB.out)⟩⟩
    ·
     rw [if_neg c8] at H
     have c8b0 : decide (a0_1 < 0) = false := decide_eq_false c8
     clear c8
     have H' := Aside0.mk H
     clear H
     have hcz10_0 : w3.cell? ⟨gb102, 0, none⟩ = some (.int .i64 a0_0) := (blk_cell BK102.out 0).trans rfl
     have hcz10_1 : w3.cell? ⟨gb102, 1, none⟩ = some (.int .i64 a0_1) := (blk_cell BK102.out 1).trans rfl
     have hcz10_2 : w3.cell? ⟨gb102, 2, none⟩ = some (.slice A0_2 l0_2.length c0_2) := (blk_cell BK102.out 2).trans rfl
     have hfz10_0 := blk_frozen BK102.out 0
     have hfz10_1 := blk_frozen BK102.out 1
     have hfz10_2 := blk_frozen BK102.out 2
     go_wp2
     go_meet
     case rel => exact ⟨_, (decide (a0_1 > 255)), (by first | rfl | (simp; done) | (simp [*]; done)), H', ⟨by first | omega | exact Nat.le_refl _⟩, ⟨by (with_reducible repeat (first | refine blk_drewN ?_ _ | refine blk_drew ?_ | refine blk_alloc ?_ _)); exact BK102.out⟩, ⟨by repeat (first | (with_reducible first | exact HB.out | apply below_alloc | apply pw_below_drewN | apply below_drew1 | refine below_set ?_ GE102.out) | exact HB.out)⟩⟩
 case rest =>
  clear HC2
  try clear c1; try clear p2; try clear c4; try clear c4b0; try clear c6; try clear c6b0; try clear c8; try clear c8b0; try clear hcz10_0; try clear hcz10_1; try clear hcz10_2; try clear hcz5_0; try clear hcz5_1; try clear hcz5_2; try clear hcz7_0; try clear hcz7_1; try clear hcz7_2; try clear hcz9_0; try clear hcz9_1
  try clear hcz9_2; try clear hfz10_0; try clear hfz10_1; try clear hfz10_2; try clear hfz5_0; try clear hfz5_1; try clear hfz5_2; try clear hfz7_0; try clear hfz7_1; try clear hfz7_2; try clear hfz9_0; try clear hfz9_1; try clear hfz9_2
  obtain ⟨kq, x23_1, rfl, HA, HJ1, BK102, HB⟩ := hcut
  cases kq with
  | zero => exact absurd HA.out (by simp [telegram_Write.j0])
  | succ kj1 =>
   have H := HA.out
   clear HA
   simp only [telegram_Write.j0] at H
   by_cases c11 : x23_1 = true
   ·
    subst c11
    have H1 : (some (([] : List Int), 1)) = some (r1, r2) := by rw [if_pos rfl] at H; exact H
    clear H
    have H := H1
    clear H1
    simp only [Option.some.injEq, Prod.mk.injEq] at H
    obtain ⟨rfl, rfl⟩ := H
    go_wp2
    go_ret2
    exact ⟨_, by first | rfl | (simp [errW_none, errW_some] <;> rfl) | (simp [*, errW_none, errW_some] <;> rfl), by first | exact Kd.R_nil _ _ _ _ _ | exact Kd.N_nil _ _ _ _ _ | exact Kd.V_nil _ _ _ _ _ | exact Kd.Q_nil _ _ _ _ _ | exact Kd.S_nil _ _ _ _ _, by repeat (first | (with_reducible first | exact HB.out | apply below_alloc | apply pw_below_drewN | apply below_drew1 | refine below_set ?_ GE102.out) | exact HB.out)⟩
   ·
    replace c11 := Bool.eq_false_iff.mpr c11
    subst c11
    have H1 : (if (l0_2.length : Int) > 64 then (some (([] : List Int), 2)) else ((some (([126, ((l0_2.length : Int)) % 256, (a0_0) % 256, (a0_1) % 256] : List Int) : List Int)).bind fun y103 => (if y103.length + l0_2.length < 140737488355328 then ((some (y103 ++ l0_2 : List Int)).bind fun y106 => (if 1 ≤ (y106.length : Int) then ((telegram_Check.f kj1 (y106.drop 1)).bind fun t113 => ((some (([(t113 / 256) % 256, (t113) % 256] : List Int) : List Int)).bind fun y114 => (if y106.length + y114.length < 140737488355328 then (some ((y106 ++ y114), 0)) else (none)))) else (none))) else (none)))) = some (r1, r2) := by rw [if_neg (show ¬ (false = true) by decide)] at H; exact H
    clear H
    have H := H1
    clear H1
    by_cases c12 : (l0_2.length : Int) > 64
    ·
     rw [if_pos c12] at H
     have c12b0 : decide (64 < (l0_2.length : Int)) = true := decide_eq_true c12
     have c12b1 : decide (64 < l0_2.length) = true := decide_eq_true (by omega)
     clear c12
     simp only [Option.some.injEq, Prod.mk.injEq] at H
     obtain ⟨rfl, rfl⟩ := H
     have hcz13_0 : wc.cell? ⟨gb102, 0, none⟩ = some (.int .i64 a0_0) := (blk_cell BK102.out 0).trans rfl
     have hcz13_1 : wc.cell? ⟨gb102, 1, none⟩ = some (.int .i64 a0_1) := (blk_cell BK102.out 1).trans rfl
     have hcz13_2 : wc.cell? ⟨gb102, 2, none⟩ = some (.slice A0_2 l0_2.length c0_2) := (blk_cell BK102.out 2).trans rfl
     have hfz13_0 := blk_frozen BK102.out 0
     have hfz13_1 := blk_frozen BK102.out 1
     have hfz13_2 := blk_frozen BK102.out 2
     go_wp2
     go_ret2
     exact ⟨_, by first | rfl | (simp [errW_none, errW_some] <;> rfl) | (simp [*, errW_none, errW_some] <;> rfl), by first | exact Kd.R_nil _ _ _ _ _ | exact Kd.N_nil _ _ _ _ _ | exact Kd.V_nil _ _ _ _ _ | exact Kd.Q_nil _ _ _ _ _ | exact Kd.S_nil _ _ _ _ _, by repeat (first | (with_reducible first | exact HB.out | apply below_alloc | apply pw_below_drewN | apply below_drew1 | refine below_set ?_ GE102.out) | exact HB.out)⟩
    ·
     rw [if_neg c12] at H
     have c12b0 : decide (64 < (l0_2.length : Int)) = false := decide_eq_false c12
     have c12b1 : decide (64 < l0_2.length) = false := decide_eq_false (by omega)
     clear c12
     obtain ⟨y103, hy103⟩ : ∃ y_ : List Int, y_ = (([126, ((l0_2.length : Int)) % 256, (a0_0) % 256, (a0_1) % 256] : List Int)) := ⟨_, rfl⟩
     replace H : (if y103.length + l0_2.length < 140737488355328 then ((some (y103 ++ l0_2 : List Int)).bind fun y106 => (if 1 ≤ (y106.length : Int) then ((telegram_Check.f kj1 (y106.drop 1)).bind fun t113 => ((some (([(t113 / 256) % 256, (t113) % 256] : List Int) : List Int)).bind fun y114 => (if y106.length + y114.length < 140737488355328 then (some ((y106 ++ y114), 0)) else (none)))) else (none))) else (none)) = some (r1, r2) := by first | (rw [hy103]; with_reducible exact H) | (have H2_ := (Option.bind_some _ _).symm.trans H; rw [hy103]; with_reducible exact H2_) | (have H2_ := (Option.bind_some _ _).symm.trans H; with_reducible exact H2_) | with_reducible exact H | (rw [hy103]; exact H) | exact H
     have Ny103 := Aside0.mk hy103
     clear hy103
     by_cases c14 : y103.length + l0_2.length < 140737488355328
     rotate_left
     ·
      rw [if_neg c14] at H
      exact absurd H (by simp)
     rw [if_pos c14] at H
     have LMc14 := Aside0.mk c14
     clear c14
     obtain ⟨y106, hy106⟩ : ∃ y_ : List Int, y_ = (y103 ++ l0_2) := ⟨_, rfl⟩
     replace H : (if 1 ≤ (y106.length : Int) then ((telegram_Check.f kj1 (y106.drop 1)).bind fun t113 => ((some (([(t113 / 256) % 256, (t113) % 256] : List Int) : List Int)).bind fun y114 => (if y106.length + y114.length < 140737488355328 then (some ((y106 ++ y114), 0)) else (none)))) else (none)) = some (r1, r2) := by first | (rw [hy106]; with_reducible exact H) | (have H2_ := (Option.bind_some _ _).symm.trans H; rw [hy106]; with_reducible exact H2_) | (have H2_ := (Option.bind_some _ _).symm.trans H; with_reducible exact H2_) | with_reducible exact H | (rw [hy106]; exact H) | exact H
     have Ny106 := Aside0.mk hy106
     clear hy106
     by_cases c15 : 1 ≤ (y106.length : Int)
     rotate_left
     ·
      rw [if_neg c15] at H
      exact absurd H (by simp)
     rw [if_pos c15] at H
     have c15b0 := eq_true c15
     have c15b1 : decide (1 ≤ (y106.length : Int)) = true := decide_eq_true c15
     clear c15
     obtain ⟨y109, hy109⟩ : ∃ y_ : List Int, y_ = (y106.drop 1) := ⟨_, rfl⟩
     replace H : ((telegram_Check.f kj1 y109).bind fun t113 => ((some (([(t113 / 256) % 256, (t113) % 256] : List Int) : List Int)).bind fun y114 => (if y106.length + y114.length < 140737488355328 then (some ((y106 ++ y114), 0)) else (none)))) = some (r1, r2) := by first | (rw [hy109]; with_reducible exact H) | (have H2_ := (Option.bind_some _ _).symm.trans H; rw [hy109]; with_reducible exact H2_) | (have H2_ := (Option.bind_some _ _).symm.trans H; with_reducible exact H2_) | with_reducible exact H | (rw [hy109]; exact H) | exact H
     have Ny109 := Aside0.mk hy109
     clear hy109
     replace H := Option.bind_eq_some_iff.mp H
     obtain ⟨t113, A160, H⟩ := H
     replace H : ((some (([(t113 / 256) % 256, (t113) % 256] : List Int) : List Int)).bind fun y114 => (if y106.length + y114.length < 140737488355328 then (some ((y106 ++ y114), 0)) else (none))) = some (r1, r2) := H
     have A16 := Aside0.mk A160
     clear A160
     obtain ⟨y114, hy114⟩ : ∃ y_ : List Int, y_ = (([(t113 / 256) % 256, (t113) % 256] : List Int)) := ⟨_, rfl⟩
     replace H : (if y106.length + y114.length < 140737488355328 then (some ((y106 ++ y114), 0)) else (none)) = some (r1, r2) := by first | (rw [hy114]; with_reducible exact H) | (have H2_ := (Option.bind_some _ _).symm.trans H; rw [hy114]; with_reducible exact H2_) | (have H2_ := (Option.bind_some _ _).symm.trans H; with_reducible exact H2_) | with_reducible exact H | (rw [hy114]; exact H) | exact H
     have Ny114 := Aside0.mk hy114
     clear hy114
     by_cases c17 : y106.length + y114.length < 140737488355328
     rotate_left
     ·
      rw [if_neg c17] at H
      exact absurd H (by simp)
     rw [if_pos c17] at H
     have LMc17 := Aside0.mk c17
     clear c17
     obtain ⟨y117, hy117⟩ : ∃ y_ : List Int, y_ = (y106 ++ y114) := ⟨_, rfl⟩
     replace H : (some (y117, 0)) = some (r1, r2) := by first | (rw [hy117]; with_reducible exact H) | (have H2_ := (Option.bind_some _ _).symm.trans H; rw [hy117]; with_reducible exact H2_) | (have H2_ := (Option.bind_some _ _).symm.trans H; with_reducible exact H2_) | with_reducible exact H | (rw [hy117]; exact H) | exact H
     have Ny117 := Aside0.mk hy117
     clear hy117
     simp only [Option.some.injEq, Prod.mk.injEq] at H
     obtain ⟨rfl, rfl⟩ := H
     have hcz18_0 : wc.cell? ⟨gb102, 0, none⟩ = some (.int .i64 a0_0) := (blk_cell BK102.out 0).trans rfl
     have hcz18_1 : wc.cell? ⟨gb102, 1, none⟩ = some (.int .i64 a0_1) := (blk_cell BK102.out 1).trans rfl
     have hcz18_2 : wc.cell? ⟨gb102, 2, none⟩ = some (.slice A0_2 l0_2.length c0_2) := (blk_cell BK102.out 2).trans rfl
     have hfz18_0 := blk_frozen BK102.out 0
     have hfz18_1 := blk_frozen BK102.out 1
     have hfz18_2 := blk_frozen BK102.out 2
     go_wp2_with (first | ((with_reducible refine gate_dst (N := 38) rfl ?_); refine Kd.R_lit (Kd.int .u8) _ 5 ?hg (N := 38) ?hd (xs := ([126, ((l0_2.length : Int)) % 256, (a0_0) % 256, (a0_1) % 256] : List Int)) (inner := [.int .u8 126, .int .u8 (((l0_2.length : Int)) % 256), .int .u8 ((a0_0) % 256), .int .u8 ((a0_1) % 256)]) (ok := fun _ => True) (okp := fun _ => True) ?hr ?hp (fun _ hk => hk) trivial (Below.refl _ _) (Nat.le_refl _) (by simp) ?_; (case hd => rfl); (case hg => rfl); (case hr => first | (go_simp; done) | (go_simp; rfl)); (case hp => exact (Reps.one (show Kd.M (Kd.int .u8) _ _ _ 126 [.int .u8 126] from rfl) (Reps.one (show Kd.M (Kd.int .u8) _ _ _ (((l0_2.length : Int)) % 256) [.int .u8 (((l0_2.length : Int)) % 256)] from rfl) (Reps.one (show Kd.M (Kd.int .u8) _ _ _ ((a0_0) % 256) [.int .u8 ((a0_0) % 256)] from rfl) (Reps.one (show Kd.M (Kd.int .u8) _ _ _ ((a0_1) % 256) [.int .u8 ((a0_1) % 256)] from rfl) (Reps.none _ _)))))); intro v104 w19 ho20 hb hg_ hnew_; clear hg_ hnew_; (first | rw [← Ny103.out] at ho20 | (simp only [Int.reduceToNat] at ho20; rw [← Ny103.out] at ho20)); have n0_ := Aside0.mk (Kd.R_lower ho20 (below_size (by repeat (first | (with_reducible first | exact HB.out | apply below_alloc | apply pw_below_drewN | apply below_drew1 | refine below_set ?_ GE102.out) | exact HB.out)))); have n1_ := Aside0.mk (blk_below (g := gb102) (o := .cells #[.int .i64 a0_0, .int .i64 a0_1, .slice A0_2 l0_2.length c0_2] 24 (0, 0)) (by (with_reducible repeat (first | refine blk_drewN ?_ _ | refine blk_drew ?_ | refine blk_alloc ?_ _)); exact BK102.out) hb); have n2_ := Aside0.mk (below_step (by repeat (first | (with_reducible first | exact HB.out | apply below_alloc | apply pw_below_drewN | apply below_drew1 | refine below_set ?_ GE102.out) | exact HB.out)) hb); clear BK102; clear HB; have HO105 := n0_; have BK102 := n1_; have HB := n2_; clear n0_ n1_ n2_; clear hb ho20; have hcz21_0 : w19.cell? ⟨gb102, 0, none⟩ = some (.int .i64 a0_0) := (blk_cell BK102.out 0).trans rfl; have hcz21_1 : w19.cell? ⟨gb102, 1, none⟩ = some (.int .i64 a0_1) := (blk_cell BK102.out 1).trans rfl; have hcz21_2 : w19.cell? ⟨gb102, 2, none⟩ = some (.slice A0_2 l0_2.length c0_2) := (blk_cell BK102.out 2).trans rfl; have hfz21_0 := blk_frozen BK102.out 0; have hfz21_1 := blk_frozen BK102.out 1; have hfz21_2 := blk_frozen BK102.out 2) | ((with_reducible refine gate_builtin (b := .append) (xs := #[.tmp 38, .tmp 40]) rfl ?_); at_builtin; refine Kd.R_append_rows (Kd.int .u8) (w0 := w) w.heap.size rfl (.tmp 38) (.tmp 40) 22 5 (.int .u8 0) 1 rfl Try.underlying22 info5 rfl (by decide) (by omega) v104 y103 l0_2 _ _ _ (fun _ => True) (fun _ => False) rfl rfl ?aO ?aR (fun _ _ h => h) (fun _ h => h.elim) ?aF ?aB ?aS ?aL ?_; (case aR => repeat (first | exact (Kd.C_below HR0_2.out HB.out) | (with_reducible refine Kd.C_alloc ?_ _) | (with_reducible refine Kd.C_drewN ?_ _) | (with_reducible refine Kd.C_drew ?_))); (case aB => exact (by repeat (first | (with_reducible first | exact HB.out | apply below_alloc | apply pw_below_drewN | apply below_drew1 | refine below_set ?_ GE102.out) | exact HB.out))); (case aF => exact (fun _ _ => trivial)); (case aO => exact (by (with_reducible repeat (first | apply Kd.R_alloc | apply Kd.R_drewN | apply Kd.R_drew)); exact HO105.out)); (case aS => exact (below_size (by repeat (first | (with_reducible first | exact HB.out | apply below_alloc | apply pw_below_drewN | apply below_drew1 | refine below_set ?_ GE102.out) | exact HB.out)))); (case aL => have := LMc14.out; omega); intro v107 w22 ho hb hg hat; rw [← Ny106.out] at ho; have n0_ := Aside0.mk (blk_grown (g := gb102) (o := .cells #[.int .i64 a0_0, .int .i64 a0_1, .slice A0_2 l0_2.length c0_2] 24 (0, 0)) (by (with_reducible repeat (first | refine blk_drewN ?_ _ | refine blk_drew ?_ | refine blk_alloc ?_ _)); exact BK102.out) hg (Kd.R_ne HO105.out BK102.out (by decide))); have n1_ := Aside0.mk (hb); have n2_ := Aside0.mk (ho); clear BK102; clear HB; clear HO105; have BK102 := n0_; have HB := n1_; have HO108 := n2_; clear n0_ n1_ n2_; clear ho hb hg hat; obtain ⟨Ao24, co24, eo24⟩ := Kd.R_slice HO108.out; subst eo24; have q23 : (1 : Int) ≤ ((y106.length : Int) : Int) := of_decide_eq_true (by first | (with_reducible assumption) | assumption); obtain ⟨i023, hi023, _, hsz23, _⟩ := info_parts info5; have hroom23 : y106.length ≤ co24 := (Kd.R_reads' HO108.out).2.1; have hC23 : Kd.C (Kd.int .u8) _ Ao24 y106.length y106 := (Kd.R_reads' HO108.out).2.2; have hcut23 := cut_from (P := Try.prog) 22 5 .i64 Try.underlying22 hi023 1 hsz23 Ao24 y106.length co24 1 (by omega) q23; have hr23 := Kd.C_drop (m := (1 : Int).toNat) (c := co24) hC23 (by omega) hroom23; obtain ⟨A23, hA23⟩ : ∃ A1, A1 = (if co24 = (1 : Int).toNat then Ao24 else (Ao24 : Option Addr).map (·.add ((1 : Int).toNat * 1))) := ⟨_, rfl⟩; obtain ⟨c23, hc23⟩ : ∃ c1, c1 = co24 - (1 : Int).toNat := ⟨_, rfl⟩; have hy23 : y109.length = y106.length - (1 : Int).toNat := (by rw [Ny109.out, List.length_drop] <;> omega); rw [show (y106).drop (1 : Int).toNat = y109 from Ny109.out.symm] at hr23; replace hr23 : Kd.C (Kd.int .u8) _ A23 y109.length y109 := (by rw [hA23]; exact hr23); rw [← hy23, ← hA23, ← hc23] at hcut23; have HR112 := Aside0.mk hr23; have HC112 := Aside0.mk (show y109.length ≤ c23 from by rw [hy23, hc23]; exact Nat.sub_le_sub_right hroom23 _); clear hr23 hC23 hroom23 hi023 hsz23 hc23; have KY23 := Aside0.mk hy23; have KA23 := Aside0.mk hA23; clear hy23 hA23; have KL23 := Aside0.mk (show 1 ≤ y106.length from by omega); replace q23 := eq_true q23) | ((with_reducible refine gate_callee (f := 14) rfl ?_); refine goesL_ (some 44) rfl rfl Try.func14 (by kernel_rfl) rfl #[.slice A23 y109.length c23] rfl (by (try simp only [List.map_toArray, List.map_cons, List.map_nil]); first | done | rfl | (simp only [List.length_drop, List.length_take]; rfl)) ?_; (with_reducible refine (telegram_Check.calls kj1 _ _ y109 t113 _ ?side1 ?side2 A16.out).mono ?_); (case side1 => repeat (first | exact (by repeat (first | (with_reducible exact HR112.out) | (with_reducible refine Kd.C_alloc ?_ _) | (with_reducible refine Kd.C_drewN ?_ _) | (with_reducible refine Kd.C_drew ?_) | exact HR112.out)) | (with_reducible refine Kd.C_alloc ?_ _) | (with_reducible refine Kd.C_drewN ?_ _) | (with_reducible refine Kd.C_drew ?_))); (case side2 => exact HC112.out); rintro e w' ⟨rfl, ⟨nd, rfl⟩⟩; refine ⟨_, rfl, ?_⟩) | ((with_reducible refine gate_dst (N := 51) rfl ?_); refine Kd.R_lit (Kd.int .u8) _ 5 ?hg (N := 51) ?hd (xs := ([(t113 / 256) % 256, (t113) % 256] : List Int)) (inner := [.int .u8 ((t113 / 256) % 256), .int .u8 ((t113) % 256)]) (ok := fun _ => True) (okp := fun _ => True) ?hr ?hp (fun _ hk => hk) trivial (Below.refl _ _) (Nat.le_refl _) (by simp) ?_; (case hd => rfl); (case hg => rfl); (case hr => first | (go_simp; done) | (go_simp; rfl)); (case hp => exact (Reps.one (show Kd.M (Kd.int .u8) _ _ _ ((t113 / 256) % 256) [.int .u8 ((t113 / 256) % 256)] from rfl) (Reps.one (show Kd.M (Kd.int .u8) _ _ _ ((t113) % 256) [.int .u8 ((t113) % 256)] from rfl) (Reps.none _ _)))); intro v115 w25 ho26 hb hg_ hnew_; clear hg_ hnew_; (first | rw [← Ny114.out] at ho26 | (simp only [Int.reduceToNat] at ho26; rw [← Ny114.out] at ho26)); have n0_ := Aside0.mk (Kd.R_elder' (by (with_reducible repeat (first | apply Kd.R_alloc | apply Kd.R_drewN | apply Kd.R_drew)); exact HO108.out) (Kd.R_base ho26) hb); have n1_ := Aside0.mk (Kd.R_lower (Kd.R_new' ho26 (Kd.R_lt (by (with_reducible repeat (first | apply Kd.R_alloc | apply Kd.R_drewN | apply Kd.R_drew)); exact HO108.out))) (below_size (by repeat (first | (with_reducible first | exact HB.out | apply below_alloc | apply pw_below_drewN | apply below_drew1 | refine below_set ?_ GE102.out) | exact HB.out)))); have n2_ := Aside0.mk (blk_below (g := gb102) (o := .cells #[.int .i64 a0_0, .int .i64 a0_1, .slice A0_2 l0_2.length c0_2] 24 (0, 0)) (by (with_reducible repeat (first | refine blk_drewN ?_ _ | refine blk_drew ?_ | refine blk_alloc ?_ _)); exact BK102.out) hb); have n3_ := Aside0.mk (Kd.C_below (by repeat (first | (with_reducible exact HR112.out) | (with_reducible refine Kd.C_alloc ?_ _) | (with_reducible refine Kd.C_drewN ?_ _) | (with_reducible refine Kd.C_drew ?_) | exact HR112.out)) hb); have n4_ := Aside0.mk (below_step (by repeat (first | (with_reducible first | exact HB.out | apply below_alloc | apply pw_below_drewN | apply below_drew1 | refine below_set ?_ GE102.out) | exact HB.out)) hb); clear HO108; clear BK102; clear HR112; clear HB; have HO108 := n0_; have HO116 := n1_; have BK102 := n2_; have HR112 := n3_; have HB := n4_; clear n0_ n1_ n2_ n3_ n4_; clear hb ho26; obtain ⟨Ao28, co28, eo28⟩ := Kd.R_slice HO116.out; subst eo28) | ((with_reducible refine gate_builtin (b := .append) (xs := #[.tmp 45, .tmp 51]) rfl ?_); at_builtin; refine Kd.R_append_rows (Kd.int .u8) (w0 := w) w.heap.size rfl (.tmp 45) (.tmp 51) 22 5 (.int .u8 0) 1 rfl Try.underlying22 info5 rfl (by decide) (by omega) (.slice Ao24 y106.length co24) y106 y114 _ _ _ (fun k_ => some k_ ≠ (.slice Ao28 y114.length co28 : Value).ownBlock) (fun _ => False) rfl rfl ?aO ?aR (fun _ _ h => h) (fun _ h => h.elim) ?aF ?aB ?aS ?aL ?_; (case aR => repeat (first | exact (Kd.R_reads' HO116.out).2.2 | (with_reducible refine Kd.C_alloc ?_ _) | (with_reducible refine Kd.C_drewN ?_ _) | (with_reducible refine Kd.C_drew ?_))); (case aB => exact (by repeat (first | (with_reducible first | exact HB.out | apply below_alloc | apply pw_below_drewN | apply below_drew1 | refine below_set ?_ GE102.out) | exact HB.out))); (case aF => exact (fun k_ hk => Kd.fresh' (Kd.R_lt (by (with_reducible repeat (first | apply Kd.R_alloc | apply Kd.R_drewN | apply Kd.R_drew)); exact HO116.out)) k_ hk)); (case aO => exact (by (with_reducible repeat (first | apply Kd.R_alloc | apply Kd.R_drewN | apply Kd.R_drew)); exact Kd.R_mono HO108.out (fun _ hk => hk.2))); (case aS => exact (below_size (by repeat (first | (with_reducible first | exact HB.out | apply below_alloc | apply pw_below_drewN | apply below_drew1 | refine below_set ?_ GE102.out) | exact HB.out)))); (case aL => have := LMc17.out; omega); intro v118 w27 ho hb hg hat; rw [← Ny117.out] at ho; have n0_ := Aside0.mk (blk_grown (g := gb102) (o := .cells #[.int .i64 a0_0, .int .i64 a0_1, .slice A0_2 l0_2.length c0_2] 24 (0, 0)) (by (with_reducible repeat (first | refine blk_drewN ?_ _ | refine blk_drew ?_ | refine blk_alloc ?_ _)); exact BK102.out) hg (Kd.R_ne HO108.out BK102.out (by decide))); have n1_ := Aside0.mk (Kd.R_after (ok := (fun _ => True)) (by (with_reducible repeat (first | apply Kd.R_alloc | apply Kd.R_drewN | apply Kd.R_drew)); exact HO116.out) hg hat); have n2_ := Aside0.mk (hb); have n3_ := Aside0.mk (ho); clear BK102; clear HO116; clear HB; clear HO108; have BK102 := n0_; have HO116 := n1_; have HB := n2_; have HO119 := n3_; clear n0_ n1_ n2_ n3_; clear ho hb hg hat))
     go_ret2
     exact ⟨_, by first | rfl | (simp [errW_none, errW_some] <;> rfl) | (simp [*, errW_none, errW_some] <;> rfl), by (with_reducible repeat (first | apply Kd.R_alloc | apply Kd.R_drewN | apply Kd.R_drew)); exact Kd.R_mono HO119.out (fun _ hk => trivial), by repeat (first | (with_reducible first | exact HB.out | apply below_alloc | apply pw_below_drewN | apply below_drew1 | refine below_set ?_ GE102.out) | exact HB.out)⟩

end Go.Proofs.Ytacogcnckhgjbaa.PTer
