/- Functions of the given program as Lean functions, and proofs that its calls come to what these say. Written by a program of this seat (wip/mkprint.py); Lean checks it all. -/
import Derived.Test.YtacogcnckhgjbaaPTerx0
import Derived.Test.YtacogcnckhgjbaaPTerx1
import Derived.Test.YtacogcnckhgjbaaPTerx2
namespace Go.Proofs.Ytacogcnckhgjbaa.PTer
open Go.RowKit Go.Proofs.YtacogcnckhgjbaaW.PrintWords Go.Proofs.YtacogcnckhgjbaaW.PrintLast Go.Proofs.YtacogcnckhgjbaaW.PrintMore
attribute [local go_sem] max2_int min2_int max_two min_two max_three min_three max_four min_four   -- for this text's walks alone
set_option linter.unusedVariables false
set_option linter.unusedSimpArgs false

/-! ### minecontrolref04_Same: function 20 -/
def minecontrolref04_Same.l0 : Nat → List (S24) → List (S24) → Int → Option (Bool)
 | 0, _, _, _ => none
 | k + 1, x0, x1, x5 => if x5 < (x0.length : Int) then (if 0 ≤ x5 then (if x5 < (x1.length : Int) then (if ((rd_T24 x0 x5).f0) = ((rd_T24 x1 x5).f0) then (if ((rd_T24 x0 x5).f1) = ((rd_T24 x1 x5).f1) then (if (strOfNums ((rd_T24 x0 x5).f2)).toList = (strOfNums ((rd_T24 x1 x5).f2)).toList then (minecontrolref04_Same.l0 k x0 x1 (wrap64 (x5 + 1))) else (some false)) else (some false)) else (some false)) else (none)) else (none)) else (some true)
def minecontrolref04_Same.f (k : Nat) (l0 : List (S24)) (l1 : List (S24)) : Option (Bool) := if (l0.length : Int) = (l1.length : Int) then (minecontrolref04_Same.l0 k l0 l1 0) else (some false)
theorem minecontrolref04_Same.mono_l : ∀ k, (∀ y0 y1 y2, LeO (minecontrolref04_Same.l0 k y0 y1 y2) (minecontrolref04_Same.l0 (k + 1) y0 y1 y2))
 | 0 => fun _ _ _ r h => by simp [minecontrolref04_Same.l0] at h
 | k + 1 => by
  have ih0 := minecontrolref04_Same.mono_l k
  ·
   intro y0 y1 y2
   unfold minecontrolref04_Same.l0
   repeat' first
   | (with_reducible exact ih0 _ _ _)
   | (with_reducible exact LeO.refl _)
   | (with_reducible exact LeO.none _)
   | (with_reducible refine LeO.ite ?_ ?_)
   | (with_reducible refine LeO.bind ?_ (fun _ => ?_))
   | exact ih0 _ _ _
   | exact LeO.none _
   | refine LeO.ite ?_ ?_
   | refine LeO.bind ?_ (fun _ => ?_)
theorem minecontrolref04_Same.mono : ∀ a0 a1 k, LeO (minecontrolref04_Same.f k a0 a1) (minecontrolref04_Same.f (k + 1) a0 a1) := by
 intro a0 a1 k
 have ih0 := minecontrolref04_Same.mono_l k
 unfold minecontrolref04_Same.f
 repeat' first
   | (with_reducible exact ih0 _ _ _)
   | (with_reducible exact LeO.refl _)
   | (with_reducible exact LeO.none _)
   | (with_reducible refine LeO.ite ?_ ?_)
   | (with_reducible refine LeO.bind ?_ (fun _ => ?_))
   | exact ih0 _ _ _
   | exact LeO.none _
   | refine LeO.ite ?_ ?_
   | refine LeO.bind ?_ (fun _ => ?_)
set_option maxHeartbeats 8000000 in
set_option maxRecDepth 100000 in
theorem minecontrolref04_Same.calls (k : Nat) (A0 : Option Addr) (c0 : Nat) (l0 : List (S24)) (A1 : Option Addr) (c1 : Nat) (l1 : List (S24)) (r : Bool) (w : World) (hr0 : Kd.C k24 w A0 l0.length l0) (hc0 : l0.length ≤ c0) (hr1 : Kd.C k24 w A1 l1.length l1) (hc1 : l1.length ≤ c1) (h : minecontrolref04_Same.f k l0 l1 = some r) :
  Calls Try.prog 20 #[.slice A0 l0.length c0, .slice A1 l1.length c1] w fun e w' => e = .returned (.bool r) ∧ Drawn0 w w' := by
 have HR0 := Aside0.mk hr0
 have HC0 := Aside0.mk hc0
 clear hr0 hc0
 have HR1 := Aside0.mk hr1
 have HC1 := Aside0.mk hc1
 clear hr1 hc1
 have H : (if (l0.length : Int) = (l1.length : Int) then (minecontrolref04_Same.l0 k l0 l1 0) else (some false)) = some r := h
 clear h
 by_cases c3 : (l0.length : Int) = (l1.length : Int)
 ·
  rw [if_pos c3] at H
  have c3b0 : ((l0.length : Int) == (l1.length : Int)) = true := beq_iff_eq.mpr c3
  have c3b1 : ((l0.length : Int) != (l1.length : Int)) = false := bne_eq_false_iff_eq.mpr c3
  have c3b2 : (l0.length == l1.length) = true := by first | simpa using c3 | (simp at c3 ⊢; omega)
  clear c3
  have H' := Aside0.mk H
  clear H
  go_enter Try.func20, Try.ntmps20
  go_wp2
  repeat (go_quiet (fail); try go_wp2)
  go_loopg [5] k (fun kq v5 w' => ∃ (x5_1 : Int), v5 = .int .i64 x5_1 ∧ Aside0 (minecontrolref04_Same.l0 kq l0 l1 x5_1 = some r) ∧ Aside0 (kq ≤ k) ∧ Drawn0 w w')
  case atStart => exact ⟨(0), (by first | rfl | (simp; done) | (simp [*]; done)), H', ⟨Nat.le_refl _⟩, by repeat (first | exact Drawn0.refl _ | apply Drawn0.step)⟩
  case round =>
   clear H'
   try clear c1; try clear c2; try clear p2; try clear c3; try clear c3b0; try clear c3b1; try clear c3b2
   obtain ⟨x5_1, rfl, HA, HK1, ⟨m1, rfl⟩⟩ := hrel
   cases gk with
   | zero => exact absurd HA.out (by simp [minecontrolref04_Same.l0])
   | succ k1 =>
    have H := HA.out
    clear HA
    simp only [minecontrolref04_Same.l0] at H
    by_cases c4 : x5_1 < (l0.length : Int)
    ·
     rw [if_pos c4] at H
     have c4b0 : decide (x5_1 < (l0.length : Int)) = true := decide_eq_true c4
     clear c4
     by_cases c5 : 0 ≤ x5_1
     rotate_left
     ·
      rw [if_neg c5] at H
      exact absurd H (by simp)
     rw [if_pos c5] at H
     have c5b0 : decide (0 ≤ x5_1) = true := decide_eq_true c5
     clear c5
     by_cases c6 : x5_1 < (l1.length : Int)
     rotate_left
     ·
      rw [if_neg c6] at H
      exact absurd H (by simp)
     rw [if_pos c6] at H
     have c6b0 : decide (x5_1 < (l1.length : Int)) = true := decide_eq_true c6
     clear c6
     by_cases c7 : ((rd_T24 l0 x5_1).f0) = ((rd_T24 l1 x5_1).f0)
     ·
      rw [if_pos c7] at H
      have c7b0 : (((rd_T24 l0 x5_1).f0) == ((rd_T24 l1 x5_1).f0)) = true := beq_iff_eq.mpr c7
      have c7b1 : (((rd_T24 l0 x5_1).f0) != ((rd_T24 l1 x5_1).f0)) = false := bne_eq_false_iff_eq.mpr c7
      clear c7
      by_cases c8 : ((rd_T24 l0 x5_1).f1) = ((rd_T24 l1 x5_1).f1)
      ·
       rw [if_pos c8] at H
       have c8b0 : (((rd_T24 l0 x5_1).f1) == ((rd_T24 l1 x5_1).f1)) = true := beq_iff_eq.mpr c8
       have c8b1 : (((rd_T24 l0 x5_1).f1) != ((rd_T24 l1 x5_1).f1)) = false := bne_eq_false_iff_eq.mpr c8
       clear c8
       by_cases c9 : (strOfNums ((rd_T24 l0 x5_1).f2)).toList = (strOfNums ((rd_T24 l1 x5_1).f2)).toList
       ·
        rw [if_pos c9] at H
        have c9b0 : ((strOfNums ((rd_T24 l0 x5_1).f2)).toList == (strOfNums ((rd_T24 l1 x5_1).f2)).toList) = true := beq_iff_eq.mpr c9
        have c9b1 : ((strOfNums ((rd_T24 l0 x5_1).f2)).toList != (strOfNums ((rd_T24 l1 x5_1).f2)).toList) = false := bne_eq_false_iff_eq.mpr c9
        clear c9
        have H' := Aside0.mk H
        clear H
        have p166 : 0 ≤ (x5_1 : Int) := of_decide_eq_true (by first | (with_reducible assumption) | assumption)
        have q166 : x5_1 < (l0.length : Int) := of_decide_eq_true (by first | (with_reducible assumption) | assumption)
        obtain ⟨ad166, A166_2, c166_2, e166, hx166_0, hx166_1, hx166_2, hl166_2, hi166_2⟩ := at_T24 HR0.out x5_1 p166 q166
        cases e166
        have HR166_2 := Aside0.mk hi166_2
        have HC166_2 := Aside0.mk hl166_2
        clear hi166_2 hl166_2
        replace p166 := eq_true p166
        replace q166 := eq_true q166
        have p167 : 0 ≤ (x5_1 : Int) := of_decide_eq_true (by first | (with_reducible assumption) | assumption)
        have q167 : x5_1 < (l1.length : Int) := of_decide_eq_true (by first | (with_reducible assumption) | assumption)
        obtain ⟨ad167, A167_2, c167_2, e167, hx167_0, hx167_1, hx167_2, hl167_2, hi167_2⟩ := at_T24 HR1.out x5_1 p167 q167
        cases e167
        have HR167_2 := Aside0.mk hi167_2
        have HC167_2 := Aside0.mk hl167_2
        clear hi167_2 hl167_2
        replace p167 := eq_true p167
        replace q167 := eq_true q167
        have p168 : 0 ≤ (x5_1 : Int) := of_decide_eq_true (by first | (with_reducible assumption) | assumption)
        have q168 : x5_1 < (l0.length : Int) := of_decide_eq_true (by first | (with_reducible assumption) | assumption)
        obtain ⟨ad168, A168_2, c168_2, e168, hx168_0, hx168_1, hx168_2, hl168_2, hi168_2⟩ := at_T24 HR0.out x5_1 p168 q168
        obtain rfl : ad166 = ad168 := (by injection e168)
        have HR168_2 := Aside0.mk hi168_2
        have HC168_2 := Aside0.mk hl168_2
        clear hi168_2 hl168_2
        replace p168 := eq_true p168
        replace q168 := eq_true q168
        have ea_ := Option.some.inj (hx166_2.symm.trans hx168_2)
        injection ea_ with ea_ en_ ec_
        subst ea_
        subst ec_
        clear en_
        have p169 : 0 ≤ (x5_1 : Int) := of_decide_eq_true (by first | (with_reducible assumption) | assumption)
        have q169 : x5_1 < (l1.length : Int) := of_decide_eq_true (by first | (with_reducible assumption) | assumption)
        obtain ⟨ad169, A169_2, c169_2, e169, hx169_0, hx169_1, hx169_2, hl169_2, hi169_2⟩ := at_T24 HR1.out x5_1 p169 q169
        obtain rfl : ad167 = ad169 := (by injection e169)
        have HR169_2 := Aside0.mk hi169_2
        have HC169_2 := Aside0.mk hl169_2
        clear hi169_2 hl169_2
        replace p169 := eq_true p169
        replace q169 := eq_true q169
        have ea_ := Option.some.inj (hx167_2.symm.trans hx169_2)
        injection ea_ with ea_ en_ ec_
        subst ea_
        subst ec_
        clear en_
        have p170 : 0 ≤ (x5_1 : Int) := of_decide_eq_true (by first | (with_reducible assumption) | assumption)
        have q170 : x5_1 < (l0.length : Int) := of_decide_eq_true (by first | (with_reducible assumption) | assumption)
        obtain ⟨ad170, A170_2, c170_2, e170, hx170_0, hx170_1, hx170_2, hl170_2, hi170_2⟩ := at_T24 HR0.out x5_1 p170 q170
        obtain rfl : ad166 = ad170 := (by injection e170)
        have HR170_2 := Aside0.mk hi170_2
        have HC170_2 := Aside0.mk hl170_2
        clear hi170_2 hl170_2
        replace p170 := eq_true p170
        replace q170 := eq_true q170
        have ea_ := Option.some.inj (hx166_2.symm.trans hx170_2)
        injection ea_ with ea_ en_ ec_
        subst ea_
        subst ec_
        clear en_
        have hcv10 := Kd.C_string (P := Try.prog) (A := A166_2) (c := c166_2) Try.underlying22 Try.underlying5 Try.underlying9 HR170_2.out
        have hcv11 := fun (n_ : Nat) => Kd.C_string (P := Try.prog) (A := A166_2) (c := c166_2) Try.underlying22 Try.underlying5 Try.underlying9 (Kd.C_drewN (HR170_2.out) n_)
        have hcv12 := fun (n_ m_ : Nat) => Kd.C_string (P := Try.prog) (A := A166_2) (c := c166_2) Try.underlying22 Try.underlying5 Try.underlying9 (Kd.C_drewN (Kd.C_drewN (HR170_2.out) n_) m_)
        have p171 : 0 ≤ (x5_1 : Int) := of_decide_eq_true (by first | (with_reducible assumption) | assumption)
        have q171 : x5_1 < (l1.length : Int) := of_decide_eq_true (by first | (with_reducible assumption) | assumption)
        obtain ⟨ad171, A171_2, c171_2, e171, hx171_0, hx171_1, hx171_2, hl171_2, hi171_2⟩ := at_T24 HR1.out x5_1 p171 q171
        obtain rfl : ad167 = ad171 := (by injection e171)
        have HR171_2 := Aside0.mk hi171_2
        have HC171_2 := Aside0.mk hl171_2
        clear hi171_2 hl171_2
        replace p171 := eq_true p171
        replace q171 := eq_true q171
        have ea_ := Option.some.inj (hx167_2.symm.trans hx171_2)
        injection ea_ with ea_ en_ ec_
        subst ea_
        subst ec_
        clear en_
        have hcv13 := Kd.C_string (P := Try.prog) (A := A167_2) (c := c167_2) Try.underlying22 Try.underlying5 Try.underlying9 HR171_2.out
        have hcv14 := fun (n_ : Nat) => Kd.C_string (P := Try.prog) (A := A167_2) (c := c167_2) Try.underlying22 Try.underlying5 Try.underlying9 (Kd.C_drewN (HR171_2.out) n_)
        have hcv15 := fun (n_ m_ : Nat) => Kd.C_string (P := Try.prog) (A := A167_2) (c := c167_2) Try.underlying22 Try.underlying5 Try.underlying9 (Kd.C_drewN (Kd.C_drewN (HR171_2.out) n_) m_)
        go_wp2
        repeat (go_quiet (fail); try go_wp2)
        go_roundg k1
        case measure => have := HK1.out; omega
        case rel => exact ⟨(wrap64 (x5_1 + 1)), (by first | rfl | (simp; done) | (simp [*]; done)), H', ⟨by have := HK1.out; omega⟩, by repeat (first | exact Drawn0.refl _ | apply Drawn0.step)⟩
       ·
        rw [if_neg c9] at H
        have c9b0 : ((strOfNums ((rd_T24 l0 x5_1).f2)).toList == (strOfNums ((rd_T24 l1 x5_1).f2)).toList) = false := beq_eq_false_iff_ne.mpr c9
        have c9b1 : ((strOfNums ((rd_T24 l0 x5_1).f2)).toList != (strOfNums ((rd_T24 l1 x5_1).f2)).toList) = true := bne_iff_ne.mpr c9
        obtain rfl := Option.some.inj H
        have p166 : 0 ≤ (x5_1 : Int) := of_decide_eq_true (by first | (with_reducible assumption) | assumption)
        have q166 : x5_1 < (l0.length : Int) := of_decide_eq_true (by first | (with_reducible assumption) | assumption)
        obtain ⟨ad166, A166_2, c166_2, e166, hx166_0, hx166_1, hx166_2, hl166_2, hi166_2⟩ := at_T24 HR0.out x5_1 p166 q166
        cases e166
        have HR166_2 := Aside0.mk hi166_2
        have HC166_2 := Aside0.mk hl166_2
        clear hi166_2 hl166_2
        replace p166 := eq_true p166
        replace q166 := eq_true q166
        have p167 : 0 ≤ (x5_1 : Int) := of_decide_eq_true (by first | (with_reducible assumption) | assumption)
        have q167 : x5_1 < (l1.length : Int) := of_decide_eq_true (by first | (with_reducible assumption) | assumption)
        obtain ⟨ad167, A167_2, c167_2, e167, hx167_0, hx167_1, hx167_2, hl167_2, hi167_2⟩ := at_T24 HR1.out x5_1 p167 q167
        cases e167
        have HR167_2 := Aside0.mk hi167_2
        have HC167_2 := Aside0.mk hl167_2
        clear hi167_2 hl167_2
        replace p167 := eq_true p167
        replace q167 := eq_true q167
        have p168 : 0 ≤ (x5_1 : Int) := of_decide_eq_true (by first | (with_reducible assumption) | assumption)
        have q168 : x5_1 < (l0.length : Int) := of_decide_eq_true (by first | (with_reducible assumption) | assumption)
        obtain ⟨ad168, A168_2, c168_2, e168, hx168_0, hx168_1, hx168_2, hl168_2, hi168_2⟩ := at_T24 HR0.out x5_1 p168 q168
        obtain rfl : ad166 = ad168 := (by injection e168)
        have HR168_2 := Aside0.mk hi168_2
        have HC168_2 := Aside0.mk hl168_2
        clear hi168_2 hl168_2
        replace p168 := eq_true p168
        replace q168 := eq_true q168
        have ea_ := Option.some.inj (hx166_2.symm.trans hx168_2)
        injection ea_ with ea_ en_ ec_
        subst ea_
        subst ec_
        clear en_
        have p169 : 0 ≤ (x5_1 : Int) := of_decide_eq_true (by first | (with_reducible assumption) | assumption)
        have q169 : x5_1 < (l1.length : Int) := of_decide_eq_true (by first | (with_reducible assumption) | assumption)
        obtain ⟨ad169, A169_2, c169_2, e169, hx169_0, hx169_1, hx169_2, hl169_2, hi169_2⟩ := at_T24 HR1.out x5_1 p169 q169
        obtain rfl : ad167 = ad169 := (by injection e169)
        have HR169_2 := Aside0.mk hi169_2
        have HC169_2 := Aside0.mk hl169_2
        clear hi169_2 hl169_2
        replace p169 := eq_true p169
        replace q169 := eq_true q169
        have ea_ := Option.some.inj (hx167_2.symm.trans hx169_2)
        injection ea_ with ea_ en_ ec_
        subst ea_
        subst ec_
        clear en_
        have p170 : 0 ≤ (x5_1 : Int) := of_decide_eq_true (by first | (with_reducible assumption) | assumption)
        have q170 : x5_1 < (l0.length : Int) := of_decide_eq_true (by first | (with_reducible assumption) | assumption)
        obtain ⟨ad170, A170_2, c170_2, e170, hx170_0, hx170_1, hx170_2, hl170_2, hi170_2⟩ := at_T24 HR0.out x5_1 p170 q170
        obtain rfl : ad166 = ad170 := (by injection e170)
        have HR170_2 := Aside0.mk hi170_2
        have HC170_2 := Aside0.mk hl170_2
        clear hi170_2 hl170_2
        replace p170 := eq_true p170
        replace q170 := eq_true q170
        have ea_ := Option.some.inj (hx166_2.symm.trans hx170_2)
        injection ea_ with ea_ en_ ec_
        subst ea_
        subst ec_
        clear en_
        have hcv16 := Kd.C_string (P := Try.prog) (A := A166_2) (c := c166_2) Try.underlying22 Try.underlying5 Try.underlying9 HR170_2.out
        have hcv17 := fun (n_ : Nat) => Kd.C_string (P := Try.prog) (A := A166_2) (c := c166_2) Try.underlying22 Try.underlying5 Try.underlying9 (Kd.C_drewN (HR170_2.out) n_)
        have hcv18 := fun (n_ m_ : Nat) => Kd.C_string (P := Try.prog) (A := A166_2) (c := c166_2) Try.underlying22 Try.underlying5 Try.underlying9 (Kd.C_drewN (Kd.C_drewN (HR170_2.out) n_) m_)
        have p171 : 0 ≤ (x5_1 : Int) := of_decide_eq_true (by first | (with_reducible assumption) | assumption)
        have q171 : x5_1 < (l1.length : Int) := of_decide_eq_true (by first | (with_reducible assumption) | assumption)
        obtain ⟨ad171, A171_2, c171_2, e171, hx171_0, hx171_1, hx171_2, hl171_2, hi171_2⟩ := at_T24 HR1.out x5_1 p171 q171
        obtain rfl : ad167 = ad171 := (by injection e171)
        have HR171_2 := Aside0.mk hi171_2
        have HC171_2 := Aside0.mk hl171_2
        clear hi171_2 hl171_2
        replace p171 := eq_true p171
        replace q171 := eq_true q171
        have ea_ := Option.some.inj (hx167_2.symm.trans hx171_2)
        injection ea_ with ea_ en_ ec_
        subst ea_
        subst ec_
        clear en_
        have hcv19 := Kd.C_string (P := Try.prog) (A := A167_2) (c := c167_2) Try.underlying22 Try.underlying5 Try.underlying9 HR171_2.out
        have hcv20 := fun (n_ : Nat) => Kd.C_string (P := Try.prog) (A := A167_2) (c := c167_2) Try.underlying22 Try.underlying5 Try.underlying9 (Kd.C_drewN (HR171_2.out) n_)
        have hcv21 := fun (n_ m_ : Nat) => Kd.C_string (P := Try.prog) (A := A167_2) (c := c167_2) Try.underlying22 Try.underlying5 Try.underlying9 (Kd.C_drewN (Kd.C_drewN (HR171_2.out) n_) m_)
        go_wp2
        repeat (go_quiet (fail); try go_wp2)
        go_ret
        exact ⟨by first | rfl | (simp; done) | (simp [*]; done), by repeat (first | exact Drawn0.refl _ | apply Drawn0.step)⟩
      ·
       rw [if_neg c8] at H
       have c8b0 : (((rd_T24 l0 x5_1).f1) == ((rd_T24 l1 x5_1).f1)) = false := beq_eq_false_iff_ne.mpr c8
       have c8b1 : (((rd_T24 l0 x5_1).f1) != ((rd_T24 l1 x5_1).f1)) = true := bne_iff_ne.mpr c8
       obtain rfl := Option.some.inj H
       have p166 : 0 ≤ (x5_1 : Int) := of_decide_eq_true (by first | (with_reducible assumption) | assumption)
       have q166 : x5_1 < (l0.length : Int) := of_decide_eq_true (by first | (with_reducible assumption) | assumption)
       obtain ⟨ad166, A166_2, c166_2, e166, hx166_0, hx166_1, hx166_2, hl166_2, hi166_2⟩ := at_T24 HR0.out x5_1 p166 q166
       cases e166
       have HR166_2 := Aside0.mk hi166_2
       have HC166_2 := Aside0.mk hl166_2
       clear hi166_2 hl166_2
       replace p166 := eq_true p166
       replace q166 := eq_true q166
       have p167 : 0 ≤ (x5_1 : Int) := of_decide_eq_true (by first | (with_reducible assumption) | assumption)
       have q167 : x5_1 < (l1.length : Int) := of_decide_eq_true (by first | (with_reducible assumption) | assumption)
       obtain ⟨ad167, A167_2, c167_2, e167, hx167_0, hx167_1, hx167_2, hl167_2, hi167_2⟩ := at_T24 HR1.out x5_1 p167 q167
       cases e167
       have HR167_2 := Aside0.mk hi167_2
       have HC167_2 := Aside0.mk hl167_2
       clear hi167_2 hl167_2
       replace p167 := eq_true p167
       replace q167 := eq_true q167
       have p168 : 0 ≤ (x5_1 : Int) := of_decide_eq_true (by first | (with_reducible assumption) | assumption)
       have q168 : x5_1 < (l0.length : Int) := of_decide_eq_true (by first | (with_reducible assumption) | assumption)
       obtain ⟨ad168, A168_2, c168_2, e168, hx168_0, hx168_1, hx168_2, hl168_2, hi168_2⟩ := at_T24 HR0.out x5_1 p168 q168
       obtain rfl : ad166 = ad168 := (by injection e168)
       have HR168_2 := Aside0.mk hi168_2
       have HC168_2 := Aside0.mk hl168_2
       clear hi168_2 hl168_2
       replace p168 := eq_true p168
       replace q168 := eq_true q168
       have ea_ := Option.some.inj (hx166_2.symm.trans hx168_2)
       injection ea_ with ea_ en_ ec_
       subst ea_
       subst ec_
       clear en_
       have p169 : 0 ≤ (x5_1 : Int) := of_decide_eq_true (by first | (with_reducible assumption) | assumption)
       have q169 : x5_1 < (l1.length : Int) := of_decide_eq_true (by first | (with_reducible assumption) | assumption)
       obtain ⟨ad169, A169_2, c169_2, e169, hx169_0, hx169_1, hx169_2, hl169_2, hi169_2⟩ := at_T24 HR1.out x5_1 p169 q169
       obtain rfl : ad167 = ad169 := (by injection e169)
       have HR169_2 := Aside0.mk hi169_2
       have HC169_2 := Aside0.mk hl169_2
       clear hi169_2 hl169_2
       replace p169 := eq_true p169
       replace q169 := eq_true q169
       have ea_ := Option.some.inj (hx167_2.symm.trans hx169_2)
       injection ea_ with ea_ en_ ec_
       subst ea_
       subst ec_
       clear en_
       go_wp2
       repeat (go_quiet (fail); try go_wp2)
       go_ret
       exact ⟨by first | rfl | (simp; done) | (simp [*]; done), by repeat (first | exact Drawn0.refl _ | apply Drawn0.step)⟩
     ·
      rw [if_neg c7] at H
      have c7b0 : (((rd_T24 l0 x5_1).f0) == ((rd_T24 l1 x5_1).f0)) = false := beq_eq_false_iff_ne.mpr c7
      have c7b1 : (((rd_T24 l0 x5_1).f0) != ((rd_T24 l1 x5_1).f0)) = true := bne_iff_ne.mpr c7
      obtain rfl := Option.some.inj H
      have p166 : 0 ≤ (x5_1 : Int) := of_decide_eq_true (by first | (with_reducible assumption) | assumption)
      have q166 : x5_1 < (l0.length : Int) := of_decide_eq_true (by first | (with_reducible assumption) | assumption)
      obtain ⟨ad166, A166_2, c166_2, e166, hx166_0, hx166_1, hx166_2, hl166_2, hi166_2⟩ := at_T24 HR0.out x5_1 p166 q166
      cases e166
      have HR166_2 := Aside0.mk hi166_2
      have HC166_2 := Aside0.mk hl166_2
      clear hi166_2 hl166_2
      replace p166 := eq_true p166
      replace q166 := eq_true q166
      have p167 : 0 ≤ (x5_1 : Int) := of_decide_eq_true (by first | (with_reducible assumption) | assumption)
      have q167 : x5_1 < (l1.length : Int) := of_decide_eq_true (by first | (with_reducible assumption) | assumption)
      obtain ⟨ad167, A167_2, c167_2, e167, hx167_0, hx167_1, hx167_2, hl167_2, hi167_2⟩ := at_T24 HR1.out x5_1 p167 q167
      cases e167
      have HR167_2 := Aside0.mk hi167_2
      have HC167_2 := Aside0.mk hl167_2
      clear hi167_2 hl167_2
      replace p167 := eq_true p167
      replace q167 := eq_true q167
      go_wp2
      repeat (go_quiet (fail); try go_wp2)
      go_ret
      exact ⟨by first | rfl | (simp; done) | (simp [*]; done), by repeat (first | exact Drawn0.refl _ | apply Drawn0.step)⟩
    ·
     rw [if_neg c4] at H
     have c4b0 : decide (x5_1 < (l0.length : Int)) = false := decide_eq_false c4
     clear c4
     obtain rfl := Option.some.inj H
     go_wp2
     repeat (go_quiet (fail); try go_wp2)
     go_ret
     exact ⟨by first | rfl | (simp; done) | (simp [*]; done), by repeat (first | exact Drawn0.refl _ | apply Drawn0.step)⟩
 ·
  rw [if_neg c3] at H
  have c3b0 : ((l0.length : Int) == (l1.length : Int)) = false := beq_eq_false_iff_ne.mpr c3
  have c3b1 : ((l0.length : Int) != (l1.length : Int)) = true := bne_iff_ne.mpr c3
  have c3b2 : (l0.length == l1.length) = false := by first | simpa using c3 | (simp at c3 ⊢; omega)
  obtain rfl := Option.some.inj H
  go_enter Try.func20, Try.ntmps20
  go_wp2
  repeat (go_quiet (fail); try go_wp2)
  go_ret
  exact ⟨by first | rfl | (simp; done) | (simp [*]; done), by repeat (first | exact Drawn0.refl _ | apply Drawn0.step)⟩

/-! ### minecontrollaw04_awake: function 9 -/
def minecontrollaw04_awake.f (k : Nat)  : Option (Bool) := (some (([4, 5] : List Int) : List Int)).bind fun y172 => ((telegram_Write.f k 3 1 y172).bind fun bt176 => ((telegram_Feed.f k (([9] : List Int)) 0 bt176.1).bind fun bt183 => (if bt176.2 = 0 then (if (bt176.1.length : Int) = 8 then ((telegram_Check.f k (([49, 50, 51, 52, 53, 54, 55, 56, 57] : List Int))).bind fun t194 => (if t194 = 10673 then (if (bt183.2.2.length : Int) = 1 then ((minecontrolref04_Same.f k bt183.2.2 (([(⟨3, 1, y172⟩ : S24)] : List (S24)))).bind fun t198 => (if t198 = true then (if bt183.2.1 = 1 then (some ((bt183.1.length : Int) == 0)) else (some false)) else (some false))) else (some false)) else (some false))) else (some false)) else (some false))))
theorem minecontrollaw04_awake.mono : ∀ k, LeO (minecontrollaw04_awake.f k ) (minecontrollaw04_awake.f (k + 1) ) := by
 intro  k
 unfold minecontrollaw04_awake.f
 repeat' first
   | (with_reducible exact minecontrolref04_Same.mono _ _ _)
   | (with_reducible exact telegram_Check.mono _ _)
   | (with_reducible exact telegram_Feed.mono _ _ _ _)
   | (with_reducible exact telegram_Write.mono _ _ _ _)
   | (with_reducible exact LeO.refl _)
   | (with_reducible exact LeO.none _)
   | (with_reducible refine LeO.ite ?_ ?_)
   | (with_reducible refine LeO.bind ?_ (fun _ => ?_))
   | exact minecontrolref04_Same.mono _ _ _
   | exact telegram_Check.mono _ _
   | exact telegram_Feed.mono _ _ _ _
   | exact telegram_Write.mono _ _ _ _
   | exact LeO.none _
   | refine LeO.ite ?_ ?_
   | refine LeO.bind ?_ (fun _ => ?_)
set_option maxHeartbeats 8000000 in
set_option maxRecDepth 100000 in
theorem minecontrollaw04_awake.calls1 (k : Nat)  (r : Bool) (w : World) (hr_ : Aside0 (r = true)) (h : minecontrollaw04_awake.f k  = some r) :
  Calls Try.prog 9 #[] w fun e w' => e = .returned (.bool r) ∧ Below w.heap.size w w' := by
 have hu24 := Try.underlying24
 have hu36 := Try.underlying36
 have HB := Aside0.mk (Below.refl w.heap.size w)
 have H : ((some (([4, 5] : List Int) : List Int)).bind fun y172 => ((telegram_Write.f k 3 1 y172).bind fun bt176 => ((telegram_Feed.f k (([9] : List Int)) 0 bt176.1).bind fun bt183 => (if bt176.2 = 0 then (if (bt176.1.length : Int) = 8 then ((telegram_Check.f k (([49, 50, 51, 52, 53, 54, 55, 56, 57] : List Int))).bind fun t194 => (if t194 = 10673 then (if (bt183.2.2.length : Int) = 1 then ((minecontrolref04_Same.f k bt183.2.2 (([(⟨3, 1, y172⟩ : S24)] : List (S24)))).bind fun t198 => (if t198 = true then (if bt183.2.1 = 1 then (some ((bt183.1.length : Int) == 0)) else (some false)) else (some false))) else (some false)) else (some false))) else (some false)) else (some false))))) = some r := h
 clear h
 obtain ⟨y172, hy172⟩ : ∃ y_ : List Int, y_ = (([4, 5] : List Int)) := ⟨_, rfl⟩
 replace H : ((telegram_Write.f k 3 1 y172).bind fun bt176 => ((telegram_Feed.f k (([9] : List Int)) 0 bt176.1).bind fun bt183 => (if bt176.2 = 0 then (if (bt176.1.length : Int) = 8 then ((telegram_Check.f k (([49, 50, 51, 52, 53, 54, 55, 56, 57] : List Int))).bind fun t194 => (if t194 = 10673 then (if (bt183.2.2.length : Int) = 1 then ((minecontrolref04_Same.f k bt183.2.2 (([(⟨3, 1, y172⟩ : S24)] : List (S24)))).bind fun t198 => (if t198 = true then (if bt183.2.1 = 1 then (some ((bt183.1.length : Int) == 0)) else (some false)) else (some false))) else (some false)) else (some false))) else (some false)) else (some false)))) = some r := by first | (rw [hy172]; with_reducible exact H) | (have H2_ := (Option.bind_some _ _).symm.trans H; rw [hy172]; with_reducible exact H2_) | (have H2_ := (Option.bind_some _ _).symm.trans H; with_reducible exact H2_) | with_reducible exact H | (rw [hy172]; exact H) | exact H
 have Ny172 := Aside0.mk hy172
 clear hy172
 replace H := Option.bind_eq_some_iff.mp H
 obtain ⟨⟨t176, t179⟩, A10, H⟩ := H
 replace H : ((telegram_Feed.f k (([9] : List Int)) 0 t176).bind fun bt183 => (if t179 = 0 then (if (t176.length : Int) = 8 then ((telegram_Check.f k (([49, 50, 51, 52, 53, 54, 55, 56, 57] : List Int))).bind fun t194 => (if t194 = 10673 then (if (bt183.2.2.length : Int) = 1 then ((minecontrolref04_Same.f k bt183.2.2 (([(⟨3, 1, y172⟩ : S24)] : List (S24)))).bind fun t198 => (if t198 = true then (if bt183.2.1 = 1 then (some ((bt183.1.length : Int) == 0)) else (some false)) else (some false))) else (some false)) else (some false))) else (some false)) else (some false))) = some r := H
 have A1 := Aside0.mk A10
 clear A10
 obtain ⟨y180, hy180⟩ : ∃ y_ : List Int, y_ = (([9] : List Int)) := ⟨_, rfl⟩
 replace H : ((telegram_Feed.f k y180 0 t176).bind fun bt183 => (if t179 = 0 then (if (t176.length : Int) = 8 then ((telegram_Check.f k (([49, 50, 51, 52, 53, 54, 55, 56, 57] : List Int))).bind fun t194 => (if t194 = 10673 then (if (bt183.2.2.length : Int) = 1 then ((minecontrolref04_Same.f k bt183.2.2 (([(⟨3, 1, y172⟩ : S24)] : List (S24)))).bind fun t198 => (if t198 = true then (if bt183.2.1 = 1 then (some ((bt183.1.length : Int) == 0)) else (some false)) else (some false))) else (some false)) else (some false))) else (some false)) else (some false))) = some r := by first | (rw [hy180]; with_reducible exact H) | (have H2_ := (Option.bind_some _ _).symm.trans H; rw [hy180]; with_reducible exact H2_) | (have H2_ := (Option.bind_some _ _).symm.trans H; with_reducible exact H2_) | with_reducible exact H | (rw [hy180]; exact H) | exact H
 have Ny180 := Aside0.mk hy180
 clear hy180
 replace H := Option.bind_eq_some_iff.mp H
 obtain ⟨⟨t183, t186, t187⟩, A20, H⟩ := H
 replace H : (if t179 = 0 then (if (t176.length : Int) = 8 then ((telegram_Check.f k (([49, 50, 51, 52, 53, 54, 55, 56, 57] : List Int))).bind fun t194 => (if t194 = 10673 then (if (t187.length : Int) = 1 then ((minecontrolref04_Same.f k t187 (([(⟨3, 1, y172⟩ : S24)] : List (S24)))).bind fun t198 => (if t198 = true then (if t186 = 1 then (some ((t183.length : Int) == 0)) else (some false)) else (some false))) else (some false)) else (some false))) else (some false)) else (some false)) = some r := H
 have A2 := Aside0.mk A20
 clear A20
 by_cases c3 : t179 = 0
 ·
  rw [if_pos c3] at H
  have c3b0 : (t179 == 0) = true := beq_iff_eq.mpr c3
  have c3b1 : (t179 != 0) = false := bne_eq_false_iff_eq.mpr c3
  clear c3
  by_cases c4 : (t176.length : Int) = 8
  ·
   rw [if_pos c4] at H
   have c4b0 : ((t176.length : Int) == 8) = true := beq_iff_eq.mpr c4
   have c4b1 : ((t176.length : Int) != 8) = false := bne_eq_false_iff_eq.mpr c4
   clear c4
   obtain ⟨y191, hy191⟩ : ∃ y_ : List Int, y_ = (([49, 50, 51, 52, 53, 54, 55, 56, 57] : List Int)) := ⟨_, rfl⟩
   replace H : ((telegram_Check.f k y191).bind fun t194 => (if t194 = 10673 then (if (t187.length : Int) = 1 then ((minecontrolref04_Same.f k t187 (([(⟨3, 1, y172⟩ : S24)] : List (S24)))).bind fun t198 => (if t198 = true then (if t186 = 1 then (some ((t183.length : Int) == 0)) else (some false)) else (some false))) else (some false)) else (some false))) = some r := by first | (rw [hy191]; with_reducible exact H) | (have H2_ := (Option.bind_some _ _).symm.trans H; rw [hy191]; with_reducible exact H2_) | (have H2_ := (Option.bind_some _ _).symm.trans H; with_reducible exact H2_) | with_reducible exact H | (rw [hy191]; exact H) | exact H
   have Ny191 := Aside0.mk hy191
   clear hy191
   replace H := Option.bind_eq_some_iff.mp H
   obtain ⟨t194, A50, H⟩ := H
   replace H : (if t194 = 10673 then (if (t187.length : Int) = 1 then ((minecontrolref04_Same.f k t187 (([(⟨3, 1, y172⟩ : S24)] : List (S24)))).bind fun t198 => (if t198 = true then (if t186 = 1 then (some ((t183.length : Int) == 0)) else (some false)) else (some false))) else (some false)) else (some false)) = some r := H
   have A5 := Aside0.mk A50
   clear A50
   by_cases c6 : t194 = 10673
   ·
    rw [if_pos c6] at H
    have c6b0 : (t194 == 10673) = true := beq_iff_eq.mpr c6
    have c6b1 : (t194 != 10673) = false := bne_eq_false_iff_eq.mpr c6
    clear c6
    by_cases c7 : (t187.length : Int) = 1
    ·
     rw [if_pos c7] at H
     have c7b0 : ((t187.length : Int) == 1) = true := beq_iff_eq.mpr c7
     have c7b1 : ((t187.length : Int) != 1) = false := bne_eq_false_iff_eq.mpr c7
     clear c7
     obtain ⟨y195, hy195⟩ : ∃ y_ : List (S24), y_ = (([(⟨3, 1, y172⟩ : S24)] : List (S24))) := ⟨_, rfl⟩
     replace H : ((minecontrolref04_Same.f k t187 y195).bind fun t198 => (if t198 = true then (if t186 = 1 then (some ((t183.length : Int) == 0)) else (some false)) else (some false))) = some r := by first | (rw [hy195]; with_reducible exact H) | (have H2_ := (Option.bind_some _ _).symm.trans H; rw [hy195]; with_reducible exact H2_) | (have H2_ := (Option.bind_some _ _).symm.trans H; with_reducible exact H2_) | with_reducible exact H | (rw [hy195]; exact H) | exact H
     have Ny195 := Aside0.mk hy195
     clear hy195
     replace H := Option.bind_eq_some_iff.mp H
     obtain ⟨t198, A80, H⟩ := H
     replace H : (if t198 = true then (if t186 = 1 then (some ((t183.length : Int) == 0)) else (some false)) else (some false)) = some r := H
     have A8 := Aside0.mk A80
     clear A80
     by_cases c9 : t198 = true
     ·
      subst c9
      have H1 : (if t186 = 1 then (some ((t183.length : Int) == 0)) else (some false)) = some r := by rw [if_pos rfl] at H; exact H
      clear H
      have H := H1
      clear H1
      by_cases c10 : t186 = 1
      ·
       rw [if_pos c10] at H
       have c10b0 : (t186 == 1) = true := beq_iff_eq.mpr c10
       have c10b1 : (t186 != 1) = false := bne_eq_false_iff_eq.mpr c10
       clear c10
       obtain rfl := Option.some.inj H
       go_enter Try.func9, Try.ntmps9
       go_wp2_with (first | ((with_reducible refine gate_dst (N := 6) rfl ?_); (try (refine gate_guard (by rfl) ?_; dsimp only)); refine Kd.R_lit (Kd.int .u8) _ 5 ?hg (N := 6) ?hd (xs := ([4, 5] : List Int)) (inner := [.int .u8 4, .int .u8 5]) (ok := fun _ => True) (okp := fun _ => True) ?hr ?hp (fun _ hk => hk) trivial (Below.refl _ _) (Nat.le_refl _) (by simp) ?_; (case hd => rfl); (case hg => rfl); (case hr => first | (go_simp; done) | (go_simp; rfl)); (case hp => exact (Reps.one (show Kd.M (Kd.int .u8) _ _ _ 4 [.int .u8 4] from rfl) (Reps.one (show Kd.M (Kd.int .u8) _ _ _ 5 [.int .u8 5] from rfl) (Reps.none _ _)))); intro v173 w11 ho12 hb hg_ hnew_; clear hg_ hnew_; (first | rw [← Ny172.out] at ho12 | (simp only [Int.reduceToNat] at ho12; rw [← Ny172.out] at ho12)); have n0_ := Aside0.mk (Kd.R_lower ho12 (below_size (by repeat (first | (with_reducible first | exact HB.out | apply below_alloc | apply pw_below_drewN | apply below_drew1) | exact HB.out)))); have n1_ := Aside0.mk (below_step (by repeat (first | (with_reducible first | exact HB.out | apply below_alloc | apply pw_below_drewN | apply below_drew1) | exact HB.out)) hb); clear HB; have HO174 := n0_; have HB := n1_; clear n0_ n1_; clear hb ho12; obtain ⟨Ao13, co13, eo13⟩ := Kd.R_slice HO174.out; subst eo13) | ((with_reducible refine gate_dst (N := 1) rfl ?_); (try (refine gate_guard (by rfl) ?_; dsimp only)); refine box_event ?hg (N := 1) ?hd (cs := #[.int .i64 0, .int .i64 0, .slice none 0 0]) (t := 24) ?hr ?_; (case hd => rfl); (case hg => rfl); (case hr => first | (go_simp; done) | (go_simp; rfl)); intro gb175 hg w14 hbox hb; have n0_ := Aside0.mk (Kd.R_below (by (with_reducible repeat (first | apply Kd.R_alloc | apply Kd.R_drewN | apply Kd.R_drew)); exact HO174.out) hb); have n1_ := Aside0.mk (below_step (by repeat (first | (with_reducible first | exact HB.out | apply below_alloc | apply pw_below_drewN | apply below_drew1) | exact HB.out)) hb); have n2_ := Aside0.mk (hbox); have n3_ := Aside0.mk ((by rw [hg]; exact (below_size (by repeat (first | (with_reducible first | exact HB.out | apply below_alloc | apply pw_below_drewN | apply below_drew1) | exact HB.out))) : w.heap.size ≤ gb175)); have n4_ := Aside0.mk ((by rw [hg]; exact (below_size (by repeat (first | (with_reducible first | exact HB.out | apply below_alloc | apply pw_below_drewN | apply below_drew1) | exact HB.out))) : w.heap.size ≤ gb175)); clear HO174; clear HB; have HO174 := n0_; have HB := n1_; have BK175 := n2_; have GW175 := n3_; have GE175 := n4_; clear n0_ n1_ n2_ n3_ n4_; clear hb hbox hg; have hcz15_0 : w14.cell? ⟨gb175, 0, none⟩ = some (.int .i64 0) := (blk_cell BK175.out 0).trans rfl; have hcz15_1 : w14.cell? ⟨gb175, 1, none⟩ = some (.int .i64 0) := (blk_cell BK175.out 1).trans rfl; have hcz15_2 : w14.cell? ⟨gb175, 2, none⟩ = some (.slice none 0 0) := (blk_cell BK175.out 2).trans rfl; have hfz15_0 := blk_frozen BK175.out 0; have hfz15_1 := blk_frozen BK175.out 1; have hfz15_2 := blk_frozen BK175.out 2) | ((with_reducible refine gate_callee (f := 12) rfl ?_); refine goesL_ (some 10) rfl rfl Try.func12 (by kernel_rfl) rfl #[.agg #[.int .i64 3, .int .i64 1, .slice Ao13 y172.length co13]] rfl (by (try simp only [List.map_toArray, List.map_cons, List.map_nil]); first | done | rfl | (simp only [List.length_drop, List.length_take]; rfl)) ?_; (with_reducible refine (telegram_Write.calls k 3 1 _ _ y172 t176 t179 _ ?side1 ?side2 A1.out).mono ?_); (case side1 => refine (Kd.R_reads' (e := 5) (base := w.heap.size) (ok := fun k_ => True) (n := y172.length) (c := co13) ?_).2.2; exact (by (with_reducible repeat (first | apply Kd.R_alloc | apply Kd.R_drewN | apply Kd.R_drew)); exact (Kd.R_mono (Kd.R_far (p := ⟨gb175, 2, none⟩) (Kd.R_far (p := ⟨gb175, 1, none⟩) (Kd.R_far (p := ⟨gb175, 0, none⟩) (Kd.R_types HO174.out BK175.out (by decide)) (fun _ hk => hk.2) (.int .i64 3)) (fun _ hk => hk.2) (.int .i64 1)) (fun _ hk => hk.2) (.slice Ao13 y172.length co13)) (fun _ h_ => h_.1)))); (case side2 => exact (Kd.R_reads' HO174.out).2.1); rintro e w16 ⟨v177, rfl, ho0, hb⟩; refine ⟨_, rfl, ?_⟩; have n0_ := Aside0.mk (Kd.R_elder' (by (with_reducible repeat (first | apply Kd.R_alloc | apply Kd.R_drewN | apply Kd.R_drew)); exact (Kd.R_mono (Kd.R_far (p := ⟨gb175, 2, none⟩) (Kd.R_far (p := ⟨gb175, 1, none⟩) (Kd.R_far (p := ⟨gb175, 0, none⟩) (Kd.R_types HO174.out BK175.out (by decide)) (fun _ hk => hk.2) (.int .i64 3)) (fun _ hk => hk.2) (.int .i64 1)) (fun _ hk => hk.2) (.slice Ao13 y172.length co13)) (fun _ h_ => h_.1))) (Kd.R_base ho0) hb); have n1_ := Aside0.mk (Kd.R_lower (Kd.R_new' ho0 (Kd.R_lt (by (with_reducible repeat (first | apply Kd.R_alloc | apply Kd.R_drewN | apply Kd.R_drew)); exact (Kd.R_mono (Kd.R_far (p := ⟨gb175, 2, none⟩) (Kd.R_far (p := ⟨gb175, 1, none⟩) (Kd.R_far (p := ⟨gb175, 0, none⟩) (Kd.R_types HO174.out BK175.out (by decide)) (fun _ hk => hk.2) (.int .i64 3)) (fun _ hk => hk.2) (.int .i64 1)) (fun _ hk => hk.2) (.slice Ao13 y172.length co13)) (fun _ h_ => h_.1))))) (below_size (by repeat (first | (with_reducible first | exact HB.out | apply below_alloc | apply pw_below_drewN | apply below_drew1 | refine below_set ?_ GE175.out) | exact HB.out)))); have n2_ := Aside0.mk (blk_below (g := gb175) (o := .cells #[.int .i64 3, .int .i64 1, .slice Ao13 y172.length co13] 24 (0, 0)) (by (with_reducible repeat (first | refine blk_drewN ?_ _ | refine blk_drew ?_ | refine blk_alloc ?_ _)); refine blk_put (cs := #[.int .i64 3, .int .i64 1, .slice none 0 0]) ?_ 2 _ rfl; (with_reducible repeat (first | refine blk_drewN ?_ _ | refine blk_drew ?_ | refine blk_alloc ?_ _)); refine blk_put (cs := #[.int .i64 3, .int .i64 0, .slice none 0 0]) ?_ 1 _ rfl; (with_reducible repeat (first | refine blk_drewN ?_ _ | refine blk_drew ?_ | refine blk_alloc ?_ _)); refine blk_put (cs := #[.int .i64 0, .int .i64 0, .slice none 0 0]) ?_ 0 _ rfl; (with_reducible repeat (first | refine blk_drewN ?_ _ | refine blk_drew ?_ | refine blk_alloc ?_ _)); exact BK175.out) hb); have n3_ := Aside0.mk (below_step (by repeat (first | (with_reducible first | exact HB.out | apply below_alloc | apply pw_below_drewN | apply below_drew1 | refine below_set ?_ GE175.out) | exact HB.out)) hb); clear HO174; clear BK175; clear HB; have HO174 := n0_; have HO178 := n1_; have BK175 := n2_; have HB := n3_; clear n0_ n1_ n2_ n3_; (try clear hb); (try clear hb2); (try clear hge); (try clear hk); (try clear hi); (try clear ho0)) | ((with_reducible refine gate_dst (N := 14) rfl ?_); (try (refine gate_guard (by rfl) ?_; dsimp only)); refine Kd.R_lit (Kd.int .u8) _ 5 ?hg (N := 14) ?hd (xs := ([9] : List Int)) (inner := [.int .u8 9]) (ok := fun _ => True) (okp := fun _ => True) ?hr ?hp (fun _ hk => hk) trivial (Below.refl _ _) (Nat.le_refl _) (by simp) ?_; (case hd => rfl); (case hg => rfl); (case hr => first | (go_simp; done) | (go_simp; rfl)); (case hp => exact (Reps.one (show Kd.M (Kd.int .u8) _ _ _ 9 [.int .u8 9] from rfl) (Reps.none _ _))); intro v181 w17 ho18 hb hg_ hnew_; clear hg_ hnew_; (first | rw [← Ny180.out] at ho18 | (simp only [Int.reduceToNat] at ho18; rw [← Ny180.out] at ho18)); have n0_ := Aside0.mk (Kd.R_elder' (by (with_reducible repeat (first | apply Kd.R_alloc | apply Kd.R_drewN | apply Kd.R_drew)); exact HO174.out) (Kd.R_base ho18) hb); have n1_ := Aside0.mk (Kd.R_elder' (by (with_reducible repeat (first | apply Kd.R_alloc | apply Kd.R_drewN | apply Kd.R_drew)); exact HO178.out) (Kd.R_base ho18) hb); have n2_ := Aside0.mk (Kd.R_lower (Kd.R_new' (Kd.R_new' ho18 (Kd.R_lt (by (with_reducible repeat (first | apply Kd.R_alloc | apply Kd.R_drewN | apply Kd.R_drew)); exact HO174.out))) (Kd.R_lt (by (with_reducible repeat (first | apply Kd.R_alloc | apply Kd.R_drewN | apply Kd.R_drew)); exact HO178.out))) (below_size (by repeat (first | (with_reducible first | exact HB.out | apply below_alloc | apply pw_below_drewN | apply below_drew1 | refine below_set ?_ GE175.out) | exact HB.out)))); have n3_ := Aside0.mk (blk_below (g := gb175) (o := .cells #[.int .i64 3, .int .i64 1, .slice Ao13 y172.length co13] 24 (0, 0)) (by (with_reducible repeat (first | refine blk_drewN ?_ _ | refine blk_drew ?_ | refine blk_alloc ?_ _)); exact BK175.out) hb); have n4_ := Aside0.mk (below_step (by repeat (first | (with_reducible first | exact HB.out | apply below_alloc | apply pw_below_drewN | apply below_drew1 | refine below_set ?_ GE175.out) | exact HB.out)) hb); clear HO174; clear HO178; clear BK175; clear HB; have HO174 := n0_; have HO178 := n1_; have HO182 := n2_; have BK175 := n3_; have HB := n4_; clear n0_ n1_ n2_ n3_ n4_; clear hb ho18; obtain ⟨Ao19, co19, eo19⟩ := Kd.R_slice HO182.out; subst eo19; obtain ⟨Ao20, co20, eo20⟩ := Kd.R_slice HO178.out; subst eo20) | ((with_reducible refine gate_callee (f := 18) rfl ?_); refine goesL_ (some 17) rfl rfl Try.func18 (by kernel_rfl) rfl #[.agg #[.slice Ao19 y180.length co19, .int .i64 0], .slice Ao20 t176.length co20] rfl (by (try simp only [List.map_toArray, List.map_cons, List.map_nil]); first | done | rfl | (simp only [List.length_drop, List.length_take]; rfl)) ?_; (with_reducible refine (telegram_Feed.calls k _ _ y180 0 _ _ t176 t183 t186 t187 _ ?side1 ?side2 ?side3 ?side4 A2.out).mono ?_); (case side1 => repeat (first | exact (Kd.R_reads' HO182.out).2.2 | (with_reducible refine Kd.C_alloc ?_ _) | (with_reducible refine Kd.C_drewN ?_ _) | (with_reducible refine Kd.C_drew ?_))); (case side2 => exact (Kd.R_reads' HO182.out).2.1); (case side3 => repeat (first | exact (Kd.R_reads' HO178.out).2.2 | (with_reducible refine Kd.C_alloc ?_ _) | (with_reducible refine Kd.C_drewN ?_ _) | (with_reducible refine Kd.C_drew ?_))); (case side4 => exact (Kd.R_reads' HO178.out).2.1); rintro e w21 ⟨v184, v188, rfl, ho0, ho1, hb⟩; refine ⟨_, rfl, ?_⟩; have n0_ := Aside0.mk (Kd.R_elder' (by (with_reducible repeat (first | apply Kd.R_alloc | apply Kd.R_drewN | apply Kd.R_drew)); exact HO174.out) (Kd.R_base ho0) hb); have n1_ := Aside0.mk (Kd.R_elder' (by (with_reducible repeat (first | apply Kd.R_alloc | apply Kd.R_drewN | apply Kd.R_drew)); exact HO178.out) (Kd.R_base ho0) hb); have n2_ := Aside0.mk (Kd.R_elder' (by (with_reducible repeat (first | apply Kd.R_alloc | apply Kd.R_drewN | apply Kd.R_drew)); exact HO182.out) (Kd.R_base ho0) hb); have n3_ := Aside0.mk (Kd.R_lower (Kd.R_new' (Kd.R_new' (Kd.R_new' ho0 (Kd.R_lt (by (with_reducible repeat (first | apply Kd.R_alloc | apply Kd.R_drewN | apply Kd.R_drew)); exact HO174.out))) (Kd.R_lt (by (with_reducible repeat (first | apply Kd.R_alloc | apply Kd.R_drewN | apply Kd.R_drew)); exact HO178.out))) (Kd.R_lt (by (with_reducible repeat (first | apply Kd.R_alloc | apply Kd.R_drewN | apply Kd.R_drew)); exact HO182.out))) (below_size (by repeat (first | (with_reducible first | exact HB.out | apply below_alloc | apply pw_below_drewN | apply below_drew1 | refine below_set ?_ GE175.out) | exact HB.out)))); have n4_ := Aside0.mk (Kd.N_lower (Kd.N_mono (ok' := fun k_ => some k_ ≠ (v184 : Value).ownBlock ∧ some k_ ≠ (.slice Ao13 y172.length co13 : Value).ownBlock ∧ some k_ ≠ (.slice Ao20 t176.length co20 : Value).ownBlock ∧ some k_ ≠ (.slice Ao19 y180.length co19 : Value).ownBlock ∧ k_ ≠ gb175) (Kd.S_N (Kd.S_bound ho1)) (fun k_ hk_ => ⟨hk_.1, (Kd.fresh' (Kd.R_lt (by (with_reducible repeat (first | apply Kd.R_alloc | apply Kd.R_drewN | apply Kd.R_drew)); exact HO174.out)) k_ hk_.2.1), (Kd.fresh' (Kd.R_lt (by (with_reducible repeat (first | apply Kd.R_alloc | apply Kd.R_drewN | apply Kd.R_drew)); exact HO178.out)) k_ hk_.2.1), (Kd.fresh' (Kd.R_lt (by (with_reducible repeat (first | apply Kd.R_alloc | apply Kd.R_drewN | apply Kd.R_drew)); exact HO182.out)) k_ hk_.2.1), (Kd.freshB (g := gb175) (o := .cells #[.int .i64 3, .int .i64 1, .slice Ao13 y172.length co13] 24 (0, 0)) (by (with_reducible repeat (first | refine blk_drewN ?_ _ | refine blk_drew ?_ | refine blk_alloc ?_ _)); exact BK175.out) k_ hk_.2.1)⟩)) (below_size (by repeat (first | (with_reducible first | exact HB.out | apply below_alloc | apply pw_below_drewN | apply below_drew1 | refine below_set ?_ GE175.out) | exact HB.out)))); have n5_ := Aside0.mk (blk_below (g := gb175) (o := .cells #[.int .i64 3, .int .i64 1, .slice Ao13 y172.length co13] 24 (0, 0)) (by (with_reducible repeat (first | refine blk_drewN ?_ _ | refine blk_drew ?_ | refine blk_alloc ?_ _)); exact BK175.out) hb); have n6_ := Aside0.mk (below_step (by repeat (first | (with_reducible first | exact HB.out | apply below_alloc | apply pw_below_drewN | apply below_drew1 | refine below_set ?_ GE175.out) | exact HB.out)) hb); clear HO174; clear HO178; clear HO182; clear BK175; clear HB; have HO174 := n0_; have HO178 := n1_; have HO182 := n2_; have HO185 := n3_; have HO189 := n4_; have BK175 := n5_; have HB := n6_; clear n0_ n1_ n2_ n3_ n4_ n5_ n6_; (try clear hb); (try clear hb2); (try clear hge); (try clear hk); (try clear hi); (try clear ho0); (try clear ho1)) | ((with_reducible refine gate_dst (N := 4) rfl ?_); (try (refine gate_guard (by rfl) ?_; dsimp only)); refine box_event ?hg (N := 4) ?hd (cs := #[.slice none 0 0, .int .i64 0]) (t := 36) ?hr ?_; (case hd => rfl); (case hg => rfl); (case hr => first | (go_simp; done) | (go_simp; rfl)); intro gb190 hg w22 hbox hb; have n0_ := Aside0.mk (Kd.R_below (by (with_reducible repeat (first | apply Kd.R_alloc | apply Kd.R_drewN | apply Kd.R_drew)); exact HO174.out) hb); have n1_ := Aside0.mk (Kd.R_below (by (with_reducible repeat (first | apply Kd.R_alloc | apply Kd.R_drewN | apply Kd.R_drew)); exact HO178.out) hb); have n2_ := Aside0.mk (Kd.R_below (by (with_reducible repeat (first | apply Kd.R_alloc | apply Kd.R_drewN | apply Kd.R_drew)); exact HO182.out) hb); have n3_ := Aside0.mk (Kd.R_below (by (with_reducible repeat (first | apply Kd.R_alloc | apply Kd.R_drewN | apply Kd.R_drew)); exact HO185.out) hb); have n4_ := Aside0.mk (Kd.N_below (Kd.N_elderB (by (with_reducible repeat (first | apply Kd.N_alloc | apply Kd.N_drewN | apply Kd.N_drew)); exact HO189.out) gb190 (Nat.le_of_eq hg.symm)) hb); have n5_ := Aside0.mk (blk_below (g := gb175) (o := .cells #[.int .i64 3, .int .i64 1, .slice Ao13 y172.length co13] 24 (0, 0)) (by (with_reducible repeat (first | refine blk_drewN ?_ _ | refine blk_drew ?_ | refine blk_alloc ?_ _)); exact BK175.out) hb); have n6_ := Aside0.mk (below_step (by repeat (first | (with_reducible first | exact HB.out | apply below_alloc | apply pw_below_drewN | apply below_drew1 | refine below_set ?_ GE175.out) | exact HB.out)) hb); have n7_ := Aside0.mk (hbox); have n8_ := Aside0.mk ((by rw [hg]; exact (below_size (by repeat (first | (with_reducible first | exact HB.out | apply below_alloc | apply pw_below_drewN | apply below_drew1 | refine below_set ?_ GE175.out) | exact HB.out))) : w.heap.size ≤ gb190)); have n9_ := Aside0.mk ((by rw [hg]; exact (below_size (by repeat (first | (with_reducible first | exact HB.out | apply below_alloc | apply pw_below_drewN | apply below_drew1 | refine below_set ?_ GE175.out) | exact HB.out))) : w.heap.size ≤ gb190)); have n10_ := Aside0.mk ((by rw [hg]; exact Nat.ne_of_lt (blk_lt (g := gb175) (o := .cells #[.int .i64 3, .int .i64 1, .slice Ao13 y172.length co13] 24 (0, 0)) (by (with_reducible repeat (first | refine blk_drewN ?_ _ | refine blk_drew ?_ | refine blk_alloc ?_ _)); exact BK175.out)) : gb175 ≠ gb190)); have n11_ := Aside0.mk ((by rw [hg]; exact Nat.ne_of_gt (blk_lt (g := gb175) (o := .cells #[.int .i64 3, .int .i64 1, .slice Ao13 y172.length co13] 24 (0, 0)) (by (with_reducible repeat (first | refine blk_drewN ?_ _ | refine blk_drew ?_ | refine blk_alloc ?_ _)); exact BK175.out)) : gb190 ≠ gb175)); clear HO174; clear HO178; clear HO182; clear HO185; clear HO189; clear BK175; clear HB; have HO174 := n0_; have HO178 := n1_; have HO182 := n2_; have HO185 := n3_; have HO189 := n4_; have BK175 := n5_; have HB := n6_; have BK190 := n7_; have GW190 := n8_; have GE190 := n9_; have NB175_190 := n10_; have NB190_175 := n11_; clear n0_ n1_ n2_ n3_ n4_ n5_ n6_ n7_ n8_ n9_ n10_ n11_; clear hb hbox hg; obtain ⟨Ao23, co23, eo23⟩ := Kd.R_slice HO185.out; subst eo23; have hnb24 := NB190_175.out; have hnc24 := NB175_190.out; have hcz25_0 : w22.cell? ⟨gb190, 0, none⟩ = some (.slice none 0 0) := (blk_cell BK190.out 0).trans rfl; have hcz25_1 : w22.cell? ⟨gb190, 1, none⟩ = some (.int .i64 0) := (blk_cell BK190.out 1).trans rfl; have hfz25_0 := blk_frozen BK190.out 0; have hfz25_1 := blk_frozen BK190.out 1) | ((with_reducible refine gate_dst (N := 29) rfl ?_); (try (refine gate_guard (by rfl) ?_; dsimp only)); refine mark_conv ([49, 50, 51, 52, 53, 54, 55, 56, 57] : List Int) [.int .u8 49, .int .u8 50, .int .u8 51, .int .u8 52, .int .u8 53, .int .u8 54, .int .u8 55, .int .u8 56, .int .u8 57] 22 5 rfl Try.underlying22 Try.underlying5 ?hg (.tmp 28) ?ho (by simp) ?hr ?_; (case hg => rfl); (case ho => rfl); (case hr => first | (go_simp; done) | (go_simp; rfl)); intro v192 w26 ho27 hb; (first | rw [← Ny191.out] at ho27 | (simp only [Int.reduceToNat] at ho27; rw [← Ny191.out] at ho27)); have n0_ := Aside0.mk (Kd.R_below (by (with_reducible repeat (first | apply Kd.R_alloc | apply Kd.R_drewN | apply Kd.R_drew)); exact (Kd.R_mono (Kd.R_far (p := ⟨gb190, 1, none⟩) (Kd.R_far (p := ⟨gb190, 0, none⟩) (Kd.R_types HO174.out BK190.out (by decide)) (fun _ hk => hk.2) (.slice Ao23 t183.length co23)) (fun _ hk => hk.2) (.int .i64 t186)) (fun _ h_ => h_.1))) hb); have n1_ := Aside0.mk (Kd.R_below (by (with_reducible repeat (first | apply Kd.R_alloc | apply Kd.R_drewN | apply Kd.R_drew)); exact (Kd.R_mono (Kd.R_far (p := ⟨gb190, 1, none⟩) (Kd.R_far (p := ⟨gb190, 0, none⟩) (Kd.R_types HO178.out BK190.out (by decide)) (fun _ hk => hk.2) (.slice Ao23 t183.length co23)) (fun _ hk => hk.2) (.int .i64 t186)) (fun _ h_ => h_.1))) hb); have n2_ := Aside0.mk (Kd.R_below (by (with_reducible repeat (first | apply Kd.R_alloc | apply Kd.R_drewN | apply Kd.R_drew)); exact (Kd.R_mono (Kd.R_far (p := ⟨gb190, 1, none⟩) (Kd.R_far (p := ⟨gb190, 0, none⟩) (Kd.R_types HO182.out BK190.out (by decide)) (fun _ hk => hk.2) (.slice Ao23 t183.length co23)) (fun _ hk => hk.2) (.int .i64 t186)) (fun _ h_ => h_.1))) hb); have n3_ := Aside0.mk (Kd.R_below (by (with_reducible repeat (first | apply Kd.R_alloc | apply Kd.R_drewN | apply Kd.R_drew)); exact (Kd.R_mono (Kd.R_far (p := ⟨gb190, 1, none⟩) (Kd.R_far (p := ⟨gb190, 0, none⟩) (Kd.R_types HO185.out BK190.out (by decide)) (fun _ hk => hk.2) (.slice Ao23 t183.length co23)) (fun _ hk => hk.2) (.int .i64 t186)) (fun _ h_ => h_.1))) hb); have n4_ := Aside0.mk (Kd.N_below (by (with_reducible repeat (first | apply Kd.N_alloc | apply Kd.N_drewN | apply Kd.N_drew)); exact (Kd.N_mono (Kd.N_far (p := ⟨gb190, 1, none⟩) (Kd.N_far (p := ⟨gb190, 0, none⟩) (Kd.N_mono HO189.out (fun k_ hk => (⟨hk, hk.2⟩ : _ ∧ k_ ≠ gb190))) (fun _ hk => hk.2) (.slice Ao23 t183.length co23)) (fun _ hk => hk.2) (.int .i64 t186)) (fun _ h_ => h_.1))) hb); have n5_ := Aside0.mk (Kd.V_lower ho27 (below_size (by repeat (first | (with_reducible first | exact HB.out | apply below_alloc | apply pw_below_drewN | apply below_drew1 | refine below_set ?_ GE175.out | refine below_set ?_ GE190.out) | exact HB.out)))); have n6_ := Aside0.mk (blk_below (g := gb175) (o := .cells #[.int .i64 3, .int .i64 1, .slice Ao13 y172.length co13] 24 (0, 0)) (by (with_reducible repeat (first | refine blk_drewN ?_ _ | refine blk_drew ?_ | refine blk_alloc ?_ _)); refine blk_far ?_ NB175_190.out _; (with_reducible repeat (first | refine blk_drewN ?_ _ | refine blk_drew ?_ | refine blk_alloc ?_ _)); refine blk_far ?_ NB175_190.out _; (with_reducible repeat (first | refine blk_drewN ?_ _ | refine blk_drew ?_ | refine blk_alloc ?_ _)); exact BK175.out) hb); have n7_ := Aside0.mk (blk_below (g := gb190) (o := .cells #[.slice Ao23 t183.length co23, .int .i64 t186] 36 (0, 0)) (by (with_reducible repeat (first | refine blk_drewN ?_ _ | refine blk_drew ?_ | refine blk_alloc ?_ _)); refine blk_put (cs := #[.slice Ao23 t183.length co23, .int .i64 0]) ?_ 1 _ rfl; (with_reducible repeat (first | refine blk_drewN ?_ _ | refine blk_drew ?_ | refine blk_alloc ?_ _)); refine blk_put (cs := #[.slice none 0 0, .int .i64 0]) ?_ 0 _ rfl; (with_reducible repeat (first | refine blk_drewN ?_ _ | refine blk_drew ?_ | refine blk_alloc ?_ _)); exact BK190.out) hb); have n8_ := Aside0.mk (below_step (by repeat (first | (with_reducible first | exact HB.out | apply below_alloc | apply pw_below_drewN | apply below_drew1 | refine below_set ?_ GE175.out | refine below_set ?_ GE190.out) | exact HB.out)) hb); clear HO174; clear HO178; clear HO182; clear HO185; clear HO189; clear BK175; clear BK190; clear HB; have HO174 := n0_; have HO178 := n1_; have HO182 := n2_; have HO185 := n3_; have HO189 := n4_; have HO193 := n5_; have BK175 := n6_; have BK190 := n7_; have HB := n8_; clear n0_ n1_ n2_ n3_ n4_ n5_ n6_ n7_ n8_; clear hb ho27; obtain ⟨Ao28, co28, eo28⟩ := Kd.V_slice HO193.out; subst eo28) | (go_at_call 14; (with_reducible refine (telegram_Check.calls k _ _ y191 t194 _ ?side1 ?side2 A5.out).mono ?_); (case side1 => repeat (first | exact (Kd.V_reads' HO193.out).2.2 | (with_reducible refine Kd.C_alloc ?_ _) | (with_reducible refine Kd.C_drewN ?_ _) | (with_reducible refine Kd.C_drew ?_))); (case side2 => exact (Kd.V_reads' HO193.out).2.1); rintro e w' ⟨rfl, ⟨nd, rfl⟩⟩; obtain ⟨Ao29, co29, eo29⟩ := Kd.N_slice HO189.out; subst eo29; have hcz30_0 : w26.cell? ⟨gb175, 0, none⟩ = some (.int .i64 3) := (blk_cell BK175.out 0).trans rfl; have hcz30_1 : w26.cell? ⟨gb175, 1, none⟩ = some (.int .i64 1) := (blk_cell BK175.out 1).trans rfl; have hcz30_2 : w26.cell? ⟨gb175, 2, none⟩ = some (.slice Ao13 y172.length co13) := (blk_cell BK175.out 2).trans rfl; have hfz30_0 := blk_frozen BK175.out 0; have hfz30_1 := blk_frozen BK175.out 1; have hfz30_2 := blk_frozen BK175.out 2) | ((with_reducible refine gate_dst (N := 41) rfl ?_); (try (refine gate_guard (by rfl) ?_; dsimp only)); refine Kd.N_lit k24 _ 24 ?hg (N' := 41) ?hd (xs := ([(⟨3, 1, y172⟩ : S24)] : List (S24))) (inner := [.int .i64 3, .int .i64 1, .slice Ao13 y172.length co13]) (ok := (fun k_ => some k_ ≠ (.slice Ao20 t176.length co20 : Value).ownBlock ∧ some k_ ≠ (.slice Ao19 y180.length co19 : Value).ownBlock ∧ some k_ ≠ (.slice Ao23 t183.length co23 : Value).ownBlock ∧ some k_ ≠ (.slice Ao29 t187.length co29 : Value).ownBlock ∧ k_ ≠ gb175 ∧ k_ ≠ gb190)) (okp := (fun k_ => some k_ ≠ (.slice Ao20 t176.length co20 : Value).ownBlock ∧ some k_ ≠ (.slice Ao19 y180.length co19 : Value).ownBlock ∧ some k_ ≠ (.slice Ao23 t183.length co23 : Value).ownBlock ∧ some k_ ≠ (.slice Ao29 t187.length co29 : Value).ownBlock ∧ k_ ≠ gb175 ∧ k_ ≠ gb190)) ?hr ?hp (fun _ hk => hk) ((show ∀ k_, w26.heap.size ≤ k_ → (fun k_ => some k_ ≠ (.slice Ao20 t176.length co20 : Value).ownBlock ∧ some k_ ≠ (.slice Ao19 y180.length co19 : Value).ownBlock ∧ some k_ ≠ (.slice Ao23 t183.length co23 : Value).ownBlock ∧ some k_ ≠ (.slice Ao29 t187.length co29 : Value).ownBlock ∧ k_ ≠ gb175 ∧ k_ ≠ gb190) k_ from fun k_ hk => ⟨Kd.fresh' (Kd.R_lt (by (with_reducible repeat (first | apply Kd.R_alloc | apply Kd.R_drewN | apply Kd.R_drew)); exact HO178.out)) k_ hk, Kd.fresh' (Kd.R_lt (by (with_reducible repeat (first | apply Kd.R_alloc | apply Kd.R_drewN | apply Kd.R_drew)); exact HO182.out)) k_ hk, Kd.fresh' (Kd.R_lt (by (with_reducible repeat (first | apply Kd.R_alloc | apply Kd.R_drewN | apply Kd.R_drew)); exact HO185.out)) k_ hk, Kd.fresh' (Kd.N_lt (by (with_reducible repeat (first | apply Kd.N_alloc | apply Kd.N_drewN | apply Kd.N_drew)); exact HO189.out)) k_ hk, Kd.freshB (g := gb175) (o := .cells #[.int .i64 3, .int .i64 1, .slice Ao13 y172.length co13] 24 (0, 0)) (by (with_reducible repeat (first | refine blk_drewN ?_ _ | refine blk_drew ?_ | refine blk_alloc ?_ _)); exact BK175.out) k_ hk, Kd.freshB (g := gb190) (o := .cells #[.slice Ao23 t183.length co23, .int .i64 t186] 36 (0, 0)) (by (with_reducible repeat (first | refine blk_drewN ?_ _ | refine blk_drew ?_ | refine blk_alloc ?_ _)); exact BK190.out) k_ hk⟩) _ (Nat.le_refl _)) (Below.refl _ _) (Nat.le_refl _) (by simp) ?_; (case hd => rfl); (case hg => rfl); (case hr => first | (go_simp; done) | (go_simp; rfl)); (case hp => exact (Reps.c3 (show Kd.FK k24 _ _ (⟨3, 1, y172⟩ : S24) [.int .i64 3, .int .i64 1, .slice Ao13 y172.length co13] from (k24_mkF _ _ (⟨3, 1, y172⟩ : S24) (Kd.R_reads' (Kd.R_mono (ok' := (fun k_ => some k_ ≠ (.slice Ao20 t176.length co20 : Value).ownBlock ∧ some k_ ≠ (.slice Ao19 y180.length co19 : Value).ownBlock ∧ some k_ ≠ (.slice Ao23 t183.length co23 : Value).ownBlock ∧ some k_ ≠ (.slice Ao29 t187.length co29 : Value).ownBlock ∧ k_ ≠ gb175 ∧ k_ ≠ gb190)) (Kd.R_types (Kd.R_types (Kd.R_apart' (HO174.out) (Kd.N_typed HO189.out) (by decide)) BK175.out (by decide)) BK190.out (by decide)) (fun k_ hk => ⟨hk.1.1.1.1.1.2, ⟨hk.1.1.1.1.2, ⟨hk.1.1.1.2, ⟨hk.1.1.2, ⟨hk.1.2, hk.2⟩⟩⟩⟩⟩))).2.1 (Kd.R_F (Kd.R_mono (ok' := (fun k_ => some k_ ≠ (.slice Ao20 t176.length co20 : Value).ownBlock ∧ some k_ ≠ (.slice Ao19 y180.length co19 : Value).ownBlock ∧ some k_ ≠ (.slice Ao23 t183.length co23 : Value).ownBlock ∧ some k_ ≠ (.slice Ao29 t187.length co29 : Value).ownBlock ∧ k_ ≠ gb175 ∧ k_ ≠ gb190)) (Kd.R_types (Kd.R_types (Kd.R_apart' (HO174.out) (Kd.N_typed HO189.out) (by decide)) BK175.out (by decide)) BK190.out (by decide)) (fun k_ hk => ⟨hk.1.1.1.1.1.2, ⟨hk.1.1.1.1.2, ⟨hk.1.1.1.2, ⟨hk.1.1.2, ⟨hk.1.2, hk.2⟩⟩⟩⟩⟩))))) (Reps.none _ _))); intro v196 w31 ho32 hb hg_ hnew_; clear hg_ hnew_; (first | rw [← Ny195.out] at ho32 | (simp only [Int.reduceToNat] at ho32; rw [← Ny195.out] at ho32)); have n0_ := Aside0.mk (Kd.R_below (by (with_reducible repeat (first | apply Kd.R_alloc | apply Kd.R_drewN | apply Kd.R_drew)); exact HO178.out) hb); have n1_ := Aside0.mk (Kd.R_below (by (with_reducible repeat (first | apply Kd.R_alloc | apply Kd.R_drewN | apply Kd.R_drew)); exact HO182.out) hb); have n2_ := Aside0.mk (Kd.R_below (by (with_reducible repeat (first | apply Kd.R_alloc | apply Kd.R_drewN | apply Kd.R_drew)); exact HO185.out) hb); have n3_ := Aside0.mk (Kd.N_elder' (by (with_reducible repeat (first | apply Kd.N_alloc | apply Kd.N_drewN | apply Kd.N_drew)); exact HO189.out) (Kd.N_base ho32) hb); have n4_ := Aside0.mk (Kd.V_elder' (by (with_reducible repeat (first | apply Kd.V_alloc | apply Kd.V_drewN | apply Kd.V_drew)); exact HO193.out) (Kd.N_base ho32) hb); have n5_ := Aside0.mk (Kd.N_lower ho32 (below_size (by repeat (first | (with_reducible first | exact HB.out | apply below_alloc | apply pw_below_drewN | apply below_drew1 | refine below_set ?_ GE175.out | refine below_set ?_ GE190.out) | exact HB.out)))); have n6_ := Aside0.mk (blk_below (g := gb175) (o := .cells #[.int .i64 3, .int .i64 1, .slice Ao13 y172.length co13] 24 (0, 0)) (by (with_reducible repeat (first | refine blk_drewN ?_ _ | refine blk_drew ?_ | refine blk_alloc ?_ _)); exact BK175.out) hb); have n7_ := Aside0.mk (blk_below (g := gb190) (o := .cells #[.slice Ao23 t183.length co23, .int .i64 t186] 36 (0, 0)) (by (with_reducible repeat (first | refine blk_drewN ?_ _ | refine blk_drew ?_ | refine blk_alloc ?_ _)); exact BK190.out) hb); have n8_ := Aside0.mk (below_step (by repeat (first | (with_reducible first | exact HB.out | apply below_alloc | apply pw_below_drewN | apply below_drew1 | refine below_set ?_ GE175.out | refine below_set ?_ GE190.out) | exact HB.out)) hb); clear HO178; clear HO182; clear HO185; clear HO189; clear HO193; clear BK175; clear BK190; clear HB; clear HO174; have HO178 := n0_; have HO182 := n1_; have HO185 := n2_; have HO189 := n3_; have HO193 := n4_; have HO197 := n5_; have BK175 := n6_; have BK190 := n7_; have HB := n8_; clear n0_ n1_ n2_ n3_ n4_ n5_ n6_ n7_ n8_; clear hb ho32; obtain ⟨Ao33, co33, eo33⟩ := Kd.N_slice HO197.out; subst eo33) | (go_at_call 20; (with_reducible refine (minecontrolref04_Same.calls k _ _ t187 _ _ y195 true _ ?side1 ?side2 ?side3 ?side4 A8.out).mono ?_); (case side1 => repeat (first | exact (Kd.N_reads' HO189.out).2.2 | (with_reducible refine Kd.C_alloc ?_ _) | (with_reducible refine Kd.C_drewN ?_ _) | (with_reducible refine Kd.C_drew ?_))); (case side2 => exact (Kd.N_reads' HO189.out).2.1); (case side3 => repeat (first | exact (Kd.N_reads' HO197.out).2.2 | (with_reducible refine Kd.C_alloc ?_ _) | (with_reducible refine Kd.C_drewN ?_ _) | (with_reducible refine Kd.C_drew ?_))); (case side4 => exact (Kd.N_reads' HO197.out).2.1); rintro e w' ⟨rfl, ⟨nd, rfl⟩⟩; have hcz34_0 : w31.cell? ⟨gb190, 0, none⟩ = some (.slice Ao23 t183.length co23) := (blk_cell BK190.out 0).trans rfl; have hcz34_1 : w31.cell? ⟨gb190, 1, none⟩ = some (.int .i64 t186) := (blk_cell BK190.out 1).trans rfl; have hfz34_0 := blk_frozen BK190.out 0; have hfz34_1 := blk_frozen BK190.out 1))
       go_ret
       exact ⟨by first | rfl | (simp [errW_none, errW_some] <;> rfl) | (simp [*, errW_none, errW_some] <;> rfl), by repeat (first | (with_reducible first | exact HB.out | apply below_alloc | apply pw_below_drewN | apply below_drew1 | refine below_set ?_ GE175.out | refine below_set ?_ GE190.out) | exact HB.out)⟩
      ·
       rw [if_neg c10] at H
       have c10b0 : (t186 == 1) = false := beq_eq_false_iff_ne.mpr c10
       have c10b1 : (t186 != 1) = true := bne_iff_ne.mpr c10
       obtain rfl := Option.some.inj H
       exact absurd hr_.out (by decide)
     ·
      replace c9 := Bool.eq_false_iff.mpr c9
      subst c9
      have H1 : (some false) = some r := by rw [if_neg (show ¬ (false = true) by decide)] at H; exact H
      clear H
      have H := H1
      clear H1
      obtain rfl := Option.some.inj H
      exact absurd hr_.out (by decide)
    ·
     rw [if_neg c7] at H
     have c7b0 : ((t187.length : Int) == 1) = false := beq_eq_false_iff_ne.mpr c7
     have c7b1 : ((t187.length : Int) != 1) = true := bne_iff_ne.mpr c7
     obtain rfl := Option.some.inj H
     exact absurd hr_.out (by decide)
   ·
    rw [if_neg c6] at H
    have c6b0 : (t194 == 10673) = false := beq_eq_false_iff_ne.mpr c6
    have c6b1 : (t194 != 10673) = true := bne_iff_ne.mpr c6
    obtain rfl := Option.some.inj H
    exact absurd hr_.out (by decide)
  ·
   rw [if_neg c4] at H
   have c4b0 : ((t176.length : Int) == 8) = false := beq_eq_false_iff_ne.mpr c4
   have c4b1 : ((t176.length : Int) != 8) = true := bne_iff_ne.mpr c4
   obtain rfl := Option.some.inj H
   exact absurd hr_.out (by decide)
 ·
  rw [if_neg c3] at H
  have c3b0 : (t179 == 0) = false := beq_eq_false_iff_ne.mpr c3
  have c3b1 : (t179 != 0) = true := bne_iff_ne.mpr c3
  obtain rfl := Option.some.inj H
  exact absurd hr_.out (by decide)

set_option maxRecDepth 100000 in
theorem minecontrollaw04_awake.only : ∀ k r, minecontrollaw04_awake.f k = some r → r = true := by
 intro k r h
 have h1 : minecontrollaw04_awake.f 400 = some true := by decide +kernel
 have h2 := more_rounds minecontrollaw04_awake.mono k 400 r h
 have h3 := more_rounds minecontrollaw04_awake.mono 400 k true h1
 rw [Nat.add_comm] at h3
 rw [h3] at h2
 exact (Option.some.inj h2).symm
theorem minecontrollaw04_awake.calls (k : Nat) (r : Bool) (w : World) (h : minecontrollaw04_awake.f k  = some r) :
  Calls Try.prog 9 #[] w fun e w' => e = .returned (.bool r) ∧ Below w.heap.size w w' := minecontrollaw04_awake.calls1 k r w (.mk (minecontrollaw04_awake.only k r h)) h

/-- A state of type 48 at block g of W; what its slices lead to came in by w0. -/
def IsS48 (w0 W : World) (g : Nat) (f0 : List Int) (f1 : Int) : Prop := ∃ A0 c0, W.heap[g]? = some (.cells #[.slice A0 f0.length c0, .int .i64 f1] 48 (0, 0)) ∧ w0.heap.size ≤ g ∧ Kd.C (Kd.int .u8) w0 A0 f0.length f0
theorem IsS48.grown {w0 W : World} {g : Nat} {f0 : List Int} {f1 : Int} {W1 : World} {row : Option Nat} (h : IsS48 w0 W g f0 f1) (hw : W.grownBy W1 row) (hne : some g ≠ row) : IsS48 w0 W1 g f0 f1 := by
 obtain ⟨A0, c0, hb, hg, hr0⟩ := h
 exact ⟨A0, c0, blk_grown hb hw hne, hg, hr0⟩
theorem IsS48.own_neN {w0 W : World} {g : Nat} {f0 : List Int} {f1 : Int} {α : Type} {d : Kd α} {e : Nat} {base : Nat} {ok : Nat → Prop} {v : Value} {xs : List α} (h : IsS48 w0 W g f0 f1) (ho : Kd.N d e W base ok v xs) (ht : e ≠ 48) : some g ≠ v.ownBlock := by
 obtain ⟨A0, c0, hb, hg, hr0⟩ := h
 exact Kd.N_ne ho hb ht
theorem IsS48.fresh {w0 W : World} {g : Nat} {f0 : List Int} {f1 : Int} (h : IsS48 w0 W g f0 f1) : ∀ k, W.heap.size ≤ k → k ≠ g := by
 obtain ⟨A0, c0, hb, hg, hr0⟩ := h
 exact Kd.freshB hb
theorem IsS48.kept {w0 W : World} {g : Nat} {f0 : List Int} {f1 : Int} {W1 : World} {S : Nat → Prop} (h : IsS48 w0 W g f0 f1) (hk : Kept W W1 S) (hne : ¬ S g) : IsS48 w0 W1 g f0 f1 := by
 obtain ⟨A0, c0, hb, hg, hr0⟩ := h
 exact ⟨A0, c0, blk_kept hb hk hne, hg, hr0⟩
theorem IsS48.below {w0 W : World} {g : Nat} {f0 : List Int} {f1 : Int} {W1 : World} (h : IsS48 w0 W g f0 f1) (hw : Below W.heap.size W W1) : IsS48 w0 W1 g f0 f1 := h.grown (grown_of_below hw none) (by simp)
theorem IsS48.alloc {w0 W : World} {g : Nat} {f0 : List Int} {f1 : Int} (h : IsS48 w0 W g f0 f1) (o : Obj) : IsS48 w0 (W.alloc o) g f0 f1 := h.below (below_alloc (Below.refl _ _) o)
theorem IsS48.drewN {w0 W : World} {g : Nat} {f0 : List Int} {f1 : Int} (h : IsS48 w0 W g f0 f1) (m : Nat) : IsS48 w0 (W.drewN m) g f0 f1 := h
theorem IsS48.drew {w0 W : World} {g : Nat} {f0 : List Int} {f1 : Int} (h : IsS48 w0 W g f0 f1) : IsS48 w0 W.drew g f0 f1 := h
theorem IsS48.at_ {w0 W : World} {g : Nat} {f0 : List Int} {f1 : Int} {w' : World} {m : Nat} (hq : W.drewN m = w') (h : IsS48 w0 W g f0 f1) : IsS48 w0 w' g f0 f1 := by subst hq; exact IsS48.drewN h m
theorem IsS48.apart {w0 W : World} {g : Nat} {f0 : List Int} {f1 : Int} {α : Type} {d : Kd α} {e : Nat} {base : Nat} {ok : Nat → Prop} {v : Value} {xs : List α} (h : IsS48 w0 W g f0 f1) (ho : d.R e W base ok v xs) (ht : ∀ q, q ∈ e :: d.E → q ≠ 48) : d.R e W base (fun k => ok k ∧ k ≠ g) v xs := by
 obtain ⟨A0, c0, hb, hg, hr0⟩ := h
 exact Kd.R_types ho hb ht
theorem IsS48.own_ne {w0 W : World} {g : Nat} {f0 : List Int} {f1 : Int} {α : Type} {d : Kd α} {e : Nat} {base : Nat} {ok : Nat → Prop} {v : Value} {xs : List α} (h : IsS48 w0 W g f0 f1) (ho : d.R e W base ok v xs) (ht : e ≠ 48) : some g ≠ v.ownBlock := by
 obtain ⟨A0, c0, hb, hg, hr0⟩ := h
 exact Kd.R_ne ho hb ht
theorem IsS48.apartQ {w0 W : World} {g : Nat} {f0 : List Int} {f1 : Int} {α : Type} {d : Kd α} {e : Nat} {base : Nat} {ok : Nat → Prop} {v : Value} {xs : List α} (h : IsS48 w0 W g f0 f1) (ho : d.Q e W base ok v xs) (ht : ∀ q, q ∈ e :: d.E → q ≠ 48) : d.Q e W base (fun k => ok k ∧ k ≠ g) v xs := by
 obtain ⟨A0, c0, hb, hg, hr0⟩ := h
 exact Kd.Q_types ho hb ht
theorem IsS48.own_neQ {w0 W : World} {g : Nat} {f0 : List Int} {f1 : Int} {α : Type} {d : Kd α} {e : Nat} {base : Nat} {ok : Nat → Prop} {v : Value} {xs : List α} (h : IsS48 w0 W g f0 f1) (ho : d.Q e W base ok v xs) (ht : e ≠ 48) : some g ≠ v.ownBlock := by
 obtain ⟨A0, c0, hb, hg, hr0⟩ := h
 exact Kd.Q_ne ho hb ht
theorem IsS48.apartS {w0 W : World} {g : Nat} {f0 : List Int} {f1 : Int} {α : Type} {d : Kd α} {e : Nat} {base : Nat} {ok : Nat → Prop} {v : Value} {xs : List α} (h : IsS48 w0 W g f0 f1) (ho : d.S e W base ok v xs) (ht : ∀ q, q ∈ e :: d.E → q ≠ 48) : d.S e W base (fun k => ok k ∧ k ≠ g) v xs := by
 obtain ⟨A0, c0, hb, hg, hr0⟩ := h
 exact Kd.S_types ho hb ht
theorem IsS48.own_neS {w0 W : World} {g : Nat} {f0 : List Int} {f1 : Int} {α : Type} {d : Kd α} {e : Nat} {base : Nat} {ok : Nat → Prop} {v : Value} {xs : List α} (h : IsS48 w0 W g f0 f1) (ho : d.S e W base ok v xs) (ht : e ≠ 48) : some g ≠ v.ownBlock := by
 obtain ⟨A0, c0, hb, hg, hr0⟩ := h
 exact Kd.S_ne ho hb ht
theorem IsS48.lt {w0 W : World} {g : Nat} {f0 : List Int} {f1 : Int} (h : IsS48 w0 W g f0 f1) : g < W.heap.size := by
 obtain ⟨A0, c0, hb, hg, hr0⟩ := h
 exact blk_lt hb
theorem IsS48.ge {w0 W : World} {g : Nat} {f0 : List Int} {f1 : Int} (h : IsS48 w0 W g f0 f1) : w0.heap.size ≤ g := by
 obtain ⟨A0, c0, hb, hg, hr0⟩ := h
 exact hg
theorem IsS48.ne_blk {w0 W : World} {g : Nat} {f0 : List Int} {f1 : Int} {a : Nat} {cs : Array Value} {t : TypeId} {fr : Nat × Nat} (h : IsS48 w0 W g f0 f1) (hb2 : W.heap[a]? = some (.cells cs t fr)) (ht : t ≠ 48) : g ≠ a := by
 obtain ⟨A0, c0, hb, hg, hr0⟩ := h
 rintro rfl
 rw [hb] at hb2
 injection hb2 with hb2
 injection hb2 with _ ht2
 exact ht ht2.symm
theorem IsS48.far {w0 W : World} {g : Nat} {f0 : List Int} {f1 : Int} {p : Addr} (h : IsS48 w0 W g f0 f1) (hne : g ≠ p.block) (u : Value) : IsS48 w0 (W.setCell p u) g f0 f1 := by
 obtain ⟨A0, c0, hb, hg, hr0⟩ := h
 exact ⟨A0, c0, blk_far hb hne u, hg, hr0⟩
theorem cellS48_0 {W : World} {g : Nat} {A0 : Option Addr} {c0 : Nat} {f0 : List Int} {f1 : Int} (h : W.heap[g]? = some (.cells #[.slice A0 f0.length c0, .int .i64 f1] 48 (0, 0))) : W.cell? ⟨g, 0, none⟩ = some (.slice A0 f0.length c0) := (blk_cell h 0).trans rfl
theorem cellS48_1 {W : World} {g : Nat} {A0 : Option Addr} {c0 : Nat} {f0 : List Int} {f1 : Int} (h : W.heap[g]? = some (.cells #[.slice A0 f0.length c0, .int .i64 f1] 48 (0, 0))) : W.cell? ⟨g, 1, none⟩ = some (.int .i64 f1) := (blk_cell h 1).trans rfl
theorem IsS48.set_1 {w0 W : World} {g : Nat} {f0 : List Int} {f1 : Int} (h : IsS48 w0 W g f0 f1) (x : Int) : IsS48 w0 (W.setCell ⟨g, 1, none⟩ (.int .i64 x)) g f0 x := by
 obtain ⟨A0, c0, hb, hg, hr0⟩ := h
 exact ⟨A0, c0, by simpa using blk_set hb 1 (.int .i64 x), hg, hr0⟩
theorem IsS48.new (w0 W : World) (A0 : Option Addr) (c0 : Nat) (f0 : List Int) (f1 : Int) (hB : Below w0.heap.size w0 W) (hr0 : Kd.C (Kd.int .u8) w0 A0 f0.length f0) : IsS48 w0 (W.alloc (.cells #[.slice A0 f0.length c0, .int .i64 f1] 48)) W.heap.size f0 f1 := ⟨A0, c0, by simpa using heap_alloc_new W _, hB.size, hr0⟩

/-! ### minecontroldraw_New: function 10 -/
def minecontroldraw_New.f (l0 : List Int) : Option (List Int × Int) := if 0 ≤ (mn (l0.length : Int) 300) then (if (mn (l0.length : Int) 300) ≤ (l0.length : Int) then (some (l0.take ((mn (l0.length : Int) 300) : Int).toNat, 0)) else (none)) else (none)
set_option maxHeartbeats 8000000 in
set_option maxRecDepth 100000 in
theorem minecontroldraw_New.calls (A0 : Option Addr) (c0 : Nat) (l0 : List Int) (r1 : List Int) (r2 : Int) (w0 w : World) (hB : Below w0.heap.size w0 w) (hr0 : Kd.C (Kd.int .u8) w0 A0 l0.length l0) (hc0 : l0.length ≤ c0) (h : minecontroldraw_New.f l0 = some (r1, r2)) :
  Calls Try.prog 10 #[.slice A0 l0.length c0] w fun e w' => ∃ g_ : Nat, e = .returned (.pointer (some ⟨g_, 0, none⟩)) ∧ IsS48 w0 w' g_ r1 r2 ∧ Below w0.heap.size w0 w' ∧ Below w.heap.size w w' ∧ w.heap.size ≤ g_ := by
 have hu48 := Try.underlying48
 have HR0 := Aside0.mk hr0
 have HC0 := Aside0.mk hc0
 clear hr0 hc0
 have HBW := Aside0.mk (Below.refl w.heap.size w)
 have HW0 := Aside0.mk hB.size
 have HB := Aside0.mk hB
 clear hB
 have H : (if 0 ≤ (mn (l0.length : Int) 300) then (if (mn (l0.length : Int) 300) ≤ (l0.length : Int) then (some (l0.take ((mn (l0.length : Int) 300) : Int).toNat, 0)) else (none)) else (none)) = some (r1, r2) := h
 clear h
 obtain ⟨ji2, hji2⟩ : ∃ j_ : Int, (mn (l0.length : Int) 300) = j_ := ⟨_, rfl⟩
 replace H : (if 0 ≤ (ji2) then (if (ji2) ≤ (l0.length : Int) then (some (l0.take ((ji2) : Int).toNat, 0)) else (none)) else (none)) = some (r1, r2) := by first | (rw [hji2] at H; exact H) | (simp only [hji2] at H ⊢; exact H)
 (try (have hji2h : ji2 ≤ 300 := by (rw [← hji2]; unfold mn; (repeat' split) <;> omega)))
 (try (have hji2g : ji2 ≤ 64 := by omega))
 (try (have hji2l : 0 ≤ ji2 := by (rw [← hji2]; unfold mn; (repeat' split) <;> omega)))
 (try (have hji2m : 0 ≤ ji2 := by omega))
 have hji2_ : (if 300 < (l0.length : Int) then 300 else (l0.length : Int)) = ji2 := hji2
 by_cases c3 : 0 ≤ (ji2)
 rotate_left
 ·
  rw [if_neg c3] at H
  exact absurd H (by simp)
 rw [if_pos c3] at H
 have c3b0 := eq_true c3
 have c3b1 : decide (0 ≤ (ji2)) = true := decide_eq_true c3
 clear c3
 by_cases c4 : (ji2) ≤ (l0.length : Int)
 rotate_left
 ·
  rw [if_neg c4] at H
  exact absurd H (by simp)
 rw [if_pos c4] at H
 have c4b0 := eq_true c4
 have c4b1 : decide ((ji2) ≤ (l0.length : Int)) = true := decide_eq_true c4
 clear c4
 simp only [Option.some.injEq, Prod.mk.injEq] at H
 obtain ⟨rfl, rfl⟩ := H
 obtain ⟨i05, hi05, _, hsz5, _⟩ := info_parts info5
 obtain ⟨hcut5, hA5, hC5⟩ := print_take_of (P := Try.prog) (Value.int .u8) 0 22 5 .i64 Try.underlying22 hi05 hsz5 A0 c0 l0 (ji2) (of_decide_eq_true (by first | (with_reducible assumption) | assumption)) (of_decide_eq_true (by first | (with_reducible assumption) | assumption)) HC0.out
 have HR199 := Aside0.mk (Kd.C_of_reads (h1 := fun _ => rfl) (hA5 _ (Kd.reads_of_C HR0.out)))
 have HC199 := Aside0.mk hC5
 clear hA5 hC5 hi05 hsz5
 go_enter Try.func10, Try.ntmps10
 go_wp2_with (first | ((with_reducible refine gate_dst (N := 9) rfl ?_); refine box_event ?hg (N := 9) ?hd (cs := #[.slice A0 (l0.take ((ji2) : Int).toNat).length c0, .int .i64 0]) (t := 48) ?hr ?_; (case hd => rfl); (case hg => rfl); (case hr => first | (go_simp; done) | (go_simp; rfl)); intro gb200 hg w6 hbox hb; have n0_ := Aside0.mk (below_step HBW.out hb); have n1_ := Aside0.mk (below_step (by repeat (first | (with_reducible first | exact HB.out | apply below_alloc | apply pw_below_drewN | apply below_drew1) | exact HB.out)) hb); have n2_ := Aside0.mk (hbox); have n3_ := Aside0.mk ((by rw [hg]; exact (below_size (by repeat (first | (with_reducible first | exact HBW.out | apply below_alloc | apply pw_below_drewN | apply below_drew1) | exact HBW.out))) : w.heap.size ≤ gb200)); have n4_ := Aside0.mk ((Nat.le_trans HW0.out (by rw [hg]; exact (below_size (by repeat (first | (with_reducible first | exact HBW.out | apply below_alloc | apply pw_below_drewN | apply below_drew1) | exact HBW.out))) : w.heap.size ≤ gb200) : w0.heap.size ≤ gb200)); clear HBW; clear HB; have HBW := n0_; have HB := n1_; have BK200 := n2_; have GW200 := n3_; have GE200 := n4_; clear n0_ n1_ n2_ n3_ n4_; clear hb hbox hg))
 go_ret
 exact ⟨_, rfl, (show IsS48 w0 _ gb200 (l0.take ((ji2) : Int).toNat) 0 from ⟨_, _, by (with_reducible repeat (first | refine blk_drewN ?_ _ | refine blk_drew ?_ | refine blk_alloc ?_ _)); exact BK200.out, GE200.out, HR199.out⟩), by repeat (first | (with_reducible first | exact HB.out | apply below_alloc | apply pw_below_drewN | apply below_drew1 | refine below_set ?_ GE200.out) | exact HB.out), by repeat (first | (with_reducible first | exact HBW.out | apply below_alloc | apply pw_below_drewN | apply below_drew1 | refine below_set ?_ GW200.out) | exact HBW.out), GW200.out⟩

/-! ### minecontroldraw_Codes_Next: function 21 -/
def minecontroldraw_Codes_Next.j0 : Nat → Int → Bool → List Int → Int → Option (Int × Int)
 | 0, _, _, _, _ => none
 | k + 1, x1, x19, x1000, x1001 => if x19 = true then (some (0, x1001)) else (if 0 ≤ (wrap64 ((wrap64 (x1001 + 1)) - 1)) then (if (wrap64 ((wrap64 (x1001 + 1)) - 1)) < (x1000.length : Int) then (if x1 > 256 then (if (wrap64 (x1001 + 1)) < (x1000.length : Int) then (if 0 ≤ (wrap64 (x1001 + 1)) then (if x1 = 0 then (none) else (some (Int.tmod (wrap64 ((wrap64 ((wrap64 (rd x1000 (wrap64 ((wrap64 (x1001 + 1)) - 1)))) * 256)) + (wrap64 (rd x1000 (wrap64 (x1001 + 1)))))) x1, wrap64 ((wrap64 (x1001 + 1)) + 1)))) else (none)) else (if x1 = 0 then (none) else (some (Int.tmod (wrap64 (rd x1000 (wrap64 ((wrap64 (x1001 + 1)) - 1)))) x1, wrap64 (x1001 + 1))))) else (if x1 = 0 then (none) else (some (Int.tmod (wrap64 (rd x1000 (wrap64 ((wrap64 (x1001 + 1)) - 1)))) x1, wrap64 (x1001 + 1))))) else (none)) else (none))
def minecontroldraw_Codes_Next.f (k : Nat) (s0_0 : List Int) (s0_1 : Int) (a1 : Int) : Option (Int × Int) := if a1 < 1 then (minecontroldraw_Codes_Next.j0 k a1 true s0_0 s0_1) else (minecontroldraw_Codes_Next.j0 k a1 (decide (s0_1 ≥ (s0_0.length : Int))) s0_0 s0_1)
theorem minecontroldraw_Codes_Next.mono_l : ∀ k, (∀ y0 y1 y2 y3, LeO (minecontroldraw_Codes_Next.j0 k y0 y1 y2 y3) (minecontroldraw_Codes_Next.j0 (k + 1) y0 y1 y2 y3))
 | 0 => fun _ _ _ _ r h => by simp [minecontroldraw_Codes_Next.j0] at h
 | k + 1 => by
  have ih0 := minecontroldraw_Codes_Next.mono_l k
  ·
   intro y0 y1 y2 y3
   unfold minecontroldraw_Codes_Next.j0
   repeat' first
   | (with_reducible exact ih0 _ _ _ _)
   | (with_reducible exact LeO.refl _)
   | (with_reducible exact LeO.none _)
   | (with_reducible refine LeO.ite ?_ ?_)
   | (with_reducible refine LeO.bind ?_ (fun _ => ?_))
   | exact ih0 _ _ _ _
   | exact LeO.none _
   | refine LeO.ite ?_ ?_
   | refine LeO.bind ?_ (fun _ => ?_)
theorem minecontroldraw_Codes_Next.mono : ∀ a0 a1 a2 k, LeO (minecontroldraw_Codes_Next.f k a0 a1 a2) (minecontroldraw_Codes_Next.f (k + 1) a0 a1 a2) := by
 intro a0 a1 a2 k
 have ih0 := minecontroldraw_Codes_Next.mono_l k
 unfold minecontroldraw_Codes_Next.f
 repeat' first
   | (with_reducible exact ih0 _ _ _ _)
   | (with_reducible exact LeO.refl _)
   | (with_reducible exact LeO.none _)
   | (with_reducible refine LeO.ite ?_ ?_)
   | (with_reducible refine LeO.bind ?_ (fun _ => ?_))
   | exact ih0 _ _ _ _
   | exact LeO.none _
   | refine LeO.ite ?_ ?_
   | refine LeO.bind ?_ (fun _ => ?_)
set_option maxHeartbeats 8000000 in
set_option maxRecDepth 100000 in
theorem minecontroldraw_Codes_Next.calls (k : Nat) (g : Nat) (s0_0 : List Int) (s0_1 : Int) (a1 : Int) (r1 : Int) (r2 : Int) (w0 w : World) (hI : IsS48 w0 w g s0_0 s0_1) (hB : Below w0.heap.size w0 w) (h : minecontroldraw_Codes_Next.f k s0_0 s0_1 a1 = some (r1, r2)) :
  Calls Try.prog 21 #[.pointer (some ⟨g, 0, none⟩), .int .i64 a1] w fun e w' => e = .returned (.int .i64 r1) ∧ IsS48 w0 w' g s0_0 r2 ∧ Below w0.heap.size w0 w' ∧ KeepBut w w' g none := by
 have HI0 := Aside0.mk hI
 have HK := Aside0.mk (KeepBut.refl w g none)
 have HL := Aside0.mk hB.size
 clear hI
 have HW0 := Aside0.mk hB.size
 have HB := Aside0.mk hB
 clear hB
 have H : (if a1 < 1 then (minecontroldraw_Codes_Next.j0 k a1 true s0_0 s0_1) else (minecontroldraw_Codes_Next.j0 k a1 (decide (s0_1 ≥ (s0_0.length : Int))) s0_0 s0_1)) = some (r1, r2) := h
 clear h
 have HC3 := Aside0.mk H
 clear H
 go_enter Try.func21, Try.ntmps21
 go_upto_region 1 with (fail)
 repeat (go_quiet (fail); go_upto_region 1 with (fail))
 go_cut [19] (fun v19 wc => ∃ (kq : Nat) (x19_2 : Bool), v19 = .bool x19_2 ∧ Aside0 (minecontroldraw_Codes_Next.j0 kq a1 x19_2 s0_0 s0_1 = some (r1, r2)) ∧ Aside0 (kq ≤ k) ∧ Aside0 (IsS48 w0 wc g s0_0 s0_1) ∧ Aside0 (KeepBut w wc g none) ∧ Aside0 (Below w0.heap.size w0 wc))
 case first =>
  have H := HC3.out
  clear HC3
  by_cases c4 : a1 < 1
  ·
   rw [if_pos c4] at H
   have c4b0 : decide (a1 < 1) = true := decide_eq_true c4
   clear c4
   (first | rw [c4b0] | (simp only [i64_w, i32_w]; rw [c4b0]) | skip)
   have H' := Aside0.mk H
   clear H
   go_wp2
   repeat (go_quiet (fail); try go_wp2)
   go_meet
   case rel => exact ⟨_, (true), (by first | rfl | (simp; done) | (simp [*]; done)), H', ⟨by first | omega | exact Nat.le_refl _⟩, ⟨by repeat (first | (with_reducible first | exact HI0.out | apply IsS48.alloc | apply IsS48.drewN | apply IsS48.drew | apply IsS48.set_1) | exact HI0.out)⟩, ⟨by repeat (first | (with_reducible first | exact HK.out | apply KeepBut.set_ | apply keep_drewN | apply keep_drew | apply keep_alloc) | exact HK.out)⟩, ⟨by repeat (first | (with_reducible first | exact HB.out | apply below_alloc | apply pw_below_drewN | apply below_drew1 | refine below_set ?_ (IsS48.ge HI0.out)) | exact HB.out)⟩⟩
  ·
   rw [if_neg c4] at H
   have c4b0 : decide (a1 < 1) = false := decide_eq_false c4
   clear c4
   (first | rw [c4b0] | (simp only [i64_w, i32_w]; rw [c4b0]) | skip)
   have H' := Aside0.mk H
   clear H
   obtain ⟨ASz5_0, cSz5_0, HGz5, hgz5, HSz5_0⟩ := HI0.out
   have hcz5_0 := cellS48_0 HGz5
   have hcz5_1 := cellS48_1 HGz5
   have hfz5_1 := blk_frozen HGz5 1
   clear HGz5 hgz5
   go_wp2
   repeat (go_quiet (fail); try go_wp2)
   go_meet
   case rel => exact ⟨_, (decide (s0_1 ≥ (s0_0.length : Int))), (by first | rfl | (simp; done) | (simp [*]; done)), H', ⟨by first | omega | exact Nat.le_refl _⟩, ⟨by repeat (first | (with_reducible first | exact HI0.out | apply IsS48.alloc | apply IsS48.drewN | apply IsS48.drew | apply IsS48.set_1) | exact HI0.out)⟩, ⟨by repeat (first | (with_reducible first | exact HK.out | apply KeepBut.set_ | apply keep_drewN | apply keep_drew | apply keep_alloc) | exact HK.out)⟩, ⟨by repeat (first | (with_reducible first | exact HB.out | apply below_alloc | apply pw_below_drewN | apply below_drew1 | refine below_set ?_ (IsS48.ge HI0.out)) | exact HB.out)⟩⟩
 case rest =>
  clear HC3
  try clear c2; try clear p2; try clear c4; try clear c4b0; try clear hcz5_0; try clear hcz5_1; try clear hfz5_1
  obtain ⟨kq, x19_2, rfl, HA, HJ2, HI0, HK, HB⟩ := hcut
  cases kq with
  | zero => exact absurd HA.out (by simp [minecontroldraw_Codes_Next.j0])
  | succ kj2 =>
   have H := HA.out
   clear HA
   simp only [minecontroldraw_Codes_Next.j0] at H
   by_cases c6 : x19_2 = true
   ·
    subst c6
    have H1 : (some (0, s0_1)) = some (r1, r2) := by rw [if_pos rfl] at H; exact H
    clear H
    have H := H1
    clear H1
    simp only [Option.some.injEq, Prod.mk.injEq] at H
    obtain ⟨rfl, rfl⟩ := H
    go_wp2
    repeat (go_quiet (fail); try go_wp2)
    go_ret
    exact ⟨by first | rfl | (simp [errW_none, errW_some] <;> rfl) | (simp [*, errW_none, errW_some] <;> rfl), by repeat (first | (with_reducible first | exact HI0.out | apply IsS48.alloc | apply IsS48.drewN | apply IsS48.drew | apply IsS48.set_1) | exact HI0.out), by repeat (first | (with_reducible first | exact HB.out | apply below_alloc | apply pw_below_drewN | apply below_drew1 | refine below_set ?_ (IsS48.ge HI0.out)) | exact HB.out), by repeat (first | (with_reducible first | exact HK.out | apply KeepBut.set_ | apply keep_drewN | apply keep_drew | apply keep_alloc) | exact HK.out)⟩
   ·
    replace c6 := Bool.eq_false_iff.mpr c6
    subst c6
    have H1 : (if 0 ≤ (wrap64 ((wrap64 (s0_1 + 1)) - 1)) then (if (wrap64 ((wrap64 (s0_1 + 1)) - 1)) < (s0_0.length : Int) then (if a1 > 256 then (if (wrap64 (s0_1 + 1)) < (s0_0.length : Int) then (if 0 ≤ (wrap64 (s0_1 + 1)) then (if a1 = 0 then (none) else (some (Int.tmod (wrap64 ((wrap64 ((wrap64 (rd s0_0 (wrap64 ((wrap64 (s0_1 + 1)) - 1)))) * 256)) + (wrap64 (rd s0_0 (wrap64 (s0_1 + 1)))))) a1, wrap64 ((wrap64 (s0_1 + 1)) + 1)))) else (none)) else (if a1 = 0 then (none) else (some (Int.tmod (wrap64 (rd s0_0 (wrap64 ((wrap64 (s0_1 + 1)) - 1)))) a1, wrap64 (s0_1 + 1))))) else (if a1 = 0 then (none) else (some (Int.tmod (wrap64 (rd s0_0 (wrap64 ((wrap64 (s0_1 + 1)) - 1)))) a1, wrap64 (s0_1 + 1))))) else (none)) else (none)) = some (r1, r2) := by rw [if_neg (show ¬ (false = true) by decide)] at H; exact H
    clear H
    have H := H1
    clear H1
    obtain ⟨ji7, hji7⟩ : ∃ j_ : Int, (wrap64 ((wrap64 (s0_1 + 1)) - 1)) = j_ := ⟨_, rfl⟩
    replace H : (if 0 ≤ (ji7) then (if (ji7) < (s0_0.length : Int) then (if a1 > 256 then (if (wrap64 (s0_1 + 1)) < (s0_0.length : Int) then (if 0 ≤ (wrap64 (s0_1 + 1)) then (if a1 = 0 then (none) else (some (Int.tmod (wrap64 ((wrap64 ((wrap64 (rd s0_0 (ji7))) * 256)) + (wrap64 (rd s0_0 (wrap64 (s0_1 + 1)))))) a1, wrap64 ((wrap64 (s0_1 + 1)) + 1)))) else (none)) else (if a1 = 0 then (none) else (some (Int.tmod (wrap64 (rd s0_0 (ji7))) a1, wrap64 (s0_1 + 1))))) else (if a1 = 0 then (none) else (some (Int.tmod (wrap64 (rd s0_0 (ji7))) a1, wrap64 (s0_1 + 1))))) else (none)) else (none)) = some (r1, r2) := by first | (rw [hji7] at H; exact H) | (simp only [hji7] at H ⊢; exact H)
    have hji7w : (IntKind.i64.wrap ((wrap64 (s0_1 + 1)) - 1)) = ji7 := (i64_w _).trans hji7
    by_cases c8 : 0 ≤ (ji7)
    rotate_left
    ·
     rw [if_neg c8] at H
     exact absurd H (by simp)
    rw [if_pos c8] at H
    have c8b0 : decide (0 ≤ (ji7)) = true := decide_eq_true c8
    clear c8
    by_cases c9 : (ji7) < (s0_0.length : Int)
    rotate_left
    ·
     rw [if_neg c9] at H
     exact absurd H (by simp)
    rw [if_pos c9] at H
    have c9b0 : decide ((ji7) < (s0_0.length : Int)) = true := decide_eq_true c9
    clear c9
    by_cases c10 : a1 > 256
    ·
     rw [if_pos c10] at H
     have c10b0 : decide (256 < a1) = true := decide_eq_true c10
     clear c10
     by_cases c11 : (wrap64 (s0_1 + 1)) < (s0_0.length : Int)
     ·
      rw [if_pos c11] at H
      have c11b0 : decide ((wrap64 (s0_1 + 1)) < (s0_0.length : Int)) = true := decide_eq_true c11
      clear c11
      obtain ⟨ji12, hji12⟩ : ∃ j_ : Int, (wrap64 (s0_1 + 1)) = j_ := ⟨_, rfl⟩
      replace H : (if 0 ≤ (ji12) then (if a1 = 0 then (none) else (some (Int.tmod (wrap64 ((wrap64 ((wrap64 (rd s0_0 (ji7))) * 256)) + (wrap64 (rd s0_0 (ji12))))) a1, wrap64 ((ji12) + 1)))) else (none)) = some (r1, r2) := by first | (rw [hji12] at H; exact H) | (simp only [hji12] at H ⊢; exact H)
      (try rw [hji12] at c11b0)
      have hji12w : (IntKind.i64.wrap (s0_1 + 1)) = ji12 := (i64_w _).trans hji12
      (try (have hji7rji12 := hji7; rw [hji12] at hji7rji12))
      (try (have hji7vji12 := hji7w; rw [hji12] at hji7vji12))
      by_cases c13 : 0 ≤ (ji12)
      rotate_left
      ·
       rw [if_neg c13] at H
       exact absurd H (by simp)
      rw [if_pos c13] at H
      have c13b0 : decide (0 ≤ (ji12)) = true := decide_eq_true c13
      clear c13
      by_cases c14 : a1 = 0
      ·
       rw [if_pos c14] at H
       exact absurd H (by simp)
      rw [if_neg c14] at H
      have c14b0 : (a1 == 0) = false := beq_eq_false_iff_ne.mpr c14
      have c14b1 : (a1 != 0) = true := bne_iff_ne.mpr c14
      simp only [Option.some.injEq, Prod.mk.injEq] at H
      obtain ⟨rfl, rfl⟩ := H
      obtain ⟨ASz15_0, cSz15_0, HGz15, hgz15, HSz15_0⟩ := HI0.out
      have hcz15_0 := cellS48_0 HGz15
      have hcz15_1 := cellS48_1 HGz15
      have hfz15_1 := blk_frozen HGz15 1
      clear HGz15 hgz15
      have p201 : 0 ≤ ((ji7) : Int) := of_decide_eq_true (by first | (with_reducible assumption) | assumption)
      have q201 : (ji7) < (s0_0.length : Int) := of_decide_eq_true (by first | (with_reducible assumption) | assumption)
      obtain ⟨ad201, e201, hx201_0⟩ := Kd.at_int HSz15_0 (ji7) p201 q201
      cases e201
      have hn201_0 : ad201.block ≠ g := Nat.ne_of_lt (Nat.lt_of_lt_of_le (by have := World.block_lt_of_cell? _ _ hx201_0; first | rwa [add_block] at this | exact this) (IsS48.ge HI0.out))
      replace hx201_0 := pw_cell_below HB.out hx201_0
      replace hx201_0 := (cell_far (p := ⟨g, 1, none⟩) (by first | (rw [add_block]; exact hn201_0) | (show (Addr.add _ _).block ≠ _; rw [add_block]; exact hn201_0) | exact hn201_0) (.int .i64 ji12)).trans hx201_0
      (try have hy201_0 := fun (n_ : Nat) => (show (((wc.drewN n_).setCell ⟨g, 1, none⟩ (.int .i64 ji12))).cell? _ = some _ from hx201_0))
      clear hn201_0
      replace p201 := eq_true p201
      replace q201 := eq_true q201
      have p202 : 0 ≤ ((ji12) : Int) := of_decide_eq_true (by first | (with_reducible assumption) | assumption)
      have q202 : (ji12) < (s0_0.length : Int) := of_decide_eq_true (by first | (with_reducible assumption) | assumption)
      obtain ⟨ad202, e202, hx202_0⟩ := Kd.at_int HSz15_0 (ji12) p202 q202
      obtain rfl : ad201 = ad202 := (by injection e202)
      have hn202_0 : ad201.block ≠ g := Nat.ne_of_lt (Nat.lt_of_lt_of_le (by have := World.block_lt_of_cell? _ _ hx202_0; first | rwa [add_block] at this | exact this) (IsS48.ge HI0.out))
      replace hx202_0 := pw_cell_below HB.out hx202_0
      replace hx202_0 := (cell_far (p := ⟨g, 1, none⟩) (by first | (rw [add_block]; exact hn202_0) | (show (Addr.add _ _).block ≠ _; rw [add_block]; exact hn202_0) | exact hn202_0) (.int .i64 ji12)).trans hx202_0
      (try have hy202_0 := fun (n_ : Nat) => (show (((wc.drewN n_).setCell ⟨g, 1, none⟩ (.int .i64 ji12))).cell? _ = some _ from hx202_0))
      clear hn202_0
      replace p202 := eq_true p202
      replace q202 := eq_true q202
      go_wp2
      repeat (go_quiet (fail); try go_wp2)
      go_ret
      exact ⟨by first | rfl | (simp [errW_none, errW_some] <;> rfl) | (simp only [← hji7, ← hji12]; first | rfl | (simp [errW_none, errW_some] <;> rfl)) | (simp [*, errW_none, errW_some] <;> rfl), by repeat (first | (with_reducible first | exact HI0.out | apply IsS48.alloc | apply IsS48.drewN | apply IsS48.drew | apply IsS48.set_1) | exact HI0.out), by repeat (first | (with_reducible first | exact HB.out | apply below_alloc | apply pw_below_drewN | apply below_drew1 | refine below_set ?_ (IsS48.ge HI0.out)) | exact HB.out), by repeat (first | (with_reducible first | exact HK.out | apply KeepBut.set_ | apply keep_drewN | apply keep_drew | apply keep_alloc) | exact HK.out)⟩
     ·
      rw [if_neg c11] at H
      have c11b0 : decide ((wrap64 (s0_1 + 1)) < (s0_0.length : Int)) = false := decide_eq_false c11
      clear c11
      by_cases c16 : a1 = 0
      ·
       rw [if_pos c16] at H
       exact absurd H (by simp)
      rw [if_neg c16] at H
      have c16b0 : (a1 == 0) = false := beq_eq_false_iff_ne.mpr c16
      have c16b1 : (a1 != 0) = true := bne_iff_ne.mpr c16
      simp only [Option.some.injEq, Prod.mk.injEq] at H
      obtain ⟨rfl, rfl⟩ := H
      obtain ⟨ASz17_0, cSz17_0, HGz17, hgz17, HSz17_0⟩ := HI0.out
      have hcz17_0 := cellS48_0 HGz17
      have hcz17_1 := cellS48_1 HGz17
      have hfz17_1 := blk_frozen HGz17 1
      clear HGz17 hgz17
      have p201 : 0 ≤ ((ji7) : Int) := of_decide_eq_true (by first | (with_reducible assumption) | assumption)
      have q201 : (ji7) < (s0_0.length : Int) := of_decide_eq_true (by first | (with_reducible assumption) | assumption)
      obtain ⟨ad201, e201, hx201_0⟩ := Kd.at_int HSz17_0 (ji7) p201 q201
      cases e201
      have hn201_0 : ad201.block ≠ g := Nat.ne_of_lt (Nat.lt_of_lt_of_le (by have := World.block_lt_of_cell? _ _ hx201_0; first | rwa [add_block] at this | exact this) (IsS48.ge HI0.out))
      replace hx201_0 := pw_cell_below HB.out hx201_0
      replace hx201_0 := (cell_far (p := ⟨g, 1, none⟩) (by first | (rw [add_block]; exact hn201_0) | (show (Addr.add _ _).block ≠ _; rw [add_block]; exact hn201_0) | exact hn201_0) (.int .i64 (wrap64 (s0_1 + 1)))).trans hx201_0
      (try have hy201_0 := fun (n_ : Nat) => (show (((wc.drewN n_).setCell ⟨g, 1, none⟩ (.int .i64 (wrap64 (s0_1 + 1))))).cell? _ = some _ from hx201_0))
      clear hn201_0
      replace p201 := eq_true p201
      replace q201 := eq_true q201
      go_wp2
      repeat (go_quiet (fail); try go_wp2)
      go_ret
      exact ⟨by first | rfl | (simp [errW_none, errW_some] <;> rfl) | (simp only [← hji7]; first | rfl | (simp [errW_none, errW_some] <;> rfl)) | (simp [*, errW_none, errW_some] <;> rfl), by repeat (first | (with_reducible first | exact HI0.out | apply IsS48.alloc | apply IsS48.drewN | apply IsS48.drew | apply IsS48.set_1) | exact HI0.out), by repeat (first | (with_reducible first | exact HB.out | apply below_alloc | apply pw_below_drewN | apply below_drew1 | refine below_set ?_ (IsS48.ge HI0.out)) | exact HB.out), by repeat (first | (with_reducible first | exact HK.out | apply KeepBut.set_ | apply keep_drewN | apply keep_drew | apply keep_alloc) | exact HK.out)⟩
    ·
     rw [if_neg c10] at H
     have c10b0 : decide (256 < a1) = false := decide_eq_false c10
     clear c10
     by_cases c18 : a1 = 0
     ·
      rw [if_pos c18] at H
      exact absurd H (by simp)
     rw [if_neg c18] at H
     have c18b0 : (a1 == 0) = false := beq_eq_false_iff_ne.mpr c18
     have c18b1 : (a1 != 0) = true := bne_iff_ne.mpr c18
     simp only [Option.some.injEq, Prod.mk.injEq] at H
     obtain ⟨rfl, rfl⟩ := H
     obtain ⟨ASz19_0, cSz19_0, HGz19, hgz19, HSz19_0⟩ := HI0.out
     have hcz19_0 := cellS48_0 HGz19
     have hcz19_1 := cellS48_1 HGz19
     have hfz19_1 := blk_frozen HGz19 1
     clear HGz19 hgz19
     have p201 : 0 ≤ ((ji7) : Int) := of_decide_eq_true (by first | (with_reducible assumption) | assumption)
     have q201 : (ji7) < (s0_0.length : Int) := of_decide_eq_true (by first | (with_reducible assumption) | assumption)
     obtain ⟨ad201, e201, hx201_0⟩ := Kd.at_int HSz19_0 (ji7) p201 q201
     cases e201
     have hn201_0 : ad201.block ≠ g := Nat.ne_of_lt (Nat.lt_of_lt_of_le (by have := World.block_lt_of_cell? _ _ hx201_0; first | rwa [add_block] at this | exact this) (IsS48.ge HI0.out))
     replace hx201_0 := pw_cell_below HB.out hx201_0
     replace hx201_0 := (cell_far (p := ⟨g, 1, none⟩) (by first | (rw [add_block]; exact hn201_0) | (show (Addr.add _ _).block ≠ _; rw [add_block]; exact hn201_0) | exact hn201_0) (.int .i64 (wrap64 (s0_1 + 1)))).trans hx201_0
     (try have hy201_0 := fun (n_ : Nat) => (show (((wc.drewN n_).setCell ⟨g, 1, none⟩ (.int .i64 (wrap64 (s0_1 + 1))))).cell? _ = some _ from hx201_0))
     clear hn201_0
     replace p201 := eq_true p201
     replace q201 := eq_true q201
     go_wp2
     repeat (go_quiet (fail); try go_wp2)
     go_ret
     exact ⟨by first | rfl | (simp [errW_none, errW_some] <;> rfl) | (simp only [← hji7]; first | rfl | (simp [errW_none, errW_some] <;> rfl)) | (simp [*, errW_none, errW_some] <;> rfl), by repeat (first | (with_reducible first | exact HI0.out | apply IsS48.alloc | apply IsS48.drewN | apply IsS48.drew | apply IsS48.set_1) | exact HI0.out), by repeat (first | (with_reducible first | exact HB.out | apply below_alloc | apply pw_below_drewN | apply below_drew1 | refine below_set ?_ (IsS48.ge HI0.out)) | exact HB.out), by repeat (first | (with_reducible first | exact HK.out | apply KeepBut.set_ | apply keep_drewN | apply keep_drew | apply keep_alloc) | exact HK.out)⟩

end Go.Proofs.Ytacogcnckhgjbaa.PTer
