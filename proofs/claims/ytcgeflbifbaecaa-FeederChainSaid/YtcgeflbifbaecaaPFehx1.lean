/- Functions of the given program as Lean functions, and proofs that its calls come to what these say. Written by a program of this seat (wip/mkprint.py); Lean checks it all. -/
import Derived.Test.YtcgeflbifbaecaaPFehx0
namespace Go.Proofs.Ytcgeflbifbaecaa.PFeh
open Go.RowKit Go.Proofs.YtcgeflbifbaecaaW.PrintWords Go.Proofs.YtcgeflbifbaecaaW.PrintLast Go.Proofs.YtcgeflbifbaecaaW.PrintMore
attribute [local go_sem] max2_int min2_int max_two min_two max_three min_three max_four min_four   -- for this text's walks alone
set_option linter.unusedVariables false
set_option linter.unusedSimpArgs false

/-- A state of type 61 at block g of W; what its slices lead to came in by w0. -/
def IsS61 (w0 W : World) (g : Nat) (f0 : List Int) (f1 : Int) : Prop := ∃ A0 c0, W.heap[g]? = some (.cells #[.slice A0 f0.length c0, .int .i64 f1] 61 (0, 0)) ∧ w0.heap.size ≤ g ∧ Kd.C (Kd.int .u8) w0 A0 f0.length f0
theorem IsS61.grown {w0 W : World} {g : Nat} {f0 : List Int} {f1 : Int} {W1 : World} {row : Option Nat} (h : IsS61 w0 W g f0 f1) (hw : W.grownBy W1 row) (hne : some g ≠ row) : IsS61 w0 W1 g f0 f1 := by
 obtain ⟨A0, c0, hb, hg, hr0⟩ := h
 exact ⟨A0, c0, blk_grown hb hw hne, hg, hr0⟩
theorem IsS61.own_neN {w0 W : World} {g : Nat} {f0 : List Int} {f1 : Int} {α : Type} {d : Kd α} {e : Nat} {base : Nat} {ok : Nat → Prop} {v : Value} {xs : List α} (h : IsS61 w0 W g f0 f1) (ho : Kd.N d e W base ok v xs) (ht : e ≠ 61) : some g ≠ v.ownBlock := by
 obtain ⟨A0, c0, hb, hg, hr0⟩ := h
 exact Kd.N_ne ho hb ht
theorem IsS61.fresh {w0 W : World} {g : Nat} {f0 : List Int} {f1 : Int} (h : IsS61 w0 W g f0 f1) : ∀ k, W.heap.size ≤ k → k ≠ g := by
 obtain ⟨A0, c0, hb, hg, hr0⟩ := h
 exact Kd.freshB hb
theorem IsS61.kept {w0 W : World} {g : Nat} {f0 : List Int} {f1 : Int} {W1 : World} {S : Nat → Prop} (h : IsS61 w0 W g f0 f1) (hk : Kept W W1 S) (hne : ¬ S g) : IsS61 w0 W1 g f0 f1 := by
 obtain ⟨A0, c0, hb, hg, hr0⟩ := h
 exact ⟨A0, c0, blk_kept hb hk hne, hg, hr0⟩
theorem IsS61.below {w0 W : World} {g : Nat} {f0 : List Int} {f1 : Int} {W1 : World} (h : IsS61 w0 W g f0 f1) (hw : Below W.heap.size W W1) : IsS61 w0 W1 g f0 f1 := h.grown (grown_of_below hw none) (by simp)
theorem IsS61.alloc {w0 W : World} {g : Nat} {f0 : List Int} {f1 : Int} (h : IsS61 w0 W g f0 f1) (o : Obj) : IsS61 w0 (W.alloc o) g f0 f1 := h.below (below_alloc (Below.refl _ _) o)
theorem IsS61.drewN {w0 W : World} {g : Nat} {f0 : List Int} {f1 : Int} (h : IsS61 w0 W g f0 f1) (m : Nat) : IsS61 w0 (W.drewN m) g f0 f1 := h
theorem IsS61.drew {w0 W : World} {g : Nat} {f0 : List Int} {f1 : Int} (h : IsS61 w0 W g f0 f1) : IsS61 w0 W.drew g f0 f1 := h
theorem IsS61.at_ {w0 W : World} {g : Nat} {f0 : List Int} {f1 : Int} {w' : World} {m : Nat} (hq : W.drewN m = w') (h : IsS61 w0 W g f0 f1) : IsS61 w0 w' g f0 f1 := by subst hq; exact IsS61.drewN h m
theorem IsS61.apart {w0 W : World} {g : Nat} {f0 : List Int} {f1 : Int} {α : Type} {d : Kd α} {e : Nat} {base : Nat} {ok : Nat → Prop} {v : Value} {xs : List α} (h : IsS61 w0 W g f0 f1) (ho : d.R e W base ok v xs) (ht : ∀ q, q ∈ e :: d.E → q ≠ 61) : d.R e W base (fun k => ok k ∧ k ≠ g) v xs := by
 obtain ⟨A0, c0, hb, hg, hr0⟩ := h
 exact Kd.R_types ho hb ht
theorem IsS61.own_ne {w0 W : World} {g : Nat} {f0 : List Int} {f1 : Int} {α : Type} {d : Kd α} {e : Nat} {base : Nat} {ok : Nat → Prop} {v : Value} {xs : List α} (h : IsS61 w0 W g f0 f1) (ho : d.R e W base ok v xs) (ht : e ≠ 61) : some g ≠ v.ownBlock := by
 obtain ⟨A0, c0, hb, hg, hr0⟩ := h
 exact Kd.R_ne ho hb ht
theorem IsS61.apartQ {w0 W : World} {g : Nat} {f0 : List Int} {f1 : Int} {α : Type} {d : Kd α} {e : Nat} {base : Nat} {ok : Nat → Prop} {v : Value} {xs : List α} (h : IsS61 w0 W g f0 f1) (ho : d.Q e W base ok v xs) (ht : ∀ q, q ∈ e :: d.E → q ≠ 61) : d.Q e W base (fun k => ok k ∧ k ≠ g) v xs := by
 obtain ⟨A0, c0, hb, hg, hr0⟩ := h
 exact Kd.Q_types ho hb ht
theorem IsS61.own_neQ {w0 W : World} {g : Nat} {f0 : List Int} {f1 : Int} {α : Type} {d : Kd α} {e : Nat} {base : Nat} {ok : Nat → Prop} {v : Value} {xs : List α} (h : IsS61 w0 W g f0 f1) (ho : d.Q e W base ok v xs) (ht : e ≠ 61) : some g ≠ v.ownBlock := by
 obtain ⟨A0, c0, hb, hg, hr0⟩ := h
 exact Kd.Q_ne ho hb ht
theorem IsS61.apartS {w0 W : World} {g : Nat} {f0 : List Int} {f1 : Int} {α : Type} {d : Kd α} {e : Nat} {base : Nat} {ok : Nat → Prop} {v : Value} {xs : List α} (h : IsS61 w0 W g f0 f1) (ho : d.S e W base ok v xs) (ht : ∀ q, q ∈ e :: d.E → q ≠ 61) : d.S e W base (fun k => ok k ∧ k ≠ g) v xs := by
 obtain ⟨A0, c0, hb, hg, hr0⟩ := h
 exact Kd.S_types ho hb ht
theorem IsS61.own_neS {w0 W : World} {g : Nat} {f0 : List Int} {f1 : Int} {α : Type} {d : Kd α} {e : Nat} {base : Nat} {ok : Nat → Prop} {v : Value} {xs : List α} (h : IsS61 w0 W g f0 f1) (ho : d.S e W base ok v xs) (ht : e ≠ 61) : some g ≠ v.ownBlock := by
 obtain ⟨A0, c0, hb, hg, hr0⟩ := h
 exact Kd.S_ne ho hb ht
theorem IsS61.lt {w0 W : World} {g : Nat} {f0 : List Int} {f1 : Int} (h : IsS61 w0 W g f0 f1) : g < W.heap.size := by
 obtain ⟨A0, c0, hb, hg, hr0⟩ := h
 exact blk_lt hb
theorem IsS61.ge {w0 W : World} {g : Nat} {f0 : List Int} {f1 : Int} (h : IsS61 w0 W g f0 f1) : w0.heap.size ≤ g := by
 obtain ⟨A0, c0, hb, hg, hr0⟩ := h
 exact hg
theorem IsS61.ne_blk {w0 W : World} {g : Nat} {f0 : List Int} {f1 : Int} {a : Nat} {cs : Array Value} {t : TypeId} {fr : Nat × Nat} (h : IsS61 w0 W g f0 f1) (hb2 : W.heap[a]? = some (.cells cs t fr)) (ht : t ≠ 61) : g ≠ a := by
 obtain ⟨A0, c0, hb, hg, hr0⟩ := h
 rintro rfl
 rw [hb] at hb2
 injection hb2 with hb2
 injection hb2 with _ ht2
 exact ht ht2.symm
theorem IsS61.far {w0 W : World} {g : Nat} {f0 : List Int} {f1 : Int} {p : Addr} (h : IsS61 w0 W g f0 f1) (hne : g ≠ p.block) (u : Value) : IsS61 w0 (W.setCell p u) g f0 f1 := by
 obtain ⟨A0, c0, hb, hg, hr0⟩ := h
 exact ⟨A0, c0, blk_far hb hne u, hg, hr0⟩
theorem cellS61_0 {W : World} {g : Nat} {A0 : Option Addr} {c0 : Nat} {f0 : List Int} {f1 : Int} (h : W.heap[g]? = some (.cells #[.slice A0 f0.length c0, .int .i64 f1] 61 (0, 0))) : W.cell? ⟨g, 0, none⟩ = some (.slice A0 f0.length c0) := (blk_cell h 0).trans rfl
theorem cellS61_1 {W : World} {g : Nat} {A0 : Option Addr} {c0 : Nat} {f0 : List Int} {f1 : Int} (h : W.heap[g]? = some (.cells #[.slice A0 f0.length c0, .int .i64 f1] 61 (0, 0))) : W.cell? ⟨g, 1, none⟩ = some (.int .i64 f1) := (blk_cell h 1).trans rfl
theorem IsS61.set_1 {w0 W : World} {g : Nat} {f0 : List Int} {f1 : Int} (h : IsS61 w0 W g f0 f1) (x : Int) : IsS61 w0 (W.setCell ⟨g, 1, none⟩ (.int .i64 x)) g f0 x := by
 obtain ⟨A0, c0, hb, hg, hr0⟩ := h
 exact ⟨A0, c0, by simpa using blk_set hb 1 (.int .i64 x), hg, hr0⟩
theorem IsS61.new (w0 W : World) (A0 : Option Addr) (c0 : Nat) (f0 : List Int) (f1 : Int) (hB : Below w0.heap.size w0 W) (hr0 : Kd.C (Kd.int .u8) w0 A0 f0.length f0) : IsS61 w0 (W.alloc (.cells #[.slice A0 f0.length c0, .int .i64 f1] 61)) W.heap.size f0 f1 := ⟨A0, c0, by simpa using heap_alloc_new W _, hB.size, hr0⟩

/-! ### minecontroldraw_New: function 9 -/
def minecontroldraw_New.f (l0 : List Int) : Option (List Int × Int) := if 0 ≤ (mn (l0.length : Int) 300) then (if (mn (l0.length : Int) 300) ≤ (l0.length : Int) then (some (l0.take ((mn (l0.length : Int) 300) : Int).toNat, 0)) else (none)) else (none)
set_option maxHeartbeats 8000000 in
set_option maxRecDepth 100000 in
theorem minecontroldraw_New.calls (A0 : Option Addr) (c0 : Nat) (l0 : List Int) (r1 : List Int) (r2 : Int) (w0 w : World) (hB : Below w0.heap.size w0 w) (hr0 : Kd.C (Kd.int .u8) w0 A0 l0.length l0) (hc0 : l0.length ≤ c0) (h : minecontroldraw_New.f l0 = some (r1, r2)) :
  Calls Try.prog 9 #[.slice A0 l0.length c0] w fun e w' => ∃ g_ : Nat, e = .returned (.pointer (some ⟨g_, 0, none⟩)) ∧ IsS61 w0 w' g_ r1 r2 ∧ Below w0.heap.size w0 w' ∧ Below w.heap.size w w' ∧ w.heap.size ≤ g_ := by
 have hu61 := Try.underlying61
 have HR0 := aM hr0
 have HC0 := aM hc0
 clear hr0 hc0
 have HBW := aM (Below.refl w.heap.size w)
 have HW0 := aM hB.size
 have HB := aM hB
 clear hB
 have H : (if 0 ≤ (mn (l0.length : Int) 300) then (if (mn (l0.length : Int) 300) ≤ (l0.length : Int) then (some (l0.take ((mn (l0.length : Int) 300) : Int).toNat, 0)) else (none)) else (none)) = some (r1, r2) := h
 clear h
 obtain ⟨ji2, hji2⟩ : ∃ j_ : Int, (mn (l0.length : Int) 300) = j_ := ⟨_, rfl⟩
 replace H : (if 0 ≤ (ji2) then (if (ji2) ≤ (l0.length : Int) then (some (l0.take ((ji2) : Int).toNat, 0)) else (none)) else (none)) = some (r1, r2) := by first | (rw [hji2] at H; exact H) | (simp only [hji2] at H ⊢; exact H)
 (try (have hji2h : ji2 ≤ 300 := by (rw [← hji2]; unfold mn; (repeat' split) <;> omega)))
 (try (have hji2g : ji2 ≤ 64 := by omega))
 (try (have hji2l : 0 ≤ ji2 := by (rw [← hji2]; unfold mn; (repeat' split) <;> omega)))
 (try (have hji2m : 0 ≤ ji2 := by omega))
 have hji2_ : (if 300 < (l0.length : Int) then 300 else (l0.length : Int)) = ji2 := hji2
 by_cases c3 : 0 ≤ (ji2)
 rotate_left
 ·
  rw [if_neg c3] at H
  exact absurd H (by simp)
 rw [if_pos c3] at H
 have c3b0 := eq_true c3
 have c3b1 : decide (0 ≤ (ji2)) = true := decide_eq_true c3
 clear c3
 by_cases c4 : (ji2) ≤ (l0.length : Int)
 rotate_left
 ·
  rw [if_neg c4] at H
  exact absurd H (by simp)
 rw [if_pos c4] at H
 have c4b0 := eq_true c4
 have c4b1 : decide ((ji2) ≤ (l0.length : Int)) = true := decide_eq_true c4
 clear c4
 simp only [Option.some.injEq, Prod.mk.injEq] at H
 obtain ⟨rfl, rfl⟩ := H
 obtain ⟨i05, hi05, _, hsz5, _⟩ := info_parts info5
 obtain ⟨hcut5, hA5, hC5⟩ := print_take_of (P := Try.prog) (Value.int .u8) 0 22 5 .i64 Try.underlying22 hi05 hsz5 A0 c0 l0 (ji2) (of_decide_eq_true (by first | (with_reducible assumption) | assumption)) (of_decide_eq_true (by first | (with_reducible assumption) | assumption)) HC0.out
 have HR101 := aM (Kd.C_of_reads (h1 := fun _ => rfl) (hA5 _ (Kd.reads_of_C HR0.out)))
 have HC101 := aM hC5
 clear hA5 hC5 hi05 hsz5
 go_enter Try.func9, Try.ntmps9
 go_wp2_with (first | ((with_reducible refine gate_dst (N := 9) rfl ?_); refine box_event ?hg (N := 9) ?hd (cs := #[.slice A0 (l0.take ((ji2) : Int).toNat).length c0, .int .i64 0]) (t := 61) ?hr ?_; (case hd => rfl); (case hg => rfl); (case hr => first | (go_simp; done) | (go_simp; rfl)); intro gb102 hg w6 hbox hb; replace HB := aM (below_step (below_mv HB.out) hb); have BK102 := aM (hbox); have GW102 := aM ((by rw [hg]; exact (below_size (by repeat (first | (with_reducible first | exact HBW.out | apply bA | apply bN | apply bD) | exact HBW.out))) : w.heap.size ≤ gb102)); have GE102 := aM ((Nat.le_trans HW0.out (by rw [hg]; exact (below_size (by repeat (first | (with_reducible first | exact HBW.out | apply bA | apply bN | apply bD) | exact HBW.out))) : w.heap.size ≤ gb102) : w0.heap.size ≤ gb102)); replace HBW := aM (below_step HBW.out hb); clear hb hbox hg))
 go_ret
 exact ⟨_, rfl, (show IsS61 w0 _ gb102 (l0.take ((ji2) : Int).toNat) 0 from ⟨_, _, by (with_reducible repeat (first | refine kN ?_ _ | refine kD ?_ | refine kA ?_ _)); exact BK102.out, GE102.out, HR101.out⟩), by repeat (first | (with_reducible first | exact HB.out | apply bA | apply bN | apply bD | refine below_set ?_ GE102.out) | exact HB.out), by repeat (first | (with_reducible first | exact HBW.out | apply bA | apply bN | apply bD | refine below_set ?_ GW102.out) | exact HBW.out), GW102.out⟩

/-! ### minecontroldraw_Codes_Next: function 11 -/
def minecontroldraw_Codes_Next.j0 : Nat → Int → Bool → List Int → Int → Option (Int × Int)
 | 0, _, _, _, _ => none
 | k + 1, x1, x19, x1000, x1001 => if x19 = true then (some (0, x1001)) else (if 0 ≤ (wrap64 ((wrap64 (x1001 + 1)) - 1)) then (if (wrap64 ((wrap64 (x1001 + 1)) - 1)) < (x1000.length : Int) then (if x1 > 256 then (if (wrap64 (x1001 + 1)) < (x1000.length : Int) then (if 0 ≤ (wrap64 (x1001 + 1)) then (if x1 = 0 then (none) else (some (Int.tmod (wrap64 ((wrap64 ((wrap64 (rd x1000 (wrap64 ((wrap64 (x1001 + 1)) - 1)))) * 256)) + (wrap64 (rd x1000 (wrap64 (x1001 + 1)))))) x1, wrap64 ((wrap64 (x1001 + 1)) + 1)))) else (none)) else (if x1 = 0 then (none) else (some (Int.tmod (wrap64 (rd x1000 (wrap64 ((wrap64 (x1001 + 1)) - 1)))) x1, wrap64 (x1001 + 1))))) else (if x1 = 0 then (none) else (some (Int.tmod (wrap64 (rd x1000 (wrap64 ((wrap64 (x1001 + 1)) - 1)))) x1, wrap64 (x1001 + 1))))) else (none)) else (none))
def minecontroldraw_Codes_Next.f (k : Nat) (s0_0 : List Int) (s0_1 : Int) (a1 : Int) : Option (Int × Int) := if a1 < 1 then (minecontroldraw_Codes_Next.j0 k a1 true s0_0 s0_1) else (minecontroldraw_Codes_Next.j0 k a1 (decide (s0_1 ≥ (s0_0.length : Int))) s0_0 s0_1)
theorem minecontroldraw_Codes_Next.mono_l : ∀ k, (∀ y0 y1 y2 y3, LeO (minecontroldraw_Codes_Next.j0 k y0 y1 y2 y3) (minecontroldraw_Codes_Next.j0 (k + 1) y0 y1 y2 y3))
 | 0 => fun _ _ _ _ r h => by simp [minecontroldraw_Codes_Next.j0] at h
 | k + 1 => by
  have ih0 := minecontroldraw_Codes_Next.mono_l k
  intro y0 y1 y2 y3
  unfold minecontroldraw_Codes_Next.j0
  repeat' first
  | (with_reducible exact ih0 _ _ _ _)
  | (with_reducible exact LeO.refl _)
  | (with_reducible exact LeO.none _)
  | (with_reducible refine LeO.ite ?_ ?_)
  | (with_reducible refine LeO.bind ?_ (fun _ => ?_))
  | exact ih0 _ _ _ _
  | exact LeO.none _
  | refine LeO.ite ?_ ?_
  | refine LeO.bind ?_ (fun _ => ?_)
theorem minecontroldraw_Codes_Next.mono : ∀ a0 a1 a2 k, LeO (minecontroldraw_Codes_Next.f k a0 a1 a2) (minecontroldraw_Codes_Next.f (k + 1) a0 a1 a2) := by
 intro a0 a1 a2 k
 have ih0 := minecontroldraw_Codes_Next.mono_l k
 unfold minecontroldraw_Codes_Next.f
 repeat' first
   | (with_reducible exact ih0 _ _ _ _)
   | (with_reducible exact LeO.refl _)
   | (with_reducible exact LeO.none _)
   | (with_reducible refine LeO.ite ?_ ?_)
   | (with_reducible refine LeO.bind ?_ (fun _ => ?_))
   | exact ih0 _ _ _ _
   | exact LeO.none _
   | refine LeO.ite ?_ ?_
   | refine LeO.bind ?_ (fun _ => ?_)
set_option maxHeartbeats 8000000 in
set_option maxRecDepth 100000 in
theorem minecontroldraw_Codes_Next.calls (k : Nat) (g : Nat) (s0_0 : List Int) (s0_1 : Int) (a1 : Int) (r1 : Int) (r2 : Int) (w0 w : World) (hI : IsS61 w0 w g s0_0 s0_1) (hB : Below w0.heap.size w0 w) (h : minecontroldraw_Codes_Next.f k s0_0 s0_1 a1 = some (r1, r2)) :
  Calls Try.prog 11 #[.pointer (some ⟨g, 0, none⟩), .int .i64 a1] w fun e w' => e = .returned (.int .i64 r1) ∧ IsS61 w0 w' g s0_0 r2 ∧ Below w0.heap.size w0 w' ∧ KeepBut w w' g none := by
 have HI0 := aM hI
 have HK := aM (KeepBut.refl w g none)
 have HL := aM hB.size
 clear hI
 have HW0 := aM hB.size
 have HB := aM hB
 clear hB
 have H : (if a1 < 1 then (minecontroldraw_Codes_Next.j0 k a1 true s0_0 s0_1) else (minecontroldraw_Codes_Next.j0 k a1 (decide (s0_1 ≥ (s0_0.length : Int))) s0_0 s0_1)) = some (r1, r2) := h
 clear h
 have HC3 := aM H
 clear H
 go_enter Try.func11, Try.ntmps11
 go_upto_region 1 with (fail)
 repeat (go_quiet (fail); go_upto_region 1 with (fail))
 go_cut [19] (fun v19 wc => ∃ (kq : Nat) (x19_2 : Bool), v19 = .bool x19_2 ∧ Aside0 (minecontroldraw_Codes_Next.j0 kq a1 x19_2 s0_0 s0_1 = some (r1, r2)) ∧ Aside0 (kq ≤ k) ∧ Aside0 (IsS61 w0 wc g s0_0 s0_1) ∧ Aside0 (KeepBut w wc g none) ∧ Aside0 (Below w0.heap.size w0 wc))
 case first =>
  have H := HC3.out
  clear HC3
  by_cases c4 : a1 < 1
  ·
   rw [if_pos c4] at H
   have c4b0 : decide (a1 < 1) = true := decide_eq_true c4
   clear c4
   (first | rw [c4b0] | (simp only [i64_w, i32_w]; rw [c4b0]) | skip)
   have H' := aM H
   clear H
   go_wp2
   repeat (go_quiet (fail); try go_wp2)
   go_meet
   case rel => exact ⟨_, (true), (by first | rfl | (simp; done) | (simp [*]; done)), H', ⟨by first | omega | exact Nat.le_refl _⟩, ⟨by repeat (first | (with_reducible first | exact HI0.out | apply IsS61.alloc | apply IsS61.drewN | apply IsS61.drew | apply IsS61.set_1) | exact HI0.out)⟩, ⟨by repeat (first | (with_reducible first | exact HK.out | apply KeepBut.set_ | apply keep_drewN | apply keep_drew | apply keep_alloc) | exact HK.out)⟩, ⟨by repeat (first | (with_reducible first | exact HB.out | apply bA | apply bN | apply bD | refine below_set ?_ (IsS61.ge HI0.out)) | exact HB.out)⟩⟩
  rw [if_neg c4] at H
  have c4b0 : decide (a1 < 1) = false := decide_eq_false c4
  clear c4
  (first | rw [c4b0] | (simp only [i64_w, i32_w]; rw [c4b0]) | skip)
  have H' := aM H
  clear H
  obtain ⟨ASz5_0, cSz5_0, HGz5, hgz5, HSz5_0⟩ := HI0.out
  have hcz5_0 := cellS61_0 HGz5
  have hcz5_1 := cellS61_1 HGz5
  have hfz5_1 := blk_frozen HGz5 1
  clear HGz5 hgz5
  go_wp2
  repeat (go_quiet (fail); try go_wp2)
  go_meet
  case rel => exact ⟨_, (decide (s0_1 ≥ (s0_0.length : Int))), (by first | rfl | (simp; done) | (simp [*]; done)), H', ⟨by first | omega | exact Nat.le_refl _⟩, ⟨by repeat (first | (with_reducible first | exact HI0.out | apply IsS61.alloc | apply IsS61.drewN | apply IsS61.drew | apply IsS61.set_1) | exact HI0.out)⟩, ⟨by repeat (first | (with_reducible first | exact HK.out | apply KeepBut.set_ | apply keep_drewN | apply keep_drew | apply keep_alloc) | exact HK.out)⟩, ⟨by repeat (first | (with_reducible first | exact HB.out | apply bA | apply bN | apply bD | refine below_set ?_ (IsS61.ge HI0.out)) | exact HB.out)⟩⟩
 case rest =>
  clear HC3
  obtain ⟨kq, x19_2, rfl, HA, HJ2, HI0, HK, HB⟩ := hcut
  cases kq with
  | zero => exact absurd HA.out (by simp [minecontroldraw_Codes_Next.j0])
  | succ kj2 =>
   have H := HA.out
   clear HA
   simp only [minecontroldraw_Codes_Next.j0] at H
   by_cases c6 : x19_2 = true
   ·
    subst c6
    have H1 : (some (0, s0_1)) = some (r1, r2) := by rw [if_pos rfl] at H; exact H
    clear H
    have H := H1
    clear H1
    simp only [Option.some.injEq, Prod.mk.injEq] at H
    obtain ⟨rfl, rfl⟩ := H
    go_wp2
    repeat (go_quiet (fail); try go_wp2)
    go_ret
    exact ⟨by first | rfl | (simp [errW_none, errW_some] <;> rfl) | (simp [*, errW_none, errW_some] <;> rfl), by repeat (first | (with_reducible first | exact HI0.out | apply IsS61.alloc | apply IsS61.drewN | apply IsS61.drew | apply IsS61.set_1) | exact HI0.out), by repeat (first | (with_reducible first | exact HB.out | apply bA | apply bN | apply bD | refine below_set ?_ (IsS61.ge HI0.out)) | exact HB.out), by repeat (first | (with_reducible first | exact HK.out | apply KeepBut.set_ | apply keep_drewN | apply keep_drew | apply keep_alloc) | exact HK.out)⟩
   replace c6 := Bool.eq_false_iff.mpr c6
   subst c6
   have H1 : (if 0 ≤ (wrap64 ((wrap64 (s0_1 + 1)) - 1)) then (if (wrap64 ((wrap64 (s0_1 + 1)) - 1)) < (s0_0.length : Int) then (if a1 > 256 then (if (wrap64 (s0_1 + 1)) < (s0_0.length : Int) then (if 0 ≤ (wrap64 (s0_1 + 1)) then (if a1 = 0 then (none) else (some (Int.tmod (wrap64 ((wrap64 ((wrap64 (rd s0_0 (wrap64 ((wrap64 (s0_1 + 1)) - 1)))) * 256)) + (wrap64 (rd s0_0 (wrap64 (s0_1 + 1)))))) a1, wrap64 ((wrap64 (s0_1 + 1)) + 1)))) else (none)) else (if a1 = 0 then (none) else (some (Int.tmod (wrap64 (rd s0_0 (wrap64 ((wrap64 (s0_1 + 1)) - 1)))) a1, wrap64 (s0_1 + 1))))) else (if a1 = 0 then (none) else (some (Int.tmod (wrap64 (rd s0_0 (wrap64 ((wrap64 (s0_1 + 1)) - 1)))) a1, wrap64 (s0_1 + 1))))) else (none)) else (none)) = some (r1, r2) := by rw [if_neg (show ¬ (false = true) by decide)] at H; exact H
   clear H
   have H := H1
   clear H1
   obtain ⟨ji7, hji7⟩ : ∃ j_ : Int, (wrap64 ((wrap64 (s0_1 + 1)) - 1)) = j_ := ⟨_, rfl⟩
   replace H : (if 0 ≤ (ji7) then (if (ji7) < (s0_0.length : Int) then (if a1 > 256 then (if (wrap64 (s0_1 + 1)) < (s0_0.length : Int) then (if 0 ≤ (wrap64 (s0_1 + 1)) then (if a1 = 0 then (none) else (some (Int.tmod (wrap64 ((wrap64 ((wrap64 (rd s0_0 (ji7))) * 256)) + (wrap64 (rd s0_0 (wrap64 (s0_1 + 1)))))) a1, wrap64 ((wrap64 (s0_1 + 1)) + 1)))) else (none)) else (if a1 = 0 then (none) else (some (Int.tmod (wrap64 (rd s0_0 (ji7))) a1, wrap64 (s0_1 + 1))))) else (if a1 = 0 then (none) else (some (Int.tmod (wrap64 (rd s0_0 (ji7))) a1, wrap64 (s0_1 + 1))))) else (none)) else (none)) = some (r1, r2) := by first | (rw [hji7] at H; exact H) | (simp only [hji7] at H ⊢; exact H)
   have hji7w : (IntKind.i64.wrap ((wrap64 (s0_1 + 1)) - 1)) = ji7 := (i64_w _).trans hji7
   by_cases c8 : 0 ≤ (ji7)
   rotate_left
   ·
    rw [if_neg c8] at H
    exact absurd H (by simp)
   rw [if_pos c8] at H
   have c8b0 : decide (0 ≤ (ji7)) = true := decide_eq_true c8
   clear c8
   by_cases c9 : (ji7) < (s0_0.length : Int)
   rotate_left
   ·
    rw [if_neg c9] at H
    exact absurd H (by simp)
   rw [if_pos c9] at H
   have c9b0 : decide ((ji7) < (s0_0.length : Int)) = true := decide_eq_true c9
   clear c9
   by_cases c10 : a1 > 256
   ·
    rw [if_pos c10] at H
    have c10b0 : decide (256 < a1) = true := decide_eq_true c10
    clear c10
    by_cases c11 : (wrap64 (s0_1 + 1)) < (s0_0.length : Int)
    ·
     rw [if_pos c11] at H
     have c11b0 : decide ((wrap64 (s0_1 + 1)) < (s0_0.length : Int)) = true := decide_eq_true c11
     clear c11
     obtain ⟨ji12, hji12⟩ : ∃ j_ : Int, (wrap64 (s0_1 + 1)) = j_ := ⟨_, rfl⟩
     replace H : (if 0 ≤ (ji12) then (if a1 = 0 then (none) else (some (Int.tmod (wrap64 ((wrap64 ((wrap64 (rd s0_0 (ji7))) * 256)) + (wrap64 (rd s0_0 (ji12))))) a1, wrap64 ((ji12) + 1)))) else (none)) = some (r1, r2) := by first | (rw [hji12] at H; exact H) | (simp only [hji12] at H ⊢; exact H)
     (try rw [hji12] at c11b0)
     have hji12w : (IntKind.i64.wrap (s0_1 + 1)) = ji12 := (i64_w _).trans hji12
     (try (have hji7rji12 := hji7; rw [hji12] at hji7rji12))
     (try (have hji7vji12 := hji7w; rw [hji12] at hji7vji12))
     by_cases c13 : 0 ≤ (ji12)
     rotate_left
     ·
      rw [if_neg c13] at H
      exact absurd H (by simp)
     rw [if_pos c13] at H
     have c13b0 : decide (0 ≤ (ji12)) = true := decide_eq_true c13
     clear c13
     by_cases c14 : a1 = 0
     ·
      rw [if_pos c14] at H
      exact absurd H (by simp)
     rw [if_neg c14] at H
     have c14b0 : (a1 == 0) = false := beq_eq_false_iff_ne.mpr c14
     have c14b1 : (a1 != 0) = true := bne_iff_ne.mpr c14
     simp only [Option.some.injEq, Prod.mk.injEq] at H
     obtain ⟨rfl, rfl⟩ := H
     obtain ⟨ASz15_0, cSz15_0, HGz15, hgz15, HSz15_0⟩ := HI0.out
     have hcz15_0 := cellS61_0 HGz15
     have hcz15_1 := cellS61_1 HGz15
     have hfz15_1 := blk_frozen HGz15 1
     clear HGz15 hgz15
     have p103 : 0 ≤ ((ji7) : Int) := of_decide_eq_true (by first | (with_reducible assumption) | assumption)
     have q103 : (ji7) < (s0_0.length : Int) := of_decide_eq_true (by first | (with_reducible assumption) | assumption)
     obtain ⟨ad103, e103, hx103_0⟩ := Kd.at_int HSz15_0 (ji7) p103 q103
     cases e103
     have hn103_0 : ad103.block ≠ g := Nat.ne_of_lt (Nat.lt_of_lt_of_le (by have := World.block_lt_of_cell? _ _ hx103_0; first | rwa [add_block] at this | exact this) (IsS61.ge HI0.out))
     replace hx103_0 := pw_cell_below HB.out hx103_0
     replace hx103_0 := (cell_far (p := ⟨g, 1, none⟩) (by first | (rw [add_block]; exact hn103_0) | (show (Addr.add _ _).block ≠ _; rw [add_block]; exact hn103_0) | exact hn103_0) (.int .i64 ji12)).trans hx103_0
     (try have hy103_0 := fun (n_ : Nat) => (show (((wc.drewN n_).setCell ⟨g, 1, none⟩ (.int .i64 ji12))).cell? _ = some _ from hx103_0))
     clear hn103_0
     replace p103 := eq_true p103
     replace q103 := eq_true q103
     have p104 : 0 ≤ ((ji12) : Int) := of_decide_eq_true (by first | (with_reducible assumption) | assumption)
     have q104 : (ji12) < (s0_0.length : Int) := of_decide_eq_true (by first | (with_reducible assumption) | assumption)
     obtain ⟨ad104, e104, hx104_0⟩ := Kd.at_int HSz15_0 (ji12) p104 q104
     obtain rfl : ad103 = ad104 := (by injection e104)
     have hn104_0 : ad103.block ≠ g := Nat.ne_of_lt (Nat.lt_of_lt_of_le (by have := World.block_lt_of_cell? _ _ hx104_0; first | rwa [add_block] at this | exact this) (IsS61.ge HI0.out))
     replace hx104_0 := pw_cell_below HB.out hx104_0
     replace hx104_0 := (cell_far (p := ⟨g, 1, none⟩) (by first | (rw [add_block]; exact hn104_0) | (show (Addr.add _ _).block ≠ _; rw [add_block]; exact hn104_0) | exact hn104_0) (.int .i64 ji12)).trans hx104_0
     (try have hy104_0 := fun (n_ : Nat) => (show (((wc.drewN n_).setCell ⟨g, 1, none⟩ (.int .i64 ji12))).cell? _ = some _ from hx104_0))
     clear hn104_0
     replace p104 := eq_true p104
     replace q104 := eq_true q104
     go_wp2
     repeat (go_quiet (fail); try go_wp2)
     go_ret
     exact ⟨by first | rfl | (simp [errW_none, errW_some] <;> rfl) | (simp only [← hji7, ← hji12]; first | rfl | (simp [errW_none, errW_some] <;> rfl)) | (simp [*, errW_none, errW_some] <;> rfl), by repeat (first | (with_reducible first | exact HI0.out | apply IsS61.alloc | apply IsS61.drewN | apply IsS61.drew | apply IsS61.set_1) | exact HI0.out), by repeat (first | (with_reducible first | exact HB.out | apply bA | apply bN | apply bD | refine below_set ?_ (IsS61.ge HI0.out)) | exact HB.out), by repeat (first | (with_reducible first | exact HK.out | apply KeepBut.set_ | apply keep_drewN | apply keep_drew | apply keep_alloc) | exact HK.out)⟩
    rw [if_neg c11] at H
    have c11b0 : decide ((wrap64 (s0_1 + 1)) < (s0_0.length : Int)) = false := decide_eq_false c11
    clear c11
    by_cases c16 : a1 = 0
    ·
     rw [if_pos c16] at H
     exact absurd H (by simp)
    rw [if_neg c16] at H
    have c16b0 : (a1 == 0) = false := beq_eq_false_iff_ne.mpr c16
    have c16b1 : (a1 != 0) = true := bne_iff_ne.mpr c16
    simp only [Option.some.injEq, Prod.mk.injEq] at H
    obtain ⟨rfl, rfl⟩ := H
    obtain ⟨ASz17_0, cSz17_0, HGz17, hgz17, HSz17_0⟩ := HI0.out
    have hcz17_0 := cellS61_0 HGz17
    have hcz17_1 := cellS61_1 HGz17
    have hfz17_1 := blk_frozen HGz17 1
    clear HGz17 hgz17
    have p103 : 0 ≤ ((ji7) : Int) := of_decide_eq_true (by first | (with_reducible assumption) | assumption)
    have q103 : (ji7) < (s0_0.length : Int) := of_decide_eq_true (by first | (with_reducible assumption) | assumption)
    obtain ⟨ad103, e103, hx103_0⟩ := Kd.at_int HSz17_0 (ji7) p103 q103
    cases e103
    have hn103_0 : ad103.block ≠ g := Nat.ne_of_lt (Nat.lt_of_lt_of_le (by have := World.block_lt_of_cell? _ _ hx103_0; first | rwa [add_block] at this | exact this) (IsS61.ge HI0.out))
    replace hx103_0 := pw_cell_below HB.out hx103_0
    replace hx103_0 := (cell_far (p := ⟨g, 1, none⟩) (by first | (rw [add_block]; exact hn103_0) | (show (Addr.add _ _).block ≠ _; rw [add_block]; exact hn103_0) | exact hn103_0) (.int .i64 (wrap64 (s0_1 + 1)))).trans hx103_0
    (try have hy103_0 := fun (n_ : Nat) => (show (((wc.drewN n_).setCell ⟨g, 1, none⟩ (.int .i64 (wrap64 (s0_1 + 1))))).cell? _ = some _ from hx103_0))
    clear hn103_0
    replace p103 := eq_true p103
    replace q103 := eq_true q103
    go_wp2
    repeat (go_quiet (fail); try go_wp2)
    go_ret
    exact ⟨by first | rfl | (simp [errW_none, errW_some] <;> rfl) | (simp only [← hji7]; first | rfl | (simp [errW_none, errW_some] <;> rfl)) | (simp [*, errW_none, errW_some] <;> rfl), by repeat (first | (with_reducible first | exact HI0.out | apply IsS61.alloc | apply IsS61.drewN | apply IsS61.drew | apply IsS61.set_1) | exact HI0.out), by repeat (first | (with_reducible first | exact HB.out | apply bA | apply bN | apply bD | refine below_set ?_ (IsS61.ge HI0.out)) | exact HB.out), by repeat (first | (with_reducible first | exact HK.out | apply KeepBut.set_ | apply keep_drewN | apply keep_drew | apply keep_alloc) | exact HK.out)⟩
   rw [if_neg c10] at H
   have c10b0 : decide (256 < a1) = false := decide_eq_false c10
   clear c10
   by_cases c18 : a1 = 0
   ·
    rw [if_pos c18] at H
    exact absurd H (by simp)
   rw [if_neg c18] at H
   have c18b0 : (a1 == 0) = false := beq_eq_false_iff_ne.mpr c18
   have c18b1 : (a1 != 0) = true := bne_iff_ne.mpr c18
   simp only [Option.some.injEq, Prod.mk.injEq] at H
   obtain ⟨rfl, rfl⟩ := H
   obtain ⟨ASz19_0, cSz19_0, HGz19, hgz19, HSz19_0⟩ := HI0.out
   have hcz19_0 := cellS61_0 HGz19
   have hcz19_1 := cellS61_1 HGz19
   have hfz19_1 := blk_frozen HGz19 1
   clear HGz19 hgz19
   have p103 : 0 ≤ ((ji7) : Int) := of_decide_eq_true (by first | (with_reducible assumption) | assumption)
   have q103 : (ji7) < (s0_0.length : Int) := of_decide_eq_true (by first | (with_reducible assumption) | assumption)
   obtain ⟨ad103, e103, hx103_0⟩ := Kd.at_int HSz19_0 (ji7) p103 q103
   cases e103
   have hn103_0 : ad103.block ≠ g := Nat.ne_of_lt (Nat.lt_of_lt_of_le (by have := World.block_lt_of_cell? _ _ hx103_0; first | rwa [add_block] at this | exact this) (IsS61.ge HI0.out))
   replace hx103_0 := pw_cell_below HB.out hx103_0
   replace hx103_0 := (cell_far (p := ⟨g, 1, none⟩) (by first | (rw [add_block]; exact hn103_0) | (show (Addr.add _ _).block ≠ _; rw [add_block]; exact hn103_0) | exact hn103_0) (.int .i64 (wrap64 (s0_1 + 1)))).trans hx103_0
   (try have hy103_0 := fun (n_ : Nat) => (show (((wc.drewN n_).setCell ⟨g, 1, none⟩ (.int .i64 (wrap64 (s0_1 + 1))))).cell? _ = some _ from hx103_0))
   clear hn103_0
   replace p103 := eq_true p103
   replace q103 := eq_true q103
   go_wp2
   repeat (go_quiet (fail); try go_wp2)
   go_ret
   exact ⟨by first | rfl | (simp [errW_none, errW_some] <;> rfl) | (simp only [← hji7]; first | rfl | (simp [errW_none, errW_some] <;> rfl)) | (simp [*, errW_none, errW_some] <;> rfl), by repeat (first | (with_reducible first | exact HI0.out | apply IsS61.alloc | apply IsS61.drewN | apply IsS61.drew | apply IsS61.set_1) | exact HI0.out), by repeat (first | (with_reducible first | exact HB.out | apply bA | apply bN | apply bD | refine below_set ?_ (IsS61.ge HI0.out)) | exact HB.out), by repeat (first | (with_reducible first | exact HK.out | apply KeepBut.set_ | apply keep_drewN | apply keep_drew | apply keep_alloc) | exact HK.out)⟩

/-! ### minecontroldraw_Codes_Range: function 37 -/
def minecontroldraw_Codes_Range.f (k : Nat) (s0_0 : List Int) (s0_1 : Int) (a1 : Int) (a2 : Int) : Option (Int × Int) := (minecontroldraw_Codes_Next.f k s0_0 s0_1 (wrap64 ((wrap64 (a2 - a1)) + 1))).bind fun bt105 => (some (wrap64 (a1 + bt105.1), bt105.2))
theorem minecontroldraw_Codes_Range.mono : ∀ a0 a1 a2 a3 k, LeO (minecontroldraw_Codes_Range.f k a0 a1 a2 a3) (minecontroldraw_Codes_Range.f (k + 1) a0 a1 a2 a3) := by
 intro a0 a1 a2 a3 k
 unfold minecontroldraw_Codes_Range.f
 repeat' first
   | (with_reducible exact minecontroldraw_Codes_Next.mono _ _ _ _)
   | (with_reducible exact LeO.refl _)
   | (with_reducible exact LeO.none _)
   | (with_reducible refine LeO.ite ?_ ?_)
   | (with_reducible refine LeO.bind ?_ (fun _ => ?_))
   | exact LeO.none _
   | refine LeO.ite ?_ ?_
   | refine LeO.bind ?_ (fun _ => ?_)
set_option maxHeartbeats 8000000 in
set_option maxRecDepth 100000 in
theorem minecontroldraw_Codes_Range.calls (k : Nat) (g : Nat) (s0_0 : List Int) (s0_1 : Int) (a1 : Int) (a2 : Int) (r1 : Int) (r2 : Int) (w0 w : World) (hI : IsS61 w0 w g s0_0 s0_1) (hB : Below w0.heap.size w0 w) (h : minecontroldraw_Codes_Range.f k s0_0 s0_1 a1 a2 = some (r1, r2)) :
  Calls Try.prog 37 #[.pointer (some ⟨g, 0, none⟩), .int .i64 a1, .int .i64 a2] w fun e w' => e = .returned (.int .i64 r1) ∧ IsS61 w0 w' g s0_0 r2 ∧ Below w0.heap.size w0 w' ∧ KeepBut w w' g none := by
 have HI0 := aM hI
 have HK := aM (KeepBut.refl w g none)
 have HL := aM hB.size
 clear hI
 have HW0 := aM hB.size
 have HB := aM hB
 clear hB
 have H : ((minecontroldraw_Codes_Next.f k s0_0 s0_1 (wrap64 ((wrap64 (a2 - a1)) + 1))).bind fun bt105 => (some (wrap64 (a1 + bt105.1), bt105.2))) = some (r1, r2) := h
 clear h
 replace H := Option.bind_eq_some_iff.mp H
 obtain ⟨⟨t105, t106⟩, A40, H⟩ := H
 replace H : (some (wrap64 (a1 + t105), t106)) = some (r1, r2) := H
 have A4 := aM A40
 clear A40
 simp only [Option.some.injEq, Prod.mk.injEq] at H
 obtain ⟨rfl, rfl⟩ := H
 go_enter Try.func37, Try.ntmps37
 go_wp2_with (first | ((with_reducible refine gate_callee (f := 11) rfl ?_); refine goesL_ (some 13) rfl rfl Try.func11 (by kernel_rfl) rfl #[.pointer (some ⟨g, 0, none⟩), .int .i64 (wrap64 ((wrap64 (a2 - a1)) + 1))] rfl (by first | rfl | (simp only [List.map_toArray, List.map_cons, List.map_nil, List.length_drop, List.length_take]; try rfl)) ?_; (with_reducible refine (minecontroldraw_Codes_Next.calls k g s0_0 s0_1 (wrap64 ((wrap64 (a2 - a1)) + 1)) t105 t106 w0 _ ?side1 ?side2 A4.out).mono ?_); (case side1 => repeat (first | (with_reducible first | exact HI0.out | apply IsS61.alloc | apply IsS61.drewN | apply IsS61.drew | apply IsS61.set_1) | exact HI0.out)); (case side2 => repeat (first | (with_reducible first | exact HB.out | apply bA | apply bN | apply bD | refine below_set ?_ (IsS61.ge HI0.out)) | exact HB.out)); rintro e w5 ⟨rfl, hi, hb, hk⟩; refine ⟨_, rfl, ?_⟩; replace HK := aM (KeepBut.trans (by repeat (first | (with_reducible first | exact HK.out | apply KeepBut.set_ | apply keep_drewN | apply keep_drew | apply keep_alloc) | exact HK.out)) hk (.inl rfl)); replace HB := aM (hb); replace HI0 := aM (hi); (try clear hb); (try clear hb2); (try clear hge); (try clear hk); (try clear hi)))
 go_ret
 exact ⟨by first | rfl | (simp [errW_none, errW_some] <;> rfl) | (simp [*, errW_none, errW_some] <;> rfl), by repeat (first | (with_reducible first | exact HI0.out | apply IsS61.alloc | apply IsS61.drewN | apply IsS61.drew | apply IsS61.set_1) | exact HI0.out), by repeat (first | (with_reducible first | exact HB.out | apply bA | apply bN | apply bD | refine below_set ?_ (IsS61.ge HI0.out)) | exact HB.out), by repeat (first | (with_reducible first | exact HK.out | apply KeepBut.set_ | apply keep_drewN | apply keep_drew | apply keep_alloc) | exact HK.out)⟩

/-! ### minecontroldraw_Codes_One: function 38 -/
def minecontroldraw_Codes_One.f (k : Nat) (s0_0 : List Int) (s0_1 : Int) (a1 : Int) : Option (Bool × Int) := (minecontroldraw_Codes_Next.f k s0_0 s0_1 a1).bind fun bt107 => (some ((bt107.1 == (wrap64 (a1 - 1))), bt107.2))
theorem minecontroldraw_Codes_One.mono : ∀ a0 a1 a2 k, LeO (minecontroldraw_Codes_One.f k a0 a1 a2) (minecontroldraw_Codes_One.f (k + 1) a0 a1 a2) := by
 intro a0 a1 a2 k
 unfold minecontroldraw_Codes_One.f
 repeat' first
   | (with_reducible exact minecontroldraw_Codes_Next.mono _ _ _ _)
   | (with_reducible exact LeO.refl _)
   | (with_reducible exact LeO.none _)
   | (with_reducible refine LeO.ite ?_ ?_)
   | (with_reducible refine LeO.bind ?_ (fun _ => ?_))
   | exact LeO.none _
   | refine LeO.ite ?_ ?_
   | refine LeO.bind ?_ (fun _ => ?_)
set_option maxHeartbeats 8000000 in
set_option maxRecDepth 100000 in
theorem minecontroldraw_Codes_One.calls (k : Nat) (g : Nat) (s0_0 : List Int) (s0_1 : Int) (a1 : Int) (r1 : Bool) (r2 : Int) (w0 w : World) (hI : IsS61 w0 w g s0_0 s0_1) (hB : Below w0.heap.size w0 w) (h : minecontroldraw_Codes_One.f k s0_0 s0_1 a1 = some (r1, r2)) :
  Calls Try.prog 38 #[.pointer (some ⟨g, 0, none⟩), .int .i64 a1] w fun e w' => e = .returned (.bool r1) ∧ IsS61 w0 w' g s0_0 r2 ∧ Below w0.heap.size w0 w' ∧ KeepBut w w' g none := by
 have HI0 := aM hI
 have HK := aM (KeepBut.refl w g none)
 have HL := aM hB.size
 clear hI
 have HW0 := aM hB.size
 have HB := aM hB
 clear hB
 have H : ((minecontroldraw_Codes_Next.f k s0_0 s0_1 a1).bind fun bt107 => (some ((bt107.1 == (wrap64 (a1 - 1))), bt107.2))) = some (r1, r2) := h
 clear h
 replace H := Option.bind_eq_some_iff.mp H
 obtain ⟨⟨t107, t108⟩, A30, H⟩ := H
 replace H : (some ((t107 == (wrap64 (a1 - 1))), t108)) = some (r1, r2) := H
 have A3 := aM A30
 clear A30
 simp only [Option.some.injEq, Prod.mk.injEq] at H
 obtain ⟨rfl, rfl⟩ := H
 go_enter Try.func38, Try.ntmps38
 go_wp2_with (first | ((with_reducible refine gate_callee (f := 11) rfl ?_); refine goesL_ (some 7) rfl rfl Try.func11 (by kernel_rfl) rfl #[.pointer (some ⟨g, 0, none⟩), .int .i64 a1] rfl (by first | rfl | (simp only [List.map_toArray, List.map_cons, List.map_nil, List.length_drop, List.length_take]; try rfl)) ?_; (with_reducible refine (minecontroldraw_Codes_Next.calls k g s0_0 s0_1 a1 t107 t108 w0 _ ?side1 ?side2 A3.out).mono ?_); (case side1 => repeat (first | (with_reducible first | exact HI0.out | apply IsS61.alloc | apply IsS61.drewN | apply IsS61.drew | apply IsS61.set_1) | exact HI0.out)); (case side2 => repeat (first | (with_reducible first | exact HB.out | apply bA | apply bN | apply bD | refine below_set ?_ (IsS61.ge HI0.out)) | exact HB.out)); rintro e w4 ⟨rfl, hi, hb, hk⟩; refine ⟨_, rfl, ?_⟩; replace HK := aM (KeepBut.trans (by repeat (first | (with_reducible first | exact HK.out | apply KeepBut.set_ | apply keep_drewN | apply keep_drew | apply keep_alloc) | exact HK.out)) hk (.inl rfl)); replace HB := aM (hb); replace HI0 := aM (hi); (try clear hb); (try clear hb2); (try clear hge); (try clear hk); (try clear hi)))
 go_ret
 exact ⟨by first | rfl | (simp [errW_none, errW_some] <;> rfl) | (simp [*, errW_none, errW_some] <;> rfl), by repeat (first | (with_reducible first | exact HI0.out | apply IsS61.alloc | apply IsS61.drewN | apply IsS61.drew | apply IsS61.set_1) | exact HI0.out), by repeat (first | (with_reducible first | exact HB.out | apply bA | apply bN | apply bD | refine below_set ?_ (IsS61.ge HI0.out)) | exact HB.out), by repeat (first | (with_reducible first | exact HK.out | apply KeepBut.set_ | apply keep_drewN | apply keep_drew | apply keep_alloc) | exact HK.out)⟩

/-! ### minecontroldraw_Codes_Truth: function 39 -/
def minecontroldraw_Codes_Truth.f (k : Nat) (s0_0 : List Int) (s0_1 : Int) : Option (Int × Int) := (minecontroldraw_Codes_Next.f k s0_0 s0_1 3).bind fun bt109 => (some (wrap64 (bt109.1 - 1), bt109.2))
theorem minecontroldraw_Codes_Truth.mono : ∀ a0 a1 k, LeO (minecontroldraw_Codes_Truth.f k a0 a1) (minecontroldraw_Codes_Truth.f (k + 1) a0 a1) := by
 intro a0 a1 k
 unfold minecontroldraw_Codes_Truth.f
 repeat' first
   | (with_reducible exact minecontroldraw_Codes_Next.mono _ _ _ _)
   | (with_reducible exact LeO.refl _)
   | (with_reducible exact LeO.none _)
   | (with_reducible refine LeO.ite ?_ ?_)
   | (with_reducible refine LeO.bind ?_ (fun _ => ?_))
   | exact LeO.none _
   | refine LeO.ite ?_ ?_
   | refine LeO.bind ?_ (fun _ => ?_)
set_option maxHeartbeats 8000000 in
set_option maxRecDepth 100000 in
theorem minecontroldraw_Codes_Truth.calls (k : Nat) (g : Nat) (s0_0 : List Int) (s0_1 : Int) (r1 : Int) (r2 : Int) (w0 w : World) (hI : IsS61 w0 w g s0_0 s0_1) (hB : Below w0.heap.size w0 w) (h : minecontroldraw_Codes_Truth.f k s0_0 s0_1 = some (r1, r2)) :
  Calls Try.prog 39 #[.pointer (some ⟨g, 0, none⟩)] w fun e w' => e = .returned (.int .i64 r1) ∧ IsS61 w0 w' g s0_0 r2 ∧ Below w0.heap.size w0 w' ∧ KeepBut w w' g none := by
 have HI0 := aM hI
 have HK := aM (KeepBut.refl w g none)
 have HL := aM hB.size
 clear hI
 have HW0 := aM hB.size
 have HB := aM hB
 clear hB
 have H : ((minecontroldraw_Codes_Next.f k s0_0 s0_1 3).bind fun bt109 => (some (wrap64 (bt109.1 - 1), bt109.2))) = some (r1, r2) := h
 clear h
 replace H := Option.bind_eq_some_iff.mp H
 obtain ⟨⟨t109, t110⟩, A20, H⟩ := H
 replace H : (some (wrap64 (t109 - 1), t110)) = some (r1, r2) := H
 have A2 := aM A20
 clear A20
 simp only [Option.some.injEq, Prod.mk.injEq] at H
 obtain ⟨rfl, rfl⟩ := H
 go_enter Try.func39, Try.ntmps39
 go_wp2_with (first | ((with_reducible refine gate_callee (f := 11) rfl ?_); refine goesL_ (some 4) rfl rfl Try.func11 (by kernel_rfl) rfl #[.pointer (some ⟨g, 0, none⟩), .int .i64 3] rfl (by first | rfl | (simp only [List.map_toArray, List.map_cons, List.map_nil, List.length_drop, List.length_take]; try rfl)) ?_; (with_reducible refine (minecontroldraw_Codes_Next.calls k g s0_0 s0_1 3 t109 t110 w0 _ ?side1 ?side2 A2.out).mono ?_); (case side1 => repeat (first | (with_reducible first | exact HI0.out | apply IsS61.alloc | apply IsS61.drewN | apply IsS61.drew | apply IsS61.set_1) | exact HI0.out)); (case side2 => repeat (first | (with_reducible first | exact HB.out | apply bA | apply bN | apply bD | refine below_set ?_ (IsS61.ge HI0.out)) | exact HB.out)); rintro e w3 ⟨rfl, hi, hb, hk⟩; refine ⟨_, rfl, ?_⟩; replace HK := aM (KeepBut.trans (by repeat (first | (with_reducible first | exact HK.out | apply KeepBut.set_ | apply keep_drewN | apply keep_drew | apply keep_alloc) | exact HK.out)) hk (.inl rfl)); replace HB := aM (hb); replace HI0 := aM (hi); (try clear hb); (try clear hb2); (try clear hge); (try clear hk); (try clear hi)))
 go_ret
 exact ⟨by first | rfl | (simp [errW_none, errW_some] <;> rfl) | (simp [*, errW_none, errW_some] <;> rfl), by repeat (first | (with_reducible first | exact HI0.out | apply IsS61.alloc | apply IsS61.drewN | apply IsS61.drew | apply IsS61.set_1) | exact HI0.out), by repeat (first | (with_reducible first | exact HB.out | apply bA | apply bN | apply bD | refine below_set ?_ (IsS61.ge HI0.out)) | exact HB.out), by repeat (first | (with_reducible first | exact HK.out | apply KeepBut.set_ | apply keep_drewN | apply keep_drew | apply keep_alloc) | exact HK.out)⟩

end Go.Proofs.Ytcgeflbifbaecaa.PFeh
