/- Functions of the given program as Lean functions, and proofs that its calls come to what these say. Written by a program of this seat (wip/mkprint.py); Lean checks it all. -/
import Derived.Test.YtcgeflbifbaecaaUpk
import Derived.Test.YtcgeflbifbaecaaPFekx0
import Derived.Test.YtcgeflbifbaecaaPFekx2
namespace Go.Proofs.Ytcgeflbifbaecaa.PFek
open Go.RowKit Go.Proofs.YtcgeflbifbaecaaW.PrintWords Go.Proofs.YtcgeflbifbaecaaW.PrintLast Go.Proofs.YtcgeflbifbaecaaW.PrintMore
attribute [local go_sem] max2_int min2_int max_two min_two max_three min_three max_four min_four   -- for this text's walks alone
set_option linter.unusedVariables false
set_option linter.unusedSimpArgs false

/-! ### feeder_Live: function 19 -/
def feeder_Live.l0 : Nat → List S32 → Int → Int → Option Int
 | 0, _, _, _ => none
 | k + 1, l, s, o => if 0 ≤ s then (if s < (l.length : Int) then (feeder_Live.l0 k l ((rd_T32 l s).f0) (mn o ((rd_T32 l s).f2))) else (none)) else (some o)
def feeder_Live.f (k : Nat) (l0_0 : List S32) (l0_1 : List Int) (a0_2 : Int) (a1 : Int) : Option Int := (feeder_Check.f k l0_0 l0_1 a0_2).bind fun t => (if t = 0 then (if 0 ≤ a1 then (if a1 < (l0_1.length : Int) then (feeder_Live.l0 k l0_0 (rd l0_1 a1) 1) else (some 0)) else (some 0)) else (some 0))
theorem feeder_Live.mono_l : ∀ k, ∀ y0 y1 y2, LeO (feeder_Live.l0 k y0 y1 y2) (feeder_Live.l0 (k + 1) y0 y1 y2)
 | 0 => fun _ _ _ r h => by simp [feeder_Live.l0] at h
 | k + 1 => by
  have ih0 := feeder_Live.mono_l k
  intro y0 y1 y2
  unfold feeder_Live.l0
  repeat' first
  | (with_reducible exact ih0 _ _ _)
  | (with_reducible exact LeO.refl _)
  | (with_reducible exact LeO.none _)
  | (with_reducible refine LeO.ite ?_ ?_)
theorem feeder_Live.mono : ∀ a0 a1 a2 a3 k, LeO (feeder_Live.f k a0 a1 a2 a3) (feeder_Live.f (k + 1) a0 a1 a2 a3) := by
 intro a0 a1 a2 a3 k
 have ih0 := feeder_Live.mono_l k
 unfold feeder_Live.f
 repeat' first
 | (with_reducible exact ih0 _ _ _)
 | (with_reducible exact feeder_Check.mono _ _ _ _)
 | (with_reducible exact LeO.refl _)
 | (with_reducible exact LeO.none _)
 | (with_reducible refine LeO.ite ?_ ?_)
 | (with_reducible refine LeO.bind ?_ (fun _ => ?_))
-- IMPORT Derived.Test.YtcgeflbifbaecaaUp
section
open Go.Shelf Up
attribute [local go_sem] Oper.semAt_some
/-- What lives: the least of what the switches show. -/
def liveOf (ss : List S32) (o : Int) (xs : List (Ix ss)) : Int := xs.foldl (fun o x => mn o (rd_T32 ss x.1).f2) o
theorem feeder_Live.chain {ss : List S32} : ∀ (k : Nat) {s o r : Int}, feeder_Live.l0 k ss s o = some r → ∃ xs : List (Ix ss), Chain ss s xs ∧ liveOf ss o xs = r
  | 0, s, o, r, h => by simp [feeder_Live.l0] at h
  | k + 1, s, o, r, h => by
    simp only [feeder_Live.l0] at h
    by_cases h0 : 0 ≤ s
    · rw [if_pos h0] at h
      by_cases h1 : s < (ss.length : Int)
      · rw [if_pos h1] at h
        obtain ⟨xs, hc, hr⟩ := feeder_Live.chain k h
        exact ⟨⟨s, h0, h1⟩ :: xs, ⟨rfl, hc⟩, hr⟩
      · rw [if_neg h1] at h; cases h
    · rw [if_neg h0] at h
      exact ⟨[], (by show s < 0; omega), Option.some.inj h⟩
theorem liveOf_snoc {ss : List S32} (o : Int) (pre : List (Ix ss)) (x : Ix ss) : liveOf ss o (pre ++ [x]) = mn (liveOf ss o pre) (rd_T32 ss x.1).f2 := by simp [liveOf]

set_option maxRecDepth 100000 in
set_option maxHeartbeats 8000000 in
theorem feeder_Live.calls (k : Nat) (A0_0 : Option Addr) (c0_0 : Nat) (l0_0 : List (S32)) (A0_1 : Option Addr) (c0_1 : Nat) (l0_1 : List Int) (a0_2 : Int) (a1 : Int) (r : Int) (w : World) (hr0_0 : Kd.C k32 w A0_0 l0_0.length l0_0) (hc0_0 : l0_0.length ≤ c0_0) (hr0_1 : Kd.C (Kd.int .i64) w A0_1 l0_1.length l0_1) (hc0_1 : l0_1.length ≤ c0_1) (h : feeder_Live.f k l0_0 l0_1 a0_2 a1 = some r) :
  Calls Try.prog 19 #[.agg #[.slice A0_0 l0_0.length c0_0, .slice A0_1 l0_1.length c0_1, .int .i64 a0_2], .int .i64 a1] w fun e w' => e = .returned (.int .i64 r) ∧ Below w.heap.size w w' := by
  unfold feeder_Live.f at h
  obtain ⟨t, ht, h⟩ := Option.bind_eq_some_iff.1 h
  by_cases h0 : t = 0
  rotate_left
  · rw [if_neg h0] at h
    obtain rfl := Option.some.inj h
    have c0 : (t != 0) = true := by simpa using h0
    refine (callsIn_wide (n := 5)).1 ?_
    refine callsIn_of_wp_marks Try.func19 rfl trivial ?_ rfl
    simp only [Try.ntmps19, List.size_toArray, List.length_cons, List.length_nil, Nat.reduceAdd, Nat.reduceSub, Array.replicate_succ, Array.replicate_zero, List.push_toArray, List.append_toArray, List.nil_append, List.cons_append]
    gi_wp2_with (first
      | (refine ⟨trivial, ?_⟩; gi_at_call 23; refine (callsIn_wide.2 (feeder_Check.calls k _ _ l0_0 _ _ l0_1 a0_2 _ _ (Kd.C_alloc hr0_0 _) hc0_0 (Kd.C_alloc hr0_1 _) hc0_1 ht)).mono ?_; rintro e w1 ⟨rfl, hb⟩; have hX : w1.heap[w.heap.size]? = some (.cells #[.slice A0_0 l0_0.length c0_0, .slice A0_1 l0_1.length c0_1, .int .i64 a0_2] 28 (0, 0)) := (hb.block _ (by simp)).trans (World.alloc_heap_new w _); have hx0 : w1.cell? ⟨w.heap.size, 0, none⟩ = some (.slice A0_0 l0_0.length c0_0) := by simp [World.cell?, hX]
         have hx1 : w1.cell? ⟨w.heap.size, 1, none⟩ = some (.slice A0_1 l0_1.length c0_1) := by simp [World.cell?, hX]
         have hx2 : w1.cell? ⟨w.heap.size, 2, none⟩ = some (.int .i64 a0_2) := by simp [World.cell?, hX]
         have HB : Below w.heap.size w w1 := ((Below.refl _ w).alloc (Nat.le_refl _) _).trans (hb.mono (by simp)))
      )
    refine ⟨_, results_tmp rfl _ _ _, rfl, HB⟩
  subst h0
  rw [if_pos rfl] at h
  by_cases h1 : 0 ≤ a1
  rotate_left
  · rw [if_neg h1] at h
    obtain rfl := Option.some.inj h
    have c1 : decide (a1 < 0) = true := decide_eq_true (by omega)
    refine (callsIn_wide (n := 5)).1 ?_
    refine callsIn_of_wp_marks Try.func19 rfl trivial ?_ rfl
    simp only [Try.ntmps19, List.size_toArray, List.length_cons, List.length_nil, Nat.reduceAdd, Nat.reduceSub, Array.replicate_succ, Array.replicate_zero, List.push_toArray, List.append_toArray, List.nil_append, List.cons_append]
    gi_wp2_with (first
      | (refine ⟨trivial, ?_⟩; gi_at_call 23; refine (callsIn_wide.2 (feeder_Check.calls k _ _ l0_0 _ _ l0_1 a0_2 _ _ (Kd.C_alloc hr0_0 _) hc0_0 (Kd.C_alloc hr0_1 _) hc0_1 ht)).mono ?_; rintro e w1 ⟨rfl, hb⟩; have hX : w1.heap[w.heap.size]? = some (.cells #[.slice A0_0 l0_0.length c0_0, .slice A0_1 l0_1.length c0_1, .int .i64 a0_2] 28 (0, 0)) := (hb.block _ (by simp)).trans (World.alloc_heap_new w _); have hx0 : w1.cell? ⟨w.heap.size, 0, none⟩ = some (.slice A0_0 l0_0.length c0_0) := by simp [World.cell?, hX]
         have hx1 : w1.cell? ⟨w.heap.size, 1, none⟩ = some (.slice A0_1 l0_1.length c0_1) := by simp [World.cell?, hX]
         have hx2 : w1.cell? ⟨w.heap.size, 2, none⟩ = some (.int .i64 a0_2) := by simp [World.cell?, hX]
         have HB : Below w.heap.size w w1 := ((Below.refl _ w).alloc (Nat.le_refl _) _).trans (hb.mono (by simp)))
      )
    refine ⟨_, results_tmp rfl _ _ _, rfl, HB⟩
  rw [if_pos h1] at h
  have c1 : decide (a1 < 0) = false := decide_eq_false (by omega)
  by_cases h2 : a1 < (l0_1.length : Int)
  rotate_left
  · rw [if_neg h2] at h
    obtain rfl := Option.some.inj h
    have c2 : decide ((l0_1.length : Int) ≤ a1) = true := decide_eq_true (by omega)
    refine (callsIn_wide (n := 5)).1 ?_
    refine callsIn_of_wp_marks Try.func19 rfl trivial ?_ rfl
    simp only [Try.ntmps19, List.size_toArray, List.length_cons, List.length_nil, Nat.reduceAdd, Nat.reduceSub, Array.replicate_succ, Array.replicate_zero, List.push_toArray, List.append_toArray, List.nil_append, List.cons_append]
    gi_wp2_with (first
      | (refine ⟨trivial, ?_⟩; gi_at_call 23; refine (callsIn_wide.2 (feeder_Check.calls k _ _ l0_0 _ _ l0_1 a0_2 _ _ (Kd.C_alloc hr0_0 _) hc0_0 (Kd.C_alloc hr0_1 _) hc0_1 ht)).mono ?_; rintro e w1 ⟨rfl, hb⟩; have hX : w1.heap[w.heap.size]? = some (.cells #[.slice A0_0 l0_0.length c0_0, .slice A0_1 l0_1.length c0_1, .int .i64 a0_2] 28 (0, 0)) := (hb.block _ (by simp)).trans (World.alloc_heap_new w _); have hx0 : w1.cell? ⟨w.heap.size, 0, none⟩ = some (.slice A0_0 l0_0.length c0_0) := by simp [World.cell?, hX]
         have hx1 : w1.cell? ⟨w.heap.size, 1, none⟩ = some (.slice A0_1 l0_1.length c0_1) := by simp [World.cell?, hX]
         have hx2 : w1.cell? ⟨w.heap.size, 2, none⟩ = some (.int .i64 a0_2) := by simp [World.cell?, hX]
         have HB : Below w.heap.size w w1 := ((Below.refl _ w).alloc (Nat.le_refl _) _).trans (hb.mono (by simp)))
      )
    refine ⟨_, results_tmp rfl _ _ _, rfl, HB⟩
  rw [if_pos h2] at h
  have c2 : decide ((l0_1.length : Int) ≤ a1) = false := decide_eq_false (by omega)
  obtain ⟨xs, hch, hr⟩ := feeder_Live.chain k h
  refine (callsIn_wide (n := 5)).1 ?_
  refine callsIn_of_wp_marks Try.func19 rfl trivial ?_ rfl
  simp only [Try.ntmps19, List.size_toArray, List.length_cons, List.length_nil, Nat.reduceAdd, Nat.reduceSub, Array.replicate_succ, Array.replicate_zero, List.push_toArray, List.append_toArray, List.nil_append, List.cons_append]
  gi_wp2_with (first
    | (refine ⟨trivial, ?_⟩; gi_at_call 23; refine (callsIn_wide.2 (feeder_Check.calls k _ _ l0_0 _ _ l0_1 a0_2 _ _ (Kd.C_alloc hr0_0 _) hc0_0 (Kd.C_alloc hr0_1 _) hc0_1 ht)).mono ?_; rintro e w1 ⟨rfl, hb⟩; have hX : w1.heap[w.heap.size]? = some (.cells #[.slice A0_0 l0_0.length c0_0, .slice A0_1 l0_1.length c0_1, .int .i64 a0_2] 28 (0, 0)) := (hb.block _ (by simp)).trans (World.alloc_heap_new w _); have hx0 : w1.cell? ⟨w.heap.size, 0, none⟩ = some (.slice A0_0 l0_0.length c0_0) := by simp [World.cell?, hX]
       have hx1 : w1.cell? ⟨w.heap.size, 1, none⟩ = some (.slice A0_1 l0_1.length c0_1) := by simp [World.cell?, hX]
       have hx2 : w1.cell? ⟨w.heap.size, 2, none⟩ = some (.int .i64 a0_2) := by simp [World.cell?, hX]
       have HB : Below w.heap.size w w1 := ((Below.refl _ w).alloc (Nat.le_refl _) _).trans (hb.mono (by simp)))
    )
  obtain ⟨w2, hw2⟩ : ∃ w2, w1.alloc (.cells #[.int .i64 1] 3) = w2 := ⟨_, rfl⟩
  have hb12 : Below w1.heap.size w1 w2 := by rw [← hw2]; exact (Below.refl _ w1).alloc (Nat.le_refl _) _
  have hO : Boxed w2 w1.heap.size 3 (.int .i64 1) := by rw [← hw2]; exact Boxed.new _ _ _
  have hs1 : w.heap.size < w1.heap.size := (Array.getElem?_eq_some_iff.1 hX).1
  have hX2 := (hb12.block _ hs1).trans hX
  have HB2 : Below w.heap.size w w2 := HB.trans (hb12.mono (by omega))
  have hs2 : w2.heap.size = w1.heap.size + 1 := by rw [← hw2]; simp
  clear hx0 hx1 hx2
  have hx0 : w2.cell? ⟨w.heap.size, 0, none⟩ = some (.slice A0_0 l0_0.length c0_0) := by simp [World.cell?, hX2]
  have hx1 : w2.cell? ⟨w.heap.size, 1, none⟩ = some (.slice A0_1 l0_1.length c0_1) := by simp [World.cell?, hX2]
  have hx2 : w2.cell? ⟨w.heap.size, 2, none⟩ = some (.int .i64 a0_2) := by simp [World.cell?, hX2]
  rw [hw2]
  have p0 : (0 ≤ a1) = True := eq_true h1
  have p1 : (a1 < (l0_1.length : Int)) = True := eq_true h2
  have hmx : Try.prog.follows .mixedOrders = true := by kernel_rfl
  obtain ⟨ad, rfl, g0⟩ := Kd.at_int (Kd.C_below hr0_1 HB2) a1 h1 h2
  refine wpIn_mono (Q := only (fun a' w' => a' = { tmps := #[.agg #[.slice A0_0 l0_0.length c0_0, .slice (some ad) l0_1.length c0_1, .int .i64 a0_2], .int .i64 a1, .pointer (some ⟨w.heap.size, 0, none⟩), undef, .int .i64 0, .pointer (some ⟨w1.heap.size, 0, none⟩), undef,
      .agg #[.slice A0_0 l0_0.length c0_0, .slice (some ad) l0_1.length c0_1, .int .i64 a0_2], .int .i64 0, .bool false, .bool false, .int .i64 a1, .bool false, .bool false, .bool false, .int .i64 a1, .pointer (some ⟨w.heap.size, 1, none⟩), .slice (some ad) l0_1.length c0_1, .int .i64 (l0_1.length : Int), .bool false, .bool false,
      .agg #[.slice A0_0 l0_0.length c0_0, .slice (some ad) l0_1.length c0_1, .int .i64 a0_2], .pointer (some ⟨w.heap.size, 1, none⟩), .slice (some ad) l0_1.length c0_1, .int .i64 a1, .pointer (some (ad.add a1.toNat)), .int .i64 (rd l0_1 a1),
      .func (.func 51) #[] #[.pointer (some ⟨w1.heap.size + 1 + 1, 0, none⟩), .pointer (some ⟨w1.heap.size + 1, 0, none⟩)], undef, undef, undef, undef, undef, undef, undef, undef, undef, undef], defers := [] }
      ∧ w' = ((w2.alloc (.cells #[.slice A0_0 l0_0.length c0_0, .slice (some ad) l0_1.length c0_1, .int .i64 a0_2] 28)).alloc (.cells #[.int .i64 (rd l0_1 a1)] 3)).drew)) ?region ?back
  case region =>
    gi_region_with_o (refine ⟨trivial, ?_⟩; gi_at_call 41; refine (up_in Fence.wide _ trivial rfl A0_0 l0_0.length c0_0 _ l0_1.length c0_1 a0_2 (rd l0_1 a1) _).mono ?_; rintro e w' ⟨rfl, rfl⟩)
    all_goals gi_wp2
    all_goals exact ⟨rfl, rfl⟩
  case back =>
    intro e a' w' hq
    cases e with
    | ret => exact hq.elim
    | exit id => exact hq.elim
    | goto t => exact hq.elim
    | panic ch => exact hq.elim
    | outgrown => exact hq.elim
    | normal =>
      obtain ⟨rfl, rfl⟩ := hq
      gi_wp2
      obtain ⟨w5, hw5⟩ : ∃ w5, ((w2.alloc (.cells #[.slice A0_0 l0_0.length c0_0, .slice (some ad) l0_1.length c0_1, .int .i64 a0_2] 28)).alloc (.cells #[.int .i64 (rd l0_1 a1)] 3)).drew = w5 := ⟨_, rfl⟩
      have hB25 : Below w2.heap.size w2 w5 := by rw [← hw5]; exact (((Below.refl _ w2).alloc (Nat.le_refl _) _).alloc (by simp) _).drew
      have hs5 : w5.heap.size = w1.heap.size + 3 := by rw [← hw5]; simp [hs2]
      have hF5 : w5.heap[w1.heap.size + 1]? = some (.cells #[.slice A0_0 l0_0.length c0_0, .slice (some ad) l0_1.length c0_1, .int .i64 a0_2] 28 (0, 0)) := by
        rw [← hw5, ← hs2]; exact (Below.heap_alloc _ _ _ (by simp)).trans (World.alloc_heap_new w2 _)
      have hS5 : Boxed w5 (w1.heap.size + 1 + 1) 3 (.int .i64 (rd l0_1 a1)) := by
        have e : w1.heap.size + 1 + 1 = (w2.alloc (.cells #[.slice A0_0 l0_0.length c0_0, .slice (some ad) l0_1.length c0_1, .int .i64 a0_2] 28)).heap.size := by simp [hs2]
        rw [← hw5, e]; exact World.alloc_heap_new _ _
      have hX5 := (hB25.block _ (by omega)).trans hX2
      have hO5 : Boxed w5 w1.heap.size 3 (.int .i64 1) := (hB25.block _ (by omega)).trans hO
      have HB5 : Below w.heap.size w w5 := HB2.trans (hB25.mono (by omega))
      rw [hw5]
      refine range_up Fence.wide 5 trivial rfl (by omega) hch (Bs := w1.heap.size + 1 + 1) (Bf := w1.heap.size + 1) (n₀ := w.heap.size) (by omega) rfl rfl hS5 hF5 (by omega) ((SwAt.of hr0_0).step HB5)
        (fun pre W => Boxed W w1.heap.size 3 (.int .i64 (liveOf l0_0 1 pre)) ∧ W.heap[w.heap.size]? = some (.cells #[.slice A0_0 l0_0.length c0_0, .slice (some ad) l0_1.length c0_1, .int .i64 a0_2] 28 (0, 0)) ∧ Below w.heap.size w W)
        ?own ⟨hO5, hX5, HB5⟩
        (fun x => { tmps := #[.agg #[.slice A0_0 l0_0.length c0_0, .slice (some ad) l0_1.length c0_1, .int .i64 a0_2], .int .i64 a1, .pointer (some ⟨w.heap.size, 0, none⟩), undef, .int .i64 0, .pointer (some ⟨w1.heap.size, 0, none⟩), .int .i64 x.1,
          .agg #[.slice A0_0 l0_0.length c0_0, .slice (some ad) l0_1.length c0_1, .int .i64 a0_2], .int .i64 0, .bool false, .bool false, .int .i64 a1, .bool false, .bool false, .bool false, .int .i64 a1, .pointer (some ⟨w.heap.size, 1, none⟩), .slice (some ad) l0_1.length c0_1, .int .i64 (l0_1.length : Int), .bool false, .bool false,
          .agg #[.slice A0_0 l0_0.length c0_0, .slice (some ad) l0_1.length c0_1, .int .i64 a0_2], .pointer (some ⟨w.heap.size, 1, none⟩), .slice (some ad) l0_1.length c0_1, .int .i64 a1, .pointer (some (ad.add a1.toNat)), .int .i64 (rd l0_1 a1),
          .func (.func 51) #[] #[.pointer (some ⟨w1.heap.size + 1 + 1, 0, none⟩), .pointer (some ⟨w1.heap.size + 1, 0, none⟩)], .int .i64 x.1, undef, undef, undef, undef, undef, undef, undef, undef, undef], defers := [] }) ?assign ?body ?done
      case own =>
        rintro pre W W' row ⟨k1, k2, k3⟩ hg hrow
        have hne : ∀ b, b = w1.heap.size ∨ b = w.heap.size → some b ≠ row := by
          rintro b hb e
          rcases hrow b e.symm with e2 | ⟨e2, _⟩ <;> omega
        refine ⟨k1.kept hg (hne _ (.inl rfl)), (hg.block _ (Array.getElem?_eq_some_iff.1 k2).1 (hne _ (.inr rfl))).trans k2, k3.grown hg k3.size (fun r e => ?_)⟩
        rcases hrow r e with e2 | ⟨e2, _⟩ <;> omega
      case assign =>
        intro l x W K hK
        gi_wp2
        exact hK
      case body =>
        rintro l pre x W ⟨k1, k2, k3⟩ _
        have q1 := k1.cell
        have q2 := k1.frozen
        have q3 : W.cell? ⟨w.heap.size, 0, none⟩ = some (.slice A0_0 l0_0.length c0_0) := by simp [World.cell?, k2]
        obtain ⟨ad2, rfl, g0, g1, g2, g3, g4⟩ := at_T32 ((SwAt.of hr0_0).step k3).now x.1 x.2.1 x.2.2
        have u0 : (0 ≤ x.1) = True := eq_true x.2.1
        have u1 : (x.1 < (l0_0.length : Int)) = True := eq_true x.2.2
        have fin : ∀ v, v = mn (liveOf l0_0 1 pre) (rd_T32 l0_0 x.1).f2 → KeepsOthers W (W.setCell ⟨w1.heap.size, 0, none⟩ (.int .i64 v)).drew ∧ Keeps w.heap.size (w1.heap.size + 1 + 1) (w1.heap.size + 1) W (W.setCell ⟨w1.heap.size, 0, none⟩ (.int .i64 v)).drew ∧
            (Boxed (W.setCell ⟨w1.heap.size, 0, none⟩ (.int .i64 v)).drew w1.heap.size 3 (.int .i64 (liveOf l0_0 1 (pre ++ [x]))) ∧ (W.setCell ⟨w1.heap.size, 0, none⟩ (.int .i64 v)).drew.heap[w.heap.size]? = some (.cells #[.slice (some ad2) l0_0.length c0_0, .slice (some ad) l0_1.length c0_1, .int .i64 a0_2] 28 (0, 0)) ∧ Below w.heap.size w (W.setCell ⟨w1.heap.size, 0, none⟩ (.int .i64 v)).drew) := by
          intro v hv
          have hBl : Below w1.heap.size W (W.setCell ⟨w1.heap.size, 0, none⟩ (.int .i64 v)).drew := ((Below.refl _ W).setCell (p := ⟨w1.heap.size, 0, none⟩) (Nat.le_refl _) _).drew
          refine ⟨(KeepsOthers.setCell _ _ _).trans (KeepsOthers.drew _), ⟨hBl.mono (by omega), Below.heap_setCell _ _ _ _ (by show w1.heap.size + 1 + 1 ≠ w1.heap.size; omega), Below.heap_setCell _ _ _ _ (by show w1.heap.size + 1 ≠ w1.heap.size; omega)⟩, ?_, (hBl.block _ (by omega)).trans k2, k3.trans (hBl.mono (by omega))⟩
          rw [liveOf_snoc, ← hv]
          exact k1.set _
        gi_wp2
        gi_region_o
        all_goals gi_wp2
        all_goals (refine fin _ ?_; unfold mn; split <;> omega)
      case done =>
        rintro D W hD ⟨k1, k2, k3⟩ hK
        have q1 := k1.cell
        gi_wp2
        refine ⟨by simp, .inl ⟨_, _, rfl, run_takeDeferred hK, ?_⟩⟩
        exact ⟨_, results_tmp rfl _ _ _, rfl, k3.trans (belowK_b (w := w) (Nat.le_refl _) W D _ _ (by omega) hK rfl rfl)⟩

end

/-! ### feeder_timely: function 46 -/
mutual
def feeder_timely.j0 : Nat → Int → Bool → List (S32) → List Int → Int → Option (Bool)
  | 0, _, _, _, _, _ => none
  | k + 1, x1, x12, x126000, x126001, x126002 => if x12 = true then (some false) else (feeder_timely.l0 k x1 x126000 (x126000.length : Int) 0)
def feeder_timely.l0 : Nat → Int → List (S32) → Int → Int → Option (Bool)
  | 0, _, _, _, _ => none
  | k + 1, x1, x14, x15, x16 => if x16 < x15 then (if 0 ≤ x16 then (if x16 < (x14.length : Int) then (if x1 < ((rd_T32 x14 x16).f1) then (some false) else (feeder_timely.l0 k x1 x14 x15 (wrap64 (x16 + 1)))) else (none)) else (none)) else (some true)
end
def feeder_timely.f (k : Nat) (l0_0 : List (S32)) (l0_1 : List Int) (a0_2 : Int) (a1 : Int) : Option (Bool) := if a1 < 0 then (feeder_timely.j0 k a1 true l0_0 l0_1 a0_2) else (feeder_timely.j0 k a1 (decide (a1 > 2147483648)) l0_0 l0_1 a0_2)
theorem feeder_timely.mono_l : ∀ k, (∀ y0 y1 y2 y3 y4, LeO (feeder_timely.j0 k y0 y1 y2 y3 y4) (feeder_timely.j0 (k + 1) y0 y1 y2 y3 y4)) ∧ (∀ y0 y1 y2 y3, LeO (feeder_timely.l0 k y0 y1 y2 y3) (feeder_timely.l0 (k + 1) y0 y1 y2 y3))
  | 0 => ⟨fun _ _ _ _ _ r h => by simp [feeder_timely.j0] at h, fun _ _ _ _ r h => by simp [feeder_timely.l0] at h⟩
  | k + 1 => by
    obtain ⟨ih0, ih1⟩ := feeder_timely.mono_l k
    refine ⟨?_, ?_⟩
    · intro y0 y1 y2 y3 y4
      unfold feeder_timely.j0
      repeat' first
      | (with_reducible exact ih0 _ _ _ _ _)
      | (with_reducible exact ih1 _ _ _ _)
      | (with_reducible exact LeO.refl _)
      | (with_reducible exact LeO.none _)
      | (with_reducible refine LeO.ite ?_ ?_)
      | (with_reducible refine LeO.bind ?_ (fun _ => ?_))
      | exact ih0 _ _ _ _ _
      | exact ih1 _ _ _ _
      | exact LeO.none _
      | refine LeO.ite ?_ ?_
      | refine LeO.bind ?_ (fun _ => ?_)
    · intro y0 y1 y2 y3
      unfold feeder_timely.l0
      repeat' first
      | (with_reducible exact ih0 _ _ _ _ _)
      | (with_reducible exact ih1 _ _ _ _)
      | (with_reducible exact LeO.refl _)
      | (with_reducible exact LeO.none _)
      | (with_reducible refine LeO.ite ?_ ?_)
      | (with_reducible refine LeO.bind ?_ (fun _ => ?_))
      | exact ih0 _ _ _ _ _
      | exact ih1 _ _ _ _
      | exact LeO.none _
      | refine LeO.ite ?_ ?_
      | refine LeO.bind ?_ (fun _ => ?_)
theorem feeder_timely.mono : ∀ a0 a1 a2 a3 k, LeO (feeder_timely.f k a0 a1 a2 a3) (feeder_timely.f (k + 1) a0 a1 a2 a3) := by
  intro a0 a1 a2 a3 k
  obtain ⟨ih0, ih1⟩ := feeder_timely.mono_l k
  unfold feeder_timely.f
  repeat' first
      | (with_reducible exact ih0 _ _ _ _ _)
      | (with_reducible exact ih1 _ _ _ _)
      | (with_reducible exact LeO.refl _)
      | (with_reducible exact LeO.none _)
      | (with_reducible refine LeO.ite ?_ ?_)
      | (with_reducible refine LeO.bind ?_ (fun _ => ?_))
      | exact ih0 _ _ _ _ _
      | exact ih1 _ _ _ _
      | exact LeO.none _
      | refine LeO.ite ?_ ?_
      | refine LeO.bind ?_ (fun _ => ?_)
set_option maxHeartbeats 8000000 in
set_option maxRecDepth 100000 in
theorem feeder_timely.calls (k : Nat) (A0_0 : Option Addr) (c0_0 : Nat) (l0_0 : List (S32)) (A0_1 : Option Addr) (c0_1 : Nat) (l0_1 : List Int) (a0_2 : Int) (a1 : Int) (r : Bool) (w : World) (hr0_0 : Kd.C k32 w A0_0 l0_0.length l0_0) (hc0_0 : l0_0.length ≤ c0_0) (hr0_1 : Kd.C (Kd.int .i64) w A0_1 l0_1.length l0_1) (hc0_1 : l0_1.length ≤ c0_1) (h : feeder_timely.f k l0_0 l0_1 a0_2 a1 = some r) :
    Calls Try.prog 46 #[.agg #[.slice A0_0 l0_0.length c0_0, .slice A0_1 l0_1.length c0_1, .int .i64 a0_2], .int .i64 a1] w fun e w' => e = .returned (.bool r) ∧ Below w.heap.size w w' := by
  have hu28 := Try.underlying28
  have hu32 := Try.underlying32
  have HR0_0 := aM hr0_0
  have HC0_0 := aM hc0_0
  clear hr0_0 hc0_0
  have HR0_1 := aM hr0_1
  have HC0_1 := aM hc0_1
  clear hr0_1 hc0_1
  have HB := aM (Below.refl w.heap.size w)
  have H : (if a1 < 0 then (feeder_timely.j0 k a1 true l0_0 l0_1 a0_2) else (feeder_timely.j0 k a1 (decide (a1 > 2147483648)) l0_0 l0_1 a0_2)) = some r := h
  clear h
  have HC3 := aM H
  clear H
  go_enter Try.func46, Try.ntmps46
  go_upto_region 1 with (first | ((with_reducible refine gate_dst (N := 2) rfl ?_); refine box_event ?hg (N := 2) ?hd (cs := #[.slice A0_0 l0_0.length c0_0, .slice A0_1 l0_1.length c0_1, .int .i64 a0_2]) (t := 28) ?hr ?_; (case hd => rfl); (case hg => rfl); (case hr => first | (go_simp; done) | (go_simp; rfl)); intro gb125 hg w4 hbox hb; have BK125 := aM (hbox); have GW125 := aM ((by rw [hg]; exact (below_size (below_mv HB.out)) : w.heap.size ≤ gb125)); have GE125 := aM ((by rw [hg]; exact (below_size (below_mv HB.out)) : w.heap.size ≤ gb125)); replace HB := aM (below_step (below_mv HB.out) hb); clear hb hbox hg))
  (try simp only [Act.put, List.setIfInBounds_toArray, List.set_cons_zero, List.set_cons_succ])
  go_cut [12] (fun v12 wc => ∃ (kq : Nat) (x12_2 : Bool), v12 = .bool x12_2 ∧ Aside0 (feeder_timely.j0 kq a1 x12_2 l0_0 l0_1 a0_2 = some r) ∧ Aside0 (kq ≤ k) ∧ Aside0 (wc.heap[gb125]? = some (.cells #[(.slice A0_0 l0_0.length c0_0), (.slice A0_1 l0_1.length c0_1), .int .i64 a0_2] 28 (0, 0))) ∧ Aside0 (Below w.heap.size w wc))
  case first =>
    have H := HC3.out
    clear HC3
    by_cases c5 : a1 < 0
    · rw [if_pos c5] at H
      have c5b0 : decide (a1 < 0) = true := decide_eq_true c5
      clear c5
      (first | rw [c5b0] | (simp only [i64_w, i32_w]; rw [c5b0]) | skip)
      have H' := aM H
      clear H
      go_wp2
      go_meet
      case rel => exact ⟨_, (true), (by first | rfl | (simp; done) | (simp [*]; done)), H', ⟨by first | omega | exact Nat.le_refl _⟩, ⟨blk_mv BK125.out⟩, ⟨by repeat (first | (with_reducible first | exact HB.out | apply bA | apply bN | apply bD | refine below_set ?_ GE125.out) | exact HB.out)⟩⟩
    · rw [if_neg c5] at H
      have c5b0 : decide (a1 < 0) = false := decide_eq_false c5
      clear c5
      (first | rw [c5b0] | (simp only [i64_w, i32_w]; rw [c5b0]) | skip)
      have H' := aM H
      clear H
      go_wp2
      go_meet
      case rel => exact ⟨_, (decide (a1 > 2147483648)), (by first | rfl | (simp; done) | (simp [*]; done)), H', ⟨by first | omega | exact Nat.le_refl _⟩, ⟨blk_mv BK125.out⟩, ⟨by repeat (first | (with_reducible first | exact HB.out | apply bA | apply bN | apply bD | refine below_set ?_ GE125.out) | exact HB.out)⟩⟩
  case rest =>
    clear HC3
    obtain ⟨kq, x12_2, rfl, HA, HJ2, BK125, HB⟩ := hcut
    cases kq with
    | zero => exact absurd HA.out (by simp [feeder_timely.j0])
    | succ kj2 =>
      have H := HA.out
      clear HA
      simp only [feeder_timely.j0] at H
      by_cases c6 : x12_2 = true
      · subst c6
        have H1 : (some false) = some r := by rw [if_pos rfl] at H; exact H
        clear H
        have H := H1
        clear H1
        obtain rfl := Option.some.inj H
        go_wp2
        go_ret
        exact ⟨by first | rfl | (simp [errW_none, errW_some] <;> rfl) | (simp [*, errW_none, errW_some] <;> rfl), by repeat (first | (with_reducible first | exact HB.out | apply bA | apply bN | apply bD | refine below_set ?_ GE125.out) | exact HB.out)⟩
      · replace c6 := Bool.eq_false_iff.mpr c6
        subst c6
        have H1 : (feeder_timely.l0 kj2 a1 l0_0 (l0_0.length : Int) 0) = some r := by rw [if_neg (show ¬ (false = true) by decide)] at H; exact H
        clear H
        have H := H1
        clear H1
        have H' := aM H
        clear H
        obtain ⟨hcz7_0, hcz7_1, hcz7_2, hfz7_0, hfz7_1, hfz7_2⟩ := blk3 BK125.out
        go_wp2
        go_loopg [16] kj2 (fun kq v16 w' => ∃ (x16_2 : Int), v16 = .int .i64 x16_2 ∧ Aside0 (feeder_timely.l0 kq a1 l0_0 (l0_0.length : Int) x16_2 = some r) ∧ Aside0 (kq ≤ kj2) ∧ Aside0 (w'.heap[gb125]? = some (.cells #[(.slice A0_0 l0_0.length c0_0), (.slice A0_1 l0_1.length c0_1), .int .i64 a0_2] 28 (0, 0))) ∧ Aside0 (Below w.heap.size w w'))
        case atStart => exact ⟨(0), (by first | rfl | (simp; done) | (simp [*]; done)), H', ⟨Nat.le_refl _⟩, ⟨blk_mv BK125.out⟩, ⟨by repeat (first | (with_reducible first | exact HB.out | apply bA | apply bN | apply bD | refine below_set ?_ GE125.out) | exact HB.out)⟩⟩
        case round =>
          clear H'
          obtain ⟨x16_2, rfl, HA, HK2, BK125, HB⟩ := hrel
          cases gk with
          | zero => exact absurd HA.out (by simp [feeder_timely.l0])
          | succ k2 =>
            have H := HA.out
            clear HA
            simp only [feeder_timely.l0] at H
            by_cases c8 : x16_2 < (l0_0.length : Int)
            · rw [if_pos c8] at H
              have c8b0 : decide (x16_2 < (l0_0.length : Int)) = true := decide_eq_true c8
              clear c8
              by_cases c9 : 0 ≤ x16_2
              rotate_left
              · rw [if_neg c9] at H
                exact absurd H (by simp)
              rw [if_pos c9] at H
              have c9b0 : decide (0 ≤ x16_2) = true := decide_eq_true c9
              clear c9
              by_cases c10 : x16_2 < (l0_0.length : Int)
              rotate_left
              · rw [if_neg c10] at H
                exact absurd H (by simp)
              rw [if_pos c10] at H
              have c10b0 : decide (x16_2 < (l0_0.length : Int)) = true := decide_eq_true c10
              clear c10
              by_cases c11 : a1 < ((rd_T32 l0_0 x16_2).f1)
              · rw [if_pos c11] at H
                have c11b0 : decide (a1 < ((rd_T32 l0_0 x16_2).f1)) = true := decide_eq_true c11
                clear c11
                obtain rfl := Option.some.inj H
                have p126 : 0 ≤ (x16_2 : Int) := of_decide_eq_true (by first | (with_reducible assumption) | assumption)
                have q126 : x16_2 < (l0_0.length : Int) := of_decide_eq_true (by first | (with_reducible assumption) | assumption)
                obtain ⟨ad126, e126, hx126_0, hx126_1, hx126_2, hx126_3, hx126_4⟩ := at_T32 HR0_0.out x16_2 p126 q126
                cases e126
                try replace hx126_0 := (HB.out.cell (World.block_lt_of_cell? w _ hx126_0)).trans hx126_0
                try replace hx126_1 := (HB.out.cell (World.block_lt_of_cell? w _ hx126_1)).trans hx126_1
                try replace hx126_2 := (HB.out.cell (World.block_lt_of_cell? w _ hx126_2)).trans hx126_2
                try replace hx126_3 := (HB.out.cell (World.block_lt_of_cell? w _ hx126_3)).trans hx126_3
                try replace hx126_4 := (HB.out.cell (World.block_lt_of_cell? w _ hx126_4)).trans hx126_4
                replace p126 := eq_true p126
                replace q126 := eq_true q126
                go_wp2_with (first | ((with_reducible refine gate_dst (N := 6) rfl ?_); refine box_event ?hg (N := 6) ?hd (cs := #[.int .i64 0, .int .i64 0, .int .i64 0, .bool false, .bool false]) (t := 32) ?hr ?_; (case hd => rfl); (case hg => rfl); (case hr => first | (go_simp; done) | (go_simp; rfl)); intro gb127 hg w12 hbox hb; have BK127 := aM (hbox); have GW127 := aM ((by rw [hg]; exact (below_size (by repeat (first | (with_reducible first | exact HB.out | apply bA | apply bN | apply bD | refine below_set ?_ GE125.out) | exact HB.out))) : w.heap.size ≤ gb127)); have GE127 := aM ((by rw [hg]; exact (below_size (by repeat (first | (with_reducible first | exact HB.out | apply bA | apply bN | apply bD | refine below_set ?_ GE125.out) | exact HB.out))) : w.heap.size ≤ gb127)); replace HB := aM (below_step (by repeat (first | (with_reducible first | exact HB.out | apply bA | apply bN | apply bD | refine below_set ?_ GE125.out) | exact HB.out)) hb); have NB125_127 := aM ((by rw [hg]; exact Nat.ne_of_lt (blk_lt (blk_mv BK125.out)) : gb125 ≠ gb127)); have NB127_125 := aM ((by rw [hg]; exact Nat.ne_of_gt (blk_lt (blk_mv BK125.out)) : gb127 ≠ gb125)); replace BK125 := aM (blk_below (blk_mv BK125.out) hb); clear hb hbox hg; have hnb13 := NB127_125.out; have hnc13 := NB125_127.out; have hcz14_0 : w12.cell? ⟨gb127, 0, none⟩ = some (.int .i64 0) := (blk_cell BK127.out 0).trans rfl; have hcz14_1 : w12.cell? ⟨gb127, 1, none⟩ = some (.int .i64 0) := (blk_cell BK127.out 1).trans rfl; have hcz14_2 : w12.cell? ⟨gb127, 2, none⟩ = some (.int .i64 0) := (blk_cell BK127.out 2).trans rfl; have hcz14_3 : w12.cell? ⟨gb127, 3, none⟩ = some (.bool false) := (blk_cell BK127.out 3).trans rfl; have hcz14_4 : w12.cell? ⟨gb127, 4, none⟩ = some (.bool false) := (blk_cell BK127.out 4).trans rfl; have hfz14_0 := blk_frozen BK127.out 0; have hfz14_1 := blk_frozen BK127.out 1; have hfz14_2 := blk_frozen BK127.out 2; have hfz14_3 := blk_frozen BK127.out 3; have hfz14_4 := blk_frozen BK127.out 4))
                go_ret
                exact ⟨by first | rfl | (simp [errW_none, errW_some] <;> rfl) | (simp [*, errW_none, errW_some] <;> rfl), by repeat (first | (with_reducible first | exact HB.out | apply bA | apply bN | apply bD | refine below_set ?_ GE125.out | refine below_set ?_ GE127.out) | exact HB.out)⟩
              · rw [if_neg c11] at H
                have c11b0 : decide (a1 < ((rd_T32 l0_0 x16_2).f1)) = false := decide_eq_false c11
                clear c11
                have H' := aM H
                clear H
                have p126 : 0 ≤ (x16_2 : Int) := of_decide_eq_true (by first | (with_reducible assumption) | assumption)
                have q126 : x16_2 < (l0_0.length : Int) := of_decide_eq_true (by first | (with_reducible assumption) | assumption)
                obtain ⟨ad126, e126, hx126_0, hx126_1, hx126_2, hx126_3, hx126_4⟩ := at_T32 HR0_0.out x16_2 p126 q126
                cases e126
                try replace hx126_0 := (HB.out.cell (World.block_lt_of_cell? w _ hx126_0)).trans hx126_0
                try replace hx126_1 := (HB.out.cell (World.block_lt_of_cell? w _ hx126_1)).trans hx126_1
                try replace hx126_2 := (HB.out.cell (World.block_lt_of_cell? w _ hx126_2)).trans hx126_2
                try replace hx126_3 := (HB.out.cell (World.block_lt_of_cell? w _ hx126_3)).trans hx126_3
                try replace hx126_4 := (HB.out.cell (World.block_lt_of_cell? w _ hx126_4)).trans hx126_4
                replace p126 := eq_true p126
                replace q126 := eq_true q126
                go_wp2_with (first | ((with_reducible refine gate_dst (N := 6) rfl ?_); refine box_event ?hg (N := 6) ?hd (cs := #[.int .i64 0, .int .i64 0, .int .i64 0, .bool false, .bool false]) (t := 32) ?hr ?_; (case hd => rfl); (case hg => rfl); (case hr => first | (go_simp; done) | (go_simp; rfl)); intro gb127 hg w15 hbox hb; have BK127 := aM (hbox); have GW127 := aM ((by rw [hg]; exact (below_size (by repeat (first | (with_reducible first | exact HB.out | apply bA | apply bN | apply bD | refine below_set ?_ GE125.out) | exact HB.out))) : w.heap.size ≤ gb127)); have GE127 := aM ((by rw [hg]; exact (below_size (by repeat (first | (with_reducible first | exact HB.out | apply bA | apply bN | apply bD | refine below_set ?_ GE125.out) | exact HB.out))) : w.heap.size ≤ gb127)); replace HB := aM (below_step (by repeat (first | (with_reducible first | exact HB.out | apply bA | apply bN | apply bD | refine below_set ?_ GE125.out) | exact HB.out)) hb); have NB125_127 := aM ((by rw [hg]; exact Nat.ne_of_lt (blk_lt (blk_mv BK125.out)) : gb125 ≠ gb127)); have NB127_125 := aM ((by rw [hg]; exact Nat.ne_of_gt (blk_lt (blk_mv BK125.out)) : gb127 ≠ gb125)); replace BK125 := aM (blk_below (blk_mv BK125.out) hb); clear hb hbox hg; have hnb16 := NB127_125.out; have hnc16 := NB125_127.out; have hcz17_0 : w15.cell? ⟨gb127, 0, none⟩ = some (.int .i64 0) := (blk_cell BK127.out 0).trans rfl; have hcz17_1 : w15.cell? ⟨gb127, 1, none⟩ = some (.int .i64 0) := (blk_cell BK127.out 1).trans rfl; have hcz17_2 : w15.cell? ⟨gb127, 2, none⟩ = some (.int .i64 0) := (blk_cell BK127.out 2).trans rfl; have hcz17_3 : w15.cell? ⟨gb127, 3, none⟩ = some (.bool false) := (blk_cell BK127.out 3).trans rfl; have hcz17_4 : w15.cell? ⟨gb127, 4, none⟩ = some (.bool false) := (blk_cell BK127.out 4).trans rfl; have hfz17_0 := blk_frozen BK127.out 0; have hfz17_1 := blk_frozen BK127.out 1; have hfz17_2 := blk_frozen BK127.out 2; have hfz17_3 := blk_frozen BK127.out 3; have hfz17_4 := blk_frozen BK127.out 4))
                go_roundg k2
                case measure => have := HJ2.out; have := HK2.out; omega
                case rel => exact ⟨(wrap64 (x16_2 + 1)), (by first | rfl | (simp; done) | (simp [*]; done)), H', ⟨by have := HJ2.out; have := HK2.out; omega⟩, ⟨by (with_reducible repeat (first | refine kN ?_ _ | refine kD ?_ | refine kA ?_ _)); refine blk_far ?_ NB125_127.out _; (with_reducible repeat (first | refine kN ?_ _ | refine kD ?_ | refine kA ?_ _)); refine blk_far ?_ NB125_127.out _; (with_reducible repeat (first | refine kN ?_ _ | refine kD ?_ | refine kA ?_ _)); refine blk_far ?_ NB125_127.out _; (with_reducible repeat (first | refine kN ?_ _ | refine kD ?_ | refine kA ?_ _)); refine blk_far ?_ NB125_127.out _; (with_reducible repeat (first | refine kN ?_ _ | refine kD ?_ | refine kA ?_ _)); refine blk_far ?_ NB125_127.out _; (with_reducible repeat (first | refine kN ?_ _ | refine kD ?_ | refine kA ?_ _)); exact BK125.out⟩, ⟨by repeat (first | (with_reducible first | exact HB.out | apply bA | apply bN | apply bD | refine below_set ?_ GE125.out | refine below_set ?_ GE127.out) | exact HB.out)⟩⟩
            · rw [if_neg c8] at H
              have c8b0 : decide (x16_2 < (l0_0.length : Int)) = false := decide_eq_false c8
              clear c8
              obtain rfl := Option.some.inj H
              go_wp2
              go_ret
              exact ⟨by first | rfl | (simp [errW_none, errW_some] <;> rfl) | (simp [*, errW_none, errW_some] <;> rfl), by repeat (first | (with_reducible first | exact HB.out | apply bA | apply bN | apply bD | refine below_set ?_ GE125.out) | exact HB.out)⟩

/-! ### feeder_can: function 42 -/
def feeder_can.j0 : Nat → Int → Bool → List (S32) → List Int → Int → Option (Int)
  | 0, _, _, _, _, _ => none
  | k + 1, x2, x21, x129000, x129001, x129002 => if x21 = true then (some 16) else ((feeder_timely.f k x129000 x129001 x129002 x2).bind fun t130 => (if t130 = true then (some 0) else (some 8)))
def feeder_can.f (k : Nat) (l0_0 : List (S32)) (l0_1 : List Int) (a0_2 : Int) (a1 : Int) (a2 : Int) : Option (Int) := (feeder_Check.f k l0_0 l0_1 a0_2).bind fun t129 => (if t129 = 0 then (if a1 < 0 then (feeder_can.j0 k a2 true l0_0 l0_1 a0_2) else (feeder_can.j0 k a2 (decide (a1 ≥ (l0_0.length : Int))) l0_0 l0_1 a0_2)) else (some t129))
theorem feeder_can.mono_l : ∀ k, (∀ y0 y1 y2 y3 y4, LeO (feeder_can.j0 k y0 y1 y2 y3 y4) (feeder_can.j0 (k + 1) y0 y1 y2 y3 y4))
  | 0 => fun _ _ _ _ _ r h => by simp [feeder_can.j0] at h
  | k + 1 => by
    have ih0 := feeder_can.mono_l k
    · intro y0 y1 y2 y3 y4
      unfold feeder_can.j0
      repeat' first
      | (with_reducible exact ih0 _ _ _ _ _)
      | (with_reducible exact feeder_Check.mono _ _ _ _)
      | (with_reducible exact feeder_timely.mono _ _ _ _ _)
      | (with_reducible exact LeO.refl _)
      | (with_reducible exact LeO.none _)
      | (with_reducible refine LeO.ite ?_ ?_)
      | (with_reducible refine LeO.bind ?_ (fun _ => ?_))
      | exact ih0 _ _ _ _ _
      | exact LeO.none _
      | refine LeO.ite ?_ ?_
      | refine LeO.bind ?_ (fun _ => ?_)
theorem feeder_can.mono : ∀ a0 a1 a2 a3 a4 k, LeO (feeder_can.f k a0 a1 a2 a3 a4) (feeder_can.f (k + 1) a0 a1 a2 a3 a4) := by
  intro a0 a1 a2 a3 a4 k
  have ih0 := feeder_can.mono_l k
  unfold feeder_can.f
  repeat' first
      | (with_reducible exact ih0 _ _ _ _ _)
      | (with_reducible exact feeder_Check.mono _ _ _ _)
      | (with_reducible exact feeder_timely.mono _ _ _ _ _)
      | (with_reducible exact LeO.refl _)
      | (with_reducible exact LeO.none _)
      | (with_reducible refine LeO.ite ?_ ?_)
      | (with_reducible refine LeO.bind ?_ (fun _ => ?_))
      | exact ih0 _ _ _ _ _
      | exact LeO.none _
      | refine LeO.ite ?_ ?_
      | refine LeO.bind ?_ (fun _ => ?_)
set_option maxHeartbeats 8000000 in
set_option maxRecDepth 100000 in
theorem feeder_can.calls (k : Nat) (A0_0 : Option Addr) (c0_0 : Nat) (l0_0 : List (S32)) (A0_1 : Option Addr) (c0_1 : Nat) (l0_1 : List Int) (a0_2 : Int) (a1 : Int) (a2 : Int) (r : Int) (w : World) (hr0_0 : Kd.C k32 w A0_0 l0_0.length l0_0) (hc0_0 : l0_0.length ≤ c0_0) (hr0_1 : Kd.C (Kd.int .i64) w A0_1 l0_1.length l0_1) (hc0_1 : l0_1.length ≤ c0_1) (h : feeder_can.f k l0_0 l0_1 a0_2 a1 a2 = some r) :
    Calls Try.prog 42 #[.agg #[.slice A0_0 l0_0.length c0_0, .slice A0_1 l0_1.length c0_1, .int .i64 a0_2], .int .i64 a1, .int .i64 a2] w fun e w' => e = .returned (.int .i64 r) ∧ Below w.heap.size w w' := by
  have hu28 := Try.underlying28
  have HR0_0 := aM hr0_0
  have HC0_0 := aM hc0_0
  clear hr0_0 hc0_0
  have HR0_1 := aM hr0_1
  have HC0_1 := aM hc0_1
  clear hr0_1 hc0_1
  have HB := aM (Below.refl w.heap.size w)
  have H : ((feeder_Check.f k l0_0 l0_1 a0_2).bind fun t129 => (if t129 = 0 then (if a1 < 0 then (feeder_can.j0 k a2 true l0_0 l0_1 a0_2) else (feeder_can.j0 k a2 (decide (a1 ≥ (l0_0.length : Int))) l0_0 l0_1 a0_2)) else (some t129))) = some r := h
  clear h
  replace H := Option.bind_eq_some_iff.mp H
  obtain ⟨t129, A40, H⟩ := H
  replace H : (if t129 = 0 then (if a1 < 0 then (feeder_can.j0 k a2 true l0_0 l0_1 a0_2) else (feeder_can.j0 k a2 (decide (a1 ≥ (l0_0.length : Int))) l0_0 l0_1 a0_2)) else (some t129)) = some r := H
  have A4 := aM A40
  clear A40
  by_cases c5 : t129 = 0
  · rw [if_pos c5] at H
    have c5b0 : (t129 == 0) = true := beq_iff_eq.mpr c5
    have c5b1 : (t129 != 0) = false := bne_eq_false_iff_eq.mpr c5
    clear c5
    have HC6 := aM H
    clear H
    go_enter Try.func42, Try.ntmps42
    go_upto_region 4 with (first | ((with_reducible refine gate_dst (N := 3) rfl ?_); (try (refine gate_guard (by rfl) ?_; dsimp only)); refine box_event ?hg (N := 3) ?hd (cs := #[.slice A0_0 l0_0.length c0_0, .slice A0_1 l0_1.length c0_1, .int .i64 a0_2]) (t := 28) ?hr ?_; (case hd => rfl); (case hg => rfl); (case hr => first | (go_simp; done) | (go_simp; rfl)); intro gb128 hg w7 hbox hb; have BK128 := aM (hbox); have GW128 := aM ((by rw [hg]; exact (below_size (below_mv HB.out)) : w.heap.size ≤ gb128)); have GE128 := aM ((by rw [hg]; exact (below_size (below_mv HB.out)) : w.heap.size ≤ gb128)); replace HB := aM (below_step (below_mv HB.out) hb); clear hb hbox hg; obtain ⟨hcz8_0, hcz8_1, hcz8_2, hfz8_0, hfz8_1, hfz8_2⟩ := blk3 BK128.out) | ((with_reducible refine gate_callee (f := 23) rfl ?_); refine goesL_ (some 9) rfl rfl Try.func23 (by kernel_rfl) rfl #[.agg #[.slice A0_0 l0_0.length c0_0, .slice A0_1 l0_1.length c0_1, .int .i64 a0_2]] rfl (by first | rfl | (simp only [List.map_toArray, List.map_cons, List.map_nil, List.length_drop, List.length_take]; rfl)) ?_; (with_reducible refine (feeder_Check.calls k _ _ l0_0 _ _ l0_1 a0_2 t129 _ ?side1 ?side2 ?side3 ?side4 A4.out).mono ?_); (case side1 => first | exact C_mv (Kd.C_below HR0_0.out HB.out) | exact C_mv HR0_0.out); (case side2 => exact HC0_0.out); (case side3 => first | exact C_mv (Kd.C_below HR0_1.out HB.out) | exact C_mv HR0_1.out); (case side4 => exact HC0_1.out); rintro e w9 ⟨rfl, hb⟩; refine ⟨_, rfl, ?_⟩; replace BK128 := aM (blk_below (blk_mv BK128.out) hb); replace HB := aM (below_step (by repeat (first | (with_reducible first | exact HB.out | apply bA | apply bN | apply bD | refine below_set ?_ GE128.out) | exact HB.out)) hb); (try clear hb); (try clear hb2); (try clear hge); (try clear hk); (try clear hi)))
    (try simp only [Act.put, List.setIfInBounds_toArray, List.set_cons_zero, List.set_cons_succ])
    go_cut [21] (fun v21 wc => ∃ (kq : Nat) (x21_5 : Bool), v21 = .bool x21_5 ∧ Aside0 (feeder_can.j0 kq a2 x21_5 l0_0 l0_1 a0_2 = some r) ∧ Aside0 (kq ≤ k) ∧ Aside0 (wc.heap[gb128]? = some (.cells #[(.slice A0_0 l0_0.length c0_0), (.slice A0_1 l0_1.length c0_1), .int .i64 a0_2] 28 (0, 0))) ∧ Aside0 (Below w.heap.size w wc))
    case first =>
      have H := HC6.out
      clear HC6
      by_cases c10 : a1 < 0
      · rw [if_pos c10] at H
        have c10b0 : decide (a1 < 0) = true := decide_eq_true c10
        clear c10
        (first | rw [c10b0] | (simp only [i64_w, i32_w]; rw [c10b0]) | skip)
        have H' := aM H
        clear H
        go_wp2
        go_meet
        case rel => exact ⟨_, (true), (by first | rfl | (simp; done) | (simp [*]; done)), H', ⟨by first | omega | exact Nat.le_refl _⟩, ⟨blk_mv BK128.out⟩, ⟨by repeat (first | (with_reducible first | exact HB.out | apply bA | apply bN | apply bD | refine below_set ?_ GE128.out) | exact HB.out)⟩⟩
      · rw [if_neg c10] at H
        have c10b0 : decide (a1 < 0) = false := decide_eq_false c10
        clear c10
        (first | rw [c10b0] | (simp only [i64_w, i32_w]; rw [c10b0]) | skip)
        have H' := aM H
        clear H
        obtain ⟨hcz11_0, hcz11_1, hcz11_2, hfz11_0, hfz11_1, hfz11_2⟩ := blk3 BK128.out
        go_wp2
        go_meet
        case rel => exact ⟨_, (decide (a1 ≥ (l0_0.length : Int))), (by first | rfl | (simp; done) | (simp [*]; done)), H', ⟨by first | omega | exact Nat.le_refl _⟩, ⟨blk_mv BK128.out⟩, ⟨by repeat (first | (with_reducible first | exact HB.out | apply bA | apply bN | apply bD | refine below_set ?_ GE128.out) | exact HB.out)⟩⟩
    case rest =>
      clear HC6
      obtain ⟨kq, x21_5, rfl, HA, HJ5, BK128, HB⟩ := hcut
      cases kq with
      | zero => exact absurd HA.out (by simp [feeder_can.j0])
      | succ kj5 =>
        have H := HA.out
        clear HA
        simp only [feeder_can.j0] at H
        by_cases c12 : x21_5 = true
        · subst c12
          have H1 : (some 16) = some r := by rw [if_pos rfl] at H; exact H
          clear H
          have H := H1
          clear H1
          obtain rfl := Option.some.inj H
          go_wp2
          go_ret
          exact ⟨by first | rfl | (simp [errW_none, errW_some] <;> rfl) | (simp [*, errW_none, errW_some] <;> rfl), by repeat (first | (with_reducible first | exact HB.out | apply bA | apply bN | apply bD | refine below_set ?_ GE128.out) | exact HB.out)⟩
        · replace c12 := Bool.eq_false_iff.mpr c12
          subst c12
          have H1 : ((feeder_timely.f kj5 l0_0 l0_1 a0_2 a2).bind fun t130 => (if t130 = true then (some 0) else (some 8))) = some r := by rw [if_neg (show ¬ (false = true) by decide)] at H; exact H
          clear H
          have H := H1
          clear H1
          replace H := Option.bind_eq_some_iff.mp H
          obtain ⟨t130, A130, H⟩ := H
          replace H : (if t130 = true then (some 0) else (some 8)) = some r := H
          have A13 := aM A130
          clear A130
          by_cases c14 : t130 = true
          · subst c14
            have H1 : (some 0) = some r := by rw [if_pos rfl] at H; exact H
            clear H
            have H := H1
            clear H1
            obtain rfl := Option.some.inj H
            obtain ⟨hcz15_0, hcz15_1, hcz15_2, hfz15_0, hfz15_1, hfz15_2⟩ := blk3 BK128.out
            go_wp2_with (first | ((with_reducible refine gate_callee (f := 46) rfl ?_); refine goesL_ (some 24) rfl rfl Try.func46 (by kernel_rfl) rfl #[.agg #[.slice A0_0 l0_0.length c0_0, .slice A0_1 l0_1.length c0_1, .int .i64 a0_2], .int .i64 a2] rfl (by first | rfl | (simp only [List.map_toArray, List.map_cons, List.map_nil, List.length_drop, List.length_take]; rfl)) ?_; (with_reducible refine (feeder_timely.calls kj5 _ _ l0_0 _ _ l0_1 a0_2 a2 true _ ?side1 ?side2 ?side3 ?side4 A13.out).mono ?_); (case side1 => first | exact C_mv (Kd.C_below HR0_0.out HB.out) | exact C_mv HR0_0.out); (case side2 => exact HC0_0.out); (case side3 => first | exact C_mv (Kd.C_below HR0_1.out HB.out) | exact C_mv HR0_1.out); (case side4 => exact HC0_1.out); rintro e w16 ⟨rfl, hb⟩; refine ⟨_, rfl, ?_⟩; replace BK128 := aM (blk_below (blk_mv BK128.out) hb); replace HB := aM (below_step (by repeat (first | (with_reducible first | exact HB.out | apply bA | apply bN | apply bD | refine below_set ?_ GE128.out) | exact HB.out)) hb); (try clear hb); (try clear hb2); (try clear hge); (try clear hk); (try clear hi)))
            go_ret
            exact ⟨by first | rfl | (simp [errW_none, errW_some] <;> rfl) | (simp [*, errW_none, errW_some] <;> rfl), by repeat (first | (with_reducible first | exact HB.out | apply bA | apply bN | apply bD | refine below_set ?_ GE128.out) | exact HB.out)⟩
          · replace c14 := Bool.eq_false_iff.mpr c14
            subst c14
            have H1 : (some 8) = some r := by rw [if_neg (show ¬ (false = true) by decide)] at H; exact H
            clear H
            have H := H1
            clear H1
            obtain rfl := Option.some.inj H
            obtain ⟨hcz17_0, hcz17_1, hcz17_2, hfz17_0, hfz17_1, hfz17_2⟩ := blk3 BK128.out
            go_wp2_with (first | ((with_reducible refine gate_callee (f := 46) rfl ?_); refine goesL_ (some 24) rfl rfl Try.func46 (by kernel_rfl) rfl #[.agg #[.slice A0_0 l0_0.length c0_0, .slice A0_1 l0_1.length c0_1, .int .i64 a0_2], .int .i64 a2] rfl (by first | rfl | (simp only [List.map_toArray, List.map_cons, List.map_nil, List.length_drop, List.length_take]; rfl)) ?_; (with_reducible refine (feeder_timely.calls kj5 _ _ l0_0 _ _ l0_1 a0_2 a2 false _ ?side1 ?side2 ?side3 ?side4 A13.out).mono ?_); (case side1 => first | exact C_mv (Kd.C_below HR0_0.out HB.out) | exact C_mv HR0_0.out); (case side2 => exact HC0_0.out); (case side3 => first | exact C_mv (Kd.C_below HR0_1.out HB.out) | exact C_mv HR0_1.out); (case side4 => exact HC0_1.out); rintro e w18 ⟨rfl, hb⟩; refine ⟨_, rfl, ?_⟩; replace BK128 := aM (blk_below (blk_mv BK128.out) hb); replace HB := aM (below_step (by repeat (first | (with_reducible first | exact HB.out | apply bA | apply bN | apply bD | refine below_set ?_ GE128.out) | exact HB.out)) hb); (try clear hb); (try clear hb2); (try clear hge); (try clear hk); (try clear hi)))
            go_ret
            exact ⟨by first | rfl | (simp [errW_none, errW_some] <;> rfl) | (simp [*, errW_none, errW_some] <;> rfl), by repeat (first | (with_reducible first | exact HB.out | apply bA | apply bN | apply bD | refine below_set ?_ GE128.out) | exact HB.out)⟩
  · rw [if_neg c5] at H
    have c5b0 : (t129 == 0) = false := beq_eq_false_iff_ne.mpr c5
    have c5b1 : (t129 != 0) = true := bne_iff_ne.mpr c5
    obtain rfl := Option.some.inj H
    go_enter Try.func42, Try.ntmps42
    go_wp2_with (first | ((with_reducible refine gate_dst (N := 3) rfl ?_); (try (refine gate_guard (by rfl) ?_; dsimp only)); refine box_event ?hg (N := 3) ?hd (cs := #[.slice A0_0 l0_0.length c0_0, .slice A0_1 l0_1.length c0_1, .int .i64 a0_2]) (t := 28) ?hr ?_; (case hd => rfl); (case hg => rfl); (case hr => first | (go_simp; done) | (go_simp; rfl)); intro gb128 hg w19 hbox hb; have BK128 := aM (hbox); have GW128 := aM ((by rw [hg]; exact (below_size (below_mv HB.out)) : w.heap.size ≤ gb128)); have GE128 := aM ((by rw [hg]; exact (below_size (below_mv HB.out)) : w.heap.size ≤ gb128)); replace HB := aM (below_step (below_mv HB.out) hb); clear hb hbox hg; obtain ⟨hcz20_0, hcz20_1, hcz20_2, hfz20_0, hfz20_1, hfz20_2⟩ := blk3 BK128.out) | ((with_reducible refine gate_callee (f := 23) rfl ?_); refine goesL_ (some 9) rfl rfl Try.func23 (by kernel_rfl) rfl #[.agg #[.slice A0_0 l0_0.length c0_0, .slice A0_1 l0_1.length c0_1, .int .i64 a0_2]] rfl (by first | rfl | (simp only [List.map_toArray, List.map_cons, List.map_nil, List.length_drop, List.length_take]; rfl)) ?_; (with_reducible refine (feeder_Check.calls k _ _ l0_0 _ _ l0_1 a0_2 t129 _ ?side1 ?side2 ?side3 ?side4 A4.out).mono ?_); (case side1 => first | exact C_mv (Kd.C_below HR0_0.out HB.out) | exact C_mv HR0_0.out); (case side2 => exact HC0_0.out); (case side3 => first | exact C_mv (Kd.C_below HR0_1.out HB.out) | exact C_mv HR0_1.out); (case side4 => exact HC0_1.out); rintro e w21 ⟨rfl, hb⟩; refine ⟨_, rfl, ?_⟩; replace BK128 := aM (blk_below (blk_mv BK128.out) hb); replace HB := aM (below_step (by repeat (first | (with_reducible first | exact HB.out | apply bA | apply bN | apply bD | refine below_set ?_ GE128.out) | exact HB.out)) hb); (try clear hb); (try clear hb2); (try clear hge); (try clear hk); (try clear hi)))
    go_ret
    exact ⟨by first | rfl | (simp [errW_none, errW_some] <;> rfl) | (simp [*, errW_none, errW_some] <;> rfl), by repeat (first | (with_reducible first | exact HB.out | apply bA | apply bN | apply bD | refine below_set ?_ GE128.out) | exact HB.out)⟩

/-! ### feeder_clone: function 43 -/
def feeder_clone.f (l0_0 : List (S32)) (l0_1 : List Int) (a0_2 : Int) : Option ((List (S32)) × List Int × Int) := if ([] : List (S32)).length + l0_0.length < 4398046511104 then (if ([] : List Int).length + l0_1.length < 17592186044416 then (some ((([] : List (S32)) ++ l0_0), (([] : List Int) ++ l0_1), a0_2)) else (none)) else (none)
set_option maxHeartbeats 8000000 in
set_option maxRecDepth 100000 in
theorem feeder_clone.calls (A0_0 : Option Addr) (c0_0 : Nat) (l0_0 : List (S32)) (A0_1 : Option Addr) (c0_1 : Nat) (l0_1 : List Int) (a0_2 : Int) (r1 : List (S32)) (r2 : List Int) (r3 : Int) (w : World) (hr0_0 : Kd.C k32 w A0_0 l0_0.length l0_0) (hc0_0 : l0_0.length ≤ c0_0) (hr0_1 : Kd.C (Kd.int .i64) w A0_1 l0_1.length l0_1) (hc0_1 : l0_1.length ≤ c0_1) (h : feeder_clone.f l0_0 l0_1 a0_2 = some (r1, r2, r3)) :
    Calls Try.prog 43 #[.agg #[.slice A0_0 l0_0.length c0_0, .slice A0_1 l0_1.length c0_1, .int .i64 a0_2]] w fun e w' => ∃ v0_ v1_ : Value, e = .returned (.agg #[v0_, v1_, .int .i64 r3]) ∧ Kd.R k32 32 w' w.heap.size (fun _ => True) v0_ r1 ∧ Kd.R (Kd.int .i64) 3 w' w.heap.size (fun _ => True) v1_ r2 ∧ Below w.heap.size w w' := by
  have hu28 := Try.underlying28
  have HR0_0 := aM hr0_0
  have HC0_0 := aM hc0_0
  clear hr0_0 hc0_0
  have HR0_1 := aM hr0_1
  have HC0_1 := aM hc0_1
  clear hr0_1 hc0_1
  have HB := aM (Below.refl w.heap.size w)
  have H : (if ([] : List (S32)).length + l0_0.length < 4398046511104 then (if ([] : List Int).length + l0_1.length < 17592186044416 then (some ((([] : List (S32)) ++ l0_0), (([] : List Int) ++ l0_1), a0_2)) else (none)) else (none)) = some (r1, r2, r3) := h
  clear h
  by_cases c2 : ([] : List (S32)).length + l0_0.length < 4398046511104
  rotate_left
  · rw [if_neg c2] at H
    exact absurd H (by simp)
  rw [if_pos c2] at H
  have LMc2 := aM c2
  clear c2
  obtain ⟨y133, hy133⟩ : ∃ y_ : List (S32), y_ = (([] : List (S32)) ++ l0_0) := ⟨_, rfl⟩
  replace H : (if ([] : List Int).length + l0_1.length < 17592186044416 then (some (y133, (([] : List Int) ++ l0_1), a0_2)) else (none)) = some (r1, r2, r3) := by first | (rw [hy133]; with_reducible exact H) | (have H2_ := (Option.bind_some _ _).symm.trans H; rw [hy133]; with_reducible exact H2_) | (have H2_ := (Option.bind_some _ _).symm.trans H; with_reducible exact H2_) | with_reducible exact H | (rw [hy133]; exact H) | exact H
  have Ny133 := aM hy133
  clear hy133
  by_cases c3 : ([] : List Int).length + l0_1.length < 17592186044416
  rotate_left
  · rw [if_neg c3] at H
    exact absurd H (by simp)
  rw [if_pos c3] at H
  have LMc3 := aM c3
  clear c3
  obtain ⟨y136, hy136⟩ : ∃ y_ : List Int, y_ = (([] : List Int) ++ l0_1) := ⟨_, rfl⟩
  replace H : (some (y133, y136, a0_2)) = some (r1, r2, r3) := by first | (rw [hy136]; with_reducible exact H) | (have H2_ := (Option.bind_some _ _).symm.trans H; rw [hy136]; with_reducible exact H2_) | (have H2_ := (Option.bind_some _ _).symm.trans H; with_reducible exact H2_) | with_reducible exact H | (rw [hy136]; exact H) | exact H
  have Ny136 := aM hy136
  clear hy136
  simp only [Option.some.injEq, Prod.mk.injEq] at H
  obtain ⟨rfl, rfl, rfl⟩ := H
  go_enter Try.func43, Try.ntmps43
  go_wp2_with (first | ((with_reducible refine gate_dst (N := 1) rfl ?_); refine box_event ?hg (N := 1) ?hd (cs := #[.slice A0_0 l0_0.length c0_0, .slice A0_1 l0_1.length c0_1, .int .i64 a0_2]) (t := 28) ?hr ?_; (case hd => rfl); (case hg => rfl); (case hr => first | (go_simp; done) | (go_simp; rfl)); intro gb131 hg w4 hbox hb; have BK131 := aM (hbox); have GW131 := aM ((by rw [hg]; exact (below_size (below_mv HB.out)) : w.heap.size ≤ gb131)); have GE131 := aM ((by rw [hg]; exact (below_size (below_mv HB.out)) : w.heap.size ≤ gb131)); replace HB := aM (below_step (below_mv HB.out) hb); clear hb hbox hg) | ((with_reducible refine gate_dst (N := 2) rfl ?_); refine box_event ?hg (N := 2) ?hd (cs := #[.slice none 0 0, .slice none 0 0, .int .i64 0]) (t := 28) ?hr ?_; (case hd => rfl); (case hg => rfl); (case hr => first | (go_simp; done) | (go_simp; rfl)); intro gb132 hg w5 hbox hb; have BK132 := aM (hbox); have GW132 := aM ((by rw [hg]; exact (below_size (by repeat (first | (with_reducible first | exact HB.out | apply bA | apply bN | apply bD | refine below_set ?_ GE131.out) | exact HB.out))) : w.heap.size ≤ gb132)); have GE132 := aM ((by rw [hg]; exact (below_size (by repeat (first | (with_reducible first | exact HB.out | apply bA | apply bN | apply bD | refine below_set ?_ GE131.out) | exact HB.out))) : w.heap.size ≤ gb132)); replace HB := aM (below_step (by repeat (first | (with_reducible first | exact HB.out | apply bA | apply bN | apply bD | refine below_set ?_ GE131.out) | exact HB.out)) hb); have NB131_132 := aM ((by rw [hg]; exact Nat.ne_of_lt (blk_lt (blk_mv BK131.out)) : gb131 ≠ gb132)); have NB132_131 := aM ((by rw [hg]; exact Nat.ne_of_gt (blk_lt (blk_mv BK131.out)) : gb132 ≠ gb131)); replace BK131 := aM (blk_below (blk_mv BK131.out) hb); clear hb hbox hg; have hnb6 := NB131_132.out; have hnc6 := NB132_131.out; obtain ⟨hcz7_0, hcz7_1, hcz7_2, hfz7_0, hfz7_1, hfz7_2⟩ := blk3 BK131.out) | ((with_reducible refine gate_builtin (b := .append) (xs := #[.const (.slice none 0 0), .tmp 4]) rfl ?_); at_builtin; refine Kd.R_append_rows k32 (w0 := w) w.heap.size rfl (.const (.slice none 0 0)) (.tmp 4) 25 32 (.agg #[(.int .i64 0), (.int .i64 0), (.int .i64 0), (.bool false), (.bool false)]) 32 rfl Try.underlying25 info32 rfl (by decide) (by omega) (.slice none 0 0) ([] : List (S32)) l0_0 _ _ _ (fun _ => True) (fun _ => False) rfl rfl ?aO ?aR (fun _ _ h => h) (fun _ h => h.elim) ?aF ?aB ?aS ?aL ?_; (case aR => first | exact C_mv (Kd.C_below HR0_0.out HB.out) | exact C_mv HR0_0.out); (case aB => exact (by repeat (first | (with_reducible first | exact HB.out | apply bA | apply bN | apply bD | refine below_set ?_ GE131.out | refine below_set ?_ GE132.out) | exact HB.out))); (case aF => exact (fun _ _ => trivial)); (case aO => exact ((Kd.R_nil _ _ _ _ (fun _ => True)))); (case aS => exact (below_size (by repeat (first | (with_reducible first | exact HB.out | apply bA | apply bN | apply bD | refine below_set ?_ GE131.out | refine below_set ?_ GE132.out) | exact HB.out)))); (case aL => have := LMc2.out; omega); intro v134 w8 ho hb hg hat; rw [← Ny133.out] at ho; replace BK131 := aM (blk_grown (blk_mv BK131.out) hg (by simp [Value.ownBlock])); replace BK132 := aM (blk_grown (blk_mv BK132.out) hg (by simp [Value.ownBlock])); replace HB := aM (hb); have HO135 := aM (ho); clear ho hb hg hat; obtain ⟨Ao9, co9, eo9⟩ := Kd.R_slice HO135.out; subst eo9; obtain ⟨hcz10_0, hcz10_1, hcz10_2, hfz10_0, hfz10_1, hfz10_2⟩ := blk3 BK131.out) | ((with_reducible refine gate_builtin (b := .append) (xs := #[.const (.slice none 0 0), .tmp 8]) rfl ?_); at_builtin; refine Kd.R_append_rows (Kd.int .i64) (w0 := w) w.heap.size rfl (.const (.slice none 0 0)) (.tmp 8) 26 3 (.int .i64 0) 8 rfl Try.underlying26 info3 rfl (by decide) (by omega) (.slice none 0 0) ([] : List Int) l0_1 _ _ _ (fun _ => True) (fun _ => False) rfl rfl ?aO ?aR (fun _ _ h => h) (fun _ h => h.elim) ?aF ?aB ?aS ?aL ?_; (case aR => exact Kd.C_below HR0_1.out (by repeat (first | (with_reducible first | exact HB.out | apply bA | apply bN | apply bD | refine below_set ?_ GE131.out | refine below_set ?_ GE132.out) | exact HB.out))); (case aB => exact (by repeat (first | (with_reducible first | exact HB.out | apply bA | apply bN | apply bD | refine below_set ?_ GE131.out | refine below_set ?_ GE132.out) | exact HB.out))); (case aF => exact (fun _ _ => trivial)); (case aO => exact ((Kd.R_nil _ _ _ _ (fun _ => True)))); (case aS => exact (below_size (by repeat (first | (with_reducible first | exact HB.out | apply bA | apply bN | apply bD | refine below_set ?_ GE131.out | refine below_set ?_ GE132.out) | exact HB.out)))); (case aL => have := LMc3.out; omega); intro v137 w11 ho hb hg hat; rw [← Ny136.out] at ho; replace BK132 := aM (blk_grown (g := gb132) (o := .cells #[.slice none 0 0, .slice none 0 0, .int .i64 0] 28 (0, 0)) (by (with_reducible repeat (first | refine kN ?_ _ | refine kD ?_ | refine kA ?_ _)); refine blk_far ?_ NB132_131.out _; (with_reducible repeat (first | refine kN ?_ _ | refine kD ?_ | refine kA ?_ _)); exact BK132.out) hg (by simp [Value.ownBlock])); replace HO135 := aM (Kd.R_grown (by (with_reducible repeat (first | apply Kd.R_alloc | apply Kd.R_drewN | apply Kd.R_drew)); exact (Kd.R_mono (Kd.R_far (p := ⟨gb131, 0, none⟩) (Kd.R_types HO135.out BK131.out (by decide)) (fun _ hk => hk.2) (.slice Ao9 y133.length co9)) (fun _ h_ => h_.1))) hg (fun _ _ => by simp [Value.ownBlock])); replace BK131 := aM (blk_grown (g := gb131) (o := .cells #[.slice Ao9 y133.length co9, .slice A0_1 l0_1.length c0_1, .int .i64 a0_2] 28 (0, 0)) (by (with_reducible repeat (first | refine kN ?_ _ | refine kD ?_ | refine kA ?_ _)); refine blk_put (cs := #[.slice A0_0 l0_0.length c0_0, .slice A0_1 l0_1.length c0_1, .int .i64 a0_2]) ?_ 0 _ rfl; (with_reducible repeat (first | refine kN ?_ _ | refine kD ?_ | refine kA ?_ _)); exact BK131.out) hg (by simp [Value.ownBlock])); replace HB := aM (hb); have HO138 := aM (ho); clear ho hb hg hat; obtain ⟨Ao12, co12, eo12⟩ := Kd.R_slice HO138.out; subst eo12; obtain ⟨hcz13_0, hcz13_1, hcz13_2, hfz13_0, hfz13_1, hfz13_2⟩ := blk3 BK131.out; obtain ⟨hcz14_0, hcz14_1, hcz14_2, hfz14_0, hfz14_1, hfz14_2⟩ := blk3 BK132.out))
  refine bodyPost_ret (results_cell_row rfl _ _ gb132 28 #[.slice Ao9 y133.length co9, .slice Ao12 y136.length co12, .int .i64 a0_2] (0, 0) _ rfl (by (with_reducible repeat (first | refine kN ?_ _ | refine kD ?_ | refine kA ?_ _)); refine blk_put (cs := #[.slice Ao9 y133.length co9, .slice Ao12 y136.length co12, .int .i64 0]) ?_ 2 _ rfl; (with_reducible repeat (first | refine kN ?_ _ | refine kD ?_ | refine kA ?_ _)); refine blk_put (cs := #[.slice Ao9 y133.length co9, .slice none 0 0, .int .i64 0]) ?_ 1 _ rfl; (with_reducible repeat (first | refine kN ?_ _ | refine kD ?_ | refine kA ?_ _)); refine blk_put (cs := #[.slice none 0 0, .slice none 0 0, .int .i64 0]) ?_ 0 _ rfl; (with_reducible repeat (first | refine kN ?_ _ | refine kD ?_ | refine kA ?_ _)); refine blk_far ?_ NB132_131.out _; (with_reducible repeat (first | refine kN ?_ _ | refine kD ?_ | refine kA ?_ _)); exact BK132.out) Try.underlying28 rfl (by kernel_rfl)) rfl ?_
  exact ⟨_, _, by first | rfl | (simp [errW_none, errW_some] <;> rfl) | (simp [*, errW_none, errW_some] <;> rfl), by (with_reducible repeat (first | apply Kd.R_alloc | apply Kd.R_drewN | apply Kd.R_drew)); exact Kd.R_mono (Kd.R_far (p := ⟨gb132, 2, none⟩) (Kd.R_far (p := ⟨gb132, 1, none⟩) (Kd.R_far (p := ⟨gb132, 0, none⟩) (Kd.R_far (p := ⟨gb131, 1, none⟩) (Kd.R_types (Kd.R_types HO135.out BK131.out (by decide)) BK132.out (by decide)) (fun _ hk => hk.1.2) (.slice Ao12 y136.length co12)) (fun _ hk => hk.2) (.slice Ao9 y133.length co9)) (fun _ hk => hk.2) (.slice Ao12 y136.length co12)) (fun _ hk => hk.2) (.int .i64 a0_2)) (fun _ hk => trivial), by (with_reducible repeat (first | apply Kd.R_alloc | apply Kd.R_drewN | apply Kd.R_drew)); exact Kd.R_mono (Kd.R_far (p := ⟨gb132, 2, none⟩) (Kd.R_far (p := ⟨gb132, 1, none⟩) (Kd.R_far (p := ⟨gb132, 0, none⟩) (Kd.R_far (p := ⟨gb131, 1, none⟩) (Kd.R_types (Kd.R_types HO138.out BK131.out (by decide)) BK132.out (by decide)) (fun _ hk => hk.1.2) (.slice Ao12 y136.length co12)) (fun _ hk => hk.2) (.slice Ao9 y133.length co9)) (fun _ hk => hk.2) (.slice Ao12 y136.length co12)) (fun _ hk => hk.2) (.int .i64 a0_2)) (fun _ hk => trivial), by repeat (first | (with_reducible first | exact HB.out | apply bA | apply bN | apply bD | refine below_set ?_ GE131.out | refine below_set ?_ GE132.out) | exact HB.out)⟩

/-! ### feeder_open: function 44 -/
def feeder_open.f (l0_0 : List (S32)) (l0_1 : List Int) (a0_2 : Int) (a1 : Int) (a2 : Int) : Option (Bool × (List (S32))) := if 0 ≤ a1 then (if a1 < (l0_0.length : Int) then (if ((rd_T32 l0_0 a1).f3 = true) then ((some (l0_0.set (a1 : Int).toNat (⟨(rd_T32 l0_0 a1).f0, (rd_T32 l0_0 a1).f1, (rd_T32 l0_0 a1).f2, false, (rd_T32 l0_0 a1).f4⟩ : S32) : List (S32))).bind fun y142 => ((some (y142.set (a1 : Int).toNat (⟨(rd_T32 y142 a1).f0, a2, (rd_T32 y142 a1).f2, (rd_T32 y142 a1).f3, (rd_T32 y142 a1).f4⟩ : S32) : List (S32))).bind fun y143 => ((some (y143.set (a1 : Int).toNat (⟨(rd_T32 y143 a1).f0, (rd_T32 y143 a1).f1, 0, (rd_T32 y143 a1).f3, (rd_T32 y143 a1).f4⟩ : S32) : List (S32))).bind fun y144 => (some (true, (y144.set (a1 : Int).toNat (⟨(rd_T32 y144 a1).f0, (rd_T32 y144 a1).f1, (rd_T32 y144 a1).f2, (rd_T32 y144 a1).f3, false⟩ : S32))))))) else (some (false, l0_0))) else (none)) else (none)
set_option maxHeartbeats 8000000 in
set_option maxRecDepth 100000 in
theorem feeder_open.calls (P0_0_ : Nat → Prop) (u9000_ : Value) (l0_0 : List (S32)) (A0_1 : Option Addr) (c0_1 : Nat) (l0_1 : List Int) (a0_2 : Int) (a1 : Int) (a2 : Int) (r1 : Bool) (r2 : List (S32)) (w0 w : World) (hB : Below w0.heap.size w0 w) (ho0_0 : Kd.R k32 32 w w0.heap.size P0_0_ u9000_ l0_0) (hr0_1 : ∀ W_, Kept w W_ (fun k_ => P0_0_ k_) → Kd.C (Kd.int .i64) W_ A0_1 l0_1.length l0_1) (hc0_1 : l0_1.length ≤ c0_1) (h : feeder_open.f l0_0 l0_1 a0_2 a1 a2 = some (r1, r2)) :
    Calls Try.prog 44 #[.agg #[u9000_, .slice A0_1 l0_1.length c0_1, .int .i64 a0_2], .int .i64 a1, .int .i64 a2] w fun e w' => e = .returned (.bool r1) ∧ Kd.R k32 32 w' w0.heap.size (fun k_ => (P0_0_ k_ ∨ w.heap.size ≤ k_)) u9000_ r2 ∧ Below w0.heap.size w0 w' ∧ Kept w w' (fun k_ => P0_0_ k_) := by
  have hu28 := Try.underlying28
  have HO0_0 := aM (show Kd.R k32 32 w w0.heap.size (fun k_ => (P0_0_ k_ ∨ w.heap.size ≤ k_)) u9000_ l0_0 from Kd.R_mono ho0_0 (fun k_ hk => (.inl hk)))
  have HR0_1 := aM hr0_1
  have HC0_1 := aM hc0_1
  clear hr0_1 hc0_1
  have HK := aM (Kept.refl w (fun k_ => P0_0_ k_))
  have HW0 := aM hB.size
  have HB := aM hB
  clear hB
  have H : (if 0 ≤ a1 then (if a1 < (l0_0.length : Int) then (if ((rd_T32 l0_0 a1).f3 = true) then ((some (l0_0.set (a1 : Int).toNat (⟨(rd_T32 l0_0 a1).f0, (rd_T32 l0_0 a1).f1, (rd_T32 l0_0 a1).f2, false, (rd_T32 l0_0 a1).f4⟩ : S32) : List (S32))).bind fun y142 => ((some (y142.set (a1 : Int).toNat (⟨(rd_T32 y142 a1).f0, a2, (rd_T32 y142 a1).f2, (rd_T32 y142 a1).f3, (rd_T32 y142 a1).f4⟩ : S32) : List (S32))).bind fun y143 => ((some (y143.set (a1 : Int).toNat (⟨(rd_T32 y143 a1).f0, (rd_T32 y143 a1).f1, 0, (rd_T32 y143 a1).f3, (rd_T32 y143 a1).f4⟩ : S32) : List (S32))).bind fun y144 => (some (true, (y144.set (a1 : Int).toNat (⟨(rd_T32 y144 a1).f0, (rd_T32 y144 a1).f1, (rd_T32 y144 a1).f2, (rd_T32 y144 a1).f3, false⟩ : S32))))))) else (some (false, l0_0))) else (none)) else (none)) = some (r1, r2) := h
  clear h
  by_cases c4 : 0 ≤ a1
  rotate_left
  · rw [if_neg c4] at H
    exact absurd H (by simp)
  rw [if_pos c4] at H
  have c4b0 : decide (0 ≤ a1) = true := decide_eq_true c4
  clear c4
  by_cases c5 : a1 < (l0_0.length : Int)
  rotate_left
  · rw [if_neg c5] at H
    exact absurd H (by simp)
  rw [if_pos c5] at H
  have c5b0 : decide (a1 < (l0_0.length : Int)) = true := decide_eq_true c5
  clear c5
  obtain ⟨bq6, hbq6⟩ : ∃ b_ : Bool, b_ = ((rd_T32 l0_0 a1).f3) := ⟨_, rfl⟩
  replace H : (if (bq6 = true) then ((some (l0_0.set (a1 : Int).toNat (⟨(rd_T32 l0_0 a1).f0, (rd_T32 l0_0 a1).f1, (rd_T32 l0_0 a1).f2, false, (rd_T32 l0_0 a1).f4⟩ : S32) : List (S32))).bind fun y142 => ((some (y142.set (a1 : Int).toNat (⟨(rd_T32 y142 a1).f0, a2, (rd_T32 y142 a1).f2, (rd_T32 y142 a1).f3, (rd_T32 y142 a1).f4⟩ : S32) : List (S32))).bind fun y143 => ((some (y143.set (a1 : Int).toNat (⟨(rd_T32 y143 a1).f0, (rd_T32 y143 a1).f1, 0, (rd_T32 y143 a1).f3, (rd_T32 y143 a1).f4⟩ : S32) : List (S32))).bind fun y144 => (some (true, (y144.set (a1 : Int).toNat (⟨(rd_T32 y144 a1).f0, (rd_T32 y144 a1).f1, (rd_T32 y144 a1).f2, (rd_T32 y144 a1).f3, false⟩ : S32))))))) else (some (false, l0_0))) = some (r1, r2) := by rw [← hbq6] at H; exact H
  have Nbq6 := aM hbq6
  clear hbq6
  by_cases c7 : (bq6 = true)
  · subst c7
    have H1 : ((some (l0_0.set (a1 : Int).toNat (⟨(rd_T32 l0_0 a1).f0, (rd_T32 l0_0 a1).f1, (rd_T32 l0_0 a1).f2, false, (rd_T32 l0_0 a1).f4⟩ : S32) : List (S32))).bind fun y142 => ((some (y142.set (a1 : Int).toNat (⟨(rd_T32 y142 a1).f0, a2, (rd_T32 y142 a1).f2, (rd_T32 y142 a1).f3, (rd_T32 y142 a1).f4⟩ : S32) : List (S32))).bind fun y143 => ((some (y143.set (a1 : Int).toNat (⟨(rd_T32 y143 a1).f0, (rd_T32 y143 a1).f1, 0, (rd_T32 y143 a1).f3, (rd_T32 y143 a1).f4⟩ : S32) : List (S32))).bind fun y144 => (some (true, (y144.set (a1 : Int).toNat (⟨(rd_T32 y144 a1).f0, (rd_T32 y144 a1).f1, (rd_T32 y144 a1).f2, (rd_T32 y144 a1).f3, false⟩ : S32))))))) = some (r1, r2) := by rw [if_pos rfl] at H; exact H
    clear H
    have H := H1
    clear H1
    obtain ⟨y142, hy142⟩ : ∃ y_ : List (S32), y_ = (l0_0.set (a1 : Int).toNat (⟨(rd_T32 l0_0 a1).f0, (rd_T32 l0_0 a1).f1, (rd_T32 l0_0 a1).f2, false, (rd_T32 l0_0 a1).f4⟩ : S32)) := ⟨_, rfl⟩
    replace H : ((some (y142.set (a1 : Int).toNat (⟨(rd_T32 y142 a1).f0, a2, (rd_T32 y142 a1).f2, (rd_T32 y142 a1).f3, (rd_T32 y142 a1).f4⟩ : S32) : List (S32))).bind fun y143 => ((some (y143.set (a1 : Int).toNat (⟨(rd_T32 y143 a1).f0, (rd_T32 y143 a1).f1, 0, (rd_T32 y143 a1).f3, (rd_T32 y143 a1).f4⟩ : S32) : List (S32))).bind fun y144 => (some (true, (y144.set (a1 : Int).toNat (⟨(rd_T32 y144 a1).f0, (rd_T32 y144 a1).f1, (rd_T32 y144 a1).f2, (rd_T32 y144 a1).f3, false⟩ : S32)))))) = some (r1, r2) := by first | (rw [hy142]; with_reducible exact H) | (have H2_ := (Option.bind_some _ _).symm.trans H; rw [hy142]; with_reducible exact H2_) | (have H2_ := (Option.bind_some _ _).symm.trans H; with_reducible exact H2_) | with_reducible exact H | (rw [hy142]; exact H) | exact H
    have Ny142 := aM hy142
    clear hy142
    obtain ⟨y143, hy143⟩ : ∃ y_ : List (S32), y_ = (y142.set (a1 : Int).toNat (⟨(rd_T32 y142 a1).f0, a2, (rd_T32 y142 a1).f2, (rd_T32 y142 a1).f3, (rd_T32 y142 a1).f4⟩ : S32)) := ⟨_, rfl⟩
    replace H : ((some (y143.set (a1 : Int).toNat (⟨(rd_T32 y143 a1).f0, (rd_T32 y143 a1).f1, 0, (rd_T32 y143 a1).f3, (rd_T32 y143 a1).f4⟩ : S32) : List (S32))).bind fun y144 => (some (true, (y144.set (a1 : Int).toNat (⟨(rd_T32 y144 a1).f0, (rd_T32 y144 a1).f1, (rd_T32 y144 a1).f2, (rd_T32 y144 a1).f3, false⟩ : S32))))) = some (r1, r2) := by first | (rw [hy143]; with_reducible exact H) | (have H2_ := (Option.bind_some _ _).symm.trans H; rw [hy143]; with_reducible exact H2_) | (have H2_ := (Option.bind_some _ _).symm.trans H; with_reducible exact H2_) | with_reducible exact H | (rw [hy143]; exact H) | exact H
    have Ny143 := aM hy143
    clear hy143
    obtain ⟨y144, hy144⟩ : ∃ y_ : List (S32), y_ = (y143.set (a1 : Int).toNat (⟨(rd_T32 y143 a1).f0, (rd_T32 y143 a1).f1, 0, (rd_T32 y143 a1).f3, (rd_T32 y143 a1).f4⟩ : S32)) := ⟨_, rfl⟩
    replace H : (some (true, (y144.set (a1 : Int).toNat (⟨(rd_T32 y144 a1).f0, (rd_T32 y144 a1).f1, (rd_T32 y144 a1).f2, (rd_T32 y144 a1).f3, false⟩ : S32)))) = some (r1, r2) := by first | (rw [hy144]; with_reducible exact H) | (have H2_ := (Option.bind_some _ _).symm.trans H; rw [hy144]; with_reducible exact H2_) | (have H2_ := (Option.bind_some _ _).symm.trans H; with_reducible exact H2_) | with_reducible exact H | (rw [hy144]; exact H) | exact H
    have Ny144 := aM hy144
    clear hy144
    obtain ⟨y145, hy145⟩ : ∃ y_ : List (S32), y_ = (y144.set (a1 : Int).toNat (⟨(rd_T32 y144 a1).f0, (rd_T32 y144 a1).f1, (rd_T32 y144 a1).f2, (rd_T32 y144 a1).f3, false⟩ : S32)) := ⟨_, rfl⟩
    replace H : (some (true, y145)) = some (r1, r2) := by first | (rw [hy145]; with_reducible exact H) | (have H2_ := (Option.bind_some _ _).symm.trans H; rw [hy145]; with_reducible exact H2_) | (have H2_ := (Option.bind_some _ _).symm.trans H; with_reducible exact H2_) | with_reducible exact H | (rw [hy145]; exact H) | exact H
    have Ny145 := aM hy145
    clear hy145
    simp only [Option.some.injEq, Prod.mk.injEq] at H
    obtain ⟨rfl, rfl⟩ := H
    obtain ⟨Ao12, co12, eo12⟩ := Kd.R_slice HO0_0.out
    subst eo12
    go_enter Try.func44, Try.ntmps44
    go_wp2_with (first | ((with_reducible refine gate_dst (N := 3) rfl ?_); refine box_event ?hg (N := 3) ?hd (cs := #[.slice Ao12 l0_0.length co12, .slice A0_1 l0_1.length c0_1, .int .i64 a0_2]) (t := 28) ?hr ?_; (case hd => rfl); (case hg => rfl); (case hr => first | (go_simp; done) | (go_simp; rfl)); intro gb139 hg w13 hbox hb; replace HO0_0 := aM (Kd.R_below (R_mv HO0_0.out) hb); have BK139 := aM (hbox); have GW139 := aM ((by rw [hg]; exact (by first | exact HK.out.1 | exact (show Kept w _ (fun k_ => P0_0_ k_) from by repeat (first | (with_reducible first | exact HK.out | apply Kept.alloc | apply Kept.drewN | apply Kept.drew) | exact HK.out)).1) : w.heap.size ≤ gb139)); replace HK := aM (Kept.below (S := (fun k_ => P0_0_ k_)) (by repeat (first | (with_reducible first | exact HK.out | apply Kept.alloc | apply Kept.drewN | apply Kept.drew) | exact HK.out)) hb); have GE139 := aM ((by rw [hg]; exact (below_size (below_mv HB.out)) : w0.heap.size ≤ gb139)); replace HB := aM (below_step (below_mv HB.out) hb); clear hb hbox hg; obtain ⟨hcz14_0, hcz14_1, hcz14_2, hfz14_0, hfz14_1, hfz14_2⟩ := blk3 BK139.out; have p140 : 0 ≤ (a1 : Int) := of_decide_eq_true (by first | (with_reducible assumption) | assumption); have q140 : a1 < (l0_0.length : Int) := of_decide_eq_true (by first | (with_reducible assumption) | assumption); obtain ⟨ad140, e140, hx140_0, hx140_1, hx140_2, hx140_3, hx140_4⟩ := at_T32 (Kd.R_reads' HO0_0.out).2.2 a1 p140 q140; (try rw [← Nbq6.out] at hx140_3); (try rw [← Nbq6.out] at hx140_4); cases e140; replace p140 := eq_true p140; replace q140 := eq_true q140; have p141 : 0 ≤ (a1 : Int) := of_decide_eq_true (by first | (with_reducible assumption) | assumption); have q141 : a1 < (l0_0.length : Int) := of_decide_eq_true (by first | (with_reducible assumption) | assumption); obtain ⟨ad141, e141, hx141_0, hx141_1, hx141_2, hx141_3, hx141_4⟩ := at_T32 (Kd.R_reads' HO0_0.out).2.2 a1 p141 q141; (try rw [← Nbq6.out] at hx141_3); (try rw [← Nbq6.out] at hx141_4); obtain rfl : ad140 = ad141 := (by injection e141); replace p141 := eq_true p141; replace q141 := eq_true q141; have p8 : 0 ≤ (a1 : Int) := of_decide_eq_true (by first | (with_reducible assumption) | assumption); have q8 : (a1 : Int) < ((l0_0.length : Int) : Int) := of_decide_eq_true (by first | (with_reducible assumption) | assumption); obtain ⟨go8, co8, eo8, gb8, gl8, cl8, HG8⟩ := Kd.R_form HO0_0.out (by omega); (first | cases eo8 | (injection eo8 with ea_ en_ ec_; (first | subst ea_ | (injection ea_ with ea_; subst ea_)); subst ec_; clear en_)); have GB8 := aM gb8; have GG8 := aM HG8; clear gb8 gl8 HG8; have HMgo8 := aM (show (P0_0_ go8 ∨ w.heap.size ≤ go8) from (HO0_0.out.1 _ rfl)); (first | simp only [add_plain] at hx140_0 | skip); (first | simp only [add_plain] at hx140_1 | skip); (first | simp only [add_plain] at hx140_2 | skip); (first | simp only [add_plain] at hx140_3 | skip); (first | simp only [add_plain] at hx140_4 | skip); (first | simp only [add_plain] at hx141_0 | skip); (first | simp only [add_plain] at hx141_1 | skip); (first | simp only [add_plain] at hx141_2 | skip); (first | simp only [add_plain] at hx141_3 | skip); (first | simp only [add_plain] at hx141_4 | skip); obtain ⟨ce8, hcl8, hM8, hcc8, hfr8⟩ := Kd.R_elem HO0_0.out z32 (a1 : Int) p8 q8; obtain rfl := k32_openM hM8; have hx8_0 : w13.cell? ⟨go8, (a1 : Int).toNat * 5, none⟩ = some (.int .i64 ((rd_T32 l0_0 a1).f0)) := hcc8 0 _ rfl; have hx8_1 : w13.cell? ⟨go8, (a1 : Int).toNat * 5 + 1, none⟩ = some (.int .i64 ((rd_T32 l0_0 a1).f1)) := hcc8 1 _ rfl; have hx8_2 : w13.cell? ⟨go8, (a1 : Int).toNat * 5 + 2, none⟩ = some (.int .i64 ((rd_T32 l0_0 a1).f2)) := hcc8 2 _ rfl; have hx8_3 : w13.cell? ⟨go8, (a1 : Int).toNat * 5 + 3, none⟩ = some (.bool ((rd_T32 l0_0 a1).f3)) := hcc8 3 _ rfl; have hx8_4 : w13.cell? ⟨go8, (a1 : Int).toNat * 5 + 4, none⟩ = some (.bool ((rd_T32 l0_0 a1).f4)) := hcc8 4 _ rfl; have hf8_0 : w13.frozen? ⟨go8, (a1 : Int).toNat * 5, none⟩ = false := hfr8 0; have hf8_1 : w13.frozen? ⟨go8, (a1 : Int).toNat * 5 + 1, none⟩ = false := hfr8 1; have hf8_2 : w13.frozen? ⟨go8, (a1 : Int).toNat * 5 + 2, none⟩ = false := hfr8 2; have hf8_3 : w13.frozen? ⟨go8, (a1 : Int).toNat * 5 + 3, none⟩ = false := hfr8 3; have hf8_4 : w13.frozen? ⟨go8, (a1 : Int).toNat * 5 + 4, none⟩ = false := hfr8 4; clear hcl8 hcc8 hfr8 hM8; replace p8 := eq_true p8; replace q8 := eq_true q8; have HX15 := aM (show Kd.R k32 32 w13 w0.heap.size (fun k_ => (P0_0_ k_ ∨ w.heap.size ≤ k_)) (.slice (some ⟨go8, 0, none⟩) l0_0.length co12) l0_0 from (R_mv HO0_0.out)); obtain ⟨ce15, hcl15, hM15, hcc15, hfr15⟩ := Kd.R_elem HX15.out z32 (a1 : Int) (of_decide_eq_true (by first | (with_reducible assumption) | assumption)) (by have h_ : (a1 : Int) < ((l0_0.length : Int) : Int) := of_decide_eq_true (by first | (with_reducible assumption) | assumption); first | exact h_ | (have e_ := (Kd.R_reads' HO0_0.out).1; omega) | simpa using h_); obtain rfl := k32_openM hM15; have HP15 := Kd.R_seg HX15.out (a1 : Int) (of_decide_eq_true (by first | (with_reducible assumption) | assumption)) (by have h_ : (a1 : Int) < ((l0_0.length : Int) : Int) := of_decide_eq_true (by first | (with_reducible assumption) | assumption); first | exact h_ | (have e_ := (Kd.R_reads' HO0_0.out).1; omega) | simpa using h_) (seg := [.bool false]) (j := 3) hcl15 hcc15 (show 4 ≤ 5 from by decide) (x' := (⟨(rd_T32 l0_0 a1).f0, (rd_T32 l0_0 a1).f1, (rd_T32 l0_0 a1).f2, false, (rd_T32 l0_0 a1).f4⟩ : S32)) (k32_mkM _ _ _ (⟨(rd_T32 l0_0 a1).f0, (rd_T32 l0_0 a1).f1, (rd_T32 l0_0 a1).f2, false, (rd_T32 l0_0 a1).f4⟩ : S32) ) (fun _ hk => hk); have hx15_3 := hcc15 3 _ rfl; (try simp only [show (k32).sz = 5 from rfl, Nat.mul_one, Nat.add_zero] at hx15_3); have hf15_3 := hfr15 3; (try simp only [show (k32).sz = 5 from rfl, Nat.mul_one, Nat.add_zero] at hf15_3); clear hcl15 hcc15 hfr15 hM15) | ((with_reducible refine gate_store (t := 4) (p := 23) rfl ?_); refine store_event (t := 4) (p := 23) (v := ?vo_w16) (w1 := (w13.setCell ⟨go8, (a1 : Int).toNat * 5 + 3, none⟩ (.bool false))) ?hg ?ho ?hn ?hr ?_; (case ho => rfl); (case hg => rfl); (case hn => rfl); (case hr => first | (go_simp; done) | (go_simp; rfl)); intro w16 hw; have hg : w13.grownBy w16 (some go8) := (by rw [hw]; exact HP15.2); have hp_ : Kd.R k32 32 w16 w0.heap.size (fun k_ => (P0_0_ k_ ∨ w.heap.size ≤ k_)) (.slice (some ⟨go8, 0, none⟩) l0_0.length co12) y142 := (by rw [hw, Ny142.out]; exact HP15.1); clear HP15; replace BK139 := aM (blk_grown (blk_mv BK139.out) hg (Kd.R_ne HO0_0.out BK139.out (by decide))); replace HB := aM ((by rw [hw]; exact below_set (HB.out) GB8.out : Below w0.heap.size w0 w16)); replace HK := aM (Kept.of_grown (S := (fun k_ => P0_0_ k_)) hg (by repeat (first | (with_reducible first | exact HK.out | apply Kept.alloc | apply Kept.drewN | apply Kept.drew | refine Kept.setCell ?_ (.inr GW139.out) _) | exact HK.out)) (fun k_ e_ => (HO0_0.out.1 k_ e_))); replace HO0_0 := aM (hp_); clear hg hw hp_; have p9 : 0 ≤ (a1 : Int) := of_decide_eq_true (by first | (with_reducible assumption) | assumption); have q9 : (a1 : Int) < ((l0_0.length : Int) : Int) := of_decide_eq_true (by first | (with_reducible assumption) | assumption); obtain ⟨ce9, hcl9, hM9, hcc9, hfr9⟩ := Kd.R_elem HO0_0.out z32 (a1 : Int) p9 q9; obtain rfl := k32_openM hM9; have hx9_0 : w16.cell? ⟨go8, (a1 : Int).toNat * 5, none⟩ = some (.int .i64 ((rd_T32 y142 a1).f0)) := hcc9 0 _ rfl; have hx9_1 : w16.cell? ⟨go8, (a1 : Int).toNat * 5 + 1, none⟩ = some (.int .i64 ((rd_T32 y142 a1).f1)) := hcc9 1 _ rfl; have hx9_2 : w16.cell? ⟨go8, (a1 : Int).toNat * 5 + 2, none⟩ = some (.int .i64 ((rd_T32 y142 a1).f2)) := hcc9 2 _ rfl; have hx9_3 : w16.cell? ⟨go8, (a1 : Int).toNat * 5 + 3, none⟩ = some (.bool ((rd_T32 y142 a1).f3)) := hcc9 3 _ rfl; have hx9_4 : w16.cell? ⟨go8, (a1 : Int).toNat * 5 + 4, none⟩ = some (.bool ((rd_T32 y142 a1).f4)) := hcc9 4 _ rfl; have hf9_0 : w16.frozen? ⟨go8, (a1 : Int).toNat * 5, none⟩ = false := hfr9 0; have hf9_1 : w16.frozen? ⟨go8, (a1 : Int).toNat * 5 + 1, none⟩ = false := hfr9 1; have hf9_2 : w16.frozen? ⟨go8, (a1 : Int).toNat * 5 + 2, none⟩ = false := hfr9 2; have hf9_3 : w16.frozen? ⟨go8, (a1 : Int).toNat * 5 + 3, none⟩ = false := hfr9 3; have hf9_4 : w16.frozen? ⟨go8, (a1 : Int).toNat * 5 + 4, none⟩ = false := hfr9 4; clear hcl9 hcc9 hfr9 hM9; replace p9 := eq_true p9; replace q9 := eq_true q9; have HX17 := aM (show Kd.R k32 32 w16 w0.heap.size (fun k_ => (P0_0_ k_ ∨ w.heap.size ≤ k_)) (.slice (some ⟨go8, 0, none⟩) l0_0.length co12) y142 from (R_mv HO0_0.out)); obtain ⟨ce17, hcl17, hM17, hcc17, hfr17⟩ := Kd.R_elem HX17.out z32 (a1 : Int) (of_decide_eq_true (by first | (with_reducible assumption) | assumption)) (by have h_ : (a1 : Int) < ((l0_0.length : Int) : Int) := of_decide_eq_true (by first | (with_reducible assumption) | assumption); first | exact h_ | (have e_ := (Kd.R_reads' HO0_0.out).1; omega) | simpa using h_); obtain rfl := k32_openM hM17; have HP17 := Kd.R_seg HX17.out (a1 : Int) (of_decide_eq_true (by first | (with_reducible assumption) | assumption)) (by have h_ : (a1 : Int) < ((l0_0.length : Int) : Int) := of_decide_eq_true (by first | (with_reducible assumption) | assumption); first | exact h_ | (have e_ := (Kd.R_reads' HO0_0.out).1; omega) | simpa using h_) (seg := [.int .i64 a2]) (j := 1) hcl17 hcc17 (show 2 ≤ 5 from by decide) (x' := (⟨(rd_T32 y142 a1).f0, a2, (rd_T32 y142 a1).f2, (rd_T32 y142 a1).f3, (rd_T32 y142 a1).f4⟩ : S32)) (k32_mkM _ _ _ (⟨(rd_T32 y142 a1).f0, a2, (rd_T32 y142 a1).f2, (rd_T32 y142 a1).f3, (rd_T32 y142 a1).f4⟩ : S32) ) (fun _ hk => hk); have hx17_1 := hcc17 1 _ rfl; (try simp only [show (k32).sz = 5 from rfl, Nat.mul_one, Nat.add_zero] at hx17_1); have hf17_1 := hfr17 1; (try simp only [show (k32).sz = 5 from rfl, Nat.mul_one, Nat.add_zero] at hf17_1); clear hcl17 hcc17 hfr17 hM17) | ((with_reducible refine gate_store (t := 3) (p := 25) rfl ?_); refine store_event (t := 3) (p := 25) (v := ?vo_w18) (w1 := (w16.setCell ⟨go8, (a1 : Int).toNat * 5 + 1, none⟩ (.int .i64 a2))) ?hg ?ho ?hn ?hr ?_; (case ho => rfl); (case hg => rfl); (case hn => rfl); (case hr => first | (go_simp; done) | (go_simp; rfl)); intro w18 hw; have hg : w16.grownBy w18 (some go8) := (by rw [hw]; exact HP17.2); have hp_ : Kd.R k32 32 w18 w0.heap.size (fun k_ => (P0_0_ k_ ∨ w.heap.size ≤ k_)) (.slice (some ⟨go8, 0, none⟩) l0_0.length co12) y143 := (by rw [hw, Ny143.out]; exact HP17.1); clear HP17; replace BK139 := aM (blk_grown (blk_mv BK139.out) hg (Kd.R_ne HO0_0.out BK139.out (by decide))); replace HB := aM ((by rw [hw]; exact below_set (HB.out) GB8.out : Below w0.heap.size w0 w18)); replace HK := aM (Kept.of_grown (S := (fun k_ => P0_0_ k_)) hg (by repeat (first | (with_reducible first | exact HK.out | apply Kept.alloc | apply Kept.drewN | apply Kept.drew | refine Kept.setCell ?_ (.inr GW139.out) _) | exact HK.out)) (fun k_ e_ => (HO0_0.out.1 k_ e_))); replace HO0_0 := aM (hp_); clear hg hw hp_; have p10 : 0 ≤ (a1 : Int) := of_decide_eq_true (by first | (with_reducible assumption) | assumption); have q10 : (a1 : Int) < ((l0_0.length : Int) : Int) := of_decide_eq_true (by first | (with_reducible assumption) | assumption); obtain ⟨ce10, hcl10, hM10, hcc10, hfr10⟩ := Kd.R_elem HO0_0.out z32 (a1 : Int) p10 q10; obtain rfl := k32_openM hM10; have hx10_0 : w18.cell? ⟨go8, (a1 : Int).toNat * 5, none⟩ = some (.int .i64 ((rd_T32 y143 a1).f0)) := hcc10 0 _ rfl; have hx10_1 : w18.cell? ⟨go8, (a1 : Int).toNat * 5 + 1, none⟩ = some (.int .i64 ((rd_T32 y143 a1).f1)) := hcc10 1 _ rfl; have hx10_2 : w18.cell? ⟨go8, (a1 : Int).toNat * 5 + 2, none⟩ = some (.int .i64 ((rd_T32 y143 a1).f2)) := hcc10 2 _ rfl; have hx10_3 : w18.cell? ⟨go8, (a1 : Int).toNat * 5 + 3, none⟩ = some (.bool ((rd_T32 y143 a1).f3)) := hcc10 3 _ rfl; have hx10_4 : w18.cell? ⟨go8, (a1 : Int).toNat * 5 + 4, none⟩ = some (.bool ((rd_T32 y143 a1).f4)) := hcc10 4 _ rfl; have hf10_0 : w18.frozen? ⟨go8, (a1 : Int).toNat * 5, none⟩ = false := hfr10 0; have hf10_1 : w18.frozen? ⟨go8, (a1 : Int).toNat * 5 + 1, none⟩ = false := hfr10 1; have hf10_2 : w18.frozen? ⟨go8, (a1 : Int).toNat * 5 + 2, none⟩ = false := hfr10 2; have hf10_3 : w18.frozen? ⟨go8, (a1 : Int).toNat * 5 + 3, none⟩ = false := hfr10 3; have hf10_4 : w18.frozen? ⟨go8, (a1 : Int).toNat * 5 + 4, none⟩ = false := hfr10 4; clear hcl10 hcc10 hfr10 hM10; replace p10 := eq_true p10; replace q10 := eq_true q10; have HX19 := aM (show Kd.R k32 32 w18 w0.heap.size (fun k_ => (P0_0_ k_ ∨ w.heap.size ≤ k_)) (.slice (some ⟨go8, 0, none⟩) l0_0.length co12) y143 from (R_mv HO0_0.out)); obtain ⟨ce19, hcl19, hM19, hcc19, hfr19⟩ := Kd.R_elem HX19.out z32 (a1 : Int) (of_decide_eq_true (by first | (with_reducible assumption) | assumption)) (by have h_ : (a1 : Int) < ((l0_0.length : Int) : Int) := of_decide_eq_true (by first | (with_reducible assumption) | assumption); first | exact h_ | (have e_ := (Kd.R_reads' HO0_0.out).1; omega) | simpa using h_); obtain rfl := k32_openM hM19; have HP19 := Kd.R_seg HX19.out (a1 : Int) (of_decide_eq_true (by first | (with_reducible assumption) | assumption)) (by have h_ : (a1 : Int) < ((l0_0.length : Int) : Int) := of_decide_eq_true (by first | (with_reducible assumption) | assumption); first | exact h_ | (have e_ := (Kd.R_reads' HO0_0.out).1; omega) | simpa using h_) (seg := [.int .i64 0]) (j := 2) hcl19 hcc19 (show 3 ≤ 5 from by decide) (x' := (⟨(rd_T32 y143 a1).f0, (rd_T32 y143 a1).f1, 0, (rd_T32 y143 a1).f3, (rd_T32 y143 a1).f4⟩ : S32)) (k32_mkM _ _ _ (⟨(rd_T32 y143 a1).f0, (rd_T32 y143 a1).f1, 0, (rd_T32 y143 a1).f3, (rd_T32 y143 a1).f4⟩ : S32) ) (fun _ hk => hk); have hx19_2 := hcc19 2 _ rfl; (try simp only [show (k32).sz = 5 from rfl, Nat.mul_one, Nat.add_zero] at hx19_2); have hf19_2 := hfr19 2; (try simp only [show (k32).sz = 5 from rfl, Nat.mul_one, Nat.add_zero] at hf19_2); clear hcl19 hcc19 hfr19 hM19) | ((with_reducible refine gate_store (t := 3) (p := 27) rfl ?_); refine store_event (t := 3) (p := 27) (v := ?vo_w20) (w1 := (w18.setCell ⟨go8, (a1 : Int).toNat * 5 + 2, none⟩ (.int .i64 0))) ?hg ?ho ?hn ?hr ?_; (case ho => rfl); (case hg => rfl); (case hn => rfl); (case hr => first | (go_simp; done) | (go_simp; rfl)); intro w20 hw; have hg : w18.grownBy w20 (some go8) := (by rw [hw]; exact HP19.2); have hp_ : Kd.R k32 32 w20 w0.heap.size (fun k_ => (P0_0_ k_ ∨ w.heap.size ≤ k_)) (.slice (some ⟨go8, 0, none⟩) l0_0.length co12) y144 := (by rw [hw, Ny144.out]; exact HP19.1); clear HP19; replace BK139 := aM (blk_grown (blk_mv BK139.out) hg (Kd.R_ne HO0_0.out BK139.out (by decide))); replace HB := aM ((by rw [hw]; exact below_set (HB.out) GB8.out : Below w0.heap.size w0 w20)); replace HK := aM (Kept.of_grown (S := (fun k_ => P0_0_ k_)) hg (by repeat (first | (with_reducible first | exact HK.out | apply Kept.alloc | apply Kept.drewN | apply Kept.drew | refine Kept.setCell ?_ (.inr GW139.out) _) | exact HK.out)) (fun k_ e_ => (HO0_0.out.1 k_ e_))); replace HO0_0 := aM (hp_); clear hg hw hp_; have p11 : 0 ≤ (a1 : Int) := of_decide_eq_true (by first | (with_reducible assumption) | assumption); have q11 : (a1 : Int) < ((l0_0.length : Int) : Int) := of_decide_eq_true (by first | (with_reducible assumption) | assumption); obtain ⟨ce11, hcl11, hM11, hcc11, hfr11⟩ := Kd.R_elem HO0_0.out z32 (a1 : Int) p11 q11; obtain rfl := k32_openM hM11; have hx11_0 : w20.cell? ⟨go8, (a1 : Int).toNat * 5, none⟩ = some (.int .i64 ((rd_T32 y144 a1).f0)) := hcc11 0 _ rfl; have hx11_1 : w20.cell? ⟨go8, (a1 : Int).toNat * 5 + 1, none⟩ = some (.int .i64 ((rd_T32 y144 a1).f1)) := hcc11 1 _ rfl; have hx11_2 : w20.cell? ⟨go8, (a1 : Int).toNat * 5 + 2, none⟩ = some (.int .i64 ((rd_T32 y144 a1).f2)) := hcc11 2 _ rfl; have hx11_3 : w20.cell? ⟨go8, (a1 : Int).toNat * 5 + 3, none⟩ = some (.bool ((rd_T32 y144 a1).f3)) := hcc11 3 _ rfl; have hx11_4 : w20.cell? ⟨go8, (a1 : Int).toNat * 5 + 4, none⟩ = some (.bool ((rd_T32 y144 a1).f4)) := hcc11 4 _ rfl; have hf11_0 : w20.frozen? ⟨go8, (a1 : Int).toNat * 5, none⟩ = false := hfr11 0; have hf11_1 : w20.frozen? ⟨go8, (a1 : Int).toNat * 5 + 1, none⟩ = false := hfr11 1; have hf11_2 : w20.frozen? ⟨go8, (a1 : Int).toNat * 5 + 2, none⟩ = false := hfr11 2; have hf11_3 : w20.frozen? ⟨go8, (a1 : Int).toNat * 5 + 3, none⟩ = false := hfr11 3; have hf11_4 : w20.frozen? ⟨go8, (a1 : Int).toNat * 5 + 4, none⟩ = false := hfr11 4; clear hcl11 hcc11 hfr11 hM11; replace p11 := eq_true p11; replace q11 := eq_true q11; have HX21 := aM (show Kd.R k32 32 w20 w0.heap.size (fun k_ => (P0_0_ k_ ∨ w.heap.size ≤ k_)) (.slice (some ⟨go8, 0, none⟩) l0_0.length co12) y144 from (R_mv HO0_0.out)); obtain ⟨ce21, hcl21, hM21, hcc21, hfr21⟩ := Kd.R_elem HX21.out z32 (a1 : Int) (of_decide_eq_true (by first | (with_reducible assumption) | assumption)) (by have h_ : (a1 : Int) < ((l0_0.length : Int) : Int) := of_decide_eq_true (by first | (with_reducible assumption) | assumption); first | exact h_ | (have e_ := (Kd.R_reads' HO0_0.out).1; omega) | simpa using h_); obtain rfl := k32_openM hM21; have HP21 := Kd.R_seg HX21.out (a1 : Int) (of_decide_eq_true (by first | (with_reducible assumption) | assumption)) (by have h_ : (a1 : Int) < ((l0_0.length : Int) : Int) := of_decide_eq_true (by first | (with_reducible assumption) | assumption); first | exact h_ | (have e_ := (Kd.R_reads' HO0_0.out).1; omega) | simpa using h_) (seg := [.bool false]) (j := 4) hcl21 hcc21 (show 5 ≤ 5 from by decide) (x' := (⟨(rd_T32 y144 a1).f0, (rd_T32 y144 a1).f1, (rd_T32 y144 a1).f2, (rd_T32 y144 a1).f3, false⟩ : S32)) (k32_mkM _ _ _ (⟨(rd_T32 y144 a1).f0, (rd_T32 y144 a1).f1, (rd_T32 y144 a1).f2, (rd_T32 y144 a1).f3, false⟩ : S32) ) (fun _ hk => hk); have hx21_4 := hcc21 4 _ rfl; (try simp only [show (k32).sz = 5 from rfl, Nat.mul_one, Nat.add_zero] at hx21_4); have hf21_4 := hfr21 4; (try simp only [show (k32).sz = 5 from rfl, Nat.mul_one, Nat.add_zero] at hf21_4); clear hcl21 hcc21 hfr21 hM21) | ((with_reducible refine gate_store (t := 4) (p := 29) rfl ?_); refine store_event (t := 4) (p := 29) (v := ?vo_w22) (w1 := (w20.setCell ⟨go8, (a1 : Int).toNat * 5 + 4, none⟩ (.bool false))) ?hg ?ho ?hn ?hr ?_; (case ho => rfl); (case hg => rfl); (case hn => rfl); (case hr => first | (go_simp; done) | (go_simp; rfl)); intro w22 hw; have hg : w20.grownBy w22 (some go8) := (by rw [hw]; exact HP21.2); have hp_ : Kd.R k32 32 w22 w0.heap.size (fun k_ => (P0_0_ k_ ∨ w.heap.size ≤ k_)) (.slice (some ⟨go8, 0, none⟩) l0_0.length co12) y145 := (by rw [hw, Ny145.out]; exact HP21.1); clear HP21; replace BK139 := aM (blk_grown (blk_mv BK139.out) hg (Kd.R_ne HO0_0.out BK139.out (by decide))); replace HB := aM ((by rw [hw]; exact below_set (HB.out) GB8.out : Below w0.heap.size w0 w22)); replace HK := aM (Kept.of_grown (S := (fun k_ => P0_0_ k_)) hg (by repeat (first | (with_reducible first | exact HK.out | apply Kept.alloc | apply Kept.drewN | apply Kept.drew | refine Kept.setCell ?_ (.inr GW139.out) _) | exact HK.out)) (fun k_ e_ => (HO0_0.out.1 k_ e_))); replace HO0_0 := aM (hp_); clear hg hw hp_))
    go_ret
    exact ⟨by first | rfl | (simp [errW_none, errW_some] <;> rfl) | (simp [*, errW_none, errW_some] <;> rfl), by (with_reducible repeat (first | apply Kd.R_alloc | apply Kd.R_drewN | apply Kd.R_drew)); exact HO0_0.out, by repeat (first | (with_reducible first | exact HB.out | apply bA | apply bN | apply bD | refine below_set ?_ GE139.out) | exact HB.out), by repeat (first | (with_reducible first | exact HK.out | apply Kept.alloc | apply Kept.drewN | apply Kept.drew | refine Kept.setCell ?_ (.inr GW139.out) _) | exact HK.out)⟩
  · replace c7 := Bool.eq_false_iff.mpr c7
    subst c7
    have H1 : (some (false, l0_0)) = some (r1, r2) := by rw [if_neg (show ¬ (false = true) by decide)] at H; exact H
    clear H
    have H := H1
    clear H1
    simp only [Option.some.injEq, Prod.mk.injEq] at H
    obtain ⟨rfl, rfl⟩ := H
    obtain ⟨Ao23, co23, eo23⟩ := Kd.R_slice HO0_0.out
    subst eo23
    go_enter Try.func44, Try.ntmps44
    go_wp2_with (first | ((with_reducible refine gate_dst (N := 3) rfl ?_); refine box_event ?hg (N := 3) ?hd (cs := #[.slice Ao23 l0_0.length co23, .slice A0_1 l0_1.length c0_1, .int .i64 a0_2]) (t := 28) ?hr ?_; (case hd => rfl); (case hg => rfl); (case hr => first | (go_simp; done) | (go_simp; rfl)); intro gb139 hg w24 hbox hb; replace HO0_0 := aM (Kd.R_below (R_mv HO0_0.out) hb); have BK139 := aM (hbox); have GW139 := aM ((by rw [hg]; exact (by first | exact HK.out.1 | exact (show Kept w _ (fun k_ => P0_0_ k_) from by repeat (first | (with_reducible first | exact HK.out | apply Kept.alloc | apply Kept.drewN | apply Kept.drew) | exact HK.out)).1) : w.heap.size ≤ gb139)); replace HK := aM (Kept.below (S := (fun k_ => P0_0_ k_)) (by repeat (first | (with_reducible first | exact HK.out | apply Kept.alloc | apply Kept.drewN | apply Kept.drew) | exact HK.out)) hb); have GE139 := aM ((by rw [hg]; exact (below_size (below_mv HB.out)) : w0.heap.size ≤ gb139)); replace HB := aM (below_step (below_mv HB.out) hb); clear hb hbox hg; obtain ⟨hcz25_0, hcz25_1, hcz25_2, hfz25_0, hfz25_1, hfz25_2⟩ := blk3 BK139.out; have p140 : 0 ≤ (a1 : Int) := of_decide_eq_true (by first | (with_reducible assumption) | assumption); have q140 : a1 < (l0_0.length : Int) := of_decide_eq_true (by first | (with_reducible assumption) | assumption); obtain ⟨ad140, e140, hx140_0, hx140_1, hx140_2, hx140_3, hx140_4⟩ := at_T32 (Kd.R_reads' HO0_0.out).2.2 a1 p140 q140; (try rw [← Nbq6.out] at hx140_3); (try rw [← Nbq6.out] at hx140_4); cases e140; replace p140 := eq_true p140; replace q140 := eq_true q140; have p141 : 0 ≤ (a1 : Int) := of_decide_eq_true (by first | (with_reducible assumption) | assumption); have q141 : a1 < (l0_0.length : Int) := of_decide_eq_true (by first | (with_reducible assumption) | assumption); obtain ⟨ad141, e141, hx141_0, hx141_1, hx141_2, hx141_3, hx141_4⟩ := at_T32 (Kd.R_reads' HO0_0.out).2.2 a1 p141 q141; (try rw [← Nbq6.out] at hx141_3); (try rw [← Nbq6.out] at hx141_4); obtain rfl : ad140 = ad141 := (by injection e141); replace p141 := eq_true p141; replace q141 := eq_true q141))
    go_ret
    exact ⟨by first | rfl | (simp [errW_none, errW_some] <;> rfl) | (simp [*, errW_none, errW_some] <;> rfl), by (with_reducible repeat (first | apply Kd.R_alloc | apply Kd.R_drewN | apply Kd.R_drew)); exact HO0_0.out, by repeat (first | (with_reducible first | exact HB.out | apply bA | apply bN | apply bD | refine below_set ?_ GE139.out) | exact HB.out), by repeat (first | (with_reducible first | exact HK.out | apply Kept.alloc | apply Kept.drewN | apply Kept.drew | refine Kept.setCell ?_ (.inr GW139.out) _) | exact HK.out)⟩

/-! ### feeder_Open: function 14 -/
def feeder_Open.f (k : Nat) (l0_0 : List (S32)) (l0_1 : List Int) (a0_2 : Int) (a1 : Int) (a2 : Int) : Option ((List (S32)) × List Int × Int × Int) := (feeder_can.f k l0_0 l0_1 a0_2 a1 a2).bind fun t148 => (if t148 = 0 then ((feeder_clone.f l0_0 l0_1 a0_2).bind fun bt149 => ((feeder_open.f bt149.1 bt149.2.1 bt149.2.2 a1 a2).bind fun bt157 => (some (bt157.2, bt149.2.1, bt149.2.2, 0)))) else (some (([] : List (S32)), ([] : List Int), 0, t148)))
theorem feeder_Open.mono : ∀ a0 a1 a2 a3 a4 k, LeO (feeder_Open.f k a0 a1 a2 a3 a4) (feeder_Open.f (k + 1) a0 a1 a2 a3 a4) := by
  intro a0 a1 a2 a3 a4 k
  unfold feeder_Open.f
  repeat' first
      | (with_reducible exact feeder_can.mono _ _ _ _ _ _)
      | (with_reducible exact LeO.refl _)
      | (with_reducible exact LeO.none _)
      | (with_reducible refine LeO.ite ?_ ?_)
      | (with_reducible refine LeO.bind ?_ (fun _ => ?_))
      | exact LeO.none _
      | refine LeO.ite ?_ ?_
      | refine LeO.bind ?_ (fun _ => ?_)
set_option maxHeartbeats 8000000 in
set_option maxRecDepth 100000 in
theorem feeder_Open.calls (k : Nat) (A0_0 : Option Addr) (c0_0 : Nat) (l0_0 : List (S32)) (A0_1 : Option Addr) (c0_1 : Nat) (l0_1 : List Int) (a0_2 : Int) (a1 : Int) (a2 : Int) (r1 : List (S32)) (r2 : List Int) (r3 : Int) (r4 : Int) (w : World) (hr0_0 : Kd.C k32 w A0_0 l0_0.length l0_0) (hc0_0 : l0_0.length ≤ c0_0) (hr0_1 : Kd.C (Kd.int .i64) w A0_1 l0_1.length l0_1) (hc0_1 : l0_1.length ≤ c0_1) (h : feeder_Open.f k l0_0 l0_1 a0_2 a1 a2 = some (r1, r2, r3, r4)) :
    Calls Try.prog 14 #[.agg #[.slice A0_0 l0_0.length c0_0, .slice A0_1 l0_1.length c0_1, .int .i64 a0_2], .int .i64 a1, .int .i64 a2] w fun e w' => ∃ v0_ v1_ : Value, e = .returned (.tuple #[.agg #[v0_, v1_, .int .i64 r3], .int .i64 r4]) ∧ Kd.R k32 32 w' w.heap.size (fun _ => True) v0_ r1 ∧ Kd.R (Kd.int .i64) 3 w' w.heap.size (fun _ => True) v1_ r2 ∧ Below w.heap.size w w' := by
  have hu28 := Try.underlying28
  have HR0_0 := aM hr0_0
  have HC0_0 := aM hc0_0
  clear hr0_0 hc0_0
  have HR0_1 := aM hr0_1
  have HC0_1 := aM hc0_1
  clear hr0_1 hc0_1
  have HB := aM (Below.refl w.heap.size w)
  have H : ((feeder_can.f k l0_0 l0_1 a0_2 a1 a2).bind fun t148 => (if t148 = 0 then ((feeder_clone.f l0_0 l0_1 a0_2).bind fun bt149 => ((feeder_open.f bt149.1 bt149.2.1 bt149.2.2 a1 a2).bind fun bt157 => (some (bt157.2, bt149.2.1, bt149.2.2, 0)))) else (some (([] : List (S32)), ([] : List Int), 0, t148)))) = some (r1, r2, r3, r4) := h
  clear h
  replace H := Option.bind_eq_some_iff.mp H
  obtain ⟨t148, A40, H⟩ := H
  replace H : (if t148 = 0 then ((feeder_clone.f l0_0 l0_1 a0_2).bind fun bt149 => ((feeder_open.f bt149.1 bt149.2.1 bt149.2.2 a1 a2).bind fun bt157 => (some (bt157.2, bt149.2.1, bt149.2.2, 0)))) else (some (([] : List (S32)), ([] : List Int), 0, t148))) = some (r1, r2, r3, r4) := H
  have A4 := aM A40
  clear A40
  by_cases c5 : t148 = 0
  · rw [if_pos c5] at H
    have c5b0 : (t148 == 0) = true := beq_iff_eq.mpr c5
    have c5b1 : (t148 != 0) = false := bne_eq_false_iff_eq.mpr c5
    clear c5
    replace H := Option.bind_eq_some_iff.mp H
    obtain ⟨⟨t149, t152, t155⟩, A60, H⟩ := H
    replace H : ((feeder_open.f t149 t152 t155 a1 a2).bind fun bt157 => (some (bt157.2, t152, t155, 0))) = some (r1, r2, r3, r4) := H
    have A6 := aM A60
    clear A60
    replace H := Option.bind_eq_some_iff.mp H
    obtain ⟨⟨t157, t158⟩, A70, H⟩ := H
    replace H : (some (t158, t152, t155, 0)) = some (r1, r2, r3, r4) := H
    have A7 := aM A70
    clear A70
    simp only [Option.some.injEq, Prod.mk.injEq] at H
    obtain ⟨rfl, rfl, rfl, rfl⟩ := H
    go_enter Try.func14, Try.ntmps14
    go_wp2_with (first | ((with_reducible refine gate_dst (N := 3) rfl ?_); refine box_event ?hg (N := 3) ?hd (cs := #[.slice A0_0 l0_0.length c0_0, .slice A0_1 l0_1.length c0_1, .int .i64 a0_2]) (t := 28) ?hr ?_; (case hd => rfl); (case hg => rfl); (case hr => first | (go_simp; done) | (go_simp; rfl)); intro gb146 hg w8 hbox hb; have BK146 := aM (hbox); have GW146 := aM ((by rw [hg]; exact (below_size (below_mv HB.out)) : w.heap.size ≤ gb146)); have GE146 := aM ((by rw [hg]; exact (below_size (below_mv HB.out)) : w.heap.size ≤ gb146)); replace HB := aM (below_step (below_mv HB.out) hb); clear hb hbox hg) | ((with_reducible refine gate_dst (N := 6) rfl ?_); refine box_event ?hg (N := 6) ?hd (cs := #[.slice none 0 0, .slice none 0 0, .int .i64 0]) (t := 28) ?hr ?_; (case hd => rfl); (case hg => rfl); (case hr => first | (go_simp; done) | (go_simp; rfl)); intro gb147 hg w9 hbox hb; have BK147 := aM (hbox); have GW147 := aM ((by rw [hg]; exact (below_size (by repeat (first | (with_reducible first | exact HB.out | apply bA | apply bN | apply bD | refine below_set ?_ GE146.out) | exact HB.out))) : w.heap.size ≤ gb147)); have GE147 := aM ((by rw [hg]; exact (below_size (by repeat (first | (with_reducible first | exact HB.out | apply bA | apply bN | apply bD | refine below_set ?_ GE146.out) | exact HB.out))) : w.heap.size ≤ gb147)); replace HB := aM (below_step (by repeat (first | (with_reducible first | exact HB.out | apply bA | apply bN | apply bD | refine below_set ?_ GE146.out) | exact HB.out)) hb); have NB146_147 := aM ((by rw [hg]; exact Nat.ne_of_lt (blk_lt (blk_mv BK146.out)) : gb146 ≠ gb147)); have NB147_146 := aM ((by rw [hg]; exact Nat.ne_of_gt (blk_lt (blk_mv BK146.out)) : gb147 ≠ gb146)); replace BK146 := aM (blk_below (blk_mv BK146.out) hb); clear hb hbox hg; have hnb10 := NB146_147.out; have hnc10 := NB147_146.out; obtain ⟨hcz11_0, hcz11_1, hcz11_2, hfz11_0, hfz11_1, hfz11_2⟩ := blk3 BK146.out) | ((with_reducible refine gate_callee (f := 42) rfl ?_); refine goesL_ (some 13) rfl rfl Try.func42 (by kernel_rfl) rfl #[.agg #[.slice A0_0 l0_0.length c0_0, .slice A0_1 l0_1.length c0_1, .int .i64 a0_2], .int .i64 a1, .int .i64 a2] rfl (by first | rfl | (simp only [List.map_toArray, List.map_cons, List.map_nil, List.length_drop, List.length_take]; rfl)) ?_; (with_reducible refine (feeder_can.calls k _ _ l0_0 _ _ l0_1 a0_2 a1 a2 t148 _ ?side1 ?side2 ?side3 ?side4 A4.out).mono ?_); (case side1 => first | exact C_mv (Kd.C_below HR0_0.out HB.out) | exact C_mv HR0_0.out); (case side2 => exact HC0_0.out); (case side3 => first | exact C_mv (Kd.C_below HR0_1.out HB.out) | exact C_mv HR0_1.out); (case side4 => exact HC0_1.out); rintro e w12 ⟨rfl, hb⟩; refine ⟨_, rfl, ?_⟩; replace BK146 := aM (blk_below (blk_mv BK146.out) hb); replace BK147 := aM (blk_below (blk_mv BK147.out) hb); replace HB := aM (below_step (by repeat (first | (with_reducible first | exact HB.out | apply bA | apply bN | apply bD | refine below_set ?_ GE146.out | refine below_set ?_ GE147.out) | exact HB.out)) hb); (try clear hb); (try clear hb2); (try clear hge); (try clear hk); (try clear hi); obtain ⟨hcz13_0, hcz13_1, hcz13_2, hfz13_0, hfz13_1, hfz13_2⟩ := blk3 BK146.out) | ((with_reducible refine gate_callee (f := 43) rfl ?_); refine goesL_ (some 19) rfl rfl Try.func43 (by kernel_rfl) rfl #[.agg #[.slice A0_0 l0_0.length c0_0, .slice A0_1 l0_1.length c0_1, .int .i64 a0_2]] rfl (by first | rfl | (simp only [List.map_toArray, List.map_cons, List.map_nil, List.length_drop, List.length_take]; rfl)) ?_; (with_reducible refine (feeder_clone.calls _ _ l0_0 _ _ l0_1 a0_2 t149 t152 t155 _ ?side1 ?side2 ?side3 ?side4 A6.out).mono ?_); (case side1 => first | exact C_mv (Kd.C_below HR0_0.out HB.out) | exact C_mv HR0_0.out); (case side2 => exact HC0_0.out); (case side3 => first | exact C_mv (Kd.C_below HR0_1.out HB.out) | exact C_mv HR0_1.out); (case side4 => exact HC0_1.out); rintro e w14 ⟨v150, v153, rfl, ho0, ho1, hb⟩; refine ⟨_, rfl, ?_⟩; have HO151 := aM (Kd.R_lower ho0 (below_size (by repeat (first | (with_reducible first | exact HB.out | apply bA | apply bN | apply bD | refine below_set ?_ GE146.out | refine below_set ?_ GE147.out) | exact HB.out)))); have HO154 := aM (Kd.R_lower ho1 (below_size (by repeat (first | (with_reducible first | exact HB.out | apply bA | apply bN | apply bD | refine below_set ?_ GE146.out | refine below_set ?_ GE147.out) | exact HB.out)))); replace BK146 := aM (blk_below (blk_mv BK146.out) hb); replace BK147 := aM (blk_below (blk_mv BK147.out) hb); replace HB := aM (below_step (by repeat (first | (with_reducible first | exact HB.out | apply bA | apply bN | apply bD | refine below_set ?_ GE146.out | refine below_set ?_ GE147.out) | exact HB.out)) hb); (try clear hb); (try clear hb2); (try clear hge); (try clear hk); (try clear hi); (try clear ho0); (try clear ho1)) | ((with_reducible refine gate_dst (N := 9) rfl ?_); refine box_event ?hg (N := 9) ?hd (cs := #[.slice none 0 0, .slice none 0 0, .int .i64 0]) (t := 28) ?hr ?_; (case hd => rfl); (case hg => rfl); (case hr => first | (go_simp; done) | (go_simp; rfl)); intro gb156 hg w15 hbox hb; replace HO151 := aM (Kd.R_below (R_mv HO151.out) hb); replace HO154 := aM (Kd.R_below (R_mv HO154.out) hb); have BK156 := aM (hbox); have GW156 := aM ((by rw [hg]; exact (below_size (by repeat (first | (with_reducible first | exact HB.out | apply bA | apply bN | apply bD | refine below_set ?_ GE146.out | refine below_set ?_ GE147.out) | exact HB.out))) : w.heap.size ≤ gb156)); have GE156 := aM ((by rw [hg]; exact (below_size (by repeat (first | (with_reducible first | exact HB.out | apply bA | apply bN | apply bD | refine below_set ?_ GE146.out | refine below_set ?_ GE147.out) | exact HB.out))) : w.heap.size ≤ gb156)); replace HB := aM (below_step (by repeat (first | (with_reducible first | exact HB.out | apply bA | apply bN | apply bD | refine below_set ?_ GE146.out | refine below_set ?_ GE147.out) | exact HB.out)) hb); have NB146_156 := aM ((by rw [hg]; exact Nat.ne_of_lt (blk_lt (blk_mv BK146.out)) : gb146 ≠ gb156)); have NB156_146 := aM ((by rw [hg]; exact Nat.ne_of_gt (blk_lt (blk_mv BK146.out)) : gb156 ≠ gb146)); replace BK146 := aM (blk_below (blk_mv BK146.out) hb); have NB147_156 := aM ((by rw [hg]; exact Nat.ne_of_lt (blk_lt (blk_mv BK147.out)) : gb147 ≠ gb156)); have NB156_147 := aM ((by rw [hg]; exact Nat.ne_of_gt (blk_lt (blk_mv BK147.out)) : gb156 ≠ gb147)); replace BK147 := aM (blk_below (blk_mv BK147.out) hb); clear hb hbox hg; obtain ⟨Ao16, co16, eo16⟩ := Kd.R_slice HO151.out; subst eo16; have hnb17 := NB156_146.out; have hnc17 := NB146_156.out; have hnb18 := NB156_147.out; have hnc18 := NB147_156.out; obtain ⟨hcz19_0, hcz19_1, hcz19_2, hfz19_0, hfz19_1, hfz19_2⟩ := blk3 BK156.out; obtain ⟨Ao20, co20, eo20⟩ := Kd.R_slice HO154.out; subst eo20) | ((with_reducible refine gate_store (t := 28) (p := 9) rfl ?_); refine store_event (t := 28) (p := 9) (v := ?vo_w21) (w1 := (((w15.setCell ⟨gb156, 0, none⟩ (.slice Ao16 t149.length co16)).setCell ⟨gb156, 1, none⟩ (.slice Ao20 t152.length co20)).setCell ⟨gb156, 2, none⟩ (.int .i64 t155))) ?hg ?ho ?hn ?hr ?_; (case ho => rfl); (case hg => rfl); (case hn => rfl); (case hr => first | (go_simp; done) | (go_simp; rfl)); intro w21 hw; have n0_ : Aside0 (Kd.R k32 32 w21 w.heap.size (fun _ => True) (.slice Ao16 t149.length co16) t149) := ⟨(by rw [hw]; exact (by (with_reducible repeat (first | apply Kd.R_alloc | apply Kd.R_drewN | apply Kd.R_drew)); exact Kd.R_mono (Kd.R_far (p := ⟨gb156, 2, none⟩) (Kd.R_far (p := ⟨gb156, 1, none⟩) (Kd.R_far (p := ⟨gb156, 0, none⟩) (Kd.R_types HO151.out BK156.out (by decide)) (fun _ hk => hk.2) (.slice Ao16 t149.length co16)) (fun _ hk => hk.2) (.slice Ao20 t152.length co20)) (fun _ hk => hk.2) (.int .i64 t155)) (fun _ hk => trivial)))⟩; have n1_ : Aside0 (Kd.R (Kd.int .i64) 3 w21 w.heap.size (fun _ => True) (.slice Ao20 t152.length co20) t152) := ⟨(by rw [hw]; exact (by (with_reducible repeat (first | apply Kd.R_alloc | apply Kd.R_drewN | apply Kd.R_drew)); exact Kd.R_mono (Kd.R_far (p := ⟨gb156, 2, none⟩) (Kd.R_far (p := ⟨gb156, 1, none⟩) (Kd.R_far (p := ⟨gb156, 0, none⟩) (Kd.R_types HO154.out BK156.out (by decide)) (fun _ hk => hk.2) (.slice Ao16 t149.length co16)) (fun _ hk => hk.2) (.slice Ao20 t152.length co20)) (fun _ hk => hk.2) (.int .i64 t155)) (fun _ hk => trivial)))⟩; have n2_ : Aside0 (w21.heap[gb146]? = some (.cells #[.slice A0_0 l0_0.length c0_0, .slice A0_1 l0_1.length c0_1, .int .i64 a0_2] 28 (0, 0))) := ⟨(by rw [hw]; exact (by (with_reducible repeat (first | refine kN ?_ _ | refine kD ?_ | refine kA ?_ _)); refine blk_far ?_ NB146_156.out _; (with_reducible repeat (first | refine kN ?_ _ | refine kD ?_ | refine kA ?_ _)); refine blk_far ?_ NB146_156.out _; (with_reducible repeat (first | refine kN ?_ _ | refine kD ?_ | refine kA ?_ _)); refine blk_far ?_ NB146_156.out _; (with_reducible repeat (first | refine kN ?_ _ | refine kD ?_ | refine kA ?_ _)); exact BK146.out))⟩; have n3_ : Aside0 (w21.heap[gb147]? = some (.cells #[.slice none 0 0, .slice none 0 0, .int .i64 0] 28 (0, 0))) := ⟨(by rw [hw]; exact (by (with_reducible repeat (first | refine kN ?_ _ | refine kD ?_ | refine kA ?_ _)); refine blk_far ?_ NB147_156.out _; (with_reducible repeat (first | refine kN ?_ _ | refine kD ?_ | refine kA ?_ _)); refine blk_far ?_ NB147_156.out _; (with_reducible repeat (first | refine kN ?_ _ | refine kD ?_ | refine kA ?_ _)); refine blk_far ?_ NB147_156.out _; (with_reducible repeat (first | refine kN ?_ _ | refine kD ?_ | refine kA ?_ _)); exact BK147.out))⟩; have n4_ : Aside0 (w21.heap[gb156]? = some (.cells #[.slice Ao16 t149.length co16, .slice Ao20 t152.length co20, .int .i64 t155] 28 (0, 0))) := ⟨(by rw [hw]; exact (by (with_reducible repeat (first | refine kN ?_ _ | refine kD ?_ | refine kA ?_ _)); refine blk_put (cs := #[.slice Ao16 t149.length co16, .slice Ao20 t152.length co20, .int .i64 0]) ?_ 2 _ rfl; (with_reducible repeat (first | refine kN ?_ _ | refine kD ?_ | refine kA ?_ _)); refine blk_put (cs := #[.slice Ao16 t149.length co16, .slice none 0 0, .int .i64 0]) ?_ 1 _ rfl; (with_reducible repeat (first | refine kN ?_ _ | refine kD ?_ | refine kA ?_ _)); refine blk_put (cs := #[.slice none 0 0, .slice none 0 0, .int .i64 0]) ?_ 0 _ rfl; (with_reducible repeat (first | refine kN ?_ _ | refine kD ?_ | refine kA ?_ _)); exact BK156.out))⟩; have n5_ : Aside0 (Below w.heap.size w w21) := ⟨(by rw [hw]; exact (by repeat (first | (with_reducible first | exact HB.out | apply bA | apply bN | apply bD | refine below_set ?_ GE146.out | refine below_set ?_ GE147.out | refine below_set ?_ GE156.out) | exact HB.out)))⟩; clear hw; clear HO151; clear HO154; clear BK146; clear BK147; clear BK156; clear HB; have HO151 := n0_; have HO154 := n1_; have BK146 := n2_; have BK147 := n3_; have BK156 := n4_; have HB := n5_; clear n0_ n1_ n2_ n3_ n4_ n5_; obtain ⟨hcz22_0, hcz22_1, hcz22_2, hfz22_0, hfz22_1, hfz22_2⟩ := blk3 BK156.out) | ((with_reducible refine gate_callee (f := 44) rfl ?_); refine goesL_ (some 23) rfl rfl Try.func44 (by kernel_rfl) rfl #[.agg #[.slice Ao16 t149.length co16, .slice Ao20 t152.length co20, .int .i64 t155], .int .i64 a1, .int .i64 a2] rfl (by first | rfl | (simp only [List.map_toArray, List.map_cons, List.map_nil, List.length_drop, List.length_take]; rfl)) ?_; (with_reducible refine (feeder_open.calls (fun k_ => some k_ = (.slice Ao16 t149.length co16 : Value).ownBlock) (.slice Ao16 t149.length co16) t149 _ _ t152 t155 a1 a2 t157 t158 w _ ?side1 ?side2 ?side3 ?side4 A7.out).mono ?_); (case side1 => repeat (first | (with_reducible first | exact HB.out | apply bA | apply bN | apply bD | refine below_set ?_ GE146.out | refine below_set ?_ GE147.out | refine below_set ?_ GE156.out) | exact HB.out)); (case side2 => exact Kd.R_tight rfl HO151.out); (case side3 => exact Kd.C_kept_own ((Kd.R_apart' HO154.out (Kd.R_typed HO151.out) (by decide))) (fun k_ hk_ hs_ => (hk_.2) hs_)); (case side4 => exact (Kd.R_reads' HO154.out).2.1); rintro e w23 ⟨rfl, hy0, hb, hkp⟩; refine ⟨_, rfl, ?_⟩; replace BK146 := aM (blk_kept (by (with_reducible repeat (first | refine kN ?_ _ | refine kD ?_ | refine kA ?_ _)); exact BK146.out) hkp (fun hs_ => (fun e_ => (Kd.R_ne HO151.out BK146.out (by decide)) e_) hs_)); replace BK147 := aM (blk_kept (by (with_reducible repeat (first | refine kN ?_ _ | refine kD ?_ | refine kA ?_ _)); exact BK147.out) hkp (fun hs_ => (fun e_ => (Kd.R_ne HO151.out BK147.out (by decide)) e_) hs_)); replace HO154 := aM (Kd.R_mono (ok' := fun k_ => True) (Kd.R_keptB ((Kd.R_apart' HO154.out (Kd.R_typed HO151.out) (by decide))) hkp (fun k_ hk_ hs_ => (hk_.2) hs_)) (fun k_ hk_ => trivial)); replace BK156 := aM (blk_kept (by (with_reducible repeat (first | refine kN ?_ _ | refine kD ?_ | refine kA ?_ _)); exact BK156.out) hkp (fun hs_ => (fun e_ => (Kd.R_ne HO151.out BK156.out (by decide)) e_) hs_)); replace HO151 := aM (Kd.R_reok rfl hy0 (fun k_ e_ => HO151.out.1 k_ e_)); replace HB := aM (hb); (try clear hb); (try clear hkp); (try clear hy0); obtain ⟨hcz24_0, hcz24_1, hcz24_2, hfz24_0, hfz24_1, hfz24_2⟩ := blk3 BK156.out; obtain ⟨hcz25_0, hcz25_1, hcz25_2, hfz25_0, hfz25_1, hfz25_2⟩ := blk3 BK147.out))
    refine bodyPost_ret (results_ct rfl _ _ gb147 28 #[.slice Ao16 t149.length co16, .slice Ao20 t152.length co20, .int .i64 t155] (0, 0) _ rfl (by (with_reducible repeat (first | refine kN ?_ _ | refine kD ?_ | refine kA ?_ _)); refine blk_put (cs := #[.slice Ao16 t149.length co16, .slice Ao20 t152.length co20, .int .i64 0]) ?_ 2 _ rfl; (with_reducible repeat (first | refine kN ?_ _ | refine kD ?_ | refine kA ?_ _)); refine blk_put (cs := #[.slice Ao16 t149.length co16, .slice none 0 0, .int .i64 0]) ?_ 1 _ rfl; (with_reducible repeat (first | refine kN ?_ _ | refine kD ?_ | refine kA ?_ _)); refine blk_put (cs := #[.slice none 0 0, .slice none 0 0, .int .i64 0]) ?_ 0 _ rfl; (with_reducible repeat (first | refine kN ?_ _ | refine kD ?_ | refine kA ?_ _)); exact BK147.out) Try.underlying28 rfl (by kernel_rfl)) rfl ?_
    exact ⟨_, _, by first | rfl | (simp [errW_none, errW_some] <;> rfl) | (simp [*, errW_none, errW_some] <;> rfl), by (with_reducible repeat (first | apply Kd.R_alloc | apply Kd.R_drewN | apply Kd.R_drew)); exact Kd.R_mono (Kd.R_far (p := ⟨gb147, 2, none⟩) (Kd.R_far (p := ⟨gb147, 1, none⟩) (Kd.R_far (p := ⟨gb147, 0, none⟩) (Kd.R_types HO151.out BK147.out (by decide)) (fun _ hk => hk.2) (.slice Ao16 t149.length co16)) (fun _ hk => hk.2) (.slice Ao20 t152.length co20)) (fun _ hk => hk.2) (.int .i64 t155)) (fun _ hk => trivial), by (with_reducible repeat (first | apply Kd.R_alloc | apply Kd.R_drewN | apply Kd.R_drew)); exact Kd.R_mono (Kd.R_far (p := ⟨gb147, 2, none⟩) (Kd.R_far (p := ⟨gb147, 1, none⟩) (Kd.R_far (p := ⟨gb147, 0, none⟩) (Kd.R_types HO154.out BK147.out (by decide)) (fun _ hk => hk.2) (.slice Ao16 t149.length co16)) (fun _ hk => hk.2) (.slice Ao20 t152.length co20)) (fun _ hk => hk.2) (.int .i64 t155)) (fun _ hk => trivial), by repeat (first | (with_reducible first | exact HB.out | apply bA | apply bN | apply bD | refine below_set ?_ GE146.out | refine below_set ?_ GE147.out | refine below_set ?_ GE156.out) | exact HB.out)⟩
  · rw [if_neg c5] at H
    have c5b0 : (t148 == 0) = false := beq_eq_false_iff_ne.mpr c5
    have c5b1 : (t148 != 0) = true := bne_iff_ne.mpr c5
    simp only [Option.some.injEq, Prod.mk.injEq] at H
    obtain ⟨rfl, rfl, rfl, rfl⟩ := H
    go_enter Try.func14, Try.ntmps14
    go_wp2_with (first | ((with_reducible refine gate_dst (N := 3) rfl ?_); refine box_event ?hg (N := 3) ?hd (cs := #[.slice A0_0 l0_0.length c0_0, .slice A0_1 l0_1.length c0_1, .int .i64 a0_2]) (t := 28) ?hr ?_; (case hd => rfl); (case hg => rfl); (case hr => first | (go_simp; done) | (go_simp; rfl)); intro gb146 hg w26 hbox hb; have BK146 := aM (hbox); have GW146 := aM ((by rw [hg]; exact (below_size (below_mv HB.out)) : w.heap.size ≤ gb146)); have GE146 := aM ((by rw [hg]; exact (below_size (below_mv HB.out)) : w.heap.size ≤ gb146)); replace HB := aM (below_step (below_mv HB.out) hb); clear hb hbox hg) | ((with_reducible refine gate_dst (N := 6) rfl ?_); refine box_event ?hg (N := 6) ?hd (cs := #[.slice none 0 0, .slice none 0 0, .int .i64 0]) (t := 28) ?hr ?_; (case hd => rfl); (case hg => rfl); (case hr => first | (go_simp; done) | (go_simp; rfl)); intro gb147 hg w27 hbox hb; have BK147 := aM (hbox); have GW147 := aM ((by rw [hg]; exact (below_size (by repeat (first | (with_reducible first | exact HB.out | apply bA | apply bN | apply bD | refine below_set ?_ GE146.out) | exact HB.out))) : w.heap.size ≤ gb147)); have GE147 := aM ((by rw [hg]; exact (below_size (by repeat (first | (with_reducible first | exact HB.out | apply bA | apply bN | apply bD | refine below_set ?_ GE146.out) | exact HB.out))) : w.heap.size ≤ gb147)); replace HB := aM (below_step (by repeat (first | (with_reducible first | exact HB.out | apply bA | apply bN | apply bD | refine below_set ?_ GE146.out) | exact HB.out)) hb); have NB146_147 := aM ((by rw [hg]; exact Nat.ne_of_lt (blk_lt (blk_mv BK146.out)) : gb146 ≠ gb147)); have NB147_146 := aM ((by rw [hg]; exact Nat.ne_of_gt (blk_lt (blk_mv BK146.out)) : gb147 ≠ gb146)); replace BK146 := aM (blk_below (blk_mv BK146.out) hb); clear hb hbox hg; have hnb28 := NB146_147.out; have hnc28 := NB147_146.out; obtain ⟨hcz29_0, hcz29_1, hcz29_2, hfz29_0, hfz29_1, hfz29_2⟩ := blk3 BK146.out) | ((with_reducible refine gate_callee (f := 42) rfl ?_); refine goesL_ (some 13) rfl rfl Try.func42 (by kernel_rfl) rfl #[.agg #[.slice A0_0 l0_0.length c0_0, .slice A0_1 l0_1.length c0_1, .int .i64 a0_2], .int .i64 a1, .int .i64 a2] rfl (by first | rfl | (simp only [List.map_toArray, List.map_cons, List.map_nil, List.length_drop, List.length_take]; rfl)) ?_; (with_reducible refine (feeder_can.calls k _ _ l0_0 _ _ l0_1 a0_2 a1 a2 t148 _ ?side1 ?side2 ?side3 ?side4 A4.out).mono ?_); (case side1 => first | exact C_mv (Kd.C_below HR0_0.out HB.out) | exact C_mv HR0_0.out); (case side2 => exact HC0_0.out); (case side3 => first | exact C_mv (Kd.C_below HR0_1.out HB.out) | exact C_mv HR0_1.out); (case side4 => exact HC0_1.out); rintro e w30 ⟨rfl, hb⟩; refine ⟨_, rfl, ?_⟩; replace BK146 := aM (blk_below (blk_mv BK146.out) hb); replace BK147 := aM (blk_below (blk_mv BK147.out) hb); replace HB := aM (below_step (by repeat (first | (with_reducible first | exact HB.out | apply bA | apply bN | apply bD | refine below_set ?_ GE146.out | refine below_set ?_ GE147.out) | exact HB.out)) hb); (try clear hb); (try clear hb2); (try clear hge); (try clear hk); (try clear hi); obtain ⟨hcz31_0, hcz31_1, hcz31_2, hfz31_0, hfz31_1, hfz31_2⟩ := blk3 BK147.out))
    refine bodyPost_ret (results_ct rfl _ _ gb147 28 #[.slice none 0 0, .slice none 0 0, .int .i64 0] (0, 0) _ rfl (by (with_reducible repeat (first | refine kN ?_ _ | refine kD ?_ | refine kA ?_ _)); refine blk_put (cs := #[.slice none 0 0, .slice none 0 0, .int .i64 0]) ?_ 2 _ rfl; (with_reducible repeat (first | refine kN ?_ _ | refine kD ?_ | refine kA ?_ _)); refine blk_put (cs := #[.slice none 0 0, .slice none 0 0, .int .i64 0]) ?_ 1 _ rfl; (with_reducible repeat (first | refine kN ?_ _ | refine kD ?_ | refine kA ?_ _)); refine blk_put (cs := #[.slice none 0 0, .slice none 0 0, .int .i64 0]) ?_ 0 _ rfl; (with_reducible repeat (first | refine kN ?_ _ | refine kD ?_ | refine kA ?_ _)); exact BK147.out) Try.underlying28 rfl (by kernel_rfl)) rfl ?_
    exact ⟨_, _, by first | rfl | (simp [errW_none, errW_some] <;> rfl) | (simp [*, errW_none, errW_some] <;> rfl), by first | exact Kd.R_nil _ _ _ _ _ | exact Kd.N_nil _ _ _ _ _ | exact Kd.V_nil _ _ _ _ _ | exact Kd.Q_nil _ _ _ _ _ | exact Kd.S_nil _ _ _ _ _, by first | exact Kd.R_nil _ _ _ _ _ | exact Kd.N_nil _ _ _ _ _ | exact Kd.V_nil _ _ _ _ _ | exact Kd.Q_nil _ _ _ _ _ | exact Kd.S_nil _ _ _ _ _, by repeat (first | (with_reducible first | exact HB.out | apply bA | apply bN | apply bD | refine below_set ?_ GE146.out | refine below_set ?_ GE147.out) | exact HB.out)⟩

end Go.Proofs.Ytcgeflbifbaecaa.PFek
