/- Functions of the given program as Lean functions, and proofs that its calls come to what these say. Written by a program of this seat (wip/mkprint.py); Lean checks it all. -/
import Derived.Test.YtcgeflbifbaecaaUph
import Derived.Test.YtcgeflbifbaecaaPFehx0
import Derived.Test.YtcgeflbifbaecaaPFehx3
namespace Go.Proofs.Ytcgeflbifbaecaa.PFeh
open Go.RowKit Go.Proofs.YtcgeflbifbaecaaW.PrintWords Go.Proofs.YtcgeflbifbaecaaW.PrintLast Go.Proofs.YtcgeflbifbaecaaW.PrintMore
attribute [local go_sem] max2_int min2_int max_two min_two max_three min_three max_four min_four   -- for this text's walks alone
set_option linter.unusedVariables false
set_option linter.unusedSimpArgs false

-- NOT PRINTED: function 50 (slices_AppendSeq_int_int)

-- NOT PRINTED: function 40 (slices_Collect_int)

-- NOT PRINTED: function 41 (feeder_up)

/-! ### feeder_Path: function 13 -/
def feeder_Path.l0 : Nat → List S32 → Int → List Int → Option (List Int)
 | 0, _, _, _ => none
 | k + 1, l, s, o => if 0 ≤ s then (if s < (l.length : Int) then (if o.length < 17592186044416 then (feeder_Path.l0 k l ((rd_T32 l s).f0) (o ++ [s])) else (none)) else (none)) else (some o)
def feeder_Path.f (k : Nat) (l0_0 : List S32) (l0_1 : List Int) (a0_2 : Int) (a1 : Int) : Option (List Int) := (feeder_Check.f k l0_0 l0_1 a0_2).bind fun t => (if t = 0 then (if 0 ≤ a1 then (if a1 < (l0_0.length : Int) then (feeder_Path.l0 k l0_0 a1 ([] : List Int)) else (some ([] : List Int))) else (some ([] : List Int))) else (some ([] : List Int)))
theorem feeder_Path.mono_l : ∀ k, ∀ y0 y1 y2, LeO (feeder_Path.l0 k y0 y1 y2) (feeder_Path.l0 (k + 1) y0 y1 y2)
 | 0 => fun _ _ _ r h => by simp [feeder_Path.l0] at h
 | k + 1 => by
  have ih0 := feeder_Path.mono_l k
  intro y0 y1 y2
  unfold feeder_Path.l0
  repeat' first
  | (with_reducible exact ih0 _ _ _)
  | (with_reducible exact LeO.refl _)
  | (with_reducible exact LeO.none _)
  | (with_reducible refine LeO.ite ?_ ?_)
theorem feeder_Path.mono : ∀ a0 a1 a2 a3 k, LeO (feeder_Path.f k a0 a1 a2 a3) (feeder_Path.f (k + 1) a0 a1 a2 a3) := by
 intro a0 a1 a2 a3 k
 have ih0 := feeder_Path.mono_l k
 unfold feeder_Path.f
 repeat' first
 | (with_reducible exact ih0 _ _ _)
 | (with_reducible exact feeder_Check.mono _ _ _ _)
 | (with_reducible exact LeO.refl _)
 | (with_reducible exact LeO.none _)
 | (with_reducible refine LeO.ite ?_ ?_)
 | (with_reducible refine LeO.bind ?_ (fun _ => ?_))
-- IMPORT Derived.Test.YtcgeflbifbaecaaUp
section
open Go.Shelf Up
attribute [local go_sem] Oper.semAt_some
theorem feeder_Path.chain {ss : List S32} : ∀ (k : Nat) {s : Int} {o r : List Int}, feeder_Path.l0 k ss s o = some r → o.length ≤ 17592186044416 → ∃ xs : List (Ix ss), Chain ss s xs ∧ r = o ++ xs.map (·.1) ∧ o.length + xs.length ≤ 17592186044416
  | 0, s, o, r, h, _ => by simp [feeder_Path.l0] at h
  | k + 1, s, o, r, h, ho => by
    simp only [feeder_Path.l0] at h
    by_cases h0 : 0 ≤ s
    · rw [if_pos h0] at h
      by_cases h1 : s < (ss.length : Int)
      · rw [if_pos h1] at h
        by_cases h2 : o.length < 17592186044416
        · rw [if_pos h2] at h
          obtain ⟨xs, hc, hr, hl⟩ := feeder_Path.chain k h (by simp; omega)
          exact ⟨⟨s, h0, h1⟩ :: xs, ⟨rfl, hc⟩, by rw [hr]; simp, by simp at hl ⊢; omega⟩
        · rw [if_neg h2] at h; cases h
      · rw [if_neg h1] at h; cases h
    · rw [if_neg h0] at h
      exact ⟨[], (by show s < 0; omega), by simpa using (Option.some.inj h).symm, by simp; omega⟩
theorem infoInt_ : (Try.prog.info? 3).map (fun i => (i.zero, i.size, i.bytes)) = some (some (.int .i64 0), 1, 8) := by kernel_rfl

set_option maxRecDepth 100000 in
set_option maxHeartbeats 4000000 in
/-- The library's AppendSeq, to nil, of the road up. -/
theorem appendseq_in (n : Nat) (hn : 4 ≤ n) {Bs Bf n₀ : Nat} {A0 : Option Addr} {c0 : Nat} {ss : List S32} {A1 : Option Addr} {n1 c1 : Nat} {rp s0 : Int} {xs : List (Ix ss)} (hx : Chain ss s0 xs) (hlen : xs.length ≤ 17592186044416) (hne : Bs ≠ Bf) {w : World}
    (hBs : Boxed w Bs 3 (.int .i64 s0)) (hBf : w.heap[Bf]? = some (.cells #[.slice A0 ss.length c0, .slice A1 n1 c1, .int .i64 rp] 28 (0, 0))) (hn₀ : n₀ ≤ Bs) (hS : SwAt n₀ w A0 ss) :
    CallsIn Fence.wide n Try.prog 50 #[.slice none 0 0, .func (.func 51) #[] #[.pointer (some ⟨Bs, 0, none⟩), .pointer (some ⟨Bf, 0, none⟩)]] w fun e W' =>
      ∃ v, e = .returned v ∧ W'.ownsRow w.heap.size 3 1 v xs.length (xs.map (fun x => Value.int .i64 x.1)) ∧ Below n₀ w W' := by
  obtain ⟨i0, hi, hz0, hz1, hz2⟩ := info_parts infoInt_
  have hsBs : Bs < w.heap.size := hBs.lt
  have hsBf : Bf < w.heap.size := (Array.getElem?_eq_some_iff.1 hBf).1
  refine callsIn_of_wp_marks Try.func50 rfl trivial ?_ rfl
  simp only [Try.ntmps50, List.size_toArray, List.length_cons, List.length_nil, Nat.reduceAdd, Nat.reduceSub, Array.replicate_succ, Array.replicate_zero, List.push_toArray, List.append_toArray, List.nil_append, List.cons_append]
  gi_wp2
  have bO := Boxed.new w 26 (.slice none 0 0)
  have hB0 : Below w.heap.size w (w.alloc (.cells #[.slice none 0 0] 26)) := (Below.refl _ w).alloc (Nat.le_refl _) _
  refine range_up Fence.wide n trivial rfl (by omega) hx (Bs := Bs) (Bf := Bf) (n₀ := n₀) hne rfl rfl (hBs.alloc _) ((hB0.block _ hsBf).trans hBf) hn₀ (hS.step (hB0.mono (by omega)))
    (fun pre W => (∃ v, Boxed W w.heap.size 26 v ∧ W.ownsRow w.heap.size 3 1 v pre.length (pre.map (fun x => Value.int .i64 x.1))) ∧ Below n₀ w W)
    ?own ⟨⟨_, bO, World.ownsRow_nil _ _ _ _⟩, hB0.mono (by omega)⟩
    (fun x => { tmps := #[.slice none 0 0, .func (.func 51) #[] #[.pointer (some ⟨Bs, 0, none⟩), .pointer (some ⟨Bf, 0, none⟩)], .pointer (some ⟨w.heap.size, 0, none⟩), undef, .slice none 0 0, .int .i64 x.1, .func (.func 51) #[] #[.pointer (some ⟨Bs, 0, none⟩), .pointer (some ⟨Bf, 0, none⟩)], .int .i64 x.1, undef, undef, undef, undef, undef], defers := [] }) ?assign ?body ?done
  case own =>
    rintro pre W W' row ⟨⟨v, k1, k2⟩, k3⟩ hg hrow
    refine ⟨⟨v, k1.kept hg (fun e => ?_), k2.kept hg ?_⟩, k3.grown hg (by have := k3.size; omega) (fun r e => ?_)⟩
    · rcases hrow _ e.symm with e2 | ⟨e2, _⟩
      · omega
      · simp at e2
        omega
    · rcases k2.2 with ⟨rfl, _⟩ | ⟨g, cap, cur, rfl, hgb, hgc, _⟩
      · exact .inl rfl
      · refine .inr fun e => ?_
        rcases hrow g (by simpa [Value.ownBlock] using e.symm) with e2 | ⟨_, o, ho, hc⟩
        · omega
        · rw [hgc] at ho; cases ho; cases hc
    · rcases hrow r e with e2 | ⟨e2, _⟩
      · omega
      · simp at e2; omega
  case assign =>
    intro l x W K hK
    gi_wp2
    exact hK
  case body =>
    rintro l pre x W ⟨⟨v, hv, hrow⟩, hB⟩ hlt
    have hc := hv.cell
    have hW : w.heap.size ≤ W.heap.size := hB.size
    gi_wp2_with (gi_at_builtin; refine wpListIn_append_own _ rfl _ _ 26 rfl w.heap.size 3 i0 (.int .i64 0) 1 8 Try.underlying26 hi hz0 hz1 hz2 rfl (by decide) _ _ _ rfl (hrow.alloc _) ⟨W.heap.size, 0, none⟩ 1 1 [.int .i64 x.1] rfl rfl (cell_one_new _ _ _) (by simp [Value.oneCell']) (by unfold maxLen; omega) (by omega) (by simp; omega) ?_; intro v' w1 hown' hgrow _; obtain ⟨g', cap', rfl⟩ := ownsRow_succ hown'; obtain ⟨hv1, hv2, hr2, hk2, hb2⟩ := hv.appended (by decide) hrow hW (Nat.le_refl _) hown' hgrow; have hc1 := hv1.cell; have hf1 := hv1.frozen)
    exact ⟨hk2, ⟨hb2.mono (by omega), hb2.block _ hsBs, hb2.block _ hsBf⟩, ⟨_, hv2, by simpa using hr2⟩, hB.trans (hb2.mono (by omega))⟩
  case done =>
    rintro D W hD ⟨⟨v, hv, hrow⟩, hB⟩ hK
    have hc := hv.cell
    gi_wp2
    refine ⟨by simp, .inl ⟨_, _, rfl, run_takeDeferred hK, ?_⟩⟩
    have hD' : w.heap.size ≤ D := by simp at hD; omega
    exact ⟨_, results_tmp rfl _ _ _, v, rfl, ownsRow_putObj hrow _ hK rfl, hB.trans (belowK_b (w := w) (by omega) W D _ _ hD' hK rfl rfl)⟩

set_option maxHeartbeats 1000000 in
theorem collect_in {Bs Bf n₀ : Nat} {A0 : Option Addr} {c0 : Nat} {ss : List S32} {A1 : Option Addr} {n1 c1 : Nat} {rp s0 : Int} {xs : List (Ix ss)} (hx : Chain ss s0 xs) (hlen : xs.length ≤ 17592186044416) (hne : Bs ≠ Bf) {w : World}
    (hBs : Boxed w Bs 3 (.int .i64 s0)) (hBf : w.heap[Bf]? = some (.cells #[.slice A0 ss.length c0, .slice A1 n1 c1, .int .i64 rp] 28 (0, 0))) (hn₀ : n₀ ≤ Bs) (hS : SwAt n₀ w A0 ss) :
    CallsIn Fence.wide 7 Try.prog 40 #[.func (.func 51) #[] #[.pointer (some ⟨Bs, 0, none⟩), .pointer (some ⟨Bf, 0, none⟩)]] w fun e W' =>
      ∃ v, e = .returned v ∧ W'.ownsRow w.heap.size 3 1 v xs.length (xs.map (fun x => Value.int .i64 x.1)) ∧ Below n₀ w W' := by
  refine callsIn_of_wp Try.func40 rfl trivial ?_ rfl
  simp only [Try.ntmps40, List.size_toArray, List.length_cons, List.length_nil, Nat.reduceAdd, Nat.reduceSub, Array.replicate_succ, Array.replicate_zero, List.push_toArray, List.append_toArray, List.nil_append, List.cons_append]
  gi_wp2_with (refine ⟨trivial, ?_⟩; gi_at_call 50; refine (appendseq_in 6 (by omega) hx hlen hne hBs hBf hn₀ hS).mono ?_; rintro e w1 ⟨v, rfl, hr1, hb1⟩)
  go_ret
  exact ⟨v, rfl, hr1, hb1⟩

set_option maxRecDepth 100000 in
set_option maxHeartbeats 4000000 in
theorem feeder_Path.calls (k : Nat) (A0_0 : Option Addr) (c0_0 : Nat) (l0_0 : List (S32)) (A0_1 : Option Addr) (c0_1 : Nat) (l0_1 : List Int) (a0_2 : Int) (a1 : Int) (r : List Int) (w : World) (hr0_0 : Kd.C k32 w A0_0 l0_0.length l0_0) (hc0_0 : l0_0.length ≤ c0_0) (hr0_1 : Kd.C (Kd.int .i64) w A0_1 l0_1.length l0_1) (hc0_1 : l0_1.length ≤ c0_1) (h : feeder_Path.f k l0_0 l0_1 a0_2 a1 = some r) :
  Calls Try.prog 13 #[.agg #[.slice A0_0 l0_0.length c0_0, .slice A0_1 l0_1.length c0_1, .int .i64 a0_2], .int .i64 a1] w fun e w' => ∃ v0_ : Value, e = .returned (v0_) ∧ Kd.R (Kd.int .i64) 3 w' w.heap.size (fun _ => True) v0_ r ∧ Below w.heap.size w w' := by
  unfold feeder_Path.f at h
  obtain ⟨t, ht, h⟩ := Option.bind_eq_some_iff.1 h
  by_cases h0 : t = 0
  rotate_left
  · rw [if_neg h0] at h
    obtain rfl := Option.some.inj h
    have c0 : (t != 0) = true := by simpa using h0
    refine (callsIn_wide (n := 8)).1 ?_
    refine callsIn_of_wp Try.func13 rfl trivial ?_ rfl
    simp only [Try.ntmps13, List.size_toArray, List.length_cons, List.length_nil, Nat.reduceAdd, Nat.reduceSub, Array.replicate_succ, Array.replicate_zero, List.push_toArray, List.append_toArray, List.nil_append, List.cons_append]
    gi_wp2_with (first
      | (refine ⟨trivial, ?_⟩; gi_at_call 23; refine (callsIn_wide.2 (feeder_Check.calls k _ _ l0_0 _ _ l0_1 a0_2 _ _ (Kd.C_alloc hr0_0 _) hc0_0 (Kd.C_alloc hr0_1 _) hc0_1 ht)).mono ?_; rintro e w1 ⟨rfl, hb⟩; have hX : w1.heap[w.heap.size]? = some (.cells #[.slice A0_0 l0_0.length c0_0, .slice A0_1 l0_1.length c0_1, .int .i64 a0_2] 28 (0, 0)) := (hb.block _ (by simp)).trans (World.alloc_heap_new w _); have hx0 : w1.cell? ⟨w.heap.size, 0, none⟩ = some (.slice A0_0 l0_0.length c0_0) := by simp [World.cell?, hX]
         have hx1 : w1.cell? ⟨w.heap.size, 1, none⟩ = some (.slice A0_1 l0_1.length c0_1) := by simp [World.cell?, hX]
         have hx2 : w1.cell? ⟨w.heap.size, 2, none⟩ = some (.int .i64 a0_2) := by simp [World.cell?, hX]
         have HB : Below w.heap.size w w1 := ((Below.refl _ w).alloc (Nat.le_refl _) _).trans (hb.mono (by simp))))
    go_ret
    exact ⟨_, rfl, Kd.R_nil _ _ _ _ _, HB⟩
  subst h0
  rw [if_pos rfl] at h
  by_cases h1 : 0 ≤ a1
  rotate_left
  · rw [if_neg h1] at h
    obtain rfl := Option.some.inj h
    have c1 : decide (a1 < 0) = true := decide_eq_true (by omega)
    refine (callsIn_wide (n := 8)).1 ?_
    refine callsIn_of_wp Try.func13 rfl trivial ?_ rfl
    simp only [Try.ntmps13, List.size_toArray, List.length_cons, List.length_nil, Nat.reduceAdd, Nat.reduceSub, Array.replicate_succ, Array.replicate_zero, List.push_toArray, List.append_toArray, List.nil_append, List.cons_append]
    gi_wp2_with (first
      | (refine ⟨trivial, ?_⟩; gi_at_call 23; refine (callsIn_wide.2 (feeder_Check.calls k _ _ l0_0 _ _ l0_1 a0_2 _ _ (Kd.C_alloc hr0_0 _) hc0_0 (Kd.C_alloc hr0_1 _) hc0_1 ht)).mono ?_; rintro e w1 ⟨rfl, hb⟩; have hX : w1.heap[w.heap.size]? = some (.cells #[.slice A0_0 l0_0.length c0_0, .slice A0_1 l0_1.length c0_1, .int .i64 a0_2] 28 (0, 0)) := (hb.block _ (by simp)).trans (World.alloc_heap_new w _); have hx0 : w1.cell? ⟨w.heap.size, 0, none⟩ = some (.slice A0_0 l0_0.length c0_0) := by simp [World.cell?, hX]
         have hx1 : w1.cell? ⟨w.heap.size, 1, none⟩ = some (.slice A0_1 l0_1.length c0_1) := by simp [World.cell?, hX]
         have hx2 : w1.cell? ⟨w.heap.size, 2, none⟩ = some (.int .i64 a0_2) := by simp [World.cell?, hX]
         have HB : Below w.heap.size w w1 := ((Below.refl _ w).alloc (Nat.le_refl _) _).trans (hb.mono (by simp))))
    go_ret
    exact ⟨_, rfl, Kd.R_nil _ _ _ _ _, HB⟩
  rw [if_pos h1] at h
  have c1 : decide (a1 < 0) = false := decide_eq_false (by omega)
  by_cases h2 : a1 < (l0_0.length : Int)
  rotate_left
  · rw [if_neg h2] at h
    obtain rfl := Option.some.inj h
    have c2 : decide ((l0_0.length : Int) ≤ a1) = true := decide_eq_true (by omega)
    refine (callsIn_wide (n := 8)).1 ?_
    refine callsIn_of_wp Try.func13 rfl trivial ?_ rfl
    simp only [Try.ntmps13, List.size_toArray, List.length_cons, List.length_nil, Nat.reduceAdd, Nat.reduceSub, Array.replicate_succ, Array.replicate_zero, List.push_toArray, List.append_toArray, List.nil_append, List.cons_append]
    gi_wp2_with (first
      | (refine ⟨trivial, ?_⟩; gi_at_call 23; refine (callsIn_wide.2 (feeder_Check.calls k _ _ l0_0 _ _ l0_1 a0_2 _ _ (Kd.C_alloc hr0_0 _) hc0_0 (Kd.C_alloc hr0_1 _) hc0_1 ht)).mono ?_; rintro e w1 ⟨rfl, hb⟩; have hX : w1.heap[w.heap.size]? = some (.cells #[.slice A0_0 l0_0.length c0_0, .slice A0_1 l0_1.length c0_1, .int .i64 a0_2] 28 (0, 0)) := (hb.block _ (by simp)).trans (World.alloc_heap_new w _); have hx0 : w1.cell? ⟨w.heap.size, 0, none⟩ = some (.slice A0_0 l0_0.length c0_0) := by simp [World.cell?, hX]
         have hx1 : w1.cell? ⟨w.heap.size, 1, none⟩ = some (.slice A0_1 l0_1.length c0_1) := by simp [World.cell?, hX]
         have hx2 : w1.cell? ⟨w.heap.size, 2, none⟩ = some (.int .i64 a0_2) := by simp [World.cell?, hX]
         have HB : Below w.heap.size w w1 := ((Below.refl _ w).alloc (Nat.le_refl _) _).trans (hb.mono (by simp))))
    go_ret
    exact ⟨_, rfl, Kd.R_nil _ _ _ _ _, HB⟩
  rw [if_pos h2] at h
  have c2 : decide ((l0_0.length : Int) ≤ a1) = false := decide_eq_false (by omega)
  obtain ⟨xs, hch, hrr, hlen⟩ := feeder_Path.chain k h (by simp)
  refine (callsIn_wide (n := 8)).1 ?_
  refine callsIn_of_wp Try.func13 rfl trivial ?_ rfl
  simp only [Try.ntmps13, List.size_toArray, List.length_cons, List.length_nil, Nat.reduceAdd, Nat.reduceSub, Array.replicate_succ, Array.replicate_zero, List.push_toArray, List.append_toArray, List.nil_append, List.cons_append]
  gi_wp2_with (first
    | (refine ⟨trivial, ?_⟩; gi_at_call 23; refine (callsIn_wide.2 (feeder_Check.calls k _ _ l0_0 _ _ l0_1 a0_2 _ _ (Kd.C_alloc hr0_0 _) hc0_0 (Kd.C_alloc hr0_1 _) hc0_1 ht)).mono ?_; rintro e w1 ⟨rfl, hb⟩; have hX : w1.heap[w.heap.size]? = some (.cells #[.slice A0_0 l0_0.length c0_0, .slice A0_1 l0_1.length c0_1, .int .i64 a0_2] 28 (0, 0)) := (hb.block _ (by simp)).trans (World.alloc_heap_new w _); have hx0 : w1.cell? ⟨w.heap.size, 0, none⟩ = some (.slice A0_0 l0_0.length c0_0) := by simp [World.cell?, hX]
       have hx1 : w1.cell? ⟨w.heap.size, 1, none⟩ = some (.slice A0_1 l0_1.length c0_1) := by simp [World.cell?, hX]
       have hx2 : w1.cell? ⟨w.heap.size, 2, none⟩ = some (.int .i64 a0_2) := by simp [World.cell?, hX]
       have HB : Below w.heap.size w w1 := ((Below.refl _ w).alloc (Nat.le_refl _) _).trans (hb.mono (by simp)))
    | (refine ⟨trivial, ?_⟩; gi_at_call 41; refine (up_in Fence.wide _ trivial rfl A0_0 l0_0.length c0_0 _ l0_1.length c0_1 a0_2 a1 _).mono ?_; rintro e w5 ⟨rfl, hw5⟩
       have hB15 : Below w1.heap.size w1 w5 := by rw [hw5]; exact ((Below.refl _ w1).alloc (Nat.le_refl _) _).alloc (by simp) _
       have hF5 : w5.heap[w1.heap.size]? = some (.cells #[.slice A0_0 l0_0.length c0_0, .slice A0_1 l0_1.length c0_1, .int .i64 a0_2] 28 (0, 0)) := by rw [hw5]; exact (Below.heap_alloc _ _ _ (by simp)).trans (World.alloc_heap_new w1 _)
       have hS5 : Boxed w5 (w1.heap.size + 1) 3 (.int .i64 a1) := by have h5_ := Boxed.new (w1.alloc (.cells #[.slice A0_0 l0_0.length c0_0, .slice A0_1 l0_1.length c0_1, .int .i64 a0_2] 28)) 3 (.int .i64 a1); rw [World.size_alloc] at h5_; rw [hw5]; exact h5_
       have hs5 : w5.heap.size = w1.heap.size + 2 := by rw [hw5]; simp
       clear hw5)
    | (refine ⟨trivial, ?_⟩; gi_at_call 40; refine (collect_in hch (by simpa using hlen) (Bs := w1.heap.size + 1) (Bf := w1.heap.size) (n₀ := w.heap.size) (by omega) hS5 hF5 (by have := HB.size; omega) ((SwAt.of hr0_0).step (HB.trans (hB15.mono HB.size)))).mono ?_; rintro e w4 ⟨v4, rfl, hr4, hb4⟩))
  go_ret
  refine ⟨v4, rfl, ?_, (HB.trans (hB15.mono HB.size)).trans hb4⟩
  rw [hrr, List.nil_append]
  refine Kd.R_lower (Kd.R_of_own (by simpa [encs, List.map_map, Function.comp_def] using hr4) (fun _ _ => trivial)) ?_
  have := HB.size
  omega
end

/-! ### feeder_timely: function 46 -/
mutual
def feeder_timely.j0 : Nat → Int → Bool → List (S32) → List Int → Int → Option (Bool)
  | 0, _, _, _, _, _ => none
  | k + 1, x1, x12, x146000, x146001, x146002 => if x12 = true then (some false) else (feeder_timely.l0 k x1 x146000 (x146000.length : Int) 0)
def feeder_timely.l0 : Nat → Int → List (S32) → Int → Int → Option (Bool)
  | 0, _, _, _, _ => none
  | k + 1, x1, x14, x15, x16 => if x16 < x15 then (if 0 ≤ x16 then (if x16 < (x14.length : Int) then (if x1 < ((rd_T32 x14 x16).f1) then (some false) else (feeder_timely.l0 k x1 x14 x15 (wrap64 (x16 + 1)))) else (none)) else (none)) else (some true)
end
def feeder_timely.f (k : Nat) (l0_0 : List (S32)) (l0_1 : List Int) (a0_2 : Int) (a1 : Int) : Option (Bool) := if a1 < 0 then (feeder_timely.j0 k a1 true l0_0 l0_1 a0_2) else (feeder_timely.j0 k a1 (decide (a1 > 2147483648)) l0_0 l0_1 a0_2)
theorem feeder_timely.mono_l : ∀ k, (∀ y0 y1 y2 y3 y4, LeO (feeder_timely.j0 k y0 y1 y2 y3 y4) (feeder_timely.j0 (k + 1) y0 y1 y2 y3 y4)) ∧ (∀ y0 y1 y2 y3, LeO (feeder_timely.l0 k y0 y1 y2 y3) (feeder_timely.l0 (k + 1) y0 y1 y2 y3))
  | 0 => ⟨fun _ _ _ _ _ r h => by simp [feeder_timely.j0] at h, fun _ _ _ _ r h => by simp [feeder_timely.l0] at h⟩
  | k + 1 => by
    obtain ⟨ih0, ih1⟩ := feeder_timely.mono_l k
    refine ⟨?_, ?_⟩
    · intro y0 y1 y2 y3 y4
      unfold feeder_timely.j0
      repeat' first
      | (with_reducible exact ih0 _ _ _ _ _)
      | (with_reducible exact ih1 _ _ _ _)
      | (with_reducible exact LeO.refl _)
      | (with_reducible exact LeO.none _)
      | (with_reducible refine LeO.ite ?_ ?_)
      | (with_reducible refine LeO.bind ?_ (fun _ => ?_))
      | exact ih0 _ _ _ _ _
      | exact ih1 _ _ _ _
      | exact LeO.none _
      | refine LeO.ite ?_ ?_
      | refine LeO.bind ?_ (fun _ => ?_)
    · intro y0 y1 y2 y3
      unfold feeder_timely.l0
      repeat' first
      | (with_reducible exact ih0 _ _ _ _ _)
      | (with_reducible exact ih1 _ _ _ _)
      | (with_reducible exact LeO.refl _)
      | (with_reducible exact LeO.none _)
      | (with_reducible refine LeO.ite ?_ ?_)
      | (with_reducible refine LeO.bind ?_ (fun _ => ?_))
      | exact ih0 _ _ _ _ _
      | exact ih1 _ _ _ _
      | exact LeO.none _
      | refine LeO.ite ?_ ?_
      | refine LeO.bind ?_ (fun _ => ?_)
theorem feeder_timely.mono : ∀ a0 a1 a2 a3 k, LeO (feeder_timely.f k a0 a1 a2 a3) (feeder_timely.f (k + 1) a0 a1 a2 a3) := by
  intro a0 a1 a2 a3 k
  obtain ⟨ih0, ih1⟩ := feeder_timely.mono_l k
  unfold feeder_timely.f
  repeat' first
      | (with_reducible exact ih0 _ _ _ _ _)
      | (with_reducible exact ih1 _ _ _ _)
      | (with_reducible exact LeO.refl _)
      | (with_reducible exact LeO.none _)
      | (with_reducible refine LeO.ite ?_ ?_)
      | (with_reducible refine LeO.bind ?_ (fun _ => ?_))
      | exact ih0 _ _ _ _ _
      | exact ih1 _ _ _ _
      | exact LeO.none _
      | refine LeO.ite ?_ ?_
      | refine LeO.bind ?_ (fun _ => ?_)
set_option maxHeartbeats 8000000 in
set_option maxRecDepth 100000 in
theorem feeder_timely.calls (k : Nat) (A0_0 : Option Addr) (c0_0 : Nat) (l0_0 : List (S32)) (A0_1 : Option Addr) (c0_1 : Nat) (l0_1 : List Int) (a0_2 : Int) (a1 : Int) (r : Bool) (w : World) (hr0_0 : Kd.C k32 w A0_0 l0_0.length l0_0) (hc0_0 : l0_0.length ≤ c0_0) (hr0_1 : Kd.C (Kd.int .i64) w A0_1 l0_1.length l0_1) (hc0_1 : l0_1.length ≤ c0_1) (h : feeder_timely.f k l0_0 l0_1 a0_2 a1 = some r) :
    Calls Try.prog 46 #[.agg #[.slice A0_0 l0_0.length c0_0, .slice A0_1 l0_1.length c0_1, .int .i64 a0_2], .int .i64 a1] w fun e w' => e = .returned (.bool r) ∧ Below w.heap.size w w' := by
  have hu28 := Try.underlying28
  have hu32 := Try.underlying32
  have HR0_0 := aM hr0_0
  have HC0_0 := aM hc0_0
  clear hr0_0 hc0_0
  have HR0_1 := aM hr0_1
  have HC0_1 := aM hc0_1
  clear hr0_1 hc0_1
  have HB := aM (Below.refl w.heap.size w)
  have H : (if a1 < 0 then (feeder_timely.j0 k a1 true l0_0 l0_1 a0_2) else (feeder_timely.j0 k a1 (decide (a1 > 2147483648)) l0_0 l0_1 a0_2)) = some r := h
  clear h
  have HC3 := aM H
  clear H
  go_enter Try.func46, Try.ntmps46
  go_upto_region 1 with (first | ((with_reducible refine gate_dst (N := 2) rfl ?_); refine box_event ?hg (N := 2) ?hd (cs := #[.slice A0_0 l0_0.length c0_0, .slice A0_1 l0_1.length c0_1, .int .i64 a0_2]) (t := 28) ?hr ?_; (case hd => rfl); (case hg => rfl); (case hr => first | (go_simp; done) | (go_simp; rfl)); intro gb145 hg w4 hbox hb; have BK145 := aM (hbox); have GW145 := aM ((by rw [hg]; exact (below_size (below_mv HB.out)) : w.heap.size ≤ gb145)); have GE145 := aM ((by rw [hg]; exact (below_size (below_mv HB.out)) : w.heap.size ≤ gb145)); replace HB := aM (below_step (below_mv HB.out) hb); clear hb hbox hg))
  (try simp only [Act.put, List.setIfInBounds_toArray, List.set_cons_zero, List.set_cons_succ])
  go_cut [12] (fun v12 wc => ∃ (kq : Nat) (x12_2 : Bool), v12 = .bool x12_2 ∧ Aside0 (feeder_timely.j0 kq a1 x12_2 l0_0 l0_1 a0_2 = some r) ∧ Aside0 (kq ≤ k) ∧ Aside0 (wc.heap[gb145]? = some (.cells #[(.slice A0_0 l0_0.length c0_0), (.slice A0_1 l0_1.length c0_1), .int .i64 a0_2] 28 (0, 0))) ∧ Aside0 (Below w.heap.size w wc))
  case first =>
    have H := HC3.out
    clear HC3
    by_cases c5 : a1 < 0
    · rw [if_pos c5] at H
      have c5b0 : decide (a1 < 0) = true := decide_eq_true c5
      clear c5
      (first | rw [c5b0] | (simp only [i64_w, i32_w]; rw [c5b0]) | skip)
      have H' := aM H
      clear H
      go_wp2
      go_meet
      case rel => exact ⟨_, (true), (by first | rfl | (simp; done) | (simp [*]; done)), H', ⟨by first | omega | exact Nat.le_refl _⟩, ⟨blk_mv BK145.out⟩, ⟨by repeat (first | (with_reducible first | exact HB.out | apply bA | apply bN | apply bD | refine below_set ?_ GE145.out) | exact HB.out)⟩⟩
    · rw [if_neg c5] at H
      have c5b0 : decide (a1 < 0) = false := decide_eq_false c5
      clear c5
      (first | rw [c5b0] | (simp only [i64_w, i32_w]; rw [c5b0]) | skip)
      have H' := aM H
      clear H
      go_wp2
      go_meet
      case rel => exact ⟨_, (decide (a1 > 2147483648)), (by first | rfl | (simp; done) | (simp [*]; done)), H', ⟨by first | omega | exact Nat.le_refl _⟩, ⟨blk_mv BK145.out⟩, ⟨by repeat (first | (with_reducible first | exact HB.out | apply bA | apply bN | apply bD | refine below_set ?_ GE145.out) | exact HB.out)⟩⟩
  case rest =>
    clear HC3
    obtain ⟨kq, x12_2, rfl, HA, HJ2, BK145, HB⟩ := hcut
    cases kq with
    | zero => exact absurd HA.out (by simp [feeder_timely.j0])
    | succ kj2 =>
      have H := HA.out
      clear HA
      simp only [feeder_timely.j0] at H
      by_cases c6 : x12_2 = true
      · subst c6
        have H1 : (some false) = some r := by rw [if_pos rfl] at H; exact H
        clear H
        have H := H1
        clear H1
        obtain rfl := Option.some.inj H
        go_wp2
        go_ret
        exact ⟨by first | rfl | (simp [errW_none, errW_some] <;> rfl) | (simp [*, errW_none, errW_some] <;> rfl), by repeat (first | (with_reducible first | exact HB.out | apply bA | apply bN | apply bD | refine below_set ?_ GE145.out) | exact HB.out)⟩
      · replace c6 := Bool.eq_false_iff.mpr c6
        subst c6
        have H1 : (feeder_timely.l0 kj2 a1 l0_0 (l0_0.length : Int) 0) = some r := by rw [if_neg (show ¬ (false = true) by decide)] at H; exact H
        clear H
        have H := H1
        clear H1
        have H' := aM H
        clear H
        obtain ⟨hcz7_0, hcz7_1, hcz7_2, hfz7_0, hfz7_1, hfz7_2⟩ := blk3 BK145.out
        go_wp2
        go_loopg [16] kj2 (fun kq v16 w' => ∃ (x16_2 : Int), v16 = .int .i64 x16_2 ∧ Aside0 (feeder_timely.l0 kq a1 l0_0 (l0_0.length : Int) x16_2 = some r) ∧ Aside0 (kq ≤ kj2) ∧ Aside0 (w'.heap[gb145]? = some (.cells #[(.slice A0_0 l0_0.length c0_0), (.slice A0_1 l0_1.length c0_1), .int .i64 a0_2] 28 (0, 0))) ∧ Aside0 (Below w.heap.size w w'))
        case atStart => exact ⟨(0), (by first | rfl | (simp; done) | (simp [*]; done)), H', ⟨Nat.le_refl _⟩, ⟨blk_mv BK145.out⟩, ⟨by repeat (first | (with_reducible first | exact HB.out | apply bA | apply bN | apply bD | refine below_set ?_ GE145.out) | exact HB.out)⟩⟩
        case round =>
          clear H'
          obtain ⟨x16_2, rfl, HA, HK2, BK145, HB⟩ := hrel
          cases gk with
          | zero => exact absurd HA.out (by simp [feeder_timely.l0])
          | succ k2 =>
            have H := HA.out
            clear HA
            simp only [feeder_timely.l0] at H
            by_cases c8 : x16_2 < (l0_0.length : Int)
            · rw [if_pos c8] at H
              have c8b0 : decide (x16_2 < (l0_0.length : Int)) = true := decide_eq_true c8
              clear c8
              by_cases c9 : 0 ≤ x16_2
              rotate_left
              · rw [if_neg c9] at H
                exact absurd H (by simp)
              rw [if_pos c9] at H
              have c9b0 : decide (0 ≤ x16_2) = true := decide_eq_true c9
              clear c9
              by_cases c10 : x16_2 < (l0_0.length : Int)
              rotate_left
              · rw [if_neg c10] at H
                exact absurd H (by simp)
              rw [if_pos c10] at H
              have c10b0 : decide (x16_2 < (l0_0.length : Int)) = true := decide_eq_true c10
              clear c10
              by_cases c11 : a1 < ((rd_T32 l0_0 x16_2).f1)
              · rw [if_pos c11] at H
                have c11b0 : decide (a1 < ((rd_T32 l0_0 x16_2).f1)) = true := decide_eq_true c11
                clear c11
                obtain rfl := Option.some.inj H
                have p146 : 0 ≤ (x16_2 : Int) := of_decide_eq_true (by first | (with_reducible assumption) | assumption)
                have q146 : x16_2 < (l0_0.length : Int) := of_decide_eq_true (by first | (with_reducible assumption) | assumption)
                obtain ⟨ad146, e146, hx146_0, hx146_1, hx146_2, hx146_3, hx146_4⟩ := at_T32 HR0_0.out x16_2 p146 q146
                cases e146
                try replace hx146_0 := (HB.out.cell (World.block_lt_of_cell? w _ hx146_0)).trans hx146_0
                try replace hx146_1 := (HB.out.cell (World.block_lt_of_cell? w _ hx146_1)).trans hx146_1
                try replace hx146_2 := (HB.out.cell (World.block_lt_of_cell? w _ hx146_2)).trans hx146_2
                try replace hx146_3 := (HB.out.cell (World.block_lt_of_cell? w _ hx146_3)).trans hx146_3
                try replace hx146_4 := (HB.out.cell (World.block_lt_of_cell? w _ hx146_4)).trans hx146_4
                replace p146 := eq_true p146
                replace q146 := eq_true q146
                go_wp2_with (first | ((with_reducible refine gate_dst (N := 6) rfl ?_); refine box_event ?hg (N := 6) ?hd (cs := #[.int .i64 0, .int .i64 0, .int .i64 0, .bool false, .bool false]) (t := 32) ?hr ?_; (case hd => rfl); (case hg => rfl); (case hr => first | (go_simp; done) | (go_simp; rfl)); intro gb147 hg w12 hbox hb; have BK147 := aM (hbox); have GW147 := aM ((by rw [hg]; exact (below_size (by repeat (first | (with_reducible first | exact HB.out | apply bA | apply bN | apply bD | refine below_set ?_ GE145.out) | exact HB.out))) : w.heap.size ≤ gb147)); have GE147 := aM ((by rw [hg]; exact (below_size (by repeat (first | (with_reducible first | exact HB.out | apply bA | apply bN | apply bD | refine below_set ?_ GE145.out) | exact HB.out))) : w.heap.size ≤ gb147)); replace HB := aM (below_step (by repeat (first | (with_reducible first | exact HB.out | apply bA | apply bN | apply bD | refine below_set ?_ GE145.out) | exact HB.out)) hb); have NB145_147 := aM ((by rw [hg]; exact Nat.ne_of_lt (blk_lt (blk_mv BK145.out)) : gb145 ≠ gb147)); have NB147_145 := aM ((by rw [hg]; exact Nat.ne_of_gt (blk_lt (blk_mv BK145.out)) : gb147 ≠ gb145)); replace BK145 := aM (blk_below (blk_mv BK145.out) hb); clear hb hbox hg; have hnb13 := NB147_145.out; have hnc13 := NB145_147.out; have hcz14_0 : w12.cell? ⟨gb147, 0, none⟩ = some (.int .i64 0) := (blk_cell BK147.out 0).trans rfl; have hcz14_1 : w12.cell? ⟨gb147, 1, none⟩ = some (.int .i64 0) := (blk_cell BK147.out 1).trans rfl; have hcz14_2 : w12.cell? ⟨gb147, 2, none⟩ = some (.int .i64 0) := (blk_cell BK147.out 2).trans rfl; have hcz14_3 : w12.cell? ⟨gb147, 3, none⟩ = some (.bool false) := (blk_cell BK147.out 3).trans rfl; have hcz14_4 : w12.cell? ⟨gb147, 4, none⟩ = some (.bool false) := (blk_cell BK147.out 4).trans rfl; have hfz14_0 := blk_frozen BK147.out 0; have hfz14_1 := blk_frozen BK147.out 1; have hfz14_2 := blk_frozen BK147.out 2; have hfz14_3 := blk_frozen BK147.out 3; have hfz14_4 := blk_frozen BK147.out 4))
                go_ret
                exact ⟨by first | rfl | (simp [errW_none, errW_some] <;> rfl) | (simp [*, errW_none, errW_some] <;> rfl), by repeat (first | (with_reducible first | exact HB.out | apply bA | apply bN | apply bD | refine below_set ?_ GE145.out | refine below_set ?_ GE147.out) | exact HB.out)⟩
              · rw [if_neg c11] at H
                have c11b0 : decide (a1 < ((rd_T32 l0_0 x16_2).f1)) = false := decide_eq_false c11
                clear c11
                have H' := aM H
                clear H
                have p146 : 0 ≤ (x16_2 : Int) := of_decide_eq_true (by first | (with_reducible assumption) | assumption)
                have q146 : x16_2 < (l0_0.length : Int) := of_decide_eq_true (by first | (with_reducible assumption) | assumption)
                obtain ⟨ad146, e146, hx146_0, hx146_1, hx146_2, hx146_3, hx146_4⟩ := at_T32 HR0_0.out x16_2 p146 q146
                cases e146
                try replace hx146_0 := (HB.out.cell (World.block_lt_of_cell? w _ hx146_0)).trans hx146_0
                try replace hx146_1 := (HB.out.cell (World.block_lt_of_cell? w _ hx146_1)).trans hx146_1
                try replace hx146_2 := (HB.out.cell (World.block_lt_of_cell? w _ hx146_2)).trans hx146_2
                try replace hx146_3 := (HB.out.cell (World.block_lt_of_cell? w _ hx146_3)).trans hx146_3
                try replace hx146_4 := (HB.out.cell (World.block_lt_of_cell? w _ hx146_4)).trans hx146_4
                replace p146 := eq_true p146
                replace q146 := eq_true q146
                go_wp2_with (first | ((with_reducible refine gate_dst (N := 6) rfl ?_); refine box_event ?hg (N := 6) ?hd (cs := #[.int .i64 0, .int .i64 0, .int .i64 0, .bool false, .bool false]) (t := 32) ?hr ?_; (case hd => rfl); (case hg => rfl); (case hr => first | (go_simp; done) | (go_simp; rfl)); intro gb147 hg w15 hbox hb; have BK147 := aM (hbox); have GW147 := aM ((by rw [hg]; exact (below_size (by repeat (first | (with_reducible first | exact HB.out | apply bA | apply bN | apply bD | refine below_set ?_ GE145.out) | exact HB.out))) : w.heap.size ≤ gb147)); have GE147 := aM ((by rw [hg]; exact (below_size (by repeat (first | (with_reducible first | exact HB.out | apply bA | apply bN | apply bD | refine below_set ?_ GE145.out) | exact HB.out))) : w.heap.size ≤ gb147)); replace HB := aM (below_step (by repeat (first | (with_reducible first | exact HB.out | apply bA | apply bN | apply bD | refine below_set ?_ GE145.out) | exact HB.out)) hb); have NB145_147 := aM ((by rw [hg]; exact Nat.ne_of_lt (blk_lt (blk_mv BK145.out)) : gb145 ≠ gb147)); have NB147_145 := aM ((by rw [hg]; exact Nat.ne_of_gt (blk_lt (blk_mv BK145.out)) : gb147 ≠ gb145)); replace BK145 := aM (blk_below (blk_mv BK145.out) hb); clear hb hbox hg; have hnb16 := NB147_145.out; have hnc16 := NB145_147.out; have hcz17_0 : w15.cell? ⟨gb147, 0, none⟩ = some (.int .i64 0) := (blk_cell BK147.out 0).trans rfl; have hcz17_1 : w15.cell? ⟨gb147, 1, none⟩ = some (.int .i64 0) := (blk_cell BK147.out 1).trans rfl; have hcz17_2 : w15.cell? ⟨gb147, 2, none⟩ = some (.int .i64 0) := (blk_cell BK147.out 2).trans rfl; have hcz17_3 : w15.cell? ⟨gb147, 3, none⟩ = some (.bool false) := (blk_cell BK147.out 3).trans rfl; have hcz17_4 : w15.cell? ⟨gb147, 4, none⟩ = some (.bool false) := (blk_cell BK147.out 4).trans rfl; have hfz17_0 := blk_frozen BK147.out 0; have hfz17_1 := blk_frozen BK147.out 1; have hfz17_2 := blk_frozen BK147.out 2; have hfz17_3 := blk_frozen BK147.out 3; have hfz17_4 := blk_frozen BK147.out 4))
                go_roundg k2
                case measure => have := HJ2.out; have := HK2.out; omega
                case rel => exact ⟨(wrap64 (x16_2 + 1)), (by first | rfl | (simp; done) | (simp [*]; done)), H', ⟨by have := HJ2.out; have := HK2.out; omega⟩, ⟨by (with_reducible repeat (first | refine kN ?_ _ | refine kD ?_ | refine kA ?_ _)); refine blk_far ?_ NB145_147.out _; (with_reducible repeat (first | refine kN ?_ _ | refine kD ?_ | refine kA ?_ _)); refine blk_far ?_ NB145_147.out _; (with_reducible repeat (first | refine kN ?_ _ | refine kD ?_ | refine kA ?_ _)); refine blk_far ?_ NB145_147.out _; (with_reducible repeat (first | refine kN ?_ _ | refine kD ?_ | refine kA ?_ _)); refine blk_far ?_ NB145_147.out _; (with_reducible repeat (first | refine kN ?_ _ | refine kD ?_ | refine kA ?_ _)); refine blk_far ?_ NB145_147.out _; (with_reducible repeat (first | refine kN ?_ _ | refine kD ?_ | refine kA ?_ _)); exact BK145.out⟩, ⟨by repeat (first | (with_reducible first | exact HB.out | apply bA | apply bN | apply bD | refine below_set ?_ GE145.out | refine below_set ?_ GE147.out) | exact HB.out)⟩⟩
            · rw [if_neg c8] at H
              have c8b0 : decide (x16_2 < (l0_0.length : Int)) = false := decide_eq_false c8
              clear c8
              obtain rfl := Option.some.inj H
              go_wp2
              go_ret
              exact ⟨by first | rfl | (simp [errW_none, errW_some] <;> rfl) | (simp [*, errW_none, errW_some] <;> rfl), by repeat (first | (with_reducible first | exact HB.out | apply bA | apply bN | apply bD | refine below_set ?_ GE145.out) | exact HB.out)⟩

/-! ### feeder_can: function 42 -/
def feeder_can.j0 : Nat → Int → Bool → List (S32) → List Int → Int → Option (Int)
  | 0, _, _, _, _, _ => none
  | k + 1, x2, x21, x149000, x149001, x149002 => if x21 = true then (some 16) else ((feeder_timely.f k x149000 x149001 x149002 x2).bind fun t150 => (if t150 = true then (some 0) else (some 8)))
def feeder_can.f (k : Nat) (l0_0 : List (S32)) (l0_1 : List Int) (a0_2 : Int) (a1 : Int) (a2 : Int) : Option (Int) := (feeder_Check.f k l0_0 l0_1 a0_2).bind fun t149 => (if t149 = 0 then (if a1 < 0 then (feeder_can.j0 k a2 true l0_0 l0_1 a0_2) else (feeder_can.j0 k a2 (decide (a1 ≥ (l0_0.length : Int))) l0_0 l0_1 a0_2)) else (some t149))
theorem feeder_can.mono_l : ∀ k, (∀ y0 y1 y2 y3 y4, LeO (feeder_can.j0 k y0 y1 y2 y3 y4) (feeder_can.j0 (k + 1) y0 y1 y2 y3 y4))
  | 0 => fun _ _ _ _ _ r h => by simp [feeder_can.j0] at h
  | k + 1 => by
    have ih0 := feeder_can.mono_l k
    · intro y0 y1 y2 y3 y4
      unfold feeder_can.j0
      repeat' first
      | (with_reducible exact ih0 _ _ _ _ _)
      | (with_reducible exact feeder_Check.mono _ _ _ _)
      | (with_reducible exact feeder_timely.mono _ _ _ _ _)
      | (with_reducible exact LeO.refl _)
      | (with_reducible exact LeO.none _)
      | (with_reducible refine LeO.ite ?_ ?_)
      | (with_reducible refine LeO.bind ?_ (fun _ => ?_))
      | exact ih0 _ _ _ _ _
      | exact LeO.none _
      | refine LeO.ite ?_ ?_
      | refine LeO.bind ?_ (fun _ => ?_)
theorem feeder_can.mono : ∀ a0 a1 a2 a3 a4 k, LeO (feeder_can.f k a0 a1 a2 a3 a4) (feeder_can.f (k + 1) a0 a1 a2 a3 a4) := by
  intro a0 a1 a2 a3 a4 k
  have ih0 := feeder_can.mono_l k
  unfold feeder_can.f
  repeat' first
      | (with_reducible exact ih0 _ _ _ _ _)
      | (with_reducible exact feeder_Check.mono _ _ _ _)
      | (with_reducible exact feeder_timely.mono _ _ _ _ _)
      | (with_reducible exact LeO.refl _)
      | (with_reducible exact LeO.none _)
      | (with_reducible refine LeO.ite ?_ ?_)
      | (with_reducible refine LeO.bind ?_ (fun _ => ?_))
      | exact ih0 _ _ _ _ _
      | exact LeO.none _
      | refine LeO.ite ?_ ?_
      | refine LeO.bind ?_ (fun _ => ?_)
set_option maxHeartbeats 8000000 in
set_option maxRecDepth 100000 in
theorem feeder_can.calls (k : Nat) (A0_0 : Option Addr) (c0_0 : Nat) (l0_0 : List (S32)) (A0_1 : Option Addr) (c0_1 : Nat) (l0_1 : List Int) (a0_2 : Int) (a1 : Int) (a2 : Int) (r : Int) (w : World) (hr0_0 : Kd.C k32 w A0_0 l0_0.length l0_0) (hc0_0 : l0_0.length ≤ c0_0) (hr0_1 : Kd.C (Kd.int .i64) w A0_1 l0_1.length l0_1) (hc0_1 : l0_1.length ≤ c0_1) (h : feeder_can.f k l0_0 l0_1 a0_2 a1 a2 = some r) :
    Calls Try.prog 42 #[.agg #[.slice A0_0 l0_0.length c0_0, .slice A0_1 l0_1.length c0_1, .int .i64 a0_2], .int .i64 a1, .int .i64 a2] w fun e w' => e = .returned (.int .i64 r) ∧ Below w.heap.size w w' := by
  have hu28 := Try.underlying28
  have HR0_0 := aM hr0_0
  have HC0_0 := aM hc0_0
  clear hr0_0 hc0_0
  have HR0_1 := aM hr0_1
  have HC0_1 := aM hc0_1
  clear hr0_1 hc0_1
  have HB := aM (Below.refl w.heap.size w)
  have H : ((feeder_Check.f k l0_0 l0_1 a0_2).bind fun t149 => (if t149 = 0 then (if a1 < 0 then (feeder_can.j0 k a2 true l0_0 l0_1 a0_2) else (feeder_can.j0 k a2 (decide (a1 ≥ (l0_0.length : Int))) l0_0 l0_1 a0_2)) else (some t149))) = some r := h
  clear h
  replace H := Option.bind_eq_some_iff.mp H
  obtain ⟨t149, A40, H⟩ := H
  replace H : (if t149 = 0 then (if a1 < 0 then (feeder_can.j0 k a2 true l0_0 l0_1 a0_2) else (feeder_can.j0 k a2 (decide (a1 ≥ (l0_0.length : Int))) l0_0 l0_1 a0_2)) else (some t149)) = some r := H
  have A4 := aM A40
  clear A40
  by_cases c5 : t149 = 0
  · rw [if_pos c5] at H
    have c5b0 : (t149 == 0) = true := beq_iff_eq.mpr c5
    have c5b1 : (t149 != 0) = false := bne_eq_false_iff_eq.mpr c5
    clear c5
    have HC6 := aM H
    clear H
    go_enter Try.func42, Try.ntmps42
    go_upto_region 4 with (first | ((with_reducible refine gate_dst (N := 3) rfl ?_); (try (refine gate_guard (by rfl) ?_; dsimp only)); refine box_event ?hg (N := 3) ?hd (cs := #[.slice A0_0 l0_0.length c0_0, .slice A0_1 l0_1.length c0_1, .int .i64 a0_2]) (t := 28) ?hr ?_; (case hd => rfl); (case hg => rfl); (case hr => first | (go_simp; done) | (go_simp; rfl)); intro gb148 hg w7 hbox hb; have BK148 := aM (hbox); have GW148 := aM ((by rw [hg]; exact (below_size (below_mv HB.out)) : w.heap.size ≤ gb148)); have GE148 := aM ((by rw [hg]; exact (below_size (below_mv HB.out)) : w.heap.size ≤ gb148)); replace HB := aM (below_step (below_mv HB.out) hb); clear hb hbox hg; obtain ⟨hcz8_0, hcz8_1, hcz8_2, hfz8_0, hfz8_1, hfz8_2⟩ := blk3 BK148.out) | ((with_reducible refine gate_callee (f := 23) rfl ?_); refine goesL_ (some 9) rfl rfl Try.func23 (by kernel_rfl) rfl #[.agg #[.slice A0_0 l0_0.length c0_0, .slice A0_1 l0_1.length c0_1, .int .i64 a0_2]] rfl (by first | rfl | (simp only [List.map_toArray, List.map_cons, List.map_nil, List.length_drop, List.length_take]; try rfl)) ?_; (with_reducible refine (feeder_Check.calls k _ _ l0_0 _ _ l0_1 a0_2 t149 _ ?side1 ?side2 ?side3 ?side4 A4.out).mono ?_); (case side1 => first | exact C_mv (Kd.C_below HR0_0.out HB.out) | exact C_mv HR0_0.out); (case side2 => exact HC0_0.out); (case side3 => first | exact C_mv (Kd.C_below HR0_1.out HB.out) | exact C_mv HR0_1.out); (case side4 => exact HC0_1.out); rintro e w9 ⟨rfl, hb⟩; refine ⟨_, rfl, ?_⟩; replace BK148 := aM (blk_below (blk_mv BK148.out) hb); replace HB := aM (below_step (by repeat (first | (with_reducible first | exact HB.out | apply bA | apply bN | apply bD | refine below_set ?_ GE148.out) | exact HB.out)) hb); (try clear hb); (try clear hb2); (try clear hge); (try clear hk); (try clear hi)))
    (try simp only [Act.put, List.setIfInBounds_toArray, List.set_cons_zero, List.set_cons_succ])
    go_cut [21] (fun v21 wc => ∃ (kq : Nat) (x21_5 : Bool), v21 = .bool x21_5 ∧ Aside0 (feeder_can.j0 kq a2 x21_5 l0_0 l0_1 a0_2 = some r) ∧ Aside0 (kq ≤ k) ∧ Aside0 (wc.heap[gb148]? = some (.cells #[(.slice A0_0 l0_0.length c0_0), (.slice A0_1 l0_1.length c0_1), .int .i64 a0_2] 28 (0, 0))) ∧ Aside0 (Below w.heap.size w wc))
    case first =>
      have H := HC6.out
      clear HC6
      by_cases c10 : a1 < 0
      · rw [if_pos c10] at H
        have c10b0 : decide (a1 < 0) = true := decide_eq_true c10
        clear c10
        (first | rw [c10b0] | (simp only [i64_w, i32_w]; rw [c10b0]) | skip)
        have H' := aM H
        clear H
        go_wp2
        go_meet
        case rel => exact ⟨_, (true), (by first | rfl | (simp; done) | (simp [*]; done)), H', ⟨by first | omega | exact Nat.le_refl _⟩, ⟨blk_mv BK148.out⟩, ⟨by repeat (first | (with_reducible first | exact HB.out | apply bA | apply bN | apply bD | refine below_set ?_ GE148.out) | exact HB.out)⟩⟩
      · rw [if_neg c10] at H
        have c10b0 : decide (a1 < 0) = false := decide_eq_false c10
        clear c10
        (first | rw [c10b0] | (simp only [i64_w, i32_w]; rw [c10b0]) | skip)
        have H' := aM H
        clear H
        obtain ⟨hcz11_0, hcz11_1, hcz11_2, hfz11_0, hfz11_1, hfz11_2⟩ := blk3 BK148.out
        go_wp2
        go_meet
        case rel => exact ⟨_, (decide (a1 ≥ (l0_0.length : Int))), (by first | rfl | (simp; done) | (simp [*]; done)), H', ⟨by first | omega | exact Nat.le_refl _⟩, ⟨blk_mv BK148.out⟩, ⟨by repeat (first | (with_reducible first | exact HB.out | apply bA | apply bN | apply bD | refine below_set ?_ GE148.out) | exact HB.out)⟩⟩
    case rest =>
      clear HC6
      obtain ⟨kq, x21_5, rfl, HA, HJ5, BK148, HB⟩ := hcut
      cases kq with
      | zero => exact absurd HA.out (by simp [feeder_can.j0])
      | succ kj5 =>
        have H := HA.out
        clear HA
        simp only [feeder_can.j0] at H
        by_cases c12 : x21_5 = true
        · subst c12
          have H1 : (some 16) = some r := by rw [if_pos rfl] at H; exact H
          clear H
          have H := H1
          clear H1
          obtain rfl := Option.some.inj H
          go_wp2
          go_ret
          exact ⟨by first | rfl | (simp [errW_none, errW_some] <;> rfl) | (simp [*, errW_none, errW_some] <;> rfl), by repeat (first | (with_reducible first | exact HB.out | apply bA | apply bN | apply bD | refine below_set ?_ GE148.out) | exact HB.out)⟩
        · replace c12 := Bool.eq_false_iff.mpr c12
          subst c12
          have H1 : ((feeder_timely.f kj5 l0_0 l0_1 a0_2 a2).bind fun t150 => (if t150 = true then (some 0) else (some 8))) = some r := by rw [if_neg (show ¬ (false = true) by decide)] at H; exact H
          clear H
          have H := H1
          clear H1
          replace H := Option.bind_eq_some_iff.mp H
          obtain ⟨t150, A130, H⟩ := H
          replace H : (if t150 = true then (some 0) else (some 8)) = some r := H
          have A13 := aM A130
          clear A130
          by_cases c14 : t150 = true
          · subst c14
            have H1 : (some 0) = some r := by rw [if_pos rfl] at H; exact H
            clear H
            have H := H1
            clear H1
            obtain rfl := Option.some.inj H
            obtain ⟨hcz15_0, hcz15_1, hcz15_2, hfz15_0, hfz15_1, hfz15_2⟩ := blk3 BK148.out
            go_wp2_with (first | ((with_reducible refine gate_callee (f := 46) rfl ?_); refine goesL_ (some 24) rfl rfl Try.func46 (by kernel_rfl) rfl #[.agg #[.slice A0_0 l0_0.length c0_0, .slice A0_1 l0_1.length c0_1, .int .i64 a0_2], .int .i64 a2] rfl (by first | rfl | (simp only [List.map_toArray, List.map_cons, List.map_nil, List.length_drop, List.length_take]; try rfl)) ?_; (with_reducible refine (feeder_timely.calls kj5 _ _ l0_0 _ _ l0_1 a0_2 a2 true _ ?side1 ?side2 ?side3 ?side4 A13.out).mono ?_); (case side1 => first | exact C_mv (Kd.C_below HR0_0.out HB.out) | exact C_mv HR0_0.out); (case side2 => exact HC0_0.out); (case side3 => first | exact C_mv (Kd.C_below HR0_1.out HB.out) | exact C_mv HR0_1.out); (case side4 => exact HC0_1.out); rintro e w16 ⟨rfl, hb⟩; refine ⟨_, rfl, ?_⟩; replace BK148 := aM (blk_below (blk_mv BK148.out) hb); replace HB := aM (below_step (by repeat (first | (with_reducible first | exact HB.out | apply bA | apply bN | apply bD | refine below_set ?_ GE148.out) | exact HB.out)) hb); (try clear hb); (try clear hb2); (try clear hge); (try clear hk); (try clear hi)))
            go_ret
            exact ⟨by first | rfl | (simp [errW_none, errW_some] <;> rfl) | (simp [*, errW_none, errW_some] <;> rfl), by repeat (first | (with_reducible first | exact HB.out | apply bA | apply bN | apply bD | refine below_set ?_ GE148.out) | exact HB.out)⟩
          · replace c14 := Bool.eq_false_iff.mpr c14
            subst c14
            have H1 : (some 8) = some r := by rw [if_neg (show ¬ (false = true) by decide)] at H; exact H
            clear H
            have H := H1
            clear H1
            obtain rfl := Option.some.inj H
            obtain ⟨hcz17_0, hcz17_1, hcz17_2, hfz17_0, hfz17_1, hfz17_2⟩ := blk3 BK148.out
            go_wp2_with (first | ((with_reducible refine gate_callee (f := 46) rfl ?_); refine goesL_ (some 24) rfl rfl Try.func46 (by kernel_rfl) rfl #[.agg #[.slice A0_0 l0_0.length c0_0, .slice A0_1 l0_1.length c0_1, .int .i64 a0_2], .int .i64 a2] rfl (by first | rfl | (simp only [List.map_toArray, List.map_cons, List.map_nil, List.length_drop, List.length_take]; try rfl)) ?_; (with_reducible refine (feeder_timely.calls kj5 _ _ l0_0 _ _ l0_1 a0_2 a2 false _ ?side1 ?side2 ?side3 ?side4 A13.out).mono ?_); (case side1 => first | exact C_mv (Kd.C_below HR0_0.out HB.out) | exact C_mv HR0_0.out); (case side2 => exact HC0_0.out); (case side3 => first | exact C_mv (Kd.C_below HR0_1.out HB.out) | exact C_mv HR0_1.out); (case side4 => exact HC0_1.out); rintro e w18 ⟨rfl, hb⟩; refine ⟨_, rfl, ?_⟩; replace BK148 := aM (blk_below (blk_mv BK148.out) hb); replace HB := aM (below_step (by repeat (first | (with_reducible first | exact HB.out | apply bA | apply bN | apply bD | refine below_set ?_ GE148.out) | exact HB.out)) hb); (try clear hb); (try clear hb2); (try clear hge); (try clear hk); (try clear hi)))
            go_ret
            exact ⟨by first | rfl | (simp [errW_none, errW_some] <;> rfl) | (simp [*, errW_none, errW_some] <;> rfl), by repeat (first | (with_reducible first | exact HB.out | apply bA | apply bN | apply bD | refine below_set ?_ GE148.out) | exact HB.out)⟩
  · rw [if_neg c5] at H
    have c5b0 : (t149 == 0) = false := beq_eq_false_iff_ne.mpr c5
    have c5b1 : (t149 != 0) = true := bne_iff_ne.mpr c5
    obtain rfl := Option.some.inj H
    go_enter Try.func42, Try.ntmps42
    go_wp2_with (first | ((with_reducible refine gate_dst (N := 3) rfl ?_); (try (refine gate_guard (by rfl) ?_; dsimp only)); refine box_event ?hg (N := 3) ?hd (cs := #[.slice A0_0 l0_0.length c0_0, .slice A0_1 l0_1.length c0_1, .int .i64 a0_2]) (t := 28) ?hr ?_; (case hd => rfl); (case hg => rfl); (case hr => first | (go_simp; done) | (go_simp; rfl)); intro gb148 hg w19 hbox hb; have BK148 := aM (hbox); have GW148 := aM ((by rw [hg]; exact (below_size (below_mv HB.out)) : w.heap.size ≤ gb148)); have GE148 := aM ((by rw [hg]; exact (below_size (below_mv HB.out)) : w.heap.size ≤ gb148)); replace HB := aM (below_step (below_mv HB.out) hb); clear hb hbox hg; obtain ⟨hcz20_0, hcz20_1, hcz20_2, hfz20_0, hfz20_1, hfz20_2⟩ := blk3 BK148.out) | ((with_reducible refine gate_callee (f := 23) rfl ?_); refine goesL_ (some 9) rfl rfl Try.func23 (by kernel_rfl) rfl #[.agg #[.slice A0_0 l0_0.length c0_0, .slice A0_1 l0_1.length c0_1, .int .i64 a0_2]] rfl (by first | rfl | (simp only [List.map_toArray, List.map_cons, List.map_nil, List.length_drop, List.length_take]; try rfl)) ?_; (with_reducible refine (feeder_Check.calls k _ _ l0_0 _ _ l0_1 a0_2 t149 _ ?side1 ?side2 ?side3 ?side4 A4.out).mono ?_); (case side1 => first | exact C_mv (Kd.C_below HR0_0.out HB.out) | exact C_mv HR0_0.out); (case side2 => exact HC0_0.out); (case side3 => first | exact C_mv (Kd.C_below HR0_1.out HB.out) | exact C_mv HR0_1.out); (case side4 => exact HC0_1.out); rintro e w21 ⟨rfl, hb⟩; refine ⟨_, rfl, ?_⟩; replace BK148 := aM (blk_below (blk_mv BK148.out) hb); replace HB := aM (below_step (by repeat (first | (with_reducible first | exact HB.out | apply bA | apply bN | apply bD | refine below_set ?_ GE148.out) | exact HB.out)) hb); (try clear hb); (try clear hb2); (try clear hge); (try clear hk); (try clear hi)))
    go_ret
    exact ⟨by first | rfl | (simp [errW_none, errW_some] <;> rfl) | (simp [*, errW_none, errW_some] <;> rfl), by repeat (first | (with_reducible first | exact HB.out | apply bA | apply bN | apply bD | refine below_set ?_ GE148.out) | exact HB.out)⟩

/-! ### feeder_clone: function 43 -/
def feeder_clone.f (l0_0 : List (S32)) (l0_1 : List Int) (a0_2 : Int) : Option ((List (S32)) × List Int × Int) := if ([] : List (S32)).length + l0_0.length < 4398046511104 then (if ([] : List Int).length + l0_1.length < 17592186044416 then (some ((([] : List (S32)) ++ l0_0), (([] : List Int) ++ l0_1), a0_2)) else (none)) else (none)
set_option maxHeartbeats 8000000 in
set_option maxRecDepth 100000 in
theorem feeder_clone.calls (A0_0 : Option Addr) (c0_0 : Nat) (l0_0 : List (S32)) (A0_1 : Option Addr) (c0_1 : Nat) (l0_1 : List Int) (a0_2 : Int) (r1 : List (S32)) (r2 : List Int) (r3 : Int) (w : World) (hr0_0 : Kd.C k32 w A0_0 l0_0.length l0_0) (hc0_0 : l0_0.length ≤ c0_0) (hr0_1 : Kd.C (Kd.int .i64) w A0_1 l0_1.length l0_1) (hc0_1 : l0_1.length ≤ c0_1) (h : feeder_clone.f l0_0 l0_1 a0_2 = some (r1, r2, r3)) :
    Calls Try.prog 43 #[.agg #[.slice A0_0 l0_0.length c0_0, .slice A0_1 l0_1.length c0_1, .int .i64 a0_2]] w fun e w' => ∃ v0_ v1_ : Value, e = .returned (.agg #[v0_, v1_, .int .i64 r3]) ∧ Kd.R k32 32 w' w.heap.size (fun _ => True) v0_ r1 ∧ Kd.R (Kd.int .i64) 3 w' w.heap.size (fun _ => True) v1_ r2 ∧ Below w.heap.size w w' := by
  have hu28 := Try.underlying28
  have HR0_0 := aM hr0_0
  have HC0_0 := aM hc0_0
  clear hr0_0 hc0_0
  have HR0_1 := aM hr0_1
  have HC0_1 := aM hc0_1
  clear hr0_1 hc0_1
  have HB := aM (Below.refl w.heap.size w)
  have H : (if ([] : List (S32)).length + l0_0.length < 4398046511104 then (if ([] : List Int).length + l0_1.length < 17592186044416 then (some ((([] : List (S32)) ++ l0_0), (([] : List Int) ++ l0_1), a0_2)) else (none)) else (none)) = some (r1, r2, r3) := h
  clear h
  by_cases c2 : ([] : List (S32)).length + l0_0.length < 4398046511104
  rotate_left
  · rw [if_neg c2] at H
    exact absurd H (by simp)
  rw [if_pos c2] at H
  have LMc2 := aM c2
  clear c2
  obtain ⟨y153, hy153⟩ : ∃ y_ : List (S32), y_ = (([] : List (S32)) ++ l0_0) := ⟨_, rfl⟩
  replace H : (if ([] : List Int).length + l0_1.length < 17592186044416 then (some (y153, (([] : List Int) ++ l0_1), a0_2)) else (none)) = some (r1, r2, r3) := by first | (rw [hy153]; with_reducible exact H) | (have H2_ := (Option.bind_some _ _).symm.trans H; rw [hy153]; with_reducible exact H2_) | (have H2_ := (Option.bind_some _ _).symm.trans H; with_reducible exact H2_) | with_reducible exact H | (rw [hy153]; exact H) | exact H
  have Ny153 := aM hy153
  clear hy153
  by_cases c3 : ([] : List Int).length + l0_1.length < 17592186044416
  rotate_left
  · rw [if_neg c3] at H
    exact absurd H (by simp)
  rw [if_pos c3] at H
  have LMc3 := aM c3
  clear c3
  obtain ⟨y156, hy156⟩ : ∃ y_ : List Int, y_ = (([] : List Int) ++ l0_1) := ⟨_, rfl⟩
  replace H : (some (y153, y156, a0_2)) = some (r1, r2, r3) := by first | (rw [hy156]; with_reducible exact H) | (have H2_ := (Option.bind_some _ _).symm.trans H; rw [hy156]; with_reducible exact H2_) | (have H2_ := (Option.bind_some _ _).symm.trans H; with_reducible exact H2_) | with_reducible exact H | (rw [hy156]; exact H) | exact H
  have Ny156 := aM hy156
  clear hy156
  simp only [Option.some.injEq, Prod.mk.injEq] at H
  obtain ⟨rfl, rfl, rfl⟩ := H
  go_enter Try.func43, Try.ntmps43
  go_wp2_with (first | ((with_reducible refine gate_dst (N := 1) rfl ?_); refine box_event ?hg (N := 1) ?hd (cs := #[.slice A0_0 l0_0.length c0_0, .slice A0_1 l0_1.length c0_1, .int .i64 a0_2]) (t := 28) ?hr ?_; (case hd => rfl); (case hg => rfl); (case hr => first | (go_simp; done) | (go_simp; rfl)); intro gb151 hg w4 hbox hb; have BK151 := aM (hbox); have GW151 := aM ((by rw [hg]; exact (below_size (below_mv HB.out)) : w.heap.size ≤ gb151)); have GE151 := aM ((by rw [hg]; exact (below_size (below_mv HB.out)) : w.heap.size ≤ gb151)); replace HB := aM (below_step (below_mv HB.out) hb); clear hb hbox hg) | ((with_reducible refine gate_dst (N := 2) rfl ?_); refine box_event ?hg (N := 2) ?hd (cs := #[.slice none 0 0, .slice none 0 0, .int .i64 0]) (t := 28) ?hr ?_; (case hd => rfl); (case hg => rfl); (case hr => first | (go_simp; done) | (go_simp; rfl)); intro gb152 hg w5 hbox hb; have BK152 := aM (hbox); have GW152 := aM ((by rw [hg]; exact (below_size (by repeat (first | (with_reducible first | exact HB.out | apply bA | apply bN | apply bD | refine below_set ?_ GE151.out) | exact HB.out))) : w.heap.size ≤ gb152)); have GE152 := aM ((by rw [hg]; exact (below_size (by repeat (first | (with_reducible first | exact HB.out | apply bA | apply bN | apply bD | refine below_set ?_ GE151.out) | exact HB.out))) : w.heap.size ≤ gb152)); replace HB := aM (below_step (by repeat (first | (with_reducible first | exact HB.out | apply bA | apply bN | apply bD | refine below_set ?_ GE151.out) | exact HB.out)) hb); have NB151_152 := aM ((by rw [hg]; exact Nat.ne_of_lt (blk_lt (blk_mv BK151.out)) : gb151 ≠ gb152)); have NB152_151 := aM ((by rw [hg]; exact Nat.ne_of_gt (blk_lt (blk_mv BK151.out)) : gb152 ≠ gb151)); replace BK151 := aM (blk_below (blk_mv BK151.out) hb); clear hb hbox hg; have hnb6 := NB151_152.out; have hnc6 := NB152_151.out; obtain ⟨hcz7_0, hcz7_1, hcz7_2, hfz7_0, hfz7_1, hfz7_2⟩ := blk3 BK151.out) | ((with_reducible refine gate_builtin (b := .append) (xs := #[.const (.slice none 0 0), .tmp 4]) rfl ?_); at_builtin; refine Kd.R_append_rows k32 (w0 := w) w.heap.size rfl (.const (.slice none 0 0)) (.tmp 4) 25 32 (.agg #[(.int .i64 0), (.int .i64 0), (.int .i64 0), (.bool false), (.bool false)]) 32 rfl Try.underlying25 info32 rfl (by decide) (by omega) (.slice none 0 0) ([] : List (S32)) l0_0 _ _ _ (fun _ => True) (fun _ => False) rfl rfl ?aO ?aR (fun _ _ h => h) (fun _ h => h.elim) ?aF ?aB ?aS ?aL ?_; (case aR => first | exact C_mv (Kd.C_below HR0_0.out HB.out) | exact C_mv HR0_0.out); (case aB => exact (by repeat (first | (with_reducible first | exact HB.out | apply bA | apply bN | apply bD | refine below_set ?_ GE151.out | refine below_set ?_ GE152.out) | exact HB.out))); (case aF => exact (fun _ _ => trivial)); (case aO => exact ((Kd.R_nil _ _ _ _ (fun _ => True)))); (case aS => exact (below_size (by repeat (first | (with_reducible first | exact HB.out | apply bA | apply bN | apply bD | refine below_set ?_ GE151.out | refine below_set ?_ GE152.out) | exact HB.out)))); (case aL => have := LMc2.out; omega); intro v154 w8 ho hb hg hat; rw [← Ny153.out] at ho; replace BK151 := aM (blk_grown (blk_mv BK151.out) hg (by simp [Value.ownBlock])); replace BK152 := aM (blk_grown (blk_mv BK152.out) hg (by simp [Value.ownBlock])); replace HB := aM (hb); have HO155 := aM (ho); clear ho hb hg hat; obtain ⟨Ao9, co9, eo9⟩ := Kd.R_slice HO155.out; subst eo9; obtain ⟨hcz10_0, hcz10_1, hcz10_2, hfz10_0, hfz10_1, hfz10_2⟩ := blk3 BK151.out) | ((with_reducible refine gate_builtin (b := .append) (xs := #[.const (.slice none 0 0), .tmp 8]) rfl ?_); at_builtin; refine Kd.R_append_rows (Kd.int .i64) (w0 := w) w.heap.size rfl (.const (.slice none 0 0)) (.tmp 8) 26 3 (.int .i64 0) 8 rfl Try.underlying26 info3 rfl (by decide) (by omega) (.slice none 0 0) ([] : List Int) l0_1 _ _ _ (fun _ => True) (fun _ => False) rfl rfl ?aO ?aR (fun _ _ h => h) (fun _ h => h.elim) ?aF ?aB ?aS ?aL ?_; (case aR => exact Kd.C_below HR0_1.out (by repeat (first | (with_reducible first | exact HB.out | apply bA | apply bN | apply bD | refine below_set ?_ GE151.out | refine below_set ?_ GE152.out) | exact HB.out))); (case aB => exact (by repeat (first | (with_reducible first | exact HB.out | apply bA | apply bN | apply bD | refine below_set ?_ GE151.out | refine below_set ?_ GE152.out) | exact HB.out))); (case aF => exact (fun _ _ => trivial)); (case aO => exact ((Kd.R_nil _ _ _ _ (fun _ => True)))); (case aS => exact (below_size (by repeat (first | (with_reducible first | exact HB.out | apply bA | apply bN | apply bD | refine below_set ?_ GE151.out | refine below_set ?_ GE152.out) | exact HB.out)))); (case aL => have := LMc3.out; omega); intro v157 w11 ho hb hg hat; rw [← Ny156.out] at ho; replace BK152 := aM (blk_grown (g := gb152) (o := .cells #[.slice none 0 0, .slice none 0 0, .int .i64 0] 28 (0, 0)) (by (with_reducible repeat (first | refine kN ?_ _ | refine kD ?_ | refine kA ?_ _)); refine blk_far ?_ NB152_151.out _; (with_reducible repeat (first | refine kN ?_ _ | refine kD ?_ | refine kA ?_ _)); exact BK152.out) hg (by simp [Value.ownBlock])); replace HO155 := aM (Kd.R_grown (by (with_reducible repeat (first | apply Kd.R_alloc | apply Kd.R_drewN | apply Kd.R_drew)); exact (Kd.R_mono (Kd.R_far (p := ⟨gb151, 0, none⟩) (Kd.R_types HO155.out BK151.out (by decide)) (fun _ hk => hk.2) (.slice Ao9 y153.length co9)) (fun _ h_ => h_.1))) hg (fun _ _ => by simp [Value.ownBlock])); replace BK151 := aM (blk_grown (g := gb151) (o := .cells #[.slice Ao9 y153.length co9, .slice A0_1 l0_1.length c0_1, .int .i64 a0_2] 28 (0, 0)) (by (with_reducible repeat (first | refine kN ?_ _ | refine kD ?_ | refine kA ?_ _)); refine blk_put (cs := #[.slice A0_0 l0_0.length c0_0, .slice A0_1 l0_1.length c0_1, .int .i64 a0_2]) ?_ 0 _ rfl; (with_reducible repeat (first | refine kN ?_ _ | refine kD ?_ | refine kA ?_ _)); exact BK151.out) hg (by simp [Value.ownBlock])); replace HB := aM (hb); have HO158 := aM (ho); clear ho hb hg hat; obtain ⟨Ao12, co12, eo12⟩ := Kd.R_slice HO158.out; subst eo12; obtain ⟨hcz13_0, hcz13_1, hcz13_2, hfz13_0, hfz13_1, hfz13_2⟩ := blk3 BK151.out; obtain ⟨hcz14_0, hcz14_1, hcz14_2, hfz14_0, hfz14_1, hfz14_2⟩ := blk3 BK152.out))
  refine bodyPost_ret (results_cell_row rfl _ _ gb152 28 #[.slice Ao9 y153.length co9, .slice Ao12 y156.length co12, .int .i64 a0_2] (0, 0) _ rfl (by (with_reducible repeat (first | refine kN ?_ _ | refine kD ?_ | refine kA ?_ _)); refine blk_put (cs := #[.slice Ao9 y153.length co9, .slice Ao12 y156.length co12, .int .i64 0]) ?_ 2 _ rfl; (with_reducible repeat (first | refine kN ?_ _ | refine kD ?_ | refine kA ?_ _)); refine blk_put (cs := #[.slice Ao9 y153.length co9, .slice none 0 0, .int .i64 0]) ?_ 1 _ rfl; (with_reducible repeat (first | refine kN ?_ _ | refine kD ?_ | refine kA ?_ _)); refine blk_put (cs := #[.slice none 0 0, .slice none 0 0, .int .i64 0]) ?_ 0 _ rfl; (with_reducible repeat (first | refine kN ?_ _ | refine kD ?_ | refine kA ?_ _)); refine blk_far ?_ NB152_151.out _; (with_reducible repeat (first | refine kN ?_ _ | refine kD ?_ | refine kA ?_ _)); exact BK152.out) Try.underlying28 rfl (by kernel_rfl)) rfl ?_
  exact ⟨_, _, by first | rfl | (simp [errW_none, errW_some] <;> rfl) | (simp [*, errW_none, errW_some] <;> rfl), by (with_reducible repeat (first | apply Kd.R_alloc | apply Kd.R_drewN | apply Kd.R_drew)); exact Kd.R_mono (Kd.R_far (p := ⟨gb152, 2, none⟩) (Kd.R_far (p := ⟨gb152, 1, none⟩) (Kd.R_far (p := ⟨gb152, 0, none⟩) (Kd.R_far (p := ⟨gb151, 1, none⟩) (Kd.R_types (Kd.R_types HO155.out BK151.out (by decide)) BK152.out (by decide)) (fun _ hk => hk.1.2) (.slice Ao12 y156.length co12)) (fun _ hk => hk.2) (.slice Ao9 y153.length co9)) (fun _ hk => hk.2) (.slice Ao12 y156.length co12)) (fun _ hk => hk.2) (.int .i64 a0_2)) (fun _ hk => trivial), by (with_reducible repeat (first | apply Kd.R_alloc | apply Kd.R_drewN | apply Kd.R_drew)); exact Kd.R_mono (Kd.R_far (p := ⟨gb152, 2, none⟩) (Kd.R_far (p := ⟨gb152, 1, none⟩) (Kd.R_far (p := ⟨gb152, 0, none⟩) (Kd.R_far (p := ⟨gb151, 1, none⟩) (Kd.R_types (Kd.R_types HO158.out BK151.out (by decide)) BK152.out (by decide)) (fun _ hk => hk.1.2) (.slice Ao12 y156.length co12)) (fun _ hk => hk.2) (.slice Ao9 y153.length co9)) (fun _ hk => hk.2) (.slice Ao12 y156.length co12)) (fun _ hk => hk.2) (.int .i64 a0_2)) (fun _ hk => trivial), by repeat (first | (with_reducible first | exact HB.out | apply bA | apply bN | apply bD | refine below_set ?_ GE151.out | refine below_set ?_ GE152.out) | exact HB.out)⟩

/-! ### feeder_open: function 44 -/
def feeder_open.f (l0_0 : List (S32)) (l0_1 : List Int) (a0_2 : Int) (a1 : Int) (a2 : Int) : Option (Bool × (List (S32))) := if 0 ≤ a1 then (if a1 < (l0_0.length : Int) then (if ((rd_T32 l0_0 a1).f3 = true) then ((some (l0_0.set (a1 : Int).toNat (⟨(rd_T32 l0_0 a1).f0, (rd_T32 l0_0 a1).f1, (rd_T32 l0_0 a1).f2, false, (rd_T32 l0_0 a1).f4⟩ : S32) : List (S32))).bind fun y162 => ((some (y162.set (a1 : Int).toNat (⟨(rd_T32 y162 a1).f0, a2, (rd_T32 y162 a1).f2, (rd_T32 y162 a1).f3, (rd_T32 y162 a1).f4⟩ : S32) : List (S32))).bind fun y163 => ((some (y163.set (a1 : Int).toNat (⟨(rd_T32 y163 a1).f0, (rd_T32 y163 a1).f1, 0, (rd_T32 y163 a1).f3, (rd_T32 y163 a1).f4⟩ : S32) : List (S32))).bind fun y164 => (some (true, (y164.set (a1 : Int).toNat (⟨(rd_T32 y164 a1).f0, (rd_T32 y164 a1).f1, (rd_T32 y164 a1).f2, (rd_T32 y164 a1).f3, false⟩ : S32))))))) else (some (false, l0_0))) else (none)) else (none)
set_option maxHeartbeats 8000000 in
set_option maxRecDepth 100000 in
theorem feeder_open.calls (P0_0_ : Nat → Prop) (u9000_ : Value) (l0_0 : List (S32)) (A0_1 : Option Addr) (c0_1 : Nat) (l0_1 : List Int) (a0_2 : Int) (a1 : Int) (a2 : Int) (r1 : Bool) (r2 : List (S32)) (w0 w : World) (hB : Below w0.heap.size w0 w) (ho0_0 : Kd.R k32 32 w w0.heap.size P0_0_ u9000_ l0_0) (hr0_1 : ∀ W_, Kept w W_ (fun k_ => P0_0_ k_) → Kd.C (Kd.int .i64) W_ A0_1 l0_1.length l0_1) (hc0_1 : l0_1.length ≤ c0_1) (h : feeder_open.f l0_0 l0_1 a0_2 a1 a2 = some (r1, r2)) :
    Calls Try.prog 44 #[.agg #[u9000_, .slice A0_1 l0_1.length c0_1, .int .i64 a0_2], .int .i64 a1, .int .i64 a2] w fun e w' => e = .returned (.bool r1) ∧ Kd.R k32 32 w' w0.heap.size (fun k_ => (P0_0_ k_ ∨ w.heap.size ≤ k_)) u9000_ r2 ∧ Below w0.heap.size w0 w' ∧ Kept w w' (fun k_ => P0_0_ k_) := by
  have hu28 := Try.underlying28
  have HO0_0 := aM (show Kd.R k32 32 w w0.heap.size (fun k_ => (P0_0_ k_ ∨ w.heap.size ≤ k_)) u9000_ l0_0 from Kd.R_mono ho0_0 (fun k_ hk => (.inl hk)))
  have HR0_1 := aM hr0_1
  have HC0_1 := aM hc0_1
  clear hr0_1 hc0_1
  have HK := aM (Kept.refl w (fun k_ => P0_0_ k_))
  have HW0 := aM hB.size
  have HB := aM hB
  clear hB
  have H : (if 0 ≤ a1 then (if a1 < (l0_0.length : Int) then (if ((rd_T32 l0_0 a1).f3 = true) then ((some (l0_0.set (a1 : Int).toNat (⟨(rd_T32 l0_0 a1).f0, (rd_T32 l0_0 a1).f1, (rd_T32 l0_0 a1).f2, false, (rd_T32 l0_0 a1).f4⟩ : S32) : List (S32))).bind fun y162 => ((some (y162.set (a1 : Int).toNat (⟨(rd_T32 y162 a1).f0, a2, (rd_T32 y162 a1).f2, (rd_T32 y162 a1).f3, (rd_T32 y162 a1).f4⟩ : S32) : List (S32))).bind fun y163 => ((some (y163.set (a1 : Int).toNat (⟨(rd_T32 y163 a1).f0, (rd_T32 y163 a1).f1, 0, (rd_T32 y163 a1).f3, (rd_T32 y163 a1).f4⟩ : S32) : List (S32))).bind fun y164 => (some (true, (y164.set (a1 : Int).toNat (⟨(rd_T32 y164 a1).f0, (rd_T32 y164 a1).f1, (rd_T32 y164 a1).f2, (rd_T32 y164 a1).f3, false⟩ : S32))))))) else (some (false, l0_0))) else (none)) else (none)) = some (r1, r2) := h
  clear h
  by_cases c4 : 0 ≤ a1
  rotate_left
  · rw [if_neg c4] at H
    exact absurd H (by simp)
  rw [if_pos c4] at H
  have c4b0 : decide (0 ≤ a1) = true := decide_eq_true c4
  clear c4
  by_cases c5 : a1 < (l0_0.length : Int)
  rotate_left
  · rw [if_neg c5] at H
    exact absurd H (by simp)
  rw [if_pos c5] at H
  have c5b0 : decide (a1 < (l0_0.length : Int)) = true := decide_eq_true c5
  clear c5
  obtain ⟨bq6, hbq6⟩ : ∃ b_ : Bool, b_ = ((rd_T32 l0_0 a1).f3) := ⟨_, rfl⟩
  replace H : (if (bq6 = true) then ((some (l0_0.set (a1 : Int).toNat (⟨(rd_T32 l0_0 a1).f0, (rd_T32 l0_0 a1).f1, (rd_T32 l0_0 a1).f2, false, (rd_T32 l0_0 a1).f4⟩ : S32) : List (S32))).bind fun y162 => ((some (y162.set (a1 : Int).toNat (⟨(rd_T32 y162 a1).f0, a2, (rd_T32 y162 a1).f2, (rd_T32 y162 a1).f3, (rd_T32 y162 a1).f4⟩ : S32) : List (S32))).bind fun y163 => ((some (y163.set (a1 : Int).toNat (⟨(rd_T32 y163 a1).f0, (rd_T32 y163 a1).f1, 0, (rd_T32 y163 a1).f3, (rd_T32 y163 a1).f4⟩ : S32) : List (S32))).bind fun y164 => (some (true, (y164.set (a1 : Int).toNat (⟨(rd_T32 y164 a1).f0, (rd_T32 y164 a1).f1, (rd_T32 y164 a1).f2, (rd_T32 y164 a1).f3, false⟩ : S32))))))) else (some (false, l0_0))) = some (r1, r2) := by rw [← hbq6] at H; exact H
  have Nbq6 := aM hbq6
  clear hbq6
  by_cases c7 : (bq6 = true)
  · subst c7
    have H1 : ((some (l0_0.set (a1 : Int).toNat (⟨(rd_T32 l0_0 a1).f0, (rd_T32 l0_0 a1).f1, (rd_T32 l0_0 a1).f2, false, (rd_T32 l0_0 a1).f4⟩ : S32) : List (S32))).bind fun y162 => ((some (y162.set (a1 : Int).toNat (⟨(rd_T32 y162 a1).f0, a2, (rd_T32 y162 a1).f2, (rd_T32 y162 a1).f3, (rd_T32 y162 a1).f4⟩ : S32) : List (S32))).bind fun y163 => ((some (y163.set (a1 : Int).toNat (⟨(rd_T32 y163 a1).f0, (rd_T32 y163 a1).f1, 0, (rd_T32 y163 a1).f3, (rd_T32 y163 a1).f4⟩ : S32) : List (S32))).bind fun y164 => (some (true, (y164.set (a1 : Int).toNat (⟨(rd_T32 y164 a1).f0, (rd_T32 y164 a1).f1, (rd_T32 y164 a1).f2, (rd_T32 y164 a1).f3, false⟩ : S32))))))) = some (r1, r2) := by rw [if_pos rfl] at H; exact H
    clear H
    have H := H1
    clear H1
    obtain ⟨y162, hy162⟩ : ∃ y_ : List (S32), y_ = (l0_0.set (a1 : Int).toNat (⟨(rd_T32 l0_0 a1).f0, (rd_T32 l0_0 a1).f1, (rd_T32 l0_0 a1).f2, false, (rd_T32 l0_0 a1).f4⟩ : S32)) := ⟨_, rfl⟩
    replace H : ((some (y162.set (a1 : Int).toNat (⟨(rd_T32 y162 a1).f0, a2, (rd_T32 y162 a1).f2, (rd_T32 y162 a1).f3, (rd_T32 y162 a1).f4⟩ : S32) : List (S32))).bind fun y163 => ((some (y163.set (a1 : Int).toNat (⟨(rd_T32 y163 a1).f0, (rd_T32 y163 a1).f1, 0, (rd_T32 y163 a1).f3, (rd_T32 y163 a1).f4⟩ : S32) : List (S32))).bind fun y164 => (some (true, (y164.set (a1 : Int).toNat (⟨(rd_T32 y164 a1).f0, (rd_T32 y164 a1).f1, (rd_T32 y164 a1).f2, (rd_T32 y164 a1).f3, false⟩ : S32)))))) = some (r1, r2) := by first | (rw [hy162]; with_reducible exact H) | (have H2_ := (Option.bind_some _ _).symm.trans H; rw [hy162]; with_reducible exact H2_) | (have H2_ := (Option.bind_some _ _).symm.trans H; with_reducible exact H2_) | with_reducible exact H | (rw [hy162]; exact H) | exact H
    have Ny162 := aM hy162
    clear hy162
    obtain ⟨y163, hy163⟩ : ∃ y_ : List (S32), y_ = (y162.set (a1 : Int).toNat (⟨(rd_T32 y162 a1).f0, a2, (rd_T32 y162 a1).f2, (rd_T32 y162 a1).f3, (rd_T32 y162 a1).f4⟩ : S32)) := ⟨_, rfl⟩
    replace H : ((some (y163.set (a1 : Int).toNat (⟨(rd_T32 y163 a1).f0, (rd_T32 y163 a1).f1, 0, (rd_T32 y163 a1).f3, (rd_T32 y163 a1).f4⟩ : S32) : List (S32))).bind fun y164 => (some (true, (y164.set (a1 : Int).toNat (⟨(rd_T32 y164 a1).f0, (rd_T32 y164 a1).f1, (rd_T32 y164 a1).f2, (rd_T32 y164 a1).f3, false⟩ : S32))))) = some (r1, r2) := by first | (rw [hy163]; with_reducible exact H) | (have H2_ := (Option.bind_some _ _).symm.trans H; rw [hy163]; with_reducible exact H2_) | (have H2_ := (Option.bind_some _ _).symm.trans H; with_reducible exact H2_) | with_reducible exact H | (rw [hy163]; exact H) | exact H
    have Ny163 := aM hy163
    clear hy163
    obtain ⟨y164, hy164⟩ : ∃ y_ : List (S32), y_ = (y163.set (a1 : Int).toNat (⟨(rd_T32 y163 a1).f0, (rd_T32 y163 a1).f1, 0, (rd_T32 y163 a1).f3, (rd_T32 y163 a1).f4⟩ : S32)) := ⟨_, rfl⟩
    replace H : (some (true, (y164.set (a1 : Int).toNat (⟨(rd_T32 y164 a1).f0, (rd_T32 y164 a1).f1, (rd_T32 y164 a1).f2, (rd_T32 y164 a1).f3, false⟩ : S32)))) = some (r1, r2) := by first | (rw [hy164]; with_reducible exact H) | (have H2_ := (Option.bind_some _ _).symm.trans H; rw [hy164]; with_reducible exact H2_) | (have H2_ := (Option.bind_some _ _).symm.trans H; with_reducible exact H2_) | with_reducible exact H | (rw [hy164]; exact H) | exact H
    have Ny164 := aM hy164
    clear hy164
    obtain ⟨y165, hy165⟩ : ∃ y_ : List (S32), y_ = (y164.set (a1 : Int).toNat (⟨(rd_T32 y164 a1).f0, (rd_T32 y164 a1).f1, (rd_T32 y164 a1).f2, (rd_T32 y164 a1).f3, false⟩ : S32)) := ⟨_, rfl⟩
    replace H : (some (true, y165)) = some (r1, r2) := by first | (rw [hy165]; with_reducible exact H) | (have H2_ := (Option.bind_some _ _).symm.trans H; rw [hy165]; with_reducible exact H2_) | (have H2_ := (Option.bind_some _ _).symm.trans H; with_reducible exact H2_) | with_reducible exact H | (rw [hy165]; exact H) | exact H
    have Ny165 := aM hy165
    clear hy165
    simp only [Option.some.injEq, Prod.mk.injEq] at H
    obtain ⟨rfl, rfl⟩ := H
    obtain ⟨Ao12, co12, eo12⟩ := Kd.R_slice HO0_0.out
    subst eo12
    go_enter Try.func44, Try.ntmps44
    go_wp2_with (first | ((with_reducible refine gate_dst (N := 3) rfl ?_); refine box_event ?hg (N := 3) ?hd (cs := #[.slice Ao12 l0_0.length co12, .slice A0_1 l0_1.length c0_1, .int .i64 a0_2]) (t := 28) ?hr ?_; (case hd => rfl); (case hg => rfl); (case hr => first | (go_simp; done) | (go_simp; rfl)); intro gb159 hg w13 hbox hb; replace HO0_0 := aM (Kd.R_below (R_mv HO0_0.out) hb); have BK159 := aM (hbox); have GW159 := aM ((by rw [hg]; exact (by first | exact HK.out.1 | exact (show Kept w _ (fun k_ => P0_0_ k_) from by repeat (first | (with_reducible first | exact HK.out | apply Kept.alloc | apply Kept.drewN | apply Kept.drew) | exact HK.out)).1) : w.heap.size ≤ gb159)); replace HK := aM (Kept.below (S := (fun k_ => P0_0_ k_)) (by repeat (first | (with_reducible first | exact HK.out | apply Kept.alloc | apply Kept.drewN | apply Kept.drew) | exact HK.out)) hb); have GE159 := aM ((by rw [hg]; exact (below_size (below_mv HB.out)) : w0.heap.size ≤ gb159)); replace HB := aM (below_step (below_mv HB.out) hb); clear hb hbox hg; obtain ⟨hcz14_0, hcz14_1, hcz14_2, hfz14_0, hfz14_1, hfz14_2⟩ := blk3 BK159.out; have p160 : 0 ≤ (a1 : Int) := of_decide_eq_true (by first | (with_reducible assumption) | assumption); have q160 : a1 < (l0_0.length : Int) := of_decide_eq_true (by first | (with_reducible assumption) | assumption); obtain ⟨ad160, e160, hx160_0, hx160_1, hx160_2, hx160_3, hx160_4⟩ := at_T32 (Kd.R_reads' HO0_0.out).2.2 a1 p160 q160; (try rw [← Nbq6.out] at hx160_3); (try rw [← Nbq6.out] at hx160_4); cases e160; replace p160 := eq_true p160; replace q160 := eq_true q160; have p161 : 0 ≤ (a1 : Int) := of_decide_eq_true (by first | (with_reducible assumption) | assumption); have q161 : a1 < (l0_0.length : Int) := of_decide_eq_true (by first | (with_reducible assumption) | assumption); obtain ⟨ad161, e161, hx161_0, hx161_1, hx161_2, hx161_3, hx161_4⟩ := at_T32 (Kd.R_reads' HO0_0.out).2.2 a1 p161 q161; (try rw [← Nbq6.out] at hx161_3); (try rw [← Nbq6.out] at hx161_4); obtain rfl : ad160 = ad161 := (by injection e161); replace p161 := eq_true p161; replace q161 := eq_true q161; have p8 : 0 ≤ (a1 : Int) := of_decide_eq_true (by first | (with_reducible assumption) | assumption); have q8 : (a1 : Int) < ((l0_0.length : Int) : Int) := of_decide_eq_true (by first | (with_reducible assumption) | assumption); obtain ⟨go8, co8, eo8, gb8, gl8, cl8, HG8⟩ := Kd.R_form HO0_0.out (by omega); (first | cases eo8 | (injection eo8 with ea_ en_ ec_; (first | subst ea_ | (injection ea_ with ea_; subst ea_)); subst ec_; clear en_)); have GB8 := aM gb8; have GG8 := aM HG8; clear gb8 gl8 HG8; have HMgo8 := aM (show (P0_0_ go8 ∨ w.heap.size ≤ go8) from (HO0_0.out.1 _ rfl)); (first | simp only [add_plain] at hx160_0 | skip); (first | simp only [add_plain] at hx160_1 | skip); (first | simp only [add_plain] at hx160_2 | skip); (first | simp only [add_plain] at hx160_3 | skip); (first | simp only [add_plain] at hx160_4 | skip); (first | simp only [add_plain] at hx161_0 | skip); (first | simp only [add_plain] at hx161_1 | skip); (first | simp only [add_plain] at hx161_2 | skip); (first | simp only [add_plain] at hx161_3 | skip); (first | simp only [add_plain] at hx161_4 | skip); obtain ⟨ce8, hcl8, hM8, hcc8, hfr8⟩ := Kd.R_elem HO0_0.out z32 (a1 : Int) p8 q8; obtain rfl := k32_openM hM8; have hx8_0 : w13.cell? ⟨go8, (a1 : Int).toNat * 5, none⟩ = some (.int .i64 ((rd_T32 l0_0 a1).f0)) := hcc8 0 _ rfl; have hx8_1 : w13.cell? ⟨go8, (a1 : Int).toNat * 5 + 1, none⟩ = some (.int .i64 ((rd_T32 l0_0 a1).f1)) := hcc8 1 _ rfl; have hx8_2 : w13.cell? ⟨go8, (a1 : Int).toNat * 5 + 2, none⟩ = some (.int .i64 ((rd_T32 l0_0 a1).f2)) := hcc8 2 _ rfl; have hx8_3 : w13.cell? ⟨go8, (a1 : Int).toNat * 5 + 3, none⟩ = some (.bool ((rd_T32 l0_0 a1).f3)) := hcc8 3 _ rfl; have hx8_4 : w13.cell? ⟨go8, (a1 : Int).toNat * 5 + 4, none⟩ = some (.bool ((rd_T32 l0_0 a1).f4)) := hcc8 4 _ rfl; have hf8_0 : w13.frozen? ⟨go8, (a1 : Int).toNat * 5, none⟩ = false := hfr8 0; have hf8_1 : w13.frozen? ⟨go8, (a1 : Int).toNat * 5 + 1, none⟩ = false := hfr8 1; have hf8_2 : w13.frozen? ⟨go8, (a1 : Int).toNat * 5 + 2, none⟩ = false := hfr8 2; have hf8_3 : w13.frozen? ⟨go8, (a1 : Int).toNat * 5 + 3, none⟩ = false := hfr8 3; have hf8_4 : w13.frozen? ⟨go8, (a1 : Int).toNat * 5 + 4, none⟩ = false := hfr8 4; clear hcl8 hcc8 hfr8 hM8; replace p8 := eq_true p8; replace q8 := eq_true q8; have HX15 := aM (show Kd.R k32 32 w13 w0.heap.size (fun k_ => (P0_0_ k_ ∨ w.heap.size ≤ k_)) (.slice (some ⟨go8, 0, none⟩) l0_0.length co12) l0_0 from (R_mv HO0_0.out)); obtain ⟨ce15, hcl15, hM15, hcc15, hfr15⟩ := Kd.R_elem HX15.out z32 (a1 : Int) (of_decide_eq_true (by first | (with_reducible assumption) | assumption)) (by have h_ : (a1 : Int) < ((l0_0.length : Int) : Int) := of_decide_eq_true (by first | (with_reducible assumption) | assumption); first | exact h_ | (have e_ := (Kd.R_reads' HO0_0.out).1; omega) | simpa using h_); obtain rfl := k32_openM hM15; have HP15 := Kd.R_seg HX15.out (a1 : Int) (of_decide_eq_true (by first | (with_reducible assumption) | assumption)) (by have h_ : (a1 : Int) < ((l0_0.length : Int) : Int) := of_decide_eq_true (by first | (with_reducible assumption) | assumption); first | exact h_ | (have e_ := (Kd.R_reads' HO0_0.out).1; omega) | simpa using h_) (seg := [.bool false]) (j := 3) hcl15 hcc15 (show 4 ≤ 5 from by decide) (x' := (⟨(rd_T32 l0_0 a1).f0, (rd_T32 l0_0 a1).f1, (rd_T32 l0_0 a1).f2, false, (rd_T32 l0_0 a1).f4⟩ : S32)) (k32_mkM _ _ _ (⟨(rd_T32 l0_0 a1).f0, (rd_T32 l0_0 a1).f1, (rd_T32 l0_0 a1).f2, false, (rd_T32 l0_0 a1).f4⟩ : S32) ) (fun _ hk => hk); have hx15_3 := hcc15 3 _ rfl; (try simp only [show (k32).sz = 5 from rfl, Nat.mul_one, Nat.add_zero] at hx15_3); have hf15_3 := hfr15 3; (try simp only [show (k32).sz = 5 from rfl, Nat.mul_one, Nat.add_zero] at hf15_3); clear hcl15 hcc15 hfr15 hM15) | ((with_reducible refine gate_store (t := 4) (p := 23) rfl ?_); refine store_event (t := 4) (p := 23) (v := ?vo_w16) (w1 := (w13.setCell ⟨go8, (a1 : Int).toNat * 5 + 3, none⟩ (.bool false))) ?hg ?ho ?hn ?hr ?_; (case ho => rfl); (case hg => rfl); (case hn => rfl); (case hr => first | (go_simp; done) | (go_simp; rfl)); intro w16 hw; have hg : w13.grownBy w16 (some go8) := (by rw [hw]; exact HP15.2); have hp_ : Kd.R k32 32 w16 w0.heap.size (fun k_ => (P0_0_ k_ ∨ w.heap.size ≤ k_)) (.slice (some ⟨go8, 0, none⟩) l0_0.length co12) y162 := (by rw [hw, Ny162.out]; exact HP15.1); clear HP15; replace BK159 := aM (blk_grown (blk_mv BK159.out) hg (Kd.R_ne HO0_0.out BK159.out (by decide))); replace HB := aM ((by rw [hw]; exact below_set (HB.out) GB8.out : Below w0.heap.size w0 w16)); replace HK := aM (Kept.of_grown (S := (fun k_ => P0_0_ k_)) hg (by repeat (first | (with_reducible first | exact HK.out | apply Kept.alloc | apply Kept.drewN | apply Kept.drew | refine Kept.setCell ?_ (.inr GW159.out) _) | exact HK.out)) (fun k_ e_ => (HO0_0.out.1 k_ e_))); replace HO0_0 := aM (hp_); clear hg hw hp_; have p9 : 0 ≤ (a1 : Int) := of_decide_eq_true (by first | (with_reducible assumption) | assumption); have q9 : (a1 : Int) < ((l0_0.length : Int) : Int) := of_decide_eq_true (by first | (with_reducible assumption) | assumption); obtain ⟨ce9, hcl9, hM9, hcc9, hfr9⟩ := Kd.R_elem HO0_0.out z32 (a1 : Int) p9 q9; obtain rfl := k32_openM hM9; have hx9_0 : w16.cell? ⟨go8, (a1 : Int).toNat * 5, none⟩ = some (.int .i64 ((rd_T32 y162 a1).f0)) := hcc9 0 _ rfl; have hx9_1 : w16.cell? ⟨go8, (a1 : Int).toNat * 5 + 1, none⟩ = some (.int .i64 ((rd_T32 y162 a1).f1)) := hcc9 1 _ rfl; have hx9_2 : w16.cell? ⟨go8, (a1 : Int).toNat * 5 + 2, none⟩ = some (.int .i64 ((rd_T32 y162 a1).f2)) := hcc9 2 _ rfl; have hx9_3 : w16.cell? ⟨go8, (a1 : Int).toNat * 5 + 3, none⟩ = some (.bool ((rd_T32 y162 a1).f3)) := hcc9 3 _ rfl; have hx9_4 : w16.cell? ⟨go8, (a1 : Int).toNat * 5 + 4, none⟩ = some (.bool ((rd_T32 y162 a1).f4)) := hcc9 4 _ rfl; have hf9_0 : w16.frozen? ⟨go8, (a1 : Int).toNat * 5, none⟩ = false := hfr9 0; have hf9_1 : w16.frozen? ⟨go8, (a1 : Int).toNat * 5 + 1, none⟩ = false := hfr9 1; have hf9_2 : w16.frozen? ⟨go8, (a1 : Int).toNat * 5 + 2, none⟩ = false := hfr9 2; have hf9_3 : w16.frozen? ⟨go8, (a1 : Int).toNat * 5 + 3, none⟩ = false := hfr9 3; have hf9_4 : w16.frozen? ⟨go8, (a1 : Int).toNat * 5 + 4, none⟩ = false := hfr9 4; clear hcl9 hcc9 hfr9 hM9; replace p9 := eq_true p9; replace q9 := eq_true q9; have HX17 := aM (show Kd.R k32 32 w16 w0.heap.size (fun k_ => (P0_0_ k_ ∨ w.heap.size ≤ k_)) (.slice (some ⟨go8, 0, none⟩) l0_0.length co12) y162 from (R_mv HO0_0.out)); obtain ⟨ce17, hcl17, hM17, hcc17, hfr17⟩ := Kd.R_elem HX17.out z32 (a1 : Int) (of_decide_eq_true (by first | (with_reducible assumption) | assumption)) (by have h_ : (a1 : Int) < ((l0_0.length : Int) : Int) := of_decide_eq_true (by first | (with_reducible assumption) | assumption); first | exact h_ | (have e_ := (Kd.R_reads' HO0_0.out).1; omega) | simpa using h_); obtain rfl := k32_openM hM17; have HP17 := Kd.R_seg HX17.out (a1 : Int) (of_decide_eq_true (by first | (with_reducible assumption) | assumption)) (by have h_ : (a1 : Int) < ((l0_0.length : Int) : Int) := of_decide_eq_true (by first | (with_reducible assumption) | assumption); first | exact h_ | (have e_ := (Kd.R_reads' HO0_0.out).1; omega) | simpa using h_) (seg := [.int .i64 a2]) (j := 1) hcl17 hcc17 (show 2 ≤ 5 from by decide) (x' := (⟨(rd_T32 y162 a1).f0, a2, (rd_T32 y162 a1).f2, (rd_T32 y162 a1).f3, (rd_T32 y162 a1).f4⟩ : S32)) (k32_mkM _ _ _ (⟨(rd_T32 y162 a1).f0, a2, (rd_T32 y162 a1).f2, (rd_T32 y162 a1).f3, (rd_T32 y162 a1).f4⟩ : S32) ) (fun _ hk => hk); have hx17_1 := hcc17 1 _ rfl; (try simp only [show (k32).sz = 5 from rfl, Nat.mul_one, Nat.add_zero] at hx17_1); have hf17_1 := hfr17 1; (try simp only [show (k32).sz = 5 from rfl, Nat.mul_one, Nat.add_zero] at hf17_1); clear hcl17 hcc17 hfr17 hM17) | ((with_reducible refine gate_store (t := 3) (p := 25) rfl ?_); refine store_event (t := 3) (p := 25) (v := ?vo_w18) (w1 := (w16.setCell ⟨go8, (a1 : Int).toNat * 5 + 1, none⟩ (.int .i64 a2))) ?hg ?ho ?hn ?hr ?_; (case ho => rfl); (case hg => rfl); (case hn => rfl); (case hr => first | (go_simp; done) | (go_simp; rfl)); intro w18 hw; have hg : w16.grownBy w18 (some go8) := (by rw [hw]; exact HP17.2); have hp_ : Kd.R k32 32 w18 w0.heap.size (fun k_ => (P0_0_ k_ ∨ w.heap.size ≤ k_)) (.slice (some ⟨go8, 0, none⟩) l0_0.length co12) y163 := (by rw [hw, Ny163.out]; exact HP17.1); clear HP17; replace BK159 := aM (blk_grown (blk_mv BK159.out) hg (Kd.R_ne HO0_0.out BK159.out (by decide))); replace HB := aM ((by rw [hw]; exact below_set (HB.out) GB8.out : Below w0.heap.size w0 w18)); replace HK := aM (Kept.of_grown (S := (fun k_ => P0_0_ k_)) hg (by repeat (first | (with_reducible first | exact HK.out | apply Kept.alloc | apply Kept.drewN | apply Kept.drew | refine Kept.setCell ?_ (.inr GW159.out) _) | exact HK.out)) (fun k_ e_ => (HO0_0.out.1 k_ e_))); replace HO0_0 := aM (hp_); clear hg hw hp_; have p10 : 0 ≤ (a1 : Int) := of_decide_eq_true (by first | (with_reducible assumption) | assumption); have q10 : (a1 : Int) < ((l0_0.length : Int) : Int) := of_decide_eq_true (by first | (with_reducible assumption) | assumption); obtain ⟨ce10, hcl10, hM10, hcc10, hfr10⟩ := Kd.R_elem HO0_0.out z32 (a1 : Int) p10 q10; obtain rfl := k32_openM hM10; have hx10_0 : w18.cell? ⟨go8, (a1 : Int).toNat * 5, none⟩ = some (.int .i64 ((rd_T32 y163 a1).f0)) := hcc10 0 _ rfl; have hx10_1 : w18.cell? ⟨go8, (a1 : Int).toNat * 5 + 1, none⟩ = some (.int .i64 ((rd_T32 y163 a1).f1)) := hcc10 1 _ rfl; have hx10_2 : w18.cell? ⟨go8, (a1 : Int).toNat * 5 + 2, none⟩ = some (.int .i64 ((rd_T32 y163 a1).f2)) := hcc10 2 _ rfl; have hx10_3 : w18.cell? ⟨go8, (a1 : Int).toNat * 5 + 3, none⟩ = some (.bool ((rd_T32 y163 a1).f3)) := hcc10 3 _ rfl; have hx10_4 : w18.cell? ⟨go8, (a1 : Int).toNat * 5 + 4, none⟩ = some (.bool ((rd_T32 y163 a1).f4)) := hcc10 4 _ rfl; have hf10_0 : w18.frozen? ⟨go8, (a1 : Int).toNat * 5, none⟩ = false := hfr10 0; have hf10_1 : w18.frozen? ⟨go8, (a1 : Int).toNat * 5 + 1, none⟩ = false := hfr10 1; have hf10_2 : w18.frozen? ⟨go8, (a1 : Int).toNat * 5 + 2, none⟩ = false := hfr10 2; have hf10_3 : w18.frozen? ⟨go8, (a1 : Int).toNat * 5 + 3, none⟩ = false := hfr10 3; have hf10_4 : w18.frozen? ⟨go8, (a1 : Int).toNat * 5 + 4, none⟩ = false := hfr10 4; clear hcl10 hcc10 hfr10 hM10; replace p10 := eq_true p10; replace q10 := eq_true q10; have HX19 := aM (show Kd.R k32 32 w18 w0.heap.size (fun k_ => (P0_0_ k_ ∨ w.heap.size ≤ k_)) (.slice (some ⟨go8, 0, none⟩) l0_0.length co12) y163 from (R_mv HO0_0.out)); obtain ⟨ce19, hcl19, hM19, hcc19, hfr19⟩ := Kd.R_elem HX19.out z32 (a1 : Int) (of_decide_eq_true (by first | (with_reducible assumption) | assumption)) (by have h_ : (a1 : Int) < ((l0_0.length : Int) : Int) := of_decide_eq_true (by first | (with_reducible assumption) | assumption); first | exact h_ | (have e_ := (Kd.R_reads' HO0_0.out).1; omega) | simpa using h_); obtain rfl := k32_openM hM19; have HP19 := Kd.R_seg HX19.out (a1 : Int) (of_decide_eq_true (by first | (with_reducible assumption) | assumption)) (by have h_ : (a1 : Int) < ((l0_0.length : Int) : Int) := of_decide_eq_true (by first | (with_reducible assumption) | assumption); first | exact h_ | (have e_ := (Kd.R_reads' HO0_0.out).1; omega) | simpa using h_) (seg := [.int .i64 0]) (j := 2) hcl19 hcc19 (show 3 ≤ 5 from by decide) (x' := (⟨(rd_T32 y163 a1).f0, (rd_T32 y163 a1).f1, 0, (rd_T32 y163 a1).f3, (rd_T32 y163 a1).f4⟩ : S32)) (k32_mkM _ _ _ (⟨(rd_T32 y163 a1).f0, (rd_T32 y163 a1).f1, 0, (rd_T32 y163 a1).f3, (rd_T32 y163 a1).f4⟩ : S32) ) (fun _ hk => hk); have hx19_2 := hcc19 2 _ rfl; (try simp only [show (k32).sz = 5 from rfl, Nat.mul_one, Nat.add_zero] at hx19_2); have hf19_2 := hfr19 2; (try simp only [show (k32).sz = 5 from rfl, Nat.mul_one, Nat.add_zero] at hf19_2); clear hcl19 hcc19 hfr19 hM19) | ((with_reducible refine gate_store (t := 3) (p := 27) rfl ?_); refine store_event (t := 3) (p := 27) (v := ?vo_w20) (w1 := (w18.setCell ⟨go8, (a1 : Int).toNat * 5 + 2, none⟩ (.int .i64 0))) ?hg ?ho ?hn ?hr ?_; (case ho => rfl); (case hg => rfl); (case hn => rfl); (case hr => first | (go_simp; done) | (go_simp; rfl)); intro w20 hw; have hg : w18.grownBy w20 (some go8) := (by rw [hw]; exact HP19.2); have hp_ : Kd.R k32 32 w20 w0.heap.size (fun k_ => (P0_0_ k_ ∨ w.heap.size ≤ k_)) (.slice (some ⟨go8, 0, none⟩) l0_0.length co12) y164 := (by rw [hw, Ny164.out]; exact HP19.1); clear HP19; replace BK159 := aM (blk_grown (blk_mv BK159.out) hg (Kd.R_ne HO0_0.out BK159.out (by decide))); replace HB := aM ((by rw [hw]; exact below_set (HB.out) GB8.out : Below w0.heap.size w0 w20)); replace HK := aM (Kept.of_grown (S := (fun k_ => P0_0_ k_)) hg (by repeat (first | (with_reducible first | exact HK.out | apply Kept.alloc | apply Kept.drewN | apply Kept.drew | refine Kept.setCell ?_ (.inr GW159.out) _) | exact HK.out)) (fun k_ e_ => (HO0_0.out.1 k_ e_))); replace HO0_0 := aM (hp_); clear hg hw hp_; have p11 : 0 ≤ (a1 : Int) := of_decide_eq_true (by first | (with_reducible assumption) | assumption); have q11 : (a1 : Int) < ((l0_0.length : Int) : Int) := of_decide_eq_true (by first | (with_reducible assumption) | assumption); obtain ⟨ce11, hcl11, hM11, hcc11, hfr11⟩ := Kd.R_elem HO0_0.out z32 (a1 : Int) p11 q11; obtain rfl := k32_openM hM11; have hx11_0 : w20.cell? ⟨go8, (a1 : Int).toNat * 5, none⟩ = some (.int .i64 ((rd_T32 y164 a1).f0)) := hcc11 0 _ rfl; have hx11_1 : w20.cell? ⟨go8, (a1 : Int).toNat * 5 + 1, none⟩ = some (.int .i64 ((rd_T32 y164 a1).f1)) := hcc11 1 _ rfl; have hx11_2 : w20.cell? ⟨go8, (a1 : Int).toNat * 5 + 2, none⟩ = some (.int .i64 ((rd_T32 y164 a1).f2)) := hcc11 2 _ rfl; have hx11_3 : w20.cell? ⟨go8, (a1 : Int).toNat * 5 + 3, none⟩ = some (.bool ((rd_T32 y164 a1).f3)) := hcc11 3 _ rfl; have hx11_4 : w20.cell? ⟨go8, (a1 : Int).toNat * 5 + 4, none⟩ = some (.bool ((rd_T32 y164 a1).f4)) := hcc11 4 _ rfl; have hf11_0 : w20.frozen? ⟨go8, (a1 : Int).toNat * 5, none⟩ = false := hfr11 0; have hf11_1 : w20.frozen? ⟨go8, (a1 : Int).toNat * 5 + 1, none⟩ = false := hfr11 1; have hf11_2 : w20.frozen? ⟨go8, (a1 : Int).toNat * 5 + 2, none⟩ = false := hfr11 2; have hf11_3 : w20.frozen? ⟨go8, (a1 : Int).toNat * 5 + 3, none⟩ = false := hfr11 3; have hf11_4 : w20.frozen? ⟨go8, (a1 : Int).toNat * 5 + 4, none⟩ = false := hfr11 4; clear hcl11 hcc11 hfr11 hM11; replace p11 := eq_true p11; replace q11 := eq_true q11; have HX21 := aM (show Kd.R k32 32 w20 w0.heap.size (fun k_ => (P0_0_ k_ ∨ w.heap.size ≤ k_)) (.slice (some ⟨go8, 0, none⟩) l0_0.length co12) y164 from (R_mv HO0_0.out)); obtain ⟨ce21, hcl21, hM21, hcc21, hfr21⟩ := Kd.R_elem HX21.out z32 (a1 : Int) (of_decide_eq_true (by first | (with_reducible assumption) | assumption)) (by have h_ : (a1 : Int) < ((l0_0.length : Int) : Int) := of_decide_eq_true (by first | (with_reducible assumption) | assumption); first | exact h_ | (have e_ := (Kd.R_reads' HO0_0.out).1; omega) | simpa using h_); obtain rfl := k32_openM hM21; have HP21 := Kd.R_seg HX21.out (a1 : Int) (of_decide_eq_true (by first | (with_reducible assumption) | assumption)) (by have h_ : (a1 : Int) < ((l0_0.length : Int) : Int) := of_decide_eq_true (by first | (with_reducible assumption) | assumption); first | exact h_ | (have e_ := (Kd.R_reads' HO0_0.out).1; omega) | simpa using h_) (seg := [.bool false]) (j := 4) hcl21 hcc21 (show 5 ≤ 5 from by decide) (x' := (⟨(rd_T32 y164 a1).f0, (rd_T32 y164 a1).f1, (rd_T32 y164 a1).f2, (rd_T32 y164 a1).f3, false⟩ : S32)) (k32_mkM _ _ _ (⟨(rd_T32 y164 a1).f0, (rd_T32 y164 a1).f1, (rd_T32 y164 a1).f2, (rd_T32 y164 a1).f3, false⟩ : S32) ) (fun _ hk => hk); have hx21_4 := hcc21 4 _ rfl; (try simp only [show (k32).sz = 5 from rfl, Nat.mul_one, Nat.add_zero] at hx21_4); have hf21_4 := hfr21 4; (try simp only [show (k32).sz = 5 from rfl, Nat.mul_one, Nat.add_zero] at hf21_4); clear hcl21 hcc21 hfr21 hM21) | ((with_reducible refine gate_store (t := 4) (p := 29) rfl ?_); refine store_event (t := 4) (p := 29) (v := ?vo_w22) (w1 := (w20.setCell ⟨go8, (a1 : Int).toNat * 5 + 4, none⟩ (.bool false))) ?hg ?ho ?hn ?hr ?_; (case ho => rfl); (case hg => rfl); (case hn => rfl); (case hr => first | (go_simp; done) | (go_simp; rfl)); intro w22 hw; have hg : w20.grownBy w22 (some go8) := (by rw [hw]; exact HP21.2); have hp_ : Kd.R k32 32 w22 w0.heap.size (fun k_ => (P0_0_ k_ ∨ w.heap.size ≤ k_)) (.slice (some ⟨go8, 0, none⟩) l0_0.length co12) y165 := (by rw [hw, Ny165.out]; exact HP21.1); clear HP21; replace BK159 := aM (blk_grown (blk_mv BK159.out) hg (Kd.R_ne HO0_0.out BK159.out (by decide))); replace HB := aM ((by rw [hw]; exact below_set (HB.out) GB8.out : Below w0.heap.size w0 w22)); replace HK := aM (Kept.of_grown (S := (fun k_ => P0_0_ k_)) hg (by repeat (first | (with_reducible first | exact HK.out | apply Kept.alloc | apply Kept.drewN | apply Kept.drew | refine Kept.setCell ?_ (.inr GW159.out) _) | exact HK.out)) (fun k_ e_ => (HO0_0.out.1 k_ e_))); replace HO0_0 := aM (hp_); clear hg hw hp_))
    go_ret
    exact ⟨by first | rfl | (simp [errW_none, errW_some] <;> rfl) | (simp [*, errW_none, errW_some] <;> rfl), by (with_reducible repeat (first | apply Kd.R_alloc | apply Kd.R_drewN | apply Kd.R_drew)); exact HO0_0.out, by repeat (first | (with_reducible first | exact HB.out | apply bA | apply bN | apply bD | refine below_set ?_ GE159.out) | exact HB.out), by repeat (first | (with_reducible first | exact HK.out | apply Kept.alloc | apply Kept.drewN | apply Kept.drew | refine Kept.setCell ?_ (.inr GW159.out) _) | exact HK.out)⟩
  · replace c7 := Bool.eq_false_iff.mpr c7
    subst c7
    have H1 : (some (false, l0_0)) = some (r1, r2) := by rw [if_neg (show ¬ (false = true) by decide)] at H; exact H
    clear H
    have H := H1
    clear H1
    simp only [Option.some.injEq, Prod.mk.injEq] at H
    obtain ⟨rfl, rfl⟩ := H
    obtain ⟨Ao23, co23, eo23⟩ := Kd.R_slice HO0_0.out
    subst eo23
    go_enter Try.func44, Try.ntmps44
    go_wp2_with (first | ((with_reducible refine gate_dst (N := 3) rfl ?_); refine box_event ?hg (N := 3) ?hd (cs := #[.slice Ao23 l0_0.length co23, .slice A0_1 l0_1.length c0_1, .int .i64 a0_2]) (t := 28) ?hr ?_; (case hd => rfl); (case hg => rfl); (case hr => first | (go_simp; done) | (go_simp; rfl)); intro gb159 hg w24 hbox hb; replace HO0_0 := aM (Kd.R_below (R_mv HO0_0.out) hb); have BK159 := aM (hbox); have GW159 := aM ((by rw [hg]; exact (by first | exact HK.out.1 | exact (show Kept w _ (fun k_ => P0_0_ k_) from by repeat (first | (with_reducible first | exact HK.out | apply Kept.alloc | apply Kept.drewN | apply Kept.drew) | exact HK.out)).1) : w.heap.size ≤ gb159)); replace HK := aM (Kept.below (S := (fun k_ => P0_0_ k_)) (by repeat (first | (with_reducible first | exact HK.out | apply Kept.alloc | apply Kept.drewN | apply Kept.drew) | exact HK.out)) hb); have GE159 := aM ((by rw [hg]; exact (below_size (below_mv HB.out)) : w0.heap.size ≤ gb159)); replace HB := aM (below_step (below_mv HB.out) hb); clear hb hbox hg; obtain ⟨hcz25_0, hcz25_1, hcz25_2, hfz25_0, hfz25_1, hfz25_2⟩ := blk3 BK159.out; have p160 : 0 ≤ (a1 : Int) := of_decide_eq_true (by first | (with_reducible assumption) | assumption); have q160 : a1 < (l0_0.length : Int) := of_decide_eq_true (by first | (with_reducible assumption) | assumption); obtain ⟨ad160, e160, hx160_0, hx160_1, hx160_2, hx160_3, hx160_4⟩ := at_T32 (Kd.R_reads' HO0_0.out).2.2 a1 p160 q160; (try rw [← Nbq6.out] at hx160_3); (try rw [← Nbq6.out] at hx160_4); cases e160; replace p160 := eq_true p160; replace q160 := eq_true q160; have p161 : 0 ≤ (a1 : Int) := of_decide_eq_true (by first | (with_reducible assumption) | assumption); have q161 : a1 < (l0_0.length : Int) := of_decide_eq_true (by first | (with_reducible assumption) | assumption); obtain ⟨ad161, e161, hx161_0, hx161_1, hx161_2, hx161_3, hx161_4⟩ := at_T32 (Kd.R_reads' HO0_0.out).2.2 a1 p161 q161; (try rw [← Nbq6.out] at hx161_3); (try rw [← Nbq6.out] at hx161_4); obtain rfl : ad160 = ad161 := (by injection e161); replace p161 := eq_true p161; replace q161 := eq_true q161))
    go_ret
    exact ⟨by first | rfl | (simp [errW_none, errW_some] <;> rfl) | (simp [*, errW_none, errW_some] <;> rfl), by (with_reducible repeat (first | apply Kd.R_alloc | apply Kd.R_drewN | apply Kd.R_drew)); exact HO0_0.out, by repeat (first | (with_reducible first | exact HB.out | apply bA | apply bN | apply bD | refine below_set ?_ GE159.out) | exact HB.out), by repeat (first | (with_reducible first | exact HK.out | apply Kept.alloc | apply Kept.drewN | apply Kept.drew | refine Kept.setCell ?_ (.inr GW159.out) _) | exact HK.out)⟩

/-! ### feeder_Open: function 14 -/
def feeder_Open.f (k : Nat) (l0_0 : List (S32)) (l0_1 : List Int) (a0_2 : Int) (a1 : Int) (a2 : Int) : Option ((List (S32)) × List Int × Int × Int) := (feeder_can.f k l0_0 l0_1 a0_2 a1 a2).bind fun t168 => (if t168 = 0 then ((feeder_clone.f l0_0 l0_1 a0_2).bind fun bt169 => ((feeder_open.f bt169.1 bt169.2.1 bt169.2.2 a1 a2).bind fun bt177 => (some (bt177.2, bt169.2.1, bt169.2.2, 0)))) else (some (([] : List (S32)), ([] : List Int), 0, t168)))
theorem feeder_Open.mono : ∀ a0 a1 a2 a3 a4 k, LeO (feeder_Open.f k a0 a1 a2 a3 a4) (feeder_Open.f (k + 1) a0 a1 a2 a3 a4) := by
  intro a0 a1 a2 a3 a4 k
  unfold feeder_Open.f
  repeat' first
      | (with_reducible exact feeder_can.mono _ _ _ _ _ _)
      | (with_reducible exact LeO.refl _)
      | (with_reducible exact LeO.none _)
      | (with_reducible refine LeO.ite ?_ ?_)
      | (with_reducible refine LeO.bind ?_ (fun _ => ?_))
      | exact LeO.none _
      | refine LeO.ite ?_ ?_
      | refine LeO.bind ?_ (fun _ => ?_)
set_option maxHeartbeats 8000000 in
set_option maxRecDepth 100000 in
theorem feeder_Open.calls (k : Nat) (A0_0 : Option Addr) (c0_0 : Nat) (l0_0 : List (S32)) (A0_1 : Option Addr) (c0_1 : Nat) (l0_1 : List Int) (a0_2 : Int) (a1 : Int) (a2 : Int) (r1 : List (S32)) (r2 : List Int) (r3 : Int) (r4 : Int) (w : World) (hr0_0 : Kd.C k32 w A0_0 l0_0.length l0_0) (hc0_0 : l0_0.length ≤ c0_0) (hr0_1 : Kd.C (Kd.int .i64) w A0_1 l0_1.length l0_1) (hc0_1 : l0_1.length ≤ c0_1) (h : feeder_Open.f k l0_0 l0_1 a0_2 a1 a2 = some (r1, r2, r3, r4)) :
    Calls Try.prog 14 #[.agg #[.slice A0_0 l0_0.length c0_0, .slice A0_1 l0_1.length c0_1, .int .i64 a0_2], .int .i64 a1, .int .i64 a2] w fun e w' => ∃ v0_ v1_ : Value, e = .returned (.tuple #[.agg #[v0_, v1_, .int .i64 r3], .int .i64 r4]) ∧ Kd.R k32 32 w' w.heap.size (fun _ => True) v0_ r1 ∧ Kd.R (Kd.int .i64) 3 w' w.heap.size (fun _ => True) v1_ r2 ∧ Below w.heap.size w w' := by
  have hu28 := Try.underlying28
  have HR0_0 := aM hr0_0
  have HC0_0 := aM hc0_0
  clear hr0_0 hc0_0
  have HR0_1 := aM hr0_1
  have HC0_1 := aM hc0_1
  clear hr0_1 hc0_1
  have HB := aM (Below.refl w.heap.size w)
  have H : ((feeder_can.f k l0_0 l0_1 a0_2 a1 a2).bind fun t168 => (if t168 = 0 then ((feeder_clone.f l0_0 l0_1 a0_2).bind fun bt169 => ((feeder_open.f bt169.1 bt169.2.1 bt169.2.2 a1 a2).bind fun bt177 => (some (bt177.2, bt169.2.1, bt169.2.2, 0)))) else (some (([] : List (S32)), ([] : List Int), 0, t168)))) = some (r1, r2, r3, r4) := h
  clear h
  replace H := Option.bind_eq_some_iff.mp H
  obtain ⟨t168, A40, H⟩ := H
  replace H : (if t168 = 0 then ((feeder_clone.f l0_0 l0_1 a0_2).bind fun bt169 => ((feeder_open.f bt169.1 bt169.2.1 bt169.2.2 a1 a2).bind fun bt177 => (some (bt177.2, bt169.2.1, bt169.2.2, 0)))) else (some (([] : List (S32)), ([] : List Int), 0, t168))) = some (r1, r2, r3, r4) := H
  have A4 := aM A40
  clear A40
  by_cases c5 : t168 = 0
  · rw [if_pos c5] at H
    have c5b0 : (t168 == 0) = true := beq_iff_eq.mpr c5
    have c5b1 : (t168 != 0) = false := bne_eq_false_iff_eq.mpr c5
    clear c5
    replace H := Option.bind_eq_some_iff.mp H
    obtain ⟨⟨t169, t172, t175⟩, A60, H⟩ := H
    replace H : ((feeder_open.f t169 t172 t175 a1 a2).bind fun bt177 => (some (bt177.2, t172, t175, 0))) = some (r1, r2, r3, r4) := H
    have A6 := aM A60
    clear A60
    replace H := Option.bind_eq_some_iff.mp H
    obtain ⟨⟨t177, t178⟩, A70, H⟩ := H
    replace H : (some (t178, t172, t175, 0)) = some (r1, r2, r3, r4) := H
    have A7 := aM A70
    clear A70
    simp only [Option.some.injEq, Prod.mk.injEq] at H
    obtain ⟨rfl, rfl, rfl, rfl⟩ := H
    go_enter Try.func14, Try.ntmps14
    go_wp2_with (first | ((with_reducible refine gate_dst (N := 3) rfl ?_); refine box_event ?hg (N := 3) ?hd (cs := #[.slice A0_0 l0_0.length c0_0, .slice A0_1 l0_1.length c0_1, .int .i64 a0_2]) (t := 28) ?hr ?_; (case hd => rfl); (case hg => rfl); (case hr => first | (go_simp; done) | (go_simp; rfl)); intro gb166 hg w8 hbox hb; have BK166 := aM (hbox); have GW166 := aM ((by rw [hg]; exact (below_size (below_mv HB.out)) : w.heap.size ≤ gb166)); have GE166 := aM ((by rw [hg]; exact (below_size (below_mv HB.out)) : w.heap.size ≤ gb166)); replace HB := aM (below_step (below_mv HB.out) hb); clear hb hbox hg) | ((with_reducible refine gate_dst (N := 6) rfl ?_); refine box_event ?hg (N := 6) ?hd (cs := #[.slice none 0 0, .slice none 0 0, .int .i64 0]) (t := 28) ?hr ?_; (case hd => rfl); (case hg => rfl); (case hr => first | (go_simp; done) | (go_simp; rfl)); intro gb167 hg w9 hbox hb; have BK167 := aM (hbox); have GW167 := aM ((by rw [hg]; exact (below_size (by repeat (first | (with_reducible first | exact HB.out | apply bA | apply bN | apply bD | refine below_set ?_ GE166.out) | exact HB.out))) : w.heap.size ≤ gb167)); have GE167 := aM ((by rw [hg]; exact (below_size (by repeat (first | (with_reducible first | exact HB.out | apply bA | apply bN | apply bD | refine below_set ?_ GE166.out) | exact HB.out))) : w.heap.size ≤ gb167)); replace HB := aM (below_step (by repeat (first | (with_reducible first | exact HB.out | apply bA | apply bN | apply bD | refine below_set ?_ GE166.out) | exact HB.out)) hb); have NB166_167 := aM ((by rw [hg]; exact Nat.ne_of_lt (blk_lt (blk_mv BK166.out)) : gb166 ≠ gb167)); have NB167_166 := aM ((by rw [hg]; exact Nat.ne_of_gt (blk_lt (blk_mv BK166.out)) : gb167 ≠ gb166)); replace BK166 := aM (blk_below (blk_mv BK166.out) hb); clear hb hbox hg; have hnb10 := NB166_167.out; have hnc10 := NB167_166.out; obtain ⟨hcz11_0, hcz11_1, hcz11_2, hfz11_0, hfz11_1, hfz11_2⟩ := blk3 BK166.out) | ((with_reducible refine gate_callee (f := 42) rfl ?_); refine goesL_ (some 13) rfl rfl Try.func42 (by kernel_rfl) rfl #[.agg #[.slice A0_0 l0_0.length c0_0, .slice A0_1 l0_1.length c0_1, .int .i64 a0_2], .int .i64 a1, .int .i64 a2] rfl (by first | rfl | (simp only [List.map_toArray, List.map_cons, List.map_nil, List.length_drop, List.length_take]; try rfl)) ?_; (with_reducible refine (feeder_can.calls k _ _ l0_0 _ _ l0_1 a0_2 a1 a2 t168 _ ?side1 ?side2 ?side3 ?side4 A4.out).mono ?_); (case side1 => first | exact C_mv (Kd.C_below HR0_0.out HB.out) | exact C_mv HR0_0.out); (case side2 => exact HC0_0.out); (case side3 => first | exact C_mv (Kd.C_below HR0_1.out HB.out) | exact C_mv HR0_1.out); (case side4 => exact HC0_1.out); rintro e w12 ⟨rfl, hb⟩; refine ⟨_, rfl, ?_⟩; replace BK166 := aM (blk_below (blk_mv BK166.out) hb); replace BK167 := aM (blk_below (blk_mv BK167.out) hb); replace HB := aM (below_step (by repeat (first | (with_reducible first | exact HB.out | apply bA | apply bN | apply bD | refine below_set ?_ GE166.out | refine below_set ?_ GE167.out) | exact HB.out)) hb); (try clear hb); (try clear hb2); (try clear hge); (try clear hk); (try clear hi); obtain ⟨hcz13_0, hcz13_1, hcz13_2, hfz13_0, hfz13_1, hfz13_2⟩ := blk3 BK166.out) | ((with_reducible refine gate_callee (f := 43) rfl ?_); refine goesL_ (some 19) rfl rfl Try.func43 (by kernel_rfl) rfl #[.agg #[.slice A0_0 l0_0.length c0_0, .slice A0_1 l0_1.length c0_1, .int .i64 a0_2]] rfl (by first | rfl | (simp only [List.map_toArray, List.map_cons, List.map_nil, List.length_drop, List.length_take]; try rfl)) ?_; (with_reducible refine (feeder_clone.calls _ _ l0_0 _ _ l0_1 a0_2 t169 t172 t175 _ ?side1 ?side2 ?side3 ?side4 A6.out).mono ?_); (case side1 => first | exact C_mv (Kd.C_below HR0_0.out HB.out) | exact C_mv HR0_0.out); (case side2 => exact HC0_0.out); (case side3 => first | exact C_mv (Kd.C_below HR0_1.out HB.out) | exact C_mv HR0_1.out); (case side4 => exact HC0_1.out); rintro e w14 ⟨v170, v173, rfl, ho0, ho1, hb⟩; refine ⟨_, rfl, ?_⟩; have HO171 := aM (Kd.R_lower ho0 (below_size (by repeat (first | (with_reducible first | exact HB.out | apply bA | apply bN | apply bD | refine below_set ?_ GE166.out | refine below_set ?_ GE167.out) | exact HB.out)))); have HO174 := aM (Kd.R_lower ho1 (below_size (by repeat (first | (with_reducible first | exact HB.out | apply bA | apply bN | apply bD | refine below_set ?_ GE166.out | refine below_set ?_ GE167.out) | exact HB.out)))); replace BK166 := aM (blk_below (blk_mv BK166.out) hb); replace BK167 := aM (blk_below (blk_mv BK167.out) hb); replace HB := aM (below_step (by repeat (first | (with_reducible first | exact HB.out | apply bA | apply bN | apply bD | refine below_set ?_ GE166.out | refine below_set ?_ GE167.out) | exact HB.out)) hb); (try clear hb); (try clear hb2); (try clear hge); (try clear hk); (try clear hi); (try clear ho0); (try clear ho1)) | ((with_reducible refine gate_dst (N := 9) rfl ?_); refine box_event ?hg (N := 9) ?hd (cs := #[.slice none 0 0, .slice none 0 0, .int .i64 0]) (t := 28) ?hr ?_; (case hd => rfl); (case hg => rfl); (case hr => first | (go_simp; done) | (go_simp; rfl)); intro gb176 hg w15 hbox hb; replace HO171 := aM (Kd.R_below (R_mv HO171.out) hb); replace HO174 := aM (Kd.R_below (R_mv HO174.out) hb); have BK176 := aM (hbox); have GW176 := aM ((by rw [hg]; exact (below_size (by repeat (first | (with_reducible first | exact HB.out | apply bA | apply bN | apply bD | refine below_set ?_ GE166.out | refine below_set ?_ GE167.out) | exact HB.out))) : w.heap.size ≤ gb176)); have GE176 := aM ((by rw [hg]; exact (below_size (by repeat (first | (with_reducible first | exact HB.out | apply bA | apply bN | apply bD | refine below_set ?_ GE166.out | refine below_set ?_ GE167.out) | exact HB.out))) : w.heap.size ≤ gb176)); replace HB := aM (below_step (by repeat (first | (with_reducible first | exact HB.out | apply bA | apply bN | apply bD | refine below_set ?_ GE166.out | refine below_set ?_ GE167.out) | exact HB.out)) hb); have NB166_176 := aM ((by rw [hg]; exact Nat.ne_of_lt (blk_lt (blk_mv BK166.out)) : gb166 ≠ gb176)); have NB176_166 := aM ((by rw [hg]; exact Nat.ne_of_gt (blk_lt (blk_mv BK166.out)) : gb176 ≠ gb166)); replace BK166 := aM (blk_below (blk_mv BK166.out) hb); have NB167_176 := aM ((by rw [hg]; exact Nat.ne_of_lt (blk_lt (blk_mv BK167.out)) : gb167 ≠ gb176)); have NB176_167 := aM ((by rw [hg]; exact Nat.ne_of_gt (blk_lt (blk_mv BK167.out)) : gb176 ≠ gb167)); replace BK167 := aM (blk_below (blk_mv BK167.out) hb); clear hb hbox hg; obtain ⟨Ao16, co16, eo16⟩ := Kd.R_slice HO171.out; subst eo16; have hnb17 := NB176_166.out; have hnc17 := NB166_176.out; have hnb18 := NB176_167.out; have hnc18 := NB167_176.out; obtain ⟨hcz19_0, hcz19_1, hcz19_2, hfz19_0, hfz19_1, hfz19_2⟩ := blk3 BK176.out; obtain ⟨Ao20, co20, eo20⟩ := Kd.R_slice HO174.out; subst eo20) | ((with_reducible refine gate_store (t := 28) (p := 9) rfl ?_); refine store_event (t := 28) (p := 9) (v := ?vo_w21) (w1 := (((w15.setCell ⟨gb176, 0, none⟩ (.slice Ao16 t169.length co16)).setCell ⟨gb176, 1, none⟩ (.slice Ao20 t172.length co20)).setCell ⟨gb176, 2, none⟩ (.int .i64 t175))) ?hg ?ho ?hn ?hr ?_; (case ho => rfl); (case hg => rfl); (case hn => rfl); (case hr => first | (go_simp; done) | (go_simp; rfl)); intro w21 hw; have n0_ : Aside0 (Kd.R k32 32 w21 w.heap.size (fun _ => True) (.slice Ao16 t169.length co16) t169) := ⟨(by rw [hw]; exact (by (with_reducible repeat (first | apply Kd.R_alloc | apply Kd.R_drewN | apply Kd.R_drew)); exact Kd.R_mono (f3 HO171.out BK176.out (by decide)) (fun _ hk => trivial)))⟩; have n1_ : Aside0 (Kd.R (Kd.int .i64) 3 w21 w.heap.size (fun _ => True) (.slice Ao20 t172.length co20) t172) := ⟨(by rw [hw]; exact (by (with_reducible repeat (first | apply Kd.R_alloc | apply Kd.R_drewN | apply Kd.R_drew)); exact Kd.R_mono (f3 HO174.out BK176.out (by decide)) (fun _ hk => trivial)))⟩; have n2_ : Aside0 (w21.heap[gb166]? = some (.cells #[.slice A0_0 l0_0.length c0_0, .slice A0_1 l0_1.length c0_1, .int .i64 a0_2] 28 (0, 0))) := ⟨(by rw [hw]; exact (by (with_reducible repeat (first | refine kN ?_ _ | refine kD ?_ | refine kA ?_ _)); refine blk_far ?_ NB166_176.out _; (with_reducible repeat (first | refine kN ?_ _ | refine kD ?_ | refine kA ?_ _)); refine blk_far ?_ NB166_176.out _; (with_reducible repeat (first | refine kN ?_ _ | refine kD ?_ | refine kA ?_ _)); refine blk_far ?_ NB166_176.out _; (with_reducible repeat (first | refine kN ?_ _ | refine kD ?_ | refine kA ?_ _)); exact BK166.out))⟩; have n3_ : Aside0 (w21.heap[gb167]? = some (.cells #[.slice none 0 0, .slice none 0 0, .int .i64 0] 28 (0, 0))) := ⟨(by rw [hw]; exact (by (with_reducible repeat (first | refine kN ?_ _ | refine kD ?_ | refine kA ?_ _)); refine blk_far ?_ NB167_176.out _; (with_reducible repeat (first | refine kN ?_ _ | refine kD ?_ | refine kA ?_ _)); refine blk_far ?_ NB167_176.out _; (with_reducible repeat (first | refine kN ?_ _ | refine kD ?_ | refine kA ?_ _)); refine blk_far ?_ NB167_176.out _; (with_reducible repeat (first | refine kN ?_ _ | refine kD ?_ | refine kA ?_ _)); exact BK167.out))⟩; have n4_ : Aside0 (w21.heap[gb176]? = some (.cells #[.slice Ao16 t169.length co16, .slice Ao20 t172.length co20, .int .i64 t175] 28 (0, 0))) := ⟨(by rw [hw]; exact (by (with_reducible repeat (first | refine kN ?_ _ | refine kD ?_ | refine kA ?_ _)); refine blk_put (cs := #[.slice Ao16 t169.length co16, .slice Ao20 t172.length co20, .int .i64 0]) ?_ 2 _ rfl; (with_reducible repeat (first | refine kN ?_ _ | refine kD ?_ | refine kA ?_ _)); refine blk_put (cs := #[.slice Ao16 t169.length co16, .slice none 0 0, .int .i64 0]) ?_ 1 _ rfl; (with_reducible repeat (first | refine kN ?_ _ | refine kD ?_ | refine kA ?_ _)); refine blk_put (cs := #[.slice none 0 0, .slice none 0 0, .int .i64 0]) ?_ 0 _ rfl; (with_reducible repeat (first | refine kN ?_ _ | refine kD ?_ | refine kA ?_ _)); exact BK176.out))⟩; have n5_ : Aside0 (Below w.heap.size w w21) := ⟨(by rw [hw]; exact (by repeat (first | (with_reducible first | exact HB.out | apply bA | apply bN | apply bD | refine below_set ?_ GE166.out | refine below_set ?_ GE167.out | refine below_set ?_ GE176.out) | exact HB.out)))⟩; clear hw; clear HO171; clear HO174; clear BK166; clear BK167; clear BK176; clear HB; have HO171 := n0_; have HO174 := n1_; have BK166 := n2_; have BK167 := n3_; have BK176 := n4_; have HB := n5_; clear n0_ n1_ n2_ n3_ n4_ n5_; obtain ⟨hcz22_0, hcz22_1, hcz22_2, hfz22_0, hfz22_1, hfz22_2⟩ := blk3 BK176.out) | ((with_reducible refine gate_callee (f := 44) rfl ?_); refine goesL_ (some 23) rfl rfl Try.func44 (by kernel_rfl) rfl #[.agg #[.slice Ao16 t169.length co16, .slice Ao20 t172.length co20, .int .i64 t175], .int .i64 a1, .int .i64 a2] rfl (by first | rfl | (simp only [List.map_toArray, List.map_cons, List.map_nil, List.length_drop, List.length_take]; try rfl)) ?_; (with_reducible refine (feeder_open.calls (fun k_ => some k_ = (.slice Ao16 t169.length co16 : Value).ownBlock) (.slice Ao16 t169.length co16) t169 _ _ t172 t175 a1 a2 t177 t178 w _ ?side1 ?side2 ?side3 ?side4 A7.out).mono ?_); (case side1 => repeat (first | (with_reducible first | exact HB.out | apply bA | apply bN | apply bD | refine below_set ?_ GE166.out | refine below_set ?_ GE167.out | refine below_set ?_ GE176.out) | exact HB.out)); (case side2 => exact Kd.R_tight rfl HO171.out); (case side3 => exact Kd.C_kept_own ((Kd.R_apart' HO174.out (Kd.R_typed HO171.out) (by decide))) (fun k_ hk_ hs_ => (hk_.2) hs_)); (case side4 => exact (Kd.R_reads' HO174.out).2.1); rintro e w23 ⟨rfl, hy0, hb, hkp⟩; refine ⟨_, rfl, ?_⟩; replace BK166 := aM (blk_kept (by (with_reducible repeat (first | refine kN ?_ _ | refine kD ?_ | refine kA ?_ _)); exact BK166.out) hkp (fun hs_ => (fun e_ => (Kd.R_ne HO171.out BK166.out (by decide)) e_) hs_)); replace BK167 := aM (blk_kept (by (with_reducible repeat (first | refine kN ?_ _ | refine kD ?_ | refine kA ?_ _)); exact BK167.out) hkp (fun hs_ => (fun e_ => (Kd.R_ne HO171.out BK167.out (by decide)) e_) hs_)); replace HO174 := aM (Kd.R_mono (ok' := fun k_ => True) (Kd.R_keptB ((Kd.R_apart' HO174.out (Kd.R_typed HO171.out) (by decide))) hkp (fun k_ hk_ hs_ => (hk_.2) hs_)) (fun k_ hk_ => trivial)); replace BK176 := aM (blk_kept (by (with_reducible repeat (first | refine kN ?_ _ | refine kD ?_ | refine kA ?_ _)); exact BK176.out) hkp (fun hs_ => (fun e_ => (Kd.R_ne HO171.out BK176.out (by decide)) e_) hs_)); replace HO171 := aM (Kd.R_reok rfl hy0 (fun k_ e_ => HO171.out.1 k_ e_)); replace HB := aM (hb); (try clear hb); (try clear hkp); (try clear hy0); obtain ⟨hcz24_0, hcz24_1, hcz24_2, hfz24_0, hfz24_1, hfz24_2⟩ := blk3 BK176.out; obtain ⟨hcz25_0, hcz25_1, hcz25_2, hfz25_0, hfz25_1, hfz25_2⟩ := blk3 BK167.out))
    refine bodyPost_ret (results_ct rfl _ _ gb167 28 #[.slice Ao16 t169.length co16, .slice Ao20 t172.length co20, .int .i64 t175] (0, 0) _ rfl (by (with_reducible repeat (first | refine kN ?_ _ | refine kD ?_ | refine kA ?_ _)); refine blk_put (cs := #[.slice Ao16 t169.length co16, .slice Ao20 t172.length co20, .int .i64 0]) ?_ 2 _ rfl; (with_reducible repeat (first | refine kN ?_ _ | refine kD ?_ | refine kA ?_ _)); refine blk_put (cs := #[.slice Ao16 t169.length co16, .slice none 0 0, .int .i64 0]) ?_ 1 _ rfl; (with_reducible repeat (first | refine kN ?_ _ | refine kD ?_ | refine kA ?_ _)); refine blk_put (cs := #[.slice none 0 0, .slice none 0 0, .int .i64 0]) ?_ 0 _ rfl; (with_reducible repeat (first | refine kN ?_ _ | refine kD ?_ | refine kA ?_ _)); exact BK167.out) Try.underlying28 rfl (by kernel_rfl)) rfl ?_
    exact ⟨_, _, by first | rfl | (simp [errW_none, errW_some] <;> rfl) | (simp [*, errW_none, errW_some] <;> rfl), by (with_reducible repeat (first | apply Kd.R_alloc | apply Kd.R_drewN | apply Kd.R_drew)); exact Kd.R_mono (f3 HO171.out BK167.out (by decide)) (fun _ hk => trivial), by (with_reducible repeat (first | apply Kd.R_alloc | apply Kd.R_drewN | apply Kd.R_drew)); exact Kd.R_mono (f3 HO174.out BK167.out (by decide)) (fun _ hk => trivial), by repeat (first | (with_reducible first | exact HB.out | apply bA | apply bN | apply bD | refine below_set ?_ GE166.out | refine below_set ?_ GE167.out | refine below_set ?_ GE176.out) | exact HB.out)⟩
  · rw [if_neg c5] at H
    have c5b0 : (t168 == 0) = false := beq_eq_false_iff_ne.mpr c5
    have c5b1 : (t168 != 0) = true := bne_iff_ne.mpr c5
    simp only [Option.some.injEq, Prod.mk.injEq] at H
    obtain ⟨rfl, rfl, rfl, rfl⟩ := H
    go_enter Try.func14, Try.ntmps14
    go_wp2_with (first | ((with_reducible refine gate_dst (N := 3) rfl ?_); refine box_event ?hg (N := 3) ?hd (cs := #[.slice A0_0 l0_0.length c0_0, .slice A0_1 l0_1.length c0_1, .int .i64 a0_2]) (t := 28) ?hr ?_; (case hd => rfl); (case hg => rfl); (case hr => first | (go_simp; done) | (go_simp; rfl)); intro gb166 hg w26 hbox hb; have BK166 := aM (hbox); have GW166 := aM ((by rw [hg]; exact (below_size (below_mv HB.out)) : w.heap.size ≤ gb166)); have GE166 := aM ((by rw [hg]; exact (below_size (below_mv HB.out)) : w.heap.size ≤ gb166)); replace HB := aM (below_step (below_mv HB.out) hb); clear hb hbox hg) | ((with_reducible refine gate_dst (N := 6) rfl ?_); refine box_event ?hg (N := 6) ?hd (cs := #[.slice none 0 0, .slice none 0 0, .int .i64 0]) (t := 28) ?hr ?_; (case hd => rfl); (case hg => rfl); (case hr => first | (go_simp; done) | (go_simp; rfl)); intro gb167 hg w27 hbox hb; have BK167 := aM (hbox); have GW167 := aM ((by rw [hg]; exact (below_size (by repeat (first | (with_reducible first | exact HB.out | apply bA | apply bN | apply bD | refine below_set ?_ GE166.out) | exact HB.out))) : w.heap.size ≤ gb167)); have GE167 := aM ((by rw [hg]; exact (below_size (by repeat (first | (with_reducible first | exact HB.out | apply bA | apply bN | apply bD | refine below_set ?_ GE166.out) | exact HB.out))) : w.heap.size ≤ gb167)); replace HB := aM (below_step (by repeat (first | (with_reducible first | exact HB.out | apply bA | apply bN | apply bD | refine below_set ?_ GE166.out) | exact HB.out)) hb); have NB166_167 := aM ((by rw [hg]; exact Nat.ne_of_lt (blk_lt (blk_mv BK166.out)) : gb166 ≠ gb167)); have NB167_166 := aM ((by rw [hg]; exact Nat.ne_of_gt (blk_lt (blk_mv BK166.out)) : gb167 ≠ gb166)); replace BK166 := aM (blk_below (blk_mv BK166.out) hb); clear hb hbox hg; have hnb28 := NB166_167.out; have hnc28 := NB167_166.out; obtain ⟨hcz29_0, hcz29_1, hcz29_2, hfz29_0, hfz29_1, hfz29_2⟩ := blk3 BK166.out) | ((with_reducible refine gate_callee (f := 42) rfl ?_); refine goesL_ (some 13) rfl rfl Try.func42 (by kernel_rfl) rfl #[.agg #[.slice A0_0 l0_0.length c0_0, .slice A0_1 l0_1.length c0_1, .int .i64 a0_2], .int .i64 a1, .int .i64 a2] rfl (by first | rfl | (simp only [List.map_toArray, List.map_cons, List.map_nil, List.length_drop, List.length_take]; try rfl)) ?_; (with_reducible refine (feeder_can.calls k _ _ l0_0 _ _ l0_1 a0_2 a1 a2 t168 _ ?side1 ?side2 ?side3 ?side4 A4.out).mono ?_); (case side1 => first | exact C_mv (Kd.C_below HR0_0.out HB.out) | exact C_mv HR0_0.out); (case side2 => exact HC0_0.out); (case side3 => first | exact C_mv (Kd.C_below HR0_1.out HB.out) | exact C_mv HR0_1.out); (case side4 => exact HC0_1.out); rintro e w30 ⟨rfl, hb⟩; refine ⟨_, rfl, ?_⟩; replace BK166 := aM (blk_below (blk_mv BK166.out) hb); replace BK167 := aM (blk_below (blk_mv BK167.out) hb); replace HB := aM (below_step (by repeat (first | (with_reducible first | exact HB.out | apply bA | apply bN | apply bD | refine below_set ?_ GE166.out | refine below_set ?_ GE167.out) | exact HB.out)) hb); (try clear hb); (try clear hb2); (try clear hge); (try clear hk); (try clear hi); obtain ⟨hcz31_0, hcz31_1, hcz31_2, hfz31_0, hfz31_1, hfz31_2⟩ := blk3 BK167.out))
    refine bodyPost_ret (results_ct rfl _ _ gb167 28 #[.slice none 0 0, .slice none 0 0, .int .i64 0] (0, 0) _ rfl (by (with_reducible repeat (first | refine kN ?_ _ | refine kD ?_ | refine kA ?_ _)); refine blk_put (cs := #[.slice none 0 0, .slice none 0 0, .int .i64 0]) ?_ 2 _ rfl; (with_reducible repeat (first | refine kN ?_ _ | refine kD ?_ | refine kA ?_ _)); refine blk_put (cs := #[.slice none 0 0, .slice none 0 0, .int .i64 0]) ?_ 1 _ rfl; (with_reducible repeat (first | refine kN ?_ _ | refine kD ?_ | refine kA ?_ _)); refine blk_put (cs := #[.slice none 0 0, .slice none 0 0, .int .i64 0]) ?_ 0 _ rfl; (with_reducible repeat (first | refine kN ?_ _ | refine kD ?_ | refine kA ?_ _)); exact BK167.out) Try.underlying28 rfl (by kernel_rfl)) rfl ?_
    exact ⟨_, _, by first | rfl | (simp [errW_none, errW_some] <;> rfl) | (simp [*, errW_none, errW_some] <;> rfl), by first | exact Kd.R_nil _ _ _ _ _ | exact Kd.N_nil _ _ _ _ _ | exact Kd.V_nil _ _ _ _ _ | exact Kd.Q_nil _ _ _ _ _ | exact Kd.S_nil _ _ _ _ _, by first | exact Kd.R_nil _ _ _ _ _ | exact Kd.N_nil _ _ _ _ _ | exact Kd.V_nil _ _ _ _ _ | exact Kd.Q_nil _ _ _ _ _ | exact Kd.S_nil _ _ _ _ _, by repeat (first | (with_reducible first | exact HB.out | apply bA | apply bN | apply bD | refine below_set ?_ GE166.out | refine below_set ?_ GE167.out) | exact HB.out)⟩

/-! ### feeder_waits: function 45 -/
def feeder_waits.f (a0_0 : Int) (a0_1 : Int) (a0_2 : Int) (a0_3 : Bool) (a0_4 : Bool) : Option (Bool) := if a0_3 = true then (some false) else (if a0_2 = (-1) then (some false) else (some (!a0_4)))
set_option maxHeartbeats 8000000 in
set_option maxRecDepth 100000 in
theorem feeder_waits.calls (a0_0 : Int) (a0_1 : Int) (a0_2 : Int) (a0_3 : Bool) (a0_4 : Bool) (r : Bool) (w : World) (h : feeder_waits.f a0_0 a0_1 a0_2 a0_3 a0_4 = some r) :
    Calls Try.prog 45 #[.agg #[.int .i64 a0_0, .int .i64 a0_1, .int .i64 a0_2, .bool a0_3, .bool a0_4]] w fun e w' => e = .returned (.bool r) ∧ Below w.heap.size w w' := by
  have hu32 := Try.underlying32
  have HB := aM (Below.refl w.heap.size w)
  have H : (if a0_3 = true then (some false) else (if a0_2 = (-1) then (some false) else (some (!a0_4)))) = some r := h
  clear h
  by_cases c2 : a0_3 = true
  · subst c2
    have H1 : (some false) = some r := by rw [if_pos rfl] at H; exact H
    clear H
    have H := H1
    clear H1
    obtain rfl := Option.some.inj H
    go_enter Try.func45, Try.ntmps45
    go_wp2_with (first | ((with_reducible refine gate_dst (N := 1) rfl ?_); refine box_event ?hg (N := 1) ?hd (cs := #[.int .i64 a0_0, .int .i64 a0_1, .int .i64 a0_2, .bool true, .bool a0_4]) (t := 32) ?hr ?_; (case hd => rfl); (case hg => rfl); (case hr => first | (go_simp; done) | (go_simp; rfl)); intro gb179 hg w3 hbox hb; have BK179 := aM (hbox); have GW179 := aM ((by rw [hg]; exact (below_size (below_mv HB.out)) : w.heap.size ≤ gb179)); have GE179 := aM ((by rw [hg]; exact (below_size (below_mv HB.out)) : w.heap.size ≤ gb179)); replace HB := aM (below_step (below_mv HB.out) hb); clear hb hbox hg; have hcz4_0 : w3.cell? ⟨gb179, 0, none⟩ = some (.int .i64 a0_0) := (blk_cell BK179.out 0).trans rfl; have hcz4_1 : w3.cell? ⟨gb179, 1, none⟩ = some (.int .i64 a0_1) := (blk_cell BK179.out 1).trans rfl; have hcz4_2 : w3.cell? ⟨gb179, 2, none⟩ = some (.int .i64 a0_2) := (blk_cell BK179.out 2).trans rfl; have hcz4_3 : w3.cell? ⟨gb179, 3, none⟩ = some (.bool true) := (blk_cell BK179.out 3).trans rfl; have hcz4_4 : w3.cell? ⟨gb179, 4, none⟩ = some (.bool a0_4) := (blk_cell BK179.out 4).trans rfl; have hfz4_0 := blk_frozen BK179.out 0; have hfz4_1 := blk_frozen BK179.out 1; have hfz4_2 := blk_frozen BK179.out 2; have hfz4_3 := blk_frozen BK179.out 3; have hfz4_4 := blk_frozen BK179.out 4))
    go_ret
    exact ⟨by first | rfl | (simp [errW_none, errW_some] <;> rfl) | (simp [*, errW_none, errW_some] <;> rfl), by repeat (first | (with_reducible first | exact HB.out | apply bA | apply bN | apply bD | refine below_set ?_ GE179.out) | exact HB.out)⟩
  · replace c2 := Bool.eq_false_iff.mpr c2
    subst c2
    have H1 : (if a0_2 = (-1) then (some false) else (some (!a0_4))) = some r := by rw [if_neg (show ¬ (false = true) by decide)] at H; exact H
    clear H
    have H := H1
    clear H1
    by_cases c5 : a0_2 = (-1)
    · rw [if_pos c5] at H
      have c5b0 : (a0_2 == (-1)) = true := beq_iff_eq.mpr c5
      have c5b1 : (a0_2 != (-1)) = false := bne_eq_false_iff_eq.mpr c5
      clear c5
      obtain rfl := Option.some.inj H
      go_enter Try.func45, Try.ntmps45
      go_wp2_with (first | ((with_reducible refine gate_dst (N := 1) rfl ?_); refine box_event ?hg (N := 1) ?hd (cs := #[.int .i64 a0_0, .int .i64 a0_1, .int .i64 a0_2, .bool false, .bool a0_4]) (t := 32) ?hr ?_; (case hd => rfl); (case hg => rfl); (case hr => first | (go_simp; done) | (go_simp; rfl)); intro gb179 hg w6 hbox hb; have BK179 := aM (hbox); have GW179 := aM ((by rw [hg]; exact (below_size (below_mv HB.out)) : w.heap.size ≤ gb179)); have GE179 := aM ((by rw [hg]; exact (below_size (below_mv HB.out)) : w.heap.size ≤ gb179)); replace HB := aM (below_step (below_mv HB.out) hb); clear hb hbox hg; have hcz7_0 : w6.cell? ⟨gb179, 0, none⟩ = some (.int .i64 a0_0) := (blk_cell BK179.out 0).trans rfl; have hcz7_1 : w6.cell? ⟨gb179, 1, none⟩ = some (.int .i64 a0_1) := (blk_cell BK179.out 1).trans rfl; have hcz7_2 : w6.cell? ⟨gb179, 2, none⟩ = some (.int .i64 a0_2) := (blk_cell BK179.out 2).trans rfl; have hcz7_3 : w6.cell? ⟨gb179, 3, none⟩ = some (.bool false) := (blk_cell BK179.out 3).trans rfl; have hcz7_4 : w6.cell? ⟨gb179, 4, none⟩ = some (.bool a0_4) := (blk_cell BK179.out 4).trans rfl; have hfz7_0 := blk_frozen BK179.out 0; have hfz7_1 := blk_frozen BK179.out 1; have hfz7_2 := blk_frozen BK179.out 2; have hfz7_3 := blk_frozen BK179.out 3; have hfz7_4 := blk_frozen BK179.out 4))
      go_ret
      exact ⟨by first | rfl | (simp [errW_none, errW_some] <;> rfl) | (simp [*, errW_none, errW_some] <;> rfl), by repeat (first | (with_reducible first | exact HB.out | apply bA | apply bN | apply bD | refine below_set ?_ GE179.out) | exact HB.out)⟩
    · rw [if_neg c5] at H
      have c5b0 : (a0_2 == (-1)) = false := beq_eq_false_iff_ne.mpr c5
      have c5b1 : (a0_2 != (-1)) = true := bne_iff_ne.mpr c5
      obtain rfl := Option.some.inj H
      go_enter Try.func45, Try.ntmps45
      go_wp2_with (first | ((with_reducible refine gate_dst (N := 1) rfl ?_); refine box_event ?hg (N := 1) ?hd (cs := #[.int .i64 a0_0, .int .i64 a0_1, .int .i64 a0_2, .bool false, .bool a0_4]) (t := 32) ?hr ?_; (case hd => rfl); (case hg => rfl); (case hr => first | (go_simp; done) | (go_simp; rfl)); intro gb179 hg w8 hbox hb; have BK179 := aM (hbox); have GW179 := aM ((by rw [hg]; exact (below_size (below_mv HB.out)) : w.heap.size ≤ gb179)); have GE179 := aM ((by rw [hg]; exact (below_size (below_mv HB.out)) : w.heap.size ≤ gb179)); replace HB := aM (below_step (below_mv HB.out) hb); clear hb hbox hg; have hcz9_0 : w8.cell? ⟨gb179, 0, none⟩ = some (.int .i64 a0_0) := (blk_cell BK179.out 0).trans rfl; have hcz9_1 : w8.cell? ⟨gb179, 1, none⟩ = some (.int .i64 a0_1) := (blk_cell BK179.out 1).trans rfl; have hcz9_2 : w8.cell? ⟨gb179, 2, none⟩ = some (.int .i64 a0_2) := (blk_cell BK179.out 2).trans rfl; have hcz9_3 : w8.cell? ⟨gb179, 3, none⟩ = some (.bool false) := (blk_cell BK179.out 3).trans rfl; have hcz9_4 : w8.cell? ⟨gb179, 4, none⟩ = some (.bool a0_4) := (blk_cell BK179.out 4).trans rfl; have hfz9_0 := blk_frozen BK179.out 0; have hfz9_1 := blk_frozen BK179.out 1; have hfz9_2 := blk_frozen BK179.out 2; have hfz9_3 := blk_frozen BK179.out 3; have hfz9_4 := blk_frozen BK179.out 4))
      go_ret
      exact ⟨by first | rfl | (simp [errW_none, errW_some] <;> rfl) | (simp [*, errW_none, errW_some] <;> rfl), by repeat (first | (with_reducible first | exact HB.out | apply bA | apply bN | apply bD | refine below_set ?_ GE179.out) | exact HB.out)⟩

end Go.Proofs.Ytcgeflbifbaecaa.PFeh
