/- The road up: the function value that goes from a switch to those above it; its contract. -/
import Derived.RangeFuncNested
import Derived.RangeFuncBound
import Derived.RangeFuncCalls
import Derived.RangeFuncLeaves
import Derived.RangeFuncBox
import Derived.Shelf.Abstract
import Derived.Shelf.RegionOpen
import Derived.WalkKit
import Derived.OwnWalkIn
import Derived.TacticsInMore
import Derived.LoopNIn
import Derived.LoopIn
import Derived.Maps.AppendAt
import Derived.Test.YtcgeflbifbaecaaPFehx0
namespace Go.Proofs.Ytcgeflbifbaecaa.Up
open Go.RowKit Go.Shelf Go.Proofs.Ytcgeflbifbaecaa.PFeh Go.Proofs.YtcgeflbifbaecaaW.PrintWords Go.Proofs.YtcgeflbifbaecaaW.PrintLast Go.Proofs.YtcgeflbifbaecaaW.PrintMore
attribute [local go_sem] Oper.semAt_some

/-- A number of a switch. -/
abbrev Ix (ss : List S32) := { x : Int // 0 ≤ x ∧ x < ss.length }
/-- The switches from s up. -/
def Chain (ss : List S32) : Int → List (Ix ss) → Prop
  | s, [] => s < 0
  | s, x :: xs => x.1 = s ∧ Chain ss (rd_T32 ss s).f0 xs
theorem Chain.unique {ss : List S32} : ∀ {s : Int} {xs ys : List (Ix ss)}, Chain ss s xs → Chain ss s ys → xs = ys
  | _, [], [], _, _ => rfl
  | s, [], y :: _, h, k => by have h : s < 0 := h; have := y.2.1; have := k.1; omega
  | s, x :: _, [], h, k => by have k : s < 0 := k; have := x.2.1; have := h.1; omega
  | s, x :: xs, y :: ys, h, k => by
    have e : x = y := Subtype.ext (h.1.trans k.1.symm)
    rw [e, Chain.unique h.2 k.2]

open Classical in
/-- How many are still to come, read off the variable. -/
noncomputable def left (ss : List S32) (Bs : Nat) (W : World) : Nat :=
  if h : ∃ r : Int × List (Ix ss), W.cell? ⟨Bs, 0, none⟩ = some (.int .i64 r.1) ∧ Chain ss r.1 r.2 then (Classical.choose h).2.length else 0
theorem left_eq {ss : List S32} {Bs : Nat} {W : World} {s : Int} {xs : List (Ix ss)} (hc : W.cell? ⟨Bs, 0, none⟩ = some (.int .i64 s)) (h : Chain ss s xs) : left ss Bs W = xs.length := by
  have hex : ∃ r : Int × List (Ix ss), W.cell? ⟨Bs, 0, none⟩ = some (.int .i64 r.1) ∧ Chain ss r.1 r.2 := ⟨(s, xs), hc, h⟩
  unfold left
  rw [dif_pos hex]
  obtain ⟨e, hl⟩ := Classical.choose_spec hex
  have e' : s = (Classical.choose hex).1 := by simpa using hc.symm.trans e
  rw [← e'] at hl
  rw [Chain.unique hl h]

/-- The switches lie in memory, in what lay below n₀, and so they do wherever that lies as it lay. -/
def SwAt (n₀ : Nat) (W : World) (A : Option Addr) (ss : List S32) : Prop := n₀ ≤ W.heap.size ∧ ∀ W', Below n₀ W W' → Kd.C k32 W' A ss.length ss
theorem SwAt.step {n₀ : Nat} {W W' : World} {A : Option Addr} {ss : List S32} (h : SwAt n₀ W A ss) (hb : Below n₀ W W') : SwAt n₀ W' A ss := ⟨Nat.le_trans h.1 hb.size, fun W2 h2 => h.2 W2 (hb.trans h2)⟩
theorem SwAt.now {n₀ : Nat} {W : World} {A : Option Addr} {ss : List S32} (h : SwAt n₀ W A ss) : Kd.C k32 W A ss.length ss := h.2 W (Below.refl _ _)
theorem SwAt.of {W : World} {A : Option Addr} {ss : List S32} (h : Kd.C k32 W A ss.length ss) : SwAt W.heap.size W A ss := ⟨Nat.le_refl _, fun _ hb => Kd.C_below h hb⟩

/-- What a round keeps: what lay below n₀, and the two blocks of the road's own. -/
def Keeps (n₀ Bs Bf : Nat) (W W' : World) : Prop := Below n₀ W W' ∧ W'.heap[Bs]? = W.heap[Bs]? ∧ W'.heap[Bf]? = W.heap[Bf]?
theorem Keeps.trans {n₀ Bs Bf : Nat} {A B C : World} (h : Keeps n₀ Bs Bf A B) (k : Keeps n₀ Bs Bf B C) : Keeps n₀ Bs Bf A C := ⟨h.1.trans k.1, k.2.1.trans h.2.1, k.2.2.trans h.2.2⟩

set_option maxHeartbeats 1000000 in
theorem up_in (F : Fence) (n : Nat) (h41 : F.fn 41) (hro : F.round = none) (A0 : Option Addr) (n0 c0 : Nat) (A1 : Option Addr) (n1 c1 : Nat) (rp s : Int) (w : World) :
    CallsIn F n Try.prog 41 #[.agg #[.slice A0 n0 c0, .slice A1 n1 c1, .int .i64 rp], .int .i64 s] w fun e w' =>
      e = .returned (.func (.func 51) #[] #[.pointer (some ⟨w.heap.size + 1, 0, none⟩), .pointer (some ⟨w.heap.size, 0, none⟩)]) ∧
      w' = (w.alloc (.cells #[.slice A0 n0 c0, .slice A1 n1 c1, .int .i64 rp] 28)).alloc (.cells #[.int .i64 s] 3) := by
  refine callsIn_of_wp Try.func41 rfl h41 ?_ hro
  simp only [Try.ntmps41, List.size_toArray, List.length_cons, List.length_nil, Nat.reduceAdd, Nat.reduceSub, Array.replicate_succ, Array.replicate_zero, List.push_toArray, List.append_toArray, List.nil_append, List.cons_append]
  gi_wp2
  go_ret
  exact ⟨rfl, rfl⟩

set_option maxRecDepth 100000 in
set_option maxHeartbeats 2000000 in
theorem up1_in (F : Fence) (n : Nat) (h51 : F.fn 51) (hro : F.round = none) (hn : 1 ≤ n) (l Bs Bf n₀ : Nat) (A0 : Option Addr) (c0 : Nat) (ss : List S32) (A1 : Option Addr) (n1 c1 : Nat) (rp : Int) (J : List (Ix ss) → World → Prop)
    (hJ : ∀ pre W v, J pre W → J pre (W.setCell ⟨Bs, 0, none⟩ v))
    (s0 : Int) (xs : List (Ix ss)) (hx : Chain ss s0 xs) (hY : ∀ pre (x : Ix ss) W, J pre W → pre.length < xs.length → YieldAt F (n - 1) Try.prog l #[.int .i64 x.1] W fun e W' => e = .returned (.bool true) ∧ J (pre ++ [x]) W' ∧ Keeps n₀ Bs Bf W W')
    (W : World) (hne : Bs ≠ Bf) (hBs : Boxed W Bs 3 (.int .i64 s0))
    (hBf : W.heap[Bf]? = some (.cells #[.slice A0 ss.length c0, .slice A1 n1 c1, .int .i64 rp] 28 (0, 0))) (hn₀ : n₀ ≤ Bs) (hS : SwAt n₀ W A0 ss) (h0 : J [] W) :
    CallsIn F n Try.prog 51 #[.func (.yield l) #[] #[], .pointer (some ⟨Bs, 0, none⟩), .pointer (some ⟨Bf, 0, none⟩)] W fun e W' => (∃ v, e = .returned v) ∧ J xs W' := by
  refine callsIn_of_wp Try.func51 rfl h51 ?_ hro
  simp only [Try.ntmps51, List.size_toArray, List.length_cons, List.length_nil, Nat.reduceAdd, Nat.reduceSub, Array.replicate_succ, Array.replicate_zero, List.push_toArray, List.append_toArray, List.nil_append, List.cons_append]
  gi_wp2
  gi_loopw [4] (fun _ wr => ∃ (pre rest : List (Ix ss)) (s : Int), xs = pre ++ rest ∧ Chain ss s rest ∧ Boxed wr Bs 3 (.int .i64 s) ∧ wr.heap[Bf]? = some (.cells #[.slice A0 ss.length c0, .slice A1 n1 c1, .int .i64 rp] 28 (0, 0)) ∧ SwAt n₀ wr A0 ss ∧ J pre wr)
    (fun _ wr => left ss Bs wr)
  case atStart =>
    exact ⟨[], xs, s0, rfl, hx, hBs, hBf, hS, h0⟩
  case round =>
    obtain ⟨pre, rest, s, hxx, hch, hb, hf, hsw, hJs⟩ := hrel
    have hc := hb.cell
    have hfz := hb.frozen
    cases rest with
    | nil =>
      have hs : s < 0 := hch
      have hs' : decide (0 ≤ s) = false := decide_eq_false (by omega)
      gi_wp2
      go_end0
      exact ⟨⟨_, rfl⟩, by simpa [hxx] using hJs⟩
    | cons x rest =>
      obtain ⟨hxs, hch'⟩ := hch
      subst hxs
      have hs' : decide (0 ≤ x.1) = true := decide_eq_true x.2.1
      obtain ⟨fn, tmps, assign, body, hy, hR⟩ := hY pre x wr hJs (by rw [hxx]; simp)
      gi_wp2
      refine hR.mono ?_
      rintro e W3 ⟨rfl, hJ3, hk3⟩
      have hb3 : Boxed W3 Bs 3 (.int .i64 x.1) := hk3.2.1.trans hb
      have hf3 := hk3.2.2.trans hf
      have hsw3 := hsw.step hk3.1
      have hc3 := hb3.cell
      have hfz3 := hb3.frozen
      have hcf : W3.cell? ⟨Bf, 0, none⟩ = some (.slice A0 ss.length c0) := by simp [World.cell?, hf3]
      obtain ⟨ad, rfl, g0, g1, g2, g3, g4⟩ := at_T32 hsw3.now x.1 x.2.1 (by exact x.2.2)
      have p0 : (0 ≤ x.1) = True := eq_true x.2.1
      have p1 : (x.1 < (ss.length : Int)) = True := eq_true x.2.2
      gi_wp2
      go_roundw
      case rel => exact ⟨pre ++ [x], rest, (rd_T32 ss x.1).f0, by simp [hxx], hch', hb3.set _, (Below.heap_setCell _ _ _ Bf (fun e => hne e.symm)).trans hf3, hsw3.step ((Below.refl n₀ W3).setCell (p := ⟨Bs, 0, none⟩) hn₀ _), hJ _ _ _ hJ3⟩
      case measure => rw [left_eq (hb3.set _).cell hch', left_eq hc (show Chain ss x.1 (x :: rest) from ⟨rfl, hch'⟩)]; simp

/-- A walk that goes on, and never leaves in another way. -/
def only (K : Act → World → Prop) : Exit → Act → World → Prop
  | .normal, a, w => K a w
  | .ret, _, _ => False
  | .exit _, _, _ => False
  | .goto _, _, _ => False
  | .panic _, _, _ => False
  | .outgrown, _, _ => False

/-- What a walk of the body owes where it goes on; it never leaves in another way. -/
def roundUp {ss : List S32} (n₀ Bs Bf : Nat) (I : List (Ix ss) → World → Prop) (xs : List (Ix ss)) (W : World) : Exit → Act → World → Prop
  | .normal, _, W' => KeepsOthers W W' ∧ Keeps n₀ Bs Bf W W' ∧ I xs W'
  | .ret, _, _ => False
  | .exit _, _, _ => False
  | .goto _, _, _ => False
  | .panic _, _, _ => False
  | .outgrown, _, _ => False

set_option maxHeartbeats 1000000 in
/-- A range over the road up: the loop's own record, each round, and what lies behind. -/
theorem range_up (F : Fence) (n : Nat) (h51 : F.fn 51) (hro : F.round = none) (hn : 2 ≤ n) {g : Operand} {ps : Array Tmp} {assign body : Code} {Q : Exit → Act → World → Prop} {a : Act} {w : World}
    {Bs Bf n₀ : Nat} {A0 : Option Addr} {c0 : Nat} {ss : List S32} {A1 : Option Addr} {n1 c1 : Nat} {rp s0 : Int} {xs : List (Ix ss)} (hx : Chain ss s0 xs) (hne : Bs ≠ Bf)
    (hg : a.eval g = .func (.func 51) #[] #[.pointer (some ⟨Bs, 0, none⟩), .pointer (some ⟨Bf, 0, none⟩)]) (hps : ps.size = 1)
    (hBs : Boxed w Bs 3 (.int .i64 s0)) (hBf : w.heap[Bf]? = some (.cells #[.slice A0 ss.length c0, .slice A1 n1 c1, .int .i64 rp] 28 (0, 0))) (hn₀ : n₀ ≤ Bs) (hS : SwAt n₀ w A0 ss)
    (I : List (Ix ss) → World → Prop) (hI : ∀ pre W W' row, I pre W → W.grownBy W' row → (∀ r, row = some r → r = Bs ∨ (w.heap.size ≤ r ∧ ∃ o : Obj, W.heap[r]? = some o ∧ o.isCells = false)) → I pre W')
    (h0 : I [] w) (a₁ : Ix ss → Act)
    (hassign : ∀ (l : Nat) (x : Ix ss) (W : World) (K : Act → World → Prop), K (a₁ x) W →
      assign.wpIn (F.inRound l) (n - 1 - 1) Try.prog (Exit.then K (fun _ _ _ => False)) { tmps := (ps.zip #[.int .i64 x.1]).foldl (fun t (p, v) => t.setIfInBounds p v) a.tmps, defers := [] } W)
    (hbody : ∀ (l : Nat) (pre : List (Ix ss)) (x : Ix ss) (W : World), I pre W → pre.length < xs.length → body.wpIn (F.inRound l) (n - 1 - 1) Try.prog (roundUp n₀ Bs Bf I (pre ++ [x]) W) (a₁ x) W)
    (hdone : ∀ (D : Nat) (W : World), w.heap.size ≤ D → I xs W → W.heap[D]? = some (.deferred (some [])) → Q .normal { a with defers := { target := .collected D, args := #[] } :: a.defers } W) :
    (Code.rangeFunc g ps assign body).wpIn F n Try.prog Q a w := by
  have hsBs : Bs < w.heap.size := hBs.lt
  have hsBf : Bf < w.heap.size := (Array.getElem?_eq_some_iff.1 hBf).1
  refine wpIn_rangeFunc ?_
  intro fn hfn
  rw [hro]
  obtain ⟨rec, hrec⟩ : ∃ rec : LoopState → Option Code → Loop, rec = fun st pe => { state := st, pending := pe, fn, tmps := a.tmps, params := ps, assign, body, defers := w.heap.size } := ⟨_, rfl⟩
  have hgrow : ∀ (W : World) (k : Nat) (o : Obj), w.heap.size ≤ k → ∀ pre, I pre W → W.heap[k]? = some o → o.isCells = false → ∀ o', I pre (W.putObj k o') :=
    fun W k o hk pre hi ho hc o' => hI pre W _ (some k) hi (grownBy_putObj' W k o') (fun r e => by cases e; exact .inr ⟨hk, o, ho, hc⟩)
  have hkeep : ∀ (W : World) (k : Nat) (o o' : Obj), w.heap.size ≤ k → W.heap[k]? = some o → Keeps n₀ Bs Bf W (W.putObj k o') := fun W k o o' hk ho =>
    have hlt : k < W.heap.size := (Array.getElem?_eq_some_iff.1 ho).1
    ⟨(Below.refl n₀ W).grown (grownBy_putObj' W k o') (by omega) (fun r e => by cases e; omega), World.putObj_heap_other (by omega), World.putObj_heap_other (by omega)⟩
  obtain ⟨W1, hW1⟩ : ∃ W1, (w.alloc (.deferred (some []))).alloc (.loop (rec .ready none)) = W1 := ⟨_, rfl⟩
  have hL1 : W1.heap[w.heap.size + 1]? = some (.loop (rec .ready none)) := by
    rw [← hW1]; have := World.alloc_heap_new (w.alloc (.deferred (some []))) (.loop (rec .ready none)); rwa [World.size_alloc] at this
  have hK1 : W1.heap[w.heap.size]? = some (.deferred (some [])) := by
    rw [← hW1]; exact (Below.heap_alloc _ _ _ (by simp)).trans (World.alloc_heap_new w _)
  have hI1 : I [] W1 := by
    rw [← hW1]
    exact hI _ _ _ none (hI _ _ _ none h0 (World.grownBy_alloc w _ none) (fun r e => by cases e)) (World.grownBy_alloc _ _ none) (fun r e => by cases e)
  have hb1 : Below w.heap.size w W1 := by
    rw [← hW1]; exact ((Below.refl _ w).alloc (Nat.le_refl _) _).alloc (by simp) _
  refine ⟨w.heap.size + 1, [{ target := .collected w.heap.size, args := #[] }], W1, { target := .fn (.func 51) #[.pointer (some ⟨Bs, 0, none⟩), .pointer (some ⟨Bf, 0, none⟩)], args := #[.func (.yield (w.heap.size + 1)) #[] #[]] }, W1, 51,
    #[.func (.yield (w.heap.size + 1)) #[] #[]] ++ #[.pointer (some ⟨Bs, 0, none⟩), .pointer (some ⟨Bf, 0, none⟩)], W1, ?_, ?_, ?_, ?_, fun _ => by omega, ?_⟩
  · rw [← hW1, hrec]; exact run_enterLoop_outer _ _ _ _ _
  · simp only [resolve, hg]
    simp [go_sem]
  · intro f' hf'; simp [Target.leads] at hf'; subst hf'; exact h51
  · simp [invoke, go_sem]
  · refine (up1_in F (n - 1) h51 hro (by omega) (w.heap.size + 1) Bs Bf n₀ A0 c0 ss A1 n1 c1 rp
      (fun pre W => I pre W ∧ W.heap[w.heap.size + 1]? = some (.loop (rec .ready none)) ∧ W.heap[w.heap.size]? = some (.deferred (some [])))
      (fun pre W v hs => ⟨hI pre W _ (some Bs) hs.1 (grownBy_setCell' W Bs v) (fun r e => by cases e; exact .inl rfl),
        (Below.heap_setCell _ _ _ _ (by show w.heap.size + 1 ≠ Bs; omega)).trans hs.2.1, (Below.heap_setCell _ _ _ _ (by show w.heap.size ≠ Bs; omega)).trans hs.2.2⟩)
      s0 xs hx ?_ W1 hne ((hb1.block Bs hsBs).trans hBs) ((hb1.block Bf hsBf).trans hBf) hn₀ (hS.step (hb1.mono hS.1)) ⟨hI1, hL1, hK1⟩).mono ?_
    · rintro pre x W ⟨hi, hl, hk⟩ hlen
      have hlt : w.heap.size + 1 < W.heap.size := (Array.getElem?_eq_some_iff.1 hl).1
      have hy := run_yield (P := Try.prog) (args := #[.int .i64 x.1]) hl (by rw [hrec]; exact hps.symm)
      rw [hrec] at hy
      refine ⟨fn, _, assign, body, hy, roundIn_of_wpIn hfn (hassign _ x W _ ⟨_, run_beginRound hl (by rw [hrec]), ?_⟩)⟩
      have hl2 : (W.putObj (w.heap.size + 1) (.loop { rec .ready none with state := .busy })).heap[w.heap.size + 1]? = some (.loop { rec .ready none with state := .busy }) := World.putObj_heap_same hlt
      have hk2 : (W.putObj (w.heap.size + 1) (.loop { rec .ready none with state := .busy })).heap[w.heap.size]? = some (.deferred (some [])) := (World.putObj_heap_other (by omega)).trans hk
      refine wpIn_mono (hbody _ pre x _ (hgrow _ _ _ (by omega) _ hi hl rfl _) hlen) ?_
      rintro e a3 W3 hp
      cases e with
      | normal =>
        obtain ⟨hk3, hkp3, hi3⟩ := hp
        have hl3 := hk3.same _ _ hl2 rfl
        have hr := run_endRound (P := Try.prog) none hl3
        have hl4 : (W3.putObj (w.heap.size + 1) (.loop (rec .ready none))).heap[w.heap.size + 1]? = some (.loop (rec .ready none)) := World.putObj_heap_same (Array.getElem?_eq_some_iff.1 hl3).1
        have hk4 : (W3.putObj (w.heap.size + 1) (.loop (rec .ready none))).heap[w.heap.size]? = some (.deferred (some [])) := (World.putObj_heap_other (by omega)).trans (hk3.same _ _ hk2 rfl)
        refine ⟨.bool true, W3.putObj (w.heap.size + 1) (.loop (rec .ready none)), ?_, rfl, ⟨hgrow _ _ _ (by omega) _ hi3 hl3 rfl _, hl4, hk4⟩, ((hkeep W _ _ _ (by omega) hl).trans hkp3).trans (hkeep W3 _ _ _ (by omega) hl3)⟩
        rw [hrec] at hr ⊢
        exact hr
      | ret => exact hp.elim
      | exit id => exact hp.elim
      | goto t => exact hp.elim
      | panic ch => exact hp.elim
      | outgrown => exact hp.elim
    · rintro e W2 ⟨⟨v, rfl⟩, hi, hl, hk⟩
      exact ⟨none, _, by have := run_endLoop (P := Try.prog) hl (by rw [hrec]; simp); rw [hrec] at this; exact this, hdone _ _ (Nat.le_refl _) (hgrow _ _ _ (by omega) _ hi hl rfl _) ((World.putObj_heap_other (by omega)).trans hk)⟩

end Go.Proofs.Ytcgeflbifbaecaa.Up
