/- The given statement LevelSteps: for every input, the call returns true, and its arguments read afterwards as before. There are no further conditions. -/
import Derived.Test.YthdeooggfdfoiaaRows
import Derived.Test.YthdeooggfdfoiaaPLevx6
import Derived.Test.YthdeooggfdfoiaaPureLevelSteps
import Derived.WalkKit
import Derived.ProofKit
import Derived.OpenShut
import Derived.ShutString
import Derived.ChangeOld
import Derived.Below
import Derived.SizedLaws
import Derived.Test.YthdeooggfdfoiaaWSized
import Derived.Test.YthdeooggfdfoiaaOpn
namespace Go.Proofs.Ythdeooggfdfoiaa.levelSteps
open Go.ChangeShapes Go.WideShapes Go.ChangeAt Go.RowKit
open Go.ChangeMaps (open_string shut_string)
set_option linter.unusedVariables false
theorem own : ownKnob Try.prog.godebug = none := by kernel_rfl
theorem laidOut : laidOutB Try.prog = true := by kernel_rfl
def IsRow (k : IntKind) (w : World) (a : Option Addr) (len cap : Nat) (zs : List Int) : Prop :=
  (a = none ∧ len = 0 ∧ cap = 0 ∧ zs = []) ∨
  ∃ x, a = some x ∧ len ≤ cap ∧ cap ≤ maxLen ∧ zs.length = cap ∧ (∀ i, i < zs.length → w.cell? (x.add i) = some (.int k (zs.getD i 0))) ∧ ∀ n ∈ zs, (Lit.int k n).wf = true
set_option maxRecDepth 100000 in
theorem lifted (os : Os) (started : os.Started) (H : Type) (enc : TypeId × Value → H) :
    ReturnsInHanded {} Try.checked os 3 .any (Rows.levelStepsSpec.pre6 enc Try.prog Try.f3 Rows.levelStepsRow.domain false) (Rows.levelStepsSpec.post enc Try.prog Try.f3 false true false false) := by
  refine returnsInHanded_of_change_sized (C := Try.checked) own started (by kernel_rfl) Try.func3
    (ChangeSpec.witness6 (enc := enc) (C := Try.checked) false ⟨#[], #[.slice none 0 0, .agg #[.int .i64 0, .int .i64 0, .int .i64 0], .agg #[.bool false, .int .i64 0, .int .i64 0], .agg #[.int .i64 0, .int .i64 0], .int .i64 0], []⟩ 8 (by kernel_rfl) (by kernel_rfl) (by kernel_rfl) (by kernel_rfl)) ?_
  intro W base args ds gs before hval0 hW hcnd hsz0 _
  have hsz : (DataW.weightsEach Try.prog (Try.f3.params.toList ++ Rows.levelStepsSpec.plain.varTypes Try.prog) (ds ++ gs)).all (· ≤ reachBytes) = true := hsz0
  have hval : ∀ (j : Nat) t v, Try.f3.params[j]? = some t → args[j]? = some v → Value.okWide Try.prog W .any base t v := hval0
  have hW' := hW
  obtain ⟨p, q, hA0, hV, rfl, hfz, hnd⟩ := hW
  have hA : DataW.TrodAll enc Try.prog W 0 (fun _ => true) true Try.f3.params.toList args.toList ds p := hA0
  rw [Try.params3] at hA hval hsz
  obtain ⟨v0, vs0, d0, ds0, p0, q0, hargs, rfl, rfl, h0, r0⟩ := trodAll_cons hA
  obtain ⟨v1, vs1, d1, ds1, p1, q1, rfl, rfl, rfl, h1, r1⟩ := trodAll_cons r0
  obtain ⟨v2, vs2, d2, ds2, p2, q2, rfl, rfl, rfl, h2, r2⟩ := trodAll_cons r1
  obtain ⟨v3, vs3, d3, ds3, p3, q3, rfl, rfl, rfl, h3, r3⟩ := trodAll_cons r2
  obtain ⟨v4, vs4, d4, ds4, p4, q4, rfl, rfl, rfl, h4, r4⟩ := trodAll_cons r3
  obtain ⟨rfl, rfl, rfl⟩ := trodAll_nil r4
  obtain rfl : args = #[v0, v1, v2, v3, v4] := by cases args; simp_all
  obtain ⟨rfl, rfl⟩ := trodVars_none hV
  obtain ⟨a0, len0, cap0, rfl⟩ := okWide_slice Try.underlying22 (hval 0 22 v0 rfl rfl)
  have k0 := h0
  have lt0 : ∀ x ∈ p0, x.block < W.heap.size := by obtain ⟨m, hm⟩ := k0; exact DataW.trod_lt m _ _ _ hm
  obtain ⟨z0, w0⟩ : ∃ zs, IsRow .u8 W a0 len0 cap0 zs := by
    obtain ⟨fuel, hf⟩ := h0
    rcases open_ints Try.underlying22 Try.underlying5 (by kernel_rfl) hf with ⟨hcs, _⟩ | ⟨x, l, c, zs, hcs, _, hl, hm, hz, _, hcell, hwz⟩
    · simp [Value.cells] at hcs
      obtain ⟨rfl, rfl, rfl⟩ := hcs
      exact ⟨[], .inl ⟨rfl, rfl, rfl, rfl⟩⟩
    · simp [Value.cells] at hcs
      obtain ⟨rfl, rfl, rfl⟩ := hcs
      exact ⟨zs, .inr ⟨_, rfl, hl, hm, by simpa using hz, hcell, hwz⟩⟩
  have y0 : len0 * 1 ≤ 140737488351232 := Go.Proofs.YthdeooggfdfoiaaW.PrintWords.sized_ints hsz (j := 0) (t := 22) rfl rfl Try.underlying22 Try.underlying5 (by kernel_rfl) (by kernel_rfl) h0
  have k1 := h1
  have lt1 : ∀ x ∈ p1, x.block < W.heap.size := by obtain ⟨m, hm⟩ := k1; exact DataW.trod_lt m _ _ _ hm
  obtain ⟨cs1, rfl, _⟩ := okWide_struct Try.underlying24 (hval 1 24 v1 rfl rfl)
  obtain ⟨fuel1, hf1⟩ := h1
  obtain ⟨d1_0, d1_1, d1_2, a1_0, a1_1, a1_2, hcs1, k1_0_, q1_0, k1_1_, q1_1, k1_2_, q1_2⟩ := Opn.top_24 _ _ _ hf1
  obtain rfl : cs1 = #[d1_0, d1_1, d1_2] := by simpa [Value.cells] using congrArg List.toArray hcs1
  obtain rfl : d1_0 = .int .i64 a1_0 := (List.cons.inj (show [d1_0] = [(.int .i64 a1_0 : Value)] from k1_0_)).1
  obtain rfl : d1_1 = .int .i64 a1_1 := (List.cons.inj (show [d1_1] = [(.int .i64 a1_1 : Value)] from k1_1_)).1
  obtain rfl : d1_2 = .int .i64 a1_2 := (List.cons.inj (show [d1_2] = [(.int .i64 a1_2 : Value)] from k1_2_)).1
  have k2 := h2
  have lt2 : ∀ x ∈ p2, x.block < W.heap.size := by obtain ⟨m, hm⟩ := k2; exact DataW.trod_lt m _ _ _ hm
  obtain ⟨cs2, rfl, _⟩ := okWide_struct Try.underlying26 (hval 2 26 v2 rfl rfl)
  obtain ⟨fuel2, hf2⟩ := h2
  obtain ⟨d2_0, d2_1, d2_2, a2_0, a2_1, a2_2, hcs2, k2_0_, q2_0, k2_1_, q2_1, k2_2_, q2_2⟩ := Opn.top_26 _ _ _ hf2
  obtain rfl : cs2 = #[d2_0, d2_1, d2_2] := by simpa [Value.cells] using congrArg List.toArray hcs2
  obtain rfl : d2_0 = .bool a2_0 := (List.cons.inj (show [d2_0] = [(.bool a2_0 : Value)] from k2_0_)).1
  obtain rfl : d2_1 = .int .i64 a2_1 := (List.cons.inj (show [d2_1] = [(.int .i64 a2_1 : Value)] from k2_1_)).1
  obtain rfl : d2_2 = .int .i64 a2_2 := (List.cons.inj (show [d2_2] = [(.int .i64 a2_2 : Value)] from k2_2_)).1
  have k3 := h3
  have lt3 : ∀ x ∈ p3, x.block < W.heap.size := by obtain ⟨m, hm⟩ := k3; exact DataW.trod_lt m _ _ _ hm
  obtain ⟨cs3, rfl, _⟩ := okWide_struct Try.underlying28 (hval 3 28 v3 rfl rfl)
  obtain ⟨fuel3, hf3⟩ := h3
  obtain ⟨d3_0, d3_1, a3_0, a3_1, hcs3, k3_0_, q3_0, k3_1_, q3_1⟩ := Opn.top_28 _ _ _ hf3
  obtain rfl : cs3 = #[d3_0, d3_1] := by simpa [Value.cells] using congrArg List.toArray hcs3
  obtain rfl : d3_0 = .int .i64 a3_0 := (List.cons.inj (show [d3_0] = [(.int .i64 a3_0 : Value)] from k3_0_)).1
  obtain rfl : d3_1 = .int .i64 a3_1 := (List.cons.inj (show [d3_1] = [(.int .i64 a3_1 : Value)] from k3_1_)).1
  obtain ⟨a4, rfl, rfl, rfl, w4⟩ := open_int Try.underlying3 (hval 4 3 v4 rfl rfl) h4
  clear hA0 hval0 hsz0 hsz
  refine (PLev.minecontrollaw17_LevelSteps.walk Pure.LevelSteps a0 len0 cap0 z0 a1_0 a1_1 a1_2 a2_0 a2_1 a2_2 a3_0 a3_1 a4 W w0 y0 q1_0 q1_1 q1_2 q2_1 q2_2 q3_0 q3_1 w4).mono fun e W' ⟨he, bel⟩ => ?_
  subst he
  exact ⟨_, rfl, _, _, _, [], _, [], hW', trodAll_mk1 (shut_bool Try.underlying4 _), (trodAll_cons_mk (Below.trod laidOut (by kernel_rfl) (of_decide_eq_true (by kernel_rfl)) k0 bel lt0) (trodAll_cons_mk (Below.trod laidOut (by kernel_rfl) (of_decide_eq_true (by kernel_rfl)) k1 bel lt1) (trodAll_cons_mk (Below.trod laidOut (by kernel_rfl) (of_decide_eq_true (by kernel_rfl)) k2 bel lt2) (trodAll_cons_mk (Below.trod laidOut (by kernel_rfl) (of_decide_eq_true (by kernel_rfl)) k3 bel lt3) (trodAll_cons_mk (shut_int Try.underlying3 w4) trodAll_mk0))))), rfl, bel.frame _, fun h => by cases h⟩
theorem over : Rows.levelStepsRow.holds Try.pinned (OpenSpec.ofChange Rows.levelStepsSpec) :=
  OpenClaim.holds_of_wide 3 Try.f3 rfl rfl rfl rfl rfl rfl rfl ⟨rfl, rfl, rfl, rfl, rfl⟩ rfl rfl rfl rfl rfl (by kernel_rfl) Try.func3 (by kernel_rfl)
    (of_decide_eq_true (by kernel_rfl)) (by unfold Func.isWrapper; first | (rw [if_pos (by decide +kernel)]; kernel_rfl) | (rw [if_neg (by decide +kernel)]; exact ⟨rfl, rfl⟩))
    (fun os started H enc _ => lifted os started H enc)
theorem proved : Rows.LevelStepsSaid := over
#print axioms proved
end Go.Proofs.Ythdeooggfdfoiaa.levelSteps
namespace Go.Proofs.Ythdeooggfdfoiaa
/-- The row, under a short name, for the claim. -/
theorem levelSteps_holds : Rows.LevelStepsSaid := levelSteps.proved
end Go.Proofs.Ythdeooggfdfoiaa
