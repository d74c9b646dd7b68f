/-
  No cell of these rows narrows 'for every input' (looked for: loops, veiled, ifaces, maps, wideKeys, modest, calm, conditions, laid).
  DERIVED. THE GIVEN ROWS OF THIS SEAT. 6 by the template 'for every input the law returns true; each argument reads behind the call as it read before'; 0 by the template 'total and deterministic' (their statements: YthdeooggfdfoiaaTotals.lean).
  GIVEN WITH THE SEED: the statements are not yours to turn. If you find one false, say at which input.
  Laid BY PROGRAM, IN A SANDBOX (cutbox-rows.mjs): the forced cells as the released guide's own fill.sh prints them over the translation bef042fd789e119d… (all of the seat's roots in one cut). By AI agents, Wed Nov 11 2026. No macro, syntax, notation, axiom, sorry.
-/
import Derived.Test.YthdeooggfdfoiaaChecked
import GoSem.Claim
import GoSem.ClaimJoined
import GoSem.ClaimMapViews
import Derived.JoinedTies
import Derived.KernelRfl
namespace Go.Proofs.Ythdeooggfdfoiaa
/- THE CELL 'sum', in the pinned program and in every row, IS THE sha256 OF THE DUMP (.gsa) THAT YthdeooggfdfoiaaProg.lean LOADS. Nothing in Lean hashes anything: it is a label: what it is worth is what the hold of that sum in a sandbox is worth. -/
noncomputable def Try.pinned : Pinned := { name := "ythdeooggfdfoiaa", sum := "bef042fd789e119dbf95026183f27fa647ca69817b107f4ebfdc423693a65f5c", checked := Try.checked }
namespace Rows
def none {H : Type} : Left H := { results := [], args := [] }

/-- 'minecontrollaw17.LevelSteps': WHATEVER THE INPUT: true; the input reads as it did. -/
def levelStepsSpec : ChangeSpec := { name := "levelSteps", fn := fun _ => fun
  | [d1, d2, d3, d4, d5] => { results := [.lit (.bool true)], args := [d1, d2, d3, d4, d5] }
  | _ => none }
def levelStepsRow : OpenClaim := { program := "ythdeooggfdfoiaa", sum := "bef042fd789e119dbf95026183f27fa647ca69817b107f4ebfdc423693a65f5c", func := "minecontrol/minecontrollaw17.LevelSteps", spec := "levelSteps", apart := false }
def LevelStepsSaid : Prop := levelStepsRow.holds Try.pinned (OpenSpec.ofChange levelStepsSpec)

/-- ITS FALSE NEIGHBOUR: 'it returns false'. Refute it at one input. -/
def levelStepsWrong : ChangeSpec := { name := "levelSteps", fn := fun _ => fun
  | [d1, d2, d3, d4, d5] => { results := [.lit (.bool false)], args := [d1, d2, d3, d4, d5] }
  | _ => none }
def LevelStepsWrongFalsely : Prop := levelStepsRow.holds Try.pinned (OpenSpec.ofChange levelStepsWrong)

/-- 'minecontrollaw17.LevelNext': WHATEVER THE INPUT: true; the input reads as it did. -/
def levelNextSpec : ChangeSpec := { name := "levelNext", fn := fun _ => fun
  | [d1, d2, d3] => { results := [.lit (.bool true)], args := [d1, d2, d3] }
  | _ => none }
def levelNextRow : OpenClaim := { program := "ythdeooggfdfoiaa", sum := "bef042fd789e119dbf95026183f27fa647ca69817b107f4ebfdc423693a65f5c", func := "minecontrol/minecontrollaw17.LevelNext", spec := "levelNext", apart := false }
def LevelNextSaid : Prop := levelNextRow.holds Try.pinned (OpenSpec.ofChange levelNextSpec)

/-- ITS FALSE NEIGHBOUR: 'it returns false'. Refute it at one input. -/
def levelNextWrong : ChangeSpec := { name := "levelNext", fn := fun _ => fun
  | [d1, d2, d3] => { results := [.lit (.bool false)], args := [d1, d2, d3] }
  | _ => none }
def LevelNextWrongFalsely : Prop := levelNextRow.holds Try.pinned (OpenSpec.ofChange levelNextWrong)

/-- 'minecontrollaw17.LevelStories': WHATEVER THE INPUT: true; the input reads as it did. -/
def levelStoriesSpec : ChangeSpec := { name := "levelStories", fn := fun _ => fun
  | [d] => { results := [.lit (.bool true)], args := [d] }
  | _ => none }
def levelStoriesRow : OpenClaim := { program := "ythdeooggfdfoiaa", sum := "bef042fd789e119dbf95026183f27fa647ca69817b107f4ebfdc423693a65f5c", func := "minecontrol/minecontrollaw17.LevelStories", spec := "levelStories", apart := false }
def LevelStoriesSaid : Prop := levelStoriesRow.holds Try.pinned (OpenSpec.ofChange levelStoriesSpec)

/-- ITS FALSE NEIGHBOUR: 'it returns false'. Refute it at one input. -/
def levelStoriesWrong : ChangeSpec := { name := "levelStories", fn := fun _ => fun
  | [d] => { results := [.lit (.bool false)], args := [d] }
  | _ => none }
def LevelStoriesWrongFalsely : Prop := levelStoriesRow.holds Try.pinned (OpenSpec.ofChange levelStoriesWrong)

/-- 'minecontrollaw17.LevelSafe': WHATEVER THE INPUT: true; the input reads as it did. -/
def levelSafeSpec : ChangeSpec := { name := "levelSafe", fn := fun _ => fun
  | [d] => { results := [.lit (.bool true)], args := [d] }
  | _ => none }
def levelSafeRow : OpenClaim := { program := "ythdeooggfdfoiaa", sum := "bef042fd789e119dbf95026183f27fa647ca69817b107f4ebfdc423693a65f5c", func := "minecontrol/minecontrollaw17.LevelSafe", spec := "levelSafe", apart := false }
def LevelSafeSaid : Prop := levelSafeRow.holds Try.pinned (OpenSpec.ofChange levelSafeSpec)

/-- ITS FALSE NEIGHBOUR: 'it returns false'. Refute it at one input. -/
def levelSafeWrong : ChangeSpec := { name := "levelSafe", fn := fun _ => fun
  | [d] => { results := [.lit (.bool false)], args := [d] }
  | _ => none }
def LevelSafeWrongFalsely : Prop := levelSafeRow.holds Try.pinned (OpenSpec.ofChange levelSafeWrong)

/-- 'minecontrollaw17.LevelWider': WHATEVER THE INPUT: true; the input reads as it did. -/
def levelWiderSpec : ChangeSpec := { name := "levelWider", fn := fun _ => fun
  | [d1, d2] => { results := [.lit (.bool true)], args := [d1, d2] }
  | _ => none }
def levelWiderRow : OpenClaim := { program := "ythdeooggfdfoiaa", sum := "bef042fd789e119dbf95026183f27fa647ca69817b107f4ebfdc423693a65f5c", func := "minecontrol/minecontrollaw17.LevelWider", spec := "levelWider", apart := false }
def LevelWiderSaid : Prop := levelWiderRow.holds Try.pinned (OpenSpec.ofChange levelWiderSpec)

/-- ITS FALSE NEIGHBOUR: 'it returns false'. Refute it at one input. -/
def levelWiderWrong : ChangeSpec := { name := "levelWider", fn := fun _ => fun
  | [d1, d2] => { results := [.lit (.bool false)], args := [d1, d2] }
  | _ => none }
def LevelWiderWrongFalsely : Prop := levelWiderRow.holds Try.pinned (OpenSpec.ofChange levelWiderWrong)

/-- 'minecontrollaw17.LevelLonger': WHATEVER THE INPUT: true; the input reads as it did. -/
def levelLongerSpec : ChangeSpec := { name := "levelLonger", fn := fun _ => fun
  | [d1, d2, d3] => { results := [.lit (.bool true)], args := [d1, d2, d3] }
  | _ => none }
def levelLongerRow : OpenClaim := { program := "ythdeooggfdfoiaa", sum := "bef042fd789e119dbf95026183f27fa647ca69817b107f4ebfdc423693a65f5c", func := "minecontrol/minecontrollaw17.LevelLonger", spec := "levelLonger", apart := false }
def LevelLongerSaid : Prop := levelLongerRow.holds Try.pinned (OpenSpec.ofChange levelLongerSpec)

/-- ITS FALSE NEIGHBOUR: 'it returns false'. Refute it at one input. -/
def levelLongerWrong : ChangeSpec := { name := "levelLonger", fn := fun _ => fun
  | [d1, d2, d3] => { results := [.lit (.bool false)], args := [d1, d2, d3] }
  | _ => none }
def LevelLongerWrongFalsely : Prop := levelLongerRow.holds Try.pinned (OpenSpec.ofChange levelLongerWrong)

/- THE SECOND FORM. 'bulk': how many values and letters a reading holds, each counted each time it is reached (what is shared counts as often as it is met; a slice's spare places count too). A statement '..UptoSaid' is the law's where the arguments, and the package variables that the reading takes, are together of bulk at most 1048576: NARROWER than '..Said'. Prove '..Said' where nothing that the law and all that it calls make is longer than what came in: it says more and counts as full. Else prove '..UptoSaid'. A law counts once. -/
mutual
def uptoBulk {H : Type} : DataW H → Nat
  | .lit (.string bytes) => bytes.length + 1
  | .lit _ => 1
  | .nil => 1
  | .ptr d => uptoBulk d + 1
  | .slice elems spare => uptoBulkAll elems + uptoBulkAll spare + 1
  | .agg parts => uptoBulkAll parts + 1
  | .iface _ d => uptoBulk d + 1
  | .map entries => uptoBulkEntries entries + 1
  | .held _ => 1
def uptoBulkAll {H : Type} : List (DataW H) → Nat
  | [] => 0
  | d :: r => uptoBulk d + uptoBulkAll r
def uptoBulkEntries {H : Type} : List (Lit × DataW H) → Nat
  | [] => 0
  | x :: r => uptoBulkEntry x + uptoBulkEntries r
def uptoBulkEntry {H : Type} : Lit × DataW H → Nat
  | (.string bytes, d) => bytes.length + uptoBulk d + 1
  | (_, d) => uptoBulk d + 1
 end
def uptoSmall : (H : Type) → List (DataW H) → Bool := fun _ ds => decide (uptoBulkAll ds ≤ 1048576)
def OpenSpec.upto (s : _root_.Go.ChangeSpec) : _root_.Go.OpenSpec := { _root_.Go.OpenSpec.ofChange s with cond := some uptoSmall }

/-- 'minecontrollaw17.LevelSteps', WHERE WHAT IT READS IS OF BULK AT MOST 1048576: true; the input reads as it did. -/
def levelStepsUptoRow : OpenClaim := { program := "ythdeooggfdfoiaa", sum := "bef042fd789e119dbf95026183f27fa647ca69817b107f4ebfdc423693a65f5c", func := "minecontrol/minecontrollaw17.LevelSteps", spec := "levelSteps", apart := false, narrowed := true }
def LevelStepsUptoSaid : Prop := levelStepsUptoRow.holds Try.pinned (OpenSpec.upto levelStepsSpec)

/-- 'minecontrollaw17.LevelNext', WHERE WHAT IT READS IS OF BULK AT MOST 1048576: true; the input reads as it did. -/
def levelNextUptoRow : OpenClaim := { program := "ythdeooggfdfoiaa", sum := "bef042fd789e119dbf95026183f27fa647ca69817b107f4ebfdc423693a65f5c", func := "minecontrol/minecontrollaw17.LevelNext", spec := "levelNext", apart := false, narrowed := true }
def LevelNextUptoSaid : Prop := levelNextUptoRow.holds Try.pinned (OpenSpec.upto levelNextSpec)

/-- 'minecontrollaw17.LevelStories', WHERE WHAT IT READS IS OF BULK AT MOST 1048576: true; the input reads as it did. -/
def levelStoriesUptoRow : OpenClaim := { program := "ythdeooggfdfoiaa", sum := "bef042fd789e119dbf95026183f27fa647ca69817b107f4ebfdc423693a65f5c", func := "minecontrol/minecontrollaw17.LevelStories", spec := "levelStories", apart := false, narrowed := true }
def LevelStoriesUptoSaid : Prop := levelStoriesUptoRow.holds Try.pinned (OpenSpec.upto levelStoriesSpec)

/-- 'minecontrollaw17.LevelSafe', WHERE WHAT IT READS IS OF BULK AT MOST 1048576: true; the input reads as it did. -/
def levelSafeUptoRow : OpenClaim := { program := "ythdeooggfdfoiaa", sum := "bef042fd789e119dbf95026183f27fa647ca69817b107f4ebfdc423693a65f5c", func := "minecontrol/minecontrollaw17.LevelSafe", spec := "levelSafe", apart := false, narrowed := true }
def LevelSafeUptoSaid : Prop := levelSafeUptoRow.holds Try.pinned (OpenSpec.upto levelSafeSpec)

/-- 'minecontrollaw17.LevelWider', WHERE WHAT IT READS IS OF BULK AT MOST 1048576: true; the input reads as it did. -/
def levelWiderUptoRow : OpenClaim := { program := "ythdeooggfdfoiaa", sum := "bef042fd789e119dbf95026183f27fa647ca69817b107f4ebfdc423693a65f5c", func := "minecontrol/minecontrollaw17.LevelWider", spec := "levelWider", apart := false, narrowed := true }
def LevelWiderUptoSaid : Prop := levelWiderUptoRow.holds Try.pinned (OpenSpec.upto levelWiderSpec)

/-- 'minecontrollaw17.LevelLonger', WHERE WHAT IT READS IS OF BULK AT MOST 1048576: true; the input reads as it did. -/
def levelLongerUptoRow : OpenClaim := { program := "ythdeooggfdfoiaa", sum := "bef042fd789e119dbf95026183f27fa647ca69817b107f4ebfdc423693a65f5c", func := "minecontrol/minecontrollaw17.LevelLonger", spec := "levelLonger", apart := false, narrowed := true }
def LevelLongerUptoSaid : Prop := levelLongerUptoRow.holds Try.pinned (OpenSpec.upto levelLongerSpec)

end Rows
end Go.Proofs.Ythdeooggfdfoiaa
