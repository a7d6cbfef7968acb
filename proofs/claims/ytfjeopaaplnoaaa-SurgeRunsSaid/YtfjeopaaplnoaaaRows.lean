/-
  No cell of these rows narrows 'for every input' (looked for: loops, veiled, ifaces, maps, wideKeys, modest, calm, conditions, laid).
  DERIVED. THE GIVEN ROWS OF THIS SEAT. 12 by the template 'for every input the law returns true; each argument reads behind the call as it read before'; 0 by the template 'total and deterministic' (their statements: YtfjeopaaplnoaaaTotals.lean).
  GIVEN WITH THE SEED: the statements are not yours to turn. If you find one false, say at which input.
  Laid BY PROGRAM, IN A SANDBOX (cutbox-rows.mjs): the forced cells as the released guide's own fill.sh prints them over the translation 4ea3a3047dac68cb… (all of the seat's roots in one cut). By AI agents, Wed Nov 11 2026. No macro, syntax, notation, axiom, sorry.
-/
import Derived.Test.YtfjeopaaplnoaaaChecked
import GoSem.Claim
import GoSem.ClaimJoined
import GoSem.ClaimMapViews
import Derived.JoinedTies
import Derived.KernelRfl
namespace Go.Proofs.Ytfjeopaaplnoaaa
/- THE CELL 'sum', in the pinned program and in every row, IS THE sha256 OF THE DUMP (.gsa) THAT YtfjeopaaplnoaaaProg.lean LOADS. Nothing in Lean hashes anything: it is a label: what it is worth is what the hold of that sum in a sandbox is worth. -/
noncomputable def Try.pinned : Pinned := { name := "ytfjeopaaplnoaaa", sum := "4ea3a3047dac68cbd6c1b8ba103ecb7f99b5bb1ad45d9db263783505b2b38063", checked := Try.checked }
namespace Rows
def none {H : Type} : Left H := { results := [], args := [] }

/-- 'guidevanelaw04.SurgeSteps': WHATEVER THE INPUT: true; the input reads as it did. -/
def surgeStepsSpec : ChangeSpec := { name := "surgeSteps", fn := fun _ => fun
  | [d1, d2, d3] => { results := [.lit (.bool true)], args := [d1, d2, d3] }
  | _ => none }
def surgeStepsRow : OpenClaim := { program := "ytfjeopaaplnoaaa", sum := "4ea3a3047dac68cbd6c1b8ba103ecb7f99b5bb1ad45d9db263783505b2b38063", func := "guidevane/guidevanelaw04.SurgeSteps", spec := "surgeSteps", unfollowed := true, recurses := true, apart := false }
def SurgeStepsSaid : Prop := surgeStepsRow.holds Try.pinned (OpenSpec.ofChange surgeStepsSpec)

/-- ITS FALSE NEIGHBOUR: 'it returns false'. Refute it at one input. -/
def surgeStepsWrong : ChangeSpec := { name := "surgeSteps", fn := fun _ => fun
  | [d1, d2, d3] => { results := [.lit (.bool false)], args := [d1, d2, d3] }
  | _ => none }
def SurgeStepsWrongFalsely : Prop := surgeStepsRow.holds Try.pinned (OpenSpec.ofChange surgeStepsWrong)

/-- 'guidevanelaw04.SurgeNeverCross': WHATEVER THE INPUT: true; the input reads as it did. -/
def surgeNeverCrossSpec : ChangeSpec := { name := "surgeNeverCross", fn := fun _ => fun
  | [d1, d2, d3] => { results := [.lit (.bool true)], args := [d1, d2, d3] }
  | _ => none }
def surgeNeverCrossRow : OpenClaim := { program := "ytfjeopaaplnoaaa", sum := "4ea3a3047dac68cbd6c1b8ba103ecb7f99b5bb1ad45d9db263783505b2b38063", func := "guidevane/guidevanelaw04.SurgeNeverCross", spec := "surgeNeverCross", unfollowed := true, recurses := true, apart := false }
def SurgeNeverCrossSaid : Prop := surgeNeverCrossRow.holds Try.pinned (OpenSpec.ofChange surgeNeverCrossSpec)

/-- ITS FALSE NEIGHBOUR: 'it returns false'. Refute it at one input. -/
def surgeNeverCrossWrong : ChangeSpec := { name := "surgeNeverCross", fn := fun _ => fun
  | [d1, d2, d3] => { results := [.lit (.bool false)], args := [d1, d2, d3] }
  | _ => none }
def SurgeNeverCrossWrongFalsely : Prop := surgeNeverCrossRow.holds Try.pinned (OpenSpec.ofChange surgeNeverCrossWrong)

/-- 'guidevanelaw04.SurgeEnclosed': WHATEVER THE INPUT: true; the input reads as it did. -/
def surgeEnclosedSpec : ChangeSpec := { name := "surgeEnclosed", fn := fun _ => fun
  | [d1, d2, d3] => { results := [.lit (.bool true)], args := [d1, d2, d3] }
  | _ => none }
def surgeEnclosedRow : OpenClaim := { program := "ytfjeopaaplnoaaa", sum := "4ea3a3047dac68cbd6c1b8ba103ecb7f99b5bb1ad45d9db263783505b2b38063", func := "guidevane/guidevanelaw04.SurgeEnclosed", spec := "surgeEnclosed", unfollowed := true, recurses := true, apart := false }
def SurgeEnclosedSaid : Prop := surgeEnclosedRow.holds Try.pinned (OpenSpec.ofChange surgeEnclosedSpec)

/-- ITS FALSE NEIGHBOUR: 'it returns false'. Refute it at one input. -/
def surgeEnclosedWrong : ChangeSpec := { name := "surgeEnclosed", fn := fun _ => fun
  | [d1, d2, d3] => { results := [.lit (.bool false)], args := [d1, d2, d3] }
  | _ => none }
def SurgeEnclosedWrongFalsely : Prop := surgeEnclosedRow.holds Try.pinned (OpenSpec.ofChange surgeEnclosedWrong)

/-- 'guidevanelaw04.SurgeWitnesses': WHATEVER THE INPUT: true; the input reads as it did. -/
def surgeWitnessesSpec : ChangeSpec := { name := "surgeWitnesses", fn := fun _ => fun
  | [d1, d2, d3] => { results := [.lit (.bool true)], args := [d1, d2, d3] }
  | _ => none }
def surgeWitnessesRow : OpenClaim := { program := "ytfjeopaaplnoaaa", sum := "4ea3a3047dac68cbd6c1b8ba103ecb7f99b5bb1ad45d9db263783505b2b38063", func := "guidevane/guidevanelaw04.SurgeWitnesses", spec := "surgeWitnesses", unfollowed := true, recurses := true, apart := false }
def SurgeWitnessesSaid : Prop := surgeWitnessesRow.holds Try.pinned (OpenSpec.ofChange surgeWitnessesSpec)

/-- ITS FALSE NEIGHBOUR: 'it returns false'. Refute it at one input. -/
def surgeWitnessesWrong : ChangeSpec := { name := "surgeWitnesses", fn := fun _ => fun
  | [d1, d2, d3] => { results := [.lit (.bool false)], args := [d1, d2, d3] }
  | _ => none }
def SurgeWitnessesWrongFalsely : Prop := surgeWitnessesRow.holds Try.pinned (OpenSpec.ofChange surgeWitnessesWrong)

/-- 'guidevanelaw04.SurgePlans': WHATEVER THE INPUT: true; the input reads as it did. -/
def surgePlansSpec : ChangeSpec := { name := "surgePlans", fn := fun _ => fun
  | [d1, d2, d3] => { results := [.lit (.bool true)], args := [d1, d2, d3] }
  | _ => none }
def surgePlansRow : OpenClaim := { program := "ytfjeopaaplnoaaa", sum := "4ea3a3047dac68cbd6c1b8ba103ecb7f99b5bb1ad45d9db263783505b2b38063", func := "guidevane/guidevanelaw04.SurgePlans", spec := "surgePlans", unfollowed := true, recurses := true, apart := false }
def SurgePlansSaid : Prop := surgePlansRow.holds Try.pinned (OpenSpec.ofChange surgePlansSpec)

/-- ITS FALSE NEIGHBOUR: 'it returns false'. Refute it at one input. -/
def surgePlansWrong : ChangeSpec := { name := "surgePlans", fn := fun _ => fun
  | [d1, d2, d3] => { results := [.lit (.bool false)], args := [d1, d2, d3] }
  | _ => none }
def SurgePlansWrongFalsely : Prop := surgePlansRow.holds Try.pinned (OpenSpec.ofChange surgePlansWrong)

/-- 'guidevanelaw04.SurgeRuns': WHATEVER THE INPUT: true; the input reads as it did. -/
def surgeRunsSpec : ChangeSpec := { name := "surgeRuns", fn := fun _ => fun
  | [d1, d2, d3] => { results := [.lit (.bool true)], args := [d1, d2, d3] }
  | _ => none }
def surgeRunsRow : OpenClaim := { program := "ytfjeopaaplnoaaa", sum := "4ea3a3047dac68cbd6c1b8ba103ecb7f99b5bb1ad45d9db263783505b2b38063", func := "guidevane/guidevanelaw04.SurgeRuns", spec := "surgeRuns", unfollowed := true, recurses := true, apart := false }
def SurgeRunsSaid : Prop := surgeRunsRow.holds Try.pinned (OpenSpec.ofChange surgeRunsSpec)

/-- ITS FALSE NEIGHBOUR: 'it returns false'. Refute it at one input. -/
def surgeRunsWrong : ChangeSpec := { name := "surgeRuns", fn := fun _ => fun
  | [d1, d2, d3] => { results := [.lit (.bool false)], args := [d1, d2, d3] }
  | _ => none }
def SurgeRunsWrongFalsely : Prop := surgeRunsRow.holds Try.pinned (OpenSpec.ofChange surgeRunsWrong)

/-- 'guidevanelaw04.SurgeGap': WHATEVER THE INPUT: true; the input reads as it did. -/
def surgeGapSpec : ChangeSpec := { name := "surgeGap", fn := fun _ => fun
  | [d1, d2, d3] => { results := [.lit (.bool true)], args := [d1, d2, d3] }
  | _ => none }
def surgeGapRow : OpenClaim := { program := "ytfjeopaaplnoaaa", sum := "4ea3a3047dac68cbd6c1b8ba103ecb7f99b5bb1ad45d9db263783505b2b38063", func := "guidevane/guidevanelaw04.SurgeGap", spec := "surgeGap", unfollowed := true, recurses := true, apart := false }
def SurgeGapSaid : Prop := surgeGapRow.holds Try.pinned (OpenSpec.ofChange surgeGapSpec)

/-- ITS FALSE NEIGHBOUR: 'it returns false'. Refute it at one input. -/
def surgeGapWrong : ChangeSpec := { name := "surgeGap", fn := fun _ => fun
  | [d1, d2, d3] => { results := [.lit (.bool false)], args := [d1, d2, d3] }
  | _ => none }
def SurgeGapWrongFalsely : Prop := surgeGapRow.holds Try.pinned (OpenSpec.ofChange surgeGapWrong)

/-- 'guidevanelaw04.SurgeAreas': WHATEVER THE INPUT: true; the input reads as it did. -/
def surgeAreasSpec : ChangeSpec := { name := "surgeAreas", fn := fun _ => fun
  | [d1, d2, d3] => { results := [.lit (.bool true)], args := [d1, d2, d3] }
  | _ => none }
def surgeAreasRow : OpenClaim := { program := "ytfjeopaaplnoaaa", sum := "4ea3a3047dac68cbd6c1b8ba103ecb7f99b5bb1ad45d9db263783505b2b38063", func := "guidevane/guidevanelaw04.SurgeAreas", spec := "surgeAreas", unfollowed := true, recurses := true, apart := false }
def SurgeAreasSaid : Prop := surgeAreasRow.holds Try.pinned (OpenSpec.ofChange surgeAreasSpec)

/-- ITS FALSE NEIGHBOUR: 'it returns false'. Refute it at one input. -/
def surgeAreasWrong : ChangeSpec := { name := "surgeAreas", fn := fun _ => fun
  | [d1, d2, d3] => { results := [.lit (.bool false)], args := [d1, d2, d3] }
  | _ => none }
def SurgeAreasWrongFalsely : Prop := surgeAreasRow.holds Try.pinned (OpenSpec.ofChange surgeAreasWrong)

/-- 'guidevanelaw04.SurgeBounds': WHATEVER THE INPUT: true; the input reads as it did. -/
def surgeBoundsSpec : ChangeSpec := { name := "surgeBounds", fn := fun _ => fun
  | [d1, d2, d3] => { results := [.lit (.bool true)], args := [d1, d2, d3] }
  | _ => none }
def surgeBoundsRow : OpenClaim := { program := "ytfjeopaaplnoaaa", sum := "4ea3a3047dac68cbd6c1b8ba103ecb7f99b5bb1ad45d9db263783505b2b38063", func := "guidevane/guidevanelaw04.SurgeBounds", spec := "surgeBounds", unfollowed := true, recurses := true, apart := false }
def SurgeBoundsSaid : Prop := surgeBoundsRow.holds Try.pinned (OpenSpec.ofChange surgeBoundsSpec)

/-- ITS FALSE NEIGHBOUR: 'it returns false'. Refute it at one input. -/
def surgeBoundsWrong : ChangeSpec := { name := "surgeBounds", fn := fun _ => fun
  | [d1, d2, d3] => { results := [.lit (.bool false)], args := [d1, d2, d3] }
  | _ => none }
def SurgeBoundsWrongFalsely : Prop := surgeBoundsRow.holds Try.pinned (OpenSpec.ofChange surgeBoundsWrong)

/-- 'guidevanelaw04.SurgeWaits': WHATEVER THE INPUT: true; the input reads as it did. -/
def surgeWaitsSpec : ChangeSpec := { name := "surgeWaits", fn := fun _ => fun
  | [d1, d2, d3] => { results := [.lit (.bool true)], args := [d1, d2, d3] }
  | _ => none }
def surgeWaitsRow : OpenClaim := { program := "ytfjeopaaplnoaaa", sum := "4ea3a3047dac68cbd6c1b8ba103ecb7f99b5bb1ad45d9db263783505b2b38063", func := "guidevane/guidevanelaw04.SurgeWaits", spec := "surgeWaits", unfollowed := true, recurses := true, apart := false }
def SurgeWaitsSaid : Prop := surgeWaitsRow.holds Try.pinned (OpenSpec.ofChange surgeWaitsSpec)

/-- ITS FALSE NEIGHBOUR: 'it returns false'. Refute it at one input. -/
def surgeWaitsWrong : ChangeSpec := { name := "surgeWaits", fn := fun _ => fun
  | [d1, d2, d3] => { results := [.lit (.bool false)], args := [d1, d2, d3] }
  | _ => none }
def SurgeWaitsWrongFalsely : Prop := surgeWaitsRow.holds Try.pinned (OpenSpec.ofChange surgeWaitsWrong)

/-- 'guidevanelaw04.SurgeCovers': WHATEVER THE INPUT: true; the input reads as it did. -/
def surgeCoversSpec : ChangeSpec := { name := "surgeCovers", fn := fun _ => fun
  | [d1, d2, d3] => { results := [.lit (.bool true)], args := [d1, d2, d3] }
  | _ => none }
def surgeCoversRow : OpenClaim := { program := "ytfjeopaaplnoaaa", sum := "4ea3a3047dac68cbd6c1b8ba103ecb7f99b5bb1ad45d9db263783505b2b38063", func := "guidevane/guidevanelaw04.SurgeCovers", spec := "surgeCovers", unfollowed := true, recurses := true, apart := false }
def SurgeCoversSaid : Prop := surgeCoversRow.holds Try.pinned (OpenSpec.ofChange surgeCoversSpec)

/-- ITS FALSE NEIGHBOUR: 'it returns false'. Refute it at one input. -/
def surgeCoversWrong : ChangeSpec := { name := "surgeCovers", fn := fun _ => fun
  | [d1, d2, d3] => { results := [.lit (.bool false)], args := [d1, d2, d3] }
  | _ => none }
def SurgeCoversWrongFalsely : Prop := surgeCoversRow.holds Try.pinned (OpenSpec.ofChange surgeCoversWrong)

/-- 'guidevanelaw04.SurgeCovered': WHATEVER THE INPUT: true; the input reads as it did. -/
def surgeCoveredSpec : ChangeSpec := { name := "surgeCovered", fn := fun _ => fun
  | [d1, d2, d3] => { results := [.lit (.bool true)], args := [d1, d2, d3] }
  | _ => none }
def surgeCoveredRow : OpenClaim := { program := "ytfjeopaaplnoaaa", sum := "4ea3a3047dac68cbd6c1b8ba103ecb7f99b5bb1ad45d9db263783505b2b38063", func := "guidevane/guidevanelaw04.SurgeCovered", spec := "surgeCovered", unfollowed := true, recurses := true, apart := false }
def SurgeCoveredSaid : Prop := surgeCoveredRow.holds Try.pinned (OpenSpec.ofChange surgeCoveredSpec)

/-- ITS FALSE NEIGHBOUR: 'it returns false'. Refute it at one input. -/
def surgeCoveredWrong : ChangeSpec := { name := "surgeCovered", fn := fun _ => fun
  | [d1, d2, d3] => { results := [.lit (.bool false)], args := [d1, d2, d3] }
  | _ => none }
def SurgeCoveredWrongFalsely : Prop := surgeCoveredRow.holds Try.pinned (OpenSpec.ofChange surgeCoveredWrong)

/- THE SECOND FORM. 'bulk': how many values and letters a reading holds, each counted each time it is reached (what is shared counts as often as it is met; a slice's spare places count too). A statement '..UptoSaid' is the law's where the arguments, and the package variables that the reading takes, are together of bulk at most 1048576: NARROWER than '..Said'. Prove '..Said' where nothing that the law and all that it calls make is longer than what came in: it says more and counts as full. Else prove '..UptoSaid'. A law counts once. -/
mutual
def uptoBulk {H : Type} : DataW H → Nat
  | .lit (.string bytes) => bytes.length + 1
  | .lit _ => 1
  | .nil => 1
  | .ptr d => uptoBulk d + 1
  | .slice elems spare => uptoBulkAll elems + uptoBulkAll spare + 1
  | .agg parts => uptoBulkAll parts + 1
  | .iface _ d => uptoBulk d + 1
  | .map entries => uptoBulkEntries entries + 1
  | .held _ => 1
def uptoBulkAll {H : Type} : List (DataW H) → Nat
  | [] => 0
  | d :: r => uptoBulk d + uptoBulkAll r
def uptoBulkEntries {H : Type} : List (Lit × DataW H) → Nat
  | [] => 0
  | x :: r => uptoBulkEntry x + uptoBulkEntries r
def uptoBulkEntry {H : Type} : Lit × DataW H → Nat
  | (.string bytes, d) => bytes.length + uptoBulk d + 1
  | (_, d) => uptoBulk d + 1
 end
def uptoSmall : (H : Type) → List (DataW H) → Bool := fun _ ds => decide (uptoBulkAll ds ≤ 1048576)
def OpenSpec.upto (s : _root_.Go.ChangeSpec) : _root_.Go.OpenSpec := { _root_.Go.OpenSpec.ofChange s with cond := some uptoSmall }

/-- 'guidevanelaw04.SurgeSteps', WHERE WHAT IT READS IS OF BULK AT MOST 1048576: true; the input reads as it did. -/
def surgeStepsUptoRow : OpenClaim := { program := "ytfjeopaaplnoaaa", sum := "4ea3a3047dac68cbd6c1b8ba103ecb7f99b5bb1ad45d9db263783505b2b38063", func := "guidevane/guidevanelaw04.SurgeSteps", spec := "surgeSteps", unfollowed := true, recurses := true, apart := false, narrowed := true }
def SurgeStepsUptoSaid : Prop := surgeStepsUptoRow.holds Try.pinned (OpenSpec.upto surgeStepsSpec)

/-- 'guidevanelaw04.SurgeNeverCross', WHERE WHAT IT READS IS OF BULK AT MOST 1048576: true; the input reads as it did. -/
def surgeNeverCrossUptoRow : OpenClaim := { program := "ytfjeopaaplnoaaa", sum := "4ea3a3047dac68cbd6c1b8ba103ecb7f99b5bb1ad45d9db263783505b2b38063", func := "guidevane/guidevanelaw04.SurgeNeverCross", spec := "surgeNeverCross", unfollowed := true, recurses := true, apart := false, narrowed := true }
def SurgeNeverCrossUptoSaid : Prop := surgeNeverCrossUptoRow.holds Try.pinned (OpenSpec.upto surgeNeverCrossSpec)

/-- 'guidevanelaw04.SurgeEnclosed', WHERE WHAT IT READS IS OF BULK AT MOST 1048576: true; the input reads as it did. -/
def surgeEnclosedUptoRow : OpenClaim := { program := "ytfjeopaaplnoaaa", sum := "4ea3a3047dac68cbd6c1b8ba103ecb7f99b5bb1ad45d9db263783505b2b38063", func := "guidevane/guidevanelaw04.SurgeEnclosed", spec := "surgeEnclosed", unfollowed := true, recurses := true, apart := false, narrowed := true }
def SurgeEnclosedUptoSaid : Prop := surgeEnclosedUptoRow.holds Try.pinned (OpenSpec.upto surgeEnclosedSpec)

/-- 'guidevanelaw04.SurgeWitnesses', WHERE WHAT IT READS IS OF BULK AT MOST 1048576: true; the input reads as it did. -/
def surgeWitnessesUptoRow : OpenClaim := { program := "ytfjeopaaplnoaaa", sum := "4ea3a3047dac68cbd6c1b8ba103ecb7f99b5bb1ad45d9db263783505b2b38063", func := "guidevane/guidevanelaw04.SurgeWitnesses", spec := "surgeWitnesses", unfollowed := true, recurses := true, apart := false, narrowed := true }
def SurgeWitnessesUptoSaid : Prop := surgeWitnessesUptoRow.holds Try.pinned (OpenSpec.upto surgeWitnessesSpec)

/-- 'guidevanelaw04.SurgePlans', WHERE WHAT IT READS IS OF BULK AT MOST 1048576: true; the input reads as it did. -/
def surgePlansUptoRow : OpenClaim := { program := "ytfjeopaaplnoaaa", sum := "4ea3a3047dac68cbd6c1b8ba103ecb7f99b5bb1ad45d9db263783505b2b38063", func := "guidevane/guidevanelaw04.SurgePlans", spec := "surgePlans", unfollowed := true, recurses := true, apart := false, narrowed := true }
def SurgePlansUptoSaid : Prop := surgePlansUptoRow.holds Try.pinned (OpenSpec.upto surgePlansSpec)

/-- 'guidevanelaw04.SurgeRuns', WHERE WHAT IT READS IS OF BULK AT MOST 1048576: true; the input reads as it did. -/
def surgeRunsUptoRow : OpenClaim := { program := "ytfjeopaaplnoaaa", sum := "4ea3a3047dac68cbd6c1b8ba103ecb7f99b5bb1ad45d9db263783505b2b38063", func := "guidevane/guidevanelaw04.SurgeRuns", spec := "surgeRuns", unfollowed := true, recurses := true, apart := false, narrowed := true }
def SurgeRunsUptoSaid : Prop := surgeRunsUptoRow.holds Try.pinned (OpenSpec.upto surgeRunsSpec)

/-- 'guidevanelaw04.SurgeGap', WHERE WHAT IT READS IS OF BULK AT MOST 1048576: true; the input reads as it did. -/
def surgeGapUptoRow : OpenClaim := { program := "ytfjeopaaplnoaaa", sum := "4ea3a3047dac68cbd6c1b8ba103ecb7f99b5bb1ad45d9db263783505b2b38063", func := "guidevane/guidevanelaw04.SurgeGap", spec := "surgeGap", unfollowed := true, recurses := true, apart := false, narrowed := true }
def SurgeGapUptoSaid : Prop := surgeGapUptoRow.holds Try.pinned (OpenSpec.upto surgeGapSpec)

/-- 'guidevanelaw04.SurgeAreas', WHERE WHAT IT READS IS OF BULK AT MOST 1048576: true; the input reads as it did. -/
def surgeAreasUptoRow : OpenClaim := { program := "ytfjeopaaplnoaaa", sum := "4ea3a3047dac68cbd6c1b8ba103ecb7f99b5bb1ad45d9db263783505b2b38063", func := "guidevane/guidevanelaw04.SurgeAreas", spec := "surgeAreas", unfollowed := true, recurses := true, apart := false, narrowed := true }
def SurgeAreasUptoSaid : Prop := surgeAreasUptoRow.holds Try.pinned (OpenSpec.upto surgeAreasSpec)

/-- 'guidevanelaw04.SurgeBounds', WHERE WHAT IT READS IS OF BULK AT MOST 1048576: true; the input reads as it did. -/
def surgeBoundsUptoRow : OpenClaim := { program := "ytfjeopaaplnoaaa", sum := "4ea3a3047dac68cbd6c1b8ba103ecb7f99b5bb1ad45d9db263783505b2b38063", func := "guidevane/guidevanelaw04.SurgeBounds", spec := "surgeBounds", unfollowed := true, recurses := true, apart := false, narrowed := true }
def SurgeBoundsUptoSaid : Prop := surgeBoundsUptoRow.holds Try.pinned (OpenSpec.upto surgeBoundsSpec)

/-- 'guidevanelaw04.SurgeWaits', WHERE WHAT IT READS IS OF BULK AT MOST 1048576: true; the input reads as it did. -/
def surgeWaitsUptoRow : OpenClaim := { program := "ytfjeopaaplnoaaa", sum := "4ea3a3047dac68cbd6c1b8ba103ecb7f99b5bb1ad45d9db263783505b2b38063", func := "guidevane/guidevanelaw04.SurgeWaits", spec := "surgeWaits", unfollowed := true, recurses := true, apart := false, narrowed := true }
def SurgeWaitsUptoSaid : Prop := surgeWaitsUptoRow.holds Try.pinned (OpenSpec.upto surgeWaitsSpec)

/-- 'guidevanelaw04.SurgeCovers', WHERE WHAT IT READS IS OF BULK AT MOST 1048576: true; the input reads as it did. -/
def surgeCoversUptoRow : OpenClaim := { program := "ytfjeopaaplnoaaa", sum := "4ea3a3047dac68cbd6c1b8ba103ecb7f99b5bb1ad45d9db263783505b2b38063", func := "guidevane/guidevanelaw04.SurgeCovers", spec := "surgeCovers", unfollowed := true, recurses := true, apart := false, narrowed := true }
def SurgeCoversUptoSaid : Prop := surgeCoversUptoRow.holds Try.pinned (OpenSpec.upto surgeCoversSpec)

/-- 'guidevanelaw04.SurgeCovered', WHERE WHAT IT READS IS OF BULK AT MOST 1048576: true; the input reads as it did. -/
def surgeCoveredUptoRow : OpenClaim := { program := "ytfjeopaaplnoaaa", sum := "4ea3a3047dac68cbd6c1b8ba103ecb7f99b5bb1ad45d9db263783505b2b38063", func := "guidevane/guidevanelaw04.SurgeCovered", spec := "surgeCovered", unfollowed := true, recurses := true, apart := false, narrowed := true }
def SurgeCoveredUptoSaid : Prop := surgeCoveredUptoRow.holds Try.pinned (OpenSpec.upto surgeCoveredSpec)

end Rows
end Go.Proofs.Ytfjeopaaplnoaaa
