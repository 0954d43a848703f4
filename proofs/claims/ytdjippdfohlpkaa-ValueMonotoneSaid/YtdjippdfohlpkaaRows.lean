/-
  No cell of these rows narrows 'for every input' (looked for: loops, veiled, ifaces, maps, wideKeys, modest, calm, conditions, laid).
  DERIVED. THE GIVEN ROWS OF THIS SEAT. 6 by the template 'for every input the law returns true; each argument reads behind the call as it read before'; 0 by the template 'total and deterministic' (their statements: YtdjippdfohlpkaaTotals.lean).
  GIVEN WITH THE SEED: the statements are not yours to turn. If you find one false, say at which input.
  Laid BY PROGRAM, IN A SANDBOX (cutbox-rows.mjs): the forced cells as the released guide's own fill.sh prints them over the translation 33a5108921a75bbc… (all of the seat's roots in one cut). By AI agents, Wed Nov 11 2026. No macro, syntax, notation, axiom, sorry.
-/
import Derived.Test.YtdjippdfohlpkaaChecked
import GoSem.Claim
import GoSem.ClaimJoined
import GoSem.ClaimMapViews
import Derived.JoinedTies
import Derived.KernelRfl
namespace Go.Proofs.Ytdjippdfohlpkaa
/- THE CELL 'sum', in the pinned program and in every row, IS THE sha256 OF THE DUMP (.gsa) THAT YtdjippdfohlpkaaProg.lean LOADS. Nothing in Lean hashes anything: it is a label: what it is worth is what the hold of that sum in a sandbox is worth. -/
noncomputable def Try.pinned : Pinned := { name := "ytdjippdfohlpkaa", sum := "33a5108921a75bbcc3a1210c43edad5077b12049a93b76fed17dbf19d30cb8c1", checked := Try.checked }
namespace Rows
def none {H : Type} : Left H := { results := [], args := [] }

/-- 'ontimelaw28.ValueOutcomes': WHATEVER THE INPUT: true; the input reads as it did. -/
def valueOutcomesSpec : ChangeSpec := { name := "valueOutcomes", fn := fun _ => fun
  | [d1, d2, d3] => { results := [.lit (.bool true)], args := [d1, d2, d3] }
  | _ => none }
def valueOutcomesRow : OpenClaim := { program := "ytdjippdfohlpkaa", sum := "33a5108921a75bbcc3a1210c43edad5077b12049a93b76fed17dbf19d30cb8c1", func := "ontime/ontimelaw28.ValueOutcomes", spec := "valueOutcomes", unfollowed := true, recurses := true, plainKeys := false, apart := false }
def ValueOutcomesSaid : Prop := valueOutcomesRow.holds Try.pinned (OpenSpec.ofChange valueOutcomesSpec)

/-- ITS FALSE NEIGHBOUR: 'it returns false'. Refute it at one input. -/
def valueOutcomesWrong : ChangeSpec := { name := "valueOutcomes", fn := fun _ => fun
  | [d1, d2, d3] => { results := [.lit (.bool false)], args := [d1, d2, d3] }
  | _ => none }
def ValueOutcomesWrongFalsely : Prop := valueOutcomesRow.holds Try.pinned (OpenSpec.ofChange valueOutcomesWrong)

/-- 'ontimelaw28.ValueBefore': WHATEVER THE INPUT: true; the input reads as it did. -/
def valueBeforeSpec : ChangeSpec := { name := "valueBefore", fn := fun _ => fun
  | [d1, d2, d3] => { results := [.lit (.bool true)], args := [d1, d2, d3] }
  | _ => none }
def valueBeforeRow : OpenClaim := { program := "ytdjippdfohlpkaa", sum := "33a5108921a75bbcc3a1210c43edad5077b12049a93b76fed17dbf19d30cb8c1", func := "ontime/ontimelaw28.ValueBefore", spec := "valueBefore", unfollowed := true, recurses := true, plainKeys := false, apart := false }
def ValueBeforeSaid : Prop := valueBeforeRow.holds Try.pinned (OpenSpec.ofChange valueBeforeSpec)

/-- ITS FALSE NEIGHBOUR: 'it returns false'. Refute it at one input. -/
def valueBeforeWrong : ChangeSpec := { name := "valueBefore", fn := fun _ => fun
  | [d1, d2, d3] => { results := [.lit (.bool false)], args := [d1, d2, d3] }
  | _ => none }
def ValueBeforeWrongFalsely : Prop := valueBeforeRow.holds Try.pinned (OpenSpec.ofChange valueBeforeWrong)

/-- 'ontimelaw28.ValueFixed': WHATEVER THE INPUT: true; the input reads as it did. -/
def valueFixedSpec : ChangeSpec := { name := "valueFixed", fn := fun _ => fun
  | [d1, d2] => { results := [.lit (.bool true)], args := [d1, d2] }
  | _ => none }
def valueFixedRow : OpenClaim := { program := "ytdjippdfohlpkaa", sum := "33a5108921a75bbcc3a1210c43edad5077b12049a93b76fed17dbf19d30cb8c1", func := "ontime/ontimelaw28.ValueFixed", spec := "valueFixed", unfollowed := true, recurses := true, plainKeys := false, apart := false }
def ValueFixedSaid : Prop := valueFixedRow.holds Try.pinned (OpenSpec.ofChange valueFixedSpec)

/-- ITS FALSE NEIGHBOUR: 'it returns false'. Refute it at one input. -/
def valueFixedWrong : ChangeSpec := { name := "valueFixed", fn := fun _ => fun
  | [d1, d2] => { results := [.lit (.bool false)], args := [d1, d2] }
  | _ => none }
def ValueFixedWrongFalsely : Prop := valueFixedRow.holds Try.pinned (OpenSpec.ofChange valueFixedWrong)

/-- 'ontimelaw28.ValueMonotone': WHATEVER THE INPUT: true; the input reads as it did. -/
def valueMonotoneSpec : ChangeSpec := { name := "valueMonotone", fn := fun _ => fun
  | [d1, d2, d3, d4] => { results := [.lit (.bool true)], args := [d1, d2, d3, d4] }
  | _ => none }
def valueMonotoneRow : OpenClaim := { program := "ytdjippdfohlpkaa", sum := "33a5108921a75bbcc3a1210c43edad5077b12049a93b76fed17dbf19d30cb8c1", func := "ontime/ontimelaw28.ValueMonotone", spec := "valueMonotone", unfollowed := true, recurses := true, plainKeys := false, apart := false }
def ValueMonotoneSaid : Prop := valueMonotoneRow.holds Try.pinned (OpenSpec.ofChange valueMonotoneSpec)

/-- ITS FALSE NEIGHBOUR: 'it returns false'. Refute it at one input. -/
def valueMonotoneWrong : ChangeSpec := { name := "valueMonotone", fn := fun _ => fun
  | [d1, d2, d3, d4] => { results := [.lit (.bool false)], args := [d1, d2, d3, d4] }
  | _ => none }
def ValueMonotoneWrongFalsely : Prop := valueMonotoneRow.holds Try.pinned (OpenSpec.ofChange valueMonotoneWrong)

/-- 'ontimelaw28.ValueSteps': WHATEVER THE INPUT: true; the input reads as it did. -/
def valueStepsSpec : ChangeSpec := { name := "valueSteps", fn := fun _ => fun
  | [d1, d2, d3, d4] => { results := [.lit (.bool true)], args := [d1, d2, d3, d4] }
  | _ => none }
def valueStepsRow : OpenClaim := { program := "ytdjippdfohlpkaa", sum := "33a5108921a75bbcc3a1210c43edad5077b12049a93b76fed17dbf19d30cb8c1", func := "ontime/ontimelaw28.ValueSteps", spec := "valueSteps", unfollowed := true, recurses := true, plainKeys := false, apart := false }
def ValueStepsSaid : Prop := valueStepsRow.holds Try.pinned (OpenSpec.ofChange valueStepsSpec)

/-- ITS FALSE NEIGHBOUR: 'it returns false'. Refute it at one input. -/
def valueStepsWrong : ChangeSpec := { name := "valueSteps", fn := fun _ => fun
  | [d1, d2, d3, d4] => { results := [.lit (.bool false)], args := [d1, d2, d3, d4] }
  | _ => none }
def ValueStepsWrongFalsely : Prop := valueStepsRow.holds Try.pinned (OpenSpec.ofChange valueStepsWrong)

/-- 'ontimelaw28.ValueSound': WHATEVER THE INPUT: true; the input reads as it did. -/
def valueSoundSpec : ChangeSpec := { name := "valueSound", fn := fun _ => fun
  | [d1, d2, d3, d4, d5] => { results := [.lit (.bool true)], args := [d1, d2, d3, d4, d5] }
  | _ => none }
def valueSoundRow : OpenClaim := { program := "ytdjippdfohlpkaa", sum := "33a5108921a75bbcc3a1210c43edad5077b12049a93b76fed17dbf19d30cb8c1", func := "ontime/ontimelaw28.ValueSound", spec := "valueSound", unfollowed := true, recurses := true, plainKeys := false, apart := false }
def ValueSoundSaid : Prop := valueSoundRow.holds Try.pinned (OpenSpec.ofChange valueSoundSpec)

/-- ITS FALSE NEIGHBOUR: 'it returns false'. Refute it at one input. -/
def valueSoundWrong : ChangeSpec := { name := "valueSound", fn := fun _ => fun
  | [d1, d2, d3, d4, d5] => { results := [.lit (.bool false)], args := [d1, d2, d3, d4, d5] }
  | _ => none }
def ValueSoundWrongFalsely : Prop := valueSoundRow.holds Try.pinned (OpenSpec.ofChange valueSoundWrong)

/- THE SECOND FORM. 'bulk': how many values and letters a reading holds, each counted each time it is reached (what is shared counts as often as it is met; a slice's spare places count too). A statement '..UptoSaid' is the law's where the arguments, and the package variables that the reading takes, are together of bulk at most 1048576: NARROWER than '..Said'. Prove '..Said' where nothing that the law and all that it calls make is longer than what came in: it says more and counts as full. Else prove '..UptoSaid'. A law counts once. -/
mutual
def uptoBulk {H : Type} : DataW H → Nat
  | .lit (.string bytes) => bytes.length + 1
  | .lit _ => 1
  | .nil => 1
  | .ptr d => uptoBulk d + 1
  | .slice elems spare => uptoBulkAll elems + uptoBulkAll spare + 1
  | .agg parts => uptoBulkAll parts + 1
  | .iface _ d => uptoBulk d + 1
  | .map entries => uptoBulkEntries entries + 1
  | .held _ => 1
def uptoBulkAll {H : Type} : List (DataW H) → Nat
  | [] => 0
  | d :: r => uptoBulk d + uptoBulkAll r
def uptoBulkEntries {H : Type} : List (Lit × DataW H) → Nat
  | [] => 0
  | x :: r => uptoBulkEntry x + uptoBulkEntries r
def uptoBulkEntry {H : Type} : Lit × DataW H → Nat
  | (.string bytes, d) => bytes.length + uptoBulk d + 1
  | (_, d) => uptoBulk d + 1
 end
def uptoSmall : (H : Type) → List (DataW H) → Bool := fun _ ds => decide (uptoBulkAll ds ≤ 1048576)
def OpenSpec.upto (s : _root_.Go.ChangeSpec) : _root_.Go.OpenSpec := { _root_.Go.OpenSpec.ofChange s with cond := some uptoSmall }

/-- 'ontimelaw28.ValueOutcomes', WHERE WHAT IT READS IS OF BULK AT MOST 1048576: true; the input reads as it did. -/
def valueOutcomesUptoRow : OpenClaim := { program := "ytdjippdfohlpkaa", sum := "33a5108921a75bbcc3a1210c43edad5077b12049a93b76fed17dbf19d30cb8c1", func := "ontime/ontimelaw28.ValueOutcomes", spec := "valueOutcomes", unfollowed := true, recurses := true, plainKeys := false, apart := false, narrowed := true }
def ValueOutcomesUptoSaid : Prop := valueOutcomesUptoRow.holds Try.pinned (OpenSpec.upto valueOutcomesSpec)

/-- 'ontimelaw28.ValueBefore', WHERE WHAT IT READS IS OF BULK AT MOST 1048576: true; the input reads as it did. -/
def valueBeforeUptoRow : OpenClaim := { program := "ytdjippdfohlpkaa", sum := "33a5108921a75bbcc3a1210c43edad5077b12049a93b76fed17dbf19d30cb8c1", func := "ontime/ontimelaw28.ValueBefore", spec := "valueBefore", unfollowed := true, recurses := true, plainKeys := false, apart := false, narrowed := true }
def ValueBeforeUptoSaid : Prop := valueBeforeUptoRow.holds Try.pinned (OpenSpec.upto valueBeforeSpec)

/-- 'ontimelaw28.ValueFixed', WHERE WHAT IT READS IS OF BULK AT MOST 1048576: true; the input reads as it did. -/
def valueFixedUptoRow : OpenClaim := { program := "ytdjippdfohlpkaa", sum := "33a5108921a75bbcc3a1210c43edad5077b12049a93b76fed17dbf19d30cb8c1", func := "ontime/ontimelaw28.ValueFixed", spec := "valueFixed", unfollowed := true, recurses := true, plainKeys := false, apart := false, narrowed := true }
def ValueFixedUptoSaid : Prop := valueFixedUptoRow.holds Try.pinned (OpenSpec.upto valueFixedSpec)

/-- 'ontimelaw28.ValueMonotone', WHERE WHAT IT READS IS OF BULK AT MOST 1048576: true; the input reads as it did. -/
def valueMonotoneUptoRow : OpenClaim := { program := "ytdjippdfohlpkaa", sum := "33a5108921a75bbcc3a1210c43edad5077b12049a93b76fed17dbf19d30cb8c1", func := "ontime/ontimelaw28.ValueMonotone", spec := "valueMonotone", unfollowed := true, recurses := true, plainKeys := false, apart := false, narrowed := true }
def ValueMonotoneUptoSaid : Prop := valueMonotoneUptoRow.holds Try.pinned (OpenSpec.upto valueMonotoneSpec)

/-- 'ontimelaw28.ValueSteps', WHERE WHAT IT READS IS OF BULK AT MOST 1048576: true; the input reads as it did. -/
def valueStepsUptoRow : OpenClaim := { program := "ytdjippdfohlpkaa", sum := "33a5108921a75bbcc3a1210c43edad5077b12049a93b76fed17dbf19d30cb8c1", func := "ontime/ontimelaw28.ValueSteps", spec := "valueSteps", unfollowed := true, recurses := true, plainKeys := false, apart := false, narrowed := true }
def ValueStepsUptoSaid : Prop := valueStepsUptoRow.holds Try.pinned (OpenSpec.upto valueStepsSpec)

/-- 'ontimelaw28.ValueSound', WHERE WHAT IT READS IS OF BULK AT MOST 1048576: true; the input reads as it did. -/
def valueSoundUptoRow : OpenClaim := { program := "ytdjippdfohlpkaa", sum := "33a5108921a75bbcc3a1210c43edad5077b12049a93b76fed17dbf19d30cb8c1", func := "ontime/ontimelaw28.ValueSound", spec := "valueSound", unfollowed := true, recurses := true, plainKeys := false, apart := false, narrowed := true }
def ValueSoundUptoSaid : Prop := valueSoundUptoRow.holds Try.pinned (OpenSpec.upto valueSoundSpec)

end Rows
end Go.Proofs.Ytdjippdfohlpkaa
