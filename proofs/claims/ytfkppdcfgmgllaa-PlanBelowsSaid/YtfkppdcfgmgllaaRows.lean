/-
  No cell of these rows narrows 'for every input' (looked for: loops, veiled, ifaces, maps, wideKeys, modest, calm, conditions, laid).
  DERIVED. THE GIVEN ROWS OF THIS SEAT. 9 by the template 'for every input the law returns true; each argument reads behind the call as it read before'; 0 by the template 'total and deterministic' (their statements: YtfkppdcfgmgllaaTotals.lean).
  GIVEN WITH THE SEED: the statements are not yours to turn. If you find one false, say at which input.
  Laid BY PROGRAM, IN A SANDBOX (cutbox-rows.mjs): the forced cells as the released guide's own fill.sh prints them over the translation be3d60552298a40b… (all of the seat's roots in one cut). By AI agents, Wed Nov 11 2026. No macro, syntax, notation, axiom, sorry.
-/
import Derived.Test.YtfkppdcfgmgllaaChecked
import GoSem.Claim
import GoSem.ClaimJoined
import GoSem.ClaimMapViews
import Derived.JoinedTies
import Derived.KernelRfl
namespace Go.Proofs.Ytfkppdcfgmgllaa
/- THE CELL 'sum', in the pinned program and in every row, IS THE sha256 OF THE DUMP (.gsa) THAT YtfkppdcfgmgllaaProg.lean LOADS. Nothing in Lean hashes anything: it is a label: what it is worth is what the hold of that sum in a sandbox is worth. -/
noncomputable def Try.pinned : Pinned := { name := "ytfkppdcfgmgllaa", sum := "be3d60552298a40b4c1a2708966797ace6675679611a39affaba6c8cd73f9931", checked := Try.checked }
namespace Rows
def none {H : Type} : Left H := { results := [], args := [] }

/-- 'pluviallaw17.PlanBelows': WHATEVER THE INPUT: true; the input reads as it did. -/
def planBelowsSpec : ChangeSpec := { name := "planBelows", fn := fun _ => fun
  | [d1, d2, d3] => { results := [.lit (.bool true)], args := [d1, d2, d3] }
  | _ => none }
def planBelowsRow : OpenClaim := { program := "ytfkppdcfgmgllaa", sum := "be3d60552298a40b4c1a2708966797ace6675679611a39affaba6c8cd73f9931", func := "pluvial/pluviallaw17.PlanBelows", spec := "planBelows", unfollowed := true, recurses := true, apart := false }
def PlanBelowsSaid : Prop := planBelowsRow.holds Try.pinned (OpenSpec.ofChange planBelowsSpec)

/-- ITS FALSE NEIGHBOUR: 'it returns false'. Refute it at one input. -/
def planBelowsWrong : ChangeSpec := { name := "planBelows", fn := fun _ => fun
  | [d1, d2, d3] => { results := [.lit (.bool false)], args := [d1, d2, d3] }
  | _ => none }
def PlanBelowsWrongFalsely : Prop := planBelowsRow.holds Try.pinned (OpenSpec.ofChange planBelowsWrong)

/-- 'pluviallaw17.PlanTurns': WHATEVER THE INPUT: true; the input reads as it did. -/
def planTurnsSpec : ChangeSpec := { name := "planTurns", fn := fun _ => fun
  | [d1, d2] => { results := [.lit (.bool true)], args := [d1, d2] }
  | _ => none }
def planTurnsRow : OpenClaim := { program := "ytfkppdcfgmgllaa", sum := "be3d60552298a40b4c1a2708966797ace6675679611a39affaba6c8cd73f9931", func := "pluvial/pluviallaw17.PlanTurns", spec := "planTurns", unfollowed := true, recurses := true, apart := false }
def PlanTurnsSaid : Prop := planTurnsRow.holds Try.pinned (OpenSpec.ofChange planTurnsSpec)

/-- ITS FALSE NEIGHBOUR: 'it returns false'. Refute it at one input. -/
def planTurnsWrong : ChangeSpec := { name := "planTurns", fn := fun _ => fun
  | [d1, d2] => { results := [.lit (.bool false)], args := [d1, d2] }
  | _ => none }
def PlanTurnsWrongFalsely : Prop := planTurnsRow.holds Try.pinned (OpenSpec.ofChange planTurnsWrong)

/-- 'pluviallaw17.PlanNext': WHATEVER THE INPUT: true; the input reads as it did. -/
def planNextSpec : ChangeSpec := { name := "planNext", fn := fun _ => fun
  | [d1, d2, d3, d4] => { results := [.lit (.bool true)], args := [d1, d2, d3, d4] }
  | _ => none }
def planNextRow : OpenClaim := { program := "ytfkppdcfgmgllaa", sum := "be3d60552298a40b4c1a2708966797ace6675679611a39affaba6c8cd73f9931", func := "pluvial/pluviallaw17.PlanNext", spec := "planNext", unfollowed := true, recurses := true, apart := false }
def PlanNextSaid : Prop := planNextRow.holds Try.pinned (OpenSpec.ofChange planNextSpec)

/-- ITS FALSE NEIGHBOUR: 'it returns false'. Refute it at one input. -/
def planNextWrong : ChangeSpec := { name := "planNext", fn := fun _ => fun
  | [d1, d2, d3, d4] => { results := [.lit (.bool false)], args := [d1, d2, d3, d4] }
  | _ => none }
def PlanNextWrongFalsely : Prop := planNextRow.holds Try.pinned (OpenSpec.ofChange planNextWrong)

/-- 'pluviallaw17.PlanDoes': WHATEVER THE INPUT: true; the input reads as it did. -/
def planDoesSpec : ChangeSpec := { name := "planDoes", fn := fun _ => fun
  | [d1, d2, d3, d4] => { results := [.lit (.bool true)], args := [d1, d2, d3, d4] }
  | _ => none }
def planDoesRow : OpenClaim := { program := "ytfkppdcfgmgllaa", sum := "be3d60552298a40b4c1a2708966797ace6675679611a39affaba6c8cd73f9931", func := "pluvial/pluviallaw17.PlanDoes", spec := "planDoes", unfollowed := true, recurses := true, apart := false }
def PlanDoesSaid : Prop := planDoesRow.holds Try.pinned (OpenSpec.ofChange planDoesSpec)

/-- ITS FALSE NEIGHBOUR: 'it returns false'. Refute it at one input. -/
def planDoesWrong : ChangeSpec := { name := "planDoes", fn := fun _ => fun
  | [d1, d2, d3, d4] => { results := [.lit (.bool false)], args := [d1, d2, d3, d4] }
  | _ => none }
def PlanDoesWrongFalsely : Prop := planDoesRow.holds Try.pinned (OpenSpec.ofChange planDoesWrong)

/-- 'pluviallaw17.PlanEnds': WHATEVER THE INPUT: true; the input reads as it did. -/
def planEndsSpec : ChangeSpec := { name := "planEnds", fn := fun _ => fun
  | [d] => { results := [.lit (.bool true)], args := [d] }
  | _ => none }
def planEndsRow : OpenClaim := { program := "ytfkppdcfgmgllaa", sum := "be3d60552298a40b4c1a2708966797ace6675679611a39affaba6c8cd73f9931", func := "pluvial/pluviallaw17.PlanEnds", spec := "planEnds", unfollowed := true, recurses := true, apart := false }
def PlanEndsSaid : Prop := planEndsRow.holds Try.pinned (OpenSpec.ofChange planEndsSpec)

/-- ITS FALSE NEIGHBOUR: 'it returns false'. Refute it at one input. -/
def planEndsWrong : ChangeSpec := { name := "planEnds", fn := fun _ => fun
  | [d] => { results := [.lit (.bool false)], args := [d] }
  | _ => none }
def PlanEndsWrongFalsely : Prop := planEndsRow.holds Try.pinned (OpenSpec.ofChange planEndsWrong)

/-- 'pluviallaw19.EvalAlone': WHATEVER THE INPUT: true; the input reads as it did. -/
def evalAloneSpec : ChangeSpec := { name := "evalAlone", fn := fun _ => fun
  | [d1, d2] => { results := [.lit (.bool true)], args := [d1, d2] }
  | _ => none }
def evalAloneRow : OpenClaim := { program := "ytfkppdcfgmgllaa", sum := "be3d60552298a40b4c1a2708966797ace6675679611a39affaba6c8cd73f9931", func := "pluvial/pluviallaw19.EvalAlone", spec := "evalAlone", inPlace := ["math/bits.Add64"], unfollowed := true, recurses := true, named := ["math/bits.divideError", "math/bits.overflowError"], apart := false }
def EvalAloneSaid : Prop := evalAloneRow.holds Try.pinned (OpenSpec.ofChange evalAloneSpec)

/-- ITS FALSE NEIGHBOUR: 'it returns false'. Refute it at one input. -/
def evalAloneWrong : ChangeSpec := { name := "evalAlone", fn := fun _ => fun
  | [d1, d2] => { results := [.lit (.bool false)], args := [d1, d2] }
  | _ => none }
def EvalAloneWrongFalsely : Prop := evalAloneRow.holds Try.pinned (OpenSpec.ofChange evalAloneWrong)

/-- 'pluviallaw19.EvalCuts': WHATEVER THE INPUT: true; the input reads as it did. -/
def evalCutsSpec : ChangeSpec := { name := "evalCuts", fn := fun _ => fun
  | [d1, d2] => { results := [.lit (.bool true)], args := [d1, d2] }
  | _ => none }
def evalCutsRow : OpenClaim := { program := "ytfkppdcfgmgllaa", sum := "be3d60552298a40b4c1a2708966797ace6675679611a39affaba6c8cd73f9931", func := "pluvial/pluviallaw19.EvalCuts", spec := "evalCuts", inPlace := ["math/bits.Add64"], unfollowed := true, recurses := true, named := ["math/bits.divideError", "math/bits.overflowError"], apart := false }
def EvalCutsSaid : Prop := evalCutsRow.holds Try.pinned (OpenSpec.ofChange evalCutsSpec)

/-- ITS FALSE NEIGHBOUR: 'it returns false'. Refute it at one input. -/
def evalCutsWrong : ChangeSpec := { name := "evalCuts", fn := fun _ => fun
  | [d1, d2] => { results := [.lit (.bool false)], args := [d1, d2] }
  | _ => none }
def EvalCutsWrongFalsely : Prop := evalCutsRow.holds Try.pinned (OpenSpec.ofChange evalCutsWrong)

/-- 'pluviallaw19.EvalParts': WHATEVER THE INPUT: true; the input reads as it did. -/
def evalPartsSpec : ChangeSpec := { name := "evalParts", fn := fun _ => fun
  | [d1, d2, d3] => { results := [.lit (.bool true)], args := [d1, d2, d3] }
  | _ => none }
def evalPartsRow : OpenClaim := { program := "ytfkppdcfgmgllaa", sum := "be3d60552298a40b4c1a2708966797ace6675679611a39affaba6c8cd73f9931", func := "pluvial/pluviallaw19.EvalParts", spec := "evalParts", inPlace := ["math/bits.Add64"], unfollowed := true, recurses := true, named := ["math/bits.divideError", "math/bits.overflowError"], apart := false }
def EvalPartsSaid : Prop := evalPartsRow.holds Try.pinned (OpenSpec.ofChange evalPartsSpec)

/-- ITS FALSE NEIGHBOUR: 'it returns false'. Refute it at one input. -/
def evalPartsWrong : ChangeSpec := { name := "evalParts", fn := fun _ => fun
  | [d1, d2, d3] => { results := [.lit (.bool false)], args := [d1, d2, d3] }
  | _ => none }
def EvalPartsWrongFalsely : Prop := evalPartsRow.holds Try.pinned (OpenSpec.ofChange evalPartsWrong)

/-- 'pluviallaw19.EvalSteps': WHATEVER THE INPUT: true; the input reads as it did. -/
def evalStepsSpec : ChangeSpec := { name := "evalSteps", fn := fun _ => fun
  | [d1, d2, d3, d4, d5] => { results := [.lit (.bool true)], args := [d1, d2, d3, d4, d5] }
  | _ => none }
def evalStepsRow : OpenClaim := { program := "ytfkppdcfgmgllaa", sum := "be3d60552298a40b4c1a2708966797ace6675679611a39affaba6c8cd73f9931", func := "pluvial/pluviallaw19.EvalSteps", spec := "evalSteps", inPlace := ["math/bits.Add64"], unfollowed := true, recurses := true, named := ["math/bits.divideError", "math/bits.overflowError"], apart := false }
def EvalStepsSaid : Prop := evalStepsRow.holds Try.pinned (OpenSpec.ofChange evalStepsSpec)

/-- ITS FALSE NEIGHBOUR: 'it returns false'. Refute it at one input. -/
def evalStepsWrong : ChangeSpec := { name := "evalSteps", fn := fun _ => fun
  | [d1, d2, d3, d4, d5] => { results := [.lit (.bool false)], args := [d1, d2, d3, d4, d5] }
  | _ => none }
def EvalStepsWrongFalsely : Prop := evalStepsRow.holds Try.pinned (OpenSpec.ofChange evalStepsWrong)

/- THE SECOND FORM. 'bulk': how many values and letters a reading holds, each counted each time it is reached (what is shared counts as often as it is met; a slice's spare places count too). A statement '..UptoSaid' is the law's where the arguments, and the package variables that the reading takes, are together of bulk at most 1048576: NARROWER than '..Said'. Prove '..Said' where nothing that the law and all that it calls make is longer than what came in: it says more and counts as full. Else prove '..UptoSaid'. A law counts once. -/
mutual
def uptoBulk {H : Type} : DataW H → Nat
  | .lit (.string bytes) => bytes.length + 1
  | .lit _ => 1
  | .nil => 1
  | .ptr d => uptoBulk d + 1
  | .slice elems spare => uptoBulkAll elems + uptoBulkAll spare + 1
  | .agg parts => uptoBulkAll parts + 1
  | .iface _ d => uptoBulk d + 1
  | .map entries => uptoBulkEntries entries + 1
  | .held _ => 1
def uptoBulkAll {H : Type} : List (DataW H) → Nat
  | [] => 0
  | d :: r => uptoBulk d + uptoBulkAll r
def uptoBulkEntries {H : Type} : List (Lit × DataW H) → Nat
  | [] => 0
  | x :: r => uptoBulkEntry x + uptoBulkEntries r
def uptoBulkEntry {H : Type} : Lit × DataW H → Nat
  | (.string bytes, d) => bytes.length + uptoBulk d + 1
  | (_, d) => uptoBulk d + 1
 end
def uptoSmall : (H : Type) → List (DataW H) → Bool := fun _ ds => decide (uptoBulkAll ds ≤ 1048576)
def OpenSpec.upto (s : _root_.Go.ChangeSpec) : _root_.Go.OpenSpec := { _root_.Go.OpenSpec.ofChange s with cond := some uptoSmall }

/-- 'pluviallaw17.PlanBelows', WHERE WHAT IT READS IS OF BULK AT MOST 1048576: true; the input reads as it did. -/
def planBelowsUptoRow : OpenClaim := { program := "ytfkppdcfgmgllaa", sum := "be3d60552298a40b4c1a2708966797ace6675679611a39affaba6c8cd73f9931", func := "pluvial/pluviallaw17.PlanBelows", spec := "planBelows", unfollowed := true, recurses := true, apart := false, narrowed := true }
def PlanBelowsUptoSaid : Prop := planBelowsUptoRow.holds Try.pinned (OpenSpec.upto planBelowsSpec)

/-- 'pluviallaw17.PlanTurns', WHERE WHAT IT READS IS OF BULK AT MOST 1048576: true; the input reads as it did. -/
def planTurnsUptoRow : OpenClaim := { program := "ytfkppdcfgmgllaa", sum := "be3d60552298a40b4c1a2708966797ace6675679611a39affaba6c8cd73f9931", func := "pluvial/pluviallaw17.PlanTurns", spec := "planTurns", unfollowed := true, recurses := true, apart := false, narrowed := true }
def PlanTurnsUptoSaid : Prop := planTurnsUptoRow.holds Try.pinned (OpenSpec.upto planTurnsSpec)

/-- 'pluviallaw17.PlanNext', WHERE WHAT IT READS IS OF BULK AT MOST 1048576: true; the input reads as it did. -/
def planNextUptoRow : OpenClaim := { program := "ytfkppdcfgmgllaa", sum := "be3d60552298a40b4c1a2708966797ace6675679611a39affaba6c8cd73f9931", func := "pluvial/pluviallaw17.PlanNext", spec := "planNext", unfollowed := true, recurses := true, apart := false, narrowed := true }
def PlanNextUptoSaid : Prop := planNextUptoRow.holds Try.pinned (OpenSpec.upto planNextSpec)

/-- 'pluviallaw17.PlanDoes', WHERE WHAT IT READS IS OF BULK AT MOST 1048576: true; the input reads as it did. -/
def planDoesUptoRow : OpenClaim := { program := "ytfkppdcfgmgllaa", sum := "be3d60552298a40b4c1a2708966797ace6675679611a39affaba6c8cd73f9931", func := "pluvial/pluviallaw17.PlanDoes", spec := "planDoes", unfollowed := true, recurses := true, apart := false, narrowed := true }
def PlanDoesUptoSaid : Prop := planDoesUptoRow.holds Try.pinned (OpenSpec.upto planDoesSpec)

/-- 'pluviallaw17.PlanEnds', WHERE WHAT IT READS IS OF BULK AT MOST 1048576: true; the input reads as it did. -/
def planEndsUptoRow : OpenClaim := { program := "ytfkppdcfgmgllaa", sum := "be3d60552298a40b4c1a2708966797ace6675679611a39affaba6c8cd73f9931", func := "pluvial/pluviallaw17.PlanEnds", spec := "planEnds", unfollowed := true, recurses := true, apart := false, narrowed := true }
def PlanEndsUptoSaid : Prop := planEndsUptoRow.holds Try.pinned (OpenSpec.upto planEndsSpec)

/-- 'pluviallaw19.EvalAlone', WHERE WHAT IT READS IS OF BULK AT MOST 1048576: true; the input reads as it did. -/
def evalAloneUptoRow : OpenClaim := { program := "ytfkppdcfgmgllaa", sum := "be3d60552298a40b4c1a2708966797ace6675679611a39affaba6c8cd73f9931", func := "pluvial/pluviallaw19.EvalAlone", spec := "evalAlone", inPlace := ["math/bits.Add64"], unfollowed := true, recurses := true, named := ["math/bits.divideError", "math/bits.overflowError"], apart := false, narrowed := true }
def EvalAloneUptoSaid : Prop := evalAloneUptoRow.holds Try.pinned (OpenSpec.upto evalAloneSpec)

/-- 'pluviallaw19.EvalCuts', WHERE WHAT IT READS IS OF BULK AT MOST 1048576: true; the input reads as it did. -/
def evalCutsUptoRow : OpenClaim := { program := "ytfkppdcfgmgllaa", sum := "be3d60552298a40b4c1a2708966797ace6675679611a39affaba6c8cd73f9931", func := "pluvial/pluviallaw19.EvalCuts", spec := "evalCuts", inPlace := ["math/bits.Add64"], unfollowed := true, recurses := true, named := ["math/bits.divideError", "math/bits.overflowError"], apart := false, narrowed := true }
def EvalCutsUptoSaid : Prop := evalCutsUptoRow.holds Try.pinned (OpenSpec.upto evalCutsSpec)

/-- 'pluviallaw19.EvalParts', WHERE WHAT IT READS IS OF BULK AT MOST 1048576: true; the input reads as it did. -/
def evalPartsUptoRow : OpenClaim := { program := "ytfkppdcfgmgllaa", sum := "be3d60552298a40b4c1a2708966797ace6675679611a39affaba6c8cd73f9931", func := "pluvial/pluviallaw19.EvalParts", spec := "evalParts", inPlace := ["math/bits.Add64"], unfollowed := true, recurses := true, named := ["math/bits.divideError", "math/bits.overflowError"], apart := false, narrowed := true }
def EvalPartsUptoSaid : Prop := evalPartsUptoRow.holds Try.pinned (OpenSpec.upto evalPartsSpec)

/-- 'pluviallaw19.EvalSteps', WHERE WHAT IT READS IS OF BULK AT MOST 1048576: true; the input reads as it did. -/
def evalStepsUptoRow : OpenClaim := { program := "ytfkppdcfgmgllaa", sum := "be3d60552298a40b4c1a2708966797ace6675679611a39affaba6c8cd73f9931", func := "pluvial/pluviallaw19.EvalSteps", spec := "evalSteps", inPlace := ["math/bits.Add64"], unfollowed := true, recurses := true, named := ["math/bits.divideError", "math/bits.overflowError"], apart := false, narrowed := true }
def EvalStepsUptoSaid : Prop := evalStepsUptoRow.holds Try.pinned (OpenSpec.upto evalStepsSpec)

end Rows
end Go.Proofs.Ytfkppdcfgmgllaa
