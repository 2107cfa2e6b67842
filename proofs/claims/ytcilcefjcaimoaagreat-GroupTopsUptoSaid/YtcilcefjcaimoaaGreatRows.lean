/-
  No cell of these rows narrows 'for every input' (looked for: loops, veiled, ifaces, maps, wideKeys, modest, calm, conditions, laid).
  DERIVED. THE GIVEN ROWS OF THIS SEAT. 5 by the template 'for every input the law returns true; each argument reads behind the call as it read before'; 0 by the template 'total and deterministic' (their statements: YtcilcefjcaimoaaGreatTotals.lean).
  GIVEN WITH THE SEED: the statements are not yours to turn. If you find one false, say at which input.
  Laid BY PROGRAM, IN A SANDBOX (cutbox-rows.mjs): the forced cells as the released guide's own fill.sh prints them over the translation 4f9240c3240d3789… (all of the seat's roots in one cut). By AI agents, Wed Nov 11 2026. No macro, syntax, notation, axiom, sorry.
-/
import Derived.Test.YtcilcefjcaimoaaGreatChecked
import GoSem.Claim
import GoSem.ClaimJoined
import GoSem.ClaimMapViews
import Derived.JoinedTies
import Derived.KernelRfl
namespace Go.Proofs.YtcilcefjcaimoaaGreat
/- THE CELL 'sum', in the pinned program and in every row, IS THE sha256 OF THE DUMP (.gsa) THAT YtcilcefjcaimoaaGreatProg.lean LOADS. Nothing in Lean hashes anything: it is a label: what it is worth is what the hold of that sum in a sandbox is worth. -/
noncomputable def Tryz.pinned : Pinned := { name := "ytcilcefjcaimoaagreat", sum := "4f9240c3240d3789238cc7d06fb7ad274f9b196ca4158f28602292e95db680c0", checked := Tryz.checked }
namespace Rows
def none {H : Type} : Left H := { results := [], args := [] }

/-- 'pluviallaw20.GroupAsks': WHATEVER THE INPUT: true; the input reads as it did. -/
def groupAsksSpec : ChangeSpec := { name := "groupAsks", fn := fun _ => fun
  | [d1, d2, d3, d4] => { results := [.lit (.bool true)], args := [d1, d2, d3, d4] }
  | _ => none }
def groupAsksRow : OpenClaim := { program := "ytcilcefjcaimoaagreat", sum := "4f9240c3240d3789238cc7d06fb7ad274f9b196ca4158f28602292e95db680c0", func := "pluvial/pluviallaw20.GroupAsks", spec := "groupAsks", inPlace := ["slices.overlaps[[]pluvial/api.Series]", "math/bits.Add64"], unfollowed := true, recurses := true, named := ["math/bits.divideError", "math/bits.overflowError"], apart := false }
def GroupAsksSaid : Prop := groupAsksRow.holds Tryz.pinned (OpenSpec.ofChange groupAsksSpec)

/-- ITS FALSE NEIGHBOUR: 'it returns false'. Refute it at one input. -/
def groupAsksWrong : ChangeSpec := { name := "groupAsks", fn := fun _ => fun
  | [d1, d2, d3, d4] => { results := [.lit (.bool false)], args := [d1, d2, d3, d4] }
  | _ => none }
def GroupAsksWrongFalsely : Prop := groupAsksRow.holds Tryz.pinned (OpenSpec.ofChange groupAsksWrong)

/-- 'pluviallaw20.GroupSums': WHATEVER THE INPUT: true; the input reads as it did. -/
def groupSumsSpec : ChangeSpec := { name := "groupSums", fn := fun _ => fun
  | [d1, d2, d3] => { results := [.lit (.bool true)], args := [d1, d2, d3] }
  | _ => none }
def groupSumsRow : OpenClaim := { program := "ytcilcefjcaimoaagreat", sum := "4f9240c3240d3789238cc7d06fb7ad274f9b196ca4158f28602292e95db680c0", func := "pluvial/pluviallaw20.GroupSums", spec := "groupSums", inPlace := ["slices.overlaps[[]pluvial/api.Series]", "math/bits.Add64"], unfollowed := true, recurses := true, named := ["math/bits.divideError", "math/bits.overflowError"], apart := false }
def GroupSumsSaid : Prop := groupSumsRow.holds Tryz.pinned (OpenSpec.ofChange groupSumsSpec)

/-- ITS FALSE NEIGHBOUR: 'it returns false'. Refute it at one input. -/
def groupSumsWrong : ChangeSpec := { name := "groupSums", fn := fun _ => fun
  | [d1, d2, d3] => { results := [.lit (.bool false)], args := [d1, d2, d3] }
  | _ => none }
def GroupSumsWrongFalsely : Prop := groupSumsRow.holds Tryz.pinned (OpenSpec.ofChange groupSumsWrong)

/-- 'pluviallaw20.GroupWindows': WHATEVER THE INPUT: true; the input reads as it did. -/
def groupWindowsSpec : ChangeSpec := { name := "groupWindows", fn := fun _ => fun
  | [d1, d2, d3] => { results := [.lit (.bool true)], args := [d1, d2, d3] }
  | _ => none }
def groupWindowsRow : OpenClaim := { program := "ytcilcefjcaimoaagreat", sum := "4f9240c3240d3789238cc7d06fb7ad274f9b196ca4158f28602292e95db680c0", func := "pluvial/pluviallaw20.GroupWindows", spec := "groupWindows", inPlace := ["slices.overlaps[[]pluvial/api.Series]", "math/bits.Add64"], unfollowed := true, recurses := true, named := ["math/bits.divideError", "math/bits.overflowError"], apart := false }
def GroupWindowsSaid : Prop := groupWindowsRow.holds Tryz.pinned (OpenSpec.ofChange groupWindowsSpec)

/-- ITS FALSE NEIGHBOUR: 'it returns false'. Refute it at one input. -/
def groupWindowsWrong : ChangeSpec := { name := "groupWindows", fn := fun _ => fun
  | [d1, d2, d3] => { results := [.lit (.bool false)], args := [d1, d2, d3] }
  | _ => none }
def GroupWindowsWrongFalsely : Prop := groupWindowsRow.holds Tryz.pinned (OpenSpec.ofChange groupWindowsWrong)

/-- 'pluviallaw20.GroupOnes': WHATEVER THE INPUT: true; the input reads as it did. -/
def groupOnesSpec : ChangeSpec := { name := "groupOnes", fn := fun _ => fun
  | [d1, d2] => { results := [.lit (.bool true)], args := [d1, d2] }
  | _ => none }
def groupOnesRow : OpenClaim := { program := "ytcilcefjcaimoaagreat", sum := "4f9240c3240d3789238cc7d06fb7ad274f9b196ca4158f28602292e95db680c0", func := "pluvial/pluviallaw20.GroupOnes", spec := "groupOnes", inPlace := ["slices.overlaps[[]pluvial/api.Series]", "math/bits.Add64"], unfollowed := true, recurses := true, named := ["math/bits.divideError", "math/bits.overflowError"], apart := false }
def GroupOnesSaid : Prop := groupOnesRow.holds Tryz.pinned (OpenSpec.ofChange groupOnesSpec)

/-- ITS FALSE NEIGHBOUR: 'it returns false'. Refute it at one input. -/
def groupOnesWrong : ChangeSpec := { name := "groupOnes", fn := fun _ => fun
  | [d1, d2] => { results := [.lit (.bool false)], args := [d1, d2] }
  | _ => none }
def GroupOnesWrongFalsely : Prop := groupOnesRow.holds Tryz.pinned (OpenSpec.ofChange groupOnesWrong)

/-- 'pluviallaw20.GroupTops': WHATEVER THE INPUT: true; the input reads as it did. -/
def groupTopsSpec : ChangeSpec := { name := "groupTops", fn := fun _ => fun
  | [d1, d2, d3, d4] => { results := [.lit (.bool true)], args := [d1, d2, d3, d4] }
  | _ => none }
def groupTopsRow : OpenClaim := { program := "ytcilcefjcaimoaagreat", sum := "4f9240c3240d3789238cc7d06fb7ad274f9b196ca4158f28602292e95db680c0", func := "pluvial/pluviallaw20.GroupTops", spec := "groupTops", inPlace := ["slices.overlaps[[]pluvial/api.Series]", "math/bits.Add64"], unfollowed := true, recurses := true, named := ["math/bits.divideError", "math/bits.overflowError"], apart := false }
def GroupTopsSaid : Prop := groupTopsRow.holds Tryz.pinned (OpenSpec.ofChange groupTopsSpec)

/-- ITS FALSE NEIGHBOUR: 'it returns false'. Refute it at one input. -/
def groupTopsWrong : ChangeSpec := { name := "groupTops", fn := fun _ => fun
  | [d1, d2, d3, d4] => { results := [.lit (.bool false)], args := [d1, d2, d3, d4] }
  | _ => none }
def GroupTopsWrongFalsely : Prop := groupTopsRow.holds Tryz.pinned (OpenSpec.ofChange groupTopsWrong)

/- THE SECOND FORM. 'bulk': how many values and letters a reading holds, each counted each time it is reached (what is shared counts as often as it is met; a slice's spare places count too). A statement '..UptoSaid' is the law's where the arguments, and the package variables that the reading takes, are together of bulk at most 1048576: NARROWER than '..Said'. Prove '..Said' where nothing that the law and all that it calls make is longer than what came in: it says more and counts as full. Else prove '..UptoSaid'. A law counts once. -/
mutual
def uptoBulk {H : Type} : DataW H → Nat
  | .lit (.string bytes) => bytes.length + 1
  | .lit _ => 1
  | .nil => 1
  | .ptr d => uptoBulk d + 1
  | .slice elems spare => uptoBulkAll elems + uptoBulkAll spare + 1
  | .agg parts => uptoBulkAll parts + 1
  | .iface _ d => uptoBulk d + 1
  | .map entries => uptoBulkEntries entries + 1
  | .held _ => 1
def uptoBulkAll {H : Type} : List (DataW H) → Nat
  | [] => 0
  | d :: r => uptoBulk d + uptoBulkAll r
def uptoBulkEntries {H : Type} : List (Lit × DataW H) → Nat
  | [] => 0
  | x :: r => uptoBulkEntry x + uptoBulkEntries r
def uptoBulkEntry {H : Type} : Lit × DataW H → Nat
  | (.string bytes, d) => bytes.length + uptoBulk d + 1
  | (_, d) => uptoBulk d + 1
 end
def uptoSmall : (H : Type) → List (DataW H) → Bool := fun _ ds => decide (uptoBulkAll ds ≤ 1048576)
def OpenSpec.upto (s : _root_.Go.ChangeSpec) : _root_.Go.OpenSpec := { _root_.Go.OpenSpec.ofChange s with cond := some uptoSmall }

/-- 'pluviallaw20.GroupAsks', WHERE WHAT IT READS IS OF BULK AT MOST 1048576: true; the input reads as it did. -/
def groupAsksUptoRow : OpenClaim := { program := "ytcilcefjcaimoaagreat", sum := "4f9240c3240d3789238cc7d06fb7ad274f9b196ca4158f28602292e95db680c0", func := "pluvial/pluviallaw20.GroupAsks", spec := "groupAsks", inPlace := ["slices.overlaps[[]pluvial/api.Series]", "math/bits.Add64"], unfollowed := true, recurses := true, named := ["math/bits.divideError", "math/bits.overflowError"], apart := false, narrowed := true }
def GroupAsksUptoSaid : Prop := groupAsksUptoRow.holds Tryz.pinned (OpenSpec.upto groupAsksSpec)

/-- 'pluviallaw20.GroupSums', WHERE WHAT IT READS IS OF BULK AT MOST 1048576: true; the input reads as it did. -/
def groupSumsUptoRow : OpenClaim := { program := "ytcilcefjcaimoaagreat", sum := "4f9240c3240d3789238cc7d06fb7ad274f9b196ca4158f28602292e95db680c0", func := "pluvial/pluviallaw20.GroupSums", spec := "groupSums", inPlace := ["slices.overlaps[[]pluvial/api.Series]", "math/bits.Add64"], unfollowed := true, recurses := true, named := ["math/bits.divideError", "math/bits.overflowError"], apart := false, narrowed := true }
def GroupSumsUptoSaid : Prop := groupSumsUptoRow.holds Tryz.pinned (OpenSpec.upto groupSumsSpec)

/-- 'pluviallaw20.GroupWindows', WHERE WHAT IT READS IS OF BULK AT MOST 1048576: true; the input reads as it did. -/
def groupWindowsUptoRow : OpenClaim := { program := "ytcilcefjcaimoaagreat", sum := "4f9240c3240d3789238cc7d06fb7ad274f9b196ca4158f28602292e95db680c0", func := "pluvial/pluviallaw20.GroupWindows", spec := "groupWindows", inPlace := ["slices.overlaps[[]pluvial/api.Series]", "math/bits.Add64"], unfollowed := true, recurses := true, named := ["math/bits.divideError", "math/bits.overflowError"], apart := false, narrowed := true }
def GroupWindowsUptoSaid : Prop := groupWindowsUptoRow.holds Tryz.pinned (OpenSpec.upto groupWindowsSpec)

/-- 'pluviallaw20.GroupOnes', WHERE WHAT IT READS IS OF BULK AT MOST 1048576: true; the input reads as it did. -/
def groupOnesUptoRow : OpenClaim := { program := "ytcilcefjcaimoaagreat", sum := "4f9240c3240d3789238cc7d06fb7ad274f9b196ca4158f28602292e95db680c0", func := "pluvial/pluviallaw20.GroupOnes", spec := "groupOnes", inPlace := ["slices.overlaps[[]pluvial/api.Series]", "math/bits.Add64"], unfollowed := true, recurses := true, named := ["math/bits.divideError", "math/bits.overflowError"], apart := false, narrowed := true }
def GroupOnesUptoSaid : Prop := groupOnesUptoRow.holds Tryz.pinned (OpenSpec.upto groupOnesSpec)

/-- 'pluviallaw20.GroupTops', WHERE WHAT IT READS IS OF BULK AT MOST 1048576: true; the input reads as it did. -/
def groupTopsUptoRow : OpenClaim := { program := "ytcilcefjcaimoaagreat", sum := "4f9240c3240d3789238cc7d06fb7ad274f9b196ca4158f28602292e95db680c0", func := "pluvial/pluviallaw20.GroupTops", spec := "groupTops", inPlace := ["slices.overlaps[[]pluvial/api.Series]", "math/bits.Add64"], unfollowed := true, recurses := true, named := ["math/bits.divideError", "math/bits.overflowError"], apart := false, narrowed := true }
def GroupTopsUptoSaid : Prop := groupTopsUptoRow.holds Tryz.pinned (OpenSpec.upto groupTopsSpec)

end Rows
end Go.Proofs.YtcilcefjcaimoaaGreat
