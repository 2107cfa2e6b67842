/-
  No cell of these rows narrows 'for every input' (looked for: loops, veiled, ifaces, maps, wideKeys, modest, calm, conditions, laid).
  DERIVED. THE GIVEN ROWS OF THIS SEAT. 3 by the template 'for every input the law returns true; each argument reads behind the call as it read before'; 0 by the template 'total and deterministic' (their statements: YtpoihfcehejgfaaGreatTotals.lean).
  GIVEN WITH THE SEED: the statements are not yours to turn. If you find one false, say at which input.
  Laid BY PROGRAM, IN A SANDBOX (cutbox-rows.mjs): the forced cells as the released guide's own fill.sh prints them over the translation d5cde5bb5ba8233b… (all of the seat's roots in one cut). By AI agents, Wed Nov 11 2026. No macro, syntax, notation, axiom, sorry.
-/
import Derived.Test.YtpoihfcehejgfaaGreatChecked
import GoSem.Claim
import GoSem.ClaimJoined
import GoSem.ClaimMapViews
import Derived.JoinedTies
import Derived.KernelRfl
namespace Go.Proofs.YtpoihfcehejgfaaGreat
/- THE CELL 'sum', in the pinned program and in every row, IS THE sha256 OF THE DUMP (.gsa) THAT YtpoihfcehejgfaaGreatProg.lean LOADS. Nothing in Lean hashes anything: it is a label: what it is worth is what the hold of that sum in a sandbox is worth. -/
noncomputable def Tryz.pinned : Pinned := { name := "ytpoihfcehejgfaagreat", sum := "d5cde5bb5ba8233b15ce99191f1d8c19e191493ccd667a719df070de5b20bb08", checked := Tryz.checked }
namespace Rows
def none {H : Type} : Left H := { results := [], args := [] }

/-- 'pluviallaw16.BlockMakes': WHATEVER THE INPUT: true; the input reads as it did. -/
def blockMakesSpec : ChangeSpec := { name := "blockMakes", fn := fun _ => fun
  | [d1, d2, d3] => { results := [.lit (.bool true)], args := [d1, d2, d3] }
  | _ => none }
def blockMakesRow : OpenClaim := { program := "ytpoihfcehejgfaagreat", sum := "d5cde5bb5ba8233b15ce99191f1d8c19e191493ccd667a719df070de5b20bb08", func := "pluvial/pluviallaw16.BlockMakes", spec := "blockMakes", inPlace := ["math/bits.Add64"], unfollowed := true, recurses := true, apart := false }
def BlockMakesSaid : Prop := blockMakesRow.holds Tryz.pinned (OpenSpec.ofChange blockMakesSpec)

/-- ITS FALSE NEIGHBOUR: 'it returns false'. Refute it at one input. -/
def blockMakesWrong : ChangeSpec := { name := "blockMakes", fn := fun _ => fun
  | [d1, d2, d3] => { results := [.lit (.bool false)], args := [d1, d2, d3] }
  | _ => none }
def BlockMakesWrongFalsely : Prop := blockMakesRow.holds Tryz.pinned (OpenSpec.ofChange blockMakesWrong)

/-- 'pluviallaw16.BlockEncodes': WHATEVER THE INPUT: true; the input reads as it did. -/
def blockEncodesSpec : ChangeSpec := { name := "blockEncodes", fn := fun _ => fun
  | [d1, d2, d3] => { results := [.lit (.bool true)], args := [d1, d2, d3] }
  | _ => none }
def blockEncodesRow : OpenClaim := { program := "ytpoihfcehejgfaagreat", sum := "d5cde5bb5ba8233b15ce99191f1d8c19e191493ccd667a719df070de5b20bb08", func := "pluvial/pluviallaw16.BlockEncodes", spec := "blockEncodes", inPlace := ["math/bits.Add64"], unfollowed := true, recurses := true, apart := false }
def BlockEncodesSaid : Prop := blockEncodesRow.holds Tryz.pinned (OpenSpec.ofChange blockEncodesSpec)

/-- ITS FALSE NEIGHBOUR: 'it returns false'. Refute it at one input. -/
def blockEncodesWrong : ChangeSpec := { name := "blockEncodes", fn := fun _ => fun
  | [d1, d2, d3] => { results := [.lit (.bool false)], args := [d1, d2, d3] }
  | _ => none }
def BlockEncodesWrongFalsely : Prop := blockEncodesRow.holds Tryz.pinned (OpenSpec.ofChange blockEncodesWrong)

/-- 'pluviallaw16.BlockReads': WHATEVER THE INPUT: true; the input reads as it did. -/
def blockReadsSpec : ChangeSpec := { name := "blockReads", fn := fun _ => fun
  | [d] => { results := [.lit (.bool true)], args := [d] }
  | _ => none }
def blockReadsRow : OpenClaim := { program := "ytpoihfcehejgfaagreat", sum := "d5cde5bb5ba8233b15ce99191f1d8c19e191493ccd667a719df070de5b20bb08", func := "pluvial/pluviallaw16.BlockReads", spec := "blockReads", inPlace := ["math/bits.Add64"], unfollowed := true, recurses := true, apart := false }
def BlockReadsSaid : Prop := blockReadsRow.holds Tryz.pinned (OpenSpec.ofChange blockReadsSpec)

/-- ITS FALSE NEIGHBOUR: 'it returns false'. Refute it at one input. -/
def blockReadsWrong : ChangeSpec := { name := "blockReads", fn := fun _ => fun
  | [d] => { results := [.lit (.bool false)], args := [d] }
  | _ => none }
def BlockReadsWrongFalsely : Prop := blockReadsRow.holds Tryz.pinned (OpenSpec.ofChange blockReadsWrong)

/- THE SECOND FORM. 'bulk': how many values and letters a reading holds, each counted each time it is reached (what is shared counts as often as it is met; a slice's spare places count too). A statement '..UptoSaid' is the law's where the arguments, and the package variables that the reading takes, are together of bulk at most 1048576: NARROWER than '..Said'. Prove '..Said' where nothing that the law and all that it calls make is longer than what came in: it says more and counts as full. Else prove '..UptoSaid'. A law counts once. -/
mutual
def uptoBulk {H : Type} : DataW H → Nat
  | .lit (.string bytes) => bytes.length + 1
  | .lit _ => 1
  | .nil => 1
  | .ptr d => uptoBulk d + 1
  | .slice elems spare => uptoBulkAll elems + uptoBulkAll spare + 1
  | .agg parts => uptoBulkAll parts + 1
  | .iface _ d => uptoBulk d + 1
  | .map entries => uptoBulkEntries entries + 1
  | .held _ => 1
def uptoBulkAll {H : Type} : List (DataW H) → Nat
  | [] => 0
  | d :: r => uptoBulk d + uptoBulkAll r
def uptoBulkEntries {H : Type} : List (Lit × DataW H) → Nat
  | [] => 0
  | x :: r => uptoBulkEntry x + uptoBulkEntries r
def uptoBulkEntry {H : Type} : Lit × DataW H → Nat
  | (.string bytes, d) => bytes.length + uptoBulk d + 1
  | (_, d) => uptoBulk d + 1
 end
def uptoSmall : (H : Type) → List (DataW H) → Bool := fun _ ds => decide (uptoBulkAll ds ≤ 1048576)
def OpenSpec.upto (s : _root_.Go.ChangeSpec) : _root_.Go.OpenSpec := { _root_.Go.OpenSpec.ofChange s with cond := some uptoSmall }

/-- 'pluviallaw16.BlockMakes', WHERE WHAT IT READS IS OF BULK AT MOST 1048576: true; the input reads as it did. -/
def blockMakesUptoRow : OpenClaim := { program := "ytpoihfcehejgfaagreat", sum := "d5cde5bb5ba8233b15ce99191f1d8c19e191493ccd667a719df070de5b20bb08", func := "pluvial/pluviallaw16.BlockMakes", spec := "blockMakes", inPlace := ["math/bits.Add64"], unfollowed := true, recurses := true, apart := false, narrowed := true }
def BlockMakesUptoSaid : Prop := blockMakesUptoRow.holds Tryz.pinned (OpenSpec.upto blockMakesSpec)

/-- 'pluviallaw16.BlockEncodes', WHERE WHAT IT READS IS OF BULK AT MOST 1048576: true; the input reads as it did. -/
def blockEncodesUptoRow : OpenClaim := { program := "ytpoihfcehejgfaagreat", sum := "d5cde5bb5ba8233b15ce99191f1d8c19e191493ccd667a719df070de5b20bb08", func := "pluvial/pluviallaw16.BlockEncodes", spec := "blockEncodes", inPlace := ["math/bits.Add64"], unfollowed := true, recurses := true, apart := false, narrowed := true }
def BlockEncodesUptoSaid : Prop := blockEncodesUptoRow.holds Tryz.pinned (OpenSpec.upto blockEncodesSpec)

/-- 'pluviallaw16.BlockReads', WHERE WHAT IT READS IS OF BULK AT MOST 1048576: true; the input reads as it did. -/
def blockReadsUptoRow : OpenClaim := { program := "ytpoihfcehejgfaagreat", sum := "d5cde5bb5ba8233b15ce99191f1d8c19e191493ccd667a719df070de5b20bb08", func := "pluvial/pluviallaw16.BlockReads", spec := "blockReads", inPlace := ["math/bits.Add64"], unfollowed := true, recurses := true, apart := false, narrowed := true }
def BlockReadsUptoSaid : Prop := blockReadsUptoRow.holds Tryz.pinned (OpenSpec.upto blockReadsSpec)

end Rows
end Go.Proofs.YtpoihfcehejgfaaGreat
