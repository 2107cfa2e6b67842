/-
  No cell of these rows narrows 'for every input' (looked for: loops, veiled, ifaces, maps, wideKeys, modest, calm, conditions, laid).
  DERIVED. THE GIVEN ROWS OF THIS SEAT. 3 by the template 'for every input the law returns true; each argument reads behind the call as it read before'; 0 by the template 'total and deterministic' (their statements: YtlclecehlekjoaaGreatTotals.lean).
  GIVEN WITH THE SEED: the statements are not yours to turn. If you find one false, say at which input.
  Laid BY PROGRAM, IN A SANDBOX (cutbox-rows.mjs): the forced cells as the released guide's own fill.sh prints them over the translation f89b52111a095d30… (all of the seat's roots in one cut). By AI agents, Wed Nov 11 2026. No macro, syntax, notation, axiom, sorry.
-/
import Derived.Test.YtlclecehlekjoaaGreatChecked
import GoSem.Claim
import GoSem.ClaimJoined
import GoSem.ClaimMapViews
import Derived.JoinedTies
import Derived.KernelRfl
namespace Go.Proofs.YtlclecehlekjoaaGreat
/- THE CELL 'sum', in the pinned program and in every row, IS THE sha256 OF THE DUMP (.gsa) THAT YtlclecehlekjoaaGreatProg.lean LOADS. Nothing in Lean hashes anything: it is a label: what it is worth is what the hold of that sum in a sandbox is worth. -/
noncomputable def Tryz.pinned : Pinned := { name := "ytlclecehlekjoaagreat", sum := "f89b52111a095d30cfccb525263947140e9bb69b87cddaa792cd796200de2262", checked := Tryz.checked }
namespace Rows
def none {H : Type} : Left H := { results := [], args := [] }

/-- 'pluviallaw09.ChunkEncodes': WHATEVER THE INPUT: true; the input reads as it did. -/
def chunkEncodesSpec : ChangeSpec := { name := "chunkEncodes", fn := fun _ => fun
  | [d] => { results := [.lit (.bool true)], args := [d] }
  | _ => none }
def chunkEncodesRow : OpenClaim := { program := "ytlclecehlekjoaagreat", sum := "f89b52111a095d30cfccb525263947140e9bb69b87cddaa792cd796200de2262", func := "pluvial/pluviallaw09.ChunkEncodes", spec := "chunkEncodes", inPlace := ["math/bits.Add64"], unfollowed := true, recurses := true, apart := false }
def ChunkEncodesSaid : Prop := chunkEncodesRow.holds Tryz.pinned (OpenSpec.ofChange chunkEncodesSpec)

/-- ITS FALSE NEIGHBOUR: 'it returns false'. Refute it at one input. -/
def chunkEncodesWrong : ChangeSpec := { name := "chunkEncodes", fn := fun _ => fun
  | [d] => { results := [.lit (.bool false)], args := [d] }
  | _ => none }
def ChunkEncodesWrongFalsely : Prop := chunkEncodesRow.holds Tryz.pinned (OpenSpec.ofChange chunkEncodesWrong)

/-- 'pluviallaw09.ChunkDecodes': WHATEVER THE INPUT: true; the input reads as it did. -/
def chunkDecodesSpec : ChangeSpec := { name := "chunkDecodes", fn := fun _ => fun
  | [d] => { results := [.lit (.bool true)], args := [d] }
  | _ => none }
def chunkDecodesRow : OpenClaim := { program := "ytlclecehlekjoaagreat", sum := "f89b52111a095d30cfccb525263947140e9bb69b87cddaa792cd796200de2262", func := "pluvial/pluviallaw09.ChunkDecodes", spec := "chunkDecodes", inPlace := ["math/bits.Add64"], unfollowed := true, recurses := true, apart := false }
def ChunkDecodesSaid : Prop := chunkDecodesRow.holds Tryz.pinned (OpenSpec.ofChange chunkDecodesSpec)

/-- ITS FALSE NEIGHBOUR: 'it returns false'. Refute it at one input. -/
def chunkDecodesWrong : ChangeSpec := { name := "chunkDecodes", fn := fun _ => fun
  | [d] => { results := [.lit (.bool false)], args := [d] }
  | _ => none }
def ChunkDecodesWrongFalsely : Prop := chunkDecodesRow.holds Tryz.pinned (OpenSpec.ofChange chunkDecodesWrong)

/-- 'pluviallaw09.ChunkCuts': WHATEVER THE INPUT: true; the input reads as it did. -/
def chunkCutsSpec : ChangeSpec := { name := "chunkCuts", fn := fun _ => fun
  | [d] => { results := [.lit (.bool true)], args := [d] }
  | _ => none }
def chunkCutsRow : OpenClaim := { program := "ytlclecehlekjoaagreat", sum := "f89b52111a095d30cfccb525263947140e9bb69b87cddaa792cd796200de2262", func := "pluvial/pluviallaw09.ChunkCuts", spec := "chunkCuts", inPlace := ["math/bits.Add64"], unfollowed := true, recurses := true, apart := false }
def ChunkCutsSaid : Prop := chunkCutsRow.holds Tryz.pinned (OpenSpec.ofChange chunkCutsSpec)

/-- ITS FALSE NEIGHBOUR: 'it returns false'. Refute it at one input. -/
def chunkCutsWrong : ChangeSpec := { name := "chunkCuts", fn := fun _ => fun
  | [d] => { results := [.lit (.bool false)], args := [d] }
  | _ => none }
def ChunkCutsWrongFalsely : Prop := chunkCutsRow.holds Tryz.pinned (OpenSpec.ofChange chunkCutsWrong)

/- THE SECOND FORM. 'bulk': how many values and letters a reading holds, each counted each time it is reached (what is shared counts as often as it is met; a slice's spare places count too). A statement '..UptoSaid' is the law's where the arguments, and the package variables that the reading takes, are together of bulk at most 1048576: NARROWER than '..Said'. Prove '..Said' where nothing that the law and all that it calls make is longer than what came in: it says more and counts as full. Else prove '..UptoSaid'. A law counts once. -/
mutual
def uptoBulk {H : Type} : DataW H → Nat
  | .lit (.string bytes) => bytes.length + 1
  | .lit _ => 1
  | .nil => 1
  | .ptr d => uptoBulk d + 1
  | .slice elems spare => uptoBulkAll elems + uptoBulkAll spare + 1
  | .agg parts => uptoBulkAll parts + 1
  | .iface _ d => uptoBulk d + 1
  | .map entries => uptoBulkEntries entries + 1
  | .held _ => 1
def uptoBulkAll {H : Type} : List (DataW H) → Nat
  | [] => 0
  | d :: r => uptoBulk d + uptoBulkAll r
def uptoBulkEntries {H : Type} : List (Lit × DataW H) → Nat
  | [] => 0
  | x :: r => uptoBulkEntry x + uptoBulkEntries r
def uptoBulkEntry {H : Type} : Lit × DataW H → Nat
  | (.string bytes, d) => bytes.length + uptoBulk d + 1
  | (_, d) => uptoBulk d + 1
 end
def uptoSmall : (H : Type) → List (DataW H) → Bool := fun _ ds => decide (uptoBulkAll ds ≤ 1048576)
def OpenSpec.upto (s : _root_.Go.ChangeSpec) : _root_.Go.OpenSpec := { _root_.Go.OpenSpec.ofChange s with cond := some uptoSmall }

/-- 'pluviallaw09.ChunkEncodes', WHERE WHAT IT READS IS OF BULK AT MOST 1048576: true; the input reads as it did. -/
def chunkEncodesUptoRow : OpenClaim := { program := "ytlclecehlekjoaagreat", sum := "f89b52111a095d30cfccb525263947140e9bb69b87cddaa792cd796200de2262", func := "pluvial/pluviallaw09.ChunkEncodes", spec := "chunkEncodes", inPlace := ["math/bits.Add64"], unfollowed := true, recurses := true, apart := false, narrowed := true }
def ChunkEncodesUptoSaid : Prop := chunkEncodesUptoRow.holds Tryz.pinned (OpenSpec.upto chunkEncodesSpec)

/-- 'pluviallaw09.ChunkDecodes', WHERE WHAT IT READS IS OF BULK AT MOST 1048576: true; the input reads as it did. -/
def chunkDecodesUptoRow : OpenClaim := { program := "ytlclecehlekjoaagreat", sum := "f89b52111a095d30cfccb525263947140e9bb69b87cddaa792cd796200de2262", func := "pluvial/pluviallaw09.ChunkDecodes", spec := "chunkDecodes", inPlace := ["math/bits.Add64"], unfollowed := true, recurses := true, apart := false, narrowed := true }
def ChunkDecodesUptoSaid : Prop := chunkDecodesUptoRow.holds Tryz.pinned (OpenSpec.upto chunkDecodesSpec)

/-- 'pluviallaw09.ChunkCuts', WHERE WHAT IT READS IS OF BULK AT MOST 1048576: true; the input reads as it did. -/
def chunkCutsUptoRow : OpenClaim := { program := "ytlclecehlekjoaagreat", sum := "f89b52111a095d30cfccb525263947140e9bb69b87cddaa792cd796200de2262", func := "pluvial/pluviallaw09.ChunkCuts", spec := "chunkCuts", inPlace := ["math/bits.Add64"], unfollowed := true, recurses := true, apart := false, narrowed := true }
def ChunkCutsUptoSaid : Prop := chunkCutsUptoRow.holds Tryz.pinned (OpenSpec.upto chunkCutsSpec)

end Rows
end Go.Proofs.YtlclecehlekjoaaGreat
