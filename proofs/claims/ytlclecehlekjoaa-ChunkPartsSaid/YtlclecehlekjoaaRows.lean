/-
  No cell of these rows narrows 'for every input' (looked for: loops, veiled, ifaces, maps, wideKeys, modest, calm, conditions, laid).
  DERIVED. THE GIVEN ROWS OF THIS SEAT. 2 by the template 'for every input the law returns true; each argument reads behind the call as it read before'; 0 by the template 'total and deterministic' (their statements: YtlclecehlekjoaaTotals.lean).
  GIVEN WITH THE SEED: the statements are not yours to turn. If you find one false, say at which input.
  Laid BY PROGRAM, IN A SANDBOX (cutbox-rows.mjs): the forced cells as the released guide's own fill.sh prints them over the translation a5be3b15b579d9c4… (all of the seat's roots in one cut). By AI agents, Wed Nov 11 2026. No macro, syntax, notation, axiom, sorry.
-/
import Derived.Test.YtlclecehlekjoaaChecked
import GoSem.Claim
import GoSem.ClaimJoined
import GoSem.ClaimMapViews
import Derived.JoinedTies
import Derived.KernelRfl
namespace Go.Proofs.Ytlclecehlekjoaa
/- THE CELL 'sum', in the pinned program and in every row, IS THE sha256 OF THE DUMP (.gsa) THAT YtlclecehlekjoaaProg.lean LOADS. Nothing in Lean hashes anything: it is a label: what it is worth is what the hold of that sum in a sandbox is worth. -/
noncomputable def Try.pinned : Pinned := { name := "ytlclecehlekjoaa", sum := "a5be3b15b579d9c48ea0c32ca21501da7b767ac237f75b735224381f458321d1", checked := Try.checked }
namespace Rows
def none {H : Type} : Left H := { results := [], args := [] }

/-- 'pluviallaw09.ChunkTurns': WHATEVER THE INPUT: true; the input reads as it did. -/
def chunkTurnsSpec : ChangeSpec := { name := "chunkTurns", fn := fun _ => fun
  | [d1, d2, d3] => { results := [.lit (.bool true)], args := [d1, d2, d3] }
  | _ => none }
def chunkTurnsRow : OpenClaim := { program := "ytlclecehlekjoaa", sum := "a5be3b15b579d9c48ea0c32ca21501da7b767ac237f75b735224381f458321d1", func := "pluvial/pluviallaw09.ChunkTurns", spec := "chunkTurns", inPlace := ["math/bits.Add64"], unfollowed := true, recurses := true, apart := false }
def ChunkTurnsSaid : Prop := chunkTurnsRow.holds Try.pinned (OpenSpec.ofChange chunkTurnsSpec)

/-- ITS FALSE NEIGHBOUR: 'it returns false'. Refute it at one input. -/
def chunkTurnsWrong : ChangeSpec := { name := "chunkTurns", fn := fun _ => fun
  | [d1, d2, d3] => { results := [.lit (.bool false)], args := [d1, d2, d3] }
  | _ => none }
def ChunkTurnsWrongFalsely : Prop := chunkTurnsRow.holds Try.pinned (OpenSpec.ofChange chunkTurnsWrong)

/-- 'pluviallaw09.ChunkParts': WHATEVER THE INPUT: true; the input reads as it did. -/
def chunkPartsSpec : ChangeSpec := { name := "chunkParts", fn := fun _ => fun
  | [d1, d2, d3] => { results := [.lit (.bool true)], args := [d1, d2, d3] }
  | _ => none }
def chunkPartsRow : OpenClaim := { program := "ytlclecehlekjoaa", sum := "a5be3b15b579d9c48ea0c32ca21501da7b767ac237f75b735224381f458321d1", func := "pluvial/pluviallaw09.ChunkParts", spec := "chunkParts", inPlace := ["math/bits.Add64"], unfollowed := true, recurses := true, apart := false }
def ChunkPartsSaid : Prop := chunkPartsRow.holds Try.pinned (OpenSpec.ofChange chunkPartsSpec)

/-- ITS FALSE NEIGHBOUR: 'it returns false'. Refute it at one input. -/
def chunkPartsWrong : ChangeSpec := { name := "chunkParts", fn := fun _ => fun
  | [d1, d2, d3] => { results := [.lit (.bool false)], args := [d1, d2, d3] }
  | _ => none }
def ChunkPartsWrongFalsely : Prop := chunkPartsRow.holds Try.pinned (OpenSpec.ofChange chunkPartsWrong)

/- THE SECOND FORM. 'bulk': how many values and letters a reading holds, each counted each time it is reached (what is shared counts as often as it is met; a slice's spare places count too). A statement '..UptoSaid' is the law's where the arguments, and the package variables that the reading takes, are together of bulk at most 1048576: NARROWER than '..Said'. Prove '..Said' where nothing that the law and all that it calls make is longer than what came in: it says more and counts as full. Else prove '..UptoSaid'. A law counts once. -/
mutual
def uptoBulk {H : Type} : DataW H → Nat
  | .lit (.string bytes) => bytes.length + 1
  | .lit _ => 1
  | .nil => 1
  | .ptr d => uptoBulk d + 1
  | .slice elems spare => uptoBulkAll elems + uptoBulkAll spare + 1
  | .agg parts => uptoBulkAll parts + 1
  | .iface _ d => uptoBulk d + 1
  | .map entries => uptoBulkEntries entries + 1
  | .held _ => 1
def uptoBulkAll {H : Type} : List (DataW H) → Nat
  | [] => 0
  | d :: r => uptoBulk d + uptoBulkAll r
def uptoBulkEntries {H : Type} : List (Lit × DataW H) → Nat
  | [] => 0
  | x :: r => uptoBulkEntry x + uptoBulkEntries r
def uptoBulkEntry {H : Type} : Lit × DataW H → Nat
  | (.string bytes, d) => bytes.length + uptoBulk d + 1
  | (_, d) => uptoBulk d + 1
 end
def uptoSmall : (H : Type) → List (DataW H) → Bool := fun _ ds => decide (uptoBulkAll ds ≤ 1048576)
def OpenSpec.upto (s : _root_.Go.ChangeSpec) : _root_.Go.OpenSpec := { _root_.Go.OpenSpec.ofChange s with cond := some uptoSmall }

/-- 'pluviallaw09.ChunkTurns', WHERE WHAT IT READS IS OF BULK AT MOST 1048576: true; the input reads as it did. -/
def chunkTurnsUptoRow : OpenClaim := { program := "ytlclecehlekjoaa", sum := "a5be3b15b579d9c48ea0c32ca21501da7b767ac237f75b735224381f458321d1", func := "pluvial/pluviallaw09.ChunkTurns", spec := "chunkTurns", inPlace := ["math/bits.Add64"], unfollowed := true, recurses := true, apart := false, narrowed := true }
def ChunkTurnsUptoSaid : Prop := chunkTurnsUptoRow.holds Try.pinned (OpenSpec.upto chunkTurnsSpec)

/-- 'pluviallaw09.ChunkParts', WHERE WHAT IT READS IS OF BULK AT MOST 1048576: true; the input reads as it did. -/
def chunkPartsUptoRow : OpenClaim := { program := "ytlclecehlekjoaa", sum := "a5be3b15b579d9c48ea0c32ca21501da7b767ac237f75b735224381f458321d1", func := "pluvial/pluviallaw09.ChunkParts", spec := "chunkParts", inPlace := ["math/bits.Add64"], unfollowed := true, recurses := true, apart := false, narrowed := true }
def ChunkPartsUptoSaid : Prop := chunkPartsUptoRow.holds Try.pinned (OpenSpec.upto chunkPartsSpec)

end Rows
end Go.Proofs.Ytlclecehlekjoaa
