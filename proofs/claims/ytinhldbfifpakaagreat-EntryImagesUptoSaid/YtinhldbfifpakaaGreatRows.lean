/-
  No cell of these rows narrows 'for every input' (looked for: loops, veiled, ifaces, maps, wideKeys, modest, calm, conditions, laid).
  DERIVED. THE GIVEN ROWS OF THIS SEAT. 5 by the template 'for every input the law returns true; each argument reads behind the call as it read before'; 0 by the template 'total and deterministic' (their statements: YtinhldbfifpakaaGreatTotals.lean).
  GIVEN WITH THE SEED: the statements are not yours to turn. If you find one false, say at which input.
  Laid BY PROGRAM, IN A SANDBOX (cutbox-rows.mjs): the forced cells as the released guide's own fill.sh prints them over the translation bf5e6864d463c8b4… (all of the seat's roots in one cut). By AI agents, Wed Nov 11 2026. No macro, syntax, notation, axiom, sorry.
-/
import Derived.Test.YtinhldbfifpakaaGreatChecked
import GoSem.Claim
import GoSem.ClaimJoined
import GoSem.ClaimMapViews
import Derived.JoinedTies
import Derived.KernelRfl
namespace Go.Proofs.YtinhldbfifpakaaGreat
/- THE CELL 'sum', in the pinned program and in every row, IS THE sha256 OF THE DUMP (.gsa) THAT YtinhldbfifpakaaGreatProg.lean LOADS. Nothing in Lean hashes anything: it is a label: what it is worth is what the hold of that sum in a sandbox is worth. -/
noncomputable def Tryz.pinned : Pinned := { name := "ytinhldbfifpakaagreat", sum := "bf5e6864d463c8b4a6ed1e5331e5b096882ba3862543fa0e4abcdf1f53b0c7e8", checked := Tryz.checked }
namespace Rows
def none {H : Type} : Left H := { results := [], args := [] }

/-- 'pluviallaw15.EntryChanges': WHATEVER THE INPUT: true; the input reads as it did. -/
def entryChangesSpec : ChangeSpec := { name := "entryChanges", fn := fun _ => fun
  | [d] => { results := [.lit (.bool true)], args := [d] }
  | _ => none }
def entryChangesRow : OpenClaim := { program := "ytinhldbfifpakaagreat", sum := "bf5e6864d463c8b4a6ed1e5331e5b096882ba3862543fa0e4abcdf1f53b0c7e8", func := "pluvial/pluviallaw15.EntryChanges", spec := "entryChanges", inPlace := ["math/bits.Add64"], unfollowed := true, recurses := true, apart := false }
def EntryChangesSaid : Prop := entryChangesRow.holds Tryz.pinned (OpenSpec.ofChange entryChangesSpec)

/-- ITS FALSE NEIGHBOUR: 'it returns false'. Refute it at one input. -/
def entryChangesWrong : ChangeSpec := { name := "entryChanges", fn := fun _ => fun
  | [d] => { results := [.lit (.bool false)], args := [d] }
  | _ => none }
def EntryChangesWrongFalsely : Prop := entryChangesRow.holds Tryz.pinned (OpenSpec.ofChange entryChangesWrong)

/-- 'pluviallaw15.EntryApart': WHATEVER THE INPUT: true; the input reads as it did. -/
def entryApartSpec : ChangeSpec := { name := "entryApart", fn := fun _ => fun
  | [d1, d2, d3] => { results := [.lit (.bool true)], args := [d1, d2, d3] }
  | _ => none }
def entryApartRow : OpenClaim := { program := "ytinhldbfifpakaagreat", sum := "bf5e6864d463c8b4a6ed1e5331e5b096882ba3862543fa0e4abcdf1f53b0c7e8", func := "pluvial/pluviallaw15.EntryApart", spec := "entryApart", inPlace := ["math/bits.Add64"], unfollowed := true, recurses := true, apart := false }
def EntryApartSaid : Prop := entryApartRow.holds Tryz.pinned (OpenSpec.ofChange entryApartSpec)

/-- ITS FALSE NEIGHBOUR: 'it returns false'. Refute it at one input. -/
def entryApartWrong : ChangeSpec := { name := "entryApart", fn := fun _ => fun
  | [d1, d2, d3] => { results := [.lit (.bool false)], args := [d1, d2, d3] }
  | _ => none }
def EntryApartWrongFalsely : Prop := entryApartRow.holds Tryz.pinned (OpenSpec.ofChange entryApartWrong)

/-- 'pluviallaw15.EntryRising': WHATEVER THE INPUT: true; the input reads as it did. -/
def entryRisingSpec : ChangeSpec := { name := "entryRising", fn := fun _ => fun
  | [d1, d2] => { results := [.lit (.bool true)], args := [d1, d2] }
  | _ => none }
def entryRisingRow : OpenClaim := { program := "ytinhldbfifpakaagreat", sum := "bf5e6864d463c8b4a6ed1e5331e5b096882ba3862543fa0e4abcdf1f53b0c7e8", func := "pluvial/pluviallaw15.EntryRising", spec := "entryRising", inPlace := ["math/bits.Add64"], unfollowed := true, recurses := true, apart := false }
def EntryRisingSaid : Prop := entryRisingRow.holds Tryz.pinned (OpenSpec.ofChange entryRisingSpec)

/-- ITS FALSE NEIGHBOUR: 'it returns false'. Refute it at one input. -/
def entryRisingWrong : ChangeSpec := { name := "entryRising", fn := fun _ => fun
  | [d1, d2] => { results := [.lit (.bool false)], args := [d1, d2] }
  | _ => none }
def EntryRisingWrongFalsely : Prop := entryRisingRow.holds Tryz.pinned (OpenSpec.ofChange entryRisingWrong)

/-- 'pluviallaw15.EntryImages': WHATEVER THE INPUT: true; the input reads as it did. -/
def entryImagesSpec : ChangeSpec := { name := "entryImages", fn := fun _ => fun
  | [d] => { results := [.lit (.bool true)], args := [d] }
  | _ => none }
def entryImagesRow : OpenClaim := { program := "ytinhldbfifpakaagreat", sum := "bf5e6864d463c8b4a6ed1e5331e5b096882ba3862543fa0e4abcdf1f53b0c7e8", func := "pluvial/pluviallaw15.EntryImages", spec := "entryImages", inPlace := ["math/bits.Add64"], unfollowed := true, recurses := true, apart := false }
def EntryImagesSaid : Prop := entryImagesRow.holds Tryz.pinned (OpenSpec.ofChange entryImagesSpec)

/-- ITS FALSE NEIGHBOUR: 'it returns false'. Refute it at one input. -/
def entryImagesWrong : ChangeSpec := { name := "entryImages", fn := fun _ => fun
  | [d] => { results := [.lit (.bool false)], args := [d] }
  | _ => none }
def EntryImagesWrongFalsely : Prop := entryImagesRow.holds Tryz.pinned (OpenSpec.ofChange entryImagesWrong)

/-- 'pluviallaw15.EntryReads': WHATEVER THE INPUT: true; the input reads as it did. -/
def entryReadsSpec : ChangeSpec := { name := "entryReads", fn := fun _ => fun
  | [d] => { results := [.lit (.bool true)], args := [d] }
  | _ => none }
def entryReadsRow : OpenClaim := { program := "ytinhldbfifpakaagreat", sum := "bf5e6864d463c8b4a6ed1e5331e5b096882ba3862543fa0e4abcdf1f53b0c7e8", func := "pluvial/pluviallaw15.EntryReads", spec := "entryReads", inPlace := ["math/bits.Add64"], unfollowed := true, recurses := true, apart := false }
def EntryReadsSaid : Prop := entryReadsRow.holds Tryz.pinned (OpenSpec.ofChange entryReadsSpec)

/-- ITS FALSE NEIGHBOUR: 'it returns false'. Refute it at one input. -/
def entryReadsWrong : ChangeSpec := { name := "entryReads", fn := fun _ => fun
  | [d] => { results := [.lit (.bool false)], args := [d] }
  | _ => none }
def EntryReadsWrongFalsely : Prop := entryReadsRow.holds Tryz.pinned (OpenSpec.ofChange entryReadsWrong)

/- THE SECOND FORM. 'bulk': how many values and letters a reading holds, each counted each time it is reached (what is shared counts as often as it is met; a slice's spare places count too). A statement '..UptoSaid' is the law's where the arguments, and the package variables that the reading takes, are together of bulk at most 1048576: NARROWER than '..Said'. Prove '..Said' where nothing that the law and all that it calls make is longer than what came in: it says more and counts as full. Else prove '..UptoSaid'. A law counts once. -/
mutual
def uptoBulk {H : Type} : DataW H → Nat
  | .lit (.string bytes) => bytes.length + 1
  | .lit _ => 1
  | .nil => 1
  | .ptr d => uptoBulk d + 1
  | .slice elems spare => uptoBulkAll elems + uptoBulkAll spare + 1
  | .agg parts => uptoBulkAll parts + 1
  | .iface _ d => uptoBulk d + 1
  | .map entries => uptoBulkEntries entries + 1
  | .held _ => 1
def uptoBulkAll {H : Type} : List (DataW H) → Nat
  | [] => 0
  | d :: r => uptoBulk d + uptoBulkAll r
def uptoBulkEntries {H : Type} : List (Lit × DataW H) → Nat
  | [] => 0
  | x :: r => uptoBulkEntry x + uptoBulkEntries r
def uptoBulkEntry {H : Type} : Lit × DataW H → Nat
  | (.string bytes, d) => bytes.length + uptoBulk d + 1
  | (_, d) => uptoBulk d + 1
 end
def uptoSmall : (H : Type) → List (DataW H) → Bool := fun _ ds => decide (uptoBulkAll ds ≤ 1048576)
def OpenSpec.upto (s : _root_.Go.ChangeSpec) : _root_.Go.OpenSpec := { _root_.Go.OpenSpec.ofChange s with cond := some uptoSmall }

/-- 'pluviallaw15.EntryChanges', WHERE WHAT IT READS IS OF BULK AT MOST 1048576: true; the input reads as it did. -/
def entryChangesUptoRow : OpenClaim := { program := "ytinhldbfifpakaagreat", sum := "bf5e6864d463c8b4a6ed1e5331e5b096882ba3862543fa0e4abcdf1f53b0c7e8", func := "pluvial/pluviallaw15.EntryChanges", spec := "entryChanges", inPlace := ["math/bits.Add64"], unfollowed := true, recurses := true, apart := false, narrowed := true }
def EntryChangesUptoSaid : Prop := entryChangesUptoRow.holds Tryz.pinned (OpenSpec.upto entryChangesSpec)

/-- 'pluviallaw15.EntryApart', WHERE WHAT IT READS IS OF BULK AT MOST 1048576: true; the input reads as it did. -/
def entryApartUptoRow : OpenClaim := { program := "ytinhldbfifpakaagreat", sum := "bf5e6864d463c8b4a6ed1e5331e5b096882ba3862543fa0e4abcdf1f53b0c7e8", func := "pluvial/pluviallaw15.EntryApart", spec := "entryApart", inPlace := ["math/bits.Add64"], unfollowed := true, recurses := true, apart := false, narrowed := true }
def EntryApartUptoSaid : Prop := entryApartUptoRow.holds Tryz.pinned (OpenSpec.upto entryApartSpec)

/-- 'pluviallaw15.EntryRising', WHERE WHAT IT READS IS OF BULK AT MOST 1048576: true; the input reads as it did. -/
def entryRisingUptoRow : OpenClaim := { program := "ytinhldbfifpakaagreat", sum := "bf5e6864d463c8b4a6ed1e5331e5b096882ba3862543fa0e4abcdf1f53b0c7e8", func := "pluvial/pluviallaw15.EntryRising", spec := "entryRising", inPlace := ["math/bits.Add64"], unfollowed := true, recurses := true, apart := false, narrowed := true }
def EntryRisingUptoSaid : Prop := entryRisingUptoRow.holds Tryz.pinned (OpenSpec.upto entryRisingSpec)

/-- 'pluviallaw15.EntryImages', WHERE WHAT IT READS IS OF BULK AT MOST 1048576: true; the input reads as it did. -/
def entryImagesUptoRow : OpenClaim := { program := "ytinhldbfifpakaagreat", sum := "bf5e6864d463c8b4a6ed1e5331e5b096882ba3862543fa0e4abcdf1f53b0c7e8", func := "pluvial/pluviallaw15.EntryImages", spec := "entryImages", inPlace := ["math/bits.Add64"], unfollowed := true, recurses := true, apart := false, narrowed := true }
def EntryImagesUptoSaid : Prop := entryImagesUptoRow.holds Tryz.pinned (OpenSpec.upto entryImagesSpec)

/-- 'pluviallaw15.EntryReads', WHERE WHAT IT READS IS OF BULK AT MOST 1048576: true; the input reads as it did. -/
def entryReadsUptoRow : OpenClaim := { program := "ytinhldbfifpakaagreat", sum := "bf5e6864d463c8b4a6ed1e5331e5b096882ba3862543fa0e4abcdf1f53b0c7e8", func := "pluvial/pluviallaw15.EntryReads", spec := "entryReads", inPlace := ["math/bits.Add64"], unfollowed := true, recurses := true, apart := false, narrowed := true }
def EntryReadsUptoSaid : Prop := entryReadsUptoRow.holds Tryz.pinned (OpenSpec.upto entryReadsSpec)

end Rows
end Go.Proofs.YtinhldbfifpakaaGreat
