/-
  No cell of these rows narrows 'for every input' (looked for: loops, veiled, ifaces, maps, wideKeys, modest, calm, conditions, laid).
  DERIVED. THE GIVEN ROWS OF THIS SEAT. 7 by the template 'for every input the law returns true; each argument reads behind the call as it read before'; 0 by the template 'total and deterministic' (their statements: YticdbkmekkbiiaaTotals.lean).
  GIVEN WITH THE SEED: the statements are not yours to turn. If you find one false, say at which input.
  Laid BY PROGRAM, IN A SANDBOX (cutbox-rows.mjs): the forced cells as the released guide's own fill.sh prints them over the translation d42373696d504b68… (all of the seat's roots in one cut). By AI agents, Wed Nov 11 2026. No macro, syntax, notation, axiom, sorry.
-/
import Derived.Test.YticdbkmekkbiiaaChecked
import GoSem.Claim
import GoSem.ClaimJoined
import GoSem.ClaimMapViews
import Derived.JoinedTies
import Derived.KernelRfl
namespace Go.Proofs.Yticdbkmekkbiiaa
/- THE CELL 'sum', in the pinned program and in every row, IS THE sha256 OF THE DUMP (.gsa) THAT YticdbkmekkbiiaaProg.lean LOADS. Nothing in Lean hashes anything: it is a label: what it is worth is what the hold of that sum in a sandbox is worth. -/
noncomputable def Try.pinned : Pinned := { name := "yticdbkmekkbiiaa", sum := "d42373696d504b6873531ef3a3d0262b532b5dfefa84d86cee092f7e3fe8da42", checked := Try.checked }
namespace Rows
def none {H : Type} : Left H := { results := [], args := [] }

/-- 'pluviallaw07.MeldKeeps': WHATEVER THE INPUT: true; the input reads as it did. -/
def meldKeepsSpec : ChangeSpec := { name := "meldKeeps", fn := fun _ => fun
  | [d1, d2, d3, d4] => { results := [.lit (.bool true)], args := [d1, d2, d3, d4] }
  | _ => none }
def meldKeepsRow : OpenClaim := { program := "yticdbkmekkbiiaa", sum := "d42373696d504b6873531ef3a3d0262b532b5dfefa84d86cee092f7e3fe8da42", func := "pluvial/pluviallaw07.MeldKeeps", spec := "meldKeeps", inPlace := ["math/bits.Add64"], unfollowed := true, recurses := true, apart := false }
def MeldKeepsSaid : Prop := meldKeepsRow.holds Try.pinned (OpenSpec.ofChange meldKeepsSpec)

/-- ITS FALSE NEIGHBOUR: 'it returns false'. Refute it at one input. -/
def meldKeepsWrong : ChangeSpec := { name := "meldKeeps", fn := fun _ => fun
  | [d1, d2, d3, d4] => { results := [.lit (.bool false)], args := [d1, d2, d3, d4] }
  | _ => none }
def MeldKeepsWrongFalsely : Prop := meldKeepsRow.holds Try.pinned (OpenSpec.ofChange meldKeepsWrong)

/-- 'pluviallaw07.MeldDowns': WHATEVER THE INPUT: true; the input reads as it did. -/
def meldDownsSpec : ChangeSpec := { name := "meldDowns", fn := fun _ => fun
  | [d1, d2, d3, d4] => { results := [.lit (.bool true)], args := [d1, d2, d3, d4] }
  | _ => none }
def meldDownsRow : OpenClaim := { program := "yticdbkmekkbiiaa", sum := "d42373696d504b6873531ef3a3d0262b532b5dfefa84d86cee092f7e3fe8da42", func := "pluvial/pluviallaw07.MeldDowns", spec := "meldDowns", inPlace := ["math/bits.Add64"], unfollowed := true, recurses := true, apart := false }
def MeldDownsSaid : Prop := meldDownsRow.holds Try.pinned (OpenSpec.ofChange meldDownsSpec)

/-- ITS FALSE NEIGHBOUR: 'it returns false'. Refute it at one input. -/
def meldDownsWrong : ChangeSpec := { name := "meldDowns", fn := fun _ => fun
  | [d1, d2, d3, d4] => { results := [.lit (.bool false)], args := [d1, d2, d3, d4] }
  | _ => none }
def MeldDownsWrongFalsely : Prop := meldDownsRow.holds Try.pinned (OpenSpec.ofChange meldDownsWrong)

/-- 'pluviallaw07.MeldAdds': WHATEVER THE INPUT: true; the input reads as it did. -/
def meldAddsSpec : ChangeSpec := { name := "meldAdds", fn := fun _ => fun
  | [d1, d2] => { results := [.lit (.bool true)], args := [d1, d2] }
  | _ => none }
def meldAddsRow : OpenClaim := { program := "yticdbkmekkbiiaa", sum := "d42373696d504b6873531ef3a3d0262b532b5dfefa84d86cee092f7e3fe8da42", func := "pluvial/pluviallaw07.MeldAdds", spec := "meldAdds", inPlace := ["math/bits.Add64"], unfollowed := true, recurses := true, apart := false }
def MeldAddsSaid : Prop := meldAddsRow.holds Try.pinned (OpenSpec.ofChange meldAddsSpec)

/-- ITS FALSE NEIGHBOUR: 'it returns false'. Refute it at one input. -/
def meldAddsWrong : ChangeSpec := { name := "meldAdds", fn := fun _ => fun
  | [d1, d2] => { results := [.lit (.bool false)], args := [d1, d2] }
  | _ => none }
def MeldAddsWrongFalsely : Prop := meldAddsRow.holds Try.pinned (OpenSpec.ofChange meldAddsWrong)

/-- 'pluviallaw07.MeldBack': WHATEVER THE INPUT: true; the input reads as it did. -/
def meldBackSpec : ChangeSpec := { name := "meldBack", fn := fun _ => fun
  | [d1, d2] => { results := [.lit (.bool true)], args := [d1, d2] }
  | _ => none }
def meldBackRow : OpenClaim := { program := "yticdbkmekkbiiaa", sum := "d42373696d504b6873531ef3a3d0262b532b5dfefa84d86cee092f7e3fe8da42", func := "pluvial/pluviallaw07.MeldBack", spec := "meldBack", inPlace := ["math/bits.Add64"], unfollowed := true, recurses := true, apart := false }
def MeldBackSaid : Prop := meldBackRow.holds Try.pinned (OpenSpec.ofChange meldBackSpec)

/-- ITS FALSE NEIGHBOUR: 'it returns false'. Refute it at one input. -/
def meldBackWrong : ChangeSpec := { name := "meldBack", fn := fun _ => fun
  | [d1, d2] => { results := [.lit (.bool false)], args := [d1, d2] }
  | _ => none }
def MeldBackWrongFalsely : Prop := meldBackRow.holds Try.pinned (OpenSpec.ofChange meldBackWrong)

/-- 'pluviallaw07.MeldMore': WHATEVER THE INPUT: true; the input reads as it did. -/
def meldMoreSpec : ChangeSpec := { name := "meldMore", fn := fun _ => fun
  | [d1, d2, d3] => { results := [.lit (.bool true)], args := [d1, d2, d3] }
  | _ => none }
def meldMoreRow : OpenClaim := { program := "yticdbkmekkbiiaa", sum := "d42373696d504b6873531ef3a3d0262b532b5dfefa84d86cee092f7e3fe8da42", func := "pluvial/pluviallaw07.MeldMore", spec := "meldMore", inPlace := ["math/bits.Add64"], unfollowed := true, recurses := true, apart := false }
def MeldMoreSaid : Prop := meldMoreRow.holds Try.pinned (OpenSpec.ofChange meldMoreSpec)

/-- ITS FALSE NEIGHBOUR: 'it returns false'. Refute it at one input. -/
def meldMoreWrong : ChangeSpec := { name := "meldMore", fn := fun _ => fun
  | [d1, d2, d3] => { results := [.lit (.bool false)], args := [d1, d2, d3] }
  | _ => none }
def MeldMoreWrongFalsely : Prop := meldMoreRow.holds Try.pinned (OpenSpec.ofChange meldMoreWrong)

/-- 'pluviallaw07.MeldRises': WHATEVER THE INPUT: true; the input reads as it did. -/
def meldRisesSpec : ChangeSpec := { name := "meldRises", fn := fun _ => fun
  | [d] => { results := [.lit (.bool true)], args := [d] }
  | _ => none }
def meldRisesRow : OpenClaim := { program := "yticdbkmekkbiiaa", sum := "d42373696d504b6873531ef3a3d0262b532b5dfefa84d86cee092f7e3fe8da42", func := "pluvial/pluviallaw07.MeldRises", spec := "meldRises", inPlace := ["math/bits.Add64"], unfollowed := true, recurses := true, apart := false }
def MeldRisesSaid : Prop := meldRisesRow.holds Try.pinned (OpenSpec.ofChange meldRisesSpec)

/-- ITS FALSE NEIGHBOUR: 'it returns false'. Refute it at one input. -/
def meldRisesWrong : ChangeSpec := { name := "meldRises", fn := fun _ => fun
  | [d] => { results := [.lit (.bool false)], args := [d] }
  | _ => none }
def MeldRisesWrongFalsely : Prop := meldRisesRow.holds Try.pinned (OpenSpec.ofChange meldRisesWrong)

/-- 'pluviallaw07.MeldEmpty': WHATEVER THE INPUT: true; the input reads as it did. -/
def meldEmptySpec : ChangeSpec := { name := "meldEmpty", fn := fun _ => fun
  | [d] => { results := [.lit (.bool true)], args := [d] }
  | _ => none }
def meldEmptyRow : OpenClaim := { program := "yticdbkmekkbiiaa", sum := "d42373696d504b6873531ef3a3d0262b532b5dfefa84d86cee092f7e3fe8da42", func := "pluvial/pluviallaw07.MeldEmpty", spec := "meldEmpty", inPlace := ["math/bits.Add64"], unfollowed := true, recurses := true, apart := false }
def MeldEmptySaid : Prop := meldEmptyRow.holds Try.pinned (OpenSpec.ofChange meldEmptySpec)

/-- ITS FALSE NEIGHBOUR: 'it returns false'. Refute it at one input. -/
def meldEmptyWrong : ChangeSpec := { name := "meldEmpty", fn := fun _ => fun
  | [d] => { results := [.lit (.bool false)], args := [d] }
  | _ => none }
def MeldEmptyWrongFalsely : Prop := meldEmptyRow.holds Try.pinned (OpenSpec.ofChange meldEmptyWrong)

/- THE SECOND FORM. 'bulk': how many values and letters a reading holds, each counted each time it is reached (what is shared counts as often as it is met; a slice's spare places count too). A statement '..UptoSaid' is the law's where the arguments, and the package variables that the reading takes, are together of bulk at most 1048576: NARROWER than '..Said'. Prove '..Said' where nothing that the law and all that it calls make is longer than what came in: it says more and counts as full. Else prove '..UptoSaid'. A law counts once. -/
mutual
def uptoBulk {H : Type} : DataW H → Nat
  | .lit (.string bytes) => bytes.length + 1
  | .lit _ => 1
  | .nil => 1
  | .ptr d => uptoBulk d + 1
  | .slice elems spare => uptoBulkAll elems + uptoBulkAll spare + 1
  | .agg parts => uptoBulkAll parts + 1
  | .iface _ d => uptoBulk d + 1
  | .map entries => uptoBulkEntries entries + 1
  | .held _ => 1
def uptoBulkAll {H : Type} : List (DataW H) → Nat
  | [] => 0
  | d :: r => uptoBulk d + uptoBulkAll r
def uptoBulkEntries {H : Type} : List (Lit × DataW H) → Nat
  | [] => 0
  | x :: r => uptoBulkEntry x + uptoBulkEntries r
def uptoBulkEntry {H : Type} : Lit × DataW H → Nat
  | (.string bytes, d) => bytes.length + uptoBulk d + 1
  | (_, d) => uptoBulk d + 1
 end
def uptoSmall : (H : Type) → List (DataW H) → Bool := fun _ ds => decide (uptoBulkAll ds ≤ 1048576)
def OpenSpec.upto (s : _root_.Go.ChangeSpec) : _root_.Go.OpenSpec := { _root_.Go.OpenSpec.ofChange s with cond := some uptoSmall }

/-- 'pluviallaw07.MeldKeeps', WHERE WHAT IT READS IS OF BULK AT MOST 1048576: true; the input reads as it did. -/
def meldKeepsUptoRow : OpenClaim := { program := "yticdbkmekkbiiaa", sum := "d42373696d504b6873531ef3a3d0262b532b5dfefa84d86cee092f7e3fe8da42", func := "pluvial/pluviallaw07.MeldKeeps", spec := "meldKeeps", inPlace := ["math/bits.Add64"], unfollowed := true, recurses := true, apart := false, narrowed := true }
def MeldKeepsUptoSaid : Prop := meldKeepsUptoRow.holds Try.pinned (OpenSpec.upto meldKeepsSpec)

/-- 'pluviallaw07.MeldDowns', WHERE WHAT IT READS IS OF BULK AT MOST 1048576: true; the input reads as it did. -/
def meldDownsUptoRow : OpenClaim := { program := "yticdbkmekkbiiaa", sum := "d42373696d504b6873531ef3a3d0262b532b5dfefa84d86cee092f7e3fe8da42", func := "pluvial/pluviallaw07.MeldDowns", spec := "meldDowns", inPlace := ["math/bits.Add64"], unfollowed := true, recurses := true, apart := false, narrowed := true }
def MeldDownsUptoSaid : Prop := meldDownsUptoRow.holds Try.pinned (OpenSpec.upto meldDownsSpec)

/-- 'pluviallaw07.MeldAdds', WHERE WHAT IT READS IS OF BULK AT MOST 1048576: true; the input reads as it did. -/
def meldAddsUptoRow : OpenClaim := { program := "yticdbkmekkbiiaa", sum := "d42373696d504b6873531ef3a3d0262b532b5dfefa84d86cee092f7e3fe8da42", func := "pluvial/pluviallaw07.MeldAdds", spec := "meldAdds", inPlace := ["math/bits.Add64"], unfollowed := true, recurses := true, apart := false, narrowed := true }
def MeldAddsUptoSaid : Prop := meldAddsUptoRow.holds Try.pinned (OpenSpec.upto meldAddsSpec)

/-- 'pluviallaw07.MeldBack', WHERE WHAT IT READS IS OF BULK AT MOST 1048576: true; the input reads as it did. -/
def meldBackUptoRow : OpenClaim := { program := "yticdbkmekkbiiaa", sum := "d42373696d504b6873531ef3a3d0262b532b5dfefa84d86cee092f7e3fe8da42", func := "pluvial/pluviallaw07.MeldBack", spec := "meldBack", inPlace := ["math/bits.Add64"], unfollowed := true, recurses := true, apart := false, narrowed := true }
def MeldBackUptoSaid : Prop := meldBackUptoRow.holds Try.pinned (OpenSpec.upto meldBackSpec)

/-- 'pluviallaw07.MeldMore', WHERE WHAT IT READS IS OF BULK AT MOST 1048576: true; the input reads as it did. -/
def meldMoreUptoRow : OpenClaim := { program := "yticdbkmekkbiiaa", sum := "d42373696d504b6873531ef3a3d0262b532b5dfefa84d86cee092f7e3fe8da42", func := "pluvial/pluviallaw07.MeldMore", spec := "meldMore", inPlace := ["math/bits.Add64"], unfollowed := true, recurses := true, apart := false, narrowed := true }
def MeldMoreUptoSaid : Prop := meldMoreUptoRow.holds Try.pinned (OpenSpec.upto meldMoreSpec)

/-- 'pluviallaw07.MeldRises', WHERE WHAT IT READS IS OF BULK AT MOST 1048576: true; the input reads as it did. -/
def meldRisesUptoRow : OpenClaim := { program := "yticdbkmekkbiiaa", sum := "d42373696d504b6873531ef3a3d0262b532b5dfefa84d86cee092f7e3fe8da42", func := "pluvial/pluviallaw07.MeldRises", spec := "meldRises", inPlace := ["math/bits.Add64"], unfollowed := true, recurses := true, apart := false, narrowed := true }
def MeldRisesUptoSaid : Prop := meldRisesUptoRow.holds Try.pinned (OpenSpec.upto meldRisesSpec)

/-- 'pluviallaw07.MeldEmpty', WHERE WHAT IT READS IS OF BULK AT MOST 1048576: true; the input reads as it did. -/
def meldEmptyUptoRow : OpenClaim := { program := "yticdbkmekkbiiaa", sum := "d42373696d504b6873531ef3a3d0262b532b5dfefa84d86cee092f7e3fe8da42", func := "pluvial/pluviallaw07.MeldEmpty", spec := "meldEmpty", inPlace := ["math/bits.Add64"], unfollowed := true, recurses := true, apart := false, narrowed := true }
def MeldEmptyUptoSaid : Prop := meldEmptyUptoRow.holds Try.pinned (OpenSpec.upto meldEmptySpec)

end Rows
end Go.Proofs.Yticdbkmekkbiiaa
