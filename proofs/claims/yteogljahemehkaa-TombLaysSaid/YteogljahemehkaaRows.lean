/-
  No cell of these rows narrows 'for every input' (looked for: loops, veiled, ifaces, maps, wideKeys, modest, calm, conditions, laid).
  DERIVED. THE GIVEN ROWS OF THIS SEAT. 10 by the template 'for every input the law returns true; each argument reads behind the call as it read before'; 0 by the template 'total and deterministic' (their statements: YteogljahemehkaaTotals.lean).
  GIVEN WITH THE SEED: the statements are not yours to turn. If you find one false, say at which input.
  Laid BY PROGRAM, IN A SANDBOX (cutbox-rows.mjs): the forced cells as the released guide's own fill.sh prints them over the translation e865da7c79e494f7… (all of the seat's roots in one cut). By AI agents, Wed Nov 11 2026. No macro, syntax, notation, axiom, sorry.
-/
import Derived.Test.YteogljahemehkaaChecked
import GoSem.Claim
import GoSem.ClaimJoined
import GoSem.ClaimMapViews
import Derived.JoinedTies
import Derived.KernelRfl
namespace Go.Proofs.Yteogljahemehkaa
/- THE CELL 'sum', in the pinned program and in every row, IS THE sha256 OF THE DUMP (.gsa) THAT YteogljahemehkaaProg.lean LOADS. Nothing in Lean hashes anything: it is a label: what it is worth is what the hold of that sum in a sandbox is worth. -/
noncomputable def Try.pinned : Pinned := { name := "yteogljahemehkaa", sum := "e865da7c79e494f7cab29353a5fb37b056f626dab38fc3d999e4bf9cc51f0431", checked := Try.checked }
namespace Rows
def none {H : Type} : Left H := { results := [], args := [] }

/-- 'pluviallaw14.TombKeeps': WHATEVER THE INPUT: true; the input reads as it did. -/
def tombKeepsSpec : ChangeSpec := { name := "tombKeeps", fn := fun _ => fun
  | [d1, d2] => { results := [.lit (.bool true)], args := [d1, d2] }
  | _ => none }
def tombKeepsRow : OpenClaim := { program := "yteogljahemehkaa", sum := "e865da7c79e494f7cab29353a5fb37b056f626dab38fc3d999e4bf9cc51f0431", func := "pluvial/pluviallaw14.TombKeeps", spec := "tombKeeps", unfollowed := true, recurses := true, apart := false }
def TombKeepsSaid : Prop := tombKeepsRow.holds Try.pinned (OpenSpec.ofChange tombKeepsSpec)

/-- ITS FALSE NEIGHBOUR: 'it returns false'. Refute it at one input. -/
def tombKeepsWrong : ChangeSpec := { name := "tombKeeps", fn := fun _ => fun
  | [d1, d2] => { results := [.lit (.bool false)], args := [d1, d2] }
  | _ => none }
def TombKeepsWrongFalsely : Prop := tombKeepsRow.holds Try.pinned (OpenSpec.ofChange tombKeepsWrong)

/-- 'pluviallaw08.RankAll': WHATEVER THE INPUT: true; the input reads as it did. -/
def rankAllSpec : ChangeSpec := { name := "rankAll", fn := fun _ => fun
  | [d] => { results := [.lit (.bool true)], args := [d] }
  | _ => none }
def rankAllRow : OpenClaim := { program := "yteogljahemehkaa", sum := "e865da7c79e494f7cab29353a5fb37b056f626dab38fc3d999e4bf9cc51f0431", func := "pluvial/pluviallaw08.RankAll", spec := "rankAll", inPlace := ["math/bits.Add64"], unfollowed := true, recurses := true, named := ["math/bits.divideError", "math/bits.overflowError"], apart := false }
def RankAllSaid : Prop := rankAllRow.holds Try.pinned (OpenSpec.ofChange rankAllSpec)

/-- ITS FALSE NEIGHBOUR: 'it returns false'. Refute it at one input. -/
def rankAllWrong : ChangeSpec := { name := "rankAll", fn := fun _ => fun
  | [d] => { results := [.lit (.bool false)], args := [d] }
  | _ => none }
def RankAllWrongFalsely : Prop := rankAllRow.holds Try.pinned (OpenSpec.ofChange rankAllWrong)

/-- 'pluviallaw08.RankFinds': WHATEVER THE INPUT: true; the input reads as it did. -/
def rankFindsSpec : ChangeSpec := { name := "rankFinds", fn := fun _ => fun
  | [d1, d2, d3, d4] => { results := [.lit (.bool true)], args := [d1, d2, d3, d4] }
  | _ => none }
def rankFindsRow : OpenClaim := { program := "yteogljahemehkaa", sum := "e865da7c79e494f7cab29353a5fb37b056f626dab38fc3d999e4bf9cc51f0431", func := "pluvial/pluviallaw08.RankFinds", spec := "rankFinds", inPlace := ["math/bits.Add64"], unfollowed := true, recurses := true, named := ["math/bits.divideError", "math/bits.overflowError"], apart := false }
def RankFindsSaid : Prop := rankFindsRow.holds Try.pinned (OpenSpec.ofChange rankFindsSpec)

/-- ITS FALSE NEIGHBOUR: 'it returns false'. Refute it at one input. -/
def rankFindsWrong : ChangeSpec := { name := "rankFinds", fn := fun _ => fun
  | [d1, d2, d3, d4] => { results := [.lit (.bool false)], args := [d1, d2, d3, d4] }
  | _ => none }
def RankFindsWrongFalsely : Prop := rankFindsRow.holds Try.pinned (OpenSpec.ofChange rankFindsWrong)

/-- 'pluviallaw14.TombTurns': WHATEVER THE INPUT: true; the input reads as it did. -/
def tombTurnsSpec : ChangeSpec := { name := "tombTurns", fn := fun _ => fun
  | [d1, d2, d3] => { results := [.lit (.bool true)], args := [d1, d2, d3] }
  | _ => none }
def tombTurnsRow : OpenClaim := { program := "yteogljahemehkaa", sum := "e865da7c79e494f7cab29353a5fb37b056f626dab38fc3d999e4bf9cc51f0431", func := "pluvial/pluviallaw14.TombTurns", spec := "tombTurns", unfollowed := true, recurses := true, apart := false }
def TombTurnsSaid : Prop := tombTurnsRow.holds Try.pinned (OpenSpec.ofChange tombTurnsSpec)

/-- ITS FALSE NEIGHBOUR: 'it returns false'. Refute it at one input. -/
def tombTurnsWrong : ChangeSpec := { name := "tombTurns", fn := fun _ => fun
  | [d1, d2, d3] => { results := [.lit (.bool false)], args := [d1, d2, d3] }
  | _ => none }
def TombTurnsWrongFalsely : Prop := tombTurnsRow.holds Try.pinned (OpenSpec.ofChange tombTurnsWrong)

/-- 'pluviallaw08.RankBelow': WHATEVER THE INPUT: true; the input reads as it did. -/
def rankBelowSpec : ChangeSpec := { name := "rankBelow", fn := fun _ => fun
  | [d1, d2] => { results := [.lit (.bool true)], args := [d1, d2] }
  | _ => none }
def rankBelowRow : OpenClaim := { program := "yteogljahemehkaa", sum := "e865da7c79e494f7cab29353a5fb37b056f626dab38fc3d999e4bf9cc51f0431", func := "pluvial/pluviallaw08.RankBelow", spec := "rankBelow", inPlace := ["math/bits.Add64"], unfollowed := true, recurses := true, named := ["math/bits.divideError", "math/bits.overflowError"], apart := false }
def RankBelowSaid : Prop := rankBelowRow.holds Try.pinned (OpenSpec.ofChange rankBelowSpec)

/-- ITS FALSE NEIGHBOUR: 'it returns false'. Refute it at one input. -/
def rankBelowWrong : ChangeSpec := { name := "rankBelow", fn := fun _ => fun
  | [d1, d2] => { results := [.lit (.bool false)], args := [d1, d2] }
  | _ => none }
def RankBelowWrongFalsely : Prop := rankBelowRow.holds Try.pinned (OpenSpec.ofChange rankBelowWrong)

/-- 'pluviallaw08.RankEnds': WHATEVER THE INPUT: true; the input reads as it did. -/
def rankEndsSpec : ChangeSpec := { name := "rankEnds", fn := fun _ => fun
  | [d1, d2] => { results := [.lit (.bool true)], args := [d1, d2] }
  | _ => none }
def rankEndsRow : OpenClaim := { program := "yteogljahemehkaa", sum := "e865da7c79e494f7cab29353a5fb37b056f626dab38fc3d999e4bf9cc51f0431", func := "pluvial/pluviallaw08.RankEnds", spec := "rankEnds", inPlace := ["math/bits.Add64"], unfollowed := true, recurses := true, named := ["math/bits.divideError", "math/bits.overflowError"], apart := false }
def RankEndsSaid : Prop := rankEndsRow.holds Try.pinned (OpenSpec.ofChange rankEndsSpec)

/-- ITS FALSE NEIGHBOUR: 'it returns false'. Refute it at one input. -/
def rankEndsWrong : ChangeSpec := { name := "rankEnds", fn := fun _ => fun
  | [d1, d2] => { results := [.lit (.bool false)], args := [d1, d2] }
  | _ => none }
def RankEndsWrongFalsely : Prop := rankEndsRow.holds Try.pinned (OpenSpec.ofChange rankEndsWrong)

/-- 'pluviallaw14.TombHas': WHATEVER THE INPUT: true; the input reads as it did. -/
def tombHasSpec : ChangeSpec := { name := "tombHas", fn := fun _ => fun
  | [d1, d2, d3, d4] => { results := [.lit (.bool true)], args := [d1, d2, d3, d4] }
  | _ => none }
def tombHasRow : OpenClaim := { program := "yteogljahemehkaa", sum := "e865da7c79e494f7cab29353a5fb37b056f626dab38fc3d999e4bf9cc51f0431", func := "pluvial/pluviallaw14.TombHas", spec := "tombHas", unfollowed := true, recurses := true, apart := false }
def TombHasSaid : Prop := tombHasRow.holds Try.pinned (OpenSpec.ofChange tombHasSpec)

/-- ITS FALSE NEIGHBOUR: 'it returns false'. Refute it at one input. -/
def tombHasWrong : ChangeSpec := { name := "tombHas", fn := fun _ => fun
  | [d1, d2, d3, d4] => { results := [.lit (.bool false)], args := [d1, d2, d3, d4] }
  | _ => none }
def TombHasWrongFalsely : Prop := tombHasRow.holds Try.pinned (OpenSpec.ofChange tombHasWrong)

/-- 'pluviallaw08.RankRises': WHATEVER THE INPUT: true; the input reads as it did. -/
def rankRisesSpec : ChangeSpec := { name := "rankRises", fn := fun _ => fun
  | [d1, d2, d3, d4, d5, d6] => { results := [.lit (.bool true)], args := [d1, d2, d3, d4, d5, d6] }
  | _ => none }
def rankRisesRow : OpenClaim := { program := "yteogljahemehkaa", sum := "e865da7c79e494f7cab29353a5fb37b056f626dab38fc3d999e4bf9cc51f0431", func := "pluvial/pluviallaw08.RankRises", spec := "rankRises", inPlace := ["math/bits.Add64"], unfollowed := true, recurses := true, named := ["math/bits.divideError", "math/bits.overflowError"], apart := false }
def RankRisesSaid : Prop := rankRisesRow.holds Try.pinned (OpenSpec.ofChange rankRisesSpec)

/-- ITS FALSE NEIGHBOUR: 'it returns false'. Refute it at one input. -/
def rankRisesWrong : ChangeSpec := { name := "rankRises", fn := fun _ => fun
  | [d1, d2, d3, d4, d5, d6] => { results := [.lit (.bool false)], args := [d1, d2, d3, d4, d5, d6] }
  | _ => none }
def RankRisesWrongFalsely : Prop := rankRisesRow.holds Try.pinned (OpenSpec.ofChange rankRisesWrong)

/-- 'pluviallaw08.RankDowns': WHATEVER THE INPUT: true; the input reads as it did. -/
def rankDownsSpec : ChangeSpec := { name := "rankDowns", fn := fun _ => fun
  | [d1, d2, d3, d4, d5] => { results := [.lit (.bool true)], args := [d1, d2, d3, d4, d5] }
  | _ => none }
def rankDownsRow : OpenClaim := { program := "yteogljahemehkaa", sum := "e865da7c79e494f7cab29353a5fb37b056f626dab38fc3d999e4bf9cc51f0431", func := "pluvial/pluviallaw08.RankDowns", spec := "rankDowns", inPlace := ["math/bits.Add64"], unfollowed := true, recurses := true, named := ["math/bits.divideError", "math/bits.overflowError"], apart := false }
def RankDownsSaid : Prop := rankDownsRow.holds Try.pinned (OpenSpec.ofChange rankDownsSpec)

/-- ITS FALSE NEIGHBOUR: 'it returns false'. Refute it at one input. -/
def rankDownsWrong : ChangeSpec := { name := "rankDowns", fn := fun _ => fun
  | [d1, d2, d3, d4, d5] => { results := [.lit (.bool false)], args := [d1, d2, d3, d4, d5] }
  | _ => none }
def RankDownsWrongFalsely : Prop := rankDownsRow.holds Try.pinned (OpenSpec.ofChange rankDownsWrong)

/-- 'pluviallaw14.TombLays': WHATEVER THE INPUT: true; the input reads as it did. -/
def tombLaysSpec : ChangeSpec := { name := "tombLays", fn := fun _ => fun
  | [d1, d2, d3] => { results := [.lit (.bool true)], args := [d1, d2, d3] }
  | _ => none }
def tombLaysRow : OpenClaim := { program := "yteogljahemehkaa", sum := "e865da7c79e494f7cab29353a5fb37b056f626dab38fc3d999e4bf9cc51f0431", func := "pluvial/pluviallaw14.TombLays", spec := "tombLays", unfollowed := true, recurses := true, apart := false }
def TombLaysSaid : Prop := tombLaysRow.holds Try.pinned (OpenSpec.ofChange tombLaysSpec)

/-- ITS FALSE NEIGHBOUR: 'it returns false'. Refute it at one input. -/
def tombLaysWrong : ChangeSpec := { name := "tombLays", fn := fun _ => fun
  | [d1, d2, d3] => { results := [.lit (.bool false)], args := [d1, d2, d3] }
  | _ => none }
def TombLaysWrongFalsely : Prop := tombLaysRow.holds Try.pinned (OpenSpec.ofChange tombLaysWrong)

/- THE SECOND FORM. 'bulk': how many values and letters a reading holds, each counted each time it is reached (what is shared counts as often as it is met; a slice's spare places count too). A statement '..UptoSaid' is the law's where the arguments, and the package variables that the reading takes, are together of bulk at most 1048576: NARROWER than '..Said'. Prove '..Said' where nothing that the law and all that it calls make is longer than what came in: it says more and counts as full. Else prove '..UptoSaid'. A law counts once. -/
mutual
def uptoBulk {H : Type} : DataW H → Nat
  | .lit (.string bytes) => bytes.length + 1
  | .lit _ => 1
  | .nil => 1
  | .ptr d => uptoBulk d + 1
  | .slice elems spare => uptoBulkAll elems + uptoBulkAll spare + 1
  | .agg parts => uptoBulkAll parts + 1
  | .iface _ d => uptoBulk d + 1
  | .map entries => uptoBulkEntries entries + 1
  | .held _ => 1
def uptoBulkAll {H : Type} : List (DataW H) → Nat
  | [] => 0
  | d :: r => uptoBulk d + uptoBulkAll r
def uptoBulkEntries {H : Type} : List (Lit × DataW H) → Nat
  | [] => 0
  | x :: r => uptoBulkEntry x + uptoBulkEntries r
def uptoBulkEntry {H : Type} : Lit × DataW H → Nat
  | (.string bytes, d) => bytes.length + uptoBulk d + 1
  | (_, d) => uptoBulk d + 1
 end
def uptoSmall : (H : Type) → List (DataW H) → Bool := fun _ ds => decide (uptoBulkAll ds ≤ 1048576)
def OpenSpec.upto (s : _root_.Go.ChangeSpec) : _root_.Go.OpenSpec := { _root_.Go.OpenSpec.ofChange s with cond := some uptoSmall }

/-- 'pluviallaw14.TombKeeps', WHERE WHAT IT READS IS OF BULK AT MOST 1048576: true; the input reads as it did. -/
def tombKeepsUptoRow : OpenClaim := { program := "yteogljahemehkaa", sum := "e865da7c79e494f7cab29353a5fb37b056f626dab38fc3d999e4bf9cc51f0431", func := "pluvial/pluviallaw14.TombKeeps", spec := "tombKeeps", unfollowed := true, recurses := true, apart := false, narrowed := true }
def TombKeepsUptoSaid : Prop := tombKeepsUptoRow.holds Try.pinned (OpenSpec.upto tombKeepsSpec)

/-- 'pluviallaw08.RankAll', WHERE WHAT IT READS IS OF BULK AT MOST 1048576: true; the input reads as it did. -/
def rankAllUptoRow : OpenClaim := { program := "yteogljahemehkaa", sum := "e865da7c79e494f7cab29353a5fb37b056f626dab38fc3d999e4bf9cc51f0431", func := "pluvial/pluviallaw08.RankAll", spec := "rankAll", inPlace := ["math/bits.Add64"], unfollowed := true, recurses := true, named := ["math/bits.divideError", "math/bits.overflowError"], apart := false, narrowed := true }
def RankAllUptoSaid : Prop := rankAllUptoRow.holds Try.pinned (OpenSpec.upto rankAllSpec)

/-- 'pluviallaw08.RankFinds', WHERE WHAT IT READS IS OF BULK AT MOST 1048576: true; the input reads as it did. -/
def rankFindsUptoRow : OpenClaim := { program := "yteogljahemehkaa", sum := "e865da7c79e494f7cab29353a5fb37b056f626dab38fc3d999e4bf9cc51f0431", func := "pluvial/pluviallaw08.RankFinds", spec := "rankFinds", inPlace := ["math/bits.Add64"], unfollowed := true, recurses := true, named := ["math/bits.divideError", "math/bits.overflowError"], apart := false, narrowed := true }
def RankFindsUptoSaid : Prop := rankFindsUptoRow.holds Try.pinned (OpenSpec.upto rankFindsSpec)

/-- 'pluviallaw14.TombTurns', WHERE WHAT IT READS IS OF BULK AT MOST 1048576: true; the input reads as it did. -/
def tombTurnsUptoRow : OpenClaim := { program := "yteogljahemehkaa", sum := "e865da7c79e494f7cab29353a5fb37b056f626dab38fc3d999e4bf9cc51f0431", func := "pluvial/pluviallaw14.TombTurns", spec := "tombTurns", unfollowed := true, recurses := true, apart := false, narrowed := true }
def TombTurnsUptoSaid : Prop := tombTurnsUptoRow.holds Try.pinned (OpenSpec.upto tombTurnsSpec)

/-- 'pluviallaw08.RankBelow', WHERE WHAT IT READS IS OF BULK AT MOST 1048576: true; the input reads as it did. -/
def rankBelowUptoRow : OpenClaim := { program := "yteogljahemehkaa", sum := "e865da7c79e494f7cab29353a5fb37b056f626dab38fc3d999e4bf9cc51f0431", func := "pluvial/pluviallaw08.RankBelow", spec := "rankBelow", inPlace := ["math/bits.Add64"], unfollowed := true, recurses := true, named := ["math/bits.divideError", "math/bits.overflowError"], apart := false, narrowed := true }
def RankBelowUptoSaid : Prop := rankBelowUptoRow.holds Try.pinned (OpenSpec.upto rankBelowSpec)

/-- 'pluviallaw08.RankEnds', WHERE WHAT IT READS IS OF BULK AT MOST 1048576: true; the input reads as it did. -/
def rankEndsUptoRow : OpenClaim := { program := "yteogljahemehkaa", sum := "e865da7c79e494f7cab29353a5fb37b056f626dab38fc3d999e4bf9cc51f0431", func := "pluvial/pluviallaw08.RankEnds", spec := "rankEnds", inPlace := ["math/bits.Add64"], unfollowed := true, recurses := true, named := ["math/bits.divideError", "math/bits.overflowError"], apart := false, narrowed := true }
def RankEndsUptoSaid : Prop := rankEndsUptoRow.holds Try.pinned (OpenSpec.upto rankEndsSpec)

/-- 'pluviallaw14.TombHas', WHERE WHAT IT READS IS OF BULK AT MOST 1048576: true; the input reads as it did. -/
def tombHasUptoRow : OpenClaim := { program := "yteogljahemehkaa", sum := "e865da7c79e494f7cab29353a5fb37b056f626dab38fc3d999e4bf9cc51f0431", func := "pluvial/pluviallaw14.TombHas", spec := "tombHas", unfollowed := true, recurses := true, apart := false, narrowed := true }
def TombHasUptoSaid : Prop := tombHasUptoRow.holds Try.pinned (OpenSpec.upto tombHasSpec)

/-- 'pluviallaw08.RankRises', WHERE WHAT IT READS IS OF BULK AT MOST 1048576: true; the input reads as it did. -/
def rankRisesUptoRow : OpenClaim := { program := "yteogljahemehkaa", sum := "e865da7c79e494f7cab29353a5fb37b056f626dab38fc3d999e4bf9cc51f0431", func := "pluvial/pluviallaw08.RankRises", spec := "rankRises", inPlace := ["math/bits.Add64"], unfollowed := true, recurses := true, named := ["math/bits.divideError", "math/bits.overflowError"], apart := false, narrowed := true }
def RankRisesUptoSaid : Prop := rankRisesUptoRow.holds Try.pinned (OpenSpec.upto rankRisesSpec)

/-- 'pluviallaw08.RankDowns', WHERE WHAT IT READS IS OF BULK AT MOST 1048576: true; the input reads as it did. -/
def rankDownsUptoRow : OpenClaim := { program := "yteogljahemehkaa", sum := "e865da7c79e494f7cab29353a5fb37b056f626dab38fc3d999e4bf9cc51f0431", func := "pluvial/pluviallaw08.RankDowns", spec := "rankDowns", inPlace := ["math/bits.Add64"], unfollowed := true, recurses := true, named := ["math/bits.divideError", "math/bits.overflowError"], apart := false, narrowed := true }
def RankDownsUptoSaid : Prop := rankDownsUptoRow.holds Try.pinned (OpenSpec.upto rankDownsSpec)

/-- 'pluviallaw14.TombLays', WHERE WHAT IT READS IS OF BULK AT MOST 1048576: true; the input reads as it did. -/
def tombLaysUptoRow : OpenClaim := { program := "yteogljahemehkaa", sum := "e865da7c79e494f7cab29353a5fb37b056f626dab38fc3d999e4bf9cc51f0431", func := "pluvial/pluviallaw14.TombLays", spec := "tombLays", unfollowed := true, recurses := true, apart := false, narrowed := true }
def TombLaysUptoSaid : Prop := tombLaysUptoRow.holds Try.pinned (OpenSpec.upto tombLaysSpec)

end Rows
end Go.Proofs.Yteogljahemehkaa
