/-
  No cell of these rows narrows 'for every input' (looked for: loops, veiled, ifaces, maps, wideKeys, modest, calm, conditions, laid).
  DERIVED. THE GIVEN ROWS OF THIS SEAT. 8 by the template 'for every input the law returns true; each argument reads behind the call as it read before'; 0 by the template 'total and deterministic' (their statements: YtjfhobijgkccdaaTotals.lean).
  GIVEN WITH THE SEED: the statements are not yours to turn. If you find one false, say at which input.
  Laid BY PROGRAM, IN A SANDBOX (cutbox-rows.mjs): the forced cells as the released guide's own fill.sh prints them over the translation ee4e9442758bba35… (all of the seat's roots in one cut). By AI agents, Wed Nov 11 2026. No macro, syntax, notation, axiom, sorry.
-/
import Derived.Test.YtjfhobijgkccdaaChecked
import GoSem.Claim
import GoSem.ClaimJoined
import GoSem.ClaimMapViews
import Derived.JoinedTies
import Derived.KernelRfl
namespace Go.Proofs.Ytjfhobijgkccdaa
/- THE CELL 'sum', in the pinned program and in every row, IS THE sha256 OF THE DUMP (.gsa) THAT YtjfhobijgkccdaaProg.lean LOADS. Nothing in Lean hashes anything: it is a label: what it is worth is what the hold of that sum in a sandbox is worth. -/
noncomputable def Try.pinned : Pinned := { name := "ytjfhobijgkccdaa", sum := "ee4e9442758bba350b1b255ec35d2a99a15df051a9a72733c3f433d35a3beaf1", checked := Try.checked }
namespace Rows
def none {H : Type} : Left H := { results := [], args := [] }

/-- 'pluviallaw10.LabelQuotes': WHATEVER THE INPUT: true; the input reads as it did. -/
def labelQuotesSpec : ChangeSpec := { name := "labelQuotes", fn := fun _ => fun
  | [d1, d2] => { results := [.lit (.bool true)], args := [d1, d2] }
  | _ => none }
def labelQuotesRow : OpenClaim := { program := "ytjfhobijgkccdaa", sum := "ee4e9442758bba350b1b255ec35d2a99a15df051a9a72733c3f433d35a3beaf1", func := "pluvial/pluviallaw10.LabelQuotes", spec := "labelQuotes", inPlace := ["internal/bytealg.IndexByteString", "internal/bytealg.IndexString", "internal/abi.NoEscape"], named := ["internal/bytealg.MaxLen"], plainKeys := false, apart := false }
def LabelQuotesSaid : Prop := labelQuotesRow.holds Try.pinned (OpenSpec.ofChange labelQuotesSpec)

/-- ITS FALSE NEIGHBOUR: 'it returns false'. Refute it at one input. -/
def labelQuotesWrong : ChangeSpec := { name := "labelQuotes", fn := fun _ => fun
  | [d1, d2] => { results := [.lit (.bool false)], args := [d1, d2] }
  | _ => none }
def LabelQuotesWrongFalsely : Prop := labelQuotesRow.holds Try.pinned (OpenSpec.ofChange labelQuotesWrong)

/-- 'pluviallaw05.HistMakes': WHATEVER THE INPUT: true; the input reads as it did. -/
def histMakesSpec : ChangeSpec := { name := "histMakes", fn := fun _ => fun
  | [d1, d2, d3, d4] => { results := [.lit (.bool true)], args := [d1, d2, d3, d4] }
  | _ => none }
def histMakesRow : OpenClaim := { program := "ytjfhobijgkccdaa", sum := "ee4e9442758bba350b1b255ec35d2a99a15df051a9a72733c3f433d35a3beaf1", func := "pluvial/pluviallaw05.HistMakes", spec := "histMakes", inPlace := ["math/bits.Add64"], unfollowed := true, recurses := true, plainKeys := false, apart := false }
def HistMakesSaid : Prop := histMakesRow.holds Try.pinned (OpenSpec.ofChange histMakesSpec)

/-- ITS FALSE NEIGHBOUR: 'it returns false'. Refute it at one input. -/
def histMakesWrong : ChangeSpec := { name := "histMakes", fn := fun _ => fun
  | [d1, d2, d3, d4] => { results := [.lit (.bool false)], args := [d1, d2, d3, d4] }
  | _ => none }
def HistMakesWrongFalsely : Prop := histMakesRow.holds Try.pinned (OpenSpec.ofChange histMakesWrong)

/-- 'pluviallaw10.LabelBack': WHATEVER THE INPUT: true; the input reads as it did. -/
def labelBackSpec : ChangeSpec := { name := "labelBack", fn := fun _ => fun
  | [d1, d2] => { results := [.lit (.bool true)], args := [d1, d2] }
  | _ => none }
def labelBackRow : OpenClaim := { program := "ytjfhobijgkccdaa", sum := "ee4e9442758bba350b1b255ec35d2a99a15df051a9a72733c3f433d35a3beaf1", func := "pluvial/pluviallaw10.LabelBack", spec := "labelBack", inPlace := ["internal/bytealg.IndexByteString", "internal/bytealg.IndexString", "internal/abi.NoEscape", "internal/bytealg.MakeNoZero"], named := ["internal/bytealg.MaxLen"], plainKeys := false, apart := false }
def LabelBackSaid : Prop := labelBackRow.holds Try.pinned (OpenSpec.ofChange labelBackSpec)

/-- ITS FALSE NEIGHBOUR: 'it returns false'. Refute it at one input. -/
def labelBackWrong : ChangeSpec := { name := "labelBack", fn := fun _ => fun
  | [d1, d2] => { results := [.lit (.bool false)], args := [d1, d2] }
  | _ => none }
def LabelBackWrongFalsely : Prop := labelBackRow.holds Try.pinned (OpenSpec.ofChange labelBackWrong)

/-- 'pluviallaw05.HistSame': WHATEVER THE INPUT: true; the input reads as it did. -/
def histSameSpec : ChangeSpec := { name := "histSame", fn := fun _ => fun
  | [d1, d2] => { results := [.lit (.bool true)], args := [d1, d2] }
  | _ => none }
def histSameRow : OpenClaim := { program := "ytjfhobijgkccdaa", sum := "ee4e9442758bba350b1b255ec35d2a99a15df051a9a72733c3f433d35a3beaf1", func := "pluvial/pluviallaw05.HistSame", spec := "histSame", inPlace := ["math/bits.Add64"], unfollowed := true, recurses := true, plainKeys := false, apart := false }
def HistSameSaid : Prop := histSameRow.holds Try.pinned (OpenSpec.ofChange histSameSpec)

/-- ITS FALSE NEIGHBOUR: 'it returns false'. Refute it at one input. -/
def histSameWrong : ChangeSpec := { name := "histSame", fn := fun _ => fun
  | [d1, d2] => { results := [.lit (.bool false)], args := [d1, d2] }
  | _ => none }
def HistSameWrongFalsely : Prop := histSameRow.holds Try.pinned (OpenSpec.ofChange histSameWrong)

/-- 'pluviallaw05.HistCells': WHATEVER THE INPUT: true; the input reads as it did. -/
def histCellsSpec : ChangeSpec := { name := "histCells", fn := fun _ => fun
  | [d1, d2, d3] => { results := [.lit (.bool true)], args := [d1, d2, d3] }
  | _ => none }
def histCellsRow : OpenClaim := { program := "ytjfhobijgkccdaa", sum := "ee4e9442758bba350b1b255ec35d2a99a15df051a9a72733c3f433d35a3beaf1", func := "pluvial/pluviallaw05.HistCells", spec := "histCells", inPlace := ["math/bits.Add64"], unfollowed := true, recurses := true, plainKeys := false, apart := false }
def HistCellsSaid : Prop := histCellsRow.holds Try.pinned (OpenSpec.ofChange histCellsSpec)

/-- ITS FALSE NEIGHBOUR: 'it returns false'. Refute it at one input. -/
def histCellsWrong : ChangeSpec := { name := "histCells", fn := fun _ => fun
  | [d1, d2, d3] => { results := [.lit (.bool false)], args := [d1, d2, d3] }
  | _ => none }
def HistCellsWrongFalsely : Prop := histCellsRow.holds Try.pinned (OpenSpec.ofChange histCellsWrong)

/-- 'pluviallaw05.HistAdds': WHATEVER THE INPUT: true; the input reads as it did. -/
def histAddsSpec : ChangeSpec := { name := "histAdds", fn := fun _ => fun
  | [d1, d2] => { results := [.lit (.bool true)], args := [d1, d2] }
  | _ => none }
def histAddsRow : OpenClaim := { program := "ytjfhobijgkccdaa", sum := "ee4e9442758bba350b1b255ec35d2a99a15df051a9a72733c3f433d35a3beaf1", func := "pluvial/pluviallaw05.HistAdds", spec := "histAdds", inPlace := ["math/bits.Add64"], unfollowed := true, recurses := true, plainKeys := false, apart := false }
def HistAddsSaid : Prop := histAddsRow.holds Try.pinned (OpenSpec.ofChange histAddsSpec)

/-- ITS FALSE NEIGHBOUR: 'it returns false'. Refute it at one input. -/
def histAddsWrong : ChangeSpec := { name := "histAdds", fn := fun _ => fun
  | [d1, d2] => { results := [.lit (.bool false)], args := [d1, d2] }
  | _ => none }
def HistAddsWrongFalsely : Prop := histAddsRow.holds Try.pinned (OpenSpec.ofChange histAddsWrong)

/-- 'pluviallaw10.LabelMakes': WHATEVER THE INPUT: true; the input reads as it did. -/
def labelMakesSpec : ChangeSpec := { name := "labelMakes", fn := fun _ => fun
  | [d1, d2, d3] => { results := [.lit (.bool true)], args := [d1, d2, d3] }
  | _ => none }
def labelMakesRow : OpenClaim := { program := "ytjfhobijgkccdaa", sum := "ee4e9442758bba350b1b255ec35d2a99a15df051a9a72733c3f433d35a3beaf1", func := "pluvial/pluviallaw10.LabelMakes", spec := "labelMakes", inPlace := ["internal/bytealg.IndexByteString", "internal/bytealg.IndexString"], unfollowed := true, recurses := true, named := ["internal/bytealg.MaxLen"], plainKeys := false, apart := false }
def LabelMakesSaid : Prop := labelMakesRow.holds Try.pinned (OpenSpec.ofChange labelMakesSpec)

/-- ITS FALSE NEIGHBOUR: 'it returns false'. Refute it at one input. -/
def labelMakesWrong : ChangeSpec := { name := "labelMakes", fn := fun _ => fun
  | [d1, d2, d3] => { results := [.lit (.bool false)], args := [d1, d2, d3] }
  | _ => none }
def LabelMakesWrongFalsely : Prop := labelMakesRow.holds Try.pinned (OpenSpec.ofChange labelMakesWrong)

/-- 'pluviallaw10.LabelKeys': WHATEVER THE INPUT: true; the input reads as it did. -/
def labelKeysSpec : ChangeSpec := { name := "labelKeys", fn := fun _ => fun
  | [d1, d2, d3] => { results := [.lit (.bool true)], args := [d1, d2, d3] }
  | _ => none }
def labelKeysRow : OpenClaim := { program := "ytjfhobijgkccdaa", sum := "ee4e9442758bba350b1b255ec35d2a99a15df051a9a72733c3f433d35a3beaf1", func := "pluvial/pluviallaw10.LabelKeys", spec := "labelKeys", inPlace := ["internal/bytealg.IndexByteString", "internal/bytealg.IndexString"], unfollowed := true, recurses := true, named := ["internal/bytealg.MaxLen"], plainKeys := false, apart := false }
def LabelKeysSaid : Prop := labelKeysRow.holds Try.pinned (OpenSpec.ofChange labelKeysSpec)

/-- ITS FALSE NEIGHBOUR: 'it returns false'. Refute it at one input. -/
def labelKeysWrong : ChangeSpec := { name := "labelKeys", fn := fun _ => fun
  | [d1, d2, d3] => { results := [.lit (.bool false)], args := [d1, d2, d3] }
  | _ => none }
def LabelKeysWrongFalsely : Prop := labelKeysRow.holds Try.pinned (OpenSpec.ofChange labelKeysWrong)

/- THE SECOND FORM. 'bulk': how many values and letters a reading holds, each counted each time it is reached (what is shared counts as often as it is met; a slice's spare places count too). A statement '..UptoSaid' is the law's where the arguments, and the package variables that the reading takes, are together of bulk at most 1048576: NARROWER than '..Said'. Prove '..Said' where nothing that the law and all that it calls make is longer than what came in: it says more and counts as full. Else prove '..UptoSaid'. A law counts once. -/
mutual
def uptoBulk {H : Type} : DataW H → Nat
  | .lit (.string bytes) => bytes.length + 1
  | .lit _ => 1
  | .nil => 1
  | .ptr d => uptoBulk d + 1
  | .slice elems spare => uptoBulkAll elems + uptoBulkAll spare + 1
  | .agg parts => uptoBulkAll parts + 1
  | .iface _ d => uptoBulk d + 1
  | .map entries => uptoBulkEntries entries + 1
  | .held _ => 1
def uptoBulkAll {H : Type} : List (DataW H) → Nat
  | [] => 0
  | d :: r => uptoBulk d + uptoBulkAll r
def uptoBulkEntries {H : Type} : List (Lit × DataW H) → Nat
  | [] => 0
  | x :: r => uptoBulkEntry x + uptoBulkEntries r
def uptoBulkEntry {H : Type} : Lit × DataW H → Nat
  | (.string bytes, d) => bytes.length + uptoBulk d + 1
  | (_, d) => uptoBulk d + 1
 end
def uptoSmall : (H : Type) → List (DataW H) → Bool := fun _ ds => decide (uptoBulkAll ds ≤ 1048576)
def OpenSpec.upto (s : _root_.Go.ChangeSpec) : _root_.Go.OpenSpec := { _root_.Go.OpenSpec.ofChange s with cond := some uptoSmall }

/-- 'pluviallaw10.LabelQuotes', WHERE WHAT IT READS IS OF BULK AT MOST 1048576: true; the input reads as it did. -/
def labelQuotesUptoRow : OpenClaim := { program := "ytjfhobijgkccdaa", sum := "ee4e9442758bba350b1b255ec35d2a99a15df051a9a72733c3f433d35a3beaf1", func := "pluvial/pluviallaw10.LabelQuotes", spec := "labelQuotes", inPlace := ["internal/bytealg.IndexByteString", "internal/bytealg.IndexString", "internal/abi.NoEscape"], named := ["internal/bytealg.MaxLen"], plainKeys := false, apart := false, narrowed := true }
def LabelQuotesUptoSaid : Prop := labelQuotesUptoRow.holds Try.pinned (OpenSpec.upto labelQuotesSpec)

/-- 'pluviallaw05.HistMakes', WHERE WHAT IT READS IS OF BULK AT MOST 1048576: true; the input reads as it did. -/
def histMakesUptoRow : OpenClaim := { program := "ytjfhobijgkccdaa", sum := "ee4e9442758bba350b1b255ec35d2a99a15df051a9a72733c3f433d35a3beaf1", func := "pluvial/pluviallaw05.HistMakes", spec := "histMakes", inPlace := ["math/bits.Add64"], unfollowed := true, recurses := true, plainKeys := false, apart := false, narrowed := true }
def HistMakesUptoSaid : Prop := histMakesUptoRow.holds Try.pinned (OpenSpec.upto histMakesSpec)

/-- 'pluviallaw10.LabelBack', WHERE WHAT IT READS IS OF BULK AT MOST 1048576: true; the input reads as it did. -/
def labelBackUptoRow : OpenClaim := { program := "ytjfhobijgkccdaa", sum := "ee4e9442758bba350b1b255ec35d2a99a15df051a9a72733c3f433d35a3beaf1", func := "pluvial/pluviallaw10.LabelBack", spec := "labelBack", inPlace := ["internal/bytealg.IndexByteString", "internal/bytealg.IndexString", "internal/abi.NoEscape", "internal/bytealg.MakeNoZero"], named := ["internal/bytealg.MaxLen"], plainKeys := false, apart := false, narrowed := true }
def LabelBackUptoSaid : Prop := labelBackUptoRow.holds Try.pinned (OpenSpec.upto labelBackSpec)

/-- 'pluviallaw05.HistSame', WHERE WHAT IT READS IS OF BULK AT MOST 1048576: true; the input reads as it did. -/
def histSameUptoRow : OpenClaim := { program := "ytjfhobijgkccdaa", sum := "ee4e9442758bba350b1b255ec35d2a99a15df051a9a72733c3f433d35a3beaf1", func := "pluvial/pluviallaw05.HistSame", spec := "histSame", inPlace := ["math/bits.Add64"], unfollowed := true, recurses := true, plainKeys := false, apart := false, narrowed := true }
def HistSameUptoSaid : Prop := histSameUptoRow.holds Try.pinned (OpenSpec.upto histSameSpec)

/-- 'pluviallaw05.HistCells', WHERE WHAT IT READS IS OF BULK AT MOST 1048576: true; the input reads as it did. -/
def histCellsUptoRow : OpenClaim := { program := "ytjfhobijgkccdaa", sum := "ee4e9442758bba350b1b255ec35d2a99a15df051a9a72733c3f433d35a3beaf1", func := "pluvial/pluviallaw05.HistCells", spec := "histCells", inPlace := ["math/bits.Add64"], unfollowed := true, recurses := true, plainKeys := false, apart := false, narrowed := true }
def HistCellsUptoSaid : Prop := histCellsUptoRow.holds Try.pinned (OpenSpec.upto histCellsSpec)

/-- 'pluviallaw05.HistAdds', WHERE WHAT IT READS IS OF BULK AT MOST 1048576: true; the input reads as it did. -/
def histAddsUptoRow : OpenClaim := { program := "ytjfhobijgkccdaa", sum := "ee4e9442758bba350b1b255ec35d2a99a15df051a9a72733c3f433d35a3beaf1", func := "pluvial/pluviallaw05.HistAdds", spec := "histAdds", inPlace := ["math/bits.Add64"], unfollowed := true, recurses := true, plainKeys := false, apart := false, narrowed := true }
def HistAddsUptoSaid : Prop := histAddsUptoRow.holds Try.pinned (OpenSpec.upto histAddsSpec)

/-- 'pluviallaw10.LabelMakes', WHERE WHAT IT READS IS OF BULK AT MOST 1048576: true; the input reads as it did. -/
def labelMakesUptoRow : OpenClaim := { program := "ytjfhobijgkccdaa", sum := "ee4e9442758bba350b1b255ec35d2a99a15df051a9a72733c3f433d35a3beaf1", func := "pluvial/pluviallaw10.LabelMakes", spec := "labelMakes", inPlace := ["internal/bytealg.IndexByteString", "internal/bytealg.IndexString"], unfollowed := true, recurses := true, named := ["internal/bytealg.MaxLen"], plainKeys := false, apart := false, narrowed := true }
def LabelMakesUptoSaid : Prop := labelMakesUptoRow.holds Try.pinned (OpenSpec.upto labelMakesSpec)

/-- 'pluviallaw10.LabelKeys', WHERE WHAT IT READS IS OF BULK AT MOST 1048576: true; the input reads as it did. -/
def labelKeysUptoRow : OpenClaim := { program := "ytjfhobijgkccdaa", sum := "ee4e9442758bba350b1b255ec35d2a99a15df051a9a72733c3f433d35a3beaf1", func := "pluvial/pluviallaw10.LabelKeys", spec := "labelKeys", inPlace := ["internal/bytealg.IndexByteString", "internal/bytealg.IndexString"], unfollowed := true, recurses := true, named := ["internal/bytealg.MaxLen"], plainKeys := false, apart := false, narrowed := true }
def LabelKeysUptoSaid : Prop := labelKeysUptoRow.holds Try.pinned (OpenSpec.upto labelKeysSpec)

end Rows
end Go.Proofs.Ytjfhobijgkccdaa
