import Derived.Test.YtejakiofcmlohaaPxDiskNil05
set_option linter.unusedVariables false
namespace Go.Proofs.Ytejakiofcmlohaa.PvGN
open Go Go.Pv
theorem diskNil_R (a0 : ByteArray) (a1 : Int) (h0 : a0.size ≤ maxLen) (h1 : I64 a1) : f_pluviallaw13_DiskNil.f a0 a1 = some true := rfl
end Go.Proofs.Ytejakiofcmlohaa.PvGN
