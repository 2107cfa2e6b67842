import Derived.Test.YteogljahemehkaaPxTombLays11
set_option linter.unusedVariables false
set_option linter.unusedSimpArgs false
namespace Go.Proofs.Yteogljahemehkaa.PvGC1
open Go Go.Pv Go.Pv.GS
theorem tsort_inst : f_slices_SortFunc_tomb_Range_tomb_Of_2.f = GS.SortF.f f_tomb_Of_2.f := by kernel_rfl
end Go.Proofs.Yteogljahemehkaa.PvGC1
