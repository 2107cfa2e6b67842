import Derived.Test.YtinhldbfifpakaaGreatPxEntryImages16
set_option linter.unusedVariables false
set_option linter.unusedSimpArgs false
namespace Go.Proofs.YtinhldbfifpakaaGreat.PvGL3
open Go Go.Pv Go.Pv.GS
theorem tsort_inst:Z1u.f=GS.SortF.f Z0t.f:=by kernel_rfl
end Go.Proofs.YtinhldbfifpakaaGreat.PvGL3
