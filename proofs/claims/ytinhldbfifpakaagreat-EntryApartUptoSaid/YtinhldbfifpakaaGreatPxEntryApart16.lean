import Derived.Test.YtinhldbfifpakaaGreatPxEntryApart15
set_option linter.unusedVariables false
set_option linter.unusedSimpArgs false
namespace Go.Proofs.YtinhldbfifpakaaGreat.PvGL
open Go Go.Pv Go.Pv.GS
theorem tsort_inst:Z15.f=GS.SortF.f Z0u.f:=by kernel_rfl
end Go.Proofs.YtinhldbfifpakaaGreat.PvGL
