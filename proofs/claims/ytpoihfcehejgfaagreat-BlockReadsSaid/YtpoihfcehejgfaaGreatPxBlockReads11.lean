import Derived.Test.YtpoihfcehejgfaaGreatPxBlockReads10
set_option linter.unusedVariables false
set_option linter.unusedSimpArgs false
namespace Go.Pv.GS
section Defs
variable {α:Type} (pred:α→Option Bool) (z:α)
def indexF.l0 (a0:List α) (x30:Int):Option (Int ⊕ Unit):=if(decide (x30<(a0.length:Int)))=true then((at? a0 x30)>>=fun b37=>(pred b37)>>=fun t40=>if t40=true then(some (.inl x30)) else(indexF.l0 a0 (IntKind.i64.wrap (x30+(1:Int))))) else(some (.inr ()))
partial_fixpoint
def indexF.f (a0:List α):Option (Int):=(indexF.l0 pred a0 0)>>=fun oo=>match oo with | .inl rr=>(some rr) | .inr _=>(some (-1))
def deleteF.l0 (x70:List α) (x71 x72:Int):Option ((List α)×Int):=if(decide (x72<(x70.length:Int)))=true then((at? x70 x72)>>=fun b77=>(pred b77)>>=fun t82=>((if(!t82)=true then((at? x70 x71)>>=fun b88=>some (x70.set (Int.toNat (x71)) b77,IntKind.i64.wrap (x71+(1:Int)))) else(some (x70,x71))):Option ((List α)×Int))>>=fun oo=>match oo with | (x91,x92)=>(deleteF.l0 x91 x92 (IntKind.i64.wrap (x72+(1:Int))))) else(some (x70,x71))
partial_fixpoint
def deleteF.f (a0:List α):Option (List α):=(indexF.f pred a0)>>=fun t47=>if(t47==(-1))=true then(some a0) else((deleteF.l0 pred a0 t47 (IntKind.i64.wrap (t47+(1:Int))))>>=fun oo=>match oo with | (x93,x94)=>((chk (0≤x94∧x94≤(x93.length:Int)))>>=fun _=>(chk (0≤x94∧x94≤((x93.take (Int.toNat x94)++List.replicate (x93.length-(Int.toNat x94)) z).length:Int)))>>=fun _=>some ((x93.take (Int.toNat x94)++List.replicate (x93.length-(Int.toNat x94)) z).take (Int.toNat (x94)))))
end Defs
variable {α:Type} {pred:α→Option Bool} {p:α→Bool}
end Go.Pv.GS
