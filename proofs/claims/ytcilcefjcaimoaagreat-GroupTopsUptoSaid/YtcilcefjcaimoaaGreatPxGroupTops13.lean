import Derived.Test.YtcilcefjcaimoaaGreatPxGroupTops12
set_option linter.unusedVariables false
set_option linter.unusedSimpArgs false
namespace Go.Pv.GS
section Defs
variable {α β:Type} (cmp:α→β→Option Int)
def binF.l0 (a0:List α) (a1:β) (x2114:Int) (x2115:Int):Option (Int):=if(decide (x2114<x2115))=true then((at? a0 (IntKind.i64.wrap (Int.fdiv (IntKind.u64.wrap (IntKind.i64.wrap (x2114+x2115))) 2)))>>=fun b2122=>(cmp b2122 a1)>>=fun t2125=>((if(decide (t2125<(0:Int)))=true then(some (IntKind.i64.wrap ((IntKind.i64.wrap (Int.fdiv (IntKind.u64.wrap (IntKind.i64.wrap (x2114+x2115))) 2))+(1:Int)),x2115)) else(some (x2114,IntKind.i64.wrap (Int.fdiv (IntKind.u64.wrap (IntKind.i64.wrap (x2114+x2115))) 2)))):Option (Int×Int))>>=fun oo=>match oo with | (x2128,x2129)=>(binF.l0 a0 a1 x2128 x2129)) else(some x2114)
partial_fixpoint
def binF.f (a0:List α) (a1:β):Option (Int×Bool):=(binF.l0 cmp a0 a1 0 (a0.length:Int))>>=fun x2130=>((if(decide (x2130<(a0.length:Int)))=true then((at? a0 x2130)>>=fun b2138=>(cmp b2138 a1)>>=fun t2141=>some (t2141==(0:Int))) else(some false)):Option (Bool))>>=fun x2143=>some (x2130,x2143)
end Defs
variable {α β:Type} {cmp:α→β→Option Int}
structure Found (c:α→Int) (l:List α) (k:Nat):Prop where
 le:k≤l.length
 lo:∀ m x,m<k→l[m]? = some x→c x<0
 hi:∀ m x,k≤m→l[m]? = some x→0≤c x
end Go.Pv.GS
