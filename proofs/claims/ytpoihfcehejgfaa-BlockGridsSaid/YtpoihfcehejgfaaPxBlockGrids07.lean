import Derived.Test.YtpoihfcehejgfaaPxBlockGrids06
set_option linter.unusedVariables false
set_option linter.unusedSimpArgs false
namespace Go.Pv.GS
section Defs
variable {α:Type} (cmp:α→α→Option Int)
def insertionSort.l1 (a1:Int) (a2:Int) (x0:Int) (x1:List α) (x2:Int):Option (List α):=((if(decide (x2>a1))=true then((at? x1 x2)>>=fun b3=>(at? x1 (IntKind.i64.wrap (x2-(1:Int))))>>=fun b4=>(cmp b3 b4)>>=fun t5=>some (decide (t5<(0:Int)))) else(some false)):Option (Bool))>>=fun x6=>if x6=true then((at? x1 (IntKind.i64.wrap (x2-(1:Int))))>>=fun b7=>(at? x1 x2)>>=fun b8=>(at? (x1.set (Int.toNat (x2)) b7) (IntKind.i64.wrap (x2-(1:Int))))>>=fun b9=>insertionSort.l1 a1 a2 x0 ((x1.set (Int.toNat (x2)) b7).set (Int.toNat (IntKind.i64.wrap (x2-(1:Int)))) b8) (IntKind.i64.wrap (x2-(1:Int)))) else(some x1)
partial_fixpoint
def insertionSort.l0 (a1:Int) (a2:Int) (x0:List α) (x1:Int):Option (List α):=if(decide (x1<a2))=true then((insertionSort.l1 cmp a1 a2 x1 x0 x1)>>=fun x2=>insertionSort.l0 a1 a2 x2 (IntKind.i64.wrap (x1+(1:Int)))) else(some x0)
partial_fixpoint
def insertionSort.f (a0:List α) (a1:Int) (a2:Int):Option (List α):=(insertionSort.l0 cmp a1 a2 a0 (IntKind.i64.wrap (a1+(1:Int))))>>=fun x0=>some x0
def swapRange.l0 (a1:Int) (a2:Int) (a3:Int) (x0:List α) (x1:Int):Option (List α):=if(decide (x1<a3))=true then((at? x0 (IntKind.i64.wrap (a2+x1)))>>=fun b2=>(at? x0 (IntKind.i64.wrap (a1+x1)))>>=fun b3=>(at? (x0.set (Int.toNat (IntKind.i64.wrap (a1+x1))) b2) (IntKind.i64.wrap (a2+x1)))>>=fun b4=>swapRange.l0 a1 a2 a3 ((x0.set (Int.toNat (IntKind.i64.wrap (a1+x1))) b2).set (Int.toNat (IntKind.i64.wrap (a2+x1))) b3) (IntKind.i64.wrap (x1+(1:Int)))) else(some x0)
partial_fixpoint
def swapRange.f (a0:List α) (a1:Int) (a2:Int) (a3:Int):Option (List α):=(swapRange.l0 a1 a2 a3 a0 0)>>=fun x0=>some x0
def rotate.l0 (a2:Int) (x0:List α) (x1:Int) (x2:Int):Option ((List α)×Int):=if(x1 != x2)=true then(((if(decide (x1>x2))=true then((swapRange.f x0 (IntKind.i64.wrap (a2-x1)) a2 x2)>>=fun t3=>some (t3,IntKind.i64.wrap (x1-x2),x2)) else((swapRange.f x0 (IntKind.i64.wrap (a2-x1)) (IntKind.i64.wrap ((IntKind.i64.wrap (a2+x2))-x1)) x1)>>=fun t4=>some (t4,x1,IntKind.i64.wrap (x2-x1)))):Option ((List α)×Int×Int))>>=fun oo=>match oo with | (x5,x6,x7)=>(rotate.l0 a2 x5 x6 x7)) else(some (x0,x1))
partial_fixpoint
def rotate.f (a0:List α) (a1:Int) (a2:Int) (a3:Int):Option (List α):=(rotate.l0 a2 a0 (IntKind.i64.wrap (a2-a1)) (IntKind.i64.wrap (a3-a2)))>>=fun oo=>match oo with | (x0,x1)=>((swapRange.f x0 (IntKind.i64.wrap (a2-x1)) a2 x1)>>=fun t2=>some t2)
def symMerge.l0 (a0:List α) (a1:Int) (x0:Int) (x1:Int):Option (Int):=if(decide (x0<x1))=true then((at? a0 (IntKind.i64.wrap (Int.fdiv (IntKind.u64.wrap (IntKind.i64.wrap (x0+x1))) 2)))>>=fun b2=>(at? a0 a1)>>=fun b3=>(cmp b2 b3)>>=fun t4=>((if(decide (t4<(0:Int)))=true then(some (IntKind.i64.wrap ((IntKind.i64.wrap (Int.fdiv (IntKind.u64.wrap (IntKind.i64.wrap (x0+x1))) 2))+(1:Int)),x1)) else(some (x0,IntKind.i64.wrap (Int.fdiv (IntKind.u64.wrap (IntKind.i64.wrap (x0+x1))) 2)))):Option (Int×Int))>>=fun oo=>match oo with | (x5,x6)=>(symMerge.l0 a0 a1 x5 x6)) else(some x0)
partial_fixpoint
def symMerge.l1 (x0:Int) (x1:List α) (x2:Int):Option (List α):=if(decide (x2<(IntKind.i64.wrap (x0-(1:Int)))))=true then((at? x1 (IntKind.i64.wrap (x2+(1:Int))))>>=fun b3=>(at? x1 x2)>>=fun b4=>(at? (x1.set (Int.toNat (x2)) b3) (IntKind.i64.wrap (x2+(1:Int))))>>=fun b5=>symMerge.l1 x0 ((x1.set (Int.toNat (x2)) b3).set (Int.toNat (IntKind.i64.wrap (x2+(1:Int)))) b4) (IntKind.i64.wrap (x2+(1:Int)))) else(some x1)
partial_fixpoint
def symMerge.l2 (a0:List α) (a2:Int) (x0:Int) (x1:Int):Option (Int):=if(decide (x0<x1))=true then((at? a0 a2)>>=fun b2=>(at? a0 (IntKind.i64.wrap (Int.fdiv (IntKind.u64.wrap (IntKind.i64.wrap (x0+x1))) 2)))>>=fun b3=>(cmp b2 b3)>>=fun t4=>((if(!(decide (t4<(0:Int))))=true then(some (IntKind.i64.wrap ((IntKind.i64.wrap (Int.fdiv (IntKind.u64.wrap (IntKind.i64.wrap (x0+x1))) 2))+(1:Int)),x1)) else(some (x0,IntKind.i64.wrap (Int.fdiv (IntKind.u64.wrap (IntKind.i64.wrap (x0+x1))) 2)))):Option (Int×Int))>>=fun oo=>match oo with | (x5,x6)=>(symMerge.l2 a0 a2 x5 x6)) else(some x0)
partial_fixpoint
def symMerge.l3 (x0:Int) (x1:List α) (x2:Int):Option (List α):=if(decide (x2>x0))=true then((at? x1 (IntKind.i64.wrap (x2-(1:Int))))>>=fun b3=>(at? x1 x2)>>=fun b4=>(at? (x1.set (Int.toNat (x2)) b3) (IntKind.i64.wrap (x2-(1:Int))))>>=fun b5=>symMerge.l3 x0 ((x1.set (Int.toNat (x2)) b3).set (Int.toNat (IntKind.i64.wrap (x2-(1:Int)))) b4) (IntKind.i64.wrap (x2-(1:Int)))) else(some x1)
partial_fixpoint
def symMerge.l4 (a0:List α) (a1:Int) (a2:Int) (a3:Int) (x0:Int) (x1:Int):Option (Int):=if(decide (x0<x1))=true then((at? a0 (IntKind.i64.wrap ((IntKind.i64.wrap ((IntKind.i64.wrap ((IntKind.i64.wrap (Int.fdiv (IntKind.u64.wrap (IntKind.i64.wrap (a1+a3))) 2))+a2))-(1:Int)))-(IntKind.i64.wrap (Int.fdiv (IntKind.u64.wrap (IntKind.i64.wrap (x0+x1))) 2)))))>>=fun b2=>(at? a0 (IntKind.i64.wrap (Int.fdiv (IntKind.u64.wrap (IntKind.i64.wrap (x0+x1))) 2)))>>=fun b3=>(cmp b2 b3)>>=fun t4=>((if(!(decide (t4<(0:Int))))=true then(some (IntKind.i64.wrap ((IntKind.i64.wrap (Int.fdiv (IntKind.u64.wrap (IntKind.i64.wrap (x0+x1))) 2))+(1:Int)),x1)) else(some (x0,IntKind.i64.wrap (Int.fdiv (IntKind.u64.wrap (IntKind.i64.wrap (x0+x1))) 2)))):Option (Int×Int))>>=fun oo=>match oo with | (x5,x6)=>(symMerge.l4 a0 a1 a2 a3 x5 x6)) else(some x0)
partial_fixpoint
def symMerge.f (a0:List α) (a1:Int) (a2:Int) (a3:Int):Option (List α):=if((IntKind.i64.wrap (a2-a1))==(1:Int))=true then((symMerge.l0 cmp a0 a1 a2 a3)>>=fun x0=>(symMerge.l1 x0 a0 a1)>>=fun x1=>some x1) else(if((IntKind.i64.wrap (a3-a2))==(1:Int))=true then((symMerge.l2 cmp a0 a2 a1 a2)>>=fun x2=>(symMerge.l3 x2 a0 a2)>>=fun x3=>some x3) else(((if(decide (a2>(IntKind.i64.wrap (Int.fdiv (IntKind.u64.wrap (IntKind.i64.wrap (a1+a3))) 2))))=true then(some (IntKind.i64.wrap ((IntKind.i64.wrap ((IntKind.i64.wrap (Int.fdiv (IntKind.u64.wrap (IntKind.i64.wrap (a1+a3))) 2))+a2))-a3),IntKind.i64.wrap (Int.fdiv (IntKind.u64.wrap (IntKind.i64.wrap (a1+a3))) 2))) else(some (a1,a2))):Option (Int×Int))>>=fun oo=>match oo with | (x4,x5)=>((symMerge.l4 cmp a0 a1 a2 a3 x4 x5)>>=fun x6=>((if(decide (x6<a2))=true then(some (decide (a2<(IntKind.i64.wrap ((IntKind.i64.wrap ((IntKind.i64.wrap (Int.fdiv (IntKind.u64.wrap (IntKind.i64.wrap (a1+a3))) 2))+a2))-x6))))) else(some false)):Option (Bool))>>=fun x7=>((if x7=true then((rotate.f a0 x6 a2 (IntKind.i64.wrap ((IntKind.i64.wrap ((IntKind.i64.wrap (Int.fdiv (IntKind.u64.wrap (IntKind.i64.wrap (a1+a3))) 2))+a2))-x6)))>>=fun t8=>some t8) else(some a0)):Option (List α))>>=fun x9=>((if(decide (a1<x6))=true then(some (decide (x6<(IntKind.i64.wrap (Int.fdiv (IntKind.u64.wrap (IntKind.i64.wrap (a1+a3))) 2))))) else(some false)):Option (Bool))>>=fun x10=>((if x10=true then((symMerge.f x9 a1 x6 (IntKind.i64.wrap (Int.fdiv (IntKind.u64.wrap (IntKind.i64.wrap (a1+a3))) 2)))>>=fun t11=>some t11) else(some x9)):Option (List α))>>=fun x12=>((if(decide ((IntKind.i64.wrap (Int.fdiv (IntKind.u64.wrap (IntKind.i64.wrap (a1+a3))) 2))<(IntKind.i64.wrap ((IntKind.i64.wrap ((IntKind.i64.wrap (Int.fdiv (IntKind.u64.wrap (IntKind.i64.wrap (a1+a3))) 2))+a2))-x6))))=true then(some (decide ((IntKind.i64.wrap ((IntKind.i64.wrap ((IntKind.i64.wrap (Int.fdiv (IntKind.u64.wrap (IntKind.i64.wrap (a1+a3))) 2))+a2))-x6))<a3))) else(some false)):Option (Bool))>>=fun x13=>((if x13=true then((symMerge.f x12 (IntKind.i64.wrap (Int.fdiv (IntKind.u64.wrap (IntKind.i64.wrap (a1+a3))) 2)) (IntKind.i64.wrap ((IntKind.i64.wrap ((IntKind.i64.wrap (Int.fdiv (IntKind.u64.wrap (IntKind.i64.wrap (a1+a3))) 2))+a2))-x6)) a3)>>=fun t14=>some t14) else(some x12)):Option (List α))>>=fun x15=>some x15)))
partial_fixpoint
def stable.l0 (a1:Int) (x0:List α) (x1:Int) (x2:Int):Option ((List α)×Int):=if(decide (x2≤a1))=true then((insertionSort.f cmp x0 x1 x2)>>=fun t3=>stable.l0 a1 t3 x2 (IntKind.i64.wrap (x2+(20:Int)))) else(some (x0,x1))
partial_fixpoint
def stable.l2 (a1:Int) (x0:Int) (x1:List α) (x2:Int) (x3:Int):Option ((List α)×Int):=if(decide (x3≤a1))=true then((symMerge.f cmp x1 x2 (IntKind.i64.wrap (x2+x0)) x3)>>=fun t4=>stable.l2 a1 x0 t4 x3 (IntKind.i64.wrap (x3+(IntKind.i64.wrap ((2:Int)*x0))))) else(some (x1,x2))
partial_fixpoint
def stable.l1 (a1:Int) (x0:List α) (x1:Int):Option (List α):=if(decide (x1<a1))=true then((stable.l2 cmp a1 x1 x0 0 (IntKind.i64.wrap ((2:Int)*x1)))>>=fun oo=>match oo with | (x2,x3)=>(((if(decide ((IntKind.i64.wrap (x3+x1))<a1))=true then((symMerge.f cmp x2 x3 (IntKind.i64.wrap (x3+x1)) a1)>>=fun t4=>some t4) else(some x2)):Option (List α))>>=fun x5=>stable.l1 a1 x5 (IntKind.i64.wrap (x1*(2:Int))))) else(some x0)
partial_fixpoint
def stable.f (a0:List α) (a1:Int):Option (List α):=(stable.l0 cmp a1 a0 0 20)>>=fun oo=>match oo with | (x0,x1)=>((insertionSort.f cmp x0 x1 a1)>>=fun t2=>(stable.l1 cmp a1 t2 20)>>=fun x3=>some x3)
def SortStable.f (a0:List α):Option (List α):=(stable.f cmp a0 (a0.length:Int))>>=fun t0=>some t0
end Defs
section Merge
variable {α:Type} (lt:α→α→Bool)
def mrg:List α→List α→List α
 | [],ys=>ys
 | x::xs,[]=>x::xs
 | x::xs,y::ys=>if lt y x=true then y::mrg (x::xs) ys else x::mrg xs (y::ys)
termination_by xs ys=>xs.length+ys.length
structure SWO (lt:α→α→Bool):Prop where
 asymm:∀ a b,lt a b=true→lt b a=false
 trans:∀ a b c,lt b a=false→lt c b=false→lt c a=false
variable {lt}
def S (lt:α→α→Bool) (l:List α):List α:=l.foldl (fun acc x=>mrg lt acc [x]) []
end Merge
section Run
variable {α:Type} {cmp:α→α→Option Int} {lt:α→α→Bool}
end Run
end Go.Pv.GS
