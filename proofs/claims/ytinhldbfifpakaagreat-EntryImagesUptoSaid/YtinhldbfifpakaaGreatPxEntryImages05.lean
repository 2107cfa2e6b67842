import Derived.Test.YtinhldbfifpakaaGreatProg
import Derived.Test.YtinhldbfifpakaaGreatPxEntryImages04
set_option linter.unusedVariables false
set_option linter.unnecessarySimpa false
set_option linter.unusedSimpArgs false
set_option maxRecDepth 10000
namespace Go.Proofs.YtinhldbfifpakaaGreat.PvGL3
open Go Go.Pv Tryz Go.IntKind
structure Z1 where
 f0:Int
 f1:Int
 deriving DecidableEq,Inhabited
abbrev Z0 (x:Z1):List Im:=[iI .i64 x.f0,iI .i64 x.f1]
abbrev atomb_Range (x:Z1):List AVal:=[iV .i64 x.f0,iV .i64 x.f1]
structure Z8c (x:Z1):Prop where
 r0:I64 x.f0
 r1:I64 x.f1
structure Z2 where
 f0:Int
 f1:Int
 deriving DecidableEq,Inhabited
abbrev Z3 (x:Z2):List Im:=[iI .i64 x.f0,iI .u64 x.f1]
abbrev Z8p (x:Z2):List AVal:=[iV .i64 x.f0,iV .u64 x.f1]
structure RBucket (x:Z2):Prop where
 r0:I64 x.f0
 r1:U64 x.f1
structure Zj where
 f0:Int
 f1:Int
 f2:Int
 f3:Int
 f4:Int
 f5:Int
 f6:List Z2
 f7:List Z2
 deriving DecidableEq,Inhabited
abbrev eHist (x:Zj):List Im:=[iI .i64 x.f0,iI .i64 x.f1,iI .i64 x.f2,iI .u64 x.f3,iI .u64 x.f4,iI .i64 x.f5,.row (x.f6.map Z3),.row (x.f7.map Z3)]
abbrev Z10 (x:Zj):List AVal:=[iV .i64 x.f0,iV .i64 x.f1,iV .i64 x.f2,iV .u64 x.f3,iV .u64 x.f4,iV .i64 x.f5,.im (.row (x.f6.map Z3)),.im (.row (x.f7.map Z3))]
structure RHist (x:Zj):Prop where
 r0:I64 x.f0
 r1:I64 x.f1
 r2:I64 x.f2
 r3:U64 x.f3
 r4:U64 x.f4
 r5:I64 x.f5
 r6:x.f6.length≤1048576∧∀ y∈x.f6,RBucket y
 r7:x.f7.length≤1048576∧∀ y∈x.f7,RBucket y
structure Z7 where
 f0:Int
 f1:Zj
 deriving DecidableEq,Inhabited
abbrev Z6 (x:Z7):List Im:=[iI .i64 x.f0,iI .i64 x.f1.f0,iI .i64 x.f1.f1,iI .i64 x.f1.f2,iI .u64 x.f1.f3,iI .u64 x.f1.f4,iI .i64 x.f1.f5,.row (x.f1.f6.map Z3),.row (x.f1.f7.map Z3)]
abbrev aSample (x:Z7):List AVal:=[iV .i64 x.f0,iV .i64 x.f1.f0,iV .i64 x.f1.f1,iV .i64 x.f1.f2,iV .u64 x.f1.f3,iV .u64 x.f1.f4,iV .i64 x.f1.f5,.im (.row (x.f1.f6.map Z3)),.im (.row (x.f1.f7.map Z3))]
structure RSample (x:Z7):Prop where
 r0:I64 x.f0
 r1:RHist x.f1
structure Z1o where
 f0:ByteArray
 f1:Int
 f2:List Z1
 f3:List Z7
 deriving DecidableEq,Inhabited
abbrev Z22 (x:Z1o):List Im:=[sI x.f0,iI .i64 x.f1,.row (x.f2.map Z0),.row (x.f3.map Z6)]
abbrev Z6e (x:Z1o):List AVal:=[sV x.f0,iV .i64 x.f1,.im (.row (x.f2.map Z0)),.im (.row (x.f3.map Z6))]
structure Zf0 (x:Z1o):Prop where
 r0:x.f0.size≤1048576
 r1:I64 x.f1
 r2:x.f2.length≤1048576∧∀ y∈x.f2,Z8c y
 r3:x.f3.length≤1048576∧∀ y∈x.f3,RSample y
structure Z0c where
 f0:Int
 f1:List Int
 f2:List Z1o
 deriving DecidableEq,Inhabited
abbrev er15_Image (x:Z0c):List Im:=[iI .i64 x.f0,.row (x.f1.map (Z6c .i64)),.row (x.f2.map Z22)]
abbrev Z18 (x:Z0c):List AVal:=[iV .i64 x.f0,.im (.row (x.f1.map (Z6c .i64))),.im (.row (x.f2.map Z22))]
structure Zcw (x:Z0c):Prop where
 r0:I64 x.f0
 r1:x.f1.length≤1048576∧∀ y∈x.f1,I64 y
 r2:x.f2.length≤1048576∧∀ y∈x.f2,Zf0 y
structure Z8b where
 f0:ByteArray
 f1:Int
 f2:Zj
 deriving DecidableEq,Inhabited
abbrev Zb5 (x:Z8b):List Im:=[sI x.f0,iI .i64 x.f1,iI .i64 x.f2.f0,iI .i64 x.f2.f1,iI .i64 x.f2.f2,iI .u64 x.f2.f3,iI .u64 x.f2.f4,iI .i64 x.f2.f5,.row (x.f2.f6.map Z3),.row (x.f2.f7.map Z3)]
structure Rentry_Item (x:Z8b):Prop where
 r0:x.f0.size≤1048576
 r1:I64 x.f1
 r2:RHist x.f2
structure Z9a where
 f0:ByteArray
 f1:Z1
 deriving DecidableEq,Inhabited
abbrev Zcp (x:Z9a):List Im:=[sI x.f0,iI .i64 x.f1.f0,iI .i64 x.f1.f1]
structure Rentry_Cut (x:Z9a):Prop where
 r0:x.f0.size≤1048576
 r1:Z8c x.f1
structure Z2i where
 f0:Int
 f1:List Z8b
 f2:List Z9a
 f3:Int
 deriving DecidableEq,Inhabited
abbrev Z6y (x:Z2i):List AVal:=[iV .i64 x.f0,.im (.row (x.f1.map Zb5)),.im (.row (x.f2.map Zcp)),iV .i64 x.f3]
structure Rentry_Change (x:Z2i):Prop where
 r0:I64 x.f0
 r1:x.f1.length≤1048576∧∀ y∈x.f1,Rentry_Item y
 r2:x.f2.length≤1048576∧∀ y∈x.f2,Rentry_Cut y
 r3:I64 x.f3
structure Tbits_Writer where
 f0:List Int
 f1:Int
 deriving DecidableEq,Inhabited
structure Rbits_Writer (x:Tbits_Writer):Prop where
 r0:x.f0.length≤1048576∧∀ y∈x.f0,Rng 0 256 y
 r1:U64 x.f1
structure Zd9 where
 f0:List Int
 f1:Int
 f2:Int
 deriving DecidableEq,Inhabited
abbrev Zd (x:Zd9):List AVal:=[.im (.row (x.f0.map (Z6c .u8))),iV .i64 x.f1,iV .i64 x.f2]
structure Rbits_Reader (x:Zd9):Prop where
 r0:x.f0.length≤1048576∧∀ y∈x.f0,Rng 0 256 y
 r1:I64 x.f1
 r2:I64 x.f2
structure Z37 where
 f0:List Z1
 deriving DecidableEq,Inhabited
structure Rtomb_Set (x:Z37):Prop where
 r0:x.f0.length≤1048576∧∀ y∈x.f0,Z8c y
structure Zs where
 f0:ByteArray
 f1:Int
 f2:Z37
 f3:List Z7
 deriving DecidableEq,Inhabited
abbrev Z1g (x:Zs):List Im:=[sI x.f0,iI .i64 x.f1,.row (x.f2.f0.map Z0),.row (x.f3.map Z6)]
abbrev Zew (x:Zs):List AVal:=[sV x.f0,iV .i64 x.f1,.im (.row (x.f2.f0.map Z0)),.im (.row (x.f3.map Z6))]
structure Rentry_Line (x:Zs):Prop where
 r0:x.f0.size≤1048576
 r1:I64 x.f1
 r2:Rtomb_Set x.f2
 r3:x.f3.length≤1048576∧∀ y∈x.f3,RSample y
structure Zl where
 f0:Int
 f1:List Int
 f2:List Zs
 deriving DecidableEq,Inhabited
abbrev Z36 (x:Zl):List AVal:=[iV .i64 x.f0,.im (.row (x.f1.map (Z6c .i64))),.im (.row (x.f2.map Z1g))]
structure Rentry_Image (x:Zl):Prop where
 r0:I64 x.f0
 r1:x.f1.length≤1048576∧∀ y∈x.f1,I64 y
 r2:x.f2.length≤1048576∧∀ y∈x.f2,Rentry_Line y
structure Z2n where
 f0:ByteArray
 f1:ByteArray
 deriving DecidableEq,Inhabited
abbrev Z5e (x:Z2n):List Im:=[sI x.f0,sI x.f1]
structure RLabel (x:Z2n):Prop where
 r0:x.f0.size≤1048576
 r1:x.f1.size≤1048576
structure Z38 where
 f0:Int
 f1:Int
 deriving DecidableEq,Inhabited
abbrev Z5b (x:Z38):List Im:=[iI .i64 x.f0,iI .i64 x.f1]
abbrev aSpan (x:Z38):List AVal:=[iV .i64 x.f0,iV .i64 x.f1]
structure RSpan (x:Z38):Prop where
 r0:I64 x.f0
 r1:I64 x.f1
structure Zf where
 f0:Int
 f1:List Z38
 deriving DecidableEq,Inhabited
abbrev Zq (x:Zf):List AVal:=[iV .i64 x.f0,.im (.row (x.f1.map Z5b))]
structure Rspan_Layout (x:Zf):Prop where
 r0:I64 x.f0
 r1:x.f1.length≤1048576∧∀ y∈x.f1,RSpan y
theorem hmx:Tryz.prog.follows .mixedOrders=true:=by kernel_rfl
abbrev FN (f:Nat) (A:List AVal) (O:List (Nat×Option MObj)) (k:Nat) {ρ:Type} (y:Option ρ) (x:ρ→AVal) (o:ρ→List (Nat×Option MObj)):Prop:=∀ r,y=some r→Pv.Fn Tryz.prog f A O k (fun a b=>a=x r∧b=o r)
theorem FT {f:Nat} {fn:Func} {c:Code} {A:List AVal} {O:List (Nat×Option MObj)} {k:Nat} {ρ:Type} {y:Option ρ} {x:ρ→AVal} {o:ρ→List (Nat×Option MObj)} (keys:List Nat) (hf:Tryz.prog.funcs[f]? = some fn) (t:HT (fun q:Empty=>(nomatch q:Option ρ)) y) (hb:fn.body=some c:=by rfl) (hn:Nat.ble A.length fn.ntmps=true:=by rfl) (hk:t.chk ⟨Tryz.prog,fn.ntmps,fn,k,keys⟩ 0 (fun r=>.ret (x r) (o r)) (fun q=>nomatch q) c [] ⟨Z7j A 0,O,k⟩=t.sk ⟨Tryz.prog,fn.ntmps,fn,k,keys⟩ 0 (fun r=>.ret (x r) (o r)) (fun q=>nomatch q):=by kernel_rfl):FN f A O k y x o:=fun r H=>HT.fn H x o keys hf hb hn hmx t hk
abbrev qi:Int→AVal:=iV .i64
abbrev qu:Int→AVal:=iV .u64
abbrev qh {P:Program} {g:Nat} {args:List AVal} {ob:List (Nat×Option MObj)} {floor:Nat} {r:AVal} {o:List (Nat×Option MObj)} (h1:Enters P g) (h2:Pv.Fn P g args ob floor (fun x y=>x=r∧y=o)):HI:=hC [] [] [] [] h1 h2
abbrev qe:=Z6c .i64
abbrev qv:=Z6c .u64
abbrev qb:=Z6c .u8
abbrev qx (a b:Int):Int:=((BitVec.toNat (BitVec.ofInt 64 a ^^^ BitVec.ofInt 64 b):Nat):Int)
abbrev qf (n:Nat):Im:=.sc (.func (.func n) #[] #[])
abbrev RW {α:Type} (w t:Nat) (e:α→List Im) (k:Nat) (x:List α):Nat×Option MObj:=(k,some (.row w t (x.map e)))
def Z63.f (a0:Z2i):Option Bool:=if(a0.f0==1)=true then(none) else(if(a0.f0==2)=true then(none) else(if(a0.f0==3)=true then(((if(decide (a0.f3≥0))=true then(if(decide (a0.f3≤1099511627776))=true then(some ((i64.wrap ((a0.f1.length:Int)+(a0.f2.length:Int)))==0)) else(some false)) else(some false)):Option Bool)>>=fun x60=>some x60) else(some false)))
theorem Z63.ok (a0:Z2i):FN 13 [.agg (Z6y a0)] [] 0 (Z63.f a0) (fun r=>bV r) (fun r=>[]):=FT [] func13 (.rg [(0,⟨.k 0,.n⟩)]<|.r0<|.bl<|.r0<|.cd (fun c53=>.no)
 (fun c53=>.r0<|.cd (fun c54=>.no)
 (fun c54=>.r0<|.cd (fun c55=>.join (.sp (fun c58=>.sp (fun c59=>.rg [(3,hB c58),(8,hB c59),(11,hG Zb5 a0.f1),(14,hG Zcp a0.f2)]<|.o [])
 (fun c59=>.rg [(3,hB c58),(8,hB c59)]<|.o []))
 (fun c58=>.rg [(3,hB c58)]<|.o []))
 (.st .normal (fun x60=>⟨[(2,bV x60)],[],0⟩) fun x60=>.ret [] [] [] ⟨[(2,bV x60)],[],0⟩))
 (fun c55=>.r0<|.ret [] [] [] ⟨[(2,bV false)],[],0⟩))))
def Z4c.f (aa:Int) (a1:Bool):Option ((List Int)×Int):=((if(aa==0)=true then((chk ((([]:List Int).length+[0].length)*1≤140737488355328))>>=fun _=>some ([0],8)) else(some ([],aa))):Option ((List Int)×Int))>>=fun oo=>match oo with | (x71,x72)=>(((if a1=true then((at? x71 (i64.wrap ((x71.length:Int)-1)))>>=fun b78=>(chk (0≤(u64.wrap (x72-1))))>>=fun _=>some (x71.set (Int.toNat (i64.wrap ((x71.length:Int)-1))) (u8.wrap (((BitVec.toNat (BitVec.ofInt 8 b78 ||| BitVec.ofInt 8 (u8.wrap ((1:Int)*2 ^ (min (Int.toNat (u64.wrap (x72-1))) 8)))):Nat):Int))))) else(some x71)):Option (List Int))>>=fun x82=>some (x82,u64.wrap (x72-1)))
abbrev q0:=@RW _ 1 5 qb
theorem Z4c.ok (aa:Int) (a1:Bool):FN 68 [.ptr 0 0 0,bV a1] [(0,some (.box 86 [.none0,qu aa]))] 1 (Z4c.f aa a1) (fun r=>.tup []) (fun r=>[(0,some (.box 86 [.own 1,qu r.2])),q0 1 r.1]):=FT [0,1] func68 (.r0<|.join (.cd (fun c68=>.ck fun c70=>.rg [(5,hQ 1 qb ([0]:List Int)),(6,⟨.app 2 ([0].map qb),.c (p:=[0].map qb=([]:List (List Im))++([0].map qb)) (by simp) (.c (p:=∀ c∈([0].map qb),c.length=1) (Z5c _ _ _ (fun _=>rfl)) (.c (p:=∀ c∈([0].map qb),Z3i (c.map .im)=true) (Z4m _ _ (fun _=>rfl)) (.c (p:=(([]:List (List Im)).length+([0].map qb).length)*1≤140737488355328) (by simpa using c70) .n)))⟩)]<|.r0<|.o [(0,0),(2,3)])
 (fun c68=>.out [(0,0)] [] [3]))
 (.pr fun x71=>.st .normal (fun x72=>⟨[(0,.ptr 0 0 0),(1,bV a1)],[(0,some (.box 86 [.own 3,qu x72])),q0 3 x71],1⟩) fun x72=>.r0<|.r0<|.join (.cd (fun c73=>.el fun b78 p79 q80=>.ck fun c81=>.rg [(8,hG qb x71),(10,hX qb p79 q80),(11,hL qb q80),(16,hN (p1 c81)),(18,hX qb p79 q80),(19,hS qb (u8.wrap (((BitVec.toNat (BitVec.ofInt 8 b78 ||| BitVec.ofInt 8 (u8.wrap ((1:Int)*2 ^ (min (Int.toNat (u64.wrap (x72-1))) 8)))):Nat):Int))) 0 [iI .u8 (u8.wrap (((BitVec.toNat (BitVec.ofInt 8 b78 ||| BitVec.ofInt 8 (u8.wrap ((1:Int)*2 ^ (min (Int.toNat (u64.wrap (x72-1))) 8)))):Nat):Int)))] q80)]<|.o [(0,0),(3,4)])
 (fun c73=>.o [(0,0),(3,4)]))
 (.st .normal (fun x82=>⟨[],[(0,some (.box 86 [.own 4,qu (u64.wrap (x72-1))])),q0 4 x82],1⟩) fun x82=>.ret [(0,0),(4,1)] [] [] ⟨[],[(0,some (.box 86 [.own 1,qu (u64.wrap (x72-1))])),q0 1 x82],1⟩)))
def Z0h.f (aa:List Int) (ab:Int) (a1:Bool):Option ((List Int)×Int):=((if(ab==0)=true then((chk ((aa.length+[0].length)*1≤140737488355328))>>=fun _=>some (aa++[0],8)) else(some (aa,ab))):Option ((List Int)×Int))>>=fun oo=>match oo with | (x96,x97)=>(((if a1=true then((at? x96 (i64.wrap ((x96.length:Int)-1)))>>=fun ac=>(chk (0≤(u64.wrap (x97-1))))>>=fun _=>some (x96.set (Int.toNat (i64.wrap ((x96.length:Int)-1))) (u8.wrap (((BitVec.toNat (BitVec.ofInt 8 ac ||| BitVec.ofInt 8 (u8.wrap ((1:Int)*2 ^ (min (Int.toNat (u64.wrap (x97-1))) 8)))):Nat):Int))))) else(some x96)):Option (List Int))>>=fun ad=>some (ad,u64.wrap (x97-1)))
theorem Z0h.ok (aa:List Int) (ab:Int) (a1:Bool):FN 68 [.ptr 0 0 0,bV a1] [(0,some (.box 86 [.own 1,qu ab])),q0 1 aa] 2 (Z0h.f aa ab a1) (fun r=>.tup []) (fun r=>[(0,some (.box 86 [.own 2,qu r.2])),(1,none),q0 2 r.1]):=FT [0,1,2] func68 (.r0<|.join (.cd (fun c93=>.ck fun c95=>.rg [(5,hQ 2 qb ([0]:List Int)),(6,⟨.app 3 ((aa++[0]).map qb),.c (p:=(aa++[0]).map qb=(aa.map qb)++([0].map qb)) (by simp) (.c (p:=∀ c∈([0].map qb),c.length=1) (Z5c _ _ _ (fun _=>rfl)) (.c (p:=∀ c∈([0].map qb),Z3i (c.map .im)=true) (Z4m _ _ (fun _=>rfl)) (.c (p:=((aa.map qb).length+([0].map qb).length)*1≤140737488355328) (by simpa using c95) .n)))⟩)]<|.r0<|.o [(0,0),(3,4)])
 (fun c93=>.o [(0,0),(1,4)]))
 (.pr fun x96=>.st .normal (fun x97=>⟨[(0,.ptr 0 0 0),(1,bV a1)],[(0,some (.box 86 [.own 4,qu x97])),q0 4 x96],2⟩) fun x97=>.r0<|.r0<|.join (.cd (fun c98=>.el fun ac ad ae=>.ck fun af=>.rg [(8,hG qb x96),(10,hX qb ad ae),(11,hL qb ae),(16,hN (p1 af)),(18,hX qb ad ae),(19,hS qb (u8.wrap (((BitVec.toNat (BitVec.ofInt 8 ac ||| BitVec.ofInt 8 (u8.wrap ((1:Int)*2 ^ (min (Int.toNat (u64.wrap (x97-1))) 8)))):Nat):Int))) 0 [iI .u8 (u8.wrap (((BitVec.toNat (BitVec.ofInt 8 ac ||| BitVec.ofInt 8 (u8.wrap ((1:Int)*2 ^ (min (Int.toNat (u64.wrap (x97-1))) 8)))):Nat):Int)))] ae)]<|.o [(0,0),(4,5)])
 (fun c98=>.o [(0,0),(4,5)]))
 (.st .normal (fun ah=>⟨[],[(0,some (.box 86 [.own 5,qu (u64.wrap (x97-1))])),q0 5 ah],2⟩) fun ah=>.ret [(0,0),(5,2)] [] [] ⟨[],[(0,some (.box 86 [.own 2,qu (u64.wrap (x97-1))])),q0 2 ah],2⟩)))
def Z2r.l0 (a1:Int) (x88:List Int) (x89:Int) (x90:Int):Option ((List Int)×Int):=if(decide (x90≥0))=true then((chk (0≤(u64.wrap (x90))))>>=fun _=>(Z0h.f x88 x89 ((u64.wrap (((BitVec.toNat (BitVec.ofInt 64 (Int.fdiv a1 (2 ^ (min (Int.toNat (u64.wrap (x90))) 64))) &&& BitVec.ofInt 64 (1:Int)):Nat):Int)))==1))>>=fun aa=>Z2r.l0 a1 aa.1 aa.2 (i64.wrap (x90-1))) else(some (x88,x89))
partial_fixpoint
def Z2r.f (aa:Int) (a1:Int) (a2:Int):Option ((List Int)×Int):=(Z2r.l0 a1 [] aa (i64.wrap ((if(if(64:Int)<a2 then(64:Int) else a2)>0 then(if(64:Int)<a2 then(64:Int) else a2) else(0:Int))-1)))>>=fun oo=>match oo with | (ab,ac)=>(some (ab,ac))
theorem Z2r.ok (aa:Int) (a1:Int) (a2:Int):FN 32 [.ptr 0 0 0,qu a1,qi a2] [(0,some (.box 86 [.none0,qu aa]))] 1 (Z2r.f aa a1 a2) (fun r=>.tup []) (fun r=>[(0,some (.box 86 [.own 1,qu r.2])),q0 1 r.1]):=FT [0,1] func32 (.rg [(1,⟨.more xMin,.n⟩),(2,⟨.more xMax,.n⟩)]<|.bl<|.loop (.c3 (Z2r.l0.partial_correctness a1)) ([],aa,i64.wrap ((if(if(64:Int)<a2 then(64:Int) else a2)>0 then(if(64:Int)<a2 then(64:Int) else a2) else(0:Int))-1)) [(0,0)] [] [2] (fun _=>.pr fun x88=>.pr fun x89=>.one (fun x90=>⟨[(0,.ptr 0 0 0),(1,qu a1),(6,qi x90)],[(0,some (.box 86 [.own 2,qu x89])),q0 2 x88],1⟩) fun x90=>.r0<|.cd (fun c91=>.bl<|.ck fun ab=>.bd fun ac ad=>.rg [(4,hN (p1 ab)),(7,hC [(0,0),(2,1)] [(0,0),(2,3)] [] [3] call68 (Z0h.ok x88 x89 ((u64.wrap (((BitVec.toNat (BitVec.ofInt 64 (Int.fdiv a1 (2 ^ (min (Int.toNat (u64.wrap (x90))) 64))) &&& BitVec.ofInt 64 (1:Int)):Nat):Int)))==1) ac ad))]<|.r0<|.bk [(0,0),(3,2)] rfl)
 (fun c91=>.o [(0,0),(2,4)]))
 (.pr fun ae=>.st (.exit 0) (fun af=>⟨[],[(0,some (.box 86 [.own 4,qu af])),q0 4 ae],1⟩) fun af=>.ret [(0,0),(4,1)] [] [] ⟨[],[(0,some (.box 86 [.own 1,qu af])),q0 1 ae],1⟩))
def Z3v.f  : Option (List Int):=some [0,3,7,12,20,32,64]
abbrev q1:=@RW _ 1 3 qe
theorem Z3v.ok  : FN 69 [] [] 0 (Z3v.f ) (fun r=>.own 0) (fun r=>[q1 0 r]):=FT [0] func69 (.r0<|.rg [(0,hQ 0 qe ([0,3,7,12,20,32,64]:List Int))]<|.ret [(0,0)] [] [] ⟨[(0,.own 0)],[(0,some (.row 1 3 ([0,3,7,12,20,32,64].map qe)))],0⟩)
def Z2y.l0 (aa:Int) (ab:Int):Option Int:=if(decide (aa>0))=true then(Z2y.l0  (Int.fdiv aa 2) (i64.wrap (ab+1))) else(some ab)
partial_fixpoint
def Z2y.f (a0:Int):Option Int:=(Z2y.l0  a0 0)>>=fun aa=>some aa
theorem Z2y.ok (a0:Int):FN 71 [qu a0] [] 0 (Z2y.f a0) (fun r=>qi r) (fun r=>[]):=FT [] func71 (.r0<|.r0<|.bl<|.loop (.c2 (Z2y.l0.partial_correctness )) (a0,0) [] [] [] (fun _=>.pr fun aa=>.one (fun ab=>⟨[(0,qu aa),(3,qi ab)],[],0⟩) fun ab=>.r0<|.cd (fun ac=>.bl<|.r0<|.rg [(1,hK 1)]<|.bk [] rfl)
 (fun ac=>.o []))
 (.st (.exit 0) (fun ad=>⟨[(3,qi ad)],[],0⟩) fun ad=>.r0<|.ret [] [] [] ⟨[(2,qi ad)],[],0⟩))
def Z29.f (a0:Int):Option Unit:=some ()
theorem Z29.ok (a0:Int):FN 130 [qi a0] [] 0 (Z29.f a0) (fun r=>bV (a0 != a0)) (fun r=>[]):=FT [] func130 (.r0<|.r0<|.ret [] [] [] ⟨[(2,bV (a0 != a0))],[],0⟩)
def Z5u.f (a0:Int) (a1:Int):Option Bool:=(((Z29.f a0)>>=fun aa=>if(a0 != a0)=true then((Z29.f a1)>>=fun ab=>if(!(a1 != a1))=true then(some true) else(some (decide (a0<a1)))) else(some (decide (a0<a1)))):Option Bool)>>=fun ac=>some ac
theorem Z5u.ok (a0:Int) (a1:Int):FN 102 [qi a0,qi a1] [] 0 (Z5u.f a0 a1) (fun r=>bV r) (fun r=>[]):=FT [] func102 (.r0<|.join (.bd fun aa ab=>.sp (fun ac=>.bd fun ad ae=>.sp (fun af=>.rg [(1,qh call130 (Z29.ok a0 aa ab)),(2,hB ac),(4,qh call130 (Z29.ok a1 ad ae)),(7,hB af)]<|.o [])
 (fun af=>.rg [(1,qh call130 (Z29.ok a0 aa ab)),(2,hB ac),(4,qh call130 (Z29.ok a1 ad ae)),(7,hB af)]<|.o []))
 (fun ac=>.rg [(1,qh call130 (Z29.ok a0 aa ab)),(2,hB ac)]<|.o []))
 (.st .normal (fun ah=>⟨[(4,bV ah)],[],0⟩) fun ah=>.ret [] [] [] ⟨[(4,bV ah)],[],0⟩))
def Z3j.f (a0:Int):Option Unit:=some ()
theorem Z3j.ok (a0:Int):FN 103 [qi a0] [] 0 (Z3j.f a0) (fun r=>bV (a0 != a0)) (fun r=>[]):=FT [] func103 (.r0<|.r0<|.ret [] [] [] ⟨[(2,bV (a0 != a0))],[],0⟩)
def Z0a.l0 (a0:List Int) (a1:Int) (aa:Int) (ab:Int):Option Int:=if(decide (aa<ab))=true then((at? a0 (i64.wrap (Int.fdiv (u64.wrap (i64.wrap (aa+ab))) 2)))>>=fun ac=>(Z5u.f ac a1)>>=fun ad=>((if ad=true then(some (i64.wrap ((i64.wrap (Int.fdiv (u64.wrap (i64.wrap (aa+ab))) 2))+1),ab)) else(some (aa,i64.wrap (Int.fdiv (u64.wrap (i64.wrap (aa+ab))) 2)))):Option (Int×Int))>>=fun oo=>match oo with | (ae,af)=>(Z0a.l0 a0 a1 ae af)) else(some aa)
partial_fixpoint
def Z0a.f (a0:List Int) (a1:Int):Option (Int×Bool):=(Z0a.l0 a0 a1 0 (a0.length:Int))>>=fun aa=>((if(decide (aa<(a0.length:Int)))=true then((at? a0 aa)>>=fun ab=>if(ab==a1)=true then(some true) else((Z3j.f ab)>>=fun ac=>if(ab != ab)=true then((Z3j.f a1)>>=fun ad=>some (a1 != a1)) else(some false))) else(some false)):Option Bool)>>=fun ae=>some (aa,ae)
theorem Z0a.ok (a0:List Int) (a1:Int):FN 70 [.im (.row (a0.map qe)),qi a1] [] 0 (Z0a.f a0 a1) (fun r=>.tup [qi r.1,bV r.2]) (fun r=>[]):=FT [] func70 (.r0<|.rg [(1,hG qe a0)]<|.r0<|.bl<|.loop (.c2 (Z0a.l0.partial_correctness a0 a1)) (0,(a0.length:Int)) [] [] [] (fun _=>.pr fun aa=>.one (fun ab=>⟨[(0,.im (.row (a0.map qe))),(1,qi a1),(6,qi (a0.length:Int)),(7,qi aa),(8,qi ab)],[],0⟩) fun ab=>.r0<|.cd (fun ac=>.bl<|.rg [(4,hK 1)]<|.el fun ad ae af=>.bd fun ah ai=>.rg [(2,hA qe ae af),(5,qh call102 (Z5u.ok ad a1 ah ai))]<|.join (.cd (fun aj=>.r0<|.o [])
 (fun aj=>.r0<|.o []))
 (.pr fun ak=>.st .normal (fun al=>⟨[(0,.im (.row (a0.map qe))),(1,qi a1),(6,qi (a0.length:Int)),(7,qi ak),(8,qi al)],[],0⟩) fun al=>.bk [] rfl))
 (fun ac=>.o []))
 (.st (.exit 0) (fun am=>⟨[(0,.im (.row (a0.map qe))),(1,qi a1),(6,qi (a0.length:Int)),(7,qi am)],[],0⟩) fun am=>.join (.sp (fun ao=>.el fun aq ar au=>.sp (fun av=>.rg [(4,hB ao),(7,hA qe ar au),(11,hB av)]<|.o [])
 (fun av=>.bd fun ax az=>.sp (fun a8=>.bd fun a9 ba=>.rg [(4,hB ao),(7,hA qe ar au),(11,hB av),(14,hA qe ar au),(16,qh call103 (Z3j.ok aq ax az)),(17,hB a8),(19,qh call103 (Z3j.ok a1 a9 ba))]<|.o [])
 (fun a8=>.rg [(4,hB ao),(7,hA qe ar au),(11,hB av),(14,hA qe ar au),(16,qh call103 (Z3j.ok aq ax az)),(17,hB a8)]<|.o [])))
 (fun ao=>.rg [(4,hB ao)]<|.o []))
 (.st .normal (fun bb=>⟨[(4,qi am),(5,bV bb)],[],0⟩) fun bb=>.ret [] [] [] ⟨[(4,qi am),(5,bV bb)],[],0⟩)))
def Z09.l0 (a1:Int) (aa:List Int) (ab:Int) (ac:Int):Option ((List Int)×Int):=if(decide (ac≥0))=true then((chk (0≤(u64.wrap (ac))))>>=fun _=>(Z0h.f aa ab ((u64.wrap (((BitVec.toNat (BitVec.ofInt 64 (Int.fdiv a1 (2 ^ (min (Int.toNat (u64.wrap (ac))) 64))) &&& BitVec.ofInt 64 (1:Int)):Nat):Int)))==1))>>=fun ad=>Z09.l0 a1 ad.1 ad.2 (i64.wrap (ac-1))) else(some (aa,ab))
partial_fixpoint
def Z09.f (aa:List Int) (ab:Int) (a1:Int) (a2:Int):Option ((List Int)×Int):=(Z09.l0 a1 aa ab (i64.wrap ((if(if(64:Int)<a2 then(64:Int) else a2)>0 then(if(64:Int)<a2 then(64:Int) else a2) else(0:Int))-1)))>>=fun oo=>match oo with | (ac,ad)=>(some (ac,ad))
theorem Z09.ok (aa:List Int) (ab:Int) (a1:Int) (a2:Int):FN 32 [.ptr 0 0 0,qu a1,qi a2] [(0,some (.box 86 [.own 1,qu ab])),q0 1 aa] 2 (Z09.f aa ab a1 a2) (fun r=>.tup []) (fun r=>[(0,some (.box 86 [.own 2,qu r.2])),(1,none),q0 2 r.1]):=FT [0,1,2] func32 (.rg [(1,⟨.more xMin,.n⟩),(2,⟨.more xMax,.n⟩)]<|.bl<|.loop (.c3 (Z09.l0.partial_correctness a1)) (aa,ab,i64.wrap ((if(if(64:Int)<a2 then(64:Int) else a2)>0 then(if(64:Int)<a2 then(64:Int) else a2) else(0:Int))-1)) [(0,0),(1,3)] [] [] (fun _=>.pr fun ac=>.pr fun ad=>.one (fun ae=>⟨[(0,.ptr 0 0 0),(1,qu a1),(6,qi ae)],[(0,some (.box 86 [.own 3,qu ad])),q0 3 ac],2⟩) fun ae=>.r0<|.cd (fun af=>.bl<|.ck fun ah=>.bd fun ai aj=>.rg [(4,hN (p1 ah)),(7,hC [(0,0),(3,1)] [(0,0),(2,4)] [] [4] call68 (Z0h.ok ac ad ((u64.wrap (((BitVec.toNat (BitVec.ofInt 64 (Int.fdiv a1 (2 ^ (min (Int.toNat (u64.wrap (ae))) 64))) &&& BitVec.ofInt 64 (1:Int)):Nat):Int)))==1) ai aj))]<|.r0<|.bk [(0,0),(4,3)] rfl)
 (fun af=>.o [(0,0),(3,5)]))
 (.pr fun ak=>.st (.exit 0) (fun al=>⟨[],[(0,some (.box 86 [.own 5,qu al])),q0 5 ak],2⟩) fun al=>.ret [(0,0),(5,2)] [] [] ⟨[],[(0,some (.box 86 [.own 2,qu al])),q0 2 ak],2⟩))
def Zb.l0 (a1:Int) (aa:List Int) (ab:Int×Bool) (ac:List Int) (ad:Int) (ae:Int):Option ((List Int)×Int):=if(decide (ae<ab.1))=true then((Z0h.f ac ad true)>>=fun af=>Zb.l0 a1 aa ab af.1 af.2 (i64.wrap (ae+1))) else(some (ac,ad))
partial_fixpoint
def Zb.f (aa:List Int) (ab:Int) (a1:Int):Option ((List Int)×Int):=(Z3v.f)>>=fun ac=>(Z2y.f a1)>>=fun ad=>(Z0a.f ac ad)>>=fun ae=>(Zb.l0 a1 ac ae aa ab 0)>>=fun oo=>match oo with | (af,ah)=>(((if(decide (ae.1<(i64.wrap ((ac.length:Int)-1))))=true then((Z0h.f af ah false)>>=fun ai=>some (ai.1,ai.2)) else(some (af,ah))):Option ((List Int)×Int))>>=fun oo=>match oo with | (aj,ak)=>((at? ac ae.1)>>=fun al=>(Z09.f aj ak a1 al)>>=fun am=>some (am.1,am.2)))
theorem Zb.ok (aa:List Int) (ab:Int) (a1:Int):FN 33 [.ptr 0 0 0,qu a1] [(0,some (.box 86 [.own 1,qu ab])),q0 1 aa] 2 (Zb.f aa ab a1) (fun r=>.tup []) (fun r=>[(0,some (.box 86 [.own 2,qu r.2])),(1,none),q0 2 r.1]):=FT [0,1,2] func33 (.bd fun ac ad=>.rg [(0,hC [] [(0,2)] [] [2] call69 (Z3v.ok  ac ad))]<|.bd fun ae af=>.bd fun ah ai=>.rg [(2,qh call71 (Z2y.ok a1 ae af)),(3,hC [] [] [2] [] call70 (Z0a.ok ac ae ah ai))]<|.r0<|.bl<|.loop (.c3 (Zb.l0.partial_correctness a1 ac ah)) (aa,ab,0) [(0,0),(1,4),(2,5)] [] [] (fun _=>.pr fun aj=>.pr fun ak=>.one (fun al=>⟨[(0,.ptr 0 0 0),(1,qu a1),(4,.own 5),(5,qi ah.1),(15,qi ah.1),(16,qi al)],[(0,some (.box 86 [.own 4,qu ak])),q0 4 aj,q1 5 ac],2⟩) fun al=>.r0<|.cd (fun am=>.bl<|.bd fun ao aq=>.rg [(1,hC [(0,0),(4,1)] [(0,0),(2,6)] [] [6] call68 (Z0h.ok aj ak true ao aq))]<|.r0<|.bk [(0,0),(5,5),(6,4)] rfl)
 (fun am=>.o [(0,0),(4,7),(5,8)]))
 (.pr fun ar=>.st (.exit 0) (fun au=>⟨[(0,.ptr 0 0 0),(1,qu a1),(4,.own 8),(5,qi ah.1)],[(0,some (.box 86 [.own 7,qu au])),q0 7 ar,q1 8 ac],2⟩) fun au=>.rg [(2,hG qe ac)]<|.join (.cd (fun av=>.bd fun ax az=>.rg [(1,hC [(0,0),(7,1)] [(0,0),(2,9)] [] [9] call68 (Z0h.ok ar au false ax az))]<|.o [(0,0),(9,10),(8,11)])
 (fun av=>.o [(0,0),(7,10),(8,11)]))
 (.pr fun a8=>.st .normal (fun a9=>⟨[(0,.ptr 0 0 0),(1,qu a1),(4,.own 11),(5,qi ah.1)],[(0,some (.box 86 [.own 10,qu a9])),q0 10 a8,q1 11 ac],2⟩) fun a9=>.el fun ba bb bc=>.bd fun be bf=>.rg [(4,hX qe bb bc),(5,hL qe bc),(6,hC [(0,0),(10,1)] [(0,0),(2,12)] [] [12] call32 (Z09.ok a8 a9 a1 ba be bf))]<|.ret [(0,0),(12,2)] [] [] ⟨[],[(0,some (.box 86 [.own 2,qu be.2])),q0 2 be.1],2⟩)))
def Z3p.f (a0:List Int):Option (List Int):=(chk ((([]:List Int).length+a0.length)*1≤140737488355328))>>=fun _=>some a0
theorem Z3p.ok (a0 r:List Int) (H:Z3p.f a0=some r):Pv.Fn Tryz.prog 81 [.im (.row (a0.map qb))] [] 0 (fun x o=>x = .own 0∧o=[q0 0 r]):=by
 unfold Z3p.f at H;obtain⟨c1,H⟩:=Zat H;obtain rfl:=sj H;refine Fn.bodyK [0] func81 rfl rfl (fun Γ hP hn => ?_);have hm:Tryz.prog.follows .mixedOrders=true:=by kernel_rfl
 replace hn:Γ.n=8:=hn;refine AWp.seq ?_;refine reg hP hn hm [] [0,2] [] ⟨[(0,.im (.row (a0.map qb))),(2,.none0)],[],0⟩ [] (by kernel_rfl) trivial ?_;refine AWp.seq ?_;cases a0 with
 | nil =>
  refine AWp.nilSplit 0 rfl (fun b m => ?_);refine AWp.seq ?_;cases b with
  | none =>
   refine reg hP hn hm [(1,.more xNil)] [2,4] [] ⟨[(2,.none0),(4,bV true)],[],0⟩ [] (by kernel_rfl) trivial ?_;refine AWp.cond true rfl (fun _ => ?_) (fun h=>nomatch h);refine AWp.seq ?_;refine reg hP hn hm [] [2] [] ⟨[(2,.none0)],[],0⟩ [] (by kernel_rfl) trivial ?_;refine AWp.conv (inv:=[]) (vk:=[]) (e0:=[0]) (t:=⟨[(2,.own 0)],[(0,some (.row 1 5 []))],0⟩) (by kernel_rfl) ?_
   refine AWp.ret ?_;exact Exists.intro _ (And.intro (fun _ _ h=>h) (And.intro (.inl rfl) (And.intro rfl (And.intro (by kernel_rfl) (by kernel_rfl)))))
  | some b =>
   refine reg hP hn hm [(1,.more xNil)] [0,2,4] [] ⟨[(0,.im (.sc (.slice (some b) 0 m))),(2,.none0),(4,bV false)],[],0⟩ [] (by kernel_rfl) trivial ?_;refine AWp.cond false rfl (fun h=>nomatch h) (fun _ => ?_);refine AWp.skip ?_;refine AWp.unsplit 0 rfl ?_;refine AWp.seq ?_;refine reg hP hn hm [(0,.app 0 ([]:List (List Im))),(2,.app 1 (([]:List Int).map qb))] [2] [1] ⟨[(2,.own 1)],[q0 1 ([]:List Int)],0⟩ [([]:List (List Im))=[],([]:List Int).map qb=([]:List (List Im))++([]:List Int).map qb,∀ c∈([]:List Int).map qb,c.length=1,∀ c∈([]:List Int).map qb,Z3i (c.map .im)=true,(([]:List (List Im)).length+(([]:List Int).map qb).length)*1≤140737488355328] (by kernel_rfl) ⟨rfl,by simp,by exact Z5c _ _ _ (fun _=>rfl),by exact Z4m _ _ (fun _=>rfl),by simpa using c1,trivial⟩ ?_;refine AWp.conv (inv:=[(1,0)]) (vk:=[]) (e0:=[]) (t:=⟨[(2,.own 0)],[q0 0 ([]:List Int)],0⟩) (by kernel_rfl) ?_
   refine AWp.ret ?_;exact Exists.intro _ (And.intro (fun _ _ h=>h) (And.intro (.inl rfl) (And.intro rfl (And.intro (by kernel_rfl) (by kernel_rfl)))))
 | cons y l =>
  refine AWp.seq ?_;refine reg hP hn hm [(1,.more xNil)] [0,2,4] [] ⟨[(0,.im (.row ((y::l).map qb))),(2,.none0),(4,bV false)],[],0⟩ [] (by kernel_rfl) trivial ?_;refine AWp.cond false rfl (fun h=>nomatch h) (fun _ => ?_);refine AWp.skip ?_;refine AWp.seq ?_;refine reg hP hn hm [(0,.app 0 ([]:List (List Im))),(2,.app 1 ((y::l).map qb))] [2] [1] ⟨[(2,.own 1)],[q0 1 (y::l)],0⟩ [([]:List (List Im))=[],(y::l).map qb=([]:List (List Im))++(y::l).map qb,∀ c∈(y::l).map qb,c.length=1,∀ c∈(y::l).map qb,Z3i (c.map .im)=true,(([]:List (List Im)).length+((y::l).map qb).length)*1≤140737488355328] (by kernel_rfl) ⟨rfl,by simp,by exact Z5c _ _ _ (fun _=>rfl),by exact Z4m _ _ (fun _=>rfl),by simpa using c1,trivial⟩ ?_;refine AWp.conv (inv:=[(1,0)]) (vk:=[]) (e0:=[]) (t:=⟨[(2,.own 0)],[q0 0 (y::l)],0⟩) (by kernel_rfl) ?_
  refine AWp.ret ?_;exact Exists.intro _ (And.intro (fun _ _ h=>h) (And.intro (.inl rfl) (And.intro rfl (And.intro (by kernel_rfl) (by kernel_rfl)))))
def Z1d.f (aa:List Int) (ab:Int):Option (List Int):=(Z3p.f aa)>>=fun ac=>some ac
theorem Z1d.ok (aa:List Int) (ab:Int):FN 38 [.ptr 0 0 0] [(0,some (.box 86 [.own 1,qu ab])),q0 1 aa] 2 (Z1d.f aa ab) (fun r=>.own 2) (fun r=>[(0,some (.box 86 [.own 1,qu ab])),q0 1 aa,q0 2 r]):=FT [0,1,2] func38 (.r0<|.bd fun ac ad=>.rg [(4,⟨.more (Z5d [] [(0,2)] [1] [2] 0 (.own 0) [q0 0 ac]),.c (call81) (.c (Z3p.ok aa ac ad) (.c (p:=∀ c∈ac.map qb,∀ x∈c,∃ v,x=Im.sc v) (Z5h _ _ (fun _=>by simp)) .n))⟩)]<|.ret [(0,0),(1,1),(2,2)] [] [] ⟨[(2,.own 2)],[(0,some (.box 86 [.own 1,qu ab])),q0 1 aa,q0 2 ac],2⟩)
def Z7g.f (a0:Z2i):Option ((List Int)×Int):=(Z63.f a0)>>=fun t63=>if(!t63)=true then(some ([],6)) else((Z2r.f 0 (u64.wrap (a0.f0)) 2)>>=fun aa=>if(a0.f0==1)=true then(none) else(if(a0.f0==2)=true then(none) else((Zb.f aa.1 aa.2 (u64.wrap (a0.f3)))>>=fun ab=>(Z1d.f ab.1 ab.2)>>=fun ac=>some (ac,0))))
theorem Z7g.ok (a0:Z2i):FN 11 [.agg (Z6y a0)] [] 0 (Z7g.f a0) (fun r=>.tup [.own 0,qi r.2]) (fun r=>[q0 0 r.1]):=FT [0] func11 (.rg [(0,⟨.k 0,.n⟩)]<|.bd fun t63 e64=>.rg [(1,qh call13 (Z63.ok a0 t63 e64))]<|.cd (fun c65=>.r0<|.ret [] [] [0] ⟨[(2,.own 0),(3,qi 6)],[q0 0 []],0⟩)
 (fun c65=>.rg [(1,⟨.k 1,.n⟩)]<|.bd fun aa ab=>.rg [(4,hC [(1,0)] [(0,1),(1,2)] [] [2] call32 (Z2r.ok 0 (u64.wrap (a0.f0)) 2 aa ab))]<|.r0<|.bl<|.r0<|.cd (fun ac=>.no)
 (fun ac=>.r0<|.cd (fun ad=>.no)
 (fun ad=>.bd fun ae af=>.rg [(4,hC [(1,0),(2,1)] [(0,1),(2,3)] [] [3] call33 (Zb.ok aa.1 aa.2 (u64.wrap (a0.f3)) ae af))]<|.bd fun ah ai=>.rg [(1,hC [(1,0),(3,1)] [(0,1),(1,3),(2,4)] [] [4] call38 (Z1d.ok ae.1 ae.2 ah ai))]<|.ret [(4,0)] [] [] ⟨[(2,.own 0),(3,qi 0)],[q0 0 ah],0⟩))))
def Z5a.f (a0:List Int):Option Unit:=some ()
theorem Z5a.ok (a0:List Int):FN 41 [.im (.row (a0.map qb))] [] 0 (Z5a.f a0) (fun r=>.ptr 0 0 0) (fun r=>[(0,some (.box 158 (Zd ⟨a0,0,0⟩)))]):=FT [0] func41 (.r0<|.rg [(2,⟨.k 0,.n⟩)]<|.ret [(0,0)] [] [] ⟨[(2,.ptr 0 0 0)],[(0,some (.box 158 (Zd ⟨a0,0,0⟩)))],0⟩)
def Z0l.f (aa:List Int) (ab:Int) (ac:Int) (a1:Int):Option Int:=((if(ac==0)=true then(some a1) else(some ac)):Option Int)>>=fun ad=>some ad
theorem Z0l.ok (aa:List Int) (ab:Int) (ac:Int) (a1:Int):FN 85 [.ptr 0 0 0,qi a1] [(0,some (.box 158 (Zd ⟨aa,ab,ac⟩)))] 1 (Z0l.f aa ab ac a1) (fun r=>.tup []) (fun r=>[(0,some (.box 158 (Zd ⟨aa,ab,r⟩)))]):=FT [0] func85 (.r0<|.join (.cd (fun ad=>.r0<|.o [(0,0)])
 (fun ad=>.o [(0,0)]))
 (.st .normal (fun ae=>⟨[],[(0,some (.box 158 (Zd ⟨aa,ab,ae⟩)))],1⟩) fun ae=>.ret [(0,0)] [] [] ⟨[],[(0,some (.box 158 (Zd ⟨aa,ab,ae⟩)))],1⟩))
def Z0k.f (aa:List Int) (ab:Int) (ac:Int):Option (Bool×Int×Int):=((if(ac != 0)=true then(some true) else(some (decide (ab≥(i64.wrap ((8:Int)*(aa.length:Int))))))):Option Bool)>>=fun ad=>if ad=true then((Z0l.f aa ab ac 7)>>=fun ae=>some (false,ab,ae)) else((at? aa (i64.wrap (Int.tdiv ab (8:Int))))>>=fun af=>(chk (0≤(u64.wrap ((7:Int)-(u64.wrap (Int.tmod ab (8:Int)))))))>>=fun _=>some (((u8.wrap (((BitVec.toNat (BitVec.ofInt 8 (Int.fdiv af (2 ^ (min (Int.toNat (u64.wrap ((7:Int)-(u64.wrap (Int.tmod ab (8:Int)))))) 8))) &&& BitVec.ofInt 8 (1:Int)):Nat):Int)))==1),i64.wrap (ab+1),ac))
theorem Z0k.ok (aa:List Int) (ab:Int) (ac:Int):FN 83 [.ptr 0 0 0] [(0,some (.box 158 (Zd ⟨aa,ab,ac⟩)))] 1 (Z0k.f aa ab ac) (fun r=>bV r.1) (fun r=>[(0,some (.box 158 (Zd ⟨aa,r.2.1,r.2.2⟩)))]):=FT [0] func83 (.r0<|.join (.sp (fun ad=>.rg [(5,hB ad)]<|.o [(0,0)])
 (fun ad=>.rg [(5,hB ad),(14,hG qb aa)]<|.o [(0,0)]))
 (.st .normal (fun ae=>⟨[(0,.ptr 0 0 0),(21,bV ae)],[(0,some (.box 158 (Zd ⟨aa,ab,ac⟩)))],1⟩) fun ae=>.cd (fun af=>.bd fun ah ai=>.rg [(1,hC [(0,0)] [(0,0)] [] [] call85 (Z0l.ok aa ab ac 7 ah ai))]<|.r0<|.ret [(0,0)] [] [] ⟨[(2,bV false)],[(0,some (.box 158 (Zd ⟨aa,ab,ah⟩)))],1⟩)
 (fun af=>.el fun aj ak al=>.ck fun am=>.rg [(8,hJ 8),(9,hA qb ak al),(15,hJ 8),(18,hN (p1 am))]<|.r0<|.r0<|.ret [(0,0)] [] [] ⟨[(2,bV ((u8.wrap (((BitVec.toNat (BitVec.ofInt 8 (Int.fdiv aj (2 ^ (min (Int.toNat (u64.wrap ((7:Int)-(u64.wrap (Int.tmod ab (8:Int)))))) 8))) &&& BitVec.ofInt 8 (1:Int)):Nat):Int)))==1))],[(0,some (.box 158 (Zd ⟨aa,(i64.wrap (ab+1)),ac⟩)))],1⟩)))
def Zo.l0 (aa:List Int) (a1:Int) (ab:Int) (ac:Int) (ad:Int) (ae:Int):Option (Int×Int×Int):=if(decide (ae<(if(if(64:Int)<a1 then(64:Int) else a1)>0 then(if(64:Int)<a1 then(64:Int) else a1) else(0:Int))))=true then((Z0k.f aa ab ac)>>=fun af=>((if af.1=true then(some (u64.wrap (((BitVec.toNat (BitVec.ofInt 64 (u64.wrap (ad*2)) ||| BitVec.ofInt 64 (1:Int)):Nat):Int)))) else(some (u64.wrap (ad*2)))):Option Int)>>=fun ah=>Zo.l0 aa a1 af.2.1 af.2.2 ah (i64.wrap (ae+1))) else(some (ab,ac,ad))
partial_fixpoint
def Zo.f (aa:List Int) (ab:Int) (ac:Int) (a1:Int):Option (Int×Int×Int):=(Zo.l0 aa a1 ab ac 0 0)>>=fun oo=>match oo with | (ad,ae,af)=>(if(ae != 0)=true then(some (0,ad,ae)) else(some (af,ad,ae)))
theorem Zo.ok (aa:List Int) (ab:Int) (ac:Int) (a1:Int):FN 42 [.ptr 0 0 0,qi a1] [(0,some (.box 158 (Zd ⟨aa,ab,ac⟩)))] 1 (Zo.f aa ab ac a1) (fun r=>qu r.1) (fun r=>[(0,some (.box 158 (Zd ⟨aa,r.2.1,r.2.2⟩)))]):=FT [0] func42 (.r0<|.r0<|.rg [(1,⟨.more xMin,.n⟩),(2,⟨.more xMax,.n⟩)]<|.bl<|.loop (.c4 (Zo.l0.partial_correctness aa a1)) (ab,ac,0,0) [(0,0)] [] [] (fun _=>.pr fun ad=>.pr fun ae=>.pr fun af=>.one (fun ah=>⟨[(0,.ptr 0 0 0),(5,qu af),(8,qi (if(if(64:Int)<a1 then(64:Int) else a1)>0 then(if(64:Int)<a1 then(64:Int) else a1) else(0:Int))),(9,qi ah)],[(0,some (.box 158 (Zd ⟨aa,ad,ae⟩)))],1⟩) fun ah=>.r0<|.cd (fun ai=>.bl<|.rg [(1,hK 1)]<|.bd fun aj ak=>.rg [(1,hC [(0,0)] [(0,0)] [] [] call83 (Z0k.ok aa ad ae aj ak))]<|.join (.cd (fun al=>.r0<|.o [(0,0)])
 (fun al=>.o [(0,0)]))
 (.st .normal (fun am=>⟨[(0,.ptr 0 0 0),(5,qu am),(8,qi (if(if(64:Int)<a1 then(64:Int) else a1)>0 then(if(64:Int)<a1 then(64:Int) else a1) else(0:Int))),(9,qi ah)],[(0,some (.box 158 (Zd ⟨aa,aj.2.1,aj.2.2⟩)))],1⟩) fun am=>.r0<|.bk [(0,0)] rfl))
 (fun ai=>.o [(0,0)]))
 (.pr fun ao=>.pr fun aq=>.st (.exit 0) (fun ar=>⟨[(0,.ptr 0 0 0),(5,qu ar)],[(0,some (.box 158 (Zd ⟨aa,ao,aq⟩)))],1⟩) fun ar=>.r0<|.cd (fun au=>.r0<|.ret [(0,0)] [] [] ⟨[(4,qu 0)],[(0,some (.box 158 (Zd ⟨aa,ao,aq⟩)))],1⟩)
 (fun au=>.r0<|.ret [(0,0)] [] [] ⟨[(4,qu ar)],[(0,some (.box 158 (Zd ⟨aa,ao,aq⟩)))],1⟩)))
def Z07.l0 (aa:List Int) (ab:List Int) (ac:Int) (ad:Int) (ae:Int):Option (Int×Int×Int):=((if(decide (ae<(i64.wrap ((ab.length:Int)-1))))=true then((Z0k.f aa ac ad)>>=fun af=>some (af.2.1,af.2.2,af.1)) else(some (ac,ad,false))):Option (Int×Int×Bool))>>=fun oo=>match oo with | (ah,ai,aj)=>(if aj=true then(Z07.l0 aa ab ah ai (i64.wrap (ae+1))) else(some (ah,ai,ae)))
partial_fixpoint
def Z07.f (aa:List Int) (ab:Int) (ac:Int):Option (Int×Int×Int):=(Z3v.f)>>=fun ad=>(Z07.l0 aa ad ab ac 0)>>=fun oo=>match oo with | (ae,af,ah)=>((at? ad ah)>>=fun ai=>(Zo.f aa ae af ai)>>=fun aj=>((if(decide (ah>0))=true then((Z2y.f aj.1)>>=fun ak=>(at? ad (i64.wrap (ah-1)))>>=fun al=>some (decide (ak≤al))) else(some false)):Option Bool)>>=fun am=>((if am=true then((Z0l.f aa aj.2.1 aj.2.2 6)>>=fun ao=>some ao) else(some aj.2.2)):Option Int)>>=fun aq=>if(aq != 0)=true then(some (0,aj.2.1,aq)) else(some (aj.1,aj.2.1,aq)))
theorem Z07.ok (aa:List Int) (ab:Int) (ac:Int):FN 84 [.ptr 0 0 0] [(0,some (.box 158 (Zd ⟨aa,ab,ac⟩)))] 1 (Z07.f aa ab ac) (fun r=>qu r.1) (fun r=>[(0,some (.box 158 (Zd ⟨aa,r.2.1,r.2.2⟩)))]):=FT [0] func84 (.r0<|.bd fun ad ae=>.rg [(0,hC [] [(0,1)] [] [1] call69 (Z3v.ok  ad ae))]<|.r0<|.bl<|.loop (.c3 (Z07.l0.partial_correctness aa ad)) (ab,ac,0) [(0,0),(1,3)] [] [] (fun _=>.pr fun af=>.pr fun ah=>.one (fun ai=>⟨[(0,.ptr 0 0 0),(3,.own 3),(4,qi ai)],[(0,some (.box 158 (Zd ⟨aa,af,ah⟩))),q1 3 ad],1⟩) fun ai=>.join (.sp (fun aj=>.bd fun ak al=>.rg [(2,hG qe ad),(5,hB aj),(7,hC [(0,0)] [(0,0)] [] [] call83 (Z0k.ok aa af ah ak al))]<|.o [(0,0),(3,4)])
 (fun aj=>.rg [(2,hG qe ad),(5,hB aj)]<|.o [(0,0),(3,4)]))
 (.pr fun am=>.pr fun ao=>.st .normal (fun aq=>⟨[(0,.ptr 0 0 0),(3,.own 4),(4,qi ai),(15,bV aq)],[(0,some (.box 158 (Zd ⟨aa,am,ao⟩))),q1 4 ad],1⟩) fun aq=>.cd (fun ar=>.bl<|.r0<|.bk [(0,0),(4,3)] rfl)
 (fun ar=>.o [(0,0),(4,5)])))
 (.pr fun au=>.pr fun av=>.st (.exit 0) (fun ax=>⟨[(0,.ptr 0 0 0),(3,.own 5),(4,qi ax)],[(0,some (.box 158 (Zd ⟨aa,au,av⟩))),q1 5 ad],1⟩) fun ax=>.el fun az a8 a9=>.bd fun ba bb=>.rg [(3,hX qe a8 a9),(4,hL qe a9),(5,hC [(0,0)] [(0,0)] [] [] call42 (Zo.ok aa au av az ba bb))]<|.join (.sp (fun bc=>.bd fun be bf=>.el fun bg bh bi=>.rg [(2,hB bc),(4,qh call71 (Z2y.ok ba.1 be bf)),(8,hX qe bh bi),(9,hL qe bi)]<|.o [(0,0)])
 (fun bc=>.rg [(2,hB bc)]<|.o [(0,0)]))
 (.st .normal (fun bj=>⟨[(0,.ptr 0 0 0),(5,qu ba.1),(35,bV bj)],[(0,some (.box 158 (Zd ⟨aa,ba.2.1,ba.2.2⟩)))],1⟩) fun bj=>.join (.cd (fun bn=>.bd fun bo bp=>.rg [(1,hC [(0,0)] [(0,0)] [] [] call85 (Z0l.ok aa ba.2.1 ba.2.2 6 bo bp))]<|.o [(0,0)])
 (fun bn=>.o [(0,0)]))
 (.st .normal (fun bq=>⟨[(0,.ptr 0 0 0),(5,qu ba.1)],[(0,some (.box 158 (Zd ⟨aa,ba.2.1,bq⟩)))],1⟩) fun bq=>.r0<|.cd (fun br=>.r0<|.ret [(0,0)] [] [] ⟨[(2,qu 0)],[(0,some (.box 158 (Zd ⟨aa,ba.2.1,bq⟩)))],1⟩)
 (fun br=>.r0<|.ret [(0,0)] [] [] ⟨[(2,qu ba.1)],[(0,some (.box 158 (Zd ⟨aa,ba.2.1,bq⟩)))],1⟩)))))
def Za.f (aa:List Int) (ab:Int) (ac:Int) (a1:Int):Option (Int×Int×Int):=(Z07.f aa ab ac)>>=fun ad=>((if(decide (a1<0))=true then(some true) else(some (decide (ad.1>(u64.wrap (a1)))))):Option Bool)>>=fun ae=>if ae=true then((Z0l.f aa ad.2.1 ad.2.2 9)>>=fun af=>some (0,ad.2.1,af)) else(some (i64.wrap (ad.1),ad.2.1,ad.2.2))
theorem Za.ok (aa:List Int) (ab:Int) (ac:Int) (a1:Int):FN 43 [.ptr 0 0 0,qi a1] [(0,some (.box 158 (Zd ⟨aa,ab,ac⟩)))] 1 (Za.f aa ab ac a1) (fun r=>qi r.1) (fun r=>[(0,some (.box 158 (Zd ⟨aa,r.2.1,r.2.2⟩)))]):=FT [0] func43 (.r0<|.bd fun ad ae=>.rg [(1,hC [(0,0)] [(0,0)] [] [] call84 (Z07.ok aa ab ac ad ae))]<|.join (.sp (fun af=>.rg [(2,hB af)]<|.o [(0,0)])
 (fun af=>.rg [(2,hB af)]<|.o [(0,0)]))
 (.st .normal (fun ah=>⟨[(0,.ptr 0 0 0),(5,qu ad.1),(15,bV ah)],[(0,some (.box 158 (Zd ⟨aa,ad.2.1,ad.2.2⟩)))],1⟩) fun ah=>.cd (fun ai=>.bd fun aj ak=>.rg [(1,hC [(0,0)] [(0,0)] [] [] call85 (Z0l.ok aa ad.2.1 ad.2.2 9 aj ak))]<|.r0<|.ret [(0,0)] [] [] ⟨[(4,qi 0)],[(0,some (.box 158 (Zd ⟨aa,ad.2.1,aj⟩)))],1⟩)
 (fun ai=>.r0<|.ret [(0,0)] [] [] ⟨[(4,qi (i64.wrap (ad.1)))],[(0,some (.box 158 (Zd ⟨aa,ad.2.1,ad.2.2⟩)))],1⟩)))
def Z11.f (aa:List Int) (ab:Int) (ac:Int):Option Unit:=some ()
theorem Z11.ok (aa:List Int) (ab:Int) (ac:Int):FN 86 [.ptr 0 0 0] [(0,some (.box 158 (Zd ⟨aa,ab,ac⟩)))] 1 (Z11.f aa ab ac) (fun r=>qi (i64.wrap ((i64.wrap ((8:Int)*(aa.length:Int)))-ab))) (fun r=>[(0,some (.box 158 (Zd ⟨aa,ab,ac⟩)))]):=FT [0] func86 (.r0<|.rg [(4,hG qb aa)]<|.ret [(0,0)] [] [] ⟨[(2,qi (i64.wrap ((i64.wrap ((8:Int)*(aa.length:Int)))-ab)))],[(0,some (.box 158 (Zd ⟨aa,ab,ac⟩)))],1⟩)
def Zx.l0 (aa:List Int) (ab:Int) (ac:Int):Option (Int×Int):=((if(ac==0)=true then((Z11.f aa ab ac)>>=fun ad=>some (decide ((i64.wrap ((i64.wrap ((8:Int)*(aa.length:Int)))-ab))>0))) else(some false)):Option Bool)>>=fun ae=>if ae=true then((Z0k.f aa ab ac)>>=fun af=>((if af.1=true then((Z0l.f aa af.2.1 af.2.2 6)>>=fun ah=>some ah) else(some af.2.2)):Option Int)>>=fun ai=>Zx.l0 aa af.2.1 ai) else(some (ab,ac))
partial_fixpoint
def Zx.f (aa:List Int) (ab:Int) (ac:Int):Option (Int×Int×Int):=((if(ac==0)=true then((Z11.f aa ab ac)>>=fun ad=>some (decide ((i64.wrap ((i64.wrap ((8:Int)*(aa.length:Int)))-ab))≥8))) else(some false)):Option Bool)>>=fun ae=>((if ae=true then((Z0l.f aa ab ac 6)>>=fun af=>some af) else(some ac)):Option Int)>>=fun ah=>(Zx.l0 aa ab ah)>>=fun oo=>match oo with | (ai,aj)=>(some (aj,ai,aj))
theorem Zx.ok (aa:List Int) (ab:Int) (ac:Int):FN 49 [.ptr 0 0 0] [(0,some (.box 158 (Zd ⟨aa,ab,ac⟩)))] 1 (Zx.f aa ab ac) (fun r=>qi r.1) (fun r=>[(0,some (.box 158 (Zd ⟨aa,r.2.1,r.2.2⟩)))]):=FT [0] func49 (.r0<|.join (.sp (fun ad=>.bd fun ae af=>.rg [(5,hB ad),(7,hC [(0,0)] [(0,0)] [] [] call86 (Z11.ok aa ab ac ae af))]<|.o [(0,0)])
 (fun ad=>.rg [(5,hB ad)]<|.o [(0,0)]))
 (.st .normal (fun ah=>⟨[(0,.ptr 0 0 0),(12,bV ah)],[(0,some (.box 158 (Zd ⟨aa,ab,ac⟩)))],1⟩) fun ah=>.join (.cd (fun ai=>.bd fun aj ak=>.rg [(1,hC [(0,0)] [(0,0)] [] [] call85 (Z0l.ok aa ab ac 6 aj ak))]<|.o [(0,0)])
 (fun ai=>.o [(0,0)]))
 (.st .normal (fun al=>⟨[(0,.ptr 0 0 0)],[(0,some (.box 158 (Zd ⟨aa,ab,al⟩)))],1⟩) fun al=>.bl<|.loop (.c2 (Zx.l0.partial_correctness aa)) (ab,al) [(0,0)] [] [] (fun _=>.pr fun am=>.one (fun ao=>⟨[(0,.ptr 0 0 0)],[(0,some (.box 158 (Zd ⟨aa,am,ao⟩)))],1⟩) fun ao=>.join (.sp (fun aq=>.bd fun ar au=>.rg [(5,hB aq),(7,hC [(0,0)] [(0,0)] [] [] call86 (Z11.ok aa am ao ar au))]<|.o [(0,0)])
 (fun aq=>.rg [(5,hB aq)]<|.o [(0,0)]))
 (.st .normal (fun av=>⟨[(0,.ptr 0 0 0),(24,bV av)],[(0,some (.box 158 (Zd ⟨aa,am,ao⟩)))],1⟩) fun av=>.cd (fun ax=>.bl<|.bd fun az a8=>.rg [(1,hC [(0,0)] [(0,0)] [] [] call83 (Z0k.ok aa am ao az a8))]<|.join (.cd (fun a9=>.bd fun ba bb=>.rg [(1,hC [(0,0)] [(0,0)] [] [] call85 (Z0l.ok aa az.2.1 az.2.2 6 ba bb))]<|.o [(0,0)])
 (fun a9=>.o [(0,0)]))
 (.st .normal (fun bc=>⟨[(0,.ptr 0 0 0)],[(0,some (.box 158 (Zd ⟨aa,az.2.1,bc⟩)))],1⟩) fun bc=>.bk [(0,0)] rfl))
 (fun ax=>.o [(0,0)])))
 (.pr fun be=>.st (.exit 0) (fun bf=>⟨[(0,.ptr 0 0 0)],[(0,some (.box 158 (Zd ⟨aa,be,bf⟩)))],1⟩) fun bf=>.r0<|.ret [(0,0)] [] [] ⟨[(2,qi bf)],[(0,some (.box 158 (Zd ⟨aa,be,bf⟩)))],1⟩))))
def Z7h.f (a0:List Int):Option (Z2i×Int):=(Z5a.f a0)>>=fun aa=>(Zo.f a0 0 0 2)>>=fun ab=>if((i64.wrap (ab.1))==1)=true then(none) else(if((i64.wrap (ab.1))==2)=true then(none) else(((if((i64.wrap (ab.1))==3)=true then((Za.f a0 ab.2.1 ab.2.2 1099511627776)>>=fun ac=>some (ac.2.1,ac.2.2,ac.1)) else(some (ab.2.1,ab.2.2,0))):Option (Int×Int×Int))>>=fun oo=>match oo with | (ad,ae,af)=>((((Zx.f a0 ad ae)>>=fun ah=>if(ah.1 != 0)=true then(some true) else((Z63.f (⟨i64.wrap (ab.1),[],[],af⟩:Z2i))>>=fun ai=>some (!ai))):Option Bool)>>=fun aj=>if aj=true then(some ((⟨0,[],[],0⟩:Z2i),6)) else(some ((⟨i64.wrap (ab.1),[],[],af⟩:Z2i),0)))))
abbrev qk0:MObj:=.box 35 [qi 0,.none0,.none0,qi 0]
theorem Z7h.ok (a0:List Int):FN 14 [.im (.row (a0.map qb))] [] 0 (Z7h.f a0) (fun r=>.tup [.agg (Z6y (r.1)),qi r.2]) (fun r=>[]):=FT [] func14 (.rg [(0,⟨.k 0,.n⟩)]<|.bd fun aa ab=>.rg [(1,hC [] [(0,1)] [] [1] call41 (Z5a.ok a0 aa ab))]<|.bd fun ac ad=>.rg [(1,hC [(1,0)] [(0,1)] [] [] call42 (Zo.ok a0 0 0 2 ac ad)),(4,⟨.k 2,.n⟩)]<|.r0<|.r0<|.bl<|.r0<|.cd (fun ae=>.no)
 (fun ae=>.r0<|.cd (fun af=>.no)
 (fun af=>.r0<|.join (.cd (fun ah=>.bd fun ai aj=>.rg [(1,hC [(1,0)] [(0,1)] [] [] call43 (Za.ok a0 ac.2.1 ac.2.2 1099511627776 ai aj))]<|.o [(0,3),(1,4),(2,5)])
 (fun ah=>.o [(0,3),(1,4),(2,5)]))
 (.pr fun ak=>.pr fun al=>.st .normal (fun am=>⟨[(2,.ptr 3 0 0),(4,.ptr 4 0 0),(5,.ptr 5 0 0),(6,bV true)],[(3,some (qk0)),(4,some (.box 158 (Zd ⟨a0,ak,al⟩))),(5,some (.box 35 [qi (i64.wrap (ac.1)),.none0,.none0,qi am]))],0⟩) fun am=>.join (.bd fun ao aq=>.sp (fun ar=>.rg [(4,hC [(4,0)] [(0,4)] [] [] call49 (Zx.ok a0 ak al ao aq)),(7,hB ar)]<|.o [(3,6),(5,7)])
 (fun ar=>.bd fun au av=>.rg [(4,hC [(4,0)] [(0,4)] [] [] call49 (Zx.ok a0 ak al ao aq)),(7,hB ar),(9,qh call13 (Z63.ok (⟨i64.wrap (ac.1),[],[],am⟩:Z2i) au av))]<|.o [(3,6),(5,7)]))
 (.st .normal (fun ax=>⟨[(2,.ptr 6 0 0),(5,.ptr 7 0 0),(122,bV ax)],[(6,some (qk0)),(7,some (.box 35 [qi (i64.wrap (ac.1)),.none0,.none0,qi am]))],0⟩) fun ax=>.cd (fun az=>.r0<|.ret [(6,0)] [] [] ⟨[(2,.ptr 0 0 0),(3,qi 6)],[(0,some (.box 35 (Z6y (⟨0,[],[],0⟩:Z2i))))],0⟩)
 (fun az=>.r0<|.ret [(6,0)] [] [] ⟨[(2,.ptr 0 0 0),(3,qi 0)],[(0,some (.box 35 (Z6y ((⟨i64.wrap (ac.1),[],[],am⟩:Z2i)))))],0⟩))))))
def Z3z.f  : Option Bool:=(Z7g.f (⟨3,[],[],5⟩:Z2i))>>=fun aa=>(Z7h.f aa.1)>>=fun ab=>((if(aa.2==0)=true then(if(ab.2==0)=true then(if(((ab.1).f0)==3)=true then(if(((ab.1).f3)==5)=true then(some ((i64.wrap ((((ab.1).f1).length:Int)+(((ab.1).f2).length:Int)))==0)) else(some false)) else(some false)) else(some false)) else(some false)):Option Bool)>>=fun ac=>some ac
theorem Z3z.ok  : FN 9 [] [] 0 (Z3z.f ) (fun r=>bV r) (fun r=>[]):=FT [] func9 (.r0<|.bd fun aa ab=>.rg [(1,hC [] [(0,0)] [] [0] call11 (Z7g.ok (⟨3,[],[],5⟩:Z2i) aa ab))]<|.cv [] [0] [] ⟨[(1,.im (.row (aa.1.map qb))),(2,qi aa.2)],[],0⟩<|.bd fun ac ad=>.rg [(1,qh call14 (Z7h.ok aa.1 ac ad)),(5,⟨.k 1,.n⟩)]<|.join (.sp (fun ae=>.sp (fun af=>.sp (fun ah=>.sp (fun ai=>.rg [(2,hB ae),(6,hB af),(11,hB ah),(16,hB ai),(19,hG Zb5 ((ac.1).f1)),(22,hG Zcp ((ac.1).f2))]<|.o [])
 (fun ai=>.rg [(2,hB ae),(6,hB af),(11,hB ah),(16,hB ai)]<|.o []))
 (fun ah=>.rg [(2,hB ae),(6,hB af),(11,hB ah)]<|.o []))
 (fun af=>.rg [(2,hB ae),(6,hB af)]<|.o []))
 (fun ae=>.rg [(2,hB ae)]<|.o []))
 (.st .normal (fun aj=>⟨[(0,bV aj)],[],0⟩) fun aj=>.ret [] [] [] ⟨[(0,bV aj)],[],0⟩))
def Z62.l0 (a0:List Z1) (aa:List Z1) (ab:Int):Option (List Z1):=if(decide (ab<(a0.length:Int)))=true then((at? a0 ab)>>=fun ac=>(chk ((aa.length+[ac].length)*16≤140737488355328))>>=fun _=>Z62.l0 a0 (aa++[ac]) (i64.wrap (ab+1))) else(some aa)
partial_fixpoint
def Z62.f (a0:List Z1):Option (List Z1):=(Z62.l0 a0 [] 0)>>=fun aa=>some aa
abbrev q2:=@RW _ 2 92 Z0
theorem Z62.ok (a0:List Z1):FN 58 [.im (.row (a0.map Z0))] [] 0 (Z62.f a0) (fun r=>.own 0) (fun r=>[q2 0 r]):=FT [0] func58 (.r0<|.r0<|.rg [(1,hG Z0 a0)]<|.bl<|.loop (.c2 (Z62.l0.partial_correctness a0)) ([],0) [] [] [3] (fun _=>.pr fun aa=>.one (fun ab=>⟨[(3,.own 3),(6,.im (.row (a0.map Z0))),(7,qi (a0.length:Int)),(8,qi ab)],[q2 3 aa],0⟩) fun ab=>.r0<|.cd (fun ac=>.bl<|.el fun ad ae af=>.rg [(0,hA Z0 ae af),(2,⟨.k 4,.n⟩)]<|.ck fun ah=>.rg [(2,hQ 5 Z0 ([ad]:List Z1)),(3,hP 6 Z0 2 ah)]<|.r0<|.bk [(6,3)] rfl)
 (fun ac=>.o [(3,7)]))
 (.st (.exit 0) (fun ai=>⟨[(3,.own 7)],[q2 7 ai],0⟩) fun ai=>.r0<|.ret [(7,0)] [] [] ⟨[(2,.own 0)],[q2 0 ai],0⟩))
def Z1p.f (a0:List Z1):Option (List Z1):=(chk ((([]:List Z1).length+a0.length)*16≤140737488355328))>>=fun _=>some a0
theorem Z1p.ok (a0 r:List Z1) (H:Z1p.f a0=some r):Pv.Fn Tryz.prog 75 [.im (.row (a0.map Z0))] [] 0 (fun x o=>x = .own 0∧o=[q2 0 r]):=by
 unfold Z1p.f at H;obtain⟨c1,H⟩:=Zat H;obtain rfl:=sj H;refine Fn.bodyK [0] func75 rfl rfl (fun Γ hP hn => ?_);have hm:Tryz.prog.follows .mixedOrders=true:=by kernel_rfl
 replace hn:Γ.n=8:=hn;refine AWp.seq ?_;refine reg hP hn hm [] [0,2] [] ⟨[(0,.im (.row (a0.map Z0))),(2,.none0)],[],0⟩ [] (by kernel_rfl) trivial ?_;refine AWp.seq ?_;cases a0 with
 | nil =>
  refine AWp.nilSplit 0 rfl (fun b m => ?_);refine AWp.seq ?_;cases b with
  | none =>
   refine reg hP hn hm [(1,.more xNil)] [2,4] [] ⟨[(2,.none0),(4,bV true)],[],0⟩ [] (by kernel_rfl) trivial ?_;refine AWp.cond true rfl (fun _ => ?_) (fun h=>nomatch h);refine AWp.seq ?_;refine reg hP hn hm [] [2] [] ⟨[(2,.none0)],[],0⟩ [] (by kernel_rfl) trivial ?_;refine AWp.conv (inv:=[]) (vk:=[]) (e0:=[0]) (t:=⟨[(2,.own 0)],[(0,some (.row 2 92 []))],0⟩) (by kernel_rfl) ?_
   refine AWp.ret ?_;exact Exists.intro _ (And.intro (fun _ _ h=>h) (And.intro (.inl rfl) (And.intro rfl (And.intro (by kernel_rfl) (by kernel_rfl)))))
  | some b =>
   refine reg hP hn hm [(1,.more xNil)] [0,2,4] [] ⟨[(0,.im (.sc (.slice (some b) 0 m))),(2,.none0),(4,bV false)],[],0⟩ [] (by kernel_rfl) trivial ?_;refine AWp.cond false rfl (fun h=>nomatch h) (fun _ => ?_);refine AWp.skip ?_;refine AWp.unsplit 0 rfl ?_;refine AWp.seq ?_;refine reg hP hn hm [(0,.app 0 ([]:List (List Im))),(2,.app 1 (([]:List Z1).map Z0))] [2] [1] ⟨[(2,.own 1)],[q2 1 ([]:List Z1)],0⟩ [([]:List (List Im))=[],([]:List Z1).map Z0=([]:List (List Im))++([]:List Z1).map Z0,∀ c∈([]:List Z1).map Z0,c.length=2,∀ c∈([]:List Z1).map Z0,Z3i (c.map .im)=true,(([]:List (List Im)).length+(([]:List Z1).map Z0).length)*16≤140737488355328] (by kernel_rfl) ⟨rfl,by simp,by exact Z5c _ _ _ (fun _=>rfl),by exact Z4m _ _ (fun _=>rfl),by simpa using c1,trivial⟩ ?_;refine AWp.conv (inv:=[(1,0)]) (vk:=[]) (e0:=[]) (t:=⟨[(2,.own 0)],[q2 0 ([]:List Z1)],0⟩) (by kernel_rfl) ?_
   refine AWp.ret ?_;exact Exists.intro _ (And.intro (fun _ _ h=>h) (And.intro (.inl rfl) (And.intro rfl (And.intro (by kernel_rfl) (by kernel_rfl)))))
 | cons y l =>
  refine AWp.seq ?_;refine reg hP hn hm [(1,.more xNil)] [0,2,4] [] ⟨[(0,.im (.row ((y::l).map Z0))),(2,.none0),(4,bV false)],[],0⟩ [] (by kernel_rfl) trivial ?_;refine AWp.cond false rfl (fun h=>nomatch h) (fun _ => ?_);refine AWp.skip ?_;refine AWp.seq ?_;refine reg hP hn hm [(0,.app 0 ([]:List (List Im))),(2,.app 1 ((y::l).map Z0))] [2] [1] ⟨[(2,.own 1)],[q2 1 (y::l)],0⟩ [([]:List (List Im))=[],(y::l).map Z0=([]:List (List Im))++(y::l).map Z0,∀ c∈(y::l).map Z0,c.length=2,∀ c∈(y::l).map Z0,Z3i (c.map .im)=true,(([]:List (List Im)).length+((y::l).map Z0).length)*16≤140737488355328] (by kernel_rfl) ⟨rfl,by simp,by exact Z5c _ _ _ (fun _=>rfl),by exact Z4m _ _ (fun _=>rfl),by simpa using c1,trivial⟩ ?_;refine AWp.conv (inv:=[(1,0)]) (vk:=[]) (e0:=[]) (t:=⟨[(2,.own 0)],[q2 0 (y::l)],0⟩) (by kernel_rfl) ?_
  refine AWp.ret ?_;exact Exists.intro _ (And.intro (fun _ _ h=>h) (And.intro (.inl rfl) (And.intro rfl (And.intro (by kernel_rfl) (by kernel_rfl)))))
def Z6h.f (a0:Z1):Option Bool:=((if(decide (a0.f0≥0))=true then(if(decide (a0.f0≤a0.f1))=true then(some (decide (a0.f1≤1099511627776))) else(some false)) else(some false)):Option Bool)>>=fun aa=>some aa
theorem Z6h.ok (a0:Z1):FN 40 [.agg [qi a0.f0,qi a0.f1]] [] 0 (Z6h.f a0) (fun r=>bV r) (fun r=>[]):=FT [] func40 (.rg [(0,⟨.k 0,.n⟩)]<|.join (.sp (fun aa=>.sp (fun ab=>.rg [(3,hB aa),(10,hB ab)]<|.o [])
 (fun ab=>.rg [(3,hB aa),(10,hB ab)]<|.o []))
 (fun aa=>.rg [(3,hB aa)]<|.o []))
 (.st .normal (fun ac=>⟨[(2,bV ac)],[],0⟩) fun ac=>.ret [] [] [] ⟨[(2,bV ac)],[],0⟩))
def Z5o.f (a0:Z1):Option Bool:=(Z6h.f a0)>>=fun aa=>some (!aa)
theorem Z5o.ok (a0:Z1):FN 76 [.agg [qi a0.f0,qi a0.f1]] [] 0 (Z5o.f a0) (fun r=>bV r) (fun r=>[]):=FT [] func76 (.rg [(0,⟨.k 0,.n⟩)]<|.bd fun aa ab=>.rg [(1,qh call40 (Z6h.ok a0 aa ab))]<|.ret [] [] [] ⟨[(2,bV (!aa))],[],0⟩)
def Z0j.l0 (a0:List Z1) (aa:Int):Option (Int ⊕ Unit):=if(decide (aa<(a0.length:Int)))=true then((at? a0 aa)>>=fun ab=>(Z5o.f ab)>>=fun ac=>if ac=true then(some (.inl aa)) else(Z0j.l0 a0 (i64.wrap (aa+1)))) else(some (.inr ()))
partial_fixpoint
def Z0j.f (a0:List Z1):Option Int:=(Z0j.l0 a0 0)>>=fun oo=>match oo with | .inl rr=>(some rr) | .inr _=>(some (-1))
theorem Z0j.ok (a0:List Z1):FN 110 [.own 0,.im (qf 76)] [q2 0 a0] 1 (Z0j.f a0) (fun r=>qi r) (fun r=>[q2 0 a0]):=FT [0] func110 (.r0<|.rg [(1,hG Z0 a0)]<|.bl<|.loop (.one (Z0j.l0.partial_correctness a0)) 0 [(0,0)] [] [] (fun _=>.one (fun aa=>⟨[(0,.own 0),(1,.im (qf 76)),(7,qi (a0.length:Int)),(8,qi aa)],[q2 0 a0],1⟩) fun aa=>.r0<|.cd (fun ab=>.bl<|.r0<|.el fun ac ad ae=>.bd fun af ah=>.rg [(3,hX Z0 ad ae),(4,hL Z0 ae),(5,qh call76 (Z5o.ok ac af ah))]<|.cd (fun ai=>.r0<|.ret [(0,0)] [] [] ⟨[(4,qi aa)],[q2 0 a0],1⟩)
 (fun ai=>.r0<|.bk [(0,0)] rfl))
 (fun ab=>.o [(0,0)]))
 (.sm (.rt (fun rr=>qi rr) (fun rr=>[q2 0 a0]))
 (.st (.exit 0) (fun _=>⟨[],[q2 0 a0],1⟩) fun _=>.r0<|.ret [(0,0)] [] [] ⟨[(4,qi (-1))],[q2 0 a0],1⟩)))
def Z0d.l0 (aa:List Z1) (ab:Int) (ac:Int):Option ((List Z1)×Int):=if(decide (ac<(aa.length:Int)))=true then((at? aa ac)>>=fun ad=>(Z5o.f ad)>>=fun ae=>((if(!ae)=true then((at? aa ab)>>=fun af=>some (aa.set (Int.toNat (ab)) ad,i64.wrap (ab+1))) else(some (aa,ab))):Option ((List Z1)×Int))>>=fun oo=>match oo with | (ah,ai)=>(Z0d.l0  ah ai (i64.wrap (ac+1)))) else(some (aa,ab))
partial_fixpoint
def Z0d.f (a0:List Z1):Option (List Z1):=(Z0j.f a0)>>=fun aa=>if(aa==(-1))=true then(some a0) else((Z0d.l0  a0 aa (i64.wrap (aa+1)))>>=fun oo=>match oo with | (ab,ac)=>((chk (0≤ac∧ac≤(ab.length:Int)))>>=fun _=>(chk (0≤ac∧ac≤((ab.take (Int.toNat ac)++List.replicate (ab.length-(Int.toNat ac)) (⟨0,0⟩:Z1)).length:Int)))>>=fun _=>some ((ab.take (Int.toNat ac)++List.replicate (ab.length-(Int.toNat ac)) (⟨0,0⟩:Z1)).take (Int.toNat (ac)))))
theorem Z0d.ok (a0:List Z1):FN 74 [.own 0,.im (qf 76)] [q2 0 a0] 1 (Z0d.f a0) (fun r=>.own 1) (fun r=>[(0,none),q2 1 r]):=FT [0,1] func74 (.r0<|.bd fun aa ab=>.rg [(2,hC [(0,0)] [(0,0)] [] [] call110 (Z0j.ok a0 aa ab))]<|.r0<|.cd (fun ac=>.r0<|.ret [(0,1)] [] [] ⟨[(4,.own 1)],[q2 1 a0],1⟩)
 (fun ac=>.r0<|.bl<|.loop (.c3 (Z0d.l0.partial_correctness )) (a0,aa,i64.wrap (aa+1)) [(0,0)] [] [] (fun _=>.pr fun ad=>.pr fun ae=>.one (fun af=>⟨[(0,.own 0),(1,.im (qf 76)),(5,qi ae),(6,qi af)],[q2 0 ad],1⟩) fun af=>.rg [(2,hG Z0 ad)]<|.cd (fun ah=>.bl<|.el fun ai aj ak=>.rg [(2,hX Z0 aj ak),(3,hL Z0 ak),(4,⟨.k 2,.n⟩)]<|.bd fun al am=>.rg [(2,qh call76 (Z5o.ok ai al am))]<|.join (.cd (fun ao=>.el fun aq ar au=>.rg [(3,hX Z0 ar au),(4,hS Z0 ai 0 [iI .i64 ai.f0,iI .i64 ai.f1] au)]<|.r0<|.o [(0,0)])
 (fun ao=>.o [(0,0)]))
 (.pr fun av=>.st .normal (fun ax=>⟨[(0,.own 0),(1,.im (qf 76)),(5,qi ax),(6,qi af)],[q2 0 av],1⟩) fun ax=>.r0<|.bk [(0,0)] rfl))
 (fun ah=>.o [(0,0)]))
 (.pr fun az=>.st (.exit 0) (fun a8=>⟨[(0,.own 0),(5,qi a8)],[q2 0 az],1⟩) fun a8=>.ck fun a9=>.rg [(2,⟨.more (xCutOwn (Int.toNat a8) (az.length-(Int.toNat a8))),.c (p:=a8=(((Int.toNat a8):Nat):Int)) ((Int.toNat_of_nonneg a9.1).symm) (.c (p:=(Int.toNat a8)+(az.length-(Int.toNat a8))=(az.map Z0).length) (by have h:=a9;rw[List.length_map];omega) .n)⟩),(3,⟨.more (xClear ((az.take (Int.toNat a8)++List.replicate (az.length-(Int.toNat a8)) (⟨0,0⟩:Z1)).map Z0)),.c (p:=(az.take (Int.toNat a8)++List.replicate (az.length-(Int.toNat a8)) (⟨0,0⟩:Z1)).map Z0=(az.map Z0).take (Int.toNat a8)++List.replicate (az.length-(Int.toNat a8)) [iI .i64 0,iI .i64 0]) (by simp) (.c (p:=(Int.toNat a8)+(az.length-(Int.toNat a8))=(az.map Z0).length) (by have h:=a9;rw[List.length_map];omega) .n)⟩)]<|.ck fun ba=>.rg [(2,⟨.more (xTake 3 (((az.take (Int.toNat a8)++List.replicate (az.length-(Int.toNat a8)) (⟨0,0⟩:Z1)).take (Int.toNat (a8))).map Z0)),.c (ba.1) (.c (p:=a8≤(((az.take (Int.toNat a8)++List.replicate (az.length-(Int.toNat a8)) (⟨0,0⟩:Z1)).map Z0).length:Int)) (by simpa using ba.2) (.c (p:=((az.take (Int.toNat a8)++List.replicate (az.length-(Int.toNat a8)) (⟨0,0⟩:Z1)).take (Int.toNat (a8))).map Z0=((az.take (Int.toNat a8)++List.replicate (az.length-(Int.toNat a8)) (⟨0,0⟩:Z1)).map Z0).take (Int.toNat (a8))) (by simp) .n))⟩)]<|.ret [(3,1)] [] [] ⟨[(4,.own 1)],[q2 1 ((az.take (Int.toNat a8)++List.replicate (az.length-(Int.toNat a8)) (⟨0,0⟩:Z1)).take (Int.toNat (a8)))],1⟩)))
def Z8j.f (a0:Int):Option Int:=((if(decide (a0≥4294967296))=true then(some (Int.fdiv a0 4294967296,32)) else(some (a0,0))):Option (Int×Int))>>=fun oo=>match oo with | (aa,ab)=>(((if(decide (aa≥65536))=true then(some (Int.fdiv aa 65536,i64.wrap (ab+16))) else(some (aa,ab))):Option (Int×Int))>>=fun oo=>match oo with | (ac,ad)=>(((if(decide (ac≥256))=true then(some (Int.fdiv ac 256,i64.wrap (ad+8))) else(some (ac,ad))):Option (Int×Int))>>=fun oo=>match oo with | (ae,af)=>((chk (0≤(u8.wrap (ae))∧(u8.wrap (ae))<((⟨#[0,1,2,2,3,3,3,3,4,4,4,4,4,4,4,4,5,5,5,5,5,5,5,5,5,5,5,5,5,5,5,5,6,6,6,6,6,6,6,6,6,6,6,6,6,6,6,6,6,6,6,6,6,6,6,6,6,6,6,6,6,6,6,6,7,7,7,7,7,7,7,7,7,7,7,7,7,7,7,7,7,7,7,7,7,7,7,7,7,7,7,7,7,7,7,7,7,7,7,7,7,7,7,7,7,7,7,7,7,7,7,7,7,7,7,7,7,7,7,7,7,7,7,7,7,7,7,7,8,8,8,8,8,8,8,8,8,8,8,8,8,8,8,8,8,8,8,8,8,8,8,8,8,8,8,8,8,8,8,8,8,8,8,8,8,8,8,8,8,8,8,8,8,8,8,8,8,8,8,8,8,8,8,8,8,8,8,8,8,8,8,8,8,8,8,8,8,8,8,8,8,8,8,8,8,8,8,8,8,8,8,8,8,8,8,8,8,8,8,8,8,8,8,8,8,8,8,8,8,8,8,8,8,8,8,8,8,8,8,8,8,8,8,8,8,8,8,8,8,8,8,8,8,8,8,8]⟩:ByteArray).size:Int)))>>=fun _=>some (i64.wrap (af+(i64.wrap (bt (⟨#[0,1,2,2,3,3,3,3,4,4,4,4,4,4,4,4,5,5,5,5,5,5,5,5,5,5,5,5,5,5,5,5,6,6,6,6,6,6,6,6,6,6,6,6,6,6,6,6,6,6,6,6,6,6,6,6,6,6,6,6,6,6,6,6,7,7,7,7,7,7,7,7,7,7,7,7,7,7,7,7,7,7,7,7,7,7,7,7,7,7,7,7,7,7,7,7,7,7,7,7,7,7,7,7,7,7,7,7,7,7,7,7,7,7,7,7,7,7,7,7,7,7,7,7,7,7,7,7,8,8,8,8,8,8,8,8,8,8,8,8,8,8,8,8,8,8,8,8,8,8,8,8,8,8,8,8,8,8,8,8,8,8,8,8,8,8,8,8,8,8,8,8,8,8,8,8,8,8,8,8,8,8,8,8,8,8,8,8,8,8,8,8,8,8,8,8,8,8,8,8,8,8,8,8,8,8,8,8,8,8,8,8,8,8,8,8,8,8,8,8,8,8,8,8,8,8,8,8,8,8,8,8,8,8,8,8,8,8,8,8,8,8,8,8,8,8,8,8,8,8,8,8,8,8,8,8]⟩:ByteArray) (u8.wrap (ae)))))))))
theorem Z8j.ok (a0:Int):FN 147 [qu a0] [] 0 (Z8j.f a0) (fun r=>qi r) (fun r=>[]):=FT [] func147 (.r0<|.r0<|.join (.cd (fun aa=>.rg [(1,hK 32)]<|.r0<|.o [])
 (fun aa=>.o []))
 (.pr fun ab=>.st .normal (fun ac=>⟨[(0,qu ab),(2,qi ac)],[],0⟩) fun ac=>.r0<|.join (.cd (fun ad=>.rg [(1,hK 16)]<|.r0<|.o [])
 (fun ad=>.o []))
 (.pr fun ae=>.st .normal (fun af=>⟨[(0,qu ae),(2,qi af)],[],0⟩) fun af=>.r0<|.join (.cd (fun ah=>.rg [(1,hK 8)]<|.r0<|.o [])
 (fun ah=>.o []))
 (.pr fun ai=>.st .normal (fun aj=>⟨[(0,qu ai),(2,qi aj)],[],0⟩) fun aj=>.ck fun ak=>.rg [(3,hN (p2 ak))]<|.ret [] [] [] ⟨[(2,qi (i64.wrap (aj+(i64.wrap (bt (⟨#[0,1,2,2,3,3,3,3,4,4,4,4,4,4,4,4,5,5,5,5,5,5,5,5,5,5,5,5,5,5,5,5,6,6,6,6,6,6,6,6,6,6,6,6,6,6,6,6,6,6,6,6,6,6,6,6,6,6,6,6,6,6,6,6,7,7,7,7,7,7,7,7,7,7,7,7,7,7,7,7,7,7,7,7,7,7,7,7,7,7,7,7,7,7,7,7,7,7,7,7,7,7,7,7,7,7,7,7,7,7,7,7,7,7,7,7,7,7,7,7,7,7,7,7,7,7,7,7,8,8,8,8,8,8,8,8,8,8,8,8,8,8,8,8,8,8,8,8,8,8,8,8,8,8,8,8,8,8,8,8,8,8,8,8,8,8,8,8,8,8,8,8,8,8,8,8,8,8,8,8,8,8,8,8,8,8,8,8,8,8,8,8,8,8,8,8,8,8,8,8,8,8,8,8,8,8,8,8,8,8,8,8,8,8,8,8,8,8,8,8,8,8,8,8,8,8,8,8,8,8,8,8,8,8,8,8,8,8,8,8,8,8,8,8,8,8,8,8,8,8,8,8,8,8,8,8]⟩:ByteArray) (u8.wrap (ai)))))))],[],0⟩))))
def Z7z.f (a0:Int):Option Int:=(Z8j.f a0)>>=fun aa=>some aa
theorem Z7z.ok (a0:Int):FN 112 [qu a0] [] 0 (Z7z.f a0) (fun r=>qi r) (fun r=>[]):=FT [] func112 (.r0<|.cl (rfl:false=false)<|.bd fun aa ab=>.rg [(1,qh call147 (Z8j.ok a0 aa ab))]<|.ret [] [] [] ⟨[(2,qi aa)],[],0⟩)
def Z4a.f (a0:Int):Option Unit:=some ()
theorem Z4a.ok (a0:Int):FN 113 [qi a0] [] 0 (Z4a.f a0) (fun r=>bV (a0 != a0)) (fun r=>[]):=FT [] func113 (.r0<|.r0<|.ret [] [] [] ⟨[(2,bV (a0 != a0))],[],0⟩)
def Z2l.f (a0:Int) (a1:Int):Option Int:=(Z4a.f a0)>>=fun aa=>(Z4a.f a1)>>=fun ab=>if(a0 != a0)=true then(if(a1 != a1)=true then(some 0) else(some (-1))) else(if(a1 != a1)=true then(some 1) else(if(decide (a0<a1))=true then(some (-1)) else(if(decide (a0>a1))=true then(some 1) else(some 0))))
theorem Z2l.ok (a0:Int) (a1:Int):FN 80 [qi a0,qi a1] [] 0 (Z2l.f a0 a1) (fun r=>qi r) (fun r=>[]):=FT [] func80 (.r0<|.bd fun aa ab=>.rg [(1,qh call113 (Z4a.ok a0 aa ab))]<|.bd fun ac ad=>.rg [(1,qh call113 (Z4a.ok a1 ac ad))]<|.r0<|.cd (fun ae=>.r0<|.cd (fun af=>.r0<|.ret [] [] [] ⟨[(4,qi 0)],[],0⟩)
 (fun af=>.r0<|.ret [] [] [] ⟨[(4,qi (-1))],[],0⟩))
 (fun ae=>.r0<|.cd (fun ah=>.r0<|.ret [] [] [] ⟨[(4,qi 1)],[],0⟩)
 (fun ah=>.r0<|.cd (fun ai=>.r0<|.ret [] [] [] ⟨[(4,qi (-1))],[],0⟩)
 (fun ai=>.r0<|.cd (fun aj=>.r0<|.ret [] [] [] ⟨[(4,qi 1)],[],0⟩)
 (fun aj=>.r0<|.ret [] [] [] ⟨[(4,qi 0)],[],0⟩)))))
def Z3t.l0 (a0:List Int) (aa:Int):Option (Int ⊕ Unit):=if(decide (aa<(a0.length:Int)))=true then((at? a0 aa)>>=fun ab=>if(ab != 0)=true then(some (.inl ab)) else(Z3t.l0 a0 (i64.wrap (aa+1)))) else(some (.inr ()))
partial_fixpoint
def Z3t.f (a0:List Int):Option Int:=(Z3t.l0 a0 0)>>=fun oo=>match oo with | .inl rr=>(some rr) | .inr _=>(some 0)
theorem Z3t.ok (a0:List Int):FN 79 [.im (.row (a0.map qe))] [] 0 (Z3t.f a0) (fun r=>qi r) (fun r=>[]):=FT [] func79 (.r0<|.r0<|.rg [(1,hG qe a0)]<|.bl<|.loop (.one (Z3t.l0.partial_correctness a0)) 0 [] [] [] (fun _=>.one (fun aa=>⟨[(3,qi 0),(6,.im (.row (a0.map qe))),(7,qi (a0.length:Int)),(8,qi aa)],[],0⟩) fun aa=>.r0<|.cd (fun ab=>.bl<|.el fun ac ad ae=>.rg [(0,hA qe ad ae)]<|.r0<|.cd (fun af=>.r0<|.ret [] [] [] ⟨[(2,qi ac)],[],0⟩)
 (fun af=>.r0<|.bk [] rfl))
 (fun ab=>.o []))
 (.sm (.rt (fun rr=>qi rr) (fun rr=>[]))
 (.st (.exit 0) (fun _=>⟨[(3,qi 0)],[],0⟩) fun _=>.r0<|.ret [] [] [] ⟨[(2,qi 0)],[],0⟩)))
def Z0t.f (a0:Z1) (a1:Z1):Option Int:=(Z2l.f a0.f0 a1.f0)>>=fun aa=>(Z2l.f a0.f1 a1.f1)>>=fun ab=>(Z3t.f [aa,ab])>>=fun ac=>some ac
theorem Z0t.ok (a0:Z1) (a1:Z1):FN 78 [.agg [qi a0.f0,qi a0.f1],.agg [qi a1.f0,qi a1.f1]] [] 0 (Z0t.f a0 a1) (fun r=>qi r) (fun r=>[]):=FT [] func78 (.rg [(0,⟨.k 0,.n⟩),(1,⟨.k 1,.n⟩)]<|.bd fun aa ab=>.bd fun ac ad=>.bd fun ae af=>.rg [(4,qh call80 (Z2l.ok a0.f0 a1.f0 aa ab)),(9,qh call80 (Z2l.ok a0.f1 a1.f1 ac ad)),(10,hQ 2 qe ([aa,ac]:List Int)),(11,hC [] [] [2] [] call79 (Z3t.ok [aa,ac] ae af))]<|.ret [] [] [] ⟨[(4,qi ae)],[],0⟩)
def Zk.l1 (a1:Int) (a2:Int) (aa:Int) (ab:List Z1) (ac:Int):Option (List Z1):=((if(decide (ac>a1))=true then((at? ab ac)>>=fun ad=>(at? ab (i64.wrap (ac-1)))>>=fun ae=>(Z0t.f ad ae)>>=fun af=>some (decide (af<0))) else(some false)):Option Bool)>>=fun ah=>if ah=true then((at? ab (i64.wrap (ac-1)))>>=fun ai=>(at? ab ac)>>=fun aj=>(at? (ab.set (Int.toNat (ac)) ai) (i64.wrap (ac-1)))>>=fun ak=>Zk.l1 a1 a2 aa ((ab.set (Int.toNat (ac)) ai).set (Int.toNat (i64.wrap (ac-1))) aj) (i64.wrap (ac-1))) else(some ab)
partial_fixpoint
def Zk.l0 (a1:Int) (a2:Int) (aa:List Z1) (ab:Int):Option (List Z1):=if(decide (ab<a2))=true then((Zk.l1 a1 a2 ab aa ab)>>=fun ac=>Zk.l0 a1 a2 ac (i64.wrap (ab+1))) else(some aa)
partial_fixpoint
def Zk.f (a0:List Z1) (a1:Int) (a2:Int):Option (List Z1):=(Zk.l0 a1 a2 a0 (i64.wrap (a1+1)))>>=fun aa=>some aa
theorem Zk.ok (a0:List Z1) (a1:Int) (a2:Int):FN 138 [.own 0,qi a1,qi a2,.im (qf 78)] [q2 0 a0] 1 (Zk.f a0 a1 a2) (fun r=>.tup []) (fun r=>[q2 0 r]):=FT [0] func138 (.r0<|.bl<|.loop (.c2 (Zk.l0.partial_correctness a1 a2)) (a0,i64.wrap (a1+1)) [(0,0)] [] [] (fun _=>.pr fun aa=>.one (fun ab=>⟨[(0,.own 0),(1,qi a1),(2,qi a2),(3,.im (qf 78)),(8,qi ab)],[q2 0 aa],1⟩) fun ab=>.r0<|.cd (fun ac=>.bl<|.r0<|.bl<|.loop (.c2 (Zk.l1.partial_correctness a1 a2 ab)) (aa,ab) [(0,0)] [] [] (fun _=>.pr fun ad=>.one (fun ae=>⟨[(0,.own 0),(1,qi a1),(2,qi a2),(3,.im (qf 78)),(8,qi ab),(9,qi ae)],[q2 0 ad],1⟩) fun ae=>.join (.sp (fun af=>.el fun ah ai aj=>.el fun ak al am=>.bd fun ao aq=>.rg [(3,hB af),(7,hX Z0 ai aj),(8,hL Z0 aj),(12,hX Z0 al am),(13,hL Z0 am),(14,qh call78 (Z0t.ok ah ak ao aq))]<|.o [(0,0)])
 (fun af=>.rg [(3,hB af)]<|.o [(0,0)]))
 (.st .normal (fun ar=>⟨[(0,.own 0),(1,qi a1),(2,qi a2),(3,.im (qf 78)),(8,qi ab),(9,qi ae),(34,bV ar)],[q2 0 ad],1⟩) fun ar=>.cd (fun au=>.bl<|.el fun av ax az=>.el fun a8 a9 ba=>.el fun bb bc be=>.rg [(8,hX Z0 ax az),(9,hL Z0 az),(12,hX Z0 a9 ba),(13,hL Z0 ba),(14,hX Z0 a9 ba),(15,hS Z0 av 0 [iI .i64 av.f0,iI .i64 av.f1] ba),(16,hX Z0 bc be),(17,hS Z0 a8 0 [iI .i64 a8.f0,iI .i64 a8.f1] be)]<|.r0<|.bk [(0,0)] rfl)
 (fun au=>.o [(0,0)])))
 (.st (.exit 2) (fun bf=>⟨[(0,.own 0),(1,qi a1),(2,qi a2),(3,.im (qf 78)),(8,qi ab)],[q2 0 bf],1⟩) fun bf=>.r0<|.bk [(0,0)] rfl))
 (fun ac=>.o [(0,0)]))
 (.st (.exit 0) (fun bg=>⟨[],[q2 0 bg],1⟩) fun bg=>.ret [(0,0)] [] [] ⟨[],[q2 0 bg],1⟩))
def Zv.l0 (a2:Int) (a3:Int) (aa:List Z1) (ab:Int):Option ((List Z1) ⊕ (List Z1)):=if(decide ((i64.wrap ((i64.wrap ((2:Int)*ab))+1))≥a2))=true then(some (.inr aa)) else(((if(decide ((i64.wrap ((i64.wrap ((i64.wrap ((2:Int)*ab))+1))+1))<a2))=true then((at? aa (i64.wrap (a3+(i64.wrap ((i64.wrap ((2:Int)*ab))+1)))))>>=fun ac=>(at? aa (i64.wrap ((i64.wrap (a3+(i64.wrap ((i64.wrap ((2:Int)*ab))+1))))+1)))>>=fun ad=>(Z0t.f ac ad)>>=fun ae=>some (decide (ae<0))) else(some false)):Option Bool)>>=fun af=>((if af=true then(some (i64.wrap ((i64.wrap ((i64.wrap ((2:Int)*ab))+1))+1))) else(some (i64.wrap ((i64.wrap ((2:Int)*ab))+1)))):Option Int)>>=fun ah=>(at? aa (i64.wrap (a3+ab)))>>=fun ai=>(at? aa (i64.wrap (a3+ah)))>>=fun aj=>(Z0t.f ai aj)>>=fun ak=>if(!(decide (ak<0)))=true then(some (.inl aa)) else((at? (aa.set (Int.toNat (i64.wrap (a3+ab))) aj) (i64.wrap (a3+ah)))>>=fun al=>Zv.l0 a2 a3 ((aa.set (Int.toNat (i64.wrap (a3+ab))) aj).set (Int.toNat (i64.wrap (a3+ah))) ai) ah))
partial_fixpoint
def Zv.f (a0:List Z1) (a1:Int) (a2:Int) (a3:Int):Option (List Z1):=(Zv.l0 a2 a3 a0 a1)>>=fun oo=>match oo with | .inl rr=>(some rr) | .inr aa=>(some aa)
theorem Zv.ok (a0:List Z1) (a1:Int) (a2:Int) (a3:Int):FN 166 [.own 0,qi a1,qi a2,qi a3,.im (qf 78)] [q2 0 a0] 1 (Zv.f a0 a1 a2 a3) (fun r=>.tup []) (fun r=>[q2 0 r]):=FT [0] func166 (.r0<|.bl<|.loop (.c2 (Zv.l0.partial_correctness a2 a3)) (a0,a1) [(0,0)] [] [] (fun _=>.pr fun aa=>.one (fun ab=>⟨[(0,.own 0),(2,qi a2),(3,qi a3),(4,.im (qf 78)),(10,qi ab)],[q2 0 aa],1⟩) fun ab=>.bl<|.r0<|.r0<|.cd (fun ac=>.o [(0,0)])
 (fun ac=>.join (.sp (fun ad=>.el fun ae af ah=>.el fun ai aj ak=>.bd fun al am=>.rg [(4,hB ad),(10,hX Z0 af ah),(11,hL Z0 ah),(17,hX Z0 aj ak),(18,hL Z0 ak),(19,qh call78 (Z0t.ok ae ai al am))]<|.o [(0,0)])
 (fun ad=>.rg [(4,hB ad)]<|.o [(0,0)]))
 (.st .normal (fun ao=>⟨[(0,.own 0),(2,qi a2),(3,qi a3),(4,.im (qf 78)),(10,qi ab),(11,qi (i64.wrap ((i64.wrap ((2:Int)*ab))+1))),(40,bV ao)],[q2 0 aa],1⟩) fun ao=>.join (.cd (fun aq=>.r0<|.o [(0,0)])
 (fun aq=>.o [(0,0)]))
 (.st .normal (fun ar=>⟨[(0,.own 0),(2,qi a2),(3,qi a3),(4,.im (qf 78)),(10,qi ab),(11,qi ar)],[q2 0 aa],1⟩) fun ar=>.el fun au av ax=>.el fun az a8 a9=>.bd fun ba bb=>.rg [(5,hX Z0 av ax),(6,hL Z0 ax),(11,hX Z0 a8 a9),(12,hL Z0 a9),(13,qh call78 (Z0t.ok au az ba bb))]<|.cd (fun bc=>.ret [(0,0)] [] [] ⟨[],[q2 0 aa],1⟩)
 (fun bc=>.el fun be bf bg=>.rg [(12,hX Z0 a8 a9),(13,hL Z0 a9),(18,hX Z0 av ax),(19,hL Z0 ax),(20,hX Z0 av ax),(21,hS Z0 az 0 [iI .i64 az.f0,iI .i64 az.f1] ax),(22,hX Z0 bf bg),(23,hS Z0 au 0 [iI .i64 au.f0,iI .i64 au.f1] bg)]<|.r0<|.bk [(0,0)] rfl)))))
 (.sm (.rt (fun rr=>.tup []) (fun rr=>[q2 0 rr]))
 (.st (.exit 0) (fun bh=>⟨[],[q2 0 bh],1⟩) fun bh=>.ret [(0,0)] [] [] ⟨[],[q2 0 bh],1⟩)))
def Zn.l0 (a1:Int) (a2:Int) (aa:List Z1) (ab:Int):Option (List Z1):=if(decide (ab≥0))=true then((Zv.f aa ab (i64.wrap (a2-a1)) a1)>>=fun ac=>Zn.l0 a1 a2 ac (i64.wrap (ab-1))) else(some aa)
partial_fixpoint
def Zn.l1 (a1:Int) (aa:List Z1) (ab:Int):Option (List Z1):=if(decide (ab≥0))=true then((at? aa (i64.wrap (a1+ab)))>>=fun ac=>(at? aa a1)>>=fun ad=>(at? (aa.set (Int.toNat (a1)) ac) (i64.wrap (a1+ab)))>>=fun ae=>(Zv.f ((aa.set (Int.toNat (a1)) ac).set (Int.toNat (i64.wrap (a1+ab))) ad) 0 ab a1)>>=fun af=>Zn.l1 a1 af (i64.wrap (ab-1))) else(some aa)
partial_fixpoint
def Zn.f (a0:List Z1) (a1:Int) (a2:Int):Option (List Z1):=(Zn.l0 a1 a2 a0 (i64.wrap (Int.tdiv (i64.wrap ((i64.wrap (a2-a1))-1)) (2:Int))))>>=fun aa=>(Zn.l1 a1 aa (i64.wrap ((i64.wrap (a2-a1))-1)))>>=fun ab=>some ab
theorem Zn.ok (a0:List Z1) (a1:Int) (a2:Int):FN 139 [.own 0,qi a1,qi a2,.im (qf 78)] [q2 0 a0] 1 (Zn.f a0 a1 a2) (fun r=>.tup []) (fun r=>[q2 0 r]):=FT [0] func139 (.r0<|.r0<|.r0<|.rg [(2,hJ 2)]<|.bl<|.loop (.c2 (Zn.l0.partial_correctness a1 a2)) (a0,i64.wrap (Int.tdiv (i64.wrap ((i64.wrap (a2-a1))-1)) (2:Int))) [(0,0)] [] [] (fun _=>.pr fun aa=>.one (fun ab=>⟨[(0,.own 0),(3,.im (qf 78)),(8,qi a1),(9,qi 0),(10,qi (i64.wrap (a2-a1))),(11,qi ab)],[q2 0 aa],1⟩) fun ab=>.r0<|.cd (fun ac=>.bl<|.bd fun ad ae=>.rg [(5,hC [(0,0)] [(0,0)] [] [] call166 (Zv.ok aa ab (i64.wrap (a2-a1)) a1 ad ae))]<|.r0<|.bk [(0,0)] rfl)
 (fun ac=>.o [(0,0)]))
 (.st (.exit 0) (fun af=>⟨[(0,.own 0),(3,.im (qf 78)),(8,qi a1),(9,qi 0),(10,qi (i64.wrap (a2-a1)))],[q2 0 af],1⟩) fun af=>.r0<|.bl<|.loop (.c2 (Zn.l1.partial_correctness a1)) (af,i64.wrap ((i64.wrap (a2-a1))-1)) [(0,0)] [] [] (fun _=>.pr fun ah=>.one (fun ai=>⟨[(0,.own 0),(3,.im (qf 78)),(8,qi a1),(9,qi 0),(12,qi ai)],[q2 0 ah],1⟩) fun ai=>.r0<|.cd (fun aj=>.bl<|.el fun ak al am=>.el fun ao aq ar=>.el fun au av ax=>.rg [(10,hX Z0 al am),(11,hL Z0 am),(14,hX Z0 aq ar),(15,hL Z0 ar),(16,hX Z0 aq ar),(17,hS Z0 ak 0 [iI .i64 ak.f0,iI .i64 ak.f1] ar),(18,hX Z0 av ax),(19,hS Z0 ao 0 [iI .i64 ao.f0,iI .i64 ao.f1] ax)]<|.bd fun az a8=>.rg [(5,hC [(0,0)] [(0,0)] [] [] call166 (Zv.ok ((ah.set (Int.toNat (a1)) ak).set (Int.toNat (i64.wrap (a1+ai))) ao) 0 ai a1 az a8))]<|.r0<|.bk [(0,0)] rfl)
 (fun aj=>.o [(0,0)]))
 (.st (.exit 2) (fun a9=>⟨[],[q2 0 a9],1⟩) fun a9=>.ret [(0,0)] [] [] ⟨[],[q2 0 a9],1⟩)))
def Z05.f (a0:List Z1) (a1:Int) (a2:Int) (aa:Int):Option (Int×Int×Int):=(at? a0 a2)>>=fun ab=>(at? a0 a1)>>=fun ac=>(Z0t.f ab ac)>>=fun ad=>if(decide (ad<0))=true then(some (a2,a1,i64.wrap (aa+1))) else(some (a1,a2,aa))
theorem Z05.ok (a0:List Z1) (a1:Int) (a2:Int) (aa:Int):FN 180 [.own 0,qi a1,qi a2,.ptr 1 0 0,.im (qf 78)] [q2 0 a0,(1,some (.box 3 [qi aa]))] 2 (Z05.f a0 a1 a2 aa) (fun r=>.tup [qi r.1,qi r.2.1]) (fun r=>[q2 0 a0,(1,some (.box 3 [qi r.2.2]))]):=FT [0,1] func180 (.r0<|.el fun ab ac ad=>.el fun ae af ah=>.bd fun ai aj=>.rg [(3,hX Z0 ac ad),(4,hL Z0 ad),(7,hX Z0 af ah),(8,hL Z0 ah),(9,qh call78 (Z0t.ok ab ae ai aj))]<|.cd (fun ak=>.r0<|.r0<|.ret [(0,0),(1,1)] [] [] ⟨[(10,qi a2),(11,qi a1)],[q2 0 a0,(1,some (.box 3 [qi (i64.wrap (aa+1))]))],2⟩)
 (fun ak=>.r0<|.ret [(0,0),(1,1)] [] [] ⟨[(10,qi a1),(11,qi a2)],[q2 0 a0,(1,some (.box 3 [qi aa]))],2⟩))
def Z0n.f (a0:List Z1) (a1:Int) (a2:Int) (a3:Int) (aa:Int):Option (Int×Int):=(Z05.f a0 a1 a2 aa)>>=fun ab=>(Z05.f a0 ab.2.1 a3 ab.2.2)>>=fun ac=>(Z05.f a0 ab.1 ac.1 ac.2.2)>>=fun ad=>some (ad.2.1,ad.2.2)
theorem Z0n.ok (a0:List Z1) (a1:Int) (a2:Int) (a3:Int) (aa:Int):FN 170 [.own 0,qi a1,qi a2,qi a3,.ptr 1 0 0,.im (qf 78)] [q2 0 a0,(1,some (.box 3 [qi aa]))] 2 (Z0n.f a0 a1 a2 a3 aa) (fun r=>qi r.1) (fun r=>[q2 0 a0,(1,some (.box 3 [qi r.2]))]):=FT [0,1] func170 (.r0<|.bd fun ab ac=>.rg [(5,hC [(0,0),(1,1)] [(0,0),(1,1)] [] [] call180 (Z05.ok a0 a1 a2 aa ab ac))]<|.bd fun ad ae=>.rg [(5,hC [(0,0),(1,1)] [(0,0),(1,1)] [] [] call180 (Z05.ok a0 ab.2.1 a3 ab.2.2 ad ae))]<|.bd fun af ah=>.rg [(5,hC [(0,0),(1,1)] [(0,0),(1,1)] [] [] call180 (Z05.ok a0 ab.1 ad.1 ad.2.2 af ah))]<|.r0<|.ret [(0,0),(1,1)] [] [] ⟨[(12,qi af.2.1)],[q2 0 a0,(1,some (.box 3 [qi af.2.2]))],2⟩)
def Zu.f (a0:List Z1) (a1:Int) (aa:Int):Option (Int×Int):=(Z0n.f a0 (i64.wrap (a1-1)) a1 (i64.wrap (a1+1)) aa)>>=fun ab=>some (ab.1,ab.2)
theorem Zu.ok (a0:List Z1) (a1:Int) (aa:Int):FN 169 [.own 0,qi a1,.ptr 1 0 0,.im (qf 78)] [q2 0 a0,(1,some (.box 3 [qi aa]))] 2 (Zu.f a0 a1 aa) (fun r=>qi r.1) (fun r=>[q2 0 a0,(1,some (.box 3 [qi r.2]))]):=FT [0,1] func169 (.r0<|.bd fun ab ac=>.rg [(8,hC [(0,0),(1,1)] [(0,0),(1,1)] [] [] call170 (Z0n.ok a0 (i64.wrap (a1-1)) a1 (i64.wrap (a1+1)) aa ab ac))]<|.ret [(0,0),(1,1)] [] [] ⟨[(8,qi ab.1)],[q2 0 a0,(1,some (.box 3 [qi ab.2]))],2⟩)
def Z1j.f (a0:List Z1) (a1:Int) (a2:Int):Option (Int×Int):=((if(decide ((i64.wrap (a2-a1))≥8))=true then(((if(decide ((i64.wrap (a2-a1))≥50))=true then((Zu.f a0 (i64.wrap (a1+(i64.wrap ((i64.wrap (Int.tdiv (i64.wrap (a2-a1)) (4:Int)))*1)))) 0)>>=fun aa=>(Zu.f a0 (i64.wrap (a1+(i64.wrap ((i64.wrap (Int.tdiv (i64.wrap (a2-a1)) (4:Int)))*2)))) aa.2)>>=fun ab=>(Zu.f a0 (i64.wrap (a1+(i64.wrap ((i64.wrap (Int.tdiv (i64.wrap (a2-a1)) (4:Int)))*3)))) ab.2)>>=fun ac=>some (ac.2,aa.1,ab.1,ac.1)) else(some (0,i64.wrap (a1+(i64.wrap ((i64.wrap (Int.tdiv (i64.wrap (a2-a1)) (4:Int)))*1))),i64.wrap (a1+(i64.wrap ((i64.wrap (Int.tdiv (i64.wrap (a2-a1)) (4:Int)))*2))),i64.wrap (a1+(i64.wrap ((i64.wrap (Int.tdiv (i64.wrap (a2-a1)) (4:Int)))*3)))))):Option (Int×Int×Int×Int))>>=fun oo=>match oo with | (ad,ae,af,ah)=>((Z0n.f a0 ae af ah ad)>>=fun ai=>some (ai.2,ai.1))) else(some (0,i64.wrap (a1+(i64.wrap ((i64.wrap (Int.tdiv (i64.wrap (a2-a1)) (4:Int)))*2)))))):Option (Int×Int))>>=fun oo=>match oo with | (aj,ak)=>(if(aj==0)=true then(some (ak,1)) else(if(aj==12)=true then(some (ak,2)) else(some (ak,0))))
theorem Z1j.ok (a0:List Z1) (a1:Int) (a2:Int):FN 141 [.own 0,qi a1,qi a2,.im (qf 78)] [q2 0 a0] 1 (Z1j.f a0 a1 a2) (fun r=>.tup [qi r.1,qi r.2]) (fun r=>[q2 0 a0]):=FT [0] func141 (.r0<|.r0<|.rg [(0,⟨.k 1,.n⟩)]<|.rg [(2,hJ 4)]<|.rg [(2,hJ 4)]<|.rg [(2,hJ 4)]<|.r0<|.join (.cd (fun aa=>.r0<|.join (.cd (fun ab=>.bd fun ac ad=>.rg [(3,hC [(0,0),(1,1)] [(0,0),(1,1)] [] [] call169 (Zu.ok a0 (i64.wrap (a1+(i64.wrap ((i64.wrap (Int.tdiv (i64.wrap (a2-a1)) (4:Int)))*1)))) 0 ac ad))]<|.bd fun ae af=>.rg [(3,hC [(0,0),(1,1)] [(0,0),(1,1)] [] [] call169 (Zu.ok a0 (i64.wrap (a1+(i64.wrap ((i64.wrap (Int.tdiv (i64.wrap (a2-a1)) (4:Int)))*2)))) ac.2 ae af))]<|.bd fun ah ai=>.rg [(3,hC [(0,0),(1,1)] [(0,0),(1,1)] [] [] call169 (Zu.ok a0 (i64.wrap (a1+(i64.wrap ((i64.wrap (Int.tdiv (i64.wrap (a2-a1)) (4:Int)))*3)))) ae.2 ah ai))]<|.o [(0,0),(1,2)])
 (fun ab=>.o [(0,0),(1,2)]))
 (.pr fun aj=>.pr fun ak=>.pr fun al=>.st .normal (fun am=>⟨[(0,.own 0),(3,.im (qf 78)),(11,.ptr 2 0 0),(12,qi ak),(13,qi al),(14,qi am)],[q2 0 a0,(2,some (.box 3 [qi aj]))],1⟩) fun am=>.bd fun ao aq=>.rg [(5,hC [(0,0),(2,1)] [(0,0),(1,2)] [] [] call170 (Z0n.ok a0 ak al am aj ao aq))]<|.o [(2,3),(0,0)]))
 (fun aa=>.o [(1,3),(0,0)]))
 (.pr fun ar=>.st .normal (fun au=>⟨[(11,.ptr 3 0 0),(13,qi au)],[q2 0 a0,(3,some (.box 3 [qi ar]))],1⟩) fun au=>.r0<|.bl<|.r0<|.cd (fun av=>.r0<|.ret [(0,0)] [] [] ⟨[(8,qi au),(9,qi 1)],[q2 0 a0],1⟩)
 (fun av=>.r0<|.cd (fun ax=>.r0<|.ret [(0,0)] [] [] ⟨[(8,qi au),(9,qi 2)],[q2 0 a0],1⟩)
 (fun ax=>.r0<|.ret [(0,0)] [] [] ⟨[(8,qi au),(9,qi 0)],[q2 0 a0],1⟩))))
def Z03.l0 (aa:List Z1) (ab:Int) (ac:Int):Option (List Z1):=if(decide (ab<ac))=true then((at? aa ac)>>=fun ad=>(at? aa ab)>>=fun ae=>(at? (aa.set (Int.toNat (ab)) ad) ac)>>=fun af=>Z03.l0  ((aa.set (Int.toNat (ab)) ad).set (Int.toNat (ac)) ae) (i64.wrap (ab+1)) (i64.wrap (ac-1))) else(some aa)
partial_fixpoint
def Z03.f (a0:List Z1) (a1:Int) (a2:Int):Option (List Z1):=(Z03.l0  a0 a1 (i64.wrap (a2-1)))>>=fun aa=>some aa
theorem Z03.ok (a0:List Z1) (a1:Int) (a2:Int):FN 142 [.own 0,qi a1,qi a2,.im (qf 78)] [q2 0 a0] 1 (Z03.f a0 a1 a2) (fun r=>.tup []) (fun r=>[q2 0 r]):=FT [0] func142 (.r0<|.r0<|.bl<|.loop (.c3 (Z03.l0.partial_correctness )) (a0,a1,i64.wrap (a2-1)) [(0,0)] [] [] (fun _=>.pr fun aa=>.pr fun ab=>.one (fun ac=>⟨[(0,.own 0),(8,qi ab),(9,qi ac)],[q2 0 aa],1⟩) fun ac=>.r0<|.cd (fun ad=>.bl<|.el fun ae af ah=>.el fun ai aj ak=>.el fun al am ao=>.rg [(6,hX Z0 af ah),(7,hL Z0 ah),(10,hX Z0 aj ak),(11,hL Z0 ak),(12,hX Z0 aj ak),(13,hS Z0 ae 0 [iI .i64 ae.f0,iI .i64 ae.f1] ak),(14,hX Z0 am ao),(15,hS Z0 ai 0 [iI .i64 ai.f0,iI .i64 ai.f1] ao)]<|.r0<|.r0<|.bk [(0,0)] rfl)
 (fun ad=>.o [(0,0)]))
 (.st (.exit 0) (fun aq=>⟨[],[q2 0 aq],1⟩) fun aq=>.ret [(0,0)] [] [] ⟨[],[q2 0 aq],1⟩))
def Z8.l1 (a1:Int) (a2:Int) (aa:List Z1) (ab:Int) (ac:Int):Option Int:=((if(decide (ac<a2))=true then((at? aa ac)>>=fun ad=>(at? aa (i64.wrap (ac-1)))>>=fun ae=>(Z0t.f ad ae)>>=fun af=>some (!(decide (af<0)))) else(some false)):Option Bool)>>=fun ah=>if ah=true then(Z8.l1 a1 a2 aa ab (i64.wrap (ac+1))) else(some ac)
partial_fixpoint
def Z8.l2 (a1:Int) (a2:Int) (aa:Int) (ab:Int) (ac:List Z1) (ad:Int):Option (List Z1):=if(decide (ad≥1))=true then((at? ac ad)>>=fun ae=>(at? ac (i64.wrap (ad-1)))>>=fun af=>(Z0t.f ae af)>>=fun ah=>if(!(decide (ah<0)))=true then(some ac) else((at? (ac.set (Int.toNat (ad)) af) (i64.wrap (ad-1)))>>=fun ai=>Z8.l2 a1 a2 aa ab ((ac.set (Int.toNat (ad)) af).set (Int.toNat (i64.wrap (ad-1))) ae) (i64.wrap (ad-1)))) else(some ac)
partial_fixpoint
def Z8.l3 (a1:Int) (a2:Int) (aa:Int) (ab:Int) (ac:List Z1) (ad:Int):Option (List Z1):=if(decide (ad<a2))=true then((at? ac ad)>>=fun ae=>(at? ac (i64.wrap (ad-1)))>>=fun af=>(Z0t.f ae af)>>=fun ah=>if(!(decide (ah<0)))=true then(some ac) else((at? (ac.set (Int.toNat (ad)) af) (i64.wrap (ad-1)))>>=fun ai=>Z8.l3 a1 a2 aa ab ((ac.set (Int.toNat (ad)) af).set (Int.toNat (i64.wrap (ad-1))) ae) (i64.wrap (ad+1)))) else(some ac)
partial_fixpoint
def Z8.l0 (a1:Int) (a2:Int) (aa:List Z1) (ab:Int) (ac:Int):Option ((Bool×(List Z1)) ⊕ (List Z1)):=if(decide (ac<5))=true then((Z8.l1 a1 a2 aa ac ab)>>=fun ad=>if(ad==a2)=true then(some (.inl (true,aa))) else(if(decide ((i64.wrap (a2-a1))<50))=true then(some (.inl (false,aa))) else((at? aa (i64.wrap (ad-1)))>>=fun ae=>(at? aa ad)>>=fun af=>(at? (aa.set (Int.toNat (ad)) ae) (i64.wrap (ad-1)))>>=fun ah=>((if(decide ((i64.wrap (ad-a1))≥2))=true then((Z8.l2 a1 a2 ac ad ((aa.set (Int.toNat (ad)) ae).set (Int.toNat (i64.wrap (ad-1))) af) (i64.wrap (ad-1)))>>=fun ai=>some ai) else(some ((aa.set (Int.toNat (ad)) ae).set (Int.toNat (i64.wrap (ad-1))) af))):Option (List Z1))>>=fun aj=>((if(decide ((i64.wrap (a2-ad))≥2))=true then((Z8.l3 a1 a2 ac ad aj (i64.wrap (ad+1)))>>=fun ak=>some ak) else(some aj)):Option (List Z1))>>=fun al=>Z8.l0 a1 a2 al ad (i64.wrap (ac+1))))) else(some (.inr aa))
partial_fixpoint
def Z8.f (a0:List Z1) (a1:Int) (a2:Int):Option (Bool×(List Z1)):=(Z8.l0 a1 a2 a0 (i64.wrap (a1+1)) 0)>>=fun oo=>match oo with | .inl rr=>(some rr) | .inr aa=>(some (false,aa))
theorem Z8.ok (a0:List Z1) (a1:Int) (a2:Int):FN 143 [.own 0,qi a1,qi a2,.im (qf 78)] [q2 0 a0] 1 (Z8.f a0 a1 a2) (fun r=>bV r.1) (fun r=>[q2 0 r.2]):=FT [0] func143 (.r0<|.r0<|.r0<|.bl<|.loop (.c3 (Z8.l0.partial_correctness a1 a2)) (a0,i64.wrap (a1+1),0) [(0,0)] [] [] (fun _=>.pr fun aa=>.pr fun ab=>.one (fun ac=>⟨[(0,.own 0),(1,qi a1),(2,qi a2),(3,.im (qf 78)),(9,qi ab),(10,qi ac)],[q2 0 aa],1⟩) fun ac=>.r0<|.cd (fun ad=>.bl<|.bl<|.loop (.one (Z8.l1.partial_correctness a1 a2 aa ac)) ab [(0,0)] [] [] (fun _=>.one (fun ae=>⟨[(0,.own 0),(1,qi a1),(2,qi a2),(3,.im (qf 78)),(9,qi ae),(10,qi ac)],[q2 0 aa],1⟩) fun ae=>.join (.sp (fun af=>.el fun ah ai aj=>.el fun ak al am=>.bd fun ao aq=>.rg [(3,hB af),(7,hX Z0 ai aj),(8,hL Z0 aj),(12,hX Z0 al am),(13,hL Z0 am),(14,qh call78 (Z0t.ok ah ak ao aq))]<|.o [(0,0)])
 (fun af=>.rg [(3,hB af)]<|.o [(0,0)]))
 (.st .normal (fun ar=>⟨[(0,.own 0),(1,qi a1),(2,qi a2),(3,.im (qf 78)),(9,qi ae),(10,qi ac),(36,bV ar)],[q2 0 aa],1⟩) fun ar=>.cd (fun au=>.bl<|.r0<|.bk [(0,0)] rfl)
 (fun au=>.o [(0,0)])))
 (.st (.exit 2) (fun av=>⟨[(0,.own 0),(1,qi a1),(2,qi a2),(3,.im (qf 78)),(9,qi av),(10,qi ac)],[q2 0 aa],1⟩) fun av=>.r0<|.cd (fun ax=>.r0<|.ret [(0,0)] [] [] ⟨[(8,bV true)],[q2 0 aa],1⟩)
 (fun ax=>.r0<|.cd (fun az=>.r0<|.ret [(0,0)] [] [] ⟨[(8,bV false)],[q2 0 aa],1⟩)
 (fun az=>.el fun a8 a9 ba=>.el fun bb bc be=>.el fun bf bg bh=>.rg [(8,hX Z0 a9 ba),(9,hL Z0 ba),(12,hX Z0 bc be),(13,hL Z0 be),(14,hX Z0 bc be),(15,hS Z0 a8 0 [iI .i64 a8.f0,iI .i64 a8.f1] be),(16,hX Z0 bg bh),(17,hS Z0 bb 0 [iI .i64 bb.f0,iI .i64 bb.f1] bh)]<|.r0<|.join (.cd (fun bi=>.r0<|.bl<|.loop (.c2 (Z8.l2.partial_correctness a1 a2 ac av)) ((aa.set (Int.toNat (av)) a8).set (Int.toNat (i64.wrap (av-1))) bb,i64.wrap (av-1)) [(0,0)] [] [] (fun _=>.pr fun bj=>.one (fun bn=>⟨[(0,.own 0),(1,qi a1),(2,qi a2),(3,.im (qf 78)),(9,qi av),(10,qi ac),(11,qi bn)],[q2 0 bj],1⟩) fun bn=>.r0<|.cd (fun bo=>.bl<|.el fun bp bq br=>.el fun bu bv bw=>.bd fun bx bz=>.rg [(3,hX Z0 bq br),(4,hL Z0 br),(8,hX Z0 bv bw),(9,hL Z0 bw),(10,qh call78 (Z0t.ok bp bu bx bz))]<|.cd (fun ca=>.o [(0,0)])
 (fun ca=>.el fun cb cc ce=>.rg [(8,hX Z0 bv bw),(9,hL Z0 bw),(12,hX Z0 bq br),(13,hL Z0 br),(14,hX Z0 bq br),(15,hS Z0 bu 0 [iI .i64 bu.f0,iI .i64 bu.f1] br),(16,hX Z0 cc ce),(17,hS Z0 bp 0 [iI .i64 bp.f0,iI .i64 bp.f1] ce)]<|.r0<|.bk [(0,0)] rfl))
 (fun bo=>.o [(0,0)]))
 (.st (.exit 4) (fun cf=>⟨[(0,.own 0),(1,qi a1),(2,qi a2),(3,.im (qf 78)),(9,qi av),(10,qi ac)],[q2 0 cf],1⟩) fun cf=>.o [(0,0)]))
 (fun bi=>.o [(0,0)]))
 (.st .normal (fun cj=>⟨[(0,.own 0),(1,qi a1),(2,qi a2),(3,.im (qf 78)),(9,qi av),(10,qi ac)],[q2 0 cj],1⟩) fun cj=>.r0<|.join (.cd (fun cm=>.r0<|.bl<|.loop (.c2 (Z8.l3.partial_correctness a1 a2 ac av)) (cj,i64.wrap (av+1)) [(0,0)] [] [] (fun _=>.pr fun cn=>.one (fun co=>⟨[(0,.own 0),(1,qi a1),(2,qi a2),(3,.im (qf 78)),(9,qi av),(10,qi ac),(12,qi co)],[q2 0 cn],1⟩) fun co=>.r0<|.cd (fun cr=>.bl<|.el fun ct cw cx=>.el fun cy cz c8=>.bd fun c9 da=>.rg [(3,hX Z0 cw cx),(4,hL Z0 cx),(8,hX Z0 cz c8),(9,hL Z0 c8),(10,qh call78 (Z0t.ok ct cy c9 da))]<|.cd (fun db=>.o [(0,0)])
 (fun db=>.el fun dc dd de=>.rg [(8,hX Z0 cz c8),(9,hL Z0 c8),(12,hX Z0 cw cx),(13,hL Z0 cx),(14,hX Z0 cw cx),(15,hS Z0 cy 0 [iI .i64 cy.f0,iI .i64 cy.f1] cx),(16,hX Z0 dd de),(17,hS Z0 ct 0 [iI .i64 ct.f0,iI .i64 ct.f1] de)]<|.r0<|.bk [(0,0)] rfl))
 (fun cr=>.o [(0,0)]))
 (.st (.exit 6) (fun df=>⟨[(0,.own 0),(1,qi a1),(2,qi a2),(3,.im (qf 78)),(9,qi av),(10,qi ac)],[q2 0 df],1⟩) fun df=>.o [(0,0)]))
 (fun cm=>.o [(0,0)]))
 (.st .normal (fun dg=>⟨[(0,.own 0),(1,qi a1),(2,qi a2),(3,.im (qf 78)),(9,qi av),(10,qi ac)],[q2 0 dg],1⟩) fun dg=>.r0<|.bk [(0,0)] rfl))))))
 (fun ad=>.o [(0,0)]))
 (.sm (.rt (fun rr=>bV rr.1) (fun rr=>[q2 0 rr.2]))
 (.st (.exit 0) (fun dh=>⟨[],[q2 0 dh],1⟩) fun dh=>.r0<|.ret [(0,0)] [] [] ⟨[(8,bV false)],[q2 0 dh],1⟩)))
def Ze.l1 (a1:Int) (aa:List Z1) (ab:Int) (ac:Int):Option Int:=((if(decide (ac≤ab))=true then((at? aa a1)>>=fun ad=>(at? aa ac)>>=fun ae=>(Z0t.f ad ae)>>=fun af=>some (!(decide (af<0)))) else(some false)):Option Bool)>>=fun ah=>if ah=true then(Ze.l1 a1 aa ab (i64.wrap (ac+1))) else(some ac)
partial_fixpoint
def Ze.l2 (a1:Int) (aa:List Z1) (ab:Int) (ac:Int):Option Int:=((if(decide (ab≤ac))=true then((at? aa a1)>>=fun ad=>(at? aa ac)>>=fun ae=>(Z0t.f ad ae)>>=fun af=>some (decide (af<0))) else(some false)):Option Bool)>>=fun ah=>if ah=true then(Ze.l2 a1 aa ab (i64.wrap (ac-1))) else(some ac)
partial_fixpoint
def Ze.l0 (a1:Int) (aa:List Z1) (ab:Int) (ac:Int):Option (Int×(List Z1)):=(Ze.l1 a1 aa ac ab)>>=fun ad=>(Ze.l2 a1 aa ad ac)>>=fun ae=>if(decide (ad>ae))=true then(some (ad,aa)) else((at? aa ae)>>=fun af=>(at? aa ad)>>=fun ah=>(at? (aa.set (Int.toNat (ad)) af) ae)>>=fun ai=>Ze.l0 a1 ((aa.set (Int.toNat (ad)) af).set (Int.toNat (ae)) ah) (i64.wrap (ad+1)) (i64.wrap (ae-1)))
partial_fixpoint
def Ze.f (a0:List Z1) (a1:Int) (a2:Int) (a3:Int):Option (Int×(List Z1)):=(at? a0 a3)>>=fun aa=>(at? a0 a1)>>=fun ab=>(at? (a0.set (Int.toNat (a1)) aa) a3)>>=fun ac=>(Ze.l0 a1 ((a0.set (Int.toNat (a1)) aa).set (Int.toNat (a3)) ab) (i64.wrap (a1+1)) (i64.wrap (a2-1)))>>=fun oo=>match oo with | (ad,ae)=>(some (ad,ae))
theorem Ze.ok (a0:List Z1) (a1:Int) (a2:Int) (a3:Int):FN 144 [.own 0,qi a1,qi a2,qi a3,.im (qf 78)] [q2 0 a0] 1 (Ze.f a0 a1 a2 a3) (fun r=>qi r.1) (fun r=>[q2 0 r.2]):=FT [0] func144 (.r0<|.el fun aa ab ac=>.el fun ad ae af=>.el fun ah ai aj=>.rg [(6,hX Z0 ab ac),(7,hL Z0 ac),(10,hX Z0 ae af),(11,hL Z0 af),(12,hX Z0 ae af),(13,hS Z0 aa 0 [iI .i64 aa.f0,iI .i64 aa.f1] af),(14,hX Z0 ai aj),(15,hS Z0 ad 0 [iI .i64 ad.f0,iI .i64 ad.f1] aj)]<|.r0<|.bl<|.loop (.c3 (Ze.l0.partial_correctness a1)) ((a0.set (Int.toNat (a1)) aa).set (Int.toNat (a3)) ad,i64.wrap (a1+1),i64.wrap (a2-1)) [(0,0)] [] [] (fun _=>.pr fun ak=>.pr fun al=>.one (fun am=>⟨[(0,.own 0),(1,qi a1),(4,.im (qf 78)),(11,qi al),(12,qi am)],[q2 0 ak],1⟩) fun am=>.bl<|.bl<|.loop (.one (Ze.l1.partial_correctness a1 ak am)) al [(0,0)] [] [] (fun _=>.one (fun ao=>⟨[(0,.own 0),(1,qi a1),(4,.im (qf 78)),(11,qi ao),(12,qi am)],[q2 0 ak],1⟩) fun ao=>.join (.sp (fun aq=>.el fun ar au av=>.el fun ax az a8=>.bd fun a9 ba=>.rg [(3,hB aq),(7,hX Z0 au av),(8,hL Z0 av),(11,hX Z0 az a8),(12,hL Z0 a8),(13,qh call78 (Z0t.ok ar ax a9 ba))]<|.o [(0,0)])
 (fun aq=>.rg [(3,hB aq)]<|.o [(0,0)]))
 (.st .normal (fun bb=>⟨[(0,.own 0),(1,qi a1),(4,.im (qf 78)),(11,qi ao),(12,qi am),(47,bV bb)],[q2 0 ak],1⟩) fun bb=>.cd (fun bc=>.bl<|.r0<|.bk [(0,0)] rfl)
 (fun bc=>.o [(0,0)])))
 (.st (.exit 2) (fun be=>⟨[(0,.own 0),(1,qi a1),(4,.im (qf 78)),(11,qi be),(12,qi am)],[q2 0 ak],1⟩) fun be=>.bl<|.loop (.one (Ze.l2.partial_correctness a1 ak be)) am [(0,0)] [] [] (fun _=>.one (fun bf=>⟨[(0,.own 0),(1,qi a1),(4,.im (qf 78)),(11,qi be),(12,qi bf)],[q2 0 ak],1⟩) fun bf=>.join (.sp (fun bg=>.el fun bh bi bj=>.el fun bn bo bp=>.bd fun bq br=>.rg [(3,hB bg),(7,hX Z0 bi bj),(8,hL Z0 bj),(11,hX Z0 bo bp),(12,hL Z0 bp),(13,qh call78 (Z0t.ok bh bn bq br))]<|.o [(0,0)])
 (fun bg=>.rg [(3,hB bg)]<|.o [(0,0)]))
 (.st .normal (fun bu=>⟨[(0,.own 0),(1,qi a1),(4,.im (qf 78)),(11,qi be),(12,qi bf),(65,bV bu)],[q2 0 ak],1⟩) fun bu=>.cd (fun bv=>.bl<|.r0<|.bk [(0,0)] rfl)
 (fun bv=>.o [(0,0)])))
 (.st (.exit 4) (fun bw=>⟨[(0,.own 0),(1,qi a1),(4,.im (qf 78)),(11,qi be),(12,qi bw)],[q2 0 ak],1⟩) fun bw=>.r0<|.cd (fun bx=>.o [(0,0)])
 (fun bx=>.el fun bz ca cb=>.el fun cc ce cf=>.el fun cj cm cn=>.rg [(6,hX Z0 ca cb),(7,hL Z0 cb),(10,hX Z0 ce cf),(11,hL Z0 cf),(12,hX Z0 ce cf),(13,hS Z0 bz 0 [iI .i64 bz.f0,iI .i64 bz.f1] cf),(14,hX Z0 cm cn),(15,hS Z0 cc 0 [iI .i64 cc.f0,iI .i64 cc.f1] cn)]<|.r0<|.r0<|.bk [(0,0)] rfl))))
 (.pr fun co=>.st (.exit 0) (fun cr=>⟨[(11,qi co)],[q2 0 cr],1⟩) fun cr=>.r0<|.ret [(0,0)] [] [] ⟨[(10,qi co)],[q2 0 cr],1⟩))
def Z9.l0 (a0:List Z1) (a1:Int) (a2:Int) (a3:Int) (aa:Z1) (ab:Z1) (ac:Int):Option Int:=((if(decide (ac≤(i64.wrap (a2-1))))=true then((at? ((a0.set (Int.toNat (a1)) aa).set (Int.toNat (a3)) ab) ac)>>=fun ad=>(at? ((a0.set (Int.toNat (a1)) aa).set (Int.toNat (a3)) ab) a1)>>=fun ae=>(Z0t.f ad ae)>>=fun af=>some (decide (af<0))) else(some false)):Option Bool)>>=fun ah=>if ah=true then(Z9.l0 a0 a1 a2 a3 aa ab (i64.wrap (ac+1))) else(some ac)
partial_fixpoint
def Z9.l1 (a0:List Z1) (a1:Int) (a3:Int) (aa:Z1) (ab:Z1) (ac:Int) (ad:Int):Option Int:=((if(decide (ac≤ad))=true then((at? ((a0.set (Int.toNat (a1)) aa).set (Int.toNat (a3)) ab) ad)>>=fun ae=>(at? ((a0.set (Int.toNat (a1)) aa).set (Int.toNat (a3)) ab) a1)>>=fun af=>(Z0t.f ae af)>>=fun ah=>some (!(decide (ah<0)))) else(some false)):Option Bool)>>=fun ai=>if ai=true then(Z9.l1 a0 a1 a3 aa ab ac (i64.wrap (ad-1))) else(some ad)
partial_fixpoint
def Z9.l3 (a1:Int) (aa:List Z1) (ab:Int) (ac:Int):Option Int:=((if(decide (ac≤ab))=true then((at? aa ac)>>=fun ad=>(at? aa a1)>>=fun ae=>(Z0t.f ad ae)>>=fun af=>some (decide (af<0))) else(some false)):Option Bool)>>=fun ah=>if ah=true then(Z9.l3 a1 aa ab (i64.wrap (ac+1))) else(some ac)
partial_fixpoint
def Z9.l4 (a1:Int) (aa:List Z1) (ab:Int) (ac:Int):Option Int:=((if(decide (ab≤ac))=true then((at? aa ac)>>=fun ad=>(at? aa a1)>>=fun ae=>(Z0t.f ad ae)>>=fun af=>some (!(decide (af<0)))) else(some false)):Option Bool)>>=fun ah=>if ah=true then(Z9.l4 a1 aa ab (i64.wrap (ac-1))) else(some ac)
partial_fixpoint
def Z9.l2 (a1:Int) (aa:List Z1) (ab:Int) (ac:Int):Option ((List Z1)×Int):=(Z9.l3 a1 aa ac ab)>>=fun ad=>(Z9.l4 a1 aa ad ac)>>=fun ae=>if(decide (ad>ae))=true then(some (aa,ae)) else((at? aa ae)>>=fun af=>(at? aa ad)>>=fun ah=>(at? (aa.set (Int.toNat (ad)) af) ae)>>=fun ai=>Z9.l2 a1 ((aa.set (Int.toNat (ad)) af).set (Int.toNat (ae)) ah) (i64.wrap (ad+1)) (i64.wrap (ae-1)))
partial_fixpoint
def Z9.f (a0:List Z1) (a1:Int) (a2:Int) (a3:Int):Option (Int×Bool×(List Z1)):=(at? a0 a3)>>=fun aa=>(at? a0 a1)>>=fun ab=>(at? (a0.set (Int.toNat (a1)) aa) a3)>>=fun ac=>(Z9.l0 a0 a1 a2 a3 aa ab (i64.wrap (a1+1)))>>=fun ad=>(Z9.l1 a0 a1 a3 aa ab ad (i64.wrap (a2-1)))>>=fun ae=>if(decide (ad>ae))=true then((at? ((a0.set (Int.toNat (a1)) aa).set (Int.toNat (a3)) ab) a1)>>=fun af=>(at? ((a0.set (Int.toNat (a1)) aa).set (Int.toNat (a3)) ab) ae)>>=fun ah=>(at? (((a0.set (Int.toNat (a1)) aa).set (Int.toNat (a3)) ab).set (Int.toNat (ae)) af) a1)>>=fun ai=>some (ae,true,(((a0.set (Int.toNat (a1)) aa).set (Int.toNat (a3)) ab).set (Int.toNat (ae)) af).set (Int.toNat (a1)) ah)) else((at? ((a0.set (Int.toNat (a1)) aa).set (Int.toNat (a3)) ab) ae)>>=fun aj=>(at? ((a0.set (Int.toNat (a1)) aa).set (Int.toNat (a3)) ab) ad)>>=fun ak=>(at? (((a0.set (Int.toNat (a1)) aa).set (Int.toNat (a3)) ab).set (Int.toNat (ad)) aj) ae)>>=fun al=>(Z9.l2 a1 ((((a0.set (Int.toNat (a1)) aa).set (Int.toNat (a3)) ab).set (Int.toNat (ad)) aj).set (Int.toNat (ae)) ak) (i64.wrap (ad+1)) (i64.wrap (ae-1)))>>=fun oo=>match oo with | (am,ao)=>((at? am a1)>>=fun aq=>(at? am ao)>>=fun ar=>(at? (am.set (Int.toNat (ao)) aq) a1)>>=fun au=>some (ao,false,(am.set (Int.toNat (ao)) aq).set (Int.toNat (a1)) ar)))
theorem Z9.ok (a0:List Z1) (a1:Int) (a2:Int) (a3:Int):FN 145 [.own 0,qi a1,qi a2,qi a3,.im (qf 78)] [q2 0 a0] 1 (Z9.f a0 a1 a2 a3) (fun r=>.tup [qi r.1,bV r.2.1]) (fun r=>[q2 0 r.2.2]):=FT [0] func145 (.r0<|.el fun aa ab ac=>.el fun ad ae af=>.el fun ah ai aj=>.rg [(6,hX Z0 ab ac),(7,hL Z0 ac),(10,hX Z0 ae af),(11,hL Z0 af),(12,hX Z0 ae af),(13,hS Z0 aa 0 [iI .i64 aa.f0,iI .i64 aa.f1] af),(14,hX Z0 ai aj),(15,hS Z0 ad 0 [iI .i64 ad.f0,iI .i64 ad.f1] aj)]<|.r0<|.bl<|.loop (.one (Z9.l0.partial_correctness a0 a1 a2 a3 aa ad)) (i64.wrap (a1+1)) [(0,0)] [] [] (fun _=>.one (fun ak=>⟨[(0,.own 0),(1,qi a1),(4,.im (qf 78)),(12,qi ak),(13,qi (i64.wrap (a2-1)))],[q2 0 ((a0.set (Int.toNat (a1)) aa).set (Int.toNat (a3)) ad)],1⟩) fun ak=>.join (.sp (fun al=>.el fun am ao aq=>.el fun ar au av=>.bd fun ax az=>.rg [(3,hB al),(7,hX Z0 ao aq),(8,hL Z0 aq),(11,hX Z0 au av),(12,hL Z0 av),(13,qh call78 (Z0t.ok am ar ax az))]<|.o [(0,0)])
 (fun al=>.rg [(3,hB al)]<|.o [(0,0)]))
 (.st .normal (fun a8=>⟨[(0,.own 0),(1,qi a1),(4,.im (qf 78)),(12,qi ak),(13,qi (i64.wrap (a2-1))),(47,bV a8)],[q2 0 ((a0.set (Int.toNat (a1)) aa).set (Int.toNat (a3)) ad)],1⟩) fun a8=>.cd (fun a9=>.bl<|.r0<|.bk [(0,0)] rfl)
 (fun a9=>.o [(0,0)])))
 (.st (.exit 0) (fun ba=>⟨[(0,.own 0),(1,qi a1),(4,.im (qf 78)),(12,qi ba),(13,qi (i64.wrap (a2-1)))],[q2 0 ((a0.set (Int.toNat (a1)) aa).set (Int.toNat (a3)) ad)],1⟩) fun ba=>.bl<|.loop (.one (Z9.l1.partial_correctness a0 a1 a3 aa ad ba)) (i64.wrap (a2-1)) [(0,0)] [] [] (fun _=>.one (fun bb=>⟨[(0,.own 0),(1,qi a1),(4,.im (qf 78)),(12,qi ba),(13,qi bb)],[q2 0 ((a0.set (Int.toNat (a1)) aa).set (Int.toNat (a3)) ad)],1⟩) fun bb=>.join (.sp (fun bc=>.el fun be bf bg=>.el fun bh bi bj=>.bd fun bn bo=>.rg [(3,hB bc),(7,hX Z0 bf bg),(8,hL Z0 bg),(11,hX Z0 bi bj),(12,hL Z0 bj),(13,qh call78 (Z0t.ok be bh bn bo))]<|.o [(0,0)])
 (fun bc=>.rg [(3,hB bc)]<|.o [(0,0)]))
 (.st .normal (fun bp=>⟨[(0,.own 0),(1,qi a1),(4,.im (qf 78)),(12,qi ba),(13,qi bb),(66,bV bp)],[q2 0 ((a0.set (Int.toNat (a1)) aa).set (Int.toNat (a3)) ad)],1⟩) fun bp=>.cd (fun bq=>.bl<|.r0<|.bk [(0,0)] rfl)
 (fun bq=>.o [(0,0)])))
 (.st (.exit 2) (fun br=>⟨[(0,.own 0),(1,qi a1),(4,.im (qf 78)),(12,qi ba),(13,qi br)],[q2 0 ((a0.set (Int.toNat (a1)) aa).set (Int.toNat (a3)) ad)],1⟩) fun br=>.r0<|.cd (fun bu=>.el fun bv bw bx=>.el fun bz ca cb=>.el fun cc ce cf=>.rg [(6,hX Z0 bw bx),(7,hL Z0 bx),(10,hX Z0 ca cb),(11,hL Z0 cb),(12,hX Z0 ca cb),(13,hS Z0 bv 0 [iI .i64 bv.f0,iI .i64 bv.f1] cb),(14,hX Z0 ce cf),(15,hS Z0 bz 0 [iI .i64 bz.f0,iI .i64 bz.f1] cf)]<|.r0<|.ret [(0,0)] [] [] ⟨[(10,qi br),(11,bV true)],[q2 0 ((((a0.set (Int.toNat (a1)) aa).set (Int.toNat (a3)) ad).set (Int.toNat (br)) bv).set (Int.toNat (a1)) bz)],1⟩)
 (fun bu=>.el fun cj cm cn=>.el fun co cr ct=>.el fun cw cx cy=>.rg [(6,hX Z0 cm cn),(7,hL Z0 cn),(10,hX Z0 cr ct),(11,hL Z0 ct),(12,hX Z0 cr ct),(13,hS Z0 cj 0 [iI .i64 cj.f0,iI .i64 cj.f1] ct),(14,hX Z0 cx cy),(15,hS Z0 co 0 [iI .i64 co.f0,iI .i64 co.f1] cy)]<|.r0<|.r0<|.bl<|.loop (.c3 (Z9.l2.partial_correctness a1)) ((((a0.set (Int.toNat (a1)) aa).set (Int.toNat (a3)) ad).set (Int.toNat (ba)) cj).set (Int.toNat (br)) co,i64.wrap (ba+1),i64.wrap (br-1)) [(0,0)] [] [] (fun _=>.pr fun cz=>.pr fun c8=>.one (fun c9=>⟨[(0,.own 0),(1,qi a1),(4,.im (qf 78)),(12,qi c8),(13,qi c9)],[q2 0 cz],1⟩) fun c9=>.bl<|.bl<|.loop (.one (Z9.l3.partial_correctness a1 cz c9)) c8 [(0,0)] [] [] (fun _=>.one (fun da=>⟨[(0,.own 0),(1,qi a1),(4,.im (qf 78)),(12,qi da),(13,qi c9)],[q2 0 cz],1⟩) fun da=>.join (.sp (fun db=>.el fun dc dd de=>.el fun df dg dh=>.bd fun di dj=>.rg [(3,hB db),(7,hX Z0 dd de),(8,hL Z0 de),(11,hX Z0 dg dh),(12,hL Z0 dh),(13,qh call78 (Z0t.ok dc df di dj))]<|.o [(0,0)])
 (fun db=>.rg [(3,hB db)]<|.o [(0,0)]))
 (.st .normal (fun dk=>⟨[(0,.own 0),(1,qi a1),(4,.im (qf 78)),(12,qi da),(13,qi c9),(120,bV dk)],[q2 0 cz],1⟩) fun dk=>.cd (fun dl=>.bl<|.r0<|.bk [(0,0)] rfl)
 (fun dl=>.o [(0,0)])))
 (.st (.exit 6) (fun dm=>⟨[(0,.own 0),(1,qi a1),(4,.im (qf 78)),(12,qi dm),(13,qi c9)],[q2 0 cz],1⟩) fun dm=>.bl<|.loop (.one (Z9.l4.partial_correctness a1 cz dm)) c9 [(0,0)] [] [] (fun _=>.one (fun dp=>⟨[(0,.own 0),(1,qi a1),(4,.im (qf 78)),(12,qi dm),(13,qi dp)],[q2 0 cz],1⟩) fun dp=>.join (.sp (fun dq=>.el fun dr dt du=>.el fun dv dw dx=>.bd fun dy dz=>.rg [(3,hB dq),(7,hX Z0 dt du),(8,hL Z0 du),(11,hX Z0 dw dx),(12,hL Z0 dx),(13,qh call78 (Z0t.ok dr dv dy dz))]<|.o [(0,0)])
 (fun dq=>.rg [(3,hB dq)]<|.o [(0,0)]))
 (.st .normal (fun d8=>⟨[(0,.own 0),(1,qi a1),(4,.im (qf 78)),(12,qi dm),(13,qi dp),(139,bV d8)],[q2 0 cz],1⟩) fun d8=>.cd (fun d9=>.bl<|.r0<|.bk [(0,0)] rfl)
 (fun d9=>.o [(0,0)])))
 (.st (.exit 8) (fun ea=>⟨[(0,.own 0),(1,qi a1),(4,.im (qf 78)),(12,qi dm),(13,qi ea)],[q2 0 cz],1⟩) fun ea=>.r0<|.cd (fun ed=>.o [(0,0)])
 (fun ed=>.el fun ee ef eg=>.el fun eh ei ej=>.el fun em en eo=>.rg [(6,hX Z0 ef eg),(7,hL Z0 eg),(10,hX Z0 ei ej),(11,hL Z0 ej),(12,hX Z0 ei ej),(13,hS Z0 ee 0 [iI .i64 ee.f0,iI .i64 ee.f1] ej),(14,hX Z0 en eo),(15,hS Z0 eh 0 [iI .i64 eh.f0,iI .i64 eh.f1] eo)]<|.r0<|.r0<|.bk [(0,0)] rfl))))
 (.pr fun ep=>.st (.exit 4) (fun eq=>⟨[(0,.own 0),(1,qi a1),(13,qi eq)],[q2 0 ep],1⟩) fun eq=>.el fun et eu ev=>.el fun ew ez e8=>.el fun e9 fc fe=>.rg [(6,hX Z0 eu ev),(7,hL Z0 ev),(10,hX Z0 ez e8),(11,hL Z0 e8),(12,hX Z0 ez e8),(13,hS Z0 et 0 [iI .i64 et.f0,iI .i64 et.f1] e8),(14,hX Z0 fc fe),(15,hS Z0 ew 0 [iI .i64 ew.f0,iI .i64 ew.f1] fe)]<|.r0<|.ret [(0,0)] [] [] ⟨[(10,qi eq),(11,bV false)],[q2 0 ((ep.set (Int.toNat (eq)) et).set (Int.toNat (a1)) ew)],1⟩)))))
def Z4k.f (a0:Int):Option Int:=(Z7z.f (u64.wrap (a0)))>>=fun aa=>(chk (0≤aa))>>=fun _=>some (u64.wrap ((1:Int)*2 ^ (min (Int.toNat (aa)) 64)))
theorem Z4k.ok (a0:Int):FN 167 [qi a0] [] 0 (Z4k.f a0) (fun r=>qu r) (fun r=>[]):=FT [] func167 (.r0<|.bd fun aa ab=>.ck fun ac=>.rg [(2,qh call112 (Z7z.ok (u64.wrap (a0)) aa ab)),(3,hN (p1 ac))]<|.ret [] [] [] ⟨[(2,qu (u64.wrap ((1:Int)*2 ^ (min (Int.toNat (aa)) 64))))],[],0⟩)
def Z41.f (aa:Int):Option Unit:=some ()
theorem Z41.ok (aa:Int):FN 168 [.ptr 0 0 0] [(0,some (.box 240 [qu aa]))] 1 (Z41.f aa) (fun r=>qu (u64.wrap ((qx (u64.wrap ((qx (u64.wrap ((qx aa (u64.wrap (aa*8192))))) (Int.fdiv (u64.wrap ((qx aa (u64.wrap (aa*8192))))) 128)))) (u64.wrap ((u64.wrap ((qx (u64.wrap ((qx aa (u64.wrap (aa*8192))))) (Int.fdiv (u64.wrap ((qx aa (u64.wrap (aa*8192))))) 128))))*131072)))))) (fun r=>[(0,some (.box 240 [qu (u64.wrap ((qx (u64.wrap ((qx (u64.wrap ((qx aa (u64.wrap (aa*8192))))) (Int.fdiv (u64.wrap ((qx aa (u64.wrap (aa*8192))))) 128)))) (u64.wrap ((u64.wrap ((qx (u64.wrap ((qx aa (u64.wrap (aa*8192))))) (Int.fdiv (u64.wrap ((qx aa (u64.wrap (aa*8192))))) 128))))*131072)))))]))]):=FT [0] func168 (.r0<|.rg [(6,hK 13)]<|.rg [(6,hK 7)]<|.rg [(6,hK 17)]<|.r0<|.ret [(0,0)] [] [] ⟨[(2,qu (u64.wrap ((qx (u64.wrap ((qx (u64.wrap ((qx aa (u64.wrap (aa*8192))))) (Int.fdiv (u64.wrap ((qx aa (u64.wrap (aa*8192))))) 128)))) (u64.wrap ((u64.wrap ((qx (u64.wrap ((qx aa (u64.wrap (aa*8192))))) (Int.fdiv (u64.wrap ((qx aa (u64.wrap (aa*8192))))) 128))))*131072))))))],[(0,some (.box 240 [qu (u64.wrap ((qx (u64.wrap ((qx (u64.wrap ((qx aa (u64.wrap (aa*8192))))) (Int.fdiv (u64.wrap ((qx aa (u64.wrap (aa*8192))))) 128)))) (u64.wrap ((u64.wrap ((qx (u64.wrap ((qx aa (u64.wrap (aa*8192))))) (Int.fdiv (u64.wrap ((qx aa (u64.wrap (aa*8192))))) 128))))*131072)))))]))],1⟩)
def Zz.l0 (a1:Int) (a2:Int) (aa:Int) (ab:List Z1) (ac:Int) (ad:Int):Option (List Z1):=if(decide (ad≤(i64.wrap ((i64.wrap (a1+(i64.wrap ((i64.wrap (Int.tdiv (i64.wrap (a2-a1)) (4:Int)))*2))))+1))))=true then((Z41.f ac)>>=fun ae=>((if(decide ((i64.wrap (u64.wrap (((BitVec.toNat (BitVec.ofInt 64 (u64.wrap (((BitVec.toNat (BitVec.ofInt 64 (u64.wrap (((BitVec.toNat (BitVec.ofInt 64 (u64.wrap (((BitVec.toNat (BitVec.ofInt 64 ac ^^^ BitVec.ofInt 64 (u64.wrap (ac*8192))):Nat):Int))) ^^^ BitVec.ofInt 64 (Int.fdiv (u64.wrap (((BitVec.toNat (BitVec.ofInt 64 ac ^^^ BitVec.ofInt 64 (u64.wrap (ac*8192))):Nat):Int))) 128)):Nat):Int))) ^^^ BitVec.ofInt 64 (u64.wrap ((u64.wrap (((BitVec.toNat (BitVec.ofInt 64 (u64.wrap (((BitVec.toNat (BitVec.ofInt 64 ac ^^^ BitVec.ofInt 64 (u64.wrap (ac*8192))):Nat):Int))) ^^^ BitVec.ofInt 64 (Int.fdiv (u64.wrap (((BitVec.toNat (BitVec.ofInt 64 ac ^^^ BitVec.ofInt 64 (u64.wrap (ac*8192))):Nat):Int))) 128)):Nat):Int)))*131072))):Nat):Int))) &&& BitVec.ofInt 64 (u64.wrap (aa-1))):Nat):Int))))≥(i64.wrap (a2-a1))))=true then(some (i64.wrap ((i64.wrap (u64.wrap (((BitVec.toNat (BitVec.ofInt 64 (u64.wrap (((BitVec.toNat (BitVec.ofInt 64 (u64.wrap (((BitVec.toNat (BitVec.ofInt 64 (u64.wrap (((BitVec.toNat (BitVec.ofInt 64 ac ^^^ BitVec.ofInt 64 (u64.wrap (ac*8192))):Nat):Int))) ^^^ BitVec.ofInt 64 (Int.fdiv (u64.wrap (((BitVec.toNat (BitVec.ofInt 64 ac ^^^ BitVec.ofInt 64 (u64.wrap (ac*8192))):Nat):Int))) 128)):Nat):Int))) ^^^ BitVec.ofInt 64 (u64.wrap ((u64.wrap (((BitVec.toNat (BitVec.ofInt 64 (u64.wrap (((BitVec.toNat (BitVec.ofInt 64 ac ^^^ BitVec.ofInt 64 (u64.wrap (ac*8192))):Nat):Int))) ^^^ BitVec.ofInt 64 (Int.fdiv (u64.wrap (((BitVec.toNat (BitVec.ofInt 64 ac ^^^ BitVec.ofInt 64 (u64.wrap (ac*8192))):Nat):Int))) 128)):Nat):Int)))*131072))):Nat):Int))) &&& BitVec.ofInt 64 (u64.wrap (aa-1))):Nat):Int))))-(i64.wrap (a2-a1))))) else(some (i64.wrap (u64.wrap (((BitVec.toNat (BitVec.ofInt 64 (u64.wrap (((BitVec.toNat (BitVec.ofInt 64 (u64.wrap (((BitVec.toNat (BitVec.ofInt 64 (u64.wrap (((BitVec.toNat (BitVec.ofInt 64 ac ^^^ BitVec.ofInt 64 (u64.wrap (ac*8192))):Nat):Int))) ^^^ BitVec.ofInt 64 (Int.fdiv (u64.wrap (((BitVec.toNat (BitVec.ofInt 64 ac ^^^ BitVec.ofInt 64 (u64.wrap (ac*8192))):Nat):Int))) 128)):Nat):Int))) ^^^ BitVec.ofInt 64 (u64.wrap ((u64.wrap (((BitVec.toNat (BitVec.ofInt 64 (u64.wrap (((BitVec.toNat (BitVec.ofInt 64 ac ^^^ BitVec.ofInt 64 (u64.wrap (ac*8192))):Nat):Int))) ^^^ BitVec.ofInt 64 (Int.fdiv (u64.wrap (((BitVec.toNat (BitVec.ofInt 64 ac ^^^ BitVec.ofInt 64 (u64.wrap (ac*8192))):Nat):Int))) 128)):Nat):Int)))*131072))):Nat):Int))) &&& BitVec.ofInt 64 (u64.wrap (aa-1))):Nat):Int)))))):Option Int)>>=fun af=>(at? ab (i64.wrap (a1+af)))>>=fun ah=>(at? ab ad)>>=fun ai=>(at? (ab.set (Int.toNat (ad)) ah) (i64.wrap (a1+af)))>>=fun aj=>Zz.l0 a1 a2 aa ((ab.set (Int.toNat (ad)) ah).set (Int.toNat (i64.wrap (a1+af))) ai) (u64.wrap (((BitVec.toNat (BitVec.ofInt 64 (u64.wrap (((BitVec.toNat (BitVec.ofInt 64 (u64.wrap (((BitVec.toNat (BitVec.ofInt 64 ac ^^^ BitVec.ofInt 64 (u64.wrap (ac*8192))):Nat):Int))) ^^^ BitVec.ofInt 64 (Int.fdiv (u64.wrap (((BitVec.toNat (BitVec.ofInt 64 ac ^^^ BitVec.ofInt 64 (u64.wrap (ac*8192))):Nat):Int))) 128)):Nat):Int))) ^^^ BitVec.ofInt 64 (u64.wrap ((u64.wrap (((BitVec.toNat (BitVec.ofInt 64 (u64.wrap (((BitVec.toNat (BitVec.ofInt 64 ac ^^^ BitVec.ofInt 64 (u64.wrap (ac*8192))):Nat):Int))) ^^^ BitVec.ofInt 64 (Int.fdiv (u64.wrap (((BitVec.toNat (BitVec.ofInt 64 ac ^^^ BitVec.ofInt 64 (u64.wrap (ac*8192))):Nat):Int))) 128)):Nat):Int)))*131072))):Nat):Int))) (i64.wrap (ad+1))) else(some ab)
partial_fixpoint
def Zz.f (a0:List Z1) (a1:Int) (a2:Int):Option (List Z1):=((if(decide ((i64.wrap (a2-a1))≥8))=true then((Z4k.f (i64.wrap (a2-a1)))>>=fun aa=>(Zz.l0 a1 a2 aa a0 (u64.wrap (i64.wrap (a2-a1))) (i64.wrap ((i64.wrap (a1+(i64.wrap ((i64.wrap (Int.tdiv (i64.wrap (a2-a1)) (4:Int)))*2))))-1)))>>=fun ab=>some ab) else(some a0)):Option (List Z1))>>=fun ac=>some ac
theorem Zz.ok (a0:List Z1) (a1:Int) (a2:Int):FN 140 [.own 0,qi a1,qi a2,.im (qf 78)] [q2 0 a0] 1 (Zz.f a0 a1 a2) (fun r=>.tup []) (fun r=>[q2 0 r]):=FT [0] func140 (.r0<|.r0<|.join (.cd (fun aa=>.rg [(2,⟨.k 1,.n⟩)]<|.bd fun ab ac=>.rg [(1,qh call167 (Z4k.ok (i64.wrap (a2-a1)) ab ac))]<|.rg [(2,hJ 4)]<|.bl<|.loop (.c3 (Zz.l0.partial_correctness a1 a2 ab)) (a0,u64.wrap (i64.wrap (a2-a1)),i64.wrap ((i64.wrap (a1+(i64.wrap ((i64.wrap (Int.tdiv (i64.wrap (a2-a1)) (4:Int)))*2))))-1)) [(0,0),(1,3)] [] [] (fun _=>.pr fun ad=>.pr fun ae=>.one (fun af=>⟨[(0,.own 0),(1,qi a1),(8,qi (i64.wrap (a2-a1))),(9,.ptr 3 0 0),(10,qu ab),(11,qi af)],[q2 0 ad,(3,some (.box 240 [qu ae]))],1⟩) fun af=>.rg [(3,hJ 4)]<|.cd (fun ah=>.bl<|.bd fun ai aj=>.rg [(0,hC [(3,0)] [(0,3)] [] [] call168 (Z41.ok ae ai aj))]<|.r0<|.join (.cd (fun ak=>.r0<|.o [(0,0),(3,4)])
 (fun ak=>.o [(0,0),(3,4)]))
 (.st .normal (fun al=>⟨[(0,.own 0),(1,qi a1),(8,qi (i64.wrap (a2-a1))),(9,.ptr 4 0 0),(10,qu ab),(11,qi af),(12,qi al)],[q2 0 ad,(4,some (.box 240 [qu (u64.wrap ((qx (u64.wrap ((qx (u64.wrap ((qx ae (u64.wrap (ae*8192))))) (Int.fdiv (u64.wrap ((qx ae (u64.wrap (ae*8192))))) 128)))) (u64.wrap ((u64.wrap ((qx (u64.wrap ((qx ae (u64.wrap (ae*8192))))) (Int.fdiv (u64.wrap ((qx ae (u64.wrap (ae*8192))))) 128))))*131072)))))]))],1⟩) fun al=>.el fun am ao aq=>.el fun ar au av=>.el fun ax az a8=>.rg [(10,hX Z0 ao aq),(11,hL Z0 aq),(14,hX Z0 au av),(15,hL Z0 av),(16,hX Z0 au av),(17,hS Z0 am 0 [iI .i64 am.f0,iI .i64 am.f1] av),(18,hX Z0 az a8),(19,hS Z0 ar 0 [iI .i64 ar.f0,iI .i64 ar.f1] a8)]<|.r0<|.bk [(0,0),(4,3)] rfl))
 (fun ah=>.o [(0,0)]))
 (.st (.exit 0) (fun a9=>⟨[],[q2 0 a9],1⟩) fun a9=>.o [(0,0)]))
 (fun aa=>.o [(0,0)]))
 (.st .normal (fun ba=>⟨[],[q2 0 ba],1⟩) fun ba=>.ret [(0,0)] [] [] ⟨[],[q2 0 ba],1⟩))
def Zg.l0 (self:(List Z1)→Int→Int→Int→Option (List Z1)) (aa:List Z1) (ab:Int) (ac:Int) (ad:Int) (ae:Bool) (af:Bool):Option (List Z1):=((if(decide ((i64.wrap (ac-ab))≤12))=true then((Zk.f aa ab ac)>>=fun ah=>some (.inl ah)) else(if(ad==0)=true then((Zn.f aa ab ac)>>=fun ai=>some (.inl ai)) else(((if(!ae)=true then((Zz.f aa ab ac)>>=fun aj=>some (aj,i64.wrap (ad-1))) else(some (aa,ad))):Option ((List Z1)×Int))>>=fun oo=>match oo with | (ak,al)=>((Z1j.f ak ab ac)>>=fun am=>((if(am.2==2)=true then((Z03.f ak ab ac)>>=fun ao=>some (ao,i64.wrap ((i64.wrap (ac-1))-(i64.wrap (am.1-ab))),1)) else(some (ak,am.1,am.2))):Option ((List Z1)×Int×Int))>>=fun oo=>match oo with | (aq,ar,au)=>(((if ae=true then(if af=true then(some (au==1)) else(some false)) else(some false)):Option Bool)>>=fun av=>((if av=true then((Z8.f aq ab ac)>>=fun ax=>if ax.1=true then(some (.inl ax.2)) else(some (.inr ax.2))) else(some (.inr aq))):Option ((List Z1) ⊕ (List Z1)))>>=fun oo=>match oo with | .inl rr=>(some (.inl rr)) | .inr az=>(((if(decide (ab>0))=true then((at? az (i64.wrap (ab-1)))>>=fun a8=>(at? az ar)>>=fun a9=>(Z0t.f a8 a9)>>=fun ba=>some (!(decide (ba<0)))) else(some false)):Option Bool)>>=fun bb=>if bb=true then((Ze.f az ab ac ar)>>=fun bc=>some (.inr (bc.2,bc.1,ac,al,ae,af))) else((Z9.f az ab ac ar)>>=fun be=>((if(decide ((i64.wrap (be.1-ab))<(i64.wrap (ac-be.1))))=true then((self be.2.2 ab be.1 al)>>=fun bf=>some (bf,i64.wrap (be.1+1),ac,(decide ((i64.wrap (be.1-ab))≥(i64.wrap (Int.tdiv (i64.wrap (ac-ab)) (8:Int))))))) else((self be.2.2 (i64.wrap (be.1+1)) ac al)>>=fun bg=>some (bg,ab,be.1,(decide ((i64.wrap (ac-be.1))≥(i64.wrap (Int.tdiv (i64.wrap (ac-ab)) (8:Int)))))))):Option ((List Z1)×Int×Int×Bool))>>=fun oo=>match oo with | (bh,bi,bj,bn)=>(some (.inr (bh,bi,bj,al,bn,be.2.1)))))))))):Option ((List Z1) ⊕ ((List Z1)×Int×Int×Int×Bool×Bool)))>>=fun oo=>match oo with | .inl rr=>(some rr) | .inr (bo,bp,bq,br,bu,bv)=>(Zg.l0 self bo bp bq br bu bv)
partial_fixpoint
def Zg.fu:Nat→(List Z1)→Int→Int→Int→Option (List Z1)
 | 0,_,_,_,_=>none
 | k+1,a0,a1,a2,a3=>(Zg.l0 (Zg.fu k) a0 a1 a2 a3 true true)>>=fun rr=>some rr
def Zg.f (a0:List Z1) (a1:Int) (a2:Int) (a3:Int):Option (List Z1):=Zg.fu 100 a0 a1 a2 a3
theorem Zg.oku (k:Nat) (a0:List Z1) (a1:Int) (a2:Int) (a3:Int) (r:List Z1) (H:Zg.fu k a0 a1 a2 a3=some r):Pv.Fn Tryz.prog 111 [.own 0,qi a1,qi a2,qi a3,.im (qf 78)] [q2 0 a0] 1 (fun x o=>x = .tup []∧o=[q2 0 r]):=by
 induction k generalizing a0 a1 a2 a3 r with
 | zero=>simp[Zg.fu] at H
 | succ k ihF =>
 rw[Zg.fu] at H;exact HT.fn H (fun r=>.tup []) (fun r=>[q2 0 r]) [0] func111 rfl rfl hmx (.r0<|.r0<|.bl<|.loop (.c6 (Zg.l0.partial_correctness (Zg.fu k))) (a0,a1,a2,a3,true,true) [(0,0)] [] [] (fun _=>.pr fun aa=>.pr fun ab=>.pr fun ac=>.pr fun ad=>.pr fun ae=>.one (fun af=>⟨[(0,.own 0),(1,qi ab),(2,qi ac),(3,qi ad),(4,.im (qf 78)),(10,bV ae),(11,bV af)],[q2 0 aa],1⟩) fun af=>.join (.bl<|.r0<|.r0<|.cd (fun ah=>.bd fun ai aj=>.rg [(4,hC [(0,0)] [(0,0)] [] [] call138 (Zk.ok aa ab ac ai aj))]<|.ret [(0,0)] [] [] ⟨[],[q2 0 ai],1⟩)
 (fun ah=>.r0<|.cd (fun ak=>.bd fun al am=>.rg [(4,hC [(0,0)] [(0,0)] [] [] call139 (Zn.ok aa ab ac al am))]<|.ret [(0,0)] [] [] ⟨[],[q2 0 al],1⟩)
 (fun ak=>.r0<|.join (.cd (fun ao=>.bd fun aq ar=>.rg [(4,hC [(0,0)] [(0,0)] [] [] call140 (Zz.ok aa ab ac aq ar))]<|.r0<|.o [(0,0)])
 (fun ao=>.o [(0,0)]))
 (.pr fun au=>.st .normal (fun av=>⟨[(0,.own 0),(1,qi ab),(2,qi ac),(3,qi av),(4,.im (qf 78)),(10,bV ae),(11,bV af),(12,qi (i64.wrap (ac-ab)))],[q2 0 au],1⟩) fun av=>.bd fun ax az=>.rg [(4,hC [(0,0)] [(0,0)] [] [] call141 (Z1j.ok au ab ac ax az))]<|.r0<|.join (.cd (fun a8=>.bd fun a9 ba=>.rg [(4,hC [(0,0)] [(0,0)] [] [] call142 (Z03.ok au ab ac a9 ba))]<|.r0<|.r0<|.o [(0,0)])
 (fun a8=>.o [(0,0)]))
 (.pr fun bb=>.pr fun bc=>.st .normal (fun be=>⟨[(0,.own 0),(1,qi ab),(2,qi ac),(3,qi av),(4,.im (qf 78)),(10,bV ae),(11,bV af),(12,qi (i64.wrap (ac-ab))),(13,qi bc),(14,qi be)],[q2 0 bb],1⟩) fun be=>.join (.sp (fun bf=>.sp (fun bg=>.rg [(1,hB bf),(4,hB bg)]<|.o [(0,0)])
 (fun bg=>.rg [(1,hB bf),(4,hB bg)]<|.o [(0,0)]))
 (fun bf=>.rg [(1,hB bf)]<|.o [(0,0)]))
 (.st .normal (fun bh=>⟨[(0,.own 0),(1,qi ab),(2,qi ac),(3,qi av),(4,.im (qf 78)),(10,bV ae),(11,bV af),(12,qi (i64.wrap (ac-ab))),(13,qi bc),(75,bV bh)],[q2 0 bb],1⟩) fun bh=>.join (.cd (fun bi=>.bd fun bj bn=>.rg [(4,hC [(0,0)] [(0,0)] [] [] call143 (Z8.ok bb ab ac bj bn))]<|.cd (fun bo=>.ret [(0,0)] [] [] ⟨[],[q2 0 bj.2],1⟩)
 (fun bo=>.o [(0,0)]))
 (fun bi=>.o [(0,0)]))
 (.sm (.rt (fun rr=>.tup []) (fun rr=>[q2 0 rr]))
 (.st .normal (fun bp=>⟨[(0,.own 0),(1,qi ab),(2,qi ac),(3,qi av),(4,.im (qf 78)),(10,bV ae),(11,bV af),(12,qi (i64.wrap (ac-ab))),(13,qi bc)],[q2 0 bp],1⟩) fun bp=>.join (.sp (fun bq=>.el fun br bu bv=>.el fun bw bx bz=>.bd fun ca cb=>.rg [(2,hB bq),(7,hX Z0 bu bv),(8,hL Z0 bv),(11,hX Z0 bx bz),(12,hL Z0 bz),(13,qh call78 (Z0t.ok br bw ca cb))]<|.o [(0,0)])
 (fun bq=>.rg [(2,hB bq)]<|.o [(0,0)]))
 (.st .normal (fun cc=>⟨[(0,.own 0),(1,qi ab),(2,qi ac),(3,qi av),(4,.im (qf 78)),(10,bV ae),(11,bV af),(12,qi (i64.wrap (ac-ab))),(13,qi bc),(97,bV cc)],[q2 0 bp],1⟩) fun cc=>.cd (fun ce=>.bd fun cf cj=>.rg [(5,hC [(0,0)] [(0,0)] [] [] call144 (Ze.ok bp ab ac bc cf cj))]<|.r0<|.o [(0,0)])
 (fun ce=>.bd fun cm cn=>.rg [(5,hC [(0,0)] [(0,0)] [] [] call145 (Z9.ok bp ab ac bc cm cn))]<|.r0<|.r0<|.rg [(1,hJ 8)]<|.r0<|.join (.cd (fun co=>.r0<|.bd fun cr ct=>.rg [(5,hC [(0,0)] [(0,0)] [] [] call111 (ihF cm.2.2 ab cm.1 av _ ct))]<|.r0<|.o [(0,0)])
 (fun co=>.r0<|.bd fun cw cx=>.rg [(6,hC [(0,0)] [(0,0)] [] [] call111 (ihF cm.2.2 (i64.wrap (cm.1+1)) ac av _ cx))]<|.r0<|.o [(0,0)]))
 (.pr fun cy=>.pr fun cz=>.pr fun c8=>.st .normal (fun c9=>⟨[(0,.own 0),(1,qi cz),(2,qi c8),(3,qi av),(4,.im (qf 78)),(10,bV c9),(11,bV cm.2.1)],[q2 0 cy],1⟩) fun c9=>.o [(0,0)])))))))))))
 (.sm (.rt (fun rr=>.tup []) (fun rr=>[q2 0 rr]))
 (.pr fun da=>.pr fun db=>.pr fun dc=>.pr fun dd=>.pr fun de=>.st .normal (fun df=>⟨[(0,.own 0),(1,qi db),(2,qi dc),(3,qi dd),(4,.im (qf 78)),(10,bV de),(11,bV df)],[q2 0 da],1⟩) fun df=>.bk [(0,0)] rfl)))
 (.rt (fun rr=>.tup []) (fun rr=>[q2 0 rr])))
theorem Zg.ok (a0:List Z1) (a1:Int) (a2:Int) (a3:Int) (r:List Z1) (H:Zg.f a0 a1 a2 a3=some r):Pv.Fn Tryz.prog 111 [.own 0,qi a1,qi a2,qi a3,.im (qf 78)] [q2 0 a0] 1 (fun x o=>x = .tup []∧o=[q2 0 r]):=Zg.oku 100 a0 a1 a2 a3 r H
def Z1u.f (a0:List Z1):Option (List Z1):=(Z7z.f (u64.wrap (a0.length:Int)))>>=fun aa=>(Zg.f a0 0 (a0.length:Int) aa)>>=fun ab=>some ab
theorem Z1u.ok (a0:List Z1):FN 77 [.own 0,.im (qf 78)] [q2 0 a0] 1 (Z1u.f a0) (fun r=>.tup []) (fun r=>[q2 0 r]):=FT [0] func77 (.rg [(1,hG Z0 a0)]<|.bd fun aa ab=>.bd fun ac ad=>.rg [(4,qh call112 (Z7z.ok (u64.wrap (a0.length:Int)) aa ab)),(6,hC [(0,0)] [(0,0)] [] [] call111 (Zg.ok a0 0 (a0.length:Int) aa ac ad))]<|.ret [(0,0)] [] [] ⟨[],[q2 0 ac],1⟩)
def Z4u.l0 (aa:List Z1) (ab:List Z1) (ac:Int):Option (List Z1):=if(decide (ac<(aa.length:Int)))=true then((((at? aa ac)>>=fun ad=>((if(decide ((ab.length:Int)>0))=true then((at? ab (i64.wrap ((ab.length:Int)-1)))>>=fun ae=>some (decide (ad.f0≤(i64.wrap (ae.f1+1))))) else(some false)):Option Bool)>>=fun af=>if af=true then((at? ab (i64.wrap ((ab.length:Int)-1)))>>=fun ah=>some (ab.set (Int.toNat (i64.wrap ((ab.length:Int)-1))) (⟨ah.f0,(if ad.f1>ah.f1 then ad.f1 else ah.f1)⟩:Z1))) else((chk ((ab.length+[ad].length)*16≤140737488355328))>>=fun _=>some (ab++[ad]))):Option (List Z1))>>=fun ai=>Z4u.l0 aa ai (i64.wrap (ac+1))) else(some ab)
partial_fixpoint
def Z4u.f (a0:List Z1):Option Z37:=(Z1p.f a0)>>=fun aa=>(Z0d.f aa)>>=fun ab=>(Z1u.f ab)>>=fun ac=>(Z4u.l0 ac [] 0)>>=fun ad=>some (⟨ad⟩:Z37)
theorem Z4u.ok (a0:List Z1):FN 36 [.im (.row (a0.map Z0))] [] 0 (Z4u.f a0) (fun r=>.agg [.own 0]) (fun r=>[q2 0 ((r).f0)]):=FT [0] func36 (.rg [(0,⟨.k 0,.n⟩)]<|.bd fun aa ab=>.bd fun ac ad=>.rg [(1,hC [] [(0,1)] [] [1] call75 (Z1p.ok a0 aa ab)),(2,hC [(1,0)] [(1,2)] [] [2] call74 (Z0d.ok aa ac ad))]<|.bd fun ae af=>.rg [(1,hC [(2,0)] [(0,2)] [] [] call77 (Z1u.ok ac ae af))]<|.rg [(0,⟨.k 3,.n⟩)]<|.rg [(1,hG Z0 ae)]<|.bl<|.loop (.c2 (Z4u.l0.partial_correctness ae)) ([],0) [(0,7),(2,10),(3,8)] [] [9] (fun _=>.pr fun ah=>.one (fun ai=>⟨[(2,.ptr 7 0 0),(3,.ptr 8 0 0),(12,.own 10),(13,qi (ae.length:Int)),(14,qi ai)],[(7,some (.box 97 [.none0])),(8,some (.box 97 [.own 9])),q2 9 ah,q2 10 ae],0⟩) fun ai=>.r0<|.cd (fun aj=>.join (.bl<|.el fun ak al am=>.rg [(0,hX Z0 al am),(1,hL Z0 am),(2,⟨.k 11,.n⟩)]<|.rg [(2,hG Z0 ah)]<|.join (.sp (fun ao=>.el fun aq ar au=>.rg [(2,hB ao),(9,hX Z0 ar au),(11,hL Z0 au)]<|.o [(7,12),(8,13),(9,14),(11,15),(10,16)])
 (fun ao=>.rg [(2,hB ao)]<|.o [(7,12),(8,13),(9,14),(11,15),(10,16)]))
 (.st .normal (fun av=>⟨[(2,.ptr 12 0 0),(3,.ptr 13 0 0),(5,.ptr 15 0 0),(6,qi (ah.length:Int)),(12,.own 16),(13,qi (ae.length:Int)),(14,qi ai),(35,bV av)],[(12,some (.box 97 [.none0])),(13,some (.box 97 [.own 14])),q2 14 ah,(15,some (.box 92 (atomb_Range ak))),q2 16 ae],0⟩) fun av=>.cd (fun ax=>.el fun az a8 a9=>.rg [(8,hX Z0 a8 a9),(10,hL Z0 a9),(13,⟨.more xMax,.n⟩),(14,hX Z0 a8 a9),(16,hS Z0 (⟨az.f0,(if ak.f1>az.f1 then ak.f1 else az.f1)⟩:Z1) 1 [iI .i64 (if ak.f1>az.f1 then ak.f1 else az.f1)] a9)]<|.o [(12,19),(13,20),(14,21),(16,22)])
 (fun ax=>.ck fun ba=>.rg [(3,hQ 17 Z0 ([ak]:List Z1)),(4,hP 18 Z0 2 ba)]<|.o [(12,19),(13,20),(18,21),(16,22)])))
 (.st .normal (fun bb=>⟨[(2,.ptr 19 0 0),(3,.ptr 20 0 0),(12,.own 22),(13,qi (ae.length:Int)),(14,qi ai)],[(19,some (.box 97 [.none0])),(20,some (.box 97 [.own 21])),q2 21 bb,q2 22 ae],0⟩) fun bb=>.r0<|.bk [(19,7),(20,8),(21,9),(22,10)] rfl))
 (fun aj=>.o [(7,23),(8,24),(9,25)]))
 (.st (.exit 0) (fun bc=>⟨[(2,.ptr 23 0 0),(3,.ptr 24 0 0)],[(23,some (.box 97 [.none0])),(24,some (.box 97 [.own 25])),q2 25 bc],0⟩) fun bc=>.r0<|.ret [(23,1),(25,0)] [] [] ⟨[(2,.ptr 1 0 0)],[q2 0 ((⟨bc⟩:Z37).f0),(1,some (.box 97 [.own 0]))],0⟩))
def Z3d.l0 (a0:Z0c) (aa:List Zs) (ab:Int):Option (List Zs):=if(decide (ab<(a0.f2.length:Int)))=true then((at? a0.f2 ab)>>=fun ac=>(Z62.f ac.f2)>>=fun ad=>(Z4u.f ad)>>=fun ae=>(chk ((aa.length+[(⟨ac.f0,ac.f1,(ae),ac.f3⟩:Zs)].length)*72≤140737488355328))>>=fun _=>Z3d.l0 a0 (aa++[(⟨ac.f0,ac.f1,(ae),ac.f3⟩:Zs)]) (i64.wrap (ab+1))) else(some aa)
partial_fixpoint
def Z3d.f (a0:Z0c):Option Zl:=(Z3d.l0 a0 [] 0)>>=fun aa=>some (⟨a0.f0,a0.f1,aa⟩:Zl)
abbrev qk1:MObj:=.box 62 [qi 0,.none0,.none0]
abbrev q3:=@RW _ 4 122 Z1g
theorem Z3d.ok (a0:Z0c):FN 20 [.agg (Z18 a0)] [] 0 (Z3d.f a0) (fun r=>.agg [qi ((r).f0),.im (.row (((r).f1).map qe)),.own 0]) (fun r=>[q3 0 ((r).f2)]):=FT [0] func20 (.rg [(0,⟨.k 0,.n⟩),(1,⟨.k 1,.n⟩)]<|.rg [(5,⟨.k 2,.n⟩)]<|.rg [(2,hG Z22 a0.f2)]<|.bl<|.loop (.c2 (Z3d.l0.partial_correctness a0)) ([],0) [(1,8),(2,9)] [] [10] (fun _=>.pr fun aa=>.one (fun ab=>⟨[(2,.ptr 8 0 0),(3,.ptr 9 0 0),(12,.im (.row (a0.f2.map Z22))),(13,qi (a0.f2.length:Int)),(14,qi ab)],[(8,some (qk1)),(9,some (.box 62 [qi a0.f0,.im (.row (a0.f1.map qe)),.own 10])),q3 10 aa],0⟩) fun ab=>.r0<|.cd (fun ac=>.bl<|.el fun ad ae af=>.rg [(0,hA Z22 ae af),(2,⟨.k 11,.n⟩)]<|.bd fun ah ai=>.bd fun aj ak=>.ck fun al=>.rg [(8,hC [] [(0,12)] [] [12] call58 (Z62.ok ad.f2 ah ai)),(9,⟨.more (xFzG 13 [] (.more (Z5d [] [(0,13)] [12] [13] 0 (.agg [.own 0]) [q2 0 ((aj).f0)]))),.c (call36) (.c (Z4u.ok ah aj ak) (.c (p:=∀ c∈((aj).f0).map Z0,∀ x∈c,∃ v,x=Im.sc v) (Z5h _ _ (fun _=>by simp)) .n))⟩),(13,hQ 14 Z1g ([(⟨ad.f0,ad.f1,(aj),ad.f3⟩:Zs)]:List Zs)),(14,hP 15 Z1g 4 al)]<|.r0<|.bk [(8,8),(9,9),(15,10)] rfl)
 (fun ac=>.o [(8,16),(9,17),(10,18)]))
 (.st (.exit 0) (fun am=>⟨[(2,.ptr 16 0 0),(3,.ptr 17 0 0)],[(16,some (qk1)),(17,some (.box 62 [qi a0.f0,.im (.row (a0.f1.map qe)),.own 18])),q3 18 am],0⟩) fun am=>.r0<|.ret [(16,1),(18,0)] [] [] ⟨[(2,.ptr 1 0 0)],[q3 0 ((⟨a0.f0,a0.f1,am⟩:Zl).f2),(1,some (.box 62 [qi ((⟨a0.f0,a0.f1,am⟩:Zl).f0),.im (.row (((⟨a0.f0,a0.f1,am⟩:Zl).f1).map qe)),.own 0]))],0⟩))
def Z1e.f (a0:Z37):Option (List Z1):=(Z1p.f a0.f0)>>=fun aa=>some aa
theorem Z1e.ok (a0:Z37):FN 48 [.agg [.im (.row (a0.f0.map Z0))]] [] 0 (Z1e.f a0) (fun r=>.own 0) (fun r=>[q2 0 r]):=FT [0] func48 (.rg [(0,⟨.k 0,.n⟩)]<|.bd fun aa ab=>.rg [(2,hC [] [(0,1)] [] [1] call75 (Z1p.ok a0.f0 aa ab))]<|.ret [(1,0)] [] [] ⟨[(2,.own 0)],[q2 0 aa],0⟩)
def Z2s.l1 (a0:Zl) (aa:Zs) (ab:List Z1) (ac:List Z1o) (ad:Int) (ae:List Z1) (af:Int):Option (List Z1):=if(decide (af<(ab.length:Int)))=true then((at? ab af)>>=fun ah=>(chk ((ae.length+[ah].length)*16≤140737488355328))>>=fun _=>Z2s.l1 a0 aa ab ac ad (ae++[ah]) (i64.wrap (af+1))) else(some ae)
partial_fixpoint
def Z2s.l0 (a0:Zl) (aa:List Z1o) (ab:Int):Option (List Z1o):=if(decide (ab<(a0.f2.length:Int)))=true then((at? a0.f2 ab)>>=fun ac=>(Z1e.f ac.f2)>>=fun ad=>(Z2s.l1 a0 ac ad aa ab [] 0)>>=fun ae=>(chk ((aa.length+[(⟨ac.f0,ac.f1,ae,ac.f3⟩:Z1o)].length)*72≤140737488355328))>>=fun _=>Z2s.l0 a0 (aa++[(⟨ac.f0,ac.f1,ae,ac.f3⟩:Z1o)]) (i64.wrap (ab+1))) else(some aa)
partial_fixpoint
def Z2s.f (a0:Zl):Option Z0c:=(Z2s.l0 a0 [] 0)>>=fun aa=>some (⟨a0.f0,a0.f1,aa⟩:Z0c)
abbrev qk2:MObj:=.box 56 [qi 0,.none0,.none0]
abbrev q4:=@RW _ 4 59 Z22
abbrev q5:=@RW _ 2 76 Z0
theorem Z2s.ok (a0:Zl):FN 21 [.agg (Z36 a0)] [] 0 (Z2s.f a0) (fun r=>.agg [qi ((r).f0),.im (.row (((r).f1).map qe)),.own 0]) (fun r=>[q4 0 ((r).f2)]):=FT [0] func21 (.rg [(0,⟨.k 0,.n⟩),(1,⟨.k 1,.n⟩)]<|.rg [(5,⟨.k 2,.n⟩)]<|.rg [(2,hG Z1g a0.f2)]<|.bl<|.loop (.c2 (Z2s.l0.partial_correctness a0)) ([],0) [(1,23),(2,24)] [] [25] (fun _=>.pr fun aa=>.one (fun ab=>⟨[(2,.ptr 23 0 0),(3,.ptr 24 0 0),(15,.im (.row (a0.f2.map Z1g))),(16,qi (a0.f2.length:Int)),(17,qi ab)],[(23,some (qk2)),(24,some (.box 56 [qi a0.f0,.im (.row (a0.f1.map qe)),.own 25])),q4 25 aa],0⟩) fun ab=>.r0<|.cd (fun ac=>.bl<|.el fun ad ae af=>.rg [(0,hA Z1g ae af),(2,⟨.k 26,.n⟩)]<|.rg [(7,⟨.k 27,.n⟩)]<|.bd fun ah ai=>.rg [(2,hC [] [(0,28)] [] [28] call48 (Z1e.ok ad.f2 ah ai)),(3,hG Z0 ah)]<|.bl<|.loop (.c2 (Z2s.l1.partial_correctness a0 ad ah aa ab)) ([],0) [(23,32),(24,33),(25,34),(27,35),(28,37)] [] [36] (fun _=>.pr fun aj=>.one (fun ak=>⟨[(2,.ptr 32 0 0),(3,.ptr 33 0 0),(6,.ptr 35 0 0),(15,.im (.row (a0.f2.map Z1g))),(16,qi (a0.f2.length:Int)),(17,qi ab),(30,.own 37),(31,qi (ah.length:Int)),(32,qi ak)],[(32,some (qk2)),(33,some (.box 56 [qi a0.f0,.im (.row (a0.f1.map qe)),.own 34])),q4 34 aa,(35,some (.box 59 [sV ad.f0,qi ad.f1,.own 36,.im (.row (ad.f3.map Z6))])),q5 36 aj,q2 37 ah],0⟩) fun ak=>.r0<|.cd (fun al=>.bl<|.el fun am ao aq=>.rg [(0,hX Z0 ao aq),(1,hL Z0 aq),(2,⟨.k 38,.n⟩)]<|.ck fun ar=>.rg [(3,hQ 39 Z0 ([am]:List Z1)),(4,hP 40 Z0 2 ar)]<|.r0<|.bk [(32,32),(33,33),(34,34),(35,35),(37,37),(40,36)] rfl)
 (fun al=>.o [(32,41),(33,42),(34,43),(35,44),(36,45)]))
 (.st (.exit 2) (fun au=>⟨[(2,.ptr 41 0 0),(3,.ptr 42 0 0),(6,.ptr 44 0 0),(15,.im (.row (a0.f2.map Z1g))),(16,qi (a0.f2.length:Int)),(17,qi ab)],[(41,some (qk2)),(42,some (.box 56 [qi a0.f0,.im (.row (a0.f1.map qe)),.own 43])),q4 43 aa,(44,some (.box 59 [sV ad.f0,qi ad.f1,.own 45,.im (.row (ad.f3.map Z6))])),q5 45 au],0⟩) fun au=>.cv [(41,41),(42,42),(43,43),(44,44)] [45] [] ⟨[(2,.ptr 41 0 0),(3,.ptr 42 0 0),(6,.ptr 44 0 0),(15,.im (.row (a0.f2.map Z1g))),(16,qi (a0.f2.length:Int)),(17,qi ab)],[(41,some (qk2)),(42,some (.box 56 [qi a0.f0,.im (.row (a0.f1.map qe)),.own 43])),q4 43 aa,(44,some (.box 59 (Z6e ⟨ad.f0,ad.f1,au,ad.f3⟩)))],0⟩<|.ck fun av=>.rg [(3,hQ 46 Z22 ([(⟨ad.f0,ad.f1,au,ad.f3⟩:Z1o)]:List Z1o)),(4,hP 47 Z22 4 av)]<|.r0<|.bk [(41,23),(42,24),(47,25)] rfl))
 (fun ac=>.o [(23,48),(24,49),(25,50)]))
 (.st (.exit 0) (fun ax=>⟨[(2,.ptr 48 0 0),(3,.ptr 49 0 0)],[(48,some (qk2)),(49,some (.box 56 [qi a0.f0,.im (.row (a0.f1.map qe)),.own 50])),q4 50 ax],0⟩) fun ax=>.r0<|.ret [(48,1),(50,0)] [] [] ⟨[(2,.ptr 1 0 0)],[q4 0 ((⟨a0.f0,a0.f1,ax⟩:Z0c).f2),(1,some (.box 56 [qi ((⟨a0.f0,a0.f1,ax⟩:Z0c).f0),.im (.row (((⟨a0.f0,a0.f1,ax⟩:Z0c).f1).map qe)),.own 0]))],0⟩))
def Z2a.f (a0:Int):Option Bool:=((if(decide (a0≥0))=true then(some (decide (a0≤1099511627776))) else(some false)):Option Bool)>>=fun aa=>some aa
theorem Z2a.ok (a0:Int):FN 29 [qi a0] [] 0 (Z2a.f a0) (fun r=>bV r) (fun r=>[]):=FT [] func29 (.r0<|.join (.sp (fun aa=>.rg [(2,hB aa)]<|.o [])
 (fun aa=>.rg [(2,hB aa)]<|.o []))
 (.st .normal (fun ab=>⟨[(2,bV ab)],[],0⟩) fun ab=>.ret [] [] [] ⟨[(2,bV ab)],[],0⟩))
def Z44.l0 (a0:ByteArray) (aa:Int):Option (Bool ⊕ Unit):=if(decide (aa<(a0.size:Int)))=true then((chk (0≤aa∧aa<(a0.size:Int)))>>=fun _=>((if((bt a0 aa)==95)=true then(some true) else(if(decide ((bt a0 aa)≥65))=true then(if(decide ((bt a0 aa)≤90))=true then(some true) else(if(decide ((bt a0 aa)≥97))=true then(if(decide ((bt a0 aa)≤122))=true then(some true) else(if(decide (aa>0))=true then(if(decide ((bt a0 aa)≥48))=true then(some (decide ((bt a0 aa)≤57))) else(some false)) else(some false))) else(if(decide (aa>0))=true then(if(decide ((bt a0 aa)≥48))=true then(some (decide ((bt a0 aa)≤57))) else(some false)) else(some false)))) else(if(decide ((bt a0 aa)≥97))=true then(if(decide ((bt a0 aa)≤122))=true then(some true) else(if(decide (aa>0))=true then(if(decide ((bt a0 aa)≥48))=true then(some (decide ((bt a0 aa)≤57))) else(some false)) else(some false))) else(if(decide (aa>0))=true then(if(decide ((bt a0 aa)≥48))=true then(some (decide ((bt a0 aa)≤57))) else(some false)) else(some false))))):Option Bool)>>=fun ab=>if(!ab)=true then(some (.inl false)) else(Z44.l0 a0 (i64.wrap (aa+1)))) else(some (.inr ()))
partial_fixpoint
def Z44.f (a0:ByteArray):Option Bool:=((if(decide ((a0.size:Int)<1))=true then(some true) else(some (decide ((a0.size:Int)>64)))):Option Bool)>>=fun aa=>if aa=true then(some false) else((Z44.l0 a0 0)>>=fun oo=>match oo with | .inl rr=>(some rr) | .inr _=>(some true))
theorem Z44.ok (a0:ByteArray):FN 100 [sV a0] [] 0 (Z44.f a0) (fun r=>bV r) (fun r=>[]):=FT [] func100 (.r0<|.join (.sp (fun aa=>.rg [(3,hB aa)]<|.o [])
 (fun aa=>.rg [(3,hB aa)]<|.o []))
 (.st .normal (fun ab=>⟨[(0,sV a0),(13,bV ab)],[],0⟩) fun ab=>.cd (fun ac=>.r0<|.ret [] [] [] ⟨[(2,bV false)],[],0⟩)
 (fun ac=>.r0<|.bl<|.loop (.one (Z44.l0.partial_correctness a0)) 0 [] [] [] (fun _=>.one (fun ad=>⟨[(0,sV a0),(3,qi ad)],[],0⟩) fun ad=>.r0<|.cd (fun ae=>.bl<|.ck fun af=>.rg [(2,hN (p2 af))]<|.join (.sp (fun ah=>.rg [(2,hB ah)]<|.o [])
 (fun ah=>.sp (fun ai=>.sp (fun aj=>.rg [(2,hB ah),(5,hB ai),(10,hB aj)]<|.o [])
 (fun aj=>.sp (fun ak=>.sp (fun al=>.rg [(2,hB ah),(5,hB ai),(10,hB aj),(13,hB ak),(18,hB al)]<|.o [])
 (fun al=>.sp (fun am=>.sp (fun ao=>.rg [(2,hB ah),(5,hB ai),(10,hB aj),(13,hB ak),(18,hB al),(21,hB am),(25,hB ao)]<|.o [])
 (fun ao=>.rg [(2,hB ah),(5,hB ai),(10,hB aj),(13,hB ak),(18,hB al),(21,hB am),(25,hB ao)]<|.o []))
 (fun am=>.rg [(2,hB ah),(5,hB ai),(10,hB aj),(13,hB ak),(18,hB al),(21,hB am)]<|.o [])))
 (fun ak=>.sp (fun aq=>.sp (fun ar=>.rg [(2,hB ah),(5,hB ai),(10,hB aj),(13,hB ak),(21,hB aq),(25,hB ar)]<|.o [])
 (fun ar=>.rg [(2,hB ah),(5,hB ai),(10,hB aj),(13,hB ak),(21,hB aq),(25,hB ar)]<|.o []))
 (fun aq=>.rg [(2,hB ah),(5,hB ai),(10,hB aj),(13,hB ak),(21,hB aq)]<|.o []))))
 (fun ai=>.sp (fun au=>.sp (fun av=>.rg [(2,hB ah),(5,hB ai),(13,hB au),(18,hB av)]<|.o [])
 (fun av=>.sp (fun ax=>.sp (fun az=>.rg [(2,hB ah),(5,hB ai),(13,hB au),(18,hB av),(21,hB ax),(25,hB az)]<|.o [])
 (fun az=>.rg [(2,hB ah),(5,hB ai),(13,hB au),(18,hB av),(21,hB ax),(25,hB az)]<|.o []))
 (fun ax=>.rg [(2,hB ah),(5,hB ai),(13,hB au),(18,hB av),(21,hB ax)]<|.o [])))
 (fun au=>.sp (fun a8=>.sp (fun a9=>.rg [(2,hB ah),(5,hB ai),(13,hB au),(21,hB a8),(25,hB a9)]<|.o [])
 (fun a9=>.rg [(2,hB ah),(5,hB ai),(13,hB au),(21,hB a8),(25,hB a9)]<|.o []))
 (fun a8=>.rg [(2,hB ah),(5,hB ai),(13,hB au),(21,hB a8)]<|.o [])))))
 (.st .normal (fun ba=>⟨[(0,sV a0),(3,qi ad),(5,bV ba)],[],0⟩) fun ba=>.r0<|.cd (fun bb=>.r0<|.ret [] [] [] ⟨[(2,bV false)],[],0⟩)
 (fun bb=>.r0<|.bk [] rfl)))
 (fun ae=>.o []))
 (.sm (.rt (fun rr=>bV rr) (fun rr=>[]))
 (.st (.exit 0) (fun _=>⟨[],[],0⟩) fun _=>.r0<|.ret [] [] [] ⟨[(2,bV true)],[],0⟩)))))
def Z45.l0 (a0:List Z2n) (aa:Int):Option (Int ⊕ Unit):=if(decide (aa<(a0.length:Int)))=true then((((at? a0 aa)>>=fun ab=>(Z44.f ab.f0)>>=fun ac=>if(!ac)=true then(some true) else(if(decide ((ab.f1.size:Int)<1))=true then(some true) else(some (decide ((ab.f1.size:Int)>64))))):Option Bool)>>=fun ad=>if ad=true then(some (.inl 26)) else(((if(decide (aa>0))=true then((at? a0 (i64.wrap (aa-1)))>>=fun ae=>(at? a0 aa)>>=fun af=>some (!(Op.bytesLess ae.f0.toList af.f0.toList))) else(some false)):Option Bool)>>=fun ah=>if ah=true then(some (.inl 26)) else(Z45.l0 a0 (i64.wrap (aa+1))))) else(some (.inr ()))
partial_fixpoint
def Z45.f (a0:List Z2n):Option Int:=if(decide ((a0.length:Int)>16))=true then(some 9) else((Z45.l0 a0 0)>>=fun oo=>match oo with | .inl rr=>(some rr) | .inr _=>(some 0))
theorem Z45.ok (a0:List Z2n):FN 63 [.im (.row (a0.map Z5e))] [] 0 (Z45.f a0) (fun r=>qi r) (fun r=>[]):=FT [] func63 (.r0<|.rg [(1,hG Z5e a0)]<|.cd (fun aa=>.r0<|.ret [] [] [] ⟨[(2,qi 9)],[],0⟩)
 (fun aa=>.r0<|.bl<|.loop (.one (Z45.l0.partial_correctness a0)) 0 [] [] [] (fun _=>.one (fun ab=>⟨[(0,.im (.row (a0.map Z5e))),(3,qi ab)],[],0⟩) fun ab=>.rg [(2,hG Z5e a0)]<|.cd (fun ac=>.bl<|.join (.el fun ad ae af=>.bd fun ah ai=>.sp (fun aj=>.rg [(2,hA Z5e ae af),(5,qh call100 (Z44.ok ad.f0 ah ai)),(7,hB aj)]<|.o [])
 (fun aj=>.sp (fun ak=>.rg [(2,hA Z5e ae af),(5,qh call100 (Z44.ok ad.f0 ah ai)),(7,hB aj),(10,hA Z5e ae af),(16,hB ak)]<|.o [])
 (fun ak=>.rg [(2,hA Z5e ae af),(5,qh call100 (Z44.ok ad.f0 ah ai)),(7,hB aj),(10,hA Z5e ae af),(16,hB ak),(19,hA Z5e ae af)]<|.o [])))
 (.st .normal (fun al=>⟨[(0,.im (.row (a0.map Z5e))),(3,qi ab),(37,bV al)],[],0⟩) fun al=>.cd (fun am=>.r0<|.ret [] [] [] ⟨[(2,qi 26)],[],0⟩)
 (fun am=>.join (.sp (fun ao=>.el fun aq ar au=>.el fun av ax az=>.rg [(2,hB ao),(6,hA Z5e ar au),(11,hA Z5e ax az)]<|.o [])
 (fun ao=>.rg [(2,hB ao)]<|.o []))
 (.st .normal (fun a8=>⟨[(0,.im (.row (a0.map Z5e))),(3,qi ab),(54,bV a8)],[],0⟩) fun a8=>.cd (fun a9=>.r0<|.ret [] [] [] ⟨[(2,qi 26)],[],0⟩)
 (fun a9=>.r0<|.bk [] rfl)))))
 (fun ac=>.o []))
 (.sm (.rt (fun rr=>qi rr) (fun rr=>[]))
 (.st (.exit 0) (fun _=>⟨[],[],0⟩) fun _=>.r0<|.ret [] [] [] ⟨[(2,qi 0)],[],0⟩))))
def Z2m.l0 (aa:ByteArray) (ab:List ByteArray):Option (Bool ⊕ (List ByteArray)):=if(decide ((aa.size:Int)>0))=true then((chk (0≤(0:Int)∧(0:Int)<(aa.size:Int)))>>=fun _=>if(decide ((i64.wrap ((i64.wrap (bt aa 0))+1))>(aa.size:Int)))=true then(some (.inl false)) else((chk (0≤(1:Int)∧(1:Int)≤(i64.wrap ((i64.wrap (bt aa 0))+1))∧(i64.wrap ((i64.wrap (bt aa 0))+1))≤(aa.size:Int)))>>=fun _=>(chk ((ab.length+[aa.extract (Int.toNat (1:Int)) (Int.toNat ((i64.wrap ((i64.wrap (bt aa 0))+1))))].length)*16≤140737488355328))>>=fun _=>(chk (0≤(i64.wrap ((i64.wrap (bt aa 0))+1))∧(i64.wrap ((i64.wrap (bt aa 0))+1))≤(aa.size:Int)∧(aa.size:Int)≤(aa.size:Int)))>>=fun _=>Z2m.l0  (aa.extract (Int.toNat ((i64.wrap ((i64.wrap (bt aa 0))+1)))) (Int.toNat (aa.size:Int))) (ab++[aa.extract (Int.toNat (1:Int)) (Int.toNat ((i64.wrap ((i64.wrap (bt aa 0))+1))))]))) else(some (.inr ab))
partial_fixpoint
def Z2m.l1 (aa:List ByteArray) (ab:List Z2n) (ac:Int):Option (List Z2n):=if(decide ((i64.wrap (ac+1))<(aa.length:Int)))=true then((at? aa ac)>>=fun ad=>(at? aa (i64.wrap (ac+1)))>>=fun ae=>(chk ((ab.length+[(⟨ad,ae⟩:Z2n)].length)*32≤140737488355328))>>=fun _=>Z2m.l1 aa (ab++[(⟨ad,ae⟩:Z2n)]) (i64.wrap (ac+2))) else(some ab)
partial_fixpoint
def Z2m.f (a0:ByteArray):Option Bool:=(Z2m.l0  a0 [])>>=fun oo=>match oo with | .inl rr=>(some rr) | .inr aa=>(if((Int.tmod (aa.length:Int) (2:Int))==1)=true then(some false) else((Z2m.l1 aa [] 0)>>=fun ab=>(Z45.f ab)>>=fun ac=>some (ac==0)))
abbrev q6:=@RW _ 1 9 Z6u
abbrev q7:=@RW _ 2 130 Z5e
theorem Z2m.ok (a0:ByteArray):FN 28 [sV a0] [] 0 (Z2m.f a0) (fun r=>bV r) (fun r=>[]):=FT [] func28 (.r0<|.r0<|.bl<|.loop (.c2 (Z2m.l0.partial_correctness )) (a0,[]) [] [] [2] (fun _=>.pr fun aa=>.one (fun ab=>⟨[(0,sV aa),(3,.own 2)],[q6 2 ab],0⟩) fun ab=>.r0<|.cd (fun ac=>.bl<|.ck fun ad=>.rg [(1,hN (p2 ad))]<|.r0<|.cd (fun ae=>.r0<|.ret [] [] [] ⟨[(2,bV false)],[],0⟩)
 (fun ae=>.ck fun af=>.ck fun ah=>.rg [(4,hN (p3 af)),(5,hQ 3 Z6u ([aa.extract (Int.toNat (1:Int)) (Int.toNat ((i64.wrap ((i64.wrap (bt aa 0))+1))))]:List ByteArray)),(6,hP 4 Z6u 1 ah)]<|.ck fun ai=>.rg [(3,hN (p3 ai))]<|.bk [(4,2)] rfl))
 (fun ac=>.o [(2,5)]))
 (.sm (.rt (fun rr=>bV rr) (fun rr=>[]))
 (.st (.exit 0) (fun aj=>⟨[(3,.own 5)],[q6 5 aj],0⟩) fun aj=>.rg [(1,hG Z6u aj),(2,hJ 2)]<|.cd (fun ak=>.r0<|.ret [] [] [] ⟨[(2,bV false)],[],0⟩)
 (fun ak=>.r0<|.r0<|.bl<|.loop (.c2 (Z2m.l1.partial_correctness aj)) ([],0) [(5,8)] [] [9] (fun _=>.pr fun al=>.one (fun am=>⟨[(3,.own 8),(5,.own 9),(6,qi am)],[q6 8 aj,q7 9 al],0⟩) fun am=>.rg [(3,hG Z6u aj)]<|.cd (fun ao=>.bl<|.el fun aq ar au=>.el fun av ax az=>.ck fun a8=>.rg [(3,hX Z6u ar au),(4,hL Z6u au),(8,hX Z6u ax az),(9,hL Z6u az),(11,hQ 10 Z5e ([(⟨aq,av⟩:Z2n)]:List Z2n)),(12,hP 11 Z5e 2 a8)]<|.r0<|.bk [(8,8),(11,9)] rfl)
 (fun ao=>.o [(9,12)]))
 (.st (.exit 2) (fun a9=>⟨[(5,.own 12)],[q7 12 a9],0⟩) fun a9=>.bd fun ba bb=>.rg [(1,hC [] [] [12] [] call63 (Z45.ok a9 ba bb))]<|.ret [] [] [] ⟨[(2,bV (ba==0))],[],0⟩)))))
def Z1f.f (a0:Int):Option Bool:=((if(decide (a0≥(-4)))=true then(some (decide (a0≤8))) else(some false)):Option Bool)>>=fun aa=>some aa
theorem Z1f.ok (a0:Int):FN 64 [qi a0] [] 0 (Z1f.f a0) (fun r=>bV r) (fun r=>[]):=FT [] func64 (.r0<|.join (.sp (fun aa=>.rg [(2,hB aa)]<|.o [])
 (fun aa=>.rg [(2,hB aa)]<|.o []))
 (.st .normal (fun ab=>⟨[(2,bV ab)],[],0⟩) fun ab=>.ret [] [] [] ⟨[(2,bV ab)],[],0⟩))
def Z47.l0 (aa:Int) (ab:Int):Option Int:=if(decide (ab<8))=true then(Z47.l0  (i64.wrap (aa*2)) (i64.wrap (ab+1))) else(some aa)
partial_fixpoint
def Z47.f (a0:Int):Option Int:=(Z47.l0  1 a0)>>=fun aa=>some aa
theorem Z47.ok (a0:Int):FN 101 [qi a0] [] 0 (Z47.f a0) (fun r=>qi r) (fun r=>[]):=FT [] func101 (.r0<|.r0<|.r0<|.bl<|.loop (.c2 (Z47.l0.partial_correctness )) (1,a0) [] [] [] (fun _=>.pr fun aa=>.one (fun ab=>⟨[(3,qi aa),(4,qi ab)],[],0⟩) fun ab=>.r0<|.cd (fun ac=>.bl<|.r0<|.r0<|.bk [] rfl)
 (fun ac=>.o []))
 (.st (.exit 0) (fun ad=>⟨[(3,qi ad)],[],0⟩) fun ad=>.r0<|.ret [] [] [] ⟨[(2,qi ad)],[],0⟩))
def Z1c.f (a0:Int) (a1:Int):Option Int:=(Z1f.f a0)>>=fun aa=>if(!aa)=true then(some 0) else((Z47.f a0)>>=fun ab=>some (i64.wrap (a1*ab)))
theorem Z1c.ok (a0:Int) (a1:Int):FN 66 [qi a0,qi a1] [] 0 (Z1c.f a0 a1) (fun r=>qi r) (fun r=>[]):=FT [] func66 (.r0<|.bd fun aa ab=>.rg [(1,qh call64 (Z1f.ok a0 aa ab))]<|.cd (fun ac=>.r0<|.ret [] [] [] ⟨[(4,qi 0)],[],0⟩)
 (fun ac=>.bd fun ad ae=>.rg [(2,qh call101 (Z47.ok a0 ad ae))]<|.ret [] [] [] ⟨[(4,qi (i64.wrap (a1*ad)))],[],0⟩))
def Z8i.f (a0:Int) (a1:Int):Option Bool:=(((Z1f.f a0)>>=fun aa=>if aa=true then(if(decide (a1>(-262144)))=true then(if(decide (a1≤262144))=true then((Z1c.f a0 a1)>>=fun ab=>if(decide (ab>(-262144)))=true then((Z1c.f a0 a1)>>=fun ac=>some (decide (ac≤262144))) else(some false)) else(some false)) else(some false)) else(some false)):Option Bool)>>=fun ad=>some ad
theorem Z8i.ok (a0:Int) (a1:Int):FN 65 [qi a0,qi a1] [] 0 (Z8i.f a0 a1) (fun r=>bV r) (fun r=>[]):=FT [] func65 (.r0<|.join (.bd fun aa ab=>.sp (fun ac=>.sp (fun ad=>.sp (fun ae=>.bd fun af ah=>.sp (fun ai=>.bd fun aj ak=>.rg [(1,qh call64 (Z1f.ok a0 aa ab)),(2,hB ac),(6,hB ad),(10,hB ae),(13,qh call66 (Z1c.ok a0 a1 af ah)),(16,hB ai),(19,qh call66 (Z1c.ok a0 a1 aj ak))]<|.o [])
 (fun ai=>.rg [(1,qh call64 (Z1f.ok a0 aa ab)),(2,hB ac),(6,hB ad),(10,hB ae),(13,qh call66 (Z1c.ok a0 a1 af ah)),(16,hB ai)]<|.o []))
 (fun ae=>.rg [(1,qh call64 (Z1f.ok a0 aa ab)),(2,hB ac),(6,hB ad),(10,hB ae)]<|.o []))
 (fun ad=>.rg [(1,qh call64 (Z1f.ok a0 aa ab)),(2,hB ac),(6,hB ad)]<|.o []))
 (fun ac=>.rg [(1,qh call64 (Z1f.ok a0 aa ab)),(2,hB ac)]<|.o []))
 (.st .normal (fun al=>⟨[(4,bV al)],[],0⟩) fun al=>.ret [] [] [] ⟨[(4,bV al)],[],0⟩))
def Z4w.l0 (a0:List Int) (aa:Int) (ab:Int):Option ((Int×Int) ⊕ Int):=if(decide (ab<(a0.length:Int)))=true then((at? a0 ab)>>=fun ac=>if(decide (ac>(u64.wrap ((18446744073709551615:Int)-aa))))=true then(some (.inl (0,5))) else(Z4w.l0 a0 (u64.wrap (aa+ac)) (i64.wrap (ab+1)))) else(some (.inr aa))
partial_fixpoint
def Z4w.f (a0:List Int):Option (Int×Int):=(Z4w.l0 a0 0 0)>>=fun oo=>match oo with | .inl rr=>(some rr) | .inr aa=>(some (aa,0))
theorem Z4w.ok (a0:List Int):FN 67 [.im (.row (a0.map qv))] [] 0 (Z4w.f a0) (fun r=>.tup [qu r.1,qi r.2]) (fun r=>[]):=FT [] func67 (.r0<|.r0<|.r0<|.bl<|.loop (.c2 (Z4w.l0.partial_correctness a0)) (0,0) [] [] [] (fun _=>.pr fun aa=>.one (fun ab=>⟨[(0,.im (.row (a0.map qv))),(4,qu aa),(5,qi ab)],[],0⟩) fun ab=>.rg [(2,hG qv a0)]<|.cd (fun ac=>.bl<|.el fun ad ae af=>.rg [(2,hA qv ae af)]<|.cd (fun ah=>.r0<|.ret [] [] [] ⟨[(2,qu 0),(3,qi 5)],[],0⟩)
 (fun ah=>.rg [(3,hA qv ae af)]<|.r0<|.bk [] rfl))
 (fun ac=>.o []))
 (.sm (.rt (fun rr=>.tup [qu rr.1,qi rr.2]) (fun rr=>[]))
 (.st (.exit 0) (fun ai=>⟨[(4,qu ai)],[],0⟩) fun ai=>.r0<|.ret [] [] [] ⟨[(2,qu ai),(3,qi 0)],[],0⟩)))
def Z0g.l1 (a0:Zj) (aa:Int) (ab:List Z2) (ac:List Int) (ad:Int):Option (Int ⊕ (List Int)):=if(decide (ad<(ab.length:Int)))=true then((at? ab ad)>>=fun ae=>(Z8i.f a0.f1 ae.f0)>>=fun af=>if(!af)=true then(some (.inl 4)) else(((if(decide (ad>0))=true then((at? ab (i64.wrap (ad-1)))>>=fun ah=>some (decide (ae.f0≤ah.f0))) else(some false)):Option Bool)>>=fun ai=>if ai=true then(some (.inl 32)) else(if(ae.f1==0)=true then(some (.inl 21)) else((Z1c.f a0.f1 (i64.wrap (ae.f0-1)))>>=fun aj=>if(decide (aj<a0.f2))=true then(some (.inl 31)) else((chk ((ac.length+[ae.f1].length)*8≤140737488355328))>>=fun _=>Z0g.l1 a0 aa ab (ac++[ae.f1]) (i64.wrap (ad+1))))))) else(some (.inr ac))
partial_fixpoint
def Z0g.l0 (a0:Zj) (aa:List Int) (ab:Int):Option (Int ⊕ (List Int)):=if(decide (ab<2))=true then(((if(ab==1)=true then(some a0.f7) else(some a0.f6)):Option (List Z2))>>=fun ac=>if(decide ((ac.length:Int)>512))=true then(some (.inl 9)) else((Z0g.l1 a0 ab ac aa 0)>>=fun oo=>match oo with | .inl rr=>(some (.inl rr)) | .inr ad=>(Z0g.l0 a0 ad (i64.wrap (ab+1))))) else(some (.inr aa))
partial_fixpoint
def Z0g.f (a0:Zj):Option Int:=((if(a0.f0 != 0)=true then(some (a0.f0 != 1)) else(some false)):Option Bool)>>=fun aa=>if aa=true then(some 25) else((Z1f.f a0.f1)>>=fun ab=>if(!ab)=true then(some 20) else(((if(a0.f2 != (-524288))=true then(if(decide (a0.f2≤(-262144)))=true then(some true) else(some (decide (a0.f2>262144)))) else(some false)):Option Bool)>>=fun ac=>if ac=true then(some 31) else((Z0g.l0 a0 [a0.f3] 0)>>=fun oo=>match oo with | .inl rr=>(some rr) | .inr ad=>((Z4w.f ad)>>=fun ae=>if(ae.2 != 0)=true then(some 5) else(if(ae.1 != a0.f4)=true then(some 21) else(some 0))))))
abbrev q8:=@RW _ 1 45 qv
theorem Z0g.ok (a0:Zj):FN 30 [.agg (Z10 a0)] [] 0 (Z0g.f a0) (fun r=>qi r) (fun r=>[]):=FT [] func30 (.rg [(0,⟨.k 0,.n⟩)]<|.join (.sp (fun aa=>.rg [(3,hB aa)]<|.o [(0,1)])
 (fun aa=>.rg [(3,hB aa)]<|.o [(0,1)]))
 (.st .normal (fun ab=>⟨[(1,.ptr 1 0 0),(16,bV ab)],[(1,some (.box 48 (Z10 a0)))],0⟩) fun ab=>.cd (fun ac=>.r0<|.ret [] [] [] ⟨[(2,qi 25)],[],0⟩)
 (fun ac=>.bd fun ad ae=>.rg [(2,qh call64 (Z1f.ok a0.f1 ad ae))]<|.cd (fun af=>.r0<|.ret [] [] [] ⟨[(2,qi 20)],[],0⟩)
 (fun af=>.join (.sp (fun ah=>.sp (fun ai=>.rg [(3,hB ah),(7,hB ai)]<|.o [(1,2)])
 (fun ai=>.rg [(3,hB ah),(7,hB ai)]<|.o [(1,2)]))
 (fun ah=>.rg [(3,hB ah)]<|.o [(1,2)]))
 (.st .normal (fun aj=>⟨[(1,.ptr 2 0 0),(33,bV aj)],[(2,some (.box 48 (Z10 a0)))],0⟩) fun aj=>.cd (fun ak=>.r0<|.ret [] [] [] ⟨[(2,qi 31)],[],0⟩)
 (fun ak=>.rg [(2,hQ 3 qv ([a0.f3]:List Int))]<|.r0<|.bl<|.loop (.c2 (Z0g.l0.partial_correctness a0)) ([a0.f3],0) [(2,14),(3,15)] [] [] (fun _=>.pr fun al=>.one (fun am=>⟨[(1,.ptr 14 0 0),(3,.own 15),(4,qi am)],[(14,some (.box 48 (Z10 a0))),q8 15 al],0⟩) fun am=>.r0<|.cd (fun ao=>.bl<|.r0<|.r0<|.join (.cd (fun aq=>.r0<|.o [(14,16),(15,17)])
 (fun aq=>.o [(14,16),(15,17)]))
 (.st .normal (fun ar=>⟨[(1,.ptr 16 0 0),(3,.own 17),(4,qi am),(5,.im (.row (ar.map Z3)))],[(16,some (.box 48 (Z10 a0))),q8 17 al],0⟩) fun ar=>.rg [(1,hG Z3 ar)]<|.cd (fun au=>.r0<|.ret [] [] [] ⟨[(2,qi 9)],[],0⟩)
 (fun au=>.r0<|.bl<|.loop (.c2 (Z0g.l1.partial_correctness a0 am ar)) (al,0) [(16,20),(17,21)] [] [] (fun _=>.pr fun av=>.one (fun ax=>⟨[(1,.ptr 20 0 0),(3,.own 21),(4,qi am),(5,.im (.row (ar.map Z3))),(6,qi ax)],[(20,some (.box 48 (Z10 a0))),q8 21 av],0⟩) fun ax=>.rg [(2,hG Z3 ar)]<|.cd (fun az=>.bl<|.el fun a8 a9 ba=>.bd fun bb bc=>.rg [(4,hA Z3 a9 ba),(7,qh call65 (Z8i.ok a0.f1 a8.f0 bb bc))]<|.cd (fun be=>.r0<|.ret [] [] [] ⟨[(2,qi 4)],[],0⟩)
 (fun be=>.join (.sp (fun bf=>.el fun bg bh bi=>.rg [(2,hB bf),(5,hA Z3 a9 ba),(11,hA Z3 bh bi)]<|.o [(20,22),(21,23)])
 (fun bf=>.rg [(2,hB bf)]<|.o [(20,22),(21,23)]))
 (.st .normal (fun bj=>⟨[(1,.ptr 22 0 0),(3,.own 23),(4,qi am),(5,.im (.row (ar.map Z3))),(6,qi ax),(80,bV bj)],[(22,some (.box 48 (Z10 a0))),q8 23 av],0⟩) fun bj=>.cd (fun bn=>.r0<|.ret [] [] [] ⟨[(2,qi 32)],[],0⟩)
 (fun bn=>.rg [(2,hA Z3 a9 ba)]<|.cd (fun bo=>.r0<|.ret [] [] [] ⟨[(2,qi 21)],[],0⟩)
 (fun bo=>.bd fun bp bq=>.rg [(4,hA Z3 a9 ba),(8,qh call66 (Z1c.ok a0.f1 (i64.wrap (a8.f0-1)) bp bq))]<|.cd (fun br=>.r0<|.ret [] [] [] ⟨[(2,qi 31)],[],0⟩)
 (fun br=>.ck fun bu=>.rg [(3,hA Z3 a9 ba),(6,hQ 24 qv ([a8.f1]:List Int)),(7,hP 25 qv 1 bu)]<|.r0<|.bk [(22,20),(25,21)] rfl))))))
 (fun az=>.o [(20,26),(21,27)]))
 (.sm (.rt (fun rr=>qi rr) (fun rr=>[]))
 (.st (.exit 2) (fun bv=>⟨[(1,.ptr 26 0 0),(3,.own 27),(4,qi am)],[(26,some (.box 48 (Z10 a0))),q8 27 bv],0⟩) fun bv=>.r0<|.bk [(26,14),(27,15)] rfl)))))
 (fun ao=>.o [(14,28),(15,29)]))
 (.sm (.rt (fun rr=>qi rr) (fun rr=>[]))
 (.st (.exit 0) (fun bw=>⟨[(1,.ptr 28 0 0),(3,.own 29)],[(28,some (.box 48 (Z10 a0))),q8 29 bw],0⟩) fun bw=>.bd fun bx bz=>.rg [(1,hC [] [] [29] [] call67 (Z4w.ok bw bx bz))]<|.r0<|.cd (fun ca=>.r0<|.ret [] [] [] ⟨[(2,qi 5)],[],0⟩)
 (fun ca=>.r0<|.cd (fun cb=>.r0<|.ret [] [] [] ⟨[(2,qi 21)],[],0⟩)
 (fun cb=>.r0<|.ret [] [] [] ⟨[(2,qi 0)],[],0⟩))))))))))
def Z2b.l0 (a0:List Z7) (aa:Int):Option (Bool ⊕ Unit):=if(decide (aa<(a0.length:Int)))=true then((((at? a0 aa)>>=fun ab=>(Z2a.f ab.f0)>>=fun ac=>if(!ac)=true then(some true) else((Z0g.f ab.f1)>>=fun ad=>if(ad != 0)=true then(some true) else(if(decide (aa>0))=true then((at? a0 (i64.wrap (aa-1)))>>=fun ae=>some (decide (ab.f0≤ae.f0))) else(some false)))):Option Bool)>>=fun af=>if af=true then(some (.inl false)) else(Z2b.l0 a0 (i64.wrap (aa+1)))) else(some (.inr ()))
partial_fixpoint
def Z2b.f (a0:List Z7):Option Bool:=(Z2b.l0 a0 0)>>=fun oo=>match oo with | .inl rr=>(some rr) | .inr _=>(some true)
theorem Z2b.ok (a0:List Z7):FN 19 [.im (.row (a0.map Z6))] [] 0 (Z2b.f a0) (fun r=>bV r) (fun r=>[]):=FT [] func19 (.r0<|.r0<|.bl<|.loop (.one (Z2b.l0.partial_correctness a0)) 0 [] [] [] (fun _=>.one (fun aa=>⟨[(0,.im (.row (a0.map Z6))),(3,qi aa)],[],0⟩) fun aa=>.rg [(2,hG Z6 a0)]<|.cd (fun ab=>.bl<|.join (.el fun ac ad ae=>.bd fun af ah=>.sp (fun ai=>.rg [(2,hA Z6 ad ae),(5,qh call29 (Z2a.ok ac.f0 af ah)),(7,hB ai)]<|.o [])
 (fun ai=>.bd fun aj ak=>.sp (fun al=>.rg [(2,hA Z6 ad ae),(5,qh call29 (Z2a.ok ac.f0 af ah)),(7,hB ai),(10,hA Z6 ad ae),(13,qh call30 (Z0g.ok ac.f1 aj ak)),(16,hB al)]<|.o [])
 (fun al=>.sp (fun am=>.el fun ao aq ar=>.rg [(2,hA Z6 ad ae),(5,qh call29 (Z2a.ok ac.f0 af ah)),(7,hB ai),(10,hA Z6 ad ae),(13,qh call30 (Z0g.ok ac.f1 aj ak)),(16,hB al),(19,hB am),(22,hA Z6 ad ae),(28,hA Z6 aq ar)]<|.o [])
 (fun am=>.rg [(2,hA Z6 ad ae),(5,qh call29 (Z2a.ok ac.f0 af ah)),(7,hB ai),(10,hA Z6 ad ae),(13,qh call30 (Z0g.ok ac.f1 aj ak)),(16,hB al),(19,hB am)]<|.o []))))
 (.st .normal (fun au=>⟨[(0,.im (.row (a0.map Z6))),(3,qi aa),(43,bV au)],[],0⟩) fun au=>.cd (fun av=>.r0<|.ret [] [] [] ⟨[(2,bV false)],[],0⟩)
 (fun av=>.r0<|.bk [] rfl)))
 (fun ab=>.o []))
 (.sm (.rt (fun rr=>bV rr) (fun rr=>[]))
 (.st (.exit 0) (fun _=>⟨[],[],0⟩) fun _=>.r0<|.ret [] [] [] ⟨[(2,bV true)],[],0⟩)))
def Z5p.f (a0:Z1):Option Bool:=((if(decide (a0.f0≥0))=true then(if(decide (a0.f1≥a0.f0))=true then(some (decide (a0.f1≤1099511627776))) else(some false)) else(some false)):Option Bool)>>=fun aa=>some aa
theorem Z5p.ok (a0:Z1):FN 31 [.agg [qi a0.f0,qi a0.f1]] [] 0 (Z5p.f a0) (fun r=>bV r) (fun r=>[]):=FT [] func31 (.rg [(0,⟨.k 0,.n⟩)]<|.join (.sp (fun aa=>.sp (fun ab=>.rg [(3,hB aa),(10,hB ab)]<|.o [])
 (fun ab=>.rg [(3,hB aa),(10,hB ab)]<|.o []))
 (fun aa=>.rg [(3,hB aa)]<|.o []))
 (.st .normal (fun ac=>⟨[(2,bV ac)],[],0⟩) fun ac=>.ret [] [] [] ⟨[(2,bV ac)],[],0⟩))
def Z5f.l0 (a0:List Z1) (a1:Int) (aa:Int):Option (Bool ⊕ Unit):=if(decide (aa<(a0.length:Int)))=true then((((at? a0 aa)>>=fun ab=>(Z5p.f ab)>>=fun ac=>if ac=true then(if(decide (ab.f0≤a1))=true then(some (decide (a1≤ab.f1))) else(some false)) else(some false)):Option Bool)>>=fun ad=>if ad=true then(some (.inl true)) else(Z5f.l0 a0 a1 (i64.wrap (aa+1)))) else(some (.inr ()))
partial_fixpoint
def Z5f.f (a0:List Z1) (a1:Int):Option Bool:=(Z5f.l0 a0 a1 0)>>=fun oo=>match oo with | .inl rr=>(some rr) | .inr _=>(some false)
theorem Z5f.ok (a0:List Z1) (a1:Int):FN 59 [.im (.row (a0.map Z0)),qi a1] [] 0 (Z5f.f a0 a1) (fun r=>bV r) (fun r=>[]):=FT [] func59 (.r0<|.r0<|.bl<|.loop (.one (Z5f.l0.partial_correctness a0 a1)) 0 [] [] [] (fun _=>.one (fun aa=>⟨[(0,.im (.row (a0.map Z0))),(1,qi a1),(5,qi aa)],[],0⟩) fun aa=>.rg [(2,hG Z0 a0)]<|.cd (fun ab=>.bl<|.join (.el fun ac ad ae=>.bd fun af ah=>.sp (fun ai=>.sp (fun aj=>.rg [(2,hA Z0 ad ae),(4,qh call31 (Z5p.ok ac af ah)),(5,hB ai),(8,hA Z0 ad ae),(14,hB aj),(18,hA Z0 ad ae)]<|.o [])
 (fun aj=>.rg [(2,hA Z0 ad ae),(4,qh call31 (Z5p.ok ac af ah)),(5,hB ai),(8,hA Z0 ad ae),(14,hB aj)]<|.o []))
 (fun ai=>.rg [(2,hA Z0 ad ae),(4,qh call31 (Z5p.ok ac af ah)),(5,hB ai)]<|.o []))
 (.st .normal (fun ak=>⟨[(0,.im (.row (a0.map Z0))),(1,qi a1),(5,qi aa),(34,bV ak)],[],0⟩) fun ak=>.cd (fun al=>.r0<|.ret [] [] [] ⟨[(4,bV true)],[],0⟩)
 (fun al=>.r0<|.bk [] rfl)))
 (fun ab=>.o []))
 (.sm (.rt (fun rr=>bV rr) (fun rr=>[]))
 (.st (.exit 0) (fun _=>⟨[],[],0⟩) fun _=>.r0<|.ret [] [] [] ⟨[(4,bV false)],[],0⟩)))
end Go.Proofs.YtinhldbfifpakaaGreat.PvGL3
