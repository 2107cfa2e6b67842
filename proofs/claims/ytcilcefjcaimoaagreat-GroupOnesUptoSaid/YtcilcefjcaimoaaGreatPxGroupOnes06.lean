import Derived.Test.YtcilcefjcaimoaaGreatProg
import Derived.Test.YtcilcefjcaimoaaGreatPxGroupOnes05
set_option linter.unusedVariables false
set_option linter.unnecessarySimpa false
set_option linter.unusedSimpArgs false
set_option maxRecDepth 10000
namespace Go.Proofs.YtcilcefjcaimoaaGreat.PvGQ
open Go Go.Pv Tryz Go.IntKind
structure Z1r where
 f0:Int
 f1:Int
 f2:Int
 f3:Int
 f4:Int
 f5:Int
 f6:Int
 deriving DecidableEq,Inhabited
abbrev er19_Ask (x:Z1r):List Im:=[iI .i64 x.f0,iI .u64 x.f1,iI .u64 x.f2,iI .i64 x.f3,iI .i64 x.f4,iI .i64 x.f5,iI .i64 x.f6]
abbrev Z44 (x:Z1r):List AVal:=[iV .i64 x.f0,iV .u64 x.f1,iV .u64 x.f2,iV .i64 x.f3,iV .i64 x.f4,iV .i64 x.f5,iV .i64 x.f6]
structure Rr19_Ask (x:Z1r):Prop where
 r0:I64 x.f0
 r1:U64 x.f1
 r2:U64 x.f2
 r3:I64 x.f3
 r4:I64 x.f4
 r5:I64 x.f5
 r6:I64 x.f6
structure Zo where
 f0:ByteArray
 f1:ByteArray
 deriving DecidableEq,Inhabited
abbrev Zz (x:Zo):List Im:=[sI x.f0,sI x.f1]
abbrev aLabel (x:Zo):List AVal:=[sV x.f0,sV x.f1]
structure RLabel (x:Zo):Prop where
 r0:x.f0.size≤1048576
 r1:x.f1.size≤1048576
structure Z0 where
 f0:Int
 f1:Int
 deriving DecidableEq,Inhabited
abbrev Z5 (x:Z0):List Im:=[iI .i64 x.f0,iI .u64 x.f1]
abbrev Z6q (x:Z0):List AVal:=[iV .i64 x.f0,iV .u64 x.f1]
structure RBucket (x:Z0):Prop where
 r0:I64 x.f0
 r1:U64 x.f1
structure Z1 where
 f0:Int
 f1:Int
 f2:Int
 f3:Int
 f4:Int
 f5:Int
 f6:List Z0
 f7:List Z0
 deriving DecidableEq,Inhabited
abbrev Z2z (x:Z1):List Im:=[iI .i64 x.f0,iI .i64 x.f1,iI .i64 x.f2,iI .u64 x.f3,iI .u64 x.f4,iI .i64 x.f5,.row (x.f6.map Z5),.row (x.f7.map Z5)]
abbrev Zv (x:Z1):List AVal:=[iV .i64 x.f0,iV .i64 x.f1,iV .i64 x.f2,iV .u64 x.f3,iV .u64 x.f4,iV .i64 x.f5,.im (.row (x.f6.map Z5)),.im (.row (x.f7.map Z5))]
structure RHist (x:Z1):Prop where
 r0:I64 x.f0
 r1:I64 x.f1
 r2:I64 x.f2
 r3:U64 x.f3
 r4:U64 x.f4
 r5:I64 x.f5
 r6:x.f6.length≤1048576∧∀ y∈x.f6,RBucket y
 r7:x.f7.length≤1048576∧∀ y∈x.f7,RBucket y
structure Z06 where
 f0:Int
 f1:Z1
 deriving DecidableEq,Inhabited
abbrev Z05 (x:Z06):List Im:=[iI .i64 x.f0,iI .i64 x.f1.f0,iI .i64 x.f1.f1,iI .i64 x.f1.f2,iI .u64 x.f1.f3,iI .u64 x.f1.f4,iI .i64 x.f1.f5,.row (x.f1.f6.map Z5),.row (x.f1.f7.map Z5)]
structure RSample (x:Z06):Prop where
 r0:I64 x.f0
 r1:RHist x.f1
structure Zr where
 f0:List Zo
 f1:List Z06
 deriving DecidableEq,Inhabited
abbrev Zq (x:Zr):List Im:=[.row (x.f0.map Zz),.row (x.f1.map Z05)]
abbrev Zc3 (x:Zr):List AVal:=[.im (.row (x.f0.map Zz)),.im (.row (x.f1.map Z05))]
structure RSeries (x:Zr):Prop where
 r0:x.f0.length≤1048576∧∀ y∈x.f0,RLabel y
 r1:x.f1.length≤1048576∧∀ y∈x.f1,RSample y
structure Z0e where
 f0:Int
 f1:Int
 deriving DecidableEq,Inhabited
abbrev Z8l (x:Z0e):List AVal:=[iV .i64 x.f0,iV .i64 x.f1]
structure Rrank_Place (x:Z0e):Prop where
 r0:I64 x.f0
 r1:I64 x.f1
structure Z27 where
 f0:Int
 f1:Int
 f2:Int
 f3:Z0e
 f4:Int
 f5:Int
 deriving DecidableEq,Inhabited
structure Reval_Ask (x:Z27):Prop where
 r0:I64 x.f0
 r1:U64 x.f1
 r2:U64 x.f2
 r3:Rrank_Place x.f3
 r4:I64 x.f4
 r5:I64 x.f5
structure Z6e where
 f0:Int
 f1:Int
 deriving DecidableEq,Inhabited
abbrev Z9c (x:Z6e):List AVal:=[iV .u64 x.f0,iV .u64 x.f1]
structure Rnum_Wide (x:Z6e):Prop where
 r0:U64 x.f0
 r1:U64 x.f1
structure Z8 where
 f0:Int
 f1:Int
 f2:Int
 deriving DecidableEq,Inhabited
abbrev Z37 (x:Z8):List AVal:=[iV .i64 x.f0,iV .i64 x.f1,iV .i64 x.f2]
structure Zd6 (x:Z8):Prop where
 r0:I64 x.f0
 r1:I64 x.f1
 r2:I64 x.f2
structure Zt where
 f0:Z8
 f1:Int
 deriving DecidableEq,Inhabited
abbrev Z3o (x:Zt):List Im:=[iI .i64 x.f0.f0,iI .i64 x.f0.f1,iI .i64 x.f0.f2,iI .u64 x.f1]
structure Rrank_Cell (x:Zt):Prop where
 r0:Zd6 x.f0
 r1:U64 x.f1
structure Ze where
 f0:Int
 f1:Int
 f2:Int
 deriving DecidableEq,Inhabited
abbrev Z3w (x:Ze):List AVal:=[iV .u64 x.f0,iV .u64 x.f1,iV .u64 x.f2]
structure Rrank_Part (x:Ze):Prop where
 r0:U64 x.f0
 r1:U64 x.f1
 r2:U64 x.f2
structure Z7 where
 f0:Z1
 f1:Int
 f2:Int
 f3:Z8
 f4:Ze
 deriving DecidableEq,Inhabited
structure Reval_Answer (x:Z7):Prop where
 r0:RHist x.f0
 r1:I64 x.f1
 r2:U64 x.f2
 r3:Zd6 x.f3
 r4:Rrank_Part x.f4
structure Z2w where
 f0:List Zo
 f1:Z7
 f2:Int
 deriving DecidableEq,Inhabited
abbrev Zy (x:Z2w):List Im:=[.row (x.f0.map Zz),iI .i64 x.f1.f0.f0,iI .i64 x.f1.f0.f1,iI .i64 x.f1.f0.f2,iI .u64 x.f1.f0.f3,iI .u64 x.f1.f0.f4,iI .i64 x.f1.f0.f5,.row (x.f1.f0.f6.map Z5),.row (x.f1.f0.f7.map Z5),iI .i64 x.f1.f1,iI .u64 x.f1.f2,iI .i64 x.f1.f3.f0,iI .i64 x.f1.f3.f1,iI .i64 x.f1.f3.f2,iI .u64 x.f1.f4.f0,iI .u64 x.f1.f4.f1,iI .u64 x.f1.f4.f2,iI .i64 x.f2]
structure Rgroup_Row (x:Z2w):Prop where
 r0:x.f0.length≤1048576∧∀ y∈x.f0,RLabel y
 r1:Reval_Answer x.f1
 r2:I64 x.f2
structure Z4 where
 f0:Int
 f1:Int
 f2:Int
 f3:Int
 deriving DecidableEq,Inhabited
abbrev Z2d (x:Z4):List Im:=[iI .i64 x.f0,iI .i64 x.f1,iI .i64 x.f2,iI .u64 x.f3]
abbrev Z4o (x:Z4):List AVal:=[iV .i64 x.f0,iV .i64 x.f1,iV .i64 x.f2,iV .u64 x.f3]
structure Rr08_Cell (x:Z4):Prop where
 r0:I64 x.f0
 r1:I64 x.f1
 r2:I64 x.f2
 r3:U64 x.f3
structure S90 where
 f0:Int
 f1:Int
 f2:Int
 deriving DecidableEq,Inhabited
structure R90 (x:S90):Prop where
 r0:U64 x.f0
 r1:U64 x.f1
 r2:U64 x.f2
structure Z2 where
 f0:Z1
 f1:Int
 f2:Int
 f3:Z4
 f4:S90
 deriving DecidableEq,Inhabited
structure Rr19_Answer (x:Z2):Prop where
 r0:RHist x.f0
 r1:I64 x.f1
 r2:U64 x.f2
 r3:Rr08_Cell x.f3
 r4:R90 x.f4
structure Tr20_Row where
 f0:List Zo
 f1:Z2
 f2:Int
 deriving DecidableEq,Inhabited
structure Rr20_Row (x:Tr20_Row):Prop where
 r0:x.f0.length≤1048576∧∀ y∈x.f0,RLabel y
 r1:Rr19_Answer x.f1
 r2:I64 x.f2
theorem hmx:Tryz.prog.follows .mixedOrders=true:=by kernel_rfl
abbrev FN (f:Nat) (A:List AVal) (O:List (Nat×Option MObj)) (k:Nat) {ρ:Type} (y:Option ρ) (x:ρ→AVal) (o:ρ→List (Nat×Option MObj)):Prop:=∀ r,y=some r→Pv.Fn Tryz.prog f A O k (fun a b=>a=x r∧b=o r)
theorem FT {f:Nat} {fn:Func} {c:Code} {A:List AVal} {O:List (Nat×Option MObj)} {k:Nat} {ρ:Type} {y:Option ρ} {x:ρ→AVal} {o:ρ→List (Nat×Option MObj)} (keys:List Nat) (hf:Tryz.prog.funcs[f]? = some fn) (t:HT (fun q:Empty=>(nomatch q:Option ρ)) y) (hb:fn.body=some c:=by rfl) (hn:Nat.ble A.length fn.ntmps=true:=by rfl) (hk:t.chk ⟨Tryz.prog,fn.ntmps,fn,k,keys⟩ 0 (fun r=>.ret (x r) (o r)) (fun q=>nomatch q) c [] ⟨Z59 A 0,O,k⟩=t.sk ⟨Tryz.prog,fn.ntmps,fn,k,keys⟩ 0 (fun r=>.ret (x r) (o r)) (fun q=>nomatch q):=by kernel_rfl):FN f A O k y x o:=fun r H=>HT.fn H x o keys hf hb hn hmx t hk
abbrev qi:Int→AVal:=iV .i64
abbrev qu:Int→AVal:=iV .u64
abbrev qh {P:Program} {g:Nat} {args:List AVal} {ob:List (Nat×Option MObj)} {floor:Nat} {r:AVal} {o:List (Nat×Option MObj)} (h1:Enters P g) (h2:Pv.Fn P g args ob floor (fun x y=>x=r∧y=o)):HI:=hC [] [] [] [] h1 h2
abbrev qe:=Z92 .i64
abbrev qv:=Z92 .u64
abbrev qb:=Z92 .u8
abbrev qx (a b:Int):Int:=((BitVec.toNat (BitVec.ofInt 64 a ^^^ BitVec.ofInt 64 b):Nat):Int)
abbrev qf (n:Nat):Im:=.sc (.func (.func n) #[] #[])
abbrev RW {α:Type} (w t:Nat) (e:α→List Im) (k:Nat) (x:List α):Nat×Option MObj:=(k,some (.row w t (x.map e)))
abbrev fgI (k:Nat) (ids:List Nat) (h:HI):HI:=⟨.more (xFzG k ids h.h),h.l⟩
def Z35.l0 (a0:List Zo) (x15:Int) (x16:Int):Option Int:=if(decide (x16<(a0.length:Int)))=true then((at? a0 x16)>>=fun b21=>Z35.l0 a0 (i64.wrap (x15+(i64.wrap ((i64.wrap ((b21.f0.size:Int)+(b21.f1.size:Int)))+1)))) (i64.wrap (x16+1))) else(some x15)
partial_fixpoint
def Z35.f (a0:List Zo):Option Bool:=(Z35.l0 a0 0 0)>>=fun x24=>some (decide (x24≤3000))
theorem Z35.ok (a0:List Zo):FN 22 [.im (.row (a0.map Zz))] [] 0 (Z35.f a0) (fun r=>bV r) (fun r=>[]):=FT [] func22 (.r0<|.r0<|.rg [(1,hG Zz a0)]<|.bl<|.loop (.c2 (Z35.l0.partial_correctness a0)) (0,0) [] [] [] (fun _=>.pr fun x15=>.one (fun x16=>⟨[(3,qi x15),(6,.im (.row (a0.map Zz))),(7,qi (a0.length:Int)),(8,qi x16)],[],0⟩) fun x16=>.r0<|.cd (fun c17=>.bl<|.el fun b21 p22 q23=>.rg [(0,hA Zz p22 q23),(2,⟨.k 1,.n⟩)]<|.r0<|.r0<|.bk [] rfl)
 (fun c17=>.o []))
 (.st (.exit 0) (fun x24=>⟨[(3,qi x24)],[],0⟩) fun x24=>.r0<|.ret [] [] [] ⟨[(2,bV (decide (x24≤3000)))],[],0⟩))
def Z32.l0 (a0:ByteArray) (aa:Int):Option (Bool ⊕ Unit):=if(decide (aa<(a0.size:Int)))=true then((chk (0≤aa∧aa<(a0.size:Int)))>>=fun _=>((if((bt a0 aa)==95)=true then(some true) else(if(decide ((bt a0 aa)≥65))=true then(if(decide ((bt a0 aa)≤90))=true then(some true) else(if(decide ((bt a0 aa)≥97))=true then(if(decide ((bt a0 aa)≤122))=true then(some true) else(if(decide (aa>0))=true then(if(decide ((bt a0 aa)≥48))=true then(some (decide ((bt a0 aa)≤57))) else(some false)) else(some false))) else(if(decide (aa>0))=true then(if(decide ((bt a0 aa)≥48))=true then(some (decide ((bt a0 aa)≤57))) else(some false)) else(some false)))) else(if(decide ((bt a0 aa)≥97))=true then(if(decide ((bt a0 aa)≤122))=true then(some true) else(if(decide (aa>0))=true then(if(decide ((bt a0 aa)≥48))=true then(some (decide ((bt a0 aa)≤57))) else(some false)) else(some false))) else(if(decide (aa>0))=true then(if(decide ((bt a0 aa)≥48))=true then(some (decide ((bt a0 aa)≤57))) else(some false)) else(some false))))):Option Bool)>>=fun ad=>if(!ad)=true then(some (.inl false)) else(Z32.l0 a0 (i64.wrap (aa+1)))) else(some (.inr ()))
partial_fixpoint
def Z32.f (a0:ByteArray):Option Bool:=((if(decide ((a0.size:Int)<1))=true then(some true) else(some (decide ((a0.size:Int)>64)))):Option Bool)>>=fun x91=>if x91=true then(some false) else((Z32.l0 a0 0)>>=fun oo=>match oo with | .inl rr=>(some rr) | .inr _=>(some true))
theorem Z32.ok (a0:ByteArray):FN 71 [sV a0] [] 0 (Z32.f a0) (fun r=>bV r) (fun r=>[]):=FT [] func71 (.r0<|.join (.sp (fun c90=>.rg [(3,hB c90)]<|.o [])
 (fun c90=>.rg [(3,hB c90)]<|.o []))
 (.st .normal (fun x91=>⟨[(0,sV a0),(13,bV x91)],[],0⟩) fun x91=>.cd (fun c92=>.r0<|.ret [] [] [] ⟨[(2,bV false)],[],0⟩)
 (fun c92=>.r0<|.bl<|.loop (.one (Z32.l0.partial_correctness a0)) 0 [] [] [] (fun _=>.one (fun aa=>⟨[(0,sV a0),(3,qi aa)],[],0⟩) fun aa=>.r0<|.cd (fun ad=>.bl<|.ck fun ae=>.rg [(2,hN (p2 ae))]<|.join (.sp (fun af=>.rg [(2,hB af)]<|.o [])
 (fun af=>.sp (fun ah=>.sp (fun ai=>.rg [(2,hB af),(5,hB ah),(10,hB ai)]<|.o [])
 (fun ai=>.sp (fun aj=>.sp (fun ak=>.rg [(2,hB af),(5,hB ah),(10,hB ai),(13,hB aj),(18,hB ak)]<|.o [])
 (fun ak=>.sp (fun al=>.sp (fun am=>.rg [(2,hB af),(5,hB ah),(10,hB ai),(13,hB aj),(18,hB ak),(21,hB al),(25,hB am)]<|.o [])
 (fun am=>.rg [(2,hB af),(5,hB ah),(10,hB ai),(13,hB aj),(18,hB ak),(21,hB al),(25,hB am)]<|.o []))
 (fun al=>.rg [(2,hB af),(5,hB ah),(10,hB ai),(13,hB aj),(18,hB ak),(21,hB al)]<|.o [])))
 (fun aj=>.sp (fun an=>.sp (fun aq=>.rg [(2,hB af),(5,hB ah),(10,hB ai),(13,hB aj),(21,hB an),(25,hB aq)]<|.o [])
 (fun aq=>.rg [(2,hB af),(5,hB ah),(10,hB ai),(13,hB aj),(21,hB an),(25,hB aq)]<|.o []))
 (fun an=>.rg [(2,hB af),(5,hB ah),(10,hB ai),(13,hB aj),(21,hB an)]<|.o []))))
 (fun ah=>.sp (fun ar=>.sp (fun au=>.rg [(2,hB af),(5,hB ah),(13,hB ar),(18,hB au)]<|.o [])
 (fun au=>.sp (fun av=>.sp (fun aw=>.rg [(2,hB af),(5,hB ah),(13,hB ar),(18,hB au),(21,hB av),(25,hB aw)]<|.o [])
 (fun aw=>.rg [(2,hB af),(5,hB ah),(13,hB ar),(18,hB au),(21,hB av),(25,hB aw)]<|.o []))
 (fun av=>.rg [(2,hB af),(5,hB ah),(13,hB ar),(18,hB au),(21,hB av)]<|.o [])))
 (fun ar=>.sp (fun ax=>.sp (fun ay=>.rg [(2,hB af),(5,hB ah),(13,hB ar),(21,hB ax),(25,hB ay)]<|.o [])
 (fun ay=>.rg [(2,hB af),(5,hB ah),(13,hB ar),(21,hB ax),(25,hB ay)]<|.o []))
 (fun ax=>.rg [(2,hB af),(5,hB ah),(13,hB ar),(21,hB ax)]<|.o [])))))
 (.st .normal (fun az=>⟨[(0,sV a0),(3,qi aa),(5,bV az)],[],0⟩) fun az=>.r0<|.cd (fun a8=>.r0<|.ret [] [] [] ⟨[(2,bV false)],[],0⟩)
 (fun a8=>.r0<|.bk [] rfl)))
 (fun ad=>.o []))
 (.sm (.rt (fun rr=>bV rr) (fun rr=>[]))
 (.st (.exit 0) (fun _=>⟨[],[],0⟩) fun _=>.r0<|.ret [] [] [] ⟨[(2,bV true)],[],0⟩)))))
def Z2e.l0 (a0:List Zo) (aa:Int):Option (Int ⊕ Unit):=if(decide (aa<(a0.length:Int)))=true then((((at? a0 aa)>>=fun ad=>(Z32.f ad.f0)>>=fun ae=>if(!ae)=true then(some true) else(if(decide ((ad.f1.size:Int)<1))=true then(some true) else(some (decide ((ad.f1.size:Int)>64))))):Option Bool)>>=fun af=>if af=true then(some (.inl 26)) else(((if(decide (aa>0))=true then((at? a0 (i64.wrap (aa-1)))>>=fun ah=>(at? a0 aa)>>=fun ai=>some (!(Op.bytesLess ah.f0.toList ai.f0.toList))) else(some false)):Option Bool)>>=fun aj=>if aj=true then(some (.inl 26)) else(Z2e.l0 a0 (i64.wrap (aa+1))))) else(some (.inr ()))
partial_fixpoint
def Z2e.f (a0:List Zo):Option Int:=if(decide ((a0.length:Int)>16))=true then(some 9) else((Z2e.l0 a0 0)>>=fun oo=>match oo with | .inl rr=>(some rr) | .inr _=>(some 0))
theorem Z2e.ok (a0:List Zo):FN 45 [.im (.row (a0.map Zz))] [] 0 (Z2e.f a0) (fun r=>qi r) (fun r=>[]):=FT [] func45 (.r0<|.rg [(1,hG Zz a0)]<|.cd (fun c84=>.r0<|.ret [] [] [] ⟨[(2,qi 9)],[],0⟩)
 (fun c84=>.r0<|.bl<|.loop (.one (Z2e.l0.partial_correctness a0)) 0 [] [] [] (fun _=>.one (fun aa=>⟨[(0,.im (.row (a0.map Zz))),(3,qi aa)],[],0⟩) fun aa=>.rg [(2,hG Zz a0)]<|.cd (fun ad=>.bl<|.join (.el fun ae af ah=>.bd fun ai aj=>.sp (fun ak=>.rg [(2,hA Zz af ah),(5,qh call71 (Z32.ok ae.f0 ai aj)),(7,hB ak)]<|.o [])
 (fun ak=>.sp (fun al=>.rg [(2,hA Zz af ah),(5,qh call71 (Z32.ok ae.f0 ai aj)),(7,hB ak),(10,hA Zz af ah),(16,hB al)]<|.o [])
 (fun al=>.rg [(2,hA Zz af ah),(5,qh call71 (Z32.ok ae.f0 ai aj)),(7,hB ak),(10,hA Zz af ah),(16,hB al),(19,hA Zz af ah)]<|.o [])))
 (.st .normal (fun am=>⟨[(0,.im (.row (a0.map Zz))),(3,qi aa),(37,bV am)],[],0⟩) fun am=>.cd (fun an=>.r0<|.ret [] [] [] ⟨[(2,qi 26)],[],0⟩)
 (fun an=>.join (.sp (fun aq=>.el fun ar au av=>.el fun aw ax ay=>.rg [(2,hB aq),(6,hA Zz au av),(11,hA Zz ax ay)]<|.o [])
 (fun aq=>.rg [(2,hB aq)]<|.o []))
 (.st .normal (fun az=>⟨[(0,.im (.row (a0.map Zz))),(3,qi aa),(54,bV az)],[],0⟩) fun az=>.cd (fun a8=>.r0<|.ret [] [] [] ⟨[(2,qi 26)],[],0⟩)
 (fun a8=>.r0<|.bk [] rfl)))))
 (fun ad=>.o []))
 (.sm (.rt (fun rr=>qi rr) (fun rr=>[]))
 (.st (.exit 0) (fun _=>⟨[],[],0⟩) fun _=>.r0<|.ret [] [] [] ⟨[(2,qi 0)],[],0⟩))))
def Z4q.f (a0:Int):Option Bool:=((if(decide (a0≥0))=true then(some (decide (a0≤1099511627776))) else(some false)):Option Bool)>>=fun aa=>some aa
theorem Z4q.ok (a0:Int):FN 72 [qi a0] [] 0 (Z4q.f a0) (fun r=>bV r) (fun r=>[]):=FT [] func72 (.r0<|.join (.sp (fun aa=>.rg [(2,hB aa)]<|.o [])
 (fun aa=>.rg [(2,hB aa)]<|.o []))
 (.st .normal (fun ad=>⟨[(2,bV ad)],[],0⟩) fun ad=>.ret [] [] [] ⟨[(2,bV ad)],[],0⟩))
def Z0n.f (a0:Int):Option Bool:=((if(decide (a0≥(-4)))=true then(some (decide (a0≤8))) else(some false)):Option Bool)>>=fun aa=>some aa
theorem Z0n.ok (a0:Int):FN 112 [qi a0] [] 0 (Z0n.f a0) (fun r=>bV r) (fun r=>[]):=FT [] func112 (.r0<|.join (.sp (fun aa=>.rg [(2,hB aa)]<|.o [])
 (fun aa=>.rg [(2,hB aa)]<|.o []))
 (.st .normal (fun ad=>⟨[(2,bV ad)],[],0⟩) fun ad=>.ret [] [] [] ⟨[(2,bV ad)],[],0⟩))
def Z33.l0 (aa:Int) (ad:Int):Option Int:=if(decide (ad<8))=true then(Z33.l0  (i64.wrap (aa*2)) (i64.wrap (ad+1))) else(some aa)
partial_fixpoint
def Z33.f (a0:Int):Option Int:=(Z33.l0  1 a0)>>=fun aa=>some aa
theorem Z33.ok (a0:Int):FN 147 [qi a0] [] 0 (Z33.f a0) (fun r=>qi r) (fun r=>[]):=FT [] func147 (.r0<|.r0<|.r0<|.bl<|.loop (.c2 (Z33.l0.partial_correctness )) (1,a0) [] [] [] (fun _=>.pr fun aa=>.one (fun ad=>⟨[(3,qi aa),(4,qi ad)],[],0⟩) fun ad=>.r0<|.cd (fun ae=>.bl<|.r0<|.r0<|.bk [] rfl)
 (fun ae=>.o []))
 (.st (.exit 0) (fun af=>⟨[(3,qi af)],[],0⟩) fun af=>.r0<|.ret [] [] [] ⟨[(2,qi af)],[],0⟩))
def Z0c.f (a0:Int) (a1:Int):Option Int:=(Z0n.f a0)>>=fun aa=>if(!aa)=true then(some 0) else((Z33.f a0)>>=fun ad=>some (i64.wrap (a1*ad)))
theorem Z0c.ok (a0:Int) (a1:Int):FN 114 [qi a0,qi a1] [] 0 (Z0c.f a0 a1) (fun r=>qi r) (fun r=>[]):=FT [] func114 (.r0<|.bd fun aa ad=>.rg [(1,qh call112 (Z0n.ok a0 aa ad))]<|.cd (fun ae=>.r0<|.ret [] [] [] ⟨[(4,qi 0)],[],0⟩)
 (fun ae=>.bd fun af ah=>.rg [(2,qh call147 (Z33.ok a0 af ah))]<|.ret [] [] [] ⟨[(4,qi (i64.wrap (a1*af)))],[],0⟩))
def Z6k.f (a0:Int) (a1:Int):Option Bool:=(((Z0n.f a0)>>=fun aa=>if aa=true then(if(decide (a1>(-262144)))=true then(if(decide (a1≤262144))=true then((Z0c.f a0 a1)>>=fun ad=>if(decide (ad>(-262144)))=true then((Z0c.f a0 a1)>>=fun ae=>some (decide (ae≤262144))) else(some false)) else(some false)) else(some false)) else(some false)):Option Bool)>>=fun af=>some af
theorem Z6k.ok (a0:Int) (a1:Int):FN 113 [qi a0,qi a1] [] 0 (Z6k.f a0 a1) (fun r=>bV r) (fun r=>[]):=FT [] func113 (.r0<|.join (.bd fun aa ad=>.sp (fun ae=>.sp (fun af=>.sp (fun ah=>.bd fun ai aj=>.sp (fun ak=>.bd fun al am=>.rg [(1,qh call112 (Z0n.ok a0 aa ad)),(2,hB ae),(6,hB af),(10,hB ah),(13,qh call114 (Z0c.ok a0 a1 ai aj)),(16,hB ak),(19,qh call114 (Z0c.ok a0 a1 al am))]<|.o [])
 (fun ak=>.rg [(1,qh call112 (Z0n.ok a0 aa ad)),(2,hB ae),(6,hB af),(10,hB ah),(13,qh call114 (Z0c.ok a0 a1 ai aj)),(16,hB ak)]<|.o []))
 (fun ah=>.rg [(1,qh call112 (Z0n.ok a0 aa ad)),(2,hB ae),(6,hB af),(10,hB ah)]<|.o []))
 (fun af=>.rg [(1,qh call112 (Z0n.ok a0 aa ad)),(2,hB ae),(6,hB af)]<|.o []))
 (fun ae=>.rg [(1,qh call112 (Z0n.ok a0 aa ad)),(2,hB ae)]<|.o []))
 (.st .normal (fun an=>⟨[(4,bV an)],[],0⟩) fun an=>.ret [] [] [] ⟨[(4,bV an)],[],0⟩))
def Z2t.l0 (a0:List Int) (aa:Int) (ad:Int):Option ((Int×Int) ⊕ Int):=if(decide (ad<(a0.length:Int)))=true then((at? a0 ad)>>=fun ae=>if(decide (ae>(u64.wrap ((18446744073709551615:Int)-aa))))=true then(some (.inl (0,5))) else(Z2t.l0 a0 (u64.wrap (aa+ae)) (i64.wrap (ad+1)))) else(some (.inr aa))
partial_fixpoint
def Z2t.f (a0:List Int):Option (Int×Int):=(Z2t.l0 a0 0 0)>>=fun oo=>match oo with | .inl rr=>(some rr) | .inr aa=>(some (aa,0))
theorem Z2t.ok (a0:List Int):FN 115 [.im (.row (a0.map qv))] [] 0 (Z2t.f a0) (fun r=>.tup [qu r.1,qi r.2]) (fun r=>[]):=FT [] func115 (.r0<|.r0<|.r0<|.bl<|.loop (.c2 (Z2t.l0.partial_correctness a0)) (0,0) [] [] [] (fun _=>.pr fun aa=>.one (fun ad=>⟨[(0,.im (.row (a0.map qv))),(4,qu aa),(5,qi ad)],[],0⟩) fun ad=>.rg [(2,hG qv a0)]<|.cd (fun ae=>.bl<|.el fun af ah ai=>.rg [(2,hA qv ah ai)]<|.cd (fun aj=>.r0<|.ret [] [] [] ⟨[(2,qu 0),(3,qi 5)],[],0⟩)
 (fun aj=>.rg [(3,hA qv ah ai)]<|.r0<|.bk [] rfl))
 (fun ae=>.o []))
 (.sm (.rt (fun rr=>.tup [qu rr.1,qi rr.2]) (fun rr=>[]))
 (.st (.exit 0) (fun ak=>⟨[(4,qu ak)],[],0⟩) fun ak=>.r0<|.ret [] [] [] ⟨[(2,qu ak),(3,qi 0)],[],0⟩)))
def Z0y.l1 (a0:Z1) (aa:Int) (ad:List Z0) (ae:List Int) (af:Int):Option (Int ⊕ (List Int)):=if(decide (af<(ad.length:Int)))=true then((at? ad af)>>=fun ah=>(Z6k.f a0.f1 ah.f0)>>=fun ai=>if(!ai)=true then(some (.inl 4)) else(((if(decide (af>0))=true then((at? ad (i64.wrap (af-1)))>>=fun aj=>some (decide (ah.f0≤aj.f0))) else(some false)):Option Bool)>>=fun ak=>if ak=true then(some (.inl 32)) else(if(ah.f1==0)=true then(some (.inl 21)) else((Z0c.f a0.f1 (i64.wrap (ah.f0-1)))>>=fun al=>if(decide (al<a0.f2))=true then(some (.inl 31)) else((chk ((ae.length+[ah.f1].length)*8≤140737488355328))>>=fun _=>Z0y.l1 a0 aa ad (ae++[ah.f1]) (i64.wrap (af+1))))))) else(some (.inr ae))
partial_fixpoint
def Z0y.l0 (a0:Z1) (aa:List Int) (ad:Int):Option (Int ⊕ (List Int)):=if(decide (ad<2))=true then(((if(ad==1)=true then(some a0.f7) else(some a0.f6)):Option (List Z0))>>=fun ae=>if(decide ((ae.length:Int)>512))=true then(some (.inl 9)) else((Z0y.l1 a0 ad ae aa 0)>>=fun oo=>match oo with | .inl rr=>(some (.inl rr)) | .inr af=>(Z0y.l0 a0 af (i64.wrap (ad+1))))) else(some (.inr aa))
partial_fixpoint
def Z0y.f (a0:Z1):Option Int:=((if(a0.f0 != 0)=true then(some (a0.f0 != 1)) else(some false)):Option Bool)>>=fun aa=>if aa=true then(some 25) else((Z0n.f a0.f1)>>=fun ad=>if(!ad)=true then(some 20) else(((if(a0.f2 != (-524288))=true then(if(decide (a0.f2≤(-262144)))=true then(some true) else(some (decide (a0.f2>262144)))) else(some false)):Option Bool)>>=fun ae=>if ae=true then(some 31) else((Z0y.l0 a0 [a0.f3] 0)>>=fun oo=>match oo with | .inl rr=>(some rr) | .inr af=>((Z2t.f af)>>=fun ah=>if(ah.2 != 0)=true then(some 5) else(if(ah.1 != a0.f4)=true then(some 21) else(some 0))))))
abbrev q0:=@RW _ 1 22 qv
theorem Z0y.ok (a0:Z1):FN 73 [.agg (Zv a0)] [] 0 (Z0y.f a0) (fun r=>qi r) (fun r=>[]):=FT [] func73 (.rg [(0,⟨.k 0,.n⟩)]<|.join (.sp (fun aa=>.rg [(3,hB aa)]<|.o [(0,1)])
 (fun aa=>.rg [(3,hB aa)]<|.o [(0,1)]))
 (.st .normal (fun ad=>⟨[(1,.ptr 1 0 0),(16,bV ad)],[(1,some (.box 48 (Zv a0)))],0⟩) fun ad=>.cd (fun ae=>.r0<|.ret [] [] [] ⟨[(2,qi 25)],[],0⟩)
 (fun ae=>.bd fun af ah=>.rg [(2,qh call112 (Z0n.ok a0.f1 af ah))]<|.cd (fun ai=>.r0<|.ret [] [] [] ⟨[(2,qi 20)],[],0⟩)
 (fun ai=>.join (.sp (fun aj=>.sp (fun ak=>.rg [(3,hB aj),(7,hB ak)]<|.o [(1,2)])
 (fun ak=>.rg [(3,hB aj),(7,hB ak)]<|.o [(1,2)]))
 (fun aj=>.rg [(3,hB aj)]<|.o [(1,2)]))
 (.st .normal (fun al=>⟨[(1,.ptr 2 0 0),(33,bV al)],[(2,some (.box 48 (Zv a0)))],0⟩) fun al=>.cd (fun am=>.r0<|.ret [] [] [] ⟨[(2,qi 31)],[],0⟩)
 (fun am=>.rg [(2,hQ 3 qv ([a0.f3]:List Int))]<|.r0<|.bl<|.loop (.c2 (Z0y.l0.partial_correctness a0)) ([a0.f3],0) [(2,14),(3,15)] [] [] (fun _=>.pr fun an=>.one (fun aq=>⟨[(1,.ptr 14 0 0),(3,.own 15),(4,qi aq)],[(14,some (.box 48 (Zv a0))),q0 15 an],0⟩) fun aq=>.r0<|.cd (fun ar=>.bl<|.r0<|.r0<|.join (.cd (fun au=>.r0<|.o [(14,16),(15,17)])
 (fun au=>.o [(14,16),(15,17)]))
 (.st .normal (fun av=>⟨[(1,.ptr 16 0 0),(3,.own 17),(4,qi aq),(5,.im (.row (av.map Z5)))],[(16,some (.box 48 (Zv a0))),q0 17 an],0⟩) fun av=>.rg [(1,hG Z5 av)]<|.cd (fun aw=>.r0<|.ret [] [] [] ⟨[(2,qi 9)],[],0⟩)
 (fun aw=>.r0<|.bl<|.loop (.c2 (Z0y.l1.partial_correctness a0 aq av)) (an,0) [(16,20),(17,21)] [] [] (fun _=>.pr fun ax=>.one (fun ay=>⟨[(1,.ptr 20 0 0),(3,.own 21),(4,qi aq),(5,.im (.row (av.map Z5))),(6,qi ay)],[(20,some (.box 48 (Zv a0))),q0 21 ax],0⟩) fun ay=>.rg [(2,hG Z5 av)]<|.cd (fun az=>.bl<|.el fun a8 a9 ba=>.bd fun bb bc=>.rg [(4,hA Z5 a9 ba),(7,qh call113 (Z6k.ok a0.f1 a8.f0 bb bc))]<|.cd (fun be=>.r0<|.ret [] [] [] ⟨[(2,qi 4)],[],0⟩)
 (fun be=>.join (.sp (fun bf=>.el fun bg bh bi=>.rg [(2,hB bf),(5,hA Z5 a9 ba),(11,hA Z5 bh bi)]<|.o [(20,22),(21,23)])
 (fun bf=>.rg [(2,hB bf)]<|.o [(20,22),(21,23)]))
 (.st .normal (fun bj=>⟨[(1,.ptr 22 0 0),(3,.own 23),(4,qi aq),(5,.im (.row (av.map Z5))),(6,qi ay),(80,bV bj)],[(22,some (.box 48 (Zv a0))),q0 23 ax],0⟩) fun bj=>.cd (fun bn=>.r0<|.ret [] [] [] ⟨[(2,qi 32)],[],0⟩)
 (fun bn=>.rg [(2,hA Z5 a9 ba)]<|.cd (fun bo=>.r0<|.ret [] [] [] ⟨[(2,qi 21)],[],0⟩)
 (fun bo=>.bd fun bp bq=>.rg [(4,hA Z5 a9 ba),(8,qh call114 (Z0c.ok a0.f1 (i64.wrap (a8.f0-1)) bp bq))]<|.cd (fun br=>.r0<|.ret [] [] [] ⟨[(2,qi 31)],[],0⟩)
 (fun br=>.ck fun bu=>.rg [(3,hA Z5 a9 ba),(6,hQ 24 qv ([a8.f1]:List Int)),(7,hP 25 qv 1 bu)]<|.r0<|.bk [(22,20),(25,21)] rfl))))))
 (fun az=>.o [(20,26),(21,27)]))
 (.sm (.rt (fun rr=>qi rr) (fun rr=>[]))
 (.st (.exit 2) (fun bv=>⟨[(1,.ptr 26 0 0),(3,.own 27),(4,qi aq)],[(26,some (.box 48 (Zv a0))),q0 27 bv],0⟩) fun bv=>.r0<|.bk [(26,14),(27,15)] rfl)))))
 (fun ar=>.o [(14,28),(15,29)]))
 (.sm (.rt (fun rr=>qi rr) (fun rr=>[]))
 (.st (.exit 0) (fun bw=>⟨[(1,.ptr 28 0 0),(3,.own 29)],[(28,some (.box 48 (Zv a0))),q0 29 bw],0⟩) fun bw=>.bd fun bx bz=>.rg [(1,hC [] [] [29] [] call115 (Z2t.ok bw bx bz))]<|.r0<|.cd (fun ca=>.r0<|.ret [] [] [] ⟨[(2,qi 5)],[],0⟩)
 (fun ca=>.r0<|.cd (fun cc=>.r0<|.ret [] [] [] ⟨[(2,qi 21)],[],0⟩)
 (fun cc=>.r0<|.ret [] [] [] ⟨[(2,qi 0)],[],0⟩))))))))))
def Z21.l0 (a0:List Z06) (aa:Int):Option (Bool ⊕ Unit):=if(decide (aa<(a0.length:Int)))=true then((((at? a0 aa)>>=fun ad=>(Z4q.f ad.f0)>>=fun ae=>if(!ae)=true then(some true) else((Z0y.f ad.f1)>>=fun af=>if(af != 0)=true then(some true) else(if(decide (aa>0))=true then((at? a0 (i64.wrap (aa-1)))>>=fun ah=>some (decide (ad.f0≤ah.f0))) else(some false)))):Option Bool)>>=fun ai=>if ai=true then(some (.inl false)) else(Z21.l0 a0 (i64.wrap (aa+1)))) else(some (.inr ()))
partial_fixpoint
def Z21.f (a0:List Z06):Option Bool:=(Z21.l0 a0 0)>>=fun oo=>match oo with | .inl rr=>(some rr) | .inr _=>(some true)
theorem Z21.ok (a0:List Z06):FN 46 [.im (.row (a0.map Z05))] [] 0 (Z21.f a0) (fun r=>bV r) (fun r=>[]):=FT [] func46 (.r0<|.r0<|.bl<|.loop (.one (Z21.l0.partial_correctness a0)) 0 [] [] [] (fun _=>.one (fun aa=>⟨[(0,.im (.row (a0.map Z05))),(3,qi aa)],[],0⟩) fun aa=>.rg [(2,hG Z05 a0)]<|.cd (fun ad=>.bl<|.join (.el fun ae af ah=>.bd fun ai aj=>.sp (fun ak=>.rg [(2,hA Z05 af ah),(5,qh call72 (Z4q.ok ae.f0 ai aj)),(7,hB ak)]<|.o [])
 (fun ak=>.bd fun al am=>.sp (fun an=>.rg [(2,hA Z05 af ah),(5,qh call72 (Z4q.ok ae.f0 ai aj)),(7,hB ak),(10,hA Z05 af ah),(13,qh call73 (Z0y.ok ae.f1 al am)),(16,hB an)]<|.o [])
 (fun an=>.sp (fun aq=>.el fun ar au av=>.rg [(2,hA Z05 af ah),(5,qh call72 (Z4q.ok ae.f0 ai aj)),(7,hB ak),(10,hA Z05 af ah),(13,qh call73 (Z0y.ok ae.f1 al am)),(16,hB an),(19,hB aq),(22,hA Z05 af ah),(28,hA Z05 au av)]<|.o [])
 (fun aq=>.rg [(2,hA Z05 af ah),(5,qh call72 (Z4q.ok ae.f0 ai aj)),(7,hB ak),(10,hA Z05 af ah),(13,qh call73 (Z0y.ok ae.f1 al am)),(16,hB an),(19,hB aq)]<|.o []))))
 (.st .normal (fun aw=>⟨[(0,.im (.row (a0.map Z05))),(3,qi aa),(43,bV aw)],[],0⟩) fun aw=>.cd (fun ax=>.r0<|.ret [] [] [] ⟨[(2,bV false)],[],0⟩)
 (fun ax=>.r0<|.bk [] rfl)))
 (fun ad=>.o []))
 (.sm (.rt (fun rr=>bV rr) (fun rr=>[]))
 (.st (.exit 0) (fun _=>⟨[],[],0⟩) fun _=>.r0<|.ret [] [] [] ⟨[(2,bV true)],[],0⟩)))
def Z17.l0 (a0:List Zo) (a1:List Zo) (aa:Int):Option (Int ⊕ Unit):=((if(decide (aa<(a0.length:Int)))=true then(some (decide (aa<(a1.length:Int)))) else(some false)):Option Bool)>>=fun ad=>if ad=true then((((at? a0 aa)>>=fun ae=>(at? a1 aa)>>=fun af=>if(Op.bytesLess ae.f0.toList af.f0.toList)=true then(some true) else(if(ae.f0.toList==af.f0.toList)=true then(some (Op.bytesLess ae.f1.toList af.f1.toList)) else(some false))):Option Bool)>>=fun ah=>if ah=true then(some (.inl (-1))) else((at? a0 aa)>>=fun ai=>(at? a1 aa)>>=fun aj=>if(!((ai.f0.toList==aj.f0.toList)&&((ai.f1.toList==aj.f1.toList)&&true)))=true then(some (.inl 1)) else(Z17.l0 a0 a1 (i64.wrap (aa+1))))) else(some (.inr ()))
partial_fixpoint
def Z17.f (a0:List Zo) (a1:List Zo):Option Int:=(Z17.l0 a0 a1 0)>>=fun oo=>match oo with | .inl rr=>(some rr) | .inr _=>(if(decide ((a0.length:Int)<(a1.length:Int)))=true then(some (-1)) else(if(decide ((a0.length:Int)>(a1.length:Int)))=true then(some 1) else(some 0)))
theorem Z17.ok (a0:List Zo) (a1:List Zo):FN 16 [.im (.row (a0.map Zz)),.im (.row (a1.map Zz))] [] 0 (Z17.f a0 a1) (fun r=>qi r) (fun r=>[]):=FT [] func16 (.r0<|.r0<|.bl<|.loop (.one (Z17.l0.partial_correctness a0 a1)) 0 [] [] [] (fun _=>.one (fun aa=>⟨[(0,.im (.row (a0.map Zz))),(1,.im (.row (a1.map Zz))),(5,qi aa)],[],0⟩) fun aa=>.join (.sp (fun ad=>.rg [(2,hG Zz a0),(4,hB ad),(7,hG Zz a1)]<|.o [])
 (fun ad=>.rg [(2,hG Zz a0),(4,hB ad)]<|.o []))
 (.st .normal (fun ae=>⟨[(0,.im (.row (a0.map Zz))),(1,.im (.row (a1.map Zz))),(5,qi aa),(15,bV ae)],[],0⟩) fun ae=>.cd (fun af=>.bl<|.join (.el fun ah ai aj=>.el fun ak al am=>.sp (fun an=>.rg [(2,hA Zz ai aj),(7,hA Zz al am),(11,hB an)]<|.o [])
 (fun an=>.sp (fun aq=>.rg [(2,hA Zz ai aj),(7,hA Zz al am),(11,hB an),(14,hA Zz ai aj),(19,hA Zz al am),(23,hB aq),(26,hA Zz ai aj),(31,hA Zz al am)]<|.o [])
 (fun aq=>.rg [(2,hA Zz ai aj),(7,hA Zz al am),(11,hB an),(14,hA Zz ai aj),(19,hA Zz al am),(23,hB aq)]<|.o [])))
 (.st .normal (fun ar=>⟨[(0,.im (.row (a0.map Zz))),(1,.im (.row (a1.map Zz))),(5,qi aa),(54,bV ar)],[],0⟩) fun ar=>.cd (fun au=>.r0<|.ret [] [] [] ⟨[(4,qi (-1))],[],0⟩)
 (fun au=>.el fun av aw ax=>.el fun ay az a8=>.rg [(2,hA Zz aw ax),(6,hA Zz az a8),(8,⟨.more (xAgg none),.n⟩)]<|.cd (fun a9=>.r0<|.ret [] [] [] ⟨[(4,qi 1)],[],0⟩)
 (fun a9=>.r0<|.bk [] rfl))))
 (fun af=>.o [])))
 (.sm (.rt (fun rr=>qi rr) (fun rr=>[]))
 (.st (.exit 0) (fun _=>⟨[(0,.im (.row (a0.map Zz))),(1,.im (.row (a1.map Zz)))],[],0⟩) fun _=>.rg [(1,hG Zz a0),(3,hG Zz a1)]<|.cd (fun ba=>.r0<|.ret [] [] [] ⟨[(4,qi (-1))],[],0⟩)
 (fun ba=>.rg [(1,hG Zz a0),(3,hG Zz a1)]<|.cd (fun bb=>.r0<|.ret [] [] [] ⟨[(4,qi 1)],[],0⟩)
 (fun bb=>.r0<|.ret [] [] [] ⟨[(4,qi 0)],[],0⟩)))))
def Z31.l0 (a0:List Zr) (aa:Int):Option (Bool ⊕ Unit):=if(decide (aa<(a0.length:Int)))=true then((((at? a0 aa)>>=fun ad=>(Z2e.f ad.f0)>>=fun ae=>if(ae != 0)=true then(some true) else(if(decide (aa>0))=true then((at? a0 (i64.wrap (aa-1)))>>=fun af=>(Z17.f af.f0 ad.f0)>>=fun ah=>if(decide (ah≥0))=true then(some true) else((Z21.f ad.f1)>>=fun ai=>some (!ai))) else((Z21.f ad.f1)>>=fun aj=>some (!aj)))):Option Bool)>>=fun ak=>if ak=true then(some (.inl false)) else(Z31.l0 a0 (i64.wrap (aa+1)))) else(some (.inr ()))
partial_fixpoint
def Z31.f (a0:List Zr):Option Bool:=(Z31.l0 a0 0)>>=fun oo=>match oo with | .inl rr=>(some rr) | .inr _=>(some true)
theorem Z31.ok (a0:List Zr):FN 23 [.im (.row (a0.map Zq))] [] 0 (Z31.f a0) (fun r=>bV r) (fun r=>[]):=FT [] func23 (.r0<|.r0<|.bl<|.loop (.one (Z31.l0.partial_correctness a0)) 0 [] [] [] (fun _=>.one (fun aa=>⟨[(0,.im (.row (a0.map Zq))),(3,qi aa)],[],0⟩) fun aa=>.rg [(2,hG Zq a0)]<|.cd (fun ad=>.bl<|.join (.el fun ae af ah=>.bd fun ai aj=>.sp (fun ak=>.rg [(2,hA Zq af ah),(5,qh call45 (Z2e.ok ae.f0 ai aj)),(7,hB ak)]<|.o [])
 (fun ak=>.sp (fun al=>.el fun am an aq=>.bd fun ar au=>.sp (fun av=>.rg [(2,hA Zq af ah),(5,qh call45 (Z2e.ok ae.f0 ai aj)),(7,hB ak),(10,hB al),(14,hA Zq an aq),(19,hA Zq af ah),(22,qh call16 (Z17.ok am.f0 ae.f0 ar au)),(26,hB av)]<|.o [])
 (fun av=>.bd fun aw ax=>.rg [(2,hA Zq af ah),(5,qh call45 (Z2e.ok ae.f0 ai aj)),(7,hB ak),(10,hB al),(14,hA Zq an aq),(19,hA Zq af ah),(22,qh call16 (Z17.ok am.f0 ae.f0 ar au)),(26,hB av),(29,hA Zq af ah),(32,qh call46 (Z21.ok ae.f1 aw ax))]<|.o []))
 (fun al=>.bd fun ay az=>.rg [(2,hA Zq af ah),(5,qh call45 (Z2e.ok ae.f0 ai aj)),(7,hB ak),(10,hB al),(29,hA Zq af ah),(32,qh call46 (Z21.ok ae.f1 ay az))]<|.o [])))
 (.st .normal (fun a8=>⟨[(0,.im (.row (a0.map Zq))),(3,qi aa),(44,bV a8)],[],0⟩) fun a8=>.cd (fun a9=>.r0<|.ret [] [] [] ⟨[(2,bV false)],[],0⟩)
 (fun a9=>.r0<|.bk [] rfl)))
 (fun ad=>.o []))
 (.sm (.rt (fun rr=>bV rr) (fun rr=>[]))
 (.st (.exit 0) (fun _=>⟨[],[],0⟩) fun _=>.r0<|.ret [] [] [] ⟨[(2,bV true)],[],0⟩)))
def Z1d.l1 (a0:List Zr) (b53:Zr) (x48:Int) (x68:Int) (x69:Int):Option Int:=if(decide (x69<(b53.f1.length:Int)))=true then((at? b53.f1 x69)>>=fun b74=>Z1d.l1 a0 b53 x48 (i64.wrap (x68+(i64.wrap ((i64.wrap ((1:Int)+(b74.f1.f6.length:Int)))+(b74.f1.f7.length:Int))))) (i64.wrap (x69+1))) else(some x68)
partial_fixpoint
def Z1d.l0 (a0:List Zr) (x47:Int) (x48:Int):Option (Bool ⊕ Int):=if(decide (x48<(a0.length:Int)))=true then((at? a0 x48)>>=fun b53=>(Z35.f b53.f0)>>=fun t58=>if(!t58)=true then(some (.inl false)) else((Z1d.l1 a0 b53 x48 (i64.wrap (x47+1)) 0)>>=fun x77=>Z1d.l0 a0 x77 (i64.wrap (x48+1)))) else(some (.inr x47))
partial_fixpoint
def Z1d.f (a0:List Zr):Option Bool:=(Z1d.l0 a0 0 0)>>=fun oo=>match oo with | .inl rr=>(some rr) | .inr x78=>(((if(decide (x78≤400))=true then((Z31.f a0)>>=fun aa=>some aa) else(some false)):Option Bool)>>=fun ad=>some ad)
theorem Z1d.ok (a0:List Zr):FN 8 [.im (.row (a0.map Zq))] [] 0 (Z1d.f a0) (fun r=>bV r) (fun r=>[]):=FT [] func8 (.r0<|.r0<|.rg [(1,hG Zq a0)]<|.bl<|.loop (.c2 (Z1d.l0.partial_correctness a0)) (0,0) [] [] [] (fun _=>.pr fun x47=>.one (fun x48=>⟨[(0,.im (.row (a0.map Zq))),(3,qi x47),(8,.im (.row (a0.map Zq))),(9,qi (a0.length:Int)),(10,qi x48)],[],0⟩) fun x48=>.r0<|.cd (fun c49=>.bl<|.el fun b53 p54 q55=>.rg [(0,hA Zq p54 q55),(2,⟨.k 3,.n⟩)]<|.r0<|.bd fun t58 e59=>.rg [(2,qh call22 (Z35.ok b53.f0 t58 e59))]<|.cd (fun c60=>.r0<|.ret [] [] [] ⟨[(2,bV false)],[],0⟩)
 (fun c60=>.rg [(2,hG Z05 b53.f1)]<|.bl<|.loop (.c2 (Z1d.l1.partial_correctness a0 b53 x48)) (i64.wrap (x47+1),0) [] [] [] (fun _=>.pr fun x68=>.one (fun x69=>⟨[(0,.im (.row (a0.map Zq))),(3,qi x68),(8,.im (.row (a0.map Zq))),(9,qi (a0.length:Int)),(10,qi x48),(21,.im (.row (b53.f1.map Z05))),(22,qi (b53.f1.length:Int)),(23,qi x69)],[],0⟩) fun x69=>.r0<|.cd (fun c70=>.bl<|.el fun b74 p75 q76=>.rg [(0,hA Z05 p75 q76),(2,⟨.k 5,.n⟩)]<|.rg [(4,hG Z5 b74.f1.f6),(9,hG Z5 b74.f1.f7)]<|.r0<|.bk [] rfl)
 (fun c70=>.o []))
 (.st (.exit 2) (fun x77=>⟨[(0,.im (.row (a0.map Zq))),(3,qi x77),(8,.im (.row (a0.map Zq))),(9,qi (a0.length:Int)),(10,qi x48)],[],0⟩) fun x77=>.r0<|.bk [] rfl)))
 (fun c49=>.o []))
 (.sm (.rt (fun rr=>bV rr) (fun rr=>[]))
 (.st (.exit 0) (fun x78=>⟨[(0,.im (.row (a0.map Zq))),(3,qi x78)],[],0⟩) fun x78=>.join (.sp (fun aa=>.bd fun ad ae=>.rg [(2,hB aa),(4,qh call23 (Z31.ok a0 ad ae))]<|.o [])
 (fun aa=>.rg [(2,hB aa)]<|.o []))
 (.st .normal (fun af=>⟨[(2,bV af)],[],0⟩) fun af=>.ret [] [] [] ⟨[(2,bV af)],[],0⟩))))
def Z3m.f (a0:ByteArray) (aa:Int) (ad:Int) (ae:Int) (af:Int) (ah:Int) (ai:Int):Option Zr:=some (⟨[(⟨(⟨#[97]⟩:ByteArray),(⟨#[120]⟩:ByteArray)⟩:Zo),(⟨(⟨#[98]⟩:ByteArray),a0⟩:Zo)],[(⟨1,(⟨aa,ad,ae,af,ah,ai,[],[]⟩:Z1)⟩:Z06)]⟩:Zr)
abbrev q1:=@RW _ 2 74 Zz
abbrev q2:=@RW _ 9 80 Z05
theorem Z3m.ok (a0:ByteArray) (aa:Int) (ad:Int) (ae:Int) (af:Int) (ah:Int) (ai:Int):FN 24 [sV a0,.ptr 0 0 0] [(0,some (.box 48 [qi aa,qi ad,qi ae,qu af,qu ah,qi ai,.none0,.none0]))] 1 (Z3m.f a0 aa ad ae af ah ai) (fun r=>.agg [.own 1,.own 2]) (fun r=>[(0,some (.box 48 [qi aa,qi ad,qi ae,qu af,qu ah,qi ai,.none0,.none0])),q1 1 ((r).f0),q2 2 ((r).f1)]):=FT [0,1,2] func24 (.rg [(0,⟨.k 1,.n⟩)]<|.rg [(3,hQ 2 Zz ([(⟨(⟨#[97]⟩:ByteArray),(⟨#[120]⟩:ByteArray)⟩:Zo),(⟨(⟨#[98]⟩:ByteArray),a0⟩:Zo)]:List Zo)),(6,hQ 3 Z05 ([(⟨1,(⟨aa,ad,ae,af,ah,ai,[],[]⟩:Z1)⟩:Z06)]:List Z06))]<|.ret [(0,0),(1,3),(2,1),(3,2)] [] [] ⟨[(3,.ptr 3 0 0)],[(0,some (.box 48 [qi aa,qi ad,qi ae,qu af,qu ah,qi ai,.none0,.none0])),q1 1 (((⟨[(⟨(⟨#[97]⟩:ByteArray),(⟨#[120]⟩:ByteArray)⟩:Zo),(⟨(⟨#[98]⟩:ByteArray),a0⟩:Zo)],[(⟨1,(⟨aa,ad,ae,af,ah,ai,[],[]⟩:Z1)⟩:Z06)]⟩:Zr)).f0),q2 2 (((⟨[(⟨(⟨#[97]⟩:ByteArray),(⟨#[120]⟩:ByteArray)⟩:Zo),(⟨(⟨#[98]⟩:ByteArray),a0⟩:Zo)],[(⟨1,(⟨aa,ad,ae,af,ah,ai,[],[]⟩:Z1)⟩:Z06)]⟩:Zr)).f1),(3,some (.box 60 [.own 1,.own 2]))],1⟩)
def Z11.f (a0:List Zo):Option (List Zo):=(chk ((([]:List Zo).length+a0.length)*32≤140737488355328))>>=fun _=>some a0
theorem Z11.ok (a0 r:List Zo) (H:Z11.f a0=some r):Pv.Fn Tryz.prog 27 [.im (.row (a0.map Zz))] [] 0 (fun x o=>x = .own 0∧o=[q1 0 r]):=by
 unfold Z11.f at H;obtain⟨c1,H⟩:=Zcy H;obtain rfl:=sj H;refine Fn.bodyK [0] func27 rfl rfl (fun Γ hP hn => ?_);have hm:Tryz.prog.follows .mixedOrders=true:=by kernel_rfl
 replace hn:Γ.n=8:=hn;refine AWp.seq ?_;refine reg hP hn hm [] [0,2] [] ⟨[(0,.im (.row (a0.map Zz))),(2,.none0)],[],0⟩ [] (by kernel_rfl) trivial ?_;refine AWp.seq ?_;cases a0 with
 | nil =>
  refine AWp.nilSplit 0 rfl (fun b m => ?_);refine AWp.seq ?_;cases b with
  | none =>
   refine reg hP hn hm [(1,.more xNil)] [2,4] [] ⟨[(2,.none0),(4,bV true)],[],0⟩ [] (by kernel_rfl) trivial ?_;refine AWp.cond true rfl (fun _ => ?_) (fun h=>nomatch h);refine AWp.seq ?_;refine reg hP hn hm [] [2] [] ⟨[(2,.none0)],[],0⟩ [] (by kernel_rfl) trivial ?_;refine AWp.conv (inv:=[]) (vk:=[]) (e0:=[0]) (t:=⟨[(2,.own 0)],[(0,some (.row 2 74 []))],0⟩) (by kernel_rfl) ?_
   refine AWp.ret ?_;exact Exists.intro _ (And.intro (fun _ _ h=>h) (And.intro (.inl rfl) (And.intro rfl (And.intro (by kernel_rfl) (by kernel_rfl)))))
  | some b =>
   refine reg hP hn hm [(1,.more xNil)] [0,2,4] [] ⟨[(0,.im (.sc (.slice (some b) 0 m))),(2,.none0),(4,bV false)],[],0⟩ [] (by kernel_rfl) trivial ?_;refine AWp.cond false rfl (fun h=>nomatch h) (fun _ => ?_);refine AWp.skip ?_;refine AWp.unsplit 0 rfl ?_;refine AWp.seq ?_;refine reg hP hn hm [(0,.app 0 ([]:List (List Im))),(2,.app 1 (([]:List Zo).map Zz))] [2] [1] ⟨[(2,.own 1)],[q1 1 ([]:List Zo)],0⟩ [([]:List (List Im))=[],([]:List Zo).map Zz=([]:List (List Im))++([]:List Zo).map Zz,∀ c∈([]:List Zo).map Zz,c.length=2,∀ c∈([]:List Zo).map Zz,Z3q (c.map .im)=true,(([]:List (List Im)).length+(([]:List Zo).map Zz).length)*32≤140737488355328] (by kernel_rfl) ⟨rfl,by simp,by exact Z5w _ _ _ (fun _=>rfl),by exact Z5p _ _ (fun _=>rfl),by simpa using c1,trivial⟩ ?_;refine AWp.conv (inv:=[(1,0)]) (vk:=[]) (e0:=[]) (t:=⟨[(2,.own 0)],[q1 0 ([]:List Zo)],0⟩) (by kernel_rfl) ?_
   refine AWp.ret ?_;exact Exists.intro _ (And.intro (fun _ _ h=>h) (And.intro (.inl rfl) (And.intro rfl (And.intro (by kernel_rfl) (by kernel_rfl)))))
 | cons y l =>
  refine AWp.seq ?_;refine reg hP hn hm [(1,.more xNil)] [0,2,4] [] ⟨[(0,.im (.row ((y::l).map Zz))),(2,.none0),(4,bV false)],[],0⟩ [] (by kernel_rfl) trivial ?_;refine AWp.cond false rfl (fun h=>nomatch h) (fun _ => ?_);refine AWp.skip ?_;refine AWp.seq ?_;refine reg hP hn hm [(0,.app 0 ([]:List (List Im))),(2,.app 1 ((y::l).map Zz))] [2] [1] ⟨[(2,.own 1)],[q1 1 (y::l)],0⟩ [([]:List (List Im))=[],(y::l).map Zz=([]:List (List Im))++(y::l).map Zz,∀ c∈(y::l).map Zz,c.length=2,∀ c∈(y::l).map Zz,Z3q (c.map .im)=true,(([]:List (List Im)).length+((y::l).map Zz).length)*32≤140737488355328] (by kernel_rfl) ⟨rfl,by simp,by exact Z5w _ _ _ (fun _=>rfl),by exact Z5p _ _ (fun _=>rfl),by simpa using c1,trivial⟩ ?_;refine AWp.conv (inv:=[(1,0)]) (vk:=[]) (e0:=[]) (t:=⟨[(2,.own 0)],[q1 0 (y::l)],0⟩) (by kernel_rfl) ?_
  refine AWp.ret ?_;exact Exists.intro _ (And.intro (fun _ _ h=>h) (And.intro (.inl rfl) (And.intro rfl (And.intro (by kernel_rfl) (by kernel_rfl)))))
def Z0k.l0 (a0:List ByteArray) (a1:ByteArray) (aa:Int):Option (Int ⊕ Unit):=if(decide (aa<(a0.length:Int)))=true then((at? a0 aa)>>=fun ad=>if(a1.toList==ad.toList)=true then(some (.inl aa)) else(Z0k.l0 a0 a1 (i64.wrap (aa+1)))) else(some (.inr ()))
partial_fixpoint
def Z0k.f (a0:List ByteArray) (a1:ByteArray):Option Int:=(Z0k.l0 a0 a1 0)>>=fun oo=>match oo with | .inl rr=>(some rr) | .inr _=>(some (-1))
theorem Z0k.ok (a0:List ByteArray) (a1:ByteArray):FN 117 [.im (.row (a0.map Za)),sV a1] [] 0 (Z0k.f a0 a1) (fun r=>qi r) (fun r=>[]):=FT [] func117 (.r0<|.rg [(1,hG Za a0)]<|.bl<|.loop (.one (Z0k.l0.partial_correctness a0 a1)) 0 [] [] [] (fun _=>.one (fun aa=>⟨[(0,.im (.row (a0.map Za))),(1,sV a1),(7,qi (a0.length:Int)),(8,qi aa)],[],0⟩) fun aa=>.r0<|.cd (fun ad=>.bl<|.r0<|.el fun ae af ah=>.rg [(3,hA Za af ah)]<|.cd (fun ai=>.r0<|.ret [] [] [] ⟨[(4,qi aa)],[],0⟩)
 (fun ai=>.r0<|.bk [] rfl))
 (fun ad=>.o []))
 (.sm (.rt (fun rr=>qi rr) (fun rr=>[]))
 (.st (.exit 0) (fun _=>⟨[],[],0⟩) fun _=>.r0<|.ret [] [] [] ⟨[(4,qi (-1))],[],0⟩)))
def Z1y.f (a0:List ByteArray) (a1:ByteArray):Option Bool:=(Z0k.f a0 a1)>>=fun aa=>some (decide (aa≥0))
theorem Z1y.ok (a0:List ByteArray) (a1:ByteArray):FN 76 [.im (.row (a0.map Za)),sV a1] [] 0 (Z1y.f a0 a1) (fun r=>bV r) (fun r=>[]):=FT [] func76 (.r0<|.bd fun aa ad=>.rg [(2,qh call117 (Z0k.ok a0 a1 aa ad))]<|.ret [] [] [] ⟨[(4,bV (decide (aa≥0)))],[],0⟩)
def Z2x.f (a0:Zo) (aa:List ByteArray):Option Bool:=(Z1y.f aa a0.f0)>>=fun ad=>some (!ad)
theorem Z2x.ok (a0:Zo) (aa:List ByteArray):FN 75 [.agg (aLabel a0),.ptr 0 0 0] [(0,some (.box 25 [.im (.row (aa.map Za))]))] 1 (Z2x.f a0 aa) (fun r=>bV r) (fun r=>[(0,some (.box 25 [.im (.row (aa.map Za))]))]):=FT [0] func75 (.rg [(0,⟨.k 1,.n⟩)]<|.bd fun ad ae=>.rg [(3,qh call76 (Z1y.ok aa a0.f0 ad ae))]<|.ret [(0,0)] [] [] ⟨[(3,bV (!ad))],[(0,some (.box 25 [.im (.row (aa.map Za))]))],1⟩)
def Z02.l0 (a0:List Zo) (aa:List ByteArray) (ad:Int):Option (Int ⊕ Unit):=if(decide (ad<(a0.length:Int)))=true then((at? a0 ad)>>=fun ae=>(Z2x.f ae aa)>>=fun af=>if af=true then(some (.inl ad)) else(Z02.l0 a0 aa (i64.wrap (ad+1)))) else(some (.inr ()))
partial_fixpoint
def Z02.f (a0:List Zo) (aa:List ByteArray):Option Int:=(Z02.l0 a0 aa 0)>>=fun oo=>match oo with | .inl rr=>(some rr) | .inr _=>(some (-1))
theorem Z02.ok (a0:List Zo) (aa:List ByteArray):FN 116 [.own 0,.fn 75 [.ptr 1 0 0]] [q1 0 a0,(1,some (.box 25 [.im (.row (aa.map Za))]))] 2 (Z02.f a0 aa) (fun r=>qi r) (fun r=>[q1 0 a0,(1,some (.box 25 [.im (.row (aa.map Za))]))]):=FT [0,1] func116 (.r0<|.rg [(1,hG Zz a0)]<|.bl<|.loop (.one (Z02.l0.partial_correctness a0 aa)) 0 [(0,0),(1,1)] [] [] (fun _=>.one (fun ad=>⟨[(0,.own 0),(1,.fn 75 [.ptr 1 0 0]),(7,qi (a0.length:Int)),(8,qi ad)],[q1 0 a0,(1,some (.box 25 [.im (.row (aa.map Za))]))],2⟩) fun ad=>.r0<|.cd (fun ae=>.bl<|.r0<|.el fun af ah ai=>.bd fun aj ak=>.rg [(3,hX Zz ah ai),(4,hL Zz ai),(5,hC [(1,0)] [(0,1)] [] [] call75 (Z2x.ok af aa aj ak))]<|.cd (fun al=>.r0<|.ret [(0,0),(1,1)] [] [] ⟨[(4,qi ad)],[q1 0 a0,(1,some (.box 25 [.im (.row (aa.map Za))]))],2⟩)
 (fun al=>.r0<|.bk [(0,0),(1,1)] rfl))
 (fun ae=>.o [(0,0),(1,1)]))
 (.sm (.rt (fun rr=>qi rr) (fun rr=>[q1 0 a0,(1,some (.box 25 [.im (.row (aa.map Za))]))]))
 (.st (.exit 0) (fun _=>⟨[],[q1 0 a0,(1,some (.box 25 [.im (.row (aa.map Za))]))],2⟩) fun _=>.r0<|.ret [(0,0),(1,1)] [] [] ⟨[(4,qi (-1))],[q1 0 a0,(1,some (.box 25 [.im (.row (aa.map Za))]))],2⟩)))
def Zu.l0 (aa:List ByteArray) (ad:List Zo) (ae:Int) (af:Int):Option ((List Zo)×Int):=if(decide (af<(ad.length:Int)))=true then((at? ad af)>>=fun ah=>(Z2x.f ah aa)>>=fun ai=>((if(!ai)=true then((at? ad ae)>>=fun aj=>some (ad.set (Int.toNat (ae)) ah,i64.wrap (ae+1))) else(some (ad,ae))):Option ((List Zo)×Int))>>=fun oo=>match oo with | (ak,al)=>(Zu.l0 aa ak al (i64.wrap (af+1)))) else(some (ad,ae))
partial_fixpoint
def Zu.f (a0:List Zo) (aa:List ByteArray):Option (List Zo):=(Z02.f a0 aa)>>=fun ad=>if(ad==(-1))=true then(some a0) else((Zu.l0 aa a0 ad (i64.wrap (ad+1)))>>=fun oo=>match oo with | (ae,af)=>((chk (0≤af∧af≤(ae.length:Int)))>>=fun _=>(chk (0≤af∧af≤((ae.take (Int.toNat af)++List.replicate (ae.length-(Int.toNat af)) (⟨(⟨#[]⟩:ByteArray),(⟨#[]⟩:ByteArray)⟩:Zo)).length:Int)))>>=fun _=>some ((ae.take (Int.toNat af)++List.replicate (ae.length-(Int.toNat af)) (⟨(⟨#[]⟩:ByteArray),(⟨#[]⟩:ByteArray)⟩:Zo)).take (Int.toNat (af)))))
theorem Zu.ok (a0:List Zo) (aa:List ByteArray):FN 74 [.own 0,.fn 75 [.ptr 1 0 0]] [q1 0 a0,(1,some (.box 25 [.im (.row (aa.map Za))]))] 2 (Zu.f a0 aa) (fun r=>.own 2) (fun r=>[(0,none),(1,some (.box 25 [.im (.row (aa.map Za))])),q1 2 r]):=FT [0,1,2] func74 (.r0<|.bd fun ad ae=>.rg [(2,hC [(0,0),(1,1)] [(0,0),(1,1)] [] [] call116 (Z02.ok a0 aa ad ae))]<|.r0<|.cd (fun af=>.r0<|.ret [(0,2),(1,1)] [] [] ⟨[(4,.own 2)],[(1,some (.box 25 [.im (.row (aa.map Za))])),q1 2 a0],2⟩)
 (fun af=>.r0<|.bl<|.loop (.c3 (Zu.l0.partial_correctness aa)) (a0,ad,i64.wrap (ad+1)) [(0,0),(1,1)] [] [] (fun _=>.pr fun ah=>.pr fun ai=>.one (fun aj=>⟨[(0,.own 0),(1,.fn 75 [.ptr 1 0 0]),(5,qi ai),(6,qi aj)],[q1 0 ah,(1,some (.box 25 [.im (.row (aa.map Za))]))],2⟩) fun aj=>.rg [(2,hG Zz ah)]<|.cd (fun ak=>.bl<|.el fun al am an=>.rg [(2,hX Zz am an),(3,hL Zz an),(4,⟨.k 3,.n⟩)]<|.bd fun aq ar=>.rg [(2,hC [(1,0)] [(0,1)] [] [] call75 (Z2x.ok al aa aq ar))]<|.join (.cd (fun au=>.el fun av aw ax=>.rg [(3,hX Zz aw ax),(4,hS Zz al 0 [sI al.f0,sI al.f1] ax)]<|.r0<|.o [(0,0),(1,1)])
 (fun au=>.o [(0,0),(1,1)]))
 (.pr fun ay=>.st .normal (fun az=>⟨[(0,.own 0),(1,.fn 75 [.ptr 1 0 0]),(5,qi az),(6,qi aj)],[q1 0 ay,(1,some (.box 25 [.im (.row (aa.map Za))]))],2⟩) fun az=>.r0<|.bk [(0,0),(1,1)] rfl))
 (fun ak=>.o [(0,0),(1,1)]))
 (.pr fun a8=>.st (.exit 0) (fun a9=>⟨[(0,.own 0),(5,qi a9)],[q1 0 a8,(1,some (.box 25 [.im (.row (aa.map Za))]))],2⟩) fun a9=>.ck fun ba=>.rg [(2,⟨.more (xCutOwn (Int.toNat a9) (a8.length-(Int.toNat a9))),.c (p:=a9=(((Int.toNat a9):Nat):Int)) ((Int.toNat_of_nonneg ba.1).symm) (.c (p:=(Int.toNat a9)+(a8.length-(Int.toNat a9))=(a8.map Zz).length) (by have h:=ba;rw[List.length_map];omega) .n)⟩),(3,⟨.more (xClear ((a8.take (Int.toNat a9)++List.replicate (a8.length-(Int.toNat a9)) (⟨(⟨#[]⟩:ByteArray),(⟨#[]⟩:ByteArray)⟩:Zo)).map Zz)),.c (p:=(a8.take (Int.toNat a9)++List.replicate (a8.length-(Int.toNat a9)) (⟨(⟨#[]⟩:ByteArray),(⟨#[]⟩:ByteArray)⟩:Zo)).map Zz=(a8.map Zz).take (Int.toNat a9)++List.replicate (a8.length-(Int.toNat a9)) [sI (⟨#[]⟩:ByteArray),sI (⟨#[]⟩:ByteArray)]) (by simp) (.c (p:=(Int.toNat a9)+(a8.length-(Int.toNat a9))=(a8.map Zz).length) (by have h:=ba;rw[List.length_map];omega) .n)⟩)]<|.ck fun bb=>.rg [(2,⟨.more (xTake 4 (((a8.take (Int.toNat a9)++List.replicate (a8.length-(Int.toNat a9)) (⟨(⟨#[]⟩:ByteArray),(⟨#[]⟩:ByteArray)⟩:Zo)).take (Int.toNat (a9))).map Zz)),.c (bb.1) (.c (p:=a9≤(((a8.take (Int.toNat a9)++List.replicate (a8.length-(Int.toNat a9)) (⟨(⟨#[]⟩:ByteArray),(⟨#[]⟩:ByteArray)⟩:Zo)).map Zz).length:Int)) (by simpa using bb.2) (.c (p:=((a8.take (Int.toNat a9)++List.replicate (a8.length-(Int.toNat a9)) (⟨(⟨#[]⟩:ByteArray),(⟨#[]⟩:ByteArray)⟩:Zo)).take (Int.toNat (a9))).map Zz=((a8.take (Int.toNat a9)++List.replicate (a8.length-(Int.toNat a9)) (⟨(⟨#[]⟩:ByteArray),(⟨#[]⟩:ByteArray)⟩:Zo)).map Zz).take (Int.toNat (a9))) (by simp) .n))⟩)]<|.ret [(1,1),(4,2)] [] [] ⟨[(4,.own 2)],[(1,some (.box 25 [.im (.row (aa.map Za))])),q1 2 ((a8.take (Int.toNat a9)++List.replicate (a8.length-(Int.toNat a9)) (⟨(⟨#[]⟩:ByteArray),(⟨#[]⟩:ByteArray)⟩:Zo)).take (Int.toNat (a9)))],2⟩)))
def Z4r.f (a0:List Zo) (a1:List ByteArray):Option (List Zo):=(Z11.f a0)>>=fun aa=>(Zu.f aa a1)>>=fun ad=>some ad
theorem Z4r.ok (a0:List Zo) (a1:List ByteArray):FN 47 [.im (.row (a0.map Zz)),.im (.row (a1.map Za))] [] 0 (Z4r.f a0 a1) (fun r=>.own 0) (fun r=>[q1 0 r]):=FT [0] func47 (.rg [(0,⟨.k 0,.n⟩)]<|.bd fun aa ad=>.bd fun ae af=>.rg [(1,hC [] [(0,1)] [] [1] call27 (Z11.ok a0 aa ad)),(2,⟨.more xFunc,.n⟩),(3,hC [(1,0),(0,1)] [(1,0),(2,2)] [] [2] call74 (Zu.ok aa a1 ae af))]<|.ret [(2,0)] [] [] ⟨[(4,.own 0)],[q1 0 ae],0⟩)
def Z3a.f (a0_0:Int) (a0_1:Int) (a0_2:Int) (a0_3:Int) (a0_4:Int) (a0_5:Int) (a0_6:Int) (a0_8:Bool) (a0_9:List ByteArray) (a1:Zr):Option (List Zo):=if a0_8=true then((Z4r.f a1.f0 a0_9)>>=fun aa=>some aa) else(some a1.f0)
theorem Z3a.ok (a0_0:Int) (a0_1:Int) (a0_2:Int) (a0_3:Int) (a0_4:Int) (a0_5:Int) (a0_6:Int) (a0_8:Bool) (a0_9:List ByteArray) (a1:Zr):FN 28 [.agg [qi a0_0,qu a0_1,qu a0_2,qi a0_3,qi a0_4,qi a0_5,qi a0_6,.im (.sc (.pointer none)),bV a0_8,.im (.row (a0_9.map Za))],.agg (Zc3 a1)] [] 0 (Z3a.f a0_0 a0_1 a0_2 a0_3 a0_4 a0_5 a0_6 a0_8 a0_9 a1) (fun r=>.im (.row (r.map Zz))) (fun r=>[]):=FT [] func28 (.rg [(0,⟨.k 0,.n⟩),(1,⟨.k 1,.n⟩)]<|.r0<|.cd (fun aa=>.bd fun ad ae=>.rg [(4,hC [] [(0,2)] [] [2] call47 (Z4r.ok a1.f0 a0_9 ad ae))]<|.ret [] [2] [] ⟨[(4,.im (.row (ad.map Zz)))],[],0⟩)
 (fun aa=>.r0<|.ret [] [] [] ⟨[(4,.im (.row (a1.f0.map Zz)))],[],0⟩))
def Z0m.f (a0:ByteArray):Option Unit:=some ()
theorem Z0m.ok (a0:ByteArray):FN 118 [sV a0] [] 0 (Z0m.f a0) (fun r=>bV (!(a0.toList==a0.toList))) (fun r=>[]):=FT [] func118 (.r0<|.r0<|.ret [] [] [] ⟨[(2,bV (!(a0.toList==a0.toList)))],[],0⟩)
def Z1v.f (a0:ByteArray) (a1:ByteArray):Option Int:=(Z0m.f a0)>>=fun aa=>(Z0m.f a1)>>=fun ad=>if(!(a0.toList==a0.toList))=true then(if(!(a1.toList==a1.toList))=true then(some 0) else(some (-1))) else(if(!(a1.toList==a1.toList))=true then(some 1) else(if(Op.bytesLess a0.toList a1.toList)=true then(some (-1)) else(if(!(Op.bytesLess a0.toList a1.toList||a0.toList==a1.toList))=true then(some 1) else(some 0))))
theorem Z1v.ok (a0:ByteArray) (a1:ByteArray):FN 80 [sV a0,sV a1] [] 0 (Z1v.f a0 a1) (fun r=>qi r) (fun r=>[]):=FT [] func80 (.r0<|.bd fun aa ad=>.rg [(1,qh call118 (Z0m.ok a0 aa ad))]<|.bd fun ae af=>.rg [(1,qh call118 (Z0m.ok a1 ae af))]<|.r0<|.cd (fun ah=>.r0<|.cd (fun ai=>.r0<|.ret [] [] [] ⟨[(4,qi 0)],[],0⟩)
 (fun ai=>.r0<|.ret [] [] [] ⟨[(4,qi (-1))],[],0⟩))
 (fun ah=>.r0<|.cd (fun aj=>.r0<|.ret [] [] [] ⟨[(4,qi 1)],[],0⟩)
 (fun aj=>.r0<|.cd (fun ak=>.r0<|.ret [] [] [] ⟨[(4,qi (-1))],[],0⟩)
 (fun ak=>.r0<|.cd (fun al=>.r0<|.ret [] [] [] ⟨[(4,qi 1)],[],0⟩)
 (fun al=>.r0<|.ret [] [] [] ⟨[(4,qi 0)],[],0⟩)))))
def Z2q.l0 (a0:List Int) (aa:Int):Option (Int ⊕ Unit):=if(decide (aa<(a0.length:Int)))=true then((at? a0 aa)>>=fun ad=>if(ad != 0)=true then(some (.inl ad)) else(Z2q.l0 a0 (i64.wrap (aa+1)))) else(some (.inr ()))
partial_fixpoint
def Z2q.f (a0:List Int):Option Int:=(Z2q.l0 a0 0)>>=fun oo=>match oo with | .inl rr=>(some rr) | .inr _=>(some 0)
theorem Z2q.ok (a0:List Int):FN 79 [.im (.row (a0.map qe))] [] 0 (Z2q.f a0) (fun r=>qi r) (fun r=>[]):=FT [] func79 (.r0<|.r0<|.rg [(1,hG qe a0)]<|.bl<|.loop (.one (Z2q.l0.partial_correctness a0)) 0 [] [] [] (fun _=>.one (fun aa=>⟨[(3,qi 0),(6,.im (.row (a0.map qe))),(7,qi (a0.length:Int)),(8,qi aa)],[],0⟩) fun aa=>.r0<|.cd (fun ad=>.bl<|.el fun ae af ah=>.rg [(0,hA qe af ah)]<|.r0<|.cd (fun ai=>.r0<|.ret [] [] [] ⟨[(2,qi ae)],[],0⟩)
 (fun ai=>.r0<|.bk [] rfl))
 (fun ad=>.o []))
 (.sm (.rt (fun rr=>qi rr) (fun rr=>[]))
 (.st (.exit 0) (fun _=>⟨[(3,qi 0)],[],0⟩) fun _=>.r0<|.ret [] [] [] ⟨[(2,qi 0)],[],0⟩)))
def Z3l.f (a0:Zo) (a1:Zo):Option Int:=(Z1v.f a0.f0 a1.f0)>>=fun aa=>(Z1v.f a0.f1 a1.f1)>>=fun ad=>(Z2q.f [aa,ad])>>=fun ae=>some ae
theorem Z3l.ok (a0:Zo) (a1:Zo):FN 78 [.agg (aLabel a0),.agg (aLabel a1)] [] 0 (Z3l.f a0 a1) (fun r=>qi r) (fun r=>[]):=FT [] func78 (.rg [(0,⟨.k 0,.n⟩),(1,⟨.k 1,.n⟩)]<|.bd fun aa ad=>.bd fun ae af=>.bd fun ah ai=>.rg [(4,qh call80 (Z1v.ok a0.f0 a1.f0 aa ad)),(9,qh call80 (Z1v.ok a0.f1 a1.f1 ae af)),(10,hQ 2 qe ([aa,ae]:List Int)),(11,hC [] [] [2] [] call79 (Z2q.ok [aa,ae] ah ai))]<|.ret [] [] [] ⟨[(4,qi ah)],[],0⟩)
def Zf.l0 (a0:List Zo) (a1:List Zo) (aa:Int):Option (Int ⊕ Unit):=if(decide (aa<(a0.length:Int)))=true then((at? a0 aa)>>=fun ad=>if(decide (aa≥(a1.length:Int)))=true then(some (.inl 1)) else((at? a1 aa)>>=fun ae=>(Z3l.f ad ae)>>=fun af=>if(af != 0)=true then(some (.inl af)) else(Zf.l0 a0 a1 (i64.wrap (aa+1))))) else(some (.inr ()))
partial_fixpoint
def Zf.f (a0:List Zo) (a1:List Zo):Option Int:=(Zf.l0 a0 a1 0)>>=fun oo=>match oo with | .inl rr=>(some rr) | .inr _=>(if(decide ((a0.length:Int)<(a1.length:Int)))=true then(some (-1)) else(some 0))
theorem Zf.ok (a0:List Zo) (a1:List Zo):FN 77 [.im (.row (a0.map Zz)),.im (.row (a1.map Zz)),.im (qf 78)] [] 0 (Zf.f a0 a1) (fun r=>qi r) (fun r=>[]):=FT [] func77 (.r0<|.rg [(1,hG Zz a0)]<|.bl<|.loop (.one (Zf.l0.partial_correctness a0 a1)) 0 [] [] [] (fun _=>.one (fun aa=>⟨[(0,.im (.row (a0.map Zz))),(1,.im (.row (a1.map Zz))),(2,.im (qf 78)),(11,.im (.row (a0.map Zz))),(12,qi (a0.length:Int)),(13,qi aa)],[],0⟩) fun aa=>.r0<|.cd (fun ad=>.bl<|.el fun ae af ah=>.rg [(1,hA Zz af ah),(3,⟨.k 2,.n⟩)]<|.rg [(2,hG Zz a1)]<|.cd (fun ai=>.r0<|.ret [] [] [] ⟨[(6,qi 1)],[],0⟩)
 (fun ai=>.el fun aj ak al=>.rg [(2,hA Zz ak al),(4,⟨.k 3,.n⟩)]<|.bd fun am an=>.rg [(3,qh call78 (Z3l.ok ae aj am an))]<|.r0<|.cd (fun aq=>.r0<|.ret [] [] [] ⟨[(6,qi am)],[],0⟩)
 (fun aq=>.r0<|.bk [] rfl)))
 (fun ad=>.o []))
 (.sm (.rt (fun rr=>qi rr) (fun rr=>[]))
 (.st (.exit 0) (fun _=>⟨[(0,.im (.row (a0.map Zz))),(1,.im (.row (a1.map Zz)))],[],0⟩) fun _=>.rg [(1,hG Zz a0),(3,hG Zz a1)]<|.cd (fun ar=>.r0<|.ret [] [] [] ⟨[(6,qi (-1))],[],0⟩)
 (fun ar=>.r0<|.ret [] [] [] ⟨[(6,qi 0)],[],0⟩))))
def Z46.f (a0:List Zo) (a1:List Zo):Option Int:=(Zf.f a0 a1)>>=fun aa=>some aa
theorem Z46.ok (a0:List Zo) (a1:List Zo):FN 50 [.im (.row (a0.map Zz)),.im (.row (a1.map Zz))] [] 0 (Z46.f a0 a1) (fun r=>qi r) (fun r=>[]):=FT [] func50 (.r0<|.bd fun aa ad=>.rg [(2,qh call77 (Zf.ok a0 a1 aa ad))]<|.ret [] [] [] ⟨[(4,qi aa)],[],0⟩)
def Z16.f (a0:List Zr) (a1:List Zo) (aa:Int) (ad:Int) (ae:Int) (af:Int) (ah:Int) (ai:Int) (aj:Int) (ak:Bool) (al:List ByteArray):Option Int:=(at? a0 0)>>=fun am=>(Z3a.f aa ad ae af ah ai aj ak al am)>>=fun an=>(Z46.f an a1)>>=fun aq=>some aq
theorem Z16.ok (a0:List Zr) (a1:List Zo) (aa:Int) (ad:Int) (ae:Int) (af:Int) (ah:Int) (ai:Int) (aj:Int) (ak:Bool) (al:List ByteArray):FN 49 [.im (.row (a0.map Zq)),.im (.row (a1.map Zz)),.ip [iI .i64 aa,iI .u64 ad,iI .u64 ae,iI .i64 af,iI .i64 ah,iI .i64 ai,iI .i64 aj,.sc (.pointer none),bI ak,.row (al.map Za)]] [] 0 (Z16.f a0 a1 aa ad ae af ah ai aj ak al) (fun r=>qi r) (fun r=>[]):=FT [] func49 (.r0<|.el fun am an aq=>.bd fun ar au=>.bd fun av aw=>.rg [(2,hA Zq an aq),(4,qh call28 (Z3a.ok aa ad ae af ah ai aj ak al am ar au)),(6,qh call50 (Z46.ok ar a1 av aw))]<|.ret [] [] [] ⟨[(5,qi av)],[],0⟩)
def Zj.l0 (a0:List (List Zr)) (a1:List Zo) (aa:Int) (ad:Int) (ae:Int) (af:Int) (ah:Int) (ai:Int) (aj:Int) (ak:Bool) (al:List ByteArray) (am:Int) (an:Int):Option Int:=if(decide (am<an))=true then((at? a0 (i64.wrap (Int.fdiv (u64.wrap (i64.wrap (am+an))) 2)))>>=fun aq=>(Z16.f aq a1 aa ad ae af ah ai aj ak al)>>=fun ar=>((if(decide (ar<0))=true then(some (i64.wrap ((i64.wrap (Int.fdiv (u64.wrap (i64.wrap (am+an))) 2))+1),an)) else(some (am,i64.wrap (Int.fdiv (u64.wrap (i64.wrap (am+an))) 2)))):Option (Int×Int))>>=fun oo=>match oo with | (au,av)=>(Zj.l0 a0 a1 aa ad ae af ah ai aj ak al au av)) else(some am)
partial_fixpoint
def Zj.f (a0:List (List Zr)) (a1:List Zo) (aa:Int) (ad:Int) (ae:Int) (af:Int) (ah:Int) (ai:Int) (aj:Int) (ak:Bool) (al:List ByteArray):Option (Int×Bool):=(Zj.l0 a0 a1 aa ad ae af ah ai aj ak al 0 (a0.length:Int))>>=fun am=>((if(decide (am<(a0.length:Int)))=true then((at? a0 am)>>=fun an=>(Z16.f an a1 aa ad ae af ah ai aj ak al)>>=fun aq=>some (aq==0)) else(some false)):Option Bool)>>=fun ar=>some (am,ar)
theorem Zj.ok (a0:List (List Zr)) (a1:List Zo) (aa:Int) (ad:Int) (ae:Int) (af:Int) (ah:Int) (ai:Int) (aj:Int) (ak:Bool) (al:List ByteArray):FN 48 [.im (.row (a0.map (Z40 Zq))),.im (.row (a1.map Zz)),.fn 49 [.ip [iI .i64 aa,iI .u64 ad,iI .u64 ae,iI .i64 af,iI .i64 ah,iI .i64 ai,iI .i64 aj,.sc (.pointer none),bI ak,.row (al.map Za)]]] [] 0 (Zj.f a0 a1 aa ad ae af ah ai aj ak al) (fun r=>.tup [qi r.1,bV r.2]) (fun r=>[]):=FT [] func48 (.r0<|.rg [(1,hG (Z40 Zq) a0)]<|.r0<|.bl<|.loop (.c2 (Zj.l0.partial_correctness a0 a1 aa ad ae af ah ai aj ak al)) (0,(a0.length:Int)) [] [] [] (fun _=>.pr fun am=>.one (fun an=>⟨[(0,.im (.row (a0.map (Z40 Zq)))),(1,.im (.row (a1.map Zz))),(2,.fn 49 [.ip [iI .i64 aa,iI .u64 ad,iI .u64 ae,iI .i64 af,iI .i64 ah,iI .i64 ai,iI .i64 aj,.sc (.pointer none),bI ak,.row (al.map Za)]]),(8,qi (a0.length:Int)),(9,qi am),(10,qi an)],[],0⟩) fun an=>.r0<|.cd (fun aq=>.bl<|.rg [(4,hK 1)]<|.el fun ar au av=>.bd fun aw ax=>.rg [(3,hA (Z40 Zq) au av),(6,qh call49 (Z16.ok ar a1 aa ad ae af ah ai aj ak al aw ax))]<|.join (.cd (fun ay=>.r0<|.o [])
 (fun ay=>.r0<|.o []))
 (.pr fun az=>.st .normal (fun a8=>⟨[(0,.im (.row (a0.map (Z40 Zq)))),(1,.im (.row (a1.map Zz))),(2,.fn 49 [.ip [iI .i64 aa,iI .u64 ad,iI .u64 ae,iI .i64 af,iI .i64 ah,iI .i64 ai,iI .i64 aj,.sc (.pointer none),bI ak,.row (al.map Za)]]),(8,qi (a0.length:Int)),(9,qi az),(10,qi a8)],[],0⟩) fun a8=>.bk [] rfl))
 (fun aq=>.o []))
 (.st (.exit 0) (fun a9=>⟨[(0,.im (.row (a0.map (Z40 Zq)))),(1,.im (.row (a1.map Zz))),(2,.fn 49 [.ip [iI .i64 aa,iI .u64 ad,iI .u64 ae,iI .i64 af,iI .i64 ah,iI .i64 ai,iI .i64 aj,.sc (.pointer none),bI ak,.row (al.map Za)]]),(8,qi (a0.length:Int)),(9,qi a9)],[],0⟩) fun a9=>.join (.sp (fun ba=>.el fun bb bc be=>.bd fun bf bg=>.rg [(4,hB ba),(8,hA (Z40 Zq) bc be),(11,qh call49 (Z16.ok bb a1 aa ad ae af ah ai aj ak al bf bg))]<|.o [])
 (fun ba=>.rg [(4,hB ba)]<|.o []))
 (.st .normal (fun bh=>⟨[(6,qi a9),(7,bV bh)],[],0⟩) fun bh=>.ret [] [] [] ⟨[(6,qi a9),(7,bV bh)],[],0⟩)))
def Z03.l0 (a0_0:Int) (a0_1:Int) (a0_2:Int) (a0_3:Int) (a0_4:Int) (a0_5:Int) (a0_6:Int) (a0_8:Bool) (a0_9:List ByteArray) (a1:List Zr) (x1:List (List Zr)) (x2:Int):Option (List (List Zr)):=if(decide (x2<(a1.length:Int)))=true then((at? a1 x2)>>=fun b1=>(if a0_8=true then Z4r.f b1.f0 a0_9 else some b1.f0)>>=fun y=>(Zj.f x1 y a0_0 a0_1 a0_2 a0_3 a0_4 a0_5 a0_6 a0_8 a0_9)>>=fun t1=>(if(!t1.2)=true then(chk ((t1.1≤(x1.length:Int))∧(x1.length+1)*24≤140737488355328))>>=fun _=>some (x1.take t1.1.toNat++[]::x1.drop t1.1.toNat) else some x1)>>=fun z=>(at? z t1.1)>>=fun g=>(chk ((g.length+1)*48≤140737488355328))>>=fun _=>Z03.l0 a0_0 a0_1 a0_2 a0_3 a0_4 a0_5 a0_6 a0_8 a0_9 a1 (z.set t1.1.toNat (g++[b1])) (i64.wrap (x2+1))) else some x1
partial_fixpoint
def Z03.f (a0_0:Int) (a0_1:Int) (a0_2:Int) (a0_3:Int) (a0_4:Int) (a0_5:Int) (a0_6:Int) (a0_8:Bool) (a0_9:List ByteArray) (a1:List Zr):Option (List (List Zr)):=Z03.l0 a0_0 a0_1 a0_2 a0_3 a0_4 a0_5 a0_6 a0_8 a0_9 a1 [] 0
theorem Z03.ee (r:List (List Zr)):(r.map (fun es=>es.map Zq)).map (fun es=>[Im.row es])=r.map (Z40 Zq):=by rw[List.map_map];rfl
theorem Z03.fx (u:List Value) (n:Nat) (x:Value) (c1 c2:List AVal):((Z26 u).set n c1).set n c2=(Z26 (u.set n x)).set n c2:=by
 simp only[Z26,List.map_set,List.set_set]
def Z03.st (a0_0:Int) (a0_1:Int) (a0_2:Int) (a0_3:Int) (a0_4:Int) (a0_5:Int) (a0_6:Int) (a0_8:Bool) (a0_9:List ByteArray) (a1:List Zr) (u:List Value) (x2:Int):Z3:=⟨[(2,.ptr 10 0 0),(5,.own 20),(11,.im (.row (a1.map Zq))),(12,qi (a1.length:Int)),(13,qi x2)],[(10,some (.box 39 [qi a0_0,qu a0_1,qu a0_2,qi a0_3,qi a0_4,qi a0_5,qi a0_6,.im (.sc (.pointer none)),bV a0_8,.im (.row (a0_9.map Za))])),(20,some (.row 1 26 (Z0s u)))],0⟩
abbrev q3:=@RW _ 2 60 Zq
theorem Z03.ok (a0_0:Int) (a0_1:Int) (a0_2:Int) (a0_3:Int) (a0_4:Int) (a0_5:Int) (a0_6:Int) (a0_8:Bool) (a0_9:List ByteArray) (a1:List Zr) (r:List (List Zr)) (H:Z03.f a0_0 a0_1 a0_2 a0_3 a0_4 a0_5 a0_6 a0_8 a0_9 a1=some r):Pv.Fn Tryz.prog 25 [.agg [qi a0_0,qu a0_1,qu a0_2,qi a0_3,qi a0_4,qi a0_5,qi a0_6,.im (.sc (.pointer none)),bV a0_8,.im (.row (a0_9.map Za))],.im (.row (a1.map Zq))] [] 0 (fun x o=>x = .im (.row (r.map (Z40 Zq)))∧o=[]):=by
 unfold Z03.f at H;refine Fn.body0 func25 rfl rfl (fun Γ hP hn => ?_);have hm:Tryz.prog.follows .mixedOrders=true:=by kernel_rfl
 replace hn:Γ.n=51:=hn;refine sO hP hn hm [(0,.k 10)] [(2,.ptr 10 0 0)] [1,2] [(10,some (.box 39 [qi a0_0,qu a0_1,qu a0_2,qi a0_3,qi a0_4,qi a0_5,qi a0_6,.im (.sc (.pointer none)),bV a0_8,.im (.row (a0_9.map Za))]))] [10] ?_;refine sO hP hn hm [] [(5,.none0)] [1,2,5] [] [10] ?_;refine AWp.conv (inv:=[(10,10)]) (vk:=[]) (e0:=[20]) (t:=⟨[(1,.im (.row (a1.map Zq))),(2,.ptr 10 0 0),(5,.own 20)],[(10,some (.box 39 [qi a0_0,qu a0_1,qu a0_2,qi a0_3,qi a0_4,qi a0_5,qi a0_6,.im (.sc (.pointer none)),bV a0_8,.im (.row (a0_9.map Za))])),(20,some (.row 1 26 (Z0s [])))],0⟩) (by kernel_rfl) ?_
 refine AWp.nest (sz:=2) (el:=60) ?_;refine GWp.seq ?_;refine GWp.seq ?_;refine gR hP hn hm [(1,.any (qi (a1.length:Int)))] [(11,.im (.row (a1.map Zq))),(12,qi (a1.length:Int)),(13,qi 0)] [2,5,11,12,13] [] [10,20] [((a1.map Zq).length:Int)=(a1.length:Int)] ⟨by rw[len_map],trivial⟩ ?_;refine GWp.block ?_;refine GWp.loopB (fun body hbody => ?_);have main:∀ x1 x2 o,Z03.l0 a0_0 a0_1 a0_2 a0_3 a0_4 a0_5 a0_6 a0_8 a0_9 a1 x1 x2=some o→∀ u Bs,GLWp Γ body (fun e s g=>e = .exit 0∧s.get 5 = .own 20∧s.floor=0∧∃ u Bs,s.obj 20=some (.row 1 26 (Z0s u))∧g=nest 2 60 u (o.map (fun es=>es.map Zq)) Bs) (Z03.st a0_0 a0_1 a0_2 a0_3 a0_4 a0_5 a0_6 a0_8 a0_9 a1 u x2) (nest 2 60 u (x1.map (fun es=>es.map Zq)) Bs):=by
  intro x1 x2 o e1;refine Z03.l0.partial_correctness a0_0 a0_1 a0_2 a0_3 a0_4 a0_5 a0_6 a0_8 a0_9 a1 (motive:=fun x1 x2 o=>∀ u Bs,GLWp Γ body (fun e s g=>e = .exit 0∧s.get 5 = .own 20∧s.floor=0∧∃ u Bs,s.obj 20=some (.row 1 26 (Z0s u))∧g=nest 2 60 u (o.map (fun es=>es.map Zq)) Bs) (Z03.st a0_0 a0_1 a0_2 a0_3 a0_4 a0_5 a0_6 a0_8 a0_9 a1 u x2) (nest 2 60 u (x1.map (fun es=>es.map Zq)) Bs)) ?_ _ _ _ e1;clear H e1 o x1 x2;intro self ih x1 x2 o H u Bs;subst hbody;refine GLWp.fact _ nest_len (fun hlen => ?_);obtain⟨hu,_,h1c⟩:=hlen;rw[List.length_map] at hu;refine GLWp.round ?_;refine gS hP hn hm [] [(14,bV (decide (x2<(a1.length:Int))))] [2,5,11,12,13,14] [] [10,20] [] trivial ?_;refine GWp.seq ?_;refine GWp.cond (decide (x2<(a1.length:Int))) (by kernel_rfl) (fun c1 => ?_) (fun c1 => ?_)
  ·replace H:=iT c1 H
   refine GWp.skip ?_;refine GWp.seq ?_;refine GWp.block ?_;obtain⟨b1,hp1,hq1,H⟩:=at_of H;obtain⟨y,ey,H⟩:=Z7v H;obtain⟨t1,et,H⟩:=Z7v H;obtain⟨z,ez,H⟩:=Z7v H;obtain⟨g,pz,qz,H⟩:=at_of H;obtain⟨d1,H⟩:=Zcy H;obtain⟨ti,tb⟩:=t1;simp only at ez pz qz H;obtain⟨n,rfl⟩:=Int.eq_ofNat_of_zero_le pz;simp only[Int.toNat_natCast] at ez qz H;refine gS hP hn hm [(0,.c (Zq b1)),(2,.k 30)] [(7,.ptr 30 0 0)] [2,5,7,11,12,13] [(30,some (.box 60 (Zc3 b1)))] [10,20,30] [_,_] ⟨hp1,el_map Zq hq1,trivial⟩ ?_;refine gS hP hn hm [] [(8,.im (.row (b1.f0.map Zz)))] [2,5,7,8,11,12,13] [] [10,20,30] [] trivial ?_;refine GWp.seq ?_;refine GWp.mono (Q:=fun e s g'=>e = .normal∧s=⟨[(2,.ptr 10 0 0),(5,.own 20),(7,.ptr 30 0 0),(8,.im (.row (y.map Zz))),(11,.im (.row (a1.map Zq))),(12,qi (a1.length:Int)),(13,qi x2),(20,bV a0_8)],[(10,some (.box 39 [qi a0_0,qu a0_1,qu a0_2,qi a0_3,qi a0_4,qi a0_5,qi a0_6,.im (.sc (.pointer none)),bV a0_8,.im (.row (a0_9.map Za))])),(20,some (.row 1 26 (Z0s u))),(30,some (.box 60 (Zc3 b1)))],0⟩∧g'=nest 2 60 u (x1.map (fun es=>es.map Zq)) Bs) ?_ ?_
   ·refine gS hP hn hm [] [(20,bV a0_8)] [2,5,7,8,11,12,13,20] [] [10,20,30] [] trivial ?_
    refine GWp.cond a0_8 (by kernel_rfl) (fun c2 => ?_) (fun c2 => ?_)
    ·replace ey:=iT c2 ey
     refine gR hP hn hm [(4,.more (xFz (.call [] [(0,33)] [] [33] 0 (.own 0) [q1 0 y])))] [(8,.im (.row (y.map Zz)))] [2,5,7,8,11,12,13,20] [] [10,20,30] [_,Pv.Fn Tryz.prog 47 [.im (.row (b1.f0.map Zz)),.im (.row (a0_9.map Za))] [] 0 (fun x o=>x = .own 0∧o=[q1 0 y])] ⟨call47,Z4r.ok _ _ _ ey,trivial⟩ ⟨rfl,rfl,rfl⟩
    ·replace ey:=sj (iF c2 ey)
     subst ey;exact GWp.skip ⟨rfl,rfl,rfl⟩
   ·rintro e s g' ⟨rfl,rfl,rfl⟩
    refine GWp.seq ?_;refine GWp.view' [(2,.ip [iI .i64 a0_0,iI .u64 a0_1,iI .u64 a0_2,iI .i64 a0_3,iI .i64 a0_4,iI .i64 a0_5,iI .i64 a0_6,.sc (.pointer none),bI a0_8,.row (a0_9.map Za)]),(5,.im (.row (x1.map (Z40 Zq)))),(8,.im (.row (y.map Zz)))] [(9,.int .i64 (n:Int)),(10,.bool tb)] [2,5,7,11,12,13] ?_ ?_ ?_
    ·intro a w κ I hr hg p hp
     simp only[List.mem_cons,List.not_mem_nil,or_false] at hp;rcases hp with rfl | rfl | rfl
     ·exact see_box hr rfl rfl
     ·have h:=see_nest hr hg (k5:=20) (e5:=26) (x:=5) rfl rfl
      rw[Z03.ee] at h;exact h
     ·exact see_im hr rfl
    ·intro Γ' f1 f2
     refine LAw.run (f1.trans hP) (f2.trans hn) [(2,.more xFunc),(3,.call [] [] [] [] 0 (.tup [qi (n:Int),bV tb]) [])] [(9,qi (n:Int)),(10,bV tb)] [9,10] [] [] [_,Pv.Fn Tryz.prog 48 [.im (.row (x1.map (Z40 Zq))),.im (.row (y.map Zz)),.fn 49 [.ip [iI .i64 a0_0,iI .u64 a0_1,iI .u64 a0_2,iI .i64 a0_3,iI .i64 a0_4,iI .i64 a0_5,iI .i64 a0_6,.sc (.pointer none),bI a0_8,.row (a0_9.map Za)]]] [] 0 (fun x o=>x = .tup [qi (n:Int),bV tb]∧o=[])] ⟨call48,Zj.ok x1 y a0_0 a0_1 a0_2 a0_3 a0_4 a0_5 a0_6 a0_8 a0_9 (n,tb) et,trivial⟩ ?_;intro p hp;simp only[List.mem_cons,List.not_mem_nil,or_false] at hp;rcases hp with rfl | rfl<;>rfl
    ·refine GWp.seq ?_
     refine GWp.mono (Q:=fun e s g'=>e = .normal∧∃ u Bs,u.length=z.length∧s=⟨[(2,.ptr 10 0 0),(5,.own 20),(7,.ptr 30 0 0),(9,qi (n:Int)),(11,.im (.row (a1.map Zq))),(12,qi (a1.length:Int)),(13,qi x2),(34,bV (!tb))],[(10,some (.box 39 [qi a0_0,qu a0_1,qu a0_2,qi a0_3,qi a0_4,qi a0_5,qi a0_6,.im (.sc (.pointer none)),bV a0_8,.im (.row (a0_9.map Za))])),(20,some (.row 1 26 (Z0s u))),(30,some (.box 60 (Zc3 b1)))],0⟩∧g'=nest 2 60 u (z.map (fun es=>es.map Zq)) Bs) ?_ ?_
     ·refine gS hP hn hm [] [(34,bV (!tb))] [2,5,7,9,11,12,13,34] [] [10,20,30] [] trivial ?_
      refine GWp.cond (!tb) (by kernel_rfl) (fun c3 => ?_) (fun c3 => ?_)
      ·replace ez:=iT c3 ez
       obtain⟨d2,ez⟩:=Zcy ez;obtain rfl:=sj ez;obtain⟨d2,d3⟩:=d2;have hnl:n≤u.length:=by omega
       refine GWp.post ?_;refine gK hP hn hm [(2,.more (xOneC 31)),(3,.call [(20,0),(31,1)] [(2,32)] [] [32] 2 (.own 2) [(0,none),(1,none),(2,some (.row 1 26 (Z0s (u.take n ++ .slice none 0 0::u.drop n))))])] [(5,.own 32)] [2,5,7,9,11,12,13,34] [(32,some (.row 1 26 (Z0s (u.take n ++ .slice none 0 0::u.drop n))))] [10,30,32] [_,Pv.Fn Tryz.prog 51 [.own 0,qi (n:Int),.own 1] [(0,some (.row 1 26 (Z0s u))),(1,some (.row 1 26 (Z0s [.slice none 0 0])))] 2 (fun r o=>r = .own 2∧o=[(0,none),(1,none),(2,some (.row 1 26 (Z0s (u.take n ++ .slice none 0 0::u.drop n))))])] [(10,10),(30,30),(32,20)] [] [] ⟨[(2,.ptr 10 0 0),(5,.own 20),(7,.ptr 30 0 0),(9,qi (n:Int)),(11,.im (.row (a1.map Zq))),(12,qi (a1.length:Int)),(13,qi x2),(34,bV (!tb))],[(10,some (.box 39 [qi a0_0,qu a0_1,qu a0_2,qi a0_3,qi a0_4,qi a0_5,qi a0_6,.im (.sc (.pointer none)),bV a0_8,.im (.row (a0_9.map Za))])),(20,some (.row 1 26 (Z0s (u.take n ++ .slice none 0 0::u.drop n)))),(30,some (.box 60 (Zc3 b1)))],0⟩ ⟨call51,ins_ok u h1c n hnl (by omega),trivial⟩ rfl ?_;intro a w hs;have hs:=nest_insert (n:=n) (by rw[List.length_map];omega) a w hs;refine⟨_,_,hs,rfl,u.take n ++ .slice none 0 0::u.drop n,Bs.take n++[]::Bs.drop n,?_,rfl,?_⟩
       ·simp;omega
       ·simp only[List.map_append,List.map_cons,List.map_nil,List.map_take,List.map_drop]
      ·replace ez:=sj (iF c3 ez)
       subst ez;exact GWp.skip ⟨rfl,u,Bs,hu,rfl,rfl⟩
     ·rintro e s g' ⟨rfl,u,Bs,hu,rfl,rfl⟩
      obtain⟨hnz,hgz⟩:=List.getElem?_eq_some_iff.1 qz;have hgi:(z.map (fun es=>es.map Zq))[n]'(by rw[List.length_map];exact hnz)=g.map Zq:=by simp[hgz]
      refine GWp.cv (focus (k5:=20) (e5:=26) (k20:=40) (i:=n) rfl (by decide) ?_ (by rw[List.length_map];exact hnz)) ?_
      ·exact Z8z (by kernel_rfl)
      rw[hgi];have hset:n<((Z26 u).set n [.own 40]).length:=by simp[Z26];omega
      have hget:((Z26 u).set n [.own 40])[n]? = some [.own 40]:=by rw[List.getElem?_set_self (by simp[Z26];omega)]
      refine GWp.post ?_;refine gX hP hn hm [(4,.more (xIdxP n)),(5,.more (xLoadP n [.own 40])),(7,.app 41 ([b1].map Zq)),(8,.app 42 ((g++[b1]).map Zq)),(9,.more (xIdxP n)),(10,.more (xStoreP n [.own 40]))] [20] [] [2,5,11,12,13] [(20,some (.arow 1 26 [] (((Z26 u).set n [.own 40]).set n [.own 42]))),q3 42 (g++[b1])] [10,20,42] [(MObj.arow 1 26 [] ((Z26 u).set n [.own 40])).has 41=false,(MObj.arow 1 26 [] ((Z26 u).set n [.own 40])).has 42=false,(n:Int)=((([]:List (List Im)).length+n:Nat):Int),n<((Z26 u).set n [.own 40]).length,([]:List (List Im)).length+n=([]:List (List Im)).length+n,((Z26 u).set n [.own 40])[n]? = some [.own 40],[b1].map Zq=[Zq b1],(MObj.arow 1 26 [] ((Z26 u).set n [.own 40])).has 41=false,(g++[b1]).map Zq=(g.map Zq)++([b1].map Zq),∀ c∈([b1].map Zq),c.length=2,∀ c∈([b1].map Zq),Z3q (c.map .im)=true,((g.map Zq).length+([b1].map Zq).length)*48≤140737488355328,(MObj.arow 1 26 [] ((Z26 u).set n [.own 40])).has 42=false,(n:Int)=((([]:List (List Im)).length+n:Nat):Int),n<((Z26 u).set n [.own 40]).length,([]:List (List Im)).length+n=([]:List (List Im)).length+n,((Z26 u).set n [.own 40])[n]? = some [.own 40]] ⟨Z7a (by decide),Z7a (by decide),by simp,hset,rfl,hget,rfl,Z7a (by decide),by simp,by exact Z5w _ _ _ (fun _=>rfl),by exact Z5p _ _ (fun _=>rfl),by simpa using d1,Z7a (by decide),by simp,hset,rfl,hget,trivial⟩ ?_;rw[Z03.fx u n (.slice none 0 0)];intro a w hs;obtain⟨v,B',hs⟩:=unfocus (k5:=20) (e5:=26) (k21:=42) (i:=n) (es:=(g++[b1]).map Zq) rfl rfl (by decide) (by simp;omega) (fun h=>by simp) a w hs;refine⟨_,_,hs,?_⟩;refine gR hP hn hm [] [(13,qi (i64.wrap (x2+1)))] [2,5,11,12,13] [] [10,20] [] trivial ?_;have h:=ih _ _ _ H ((u.set n (.slice none 0 0)).set n v) ((Bs.set n []).set n B');rw[List.map_set] at h;rw[show ∀ q:List (List (List Im)),(q.set n []).set n ((g++[b1]).map Zq)=q.set n ((g++[b1]).map Zq) from fun q=>by rw[List.set_set]];exact h
  ·replace H:=iF c1 H
   obtain rfl:=sj H;exact GWp.exit ⟨rfl,rfl,rfl,u,Bs,rfl,rfl⟩
 refine GLWp.mono (main [] 0 r H [] []) ?_;rintro e s g ⟨rfl,h5,hfl,u,Bs,h20,rfl⟩;show GWp Γ _ _ s _;refine GWp.data (Go.Pv.freeze h20 h5) ?_;rw[Z03.ee,hfl];refine sO hP hn hm [] [(4,.im (.row (r.map (Z40 Zq))))] [4] [] [] ?_;exact AWp.ret ⟨.inl rfl,rfl,rfl⟩
def Z1s.f (a0:List Z06):Option (List Z06):=(chk ((([]:List Z06).length+a0.length)*104≤140737488355328))>>=fun _=>some a0
theorem Z1s.ok (a0 r:List Z06) (H:Z1s.f a0=some r):Pv.Fn Tryz.prog 59 [.im (.row (a0.map Z05))] [] 0 (fun x o=>x = .own 0∧o=[q2 0 r]):=by
 unfold Z1s.f at H;obtain⟨c1,H⟩:=Zcy H;obtain rfl:=sj H;refine Fn.bodyK [0] func59 rfl rfl (fun Γ hP hn => ?_);have hm:Tryz.prog.follows .mixedOrders=true:=by kernel_rfl
 replace hn:Γ.n=8:=hn;refine AWp.seq ?_;refine reg hP hn hm [] [0,2] [] ⟨[(0,.im (.row (a0.map Z05))),(2,.none0)],[],0⟩ [] (by kernel_rfl) trivial ?_;refine AWp.seq ?_;cases a0 with
 | nil =>
  refine AWp.nilSplit 0 rfl (fun b m => ?_);refine AWp.seq ?_;cases b with
  | none =>
   refine reg hP hn hm [(1,.more xNil)] [2,4] [] ⟨[(2,.none0),(4,bV true)],[],0⟩ [] (by kernel_rfl) trivial ?_;refine AWp.cond true rfl (fun _ => ?_) (fun h=>nomatch h);refine AWp.seq ?_;refine reg hP hn hm [] [2] [] ⟨[(2,.none0)],[],0⟩ [] (by kernel_rfl) trivial ?_;refine AWp.conv (inv:=[]) (vk:=[]) (e0:=[0]) (t:=⟨[(2,.own 0)],[(0,some (.row 9 80 []))],0⟩) (by kernel_rfl) ?_
   refine AWp.ret ?_;exact Exists.intro _ (And.intro (fun _ _ h=>h) (And.intro (.inl rfl) (And.intro rfl (And.intro (by kernel_rfl) (by kernel_rfl)))))
  | some b =>
   refine reg hP hn hm [(1,.more xNil)] [0,2,4] [] ⟨[(0,.im (.sc (.slice (some b) 0 m))),(2,.none0),(4,bV false)],[],0⟩ [] (by kernel_rfl) trivial ?_;refine AWp.cond false rfl (fun h=>nomatch h) (fun _ => ?_);refine AWp.skip ?_;refine AWp.unsplit 0 rfl ?_;refine AWp.seq ?_;refine reg hP hn hm [(0,.app 0 ([]:List (List Im))),(2,.app 1 (([]:List Z06).map Z05))] [2] [1] ⟨[(2,.own 1)],[q2 1 ([]:List Z06)],0⟩ [([]:List (List Im))=[],([]:List Z06).map Z05=([]:List (List Im))++([]:List Z06).map Z05,∀ c∈([]:List Z06).map Z05,c.length=9,∀ c∈([]:List Z06).map Z05,Z3q (c.map .im)=true,(([]:List (List Im)).length+(([]:List Z06).map Z05).length)*104≤140737488355328] (by kernel_rfl) ⟨rfl,by simp,by exact Z5w _ _ _ (fun _=>rfl),by exact Z5p _ _ (fun _=>rfl),by simpa using c1,trivial⟩ ?_;refine AWp.conv (inv:=[(1,0)]) (vk:=[]) (e0:=[]) (t:=⟨[(2,.own 0)],[q2 0 ([]:List Z06)],0⟩) (by kernel_rfl) ?_
   refine AWp.ret ?_;exact Exists.intro _ (And.intro (fun _ _ h=>h) (And.intro (.inl rfl) (And.intro rfl (And.intro (by kernel_rfl) (by kernel_rfl)))))
 | cons y l =>
  refine AWp.seq ?_;refine reg hP hn hm [(1,.more xNil)] [0,2,4] [] ⟨[(0,.im (.row ((y::l).map Z05))),(2,.none0),(4,bV false)],[],0⟩ [] (by kernel_rfl) trivial ?_;refine AWp.cond false rfl (fun h=>nomatch h) (fun _ => ?_);refine AWp.skip ?_;refine AWp.seq ?_;refine reg hP hn hm [(0,.app 0 ([]:List (List Im))),(2,.app 1 ((y::l).map Z05))] [2] [1] ⟨[(2,.own 1)],[q2 1 (y::l)],0⟩ [([]:List (List Im))=[],(y::l).map Z05=([]:List (List Im))++(y::l).map Z05,∀ c∈(y::l).map Z05,c.length=9,∀ c∈(y::l).map Z05,Z3q (c.map .im)=true,(([]:List (List Im)).length+((y::l).map Z05).length)*104≤140737488355328] (by kernel_rfl) ⟨rfl,by simp,by exact Z5w _ _ _ (fun _=>rfl),by exact Z5p _ _ (fun _=>rfl),by simpa using c1,trivial⟩ ?_;refine AWp.conv (inv:=[(1,0)]) (vk:=[]) (e0:=[]) (t:=⟨[(2,.own 0)],[q2 0 (y::l)],0⟩) (by kernel_rfl) ?_
  refine AWp.ret ?_;exact Exists.intro _ (And.intro (fun _ _ h=>h) (And.intro (.inl rfl) (And.intro rfl (And.intro (by kernel_rfl) (by kernel_rfl)))))
def Z24.f (a0:Z06) (aa:Int) (ad:Int):Option Bool:=((if(decide (a0.f0≤aa))=true then(some true) else(some (decide (a0.f0>ad)))):Option Bool)>>=fun ae=>some ae
theorem Z24.ok (a0:Z06) (aa:Int) (ad:Int):FN 60 [.agg [qi a0.f0,qi a0.f1.f0,qi a0.f1.f1,qi a0.f1.f2,qu a0.f1.f3,qu a0.f1.f4,qi a0.f1.f5,.im (.row (a0.f1.f6.map Z5)),.im (.row (a0.f1.f7.map Z5))],.ptr 0 0 0,.ptr 1 0 0] [(0,some (.box 2 [qi aa])),(1,some (.box 2 [qi ad]))] 2 (Z24.f a0 aa ad) (fun r=>bV r) (fun r=>[(0,some (.box 2 [qi aa])),(1,some (.box 2 [qi ad]))]):=FT [0,1] func60 (.rg [(0,⟨.k 2,.n⟩)]<|.join (.sp (fun ae=>.rg [(4,hB ae)]<|.o [(0,0),(1,1)])
 (fun ae=>.rg [(4,hB ae)]<|.o [(0,0),(1,1)]))
 (.st .normal (fun af=>⟨[(4,bV af)],[(0,some (.box 2 [qi aa])),(1,some (.box 2 [qi ad]))],2⟩) fun af=>.ret [(0,0),(1,1)] [] [] ⟨[(4,bV af)],[(0,some (.box 2 [qi aa])),(1,some (.box 2 [qi ad]))],2⟩))
def Zw.l0 (a0:List Z06) (aa:Int) (ad:Int) (ae:Int):Option (Int ⊕ Unit):=if(decide (ae<(a0.length:Int)))=true then((at? a0 ae)>>=fun af=>(Z24.f af aa ad)>>=fun ah=>if ah=true then(some (.inl ae)) else(Zw.l0 a0 aa ad (i64.wrap (ae+1)))) else(some (.inr ()))
partial_fixpoint
def Zw.f (a0:List Z06) (aa:Int) (ad:Int):Option Int:=(Zw.l0 a0 aa ad 0)>>=fun oo=>match oo with | .inl rr=>(some rr) | .inr _=>(some (-1))
theorem Zw.ok (a0:List Z06) (aa:Int) (ad:Int):FN 91 [.own 0,.fn 60 [.ptr 1 0 0,.ptr 2 0 0]] [q2 0 a0,(1,some (.box 2 [qi aa])),(2,some (.box 2 [qi ad]))] 3 (Zw.f a0 aa ad) (fun r=>qi r) (fun r=>[q2 0 a0,(1,some (.box 2 [qi aa])),(2,some (.box 2 [qi ad]))]):=FT [0,1,2] func91 (.r0<|.rg [(1,hG Z05 a0)]<|.bl<|.loop (.one (Zw.l0.partial_correctness a0 aa ad)) 0 [(0,0),(1,1),(2,2)] [] [] (fun _=>.one (fun ae=>⟨[(0,.own 0),(1,.fn 60 [.ptr 1 0 0,.ptr 2 0 0]),(7,qi (a0.length:Int)),(8,qi ae)],[q2 0 a0,(1,some (.box 2 [qi aa])),(2,some (.box 2 [qi ad]))],3⟩) fun ae=>.r0<|.cd (fun af=>.bl<|.r0<|.el fun ah ai aj=>.bd fun ak al=>.rg [(3,hX Z05 ai aj),(4,hL Z05 aj),(5,hC [(1,0),(2,1)] [(0,1),(1,2)] [] [] call60 (Z24.ok ah aa ad ak al))]<|.cd (fun am=>.r0<|.ret [(0,0),(1,1),(2,2)] [] [] ⟨[(4,qi ae)],[q2 0 a0,(1,some (.box 2 [qi aa])),(2,some (.box 2 [qi ad]))],3⟩)
 (fun am=>.r0<|.bk [(0,0),(1,1),(2,2)] rfl))
 (fun af=>.o [(0,0),(1,1),(2,2)]))
 (.sm (.rt (fun rr=>qi rr) (fun rr=>[q2 0 a0,(1,some (.box 2 [qi aa])),(2,some (.box 2 [qi ad]))]))
 (.st (.exit 0) (fun _=>⟨[],[q2 0 a0,(1,some (.box 2 [qi aa])),(2,some (.box 2 [qi ad]))],3⟩) fun _=>.r0<|.ret [(0,0),(1,1),(2,2)] [] [] ⟨[(4,qi (-1))],[q2 0 a0,(1,some (.box 2 [qi aa])),(2,some (.box 2 [qi ad]))],3⟩)))
def Zn.l0 (aa:Int) (ad:Int) (ae:List Z06) (af:Int) (ah:Int):Option ((List Z06)×Int):=if(decide (ah<(ae.length:Int)))=true then((at? ae ah)>>=fun ai=>(Z24.f ai aa ad)>>=fun aj=>((if(!aj)=true then((at? ae af)>>=fun ak=>some (ae.set (Int.toNat (af)) ai,i64.wrap (af+1))) else(some (ae,af))):Option ((List Z06)×Int))>>=fun oo=>match oo with | (al,am)=>(Zn.l0 aa ad al am (i64.wrap (ah+1)))) else(some (ae,af))
partial_fixpoint
def Zn.f (a0:List Z06) (aa:Int) (ad:Int):Option (List Z06):=(Zw.f a0 aa ad)>>=fun ae=>if(ae==(-1))=true then(some a0) else((Zn.l0 aa ad a0 ae (i64.wrap (ae+1)))>>=fun oo=>match oo with | (af,ah)=>((chk (0≤ah∧ah≤(af.length:Int)))>>=fun _=>(chk (0≤ah∧ah≤((af.take (Int.toNat ah)++List.replicate (af.length-(Int.toNat ah)) (⟨0,(⟨0,0,0,0,0,0,[],[]⟩:Z1)⟩:Z06)).length:Int)))>>=fun _=>some ((af.take (Int.toNat ah)++List.replicate (af.length-(Int.toNat ah)) (⟨0,(⟨0,0,0,0,0,0,[],[]⟩:Z1)⟩:Z06)).take (Int.toNat (ah)))))
theorem Zn.ok (a0:List Z06) (aa:Int) (ad:Int):FN 58 [.own 0,.fn 60 [.ptr 1 0 0,.ptr 2 0 0]] [q2 0 a0,(1,some (.box 2 [qi aa])),(2,some (.box 2 [qi ad]))] 3 (Zn.f a0 aa ad) (fun r=>.own 3) (fun r=>[(0,none),(1,some (.box 2 [qi aa])),(2,some (.box 2 [qi ad])),q2 3 r]):=FT [0,1,2,3] func58 (.r0<|.bd fun ae af=>.rg [(2,hC [(0,0),(1,1),(2,2)] [(0,0),(1,1),(2,2)] [] [] call91 (Zw.ok a0 aa ad ae af))]<|.r0<|.cd (fun ah=>.r0<|.ret [(0,3),(1,1),(2,2)] [] [] ⟨[(4,.own 3)],[(1,some (.box 2 [qi aa])),(2,some (.box 2 [qi ad])),q2 3 a0],3⟩)
 (fun ah=>.r0<|.bl<|.loop (.c3 (Zn.l0.partial_correctness aa ad)) (a0,ae,i64.wrap (ae+1)) [(0,0),(1,1),(2,2)] [] [] (fun _=>.pr fun ai=>.pr fun aj=>.one (fun ak=>⟨[(0,.own 0),(1,.fn 60 [.ptr 1 0 0,.ptr 2 0 0]),(5,qi aj),(6,qi ak)],[q2 0 ai,(1,some (.box 2 [qi aa])),(2,some (.box 2 [qi ad]))],3⟩) fun ak=>.rg [(2,hG Z05 ai)]<|.cd (fun al=>.bl<|.el fun am an aq=>.rg [(2,hX Z05 an aq),(3,hL Z05 aq),(4,⟨.k 4,.n⟩)]<|.bd fun ar au=>.rg [(2,hC [(1,0),(2,1)] [(0,1),(1,2)] [] [] call60 (Z24.ok am aa ad ar au))]<|.join (.cd (fun av=>.el fun aw ax ay=>.rg [(3,hX Z05 ax ay),(4,hS Z05 am 0 [iI .i64 am.f0,iI .i64 am.f1.f0,iI .i64 am.f1.f1,iI .i64 am.f1.f2,iI .u64 am.f1.f3,iI .u64 am.f1.f4,iI .i64 am.f1.f5,.row (am.f1.f6.map Z5),.row (am.f1.f7.map Z5)] ay)]<|.r0<|.o [(0,0),(1,1),(2,2)])
 (fun av=>.o [(0,0),(1,1),(2,2)]))
 (.pr fun az=>.st .normal (fun a8=>⟨[(0,.own 0),(1,.fn 60 [.ptr 1 0 0,.ptr 2 0 0]),(5,qi a8),(6,qi ak)],[q2 0 az,(1,some (.box 2 [qi aa])),(2,some (.box 2 [qi ad]))],3⟩) fun a8=>.r0<|.bk [(0,0),(1,1),(2,2)] rfl))
 (fun al=>.o [(0,0),(1,1),(2,2)]))
 (.pr fun a9=>.st (.exit 0) (fun ba=>⟨[(0,.own 0),(5,qi ba)],[q2 0 a9,(1,some (.box 2 [qi aa])),(2,some (.box 2 [qi ad]))],3⟩) fun ba=>.ck fun bb=>.rg [(2,⟨.more (xCutOwn (Int.toNat ba) (a9.length-(Int.toNat ba))),.c (p:=ba=(((Int.toNat ba):Nat):Int)) ((Int.toNat_of_nonneg bb.1).symm) (.c (p:=(Int.toNat ba)+(a9.length-(Int.toNat ba))=(a9.map Z05).length) (by have h:=bb;rw[List.length_map];omega) .n)⟩),(3,⟨.more (xClear ((a9.take (Int.toNat ba)++List.replicate (a9.length-(Int.toNat ba)) (⟨0,(⟨0,0,0,0,0,0,[],[]⟩:Z1)⟩:Z06)).map Z05)),.c (p:=(a9.take (Int.toNat ba)++List.replicate (a9.length-(Int.toNat ba)) (⟨0,(⟨0,0,0,0,0,0,[],[]⟩:Z1)⟩:Z06)).map Z05=(a9.map Z05).take (Int.toNat ba)++List.replicate (a9.length-(Int.toNat ba)) [iI .i64 0,iI .i64 0,iI .i64 0,iI .i64 0,iI .u64 0,iI .u64 0,iI .i64 0,.row [],.row []]) (by simp) (.c (p:=(Int.toNat ba)+(a9.length-(Int.toNat ba))=(a9.map Z05).length) (by have h:=bb;rw[List.length_map];omega) .n)⟩)]<|.ck fun bc=>.rg [(2,⟨.more (xTake 5 (((a9.take (Int.toNat ba)++List.replicate (a9.length-(Int.toNat ba)) (⟨0,(⟨0,0,0,0,0,0,[],[]⟩:Z1)⟩:Z06)).take (Int.toNat (ba))).map Z05)),.c (bc.1) (.c (p:=ba≤(((a9.take (Int.toNat ba)++List.replicate (a9.length-(Int.toNat ba)) (⟨0,(⟨0,0,0,0,0,0,[],[]⟩:Z1)⟩:Z06)).map Z05).length:Int)) (by simpa using bc.2) (.c (p:=((a9.take (Int.toNat ba)++List.replicate (a9.length-(Int.toNat ba)) (⟨0,(⟨0,0,0,0,0,0,[],[]⟩:Z1)⟩:Z06)).take (Int.toNat (ba))).map Z05=((a9.take (Int.toNat ba)++List.replicate (a9.length-(Int.toNat ba)) (⟨0,(⟨0,0,0,0,0,0,[],[]⟩:Z1)⟩:Z06)).map Z05).take (Int.toNat (ba))) (by simp) .n))⟩)]<|.ret [(1,1),(2,2),(5,3)] [] [] ⟨[(4,.own 3)],[(1,some (.box 2 [qi aa])),(2,some (.box 2 [qi ad])),q2 3 ((a9.take (Int.toNat ba)++List.replicate (a9.length-(Int.toNat ba)) (⟨0,(⟨0,0,0,0,0,0,[],[]⟩:Z1)⟩:Z06)).take (Int.toNat (ba)))],3⟩)))
def Z4s.f (a0:List Z06) (a1:Int) (a2:Int):Option (List Z06):=(Z1s.f a0)>>=fun aa=>(Zn.f aa a1 a2)>>=fun ad=>some ad
theorem Z4s.ok (a0:List Z06) (a1:Int) (a2:Int):FN 32 [.im (.row (a0.map Z05)),qi a1,qi a2] [] 0 (Z4s.f a0 a1 a2) (fun r=>.own 0) (fun r=>[q2 0 r]):=FT [0] func32 (.rg [(0,⟨.k 0,.n⟩),(1,⟨.k 1,.n⟩)]<|.bd fun aa ad=>.bd fun ae af=>.rg [(1,hC [] [(0,2)] [] [2] call59 (Z1s.ok a0 aa ad)),(2,⟨.more xFunc,.n⟩),(3,hC [(2,0),(0,1),(1,2)] [(1,0),(2,1),(3,3)] [] [3] call58 (Zn.ok aa a1 a2 ae af))]<|.ret [(3,0)] [] [] ⟨[(6,.own 0)],[q2 0 ae],0⟩)
def Z54.f (a0:Int) (a1:Int):Option Z1:=some (⟨a0,a1,(-524288),0,0,0,[],[]⟩:Z1)
theorem Z54.ok (a0:Int) (a1:Int):FN 61 [qi a0,qi a1] [] 0 (Z54.f a0 a1) (fun r=>.agg (Zv (r))) (fun r=>[]):=FT [] func61 (.rg [(0,⟨.k 0,.n⟩)]<|.r0<|.ret [(0,0)] [] [] ⟨[(4,.ptr 0 0 0)],[(0,some (.box 48 (Zv ((⟨a0,a1,(-524288),0,0,0,[],[]⟩:Z1)))))],0⟩)
def Z53.f (a0:Int) (a1:Int):Option (Int×Int):=if(!((decide (a0<a1))==(decide ((i64.wrap (a0-a1))<0))))=true then(some (0,5)) else(some (i64.wrap (a0-a1),0))
theorem Z53.ok (a0:Int) (a1:Int):FN 92 [qi a0,qi a1] [] 0 (Z53.f a0 a1) (fun r=>.tup [qi r.1,qi r.2]) (fun r=>[]):=FT [] func92 (.r0<|.r0<|.r0<|.cd (fun aa=>.r0<|.ret [] [] [] ⟨[(4,qi 0),(5,qi 5)],[],0⟩)
 (fun aa=>.r0<|.ret [] [] [] ⟨[(4,qi (i64.wrap (a0-a1))),(5,qi 0)],[],0⟩))
def Z0g.f (a0:Int):Option Bool:=((if(decide (a0≥(-4)))=true then(some (decide (a0≤8))) else(some false)):Option Bool)>>=fun aa=>some aa
theorem Z0g.ok (a0:Int):FN 157 [qi a0] [] 0 (Z0g.f a0) (fun r=>bV r) (fun r=>[]):=FT [] func157 (.r0<|.join (.sp (fun aa=>.rg [(2,hB aa)]<|.o [])
 (fun aa=>.rg [(2,hB aa)]<|.o []))
 (.st .normal (fun ad=>⟨[(2,bV ad)],[],0⟩) fun ad=>.ret [] [] [] ⟨[(2,bV ad)],[],0⟩))
def Z3z.f (a0:Int):Option Unit:=some ()
theorem Z3z.ok (a0:Int):FN 167 [qi a0] [] 0 (Z3z.f a0) (fun r=>qu (u64.wrap (i64.wrap ((8:Int)-a0)))) (fun r=>[]):=FT [] func167 (.r0<|.r0<|.ret [] [] [] ⟨[(2,qu (u64.wrap (i64.wrap ((8:Int)-a0))))],[],0⟩)
def Z48.f (a0:Int):Option Int:=(Z0g.f a0)>>=fun aa=>if(!aa)=true then(some 0) else((Z3z.f a0)>>=fun ad=>(chk (0≤(u64.wrap (i64.wrap ((8:Int)-a0)))))>>=fun _=>some (Int.fdiv (262144:Int) (2 ^ (min (Int.toNat (u64.wrap (i64.wrap ((8:Int)-a0)))) 64))))
theorem Z48.ok (a0:Int):FN 183 [qi a0] [] 0 (Z48.f a0) (fun r=>qi r) (fun r=>[]):=FT [] func183 (.r0<|.bd fun aa ad=>.rg [(1,qh call157 (Z0g.ok a0 aa ad))]<|.cd (fun ae=>.r0<|.ret [] [] [] ⟨[(2,qi 0)],[],0⟩)
 (fun ae=>.bd fun af ah=>.ck fun ai=>.rg [(1,qh call167 (Z3z.ok a0 af ah)),(2,hN (p1 ai))]<|.ret [] [] [] ⟨[(2,qi (Int.fdiv (262144:Int) (2 ^ (min (Int.toNat (u64.wrap (i64.wrap ((8:Int)-a0)))) 64))))],[],0⟩))
def Z4t.f (a0:Int):Option Int:=(Z48.f a0)>>=fun aa=>some (i64.wrap ((i64.wrap (0-aa))+1))
theorem Z4t.ok (a0:Int):FN 182 [qi a0] [] 0 (Z4t.f a0) (fun r=>qi r) (fun r=>[]):=FT [] func182 (.r0<|.bd fun aa ad=>.rg [(1,qh call183 (Z48.ok a0 aa ad))]<|.ret [] [] [] ⟨[(2,qi (i64.wrap ((i64.wrap (0-aa))+1)))],[],0⟩)
def Z55.f (a0:Int) (a1:Int):Option Bool:=(((Z0g.f a0)>>=fun aa=>if aa=true then((Z4t.f a0)>>=fun ad=>if(decide (a1≥ad))=true then((Z48.f a0)>>=fun ae=>some (decide (a1≤ae))) else(some false)) else(some false)):Option Bool)>>=fun af=>some af
theorem Z55.ok (a0:Int) (a1:Int):FN 176 [qi a0,qi a1] [] 0 (Z55.f a0 a1) (fun r=>bV r) (fun r=>[]):=FT [] func176 (.r0<|.join (.bd fun aa ad=>.sp (fun ae=>.bd fun af ah=>.sp (fun ai=>.bd fun aj ak=>.rg [(1,qh call157 (Z0g.ok a0 aa ad)),(2,hB ae),(5,qh call182 (Z4t.ok a0 af ah)),(8,hB ai),(11,qh call183 (Z48.ok a0 aj ak))]<|.o [])
 (fun ai=>.rg [(1,qh call157 (Z0g.ok a0 aa ad)),(2,hB ae),(5,qh call182 (Z4t.ok a0 af ah)),(8,hB ai)]<|.o []))
 (fun ae=>.rg [(1,qh call157 (Z0g.ok a0 aa ad)),(2,hB ae)]<|.o []))
 (.st .normal (fun al=>⟨[(4,bV al)],[],0⟩) fun al=>.ret [] [] [] ⟨[(4,bV al)],[],0⟩))
def Z90.f (a0:Int) (a1:Int):Option Unit:=(chk (0≤a1))>>=fun _=>some ()
theorem Z90.ok (a0:Int) (a1:Int):FN 179 [qi a0,qu a1] [] 0 (Z90.f a0 a1) (fun r=>qi (i64.wrap (0-(Int.fdiv (i64.wrap (0-a0)) (2 ^ (min (Int.toNat (a1)) 64)))))) (fun r=>[]):=FT [] func179 (.r0<|.ck fun aa=>.rg [(3,hN (p1 aa))]<|.ret [] [] [] ⟨[(4,qi (i64.wrap (0-(Int.fdiv (i64.wrap (0-a0)) (2 ^ (min (Int.toNat (a1)) 64))))))],[],0⟩)
def Z66.f (a0:Int) (a1:Int) (a2:Int):Option (Int×Int):=(((Z0g.f a0)>>=fun aa=>if(!aa)=true then(some true) else((Z0g.f a1)>>=fun ad=>if(!ad)=true then(some true) else(some (decide (a1>a0))))):Option Bool)>>=fun ae=>if ae=true then(some (0,20)) else((Z55.f a0 a2)>>=fun af=>if(!af)=true then(some (0,4)) else((Z90.f a2 (u64.wrap (i64.wrap (a0-a1))))>>=fun ah=>some (i64.wrap (0-(Int.fdiv (i64.wrap (0-a2)) (2 ^ (min (Int.toNat ((u64.wrap (i64.wrap (a0-a1))))) 64)))),0)))
theorem Z66.ok (a0:Int) (a1:Int) (a2:Int):FN 171 [qi a0,qi a1,qi a2] [] 0 (Z66.f a0 a1 a2) (fun r=>.tup [qi r.1,qi r.2]) (fun r=>[]):=FT [] func171 (.r0<|.bl<|.join (.bd fun aa ad=>.sp (fun ae=>.rg [(1,qh call157 (Z0g.ok a0 aa ad)),(3,hB ae)]<|.o [])
 (fun ae=>.bd fun af ah=>.sp (fun ai=>.rg [(1,qh call157 (Z0g.ok a0 aa ad)),(3,hB ae),(5,qh call157 (Z0g.ok a1 af ah)),(8,hB ai)]<|.o [])
 (fun ai=>.rg [(1,qh call157 (Z0g.ok a0 aa ad)),(3,hB ae),(5,qh call157 (Z0g.ok a1 af ah)),(8,hB ai)]<|.o [])))
 (.st .normal (fun aj=>⟨[(0,qi a0),(1,qi a1),(2,qi a2),(8,bV aj)],[],0⟩) fun aj=>.cd (fun ak=>.r0<|.ret [] [] [] ⟨[(6,qi 0),(7,qi 20)],[],0⟩)
 (fun ak=>.bd fun al am=>.rg [(2,qh call176 (Z55.ok a0 a2 al am))]<|.cd (fun an=>.r0<|.ret [] [] [] ⟨[(6,qi 0),(7,qi 4)],[],0⟩)
 (fun an=>.bd fun aq ar=>.rg [(5,qh call179 (Z90.ok a2 (u64.wrap (i64.wrap (a0-a1))) aq ar))]<|.ret [] [] [] ⟨[(6,qi (i64.wrap (0-(Int.fdiv (i64.wrap (0-a2)) (2 ^ (min (Int.toNat ((u64.wrap (i64.wrap (a0-a1))))) 64)))))),(7,qi 0)],[],0⟩))))
def Z2m.l0 (a0:List Z0) (a1:Int) (a2:Int) (aa:List Z0) (ad:Int):Option (List Z0):=if(decide (ad<(a0.length:Int)))=true then((at? a0 ad)>>=fun ae=>(Z66.f a1 a2 ae.f0)>>=fun af=>(chk ((aa.length+[(⟨af.1,ae.f1⟩:Z0)].length)*16≤140737488355328))>>=fun _=>Z2m.l0 a0 a1 a2 (aa++[(⟨af.1,ae.f1⟩:Z0)]) (i64.wrap (ad+1))) else(some aa)
partial_fixpoint
def Z2m.f (a0:List Z0) (a1:Int) (a2:Int):Option (List Z0):=(Z2m.l0 a0 a1 a2 [] 0)>>=fun aa=>some aa
abbrev q4:=@RW _ 2 132 Z5
theorem Z2m.ok (a0:List Z0) (a1:Int) (a2:Int):FN 158 [.im (.row (a0.map Z5)),qi a1,qi a2] [] 0 (Z2m.f a0 a1 a2) (fun r=>.own 0) (fun r=>[q4 0 r]):=FT [0] func158 (.r0<|.r0<|.rg [(1,hG Z5 a0)]<|.bl<|.loop (.c2 (Z2m.l0.partial_correctness a0 a1 a2)) ([],0) [] [] [3] (fun _=>.pr fun aa=>.one (fun ad=>⟨[(1,qi a1),(2,qi a2),(7,.own 3),(10,.im (.row (a0.map Z5))),(11,qi (a0.length:Int)),(12,qi ad)],[q4 3 aa],0⟩) fun ad=>.r0<|.cd (fun ae=>.bl<|.el fun af ah ai=>.rg [(0,hA Z5 ah ai),(2,⟨.k 4,.n⟩)]<|.bd fun aj ak=>.rg [(4,qh call171 (Z66.ok a1 a2 af.f0 aj ak))]<|.ck fun al=>.rg [(2,hQ 5 Z5 ([(⟨aj.1,af.f1⟩:Z0)]:List Z0)),(3,hP 6 Z5 2 al)]<|.r0<|.bk [(6,3)] rfl)
 (fun ae=>.o [(3,7)]))
 (.st (.exit 0) (fun am=>⟨[(7,.own 7)],[q4 7 am],0⟩) fun am=>.r0<|.ret [(7,0)] [] [] ⟨[(6,.own 0)],[q4 0 am],0⟩))
def Z1f.f (a0:Int) (a1:Int):Option Int:=(Z0g.f a0)>>=fun aa=>if(!aa)=true then(some 0) else((Z3z.f a0)>>=fun ad=>(chk (0≤(u64.wrap (i64.wrap ((8:Int)-a0)))))>>=fun _=>some (i64.wrap (a1*2 ^ (min (Int.toNat (u64.wrap (i64.wrap ((8:Int)-a0)))) 64))))
theorem Z1f.ok (a0:Int) (a1:Int):FN 152 [qi a0,qi a1] [] 0 (Z1f.f a0 a1) (fun r=>qi r) (fun r=>[]):=FT [] func152 (.r0<|.bd fun aa ad=>.rg [(1,qh call157 (Z0g.ok a0 aa ad))]<|.cd (fun ae=>.r0<|.ret [] [] [] ⟨[(4,qi 0)],[],0⟩)
 (fun ae=>.bd fun af ah=>.ck fun ai=>.rg [(2,qh call167 (Z3z.ok a0 af ah)),(3,hN (p1 ai))]<|.ret [] [] [] ⟨[(4,qi (i64.wrap (a1*2 ^ (min (Int.toNat (u64.wrap (i64.wrap ((8:Int)-a0)))) 64))))],[],0⟩))
def Z36.f (a0:Int) (a1:Int):Option Int:=(Z1f.f a0 (i64.wrap (a1-1)))>>=fun aa=>some aa
theorem Z36.ok (a0:Int) (a1:Int):FN 151 [qi a0,qi a1] [] 0 (Z36.f a0 a1) (fun r=>qi r) (fun r=>[]):=FT [] func151 (.r0<|.bd fun aa ad=>.rg [(3,qh call152 (Z1f.ok a0 (i64.wrap (a1-1)) aa ad))]<|.ret [] [] [] ⟨[(4,qi aa)],[],0⟩)
def Z2l.l0 (a0:Z1) (a1:List Z0) (a2:Int) (aa:Int):Option (Int ⊕ Unit):=if(decide (aa<(a1.length:Int)))=true then((at? a1 aa)>>=fun ad=>(((Z36.f a0.f1 ad.f0)>>=fun ae=>if(decide (ae<a2))=true then((Z1f.f a0.f1 ad.f0)>>=fun af=>some (decide (a2<af))) else(some false)):Option Bool)>>=fun ah=>if ah=true then((Z1f.f a0.f1 ad.f0)>>=fun ai=>some (.inl ai)) else(Z2l.l0 a0 a1 a2 (i64.wrap (aa+1)))) else(some (.inr ()))
partial_fixpoint
def Z2l.f (a0:Z1) (a1:List Z0) (a2:Int):Option Int:=(Z2l.l0 a0 a1 a2 0)>>=fun oo=>match oo with | .inl rr=>(some rr) | .inr _=>(some a2)
theorem Z2l.ok (a0:Z1) (a1:List Z0) (a2:Int):FN 172 [.agg (Zv a0),.im (.row (a1.map Z5)),qi a2] [] 0 (Z2l.f a0 a1 a2) (fun r=>qi r) (fun r=>[]):=FT [] func172 (.rg [(0,⟨.k 0,.n⟩)]<|.rg [(1,hG Z5 a1)]<|.bl<|.loop (.one (Z2l.l0.partial_correctness a0 a1 a2)) 0 [(0,4)] [] [] (fun _=>.one (fun aa=>⟨[(2,qi a2),(3,.ptr 4 0 0),(9,.im (.row (a1.map Z5))),(10,qi (a1.length:Int)),(11,qi aa)],[(4,some (.box 48 (Zv a0)))],0⟩) fun aa=>.r0<|.cd (fun ad=>.bl<|.el fun ae af ah=>.rg [(0,hA Z5 af ah),(2,⟨.k 5,.n⟩)]<|.join (.bd fun ai aj=>.sp (fun ak=>.bd fun al am=>.rg [(4,qh call151 (Z36.ok a0.f1 ae.f0 ai aj)),(7,hB ak),(13,qh call152 (Z1f.ok a0.f1 ae.f0 al am))]<|.o [(4,6),(5,7)])
 (fun ak=>.rg [(4,qh call151 (Z36.ok a0.f1 ae.f0 ai aj)),(7,hB ak)]<|.o [(4,6),(5,7)]))
 (.st .normal (fun an=>⟨[(2,qi a2),(3,.ptr 6 0 0),(8,.ptr 7 0 0),(9,.im (.row (a1.map Z5))),(10,qi (a1.length:Int)),(11,qi aa),(30,bV an)],[(6,some (.box 48 (Zv a0))),(7,some (.box 132 (Z6q ae)))],0⟩) fun an=>.cd (fun aq=>.bd fun ar au=>.rg [(4,qh call152 (Z1f.ok a0.f1 ae.f0 ar au))]<|.ret [] [] [] ⟨[(6,qi ar)],[],0⟩)
 (fun aq=>.r0<|.bk [(6,4)] rfl)))
 (fun ad=>.o []))
 (.sm (.rt (fun rr=>qi rr) (fun rr=>[]))
 (.st (.exit 0) (fun _=>⟨[(2,qi a2)],[],0⟩) fun _=>.r0<|.ret [] [] [] ⟨[(6,qi a2)],[],0⟩)))
def Z2c.l0 (a0:List Int) (aa:Int) (ad:Int):Option ((Int×Int) ⊕ Int):=if(decide (ad<(a0.length:Int)))=true then((at? a0 ad)>>=fun ae=>(chk (0≤aa∧0≤ae∧0≤(0:Int)∧(0:Int)≤1))>>=fun _=>if(((aa+ae+0) / 18446744073709551616) != 0)=true then(some (.inl (0,5))) else(Z2c.l0 a0 ((aa+ae+0) % 18446744073709551616) (i64.wrap (ad+1)))) else(some (.inr aa))
partial_fixpoint
def Z2c.f (a0:List Int):Option (Int×Int):=(Z2c.l0 a0 0 0)>>=fun oo=>match oo with | .inl rr=>(some rr) | .inr aa=>(some (aa,0))
theorem Z2c.ok (a0:List Int):FN 98 [.im (.row (a0.map qv))] [] 0 (Z2c.f a0) (fun r=>.tup [qu r.1,qi r.2]) (fun r=>[]):=FT [] func98 (.r0<|.r0<|.rg [(1,hG qv a0)]<|.bl<|.loop (.c2 (Z2c.l0.partial_correctness a0)) (0,0) [] [] [] (fun _=>.pr fun aa=>.one (fun ad=>⟨[(4,qu aa),(9,.im (.row (a0.map qv))),(10,qi (a0.length:Int)),(11,qi ad)],[],0⟩) fun ad=>.r0<|.cd (fun ae=>.bl<|.el fun af ah ai=>.rg [(0,hA qv ah ai)]<|.ck fun aj=>.rg [(2,⟨.ext (.tup [qu ((aa+af+0) % 18446744073709551616),qu ((aa+af+0) / 18446744073709551616)]),.c (p:=∀ w,(callFunc 140 ([.int .u64 aa,.int .u64 af,.int .u64 (0:Int)]:List Value).toArray).run Tryz.prog w = .ok (.value (.tuple #[.int .u64 ((aa+af+0) % 18446744073709551616),.int .u64 ((aa+af+0) / 18446744073709551616)])) w) (fun w=>x_add64 (fn:=Tryz.f140) func140 (by kernel_rfl) rfl (by kernel_rfl) (by kernel_rfl) aj w) .n⟩)]<|.r0<|.cd (fun ak=>.r0<|.ret [] [] [] ⟨[(2,qu 0),(3,qi 5)],[],0⟩)
 (fun ak=>.r0<|.r0<|.bk [] rfl))
 (fun ae=>.o []))
 (.sm (.rt (fun rr=>.tup [qu rr.1,qi rr.2]) (fun rr=>[]))
 (.st (.exit 0) (fun al=>⟨[(4,qu al)],[],0⟩) fun al=>.r0<|.ret [] [] [] ⟨[(2,qu al),(3,qi 0)],[],0⟩)))
def Z0d.l0 (a0:List Z0) (aa:Int) (ad:Int) (ae:Int) (af:Int) (ah:Int) (ai:List Z0) (aj:List Z0) (ak:Int) (al:Int) (am:List Z0) (an:Int):Option ((List Z0)×Int):=if(decide (an<(a0.length:Int)))=true then((at? a0 an)>>=fun aq=>(Z1f.f ad aq.f0)>>=fun ar=>((if(decide (ar>ak))=true then((chk ((am.length+[aq].length)*16≤140737488355328))>>=fun _=>some (al,am++[aq])) else((Z2c.f [al,aq.f1])>>=fun au=>some (au.1,am))):Option (Int×(List Z0)))>>=fun oo=>match oo with | (av,aw)=>(Z0d.l0 a0 aa ad ae af ah ai aj ak av aw (i64.wrap (an+1)))) else(some (am,al))
partial_fixpoint
def Z0d.f (a0:List Z0) (aa:Int) (ad:Int) (ae:Int) (af:Int) (ah:Int) (ai:Int) (aj:List Z0) (ak:List Z0) (al:Int):Option ((List Z0)×Int):=(Z0d.l0 a0 aa ad ae ah ai aj ak al af [] 0)>>=fun oo=>match oo with | (am,an)=>(some (am,an))
theorem Z0d.ok (a0:List Z0) (aa:Int) (ad:Int) (ae:Int) (af:Int) (ah:Int) (ai:Int) (aj:List Z0) (ak:List Z0) (al:Int):FN 173 [.im (.row (a0.map Z5)),.ptr 0 0 0,.ptr 1 0 0] [(0,some (.box 48 (Zv ⟨aa,ad,ae,af,ah,ai,aj,ak⟩))),(1,some (.box 3 [qi al]))] 2 (Z0d.f a0 aa ad ae af ah ai aj ak al) (fun r=>.own 2) (fun r=>[(0,some (.box 48 (Zv ⟨aa,ad,ae,r.2,ah,ai,aj,ak⟩))),(1,some (.box 3 [qi al])),q4 2 r.1]):=FT [0,1,2] func173 (.r0<|.r0<|.rg [(1,hG Z5 a0)]<|.bl<|.loop (.c3 (Z0d.l0.partial_correctness a0 aa ad ae ah ai aj ak al)) (af,[],0) [(0,0),(1,1)] [] [7] (fun _=>.pr fun am=>.pr fun an=>.one (fun aq=>⟨[(1,.ptr 0 0 0),(2,.ptr 1 0 0),(5,.own 7),(8,.im (.row (a0.map Z5))),(9,qi (a0.length:Int)),(10,qi aq)],[(0,some (.box 48 (Zv ⟨aa,ad,ae,am,ah,ai,aj,ak⟩))),(1,some (.box 3 [qi al])),q4 7 an],2⟩) fun aq=>.r0<|.cd (fun ar=>.bl<|.el fun au av aw=>.rg [(0,hA Z5 av aw),(2,⟨.k 8,.n⟩)]<|.bd fun ax ay=>.rg [(4,qh call152 (Z1f.ok ad au.f0 ax ay))]<|.join (.cd (fun az=>.ck fun a8=>.rg [(2,hQ 9 Z5 ([au]:List Z0)),(3,hP 10 Z5 2 a8)]<|.o [(0,0),(1,1),(10,12)])
 (fun az=>.bd fun a9 ba=>.rg [(4,hQ 11 qv ([am,au.f1]:List Int)),(5,hC [] [] [11] [] call98 (Z2c.ok [am,au.f1] a9 ba))]<|.o [(0,0),(1,1),(7,12)]))
 (.pr fun bb=>.st .normal (fun bc=>⟨[(1,.ptr 0 0 0),(2,.ptr 1 0 0),(5,.own 12),(8,.im (.row (a0.map Z5))),(9,qi (a0.length:Int)),(10,qi aq)],[(0,some (.box 48 (Zv ⟨aa,ad,ae,bb,ah,ai,aj,ak⟩))),(1,some (.box 3 [qi al])),q4 12 bc],2⟩) fun bc=>.r0<|.bk [(0,0),(1,1),(12,7)] rfl))
 (fun ar=>.o [(7,13),(0,0),(1,1)]))
 (.pr fun be=>.st (.exit 0) (fun bf=>⟨[(5,.own 13)],[(0,some (.box 48 (Zv ⟨aa,ad,ae,bf,ah,ai,aj,ak⟩))),(1,some (.box 3 [qi al])),q4 13 be],2⟩) fun bf=>.r0<|.ret [(0,0),(1,1),(13,2)] [] [] ⟨[(4,.own 2)],[(0,some (.box 48 (Zv ⟨aa,ad,ae,bf,ah,ai,aj,ak⟩))),(1,some (.box 3 [qi al])),q4 2 be],2⟩))
def Z0h.f (a0:List Z0):Option (List Z0):=(chk ((([]:List Z0).length+a0.length)*16≤140737488355328))>>=fun _=>some a0
theorem Z0h.ok (a0 r:List Z0) (H:Z0h.f a0=some r):Pv.Fn Tryz.prog 64 [.im (.row (a0.map Z5))] [] 0 (fun x o=>x = .own 0∧o=[q4 0 r]):=by
 unfold Z0h.f at H;obtain⟨c1,H⟩:=Zcy H;obtain rfl:=sj H;refine Fn.bodyK [0] func64 rfl rfl (fun Γ hP hn => ?_);have hm:Tryz.prog.follows .mixedOrders=true:=by kernel_rfl
 replace hn:Γ.n=8:=hn;refine AWp.seq ?_;refine reg hP hn hm [] [0,2] [] ⟨[(0,.im (.row (a0.map Z5))),(2,.none0)],[],0⟩ [] (by kernel_rfl) trivial ?_;refine AWp.seq ?_;cases a0 with
 | nil =>
  refine AWp.nilSplit 0 rfl (fun b m => ?_);refine AWp.seq ?_;cases b with
  | none =>
   refine reg hP hn hm [(1,.more xNil)] [2,4] [] ⟨[(2,.none0),(4,bV true)],[],0⟩ [] (by kernel_rfl) trivial ?_;refine AWp.cond true rfl (fun _ => ?_) (fun h=>nomatch h);refine AWp.seq ?_;refine reg hP hn hm [] [2] [] ⟨[(2,.none0)],[],0⟩ [] (by kernel_rfl) trivial ?_;refine AWp.conv (inv:=[]) (vk:=[]) (e0:=[0]) (t:=⟨[(2,.own 0)],[(0,some (.row 2 132 []))],0⟩) (by kernel_rfl) ?_
   refine AWp.ret ?_;exact Exists.intro _ (And.intro (fun _ _ h=>h) (And.intro (.inl rfl) (And.intro rfl (And.intro (by kernel_rfl) (by kernel_rfl)))))
  | some b =>
   refine reg hP hn hm [(1,.more xNil)] [0,2,4] [] ⟨[(0,.im (.sc (.slice (some b) 0 m))),(2,.none0),(4,bV false)],[],0⟩ [] (by kernel_rfl) trivial ?_;refine AWp.cond false rfl (fun h=>nomatch h) (fun _ => ?_);refine AWp.skip ?_;refine AWp.unsplit 0 rfl ?_;refine AWp.seq ?_;refine reg hP hn hm [(0,.app 0 ([]:List (List Im))),(2,.app 1 (([]:List Z0).map Z5))] [2] [1] ⟨[(2,.own 1)],[q4 1 ([]:List Z0)],0⟩ [([]:List (List Im))=[],([]:List Z0).map Z5=([]:List (List Im))++([]:List Z0).map Z5,∀ c∈([]:List Z0).map Z5,c.length=2,∀ c∈([]:List Z0).map Z5,Z3q (c.map .im)=true,(([]:List (List Im)).length+(([]:List Z0).map Z5).length)*16≤140737488355328] (by kernel_rfl) ⟨rfl,by simp,by exact Z5w _ _ _ (fun _=>rfl),by exact Z5p _ _ (fun _=>rfl),by simpa using c1,trivial⟩ ?_;refine AWp.conv (inv:=[(1,0)]) (vk:=[]) (e0:=[]) (t:=⟨[(2,.own 0)],[q4 0 ([]:List Z0)],0⟩) (by kernel_rfl) ?_
   refine AWp.ret ?_;exact Exists.intro _ (And.intro (fun _ _ h=>h) (And.intro (.inl rfl) (And.intro rfl (And.intro (by kernel_rfl) (by kernel_rfl)))))
 | cons y l =>
  refine AWp.seq ?_;refine reg hP hn hm [(1,.more xNil)] [0,2,4] [] ⟨[(0,.im (.row ((y::l).map Z5))),(2,.none0),(4,bV false)],[],0⟩ [] (by kernel_rfl) trivial ?_;refine AWp.cond false rfl (fun h=>nomatch h) (fun _ => ?_);refine AWp.skip ?_;refine AWp.seq ?_;refine reg hP hn hm [(0,.app 0 ([]:List (List Im))),(2,.app 1 ((y::l).map Z5))] [2] [1] ⟨[(2,.own 1)],[q4 1 (y::l)],0⟩ [([]:List (List Im))=[],(y::l).map Z5=([]:List (List Im))++(y::l).map Z5,∀ c∈(y::l).map Z5,c.length=2,∀ c∈(y::l).map Z5,Z3q (c.map .im)=true,(([]:List (List Im)).length+((y::l).map Z5).length)*16≤140737488355328] (by kernel_rfl) ⟨rfl,by simp,by exact Z5w _ _ _ (fun _=>rfl),by exact Z5p _ _ (fun _=>rfl),by simpa using c1,trivial⟩ ?_;refine AWp.conv (inv:=[(1,0)]) (vk:=[]) (e0:=[]) (t:=⟨[(2,.own 0)],[q4 0 (y::l)],0⟩) (by kernel_rfl) ?_
  refine AWp.ret ?_;exact Exists.intro _ (And.intro (fun _ _ h=>h) (And.intro (.inl rfl) (And.intro rfl (And.intro (by kernel_rfl) (by kernel_rfl)))))
def Z3t.f (a0:Int):Option Unit:=some ()
theorem Z3t.ok (a0:Int):FN 175 [qi a0] [] 0 (Z3t.f a0) (fun r=>bV (a0 != a0)) (fun r=>[]):=FT [] func175 (.r0<|.r0<|.ret [] [] [] ⟨[(2,bV (a0 != a0))],[],0⟩)
def Z3n.f (a0:Int) (a1:Int):Option Int:=(Z3t.f a0)>>=fun aa=>(Z3t.f a1)>>=fun ad=>if(a0 != a0)=true then(if(a1 != a1)=true then(some 0) else(some (-1))) else(if(a1 != a1)=true then(some 1) else(if(decide (a0<a1))=true then(some (-1)) else(if(decide (a0>a1))=true then(some 1) else(some 0))))
theorem Z3n.ok (a0:Int) (a1:Int):FN 162 [qi a0,qi a1] [] 0 (Z3n.f a0 a1) (fun r=>qi r) (fun r=>[]):=FT [] func162 (.r0<|.bd fun aa ad=>.rg [(1,qh call175 (Z3t.ok a0 aa ad))]<|.bd fun ae af=>.rg [(1,qh call175 (Z3t.ok a1 ae af))]<|.r0<|.cd (fun ah=>.r0<|.cd (fun ai=>.r0<|.ret [] [] [] ⟨[(4,qi 0)],[],0⟩)
 (fun ai=>.r0<|.ret [] [] [] ⟨[(4,qi (-1))],[],0⟩))
 (fun ah=>.r0<|.cd (fun aj=>.r0<|.ret [] [] [] ⟨[(4,qi 1)],[],0⟩)
 (fun aj=>.r0<|.cd (fun ak=>.r0<|.ret [] [] [] ⟨[(4,qi (-1))],[],0⟩)
 (fun ak=>.r0<|.cd (fun al=>.r0<|.ret [] [] [] ⟨[(4,qi 1)],[],0⟩)
 (fun al=>.r0<|.ret [] [] [] ⟨[(4,qi 0)],[],0⟩)))))
def Z2b.f (a0:Z0) (a1:Z0):Option Int:=(Z3n.f a0.f0 a1.f0)>>=fun aa=>some aa
theorem Z2b.ok (a0:Z0) (a1:Z0):FN 161 [.agg (Z6q a0),.agg (Z6q a1)] [] 0 (Z2b.f a0 a1) (fun r=>qi r) (fun r=>[]):=FT [] func161 (.rg [(0,⟨.k 0,.n⟩),(1,⟨.k 1,.n⟩)]<|.bd fun aa ad=>.rg [(4,qh call162 (Z3n.ok a0.f0 a1.f0 aa ad))]<|.ret [] [] [] ⟨[(4,qi aa)],[],0⟩)
def Zb.l1 (a1:Int) (a2:Int) (aa:Int) (ad:List Z0) (ae:Int):Option (List Z0):=((if(decide (ae>a1))=true then((at? ad ae)>>=fun af=>(at? ad (i64.wrap (ae-1)))>>=fun ah=>(Z2b.f af ah)>>=fun ai=>some (decide (ai<0))) else(some false)):Option Bool)>>=fun aj=>if aj=true then((at? ad (i64.wrap (ae-1)))>>=fun ak=>(at? ad ae)>>=fun al=>(at? (ad.set (Int.toNat (ae)) ak) (i64.wrap (ae-1)))>>=fun am=>Zb.l1 a1 a2 aa ((ad.set (Int.toNat (ae)) ak).set (Int.toNat (i64.wrap (ae-1))) al) (i64.wrap (ae-1))) else(some ad)
partial_fixpoint
def Zb.l0 (a1:Int) (a2:Int) (aa:List Z0) (ad:Int):Option (List Z0):=if(decide (ad<a2))=true then((Zb.l1 a1 a2 ad aa ad)>>=fun ae=>Zb.l0 a1 a2 ae (i64.wrap (ad+1))) else(some aa)
partial_fixpoint
def Zb.f (a0:List Z0) (a1:Int) (a2:Int):Option (List Z0):=(Zb.l0 a1 a2 a0 (i64.wrap (a1+1)))>>=fun aa=>some aa
theorem Zb.ok (a0:List Z0) (a1:Int) (a2:Int):FN 180 [.own 0,qi a1,qi a2,.im (qf 161)] [q4 0 a0] 1 (Zb.f a0 a1 a2) (fun r=>.tup []) (fun r=>[q4 0 r]):=FT [0] func180 (.r0<|.bl<|.loop (.c2 (Zb.l0.partial_correctness a1 a2)) (a0,i64.wrap (a1+1)) [(0,0)] [] [] (fun _=>.pr fun aa=>.one (fun ad=>⟨[(0,.own 0),(1,qi a1),(2,qi a2),(3,.im (qf 161)),(8,qi ad)],[q4 0 aa],1⟩) fun ad=>.r0<|.cd (fun ae=>.bl<|.r0<|.bl<|.loop (.c2 (Zb.l1.partial_correctness a1 a2 ad)) (aa,ad) [(0,0)] [] [] (fun _=>.pr fun af=>.one (fun ah=>⟨[(0,.own 0),(1,qi a1),(2,qi a2),(3,.im (qf 161)),(8,qi ad),(9,qi ah)],[q4 0 af],1⟩) fun ah=>.join (.sp (fun ai=>.el fun aj ak al=>.el fun am an aq=>.bd fun ar au=>.rg [(3,hB ai),(7,hX Z5 ak al),(8,hL Z5 al),(12,hX Z5 an aq),(13,hL Z5 aq),(14,qh call161 (Z2b.ok aj am ar au))]<|.o [(0,0)])
 (fun ai=>.rg [(3,hB ai)]<|.o [(0,0)]))
 (.st .normal (fun av=>⟨[(0,.own 0),(1,qi a1),(2,qi a2),(3,.im (qf 161)),(8,qi ad),(9,qi ah),(34,bV av)],[q4 0 af],1⟩) fun av=>.cd (fun aw=>.bl<|.el fun ax ay az=>.el fun a8 a9 ba=>.el fun bb bc be=>.rg [(8,hX Z5 ay az),(9,hL Z5 az),(12,hX Z5 a9 ba),(13,hL Z5 ba),(14,hX Z5 a9 ba),(15,hS Z5 ax 0 [iI .i64 ax.f0,iI .u64 ax.f1] ba),(16,hX Z5 bc be),(17,hS Z5 a8 0 [iI .i64 a8.f0,iI .u64 a8.f1] be)]<|.r0<|.bk [(0,0)] rfl)
 (fun aw=>.o [(0,0)])))
 (.st (.exit 2) (fun bf=>⟨[(0,.own 0),(1,qi a1),(2,qi a2),(3,.im (qf 161)),(8,qi ad)],[q4 0 bf],1⟩) fun bf=>.r0<|.bk [(0,0)] rfl))
 (fun ae=>.o [(0,0)]))
 (.st (.exit 0) (fun bg=>⟨[],[q4 0 bg],1⟩) fun bg=>.ret [(0,0)] [] [] ⟨[],[q4 0 bg],1⟩))
def Zg.l0 (a1:Int) (a2:Int) (a3:Int) (aa:List Z0) (ad:Int):Option (List Z0):=if(decide (ad<a3))=true then((at? aa (i64.wrap (a2+ad)))>>=fun ae=>(at? aa (i64.wrap (a1+ad)))>>=fun af=>(at? (aa.set (Int.toNat (i64.wrap (a1+ad))) ae) (i64.wrap (a2+ad)))>>=fun ah=>Zg.l0 a1 a2 a3 ((aa.set (Int.toNat (i64.wrap (a1+ad))) ae).set (Int.toNat (i64.wrap (a2+ad))) af) (i64.wrap (ad+1))) else(some aa)
partial_fixpoint
def Zg.f (a0:List Z0) (a1:Int) (a2:Int) (a3:Int):Option (List Z0):=(Zg.l0 a1 a2 a3 a0 0)>>=fun aa=>some aa
theorem Zg.ok (a0:List Z0) (a1:Int) (a2:Int) (a3:Int):FN 186 [.own 0,qi a1,qi a2,qi a3,.im (qf 161)] [q4 0 a0] 1 (Zg.f a0 a1 a2 a3) (fun r=>.tup []) (fun r=>[q4 0 r]):=FT [0] func186 (.r0<|.bl<|.loop (.c2 (Zg.l0.partial_correctness a1 a2 a3)) (a0,0) [(0,0)] [] [] (fun _=>.pr fun aa=>.one (fun ad=>⟨[(0,.own 0),(1,qi a1),(2,qi a2),(3,qi a3),(10,qi ad)],[q4 0 aa],1⟩) fun ad=>.r0<|.cd (fun ae=>.bl<|.el fun af ah ai=>.el fun aj ak al=>.el fun am an aq=>.rg [(12,hX Z5 ah ai),(13,hL Z5 ai),(18,hX Z5 ak al),(19,hL Z5 al),(20,hX Z5 ak al),(21,hS Z5 af 0 [iI .i64 af.f0,iI .u64 af.f1] al),(22,hX Z5 an aq),(23,hS Z5 aj 0 [iI .i64 aj.f0,iI .u64 aj.f1] aq)]<|.r0<|.bk [(0,0)] rfl)
 (fun ae=>.o [(0,0)]))
 (.st (.exit 0) (fun ar=>⟨[],[q4 0 ar],1⟩) fun ar=>.ret [(0,0)] [] [] ⟨[],[q4 0 ar],1⟩))
def Zx.l0 (a2:Int) (aa:List Z0) (ad:Int) (ae:Int):Option ((List Z0)×Int):=if(ad != ae)=true then(((if(decide (ad>ae))=true then((Zg.f aa (i64.wrap (a2-ad)) a2 ae)>>=fun af=>some (af,i64.wrap (ad-ae),ae)) else((Zg.f aa (i64.wrap (a2-ad)) (i64.wrap ((i64.wrap (a2+ae))-ad)) ad)>>=fun ah=>some (ah,ad,i64.wrap (ae-ad)))):Option ((List Z0)×Int×Int))>>=fun oo=>match oo with | (ai,aj,ak)=>(Zx.l0 a2 ai aj ak)) else(some (aa,ad))
partial_fixpoint
def Zx.f (a0:List Z0) (a1:Int) (a2:Int) (a3:Int):Option (List Z0):=(Zx.l0 a2 a0 (i64.wrap (a2-a1)) (i64.wrap (a3-a2)))>>=fun oo=>match oo with | (aa,ad)=>((Zg.f aa (i64.wrap (a2-ad)) a2 ad)>>=fun ae=>some ae)
theorem Zx.ok (a0:List Z0) (a1:Int) (a2:Int) (a3:Int):FN 185 [.own 0,qi a1,qi a2,qi a3,.im (qf 161)] [q4 0 a0] 1 (Zx.f a0 a1 a2 a3) (fun r=>.tup []) (fun r=>[q4 0 r]):=FT [0] func185 (.r0<|.r0<|.bl<|.loop (.c3 (Zx.l0.partial_correctness a2)) (a0,i64.wrap (a2-a1),i64.wrap (a3-a2)) [(0,0)] [] [] (fun _=>.pr fun aa=>.pr fun ad=>.one (fun ae=>⟨[(0,.own 0),(2,qi a2),(4,.im (qf 161)),(10,qi ad),(11,qi ae)],[q4 0 aa],1⟩) fun ae=>.r0<|.cd (fun af=>.bl<|.r0<|.join (.cd (fun ah=>.bd fun ai aj=>.rg [(7,hC [(0,0)] [(0,0)] [] [] call186 (Zg.ok aa (i64.wrap (a2-ad)) a2 ae ai aj))]<|.r0<|.o [(0,0)])
 (fun ah=>.bd fun ak al=>.rg [(11,hC [(0,0)] [(0,0)] [] [] call186 (Zg.ok aa (i64.wrap (a2-ad)) (i64.wrap ((i64.wrap (a2+ae))-ad)) ad ak al))]<|.r0<|.o [(0,0)]))
 (.pr fun am=>.pr fun an=>.st .normal (fun aq=>⟨[(0,.own 0),(2,qi a2),(4,.im (qf 161)),(10,qi an),(11,qi aq)],[q4 0 am],1⟩) fun aq=>.bk [(0,0)] rfl))
 (fun af=>.o [(0,0)]))
 (.pr fun ar=>.st (.exit 0) (fun au=>⟨[(0,.own 0),(2,qi a2),(4,.im (qf 161)),(10,qi au)],[q4 0 ar],1⟩) fun au=>.bd fun av aw=>.rg [(7,hC [(0,0)] [(0,0)] [] [] call186 (Zg.ok ar (i64.wrap (a2-au)) a2 au av aw))]<|.ret [(0,0)] [] [] ⟨[],[q4 0 av],1⟩))
def Z6.l0 (a0:List Z0) (a1:Int) (aa:Int) (ad:Int):Option Int:=if(decide (aa<ad))=true then((at? a0 (i64.wrap (Int.fdiv (u64.wrap (i64.wrap (aa+ad))) 2)))>>=fun ae=>(at? a0 a1)>>=fun af=>(Z2b.f ae af)>>=fun ah=>((if(decide (ah<0))=true then(some (i64.wrap ((i64.wrap (Int.fdiv (u64.wrap (i64.wrap (aa+ad))) 2))+1),ad)) else(some (aa,i64.wrap (Int.fdiv (u64.wrap (i64.wrap (aa+ad))) 2)))):Option (Int×Int))>>=fun oo=>match oo with | (ai,aj)=>(Z6.l0 a0 a1 ai aj)) else(some aa)
partial_fixpoint
def Z6.l1 (aa:Int) (ad:List Z0) (ae:Int):Option (List Z0):=if(decide (ae<(i64.wrap (aa-1))))=true then((at? ad (i64.wrap (ae+1)))>>=fun af=>(at? ad ae)>>=fun ah=>(at? (ad.set (Int.toNat (ae)) af) (i64.wrap (ae+1)))>>=fun ai=>Z6.l1 aa ((ad.set (Int.toNat (ae)) af).set (Int.toNat (i64.wrap (ae+1))) ah) (i64.wrap (ae+1))) else(some ad)
partial_fixpoint
def Z6.l2 (a0:List Z0) (a2:Int) (aa:Int) (ad:Int):Option Int:=if(decide (aa<ad))=true then((at? a0 a2)>>=fun ae=>(at? a0 (i64.wrap (Int.fdiv (u64.wrap (i64.wrap (aa+ad))) 2)))>>=fun af=>(Z2b.f ae af)>>=fun ah=>((if(!(decide (ah<0)))=true then(some (i64.wrap ((i64.wrap (Int.fdiv (u64.wrap (i64.wrap (aa+ad))) 2))+1),ad)) else(some (aa,i64.wrap (Int.fdiv (u64.wrap (i64.wrap (aa+ad))) 2)))):Option (Int×Int))>>=fun oo=>match oo with | (ai,aj)=>(Z6.l2 a0 a2 ai aj)) else(some aa)
partial_fixpoint
def Z6.l3 (aa:Int) (ad:List Z0) (ae:Int):Option (List Z0):=if(decide (ae>aa))=true then((at? ad (i64.wrap (ae-1)))>>=fun af=>(at? ad ae)>>=fun ah=>(at? (ad.set (Int.toNat (ae)) af) (i64.wrap (ae-1)))>>=fun ai=>Z6.l3 aa ((ad.set (Int.toNat (ae)) af).set (Int.toNat (i64.wrap (ae-1))) ah) (i64.wrap (ae-1))) else(some ad)
partial_fixpoint
def Z6.l4 (a0:List Z0) (a1:Int) (a2:Int) (a3:Int) (aa:Int) (ad:Int):Option Int:=if(decide (aa<ad))=true then((at? a0 (i64.wrap ((i64.wrap ((i64.wrap ((i64.wrap (Int.fdiv (u64.wrap (i64.wrap (a1+a3))) 2))+a2))-1))-(i64.wrap (Int.fdiv (u64.wrap (i64.wrap (aa+ad))) 2)))))>>=fun ae=>(at? a0 (i64.wrap (Int.fdiv (u64.wrap (i64.wrap (aa+ad))) 2)))>>=fun af=>(Z2b.f ae af)>>=fun ah=>((if(!(decide (ah<0)))=true then(some (i64.wrap ((i64.wrap (Int.fdiv (u64.wrap (i64.wrap (aa+ad))) 2))+1),ad)) else(some (aa,i64.wrap (Int.fdiv (u64.wrap (i64.wrap (aa+ad))) 2)))):Option (Int×Int))>>=fun oo=>match oo with | (ai,aj)=>(Z6.l4 a0 a1 a2 a3 ai aj)) else(some aa)
partial_fixpoint
def Z6.f (a0:List Z0) (a1:Int) (a2:Int) (a3:Int):Option (List Z0):=if((i64.wrap (a2-a1))==1)=true then((Z6.l0 a0 a1 a2 a3)>>=fun aa=>(Z6.l1 aa a0 a1)>>=fun ad=>some ad) else(if((i64.wrap (a3-a2))==1)=true then((Z6.l2 a0 a2 a1 a2)>>=fun ae=>(Z6.l3 ae a0 a2)>>=fun af=>some af) else(((if(decide (a2>(i64.wrap (Int.fdiv (u64.wrap (i64.wrap (a1+a3))) 2))))=true then(some (i64.wrap ((i64.wrap ((i64.wrap (Int.fdiv (u64.wrap (i64.wrap (a1+a3))) 2))+a2))-a3),i64.wrap (Int.fdiv (u64.wrap (i64.wrap (a1+a3))) 2))) else(some (a1,a2))):Option (Int×Int))>>=fun oo=>match oo with | (ah,ai)=>((Z6.l4 a0 a1 a2 a3 ah ai)>>=fun aj=>((if(decide (aj<a2))=true then(some (decide (a2<(i64.wrap ((i64.wrap ((i64.wrap (Int.fdiv (u64.wrap (i64.wrap (a1+a3))) 2))+a2))-aj))))) else(some false)):Option Bool)>>=fun ak=>((if ak=true then((Zx.f a0 aj a2 (i64.wrap ((i64.wrap ((i64.wrap (Int.fdiv (u64.wrap (i64.wrap (a1+a3))) 2))+a2))-aj)))>>=fun al=>some al) else(some a0)):Option (List Z0))>>=fun am=>((if(decide (a1<aj))=true then(some (decide (aj<(i64.wrap (Int.fdiv (u64.wrap (i64.wrap (a1+a3))) 2))))) else(some false)):Option Bool)>>=fun an=>((if an=true then((Z6.f am a1 aj (i64.wrap (Int.fdiv (u64.wrap (i64.wrap (a1+a3))) 2)))>>=fun aq=>some aq) else(some am)):Option (List Z0))>>=fun ar=>((if(decide ((i64.wrap (Int.fdiv (u64.wrap (i64.wrap (a1+a3))) 2))<(i64.wrap ((i64.wrap ((i64.wrap (Int.fdiv (u64.wrap (i64.wrap (a1+a3))) 2))+a2))-aj))))=true then(some (decide ((i64.wrap ((i64.wrap ((i64.wrap (Int.fdiv (u64.wrap (i64.wrap (a1+a3))) 2))+a2))-aj))<a3))) else(some false)):Option Bool)>>=fun au=>((if au=true then((Z6.f ar (i64.wrap (Int.fdiv (u64.wrap (i64.wrap (a1+a3))) 2)) (i64.wrap ((i64.wrap ((i64.wrap (Int.fdiv (u64.wrap (i64.wrap (a1+a3))) 2))+a2))-aj)) a3)>>=fun av=>some av) else(some ar)):Option (List Z0))>>=fun aw=>some aw)))
partial_fixpoint
theorem Z6.ok (a0:List Z0) (a1:Int) (a2:Int) (a3:Int) (r:List Z0) (H:Z6.f a0 a1 a2 a3=some r):Pv.Fn Tryz.prog 181 [.own 0,qi a1,qi a2,qi a3,.im (qf 161)] [q4 0 a0] 1 (fun x o=>x = .tup []∧o=[q4 0 r]):=by
 refine Z6.f.partial_correctness (motive:=fun a0 a1 a2 a3 r=>Pv.Fn Tryz.prog 181 [.own 0,qi a1,qi a2,qi a3,.im (qf 161)] [q4 0 a0] 1 (fun x o=>x = .tup []∧o=[q4 0 r])) ?_ a0 a1 a2 a3 r H;clear H a0 a1 a2 a3 r;intro self ihF a0 a1 a2 a3 r H;exact HT.fn H (fun r=>.tup []) (fun r=>[q4 0 r]) [0] func181 rfl rfl hmx (.r0<|.cd (fun aa=>.r0<|.r0<|.bl<|.loop (.c2 (Z6.l0.partial_correctness a0 a1)) (a2,a3) [(0,0)] [] [] (fun _=>.pr fun ad=>.one (fun ae=>⟨[(0,.own 0),(1,qi a1),(4,.im (qf 161)),(10,qi ad),(11,qi ae)],[q4 0 a0],1⟩) fun ae=>.r0<|.cd (fun af=>.bl<|.rg [(4,hK 1)]<|.el fun ah ai aj=>.el fun ak al am=>.bd fun an aq=>.rg [(3,hX Z5 ai aj),(4,hL Z5 aj),(7,hX Z5 al am),(8,hL Z5 am),(9,qh call161 (Z2b.ok ah ak an aq))]<|.join (.cd (fun ar=>.r0<|.o [(0,0)])
 (fun ar=>.r0<|.o [(0,0)]))
 (.pr fun au=>.st .normal (fun av=>⟨[(0,.own 0),(1,qi a1),(4,.im (qf 161)),(10,qi au),(11,qi av)],[q4 0 a0],1⟩) fun av=>.bk [(0,0)] rfl))
 (fun af=>.o [(0,0)]))
 (.st (.exit 0) (fun aw=>⟨[(0,.own 0),(1,qi a1),(10,qi aw)],[q4 0 a0],1⟩) fun aw=>.r0<|.bl<|.loop (.c2 (Z6.l1.partial_correctness aw)) (a0,a1) [(0,0)] [] [] (fun _=>.pr fun ax=>.one (fun ay=>⟨[(0,.own 0),(10,qi aw),(13,qi ay)],[q4 0 ax],1⟩) fun ay=>.r0<|.cd (fun az=>.bl<|.el fun a8 a9 ba=>.el fun bb bc be=>.el fun bf bg bh=>.rg [(8,hX Z5 a9 ba),(9,hL Z5 ba),(12,hX Z5 bc be),(13,hL Z5 be),(14,hX Z5 bc be),(15,hS Z5 a8 0 [iI .i64 a8.f0,iI .u64 a8.f1] be),(16,hX Z5 bg bh),(17,hS Z5 bb 0 [iI .i64 bb.f0,iI .u64 bb.f1] bh)]<|.r0<|.bk [(0,0)] rfl)
 (fun az=>.o [(0,0)]))
 (.st (.exit 2) (fun bi=>⟨[],[q4 0 bi],1⟩) fun bi=>.ret [(0,0)] [] [] ⟨[],[q4 0 bi],1⟩)))
 (fun aa=>.r0<|.cd (fun bj=>.r0<|.r0<|.bl<|.loop (.c2 (Z6.l2.partial_correctness a0 a2)) (a1,a2) [(0,0)] [] [] (fun _=>.pr fun bn=>.one (fun bo=>⟨[(0,.own 0),(2,qi a2),(4,.im (qf 161)),(14,qi bn),(15,qi bo)],[q4 0 a0],1⟩) fun bo=>.r0<|.cd (fun bp=>.bl<|.rg [(4,hK 1)]<|.el fun bq br bu=>.el fun bv bw bx=>.bd fun bz ca=>.rg [(3,hX Z5 br bu),(4,hL Z5 bu),(7,hX Z5 bw bx),(8,hL Z5 bx),(9,qh call161 (Z2b.ok bq bv bz ca))]<|.join (.cd (fun cc=>.r0<|.o [(0,0)])
 (fun cc=>.r0<|.o [(0,0)]))
 (.pr fun ce=>.st .normal (fun cf=>⟨[(0,.own 0),(2,qi a2),(4,.im (qf 161)),(14,qi ce),(15,qi cf)],[q4 0 a0],1⟩) fun cf=>.bk [(0,0)] rfl))
 (fun bp=>.o [(0,0)]))
 (.st (.exit 4) (fun cj=>⟨[(0,.own 0),(2,qi a2),(14,qi cj)],[q4 0 a0],1⟩) fun cj=>.r0<|.bl<|.loop (.c2 (Z6.l3.partial_correctness cj)) (a0,a2) [(0,0)] [] [] (fun _=>.pr fun cn=>.one (fun co=>⟨[(0,.own 0),(14,qi cj),(17,qi co)],[q4 0 cn],1⟩) fun co=>.r0<|.cd (fun cr=>.bl<|.el fun ct cu cw=>.el fun cx cy cz=>.el fun c8 c9 de=>.rg [(8,hX Z5 cu cw),(9,hL Z5 cw),(12,hX Z5 cy cz),(13,hL Z5 cz),(14,hX Z5 cy cz),(15,hS Z5 ct 0 [iI .i64 ct.f0,iI .u64 ct.f1] cz),(16,hX Z5 c9 de),(17,hS Z5 cx 0 [iI .i64 cx.f0,iI .u64 cx.f1] de)]<|.r0<|.bk [(0,0)] rfl)
 (fun cr=>.o [(0,0)]))
 (.st (.exit 6) (fun df=>⟨[],[q4 0 df],1⟩) fun df=>.ret [(0,0)] [] [] ⟨[],[q4 0 df],1⟩)))
 (fun bj=>.rg [(4,hK 1)]<|.r0<|.r0<|.r0<|.join (.cd (fun dg=>.r0<|.r0<|.o [(0,0)])
 (fun dg=>.r0<|.r0<|.o [(0,0)]))
 (.pr fun dh=>.st .normal (fun di=>⟨[(0,.own 0),(1,qi a1),(2,qi a2),(3,qi a3),(4,.im (qf 161)),(18,qi (i64.wrap (Int.fdiv (u64.wrap (i64.wrap (a1+a3))) 2))),(19,qi (i64.wrap ((i64.wrap (Int.fdiv (u64.wrap (i64.wrap (a1+a3))) 2))+a2))),(20,qi dh),(21,qi di)],[q4 0 a0],1⟩) fun di=>.r0<|.bl<|.loop (.c2 (Z6.l4.partial_correctness a0 a1 a2 a3)) (dh,di) [(0,0)] [] [] (fun _=>.pr fun dj=>.one (fun dk=>⟨[(0,.own 0),(1,qi a1),(2,qi a2),(3,qi a3),(4,.im (qf 161)),(18,qi (i64.wrap (Int.fdiv (u64.wrap (i64.wrap (a1+a3))) 2))),(19,qi (i64.wrap ((i64.wrap (Int.fdiv (u64.wrap (i64.wrap (a1+a3))) 2))+a2))),(20,qi dj),(21,qi dk),(22,qi (i64.wrap ((i64.wrap ((i64.wrap (Int.fdiv (u64.wrap (i64.wrap (a1+a3))) 2))+a2))-1)))],[q4 0 a0],1⟩) fun dk=>.r0<|.cd (fun dl=>.bl<|.rg [(4,hK 1)]<|.el fun dm dn dp=>.el fun dq dr dt=>.bd fun du dv=>.rg [(5,hX Z5 dn dp),(6,hL Z5 dp),(9,hX Z5 dr dt),(10,hL Z5 dt),(11,qh call161 (Z2b.ok dm dq du dv))]<|.join (.cd (fun dw=>.r0<|.o [(0,0)])
 (fun dw=>.r0<|.o [(0,0)]))
 (.pr fun dx=>.st .normal (fun dy=>⟨[(0,.own 0),(1,qi a1),(2,qi a2),(3,qi a3),(4,.im (qf 161)),(18,qi (i64.wrap (Int.fdiv (u64.wrap (i64.wrap (a1+a3))) 2))),(19,qi (i64.wrap ((i64.wrap (Int.fdiv (u64.wrap (i64.wrap (a1+a3))) 2))+a2))),(20,qi dx),(21,qi dy),(22,qi (i64.wrap ((i64.wrap ((i64.wrap (Int.fdiv (u64.wrap (i64.wrap (a1+a3))) 2))+a2))-1)))],[q4 0 a0],1⟩) fun dy=>.bk [(0,0)] rfl))
 (fun dl=>.o [(0,0)]))
 (.st (.exit 8) (fun dz=>⟨[(0,.own 0),(1,qi a1),(2,qi a2),(3,qi a3),(4,.im (qf 161)),(18,qi (i64.wrap (Int.fdiv (u64.wrap (i64.wrap (a1+a3))) 2))),(19,qi (i64.wrap ((i64.wrap (Int.fdiv (u64.wrap (i64.wrap (a1+a3))) 2))+a2))),(20,qi dz)],[q4 0 a0],1⟩) fun dz=>.r0<|.join (.sp (fun d5=>.rg [(3,hB d5)]<|.o [(0,0)])
 (fun d5=>.rg [(3,hB d5)]<|.o [(0,0)]))
 (.st .normal (fun d8=>⟨[(0,.own 0),(1,qi a1),(2,qi a2),(3,qi a3),(4,.im (qf 161)),(18,qi (i64.wrap (Int.fdiv (u64.wrap (i64.wrap (a1+a3))) 2))),(20,qi dz),(24,qi (i64.wrap ((i64.wrap ((i64.wrap (Int.fdiv (u64.wrap (i64.wrap (a1+a3))) 2))+a2))-dz))),(185,bV d8)],[q4 0 a0],1⟩) fun d8=>.join (.cd (fun d9=>.bd fun ea ed=>.rg [(5,hC [(0,0)] [(0,0)] [] [] call185 (Zx.ok a0 dz a2 (i64.wrap ((i64.wrap ((i64.wrap (Int.fdiv (u64.wrap (i64.wrap (a1+a3))) 2))+a2))-dz)) ea ed))]<|.o [(0,0)])
 (fun d9=>.o [(0,0)]))
 (.st .normal (fun eh=>⟨[(0,.own 0),(1,qi a1),(3,qi a3),(4,.im (qf 161)),(18,qi (i64.wrap (Int.fdiv (u64.wrap (i64.wrap (a1+a3))) 2))),(20,qi dz),(24,qi (i64.wrap ((i64.wrap ((i64.wrap (Int.fdiv (u64.wrap (i64.wrap (a1+a3))) 2))+a2))-dz)))],[q4 0 eh],1⟩) fun eh=>.join (.sp (fun ei=>.rg [(3,hB ei)]<|.o [(0,0)])
 (fun ei=>.rg [(3,hB ei)]<|.o [(0,0)]))
 (.st .normal (fun ej=>⟨[(0,.own 0),(1,qi a1),(3,qi a3),(4,.im (qf 161)),(18,qi (i64.wrap (Int.fdiv (u64.wrap (i64.wrap (a1+a3))) 2))),(20,qi dz),(24,qi (i64.wrap ((i64.wrap ((i64.wrap (Int.fdiv (u64.wrap (i64.wrap (a1+a3))) 2))+a2))-dz))),(199,bV ej)],[q4 0 eh],1⟩) fun ej=>.join (.cd (fun em=>.bd fun en eo=>.rg [(5,hC [(0,0)] [(0,0)] [] [] call181 (ihF eh a1 dz (i64.wrap (Int.fdiv (u64.wrap (i64.wrap (a1+a3))) 2)) _ eo))]<|.o [(0,0)])
 (fun em=>.o [(0,0)]))
 (.st .normal (fun eu=>⟨[(0,.own 0),(3,qi a3),(4,.im (qf 161)),(18,qi (i64.wrap (Int.fdiv (u64.wrap (i64.wrap (a1+a3))) 2))),(24,qi (i64.wrap ((i64.wrap ((i64.wrap (Int.fdiv (u64.wrap (i64.wrap (a1+a3))) 2))+a2))-dz)))],[q4 0 eu],1⟩) fun eu=>.join (.sp (fun ev=>.rg [(3,hB ev)]<|.o [(0,0)])
 (fun ev=>.rg [(3,hB ev)]<|.o [(0,0)]))
 (.st .normal (fun ew=>⟨[(0,.own 0),(3,qi a3),(4,.im (qf 161)),(18,qi (i64.wrap (Int.fdiv (u64.wrap (i64.wrap (a1+a3))) 2))),(24,qi (i64.wrap ((i64.wrap ((i64.wrap (Int.fdiv (u64.wrap (i64.wrap (a1+a3))) 2))+a2))-dz))),(213,bV ew)],[q4 0 eu],1⟩) fun ew=>.join (.cd (fun e8=>.bd fun e9 fe=>.rg [(5,hC [(0,0)] [(0,0)] [] [] call181 (ihF eu (i64.wrap (Int.fdiv (u64.wrap (i64.wrap (a1+a3))) 2)) (i64.wrap ((i64.wrap ((i64.wrap (Int.fdiv (u64.wrap (i64.wrap (a1+a3))) 2))+a2))-dz)) a3 _ fe))]<|.o [(0,0)])
 (fun e8=>.o [(0,0)]))
 (.st .normal (fun ff=>⟨[],[q4 0 ff],1⟩) fun ff=>.ret [(0,0)] [] [] ⟨[],[q4 0 ff],1⟩)))))))))))
def Zd.l0 (a1:Int) (aa:List Z0) (ad:Int) (ae:Int):Option ((List Z0)×Int):=if(decide (ae≤a1))=true then((Zb.f aa ad ae)>>=fun af=>Zd.l0 a1 af ae (i64.wrap (ae+20))) else(some (aa,ad))
partial_fixpoint
def Zd.l2 (a1:Int) (aa:Int) (ad:List Z0) (ae:Int) (af:Int):Option ((List Z0)×Int):=if(decide (af≤a1))=true then((Z6.f ad ae (i64.wrap (ae+aa)) af)>>=fun ah=>Zd.l2 a1 aa ah af (i64.wrap (af+(i64.wrap ((2:Int)*aa))))) else(some (ad,ae))
partial_fixpoint
def Zd.l1 (a1:Int) (aa:List Z0) (ad:Int):Option (List Z0):=if(decide (ad<a1))=true then((Zd.l2 a1 ad aa 0 (i64.wrap ((2:Int)*ad)))>>=fun oo=>match oo with | (ae,af)=>(((if(decide ((i64.wrap (af+ad))<a1))=true then((Z6.f ae af (i64.wrap (af+ad)) a1)>>=fun ah=>some ah) else(some ae)):Option (List Z0))>>=fun ai=>Zd.l1 a1 ai (i64.wrap (ad*2)))) else(some aa)
partial_fixpoint
def Zd.f (a0:List Z0) (a1:Int):Option (List Z0):=(Zd.l0 a1 a0 0 20)>>=fun oo=>match oo with | (aa,ad)=>((Zb.f aa ad a1)>>=fun ae=>(Zd.l1 a1 ae 20)>>=fun af=>some af)
theorem Zd.ok (a0:List Z0) (a1:Int):FN 174 [.own 0,qi a1,.im (qf 161)] [q4 0 a0] 1 (Zd.f a0 a1) (fun r=>.tup []) (fun r=>[q4 0 r]):=FT [0] func174 (.r0<|.r0<|.bl<|.loop (.c3 (Zd.l0.partial_correctness a1)) (a0,0,20) [(0,0)] [] [] (fun _=>.pr fun aa=>.pr fun ad=>.one (fun ae=>⟨[(0,.own 0),(1,qi a1),(2,.im (qf 161)),(6,qi 20),(7,qi ad),(8,qi ae)],[q4 0 aa],1⟩) fun ae=>.r0<|.cd (fun af=>.bl<|.bd fun ah ai=>.rg [(4,hC [(0,0)] [(0,0)] [] [] call180 (Zb.ok aa ad ae ah ai))]<|.r0<|.r0<|.bk [(0,0)] rfl)
 (fun af=>.o [(0,0)]))
 (.pr fun aj=>.st (.exit 0) (fun ak=>⟨[(0,.own 0),(1,qi a1),(2,.im (qf 161)),(6,qi 20),(7,qi ak)],[q4 0 aj],1⟩) fun ak=>.bd fun al am=>.rg [(4,hC [(0,0)] [(0,0)] [] [] call180 (Zb.ok aj ak a1 al am))]<|.bl<|.loop (.c2 (Zd.l1.partial_correctness a1)) (al,20) [(0,0)] [] [] (fun _=>.pr fun an=>.one (fun aq=>⟨[(0,.own 0),(1,qi a1),(2,.im (qf 161)),(6,qi aq)],[q4 0 an],1⟩) fun aq=>.r0<|.cd (fun ar=>.bl<|.r0<|.bl<|.loop (.c3 (Zd.l2.partial_correctness a1 aq)) (an,0,i64.wrap ((2:Int)*aq)) [(0,0)] [] [] (fun _=>.pr fun au=>.pr fun av=>.one (fun aw=>⟨[(0,.own 0),(1,qi a1),(2,.im (qf 161)),(6,qi aq),(7,qi av),(8,qi aw)],[q4 0 au],1⟩) fun aw=>.r0<|.cd (fun ax=>.bl<|.bd fun ay az=>.rg [(7,hC [(0,0)] [(0,0)] [] [] call181 (Z6.ok au av (i64.wrap (av+aq)) aw ay az))]<|.r0<|.r0<|.bk [(0,0)] rfl)
 (fun ax=>.o [(0,0)]))
 (.pr fun a8=>.st (.exit 4) (fun a9=>⟨[(0,.own 0),(1,qi a1),(2,.im (qf 161)),(6,qi aq),(7,qi a9)],[q4 0 a8],1⟩) fun a9=>.r0<|.r0<|.join (.cd (fun ba=>.bd fun bb bc=>.rg [(5,hC [(0,0)] [(0,0)] [] [] call181 (Z6.ok a8 a9 (i64.wrap (a9+aq)) a1 bb bc))]<|.o [(0,0)])
 (fun ba=>.o [(0,0)]))
 (.st .normal (fun be=>⟨[(0,.own 0),(1,qi a1),(2,.im (qf 161)),(6,qi aq)],[q4 0 be],1⟩) fun be=>.r0<|.bk [(0,0)] rfl)))
 (fun ar=>.o [(0,0)]))
 (.st (.exit 2) (fun bf=>⟨[],[q4 0 bf],1⟩) fun bf=>.ret [(0,0)] [] [] ⟨[],[q4 0 bf],1⟩)))
def Z0j.f (a0:List Z0):Option (List Z0):=(Zd.f a0 (a0.length:Int))>>=fun aa=>some aa
theorem Z0j.ok (a0:List Z0):FN 160 [.own 0,.im (qf 161)] [q4 0 a0] 1 (Z0j.f a0) (fun r=>.tup []) (fun r=>[q4 0 r]):=FT [0] func160 (.bd fun aa ad=>.rg [(2,hG Z5 a0),(4,hC [(0,0)] [(0,0)] [] [] call174 (Zd.ok a0 (a0.length:Int) aa ad))]<|.ret [(0,0)] [] [] ⟨[],[q4 0 aa],1⟩)
def Z1k.l0 (aa:List Z0) (ad:List Z0) (ae:Int):Option (((List Z0)×Int) ⊕ (List Z0)):=if(decide (ae<(aa.length:Int)))=true then((at? aa ae)>>=fun af=>((if(af.f1==0)=true then(some (.inr ad)) else(((if(decide ((ad.length:Int)>0))=true then((at? ad (i64.wrap ((ad.length:Int)-1)))>>=fun ah=>some (ah.f0==af.f0)) else(some false)):Option Bool)>>=fun ai=>((if ai=true then((at? ad (i64.wrap ((ad.length:Int)-1)))>>=fun aj=>(Z2c.f [aj.f1,af.f1])>>=fun ak=>if(ak.2 != 0)=true then(some (.inl ([],ak.2))) else(some (.inr (ad.set (Int.toNat (i64.wrap ((ad.length:Int)-1))) (⟨aj.f0,ak.1⟩:Z0))))) else((chk ((ad.length+[af].length)*16≤140737488355328))>>=fun _=>some (.inr (ad++[af])))):Option (((List Z0)×Int) ⊕ (List Z0)))>>=fun oo=>match oo with | .inl rr=>(some (.inl rr)) | .inr al=>(some (.inr al)))):Option (((List Z0)×Int) ⊕ (List Z0)))>>=fun oo=>match oo with | .inl rr=>(some (.inl rr)) | .inr am=>(Z1k.l0 aa am (i64.wrap (ae+1)))) else(some (.inr ad))
partial_fixpoint
def Z1k.f (a0:List Z0):Option ((List Z0)×Int):=(Z0h.f a0)>>=fun aa=>(Z0j.f aa)>>=fun ad=>(Z1k.l0 ad [] 0)>>=fun oo=>match oo with | .inl rr=>(some rr) | .inr ae=>(some (ae,0))
theorem Z1k.ok (a0:List Z0):FN 137 [.im (.row (a0.map Z5))] [] 0 (Z1k.f a0) (fun r=>.tup [.own 0,qi r.2]) (fun r=>[q4 0 r.1]):=FT [0] func137 (.r0<|.r0<|.bd fun aa ad=>.rg [(1,hC [] [(0,0)] [] [0] call64 (Z0h.ok a0 aa ad))]<|.bd fun ae af=>.rg [(1,hC [(0,0)] [(0,0)] [] [] call160 (Z0j.ok aa ae af))]<|.rg [(1,hG Z5 ae)]<|.bl<|.loop (.c2 (Z1k.l0.partial_correctness ae)) ([],0) [(0,7)] [] [6] (fun _=>.pr fun ah=>.one (fun ai=>⟨[(4,.own 6),(14,.own 7),(15,qi (ae.length:Int)),(16,qi ai)],[q4 6 ah,q4 7 ae],0⟩) fun ai=>.r0<|.cd (fun aj=>.bl<|.el fun ak al am=>.rg [(0,hX Z5 al am),(1,hL Z5 am),(2,⟨.k 8,.n⟩)]<|.rg [(1,hG Z5 ah)]<|.bl<|.r0<|.join (.cd (fun an=>.o [(6,17),(7,18)])
 (fun an=>.join (.sp (fun aq=>.el fun ar au av=>.rg [(2,hB aq),(6,hX Z5 au av),(8,hL Z5 av)]<|.o [(6,9),(8,10),(7,11)])
 (fun aq=>.rg [(2,hB aq)]<|.o [(6,9),(8,10),(7,11)]))
 (.st .normal (fun aw=>⟨[(4,.own 9),(6,.ptr 10 0 0),(7,qi (ah.length:Int)),(14,.own 11),(15,qi (ae.length:Int)),(16,qi ai),(30,bV aw)],[q4 9 ah,(10,some (.box 132 (Z6q ak))),q4 11 ae],0⟩) fun aw=>.join (.cd (fun ax=>.el fun ay az a8=>.bd fun a9 ba=>.rg [(3,hX Z5 az a8),(5,hL Z5 a8),(8,hQ 12 qv ([ay.f1,ak.f1]:List Int)),(9,hC [] [] [12] [] call98 (Z2c.ok [ay.f1,ak.f1] a9 ba))]<|.r0<|.cd (fun bb=>.r0<|.ret [] [] [0] ⟨[(2,.own 0),(3,qi a9.2)],[q4 0 []],0⟩)
 (fun bb=>.rg [(4,hX Z5 az a8),(6,hS Z5 (⟨ay.f0,a9.1⟩:Z0) 1 [iI .u64 a9.1] a8)]<|.o [(9,15),(11,16)]))
 (fun ax=>.ck fun bc=>.rg [(2,hQ 13 Z5 ([ak]:List Z0)),(3,hP 14 Z5 2 bc)]<|.o [(14,15),(11,16)]))
 (.sm (.rt (fun rr=>.tup [.own 0,qi rr.2]) (fun rr=>[q4 0 rr.1]))
 (.st .normal (fun be=>⟨[(4,.own 15),(14,.own 16),(15,qi (ae.length:Int)),(16,qi ai)],[q4 15 be,q4 16 ae],0⟩) fun be=>.o [(15,17),(16,18)])))))
 (.sm (.rt (fun rr=>.tup [.own 0,qi rr.2]) (fun rr=>[q4 0 rr.1]))
 (.st .normal (fun bf=>⟨[(4,.own 17),(14,.own 18),(15,qi (ae.length:Int)),(16,qi ai)],[q4 17 bf,q4 18 ae],0⟩) fun bf=>.r0<|.bk [(17,6),(18,7)] rfl)))
 (fun aj=>.o [(6,19)]))
 (.sm (.rt (fun rr=>.tup [.own 0,qi rr.2]) (fun rr=>[q4 0 rr.1]))
 (.st (.exit 0) (fun bg=>⟨[(4,.own 19)],[q4 19 bg],0⟩) fun bg=>.r0<|.ret [(19,0)] [] [] ⟨[(2,.own 0),(3,qi 0)],[q4 0 bg],0⟩)))
def Z14.l1 (a0:List (List Z0)) (aa:List Z0) (ad:Int) (ae:Int) (af:Int):Option ((Int×Int) ⊕ Int):=if(decide (af<(aa.length:Int)))=true then((at? aa af)>>=fun ah=>(Z2c.f [ae,ah.f1])>>=fun ai=>if(ai.2 != 0)=true then(some (.inl (0,ai.2))) else(Z14.l1 a0 aa ad ai.1 (i64.wrap (af+1)))) else(some (.inr ae))
partial_fixpoint
def Z14.l0 (a0:List (List Z0)) (aa:Int) (ad:Int):Option ((Int×Int) ⊕ Int):=if(decide (ad<(a0.length:Int)))=true then((at? a0 ad)>>=fun ae=>(Z14.l1 a0 ae ad aa 0)>>=fun oo=>match oo with | .inl rr=>(some (.inl rr)) | .inr af=>(Z14.l0 a0 af (i64.wrap (ad+1)))) else(some (.inr aa))
partial_fixpoint
def Z14.f (a0:List (List Z0)):Option (Int×Int):=(Z14.l0 a0 0 0)>>=fun oo=>match oo with | .inl rr=>(some rr) | .inr aa=>(some (aa,0))
theorem Z14.ok (a0:List (List Z0)):FN 138 [.im (.row (a0.map (Z40 Z5)))] [] 0 (Z14.f a0) (fun r=>.tup [qu r.1,qi r.2]) (fun r=>[]):=FT [] func138 (.r0<|.r0<|.rg [(1,hG (Z40 Z5) a0)]<|.bl<|.loop (.c2 (Z14.l0.partial_correctness a0)) (0,0) [] [] [] (fun _=>.pr fun aa=>.one (fun ad=>⟨[(4,qu aa),(10,.im (.row (a0.map (Z40 Z5)))),(11,qi (a0.length:Int)),(12,qi ad)],[],0⟩) fun ad=>.r0<|.cd (fun ae=>.bl<|.el fun af ah ai=>.rg [(0,hA (Z40 Z5) ah ai)]<|.rg [(1,hG Z5 af)]<|.bl<|.loop (.c2 (Z14.l1.partial_correctness a0 af ad)) (aa,0) [] [] [] (fun _=>.pr fun aj=>.one (fun ak=>⟨[(4,qu aj),(10,.im (.row (a0.map (Z40 Z5)))),(11,qi (a0.length:Int)),(12,qi ad),(16,.im (.row (af.map Z5))),(17,qi (af.length:Int)),(18,qi ak)],[],0⟩) fun ak=>.r0<|.cd (fun al=>.bl<|.el fun am an aq=>.rg [(0,hA Z5 an aq),(2,⟨.k 6,.n⟩)]<|.r0<|.bd fun ar au=>.rg [(3,hQ 7 qv ([aj,am.f1]:List Int)),(4,hC [] [] [7] [] call98 (Z2c.ok [aj,am.f1] ar au))]<|.r0<|.cd (fun av=>.r0<|.ret [] [] [] ⟨[(2,qu 0),(3,qi ar.2)],[],0⟩)
 (fun av=>.r0<|.bk [] rfl))
 (fun al=>.o []))
 (.sm (.rt (fun rr=>.tup [qu rr.1,qi rr.2]) (fun rr=>[]))
 (.st (.exit 2) (fun aw=>⟨[(4,qu aw),(10,.im (.row (a0.map (Z40 Z5)))),(11,qi (a0.length:Int)),(12,qi ad)],[],0⟩) fun aw=>.r0<|.bk [] rfl)))
 (fun ae=>.o []))
 (.sm (.rt (fun rr=>.tup [qu rr.1,qi rr.2]) (fun rr=>[]))
 (.st (.exit 0) (fun ax=>⟨[(4,qu ax)],[],0⟩) fun ax=>.r0<|.ret [] [] [] ⟨[(2,qu ax),(3,qi 0)],[],0⟩)))
def Z18.l0 (a0:Z1) (a1:List Z0) (aa:Int):Option (Int ⊕ Unit):=if(decide (aa<(a1.length:Int)))=true then((at? a1 aa)>>=fun ad=>(Z55.f a0.f1 ad.f0)>>=fun ae=>if(!ae)=true then(some (.inl 4)) else(((if(decide (aa>0))=true then((at? a1 (i64.wrap (aa-1)))>>=fun af=>some (decide (af.f0≥ad.f0))) else(some false)):Option Bool)>>=fun ah=>if ah=true then(some (.inl 32)) else(if(ad.f1==0)=true then(some (.inl 21)) else((Z36.f a0.f1 ad.f0)>>=fun ai=>if(decide (ai<a0.f2))=true then(some (.inl 31)) else(Z18.l0 a0 a1 (i64.wrap (aa+1))))))) else(some (.inr ()))
partial_fixpoint
def Z18.f (a0:Z1) (a1:List Z0):Option Int:=if(decide ((a1.length:Int)>512))=true then(some 9) else((Z18.l0 a0 a1 0)>>=fun oo=>match oo with | .inl rr=>(some rr) | .inr _=>(some 0))
theorem Z18.ok (a0:Z1) (a1:List Z0):FN 163 [.agg (Zv a0),.im (.row (a1.map Z5))] [] 0 (Z18.f a0 a1) (fun r=>qi r) (fun r=>[]):=FT [] func163 (.rg [(0,⟨.k 0,.n⟩)]<|.rg [(1,hG Z5 a1)]<|.cd (fun aa=>.r0<|.ret [] [] [] ⟨[(4,qi 9)],[],0⟩)
 (fun aa=>.rg [(1,hG Z5 a1)]<|.bl<|.loop (.one (Z18.l0.partial_correctness a0 a1)) 0 [(0,2)] [] [] (fun _=>.one (fun ad=>⟨[(1,.im (.row (a1.map Z5))),(2,.ptr 2 0 0),(10,.im (.row (a1.map Z5))),(11,qi (a1.length:Int)),(12,qi ad)],[(2,some (.box 48 (Zv a0)))],0⟩) fun ad=>.r0<|.cd (fun ae=>.bl<|.el fun af ah ai=>.rg [(1,hA Z5 ah ai),(3,⟨.k 3,.n⟩)]<|.bl<|.bd fun aj ak=>.rg [(4,qh call176 (Z55.ok a0.f1 af.f0 aj ak))]<|.cd (fun al=>.r0<|.ret [] [] [] ⟨[(4,qi 4)],[],0⟩)
 (fun al=>.join (.sp (fun am=>.el fun an aq ar=>.rg [(2,hB am),(6,hA Z5 aq ar)]<|.o [(2,4),(3,5)])
 (fun am=>.rg [(2,hB am)]<|.o [(2,4),(3,5)]))
 (.st .normal (fun au=>⟨[(1,.im (.row (a1.map Z5))),(2,.ptr 4 0 0),(6,.ptr 5 0 0),(10,.im (.row (a1.map Z5))),(11,qi (a1.length:Int)),(12,qi ad),(24,bV au)],[(4,some (.box 48 (Zv a0))),(5,some (.box 132 (Z6q af)))],0⟩) fun au=>.cd (fun av=>.r0<|.ret [] [] [] ⟨[(4,qi 32)],[],0⟩)
 (fun av=>.r0<|.cd (fun aw=>.r0<|.ret [] [] [] ⟨[(4,qi 21)],[],0⟩)
 (fun aw=>.bd fun ax ay=>.rg [(4,qh call151 (Z36.ok a0.f1 af.f0 ax ay))]<|.cd (fun az=>.r0<|.ret [] [] [] ⟨[(4,qi 31)],[],0⟩)
 (fun az=>.r0<|.bk [(4,2)] rfl))))))
 (fun ae=>.o []))
 (.sm (.rt (fun rr=>qi rr) (fun rr=>[]))
 (.st (.exit 0) (fun _=>⟨[],[],0⟩) fun _=>.r0<|.ret [] [] [] ⟨[(4,qi 0)],[],0⟩))))
def Z1m.l0 (a0:Z1) (aa:Int):Option (Int ⊕ Unit):=if(decide (aa<2))=true then((((chk (0≤aa∧aa<2))>>=fun _=>if(aa==0)=true then(some a0.f6) else(some a0.f7)):Option (List Z0))>>=fun ad=>(Z18.f a0 ad)>>=fun ae=>if(ae != 0)=true then(some (.inl ae)) else(Z1m.l0 a0 (i64.wrap (aa+1)))) else(some (.inr ()))
partial_fixpoint
def Z1m.f (a0:Z1):Option Int:=((if(a0.f0 != 0)=true then(some (a0.f0 != 1)) else(some false)):Option Bool)>>=fun aa=>if aa=true then(some 25) else((Z0g.f a0.f1)>>=fun ad=>if(!ad)=true then(some 20) else(((if(a0.f2 != (-524288))=true then(if(decide (a0.f2≤(-262144)))=true then(some true) else(some (decide (a0.f2>262144)))) else(some false)):Option Bool)>>=fun ae=>if ae=true then(some 31) else((Z1m.l0 a0 0)>>=fun oo=>match oo with | .inl rr=>(some rr) | .inr _=>((Z14.f [a0.f6,a0.f7,[(⟨0,a0.f3⟩:Z0)]])>>=fun af=>if(af.2 != 0)=true then(some af.2) else(if(af.1 != a0.f4)=true then(some 21) else(some 0))))))
theorem Z1m.ok (a0:Z1):FN 139 [.agg (Zv a0)] [] 0 (Z1m.f a0) (fun r=>qi r) (fun r=>[]):=FT [] func139 (.rg [(0,⟨.k 0,.n⟩)]<|.bl<|.join (.sp (fun aa=>.rg [(3,hB aa)]<|.o [(0,1)])
 (fun aa=>.rg [(3,hB aa)]<|.o [(0,1)]))
 (.st .normal (fun ad=>⟨[(1,.ptr 1 0 0),(8,bV ad)],[(1,some (.box 48 (Zv a0)))],0⟩) fun ad=>.cd (fun ae=>.r0<|.ret [] [] [] ⟨[(2,qi 25)],[],0⟩)
 (fun ae=>.bd fun af ah=>.rg [(2,qh call157 (Z0g.ok a0.f1 af ah))]<|.cd (fun ai=>.r0<|.ret [] [] [] ⟨[(2,qi 20)],[],0⟩)
 (fun ai=>.join (.sp (fun aj=>.sp (fun ak=>.rg [(3,hB aj),(7,hB ak)]<|.o [(1,2)])
 (fun ak=>.rg [(3,hB aj),(7,hB ak)]<|.o [(1,2)]))
 (fun aj=>.rg [(3,hB aj)]<|.o [(1,2)]))
 (.st .normal (fun al=>⟨[(1,.ptr 2 0 0),(22,bV al)],[(2,some (.box 48 (Zv a0)))],0⟩) fun al=>.cd (fun am=>.r0<|.ret [] [] [] ⟨[(2,qi 31)],[],0⟩)
 (fun am=>.r0<|.bl<|.loop (.one (Z1m.l0.partial_correctness a0)) 0 [(2,3)] [] [] (fun _=>.one (fun an=>⟨[(1,.ptr 3 0 0),(40,.agg [.im (.row (a0.f6.map Z5)),.im (.row (a0.f7.map Z5))]),(41,qi an)],[(3,some (.box 48 (Zv a0)))],0⟩) fun an=>.r0<|.cd (fun aq=>.bl<|.join (.ck fun ar=>.sp (fun au=>.rg [(0,⟨.more (xIdx 0),.c (p:=an=((0:Nat):Int)) (by simpa using au) .n⟩)]<|.o [(3,4)])
 (fun au=>.rg [(0,⟨.more (xIdx 1),.c (p:=an=((1:Nat):Int)) (by have:=ar;simp only[beq_eq_false_iff_ne] at *;omega) .n⟩)]<|.o [(3,4)]))
 (.st .normal (fun av=>⟨[(1,.ptr 4 0 0),(4,.im (.row (av.map Z5))),(40,.agg [.im (.row (a0.f6.map Z5)),.im (.row (a0.f7.map Z5))]),(41,qi an)],[(4,some (.box 48 (Zv a0)))],0⟩) fun av=>.bd fun aw ax=>.rg [(2,qh call163 (Z18.ok a0 av aw ax))]<|.r0<|.cd (fun ay=>.r0<|.ret [] [] [] ⟨[(2,qi aw)],[],0⟩)
 (fun ay=>.r0<|.bk [(4,3)] rfl)))
 (fun aq=>.o [(3,5)]))
 (.sm (.rt (fun rr=>qi rr) (fun rr=>[]))
 (.st (.exit 1) (fun _=>⟨[(1,.ptr 5 0 0)],[(5,some (.box 48 (Zv a0)))],0⟩) fun _=>.bd fun az a8=>.rg [(7,fzI (hQ 6 Z5 ([(⟨0,a0.f3⟩:Z0)]:List Z0))),(8,hQ 7 (Z40 Z5) ([a0.f6,a0.f7,[(⟨0,a0.f3⟩:Z0)]]:List (List Z0))),(9,hC [] [] [7] [] call138 (Z14.ok [a0.f6,a0.f7,[(⟨0,a0.f3⟩:Z0)]] az a8))]<|.bl<|.r0<|.cd (fun a9=>.r0<|.ret [] [] [] ⟨[(2,qi az.2)],[],0⟩)
 (fun a9=>.r0<|.cd (fun ba=>.r0<|.ret [] [] [] ⟨[(2,qi 21)],[],0⟩)
 (fun ba=>.r0<|.ret [] [] [] ⟨[(2,qi 0)],[],0⟩))))))))))
def Z2f.f (a0:Z1) (a1:List Z0) (a2:List Z0):Option (Z1×Int):=(Z1k.f a1)>>=fun aa=>(Z1k.f a2)>>=fun ad=>if((if ad.2>aa.2 then ad.2 else aa.2) != 0)=true then(some ((⟨0,0,0,0,0,0,[],[]⟩:Z1),(if ad.2>aa.2 then ad.2 else aa.2))) else((Z14.f [aa.1,ad.1,[(⟨0,a0.f3⟩:Z0)]])>>=fun ae=>if(ae.2 != 0)=true then(some ((⟨0,0,0,0,0,0,[],[]⟩:Z1),ae.2)) else((Z1m.f (⟨a0.f0,a0.f1,a0.f2,a0.f3,ae.1,a0.f5,aa.1,ad.1⟩:Z1))>>=fun af=>if(af != 0)=true then(some ((⟨0,0,0,0,0,0,[],[]⟩:Z1),af)) else(some ((⟨a0.f0,a0.f1,a0.f2,a0.f3,ae.1,a0.f5,aa.1,ad.1⟩:Z1),0))))
abbrev qk0:MObj:=.box 48 [qi 0,qi 0,qi 0,qu 0,qu 0,qi 0,.none0,.none0]
theorem Z2f.ok (a0:Z1) (a1:List Z0) (a2:List Z0):FN 96 [.agg (Zv a0),.im (.row (a1.map Z5)),.im (.row (a2.map Z5))] [] 0 (Z2f.f a0 a1 a2) (fun r=>.tup [.agg (Zv (r.1)),qi r.2]) (fun r=>[]):=FT [] func96 (.rg [(0,⟨.k 0,.n⟩),(1,⟨.k 1,.n⟩)]<|.r0<|.bd fun aa ad=>.rg [(1,hC [] [(0,2)] [] [2] call137 (Z1k.ok a1 aa ad))]<|.bd fun ae af=>.rg [(1,hC [] [(0,3)] [] [3] call137 (Z1k.ok a2 ae af))]<|.rg [(2,⟨.more xMax,.n⟩)]<|.r0<|.cd (fun ah=>.r0<|.ret [(1,0)] [] [] ⟨[(6,.ptr 0 0 0),(7,qi (if ae.2>aa.2 then ae.2 else aa.2))],[(0,some (.box 48 (Zv (⟨0,0,0,0,0,0,[],[]⟩:Z1))))],0⟩)
 (fun ah=>.cv [(0,0),(1,1)] [2,3] [] ⟨[(3,.ptr 0 0 0),(6,.ptr 1 0 0),(8,qi (if ae.2>aa.2 then ae.2 else aa.2)),(27,bV ((if ae.2>aa.2 then ae.2 else aa.2) != 0))],[(0,some (.box 48 (Zv ⟨a0.f0,a0.f1,a0.f2,a0.f3,a0.f4,a0.f5,aa.1,ae.1⟩))),(1,some (qk0))],0⟩<|.bd fun ai aj=>.rg [(7,fzI (hQ 4 Z5 ([(⟨0,a0.f3⟩:Z0)]:List Z0))),(8,hQ 5 (Z40 Z5) ([aa.1,ae.1,[(⟨0,a0.f3⟩:Z0)]]:List (List Z0))),(9,hC [] [] [5] [] call138 (Z14.ok [aa.1,ae.1,[(⟨0,a0.f3⟩:Z0)]] ai aj))]<|.r0<|.cd (fun ak=>.r0<|.ret [(1,0)] [] [] ⟨[(6,.ptr 0 0 0),(7,qi ai.2)],[(0,some (.box 48 (Zv (⟨0,0,0,0,0,0,[],[]⟩:Z1))))],0⟩)
 (fun ak=>.bd fun al am=>.rg [(1,qh call139 (Z1m.ok (⟨a0.f0,a0.f1,a0.f2,a0.f3,ai.1,a0.f5,aa.1,ae.1⟩:Z1) al am))]<|.r0<|.cd (fun an=>.r0<|.ret [(1,0)] [] [] ⟨[(6,.ptr 0 0 0),(7,qi al)],[(0,some (.box 48 (Zv (⟨0,0,0,0,0,0,[],[]⟩:Z1))))],0⟩)
 (fun an=>.r0<|.ret [(1,0)] [] [] ⟨[(6,.ptr 0 0 0),(7,qi 0)],[(0,some (.box 48 (Zv (⟨a0.f0,a0.f1,a0.f2,a0.f3,ai.1,a0.f5,aa.1,ae.1⟩:Z1))))],0⟩))))
def Z3j.f (a0:Z1) (a1:List Z0) (a2:List Z0) (a3:Int):Option (Z1×Int):=(Z2l.f a0 a1 a3)>>=fun aa=>(Z2l.f a0 a2 a3)>>=fun ad=>(Z0d.f a1 a0.f0 a0.f1 a0.f2 a0.f3 a0.f4 a0.f5 a0.f6 a0.f7 (if ad>aa then ad else aa))>>=fun ae=>(Z0d.f a2 a0.f0 a0.f1 a0.f2 ae.2 a0.f4 a0.f5 a0.f6 a0.f7 (if ad>aa then ad else aa))>>=fun af=>(Z2f.f (⟨a0.f0,a0.f1,(if ad>aa then ad else aa),af.2,a0.f4,a0.f5,a0.f6,a0.f7⟩:Z1) ae.1 af.1)>>=fun ah=>some ((ah.1),ah.2)
theorem Z3j.ok (a0:Z1) (a1:List Z0) (a2:List Z0) (a3:Int):FN 159 [.agg (Zv a0),.im (.row (a1.map Z5)),.im (.row (a2.map Z5)),qi a3] [] 0 (Z3j.f a0 a1 a2 a3) (fun r=>.tup [.agg (Zv (r.1)),qi r.2]) (fun r=>[]):=FT [] func159 (.rg [(0,⟨.k 0,.n⟩),(1,⟨.k 1,.n⟩),(2,⟨.k 2,.n⟩)]<|.bd fun aa ad=>.bd fun ae af=>.rg [(3,qh call172 (Z2l.ok a0 a1 a3 aa ad)),(7,qh call172 (Z2l.ok a0 a2 a3 ae af)),(8,⟨.more xMax,.n⟩)]<|.rg [(0,⟨.more xFunc,.n⟩)]<|.bd fun ah ai=>.bd fun aj ak=>.rg [(2,hC [(0,0),(1,1)] [(0,0),(1,1),(2,3)] [] [3] call173 (Z0d.ok a1 a0.f0 a0.f1 a0.f2 a0.f3 a0.f4 a0.f5 a0.f6 a0.f7 (if ae>aa then ae else aa) ah ai)),(5,hC [(0,0),(1,1)] [(0,0),(1,1),(2,4)] [] [4] call173 (Z0d.ok a2 a0.f0 a0.f1 a0.f2 ah.2 a0.f4 a0.f5 a0.f6 a0.f7 (if ae>aa then ae else aa) aj ak))]<|.r0<|.cv [(2,2),(0,0)] [3,4] [] ⟨[(1,.im (.row (ah.1.map Z5))),(2,.im (.row (aj.1.map Z5))),(4,.ptr 0 0 0),(8,.ptr 2 0 0)],[(0,some (.box 48 (Zv ⟨a0.f0,a0.f1,(if ae>aa then ae else aa),aj.2,a0.f4,a0.f5,a0.f6,a0.f7⟩))),(2,some (qk0))],0⟩<|.bd fun al am=>.rg [(3,qh call96 (Z2f.ok (⟨a0.f0,a0.f1,(if ae>aa then ae else aa),aj.2,a0.f4,a0.f5,a0.f6,a0.f7⟩:Z1) ah.1 aj.1 al am))]<|.ret [(2,0)] [] [] ⟨[(8,.ptr 0 0 0),(9,qi al.2)],[(0,some (.box 48 (Zv (al.1))))],0⟩)
def Z2u.f (a0:Z1) (a1:Int):Option (Z1×Int):=(((Z0g.f a1)>>=fun aa=>if(!aa)=true then(some true) else(some (decide (a1>a0.f1)))):Option Bool)>>=fun ad=>if ad=true then(some ((⟨0,0,0,0,0,0,[],[]⟩:Z1),20)) else((Z2m.f a0.f6 a0.f1 a1)>>=fun ae=>(Z2m.f a0.f7 a0.f1 a1)>>=fun af=>(Z3j.f (⟨a0.f0,a1,a0.f2,a0.f3,a0.f4,a0.f5,a0.f6,a0.f7⟩:Z1) ae af a0.f2)>>=fun ah=>some ((ah.1),ah.2))
theorem Z2u.ok (a0:Z1) (a1:Int):FN 135 [.agg (Zv a0),qi a1] [] 0 (Z2u.f a0 a1) (fun r=>.tup [.agg (Zv (r.1)),qi r.2]) (fun r=>[]):=FT [] func135 (.rg [(0,⟨.k 0,.n⟩),(1,⟨.k 1,.n⟩)]<|.join (.bd fun aa ad=>.sp (fun ae=>.rg [(1,qh call157 (Z0g.ok a1 aa ad)),(3,hB ae)]<|.o [(0,2),(1,3)])
 (fun ae=>.rg [(1,qh call157 (Z0g.ok a1 aa ad)),(3,hB ae)]<|.o [(0,2),(1,3)]))
 (.st .normal (fun af=>⟨[(1,qi a1),(2,.ptr 2 0 0),(4,.ptr 3 0 0),(17,bV af)],[(2,some (.box 48 (Zv a0))),(3,some (qk0))],0⟩) fun af=>.cd (fun ah=>.r0<|.ret [(3,0)] [] [] ⟨[(4,.ptr 0 0 0),(5,qi 20)],[(0,some (.box 48 (Zv (⟨0,0,0,0,0,0,[],[]⟩:Z1))))],0⟩)
 (fun ah=>.r0<|.r0<|.bd fun ai aj=>.bd fun ak al=>.rg [(4,hC [] [(0,4)] [] [4] call158 (Z2m.ok a0.f6 a0.f1 a1 ai aj)),(9,hC [] [(0,5)] [] [5] call158 (Z2m.ok a0.f7 a0.f1 a1 ak al))]<|.cv [(2,2),(3,3)] [4,5] [] ⟨[(2,.ptr 2 0 0),(4,.ptr 3 0 0),(7,.im (.row (ai.map Z5))),(8,.im (.row (ak.map Z5)))],[(2,some (.box 48 (Zv ⟨a0.f0,a1,a0.f2,a0.f3,a0.f4,a0.f5,a0.f6,a0.f7⟩))),(3,some (qk0))],0⟩<|.bd fun am an=>.rg [(5,qh call159 (Z3j.ok (⟨a0.f0,a1,a0.f2,a0.f3,a0.f4,a0.f5,a0.f6,a0.f7⟩:Z1) ai ak a0.f2 am an))]<|.ret [(3,0)] [] [] ⟨[(4,.ptr 0 0 0),(5,qi am.2)],[(0,some (.box 48 (Zv (am.1))))],0⟩)))
def Z2h.f (a0:Z1):Option Z1:=(Z0h.f a0.f6)>>=fun aa=>(Z0h.f a0.f7)>>=fun ad=>some (⟨a0.f0,a0.f1,a0.f2,a0.f3,a0.f4,a0.f5,aa,ad⟩:Z1)
theorem Z2h.ok (a0:Z1):FN 34 [.agg (Zv a0)] [] 0 (Z2h.f a0) (fun r=>.agg [qi ((r).f0),qi ((r).f1),qi ((r).f2),qu ((r).f3),qu ((r).f4),qi ((r).f5),.own 0,.own 1]) (fun r=>[q4 0 ((r).f6),q4 1 ((r).f7)]):=FT [0,1] func34 (.rg [(0,⟨.k 0,.n⟩),(1,⟨.k 1,.n⟩)]<|.bd fun aa ad=>.bd fun ae af=>.rg [(2,hC [] [(0,2)] [] [2] call64 (Z0h.ok a0.f6 aa ad)),(5,hC [] [(0,3)] [] [3] call64 (Z0h.ok a0.f7 ae af))]<|.r0<|.ret [(1,2),(2,0),(3,1)] [] [] ⟨[(2,.ptr 2 0 0)],[q4 0 ((⟨a0.f0,a0.f1,a0.f2,a0.f3,a0.f4,a0.f5,aa,ae⟩:Z1).f6),q4 1 ((⟨a0.f0,a0.f1,a0.f2,a0.f3,a0.f4,a0.f5,aa,ae⟩:Z1).f7),(2,some (.box 48 [qi ((⟨a0.f0,a0.f1,a0.f2,a0.f3,a0.f4,a0.f5,aa,ae⟩:Z1).f0),qi ((⟨a0.f0,a0.f1,a0.f2,a0.f3,a0.f4,a0.f5,aa,ae⟩:Z1).f1),qi ((⟨a0.f0,a0.f1,a0.f2,a0.f3,a0.f4,a0.f5,aa,ae⟩:Z1).f2),qu ((⟨a0.f0,a0.f1,a0.f2,a0.f3,a0.f4,a0.f5,aa,ae⟩:Z1).f3),qu ((⟨a0.f0,a0.f1,a0.f2,a0.f3,a0.f4,a0.f5,aa,ae⟩:Z1).f4),qi ((⟨a0.f0,a0.f1,a0.f2,a0.f3,a0.f4,a0.f5,aa,ae⟩:Z1).f5),.own 0,.own 1]))],0⟩)
def Z1l.f (a0:Z1) (a1:Int):Option (Z1×Int):=if(decide (a1<a0.f2))=true then(some ((⟨0,0,0,0,0,0,[],[]⟩:Z1),31)) else(if(a1==a0.f2)=true then((Z2h.f a0)>>=fun aa=>some ((aa),0)) else(((if(decide (a1≤(-262144)))=true then(some true) else(some (decide (a1>262144)))):Option Bool)>>=fun ad=>if ad=true then(some ((⟨0,0,0,0,0,0,[],[]⟩:Z1),31)) else((Z3j.f a0 a0.f6 a0.f7 a1)>>=fun ae=>some ((ae.1),ae.2))))
theorem Z1l.ok (a0:Z1) (a1:Int):FN 136 [.agg (Zv a0),qi a1] [] 0 (Z1l.f a0 a1) (fun r=>.tup [.agg (Zv (r.1)),qi r.2]) (fun r=>[]):=FT [] func136 (.rg [(0,⟨.k 0,.n⟩),(1,⟨.k 1,.n⟩)]<|.bl<|.r0<|.cd (fun aa=>.r0<|.ret [(1,0)] [] [] ⟨[(4,.ptr 0 0 0),(5,qi 31)],[(0,some (.box 48 (Zv (⟨0,0,0,0,0,0,[],[]⟩:Z1))))],0⟩)
 (fun aa=>.r0<|.cd (fun ad=>.bd fun ae af=>.rg [(1,hC [] [(0,2),(1,3)] [] [2,3] call34 (Z2h.ok a0 ae af))]<|.ret [(1,0)] [2,3] [] ⟨[(4,.ptr 0 0 0),(5,qi 0)],[(0,some (.box 48 (Zv (ae))))],0⟩)
 (fun ad=>.join (.sp (fun ah=>.rg [(2,hB ah)]<|.o [(0,4),(1,5)])
 (fun ah=>.rg [(2,hB ah)]<|.o [(0,4),(1,5)]))
 (.st .normal (fun ai=>⟨[(1,qi a1),(2,.ptr 4 0 0),(4,.ptr 5 0 0),(19,bV ai)],[(4,some (.box 48 (Zv a0))),(5,some (qk0))],0⟩) fun ai=>.cd (fun aj=>.r0<|.ret [(5,0)] [] [] ⟨[(4,.ptr 0 0 0),(5,qi 31)],[(0,some (.box 48 (Zv (⟨0,0,0,0,0,0,[],[]⟩:Z1))))],0⟩)
 (fun aj=>.bd fun ak al=>.rg [(6,qh call159 (Z3j.ok a0 a0.f6 a0.f7 a1 ak al))]<|.ret [(5,0)] [] [] ⟨[(4,.ptr 0 0 0),(5,qi ak.2)],[(0,some (.box 48 (Zv (ak.1))))],0⟩)))))
def Z0i.l0  (v:Int×Int×Int×Int×Int×Int×(List Z0)×(List Z0)×Int×Int×Int×Int×Int×Int×(List Z0)×(List Z0)):Option ((Z1×Z1×Int) ⊕ (Int×Int×Int×Int×Int×Int×(List Z0)×(List Z0)×Int×Int×Int×Int×Int×Int×(List Z0)×(List Z0))):=match v with
 | (aa,ad,ae,af,ah,ai,aj,ak,al,am,an,aq,ar,au,av,aw)=>if(ae != an)=true then((Z1l.f (⟨aa,ad,ae,af,ah,ai,aj,ak⟩:Z1) (if an>ae then an else ae))>>=fun ax=>(Z1l.f (⟨al,am,an,aq,ar,au,av,aw⟩:Z1) (if an>ae then an else ae))>>=fun ay=>if((if ay.2>ax.2 then ay.2 else ax.2) != 0)=true then(some (.inl ((⟨0,0,0,0,0,0,[],[]⟩:Z1),(⟨0,0,0,0,0,0,[],[]⟩:Z1),(if ay.2>ax.2 then ay.2 else ax.2)))) else(Z0i.l0  ((ax.1).f0,(ax.1).f1,(ax.1).f2,(ax.1).f3,(ax.1).f4,(ax.1).f5,(ax.1).f6,(ax.1).f7,(ay.1).f0,(ay.1).f1,(ay.1).f2,(ay.1).f3,(ay.1).f4,(ay.1).f5,(ay.1).f6,(ay.1).f7))) else(some (.inr (aa,ad,ae,af,ah,ai,aj,ak,al,am,an,aq,ar,au,av,aw)))
partial_fixpoint
def Z0i.f (a0:Z1) (a1:Z1):Option (Z1×Z1×Int):=(Z2u.f a0 (if a1.f1<a0.f1 then a1.f1 else a0.f1))>>=fun aa=>(Z2u.f a1 (if a1.f1<a0.f1 then a1.f1 else a0.f1))>>=fun ad=>if((if ad.2>aa.2 then ad.2 else aa.2) != 0)=true then(some ((⟨0,0,0,0,0,0,[],[]⟩:Z1),(⟨0,0,0,0,0,0,[],[]⟩:Z1),(if ad.2>aa.2 then ad.2 else aa.2))) else((Z0i.l0  ((aa.1).f0,(aa.1).f1,(aa.1).f2,(aa.1).f3,(aa.1).f4,(aa.1).f5,(aa.1).f6,(aa.1).f7,(ad.1).f0,(ad.1).f1,(ad.1).f2,(ad.1).f3,(ad.1).f4,(ad.1).f5,(ad.1).f6,(ad.1).f7))>>=fun oo=>match oo with | .inl rr=>(some rr) | .inr (ae,af,ah,ai,aj,ak,al,am,an,aq,ar,au,av,aw,ax,ay)=>(some ((⟨ae,af,ah,ai,aj,ak,al,am⟩:Z1),(⟨an,aq,ar,au,av,aw,ax,ay⟩:Z1),0)))
theorem Z0i.ok (a0:Z1) (a1:Z1):FN 93 [.agg (Zv a0),.agg (Zv a1)] [] 0 (Z0i.f a0 a1) (fun r=>.tup [.agg (Zv (r.1)),.agg (Zv (r.2.1)),qi r.2.2]) (fun r=>[]):=FT [] func93 (.rg [(0,⟨.k 0,.n⟩),(1,⟨.k 1,.n⟩),(2,⟨.k 2,.n⟩),(3,⟨.k 3,.n⟩)]<|.rg [(4,⟨.more xMin,.n⟩)]<|.bd fun aa ad=>.rg [(2,qh call135 (Z2u.ok a0 (if a1.f1<a0.f1 then a1.f1 else a0.f1) aa ad))]<|.bd fun ae af=>.rg [(2,qh call135 (Z2u.ok a1 (if a1.f1<a0.f1 then a1.f1 else a0.f1) ae af))]<|.rg [(2,⟨.more xMax,.n⟩)]<|.r0<|.cd (fun ah=>.r0<|.ret [(2,0),(3,1)] [] [] ⟨[(4,.ptr 0 0 0),(5,.ptr 1 0 0),(6,qi (if ae.2>aa.2 then ae.2 else aa.2))],[(0,some (.box 48 (Zv (⟨0,0,0,0,0,0,[],[]⟩:Z1)))),(1,some (.box 48 (Zv (⟨0,0,0,0,0,0,[],[]⟩:Z1))))],0⟩)
 (fun ah=>.bl<|.loop (.one (Z0i.l0.partial_correctness )) ((aa.1).f0,(aa.1).f1,(aa.1).f2,(aa.1).f3,(aa.1).f4,(aa.1).f5,(aa.1).f6,(aa.1).f7,(ae.1).f0,(ae.1).f1,(ae.1).f2,(ae.1).f3,(ae.1).f4,(ae.1).f5,(ae.1).f6,(ae.1).f7) [(0,4),(1,5),(2,6),(3,7)] [] [] (fun _=>.pr fun ai=>.pr fun aj=>.pr fun ak=>.pr fun al=>.pr fun am=>.pr fun an=>.pr fun aq=>.pr fun ar=>.pr fun au=>.pr fun av=>.pr fun aw=>.pr fun ax=>.pr fun ay=>.pr fun az=>.pr fun a8=>.one (fun a9=>⟨[(2,.ptr 4 0 0),(3,.ptr 5 0 0),(4,.ptr 6 0 0),(5,.ptr 7 0 0)],[(4,some (.box 48 (Zv ⟨ai,aj,ak,al,am,an,aq,ar⟩))),(5,some (.box 48 (Zv ⟨au,av,aw,ax,ay,az,a8,a9⟩))),(6,some (qk0)),(7,some (qk0))],0⟩) fun a9=>.r0<|.cd (fun ba=>.bl<|.rg [(4,⟨.more xMax,.n⟩)]<|.bd fun bb bc=>.rg [(2,qh call136 (Z1l.ok (⟨ai,aj,ak,al,am,an,aq,ar⟩:Z1) (if aw>ak then aw else ak) bb bc))]<|.bd fun be bf=>.rg [(2,qh call136 (Z1l.ok (⟨au,av,aw,ax,ay,az,a8,a9⟩:Z1) (if aw>ak then aw else ak) be bf))]<|.rg [(2,⟨.more xMax,.n⟩)]<|.r0<|.cd (fun bg=>.r0<|.ret [(6,0),(7,1)] [] [] ⟨[(4,.ptr 0 0 0),(5,.ptr 1 0 0),(6,qi (if be.2>bb.2 then be.2 else bb.2))],[(0,some (.box 48 (Zv (⟨0,0,0,0,0,0,[],[]⟩:Z1)))),(1,some (.box 48 (Zv (⟨0,0,0,0,0,0,[],[]⟩:Z1))))],0⟩)
 (fun bg=>.bk [(4,4),(5,5),(6,6),(7,7)] rfl))
 (fun ba=>.o [(4,8),(5,9),(6,10),(7,11)]))
 (.sm (.rt (fun rr=>.tup [.agg (Zv (rr.1)),.agg (Zv (rr.2.1)),qi rr.2.2]) (fun rr=>[]))
 (.pr fun bh=>.pr fun bi=>.pr fun bj=>.pr fun bn=>.pr fun bo=>.pr fun bp=>.pr fun bq=>.pr fun br=>.pr fun bu=>.pr fun bv=>.pr fun bw=>.pr fun bx=>.pr fun bz=>.pr fun ca=>.pr fun cc=>.st (.exit 0) (fun ce=>⟨[(2,.ptr 8 0 0),(3,.ptr 9 0 0),(4,.ptr 10 0 0),(5,.ptr 11 0 0)],[(8,some (.box 48 (Zv ⟨bh,bi,bj,bn,bo,bp,bq,br⟩))),(9,some (.box 48 (Zv ⟨bu,bv,bw,bx,bz,ca,cc,ce⟩))),(10,some (qk0)),(11,some (qk0))],0⟩) fun ce=>.r0<|.ret [(10,0),(11,1)] [] [] ⟨[(4,.ptr 0 0 0),(5,.ptr 1 0 0),(6,qi 0)],[(0,some (.box 48 (Zv (⟨bh,bi,bj,bn,bo,bp,bq,br⟩:Z1)))),(1,some (.box 48 (Zv (⟨bu,bv,bw,bx,bz,ca,cc,ce⟩:Z1))))],0⟩))))
def Z13.l1 (a0:List Z0) (aa:Z0) (ad:List Z0) (ae:List Z0) (af:Int) (ah:Unit):Option (((List Z0)×Bool) ⊕ Unit):=((if(decide ((ad.length:Int)>0))=true then((at? ad 0)>>=fun ai=>some (decide (ai.f0<aa.f0))) else(some false)):Option Bool)>>=fun aj=>if aj=true then(some (.inl ([],false))) else(some (.inr ()))
def Z13.l0 (a0:List Z0) (aa:List Z0) (ad:List Z0) (ae:Int):Option (((List Z0)×Bool) ⊕ ((List Z0)×(List Z0))):=if(decide (ae<(a0.length:Int)))=true then((at? a0 ae)>>=fun af=>(Z13.l1 a0 af aa ad ae ())>>=fun oo=>match oo with | .inl rr=>(some (.inl rr)) | .inr _=>(((if(decide ((aa.length:Int)>0))=true then((at? aa 0)>>=fun ah=>some (ah.f0==af.f0)) else(some false)):Option Bool)>>=fun ai=>((if ai=true then((at? aa 0)>>=fun aj=>if(decide (aj.f1>af.f1))=true then(some (.inl ([],false))) else((chk (0≤(1:Int)∧(1:Int)≤(aa.length:Int)∧(aa.length:Int)≤(aa.length:Int)))>>=fun _=>some (.inr ((aa.drop (Int.toNat (1:Int))).take ((Int.toNat (aa.length:Int))-(Int.toNat (1:Int))),u64.wrap (af.f1-aj.f1))))) else(some (.inr (aa,af.f1)))):Option (((List Z0)×Bool) ⊕ ((List Z0)×Int)))>>=fun oo=>match oo with | .inl rr=>(some (.inl rr)) | .inr (ak,al)=>((chk ((ad.length+[(⟨af.f0,al⟩:Z0)].length)*16≤140737488355328))>>=fun _=>Z13.l0 a0 ak (ad++[(⟨af.f0,al⟩:Z0)]) (i64.wrap (ae+1))))) else(some (.inr (aa,ad)))
partial_fixpoint
def Z13.f (a0:List Z0) (a1:List Z0):Option ((List Z0)×Bool):=(Z13.l0 a0 a1 [] 0)>>=fun oo=>match oo with | .inl rr=>(some rr) | .inr (aa,ad)=>(some (ad,((aa.length:Int)==0)))
theorem Z13.ok (a0:List Z0) (a1:List Z0):FN 94 [.im (.row (a0.map Z5)),.im (.row (a1.map Z5))] [] 0 (Z13.f a0 a1) (fun r=>.tup [.own 0,bV r.2]) (fun r=>[q4 0 r.1]):=FT [0] func94 (.r0<|.r0<|.rg [(1,hG Z5 a0)]<|.bl<|.loop (.c3 (Z13.l0.partial_correctness a0)) (a1,[],0) [] [] [7] (fun _=>.pr fun aa=>.pr fun ad=>.one (fun ae=>⟨[(1,.im (.row (aa.map Z5))),(6,.own 7),(9,.im (.row (a0.map Z5))),(10,qi (a0.length:Int)),(11,qi ae)],[q4 7 ad],0⟩) fun ae=>.r0<|.cd (fun af=>.bl<|.el fun ah ai aj=>.rg [(0,hA Z5 ai aj),(2,⟨.k 8,.n⟩)]<|.bl<|.loop (.no (fun p=>Z13.l1 a0 ah aa ad ae p)) () [(7,7),(8,8)] [] [] (fun _=>.one (fun ak=>⟨[(1,.im (.row (aa.map Z5))),(6,.own 7),(8,.ptr 8 0 0),(9,.im (.row (a0.map Z5))),(10,qi (a0.length:Int)),(11,qi ae)],[q4 7 ad,(8,some (.box 132 (Z6q ah)))],0⟩) fun ak=>.join (.sp (fun al=>.el fun am an aq=>.rg [(1,hG Z5 aa),(3,hB al),(5,hA Z5 an aq)]<|.o [(7,9),(8,10)])
 (fun al=>.rg [(1,hG Z5 aa),(3,hB al)]<|.o [(7,9),(8,10)]))
 (.st .normal (fun ar=>⟨[(1,.im (.row (aa.map Z5))),(6,.own 9),(8,.ptr 10 0 0),(9,.im (.row (a0.map Z5))),(10,qi (a0.length:Int)),(11,qi ae),(26,bV ar)],[q4 9 ad,(10,some (.box 132 (Z6q ah)))],0⟩) fun ar=>.cd (fun au=>.bl<|.r0<|.ret [] [] [0] ⟨[(4,.own 0),(5,bV false)],[q4 0 []],0⟩)
 (fun au=>.o [(9,11),(10,12)])))
 (.sm (.rt (fun rr=>.tup [.own 0,bV rr.2]) (fun rr=>[q4 0 rr.1]))
 (.st (.exit 2) (fun _=>⟨[(1,.im (.row (aa.map Z5))),(6,.own 11),(8,.ptr 12 0 0),(9,.im (.row (a0.map Z5))),(10,qi (a0.length:Int)),(11,qi ae)],[q4 11 ad,(12,some (.box 132 (Z6q ah)))],0⟩) fun _=>.join (.sp (fun av=>.el fun aw ax ay=>.rg [(1,hG Z5 aa),(3,hB av),(5,hA Z5 ax ay)]<|.o [(11,13),(12,14)])
 (fun av=>.rg [(1,hG Z5 aa),(3,hB av)]<|.o [(11,13),(12,14)]))
 (.st .normal (fun az=>⟨[(1,.im (.row (aa.map Z5))),(6,.own 13),(8,.ptr 14 0 0),(9,.im (.row (a0.map Z5))),(10,qi (a0.length:Int)),(11,qi ae),(38,bV az)],[q4 13 ad,(14,some (.box 132 (Z6q ah)))],0⟩) fun az=>.join (.cd (fun a8=>.el fun a9 ba bb=>.rg [(1,hA Z5 ba bb)]<|.cd (fun bc=>.r0<|.ret [] [] [0] ⟨[(4,.own 0),(5,bV false)],[q4 0 []],0⟩)
 (fun bc=>.rg [(3,hA Z5 ba bb)]<|.ck fun be=>.rg [(1,hR1 Z5 2 be)]<|.o [(13,15),(14,16)]))
 (fun a8=>.o [(13,15),(14,16)]))
 (.sm (.rt (fun rr=>.tup [.own 0,bV rr.2]) (fun rr=>[q4 0 rr.1]))
 (.pr fun bf=>.st .normal (fun bg=>⟨[(1,.im (.row (bf.map Z5))),(6,.own 15),(8,.ptr 16 0 0),(9,.im (.row (a0.map Z5))),(10,qi (a0.length:Int)),(11,qi ae)],[q4 15 ad,(16,some (.box 132 (Z6q ⟨ah.f0,bg⟩)))],0⟩) fun bg=>.ck fun bh=>.rg [(2,hQ 17 Z5 ([(⟨ah.f0,bg⟩:Z0)]:List Z0)),(3,hP 18 Z5 2 bh)]<|.r0<|.bk [(18,7)] rfl))))))
 (fun af=>.o [(7,19)]))
 (.sm (.rt (fun rr=>.tup [.own 0,bV rr.2]) (fun rr=>[q4 0 rr.1]))
 (.pr fun bi=>.st (.exit 0) (fun bj=>⟨[(1,.im (.row (bi.map Z5))),(6,.own 19)],[q4 19 bj],0⟩) fun bj=>.rg [(2,hG Z5 bi)]<|.ret [(19,0)] [] [] ⟨[(4,.own 0),(5,bV ((bi.length:Int)==0))],[q4 0 bj],0⟩)))
def Z6x.f (a0:Int) (a1:Int):Option (Int×Int):=if(decide (a1>a0))=true then(some (0,5)) else(some (u64.wrap (a0-a1),0))
theorem Z6x.ok (a0:Int) (a1:Int):FN 95 [qu a0,qu a1] [] 0 (Z6x.f a0 a1) (fun r=>.tup [qu r.1,qi r.2]) (fun r=>[]):=FT [] func95 (.r0<|.r0<|.cd (fun aa=>.r0<|.ret [] [] [] ⟨[(4,qu 0),(5,qi 5)],[],0⟩)
 (fun aa=>.r0<|.ret [] [] [] ⟨[(4,qu (u64.wrap (a0-a1))),(5,qi 0)],[],0⟩))
def Z2a.f (a0:Z1) (a1:Z1):Option (Z1×Int):=(Z53.f a0.f5 a1.f5)>>=fun aa=>(Z0i.f a0 a1)>>=fun ad=>if(ad.2.2 != 0)=true then(some ((⟨0,0,0,0,0,0,[],[]⟩:Z1),ad.2.2)) else((Z13.f ((ad.1).f6) ((ad.2.1).f6))>>=fun ae=>(Z13.f ((ad.1).f7) ((ad.2.1).f7))>>=fun af=>(Z6x.f ((ad.1).f3) ((ad.2.1).f3))>>=fun ah=>((if(!ae.2)=true then(some true) else(if(!af.2)=true then(some true) else(some (ah.2 != 0)))):Option Bool)>>=fun ai=>if ai=true then(some ((⟨0,0,0,0,0,0,[],[]⟩:Z1),21)) else(if(aa.2 != 0)=true then(some ((⟨0,0,0,0,0,0,[],[]⟩:Z1),aa.2)) else((Z2f.f (⟨(ad.1).f0,(ad.1).f1,(ad.1).f2,ah.1,(ad.1).f4,aa.1,(ad.1).f6,(ad.1).f7⟩:Z1) ae.1 af.1)>>=fun aj=>some ((aj.1),aj.2))))
theorem Z2a.ok (a0:Z1) (a1:Z1):FN 62 [.agg (Zv a0),.agg (Zv a1)] [] 0 (Z2a.f a0 a1) (fun r=>.tup [.agg (Zv (r.1)),qi r.2]) (fun r=>[]):=FT [] func62 (.rg [(0,⟨.k 0,.n⟩),(1,⟨.k 1,.n⟩),(2,⟨.k 2,.n⟩)]<|.bd fun aa ad=>.rg [(4,qh call92 (Z53.ok a0.f5 a1.f5 aa ad))]<|.bd fun ae af=>.rg [(2,qh call93 (Z0i.ok a0 a1 ae af))]<|.r0<|.cd (fun ah=>.r0<|.ret [(2,0)] [] [] ⟨[(4,.ptr 0 0 0),(5,qi ae.2.2)],[(0,some (.box 48 (Zv (⟨0,0,0,0,0,0,[],[]⟩:Z1))))],0⟩)
 (fun ah=>.bd fun ai aj=>.rg [(4,hC [] [(0,3)] [] [3] call94 (Z13.ok ((ae.1).f6) ((ae.2.1).f6) ai aj))]<|.bd fun ak al=>.rg [(4,hC [] [(0,4)] [] [4] call94 (Z13.ok ((ae.1).f7) ((ae.2.1).f7) ak al))]<|.bd fun am an=>.rg [(4,qh call95 (Z6x.ok ((ae.1).f3) ((ae.2.1).f3) am an))]<|.bl<|.join (.sp (fun aq=>.rg [(2,hB aq)]<|.o [(0,5),(2,6),(3,7),(4,8)])
 (fun aq=>.sp (fun ar=>.rg [(2,hB aq),(6,hB ar)]<|.o [(0,5),(2,6),(3,7),(4,8)])
 (fun ar=>.rg [(2,hB aq),(6,hB ar)]<|.o [(0,5),(2,6),(3,7),(4,8)])))
 (.st .normal (fun au=>⟨[(2,.ptr 5 0 0),(4,.ptr 6 0 0),(6,qi aa.1),(7,qi aa.2),(9,.own 7),(11,.own 8),(13,qu am.1),(58,bV au)],[(5,some (.box 48 (Zv (ae.1)))),(6,some (qk0)),q4 7 ai.1,q4 8 ak.1],0⟩) fun au=>.cd (fun av=>.r0<|.ret [(6,0)] [] [] ⟨[(4,.ptr 0 0 0),(5,qi 21)],[(0,some (.box 48 (Zv (⟨0,0,0,0,0,0,[],[]⟩:Z1))))],0⟩)
 (fun av=>.r0<|.cd (fun aw=>.r0<|.ret [(6,0)] [] [] ⟨[(4,.ptr 0 0 0),(5,qi aa.2)],[(0,some (.box 48 (Zv (⟨0,0,0,0,0,0,[],[]⟩:Z1))))],0⟩)
 (fun aw=>.r0<|.cv [(5,5),(6,6)] [7,8] [] ⟨[(2,.ptr 5 0 0),(4,.ptr 6 0 0),(9,.im (.row (ai.1.map Z5))),(11,.im (.row (ak.1.map Z5)))],[(5,some (.box 48 (Zv ⟨((ae.1).f0),((ae.1).f1),((ae.1).f2),am.1,((ae.1).f4),aa.1,((ae.1).f6),((ae.1).f7)⟩))),(6,some (qk0))],0⟩<|.bd fun ax ay=>.rg [(3,qh call96 (Z2f.ok (⟨(ae.1).f0,(ae.1).f1,(ae.1).f2,am.1,(ae.1).f4,aa.1,(ae.1).f6,(ae.1).f7⟩:Z1) ai.1 ak.1 ax ay))]<|.ret [(6,0)] [] [] ⟨[(4,.ptr 0 0 0),(5,qi ax.2)],[(0,some (.box 48 (Zv (ax.1))))],0⟩)))))
end Go.Proofs.YtcilcefjcaimoaaGreat.PvGQ
