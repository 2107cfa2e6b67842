import Derived.Test.YtcilcefjcaimoaaGreatProg
import Derived.Test.YtcilcefjcaimoaaGreatPxGroupSums05
set_option linter.unusedVariables false
set_option linter.unnecessarySimpa false
set_option linter.unusedSimpArgs false
set_option maxRecDepth 10000
namespace Go.Proofs.YtcilcefjcaimoaaGreat.PvGQ
open Go Go.Pv Tryz Go.IntKind
structure Z0m where
 f0:Int
 f1:Int
 f2:Int
 f3:Int
 f4:Int
 f5:Int
 f6:Int
 deriving DecidableEq,Inhabited
abbrev Z3v (x:Z0m):List AVal:=[iV .i64 x.f0,iV .u64 x.f1,iV .u64 x.f2,iV .i64 x.f3,iV .i64 x.f4,iV .i64 x.f5,iV .i64 x.f6]
structure Rr19_Ask (x:Z0m):Prop where
 r0:I64 x.f0
 r1:U64 x.f1
 r2:U64 x.f2
 r3:I64 x.f3
 r4:I64 x.f4
 r5:I64 x.f5
 r6:I64 x.f6
structure Zh where
 f0:ByteArray
 f1:ByteArray
 deriving DecidableEq,Inhabited
abbrev Zq (x:Zh):List Im:=[sI x.f0,sI x.f1]
abbrev aLabel (x:Zh):List AVal:=[sV x.f0,sV x.f1]
structure RLabel (x:Zh):Prop where
 r0:x.f0.size≤1048576
 r1:x.f1.size≤1048576
structure Z0 where
 f0:Int
 f1:Int
 deriving DecidableEq,Inhabited
abbrev Z6 (x:Z0):List Im:=[iI .i64 x.f0,iI .u64 x.f1]
abbrev Z62 (x:Z0):List AVal:=[iV .i64 x.f0,iV .u64 x.f1]
structure RBucket (x:Z0):Prop where
 r0:I64 x.f0
 r1:U64 x.f1
structure Z1 where
 f0:Int
 f1:Int
 f2:Int
 f3:Int
 f4:Int
 f5:Int
 f6:List Z0
 f7:List Z0
 deriving DecidableEq,Inhabited
abbrev Z2g (x:Z1):List Im:=[iI .i64 x.f0,iI .i64 x.f1,iI .i64 x.f2,iI .u64 x.f3,iI .u64 x.f4,iI .i64 x.f5,.row (x.f6.map Z6),.row (x.f7.map Z6)]
abbrev Zo (x:Z1):List AVal:=[iV .i64 x.f0,iV .i64 x.f1,iV .i64 x.f2,iV .u64 x.f3,iV .u64 x.f4,iV .i64 x.f5,.im (.row (x.f6.map Z6)),.im (.row (x.f7.map Z6))]
structure RHist (x:Z1):Prop where
 r0:I64 x.f0
 r1:I64 x.f1
 r2:I64 x.f2
 r3:U64 x.f3
 r4:U64 x.f4
 r5:I64 x.f5
 r6:x.f6.length≤1048576∧∀ y∈x.f6,RBucket y
 r7:x.f7.length≤1048576∧∀ y∈x.f7,RBucket y
structure Zv where
 f0:Int
 f1:Z1
 deriving DecidableEq,Inhabited
abbrev Zu (x:Zv):List Im:=[iI .i64 x.f0,iI .i64 x.f1.f0,iI .i64 x.f1.f1,iI .i64 x.f1.f2,iI .u64 x.f1.f3,iI .u64 x.f1.f4,iI .i64 x.f1.f5,.row (x.f1.f6.map Z6),.row (x.f1.f7.map Z6)]
structure RSample (x:Zv):Prop where
 r0:I64 x.f0
 r1:RHist x.f1
structure Zi where
 f0:List Zh
 f1:List Zv
 deriving DecidableEq,Inhabited
abbrev Zk (x:Zi):List Im:=[.row (x.f0.map Zq),.row (x.f1.map Zu)]
abbrev Zb2 (x:Zi):List AVal:=[.im (.row (x.f0.map Zq)),.im (.row (x.f1.map Zu))]
structure RSeries (x:Zi):Prop where
 r0:x.f0.length≤1048576∧∀ y∈x.f0,RLabel y
 r1:x.f1.length≤1048576∧∀ y∈x.f1,RSample y
structure Zx where
 f0:Int
 f1:Int
 deriving DecidableEq,Inhabited
abbrev Z7w (x:Zx):List AVal:=[iV .i64 x.f0,iV .i64 x.f1]
structure Rrank_Place (x:Zx):Prop where
 r0:I64 x.f0
 r1:I64 x.f1
structure Z1d where
 f0:Int
 f1:Int
 f2:Int
 f3:Zx
 f4:Int
 f5:Int
 deriving DecidableEq,Inhabited
structure Reval_Ask (x:Z1d):Prop where
 r0:I64 x.f0
 r1:U64 x.f1
 r2:U64 x.f2
 r3:Rrank_Place x.f3
 r4:I64 x.f4
 r5:I64 x.f5
structure Z5s where
 f0:Int
 f1:Int
 deriving DecidableEq,Inhabited
abbrev Z8j (x:Z5s):List AVal:=[iV .u64 x.f0,iV .u64 x.f1]
structure Rnum_Wide (x:Z5s):Prop where
 r0:U64 x.f0
 r1:U64 x.f1
structure Z8 where
 f0:Int
 f1:Int
 f2:Int
 deriving DecidableEq,Inhabited
abbrev Z2n (x:Z8):List AVal:=[iV .i64 x.f0,iV .i64 x.f1,iV .i64 x.f2]
structure Zby (x:Z8):Prop where
 r0:I64 x.f0
 r1:I64 x.f1
 r2:I64 x.f2
structure Zl where
 f0:Z8
 f1:Int
 deriving DecidableEq,Inhabited
abbrev Z33 (x:Zl):List Im:=[iI .i64 x.f0.f0,iI .i64 x.f0.f1,iI .i64 x.f0.f2,iI .u64 x.f1]
structure Rrank_Cell (x:Zl):Prop where
 r0:Zby x.f0
 r1:U64 x.f1
structure Zb where
 f0:Int
 f1:Int
 f2:Int
 deriving DecidableEq,Inhabited
abbrev Z3e (x:Zb):List AVal:=[iV .u64 x.f0,iV .u64 x.f1,iV .u64 x.f2]
structure Rrank_Part (x:Zb):Prop where
 r0:U64 x.f0
 r1:U64 x.f1
 r2:U64 x.f2
structure Z7 where
 f0:Z1
 f1:Int
 f2:Int
 f3:Z8
 f4:Zb
 deriving DecidableEq,Inhabited
structure Reval_Answer (x:Z7):Prop where
 r0:RHist x.f0
 r1:I64 x.f1
 r2:U64 x.f2
 r3:Zby x.f3
 r4:Rrank_Part x.f4
structure Z16 where
 f0:List Zh
 f1:Z7
 f2:Int
 deriving DecidableEq,Inhabited
abbrev Z0o (x:Z16):List Im:=[.row (x.f0.map Zq),iI .i64 x.f1.f0.f0,iI .i64 x.f1.f0.f1,iI .i64 x.f1.f0.f2,iI .u64 x.f1.f0.f3,iI .u64 x.f1.f0.f4,iI .i64 x.f1.f0.f5,.row (x.f1.f0.f6.map Z6),.row (x.f1.f0.f7.map Z6),iI .i64 x.f1.f1,iI .u64 x.f1.f2,iI .i64 x.f1.f3.f0,iI .i64 x.f1.f3.f1,iI .i64 x.f1.f3.f2,iI .u64 x.f1.f4.f0,iI .u64 x.f1.f4.f1,iI .u64 x.f1.f4.f2,iI .i64 x.f2]
structure Rgroup_Row (x:Z16):Prop where
 r0:x.f0.length≤1048576∧∀ y∈x.f0,RLabel y
 r1:Reval_Answer x.f1
 r2:I64 x.f2
structure Z4 where
 f0:Int
 f1:Int
 f2:Int
 f3:Int
 deriving DecidableEq,Inhabited
abbrev Z1z (x:Z4):List Im:=[iI .i64 x.f0,iI .i64 x.f1,iI .i64 x.f2,iI .u64 x.f3]
abbrev Z40 (x:Z4):List AVal:=[iV .i64 x.f0,iV .i64 x.f1,iV .i64 x.f2,iV .u64 x.f3]
structure Rr08_Cell (x:Z4):Prop where
 r0:I64 x.f0
 r1:I64 x.f1
 r2:I64 x.f2
 r3:U64 x.f3
structure S90 where
 f0:Int
 f1:Int
 f2:Int
 deriving DecidableEq,Inhabited
structure R90 (x:S90):Prop where
 r0:U64 x.f0
 r1:U64 x.f1
 r2:U64 x.f2
structure Z2 where
 f0:Z1
 f1:Int
 f2:Int
 f3:Z4
 f4:S90
 deriving DecidableEq,Inhabited
structure Rr19_Answer (x:Z2):Prop where
 r0:RHist x.f0
 r1:I64 x.f1
 r2:U64 x.f2
 r3:Rr08_Cell x.f3
 r4:R90 x.f4
structure Tr20_Row where
 f0:List Zh
 f1:Z2
 f2:Int
 deriving DecidableEq,Inhabited
structure Rr20_Row (x:Tr20_Row):Prop where
 r0:x.f0.length≤1048576∧∀ y∈x.f0,RLabel y
 r1:Rr19_Answer x.f1
 r2:I64 x.f2
theorem hmx:Tryz.prog.follows .mixedOrders=true:=by kernel_rfl
abbrev FN (f:Nat) (A:List AVal) (O:List (Nat×Option MObj)) (k:Nat) {ρ:Type} (y:Option ρ) (x:ρ→AVal) (o:ρ→List (Nat×Option MObj)):Prop:=∀ r,y=some r→Pv.Fn Tryz.prog f A O k (fun a b=>a=x r∧b=o r)
theorem FT {f:Nat} {fn:Func} {c:Code} {A:List AVal} {O:List (Nat×Option MObj)} {k:Nat} {ρ:Type} {y:Option ρ} {x:ρ→AVal} {o:ρ→List (Nat×Option MObj)} (keys:List Nat) (hf:Tryz.prog.funcs[f]? = some fn) (t:HT (fun q:Empty=>(nomatch q:Option ρ)) y) (hb:fn.body=some c:=by rfl) (hn:Nat.ble A.length fn.ntmps=true:=by rfl) (hk:t.chk ⟨Tryz.prog,fn.ntmps,fn,k,keys⟩ 0 (fun r=>.ret (x r) (o r)) (fun q=>nomatch q) c [] ⟨Z4n A 0,O,k⟩=t.sk ⟨Tryz.prog,fn.ntmps,fn,k,keys⟩ 0 (fun r=>.ret (x r) (o r)) (fun q=>nomatch q):=by kernel_rfl):FN f A O k y x o:=fun r H=>HT.fn H x o keys hf hb hn hmx t hk
abbrev qi:Int→AVal:=iV .i64
abbrev qu:Int→AVal:=iV .u64
abbrev qh {P:Program} {g:Nat} {args:List AVal} {ob:List (Nat×Option MObj)} {floor:Nat} {r:AVal} {o:List (Nat×Option MObj)} (h1:Enters P g) (h2:Pv.Fn P g args ob floor (fun x y=>x=r∧y=o)):HI:=hC [] [] [] [] h1 h2
abbrev qe:=Z89 .i64
abbrev qv:=Z89 .u64
abbrev qb:=Z89 .u8
abbrev qx (a b:Int):Int:=((BitVec.toNat (BitVec.ofInt 64 a ^^^ BitVec.ofInt 64 b):Nat):Int)
abbrev qf (n:Nat):Im:=.sc (.func (.func n) #[] #[])
abbrev RW {α:Type} (w t:Nat) (e:α→List Im) (k:Nat) (x:List α):Nat×Option MObj:=(k,some (.row w t (x.map e)))
abbrev fgI (k:Nat) (ids:List Nat) (h:HI):HI:=⟨.more (xFzG k ids h.h),h.l⟩
def Z2l.l0 (a0:List Zh) (x15:Int) (x16:Int):Option Int:=if(decide (x16<(a0.length:Int)))=true then((at? a0 x16)>>=fun b21=>Z2l.l0 a0 (i64.wrap (x15+(i64.wrap ((i64.wrap ((b21.f0.size:Int)+(b21.f1.size:Int)))+1)))) (i64.wrap (x16+1))) else(some x15)
partial_fixpoint
def Z2l.f (a0:List Zh):Option Bool:=(Z2l.l0 a0 0 0)>>=fun x24=>some (decide (x24≤3000))
theorem Z2l.ok (a0:List Zh):FN 22 [.im (.row (a0.map Zq))] [] 0 (Z2l.f a0) (fun r=>bV r) (fun r=>[]):=FT [] func22 (.r0<|.r0<|.rg [(1,hG Zq a0)]<|.bl<|.loop (.c2 (Z2l.l0.partial_correctness a0)) (0,0) [] [] [] (fun _=>.pr fun x15=>.one (fun x16=>⟨[(3,qi x15),(6,.im (.row (a0.map Zq))),(7,qi (a0.length:Int)),(8,qi x16)],[],0⟩) fun x16=>.r0<|.cd (fun c17=>.bl<|.el fun b21 p22 q23=>.rg [(0,hA Zq p22 q23),(2,⟨.k 1,.n⟩)]<|.r0<|.r0<|.bk [] rfl)
 (fun c17=>.o []))
 (.st (.exit 0) (fun x24=>⟨[(3,qi x24)],[],0⟩) fun x24=>.r0<|.ret [] [] [] ⟨[(2,bV (decide (x24≤3000)))],[],0⟩))
def Z2j.l0 (a0:ByteArray) (aa:Int):Option (Bool ⊕ Unit):=if(decide (aa<(a0.size:Int)))=true then((chk (0≤aa∧aa<(a0.size:Int)))>>=fun _=>((if((bt a0 aa)==95)=true then(some true) else(if(decide ((bt a0 aa)≥65))=true then(if(decide ((bt a0 aa)≤90))=true then(some true) else(if(decide ((bt a0 aa)≥97))=true then(if(decide ((bt a0 aa)≤122))=true then(some true) else(if(decide (aa>0))=true then(if(decide ((bt a0 aa)≥48))=true then(some (decide ((bt a0 aa)≤57))) else(some false)) else(some false))) else(if(decide (aa>0))=true then(if(decide ((bt a0 aa)≥48))=true then(some (decide ((bt a0 aa)≤57))) else(some false)) else(some false)))) else(if(decide ((bt a0 aa)≥97))=true then(if(decide ((bt a0 aa)≤122))=true then(some true) else(if(decide (aa>0))=true then(if(decide ((bt a0 aa)≥48))=true then(some (decide ((bt a0 aa)≤57))) else(some false)) else(some false))) else(if(decide (aa>0))=true then(if(decide ((bt a0 aa)≥48))=true then(some (decide ((bt a0 aa)≤57))) else(some false)) else(some false))))):Option Bool)>>=fun ad=>if(!ad)=true then(some (.inl false)) else(Z2j.l0 a0 (i64.wrap (aa+1)))) else(some (.inr ()))
partial_fixpoint
def Z2j.f (a0:ByteArray):Option Bool:=((if(decide ((a0.size:Int)<1))=true then(some true) else(some (decide ((a0.size:Int)>64)))):Option Bool)>>=fun x91=>if x91=true then(some false) else((Z2j.l0 a0 0)>>=fun oo=>match oo with | .inl rr=>(some rr) | .inr _=>(some true))
theorem Z2j.ok (a0:ByteArray):FN 71 [sV a0] [] 0 (Z2j.f a0) (fun r=>bV r) (fun r=>[]):=FT [] func71 (.r0<|.join (.sp (fun c90=>.rg [(3,hB c90)]<|.o [])
 (fun c90=>.rg [(3,hB c90)]<|.o []))
 (.st .normal (fun x91=>⟨[(0,sV a0),(13,bV x91)],[],0⟩) fun x91=>.cd (fun c92=>.r0<|.ret [] [] [] ⟨[(2,bV false)],[],0⟩)
 (fun c92=>.r0<|.bl<|.loop (.one (Z2j.l0.partial_correctness a0)) 0 [] [] [] (fun _=>.one (fun aa=>⟨[(0,sV a0),(3,qi aa)],[],0⟩) fun aa=>.r0<|.cd (fun ad=>.bl<|.ck fun ae=>.rg [(2,hN (p2 ae))]<|.join (.sp (fun af=>.rg [(2,hB af)]<|.o [])
 (fun af=>.sp (fun ah=>.sp (fun ai=>.rg [(2,hB af),(5,hB ah),(10,hB ai)]<|.o [])
 (fun ai=>.sp (fun aj=>.sp (fun ak=>.rg [(2,hB af),(5,hB ah),(10,hB ai),(13,hB aj),(18,hB ak)]<|.o [])
 (fun ak=>.sp (fun al=>.sp (fun am=>.rg [(2,hB af),(5,hB ah),(10,hB ai),(13,hB aj),(18,hB ak),(21,hB al),(25,hB am)]<|.o [])
 (fun am=>.rg [(2,hB af),(5,hB ah),(10,hB ai),(13,hB aj),(18,hB ak),(21,hB al),(25,hB am)]<|.o []))
 (fun al=>.rg [(2,hB af),(5,hB ah),(10,hB ai),(13,hB aj),(18,hB ak),(21,hB al)]<|.o [])))
 (fun aj=>.sp (fun an=>.sp (fun ap=>.rg [(2,hB af),(5,hB ah),(10,hB ai),(13,hB aj),(21,hB an),(25,hB ap)]<|.o [])
 (fun ap=>.rg [(2,hB af),(5,hB ah),(10,hB ai),(13,hB aj),(21,hB an),(25,hB ap)]<|.o []))
 (fun an=>.rg [(2,hB af),(5,hB ah),(10,hB ai),(13,hB aj),(21,hB an)]<|.o []))))
 (fun ah=>.sp (fun aq=>.sp (fun ar=>.rg [(2,hB af),(5,hB ah),(13,hB aq),(18,hB ar)]<|.o [])
 (fun ar=>.sp (fun au=>.sp (fun av=>.rg [(2,hB af),(5,hB ah),(13,hB aq),(18,hB ar),(21,hB au),(25,hB av)]<|.o [])
 (fun av=>.rg [(2,hB af),(5,hB ah),(13,hB aq),(18,hB ar),(21,hB au),(25,hB av)]<|.o []))
 (fun au=>.rg [(2,hB af),(5,hB ah),(13,hB aq),(18,hB ar),(21,hB au)]<|.o [])))
 (fun aq=>.sp (fun aw=>.sp (fun ax=>.rg [(2,hB af),(5,hB ah),(13,hB aq),(21,hB aw),(25,hB ax)]<|.o [])
 (fun ax=>.rg [(2,hB af),(5,hB ah),(13,hB aq),(21,hB aw),(25,hB ax)]<|.o []))
 (fun aw=>.rg [(2,hB af),(5,hB ah),(13,hB aq),(21,hB aw)]<|.o [])))))
 (.st .normal (fun ay=>⟨[(0,sV a0),(3,qi aa),(5,bV ay)],[],0⟩) fun ay=>.r0<|.cd (fun az=>.r0<|.ret [] [] [] ⟨[(2,bV false)],[],0⟩)
 (fun az=>.r0<|.bk [] rfl)))
 (fun ad=>.o []))
 (.sm (.rt (fun rr=>bV rr) (fun rr=>[]))
 (.st (.exit 0) (fun _=>⟨[],[],0⟩) fun _=>.r0<|.ret [] [] [] ⟨[(2,bV true)],[],0⟩)))))
def Z20.l0 (a0:List Zh) (aa:Int):Option (Int ⊕ Unit):=if(decide (aa<(a0.length:Int)))=true then((((at? a0 aa)>>=fun ad=>(Z2j.f ad.f0)>>=fun ae=>if(!ae)=true then(some true) else(if(decide ((ad.f1.size:Int)<1))=true then(some true) else(some (decide ((ad.f1.size:Int)>64))))):Option Bool)>>=fun af=>if af=true then(some (.inl 26)) else(((if(decide (aa>0))=true then((at? a0 (i64.wrap (aa-1)))>>=fun ah=>(at? a0 aa)>>=fun ai=>some (!(Op.bytesLess ah.f0.toList ai.f0.toList))) else(some false)):Option Bool)>>=fun aj=>if aj=true then(some (.inl 26)) else(Z20.l0 a0 (i64.wrap (aa+1))))) else(some (.inr ()))
partial_fixpoint
def Z20.f (a0:List Zh):Option Int:=if(decide ((a0.length:Int)>16))=true then(some 9) else((Z20.l0 a0 0)>>=fun oo=>match oo with | .inl rr=>(some rr) | .inr _=>(some 0))
theorem Z20.ok (a0:List Zh):FN 45 [.im (.row (a0.map Zq))] [] 0 (Z20.f a0) (fun r=>qi r) (fun r=>[]):=FT [] func45 (.r0<|.rg [(1,hG Zq a0)]<|.cd (fun c84=>.r0<|.ret [] [] [] ⟨[(2,qi 9)],[],0⟩)
 (fun c84=>.r0<|.bl<|.loop (.one (Z20.l0.partial_correctness a0)) 0 [] [] [] (fun _=>.one (fun aa=>⟨[(0,.im (.row (a0.map Zq))),(3,qi aa)],[],0⟩) fun aa=>.rg [(2,hG Zq a0)]<|.cd (fun ad=>.bl<|.join (.el fun ae af ah=>.bd fun ai aj=>.sp (fun ak=>.rg [(2,hA Zq af ah),(5,qh call71 (Z2j.ok ae.f0 ai aj)),(7,hB ak)]<|.o [])
 (fun ak=>.sp (fun al=>.rg [(2,hA Zq af ah),(5,qh call71 (Z2j.ok ae.f0 ai aj)),(7,hB ak),(10,hA Zq af ah),(16,hB al)]<|.o [])
 (fun al=>.rg [(2,hA Zq af ah),(5,qh call71 (Z2j.ok ae.f0 ai aj)),(7,hB ak),(10,hA Zq af ah),(16,hB al),(19,hA Zq af ah)]<|.o [])))
 (.st .normal (fun am=>⟨[(0,.im (.row (a0.map Zq))),(3,qi aa),(37,bV am)],[],0⟩) fun am=>.cd (fun an=>.r0<|.ret [] [] [] ⟨[(2,qi 26)],[],0⟩)
 (fun an=>.join (.sp (fun ap=>.el fun aq ar au=>.el fun av aw ax=>.rg [(2,hB ap),(6,hA Zq ar au),(11,hA Zq aw ax)]<|.o [])
 (fun ap=>.rg [(2,hB ap)]<|.o []))
 (.st .normal (fun ay=>⟨[(0,.im (.row (a0.map Zq))),(3,qi aa),(54,bV ay)],[],0⟩) fun ay=>.cd (fun az=>.r0<|.ret [] [] [] ⟨[(2,qi 26)],[],0⟩)
 (fun az=>.r0<|.bk [] rfl)))))
 (fun ad=>.o []))
 (.sm (.rt (fun rr=>qi rr) (fun rr=>[]))
 (.st (.exit 0) (fun _=>⟨[],[],0⟩) fun _=>.r0<|.ret [] [] [] ⟨[(2,qi 0)],[],0⟩))))
def Z42.f (a0:Int):Option Bool:=((if(decide (a0≥0))=true then(some (decide (a0≤1099511627776))) else(some false)):Option Bool)>>=fun aa=>some aa
theorem Z42.ok (a0:Int):FN 72 [qi a0] [] 0 (Z42.f a0) (fun r=>bV r) (fun r=>[]):=FT [] func72 (.r0<|.join (.sp (fun aa=>.rg [(2,hB aa)]<|.o [])
 (fun aa=>.rg [(2,hB aa)]<|.o []))
 (.st .normal (fun ad=>⟨[(2,bV ad)],[],0⟩) fun ad=>.ret [] [] [] ⟨[(2,bV ad)],[],0⟩))
def Z08.f (a0:Int):Option Bool:=((if(decide (a0≥(-4)))=true then(some (decide (a0≤8))) else(some false)):Option Bool)>>=fun aa=>some aa
theorem Z08.ok (a0:Int):FN 112 [qi a0] [] 0 (Z08.f a0) (fun r=>bV r) (fun r=>[]):=FT [] func112 (.r0<|.join (.sp (fun aa=>.rg [(2,hB aa)]<|.o [])
 (fun aa=>.rg [(2,hB aa)]<|.o []))
 (.st .normal (fun ad=>⟨[(2,bV ad)],[],0⟩) fun ad=>.ret [] [] [] ⟨[(2,bV ad)],[],0⟩))
def Z2k.l0 (aa:Int) (ad:Int):Option Int:=if(decide (ad<8))=true then(Z2k.l0  (i64.wrap (aa*2)) (i64.wrap (ad+1))) else(some aa)
partial_fixpoint
def Z2k.f (a0:Int):Option Int:=(Z2k.l0  1 a0)>>=fun aa=>some aa
theorem Z2k.ok (a0:Int):FN 147 [qi a0] [] 0 (Z2k.f a0) (fun r=>qi r) (fun r=>[]):=FT [] func147 (.r0<|.r0<|.r0<|.bl<|.loop (.c2 (Z2k.l0.partial_correctness )) (1,a0) [] [] [] (fun _=>.pr fun aa=>.one (fun ad=>⟨[(3,qi aa),(4,qi ad)],[],0⟩) fun ad=>.r0<|.cd (fun ae=>.bl<|.r0<|.r0<|.bk [] rfl)
 (fun ae=>.o []))
 (.st (.exit 0) (fun af=>⟨[(3,qi af)],[],0⟩) fun af=>.r0<|.ret [] [] [] ⟨[(2,qi af)],[],0⟩))
def Zz.f (a0:Int) (a1:Int):Option Int:=(Z08.f a0)>>=fun aa=>if(!aa)=true then(some 0) else((Z2k.f a0)>>=fun ad=>some (i64.wrap (a1*ad)))
theorem Zz.ok (a0:Int) (a1:Int):FN 114 [qi a0,qi a1] [] 0 (Zz.f a0 a1) (fun r=>qi r) (fun r=>[]):=FT [] func114 (.r0<|.bd fun aa ad=>.rg [(1,qh call112 (Z08.ok a0 aa ad))]<|.cd (fun ae=>.r0<|.ret [] [] [] ⟨[(4,qi 0)],[],0⟩)
 (fun ae=>.bd fun af ah=>.rg [(2,qh call147 (Z2k.ok a0 af ah))]<|.ret [] [] [] ⟨[(4,qi (i64.wrap (a1*af)))],[],0⟩))
def Z5w.f (a0:Int) (a1:Int):Option Bool:=(((Z08.f a0)>>=fun aa=>if aa=true then(if(decide (a1>(-262144)))=true then(if(decide (a1≤262144))=true then((Zz.f a0 a1)>>=fun ad=>if(decide (ad>(-262144)))=true then((Zz.f a0 a1)>>=fun ae=>some (decide (ae≤262144))) else(some false)) else(some false)) else(some false)) else(some false)):Option Bool)>>=fun af=>some af
theorem Z5w.ok (a0:Int) (a1:Int):FN 113 [qi a0,qi a1] [] 0 (Z5w.f a0 a1) (fun r=>bV r) (fun r=>[]):=FT [] func113 (.r0<|.join (.bd fun aa ad=>.sp (fun ae=>.sp (fun af=>.sp (fun ah=>.bd fun ai aj=>.sp (fun ak=>.bd fun al am=>.rg [(1,qh call112 (Z08.ok a0 aa ad)),(2,hB ae),(6,hB af),(10,hB ah),(13,qh call114 (Zz.ok a0 a1 ai aj)),(16,hB ak),(19,qh call114 (Zz.ok a0 a1 al am))]<|.o [])
 (fun ak=>.rg [(1,qh call112 (Z08.ok a0 aa ad)),(2,hB ae),(6,hB af),(10,hB ah),(13,qh call114 (Zz.ok a0 a1 ai aj)),(16,hB ak)]<|.o []))
 (fun ah=>.rg [(1,qh call112 (Z08.ok a0 aa ad)),(2,hB ae),(6,hB af),(10,hB ah)]<|.o []))
 (fun af=>.rg [(1,qh call112 (Z08.ok a0 aa ad)),(2,hB ae),(6,hB af)]<|.o []))
 (fun ae=>.rg [(1,qh call112 (Z08.ok a0 aa ad)),(2,hB ae)]<|.o []))
 (.st .normal (fun an=>⟨[(4,bV an)],[],0⟩) fun an=>.ret [] [] [] ⟨[(4,bV an)],[],0⟩))
def Z2c.l0 (a0:List Int) (aa:Int) (ad:Int):Option ((Int×Int) ⊕ Int):=if(decide (ad<(a0.length:Int)))=true then((at? a0 ad)>>=fun ae=>if(decide (ae>(u64.wrap ((18446744073709551615:Int)-aa))))=true then(some (.inl (0,5))) else(Z2c.l0 a0 (u64.wrap (aa+ae)) (i64.wrap (ad+1)))) else(some (.inr aa))
partial_fixpoint
def Z2c.f (a0:List Int):Option (Int×Int):=(Z2c.l0 a0 0 0)>>=fun oo=>match oo with | .inl rr=>(some rr) | .inr aa=>(some (aa,0))
theorem Z2c.ok (a0:List Int):FN 115 [.im (.row (a0.map qv))] [] 0 (Z2c.f a0) (fun r=>.tup [qu r.1,qi r.2]) (fun r=>[]):=FT [] func115 (.r0<|.r0<|.r0<|.bl<|.loop (.c2 (Z2c.l0.partial_correctness a0)) (0,0) [] [] [] (fun _=>.pr fun aa=>.one (fun ad=>⟨[(0,.im (.row (a0.map qv))),(4,qu aa),(5,qi ad)],[],0⟩) fun ad=>.rg [(2,hG qv a0)]<|.cd (fun ae=>.bl<|.el fun af ah ai=>.rg [(2,hA qv ah ai)]<|.cd (fun aj=>.r0<|.ret [] [] [] ⟨[(2,qu 0),(3,qi 5)],[],0⟩)
 (fun aj=>.rg [(3,hA qv ah ai)]<|.r0<|.bk [] rfl))
 (fun ae=>.o []))
 (.sm (.rt (fun rr=>.tup [qu rr.1,qi rr.2]) (fun rr=>[]))
 (.st (.exit 0) (fun ak=>⟨[(4,qu ak)],[],0⟩) fun ak=>.r0<|.ret [] [] [] ⟨[(2,qu ak),(3,qi 0)],[],0⟩)))
def Z0k.l1 (a0:Z1) (aa:Int) (ad:List Z0) (ae:List Int) (af:Int):Option (Int ⊕ (List Int)):=if(decide (af<(ad.length:Int)))=true then((at? ad af)>>=fun ah=>(Z5w.f a0.f1 ah.f0)>>=fun ai=>if(!ai)=true then(some (.inl 4)) else(((if(decide (af>0))=true then((at? ad (i64.wrap (af-1)))>>=fun aj=>some (decide (ah.f0≤aj.f0))) else(some false)):Option Bool)>>=fun ak=>if ak=true then(some (.inl 32)) else(if(ah.f1==0)=true then(some (.inl 21)) else((Zz.f a0.f1 (i64.wrap (ah.f0-1)))>>=fun al=>if(decide (al<a0.f2))=true then(some (.inl 31)) else((chk ((ae.length+[ah.f1].length)*8≤140737488355328))>>=fun _=>Z0k.l1 a0 aa ad (ae++[ah.f1]) (i64.wrap (af+1))))))) else(some (.inr ae))
partial_fixpoint
def Z0k.l0 (a0:Z1) (aa:List Int) (ad:Int):Option (Int ⊕ (List Int)):=if(decide (ad<2))=true then(((if(ad==1)=true then(some a0.f7) else(some a0.f6)):Option (List Z0))>>=fun ae=>if(decide ((ae.length:Int)>512))=true then(some (.inl 9)) else((Z0k.l1 a0 ad ae aa 0)>>=fun oo=>match oo with | .inl rr=>(some (.inl rr)) | .inr af=>(Z0k.l0 a0 af (i64.wrap (ad+1))))) else(some (.inr aa))
partial_fixpoint
def Z0k.f (a0:Z1):Option Int:=((if(a0.f0 != 0)=true then(some (a0.f0 != 1)) else(some false)):Option Bool)>>=fun aa=>if aa=true then(some 25) else((Z08.f a0.f1)>>=fun ad=>if(!ad)=true then(some 20) else(((if(a0.f2 != (-524288))=true then(if(decide (a0.f2≤(-262144)))=true then(some true) else(some (decide (a0.f2>262144)))) else(some false)):Option Bool)>>=fun ae=>if ae=true then(some 31) else((Z0k.l0 a0 [a0.f3] 0)>>=fun oo=>match oo with | .inl rr=>(some rr) | .inr af=>((Z2c.f af)>>=fun ah=>if(ah.2 != 0)=true then(some 5) else(if(ah.1 != a0.f4)=true then(some 21) else(some 0))))))
abbrev q0:=@RW _ 1 22 qv
theorem Z0k.ok (a0:Z1):FN 73 [.agg (Zo a0)] [] 0 (Z0k.f a0) (fun r=>qi r) (fun r=>[]):=FT [] func73 (.rg [(0,⟨.k 0,.n⟩)]<|.join (.sp (fun aa=>.rg [(3,hB aa)]<|.o [(0,1)])
 (fun aa=>.rg [(3,hB aa)]<|.o [(0,1)]))
 (.st .normal (fun ad=>⟨[(1,.ptr 1 0 0),(16,bV ad)],[(1,some (.box 48 (Zo a0)))],0⟩) fun ad=>.cd (fun ae=>.r0<|.ret [] [] [] ⟨[(2,qi 25)],[],0⟩)
 (fun ae=>.bd fun af ah=>.rg [(2,qh call112 (Z08.ok a0.f1 af ah))]<|.cd (fun ai=>.r0<|.ret [] [] [] ⟨[(2,qi 20)],[],0⟩)
 (fun ai=>.join (.sp (fun aj=>.sp (fun ak=>.rg [(3,hB aj),(7,hB ak)]<|.o [(1,2)])
 (fun ak=>.rg [(3,hB aj),(7,hB ak)]<|.o [(1,2)]))
 (fun aj=>.rg [(3,hB aj)]<|.o [(1,2)]))
 (.st .normal (fun al=>⟨[(1,.ptr 2 0 0),(33,bV al)],[(2,some (.box 48 (Zo a0)))],0⟩) fun al=>.cd (fun am=>.r0<|.ret [] [] [] ⟨[(2,qi 31)],[],0⟩)
 (fun am=>.rg [(2,hQ 3 qv ([a0.f3]:List Int))]<|.r0<|.bl<|.loop (.c2 (Z0k.l0.partial_correctness a0)) ([a0.f3],0) [(2,14),(3,15)] [] [] (fun _=>.pr fun an=>.one (fun ap=>⟨[(1,.ptr 14 0 0),(3,.own 15),(4,qi ap)],[(14,some (.box 48 (Zo a0))),q0 15 an],0⟩) fun ap=>.r0<|.cd (fun aq=>.bl<|.r0<|.r0<|.join (.cd (fun ar=>.r0<|.o [(14,16),(15,17)])
 (fun ar=>.o [(14,16),(15,17)]))
 (.st .normal (fun au=>⟨[(1,.ptr 16 0 0),(3,.own 17),(4,qi ap),(5,.im (.row (au.map Z6)))],[(16,some (.box 48 (Zo a0))),q0 17 an],0⟩) fun au=>.rg [(1,hG Z6 au)]<|.cd (fun av=>.r0<|.ret [] [] [] ⟨[(2,qi 9)],[],0⟩)
 (fun av=>.r0<|.bl<|.loop (.c2 (Z0k.l1.partial_correctness a0 ap au)) (an,0) [(16,20),(17,21)] [] [] (fun _=>.pr fun aw=>.one (fun ax=>⟨[(1,.ptr 20 0 0),(3,.own 21),(4,qi ap),(5,.im (.row (au.map Z6))),(6,qi ax)],[(20,some (.box 48 (Zo a0))),q0 21 aw],0⟩) fun ax=>.rg [(2,hG Z6 au)]<|.cd (fun ay=>.bl<|.el fun az a8 a9=>.bd fun ba bb=>.rg [(4,hA Z6 a8 a9),(7,qh call113 (Z5w.ok a0.f1 az.f0 ba bb))]<|.cd (fun bc=>.r0<|.ret [] [] [] ⟨[(2,qi 4)],[],0⟩)
 (fun bc=>.join (.sp (fun be=>.el fun bf bg bh=>.rg [(2,hB be),(5,hA Z6 a8 a9),(11,hA Z6 bg bh)]<|.o [(20,22),(21,23)])
 (fun be=>.rg [(2,hB be)]<|.o [(20,22),(21,23)]))
 (.st .normal (fun bi=>⟨[(1,.ptr 22 0 0),(3,.own 23),(4,qi ap),(5,.im (.row (au.map Z6))),(6,qi ax),(80,bV bi)],[(22,some (.box 48 (Zo a0))),q0 23 aw],0⟩) fun bi=>.cd (fun bj=>.r0<|.ret [] [] [] ⟨[(2,qi 32)],[],0⟩)
 (fun bj=>.rg [(2,hA Z6 a8 a9)]<|.cd (fun bn=>.r0<|.ret [] [] [] ⟨[(2,qi 21)],[],0⟩)
 (fun bn=>.bd fun bo bp=>.rg [(4,hA Z6 a8 a9),(8,qh call114 (Zz.ok a0.f1 (i64.wrap (az.f0-1)) bo bp))]<|.cd (fun bq=>.r0<|.ret [] [] [] ⟨[(2,qi 31)],[],0⟩)
 (fun bq=>.ck fun br=>.rg [(3,hA Z6 a8 a9),(6,hQ 24 qv ([az.f1]:List Int)),(7,hP 25 qv 1 br)]<|.r0<|.bk [(22,20),(25,21)] rfl))))))
 (fun ay=>.o [(20,26),(21,27)]))
 (.sm (.rt (fun rr=>qi rr) (fun rr=>[]))
 (.st (.exit 2) (fun bu=>⟨[(1,.ptr 26 0 0),(3,.own 27),(4,qi ap)],[(26,some (.box 48 (Zo a0))),q0 27 bu],0⟩) fun bu=>.r0<|.bk [(26,14),(27,15)] rfl)))))
 (fun aq=>.o [(14,28),(15,29)]))
 (.sm (.rt (fun rr=>qi rr) (fun rr=>[]))
 (.st (.exit 0) (fun bv=>⟨[(1,.ptr 28 0 0),(3,.own 29)],[(28,some (.box 48 (Zo a0))),q0 29 bv],0⟩) fun bv=>.bd fun bw bx=>.rg [(1,hC [] [] [29] [] call115 (Z2c.ok bv bw bx))]<|.r0<|.cd (fun bz=>.r0<|.ret [] [] [] ⟨[(2,qi 5)],[],0⟩)
 (fun bz=>.r0<|.cd (fun ca=>.r0<|.ret [] [] [] ⟨[(2,qi 21)],[],0⟩)
 (fun ca=>.r0<|.ret [] [] [] ⟨[(2,qi 0)],[],0⟩))))))))))
def Z1m.l0 (a0:List Zv) (aa:Int):Option (Bool ⊕ Unit):=if(decide (aa<(a0.length:Int)))=true then((((at? a0 aa)>>=fun ad=>(Z42.f ad.f0)>>=fun ae=>if(!ae)=true then(some true) else((Z0k.f ad.f1)>>=fun af=>if(af != 0)=true then(some true) else(if(decide (aa>0))=true then((at? a0 (i64.wrap (aa-1)))>>=fun ah=>some (decide (ad.f0≤ah.f0))) else(some false)))):Option Bool)>>=fun ai=>if ai=true then(some (.inl false)) else(Z1m.l0 a0 (i64.wrap (aa+1)))) else(some (.inr ()))
partial_fixpoint
def Z1m.f (a0:List Zv):Option Bool:=(Z1m.l0 a0 0)>>=fun oo=>match oo with | .inl rr=>(some rr) | .inr _=>(some true)
theorem Z1m.ok (a0:List Zv):FN 46 [.im (.row (a0.map Zu))] [] 0 (Z1m.f a0) (fun r=>bV r) (fun r=>[]):=FT [] func46 (.r0<|.r0<|.bl<|.loop (.one (Z1m.l0.partial_correctness a0)) 0 [] [] [] (fun _=>.one (fun aa=>⟨[(0,.im (.row (a0.map Zu))),(3,qi aa)],[],0⟩) fun aa=>.rg [(2,hG Zu a0)]<|.cd (fun ad=>.bl<|.join (.el fun ae af ah=>.bd fun ai aj=>.sp (fun ak=>.rg [(2,hA Zu af ah),(5,qh call72 (Z42.ok ae.f0 ai aj)),(7,hB ak)]<|.o [])
 (fun ak=>.bd fun al am=>.sp (fun an=>.rg [(2,hA Zu af ah),(5,qh call72 (Z42.ok ae.f0 ai aj)),(7,hB ak),(10,hA Zu af ah),(13,qh call73 (Z0k.ok ae.f1 al am)),(16,hB an)]<|.o [])
 (fun an=>.sp (fun ap=>.el fun aq ar au=>.rg [(2,hA Zu af ah),(5,qh call72 (Z42.ok ae.f0 ai aj)),(7,hB ak),(10,hA Zu af ah),(13,qh call73 (Z0k.ok ae.f1 al am)),(16,hB an),(19,hB ap),(22,hA Zu af ah),(28,hA Zu ar au)]<|.o [])
 (fun ap=>.rg [(2,hA Zu af ah),(5,qh call72 (Z42.ok ae.f0 ai aj)),(7,hB ak),(10,hA Zu af ah),(13,qh call73 (Z0k.ok ae.f1 al am)),(16,hB an),(19,hB ap)]<|.o []))))
 (.st .normal (fun av=>⟨[(0,.im (.row (a0.map Zu))),(3,qi aa),(43,bV av)],[],0⟩) fun av=>.cd (fun aw=>.r0<|.ret [] [] [] ⟨[(2,bV false)],[],0⟩)
 (fun aw=>.r0<|.bk [] rfl)))
 (fun ad=>.o []))
 (.sm (.rt (fun rr=>bV rr) (fun rr=>[]))
 (.st (.exit 0) (fun _=>⟨[],[],0⟩) fun _=>.r0<|.ret [] [] [] ⟨[(2,bV true)],[],0⟩)))
def Z1a.l0 (a0:List Zh) (a1:List Zh) (aa:Int):Option (Int ⊕ Unit):=((if(decide (aa<(a0.length:Int)))=true then(some (decide (aa<(a1.length:Int)))) else(some false)):Option Bool)>>=fun ad=>if ad=true then((((at? a0 aa)>>=fun ae=>(at? a1 aa)>>=fun af=>if(Op.bytesLess ae.f0.toList af.f0.toList)=true then(some true) else(if(ae.f0.toList==af.f0.toList)=true then(some (Op.bytesLess ae.f1.toList af.f1.toList)) else(some false))):Option Bool)>>=fun ah=>if ah=true then(some (.inl (-1))) else((at? a0 aa)>>=fun ai=>(at? a1 aa)>>=fun aj=>if(!((ai.f0.toList==aj.f0.toList)&&((ai.f1.toList==aj.f1.toList)&&true)))=true then(some (.inl 1)) else(Z1a.l0 a0 a1 (i64.wrap (aa+1))))) else(some (.inr ()))
partial_fixpoint
def Z1a.f (a0:List Zh) (a1:List Zh):Option Int:=(Z1a.l0 a0 a1 0)>>=fun oo=>match oo with | .inl rr=>(some rr) | .inr _=>(if(decide ((a0.length:Int)<(a1.length:Int)))=true then(some (-1)) else(if(decide ((a0.length:Int)>(a1.length:Int)))=true then(some 1) else(some 0)))
theorem Z1a.ok (a0:List Zh) (a1:List Zh):FN 16 [.im (.row (a0.map Zq)),.im (.row (a1.map Zq))] [] 0 (Z1a.f a0 a1) (fun r=>qi r) (fun r=>[]):=FT [] func16 (.r0<|.r0<|.bl<|.loop (.one (Z1a.l0.partial_correctness a0 a1)) 0 [] [] [] (fun _=>.one (fun aa=>⟨[(0,.im (.row (a0.map Zq))),(1,.im (.row (a1.map Zq))),(5,qi aa)],[],0⟩) fun aa=>.join (.sp (fun ad=>.rg [(2,hG Zq a0),(4,hB ad),(7,hG Zq a1)]<|.o [])
 (fun ad=>.rg [(2,hG Zq a0),(4,hB ad)]<|.o []))
 (.st .normal (fun ae=>⟨[(0,.im (.row (a0.map Zq))),(1,.im (.row (a1.map Zq))),(5,qi aa),(15,bV ae)],[],0⟩) fun ae=>.cd (fun af=>.bl<|.join (.el fun ah ai aj=>.el fun ak al am=>.sp (fun an=>.rg [(2,hA Zq ai aj),(7,hA Zq al am),(11,hB an)]<|.o [])
 (fun an=>.sp (fun ap=>.rg [(2,hA Zq ai aj),(7,hA Zq al am),(11,hB an),(14,hA Zq ai aj),(19,hA Zq al am),(23,hB ap),(26,hA Zq ai aj),(31,hA Zq al am)]<|.o [])
 (fun ap=>.rg [(2,hA Zq ai aj),(7,hA Zq al am),(11,hB an),(14,hA Zq ai aj),(19,hA Zq al am),(23,hB ap)]<|.o [])))
 (.st .normal (fun aq=>⟨[(0,.im (.row (a0.map Zq))),(1,.im (.row (a1.map Zq))),(5,qi aa),(54,bV aq)],[],0⟩) fun aq=>.cd (fun ar=>.r0<|.ret [] [] [] ⟨[(4,qi (-1))],[],0⟩)
 (fun ar=>.el fun au av aw=>.el fun ax ay az=>.rg [(2,hA Zq av aw),(6,hA Zq ay az),(8,⟨.more (xAgg none),.n⟩)]<|.cd (fun a8=>.r0<|.ret [] [] [] ⟨[(4,qi 1)],[],0⟩)
 (fun a8=>.r0<|.bk [] rfl))))
 (fun af=>.o [])))
 (.sm (.rt (fun rr=>qi rr) (fun rr=>[]))
 (.st (.exit 0) (fun _=>⟨[(0,.im (.row (a0.map Zq))),(1,.im (.row (a1.map Zq)))],[],0⟩) fun _=>.rg [(1,hG Zq a0),(3,hG Zq a1)]<|.cd (fun a9=>.r0<|.ret [] [] [] ⟨[(4,qi (-1))],[],0⟩)
 (fun a9=>.rg [(1,hG Zq a0),(3,hG Zq a1)]<|.cd (fun ba=>.r0<|.ret [] [] [] ⟨[(4,qi 1)],[],0⟩)
 (fun ba=>.r0<|.ret [] [] [] ⟨[(4,qi 0)],[],0⟩)))))
def Z2i.l0 (a0:List Zi) (aa:Int):Option (Bool ⊕ Unit):=if(decide (aa<(a0.length:Int)))=true then((((at? a0 aa)>>=fun ad=>(Z20.f ad.f0)>>=fun ae=>if(ae != 0)=true then(some true) else(if(decide (aa>0))=true then((at? a0 (i64.wrap (aa-1)))>>=fun af=>(Z1a.f af.f0 ad.f0)>>=fun ah=>if(decide (ah≥0))=true then(some true) else((Z1m.f ad.f1)>>=fun ai=>some (!ai))) else((Z1m.f ad.f1)>>=fun aj=>some (!aj)))):Option Bool)>>=fun ak=>if ak=true then(some (.inl false)) else(Z2i.l0 a0 (i64.wrap (aa+1)))) else(some (.inr ()))
partial_fixpoint
def Z2i.f (a0:List Zi):Option Bool:=(Z2i.l0 a0 0)>>=fun oo=>match oo with | .inl rr=>(some rr) | .inr _=>(some true)
theorem Z2i.ok (a0:List Zi):FN 23 [.im (.row (a0.map Zk))] [] 0 (Z2i.f a0) (fun r=>bV r) (fun r=>[]):=FT [] func23 (.r0<|.r0<|.bl<|.loop (.one (Z2i.l0.partial_correctness a0)) 0 [] [] [] (fun _=>.one (fun aa=>⟨[(0,.im (.row (a0.map Zk))),(3,qi aa)],[],0⟩) fun aa=>.rg [(2,hG Zk a0)]<|.cd (fun ad=>.bl<|.join (.el fun ae af ah=>.bd fun ai aj=>.sp (fun ak=>.rg [(2,hA Zk af ah),(5,qh call45 (Z20.ok ae.f0 ai aj)),(7,hB ak)]<|.o [])
 (fun ak=>.sp (fun al=>.el fun am an ap=>.bd fun aq ar=>.sp (fun au=>.rg [(2,hA Zk af ah),(5,qh call45 (Z20.ok ae.f0 ai aj)),(7,hB ak),(10,hB al),(14,hA Zk an ap),(19,hA Zk af ah),(22,qh call16 (Z1a.ok am.f0 ae.f0 aq ar)),(26,hB au)]<|.o [])
 (fun au=>.bd fun av aw=>.rg [(2,hA Zk af ah),(5,qh call45 (Z20.ok ae.f0 ai aj)),(7,hB ak),(10,hB al),(14,hA Zk an ap),(19,hA Zk af ah),(22,qh call16 (Z1a.ok am.f0 ae.f0 aq ar)),(26,hB au),(29,hA Zk af ah),(32,qh call46 (Z1m.ok ae.f1 av aw))]<|.o []))
 (fun al=>.bd fun ax ay=>.rg [(2,hA Zk af ah),(5,qh call45 (Z20.ok ae.f0 ai aj)),(7,hB ak),(10,hB al),(29,hA Zk af ah),(32,qh call46 (Z1m.ok ae.f1 ax ay))]<|.o [])))
 (.st .normal (fun az=>⟨[(0,.im (.row (a0.map Zk))),(3,qi aa),(44,bV az)],[],0⟩) fun az=>.cd (fun a8=>.r0<|.ret [] [] [] ⟨[(2,bV false)],[],0⟩)
 (fun a8=>.r0<|.bk [] rfl)))
 (fun ad=>.o []))
 (.sm (.rt (fun rr=>bV rr) (fun rr=>[]))
 (.st (.exit 0) (fun _=>⟨[],[],0⟩) fun _=>.r0<|.ret [] [] [] ⟨[(2,bV true)],[],0⟩)))
def Z13.l1 (a0:List Zi) (b53:Zi) (x48:Int) (x68:Int) (x69:Int):Option Int:=if(decide (x69<(b53.f1.length:Int)))=true then((at? b53.f1 x69)>>=fun b74=>Z13.l1 a0 b53 x48 (i64.wrap (x68+(i64.wrap ((i64.wrap ((1:Int)+(b74.f1.f6.length:Int)))+(b74.f1.f7.length:Int))))) (i64.wrap (x69+1))) else(some x68)
partial_fixpoint
def Z13.l0 (a0:List Zi) (x47:Int) (x48:Int):Option (Bool ⊕ Int):=if(decide (x48<(a0.length:Int)))=true then((at? a0 x48)>>=fun b53=>(Z2l.f b53.f0)>>=fun t58=>if(!t58)=true then(some (.inl false)) else((Z13.l1 a0 b53 x48 (i64.wrap (x47+1)) 0)>>=fun x77=>Z13.l0 a0 x77 (i64.wrap (x48+1)))) else(some (.inr x47))
partial_fixpoint
def Z13.f (a0:List Zi):Option Bool:=(Z13.l0 a0 0 0)>>=fun oo=>match oo with | .inl rr=>(some rr) | .inr x78=>(((if(decide (x78≤400))=true then((Z2i.f a0)>>=fun aa=>some aa) else(some false)):Option Bool)>>=fun ad=>some ad)
theorem Z13.ok (a0:List Zi):FN 8 [.im (.row (a0.map Zk))] [] 0 (Z13.f a0) (fun r=>bV r) (fun r=>[]):=FT [] func8 (.r0<|.r0<|.rg [(1,hG Zk a0)]<|.bl<|.loop (.c2 (Z13.l0.partial_correctness a0)) (0,0) [] [] [] (fun _=>.pr fun x47=>.one (fun x48=>⟨[(0,.im (.row (a0.map Zk))),(3,qi x47),(8,.im (.row (a0.map Zk))),(9,qi (a0.length:Int)),(10,qi x48)],[],0⟩) fun x48=>.r0<|.cd (fun c49=>.bl<|.el fun b53 p54 q55=>.rg [(0,hA Zk p54 q55),(2,⟨.k 3,.n⟩)]<|.r0<|.bd fun t58 e59=>.rg [(2,qh call22 (Z2l.ok b53.f0 t58 e59))]<|.cd (fun c60=>.r0<|.ret [] [] [] ⟨[(2,bV false)],[],0⟩)
 (fun c60=>.rg [(2,hG Zu b53.f1)]<|.bl<|.loop (.c2 (Z13.l1.partial_correctness a0 b53 x48)) (i64.wrap (x47+1),0) [] [] [] (fun _=>.pr fun x68=>.one (fun x69=>⟨[(0,.im (.row (a0.map Zk))),(3,qi x68),(8,.im (.row (a0.map Zk))),(9,qi (a0.length:Int)),(10,qi x48),(21,.im (.row (b53.f1.map Zu))),(22,qi (b53.f1.length:Int)),(23,qi x69)],[],0⟩) fun x69=>.r0<|.cd (fun c70=>.bl<|.el fun b74 p75 q76=>.rg [(0,hA Zu p75 q76),(2,⟨.k 5,.n⟩)]<|.rg [(4,hG Z6 b74.f1.f6),(9,hG Z6 b74.f1.f7)]<|.r0<|.bk [] rfl)
 (fun c70=>.o []))
 (.st (.exit 2) (fun x77=>⟨[(0,.im (.row (a0.map Zk))),(3,qi x77),(8,.im (.row (a0.map Zk))),(9,qi (a0.length:Int)),(10,qi x48)],[],0⟩) fun x77=>.r0<|.bk [] rfl)))
 (fun c49=>.o []))
 (.sm (.rt (fun rr=>bV rr) (fun rr=>[]))
 (.st (.exit 0) (fun x78=>⟨[(0,.im (.row (a0.map Zk))),(3,qi x78)],[],0⟩) fun x78=>.join (.sp (fun aa=>.bd fun ad ae=>.rg [(2,hB aa),(4,qh call23 (Z2i.ok a0 ad ae))]<|.o [])
 (fun aa=>.rg [(2,hB aa)]<|.o []))
 (.st .normal (fun af=>⟨[(2,bV af)],[],0⟩) fun af=>.ret [] [] [] ⟨[(2,bV af)],[],0⟩))))
def Z31.f (a0:ByteArray) (aa:Int) (ad:Int) (ae:Int) (af:Int) (ah:Int) (ai:Int):Option Zi:=some (⟨[(⟨(⟨#[97]⟩:ByteArray),(⟨#[120]⟩:ByteArray)⟩:Zh),(⟨(⟨#[98]⟩:ByteArray),a0⟩:Zh)],[(⟨1,(⟨aa,ad,ae,af,ah,ai,[],[]⟩:Z1)⟩:Zv)]⟩:Zi)
abbrev q1:=@RW _ 2 74 Zq
abbrev q2:=@RW _ 9 80 Zu
theorem Z31.ok (a0:ByteArray) (aa:Int) (ad:Int) (ae:Int) (af:Int) (ah:Int) (ai:Int):FN 24 [sV a0,.ptr 0 0 0] [(0,some (.box 48 [qi aa,qi ad,qi ae,qu af,qu ah,qi ai,.none0,.none0]))] 1 (Z31.f a0 aa ad ae af ah ai) (fun r=>.agg [.own 1,.own 2]) (fun r=>[(0,some (.box 48 [qi aa,qi ad,qi ae,qu af,qu ah,qi ai,.none0,.none0])),q1 1 ((r).f0),q2 2 ((r).f1)]):=FT [0,1,2] func24 (.rg [(0,⟨.k 1,.n⟩)]<|.rg [(3,hQ 2 Zq ([(⟨(⟨#[97]⟩:ByteArray),(⟨#[120]⟩:ByteArray)⟩:Zh),(⟨(⟨#[98]⟩:ByteArray),a0⟩:Zh)]:List Zh)),(6,hQ 3 Zu ([(⟨1,(⟨aa,ad,ae,af,ah,ai,[],[]⟩:Z1)⟩:Zv)]:List Zv))]<|.ret [(0,0),(1,3),(2,1),(3,2)] [] [] ⟨[(3,.ptr 3 0 0)],[(0,some (.box 48 [qi aa,qi ad,qi ae,qu af,qu ah,qi ai,.none0,.none0])),q1 1 (((⟨[(⟨(⟨#[97]⟩:ByteArray),(⟨#[120]⟩:ByteArray)⟩:Zh),(⟨(⟨#[98]⟩:ByteArray),a0⟩:Zh)],[(⟨1,(⟨aa,ad,ae,af,ah,ai,[],[]⟩:Z1)⟩:Zv)]⟩:Zi)).f0),q2 2 (((⟨[(⟨(⟨#[97]⟩:ByteArray),(⟨#[120]⟩:ByteArray)⟩:Zh),(⟨(⟨#[98]⟩:ByteArray),a0⟩:Zh)],[(⟨1,(⟨aa,ad,ae,af,ah,ai,[],[]⟩:Z1)⟩:Zv)]⟩:Zi)).f1),(3,some (.box 60 [.own 1,.own 2]))],1⟩)
def Z0n.f (a0:List Zh):Option (List Zh):=(chk ((([]:List Zh).length+a0.length)*32≤140737488355328))>>=fun _=>some a0
theorem Z0n.ok (a0 r:List Zh) (H:Z0n.f a0=some r):Pv.Fn Tryz.prog 27 [.im (.row (a0.map Zq))] [] 0 (fun x o=>x = .own 0∧o=[q1 0 r]):=by
 unfold Z0n.f at H;obtain⟨c1,H⟩:=Zbq H;obtain rfl:=sj H;refine Fn.bodyK [0] func27 rfl rfl (fun Γ hP hn => ?_);have hm:Tryz.prog.follows .mixedOrders=true:=by kernel_rfl
 replace hn:Γ.n=8:=hn;refine AWp.seq ?_;refine reg hP hn hm [] [0,2] [] ⟨[(0,.im (.row (a0.map Zq))),(2,.none0)],[],0⟩ [] (by kernel_rfl) trivial ?_;refine AWp.seq ?_;cases a0 with
 | nil =>
  refine AWp.nilSplit 0 rfl (fun b m => ?_);refine AWp.seq ?_;cases b with
  | none =>
   refine reg hP hn hm [(1,.more xNil)] [2,4] [] ⟨[(2,.none0),(4,bV true)],[],0⟩ [] (by kernel_rfl) trivial ?_;refine AWp.cond true rfl (fun _ => ?_) (fun h=>nomatch h);refine AWp.seq ?_;refine reg hP hn hm [] [2] [] ⟨[(2,.none0)],[],0⟩ [] (by kernel_rfl) trivial ?_;refine AWp.conv (inv:=[]) (vk:=[]) (e0:=[0]) (t:=⟨[(2,.own 0)],[(0,some (.row 2 74 []))],0⟩) (by kernel_rfl) ?_
   refine AWp.ret ?_;exact Exists.intro _ (And.intro (fun _ _ h=>h) (And.intro (.inl rfl) (And.intro rfl (And.intro (by kernel_rfl) (by kernel_rfl)))))
  | some b =>
   refine reg hP hn hm [(1,.more xNil)] [0,2,4] [] ⟨[(0,.im (.sc (.slice (some b) 0 m))),(2,.none0),(4,bV false)],[],0⟩ [] (by kernel_rfl) trivial ?_;refine AWp.cond false rfl (fun h=>nomatch h) (fun _ => ?_);refine AWp.skip ?_;refine AWp.unsplit 0 rfl ?_;refine AWp.seq ?_;refine reg hP hn hm [(0,.app 0 ([]:List (List Im))),(2,.app 1 (([]:List Zh).map Zq))] [2] [1] ⟨[(2,.own 1)],[q1 1 ([]:List Zh)],0⟩ [([]:List (List Im))=[],([]:List Zh).map Zq=([]:List (List Im))++([]:List Zh).map Zq,∀ c∈([]:List Zh).map Zq,c.length=2,∀ c∈([]:List Zh).map Zq,Z36 (c.map .im)=true,(([]:List (List Im)).length+(([]:List Zh).map Zq).length)*32≤140737488355328] (by kernel_rfl) ⟨rfl,by simp,by exact Z5b _ _ _ (fun _=>rfl),by exact Z52 _ _ (fun _=>rfl),by simpa using c1,trivial⟩ ?_;refine AWp.conv (inv:=[(1,0)]) (vk:=[]) (e0:=[]) (t:=⟨[(2,.own 0)],[q1 0 ([]:List Zh)],0⟩) (by kernel_rfl) ?_
   refine AWp.ret ?_;exact Exists.intro _ (And.intro (fun _ _ h=>h) (And.intro (.inl rfl) (And.intro rfl (And.intro (by kernel_rfl) (by kernel_rfl)))))
 | cons y l =>
  refine AWp.seq ?_;refine reg hP hn hm [(1,.more xNil)] [0,2,4] [] ⟨[(0,.im (.row ((y::l).map Zq))),(2,.none0),(4,bV false)],[],0⟩ [] (by kernel_rfl) trivial ?_;refine AWp.cond false rfl (fun h=>nomatch h) (fun _ => ?_);refine AWp.skip ?_;refine AWp.seq ?_;refine reg hP hn hm [(0,.app 0 ([]:List (List Im))),(2,.app 1 ((y::l).map Zq))] [2] [1] ⟨[(2,.own 1)],[q1 1 (y::l)],0⟩ [([]:List (List Im))=[],(y::l).map Zq=([]:List (List Im))++(y::l).map Zq,∀ c∈(y::l).map Zq,c.length=2,∀ c∈(y::l).map Zq,Z36 (c.map .im)=true,(([]:List (List Im)).length+((y::l).map Zq).length)*32≤140737488355328] (by kernel_rfl) ⟨rfl,by simp,by exact Z5b _ _ _ (fun _=>rfl),by exact Z52 _ _ (fun _=>rfl),by simpa using c1,trivial⟩ ?_;refine AWp.conv (inv:=[(1,0)]) (vk:=[]) (e0:=[]) (t:=⟨[(2,.own 0)],[q1 0 (y::l)],0⟩) (by kernel_rfl) ?_
  refine AWp.ret ?_;exact Exists.intro _ (And.intro (fun _ _ h=>h) (And.intro (.inl rfl) (And.intro rfl (And.intro (by kernel_rfl) (by kernel_rfl)))))
def Z06.l0 (a0:List ByteArray) (a1:ByteArray) (aa:Int):Option (Int ⊕ Unit):=if(decide (aa<(a0.length:Int)))=true then((at? a0 aa)>>=fun ad=>if(a1.toList==ad.toList)=true then(some (.inl aa)) else(Z06.l0 a0 a1 (i64.wrap (aa+1)))) else(some (.inr ()))
partial_fixpoint
def Z06.f (a0:List ByteArray) (a1:ByteArray):Option Int:=(Z06.l0 a0 a1 0)>>=fun oo=>match oo with | .inl rr=>(some rr) | .inr _=>(some (-1))
theorem Z06.ok (a0:List ByteArray) (a1:ByteArray):FN 117 [.im (.row (a0.map Z11)),sV a1] [] 0 (Z06.f a0 a1) (fun r=>qi r) (fun r=>[]):=FT [] func117 (.r0<|.rg [(1,hG Z11 a0)]<|.bl<|.loop (.one (Z06.l0.partial_correctness a0 a1)) 0 [] [] [] (fun _=>.one (fun aa=>⟨[(0,.im (.row (a0.map Z11))),(1,sV a1),(7,qi (a0.length:Int)),(8,qi aa)],[],0⟩) fun aa=>.r0<|.cd (fun ad=>.bl<|.r0<|.el fun ae af ah=>.rg [(3,hA Z11 af ah)]<|.cd (fun ai=>.r0<|.ret [] [] [] ⟨[(4,qi aa)],[],0⟩)
 (fun ai=>.r0<|.bk [] rfl))
 (fun ad=>.o []))
 (.sm (.rt (fun rr=>qi rr) (fun rr=>[]))
 (.st (.exit 0) (fun _=>⟨[],[],0⟩) fun _=>.r0<|.ret [] [] [] ⟨[(4,qi (-1))],[],0⟩)))
def Z1k.f (a0:List ByteArray) (a1:ByteArray):Option Bool:=(Z06.f a0 a1)>>=fun aa=>some (decide (aa≥0))
theorem Z1k.ok (a0:List ByteArray) (a1:ByteArray):FN 76 [.im (.row (a0.map Z11)),sV a1] [] 0 (Z1k.f a0 a1) (fun r=>bV r) (fun r=>[]):=FT [] func76 (.r0<|.bd fun aa ad=>.rg [(2,qh call117 (Z06.ok a0 a1 aa ad))]<|.ret [] [] [] ⟨[(4,bV (decide (aa≥0)))],[],0⟩)
def Z2f.f (a0:Zh) (aa:List ByteArray):Option Bool:=(Z1k.f aa a0.f0)>>=fun ad=>some (!ad)
theorem Z2f.ok (a0:Zh) (aa:List ByteArray):FN 75 [.agg (aLabel a0),.ptr 0 0 0] [(0,some (.box 25 [.im (.row (aa.map Z11))]))] 1 (Z2f.f a0 aa) (fun r=>bV r) (fun r=>[(0,some (.box 25 [.im (.row (aa.map Z11))]))]):=FT [0] func75 (.rg [(0,⟨.k 1,.n⟩)]<|.bd fun ad ae=>.rg [(3,qh call76 (Z1k.ok aa a0.f0 ad ae))]<|.ret [(0,0)] [] [] ⟨[(3,bV (!ad))],[(0,some (.box 25 [.im (.row (aa.map Z11))]))],1⟩)
def Zr.l0 (a0:List Zh) (aa:List ByteArray) (ad:Int):Option (Int ⊕ Unit):=if(decide (ad<(a0.length:Int)))=true then((at? a0 ad)>>=fun ae=>(Z2f.f ae aa)>>=fun af=>if af=true then(some (.inl ad)) else(Zr.l0 a0 aa (i64.wrap (ad+1)))) else(some (.inr ()))
partial_fixpoint
def Zr.f (a0:List Zh) (aa:List ByteArray):Option Int:=(Zr.l0 a0 aa 0)>>=fun oo=>match oo with | .inl rr=>(some rr) | .inr _=>(some (-1))
theorem Zr.ok (a0:List Zh) (aa:List ByteArray):FN 116 [.own 0,.fn 75 [.ptr 1 0 0]] [q1 0 a0,(1,some (.box 25 [.im (.row (aa.map Z11))]))] 2 (Zr.f a0 aa) (fun r=>qi r) (fun r=>[q1 0 a0,(1,some (.box 25 [.im (.row (aa.map Z11))]))]):=FT [0,1] func116 (.r0<|.rg [(1,hG Zq a0)]<|.bl<|.loop (.one (Zr.l0.partial_correctness a0 aa)) 0 [(0,0),(1,1)] [] [] (fun _=>.one (fun ad=>⟨[(0,.own 0),(1,.fn 75 [.ptr 1 0 0]),(7,qi (a0.length:Int)),(8,qi ad)],[q1 0 a0,(1,some (.box 25 [.im (.row (aa.map Z11))]))],2⟩) fun ad=>.r0<|.cd (fun ae=>.bl<|.r0<|.el fun af ah ai=>.bd fun aj ak=>.rg [(3,hX Zq ah ai),(4,hL Zq ai),(5,hC [(1,0)] [(0,1)] [] [] call75 (Z2f.ok af aa aj ak))]<|.cd (fun al=>.r0<|.ret [(0,0),(1,1)] [] [] ⟨[(4,qi ad)],[q1 0 a0,(1,some (.box 25 [.im (.row (aa.map Z11))]))],2⟩)
 (fun al=>.r0<|.bk [(0,0),(1,1)] rfl))
 (fun ae=>.o [(0,0),(1,1)]))
 (.sm (.rt (fun rr=>qi rr) (fun rr=>[q1 0 a0,(1,some (.box 25 [.im (.row (aa.map Z11))]))]))
 (.st (.exit 0) (fun _=>⟨[],[q1 0 a0,(1,some (.box 25 [.im (.row (aa.map Z11))]))],2⟩) fun _=>.r0<|.ret [(0,0),(1,1)] [] [] ⟨[(4,qi (-1))],[q1 0 a0,(1,some (.box 25 [.im (.row (aa.map Z11))]))],2⟩)))
def Zm.l0 (aa:List ByteArray) (ad:List Zh) (ae:Int) (af:Int):Option ((List Zh)×Int):=if(decide (af<(ad.length:Int)))=true then((at? ad af)>>=fun ah=>(Z2f.f ah aa)>>=fun ai=>((if(!ai)=true then((at? ad ae)>>=fun aj=>some (ad.set (Int.toNat (ae)) ah,i64.wrap (ae+1))) else(some (ad,ae))):Option ((List Zh)×Int))>>=fun oo=>match oo with | (ak,al)=>(Zm.l0 aa ak al (i64.wrap (af+1)))) else(some (ad,ae))
partial_fixpoint
def Zm.f (a0:List Zh) (aa:List ByteArray):Option (List Zh):=(Zr.f a0 aa)>>=fun ad=>if(ad==(-1))=true then(some a0) else((Zm.l0 aa a0 ad (i64.wrap (ad+1)))>>=fun oo=>match oo with | (ae,af)=>((chk (0≤af∧af≤(ae.length:Int)))>>=fun _=>(chk (0≤af∧af≤((ae.take (Int.toNat af)++List.replicate (ae.length-(Int.toNat af)) (⟨(⟨#[]⟩:ByteArray),(⟨#[]⟩:ByteArray)⟩:Zh)).length:Int)))>>=fun _=>some ((ae.take (Int.toNat af)++List.replicate (ae.length-(Int.toNat af)) (⟨(⟨#[]⟩:ByteArray),(⟨#[]⟩:ByteArray)⟩:Zh)).take (Int.toNat (af)))))
theorem Zm.ok (a0:List Zh) (aa:List ByteArray):FN 74 [.own 0,.fn 75 [.ptr 1 0 0]] [q1 0 a0,(1,some (.box 25 [.im (.row (aa.map Z11))]))] 2 (Zm.f a0 aa) (fun r=>.own 2) (fun r=>[(0,none),(1,some (.box 25 [.im (.row (aa.map Z11))])),q1 2 r]):=FT [0,1,2] func74 (.r0<|.bd fun ad ae=>.rg [(2,hC [(0,0),(1,1)] [(0,0),(1,1)] [] [] call116 (Zr.ok a0 aa ad ae))]<|.r0<|.cd (fun af=>.r0<|.ret [(0,2),(1,1)] [] [] ⟨[(4,.own 2)],[(1,some (.box 25 [.im (.row (aa.map Z11))])),q1 2 a0],2⟩)
 (fun af=>.r0<|.bl<|.loop (.c3 (Zm.l0.partial_correctness aa)) (a0,ad,i64.wrap (ad+1)) [(0,0),(1,1)] [] [] (fun _=>.pr fun ah=>.pr fun ai=>.one (fun aj=>⟨[(0,.own 0),(1,.fn 75 [.ptr 1 0 0]),(5,qi ai),(6,qi aj)],[q1 0 ah,(1,some (.box 25 [.im (.row (aa.map Z11))]))],2⟩) fun aj=>.rg [(2,hG Zq ah)]<|.cd (fun ak=>.bl<|.el fun al am an=>.rg [(2,hX Zq am an),(3,hL Zq an),(4,⟨.k 3,.n⟩)]<|.bd fun ap aq=>.rg [(2,hC [(1,0)] [(0,1)] [] [] call75 (Z2f.ok al aa ap aq))]<|.join (.cd (fun ar=>.el fun au av aw=>.rg [(3,hX Zq av aw),(4,hS Zq al 0 [sI al.f0,sI al.f1] aw)]<|.r0<|.o [(0,0),(1,1)])
 (fun ar=>.o [(0,0),(1,1)]))
 (.pr fun ax=>.st .normal (fun ay=>⟨[(0,.own 0),(1,.fn 75 [.ptr 1 0 0]),(5,qi ay),(6,qi aj)],[q1 0 ax,(1,some (.box 25 [.im (.row (aa.map Z11))]))],2⟩) fun ay=>.r0<|.bk [(0,0),(1,1)] rfl))
 (fun ak=>.o [(0,0),(1,1)]))
 (.pr fun az=>.st (.exit 0) (fun a8=>⟨[(0,.own 0),(5,qi a8)],[q1 0 az,(1,some (.box 25 [.im (.row (aa.map Z11))]))],2⟩) fun a8=>.ck fun a9=>.rg [(2,⟨.more (xCutOwn (Int.toNat a8) (az.length-(Int.toNat a8))),.c (p:=a8=(((Int.toNat a8):Nat):Int)) ((Int.toNat_of_nonneg a9.1).symm) (.c (p:=(Int.toNat a8)+(az.length-(Int.toNat a8))=(az.map Zq).length) (by have h:=a9;rw[List.length_map];omega) .n)⟩),(3,⟨.more (xClear ((az.take (Int.toNat a8)++List.replicate (az.length-(Int.toNat a8)) (⟨(⟨#[]⟩:ByteArray),(⟨#[]⟩:ByteArray)⟩:Zh)).map Zq)),.c (p:=(az.take (Int.toNat a8)++List.replicate (az.length-(Int.toNat a8)) (⟨(⟨#[]⟩:ByteArray),(⟨#[]⟩:ByteArray)⟩:Zh)).map Zq=(az.map Zq).take (Int.toNat a8)++List.replicate (az.length-(Int.toNat a8)) [sI (⟨#[]⟩:ByteArray),sI (⟨#[]⟩:ByteArray)]) (by simp) (.c (p:=(Int.toNat a8)+(az.length-(Int.toNat a8))=(az.map Zq).length) (by have h:=a9;rw[List.length_map];omega) .n)⟩)]<|.ck fun ba=>.rg [(2,⟨.more (xTake 4 (((az.take (Int.toNat a8)++List.replicate (az.length-(Int.toNat a8)) (⟨(⟨#[]⟩:ByteArray),(⟨#[]⟩:ByteArray)⟩:Zh)).take (Int.toNat (a8))).map Zq)),.c (ba.1) (.c (p:=a8≤(((az.take (Int.toNat a8)++List.replicate (az.length-(Int.toNat a8)) (⟨(⟨#[]⟩:ByteArray),(⟨#[]⟩:ByteArray)⟩:Zh)).map Zq).length:Int)) (by simpa using ba.2) (.c (p:=((az.take (Int.toNat a8)++List.replicate (az.length-(Int.toNat a8)) (⟨(⟨#[]⟩:ByteArray),(⟨#[]⟩:ByteArray)⟩:Zh)).take (Int.toNat (a8))).map Zq=((az.take (Int.toNat a8)++List.replicate (az.length-(Int.toNat a8)) (⟨(⟨#[]⟩:ByteArray),(⟨#[]⟩:ByteArray)⟩:Zh)).map Zq).take (Int.toNat (a8))) (by simp) .n))⟩)]<|.ret [(1,1),(4,2)] [] [] ⟨[(4,.own 2)],[(1,some (.box 25 [.im (.row (aa.map Z11))])),q1 2 ((az.take (Int.toNat a8)++List.replicate (az.length-(Int.toNat a8)) (⟨(⟨#[]⟩:ByteArray),(⟨#[]⟩:ByteArray)⟩:Zh)).take (Int.toNat (a8)))],2⟩)))
def Z43.f (a0:List Zh) (a1:List ByteArray):Option (List Zh):=(Z0n.f a0)>>=fun aa=>(Zm.f aa a1)>>=fun ad=>some ad
theorem Z43.ok (a0:List Zh) (a1:List ByteArray):FN 47 [.im (.row (a0.map Zq)),.im (.row (a1.map Z11))] [] 0 (Z43.f a0 a1) (fun r=>.own 0) (fun r=>[q1 0 r]):=FT [0] func47 (.rg [(0,⟨.k 0,.n⟩)]<|.bd fun aa ad=>.bd fun ae af=>.rg [(1,hC [] [(0,1)] [] [1] call27 (Z0n.ok a0 aa ad)),(2,⟨.more xFunc,.n⟩),(3,hC [(1,0),(0,1)] [(1,0),(2,2)] [] [2] call74 (Zm.ok aa a1 ae af))]<|.ret [(2,0)] [] [] ⟨[(4,.own 0)],[q1 0 ae],0⟩)
def Z2q.f (a0_0:Int) (a0_1:Int) (a0_2:Int) (a0_3:Int) (a0_4:Int) (a0_5:Int) (a0_6:Int) (a0_8:Bool) (a0_9:List ByteArray) (a1:Zi):Option (List Zh):=if a0_8=true then((Z43.f a1.f0 a0_9)>>=fun aa=>some aa) else(some a1.f0)
theorem Z2q.ok (a0_0:Int) (a0_1:Int) (a0_2:Int) (a0_3:Int) (a0_4:Int) (a0_5:Int) (a0_6:Int) (a0_8:Bool) (a0_9:List ByteArray) (a1:Zi):FN 28 [.agg [qi a0_0,qu a0_1,qu a0_2,qi a0_3,qi a0_4,qi a0_5,qi a0_6,.im (.sc (.pointer none)),bV a0_8,.im (.row (a0_9.map Z11))],.agg (Zb2 a1)] [] 0 (Z2q.f a0_0 a0_1 a0_2 a0_3 a0_4 a0_5 a0_6 a0_8 a0_9 a1) (fun r=>.im (.row (r.map Zq))) (fun r=>[]):=FT [] func28 (.rg [(0,⟨.k 0,.n⟩),(1,⟨.k 1,.n⟩)]<|.r0<|.cd (fun aa=>.bd fun ad ae=>.rg [(4,hC [] [(0,2)] [] [2] call47 (Z43.ok a1.f0 a0_9 ad ae))]<|.ret [] [2] [] ⟨[(4,.im (.row (ad.map Zq)))],[],0⟩)
 (fun aa=>.r0<|.ret [] [] [] ⟨[(4,.im (.row (a1.f0.map Zq)))],[],0⟩))
def Z2e.f (a0:ByteArray):Option Unit:=some ()
theorem Z2e.ok (a0:ByteArray):FN 118 [sV a0] [] 0 (Z2e.f a0) (fun r=>bV (!(a0.toList==a0.toList))) (fun r=>[]):=FT [] func118 (.r0<|.r0<|.ret [] [] [] ⟨[(2,bV (!(a0.toList==a0.toList)))],[],0⟩)
def Z1i.f (a0:ByteArray) (a1:ByteArray):Option Int:=(Z2e.f a0)>>=fun aa=>(Z2e.f a1)>>=fun ad=>if(!(a0.toList==a0.toList))=true then(if(!(a1.toList==a1.toList))=true then(some 0) else(some (-1))) else(if(!(a1.toList==a1.toList))=true then(some 1) else(if(Op.bytesLess a0.toList a1.toList)=true then(some (-1)) else(if(!(Op.bytesLess a0.toList a1.toList||a0.toList==a1.toList))=true then(some 1) else(some 0))))
theorem Z1i.ok (a0:ByteArray) (a1:ByteArray):FN 80 [sV a0,sV a1] [] 0 (Z1i.f a0 a1) (fun r=>qi r) (fun r=>[]):=FT [] func80 (.r0<|.bd fun aa ad=>.rg [(1,qh call118 (Z2e.ok a0 aa ad))]<|.bd fun ae af=>.rg [(1,qh call118 (Z2e.ok a1 ae af))]<|.r0<|.cd (fun ah=>.r0<|.cd (fun ai=>.r0<|.ret [] [] [] ⟨[(4,qi 0)],[],0⟩)
 (fun ai=>.r0<|.ret [] [] [] ⟨[(4,qi (-1))],[],0⟩))
 (fun ah=>.r0<|.cd (fun aj=>.r0<|.ret [] [] [] ⟨[(4,qi 1)],[],0⟩)
 (fun aj=>.r0<|.cd (fun ak=>.r0<|.ret [] [] [] ⟨[(4,qi (-1))],[],0⟩)
 (fun ak=>.r0<|.cd (fun al=>.r0<|.ret [] [] [] ⟨[(4,qi 1)],[],0⟩)
 (fun al=>.r0<|.ret [] [] [] ⟨[(4,qi 0)],[],0⟩)))))
def Z2a.l0 (a0:List Int) (aa:Int):Option (Int ⊕ Unit):=if(decide (aa<(a0.length:Int)))=true then((at? a0 aa)>>=fun ad=>if(ad != 0)=true then(some (.inl ad)) else(Z2a.l0 a0 (i64.wrap (aa+1)))) else(some (.inr ()))
partial_fixpoint
def Z2a.f (a0:List Int):Option Int:=(Z2a.l0 a0 0)>>=fun oo=>match oo with | .inl rr=>(some rr) | .inr _=>(some 0)
theorem Z2a.ok (a0:List Int):FN 79 [.im (.row (a0.map qe))] [] 0 (Z2a.f a0) (fun r=>qi r) (fun r=>[]):=FT [] func79 (.r0<|.r0<|.rg [(1,hG qe a0)]<|.bl<|.loop (.one (Z2a.l0.partial_correctness a0)) 0 [] [] [] (fun _=>.one (fun aa=>⟨[(3,qi 0),(6,.im (.row (a0.map qe))),(7,qi (a0.length:Int)),(8,qi aa)],[],0⟩) fun aa=>.r0<|.cd (fun ad=>.bl<|.el fun ae af ah=>.rg [(0,hA qe af ah)]<|.r0<|.cd (fun ai=>.r0<|.ret [] [] [] ⟨[(2,qi ae)],[],0⟩)
 (fun ai=>.r0<|.bk [] rfl))
 (fun ad=>.o []))
 (.sm (.rt (fun rr=>qi rr) (fun rr=>[]))
 (.st (.exit 0) (fun _=>⟨[(3,qi 0)],[],0⟩) fun _=>.r0<|.ret [] [] [] ⟨[(2,qi 0)],[],0⟩)))
def Z30.f (a0:Zh) (a1:Zh):Option Int:=(Z1i.f a0.f0 a1.f0)>>=fun aa=>(Z1i.f a0.f1 a1.f1)>>=fun ad=>(Z2a.f [aa,ad])>>=fun ae=>some ae
theorem Z30.ok (a0:Zh) (a1:Zh):FN 78 [.agg (aLabel a0),.agg (aLabel a1)] [] 0 (Z30.f a0 a1) (fun r=>qi r) (fun r=>[]):=FT [] func78 (.rg [(0,⟨.k 0,.n⟩),(1,⟨.k 1,.n⟩)]<|.bd fun aa ad=>.bd fun ae af=>.bd fun ah ai=>.rg [(4,qh call80 (Z1i.ok a0.f0 a1.f0 aa ad)),(9,qh call80 (Z1i.ok a0.f1 a1.f1 ae af)),(10,hQ 2 qe ([aa,ae]:List Int)),(11,hC [] [] [2] [] call79 (Z2a.ok [aa,ae] ah ai))]<|.ret [] [] [] ⟨[(4,qi ah)],[],0⟩)
def Zc.l0 (a0:List Zh) (a1:List Zh) (aa:Int):Option (Int ⊕ Unit):=if(decide (aa<(a0.length:Int)))=true then((at? a0 aa)>>=fun ad=>if(decide (aa≥(a1.length:Int)))=true then(some (.inl 1)) else((at? a1 aa)>>=fun ae=>(Z30.f ad ae)>>=fun af=>if(af != 0)=true then(some (.inl af)) else(Zc.l0 a0 a1 (i64.wrap (aa+1))))) else(some (.inr ()))
partial_fixpoint
def Zc.f (a0:List Zh) (a1:List Zh):Option Int:=(Zc.l0 a0 a1 0)>>=fun oo=>match oo with | .inl rr=>(some rr) | .inr _=>(if(decide ((a0.length:Int)<(a1.length:Int)))=true then(some (-1)) else(some 0))
theorem Zc.ok (a0:List Zh) (a1:List Zh):FN 77 [.im (.row (a0.map Zq)),.im (.row (a1.map Zq)),.im (qf 78)] [] 0 (Zc.f a0 a1) (fun r=>qi r) (fun r=>[]):=FT [] func77 (.r0<|.rg [(1,hG Zq a0)]<|.bl<|.loop (.one (Zc.l0.partial_correctness a0 a1)) 0 [] [] [] (fun _=>.one (fun aa=>⟨[(0,.im (.row (a0.map Zq))),(1,.im (.row (a1.map Zq))),(2,.im (qf 78)),(11,.im (.row (a0.map Zq))),(12,qi (a0.length:Int)),(13,qi aa)],[],0⟩) fun aa=>.r0<|.cd (fun ad=>.bl<|.el fun ae af ah=>.rg [(1,hA Zq af ah),(3,⟨.k 2,.n⟩)]<|.rg [(2,hG Zq a1)]<|.cd (fun ai=>.r0<|.ret [] [] [] ⟨[(6,qi 1)],[],0⟩)
 (fun ai=>.el fun aj ak al=>.rg [(2,hA Zq ak al),(4,⟨.k 3,.n⟩)]<|.bd fun am an=>.rg [(3,qh call78 (Z30.ok ae aj am an))]<|.r0<|.cd (fun ap=>.r0<|.ret [] [] [] ⟨[(6,qi am)],[],0⟩)
 (fun ap=>.r0<|.bk [] rfl)))
 (fun ad=>.o []))
 (.sm (.rt (fun rr=>qi rr) (fun rr=>[]))
 (.st (.exit 0) (fun _=>⟨[(0,.im (.row (a0.map Zq))),(1,.im (.row (a1.map Zq)))],[],0⟩) fun _=>.rg [(1,hG Zq a0),(3,hG Zq a1)]<|.cd (fun aq=>.r0<|.ret [] [] [] ⟨[(6,qi (-1))],[],0⟩)
 (fun aq=>.r0<|.ret [] [] [] ⟨[(6,qi 0)],[],0⟩))))
def Z3l.f (a0:List Zh) (a1:List Zh):Option Int:=(Zc.f a0 a1)>>=fun aa=>some aa
theorem Z3l.ok (a0:List Zh) (a1:List Zh):FN 50 [.im (.row (a0.map Zq)),.im (.row (a1.map Zq))] [] 0 (Z3l.f a0 a1) (fun r=>qi r) (fun r=>[]):=FT [] func50 (.r0<|.bd fun aa ad=>.rg [(2,qh call77 (Zc.ok a0 a1 aa ad))]<|.ret [] [] [] ⟨[(4,qi aa)],[],0⟩)
def Z0s.f (a0:List Zi) (a1:List Zh) (aa:Int) (ad:Int) (ae:Int) (af:Int) (ah:Int) (ai:Int) (aj:Int) (ak:Bool) (al:List ByteArray):Option Int:=(at? a0 0)>>=fun am=>(Z2q.f aa ad ae af ah ai aj ak al am)>>=fun an=>(Z3l.f an a1)>>=fun ap=>some ap
theorem Z0s.ok (a0:List Zi) (a1:List Zh) (aa:Int) (ad:Int) (ae:Int) (af:Int) (ah:Int) (ai:Int) (aj:Int) (ak:Bool) (al:List ByteArray):FN 49 [.im (.row (a0.map Zk)),.im (.row (a1.map Zq)),.ip [iI .i64 aa,iI .u64 ad,iI .u64 ae,iI .i64 af,iI .i64 ah,iI .i64 ai,iI .i64 aj,.sc (.pointer none),bI ak,.row (al.map Z11)]] [] 0 (Z0s.f a0 a1 aa ad ae af ah ai aj ak al) (fun r=>qi r) (fun r=>[]):=FT [] func49 (.r0<|.el fun am an ap=>.bd fun aq ar=>.bd fun au av=>.rg [(2,hA Zk an ap),(4,qh call28 (Z2q.ok aa ad ae af ah ai aj ak al am aq ar)),(6,qh call50 (Z3l.ok aq a1 au av))]<|.ret [] [] [] ⟨[(5,qi au)],[],0⟩)
def Zf.l0 (a0:List (List Zi)) (a1:List Zh) (aa:Int) (ad:Int) (ae:Int) (af:Int) (ah:Int) (ai:Int) (aj:Int) (ak:Bool) (al:List ByteArray) (am:Int) (an:Int):Option Int:=if(decide (am<an))=true then((at? a0 (i64.wrap (Int.fdiv (u64.wrap (i64.wrap (am+an))) 2)))>>=fun ap=>(Z0s.f ap a1 aa ad ae af ah ai aj ak al)>>=fun aq=>((if(decide (aq<0))=true then(some (i64.wrap ((i64.wrap (Int.fdiv (u64.wrap (i64.wrap (am+an))) 2))+1),an)) else(some (am,i64.wrap (Int.fdiv (u64.wrap (i64.wrap (am+an))) 2)))):Option (Int×Int))>>=fun oo=>match oo with | (ar,au)=>(Zf.l0 a0 a1 aa ad ae af ah ai aj ak al ar au)) else(some am)
partial_fixpoint
def Zf.f (a0:List (List Zi)) (a1:List Zh) (aa:Int) (ad:Int) (ae:Int) (af:Int) (ah:Int) (ai:Int) (aj:Int) (ak:Bool) (al:List ByteArray):Option (Int×Bool):=(Zf.l0 a0 a1 aa ad ae af ah ai aj ak al 0 (a0.length:Int))>>=fun am=>((if(decide (am<(a0.length:Int)))=true then((at? a0 am)>>=fun an=>(Z0s.f an a1 aa ad ae af ah ai aj ak al)>>=fun ap=>some (ap==0)) else(some false)):Option Bool)>>=fun aq=>some (am,aq)
theorem Zf.ok (a0:List (List Zi)) (a1:List Zh) (aa:Int) (ad:Int) (ae:Int) (af:Int) (ah:Int) (ai:Int) (aj:Int) (ak:Bool) (al:List ByteArray):FN 48 [.im (.row (a0.map (Z3c Zk))),.im (.row (a1.map Zq)),.fn 49 [.ip [iI .i64 aa,iI .u64 ad,iI .u64 ae,iI .i64 af,iI .i64 ah,iI .i64 ai,iI .i64 aj,.sc (.pointer none),bI ak,.row (al.map Z11)]]] [] 0 (Zf.f a0 a1 aa ad ae af ah ai aj ak al) (fun r=>.tup [qi r.1,bV r.2]) (fun r=>[]):=FT [] func48 (.r0<|.rg [(1,hG (Z3c Zk) a0)]<|.r0<|.bl<|.loop (.c2 (Zf.l0.partial_correctness a0 a1 aa ad ae af ah ai aj ak al)) (0,(a0.length:Int)) [] [] [] (fun _=>.pr fun am=>.one (fun an=>⟨[(0,.im (.row (a0.map (Z3c Zk)))),(1,.im (.row (a1.map Zq))),(2,.fn 49 [.ip [iI .i64 aa,iI .u64 ad,iI .u64 ae,iI .i64 af,iI .i64 ah,iI .i64 ai,iI .i64 aj,.sc (.pointer none),bI ak,.row (al.map Z11)]]),(8,qi (a0.length:Int)),(9,qi am),(10,qi an)],[],0⟩) fun an=>.r0<|.cd (fun ap=>.bl<|.rg [(4,hK 1)]<|.el fun aq ar au=>.bd fun av aw=>.rg [(3,hA (Z3c Zk) ar au),(6,qh call49 (Z0s.ok aq a1 aa ad ae af ah ai aj ak al av aw))]<|.join (.cd (fun ax=>.r0<|.o [])
 (fun ax=>.r0<|.o []))
 (.pr fun ay=>.st .normal (fun az=>⟨[(0,.im (.row (a0.map (Z3c Zk)))),(1,.im (.row (a1.map Zq))),(2,.fn 49 [.ip [iI .i64 aa,iI .u64 ad,iI .u64 ae,iI .i64 af,iI .i64 ah,iI .i64 ai,iI .i64 aj,.sc (.pointer none),bI ak,.row (al.map Z11)]]),(8,qi (a0.length:Int)),(9,qi ay),(10,qi az)],[],0⟩) fun az=>.bk [] rfl))
 (fun ap=>.o []))
 (.st (.exit 0) (fun a8=>⟨[(0,.im (.row (a0.map (Z3c Zk)))),(1,.im (.row (a1.map Zq))),(2,.fn 49 [.ip [iI .i64 aa,iI .u64 ad,iI .u64 ae,iI .i64 af,iI .i64 ah,iI .i64 ai,iI .i64 aj,.sc (.pointer none),bI ak,.row (al.map Z11)]]),(8,qi (a0.length:Int)),(9,qi a8)],[],0⟩) fun a8=>.join (.sp (fun a9=>.el fun ba bb bc=>.bd fun be bf=>.rg [(4,hB a9),(8,hA (Z3c Zk) bb bc),(11,qh call49 (Z0s.ok ba a1 aa ad ae af ah ai aj ak al be bf))]<|.o [])
 (fun a9=>.rg [(4,hB a9)]<|.o []))
 (.st .normal (fun bg=>⟨[(6,qi a8),(7,bV bg)],[],0⟩) fun bg=>.ret [] [] [] ⟨[(6,qi a8),(7,bV bg)],[],0⟩)))
def Zt.l0 (a0_0:Int) (a0_1:Int) (a0_2:Int) (a0_3:Int) (a0_4:Int) (a0_5:Int) (a0_6:Int) (a0_8:Bool) (a0_9:List ByteArray) (a1:List Zi) (x1:List (List Zi)) (x2:Int):Option (List (List Zi)):=if(decide (x2<(a1.length:Int)))=true then((at? a1 x2)>>=fun b1=>(if a0_8=true then Z43.f b1.f0 a0_9 else some b1.f0)>>=fun y=>(Zf.f x1 y a0_0 a0_1 a0_2 a0_3 a0_4 a0_5 a0_6 a0_8 a0_9)>>=fun t1=>(if(!t1.2)=true then(chk ((t1.1≤(x1.length:Int))∧(x1.length+1)*24≤140737488355328))>>=fun _=>some (x1.take t1.1.toNat++[]::x1.drop t1.1.toNat) else some x1)>>=fun z=>(at? z t1.1)>>=fun g=>(chk ((g.length+1)*48≤140737488355328))>>=fun _=>Zt.l0 a0_0 a0_1 a0_2 a0_3 a0_4 a0_5 a0_6 a0_8 a0_9 a1 (z.set t1.1.toNat (g++[b1])) (i64.wrap (x2+1))) else some x1
partial_fixpoint
def Zt.f (a0_0:Int) (a0_1:Int) (a0_2:Int) (a0_3:Int) (a0_4:Int) (a0_5:Int) (a0_6:Int) (a0_8:Bool) (a0_9:List ByteArray) (a1:List Zi):Option (List (List Zi)):=Zt.l0 a0_0 a0_1 a0_2 a0_3 a0_4 a0_5 a0_6 a0_8 a0_9 a1 [] 0
theorem Zt.ee (r:List (List Zi)):(r.map (fun es=>es.map Zk)).map (fun es=>[Im.row es])=r.map (Z3c Zk):=by rw[List.map_map];rfl
theorem Zt.fx (u:List Value) (n:Nat) (x:Value) (c1 c2:List AVal):((Z1t u).set n c1).set n c2=(Z1t (u.set n x)).set n c2:=by
 simp only[Z1t,List.map_set,List.set_set]
def Zt.st (a0_0:Int) (a0_1:Int) (a0_2:Int) (a0_3:Int) (a0_4:Int) (a0_5:Int) (a0_6:Int) (a0_8:Bool) (a0_9:List ByteArray) (a1:List Zi) (u:List Value) (x2:Int):Z3:=⟨[(2,.ptr 10 0 0),(5,.own 20),(11,.im (.row (a1.map Zk))),(12,qi (a1.length:Int)),(13,qi x2)],[(10,some (.box 39 [qi a0_0,qu a0_1,qu a0_2,qi a0_3,qi a0_4,qi a0_5,qi a0_6,.im (.sc (.pointer none)),bV a0_8,.im (.row (a0_9.map Z11))])),(20,some (.row 1 26 (Z0d u)))],0⟩
abbrev q3:=@RW _ 2 60 Zk
theorem Zt.ok (a0_0:Int) (a0_1:Int) (a0_2:Int) (a0_3:Int) (a0_4:Int) (a0_5:Int) (a0_6:Int) (a0_8:Bool) (a0_9:List ByteArray) (a1:List Zi) (r:List (List Zi)) (H:Zt.f a0_0 a0_1 a0_2 a0_3 a0_4 a0_5 a0_6 a0_8 a0_9 a1=some r):Pv.Fn Tryz.prog 25 [.agg [qi a0_0,qu a0_1,qu a0_2,qi a0_3,qi a0_4,qi a0_5,qi a0_6,.im (.sc (.pointer none)),bV a0_8,.im (.row (a0_9.map Z11))],.im (.row (a1.map Zk))] [] 0 (fun x o=>x = .im (.row (r.map (Z3c Zk)))∧o=[]):=by
 unfold Zt.f at H;refine Fn.body0 func25 rfl rfl (fun Γ hP hn => ?_);have hm:Tryz.prog.follows .mixedOrders=true:=by kernel_rfl
 replace hn:Γ.n=51:=hn;refine sO hP hn hm [(0,.k 10)] [(2,.ptr 10 0 0)] [1,2] [(10,some (.box 39 [qi a0_0,qu a0_1,qu a0_2,qi a0_3,qi a0_4,qi a0_5,qi a0_6,.im (.sc (.pointer none)),bV a0_8,.im (.row (a0_9.map Z11))]))] [10] ?_;refine sO hP hn hm [] [(5,.none0)] [1,2,5] [] [10] ?_;refine AWp.conv (inv:=[(10,10)]) (vk:=[]) (e0:=[20]) (t:=⟨[(1,.im (.row (a1.map Zk))),(2,.ptr 10 0 0),(5,.own 20)],[(10,some (.box 39 [qi a0_0,qu a0_1,qu a0_2,qi a0_3,qi a0_4,qi a0_5,qi a0_6,.im (.sc (.pointer none)),bV a0_8,.im (.row (a0_9.map Z11))])),(20,some (.row 1 26 (Z0d [])))],0⟩) (by kernel_rfl) ?_
 refine AWp.nest (sz:=2) (el:=60) ?_;refine GWp.seq ?_;refine GWp.seq ?_;refine gR hP hn hm [(1,.any (qi (a1.length:Int)))] [(11,.im (.row (a1.map Zk))),(12,qi (a1.length:Int)),(13,qi 0)] [2,5,11,12,13] [] [10,20] [((a1.map Zk).length:Int)=(a1.length:Int)] ⟨by rw[len_map],trivial⟩ ?_;refine GWp.block ?_;refine GWp.loopB (fun body hbody => ?_);have main:∀ x1 x2 o,Zt.l0 a0_0 a0_1 a0_2 a0_3 a0_4 a0_5 a0_6 a0_8 a0_9 a1 x1 x2=some o→∀ u Bs,GLWp Γ body (fun e s g=>e = .exit 0∧s.get 5 = .own 20∧s.floor=0∧∃ u Bs,s.obj 20=some (.row 1 26 (Z0d u))∧g=nest 2 60 u (o.map (fun es=>es.map Zk)) Bs) (Zt.st a0_0 a0_1 a0_2 a0_3 a0_4 a0_5 a0_6 a0_8 a0_9 a1 u x2) (nest 2 60 u (x1.map (fun es=>es.map Zk)) Bs):=by
  intro x1 x2 o e1;refine Zt.l0.partial_correctness a0_0 a0_1 a0_2 a0_3 a0_4 a0_5 a0_6 a0_8 a0_9 a1 (motive:=fun x1 x2 o=>∀ u Bs,GLWp Γ body (fun e s g=>e = .exit 0∧s.get 5 = .own 20∧s.floor=0∧∃ u Bs,s.obj 20=some (.row 1 26 (Z0d u))∧g=nest 2 60 u (o.map (fun es=>es.map Zk)) Bs) (Zt.st a0_0 a0_1 a0_2 a0_3 a0_4 a0_5 a0_6 a0_8 a0_9 a1 u x2) (nest 2 60 u (x1.map (fun es=>es.map Zk)) Bs)) ?_ _ _ _ e1;clear H e1 o x1 x2;intro self ih x1 x2 o H u Bs;subst hbody;refine GLWp.fact _ nest_len (fun hlen => ?_);obtain⟨hu,_,h1c⟩:=hlen;rw[List.length_map] at hu;refine GLWp.round ?_;refine gS hP hn hm [] [(14,bV (decide (x2<(a1.length:Int))))] [2,5,11,12,13,14] [] [10,20] [] trivial ?_;refine GWp.seq ?_;refine GWp.cond (decide (x2<(a1.length:Int))) (by kernel_rfl) (fun c1 => ?_) (fun c1 => ?_)
  ·replace H:=iT c1 H
   refine GWp.skip ?_;refine GWp.seq ?_;refine GWp.block ?_;obtain⟨b1,hp1,hq1,H⟩:=at_of H;obtain⟨y,ey,H⟩:=Z74 H;obtain⟨t1,et,H⟩:=Z74 H;obtain⟨z,ez,H⟩:=Z74 H;obtain⟨g,pz,qz,H⟩:=at_of H;obtain⟨d1,H⟩:=Zbq H;obtain⟨ti,tb⟩:=t1;simp only at ez pz qz H;obtain⟨n,rfl⟩:=Int.eq_ofNat_of_zero_le pz;simp only[Int.toNat_natCast] at ez qz H;refine gS hP hn hm [(0,.c (Zk b1)),(2,.k 30)] [(7,.ptr 30 0 0)] [2,5,7,11,12,13] [(30,some (.box 60 (Zb2 b1)))] [10,20,30] [_,_] ⟨hp1,el_map Zk hq1,trivial⟩ ?_;refine gS hP hn hm [] [(8,.im (.row (b1.f0.map Zq)))] [2,5,7,8,11,12,13] [] [10,20,30] [] trivial ?_;refine GWp.seq ?_;refine GWp.mono (Q:=fun e s g'=>e = .normal∧s=⟨[(2,.ptr 10 0 0),(5,.own 20),(7,.ptr 30 0 0),(8,.im (.row (y.map Zq))),(11,.im (.row (a1.map Zk))),(12,qi (a1.length:Int)),(13,qi x2),(20,bV a0_8)],[(10,some (.box 39 [qi a0_0,qu a0_1,qu a0_2,qi a0_3,qi a0_4,qi a0_5,qi a0_6,.im (.sc (.pointer none)),bV a0_8,.im (.row (a0_9.map Z11))])),(20,some (.row 1 26 (Z0d u))),(30,some (.box 60 (Zb2 b1)))],0⟩∧g'=nest 2 60 u (x1.map (fun es=>es.map Zk)) Bs) ?_ ?_
   ·refine gS hP hn hm [] [(20,bV a0_8)] [2,5,7,8,11,12,13,20] [] [10,20,30] [] trivial ?_
    refine GWp.cond a0_8 (by kernel_rfl) (fun c2 => ?_) (fun c2 => ?_)
    ·replace ey:=iT c2 ey
     refine gR hP hn hm [(4,.more (xFz (.call [] [(0,33)] [] [33] 0 (.own 0) [q1 0 y])))] [(8,.im (.row (y.map Zq)))] [2,5,7,8,11,12,13,20] [] [10,20,30] [_,Pv.Fn Tryz.prog 47 [.im (.row (b1.f0.map Zq)),.im (.row (a0_9.map Z11))] [] 0 (fun x o=>x = .own 0∧o=[q1 0 y])] ⟨call47,Z43.ok _ _ _ ey,trivial⟩ ⟨rfl,rfl,rfl⟩
    ·replace ey:=sj (iF c2 ey)
     subst ey;exact GWp.skip ⟨rfl,rfl,rfl⟩
   ·rintro e s g' ⟨rfl,rfl,rfl⟩
    refine GWp.seq ?_;refine GWp.view' [(2,.ip [iI .i64 a0_0,iI .u64 a0_1,iI .u64 a0_2,iI .i64 a0_3,iI .i64 a0_4,iI .i64 a0_5,iI .i64 a0_6,.sc (.pointer none),bI a0_8,.row (a0_9.map Z11)]),(5,.im (.row (x1.map (Z3c Zk)))),(8,.im (.row (y.map Zq)))] [(9,.int .i64 (n:Int)),(10,.bool tb)] [2,5,7,11,12,13] ?_ ?_ ?_
    ·intro a w κ I hr hg p hp
     simp only[List.mem_cons,List.not_mem_nil,or_false] at hp;rcases hp with rfl | rfl | rfl
     ·exact see_box hr rfl rfl
     ·have h:=see_nest hr hg (k5:=20) (e5:=26) (x:=5) rfl rfl
      rw[Zt.ee] at h;exact h
     ·exact see_im hr rfl
    ·intro Γ' f1 f2
     refine LAw.run (f1.trans hP) (f2.trans hn) [(2,.more xFunc),(3,.call [] [] [] [] 0 (.tup [qi (n:Int),bV tb]) [])] [(9,qi (n:Int)),(10,bV tb)] [9,10] [] [] [_,Pv.Fn Tryz.prog 48 [.im (.row (x1.map (Z3c Zk))),.im (.row (y.map Zq)),.fn 49 [.ip [iI .i64 a0_0,iI .u64 a0_1,iI .u64 a0_2,iI .i64 a0_3,iI .i64 a0_4,iI .i64 a0_5,iI .i64 a0_6,.sc (.pointer none),bI a0_8,.row (a0_9.map Z11)]]] [] 0 (fun x o=>x = .tup [qi (n:Int),bV tb]∧o=[])] ⟨call48,Zf.ok x1 y a0_0 a0_1 a0_2 a0_3 a0_4 a0_5 a0_6 a0_8 a0_9 (n,tb) et,trivial⟩ ?_;intro p hp;simp only[List.mem_cons,List.not_mem_nil,or_false] at hp;rcases hp with rfl | rfl<;>rfl
    ·refine GWp.seq ?_
     refine GWp.mono (Q:=fun e s g'=>e = .normal∧∃ u Bs,u.length=z.length∧s=⟨[(2,.ptr 10 0 0),(5,.own 20),(7,.ptr 30 0 0),(9,qi (n:Int)),(11,.im (.row (a1.map Zk))),(12,qi (a1.length:Int)),(13,qi x2),(34,bV (!tb))],[(10,some (.box 39 [qi a0_0,qu a0_1,qu a0_2,qi a0_3,qi a0_4,qi a0_5,qi a0_6,.im (.sc (.pointer none)),bV a0_8,.im (.row (a0_9.map Z11))])),(20,some (.row 1 26 (Z0d u))),(30,some (.box 60 (Zb2 b1)))],0⟩∧g'=nest 2 60 u (z.map (fun es=>es.map Zk)) Bs) ?_ ?_
     ·refine gS hP hn hm [] [(34,bV (!tb))] [2,5,7,9,11,12,13,34] [] [10,20,30] [] trivial ?_
      refine GWp.cond (!tb) (by kernel_rfl) (fun c3 => ?_) (fun c3 => ?_)
      ·replace ez:=iT c3 ez
       obtain⟨d2,ez⟩:=Zbq ez;obtain rfl:=sj ez;obtain⟨d2,d3⟩:=d2;have hnl:n≤u.length:=by omega
       refine GWp.post ?_;refine gK hP hn hm [(2,.more (xOneC 31)),(3,.call [(20,0),(31,1)] [(2,32)] [] [32] 2 (.own 2) [(0,none),(1,none),(2,some (.row 1 26 (Z0d (u.take n ++ .slice none 0 0::u.drop n))))])] [(5,.own 32)] [2,5,7,9,11,12,13,34] [(32,some (.row 1 26 (Z0d (u.take n ++ .slice none 0 0::u.drop n))))] [10,30,32] [_,Pv.Fn Tryz.prog 51 [.own 0,qi (n:Int),.own 1] [(0,some (.row 1 26 (Z0d u))),(1,some (.row 1 26 (Z0d [.slice none 0 0])))] 2 (fun r o=>r = .own 2∧o=[(0,none),(1,none),(2,some (.row 1 26 (Z0d (u.take n ++ .slice none 0 0::u.drop n))))])] [(10,10),(30,30),(32,20)] [] [] ⟨[(2,.ptr 10 0 0),(5,.own 20),(7,.ptr 30 0 0),(9,qi (n:Int)),(11,.im (.row (a1.map Zk))),(12,qi (a1.length:Int)),(13,qi x2),(34,bV (!tb))],[(10,some (.box 39 [qi a0_0,qu a0_1,qu a0_2,qi a0_3,qi a0_4,qi a0_5,qi a0_6,.im (.sc (.pointer none)),bV a0_8,.im (.row (a0_9.map Z11))])),(20,some (.row 1 26 (Z0d (u.take n ++ .slice none 0 0::u.drop n)))),(30,some (.box 60 (Zb2 b1)))],0⟩ ⟨call51,ins_ok u h1c n hnl (by omega),trivial⟩ rfl ?_;intro a w hs;have hs:=nest_insert (n:=n) (by rw[List.length_map];omega) a w hs;refine⟨_,_,hs,rfl,u.take n ++ .slice none 0 0::u.drop n,Bs.take n++[]::Bs.drop n,?_,rfl,?_⟩
       ·simp;omega
       ·simp only[List.map_append,List.map_cons,List.map_nil,List.map_take,List.map_drop]
      ·replace ez:=sj (iF c3 ez)
       subst ez;exact GWp.skip ⟨rfl,u,Bs,hu,rfl,rfl⟩
     ·rintro e s g' ⟨rfl,u,Bs,hu,rfl,rfl⟩
      obtain⟨hnz,hgz⟩:=List.getElem?_eq_some_iff.1 qz;have hgi:(z.map (fun es=>es.map Zk))[n]'(by rw[List.length_map];exact hnz)=g.map Zk:=by simp[hgz]
      refine GWp.cv (focus (k5:=20) (e5:=26) (k20:=40) (i:=n) rfl (by decide) ?_ (by rw[List.length_map];exact hnz)) ?_
      ·exact Z86 (by kernel_rfl)
      rw[hgi];have hset:n<((Z1t u).set n [.own 40]).length:=by simp[Z1t];omega
      have hget:((Z1t u).set n [.own 40])[n]? = some [.own 40]:=by rw[List.getElem?_set_self (by simp[Z1t];omega)]
      refine GWp.post ?_;refine gX hP hn hm [(4,.more (xIdxP n)),(5,.more (xLoadP n [.own 40])),(7,.app 41 ([b1].map Zk)),(8,.app 42 ((g++[b1]).map Zk)),(9,.more (xIdxP n)),(10,.more (xStoreP n [.own 40]))] [20] [] [2,5,11,12,13] [(20,some (.arow 1 26 [] (((Z1t u).set n [.own 40]).set n [.own 42]))),q3 42 (g++[b1])] [10,20,42] [(MObj.arow 1 26 [] ((Z1t u).set n [.own 40])).has 41=false,(MObj.arow 1 26 [] ((Z1t u).set n [.own 40])).has 42=false,(n:Int)=((([]:List (List Im)).length+n:Nat):Int),n<((Z1t u).set n [.own 40]).length,([]:List (List Im)).length+n=([]:List (List Im)).length+n,((Z1t u).set n [.own 40])[n]? = some [.own 40],[b1].map Zk=[Zk b1],(MObj.arow 1 26 [] ((Z1t u).set n [.own 40])).has 41=false,(g++[b1]).map Zk=(g.map Zk)++([b1].map Zk),∀ c∈([b1].map Zk),c.length=2,∀ c∈([b1].map Zk),Z36 (c.map .im)=true,((g.map Zk).length+([b1].map Zk).length)*48≤140737488355328,(MObj.arow 1 26 [] ((Z1t u).set n [.own 40])).has 42=false,(n:Int)=((([]:List (List Im)).length+n:Nat):Int),n<((Z1t u).set n [.own 40]).length,([]:List (List Im)).length+n=([]:List (List Im)).length+n,((Z1t u).set n [.own 40])[n]? = some [.own 40]] ⟨Z6k (by decide),Z6k (by decide),by simp,hset,rfl,hget,rfl,Z6k (by decide),by simp,by exact Z5b _ _ _ (fun _=>rfl),by exact Z52 _ _ (fun _=>rfl),by simpa using d1,Z6k (by decide),by simp,hset,rfl,hget,trivial⟩ ?_;rw[Zt.fx u n (.slice none 0 0)];intro a w hs;obtain⟨v,B',hs⟩:=unfocus (k5:=20) (e5:=26) (k21:=42) (i:=n) (es:=(g++[b1]).map Zk) rfl rfl (by decide) (by simp;omega) (fun h=>by simp) a w hs;refine⟨_,_,hs,?_⟩;refine gR hP hn hm [] [(13,qi (i64.wrap (x2+1)))] [2,5,11,12,13] [] [10,20] [] trivial ?_;have h:=ih _ _ _ H ((u.set n (.slice none 0 0)).set n v) ((Bs.set n []).set n B');rw[List.map_set] at h;rw[show ∀ q:List (List (List Im)),(q.set n []).set n ((g++[b1]).map Zk)=q.set n ((g++[b1]).map Zk) from fun q=>by rw[List.set_set]];exact h
  ·replace H:=iF c1 H
   obtain rfl:=sj H;exact GWp.exit ⟨rfl,rfl,rfl,u,Bs,rfl,rfl⟩
 refine GLWp.mono (main [] 0 r H [] []) ?_;rintro e s g ⟨rfl,h5,hfl,u,Bs,h20,rfl⟩;show GWp Γ _ _ s _;refine GWp.data (Go.Pv.freeze h20 h5) ?_;rw[Zt.ee,hfl];refine sO hP hn hm [] [(4,.im (.row (r.map (Z3c Zk))))] [4] [] [] ?_;exact AWp.ret ⟨.inl rfl,rfl,rfl⟩
def Z1e.f (a0:List Zv):Option (List Zv):=(chk ((([]:List Zv).length+a0.length)*104≤140737488355328))>>=fun _=>some a0
theorem Z1e.ok (a0 r:List Zv) (H:Z1e.f a0=some r):Pv.Fn Tryz.prog 59 [.im (.row (a0.map Zu))] [] 0 (fun x o=>x = .own 0∧o=[q2 0 r]):=by
 unfold Z1e.f at H;obtain⟨c1,H⟩:=Zbq H;obtain rfl:=sj H;refine Fn.bodyK [0] func59 rfl rfl (fun Γ hP hn => ?_);have hm:Tryz.prog.follows .mixedOrders=true:=by kernel_rfl
 replace hn:Γ.n=8:=hn;refine AWp.seq ?_;refine reg hP hn hm [] [0,2] [] ⟨[(0,.im (.row (a0.map Zu))),(2,.none0)],[],0⟩ [] (by kernel_rfl) trivial ?_;refine AWp.seq ?_;cases a0 with
 | nil =>
  refine AWp.nilSplit 0 rfl (fun b m => ?_);refine AWp.seq ?_;cases b with
  | none =>
   refine reg hP hn hm [(1,.more xNil)] [2,4] [] ⟨[(2,.none0),(4,bV true)],[],0⟩ [] (by kernel_rfl) trivial ?_;refine AWp.cond true rfl (fun _ => ?_) (fun h=>nomatch h);refine AWp.seq ?_;refine reg hP hn hm [] [2] [] ⟨[(2,.none0)],[],0⟩ [] (by kernel_rfl) trivial ?_;refine AWp.conv (inv:=[]) (vk:=[]) (e0:=[0]) (t:=⟨[(2,.own 0)],[(0,some (.row 9 80 []))],0⟩) (by kernel_rfl) ?_
   refine AWp.ret ?_;exact Exists.intro _ (And.intro (fun _ _ h=>h) (And.intro (.inl rfl) (And.intro rfl (And.intro (by kernel_rfl) (by kernel_rfl)))))
  | some b =>
   refine reg hP hn hm [(1,.more xNil)] [0,2,4] [] ⟨[(0,.im (.sc (.slice (some b) 0 m))),(2,.none0),(4,bV false)],[],0⟩ [] (by kernel_rfl) trivial ?_;refine AWp.cond false rfl (fun h=>nomatch h) (fun _ => ?_);refine AWp.skip ?_;refine AWp.unsplit 0 rfl ?_;refine AWp.seq ?_;refine reg hP hn hm [(0,.app 0 ([]:List (List Im))),(2,.app 1 (([]:List Zv).map Zu))] [2] [1] ⟨[(2,.own 1)],[q2 1 ([]:List Zv)],0⟩ [([]:List (List Im))=[],([]:List Zv).map Zu=([]:List (List Im))++([]:List Zv).map Zu,∀ c∈([]:List Zv).map Zu,c.length=9,∀ c∈([]:List Zv).map Zu,Z36 (c.map .im)=true,(([]:List (List Im)).length+(([]:List Zv).map Zu).length)*104≤140737488355328] (by kernel_rfl) ⟨rfl,by simp,by exact Z5b _ _ _ (fun _=>rfl),by exact Z52 _ _ (fun _=>rfl),by simpa using c1,trivial⟩ ?_;refine AWp.conv (inv:=[(1,0)]) (vk:=[]) (e0:=[]) (t:=⟨[(2,.own 0)],[q2 0 ([]:List Zv)],0⟩) (by kernel_rfl) ?_
   refine AWp.ret ?_;exact Exists.intro _ (And.intro (fun _ _ h=>h) (And.intro (.inl rfl) (And.intro rfl (And.intro (by kernel_rfl) (by kernel_rfl)))))
 | cons y l =>
  refine AWp.seq ?_;refine reg hP hn hm [(1,.more xNil)] [0,2,4] [] ⟨[(0,.im (.row ((y::l).map Zu))),(2,.none0),(4,bV false)],[],0⟩ [] (by kernel_rfl) trivial ?_;refine AWp.cond false rfl (fun h=>nomatch h) (fun _ => ?_);refine AWp.skip ?_;refine AWp.seq ?_;refine reg hP hn hm [(0,.app 0 ([]:List (List Im))),(2,.app 1 ((y::l).map Zu))] [2] [1] ⟨[(2,.own 1)],[q2 1 (y::l)],0⟩ [([]:List (List Im))=[],(y::l).map Zu=([]:List (List Im))++(y::l).map Zu,∀ c∈(y::l).map Zu,c.length=9,∀ c∈(y::l).map Zu,Z36 (c.map .im)=true,(([]:List (List Im)).length+((y::l).map Zu).length)*104≤140737488355328] (by kernel_rfl) ⟨rfl,by simp,by exact Z5b _ _ _ (fun _=>rfl),by exact Z52 _ _ (fun _=>rfl),by simpa using c1,trivial⟩ ?_;refine AWp.conv (inv:=[(1,0)]) (vk:=[]) (e0:=[]) (t:=⟨[(2,.own 0)],[q2 0 (y::l)],0⟩) (by kernel_rfl) ?_
  refine AWp.ret ?_;exact Exists.intro _ (And.intro (fun _ _ h=>h) (And.intro (.inl rfl) (And.intro rfl (And.intro (by kernel_rfl) (by kernel_rfl)))))
def Z1q.f (a0:Zv) (aa:Int) (ad:Int):Option Bool:=((if(decide (a0.f0≤aa))=true then(some true) else(some (decide (a0.f0>ad)))):Option Bool)>>=fun ae=>some ae
theorem Z1q.ok (a0:Zv) (aa:Int) (ad:Int):FN 60 [.agg [qi a0.f0,qi a0.f1.f0,qi a0.f1.f1,qi a0.f1.f2,qu a0.f1.f3,qu a0.f1.f4,qi a0.f1.f5,.im (.row (a0.f1.f6.map Z6)),.im (.row (a0.f1.f7.map Z6))],.ptr 0 0 0,.ptr 1 0 0] [(0,some (.box 2 [qi aa])),(1,some (.box 2 [qi ad]))] 2 (Z1q.f a0 aa ad) (fun r=>bV r) (fun r=>[(0,some (.box 2 [qi aa])),(1,some (.box 2 [qi ad]))]):=FT [0,1] func60 (.rg [(0,⟨.k 2,.n⟩)]<|.join (.sp (fun ae=>.rg [(4,hB ae)]<|.o [(0,0),(1,1)])
 (fun ae=>.rg [(4,hB ae)]<|.o [(0,0),(1,1)]))
 (.st .normal (fun af=>⟨[(4,bV af)],[(0,some (.box 2 [qi aa])),(1,some (.box 2 [qi ad]))],2⟩) fun af=>.ret [(0,0),(1,1)] [] [] ⟨[(4,bV af)],[(0,some (.box 2 [qi aa])),(1,some (.box 2 [qi ad]))],2⟩))
def Zn.l0 (a0:List Zv) (aa:Int) (ad:Int) (ae:Int):Option (Int ⊕ Unit):=if(decide (ae<(a0.length:Int)))=true then((at? a0 ae)>>=fun af=>(Z1q.f af aa ad)>>=fun ah=>if ah=true then(some (.inl ae)) else(Zn.l0 a0 aa ad (i64.wrap (ae+1)))) else(some (.inr ()))
partial_fixpoint
def Zn.f (a0:List Zv) (aa:Int) (ad:Int):Option Int:=(Zn.l0 a0 aa ad 0)>>=fun oo=>match oo with | .inl rr=>(some rr) | .inr _=>(some (-1))
theorem Zn.ok (a0:List Zv) (aa:Int) (ad:Int):FN 91 [.own 0,.fn 60 [.ptr 1 0 0,.ptr 2 0 0]] [q2 0 a0,(1,some (.box 2 [qi aa])),(2,some (.box 2 [qi ad]))] 3 (Zn.f a0 aa ad) (fun r=>qi r) (fun r=>[q2 0 a0,(1,some (.box 2 [qi aa])),(2,some (.box 2 [qi ad]))]):=FT [0,1,2] func91 (.r0<|.rg [(1,hG Zu a0)]<|.bl<|.loop (.one (Zn.l0.partial_correctness a0 aa ad)) 0 [(0,0),(1,1),(2,2)] [] [] (fun _=>.one (fun ae=>⟨[(0,.own 0),(1,.fn 60 [.ptr 1 0 0,.ptr 2 0 0]),(7,qi (a0.length:Int)),(8,qi ae)],[q2 0 a0,(1,some (.box 2 [qi aa])),(2,some (.box 2 [qi ad]))],3⟩) fun ae=>.r0<|.cd (fun af=>.bl<|.r0<|.el fun ah ai aj=>.bd fun ak al=>.rg [(3,hX Zu ai aj),(4,hL Zu aj),(5,hC [(1,0),(2,1)] [(0,1),(1,2)] [] [] call60 (Z1q.ok ah aa ad ak al))]<|.cd (fun am=>.r0<|.ret [(0,0),(1,1),(2,2)] [] [] ⟨[(4,qi ae)],[q2 0 a0,(1,some (.box 2 [qi aa])),(2,some (.box 2 [qi ad]))],3⟩)
 (fun am=>.r0<|.bk [(0,0),(1,1),(2,2)] rfl))
 (fun af=>.o [(0,0),(1,1),(2,2)]))
 (.sm (.rt (fun rr=>qi rr) (fun rr=>[q2 0 a0,(1,some (.box 2 [qi aa])),(2,some (.box 2 [qi ad]))]))
 (.st (.exit 0) (fun _=>⟨[],[q2 0 a0,(1,some (.box 2 [qi aa])),(2,some (.box 2 [qi ad]))],3⟩) fun _=>.r0<|.ret [(0,0),(1,1),(2,2)] [] [] ⟨[(4,qi (-1))],[q2 0 a0,(1,some (.box 2 [qi aa])),(2,some (.box 2 [qi ad]))],3⟩)))
def Zj.l0 (aa:Int) (ad:Int) (ae:List Zv) (af:Int) (ah:Int):Option ((List Zv)×Int):=if(decide (ah<(ae.length:Int)))=true then((at? ae ah)>>=fun ai=>(Z1q.f ai aa ad)>>=fun aj=>((if(!aj)=true then((at? ae af)>>=fun ak=>some (ae.set (Int.toNat (af)) ai,i64.wrap (af+1))) else(some (ae,af))):Option ((List Zv)×Int))>>=fun oo=>match oo with | (al,am)=>(Zj.l0 aa ad al am (i64.wrap (ah+1)))) else(some (ae,af))
partial_fixpoint
def Zj.f (a0:List Zv) (aa:Int) (ad:Int):Option (List Zv):=(Zn.f a0 aa ad)>>=fun ae=>if(ae==(-1))=true then(some a0) else((Zj.l0 aa ad a0 ae (i64.wrap (ae+1)))>>=fun oo=>match oo with | (af,ah)=>((chk (0≤ah∧ah≤(af.length:Int)))>>=fun _=>(chk (0≤ah∧ah≤((af.take (Int.toNat ah)++List.replicate (af.length-(Int.toNat ah)) (⟨0,(⟨0,0,0,0,0,0,[],[]⟩:Z1)⟩:Zv)).length:Int)))>>=fun _=>some ((af.take (Int.toNat ah)++List.replicate (af.length-(Int.toNat ah)) (⟨0,(⟨0,0,0,0,0,0,[],[]⟩:Z1)⟩:Zv)).take (Int.toNat (ah)))))
theorem Zj.ok (a0:List Zv) (aa:Int) (ad:Int):FN 58 [.own 0,.fn 60 [.ptr 1 0 0,.ptr 2 0 0]] [q2 0 a0,(1,some (.box 2 [qi aa])),(2,some (.box 2 [qi ad]))] 3 (Zj.f a0 aa ad) (fun r=>.own 3) (fun r=>[(0,none),(1,some (.box 2 [qi aa])),(2,some (.box 2 [qi ad])),q2 3 r]):=FT [0,1,2,3] func58 (.r0<|.bd fun ae af=>.rg [(2,hC [(0,0),(1,1),(2,2)] [(0,0),(1,1),(2,2)] [] [] call91 (Zn.ok a0 aa ad ae af))]<|.r0<|.cd (fun ah=>.r0<|.ret [(0,3),(1,1),(2,2)] [] [] ⟨[(4,.own 3)],[(1,some (.box 2 [qi aa])),(2,some (.box 2 [qi ad])),q2 3 a0],3⟩)
 (fun ah=>.r0<|.bl<|.loop (.c3 (Zj.l0.partial_correctness aa ad)) (a0,ae,i64.wrap (ae+1)) [(0,0),(1,1),(2,2)] [] [] (fun _=>.pr fun ai=>.pr fun aj=>.one (fun ak=>⟨[(0,.own 0),(1,.fn 60 [.ptr 1 0 0,.ptr 2 0 0]),(5,qi aj),(6,qi ak)],[q2 0 ai,(1,some (.box 2 [qi aa])),(2,some (.box 2 [qi ad]))],3⟩) fun ak=>.rg [(2,hG Zu ai)]<|.cd (fun al=>.bl<|.el fun am an ap=>.rg [(2,hX Zu an ap),(3,hL Zu ap),(4,⟨.k 4,.n⟩)]<|.bd fun aq ar=>.rg [(2,hC [(1,0),(2,1)] [(0,1),(1,2)] [] [] call60 (Z1q.ok am aa ad aq ar))]<|.join (.cd (fun au=>.el fun av aw ax=>.rg [(3,hX Zu aw ax),(4,hS Zu am 0 [iI .i64 am.f0,iI .i64 am.f1.f0,iI .i64 am.f1.f1,iI .i64 am.f1.f2,iI .u64 am.f1.f3,iI .u64 am.f1.f4,iI .i64 am.f1.f5,.row (am.f1.f6.map Z6),.row (am.f1.f7.map Z6)] ax)]<|.r0<|.o [(0,0),(1,1),(2,2)])
 (fun au=>.o [(0,0),(1,1),(2,2)]))
 (.pr fun ay=>.st .normal (fun az=>⟨[(0,.own 0),(1,.fn 60 [.ptr 1 0 0,.ptr 2 0 0]),(5,qi az),(6,qi ak)],[q2 0 ay,(1,some (.box 2 [qi aa])),(2,some (.box 2 [qi ad]))],3⟩) fun az=>.r0<|.bk [(0,0),(1,1),(2,2)] rfl))
 (fun al=>.o [(0,0),(1,1),(2,2)]))
 (.pr fun a8=>.st (.exit 0) (fun a9=>⟨[(0,.own 0),(5,qi a9)],[q2 0 a8,(1,some (.box 2 [qi aa])),(2,some (.box 2 [qi ad]))],3⟩) fun a9=>.ck fun ba=>.rg [(2,⟨.more (xCutOwn (Int.toNat a9) (a8.length-(Int.toNat a9))),.c (p:=a9=(((Int.toNat a9):Nat):Int)) ((Int.toNat_of_nonneg ba.1).symm) (.c (p:=(Int.toNat a9)+(a8.length-(Int.toNat a9))=(a8.map Zu).length) (by have h:=ba;rw[List.length_map];omega) .n)⟩),(3,⟨.more (xClear ((a8.take (Int.toNat a9)++List.replicate (a8.length-(Int.toNat a9)) (⟨0,(⟨0,0,0,0,0,0,[],[]⟩:Z1)⟩:Zv)).map Zu)),.c (p:=(a8.take (Int.toNat a9)++List.replicate (a8.length-(Int.toNat a9)) (⟨0,(⟨0,0,0,0,0,0,[],[]⟩:Z1)⟩:Zv)).map Zu=(a8.map Zu).take (Int.toNat a9)++List.replicate (a8.length-(Int.toNat a9)) [iI .i64 0,iI .i64 0,iI .i64 0,iI .i64 0,iI .u64 0,iI .u64 0,iI .i64 0,.row [],.row []]) (by simp) (.c (p:=(Int.toNat a9)+(a8.length-(Int.toNat a9))=(a8.map Zu).length) (by have h:=ba;rw[List.length_map];omega) .n)⟩)]<|.ck fun bb=>.rg [(2,⟨.more (xTake 5 (((a8.take (Int.toNat a9)++List.replicate (a8.length-(Int.toNat a9)) (⟨0,(⟨0,0,0,0,0,0,[],[]⟩:Z1)⟩:Zv)).take (Int.toNat (a9))).map Zu)),.c (bb.1) (.c (p:=a9≤(((a8.take (Int.toNat a9)++List.replicate (a8.length-(Int.toNat a9)) (⟨0,(⟨0,0,0,0,0,0,[],[]⟩:Z1)⟩:Zv)).map Zu).length:Int)) (by simpa using bb.2) (.c (p:=((a8.take (Int.toNat a9)++List.replicate (a8.length-(Int.toNat a9)) (⟨0,(⟨0,0,0,0,0,0,[],[]⟩:Z1)⟩:Zv)).take (Int.toNat (a9))).map Zu=((a8.take (Int.toNat a9)++List.replicate (a8.length-(Int.toNat a9)) (⟨0,(⟨0,0,0,0,0,0,[],[]⟩:Z1)⟩:Zv)).map Zu).take (Int.toNat (a9))) (by simp) .n))⟩)]<|.ret [(1,1),(2,2),(5,3)] [] [] ⟨[(4,.own 3)],[(1,some (.box 2 [qi aa])),(2,some (.box 2 [qi ad])),q2 3 ((a8.take (Int.toNat a9)++List.replicate (a8.length-(Int.toNat a9)) (⟨0,(⟨0,0,0,0,0,0,[],[]⟩:Z1)⟩:Zv)).take (Int.toNat (a9)))],3⟩)))
def Z44.f (a0:List Zv) (a1:Int) (a2:Int):Option (List Zv):=(Z1e.f a0)>>=fun aa=>(Zj.f aa a1 a2)>>=fun ad=>some ad
theorem Z44.ok (a0:List Zv) (a1:Int) (a2:Int):FN 32 [.im (.row (a0.map Zu)),qi a1,qi a2] [] 0 (Z44.f a0 a1 a2) (fun r=>.own 0) (fun r=>[q2 0 r]):=FT [0] func32 (.rg [(0,⟨.k 0,.n⟩),(1,⟨.k 1,.n⟩)]<|.bd fun aa ad=>.bd fun ae af=>.rg [(1,hC [] [(0,2)] [] [2] call59 (Z1e.ok a0 aa ad)),(2,⟨.more xFunc,.n⟩),(3,hC [(2,0),(0,1),(1,2)] [(1,0),(2,1),(3,3)] [] [3] call58 (Zj.ok aa a1 a2 ae af))]<|.ret [(3,0)] [] [] ⟨[(6,.own 0)],[q2 0 ae],0⟩)
def Z4g.f (a0:Int) (a1:Int):Option Z1:=some (⟨a0,a1,(-524288),0,0,0,[],[]⟩:Z1)
theorem Z4g.ok (a0:Int) (a1:Int):FN 61 [qi a0,qi a1] [] 0 (Z4g.f a0 a1) (fun r=>.agg (Zo (r))) (fun r=>[]):=FT [] func61 (.rg [(0,⟨.k 0,.n⟩)]<|.r0<|.ret [(0,0)] [] [] ⟨[(4,.ptr 0 0 0)],[(0,some (.box 48 (Zo ((⟨a0,a1,(-524288),0,0,0,[],[]⟩:Z1)))))],0⟩)
def Z4f.f (a0:Int) (a1:Int):Option (Int×Int):=if(!((decide (a0<a1))==(decide ((i64.wrap (a0-a1))<0))))=true then(some (0,5)) else(some (i64.wrap (a0-a1),0))
theorem Z4f.ok (a0:Int) (a1:Int):FN 92 [qi a0,qi a1] [] 0 (Z4f.f a0 a1) (fun r=>.tup [qi r.1,qi r.2]) (fun r=>[]):=FT [] func92 (.r0<|.r0<|.r0<|.cd (fun aa=>.r0<|.ret [] [] [] ⟨[(4,qi 0),(5,qi 5)],[],0⟩)
 (fun aa=>.r0<|.ret [] [] [] ⟨[(4,qi (i64.wrap (a0-a1))),(5,qi 0)],[],0⟩))
def Z02.f (a0:Int):Option Bool:=((if(decide (a0≥(-4)))=true then(some (decide (a0≤8))) else(some false)):Option Bool)>>=fun aa=>some aa
theorem Z02.ok (a0:Int):FN 157 [qi a0] [] 0 (Z02.f a0) (fun r=>bV r) (fun r=>[]):=FT [] func157 (.r0<|.join (.sp (fun aa=>.rg [(2,hB aa)]<|.o [])
 (fun aa=>.rg [(2,hB aa)]<|.o []))
 (.st .normal (fun ad=>⟨[(2,bV ad)],[],0⟩) fun ad=>.ret [] [] [] ⟨[(2,bV ad)],[],0⟩))
def Z3h.f (a0:Int):Option Unit:=some ()
theorem Z3h.ok (a0:Int):FN 167 [qi a0] [] 0 (Z3h.f a0) (fun r=>qu (u64.wrap (i64.wrap ((8:Int)-a0)))) (fun r=>[]):=FT [] func167 (.r0<|.r0<|.ret [] [] [] ⟨[(2,qu (u64.wrap (i64.wrap ((8:Int)-a0))))],[],0⟩)
def Z3n.f (a0:Int):Option Int:=(Z02.f a0)>>=fun aa=>if(!aa)=true then(some 0) else((Z3h.f a0)>>=fun ad=>(chk (0≤(u64.wrap (i64.wrap ((8:Int)-a0)))))>>=fun _=>some (Int.fdiv (262144:Int) (2 ^ (min (Int.toNat (u64.wrap (i64.wrap ((8:Int)-a0)))) 64))))
theorem Z3n.ok (a0:Int):FN 183 [qi a0] [] 0 (Z3n.f a0) (fun r=>qi r) (fun r=>[]):=FT [] func183 (.r0<|.bd fun aa ad=>.rg [(1,qh call157 (Z02.ok a0 aa ad))]<|.cd (fun ae=>.r0<|.ret [] [] [] ⟨[(2,qi 0)],[],0⟩)
 (fun ae=>.bd fun af ah=>.ck fun ai=>.rg [(1,qh call167 (Z3h.ok a0 af ah)),(2,hN (p1 ai))]<|.ret [] [] [] ⟨[(2,qi (Int.fdiv (262144:Int) (2 ^ (min (Int.toNat (u64.wrap (i64.wrap ((8:Int)-a0)))) 64))))],[],0⟩))
def Z45.f (a0:Int):Option Int:=(Z3n.f a0)>>=fun aa=>some (i64.wrap ((i64.wrap (0-aa))+1))
theorem Z45.ok (a0:Int):FN 182 [qi a0] [] 0 (Z45.f a0) (fun r=>qi r) (fun r=>[]):=FT [] func182 (.r0<|.bd fun aa ad=>.rg [(1,qh call183 (Z3n.ok a0 aa ad))]<|.ret [] [] [] ⟨[(2,qi (i64.wrap ((i64.wrap (0-aa))+1)))],[],0⟩)
def Z4h.f (a0:Int) (a1:Int):Option Bool:=(((Z02.f a0)>>=fun aa=>if aa=true then((Z45.f a0)>>=fun ad=>if(decide (a1≥ad))=true then((Z3n.f a0)>>=fun ae=>some (decide (a1≤ae))) else(some false)) else(some false)):Option Bool)>>=fun af=>some af
theorem Z4h.ok (a0:Int) (a1:Int):FN 176 [qi a0,qi a1] [] 0 (Z4h.f a0 a1) (fun r=>bV r) (fun r=>[]):=FT [] func176 (.r0<|.join (.bd fun aa ad=>.sp (fun ae=>.bd fun af ah=>.sp (fun ai=>.bd fun aj ak=>.rg [(1,qh call157 (Z02.ok a0 aa ad)),(2,hB ae),(5,qh call182 (Z45.ok a0 af ah)),(8,hB ai),(11,qh call183 (Z3n.ok a0 aj ak))]<|.o [])
 (fun ai=>.rg [(1,qh call157 (Z02.ok a0 aa ad)),(2,hB ae),(5,qh call182 (Z45.ok a0 af ah)),(8,hB ai)]<|.o []))
 (fun ae=>.rg [(1,qh call157 (Z02.ok a0 aa ad)),(2,hB ae)]<|.o []))
 (.st .normal (fun al=>⟨[(4,bV al)],[],0⟩) fun al=>.ret [] [] [] ⟨[(4,bV al)],[],0⟩))
def Z87.f (a0:Int) (a1:Int):Option Unit:=(chk (0≤a1))>>=fun _=>some ()
theorem Z87.ok (a0:Int) (a1:Int):FN 179 [qi a0,qu a1] [] 0 (Z87.f a0 a1) (fun r=>qi (i64.wrap (0-(Int.fdiv (i64.wrap (0-a0)) (2 ^ (min (Int.toNat (a1)) 64)))))) (fun r=>[]):=FT [] func179 (.r0<|.ck fun aa=>.rg [(3,hN (p1 aa))]<|.ret [] [] [] ⟨[(4,qi (i64.wrap (0-(Int.fdiv (i64.wrap (0-a0)) (2 ^ (min (Int.toNat (a1)) 64))))))],[],0⟩)
def Z5l.f (a0:Int) (a1:Int) (a2:Int):Option (Int×Int):=(((Z02.f a0)>>=fun aa=>if(!aa)=true then(some true) else((Z02.f a1)>>=fun ad=>if(!ad)=true then(some true) else(some (decide (a1>a0))))):Option Bool)>>=fun ae=>if ae=true then(some (0,20)) else((Z4h.f a0 a2)>>=fun af=>if(!af)=true then(some (0,4)) else((Z87.f a2 (u64.wrap (i64.wrap (a0-a1))))>>=fun ah=>some (i64.wrap (0-(Int.fdiv (i64.wrap (0-a2)) (2 ^ (min (Int.toNat ((u64.wrap (i64.wrap (a0-a1))))) 64)))),0)))
theorem Z5l.ok (a0:Int) (a1:Int) (a2:Int):FN 171 [qi a0,qi a1,qi a2] [] 0 (Z5l.f a0 a1 a2) (fun r=>.tup [qi r.1,qi r.2]) (fun r=>[]):=FT [] func171 (.r0<|.bl<|.join (.bd fun aa ad=>.sp (fun ae=>.rg [(1,qh call157 (Z02.ok a0 aa ad)),(3,hB ae)]<|.o [])
 (fun ae=>.bd fun af ah=>.sp (fun ai=>.rg [(1,qh call157 (Z02.ok a0 aa ad)),(3,hB ae),(5,qh call157 (Z02.ok a1 af ah)),(8,hB ai)]<|.o [])
 (fun ai=>.rg [(1,qh call157 (Z02.ok a0 aa ad)),(3,hB ae),(5,qh call157 (Z02.ok a1 af ah)),(8,hB ai)]<|.o [])))
 (.st .normal (fun aj=>⟨[(0,qi a0),(1,qi a1),(2,qi a2),(8,bV aj)],[],0⟩) fun aj=>.cd (fun ak=>.r0<|.ret [] [] [] ⟨[(6,qi 0),(7,qi 20)],[],0⟩)
 (fun ak=>.bd fun al am=>.rg [(2,qh call176 (Z4h.ok a0 a2 al am))]<|.cd (fun an=>.r0<|.ret [] [] [] ⟨[(6,qi 0),(7,qi 4)],[],0⟩)
 (fun an=>.bd fun ap aq=>.rg [(5,qh call179 (Z87.ok a2 (u64.wrap (i64.wrap (a0-a1))) ap aq))]<|.ret [] [] [] ⟨[(6,qi (i64.wrap (0-(Int.fdiv (i64.wrap (0-a2)) (2 ^ (min (Int.toNat ((u64.wrap (i64.wrap (a0-a1))))) 64)))))),(7,qi 0)],[],0⟩))))
def Z27.l0 (a0:List Z0) (a1:Int) (a2:Int) (aa:List Z0) (ad:Int):Option (List Z0):=if(decide (ad<(a0.length:Int)))=true then((at? a0 ad)>>=fun ae=>(Z5l.f a1 a2 ae.f0)>>=fun af=>(chk ((aa.length+[(⟨af.1,ae.f1⟩:Z0)].length)*16≤140737488355328))>>=fun _=>Z27.l0 a0 a1 a2 (aa++[(⟨af.1,ae.f1⟩:Z0)]) (i64.wrap (ad+1))) else(some aa)
partial_fixpoint
def Z27.f (a0:List Z0) (a1:Int) (a2:Int):Option (List Z0):=(Z27.l0 a0 a1 a2 [] 0)>>=fun aa=>some aa
abbrev q4:=@RW _ 2 132 Z6
theorem Z27.ok (a0:List Z0) (a1:Int) (a2:Int):FN 158 [.im (.row (a0.map Z6)),qi a1,qi a2] [] 0 (Z27.f a0 a1 a2) (fun r=>.own 0) (fun r=>[q4 0 r]):=FT [0] func158 (.r0<|.r0<|.rg [(1,hG Z6 a0)]<|.bl<|.loop (.c2 (Z27.l0.partial_correctness a0 a1 a2)) ([],0) [] [] [3] (fun _=>.pr fun aa=>.one (fun ad=>⟨[(1,qi a1),(2,qi a2),(7,.own 3),(10,.im (.row (a0.map Z6))),(11,qi (a0.length:Int)),(12,qi ad)],[q4 3 aa],0⟩) fun ad=>.r0<|.cd (fun ae=>.bl<|.el fun af ah ai=>.rg [(0,hA Z6 ah ai),(2,⟨.k 4,.n⟩)]<|.bd fun aj ak=>.rg [(4,qh call171 (Z5l.ok a1 a2 af.f0 aj ak))]<|.ck fun al=>.rg [(2,hQ 5 Z6 ([(⟨aj.1,af.f1⟩:Z0)]:List Z0)),(3,hP 6 Z6 2 al)]<|.r0<|.bk [(6,3)] rfl)
 (fun ae=>.o [(3,7)]))
 (.st (.exit 0) (fun am=>⟨[(7,.own 7)],[q4 7 am],0⟩) fun am=>.r0<|.ret [(7,0)] [] [] ⟨[(6,.own 0)],[q4 0 am],0⟩))
def Z10.f (a0:Int) (a1:Int):Option Int:=(Z02.f a0)>>=fun aa=>if(!aa)=true then(some 0) else((Z3h.f a0)>>=fun ad=>(chk (0≤(u64.wrap (i64.wrap ((8:Int)-a0)))))>>=fun _=>some (i64.wrap (a1*2 ^ (min (Int.toNat (u64.wrap (i64.wrap ((8:Int)-a0)))) 64))))
theorem Z10.ok (a0:Int) (a1:Int):FN 152 [qi a0,qi a1] [] 0 (Z10.f a0 a1) (fun r=>qi r) (fun r=>[]):=FT [] func152 (.r0<|.bd fun aa ad=>.rg [(1,qh call157 (Z02.ok a0 aa ad))]<|.cd (fun ae=>.r0<|.ret [] [] [] ⟨[(4,qi 0)],[],0⟩)
 (fun ae=>.bd fun af ah=>.ck fun ai=>.rg [(2,qh call167 (Z3h.ok a0 af ah)),(3,hN (p1 ai))]<|.ret [] [] [] ⟨[(4,qi (i64.wrap (a1*2 ^ (min (Int.toNat (u64.wrap (i64.wrap ((8:Int)-a0)))) 64))))],[],0⟩))
def Z2m.f (a0:Int) (a1:Int):Option Int:=(Z10.f a0 (i64.wrap (a1-1)))>>=fun aa=>some aa
theorem Z2m.ok (a0:Int) (a1:Int):FN 151 [qi a0,qi a1] [] 0 (Z2m.f a0 a1) (fun r=>qi r) (fun r=>[]):=FT [] func151 (.r0<|.bd fun aa ad=>.rg [(3,qh call152 (Z10.ok a0 (i64.wrap (a1-1)) aa ad))]<|.ret [] [] [] ⟨[(4,qi aa)],[],0⟩)
def Z26.l0 (a0:Z1) (a1:List Z0) (a2:Int) (aa:Int):Option (Int ⊕ Unit):=if(decide (aa<(a1.length:Int)))=true then((at? a1 aa)>>=fun ad=>(((Z2m.f a0.f1 ad.f0)>>=fun ae=>if(decide (ae<a2))=true then((Z10.f a0.f1 ad.f0)>>=fun af=>some (decide (a2<af))) else(some false)):Option Bool)>>=fun ah=>if ah=true then((Z10.f a0.f1 ad.f0)>>=fun ai=>some (.inl ai)) else(Z26.l0 a0 a1 a2 (i64.wrap (aa+1)))) else(some (.inr ()))
partial_fixpoint
def Z26.f (a0:Z1) (a1:List Z0) (a2:Int):Option Int:=(Z26.l0 a0 a1 a2 0)>>=fun oo=>match oo with | .inl rr=>(some rr) | .inr _=>(some a2)
theorem Z26.ok (a0:Z1) (a1:List Z0) (a2:Int):FN 172 [.agg (Zo a0),.im (.row (a1.map Z6)),qi a2] [] 0 (Z26.f a0 a1 a2) (fun r=>qi r) (fun r=>[]):=FT [] func172 (.rg [(0,⟨.k 0,.n⟩)]<|.rg [(1,hG Z6 a1)]<|.bl<|.loop (.one (Z26.l0.partial_correctness a0 a1 a2)) 0 [(0,4)] [] [] (fun _=>.one (fun aa=>⟨[(2,qi a2),(3,.ptr 4 0 0),(9,.im (.row (a1.map Z6))),(10,qi (a1.length:Int)),(11,qi aa)],[(4,some (.box 48 (Zo a0)))],0⟩) fun aa=>.r0<|.cd (fun ad=>.bl<|.el fun ae af ah=>.rg [(0,hA Z6 af ah),(2,⟨.k 5,.n⟩)]<|.join (.bd fun ai aj=>.sp (fun ak=>.bd fun al am=>.rg [(4,qh call151 (Z2m.ok a0.f1 ae.f0 ai aj)),(7,hB ak),(13,qh call152 (Z10.ok a0.f1 ae.f0 al am))]<|.o [(4,6),(5,7)])
 (fun ak=>.rg [(4,qh call151 (Z2m.ok a0.f1 ae.f0 ai aj)),(7,hB ak)]<|.o [(4,6),(5,7)]))
 (.st .normal (fun an=>⟨[(2,qi a2),(3,.ptr 6 0 0),(8,.ptr 7 0 0),(9,.im (.row (a1.map Z6))),(10,qi (a1.length:Int)),(11,qi aa),(30,bV an)],[(6,some (.box 48 (Zo a0))),(7,some (.box 132 (Z62 ae)))],0⟩) fun an=>.cd (fun ap=>.bd fun aq ar=>.rg [(4,qh call152 (Z10.ok a0.f1 ae.f0 aq ar))]<|.ret [] [] [] ⟨[(6,qi aq)],[],0⟩)
 (fun ap=>.r0<|.bk [(6,4)] rfl)))
 (fun ad=>.o []))
 (.sm (.rt (fun rr=>qi rr) (fun rr=>[]))
 (.st (.exit 0) (fun _=>⟨[(2,qi a2)],[],0⟩) fun _=>.r0<|.ret [] [] [] ⟨[(6,qi a2)],[],0⟩)))
def Z1y.l0 (a0:List Int) (aa:Int) (ad:Int):Option ((Int×Int) ⊕ Int):=if(decide (ad<(a0.length:Int)))=true then((at? a0 ad)>>=fun ae=>(chk (0≤aa∧0≤ae∧0≤(0:Int)∧(0:Int)≤1))>>=fun _=>if(((aa+ae+0) / 18446744073709551616) != 0)=true then(some (.inl (0,5))) else(Z1y.l0 a0 ((aa+ae+0) % 18446744073709551616) (i64.wrap (ad+1)))) else(some (.inr aa))
partial_fixpoint
def Z1y.f (a0:List Int):Option (Int×Int):=(Z1y.l0 a0 0 0)>>=fun oo=>match oo with | .inl rr=>(some rr) | .inr aa=>(some (aa,0))
theorem Z1y.ok (a0:List Int):FN 98 [.im (.row (a0.map qv))] [] 0 (Z1y.f a0) (fun r=>.tup [qu r.1,qi r.2]) (fun r=>[]):=FT [] func98 (.r0<|.r0<|.rg [(1,hG qv a0)]<|.bl<|.loop (.c2 (Z1y.l0.partial_correctness a0)) (0,0) [] [] [] (fun _=>.pr fun aa=>.one (fun ad=>⟨[(4,qu aa),(9,.im (.row (a0.map qv))),(10,qi (a0.length:Int)),(11,qi ad)],[],0⟩) fun ad=>.r0<|.cd (fun ae=>.bl<|.el fun af ah ai=>.rg [(0,hA qv ah ai)]<|.ck fun aj=>.rg [(2,⟨.ext (.tup [qu ((aa+af+0) % 18446744073709551616),qu ((aa+af+0) / 18446744073709551616)]),.c (p:=∀ w,(callFunc 140 ([.int .u64 aa,.int .u64 af,.int .u64 (0:Int)]:List Value).toArray).run Tryz.prog w = .ok (.value (.tuple #[.int .u64 ((aa+af+0) % 18446744073709551616),.int .u64 ((aa+af+0) / 18446744073709551616)])) w) (fun w=>x_add64 (fn:=Tryz.f140) func140 (by kernel_rfl) rfl (by kernel_rfl) (by kernel_rfl) aj w) .n⟩)]<|.r0<|.cd (fun ak=>.r0<|.ret [] [] [] ⟨[(2,qu 0),(3,qi 5)],[],0⟩)
 (fun ak=>.r0<|.r0<|.bk [] rfl))
 (fun ae=>.o []))
 (.sm (.rt (fun rr=>.tup [qu rr.1,qi rr.2]) (fun rr=>[]))
 (.st (.exit 0) (fun al=>⟨[(4,qu al)],[],0⟩) fun al=>.r0<|.ret [] [] [] ⟨[(2,qu al),(3,qi 0)],[],0⟩)))
def Z00.l0 (a0:List Z0) (aa:Int) (ad:Int) (ae:Int) (af:Int) (ah:Int) (ai:List Z0) (aj:List Z0) (ak:Int) (al:Int) (am:List Z0) (an:Int):Option ((List Z0)×Int):=if(decide (an<(a0.length:Int)))=true then((at? a0 an)>>=fun ap=>(Z10.f ad ap.f0)>>=fun aq=>((if(decide (aq>ak))=true then((chk ((am.length+[ap].length)*16≤140737488355328))>>=fun _=>some (al,am++[ap])) else((Z1y.f [al,ap.f1])>>=fun ar=>some (ar.1,am))):Option (Int×(List Z0)))>>=fun oo=>match oo with | (au,av)=>(Z00.l0 a0 aa ad ae af ah ai aj ak au av (i64.wrap (an+1)))) else(some (am,al))
partial_fixpoint
def Z00.f (a0:List Z0) (aa:Int) (ad:Int) (ae:Int) (af:Int) (ah:Int) (ai:Int) (aj:List Z0) (ak:List Z0) (al:Int):Option ((List Z0)×Int):=(Z00.l0 a0 aa ad ae ah ai aj ak al af [] 0)>>=fun oo=>match oo with | (am,an)=>(some (am,an))
theorem Z00.ok (a0:List Z0) (aa:Int) (ad:Int) (ae:Int) (af:Int) (ah:Int) (ai:Int) (aj:List Z0) (ak:List Z0) (al:Int):FN 173 [.im (.row (a0.map Z6)),.ptr 0 0 0,.ptr 1 0 0] [(0,some (.box 48 (Zo ⟨aa,ad,ae,af,ah,ai,aj,ak⟩))),(1,some (.box 3 [qi al]))] 2 (Z00.f a0 aa ad ae af ah ai aj ak al) (fun r=>.own 2) (fun r=>[(0,some (.box 48 (Zo ⟨aa,ad,ae,r.2,ah,ai,aj,ak⟩))),(1,some (.box 3 [qi al])),q4 2 r.1]):=FT [0,1,2] func173 (.r0<|.r0<|.rg [(1,hG Z6 a0)]<|.bl<|.loop (.c3 (Z00.l0.partial_correctness a0 aa ad ae ah ai aj ak al)) (af,[],0) [(0,0),(1,1)] [] [7] (fun _=>.pr fun am=>.pr fun an=>.one (fun ap=>⟨[(1,.ptr 0 0 0),(2,.ptr 1 0 0),(5,.own 7),(8,.im (.row (a0.map Z6))),(9,qi (a0.length:Int)),(10,qi ap)],[(0,some (.box 48 (Zo ⟨aa,ad,ae,am,ah,ai,aj,ak⟩))),(1,some (.box 3 [qi al])),q4 7 an],2⟩) fun ap=>.r0<|.cd (fun aq=>.bl<|.el fun ar au av=>.rg [(0,hA Z6 au av),(2,⟨.k 8,.n⟩)]<|.bd fun aw ax=>.rg [(4,qh call152 (Z10.ok ad ar.f0 aw ax))]<|.join (.cd (fun ay=>.ck fun az=>.rg [(2,hQ 9 Z6 ([ar]:List Z0)),(3,hP 10 Z6 2 az)]<|.o [(0,0),(1,1),(10,12)])
 (fun ay=>.bd fun a8 a9=>.rg [(4,hQ 11 qv ([am,ar.f1]:List Int)),(5,hC [] [] [11] [] call98 (Z1y.ok [am,ar.f1] a8 a9))]<|.o [(0,0),(1,1),(7,12)]))
 (.pr fun ba=>.st .normal (fun bb=>⟨[(1,.ptr 0 0 0),(2,.ptr 1 0 0),(5,.own 12),(8,.im (.row (a0.map Z6))),(9,qi (a0.length:Int)),(10,qi ap)],[(0,some (.box 48 (Zo ⟨aa,ad,ae,ba,ah,ai,aj,ak⟩))),(1,some (.box 3 [qi al])),q4 12 bb],2⟩) fun bb=>.r0<|.bk [(0,0),(1,1),(12,7)] rfl))
 (fun aq=>.o [(7,13),(0,0),(1,1)]))
 (.pr fun bc=>.st (.exit 0) (fun be=>⟨[(5,.own 13)],[(0,some (.box 48 (Zo ⟨aa,ad,ae,be,ah,ai,aj,ak⟩))),(1,some (.box 3 [qi al])),q4 13 bc],2⟩) fun be=>.r0<|.ret [(0,0),(1,1),(13,2)] [] [] ⟨[(4,.own 2)],[(0,some (.box 48 (Zo ⟨aa,ad,ae,be,ah,ai,aj,ak⟩))),(1,some (.box 3 [qi al])),q4 2 bc],2⟩))
def Z03.f (a0:List Z0):Option (List Z0):=(chk ((([]:List Z0).length+a0.length)*16≤140737488355328))>>=fun _=>some a0
theorem Z03.ok (a0 r:List Z0) (H:Z03.f a0=some r):Pv.Fn Tryz.prog 64 [.im (.row (a0.map Z6))] [] 0 (fun x o=>x = .own 0∧o=[q4 0 r]):=by
 unfold Z03.f at H;obtain⟨c1,H⟩:=Zbq H;obtain rfl:=sj H;refine Fn.bodyK [0] func64 rfl rfl (fun Γ hP hn => ?_);have hm:Tryz.prog.follows .mixedOrders=true:=by kernel_rfl
 replace hn:Γ.n=8:=hn;refine AWp.seq ?_;refine reg hP hn hm [] [0,2] [] ⟨[(0,.im (.row (a0.map Z6))),(2,.none0)],[],0⟩ [] (by kernel_rfl) trivial ?_;refine AWp.seq ?_;cases a0 with
 | nil =>
  refine AWp.nilSplit 0 rfl (fun b m => ?_);refine AWp.seq ?_;cases b with
  | none =>
   refine reg hP hn hm [(1,.more xNil)] [2,4] [] ⟨[(2,.none0),(4,bV true)],[],0⟩ [] (by kernel_rfl) trivial ?_;refine AWp.cond true rfl (fun _ => ?_) (fun h=>nomatch h);refine AWp.seq ?_;refine reg hP hn hm [] [2] [] ⟨[(2,.none0)],[],0⟩ [] (by kernel_rfl) trivial ?_;refine AWp.conv (inv:=[]) (vk:=[]) (e0:=[0]) (t:=⟨[(2,.own 0)],[(0,some (.row 2 132 []))],0⟩) (by kernel_rfl) ?_
   refine AWp.ret ?_;exact Exists.intro _ (And.intro (fun _ _ h=>h) (And.intro (.inl rfl) (And.intro rfl (And.intro (by kernel_rfl) (by kernel_rfl)))))
  | some b =>
   refine reg hP hn hm [(1,.more xNil)] [0,2,4] [] ⟨[(0,.im (.sc (.slice (some b) 0 m))),(2,.none0),(4,bV false)],[],0⟩ [] (by kernel_rfl) trivial ?_;refine AWp.cond false rfl (fun h=>nomatch h) (fun _ => ?_);refine AWp.skip ?_;refine AWp.unsplit 0 rfl ?_;refine AWp.seq ?_;refine reg hP hn hm [(0,.app 0 ([]:List (List Im))),(2,.app 1 (([]:List Z0).map Z6))] [2] [1] ⟨[(2,.own 1)],[q4 1 ([]:List Z0)],0⟩ [([]:List (List Im))=[],([]:List Z0).map Z6=([]:List (List Im))++([]:List Z0).map Z6,∀ c∈([]:List Z0).map Z6,c.length=2,∀ c∈([]:List Z0).map Z6,Z36 (c.map .im)=true,(([]:List (List Im)).length+(([]:List Z0).map Z6).length)*16≤140737488355328] (by kernel_rfl) ⟨rfl,by simp,by exact Z5b _ _ _ (fun _=>rfl),by exact Z52 _ _ (fun _=>rfl),by simpa using c1,trivial⟩ ?_;refine AWp.conv (inv:=[(1,0)]) (vk:=[]) (e0:=[]) (t:=⟨[(2,.own 0)],[q4 0 ([]:List Z0)],0⟩) (by kernel_rfl) ?_
   refine AWp.ret ?_;exact Exists.intro _ (And.intro (fun _ _ h=>h) (And.intro (.inl rfl) (And.intro rfl (And.intro (by kernel_rfl) (by kernel_rfl)))))
 | cons y l =>
  refine AWp.seq ?_;refine reg hP hn hm [(1,.more xNil)] [0,2,4] [] ⟨[(0,.im (.row ((y::l).map Z6))),(2,.none0),(4,bV false)],[],0⟩ [] (by kernel_rfl) trivial ?_;refine AWp.cond false rfl (fun h=>nomatch h) (fun _ => ?_);refine AWp.skip ?_;refine AWp.seq ?_;refine reg hP hn hm [(0,.app 0 ([]:List (List Im))),(2,.app 1 ((y::l).map Z6))] [2] [1] ⟨[(2,.own 1)],[q4 1 (y::l)],0⟩ [([]:List (List Im))=[],(y::l).map Z6=([]:List (List Im))++(y::l).map Z6,∀ c∈(y::l).map Z6,c.length=2,∀ c∈(y::l).map Z6,Z36 (c.map .im)=true,(([]:List (List Im)).length+((y::l).map Z6).length)*16≤140737488355328] (by kernel_rfl) ⟨rfl,by simp,by exact Z5b _ _ _ (fun _=>rfl),by exact Z52 _ _ (fun _=>rfl),by simpa using c1,trivial⟩ ?_;refine AWp.conv (inv:=[(1,0)]) (vk:=[]) (e0:=[]) (t:=⟨[(2,.own 0)],[q4 0 (y::l)],0⟩) (by kernel_rfl) ?_
  refine AWp.ret ?_;exact Exists.intro _ (And.intro (fun _ _ h=>h) (And.intro (.inl rfl) (And.intro rfl (And.intro (by kernel_rfl) (by kernel_rfl)))))
def Z39.f (a0:Int):Option Unit:=some ()
theorem Z39.ok (a0:Int):FN 175 [qi a0] [] 0 (Z39.f a0) (fun r=>bV (a0 != a0)) (fun r=>[]):=FT [] func175 (.r0<|.r0<|.ret [] [] [] ⟨[(2,bV (a0 != a0))],[],0⟩)
def Z32.f (a0:Int) (a1:Int):Option Int:=(Z39.f a0)>>=fun aa=>(Z39.f a1)>>=fun ad=>if(a0 != a0)=true then(if(a1 != a1)=true then(some 0) else(some (-1))) else(if(a1 != a1)=true then(some 1) else(if(decide (a0<a1))=true then(some (-1)) else(if(decide (a0>a1))=true then(some 1) else(some 0))))
theorem Z32.ok (a0:Int) (a1:Int):FN 162 [qi a0,qi a1] [] 0 (Z32.f a0 a1) (fun r=>qi r) (fun r=>[]):=FT [] func162 (.r0<|.bd fun aa ad=>.rg [(1,qh call175 (Z39.ok a0 aa ad))]<|.bd fun ae af=>.rg [(1,qh call175 (Z39.ok a1 ae af))]<|.r0<|.cd (fun ah=>.r0<|.cd (fun ai=>.r0<|.ret [] [] [] ⟨[(4,qi 0)],[],0⟩)
 (fun ai=>.r0<|.ret [] [] [] ⟨[(4,qi (-1))],[],0⟩))
 (fun ah=>.r0<|.cd (fun aj=>.r0<|.ret [] [] [] ⟨[(4,qi 1)],[],0⟩)
 (fun aj=>.r0<|.cd (fun ak=>.r0<|.ret [] [] [] ⟨[(4,qi (-1))],[],0⟩)
 (fun ak=>.r0<|.cd (fun al=>.r0<|.ret [] [] [] ⟨[(4,qi 1)],[],0⟩)
 (fun al=>.r0<|.ret [] [] [] ⟨[(4,qi 0)],[],0⟩)))))
def Z1x.f (a0:Z0) (a1:Z0):Option Int:=(Z32.f a0.f0 a1.f0)>>=fun aa=>some aa
theorem Z1x.ok (a0:Z0) (a1:Z0):FN 161 [.agg (Z62 a0),.agg (Z62 a1)] [] 0 (Z1x.f a0 a1) (fun r=>qi r) (fun r=>[]):=FT [] func161 (.rg [(0,⟨.k 0,.n⟩),(1,⟨.k 1,.n⟩)]<|.bd fun aa ad=>.rg [(4,qh call162 (Z32.ok a0.f0 a1.f0 aa ad))]<|.ret [] [] [] ⟨[(4,qi aa)],[],0⟩)
def Z9.l1 (a1:Int) (a2:Int) (aa:Int) (ad:List Z0) (ae:Int):Option (List Z0):=((if(decide (ae>a1))=true then((at? ad ae)>>=fun af=>(at? ad (i64.wrap (ae-1)))>>=fun ah=>(Z1x.f af ah)>>=fun ai=>some (decide (ai<0))) else(some false)):Option Bool)>>=fun aj=>if aj=true then((at? ad (i64.wrap (ae-1)))>>=fun ak=>(at? ad ae)>>=fun al=>(at? (ad.set (Int.toNat (ae)) ak) (i64.wrap (ae-1)))>>=fun am=>Z9.l1 a1 a2 aa ((ad.set (Int.toNat (ae)) ak).set (Int.toNat (i64.wrap (ae-1))) al) (i64.wrap (ae-1))) else(some ad)
partial_fixpoint
def Z9.l0 (a1:Int) (a2:Int) (aa:List Z0) (ad:Int):Option (List Z0):=if(decide (ad<a2))=true then((Z9.l1 a1 a2 ad aa ad)>>=fun ae=>Z9.l0 a1 a2 ae (i64.wrap (ad+1))) else(some aa)
partial_fixpoint
def Z9.f (a0:List Z0) (a1:Int) (a2:Int):Option (List Z0):=(Z9.l0 a1 a2 a0 (i64.wrap (a1+1)))>>=fun aa=>some aa
theorem Z9.ok (a0:List Z0) (a1:Int) (a2:Int):FN 180 [.own 0,qi a1,qi a2,.im (qf 161)] [q4 0 a0] 1 (Z9.f a0 a1 a2) (fun r=>.tup []) (fun r=>[q4 0 r]):=FT [0] func180 (.r0<|.bl<|.loop (.c2 (Z9.l0.partial_correctness a1 a2)) (a0,i64.wrap (a1+1)) [(0,0)] [] [] (fun _=>.pr fun aa=>.one (fun ad=>⟨[(0,.own 0),(1,qi a1),(2,qi a2),(3,.im (qf 161)),(8,qi ad)],[q4 0 aa],1⟩) fun ad=>.r0<|.cd (fun ae=>.bl<|.r0<|.bl<|.loop (.c2 (Z9.l1.partial_correctness a1 a2 ad)) (aa,ad) [(0,0)] [] [] (fun _=>.pr fun af=>.one (fun ah=>⟨[(0,.own 0),(1,qi a1),(2,qi a2),(3,.im (qf 161)),(8,qi ad),(9,qi ah)],[q4 0 af],1⟩) fun ah=>.join (.sp (fun ai=>.el fun aj ak al=>.el fun am an ap=>.bd fun aq ar=>.rg [(3,hB ai),(7,hX Z6 ak al),(8,hL Z6 al),(12,hX Z6 an ap),(13,hL Z6 ap),(14,qh call161 (Z1x.ok aj am aq ar))]<|.o [(0,0)])
 (fun ai=>.rg [(3,hB ai)]<|.o [(0,0)]))
 (.st .normal (fun au=>⟨[(0,.own 0),(1,qi a1),(2,qi a2),(3,.im (qf 161)),(8,qi ad),(9,qi ah),(34,bV au)],[q4 0 af],1⟩) fun au=>.cd (fun av=>.bl<|.el fun aw ax ay=>.el fun az a8 a9=>.el fun ba bb bc=>.rg [(8,hX Z6 ax ay),(9,hL Z6 ay),(12,hX Z6 a8 a9),(13,hL Z6 a9),(14,hX Z6 a8 a9),(15,hS Z6 aw 0 [iI .i64 aw.f0,iI .u64 aw.f1] a9),(16,hX Z6 bb bc),(17,hS Z6 az 0 [iI .i64 az.f0,iI .u64 az.f1] bc)]<|.r0<|.bk [(0,0)] rfl)
 (fun av=>.o [(0,0)])))
 (.st (.exit 2) (fun be=>⟨[(0,.own 0),(1,qi a1),(2,qi a2),(3,.im (qf 161)),(8,qi ad)],[q4 0 be],1⟩) fun be=>.r0<|.bk [(0,0)] rfl))
 (fun ae=>.o [(0,0)]))
 (.st (.exit 0) (fun bf=>⟨[],[q4 0 bf],1⟩) fun bf=>.ret [(0,0)] [] [] ⟨[],[q4 0 bf],1⟩))
def Zd.l0 (a1:Int) (a2:Int) (a3:Int) (aa:List Z0) (ad:Int):Option (List Z0):=if(decide (ad<a3))=true then((at? aa (i64.wrap (a2+ad)))>>=fun ae=>(at? aa (i64.wrap (a1+ad)))>>=fun af=>(at? (aa.set (Int.toNat (i64.wrap (a1+ad))) ae) (i64.wrap (a2+ad)))>>=fun ah=>Zd.l0 a1 a2 a3 ((aa.set (Int.toNat (i64.wrap (a1+ad))) ae).set (Int.toNat (i64.wrap (a2+ad))) af) (i64.wrap (ad+1))) else(some aa)
partial_fixpoint
def Zd.f (a0:List Z0) (a1:Int) (a2:Int) (a3:Int):Option (List Z0):=(Zd.l0 a1 a2 a3 a0 0)>>=fun aa=>some aa
theorem Zd.ok (a0:List Z0) (a1:Int) (a2:Int) (a3:Int):FN 186 [.own 0,qi a1,qi a2,qi a3,.im (qf 161)] [q4 0 a0] 1 (Zd.f a0 a1 a2 a3) (fun r=>.tup []) (fun r=>[q4 0 r]):=FT [0] func186 (.r0<|.bl<|.loop (.c2 (Zd.l0.partial_correctness a1 a2 a3)) (a0,0) [(0,0)] [] [] (fun _=>.pr fun aa=>.one (fun ad=>⟨[(0,.own 0),(1,qi a1),(2,qi a2),(3,qi a3),(10,qi ad)],[q4 0 aa],1⟩) fun ad=>.r0<|.cd (fun ae=>.bl<|.el fun af ah ai=>.el fun aj ak al=>.el fun am an ap=>.rg [(12,hX Z6 ah ai),(13,hL Z6 ai),(18,hX Z6 ak al),(19,hL Z6 al),(20,hX Z6 ak al),(21,hS Z6 af 0 [iI .i64 af.f0,iI .u64 af.f1] al),(22,hX Z6 an ap),(23,hS Z6 aj 0 [iI .i64 aj.f0,iI .u64 aj.f1] ap)]<|.r0<|.bk [(0,0)] rfl)
 (fun ae=>.o [(0,0)]))
 (.st (.exit 0) (fun aq=>⟨[],[q4 0 aq],1⟩) fun aq=>.ret [(0,0)] [] [] ⟨[],[q4 0 aq],1⟩))
def Zp.l0 (a2:Int) (aa:List Z0) (ad:Int) (ae:Int):Option ((List Z0)×Int):=if(ad != ae)=true then(((if(decide (ad>ae))=true then((Zd.f aa (i64.wrap (a2-ad)) a2 ae)>>=fun af=>some (af,i64.wrap (ad-ae),ae)) else((Zd.f aa (i64.wrap (a2-ad)) (i64.wrap ((i64.wrap (a2+ae))-ad)) ad)>>=fun ah=>some (ah,ad,i64.wrap (ae-ad)))):Option ((List Z0)×Int×Int))>>=fun oo=>match oo with | (ai,aj,ak)=>(Zp.l0 a2 ai aj ak)) else(some (aa,ad))
partial_fixpoint
def Zp.f (a0:List Z0) (a1:Int) (a2:Int) (a3:Int):Option (List Z0):=(Zp.l0 a2 a0 (i64.wrap (a2-a1)) (i64.wrap (a3-a2)))>>=fun oo=>match oo with | (aa,ad)=>((Zd.f aa (i64.wrap (a2-ad)) a2 ad)>>=fun ae=>some ae)
theorem Zp.ok (a0:List Z0) (a1:Int) (a2:Int) (a3:Int):FN 185 [.own 0,qi a1,qi a2,qi a3,.im (qf 161)] [q4 0 a0] 1 (Zp.f a0 a1 a2 a3) (fun r=>.tup []) (fun r=>[q4 0 r]):=FT [0] func185 (.r0<|.r0<|.bl<|.loop (.c3 (Zp.l0.partial_correctness a2)) (a0,i64.wrap (a2-a1),i64.wrap (a3-a2)) [(0,0)] [] [] (fun _=>.pr fun aa=>.pr fun ad=>.one (fun ae=>⟨[(0,.own 0),(2,qi a2),(4,.im (qf 161)),(10,qi ad),(11,qi ae)],[q4 0 aa],1⟩) fun ae=>.r0<|.cd (fun af=>.bl<|.r0<|.join (.cd (fun ah=>.bd fun ai aj=>.rg [(7,hC [(0,0)] [(0,0)] [] [] call186 (Zd.ok aa (i64.wrap (a2-ad)) a2 ae ai aj))]<|.r0<|.o [(0,0)])
 (fun ah=>.bd fun ak al=>.rg [(11,hC [(0,0)] [(0,0)] [] [] call186 (Zd.ok aa (i64.wrap (a2-ad)) (i64.wrap ((i64.wrap (a2+ae))-ad)) ad ak al))]<|.r0<|.o [(0,0)]))
 (.pr fun am=>.pr fun an=>.st .normal (fun ap=>⟨[(0,.own 0),(2,qi a2),(4,.im (qf 161)),(10,qi an),(11,qi ap)],[q4 0 am],1⟩) fun ap=>.bk [(0,0)] rfl))
 (fun af=>.o [(0,0)]))
 (.pr fun aq=>.st (.exit 0) (fun ar=>⟨[(0,.own 0),(2,qi a2),(4,.im (qf 161)),(10,qi ar)],[q4 0 aq],1⟩) fun ar=>.bd fun au av=>.rg [(7,hC [(0,0)] [(0,0)] [] [] call186 (Zd.ok aq (i64.wrap (a2-ar)) a2 ar au av))]<|.ret [(0,0)] [] [] ⟨[],[q4 0 au],1⟩))
def Z5.l0 (a0:List Z0) (a1:Int) (aa:Int) (ad:Int):Option Int:=if(decide (aa<ad))=true then((at? a0 (i64.wrap (Int.fdiv (u64.wrap (i64.wrap (aa+ad))) 2)))>>=fun ae=>(at? a0 a1)>>=fun af=>(Z1x.f ae af)>>=fun ah=>((if(decide (ah<0))=true then(some (i64.wrap ((i64.wrap (Int.fdiv (u64.wrap (i64.wrap (aa+ad))) 2))+1),ad)) else(some (aa,i64.wrap (Int.fdiv (u64.wrap (i64.wrap (aa+ad))) 2)))):Option (Int×Int))>>=fun oo=>match oo with | (ai,aj)=>(Z5.l0 a0 a1 ai aj)) else(some aa)
partial_fixpoint
def Z5.l1 (aa:Int) (ad:List Z0) (ae:Int):Option (List Z0):=if(decide (ae<(i64.wrap (aa-1))))=true then((at? ad (i64.wrap (ae+1)))>>=fun af=>(at? ad ae)>>=fun ah=>(at? (ad.set (Int.toNat (ae)) af) (i64.wrap (ae+1)))>>=fun ai=>Z5.l1 aa ((ad.set (Int.toNat (ae)) af).set (Int.toNat (i64.wrap (ae+1))) ah) (i64.wrap (ae+1))) else(some ad)
partial_fixpoint
def Z5.l2 (a0:List Z0) (a2:Int) (aa:Int) (ad:Int):Option Int:=if(decide (aa<ad))=true then((at? a0 a2)>>=fun ae=>(at? a0 (i64.wrap (Int.fdiv (u64.wrap (i64.wrap (aa+ad))) 2)))>>=fun af=>(Z1x.f ae af)>>=fun ah=>((if(!(decide (ah<0)))=true then(some (i64.wrap ((i64.wrap (Int.fdiv (u64.wrap (i64.wrap (aa+ad))) 2))+1),ad)) else(some (aa,i64.wrap (Int.fdiv (u64.wrap (i64.wrap (aa+ad))) 2)))):Option (Int×Int))>>=fun oo=>match oo with | (ai,aj)=>(Z5.l2 a0 a2 ai aj)) else(some aa)
partial_fixpoint
def Z5.l3 (aa:Int) (ad:List Z0) (ae:Int):Option (List Z0):=if(decide (ae>aa))=true then((at? ad (i64.wrap (ae-1)))>>=fun af=>(at? ad ae)>>=fun ah=>(at? (ad.set (Int.toNat (ae)) af) (i64.wrap (ae-1)))>>=fun ai=>Z5.l3 aa ((ad.set (Int.toNat (ae)) af).set (Int.toNat (i64.wrap (ae-1))) ah) (i64.wrap (ae-1))) else(some ad)
partial_fixpoint
def Z5.l4 (a0:List Z0) (a1:Int) (a2:Int) (a3:Int) (aa:Int) (ad:Int):Option Int:=if(decide (aa<ad))=true then((at? a0 (i64.wrap ((i64.wrap ((i64.wrap ((i64.wrap (Int.fdiv (u64.wrap (i64.wrap (a1+a3))) 2))+a2))-1))-(i64.wrap (Int.fdiv (u64.wrap (i64.wrap (aa+ad))) 2)))))>>=fun ae=>(at? a0 (i64.wrap (Int.fdiv (u64.wrap (i64.wrap (aa+ad))) 2)))>>=fun af=>(Z1x.f ae af)>>=fun ah=>((if(!(decide (ah<0)))=true then(some (i64.wrap ((i64.wrap (Int.fdiv (u64.wrap (i64.wrap (aa+ad))) 2))+1),ad)) else(some (aa,i64.wrap (Int.fdiv (u64.wrap (i64.wrap (aa+ad))) 2)))):Option (Int×Int))>>=fun oo=>match oo with | (ai,aj)=>(Z5.l4 a0 a1 a2 a3 ai aj)) else(some aa)
partial_fixpoint
def Z5.f (a0:List Z0) (a1:Int) (a2:Int) (a3:Int):Option (List Z0):=if((i64.wrap (a2-a1))==1)=true then((Z5.l0 a0 a1 a2 a3)>>=fun aa=>(Z5.l1 aa a0 a1)>>=fun ad=>some ad) else(if((i64.wrap (a3-a2))==1)=true then((Z5.l2 a0 a2 a1 a2)>>=fun ae=>(Z5.l3 ae a0 a2)>>=fun af=>some af) else(((if(decide (a2>(i64.wrap (Int.fdiv (u64.wrap (i64.wrap (a1+a3))) 2))))=true then(some (i64.wrap ((i64.wrap ((i64.wrap (Int.fdiv (u64.wrap (i64.wrap (a1+a3))) 2))+a2))-a3),i64.wrap (Int.fdiv (u64.wrap (i64.wrap (a1+a3))) 2))) else(some (a1,a2))):Option (Int×Int))>>=fun oo=>match oo with | (ah,ai)=>((Z5.l4 a0 a1 a2 a3 ah ai)>>=fun aj=>((if(decide (aj<a2))=true then(some (decide (a2<(i64.wrap ((i64.wrap ((i64.wrap (Int.fdiv (u64.wrap (i64.wrap (a1+a3))) 2))+a2))-aj))))) else(some false)):Option Bool)>>=fun ak=>((if ak=true then((Zp.f a0 aj a2 (i64.wrap ((i64.wrap ((i64.wrap (Int.fdiv (u64.wrap (i64.wrap (a1+a3))) 2))+a2))-aj)))>>=fun al=>some al) else(some a0)):Option (List Z0))>>=fun am=>((if(decide (a1<aj))=true then(some (decide (aj<(i64.wrap (Int.fdiv (u64.wrap (i64.wrap (a1+a3))) 2))))) else(some false)):Option Bool)>>=fun an=>((if an=true then((Z5.f am a1 aj (i64.wrap (Int.fdiv (u64.wrap (i64.wrap (a1+a3))) 2)))>>=fun ap=>some ap) else(some am)):Option (List Z0))>>=fun aq=>((if(decide ((i64.wrap (Int.fdiv (u64.wrap (i64.wrap (a1+a3))) 2))<(i64.wrap ((i64.wrap ((i64.wrap (Int.fdiv (u64.wrap (i64.wrap (a1+a3))) 2))+a2))-aj))))=true then(some (decide ((i64.wrap ((i64.wrap ((i64.wrap (Int.fdiv (u64.wrap (i64.wrap (a1+a3))) 2))+a2))-aj))<a3))) else(some false)):Option Bool)>>=fun ar=>((if ar=true then((Z5.f aq (i64.wrap (Int.fdiv (u64.wrap (i64.wrap (a1+a3))) 2)) (i64.wrap ((i64.wrap ((i64.wrap (Int.fdiv (u64.wrap (i64.wrap (a1+a3))) 2))+a2))-aj)) a3)>>=fun au=>some au) else(some aq)):Option (List Z0))>>=fun av=>some av)))
partial_fixpoint
theorem Z5.ok (a0:List Z0) (a1:Int) (a2:Int) (a3:Int) (r:List Z0) (H:Z5.f a0 a1 a2 a3=some r):Pv.Fn Tryz.prog 181 [.own 0,qi a1,qi a2,qi a3,.im (qf 161)] [q4 0 a0] 1 (fun x o=>x = .tup []∧o=[q4 0 r]):=by
 refine Z5.f.partial_correctness (motive:=fun a0 a1 a2 a3 r=>Pv.Fn Tryz.prog 181 [.own 0,qi a1,qi a2,qi a3,.im (qf 161)] [q4 0 a0] 1 (fun x o=>x = .tup []∧o=[q4 0 r])) ?_ a0 a1 a2 a3 r H;clear H a0 a1 a2 a3 r;intro self ihF a0 a1 a2 a3 r H;exact HT.fn H (fun r=>.tup []) (fun r=>[q4 0 r]) [0] func181 rfl rfl hmx (.r0<|.cd (fun aa=>.r0<|.r0<|.bl<|.loop (.c2 (Z5.l0.partial_correctness a0 a1)) (a2,a3) [(0,0)] [] [] (fun _=>.pr fun ad=>.one (fun ae=>⟨[(0,.own 0),(1,qi a1),(4,.im (qf 161)),(10,qi ad),(11,qi ae)],[q4 0 a0],1⟩) fun ae=>.r0<|.cd (fun af=>.bl<|.rg [(4,hK 1)]<|.el fun ah ai aj=>.el fun ak al am=>.bd fun an ap=>.rg [(3,hX Z6 ai aj),(4,hL Z6 aj),(7,hX Z6 al am),(8,hL Z6 am),(9,qh call161 (Z1x.ok ah ak an ap))]<|.join (.cd (fun aq=>.r0<|.o [(0,0)])
 (fun aq=>.r0<|.o [(0,0)]))
 (.pr fun ar=>.st .normal (fun au=>⟨[(0,.own 0),(1,qi a1),(4,.im (qf 161)),(10,qi ar),(11,qi au)],[q4 0 a0],1⟩) fun au=>.bk [(0,0)] rfl))
 (fun af=>.o [(0,0)]))
 (.st (.exit 0) (fun av=>⟨[(0,.own 0),(1,qi a1),(10,qi av)],[q4 0 a0],1⟩) fun av=>.r0<|.bl<|.loop (.c2 (Z5.l1.partial_correctness av)) (a0,a1) [(0,0)] [] [] (fun _=>.pr fun aw=>.one (fun ax=>⟨[(0,.own 0),(10,qi av),(13,qi ax)],[q4 0 aw],1⟩) fun ax=>.r0<|.cd (fun ay=>.bl<|.el fun az a8 a9=>.el fun ba bb bc=>.el fun be bf bg=>.rg [(8,hX Z6 a8 a9),(9,hL Z6 a9),(12,hX Z6 bb bc),(13,hL Z6 bc),(14,hX Z6 bb bc),(15,hS Z6 az 0 [iI .i64 az.f0,iI .u64 az.f1] bc),(16,hX Z6 bf bg),(17,hS Z6 ba 0 [iI .i64 ba.f0,iI .u64 ba.f1] bg)]<|.r0<|.bk [(0,0)] rfl)
 (fun ay=>.o [(0,0)]))
 (.st (.exit 2) (fun bh=>⟨[],[q4 0 bh],1⟩) fun bh=>.ret [(0,0)] [] [] ⟨[],[q4 0 bh],1⟩)))
 (fun aa=>.r0<|.cd (fun bi=>.r0<|.r0<|.bl<|.loop (.c2 (Z5.l2.partial_correctness a0 a2)) (a1,a2) [(0,0)] [] [] (fun _=>.pr fun bj=>.one (fun bn=>⟨[(0,.own 0),(2,qi a2),(4,.im (qf 161)),(14,qi bj),(15,qi bn)],[q4 0 a0],1⟩) fun bn=>.r0<|.cd (fun bo=>.bl<|.rg [(4,hK 1)]<|.el fun bp bq br=>.el fun bu bv bw=>.bd fun bx bz=>.rg [(3,hX Z6 bq br),(4,hL Z6 br),(7,hX Z6 bv bw),(8,hL Z6 bw),(9,qh call161 (Z1x.ok bp bu bx bz))]<|.join (.cd (fun ca=>.r0<|.o [(0,0)])
 (fun ca=>.r0<|.o [(0,0)]))
 (.pr fun cc=>.st .normal (fun ce=>⟨[(0,.own 0),(2,qi a2),(4,.im (qf 161)),(14,qi cc),(15,qi ce)],[q4 0 a0],1⟩) fun ce=>.bk [(0,0)] rfl))
 (fun bo=>.o [(0,0)]))
 (.st (.exit 4) (fun cf=>⟨[(0,.own 0),(2,qi a2),(14,qi cf)],[q4 0 a0],1⟩) fun cf=>.r0<|.bl<|.loop (.c2 (Z5.l3.partial_correctness cf)) (a0,a2) [(0,0)] [] [] (fun _=>.pr fun cj=>.one (fun cn=>⟨[(0,.own 0),(14,qi cf),(17,qi cn)],[q4 0 cj],1⟩) fun cn=>.r0<|.cd (fun cr=>.bl<|.el fun ct cu cw=>.el fun cx cy cz=>.el fun c8 c9 dd=>.rg [(8,hX Z6 cu cw),(9,hL Z6 cw),(12,hX Z6 cy cz),(13,hL Z6 cz),(14,hX Z6 cy cz),(15,hS Z6 ct 0 [iI .i64 ct.f0,iI .u64 ct.f1] cz),(16,hX Z6 c9 dd),(17,hS Z6 cx 0 [iI .i64 cx.f0,iI .u64 cx.f1] dd)]<|.r0<|.bk [(0,0)] rfl)
 (fun cr=>.o [(0,0)]))
 (.st (.exit 6) (fun de=>⟨[],[q4 0 de],1⟩) fun de=>.ret [(0,0)] [] [] ⟨[],[q4 0 de],1⟩)))
 (fun bi=>.rg [(4,hK 1)]<|.r0<|.r0<|.r0<|.join (.cd (fun df=>.r0<|.r0<|.o [(0,0)])
 (fun df=>.r0<|.r0<|.o [(0,0)]))
 (.pr fun dg=>.st .normal (fun dh=>⟨[(0,.own 0),(1,qi a1),(2,qi a2),(3,qi a3),(4,.im (qf 161)),(18,qi (i64.wrap (Int.fdiv (u64.wrap (i64.wrap (a1+a3))) 2))),(19,qi (i64.wrap ((i64.wrap (Int.fdiv (u64.wrap (i64.wrap (a1+a3))) 2))+a2))),(20,qi dg),(21,qi dh)],[q4 0 a0],1⟩) fun dh=>.r0<|.bl<|.loop (.c2 (Z5.l4.partial_correctness a0 a1 a2 a3)) (dg,dh) [(0,0)] [] [] (fun _=>.pr fun di=>.one (fun dj=>⟨[(0,.own 0),(1,qi a1),(2,qi a2),(3,qi a3),(4,.im (qf 161)),(18,qi (i64.wrap (Int.fdiv (u64.wrap (i64.wrap (a1+a3))) 2))),(19,qi (i64.wrap ((i64.wrap (Int.fdiv (u64.wrap (i64.wrap (a1+a3))) 2))+a2))),(20,qi di),(21,qi dj),(22,qi (i64.wrap ((i64.wrap ((i64.wrap (Int.fdiv (u64.wrap (i64.wrap (a1+a3))) 2))+a2))-1)))],[q4 0 a0],1⟩) fun dj=>.r0<|.cd (fun dk=>.bl<|.rg [(4,hK 1)]<|.el fun dl dm dn=>.el fun dp dq dr=>.bd fun dt du=>.rg [(5,hX Z6 dm dn),(6,hL Z6 dn),(9,hX Z6 dq dr),(10,hL Z6 dr),(11,qh call161 (Z1x.ok dl dp dt du))]<|.join (.cd (fun dv=>.r0<|.o [(0,0)])
 (fun dv=>.r0<|.o [(0,0)]))
 (.pr fun dw=>.st .normal (fun dx=>⟨[(0,.own 0),(1,qi a1),(2,qi a2),(3,qi a3),(4,.im (qf 161)),(18,qi (i64.wrap (Int.fdiv (u64.wrap (i64.wrap (a1+a3))) 2))),(19,qi (i64.wrap ((i64.wrap (Int.fdiv (u64.wrap (i64.wrap (a1+a3))) 2))+a2))),(20,qi dw),(21,qi dx),(22,qi (i64.wrap ((i64.wrap ((i64.wrap (Int.fdiv (u64.wrap (i64.wrap (a1+a3))) 2))+a2))-1)))],[q4 0 a0],1⟩) fun dx=>.bk [(0,0)] rfl))
 (fun dk=>.o [(0,0)]))
 (.st (.exit 8) (fun dy=>⟨[(0,.own 0),(1,qi a1),(2,qi a2),(3,qi a3),(4,.im (qf 161)),(18,qi (i64.wrap (Int.fdiv (u64.wrap (i64.wrap (a1+a3))) 2))),(19,qi (i64.wrap ((i64.wrap (Int.fdiv (u64.wrap (i64.wrap (a1+a3))) 2))+a2))),(20,qi dy)],[q4 0 a0],1⟩) fun dy=>.r0<|.join (.sp (fun dz=>.rg [(3,hB dz)]<|.o [(0,0)])
 (fun dz=>.rg [(3,hB dz)]<|.o [(0,0)]))
 (.st .normal (fun d5=>⟨[(0,.own 0),(1,qi a1),(2,qi a2),(3,qi a3),(4,.im (qf 161)),(18,qi (i64.wrap (Int.fdiv (u64.wrap (i64.wrap (a1+a3))) 2))),(20,qi dy),(24,qi (i64.wrap ((i64.wrap ((i64.wrap (Int.fdiv (u64.wrap (i64.wrap (a1+a3))) 2))+a2))-dy))),(185,bV d5)],[q4 0 a0],1⟩) fun d5=>.join (.cd (fun d8=>.bd fun d9 ea=>.rg [(5,hC [(0,0)] [(0,0)] [] [] call185 (Zp.ok a0 dy a2 (i64.wrap ((i64.wrap ((i64.wrap (Int.fdiv (u64.wrap (i64.wrap (a1+a3))) 2))+a2))-dy)) d9 ea))]<|.o [(0,0)])
 (fun d8=>.o [(0,0)]))
 (.st .normal (fun ed=>⟨[(0,.own 0),(1,qi a1),(3,qi a3),(4,.im (qf 161)),(18,qi (i64.wrap (Int.fdiv (u64.wrap (i64.wrap (a1+a3))) 2))),(20,qi dy),(24,qi (i64.wrap ((i64.wrap ((i64.wrap (Int.fdiv (u64.wrap (i64.wrap (a1+a3))) 2))+a2))-dy)))],[q4 0 ed],1⟩) fun ed=>.join (.sp (fun eh=>.rg [(3,hB eh)]<|.o [(0,0)])
 (fun eh=>.rg [(3,hB eh)]<|.o [(0,0)]))
 (.st .normal (fun ei=>⟨[(0,.own 0),(1,qi a1),(3,qi a3),(4,.im (qf 161)),(18,qi (i64.wrap (Int.fdiv (u64.wrap (i64.wrap (a1+a3))) 2))),(20,qi dy),(24,qi (i64.wrap ((i64.wrap ((i64.wrap (Int.fdiv (u64.wrap (i64.wrap (a1+a3))) 2))+a2))-dy))),(199,bV ei)],[q4 0 ed],1⟩) fun ei=>.join (.cd (fun ej=>.bd fun em en=>.rg [(5,hC [(0,0)] [(0,0)] [] [] call181 (ihF ed a1 dy (i64.wrap (Int.fdiv (u64.wrap (i64.wrap (a1+a3))) 2)) _ en))]<|.o [(0,0)])
 (fun ej=>.o [(0,0)]))
 (.st .normal (fun eo=>⟨[(0,.own 0),(3,qi a3),(4,.im (qf 161)),(18,qi (i64.wrap (Int.fdiv (u64.wrap (i64.wrap (a1+a3))) 2))),(24,qi (i64.wrap ((i64.wrap ((i64.wrap (Int.fdiv (u64.wrap (i64.wrap (a1+a3))) 2))+a2))-dy)))],[q4 0 eo],1⟩) fun eo=>.join (.sp (fun eu=>.rg [(3,hB eu)]<|.o [(0,0)])
 (fun eu=>.rg [(3,hB eu)]<|.o [(0,0)]))
 (.st .normal (fun ev=>⟨[(0,.own 0),(3,qi a3),(4,.im (qf 161)),(18,qi (i64.wrap (Int.fdiv (u64.wrap (i64.wrap (a1+a3))) 2))),(24,qi (i64.wrap ((i64.wrap ((i64.wrap (Int.fdiv (u64.wrap (i64.wrap (a1+a3))) 2))+a2))-dy))),(213,bV ev)],[q4 0 eo],1⟩) fun ev=>.join (.cd (fun ew=>.bd fun e8 e9=>.rg [(5,hC [(0,0)] [(0,0)] [] [] call181 (ihF eo (i64.wrap (Int.fdiv (u64.wrap (i64.wrap (a1+a3))) 2)) (i64.wrap ((i64.wrap ((i64.wrap (Int.fdiv (u64.wrap (i64.wrap (a1+a3))) 2))+a2))-dy)) a3 _ e9))]<|.o [(0,0)])
 (fun ew=>.o [(0,0)]))
 (.st .normal (fun fe=>⟨[],[q4 0 fe],1⟩) fun fe=>.ret [(0,0)] [] [] ⟨[],[q4 0 fe],1⟩)))))))))))
def Za.l0 (a1:Int) (aa:List Z0) (ad:Int) (ae:Int):Option ((List Z0)×Int):=if(decide (ae≤a1))=true then((Z9.f aa ad ae)>>=fun af=>Za.l0 a1 af ae (i64.wrap (ae+20))) else(some (aa,ad))
partial_fixpoint
def Za.l2 (a1:Int) (aa:Int) (ad:List Z0) (ae:Int) (af:Int):Option ((List Z0)×Int):=if(decide (af≤a1))=true then((Z5.f ad ae (i64.wrap (ae+aa)) af)>>=fun ah=>Za.l2 a1 aa ah af (i64.wrap (af+(i64.wrap ((2:Int)*aa))))) else(some (ad,ae))
partial_fixpoint
def Za.l1 (a1:Int) (aa:List Z0) (ad:Int):Option (List Z0):=if(decide (ad<a1))=true then((Za.l2 a1 ad aa 0 (i64.wrap ((2:Int)*ad)))>>=fun oo=>match oo with | (ae,af)=>(((if(decide ((i64.wrap (af+ad))<a1))=true then((Z5.f ae af (i64.wrap (af+ad)) a1)>>=fun ah=>some ah) else(some ae)):Option (List Z0))>>=fun ai=>Za.l1 a1 ai (i64.wrap (ad*2)))) else(some aa)
partial_fixpoint
def Za.f (a0:List Z0) (a1:Int):Option (List Z0):=(Za.l0 a1 a0 0 20)>>=fun oo=>match oo with | (aa,ad)=>((Z9.f aa ad a1)>>=fun ae=>(Za.l1 a1 ae 20)>>=fun af=>some af)
theorem Za.ok (a0:List Z0) (a1:Int):FN 174 [.own 0,qi a1,.im (qf 161)] [q4 0 a0] 1 (Za.f a0 a1) (fun r=>.tup []) (fun r=>[q4 0 r]):=FT [0] func174 (.r0<|.r0<|.bl<|.loop (.c3 (Za.l0.partial_correctness a1)) (a0,0,20) [(0,0)] [] [] (fun _=>.pr fun aa=>.pr fun ad=>.one (fun ae=>⟨[(0,.own 0),(1,qi a1),(2,.im (qf 161)),(6,qi 20),(7,qi ad),(8,qi ae)],[q4 0 aa],1⟩) fun ae=>.r0<|.cd (fun af=>.bl<|.bd fun ah ai=>.rg [(4,hC [(0,0)] [(0,0)] [] [] call180 (Z9.ok aa ad ae ah ai))]<|.r0<|.r0<|.bk [(0,0)] rfl)
 (fun af=>.o [(0,0)]))
 (.pr fun aj=>.st (.exit 0) (fun ak=>⟨[(0,.own 0),(1,qi a1),(2,.im (qf 161)),(6,qi 20),(7,qi ak)],[q4 0 aj],1⟩) fun ak=>.bd fun al am=>.rg [(4,hC [(0,0)] [(0,0)] [] [] call180 (Z9.ok aj ak a1 al am))]<|.bl<|.loop (.c2 (Za.l1.partial_correctness a1)) (al,20) [(0,0)] [] [] (fun _=>.pr fun an=>.one (fun ap=>⟨[(0,.own 0),(1,qi a1),(2,.im (qf 161)),(6,qi ap)],[q4 0 an],1⟩) fun ap=>.r0<|.cd (fun aq=>.bl<|.r0<|.bl<|.loop (.c3 (Za.l2.partial_correctness a1 ap)) (an,0,i64.wrap ((2:Int)*ap)) [(0,0)] [] [] (fun _=>.pr fun ar=>.pr fun au=>.one (fun av=>⟨[(0,.own 0),(1,qi a1),(2,.im (qf 161)),(6,qi ap),(7,qi au),(8,qi av)],[q4 0 ar],1⟩) fun av=>.r0<|.cd (fun aw=>.bl<|.bd fun ax ay=>.rg [(7,hC [(0,0)] [(0,0)] [] [] call181 (Z5.ok ar au (i64.wrap (au+ap)) av ax ay))]<|.r0<|.r0<|.bk [(0,0)] rfl)
 (fun aw=>.o [(0,0)]))
 (.pr fun az=>.st (.exit 4) (fun a8=>⟨[(0,.own 0),(1,qi a1),(2,.im (qf 161)),(6,qi ap),(7,qi a8)],[q4 0 az],1⟩) fun a8=>.r0<|.r0<|.join (.cd (fun a9=>.bd fun ba bb=>.rg [(5,hC [(0,0)] [(0,0)] [] [] call181 (Z5.ok az a8 (i64.wrap (a8+ap)) a1 ba bb))]<|.o [(0,0)])
 (fun a9=>.o [(0,0)]))
 (.st .normal (fun bc=>⟨[(0,.own 0),(1,qi a1),(2,.im (qf 161)),(6,qi ap)],[q4 0 bc],1⟩) fun bc=>.r0<|.bk [(0,0)] rfl)))
 (fun aq=>.o [(0,0)]))
 (.st (.exit 2) (fun be=>⟨[],[q4 0 be],1⟩) fun be=>.ret [(0,0)] [] [] ⟨[],[q4 0 be],1⟩)))
def Z05.f (a0:List Z0):Option (List Z0):=(Za.f a0 (a0.length:Int))>>=fun aa=>some aa
theorem Z05.ok (a0:List Z0):FN 160 [.own 0,.im (qf 161)] [q4 0 a0] 1 (Z05.f a0) (fun r=>.tup []) (fun r=>[q4 0 r]):=FT [0] func160 (.bd fun aa ad=>.rg [(2,hG Z6 a0),(4,hC [(0,0)] [(0,0)] [] [] call174 (Za.ok a0 (a0.length:Int) aa ad))]<|.ret [(0,0)] [] [] ⟨[],[q4 0 aa],1⟩)
def Z15.l0 (aa:List Z0) (ad:List Z0) (ae:Int):Option (((List Z0)×Int) ⊕ (List Z0)):=if(decide (ae<(aa.length:Int)))=true then((at? aa ae)>>=fun af=>((if(af.f1==0)=true then(some (.inr ad)) else(((if(decide ((ad.length:Int)>0))=true then((at? ad (i64.wrap ((ad.length:Int)-1)))>>=fun ah=>some (ah.f0==af.f0)) else(some false)):Option Bool)>>=fun ai=>((if ai=true then((at? ad (i64.wrap ((ad.length:Int)-1)))>>=fun aj=>(Z1y.f [aj.f1,af.f1])>>=fun ak=>if(ak.2 != 0)=true then(some (.inl ([],ak.2))) else(some (.inr (ad.set (Int.toNat (i64.wrap ((ad.length:Int)-1))) (⟨aj.f0,ak.1⟩:Z0))))) else((chk ((ad.length+[af].length)*16≤140737488355328))>>=fun _=>some (.inr (ad++[af])))):Option (((List Z0)×Int) ⊕ (List Z0)))>>=fun oo=>match oo with | .inl rr=>(some (.inl rr)) | .inr al=>(some (.inr al)))):Option (((List Z0)×Int) ⊕ (List Z0)))>>=fun oo=>match oo with | .inl rr=>(some (.inl rr)) | .inr am=>(Z15.l0 aa am (i64.wrap (ae+1)))) else(some (.inr ad))
partial_fixpoint
def Z15.f (a0:List Z0):Option ((List Z0)×Int):=(Z03.f a0)>>=fun aa=>(Z05.f aa)>>=fun ad=>(Z15.l0 ad [] 0)>>=fun oo=>match oo with | .inl rr=>(some rr) | .inr ae=>(some (ae,0))
theorem Z15.ok (a0:List Z0):FN 137 [.im (.row (a0.map Z6))] [] 0 (Z15.f a0) (fun r=>.tup [.own 0,qi r.2]) (fun r=>[q4 0 r.1]):=FT [0] func137 (.r0<|.r0<|.bd fun aa ad=>.rg [(1,hC [] [(0,0)] [] [0] call64 (Z03.ok a0 aa ad))]<|.bd fun ae af=>.rg [(1,hC [(0,0)] [(0,0)] [] [] call160 (Z05.ok aa ae af))]<|.rg [(1,hG Z6 ae)]<|.bl<|.loop (.c2 (Z15.l0.partial_correctness ae)) ([],0) [(0,7)] [] [6] (fun _=>.pr fun ah=>.one (fun ai=>⟨[(4,.own 6),(14,.own 7),(15,qi (ae.length:Int)),(16,qi ai)],[q4 6 ah,q4 7 ae],0⟩) fun ai=>.r0<|.cd (fun aj=>.bl<|.el fun ak al am=>.rg [(0,hX Z6 al am),(1,hL Z6 am),(2,⟨.k 8,.n⟩)]<|.rg [(1,hG Z6 ah)]<|.bl<|.r0<|.join (.cd (fun an=>.o [(6,17),(7,18)])
 (fun an=>.join (.sp (fun ap=>.el fun aq ar au=>.rg [(2,hB ap),(6,hX Z6 ar au),(8,hL Z6 au)]<|.o [(6,9),(8,10),(7,11)])
 (fun ap=>.rg [(2,hB ap)]<|.o [(6,9),(8,10),(7,11)]))
 (.st .normal (fun av=>⟨[(4,.own 9),(6,.ptr 10 0 0),(7,qi (ah.length:Int)),(14,.own 11),(15,qi (ae.length:Int)),(16,qi ai),(30,bV av)],[q4 9 ah,(10,some (.box 132 (Z62 ak))),q4 11 ae],0⟩) fun av=>.join (.cd (fun aw=>.el fun ax ay az=>.bd fun a8 a9=>.rg [(3,hX Z6 ay az),(5,hL Z6 az),(8,hQ 12 qv ([ax.f1,ak.f1]:List Int)),(9,hC [] [] [12] [] call98 (Z1y.ok [ax.f1,ak.f1] a8 a9))]<|.r0<|.cd (fun ba=>.r0<|.ret [] [] [0] ⟨[(2,.own 0),(3,qi a8.2)],[q4 0 []],0⟩)
 (fun ba=>.rg [(4,hX Z6 ay az),(6,hS Z6 (⟨ax.f0,a8.1⟩:Z0) 1 [iI .u64 a8.1] az)]<|.o [(9,15),(11,16)]))
 (fun aw=>.ck fun bb=>.rg [(2,hQ 13 Z6 ([ak]:List Z0)),(3,hP 14 Z6 2 bb)]<|.o [(14,15),(11,16)]))
 (.sm (.rt (fun rr=>.tup [.own 0,qi rr.2]) (fun rr=>[q4 0 rr.1]))
 (.st .normal (fun bc=>⟨[(4,.own 15),(14,.own 16),(15,qi (ae.length:Int)),(16,qi ai)],[q4 15 bc,q4 16 ae],0⟩) fun bc=>.o [(15,17),(16,18)])))))
 (.sm (.rt (fun rr=>.tup [.own 0,qi rr.2]) (fun rr=>[q4 0 rr.1]))
 (.st .normal (fun be=>⟨[(4,.own 17),(14,.own 18),(15,qi (ae.length:Int)),(16,qi ai)],[q4 17 be,q4 18 ae],0⟩) fun be=>.r0<|.bk [(17,6),(18,7)] rfl)))
 (fun aj=>.o [(6,19)]))
 (.sm (.rt (fun rr=>.tup [.own 0,qi rr.2]) (fun rr=>[q4 0 rr.1]))
 (.st (.exit 0) (fun bf=>⟨[(4,.own 19)],[q4 19 bf],0⟩) fun bf=>.r0<|.ret [(19,0)] [] [] ⟨[(2,.own 0),(3,qi 0)],[q4 0 bf],0⟩)))
def Z0q.l1 (a0:List (List Z0)) (aa:List Z0) (ad:Int) (ae:Int) (af:Int):Option ((Int×Int) ⊕ Int):=if(decide (af<(aa.length:Int)))=true then((at? aa af)>>=fun ah=>(Z1y.f [ae,ah.f1])>>=fun ai=>if(ai.2 != 0)=true then(some (.inl (0,ai.2))) else(Z0q.l1 a0 aa ad ai.1 (i64.wrap (af+1)))) else(some (.inr ae))
partial_fixpoint
def Z0q.l0 (a0:List (List Z0)) (aa:Int) (ad:Int):Option ((Int×Int) ⊕ Int):=if(decide (ad<(a0.length:Int)))=true then((at? a0 ad)>>=fun ae=>(Z0q.l1 a0 ae ad aa 0)>>=fun oo=>match oo with | .inl rr=>(some (.inl rr)) | .inr af=>(Z0q.l0 a0 af (i64.wrap (ad+1)))) else(some (.inr aa))
partial_fixpoint
def Z0q.f (a0:List (List Z0)):Option (Int×Int):=(Z0q.l0 a0 0 0)>>=fun oo=>match oo with | .inl rr=>(some rr) | .inr aa=>(some (aa,0))
theorem Z0q.ok (a0:List (List Z0)):FN 138 [.im (.row (a0.map (Z3c Z6)))] [] 0 (Z0q.f a0) (fun r=>.tup [qu r.1,qi r.2]) (fun r=>[]):=FT [] func138 (.r0<|.r0<|.rg [(1,hG (Z3c Z6) a0)]<|.bl<|.loop (.c2 (Z0q.l0.partial_correctness a0)) (0,0) [] [] [] (fun _=>.pr fun aa=>.one (fun ad=>⟨[(4,qu aa),(10,.im (.row (a0.map (Z3c Z6)))),(11,qi (a0.length:Int)),(12,qi ad)],[],0⟩) fun ad=>.r0<|.cd (fun ae=>.bl<|.el fun af ah ai=>.rg [(0,hA (Z3c Z6) ah ai)]<|.rg [(1,hG Z6 af)]<|.bl<|.loop (.c2 (Z0q.l1.partial_correctness a0 af ad)) (aa,0) [] [] [] (fun _=>.pr fun aj=>.one (fun ak=>⟨[(4,qu aj),(10,.im (.row (a0.map (Z3c Z6)))),(11,qi (a0.length:Int)),(12,qi ad),(16,.im (.row (af.map Z6))),(17,qi (af.length:Int)),(18,qi ak)],[],0⟩) fun ak=>.r0<|.cd (fun al=>.bl<|.el fun am an ap=>.rg [(0,hA Z6 an ap),(2,⟨.k 6,.n⟩)]<|.r0<|.bd fun aq ar=>.rg [(3,hQ 7 qv ([aj,am.f1]:List Int)),(4,hC [] [] [7] [] call98 (Z1y.ok [aj,am.f1] aq ar))]<|.r0<|.cd (fun au=>.r0<|.ret [] [] [] ⟨[(2,qu 0),(3,qi aq.2)],[],0⟩)
 (fun au=>.r0<|.bk [] rfl))
 (fun al=>.o []))
 (.sm (.rt (fun rr=>.tup [qu rr.1,qi rr.2]) (fun rr=>[]))
 (.st (.exit 2) (fun av=>⟨[(4,qu av),(10,.im (.row (a0.map (Z3c Z6)))),(11,qi (a0.length:Int)),(12,qi ad)],[],0⟩) fun av=>.r0<|.bk [] rfl)))
 (fun ae=>.o []))
 (.sm (.rt (fun rr=>.tup [qu rr.1,qi rr.2]) (fun rr=>[]))
 (.st (.exit 0) (fun aw=>⟨[(4,qu aw)],[],0⟩) fun aw=>.r0<|.ret [] [] [] ⟨[(2,qu aw),(3,qi 0)],[],0⟩)))
def Z0t.l0 (a0:Z1) (a1:List Z0) (aa:Int):Option (Int ⊕ Unit):=if(decide (aa<(a1.length:Int)))=true then((at? a1 aa)>>=fun ad=>(Z4h.f a0.f1 ad.f0)>>=fun ae=>if(!ae)=true then(some (.inl 4)) else(((if(decide (aa>0))=true then((at? a1 (i64.wrap (aa-1)))>>=fun af=>some (decide (af.f0≥ad.f0))) else(some false)):Option Bool)>>=fun ah=>if ah=true then(some (.inl 32)) else(if(ad.f1==0)=true then(some (.inl 21)) else((Z2m.f a0.f1 ad.f0)>>=fun ai=>if(decide (ai<a0.f2))=true then(some (.inl 31)) else(Z0t.l0 a0 a1 (i64.wrap (aa+1))))))) else(some (.inr ()))
partial_fixpoint
def Z0t.f (a0:Z1) (a1:List Z0):Option Int:=if(decide ((a1.length:Int)>512))=true then(some 9) else((Z0t.l0 a0 a1 0)>>=fun oo=>match oo with | .inl rr=>(some rr) | .inr _=>(some 0))
theorem Z0t.ok (a0:Z1) (a1:List Z0):FN 163 [.agg (Zo a0),.im (.row (a1.map Z6))] [] 0 (Z0t.f a0 a1) (fun r=>qi r) (fun r=>[]):=FT [] func163 (.rg [(0,⟨.k 0,.n⟩)]<|.rg [(1,hG Z6 a1)]<|.cd (fun aa=>.r0<|.ret [] [] [] ⟨[(4,qi 9)],[],0⟩)
 (fun aa=>.rg [(1,hG Z6 a1)]<|.bl<|.loop (.one (Z0t.l0.partial_correctness a0 a1)) 0 [(0,2)] [] [] (fun _=>.one (fun ad=>⟨[(1,.im (.row (a1.map Z6))),(2,.ptr 2 0 0),(10,.im (.row (a1.map Z6))),(11,qi (a1.length:Int)),(12,qi ad)],[(2,some (.box 48 (Zo a0)))],0⟩) fun ad=>.r0<|.cd (fun ae=>.bl<|.el fun af ah ai=>.rg [(1,hA Z6 ah ai),(3,⟨.k 3,.n⟩)]<|.bl<|.bd fun aj ak=>.rg [(4,qh call176 (Z4h.ok a0.f1 af.f0 aj ak))]<|.cd (fun al=>.r0<|.ret [] [] [] ⟨[(4,qi 4)],[],0⟩)
 (fun al=>.join (.sp (fun am=>.el fun an ap aq=>.rg [(2,hB am),(6,hA Z6 ap aq)]<|.o [(2,4),(3,5)])
 (fun am=>.rg [(2,hB am)]<|.o [(2,4),(3,5)]))
 (.st .normal (fun ar=>⟨[(1,.im (.row (a1.map Z6))),(2,.ptr 4 0 0),(6,.ptr 5 0 0),(10,.im (.row (a1.map Z6))),(11,qi (a1.length:Int)),(12,qi ad),(24,bV ar)],[(4,some (.box 48 (Zo a0))),(5,some (.box 132 (Z62 af)))],0⟩) fun ar=>.cd (fun au=>.r0<|.ret [] [] [] ⟨[(4,qi 32)],[],0⟩)
 (fun au=>.r0<|.cd (fun av=>.r0<|.ret [] [] [] ⟨[(4,qi 21)],[],0⟩)
 (fun av=>.bd fun aw ax=>.rg [(4,qh call151 (Z2m.ok a0.f1 af.f0 aw ax))]<|.cd (fun ay=>.r0<|.ret [] [] [] ⟨[(4,qi 31)],[],0⟩)
 (fun ay=>.r0<|.bk [(4,2)] rfl))))))
 (fun ae=>.o []))
 (.sm (.rt (fun rr=>qi rr) (fun rr=>[]))
 (.st (.exit 0) (fun _=>⟨[],[],0⟩) fun _=>.r0<|.ret [] [] [] ⟨[(4,qi 0)],[],0⟩))))
def Z18.l0 (a0:Z1) (aa:Int):Option (Int ⊕ Unit):=if(decide (aa<2))=true then((((chk (0≤aa∧aa<2))>>=fun _=>if(aa==0)=true then(some a0.f6) else(some a0.f7)):Option (List Z0))>>=fun ad=>(Z0t.f a0 ad)>>=fun ae=>if(ae != 0)=true then(some (.inl ae)) else(Z18.l0 a0 (i64.wrap (aa+1)))) else(some (.inr ()))
partial_fixpoint
def Z18.f (a0:Z1):Option Int:=((if(a0.f0 != 0)=true then(some (a0.f0 != 1)) else(some false)):Option Bool)>>=fun aa=>if aa=true then(some 25) else((Z02.f a0.f1)>>=fun ad=>if(!ad)=true then(some 20) else(((if(a0.f2 != (-524288))=true then(if(decide (a0.f2≤(-262144)))=true then(some true) else(some (decide (a0.f2>262144)))) else(some false)):Option Bool)>>=fun ae=>if ae=true then(some 31) else((Z18.l0 a0 0)>>=fun oo=>match oo with | .inl rr=>(some rr) | .inr _=>((Z0q.f [a0.f6,a0.f7,[(⟨0,a0.f3⟩:Z0)]])>>=fun af=>if(af.2 != 0)=true then(some af.2) else(if(af.1 != a0.f4)=true then(some 21) else(some 0))))))
theorem Z18.ok (a0:Z1):FN 139 [.agg (Zo a0)] [] 0 (Z18.f a0) (fun r=>qi r) (fun r=>[]):=FT [] func139 (.rg [(0,⟨.k 0,.n⟩)]<|.bl<|.join (.sp (fun aa=>.rg [(3,hB aa)]<|.o [(0,1)])
 (fun aa=>.rg [(3,hB aa)]<|.o [(0,1)]))
 (.st .normal (fun ad=>⟨[(1,.ptr 1 0 0),(8,bV ad)],[(1,some (.box 48 (Zo a0)))],0⟩) fun ad=>.cd (fun ae=>.r0<|.ret [] [] [] ⟨[(2,qi 25)],[],0⟩)
 (fun ae=>.bd fun af ah=>.rg [(2,qh call157 (Z02.ok a0.f1 af ah))]<|.cd (fun ai=>.r0<|.ret [] [] [] ⟨[(2,qi 20)],[],0⟩)
 (fun ai=>.join (.sp (fun aj=>.sp (fun ak=>.rg [(3,hB aj),(7,hB ak)]<|.o [(1,2)])
 (fun ak=>.rg [(3,hB aj),(7,hB ak)]<|.o [(1,2)]))
 (fun aj=>.rg [(3,hB aj)]<|.o [(1,2)]))
 (.st .normal (fun al=>⟨[(1,.ptr 2 0 0),(22,bV al)],[(2,some (.box 48 (Zo a0)))],0⟩) fun al=>.cd (fun am=>.r0<|.ret [] [] [] ⟨[(2,qi 31)],[],0⟩)
 (fun am=>.r0<|.bl<|.loop (.one (Z18.l0.partial_correctness a0)) 0 [(2,3)] [] [] (fun _=>.one (fun an=>⟨[(1,.ptr 3 0 0),(40,.agg [.im (.row (a0.f6.map Z6)),.im (.row (a0.f7.map Z6))]),(41,qi an)],[(3,some (.box 48 (Zo a0)))],0⟩) fun an=>.r0<|.cd (fun ap=>.bl<|.join (.ck fun aq=>.sp (fun ar=>.rg [(0,⟨.more (xIdx 0),.c (p:=an=((0:Nat):Int)) (by simpa using ar) .n⟩)]<|.o [(3,4)])
 (fun ar=>.rg [(0,⟨.more (xIdx 1),.c (p:=an=((1:Nat):Int)) (by have:=aq;simp only[beq_eq_false_iff_ne] at *;omega) .n⟩)]<|.o [(3,4)]))
 (.st .normal (fun au=>⟨[(1,.ptr 4 0 0),(4,.im (.row (au.map Z6))),(40,.agg [.im (.row (a0.f6.map Z6)),.im (.row (a0.f7.map Z6))]),(41,qi an)],[(4,some (.box 48 (Zo a0)))],0⟩) fun au=>.bd fun av aw=>.rg [(2,qh call163 (Z0t.ok a0 au av aw))]<|.r0<|.cd (fun ax=>.r0<|.ret [] [] [] ⟨[(2,qi av)],[],0⟩)
 (fun ax=>.r0<|.bk [(4,3)] rfl)))
 (fun ap=>.o [(3,5)]))
 (.sm (.rt (fun rr=>qi rr) (fun rr=>[]))
 (.st (.exit 1) (fun _=>⟨[(1,.ptr 5 0 0)],[(5,some (.box 48 (Zo a0)))],0⟩) fun _=>.bd fun ay az=>.rg [(7,fzI (hQ 6 Z6 ([(⟨0,a0.f3⟩:Z0)]:List Z0))),(8,hQ 7 (Z3c Z6) ([a0.f6,a0.f7,[(⟨0,a0.f3⟩:Z0)]]:List (List Z0))),(9,hC [] [] [7] [] call138 (Z0q.ok [a0.f6,a0.f7,[(⟨0,a0.f3⟩:Z0)]] ay az))]<|.bl<|.r0<|.cd (fun a8=>.r0<|.ret [] [] [] ⟨[(2,qi ay.2)],[],0⟩)
 (fun a8=>.r0<|.cd (fun a9=>.r0<|.ret [] [] [] ⟨[(2,qi 21)],[],0⟩)
 (fun a9=>.r0<|.ret [] [] [] ⟨[(2,qi 0)],[],0⟩))))))))))
def Z1p.f (a0:Z1) (a1:List Z0) (a2:List Z0):Option (Z1×Int):=(Z15.f a1)>>=fun aa=>(Z15.f a2)>>=fun ad=>if((if ad.2>aa.2 then ad.2 else aa.2) != 0)=true then(some ((⟨0,0,0,0,0,0,[],[]⟩:Z1),(if ad.2>aa.2 then ad.2 else aa.2))) else((Z0q.f [aa.1,ad.1,[(⟨0,a0.f3⟩:Z0)]])>>=fun ae=>if(ae.2 != 0)=true then(some ((⟨0,0,0,0,0,0,[],[]⟩:Z1),ae.2)) else((Z18.f (⟨a0.f0,a0.f1,a0.f2,a0.f3,ae.1,a0.f5,aa.1,ad.1⟩:Z1))>>=fun af=>if(af != 0)=true then(some ((⟨0,0,0,0,0,0,[],[]⟩:Z1),af)) else(some ((⟨a0.f0,a0.f1,a0.f2,a0.f3,ae.1,a0.f5,aa.1,ad.1⟩:Z1),0))))
abbrev qk0:MObj:=.box 48 [qi 0,qi 0,qi 0,qu 0,qu 0,qi 0,.none0,.none0]
theorem Z1p.ok (a0:Z1) (a1:List Z0) (a2:List Z0):FN 96 [.agg (Zo a0),.im (.row (a1.map Z6)),.im (.row (a2.map Z6))] [] 0 (Z1p.f a0 a1 a2) (fun r=>.tup [.agg (Zo (r.1)),qi r.2]) (fun r=>[]):=FT [] func96 (.rg [(0,⟨.k 0,.n⟩),(1,⟨.k 1,.n⟩)]<|.r0<|.bd fun aa ad=>.rg [(1,hC [] [(0,2)] [] [2] call137 (Z15.ok a1 aa ad))]<|.bd fun ae af=>.rg [(1,hC [] [(0,3)] [] [3] call137 (Z15.ok a2 ae af))]<|.rg [(2,⟨.more xMax,.n⟩)]<|.r0<|.cd (fun ah=>.r0<|.ret [(1,0)] [] [] ⟨[(6,.ptr 0 0 0),(7,qi (if ae.2>aa.2 then ae.2 else aa.2))],[(0,some (.box 48 (Zo (⟨0,0,0,0,0,0,[],[]⟩:Z1))))],0⟩)
 (fun ah=>.cv [(0,0),(1,1)] [2,3] [] ⟨[(3,.ptr 0 0 0),(6,.ptr 1 0 0),(8,qi (if ae.2>aa.2 then ae.2 else aa.2)),(27,bV ((if ae.2>aa.2 then ae.2 else aa.2) != 0))],[(0,some (.box 48 (Zo ⟨a0.f0,a0.f1,a0.f2,a0.f3,a0.f4,a0.f5,aa.1,ae.1⟩))),(1,some (qk0))],0⟩<|.bd fun ai aj=>.rg [(7,fzI (hQ 4 Z6 ([(⟨0,a0.f3⟩:Z0)]:List Z0))),(8,hQ 5 (Z3c Z6) ([aa.1,ae.1,[(⟨0,a0.f3⟩:Z0)]]:List (List Z0))),(9,hC [] [] [5] [] call138 (Z0q.ok [aa.1,ae.1,[(⟨0,a0.f3⟩:Z0)]] ai aj))]<|.r0<|.cd (fun ak=>.r0<|.ret [(1,0)] [] [] ⟨[(6,.ptr 0 0 0),(7,qi ai.2)],[(0,some (.box 48 (Zo (⟨0,0,0,0,0,0,[],[]⟩:Z1))))],0⟩)
 (fun ak=>.bd fun al am=>.rg [(1,qh call139 (Z18.ok (⟨a0.f0,a0.f1,a0.f2,a0.f3,ai.1,a0.f5,aa.1,ae.1⟩:Z1) al am))]<|.r0<|.cd (fun an=>.r0<|.ret [(1,0)] [] [] ⟨[(6,.ptr 0 0 0),(7,qi al)],[(0,some (.box 48 (Zo (⟨0,0,0,0,0,0,[],[]⟩:Z1))))],0⟩)
 (fun an=>.r0<|.ret [(1,0)] [] [] ⟨[(6,.ptr 0 0 0),(7,qi 0)],[(0,some (.box 48 (Zo (⟨a0.f0,a0.f1,a0.f2,a0.f3,ai.1,a0.f5,aa.1,ae.1⟩:Z1))))],0⟩))))
def Z2y.f (a0:Z1) (a1:List Z0) (a2:List Z0) (a3:Int):Option (Z1×Int):=(Z26.f a0 a1 a3)>>=fun aa=>(Z26.f a0 a2 a3)>>=fun ad=>(Z00.f a1 a0.f0 a0.f1 a0.f2 a0.f3 a0.f4 a0.f5 a0.f6 a0.f7 (if ad>aa then ad else aa))>>=fun ae=>(Z00.f a2 a0.f0 a0.f1 a0.f2 ae.2 a0.f4 a0.f5 a0.f6 a0.f7 (if ad>aa then ad else aa))>>=fun af=>(Z1p.f (⟨a0.f0,a0.f1,(if ad>aa then ad else aa),af.2,a0.f4,a0.f5,a0.f6,a0.f7⟩:Z1) ae.1 af.1)>>=fun ah=>some ((ah.1),ah.2)
theorem Z2y.ok (a0:Z1) (a1:List Z0) (a2:List Z0) (a3:Int):FN 159 [.agg (Zo a0),.im (.row (a1.map Z6)),.im (.row (a2.map Z6)),qi a3] [] 0 (Z2y.f a0 a1 a2 a3) (fun r=>.tup [.agg (Zo (r.1)),qi r.2]) (fun r=>[]):=FT [] func159 (.rg [(0,⟨.k 0,.n⟩),(1,⟨.k 1,.n⟩),(2,⟨.k 2,.n⟩)]<|.bd fun aa ad=>.bd fun ae af=>.rg [(3,qh call172 (Z26.ok a0 a1 a3 aa ad)),(7,qh call172 (Z26.ok a0 a2 a3 ae af)),(8,⟨.more xMax,.n⟩)]<|.rg [(0,⟨.more xFunc,.n⟩)]<|.bd fun ah ai=>.bd fun aj ak=>.rg [(2,hC [(0,0),(1,1)] [(0,0),(1,1),(2,3)] [] [3] call173 (Z00.ok a1 a0.f0 a0.f1 a0.f2 a0.f3 a0.f4 a0.f5 a0.f6 a0.f7 (if ae>aa then ae else aa) ah ai)),(5,hC [(0,0),(1,1)] [(0,0),(1,1),(2,4)] [] [4] call173 (Z00.ok a2 a0.f0 a0.f1 a0.f2 ah.2 a0.f4 a0.f5 a0.f6 a0.f7 (if ae>aa then ae else aa) aj ak))]<|.r0<|.cv [(2,2),(0,0)] [3,4] [] ⟨[(1,.im (.row (ah.1.map Z6))),(2,.im (.row (aj.1.map Z6))),(4,.ptr 0 0 0),(8,.ptr 2 0 0)],[(0,some (.box 48 (Zo ⟨a0.f0,a0.f1,(if ae>aa then ae else aa),aj.2,a0.f4,a0.f5,a0.f6,a0.f7⟩))),(2,some (qk0))],0⟩<|.bd fun al am=>.rg [(3,qh call96 (Z1p.ok (⟨a0.f0,a0.f1,(if ae>aa then ae else aa),aj.2,a0.f4,a0.f5,a0.f6,a0.f7⟩:Z1) ah.1 aj.1 al am))]<|.ret [(2,0)] [] [] ⟨[(8,.ptr 0 0 0),(9,qi al.2)],[(0,some (.box 48 (Zo (al.1))))],0⟩)
def Z2d.f (a0:Z1) (a1:Int):Option (Z1×Int):=(((Z02.f a1)>>=fun aa=>if(!aa)=true then(some true) else(some (decide (a1>a0.f1)))):Option Bool)>>=fun ad=>if ad=true then(some ((⟨0,0,0,0,0,0,[],[]⟩:Z1),20)) else((Z27.f a0.f6 a0.f1 a1)>>=fun ae=>(Z27.f a0.f7 a0.f1 a1)>>=fun af=>(Z2y.f (⟨a0.f0,a1,a0.f2,a0.f3,a0.f4,a0.f5,a0.f6,a0.f7⟩:Z1) ae af a0.f2)>>=fun ah=>some ((ah.1),ah.2))
theorem Z2d.ok (a0:Z1) (a1:Int):FN 135 [.agg (Zo a0),qi a1] [] 0 (Z2d.f a0 a1) (fun r=>.tup [.agg (Zo (r.1)),qi r.2]) (fun r=>[]):=FT [] func135 (.rg [(0,⟨.k 0,.n⟩),(1,⟨.k 1,.n⟩)]<|.join (.bd fun aa ad=>.sp (fun ae=>.rg [(1,qh call157 (Z02.ok a1 aa ad)),(3,hB ae)]<|.o [(0,2),(1,3)])
 (fun ae=>.rg [(1,qh call157 (Z02.ok a1 aa ad)),(3,hB ae)]<|.o [(0,2),(1,3)]))
 (.st .normal (fun af=>⟨[(1,qi a1),(2,.ptr 2 0 0),(4,.ptr 3 0 0),(17,bV af)],[(2,some (.box 48 (Zo a0))),(3,some (qk0))],0⟩) fun af=>.cd (fun ah=>.r0<|.ret [(3,0)] [] [] ⟨[(4,.ptr 0 0 0),(5,qi 20)],[(0,some (.box 48 (Zo (⟨0,0,0,0,0,0,[],[]⟩:Z1))))],0⟩)
 (fun ah=>.r0<|.r0<|.bd fun ai aj=>.bd fun ak al=>.rg [(4,hC [] [(0,4)] [] [4] call158 (Z27.ok a0.f6 a0.f1 a1 ai aj)),(9,hC [] [(0,5)] [] [5] call158 (Z27.ok a0.f7 a0.f1 a1 ak al))]<|.cv [(2,2),(3,3)] [4,5] [] ⟨[(2,.ptr 2 0 0),(4,.ptr 3 0 0),(7,.im (.row (ai.map Z6))),(8,.im (.row (ak.map Z6)))],[(2,some (.box 48 (Zo ⟨a0.f0,a1,a0.f2,a0.f3,a0.f4,a0.f5,a0.f6,a0.f7⟩))),(3,some (qk0))],0⟩<|.bd fun am an=>.rg [(5,qh call159 (Z2y.ok (⟨a0.f0,a1,a0.f2,a0.f3,a0.f4,a0.f5,a0.f6,a0.f7⟩:Z1) ai ak a0.f2 am an))]<|.ret [(3,0)] [] [] ⟨[(4,.ptr 0 0 0),(5,qi am.2)],[(0,some (.box 48 (Zo (am.1))))],0⟩)))
def Z22.f (a0:Z1):Option Z1:=(Z03.f a0.f6)>>=fun aa=>(Z03.f a0.f7)>>=fun ad=>some (⟨a0.f0,a0.f1,a0.f2,a0.f3,a0.f4,a0.f5,aa,ad⟩:Z1)
theorem Z22.ok (a0:Z1):FN 34 [.agg (Zo a0)] [] 0 (Z22.f a0) (fun r=>.agg [qi ((r).f0),qi ((r).f1),qi ((r).f2),qu ((r).f3),qu ((r).f4),qi ((r).f5),.own 0,.own 1]) (fun r=>[q4 0 ((r).f6),q4 1 ((r).f7)]):=FT [0,1] func34 (.rg [(0,⟨.k 0,.n⟩),(1,⟨.k 1,.n⟩)]<|.bd fun aa ad=>.bd fun ae af=>.rg [(2,hC [] [(0,2)] [] [2] call64 (Z03.ok a0.f6 aa ad)),(5,hC [] [(0,3)] [] [3] call64 (Z03.ok a0.f7 ae af))]<|.r0<|.ret [(1,2),(2,0),(3,1)] [] [] ⟨[(2,.ptr 2 0 0)],[q4 0 ((⟨a0.f0,a0.f1,a0.f2,a0.f3,a0.f4,a0.f5,aa,ae⟩:Z1).f6),q4 1 ((⟨a0.f0,a0.f1,a0.f2,a0.f3,a0.f4,a0.f5,aa,ae⟩:Z1).f7),(2,some (.box 48 [qi ((⟨a0.f0,a0.f1,a0.f2,a0.f3,a0.f4,a0.f5,aa,ae⟩:Z1).f0),qi ((⟨a0.f0,a0.f1,a0.f2,a0.f3,a0.f4,a0.f5,aa,ae⟩:Z1).f1),qi ((⟨a0.f0,a0.f1,a0.f2,a0.f3,a0.f4,a0.f5,aa,ae⟩:Z1).f2),qu ((⟨a0.f0,a0.f1,a0.f2,a0.f3,a0.f4,a0.f5,aa,ae⟩:Z1).f3),qu ((⟨a0.f0,a0.f1,a0.f2,a0.f3,a0.f4,a0.f5,aa,ae⟩:Z1).f4),qi ((⟨a0.f0,a0.f1,a0.f2,a0.f3,a0.f4,a0.f5,aa,ae⟩:Z1).f5),.own 0,.own 1]))],0⟩)
def Z17.f (a0:Z1) (a1:Int):Option (Z1×Int):=if(decide (a1<a0.f2))=true then(some ((⟨0,0,0,0,0,0,[],[]⟩:Z1),31)) else(if(a1==a0.f2)=true then((Z22.f a0)>>=fun aa=>some ((aa),0)) else(((if(decide (a1≤(-262144)))=true then(some true) else(some (decide (a1>262144)))):Option Bool)>>=fun ad=>if ad=true then(some ((⟨0,0,0,0,0,0,[],[]⟩:Z1),31)) else((Z2y.f a0 a0.f6 a0.f7 a1)>>=fun ae=>some ((ae.1),ae.2))))
theorem Z17.ok (a0:Z1) (a1:Int):FN 136 [.agg (Zo a0),qi a1] [] 0 (Z17.f a0 a1) (fun r=>.tup [.agg (Zo (r.1)),qi r.2]) (fun r=>[]):=FT [] func136 (.rg [(0,⟨.k 0,.n⟩),(1,⟨.k 1,.n⟩)]<|.bl<|.r0<|.cd (fun aa=>.r0<|.ret [(1,0)] [] [] ⟨[(4,.ptr 0 0 0),(5,qi 31)],[(0,some (.box 48 (Zo (⟨0,0,0,0,0,0,[],[]⟩:Z1))))],0⟩)
 (fun aa=>.r0<|.cd (fun ad=>.bd fun ae af=>.rg [(1,hC [] [(0,2),(1,3)] [] [2,3] call34 (Z22.ok a0 ae af))]<|.ret [(1,0)] [2,3] [] ⟨[(4,.ptr 0 0 0),(5,qi 0)],[(0,some (.box 48 (Zo (ae))))],0⟩)
 (fun ad=>.join (.sp (fun ah=>.rg [(2,hB ah)]<|.o [(0,4),(1,5)])
 (fun ah=>.rg [(2,hB ah)]<|.o [(0,4),(1,5)]))
 (.st .normal (fun ai=>⟨[(1,qi a1),(2,.ptr 4 0 0),(4,.ptr 5 0 0),(19,bV ai)],[(4,some (.box 48 (Zo a0))),(5,some (qk0))],0⟩) fun ai=>.cd (fun aj=>.r0<|.ret [(5,0)] [] [] ⟨[(4,.ptr 0 0 0),(5,qi 31)],[(0,some (.box 48 (Zo (⟨0,0,0,0,0,0,[],[]⟩:Z1))))],0⟩)
 (fun aj=>.bd fun ak al=>.rg [(6,qh call159 (Z2y.ok a0 a0.f6 a0.f7 a1 ak al))]<|.ret [(5,0)] [] [] ⟨[(4,.ptr 0 0 0),(5,qi ak.2)],[(0,some (.box 48 (Zo (ak.1))))],0⟩)))))
def Z01.l0  (v:Int×Int×Int×Int×Int×Int×(List Z0)×(List Z0)×Int×Int×Int×Int×Int×Int×(List Z0)×(List Z0)):Option ((Z1×Z1×Int) ⊕ (Int×Int×Int×Int×Int×Int×(List Z0)×(List Z0)×Int×Int×Int×Int×Int×Int×(List Z0)×(List Z0))):=match v with
 | (aa,ad,ae,af,ah,ai,aj,ak,al,am,an,ap,aq,ar,au,av)=>if(ae != an)=true then((Z17.f (⟨aa,ad,ae,af,ah,ai,aj,ak⟩:Z1) (if an>ae then an else ae))>>=fun aw=>(Z17.f (⟨al,am,an,ap,aq,ar,au,av⟩:Z1) (if an>ae then an else ae))>>=fun ax=>if((if ax.2>aw.2 then ax.2 else aw.2) != 0)=true then(some (.inl ((⟨0,0,0,0,0,0,[],[]⟩:Z1),(⟨0,0,0,0,0,0,[],[]⟩:Z1),(if ax.2>aw.2 then ax.2 else aw.2)))) else(Z01.l0  ((aw.1).f0,(aw.1).f1,(aw.1).f2,(aw.1).f3,(aw.1).f4,(aw.1).f5,(aw.1).f6,(aw.1).f7,(ax.1).f0,(ax.1).f1,(ax.1).f2,(ax.1).f3,(ax.1).f4,(ax.1).f5,(ax.1).f6,(ax.1).f7))) else(some (.inr (aa,ad,ae,af,ah,ai,aj,ak,al,am,an,ap,aq,ar,au,av)))
partial_fixpoint
def Z01.f (a0:Z1) (a1:Z1):Option (Z1×Z1×Int):=(Z2d.f a0 (if a1.f1<a0.f1 then a1.f1 else a0.f1))>>=fun aa=>(Z2d.f a1 (if a1.f1<a0.f1 then a1.f1 else a0.f1))>>=fun ad=>if((if ad.2>aa.2 then ad.2 else aa.2) != 0)=true then(some ((⟨0,0,0,0,0,0,[],[]⟩:Z1),(⟨0,0,0,0,0,0,[],[]⟩:Z1),(if ad.2>aa.2 then ad.2 else aa.2))) else((Z01.l0  ((aa.1).f0,(aa.1).f1,(aa.1).f2,(aa.1).f3,(aa.1).f4,(aa.1).f5,(aa.1).f6,(aa.1).f7,(ad.1).f0,(ad.1).f1,(ad.1).f2,(ad.1).f3,(ad.1).f4,(ad.1).f5,(ad.1).f6,(ad.1).f7))>>=fun oo=>match oo with | .inl rr=>(some rr) | .inr (ae,af,ah,ai,aj,ak,al,am,an,ap,aq,ar,au,av,aw,ax)=>(some ((⟨ae,af,ah,ai,aj,ak,al,am⟩:Z1),(⟨an,ap,aq,ar,au,av,aw,ax⟩:Z1),0)))
theorem Z01.ok (a0:Z1) (a1:Z1):FN 93 [.agg (Zo a0),.agg (Zo a1)] [] 0 (Z01.f a0 a1) (fun r=>.tup [.agg (Zo (r.1)),.agg (Zo (r.2.1)),qi r.2.2]) (fun r=>[]):=FT [] func93 (.rg [(0,⟨.k 0,.n⟩),(1,⟨.k 1,.n⟩),(2,⟨.k 2,.n⟩),(3,⟨.k 3,.n⟩)]<|.rg [(4,⟨.more xMin,.n⟩)]<|.bd fun aa ad=>.rg [(2,qh call135 (Z2d.ok a0 (if a1.f1<a0.f1 then a1.f1 else a0.f1) aa ad))]<|.bd fun ae af=>.rg [(2,qh call135 (Z2d.ok a1 (if a1.f1<a0.f1 then a1.f1 else a0.f1) ae af))]<|.rg [(2,⟨.more xMax,.n⟩)]<|.r0<|.cd (fun ah=>.r0<|.ret [(2,0),(3,1)] [] [] ⟨[(4,.ptr 0 0 0),(5,.ptr 1 0 0),(6,qi (if ae.2>aa.2 then ae.2 else aa.2))],[(0,some (.box 48 (Zo (⟨0,0,0,0,0,0,[],[]⟩:Z1)))),(1,some (.box 48 (Zo (⟨0,0,0,0,0,0,[],[]⟩:Z1))))],0⟩)
 (fun ah=>.bl<|.loop (.one (Z01.l0.partial_correctness )) ((aa.1).f0,(aa.1).f1,(aa.1).f2,(aa.1).f3,(aa.1).f4,(aa.1).f5,(aa.1).f6,(aa.1).f7,(ae.1).f0,(ae.1).f1,(ae.1).f2,(ae.1).f3,(ae.1).f4,(ae.1).f5,(ae.1).f6,(ae.1).f7) [(0,4),(1,5),(2,6),(3,7)] [] [] (fun _=>.pr fun ai=>.pr fun aj=>.pr fun ak=>.pr fun al=>.pr fun am=>.pr fun an=>.pr fun ap=>.pr fun aq=>.pr fun ar=>.pr fun au=>.pr fun av=>.pr fun aw=>.pr fun ax=>.pr fun ay=>.pr fun az=>.one (fun a8=>⟨[(2,.ptr 4 0 0),(3,.ptr 5 0 0),(4,.ptr 6 0 0),(5,.ptr 7 0 0)],[(4,some (.box 48 (Zo ⟨ai,aj,ak,al,am,an,ap,aq⟩))),(5,some (.box 48 (Zo ⟨ar,au,av,aw,ax,ay,az,a8⟩))),(6,some (qk0)),(7,some (qk0))],0⟩) fun a8=>.r0<|.cd (fun a9=>.bl<|.rg [(4,⟨.more xMax,.n⟩)]<|.bd fun ba bb=>.rg [(2,qh call136 (Z17.ok (⟨ai,aj,ak,al,am,an,ap,aq⟩:Z1) (if av>ak then av else ak) ba bb))]<|.bd fun bc be=>.rg [(2,qh call136 (Z17.ok (⟨ar,au,av,aw,ax,ay,az,a8⟩:Z1) (if av>ak then av else ak) bc be))]<|.rg [(2,⟨.more xMax,.n⟩)]<|.r0<|.cd (fun bf=>.r0<|.ret [(6,0),(7,1)] [] [] ⟨[(4,.ptr 0 0 0),(5,.ptr 1 0 0),(6,qi (if bc.2>ba.2 then bc.2 else ba.2))],[(0,some (.box 48 (Zo (⟨0,0,0,0,0,0,[],[]⟩:Z1)))),(1,some (.box 48 (Zo (⟨0,0,0,0,0,0,[],[]⟩:Z1))))],0⟩)
 (fun bf=>.bk [(4,4),(5,5),(6,6),(7,7)] rfl))
 (fun a9=>.o [(4,8),(5,9),(6,10),(7,11)]))
 (.sm (.rt (fun rr=>.tup [.agg (Zo (rr.1)),.agg (Zo (rr.2.1)),qi rr.2.2]) (fun rr=>[]))
 (.pr fun bg=>.pr fun bh=>.pr fun bi=>.pr fun bj=>.pr fun bn=>.pr fun bo=>.pr fun bp=>.pr fun bq=>.pr fun br=>.pr fun bu=>.pr fun bv=>.pr fun bw=>.pr fun bx=>.pr fun bz=>.pr fun ca=>.st (.exit 0) (fun cc=>⟨[(2,.ptr 8 0 0),(3,.ptr 9 0 0),(4,.ptr 10 0 0),(5,.ptr 11 0 0)],[(8,some (.box 48 (Zo ⟨bg,bh,bi,bj,bn,bo,bp,bq⟩))),(9,some (.box 48 (Zo ⟨br,bu,bv,bw,bx,bz,ca,cc⟩))),(10,some (qk0)),(11,some (qk0))],0⟩) fun cc=>.r0<|.ret [(10,0),(11,1)] [] [] ⟨[(4,.ptr 0 0 0),(5,.ptr 1 0 0),(6,qi 0)],[(0,some (.box 48 (Zo (⟨bg,bh,bi,bj,bn,bo,bp,bq⟩:Z1)))),(1,some (.box 48 (Zo (⟨br,bu,bv,bw,bx,bz,ca,cc⟩:Z1))))],0⟩))))
def Z0p.l1 (a0:List Z0) (aa:Z0) (ad:List Z0) (ae:List Z0) (af:Int) (ah:Unit):Option (((List Z0)×Bool) ⊕ Unit):=((if(decide ((ad.length:Int)>0))=true then((at? ad 0)>>=fun ai=>some (decide (ai.f0<aa.f0))) else(some false)):Option Bool)>>=fun aj=>if aj=true then(some (.inl ([],false))) else(some (.inr ()))
def Z0p.l0 (a0:List Z0) (aa:List Z0) (ad:List Z0) (ae:Int):Option (((List Z0)×Bool) ⊕ ((List Z0)×(List Z0))):=if(decide (ae<(a0.length:Int)))=true then((at? a0 ae)>>=fun af=>(Z0p.l1 a0 af aa ad ae ())>>=fun oo=>match oo with | .inl rr=>(some (.inl rr)) | .inr _=>(((if(decide ((aa.length:Int)>0))=true then((at? aa 0)>>=fun ah=>some (ah.f0==af.f0)) else(some false)):Option Bool)>>=fun ai=>((if ai=true then((at? aa 0)>>=fun aj=>if(decide (aj.f1>af.f1))=true then(some (.inl ([],false))) else((chk (0≤(1:Int)∧(1:Int)≤(aa.length:Int)∧(aa.length:Int)≤(aa.length:Int)))>>=fun _=>some (.inr ((aa.drop (Int.toNat (1:Int))).take ((Int.toNat (aa.length:Int))-(Int.toNat (1:Int))),u64.wrap (af.f1-aj.f1))))) else(some (.inr (aa,af.f1)))):Option (((List Z0)×Bool) ⊕ ((List Z0)×Int)))>>=fun oo=>match oo with | .inl rr=>(some (.inl rr)) | .inr (ak,al)=>((chk ((ad.length+[(⟨af.f0,al⟩:Z0)].length)*16≤140737488355328))>>=fun _=>Z0p.l0 a0 ak (ad++[(⟨af.f0,al⟩:Z0)]) (i64.wrap (ae+1))))) else(some (.inr (aa,ad)))
partial_fixpoint
def Z0p.f (a0:List Z0) (a1:List Z0):Option ((List Z0)×Bool):=(Z0p.l0 a0 a1 [] 0)>>=fun oo=>match oo with | .inl rr=>(some rr) | .inr (aa,ad)=>(some (ad,((aa.length:Int)==0)))
theorem Z0p.ok (a0:List Z0) (a1:List Z0):FN 94 [.im (.row (a0.map Z6)),.im (.row (a1.map Z6))] [] 0 (Z0p.f a0 a1) (fun r=>.tup [.own 0,bV r.2]) (fun r=>[q4 0 r.1]):=FT [0] func94 (.r0<|.r0<|.rg [(1,hG Z6 a0)]<|.bl<|.loop (.c3 (Z0p.l0.partial_correctness a0)) (a1,[],0) [] [] [7] (fun _=>.pr fun aa=>.pr fun ad=>.one (fun ae=>⟨[(1,.im (.row (aa.map Z6))),(6,.own 7),(9,.im (.row (a0.map Z6))),(10,qi (a0.length:Int)),(11,qi ae)],[q4 7 ad],0⟩) fun ae=>.r0<|.cd (fun af=>.bl<|.el fun ah ai aj=>.rg [(0,hA Z6 ai aj),(2,⟨.k 8,.n⟩)]<|.bl<|.loop (.no (fun p=>Z0p.l1 a0 ah aa ad ae p)) () [(7,7),(8,8)] [] [] (fun _=>.one (fun ak=>⟨[(1,.im (.row (aa.map Z6))),(6,.own 7),(8,.ptr 8 0 0),(9,.im (.row (a0.map Z6))),(10,qi (a0.length:Int)),(11,qi ae)],[q4 7 ad,(8,some (.box 132 (Z62 ah)))],0⟩) fun ak=>.join (.sp (fun al=>.el fun am an ap=>.rg [(1,hG Z6 aa),(3,hB al),(5,hA Z6 an ap)]<|.o [(7,9),(8,10)])
 (fun al=>.rg [(1,hG Z6 aa),(3,hB al)]<|.o [(7,9),(8,10)]))
 (.st .normal (fun aq=>⟨[(1,.im (.row (aa.map Z6))),(6,.own 9),(8,.ptr 10 0 0),(9,.im (.row (a0.map Z6))),(10,qi (a0.length:Int)),(11,qi ae),(26,bV aq)],[q4 9 ad,(10,some (.box 132 (Z62 ah)))],0⟩) fun aq=>.cd (fun ar=>.bl<|.r0<|.ret [] [] [0] ⟨[(4,.own 0),(5,bV false)],[q4 0 []],0⟩)
 (fun ar=>.o [(9,11),(10,12)])))
 (.sm (.rt (fun rr=>.tup [.own 0,bV rr.2]) (fun rr=>[q4 0 rr.1]))
 (.st (.exit 2) (fun _=>⟨[(1,.im (.row (aa.map Z6))),(6,.own 11),(8,.ptr 12 0 0),(9,.im (.row (a0.map Z6))),(10,qi (a0.length:Int)),(11,qi ae)],[q4 11 ad,(12,some (.box 132 (Z62 ah)))],0⟩) fun _=>.join (.sp (fun au=>.el fun av aw ax=>.rg [(1,hG Z6 aa),(3,hB au),(5,hA Z6 aw ax)]<|.o [(11,13),(12,14)])
 (fun au=>.rg [(1,hG Z6 aa),(3,hB au)]<|.o [(11,13),(12,14)]))
 (.st .normal (fun ay=>⟨[(1,.im (.row (aa.map Z6))),(6,.own 13),(8,.ptr 14 0 0),(9,.im (.row (a0.map Z6))),(10,qi (a0.length:Int)),(11,qi ae),(38,bV ay)],[q4 13 ad,(14,some (.box 132 (Z62 ah)))],0⟩) fun ay=>.join (.cd (fun az=>.el fun a8 a9 ba=>.rg [(1,hA Z6 a9 ba)]<|.cd (fun bb=>.r0<|.ret [] [] [0] ⟨[(4,.own 0),(5,bV false)],[q4 0 []],0⟩)
 (fun bb=>.rg [(3,hA Z6 a9 ba)]<|.ck fun bc=>.rg [(1,hR1 Z6 2 bc)]<|.o [(13,15),(14,16)]))
 (fun az=>.o [(13,15),(14,16)]))
 (.sm (.rt (fun rr=>.tup [.own 0,bV rr.2]) (fun rr=>[q4 0 rr.1]))
 (.pr fun be=>.st .normal (fun bf=>⟨[(1,.im (.row (be.map Z6))),(6,.own 15),(8,.ptr 16 0 0),(9,.im (.row (a0.map Z6))),(10,qi (a0.length:Int)),(11,qi ae)],[q4 15 ad,(16,some (.box 132 (Z62 ⟨ah.f0,bf⟩)))],0⟩) fun bf=>.ck fun bg=>.rg [(2,hQ 17 Z6 ([(⟨ah.f0,bf⟩:Z0)]:List Z0)),(3,hP 18 Z6 2 bg)]<|.r0<|.bk [(18,7)] rfl))))))
 (fun af=>.o [(7,19)]))
 (.sm (.rt (fun rr=>.tup [.own 0,bV rr.2]) (fun rr=>[q4 0 rr.1]))
 (.pr fun bh=>.st (.exit 0) (fun bi=>⟨[(1,.im (.row (bh.map Z6))),(6,.own 19)],[q4 19 bi],0⟩) fun bi=>.rg [(2,hG Z6 bh)]<|.ret [(19,0)] [] [] ⟨[(4,.own 0),(5,bV ((bh.length:Int)==0))],[q4 0 bi],0⟩)))
def Z69.f (a0:Int) (a1:Int):Option (Int×Int):=if(decide (a1>a0))=true then(some (0,5)) else(some (u64.wrap (a0-a1),0))
theorem Z69.ok (a0:Int) (a1:Int):FN 95 [qu a0,qu a1] [] 0 (Z69.f a0 a1) (fun r=>.tup [qu r.1,qi r.2]) (fun r=>[]):=FT [] func95 (.r0<|.r0<|.cd (fun aa=>.r0<|.ret [] [] [] ⟨[(4,qu 0),(5,qi 5)],[],0⟩)
 (fun aa=>.r0<|.ret [] [] [] ⟨[(4,qu (u64.wrap (a0-a1))),(5,qi 0)],[],0⟩))
def Z1w.f (a0:Z1) (a1:Z1):Option (Z1×Int):=(Z4f.f a0.f5 a1.f5)>>=fun aa=>(Z01.f a0 a1)>>=fun ad=>if(ad.2.2 != 0)=true then(some ((⟨0,0,0,0,0,0,[],[]⟩:Z1),ad.2.2)) else((Z0p.f ((ad.1).f6) ((ad.2.1).f6))>>=fun ae=>(Z0p.f ((ad.1).f7) ((ad.2.1).f7))>>=fun af=>(Z69.f ((ad.1).f3) ((ad.2.1).f3))>>=fun ah=>((if(!ae.2)=true then(some true) else(if(!af.2)=true then(some true) else(some (ah.2 != 0)))):Option Bool)>>=fun ai=>if ai=true then(some ((⟨0,0,0,0,0,0,[],[]⟩:Z1),21)) else(if(aa.2 != 0)=true then(some ((⟨0,0,0,0,0,0,[],[]⟩:Z1),aa.2)) else((Z1p.f (⟨(ad.1).f0,(ad.1).f1,(ad.1).f2,ah.1,(ad.1).f4,aa.1,(ad.1).f6,(ad.1).f7⟩:Z1) ae.1 af.1)>>=fun aj=>some ((aj.1),aj.2))))
theorem Z1w.ok (a0:Z1) (a1:Z1):FN 62 [.agg (Zo a0),.agg (Zo a1)] [] 0 (Z1w.f a0 a1) (fun r=>.tup [.agg (Zo (r.1)),qi r.2]) (fun r=>[]):=FT [] func62 (.rg [(0,⟨.k 0,.n⟩),(1,⟨.k 1,.n⟩),(2,⟨.k 2,.n⟩)]<|.bd fun aa ad=>.rg [(4,qh call92 (Z4f.ok a0.f5 a1.f5 aa ad))]<|.bd fun ae af=>.rg [(2,qh call93 (Z01.ok a0 a1 ae af))]<|.r0<|.cd (fun ah=>.r0<|.ret [(2,0)] [] [] ⟨[(4,.ptr 0 0 0),(5,qi ae.2.2)],[(0,some (.box 48 (Zo (⟨0,0,0,0,0,0,[],[]⟩:Z1))))],0⟩)
 (fun ah=>.bd fun ai aj=>.rg [(4,hC [] [(0,3)] [] [3] call94 (Z0p.ok ((ae.1).f6) ((ae.2.1).f6) ai aj))]<|.bd fun ak al=>.rg [(4,hC [] [(0,4)] [] [4] call94 (Z0p.ok ((ae.1).f7) ((ae.2.1).f7) ak al))]<|.bd fun am an=>.rg [(4,qh call95 (Z69.ok ((ae.1).f3) ((ae.2.1).f3) am an))]<|.bl<|.join (.sp (fun ap=>.rg [(2,hB ap)]<|.o [(0,5),(2,6),(3,7),(4,8)])
 (fun ap=>.sp (fun aq=>.rg [(2,hB ap),(6,hB aq)]<|.o [(0,5),(2,6),(3,7),(4,8)])
 (fun aq=>.rg [(2,hB ap),(6,hB aq)]<|.o [(0,5),(2,6),(3,7),(4,8)])))
 (.st .normal (fun ar=>⟨[(2,.ptr 5 0 0),(4,.ptr 6 0 0),(6,qi aa.1),(7,qi aa.2),(9,.own 7),(11,.own 8),(13,qu am.1),(58,bV ar)],[(5,some (.box 48 (Zo (ae.1)))),(6,some (qk0)),q4 7 ai.1,q4 8 ak.1],0⟩) fun ar=>.cd (fun au=>.r0<|.ret [(6,0)] [] [] ⟨[(4,.ptr 0 0 0),(5,qi 21)],[(0,some (.box 48 (Zo (⟨0,0,0,0,0,0,[],[]⟩:Z1))))],0⟩)
 (fun au=>.r0<|.cd (fun av=>.r0<|.ret [(6,0)] [] [] ⟨[(4,.ptr 0 0 0),(5,qi aa.2)],[(0,some (.box 48 (Zo (⟨0,0,0,0,0,0,[],[]⟩:Z1))))],0⟩)
 (fun av=>.r0<|.cv [(5,5),(6,6)] [7,8] [] ⟨[(2,.ptr 5 0 0),(4,.ptr 6 0 0),(9,.im (.row (ai.1.map Z6))),(11,.im (.row (ak.1.map Z6)))],[(5,some (.box 48 (Zo ⟨((ae.1).f0),((ae.1).f1),((ae.1).f2),am.1,((ae.1).f4),aa.1,((ae.1).f6),((ae.1).f7)⟩))),(6,some (qk0))],0⟩<|.bd fun aw ax=>.rg [(3,qh call96 (Z1p.ok (⟨(ae.1).f0,(ae.1).f1,(ae.1).f2,am.1,(ae.1).f4,aa.1,(ae.1).f6,(ae.1).f7⟩:Z1) ai.1 ak.1 aw ax))]<|.ret [(6,0)] [] [] ⟨[(4,.ptr 0 0 0),(5,qi aw.2)],[(0,some (.box 48 (Zo (aw.1))))],0⟩)))))
end Go.Proofs.YtcilcefjcaimoaaGreat.PvGQ
