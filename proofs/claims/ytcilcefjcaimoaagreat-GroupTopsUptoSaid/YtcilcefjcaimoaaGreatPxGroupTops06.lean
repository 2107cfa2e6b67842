import Derived.Test.YtcilcefjcaimoaaGreatProg
import Derived.Test.YtcilcefjcaimoaaGreatPxGroupTops05
set_option linter.unusedVariables false
set_option linter.unnecessarySimpa false
set_option linter.unusedSimpArgs false
set_option maxRecDepth 10000
namespace Go.Proofs.YtcilcefjcaimoaaGreat.PvGQ
open Go Go.Pv Tryz Go.IntKind
structure Tr19_Ask where
 f0:Int
 f1:Int
 f2:Int
 f3:Int
 f4:Int
 f5:Int
 f6:Int
 deriving DecidableEq,Inhabited
abbrev ar19_Ask (x:Tr19_Ask):List AVal:=[iV .i64 x.f0,iV .u64 x.f1,iV .u64 x.f2,iV .i64 x.f3,iV .i64 x.f4,iV .i64 x.f5,iV .i64 x.f6]
structure Rr19_Ask (x:Tr19_Ask):Prop where
 r0:I64 x.f0
 r1:U64 x.f1
 r2:U64 x.f2
 r3:I64 x.f3
 r4:I64 x.f4
 r5:I64 x.f5
 r6:I64 x.f6
structure Z00 where
 f0:ByteArray
 f1:ByteArray
 deriving DecidableEq,Inhabited
abbrev Zs (x:Z00):List Im:=[sI x.f0,sI x.f1]
abbrev aLabel (x:Z00):List AVal:=[sV x.f0,sV x.f1]
structure RLabel (x:Z00):Prop where
 r0:x.f0.size≤1048576
 r1:x.f1.size≤1048576
structure Z6 where
 f0:Int
 f1:Int
 deriving DecidableEq,Inhabited
abbrev Z4 (x:Z6):List Im:=[iI .i64 x.f0,iI .u64 x.f1]
abbrev Z54 (x:Z6):List AVal:=[iV .i64 x.f0,iV .u64 x.f1]
structure RBucket (x:Z6):Prop where
 r0:I64 x.f0
 r1:U64 x.f1
structure Zh where
 f0:Int
 f1:Int
 f2:Int
 f3:Int
 f4:Int
 f5:Int
 f6:List Z6
 f7:List Z6
 deriving DecidableEq,Inhabited
abbrev Z3r (x:Zh):List Im:=[iI .i64 x.f0,iI .i64 x.f1,iI .i64 x.f2,iI .u64 x.f3,iI .u64 x.f4,iI .i64 x.f5,.row (x.f6.map Z4),.row (x.f7.map Z4)]
abbrev Z0f (x:Zh):List AVal:=[iV .i64 x.f0,iV .i64 x.f1,iV .i64 x.f2,iV .u64 x.f3,iV .u64 x.f4,iV .i64 x.f5,.im (.row (x.f6.map Z4)),.im (.row (x.f7.map Z4))]
structure RHist (x:Zh):Prop where
 r0:I64 x.f0
 r1:I64 x.f1
 r2:I64 x.f2
 r3:U64 x.f3
 r4:U64 x.f4
 r5:I64 x.f5
 r6:x.f6.length≤1048576∧∀ y∈x.f6,RBucket y
 r7:x.f7.length≤1048576∧∀ y∈x.f7,RBucket y
structure Z0h where
 f0:Int
 f1:Zh
 deriving DecidableEq,Inhabited
abbrev Z0e (x:Z0h):List Im:=[iI .i64 x.f0,iI .i64 x.f1.f0,iI .i64 x.f1.f1,iI .i64 x.f1.f2,iI .u64 x.f1.f3,iI .u64 x.f1.f4,iI .i64 x.f1.f5,.row (x.f1.f6.map Z4),.row (x.f1.f7.map Z4)]
structure RSample (x:Z0h):Prop where
 r0:I64 x.f0
 r1:RHist x.f1
structure Zx where
 f0:List Z00
 f1:List Z0h
 deriving DecidableEq,Inhabited
abbrev Zm (x:Zx):List Im:=[.row (x.f0.map Zs),.row (x.f1.map Z0e)]
abbrev Za0 (x:Zx):List AVal:=[.im (.row (x.f0.map Zs)),.im (.row (x.f1.map Z0e))]
structure RSeries (x:Zx):Prop where
 r0:x.f0.length≤1048576∧∀ y∈x.f0,RLabel y
 r1:x.f1.length≤1048576∧∀ y∈x.f1,RSample y
structure Z20 where
 f0:Int
 f1:Int
 deriving DecidableEq,Inhabited
abbrev Z6v (x:Z20):List AVal:=[iV .i64 x.f0,iV .i64 x.f1]
structure Rrank_Place (x:Z20):Prop where
 r0:I64 x.f0
 r1:I64 x.f1
structure Z3z where
 f0:Int
 f1:Int
 f2:Int
 f3:Z20
 f4:Int
 f5:Int
 deriving DecidableEq,Inhabited
structure Reval_Ask (x:Z3z):Prop where
 r0:I64 x.f0
 r1:U64 x.f1
 r2:U64 x.f2
 r3:Rrank_Place x.f3
 r4:I64 x.f4
 r5:I64 x.f5
structure Z4t where
 f0:Int
 f1:Int
 deriving DecidableEq,Inhabited
abbrev Z7i (x:Z4t):List AVal:=[iV .u64 x.f0,iV .u64 x.f1]
structure Rnum_Wide (x:Z4t):Prop where
 r0:U64 x.f0
 r1:U64 x.f1
structure Z5 where
 f0:Int
 f1:Int
 f2:Int
 deriving DecidableEq,Inhabited
abbrev Z1z (x:Z5):List AVal:=[iV .i64 x.f0,iV .i64 x.f1,iV .i64 x.f2]
structure Zav (x:Z5):Prop where
 r0:I64 x.f0
 r1:I64 x.f1
 r2:I64 x.f2
structure Z0m where
 f0:Z5
 f1:Int
 deriving DecidableEq,Inhabited
abbrev Z2h (x:Z0m):List Im:=[iI .i64 x.f0.f0,iI .i64 x.f0.f1,iI .i64 x.f0.f2,iI .u64 x.f1]
structure Rrank_Cell (x:Z0m):Prop where
 r0:Zav x.f0
 r1:U64 x.f1
structure Za where
 f0:Int
 f1:Int
 f2:Int
 deriving DecidableEq,Inhabited
abbrev Z2n (x:Za):List AVal:=[iV .u64 x.f0,iV .u64 x.f1,iV .u64 x.f2]
structure Rrank_Part (x:Za):Prop where
 r0:U64 x.f0
 r1:U64 x.f1
 r2:U64 x.f2
structure Z3 where
 f0:Zh
 f1:Int
 f2:Int
 f3:Z5
 f4:Za
 deriving DecidableEq,Inhabited
structure Reval_Answer (x:Z3):Prop where
 r0:RHist x.f0
 r1:I64 x.f1
 r2:U64 x.f2
 r3:Zav x.f3
 r4:Rrank_Part x.f4
structure Zb where
 f0:List Z00
 f1:Z3
 f2:Int
 deriving DecidableEq,Inhabited
abbrev Z8 (x:Zb):List Im:=[.row (x.f0.map Zs),iI .i64 x.f1.f0.f0,iI .i64 x.f1.f0.f1,iI .i64 x.f1.f0.f2,iI .u64 x.f1.f0.f3,iI .u64 x.f1.f0.f4,iI .i64 x.f1.f0.f5,.row (x.f1.f0.f6.map Z4),.row (x.f1.f0.f7.map Z4),iI .i64 x.f1.f1,iI .u64 x.f1.f2,iI .i64 x.f1.f3.f0,iI .i64 x.f1.f3.f1,iI .i64 x.f1.f3.f2,iI .u64 x.f1.f4.f0,iI .u64 x.f1.f4.f1,iI .u64 x.f1.f4.f2,iI .i64 x.f2]
structure Rgroup_Row (x:Zb):Prop where
 r0:x.f0.length≤1048576∧∀ y∈x.f0,RLabel y
 r1:Reval_Answer x.f1
 r2:I64 x.f2
structure Za2 where
 f0:Int
 f1:Int
 f2:Int
 f3:Int
 deriving DecidableEq,Inhabited
abbrev ar08_Cell (x:Za2):List AVal:=[iV .i64 x.f0,iV .i64 x.f1,iV .i64 x.f2,iV .u64 x.f3]
structure Rr08_Cell (x:Za2):Prop where
 r0:I64 x.f0
 r1:I64 x.f1
 r2:I64 x.f2
 r3:U64 x.f3
structure S90 where
 f0:Int
 f1:Int
 f2:Int
 deriving DecidableEq,Inhabited
structure R90 (x:S90):Prop where
 r0:U64 x.f0
 r1:U64 x.f1
 r2:U64 x.f2
structure Za1 where
 f0:Zh
 f1:Int
 f2:Int
 f3:Za2
 f4:S90
 deriving DecidableEq,Inhabited
structure Rr19_Answer (x:Za1):Prop where
 r0:RHist x.f0
 r1:I64 x.f1
 r2:U64 x.f2
 r3:Rr08_Cell x.f3
 r4:R90 x.f4
structure Tr20_Row where
 f0:List Z00
 f1:Za1
 f2:Int
 deriving DecidableEq,Inhabited
structure Rr20_Row (x:Tr20_Row):Prop where
 r0:x.f0.length≤1048576∧∀ y∈x.f0,RLabel y
 r1:Rr19_Answer x.f1
 r2:I64 x.f2
theorem hmx:Tryz.prog.follows .mixedOrders=true:=by kernel_rfl
abbrev FN (f:Nat) (A:List AVal) (O:List (Nat×Option MObj)) (k:Nat) {ρ:Type} (y:Option ρ) (x:ρ→AVal) (o:ρ→List (Nat×Option MObj)):Prop:=∀ r,y=some r→Pv.Fn Tryz.prog f A O k (fun a b=>a=x r∧b=o r)
theorem FT {f:Nat} {fn:Func} {c:Code} {A:List AVal} {O:List (Nat×Option MObj)} {k:Nat} {ρ:Type} {y:Option ρ} {x:ρ→AVal} {o:ρ→List (Nat×Option MObj)} (keys:List Nat) (hf:Tryz.prog.funcs[f]? = some fn) (t:HT (fun q:Empty=>(nomatch q:Option ρ)) y) (hb:fn.body=some c:=by rfl) (hn:Nat.ble A.length fn.ntmps=true:=by rfl) (hk:t.chk ⟨Tryz.prog,fn.ntmps,fn,k,keys⟩ 0 (fun r=>.ret (x r) (o r)) (fun q=>nomatch q) c [] ⟨Z3x A 0,O,k⟩=t.sk ⟨Tryz.prog,fn.ntmps,fn,k,keys⟩ 0 (fun r=>.ret (x r) (o r)) (fun q=>nomatch q):=by kernel_rfl):FN f A O k y x o:=fun r H=>HT.fn H x o keys hf hb hn hmx t hk
abbrev qi:Int→AVal:=iV .i64
abbrev qu:Int→AVal:=iV .u64
abbrev qh {P:Program} {g:Nat} {args:List AVal} {ob:List (Nat×Option MObj)} {floor:Nat} {r:AVal} {o:List (Nat×Option MObj)} (h1:Enters P g) (h2:Pv.Fn P g args ob floor (fun x y=>x=r∧y=o)):HI:=hC [] [] [] [] h1 h2
abbrev qe:=Z6l .i64
abbrev qv:=Z6l .u64
abbrev qb:=Z6l .u8
abbrev qx (a b:Int):Int:=((BitVec.toNat (BitVec.ofInt 64 a ^^^ BitVec.ofInt 64 b):Nat):Int)
abbrev qf (n:Nat):Im:=.sc (.func (.func n) #[] #[])
abbrev RW {α:Type} (w t:Nat) (e:α→List Im) (k:Nat) (x:List α):Nat×Option MObj:=(k,some (.row w t (x.map e)))
abbrev fgI (k:Nat) (ids:List Nat) (h:HI):HI:=⟨.more (xFzG k ids h.h),h.l⟩
def Z1x.l0 (a0:List Z00) (x15:Int) (x16:Int):Option Int:=if(decide (x16<(a0.length:Int)))=true then((at? a0 x16)>>=fun b21=>Z1x.l0 a0 (i64.wrap (x15+(i64.wrap ((i64.wrap ((b21.f0.size:Int)+(b21.f1.size:Int)))+1)))) (i64.wrap (x16+1))) else(some x15)
partial_fixpoint
def Z1x.f (a0:List Z00):Option Bool:=(Z1x.l0 a0 0 0)>>=fun x24=>some (decide (x24≤3000))
theorem Z1x.ok (a0:List Z00):FN 22 [.im (.row (a0.map Zs))] [] 0 (Z1x.f a0) (fun r=>bV r) (fun r=>[]):=FT [] func22 (.r0<|.r0<|.rg [(1,hG Zs a0)]<|.bl<|.loop (.c2 (Z1x.l0.partial_correctness a0)) (0,0) [] [] [] (fun _=>.pr fun x15=>.one (fun x16=>⟨[(3,qi x15),(6,.im (.row (a0.map Zs))),(7,qi (a0.length:Int)),(8,qi x16)],[],0⟩) fun x16=>.r0<|.cd (fun c17=>.bl<|.el fun b21 p22 q23=>.rg [(0,hA Zs p22 q23),(2,⟨.k 1,.n⟩)]<|.r0<|.r0<|.bk [] rfl)
 (fun c17=>.o []))
 (.st (.exit 0) (fun x24=>⟨[(3,qi x24)],[],0⟩) fun x24=>.r0<|.ret [] [] [] ⟨[(2,bV (decide (x24≤3000)))],[],0⟩))
def Z1v.l0 (a0:ByteArray) (aa:Int):Option (Bool ⊕ Unit):=if(decide (aa<(a0.size:Int)))=true then((chk (0≤aa∧aa<(a0.size:Int)))>>=fun _=>((if((bt a0 aa)==95)=true then(some true) else(if(decide ((bt a0 aa)≥65))=true then(if(decide ((bt a0 aa)≤90))=true then(some true) else(if(decide ((bt a0 aa)≥97))=true then(if(decide ((bt a0 aa)≤122))=true then(some true) else(if(decide (aa>0))=true then(if(decide ((bt a0 aa)≥48))=true then(some (decide ((bt a0 aa)≤57))) else(some false)) else(some false))) else(if(decide (aa>0))=true then(if(decide ((bt a0 aa)≥48))=true then(some (decide ((bt a0 aa)≤57))) else(some false)) else(some false)))) else(if(decide ((bt a0 aa)≥97))=true then(if(decide ((bt a0 aa)≤122))=true then(some true) else(if(decide (aa>0))=true then(if(decide ((bt a0 aa)≥48))=true then(some (decide ((bt a0 aa)≤57))) else(some false)) else(some false))) else(if(decide (aa>0))=true then(if(decide ((bt a0 aa)≥48))=true then(some (decide ((bt a0 aa)≤57))) else(some false)) else(some false))))):Option Bool)>>=fun ac=>if(!ac)=true then(some (.inl false)) else(Z1v.l0 a0 (i64.wrap (aa+1)))) else(some (.inr ()))
partial_fixpoint
def Z1v.f (a0:ByteArray):Option Bool:=((if(decide ((a0.size:Int)<1))=true then(some true) else(some (decide ((a0.size:Int)>64)))):Option Bool)>>=fun x91=>if x91=true then(some false) else((Z1v.l0 a0 0)>>=fun oo=>match oo with | .inl rr=>(some rr) | .inr _=>(some true))
theorem Z1v.ok (a0:ByteArray):FN 71 [sV a0] [] 0 (Z1v.f a0) (fun r=>bV r) (fun r=>[]):=FT [] func71 (.r0<|.join (.sp (fun c90=>.rg [(3,hB c90)]<|.o [])
 (fun c90=>.rg [(3,hB c90)]<|.o []))
 (.st .normal (fun x91=>⟨[(0,sV a0),(13,bV x91)],[],0⟩) fun x91=>.cd (fun c92=>.r0<|.ret [] [] [] ⟨[(2,bV false)],[],0⟩)
 (fun c92=>.r0<|.bl<|.loop (.one (Z1v.l0.partial_correctness a0)) 0 [] [] [] (fun _=>.one (fun aa=>⟨[(0,sV a0),(3,qi aa)],[],0⟩) fun aa=>.r0<|.cd (fun ac=>.bl<|.ck fun ad=>.rg [(2,hN (p2 ad))]<|.join (.sp (fun ae=>.rg [(2,hB ae)]<|.o [])
 (fun ae=>.sp (fun af=>.sp (fun ah=>.rg [(2,hB ae),(5,hB af),(10,hB ah)]<|.o [])
 (fun ah=>.sp (fun ai=>.sp (fun aj=>.rg [(2,hB ae),(5,hB af),(10,hB ah),(13,hB ai),(18,hB aj)]<|.o [])
 (fun aj=>.sp (fun ak=>.sp (fun al=>.rg [(2,hB ae),(5,hB af),(10,hB ah),(13,hB ai),(18,hB aj),(21,hB ak),(25,hB al)]<|.o [])
 (fun al=>.rg [(2,hB ae),(5,hB af),(10,hB ah),(13,hB ai),(18,hB aj),(21,hB ak),(25,hB al)]<|.o []))
 (fun ak=>.rg [(2,hB ae),(5,hB af),(10,hB ah),(13,hB ai),(18,hB aj),(21,hB ak)]<|.o [])))
 (fun ai=>.sp (fun am=>.sp (fun an=>.rg [(2,hB ae),(5,hB af),(10,hB ah),(13,hB ai),(21,hB am),(25,hB an)]<|.o [])
 (fun an=>.rg [(2,hB ae),(5,hB af),(10,hB ah),(13,hB ai),(21,hB am),(25,hB an)]<|.o []))
 (fun am=>.rg [(2,hB ae),(5,hB af),(10,hB ah),(13,hB ai),(21,hB am)]<|.o []))))
 (fun af=>.sp (fun aq=>.sp (fun ar=>.rg [(2,hB ae),(5,hB af),(13,hB aq),(18,hB ar)]<|.o [])
 (fun ar=>.sp (fun au=>.sp (fun av=>.rg [(2,hB ae),(5,hB af),(13,hB aq),(18,hB ar),(21,hB au),(25,hB av)]<|.o [])
 (fun av=>.rg [(2,hB ae),(5,hB af),(13,hB aq),(18,hB ar),(21,hB au),(25,hB av)]<|.o []))
 (fun au=>.rg [(2,hB ae),(5,hB af),(13,hB aq),(18,hB ar),(21,hB au)]<|.o [])))
 (fun aq=>.sp (fun aw=>.sp (fun ax=>.rg [(2,hB ae),(5,hB af),(13,hB aq),(21,hB aw),(25,hB ax)]<|.o [])
 (fun ax=>.rg [(2,hB ae),(5,hB af),(13,hB aq),(21,hB aw),(25,hB ax)]<|.o []))
 (fun aw=>.rg [(2,hB ae),(5,hB af),(13,hB aq),(21,hB aw)]<|.o [])))))
 (.st .normal (fun ay=>⟨[(0,sV a0),(3,qi aa),(5,bV ay)],[],0⟩) fun ay=>.r0<|.cd (fun az=>.r0<|.ret [] [] [] ⟨[(2,bV false)],[],0⟩)
 (fun az=>.r0<|.bk [] rfl)))
 (fun ac=>.o []))
 (.sm (.rt (fun rr=>bV rr) (fun rr=>[]))
 (.st (.exit 0) (fun _=>⟨[],[],0⟩) fun _=>.r0<|.ret [] [] [] ⟨[(2,bV true)],[],0⟩)))))
def Z1c.l0 (a0:List Z00) (aa:Int):Option (Int ⊕ Unit):=if(decide (aa<(a0.length:Int)))=true then((((at? a0 aa)>>=fun ac=>(Z1v.f ac.f0)>>=fun ad=>if(!ad)=true then(some true) else(if(decide ((ac.f1.size:Int)<1))=true then(some true) else(some (decide ((ac.f1.size:Int)>64))))):Option Bool)>>=fun ae=>if ae=true then(some (.inl 26)) else(((if(decide (aa>0))=true then((at? a0 (i64.wrap (aa-1)))>>=fun af=>(at? a0 aa)>>=fun ah=>some (!(Op.bytesLess af.f0.toList ah.f0.toList))) else(some false)):Option Bool)>>=fun ai=>if ai=true then(some (.inl 26)) else(Z1c.l0 a0 (i64.wrap (aa+1))))) else(some (.inr ()))
partial_fixpoint
def Z1c.f (a0:List Z00):Option Int:=if(decide ((a0.length:Int)>16))=true then(some 9) else((Z1c.l0 a0 0)>>=fun oo=>match oo with | .inl rr=>(some rr) | .inr _=>(some 0))
theorem Z1c.ok (a0:List Z00):FN 45 [.im (.row (a0.map Zs))] [] 0 (Z1c.f a0) (fun r=>qi r) (fun r=>[]):=FT [] func45 (.r0<|.rg [(1,hG Zs a0)]<|.cd (fun c84=>.r0<|.ret [] [] [] ⟨[(2,qi 9)],[],0⟩)
 (fun c84=>.r0<|.bl<|.loop (.one (Z1c.l0.partial_correctness a0)) 0 [] [] [] (fun _=>.one (fun aa=>⟨[(0,.im (.row (a0.map Zs))),(3,qi aa)],[],0⟩) fun aa=>.rg [(2,hG Zs a0)]<|.cd (fun ac=>.bl<|.join (.el fun ad ae af=>.bd fun ah ai=>.sp (fun aj=>.rg [(2,hA Zs ae af),(5,qh call71 (Z1v.ok ad.f0 ah ai)),(7,hB aj)]<|.o [])
 (fun aj=>.sp (fun ak=>.rg [(2,hA Zs ae af),(5,qh call71 (Z1v.ok ad.f0 ah ai)),(7,hB aj),(10,hA Zs ae af),(16,hB ak)]<|.o [])
 (fun ak=>.rg [(2,hA Zs ae af),(5,qh call71 (Z1v.ok ad.f0 ah ai)),(7,hB aj),(10,hA Zs ae af),(16,hB ak),(19,hA Zs ae af)]<|.o [])))
 (.st .normal (fun al=>⟨[(0,.im (.row (a0.map Zs))),(3,qi aa),(37,bV al)],[],0⟩) fun al=>.cd (fun am=>.r0<|.ret [] [] [] ⟨[(2,qi 26)],[],0⟩)
 (fun am=>.join (.sp (fun an=>.el fun aq ar au=>.el fun av aw ax=>.rg [(2,hB an),(6,hA Zs ar au),(11,hA Zs aw ax)]<|.o [])
 (fun an=>.rg [(2,hB an)]<|.o []))
 (.st .normal (fun ay=>⟨[(0,.im (.row (a0.map Zs))),(3,qi aa),(54,bV ay)],[],0⟩) fun ay=>.cd (fun az=>.r0<|.ret [] [] [] ⟨[(2,qi 26)],[],0⟩)
 (fun az=>.r0<|.bk [] rfl)))))
 (fun ac=>.o []))
 (.sm (.rt (fun rr=>qi rr) (fun rr=>[]))
 (.st (.exit 0) (fun _=>⟨[],[],0⟩) fun _=>.r0<|.ret [] [] [] ⟨[(2,qi 0)],[],0⟩))))
def Z3f.f (a0:Int):Option Bool:=((if(decide (a0≥0))=true then(some (decide (a0≤1099511627776))) else(some false)):Option Bool)>>=fun aa=>some aa
theorem Z3f.ok (a0:Int):FN 72 [qi a0] [] 0 (Z3f.f a0) (fun r=>bV r) (fun r=>[]):=FT [] func72 (.r0<|.join (.sp (fun aa=>.rg [(2,hB aa)]<|.o [])
 (fun aa=>.rg [(2,hB aa)]<|.o []))
 (.st .normal (fun ac=>⟨[(2,bV ac)],[],0⟩) fun ac=>.ret [] [] [] ⟨[(2,bV ac)],[],0⟩))
def Z1k.f (a0:Int):Option Bool:=((if(decide (a0≥(-4)))=true then(some (decide (a0≤8))) else(some false)):Option Bool)>>=fun aa=>some aa
theorem Z1k.ok (a0:Int):FN 112 [qi a0] [] 0 (Z1k.f a0) (fun r=>bV r) (fun r=>[]):=FT [] func112 (.r0<|.join (.sp (fun aa=>.rg [(2,hB aa)]<|.o [])
 (fun aa=>.rg [(2,hB aa)]<|.o []))
 (.st .normal (fun ac=>⟨[(2,bV ac)],[],0⟩) fun ac=>.ret [] [] [] ⟨[(2,bV ac)],[],0⟩))
def Z2f.l0 (aa:Int) (ac:Int):Option Int:=if(decide (ac<8))=true then(Z2f.l0  (i64.wrap (aa*2)) (i64.wrap (ac+1))) else(some aa)
partial_fixpoint
def Z2f.f (a0:Int):Option Int:=(Z2f.l0  1 a0)>>=fun aa=>some aa
theorem Z2f.ok (a0:Int):FN 147 [qi a0] [] 0 (Z2f.f a0) (fun r=>qi r) (fun r=>[]):=FT [] func147 (.r0<|.r0<|.r0<|.bl<|.loop (.c2 (Z2f.l0.partial_correctness )) (1,a0) [] [] [] (fun _=>.pr fun aa=>.one (fun ac=>⟨[(3,qi aa),(4,qi ac)],[],0⟩) fun ac=>.r0<|.cd (fun ad=>.bl<|.r0<|.r0<|.bk [] rfl)
 (fun ad=>.o []))
 (.st (.exit 0) (fun ae=>⟨[(3,qi ae)],[],0⟩) fun ae=>.r0<|.ret [] [] [] ⟨[(2,qi ae)],[],0⟩))
def Z2j.f (a0:Int) (a1:Int):Option Int:=(Z1k.f a0)>>=fun aa=>if(!aa)=true then(some 0) else((Z2f.f a0)>>=fun ac=>some (i64.wrap (a1*ac)))
theorem Z2j.ok (a0:Int) (a1:Int):FN 114 [qi a0,qi a1] [] 0 (Z2j.f a0 a1) (fun r=>qi r) (fun r=>[]):=FT [] func114 (.r0<|.bd fun aa ac=>.rg [(1,qh call112 (Z1k.ok a0 aa ac))]<|.cd (fun ad=>.r0<|.ret [] [] [] ⟨[(4,qi 0)],[],0⟩)
 (fun ad=>.bd fun ae af=>.rg [(2,qh call147 (Z2f.ok a0 ae af))]<|.ret [] [] [] ⟨[(4,qi (i64.wrap (a1*ae)))],[],0⟩))
def Z68.f (a0:Int) (a1:Int):Option Bool:=(((Z1k.f a0)>>=fun aa=>if aa=true then(if(decide (a1>(-262144)))=true then(if(decide (a1≤262144))=true then((Z2j.f a0 a1)>>=fun ac=>if(decide (ac>(-262144)))=true then((Z2j.f a0 a1)>>=fun ad=>some (decide (ad≤262144))) else(some false)) else(some false)) else(some false)) else(some false)):Option Bool)>>=fun ae=>some ae
theorem Z68.ok (a0:Int) (a1:Int):FN 113 [qi a0,qi a1] [] 0 (Z68.f a0 a1) (fun r=>bV r) (fun r=>[]):=FT [] func113 (.r0<|.join (.bd fun aa ac=>.sp (fun ad=>.sp (fun ae=>.sp (fun af=>.bd fun ah ai=>.sp (fun aj=>.bd fun ak al=>.rg [(1,qh call112 (Z1k.ok a0 aa ac)),(2,hB ad),(6,hB ae),(10,hB af),(13,qh call114 (Z2j.ok a0 a1 ah ai)),(16,hB aj),(19,qh call114 (Z2j.ok a0 a1 ak al))]<|.o [])
 (fun aj=>.rg [(1,qh call112 (Z1k.ok a0 aa ac)),(2,hB ad),(6,hB ae),(10,hB af),(13,qh call114 (Z2j.ok a0 a1 ah ai)),(16,hB aj)]<|.o []))
 (fun af=>.rg [(1,qh call112 (Z1k.ok a0 aa ac)),(2,hB ad),(6,hB ae),(10,hB af)]<|.o []))
 (fun ae=>.rg [(1,qh call112 (Z1k.ok a0 aa ac)),(2,hB ad),(6,hB ae)]<|.o []))
 (fun ad=>.rg [(1,qh call112 (Z1k.ok a0 aa ac)),(2,hB ad)]<|.o []))
 (.st .normal (fun am=>⟨[(4,bV am)],[],0⟩) fun am=>.ret [] [] [] ⟨[(4,bV am)],[],0⟩))
def Z2x.l0 (a0:List Int) (aa:Int) (ac:Int):Option ((Int×Int) ⊕ Int):=if(decide (ac<(a0.length:Int)))=true then((at? a0 ac)>>=fun ad=>if(decide (ad>(u64.wrap ((18446744073709551615:Int)-aa))))=true then(some (.inl (0,5))) else(Z2x.l0 a0 (u64.wrap (aa+ad)) (i64.wrap (ac+1)))) else(some (.inr aa))
partial_fixpoint
def Z2x.f (a0:List Int):Option (Int×Int):=(Z2x.l0 a0 0 0)>>=fun oo=>match oo with | .inl rr=>(some rr) | .inr aa=>(some (aa,0))
theorem Z2x.ok (a0:List Int):FN 115 [.im (.row (a0.map qv))] [] 0 (Z2x.f a0) (fun r=>.tup [qu r.1,qi r.2]) (fun r=>[]):=FT [] func115 (.r0<|.r0<|.r0<|.bl<|.loop (.c2 (Z2x.l0.partial_correctness a0)) (0,0) [] [] [] (fun _=>.pr fun aa=>.one (fun ac=>⟨[(0,.im (.row (a0.map qv))),(4,qu aa),(5,qi ac)],[],0⟩) fun ac=>.rg [(2,hG qv a0)]<|.cd (fun ad=>.bl<|.el fun ae af ah=>.rg [(2,hA qv af ah)]<|.cd (fun ai=>.r0<|.ret [] [] [] ⟨[(2,qu 0),(3,qi 5)],[],0⟩)
 (fun ai=>.rg [(3,hA qv af ah)]<|.r0<|.bk [] rfl))
 (fun ad=>.o []))
 (.sm (.rt (fun rr=>.tup [qu rr.1,qi rr.2]) (fun rr=>[]))
 (.st (.exit 0) (fun aj=>⟨[(4,qu aj)],[],0⟩) fun aj=>.r0<|.ret [] [] [] ⟨[(2,qu aj),(3,qi 0)],[],0⟩)))
def Z0r.l1 (a0:Zh) (aa:Int) (ac:List Z6) (ad:List Int) (ae:Int):Option (Int ⊕ (List Int)):=if(decide (ae<(ac.length:Int)))=true then((at? ac ae)>>=fun af=>(Z68.f a0.f1 af.f0)>>=fun ah=>if(!ah)=true then(some (.inl 4)) else(((if(decide (ae>0))=true then((at? ac (i64.wrap (ae-1)))>>=fun ai=>some (decide (af.f0≤ai.f0))) else(some false)):Option Bool)>>=fun aj=>if aj=true then(some (.inl 32)) else(if(af.f1==0)=true then(some (.inl 21)) else((Z2j.f a0.f1 (i64.wrap (af.f0-1)))>>=fun ak=>if(decide (ak<a0.f2))=true then(some (.inl 31)) else((chk ((ad.length+[af.f1].length)*8≤140737488355328))>>=fun _=>Z0r.l1 a0 aa ac (ad++[af.f1]) (i64.wrap (ae+1))))))) else(some (.inr ad))
partial_fixpoint
def Z0r.l0 (a0:Zh) (aa:List Int) (ac:Int):Option (Int ⊕ (List Int)):=if(decide (ac<2))=true then(((if(ac==1)=true then(some a0.f7) else(some a0.f6)):Option (List Z6))>>=fun ad=>if(decide ((ad.length:Int)>512))=true then(some (.inl 9)) else((Z0r.l1 a0 ac ad aa 0)>>=fun oo=>match oo with | .inl rr=>(some (.inl rr)) | .inr ae=>(Z0r.l0 a0 ae (i64.wrap (ac+1))))) else(some (.inr aa))
partial_fixpoint
def Z0r.f (a0:Zh):Option Int:=((if(a0.f0 != 0)=true then(some (a0.f0 != 1)) else(some false)):Option Bool)>>=fun aa=>if aa=true then(some 25) else((Z1k.f a0.f1)>>=fun ac=>if(!ac)=true then(some 20) else(((if(a0.f2 != (-524288))=true then(if(decide (a0.f2≤(-262144)))=true then(some true) else(some (decide (a0.f2>262144)))) else(some false)):Option Bool)>>=fun ad=>if ad=true then(some 31) else((Z0r.l0 a0 [a0.f3] 0)>>=fun oo=>match oo with | .inl rr=>(some rr) | .inr ae=>((Z2x.f ae)>>=fun af=>if(af.2 != 0)=true then(some 5) else(if(af.1 != a0.f4)=true then(some 21) else(some 0))))))
abbrev q0:=@RW _ 1 22 qv
theorem Z0r.ok (a0:Zh):FN 73 [.agg (Z0f a0)] [] 0 (Z0r.f a0) (fun r=>qi r) (fun r=>[]):=FT [] func73 (.rg [(0,⟨.k 0,.n⟩)]<|.join (.sp (fun aa=>.rg [(3,hB aa)]<|.o [(0,1)])
 (fun aa=>.rg [(3,hB aa)]<|.o [(0,1)]))
 (.st .normal (fun ac=>⟨[(1,.ptr 1 0 0),(16,bV ac)],[(1,some (.box 48 (Z0f a0)))],0⟩) fun ac=>.cd (fun ad=>.r0<|.ret [] [] [] ⟨[(2,qi 25)],[],0⟩)
 (fun ad=>.bd fun ae af=>.rg [(2,qh call112 (Z1k.ok a0.f1 ae af))]<|.cd (fun ah=>.r0<|.ret [] [] [] ⟨[(2,qi 20)],[],0⟩)
 (fun ah=>.join (.sp (fun ai=>.sp (fun aj=>.rg [(3,hB ai),(7,hB aj)]<|.o [(1,2)])
 (fun aj=>.rg [(3,hB ai),(7,hB aj)]<|.o [(1,2)]))
 (fun ai=>.rg [(3,hB ai)]<|.o [(1,2)]))
 (.st .normal (fun ak=>⟨[(1,.ptr 2 0 0),(33,bV ak)],[(2,some (.box 48 (Z0f a0)))],0⟩) fun ak=>.cd (fun al=>.r0<|.ret [] [] [] ⟨[(2,qi 31)],[],0⟩)
 (fun al=>.rg [(2,hQ 3 qv ([a0.f3]:List Int))]<|.r0<|.bl<|.loop (.c2 (Z0r.l0.partial_correctness a0)) ([a0.f3],0) [(2,14),(3,15)] [] [] (fun _=>.pr fun am=>.one (fun an=>⟨[(1,.ptr 14 0 0),(3,.own 15),(4,qi an)],[(14,some (.box 48 (Z0f a0))),q0 15 am],0⟩) fun an=>.r0<|.cd (fun aq=>.bl<|.r0<|.r0<|.join (.cd (fun ar=>.r0<|.o [(14,16),(15,17)])
 (fun ar=>.o [(14,16),(15,17)]))
 (.st .normal (fun au=>⟨[(1,.ptr 16 0 0),(3,.own 17),(4,qi an),(5,.im (.row (au.map Z4)))],[(16,some (.box 48 (Z0f a0))),q0 17 am],0⟩) fun au=>.rg [(1,hG Z4 au)]<|.cd (fun av=>.r0<|.ret [] [] [] ⟨[(2,qi 9)],[],0⟩)
 (fun av=>.r0<|.bl<|.loop (.c2 (Z0r.l1.partial_correctness a0 an au)) (am,0) [(16,20),(17,21)] [] [] (fun _=>.pr fun aw=>.one (fun ax=>⟨[(1,.ptr 20 0 0),(3,.own 21),(4,qi an),(5,.im (.row (au.map Z4))),(6,qi ax)],[(20,some (.box 48 (Z0f a0))),q0 21 aw],0⟩) fun ax=>.rg [(2,hG Z4 au)]<|.cd (fun ay=>.bl<|.el fun az a8 a9=>.bd fun ba bb=>.rg [(4,hA Z4 a8 a9),(7,qh call113 (Z68.ok a0.f1 az.f0 ba bb))]<|.cd (fun bc=>.r0<|.ret [] [] [] ⟨[(2,qi 4)],[],0⟩)
 (fun bc=>.join (.sp (fun be=>.el fun bf bg bh=>.rg [(2,hB be),(5,hA Z4 a8 a9),(11,hA Z4 bg bh)]<|.o [(20,22),(21,23)])
 (fun be=>.rg [(2,hB be)]<|.o [(20,22),(21,23)]))
 (.st .normal (fun bi=>⟨[(1,.ptr 22 0 0),(3,.own 23),(4,qi an),(5,.im (.row (au.map Z4))),(6,qi ax),(80,bV bi)],[(22,some (.box 48 (Z0f a0))),q0 23 aw],0⟩) fun bi=>.cd (fun bj=>.r0<|.ret [] [] [] ⟨[(2,qi 32)],[],0⟩)
 (fun bj=>.rg [(2,hA Z4 a8 a9)]<|.cd (fun bn=>.r0<|.ret [] [] [] ⟨[(2,qi 21)],[],0⟩)
 (fun bn=>.bd fun bo bp=>.rg [(4,hA Z4 a8 a9),(8,qh call114 (Z2j.ok a0.f1 (i64.wrap (az.f0-1)) bo bp))]<|.cd (fun bq=>.r0<|.ret [] [] [] ⟨[(2,qi 31)],[],0⟩)
 (fun bq=>.ck fun br=>.rg [(3,hA Z4 a8 a9),(6,hQ 24 qv ([az.f1]:List Int)),(7,hP 25 qv 1 br)]<|.r0<|.bk [(22,20),(25,21)] rfl))))))
 (fun ay=>.o [(20,26),(21,27)]))
 (.sm (.rt (fun rr=>qi rr) (fun rr=>[]))
 (.st (.exit 2) (fun bu=>⟨[(1,.ptr 26 0 0),(3,.own 27),(4,qi an)],[(26,some (.box 48 (Z0f a0))),q0 27 bu],0⟩) fun bu=>.r0<|.bk [(26,14),(27,15)] rfl)))))
 (fun aq=>.o [(14,28),(15,29)]))
 (.sm (.rt (fun rr=>qi rr) (fun rr=>[]))
 (.st (.exit 0) (fun bv=>⟨[(1,.ptr 28 0 0),(3,.own 29)],[(28,some (.box 48 (Z0f a0))),q0 29 bv],0⟩) fun bv=>.bd fun bw bx=>.rg [(1,hC [] [] [29] [] call115 (Z2x.ok bv bw bx))]<|.r0<|.cd (fun bz=>.r0<|.ret [] [] [] ⟨[(2,qi 5)],[],0⟩)
 (fun bz=>.r0<|.cd (fun ca=>.r0<|.ret [] [] [] ⟨[(2,qi 21)],[],0⟩)
 (fun ca=>.r0<|.ret [] [] [] ⟨[(2,qi 0)],[],0⟩))))))))))
def Z19.l0 (a0:List Z0h) (aa:Int):Option (Bool ⊕ Unit):=if(decide (aa<(a0.length:Int)))=true then((((at? a0 aa)>>=fun ac=>(Z3f.f ac.f0)>>=fun ad=>if(!ad)=true then(some true) else((Z0r.f ac.f1)>>=fun ae=>if(ae != 0)=true then(some true) else(if(decide (aa>0))=true then((at? a0 (i64.wrap (aa-1)))>>=fun af=>some (decide (ac.f0≤af.f0))) else(some false)))):Option Bool)>>=fun ah=>if ah=true then(some (.inl false)) else(Z19.l0 a0 (i64.wrap (aa+1)))) else(some (.inr ()))
partial_fixpoint
def Z19.f (a0:List Z0h):Option Bool:=(Z19.l0 a0 0)>>=fun oo=>match oo with | .inl rr=>(some rr) | .inr _=>(some true)
theorem Z19.ok (a0:List Z0h):FN 46 [.im (.row (a0.map Z0e))] [] 0 (Z19.f a0) (fun r=>bV r) (fun r=>[]):=FT [] func46 (.r0<|.r0<|.bl<|.loop (.one (Z19.l0.partial_correctness a0)) 0 [] [] [] (fun _=>.one (fun aa=>⟨[(0,.im (.row (a0.map Z0e))),(3,qi aa)],[],0⟩) fun aa=>.rg [(2,hG Z0e a0)]<|.cd (fun ac=>.bl<|.join (.el fun ad ae af=>.bd fun ah ai=>.sp (fun aj=>.rg [(2,hA Z0e ae af),(5,qh call72 (Z3f.ok ad.f0 ah ai)),(7,hB aj)]<|.o [])
 (fun aj=>.bd fun ak al=>.sp (fun am=>.rg [(2,hA Z0e ae af),(5,qh call72 (Z3f.ok ad.f0 ah ai)),(7,hB aj),(10,hA Z0e ae af),(13,qh call73 (Z0r.ok ad.f1 ak al)),(16,hB am)]<|.o [])
 (fun am=>.sp (fun an=>.el fun aq ar au=>.rg [(2,hA Z0e ae af),(5,qh call72 (Z3f.ok ad.f0 ah ai)),(7,hB aj),(10,hA Z0e ae af),(13,qh call73 (Z0r.ok ad.f1 ak al)),(16,hB am),(19,hB an),(22,hA Z0e ae af),(28,hA Z0e ar au)]<|.o [])
 (fun an=>.rg [(2,hA Z0e ae af),(5,qh call72 (Z3f.ok ad.f0 ah ai)),(7,hB aj),(10,hA Z0e ae af),(13,qh call73 (Z0r.ok ad.f1 ak al)),(16,hB am),(19,hB an)]<|.o []))))
 (.st .normal (fun av=>⟨[(0,.im (.row (a0.map Z0e))),(3,qi aa),(43,bV av)],[],0⟩) fun av=>.cd (fun aw=>.r0<|.ret [] [] [] ⟨[(2,bV false)],[],0⟩)
 (fun aw=>.r0<|.bk [] rfl)))
 (fun ac=>.o []))
 (.sm (.rt (fun rr=>bV rr) (fun rr=>[]))
 (.st (.exit 0) (fun _=>⟨[],[],0⟩) fun _=>.r0<|.ret [] [] [] ⟨[(2,bV true)],[],0⟩)))
def Z12.l0 (a0:List Z00) (a1:List Z00) (aa:Int):Option (Int ⊕ Unit):=((if(decide (aa<(a0.length:Int)))=true then(some (decide (aa<(a1.length:Int)))) else(some false)):Option Bool)>>=fun ac=>if ac=true then((((at? a0 aa)>>=fun ad=>(at? a1 aa)>>=fun ae=>if(Op.bytesLess ad.f0.toList ae.f0.toList)=true then(some true) else(if(ad.f0.toList==ae.f0.toList)=true then(some (Op.bytesLess ad.f1.toList ae.f1.toList)) else(some false))):Option Bool)>>=fun af=>if af=true then(some (.inl (-1))) else((at? a0 aa)>>=fun ah=>(at? a1 aa)>>=fun ai=>if(!((ah.f0.toList==ai.f0.toList)&&((ah.f1.toList==ai.f1.toList)&&true)))=true then(some (.inl 1)) else(Z12.l0 a0 a1 (i64.wrap (aa+1))))) else(some (.inr ()))
partial_fixpoint
def Z12.f (a0:List Z00) (a1:List Z00):Option Int:=(Z12.l0 a0 a1 0)>>=fun oo=>match oo with | .inl rr=>(some rr) | .inr _=>(if(decide ((a0.length:Int)<(a1.length:Int)))=true then(some (-1)) else(if(decide ((a0.length:Int)>(a1.length:Int)))=true then(some 1) else(some 0)))
theorem Z12.ok (a0:List Z00) (a1:List Z00):FN 16 [.im (.row (a0.map Zs)),.im (.row (a1.map Zs))] [] 0 (Z12.f a0 a1) (fun r=>qi r) (fun r=>[]):=FT [] func16 (.r0<|.r0<|.bl<|.loop (.one (Z12.l0.partial_correctness a0 a1)) 0 [] [] [] (fun _=>.one (fun aa=>⟨[(0,.im (.row (a0.map Zs))),(1,.im (.row (a1.map Zs))),(5,qi aa)],[],0⟩) fun aa=>.join (.sp (fun ac=>.rg [(2,hG Zs a0),(4,hB ac),(7,hG Zs a1)]<|.o [])
 (fun ac=>.rg [(2,hG Zs a0),(4,hB ac)]<|.o []))
 (.st .normal (fun ad=>⟨[(0,.im (.row (a0.map Zs))),(1,.im (.row (a1.map Zs))),(5,qi aa),(15,bV ad)],[],0⟩) fun ad=>.cd (fun ae=>.bl<|.join (.el fun af ah ai=>.el fun aj ak al=>.sp (fun am=>.rg [(2,hA Zs ah ai),(7,hA Zs ak al),(11,hB am)]<|.o [])
 (fun am=>.sp (fun an=>.rg [(2,hA Zs ah ai),(7,hA Zs ak al),(11,hB am),(14,hA Zs ah ai),(19,hA Zs ak al),(23,hB an),(26,hA Zs ah ai),(31,hA Zs ak al)]<|.o [])
 (fun an=>.rg [(2,hA Zs ah ai),(7,hA Zs ak al),(11,hB am),(14,hA Zs ah ai),(19,hA Zs ak al),(23,hB an)]<|.o [])))
 (.st .normal (fun aq=>⟨[(0,.im (.row (a0.map Zs))),(1,.im (.row (a1.map Zs))),(5,qi aa),(54,bV aq)],[],0⟩) fun aq=>.cd (fun ar=>.r0<|.ret [] [] [] ⟨[(4,qi (-1))],[],0⟩)
 (fun ar=>.el fun au av aw=>.el fun ax ay az=>.rg [(2,hA Zs av aw),(6,hA Zs ay az),(8,⟨.more (xAgg none),.n⟩)]<|.cd (fun a8=>.r0<|.ret [] [] [] ⟨[(4,qi 1)],[],0⟩)
 (fun a8=>.r0<|.bk [] rfl))))
 (fun ae=>.o [])))
 (.sm (.rt (fun rr=>qi rr) (fun rr=>[]))
 (.st (.exit 0) (fun _=>⟨[(0,.im (.row (a0.map Zs))),(1,.im (.row (a1.map Zs)))],[],0⟩) fun _=>.rg [(1,hG Zs a0),(3,hG Zs a1)]<|.cd (fun a9=>.r0<|.ret [] [] [] ⟨[(4,qi (-1))],[],0⟩)
 (fun a9=>.rg [(1,hG Zs a0),(3,hG Zs a1)]<|.cd (fun ba=>.r0<|.ret [] [] [] ⟨[(4,qi 1)],[],0⟩)
 (fun ba=>.r0<|.ret [] [] [] ⟨[(4,qi 0)],[],0⟩)))))
def Z1u.l0 (a0:List Zx) (aa:Int):Option (Bool ⊕ Unit):=if(decide (aa<(a0.length:Int)))=true then((((at? a0 aa)>>=fun ac=>(Z1c.f ac.f0)>>=fun ad=>if(ad != 0)=true then(some true) else(if(decide (aa>0))=true then((at? a0 (i64.wrap (aa-1)))>>=fun ae=>(Z12.f ae.f0 ac.f0)>>=fun af=>if(decide (af≥0))=true then(some true) else((Z19.f ac.f1)>>=fun ah=>some (!ah))) else((Z19.f ac.f1)>>=fun ai=>some (!ai)))):Option Bool)>>=fun aj=>if aj=true then(some (.inl false)) else(Z1u.l0 a0 (i64.wrap (aa+1)))) else(some (.inr ()))
partial_fixpoint
def Z1u.f (a0:List Zx):Option Bool:=(Z1u.l0 a0 0)>>=fun oo=>match oo with | .inl rr=>(some rr) | .inr _=>(some true)
theorem Z1u.ok (a0:List Zx):FN 23 [.im (.row (a0.map Zm))] [] 0 (Z1u.f a0) (fun r=>bV r) (fun r=>[]):=FT [] func23 (.r0<|.r0<|.bl<|.loop (.one (Z1u.l0.partial_correctness a0)) 0 [] [] [] (fun _=>.one (fun aa=>⟨[(0,.im (.row (a0.map Zm))),(3,qi aa)],[],0⟩) fun aa=>.rg [(2,hG Zm a0)]<|.cd (fun ac=>.bl<|.join (.el fun ad ae af=>.bd fun ah ai=>.sp (fun aj=>.rg [(2,hA Zm ae af),(5,qh call45 (Z1c.ok ad.f0 ah ai)),(7,hB aj)]<|.o [])
 (fun aj=>.sp (fun ak=>.el fun al am an=>.bd fun aq ar=>.sp (fun au=>.rg [(2,hA Zm ae af),(5,qh call45 (Z1c.ok ad.f0 ah ai)),(7,hB aj),(10,hB ak),(14,hA Zm am an),(19,hA Zm ae af),(22,qh call16 (Z12.ok al.f0 ad.f0 aq ar)),(26,hB au)]<|.o [])
 (fun au=>.bd fun av aw=>.rg [(2,hA Zm ae af),(5,qh call45 (Z1c.ok ad.f0 ah ai)),(7,hB aj),(10,hB ak),(14,hA Zm am an),(19,hA Zm ae af),(22,qh call16 (Z12.ok al.f0 ad.f0 aq ar)),(26,hB au),(29,hA Zm ae af),(32,qh call46 (Z19.ok ad.f1 av aw))]<|.o []))
 (fun ak=>.bd fun ax ay=>.rg [(2,hA Zm ae af),(5,qh call45 (Z1c.ok ad.f0 ah ai)),(7,hB aj),(10,hB ak),(29,hA Zm ae af),(32,qh call46 (Z19.ok ad.f1 ax ay))]<|.o [])))
 (.st .normal (fun az=>⟨[(0,.im (.row (a0.map Zm))),(3,qi aa),(44,bV az)],[],0⟩) fun az=>.cd (fun a8=>.r0<|.ret [] [] [] ⟨[(2,bV false)],[],0⟩)
 (fun a8=>.r0<|.bk [] rfl)))
 (fun ac=>.o []))
 (.sm (.rt (fun rr=>bV rr) (fun rr=>[]))
 (.st (.exit 0) (fun _=>⟨[],[],0⟩) fun _=>.r0<|.ret [] [] [] ⟨[(2,bV true)],[],0⟩)))
def Z0x.l1 (a0:List Zx) (b53:Zx) (x48:Int) (x68:Int) (x69:Int):Option Int:=if(decide (x69<(b53.f1.length:Int)))=true then((at? b53.f1 x69)>>=fun b74=>Z0x.l1 a0 b53 x48 (i64.wrap (x68+(i64.wrap ((i64.wrap ((1:Int)+(b74.f1.f6.length:Int)))+(b74.f1.f7.length:Int))))) (i64.wrap (x69+1))) else(some x68)
partial_fixpoint
def Z0x.l0 (a0:List Zx) (x47:Int) (x48:Int):Option (Bool ⊕ Int):=if(decide (x48<(a0.length:Int)))=true then((at? a0 x48)>>=fun b53=>(Z1x.f b53.f0)>>=fun t58=>if(!t58)=true then(some (.inl false)) else((Z0x.l1 a0 b53 x48 (i64.wrap (x47+1)) 0)>>=fun x77=>Z0x.l0 a0 x77 (i64.wrap (x48+1)))) else(some (.inr x47))
partial_fixpoint
def Z0x.f (a0:List Zx):Option Bool:=(Z0x.l0 a0 0 0)>>=fun oo=>match oo with | .inl rr=>(some rr) | .inr x78=>(((if(decide (x78≤400))=true then((Z1u.f a0)>>=fun aa=>some aa) else(some false)):Option Bool)>>=fun ac=>some ac)
theorem Z0x.ok (a0:List Zx):FN 8 [.im (.row (a0.map Zm))] [] 0 (Z0x.f a0) (fun r=>bV r) (fun r=>[]):=FT [] func8 (.r0<|.r0<|.rg [(1,hG Zm a0)]<|.bl<|.loop (.c2 (Z0x.l0.partial_correctness a0)) (0,0) [] [] [] (fun _=>.pr fun x47=>.one (fun x48=>⟨[(0,.im (.row (a0.map Zm))),(3,qi x47),(8,.im (.row (a0.map Zm))),(9,qi (a0.length:Int)),(10,qi x48)],[],0⟩) fun x48=>.r0<|.cd (fun c49=>.bl<|.el fun b53 p54 q55=>.rg [(0,hA Zm p54 q55),(2,⟨.k 3,.n⟩)]<|.r0<|.bd fun t58 e59=>.rg [(2,qh call22 (Z1x.ok b53.f0 t58 e59))]<|.cd (fun c60=>.r0<|.ret [] [] [] ⟨[(2,bV false)],[],0⟩)
 (fun c60=>.rg [(2,hG Z0e b53.f1)]<|.bl<|.loop (.c2 (Z0x.l1.partial_correctness a0 b53 x48)) (i64.wrap (x47+1),0) [] [] [] (fun _=>.pr fun x68=>.one (fun x69=>⟨[(0,.im (.row (a0.map Zm))),(3,qi x68),(8,.im (.row (a0.map Zm))),(9,qi (a0.length:Int)),(10,qi x48),(21,.im (.row (b53.f1.map Z0e))),(22,qi (b53.f1.length:Int)),(23,qi x69)],[],0⟩) fun x69=>.r0<|.cd (fun c70=>.bl<|.el fun b74 p75 q76=>.rg [(0,hA Z0e p75 q76),(2,⟨.k 5,.n⟩)]<|.rg [(4,hG Z4 b74.f1.f6),(9,hG Z4 b74.f1.f7)]<|.r0<|.bk [] rfl)
 (fun c70=>.o []))
 (.st (.exit 2) (fun x77=>⟨[(0,.im (.row (a0.map Zm))),(3,qi x77),(8,.im (.row (a0.map Zm))),(9,qi (a0.length:Int)),(10,qi x48)],[],0⟩) fun x77=>.r0<|.bk [] rfl)))
 (fun c49=>.o []))
 (.sm (.rt (fun rr=>bV rr) (fun rr=>[]))
 (.st (.exit 0) (fun x78=>⟨[(0,.im (.row (a0.map Zm))),(3,qi x78)],[],0⟩) fun x78=>.join (.sp (fun aa=>.bd fun ac ad=>.rg [(2,hB aa),(4,qh call23 (Z1u.ok a0 ac ad))]<|.o [])
 (fun aa=>.rg [(2,hB aa)]<|.o []))
 (.st .normal (fun ae=>⟨[(2,bV ae)],[],0⟩) fun ae=>.ret [] [] [] ⟨[(2,bV ae)],[],0⟩))))
def Z2g.f (a0:ByteArray) (aa:Int) (ac:Int) (ad:Int) (ae:Int) (af:Int) (ah:Int):Option Zx:=some (⟨[(⟨(⟨#[97]⟩:ByteArray),(⟨#[120]⟩:ByteArray)⟩:Z00),(⟨(⟨#[98]⟩:ByteArray),a0⟩:Z00)],[(⟨1,(⟨aa,ac,ad,ae,af,ah,[],[]⟩:Zh)⟩:Z0h)]⟩:Zx)
abbrev q1:=@RW _ 2 74 Zs
abbrev q2:=@RW _ 9 80 Z0e
theorem Z2g.ok (a0:ByteArray) (aa:Int) (ac:Int) (ad:Int) (ae:Int) (af:Int) (ah:Int):FN 24 [sV a0,.ptr 0 0 0] [(0,some (.box 48 [qi aa,qi ac,qi ad,qu ae,qu af,qi ah,.none0,.none0]))] 1 (Z2g.f a0 aa ac ad ae af ah) (fun r=>.agg [.own 1,.own 2]) (fun r=>[(0,some (.box 48 [qi aa,qi ac,qi ad,qu ae,qu af,qi ah,.none0,.none0])),q1 1 ((r).f0),q2 2 ((r).f1)]):=FT [0,1,2] func24 (.rg [(0,⟨.k 1,.n⟩)]<|.rg [(3,hQ 2 Zs ([(⟨(⟨#[97]⟩:ByteArray),(⟨#[120]⟩:ByteArray)⟩:Z00),(⟨(⟨#[98]⟩:ByteArray),a0⟩:Z00)]:List Z00)),(6,hQ 3 Z0e ([(⟨1,(⟨aa,ac,ad,ae,af,ah,[],[]⟩:Zh)⟩:Z0h)]:List Z0h))]<|.ret [(0,0),(1,3),(2,1),(3,2)] [] [] ⟨[(3,.ptr 3 0 0)],[(0,some (.box 48 [qi aa,qi ac,qi ad,qu ae,qu af,qi ah,.none0,.none0])),q1 1 (((⟨[(⟨(⟨#[97]⟩:ByteArray),(⟨#[120]⟩:ByteArray)⟩:Z00),(⟨(⟨#[98]⟩:ByteArray),a0⟩:Z00)],[(⟨1,(⟨aa,ac,ad,ae,af,ah,[],[]⟩:Zh)⟩:Z0h)]⟩:Zx)).f0),q2 2 (((⟨[(⟨(⟨#[97]⟩:ByteArray),(⟨#[120]⟩:ByteArray)⟩:Z00),(⟨(⟨#[98]⟩:ByteArray),a0⟩:Z00)],[(⟨1,(⟨aa,ac,ad,ae,af,ah,[],[]⟩:Zh)⟩:Z0h)]⟩:Zx)).f1),(3,some (.box 60 [.own 1,.own 2]))],1⟩)
def Z0z.f (a0:List Z00):Option (List Z00):=(chk ((([]:List Z00).length+a0.length)*32≤140737488355328))>>=fun _=>some a0
theorem Z0z.ok (a0 r:List Z00) (H:Z0z.f a0=some r):Pv.Fn Tryz.prog 27 [.im (.row (a0.map Zs))] [] 0 (fun x o=>x = .own 0∧o=[q1 0 r]):=by
 unfold Z0z.f at H;obtain⟨c1,H⟩:=Z9u H;obtain rfl:=sj H;refine Fn.bodyK [0] func27 rfl rfl (fun Γ hP hn => ?_);have hm:Tryz.prog.follows .mixedOrders=true:=by kernel_rfl
 replace hn:Γ.n=8:=hn;refine AWp.seq ?_;refine reg hP hn hm [] [0,2] [] ⟨[(0,.im (.row (a0.map Zs))),(2,.none0)],[],0⟩ [] (by kernel_rfl) trivial ?_;refine AWp.seq ?_;cases a0 with
 | nil =>
  refine AWp.nilSplit 0 rfl (fun b m => ?_);refine AWp.seq ?_;cases b with
  | none =>
   refine reg hP hn hm [(1,.more xNil)] [2,4] [] ⟨[(2,.none0),(4,bV true)],[],0⟩ [] (by kernel_rfl) trivial ?_;refine AWp.cond true rfl (fun _ => ?_) (fun h=>nomatch h);refine AWp.seq ?_;refine reg hP hn hm [] [2] [] ⟨[(2,.none0)],[],0⟩ [] (by kernel_rfl) trivial ?_;refine AWp.conv (inv:=[]) (vk:=[]) (e0:=[0]) (t:=⟨[(2,.own 0)],[(0,some (.row 2 74 []))],0⟩) (by kernel_rfl) ?_
   refine AWp.ret ?_;exact Exists.intro _ (And.intro (fun _ _ h=>h) (And.intro (.inl rfl) (And.intro rfl (And.intro (by kernel_rfl) (by kernel_rfl)))))
  | some b =>
   refine reg hP hn hm [(1,.more xNil)] [0,2,4] [] ⟨[(0,.im (.sc (.slice (some b) 0 m))),(2,.none0),(4,bV false)],[],0⟩ [] (by kernel_rfl) trivial ?_;refine AWp.cond false rfl (fun h=>nomatch h) (fun _ => ?_);refine AWp.skip ?_;refine AWp.unsplit 0 rfl ?_;refine AWp.seq ?_;refine reg hP hn hm [(0,.app 0 ([]:List (List Im))),(2,.app 1 (([]:List Z00).map Zs))] [2] [1] ⟨[(2,.own 1)],[q1 1 ([]:List Z00)],0⟩ [([]:List (List Im))=[],([]:List Z00).map Zs=([]:List (List Im))++([]:List Z00).map Zs,∀ c∈([]:List Z00).map Zs,c.length=2,∀ c∈([]:List Z00).map Zs,Z28 (c.map .im)=true,(([]:List (List Im)).length+(([]:List Z00).map Zs).length)*32≤140737488355328] (by kernel_rfl) ⟨rfl,by simp,by exact Z47 _ _ _ (fun _=>rfl),by exact Z3y _ _ (fun _=>rfl),by simpa using c1,trivial⟩ ?_;refine AWp.conv (inv:=[(1,0)]) (vk:=[]) (e0:=[]) (t:=⟨[(2,.own 0)],[q1 0 ([]:List Z00)],0⟩) (by kernel_rfl) ?_
   refine AWp.ret ?_;exact Exists.intro _ (And.intro (fun _ _ h=>h) (And.intro (.inl rfl) (And.intro rfl (And.intro (by kernel_rfl) (by kernel_rfl)))))
 | cons y l =>
  refine AWp.seq ?_;refine reg hP hn hm [(1,.more xNil)] [0,2,4] [] ⟨[(0,.im (.row ((y::l).map Zs))),(2,.none0),(4,bV false)],[],0⟩ [] (by kernel_rfl) trivial ?_;refine AWp.cond false rfl (fun h=>nomatch h) (fun _ => ?_);refine AWp.skip ?_;refine AWp.seq ?_;refine reg hP hn hm [(0,.app 0 ([]:List (List Im))),(2,.app 1 ((y::l).map Zs))] [2] [1] ⟨[(2,.own 1)],[q1 1 (y::l)],0⟩ [([]:List (List Im))=[],(y::l).map Zs=([]:List (List Im))++(y::l).map Zs,∀ c∈(y::l).map Zs,c.length=2,∀ c∈(y::l).map Zs,Z28 (c.map .im)=true,(([]:List (List Im)).length+((y::l).map Zs).length)*32≤140737488355328] (by kernel_rfl) ⟨rfl,by simp,by exact Z47 _ _ _ (fun _=>rfl),by exact Z3y _ _ (fun _=>rfl),by simpa using c1,trivial⟩ ?_;refine AWp.conv (inv:=[(1,0)]) (vk:=[]) (e0:=[]) (t:=⟨[(2,.own 0)],[q1 0 (y::l)],0⟩) (by kernel_rfl) ?_
  refine AWp.ret ?_;exact Exists.intro _ (And.intro (fun _ _ h=>h) (And.intro (.inl rfl) (And.intro rfl (And.intro (by kernel_rfl) (by kernel_rfl)))))
def Z11.l0 (a0:List ByteArray) (a1:ByteArray) (aa:Int):Option (Int ⊕ Unit):=if(decide (aa<(a0.length:Int)))=true then((at? a0 aa)>>=fun ac=>if(a1.toList==ac.toList)=true then(some (.inl aa)) else(Z11.l0 a0 a1 (i64.wrap (aa+1)))) else(some (.inr ()))
partial_fixpoint
def Z11.f (a0:List ByteArray) (a1:ByteArray):Option Int:=(Z11.l0 a0 a1 0)>>=fun oo=>match oo with | .inl rr=>(some rr) | .inr _=>(some (-1))
theorem Z11.ok (a0:List ByteArray) (a1:ByteArray):FN 117 [.im (.row (a0.map Z9)),sV a1] [] 0 (Z11.f a0 a1) (fun r=>qi r) (fun r=>[]):=FT [] func117 (.r0<|.rg [(1,hG Z9 a0)]<|.bl<|.loop (.one (Z11.l0.partial_correctness a0 a1)) 0 [] [] [] (fun _=>.one (fun aa=>⟨[(0,.im (.row (a0.map Z9))),(1,sV a1),(7,qi (a0.length:Int)),(8,qi aa)],[],0⟩) fun aa=>.r0<|.cd (fun ac=>.bl<|.r0<|.el fun ad ae af=>.rg [(3,hA Z9 ae af)]<|.cd (fun ah=>.r0<|.ret [] [] [] ⟨[(4,qi aa)],[],0⟩)
 (fun ah=>.r0<|.bk [] rfl))
 (fun ac=>.o []))
 (.sm (.rt (fun rr=>qi rr) (fun rr=>[]))
 (.st (.exit 0) (fun _=>⟨[],[],0⟩) fun _=>.r0<|.ret [] [] [] ⟨[(4,qi (-1))],[],0⟩)))
def Z25.f (a0:List ByteArray) (a1:ByteArray):Option Bool:=(Z11.f a0 a1)>>=fun aa=>some (decide (aa≥0))
theorem Z25.ok (a0:List ByteArray) (a1:ByteArray):FN 76 [.im (.row (a0.map Z9)),sV a1] [] 0 (Z25.f a0 a1) (fun r=>bV r) (fun r=>[]):=FT [] func76 (.r0<|.bd fun aa ac=>.rg [(2,qh call117 (Z11.ok a0 a1 aa ac))]<|.ret [] [] [] ⟨[(4,bV (decide (aa≥0)))],[],0⟩)
def Z2m.f (a0:Z00) (aa:List ByteArray):Option Bool:=(Z25.f aa a0.f0)>>=fun ac=>some (!ac)
theorem Z2m.ok (a0:Z00) (aa:List ByteArray):FN 75 [.agg (aLabel a0),.ptr 0 0 0] [(0,some (.box 25 [.im (.row (aa.map Z9))]))] 1 (Z2m.f a0 aa) (fun r=>bV r) (fun r=>[(0,some (.box 25 [.im (.row (aa.map Z9))]))]):=FT [0] func75 (.rg [(0,⟨.k 1,.n⟩)]<|.bd fun ac ad=>.rg [(3,qh call76 (Z25.ok aa a0.f0 ac ad))]<|.ret [(0,0)] [] [] ⟨[(3,bV (!ac))],[(0,some (.box 25 [.im (.row (aa.map Z9))]))],1⟩)
def Z04.l0 (a0:List Z00) (aa:List ByteArray) (ac:Int):Option (Int ⊕ Unit):=if(decide (ac<(a0.length:Int)))=true then((at? a0 ac)>>=fun ad=>(Z2m.f ad aa)>>=fun ae=>if ae=true then(some (.inl ac)) else(Z04.l0 a0 aa (i64.wrap (ac+1)))) else(some (.inr ()))
partial_fixpoint
def Z04.f (a0:List Z00) (aa:List ByteArray):Option Int:=(Z04.l0 a0 aa 0)>>=fun oo=>match oo with | .inl rr=>(some rr) | .inr _=>(some (-1))
theorem Z04.ok (a0:List Z00) (aa:List ByteArray):FN 116 [.own 0,.fn 75 [.ptr 1 0 0]] [q1 0 a0,(1,some (.box 25 [.im (.row (aa.map Z9))]))] 2 (Z04.f a0 aa) (fun r=>qi r) (fun r=>[q1 0 a0,(1,some (.box 25 [.im (.row (aa.map Z9))]))]):=FT [0,1] func116 (.r0<|.rg [(1,hG Zs a0)]<|.bl<|.loop (.one (Z04.l0.partial_correctness a0 aa)) 0 [(0,0),(1,1)] [] [] (fun _=>.one (fun ac=>⟨[(0,.own 0),(1,.fn 75 [.ptr 1 0 0]),(7,qi (a0.length:Int)),(8,qi ac)],[q1 0 a0,(1,some (.box 25 [.im (.row (aa.map Z9))]))],2⟩) fun ac=>.r0<|.cd (fun ad=>.bl<|.r0<|.el fun ae af ah=>.bd fun ai aj=>.rg [(3,hX Zs af ah),(4,hL Zs ah),(5,hC [(1,0)] [(0,1)] [] [] call75 (Z2m.ok ae aa ai aj))]<|.cd (fun ak=>.r0<|.ret [(0,0),(1,1)] [] [] ⟨[(4,qi ac)],[q1 0 a0,(1,some (.box 25 [.im (.row (aa.map Z9))]))],2⟩)
 (fun ak=>.r0<|.bk [(0,0),(1,1)] rfl))
 (fun ad=>.o [(0,0),(1,1)]))
 (.sm (.rt (fun rr=>qi rr) (fun rr=>[q1 0 a0,(1,some (.box 25 [.im (.row (aa.map Z9))]))]))
 (.st (.exit 0) (fun _=>⟨[],[q1 0 a0,(1,some (.box 25 [.im (.row (aa.map Z9))]))],2⟩) fun _=>.r0<|.ret [(0,0),(1,1)] [] [] ⟨[(4,qi (-1))],[q1 0 a0,(1,some (.box 25 [.im (.row (aa.map Z9))]))],2⟩)))
def Z02.l0 (aa:List ByteArray) (ac:List Z00) (ad:Int) (ae:Int):Option ((List Z00)×Int):=if(decide (ae<(ac.length:Int)))=true then((at? ac ae)>>=fun af=>(Z2m.f af aa)>>=fun ah=>((if(!ah)=true then((at? ac ad)>>=fun ai=>some (ac.set (Int.toNat (ad)) af,i64.wrap (ad+1))) else(some (ac,ad))):Option ((List Z00)×Int))>>=fun oo=>match oo with | (aj,ak)=>(Z02.l0 aa aj ak (i64.wrap (ae+1)))) else(some (ac,ad))
partial_fixpoint
def Z02.f (a0:List Z00) (aa:List ByteArray):Option (List Z00):=(Z04.f a0 aa)>>=fun ac=>if(ac==(-1))=true then(some a0) else((Z02.l0 aa a0 ac (i64.wrap (ac+1)))>>=fun oo=>match oo with | (ad,ae)=>((chk (0≤ae∧ae≤(ad.length:Int)))>>=fun _=>(chk (0≤ae∧ae≤((ad.take (Int.toNat ae)++List.replicate (ad.length-(Int.toNat ae)) (⟨(⟨#[]⟩:ByteArray),(⟨#[]⟩:ByteArray)⟩:Z00)).length:Int)))>>=fun _=>some ((ad.take (Int.toNat ae)++List.replicate (ad.length-(Int.toNat ae)) (⟨(⟨#[]⟩:ByteArray),(⟨#[]⟩:ByteArray)⟩:Z00)).take (Int.toNat (ae)))))
theorem Z02.ok (a0:List Z00) (aa:List ByteArray):FN 74 [.own 0,.fn 75 [.ptr 1 0 0]] [q1 0 a0,(1,some (.box 25 [.im (.row (aa.map Z9))]))] 2 (Z02.f a0 aa) (fun r=>.own 2) (fun r=>[(0,none),(1,some (.box 25 [.im (.row (aa.map Z9))])),q1 2 r]):=FT [0,1,2] func74 (.r0<|.bd fun ac ad=>.rg [(2,hC [(0,0),(1,1)] [(0,0),(1,1)] [] [] call116 (Z04.ok a0 aa ac ad))]<|.r0<|.cd (fun ae=>.r0<|.ret [(0,2),(1,1)] [] [] ⟨[(4,.own 2)],[(1,some (.box 25 [.im (.row (aa.map Z9))])),q1 2 a0],2⟩)
 (fun ae=>.r0<|.bl<|.loop (.c3 (Z02.l0.partial_correctness aa)) (a0,ac,i64.wrap (ac+1)) [(0,0),(1,1)] [] [] (fun _=>.pr fun af=>.pr fun ah=>.one (fun ai=>⟨[(0,.own 0),(1,.fn 75 [.ptr 1 0 0]),(5,qi ah),(6,qi ai)],[q1 0 af,(1,some (.box 25 [.im (.row (aa.map Z9))]))],2⟩) fun ai=>.rg [(2,hG Zs af)]<|.cd (fun aj=>.bl<|.el fun ak al am=>.rg [(2,hX Zs al am),(3,hL Zs am),(4,⟨.k 3,.n⟩)]<|.bd fun an aq=>.rg [(2,hC [(1,0)] [(0,1)] [] [] call75 (Z2m.ok ak aa an aq))]<|.join (.cd (fun ar=>.el fun au av aw=>.rg [(3,hX Zs av aw),(4,hS Zs ak 0 [sI ak.f0,sI ak.f1] aw)]<|.r0<|.o [(0,0),(1,1)])
 (fun ar=>.o [(0,0),(1,1)]))
 (.pr fun ax=>.st .normal (fun ay=>⟨[(0,.own 0),(1,.fn 75 [.ptr 1 0 0]),(5,qi ay),(6,qi ai)],[q1 0 ax,(1,some (.box 25 [.im (.row (aa.map Z9))]))],2⟩) fun ay=>.r0<|.bk [(0,0),(1,1)] rfl))
 (fun aj=>.o [(0,0),(1,1)]))
 (.pr fun az=>.st (.exit 0) (fun a8=>⟨[(0,.own 0),(5,qi a8)],[q1 0 az,(1,some (.box 25 [.im (.row (aa.map Z9))]))],2⟩) fun a8=>.ck fun a9=>.rg [(2,⟨.more (Z8r (Int.toNat a8) (az.length-(Int.toNat a8))),.c (p:=a8=(((Int.toNat a8):Nat):Int)) ((Int.toNat_of_nonneg a9.1).symm) (.c (p:=(Int.toNat a8)+(az.length-(Int.toNat a8))=(az.map Zs).length) (by have h:=a9;rw[List.length_map];omega) .n)⟩),(3,⟨.more (xClear ((az.take (Int.toNat a8)++List.replicate (az.length-(Int.toNat a8)) (⟨(⟨#[]⟩:ByteArray),(⟨#[]⟩:ByteArray)⟩:Z00)).map Zs)),.c (p:=(az.take (Int.toNat a8)++List.replicate (az.length-(Int.toNat a8)) (⟨(⟨#[]⟩:ByteArray),(⟨#[]⟩:ByteArray)⟩:Z00)).map Zs=(az.map Zs).take (Int.toNat a8)++List.replicate (az.length-(Int.toNat a8)) [sI (⟨#[]⟩:ByteArray),sI (⟨#[]⟩:ByteArray)]) (by simp) (.c (p:=(Int.toNat a8)+(az.length-(Int.toNat a8))=(az.map Zs).length) (by have h:=a9;rw[List.length_map];omega) .n)⟩)]<|.ck fun ba=>.rg [(2,⟨.more (xTake 4 (((az.take (Int.toNat a8)++List.replicate (az.length-(Int.toNat a8)) (⟨(⟨#[]⟩:ByteArray),(⟨#[]⟩:ByteArray)⟩:Z00)).take (Int.toNat (a8))).map Zs)),.c (ba.1) (.c (p:=a8≤(((az.take (Int.toNat a8)++List.replicate (az.length-(Int.toNat a8)) (⟨(⟨#[]⟩:ByteArray),(⟨#[]⟩:ByteArray)⟩:Z00)).map Zs).length:Int)) (by simpa using ba.2) (.c (p:=((az.take (Int.toNat a8)++List.replicate (az.length-(Int.toNat a8)) (⟨(⟨#[]⟩:ByteArray),(⟨#[]⟩:ByteArray)⟩:Z00)).take (Int.toNat (a8))).map Zs=((az.take (Int.toNat a8)++List.replicate (az.length-(Int.toNat a8)) (⟨(⟨#[]⟩:ByteArray),(⟨#[]⟩:ByteArray)⟩:Z00)).map Zs).take (Int.toNat (a8))) (by simp) .n))⟩)]<|.ret [(1,1),(4,2)] [] [] ⟨[(4,.own 2)],[(1,some (.box 25 [.im (.row (aa.map Z9))])),q1 2 ((az.take (Int.toNat a8)++List.replicate (az.length-(Int.toNat a8)) (⟨(⟨#[]⟩:ByteArray),(⟨#[]⟩:ByteArray)⟩:Z00)).take (Int.toNat (a8)))],2⟩)))
def Z4m.f (a0:List Z00) (a1:List ByteArray):Option (List Z00):=(Z0z.f a0)>>=fun aa=>(Z02.f aa a1)>>=fun ac=>some ac
theorem Z4m.ok (a0:List Z00) (a1:List ByteArray):FN 47 [.im (.row (a0.map Zs)),.im (.row (a1.map Z9))] [] 0 (Z4m.f a0 a1) (fun r=>.own 0) (fun r=>[q1 0 r]):=FT [0] func47 (.rg [(0,⟨.k 0,.n⟩)]<|.bd fun aa ac=>.bd fun ad ae=>.rg [(1,hC [] [(0,1)] [] [1] call27 (Z0z.ok a0 aa ac)),(2,⟨.more xFunc,.n⟩),(3,hC [(1,0),(0,1)] [(1,0),(2,2)] [] [2] call74 (Z02.ok aa a1 ad ae))]<|.ret [(2,0)] [] [] ⟨[(4,.own 0)],[q1 0 ad],0⟩)
def Z2y.f (a0_0:Int) (a0_1:Int) (a0_2:Int) (a0_3:Int) (a0_4:Int) (a0_5:Int) (a0_6:Int) (a0_8:Bool) (a0_9:List ByteArray) (a1:Zx):Option (List Z00):=if a0_8=true then((Z4m.f a1.f0 a0_9)>>=fun aa=>some aa) else(some a1.f0)
theorem Z2y.ok (a0_0:Int) (a0_1:Int) (a0_2:Int) (a0_3:Int) (a0_4:Int) (a0_5:Int) (a0_6:Int) (a0_8:Bool) (a0_9:List ByteArray) (a1:Zx):FN 28 [.agg [qi a0_0,qu a0_1,qu a0_2,qi a0_3,qi a0_4,qi a0_5,qi a0_6,.im (.sc (.pointer none)),bV a0_8,.im (.row (a0_9.map Z9))],.agg (Za0 a1)] [] 0 (Z2y.f a0_0 a0_1 a0_2 a0_3 a0_4 a0_5 a0_6 a0_8 a0_9 a1) (fun r=>.im (.row (r.map Zs))) (fun r=>[]):=FT [] func28 (.rg [(0,⟨.k 0,.n⟩),(1,⟨.k 1,.n⟩)]<|.r0<|.cd (fun aa=>.bd fun ac ad=>.rg [(4,hC [] [(0,2)] [] [2] call47 (Z4m.ok a1.f0 a0_9 ac ad))]<|.ret [] [2] [] ⟨[(4,.im (.row (ac.map Zs)))],[],0⟩)
 (fun aa=>.r0<|.ret [] [] [] ⟨[(4,.im (.row (a1.f0.map Zs)))],[],0⟩))
def Z0k.f (a0:ByteArray):Option Unit:=some ()
theorem Z0k.ok (a0:ByteArray):FN 118 [sV a0] [] 0 (Z0k.f a0) (fun r=>bV (!(a0.toList==a0.toList))) (fun r=>[]):=FT [] func118 (.r0<|.r0<|.ret [] [] [] ⟨[(2,bV (!(a0.toList==a0.toList)))],[],0⟩)
def Z1p.f (a0:ByteArray) (a1:ByteArray):Option Int:=(Z0k.f a0)>>=fun aa=>(Z0k.f a1)>>=fun ac=>if(!(a0.toList==a0.toList))=true then(if(!(a1.toList==a1.toList))=true then(some 0) else(some (-1))) else(if(!(a1.toList==a1.toList))=true then(some 1) else(if(Op.bytesLess a0.toList a1.toList)=true then(some (-1)) else(if(!(Op.bytesLess a0.toList a1.toList||a0.toList==a1.toList))=true then(some 1) else(some 0))))
theorem Z1p.ok (a0:ByteArray) (a1:ByteArray):FN 80 [sV a0,sV a1] [] 0 (Z1p.f a0 a1) (fun r=>qi r) (fun r=>[]):=FT [] func80 (.r0<|.bd fun aa ac=>.rg [(1,qh call118 (Z0k.ok a0 aa ac))]<|.bd fun ad ae=>.rg [(1,qh call118 (Z0k.ok a1 ad ae))]<|.r0<|.cd (fun af=>.r0<|.cd (fun ah=>.r0<|.ret [] [] [] ⟨[(4,qi 0)],[],0⟩)
 (fun ah=>.r0<|.ret [] [] [] ⟨[(4,qi (-1))],[],0⟩))
 (fun af=>.r0<|.cd (fun ai=>.r0<|.ret [] [] [] ⟨[(4,qi 1)],[],0⟩)
 (fun ai=>.r0<|.cd (fun aj=>.r0<|.ret [] [] [] ⟨[(4,qi (-1))],[],0⟩)
 (fun aj=>.r0<|.cd (fun ak=>.r0<|.ret [] [] [] ⟨[(4,qi 1)],[],0⟩)
 (fun ak=>.r0<|.ret [] [] [] ⟨[(4,qi 0)],[],0⟩)))))
def Z33.l0 (a0:List Int) (aa:Int):Option (Int ⊕ Unit):=if(decide (aa<(a0.length:Int)))=true then((at? a0 aa)>>=fun ac=>if(ac != 0)=true then(some (.inl ac)) else(Z33.l0 a0 (i64.wrap (aa+1)))) else(some (.inr ()))
partial_fixpoint
def Z33.f (a0:List Int):Option Int:=(Z33.l0 a0 0)>>=fun oo=>match oo with | .inl rr=>(some rr) | .inr _=>(some 0)
theorem Z33.ok (a0:List Int):FN 79 [.im (.row (a0.map qe))] [] 0 (Z33.f a0) (fun r=>qi r) (fun r=>[]):=FT [] func79 (.r0<|.r0<|.rg [(1,hG qe a0)]<|.bl<|.loop (.one (Z33.l0.partial_correctness a0)) 0 [] [] [] (fun _=>.one (fun aa=>⟨[(3,qi 0),(6,.im (.row (a0.map qe))),(7,qi (a0.length:Int)),(8,qi aa)],[],0⟩) fun aa=>.r0<|.cd (fun ac=>.bl<|.el fun ad ae af=>.rg [(0,hA qe ae af)]<|.r0<|.cd (fun ah=>.r0<|.ret [] [] [] ⟨[(2,qi ad)],[],0⟩)
 (fun ah=>.r0<|.bk [] rfl))
 (fun ac=>.o []))
 (.sm (.rt (fun rr=>qi rr) (fun rr=>[]))
 (.st (.exit 0) (fun _=>⟨[(3,qi 0)],[],0⟩) fun _=>.r0<|.ret [] [] [] ⟨[(2,qi 0)],[],0⟩)))
def Z3g.f (a0:Z00) (a1:Z00):Option Int:=(Z1p.f a0.f0 a1.f0)>>=fun aa=>(Z1p.f a0.f1 a1.f1)>>=fun ac=>(Z33.f [aa,ac])>>=fun ad=>some ad
theorem Z3g.ok (a0:Z00) (a1:Z00):FN 78 [.agg (aLabel a0),.agg (aLabel a1)] [] 0 (Z3g.f a0 a1) (fun r=>qi r) (fun r=>[]):=FT [] func78 (.rg [(0,⟨.k 0,.n⟩),(1,⟨.k 1,.n⟩)]<|.bd fun aa ac=>.bd fun ad ae=>.bd fun af ah=>.rg [(4,qh call80 (Z1p.ok a0.f0 a1.f0 aa ac)),(9,qh call80 (Z1p.ok a0.f1 a1.f1 ad ae)),(10,hQ 2 qe ([aa,ad]:List Int)),(11,hC [] [] [2] [] call79 (Z33.ok [aa,ad] af ah))]<|.ret [] [] [] ⟨[(4,qi af)],[],0⟩)
def Zw.l0 (a0:List Z00) (a1:List Z00) (aa:Int):Option (Int ⊕ Unit):=if(decide (aa<(a0.length:Int)))=true then((at? a0 aa)>>=fun ac=>if(decide (aa≥(a1.length:Int)))=true then(some (.inl 1)) else((at? a1 aa)>>=fun ad=>(Z3g.f ac ad)>>=fun ae=>if(ae != 0)=true then(some (.inl ae)) else(Zw.l0 a0 a1 (i64.wrap (aa+1))))) else(some (.inr ()))
partial_fixpoint
def Zw.f (a0:List Z00) (a1:List Z00):Option Int:=(Zw.l0 a0 a1 0)>>=fun oo=>match oo with | .inl rr=>(some rr) | .inr _=>(if(decide ((a0.length:Int)<(a1.length:Int)))=true then(some (-1)) else(some 0))
theorem Zw.ok (a0:List Z00) (a1:List Z00):FN 77 [.im (.row (a0.map Zs)),.im (.row (a1.map Zs)),.im (qf 78)] [] 0 (Zw.f a0 a1) (fun r=>qi r) (fun r=>[]):=FT [] func77 (.r0<|.rg [(1,hG Zs a0)]<|.bl<|.loop (.one (Zw.l0.partial_correctness a0 a1)) 0 [] [] [] (fun _=>.one (fun aa=>⟨[(0,.im (.row (a0.map Zs))),(1,.im (.row (a1.map Zs))),(2,.im (qf 78)),(11,.im (.row (a0.map Zs))),(12,qi (a0.length:Int)),(13,qi aa)],[],0⟩) fun aa=>.r0<|.cd (fun ac=>.bl<|.el fun ad ae af=>.rg [(1,hA Zs ae af),(3,⟨.k 2,.n⟩)]<|.rg [(2,hG Zs a1)]<|.cd (fun ah=>.r0<|.ret [] [] [] ⟨[(6,qi 1)],[],0⟩)
 (fun ah=>.el fun ai aj ak=>.rg [(2,hA Zs aj ak),(4,⟨.k 3,.n⟩)]<|.bd fun al am=>.rg [(3,qh call78 (Z3g.ok ad ai al am))]<|.r0<|.cd (fun an=>.r0<|.ret [] [] [] ⟨[(6,qi al)],[],0⟩)
 (fun an=>.r0<|.bk [] rfl)))
 (fun ac=>.o []))
 (.sm (.rt (fun rr=>qi rr) (fun rr=>[]))
 (.st (.exit 0) (fun _=>⟨[(0,.im (.row (a0.map Zs))),(1,.im (.row (a1.map Zs)))],[],0⟩) fun _=>.rg [(1,hG Zs a0),(3,hG Zs a1)]<|.cd (fun aq=>.r0<|.ret [] [] [] ⟨[(6,qi (-1))],[],0⟩)
 (fun aq=>.r0<|.ret [] [] [] ⟨[(6,qi 0)],[],0⟩))))
def Z3u.f (a0:List Z00) (a1:List Z00):Option Int:=(Zw.f a0 a1)>>=fun aa=>some aa
theorem Z3u.ok (a0:List Z00) (a1:List Z00):FN 50 [.im (.row (a0.map Zs)),.im (.row (a1.map Zs))] [] 0 (Z3u.f a0 a1) (fun r=>qi r) (fun r=>[]):=FT [] func50 (.r0<|.bd fun aa ac=>.rg [(2,qh call77 (Zw.ok a0 a1 aa ac))]<|.ret [] [] [] ⟨[(4,qi aa)],[],0⟩)
def Z1n.f (a0:List Zx) (a1:List Z00) (aa:Int) (ac:Int) (ad:Int) (ae:Int) (af:Int) (ah:Int) (ai:Int) (aj:Bool) (ak:List ByteArray):Option Int:=(at? a0 0)>>=fun al=>(Z2y.f aa ac ad ae af ah ai aj ak al)>>=fun am=>(Z3u.f am a1)>>=fun an=>some an
theorem Z1n.ok (a0:List Zx) (a1:List Z00) (aa:Int) (ac:Int) (ad:Int) (ae:Int) (af:Int) (ah:Int) (ai:Int) (aj:Bool) (ak:List ByteArray):FN 49 [.im (.row (a0.map Zm)),.im (.row (a1.map Zs)),.ip [iI .i64 aa,iI .u64 ac,iI .u64 ad,iI .i64 ae,iI .i64 af,iI .i64 ah,iI .i64 ai,.sc (.pointer none),bI aj,.row (ak.map Z9)]] [] 0 (Z1n.f a0 a1 aa ac ad ae af ah ai aj ak) (fun r=>qi r) (fun r=>[]):=FT [] func49 (.r0<|.el fun al am an=>.bd fun aq ar=>.bd fun au av=>.rg [(2,hA Zm am an),(4,qh call28 (Z2y.ok aa ac ad ae af ah ai aj ak al aq ar)),(6,qh call50 (Z3u.ok aq a1 au av))]<|.ret [] [] [] ⟨[(5,qi au)],[],0⟩)
def Zr.l0 (a0:List (List Zx)) (a1:List Z00) (aa:Int) (ac:Int) (ad:Int) (ae:Int) (af:Int) (ah:Int) (ai:Int) (aj:Bool) (ak:List ByteArray) (al:Int) (am:Int):Option Int:=if(decide (al<am))=true then((at? a0 (i64.wrap (Int.fdiv (u64.wrap (i64.wrap (al+am))) 2)))>>=fun an=>(Z1n.f an a1 aa ac ad ae af ah ai aj ak)>>=fun aq=>((if(decide (aq<0))=true then(some (i64.wrap ((i64.wrap (Int.fdiv (u64.wrap (i64.wrap (al+am))) 2))+1),am)) else(some (al,i64.wrap (Int.fdiv (u64.wrap (i64.wrap (al+am))) 2)))):Option (Int×Int))>>=fun oo=>match oo with | (ar,au)=>(Zr.l0 a0 a1 aa ac ad ae af ah ai aj ak ar au)) else(some al)
partial_fixpoint
def Zr.f (a0:List (List Zx)) (a1:List Z00) (aa:Int) (ac:Int) (ad:Int) (ae:Int) (af:Int) (ah:Int) (ai:Int) (aj:Bool) (ak:List ByteArray):Option (Int×Bool):=(Zr.l0 a0 a1 aa ac ad ae af ah ai aj ak 0 (a0.length:Int))>>=fun al=>((if(decide (al<(a0.length:Int)))=true then((at? a0 al)>>=fun am=>(Z1n.f am a1 aa ac ad ae af ah ai aj ak)>>=fun an=>some (an==0)) else(some false)):Option Bool)>>=fun aq=>some (al,aq)
theorem Zr.ok (a0:List (List Zx)) (a1:List Z00) (aa:Int) (ac:Int) (ad:Int) (ae:Int) (af:Int) (ah:Int) (ai:Int) (aj:Bool) (ak:List ByteArray):FN 48 [.im (.row (a0.map (Z2l Zm))),.im (.row (a1.map Zs)),.fn 49 [.ip [iI .i64 aa,iI .u64 ac,iI .u64 ad,iI .i64 ae,iI .i64 af,iI .i64 ah,iI .i64 ai,.sc (.pointer none),bI aj,.row (ak.map Z9)]]] [] 0 (Zr.f a0 a1 aa ac ad ae af ah ai aj ak) (fun r=>.tup [qi r.1,bV r.2]) (fun r=>[]):=FT [] func48 (.r0<|.rg [(1,hG (Z2l Zm) a0)]<|.r0<|.bl<|.loop (.c2 (Zr.l0.partial_correctness a0 a1 aa ac ad ae af ah ai aj ak)) (0,(a0.length:Int)) [] [] [] (fun _=>.pr fun al=>.one (fun am=>⟨[(0,.im (.row (a0.map (Z2l Zm)))),(1,.im (.row (a1.map Zs))),(2,.fn 49 [.ip [iI .i64 aa,iI .u64 ac,iI .u64 ad,iI .i64 ae,iI .i64 af,iI .i64 ah,iI .i64 ai,.sc (.pointer none),bI aj,.row (ak.map Z9)]]),(8,qi (a0.length:Int)),(9,qi al),(10,qi am)],[],0⟩) fun am=>.r0<|.cd (fun an=>.bl<|.rg [(4,hK 1)]<|.el fun aq ar au=>.bd fun av aw=>.rg [(3,hA (Z2l Zm) ar au),(6,qh call49 (Z1n.ok aq a1 aa ac ad ae af ah ai aj ak av aw))]<|.join (.cd (fun ax=>.r0<|.o [])
 (fun ax=>.r0<|.o []))
 (.pr fun ay=>.st .normal (fun az=>⟨[(0,.im (.row (a0.map (Z2l Zm)))),(1,.im (.row (a1.map Zs))),(2,.fn 49 [.ip [iI .i64 aa,iI .u64 ac,iI .u64 ad,iI .i64 ae,iI .i64 af,iI .i64 ah,iI .i64 ai,.sc (.pointer none),bI aj,.row (ak.map Z9)]]),(8,qi (a0.length:Int)),(9,qi ay),(10,qi az)],[],0⟩) fun az=>.bk [] rfl))
 (fun an=>.o []))
 (.st (.exit 0) (fun a8=>⟨[(0,.im (.row (a0.map (Z2l Zm)))),(1,.im (.row (a1.map Zs))),(2,.fn 49 [.ip [iI .i64 aa,iI .u64 ac,iI .u64 ad,iI .i64 ae,iI .i64 af,iI .i64 ah,iI .i64 ai,.sc (.pointer none),bI aj,.row (ak.map Z9)]]),(8,qi (a0.length:Int)),(9,qi a8)],[],0⟩) fun a8=>.join (.sp (fun a9=>.el fun ba bb bc=>.bd fun be bf=>.rg [(4,hB a9),(8,hA (Z2l Zm) bb bc),(11,qh call49 (Z1n.ok ba a1 aa ac ad ae af ah ai aj ak be bf))]<|.o [])
 (fun a9=>.rg [(4,hB a9)]<|.o []))
 (.st .normal (fun bg=>⟨[(6,qi a8),(7,bV bg)],[],0⟩) fun bg=>.ret [] [] [] ⟨[(6,qi a8),(7,bV bg)],[],0⟩)))
def Z0b.l0 (a0_0:Int) (a0_1:Int) (a0_2:Int) (a0_3:Int) (a0_4:Int) (a0_5:Int) (a0_6:Int) (a0_8:Bool) (a0_9:List ByteArray) (a1:List Zx) (x1:List (List Zx)) (x2:Int):Option (List (List Zx)):=if(decide (x2<(a1.length:Int)))=true then((at? a1 x2)>>=fun b1=>(if a0_8=true then Z4m.f b1.f0 a0_9 else some b1.f0)>>=fun y=>(Zr.f x1 y a0_0 a0_1 a0_2 a0_3 a0_4 a0_5 a0_6 a0_8 a0_9)>>=fun t1=>(if(!t1.2)=true then(chk ((t1.1≤(x1.length:Int))∧(x1.length+1)*24≤140737488355328))>>=fun _=>some (x1.take t1.1.toNat++[]::x1.drop t1.1.toNat) else some x1)>>=fun z=>(at? z t1.1)>>=fun g=>(chk ((g.length+1)*48≤140737488355328))>>=fun _=>Z0b.l0 a0_0 a0_1 a0_2 a0_3 a0_4 a0_5 a0_6 a0_8 a0_9 a1 (z.set t1.1.toNat (g++[b1])) (i64.wrap (x2+1))) else some x1
partial_fixpoint
def Z0b.f (a0_0:Int) (a0_1:Int) (a0_2:Int) (a0_3:Int) (a0_4:Int) (a0_5:Int) (a0_6:Int) (a0_8:Bool) (a0_9:List ByteArray) (a1:List Zx):Option (List (List Zx)):=Z0b.l0 a0_0 a0_1 a0_2 a0_3 a0_4 a0_5 a0_6 a0_8 a0_9 a1 [] 0
theorem Z0b.ee (r:List (List Zx)):(r.map (fun es=>es.map Zm)).map (fun es=>[Im.row es])=r.map (Z2l Zm):=by rw[List.map_map];rfl
theorem Z0b.fx (u:List Value) (n:Nat) (x:Value) (c1 c2:List AVal):((Z1a u).set n c1).set n c2=(Z1a (u.set n x)).set n c2:=by
 simp only[Z1a,List.map_set,List.set_set]
def Z0b.st (a0_0:Int) (a0_1:Int) (a0_2:Int) (a0_3:Int) (a0_4:Int) (a0_5:Int) (a0_6:Int) (a0_8:Bool) (a0_9:List ByteArray) (a1:List Zx) (u:List Value) (x2:Int):Z0:=⟨[(2,.ptr 10 0 0),(5,.own 20),(11,.im (.row (a1.map Zm))),(12,qi (a1.length:Int)),(13,qi x2)],[(10,some (.box 39 [qi a0_0,qu a0_1,qu a0_2,qi a0_3,qi a0_4,qi a0_5,qi a0_6,.im (.sc (.pointer none)),bV a0_8,.im (.row (a0_9.map Z9))])),(20,some (.row 1 26 (Z0l u)))],0⟩
abbrev q3:=@RW _ 2 60 Zm
theorem Z0b.ok (a0_0:Int) (a0_1:Int) (a0_2:Int) (a0_3:Int) (a0_4:Int) (a0_5:Int) (a0_6:Int) (a0_8:Bool) (a0_9:List ByteArray) (a1:List Zx) (r:List (List Zx)) (H:Z0b.f a0_0 a0_1 a0_2 a0_3 a0_4 a0_5 a0_6 a0_8 a0_9 a1=some r):Pv.Fn Tryz.prog 25 [.agg [qi a0_0,qu a0_1,qu a0_2,qi a0_3,qi a0_4,qi a0_5,qi a0_6,.im (.sc (.pointer none)),bV a0_8,.im (.row (a0_9.map Z9))],.im (.row (a1.map Zm))] [] 0 (fun x o=>x = .im (.row (r.map (Z2l Zm)))∧o=[]):=by
 unfold Z0b.f at H;refine Fn.body0 func25 rfl rfl (fun Γ hP hn => ?_);have hm:Tryz.prog.follows .mixedOrders=true:=by kernel_rfl
 replace hn:Γ.n=51:=hn;refine sO hP hn hm [(0,.k 10)] [(2,.ptr 10 0 0)] [1,2] [(10,some (.box 39 [qi a0_0,qu a0_1,qu a0_2,qi a0_3,qi a0_4,qi a0_5,qi a0_6,.im (.sc (.pointer none)),bV a0_8,.im (.row (a0_9.map Z9))]))] [10] ?_;refine sO hP hn hm [] [(5,.none0)] [1,2,5] [] [10] ?_;refine AWp.conv (inv:=[(10,10)]) (vk:=[]) (e0:=[20]) (t:=⟨[(1,.im (.row (a1.map Zm))),(2,.ptr 10 0 0),(5,.own 20)],[(10,some (.box 39 [qi a0_0,qu a0_1,qu a0_2,qi a0_3,qi a0_4,qi a0_5,qi a0_6,.im (.sc (.pointer none)),bV a0_8,.im (.row (a0_9.map Z9))])),(20,some (.row 1 26 (Z0l [])))],0⟩) (by kernel_rfl) ?_
 refine AWp.nest (sz:=2) (el:=60) ?_;refine GWp.seq ?_;refine GWp.seq ?_;refine gR hP hn hm [(1,.any (qi (a1.length:Int)))] [(11,.im (.row (a1.map Zm))),(12,qi (a1.length:Int)),(13,qi 0)] [2,5,11,12,13] [] [10,20] [((a1.map Zm).length:Int)=(a1.length:Int)] ⟨by rw[len_map],trivial⟩ ?_;refine GWp.block ?_;refine GWp.loopB (fun body hbody => ?_);have main:∀ x1 x2 o,Z0b.l0 a0_0 a0_1 a0_2 a0_3 a0_4 a0_5 a0_6 a0_8 a0_9 a1 x1 x2=some o→∀ u Bs,GLWp Γ body (fun e s g=>e = .exit 0∧s.get 5 = .own 20∧s.floor=0∧∃ u Bs,s.obj 20=some (.row 1 26 (Z0l u))∧g=nest 2 60 u (o.map (fun es=>es.map Zm)) Bs) (Z0b.st a0_0 a0_1 a0_2 a0_3 a0_4 a0_5 a0_6 a0_8 a0_9 a1 u x2) (nest 2 60 u (x1.map (fun es=>es.map Zm)) Bs):=by
  intro x1 x2 o e1;refine Z0b.l0.partial_correctness a0_0 a0_1 a0_2 a0_3 a0_4 a0_5 a0_6 a0_8 a0_9 a1 (motive:=fun x1 x2 o=>∀ u Bs,GLWp Γ body (fun e s g=>e = .exit 0∧s.get 5 = .own 20∧s.floor=0∧∃ u Bs,s.obj 20=some (.row 1 26 (Z0l u))∧g=nest 2 60 u (o.map (fun es=>es.map Zm)) Bs) (Z0b.st a0_0 a0_1 a0_2 a0_3 a0_4 a0_5 a0_6 a0_8 a0_9 a1 u x2) (nest 2 60 u (x1.map (fun es=>es.map Zm)) Bs)) ?_ _ _ _ e1;clear H e1 o x1 x2;intro self ih x1 x2 o H u Bs;subst hbody;refine GLWp.fact _ nest_len (fun hlen => ?_);obtain⟨hu,_,h1c⟩:=hlen;rw[List.length_map] at hu;refine GLWp.round ?_;refine gS hP hn hm [] [(14,bV (decide (x2<(a1.length:Int))))] [2,5,11,12,13,14] [] [10,20] [] trivial ?_;refine GWp.seq ?_;refine GWp.cond (decide (x2<(a1.length:Int))) (by kernel_rfl) (fun c1 => ?_) (fun c1 => ?_)
  ·replace H:=iT c1 H
   refine GWp.skip ?_;refine GWp.seq ?_;refine GWp.block ?_;obtain⟨b1,hp1,hq1,H⟩:=at_of H;obtain⟨y,ey,H⟩:=Z7t H;obtain⟨t1,et,H⟩:=Z7t H;obtain⟨z,ez,H⟩:=Z7t H;obtain⟨g,pz,qz,H⟩:=at_of H;obtain⟨d1,H⟩:=Z9u H;obtain⟨ti,tb⟩:=t1;simp only at ez pz qz H;obtain⟨n,rfl⟩:=Int.eq_ofNat_of_zero_le pz;simp only[Int.toNat_natCast] at ez qz H;refine gS hP hn hm [(0,.c (Zm b1)),(2,.k 30)] [(7,.ptr 30 0 0)] [2,5,7,11,12,13] [(30,some (.box 60 (Za0 b1)))] [10,20,30] [_,_] ⟨hp1,el_map Zm hq1,trivial⟩ ?_;refine gS hP hn hm [] [(8,.im (.row (b1.f0.map Zs)))] [2,5,7,8,11,12,13] [] [10,20,30] [] trivial ?_;refine GWp.seq ?_;refine GWp.mono (Q:=fun e s g'=>e = .normal∧s=⟨[(2,.ptr 10 0 0),(5,.own 20),(7,.ptr 30 0 0),(8,.im (.row (y.map Zs))),(11,.im (.row (a1.map Zm))),(12,qi (a1.length:Int)),(13,qi x2),(20,bV a0_8)],[(10,some (.box 39 [qi a0_0,qu a0_1,qu a0_2,qi a0_3,qi a0_4,qi a0_5,qi a0_6,.im (.sc (.pointer none)),bV a0_8,.im (.row (a0_9.map Z9))])),(20,some (.row 1 26 (Z0l u))),(30,some (.box 60 (Za0 b1)))],0⟩∧g'=nest 2 60 u (x1.map (fun es=>es.map Zm)) Bs) ?_ ?_
   ·refine gS hP hn hm [] [(20,bV a0_8)] [2,5,7,8,11,12,13,20] [] [10,20,30] [] trivial ?_
    refine GWp.cond a0_8 (by kernel_rfl) (fun c2 => ?_) (fun c2 => ?_)
    ·replace ey:=iT c2 ey
     refine gR hP hn hm [(4,.more (xFz (.call [] [(0,33)] [] [33] 0 (.own 0) [q1 0 y])))] [(8,.im (.row (y.map Zs)))] [2,5,7,8,11,12,13,20] [] [10,20,30] [_,Pv.Fn Tryz.prog 47 [.im (.row (b1.f0.map Zs)),.im (.row (a0_9.map Z9))] [] 0 (fun x o=>x = .own 0∧o=[q1 0 y])] ⟨call47,Z4m.ok _ _ _ ey,trivial⟩ ⟨rfl,rfl,rfl⟩
    ·replace ey:=sj (iF c2 ey)
     subst ey;exact GWp.skip ⟨rfl,rfl,rfl⟩
   ·rintro e s g' ⟨rfl,rfl,rfl⟩
    refine GWp.seq ?_;refine GWp.view' [(2,.ip [iI .i64 a0_0,iI .u64 a0_1,iI .u64 a0_2,iI .i64 a0_3,iI .i64 a0_4,iI .i64 a0_5,iI .i64 a0_6,.sc (.pointer none),bI a0_8,.row (a0_9.map Z9)]),(5,.im (.row (x1.map (Z2l Zm)))),(8,.im (.row (y.map Zs)))] [(9,.int .i64 (n:Int)),(10,.bool tb)] [2,5,7,11,12,13] ?_ ?_ ?_
    ·intro a w κ I hr hg p hp
     simp only[List.mem_cons,List.not_mem_nil,or_false] at hp;rcases hp with rfl | rfl | rfl
     ·exact see_box hr rfl rfl
     ·have h:=see_nest hr hg (k5:=20) (e5:=26) (x:=5) rfl rfl
      rw[Z0b.ee] at h;exact h
     ·exact see_im hr rfl
    ·intro Γ' f1 f2
     refine LAw.run (f1.trans hP) (f2.trans hn) [(2,.more xFunc),(3,.call [] [] [] [] 0 (.tup [qi (n:Int),bV tb]) [])] [(9,qi (n:Int)),(10,bV tb)] [9,10] [] [] [_,Pv.Fn Tryz.prog 48 [.im (.row (x1.map (Z2l Zm))),.im (.row (y.map Zs)),.fn 49 [.ip [iI .i64 a0_0,iI .u64 a0_1,iI .u64 a0_2,iI .i64 a0_3,iI .i64 a0_4,iI .i64 a0_5,iI .i64 a0_6,.sc (.pointer none),bI a0_8,.row (a0_9.map Z9)]]] [] 0 (fun x o=>x = .tup [qi (n:Int),bV tb]∧o=[])] ⟨call48,Zr.ok x1 y a0_0 a0_1 a0_2 a0_3 a0_4 a0_5 a0_6 a0_8 a0_9 (n,tb) et,trivial⟩ ?_;intro p hp;simp only[List.mem_cons,List.not_mem_nil,or_false] at hp;rcases hp with rfl | rfl<;>rfl
    ·refine GWp.seq ?_
     refine GWp.mono (Q:=fun e s g'=>e = .normal∧∃ u Bs,u.length=z.length∧s=⟨[(2,.ptr 10 0 0),(5,.own 20),(7,.ptr 30 0 0),(9,qi (n:Int)),(11,.im (.row (a1.map Zm))),(12,qi (a1.length:Int)),(13,qi x2),(34,bV (!tb))],[(10,some (.box 39 [qi a0_0,qu a0_1,qu a0_2,qi a0_3,qi a0_4,qi a0_5,qi a0_6,.im (.sc (.pointer none)),bV a0_8,.im (.row (a0_9.map Z9))])),(20,some (.row 1 26 (Z0l u))),(30,some (.box 60 (Za0 b1)))],0⟩∧g'=nest 2 60 u (z.map (fun es=>es.map Zm)) Bs) ?_ ?_
     ·refine gS hP hn hm [] [(34,bV (!tb))] [2,5,7,9,11,12,13,34] [] [10,20,30] [] trivial ?_
      refine GWp.cond (!tb) (by kernel_rfl) (fun c3 => ?_) (fun c3 => ?_)
      ·replace ez:=iT c3 ez
       obtain⟨d2,ez⟩:=Z9u ez;obtain rfl:=sj ez;obtain⟨d2,d3⟩:=d2;have hnl:n≤u.length:=by omega
       refine GWp.post ?_;refine gK hP hn hm [(2,.more (xOneC 31)),(3,.call [(20,0),(31,1)] [(2,32)] [] [32] 2 (.own 2) [(0,none),(1,none),(2,some (.row 1 26 (Z0l (u.take n ++ .slice none 0 0::u.drop n))))])] [(5,.own 32)] [2,5,7,9,11,12,13,34] [(32,some (.row 1 26 (Z0l (u.take n ++ .slice none 0 0::u.drop n))))] [10,30,32] [_,Pv.Fn Tryz.prog 51 [.own 0,qi (n:Int),.own 1] [(0,some (.row 1 26 (Z0l u))),(1,some (.row 1 26 (Z0l [.slice none 0 0])))] 2 (fun r o=>r = .own 2∧o=[(0,none),(1,none),(2,some (.row 1 26 (Z0l (u.take n ++ .slice none 0 0::u.drop n))))])] [(10,10),(30,30),(32,20)] [] [] ⟨[(2,.ptr 10 0 0),(5,.own 20),(7,.ptr 30 0 0),(9,qi (n:Int)),(11,.im (.row (a1.map Zm))),(12,qi (a1.length:Int)),(13,qi x2),(34,bV (!tb))],[(10,some (.box 39 [qi a0_0,qu a0_1,qu a0_2,qi a0_3,qi a0_4,qi a0_5,qi a0_6,.im (.sc (.pointer none)),bV a0_8,.im (.row (a0_9.map Z9))])),(20,some (.row 1 26 (Z0l (u.take n ++ .slice none 0 0::u.drop n)))),(30,some (.box 60 (Za0 b1)))],0⟩ ⟨call51,ins_ok u h1c n hnl (by omega),trivial⟩ rfl ?_;intro a w hs;have hs:=nest_insert (n:=n) (by rw[List.length_map];omega) a w hs;refine⟨_,_,hs,rfl,u.take n ++ .slice none 0 0::u.drop n,Bs.take n++[]::Bs.drop n,?_,rfl,?_⟩
       ·simp;omega
       ·simp only[List.map_append,List.map_cons,List.map_nil,List.map_take,List.map_drop]
      ·replace ez:=sj (iF c3 ez)
       subst ez;exact GWp.skip ⟨rfl,u,Bs,hu,rfl,rfl⟩
     ·rintro e s g' ⟨rfl,u,Bs,hu,rfl,rfl⟩
      obtain⟨hnz,hgz⟩:=List.getElem?_eq_some_iff.1 qz;have hgi:(z.map (fun es=>es.map Zm))[n]'(by rw[List.length_map];exact hnz)=g.map Zm:=by simp[hgz]
      refine GWp.cv (focus (k5:=20) (e5:=26) (k20:=40) (i:=n) rfl (by decide) ?_ (by rw[List.length_map];exact hnz)) ?_
      ·exact Z7a (by kernel_rfl)
      rw[hgi];have hset:n<((Z1a u).set n [.own 40]).length:=by simp[Z1a];omega
      have hget:((Z1a u).set n [.own 40])[n]? = some [.own 40]:=by rw[List.getElem?_set_self (by simp[Z1a];omega)]
      refine GWp.post ?_;refine gX hP hn hm [(4,.more (xIdxP n)),(5,.more (xLoadP n [.own 40])),(7,.app 41 ([b1].map Zm)),(8,.app 42 ((g++[b1]).map Zm)),(9,.more (xIdxP n)),(10,.more (xStoreP n [.own 40]))] [20] [] [2,5,11,12,13] [(20,some (.arow 1 26 [] (((Z1a u).set n [.own 40]).set n [.own 42]))),q3 42 (g++[b1])] [10,20,42] [(MObj.arow 1 26 [] ((Z1a u).set n [.own 40])).has 41=false,(MObj.arow 1 26 [] ((Z1a u).set n [.own 40])).has 42=false,(n:Int)=((([]:List (List Im)).length+n:Nat):Int),n<((Z1a u).set n [.own 40]).length,([]:List (List Im)).length+n=([]:List (List Im)).length+n,((Z1a u).set n [.own 40])[n]? = some [.own 40],[b1].map Zm=[Zm b1],(MObj.arow 1 26 [] ((Z1a u).set n [.own 40])).has 41=false,(g++[b1]).map Zm=(g.map Zm)++([b1].map Zm),∀ c∈([b1].map Zm),c.length=2,∀ c∈([b1].map Zm),Z28 (c.map .im)=true,((g.map Zm).length+([b1].map Zm).length)*48≤140737488355328,(MObj.arow 1 26 [] ((Z1a u).set n [.own 40])).has 42=false,(n:Int)=((([]:List (List Im)).length+n:Nat):Int),n<((Z1a u).set n [.own 40]).length,([]:List (List Im)).length+n=([]:List (List Im)).length+n,((Z1a u).set n [.own 40])[n]? = some [.own 40]] ⟨Z5h (by decide),Z5h (by decide),by simp,hset,rfl,hget,rfl,Z5h (by decide),by simp,by exact Z47 _ _ _ (fun _=>rfl),by exact Z3y _ _ (fun _=>rfl),by simpa using d1,Z5h (by decide),by simp,hset,rfl,hget,trivial⟩ ?_;rw[Z0b.fx u n (.slice none 0 0)];intro a w hs;obtain⟨v,B',hs⟩:=unfocus (k5:=20) (e5:=26) (k21:=42) (i:=n) (es:=(g++[b1]).map Zm) rfl rfl (by decide) (by simp;omega) (fun h=>by simp) a w hs;refine⟨_,_,hs,?_⟩;refine gR hP hn hm [] [(13,qi (i64.wrap (x2+1)))] [2,5,11,12,13] [] [10,20] [] trivial ?_;have h:=ih _ _ _ H ((u.set n (.slice none 0 0)).set n v) ((Bs.set n []).set n B');rw[List.map_set] at h;rw[show ∀ q:List (List (List Im)),(q.set n []).set n ((g++[b1]).map Zm)=q.set n ((g++[b1]).map Zm) from fun q=>by rw[List.set_set]];exact h
  ·replace H:=iF c1 H
   obtain rfl:=sj H;exact GWp.exit ⟨rfl,rfl,rfl,u,Bs,rfl,rfl⟩
 refine GLWp.mono (main [] 0 r H [] []) ?_;rintro e s g ⟨rfl,h5,hfl,u,Bs,h20,rfl⟩;show GWp Γ _ _ s _;refine GWp.data (Go.Pv.freeze h20 h5) ?_;rw[Z0b.ee,hfl];refine sO hP hn hm [] [(4,.im (.row (r.map (Z2l Zm))))] [4] [] [] ?_;exact AWp.ret ⟨.inl rfl,rfl,rfl⟩
def Z1g.f (a0:List Z0h):Option (List Z0h):=(chk ((([]:List Z0h).length+a0.length)*104≤140737488355328))>>=fun _=>some a0
theorem Z1g.ok (a0 r:List Z0h) (H:Z1g.f a0=some r):Pv.Fn Tryz.prog 59 [.im (.row (a0.map Z0e))] [] 0 (fun x o=>x = .own 0∧o=[q2 0 r]):=by
 unfold Z1g.f at H;obtain⟨c1,H⟩:=Z9u H;obtain rfl:=sj H;refine Fn.bodyK [0] func59 rfl rfl (fun Γ hP hn => ?_);have hm:Tryz.prog.follows .mixedOrders=true:=by kernel_rfl
 replace hn:Γ.n=8:=hn;refine AWp.seq ?_;refine reg hP hn hm [] [0,2] [] ⟨[(0,.im (.row (a0.map Z0e))),(2,.none0)],[],0⟩ [] (by kernel_rfl) trivial ?_;refine AWp.seq ?_;cases a0 with
 | nil =>
  refine AWp.nilSplit 0 rfl (fun b m => ?_);refine AWp.seq ?_;cases b with
  | none =>
   refine reg hP hn hm [(1,.more xNil)] [2,4] [] ⟨[(2,.none0),(4,bV true)],[],0⟩ [] (by kernel_rfl) trivial ?_;refine AWp.cond true rfl (fun _ => ?_) (fun h=>nomatch h);refine AWp.seq ?_;refine reg hP hn hm [] [2] [] ⟨[(2,.none0)],[],0⟩ [] (by kernel_rfl) trivial ?_;refine AWp.conv (inv:=[]) (vk:=[]) (e0:=[0]) (t:=⟨[(2,.own 0)],[(0,some (.row 9 80 []))],0⟩) (by kernel_rfl) ?_
   refine AWp.ret ?_;exact Exists.intro _ (And.intro (fun _ _ h=>h) (And.intro (.inl rfl) (And.intro rfl (And.intro (by kernel_rfl) (by kernel_rfl)))))
  | some b =>
   refine reg hP hn hm [(1,.more xNil)] [0,2,4] [] ⟨[(0,.im (.sc (.slice (some b) 0 m))),(2,.none0),(4,bV false)],[],0⟩ [] (by kernel_rfl) trivial ?_;refine AWp.cond false rfl (fun h=>nomatch h) (fun _ => ?_);refine AWp.skip ?_;refine AWp.unsplit 0 rfl ?_;refine AWp.seq ?_;refine reg hP hn hm [(0,.app 0 ([]:List (List Im))),(2,.app 1 (([]:List Z0h).map Z0e))] [2] [1] ⟨[(2,.own 1)],[q2 1 ([]:List Z0h)],0⟩ [([]:List (List Im))=[],([]:List Z0h).map Z0e=([]:List (List Im))++([]:List Z0h).map Z0e,∀ c∈([]:List Z0h).map Z0e,c.length=9,∀ c∈([]:List Z0h).map Z0e,Z28 (c.map .im)=true,(([]:List (List Im)).length+(([]:List Z0h).map Z0e).length)*104≤140737488355328] (by kernel_rfl) ⟨rfl,by simp,by exact Z47 _ _ _ (fun _=>rfl),by exact Z3y _ _ (fun _=>rfl),by simpa using c1,trivial⟩ ?_;refine AWp.conv (inv:=[(1,0)]) (vk:=[]) (e0:=[]) (t:=⟨[(2,.own 0)],[q2 0 ([]:List Z0h)],0⟩) (by kernel_rfl) ?_
   refine AWp.ret ?_;exact Exists.intro _ (And.intro (fun _ _ h=>h) (And.intro (.inl rfl) (And.intro rfl (And.intro (by kernel_rfl) (by kernel_rfl)))))
 | cons y l =>
  refine AWp.seq ?_;refine reg hP hn hm [(1,.more xNil)] [0,2,4] [] ⟨[(0,.im (.row ((y::l).map Z0e))),(2,.none0),(4,bV false)],[],0⟩ [] (by kernel_rfl) trivial ?_;refine AWp.cond false rfl (fun h=>nomatch h) (fun _ => ?_);refine AWp.skip ?_;refine AWp.seq ?_;refine reg hP hn hm [(0,.app 0 ([]:List (List Im))),(2,.app 1 ((y::l).map Z0e))] [2] [1] ⟨[(2,.own 1)],[q2 1 (y::l)],0⟩ [([]:List (List Im))=[],(y::l).map Z0e=([]:List (List Im))++(y::l).map Z0e,∀ c∈(y::l).map Z0e,c.length=9,∀ c∈(y::l).map Z0e,Z28 (c.map .im)=true,(([]:List (List Im)).length+((y::l).map Z0e).length)*104≤140737488355328] (by kernel_rfl) ⟨rfl,by simp,by exact Z47 _ _ _ (fun _=>rfl),by exact Z3y _ _ (fun _=>rfl),by simpa using c1,trivial⟩ ?_;refine AWp.conv (inv:=[(1,0)]) (vk:=[]) (e0:=[]) (t:=⟨[(2,.own 0)],[q2 0 (y::l)],0⟩) (by kernel_rfl) ?_
  refine AWp.ret ?_;exact Exists.intro _ (And.intro (fun _ _ h=>h) (And.intro (.inl rfl) (And.intro rfl (And.intro (by kernel_rfl) (by kernel_rfl)))))
def Z1y.f (a0:Z0h) (aa:Int) (ac:Int):Option Bool:=((if(decide (a0.f0≤aa))=true then(some true) else(some (decide (a0.f0>ac)))):Option Bool)>>=fun ad=>some ad
theorem Z1y.ok (a0:Z0h) (aa:Int) (ac:Int):FN 60 [.agg [qi a0.f0,qi a0.f1.f0,qi a0.f1.f1,qi a0.f1.f2,qu a0.f1.f3,qu a0.f1.f4,qi a0.f1.f5,.im (.row (a0.f1.f6.map Z4)),.im (.row (a0.f1.f7.map Z4))],.ptr 0 0 0,.ptr 1 0 0] [(0,some (.box 2 [qi aa])),(1,some (.box 2 [qi ac]))] 2 (Z1y.f a0 aa ac) (fun r=>bV r) (fun r=>[(0,some (.box 2 [qi aa])),(1,some (.box 2 [qi ac]))]):=FT [0,1] func60 (.rg [(0,⟨.k 2,.n⟩)]<|.join (.sp (fun ad=>.rg [(4,hB ad)]<|.o [(0,0),(1,1)])
 (fun ad=>.rg [(4,hB ad)]<|.o [(0,0),(1,1)]))
 (.st .normal (fun ae=>⟨[(4,bV ae)],[(0,some (.box 2 [qi aa])),(1,some (.box 2 [qi ac]))],2⟩) fun ae=>.ret [(0,0),(1,1)] [] [] ⟨[(4,bV ae)],[(0,some (.box 2 [qi aa])),(1,some (.box 2 [qi ac]))],2⟩))
def Zv.l0 (a0:List Z0h) (aa:Int) (ac:Int) (ad:Int):Option (Int ⊕ Unit):=if(decide (ad<(a0.length:Int)))=true then((at? a0 ad)>>=fun ae=>(Z1y.f ae aa ac)>>=fun af=>if af=true then(some (.inl ad)) else(Zv.l0 a0 aa ac (i64.wrap (ad+1)))) else(some (.inr ()))
partial_fixpoint
def Zv.f (a0:List Z0h) (aa:Int) (ac:Int):Option Int:=(Zv.l0 a0 aa ac 0)>>=fun oo=>match oo with | .inl rr=>(some rr) | .inr _=>(some (-1))
theorem Zv.ok (a0:List Z0h) (aa:Int) (ac:Int):FN 91 [.own 0,.fn 60 [.ptr 1 0 0,.ptr 2 0 0]] [q2 0 a0,(1,some (.box 2 [qi aa])),(2,some (.box 2 [qi ac]))] 3 (Zv.f a0 aa ac) (fun r=>qi r) (fun r=>[q2 0 a0,(1,some (.box 2 [qi aa])),(2,some (.box 2 [qi ac]))]):=FT [0,1,2] func91 (.r0<|.rg [(1,hG Z0e a0)]<|.bl<|.loop (.one (Zv.l0.partial_correctness a0 aa ac)) 0 [(0,0),(1,1),(2,2)] [] [] (fun _=>.one (fun ad=>⟨[(0,.own 0),(1,.fn 60 [.ptr 1 0 0,.ptr 2 0 0]),(7,qi (a0.length:Int)),(8,qi ad)],[q2 0 a0,(1,some (.box 2 [qi aa])),(2,some (.box 2 [qi ac]))],3⟩) fun ad=>.r0<|.cd (fun ae=>.bl<|.r0<|.el fun af ah ai=>.bd fun aj ak=>.rg [(3,hX Z0e ah ai),(4,hL Z0e ai),(5,hC [(1,0),(2,1)] [(0,1),(1,2)] [] [] call60 (Z1y.ok af aa ac aj ak))]<|.cd (fun al=>.r0<|.ret [(0,0),(1,1),(2,2)] [] [] ⟨[(4,qi ad)],[q2 0 a0,(1,some (.box 2 [qi aa])),(2,some (.box 2 [qi ac]))],3⟩)
 (fun al=>.r0<|.bk [(0,0),(1,1),(2,2)] rfl))
 (fun ae=>.o [(0,0),(1,1),(2,2)]))
 (.sm (.rt (fun rr=>qi rr) (fun rr=>[q2 0 a0,(1,some (.box 2 [qi aa])),(2,some (.box 2 [qi ac]))]))
 (.st (.exit 0) (fun _=>⟨[],[q2 0 a0,(1,some (.box 2 [qi aa])),(2,some (.box 2 [qi ac]))],3⟩) fun _=>.r0<|.ret [(0,0),(1,1),(2,2)] [] [] ⟨[(4,qi (-1))],[q2 0 a0,(1,some (.box 2 [qi aa])),(2,some (.box 2 [qi ac]))],3⟩)))
def Zu.l0 (aa:Int) (ac:Int) (ad:List Z0h) (ae:Int) (af:Int):Option ((List Z0h)×Int):=if(decide (af<(ad.length:Int)))=true then((at? ad af)>>=fun ah=>(Z1y.f ah aa ac)>>=fun ai=>((if(!ai)=true then((at? ad ae)>>=fun aj=>some (ad.set (Int.toNat (ae)) ah,i64.wrap (ae+1))) else(some (ad,ae))):Option ((List Z0h)×Int))>>=fun oo=>match oo with | (ak,al)=>(Zu.l0 aa ac ak al (i64.wrap (af+1)))) else(some (ad,ae))
partial_fixpoint
def Zu.f (a0:List Z0h) (aa:Int) (ac:Int):Option (List Z0h):=(Zv.f a0 aa ac)>>=fun ad=>if(ad==(-1))=true then(some a0) else((Zu.l0 aa ac a0 ad (i64.wrap (ad+1)))>>=fun oo=>match oo with | (ae,af)=>((chk (0≤af∧af≤(ae.length:Int)))>>=fun _=>(chk (0≤af∧af≤((ae.take (Int.toNat af)++List.replicate (ae.length-(Int.toNat af)) (⟨0,(⟨0,0,0,0,0,0,[],[]⟩:Zh)⟩:Z0h)).length:Int)))>>=fun _=>some ((ae.take (Int.toNat af)++List.replicate (ae.length-(Int.toNat af)) (⟨0,(⟨0,0,0,0,0,0,[],[]⟩:Zh)⟩:Z0h)).take (Int.toNat (af)))))
theorem Zu.ok (a0:List Z0h) (aa:Int) (ac:Int):FN 58 [.own 0,.fn 60 [.ptr 1 0 0,.ptr 2 0 0]] [q2 0 a0,(1,some (.box 2 [qi aa])),(2,some (.box 2 [qi ac]))] 3 (Zu.f a0 aa ac) (fun r=>.own 3) (fun r=>[(0,none),(1,some (.box 2 [qi aa])),(2,some (.box 2 [qi ac])),q2 3 r]):=FT [0,1,2,3] func58 (.r0<|.bd fun ad ae=>.rg [(2,hC [(0,0),(1,1),(2,2)] [(0,0),(1,1),(2,2)] [] [] call91 (Zv.ok a0 aa ac ad ae))]<|.r0<|.cd (fun af=>.r0<|.ret [(0,3),(1,1),(2,2)] [] [] ⟨[(4,.own 3)],[(1,some (.box 2 [qi aa])),(2,some (.box 2 [qi ac])),q2 3 a0],3⟩)
 (fun af=>.r0<|.bl<|.loop (.c3 (Zu.l0.partial_correctness aa ac)) (a0,ad,i64.wrap (ad+1)) [(0,0),(1,1),(2,2)] [] [] (fun _=>.pr fun ah=>.pr fun ai=>.one (fun aj=>⟨[(0,.own 0),(1,.fn 60 [.ptr 1 0 0,.ptr 2 0 0]),(5,qi ai),(6,qi aj)],[q2 0 ah,(1,some (.box 2 [qi aa])),(2,some (.box 2 [qi ac]))],3⟩) fun aj=>.rg [(2,hG Z0e ah)]<|.cd (fun ak=>.bl<|.el fun al am an=>.rg [(2,hX Z0e am an),(3,hL Z0e an),(4,⟨.k 4,.n⟩)]<|.bd fun aq ar=>.rg [(2,hC [(1,0),(2,1)] [(0,1),(1,2)] [] [] call60 (Z1y.ok al aa ac aq ar))]<|.join (.cd (fun au=>.el fun av aw ax=>.rg [(3,hX Z0e aw ax),(4,hS Z0e al 0 [iI .i64 al.f0,iI .i64 al.f1.f0,iI .i64 al.f1.f1,iI .i64 al.f1.f2,iI .u64 al.f1.f3,iI .u64 al.f1.f4,iI .i64 al.f1.f5,.row (al.f1.f6.map Z4),.row (al.f1.f7.map Z4)] ax)]<|.r0<|.o [(0,0),(1,1),(2,2)])
 (fun au=>.o [(0,0),(1,1),(2,2)]))
 (.pr fun ay=>.st .normal (fun az=>⟨[(0,.own 0),(1,.fn 60 [.ptr 1 0 0,.ptr 2 0 0]),(5,qi az),(6,qi aj)],[q2 0 ay,(1,some (.box 2 [qi aa])),(2,some (.box 2 [qi ac]))],3⟩) fun az=>.r0<|.bk [(0,0),(1,1),(2,2)] rfl))
 (fun ak=>.o [(0,0),(1,1),(2,2)]))
 (.pr fun a8=>.st (.exit 0) (fun a9=>⟨[(0,.own 0),(5,qi a9)],[q2 0 a8,(1,some (.box 2 [qi aa])),(2,some (.box 2 [qi ac]))],3⟩) fun a9=>.ck fun ba=>.rg [(2,⟨.more (Z8r (Int.toNat a9) (a8.length-(Int.toNat a9))),.c (p:=a9=(((Int.toNat a9):Nat):Int)) ((Int.toNat_of_nonneg ba.1).symm) (.c (p:=(Int.toNat a9)+(a8.length-(Int.toNat a9))=(a8.map Z0e).length) (by have h:=ba;rw[List.length_map];omega) .n)⟩),(3,⟨.more (xClear ((a8.take (Int.toNat a9)++List.replicate (a8.length-(Int.toNat a9)) (⟨0,(⟨0,0,0,0,0,0,[],[]⟩:Zh)⟩:Z0h)).map Z0e)),.c (p:=(a8.take (Int.toNat a9)++List.replicate (a8.length-(Int.toNat a9)) (⟨0,(⟨0,0,0,0,0,0,[],[]⟩:Zh)⟩:Z0h)).map Z0e=(a8.map Z0e).take (Int.toNat a9)++List.replicate (a8.length-(Int.toNat a9)) [iI .i64 0,iI .i64 0,iI .i64 0,iI .i64 0,iI .u64 0,iI .u64 0,iI .i64 0,.row [],.row []]) (by simp) (.c (p:=(Int.toNat a9)+(a8.length-(Int.toNat a9))=(a8.map Z0e).length) (by have h:=ba;rw[List.length_map];omega) .n)⟩)]<|.ck fun bb=>.rg [(2,⟨.more (xTake 5 (((a8.take (Int.toNat a9)++List.replicate (a8.length-(Int.toNat a9)) (⟨0,(⟨0,0,0,0,0,0,[],[]⟩:Zh)⟩:Z0h)).take (Int.toNat (a9))).map Z0e)),.c (bb.1) (.c (p:=a9≤(((a8.take (Int.toNat a9)++List.replicate (a8.length-(Int.toNat a9)) (⟨0,(⟨0,0,0,0,0,0,[],[]⟩:Zh)⟩:Z0h)).map Z0e).length:Int)) (by simpa using bb.2) (.c (p:=((a8.take (Int.toNat a9)++List.replicate (a8.length-(Int.toNat a9)) (⟨0,(⟨0,0,0,0,0,0,[],[]⟩:Zh)⟩:Z0h)).take (Int.toNat (a9))).map Z0e=((a8.take (Int.toNat a9)++List.replicate (a8.length-(Int.toNat a9)) (⟨0,(⟨0,0,0,0,0,0,[],[]⟩:Zh)⟩:Z0h)).map Z0e).take (Int.toNat (a9))) (by simp) .n))⟩)]<|.ret [(1,1),(2,2),(5,3)] [] [] ⟨[(4,.own 3)],[(1,some (.box 2 [qi aa])),(2,some (.box 2 [qi ac])),q2 3 ((a8.take (Int.toNat a9)++List.replicate (a8.length-(Int.toNat a9)) (⟨0,(⟨0,0,0,0,0,0,[],[]⟩:Zh)⟩:Z0h)).take (Int.toNat (a9)))],3⟩)))
def Z4i.f (a0:List Z0h) (a1:Int) (a2:Int):Option (List Z0h):=(Z1g.f a0)>>=fun aa=>(Zu.f aa a1 a2)>>=fun ac=>some ac
theorem Z4i.ok (a0:List Z0h) (a1:Int) (a2:Int):FN 32 [.im (.row (a0.map Z0e)),qi a1,qi a2] [] 0 (Z4i.f a0 a1 a2) (fun r=>.own 0) (fun r=>[q2 0 r]):=FT [0] func32 (.rg [(0,⟨.k 0,.n⟩),(1,⟨.k 1,.n⟩)]<|.bd fun aa ac=>.bd fun ad ae=>.rg [(1,hC [] [(0,2)] [] [2] call59 (Z1g.ok a0 aa ac)),(2,⟨.more xFunc,.n⟩),(3,hC [(2,0),(0,1),(1,2)] [(1,0),(2,1),(3,3)] [] [3] call58 (Zu.ok aa a1 a2 ad ae))]<|.ret [(3,0)] [] [] ⟨[(6,.own 0)],[q2 0 ad],0⟩)
def Z4y.f (a0:Int) (a1:Int):Option Zh:=some (⟨a0,a1,(-524288),0,0,0,[],[]⟩:Zh)
theorem Z4y.ok (a0:Int) (a1:Int):FN 61 [qi a0,qi a1] [] 0 (Z4y.f a0 a1) (fun r=>.agg (Z0f (r))) (fun r=>[]):=FT [] func61 (.rg [(0,⟨.k 0,.n⟩)]<|.r0<|.ret [(0,0)] [] [] ⟨[(4,.ptr 0 0 0)],[(0,some (.box 48 (Z0f ((⟨a0,a1,(-524288),0,0,0,[],[]⟩:Zh)))))],0⟩)
def Z4x.f (a0:Int) (a1:Int):Option (Int×Int):=if(!((decide (a0<a1))==(decide ((i64.wrap (a0-a1))<0))))=true then(some (0,5)) else(some (i64.wrap (a0-a1),0))
theorem Z4x.ok (a0:Int) (a1:Int):FN 92 [qi a0,qi a1] [] 0 (Z4x.f a0 a1) (fun r=>.tup [qi r.1,qi r.2]) (fun r=>[]):=FT [] func92 (.r0<|.r0<|.r0<|.cd (fun aa=>.r0<|.ret [] [] [] ⟨[(4,qi 0),(5,qi 5)],[],0⟩)
 (fun aa=>.r0<|.ret [] [] [] ⟨[(4,qi (i64.wrap (a0-a1))),(5,qi 0)],[],0⟩))
def Z0j.f (a0:Int):Option Bool:=((if(decide (a0≥(-4)))=true then(some (decide (a0≤8))) else(some false)):Option Bool)>>=fun aa=>some aa
theorem Z0j.ok (a0:Int):FN 157 [qi a0] [] 0 (Z0j.f a0) (fun r=>bV r) (fun r=>[]):=FT [] func157 (.r0<|.join (.sp (fun aa=>.rg [(2,hB aa)]<|.o [])
 (fun aa=>.rg [(2,hB aa)]<|.o []))
 (.st .normal (fun ac=>⟨[(2,bV ac)],[],0⟩) fun ac=>.ret [] [] [] ⟨[(2,bV ac)],[],0⟩))
def Z3i.f (a0:Int):Option Unit:=some ()
theorem Z3i.ok (a0:Int):FN 167 [qi a0] [] 0 (Z3i.f a0) (fun r=>qu (u64.wrap (i64.wrap ((8:Int)-a0)))) (fun r=>[]):=FT [] func167 (.r0<|.r0<|.ret [] [] [] ⟨[(2,qu (u64.wrap (i64.wrap ((8:Int)-a0))))],[],0⟩)
def Z3p.f (a0:Int):Option Int:=(Z0j.f a0)>>=fun aa=>if(!aa)=true then(some 0) else((Z3i.f a0)>>=fun ac=>(chk (0≤(u64.wrap (i64.wrap ((8:Int)-a0)))))>>=fun _=>some (Int.fdiv (262144:Int) (2 ^ (min (Int.toNat (u64.wrap (i64.wrap ((8:Int)-a0)))) 64))))
theorem Z3p.ok (a0:Int):FN 183 [qi a0] [] 0 (Z3p.f a0) (fun r=>qi r) (fun r=>[]):=FT [] func183 (.r0<|.bd fun aa ac=>.rg [(1,qh call157 (Z0j.ok a0 aa ac))]<|.cd (fun ad=>.r0<|.ret [] [] [] ⟨[(2,qi 0)],[],0⟩)
 (fun ad=>.bd fun ae af=>.ck fun ah=>.rg [(1,qh call167 (Z3i.ok a0 ae af)),(2,hN (p1 ah))]<|.ret [] [] [] ⟨[(2,qi (Int.fdiv (262144:Int) (2 ^ (min (Int.toNat (u64.wrap (i64.wrap ((8:Int)-a0)))) 64))))],[],0⟩))
def Z3v.f (a0:Int):Option Int:=(Z3p.f a0)>>=fun aa=>some (i64.wrap ((i64.wrap (0-aa))+1))
theorem Z3v.ok (a0:Int):FN 182 [qi a0] [] 0 (Z3v.f a0) (fun r=>qi r) (fun r=>[]):=FT [] func182 (.r0<|.bd fun aa ac=>.rg [(1,qh call183 (Z3p.ok a0 aa ac))]<|.ret [] [] [] ⟨[(2,qi (i64.wrap ((i64.wrap (0-aa))+1)))],[],0⟩)
def Z4n.f (a0:Int) (a1:Int):Option Bool:=(((Z0j.f a0)>>=fun aa=>if aa=true then((Z3v.f a0)>>=fun ac=>if(decide (a1≥ac))=true then((Z3p.f a0)>>=fun ad=>some (decide (a1≤ad))) else(some false)) else(some false)):Option Bool)>>=fun ae=>some ae
theorem Z4n.ok (a0:Int) (a1:Int):FN 176 [qi a0,qi a1] [] 0 (Z4n.f a0 a1) (fun r=>bV r) (fun r=>[]):=FT [] func176 (.r0<|.join (.bd fun aa ac=>.sp (fun ad=>.bd fun ae af=>.sp (fun ah=>.bd fun ai aj=>.rg [(1,qh call157 (Z0j.ok a0 aa ac)),(2,hB ad),(5,qh call182 (Z3v.ok a0 ae af)),(8,hB ah),(11,qh call183 (Z3p.ok a0 ai aj))]<|.o [])
 (fun ah=>.rg [(1,qh call157 (Z0j.ok a0 aa ac)),(2,hB ad),(5,qh call182 (Z3v.ok a0 ae af)),(8,hB ah)]<|.o []))
 (fun ad=>.rg [(1,qh call157 (Z0j.ok a0 aa ac)),(2,hB ad)]<|.o []))
 (.st .normal (fun ak=>⟨[(4,bV ak)],[],0⟩) fun ak=>.ret [] [] [] ⟨[(4,bV ak)],[],0⟩))
def Z8m.f (a0:Int) (a1:Int):Option Unit:=(chk (0≤a1))>>=fun _=>some ()
theorem Z8m.ok (a0:Int) (a1:Int):FN 179 [qi a0,qu a1] [] 0 (Z8m.f a0 a1) (fun r=>qi (i64.wrap (0-(Int.fdiv (i64.wrap (0-a0)) (2 ^ (min (Int.toNat (a1)) 64)))))) (fun r=>[]):=FT [] func179 (.r0<|.ck fun aa=>.rg [(3,hN (p1 aa))]<|.ret [] [] [] ⟨[(4,qi (i64.wrap (0-(Int.fdiv (i64.wrap (0-a0)) (2 ^ (min (Int.toNat (a1)) 64))))))],[],0⟩)
def Z6a.f (a0:Int) (a1:Int) (a2:Int):Option (Int×Int):=(((Z0j.f a0)>>=fun aa=>if(!aa)=true then(some true) else((Z0j.f a1)>>=fun ac=>if(!ac)=true then(some true) else(some (decide (a1>a0))))):Option Bool)>>=fun ad=>if ad=true then(some (0,20)) else((Z4n.f a0 a2)>>=fun ae=>if(!ae)=true then(some (0,4)) else((Z8m.f a2 (u64.wrap (i64.wrap (a0-a1))))>>=fun af=>some (i64.wrap (0-(Int.fdiv (i64.wrap (0-a2)) (2 ^ (min (Int.toNat ((u64.wrap (i64.wrap (a0-a1))))) 64)))),0)))
theorem Z6a.ok (a0:Int) (a1:Int) (a2:Int):FN 171 [qi a0,qi a1,qi a2] [] 0 (Z6a.f a0 a1 a2) (fun r=>.tup [qi r.1,qi r.2]) (fun r=>[]):=FT [] func171 (.r0<|.bl<|.join (.bd fun aa ac=>.sp (fun ad=>.rg [(1,qh call157 (Z0j.ok a0 aa ac)),(3,hB ad)]<|.o [])
 (fun ad=>.bd fun ae af=>.sp (fun ah=>.rg [(1,qh call157 (Z0j.ok a0 aa ac)),(3,hB ad),(5,qh call157 (Z0j.ok a1 ae af)),(8,hB ah)]<|.o [])
 (fun ah=>.rg [(1,qh call157 (Z0j.ok a0 aa ac)),(3,hB ad),(5,qh call157 (Z0j.ok a1 ae af)),(8,hB ah)]<|.o [])))
 (.st .normal (fun ai=>⟨[(0,qi a0),(1,qi a1),(2,qi a2),(8,bV ai)],[],0⟩) fun ai=>.cd (fun aj=>.r0<|.ret [] [] [] ⟨[(6,qi 0),(7,qi 20)],[],0⟩)
 (fun aj=>.bd fun ak al=>.rg [(2,qh call176 (Z4n.ok a0 a2 ak al))]<|.cd (fun am=>.r0<|.ret [] [] [] ⟨[(6,qi 0),(7,qi 4)],[],0⟩)
 (fun am=>.bd fun an aq=>.rg [(5,qh call179 (Z8m.ok a2 (u64.wrap (i64.wrap (a0-a1))) an aq))]<|.ret [] [] [] ⟨[(6,qi (i64.wrap (0-(Int.fdiv (i64.wrap (0-a2)) (2 ^ (min (Int.toNat ((u64.wrap (i64.wrap (a0-a1))))) 64)))))),(7,qi 0)],[],0⟩))))
def Z2u.l0 (a0:List Z6) (a1:Int) (a2:Int) (aa:List Z6) (ac:Int):Option (List Z6):=if(decide (ac<(a0.length:Int)))=true then((at? a0 ac)>>=fun ad=>(Z6a.f a1 a2 ad.f0)>>=fun ae=>(chk ((aa.length+[(⟨ae.1,ad.f1⟩:Z6)].length)*16≤140737488355328))>>=fun _=>Z2u.l0 a0 a1 a2 (aa++[(⟨ae.1,ad.f1⟩:Z6)]) (i64.wrap (ac+1))) else(some aa)
partial_fixpoint
def Z2u.f (a0:List Z6) (a1:Int) (a2:Int):Option (List Z6):=(Z2u.l0 a0 a1 a2 [] 0)>>=fun aa=>some aa
abbrev q4:=@RW _ 2 132 Z4
theorem Z2u.ok (a0:List Z6) (a1:Int) (a2:Int):FN 158 [.im (.row (a0.map Z4)),qi a1,qi a2] [] 0 (Z2u.f a0 a1 a2) (fun r=>.own 0) (fun r=>[q4 0 r]):=FT [0] func158 (.r0<|.r0<|.rg [(1,hG Z4 a0)]<|.bl<|.loop (.c2 (Z2u.l0.partial_correctness a0 a1 a2)) ([],0) [] [] [3] (fun _=>.pr fun aa=>.one (fun ac=>⟨[(1,qi a1),(2,qi a2),(7,.own 3),(10,.im (.row (a0.map Z4))),(11,qi (a0.length:Int)),(12,qi ac)],[q4 3 aa],0⟩) fun ac=>.r0<|.cd (fun ad=>.bl<|.el fun ae af ah=>.rg [(0,hA Z4 af ah),(2,⟨.k 4,.n⟩)]<|.bd fun ai aj=>.rg [(4,qh call171 (Z6a.ok a1 a2 ae.f0 ai aj))]<|.ck fun ak=>.rg [(2,hQ 5 Z4 ([(⟨ai.1,ae.f1⟩:Z6)]:List Z6)),(3,hP 6 Z4 2 ak)]<|.r0<|.bk [(6,3)] rfl)
 (fun ad=>.o [(3,7)]))
 (.st (.exit 0) (fun al=>⟨[(7,.own 7)],[q4 7 al],0⟩) fun al=>.r0<|.ret [(7,0)] [] [] ⟨[(6,.own 0)],[q4 0 al],0⟩))
def Z17.f (a0:Int) (a1:Int):Option Int:=(Z0j.f a0)>>=fun aa=>if(!aa)=true then(some 0) else((Z3i.f a0)>>=fun ac=>(chk (0≤(u64.wrap (i64.wrap ((8:Int)-a0)))))>>=fun _=>some (i64.wrap (a1*2 ^ (min (Int.toNat (u64.wrap (i64.wrap ((8:Int)-a0)))) 64))))
theorem Z17.ok (a0:Int) (a1:Int):FN 152 [qi a0,qi a1] [] 0 (Z17.f a0 a1) (fun r=>qi r) (fun r=>[]):=FT [] func152 (.r0<|.bd fun aa ac=>.rg [(1,qh call157 (Z0j.ok a0 aa ac))]<|.cd (fun ad=>.r0<|.ret [] [] [] ⟨[(4,qi 0)],[],0⟩)
 (fun ad=>.bd fun ae af=>.ck fun ah=>.rg [(2,qh call167 (Z3i.ok a0 ae af)),(3,hN (p1 ah))]<|.ret [] [] [] ⟨[(4,qi (i64.wrap (a1*2 ^ (min (Int.toNat (u64.wrap (i64.wrap ((8:Int)-a0)))) 64))))],[],0⟩))
def Z2k.f (a0:Int) (a1:Int):Option Int:=(Z17.f a0 (i64.wrap (a1-1)))>>=fun aa=>some aa
theorem Z2k.ok (a0:Int) (a1:Int):FN 151 [qi a0,qi a1] [] 0 (Z2k.f a0 a1) (fun r=>qi r) (fun r=>[]):=FT [] func151 (.r0<|.bd fun aa ac=>.rg [(3,qh call152 (Z17.ok a0 (i64.wrap (a1-1)) aa ac))]<|.ret [] [] [] ⟨[(4,qi aa)],[],0⟩)
def Z2t.l0 (a0:Zh) (a1:List Z6) (a2:Int) (aa:Int):Option (Int ⊕ Unit):=if(decide (aa<(a1.length:Int)))=true then((at? a1 aa)>>=fun ac=>(((Z2k.f a0.f1 ac.f0)>>=fun ad=>if(decide (ad<a2))=true then((Z17.f a0.f1 ac.f0)>>=fun ae=>some (decide (a2<ae))) else(some false)):Option Bool)>>=fun af=>if af=true then((Z17.f a0.f1 ac.f0)>>=fun ah=>some (.inl ah)) else(Z2t.l0 a0 a1 a2 (i64.wrap (aa+1)))) else(some (.inr ()))
partial_fixpoint
def Z2t.f (a0:Zh) (a1:List Z6) (a2:Int):Option Int:=(Z2t.l0 a0 a1 a2 0)>>=fun oo=>match oo with | .inl rr=>(some rr) | .inr _=>(some a2)
theorem Z2t.ok (a0:Zh) (a1:List Z6) (a2:Int):FN 172 [.agg (Z0f a0),.im (.row (a1.map Z4)),qi a2] [] 0 (Z2t.f a0 a1 a2) (fun r=>qi r) (fun r=>[]):=FT [] func172 (.rg [(0,⟨.k 0,.n⟩)]<|.rg [(1,hG Z4 a1)]<|.bl<|.loop (.one (Z2t.l0.partial_correctness a0 a1 a2)) 0 [(0,4)] [] [] (fun _=>.one (fun aa=>⟨[(2,qi a2),(3,.ptr 4 0 0),(9,.im (.row (a1.map Z4))),(10,qi (a1.length:Int)),(11,qi aa)],[(4,some (.box 48 (Z0f a0)))],0⟩) fun aa=>.r0<|.cd (fun ac=>.bl<|.el fun ad ae af=>.rg [(0,hA Z4 ae af),(2,⟨.k 5,.n⟩)]<|.join (.bd fun ah ai=>.sp (fun aj=>.bd fun ak al=>.rg [(4,qh call151 (Z2k.ok a0.f1 ad.f0 ah ai)),(7,hB aj),(13,qh call152 (Z17.ok a0.f1 ad.f0 ak al))]<|.o [(4,6),(5,7)])
 (fun aj=>.rg [(4,qh call151 (Z2k.ok a0.f1 ad.f0 ah ai)),(7,hB aj)]<|.o [(4,6),(5,7)]))
 (.st .normal (fun am=>⟨[(2,qi a2),(3,.ptr 6 0 0),(8,.ptr 7 0 0),(9,.im (.row (a1.map Z4))),(10,qi (a1.length:Int)),(11,qi aa),(30,bV am)],[(6,some (.box 48 (Z0f a0))),(7,some (.box 132 (Z54 ad)))],0⟩) fun am=>.cd (fun an=>.bd fun aq ar=>.rg [(4,qh call152 (Z17.ok a0.f1 ad.f0 aq ar))]<|.ret [] [] [] ⟨[(6,qi aq)],[],0⟩)
 (fun an=>.r0<|.bk [(6,4)] rfl)))
 (fun ac=>.o []))
 (.sm (.rt (fun rr=>qi rr) (fun rr=>[]))
 (.st (.exit 0) (fun _=>⟨[(2,qi a2)],[],0⟩) fun _=>.r0<|.ret [] [] [] ⟨[(6,qi a2)],[],0⟩)))
def Z29.l0 (a0:List Int) (aa:Int) (ac:Int):Option ((Int×Int) ⊕ Int):=if(decide (ac<(a0.length:Int)))=true then((at? a0 ac)>>=fun ad=>(chk (0≤aa∧0≤ad∧0≤(0:Int)∧(0:Int)≤1))>>=fun _=>if(((aa+ad+0) / 18446744073709551616) != 0)=true then(some (.inl (0,5))) else(Z29.l0 a0 ((aa+ad+0) % 18446744073709551616) (i64.wrap (ac+1)))) else(some (.inr aa))
partial_fixpoint
def Z29.f (a0:List Int):Option (Int×Int):=(Z29.l0 a0 0 0)>>=fun oo=>match oo with | .inl rr=>(some rr) | .inr aa=>(some (aa,0))
theorem Z29.ok (a0:List Int):FN 98 [.im (.row (a0.map qv))] [] 0 (Z29.f a0) (fun r=>.tup [qu r.1,qi r.2]) (fun r=>[]):=FT [] func98 (.r0<|.r0<|.rg [(1,hG qv a0)]<|.bl<|.loop (.c2 (Z29.l0.partial_correctness a0)) (0,0) [] [] [] (fun _=>.pr fun aa=>.one (fun ac=>⟨[(4,qu aa),(9,.im (.row (a0.map qv))),(10,qi (a0.length:Int)),(11,qi ac)],[],0⟩) fun ac=>.r0<|.cd (fun ad=>.bl<|.el fun ae af ah=>.rg [(0,hA qv af ah)]<|.ck fun ai=>.rg [(2,⟨.ext (.tup [qu ((aa+ae+0) % 18446744073709551616),qu ((aa+ae+0) / 18446744073709551616)]),.c (p:=∀ w,(callFunc 140 ([.int .u64 aa,.int .u64 ae,.int .u64 (0:Int)]:List Value).toArray).run Tryz.prog w = .ok (.value (.tuple #[.int .u64 ((aa+ae+0) % 18446744073709551616),.int .u64 ((aa+ae+0) / 18446744073709551616)])) w) (fun w=>x_add64 (fn:=Tryz.f140) func140 (by kernel_rfl) rfl (by kernel_rfl) (by kernel_rfl) ai w) .n⟩)]<|.r0<|.cd (fun aj=>.r0<|.ret [] [] [] ⟨[(2,qu 0),(3,qi 5)],[],0⟩)
 (fun aj=>.r0<|.r0<|.bk [] rfl))
 (fun ad=>.o []))
 (.sm (.rt (fun rr=>.tup [qu rr.1,qi rr.2]) (fun rr=>[]))
 (.st (.exit 0) (fun ak=>⟨[(4,qu ak)],[],0⟩) fun ak=>.r0<|.ret [] [] [] ⟨[(2,qu ak),(3,qi 0)],[],0⟩)))
def Z0w.l0 (a0:List Z6) (aa:Int) (ac:Int) (ad:Int) (ae:Int) (af:Int) (ah:List Z6) (ai:List Z6) (aj:Int) (ak:Int) (al:List Z6) (am:Int):Option ((List Z6)×Int):=if(decide (am<(a0.length:Int)))=true then((at? a0 am)>>=fun an=>(Z17.f ac an.f0)>>=fun aq=>((if(decide (aq>aj))=true then((chk ((al.length+[an].length)*16≤140737488355328))>>=fun _=>some (ak,al++[an])) else((Z29.f [ak,an.f1])>>=fun ar=>some (ar.1,al))):Option (Int×(List Z6)))>>=fun oo=>match oo with | (au,av)=>(Z0w.l0 a0 aa ac ad ae af ah ai aj au av (i64.wrap (am+1)))) else(some (al,ak))
partial_fixpoint
def Z0w.f (a0:List Z6) (aa:Int) (ac:Int) (ad:Int) (ae:Int) (af:Int) (ah:Int) (ai:List Z6) (aj:List Z6) (ak:Int):Option ((List Z6)×Int):=(Z0w.l0 a0 aa ac ad af ah ai aj ak ae [] 0)>>=fun oo=>match oo with | (al,am)=>(some (al,am))
theorem Z0w.ok (a0:List Z6) (aa:Int) (ac:Int) (ad:Int) (ae:Int) (af:Int) (ah:Int) (ai:List Z6) (aj:List Z6) (ak:Int):FN 173 [.im (.row (a0.map Z4)),.ptr 0 0 0,.ptr 1 0 0] [(0,some (.box 48 (Z0f ⟨aa,ac,ad,ae,af,ah,ai,aj⟩))),(1,some (.box 3 [qi ak]))] 2 (Z0w.f a0 aa ac ad ae af ah ai aj ak) (fun r=>.own 2) (fun r=>[(0,some (.box 48 (Z0f ⟨aa,ac,ad,r.2,af,ah,ai,aj⟩))),(1,some (.box 3 [qi ak])),q4 2 r.1]):=FT [0,1,2] func173 (.r0<|.r0<|.rg [(1,hG Z4 a0)]<|.bl<|.loop (.c3 (Z0w.l0.partial_correctness a0 aa ac ad af ah ai aj ak)) (ae,[],0) [(0,0),(1,1)] [] [7] (fun _=>.pr fun al=>.pr fun am=>.one (fun an=>⟨[(1,.ptr 0 0 0),(2,.ptr 1 0 0),(5,.own 7),(8,.im (.row (a0.map Z4))),(9,qi (a0.length:Int)),(10,qi an)],[(0,some (.box 48 (Z0f ⟨aa,ac,ad,al,af,ah,ai,aj⟩))),(1,some (.box 3 [qi ak])),q4 7 am],2⟩) fun an=>.r0<|.cd (fun aq=>.bl<|.el fun ar au av=>.rg [(0,hA Z4 au av),(2,⟨.k 8,.n⟩)]<|.bd fun aw ax=>.rg [(4,qh call152 (Z17.ok ac ar.f0 aw ax))]<|.join (.cd (fun ay=>.ck fun az=>.rg [(2,hQ 9 Z4 ([ar]:List Z6)),(3,hP 10 Z4 2 az)]<|.o [(0,0),(1,1),(10,12)])
 (fun ay=>.bd fun a8 a9=>.rg [(4,hQ 11 qv ([al,ar.f1]:List Int)),(5,hC [] [] [11] [] call98 (Z29.ok [al,ar.f1] a8 a9))]<|.o [(0,0),(1,1),(7,12)]))
 (.pr fun ba=>.st .normal (fun bb=>⟨[(1,.ptr 0 0 0),(2,.ptr 1 0 0),(5,.own 12),(8,.im (.row (a0.map Z4))),(9,qi (a0.length:Int)),(10,qi an)],[(0,some (.box 48 (Z0f ⟨aa,ac,ad,ba,af,ah,ai,aj⟩))),(1,some (.box 3 [qi ak])),q4 12 bb],2⟩) fun bb=>.r0<|.bk [(0,0),(1,1),(12,7)] rfl))
 (fun aq=>.o [(7,13),(0,0),(1,1)]))
 (.pr fun bc=>.st (.exit 0) (fun be=>⟨[(5,.own 13)],[(0,some (.box 48 (Z0f ⟨aa,ac,ad,be,af,ah,ai,aj⟩))),(1,some (.box 3 [qi ak])),q4 13 bc],2⟩) fun be=>.r0<|.ret [(0,0),(1,1),(13,2)] [] [] ⟨[(4,.own 2)],[(0,some (.box 48 (Z0f ⟨aa,ac,ad,be,af,ah,ai,aj⟩))),(1,some (.box 3 [qi ak])),q4 2 bc],2⟩))
def Z0p.f (a0:List Z6):Option (List Z6):=(chk ((([]:List Z6).length+a0.length)*16≤140737488355328))>>=fun _=>some a0
theorem Z0p.ok (a0 r:List Z6) (H:Z0p.f a0=some r):Pv.Fn Tryz.prog 64 [.im (.row (a0.map Z4))] [] 0 (fun x o=>x = .own 0∧o=[q4 0 r]):=by
 unfold Z0p.f at H;obtain⟨c1,H⟩:=Z9u H;obtain rfl:=sj H;refine Fn.bodyK [0] func64 rfl rfl (fun Γ hP hn => ?_);have hm:Tryz.prog.follows .mixedOrders=true:=by kernel_rfl
 replace hn:Γ.n=8:=hn;refine AWp.seq ?_;refine reg hP hn hm [] [0,2] [] ⟨[(0,.im (.row (a0.map Z4))),(2,.none0)],[],0⟩ [] (by kernel_rfl) trivial ?_;refine AWp.seq ?_;cases a0 with
 | nil =>
  refine AWp.nilSplit 0 rfl (fun b m => ?_);refine AWp.seq ?_;cases b with
  | none =>
   refine reg hP hn hm [(1,.more xNil)] [2,4] [] ⟨[(2,.none0),(4,bV true)],[],0⟩ [] (by kernel_rfl) trivial ?_;refine AWp.cond true rfl (fun _ => ?_) (fun h=>nomatch h);refine AWp.seq ?_;refine reg hP hn hm [] [2] [] ⟨[(2,.none0)],[],0⟩ [] (by kernel_rfl) trivial ?_;refine AWp.conv (inv:=[]) (vk:=[]) (e0:=[0]) (t:=⟨[(2,.own 0)],[(0,some (.row 2 132 []))],0⟩) (by kernel_rfl) ?_
   refine AWp.ret ?_;exact Exists.intro _ (And.intro (fun _ _ h=>h) (And.intro (.inl rfl) (And.intro rfl (And.intro (by kernel_rfl) (by kernel_rfl)))))
  | some b =>
   refine reg hP hn hm [(1,.more xNil)] [0,2,4] [] ⟨[(0,.im (.sc (.slice (some b) 0 m))),(2,.none0),(4,bV false)],[],0⟩ [] (by kernel_rfl) trivial ?_;refine AWp.cond false rfl (fun h=>nomatch h) (fun _ => ?_);refine AWp.skip ?_;refine AWp.unsplit 0 rfl ?_;refine AWp.seq ?_;refine reg hP hn hm [(0,.app 0 ([]:List (List Im))),(2,.app 1 (([]:List Z6).map Z4))] [2] [1] ⟨[(2,.own 1)],[q4 1 ([]:List Z6)],0⟩ [([]:List (List Im))=[],([]:List Z6).map Z4=([]:List (List Im))++([]:List Z6).map Z4,∀ c∈([]:List Z6).map Z4,c.length=2,∀ c∈([]:List Z6).map Z4,Z28 (c.map .im)=true,(([]:List (List Im)).length+(([]:List Z6).map Z4).length)*16≤140737488355328] (by kernel_rfl) ⟨rfl,by simp,by exact Z47 _ _ _ (fun _=>rfl),by exact Z3y _ _ (fun _=>rfl),by simpa using c1,trivial⟩ ?_;refine AWp.conv (inv:=[(1,0)]) (vk:=[]) (e0:=[]) (t:=⟨[(2,.own 0)],[q4 0 ([]:List Z6)],0⟩) (by kernel_rfl) ?_
   refine AWp.ret ?_;exact Exists.intro _ (And.intro (fun _ _ h=>h) (And.intro (.inl rfl) (And.intro rfl (And.intro (by kernel_rfl) (by kernel_rfl)))))
 | cons y l =>
  refine AWp.seq ?_;refine reg hP hn hm [(1,.more xNil)] [0,2,4] [] ⟨[(0,.im (.row ((y::l).map Z4))),(2,.none0),(4,bV false)],[],0⟩ [] (by kernel_rfl) trivial ?_;refine AWp.cond false rfl (fun h=>nomatch h) (fun _ => ?_);refine AWp.skip ?_;refine AWp.seq ?_;refine reg hP hn hm [(0,.app 0 ([]:List (List Im))),(2,.app 1 ((y::l).map Z4))] [2] [1] ⟨[(2,.own 1)],[q4 1 (y::l)],0⟩ [([]:List (List Im))=[],(y::l).map Z4=([]:List (List Im))++(y::l).map Z4,∀ c∈(y::l).map Z4,c.length=2,∀ c∈(y::l).map Z4,Z28 (c.map .im)=true,(([]:List (List Im)).length+((y::l).map Z4).length)*16≤140737488355328] (by kernel_rfl) ⟨rfl,by simp,by exact Z47 _ _ _ (fun _=>rfl),by exact Z3y _ _ (fun _=>rfl),by simpa using c1,trivial⟩ ?_;refine AWp.conv (inv:=[(1,0)]) (vk:=[]) (e0:=[]) (t:=⟨[(2,.own 0)],[q4 0 (y::l)],0⟩) (by kernel_rfl) ?_
  refine AWp.ret ?_;exact Exists.intro _ (And.intro (fun _ _ h=>h) (And.intro (.inl rfl) (And.intro rfl (And.intro (by kernel_rfl) (by kernel_rfl)))))
def Z2z.f (a0:Int):Option Unit:=some ()
theorem Z2z.ok (a0:Int):FN 175 [qi a0] [] 0 (Z2z.f a0) (fun r=>bV (a0 != a0)) (fun r=>[]):=FT [] func175 (.r0<|.r0<|.ret [] [] [] ⟨[(2,bV (a0 != a0))],[],0⟩)
def Z3h.f (a0:Int) (a1:Int):Option Int:=(Z2z.f a0)>>=fun aa=>(Z2z.f a1)>>=fun ac=>if(a0 != a0)=true then(if(a1 != a1)=true then(some 0) else(some (-1))) else(if(a1 != a1)=true then(some 1) else(if(decide (a0<a1))=true then(some (-1)) else(if(decide (a0>a1))=true then(some 1) else(some 0))))
theorem Z3h.ok (a0:Int) (a1:Int):FN 162 [qi a0,qi a1] [] 0 (Z3h.f a0 a1) (fun r=>qi r) (fun r=>[]):=FT [] func162 (.r0<|.bd fun aa ac=>.rg [(1,qh call175 (Z2z.ok a0 aa ac))]<|.bd fun ad ae=>.rg [(1,qh call175 (Z2z.ok a1 ad ae))]<|.r0<|.cd (fun af=>.r0<|.cd (fun ah=>.r0<|.ret [] [] [] ⟨[(4,qi 0)],[],0⟩)
 (fun ah=>.r0<|.ret [] [] [] ⟨[(4,qi (-1))],[],0⟩))
 (fun af=>.r0<|.cd (fun ai=>.r0<|.ret [] [] [] ⟨[(4,qi 1)],[],0⟩)
 (fun ai=>.r0<|.cd (fun aj=>.r0<|.ret [] [] [] ⟨[(4,qi (-1))],[],0⟩)
 (fun aj=>.r0<|.cd (fun ak=>.r0<|.ret [] [] [] ⟨[(4,qi 1)],[],0⟩)
 (fun ak=>.r0<|.ret [] [] [] ⟨[(4,qi 0)],[],0⟩)))))
def Z22.f (a0:Z6) (a1:Z6):Option Int:=(Z3h.f a0.f0 a1.f0)>>=fun aa=>some aa
theorem Z22.ok (a0:Z6) (a1:Z6):FN 161 [.agg (Z54 a0),.agg (Z54 a1)] [] 0 (Z22.f a0 a1) (fun r=>qi r) (fun r=>[]):=FT [] func161 (.rg [(0,⟨.k 0,.n⟩),(1,⟨.k 1,.n⟩)]<|.bd fun aa ac=>.rg [(4,qh call162 (Z3h.ok a0.f0 a1.f0 aa ac))]<|.ret [] [] [] ⟨[(4,qi aa)],[],0⟩)
def Zc.l1 (a1:Int) (a2:Int) (aa:Int) (ac:List Z6) (ad:Int):Option (List Z6):=((if(decide (ad>a1))=true then((at? ac ad)>>=fun ae=>(at? ac (i64.wrap (ad-1)))>>=fun af=>(Z22.f ae af)>>=fun ah=>some (decide (ah<0))) else(some false)):Option Bool)>>=fun ai=>if ai=true then((at? ac (i64.wrap (ad-1)))>>=fun aj=>(at? ac ad)>>=fun ak=>(at? (ac.set (Int.toNat (ad)) aj) (i64.wrap (ad-1)))>>=fun al=>Zc.l1 a1 a2 aa ((ac.set (Int.toNat (ad)) aj).set (Int.toNat (i64.wrap (ad-1))) ak) (i64.wrap (ad-1))) else(some ac)
partial_fixpoint
def Zc.l0 (a1:Int) (a2:Int) (aa:List Z6) (ac:Int):Option (List Z6):=if(decide (ac<a2))=true then((Zc.l1 a1 a2 ac aa ac)>>=fun ad=>Zc.l0 a1 a2 ad (i64.wrap (ac+1))) else(some aa)
partial_fixpoint
def Zc.f (a0:List Z6) (a1:Int) (a2:Int):Option (List Z6):=(Zc.l0 a1 a2 a0 (i64.wrap (a1+1)))>>=fun aa=>some aa
theorem Zc.ok (a0:List Z6) (a1:Int) (a2:Int):FN 180 [.own 0,qi a1,qi a2,.im (qf 161)] [q4 0 a0] 1 (Zc.f a0 a1 a2) (fun r=>.tup []) (fun r=>[q4 0 r]):=FT [0] func180 (.r0<|.bl<|.loop (.c2 (Zc.l0.partial_correctness a1 a2)) (a0,i64.wrap (a1+1)) [(0,0)] [] [] (fun _=>.pr fun aa=>.one (fun ac=>⟨[(0,.own 0),(1,qi a1),(2,qi a2),(3,.im (qf 161)),(8,qi ac)],[q4 0 aa],1⟩) fun ac=>.r0<|.cd (fun ad=>.bl<|.r0<|.bl<|.loop (.c2 (Zc.l1.partial_correctness a1 a2 ac)) (aa,ac) [(0,0)] [] [] (fun _=>.pr fun ae=>.one (fun af=>⟨[(0,.own 0),(1,qi a1),(2,qi a2),(3,.im (qf 161)),(8,qi ac),(9,qi af)],[q4 0 ae],1⟩) fun af=>.join (.sp (fun ah=>.el fun ai aj ak=>.el fun al am an=>.bd fun aq ar=>.rg [(3,hB ah),(7,hX Z4 aj ak),(8,hL Z4 ak),(12,hX Z4 am an),(13,hL Z4 an),(14,qh call161 (Z22.ok ai al aq ar))]<|.o [(0,0)])
 (fun ah=>.rg [(3,hB ah)]<|.o [(0,0)]))
 (.st .normal (fun au=>⟨[(0,.own 0),(1,qi a1),(2,qi a2),(3,.im (qf 161)),(8,qi ac),(9,qi af),(34,bV au)],[q4 0 ae],1⟩) fun au=>.cd (fun av=>.bl<|.el fun aw ax ay=>.el fun az a8 a9=>.el fun ba bb bc=>.rg [(8,hX Z4 ax ay),(9,hL Z4 ay),(12,hX Z4 a8 a9),(13,hL Z4 a9),(14,hX Z4 a8 a9),(15,hS Z4 aw 0 [iI .i64 aw.f0,iI .u64 aw.f1] a9),(16,hX Z4 bb bc),(17,hS Z4 az 0 [iI .i64 az.f0,iI .u64 az.f1] bc)]<|.r0<|.bk [(0,0)] rfl)
 (fun av=>.o [(0,0)])))
 (.st (.exit 2) (fun be=>⟨[(0,.own 0),(1,qi a1),(2,qi a2),(3,.im (qf 161)),(8,qi ac)],[q4 0 be],1⟩) fun be=>.r0<|.bk [(0,0)] rfl))
 (fun ad=>.o [(0,0)]))
 (.st (.exit 0) (fun bf=>⟨[],[q4 0 bf],1⟩) fun bf=>.ret [(0,0)] [] [] ⟨[],[q4 0 bf],1⟩))
def Zi.l0 (a1:Int) (a2:Int) (a3:Int) (aa:List Z6) (ac:Int):Option (List Z6):=if(decide (ac<a3))=true then((at? aa (i64.wrap (a2+ac)))>>=fun ad=>(at? aa (i64.wrap (a1+ac)))>>=fun ae=>(at? (aa.set (Int.toNat (i64.wrap (a1+ac))) ad) (i64.wrap (a2+ac)))>>=fun af=>Zi.l0 a1 a2 a3 ((aa.set (Int.toNat (i64.wrap (a1+ac))) ad).set (Int.toNat (i64.wrap (a2+ac))) ae) (i64.wrap (ac+1))) else(some aa)
partial_fixpoint
def Zi.f (a0:List Z6) (a1:Int) (a2:Int) (a3:Int):Option (List Z6):=(Zi.l0 a1 a2 a3 a0 0)>>=fun aa=>some aa
theorem Zi.ok (a0:List Z6) (a1:Int) (a2:Int) (a3:Int):FN 186 [.own 0,qi a1,qi a2,qi a3,.im (qf 161)] [q4 0 a0] 1 (Zi.f a0 a1 a2 a3) (fun r=>.tup []) (fun r=>[q4 0 r]):=FT [0] func186 (.r0<|.bl<|.loop (.c2 (Zi.l0.partial_correctness a1 a2 a3)) (a0,0) [(0,0)] [] [] (fun _=>.pr fun aa=>.one (fun ac=>⟨[(0,.own 0),(1,qi a1),(2,qi a2),(3,qi a3),(10,qi ac)],[q4 0 aa],1⟩) fun ac=>.r0<|.cd (fun ad=>.bl<|.el fun ae af ah=>.el fun ai aj ak=>.el fun al am an=>.rg [(12,hX Z4 af ah),(13,hL Z4 ah),(18,hX Z4 aj ak),(19,hL Z4 ak),(20,hX Z4 aj ak),(21,hS Z4 ae 0 [iI .i64 ae.f0,iI .u64 ae.f1] ak),(22,hX Z4 am an),(23,hS Z4 ai 0 [iI .i64 ai.f0,iI .u64 ai.f1] an)]<|.r0<|.bk [(0,0)] rfl)
 (fun ad=>.o [(0,0)]))
 (.st (.exit 0) (fun aq=>⟨[],[q4 0 aq],1⟩) fun aq=>.ret [(0,0)] [] [] ⟨[],[q4 0 aq],1⟩))
def Zz.l0 (a2:Int) (aa:List Z6) (ac:Int) (ad:Int):Option ((List Z6)×Int):=if(ac != ad)=true then(((if(decide (ac>ad))=true then((Zi.f aa (i64.wrap (a2-ac)) a2 ad)>>=fun ae=>some (ae,i64.wrap (ac-ad),ad)) else((Zi.f aa (i64.wrap (a2-ac)) (i64.wrap ((i64.wrap (a2+ad))-ac)) ac)>>=fun af=>some (af,ac,i64.wrap (ad-ac)))):Option ((List Z6)×Int×Int))>>=fun oo=>match oo with | (ah,ai,aj)=>(Zz.l0 a2 ah ai aj)) else(some (aa,ac))
partial_fixpoint
def Zz.f (a0:List Z6) (a1:Int) (a2:Int) (a3:Int):Option (List Z6):=(Zz.l0 a2 a0 (i64.wrap (a2-a1)) (i64.wrap (a3-a2)))>>=fun oo=>match oo with | (aa,ac)=>((Zi.f aa (i64.wrap (a2-ac)) a2 ac)>>=fun ad=>some ad)
theorem Zz.ok (a0:List Z6) (a1:Int) (a2:Int) (a3:Int):FN 185 [.own 0,qi a1,qi a2,qi a3,.im (qf 161)] [q4 0 a0] 1 (Zz.f a0 a1 a2 a3) (fun r=>.tup []) (fun r=>[q4 0 r]):=FT [0] func185 (.r0<|.r0<|.bl<|.loop (.c3 (Zz.l0.partial_correctness a2)) (a0,i64.wrap (a2-a1),i64.wrap (a3-a2)) [(0,0)] [] [] (fun _=>.pr fun aa=>.pr fun ac=>.one (fun ad=>⟨[(0,.own 0),(2,qi a2),(4,.im (qf 161)),(10,qi ac),(11,qi ad)],[q4 0 aa],1⟩) fun ad=>.r0<|.cd (fun ae=>.bl<|.r0<|.join (.cd (fun af=>.bd fun ah ai=>.rg [(7,hC [(0,0)] [(0,0)] [] [] call186 (Zi.ok aa (i64.wrap (a2-ac)) a2 ad ah ai))]<|.r0<|.o [(0,0)])
 (fun af=>.bd fun aj ak=>.rg [(11,hC [(0,0)] [(0,0)] [] [] call186 (Zi.ok aa (i64.wrap (a2-ac)) (i64.wrap ((i64.wrap (a2+ad))-ac)) ac aj ak))]<|.r0<|.o [(0,0)]))
 (.pr fun al=>.pr fun am=>.st .normal (fun an=>⟨[(0,.own 0),(2,qi a2),(4,.im (qf 161)),(10,qi am),(11,qi an)],[q4 0 al],1⟩) fun an=>.bk [(0,0)] rfl))
 (fun ae=>.o [(0,0)]))
 (.pr fun aq=>.st (.exit 0) (fun ar=>⟨[(0,.own 0),(2,qi a2),(4,.im (qf 161)),(10,qi ar)],[q4 0 aq],1⟩) fun ar=>.bd fun au av=>.rg [(7,hC [(0,0)] [(0,0)] [] [] call186 (Zi.ok aq (i64.wrap (a2-ar)) a2 ar au av))]<|.ret [(0,0)] [] [] ⟨[],[q4 0 au],1⟩))
def Z1.l0 (a0:List Z6) (a1:Int) (aa:Int) (ac:Int):Option Int:=if(decide (aa<ac))=true then((at? a0 (i64.wrap (Int.fdiv (u64.wrap (i64.wrap (aa+ac))) 2)))>>=fun ad=>(at? a0 a1)>>=fun ae=>(Z22.f ad ae)>>=fun af=>((if(decide (af<0))=true then(some (i64.wrap ((i64.wrap (Int.fdiv (u64.wrap (i64.wrap (aa+ac))) 2))+1),ac)) else(some (aa,i64.wrap (Int.fdiv (u64.wrap (i64.wrap (aa+ac))) 2)))):Option (Int×Int))>>=fun oo=>match oo with | (ah,ai)=>(Z1.l0 a0 a1 ah ai)) else(some aa)
partial_fixpoint
def Z1.l1 (aa:Int) (ac:List Z6) (ad:Int):Option (List Z6):=if(decide (ad<(i64.wrap (aa-1))))=true then((at? ac (i64.wrap (ad+1)))>>=fun ae=>(at? ac ad)>>=fun af=>(at? (ac.set (Int.toNat (ad)) ae) (i64.wrap (ad+1)))>>=fun ah=>Z1.l1 aa ((ac.set (Int.toNat (ad)) ae).set (Int.toNat (i64.wrap (ad+1))) af) (i64.wrap (ad+1))) else(some ac)
partial_fixpoint
def Z1.l2 (a0:List Z6) (a2:Int) (aa:Int) (ac:Int):Option Int:=if(decide (aa<ac))=true then((at? a0 a2)>>=fun ad=>(at? a0 (i64.wrap (Int.fdiv (u64.wrap (i64.wrap (aa+ac))) 2)))>>=fun ae=>(Z22.f ad ae)>>=fun af=>((if(!(decide (af<0)))=true then(some (i64.wrap ((i64.wrap (Int.fdiv (u64.wrap (i64.wrap (aa+ac))) 2))+1),ac)) else(some (aa,i64.wrap (Int.fdiv (u64.wrap (i64.wrap (aa+ac))) 2)))):Option (Int×Int))>>=fun oo=>match oo with | (ah,ai)=>(Z1.l2 a0 a2 ah ai)) else(some aa)
partial_fixpoint
def Z1.l3 (aa:Int) (ac:List Z6) (ad:Int):Option (List Z6):=if(decide (ad>aa))=true then((at? ac (i64.wrap (ad-1)))>>=fun ae=>(at? ac ad)>>=fun af=>(at? (ac.set (Int.toNat (ad)) ae) (i64.wrap (ad-1)))>>=fun ah=>Z1.l3 aa ((ac.set (Int.toNat (ad)) ae).set (Int.toNat (i64.wrap (ad-1))) af) (i64.wrap (ad-1))) else(some ac)
partial_fixpoint
def Z1.l4 (a0:List Z6) (a1:Int) (a2:Int) (a3:Int) (aa:Int) (ac:Int):Option Int:=if(decide (aa<ac))=true then((at? a0 (i64.wrap ((i64.wrap ((i64.wrap ((i64.wrap (Int.fdiv (u64.wrap (i64.wrap (a1+a3))) 2))+a2))-1))-(i64.wrap (Int.fdiv (u64.wrap (i64.wrap (aa+ac))) 2)))))>>=fun ad=>(at? a0 (i64.wrap (Int.fdiv (u64.wrap (i64.wrap (aa+ac))) 2)))>>=fun ae=>(Z22.f ad ae)>>=fun af=>((if(!(decide (af<0)))=true then(some (i64.wrap ((i64.wrap (Int.fdiv (u64.wrap (i64.wrap (aa+ac))) 2))+1),ac)) else(some (aa,i64.wrap (Int.fdiv (u64.wrap (i64.wrap (aa+ac))) 2)))):Option (Int×Int))>>=fun oo=>match oo with | (ah,ai)=>(Z1.l4 a0 a1 a2 a3 ah ai)) else(some aa)
partial_fixpoint
def Z1.f (a0:List Z6) (a1:Int) (a2:Int) (a3:Int):Option (List Z6):=if((i64.wrap (a2-a1))==1)=true then((Z1.l0 a0 a1 a2 a3)>>=fun aa=>(Z1.l1 aa a0 a1)>>=fun ac=>some ac) else(if((i64.wrap (a3-a2))==1)=true then((Z1.l2 a0 a2 a1 a2)>>=fun ad=>(Z1.l3 ad a0 a2)>>=fun ae=>some ae) else(((if(decide (a2>(i64.wrap (Int.fdiv (u64.wrap (i64.wrap (a1+a3))) 2))))=true then(some (i64.wrap ((i64.wrap ((i64.wrap (Int.fdiv (u64.wrap (i64.wrap (a1+a3))) 2))+a2))-a3),i64.wrap (Int.fdiv (u64.wrap (i64.wrap (a1+a3))) 2))) else(some (a1,a2))):Option (Int×Int))>>=fun oo=>match oo with | (af,ah)=>((Z1.l4 a0 a1 a2 a3 af ah)>>=fun ai=>((if(decide (ai<a2))=true then(some (decide (a2<(i64.wrap ((i64.wrap ((i64.wrap (Int.fdiv (u64.wrap (i64.wrap (a1+a3))) 2))+a2))-ai))))) else(some false)):Option Bool)>>=fun aj=>((if aj=true then((Zz.f a0 ai a2 (i64.wrap ((i64.wrap ((i64.wrap (Int.fdiv (u64.wrap (i64.wrap (a1+a3))) 2))+a2))-ai)))>>=fun ak=>some ak) else(some a0)):Option (List Z6))>>=fun al=>((if(decide (a1<ai))=true then(some (decide (ai<(i64.wrap (Int.fdiv (u64.wrap (i64.wrap (a1+a3))) 2))))) else(some false)):Option Bool)>>=fun am=>((if am=true then((Z1.f al a1 ai (i64.wrap (Int.fdiv (u64.wrap (i64.wrap (a1+a3))) 2)))>>=fun an=>some an) else(some al)):Option (List Z6))>>=fun aq=>((if(decide ((i64.wrap (Int.fdiv (u64.wrap (i64.wrap (a1+a3))) 2))<(i64.wrap ((i64.wrap ((i64.wrap (Int.fdiv (u64.wrap (i64.wrap (a1+a3))) 2))+a2))-ai))))=true then(some (decide ((i64.wrap ((i64.wrap ((i64.wrap (Int.fdiv (u64.wrap (i64.wrap (a1+a3))) 2))+a2))-ai))<a3))) else(some false)):Option Bool)>>=fun ar=>((if ar=true then((Z1.f aq (i64.wrap (Int.fdiv (u64.wrap (i64.wrap (a1+a3))) 2)) (i64.wrap ((i64.wrap ((i64.wrap (Int.fdiv (u64.wrap (i64.wrap (a1+a3))) 2))+a2))-ai)) a3)>>=fun au=>some au) else(some aq)):Option (List Z6))>>=fun av=>some av)))
partial_fixpoint
theorem Z1.ok (a0:List Z6) (a1:Int) (a2:Int) (a3:Int) (r:List Z6) (H:Z1.f a0 a1 a2 a3=some r):Pv.Fn Tryz.prog 181 [.own 0,qi a1,qi a2,qi a3,.im (qf 161)] [q4 0 a0] 1 (fun x o=>x = .tup []∧o=[q4 0 r]):=by
 refine Z1.f.partial_correctness (motive:=fun a0 a1 a2 a3 r=>Pv.Fn Tryz.prog 181 [.own 0,qi a1,qi a2,qi a3,.im (qf 161)] [q4 0 a0] 1 (fun x o=>x = .tup []∧o=[q4 0 r])) ?_ a0 a1 a2 a3 r H;clear H a0 a1 a2 a3 r;intro self ihF a0 a1 a2 a3 r H;exact HT.fn H (fun r=>.tup []) (fun r=>[q4 0 r]) [0] func181 rfl rfl hmx (.r0<|.cd (fun aa=>.r0<|.r0<|.bl<|.loop (.c2 (Z1.l0.partial_correctness a0 a1)) (a2,a3) [(0,0)] [] [] (fun _=>.pr fun ac=>.one (fun ad=>⟨[(0,.own 0),(1,qi a1),(4,.im (qf 161)),(10,qi ac),(11,qi ad)],[q4 0 a0],1⟩) fun ad=>.r0<|.cd (fun ae=>.bl<|.rg [(4,hK 1)]<|.el fun af ah ai=>.el fun aj ak al=>.bd fun am an=>.rg [(3,hX Z4 ah ai),(4,hL Z4 ai),(7,hX Z4 ak al),(8,hL Z4 al),(9,qh call161 (Z22.ok af aj am an))]<|.join (.cd (fun aq=>.r0<|.o [(0,0)])
 (fun aq=>.r0<|.o [(0,0)]))
 (.pr fun ar=>.st .normal (fun au=>⟨[(0,.own 0),(1,qi a1),(4,.im (qf 161)),(10,qi ar),(11,qi au)],[q4 0 a0],1⟩) fun au=>.bk [(0,0)] rfl))
 (fun ae=>.o [(0,0)]))
 (.st (.exit 0) (fun av=>⟨[(0,.own 0),(1,qi a1),(10,qi av)],[q4 0 a0],1⟩) fun av=>.r0<|.bl<|.loop (.c2 (Z1.l1.partial_correctness av)) (a0,a1) [(0,0)] [] [] (fun _=>.pr fun aw=>.one (fun ax=>⟨[(0,.own 0),(10,qi av),(13,qi ax)],[q4 0 aw],1⟩) fun ax=>.r0<|.cd (fun ay=>.bl<|.el fun az a8 a9=>.el fun ba bb bc=>.el fun be bf bg=>.rg [(8,hX Z4 a8 a9),(9,hL Z4 a9),(12,hX Z4 bb bc),(13,hL Z4 bc),(14,hX Z4 bb bc),(15,hS Z4 az 0 [iI .i64 az.f0,iI .u64 az.f1] bc),(16,hX Z4 bf bg),(17,hS Z4 ba 0 [iI .i64 ba.f0,iI .u64 ba.f1] bg)]<|.r0<|.bk [(0,0)] rfl)
 (fun ay=>.o [(0,0)]))
 (.st (.exit 2) (fun bh=>⟨[],[q4 0 bh],1⟩) fun bh=>.ret [(0,0)] [] [] ⟨[],[q4 0 bh],1⟩)))
 (fun aa=>.r0<|.cd (fun bi=>.r0<|.r0<|.bl<|.loop (.c2 (Z1.l2.partial_correctness a0 a2)) (a1,a2) [(0,0)] [] [] (fun _=>.pr fun bj=>.one (fun bn=>⟨[(0,.own 0),(2,qi a2),(4,.im (qf 161)),(14,qi bj),(15,qi bn)],[q4 0 a0],1⟩) fun bn=>.r0<|.cd (fun bo=>.bl<|.rg [(4,hK 1)]<|.el fun bp bq br=>.el fun bu bv bw=>.bd fun bx bz=>.rg [(3,hX Z4 bq br),(4,hL Z4 br),(7,hX Z4 bv bw),(8,hL Z4 bw),(9,qh call161 (Z22.ok bp bu bx bz))]<|.join (.cd (fun ca=>.r0<|.o [(0,0)])
 (fun ca=>.r0<|.o [(0,0)]))
 (.pr fun cc=>.st .normal (fun ce=>⟨[(0,.own 0),(2,qi a2),(4,.im (qf 161)),(14,qi cc),(15,qi ce)],[q4 0 a0],1⟩) fun ce=>.bk [(0,0)] rfl))
 (fun bo=>.o [(0,0)]))
 (.st (.exit 4) (fun cf=>⟨[(0,.own 0),(2,qi a2),(14,qi cf)],[q4 0 a0],1⟩) fun cf=>.r0<|.bl<|.loop (.c2 (Z1.l3.partial_correctness cf)) (a0,a2) [(0,0)] [] [] (fun _=>.pr fun cj=>.one (fun cm=>⟨[(0,.own 0),(14,qi cf),(17,qi cm)],[q4 0 cj],1⟩) fun cm=>.r0<|.cd (fun cn=>.bl<|.el fun co cp cq=>.el fun cr ct cu=>.el fun cw cx cy=>.rg [(8,hX Z4 cp cq),(9,hL Z4 cq),(12,hX Z4 ct cu),(13,hL Z4 cu),(14,hX Z4 ct cu),(15,hS Z4 co 0 [iI .i64 co.f0,iI .u64 co.f1] cu),(16,hX Z4 cx cy),(17,hS Z4 cr 0 [iI .i64 cr.f0,iI .u64 cr.f1] cy)]<|.r0<|.bk [(0,0)] rfl)
 (fun cn=>.o [(0,0)]))
 (.st (.exit 6) (fun cz=>⟨[],[q4 0 cz],1⟩) fun cz=>.ret [(0,0)] [] [] ⟨[],[q4 0 cz],1⟩)))
 (fun bi=>.rg [(4,hK 1)]<|.r0<|.r0<|.r0<|.join (.cd (fun c8=>.r0<|.r0<|.o [(0,0)])
 (fun c8=>.r0<|.r0<|.o [(0,0)]))
 (.pr fun c9=>.st .normal (fun da=>⟨[(0,.own 0),(1,qi a1),(2,qi a2),(3,qi a3),(4,.im (qf 161)),(18,qi (i64.wrap (Int.fdiv (u64.wrap (i64.wrap (a1+a3))) 2))),(19,qi (i64.wrap ((i64.wrap (Int.fdiv (u64.wrap (i64.wrap (a1+a3))) 2))+a2))),(20,qi c9),(21,qi da)],[q4 0 a0],1⟩) fun da=>.r0<|.bl<|.loop (.c2 (Z1.l4.partial_correctness a0 a1 a2 a3)) (c9,da) [(0,0)] [] [] (fun _=>.pr fun db=>.one (fun de=>⟨[(0,.own 0),(1,qi a1),(2,qi a2),(3,qi a3),(4,.im (qf 161)),(18,qi (i64.wrap (Int.fdiv (u64.wrap (i64.wrap (a1+a3))) 2))),(19,qi (i64.wrap ((i64.wrap (Int.fdiv (u64.wrap (i64.wrap (a1+a3))) 2))+a2))),(20,qi db),(21,qi de),(22,qi (i64.wrap ((i64.wrap ((i64.wrap (Int.fdiv (u64.wrap (i64.wrap (a1+a3))) 2))+a2))-1)))],[q4 0 a0],1⟩) fun de=>.r0<|.cd (fun df=>.bl<|.rg [(4,hK 1)]<|.el fun dg dh di=>.el fun dj dk dl=>.bd fun dm dn=>.rg [(5,hX Z4 dh di),(6,hL Z4 di),(9,hX Z4 dk dl),(10,hL Z4 dl),(11,qh call161 (Z22.ok dg dj dm dn))]<|.join (.cd (fun dp=>.r0<|.o [(0,0)])
 (fun dp=>.r0<|.o [(0,0)]))
 (.pr fun dq=>.st .normal (fun dr=>⟨[(0,.own 0),(1,qi a1),(2,qi a2),(3,qi a3),(4,.im (qf 161)),(18,qi (i64.wrap (Int.fdiv (u64.wrap (i64.wrap (a1+a3))) 2))),(19,qi (i64.wrap ((i64.wrap (Int.fdiv (u64.wrap (i64.wrap (a1+a3))) 2))+a2))),(20,qi dq),(21,qi dr),(22,qi (i64.wrap ((i64.wrap ((i64.wrap (Int.fdiv (u64.wrap (i64.wrap (a1+a3))) 2))+a2))-1)))],[q4 0 a0],1⟩) fun dr=>.bk [(0,0)] rfl))
 (fun df=>.o [(0,0)]))
 (.st (.exit 8) (fun dt=>⟨[(0,.own 0),(1,qi a1),(2,qi a2),(3,qi a3),(4,.im (qf 161)),(18,qi (i64.wrap (Int.fdiv (u64.wrap (i64.wrap (a1+a3))) 2))),(19,qi (i64.wrap ((i64.wrap (Int.fdiv (u64.wrap (i64.wrap (a1+a3))) 2))+a2))),(20,qi dt)],[q4 0 a0],1⟩) fun dt=>.r0<|.join (.sp (fun du=>.rg [(3,hB du)]<|.o [(0,0)])
 (fun du=>.rg [(3,hB du)]<|.o [(0,0)]))
 (.st .normal (fun dv=>⟨[(0,.own 0),(1,qi a1),(2,qi a2),(3,qi a3),(4,.im (qf 161)),(18,qi (i64.wrap (Int.fdiv (u64.wrap (i64.wrap (a1+a3))) 2))),(20,qi dt),(24,qi (i64.wrap ((i64.wrap ((i64.wrap (Int.fdiv (u64.wrap (i64.wrap (a1+a3))) 2))+a2))-dt))),(185,bV dv)],[q4 0 a0],1⟩) fun dv=>.join (.cd (fun dw=>.bd fun dx dy=>.rg [(5,hC [(0,0)] [(0,0)] [] [] call185 (Zz.ok a0 dt a2 (i64.wrap ((i64.wrap ((i64.wrap (Int.fdiv (u64.wrap (i64.wrap (a1+a3))) 2))+a2))-dt)) dx dy))]<|.o [(0,0)])
 (fun dw=>.o [(0,0)]))
 (.st .normal (fun dz=>⟨[(0,.own 0),(1,qi a1),(3,qi a3),(4,.im (qf 161)),(18,qi (i64.wrap (Int.fdiv (u64.wrap (i64.wrap (a1+a3))) 2))),(20,qi dt),(24,qi (i64.wrap ((i64.wrap ((i64.wrap (Int.fdiv (u64.wrap (i64.wrap (a1+a3))) 2))+a2))-dt)))],[q4 0 dz],1⟩) fun dz=>.join (.sp (fun d5=>.rg [(3,hB d5)]<|.o [(0,0)])
 (fun d5=>.rg [(3,hB d5)]<|.o [(0,0)]))
 (.st .normal (fun d6=>⟨[(0,.own 0),(1,qi a1),(3,qi a3),(4,.im (qf 161)),(18,qi (i64.wrap (Int.fdiv (u64.wrap (i64.wrap (a1+a3))) 2))),(20,qi dt),(24,qi (i64.wrap ((i64.wrap ((i64.wrap (Int.fdiv (u64.wrap (i64.wrap (a1+a3))) 2))+a2))-dt))),(199,bV d6)],[q4 0 dz],1⟩) fun d6=>.join (.cd (fun d7=>.bd fun d8 d9=>.rg [(5,hC [(0,0)] [(0,0)] [] [] call181 (ihF dz a1 dt (i64.wrap (Int.fdiv (u64.wrap (i64.wrap (a1+a3))) 2)) _ d9))]<|.o [(0,0)])
 (fun d7=>.o [(0,0)]))
 (.st .normal (fun ea=>⟨[(0,.own 0),(3,qi a3),(4,.im (qf 161)),(18,qi (i64.wrap (Int.fdiv (u64.wrap (i64.wrap (a1+a3))) 2))),(24,qi (i64.wrap ((i64.wrap ((i64.wrap (Int.fdiv (u64.wrap (i64.wrap (a1+a3))) 2))+a2))-dt)))],[q4 0 ea],1⟩) fun ea=>.join (.sp (fun ed=>.rg [(3,hB ed)]<|.o [(0,0)])
 (fun ed=>.rg [(3,hB ed)]<|.o [(0,0)]))
 (.st .normal (fun ef=>⟨[(0,.own 0),(3,qi a3),(4,.im (qf 161)),(18,qi (i64.wrap (Int.fdiv (u64.wrap (i64.wrap (a1+a3))) 2))),(24,qi (i64.wrap ((i64.wrap ((i64.wrap (Int.fdiv (u64.wrap (i64.wrap (a1+a3))) 2))+a2))-dt))),(213,bV ef)],[q4 0 ea],1⟩) fun ef=>.join (.cd (fun eg=>.bd fun eh ei=>.rg [(5,hC [(0,0)] [(0,0)] [] [] call181 (ihF ea (i64.wrap (Int.fdiv (u64.wrap (i64.wrap (a1+a3))) 2)) (i64.wrap ((i64.wrap ((i64.wrap (Int.fdiv (u64.wrap (i64.wrap (a1+a3))) 2))+a2))-dt)) a3 _ ei))]<|.o [(0,0)])
 (fun eg=>.o [(0,0)]))
 (.st .normal (fun ej=>⟨[],[q4 0 ej],1⟩) fun ej=>.ret [(0,0)] [] [] ⟨[],[q4 0 ej],1⟩)))))))))))
def Zf.l0 (a1:Int) (aa:List Z6) (ac:Int) (ad:Int):Option ((List Z6)×Int):=if(decide (ad≤a1))=true then((Zc.f aa ac ad)>>=fun ae=>Zf.l0 a1 ae ad (i64.wrap (ad+20))) else(some (aa,ac))
partial_fixpoint
def Zf.l2 (a1:Int) (aa:Int) (ac:List Z6) (ad:Int) (ae:Int):Option ((List Z6)×Int):=if(decide (ae≤a1))=true then((Z1.f ac ad (i64.wrap (ad+aa)) ae)>>=fun af=>Zf.l2 a1 aa af ae (i64.wrap (ae+(i64.wrap ((2:Int)*aa))))) else(some (ac,ad))
partial_fixpoint
def Zf.l1 (a1:Int) (aa:List Z6) (ac:Int):Option (List Z6):=if(decide (ac<a1))=true then((Zf.l2 a1 ac aa 0 (i64.wrap ((2:Int)*ac)))>>=fun oo=>match oo with | (ad,ae)=>(((if(decide ((i64.wrap (ae+ac))<a1))=true then((Z1.f ad ae (i64.wrap (ae+ac)) a1)>>=fun af=>some af) else(some ad)):Option (List Z6))>>=fun ah=>Zf.l1 a1 ah (i64.wrap (ac*2)))) else(some aa)
partial_fixpoint
def Zf.f (a0:List Z6) (a1:Int):Option (List Z6):=(Zf.l0 a1 a0 0 20)>>=fun oo=>match oo with | (aa,ac)=>((Zc.f aa ac a1)>>=fun ad=>(Zf.l1 a1 ad 20)>>=fun ae=>some ae)
theorem Zf.ok (a0:List Z6) (a1:Int):FN 174 [.own 0,qi a1,.im (qf 161)] [q4 0 a0] 1 (Zf.f a0 a1) (fun r=>.tup []) (fun r=>[q4 0 r]):=FT [0] func174 (.r0<|.r0<|.bl<|.loop (.c3 (Zf.l0.partial_correctness a1)) (a0,0,20) [(0,0)] [] [] (fun _=>.pr fun aa=>.pr fun ac=>.one (fun ad=>⟨[(0,.own 0),(1,qi a1),(2,.im (qf 161)),(6,qi 20),(7,qi ac),(8,qi ad)],[q4 0 aa],1⟩) fun ad=>.r0<|.cd (fun ae=>.bl<|.bd fun af ah=>.rg [(4,hC [(0,0)] [(0,0)] [] [] call180 (Zc.ok aa ac ad af ah))]<|.r0<|.r0<|.bk [(0,0)] rfl)
 (fun ae=>.o [(0,0)]))
 (.pr fun ai=>.st (.exit 0) (fun aj=>⟨[(0,.own 0),(1,qi a1),(2,.im (qf 161)),(6,qi 20),(7,qi aj)],[q4 0 ai],1⟩) fun aj=>.bd fun ak al=>.rg [(4,hC [(0,0)] [(0,0)] [] [] call180 (Zc.ok ai aj a1 ak al))]<|.bl<|.loop (.c2 (Zf.l1.partial_correctness a1)) (ak,20) [(0,0)] [] [] (fun _=>.pr fun am=>.one (fun an=>⟨[(0,.own 0),(1,qi a1),(2,.im (qf 161)),(6,qi an)],[q4 0 am],1⟩) fun an=>.r0<|.cd (fun aq=>.bl<|.r0<|.bl<|.loop (.c3 (Zf.l2.partial_correctness a1 an)) (am,0,i64.wrap ((2:Int)*an)) [(0,0)] [] [] (fun _=>.pr fun ar=>.pr fun au=>.one (fun av=>⟨[(0,.own 0),(1,qi a1),(2,.im (qf 161)),(6,qi an),(7,qi au),(8,qi av)],[q4 0 ar],1⟩) fun av=>.r0<|.cd (fun aw=>.bl<|.bd fun ax ay=>.rg [(7,hC [(0,0)] [(0,0)] [] [] call181 (Z1.ok ar au (i64.wrap (au+an)) av ax ay))]<|.r0<|.r0<|.bk [(0,0)] rfl)
 (fun aw=>.o [(0,0)]))
 (.pr fun az=>.st (.exit 4) (fun a8=>⟨[(0,.own 0),(1,qi a1),(2,.im (qf 161)),(6,qi an),(7,qi a8)],[q4 0 az],1⟩) fun a8=>.r0<|.r0<|.join (.cd (fun a9=>.bd fun ba bb=>.rg [(5,hC [(0,0)] [(0,0)] [] [] call181 (Z1.ok az a8 (i64.wrap (a8+an)) a1 ba bb))]<|.o [(0,0)])
 (fun a9=>.o [(0,0)]))
 (.st .normal (fun bc=>⟨[(0,.own 0),(1,qi a1),(2,.im (qf 161)),(6,qi an)],[q4 0 bc],1⟩) fun bc=>.r0<|.bk [(0,0)] rfl)))
 (fun aq=>.o [(0,0)]))
 (.st (.exit 2) (fun be=>⟨[],[q4 0 be],1⟩) fun be=>.ret [(0,0)] [] [] ⟨[],[q4 0 be],1⟩)))
def Z0t.f (a0:List Z6):Option (List Z6):=(Zf.f a0 (a0.length:Int))>>=fun aa=>some aa
theorem Z0t.ok (a0:List Z6):FN 160 [.own 0,.im (qf 161)] [q4 0 a0] 1 (Z0t.f a0) (fun r=>.tup []) (fun r=>[q4 0 r]):=FT [0] func160 (.bd fun aa ac=>.rg [(2,hG Z4 a0),(4,hC [(0,0)] [(0,0)] [] [] call174 (Zf.ok a0 (a0.length:Int) aa ac))]<|.ret [(0,0)] [] [] ⟨[],[q4 0 aa],1⟩)
def Z2v.l0 (aa:List Z6) (ac:List Z6) (ad:Int):Option (((List Z6)×Int) ⊕ (List Z6)):=if(decide (ad<(aa.length:Int)))=true then((at? aa ad)>>=fun ae=>((if(ae.f1==0)=true then(some (.inr ac)) else(((if(decide ((ac.length:Int)>0))=true then((at? ac (i64.wrap ((ac.length:Int)-1)))>>=fun af=>some (af.f0==ae.f0)) else(some false)):Option Bool)>>=fun ah=>((if ah=true then((at? ac (i64.wrap ((ac.length:Int)-1)))>>=fun ai=>(Z29.f [ai.f1,ae.f1])>>=fun aj=>if(aj.2 != 0)=true then(some (.inl ([],aj.2))) else(some (.inr (ac.set (Int.toNat (i64.wrap ((ac.length:Int)-1))) (⟨ai.f0,aj.1⟩:Z6))))) else((chk ((ac.length+[ae].length)*16≤140737488355328))>>=fun _=>some (.inr (ac++[ae])))):Option (((List Z6)×Int) ⊕ (List Z6)))>>=fun oo=>match oo with | .inl rr=>(some (.inl rr)) | .inr ak=>(some (.inr ak)))):Option (((List Z6)×Int) ⊕ (List Z6)))>>=fun oo=>match oo with | .inl rr=>(some (.inl rr)) | .inr al=>(Z2v.l0 aa al (i64.wrap (ad+1)))) else(some (.inr ac))
partial_fixpoint
def Z2v.f (a0:List Z6):Option ((List Z6)×Int):=(Z0p.f a0)>>=fun aa=>(Z0t.f aa)>>=fun ac=>(Z2v.l0 ac [] 0)>>=fun oo=>match oo with | .inl rr=>(some rr) | .inr ad=>(some (ad,0))
theorem Z2v.ok (a0:List Z6):FN 137 [.im (.row (a0.map Z4))] [] 0 (Z2v.f a0) (fun r=>.tup [.own 0,qi r.2]) (fun r=>[q4 0 r.1]):=FT [0] func137 (.r0<|.r0<|.bd fun aa ac=>.rg [(1,hC [] [(0,0)] [] [0] call64 (Z0p.ok a0 aa ac))]<|.bd fun ad ae=>.rg [(1,hC [(0,0)] [(0,0)] [] [] call160 (Z0t.ok aa ad ae))]<|.rg [(1,hG Z4 ad)]<|.bl<|.loop (.c2 (Z2v.l0.partial_correctness ad)) ([],0) [(0,7)] [] [6] (fun _=>.pr fun af=>.one (fun ah=>⟨[(4,.own 6),(14,.own 7),(15,qi (ad.length:Int)),(16,qi ah)],[q4 6 af,q4 7 ad],0⟩) fun ah=>.r0<|.cd (fun ai=>.bl<|.el fun aj ak al=>.rg [(0,hX Z4 ak al),(1,hL Z4 al),(2,⟨.k 8,.n⟩)]<|.rg [(1,hG Z4 af)]<|.bl<|.r0<|.join (.cd (fun am=>.o [(6,17),(7,18)])
 (fun am=>.join (.sp (fun an=>.el fun aq ar au=>.rg [(2,hB an),(6,hX Z4 ar au),(8,hL Z4 au)]<|.o [(6,9),(8,10),(7,11)])
 (fun an=>.rg [(2,hB an)]<|.o [(6,9),(8,10),(7,11)]))
 (.st .normal (fun av=>⟨[(4,.own 9),(6,.ptr 10 0 0),(7,qi (af.length:Int)),(14,.own 11),(15,qi (ad.length:Int)),(16,qi ah),(30,bV av)],[q4 9 af,(10,some (.box 132 (Z54 aj))),q4 11 ad],0⟩) fun av=>.join (.cd (fun aw=>.el fun ax ay az=>.bd fun a8 a9=>.rg [(3,hX Z4 ay az),(5,hL Z4 az),(8,hQ 12 qv ([ax.f1,aj.f1]:List Int)),(9,hC [] [] [12] [] call98 (Z29.ok [ax.f1,aj.f1] a8 a9))]<|.r0<|.cd (fun ba=>.r0<|.ret [] [] [0] ⟨[(2,.own 0),(3,qi a8.2)],[q4 0 []],0⟩)
 (fun ba=>.rg [(4,hX Z4 ay az),(6,hS Z4 (⟨ax.f0,a8.1⟩:Z6) 1 [iI .u64 a8.1] az)]<|.o [(9,15),(11,16)]))
 (fun aw=>.ck fun bb=>.rg [(2,hQ 13 Z4 ([aj]:List Z6)),(3,hP 14 Z4 2 bb)]<|.o [(14,15),(11,16)]))
 (.sm (.rt (fun rr=>.tup [.own 0,qi rr.2]) (fun rr=>[q4 0 rr.1]))
 (.st .normal (fun bc=>⟨[(4,.own 15),(14,.own 16),(15,qi (ad.length:Int)),(16,qi ah)],[q4 15 bc,q4 16 ad],0⟩) fun bc=>.o [(15,17),(16,18)])))))
 (.sm (.rt (fun rr=>.tup [.own 0,qi rr.2]) (fun rr=>[q4 0 rr.1]))
 (.st .normal (fun be=>⟨[(4,.own 17),(14,.own 18),(15,qi (ad.length:Int)),(16,qi ah)],[q4 17 be,q4 18 ad],0⟩) fun be=>.r0<|.bk [(17,6),(18,7)] rfl)))
 (fun ai=>.o [(6,19)]))
 (.sm (.rt (fun rr=>.tup [.own 0,qi rr.2]) (fun rr=>[q4 0 rr.1]))
 (.st (.exit 0) (fun bf=>⟨[(4,.own 19)],[q4 19 bf],0⟩) fun bf=>.r0<|.ret [(19,0)] [] [] ⟨[(2,.own 0),(3,qi 0)],[q4 0 bf],0⟩)))
def Z1f.l1 (a0:List (List Z6)) (aa:List Z6) (ac:Int) (ad:Int) (ae:Int):Option ((Int×Int) ⊕ Int):=if(decide (ae<(aa.length:Int)))=true then((at? aa ae)>>=fun af=>(Z29.f [ad,af.f1])>>=fun ah=>if(ah.2 != 0)=true then(some (.inl (0,ah.2))) else(Z1f.l1 a0 aa ac ah.1 (i64.wrap (ae+1)))) else(some (.inr ad))
partial_fixpoint
def Z1f.l0 (a0:List (List Z6)) (aa:Int) (ac:Int):Option ((Int×Int) ⊕ Int):=if(decide (ac<(a0.length:Int)))=true then((at? a0 ac)>>=fun ad=>(Z1f.l1 a0 ad ac aa 0)>>=fun oo=>match oo with | .inl rr=>(some (.inl rr)) | .inr ae=>(Z1f.l0 a0 ae (i64.wrap (ac+1)))) else(some (.inr aa))
partial_fixpoint
def Z1f.f (a0:List (List Z6)):Option (Int×Int):=(Z1f.l0 a0 0 0)>>=fun oo=>match oo with | .inl rr=>(some rr) | .inr aa=>(some (aa,0))
theorem Z1f.ok (a0:List (List Z6)):FN 138 [.im (.row (a0.map (Z2l Z4)))] [] 0 (Z1f.f a0) (fun r=>.tup [qu r.1,qi r.2]) (fun r=>[]):=FT [] func138 (.r0<|.r0<|.rg [(1,hG (Z2l Z4) a0)]<|.bl<|.loop (.c2 (Z1f.l0.partial_correctness a0)) (0,0) [] [] [] (fun _=>.pr fun aa=>.one (fun ac=>⟨[(4,qu aa),(10,.im (.row (a0.map (Z2l Z4)))),(11,qi (a0.length:Int)),(12,qi ac)],[],0⟩) fun ac=>.r0<|.cd (fun ad=>.bl<|.el fun ae af ah=>.rg [(0,hA (Z2l Z4) af ah)]<|.rg [(1,hG Z4 ae)]<|.bl<|.loop (.c2 (Z1f.l1.partial_correctness a0 ae ac)) (aa,0) [] [] [] (fun _=>.pr fun ai=>.one (fun aj=>⟨[(4,qu ai),(10,.im (.row (a0.map (Z2l Z4)))),(11,qi (a0.length:Int)),(12,qi ac),(16,.im (.row (ae.map Z4))),(17,qi (ae.length:Int)),(18,qi aj)],[],0⟩) fun aj=>.r0<|.cd (fun ak=>.bl<|.el fun al am an=>.rg [(0,hA Z4 am an),(2,⟨.k 6,.n⟩)]<|.r0<|.bd fun aq ar=>.rg [(3,hQ 7 qv ([ai,al.f1]:List Int)),(4,hC [] [] [7] [] call98 (Z29.ok [ai,al.f1] aq ar))]<|.r0<|.cd (fun au=>.r0<|.ret [] [] [] ⟨[(2,qu 0),(3,qi aq.2)],[],0⟩)
 (fun au=>.r0<|.bk [] rfl))
 (fun ak=>.o []))
 (.sm (.rt (fun rr=>.tup [qu rr.1,qi rr.2]) (fun rr=>[]))
 (.st (.exit 2) (fun av=>⟨[(4,qu av),(10,.im (.row (a0.map (Z2l Z4)))),(11,qi (a0.length:Int)),(12,qi ac)],[],0⟩) fun av=>.r0<|.bk [] rfl)))
 (fun ad=>.o []))
 (.sm (.rt (fun rr=>.tup [qu rr.1,qi rr.2]) (fun rr=>[]))
 (.st (.exit 0) (fun aw=>⟨[(4,qu aw)],[],0⟩) fun aw=>.r0<|.ret [] [] [] ⟨[(2,qu aw),(3,qi 0)],[],0⟩)))
def Z2d.l0 (a0:Zh) (a1:List Z6) (aa:Int):Option (Int ⊕ Unit):=if(decide (aa<(a1.length:Int)))=true then((at? a1 aa)>>=fun ac=>(Z4n.f a0.f1 ac.f0)>>=fun ad=>if(!ad)=true then(some (.inl 4)) else(((if(decide (aa>0))=true then((at? a1 (i64.wrap (aa-1)))>>=fun ae=>some (decide (ae.f0≥ac.f0))) else(some false)):Option Bool)>>=fun af=>if af=true then(some (.inl 32)) else(if(ac.f1==0)=true then(some (.inl 21)) else((Z2k.f a0.f1 ac.f0)>>=fun ah=>if(decide (ah<a0.f2))=true then(some (.inl 31)) else(Z2d.l0 a0 a1 (i64.wrap (aa+1))))))) else(some (.inr ()))
partial_fixpoint
def Z2d.f (a0:Zh) (a1:List Z6):Option Int:=if(decide ((a1.length:Int)>512))=true then(some 9) else((Z2d.l0 a0 a1 0)>>=fun oo=>match oo with | .inl rr=>(some rr) | .inr _=>(some 0))
theorem Z2d.ok (a0:Zh) (a1:List Z6):FN 163 [.agg (Z0f a0),.im (.row (a1.map Z4))] [] 0 (Z2d.f a0 a1) (fun r=>qi r) (fun r=>[]):=FT [] func163 (.rg [(0,⟨.k 0,.n⟩)]<|.rg [(1,hG Z4 a1)]<|.cd (fun aa=>.r0<|.ret [] [] [] ⟨[(4,qi 9)],[],0⟩)
 (fun aa=>.rg [(1,hG Z4 a1)]<|.bl<|.loop (.one (Z2d.l0.partial_correctness a0 a1)) 0 [(0,2)] [] [] (fun _=>.one (fun ac=>⟨[(1,.im (.row (a1.map Z4))),(2,.ptr 2 0 0),(10,.im (.row (a1.map Z4))),(11,qi (a1.length:Int)),(12,qi ac)],[(2,some (.box 48 (Z0f a0)))],0⟩) fun ac=>.r0<|.cd (fun ad=>.bl<|.el fun ae af ah=>.rg [(1,hA Z4 af ah),(3,⟨.k 3,.n⟩)]<|.bl<|.bd fun ai aj=>.rg [(4,qh call176 (Z4n.ok a0.f1 ae.f0 ai aj))]<|.cd (fun ak=>.r0<|.ret [] [] [] ⟨[(4,qi 4)],[],0⟩)
 (fun ak=>.join (.sp (fun al=>.el fun am an aq=>.rg [(2,hB al),(6,hA Z4 an aq)]<|.o [(2,4),(3,5)])
 (fun al=>.rg [(2,hB al)]<|.o [(2,4),(3,5)]))
 (.st .normal (fun ar=>⟨[(1,.im (.row (a1.map Z4))),(2,.ptr 4 0 0),(6,.ptr 5 0 0),(10,.im (.row (a1.map Z4))),(11,qi (a1.length:Int)),(12,qi ac),(24,bV ar)],[(4,some (.box 48 (Z0f a0))),(5,some (.box 132 (Z54 ae)))],0⟩) fun ar=>.cd (fun au=>.r0<|.ret [] [] [] ⟨[(4,qi 32)],[],0⟩)
 (fun au=>.r0<|.cd (fun av=>.r0<|.ret [] [] [] ⟨[(4,qi 21)],[],0⟩)
 (fun av=>.bd fun aw ax=>.rg [(4,qh call151 (Z2k.ok a0.f1 ae.f0 aw ax))]<|.cd (fun ay=>.r0<|.ret [] [] [] ⟨[(4,qi 31)],[],0⟩)
 (fun ay=>.r0<|.bk [(4,2)] rfl))))))
 (fun ad=>.o []))
 (.sm (.rt (fun rr=>qi rr) (fun rr=>[]))
 (.st (.exit 0) (fun _=>⟨[],[],0⟩) fun _=>.r0<|.ret [] [] [] ⟨[(4,qi 0)],[],0⟩))))
def Z32.l0 (a0:Zh) (aa:Int):Option (Int ⊕ Unit):=if(decide (aa<2))=true then((((chk (0≤aa∧aa<2))>>=fun _=>if(aa==0)=true then(some a0.f6) else(some a0.f7)):Option (List Z6))>>=fun ac=>(Z2d.f a0 ac)>>=fun ad=>if(ad != 0)=true then(some (.inl ad)) else(Z32.l0 a0 (i64.wrap (aa+1)))) else(some (.inr ()))
partial_fixpoint
def Z32.f (a0:Zh):Option Int:=((if(a0.f0 != 0)=true then(some (a0.f0 != 1)) else(some false)):Option Bool)>>=fun aa=>if aa=true then(some 25) else((Z0j.f a0.f1)>>=fun ac=>if(!ac)=true then(some 20) else(((if(a0.f2 != (-524288))=true then(if(decide (a0.f2≤(-262144)))=true then(some true) else(some (decide (a0.f2>262144)))) else(some false)):Option Bool)>>=fun ad=>if ad=true then(some 31) else((Z32.l0 a0 0)>>=fun oo=>match oo with | .inl rr=>(some rr) | .inr _=>((Z1f.f [a0.f6,a0.f7,[(⟨0,a0.f3⟩:Z6)]])>>=fun ae=>if(ae.2 != 0)=true then(some ae.2) else(if(ae.1 != a0.f4)=true then(some 21) else(some 0))))))
theorem Z32.ok (a0:Zh):FN 139 [.agg (Z0f a0)] [] 0 (Z32.f a0) (fun r=>qi r) (fun r=>[]):=FT [] func139 (.rg [(0,⟨.k 0,.n⟩)]<|.bl<|.join (.sp (fun aa=>.rg [(3,hB aa)]<|.o [(0,1)])
 (fun aa=>.rg [(3,hB aa)]<|.o [(0,1)]))
 (.st .normal (fun ac=>⟨[(1,.ptr 1 0 0),(8,bV ac)],[(1,some (.box 48 (Z0f a0)))],0⟩) fun ac=>.cd (fun ad=>.r0<|.ret [] [] [] ⟨[(2,qi 25)],[],0⟩)
 (fun ad=>.bd fun ae af=>.rg [(2,qh call157 (Z0j.ok a0.f1 ae af))]<|.cd (fun ah=>.r0<|.ret [] [] [] ⟨[(2,qi 20)],[],0⟩)
 (fun ah=>.join (.sp (fun ai=>.sp (fun aj=>.rg [(3,hB ai),(7,hB aj)]<|.o [(1,2)])
 (fun aj=>.rg [(3,hB ai),(7,hB aj)]<|.o [(1,2)]))
 (fun ai=>.rg [(3,hB ai)]<|.o [(1,2)]))
 (.st .normal (fun ak=>⟨[(1,.ptr 2 0 0),(22,bV ak)],[(2,some (.box 48 (Z0f a0)))],0⟩) fun ak=>.cd (fun al=>.r0<|.ret [] [] [] ⟨[(2,qi 31)],[],0⟩)
 (fun al=>.r0<|.bl<|.loop (.one (Z32.l0.partial_correctness a0)) 0 [(2,3)] [] [] (fun _=>.one (fun am=>⟨[(1,.ptr 3 0 0),(40,.agg [.im (.row (a0.f6.map Z4)),.im (.row (a0.f7.map Z4))]),(41,qi am)],[(3,some (.box 48 (Z0f a0)))],0⟩) fun am=>.r0<|.cd (fun an=>.bl<|.join (.ck fun aq=>.sp (fun ar=>.rg [(0,⟨.more (xIdx 0),.c (p:=am=((0:Nat):Int)) (by simpa using ar) .n⟩)]<|.o [(3,4)])
 (fun ar=>.rg [(0,⟨.more (xIdx 1),.c (p:=am=((1:Nat):Int)) (by have:=aq;simp only[beq_eq_false_iff_ne] at *;omega) .n⟩)]<|.o [(3,4)]))
 (.st .normal (fun au=>⟨[(1,.ptr 4 0 0),(4,.im (.row (au.map Z4))),(40,.agg [.im (.row (a0.f6.map Z4)),.im (.row (a0.f7.map Z4))]),(41,qi am)],[(4,some (.box 48 (Z0f a0)))],0⟩) fun au=>.bd fun av aw=>.rg [(2,qh call163 (Z2d.ok a0 au av aw))]<|.r0<|.cd (fun ax=>.r0<|.ret [] [] [] ⟨[(2,qi av)],[],0⟩)
 (fun ax=>.r0<|.bk [(4,3)] rfl)))
 (fun an=>.o [(3,5)]))
 (.sm (.rt (fun rr=>qi rr) (fun rr=>[]))
 (.st (.exit 1) (fun _=>⟨[(1,.ptr 5 0 0)],[(5,some (.box 48 (Z0f a0)))],0⟩) fun _=>.bd fun ay az=>.rg [(7,fzI (hQ 6 Z4 ([(⟨0,a0.f3⟩:Z6)]:List Z6))),(8,hQ 7 (Z2l Z4) ([a0.f6,a0.f7,[(⟨0,a0.f3⟩:Z6)]]:List (List Z6))),(9,hC [] [] [7] [] call138 (Z1f.ok [a0.f6,a0.f7,[(⟨0,a0.f3⟩:Z6)]] ay az))]<|.bl<|.r0<|.cd (fun a8=>.r0<|.ret [] [] [] ⟨[(2,qi ay.2)],[],0⟩)
 (fun a8=>.r0<|.cd (fun a9=>.r0<|.ret [] [] [] ⟨[(2,qi 21)],[],0⟩)
 (fun a9=>.r0<|.ret [] [] [] ⟨[(2,qi 0)],[],0⟩))))))))))
def Z3d.f (a0:Zh) (a1:List Z6) (a2:List Z6):Option (Zh×Int):=(Z2v.f a1)>>=fun aa=>(Z2v.f a2)>>=fun ac=>if((if ac.2>aa.2 then ac.2 else aa.2) != 0)=true then(some ((⟨0,0,0,0,0,0,[],[]⟩:Zh),(if ac.2>aa.2 then ac.2 else aa.2))) else((Z1f.f [aa.1,ac.1,[(⟨0,a0.f3⟩:Z6)]])>>=fun ad=>if(ad.2 != 0)=true then(some ((⟨0,0,0,0,0,0,[],[]⟩:Zh),ad.2)) else((Z32.f (⟨a0.f0,a0.f1,a0.f2,a0.f3,ad.1,a0.f5,aa.1,ac.1⟩:Zh))>>=fun ae=>if(ae != 0)=true then(some ((⟨0,0,0,0,0,0,[],[]⟩:Zh),ae)) else(some ((⟨a0.f0,a0.f1,a0.f2,a0.f3,ad.1,a0.f5,aa.1,ac.1⟩:Zh),0))))
abbrev qk0:MObj:=.box 48 [qi 0,qi 0,qi 0,qu 0,qu 0,qi 0,.none0,.none0]
theorem Z3d.ok (a0:Zh) (a1:List Z6) (a2:List Z6):FN 96 [.agg (Z0f a0),.im (.row (a1.map Z4)),.im (.row (a2.map Z4))] [] 0 (Z3d.f a0 a1 a2) (fun r=>.tup [.agg (Z0f (r.1)),qi r.2]) (fun r=>[]):=FT [] func96 (.rg [(0,⟨.k 0,.n⟩),(1,⟨.k 1,.n⟩)]<|.r0<|.bd fun aa ac=>.rg [(1,hC [] [(0,2)] [] [2] call137 (Z2v.ok a1 aa ac))]<|.bd fun ad ae=>.rg [(1,hC [] [(0,3)] [] [3] call137 (Z2v.ok a2 ad ae))]<|.rg [(2,⟨.more xMax,.n⟩)]<|.r0<|.cd (fun af=>.r0<|.ret [(1,0)] [] [] ⟨[(6,.ptr 0 0 0),(7,qi (if ad.2>aa.2 then ad.2 else aa.2))],[(0,some (.box 48 (Z0f (⟨0,0,0,0,0,0,[],[]⟩:Zh))))],0⟩)
 (fun af=>.cv [(0,0),(1,1)] [2,3] [] ⟨[(3,.ptr 0 0 0),(6,.ptr 1 0 0),(8,qi (if ad.2>aa.2 then ad.2 else aa.2)),(27,bV ((if ad.2>aa.2 then ad.2 else aa.2) != 0))],[(0,some (.box 48 (Z0f ⟨a0.f0,a0.f1,a0.f2,a0.f3,a0.f4,a0.f5,aa.1,ad.1⟩))),(1,some (qk0))],0⟩<|.bd fun ah ai=>.rg [(7,fzI (hQ 4 Z4 ([(⟨0,a0.f3⟩:Z6)]:List Z6))),(8,hQ 5 (Z2l Z4) ([aa.1,ad.1,[(⟨0,a0.f3⟩:Z6)]]:List (List Z6))),(9,hC [] [] [5] [] call138 (Z1f.ok [aa.1,ad.1,[(⟨0,a0.f3⟩:Z6)]] ah ai))]<|.r0<|.cd (fun aj=>.r0<|.ret [(1,0)] [] [] ⟨[(6,.ptr 0 0 0),(7,qi ah.2)],[(0,some (.box 48 (Z0f (⟨0,0,0,0,0,0,[],[]⟩:Zh))))],0⟩)
 (fun aj=>.bd fun ak al=>.rg [(1,qh call139 (Z32.ok (⟨a0.f0,a0.f1,a0.f2,a0.f3,ah.1,a0.f5,aa.1,ad.1⟩:Zh) ak al))]<|.r0<|.cd (fun am=>.r0<|.ret [(1,0)] [] [] ⟨[(6,.ptr 0 0 0),(7,qi ak)],[(0,some (.box 48 (Z0f (⟨0,0,0,0,0,0,[],[]⟩:Zh))))],0⟩)
 (fun am=>.r0<|.ret [(1,0)] [] [] ⟨[(6,.ptr 0 0 0),(7,qi 0)],[(0,some (.box 48 (Z0f (⟨a0.f0,a0.f1,a0.f2,a0.f3,ah.1,a0.f5,aa.1,ad.1⟩:Zh))))],0⟩))))
def Z38.f (a0:Zh) (a1:List Z6) (a2:List Z6) (a3:Int):Option (Zh×Int):=(Z2t.f a0 a1 a3)>>=fun aa=>(Z2t.f a0 a2 a3)>>=fun ac=>(Z0w.f a1 a0.f0 a0.f1 a0.f2 a0.f3 a0.f4 a0.f5 a0.f6 a0.f7 (if ac>aa then ac else aa))>>=fun ad=>(Z0w.f a2 a0.f0 a0.f1 a0.f2 ad.2 a0.f4 a0.f5 a0.f6 a0.f7 (if ac>aa then ac else aa))>>=fun ae=>(Z3d.f (⟨a0.f0,a0.f1,(if ac>aa then ac else aa),ae.2,a0.f4,a0.f5,a0.f6,a0.f7⟩:Zh) ad.1 ae.1)>>=fun af=>some ((af.1),af.2)
theorem Z38.ok (a0:Zh) (a1:List Z6) (a2:List Z6) (a3:Int):FN 159 [.agg (Z0f a0),.im (.row (a1.map Z4)),.im (.row (a2.map Z4)),qi a3] [] 0 (Z38.f a0 a1 a2 a3) (fun r=>.tup [.agg (Z0f (r.1)),qi r.2]) (fun r=>[]):=FT [] func159 (.rg [(0,⟨.k 0,.n⟩),(1,⟨.k 1,.n⟩),(2,⟨.k 2,.n⟩)]<|.bd fun aa ac=>.bd fun ad ae=>.rg [(3,qh call172 (Z2t.ok a0 a1 a3 aa ac)),(7,qh call172 (Z2t.ok a0 a2 a3 ad ae)),(8,⟨.more xMax,.n⟩)]<|.rg [(0,⟨.more xFunc,.n⟩)]<|.bd fun af ah=>.bd fun ai aj=>.rg [(2,hC [(0,0),(1,1)] [(0,0),(1,1),(2,3)] [] [3] call173 (Z0w.ok a1 a0.f0 a0.f1 a0.f2 a0.f3 a0.f4 a0.f5 a0.f6 a0.f7 (if ad>aa then ad else aa) af ah)),(5,hC [(0,0),(1,1)] [(0,0),(1,1),(2,4)] [] [4] call173 (Z0w.ok a2 a0.f0 a0.f1 a0.f2 af.2 a0.f4 a0.f5 a0.f6 a0.f7 (if ad>aa then ad else aa) ai aj))]<|.r0<|.cv [(2,2),(0,0)] [3,4] [] ⟨[(1,.im (.row (af.1.map Z4))),(2,.im (.row (ai.1.map Z4))),(4,.ptr 0 0 0),(8,.ptr 2 0 0)],[(0,some (.box 48 (Z0f ⟨a0.f0,a0.f1,(if ad>aa then ad else aa),ai.2,a0.f4,a0.f5,a0.f6,a0.f7⟩))),(2,some (qk0))],0⟩<|.bd fun ak al=>.rg [(3,qh call96 (Z3d.ok (⟨a0.f0,a0.f1,(if ad>aa then ad else aa),ai.2,a0.f4,a0.f5,a0.f6,a0.f7⟩:Zh) af.1 ai.1 ak al))]<|.ret [(2,0)] [] [] ⟨[(8,.ptr 0 0 0),(9,qi ak.2)],[(0,some (.box 48 (Z0f (ak.1))))],0⟩)
def Z44.f (a0:Zh) (a1:Int):Option (Zh×Int):=(((Z0j.f a1)>>=fun aa=>if(!aa)=true then(some true) else(some (decide (a1>a0.f1)))):Option Bool)>>=fun ac=>if ac=true then(some ((⟨0,0,0,0,0,0,[],[]⟩:Zh),20)) else((Z2u.f a0.f6 a0.f1 a1)>>=fun ad=>(Z2u.f a0.f7 a0.f1 a1)>>=fun ae=>(Z38.f (⟨a0.f0,a1,a0.f2,a0.f3,a0.f4,a0.f5,a0.f6,a0.f7⟩:Zh) ad ae a0.f2)>>=fun af=>some ((af.1),af.2))
theorem Z44.ok (a0:Zh) (a1:Int):FN 135 [.agg (Z0f a0),qi a1] [] 0 (Z44.f a0 a1) (fun r=>.tup [.agg (Z0f (r.1)),qi r.2]) (fun r=>[]):=FT [] func135 (.rg [(0,⟨.k 0,.n⟩),(1,⟨.k 1,.n⟩)]<|.join (.bd fun aa ac=>.sp (fun ad=>.rg [(1,qh call157 (Z0j.ok a1 aa ac)),(3,hB ad)]<|.o [(0,2),(1,3)])
 (fun ad=>.rg [(1,qh call157 (Z0j.ok a1 aa ac)),(3,hB ad)]<|.o [(0,2),(1,3)]))
 (.st .normal (fun ae=>⟨[(1,qi a1),(2,.ptr 2 0 0),(4,.ptr 3 0 0),(17,bV ae)],[(2,some (.box 48 (Z0f a0))),(3,some (qk0))],0⟩) fun ae=>.cd (fun af=>.r0<|.ret [(3,0)] [] [] ⟨[(4,.ptr 0 0 0),(5,qi 20)],[(0,some (.box 48 (Z0f (⟨0,0,0,0,0,0,[],[]⟩:Zh))))],0⟩)
 (fun af=>.r0<|.r0<|.bd fun ah ai=>.bd fun aj ak=>.rg [(4,hC [] [(0,4)] [] [4] call158 (Z2u.ok a0.f6 a0.f1 a1 ah ai)),(9,hC [] [(0,5)] [] [5] call158 (Z2u.ok a0.f7 a0.f1 a1 aj ak))]<|.cv [(2,2),(3,3)] [4,5] [] ⟨[(2,.ptr 2 0 0),(4,.ptr 3 0 0),(7,.im (.row (ah.map Z4))),(8,.im (.row (aj.map Z4)))],[(2,some (.box 48 (Z0f ⟨a0.f0,a1,a0.f2,a0.f3,a0.f4,a0.f5,a0.f6,a0.f7⟩))),(3,some (qk0))],0⟩<|.bd fun al am=>.rg [(5,qh call159 (Z38.ok (⟨a0.f0,a1,a0.f2,a0.f3,a0.f4,a0.f5,a0.f6,a0.f7⟩:Zh) ah aj a0.f2 al am))]<|.ret [(3,0)] [] [] ⟨[(4,.ptr 0 0 0),(5,qi al.2)],[(0,some (.box 48 (Z0f (al.1))))],0⟩)))
def Z1q.f (a0:Zh):Option Zh:=(Z0p.f a0.f6)>>=fun aa=>(Z0p.f a0.f7)>>=fun ac=>some (⟨a0.f0,a0.f1,a0.f2,a0.f3,a0.f4,a0.f5,aa,ac⟩:Zh)
theorem Z1q.ok (a0:Zh):FN 34 [.agg (Z0f a0)] [] 0 (Z1q.f a0) (fun r=>.agg [qi ((r).f0),qi ((r).f1),qi ((r).f2),qu ((r).f3),qu ((r).f4),qi ((r).f5),.own 0,.own 1]) (fun r=>[q4 0 ((r).f6),q4 1 ((r).f7)]):=FT [0,1] func34 (.rg [(0,⟨.k 0,.n⟩),(1,⟨.k 1,.n⟩)]<|.bd fun aa ac=>.bd fun ad ae=>.rg [(2,hC [] [(0,2)] [] [2] call64 (Z0p.ok a0.f6 aa ac)),(5,hC [] [(0,3)] [] [3] call64 (Z0p.ok a0.f7 ad ae))]<|.r0<|.ret [(1,2),(2,0),(3,1)] [] [] ⟨[(2,.ptr 2 0 0)],[q4 0 ((⟨a0.f0,a0.f1,a0.f2,a0.f3,a0.f4,a0.f5,aa,ad⟩:Zh).f6),q4 1 ((⟨a0.f0,a0.f1,a0.f2,a0.f3,a0.f4,a0.f5,aa,ad⟩:Zh).f7),(2,some (.box 48 [qi ((⟨a0.f0,a0.f1,a0.f2,a0.f3,a0.f4,a0.f5,aa,ad⟩:Zh).f0),qi ((⟨a0.f0,a0.f1,a0.f2,a0.f3,a0.f4,a0.f5,aa,ad⟩:Zh).f1),qi ((⟨a0.f0,a0.f1,a0.f2,a0.f3,a0.f4,a0.f5,aa,ad⟩:Zh).f2),qu ((⟨a0.f0,a0.f1,a0.f2,a0.f3,a0.f4,a0.f5,aa,ad⟩:Zh).f3),qu ((⟨a0.f0,a0.f1,a0.f2,a0.f3,a0.f4,a0.f5,aa,ad⟩:Zh).f4),qi ((⟨a0.f0,a0.f1,a0.f2,a0.f3,a0.f4,a0.f5,aa,ad⟩:Zh).f5),.own 0,.own 1]))],0⟩)
def Z3n.f (a0:Zh) (a1:Int):Option (Zh×Int):=if(decide (a1<a0.f2))=true then(some ((⟨0,0,0,0,0,0,[],[]⟩:Zh),31)) else(if(a1==a0.f2)=true then((Z1q.f a0)>>=fun aa=>some ((aa),0)) else(((if(decide (a1≤(-262144)))=true then(some true) else(some (decide (a1>262144)))):Option Bool)>>=fun ac=>if ac=true then(some ((⟨0,0,0,0,0,0,[],[]⟩:Zh),31)) else((Z38.f a0 a0.f6 a0.f7 a1)>>=fun ad=>some ((ad.1),ad.2))))
theorem Z3n.ok (a0:Zh) (a1:Int):FN 136 [.agg (Z0f a0),qi a1] [] 0 (Z3n.f a0 a1) (fun r=>.tup [.agg (Z0f (r.1)),qi r.2]) (fun r=>[]):=FT [] func136 (.rg [(0,⟨.k 0,.n⟩),(1,⟨.k 1,.n⟩)]<|.bl<|.r0<|.cd (fun aa=>.r0<|.ret [(1,0)] [] [] ⟨[(4,.ptr 0 0 0),(5,qi 31)],[(0,some (.box 48 (Z0f (⟨0,0,0,0,0,0,[],[]⟩:Zh))))],0⟩)
 (fun aa=>.r0<|.cd (fun ac=>.bd fun ad ae=>.rg [(1,hC [] [(0,2),(1,3)] [] [2,3] call34 (Z1q.ok a0 ad ae))]<|.ret [(1,0)] [2,3] [] ⟨[(4,.ptr 0 0 0),(5,qi 0)],[(0,some (.box 48 (Z0f (ad))))],0⟩)
 (fun ac=>.join (.sp (fun af=>.rg [(2,hB af)]<|.o [(0,4),(1,5)])
 (fun af=>.rg [(2,hB af)]<|.o [(0,4),(1,5)]))
 (.st .normal (fun ah=>⟨[(1,qi a1),(2,.ptr 4 0 0),(4,.ptr 5 0 0),(19,bV ah)],[(4,some (.box 48 (Z0f a0))),(5,some (qk0))],0⟩) fun ah=>.cd (fun ai=>.r0<|.ret [(5,0)] [] [] ⟨[(4,.ptr 0 0 0),(5,qi 31)],[(0,some (.box 48 (Z0f (⟨0,0,0,0,0,0,[],[]⟩:Zh))))],0⟩)
 (fun ai=>.bd fun aj ak=>.rg [(6,qh call159 (Z38.ok a0 a0.f6 a0.f7 a1 aj ak))]<|.ret [(5,0)] [] [] ⟨[(4,.ptr 0 0 0),(5,qi aj.2)],[(0,some (.box 48 (Z0f (aj.1))))],0⟩)))))
def Z2c.l0  (v:Int×Int×Int×Int×Int×Int×(List Z6)×(List Z6)×Int×Int×Int×Int×Int×Int×(List Z6)×(List Z6)):Option ((Zh×Zh×Int) ⊕ (Int×Int×Int×Int×Int×Int×(List Z6)×(List Z6)×Int×Int×Int×Int×Int×Int×(List Z6)×(List Z6))):=match v with
 | (aa,ac,ad,ae,af,ah,ai,aj,ak,al,am,an,aq,ar,au,av)=>if(ad != am)=true then((Z3n.f (⟨aa,ac,ad,ae,af,ah,ai,aj⟩:Zh) (if am>ad then am else ad))>>=fun aw=>(Z3n.f (⟨ak,al,am,an,aq,ar,au,av⟩:Zh) (if am>ad then am else ad))>>=fun ax=>if((if ax.2>aw.2 then ax.2 else aw.2) != 0)=true then(some (.inl ((⟨0,0,0,0,0,0,[],[]⟩:Zh),(⟨0,0,0,0,0,0,[],[]⟩:Zh),(if ax.2>aw.2 then ax.2 else aw.2)))) else(Z2c.l0  ((aw.1).f0,(aw.1).f1,(aw.1).f2,(aw.1).f3,(aw.1).f4,(aw.1).f5,(aw.1).f6,(aw.1).f7,(ax.1).f0,(ax.1).f1,(ax.1).f2,(ax.1).f3,(ax.1).f4,(ax.1).f5,(ax.1).f6,(ax.1).f7))) else(some (.inr (aa,ac,ad,ae,af,ah,ai,aj,ak,al,am,an,aq,ar,au,av)))
partial_fixpoint
def Z2c.f (a0:Zh) (a1:Zh):Option (Zh×Zh×Int):=(Z44.f a0 (if a1.f1<a0.f1 then a1.f1 else a0.f1))>>=fun aa=>(Z44.f a1 (if a1.f1<a0.f1 then a1.f1 else a0.f1))>>=fun ac=>if((if ac.2>aa.2 then ac.2 else aa.2) != 0)=true then(some ((⟨0,0,0,0,0,0,[],[]⟩:Zh),(⟨0,0,0,0,0,0,[],[]⟩:Zh),(if ac.2>aa.2 then ac.2 else aa.2))) else((Z2c.l0  ((aa.1).f0,(aa.1).f1,(aa.1).f2,(aa.1).f3,(aa.1).f4,(aa.1).f5,(aa.1).f6,(aa.1).f7,(ac.1).f0,(ac.1).f1,(ac.1).f2,(ac.1).f3,(ac.1).f4,(ac.1).f5,(ac.1).f6,(ac.1).f7))>>=fun oo=>match oo with | .inl rr=>(some rr) | .inr (ad,ae,af,ah,ai,aj,ak,al,am,an,aq,ar,au,av,aw,ax)=>(some ((⟨ad,ae,af,ah,ai,aj,ak,al⟩:Zh),(⟨am,an,aq,ar,au,av,aw,ax⟩:Zh),0)))
theorem Z2c.ok (a0:Zh) (a1:Zh):FN 93 [.agg (Z0f a0),.agg (Z0f a1)] [] 0 (Z2c.f a0 a1) (fun r=>.tup [.agg (Z0f (r.1)),.agg (Z0f (r.2.1)),qi r.2.2]) (fun r=>[]):=FT [] func93 (.rg [(0,⟨.k 0,.n⟩),(1,⟨.k 1,.n⟩),(2,⟨.k 2,.n⟩),(3,⟨.k 3,.n⟩)]<|.rg [(4,⟨.more xMin,.n⟩)]<|.bd fun aa ac=>.rg [(2,qh call135 (Z44.ok a0 (if a1.f1<a0.f1 then a1.f1 else a0.f1) aa ac))]<|.bd fun ad ae=>.rg [(2,qh call135 (Z44.ok a1 (if a1.f1<a0.f1 then a1.f1 else a0.f1) ad ae))]<|.rg [(2,⟨.more xMax,.n⟩)]<|.r0<|.cd (fun af=>.r0<|.ret [(2,0),(3,1)] [] [] ⟨[(4,.ptr 0 0 0),(5,.ptr 1 0 0),(6,qi (if ad.2>aa.2 then ad.2 else aa.2))],[(0,some (.box 48 (Z0f (⟨0,0,0,0,0,0,[],[]⟩:Zh)))),(1,some (.box 48 (Z0f (⟨0,0,0,0,0,0,[],[]⟩:Zh))))],0⟩)
 (fun af=>.bl<|.loop (.one (Z2c.l0.partial_correctness )) ((aa.1).f0,(aa.1).f1,(aa.1).f2,(aa.1).f3,(aa.1).f4,(aa.1).f5,(aa.1).f6,(aa.1).f7,(ad.1).f0,(ad.1).f1,(ad.1).f2,(ad.1).f3,(ad.1).f4,(ad.1).f5,(ad.1).f6,(ad.1).f7) [(0,4),(1,5),(2,6),(3,7)] [] [] (fun _=>.pr fun ah=>.pr fun ai=>.pr fun aj=>.pr fun ak=>.pr fun al=>.pr fun am=>.pr fun an=>.pr fun aq=>.pr fun ar=>.pr fun au=>.pr fun av=>.pr fun aw=>.pr fun ax=>.pr fun ay=>.pr fun az=>.one (fun a8=>⟨[(2,.ptr 4 0 0),(3,.ptr 5 0 0),(4,.ptr 6 0 0),(5,.ptr 7 0 0)],[(4,some (.box 48 (Z0f ⟨ah,ai,aj,ak,al,am,an,aq⟩))),(5,some (.box 48 (Z0f ⟨ar,au,av,aw,ax,ay,az,a8⟩))),(6,some (qk0)),(7,some (qk0))],0⟩) fun a8=>.r0<|.cd (fun a9=>.bl<|.rg [(4,⟨.more xMax,.n⟩)]<|.bd fun ba bb=>.rg [(2,qh call136 (Z3n.ok (⟨ah,ai,aj,ak,al,am,an,aq⟩:Zh) (if av>aj then av else aj) ba bb))]<|.bd fun bc be=>.rg [(2,qh call136 (Z3n.ok (⟨ar,au,av,aw,ax,ay,az,a8⟩:Zh) (if av>aj then av else aj) bc be))]<|.rg [(2,⟨.more xMax,.n⟩)]<|.r0<|.cd (fun bf=>.r0<|.ret [(6,0),(7,1)] [] [] ⟨[(4,.ptr 0 0 0),(5,.ptr 1 0 0),(6,qi (if bc.2>ba.2 then bc.2 else ba.2))],[(0,some (.box 48 (Z0f (⟨0,0,0,0,0,0,[],[]⟩:Zh)))),(1,some (.box 48 (Z0f (⟨0,0,0,0,0,0,[],[]⟩:Zh))))],0⟩)
 (fun bf=>.bk [(4,4),(5,5),(6,6),(7,7)] rfl))
 (fun a9=>.o [(4,8),(5,9),(6,10),(7,11)]))
 (.sm (.rt (fun rr=>.tup [.agg (Z0f (rr.1)),.agg (Z0f (rr.2.1)),qi rr.2.2]) (fun rr=>[]))
 (.pr fun bg=>.pr fun bh=>.pr fun bi=>.pr fun bj=>.pr fun bn=>.pr fun bo=>.pr fun bp=>.pr fun bq=>.pr fun br=>.pr fun bu=>.pr fun bv=>.pr fun bw=>.pr fun bx=>.pr fun bz=>.pr fun ca=>.st (.exit 0) (fun cc=>⟨[(2,.ptr 8 0 0),(3,.ptr 9 0 0),(4,.ptr 10 0 0),(5,.ptr 11 0 0)],[(8,some (.box 48 (Z0f ⟨bg,bh,bi,bj,bn,bo,bp,bq⟩))),(9,some (.box 48 (Z0f ⟨br,bu,bv,bw,bx,bz,ca,cc⟩))),(10,some (qk0)),(11,some (qk0))],0⟩) fun cc=>.r0<|.ret [(10,0),(11,1)] [] [] ⟨[(4,.ptr 0 0 0),(5,.ptr 1 0 0),(6,qi 0)],[(0,some (.box 48 (Z0f (⟨bg,bh,bi,bj,bn,bo,bp,bq⟩:Zh)))),(1,some (.box 48 (Z0f (⟨br,bu,bv,bw,bx,bz,ca,cc⟩:Zh))))],0⟩))))
def Z1w.l1 (a0:List Z6) (aa:Z6) (ac:List Z6) (ad:List Z6) (ae:Int) (af:Unit):Option (((List Z6)×Bool) ⊕ Unit):=((if(decide ((ac.length:Int)>0))=true then((at? ac 0)>>=fun ah=>some (decide (ah.f0<aa.f0))) else(some false)):Option Bool)>>=fun ai=>if ai=true then(some (.inl ([],false))) else(some (.inr ()))
def Z1w.l0 (a0:List Z6) (aa:List Z6) (ac:List Z6) (ad:Int):Option (((List Z6)×Bool) ⊕ ((List Z6)×(List Z6))):=if(decide (ad<(a0.length:Int)))=true then((at? a0 ad)>>=fun ae=>(Z1w.l1 a0 ae aa ac ad ())>>=fun oo=>match oo with | .inl rr=>(some (.inl rr)) | .inr _=>(((if(decide ((aa.length:Int)>0))=true then((at? aa 0)>>=fun af=>some (af.f0==ae.f0)) else(some false)):Option Bool)>>=fun ah=>((if ah=true then((at? aa 0)>>=fun ai=>if(decide (ai.f1>ae.f1))=true then(some (.inl ([],false))) else((chk (0≤(1:Int)∧(1:Int)≤(aa.length:Int)∧(aa.length:Int)≤(aa.length:Int)))>>=fun _=>some (.inr ((aa.drop (Int.toNat (1:Int))).take ((Int.toNat (aa.length:Int))-(Int.toNat (1:Int))),u64.wrap (ae.f1-ai.f1))))) else(some (.inr (aa,ae.f1)))):Option (((List Z6)×Bool) ⊕ ((List Z6)×Int)))>>=fun oo=>match oo with | .inl rr=>(some (.inl rr)) | .inr (aj,ak)=>((chk ((ac.length+[(⟨ae.f0,ak⟩:Z6)].length)*16≤140737488355328))>>=fun _=>Z1w.l0 a0 aj (ac++[(⟨ae.f0,ak⟩:Z6)]) (i64.wrap (ad+1))))) else(some (.inr (aa,ac)))
partial_fixpoint
def Z1w.f (a0:List Z6) (a1:List Z6):Option ((List Z6)×Bool):=(Z1w.l0 a0 a1 [] 0)>>=fun oo=>match oo with | .inl rr=>(some rr) | .inr (aa,ac)=>(some (ac,((aa.length:Int)==0)))
theorem Z1w.ok (a0:List Z6) (a1:List Z6):FN 94 [.im (.row (a0.map Z4)),.im (.row (a1.map Z4))] [] 0 (Z1w.f a0 a1) (fun r=>.tup [.own 0,bV r.2]) (fun r=>[q4 0 r.1]):=FT [0] func94 (.r0<|.r0<|.rg [(1,hG Z4 a0)]<|.bl<|.loop (.c3 (Z1w.l0.partial_correctness a0)) (a1,[],0) [] [] [7] (fun _=>.pr fun aa=>.pr fun ac=>.one (fun ad=>⟨[(1,.im (.row (aa.map Z4))),(6,.own 7),(9,.im (.row (a0.map Z4))),(10,qi (a0.length:Int)),(11,qi ad)],[q4 7 ac],0⟩) fun ad=>.r0<|.cd (fun ae=>.bl<|.el fun af ah ai=>.rg [(0,hA Z4 ah ai),(2,⟨.k 8,.n⟩)]<|.bl<|.loop (.no (fun p=>Z1w.l1 a0 af aa ac ad p)) () [(7,7),(8,8)] [] [] (fun _=>.one (fun aj=>⟨[(1,.im (.row (aa.map Z4))),(6,.own 7),(8,.ptr 8 0 0),(9,.im (.row (a0.map Z4))),(10,qi (a0.length:Int)),(11,qi ad)],[q4 7 ac,(8,some (.box 132 (Z54 af)))],0⟩) fun aj=>.join (.sp (fun ak=>.el fun al am an=>.rg [(1,hG Z4 aa),(3,hB ak),(5,hA Z4 am an)]<|.o [(7,9),(8,10)])
 (fun ak=>.rg [(1,hG Z4 aa),(3,hB ak)]<|.o [(7,9),(8,10)]))
 (.st .normal (fun aq=>⟨[(1,.im (.row (aa.map Z4))),(6,.own 9),(8,.ptr 10 0 0),(9,.im (.row (a0.map Z4))),(10,qi (a0.length:Int)),(11,qi ad),(26,bV aq)],[q4 9 ac,(10,some (.box 132 (Z54 af)))],0⟩) fun aq=>.cd (fun ar=>.bl<|.r0<|.ret [] [] [0] ⟨[(4,.own 0),(5,bV false)],[q4 0 []],0⟩)
 (fun ar=>.o [(9,11),(10,12)])))
 (.sm (.rt (fun rr=>.tup [.own 0,bV rr.2]) (fun rr=>[q4 0 rr.1]))
 (.st (.exit 2) (fun _=>⟨[(1,.im (.row (aa.map Z4))),(6,.own 11),(8,.ptr 12 0 0),(9,.im (.row (a0.map Z4))),(10,qi (a0.length:Int)),(11,qi ad)],[q4 11 ac,(12,some (.box 132 (Z54 af)))],0⟩) fun _=>.join (.sp (fun au=>.el fun av aw ax=>.rg [(1,hG Z4 aa),(3,hB au),(5,hA Z4 aw ax)]<|.o [(11,13),(12,14)])
 (fun au=>.rg [(1,hG Z4 aa),(3,hB au)]<|.o [(11,13),(12,14)]))
 (.st .normal (fun ay=>⟨[(1,.im (.row (aa.map Z4))),(6,.own 13),(8,.ptr 14 0 0),(9,.im (.row (a0.map Z4))),(10,qi (a0.length:Int)),(11,qi ad),(38,bV ay)],[q4 13 ac,(14,some (.box 132 (Z54 af)))],0⟩) fun ay=>.join (.cd (fun az=>.el fun a8 a9 ba=>.rg [(1,hA Z4 a9 ba)]<|.cd (fun bb=>.r0<|.ret [] [] [0] ⟨[(4,.own 0),(5,bV false)],[q4 0 []],0⟩)
 (fun bb=>.rg [(3,hA Z4 a9 ba)]<|.ck fun bc=>.rg [(1,hR1 Z4 2 bc)]<|.o [(13,15),(14,16)]))
 (fun az=>.o [(13,15),(14,16)]))
 (.sm (.rt (fun rr=>.tup [.own 0,bV rr.2]) (fun rr=>[q4 0 rr.1]))
 (.pr fun be=>.st .normal (fun bf=>⟨[(1,.im (.row (be.map Z4))),(6,.own 15),(8,.ptr 16 0 0),(9,.im (.row (a0.map Z4))),(10,qi (a0.length:Int)),(11,qi ad)],[q4 15 ac,(16,some (.box 132 (Z54 ⟨af.f0,bf⟩)))],0⟩) fun bf=>.ck fun bg=>.rg [(2,hQ 17 Z4 ([(⟨af.f0,bf⟩:Z6)]:List Z6)),(3,hP 18 Z4 2 bg)]<|.r0<|.bk [(18,7)] rfl))))))
 (fun ae=>.o [(7,19)]))
 (.sm (.rt (fun rr=>.tup [.own 0,bV rr.2]) (fun rr=>[q4 0 rr.1]))
 (.pr fun bh=>.st (.exit 0) (fun bi=>⟨[(1,.im (.row (bh.map Z4))),(6,.own 19)],[q4 19 bi],0⟩) fun bi=>.rg [(2,hG Z4 bh)]<|.ret [(19,0)] [] [] ⟨[(4,.own 0),(5,bV ((bh.length:Int)==0))],[q4 0 bi],0⟩)))
def Z7b.f (a0:Int) (a1:Int):Option (Int×Int):=if(decide (a1>a0))=true then(some (0,5)) else(some (u64.wrap (a0-a1),0))
theorem Z7b.ok (a0:Int) (a1:Int):FN 95 [qu a0,qu a1] [] 0 (Z7b.f a0 a1) (fun r=>.tup [qu r.1,qi r.2]) (fun r=>[]):=FT [] func95 (.r0<|.r0<|.cd (fun aa=>.r0<|.ret [] [] [] ⟨[(4,qu 0),(5,qi 5)],[],0⟩)
 (fun aa=>.r0<|.ret [] [] [] ⟨[(4,qu (u64.wrap (a0-a1))),(5,qi 0)],[],0⟩))
def Z69.f (a0:Zh) (a1:Zh):Option (Zh×Int):=(Z4x.f a0.f5 a1.f5)>>=fun aa=>(Z2c.f a0 a1)>>=fun ac=>if(ac.2.2 != 0)=true then(some ((⟨0,0,0,0,0,0,[],[]⟩:Zh),ac.2.2)) else((Z1w.f ((ac.1).f6) ((ac.2.1).f6))>>=fun ad=>(Z1w.f ((ac.1).f7) ((ac.2.1).f7))>>=fun ae=>(Z7b.f ((ac.1).f3) ((ac.2.1).f3))>>=fun af=>((if(!ad.2)=true then(some true) else(if(!ae.2)=true then(some true) else(some (af.2 != 0)))):Option Bool)>>=fun ah=>if ah=true then(some ((⟨0,0,0,0,0,0,[],[]⟩:Zh),21)) else(if(aa.2 != 0)=true then(some ((⟨0,0,0,0,0,0,[],[]⟩:Zh),aa.2)) else((Z3d.f (⟨(ac.1).f0,(ac.1).f1,(ac.1).f2,af.1,(ac.1).f4,aa.1,(ac.1).f6,(ac.1).f7⟩:Zh) ad.1 ae.1)>>=fun ai=>some ((ai.1),ai.2))))
theorem Z69.ok (a0:Zh) (a1:Zh):FN 62 [.agg (Z0f a0),.agg (Z0f a1)] [] 0 (Z69.f a0 a1) (fun r=>.tup [.agg (Z0f (r.1)),qi r.2]) (fun r=>[]):=FT [] func62 (.rg [(0,⟨.k 0,.n⟩),(1,⟨.k 1,.n⟩),(2,⟨.k 2,.n⟩)]<|.bd fun aa ac=>.rg [(4,qh call92 (Z4x.ok a0.f5 a1.f5 aa ac))]<|.bd fun ad ae=>.rg [(2,qh call93 (Z2c.ok a0 a1 ad ae))]<|.r0<|.cd (fun af=>.r0<|.ret [(2,0)] [] [] ⟨[(4,.ptr 0 0 0),(5,qi ad.2.2)],[(0,some (.box 48 (Z0f (⟨0,0,0,0,0,0,[],[]⟩:Zh))))],0⟩)
 (fun af=>.bd fun ah ai=>.rg [(4,hC [] [(0,3)] [] [3] call94 (Z1w.ok ((ad.1).f6) ((ad.2.1).f6) ah ai))]<|.bd fun aj ak=>.rg [(4,hC [] [(0,4)] [] [4] call94 (Z1w.ok ((ad.1).f7) ((ad.2.1).f7) aj ak))]<|.bd fun al am=>.rg [(4,qh call95 (Z7b.ok ((ad.1).f3) ((ad.2.1).f3) al am))]<|.bl<|.join (.sp (fun an=>.rg [(2,hB an)]<|.o [(0,5),(2,6),(3,7),(4,8)])
 (fun an=>.sp (fun aq=>.rg [(2,hB an),(6,hB aq)]<|.o [(0,5),(2,6),(3,7),(4,8)])
 (fun aq=>.rg [(2,hB an),(6,hB aq)]<|.o [(0,5),(2,6),(3,7),(4,8)])))
 (.st .normal (fun ar=>⟨[(2,.ptr 5 0 0),(4,.ptr 6 0 0),(6,qi aa.1),(7,qi aa.2),(9,.own 7),(11,.own 8),(13,qu al.1),(58,bV ar)],[(5,some (.box 48 (Z0f (ad.1)))),(6,some (qk0)),q4 7 ah.1,q4 8 aj.1],0⟩) fun ar=>.cd (fun au=>.r0<|.ret [(6,0)] [] [] ⟨[(4,.ptr 0 0 0),(5,qi 21)],[(0,some (.box 48 (Z0f (⟨0,0,0,0,0,0,[],[]⟩:Zh))))],0⟩)
 (fun au=>.r0<|.cd (fun av=>.r0<|.ret [(6,0)] [] [] ⟨[(4,.ptr 0 0 0),(5,qi aa.2)],[(0,some (.box 48 (Z0f (⟨0,0,0,0,0,0,[],[]⟩:Zh))))],0⟩)
 (fun av=>.r0<|.cv [(5,5),(6,6)] [7,8] [] ⟨[(2,.ptr 5 0 0),(4,.ptr 6 0 0),(9,.im (.row (ah.1.map Z4))),(11,.im (.row (aj.1.map Z4)))],[(5,some (.box 48 (Z0f ⟨((ad.1).f0),((ad.1).f1),((ad.1).f2),al.1,((ad.1).f4),aa.1,((ad.1).f6),((ad.1).f7)⟩))),(6,some (qk0))],0⟩<|.bd fun aw ax=>.rg [(3,qh call96 (Z3d.ok (⟨(ad.1).f0,(ad.1).f1,(ad.1).f2,al.1,(ad.1).f4,aa.1,(ad.1).f6,(ad.1).f7⟩:Zh) ah.1 aj.1 aw ax))]<|.ret [(6,0)] [] [] ⟨[(4,.ptr 0 0 0),(5,qi aw.2)],[(0,some (.box 48 (Z0f (aw.1))))],0⟩)))))
end Go.Proofs.YtcilcefjcaimoaaGreat.PvGQ
