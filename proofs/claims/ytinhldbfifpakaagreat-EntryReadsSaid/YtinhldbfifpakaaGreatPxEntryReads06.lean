import Derived.Test.YtinhldbfifpakaaGreatProg
import Derived.Test.YtinhldbfifpakaaGreatPxEntryReads05
set_option linter.unusedVariables false
set_option linter.unnecessarySimpa false
set_option linter.unusedSimpArgs false
set_option maxRecDepth 10000
namespace Go.Proofs.YtinhldbfifpakaaGreat.PvGL2
open Go Go.Pv Go.IntKind
structure Z2 where
 f0:Int
 f1:Int
 deriving DecidableEq,Inhabited
abbrev Z0 (x:Z2):List Im:=[iI .i64 x.f0,iI .u64 x.f1]
abbrev Z82 (x:Z2):List AVal:=[iV .i64 x.f0,iV .u64 x.f1]
structure RBucket (x:Z2):Prop where
 r0:I64 x.f0
 r1:U64 x.f1
structure Zg where
 f0:Int
 f1:Int
 f2:Int
 f3:Int
 f4:Int
 f5:Int
 f6:List Z2
 f7:List Z2
 deriving DecidableEq,Inhabited
abbrev Z0r (x:Zg):List AVal:=[iV .i64 x.f0,iV .i64 x.f1,iV .i64 x.f2,iV .u64 x.f3,iV .u64 x.f4,iV .i64 x.f5,.im (.row (x.f6.map Z0)),.im (.row (x.f7.map Z0))]
structure RHist (x:Zg):Prop where
 r0:I64 x.f0
 r1:I64 x.f1
 r2:I64 x.f2
 r3:U64 x.f3
 r4:U64 x.f4
 r5:I64 x.f5
 r6:x.f6.length≤1048576∧∀ y∈x.f6,RBucket y
 r7:x.f7.length≤1048576∧∀ y∈x.f7,RBucket y
structure Z0z where
 f0:ByteArray
 f1:Int
 f2:Zg
 deriving DecidableEq,Inhabited
abbrev Zt (x:Z0z):List Im:=[sI x.f0,iI .i64 x.f1,iI .i64 x.f2.f0,iI .i64 x.f2.f1,iI .i64 x.f2.f2,iI .u64 x.f2.f3,iI .u64 x.f2.f4,iI .i64 x.f2.f5,.row (x.f2.f6.map Z0),.row (x.f2.f7.map Z0)]
structure Zek (x:Z0z):Prop where
 r0:x.f0.size≤1048576
 r1:I64 x.f1
 r2:RHist x.f2
structure Zc where
 f0:Int
 f1:Int
 deriving DecidableEq,Inhabited
abbrev Zb (x:Zc):List Im:=[iI .i64 x.f0,iI .i64 x.f1]
structure Z94 (x:Zc):Prop where
 r0:I64 x.f0
 r1:I64 x.f1
structure Z1k where
 f0:ByteArray
 f1:Zc
 deriving DecidableEq,Inhabited
abbrev Z1t (x:Z1k):List Im:=[sI x.f0,iI .i64 x.f1.f0,iI .i64 x.f1.f1]
structure Rentry_Cut (x:Z1k):Prop where
 r0:x.f0.size≤1048576
 r1:Z94 x.f1
structure Zs where
 f0:Int
 f1:List Z0z
 f2:List Z1k
 f3:Int
 deriving DecidableEq,Inhabited
abbrev Z3k (x:Zs):List AVal:=[iV .i64 x.f0,.im (.row (x.f1.map Zt)),.im (.row (x.f2.map Z1t)),iV .i64 x.f3]
structure Rentry_Change (x:Zs):Prop where
 r0:I64 x.f0
 r1:x.f1.length≤1048576∧∀ y∈x.f1,Zek y
 r2:x.f2.length≤1048576∧∀ y∈x.f2,Rentry_Cut y
 r3:I64 x.f3
structure Z2g where
 f0:ByteArray
 f1:ByteArray
 deriving DecidableEq,Inhabited
abbrev Z41 (x:Z2g):List Im:=[sI x.f0,sI x.f1]
structure RLabel (x:Z2g):Prop where
 r0:x.f0.size≤1048576
 r1:x.f1.size≤1048576
structure Z7 where
 f0:Int
 f1:Zg
 deriving DecidableEq,Inhabited
abbrev Z4 (x:Z7):List Im:=[iI .i64 x.f0,iI .i64 x.f1.f0,iI .i64 x.f1.f1,iI .i64 x.f1.f2,iI .u64 x.f1.f3,iI .u64 x.f1.f4,iI .i64 x.f1.f5,.row (x.f1.f6.map Z0),.row (x.f1.f7.map Z0)]
abbrev aSample (x:Z7):List AVal:=[iV .i64 x.f0,iV .i64 x.f1.f0,iV .i64 x.f1.f1,iV .i64 x.f1.f2,iV .u64 x.f1.f3,iV .u64 x.f1.f4,iV .i64 x.f1.f5,.im (.row (x.f1.f6.map Z0)),.im (.row (x.f1.f7.map Z0))]
structure RSample (x:Z7):Prop where
 r0:I64 x.f0
 r1:RHist x.f1
structure Tbits_Writer where
 f0:List Int
 f1:Int
 deriving DecidableEq,Inhabited
structure Rbits_Writer (x:Tbits_Writer):Prop where
 r0:x.f0.length≤1048576∧∀ y∈x.f0,Rng 0 256 y
 r1:U64 x.f1
structure Zch where
 f0:List Int
 f1:Int
 f2:Int
 deriving DecidableEq,Inhabited
abbrev Z8 (x:Zch):List AVal:=[.im (.row (x.f0.map (Z1 .u8))),iV .i64 x.f1,iV .i64 x.f2]
structure Rbits_Reader (x:Zch):Prop where
 r0:x.f0.length≤1048576∧∀ y∈x.f0,Rng 0 256 y
 r1:I64 x.f1
 r2:I64 x.f2
structure Z3e where
 f0:Int
 f1:Int
 deriving DecidableEq,Inhabited
abbrev Z2d (x:Z3e):List Im:=[iI .i64 x.f0,iI .i64 x.f1]
abbrev aSpan (x:Z3e):List AVal:=[iV .i64 x.f0,iV .i64 x.f1]
structure RSpan (x:Z3e):Prop where
 r0:I64 x.f0
 r1:I64 x.f1
structure Zd where
 f0:Int
 f1:List Z3e
 deriving DecidableEq,Inhabited
abbrev Zu (x:Zd):List AVal:=[iV .i64 x.f0,.im (.row (x.f1.map Z2d))]
structure Rspan_Layout (x:Zd):Prop where
 r0:I64 x.f0
 r1:x.f1.length≤1048576∧∀ y∈x.f1,RSpan y
structure Z35 where
 f0:List Zc
 deriving DecidableEq,Inhabited
structure Rtomb_Set (x:Z35):Prop where
 r0:x.f0.length≤1048576∧∀ y∈x.f0,Z94 y
structure Z4q where
 f0:ByteArray
 f1:Zc
 deriving DecidableEq,Inhabited
abbrev Z30 (x:Z4q):List Im:=[sI x.f0,iI .i64 x.f1.f0,iI .i64 x.f1.f1]
structure Rr15_Cut (x:Z4q):Prop where
 r0:x.f0.size≤1048576
 r1:Z94 x.f1
structure Z1j where
 f0:Int
 f1:List Z0z
 f2:List Z4q
 f3:Int
 deriving DecidableEq,Inhabited
abbrev Z5b (x:Z1j):List AVal:=[iV .i64 x.f0,.im (.row (x.f1.map Zt)),.im (.row (x.f2.map Z30)),iV .i64 x.f3]
structure Rr15_Change (x:Z1j):Prop where
 r0:I64 x.f0
 r1:x.f1.length≤1048576∧∀ y∈x.f1,Zek y
 r2:x.f2.length≤1048576∧∀ y∈x.f2,Rr15_Cut y
 r3:I64 x.f3
structure Zy where
 f0:ByteArray
 f1:Int
 f2:Z35
 f3:List Z7
 deriving DecidableEq,Inhabited
abbrev Z0n (x:Zy):List Im:=[sI x.f0,iI .i64 x.f1,.row (x.f2.f0.map Zb),.row (x.f3.map Z4)]
abbrev Zeg (x:Zy):List AVal:=[sV x.f0,iV .i64 x.f1,.im (.row (x.f2.f0.map Zb)),.im (.row (x.f3.map Z4))]
structure Rentry_Line (x:Zy):Prop where
 r0:x.f0.size≤1048576
 r1:I64 x.f1
 r2:Rtomb_Set x.f2
 r3:x.f3.length≤1048576∧∀ y∈x.f3,RSample y
structure Zo where
 f0:Int
 f1:List Int
 f2:List Zy
 deriving DecidableEq,Inhabited
abbrev Z3d (x:Zo):List AVal:=[iV .i64 x.f0,.im (.row (x.f1.map (Z1 .i64))),.im (.row (x.f2.map Z0n))]
structure Rentry_Image (x:Zo):Prop where
 r0:I64 x.f0
 r1:x.f1.length≤1048576∧∀ y∈x.f1,I64 y
 r2:x.f2.length≤1048576∧∀ y∈x.f2,Rentry_Line y
structure Z42 where
 f0:ByteArray
 f1:Int
 f2:List Zc
 f3:List Z7
 deriving DecidableEq,Inhabited
abbrev Z3t (x:Z42):List Im:=[sI x.f0,iI .i64 x.f1,.row (x.f2.map Zb),.row (x.f3.map Z4)]
abbrev Z8l (x:Z42):List AVal:=[sV x.f0,iV .i64 x.f1,.im (.row (x.f2.map Zb)),.im (.row (x.f3.map Z4))]
structure Rr15_Line (x:Z42):Prop where
 r0:x.f0.size≤1048576
 r1:I64 x.f1
 r2:x.f2.length≤1048576∧∀ y∈x.f2,Z94 y
 r3:x.f3.length≤1048576∧∀ y∈x.f3,RSample y
structure Z2j where
 f0:Int
 f1:List Int
 f2:List Z42
 deriving DecidableEq,Inhabited
abbrev Z3z (x:Z2j):List AVal:=[iV .i64 x.f0,.im (.row (x.f1.map (Z1 .i64))),.im (.row (x.f2.map Z3t))]
structure Rr15_Image (x:Z2j):Prop where
 r0:I64 x.f0
 r1:x.f1.length≤1048576∧∀ y∈x.f1,I64 y
 r2:x.f2.length≤1048576∧∀ y∈x.f2,Rr15_Line y
theorem hmx:Tryz.prog.follows .mixedOrders=true:=by kernel_rfl
def Z2l.l0 (a0:ByteArray) (x99:Int):Option (Bool ⊕ Unit):=if(decide (x99<(a0.size:Int)))=true then((chk (0≤x99∧x99<(a0.size:Int)))>>=fun _=>((if(decide ((bt a0 x99)≥(97:Int)))=true then(if(decide ((bt a0 x99)≤(122:Int)))=true then(some true) else(if(decide ((bt a0 x99)≥(65:Int)))=true then(if(decide ((bt a0 x99)≤(90:Int)))=true then(some true) else(some ((bt a0 x99)==(95:Int)))) else(some ((bt a0 x99)==(95:Int))))) else(if(decide ((bt a0 x99)≥(65:Int)))=true then(if(decide ((bt a0 x99)≤(90:Int)))=true then(some true) else(some ((bt a0 x99)==(95:Int)))) else(some ((bt a0 x99)==(95:Int))))):Option (Bool))>>=fun aa=>((if(!aa)=true then(if(x99==(0:Int))=true then(some true) else(if(decide ((bt a0 x99)<(48:Int)))=true then(some true) else(some (decide ((bt a0 x99)>(57:Int)))))) else(some false)):Option (Bool))>>=fun ab=>if ab=true then(some (.inl false)) else(Z2l.l0 a0 (i64.wrap (x99+(1:Int))))) else(some (.inr ()))
partial_fixpoint
def Z2l.f (a0:ByteArray):Option (Bool):=((if(a0.toList==(⟨#[]⟩:ByteArray).toList)=true then(some true) else(some (decide ((a0.size:Int)>(64:Int))))):Option (Bool))>>=fun x77=>if x77=true then(some false) else((Z2l.l0 a0 0)>>=fun oo=>match oo with | .inl rr=>(some rr) | .inr _=>(some true))
theorem Z2l.ok (a0:ByteArray) (r:Bool) (H:Z2l.f a0=some r):Pv.Fn Tryz.prog 148 [sV a0] [] 0 (fun x o=>x=bV r∧o=[]):=by
 unfold Z2l.f at H
 exact HT.fn H (fun r=>bV r) (fun r=>[]) [] Tryz.func148 rfl rfl hmx (.r0<|.join (.sp (fun c76=>.rg [(2,hB c76)]<|.o [])
 (fun c76=>.rg [(2,hB c76)]<|.o []))
 (.st .normal (fun x77=>⟨[(0,sV a0),(12,bV x77)],[],0⟩) fun x77=>.cd (fun c78=>.r0<|.ret [] [] [] ⟨[(2,bV false)],[],0⟩)
 (fun c78=>.r0<|.bl<|.loop (.one (Z2l.l0.partial_correctness a0)) 0 [] [] [] (fun _=>.one (fun x99=>⟨[(0,sV a0),(14,iV .i64 (a0.size:Int)),(15,iV .i64 x99)],[],0⟩) fun x99=>.r0<|.cd (fun aa=>.bl<|.r0<|.ck fun ab=>.rg [(2,hN (p2 ab))]<|.join (.sp (fun ac=>.sp (fun ad=>.rg [(2,hB ac),(6,hB ad)]<|.o [])
 (fun ad=>.sp (fun ae=>.sp (fun af=>.rg [(2,hB ac),(6,hB ad),(9,hB ae),(14,hB af)]<|.o [])
 (fun af=>.rg [(2,hB ac),(6,hB ad),(9,hB ae),(14,hB af)]<|.o []))
 (fun ae=>.rg [(2,hB ac),(6,hB ad),(9,hB ae)]<|.o [])))
 (fun ac=>.sp (fun ah=>.sp (fun ai=>.rg [(2,hB ac),(9,hB ah),(14,hB ai)]<|.o [])
 (fun ai=>.rg [(2,hB ac),(9,hB ah),(14,hB ai)]<|.o []))
 (fun ah=>.rg [(2,hB ac),(9,hB ah)]<|.o [])))
 (.st .normal (fun aj=>⟨[(0,sV a0),(3,iV .i64 x99),(4,iV .u8 (bt a0 x99)),(5,bV aj),(14,iV .i64 (a0.size:Int)),(15,iV .i64 x99)],[],0⟩) fun aj=>.join (.sp (fun ak=>.sp (fun al=>.rg [(2,hB ak),(5,hB al)]<|.o [])
 (fun al=>.sp (fun am=>.rg [(2,hB ak),(5,hB al),(9,hB am)]<|.o [])
 (fun am=>.rg [(2,hB ak),(5,hB al),(9,hB am)]<|.o [])))
 (fun ak=>.rg [(2,hB ak)]<|.o []))
 (.st .normal (fun ao=>⟨[(0,sV a0),(14,iV .i64 (a0.size:Int)),(15,iV .i64 x99),(52,bV ao)],[],0⟩) fun ao=>.cd (fun aq=>.r0<|.ret [] [] [] ⟨[(2,bV false)],[],0⟩)
 (fun aq=>.r0<|.bk [] rfl))))
 (fun aa=>.o []))
 (.sm (.rt (fun rr=>bV rr) (fun rr=>[]))
 (.st (.exit 0) (fun _=>⟨[],[],0⟩) fun _=>.r0<|.ret [] [] [] ⟨[(2,bV true)],[],0⟩)))))
def Z4n.f (a0:ByteArray):Option (Bool):=((if(!(a0.toList==(⟨#[]⟩:ByteArray).toList))=true then(some (decide ((a0.size:Int)≤(64:Int)))) else(some false)):Option (Bool))>>=fun aa=>some aa
theorem Z4n.ok (a0:ByteArray) (r:Bool) (H:Z4n.f a0=some r):Pv.Fn Tryz.prog 149 [sV a0] [] 0 (fun x o=>x=bV r∧o=[]):=by
 unfold Z4n.f at H
 exact HT.fn H (fun r=>bV r) (fun r=>[]) [] Tryz.func149 rfl rfl hmx (.r0<|.join (.sp (fun aa=>.rg [(2,hB aa)]<|.o [])
 (fun aa=>.rg [(2,hB aa)]<|.o []))
 (.st .normal (fun ab=>⟨[(2,bV ab)],[],0⟩) fun ab=>.ret [] [] [] ⟨[(2,bV ab)],[],0⟩))
def Z2x.l0 (a0:List Z2g) (aa:Int):Option (Int ⊕ Unit):=if(decide (aa<(a0.length:Int)))=true then((at? a0 aa)>>=fun ab=>(((Z2l.f ab.f0)>>=fun ac=>if(!ac)=true then(some true) else((Z4n.f ab.f1)>>=fun ad=>if(!ad)=true then(some true) else(if(decide (aa>(0:Int)))=true then((at? a0 (i64.wrap (aa-(1:Int))))>>=fun ae=>some (!Op.bytesLess ae.f0.toList ab.f0.toList)) else(some false)))):Option (Bool))>>=fun af=>if af=true then(some (.inl 26)) else(Z2x.l0 a0 (i64.wrap (aa+(1:Int))))) else(some (.inr ()))
partial_fixpoint
def Z2x.f (a0:List Z2g):Option (Int):=if(decide ((a0.length:Int)>(16:Int)))=true then(some 9) else((Z2x.l0 a0 0)>>=fun oo=>match oo with | .inl rr=>(some rr) | .inr _=>(some 0))
theorem Z2x.ok (a0:List Z2g) (r:Int) (H:Z2x.f a0=some r):Pv.Fn Tryz.prog 114 [.im (.row (a0.map Z41))] [] 0 (fun x o=>x=iV .i64 r∧o=[]):=by
 unfold Z2x.f at H
 exact HT.fn H (fun r=>iV .i64 r) (fun r=>[]) [] Tryz.func114 rfl rfl hmx (.r0<|.rg [(1,hG Z41 a0)]<|.cd (fun c67=>.r0<|.ret [] [] [] ⟨[(2,iV .i64 9)],[],0⟩)
 (fun c67=>.rg [(1,hG Z41 a0)]<|.bl<|.loop (.one (Z2x.l0.partial_correctness a0)) 0 [] [] [] (fun _=>.one (fun aa=>⟨[(0,.im (.row (a0.map Z41))),(8,.im (.row (a0.map Z41))),(9,iV .i64 (a0.length:Int)),(10,iV .i64 aa)],[],0⟩) fun aa=>.r0<|.cd (fun ab=>.bl<|.el fun ac ad ae=>.rg [(1,hA Z41 ad ae),(3,⟨.k 1,.n⟩)]<|.join (.bd fun af ah=>.sp (fun ai=>.rg [(2,hC [] [] [] [] Tryz.call148 (Z2l.ok ac.f0 af ah)),(4,hB ai)]<|.o [])
 (fun ai=>.bd fun aj ak=>.sp (fun al=>.rg [(2,hC [] [] [] [] Tryz.call148 (Z2l.ok ac.f0 af ah)),(4,hB ai),(7,hC [] [] [] [] Tryz.call149 (Z4n.ok ac.f1 aj ak)),(10,hB al)]<|.o [])
 (fun al=>.sp (fun am=>.el fun ao aq ar=>.rg [(2,hC [] [] [] [] Tryz.call148 (Z2l.ok ac.f0 af ah)),(4,hB ai),(7,hC [] [] [] [] Tryz.call149 (Z4n.ok ac.f1 aj ak)),(10,hB al),(13,hB am),(17,hA Z41 aq ar)]<|.o [])
 (fun am=>.rg [(2,hC [] [] [] [] Tryz.call148 (Z2l.ok ac.f0 af ah)),(4,hB ai),(7,hC [] [] [] [] Tryz.call149 (Z4n.ok ac.f1 aj ak)),(10,hB al),(13,hB am)]<|.o []))))
 (.st .normal (fun au=>⟨[(0,.im (.row (a0.map Z41))),(8,.im (.row (a0.map Z41))),(9,iV .i64 (a0.length:Int)),(10,iV .i64 aa),(39,bV au)],[],0⟩) fun au=>.cd (fun av=>.r0<|.ret [] [] [] ⟨[(2,iV .i64 26)],[],0⟩)
 (fun av=>.r0<|.bk [] rfl)))
 (fun ab=>.o []))
 (.sm (.rt (fun rr=>iV .i64 rr) (fun rr=>[]))
 (.st (.exit 0) (fun _=>⟨[],[],0⟩) fun _=>.r0<|.ret [] [] [] ⟨[(2,iV .i64 0)],[],0⟩))))
def Z1g.l0 (x20:ByteArray) (x21:List ByteArray):Option (((List Z2g)×Int) ⊕ (List ByteArray)):=if(decide ((x20.size:Int)>(0:Int)))=true then((chk (0≤(0:Int)∧(0:Int)<(x20.size:Int)))>>=fun _=>if(decide ((i64.wrap (bt x20 0))>(i64.wrap ((x20.size:Int)-(1:Int)))))=true then(some (.inl ([],6))) else((chk (0≤(1:Int)∧(1:Int)≤(i64.wrap ((1:Int)+(i64.wrap (bt x20 0))))∧(i64.wrap ((1:Int)+(i64.wrap (bt x20 0))))≤(x20.size:Int)))>>=fun _=>(chk ((x21.length+[x20.extract (Int.toNat ((1:Int))) (Int.toNat ((i64.wrap ((1:Int)+(i64.wrap (bt x20 0))))))].length)*16≤140737488355328))>>=fun _=>(chk (0≤(i64.wrap ((1:Int)+(i64.wrap (bt x20 0))))∧(i64.wrap ((1:Int)+(i64.wrap (bt x20 0))))≤(x20.size:Int)∧(x20.size:Int)≤(x20.size:Int)))>>=fun _=>Z1g.l0  (x20.extract (Int.toNat ((i64.wrap ((1:Int)+(i64.wrap (bt x20 0)))))) (Int.toNat ((x20.size:Int)))) (x21++[x20.extract (Int.toNat ((1:Int))) (Int.toNat ((i64.wrap ((1:Int)+(i64.wrap (bt x20 0))))))]))) else(some (.inr x21))
partial_fixpoint
def Z1g.l1 (x32:List ByteArray) (x49:List Z2g) (x50:Int):Option (List Z2g):=if(decide (x50<(x32.length:Int)))=true then((at? x32 x50)>>=fun b59=>(at? x32 (i64.wrap (x50+(1:Int))))>>=fun b62=>(chk ((x49.length+[(⟨b59,b62⟩:Z2g)].length)*32≤140737488355328))>>=fun _=>Z1g.l1 x32 (x49++[(⟨b59,b62⟩:Z2g)]) (i64.wrap (x50+(2:Int)))) else(some x49)
partial_fixpoint
def Z1g.f (a0:ByteArray):Option ((List Z2g)×Int):=(Z1g.l0  a0 [])>>=fun oo=>match oo with | .inl rr=>(some rr) | .inr x32=>(if((Int.tmod (x32.length:Int) (2:Int))==(1:Int))=true then(some ([],6)) else((Z1g.l1 x32 [] 0)>>=fun x66=>(Z2x.f x66)>>=fun aa=>if(aa != (0:Int))=true then(some ([],6)) else(some (x66,0))))
theorem Z1g.ok (a0:ByteArray) (r:(List Z2g)×Int) (H:Z1g.f a0=some r):Pv.Fn Tryz.prog 82 [sV a0] [] 0 (fun x o=>x = .tup [.own 0,iV .i64 r.2]∧o=[(0,some (.row 2 130 (r.1.map Z41)))]):=by
 unfold Z1g.f at H
 exact HT.fn H (fun r=>.tup [.own 0,iV .i64 r.2]) (fun r=>[(0,some (.row 2 130 (r.1.map Z41)))]) [0] Tryz.func82 rfl rfl hmx (.r0<|.r0<|.bl<|.loop (.c2 (Z1g.l0.partial_correctness )) (a0,[]) [] [] [2] (fun _=>.pr fun x20=>.one (fun x21=>⟨[(0,sV x20),(4,.own 2)],[(2,some (.row 1 9 (x21.map Z5x)))],0⟩) fun x21=>.r0<|.cd (fun c22=>.bl<|.ck fun c24=>.rg [(1,hN (p2 c24))]<|.r0<|.cd (fun c25=>.r0<|.ret [] [] [0] ⟨[(2,.own 0),(3,iV .i64 6)],[(0,some (.row 2 130 ([].map Z41)))],0⟩)
 (fun c25=>.ck fun c28=>.ck fun c29=>.rg [(4,hN (p3 c28)),(5,hQ 3 Z5x ([x20.extract (Int.toNat ((1:Int))) (Int.toNat ((i64.wrap ((1:Int)+(i64.wrap (bt x20 0))))))]:List ByteArray)),(6,hP 4 Z5x 1 c29)]<|.ck fun c31=>.rg [(3,hN (p3 c31))]<|.bk [(4,2)] rfl))
 (fun c22=>.o [(2,5)]))
 (.sm (.rt (fun rr=>.tup [.own 0,iV .i64 rr.2]) (fun rr=>[(0,some (.row 2 130 (rr.1.map Z41)))]))
 (.st (.exit 0) (fun x32=>⟨[(4,.own 5)],[(5,some (.row 1 9 (x32.map Z5x)))],0⟩) fun x32=>.rg [(1,hG Z5x x32),(2,hJ 2)]<|.cd (fun c33=>.r0<|.ret [] [] [0] ⟨[(2,.own 0),(3,iV .i64 6)],[(0,some (.row 2 130 ([].map Z41)))],0⟩)
 (fun c33=>.r0<|.r0<|.bl<|.loop (.c2 (Z1g.l1.partial_correctness x32)) ([],0) [(5,8)] [] [9] (fun _=>.pr fun x49=>.one (fun x50=>⟨[(4,.own 8),(6,.own 9),(7,iV .i64 x50)],[(8,some (.row 1 9 (x32.map Z5x))),(9,some (.row 2 130 (x49.map Z41)))],0⟩) fun x50=>.rg [(2,hG Z5x x32)]<|.cd (fun c51=>.bl<|.el fun b59 p60 q61=>.el fun b62 p63 q64=>.ck fun c65=>.rg [(3,hX Z5x p60 q61),(4,hL Z5x q61),(8,hX Z5x p63 q64),(9,hL Z5x q64),(11,hQ 10 Z41 ([(⟨b59,b62⟩:Z2g)]:List Z2g)),(12,hP 11 Z41 2 c65)]<|.r0<|.bk [(8,8),(11,9)] rfl)
 (fun c51=>.o [(9,12)]))
 (.st (.exit 2) (fun x66=>⟨[(6,.own 12)],[(12,some (.row 2 130 (x66.map Z41)))],0⟩) fun x66=>.bd fun aa ab=>.rg [(1,hC [] [] [12] [] Tryz.call114 (Z2x.ok x66 aa ab))]<|.cd (fun ac=>.r0<|.ret [] [] [0] ⟨[(2,.own 0),(3,iV .i64 6)],[(0,some (.row 2 130 ([].map Z41)))],0⟩)
 (fun ac=>.r0<|.ret [(12,0)] [] [] ⟨[(2,.own 0),(3,iV .i64 0)],[(0,some (.row 2 130 (x66.map Z41)))],0⟩))))))
def Z27.f (a0:ByteArray):Option (Bool):=(Z1g.f a0)>>=fun aa=>some (aa.2==(0:Int))
theorem Z27.ok (a0:ByteArray) (r:Bool) (H:Z27.f a0=some r):Pv.Fn Tryz.prog 39 [sV a0] [] 0 (fun x o=>x=bV r∧o=[]):=by
 unfold Z27.f at H
 exact HT.fn H (fun r=>bV r) (fun r=>[]) [] Tryz.func39 rfl rfl hmx (.r0<|.bd fun aa ab=>.rg [(1,hC [] [(0,0)] [] [0] Tryz.call82 (Z1g.ok a0 aa ab))]<|.r0<|.ret [] [] [] ⟨[(2,bV (aa.2==(0:Int)))],[],0⟩)
def Z0s.f (a0:Int):Option (Bool):=((if(decide (a0≥(-4)))=true then(some (decide (a0≤(8:Int)))) else(some false)):Option (Bool))>>=fun aa=>some aa
theorem Z0s.ok (a0:Int) (r:Bool) (H:Z0s.f a0=some r):Pv.Fn Tryz.prog 93 [iV .i64 a0] [] 0 (fun x o=>x=bV r∧o=[]):=by
 unfold Z0s.f at H
 exact HT.fn H (fun r=>bV r) (fun r=>[]) [] Tryz.func93 rfl rfl hmx (.r0<|.join (.sp (fun aa=>.rg [(2,hB aa)]<|.o [])
 (fun aa=>.rg [(2,hB aa)]<|.o []))
 (.st .normal (fun ab=>⟨[(2,bV ab)],[],0⟩) fun ab=>.ret [] [] [] ⟨[(2,bV ab)],[],0⟩))
def Z49.f (a0:Int):Option (Unit):=some ()
theorem Z49.ok (a0:Int) (r:Unit) (H:Z49.f a0=some r):Pv.Fn Tryz.prog 175 [iV .i64 a0] [] 0 (fun x o=>x=iV .u64 (u64.wrap (i64.wrap ((8:Int)-a0)))∧o=[]):=by
 unfold Z49.f at H
 exact HT.fn H (fun r=>iV .u64 (u64.wrap (i64.wrap ((8:Int)-a0)))) (fun r=>[]) [] Tryz.func175 rfl rfl hmx (.r0<|.r0<|.ret [] [] [] ⟨[(2,iV .u64 (u64.wrap (i64.wrap ((8:Int)-a0))))],[],0⟩)
def Z40.f (a0:Int):Option (Int):=(Z0s.f a0)>>=fun aa=>if(!aa)=true then(some 0) else((Z49.f a0)>>=fun ab=>(chk (0≤(u64.wrap (i64.wrap ((8:Int)-a0)))))>>=fun _=>some (Int.fdiv (262144:Int) (2 ^ (min (Int.toNat (u64.wrap (i64.wrap ((8:Int)-a0)))) 64))))
theorem Z40.ok (a0:Int) (r:Int) (H:Z40.f a0=some r):Pv.Fn Tryz.prog 162 [iV .i64 a0] [] 0 (fun x o=>x=iV .i64 r∧o=[]):=by
 unfold Z40.f at H
 exact HT.fn H (fun r=>iV .i64 r) (fun r=>[]) [] Tryz.func162 rfl rfl hmx (.r0<|.bd fun aa ab=>.rg [(1,hC [] [] [] [] Tryz.call93 (Z0s.ok a0 aa ab))]<|.cd (fun ac=>.r0<|.ret [] [] [] ⟨[(2,iV .i64 0)],[],0⟩)
 (fun ac=>.bd fun ad ae=>.ck fun af=>.rg [(1,hC [] [] [] [] Tryz.call175 (Z49.ok a0 ad ae)),(2,hN (p1 af))]<|.ret [] [] [] ⟨[(2,iV .i64 (Int.fdiv (262144:Int) (2 ^ (min (Int.toNat (u64.wrap (i64.wrap ((8:Int)-a0)))) 64))))],[],0⟩))
def Z4o.f (a0:Int):Option (Int):=(Z40.f a0)>>=fun aa=>some (i64.wrap ((i64.wrap (0-aa))+(1:Int)))
theorem Z4o.ok (a0:Int) (r:Int) (H:Z4o.f a0=some r):Pv.Fn Tryz.prog 161 [iV .i64 a0] [] 0 (fun x o=>x=iV .i64 r∧o=[]):=by
 unfold Z4o.f at H
 exact HT.fn H (fun r=>iV .i64 r) (fun r=>[]) [] Tryz.func161 rfl rfl hmx (.r0<|.bd fun aa ab=>.rg [(1,hC [] [] [] [] Tryz.call162 (Z40.ok a0 aa ab))]<|.ret [] [] [] ⟨[(2,iV .i64 (i64.wrap ((i64.wrap (0-aa))+(1:Int))))],[],0⟩)
def Z5f.f (a0:Int) (a1:Int):Option (Bool):=(((Z0s.f a0)>>=fun aa=>if aa=true then((Z4o.f a0)>>=fun ab=>if(decide (a1≥ab))=true then((Z40.f a0)>>=fun ac=>some (decide (a1≤ac))) else(some false)) else(some false)):Option (Bool))>>=fun ad=>some ad
theorem Z5f.ok (a0:Int) (a1:Int) (r:Bool) (H:Z5f.f a0 a1=some r):Pv.Fn Tryz.prog 124 [iV .i64 a0,iV .i64 a1] [] 0 (fun x o=>x=bV r∧o=[]):=by
 unfold Z5f.f at H
 exact HT.fn H (fun r=>bV r) (fun r=>[]) [] Tryz.func124 rfl rfl hmx (.r0<|.join (.bd fun aa ab=>.sp (fun ac=>.bd fun ad ae=>.sp (fun af=>.bd fun ah ai=>.rg [(1,hC [] [] [] [] Tryz.call93 (Z0s.ok a0 aa ab)),(2,hB ac),(5,hC [] [] [] [] Tryz.call161 (Z4o.ok a0 ad ae)),(8,hB af),(11,hC [] [] [] [] Tryz.call162 (Z40.ok a0 ah ai))]<|.o [])
 (fun af=>.rg [(1,hC [] [] [] [] Tryz.call93 (Z0s.ok a0 aa ab)),(2,hB ac),(5,hC [] [] [] [] Tryz.call161 (Z4o.ok a0 ad ae)),(8,hB af)]<|.o []))
 (fun ac=>.rg [(1,hC [] [] [] [] Tryz.call93 (Z0s.ok a0 aa ab)),(2,hB ac)]<|.o []))
 (.st .normal (fun aj=>⟨[(4,bV aj)],[],0⟩) fun aj=>.ret [] [] [] ⟨[(4,bV aj)],[],0⟩))
def Z2i.f (a0:Int) (a1:Int):Option (Int):=(Z0s.f a0)>>=fun aa=>if(!aa)=true then(some 0) else((Z49.f a0)>>=fun ab=>(chk (0≤(u64.wrap (i64.wrap ((8:Int)-a0)))))>>=fun _=>some (i64.wrap (a1*2 ^ (min (Int.toNat (u64.wrap (i64.wrap ((8:Int)-a0)))) 64))))
theorem Z2i.ok (a0:Int) (a1:Int) (r:Int) (H:Z2i.f a0 a1=some r):Pv.Fn Tryz.prog 163 [iV .i64 a0,iV .i64 a1] [] 0 (fun x o=>x=iV .i64 r∧o=[]):=by
 unfold Z2i.f at H
 exact HT.fn H (fun r=>iV .i64 r) (fun r=>[]) [] Tryz.func163 rfl rfl hmx (.r0<|.bd fun aa ab=>.rg [(1,hC [] [] [] [] Tryz.call93 (Z0s.ok a0 aa ab))]<|.cd (fun ac=>.r0<|.ret [] [] [] ⟨[(4,iV .i64 0)],[],0⟩)
 (fun ac=>.bd fun ad ae=>.ck fun af=>.rg [(2,hC [] [] [] [] Tryz.call175 (Z49.ok a0 ad ae)),(3,hN (p1 af))]<|.ret [] [] [] ⟨[(4,iV .i64 (i64.wrap (a1*2 ^ (min (Int.toNat (u64.wrap (i64.wrap ((8:Int)-a0)))) 64))))],[],0⟩))
def Z4f.f (a0:Int) (a1:Int):Option (Int):=(Z2i.f a0 (i64.wrap (a1-(1:Int))))>>=fun aa=>some aa
theorem Z4f.ok (a0:Int) (a1:Int) (r:Int) (H:Z4f.f a0 a1=some r):Pv.Fn Tryz.prog 125 [iV .i64 a0,iV .i64 a1] [] 0 (fun x o=>x=iV .i64 r∧o=[]):=by
 unfold Z4f.f at H
 exact HT.fn H (fun r=>iV .i64 r) (fun r=>[]) [] Tryz.func125 rfl rfl hmx (.r0<|.bd fun aa ab=>.rg [(3,hC [] [] [] [] Tryz.call163 (Z2i.ok a0 (i64.wrap (a1-(1:Int))) aa ab))]<|.ret [] [] [] ⟨[(4,iV .i64 aa)],[],0⟩)
def Zz.l0 (a0:Zg) (a1:List Z2) (aa:Int):Option (Int ⊕ Unit):=if(decide (aa<(a1.length:Int)))=true then((at? a1 aa)>>=fun ab=>(Z5f.f a0.f1 ab.f0)>>=fun ac=>if(!ac)=true then(some (.inl 4)) else(((if(decide (aa>(0:Int)))=true then((at? a1 (i64.wrap (aa-(1:Int))))>>=fun ad=>some (decide (ad.f0≥ab.f0))) else(some false)):Option (Bool))>>=fun ae=>if ae=true then(some (.inl 32)) else(if(ab.f1==(0:Int))=true then(some (.inl 21)) else((Z4f.f a0.f1 ab.f0)>>=fun af=>if(decide (af<a0.f2))=true then(some (.inl 31)) else(Zz.l0 a0 a1 (i64.wrap (aa+(1:Int)))))))) else(some (.inr ()))
partial_fixpoint
def Zz.f (a0:Zg) (a1:List Z2):Option (Int):=if(decide ((a1.length:Int)>(512:Int)))=true then(some 9) else((Zz.l0 a0 a1 0)>>=fun oo=>match oo with | .inl rr=>(some rr) | .inr _=>(some 0))
theorem Zz.ok (a0:Zg) (a1:List Z2) (r:Int) (H:Zz.f a0 a1=some r):Pv.Fn Tryz.prog 94 [.agg (Z0r a0),.im (.row (a1.map Z0))] [] 0 (fun x o=>x=iV .i64 r∧o=[]):=by
 unfold Zz.f at H
 exact HT.fn H (fun r=>iV .i64 r) (fun r=>[]) [] Tryz.func94 rfl rfl hmx (.rg [(0,⟨.k 0,.n⟩)]<|.rg [(1,hG Z0 a1)]<|.cd (fun aa=>.r0<|.ret [] [] [] ⟨[(4,iV .i64 9)],[],0⟩)
 (fun aa=>.rg [(1,hG Z0 a1)]<|.bl<|.loop (.one (Zz.l0.partial_correctness a0 a1)) 0 [(0,2)] [] [] (fun _=>.one (fun ab=>⟨[(1,.im (.row (a1.map Z0))),(2,.ptr 2 0 0),(10,.im (.row (a1.map Z0))),(11,iV .i64 (a1.length:Int)),(12,iV .i64 ab)],[(2,some (.box 48 (Z0r a0)))],0⟩) fun ab=>.r0<|.cd (fun ac=>.bl<|.el fun ad ae af=>.rg [(1,hA Z0 ae af),(3,⟨.k 3,.n⟩)]<|.bl<|.bd fun ah ai=>.rg [(4,hC [] [] [] [] Tryz.call124 (Z5f.ok a0.f1 ad.f0 ah ai))]<|.cd (fun aj=>.r0<|.ret [] [] [] ⟨[(4,iV .i64 4)],[],0⟩)
 (fun aj=>.join (.sp (fun ak=>.el fun al am ao=>.rg [(2,hB ak),(6,hA Z0 am ao)]<|.o [(2,4),(3,5)])
 (fun ak=>.rg [(2,hB ak)]<|.o [(2,4),(3,5)]))
 (.st .normal (fun aq=>⟨[(1,.im (.row (a1.map Z0))),(2,.ptr 4 0 0),(6,.ptr 5 0 0),(10,.im (.row (a1.map Z0))),(11,iV .i64 (a1.length:Int)),(12,iV .i64 ab),(24,bV aq)],[(4,some (.box 48 (Z0r a0))),(5,some (.box 136 (Z82 ad)))],0⟩) fun aq=>.cd (fun ar=>.r0<|.ret [] [] [] ⟨[(4,iV .i64 32)],[],0⟩)
 (fun ar=>.r0<|.cd (fun au=>.r0<|.ret [] [] [] ⟨[(4,iV .i64 21)],[],0⟩)
 (fun au=>.bd fun av ax=>.rg [(4,hC [] [] [] [] Tryz.call125 (Z4f.ok a0.f1 ad.f0 av ax))]<|.cd (fun az=>.r0<|.ret [] [] [] ⟨[(4,iV .i64 31)],[],0⟩)
 (fun az=>.r0<|.bk [(4,2)] rfl))))))
 (fun ac=>.o []))
 (.sm (.rt (fun rr=>iV .i64 rr) (fun rr=>[]))
 (.st (.exit 0) (fun _=>⟨[],[],0⟩) fun _=>.r0<|.ret [] [] [] ⟨[(4,iV .i64 0)],[],0⟩))))
def Z3w.l0 (a0:List Int) (aa:Int) (ab:Int):Option ((Int×Int) ⊕ Int):=if(decide (ab<(a0.length:Int)))=true then((at? a0 ab)>>=fun ac=>(chk (0≤aa∧0≤ac∧0≤(0:Int)∧(0:Int)≤(1:Int)))>>=fun _=>if(((aa+ac+(0:Int)) / 18446744073709551616) != (0:Int))=true then(some (.inl (0,5))) else(Z3w.l0 a0 ((aa+ac+(0:Int)) % 18446744073709551616) (i64.wrap (ab+(1:Int))))) else(some (.inr aa))
partial_fixpoint
def Z3w.f (a0:List Int):Option (Int×Int):=(Z3w.l0 a0 0 0)>>=fun oo=>match oo with | .inl rr=>(some rr) | .inr aa=>(some (aa,0))
theorem Z3w.ok (a0:List Int) (r:Int×Int) (H:Z3w.f a0=some r):Pv.Fn Tryz.prog 126 [.im (.row (a0.map (Z1 .u64)))] [] 0 (fun x o=>x = .tup [iV .u64 r.1,iV .i64 r.2]∧o=[]):=by
 unfold Z3w.f at H
 exact HT.fn H (fun r=>.tup [iV .u64 r.1,iV .i64 r.2]) (fun r=>[]) [] Tryz.func126 rfl rfl hmx (.r0<|.r0<|.rg [(1,hG (Z1 .u64) a0)]<|.bl<|.loop (.c2 (Z3w.l0.partial_correctness a0)) (0,0) [] [] [] (fun _=>.pr fun aa=>.one (fun ab=>⟨[(4,iV .u64 aa),(9,.im (.row (a0.map (Z1 .u64)))),(10,iV .i64 (a0.length:Int)),(11,iV .i64 ab)],[],0⟩) fun ab=>.r0<|.cd (fun ac=>.bl<|.el fun ad ae af=>.rg [(0,hA (Z1 .u64) ae af)]<|.ck fun ah=>.rg [(2,⟨.ext (.tup [iV .u64 ((aa+ad+(0:Int)) % 18446744073709551616),iV .u64 ((aa+ad+(0:Int)) / 18446744073709551616)]),.c (p:=∀ w,(callFunc 164 ([.int .u64 aa,.int .u64 ad,.int .u64 (0:Int)]:List Value).toArray).run Tryz.prog w = .ok (.value (.tuple #[.int .u64 ((aa+ad+(0:Int)) % 18446744073709551616),.int .u64 ((aa+ad+(0:Int)) / 18446744073709551616)])) w) (fun w=>x_add64 (fn:=Tryz.f164) Tryz.func164 (by kernel_rfl) rfl (by kernel_rfl) (by kernel_rfl) ah w) .n⟩)]<|.r0<|.cd (fun ai=>.r0<|.ret [] [] [] ⟨[(2,iV .u64 0),(3,iV .i64 5)],[],0⟩)
 (fun ai=>.r0<|.r0<|.bk [] rfl))
 (fun ac=>.o []))
 (.sm (.rt (fun rr=>.tup [iV .u64 rr.1,iV .i64 rr.2]) (fun rr=>[]))
 (.st (.exit 0) (fun aj=>⟨[(4,iV .u64 aj)],[],0⟩) fun aj=>.r0<|.ret [] [] [] ⟨[(2,iV .u64 aj),(3,iV .i64 0)],[],0⟩)))
def Z1r.l1 (a0:List (List Z2)) (aa:List Z2) (ab:Int) (ac:Int) (ad:Int):Option ((Int×Int) ⊕ Int):=if(decide (ad<(aa.length:Int)))=true then((at? aa ad)>>=fun ae=>(Z3w.f [ac,ae.f1])>>=fun af=>if(af.2 != (0:Int))=true then(some (.inl (0,af.2))) else(Z1r.l1 a0 aa ab af.1 (i64.wrap (ad+(1:Int))))) else(some (.inr ac))
partial_fixpoint
def Z1r.l0 (a0:List (List Z2)) (aa:Int) (ab:Int):Option ((Int×Int) ⊕ Int):=if(decide (ab<(a0.length:Int)))=true then((at? a0 ab)>>=fun ac=>(Z1r.l1 a0 ac ab aa 0)>>=fun oo=>match oo with | .inl rr=>(some (.inl rr)) | .inr ad=>(Z1r.l0 a0 ad (i64.wrap (ab+(1:Int))))) else(some (.inr aa))
partial_fixpoint
def Z1r.f (a0:List (List Z2)):Option (Int×Int):=(Z1r.l0 a0 0 0)>>=fun oo=>match oo with | .inl rr=>(some rr) | .inr aa=>(some (aa,0))
theorem Z1r.ok (a0:List (List Z2)) (r:Int×Int) (H:Z1r.f a0=some r):Pv.Fn Tryz.prog 95 [.im (.row (a0.map (Z20 Z0)))] [] 0 (fun x o=>x = .tup [iV .u64 r.1,iV .i64 r.2]∧o=[]):=by
 unfold Z1r.f at H
 exact HT.fn H (fun r=>.tup [iV .u64 r.1,iV .i64 r.2]) (fun r=>[]) [] Tryz.func95 rfl rfl hmx (.r0<|.r0<|.rg [(1,hG (Z20 Z0) a0)]<|.bl<|.loop (.c2 (Z1r.l0.partial_correctness a0)) (0,0) [] [] [] (fun _=>.pr fun aa=>.one (fun ab=>⟨[(4,iV .u64 aa),(10,.im (.row (a0.map (Z20 Z0)))),(11,iV .i64 (a0.length:Int)),(12,iV .i64 ab)],[],0⟩) fun ab=>.r0<|.cd (fun ac=>.bl<|.el fun ad ae af=>.rg [(0,hA (Z20 Z0) ae af)]<|.rg [(1,hG Z0 ad)]<|.bl<|.loop (.c2 (Z1r.l1.partial_correctness a0 ad ab)) (aa,0) [] [] [] (fun _=>.pr fun ah=>.one (fun ai=>⟨[(4,iV .u64 ah),(10,.im (.row (a0.map (Z20 Z0)))),(11,iV .i64 (a0.length:Int)),(12,iV .i64 ab),(16,.im (.row (ad.map Z0))),(17,iV .i64 (ad.length:Int)),(18,iV .i64 ai)],[],0⟩) fun ai=>.r0<|.cd (fun aj=>.bl<|.el fun ak al am=>.rg [(0,hA Z0 al am),(2,⟨.k 6,.n⟩)]<|.r0<|.bd fun ao aq=>.rg [(3,hQ 7 (Z1 .u64) ([ah,ak.f1]:List Int)),(4,hC [] [] [7] [] Tryz.call126 (Z3w.ok [ah,ak.f1] ao aq))]<|.r0<|.cd (fun ar=>.r0<|.ret [] [] [] ⟨[(2,iV .u64 0),(3,iV .i64 ao.2)],[],0⟩)
 (fun ar=>.r0<|.bk [] rfl))
 (fun aj=>.o []))
 (.sm (.rt (fun rr=>.tup [iV .u64 rr.1,iV .i64 rr.2]) (fun rr=>[]))
 (.st (.exit 2) (fun au=>⟨[(4,iV .u64 au),(10,.im (.row (a0.map (Z20 Z0)))),(11,iV .i64 (a0.length:Int)),(12,iV .i64 ab)],[],0⟩) fun au=>.r0<|.bk [] rfl)))
 (fun ac=>.o []))
 (.sm (.rt (fun rr=>.tup [iV .u64 rr.1,iV .i64 rr.2]) (fun rr=>[]))
 (.st (.exit 0) (fun av=>⟨[(4,iV .u64 av)],[],0⟩) fun av=>.r0<|.ret [] [] [] ⟨[(2,iV .u64 av),(3,iV .i64 0)],[],0⟩)))
def Z0j.l0 (a0:Zg) (aa:Int):Option (Int ⊕ Unit):=if(decide (aa<(2:Int)))=true then((((chk (0≤aa∧aa<(2:Int)))>>=fun _=>if(aa==(0:Int))=true then(some a0.f6) else(some a0.f7)):Option (List Z2))>>=fun ab=>(Zz.f a0 ab)>>=fun ac=>if(ac != (0:Int))=true then(some (.inl ac)) else(Z0j.l0 a0 (i64.wrap (aa+(1:Int))))) else(some (.inr ()))
partial_fixpoint
def Z0j.f (a0:Zg):Option (Int):=((if(a0.f0 != (0:Int))=true then(some (a0.f0 != (1:Int))) else(some false)):Option (Bool))>>=fun aa=>if aa=true then(some 25) else((Z0s.f a0.f1)>>=fun ab=>if(!ab)=true then(some 20) else(((if(a0.f2 != (-524288))=true then(if(decide (a0.f2≤(-262144)))=true then(some true) else(some (decide (a0.f2>(262144:Int))))) else(some false)):Option (Bool))>>=fun ac=>if ac=true then(some 31) else((Z0j.l0 a0 0)>>=fun oo=>match oo with | .inl rr=>(some rr) | .inr _=>((Z1r.f [a0.f6,a0.f7,[(⟨0,a0.f3⟩:Z2)]])>>=fun ad=>if(ad.2 != (0:Int))=true then(some ad.2) else(if(ad.1 != a0.f4)=true then(some 21) else(some 0))))))
theorem Z0j.ok (a0:Zg) (r:Int) (H:Z0j.f a0=some r):Pv.Fn Tryz.prog 57 [.agg (Z0r a0)] [] 0 (fun x o=>x=iV .i64 r∧o=[]):=by
 unfold Z0j.f at H
 exact HT.fn H (fun r=>iV .i64 r) (fun r=>[]) [] Tryz.func57 rfl rfl hmx (.rg [(0,⟨.k 0,.n⟩)]<|.bl<|.join (.sp (fun aa=>.rg [(3,hB aa)]<|.o [(0,1)])
 (fun aa=>.rg [(3,hB aa)]<|.o [(0,1)]))
 (.st .normal (fun ab=>⟨[(1,.ptr 1 0 0),(8,bV ab)],[(1,some (.box 48 (Z0r a0)))],0⟩) fun ab=>.cd (fun ac=>.r0<|.ret [] [] [] ⟨[(2,iV .i64 25)],[],0⟩)
 (fun ac=>.bd fun ad ae=>.rg [(2,hC [] [] [] [] Tryz.call93 (Z0s.ok a0.f1 ad ae))]<|.cd (fun af=>.r0<|.ret [] [] [] ⟨[(2,iV .i64 20)],[],0⟩)
 (fun af=>.join (.sp (fun ah=>.sp (fun ai=>.rg [(3,hB ah),(7,hB ai)]<|.o [(1,2)])
 (fun ai=>.rg [(3,hB ah),(7,hB ai)]<|.o [(1,2)]))
 (fun ah=>.rg [(3,hB ah)]<|.o [(1,2)]))
 (.st .normal (fun aj=>⟨[(1,.ptr 2 0 0),(22,bV aj)],[(2,some (.box 48 (Z0r a0)))],0⟩) fun aj=>.cd (fun ak=>.r0<|.ret [] [] [] ⟨[(2,iV .i64 31)],[],0⟩)
 (fun ak=>.r0<|.bl<|.loop (.one (Z0j.l0.partial_correctness a0)) 0 [(2,3)] [] [] (fun _=>.one (fun al=>⟨[(1,.ptr 3 0 0),(40,.agg [.im (.row (a0.f6.map Z0)),.im (.row (a0.f7.map Z0))]),(41,iV .i64 al)],[(3,some (.box 48 (Z0r a0)))],0⟩) fun al=>.r0<|.cd (fun am=>.bl<|.join (.ck fun ao=>.sp (fun aq=>.rg [(0,⟨.more (xIdx 0),.c (p:=al=((0:Nat):Int)) ((by simpa using aq)) .n⟩)]<|.o [(3,4)])
 (fun aq=>.rg [(0,⟨.more (xIdx 1),.c (p:=al=((1:Nat):Int)) (by have:=ao;simp only[beq_eq_false_iff_ne] at *;omega) .n⟩)]<|.o [(3,4)]))
 (.st .normal (fun ar=>⟨[(1,.ptr 4 0 0),(4,.im (.row (ar.map Z0))),(40,.agg [.im (.row (a0.f6.map Z0)),.im (.row (a0.f7.map Z0))]),(41,iV .i64 al)],[(4,some (.box 48 (Z0r a0)))],0⟩) fun ar=>.bd fun au av=>.rg [(2,hC [] [] [] [] Tryz.call94 (Zz.ok a0 ar au av))]<|.r0<|.cd (fun ax=>.r0<|.ret [] [] [] ⟨[(2,iV .i64 au)],[],0⟩)
 (fun ax=>.r0<|.bk [(4,3)] rfl)))
 (fun am=>.o [(3,5)]))
 (.sm (.rt (fun rr=>iV .i64 rr) (fun rr=>[]))
 (.st (.exit 1) (fun _=>⟨[(1,.ptr 5 0 0)],[(5,some (.box 48 (Z0r a0)))],0⟩) fun _=>.bd fun az a9=>.rg [(7,fzI (hQ 6 Z0 ([(⟨0,a0.f3⟩:Z2)]:List Z2))),(8,hQ 7 (Z20 Z0) ([a0.f6,a0.f7,[(⟨0,a0.f3⟩:Z2)]]:List (List Z2))),(9,hC [] [] [7] [] Tryz.call95 (Z1r.ok [a0.f6,a0.f7,[(⟨0,a0.f3⟩:Z2)]] az a9))]<|.bl<|.r0<|.cd (fun ba=>.r0<|.ret [] [] [] ⟨[(2,iV .i64 az.2)],[],0⟩)
 (fun ba=>.r0<|.cd (fun bb=>.r0<|.ret [] [] [] ⟨[(2,iV .i64 21)],[],0⟩)
 (fun bb=>.r0<|.ret [] [] [] ⟨[(2,iV .i64 0)],[],0⟩))))))))))
def Z0w.l0 (a0:List Z7) (aa:Int):Option (Bool ⊕ Unit):=if(decide (aa<(a0.length:Int)))=true then((at? a0 aa)>>=fun ab=>((if(decide (ab.f0<(0:Int)))=true then(some true) else(if(decide (ab.f0>(1099511627776:Int)))=true then(some true) else((Z0j.f ab.f1)>>=fun ac=>if(ac != (0:Int))=true then(some true) else(if(decide (aa>(0:Int)))=true then((at? a0 (i64.wrap (aa-(1:Int))))>>=fun ad=>some (decide (ad.f0≥ab.f0))) else(some false))))):Option (Bool))>>=fun ae=>if ae=true then(some (.inl false)) else(Z0w.l0 a0 (i64.wrap (aa+(1:Int))))) else(some (.inr ()))
partial_fixpoint
def Z0w.f (a0:List Z7):Option (Bool):=(Z0w.l0 a0 0)>>=fun oo=>match oo with | .inl rr=>(some rr) | .inr _=>(some true)
theorem Z0w.ok (a0:List Z7) (r:Bool) (H:Z0w.f a0=some r):Pv.Fn Tryz.prog 18 [.im (.row (a0.map Z4))] [] 0 (fun x o=>x=bV r∧o=[]):=by
 unfold Z0w.f at H
 exact HT.fn H (fun r=>bV r) (fun r=>[]) [] Tryz.func18 rfl rfl hmx (.r0<|.rg [(1,hG Z4 a0)]<|.bl<|.loop (.one (Z0w.l0.partial_correctness a0)) 0 [] [] [] (fun _=>.one (fun aa=>⟨[(0,.im (.row (a0.map Z4))),(5,.im (.row (a0.map Z4))),(6,iV .i64 (a0.length:Int)),(7,iV .i64 aa)],[],0⟩) fun aa=>.r0<|.cd (fun ab=>.bl<|.el fun ac ad ae=>.rg [(1,hA Z4 ad ae),(3,⟨.k 1,.n⟩)]<|.join (.sp (fun af=>.rg [(3,hB af)]<|.o [])
 (fun af=>.sp (fun ah=>.rg [(3,hB af),(8,hB ah)]<|.o [])
 (fun ah=>.bd fun ai aj=>.sp (fun ak=>.rg [(3,hB af),(8,hB ah),(11,hC [] [] [] [] Tryz.call57 (Z0j.ok ac.f1 ai aj)),(14,hB ak)]<|.o [])
 (fun ak=>.sp (fun al=>.el fun am ao aq=>.rg [(3,hB af),(8,hB ah),(11,hC [] [] [] [] Tryz.call57 (Z0j.ok ac.f1 ai aj)),(14,hB ak),(17,hB al),(21,hA Z4 ao aq)]<|.o [])
 (fun al=>.rg [(3,hB af),(8,hB ah),(11,hC [] [] [] [] Tryz.call57 (Z0j.ok ac.f1 ai aj)),(14,hB ak),(17,hB al)]<|.o [])))))
 (.st .normal (fun ar=>⟨[(0,.im (.row (a0.map Z4))),(5,.im (.row (a0.map Z4))),(6,iV .i64 (a0.length:Int)),(7,iV .i64 aa),(40,bV ar)],[],0⟩) fun ar=>.cd (fun au=>.r0<|.ret [] [] [] ⟨[(2,bV false)],[],0⟩)
 (fun au=>.r0<|.bk [] rfl)))
 (fun ab=>.o []))
 (.sm (.rt (fun rr=>bV rr) (fun rr=>[]))
 (.st (.exit 0) (fun _=>⟨[],[],0⟩) fun _=>.r0<|.ret [] [] [] ⟨[(2,bV true)],[],0⟩)))
def Z52.f (a0:Zc):Option (Bool):=((if(decide (a0.f0≥(0:Int)))=true then(if(decide (a0.f0≤a0.f1))=true then(some (decide (a0.f1≤(1099511627776:Int)))) else(some false)) else(some false)):Option (Bool))>>=fun aa=>some aa
theorem Z52.ok (a0:Zc) (r:Bool) (H:Z52.f a0=some r):Pv.Fn Tryz.prog 40 [.agg [iV .i64 a0.f0,iV .i64 a0.f1]] [] 0 (fun x o=>x=bV r∧o=[]):=by
 unfold Z52.f at H
 exact HT.fn H (fun r=>bV r) (fun r=>[]) [] Tryz.func40 rfl rfl hmx (.rg [(0,⟨.k 0,.n⟩)]<|.join (.sp (fun aa=>.sp (fun ab=>.rg [(3,hB aa),(10,hB ab)]<|.o [])
 (fun ab=>.rg [(3,hB aa),(10,hB ab)]<|.o []))
 (fun aa=>.rg [(3,hB aa)]<|.o []))
 (.st .normal (fun ac=>⟨[(2,bV ac)],[],0⟩) fun ac=>.ret [] [] [] ⟨[(2,bV ac)],[],0⟩))
def Z13.l0 (a0:Zs) (aa:Int):Option (Bool ⊕ Unit):=if(decide (aa<(a0.f1.length:Int)))=true then((at? a0.f1 aa)>>=fun ab=>(((Z27.f ab.f0)>>=fun ac=>if(!ac)=true then(some true) else((Z0w.f [(⟨ab.f1,ab.f2⟩:Z7)])>>=fun ad=>some (!ad))):Option (Bool))>>=fun ae=>if ae=true then(some (.inl false)) else(Z13.l0 a0 (i64.wrap (aa+(1:Int))))) else(some (.inr ()))
partial_fixpoint
def Z13.l1 (a0:Zs) (aa:Int):Option (Bool ⊕ Unit):=if(decide (aa<(a0.f2.length:Int)))=true then((at? a0.f2 aa)>>=fun ab=>(((Z27.f ab.f0)>>=fun ac=>if(!ac)=true then(some true) else((Z52.f ab.f1)>>=fun ad=>if(!ad)=true then(some true) else(if(decide (aa>(0:Int)))=true then((at? a0.f2 (i64.wrap (aa-(1:Int))))>>=fun ae=>some (!Op.bytesLess ae.f0.toList ab.f0.toList)) else(some false)))):Option (Bool))>>=fun af=>if af=true then(some (.inl false)) else(Z13.l1 a0 (i64.wrap (aa+(1:Int))))) else(some (.inr ()))
partial_fixpoint
def Z13.f (a0:Zs):Option (Bool):=if(a0.f0==(1:Int))=true then((Z13.l0 a0 0)>>=fun oo=>match oo with | .inl rr=>(some rr) | .inr _=>(((if(decide ((a0.f1.length:Int)>(0:Int)))=true then(if(decide ((a0.f1.length:Int)≤(64:Int)))=true then(if((a0.f2.length:Int)==(0:Int))=true then(some (a0.f3==(0:Int))) else(some false)) else(some false)) else(some false)):Option (Bool))>>=fun aa=>some aa)) else(if(a0.f0==(2:Int))=true then((Z13.l1 a0 0)>>=fun oo=>match oo with | .inl rr=>(some rr) | .inr _=>(((if(decide ((a0.f2.length:Int)≤(64:Int)))=true then(if((a0.f1.length:Int)==(0:Int))=true then(some (a0.f3==(0:Int))) else(some false)) else(some false)):Option (Bool))>>=fun ab=>some ab)) else(if(a0.f0==(3:Int))=true then(((if(decide (a0.f3≥(0:Int)))=true then(if(decide (a0.f3≤(1099511627776:Int)))=true then(some ((i64.wrap ((a0.f1.length:Int)+(a0.f2.length:Int)))==(0:Int))) else(some false)) else(some false)):Option (Bool))>>=fun ac=>some ac) else(some false)))
theorem Z13.ok (a0:Zs) (r:Bool) (H:Z13.f a0=some r):Pv.Fn Tryz.prog 13 [.agg (Z3k a0)] [] 0 (fun x o=>x=bV r∧o=[]):=by
 unfold Z13.f at H
 exact HT.fn H (fun r=>bV r) (fun r=>[]) [] Tryz.func13 rfl rfl hmx (.rg [(0,⟨.k 0,.n⟩)]<|.r0<|.bl<|.r0<|.cd (fun c2=>.rg [(2,hG Zt a0.f1)]<|.bl<|.loop (.one (Z13.l0.partial_correctness a0)) 0 [(0,4)] [] [] (fun _=>.one (fun aa=>⟨[(1,.ptr 4 0 0),(12,.im (.row (a0.f1.map Zt))),(13,iV .i64 (a0.f1.length:Int)),(14,iV .i64 aa)],[(4,some (.box 35 (Z3k a0)))],0⟩) fun aa=>.r0<|.cd (fun ab=>.bl<|.el fun ac ad ae=>.rg [(0,hA Zt ad ae),(2,⟨.k 5,.n⟩)]<|.join (.bd fun af ah=>.sp (fun ai=>.rg [(2,hC [] [] [] [] Tryz.call39 (Z27.ok ac.f0 af ah)),(4,hB ai)]<|.o [(4,7)])
 (fun ai=>.bd fun aj ak=>.rg [(2,hC [] [] [] [] Tryz.call39 (Z27.ok ac.f0 af ah)),(4,hB ai),(10,hQ 6 Z4 ([(⟨ac.f1,ac.f2⟩:Z7)]:List Z7)),(11,hC [] [] [6] [] Tryz.call18 (Z0w.ok [(⟨ac.f1,ac.f2⟩:Z7)] aj ak))]<|.o [(4,7)]))
 (.st .normal (fun al=>⟨[(1,.ptr 7 0 0),(12,.im (.row (a0.f1.map Zt))),(13,iV .i64 (a0.f1.length:Int)),(14,iV .i64 aa),(31,bV al)],[(7,some (.box 35 (Z3k a0)))],0⟩) fun al=>.cd (fun am=>.r0<|.ret [] [] [] ⟨[(2,bV false)],[],0⟩)
 (fun am=>.r0<|.bk [(7,4)] rfl)))
 (fun ab=>.o [(4,8)]))
 (.sm (.rt (fun rr=>bV rr) (fun rr=>[]))
 (.st (.exit 1) (fun _=>⟨[(1,.ptr 8 0 0)],[(8,some (.box 35 (Z3k a0)))],0⟩) fun _=>.join (.sp (fun ao=>.sp (fun aq=>.sp (fun ar=>.rg [(2,hG Zt a0.f1),(4,hB ao),(7,hG Zt a0.f1),(10,hB aq),(13,hG Z1t a0.f2),(16,hB ar)]<|.o [])
 (fun ar=>.rg [(2,hG Zt a0.f1),(4,hB ao),(7,hG Zt a0.f1),(10,hB aq),(13,hG Z1t a0.f2),(16,hB ar)]<|.o []))
 (fun aq=>.rg [(2,hG Zt a0.f1),(4,hB ao),(7,hG Zt a0.f1),(10,hB aq)]<|.o []))
 (fun ao=>.rg [(2,hG Zt a0.f1),(4,hB ao)]<|.o []))
 (.st .normal (fun au=>⟨[(2,bV au)],[],0⟩) fun au=>.ret [] [] [] ⟨[(2,bV au)],[],0⟩))))
 (fun c2=>.r0<|.cd (fun av=>.rg [(2,hG Z1t a0.f2)]<|.bl<|.loop (.one (Z13.l1.partial_correctness a0)) 0 [(0,11)] [] [] (fun _=>.one (fun ax=>⟨[(1,.ptr 11 0 0),(57,.im (.row (a0.f2.map Z1t))),(58,iV .i64 (a0.f2.length:Int)),(59,iV .i64 ax)],[(11,some (.box 35 (Z3k a0)))],0⟩) fun ax=>.r0<|.cd (fun az=>.bl<|.el fun a9 ba bb=>.rg [(1,hA Z1t ba bb),(3,⟨.k 12,.n⟩)]<|.join (.bd fun bc be=>.sp (fun bf=>.rg [(2,hC [] [] [] [] Tryz.call39 (Z27.ok a9.f0 bc be)),(4,hB bf)]<|.o [(11,13)])
 (fun bf=>.bd fun bg bh=>.sp (fun bi=>.rg [(2,hC [] [] [] [] Tryz.call39 (Z27.ok a9.f0 bc be)),(4,hB bf),(7,hC [] [] [] [] Tryz.call40 (Z52.ok a9.f1 bg bh)),(10,hB bi)]<|.o [(11,13)])
 (fun bi=>.sp (fun bj=>.el fun bn bo bp=>.rg [(2,hC [] [] [] [] Tryz.call39 (Z27.ok a9.f0 bc be)),(4,hB bf),(7,hC [] [] [] [] Tryz.call40 (Z52.ok a9.f1 bg bh)),(10,hB bi),(13,hB bj),(18,hA Z1t bo bp)]<|.o [(11,13)])
 (fun bj=>.rg [(2,hC [] [] [] [] Tryz.call39 (Z27.ok a9.f0 bc be)),(4,hB bf),(7,hC [] [] [] [] Tryz.call40 (Z52.ok a9.f1 bg bh)),(10,hB bi),(13,hB bj)]<|.o [(11,13)]))))
 (.st .normal (fun bq=>⟨[(1,.ptr 13 0 0),(57,.im (.row (a0.f2.map Z1t))),(58,iV .i64 (a0.f2.length:Int)),(59,iV .i64 ax),(89,bV bq)],[(13,some (.box 35 (Z3k a0)))],0⟩) fun bq=>.cd (fun br=>.r0<|.ret [] [] [] ⟨[(2,bV false)],[],0⟩)
 (fun br=>.r0<|.bk [(13,11)] rfl)))
 (fun az=>.o [(11,14)]))
 (.sm (.rt (fun rr=>bV rr) (fun rr=>[]))
 (.st (.exit 3) (fun _=>⟨[(1,.ptr 14 0 0)],[(14,some (.box 35 (Z3k a0)))],0⟩) fun _=>.join (.sp (fun bu=>.sp (fun bv=>.rg [(2,hG Z1t a0.f2),(4,hB bu),(7,hG Zt a0.f1),(10,hB bv)]<|.o [])
 (fun bv=>.rg [(2,hG Z1t a0.f2),(4,hB bu),(7,hG Zt a0.f1),(10,hB bv)]<|.o []))
 (fun bu=>.rg [(2,hG Z1t a0.f2),(4,hB bu)]<|.o []))
 (.st .normal (fun bw=>⟨[(2,bV bw)],[],0⟩) fun bw=>.ret [] [] [] ⟨[(2,bV bw)],[],0⟩))))
 (fun av=>.r0<|.cd (fun bx=>.join (.sp (fun bz=>.sp (fun ca=>.rg [(3,hB bz),(8,hB ca),(11,hG Zt a0.f1),(14,hG Z1t a0.f2)]<|.o [])
 (fun ca=>.rg [(3,hB bz),(8,hB ca)]<|.o []))
 (fun bz=>.rg [(3,hB bz)]<|.o []))
 (.st .normal (fun cb=>⟨[(2,bV cb)],[],0⟩) fun cb=>.ret [] [] [] ⟨[(2,bV cb)],[],0⟩))
 (fun bx=>.r0<|.ret [] [] [] ⟨[(2,bV false)],[],0⟩))))
def Z3s.f (a0_c1:Int) (a1:Bool):Option ((List Int)×Int):=((if(a0_c1==(0:Int))=true then((chk ((([]:List Int).length+[0].length)*1≤140737488355328))>>=fun _=>some ([0],8)) else(some ([],a0_c1))):Option ((List Int)×Int))>>=fun oo=>match oo with | (aa,ab)=>(((if a1=true then((at? aa (i64.wrap ((aa.length:Int)-(1:Int))))>>=fun ac=>(chk (0≤(u64.wrap (ab-(1:Int)))))>>=fun _=>some (aa.set (Int.toNat (i64.wrap ((aa.length:Int)-(1:Int)))) (u8.wrap (((BitVec.toNat (BitVec.ofInt 8 ac ||| BitVec.ofInt 8 (u8.wrap ((1:Int)*2 ^ (min (Int.toNat (u64.wrap (ab-(1:Int)))) 8)))):Nat):Int))))) else(some aa)):Option (List Int))>>=fun ad=>some (ad,u64.wrap (ab-(1:Int))))
theorem Z3s.ok (a0_c1:Int) (a1:Bool) (r:(List Int)×Int) (H:Z3s.f a0_c1 a1=some r):Pv.Fn Tryz.prog 68 [.ptr 0 0 0,bV a1] [(0,some (.box 86 [.none0,iV .u64 a0_c1]))] 1 (fun x o=>x = .tup []∧o=[(0,some (.box 86 [.own 1,iV .u64 r.2])),(1,some (.row 1 5 (r.1.map (Z1 .u8))))]):=by
 unfold Z3s.f at H
 exact HT.fn H (fun r=>.tup []) (fun r=>[(0,some (.box 86 [.own 1,iV .u64 r.2])),(1,some (.row 1 5 (r.1.map (Z1 .u8))))]) [0,1] Tryz.func68 rfl rfl hmx (.r0<|.join (.cd (fun aa=>.ck fun ab=>.rg [(5,hQ 1 (Z1 .u8) ([0]:List Int)),(6,⟨.app 2 ([0].map (Z1 .u8)),.c (p:=[0].map (Z1 .u8)=([]:List (List Im))++([0].map (Z1 .u8))) (by simp) (.c (p:=∀ c∈([0].map (Z1 .u8)),c.length=1) (Z5c _ _ _ (fun _=>rfl)) (.c (p:=∀ c∈([0].map (Z1 .u8)),Z3b (c.map .im)=true) (Z4p _ _ (fun _=>rfl)) (.c (p:=(([]:List (List Im)).length+([0].map (Z1 .u8)).length)*1≤140737488355328) (by simpa using ab) .n)))⟩)]<|.r0<|.o [(0,0),(2,3)])
 (fun aa=>.out [(0,0)] [] [3]))
 (.pr fun ac=>.st .normal (fun ad=>⟨[(0,.ptr 0 0 0),(1,bV a1)],[(0,some (.box 86 [.own 3,iV .u64 ad])),(3,some (.row 1 5 (ac.map (Z1 .u8))))],1⟩) fun ad=>.r0<|.r0<|.join (.cd (fun ae=>.el fun af ah ai=>.ck fun aj=>.rg [(8,hG (Z1 .u8) ac),(10,hX (Z1 .u8) ah ai),(11,hL (Z1 .u8) ai),(16,hN (p1 aj)),(18,hX (Z1 .u8) ah ai),(19,hS (Z1 .u8) (u8.wrap (((BitVec.toNat (BitVec.ofInt 8 af ||| BitVec.ofInt 8 (u8.wrap ((1:Int)*2 ^ (min (Int.toNat (u64.wrap (ad-(1:Int)))) 8)))):Nat):Int))) 0 [iI .u8 (u8.wrap (((BitVec.toNat (BitVec.ofInt 8 af ||| BitVec.ofInt 8 (u8.wrap ((1:Int)*2 ^ (min (Int.toNat (u64.wrap (ad-(1:Int)))) 8)))):Nat):Int)))] ai)]<|.o [(0,0),(3,4)])
 (fun ae=>.o [(0,0),(3,4)]))
 (.st .normal (fun ak=>⟨[],[(0,some (.box 86 [.own 4,iV .u64 (u64.wrap (ad-(1:Int)))])),(4,some (.row 1 5 (ak.map (Z1 .u8))))],1⟩) fun ak=>.ret [(0,0),(4,1)] [] [] ⟨[],[(0,some (.box 86 [.own 1,iV .u64 (u64.wrap (ad-(1:Int)))])),(1,some (.row 1 5 (ak.map (Z1 .u8))))],1⟩)))
def Z09.f (a0_c0:List Int) (a0_c1:Int) (a1:Bool):Option ((List Int)×Int):=((if(a0_c1==(0:Int))=true then((chk ((a0_c0.length+[0].length)*1≤140737488355328))>>=fun _=>some (a0_c0++[0],8)) else(some (a0_c0,a0_c1))):Option ((List Int)×Int))>>=fun oo=>match oo with | (aa,ab)=>(((if a1=true then((at? aa (i64.wrap ((aa.length:Int)-(1:Int))))>>=fun ac=>(chk (0≤(u64.wrap (ab-(1:Int)))))>>=fun _=>some (aa.set (Int.toNat (i64.wrap ((aa.length:Int)-(1:Int)))) (u8.wrap (((BitVec.toNat (BitVec.ofInt 8 ac ||| BitVec.ofInt 8 (u8.wrap ((1:Int)*2 ^ (min (Int.toNat (u64.wrap (ab-(1:Int)))) 8)))):Nat):Int))))) else(some aa)):Option (List Int))>>=fun ad=>some (ad,u64.wrap (ab-(1:Int))))
theorem Z09.ok (a0_c0:List Int) (a0_c1:Int) (a1:Bool) (r:(List Int)×Int) (H:Z09.f a0_c0 a0_c1 a1=some r):Pv.Fn Tryz.prog 68 [.ptr 0 0 0,bV a1] [(0,some (.box 86 [.own 1,iV .u64 a0_c1])),(1,some (.row 1 5 (a0_c0.map (Z1 .u8))))] 2 (fun x o=>x = .tup []∧o=[(0,some (.box 86 [.own 2,iV .u64 r.2])),(1,none),(2,some (.row 1 5 (r.1.map (Z1 .u8))))]):=by
 unfold Z09.f at H
 exact HT.fn H (fun r=>.tup []) (fun r=>[(0,some (.box 86 [.own 2,iV .u64 r.2])),(1,none),(2,some (.row 1 5 (r.1.map (Z1 .u8))))]) [0,1,2] Tryz.func68 rfl rfl hmx (.r0<|.join (.cd (fun aa=>.ck fun ab=>.rg [(5,hQ 2 (Z1 .u8) ([0]:List Int)),(6,⟨.app 3 ((a0_c0++[0]).map (Z1 .u8)),.c (p:=(a0_c0++[0]).map (Z1 .u8)=(a0_c0.map (Z1 .u8))++([0].map (Z1 .u8))) (by simp) (.c (p:=∀ c∈([0].map (Z1 .u8)),c.length=1) (Z5c _ _ _ (fun _=>rfl)) (.c (p:=∀ c∈([0].map (Z1 .u8)),Z3b (c.map .im)=true) (Z4p _ _ (fun _=>rfl)) (.c (p:=((a0_c0.map (Z1 .u8)).length+([0].map (Z1 .u8)).length)*1≤140737488355328) (by simpa using ab) .n)))⟩)]<|.r0<|.o [(0,0),(3,4)])
 (fun aa=>.o [(0,0),(1,4)]))
 (.pr fun ac=>.st .normal (fun ad=>⟨[(0,.ptr 0 0 0),(1,bV a1)],[(0,some (.box 86 [.own 4,iV .u64 ad])),(4,some (.row 1 5 (ac.map (Z1 .u8))))],2⟩) fun ad=>.r0<|.r0<|.join (.cd (fun ae=>.el fun af ah ai=>.ck fun aj=>.rg [(8,hG (Z1 .u8) ac),(10,hX (Z1 .u8) ah ai),(11,hL (Z1 .u8) ai),(16,hN (p1 aj)),(18,hX (Z1 .u8) ah ai),(19,hS (Z1 .u8) (u8.wrap (((BitVec.toNat (BitVec.ofInt 8 af ||| BitVec.ofInt 8 (u8.wrap ((1:Int)*2 ^ (min (Int.toNat (u64.wrap (ad-(1:Int)))) 8)))):Nat):Int))) 0 [iI .u8 (u8.wrap (((BitVec.toNat (BitVec.ofInt 8 af ||| BitVec.ofInt 8 (u8.wrap ((1:Int)*2 ^ (min (Int.toNat (u64.wrap (ad-(1:Int)))) 8)))):Nat):Int)))] ai)]<|.o [(0,0),(4,5)])
 (fun ae=>.o [(0,0),(4,5)]))
 (.st .normal (fun ak=>⟨[],[(0,some (.box 86 [.own 5,iV .u64 (u64.wrap (ad-(1:Int)))])),(5,some (.row 1 5 (ak.map (Z1 .u8))))],2⟩) fun ak=>.ret [(0,0),(5,2)] [] [] ⟨[],[(0,some (.box 86 [.own 2,iV .u64 (u64.wrap (ad-(1:Int)))])),(2,some (.row 1 5 (ak.map (Z1 .u8))))],2⟩)))
def Z29.l0 (a1:Int) (aa:List Int) (ab:Int) (ac:Int):Option ((List Int)×Int):=if(decide (ac≥(0:Int)))=true then((chk (0≤(u64.wrap (ac))))>>=fun _=>(Z09.f aa ab ((u64.wrap (((BitVec.toNat (BitVec.ofInt 64 (Int.fdiv a1 (2 ^ (min (Int.toNat (u64.wrap (ac))) 64))) &&& BitVec.ofInt 64 (1:Int)):Nat):Int)))==(1:Int)))>>=fun ad=>Z29.l0 a1 ad.1 ad.2 (i64.wrap (ac-(1:Int)))) else(some (aa,ab))
partial_fixpoint
def Z29.f (a0_c1:Int) (a1:Int) (a2:Int):Option ((List Int)×Int):=(Z29.l0 a1 [] a0_c1 (i64.wrap ((if(if(64:Int)<a2 then(64:Int) else a2)>(0:Int) then(if(64:Int)<a2 then(64:Int) else a2) else(0:Int))-(1:Int))))>>=fun oo=>match oo with | (aa,ab)=>(some (aa,ab))
theorem Z29.ok (a0_c1:Int) (a1:Int) (a2:Int) (r:(List Int)×Int) (H:Z29.f a0_c1 a1 a2=some r):Pv.Fn Tryz.prog 32 [.ptr 0 0 0,iV .u64 a1,iV .i64 a2] [(0,some (.box 86 [.none0,iV .u64 a0_c1]))] 1 (fun x o=>x = .tup []∧o=[(0,some (.box 86 [.own 1,iV .u64 r.2])),(1,some (.row 1 5 (r.1.map (Z1 .u8))))]):=by
 unfold Z29.f at H
 exact HT.fn H (fun r=>.tup []) (fun r=>[(0,some (.box 86 [.own 1,iV .u64 r.2])),(1,some (.row 1 5 (r.1.map (Z1 .u8))))]) [0,1] Tryz.func32 rfl rfl hmx (.rg [(1,⟨.more xMin,.n⟩),(2,⟨.more xMax,.n⟩)]<|.bl<|.loop (.c3 (Z29.l0.partial_correctness a1)) ([],a0_c1,i64.wrap ((if(if(64:Int)<a2 then(64:Int) else a2)>(0:Int) then(if(64:Int)<a2 then(64:Int) else a2) else(0:Int))-(1:Int))) [(0,0)] [] [2] (fun _=>.pr fun aa=>.pr fun ab=>.one (fun ac=>⟨[(0,.ptr 0 0 0),(1,iV .u64 a1),(6,iV .i64 ac)],[(0,some (.box 86 [.own 2,iV .u64 ab])),(2,some (.row 1 5 (aa.map (Z1 .u8))))],1⟩) fun ac=>.r0<|.cd (fun ad=>.bl<|.ck fun ae=>.bd fun af ah=>.rg [(4,hN (p1 ae)),(7,hC [(0,0),(2,1)] [(0,0),(2,3)] [] [3] Tryz.call68 (Z09.ok aa ab ((u64.wrap (((BitVec.toNat (BitVec.ofInt 64 (Int.fdiv a1 (2 ^ (min (Int.toNat (u64.wrap (ac))) 64))) &&& BitVec.ofInt 64 (1:Int)):Nat):Int)))==(1:Int)) af ah))]<|.r0<|.bk [(0,0),(3,2)] rfl)
 (fun ad=>.o [(0,0),(2,4)]))
 (.pr fun ai=>.st (.exit 0) (fun aj=>⟨[],[(0,some (.box 86 [.own 4,iV .u64 aj])),(4,some (.row 1 5 (ai.map (Z1 .u8))))],1⟩) fun aj=>.ret [(0,0),(4,1)] [] [] ⟨[],[(0,some (.box 86 [.own 1,iV .u64 aj])),(1,some (.row 1 5 (ai.map (Z1 .u8))))],1⟩))
def Z2s.f  : Option (List Int):=some [0,3,7,12,20,32,64]
theorem Z2s.ok  (r:List Int) (H:Z2s.f  = some r):Pv.Fn Tryz.prog 69 [] [] 0 (fun x o=>x = .own 0∧o=[(0,some (.row 1 3 (r.map (Z1 .i64))))]):=by
 unfold Z2s.f at H
 exact HT.fn H (fun r=>.own 0) (fun r=>[(0,some (.row 1 3 (r.map (Z1 .i64))))]) [0] Tryz.func69 rfl rfl hmx (.r0<|.rg [(0,hQ 0 (Z1 .i64) ([0,3,7,12,20,32,64]:List Int))]<|.ret [(0,0)] [] [] ⟨[(0,.own 0)],[(0,some (.row 1 3 ([0,3,7,12,20,32,64].map (Z1 .i64))))],0⟩)
def Z2c.l0 (aa:Int) (ab:Int):Option (Int):=if(decide (aa>(0:Int)))=true then(Z2c.l0  (Int.fdiv aa 2) (i64.wrap (ab+(1:Int)))) else(some ab)
partial_fixpoint
def Z2c.f (a0:Int):Option (Int):=(Z2c.l0  a0 0)>>=fun aa=>some aa
theorem Z2c.ok (a0:Int) (r:Int) (H:Z2c.f a0=some r):Pv.Fn Tryz.prog 71 [iV .u64 a0] [] 0 (fun x o=>x=iV .i64 r∧o=[]):=by
 unfold Z2c.f at H
 exact HT.fn H (fun r=>iV .i64 r) (fun r=>[]) [] Tryz.func71 rfl rfl hmx (.r0<|.r0<|.bl<|.loop (.c2 (Z2c.l0.partial_correctness )) (a0,0) [] [] [] (fun _=>.pr fun aa=>.one (fun ab=>⟨[(0,iV .u64 aa),(3,iV .i64 ab)],[],0⟩) fun ab=>.r0<|.cd (fun ac=>.bl<|.r0<|.rg [(1,hK 1)]<|.bk [] rfl)
 (fun ac=>.o []))
 (.st (.exit 0) (fun ad=>⟨[(3,iV .i64 ad)],[],0⟩) fun ad=>.r0<|.ret [] [] [] ⟨[(2,iV .i64 ad)],[],0⟩))
def Z1z.f (a0:Int):Option (Unit):=some ()
theorem Z1z.ok (a0:Int) (r:Unit) (H:Z1z.f a0=some r):Pv.Fn Tryz.prog 130 [iV .i64 a0] [] 0 (fun x o=>x=bV (a0 != a0)∧o=[]):=by
 unfold Z1z.f at H
 exact HT.fn H (fun r=>bV (a0 != a0)) (fun r=>[]) [] Tryz.func130 rfl rfl hmx (.r0<|.r0<|.ret [] [] [] ⟨[(2,bV (a0 != a0))],[],0⟩)
def Z59.f (a0:Int) (a1:Int):Option (Bool):=(((Z1z.f a0)>>=fun aa=>if(a0 != a0)=true then((Z1z.f a1)>>=fun ab=>if(!(a1 != a1))=true then(some true) else(some (decide (a0<a1)))) else(some (decide (a0<a1)))):Option (Bool))>>=fun ac=>some ac
theorem Z59.ok (a0:Int) (a1:Int) (r:Bool) (H:Z59.f a0 a1=some r):Pv.Fn Tryz.prog 102 [iV .i64 a0,iV .i64 a1] [] 0 (fun x o=>x=bV r∧o=[]):=by
 unfold Z59.f at H
 exact HT.fn H (fun r=>bV r) (fun r=>[]) [] Tryz.func102 rfl rfl hmx (.r0<|.join (.bd fun aa ab=>.sp (fun ac=>.bd fun ad ae=>.sp (fun af=>.rg [(1,hC [] [] [] [] Tryz.call130 (Z1z.ok a0 aa ab)),(2,hB ac),(4,hC [] [] [] [] Tryz.call130 (Z1z.ok a1 ad ae)),(7,hB af)]<|.o [])
 (fun af=>.rg [(1,hC [] [] [] [] Tryz.call130 (Z1z.ok a0 aa ab)),(2,hB ac),(4,hC [] [] [] [] Tryz.call130 (Z1z.ok a1 ad ae)),(7,hB af)]<|.o []))
 (fun ac=>.rg [(1,hC [] [] [] [] Tryz.call130 (Z1z.ok a0 aa ab)),(2,hB ac)]<|.o []))
 (.st .normal (fun ah=>⟨[(4,bV ah)],[],0⟩) fun ah=>.ret [] [] [] ⟨[(4,bV ah)],[],0⟩))
def Z2w.f (a0:Int):Option (Unit):=some ()
theorem Z2w.ok (a0:Int) (r:Unit) (H:Z2w.f a0=some r):Pv.Fn Tryz.prog 103 [iV .i64 a0] [] 0 (fun x o=>x=bV (a0 != a0)∧o=[]):=by
 unfold Z2w.f at H
 exact HT.fn H (fun r=>bV (a0 != a0)) (fun r=>[]) [] Tryz.func103 rfl rfl hmx (.r0<|.r0<|.ret [] [] [] ⟨[(2,bV (a0 != a0))],[],0⟩)
def Z04.l0 (a0:List Int) (a1:Int) (aa:Int) (ab:Int):Option (Int):=if(decide (aa<ab))=true then((at? a0 (i64.wrap (Int.fdiv (u64.wrap (i64.wrap (aa+ab))) 2)))>>=fun ac=>(Z59.f ac a1)>>=fun ad=>((if ad=true then(some (i64.wrap ((i64.wrap (Int.fdiv (u64.wrap (i64.wrap (aa+ab))) 2))+(1:Int)),ab)) else(some (aa,i64.wrap (Int.fdiv (u64.wrap (i64.wrap (aa+ab))) 2)))):Option (Int×Int))>>=fun oo=>match oo with | (ae,af)=>(Z04.l0 a0 a1 ae af)) else(some aa)
partial_fixpoint
def Z04.f (a0:List Int) (a1:Int):Option (Int×Bool):=(Z04.l0 a0 a1 0 (a0.length:Int))>>=fun aa=>((if(decide (aa<(a0.length:Int)))=true then((at? a0 aa)>>=fun ab=>if(ab==a1)=true then(some true) else((Z2w.f ab)>>=fun ac=>if(ab != ab)=true then((Z2w.f a1)>>=fun ad=>some (a1 != a1)) else(some false))) else(some false)):Option (Bool))>>=fun ae=>some (aa,ae)
theorem Z04.ok (a0:List Int) (a1:Int) (r:Int×Bool) (H:Z04.f a0 a1=some r):Pv.Fn Tryz.prog 70 [.im (.row (a0.map (Z1 .i64))),iV .i64 a1] [] 0 (fun x o=>x = .tup [iV .i64 r.1,bV r.2]∧o=[]):=by
 unfold Z04.f at H
 exact HT.fn H (fun r=>.tup [iV .i64 r.1,bV r.2]) (fun r=>[]) [] Tryz.func70 rfl rfl hmx (.r0<|.rg [(1,hG (Z1 .i64) a0)]<|.r0<|.bl<|.loop (.c2 (Z04.l0.partial_correctness a0 a1)) (0,(a0.length:Int)) [] [] [] (fun _=>.pr fun aa=>.one (fun ab=>⟨[(0,.im (.row (a0.map (Z1 .i64)))),(1,iV .i64 a1),(6,iV .i64 (a0.length:Int)),(7,iV .i64 aa),(8,iV .i64 ab)],[],0⟩) fun ab=>.r0<|.cd (fun ac=>.bl<|.rg [(4,hK 1)]<|.el fun ad ae af=>.bd fun ah ai=>.rg [(2,hA (Z1 .i64) ae af),(5,hC [] [] [] [] Tryz.call102 (Z59.ok ad a1 ah ai))]<|.join (.cd (fun aj=>.r0<|.o [])
 (fun aj=>.r0<|.o []))
 (.pr fun ak=>.st .normal (fun al=>⟨[(0,.im (.row (a0.map (Z1 .i64)))),(1,iV .i64 a1),(6,iV .i64 (a0.length:Int)),(7,iV .i64 ak),(8,iV .i64 al)],[],0⟩) fun al=>.bk [] rfl))
 (fun ac=>.o []))
 (.st (.exit 0) (fun am=>⟨[(0,.im (.row (a0.map (Z1 .i64)))),(1,iV .i64 a1),(6,iV .i64 (a0.length:Int)),(7,iV .i64 am)],[],0⟩) fun am=>.join (.sp (fun ao=>.el fun aq ar au=>.sp (fun av=>.rg [(4,hB ao),(7,hA (Z1 .i64) ar au),(11,hB av)]<|.o [])
 (fun av=>.bd fun ax az=>.sp (fun a9=>.bd fun ba bb=>.rg [(4,hB ao),(7,hA (Z1 .i64) ar au),(11,hB av),(14,hA (Z1 .i64) ar au),(16,hC [] [] [] [] Tryz.call103 (Z2w.ok aq ax az)),(17,hB a9),(19,hC [] [] [] [] Tryz.call103 (Z2w.ok a1 ba bb))]<|.o [])
 (fun a9=>.rg [(4,hB ao),(7,hA (Z1 .i64) ar au),(11,hB av),(14,hA (Z1 .i64) ar au),(16,hC [] [] [] [] Tryz.call103 (Z2w.ok aq ax az)),(17,hB a9)]<|.o [])))
 (fun ao=>.rg [(4,hB ao)]<|.o []))
 (.st .normal (fun bc=>⟨[(4,iV .i64 am),(5,bV bc)],[],0⟩) fun bc=>.ret [] [] [] ⟨[(4,iV .i64 am),(5,bV bc)],[],0⟩)))
def Z05.l0 (a1:Int) (aa:List Int) (ab:Int) (ac:Int):Option ((List Int)×Int):=if(decide (ac≥(0:Int)))=true then((chk (0≤(u64.wrap (ac))))>>=fun _=>(Z09.f aa ab ((u64.wrap (((BitVec.toNat (BitVec.ofInt 64 (Int.fdiv a1 (2 ^ (min (Int.toNat (u64.wrap (ac))) 64))) &&& BitVec.ofInt 64 (1:Int)):Nat):Int)))==(1:Int)))>>=fun ad=>Z05.l0 a1 ad.1 ad.2 (i64.wrap (ac-(1:Int)))) else(some (aa,ab))
partial_fixpoint
def Z05.f (a0_c0:List Int) (a0_c1:Int) (a1:Int) (a2:Int):Option ((List Int)×Int):=(Z05.l0 a1 a0_c0 a0_c1 (i64.wrap ((if(if(64:Int)<a2 then(64:Int) else a2)>(0:Int) then(if(64:Int)<a2 then(64:Int) else a2) else(0:Int))-(1:Int))))>>=fun oo=>match oo with | (aa,ab)=>(some (aa,ab))
theorem Z05.ok (a0_c0:List Int) (a0_c1:Int) (a1:Int) (a2:Int) (r:(List Int)×Int) (H:Z05.f a0_c0 a0_c1 a1 a2=some r):Pv.Fn Tryz.prog 32 [.ptr 0 0 0,iV .u64 a1,iV .i64 a2] [(0,some (.box 86 [.own 1,iV .u64 a0_c1])),(1,some (.row 1 5 (a0_c0.map (Z1 .u8))))] 2 (fun x o=>x = .tup []∧o=[(0,some (.box 86 [.own 2,iV .u64 r.2])),(1,none),(2,some (.row 1 5 (r.1.map (Z1 .u8))))]):=by
 unfold Z05.f at H
 exact HT.fn H (fun r=>.tup []) (fun r=>[(0,some (.box 86 [.own 2,iV .u64 r.2])),(1,none),(2,some (.row 1 5 (r.1.map (Z1 .u8))))]) [0,1,2] Tryz.func32 rfl rfl hmx (.rg [(1,⟨.more xMin,.n⟩),(2,⟨.more xMax,.n⟩)]<|.bl<|.loop (.c3 (Z05.l0.partial_correctness a1)) (a0_c0,a0_c1,i64.wrap ((if(if(64:Int)<a2 then(64:Int) else a2)>(0:Int) then(if(64:Int)<a2 then(64:Int) else a2) else(0:Int))-(1:Int))) [(0,0),(1,3)] [] [] (fun _=>.pr fun aa=>.pr fun ab=>.one (fun ac=>⟨[(0,.ptr 0 0 0),(1,iV .u64 a1),(6,iV .i64 ac)],[(0,some (.box 86 [.own 3,iV .u64 ab])),(3,some (.row 1 5 (aa.map (Z1 .u8))))],2⟩) fun ac=>.r0<|.cd (fun ad=>.bl<|.ck fun ae=>.bd fun af ah=>.rg [(4,hN (p1 ae)),(7,hC [(0,0),(3,1)] [(0,0),(2,4)] [] [4] Tryz.call68 (Z09.ok aa ab ((u64.wrap (((BitVec.toNat (BitVec.ofInt 64 (Int.fdiv a1 (2 ^ (min (Int.toNat (u64.wrap (ac))) 64))) &&& BitVec.ofInt 64 (1:Int)):Nat):Int)))==(1:Int)) af ah))]<|.r0<|.bk [(0,0),(4,3)] rfl)
 (fun ad=>.o [(0,0),(3,5)]))
 (.pr fun ai=>.st (.exit 0) (fun aj=>⟨[],[(0,some (.box 86 [.own 5,iV .u64 aj])),(5,some (.row 1 5 (ai.map (Z1 .u8))))],2⟩) fun aj=>.ret [(0,0),(5,2)] [] [] ⟨[],[(0,some (.box 86 [.own 2,iV .u64 aj])),(2,some (.row 1 5 (ai.map (Z1 .u8))))],2⟩))
def Z9.l0 (a1:Int) (aa:List Int) (ab:Int×Bool) (ac:List Int) (ad:Int) (ae:Int):Option ((List Int)×Int):=if(decide (ae<ab.1))=true then((Z09.f ac ad true)>>=fun af=>Z9.l0 a1 aa ab af.1 af.2 (i64.wrap (ae+(1:Int)))) else(some (ac,ad))
partial_fixpoint
def Z9.f (a0_c0:List Int) (a0_c1:Int) (a1:Int):Option ((List Int)×Int):=(Z2s.f)>>=fun aa=>(Z2c.f a1)>>=fun ab=>(Z04.f aa ab)>>=fun ac=>(Z9.l0 a1 aa ac a0_c0 a0_c1 0)>>=fun oo=>match oo with | (ad,ae)=>(((if(decide (ac.1<(i64.wrap ((aa.length:Int)-(1:Int)))))=true then((Z09.f ad ae false)>>=fun af=>some (af.1,af.2)) else(some (ad,ae))):Option ((List Int)×Int))>>=fun oo=>match oo with | (ah,ai)=>((at? aa ac.1)>>=fun aj=>(Z05.f ah ai a1 aj)>>=fun ak=>some (ak.1,ak.2)))
theorem Z9.ok (a0_c0:List Int) (a0_c1:Int) (a1:Int) (r:(List Int)×Int) (H:Z9.f a0_c0 a0_c1 a1=some r):Pv.Fn Tryz.prog 33 [.ptr 0 0 0,iV .u64 a1] [(0,some (.box 86 [.own 1,iV .u64 a0_c1])),(1,some (.row 1 5 (a0_c0.map (Z1 .u8))))] 2 (fun x o=>x = .tup []∧o=[(0,some (.box 86 [.own 2,iV .u64 r.2])),(1,none),(2,some (.row 1 5 (r.1.map (Z1 .u8))))]):=by
 unfold Z9.f at H
 exact HT.fn H (fun r=>.tup []) (fun r=>[(0,some (.box 86 [.own 2,iV .u64 r.2])),(1,none),(2,some (.row 1 5 (r.1.map (Z1 .u8))))]) [0,1,2] Tryz.func33 rfl rfl hmx (.bd fun aa ab=>.rg [(0,hC [] [(0,2)] [] [2] Tryz.call69 (Z2s.ok  aa ab))]<|.bd fun ac ad=>.bd fun ae af=>.rg [(2,hC [] [] [] [] Tryz.call71 (Z2c.ok a1 ac ad)),(3,hC [] [] [2] [] Tryz.call70 (Z04.ok aa ac ae af))]<|.r0<|.bl<|.loop (.c3 (Z9.l0.partial_correctness a1 aa ae)) (a0_c0,a0_c1,0) [(0,0),(1,4),(2,5)] [] [] (fun _=>.pr fun ah=>.pr fun ai=>.one (fun aj=>⟨[(0,.ptr 0 0 0),(1,iV .u64 a1),(4,.own 5),(5,iV .i64 ae.1),(15,iV .i64 ae.1),(16,iV .i64 aj)],[(0,some (.box 86 [.own 4,iV .u64 ai])),(4,some (.row 1 5 (ah.map (Z1 .u8)))),(5,some (.row 1 3 (aa.map (Z1 .i64))))],2⟩) fun aj=>.r0<|.cd (fun ak=>.bl<|.bd fun al am=>.rg [(1,hC [(0,0),(4,1)] [(0,0),(2,6)] [] [6] Tryz.call68 (Z09.ok ah ai true al am))]<|.r0<|.bk [(0,0),(5,5),(6,4)] rfl)
 (fun ak=>.o [(0,0),(4,7),(5,8)]))
 (.pr fun ao=>.st (.exit 0) (fun aq=>⟨[(0,.ptr 0 0 0),(1,iV .u64 a1),(4,.own 8),(5,iV .i64 ae.1)],[(0,some (.box 86 [.own 7,iV .u64 aq])),(7,some (.row 1 5 (ao.map (Z1 .u8)))),(8,some (.row 1 3 (aa.map (Z1 .i64))))],2⟩) fun aq=>.rg [(2,hG (Z1 .i64) aa)]<|.join (.cd (fun ar=>.bd fun au av=>.rg [(1,hC [(0,0),(7,1)] [(0,0),(2,9)] [] [9] Tryz.call68 (Z09.ok ao aq false au av))]<|.o [(0,0),(9,10),(8,11)])
 (fun ar=>.o [(0,0),(7,10),(8,11)]))
 (.pr fun ax=>.st .normal (fun az=>⟨[(0,.ptr 0 0 0),(1,iV .u64 a1),(4,.own 11),(5,iV .i64 ae.1)],[(0,some (.box 86 [.own 10,iV .u64 az])),(10,some (.row 1 5 (ax.map (Z1 .u8)))),(11,some (.row 1 3 (aa.map (Z1 .i64))))],2⟩) fun az=>.el fun a9 ba bb=>.bd fun bc be=>.rg [(4,hX (Z1 .i64) ba bb),(5,hL (Z1 .i64) bb),(6,hC [(0,0),(10,1)] [(0,0),(2,12)] [] [12] Tryz.call32 (Z05.ok ax az a1 a9 bc be))]<|.ret [(0,0),(12,2)] [] [] ⟨[],[(0,some (.box 86 [.own 2,iV .u64 bc.2])),(2,some (.row 1 5 (bc.1.map (Z1 .u8))))],2⟩)))
def Z3l.f (a0:List Int):Option (List Int):=(chk ((([]:List Int).length+a0.length)*1≤140737488355328))>>=fun _=>some a0
theorem Z3l.ok (a0 r:List Int) (H:Z3l.f a0=some r):Pv.Fn Tryz.prog 81 [.im (.row (a0.map (Z1 .u8)))] [] 0 (fun x o=>x = .own 0∧o=[(0,some (.row 1 5 (r.map (Z1 .u8))))]):=by
 unfold Z3l.f at H
 obtain⟨c1,H⟩:=Za6 H
 obtain rfl:=sj H
 refine Fn.bodyK [0] Tryz.func81 rfl rfl (fun Γ hP hn => ?_)
 have hm:Tryz.prog.follows .mixedOrders=true:=by kernel_rfl
 replace hn:Γ.n=8:=hn
 refine AWp.seq ?_
 refine reg hP hn hm [] [0,2] [] ⟨[(0,.im (.row (a0.map (Z1 .u8)))),(2,.none0)],[],0⟩ [] (by kernel_rfl) trivial ?_
 refine AWp.seq ?_
 cases a0 with
 | nil =>
  refine AWp.nilSplit 0 rfl (fun b m => ?_)
  refine AWp.seq ?_
  cases b with
  | none =>
   refine reg hP hn hm [(1,.more xNil)] [2,4] [] ⟨[(2,.none0),(4,bV true)],[],0⟩ [] (by kernel_rfl) trivial ?_
   refine AWp.cond true rfl (fun _ => ?_) (fun h=>nomatch h)
   refine AWp.seq ?_
   refine reg hP hn hm [] [2] [] ⟨[(2,.none0)],[],0⟩ [] (by kernel_rfl) trivial ?_
   refine AWp.conv (inv:=[]) (vk:=[]) (e0:=[0]) (t:=⟨[(2,.own 0)],[(0,some (.row 1 5 []))],0⟩) (by kernel_rfl) ?_
   refine AWp.ret ?_
   exact Exists.intro _ (And.intro (fun _ _ h=>h) (And.intro (.inl rfl) (And.intro rfl (And.intro (by kernel_rfl) (by kernel_rfl)))))
  | some b =>
   refine reg hP hn hm [(1,.more xNil)] [0,2,4] [] ⟨[(0,.im (.sc (.slice (some b) 0 m))),(2,.none0),(4,bV false)],[],0⟩ [] (by kernel_rfl) trivial ?_
   refine AWp.cond false rfl (fun h=>nomatch h) (fun _ => ?_)
   refine AWp.skip ?_
   refine AWp.unsplit 0 rfl ?_
   refine AWp.seq ?_
   refine reg hP hn hm [(0,.app 0 ([]:List (List Im))),(2,.app 1 (([]:List Int).map (Z1 .u8)))] [2] [1] ⟨[(2,.own 1)],[(1,some (.row 1 5 (([]:List Int).map (Z1 .u8))))],0⟩ [([]:List (List Im))=[],([]:List Int).map (Z1 .u8)=([]:List (List Im))++([]:List Int).map (Z1 .u8),∀ c∈([]:List Int).map (Z1 .u8),c.length=1,∀ c∈([]:List Int).map (Z1 .u8),Z3b (c.map .im)=true,(([]:List (List Im)).length+(([]:List Int).map (Z1 .u8)).length)*1≤140737488355328] (by kernel_rfl) ⟨rfl,by simp,by exact Z5c _ _ _ (fun _=>rfl),by exact Z4p _ _ (fun _=>rfl),by simpa using c1,trivial⟩ ?_
   refine AWp.conv (inv:=[(1,0)]) (vk:=[]) (e0:=[]) (t:=⟨[(2,.own 0)],[(0,some (.row 1 5 (([]:List Int).map (Z1 .u8))))],0⟩) (by kernel_rfl) ?_
   refine AWp.ret ?_
   exact Exists.intro _ (And.intro (fun _ _ h=>h) (And.intro (.inl rfl) (And.intro rfl (And.intro (by kernel_rfl) (by kernel_rfl)))))
 | cons y l =>
  refine AWp.seq ?_
  refine reg hP hn hm [(1,.more xNil)] [0,2,4] [] ⟨[(0,.im (.row ((y::l).map (Z1 .u8)))),(2,.none0),(4,bV false)],[],0⟩ [] (by kernel_rfl) trivial ?_
  refine AWp.cond false rfl (fun h=>nomatch h) (fun _ => ?_)
  refine AWp.skip ?_
  refine AWp.seq ?_
  refine reg hP hn hm [(0,.app 0 ([]:List (List Im))),(2,.app 1 ((y::l).map (Z1 .u8)))] [2] [1] ⟨[(2,.own 1)],[(1,some (.row 1 5 ((y::l).map (Z1 .u8))))],0⟩ [([]:List (List Im))=[],(y::l).map (Z1 .u8)=([]:List (List Im))++(y::l).map (Z1 .u8),∀ c∈(y::l).map (Z1 .u8),c.length=1,∀ c∈(y::l).map (Z1 .u8),Z3b (c.map .im)=true,(([]:List (List Im)).length+((y::l).map (Z1 .u8)).length)*1≤140737488355328] (by kernel_rfl) ⟨rfl,by simp,by exact Z5c _ _ _ (fun _=>rfl),by exact Z4p _ _ (fun _=>rfl),by simpa using c1,trivial⟩ ?_
  refine AWp.conv (inv:=[(1,0)]) (vk:=[]) (e0:=[]) (t:=⟨[(2,.own 0)],[(0,some (.row 1 5 ((y::l).map (Z1 .u8))))],0⟩) (by kernel_rfl) ?_
  refine AWp.ret ?_
  exact Exists.intro _ (And.intro (fun _ _ h=>h) (And.intro (.inl rfl) (And.intro rfl (And.intro (by kernel_rfl) (by kernel_rfl)))))
def Z0y.f (a0_c0:List Int) (a0_c1:Int):Option (List Int):=(Z3l.f a0_c0)>>=fun aa=>some aa
theorem Z0y.ok (a0_c0:List Int) (a0_c1:Int) (r:List Int) (H:Z0y.f a0_c0 a0_c1=some r):Pv.Fn Tryz.prog 38 [.ptr 0 0 0] [(0,some (.box 86 [.own 1,iV .u64 a0_c1])),(1,some (.row 1 5 (a0_c0.map (Z1 .u8))))] 2 (fun x o=>x = .own 2∧o=[(0,some (.box 86 [.own 1,iV .u64 a0_c1])),(1,some (.row 1 5 (a0_c0.map (Z1 .u8)))),(2,some (.row 1 5 (r.map (Z1 .u8))))]):=by
 unfold Z0y.f at H
 exact HT.fn H (fun r=>.own 2) (fun r=>[(0,some (.box 86 [.own 1,iV .u64 a0_c1])),(1,some (.row 1 5 (a0_c0.map (Z1 .u8)))),(2,some (.row 1 5 (r.map (Z1 .u8))))]) [0,1,2] Tryz.func38 rfl rfl hmx (.r0<|.bd fun aa ab=>.rg [(4,⟨.more (Z4z [] [(0,2)] [1] [2] 0 (.own 0) [(0,some (.row 1 5 (aa.map (Z1 .u8))))]),.c (Tryz.call81) (.c (Z3l.ok a0_c0 aa ab) (.c (p:=∀ c∈aa.map (Z1 .u8),∀ x∈c,∃ v,x=Im.sc v) (Z5d _ _ (fun _=>by simp)) .n))⟩)]<|.ret [(0,0),(1,1),(2,2)] [] [] ⟨[(2,.own 2)],[(0,some (.box 86 [.own 1,iV .u64 a0_c1])),(1,some (.row 1 5 (a0_c0.map (Z1 .u8)))),(2,some (.row 1 5 (aa.map (Z1 .u8))))],2⟩)
def Z66.f (a0:Zs):Option ((List Int)×Int):=(Z13.f a0)>>=fun aa=>if(!aa)=true then(some ([],6)) else((Z29.f 0 (u64.wrap (a0.f0)) 2)>>=fun ab=>if(a0.f0==(1:Int))=true then(none) else(if(a0.f0==(2:Int))=true then(none) else((Z9.f ab.1 ab.2 (u64.wrap (a0.f3)))>>=fun ac=>(Z0y.f ac.1 ac.2)>>=fun ad=>some (ad,0))))
theorem Z66.ok (a0:Zs) (r:(List Int)×Int) (H:Z66.f a0=some r):Pv.Fn Tryz.prog 11 [.agg (Z3k a0)] [] 0 (fun x o=>x = .tup [.own 0,iV .i64 r.2]∧o=[(0,some (.row 1 5 (r.1.map (Z1 .u8))))]):=by
 unfold Z66.f at H
 exact HT.fn H (fun r=>.tup [.own 0,iV .i64 r.2]) (fun r=>[(0,some (.row 1 5 (r.1.map (Z1 .u8))))]) [0] Tryz.func11 rfl rfl hmx (.rg [(0,⟨.k 0,.n⟩)]<|.bd fun aa ab=>.rg [(1,hC [] [] [] [] Tryz.call13 (Z13.ok a0 aa ab))]<|.cd (fun ac=>.r0<|.ret [] [] [0] ⟨[(2,.own 0),(3,iV .i64 6)],[(0,some (.row 1 5 ([].map (Z1 .u8))))],0⟩)
 (fun ac=>.rg [(1,⟨.k 1,.n⟩)]<|.bd fun ad ae=>.rg [(4,hC [(1,0)] [(0,1),(1,2)] [] [2] Tryz.call32 (Z29.ok 0 (u64.wrap (a0.f0)) 2 ad ae))]<|.r0<|.bl<|.r0<|.cd (fun af=>.no)
 (fun af=>.r0<|.cd (fun ah=>.no)
 (fun ah=>.bd fun ai aj=>.rg [(4,hC [(1,0),(2,1)] [(0,1),(2,3)] [] [3] Tryz.call33 (Z9.ok ad.1 ad.2 (u64.wrap (a0.f3)) ai aj))]<|.bd fun ak al=>.rg [(1,hC [(1,0),(3,1)] [(0,1),(1,3),(2,4)] [] [4] Tryz.call38 (Z0y.ok ai.1 ai.2 ak al))]<|.ret [(4,0)] [] [] ⟨[(2,.own 0),(3,iV .i64 0)],[(0,some (.row 1 5 (ak.map (Z1 .u8))))],0⟩))))
def Z4g.f (a0:List Int):Option (Unit):=some ()
theorem Z4g.ok (a0:List Int) (r:Unit) (H:Z4g.f a0=some r):Pv.Fn Tryz.prog 41 [.im (.row (a0.map (Z1 .u8)))] [] 0 (fun x o=>x = .ptr 0 0 0∧o=[(0,some (.box 158 (Z8 ⟨a0,0,0⟩)))]):=by
 unfold Z4g.f at H
 exact HT.fn H (fun r=>.ptr 0 0 0) (fun r=>[(0,some (.box 158 (Z8 ⟨a0,0,0⟩)))]) [0] Tryz.func41 rfl rfl hmx (.r0<|.rg [(2,⟨.k 0,.n⟩)]<|.ret [(0,0)] [] [] ⟨[(2,.ptr 0 0 0)],[(0,some (.box 158 (Z8 ⟨a0,0,0⟩)))],0⟩)
def Zr.f (a0_c0:List Int) (a0_c1:Int) (a0_c2:Int) (a1:Int):Option (Int):=((if(a0_c2==(0:Int))=true then(some a1) else(some a0_c2)):Option (Int))>>=fun aa=>some aa
theorem Zr.ok (a0_c0:List Int) (a0_c1:Int) (a0_c2:Int) (a1:Int) (r:Int) (H:Zr.f a0_c0 a0_c1 a0_c2 a1=some r):Pv.Fn Tryz.prog 85 [.ptr 0 0 0,iV .i64 a1] [(0,some (.box 158 (Z8 ⟨a0_c0,a0_c1,a0_c2⟩)))] 1 (fun x o=>x = .tup []∧o=[(0,some (.box 158 (Z8 ⟨a0_c0,a0_c1,r⟩)))]):=by
 unfold Zr.f at H
 exact HT.fn H (fun r=>.tup []) (fun r=>[(0,some (.box 158 (Z8 ⟨a0_c0,a0_c1,r⟩)))]) [0] Tryz.func85 rfl rfl hmx (.r0<|.join (.cd (fun aa=>.r0<|.o [(0,0)])
 (fun aa=>.o [(0,0)]))
 (.st .normal (fun ab=>⟨[],[(0,some (.box 158 (Z8 ⟨a0_c0,a0_c1,ab⟩)))],1⟩) fun ab=>.ret [(0,0)] [] [] ⟨[],[(0,some (.box 158 (Z8 ⟨a0_c0,a0_c1,ab⟩)))],1⟩))
def Z0a.f (a0_c0:List Int) (a0_c1:Int) (a0_c2:Int):Option (Bool×Int×Int):=((if(a0_c2 != (0:Int))=true then(some true) else(some (decide (a0_c1≥(i64.wrap ((8:Int)*(a0_c0.length:Int))))))):Option (Bool))>>=fun aa=>if aa=true then((Zr.f a0_c0 a0_c1 a0_c2 7)>>=fun ab=>some (false,a0_c1,ab)) else((at? a0_c0 (i64.wrap (Int.tdiv a0_c1 (8:Int))))>>=fun ac=>(chk (0≤(u64.wrap ((7:Int)-(u64.wrap (Int.tmod a0_c1 (8:Int)))))))>>=fun _=>some (((u8.wrap (((BitVec.toNat (BitVec.ofInt 8 (Int.fdiv ac (2 ^ (min (Int.toNat (u64.wrap ((7:Int)-(u64.wrap (Int.tmod a0_c1 (8:Int)))))) 8))) &&& BitVec.ofInt 8 (1:Int)):Nat):Int)))==(1:Int)),i64.wrap (a0_c1+(1:Int)),a0_c2))
theorem Z0a.ok (a0_c0:List Int) (a0_c1:Int) (a0_c2:Int) (r:Bool×Int×Int) (H:Z0a.f a0_c0 a0_c1 a0_c2=some r):Pv.Fn Tryz.prog 83 [.ptr 0 0 0] [(0,some (.box 158 (Z8 ⟨a0_c0,a0_c1,a0_c2⟩)))] 1 (fun x o=>x=bV r.1∧o=[(0,some (.box 158 (Z8 ⟨a0_c0,r.2.1,r.2.2⟩)))]):=by
 unfold Z0a.f at H
 exact HT.fn H (fun r=>bV r.1) (fun r=>[(0,some (.box 158 (Z8 ⟨a0_c0,r.2.1,r.2.2⟩)))]) [0] Tryz.func83 rfl rfl hmx (.r0<|.join (.sp (fun aa=>.rg [(5,hB aa)]<|.o [(0,0)])
 (fun aa=>.rg [(5,hB aa),(14,hG (Z1 .u8) a0_c0)]<|.o [(0,0)]))
 (.st .normal (fun ab=>⟨[(0,.ptr 0 0 0),(21,bV ab)],[(0,some (.box 158 (Z8 ⟨a0_c0,a0_c1,a0_c2⟩)))],1⟩) fun ab=>.cd (fun ac=>.bd fun ad ae=>.rg [(1,hC [(0,0)] [(0,0)] [] [] Tryz.call85 (Zr.ok a0_c0 a0_c1 a0_c2 7 ad ae))]<|.r0<|.ret [(0,0)] [] [] ⟨[(2,bV false)],[(0,some (.box 158 (Z8 ⟨a0_c0,a0_c1,ad⟩)))],1⟩)
 (fun ac=>.el fun af ah ai=>.ck fun aj=>.rg [(8,hJ 8),(9,hA (Z1 .u8) ah ai),(15,hJ 8),(18,hN (p1 aj))]<|.r0<|.r0<|.ret [(0,0)] [] [] ⟨[(2,bV ((u8.wrap (((BitVec.toNat (BitVec.ofInt 8 (Int.fdiv af (2 ^ (min (Int.toNat (u64.wrap ((7:Int)-(u64.wrap (Int.tmod a0_c1 (8:Int)))))) 8))) &&& BitVec.ofInt 8 (1:Int)):Nat):Int)))==(1:Int)))],[(0,some (.box 158 (Z8 ⟨a0_c0,(i64.wrap (a0_c1+(1:Int))),a0_c2⟩)))],1⟩)))
def Zi.l0 (a0_c0:List Int) (a1:Int) (aa:Int) (ab:Int) (ac:Int) (ad:Int):Option (Int×Int×Int):=if(decide (ad<(if(if(64:Int)<a1 then(64:Int) else a1)>(0:Int) then(if(64:Int)<a1 then(64:Int) else a1) else(0:Int))))=true then((Z0a.f a0_c0 aa ab)>>=fun ae=>((if ae.1=true then(some (u64.wrap (((BitVec.toNat (BitVec.ofInt 64 (u64.wrap (ac*2)) ||| BitVec.ofInt 64 (1:Int)):Nat):Int)))) else(some (u64.wrap (ac*2)))):Option (Int))>>=fun af=>Zi.l0 a0_c0 a1 ae.2.1 ae.2.2 af (i64.wrap (ad+(1:Int)))) else(some (aa,ab,ac))
partial_fixpoint
def Zi.f (a0_c0:List Int) (a0_c1:Int) (a0_c2:Int) (a1:Int):Option (Int×Int×Int):=(Zi.l0 a0_c0 a1 a0_c1 a0_c2 0 0)>>=fun oo=>match oo with | (aa,ab,ac)=>(if(ab != (0:Int))=true then(some (0,aa,ab)) else(some (ac,aa,ab)))
theorem Zi.ok (a0_c0:List Int) (a0_c1:Int) (a0_c2:Int) (a1:Int) (r:Int×Int×Int) (H:Zi.f a0_c0 a0_c1 a0_c2 a1=some r):Pv.Fn Tryz.prog 42 [.ptr 0 0 0,iV .i64 a1] [(0,some (.box 158 (Z8 ⟨a0_c0,a0_c1,a0_c2⟩)))] 1 (fun x o=>x=iV .u64 r.1∧o=[(0,some (.box 158 (Z8 ⟨a0_c0,r.2.1,r.2.2⟩)))]):=by
 unfold Zi.f at H
 exact HT.fn H (fun r=>iV .u64 r.1) (fun r=>[(0,some (.box 158 (Z8 ⟨a0_c0,r.2.1,r.2.2⟩)))]) [0] Tryz.func42 rfl rfl hmx (.r0<|.r0<|.rg [(1,⟨.more xMin,.n⟩),(2,⟨.more xMax,.n⟩)]<|.bl<|.loop (.c4 (Zi.l0.partial_correctness a0_c0 a1)) (a0_c1,a0_c2,0,0) [(0,0)] [] [] (fun _=>.pr fun aa=>.pr fun ab=>.pr fun ac=>.one (fun ad=>⟨[(0,.ptr 0 0 0),(5,iV .u64 ac),(8,iV .i64 (if(if(64:Int)<a1 then(64:Int) else a1)>(0:Int) then(if(64:Int)<a1 then(64:Int) else a1) else(0:Int))),(9,iV .i64 ad)],[(0,some (.box 158 (Z8 ⟨a0_c0,aa,ab⟩)))],1⟩) fun ad=>.r0<|.cd (fun ae=>.bl<|.rg [(1,hK 1)]<|.bd fun af ah=>.rg [(1,hC [(0,0)] [(0,0)] [] [] Tryz.call83 (Z0a.ok a0_c0 aa ab af ah))]<|.join (.cd (fun ai=>.r0<|.o [(0,0)])
 (fun ai=>.o [(0,0)]))
 (.st .normal (fun aj=>⟨[(0,.ptr 0 0 0),(5,iV .u64 aj),(8,iV .i64 (if(if(64:Int)<a1 then(64:Int) else a1)>(0:Int) then(if(64:Int)<a1 then(64:Int) else a1) else(0:Int))),(9,iV .i64 ad)],[(0,some (.box 158 (Z8 ⟨a0_c0,af.2.1,af.2.2⟩)))],1⟩) fun aj=>.r0<|.bk [(0,0)] rfl))
 (fun ae=>.o [(0,0)]))
 (.pr fun ak=>.pr fun al=>.st (.exit 0) (fun am=>⟨[(0,.ptr 0 0 0),(5,iV .u64 am)],[(0,some (.box 158 (Z8 ⟨a0_c0,ak,al⟩)))],1⟩) fun am=>.r0<|.cd (fun ao=>.r0<|.ret [(0,0)] [] [] ⟨[(4,iV .u64 0)],[(0,some (.box 158 (Z8 ⟨a0_c0,ak,al⟩)))],1⟩)
 (fun ao=>.r0<|.ret [(0,0)] [] [] ⟨[(4,iV .u64 am)],[(0,some (.box 158 (Z8 ⟨a0_c0,ak,al⟩)))],1⟩)))
def Zj.l0 (a0_c0:List Int) (aa:List Int) (ab:Int) (ac:Int) (ad:Int):Option (Int×Int×Int):=((if(decide (ad<(i64.wrap ((aa.length:Int)-(1:Int)))))=true then((Z0a.f a0_c0 ab ac)>>=fun ae=>some (ae.2.1,ae.2.2,ae.1)) else(some (ab,ac,false))):Option (Int×Int×Bool))>>=fun oo=>match oo with | (af,ah,ai)=>(if ai=true then(Zj.l0 a0_c0 aa af ah (i64.wrap (ad+(1:Int)))) else(some (af,ah,ad)))
partial_fixpoint
def Zj.f (a0_c0:List Int) (a0_c1:Int) (a0_c2:Int):Option (Int×Int×Int):=(Z2s.f)>>=fun aa=>(Zj.l0 a0_c0 aa a0_c1 a0_c2 0)>>=fun oo=>match oo with | (ab,ac,ad)=>((at? aa ad)>>=fun ae=>(Zi.f a0_c0 ab ac ae)>>=fun af=>((if(decide (ad>(0:Int)))=true then((Z2c.f af.1)>>=fun ah=>(at? aa (i64.wrap (ad-(1:Int))))>>=fun ai=>some (decide (ah≤ai))) else(some false)):Option (Bool))>>=fun aj=>((if aj=true then((Zr.f a0_c0 af.2.1 af.2.2 6)>>=fun ak=>some ak) else(some af.2.2)):Option (Int))>>=fun al=>if(al != (0:Int))=true then(some (0,af.2.1,al)) else(some (af.1,af.2.1,al)))
theorem Zj.ok (a0_c0:List Int) (a0_c1:Int) (a0_c2:Int) (r:Int×Int×Int) (H:Zj.f a0_c0 a0_c1 a0_c2=some r):Pv.Fn Tryz.prog 84 [.ptr 0 0 0] [(0,some (.box 158 (Z8 ⟨a0_c0,a0_c1,a0_c2⟩)))] 1 (fun x o=>x=iV .u64 r.1∧o=[(0,some (.box 158 (Z8 ⟨a0_c0,r.2.1,r.2.2⟩)))]):=by
 unfold Zj.f at H
 exact HT.fn H (fun r=>iV .u64 r.1) (fun r=>[(0,some (.box 158 (Z8 ⟨a0_c0,r.2.1,r.2.2⟩)))]) [0] Tryz.func84 rfl rfl hmx (.r0<|.bd fun aa ab=>.rg [(0,hC [] [(0,1)] [] [1] Tryz.call69 (Z2s.ok  aa ab))]<|.r0<|.bl<|.loop (.c3 (Zj.l0.partial_correctness a0_c0 aa)) (a0_c1,a0_c2,0) [(0,0),(1,3)] [] [] (fun _=>.pr fun ac=>.pr fun ad=>.one (fun ae=>⟨[(0,.ptr 0 0 0),(3,.own 3),(4,iV .i64 ae)],[(0,some (.box 158 (Z8 ⟨a0_c0,ac,ad⟩))),(3,some (.row 1 3 (aa.map (Z1 .i64))))],1⟩) fun ae=>.join (.sp (fun af=>.bd fun ah ai=>.rg [(2,hG (Z1 .i64) aa),(5,hB af),(7,hC [(0,0)] [(0,0)] [] [] Tryz.call83 (Z0a.ok a0_c0 ac ad ah ai))]<|.o [(0,0),(3,4)])
 (fun af=>.rg [(2,hG (Z1 .i64) aa),(5,hB af)]<|.o [(0,0),(3,4)]))
 (.pr fun aj=>.pr fun ak=>.st .normal (fun al=>⟨[(0,.ptr 0 0 0),(3,.own 4),(4,iV .i64 ae),(15,bV al)],[(0,some (.box 158 (Z8 ⟨a0_c0,aj,ak⟩))),(4,some (.row 1 3 (aa.map (Z1 .i64))))],1⟩) fun al=>.cd (fun am=>.bl<|.r0<|.bk [(0,0),(4,3)] rfl)
 (fun am=>.o [(0,0),(4,5)])))
 (.pr fun ao=>.pr fun aq=>.st (.exit 0) (fun ar=>⟨[(0,.ptr 0 0 0),(3,.own 5),(4,iV .i64 ar)],[(0,some (.box 158 (Z8 ⟨a0_c0,ao,aq⟩))),(5,some (.row 1 3 (aa.map (Z1 .i64))))],1⟩) fun ar=>.el fun au av ax=>.bd fun az a9=>.rg [(3,hX (Z1 .i64) av ax),(4,hL (Z1 .i64) ax),(5,hC [(0,0)] [(0,0)] [] [] Tryz.call42 (Zi.ok a0_c0 ao aq au az a9))]<|.join (.sp (fun ba=>.bd fun bb bc=>.el fun be bf bg=>.rg [(2,hB ba),(4,hC [] [] [] [] Tryz.call71 (Z2c.ok az.1 bb bc)),(8,hX (Z1 .i64) bf bg),(9,hL (Z1 .i64) bg)]<|.o [(0,0)])
 (fun ba=>.rg [(2,hB ba)]<|.o [(0,0)]))
 (.st .normal (fun bh=>⟨[(0,.ptr 0 0 0),(5,iV .u64 az.1),(35,bV bh)],[(0,some (.box 158 (Z8 ⟨a0_c0,az.2.1,az.2.2⟩)))],1⟩) fun bh=>.join (.cd (fun bi=>.bd fun bj bn=>.rg [(1,hC [(0,0)] [(0,0)] [] [] Tryz.call85 (Zr.ok a0_c0 az.2.1 az.2.2 6 bj bn))]<|.o [(0,0)])
 (fun bi=>.o [(0,0)]))
 (.st .normal (fun bo=>⟨[(0,.ptr 0 0 0),(5,iV .u64 az.1)],[(0,some (.box 158 (Z8 ⟨a0_c0,az.2.1,bo⟩)))],1⟩) fun bo=>.r0<|.cd (fun bp=>.r0<|.ret [(0,0)] [] [] ⟨[(2,iV .u64 0)],[(0,some (.box 158 (Z8 ⟨a0_c0,az.2.1,bo⟩)))],1⟩)
 (fun bp=>.r0<|.ret [(0,0)] [] [] ⟨[(2,iV .u64 az.1)],[(0,some (.box 158 (Z8 ⟨a0_c0,az.2.1,bo⟩)))],1⟩)))))
def Z3.f (a0_c0:List Int) (a0_c1:Int) (a0_c2:Int) (a1:Int):Option (Int×Int×Int):=(Zj.f a0_c0 a0_c1 a0_c2)>>=fun aa=>((if(decide (a1<(0:Int)))=true then(some true) else(some (decide (aa.1>(u64.wrap (a1)))))):Option (Bool))>>=fun ab=>if ab=true then((Zr.f a0_c0 aa.2.1 aa.2.2 9)>>=fun ac=>some (0,aa.2.1,ac)) else(some (i64.wrap (aa.1),aa.2.1,aa.2.2))
theorem Z3.ok (a0_c0:List Int) (a0_c1:Int) (a0_c2:Int) (a1:Int) (r:Int×Int×Int) (H:Z3.f a0_c0 a0_c1 a0_c2 a1=some r):Pv.Fn Tryz.prog 43 [.ptr 0 0 0,iV .i64 a1] [(0,some (.box 158 (Z8 ⟨a0_c0,a0_c1,a0_c2⟩)))] 1 (fun x o=>x=iV .i64 r.1∧o=[(0,some (.box 158 (Z8 ⟨a0_c0,r.2.1,r.2.2⟩)))]):=by
 unfold Z3.f at H
 exact HT.fn H (fun r=>iV .i64 r.1) (fun r=>[(0,some (.box 158 (Z8 ⟨a0_c0,r.2.1,r.2.2⟩)))]) [0] Tryz.func43 rfl rfl hmx (.r0<|.bd fun aa ab=>.rg [(1,hC [(0,0)] [(0,0)] [] [] Tryz.call84 (Zj.ok a0_c0 a0_c1 a0_c2 aa ab))]<|.join (.sp (fun ac=>.rg [(2,hB ac)]<|.o [(0,0)])
 (fun ac=>.rg [(2,hB ac)]<|.o [(0,0)]))
 (.st .normal (fun ad=>⟨[(0,.ptr 0 0 0),(5,iV .u64 aa.1),(15,bV ad)],[(0,some (.box 158 (Z8 ⟨a0_c0,aa.2.1,aa.2.2⟩)))],1⟩) fun ad=>.cd (fun ae=>.bd fun af ah=>.rg [(1,hC [(0,0)] [(0,0)] [] [] Tryz.call85 (Zr.ok a0_c0 aa.2.1 aa.2.2 9 af ah))]<|.r0<|.ret [(0,0)] [] [] ⟨[(4,iV .i64 0)],[(0,some (.box 158 (Z8 ⟨a0_c0,aa.2.1,af⟩)))],1⟩)
 (fun ae=>.r0<|.ret [(0,0)] [] [] ⟨[(4,iV .i64 (i64.wrap (aa.1)))],[(0,some (.box 158 (Z8 ⟨a0_c0,aa.2.1,aa.2.2⟩)))],1⟩)))
def Zk.f (a0_c0:List Int) (a0_c1:Int) (a0_c2:Int):Option (Unit):=some ()
theorem Zk.ok (a0_c0:List Int) (a0_c1:Int) (a0_c2:Int) (r:Unit) (H:Zk.f a0_c0 a0_c1 a0_c2=some r):Pv.Fn Tryz.prog 44 [.ptr 0 0 0] [(0,some (.box 158 (Z8 ⟨a0_c0,a0_c1,a0_c2⟩)))] 1 (fun x o=>x=iV .i64 a0_c2∧o=[(0,some (.box 158 (Z8 ⟨a0_c0,a0_c1,a0_c2⟩)))]):=by
 unfold Zk.f at H
 exact HT.fn H (fun r=>iV .i64 a0_c2) (fun r=>[(0,some (.box 158 (Z8 ⟨a0_c0,a0_c1,a0_c2⟩)))]) [0] Tryz.func44 rfl rfl hmx (.r0<|.r0<|.ret [(0,0)] [] [] ⟨[(2,iV .i64 a0_c2)],[(0,some (.box 158 (Z8 ⟨a0_c0,a0_c1,a0_c2⟩)))],1⟩)
def Z0h.f (a0_c0:List Int) (a0_c1:Int) (a0_c2:Int):Option (Unit):=some ()
theorem Z0h.ok (a0_c0:List Int) (a0_c1:Int) (a0_c2:Int) (r:Unit) (H:Z0h.f a0_c0 a0_c1 a0_c2=some r):Pv.Fn Tryz.prog 86 [.ptr 0 0 0] [(0,some (.box 158 (Z8 ⟨a0_c0,a0_c1,a0_c2⟩)))] 1 (fun x o=>x=iV .i64 (i64.wrap ((i64.wrap ((8:Int)*(a0_c0.length:Int)))-a0_c1))∧o=[(0,some (.box 158 (Z8 ⟨a0_c0,a0_c1,a0_c2⟩)))]):=by
 unfold Z0h.f at H
 exact HT.fn H (fun r=>iV .i64 (i64.wrap ((i64.wrap ((8:Int)*(a0_c0.length:Int)))-a0_c1))) (fun r=>[(0,some (.box 158 (Z8 ⟨a0_c0,a0_c1,a0_c2⟩)))]) [0] Tryz.func86 rfl rfl hmx (.r0<|.rg [(4,hG (Z1 .u8) a0_c0)]<|.ret [(0,0)] [] [] ⟨[(2,iV .i64 (i64.wrap ((i64.wrap ((8:Int)*(a0_c0.length:Int)))-a0_c1)))],[(0,some (.box 158 (Z8 ⟨a0_c0,a0_c1,a0_c2⟩)))],1⟩)
def Z07.l0 (a0_c0:List Int) (aa:Int×Int×Int) (ab:Int) (ac:Int) (ad:List Int) (ae:Int):Option ((List Int)×Int×Int):=if(decide (ae<((List.replicate (Int.toNat aa.1) (0:Int)).length:Int)))=true then((Zi.f a0_c0 ab ac 8)>>=fun af=>(at? ad ae)>>=fun ah=>Z07.l0 a0_c0 aa af.2.1 af.2.2 (ad.set (Int.toNat (ae)) (u8.wrap (af.1))) (i64.wrap (ae+(1:Int)))) else(some (ad,ab,ac))
partial_fixpoint
def Z07.f (a0_c0:List Int) (a0_c1:Int) (a0_c2:Int):Option (ByteArray×Int×Int):=(Z3.f a0_c0 a0_c1 a0_c2 1048576)>>=fun aa=>(Z0h.f a0_c0 aa.2.1 aa.2.2)>>=fun ab=>if(decide (aa.1>(i64.wrap (Int.tdiv (i64.wrap ((i64.wrap ((8:Int)*(a0_c0.length:Int)))-aa.2.1)) (8:Int)))))=true then((Z3.f a0_c0 aa.2.1 aa.2.2 (-1))>>=fun ac=>some ((⟨#[]⟩:ByteArray),ac.2.1,ac.2.2)) else((chk (0≤aa.1∧aa.1≤aa.1∧((1:Nat):Int)*aa.1≤281474976710656∧aa.1≤9223372036854775807))>>=fun _=>(Z07.l0 a0_c0 aa aa.2.1 aa.2.2 (List.replicate (Int.toNat aa.1) (0:Int)) 0)>>=fun oo=>match oo with | (ad,ae,af)=>(some (Z5l ad,ae,af)))
theorem Z07.ok (a0_c0:List Int) (a0_c1:Int) (a0_c2:Int) (r:ByteArray×Int×Int) (H:Z07.f a0_c0 a0_c1 a0_c2=some r):Pv.Fn Tryz.prog 45 [.ptr 0 0 0] [(0,some (.box 158 (Z8 ⟨a0_c0,a0_c1,a0_c2⟩)))] 1 (fun x o=>x=sV r.1∧o=[(0,some (.box 158 (Z8 ⟨a0_c0,r.2.1,r.2.2⟩)))]):=by
 unfold Z07.f at H
 exact HT.fn H (fun r=>sV r.1) (fun r=>[(0,some (.box 158 (Z8 ⟨a0_c0,r.2.1,r.2.2⟩)))]) [0] Tryz.func45 rfl rfl hmx (.r0<|.bd fun aa ab=>.rg [(1,hC [(0,0)] [(0,0)] [] [] Tryz.call43 (Z3.ok a0_c0 a0_c1 a0_c2 1048576 aa ab))]<|.bd fun ac ad=>.rg [(2,hC [(0,0)] [(0,0)] [] [] Tryz.call86 (Z0h.ok a0_c0 aa.2.1 aa.2.2 ac ad)),(3,hJ 8)]<|.cd (fun ae=>.bd fun af ah=>.rg [(1,hC [(0,0)] [(0,0)] [] [] Tryz.call43 (Z3.ok a0_c0 aa.2.1 aa.2.2 (-1) af ah))]<|.r0<|.ret [(0,0)] [] [] ⟨[(2,sV (⟨#[]⟩:ByteArray))],[(0,some (.box 158 (Z8 ⟨a0_c0,af.2.1,af.2.2⟩)))],1⟩)
 (fun ae=>.ck fun ai=>.rg [(1,⟨.more (xMake 1 ((List.replicate (Int.toNat aa.1) (0:Int)).map (Z1 .u8))),.c (p:=(List.replicate (Int.toNat aa.1) (0:Int)).map (Z1 .u8)=List.replicate (Int.toNat aa.1) [iI .u8 0]) (by simp) (.c (ai.1) (.c (ai.2.1) (.c (ai.2.2.1) (.c (ai.2.2.2) .n))))⟩)]<|.rg [(1,hG (Z1 .u8) (List.replicate (Int.toNat aa.1) (0:Int)))]<|.bl<|.loop (.c4 (Z07.l0.partial_correctness a0_c0 aa)) (aa.2.1,aa.2.2,List.replicate (Int.toNat aa.1) (0:Int),0) [(0,0),(1,2)] [] [] (fun _=>.pr fun aj=>.pr fun ak=>.pr fun al=>.one (fun am=>⟨[(0,.ptr 0 0 0),(4,.own 2),(18,iV .i64 ((List.replicate (Int.toNat aa.1) (0:Int)).length:Int)),(19,iV .i64 am)],[(0,some (.box 158 (Z8 ⟨a0_c0,aj,ak⟩))),(2,some (.row 1 5 (al.map (Z1 .u8))))],1⟩) fun am=>.r0<|.cd (fun ao=>.bl<|.r0<|.bd fun aq ar=>.el fun au av ax=>.rg [(3,hC [(0,0)] [(0,0)] [] [] Tryz.call42 (Zi.ok a0_c0 aj ak 8 aq ar)),(5,hX (Z1 .u8) av ax),(6,hS (Z1 .u8) (u8.wrap (aq.1)) 0 [iI .u8 (u8.wrap (aq.1))] ax)]<|.r0<|.bk [(0,0),(2,2)] rfl)
 (fun ao=>.o [(2,3),(0,0)]))
 (.pr fun az=>.pr fun a9=>.st (.exit 0) (fun ba=>⟨[(4,.own 3)],[(0,some (.box 158 (Z8 ⟨a0_c0,a9,ba⟩))),(3,some (.row 1 5 (az.map (Z1 .u8))))],1⟩) fun ba=>.rg [(1,hT (xStr az) az)]<|.ret [(0,0)] [] [] ⟨[(2,sV (Z5l az))],[(0,some (.box 158 (Z8 ⟨a0_c0,a9,ba⟩)))],1⟩)))
def Z8e.f (a0:Int):Option (Unit):=some ()
theorem Z8e.ok (a0:Int) (r:Unit) (H:Z8e.f a0=some r):Pv.Fn Tryz.prog 150 [iV .u64 a0] [] 0 (fun x o=>x=iV .i64 (i64.wrap (((BitVec.toNat (BitVec.ofInt 64 (i64.wrap (Int.fdiv a0 2)) ^^^ BitVec.ofInt 64 (i64.wrap (0-(i64.wrap (u64.wrap (((BitVec.toNat (BitVec.ofInt 64 a0 &&& BitVec.ofInt 64 (1:Int)):Nat):Int))))))):Nat):Int)))∧o=[]):=by
 unfold Z8e.f at H
 exact HT.fn H (fun r=>iV .i64 (i64.wrap (((BitVec.toNat (BitVec.ofInt 64 (i64.wrap (Int.fdiv a0 2)) ^^^ BitVec.ofInt 64 (i64.wrap (0-(i64.wrap (u64.wrap (((BitVec.toNat (BitVec.ofInt 64 a0 &&& BitVec.ofInt 64 (1:Int)):Nat):Int))))))):Nat):Int)))) (fun r=>[]) [] Tryz.func150 rfl rfl hmx (.r0<|.rg [(1,hK 1)]<|.ret [] [] [] ⟨[(2,iV .i64 (i64.wrap (((BitVec.toNat (BitVec.ofInt 64 (i64.wrap (Int.fdiv a0 2)) ^^^ BitVec.ofInt 64 (i64.wrap (0-(i64.wrap (u64.wrap (((BitVec.toNat (BitVec.ofInt 64 a0 &&& BitVec.ofInt 64 (1:Int)):Nat):Int))))))):Nat):Int))))],[],0⟩)
def Z0g.f (a0_c0:List Int) (a0_c1:Int) (a0_c2:Int):Option (Int×Int×Int):=(Zj.f a0_c0 a0_c1 a0_c2)>>=fun aa=>(Z8e.f aa.1)>>=fun ab=>some (i64.wrap (((BitVec.toNat (BitVec.ofInt 64 (i64.wrap (Int.fdiv aa.1 2)) ^^^ BitVec.ofInt 64 (i64.wrap (0-(i64.wrap (u64.wrap (((BitVec.toNat (BitVec.ofInt 64 aa.1 &&& BitVec.ofInt 64 (1:Int)):Nat):Int))))))):Nat):Int)),aa.2.1,aa.2.2)
theorem Z0g.ok (a0_c0:List Int) (a0_c1:Int) (a0_c2:Int) (r:Int×Int×Int) (H:Z0g.f a0_c0 a0_c1 a0_c2=some r):Pv.Fn Tryz.prog 115 [.ptr 0 0 0] [(0,some (.box 158 (Z8 ⟨a0_c0,a0_c1,a0_c2⟩)))] 1 (fun x o=>x=iV .i64 r.1∧o=[(0,some (.box 158 (Z8 ⟨a0_c0,r.2.1,r.2.2⟩)))]):=by
 unfold Z0g.f at H
 exact HT.fn H (fun r=>iV .i64 r.1) (fun r=>[(0,some (.box 158 (Z8 ⟨a0_c0,r.2.1,r.2.2⟩)))]) [0] Tryz.func115 rfl rfl hmx (.r0<|.bd fun aa ab=>.bd fun ac ad=>.rg [(1,hC [(0,0)] [(0,0)] [] [] Tryz.call84 (Zj.ok a0_c0 a0_c1 a0_c2 aa ab)),(2,hC [] [] [] [] Tryz.call150 (Z8e.ok aa.1 ac ad))]<|.ret [(0,0)] [] [] ⟨[(2,iV .i64 (i64.wrap (((BitVec.toNat (BitVec.ofInt 64 (i64.wrap (Int.fdiv aa.1 2)) ^^^ BitVec.ofInt 64 (i64.wrap (0-(i64.wrap (u64.wrap (((BitVec.toNat (BitVec.ofInt 64 aa.1 &&& BitVec.ofInt 64 (1:Int)):Nat):Int))))))):Nat):Int))))],[(0,some (.box 158 (Z8 ⟨a0_c0,aa.2.1,aa.2.2⟩)))],1⟩)
def Z3c.l0 (a0:Zd) (a1:Int) (aa:Int) (ab:Int):Option (Bool ⊕ Unit):=if(decide (ab<(a0.f1.length:Int)))=true then((at? a0.f1 ab)>>=fun ac=>((if(decide (ac.f1<(1:Int)))=true then(some true) else(if(decide (ac.f1>(i64.wrap (a1-aa))))=true then(some true) else(if(decide (ac.f0<(0:Int)))=true then(some true) else(if(decide (ac.f0>(524288:Int)))=true then(some true) else(some (!((ab==(0:Int))==(ac.f0==(0:Int))))))))):Option (Bool))>>=fun ad=>if ad=true then(some (.inl false)) else(Z3c.l0 a0 a1 (i64.wrap (aa+ac.f1)) (i64.wrap (ab+(1:Int))))) else(some (.inr ()))
partial_fixpoint
def Z3c.f (a0:Zd) (a1:Int):Option (Bool):=if((a0.f1.length:Int)==(0:Int))=true then(some (a0.f0==(0:Int))) else((Z3c.l0 a0 a1 0 0)>>=fun oo=>match oo with | .inl rr=>(some rr) | .inr _=>(((if(decide (a0.f0≥(-262144)))=true then(some (decide (a0.f0≤(262144:Int)))) else(some false)):Option (Bool))>>=fun aa=>some aa))
theorem Z3c.ok (a0:Zd) (a1:Int) (r:Bool) (H:Z3c.f a0 a1=some r):Pv.Fn Tryz.prog 151 [.agg (Zu a0),iV .i64 a1] [] 0 (fun x o=>x=bV r∧o=[]):=by
 unfold Z3c.f at H
 exact HT.fn H (fun r=>bV r) (fun r=>[]) [] Tryz.func151 rfl rfl hmx (.rg [(0,⟨.k 0,.n⟩)]<|.rg [(2,hG Z2d a0.f1)]<|.cd (fun aa=>.r0<|.ret [] [] [] ⟨[(4,bV (a0.f0==(0:Int)))],[],0⟩)
 (fun aa=>.r0<|.rg [(2,hG Z2d a0.f1)]<|.bl<|.loop (.c2 (Z3c.l0.partial_correctness a0 a1)) (0,0) [(0,4)] [] [] (fun _=>.pr fun ab=>.one (fun ac=>⟨[(1,iV .i64 a1),(2,.ptr 4 0 0),(5,iV .i64 ab),(16,.im (.row (a0.f1.map Z2d))),(17,iV .i64 (a0.f1.length:Int)),(18,iV .i64 ac)],[(4,some (.box 179 (Zu a0)))],0⟩) fun ac=>.r0<|.cd (fun ad=>.bl<|.el fun ae af ah=>.rg [(1,hA Z2d af ah),(3,⟨.k 5,.n⟩)]<|.join (.sp (fun ai=>.rg [(3,hB ai)]<|.o [(4,6),(5,7)])
 (fun ai=>.sp (fun aj=>.rg [(3,hB ai),(11,hB aj)]<|.o [(4,6),(5,7)])
 (fun aj=>.sp (fun ak=>.rg [(3,hB ai),(11,hB aj),(16,hB ak)]<|.o [(4,6),(5,7)])
 (fun ak=>.sp (fun al=>.rg [(3,hB ai),(11,hB aj),(16,hB ak),(21,hB al)]<|.o [(4,6),(5,7)])
 (fun al=>.rg [(3,hB ai),(11,hB aj),(16,hB ak),(21,hB al)]<|.o [(4,6),(5,7)])))))
 (.st .normal (fun am=>⟨[(1,iV .i64 a1),(2,.ptr 6 0 0),(5,iV .i64 ab),(7,.ptr 7 0 0),(16,.im (.row (a0.f1.map Z2d))),(17,iV .i64 (a0.f1.length:Int)),(18,iV .i64 ac),(51,bV am)],[(6,some (.box 179 (Zu a0))),(7,some (.box 210 (aSpan ae)))],0⟩) fun am=>.cd (fun ao=>.r0<|.ret [] [] [] ⟨[(4,bV false)],[],0⟩)
 (fun ao=>.r0<|.r0<|.bk [(6,4)] rfl)))
 (fun ad=>.o [(4,8)]))
 (.sm (.rt (fun rr=>bV rr) (fun rr=>[]))
 (.st (.exit 0) (fun _=>⟨[(2,.ptr 8 0 0)],[(8,some (.box 179 (Zu a0)))],0⟩) fun _=>.join (.sp (fun aq=>.rg [(3,hB aq)]<|.o [])
 (fun aq=>.rg [(3,hB aq)]<|.o []))
 (.st .normal (fun ar=>⟨[(4,bV ar)],[],0⟩) fun ar=>.ret [] [] [] ⟨[(4,bV ar)],[],0⟩)))))
def Z1y.l0 (a0_c0:List Int) (a1:Int) (aa:Int) (ab:Int) (ac:Int) (ad:Int) (ae:List Z3e) (af:Int):Option (Int×Int×(List Z3e)):=((if(decide (af<ab))=true then((Zk.f a0_c0 ac ad)>>=fun ah=>some (ad==(0:Int))) else(some false)):Option (Bool))>>=fun ai=>if ai=true then(((if(decide (af>(0:Int)))=true then((Z3.f a0_c0 ac ad 524287)>>=fun aj=>some (aj.2.1,aj.2.2,i64.wrap ((1:Int)+aj.1))) else(some (ac,ad,0))):Option (Int×Int×Int))>>=fun oo=>match oo with | (ak,al,am)=>((Z3.f a0_c0 ak al (i64.wrap (a1-(1:Int))))>>=fun ao=>(chk ((ae.length+[(⟨am,i64.wrap ((1:Int)+ao.1)⟩:Z3e)].length)*16≤140737488355328))>>=fun _=>Z1y.l0 a0_c0 a1 aa ab ao.2.1 ao.2.2 (ae++[(⟨am,i64.wrap ((1:Int)+ao.1)⟩:Z3e)]) (i64.wrap (af+(1:Int))))) else(some (ac,ad,ae))
partial_fixpoint
def Z1y.f (a0_c0:List Int) (a0_c1:Int) (a0_c2:Int) (a1:Int):Option (Zd×Int×Int):=(Z3.f a0_c0 a0_c1 a0_c2 a1)>>=fun aa=>((if(decide (aa.1>(0:Int)))=true then((Z0g.f a0_c0 aa.2.1 aa.2.2)>>=fun ab=>((if(decide (ab.1≥(-262144)))=true then(some (decide (ab.1≤(262144:Int)))) else(some false)):Option (Bool))>>=fun ac=>((if ac=true then(some (ab.1,aa.1)) else(some (0,(-1)))):Option (Int×Int))>>=fun oo=>match oo with | (ad,ae)=>(some (ab.2.1,ab.2.2,ad,ae))) else(some (aa.2.1,aa.2.2,0,aa.1))):Option (Int×Int×Int×Int))>>=fun oo=>match oo with | (af,ah,ai,aj)=>((Z1y.l0 a0_c0 a1 ai aj af ah [] 0)>>=fun oo=>match oo with | (ak,al,am)=>((((Zk.f a0_c0 ak al)>>=fun ao=>if(al != (0:Int))=true then(some true) else(if(decide (aj<(0:Int)))=true then(some true) else((Z3c.f (⟨ai,am⟩:Zd) a1)>>=fun aq=>some (!aq)))):Option (Bool))>>=fun ar=>if ar=true then(some ((⟨0,[]⟩:Zd),ak,al)) else(some ((⟨ai,am⟩:Zd),ak,al))))
theorem Z1y.ok (a0_c0:List Int) (a0_c1:Int) (a0_c2:Int) (a1:Int) (r:Zd×Int×Int) (H:Z1y.f a0_c0 a0_c1 a0_c2 a1=some r):Pv.Fn Tryz.prog 116 [.ptr 0 0 0,iV .i64 a1] [(0,some (.box 158 (Z8 ⟨a0_c0,a0_c1,a0_c2⟩)))] 1 (fun x o=>x = .agg [iV .i64 ((r.1).f0),.own 1]∧o=[(0,some (.box 158 (Z8 ⟨a0_c0,r.2.1,r.2.2⟩))),(1,some (.row 2 210 (((r.1).f1).map Z2d)))]):=by
 unfold Z1y.f at H
 exact HT.fn H (fun r=>.agg [iV .i64 ((r.1).f0),.own 1]) (fun r=>[(0,some (.box 158 (Z8 ⟨a0_c0,r.2.1,r.2.2⟩))),(1,some (.row 2 210 (((r.1).f1).map Z2d)))]) [0,1] Tryz.func116 rfl rfl hmx (.rg [(0,⟨.k 1,.n⟩)]<|.rg [(0,⟨.k 2,.n⟩)]<|.bd fun aa ab=>.rg [(2,hC [(0,0)] [(0,0)] [] [] Tryz.call43 (Z3.ok a0_c0 a0_c1 a0_c2 a1 aa ab))]<|.r0<|.join (.cd (fun ac=>.bd fun ad ae=>.rg [(1,hC [(0,0)] [(0,0)] [] [] Tryz.call115 (Z0g.ok a0_c0 aa.2.1 aa.2.2 ad ae))]<|.join (.sp (fun af=>.rg [(2,hB af)]<|.o [(0,0),(1,3),(2,4)])
 (fun af=>.rg [(2,hB af)]<|.o [(0,0),(1,3),(2,4)]))
 (.st .normal (fun ah=>⟨[(0,.ptr 0 0 0),(1,iV .i64 a1),(4,.ptr 3 0 0),(5,.ptr 4 0 0),(6,iV .i64 aa.1),(7,iV .i64 ad.1),(22,bV ah)],[(0,some (.box 158 (Z8 ⟨a0_c0,ad.2.1,ad.2.2⟩))),(3,some (.box 179 [iV .i64 0,.none0])),(4,some (.box 179 [iV .i64 0,.none0]))],1⟩) fun ah=>.join (.cd (fun ai=>.r0<|.o [(0,0),(3,5),(4,6)])
 (fun ai=>.r0<|.o [(0,0),(3,5),(4,6)]))
 (.pr fun aj=>.st .normal (fun ak=>⟨[(0,.ptr 0 0 0),(1,iV .i64 a1),(4,.ptr 5 0 0),(5,.ptr 6 0 0),(6,iV .i64 ak)],[(0,some (.box 158 (Z8 ⟨a0_c0,ad.2.1,ad.2.2⟩))),(5,some (.box 179 [iV .i64 0,.none0])),(6,some (.box 179 [iV .i64 aj,.none0]))],1⟩) fun ak=>.o [(0,0),(5,7),(6,8)])))
 (fun ac=>.o [(0,0),(1,7),(2,8)]))
 (.pr fun al=>.pr fun am=>.pr fun ao=>.st .normal (fun aq=>⟨[(0,.ptr 0 0 0),(1,iV .i64 a1),(4,.ptr 7 0 0),(5,.ptr 8 0 0),(6,iV .i64 aq)],[(0,some (.box 158 (Z8 ⟨a0_c0,al,am⟩))),(7,some (.box 179 [iV .i64 0,.none0])),(8,some (.box 179 [iV .i64 ao,.none0]))],1⟩) fun aq=>.r0<|.bl<|.loop (.c4 (Z1y.l0.partial_correctness a0_c0 a1 ao aq)) (al,am,[],0) [(0,0),(7,14),(8,15)] [] [16] (fun _=>.pr fun ar=>.pr fun au=>.pr fun av=>.one (fun ax=>⟨[(0,.ptr 0 0 0),(1,iV .i64 a1),(4,.ptr 14 0 0),(5,.ptr 15 0 0),(6,iV .i64 aq),(8,iV .i64 ax)],[(0,some (.box 158 (Z8 ⟨a0_c0,ar,au⟩))),(14,some (.box 179 [iV .i64 0,.none0])),(15,some (.box 179 [iV .i64 ao,.own 16])),(16,some (.row 2 210 (av.map Z2d)))],1⟩) fun ax=>.join (.sp (fun az=>.bd fun a9 ba=>.rg [(3,hB az),(5,hC [(0,0)] [(0,0)] [] [] Tryz.call44 (Zk.ok a0_c0 ar au a9 ba))]<|.o [(0,0),(14,17),(15,18),(16,19)])
 (fun az=>.rg [(3,hB az)]<|.o [(0,0),(14,17),(15,18),(16,19)]))
 (.st .normal (fun bb=>⟨[(0,.ptr 0 0 0),(1,iV .i64 a1),(4,.ptr 17 0 0),(5,.ptr 18 0 0),(6,iV .i64 aq),(8,iV .i64 ax),(32,bV bb)],[(0,some (.box 158 (Z8 ⟨a0_c0,ar,au⟩))),(17,some (.box 179 [iV .i64 0,.none0])),(18,some (.box 179 [iV .i64 ao,.own 19])),(19,some (.row 2 210 (av.map Z2d)))],1⟩) fun bb=>.cd (fun bc=>.bl<|.rg [(1,⟨.k 20,.n⟩)]<|.r0<|.join (.cd (fun be=>.bd fun bf bg=>.rg [(1,hC [(0,0)] [(0,0)] [] [] Tryz.call43 (Z3.ok a0_c0 ar au 524287 bf bg))]<|.o [(0,0),(17,21),(18,22),(19,23),(20,24)])
 (fun be=>.o [(0,0),(17,21),(18,22),(19,23),(20,24)]))
 (.pr fun bh=>.pr fun bi=>.st .normal (fun bj=>⟨[(0,.ptr 0 0 0),(1,iV .i64 a1),(4,.ptr 21 0 0),(5,.ptr 22 0 0),(6,iV .i64 aq),(8,iV .i64 ax),(9,.ptr 24 0 0)],[(0,some (.box 158 (Z8 ⟨a0_c0,bh,bi⟩))),(21,some (.box 179 [iV .i64 0,.none0])),(22,some (.box 179 [iV .i64 ao,.own 23])),(23,some (.row 2 210 (av.map Z2d))),(24,some (.box 210 (aSpan ⟨bj,0⟩)))],1⟩) fun bj=>.bd fun bn bo=>.rg [(3,hC [(0,0)] [(0,0)] [] [] Tryz.call43 (Z3.ok a0_c0 bh bi (i64.wrap (a1-(1:Int))) bn bo))]<|.ck fun bp=>.rg [(3,hQ 25 Z2d ([(⟨bj,i64.wrap ((1:Int)+bn.1)⟩:Z3e)]:List Z3e)),(4,hP 26 Z2d 2 bp)]<|.r0<|.bk [(0,0),(21,14),(22,15),(26,16)] rfl))
 (fun bc=>.o [(0,0),(17,27),(18,28),(19,29)])))
 (.pr fun bq=>.pr fun br=>.st (.exit 0) (fun bu=>⟨[(0,.ptr 0 0 0),(1,iV .i64 a1),(4,.ptr 27 0 0),(5,.ptr 28 0 0),(6,iV .i64 aq)],[(0,some (.box 158 (Z8 ⟨a0_c0,bq,br⟩))),(27,some (.box 179 [iV .i64 0,.none0])),(28,some (.box 179 [iV .i64 ao,.own 29])),(29,some (.row 2 210 (bu.map Z2d)))],1⟩) fun bu=>.join (.bd fun bv bw=>.sp (fun bx=>.rg [(1,hC [(0,0)] [(0,0)] [] [] Tryz.call44 (Zk.ok a0_c0 bq br bv bw)),(3,hB bx)]<|.o [(27,30),(28,31),(29,32),(0,0)])
 (fun bx=>.sp (fun bz=>.rg [(1,hC [(0,0)] [(0,0)] [] [] Tryz.call44 (Zk.ok a0_c0 bq br bv bw)),(3,hB bx),(7,hB bz)]<|.o [(27,30),(28,31),(29,32),(0,0)])
 (fun bz=>.bd fun ca cb=>.rg [(1,hC [(0,0)] [(0,0)] [] [] Tryz.call44 (Zk.ok a0_c0 bq br bv bw)),(3,hB bx),(7,hB bz),(10,hC [] [] [29] [] Tryz.call151 (Z3c.ok (⟨ao,bu⟩:Zd) a1 ca cb))]<|.o [(27,30),(28,31),(29,32),(0,0)])))
 (.st .normal (fun cc=>⟨[(4,.ptr 30 0 0),(5,.ptr 31 0 0),(66,bV cc)],[(0,some (.box 158 (Z8 ⟨a0_c0,bq,br⟩))),(30,some (.box 179 [iV .i64 0,.none0])),(31,some (.box 179 [iV .i64 ao,.own 32])),(32,some (.row 2 210 (bu.map Z2d)))],1⟩) fun cc=>.cd (fun cf=>.r0<|.ret [(0,0),(30,2)] [] [1] ⟨[(4,.ptr 2 0 0)],[(0,some (.box 158 (Z8 ⟨a0_c0,bq,br⟩))),(1,some (.row 2 210 ((((⟨0,[]⟩:Zd)).f1).map Z2d))),(2,some (.box 179 [iV .i64 (((⟨0,[]⟩:Zd)).f0),.own 1]))],1⟩)
 (fun cf=>.r0<|.ret [(0,0),(30,2),(32,1)] [] [] ⟨[(4,.ptr 2 0 0)],[(0,some (.box 158 (Z8 ⟨a0_c0,bq,br⟩))),(1,some (.row 2 210 ((((⟨ao,bu⟩:Zd)).f1).map Z2d))),(2,some (.box 179 [iV .i64 (((⟨ao,bu⟩:Zd)).f0),.own 1]))],1⟩)))))
def Zw.l1 (a0:Zd) (aa:Z3e) (ab:Int) (ac:List Int) (ad:Int) (ae:Int):Option ((List Int)×Int):=if(decide (ae<aa.f1))=true then((chk ((ac.length+[ad].length)*8≤140737488355328))>>=fun _=>Zw.l1 a0 aa ab (ac++[ad]) (i64.wrap (ad+(1:Int))) (i64.wrap (ae+(1:Int)))) else(some (ac,ad))
partial_fixpoint
def Zw.l0 (a0:Zd) (aa:List Int) (ab:Int) (ac:Int):Option (List Int):=if(decide (ac<(a0.f1.length:Int)))=true then((at? a0.f1 ac)>>=fun ad=>(Zw.l1 a0 ad ac aa (i64.wrap (ab+ad.f0)) 0)>>=fun oo=>match oo with | (ae,af)=>(Zw.l0 a0 ae af (i64.wrap (ac+(1:Int))))) else(some aa)
partial_fixpoint
def Zw.f (a0:Zd):Option (List Int):=(Zw.l0 a0 [] a0.f0 0)>>=fun aa=>some aa
theorem Zw.ok (a0:Zd) (r:List Int) (H:Zw.f a0=some r):Pv.Fn Tryz.prog 133 [.agg (Zu a0)] [] 0 (fun x o=>x = .own 0∧o=[(0,some (.row 1 3 (r.map (Z1 .i64))))]):=by
 unfold Zw.f at H
 exact HT.fn H (fun r=>.own 0) (fun r=>[(0,some (.row 1 3 (r.map (Z1 .i64))))]) [0] Tryz.func133 rfl rfl hmx (.rg [(0,⟨.k 0,.n⟩)]<|.r0<|.r0<|.rg [(2,hG Z2d a0.f1)]<|.bl<|.loop (.c3 (Zw.l0.partial_correctness a0)) ([],a0.f0,0) [] [] [8] (fun _=>.pr fun aa=>.pr fun ab=>.one (fun ac=>⟨[(3,.own 8),(4,iV .i64 ab),(10,.im (.row (a0.f1.map Z2d))),(11,iV .i64 (a0.f1.length:Int)),(12,iV .i64 ac)],[(8,some (.row 1 3 (aa.map (Z1 .i64))))],0⟩) fun ac=>.r0<|.cd (fun ad=>.bl<|.el fun ae af ah=>.rg [(0,hA Z2d af ah),(2,⟨.k 9,.n⟩)]<|.r0<|.r0<|.bl<|.loop (.c3 (Zw.l1.partial_correctness a0 ae ac)) (aa,i64.wrap (ab+ae.f0),0) [(8,12)] [] [] (fun _=>.pr fun ai=>.pr fun aj=>.one (fun ak=>⟨[(3,.own 12),(4,iV .i64 aj),(10,.im (.row (a0.f1.map Z2d))),(11,iV .i64 (a0.f1.length:Int)),(12,iV .i64 ac),(21,iV .i64 ae.f1),(22,iV .i64 ak)],[(12,some (.row 1 3 (ai.map (Z1 .i64))))],0⟩) fun ak=>.r0<|.cd (fun al=>.bl<|.ck fun am=>.rg [(2,hQ 13 (Z1 .i64) ([aj]:List Int)),(3,hP 14 (Z1 .i64) 1 am)]<|.r0<|.r0<|.bk [(14,12)] rfl)
 (fun al=>.o [(12,15)]))
 (.pr fun ao=>.st (.exit 2) (fun aq=>⟨[(3,.own 15),(4,iV .i64 aq),(10,.im (.row (a0.f1.map Z2d))),(11,iV .i64 (a0.f1.length:Int)),(12,iV .i64 ac)],[(15,some (.row 1 3 (ao.map (Z1 .i64))))],0⟩) fun aq=>.r0<|.bk [(15,8)] rfl))
 (fun ad=>.o [(8,16)]))
 (.st (.exit 0) (fun ar=>⟨[(3,.own 16)],[(16,some (.row 1 3 (ar.map (Z1 .i64))))],0⟩) fun ar=>.r0<|.ret [(16,0)] [] [] ⟨[(2,.own 0)],[(0,some (.row 1 3 (ar.map (Z1 .i64))))],0⟩))
def Z26.l0 (a1:List Int) (aa:List Int) (ab:List Z2) (ac:Int):Option (List Z2):=if(decide (ac<(aa.length:Int)))=true then((at? aa ac)>>=fun ad=>((if(decide (ac<(a1.length:Int)))=true then((at? a1 ac)>>=fun ae=>some (decide (ae>(0:Int)))) else(some false)):Option (Bool))>>=fun af=>((if af=true then((at? a1 ac)>>=fun ah=>(chk ((ab.length+[(⟨ad,ah⟩:Z2)].length)*16≤140737488355328))>>=fun _=>some (ab++[(⟨ad,ah⟩:Z2)])) else(some ab)):Option (List Z2))>>=fun ai=>Z26.l0 a1 aa ai (i64.wrap (ac+(1:Int)))) else(some ab)
partial_fixpoint
def Z26.f (a0:Zd) (a1:List Int):Option (List Z2):=(Zw.f a0)>>=fun aa=>(Z26.l0 a1 aa [] 0)>>=fun ab=>some ab
theorem Z26.ok (a0:Zd) (a1:List Int) (r:List Z2) (H:Z26.f a0 a1=some r):Pv.Fn Tryz.prog 152 [.agg (Zu a0),.im (.row (a1.map (Z1 .u64)))] [] 0 (fun x o=>x = .own 0∧o=[(0,some (.row 2 136 (r.map Z0)))]):=by
 unfold Z26.f at H
 exact HT.fn H (fun r=>.own 0) (fun r=>[(0,some (.row 2 136 (r.map Z0)))]) [0] Tryz.func152 rfl rfl hmx (.rg [(0,⟨.k 0,.n⟩)]<|.r0<|.bd fun aa ab=>.rg [(1,hC [] [(0,1)] [] [1] Tryz.call133 (Zw.ok a0 aa ab)),(2,hG (Z1 .i64) aa)]<|.bl<|.loop (.c2 (Z26.l0.partial_correctness a1 aa)) ([],0) [(1,8)] [] [7] (fun _=>.pr fun ac=>.one (fun ad=>⟨[(1,.im (.row (a1.map (Z1 .u64)))),(5,.own 7),(9,.own 8),(10,iV .i64 (aa.length:Int)),(11,iV .i64 ad)],[(7,some (.row 2 136 (ac.map Z0))),(8,some (.row 1 3 (aa.map (Z1 .i64))))],0⟩) fun ad=>.r0<|.cd (fun ae=>.bl<|.el fun af ah ai=>.rg [(1,hX (Z1 .i64) ah ai),(2,hL (Z1 .i64) ai)]<|.join (.sp (fun aj=>.el fun ak al am=>.rg [(2,hG (Z1 .u64) a1),(4,hB aj),(7,hA (Z1 .u64) al am)]<|.o [(7,9),(8,10)])
 (fun aj=>.rg [(2,hG (Z1 .u64) a1),(4,hB aj)]<|.o [(7,9),(8,10)]))
 (.st .normal (fun ao=>⟨[(1,.im (.row (a1.map (Z1 .u64)))),(5,.own 9),(6,iV .i64 ad),(7,iV .i64 af),(9,.own 10),(10,iV .i64 (aa.length:Int)),(11,iV .i64 ad),(26,bV ao)],[(9,some (.row 2 136 (ac.map Z0))),(10,some (.row 1 3 (aa.map (Z1 .i64))))],0⟩) fun ao=>.join (.cd (fun aq=>.el fun ar au av=>.ck fun ax=>.rg [(4,hA (Z1 .u64) au av),(7,hQ 11 Z0 ([(⟨af,ar⟩:Z2)]:List Z2)),(8,hP 12 Z0 2 ax)]<|.o [(12,13),(10,14)])
 (fun aq=>.o [(9,13),(10,14)]))
 (.st .normal (fun az=>⟨[(1,.im (.row (a1.map (Z1 .u64)))),(5,.own 13),(9,.own 14),(10,iV .i64 (aa.length:Int)),(11,iV .i64 ad)],[(13,some (.row 2 136 (az.map Z0))),(14,some (.row 1 3 (aa.map (Z1 .i64))))],0⟩) fun az=>.r0<|.bk [(13,7),(14,8)] rfl)))
 (fun ae=>.o [(7,15)]))
 (.st (.exit 0) (fun a9=>⟨[(5,.own 15)],[(15,some (.row 2 136 (a9.map Z0)))],0⟩) fun a9=>.r0<|.ret [(15,0)] [] [] ⟨[(4,.own 0)],[(0,some (.row 2 136 (a9.map Z0)))],0⟩))
def Z0v.f (a0:List Z2):Option (List Z2):=(chk ((([]:List Z2).length+a0.length)*16≤140737488355328))>>=fun _=>some a0
theorem Z0v.ok (a0 r:List Z2) (H:Z0v.f a0=some r):Pv.Fn Tryz.prog 181 [.im (.row (a0.map Z0))] [] 0 (fun x o=>x = .own 0∧o=[(0,some (.row 2 136 (r.map Z0)))]):=by
 unfold Z0v.f at H
 obtain⟨c1,H⟩:=Za6 H
 obtain rfl:=sj H
 refine Fn.bodyK [0] Tryz.func181 rfl rfl (fun Γ hP hn => ?_)
 have hm:Tryz.prog.follows .mixedOrders=true:=by kernel_rfl
 replace hn:Γ.n=8:=hn
 refine AWp.seq ?_
 refine reg hP hn hm [] [0,2] [] ⟨[(0,.im (.row (a0.map Z0))),(2,.none0)],[],0⟩ [] (by kernel_rfl) trivial ?_
 refine AWp.seq ?_
 cases a0 with
 | nil =>
  refine AWp.nilSplit 0 rfl (fun b m => ?_)
  refine AWp.seq ?_
  cases b with
  | none =>
   refine reg hP hn hm [(1,.more xNil)] [2,4] [] ⟨[(2,.none0),(4,bV true)],[],0⟩ [] (by kernel_rfl) trivial ?_
   refine AWp.cond true rfl (fun _ => ?_) (fun h=>nomatch h)
   refine AWp.seq ?_
   refine reg hP hn hm [] [2] [] ⟨[(2,.none0)],[],0⟩ [] (by kernel_rfl) trivial ?_
   refine AWp.conv (inv:=[]) (vk:=[]) (e0:=[0]) (t:=⟨[(2,.own 0)],[(0,some (.row 2 136 []))],0⟩) (by kernel_rfl) ?_
   refine AWp.ret ?_
   exact Exists.intro _ (And.intro (fun _ _ h=>h) (And.intro (.inl rfl) (And.intro rfl (And.intro (by kernel_rfl) (by kernel_rfl)))))
  | some b =>
   refine reg hP hn hm [(1,.more xNil)] [0,2,4] [] ⟨[(0,.im (.sc (.slice (some b) 0 m))),(2,.none0),(4,bV false)],[],0⟩ [] (by kernel_rfl) trivial ?_
   refine AWp.cond false rfl (fun h=>nomatch h) (fun _ => ?_)
   refine AWp.skip ?_
   refine AWp.unsplit 0 rfl ?_
   refine AWp.seq ?_
   refine reg hP hn hm [(0,.app 0 ([]:List (List Im))),(2,.app 1 (([]:List Z2).map Z0))] [2] [1] ⟨[(2,.own 1)],[(1,some (.row 2 136 (([]:List Z2).map Z0)))],0⟩ [([]:List (List Im))=[],([]:List Z2).map Z0=([]:List (List Im))++([]:List Z2).map Z0,∀ c∈([]:List Z2).map Z0,c.length=2,∀ c∈([]:List Z2).map Z0,Z3b (c.map .im)=true,(([]:List (List Im)).length+(([]:List Z2).map Z0).length)*16≤140737488355328] (by kernel_rfl) ⟨rfl,by simp,by exact Z5c _ _ _ (fun _=>rfl),by exact Z4p _ _ (fun _=>rfl),by simpa using c1,trivial⟩ ?_
   refine AWp.conv (inv:=[(1,0)]) (vk:=[]) (e0:=[]) (t:=⟨[(2,.own 0)],[(0,some (.row 2 136 (([]:List Z2).map Z0)))],0⟩) (by kernel_rfl) ?_
   refine AWp.ret ?_
   exact Exists.intro _ (And.intro (fun _ _ h=>h) (And.intro (.inl rfl) (And.intro rfl (And.intro (by kernel_rfl) (by kernel_rfl)))))
 | cons y l =>
  refine AWp.seq ?_
  refine reg hP hn hm [(1,.more xNil)] [0,2,4] [] ⟨[(0,.im (.row ((y::l).map Z0))),(2,.none0),(4,bV false)],[],0⟩ [] (by kernel_rfl) trivial ?_
  refine AWp.cond false rfl (fun h=>nomatch h) (fun _ => ?_)
  refine AWp.skip ?_
  refine AWp.seq ?_
  refine reg hP hn hm [(0,.app 0 ([]:List (List Im))),(2,.app 1 ((y::l).map Z0))] [2] [1] ⟨[(2,.own 1)],[(1,some (.row 2 136 ((y::l).map Z0)))],0⟩ [([]:List (List Im))=[],(y::l).map Z0=([]:List (List Im))++(y::l).map Z0,∀ c∈(y::l).map Z0,c.length=2,∀ c∈(y::l).map Z0,Z3b (c.map .im)=true,(([]:List (List Im)).length+((y::l).map Z0).length)*16≤140737488355328] (by kernel_rfl) ⟨rfl,by simp,by exact Z5c _ _ _ (fun _=>rfl),by exact Z4p _ _ (fun _=>rfl),by simpa using c1,trivial⟩ ?_
  refine AWp.conv (inv:=[(1,0)]) (vk:=[]) (e0:=[]) (t:=⟨[(2,.own 0)],[(0,some (.row 2 136 ((y::l).map Z0)))],0⟩) (by kernel_rfl) ?_
  refine AWp.ret ?_
  exact Exists.intro _ (And.intro (fun _ _ h=>h) (And.intro (.inl rfl) (And.intro rfl (And.intro (by kernel_rfl) (by kernel_rfl)))))
def Z46.f (a0:Int) (a1:Int):Option (Int):=(Z1z.f a0)>>=fun aa=>(Z1z.f a1)>>=fun ab=>if(a0 != a0)=true then(if(a1 != a1)=true then(some 0) else(some (-1))) else(if(a1 != a1)=true then(some 1) else(if(decide (a0<a1))=true then(some (-1)) else(if(decide (a0>a1))=true then(some 1) else(some 0))))
theorem Z46.ok (a0:Int) (a1:Int) (r:Int) (H:Z46.f a0 a1=some r):Pv.Fn Tryz.prog 184 [iV .i64 a0,iV .i64 a1] [] 0 (fun x o=>x=iV .i64 r∧o=[]):=by
 unfold Z46.f at H
 exact HT.fn H (fun r=>iV .i64 r) (fun r=>[]) [] Tryz.func184 rfl rfl hmx (.r0<|.bd fun aa ab=>.rg [(1,hC [] [] [] [] Tryz.call130 (Z1z.ok a0 aa ab))]<|.bd fun ac ad=>.rg [(1,hC [] [] [] [] Tryz.call130 (Z1z.ok a1 ac ad))]<|.r0<|.cd (fun ae=>.r0<|.cd (fun af=>.r0<|.ret [] [] [] ⟨[(4,iV .i64 0)],[],0⟩)
 (fun af=>.r0<|.ret [] [] [] ⟨[(4,iV .i64 (-1))],[],0⟩))
 (fun ae=>.r0<|.cd (fun ah=>.r0<|.ret [] [] [] ⟨[(4,iV .i64 1)],[],0⟩)
 (fun ah=>.r0<|.cd (fun ai=>.r0<|.ret [] [] [] ⟨[(4,iV .i64 (-1))],[],0⟩)
 (fun ai=>.r0<|.cd (fun aj=>.r0<|.ret [] [] [] ⟨[(4,iV .i64 1)],[],0⟩)
 (fun aj=>.r0<|.ret [] [] [] ⟨[(4,iV .i64 0)],[],0⟩)))))
def Z2y.f (a0:Z2) (a1:Z2):Option (Int):=(Z46.f a0.f0 a1.f0)>>=fun aa=>some aa
theorem Z2y.ok (a0:Z2) (a1:Z2) (r:Int) (H:Z2y.f a0 a1=some r):Pv.Fn Tryz.prog 183 [.agg (Z82 a0),.agg (Z82 a1)] [] 0 (fun x o=>x=iV .i64 r∧o=[]):=by
 unfold Z2y.f at H
 exact HT.fn H (fun r=>iV .i64 r) (fun r=>[]) [] Tryz.func183 rfl rfl hmx (.rg [(0,⟨.k 0,.n⟩),(1,⟨.k 1,.n⟩)]<|.bd fun aa ab=>.rg [(4,hC [] [] [] [] Tryz.call184 (Z46.ok a0.f0 a1.f0 aa ab))]<|.ret [] [] [] ⟨[(4,iV .i64 aa)],[],0⟩)
def Ze.l1 (a1:Int) (a2:Int) (aa:Int) (ab:List Z2) (ac:Int):Option (List Z2):=((if(decide (ac>a1))=true then((at? ab ac)>>=fun ad=>(at? ab (i64.wrap (ac-(1:Int))))>>=fun ae=>(Z2y.f ad ae)>>=fun af=>some (decide (af<(0:Int)))) else(some false)):Option (Bool))>>=fun ah=>if ah=true then((at? ab (i64.wrap (ac-(1:Int))))>>=fun ai=>(at? ab ac)>>=fun aj=>(at? (ab.set (Int.toNat (ac)) ai) (i64.wrap (ac-(1:Int))))>>=fun ak=>Ze.l1 a1 a2 aa ((ab.set (Int.toNat (ac)) ai).set (Int.toNat (i64.wrap (ac-(1:Int)))) aj) (i64.wrap (ac-(1:Int)))) else(some ab)
partial_fixpoint
def Ze.l0 (a1:Int) (a2:Int) (aa:List Z2) (ab:Int):Option (List Z2):=if(decide (ab<a2))=true then((Ze.l1 a1 a2 ab aa ab)>>=fun ac=>Ze.l0 a1 a2 ac (i64.wrap (ab+(1:Int)))) else(some aa)
partial_fixpoint
def Ze.f (a0:List Z2) (a1:Int) (a2:Int):Option (List Z2):=(Ze.l0 a1 a2 a0 (i64.wrap (a1+(1:Int))))>>=fun aa=>some aa
theorem Ze.ok (a0:List Z2) (a1:Int) (a2:Int) (r:List Z2) (H:Ze.f a0 a1 a2=some r):Pv.Fn Tryz.prog 195 [.own 0,iV .i64 a1,iV .i64 a2,.im (.sc (.func (.func 183) #[] #[]))] [(0,some (.row 2 136 (a0.map Z0)))] 1 (fun x o=>x = .tup []∧o=[(0,some (.row 2 136 (r.map Z0)))]):=by
 unfold Ze.f at H
 exact HT.fn H (fun r=>.tup []) (fun r=>[(0,some (.row 2 136 (r.map Z0)))]) [0] Tryz.func195 rfl rfl hmx (.r0<|.bl<|.loop (.c2 (Ze.l0.partial_correctness a1 a2)) (a0,i64.wrap (a1+(1:Int))) [(0,0)] [] [] (fun _=>.pr fun aa=>.one (fun ab=>⟨[(0,.own 0),(1,iV .i64 a1),(2,iV .i64 a2),(3,.im (.sc (.func (.func 183) #[] #[]))),(8,iV .i64 ab)],[(0,some (.row 2 136 (aa.map Z0)))],1⟩) fun ab=>.r0<|.cd (fun ac=>.bl<|.r0<|.bl<|.loop (.c2 (Ze.l1.partial_correctness a1 a2 ab)) (aa,ab) [(0,0)] [] [] (fun _=>.pr fun ad=>.one (fun ae=>⟨[(0,.own 0),(1,iV .i64 a1),(2,iV .i64 a2),(3,.im (.sc (.func (.func 183) #[] #[]))),(8,iV .i64 ab),(9,iV .i64 ae)],[(0,some (.row 2 136 (ad.map Z0)))],1⟩) fun ae=>.join (.sp (fun af=>.el fun ah ai aj=>.el fun ak al am=>.bd fun ao aq=>.rg [(3,hB af),(7,hX Z0 ai aj),(8,hL Z0 aj),(12,hX Z0 al am),(13,hL Z0 am),(14,hC [] [] [] [] Tryz.call183 (Z2y.ok ah ak ao aq))]<|.o [(0,0)])
 (fun af=>.rg [(3,hB af)]<|.o [(0,0)]))
 (.st .normal (fun ar=>⟨[(0,.own 0),(1,iV .i64 a1),(2,iV .i64 a2),(3,.im (.sc (.func (.func 183) #[] #[]))),(8,iV .i64 ab),(9,iV .i64 ae),(34,bV ar)],[(0,some (.row 2 136 (ad.map Z0)))],1⟩) fun ar=>.cd (fun au=>.bl<|.el fun av ax az=>.el fun a9 ba bb=>.el fun bc be bf=>.rg [(8,hX Z0 ax az),(9,hL Z0 az),(12,hX Z0 ba bb),(13,hL Z0 bb),(14,hX Z0 ba bb),(15,hS Z0 av 0 [iI .i64 av.f0,iI .u64 av.f1] bb),(16,hX Z0 be bf),(17,hS Z0 a9 0 [iI .i64 a9.f0,iI .u64 a9.f1] bf)]<|.r0<|.bk [(0,0)] rfl)
 (fun au=>.o [(0,0)])))
 (.st (.exit 2) (fun bg=>⟨[(0,.own 0),(1,iV .i64 a1),(2,iV .i64 a2),(3,.im (.sc (.func (.func 183) #[] #[]))),(8,iV .i64 ab)],[(0,some (.row 2 136 (bg.map Z0)))],1⟩) fun bg=>.r0<|.bk [(0,0)] rfl))
 (fun ac=>.o [(0,0)]))
 (.st (.exit 0) (fun bh=>⟨[],[(0,some (.row 2 136 (bh.map Z0)))],1⟩) fun bh=>.ret [(0,0)] [] [] ⟨[],[(0,some (.row 2 136 (bh.map Z0)))],1⟩))
def Zh.l0 (a1:Int) (a2:Int) (a3:Int) (aa:List Z2) (ab:Int):Option (List Z2):=if(decide (ab<a3))=true then((at? aa (i64.wrap (a2+ab)))>>=fun ac=>(at? aa (i64.wrap (a1+ab)))>>=fun ad=>(at? (aa.set (Int.toNat (i64.wrap (a1+ab))) ac) (i64.wrap (a2+ab)))>>=fun ae=>Zh.l0 a1 a2 a3 ((aa.set (Int.toNat (i64.wrap (a1+ab))) ac).set (Int.toNat (i64.wrap (a2+ab))) ad) (i64.wrap (ab+(1:Int)))) else(some aa)
partial_fixpoint
def Zh.f (a0:List Z2) (a1:Int) (a2:Int) (a3:Int):Option (List Z2):=(Zh.l0 a1 a2 a3 a0 0)>>=fun aa=>some aa
theorem Zh.ok (a0:List Z2) (a1:Int) (a2:Int) (a3:Int) (r:List Z2) (H:Zh.f a0 a1 a2 a3=some r):Pv.Fn Tryz.prog 203 [.own 0,iV .i64 a1,iV .i64 a2,iV .i64 a3,.im (.sc (.func (.func 183) #[] #[]))] [(0,some (.row 2 136 (a0.map Z0)))] 1 (fun x o=>x = .tup []∧o=[(0,some (.row 2 136 (r.map Z0)))]):=by
 unfold Zh.f at H
 exact HT.fn H (fun r=>.tup []) (fun r=>[(0,some (.row 2 136 (r.map Z0)))]) [0] Tryz.func203 rfl rfl hmx (.r0<|.bl<|.loop (.c2 (Zh.l0.partial_correctness a1 a2 a3)) (a0,0) [(0,0)] [] [] (fun _=>.pr fun aa=>.one (fun ab=>⟨[(0,.own 0),(1,iV .i64 a1),(2,iV .i64 a2),(3,iV .i64 a3),(10,iV .i64 ab)],[(0,some (.row 2 136 (aa.map Z0)))],1⟩) fun ab=>.r0<|.cd (fun ac=>.bl<|.el fun ad ae af=>.el fun ah ai aj=>.el fun ak al am=>.rg [(12,hX Z0 ae af),(13,hL Z0 af),(18,hX Z0 ai aj),(19,hL Z0 aj),(20,hX Z0 ai aj),(21,hS Z0 ad 0 [iI .i64 ad.f0,iI .u64 ad.f1] aj),(22,hX Z0 al am),(23,hS Z0 ah 0 [iI .i64 ah.f0,iI .u64 ah.f1] am)]<|.r0<|.bk [(0,0)] rfl)
 (fun ac=>.o [(0,0)]))
 (.st (.exit 0) (fun ao=>⟨[],[(0,some (.row 2 136 (ao.map Z0)))],1⟩) fun ao=>.ret [(0,0)] [] [] ⟨[],[(0,some (.row 2 136 (ao.map Z0)))],1⟩))
def Z00.l0 (a2:Int) (aa:List Z2) (ab:Int) (ac:Int):Option ((List Z2)×Int):=if(ab != ac)=true then(((if(decide (ab>ac))=true then((Zh.f aa (i64.wrap (a2-ab)) a2 ac)>>=fun ad=>some (ad,i64.wrap (ab-ac),ac)) else((Zh.f aa (i64.wrap (a2-ab)) (i64.wrap ((i64.wrap (a2+ac))-ab)) ab)>>=fun ae=>some (ae,ab,i64.wrap (ac-ab)))):Option ((List Z2)×Int×Int))>>=fun oo=>match oo with | (af,ah,ai)=>(Z00.l0 a2 af ah ai)) else(some (aa,ab))
partial_fixpoint
def Z00.f (a0:List Z2) (a1:Int) (a2:Int) (a3:Int):Option (List Z2):=(Z00.l0 a2 a0 (i64.wrap (a2-a1)) (i64.wrap (a3-a2)))>>=fun oo=>match oo with | (aa,ab)=>((Zh.f aa (i64.wrap (a2-ab)) a2 ab)>>=fun ac=>some ac)
theorem Z00.ok (a0:List Z2) (a1:Int) (a2:Int) (a3:Int) (r:List Z2) (H:Z00.f a0 a1 a2 a3=some r):Pv.Fn Tryz.prog 201 [.own 0,iV .i64 a1,iV .i64 a2,iV .i64 a3,.im (.sc (.func (.func 183) #[] #[]))] [(0,some (.row 2 136 (a0.map Z0)))] 1 (fun x o=>x = .tup []∧o=[(0,some (.row 2 136 (r.map Z0)))]):=by
 unfold Z00.f at H
 exact HT.fn H (fun r=>.tup []) (fun r=>[(0,some (.row 2 136 (r.map Z0)))]) [0] Tryz.func201 rfl rfl hmx (.r0<|.r0<|.bl<|.loop (.c3 (Z00.l0.partial_correctness a2)) (a0,i64.wrap (a2-a1),i64.wrap (a3-a2)) [(0,0)] [] [] (fun _=>.pr fun aa=>.pr fun ab=>.one (fun ac=>⟨[(0,.own 0),(2,iV .i64 a2),(4,.im (.sc (.func (.func 183) #[] #[]))),(10,iV .i64 ab),(11,iV .i64 ac)],[(0,some (.row 2 136 (aa.map Z0)))],1⟩) fun ac=>.r0<|.cd (fun ad=>.bl<|.r0<|.join (.cd (fun ae=>.bd fun af ah=>.rg [(7,hC [(0,0)] [(0,0)] [] [] Tryz.call203 (Zh.ok aa (i64.wrap (a2-ab)) a2 ac af ah))]<|.r0<|.o [(0,0)])
 (fun ae=>.bd fun ai aj=>.rg [(11,hC [(0,0)] [(0,0)] [] [] Tryz.call203 (Zh.ok aa (i64.wrap (a2-ab)) (i64.wrap ((i64.wrap (a2+ac))-ab)) ab ai aj))]<|.r0<|.o [(0,0)]))
 (.pr fun ak=>.pr fun al=>.st .normal (fun am=>⟨[(0,.own 0),(2,iV .i64 a2),(4,.im (.sc (.func (.func 183) #[] #[]))),(10,iV .i64 al),(11,iV .i64 am)],[(0,some (.row 2 136 (ak.map Z0)))],1⟩) fun am=>.bk [(0,0)] rfl))
 (fun ad=>.o [(0,0)]))
 (.pr fun ao=>.st (.exit 0) (fun aq=>⟨[(0,.own 0),(2,iV .i64 a2),(4,.im (.sc (.func (.func 183) #[] #[]))),(10,iV .i64 aq)],[(0,some (.row 2 136 (ao.map Z0)))],1⟩) fun aq=>.bd fun ar au=>.rg [(7,hC [(0,0)] [(0,0)] [] [] Tryz.call203 (Zh.ok ao (i64.wrap (a2-aq)) a2 aq ar au))]<|.ret [(0,0)] [] [] ⟨[],[(0,some (.row 2 136 (ar.map Z0)))],1⟩))
def Z5.l0 (a0:List Z2) (a1:Int) (aa:Int) (ab:Int):Option (Int):=if(decide (aa<ab))=true then((at? a0 (i64.wrap (Int.fdiv (u64.wrap (i64.wrap (aa+ab))) 2)))>>=fun ac=>(at? a0 a1)>>=fun ad=>(Z2y.f ac ad)>>=fun ae=>((if(decide (ae<(0:Int)))=true then(some (i64.wrap ((i64.wrap (Int.fdiv (u64.wrap (i64.wrap (aa+ab))) 2))+(1:Int)),ab)) else(some (aa,i64.wrap (Int.fdiv (u64.wrap (i64.wrap (aa+ab))) 2)))):Option (Int×Int))>>=fun oo=>match oo with | (af,ah)=>(Z5.l0 a0 a1 af ah)) else(some aa)
partial_fixpoint
def Z5.l1 (aa:Int) (ab:List Z2) (ac:Int):Option (List Z2):=if(decide (ac<(i64.wrap (aa-(1:Int)))))=true then((at? ab (i64.wrap (ac+(1:Int))))>>=fun ad=>(at? ab ac)>>=fun ae=>(at? (ab.set (Int.toNat (ac)) ad) (i64.wrap (ac+(1:Int))))>>=fun af=>Z5.l1 aa ((ab.set (Int.toNat (ac)) ad).set (Int.toNat (i64.wrap (ac+(1:Int)))) ae) (i64.wrap (ac+(1:Int)))) else(some ab)
partial_fixpoint
def Z5.l2 (a0:List Z2) (a2:Int) (aa:Int) (ab:Int):Option (Int):=if(decide (aa<ab))=true then((at? a0 a2)>>=fun ac=>(at? a0 (i64.wrap (Int.fdiv (u64.wrap (i64.wrap (aa+ab))) 2)))>>=fun ad=>(Z2y.f ac ad)>>=fun ae=>((if(!(decide (ae<(0:Int))))=true then(some (i64.wrap ((i64.wrap (Int.fdiv (u64.wrap (i64.wrap (aa+ab))) 2))+(1:Int)),ab)) else(some (aa,i64.wrap (Int.fdiv (u64.wrap (i64.wrap (aa+ab))) 2)))):Option (Int×Int))>>=fun oo=>match oo with | (af,ah)=>(Z5.l2 a0 a2 af ah)) else(some aa)
partial_fixpoint
def Z5.l3 (aa:Int) (ab:List Z2) (ac:Int):Option (List Z2):=if(decide (ac>aa))=true then((at? ab (i64.wrap (ac-(1:Int))))>>=fun ad=>(at? ab ac)>>=fun ae=>(at? (ab.set (Int.toNat (ac)) ad) (i64.wrap (ac-(1:Int))))>>=fun af=>Z5.l3 aa ((ab.set (Int.toNat (ac)) ad).set (Int.toNat (i64.wrap (ac-(1:Int)))) ae) (i64.wrap (ac-(1:Int)))) else(some ab)
partial_fixpoint
def Z5.l4 (a0:List Z2) (a1:Int) (a2:Int) (a3:Int) (aa:Int) (ab:Int):Option (Int):=if(decide (aa<ab))=true then((at? a0 (i64.wrap ((i64.wrap ((i64.wrap ((i64.wrap (Int.fdiv (u64.wrap (i64.wrap (a1+a3))) 2))+a2))-(1:Int)))-(i64.wrap (Int.fdiv (u64.wrap (i64.wrap (aa+ab))) 2)))))>>=fun ac=>(at? a0 (i64.wrap (Int.fdiv (u64.wrap (i64.wrap (aa+ab))) 2)))>>=fun ad=>(Z2y.f ac ad)>>=fun ae=>((if(!(decide (ae<(0:Int))))=true then(some (i64.wrap ((i64.wrap (Int.fdiv (u64.wrap (i64.wrap (aa+ab))) 2))+(1:Int)),ab)) else(some (aa,i64.wrap (Int.fdiv (u64.wrap (i64.wrap (aa+ab))) 2)))):Option (Int×Int))>>=fun oo=>match oo with | (af,ah)=>(Z5.l4 a0 a1 a2 a3 af ah)) else(some aa)
partial_fixpoint
def Z5.f (a0:List Z2) (a1:Int) (a2:Int) (a3:Int):Option (List Z2):=if((i64.wrap (a2-a1))==(1:Int))=true then((Z5.l0 a0 a1 a2 a3)>>=fun aa=>(Z5.l1 aa a0 a1)>>=fun ab=>some ab) else(if((i64.wrap (a3-a2))==(1:Int))=true then((Z5.l2 a0 a2 a1 a2)>>=fun ac=>(Z5.l3 ac a0 a2)>>=fun ad=>some ad) else(((if(decide (a2>(i64.wrap (Int.fdiv (u64.wrap (i64.wrap (a1+a3))) 2))))=true then(some (i64.wrap ((i64.wrap ((i64.wrap (Int.fdiv (u64.wrap (i64.wrap (a1+a3))) 2))+a2))-a3),i64.wrap (Int.fdiv (u64.wrap (i64.wrap (a1+a3))) 2))) else(some (a1,a2))):Option (Int×Int))>>=fun oo=>match oo with | (ae,af)=>((Z5.l4 a0 a1 a2 a3 ae af)>>=fun ah=>((if(decide (ah<a2))=true then(some (decide (a2<(i64.wrap ((i64.wrap ((i64.wrap (Int.fdiv (u64.wrap (i64.wrap (a1+a3))) 2))+a2))-ah))))) else(some false)):Option (Bool))>>=fun ai=>((if ai=true then((Z00.f a0 ah a2 (i64.wrap ((i64.wrap ((i64.wrap (Int.fdiv (u64.wrap (i64.wrap (a1+a3))) 2))+a2))-ah)))>>=fun aj=>some aj) else(some a0)):Option (List Z2))>>=fun ak=>((if(decide (a1<ah))=true then(some (decide (ah<(i64.wrap (Int.fdiv (u64.wrap (i64.wrap (a1+a3))) 2))))) else(some false)):Option (Bool))>>=fun al=>((if al=true then((Z5.f ak a1 ah (i64.wrap (Int.fdiv (u64.wrap (i64.wrap (a1+a3))) 2)))>>=fun am=>some am) else(some ak)):Option (List Z2))>>=fun ao=>((if(decide ((i64.wrap (Int.fdiv (u64.wrap (i64.wrap (a1+a3))) 2))<(i64.wrap ((i64.wrap ((i64.wrap (Int.fdiv (u64.wrap (i64.wrap (a1+a3))) 2))+a2))-ah))))=true then(some (decide ((i64.wrap ((i64.wrap ((i64.wrap (Int.fdiv (u64.wrap (i64.wrap (a1+a3))) 2))+a2))-ah))<a3))) else(some false)):Option (Bool))>>=fun aq=>((if aq=true then((Z5.f ao (i64.wrap (Int.fdiv (u64.wrap (i64.wrap (a1+a3))) 2)) (i64.wrap ((i64.wrap ((i64.wrap (Int.fdiv (u64.wrap (i64.wrap (a1+a3))) 2))+a2))-ah)) a3)>>=fun ar=>some ar) else(some ao)):Option (List Z2))>>=fun au=>some au)))
partial_fixpoint
theorem Z5.ok (a0:List Z2) (a1:Int) (a2:Int) (a3:Int) (r:List Z2) (H:Z5.f a0 a1 a2 a3=some r):Pv.Fn Tryz.prog 196 [.own 0,iV .i64 a1,iV .i64 a2,iV .i64 a3,.im (.sc (.func (.func 183) #[] #[]))] [(0,some (.row 2 136 (a0.map Z0)))] 1 (fun x o=>x = .tup []∧o=[(0,some (.row 2 136 (r.map Z0)))]):=by
 refine Z5.f.partial_correctness (motive:=fun a0 a1 a2 a3 r=>Pv.Fn Tryz.prog 196 [.own 0,iV .i64 a1,iV .i64 a2,iV .i64 a3,.im (.sc (.func (.func 183) #[] #[]))] [(0,some (.row 2 136 (a0.map Z0)))] 1 (fun x o=>x = .tup []∧o=[(0,some (.row 2 136 (r.map Z0)))])) ?_ a0 a1 a2 a3 r H
 clear H a0 a1 a2 a3 r;intro self ihF a0 a1 a2 a3 r H
 exact HT.fn H (fun r=>.tup []) (fun r=>[(0,some (.row 2 136 (r.map Z0)))]) [0] Tryz.func196 rfl rfl hmx (.r0<|.cd (fun aa=>.r0<|.r0<|.bl<|.loop (.c2 (Z5.l0.partial_correctness a0 a1)) (a2,a3) [(0,0)] [] [] (fun _=>.pr fun ab=>.one (fun ac=>⟨[(0,.own 0),(1,iV .i64 a1),(4,.im (.sc (.func (.func 183) #[] #[]))),(10,iV .i64 ab),(11,iV .i64 ac)],[(0,some (.row 2 136 (a0.map Z0)))],1⟩) fun ac=>.r0<|.cd (fun ad=>.bl<|.rg [(4,hK 1)]<|.el fun ae af ah=>.el fun ai aj ak=>.bd fun al am=>.rg [(3,hX Z0 af ah),(4,hL Z0 ah),(7,hX Z0 aj ak),(8,hL Z0 ak),(9,hC [] [] [] [] Tryz.call183 (Z2y.ok ae ai al am))]<|.join (.cd (fun ao=>.r0<|.o [(0,0)])
 (fun ao=>.r0<|.o [(0,0)]))
 (.pr fun aq=>.st .normal (fun ar=>⟨[(0,.own 0),(1,iV .i64 a1),(4,.im (.sc (.func (.func 183) #[] #[]))),(10,iV .i64 aq),(11,iV .i64 ar)],[(0,some (.row 2 136 (a0.map Z0)))],1⟩) fun ar=>.bk [(0,0)] rfl))
 (fun ad=>.o [(0,0)]))
 (.st (.exit 0) (fun au=>⟨[(0,.own 0),(1,iV .i64 a1),(10,iV .i64 au)],[(0,some (.row 2 136 (a0.map Z0)))],1⟩) fun au=>.r0<|.bl<|.loop (.c2 (Z5.l1.partial_correctness au)) (a0,a1) [(0,0)] [] [] (fun _=>.pr fun av=>.one (fun ax=>⟨[(0,.own 0),(10,iV .i64 au),(13,iV .i64 ax)],[(0,some (.row 2 136 (av.map Z0)))],1⟩) fun ax=>.r0<|.cd (fun az=>.bl<|.el fun a9 ba bb=>.el fun bc be bf=>.el fun bg bh bi=>.rg [(8,hX Z0 ba bb),(9,hL Z0 bb),(12,hX Z0 be bf),(13,hL Z0 bf),(14,hX Z0 be bf),(15,hS Z0 a9 0 [iI .i64 a9.f0,iI .u64 a9.f1] bf),(16,hX Z0 bh bi),(17,hS Z0 bc 0 [iI .i64 bc.f0,iI .u64 bc.f1] bi)]<|.r0<|.bk [(0,0)] rfl)
 (fun az=>.o [(0,0)]))
 (.st (.exit 2) (fun bj=>⟨[],[(0,some (.row 2 136 (bj.map Z0)))],1⟩) fun bj=>.ret [(0,0)] [] [] ⟨[],[(0,some (.row 2 136 (bj.map Z0)))],1⟩)))
 (fun aa=>.r0<|.cd (fun bn=>.r0<|.r0<|.bl<|.loop (.c2 (Z5.l2.partial_correctness a0 a2)) (a1,a2) [(0,0)] [] [] (fun _=>.pr fun bo=>.one (fun bp=>⟨[(0,.own 0),(2,iV .i64 a2),(4,.im (.sc (.func (.func 183) #[] #[]))),(14,iV .i64 bo),(15,iV .i64 bp)],[(0,some (.row 2 136 (a0.map Z0)))],1⟩) fun bp=>.r0<|.cd (fun bq=>.bl<|.rg [(4,hK 1)]<|.el fun br bu bv=>.el fun bw bx bz=>.bd fun ca cb=>.rg [(3,hX Z0 bu bv),(4,hL Z0 bv),(7,hX Z0 bx bz),(8,hL Z0 bz),(9,hC [] [] [] [] Tryz.call183 (Z2y.ok br bw ca cb))]<|.join (.cd (fun cc=>.r0<|.o [(0,0)])
 (fun cc=>.r0<|.o [(0,0)]))
 (.pr fun cf=>.st .normal (fun cj=>⟨[(0,.own 0),(2,iV .i64 a2),(4,.im (.sc (.func (.func 183) #[] #[]))),(14,iV .i64 cf),(15,iV .i64 cj)],[(0,some (.row 2 136 (a0.map Z0)))],1⟩) fun cj=>.bk [(0,0)] rfl))
 (fun bq=>.o [(0,0)]))
 (.st (.exit 4) (fun cm=>⟨[(0,.own 0),(2,iV .i64 a2),(14,iV .i64 cm)],[(0,some (.row 2 136 (a0.map Z0)))],1⟩) fun cm=>.r0<|.bl<|.loop (.c2 (Z5.l3.partial_correctness cm)) (a0,a2) [(0,0)] [] [] (fun _=>.pr fun cn=>.one (fun co=>⟨[(0,.own 0),(14,iV .i64 cm),(17,iV .i64 co)],[(0,some (.row 2 136 (cn.map Z0)))],1⟩) fun co=>.r0<|.cd (fun ct=>.bl<|.el fun cw cx cy=>.el fun cz c8 c9=>.el fun da db dc=>.rg [(8,hX Z0 cx cy),(9,hL Z0 cy),(12,hX Z0 c8 c9),(13,hL Z0 c9),(14,hX Z0 c8 c9),(15,hS Z0 cw 0 [iI .i64 cw.f0,iI .u64 cw.f1] c9),(16,hX Z0 db dc),(17,hS Z0 cz 0 [iI .i64 cz.f0,iI .u64 cz.f1] dc)]<|.r0<|.bk [(0,0)] rfl)
 (fun ct=>.o [(0,0)]))
 (.st (.exit 6) (fun dd=>⟨[],[(0,some (.row 2 136 (dd.map Z0)))],1⟩) fun dd=>.ret [(0,0)] [] [] ⟨[],[(0,some (.row 2 136 (dd.map Z0)))],1⟩)))
 (fun bn=>.rg [(4,hK 1)]<|.r0<|.r0<|.r0<|.join (.cd (fun de=>.r0<|.r0<|.o [(0,0)])
 (fun de=>.r0<|.r0<|.o [(0,0)]))
 (.pr fun df=>.st .normal (fun dg=>⟨[(0,.own 0),(1,iV .i64 a1),(2,iV .i64 a2),(3,iV .i64 a3),(4,.im (.sc (.func (.func 183) #[] #[]))),(18,iV .i64 (i64.wrap (Int.fdiv (u64.wrap (i64.wrap (a1+a3))) 2))),(19,iV .i64 (i64.wrap ((i64.wrap (Int.fdiv (u64.wrap (i64.wrap (a1+a3))) 2))+a2))),(20,iV .i64 df),(21,iV .i64 dg)],[(0,some (.row 2 136 (a0.map Z0)))],1⟩) fun dg=>.r0<|.bl<|.loop (.c2 (Z5.l4.partial_correctness a0 a1 a2 a3)) (df,dg) [(0,0)] [] [] (fun _=>.pr fun dh=>.one (fun di=>⟨[(0,.own 0),(1,iV .i64 a1),(2,iV .i64 a2),(3,iV .i64 a3),(4,.im (.sc (.func (.func 183) #[] #[]))),(18,iV .i64 (i64.wrap (Int.fdiv (u64.wrap (i64.wrap (a1+a3))) 2))),(19,iV .i64 (i64.wrap ((i64.wrap (Int.fdiv (u64.wrap (i64.wrap (a1+a3))) 2))+a2))),(20,iV .i64 dh),(21,iV .i64 di),(22,iV .i64 (i64.wrap ((i64.wrap ((i64.wrap (Int.fdiv (u64.wrap (i64.wrap (a1+a3))) 2))+a2))-(1:Int))))],[(0,some (.row 2 136 (a0.map Z0)))],1⟩) fun di=>.r0<|.cd (fun dj=>.bl<|.rg [(4,hK 1)]<|.el fun dk dl dm=>.el fun dp dq dr=>.bd fun dt du=>.rg [(5,hX Z0 dl dm),(6,hL Z0 dm),(9,hX Z0 dq dr),(10,hL Z0 dr),(11,hC [] [] [] [] Tryz.call183 (Z2y.ok dk dp dt du))]<|.join (.cd (fun dv=>.r0<|.o [(0,0)])
 (fun dv=>.r0<|.o [(0,0)]))
 (.pr fun dw=>.st .normal (fun dx=>⟨[(0,.own 0),(1,iV .i64 a1),(2,iV .i64 a2),(3,iV .i64 a3),(4,.im (.sc (.func (.func 183) #[] #[]))),(18,iV .i64 (i64.wrap (Int.fdiv (u64.wrap (i64.wrap (a1+a3))) 2))),(19,iV .i64 (i64.wrap ((i64.wrap (Int.fdiv (u64.wrap (i64.wrap (a1+a3))) 2))+a2))),(20,iV .i64 dw),(21,iV .i64 dx),(22,iV .i64 (i64.wrap ((i64.wrap ((i64.wrap (Int.fdiv (u64.wrap (i64.wrap (a1+a3))) 2))+a2))-(1:Int))))],[(0,some (.row 2 136 (a0.map Z0)))],1⟩) fun dx=>.bk [(0,0)] rfl))
 (fun dj=>.o [(0,0)]))
 (.st (.exit 8) (fun dy=>⟨[(0,.own 0),(1,iV .i64 a1),(2,iV .i64 a2),(3,iV .i64 a3),(4,.im (.sc (.func (.func 183) #[] #[]))),(18,iV .i64 (i64.wrap (Int.fdiv (u64.wrap (i64.wrap (a1+a3))) 2))),(19,iV .i64 (i64.wrap ((i64.wrap (Int.fdiv (u64.wrap (i64.wrap (a1+a3))) 2))+a2))),(20,iV .i64 dy)],[(0,some (.row 2 136 (a0.map Z0)))],1⟩) fun dy=>.r0<|.join (.sp (fun dz=>.rg [(3,hB dz)]<|.o [(0,0)])
 (fun dz=>.rg [(3,hB dz)]<|.o [(0,0)]))
 (.st .normal (fun d8=>⟨[(0,.own 0),(1,iV .i64 a1),(2,iV .i64 a2),(3,iV .i64 a3),(4,.im (.sc (.func (.func 183) #[] #[]))),(18,iV .i64 (i64.wrap (Int.fdiv (u64.wrap (i64.wrap (a1+a3))) 2))),(20,iV .i64 dy),(24,iV .i64 (i64.wrap ((i64.wrap ((i64.wrap (Int.fdiv (u64.wrap (i64.wrap (a1+a3))) 2))+a2))-dy))),(185,bV d8)],[(0,some (.row 2 136 (a0.map Z0)))],1⟩) fun d8=>.join (.cd (fun d9=>.bd fun ea ed=>.rg [(5,hC [(0,0)] [(0,0)] [] [] Tryz.call201 (Z00.ok a0 dy a2 (i64.wrap ((i64.wrap ((i64.wrap (Int.fdiv (u64.wrap (i64.wrap (a1+a3))) 2))+a2))-dy)) ea ed))]<|.o [(0,0)])
 (fun d9=>.o [(0,0)]))
 (.st .normal (fun ee=>⟨[(0,.own 0),(1,iV .i64 a1),(3,iV .i64 a3),(4,.im (.sc (.func (.func 183) #[] #[]))),(18,iV .i64 (i64.wrap (Int.fdiv (u64.wrap (i64.wrap (a1+a3))) 2))),(20,iV .i64 dy),(24,iV .i64 (i64.wrap ((i64.wrap ((i64.wrap (Int.fdiv (u64.wrap (i64.wrap (a1+a3))) 2))+a2))-dy)))],[(0,some (.row 2 136 (ee.map Z0)))],1⟩) fun ee=>.join (.sp (fun ef=>.rg [(3,hB ef)]<|.o [(0,0)])
 (fun ef=>.rg [(3,hB ef)]<|.o [(0,0)]))
 (.st .normal (fun eg=>⟨[(0,.own 0),(1,iV .i64 a1),(3,iV .i64 a3),(4,.im (.sc (.func (.func 183) #[] #[]))),(18,iV .i64 (i64.wrap (Int.fdiv (u64.wrap (i64.wrap (a1+a3))) 2))),(20,iV .i64 dy),(24,iV .i64 (i64.wrap ((i64.wrap ((i64.wrap (Int.fdiv (u64.wrap (i64.wrap (a1+a3))) 2))+a2))-dy))),(199,bV eg)],[(0,some (.row 2 136 (ee.map Z0)))],1⟩) fun eg=>.join (.cd (fun eh=>.bd fun ei ej=>.rg [(5,hC [(0,0)] [(0,0)] [] [] Tryz.call196 (ihF ee a1 dy (i64.wrap (Int.fdiv (u64.wrap (i64.wrap (a1+a3))) 2)) _ ej))]<|.o [(0,0)])
 (fun eh=>.o [(0,0)]))
 (.st .normal (fun em=>⟨[(0,.own 0),(3,iV .i64 a3),(4,.im (.sc (.func (.func 183) #[] #[]))),(18,iV .i64 (i64.wrap (Int.fdiv (u64.wrap (i64.wrap (a1+a3))) 2))),(24,iV .i64 (i64.wrap ((i64.wrap ((i64.wrap (Int.fdiv (u64.wrap (i64.wrap (a1+a3))) 2))+a2))-dy)))],[(0,some (.row 2 136 (em.map Z0)))],1⟩) fun em=>.join (.sp (fun en=>.rg [(3,hB en)]<|.o [(0,0)])
 (fun en=>.rg [(3,hB en)]<|.o [(0,0)]))
 (.st .normal (fun eo=>⟨[(0,.own 0),(3,iV .i64 a3),(4,.im (.sc (.func (.func 183) #[] #[]))),(18,iV .i64 (i64.wrap (Int.fdiv (u64.wrap (i64.wrap (a1+a3))) 2))),(24,iV .i64 (i64.wrap ((i64.wrap ((i64.wrap (Int.fdiv (u64.wrap (i64.wrap (a1+a3))) 2))+a2))-dy))),(213,bV eo)],[(0,some (.row 2 136 (em.map Z0)))],1⟩) fun eo=>.join (.cd (fun ep=>.bd fun eq et=>.rg [(5,hC [(0,0)] [(0,0)] [] [] Tryz.call196 (ihF em (i64.wrap (Int.fdiv (u64.wrap (i64.wrap (a1+a3))) 2)) (i64.wrap ((i64.wrap ((i64.wrap (Int.fdiv (u64.wrap (i64.wrap (a1+a3))) 2))+a2))-dy)) a3 _ et))]<|.o [(0,0)])
 (fun ep=>.o [(0,0)]))
 (.st .normal (fun eu=>⟨[],[(0,some (.row 2 136 (eu.map Z0)))],1⟩) fun eu=>.ret [(0,0)] [] [] ⟨[],[(0,some (.row 2 136 (eu.map Z0)))],1⟩)))))))))))
def Zf.l0 (a1:Int) (aa:List Z2) (ab:Int) (ac:Int):Option ((List Z2)×Int):=if(decide (ac≤a1))=true then((Ze.f aa ab ac)>>=fun ad=>Zf.l0 a1 ad ac (i64.wrap (ac+(20:Int)))) else(some (aa,ab))
partial_fixpoint
def Zf.l2 (a1:Int) (aa:Int) (ab:List Z2) (ac:Int) (ad:Int):Option ((List Z2)×Int):=if(decide (ad≤a1))=true then((Z5.f ab ac (i64.wrap (ac+aa)) ad)>>=fun ae=>Zf.l2 a1 aa ae ad (i64.wrap (ad+(i64.wrap ((2:Int)*aa))))) else(some (ab,ac))
partial_fixpoint
def Zf.l1 (a1:Int) (aa:List Z2) (ab:Int):Option (List Z2):=if(decide (ab<a1))=true then((Zf.l2 a1 ab aa 0 (i64.wrap ((2:Int)*ab)))>>=fun oo=>match oo with | (ac,ad)=>(((if(decide ((i64.wrap (ad+ab))<a1))=true then((Z5.f ac ad (i64.wrap (ad+ab)) a1)>>=fun ae=>some ae) else(some ac)):Option (List Z2))>>=fun af=>Zf.l1 a1 af (i64.wrap (ab*(2:Int))))) else(some aa)
partial_fixpoint
def Zf.f (a0:List Z2) (a1:Int):Option (List Z2):=(Zf.l0 a1 a0 0 20)>>=fun oo=>match oo with | (aa,ab)=>((Ze.f aa ab a1)>>=fun ac=>(Zf.l1 a1 ac 20)>>=fun ad=>some ad)
theorem Zf.ok (a0:List Z2) (a1:Int) (r:List Z2) (H:Zf.f a0 a1=some r):Pv.Fn Tryz.prog 189 [.own 0,iV .i64 a1,.im (.sc (.func (.func 183) #[] #[]))] [(0,some (.row 2 136 (a0.map Z0)))] 1 (fun x o=>x = .tup []∧o=[(0,some (.row 2 136 (r.map Z0)))]):=by
 unfold Zf.f at H
 exact HT.fn H (fun r=>.tup []) (fun r=>[(0,some (.row 2 136 (r.map Z0)))]) [0] Tryz.func189 rfl rfl hmx (.r0<|.r0<|.bl<|.loop (.c3 (Zf.l0.partial_correctness a1)) (a0,0,20) [(0,0)] [] [] (fun _=>.pr fun aa=>.pr fun ab=>.one (fun ac=>⟨[(0,.own 0),(1,iV .i64 a1),(2,.im (.sc (.func (.func 183) #[] #[]))),(6,iV .i64 20),(7,iV .i64 ab),(8,iV .i64 ac)],[(0,some (.row 2 136 (aa.map Z0)))],1⟩) fun ac=>.r0<|.cd (fun ad=>.bl<|.bd fun ae af=>.rg [(4,hC [(0,0)] [(0,0)] [] [] Tryz.call195 (Ze.ok aa ab ac ae af))]<|.r0<|.r0<|.bk [(0,0)] rfl)
 (fun ad=>.o [(0,0)]))
 (.pr fun ah=>.st (.exit 0) (fun ai=>⟨[(0,.own 0),(1,iV .i64 a1),(2,.im (.sc (.func (.func 183) #[] #[]))),(6,iV .i64 20),(7,iV .i64 ai)],[(0,some (.row 2 136 (ah.map Z0)))],1⟩) fun ai=>.bd fun aj ak=>.rg [(4,hC [(0,0)] [(0,0)] [] [] Tryz.call195 (Ze.ok ah ai a1 aj ak))]<|.bl<|.loop (.c2 (Zf.l1.partial_correctness a1)) (aj,20) [(0,0)] [] [] (fun _=>.pr fun al=>.one (fun am=>⟨[(0,.own 0),(1,iV .i64 a1),(2,.im (.sc (.func (.func 183) #[] #[]))),(6,iV .i64 am)],[(0,some (.row 2 136 (al.map Z0)))],1⟩) fun am=>.r0<|.cd (fun ao=>.bl<|.r0<|.bl<|.loop (.c3 (Zf.l2.partial_correctness a1 am)) (al,0,i64.wrap ((2:Int)*am)) [(0,0)] [] [] (fun _=>.pr fun aq=>.pr fun ar=>.one (fun au=>⟨[(0,.own 0),(1,iV .i64 a1),(2,.im (.sc (.func (.func 183) #[] #[]))),(6,iV .i64 am),(7,iV .i64 ar),(8,iV .i64 au)],[(0,some (.row 2 136 (aq.map Z0)))],1⟩) fun au=>.r0<|.cd (fun av=>.bl<|.bd fun ax az=>.rg [(7,hC [(0,0)] [(0,0)] [] [] Tryz.call196 (Z5.ok aq ar (i64.wrap (ar+am)) au ax az))]<|.r0<|.r0<|.bk [(0,0)] rfl)
 (fun av=>.o [(0,0)]))
 (.pr fun a9=>.st (.exit 4) (fun ba=>⟨[(0,.own 0),(1,iV .i64 a1),(2,.im (.sc (.func (.func 183) #[] #[]))),(6,iV .i64 am),(7,iV .i64 ba)],[(0,some (.row 2 136 (a9.map Z0)))],1⟩) fun ba=>.r0<|.r0<|.join (.cd (fun bb=>.bd fun bc be=>.rg [(5,hC [(0,0)] [(0,0)] [] [] Tryz.call196 (Z5.ok a9 ba (i64.wrap (ba+am)) a1 bc be))]<|.o [(0,0)])
 (fun bb=>.o [(0,0)]))
 (.st .normal (fun bf=>⟨[(0,.own 0),(1,iV .i64 a1),(2,.im (.sc (.func (.func 183) #[] #[]))),(6,iV .i64 am)],[(0,some (.row 2 136 (bf.map Z0)))],1⟩) fun bf=>.r0<|.bk [(0,0)] rfl)))
 (fun ao=>.o [(0,0)]))
 (.st (.exit 2) (fun bg=>⟨[],[(0,some (.row 2 136 (bg.map Z0)))],1⟩) fun bg=>.ret [(0,0)] [] [] ⟨[],[(0,some (.row 2 136 (bg.map Z0)))],1⟩)))
def Z0l.f (a0:List Z2):Option (List Z2):=(Zf.f a0 (a0.length:Int))>>=fun aa=>some aa
theorem Z0l.ok (a0:List Z2) (r:List Z2) (H:Z0l.f a0=some r):Pv.Fn Tryz.prog 182 [.own 0,.im (.sc (.func (.func 183) #[] #[]))] [(0,some (.row 2 136 (a0.map Z0)))] 1 (fun x o=>x = .tup []∧o=[(0,some (.row 2 136 (r.map Z0)))]):=by
 unfold Z0l.f at H
 exact HT.fn H (fun r=>.tup []) (fun r=>[(0,some (.row 2 136 (r.map Z0)))]) [0] Tryz.func182 rfl rfl hmx (.bd fun aa ab=>.rg [(2,hG Z0 a0),(4,hC [(0,0)] [(0,0)] [] [] Tryz.call189 (Zf.ok a0 (a0.length:Int) aa ab))]<|.ret [(0,0)] [] [] ⟨[],[(0,some (.row 2 136 (aa.map Z0)))],1⟩)
def Z1v.l0 (aa:List Z2) (ab:List Z2) (ac:Int):Option (((List Z2)×Int) ⊕ (List Z2)):=if(decide (ac<(aa.length:Int)))=true then((at? aa ac)>>=fun ad=>((if(ad.f1==(0:Int))=true then(some (.inr ab)) else(((if(decide ((ab.length:Int)>(0:Int)))=true then((at? ab (i64.wrap ((ab.length:Int)-(1:Int))))>>=fun ae=>some (ae.f0==ad.f0)) else(some false)):Option (Bool))>>=fun af=>((if af=true then((at? ab (i64.wrap ((ab.length:Int)-(1:Int))))>>=fun ah=>(Z3w.f [ah.f1,ad.f1])>>=fun ai=>if(ai.2 != (0:Int))=true then(some (.inl ([],ai.2))) else(some (.inr (ab.set (Int.toNat (i64.wrap ((ab.length:Int)-(1:Int)))) (⟨ah.f0,ai.1⟩:Z2))))) else((chk ((ab.length+[ad].length)*16≤140737488355328))>>=fun _=>some (.inr (ab++[ad])))):Option (((List Z2)×Int) ⊕ (List Z2)))>>=fun oo=>match oo with | .inl rr=>(some (.inl rr)) | .inr aj=>(some (.inr aj)))):Option (((List Z2)×Int) ⊕ (List Z2)))>>=fun oo=>match oo with | .inl rr=>(some (.inl rr)) | .inr ak=>(Z1v.l0 aa ak (i64.wrap (ac+(1:Int))))) else(some (.inr ab))
partial_fixpoint
def Z1v.f (a0:List Z2):Option ((List Z2)×Int):=(Z0v.f a0)>>=fun aa=>(Z0l.f aa)>>=fun ab=>(Z1v.l0 ab [] 0)>>=fun oo=>match oo with | .inl rr=>(some rr) | .inr ac=>(some (ac,0))
theorem Z1v.ok (a0:List Z2) (r:(List Z2)×Int) (H:Z1v.f a0=some r):Pv.Fn Tryz.prog 171 [.im (.row (a0.map Z0))] [] 0 (fun x o=>x = .tup [.own 0,iV .i64 r.2]∧o=[(0,some (.row 2 136 (r.1.map Z0)))]):=by
 unfold Z1v.f at H
 exact HT.fn H (fun r=>.tup [.own 0,iV .i64 r.2]) (fun r=>[(0,some (.row 2 136 (r.1.map Z0)))]) [0] Tryz.func171 rfl rfl hmx (.r0<|.r0<|.bd fun aa ab=>.rg [(1,hC [] [(0,0)] [] [0] Tryz.call181 (Z0v.ok a0 aa ab))]<|.bd fun ac ad=>.rg [(1,hC [(0,0)] [(0,0)] [] [] Tryz.call182 (Z0l.ok aa ac ad))]<|.rg [(1,hG Z0 ac)]<|.bl<|.loop (.c2 (Z1v.l0.partial_correctness ac)) ([],0) [(0,7)] [] [6] (fun _=>.pr fun ae=>.one (fun af=>⟨[(4,.own 6),(14,.own 7),(15,iV .i64 (ac.length:Int)),(16,iV .i64 af)],[(6,some (.row 2 136 (ae.map Z0))),(7,some (.row 2 136 (ac.map Z0)))],0⟩) fun af=>.r0<|.cd (fun ah=>.bl<|.el fun ai aj ak=>.rg [(0,hX Z0 aj ak),(1,hL Z0 ak),(2,⟨.k 8,.n⟩)]<|.rg [(1,hG Z0 ae)]<|.bl<|.r0<|.join (.cd (fun al=>.o [(6,17),(7,18)])
 (fun al=>.join (.sp (fun am=>.el fun ao aq ar=>.rg [(2,hB am),(6,hX Z0 aq ar),(8,hL Z0 ar)]<|.o [(6,9),(8,10),(7,11)])
 (fun am=>.rg [(2,hB am)]<|.o [(6,9),(8,10),(7,11)]))
 (.st .normal (fun au=>⟨[(4,.own 9),(6,.ptr 10 0 0),(7,iV .i64 (ae.length:Int)),(14,.own 11),(15,iV .i64 (ac.length:Int)),(16,iV .i64 af),(30,bV au)],[(9,some (.row 2 136 (ae.map Z0))),(10,some (.box 136 (Z82 ai))),(11,some (.row 2 136 (ac.map Z0)))],0⟩) fun au=>.join (.cd (fun av=>.el fun ax az a9=>.bd fun ba bb=>.rg [(3,hX Z0 az a9),(5,hL Z0 a9),(8,hQ 12 (Z1 .u64) ([ax.f1,ai.f1]:List Int)),(9,hC [] [] [12] [] Tryz.call126 (Z3w.ok [ax.f1,ai.f1] ba bb))]<|.r0<|.cd (fun bc=>.r0<|.ret [] [] [0] ⟨[(2,.own 0),(3,iV .i64 ba.2)],[(0,some (.row 2 136 ([].map Z0)))],0⟩)
 (fun bc=>.rg [(4,hX Z0 az a9),(6,hS Z0 (⟨ax.f0,ba.1⟩:Z2) 1 [iI .u64 ba.1] a9)]<|.o [(9,15),(11,16)]))
 (fun av=>.ck fun be=>.rg [(2,hQ 13 Z0 ([ai]:List Z2)),(3,hP 14 Z0 2 be)]<|.o [(14,15),(11,16)]))
 (.sm (.rt (fun rr=>.tup [.own 0,iV .i64 rr.2]) (fun rr=>[(0,some (.row 2 136 (rr.1.map Z0)))]))
 (.st .normal (fun bf=>⟨[(4,.own 15),(14,.own 16),(15,iV .i64 (ac.length:Int)),(16,iV .i64 af)],[(15,some (.row 2 136 (bf.map Z0))),(16,some (.row 2 136 (ac.map Z0)))],0⟩) fun bf=>.o [(15,17),(16,18)])))))
 (.sm (.rt (fun rr=>.tup [.own 0,iV .i64 rr.2]) (fun rr=>[(0,some (.row 2 136 (rr.1.map Z0)))]))
 (.st .normal (fun bg=>⟨[(4,.own 17),(14,.own 18),(15,iV .i64 (ac.length:Int)),(16,iV .i64 af)],[(17,some (.row 2 136 (bg.map Z0))),(18,some (.row 2 136 (ac.map Z0)))],0⟩) fun bg=>.r0<|.bk [(17,6),(18,7)] rfl)))
 (fun ah=>.o [(6,19)]))
 (.sm (.rt (fun rr=>.tup [.own 0,iV .i64 rr.2]) (fun rr=>[(0,some (.row 2 136 (rr.1.map Z0)))]))
 (.st (.exit 0) (fun bh=>⟨[(4,.own 19)],[(19,some (.row 2 136 (bh.map Z0)))],0⟩) fun bh=>.r0<|.ret [(19,0)] [] [] ⟨[(2,.own 0),(3,iV .i64 0)],[(0,some (.row 2 136 (bh.map Z0)))],0⟩)))
def Z2m.f (a0:Zg) (a1:List Z2) (a2:List Z2):Option (Zg×Int):=(Z1v.f a1)>>=fun aa=>(Z1v.f a2)>>=fun ab=>if((if ab.2>aa.2 then ab.2 else aa.2) != (0:Int))=true then(some ((⟨0,0,0,0,0,0,[],[]⟩:Zg),(if ab.2>aa.2 then ab.2 else aa.2))) else((Z1r.f [aa.1,ab.1,[(⟨0,a0.f3⟩:Z2)]])>>=fun ac=>if(ac.2 != (0:Int))=true then(some ((⟨0,0,0,0,0,0,[],[]⟩:Zg),ac.2)) else((Z0j.f (⟨a0.f0,a0.f1,a0.f2,a0.f3,ac.1,a0.f5,aa.1,ab.1⟩:Zg))>>=fun ad=>if(ad != (0:Int))=true then(some ((⟨0,0,0,0,0,0,[],[]⟩:Zg),ad)) else(some ((⟨a0.f0,a0.f1,a0.f2,a0.f3,ac.1,a0.f5,aa.1,ab.1⟩:Zg),0))))
theorem Z2m.ok (a0:Zg) (a1:List Z2) (a2:List Z2) (r:Zg×Int) (H:Z2m.f a0 a1 a2=some r):Pv.Fn Tryz.prog 153 [.agg (Z0r a0),.im (.row (a1.map Z0)),.im (.row (a2.map Z0))] [] 0 (fun x o=>x = .tup [.agg (Z0r (r.1)),iV .i64 r.2]∧o=[]):=by
 unfold Z2m.f at H
 exact HT.fn H (fun r=>.tup [.agg (Z0r (r.1)),iV .i64 r.2]) (fun r=>[]) [] Tryz.func153 rfl rfl hmx (.rg [(0,⟨.k 0,.n⟩),(1,⟨.k 1,.n⟩)]<|.r0<|.bd fun aa ab=>.rg [(1,hC [] [(0,2)] [] [2] Tryz.call171 (Z1v.ok a1 aa ab))]<|.bd fun ac ad=>.rg [(1,hC [] [(0,3)] [] [3] Tryz.call171 (Z1v.ok a2 ac ad))]<|.rg [(2,⟨.more xMax,.n⟩)]<|.r0<|.cd (fun ae=>.r0<|.ret [(1,0)] [] [] ⟨[(6,.ptr 0 0 0),(7,iV .i64 (if ac.2>aa.2 then ac.2 else aa.2))],[(0,some (.box 48 (Z0r ((⟨0,0,0,0,0,0,[],[]⟩:Zg)))))],0⟩)
 (fun ae=>.cv [(0,0),(1,1)] [2,3] [] ⟨[(3,.ptr 0 0 0),(6,.ptr 1 0 0),(8,iV .i64 (if ac.2>aa.2 then ac.2 else aa.2)),(27,bV ((if ac.2>aa.2 then ac.2 else aa.2) != (0:Int)))],[(0,some (.box 48 (Z0r ⟨a0.f0,a0.f1,a0.f2,a0.f3,a0.f4,a0.f5,aa.1,ac.1⟩))),(1,some (.box 48 [iV .i64 0,iV .i64 0,iV .i64 0,iV .u64 0,iV .u64 0,iV .i64 0,.none0,.none0]))],0⟩<|.bd fun af ah=>.rg [(7,fzI (hQ 4 Z0 ([(⟨0,a0.f3⟩:Z2)]:List Z2))),(8,hQ 5 (Z20 Z0) ([aa.1,ac.1,[(⟨0,a0.f3⟩:Z2)]]:List (List Z2))),(9,hC [] [] [5] [] Tryz.call95 (Z1r.ok [aa.1,ac.1,[(⟨0,a0.f3⟩:Z2)]] af ah))]<|.r0<|.cd (fun ai=>.r0<|.ret [(1,0)] [] [] ⟨[(6,.ptr 0 0 0),(7,iV .i64 af.2)],[(0,some (.box 48 (Z0r ((⟨0,0,0,0,0,0,[],[]⟩:Zg)))))],0⟩)
 (fun ai=>.bd fun aj ak=>.rg [(1,hC [] [] [] [] Tryz.call57 (Z0j.ok (⟨a0.f0,a0.f1,a0.f2,a0.f3,af.1,a0.f5,aa.1,ac.1⟩:Zg) aj ak))]<|.r0<|.cd (fun al=>.r0<|.ret [(1,0)] [] [] ⟨[(6,.ptr 0 0 0),(7,iV .i64 aj)],[(0,some (.box 48 (Z0r ((⟨0,0,0,0,0,0,[],[]⟩:Zg)))))],0⟩)
 (fun al=>.r0<|.ret [(1,0)] [] [] ⟨[(6,.ptr 0 0 0),(7,iV .i64 0)],[(0,some (.box 48 (Z0r ((⟨a0.f0,a0.f1,a0.f2,a0.f3,af.1,a0.f5,aa.1,ac.1⟩:Zg)))))],0⟩))))
def Z06.l1 (a0_c0:List Int) (a1:Zg) (a2:Zd) (a3:Zd) (aa:Int×Int×Int) (ab:List Int) (ac:List Int) (ad:Int) (ae:List Z7) (af:Int) (ah:Int) (ai:Int) (aj:Int) (ak:List Int) (al:List Int) (am:Int):Option (Int×Int×(List Int)×(List Int)):=if(decide (am<(i64.wrap ((i64.wrap ((2:Int)+(ab.length:Int)))+(ac.length:Int)))))=true then(((if(af==(0:Int))=true then((Zj.f a0_c0 ai aj)>>=fun ao=>(at? ak am)>>=fun aq=>some (ao.2.1,ao.2.2,ak.set (Int.toNat (am)) ao.1,al)) else(((if(af==(1:Int))=true then((Z0g.f a0_c0 ai aj)>>=fun ar=>(at? al am)>>=fun au=>(at? ak am)>>=fun av=>(at? (al.set (Int.toNat (am)) (u64.wrap (ar.1))) am)>>=fun ax=>some (ar.2.1,ar.2.2,ak.set (Int.toNat (am)) (u64.wrap (av+ax)),al.set (Int.toNat (am)) (u64.wrap (ar.1)))) else((at? al am)>>=fun az=>(Z0g.f a0_c0 ai aj)>>=fun a9=>(at? ak am)>>=fun ba=>(at? (al.set (Int.toNat (am)) (u64.wrap (az+(u64.wrap (a9.1))))) am)>>=fun bb=>some (a9.2.1,a9.2.2,ak.set (Int.toNat (am)) (u64.wrap (ba+bb)),al.set (Int.toNat (am)) (u64.wrap (az+(u64.wrap (a9.1))))))):Option (Int×Int×(List Int)×(List Int)))>>=fun oo=>match oo with | (bc,be,bf,bg)=>(some (bc,be,bf,bg)))):Option (Int×Int×(List Int)×(List Int)))>>=fun oo=>match oo with | (bh,bi,bj,bn)=>(Z06.l1 a0_c0 a1 a2 a3 aa ab ac ad ae af ah bh bi bj bn (i64.wrap (am+(1:Int))))) else(some (ai,aj,ak,al))
partial_fixpoint
def Z06.l0 (a0_c0:List Int) (a1:Zg) (a2:Zd) (a3:Zd) (aa:Int×Int×Int) (ab:List Int) (ac:List Int) (v:Int×Int×(List Int)×(List Int)×Int×Int×(List Z7)×Int):Option ((List Z7)×Int×Int):=match v with
 | (ad,ae,af,ah,ai,aj,ak,al)=>((if(decide (al<(i64.wrap ((1:Int)+aa.1))))=true then((Zk.f a0_c0 ad ae)>>=fun am=>some (ae==(0:Int))) else(some false)):Option (Bool))>>=fun ao=>if ao=true then(((if(al==(0:Int))=true then((Z3.f a0_c0 ad ae 1099511627776)>>=fun aq=>some (aq.2.1,aq.2.2,aq.1)) else(((if(al==(1:Int))=true then((Z3.f a0_c0 ad ae 1099511627776)>>=fun ar=>some (ar.2.1,ar.2.2,i64.wrap ((i64.wrap (ai+(1:Int)))+ar.1))) else((Z0g.f a0_c0 ad ae)>>=fun au=>some (au.2.1,au.2.2,i64.wrap ((i64.wrap (ai+aj))+au.1)))):Option (Int×Int×Int))>>=fun oo=>match oo with | (av,ax,az)=>(some (av,ax,az)))):Option (Int×Int×Int))>>=fun oo=>match oo with | (a9,ba,bb)=>((Z06.l1 a0_c0 a1 a2 a3 aa ab ac ai ak al bb a9 ba af ah 0)>>=fun oo=>match oo with | (bc,be,bf,bg)=>((at? bf 0)>>=fun bh=>(at? bf 1)>>=fun bi=>(chk (0≤(2:Int)∧(2:Int)≤(i64.wrap ((2:Int)+(ab.length:Int)))∧(i64.wrap ((2:Int)+(ab.length:Int)))≤(bf.length:Int)))>>=fun _=>(Z26.f a2 ((bf.drop (Int.toNat (2:Int))).take (Int.toNat (i64.wrap ((2:Int)+(ab.length:Int)))-Int.toNat (2:Int))))>>=fun bj=>(chk (0≤(i64.wrap ((2:Int)+(ab.length:Int)))∧(i64.wrap ((2:Int)+(ab.length:Int)))≤(bf.length:Int)∧(bf.length:Int)≤(bf.length:Int)))>>=fun _=>(Z26.f a3 ((bf.drop (Int.toNat (i64.wrap ((2:Int)+(ab.length:Int))))).take (Int.toNat (bf.length:Int)-Int.toNat (i64.wrap ((2:Int)+(ab.length:Int))))))>>=fun bn=>(Z2m.f (⟨a1.f0,a1.f1,a1.f2,bh,a1.f4,i64.wrap (bi),bj,bn⟩:Zg) bj bn)>>=fun bo=>(chk ((ak.length+[(⟨bb,(bo.1)⟩:Z7)].length)*104≤140737488355328))>>=fun _=>Z06.l0 a0_c0 a1 a2 a3 aa ab ac (bc,be,bf,bg,bb,i64.wrap (bb-ai),ak++[(⟨bb,(bo.1)⟩:Z7)],i64.wrap (al+(1:Int)))))) else(some (ak,ad,ae))
partial_fixpoint
def Z06.f (a0_c0:List Int) (a0_c1:Int) (a0_c2:Int) (a1:Zg) (a2:Zd) (a3:Zd):Option ((List Z7)×Int×Int):=(Z3.f a0_c0 a0_c1 a0_c2 31)>>=fun aa=>(Zw.f a2)>>=fun ab=>(Zw.f a3)>>=fun ac=>(chk (0≤(i64.wrap ((i64.wrap ((2:Int)+(ab.length:Int)))+(ac.length:Int)))∧(i64.wrap ((i64.wrap ((2:Int)+(ab.length:Int)))+(ac.length:Int)))≤(i64.wrap ((i64.wrap ((2:Int)+(ab.length:Int)))+(ac.length:Int)))∧((8:Nat):Int)*(i64.wrap ((i64.wrap ((2:Int)+(ab.length:Int)))+(ac.length:Int)))≤281474976710656∧(i64.wrap ((i64.wrap ((2:Int)+(ab.length:Int)))+(ac.length:Int)))≤9223372036854775807))>>=fun _=>(Z06.l0 a0_c0 a1 a2 a3 aa ab ac (aa.2.1,aa.2.2,List.replicate (Int.toNat (i64.wrap ((i64.wrap ((2:Int)+(ab.length:Int)))+(ac.length:Int)))) (0:Int),List.replicate (Int.toNat (i64.wrap ((i64.wrap ((2:Int)+(ab.length:Int)))+(ac.length:Int)))) (0:Int),0,0,[],0))>>=fun oo=>match oo with | (ad,ae,af)=>(some (ad,ae,af))
theorem Z06.ok (a0_c0:List Int) (a0_c1:Int) (a0_c2:Int) (a1:Zg) (a2:Zd) (a3:Zd) (r:(List Z7)×Int×Int) (H:Z06.f a0_c0 a0_c1 a0_c2 a1 a2 a3=some r):Pv.Fn Tryz.prog 117 [.ptr 0 0 0,.agg (Z0r a1),.agg (Zu a2),.agg (Zu a3)] [(0,some (.box 158 (Z8 ⟨a0_c0,a0_c1,a0_c2⟩)))] 1 (fun x o=>x = .own 1∧o=[(0,some (.box 158 (Z8 ⟨a0_c0,r.2.1,r.2.2⟩))),(1,some (.row 9 50 (r.1.map Z4)))]):=by
 unfold Z06.f at H
 exact HT.fn H (fun r=>.own 1) (fun r=>[(0,some (.box 158 (Z8 ⟨a0_c0,r.2.1,r.2.2⟩))),(1,some (.row 9 50 (r.1.map Z4)))]) [0,1] Tryz.func117 rfl rfl hmx (.rg [(0,⟨.k 1,.n⟩),(1,⟨.k 2,.n⟩),(2,⟨.k 3,.n⟩)]<|.bd fun aa ab=>.rg [(1,hC [(0,0)] [(0,0)] [] [] Tryz.call43 (Z3.ok a0_c0 a0_c1 a0_c2 31 aa ab))]<|.bd fun ac ad=>.rg [(1,hC [] [(0,4)] [] [4] Tryz.call133 (Zw.ok a2 ac ad)),(2,hG (Z1 .i64) ac)]<|.bd fun ae af=>.rg [(3,hC [] [(0,5)] [] [5] Tryz.call133 (Zw.ok a3 ae af)),(4,hG (Z1 .i64) ae)]<|.ck fun ah=>.rg [(1,⟨.more (xMake 6 ((List.replicate (Int.toNat (i64.wrap ((i64.wrap ((2:Int)+(ac.length:Int)))+(ae.length:Int)))) (0:Int)).map (Z1 .u64))),.c (p:=(List.replicate (Int.toNat (i64.wrap ((i64.wrap ((2:Int)+(ac.length:Int)))+(ae.length:Int)))) (0:Int)).map (Z1 .u64)=List.replicate (Int.toNat (i64.wrap ((i64.wrap ((2:Int)+(ac.length:Int)))+(ae.length:Int)))) [iI .u64 0]) (by simp) (.c (ah.1) (.c (ah.2.1) (.c (ah.2.2.1) (.c (ah.2.2.2) .n))))⟩),(3,⟨.more (xMake 7 ((List.replicate (Int.toNat (i64.wrap ((i64.wrap ((2:Int)+(ac.length:Int)))+(ae.length:Int)))) (0:Int)).map (Z1 .u64))),.c (p:=(List.replicate (Int.toNat (i64.wrap ((i64.wrap ((2:Int)+(ac.length:Int)))+(ae.length:Int)))) (0:Int)).map (Z1 .u64)=List.replicate (Int.toNat (i64.wrap ((i64.wrap ((2:Int)+(ac.length:Int)))+(ae.length:Int)))) [iI .u64 0]) (by simp) (.c (ah.1) (.c (ah.2.1) (.c (ah.2.2.1) (.c (ah.2.2.2) .n))))⟩)]<|.r0<|.r0<|.r0<|.bl<|.loop (.one (Z06.l0.partial_correctness a0_c0 a1 a2 a3 aa ac ae)) (aa.2.1,aa.2.2,List.replicate (Int.toNat (i64.wrap ((i64.wrap ((2:Int)+(ac.length:Int)))+(ae.length:Int)))) (0:Int),List.replicate (Int.toNat (i64.wrap ((i64.wrap ((2:Int)+(ac.length:Int)))+(ae.length:Int)))) (0:Int),0,0,[],0) [(0,0),(1,93),(2,94),(3,95),(6,96),(7,97)] [] [98] (fun _=>.pr fun ai=>.pr fun aj=>.pr fun ak=>.pr fun al=>.pr fun am=>.pr fun ao=>.pr fun aq=>.one (fun ar=>⟨[(0,.ptr 0 0 0),(5,.ptr 93 0 0),(6,.ptr 94 0 0),(7,.ptr 95 0 0),(9,iV .i64 (i64.wrap ((1:Int)+aa.1))),(10,iV .i64 (ac.length:Int)),(11,iV .i64 (i64.wrap ((i64.wrap ((2:Int)+(ac.length:Int)))+(ae.length:Int)))),(12,.own 96),(13,.own 97),(14,iV .i64 am),(15,iV .i64 ao),(16,.own 98),(17,iV .i64 ar)],[(0,some (.box 158 (Z8 ⟨a0_c0,ai,aj⟩))),(93,some (.box 48 (Z0r a1))),(94,some (.box 179 (Zu a2))),(95,some (.box 179 (Zu a3))),(96,some (.row 1 45 (ak.map (Z1 .u64)))),(97,some (.row 1 45 (al.map (Z1 .u64)))),(98,some (.row 9 50 (aq.map Z4)))],1⟩) fun ar=>.join (.sp (fun au=>.bd fun av ax=>.rg [(3,hB au),(5,hC [(0,0)] [(0,0)] [] [] Tryz.call44 (Zk.ok a0_c0 ai aj av ax))]<|.o [(0,0),(93,99),(94,100),(95,101),(96,102),(97,103),(98,104)])
 (fun au=>.rg [(3,hB au)]<|.o [(0,0),(93,99),(94,100),(95,101),(96,102),(97,103),(98,104)]))
 (.st .normal (fun az=>⟨[(0,.ptr 0 0 0),(5,.ptr 99 0 0),(6,.ptr 100 0 0),(7,.ptr 101 0 0),(9,iV .i64 (i64.wrap ((1:Int)+aa.1))),(10,iV .i64 (ac.length:Int)),(11,iV .i64 (i64.wrap ((i64.wrap ((2:Int)+(ac.length:Int)))+(ae.length:Int)))),(12,.own 102),(13,.own 103),(14,iV .i64 am),(15,iV .i64 ao),(16,.own 104),(17,iV .i64 ar),(44,bV az)],[(0,some (.box 158 (Z8 ⟨a0_c0,ai,aj⟩))),(99,some (.box 48 (Z0r a1))),(100,some (.box 179 (Zu a2))),(101,some (.box 179 (Zu a3))),(102,some (.row 1 45 (ak.map (Z1 .u64)))),(103,some (.row 1 45 (al.map (Z1 .u64)))),(104,some (.row 9 50 (aq.map Z4)))],1⟩) fun az=>.cd (fun a9=>.bl<|.r0<|.r0<|.bl<|.r0<|.join (.cd (fun ba=>.bd fun bb bc=>.rg [(1,hC [(0,0)] [(0,0)] [] [] Tryz.call43 (Z3.ok a0_c0 ai aj 1099511627776 bb bc))]<|.o [(0,0),(99,111),(100,112),(101,113),(102,114),(103,115),(104,116)])
 (fun ba=>.r0<|.join (.cd (fun be=>.bd fun bf bg=>.rg [(3,hC [(0,0)] [(0,0)] [] [] Tryz.call43 (Z3.ok a0_c0 ai aj 1099511627776 bf bg))]<|.o [(0,0),(99,105),(100,106),(101,107),(102,108),(103,109),(104,110)])
 (fun be=>.bd fun bh bi=>.rg [(4,hC [(0,0)] [(0,0)] [] [] Tryz.call115 (Z0g.ok a0_c0 ai aj bh bi))]<|.o [(0,0),(99,105),(100,106),(101,107),(102,108),(103,109),(104,110)]))
 (.pr fun bj=>.pr fun bn=>.st .normal (fun bo=>⟨[(0,.ptr 0 0 0),(5,.ptr 105 0 0),(6,.ptr 106 0 0),(7,.ptr 107 0 0),(9,iV .i64 (i64.wrap ((1:Int)+aa.1))),(10,iV .i64 (ac.length:Int)),(11,iV .i64 (i64.wrap ((i64.wrap ((2:Int)+(ac.length:Int)))+(ae.length:Int)))),(12,.own 108),(13,.own 109),(14,iV .i64 am),(16,.own 110),(17,iV .i64 ar),(18,iV .i64 bo)],[(0,some (.box 158 (Z8 ⟨a0_c0,bj,bn⟩))),(105,some (.box 48 (Z0r a1))),(106,some (.box 179 (Zu a2))),(107,some (.box 179 (Zu a3))),(108,some (.row 1 45 (ak.map (Z1 .u64)))),(109,some (.row 1 45 (al.map (Z1 .u64)))),(110,some (.row 9 50 (aq.map Z4)))],1⟩) fun bo=>.o [(0,0),(105,111),(106,112),(107,113),(108,114),(109,115),(110,116)])))
 (.pr fun bp=>.pr fun bq=>.st .normal (fun br=>⟨[(0,.ptr 0 0 0),(5,.ptr 111 0 0),(6,.ptr 112 0 0),(7,.ptr 113 0 0),(9,iV .i64 (i64.wrap ((1:Int)+aa.1))),(10,iV .i64 (ac.length:Int)),(11,iV .i64 (i64.wrap ((i64.wrap ((2:Int)+(ac.length:Int)))+(ae.length:Int)))),(12,.own 114),(13,.own 115),(14,iV .i64 am),(16,.own 116),(17,iV .i64 ar),(18,iV .i64 br)],[(0,some (.box 158 (Z8 ⟨a0_c0,bp,bq⟩))),(111,some (.box 48 (Z0r a1))),(112,some (.box 179 (Zu a2))),(113,some (.box 179 (Zu a3))),(114,some (.row 1 45 (ak.map (Z1 .u64)))),(115,some (.row 1 45 (al.map (Z1 .u64)))),(116,some (.row 9 50 (aq.map Z4)))],1⟩) fun br=>.r0<|.r0<|.bl<|.loop (.c5 (Z06.l1.partial_correctness a0_c0 a1 a2 a3 aa ac ae am aq ar br)) (bp,bq,ak,al,0) [(0,0),(111,129),(112,130),(113,131),(114,132),(115,133),(116,134)] [] [] (fun _=>.pr fun bu=>.pr fun bv=>.pr fun bw=>.pr fun bx=>.one (fun bz=>⟨[(0,.ptr 0 0 0),(5,.ptr 129 0 0),(6,.ptr 130 0 0),(7,.ptr 131 0 0),(9,iV .i64 (i64.wrap ((1:Int)+aa.1))),(10,iV .i64 (ac.length:Int)),(11,iV .i64 (i64.wrap ((i64.wrap ((2:Int)+(ac.length:Int)))+(ae.length:Int)))),(12,.own 132),(13,.own 133),(14,iV .i64 br),(15,iV .i64 (i64.wrap (br-am))),(16,.own 134),(17,iV .i64 ar),(18,iV .i64 br),(69,iV .i64 (i64.wrap ((i64.wrap ((2:Int)+(ac.length:Int)))+(ae.length:Int)))),(70,iV .i64 bz)],[(0,some (.box 158 (Z8 ⟨a0_c0,bu,bv⟩))),(129,some (.box 48 (Z0r a1))),(130,some (.box 179 (Zu a2))),(131,some (.box 179 (Zu a3))),(132,some (.row 1 45 (bw.map (Z1 .u64)))),(133,some (.row 1 45 (bx.map (Z1 .u64)))),(134,some (.row 9 50 (aq.map Z4)))],1⟩) fun bz=>.r0<|.cd (fun ca=>.bl<|.r0<|.r0<|.bl<|.r0<|.join (.cd (fun cb=>.bd fun cc cf=>.el fun cj cm cn=>.rg [(3,hC [(0,0)] [(0,0)] [] [] Tryz.call84 (Zj.ok a0_c0 bu bv cc cf)),(4,hX (Z1 .u64) cm cn),(5,hS (Z1 .u64) cc.1 0 [iI .u64 cc.1] cn)]<|.o [(0,0),(129,141),(130,142),(131,143),(132,144),(133,145),(134,146)])
 (fun cb=>.r0<|.join (.cd (fun co=>.bd fun ct cw=>.el fun cx cy cz=>.rg [(3,hC [(0,0)] [(0,0)] [] [] Tryz.call115 (Z0g.ok a0_c0 bu bv ct cw)),(5,hX (Z1 .u64) cy cz),(6,hS (Z1 .u64) (u64.wrap (ct.1)) 0 [iI .u64 (u64.wrap (ct.1))] cz)]<|.el fun c8 c9 da=>.el fun db dc dd=>.rg [(2,hX (Z1 .u64) c9 da),(3,hL (Z1 .u64) da),(6,hX (Z1 .u64) dc dd),(7,hL (Z1 .u64) dd),(9,hX (Z1 .u64) c9 da),(10,hS (Z1 .u64) (u64.wrap (c8+db)) 0 [iI .u64 (u64.wrap (c8+db))] da)]<|.o [(0,0),(129,135),(130,136),(131,137),(132,138),(133,139),(134,140)])
 (fun co=>.el fun de df dg=>.bd fun dh di=>.rg [(2,hX (Z1 .u64) df dg),(3,hL (Z1 .u64) dg),(5,hC [(0,0)] [(0,0)] [] [] Tryz.call115 (Z0g.ok a0_c0 bu bv dh di)),(8,hX (Z1 .u64) df dg),(9,hS (Z1 .u64) (u64.wrap (de+(u64.wrap (dh.1)))) 0 [iI .u64 (u64.wrap (de+(u64.wrap (dh.1))))] dg)]<|.el fun dj dk dl=>.el fun dm dp dq=>.rg [(2,hX (Z1 .u64) dk dl),(3,hL (Z1 .u64) dl),(6,hX (Z1 .u64) dp dq),(7,hL (Z1 .u64) dq),(9,hX (Z1 .u64) dk dl),(10,hS (Z1 .u64) (u64.wrap (dj+dm)) 0 [iI .u64 (u64.wrap (dj+dm))] dl)]<|.o [(0,0),(129,135),(130,136),(131,137),(132,138),(133,139),(134,140)]))
 (.pr fun dr=>.pr fun dt=>.pr fun du=>.st .normal (fun dv=>⟨[(0,.ptr 0 0 0),(5,.ptr 135 0 0),(6,.ptr 136 0 0),(7,.ptr 137 0 0),(9,iV .i64 (i64.wrap ((1:Int)+aa.1))),(10,iV .i64 (ac.length:Int)),(11,iV .i64 (i64.wrap ((i64.wrap ((2:Int)+(ac.length:Int)))+(ae.length:Int)))),(12,.own 138),(13,.own 139),(14,iV .i64 br),(15,iV .i64 (i64.wrap (br-am))),(16,.own 140),(17,iV .i64 ar),(18,iV .i64 br),(69,iV .i64 (i64.wrap ((i64.wrap ((2:Int)+(ac.length:Int)))+(ae.length:Int)))),(70,iV .i64 bz)],[(0,some (.box 158 (Z8 ⟨a0_c0,dr,dt⟩))),(135,some (.box 48 (Z0r a1))),(136,some (.box 179 (Zu a2))),(137,some (.box 179 (Zu a3))),(138,some (.row 1 45 (du.map (Z1 .u64)))),(139,some (.row 1 45 (dv.map (Z1 .u64)))),(140,some (.row 9 50 (aq.map Z4)))],1⟩) fun dv=>.o [(0,0),(135,141),(136,142),(137,143),(138,144),(139,145),(140,146)])))
 (.pr fun dw=>.pr fun dx=>.pr fun dy=>.st .normal (fun dz=>⟨[(0,.ptr 0 0 0),(5,.ptr 141 0 0),(6,.ptr 142 0 0),(7,.ptr 143 0 0),(9,iV .i64 (i64.wrap ((1:Int)+aa.1))),(10,iV .i64 (ac.length:Int)),(11,iV .i64 (i64.wrap ((i64.wrap ((2:Int)+(ac.length:Int)))+(ae.length:Int)))),(12,.own 144),(13,.own 145),(14,iV .i64 br),(15,iV .i64 (i64.wrap (br-am))),(16,.own 146),(17,iV .i64 ar),(18,iV .i64 br),(69,iV .i64 (i64.wrap ((i64.wrap ((2:Int)+(ac.length:Int)))+(ae.length:Int)))),(70,iV .i64 bz)],[(0,some (.box 158 (Z8 ⟨a0_c0,dw,dx⟩))),(141,some (.box 48 (Z0r a1))),(142,some (.box 179 (Zu a2))),(143,some (.box 179 (Zu a3))),(144,some (.row 1 45 (dy.map (Z1 .u64)))),(145,some (.row 1 45 (dz.map (Z1 .u64)))),(146,some (.row 9 50 (aq.map Z4)))],1⟩) fun dz=>.r0<|.bk [(0,0),(141,129),(142,130),(143,131),(144,132),(145,133),(146,134)] rfl))
 (fun ca=>.o [(0,0),(129,147),(130,148),(131,149),(132,150),(133,151),(134,152)]))
 (.pr fun d8=>.pr fun d9=>.pr fun ea=>.st (.exit 3) (fun ed=>⟨[(0,.ptr 0 0 0),(5,.ptr 147 0 0),(6,.ptr 148 0 0),(7,.ptr 149 0 0),(9,iV .i64 (i64.wrap ((1:Int)+aa.1))),(10,iV .i64 (ac.length:Int)),(11,iV .i64 (i64.wrap ((i64.wrap ((2:Int)+(ac.length:Int)))+(ae.length:Int)))),(12,.own 150),(13,.own 151),(14,iV .i64 br),(15,iV .i64 (i64.wrap (br-am))),(16,.own 152),(17,iV .i64 ar),(18,iV .i64 br)],[(0,some (.box 158 (Z8 ⟨a0_c0,d8,d9⟩))),(147,some (.box 48 (Z0r a1))),(148,some (.box 179 (Zu a2))),(149,some (.box 179 (Zu a3))),(150,some (.row 1 45 (ea.map (Z1 .u64)))),(151,some (.row 1 45 (ed.map (Z1 .u64)))),(152,some (.row 9 50 (aq.map Z4)))],1⟩) fun ed=>.rg [(3,⟨.k 153,.n⟩)]<|.el fun ee ef eg=>.el fun eh ei ej=>.rg [(1,hX (Z1 .u64) ef eg),(2,hL (Z1 .u64) eg),(4,hX (Z1 .u64) ei ej),(5,hL (Z1 .u64) ej)]<|.ck fun em=>.bd fun en eo=>.ck fun ep=>.bd fun eq et=>.rg [(4,⟨.more (xSub (Int.toNat (2:Int)) (Int.toNat (i64.wrap ((2:Int)+(ac.length:Int)))-Int.toNat (2:Int))),.c (p:=(2:Int)=((Int.toNat (2:Int):Nat):Int)) ((Int.toNat_of_nonneg em.1).symm) (.c (p:=(i64.wrap ((2:Int)+(ac.length:Int)))=((Int.toNat (2:Int)+(Int.toNat (i64.wrap ((2:Int)+(ac.length:Int)))-Int.toNat (2:Int)):Nat):Int)) (by have h:=em;(try simp only[List.length_map] at h ⊢);omega) (.c (p:=Int.toNat (2:Int)+(Int.toNat (i64.wrap ((2:Int)+(ac.length:Int)))-Int.toNat (2:Int))≤(ea.map (Z1 .u64)).length) (by have h:=em;simp only[List.length_map] at h ⊢;omega) .n))⟩),(5,⟨.more (Z4z [] [(0,154)] [150] [154] 0 (.own 0) [(0,some (.row 2 136 (en.map Z0)))]),.c (Tryz.call152) (.c (p:=Pv.Fn Tryz.prog 152 [.agg (Zu a2),.im (.row (((ea.map (Z1 .u64)).drop (Int.toNat (2:Int))).take (Int.toNat (i64.wrap ((2:Int)+(ac.length:Int)))-Int.toNat (2:Int))))] [] 0 (fun r o=>r = .own 0∧o=[(0,some (.row 2 136 (en.map Z0)))])) ((by have hh:=Z26.ok a2 ((ea.drop (Int.toNat (2:Int))).take (Int.toNat (i64.wrap ((2:Int)+(ac.length:Int)))-Int.toNat (2:Int))) en eo;rw[cut1 ea (Int.toNat (2:Int)) (Int.toNat (i64.wrap ((2:Int)+(ac.length:Int)))-Int.toNat (2:Int)) (Z1 .u64)] at hh;exact hh)) (.c (p:=∀ c∈en.map Z0,∀ x∈c,∃ v,x=Im.sc v) (Z5d _ _ (fun _=>by simp)) .n))⟩),(10,⟨.more (xSub (Int.toNat (i64.wrap ((2:Int)+(ac.length:Int)))) (Int.toNat (ea.length:Int)-Int.toNat (i64.wrap ((2:Int)+(ac.length:Int))))),.c (p:=(i64.wrap ((2:Int)+(ac.length:Int)))=((Int.toNat (i64.wrap ((2:Int)+(ac.length:Int))):Nat):Int)) ((Int.toNat_of_nonneg ep.1).symm) (.c (p:=((ea.map (Z1 .u64)).length:Int)=((Int.toNat (i64.wrap ((2:Int)+(ac.length:Int)))+(Int.toNat (ea.length:Int)-Int.toNat (i64.wrap ((2:Int)+(ac.length:Int)))):Nat):Int)) (by have h:=ep;(try simp only[List.length_map] at h ⊢);omega) (.c (p:=Int.toNat (i64.wrap ((2:Int)+(ac.length:Int)))+(Int.toNat (ea.length:Int)-Int.toNat (i64.wrap ((2:Int)+(ac.length:Int))))≤(ea.map (Z1 .u64)).length) (by have h:=ep;simp only[List.length_map] at h ⊢;omega) .n))⟩),(11,⟨.more (Z4z [] [(0,155)] [150] [155] 0 (.own 0) [(0,some (.row 2 136 (eq.map Z0)))]),.c (Tryz.call152) (.c (p:=Pv.Fn Tryz.prog 152 [.agg (Zu a3),.im (.row (((ea.map (Z1 .u64)).drop (Int.toNat (i64.wrap ((2:Int)+(ac.length:Int))))).take (Int.toNat (ea.length:Int)-Int.toNat (i64.wrap ((2:Int)+(ac.length:Int))))))] [] 0 (fun r o=>r = .own 0∧o=[(0,some (.row 2 136 (eq.map Z0)))])) ((by have hh:=Z26.ok a3 ((ea.drop (Int.toNat (i64.wrap ((2:Int)+(ac.length:Int))))).take (Int.toNat (ea.length:Int)-Int.toNat (i64.wrap ((2:Int)+(ac.length:Int))))) eq et;rw[cut1 ea (Int.toNat (i64.wrap ((2:Int)+(ac.length:Int)))) (Int.toNat (ea.length:Int)-Int.toNat (i64.wrap ((2:Int)+(ac.length:Int)))) (Z1 .u64)] at hh;exact hh)) (.c (p:=∀ c∈eq.map Z0,∀ x∈c,∃ v,x=Im.sc v) (Z5d _ _ (fun _=>by simp)) .n))⟩)]<|.cv [(0,0),(147,147),(148,148),(149,149),(150,150),(151,151),(152,152),(153,153)] [154,155] [] ⟨[(0,.ptr 0 0 0),(5,.ptr 147 0 0),(6,.ptr 148 0 0),(7,.ptr 149 0 0),(9,iV .i64 (i64.wrap ((1:Int)+aa.1))),(10,iV .i64 (ac.length:Int)),(11,iV .i64 (i64.wrap ((i64.wrap ((2:Int)+(ac.length:Int)))+(ae.length:Int)))),(12,.own 150),(13,.own 151),(14,iV .i64 br),(15,iV .i64 (i64.wrap (br-am))),(16,.own 152),(17,iV .i64 ar),(20,.ptr 153 0 0)],[(0,some (.box 158 (Z8 ⟨a0_c0,d8,d9⟩))),(147,some (.box 48 (Z0r a1))),(148,some (.box 179 (Zu a2))),(149,some (.box 179 (Zu a3))),(150,some (.row 1 45 (ea.map (Z1 .u64)))),(151,some (.row 1 45 (ed.map (Z1 .u64)))),(152,some (.row 9 50 (aq.map Z4))),(153,some (.box 50 [iV .i64 br,iV .i64 a1.f0,iV .i64 a1.f1,iV .i64 a1.f2,iV .u64 ee,iV .u64 a1.f4,iV .i64 (i64.wrap (eh)),.im (.row (en.map Z0)),.im (.row (eq.map Z0))]))],1⟩<|.bd fun eu ev=>.rg [(8,hC [] [] [] [] Tryz.call153 (Z2m.ok (⟨a1.f0,a1.f1,a1.f2,ee,a1.f4,i64.wrap (eh),en,eq⟩:Zg) en eq eu ev))]<|.ck fun ew=>.rg [(2,hQ 156 Z4 ([(⟨br,(eu.1)⟩:Z7)]:List Z7)),(3,hP 157 Z4 9 ew)]<|.r0<|.bk [(0,0),(147,93),(148,94),(149,95),(150,96),(151,97),(157,98)] rfl)))
 (fun a9=>.o [(104,158),(0,0)])))
 (.pr fun ez=>.pr fun fc=>.st (.exit 0) (fun fe=>⟨[(16,.own 158)],[(0,some (.box 158 (Z8 ⟨a0_c0,fc,fe⟩))),(158,some (.row 9 50 (ez.map Z4)))],1⟩) fun fe=>.r0<|.ret [(0,0),(158,1)] [] [] ⟨[(8,.own 1)],[(0,some (.box 158 (Z8 ⟨a0_c0,fc,fe⟩))),(1,some (.row 9 50 (ez.map Z4)))],1⟩))
def Zn.l0 (a0_c0:List Int) (aa:Int) (ab:Int):Option (Int×Int):=((if(ab==(0:Int))=true then((Z0h.f a0_c0 aa ab)>>=fun ac=>some (decide ((i64.wrap ((i64.wrap ((8:Int)*(a0_c0.length:Int)))-aa))>(0:Int)))) else(some false)):Option (Bool))>>=fun ad=>if ad=true then((Z0a.f a0_c0 aa ab)>>=fun ae=>((if ae.1=true then((Zr.f a0_c0 ae.2.1 ae.2.2 6)>>=fun af=>some af) else(some ae.2.2)):Option (Int))>>=fun ah=>Zn.l0 a0_c0 ae.2.1 ah) else(some (aa,ab))
partial_fixpoint
def Zn.f (a0_c0:List Int) (a0_c1:Int) (a0_c2:Int):Option (Int×Int×Int):=((if(a0_c2==(0:Int))=true then((Z0h.f a0_c0 a0_c1 a0_c2)>>=fun aa=>some (decide ((i64.wrap ((i64.wrap ((8:Int)*(a0_c0.length:Int)))-a0_c1))≥(8:Int)))) else(some false)):Option (Bool))>>=fun ab=>((if ab=true then((Zr.f a0_c0 a0_c1 a0_c2 6)>>=fun ac=>some ac) else(some a0_c2)):Option (Int))>>=fun ad=>(Zn.l0 a0_c0 a0_c1 ad)>>=fun oo=>match oo with | (ae,af)=>(some (af,ae,af))
theorem Zn.ok (a0_c0:List Int) (a0_c1:Int) (a0_c2:Int) (r:Int×Int×Int) (H:Zn.f a0_c0 a0_c1 a0_c2=some r):Pv.Fn Tryz.prog 49 [.ptr 0 0 0] [(0,some (.box 158 (Z8 ⟨a0_c0,a0_c1,a0_c2⟩)))] 1 (fun x o=>x=iV .i64 r.1∧o=[(0,some (.box 158 (Z8 ⟨a0_c0,r.2.1,r.2.2⟩)))]):=by
 unfold Zn.f at H
 exact HT.fn H (fun r=>iV .i64 r.1) (fun r=>[(0,some (.box 158 (Z8 ⟨a0_c0,r.2.1,r.2.2⟩)))]) [0] Tryz.func49 rfl rfl hmx (.r0<|.join (.sp (fun aa=>.bd fun ab ac=>.rg [(5,hB aa),(7,hC [(0,0)] [(0,0)] [] [] Tryz.call86 (Z0h.ok a0_c0 a0_c1 a0_c2 ab ac))]<|.o [(0,0)])
 (fun aa=>.rg [(5,hB aa)]<|.o [(0,0)]))
 (.st .normal (fun ad=>⟨[(0,.ptr 0 0 0),(12,bV ad)],[(0,some (.box 158 (Z8 ⟨a0_c0,a0_c1,a0_c2⟩)))],1⟩) fun ad=>.join (.cd (fun ae=>.bd fun af ah=>.rg [(1,hC [(0,0)] [(0,0)] [] [] Tryz.call85 (Zr.ok a0_c0 a0_c1 a0_c2 6 af ah))]<|.o [(0,0)])
 (fun ae=>.o [(0,0)]))
 (.st .normal (fun ai=>⟨[(0,.ptr 0 0 0)],[(0,some (.box 158 (Z8 ⟨a0_c0,a0_c1,ai⟩)))],1⟩) fun ai=>.bl<|.loop (.c2 (Zn.l0.partial_correctness a0_c0)) (a0_c1,ai) [(0,0)] [] [] (fun _=>.pr fun aj=>.one (fun ak=>⟨[(0,.ptr 0 0 0)],[(0,some (.box 158 (Z8 ⟨a0_c0,aj,ak⟩)))],1⟩) fun ak=>.join (.sp (fun al=>.bd fun am ao=>.rg [(5,hB al),(7,hC [(0,0)] [(0,0)] [] [] Tryz.call86 (Z0h.ok a0_c0 aj ak am ao))]<|.o [(0,0)])
 (fun al=>.rg [(5,hB al)]<|.o [(0,0)]))
 (.st .normal (fun aq=>⟨[(0,.ptr 0 0 0),(24,bV aq)],[(0,some (.box 158 (Z8 ⟨a0_c0,aj,ak⟩)))],1⟩) fun aq=>.cd (fun ar=>.bl<|.bd fun au av=>.rg [(1,hC [(0,0)] [(0,0)] [] [] Tryz.call83 (Z0a.ok a0_c0 aj ak au av))]<|.join (.cd (fun ax=>.bd fun az a9=>.rg [(1,hC [(0,0)] [(0,0)] [] [] Tryz.call85 (Zr.ok a0_c0 au.2.1 au.2.2 6 az a9))]<|.o [(0,0)])
 (fun ax=>.o [(0,0)]))
 (.st .normal (fun ba=>⟨[(0,.ptr 0 0 0)],[(0,some (.box 158 (Z8 ⟨a0_c0,au.2.1,ba⟩)))],1⟩) fun ba=>.bk [(0,0)] rfl))
 (fun ar=>.o [(0,0)])))
 (.pr fun bb=>.st (.exit 0) (fun bc=>⟨[(0,.ptr 0 0 0)],[(0,some (.box 158 (Z8 ⟨a0_c0,bb,bc⟩)))],1⟩) fun bc=>.r0<|.ret [(0,0)] [] [] ⟨[(2,iV .i64 bc)],[(0,some (.box 158 (Z8 ⟨a0_c0,bb,bc⟩)))],1⟩))))
def Z55.f (a0:Zg) (a1:Zg):Option (Bool):=((if(a0.f0==a1.f0)=true then(if(a0.f1==a1.f1)=true then(some (a0.f2==a1.f2)) else(some false)) else(some false)):Option (Bool))>>=fun aa=>some aa
theorem Z55.ok (a0:Zg) (a1:Zg) (r:Bool) (H:Z55.f a0 a1=some r):Pv.Fn Tryz.prog 131 [.agg (Z0r a0),.agg (Z0r a1)] [] 0 (fun x o=>x=bV r∧o=[]):=by
 unfold Z55.f at H
 exact HT.fn H (fun r=>bV r) (fun r=>[]) [] Tryz.func131 rfl rfl hmx (.rg [(0,⟨.k 0,.n⟩),(1,⟨.k 1,.n⟩)]<|.join (.sp (fun aa=>.sp (fun ab=>.rg [(5,hB aa),(12,hB ab)]<|.o [])
 (fun ab=>.rg [(5,hB aa),(12,hB ab)]<|.o []))
 (fun aa=>.rg [(5,hB aa)]<|.o []))
 (.st .normal (fun ac=>⟨[(4,bV ac)],[],0⟩) fun ac=>.ret [] [] [] ⟨[(4,bV ac)],[],0⟩))
def Z5p.f (a0:Int) (a1:Int):Option (Int×Int):=if(!((decide (a0<a1))==(decide ((i64.wrap (a0-a1))<(0:Int)))))=true then(some (0,5)) else(some (i64.wrap (a0-a1),0))
theorem Z5p.ok (a0:Int) (a1:Int) (r:Int×Int) (H:Z5p.f a0 a1=some r):Pv.Fn Tryz.prog 176 [iV .i64 a0,iV .i64 a1] [] 0 (fun x o=>x = .tup [iV .i64 r.1,iV .i64 r.2]∧o=[]):=by
 unfold Z5p.f at H
 exact HT.fn H (fun r=>.tup [iV .i64 r.1,iV .i64 r.2]) (fun r=>[]) [] Tryz.func176 rfl rfl hmx (.r0<|.r0<|.r0<|.cd (fun aa=>.r0<|.ret [] [] [] ⟨[(4,iV .i64 0),(5,iV .i64 5)],[],0⟩)
 (fun aa=>.r0<|.ret [] [] [] ⟨[(4,iV .i64 (i64.wrap (a0-a1))),(5,iV .i64 0)],[],0⟩))
def Z9r.f (a0:Int) (a1:Int):Option (Unit):=(chk (0≤a1))>>=fun _=>some ()
theorem Z9r.ok (a0:Int) (a1:Int) (r:Unit) (H:Z9r.f a0 a1=some r):Pv.Fn Tryz.prog 202 [iV .i64 a0,iV .u64 a1] [] 0 (fun x o=>x=iV .i64 (i64.wrap (0-(Int.fdiv (i64.wrap (0-a0)) (2 ^ (min (Int.toNat (a1)) 64)))))∧o=[]):=by
 unfold Z9r.f at H
 exact HT.fn H (fun r=>iV .i64 (i64.wrap (0-(Int.fdiv (i64.wrap (0-a0)) (2 ^ (min (Int.toNat (a1)) 64)))))) (fun r=>[]) [] Tryz.func202 rfl rfl hmx (.r0<|.ck fun aa=>.rg [(3,hN (p1 aa))]<|.ret [] [] [] ⟨[(4,iV .i64 (i64.wrap (0-(Int.fdiv (i64.wrap (0-a0)) (2 ^ (min (Int.toNat (a1)) 64))))))],[],0⟩)
def Z6s.f (a0:Int) (a1:Int) (a2:Int):Option (Int×Int):=(((Z0s.f a0)>>=fun aa=>if(!aa)=true then(some true) else((Z0s.f a1)>>=fun ab=>if(!ab)=true then(some true) else(some (decide (a1>a0))))):Option (Bool))>>=fun ac=>if ac=true then(some (0,20)) else((Z5f.f a0 a2)>>=fun ad=>if(!ad)=true then(some (0,4)) else((Z9r.f a2 (u64.wrap (i64.wrap (a0-a1))))>>=fun ae=>some (i64.wrap (0-(Int.fdiv (i64.wrap (0-a2)) (2 ^ (min (Int.toNat ((u64.wrap (i64.wrap (a0-a1))))) 64)))),0)))
theorem Z6s.ok (a0:Int) (a1:Int) (a2:Int) (r:Int×Int) (H:Z6s.f a0 a1 a2=some r):Pv.Fn Tryz.prog 198 [iV .i64 a0,iV .i64 a1,iV .i64 a2] [] 0 (fun x o=>x = .tup [iV .i64 r.1,iV .i64 r.2]∧o=[]):=by
 unfold Z6s.f at H
 exact HT.fn H (fun r=>.tup [iV .i64 r.1,iV .i64 r.2]) (fun r=>[]) [] Tryz.func198 rfl rfl hmx (.r0<|.bl<|.join (.bd fun aa ab=>.sp (fun ac=>.rg [(1,hC [] [] [] [] Tryz.call93 (Z0s.ok a0 aa ab)),(3,hB ac)]<|.o [])
 (fun ac=>.bd fun ad ae=>.sp (fun af=>.rg [(1,hC [] [] [] [] Tryz.call93 (Z0s.ok a0 aa ab)),(3,hB ac),(5,hC [] [] [] [] Tryz.call93 (Z0s.ok a1 ad ae)),(8,hB af)]<|.o [])
 (fun af=>.rg [(1,hC [] [] [] [] Tryz.call93 (Z0s.ok a0 aa ab)),(3,hB ac),(5,hC [] [] [] [] Tryz.call93 (Z0s.ok a1 ad ae)),(8,hB af)]<|.o [])))
 (.st .normal (fun ah=>⟨[(0,iV .i64 a0),(1,iV .i64 a1),(2,iV .i64 a2),(8,bV ah)],[],0⟩) fun ah=>.cd (fun ai=>.r0<|.ret [] [] [] ⟨[(6,iV .i64 0),(7,iV .i64 20)],[],0⟩)
 (fun ai=>.bd fun aj ak=>.rg [(2,hC [] [] [] [] Tryz.call124 (Z5f.ok a0 a2 aj ak))]<|.cd (fun al=>.r0<|.ret [] [] [] ⟨[(6,iV .i64 0),(7,iV .i64 4)],[],0⟩)
 (fun al=>.bd fun am ao=>.rg [(5,hC [] [] [] [] Tryz.call202 (Z9r.ok a2 (u64.wrap (i64.wrap (a0-a1))) am ao))]<|.ret [] [] [] ⟨[(6,iV .i64 (i64.wrap (0-(Int.fdiv (i64.wrap (0-a2)) (2 ^ (min (Int.toNat ((u64.wrap (i64.wrap (a0-a1))))) 64)))))),(7,iV .i64 0)],[],0⟩))))
def Z3a.l0 (a0:List Z2) (a1:Int) (a2:Int) (aa:List Z2) (ab:Int):Option (List Z2):=if(decide (ab<(a0.length:Int)))=true then((at? a0 ab)>>=fun ac=>(Z6s.f a1 a2 ac.f0)>>=fun ad=>(chk ((aa.length+[(⟨ad.1,ac.f1⟩:Z2)].length)*16≤140737488355328))>>=fun _=>Z3a.l0 a0 a1 a2 (aa++[(⟨ad.1,ac.f1⟩:Z2)]) (i64.wrap (ab+(1:Int)))) else(some aa)
partial_fixpoint
def Z3a.f (a0:List Z2) (a1:Int) (a2:Int):Option (List Z2):=(Z3a.l0 a0 a1 a2 [] 0)>>=fun aa=>some aa
theorem Z3a.ok (a0:List Z2) (a1:Int) (a2:Int) (r:List Z2) (H:Z3a.f a0 a1 a2=some r):Pv.Fn Tryz.prog 192 [.im (.row (a0.map Z0)),iV .i64 a1,iV .i64 a2] [] 0 (fun x o=>x = .own 0∧o=[(0,some (.row 2 136 (r.map Z0)))]):=by
 unfold Z3a.f at H
 exact HT.fn H (fun r=>.own 0) (fun r=>[(0,some (.row 2 136 (r.map Z0)))]) [0] Tryz.func192 rfl rfl hmx (.r0<|.r0<|.rg [(1,hG Z0 a0)]<|.bl<|.loop (.c2 (Z3a.l0.partial_correctness a0 a1 a2)) ([],0) [] [] [3] (fun _=>.pr fun aa=>.one (fun ab=>⟨[(1,iV .i64 a1),(2,iV .i64 a2),(7,.own 3),(10,.im (.row (a0.map Z0))),(11,iV .i64 (a0.length:Int)),(12,iV .i64 ab)],[(3,some (.row 2 136 (aa.map Z0)))],0⟩) fun ab=>.r0<|.cd (fun ac=>.bl<|.el fun ad ae af=>.rg [(0,hA Z0 ae af),(2,⟨.k 4,.n⟩)]<|.bd fun ah ai=>.rg [(4,hC [] [] [] [] Tryz.call198 (Z6s.ok a1 a2 ad.f0 ah ai))]<|.ck fun aj=>.rg [(2,hQ 5 Z0 ([(⟨ah.1,ad.f1⟩:Z2)]:List Z2)),(3,hP 6 Z0 2 aj)]<|.r0<|.bk [(6,3)] rfl)
 (fun ac=>.o [(3,7)]))
 (.st (.exit 0) (fun ak=>⟨[(7,.own 7)],[(7,some (.row 2 136 (ak.map Z0)))],0⟩) fun ak=>.r0<|.ret [(7,0)] [] [] ⟨[(6,.own 0)],[(0,some (.row 2 136 (ak.map Z0)))],0⟩))
def Z39.l0 (a0:Zg) (a1:List Z2) (a2:Int) (aa:Int):Option (Int ⊕ Unit):=if(decide (aa<(a1.length:Int)))=true then((at? a1 aa)>>=fun ab=>(((Z4f.f a0.f1 ab.f0)>>=fun ac=>if(decide (ac<a2))=true then((Z2i.f a0.f1 ab.f0)>>=fun ad=>some (decide (a2<ad))) else(some false)):Option (Bool))>>=fun ae=>if ae=true then((Z2i.f a0.f1 ab.f0)>>=fun af=>some (.inl af)) else(Z39.l0 a0 a1 a2 (i64.wrap (aa+(1:Int))))) else(some (.inr ()))
partial_fixpoint
def Z39.f (a0:Zg) (a1:List Z2) (a2:Int):Option (Int):=(Z39.l0 a0 a1 a2 0)>>=fun oo=>match oo with | .inl rr=>(some rr) | .inr _=>(some a2)
theorem Z39.ok (a0:Zg) (a1:List Z2) (a2:Int) (r:Int) (H:Z39.f a0 a1 a2=some r):Pv.Fn Tryz.prog 199 [.agg (Z0r a0),.im (.row (a1.map Z0)),iV .i64 a2] [] 0 (fun x o=>x=iV .i64 r∧o=[]):=by
 unfold Z39.f at H
 exact HT.fn H (fun r=>iV .i64 r) (fun r=>[]) [] Tryz.func199 rfl rfl hmx (.rg [(0,⟨.k 0,.n⟩)]<|.rg [(1,hG Z0 a1)]<|.bl<|.loop (.one (Z39.l0.partial_correctness a0 a1 a2)) 0 [(0,4)] [] [] (fun _=>.one (fun aa=>⟨[(2,iV .i64 a2),(3,.ptr 4 0 0),(9,.im (.row (a1.map Z0))),(10,iV .i64 (a1.length:Int)),(11,iV .i64 aa)],[(4,some (.box 48 (Z0r a0)))],0⟩) fun aa=>.r0<|.cd (fun ab=>.bl<|.el fun ac ad ae=>.rg [(0,hA Z0 ad ae),(2,⟨.k 5,.n⟩)]<|.join (.bd fun af ah=>.sp (fun ai=>.bd fun aj ak=>.rg [(4,hC [] [] [] [] Tryz.call125 (Z4f.ok a0.f1 ac.f0 af ah)),(7,hB ai),(13,hC [] [] [] [] Tryz.call163 (Z2i.ok a0.f1 ac.f0 aj ak))]<|.o [(4,6),(5,7)])
 (fun ai=>.rg [(4,hC [] [] [] [] Tryz.call125 (Z4f.ok a0.f1 ac.f0 af ah)),(7,hB ai)]<|.o [(4,6),(5,7)]))
 (.st .normal (fun al=>⟨[(2,iV .i64 a2),(3,.ptr 6 0 0),(8,.ptr 7 0 0),(9,.im (.row (a1.map Z0))),(10,iV .i64 (a1.length:Int)),(11,iV .i64 aa),(30,bV al)],[(6,some (.box 48 (Z0r a0))),(7,some (.box 136 (Z82 ac)))],0⟩) fun al=>.cd (fun am=>.bd fun ao aq=>.rg [(4,hC [] [] [] [] Tryz.call163 (Z2i.ok a0.f1 ac.f0 ao aq))]<|.ret [] [] [] ⟨[(6,iV .i64 ao)],[],0⟩)
 (fun am=>.r0<|.bk [(6,4)] rfl)))
 (fun ab=>.o []))
 (.sm (.rt (fun rr=>iV .i64 rr) (fun rr=>[]))
 (.st (.exit 0) (fun _=>⟨[(2,iV .i64 a2)],[],0⟩) fun _=>.r0<|.ret [] [] [] ⟨[(6,iV .i64 a2)],[],0⟩)))
def Z0p.l0 (a0:List Z2) (a1_c0:Int) (a1_c1:Int) (a1_c2:Int) (a1_c4:Int) (a1_c5:Int) (a1_c6:List Z2) (a1_c7:List Z2) (a2_c0:Int) (aa:Int) (ab:List Z2) (ac:Int):Option ((List Z2)×Int):=if(decide (ac<(a0.length:Int)))=true then((at? a0 ac)>>=fun ad=>(Z2i.f a1_c1 ad.f0)>>=fun ae=>((if(decide (ae>a2_c0))=true then((chk ((ab.length+[ad].length)*16≤140737488355328))>>=fun _=>some (aa,ab++[ad])) else((Z3w.f [aa,ad.f1])>>=fun af=>some (af.1,ab))):Option (Int×(List Z2)))>>=fun oo=>match oo with | (ah,ai)=>(Z0p.l0 a0 a1_c0 a1_c1 a1_c2 a1_c4 a1_c5 a1_c6 a1_c7 a2_c0 ah ai (i64.wrap (ac+(1:Int))))) else(some (ab,aa))
partial_fixpoint
def Z0p.f (a0:List Z2) (a1_c0:Int) (a1_c1:Int) (a1_c2:Int) (a1_c3:Int) (a1_c4:Int) (a1_c5:Int) (a1_c6:List Z2) (a1_c7:List Z2) (a2_c0:Int):Option ((List Z2)×Int):=(Z0p.l0 a0 a1_c0 a1_c1 a1_c2 a1_c4 a1_c5 a1_c6 a1_c7 a2_c0 a1_c3 [] 0)>>=fun oo=>match oo with | (aa,ab)=>(some (aa,ab))
theorem Z0p.ok (a0:List Z2) (a1_c0:Int) (a1_c1:Int) (a1_c2:Int) (a1_c3:Int) (a1_c4:Int) (a1_c5:Int) (a1_c6:List Z2) (a1_c7:List Z2) (a2_c0:Int) (r:(List Z2)×Int) (H:Z0p.f a0 a1_c0 a1_c1 a1_c2 a1_c3 a1_c4 a1_c5 a1_c6 a1_c7 a2_c0=some r):Pv.Fn Tryz.prog 200 [.im (.row (a0.map Z0)),.ptr 0 0 0,.ptr 1 0 0] [(0,some (.box 48 (Z0r ⟨a1_c0,a1_c1,a1_c2,a1_c3,a1_c4,a1_c5,a1_c6,a1_c7⟩))),(1,some (.box 3 [iV .i64 a2_c0]))] 2 (fun x o=>x = .own 2∧o=[(0,some (.box 48 (Z0r ⟨a1_c0,a1_c1,a1_c2,r.2,a1_c4,a1_c5,a1_c6,a1_c7⟩))),(1,some (.box 3 [iV .i64 a2_c0])),(2,some (.row 2 136 (r.1.map Z0)))]):=by
 unfold Z0p.f at H
 exact HT.fn H (fun r=>.own 2) (fun r=>[(0,some (.box 48 (Z0r ⟨a1_c0,a1_c1,a1_c2,r.2,a1_c4,a1_c5,a1_c6,a1_c7⟩))),(1,some (.box 3 [iV .i64 a2_c0])),(2,some (.row 2 136 (r.1.map Z0)))]) [0,1,2] Tryz.func200 rfl rfl hmx (.r0<|.r0<|.rg [(1,hG Z0 a0)]<|.bl<|.loop (.c3 (Z0p.l0.partial_correctness a0 a1_c0 a1_c1 a1_c2 a1_c4 a1_c5 a1_c6 a1_c7 a2_c0)) (a1_c3,[],0) [(0,0),(1,1)] [] [7] (fun _=>.pr fun aa=>.pr fun ab=>.one (fun ac=>⟨[(1,.ptr 0 0 0),(2,.ptr 1 0 0),(5,.own 7),(8,.im (.row (a0.map Z0))),(9,iV .i64 (a0.length:Int)),(10,iV .i64 ac)],[(0,some (.box 48 (Z0r ⟨a1_c0,a1_c1,a1_c2,aa,a1_c4,a1_c5,a1_c6,a1_c7⟩))),(1,some (.box 3 [iV .i64 a2_c0])),(7,some (.row 2 136 (ab.map Z0)))],2⟩) fun ac=>.r0<|.cd (fun ad=>.bl<|.el fun ae af ah=>.rg [(0,hA Z0 af ah),(2,⟨.k 8,.n⟩)]<|.bd fun ai aj=>.rg [(4,hC [] [] [] [] Tryz.call163 (Z2i.ok a1_c1 ae.f0 ai aj))]<|.join (.cd (fun ak=>.ck fun al=>.rg [(2,hQ 9 Z0 ([ae]:List Z2)),(3,hP 10 Z0 2 al)]<|.o [(0,0),(1,1),(10,12)])
 (fun ak=>.bd fun am ao=>.rg [(4,hQ 11 (Z1 .u64) ([aa,ae.f1]:List Int)),(5,hC [] [] [11] [] Tryz.call126 (Z3w.ok [aa,ae.f1] am ao))]<|.o [(0,0),(1,1),(7,12)]))
 (.pr fun aq=>.st .normal (fun ar=>⟨[(1,.ptr 0 0 0),(2,.ptr 1 0 0),(5,.own 12),(8,.im (.row (a0.map Z0))),(9,iV .i64 (a0.length:Int)),(10,iV .i64 ac)],[(0,some (.box 48 (Z0r ⟨a1_c0,a1_c1,a1_c2,aq,a1_c4,a1_c5,a1_c6,a1_c7⟩))),(1,some (.box 3 [iV .i64 a2_c0])),(12,some (.row 2 136 (ar.map Z0)))],2⟩) fun ar=>.r0<|.bk [(0,0),(1,1),(12,7)] rfl))
 (fun ad=>.o [(7,13),(0,0),(1,1)]))
 (.pr fun au=>.st (.exit 0) (fun av=>⟨[(5,.own 13)],[(0,some (.box 48 (Z0r ⟨a1_c0,a1_c1,a1_c2,av,a1_c4,a1_c5,a1_c6,a1_c7⟩))),(1,some (.box 3 [iV .i64 a2_c0])),(13,some (.row 2 136 (au.map Z0)))],2⟩) fun av=>.r0<|.ret [(0,0),(1,1),(13,2)] [] [] ⟨[(4,.own 2)],[(0,some (.box 48 (Z0r ⟨a1_c0,a1_c1,a1_c2,av,a1_c4,a1_c5,a1_c6,a1_c7⟩))),(1,some (.box 3 [iV .i64 a2_c0])),(2,some (.row 2 136 (au.map Z0)))],2⟩))
def Z48.f (a0:Zg) (a1:List Z2) (a2:List Z2) (a3:Int):Option (Zg×Int):=(Z39.f a0 a1 a3)>>=fun aa=>(Z39.f a0 a2 a3)>>=fun ab=>(Z0p.f a1 a0.f0 a0.f1 a0.f2 a0.f3 a0.f4 a0.f5 a0.f6 a0.f7 (if ab>aa then ab else aa))>>=fun ac=>(Z0p.f a2 a0.f0 a0.f1 a0.f2 ac.2 a0.f4 a0.f5 a0.f6 a0.f7 (if ab>aa then ab else aa))>>=fun ad=>(Z2m.f (⟨a0.f0,a0.f1,(if ab>aa then ab else aa),ad.2,a0.f4,a0.f5,a0.f6,a0.f7⟩:Zg) ac.1 ad.1)>>=fun ae=>some ((ae.1),ae.2)
theorem Z48.ok (a0:Zg) (a1:List Z2) (a2:List Z2) (a3:Int) (r:Zg×Int) (H:Z48.f a0 a1 a2 a3=some r):Pv.Fn Tryz.prog 193 [.agg (Z0r a0),.im (.row (a1.map Z0)),.im (.row (a2.map Z0)),iV .i64 a3] [] 0 (fun x o=>x = .tup [.agg (Z0r (r.1)),iV .i64 r.2]∧o=[]):=by
 unfold Z48.f at H
 exact HT.fn H (fun r=>.tup [.agg (Z0r (r.1)),iV .i64 r.2]) (fun r=>[]) [] Tryz.func193 rfl rfl hmx (.rg [(0,⟨.k 0,.n⟩),(1,⟨.k 1,.n⟩),(2,⟨.k 2,.n⟩)]<|.bd fun aa ab=>.bd fun ac ad=>.rg [(3,hC [] [] [] [] Tryz.call199 (Z39.ok a0 a1 a3 aa ab)),(7,hC [] [] [] [] Tryz.call199 (Z39.ok a0 a2 a3 ac ad)),(8,⟨.more xMax,.n⟩)]<|.rg [(0,⟨.more xFunc,.n⟩)]<|.bd fun ae af=>.bd fun ah ai=>.rg [(2,hC [(0,0),(1,1)] [(0,0),(1,1),(2,3)] [] [3] Tryz.call200 (Z0p.ok a1 a0.f0 a0.f1 a0.f2 a0.f3 a0.f4 a0.f5 a0.f6 a0.f7 (if ac>aa then ac else aa) ae af)),(5,hC [(0,0),(1,1)] [(0,0),(1,1),(2,4)] [] [4] Tryz.call200 (Z0p.ok a2 a0.f0 a0.f1 a0.f2 ae.2 a0.f4 a0.f5 a0.f6 a0.f7 (if ac>aa then ac else aa) ah ai))]<|.r0<|.cv [(2,2),(0,0)] [3,4] [] ⟨[(1,.im (.row (ae.1.map Z0))),(2,.im (.row (ah.1.map Z0))),(4,.ptr 0 0 0),(8,.ptr 2 0 0)],[(0,some (.box 48 (Z0r ⟨a0.f0,a0.f1,(if ac>aa then ac else aa),ah.2,a0.f4,a0.f5,a0.f6,a0.f7⟩))),(2,some (.box 48 [iV .i64 0,iV .i64 0,iV .i64 0,iV .u64 0,iV .u64 0,iV .i64 0,.none0,.none0]))],0⟩<|.bd fun aj ak=>.rg [(3,hC [] [] [] [] Tryz.call153 (Z2m.ok (⟨a0.f0,a0.f1,(if ac>aa then ac else aa),ah.2,a0.f4,a0.f5,a0.f6,a0.f7⟩:Zg) ae.1 ah.1 aj ak))]<|.ret [(2,0)] [] [] ⟨[(8,.ptr 0 0 0),(9,iV .i64 aj.2)],[(0,some (.box 48 (Z0r ((aj.1)))))],0⟩)
def Z3m.f (a0:Zg) (a1:Int):Option (Zg×Int):=(((Z0s.f a1)>>=fun aa=>if(!aa)=true then(some true) else(some (decide (a1>a0.f1)))):Option (Bool))>>=fun ab=>if ab=true then(some ((⟨0,0,0,0,0,0,[],[]⟩:Zg),20)) else((Z3a.f a0.f6 a0.f1 a1)>>=fun ac=>(Z3a.f a0.f7 a0.f1 a1)>>=fun ad=>(Z48.f (⟨a0.f0,a1,a0.f2,a0.f3,a0.f4,a0.f5,a0.f6,a0.f7⟩:Zg) ac ad a0.f2)>>=fun ae=>some ((ae.1),ae.2))
theorem Z3m.ok (a0:Zg) (a1:Int) (r:Zg×Int) (H:Z3m.f a0 a1=some r):Pv.Fn Tryz.prog 187 [.agg (Z0r a0),iV .i64 a1] [] 0 (fun x o=>x = .tup [.agg (Z0r (r.1)),iV .i64 r.2]∧o=[]):=by
 unfold Z3m.f at H
 exact HT.fn H (fun r=>.tup [.agg (Z0r (r.1)),iV .i64 r.2]) (fun r=>[]) [] Tryz.func187 rfl rfl hmx (.rg [(0,⟨.k 0,.n⟩),(1,⟨.k 1,.n⟩)]<|.join (.bd fun aa ab=>.sp (fun ac=>.rg [(1,hC [] [] [] [] Tryz.call93 (Z0s.ok a1 aa ab)),(3,hB ac)]<|.o [(0,2),(1,3)])
 (fun ac=>.rg [(1,hC [] [] [] [] Tryz.call93 (Z0s.ok a1 aa ab)),(3,hB ac)]<|.o [(0,2),(1,3)]))
 (.st .normal (fun ad=>⟨[(1,iV .i64 a1),(2,.ptr 2 0 0),(4,.ptr 3 0 0),(17,bV ad)],[(2,some (.box 48 (Z0r a0))),(3,some (.box 48 [iV .i64 0,iV .i64 0,iV .i64 0,iV .u64 0,iV .u64 0,iV .i64 0,.none0,.none0]))],0⟩) fun ad=>.cd (fun ae=>.r0<|.ret [(3,0)] [] [] ⟨[(4,.ptr 0 0 0),(5,iV .i64 20)],[(0,some (.box 48 (Z0r ((⟨0,0,0,0,0,0,[],[]⟩:Zg)))))],0⟩)
 (fun ae=>.r0<|.r0<|.bd fun af ah=>.bd fun ai aj=>.rg [(4,hC [] [(0,4)] [] [4] Tryz.call192 (Z3a.ok a0.f6 a0.f1 a1 af ah)),(9,hC [] [(0,5)] [] [5] Tryz.call192 (Z3a.ok a0.f7 a0.f1 a1 ai aj))]<|.cv [(2,2),(3,3)] [4,5] [] ⟨[(2,.ptr 2 0 0),(4,.ptr 3 0 0),(7,.im (.row (af.map Z0))),(8,.im (.row (ai.map Z0)))],[(2,some (.box 48 (Z0r ⟨a0.f0,a1,a0.f2,a0.f3,a0.f4,a0.f5,a0.f6,a0.f7⟩))),(3,some (.box 48 [iV .i64 0,iV .i64 0,iV .i64 0,iV .u64 0,iV .u64 0,iV .i64 0,.none0,.none0]))],0⟩<|.bd fun ak al=>.rg [(5,hC [] [] [] [] Tryz.call193 (Z48.ok (⟨a0.f0,a1,a0.f2,a0.f3,a0.f4,a0.f5,a0.f6,a0.f7⟩:Zg) af ai a0.f2 ak al))]<|.ret [(3,0)] [] [] ⟨[(4,.ptr 0 0 0),(5,iV .i64 ak.2)],[(0,some (.box 48 (Z0r ((ak.1)))))],0⟩)))
def Z5q.f (a0:Zg):Option (Zg):=(Z0v.f a0.f6)>>=fun aa=>(Z0v.f a0.f7)>>=fun ab=>some (⟨a0.f0,a0.f1,a0.f2,a0.f3,a0.f4,a0.f5,aa,ab⟩:Zg)
theorem Z5q.ok (a0:Zg) (r:Zg) (H:Z5q.f a0=some r):Pv.Fn Tryz.prog 194 [.agg (Z0r a0)] [] 0 (fun x o=>x = .agg [iV .i64 ((r).f0),iV .i64 ((r).f1),iV .i64 ((r).f2),iV .u64 ((r).f3),iV .u64 ((r).f4),iV .i64 ((r).f5),.own 0,.own 1]∧o=[(0,some (.row 2 136 (((r).f6).map Z0))),(1,some (.row 2 136 (((r).f7).map Z0)))]):=by
 unfold Z5q.f at H
 exact HT.fn H (fun r=>.agg [iV .i64 ((r).f0),iV .i64 ((r).f1),iV .i64 ((r).f2),iV .u64 ((r).f3),iV .u64 ((r).f4),iV .i64 ((r).f5),.own 0,.own 1]) (fun r=>[(0,some (.row 2 136 (((r).f6).map Z0))),(1,some (.row 2 136 (((r).f7).map Z0)))]) [0,1] Tryz.func194 rfl rfl hmx (.rg [(0,⟨.k 0,.n⟩),(1,⟨.k 1,.n⟩)]<|.bd fun aa ab=>.bd fun ac ad=>.rg [(2,hC [] [(0,2)] [] [2] Tryz.call181 (Z0v.ok a0.f6 aa ab)),(5,hC [] [(0,3)] [] [3] Tryz.call181 (Z0v.ok a0.f7 ac ad))]<|.r0<|.ret [(1,2),(2,0),(3,1)] [] [] ⟨[(2,.ptr 2 0 0)],[(0,some (.row 2 136 ((((⟨a0.f0,a0.f1,a0.f2,a0.f3,a0.f4,a0.f5,aa,ac⟩:Zg)).f6).map Z0))),(1,some (.row 2 136 ((((⟨a0.f0,a0.f1,a0.f2,a0.f3,a0.f4,a0.f5,aa,ac⟩:Zg)).f7).map Z0))),(2,some (.box 48 [iV .i64 (((⟨a0.f0,a0.f1,a0.f2,a0.f3,a0.f4,a0.f5,aa,ac⟩:Zg)).f0),iV .i64 (((⟨a0.f0,a0.f1,a0.f2,a0.f3,a0.f4,a0.f5,aa,ac⟩:Zg)).f1),iV .i64 (((⟨a0.f0,a0.f1,a0.f2,a0.f3,a0.f4,a0.f5,aa,ac⟩:Zg)).f2),iV .u64 (((⟨a0.f0,a0.f1,a0.f2,a0.f3,a0.f4,a0.f5,aa,ac⟩:Zg)).f3),iV .u64 (((⟨a0.f0,a0.f1,a0.f2,a0.f3,a0.f4,a0.f5,aa,ac⟩:Zg)).f4),iV .i64 (((⟨a0.f0,a0.f1,a0.f2,a0.f3,a0.f4,a0.f5,aa,ac⟩:Zg)).f5),.own 0,.own 1]))],0⟩)
end Go.Proofs.YtinhldbfifpakaaGreat.PvGL2
