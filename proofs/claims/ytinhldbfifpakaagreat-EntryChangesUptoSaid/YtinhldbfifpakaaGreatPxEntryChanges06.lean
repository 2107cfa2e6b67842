import Derived.Test.YtinhldbfifpakaaGreatProg
import Derived.Test.YtinhldbfifpakaaGreatPxEntryChanges05
set_option linter.unusedVariables false
set_option linter.unnecessarySimpa false
set_option linter.unusedSimpArgs false
set_option maxRecDepth 10000
namespace Go.Proofs.YtinhldbfifpakaaGreat.PvGL1
open Go Go.Pv Go.IntKind
structure Z1 where
 f0:Int
 f1:Int
 deriving DecidableEq,Inhabited
abbrev Z0 (x:Z1):List Im:=[iI .i64 x.f0,iI .u64 x.f1]
abbrev Z7b (x:Z1):List AVal:=[iV .i64 x.f0,iV .u64 x.f1]
structure RBucket (x:Z1):Prop where
 r0:I64 x.f0
 r1:U64 x.f1
structure Zk where
 f0:Int
 f1:Int
 f2:Int
 f3:Int
 f4:Int
 f5:Int
 f6:List Z1
 f7:List Z1
 deriving DecidableEq,Inhabited
abbrev eHist (x:Zk):List Im:=[iI .i64 x.f0,iI .i64 x.f1,iI .i64 x.f2,iI .u64 x.f3,iI .u64 x.f4,iI .i64 x.f5,.row (x.f6.map Z0),.row (x.f7.map Z0)]
abbrev Z0d (x:Zk):List AVal:=[iV .i64 x.f0,iV .i64 x.f1,iV .i64 x.f2,iV .u64 x.f3,iV .u64 x.f4,iV .i64 x.f5,.im (.row (x.f6.map Z0)),.im (.row (x.f7.map Z0))]
structure RHist (x:Zk):Prop where
 r0:I64 x.f0
 r1:I64 x.f1
 r2:I64 x.f2
 r3:U64 x.f3
 r4:U64 x.f4
 r5:I64 x.f5
 r6:x.f6.length≤1048576∧∀ y∈x.f6,RBucket y
 r7:x.f7.length≤1048576∧∀ y∈x.f7,RBucket y
structure Z08 where
 f0:ByteArray
 f1:Int
 f2:Zk
 deriving DecidableEq,Inhabited
abbrev Zh (x:Z08):List Im:=[sI x.f0,iI .i64 x.f1,iI .i64 x.f2.f0,iI .i64 x.f2.f1,iI .i64 x.f2.f2,iI .u64 x.f2.f3,iI .u64 x.f2.f4,iI .i64 x.f2.f5,.row (x.f2.f6.map Z0),.row (x.f2.f7.map Z0)]
structure Z87 (x:Z08):Prop where
 r0:x.f0.size≤1048576
 r1:I64 x.f1
 r2:RHist x.f2
structure Z8 where
 f0:Int
 f1:Int
 deriving DecidableEq,Inhabited
abbrev Z5 (x:Z8):List Im:=[iI .i64 x.f0,iI .i64 x.f1]
abbrev atomb_Range (x:Z8):List AVal:=[iV .i64 x.f0,iV .i64 x.f1]
structure Z86 (x:Z8):Prop where
 r0:I64 x.f0
 r1:I64 x.f1
structure Z2p where
 f0:ByteArray
 f1:Z8
 deriving DecidableEq,Inhabited
abbrev Z17 (x:Z2p):List Im:=[sI x.f0,iI .i64 x.f1.f0,iI .i64 x.f1.f1]
structure Rr15_Cut (x:Z2p):Prop where
 r0:x.f0.size≤1048576
 r1:Z86 x.f1
structure Zn where
 f0:Int
 f1:List Z08
 f2:List Z2p
 f3:Int
 deriving DecidableEq,Inhabited
abbrev er15_Change (x:Zn):List Im:=[iI .i64 x.f0,.row (x.f1.map Zh),.row (x.f2.map Z17),iI .i64 x.f3]
abbrev Z0w (x:Zn):List AVal:=[iV .i64 x.f0,.im (.row (x.f1.map Zh)),.im (.row (x.f2.map Z17)),iV .i64 x.f3]
structure Z9q (x:Zn):Prop where
 r0:I64 x.f0
 r1:x.f1.length≤1048576∧∀ y∈x.f1,Z87 y
 r2:x.f2.length≤1048576∧∀ y∈x.f2,Rr15_Cut y
 r3:I64 x.f3
structure Z0v where
 f0:ByteArray
 f1:Z8
 deriving DecidableEq,Inhabited
abbrev Z0j (x:Z0v):List Im:=[sI x.f0,iI .i64 x.f1.f0,iI .i64 x.f1.f1]
structure Rentry_Cut (x:Z0v):Prop where
 r0:x.f0.size≤1048576
 r1:Z86 x.f1
structure Zi where
 f0:Int
 f1:List Z08
 f2:List Z0v
 f3:Int
 deriving DecidableEq,Inhabited
abbrev Z2t (x:Zi):List AVal:=[iV .i64 x.f0,.im (.row (x.f1.map Zh)),.im (.row (x.f2.map Z0j)),iV .i64 x.f3]
structure Rentry_Change (x:Zi):Prop where
 r0:I64 x.f0
 r1:x.f1.length≤1048576∧∀ y∈x.f1,Z87 y
 r2:x.f2.length≤1048576∧∀ y∈x.f2,Rentry_Cut y
 r3:I64 x.f3
structure Z22 where
 f0:ByteArray
 f1:ByteArray
 deriving DecidableEq,Inhabited
abbrev Z3e (x:Z22):List Im:=[sI x.f0,sI x.f1]
structure RLabel (x:Z22):Prop where
 r0:x.f0.size≤1048576
 r1:x.f1.size≤1048576
structure Za where
 f0:Int
 f1:Zk
 deriving DecidableEq,Inhabited
abbrev Z7 (x:Za):List Im:=[iI .i64 x.f0,iI .i64 x.f1.f0,iI .i64 x.f1.f1,iI .i64 x.f1.f2,iI .u64 x.f1.f3,iI .u64 x.f1.f4,iI .i64 x.f1.f5,.row (x.f1.f6.map Z0),.row (x.f1.f7.map Z0)]
abbrev aSample (x:Za):List AVal:=[iV .i64 x.f0,iV .i64 x.f1.f0,iV .i64 x.f1.f1,iV .i64 x.f1.f2,iV .u64 x.f1.f3,iV .u64 x.f1.f4,iV .i64 x.f1.f5,.im (.row (x.f1.f6.map Z0)),.im (.row (x.f1.f7.map Z0))]
structure RSample (x:Za):Prop where
 r0:I64 x.f0
 r1:RHist x.f1
structure Tbits_Writer where
 f0:List Int
 f1:Int
 deriving DecidableEq,Inhabited
structure Rbits_Writer (x:Tbits_Writer):Prop where
 r0:x.f0.length≤1048576∧∀ y∈x.f0,Rng 0 256 y
 r1:U64 x.f1
structure Z2j where
 f0:Int
 f1:Int
 deriving DecidableEq,Inhabited
abbrev Z20 (x:Z2j):List Im:=[iI .i64 x.f0,iI .i64 x.f1]
abbrev aSpan (x:Z2j):List AVal:=[iV .i64 x.f0,iV .i64 x.f1]
structure RSpan (x:Z2j):Prop where
 r0:I64 x.f0
 r1:I64 x.f1
structure Zd where
 f0:Int
 f1:List Z2j
 deriving DecidableEq,Inhabited
abbrev Zp (x:Zd):List AVal:=[iV .i64 x.f0,.im (.row (x.f1.map Z20))]
structure Rspan_Layout (x:Zd):Prop where
 r0:I64 x.f0
 r1:x.f1.length≤1048576∧∀ y∈x.f1,RSpan y
structure Z3q where
 f0:List Z8
 deriving DecidableEq,Inhabited
structure Rtomb_Set (x:Z3q):Prop where
 r0:x.f0.length≤1048576∧∀ y∈x.f0,Z86 y
structure Zbj where
 f0:List Int
 f1:Int
 f2:Int
 deriving DecidableEq,Inhabited
abbrev Z6 (x:Zbj):List AVal:=[.im (.row (x.f0.map (Z2 .u8))),iV .i64 x.f1,iV .i64 x.f2]
structure Rbits_Reader (x:Zbj):Prop where
 r0:x.f0.length≤1048576∧∀ y∈x.f0,Rng 0 256 y
 r1:I64 x.f1
 r2:I64 x.f2
theorem hmx:Tryz.prog.follows .mixedOrders=true:=by kernel_rfl
def Z1z.l0 (a0:Zn) (x8:Int) (x9:Int):Option (Int):=if(decide (x9<(a0.f1.length:Int)))=true then((at? a0.f1 x9)>>=fun b14=>Z1z.l0 a0 (i64.wrap (x8+(i64.wrap ((i64.wrap ((b14.f0.size:Int)+(b14.f2.f6.length:Int)))+(b14.f2.f7.length:Int))))) (i64.wrap (x9+(1:Int)))) else(some x8)
partial_fixpoint
def Z1z.l1 (a0:Zn) (x25:Int) (x26:Int):Option (Int):=if(decide (x26<(a0.f2.length:Int)))=true then((at? a0.f2 x26)>>=fun b31=>Z1z.l1 a0 (i64.wrap (x25+(b31.f0.size:Int))) (i64.wrap (x26+(1:Int)))) else(some x25)
partial_fixpoint
def Z1z.f (a0:Zn):Option (Bool):=(Z1z.l0 a0 (i64.wrap ((a0.f1.length:Int)+(a0.f2.length:Int))) 0)>>=fun x17=>(Z1z.l1 a0 x17 0)>>=fun x34=>some (decide (x34≤(2000:Int)))
theorem Z1z.ok (a0:Zn) (r:Bool) (H:Z1z.f a0=some r):Pv.Fn Tryz.prog 8 [.agg (Z0w a0)] [] 0 (fun x o=>x=bV r∧o=[]):=by
 unfold Z1z.f at H
 exact HT.fn H (fun r=>bV r) (fun r=>[]) [] Tryz.func8 rfl rfl hmx (.rg [(0,⟨.k 0,.n⟩)] <| .rg [(2,hG Zh a0.f1),(5,hG Z17 a0.f2)] <| .rg [(2,hG Zh a0.f1)] <| .bl <| .loop (.c2 (Z1z.l0.partial_correctness a0)) (i64.wrap ((a0.f1.length:Int)+(a0.f2.length:Int)),0) [(0,2)] [] [] (fun _ =>.pr fun x8 =>.one (fun x9=>⟨[(1,.ptr 2 0 0),(3,iV .i64 x8),(16,.im (.row (a0.f1.map Zh))),(17,iV .i64 (a0.f1.length:Int)),(18,iV .i64 x9)],[(2,some (.box 25 (Z0w a0)))],0⟩) fun x9 =>.rg [] <| .cd (fun c10 =>.bl <| .el fun b14 p15 q16 =>.rg [(0,hA Zh p15 q16),(2,⟨.k 3,.n⟩)] <| .rg [(7,hG Z0 b14.f2.f6),(12,hG Z0 b14.f2.f7)] <| .rg [] <| .back [(2,2)] [] [] rfl)
 (fun c10 =>.out [(2,4)] [] []))
 (.st (.exit 0) (fun x17=>⟨[(1,.ptr 4 0 0),(3,iV .i64 x17)],[(4,some (.box 25 (Z0w a0)))],0⟩) fun x17 =>.rg [(2,hG Z17 a0.f2)] <| .bl <| .loop (.c2 (Z1z.l1.partial_correctness a0)) (x17,0) [] [] [] (fun _ =>.pr fun x25 =>.one (fun x26=>⟨[(3,iV .i64 x25),(39,.im (.row (a0.f2.map Z17))),(40,iV .i64 (a0.f2.length:Int)),(41,iV .i64 x26)],[],0⟩) fun x26 =>.rg [] <| .cd (fun c27 =>.bl <| .el fun b31 p32 q33 =>.rg [(0,hA Z17 p32 q33),(2,⟨.k 6,.n⟩)] <| .rg [] <| .rg [] <| .back [] [] [] rfl)
 (fun c27 =>.out [] [] []))
 (.st (.exit 2) (fun x34=>⟨[(3,iV .i64 x34)],[],0⟩) fun x34 =>.rg [] <| .ret [] [] [] ⟨[(2,bV (decide (x34≤(2000:Int))))],[],0⟩)))
def Z24.l0 (a0:ByteArray) (x137:Int):Option (Bool ⊕ Unit):=if(decide (x137<(a0.size:Int)))=true then((chk (0≤x137∧x137<(a0.size:Int)))>>=fun _=>((if(decide ((bt a0 x137)≥(97:Int)))=true then(if(decide ((bt a0 x137)≤(122:Int)))=true then(some true) else(if(decide ((bt a0 x137)≥(65:Int)))=true then(if(decide ((bt a0 x137)≤(90:Int)))=true then(some true) else(some ((bt a0 x137)==(95:Int)))) else(some ((bt a0 x137)==(95:Int))))) else(if(decide ((bt a0 x137)≥(65:Int)))=true then(if(decide ((bt a0 x137)≤(90:Int)))=true then(some true) else(some ((bt a0 x137)==(95:Int)))) else(some ((bt a0 x137)==(95:Int))))):Option (Bool))>>=fun x153=>((if(!x153)=true then(if(x137==(0:Int))=true then(some true) else(if(decide ((bt a0 x137)<(48:Int)))=true then(some true) else(some (decide ((bt a0 x137)>(57:Int)))))) else(some false)):Option (Bool))>>=fun x160=>if x160=true then(some (.inl false)) else(Z24.l0 a0 (i64.wrap (x137+(1:Int))))) else(some (.inr ()))
partial_fixpoint
def Z24.f (a0:ByteArray):Option (Bool):=((if(a0.toList==(⟨#[]⟩:ByteArray).toList)=true then(some true) else(some (decide ((a0.size:Int)>(64:Int))))):Option (Bool))>>=fun x115=>if x115=true then(some false) else((Z24.l0 a0 0)>>=fun oo=>match oo with | .inl rr=>(some rr) | .inr _=>(some true))
theorem Z24.ok (a0:ByteArray) (r:Bool) (H:Z24.f a0=some r):Pv.Fn Tryz.prog 148 [sV a0] [] 0 (fun x o=>x=bV r∧o=[]):=by
 unfold Z24.f at H
 exact HT.fn H (fun r=>bV r) (fun r=>[]) [] Tryz.func148 rfl rfl hmx (.rg [] <| .join (.sp (fun c114 =>.rg [(2,hB c114)] <| .out [] [] [])
 (fun c114 =>.rg [(2,hB c114)] <| .out [] [] []))
 (.st .normal (fun x115=>⟨[(0,sV a0),(12,bV x115)],[],0⟩) fun x115 =>.cd (fun c116 =>.rg [] <| .ret [] [] [] ⟨[(2,bV false)],[],0⟩)
 (fun c116 =>.rg [] <| .bl <| .loop (.one (Z24.l0.partial_correctness a0)) 0 [] [] [] (fun _ =>.one (fun x137=>⟨[(0,sV a0),(14,iV .i64 (a0.size:Int)),(15,iV .i64 x137)],[],0⟩) fun x137 =>.rg [] <| .cd (fun c138 =>.bl <| .rg [] <| .ck fun c140 =>.rg [(2,hN (p2 c140))] <| .join (.sp (fun c147 =>.sp (fun c148 =>.rg [(2,hB c147),(6,hB c148)] <| .out [] [] [])
 (fun c148 =>.sp (fun c149 =>.sp (fun c150 =>.rg [(2,hB c147),(6,hB c148),(9,hB c149),(14,hB c150)] <| .out [] [] [])
 (fun c150 =>.rg [(2,hB c147),(6,hB c148),(9,hB c149),(14,hB c150)] <| .out [] [] []))
 (fun c149 =>.rg [(2,hB c147),(6,hB c148),(9,hB c149)] <| .out [] [] [])))
 (fun c147 =>.sp (fun c151 =>.sp (fun c152 =>.rg [(2,hB c147),(9,hB c151),(14,hB c152)] <| .out [] [] [])
 (fun c152 =>.rg [(2,hB c147),(9,hB c151),(14,hB c152)] <| .out [] [] []))
 (fun c151 =>.rg [(2,hB c147),(9,hB c151)] <| .out [] [] [])))
 (.st .normal (fun x153=>⟨[(0,sV a0),(3,iV .i64 x137),(4,iV .u8 (bt a0 x137)),(5,bV x153),(14,iV .i64 (a0.size:Int)),(15,iV .i64 x137)],[],0⟩) fun x153 =>.join (.sp (fun c157 =>.sp (fun c158 =>.rg [(2,hB c157),(5,hB c158)] <| .out [] [] [])
 (fun c158 =>.sp (fun c159 =>.rg [(2,hB c157),(5,hB c158),(9,hB c159)] <| .out [] [] [])
 (fun c159 =>.rg [(2,hB c157),(5,hB c158),(9,hB c159)] <| .out [] [] [])))
 (fun c157 =>.rg [(2,hB c157)] <| .out [] [] []))
 (.st .normal (fun x160=>⟨[(0,sV a0),(14,iV .i64 (a0.size:Int)),(15,iV .i64 x137),(52,bV x160)],[],0⟩) fun x160 =>.cd (fun c161 =>.rg [] <| .ret [] [] [] ⟨[(2,bV false)],[],0⟩)
 (fun c161 =>.rg [] <| .back [] [] [] rfl))))
 (fun c138 =>.out [] [] []))
 (.sm (.rt (fun rr=>bV rr) (fun rr=>[]))
 (.st (.exit 0) (fun _=>⟨[],[],0⟩) fun _ =>.rg [] <| .ret [] [] [] ⟨[(2,bV true)],[],0⟩)))))
def Z40.f (a0:ByteArray):Option (Bool):=((if(!(a0.toList==(⟨#[]⟩:ByteArray).toList))=true then(some (decide ((a0.size:Int)≤(64:Int)))) else(some false)):Option (Bool))>>=fun x167=>some x167
theorem Z40.ok (a0:ByteArray) (r:Bool) (H:Z40.f a0=some r):Pv.Fn Tryz.prog 149 [sV a0] [] 0 (fun x o=>x=bV r∧o=[]):=by
 unfold Z40.f at H
 exact HT.fn H (fun r=>bV r) (fun r=>[]) [] Tryz.func149 rfl rfl hmx (.rg [] <| .join (.sp (fun c166 =>.rg [(2,hB c166)] <| .out [] [] [])
 (fun c166 =>.rg [(2,hB c166)] <| .out [] [] []))
 (.st .normal (fun x167=>⟨[(2,bV x167)],[],0⟩) fun x167 =>.ret [] [] [] ⟨[(2,bV x167)],[],0⟩))
def Z2d.l0 (a0:List Z22) (x179:Int):Option (Int ⊕ Unit):=if(decide (x179<(a0.length:Int)))=true then((at? a0 x179)>>=fun b184=>(((Z24.f b184.f0)>>=fun t197=>if(!t197)=true then(some true) else((Z40.f b184.f1)>>=fun t200=>if(!t200)=true then(some true) else(if(decide (x179>(0:Int)))=true then((at? a0 (i64.wrap (x179-(1:Int))))>>=fun b204=>some (!Op.bytesLess b204.f0.toList b184.f0.toList)) else(some false)))):Option (Bool))>>=fun x207=>if x207=true then(some (.inl 26)) else(Z2d.l0 a0 (i64.wrap (x179+(1:Int))))) else(some (.inr ()))
partial_fixpoint
def Z2d.f (a0:List Z22):Option (Int):=if(decide ((a0.length:Int)>(16:Int)))=true then(some 9) else((Z2d.l0 a0 0)>>=fun oo=>match oo with | .inl rr=>(some rr) | .inr _=>(some 0))
theorem Z2d.ok (a0:List Z22) (r:Int) (H:Z2d.f a0=some r):Pv.Fn Tryz.prog 114 [.im (.row (a0.map Z3e))] [] 0 (fun x o=>x=iV .i64 r∧o=[]):=by
 unfold Z2d.f at H
 exact HT.fn H (fun r=>iV .i64 r) (fun r=>[]) [] Tryz.func114 rfl rfl hmx (.rg [] <| .rg [(1,hG Z3e a0)] <| .cd (fun c105 =>.rg [] <| .ret [] [] [] ⟨[(2,iV .i64 9)],[],0⟩)
 (fun c105 =>.rg [(1,hG Z3e a0)] <| .bl <| .loop (.one (Z2d.l0.partial_correctness a0)) 0 [] [] [] (fun _ =>.one (fun x179=>⟨[(0,.im (.row (a0.map Z3e))),(8,.im (.row (a0.map Z3e))),(9,iV .i64 (a0.length:Int)),(10,iV .i64 x179)],[],0⟩) fun x179 =>.rg [] <| .cd (fun c180 =>.bl <| .el fun b184 p185 q186 =>.rg [(1,hA Z3e p185 q186),(3,⟨.k 1,.n⟩)] <| .join (.bd fun t197 e198 =>.sp (fun c199 =>.rg [(2,hC [] [] [] [] Tryz.call148 (Z24.ok b184.f0 t197 e198)),(4,hB c199)] <| .out [] [] [])
 (fun c199 =>.bd fun t200 e201 =>.sp (fun c202 =>.rg [(2,hC [] [] [] [] Tryz.call148 (Z24.ok b184.f0 t197 e198)),(4,hB c199),(7,hC [] [] [] [] Tryz.call149 (Z40.ok b184.f1 t200 e201)),(10,hB c202)] <| .out [] [] [])
 (fun c202 =>.sp (fun c203 =>.el fun b204 p205 q206 =>.rg [(2,hC [] [] [] [] Tryz.call148 (Z24.ok b184.f0 t197 e198)),(4,hB c199),(7,hC [] [] [] [] Tryz.call149 (Z40.ok b184.f1 t200 e201)),(10,hB c202),(13,hB c203),(17,hA Z3e p205 q206)] <| .out [] [] [])
 (fun c203 =>.rg [(2,hC [] [] [] [] Tryz.call148 (Z24.ok b184.f0 t197 e198)),(4,hB c199),(7,hC [] [] [] [] Tryz.call149 (Z40.ok b184.f1 t200 e201)),(10,hB c202),(13,hB c203)] <| .out [] [] []))))
 (.st .normal (fun x207=>⟨[(0,.im (.row (a0.map Z3e))),(8,.im (.row (a0.map Z3e))),(9,iV .i64 (a0.length:Int)),(10,iV .i64 x179),(39,bV x207)],[],0⟩) fun x207 =>.cd (fun c208 =>.rg [] <| .ret [] [] [] ⟨[(2,iV .i64 26)],[],0⟩)
 (fun c208 =>.rg [] <| .back [] [] [] rfl)))
 (fun c180 =>.out [] [] []))
 (.sm (.rt (fun rr=>iV .i64 rr) (fun rr=>[]))
 (.st (.exit 0) (fun _=>⟨[],[],0⟩) fun _ =>.rg [] <| .ret [] [] [] ⟨[(2,iV .i64 0)],[],0⟩))))
def Z16.l0 (x58:ByteArray) (x59:List ByteArray):Option (((List Z22)×Int) ⊕ (List ByteArray)):=if(decide ((x58.size:Int)>(0:Int)))=true then((chk (0≤(0:Int)∧(0:Int)<(x58.size:Int)))>>=fun _=>if(decide ((i64.wrap (bt x58 0))>(i64.wrap ((x58.size:Int)-(1:Int)))))=true then(some (.inl ([],6))) else((chk (0≤(1:Int)∧(1:Int)≤(i64.wrap ((1:Int)+(i64.wrap (bt x58 0))))∧(i64.wrap ((1:Int)+(i64.wrap (bt x58 0))))≤(x58.size:Int)))>>=fun _=>(chk ((x59.length+[x58.extract (Int.toNat ((1:Int))) (Int.toNat ((i64.wrap ((1:Int)+(i64.wrap (bt x58 0))))))].length)*16≤140737488355328))>>=fun _=>(chk (0≤(i64.wrap ((1:Int)+(i64.wrap (bt x58 0))))∧(i64.wrap ((1:Int)+(i64.wrap (bt x58 0))))≤(x58.size:Int)∧(x58.size:Int)≤(x58.size:Int)))>>=fun _=>Z16.l0  (x58.extract (Int.toNat ((i64.wrap ((1:Int)+(i64.wrap (bt x58 0)))))) (Int.toNat ((x58.size:Int)))) (x59++[x58.extract (Int.toNat ((1:Int))) (Int.toNat ((i64.wrap ((1:Int)+(i64.wrap (bt x58 0))))))]))) else(some (.inr x59))
partial_fixpoint
def Z16.l1 (x70:List ByteArray) (x87:List Z22) (x88:Int):Option (List Z22):=if(decide (x88<(x70.length:Int)))=true then((at? x70 x88)>>=fun b97=>(at? x70 (i64.wrap (x88+(1:Int))))>>=fun b100=>(chk ((x87.length+[(⟨b97,b100⟩:Z22)].length)*32≤140737488355328))>>=fun _=>Z16.l1 x70 (x87++[(⟨b97,b100⟩:Z22)]) (i64.wrap (x88+(2:Int)))) else(some x87)
partial_fixpoint
def Z16.f (a0:ByteArray):Option ((List Z22)×Int):=(Z16.l0  a0 [])>>=fun oo=>match oo with | .inl rr=>(some rr) | .inr x70=>(if((Int.tmod (x70.length:Int) (2:Int))==(1:Int))=true then(some ([],6)) else((Z16.l1 x70 [] 0)>>=fun x104=>(Z2d.f x104)>>=fun t211=>if(t211 != (0:Int))=true then(some ([],6)) else(some (x104,0))))
theorem Z16.ok (a0:ByteArray) (r:(List Z22)×Int) (H:Z16.f a0=some r):Pv.Fn Tryz.prog 82 [sV a0] [] 0 (fun x o=>x = .tup [.own 0,iV .i64 r.2]∧o=[(0,some (.row 2 130 (r.1.map Z3e)))]):=by
 unfold Z16.f at H
 exact HT.fn H (fun r =>.tup [.own 0,iV .i64 r.2]) (fun r=>[(0,some (.row 2 130 (r.1.map Z3e)))]) [0] Tryz.func82 rfl rfl hmx (.rg [] <| .rg [] <| .bl <| .loop (.c2 (Z16.l0.partial_correctness )) (a0,[]) [] [] [2] (fun _ =>.pr fun x58 =>.one (fun x59=>⟨[(0,sV x58),(4,.own 2)],[(2,some (.row 1 9 (x59.map Z54)))],0⟩) fun x59 =>.rg [] <| .cd (fun c60 =>.bl <| .ck fun c62 =>.rg [(1,hN (p2 c62))] <| .rg [] <| .cd (fun c63 =>.rg [] <| .ret [] [] [0] ⟨[(2,.own 0),(3,iV .i64 6)],[(0,some (.row 2 130 ([].map Z3e)))],0⟩)
 (fun c63 =>.ck fun c66 =>.ck fun c67 =>.rg [(4,hN (p3 c66)),(5,hQ 3 Z54 ([x58.extract (Int.toNat ((1:Int))) (Int.toNat ((i64.wrap ((1:Int)+(i64.wrap (bt x58 0))))))]:List ByteArray)),(6,hP 4 Z54 1 c67)] <| .ck fun c69 =>.rg [(3,hN (p3 c69))] <| .back [(4,2)] [] [] rfl))
 (fun c60 =>.out [(2,5)] [] []))
 (.sm (.rt (fun rr =>.tup [.own 0,iV .i64 rr.2]) (fun rr=>[(0,some (.row 2 130 (rr.1.map Z3e)))]))
 (.st (.exit 0) (fun x70=>⟨[(4,.own 5)],[(5,some (.row 1 9 (x70.map Z54)))],0⟩) fun x70 =>.rg [(1,hG Z54 x70),(2,hJ 2)] <| .cd (fun c71 =>.rg [] <| .ret [] [] [0] ⟨[(2,.own 0),(3,iV .i64 6)],[(0,some (.row 2 130 ([].map Z3e)))],0⟩)
 (fun c71 =>.rg [] <| .rg [] <| .bl <| .loop (.c2 (Z16.l1.partial_correctness x70)) ([],0) [(5,8)] [] [9] (fun _ =>.pr fun x87 =>.one (fun x88=>⟨[(4,.own 8),(6,.own 9),(7,iV .i64 x88)],[(8,some (.row 1 9 (x70.map Z54))),(9,some (.row 2 130 (x87.map Z3e)))],0⟩) fun x88 =>.rg [(2,hG Z54 x70)] <| .cd (fun c89 =>.bl <| .el fun b97 p98 q99 =>.el fun b100 p101 q102 =>.ck fun c103 =>.rg [(3,hX Z54 p98 q99),(4,hL Z54 q99),(8,hX Z54 p101 q102),(9,hL Z54 q102),(11,hQ 10 Z3e ([(⟨b97,b100⟩:Z22)]:List Z22)),(12,hP 11 Z3e 2 c103)] <| .rg [] <| .back [(8,8),(11,9)] [] [] rfl)
 (fun c89 =>.out [(9,12)] [] []))
 (.st (.exit 2) (fun x104=>⟨[(6,.own 12)],[(12,some (.row 2 130 (x104.map Z3e)))],0⟩) fun x104 =>.bd fun t211 e212 =>.rg [(1,hC [] [] [12] [] Tryz.call114 (Z2d.ok x104 t211 e212))] <| .cd (fun c213 =>.rg [] <| .ret [] [] [0] ⟨[(2,.own 0),(3,iV .i64 6)],[(0,some (.row 2 130 ([].map Z3e)))],0⟩)
 (fun c213 =>.rg [] <| .ret [(12,0)] [] [] ⟨[(2,.own 0),(3,iV .i64 0)],[(0,some (.row 2 130 (x104.map Z3e)))],0⟩))))))
def Z3h.f (a0:ByteArray):Option (Bool):=(Z16.f a0)>>=fun t216=>some (t216.2==(0:Int))
theorem Z3h.ok (a0:ByteArray) (r:Bool) (H:Z3h.f a0=some r):Pv.Fn Tryz.prog 39 [sV a0] [] 0 (fun x o=>x=bV r∧o=[]):=by
 unfold Z3h.f at H
 exact HT.fn H (fun r=>bV r) (fun r=>[]) [] Tryz.func39 rfl rfl hmx (.rg [] <| .bd fun t216 e217 =>.rg [(1,hC [] [(0,0)] [] [0] Tryz.call82 (Z16.ok a0 t216 e217))] <| .rg [] <| .ret [] [] [] ⟨[(2,bV (t216.2==(0:Int)))],[],0⟩)
def Z0n.f (a0:Int):Option (Bool):=((if(decide (a0≥(-4)))=true then(some (decide (a0≤(8:Int)))) else(some false)):Option (Bool))>>=fun x236=>some x236
theorem Z0n.ok (a0:Int) (r:Bool) (H:Z0n.f a0=some r):Pv.Fn Tryz.prog 93 [iV .i64 a0] [] 0 (fun x o=>x=bV r∧o=[]):=by
 unfold Z0n.f at H
 exact HT.fn H (fun r=>bV r) (fun r=>[]) [] Tryz.func93 rfl rfl hmx (.rg [] <| .join (.sp (fun c235 =>.rg [(2,hB c235)] <| .out [] [] [])
 (fun c235 =>.rg [(2,hB c235)] <| .out [] [] []))
 (.st .normal (fun x236=>⟨[(2,bV x236)],[],0⟩) fun x236 =>.ret [] [] [] ⟨[(2,bV x236)],[],0⟩))
def Z41.f (a0:Int):Option (Unit):=some ()
theorem Z41.ok (a0:Int) (r:Unit) (H:Z41.f a0=some r):Pv.Fn Tryz.prog 175 [iV .i64 a0] [] 0 (fun x o=>x=iV .u64 (u64.wrap (i64.wrap ((8:Int)-a0)))∧o=[]):=by
 unfold Z41.f at H
 exact HT.fn H (fun r=>iV .u64 (u64.wrap (i64.wrap ((8:Int)-a0)))) (fun r=>[]) [] Tryz.func175 rfl rfl hmx (.rg [] <| .rg [] <| .ret [] [] [] ⟨[(2,iV .u64 (u64.wrap (i64.wrap ((8:Int)-a0))))],[],0⟩)
def Z4h.f (a0:Int):Option (Int):=(Z0n.f a0)>>=fun t261=>if(!t261)=true then(some 0) else((Z41.f a0)>>=fun t267=>(chk (0≤(u64.wrap (i64.wrap ((8:Int)-a0)))))>>=fun _=>some (Int.fdiv (262144:Int) (2 ^ (min (Int.toNat (u64.wrap (i64.wrap ((8:Int)-a0)))) 64))))
theorem Z4h.ok (a0:Int) (r:Int) (H:Z4h.f a0=some r):Pv.Fn Tryz.prog 162 [iV .i64 a0] [] 0 (fun x o=>x=iV .i64 r∧o=[]):=by
 unfold Z4h.f at H
 exact HT.fn H (fun r=>iV .i64 r) (fun r=>[]) [] Tryz.func162 rfl rfl hmx (.rg [] <| .bd fun t261 e262 =>.rg [(1,hC [] [] [] [] Tryz.call93 (Z0n.ok a0 t261 e262))] <| .cd (fun c263 =>.rg [] <| .ret [] [] [] ⟨[(2,iV .i64 0)],[],0⟩)
 (fun c263 =>.bd fun t267 e268 =>.ck fun c269 =>.rg [(1,hC [] [] [] [] Tryz.call175 (Z41.ok a0 t267 e268)),(2,hN (p1 c269))] <| .ret [] [] [] ⟨[(2,iV .i64 (Int.fdiv (262144:Int) (2 ^ (min (Int.toNat (u64.wrap (i64.wrap ((8:Int)-a0)))) 64))))],[],0⟩))
def Z4y.f (a0:Int):Option (Int):=(Z4h.f a0)>>=fun t272=>some (i64.wrap ((i64.wrap (0-t272))+(1:Int)))
theorem Z4y.ok (a0:Int) (r:Int) (H:Z4y.f a0=some r):Pv.Fn Tryz.prog 161 [iV .i64 a0] [] 0 (fun x o=>x=iV .i64 r∧o=[]):=by
 unfold Z4y.f at H
 exact HT.fn H (fun r=>iV .i64 r) (fun r=>[]) [] Tryz.func161 rfl rfl hmx (.rg [] <| .bd fun t272 e273 =>.rg [(1,hC [] [] [] [] Tryz.call162 (Z4h.ok a0 t272 e273))] <| .ret [] [] [] ⟨[(2,iV .i64 (i64.wrap ((i64.wrap (0-t272))+(1:Int))))],[],0⟩)
def Z5e.f (a0:Int) (a1:Int):Option (Bool):=(((Z0n.f a0)>>=fun t279=>if t279=true then((Z4y.f a0)>>=fun t282=>if(decide (a1≥t282))=true then((Z4h.f a0)>>=fun t285=>some (decide (a1≤t285))) else(some false)) else(some false)):Option (Bool))>>=fun x287=>some x287
theorem Z5e.ok (a0:Int) (a1:Int) (r:Bool) (H:Z5e.f a0 a1=some r):Pv.Fn Tryz.prog 124 [iV .i64 a0,iV .i64 a1] [] 0 (fun x o=>x=bV r∧o=[]):=by
 unfold Z5e.f at H
 exact HT.fn H (fun r=>bV r) (fun r=>[]) [] Tryz.func124 rfl rfl hmx (.rg [] <| .join (.bd fun t279 e280 =>.sp (fun c281 =>.bd fun t282 e283 =>.sp (fun c284 =>.bd fun t285 e286 =>.rg [(1,hC [] [] [] [] Tryz.call93 (Z0n.ok a0 t279 e280)),(2,hB c281),(5,hC [] [] [] [] Tryz.call161 (Z4y.ok a0 t282 e283)),(8,hB c284),(11,hC [] [] [] [] Tryz.call162 (Z4h.ok a0 t285 e286))] <| .out [] [] [])
 (fun c284 =>.rg [(1,hC [] [] [] [] Tryz.call93 (Z0n.ok a0 t279 e280)),(2,hB c281),(5,hC [] [] [] [] Tryz.call161 (Z4y.ok a0 t282 e283)),(8,hB c284)] <| .out [] [] []))
 (fun c281 =>.rg [(1,hC [] [] [] [] Tryz.call93 (Z0n.ok a0 t279 e280)),(2,hB c281)] <| .out [] [] []))
 (.st .normal (fun x287=>⟨[(4,bV x287)],[],0⟩) fun x287 =>.ret [] [] [] ⟨[(4,bV x287)],[],0⟩))
def Z2f.f (a0:Int) (a1:Int):Option (Int):=(Z0n.f a0)>>=fun t296=>if(!t296)=true then(some 0) else((Z41.f a0)>>=fun t302=>(chk (0≤(u64.wrap (i64.wrap ((8:Int)-a0)))))>>=fun _=>some (i64.wrap (a1*2 ^ (min (Int.toNat (u64.wrap (i64.wrap ((8:Int)-a0)))) 64))))
theorem Z2f.ok (a0:Int) (a1:Int) (r:Int) (H:Z2f.f a0 a1=some r):Pv.Fn Tryz.prog 163 [iV .i64 a0,iV .i64 a1] [] 0 (fun x o=>x=iV .i64 r∧o=[]):=by
 unfold Z2f.f at H
 exact HT.fn H (fun r=>iV .i64 r) (fun r=>[]) [] Tryz.func163 rfl rfl hmx (.rg [] <| .bd fun t296 e297 =>.rg [(1,hC [] [] [] [] Tryz.call93 (Z0n.ok a0 t296 e297))] <| .cd (fun c298 =>.rg [] <| .ret [] [] [] ⟨[(4,iV .i64 0)],[],0⟩)
 (fun c298 =>.bd fun t302 e303 =>.ck fun c304 =>.rg [(2,hC [] [] [] [] Tryz.call175 (Z41.ok a0 t302 e303)),(3,hN (p1 c304))] <| .ret [] [] [] ⟨[(4,iV .i64 (i64.wrap (a1*2 ^ (min (Int.toNat (u64.wrap (i64.wrap ((8:Int)-a0)))) 64))))],[],0⟩))
def Z4m.f (a0:Int) (a1:Int):Option (Int):=(Z2f.f a0 (i64.wrap (a1-(1:Int))))>>=fun t307=>some t307
theorem Z4m.ok (a0:Int) (a1:Int) (r:Int) (H:Z4m.f a0 a1=some r):Pv.Fn Tryz.prog 125 [iV .i64 a0,iV .i64 a1] [] 0 (fun x o=>x=iV .i64 r∧o=[]):=by
 unfold Z4m.f at H
 exact HT.fn H (fun r=>iV .i64 r) (fun r=>[]) [] Tryz.func125 rfl rfl hmx (.rg [] <| .bd fun t307 e308 =>.rg [(3,hC [] [] [] [] Tryz.call163 (Z2f.ok a0 (i64.wrap (a1-(1:Int))) t307 e308))] <| .ret [] [] [] ⟨[(4,iV .i64 t307)],[],0⟩)
def Z01.l0 (a0:Zk) (a1:List Z1) (x314:Int):Option (Int ⊕ Unit):=if(decide (x314<(a1.length:Int)))=true then((at? a1 x314)>>=fun b319=>(Z5e.f a0.f1 b319.f0)>>=fun t324=>if(!t324)=true then(some (.inl 4)) else(((if(decide (x314>(0:Int)))=true then((at? a1 (i64.wrap (x314-(1:Int))))>>=fun b332=>some (decide (b332.f0≥b319.f0))) else(some false)):Option (Bool))>>=fun x335=>if x335=true then(some (.inl 32)) else(if(b319.f1==(0:Int))=true then(some (.inl 21)) else((Z4m.f a0.f1 b319.f0)>>=fun t340=>if(decide (t340<a0.f2))=true then(some (.inl 31)) else(Z01.l0 a0 a1 (i64.wrap (x314+(1:Int)))))))) else(some (.inr ()))
partial_fixpoint
def Z01.f (a0:Zk) (a1:List Z1):Option (Int):=if(decide ((a1.length:Int)>(512:Int)))=true then(some 9) else((Z01.l0 a0 a1 0)>>=fun oo=>match oo with | .inl rr=>(some rr) | .inr _=>(some 0))
theorem Z01.ok (a0:Zk) (a1:List Z1) (r:Int) (H:Z01.f a0 a1=some r):Pv.Fn Tryz.prog 94 [.agg (Z0d a0),.im (.row (a1.map Z0))] [] 0 (fun x o=>x=iV .i64 r∧o=[]):=by
 unfold Z01.f at H
 exact HT.fn H (fun r=>iV .i64 r) (fun r=>[]) [] Tryz.func94 rfl rfl hmx (.rg [(0,⟨.k 0,.n⟩)] <| .rg [(1,hG Z0 a1)] <| .cd (fun c248 =>.rg [] <| .ret [] [] [] ⟨[(4,iV .i64 9)],[],0⟩)
 (fun c248 =>.rg [(1,hG Z0 a1)] <| .bl <| .loop (.one (Z01.l0.partial_correctness a0 a1)) 0 [(0,2)] [] [] (fun _ =>.one (fun x314=>⟨[(1,.im (.row (a1.map Z0))),(2,.ptr 2 0 0),(10,.im (.row (a1.map Z0))),(11,iV .i64 (a1.length:Int)),(12,iV .i64 x314)],[(2,some (.box 48 (Z0d a0)))],0⟩) fun x314 =>.rg [] <| .cd (fun c315 =>.bl <| .el fun b319 p320 q321 =>.rg [(1,hA Z0 p320 q321),(3,⟨.k 3,.n⟩)] <| .bl <| .bd fun t324 e325 =>.rg [(4,hC [] [] [] [] Tryz.call124 (Z5e.ok a0.f1 b319.f0 t324 e325))] <| .cd (fun c326 =>.rg [] <| .ret [] [] [] ⟨[(4,iV .i64 4)],[],0⟩)
 (fun c326 =>.join (.sp (fun c331 =>.el fun b332 p333 q334 =>.rg [(2,hB c331),(6,hA Z0 p333 q334)] <| .out [(2,4),(3,5)] [] [])
 (fun c331 =>.rg [(2,hB c331)] <| .out [(2,4),(3,5)] [] []))
 (.st .normal (fun x335=>⟨[(1,.im (.row (a1.map Z0))),(2,.ptr 4 0 0),(6,.ptr 5 0 0),(10,.im (.row (a1.map Z0))),(11,iV .i64 (a1.length:Int)),(12,iV .i64 x314),(24,bV x335)],[(4,some (.box 48 (Z0d a0))),(5,some (.box 136 (Z7b b319)))],0⟩) fun x335 =>.cd (fun c336 =>.rg [] <| .ret [] [] [] ⟨[(4,iV .i64 32)],[],0⟩)
 (fun c336 =>.rg [] <| .cd (fun c337 =>.rg [] <| .ret [] [] [] ⟨[(4,iV .i64 21)],[],0⟩)
 (fun c337 =>.bd fun t340 e341 =>.rg [(4,hC [] [] [] [] Tryz.call125 (Z4m.ok a0.f1 b319.f0 t340 e341))] <| .cd (fun c342 =>.rg [] <| .ret [] [] [] ⟨[(4,iV .i64 31)],[],0⟩)
 (fun c342 =>.rg [] <| .back [(4,2)] [] [] rfl))))))
 (fun c315 =>.out [] [] []))
 (.sm (.rt (fun rr=>iV .i64 rr) (fun rr=>[]))
 (.st (.exit 0) (fun _=>⟨[],[],0⟩) fun _ =>.rg [] <| .ret [] [] [] ⟨[(4,iV .i64 0)],[],0⟩))))
def Z39.l0 (a0:List Int) (x384:Int) (x385:Int):Option ((Int×Int) ⊕ Int):=if(decide (x385<(a0.length:Int)))=true then((at? a0 x385)>>=fun b390=>(chk (0≤x384∧0≤b390∧0≤(0:Int)∧(0:Int)≤(1:Int)))>>=fun _=>if(((x384+b390+(0:Int)) / 18446744073709551616) != (0:Int))=true then(some (.inl (0,5))) else(Z39.l0 a0 ((x384+b390+(0:Int)) % 18446744073709551616) (i64.wrap (x385+(1:Int))))) else(some (.inr x384))
partial_fixpoint
def Z39.f (a0:List Int):Option (Int×Int):=(Z39.l0 a0 0 0)>>=fun oo=>match oo with | .inl rr=>(some rr) | .inr x396=>(some (x396,0))
theorem Z39.ok (a0:List Int) (r:Int×Int) (H:Z39.f a0=some r):Pv.Fn Tryz.prog 126 [.im (.row (a0.map (Z2 .u64)))] [] 0 (fun x o=>x = .tup [iV .u64 r.1,iV .i64 r.2]∧o=[]):=by
 unfold Z39.f at H
 exact HT.fn H (fun r =>.tup [iV .u64 r.1,iV .i64 r.2]) (fun r=>[]) [] Tryz.func126 rfl rfl hmx (.rg [] <| .rg [] <| .rg [(1,hG (Z2 .u64) a0)] <| .bl <| .loop (.c2 (Z39.l0.partial_correctness a0)) (0,0) [] [] [] (fun _ =>.pr fun x384 =>.one (fun x385=>⟨[(4,iV .u64 x384),(9,.im (.row (a0.map (Z2 .u64)))),(10,iV .i64 (a0.length:Int)),(11,iV .i64 x385)],[],0⟩) fun x385 =>.rg [] <| .cd (fun c386 =>.bl <| .el fun b390 p391 q392 =>.rg [(0,hA (Z2 .u64) p391 q392)] <| .ck fun c394 =>.rg [(2,⟨.ext (.tup [iV .u64 ((x384+b390+(0:Int)) % 18446744073709551616),iV .u64 ((x384+b390+(0:Int)) / 18446744073709551616)]),.c (p:=∀ w,(callFunc 164 ([.int .u64 x384,.int .u64 b390,.int .u64 (0:Int)]:List Value).toArray).run Tryz.prog w = .ok (.value (.tuple #[.int .u64 ((x384+b390+(0:Int)) % 18446744073709551616),.int .u64 ((x384+b390+(0:Int)) / 18446744073709551616)])) w) (fun w=>x_add64 (fn:=Tryz.f164) Tryz.func164 (by kernel_rfl) rfl (by kernel_rfl) (by kernel_rfl) c394 w) .n⟩)] <| .rg [] <| .cd (fun c395 =>.rg [] <| .ret [] [] [] ⟨[(2,iV .u64 0),(3,iV .i64 5)],[],0⟩)
 (fun c395 =>.rg [] <| .rg [] <| .back [] [] [] rfl))
 (fun c386 =>.out [] [] []))
 (.sm (.rt (fun rr =>.tup [iV .u64 rr.1,iV .i64 rr.2]) (fun rr=>[]))
 (.st (.exit 0) (fun x396=>⟨[(4,iV .u64 x396)],[],0⟩) fun x396 =>.rg [] <| .ret [] [] [] ⟨[(2,iV .u64 x396),(3,iV .i64 0)],[],0⟩)))
def Z1f.l1 (a0:List (List Z1)) (b423:List Z1) (x418:Int) (x438:Int) (x439:Int):Option ((Int×Int) ⊕ Int):=if(decide (x439<(b423.length:Int)))=true then((at? b423 x439)>>=fun b444=>(Z39.f [x438,b444.f1])>>=fun t449=>if(t449.2 != (0:Int))=true then(some (.inl (0,t449.2))) else(Z1f.l1 a0 b423 x418 t449.1 (i64.wrap (x439+(1:Int))))) else(some (.inr x438))
partial_fixpoint
def Z1f.l0 (a0:List (List Z1)) (x417:Int) (x418:Int):Option ((Int×Int) ⊕ Int):=if(decide (x418<(a0.length:Int)))=true then((at? a0 x418)>>=fun b423=>(Z1f.l1 a0 b423 x418 x417 0)>>=fun oo=>match oo with | .inl rr=>(some (.inl rr)) | .inr x452=>(Z1f.l0 a0 x452 (i64.wrap (x418+(1:Int))))) else(some (.inr x417))
partial_fixpoint
def Z1f.f (a0:List (List Z1)):Option (Int×Int):=(Z1f.l0 a0 0 0)>>=fun oo=>match oo with | .inl rr=>(some rr) | .inr x453=>(some (x453,0))
theorem Z1f.ok (a0:List (List Z1)) (r:Int×Int) (H:Z1f.f a0=some r):Pv.Fn Tryz.prog 95 [.im (.row (a0.map (Z1i Z0)))] [] 0 (fun x o=>x = .tup [iV .u64 r.1,iV .i64 r.2]∧o=[]):=by
 unfold Z1f.f at H
 exact HT.fn H (fun r =>.tup [iV .u64 r.1,iV .i64 r.2]) (fun r=>[]) [] Tryz.func95 rfl rfl hmx (.rg [] <| .rg [] <| .rg [(1,hG (Z1i Z0) a0)] <| .bl <| .loop (.c2 (Z1f.l0.partial_correctness a0)) (0,0) [] [] [] (fun _ =>.pr fun x417 =>.one (fun x418=>⟨[(4,iV .u64 x417),(10,.im (.row (a0.map (Z1i Z0)))),(11,iV .i64 (a0.length:Int)),(12,iV .i64 x418)],[],0⟩) fun x418 =>.rg [] <| .cd (fun c419 =>.bl <| .el fun b423 p424 q425 =>.rg [(0,hA (Z1i Z0) p424 q425)] <| .rg [(1,hG Z0 b423)] <| .bl <| .loop (.c2 (Z1f.l1.partial_correctness a0 b423 x418)) (x417,0) [] [] [] (fun _ =>.pr fun x438 =>.one (fun x439=>⟨[(4,iV .u64 x438),(10,.im (.row (a0.map (Z1i Z0)))),(11,iV .i64 (a0.length:Int)),(12,iV .i64 x418),(16,.im (.row (b423.map Z0))),(17,iV .i64 (b423.length:Int)),(18,iV .i64 x439)],[],0⟩) fun x439 =>.rg [] <| .cd (fun c440 =>.bl <| .el fun b444 p445 q446 =>.rg [(0,hA Z0 p445 q446),(2,⟨.k 6,.n⟩)] <| .rg [] <| .bd fun t449 e450 =>.rg [(3,hQ 7 (Z2 .u64) ([x438,b444.f1]:List Int)),(4,hC [] [] [7] [] Tryz.call126 (Z39.ok [x438,b444.f1] t449 e450))] <| .rg [] <| .cd (fun c451 =>.rg [] <| .ret [] [] [] ⟨[(2,iV .u64 0),(3,iV .i64 t449.2)],[],0⟩)
 (fun c451 =>.rg [] <| .back [] [] [] rfl))
 (fun c440 =>.out [] [] []))
 (.sm (.rt (fun rr =>.tup [iV .u64 rr.1,iV .i64 rr.2]) (fun rr=>[]))
 (.st (.exit 2) (fun x452=>⟨[(4,iV .u64 x452),(10,.im (.row (a0.map (Z1i Z0)))),(11,iV .i64 (a0.length:Int)),(12,iV .i64 x418)],[],0⟩) fun x452 =>.rg [] <| .back [] [] [] rfl)))
 (fun c419 =>.out [] [] []))
 (.sm (.rt (fun rr =>.tup [iV .u64 rr.1,iV .i64 rr.2]) (fun rr=>[]))
 (.st (.exit 0) (fun x453=>⟨[(4,iV .u64 x453)],[],0⟩) fun x453 =>.rg [] <| .ret [] [] [] ⟨[(2,iV .u64 x453),(3,iV .i64 0)],[],0⟩)))
def Z0f.l0 (a0:Zk) (x348:Int):Option (Int ⊕ Unit):=if(decide (x348<(2:Int)))=true then((((chk (0≤x348∧x348<(2:Int)))>>=fun _=>if(x348==(0:Int))=true then(some a0.f6) else(some a0.f7)):Option (List Z1))>>=fun x354=>(Z01.f a0 x354)>>=fun t357=>if(t357 != (0:Int))=true then(some (.inl t357)) else(Z0f.l0 a0 (i64.wrap (x348+(1:Int))))) else(some (.inr ()))
partial_fixpoint
def Z0f.f (a0:Zk):Option (Int):=((if(a0.f0 != (0:Int))=true then(some (a0.f0 != (1:Int))) else(some false)):Option (Bool))>>=fun x232=>if x232=true then(some 25) else((Z0n.f a0.f1)>>=fun t239=>if(!t239)=true then(some 20) else(((if(a0.f2 != (-524288))=true then(if(decide (a0.f2≤(-262144)))=true then(some true) else(some (decide (a0.f2>(262144:Int))))) else(some false)):Option (Bool))>>=fun x246=>if x246=true then(some 31) else((Z0f.l0 a0 0)>>=fun oo=>match oo with | .inl rr=>(some rr) | .inr _=>((Z1f.f [a0.f6,a0.f7,[(⟨0,a0.f3⟩:Z1)]])>>=fun t456=>if(t456.2 != (0:Int))=true then(some t456.2) else(if(t456.1 != a0.f4)=true then(some 21) else(some 0))))))
theorem Z0f.ok (a0:Zk) (r:Int) (H:Z0f.f a0=some r):Pv.Fn Tryz.prog 57 [.agg (Z0d a0)] [] 0 (fun x o=>x=iV .i64 r∧o=[]):=by
 unfold Z0f.f at H
 exact HT.fn H (fun r=>iV .i64 r) (fun r=>[]) [] Tryz.func57 rfl rfl hmx (.rg [(0,⟨.k 0,.n⟩)] <| .bl <| .join (.sp (fun c231 =>.rg [(3,hB c231)] <| .out [(0,1)] [] [])
 (fun c231 =>.rg [(3,hB c231)] <| .out [(0,1)] [] []))
 (.st .normal (fun x232=>⟨[(1,.ptr 1 0 0),(8,bV x232)],[(1,some (.box 48 (Z0d a0)))],0⟩) fun x232 =>.cd (fun c233 =>.rg [] <| .ret [] [] [] ⟨[(2,iV .i64 25)],[],0⟩)
 (fun c233 =>.bd fun t239 e240 =>.rg [(2,hC [] [] [] [] Tryz.call93 (Z0n.ok a0.f1 t239 e240))] <| .cd (fun c241 =>.rg [] <| .ret [] [] [] ⟨[(2,iV .i64 20)],[],0⟩)
 (fun c241 =>.join (.sp (fun c244 =>.sp (fun c245 =>.rg [(3,hB c244),(7,hB c245)] <| .out [(1,2)] [] [])
 (fun c245 =>.rg [(3,hB c244),(7,hB c245)] <| .out [(1,2)] [] []))
 (fun c244 =>.rg [(3,hB c244)] <| .out [(1,2)] [] []))
 (.st .normal (fun x246=>⟨[(1,.ptr 2 0 0),(22,bV x246)],[(2,some (.box 48 (Z0d a0)))],0⟩) fun x246 =>.cd (fun c247 =>.rg [] <| .ret [] [] [] ⟨[(2,iV .i64 31)],[],0⟩)
 (fun c247 =>.rg [] <| .bl <| .loop (.one (Z0f.l0.partial_correctness a0)) 0 [(2,3)] [] [] (fun _ =>.one (fun x348=>⟨[(1,.ptr 3 0 0),(40,.agg [.im (.row (a0.f6.map Z0)),.im (.row (a0.f7.map Z0))]),(41,iV .i64 x348)],[(3,some (.box 48 (Z0d a0)))],0⟩) fun x348 =>.rg [] <| .cd (fun c349 =>.bl <| .join (.ck fun c352 =>.sp (fun c353 =>.rg [(0,⟨.more (xIdx 0),.c (p:=x348=((0:Nat):Int)) ((by simpa using c353)) .n⟩)] <| .out [(3,4)] [] [])
 (fun c353 =>.rg [(0,⟨.more (xIdx 1),.c (p:=x348=((1:Nat):Int)) (by have:=c352;simp only[beq_eq_false_iff_ne] at *;omega) .n⟩)] <| .out [(3,4)] [] []))
 (.st .normal (fun x354=>⟨[(1,.ptr 4 0 0),(4,.im (.row (x354.map Z0))),(40,.agg [.im (.row (a0.f6.map Z0)),.im (.row (a0.f7.map Z0))]),(41,iV .i64 x348)],[(4,some (.box 48 (Z0d a0)))],0⟩) fun x354 =>.bd fun t357 e358 =>.rg [(2,hC [] [] [] [] Tryz.call94 (Z01.ok a0 x354 t357 e358))] <| .rg [] <| .cd (fun c359 =>.rg [] <| .ret [] [] [] ⟨[(2,iV .i64 t357)],[],0⟩)
 (fun c359 =>.rg [] <| .back [(4,3)] [] [] rfl)))
 (fun c349 =>.out [(3,5)] [] []))
 (.sm (.rt (fun rr=>iV .i64 rr) (fun rr=>[]))
 (.st (.exit 1) (fun _=>⟨[(1,.ptr 5 0 0)],[(5,some (.box 48 (Z0d a0)))],0⟩) fun _ =>.bd fun t456 e457 =>.rg [(7,fzI (hQ 6 Z0 ([(⟨0,a0.f3⟩:Z1)]:List Z1))),(8,hQ 7 (Z1i Z0) ([a0.f6,a0.f7,[(⟨0,a0.f3⟩:Z1)]]:List (List Z1))),(9,hC [] [] [7] [] Tryz.call95 (Z1f.ok [a0.f6,a0.f7,[(⟨0,a0.f3⟩:Z1)]] t456 e457))] <| .bl <| .rg [] <| .cd (fun c458 =>.rg [] <| .ret [] [] [] ⟨[(2,iV .i64 t456.2)],[],0⟩)
 (fun c458 =>.rg [] <| .cd (fun c459 =>.rg [] <| .ret [] [] [] ⟨[(2,iV .i64 21)],[],0⟩)
 (fun c459 =>.rg [] <| .ret [] [] [] ⟨[(2,iV .i64 0)],[],0⟩))))))))))
def Z1n.l0 (a0:List Za) (x470:Int):Option (Bool ⊕ Unit):=if(decide (x470<(a0.length:Int)))=true then((at? a0 x470)>>=fun b475=>((if(decide (b475.f0<(0:Int)))=true then(some true) else(if(decide (b475.f0>(1099511627776:Int)))=true then(some true) else((Z0f.f b475.f1)>>=fun t489=>if(t489 != (0:Int))=true then(some true) else(if(decide (x470>(0:Int)))=true then((at? a0 (i64.wrap (x470-(1:Int))))>>=fun b493=>some (decide (b493.f0≥b475.f0))) else(some false))))):Option (Bool))>>=fun x496=>if x496=true then(some (.inl false)) else(Z1n.l0 a0 (i64.wrap (x470+(1:Int))))) else(some (.inr ()))
partial_fixpoint
def Z1n.f (a0:List Za):Option (Bool):=(Z1n.l0 a0 0)>>=fun oo=>match oo with | .inl rr=>(some rr) | .inr _=>(some true)
theorem Z1n.ok (a0:List Za) (r:Bool) (H:Z1n.f a0=some r):Pv.Fn Tryz.prog 18 [.im (.row (a0.map Z7))] [] 0 (fun x o=>x=bV r∧o=[]):=by
 unfold Z1n.f at H
 exact HT.fn H (fun r=>bV r) (fun r=>[]) [] Tryz.func18 rfl rfl hmx (.rg [] <| .rg [(1,hG Z7 a0)] <| .bl <| .loop (.one (Z1n.l0.partial_correctness a0)) 0 [] [] [] (fun _ =>.one (fun x470=>⟨[(0,.im (.row (a0.map Z7))),(5,.im (.row (a0.map Z7))),(6,iV .i64 (a0.length:Int)),(7,iV .i64 x470)],[],0⟩) fun x470 =>.rg [] <| .cd (fun c471 =>.bl <| .el fun b475 p476 q477 =>.rg [(1,hA Z7 p476 q477),(3,⟨.k 1,.n⟩)] <| .join (.sp (fun c487 =>.rg [(3,hB c487)] <| .out [] [] [])
 (fun c487 =>.sp (fun c488 =>.rg [(3,hB c487),(8,hB c488)] <| .out [] [] [])
 (fun c488 =>.bd fun t489 e490 =>.sp (fun c491 =>.rg [(3,hB c487),(8,hB c488),(11,hC [] [] [] [] Tryz.call57 (Z0f.ok b475.f1 t489 e490)),(14,hB c491)] <| .out [] [] [])
 (fun c491 =>.sp (fun c492 =>.el fun b493 p494 q495 =>.rg [(3,hB c487),(8,hB c488),(11,hC [] [] [] [] Tryz.call57 (Z0f.ok b475.f1 t489 e490)),(14,hB c491),(17,hB c492),(21,hA Z7 p494 q495)] <| .out [] [] [])
 (fun c492 =>.rg [(3,hB c487),(8,hB c488),(11,hC [] [] [] [] Tryz.call57 (Z0f.ok b475.f1 t489 e490)),(14,hB c491),(17,hB c492)] <| .out [] [] [])))))
 (.st .normal (fun x496=>⟨[(0,.im (.row (a0.map Z7))),(5,.im (.row (a0.map Z7))),(6,iV .i64 (a0.length:Int)),(7,iV .i64 x470),(40,bV x496)],[],0⟩) fun x496 =>.cd (fun c497 =>.rg [] <| .ret [] [] [] ⟨[(2,bV false)],[],0⟩)
 (fun c497 =>.rg [] <| .back [] [] [] rfl)))
 (fun c471 =>.out [] [] []))
 (.sm (.rt (fun rr=>bV rr) (fun rr=>[]))
 (.st (.exit 0) (fun _=>⟨[],[],0⟩) fun _ =>.rg [] <| .ret [] [] [] ⟨[(2,bV true)],[],0⟩)))
def Z31.f (a0:Z8):Option (Bool):=((if(decide (a0.f0≥(0:Int)))=true then(if(decide (a0.f0≤a0.f1))=true then(some (decide (a0.f1≤(1099511627776:Int)))) else(some false)) else(some false)):Option (Bool))>>=fun x549=>some x549
theorem Z31.ok (a0:Z8) (r:Bool) (H:Z31.f a0=some r):Pv.Fn Tryz.prog 40 [.agg [iV .i64 a0.f0,iV .i64 a0.f1]] [] 0 (fun x o=>x=bV r∧o=[]):=by
 unfold Z31.f at H
 exact HT.fn H (fun r=>bV r) (fun r=>[]) [] Tryz.func40 rfl rfl hmx (.rg [(0,⟨.k 0,.n⟩)] <| .join (.sp (fun c547 =>.sp (fun c548 =>.rg [(3,hB c547),(10,hB c548)] <| .out [] [] [])
 (fun c548 =>.rg [(3,hB c547),(10,hB c548)] <| .out [] [] []))
 (fun c547 =>.rg [(3,hB c547)] <| .out [] [] []))
 (.st .normal (fun x549=>⟨[(2,bV x549)],[],0⟩) fun x549 =>.ret [] [] [] ⟨[(2,bV x549)],[],0⟩))
def Z0m.l0 (a0:Zi) (x507:Int):Option (Bool ⊕ Unit):=if(decide (x507<(a0.f1.length:Int)))=true then((at? a0.f1 x507)>>=fun b512=>(((Z3h.f b512.f0)>>=fun t520=>if(!t520)=true then(some true) else((Z1n.f [(⟨b512.f1,b512.f2⟩:Za)])>>=fun t523=>some (!t523))):Option (Bool))>>=fun x525=>if x525=true then(some (.inl false)) else(Z0m.l0 a0 (i64.wrap (x507+(1:Int))))) else(some (.inr ()))
partial_fixpoint
def Z0m.l1 (a0:Zi) (x561:Int):Option (Bool ⊕ Unit):=if(decide (x561<(a0.f2.length:Int)))=true then((at? a0.f2 x561)>>=fun b566=>(((Z3h.f b566.f0)>>=fun t579=>if(!t579)=true then(some true) else((Z31.f b566.f1)>>=fun t582=>if(!t582)=true then(some true) else(if(decide (x561>(0:Int)))=true then((at? a0.f2 (i64.wrap (x561-(1:Int))))>>=fun b586=>some (!Op.bytesLess b586.f0.toList b566.f0.toList)) else(some false)))):Option (Bool))>>=fun x589=>if x589=true then(some (.inl false)) else(Z0m.l1 a0 (i64.wrap (x561+(1:Int))))) else(some (.inr ()))
partial_fixpoint
def Z0m.f (a0:Zi):Option (Bool):=if(a0.f0==(1:Int))=true then((Z0m.l0 a0 0)>>=fun oo=>match oo with | .inl rr=>(some rr) | .inr _=>(((if(decide ((a0.f1.length:Int)>(0:Int)))=true then(if(decide ((a0.f1.length:Int)≤(64:Int)))=true then(if((a0.f2.length:Int)==(0:Int))=true then(some (a0.f3==(0:Int))) else(some false)) else(some false)) else(some false)):Option (Bool))>>=fun x533=>some x533)) else(if(a0.f0==(2:Int))=true then((Z0m.l1 a0 0)>>=fun oo=>match oo with | .inl rr=>(some rr) | .inr _=>(((if(decide ((a0.f2.length:Int)≤(64:Int)))=true then(if((a0.f1.length:Int)==(0:Int))=true then(some (a0.f3==(0:Int))) else(some false)) else(some false)):Option (Bool))>>=fun x595=>some x595)) else(if(a0.f0==(3:Int))=true then(((if(decide (a0.f3≥(0:Int)))=true then(if(decide (a0.f3≤(1099511627776:Int)))=true then(some ((i64.wrap ((a0.f1.length:Int)+(a0.f2.length:Int)))==(0:Int))) else(some false)) else(some false)):Option (Bool))>>=fun x601=>some x601) else(some false)))
theorem Z0m.ok (a0:Zi) (r:Bool) (H:Z0m.f a0=some r):Pv.Fn Tryz.prog 13 [.agg (Z2t a0)] [] 0 (fun x o=>x=bV r∧o=[]):=by
 unfold Z0m.f at H
 exact HT.fn H (fun r=>bV r) (fun r=>[]) [] Tryz.func13 rfl rfl hmx (.rg [(0,⟨.k 0,.n⟩)] <| .rg [] <| .bl <| .rg [] <| .cd (fun c40 =>.rg [(2,hG Zh a0.f1)] <| .bl <| .loop (.one (Z0m.l0.partial_correctness a0)) 0 [(0,4)] [] [] (fun _ =>.one (fun x507=>⟨[(1,.ptr 4 0 0),(12,.im (.row (a0.f1.map Zh))),(13,iV .i64 (a0.f1.length:Int)),(14,iV .i64 x507)],[(4,some (.box 35 (Z2t a0)))],0⟩) fun x507 =>.rg [] <| .cd (fun c508 =>.bl <| .el fun b512 p513 q514 =>.rg [(0,hA Zh p513 q514),(2,⟨.k 5,.n⟩)] <| .join (.bd fun t520 e521 =>.sp (fun c522 =>.rg [(2,hC [] [] [] [] Tryz.call39 (Z3h.ok b512.f0 t520 e521)),(4,hB c522)] <| .out [(4,7)] [] [])
 (fun c522 =>.bd fun t523 e524 =>.rg [(2,hC [] [] [] [] Tryz.call39 (Z3h.ok b512.f0 t520 e521)),(4,hB c522),(10,hQ 6 Z7 ([(⟨b512.f1,b512.f2⟩:Za)]:List Za)),(11,hC [] [] [6] [] Tryz.call18 (Z1n.ok [(⟨b512.f1,b512.f2⟩:Za)] t523 e524))] <| .out [(4,7)] [] []))
 (.st .normal (fun x525=>⟨[(1,.ptr 7 0 0),(12,.im (.row (a0.f1.map Zh))),(13,iV .i64 (a0.f1.length:Int)),(14,iV .i64 x507),(31,bV x525)],[(7,some (.box 35 (Z2t a0)))],0⟩) fun x525 =>.cd (fun c526 =>.rg [] <| .ret [] [] [] ⟨[(2,bV false)],[],0⟩)
 (fun c526 =>.rg [] <| .back [(7,4)] [] [] rfl)))
 (fun c508 =>.out [(4,8)] [] []))
 (.sm (.rt (fun rr=>bV rr) (fun rr=>[]))
 (.st (.exit 1) (fun _=>⟨[(1,.ptr 8 0 0)],[(8,some (.box 35 (Z2t a0)))],0⟩) fun _ =>.join (.sp (fun c530 =>.sp (fun c531 =>.sp (fun c532 =>.rg [(2,hG Zh a0.f1),(4,hB c530),(7,hG Zh a0.f1),(10,hB c531),(13,hG Z0j a0.f2),(16,hB c532)] <| .out [] [] [])
 (fun c532 =>.rg [(2,hG Zh a0.f1),(4,hB c530),(7,hG Zh a0.f1),(10,hB c531),(13,hG Z0j a0.f2),(16,hB c532)] <| .out [] [] []))
 (fun c531 =>.rg [(2,hG Zh a0.f1),(4,hB c530),(7,hG Zh a0.f1),(10,hB c531)] <| .out [] [] []))
 (fun c530 =>.rg [(2,hG Zh a0.f1),(4,hB c530)] <| .out [] [] []))
 (.st .normal (fun x533=>⟨[(2,bV x533)],[],0⟩) fun x533 =>.ret [] [] [] ⟨[(2,bV x533)],[],0⟩))))
 (fun c40 =>.rg [] <| .cd (fun c534 =>.rg [(2,hG Z0j a0.f2)] <| .bl <| .loop (.one (Z0m.l1.partial_correctness a0)) 0 [(0,11)] [] [] (fun _ =>.one (fun x561=>⟨[(1,.ptr 11 0 0),(57,.im (.row (a0.f2.map Z0j))),(58,iV .i64 (a0.f2.length:Int)),(59,iV .i64 x561)],[(11,some (.box 35 (Z2t a0)))],0⟩) fun x561 =>.rg [] <| .cd (fun c562 =>.bl <| .el fun b566 p567 q568 =>.rg [(1,hA Z0j p567 q568),(3,⟨.k 12,.n⟩)] <| .join (.bd fun t579 e580 =>.sp (fun c581 =>.rg [(2,hC [] [] [] [] Tryz.call39 (Z3h.ok b566.f0 t579 e580)),(4,hB c581)] <| .out [(11,13)] [] [])
 (fun c581 =>.bd fun t582 e583 =>.sp (fun c584 =>.rg [(2,hC [] [] [] [] Tryz.call39 (Z3h.ok b566.f0 t579 e580)),(4,hB c581),(7,hC [] [] [] [] Tryz.call40 (Z31.ok b566.f1 t582 e583)),(10,hB c584)] <| .out [(11,13)] [] [])
 (fun c584 =>.sp (fun c585 =>.el fun b586 p587 q588 =>.rg [(2,hC [] [] [] [] Tryz.call39 (Z3h.ok b566.f0 t579 e580)),(4,hB c581),(7,hC [] [] [] [] Tryz.call40 (Z31.ok b566.f1 t582 e583)),(10,hB c584),(13,hB c585),(18,hA Z0j p587 q588)] <| .out [(11,13)] [] [])
 (fun c585 =>.rg [(2,hC [] [] [] [] Tryz.call39 (Z3h.ok b566.f0 t579 e580)),(4,hB c581),(7,hC [] [] [] [] Tryz.call40 (Z31.ok b566.f1 t582 e583)),(10,hB c584),(13,hB c585)] <| .out [(11,13)] [] []))))
 (.st .normal (fun x589=>⟨[(1,.ptr 13 0 0),(57,.im (.row (a0.f2.map Z0j))),(58,iV .i64 (a0.f2.length:Int)),(59,iV .i64 x561),(89,bV x589)],[(13,some (.box 35 (Z2t a0)))],0⟩) fun x589 =>.cd (fun c590 =>.rg [] <| .ret [] [] [] ⟨[(2,bV false)],[],0⟩)
 (fun c590 =>.rg [] <| .back [(13,11)] [] [] rfl)))
 (fun c562 =>.out [(11,14)] [] []))
 (.sm (.rt (fun rr=>bV rr) (fun rr=>[]))
 (.st (.exit 3) (fun _=>⟨[(1,.ptr 14 0 0)],[(14,some (.box 35 (Z2t a0)))],0⟩) fun _ =>.join (.sp (fun c593 =>.sp (fun c594 =>.rg [(2,hG Z0j a0.f2),(4,hB c593),(7,hG Zh a0.f1),(10,hB c594)] <| .out [] [] [])
 (fun c594 =>.rg [(2,hG Z0j a0.f2),(4,hB c593),(7,hG Zh a0.f1),(10,hB c594)] <| .out [] [] []))
 (fun c593 =>.rg [(2,hG Z0j a0.f2),(4,hB c593)] <| .out [] [] []))
 (.st .normal (fun x595=>⟨[(2,bV x595)],[],0⟩) fun x595 =>.ret [] [] [] ⟨[(2,bV x595)],[],0⟩))))
 (fun c534 =>.rg [] <| .cd (fun c596 =>.join (.sp (fun c599 =>.sp (fun c600 =>.rg [(3,hB c599),(8,hB c600),(11,hG Zh a0.f1),(14,hG Z0j a0.f2)] <| .out [] [] [])
 (fun c600 =>.rg [(3,hB c599),(8,hB c600)] <| .out [] [] []))
 (fun c599 =>.rg [(3,hB c599)] <| .out [] [] []))
 (.st .normal (fun x601=>⟨[(2,bV x601)],[],0⟩) fun x601 =>.ret [] [] [] ⟨[(2,bV x601)],[],0⟩))
 (fun c596 =>.rg [] <| .ret [] [] [] ⟨[(2,bV false)],[],0⟩))))
def Z34.f (a0_c1:Int) (a1:Bool):Option ((List Int)×Int):=((if(a0_c1==(0:Int))=true then((chk ((([]:List Int).length+[0].length)*1≤140737488355328))>>=fun _=>some ([0],8)) else(some ([],a0_c1))):Option ((List Int)×Int))>>=fun oo=>match oo with | (x612,x613)=>(((if a1=true then((at? x612 (i64.wrap ((x612.length:Int)-(1:Int))))>>=fun b619=>(chk (0≤(u64.wrap (x613-(1:Int)))))>>=fun _=>some (x612.set (Int.toNat (i64.wrap ((x612.length:Int)-(1:Int)))) (u8.wrap (((BitVec.toNat (BitVec.ofInt 8 b619 ||| BitVec.ofInt 8 (u8.wrap ((1:Int)*2 ^ (min (Int.toNat (u64.wrap (x613-(1:Int)))) 8)))):Nat):Int))))) else(some x612)):Option (List Int))>>=fun x623=>some (x623,u64.wrap (x613-(1:Int))))
theorem Z34.ok (a0_c1:Int) (a1:Bool) (r:(List Int)×Int) (H:Z34.f a0_c1 a1=some r):Pv.Fn Tryz.prog 68 [.ptr 0 0 0,bV a1] [(0,some (.box 86 [.none0,iV .u64 a0_c1]))] 1 (fun x o=>x = .tup []∧o=[(0,some (.box 86 [.own 1,iV .u64 r.2])),(1,some (.row 1 5 (r.1.map (Z2 .u8))))]):=by
 unfold Z34.f at H
 exact HT.fn H (fun r =>.tup []) (fun r=>[(0,some (.box 86 [.own 1,iV .u64 r.2])),(1,some (.row 1 5 (r.1.map (Z2 .u8))))]) [0,1] Tryz.func68 rfl rfl hmx (.rg [] <| .join (.cd (fun c609 =>.ck fun c611 =>.rg [(5,hQ 1 (Z2 .u8) ([0]:List Int)),(6,⟨.app 2 ([0].map (Z2 .u8)),.c (p:=[0].map (Z2 .u8)=([]:List (List Im))++([0].map (Z2 .u8))) (by simp) (.c (p:=∀ c∈([0].map (Z2 .u8)),c.length=1) (Z4n _ _ _ (fun _=>rfl)) (.c (p:=∀ c∈([0].map (Z2 .u8)),Z2o (c.map .im)=true) (Z42 _ _ (fun _=>rfl)) (.c (p:=(([]:List (List Im)).length+([0].map (Z2 .u8)).length)*1≤140737488355328) (by simpa using c611) .n)))⟩)] <| .rg [] <| .out [(0,0),(2,3)] [] [])
 (fun c609 =>.out [(0,0)] [] [3]))
 (.pr fun x612 =>.st .normal (fun x613=>⟨[(0,.ptr 0 0 0),(1,bV a1)],[(0,some (.box 86 [.own 3,iV .u64 x613])),(3,some (.row 1 5 (x612.map (Z2 .u8))))],1⟩) fun x613 =>.rg [] <| .rg [] <| .join (.cd (fun c614 =>.el fun b619 p620 q621 =>.ck fun c622 =>.rg [(8,hG (Z2 .u8) x612),(10,hX (Z2 .u8) p620 q621),(11,hL (Z2 .u8) q621),(16,hN (p1 c622)),(18,hX (Z2 .u8) p620 q621),(19,hS (Z2 .u8) (u8.wrap (((BitVec.toNat (BitVec.ofInt 8 b619 ||| BitVec.ofInt 8 (u8.wrap ((1:Int)*2 ^ (min (Int.toNat (u64.wrap (x613-(1:Int)))) 8)))):Nat):Int))) 0 [iI .u8 (u8.wrap (((BitVec.toNat (BitVec.ofInt 8 b619 ||| BitVec.ofInt 8 (u8.wrap ((1:Int)*2 ^ (min (Int.toNat (u64.wrap (x613-(1:Int)))) 8)))):Nat):Int)))] q621)] <| .out [(0,0),(3,4)] [] [])
 (fun c614 =>.out [(0,0),(3,4)] [] []))
 (.st .normal (fun x623=>⟨[],[(0,some (.box 86 [.own 4,iV .u64 (u64.wrap (x613-(1:Int)))])),(4,some (.row 1 5 (x623.map (Z2 .u8))))],1⟩) fun x623 =>.ret [(0,0),(4,1)] [] [] ⟨[],[(0,some (.box 86 [.own 1,iV .u64 (u64.wrap (x613-(1:Int)))])),(1,some (.row 1 5 (x623.map (Z2 .u8))))],1⟩)))
def Z0h.f (a0_c0:List Int) (a0_c1:Int) (a1:Bool):Option ((List Int)×Int):=((if(a0_c1==(0:Int))=true then((chk ((a0_c0.length+[0].length)*1≤140737488355328))>>=fun _=>some (a0_c0++[0],8)) else(some (a0_c0,a0_c1))):Option ((List Int)×Int))>>=fun oo=>match oo with | (x637,x638)=>(((if a1=true then((at? x637 (i64.wrap ((x637.length:Int)-(1:Int))))>>=fun b644=>(chk (0≤(u64.wrap (x638-(1:Int)))))>>=fun _=>some (x637.set (Int.toNat (i64.wrap ((x637.length:Int)-(1:Int)))) (u8.wrap (((BitVec.toNat (BitVec.ofInt 8 b644 ||| BitVec.ofInt 8 (u8.wrap ((1:Int)*2 ^ (min (Int.toNat (u64.wrap (x638-(1:Int)))) 8)))):Nat):Int))))) else(some x637)):Option (List Int))>>=fun x648=>some (x648,u64.wrap (x638-(1:Int))))
theorem Z0h.ok (a0_c0:List Int) (a0_c1:Int) (a1:Bool) (r:(List Int)×Int) (H:Z0h.f a0_c0 a0_c1 a1=some r):Pv.Fn Tryz.prog 68 [.ptr 0 0 0,bV a1] [(0,some (.box 86 [.own 1,iV .u64 a0_c1])),(1,some (.row 1 5 (a0_c0.map (Z2 .u8))))] 2 (fun x o=>x = .tup []∧o=[(0,some (.box 86 [.own 2,iV .u64 r.2])),(1,none),(2,some (.row 1 5 (r.1.map (Z2 .u8))))]):=by
 unfold Z0h.f at H
 exact HT.fn H (fun r =>.tup []) (fun r=>[(0,some (.box 86 [.own 2,iV .u64 r.2])),(1,none),(2,some (.row 1 5 (r.1.map (Z2 .u8))))]) [0,1,2] Tryz.func68 rfl rfl hmx (.rg [] <| .join (.cd (fun c634 =>.ck fun c636 =>.rg [(5,hQ 2 (Z2 .u8) ([0]:List Int)),(6,⟨.app 3 ((a0_c0++[0]).map (Z2 .u8)),.c (p:=(a0_c0++[0]).map (Z2 .u8)=(a0_c0.map (Z2 .u8))++([0].map (Z2 .u8))) (by simp) (.c (p:=∀ c∈([0].map (Z2 .u8)),c.length=1) (Z4n _ _ _ (fun _=>rfl)) (.c (p:=∀ c∈([0].map (Z2 .u8)),Z2o (c.map .im)=true) (Z42 _ _ (fun _=>rfl)) (.c (p:=((a0_c0.map (Z2 .u8)).length+([0].map (Z2 .u8)).length)*1≤140737488355328) (by simpa using c636) .n)))⟩)] <| .rg [] <| .out [(0,0),(3,4)] [] [])
 (fun c634 =>.out [(0,0),(1,4)] [] []))
 (.pr fun x637 =>.st .normal (fun x638=>⟨[(0,.ptr 0 0 0),(1,bV a1)],[(0,some (.box 86 [.own 4,iV .u64 x638])),(4,some (.row 1 5 (x637.map (Z2 .u8))))],2⟩) fun x638 =>.rg [] <| .rg [] <| .join (.cd (fun c639 =>.el fun b644 p645 q646 =>.ck fun c647 =>.rg [(8,hG (Z2 .u8) x637),(10,hX (Z2 .u8) p645 q646),(11,hL (Z2 .u8) q646),(16,hN (p1 c647)),(18,hX (Z2 .u8) p645 q646),(19,hS (Z2 .u8) (u8.wrap (((BitVec.toNat (BitVec.ofInt 8 b644 ||| BitVec.ofInt 8 (u8.wrap ((1:Int)*2 ^ (min (Int.toNat (u64.wrap (x638-(1:Int)))) 8)))):Nat):Int))) 0 [iI .u8 (u8.wrap (((BitVec.toNat (BitVec.ofInt 8 b644 ||| BitVec.ofInt 8 (u8.wrap ((1:Int)*2 ^ (min (Int.toNat (u64.wrap (x638-(1:Int)))) 8)))):Nat):Int)))] q646)] <| .out [(0,0),(4,5)] [] [])
 (fun c639 =>.out [(0,0),(4,5)] [] []))
 (.st .normal (fun x648=>⟨[],[(0,some (.box 86 [.own 5,iV .u64 (u64.wrap (x638-(1:Int)))])),(5,some (.row 1 5 (x648.map (Z2 .u8))))],2⟩) fun x648 =>.ret [(0,0),(5,2)] [] [] ⟨[],[(0,some (.box 86 [.own 2,iV .u64 (u64.wrap (x638-(1:Int)))])),(2,some (.row 1 5 (x648.map (Z2 .u8))))],2⟩)))
def Z1p.l0 (a1:Int) (x629:List Int) (x630:Int) (x631:Int):Option ((List Int)×Int):=if(decide (x631≥(0:Int)))=true then((chk (0≤(u64.wrap (x631))))>>=fun _=>(Z0h.f x629 x630 ((u64.wrap (((BitVec.toNat (BitVec.ofInt 64 (Int.fdiv a1 (2 ^ (min (Int.toNat (u64.wrap (x631))) 64))) &&& BitVec.ofInt 64 (1:Int)):Nat):Int)))==(1:Int)))>>=fun t652=>Z1p.l0 a1 t652.1 t652.2 (i64.wrap (x631-(1:Int)))) else(some (x629,x630))
partial_fixpoint
def Z1p.f (a0_c1:Int) (a1:Int) (a2:Int):Option ((List Int)×Int):=(Z1p.l0 a1 [] a0_c1 (i64.wrap ((if(if(64:Int)<a2 then(64:Int) else a2)>(0:Int) then(if(64:Int)<a2 then(64:Int) else a2) else(0:Int))-(1:Int))))>>=fun oo=>match oo with | (x654,x655)=>(some (x654,x655))
theorem Z1p.ok (a0_c1:Int) (a1:Int) (a2:Int) (r:(List Int)×Int) (H:Z1p.f a0_c1 a1 a2=some r):Pv.Fn Tryz.prog 32 [.ptr 0 0 0,iV .u64 a1,iV .i64 a2] [(0,some (.box 86 [.none0,iV .u64 a0_c1]))] 1 (fun x o=>x = .tup []∧o=[(0,some (.box 86 [.own 1,iV .u64 r.2])),(1,some (.row 1 5 (r.1.map (Z2 .u8))))]):=by
 unfold Z1p.f at H
 exact HT.fn H (fun r =>.tup []) (fun r=>[(0,some (.box 86 [.own 1,iV .u64 r.2])),(1,some (.row 1 5 (r.1.map (Z2 .u8))))]) [0,1] Tryz.func32 rfl rfl hmx (.rg [(1,⟨.more xMin,.n⟩),(2,⟨.more xMax,.n⟩)] <| .bl <| .loop (.c3 (Z1p.l0.partial_correctness a1)) ([],a0_c1,i64.wrap ((if(if(64:Int)<a2 then(64:Int) else a2)>(0:Int) then(if(64:Int)<a2 then(64:Int) else a2) else(0:Int))-(1:Int))) [(0,0)] [] [2] (fun _ =>.pr fun x629 =>.pr fun x630 =>.one (fun x631=>⟨[(0,.ptr 0 0 0),(1,iV .u64 a1),(6,iV .i64 x631)],[(0,some (.box 86 [.own 2,iV .u64 x630])),(2,some (.row 1 5 (x629.map (Z2 .u8))))],1⟩) fun x631 =>.rg [] <| .cd (fun c632 =>.bl <| .ck fun c651 =>.bd fun t652 e653 =>.rg [(4,hN (p1 c651)),(7,hC [(0,0),(2,1)] [(0,0),(2,3)] [] [3] Tryz.call68 (Z0h.ok x629 x630 ((u64.wrap (((BitVec.toNat (BitVec.ofInt 64 (Int.fdiv a1 (2 ^ (min (Int.toNat (u64.wrap (x631))) 64))) &&& BitVec.ofInt 64 (1:Int)):Nat):Int)))==(1:Int)) t652 e653))] <| .rg [] <| .back [(0,0),(3,2)] [] [] rfl)
 (fun c632 =>.out [(0,0),(2,4)] [] []))
 (.pr fun x654 =>.st (.exit 0) (fun x655=>⟨[],[(0,some (.box 86 [.own 4,iV .u64 x655])),(4,some (.row 1 5 (x654.map (Z2 .u8))))],1⟩) fun x655 =>.ret [(0,0),(4,1)] [] [] ⟨[],[(0,some (.box 86 [.own 1,iV .u64 x655])),(1,some (.row 1 5 (x654.map (Z2 .u8))))],1⟩))
def Z3n.f  : Option (List Int):=some [0,3,7,12,20,32,64]
theorem Z3n.ok  (r:List Int) (H:Z3n.f  = some r):Pv.Fn Tryz.prog 69 [] [] 0 (fun x o=>x = .own 0∧o=[(0,some (.row 1 3 (r.map (Z2 .i64))))]):=by
 unfold Z3n.f at H
 exact HT.fn H (fun r =>.own 0) (fun r=>[(0,some (.row 1 3 (r.map (Z2 .i64))))]) [0] Tryz.func69 rfl rfl hmx (.rg [] <| .rg [(0,hQ 0 (Z2 .i64) ([0,3,7,12,20,32,64]:List Int))] <| .ret [(0,0)] [] [] ⟨[(0,.own 0)],[(0,some (.row 1 3 ([0,3,7,12,20,32,64].map (Z2 .i64))))],0⟩)
def Z2i.l0 (x666:Int) (x667:Int):Option (Int):=if(decide (x666>(0:Int)))=true then(Z2i.l0  (Int.fdiv x666 2) (i64.wrap (x667+(1:Int)))) else(some x667)
partial_fixpoint
def Z2i.f (a0:Int):Option (Int):=(Z2i.l0  a0 0)>>=fun x669=>some x669
theorem Z2i.ok (a0:Int) (r:Int) (H:Z2i.f a0=some r):Pv.Fn Tryz.prog 71 [iV .u64 a0] [] 0 (fun x o=>x=iV .i64 r∧o=[]):=by
 unfold Z2i.f at H
 exact HT.fn H (fun r=>iV .i64 r) (fun r=>[]) [] Tryz.func71 rfl rfl hmx (.rg [] <| .rg [] <| .bl <| .loop (.c2 (Z2i.l0.partial_correctness )) (a0,0) [] [] [] (fun _ =>.pr fun x666 =>.one (fun x667=>⟨[(0,iV .u64 x666),(3,iV .i64 x667)],[],0⟩) fun x667 =>.rg [] <| .cd (fun c668 =>.bl <| .rg [] <| .rg [(1,hK 1)] <| .back [] [] [] rfl)
 (fun c668 =>.out [] [] []))
 (.st (.exit 0) (fun x669=>⟨[(3,iV .i64 x669)],[],0⟩) fun x669 =>.rg [] <| .ret [] [] [] ⟨[(2,iV .i64 x669)],[],0⟩))
def Z1k.f (a0:Int):Option (Unit):=some ()
theorem Z1k.ok (a0:Int) (r:Unit) (H:Z1k.f a0=some r):Pv.Fn Tryz.prog 130 [iV .i64 a0] [] 0 (fun x o=>x=bV (a0 != a0)∧o=[]):=by
 unfold Z1k.f at H
 exact HT.fn H (fun r=>bV (a0 != a0)) (fun r=>[]) [] Tryz.func130 rfl rfl hmx (.rg [] <| .rg [] <| .ret [] [] [] ⟨[(2,bV (a0 != a0))],[],0⟩)
def Z4l.f (a0:Int) (a1:Int):Option (Bool):=(((Z1k.f a0)>>=fun t682=>if(a0 != a0)=true then((Z1k.f a1)>>=fun t685=>if(!(a1 != a1))=true then(some true) else(some (decide (a0<a1)))) else(some (decide (a0<a1)))):Option (Bool))>>=fun x688=>some x688
theorem Z4l.ok (a0:Int) (a1:Int) (r:Bool) (H:Z4l.f a0 a1=some r):Pv.Fn Tryz.prog 102 [iV .i64 a0,iV .i64 a1] [] 0 (fun x o=>x=bV r∧o=[]):=by
 unfold Z4l.f at H
 exact HT.fn H (fun r=>bV r) (fun r=>[]) [] Tryz.func102 rfl rfl hmx (.rg [] <| .join (.bd fun t682 e683 =>.sp (fun c684 =>.bd fun t685 e686 =>.sp (fun c687 =>.rg [(1,hC [] [] [] [] Tryz.call130 (Z1k.ok a0 t682 e683)),(2,hB c684),(4,hC [] [] [] [] Tryz.call130 (Z1k.ok a1 t685 e686)),(7,hB c687)] <| .out [] [] [])
 (fun c687 =>.rg [(1,hC [] [] [] [] Tryz.call130 (Z1k.ok a0 t682 e683)),(2,hB c684),(4,hC [] [] [] [] Tryz.call130 (Z1k.ok a1 t685 e686)),(7,hB c687)] <| .out [] [] []))
 (fun c684 =>.rg [(1,hC [] [] [] [] Tryz.call130 (Z1k.ok a0 t682 e683)),(2,hB c684)] <| .out [] [] []))
 (.st .normal (fun x688=>⟨[(4,bV x688)],[],0⟩) fun x688 =>.ret [] [] [] ⟨[(4,bV x688)],[],0⟩))
def Z2c.f (a0:Int):Option (Unit):=some ()
theorem Z2c.ok (a0:Int) (r:Unit) (H:Z2c.f a0=some r):Pv.Fn Tryz.prog 103 [iV .i64 a0] [] 0 (fun x o=>x=bV (a0 != a0)∧o=[]):=by
 unfold Z2c.f at H
 exact HT.fn H (fun r=>bV (a0 != a0)) (fun r=>[]) [] Tryz.func103 rfl rfl hmx (.rg [] <| .rg [] <| .ret [] [] [] ⟨[(2,bV (a0 != a0))],[],0⟩)
def Z03.l0 (a0:List Int) (a1:Int) (x699:Int) (x700:Int):Option (Int):=if(decide (x699<x700))=true then((at? a0 (i64.wrap (Int.fdiv (u64.wrap (i64.wrap (x699+x700))) 2)))>>=fun b707=>(Z4l.f b707 a1)>>=fun t710=>((if t710=true then(some (i64.wrap ((i64.wrap (Int.fdiv (u64.wrap (i64.wrap (x699+x700))) 2))+(1:Int)),x700)) else(some (x699,i64.wrap (Int.fdiv (u64.wrap (i64.wrap (x699+x700))) 2)))):Option (Int×Int))>>=fun oo=>match oo with | (x713,x714)=>(Z03.l0 a0 a1 x713 x714)) else(some x699)
partial_fixpoint
def Z03.f (a0:List Int) (a1:Int):Option (Int×Bool):=(Z03.l0 a0 a1 0 (a0.length:Int))>>=fun x715=>((if(decide (x715<(a0.length:Int)))=true then((at? a0 x715)>>=fun b727=>if(b727==a1)=true then(some true) else((Z2c.f b727)>>=fun t731=>if(b727 != b727)=true then((Z2c.f a1)>>=fun t734=>some (a1 != a1)) else(some false))) else(some false)):Option (Bool))>>=fun x736=>some (x715,x736)
theorem Z03.ok (a0:List Int) (a1:Int) (r:Int×Bool) (H:Z03.f a0 a1=some r):Pv.Fn Tryz.prog 70 [.im (.row (a0.map (Z2 .i64))),iV .i64 a1] [] 0 (fun x o=>x = .tup [iV .i64 r.1,bV r.2]∧o=[]):=by
 unfold Z03.f at H
 exact HT.fn H (fun r =>.tup [iV .i64 r.1,bV r.2]) (fun r=>[]) [] Tryz.func70 rfl rfl hmx (.rg [] <| .rg [(1,hG (Z2 .i64) a0)] <| .rg [] <| .bl <| .loop (.c2 (Z03.l0.partial_correctness a0 a1)) (0,(a0.length:Int)) [] [] [] (fun _ =>.pr fun x699 =>.one (fun x700=>⟨[(0,.im (.row (a0.map (Z2 .i64)))),(1,iV .i64 a1),(6,iV .i64 (a0.length:Int)),(7,iV .i64 x699),(8,iV .i64 x700)],[],0⟩) fun x700 =>.rg [] <| .cd (fun c701 =>.bl <| .rg [(4,hK 1)] <| .el fun b707 p708 q709 =>.bd fun t710 e711 =>.rg [(2,hA (Z2 .i64) p708 q709),(5,hC [] [] [] [] Tryz.call102 (Z4l.ok b707 a1 t710 e711))] <| .join (.cd (fun c712 =>.rg [] <| .out [] [] [])
 (fun c712 =>.rg [] <| .out [] [] []))
 (.pr fun x713 =>.st .normal (fun x714=>⟨[(0,.im (.row (a0.map (Z2 .i64)))),(1,iV .i64 a1),(6,iV .i64 (a0.length:Int)),(7,iV .i64 x713),(8,iV .i64 x714)],[],0⟩) fun x714 =>.back [] [] [] rfl))
 (fun c701 =>.out [] [] []))
 (.st (.exit 0) (fun x715=>⟨[(0,.im (.row (a0.map (Z2 .i64)))),(1,iV .i64 a1),(6,iV .i64 (a0.length:Int)),(7,iV .i64 x715)],[],0⟩) fun x715 =>.join (.sp (fun c726 =>.el fun b727 p728 q729 =>.sp (fun c730 =>.rg [(4,hB c726),(7,hA (Z2 .i64) p728 q729),(11,hB c730)] <| .out [] [] [])
 (fun c730 =>.bd fun t731 e732 =>.sp (fun c733 =>.bd fun t734 e735 =>.rg [(4,hB c726),(7,hA (Z2 .i64) p728 q729),(11,hB c730),(14,hA (Z2 .i64) p728 q729),(16,hC [] [] [] [] Tryz.call103 (Z2c.ok b727 t731 e732)),(17,hB c733),(19,hC [] [] [] [] Tryz.call103 (Z2c.ok a1 t734 e735))] <| .out [] [] [])
 (fun c733 =>.rg [(4,hB c726),(7,hA (Z2 .i64) p728 q729),(11,hB c730),(14,hA (Z2 .i64) p728 q729),(16,hC [] [] [] [] Tryz.call103 (Z2c.ok b727 t731 e732)),(17,hB c733)] <| .out [] [] [])))
 (fun c726 =>.rg [(4,hB c726)] <| .out [] [] []))
 (.st .normal (fun x736=>⟨[(4,iV .i64 x715),(5,bV x736)],[],0⟩) fun x736 =>.ret [] [] [] ⟨[(4,iV .i64 x715),(5,bV x736)],[],0⟩)))
def Zy.l0 (a1:Int) (x775:List Int) (x776:Int) (x777:Int):Option ((List Int)×Int):=if(decide (x777≥(0:Int)))=true then((chk (0≤(u64.wrap (x777))))>>=fun _=>(Z0h.f x775 x776 ((u64.wrap (((BitVec.toNat (BitVec.ofInt 64 (Int.fdiv a1 (2 ^ (min (Int.toNat (u64.wrap (x777))) 64))) &&& BitVec.ofInt 64 (1:Int)):Nat):Int)))==(1:Int)))>>=fun t783=>Zy.l0 a1 t783.1 t783.2 (i64.wrap (x777-(1:Int)))) else(some (x775,x776))
partial_fixpoint
def Zy.f (a0_c0:List Int) (a0_c1:Int) (a1:Int) (a2:Int):Option ((List Int)×Int):=(Zy.l0 a1 a0_c0 a0_c1 (i64.wrap ((if(if(64:Int)<a2 then(64:Int) else a2)>(0:Int) then(if(64:Int)<a2 then(64:Int) else a2) else(0:Int))-(1:Int))))>>=fun oo=>match oo with | (x785,x786)=>(some (x785,x786))
theorem Zy.ok (a0_c0:List Int) (a0_c1:Int) (a1:Int) (a2:Int) (r:(List Int)×Int) (H:Zy.f a0_c0 a0_c1 a1 a2=some r):Pv.Fn Tryz.prog 32 [.ptr 0 0 0,iV .u64 a1,iV .i64 a2] [(0,some (.box 86 [.own 1,iV .u64 a0_c1])),(1,some (.row 1 5 (a0_c0.map (Z2 .u8))))] 2 (fun x o=>x = .tup []∧o=[(0,some (.box 86 [.own 2,iV .u64 r.2])),(1,none),(2,some (.row 1 5 (r.1.map (Z2 .u8))))]):=by
 unfold Zy.f at H
 exact HT.fn H (fun r =>.tup []) (fun r=>[(0,some (.box 86 [.own 2,iV .u64 r.2])),(1,none),(2,some (.row 1 5 (r.1.map (Z2 .u8))))]) [0,1,2] Tryz.func32 rfl rfl hmx (.rg [(1,⟨.more xMin,.n⟩),(2,⟨.more xMax,.n⟩)] <| .bl <| .loop (.c3 (Zy.l0.partial_correctness a1)) (a0_c0,a0_c1,i64.wrap ((if(if(64:Int)<a2 then(64:Int) else a2)>(0:Int) then(if(64:Int)<a2 then(64:Int) else a2) else(0:Int))-(1:Int))) [(0,0),(1,3)] [] [] (fun _ =>.pr fun x775 =>.pr fun x776 =>.one (fun x777=>⟨[(0,.ptr 0 0 0),(1,iV .u64 a1),(6,iV .i64 x777)],[(0,some (.box 86 [.own 3,iV .u64 x776])),(3,some (.row 1 5 (x775.map (Z2 .u8))))],2⟩) fun x777 =>.rg [] <| .cd (fun c778 =>.bl <| .ck fun c782 =>.bd fun t783 e784 =>.rg [(4,hN (p1 c782)),(7,hC [(0,0),(3,1)] [(0,0),(2,4)] [] [4] Tryz.call68 (Z0h.ok x775 x776 ((u64.wrap (((BitVec.toNat (BitVec.ofInt 64 (Int.fdiv a1 (2 ^ (min (Int.toNat (u64.wrap (x777))) 64))) &&& BitVec.ofInt 64 (1:Int)):Nat):Int)))==(1:Int)) t783 e784))] <| .rg [] <| .back [(0,0),(4,3)] [] [] rfl)
 (fun c778 =>.out [(0,0),(3,5)] [] []))
 (.pr fun x785 =>.st (.exit 0) (fun x786=>⟨[],[(0,some (.box 86 [.own 5,iV .u64 x786])),(5,some (.row 1 5 (x785.map (Z2 .u8))))],2⟩) fun x786 =>.ret [(0,0),(5,2)] [] [] ⟨[],[(0,some (.box 86 [.own 2,iV .u64 x786])),(2,some (.row 1 5 (x785.map (Z2 .u8))))],2⟩))
def Zb.l0 (a1:Int) (t663:List Int) (t741:Int×Bool) (x748:List Int) (x749:Int) (x750:Int):Option ((List Int)×Int):=if(decide (x750<t741.1))=true then((Z0h.f x748 x749 true)>>=fun t754=>Zb.l0 a1 t663 t741 t754.1 t754.2 (i64.wrap (x750+(1:Int)))) else(some (x748,x749))
partial_fixpoint
def Zb.f (a0_c0:List Int) (a0_c1:Int) (a1:Int):Option ((List Int)×Int):=(Z3n.f)>>=fun t663=>(Z2i.f a1)>>=fun t739=>(Z03.f t663 t739)>>=fun t741=>(Zb.l0 a1 t663 t741 a0_c0 a0_c1 0)>>=fun oo=>match oo with | (x756,x757)=>(((if(decide (t741.1<(i64.wrap ((t663.length:Int)-(1:Int)))))=true then((Z0h.f x756 x757 false)>>=fun t761=>some (t761.1,t761.2)) else(some (x756,x757))):Option ((List Int)×Int))>>=fun oo=>match oo with | (x763,x764)=>((at? t663 t741.1)>>=fun b789=>(Zy.f x763 x764 a1 b789)>>=fun t792=>some (t792.1,t792.2)))
theorem Zb.ok (a0_c0:List Int) (a0_c1:Int) (a1:Int) (r:(List Int)×Int) (H:Zb.f a0_c0 a0_c1 a1=some r):Pv.Fn Tryz.prog 33 [.ptr 0 0 0,iV .u64 a1] [(0,some (.box 86 [.own 1,iV .u64 a0_c1])),(1,some (.row 1 5 (a0_c0.map (Z2 .u8))))] 2 (fun x o=>x = .tup []∧o=[(0,some (.box 86 [.own 2,iV .u64 r.2])),(1,none),(2,some (.row 1 5 (r.1.map (Z2 .u8))))]):=by
 unfold Zb.f at H
 exact HT.fn H (fun r =>.tup []) (fun r=>[(0,some (.box 86 [.own 2,iV .u64 r.2])),(1,none),(2,some (.row 1 5 (r.1.map (Z2 .u8))))]) [0,1,2] Tryz.func33 rfl rfl hmx (.bd fun t663 e664 =>.rg [(0,hC [] [(0,2)] [] [2] Tryz.call69 (Z3n.ok  t663 e664))] <| .bd fun t739 e740 =>.bd fun t741 e742 =>.rg [(2,hC [] [] [] [] Tryz.call71 (Z2i.ok a1 t739 e740)),(3,hC [] [] [2] [] Tryz.call70 (Z03.ok t663 t739 t741 e742))] <| .rg [] <| .bl <| .loop (.c3 (Zb.l0.partial_correctness a1 t663 t741)) (a0_c0,a0_c1,0) [(0,0),(1,4),(2,5)] [] [] (fun _ =>.pr fun x748 =>.pr fun x749 =>.one (fun x750=>⟨[(0,.ptr 0 0 0),(1,iV .u64 a1),(4,.own 5),(5,iV .i64 t741.1),(15,iV .i64 t741.1),(16,iV .i64 x750)],[(0,some (.box 86 [.own 4,iV .u64 x749])),(4,some (.row 1 5 (x748.map (Z2 .u8)))),(5,some (.row 1 3 (t663.map (Z2 .i64))))],2⟩) fun x750 =>.rg [] <| .cd (fun c751 =>.bl <| .bd fun t754 e755 =>.rg [(1,hC [(0,0),(4,1)] [(0,0),(2,6)] [] [6] Tryz.call68 (Z0h.ok x748 x749 true t754 e755))] <| .rg [] <| .back [(0,0),(5,5),(6,4)] [] [] rfl)
 (fun c751 =>.out [(0,0),(4,7),(5,8)] [] []))
 (.pr fun x756 =>.st (.exit 0) (fun x757=>⟨[(0,.ptr 0 0 0),(1,iV .u64 a1),(4,.own 8),(5,iV .i64 t741.1)],[(0,some (.box 86 [.own 7,iV .u64 x757])),(7,some (.row 1 5 (x756.map (Z2 .u8)))),(8,some (.row 1 3 (t663.map (Z2 .i64))))],2⟩) fun x757 =>.rg [(2,hG (Z2 .i64) t663)] <| .join (.cd (fun c758 =>.bd fun t761 e762 =>.rg [(1,hC [(0,0),(7,1)] [(0,0),(2,9)] [] [9] Tryz.call68 (Z0h.ok x756 x757 false t761 e762))] <| .out [(0,0),(9,10),(8,11)] [] [])
 (fun c758 =>.out [(0,0),(7,10),(8,11)] [] []))
 (.pr fun x763 =>.st .normal (fun x764=>⟨[(0,.ptr 0 0 0),(1,iV .u64 a1),(4,.own 11),(5,iV .i64 t741.1)],[(0,some (.box 86 [.own 10,iV .u64 x764])),(10,some (.row 1 5 (x763.map (Z2 .u8)))),(11,some (.row 1 3 (t663.map (Z2 .i64))))],2⟩) fun x764 =>.el fun b789 p790 q791 =>.bd fun t792 e793 =>.rg [(4,hX (Z2 .i64) p790 q791),(5,hL (Z2 .i64) q791),(6,hC [(0,0),(10,1)] [(0,0),(2,12)] [] [12] Tryz.call32 (Zy.ok x763 x764 a1 b789 t792 e793))] <| .ret [(0,0),(12,2)] [] [] ⟨[],[(0,some (.box 86 [.own 2,iV .u64 t792.2])),(2,some (.row 1 5 (t792.1.map (Z2 .u8))))],2⟩)))
def Z0z.l0 (a1:ByteArray) (x816:List Int) (x817:Int) (x818:Int):Option ((List Int)×Int):=if(decide (x818<(a1.size:Int)))=true then((chk (0≤x818∧x818<(a1.size:Int)))>>=fun _=>(Zy.f x816 x817 (u64.wrap (bt a1 x818)) 8)>>=fun t824=>Z0z.l0 a1 t824.1 t824.2 (i64.wrap (x818+(1:Int)))) else(some (x816,x817))
partial_fixpoint
def Z0z.f (a0_c0:List Int) (a0_c1:Int) (a1:ByteArray):Option ((List Int)×Int):=(Zb.f a0_c0 a0_c1 (u64.wrap ((a1.size:Int))))>>=fun t807=>(Z0z.l0 a1 t807.1 t807.2 0)>>=fun oo=>match oo with | (x826,x827)=>(some (x826,x827))
theorem Z0z.ok (a0_c0:List Int) (a0_c1:Int) (a1:ByteArray) (r:(List Int)×Int) (H:Z0z.f a0_c0 a0_c1 a1=some r):Pv.Fn Tryz.prog 34 [.ptr 0 0 0,sV a1] [(0,some (.box 86 [.own 1,iV .u64 a0_c1])),(1,some (.row 1 5 (a0_c0.map (Z2 .u8))))] 2 (fun x o=>x = .tup []∧o=[(0,some (.box 86 [.own 2,iV .u64 r.2])),(1,none),(2,some (.row 1 5 (r.1.map (Z2 .u8))))]):=by
 unfold Z0z.f at H
 exact HT.fn H (fun r =>.tup []) (fun r=>[(0,some (.box 86 [.own 2,iV .u64 r.2])),(1,none),(2,some (.row 1 5 (r.1.map (Z2 .u8))))]) [0,1,2] Tryz.func34 rfl rfl hmx (.bd fun t807 e808 =>.rg [(4,hC [(0,0),(1,1)] [(0,0),(2,2)] [] [2] Tryz.call33 (Zb.ok a0_c0 a0_c1 (u64.wrap ((a1.size:Int))) t807 e808))] <| .rg [] <| .bl <| .loop (.c3 (Z0z.l0.partial_correctness a1)) (t807.1,t807.2,0) [(0,0),(2,4)] [] [] (fun _ =>.pr fun x816 =>.pr fun x817 =>.one (fun x818=>⟨[(0,.ptr 0 0 0),(1,sV a1),(11,iV .i64 (a1.size:Int)),(12,iV .i64 x818)],[(0,some (.box 86 [.own 4,iV .u64 x817])),(4,some (.row 1 5 (x816.map (Z2 .u8))))],2⟩) fun x818 =>.rg [] <| .cd (fun c819 =>.bl <| .rg [] <| .ck fun c823 =>.bd fun t824 e825 =>.rg [(3,hN (p2 c823)),(5,hC [(0,0),(4,1)] [(0,0),(2,5)] [] [5] Tryz.call32 (Zy.ok x816 x817 (u64.wrap (bt a1 x818)) 8 t824 e825))] <| .rg [] <| .back [(0,0),(5,4)] [] [] rfl)
 (fun c819 =>.out [(0,0),(4,6)] [] []))
 (.pr fun x826 =>.st (.exit 0) (fun x827=>⟨[],[(0,some (.box 86 [.own 6,iV .u64 x827])),(6,some (.row 1 5 (x826.map (Z2 .u8))))],2⟩) fun x827 =>.ret [(0,0),(6,2)] [] [] ⟨[],[(0,some (.box 86 [.own 2,iV .u64 x827])),(2,some (.row 1 5 (x826.map (Z2 .u8))))],2⟩))
def Z4g.f (a0:Zk) (a1:Zk):Option (Bool):=((if(a0.f0==a1.f0)=true then(if(a0.f1==a1.f1)=true then(some (a0.f2==a1.f2)) else(some false)) else(some false)):Option (Bool))>>=fun x845=>some x845
theorem Z4g.ok (a0:Zk) (a1:Zk) (r:Bool) (H:Z4g.f a0 a1=some r):Pv.Fn Tryz.prog 131 [.agg (Z0d a0),.agg (Z0d a1)] [] 0 (fun x o=>x=bV r∧o=[]):=by
 unfold Z4g.f at H
 exact HT.fn H (fun r=>bV r) (fun r=>[]) [] Tryz.func131 rfl rfl hmx (.rg [(0,⟨.k 0,.n⟩),(1,⟨.k 1,.n⟩)] <| .join (.sp (fun c843 =>.sp (fun c844 =>.rg [(5,hB c843),(12,hB c844)] <| .out [] [] [])
 (fun c844 =>.rg [(5,hB c843),(12,hB c844)] <| .out [] [] []))
 (fun c843 =>.rg [(5,hB c843)] <| .out [] [] []))
 (.st .normal (fun x845=>⟨[(4,bV x845)],[],0⟩) fun x845 =>.ret [] [] [] ⟨[(4,bV x845)],[],0⟩))
def Z56.f (a0:Int) (a1:Int):Option (Int×Int):=if(!((decide (a0<a1))==(decide ((i64.wrap (a0-a1))<(0:Int)))))=true then(some (0,5)) else(some (i64.wrap (a0-a1),0))
theorem Z56.ok (a0:Int) (a1:Int) (r:Int×Int) (H:Z56.f a0 a1=some r):Pv.Fn Tryz.prog 176 [iV .i64 a0,iV .i64 a1] [] 0 (fun x o=>x = .tup [iV .i64 r.1,iV .i64 r.2]∧o=[]):=by
 unfold Z56.f at H
 exact HT.fn H (fun r =>.tup [iV .i64 r.1,iV .i64 r.2]) (fun r=>[]) [] Tryz.func176 rfl rfl hmx (.rg [] <| .rg [] <| .rg [] <| .cd (fun c855 =>.rg [] <| .ret [] [] [] ⟨[(4,iV .i64 0),(5,iV .i64 5)],[],0⟩)
 (fun c855 =>.rg [] <| .ret [] [] [] ⟨[(4,iV .i64 (i64.wrap (a0-a1))),(5,iV .i64 0)],[],0⟩))
def Z8u.f (a0:Int) (a1:Int):Option (Unit):=(chk (0≤a1))>>=fun _=>some ()
theorem Z8u.ok (a0:Int) (a1:Int) (r:Unit) (H:Z8u.f a0 a1=some r):Pv.Fn Tryz.prog 202 [iV .i64 a0,iV .u64 a1] [] 0 (fun x o=>x=iV .i64 (i64.wrap (0-(Int.fdiv (i64.wrap (0-a0)) (2 ^ (min (Int.toNat (a1)) 64)))))∧o=[]):=by
 unfold Z8u.f at H
 exact HT.fn H (fun r=>iV .i64 (i64.wrap (0-(Int.fdiv (i64.wrap (0-a0)) (2 ^ (min (Int.toNat (a1)) 64)))))) (fun r=>[]) [] Tryz.func202 rfl rfl hmx (.rg [] <| .ck fun c895 =>.rg [(3,hN (p1 c895))] <| .ret [] [] [] ⟨[(4,iV .i64 (i64.wrap (0-(Int.fdiv (i64.wrap (0-a0)) (2 ^ (min (Int.toNat (a1)) 64))))))],[],0⟩)
def Z5z.f (a0:Int) (a1:Int) (a2:Int):Option (Int×Int):=(((Z0n.f a0)>>=fun t881=>if(!t881)=true then(some true) else((Z0n.f a1)>>=fun t884=>if(!t884)=true then(some true) else(some (decide (a1>a0))))):Option (Bool))>>=fun x887=>if x887=true then(some (0,20)) else((Z5e.f a0 a2)>>=fun t891=>if(!t891)=true then(some (0,4)) else((Z8u.f a2 (u64.wrap (i64.wrap (a0-a1))))>>=fun t898=>some (i64.wrap (0-(Int.fdiv (i64.wrap (0-a2)) (2 ^ (min (Int.toNat ((u64.wrap (i64.wrap (a0-a1))))) 64)))),0)))
theorem Z5z.ok (a0:Int) (a1:Int) (a2:Int) (r:Int×Int) (H:Z5z.f a0 a1 a2=some r):Pv.Fn Tryz.prog 198 [iV .i64 a0,iV .i64 a1,iV .i64 a2] [] 0 (fun x o=>x = .tup [iV .i64 r.1,iV .i64 r.2]∧o=[]):=by
 unfold Z5z.f at H
 exact HT.fn H (fun r =>.tup [iV .i64 r.1,iV .i64 r.2]) (fun r=>[]) [] Tryz.func198 rfl rfl hmx (.rg [] <| .bl <| .join (.bd fun t881 e882 =>.sp (fun c883 =>.rg [(1,hC [] [] [] [] Tryz.call93 (Z0n.ok a0 t881 e882)),(3,hB c883)] <| .out [] [] [])
 (fun c883 =>.bd fun t884 e885 =>.sp (fun c886 =>.rg [(1,hC [] [] [] [] Tryz.call93 (Z0n.ok a0 t881 e882)),(3,hB c883),(5,hC [] [] [] [] Tryz.call93 (Z0n.ok a1 t884 e885)),(8,hB c886)] <| .out [] [] [])
 (fun c886 =>.rg [(1,hC [] [] [] [] Tryz.call93 (Z0n.ok a0 t881 e882)),(3,hB c883),(5,hC [] [] [] [] Tryz.call93 (Z0n.ok a1 t884 e885)),(8,hB c886)] <| .out [] [] [])))
 (.st .normal (fun x887=>⟨[(0,iV .i64 a0),(1,iV .i64 a1),(2,iV .i64 a2),(8,bV x887)],[],0⟩) fun x887 =>.cd (fun c888 =>.rg [] <| .ret [] [] [] ⟨[(6,iV .i64 0),(7,iV .i64 20)],[],0⟩)
 (fun c888 =>.bd fun t891 e892 =>.rg [(2,hC [] [] [] [] Tryz.call124 (Z5e.ok a0 a2 t891 e892))] <| .cd (fun c893 =>.rg [] <| .ret [] [] [] ⟨[(6,iV .i64 0),(7,iV .i64 4)],[],0⟩)
 (fun c893 =>.bd fun t898 e899 =>.rg [(5,hC [] [] [] [] Tryz.call202 (Z8u.ok a2 (u64.wrap (i64.wrap (a0-a1))) t898 e899))] <| .ret [] [] [] ⟨[(6,iV .i64 (i64.wrap (0-(Int.fdiv (i64.wrap (0-a2)) (2 ^ (min (Int.toNat ((u64.wrap (i64.wrap (a0-a1))))) 64)))))),(7,iV .i64 0)],[],0⟩))))
def Z2n.l0 (a0:List Z1) (a1:Int) (a2:Int) (x906:List Z1) (x907:Int):Option (List Z1):=if(decide (x907<(a0.length:Int)))=true then((at? a0 x907)>>=fun b912=>(Z5z.f a1 a2 b912.f0)>>=fun t917=>(chk ((x906.length+[(⟨t917.1,b912.f1⟩:Z1)].length)*16≤140737488355328))>>=fun _=>Z2n.l0 a0 a1 a2 (x906++[(⟨t917.1,b912.f1⟩:Z1)]) (i64.wrap (x907+(1:Int)))) else(some x906)
partial_fixpoint
def Z2n.f (a0:List Z1) (a1:Int) (a2:Int):Option (List Z1):=(Z2n.l0 a0 a1 a2 [] 0)>>=fun x921=>some x921
theorem Z2n.ok (a0:List Z1) (a1:Int) (a2:Int) (r:List Z1) (H:Z2n.f a0 a1 a2=some r):Pv.Fn Tryz.prog 192 [.im (.row (a0.map Z0)),iV .i64 a1,iV .i64 a2] [] 0 (fun x o=>x = .own 0∧o=[(0,some (.row 2 136 (r.map Z0)))]):=by
 unfold Z2n.f at H
 exact HT.fn H (fun r =>.own 0) (fun r=>[(0,some (.row 2 136 (r.map Z0)))]) [0] Tryz.func192 rfl rfl hmx (.rg [] <| .rg [] <| .rg [(1,hG Z0 a0)] <| .bl <| .loop (.c2 (Z2n.l0.partial_correctness a0 a1 a2)) ([],0) [] [] [3] (fun _ =>.pr fun x906 =>.one (fun x907=>⟨[(1,iV .i64 a1),(2,iV .i64 a2),(7,.own 3),(10,.im (.row (a0.map Z0))),(11,iV .i64 (a0.length:Int)),(12,iV .i64 x907)],[(3,some (.row 2 136 (x906.map Z0)))],0⟩) fun x907 =>.rg [] <| .cd (fun c908 =>.bl <| .el fun b912 p913 q914 =>.rg [(0,hA Z0 p913 q914),(2,⟨.k 4,.n⟩)] <| .bd fun t917 e918 =>.rg [(4,hC [] [] [] [] Tryz.call198 (Z5z.ok a1 a2 b912.f0 t917 e918))] <| .ck fun c920 =>.rg [(2,hQ 5 Z0 ([(⟨t917.1,b912.f1⟩:Z1)]:List Z1)),(3,hP 6 Z0 2 c920)] <| .rg [] <| .back [(6,3)] [] [] rfl)
 (fun c908 =>.out [(3,7)] [] []))
 (.st (.exit 0) (fun x921=>⟨[(7,.own 7)],[(7,some (.row 2 136 (x921.map Z0)))],0⟩) fun x921 =>.rg [] <| .ret [(7,0)] [] [] ⟨[(6,.own 0)],[(0,some (.row 2 136 (x921.map Z0)))],0⟩))
def Z2m.l0 (a0:Zk) (a1:List Z1) (a2:Int) (x953:Int):Option (Int ⊕ Unit):=if(decide (x953<(a1.length:Int)))=true then((at? a1 x953)>>=fun b958=>(((Z4m.f a0.f1 b958.f0)>>=fun t966=>if(decide (t966<a2))=true then((Z2f.f a0.f1 b958.f0)>>=fun t969=>some (decide (a2<t969))) else(some false)):Option (Bool))>>=fun x971=>if x971=true then((Z2f.f a0.f1 b958.f0)>>=fun t975=>some (.inl t975)) else(Z2m.l0 a0 a1 a2 (i64.wrap (x953+(1:Int))))) else(some (.inr ()))
partial_fixpoint
def Z2m.f (a0:Zk) (a1:List Z1) (a2:Int):Option (Int):=(Z2m.l0 a0 a1 a2 0)>>=fun oo=>match oo with | .inl rr=>(some rr) | .inr _=>(some a2)
theorem Z2m.ok (a0:Zk) (a1:List Z1) (a2:Int) (r:Int) (H:Z2m.f a0 a1 a2=some r):Pv.Fn Tryz.prog 199 [.agg (Z0d a0),.im (.row (a1.map Z0)),iV .i64 a2] [] 0 (fun x o=>x=iV .i64 r∧o=[]):=by
 unfold Z2m.f at H
 exact HT.fn H (fun r=>iV .i64 r) (fun r=>[]) [] Tryz.func199 rfl rfl hmx (.rg [(0,⟨.k 0,.n⟩)] <| .rg [(1,hG Z0 a1)] <| .bl <| .loop (.one (Z2m.l0.partial_correctness a0 a1 a2)) 0 [(0,4)] [] [] (fun _ =>.one (fun x953=>⟨[(2,iV .i64 a2),(3,.ptr 4 0 0),(9,.im (.row (a1.map Z0))),(10,iV .i64 (a1.length:Int)),(11,iV .i64 x953)],[(4,some (.box 48 (Z0d a0)))],0⟩) fun x953 =>.rg [] <| .cd (fun c954 =>.bl <| .el fun b958 p959 q960 =>.rg [(0,hA Z0 p959 q960),(2,⟨.k 5,.n⟩)] <| .join (.bd fun t966 e967 =>.sp (fun c968 =>.bd fun t969 e970 =>.rg [(4,hC [] [] [] [] Tryz.call125 (Z4m.ok a0.f1 b958.f0 t966 e967)),(7,hB c968),(13,hC [] [] [] [] Tryz.call163 (Z2f.ok a0.f1 b958.f0 t969 e970))] <| .out [(4,6),(5,7)] [] [])
 (fun c968 =>.rg [(4,hC [] [] [] [] Tryz.call125 (Z4m.ok a0.f1 b958.f0 t966 e967)),(7,hB c968)] <| .out [(4,6),(5,7)] [] []))
 (.st .normal (fun x971=>⟨[(2,iV .i64 a2),(3,.ptr 6 0 0),(8,.ptr 7 0 0),(9,.im (.row (a1.map Z0))),(10,iV .i64 (a1.length:Int)),(11,iV .i64 x953),(30,bV x971)],[(6,some (.box 48 (Z0d a0))),(7,some (.box 136 (Z7b b958)))],0⟩) fun x971 =>.cd (fun c972 =>.bd fun t975 e976 =>.rg [(4,hC [] [] [] [] Tryz.call163 (Z2f.ok a0.f1 b958.f0 t975 e976))] <| .ret [] [] [] ⟨[(6,iV .i64 t975)],[],0⟩)
 (fun c972 =>.rg [] <| .back [(6,4)] [] [] rfl)))
 (fun c954 =>.out [] [] []))
 (.sm (.rt (fun rr=>iV .i64 rr) (fun rr=>[]))
 (.st (.exit 0) (fun _=>⟨[(2,iV .i64 a2)],[],0⟩) fun _ =>.rg [] <| .ret [] [] [] ⟨[(6,iV .i64 a2)],[],0⟩)))
def Z0e.l0 (a0:List Z1) (a1_c0:Int) (a1_c1:Int) (a1_c2:Int) (a1_c4:Int) (a1_c5:Int) (a1_c6:List Z1) (a1_c7:List Z1) (a2_c0:Int) (x1005:Int) (x1006:List Z1) (x1007:Int):Option ((List Z1)×Int):=if(decide (x1007<(a0.length:Int)))=true then((at? a0 x1007)>>=fun b1012=>(Z2f.f a1_c1 b1012.f0)>>=fun t1017=>((if(decide (t1017>a2_c0))=true then((chk ((x1006.length+[b1012].length)*16≤140737488355328))>>=fun _=>some (x1005,x1006++[b1012])) else((Z39.f [x1005,b1012.f1])>>=fun t1024=>some (t1024.1,x1006))):Option (Int×(List Z1)))>>=fun oo=>match oo with | (x1026,x1027)=>(Z0e.l0 a0 a1_c0 a1_c1 a1_c2 a1_c4 a1_c5 a1_c6 a1_c7 a2_c0 x1026 x1027 (i64.wrap (x1007+(1:Int))))) else(some (x1006,x1005))
partial_fixpoint
def Z0e.f (a0:List Z1) (a1_c0:Int) (a1_c1:Int) (a1_c2:Int) (a1_c3:Int) (a1_c4:Int) (a1_c5:Int) (a1_c6:List Z1) (a1_c7:List Z1) (a2_c0:Int):Option ((List Z1)×Int):=(Z0e.l0 a0 a1_c0 a1_c1 a1_c2 a1_c4 a1_c5 a1_c6 a1_c7 a2_c0 a1_c3 [] 0)>>=fun oo=>match oo with | (x1028,x1029)=>(some (x1028,x1029))
theorem Z0e.ok (a0:List Z1) (a1_c0:Int) (a1_c1:Int) (a1_c2:Int) (a1_c3:Int) (a1_c4:Int) (a1_c5:Int) (a1_c6:List Z1) (a1_c7:List Z1) (a2_c0:Int) (r:(List Z1)×Int) (H:Z0e.f a0 a1_c0 a1_c1 a1_c2 a1_c3 a1_c4 a1_c5 a1_c6 a1_c7 a2_c0=some r):Pv.Fn Tryz.prog 200 [.im (.row (a0.map Z0)),.ptr 0 0 0,.ptr 1 0 0] [(0,some (.box 48 (Z0d ⟨a1_c0,a1_c1,a1_c2,a1_c3,a1_c4,a1_c5,a1_c6,a1_c7⟩))),(1,some (.box 3 [iV .i64 a2_c0]))] 2 (fun x o=>x = .own 2∧o=[(0,some (.box 48 (Z0d ⟨a1_c0,a1_c1,a1_c2,r.2,a1_c4,a1_c5,a1_c6,a1_c7⟩))),(1,some (.box 3 [iV .i64 a2_c0])),(2,some (.row 2 136 (r.1.map Z0)))]):=by
 unfold Z0e.f at H
 exact HT.fn H (fun r =>.own 2) (fun r=>[(0,some (.box 48 (Z0d ⟨a1_c0,a1_c1,a1_c2,r.2,a1_c4,a1_c5,a1_c6,a1_c7⟩))),(1,some (.box 3 [iV .i64 a2_c0])),(2,some (.row 2 136 (r.1.map Z0)))]) [0,1,2] Tryz.func200 rfl rfl hmx (.rg [] <| .rg [] <| .rg [(1,hG Z0 a0)] <| .bl <| .loop (.c3 (Z0e.l0.partial_correctness a0 a1_c0 a1_c1 a1_c2 a1_c4 a1_c5 a1_c6 a1_c7 a2_c0)) (a1_c3,[],0) [(0,0),(1,1)] [] [7] (fun _ =>.pr fun x1005 =>.pr fun x1006 =>.one (fun x1007=>⟨[(1,.ptr 0 0 0),(2,.ptr 1 0 0),(5,.own 7),(8,.im (.row (a0.map Z0))),(9,iV .i64 (a0.length:Int)),(10,iV .i64 x1007)],[(0,some (.box 48 (Z0d ⟨a1_c0,a1_c1,a1_c2,x1005,a1_c4,a1_c5,a1_c6,a1_c7⟩))),(1,some (.box 3 [iV .i64 a2_c0])),(7,some (.row 2 136 (x1006.map Z0)))],2⟩) fun x1007 =>.rg [] <| .cd (fun c1008 =>.bl <| .el fun b1012 p1013 q1014 =>.rg [(0,hA Z0 p1013 q1014),(2,⟨.k 8,.n⟩)] <| .bd fun t1017 e1018 =>.rg [(4,hC [] [] [] [] Tryz.call163 (Z2f.ok a1_c1 b1012.f0 t1017 e1018))] <| .join (.cd (fun c1019 =>.ck fun c1021 =>.rg [(2,hQ 9 Z0 ([b1012]:List Z1)),(3,hP 10 Z0 2 c1021)] <| .out [(0,0),(1,1),(10,12)] [] [])
 (fun c1019 =>.bd fun t1024 e1025 =>.rg [(4,hQ 11 (Z2 .u64) ([x1005,b1012.f1]:List Int)),(5,hC [] [] [11] [] Tryz.call126 (Z39.ok [x1005,b1012.f1] t1024 e1025))] <| .out [(0,0),(1,1),(7,12)] [] []))
 (.pr fun x1026 =>.st .normal (fun x1027=>⟨[(1,.ptr 0 0 0),(2,.ptr 1 0 0),(5,.own 12),(8,.im (.row (a0.map Z0))),(9,iV .i64 (a0.length:Int)),(10,iV .i64 x1007)],[(0,some (.box 48 (Z0d ⟨a1_c0,a1_c1,a1_c2,x1026,a1_c4,a1_c5,a1_c6,a1_c7⟩))),(1,some (.box 3 [iV .i64 a2_c0])),(12,some (.row 2 136 (x1027.map Z0)))],2⟩) fun x1027 =>.rg [] <| .back [(0,0),(1,1),(12,7)] [] [] rfl))
 (fun c1008 =>.out [(7,13),(0,0),(1,1)] [] []))
 (.pr fun x1028 =>.st (.exit 0) (fun x1029=>⟨[(5,.own 13)],[(0,some (.box 48 (Z0d ⟨a1_c0,a1_c1,a1_c2,x1029,a1_c4,a1_c5,a1_c6,a1_c7⟩))),(1,some (.box 3 [iV .i64 a2_c0])),(13,some (.row 2 136 (x1028.map Z0)))],2⟩) fun x1029 =>.rg [] <| .ret [(0,0),(1,1),(13,2)] [] [] ⟨[(4,.own 2)],[(0,some (.box 48 (Z0d ⟨a1_c0,a1_c1,a1_c2,x1029,a1_c4,a1_c5,a1_c6,a1_c7⟩))),(1,some (.box 3 [iV .i64 a2_c0])),(2,some (.row 2 136 (x1028.map Z0)))],2⟩))
def Z0r.f (a0:List Z1):Option (List Z1):=(chk ((([]:List Z1).length+a0.length)*16≤140737488355328))>>=fun _=>some a0
theorem Z0r.ok (a0 r:List Z1) (H:Z0r.f a0=some r):Pv.Fn Tryz.prog 181 [.im (.row (a0.map Z0))] [] 0 (fun x o=>x = .own 0∧o=[(0,some (.row 2 136 (r.map Z0)))]):=by
 unfold Z0r.f at H
 obtain⟨c1,H⟩:=Z99 H
 obtain rfl:=sj H
 refine Fn.bodyK [0] Tryz.func181 rfl rfl (fun Γ hP hn => ?_)
 have hm:Tryz.prog.follows .mixedOrders=true:=by kernel_rfl
 replace hn:Γ.n=8:=hn
 refine AWp.seq ?_
 refine reg hP hn hm [] [0,2] [] ⟨[(0,.im (.row (a0.map Z0))),(2,.none0)],[],0⟩ [] (by kernel_rfl) trivial ?_
 refine AWp.seq ?_
 cases a0 with
 | nil =>
  refine AWp.nilSplit 0 rfl (fun b m => ?_)
  refine AWp.seq ?_
  cases b with
  | none =>
   refine reg hP hn hm [(1,.more xNil)] [2,4] [] ⟨[(2,.none0),(4,bV true)],[],0⟩ [] (by kernel_rfl) trivial ?_
   refine AWp.cond true rfl (fun _ => ?_) (fun h=>nomatch h)
   refine AWp.seq ?_
   refine reg hP hn hm [] [2] [] ⟨[(2,.none0)],[],0⟩ [] (by kernel_rfl) trivial ?_
   refine AWp.conv (inv:=[]) (vk:=[]) (e0:=[0]) (t:=⟨[(2,.own 0)],[(0,some (.row 2 136 []))],0⟩) (by kernel_rfl) ?_
   refine AWp.ret ?_
   exact Exists.intro _ (And.intro (fun _ _ h=>h) (And.intro (.inl rfl) (And.intro rfl (And.intro (by kernel_rfl) (by kernel_rfl)))))
  | some b =>
   refine reg hP hn hm [(1,.more xNil)] [0,2,4] [] ⟨[(0,.im (.sc (.slice (some b) 0 m))),(2,.none0),(4,bV false)],[],0⟩ [] (by kernel_rfl) trivial ?_
   refine AWp.cond false rfl (fun h=>nomatch h) (fun _ => ?_)
   refine AWp.skip ?_
   refine AWp.unsplit 0 rfl ?_
   refine AWp.seq ?_
   refine reg hP hn hm [(0,.app 0 ([]:List (List Im))),(2,.app 1 (([]:List Z1).map Z0))] [2] [1] ⟨[(2,.own 1)],[(1,some (.row 2 136 (([]:List Z1).map Z0)))],0⟩ [([]:List (List Im))=[],([]:List Z1).map Z0=([]:List (List Im))++([]:List Z1).map Z0,∀ c∈([]:List Z1).map Z0,c.length=2,∀ c∈([]:List Z1).map Z0,Z2o (c.map .im)=true,(([]:List (List Im)).length+(([]:List Z1).map Z0).length)*16≤140737488355328] (by kernel_rfl) ⟨rfl,by simp,by exact Z4n _ _ _ (fun _=>rfl),by exact Z42 _ _ (fun _=>rfl),by simpa using c1,trivial⟩ ?_
   refine AWp.conv (inv:=[(1,0)]) (vk:=[]) (e0:=[]) (t:=⟨[(2,.own 0)],[(0,some (.row 2 136 (([]:List Z1).map Z0)))],0⟩) (by kernel_rfl) ?_
   refine AWp.ret ?_
   exact Exists.intro _ (And.intro (fun _ _ h=>h) (And.intro (.inl rfl) (And.intro rfl (And.intro (by kernel_rfl) (by kernel_rfl)))))
 | cons y l =>
  refine AWp.seq ?_
  refine reg hP hn hm [(1,.more xNil)] [0,2,4] [] ⟨[(0,.im (.row ((y::l).map Z0))),(2,.none0),(4,bV false)],[],0⟩ [] (by kernel_rfl) trivial ?_
  refine AWp.cond false rfl (fun h=>nomatch h) (fun _ => ?_)
  refine AWp.skip ?_
  refine AWp.seq ?_
  refine reg hP hn hm [(0,.app 0 ([]:List (List Im))),(2,.app 1 ((y::l).map Z0))] [2] [1] ⟨[(2,.own 1)],[(1,some (.row 2 136 ((y::l).map Z0)))],0⟩ [([]:List (List Im))=[],(y::l).map Z0=([]:List (List Im))++(y::l).map Z0,∀ c∈(y::l).map Z0,c.length=2,∀ c∈(y::l).map Z0,Z2o (c.map .im)=true,(([]:List (List Im)).length+((y::l).map Z0).length)*16≤140737488355328] (by kernel_rfl) ⟨rfl,by simp,by exact Z4n _ _ _ (fun _=>rfl),by exact Z42 _ _ (fun _=>rfl),by simpa using c1,trivial⟩ ?_
  refine AWp.conv (inv:=[(1,0)]) (vk:=[]) (e0:=[]) (t:=⟨[(2,.own 0)],[(0,some (.row 2 136 ((y::l).map Z0)))],0⟩) (by kernel_rfl) ?_
  refine AWp.ret ?_
  exact Exists.intro _ (And.intro (fun _ _ h=>h) (And.intro (.inl rfl) (And.intro rfl (And.intro (by kernel_rfl) (by kernel_rfl)))))
def Z3j.f (a0:Int) (a1:Int):Option (Int):=(Z1k.f a0)>>=fun t1053=>(Z1k.f a1)>>=fun t1057=>if(a0 != a0)=true then(if(a1 != a1)=true then(some 0) else(some (-1))) else(if(a1 != a1)=true then(some 1) else(if(decide (a0<a1))=true then(some (-1)) else(if(decide (a0>a1))=true then(some 1) else(some 0))))
theorem Z3j.ok (a0:Int) (a1:Int) (r:Int) (H:Z3j.f a0 a1=some r):Pv.Fn Tryz.prog 184 [iV .i64 a0,iV .i64 a1] [] 0 (fun x o=>x=iV .i64 r∧o=[]):=by
 unfold Z3j.f at H
 exact HT.fn H (fun r=>iV .i64 r) (fun r=>[]) [] Tryz.func184 rfl rfl hmx (.rg [] <| .bd fun t1053 e1054 =>.rg [(1,hC [] [] [] [] Tryz.call130 (Z1k.ok a0 t1053 e1054))] <| .bd fun t1057 e1058 =>.rg [(1,hC [] [] [] [] Tryz.call130 (Z1k.ok a1 t1057 e1058))] <| .rg [] <| .cd (fun c1059 =>.rg [] <| .cd (fun c1060 =>.rg [] <| .ret [] [] [] ⟨[(4,iV .i64 0)],[],0⟩)
 (fun c1060 =>.rg [] <| .ret [] [] [] ⟨[(4,iV .i64 (-1))],[],0⟩))
 (fun c1059 =>.rg [] <| .cd (fun c1061 =>.rg [] <| .ret [] [] [] ⟨[(4,iV .i64 1)],[],0⟩)
 (fun c1061 =>.rg [] <| .cd (fun c1062 =>.rg [] <| .ret [] [] [] ⟨[(4,iV .i64 (-1))],[],0⟩)
 (fun c1062 =>.rg [] <| .cd (fun c1063 =>.rg [] <| .ret [] [] [] ⟨[(4,iV .i64 1)],[],0⟩)
 (fun c1063 =>.rg [] <| .ret [] [] [] ⟨[(4,iV .i64 0)],[],0⟩)))))
def Z2e.f (a0:Z1) (a1:Z1):Option (Int):=(Z3j.f a0.f0 a1.f0)>>=fun t1066=>some t1066
theorem Z2e.ok (a0:Z1) (a1:Z1) (r:Int) (H:Z2e.f a0 a1=some r):Pv.Fn Tryz.prog 183 [.agg (Z7b a0),.agg (Z7b a1)] [] 0 (fun x o=>x=iV .i64 r∧o=[]):=by
 unfold Z2e.f at H
 exact HT.fn H (fun r=>iV .i64 r) (fun r=>[]) [] Tryz.func183 rfl rfl hmx (.rg [(0,⟨.k 0,.n⟩),(1,⟨.k 1,.n⟩)] <| .bd fun t1066 e1067 =>.rg [(4,hC [] [] [] [] Tryz.call184 (Z3j.ok a0.f0 a1.f0 t1066 e1067))] <| .ret [] [] [] ⟨[(4,iV .i64 t1066)],[],0⟩)
def Zf.l1 (a1:Int) (a2:Int) (x1141:Int) (x1181:List Z1) (x1182:Int):Option (List Z1):=((if(decide (x1182>a1))=true then((at? x1181 x1182)>>=fun b1193=>(at? x1181 (i64.wrap (x1182-(1:Int))))>>=fun b1196=>(Z2e.f b1193 b1196)>>=fun t1199=>some (decide (t1199<(0:Int)))) else(some false)):Option (Bool))>>=fun x1201=>if x1201=true then((at? x1181 (i64.wrap (x1182-(1:Int))))>>=fun b1212=>(at? x1181 x1182)>>=fun b1215=>(at? (x1181.set (Int.toNat (x1182)) b1212) (i64.wrap (x1182-(1:Int))))>>=fun b1218=>Zf.l1 a1 a2 x1141 ((x1181.set (Int.toNat (x1182)) b1212).set (Int.toNat (i64.wrap (x1182-(1:Int)))) b1215) (i64.wrap (x1182-(1:Int)))) else(some x1181)
partial_fixpoint
def Zf.l0 (a1:Int) (a2:Int) (x1140:List Z1) (x1141:Int):Option (List Z1):=if(decide (x1141<a2))=true then((Zf.l1 a1 a2 x1141 x1140 x1141)>>=fun x1221=>Zf.l0 a1 a2 x1221 (i64.wrap (x1141+(1:Int)))) else(some x1140)
partial_fixpoint
def Zf.f (a0:List Z1) (a1:Int) (a2:Int):Option (List Z1):=(Zf.l0 a1 a2 a0 (i64.wrap (a1+(1:Int))))>>=fun x1222=>some x1222
theorem Zf.ok (a0:List Z1) (a1:Int) (a2:Int) (r:List Z1) (H:Zf.f a0 a1 a2=some r):Pv.Fn Tryz.prog 195 [.own 0,iV .i64 a1,iV .i64 a2,.im (.sc (.func (.func 183) #[] #[]))] [(0,some (.row 2 136 (a0.map Z0)))] 1 (fun x o=>x = .tup []∧o=[(0,some (.row 2 136 (r.map Z0)))]):=by
 unfold Zf.f at H
 exact HT.fn H (fun r =>.tup []) (fun r=>[(0,some (.row 2 136 (r.map Z0)))]) [0] Tryz.func195 rfl rfl hmx (.rg [] <| .bl <| .loop (.c2 (Zf.l0.partial_correctness a1 a2)) (a0,i64.wrap (a1+(1:Int))) [(0,0)] [] [] (fun _ =>.pr fun x1140 =>.one (fun x1141=>⟨[(0,.own 0),(1,iV .i64 a1),(2,iV .i64 a2),(3,.im (.sc (.func (.func 183) #[] #[]))),(8,iV .i64 x1141)],[(0,some (.row 2 136 (x1140.map Z0)))],1⟩) fun x1141 =>.rg [] <| .cd (fun c1142 =>.bl <| .rg [] <| .bl <| .loop (.c2 (Zf.l1.partial_correctness a1 a2 x1141)) (x1140,x1141) [(0,0)] [] [] (fun _ =>.pr fun x1181 =>.one (fun x1182=>⟨[(0,.own 0),(1,iV .i64 a1),(2,iV .i64 a2),(3,.im (.sc (.func (.func 183) #[] #[]))),(8,iV .i64 x1141),(9,iV .i64 x1182)],[(0,some (.row 2 136 (x1181.map Z0)))],1⟩) fun x1182 =>.join (.sp (fun c1192 =>.el fun b1193 p1194 q1195 =>.el fun b1196 p1197 q1198 =>.bd fun t1199 e1200 =>.rg [(3,hB c1192),(7,hX Z0 p1194 q1195),(8,hL Z0 q1195),(12,hX Z0 p1197 q1198),(13,hL Z0 q1198),(14,hC [] [] [] [] Tryz.call183 (Z2e.ok b1193 b1196 t1199 e1200))] <| .out [(0,0)] [] [])
 (fun c1192 =>.rg [(3,hB c1192)] <| .out [(0,0)] [] []))
 (.st .normal (fun x1201=>⟨[(0,.own 0),(1,iV .i64 a1),(2,iV .i64 a2),(3,.im (.sc (.func (.func 183) #[] #[]))),(8,iV .i64 x1141),(9,iV .i64 x1182),(34,bV x1201)],[(0,some (.row 2 136 (x1181.map Z0)))],1⟩) fun x1201 =>.cd (fun c1202 =>.bl <| .el fun b1212 p1213 q1214 =>.el fun b1215 p1216 q1217 =>.el fun b1218 p1219 q1220 =>.rg [(8,hX Z0 p1213 q1214),(9,hL Z0 q1214),(12,hX Z0 p1216 q1217),(13,hL Z0 q1217),(14,hX Z0 p1216 q1217),(15,hS Z0 b1212 0 [iI .i64 b1212.f0,iI .u64 b1212.f1] q1217),(16,hX Z0 p1219 q1220),(17,hS Z0 b1215 0 [iI .i64 b1215.f0,iI .u64 b1215.f1] q1220)] <| .rg [] <| .back [(0,0)] [] [] rfl)
 (fun c1202 =>.out [(0,0)] [] [])))
 (.st (.exit 2) (fun x1221=>⟨[(0,.own 0),(1,iV .i64 a1),(2,iV .i64 a2),(3,.im (.sc (.func (.func 183) #[] #[]))),(8,iV .i64 x1141)],[(0,some (.row 2 136 (x1221.map Z0)))],1⟩) fun x1221 =>.rg [] <| .back [(0,0)] [] [] rfl))
 (fun c1142 =>.out [(0,0)] [] []))
 (.st (.exit 0) (fun x1222=>⟨[],[(0,some (.row 2 136 (x1222.map Z0)))],1⟩) fun x1222 =>.ret [(0,0)] [] [] ⟨[],[(0,some (.row 2 136 (x1222.map Z0)))],1⟩))
def Zj.l0 (a1:Int) (a2:Int) (a3:Int) (x1484:List Z1) (x1485:Int):Option (List Z1):=if(decide (x1485<a3))=true then((at? x1484 (i64.wrap (a2+x1485)))>>=fun b1496=>(at? x1484 (i64.wrap (a1+x1485)))>>=fun b1499=>(at? (x1484.set (Int.toNat (i64.wrap (a1+x1485))) b1496) (i64.wrap (a2+x1485)))>>=fun b1502=>Zj.l0 a1 a2 a3 ((x1484.set (Int.toNat (i64.wrap (a1+x1485))) b1496).set (Int.toNat (i64.wrap (a2+x1485))) b1499) (i64.wrap (x1485+(1:Int)))) else(some x1484)
partial_fixpoint
def Zj.f (a0:List Z1) (a1:Int) (a2:Int) (a3:Int):Option (List Z1):=(Zj.l0 a1 a2 a3 a0 0)>>=fun x1505=>some x1505
theorem Zj.ok (a0:List Z1) (a1:Int) (a2:Int) (a3:Int) (r:List Z1) (H:Zj.f a0 a1 a2 a3=some r):Pv.Fn Tryz.prog 203 [.own 0,iV .i64 a1,iV .i64 a2,iV .i64 a3,.im (.sc (.func (.func 183) #[] #[]))] [(0,some (.row 2 136 (a0.map Z0)))] 1 (fun x o=>x = .tup []∧o=[(0,some (.row 2 136 (r.map Z0)))]):=by
 unfold Zj.f at H
 exact HT.fn H (fun r =>.tup []) (fun r=>[(0,some (.row 2 136 (r.map Z0)))]) [0] Tryz.func203 rfl rfl hmx (.rg [] <| .bl <| .loop (.c2 (Zj.l0.partial_correctness a1 a2 a3)) (a0,0) [(0,0)] [] [] (fun _ =>.pr fun x1484 =>.one (fun x1485=>⟨[(0,.own 0),(1,iV .i64 a1),(2,iV .i64 a2),(3,iV .i64 a3),(10,iV .i64 x1485)],[(0,some (.row 2 136 (x1484.map Z0)))],1⟩) fun x1485 =>.rg [] <| .cd (fun c1486 =>.bl <| .el fun b1496 p1497 q1498 =>.el fun b1499 p1500 q1501 =>.el fun b1502 p1503 q1504 =>.rg [(12,hX Z0 p1497 q1498),(13,hL Z0 q1498),(18,hX Z0 p1500 q1501),(19,hL Z0 q1501),(20,hX Z0 p1500 q1501),(21,hS Z0 b1496 0 [iI .i64 b1496.f0,iI .u64 b1496.f1] q1501),(22,hX Z0 p1503 q1504),(23,hS Z0 b1499 0 [iI .i64 b1499.f0,iI .u64 b1499.f1] q1504)] <| .rg [] <| .back [(0,0)] [] [] rfl)
 (fun c1486 =>.out [(0,0)] [] []))
 (.st (.exit 0) (fun x1505=>⟨[],[(0,some (.row 2 136 (x1505.map Z0)))],1⟩) fun x1505 =>.ret [(0,0)] [] [] ⟨[],[(0,some (.row 2 136 (x1505.map Z0)))],1⟩))
def Zu.l0 (a2:Int) (x1517:List Z1) (x1518:Int) (x1519:Int):Option ((List Z1)×Int):=if(x1518 != x1519)=true then(((if(decide (x1518>x1519))=true then((Zj.f x1517 (i64.wrap (a2-x1518)) a2 x1519)>>=fun t1524=>some (t1524,i64.wrap (x1518-x1519),x1519)) else((Zj.f x1517 (i64.wrap (a2-x1518)) (i64.wrap ((i64.wrap (a2+x1519))-x1518)) x1518)>>=fun t1528=>some (t1528,x1518,i64.wrap (x1519-x1518)))):Option ((List Z1)×Int×Int))>>=fun oo=>match oo with | (x1530,x1531,x1532)=>(Zu.l0 a2 x1530 x1531 x1532)) else(some (x1517,x1518))
partial_fixpoint
def Zu.f (a0:List Z1) (a1:Int) (a2:Int) (a3:Int):Option (List Z1):=(Zu.l0 a2 a0 (i64.wrap (a2-a1)) (i64.wrap (a3-a2)))>>=fun oo=>match oo with | (x1533,x1534)=>((Zj.f x1533 (i64.wrap (a2-x1534)) a2 x1534)>>=fun t1537=>some t1537)
theorem Zu.ok (a0:List Z1) (a1:Int) (a2:Int) (a3:Int) (r:List Z1) (H:Zu.f a0 a1 a2 a3=some r):Pv.Fn Tryz.prog 201 [.own 0,iV .i64 a1,iV .i64 a2,iV .i64 a3,.im (.sc (.func (.func 183) #[] #[]))] [(0,some (.row 2 136 (a0.map Z0)))] 1 (fun x o=>x = .tup []∧o=[(0,some (.row 2 136 (r.map Z0)))]):=by
 unfold Zu.f at H
 exact HT.fn H (fun r =>.tup []) (fun r=>[(0,some (.row 2 136 (r.map Z0)))]) [0] Tryz.func201 rfl rfl hmx (.rg [] <| .rg [] <| .bl <| .loop (.c3 (Zu.l0.partial_correctness a2)) (a0,i64.wrap (a2-a1),i64.wrap (a3-a2)) [(0,0)] [] [] (fun _ =>.pr fun x1517 =>.pr fun x1518 =>.one (fun x1519=>⟨[(0,.own 0),(2,iV .i64 a2),(4,.im (.sc (.func (.func 183) #[] #[]))),(10,iV .i64 x1518),(11,iV .i64 x1519)],[(0,some (.row 2 136 (x1517.map Z0)))],1⟩) fun x1519 =>.rg [] <| .cd (fun c1520 =>.bl <| .rg [] <| .join (.cd (fun c1521 =>.bd fun t1524 e1525 =>.rg [(7,hC [(0,0)] [(0,0)] [] [] Tryz.call203 (Zj.ok x1517 (i64.wrap (a2-x1518)) a2 x1519 t1524 e1525))] <| .rg [] <| .out [(0,0)] [] [])
 (fun c1521 =>.bd fun t1528 e1529 =>.rg [(11,hC [(0,0)] [(0,0)] [] [] Tryz.call203 (Zj.ok x1517 (i64.wrap (a2-x1518)) (i64.wrap ((i64.wrap (a2+x1519))-x1518)) x1518 t1528 e1529))] <| .rg [] <| .out [(0,0)] [] []))
 (.pr fun x1530 =>.pr fun x1531 =>.st .normal (fun x1532=>⟨[(0,.own 0),(2,iV .i64 a2),(4,.im (.sc (.func (.func 183) #[] #[]))),(10,iV .i64 x1531),(11,iV .i64 x1532)],[(0,some (.row 2 136 (x1530.map Z0)))],1⟩) fun x1532 =>.back [(0,0)] [] [] rfl))
 (fun c1520 =>.out [(0,0)] [] []))
 (.pr fun x1533 =>.st (.exit 0) (fun x1534=>⟨[(0,.own 0),(2,iV .i64 a2),(4,.im (.sc (.func (.func 183) #[] #[]))),(10,iV .i64 x1534)],[(0,some (.row 2 136 (x1533.map Z0)))],1⟩) fun x1534 =>.bd fun t1537 e1538 =>.rg [(7,hC [(0,0)] [(0,0)] [] [] Tryz.call203 (Zj.ok x1533 (i64.wrap (a2-x1534)) a2 x1534 t1537 e1538))] <| .ret [(0,0)] [] [] ⟨[],[(0,some (.row 2 136 (t1537.map Z0)))],1⟩))
def Z3.l0 (a0:List Z1) (a1:Int) (x1264:Int) (x1265:Int):Option (Int):=if(decide (x1264<x1265))=true then((at? a0 (i64.wrap (Int.fdiv (u64.wrap (i64.wrap (x1264+x1265))) 2)))>>=fun b1275=>(at? a0 a1)>>=fun b1278=>(Z2e.f b1275 b1278)>>=fun t1281=>((if(decide (t1281<(0:Int)))=true then(some (i64.wrap ((i64.wrap (Int.fdiv (u64.wrap (i64.wrap (x1264+x1265))) 2))+(1:Int)),x1265)) else(some (x1264,i64.wrap (Int.fdiv (u64.wrap (i64.wrap (x1264+x1265))) 2)))):Option (Int×Int))>>=fun oo=>match oo with | (x1284,x1285)=>(Z3.l0 a0 a1 x1284 x1285)) else(some x1264)
partial_fixpoint
def Z3.l1 (x1286:Int) (x1306:List Z1) (x1307:Int):Option (List Z1):=if(decide (x1307<(i64.wrap (x1286-(1:Int)))))=true then((at? x1306 (i64.wrap (x1307+(1:Int))))>>=fun b1318=>(at? x1306 x1307)>>=fun b1321=>(at? (x1306.set (Int.toNat (x1307)) b1318) (i64.wrap (x1307+(1:Int))))>>=fun b1324=>Z3.l1 x1286 ((x1306.set (Int.toNat (x1307)) b1318).set (Int.toNat (i64.wrap (x1307+(1:Int)))) b1321) (i64.wrap (x1307+(1:Int)))) else(some x1306)
partial_fixpoint
def Z3.l2 (a0:List Z1) (a2:Int) (x1349:Int) (x1350:Int):Option (Int):=if(decide (x1349<x1350))=true then((at? a0 a2)>>=fun b1360=>(at? a0 (i64.wrap (Int.fdiv (u64.wrap (i64.wrap (x1349+x1350))) 2)))>>=fun b1363=>(Z2e.f b1360 b1363)>>=fun t1366=>((if(!(decide (t1366<(0:Int))))=true then(some (i64.wrap ((i64.wrap (Int.fdiv (u64.wrap (i64.wrap (x1349+x1350))) 2))+(1:Int)),x1350)) else(some (x1349,i64.wrap (Int.fdiv (u64.wrap (i64.wrap (x1349+x1350))) 2)))):Option (Int×Int))>>=fun oo=>match oo with | (x1369,x1370)=>(Z3.l2 a0 a2 x1369 x1370)) else(some x1349)
partial_fixpoint
def Z3.l3 (x1371:Int) (x1391:List Z1) (x1392:Int):Option (List Z1):=if(decide (x1392>x1371))=true then((at? x1391 (i64.wrap (x1392-(1:Int))))>>=fun b1403=>(at? x1391 x1392)>>=fun b1406=>(at? (x1391.set (Int.toNat (x1392)) b1403) (i64.wrap (x1392-(1:Int))))>>=fun b1409=>Z3.l3 x1371 ((x1391.set (Int.toNat (x1392)) b1403).set (Int.toNat (i64.wrap (x1392-(1:Int)))) b1406) (i64.wrap (x1392-(1:Int)))) else(some x1391)
partial_fixpoint
def Z3.l4 (a0:List Z1) (a1:Int) (a2:Int) (a3:Int) (x1436:Int) (x1437:Int):Option (Int):=if(decide (x1436<x1437))=true then((at? a0 (i64.wrap ((i64.wrap ((i64.wrap ((i64.wrap (Int.fdiv (u64.wrap (i64.wrap (a1+a3))) 2))+a2))-(1:Int)))-(i64.wrap (Int.fdiv (u64.wrap (i64.wrap (x1436+x1437))) 2)))))>>=fun b1447=>(at? a0 (i64.wrap (Int.fdiv (u64.wrap (i64.wrap (x1436+x1437))) 2)))>>=fun b1450=>(Z2e.f b1447 b1450)>>=fun t1453=>((if(!(decide (t1453<(0:Int))))=true then(some (i64.wrap ((i64.wrap (Int.fdiv (u64.wrap (i64.wrap (x1436+x1437))) 2))+(1:Int)),x1437)) else(some (x1436,i64.wrap (Int.fdiv (u64.wrap (i64.wrap (x1436+x1437))) 2)))):Option (Int×Int))>>=fun oo=>match oo with | (x1456,x1457)=>(Z3.l4 a0 a1 a2 a3 x1456 x1457)) else(some x1436)
partial_fixpoint
def Z3.f (a0:List Z1) (a1:Int) (a2:Int) (a3:Int):Option (List Z1):=if((i64.wrap (a2-a1))==(1:Int))=true then((Z3.l0 a0 a1 a2 a3)>>=fun x1286=>(Z3.l1 x1286 a0 a1)>>=fun x1327=>some x1327) else(if((i64.wrap (a3-a2))==(1:Int))=true then((Z3.l2 a0 a2 a1 a2)>>=fun x1371=>(Z3.l3 x1371 a0 a2)>>=fun x1412=>some x1412) else(((if(decide (a2>(i64.wrap (Int.fdiv (u64.wrap (i64.wrap (a1+a3))) 2))))=true then(some (i64.wrap ((i64.wrap ((i64.wrap (Int.fdiv (u64.wrap (i64.wrap (a1+a3))) 2))+a2))-a3),i64.wrap (Int.fdiv (u64.wrap (i64.wrap (a1+a3))) 2))) else(some (a1,a2))):Option (Int×Int))>>=fun oo=>match oo with | (x1414,x1415)=>((Z3.l4 a0 a1 a2 a3 x1414 x1415)>>=fun x1458=>((if(decide (x1458<a2))=true then(some (decide (a2<(i64.wrap ((i64.wrap ((i64.wrap (Int.fdiv (u64.wrap (i64.wrap (a1+a3))) 2))+a2))-x1458))))) else(some false)):Option (Bool))>>=fun x1461=>((if x1461=true then((Zu.f a0 x1458 a2 (i64.wrap ((i64.wrap ((i64.wrap (Int.fdiv (u64.wrap (i64.wrap (a1+a3))) 2))+a2))-x1458)))>>=fun t1541=>some t1541) else(some a0)):Option (List Z1))>>=fun x1543=>((if(decide (a1<x1458))=true then(some (decide (x1458<(i64.wrap (Int.fdiv (u64.wrap (i64.wrap (a1+a3))) 2))))) else(some false)):Option (Bool))>>=fun x1546=>((if x1546=true then((Z3.f x1543 a1 x1458 (i64.wrap (Int.fdiv (u64.wrap (i64.wrap (a1+a3))) 2)))>>=fun t1550=>some t1550) else(some x1543)):Option (List Z1))>>=fun x1552=>((if(decide ((i64.wrap (Int.fdiv (u64.wrap (i64.wrap (a1+a3))) 2))<(i64.wrap ((i64.wrap ((i64.wrap (Int.fdiv (u64.wrap (i64.wrap (a1+a3))) 2))+a2))-x1458))))=true then(some (decide ((i64.wrap ((i64.wrap ((i64.wrap (Int.fdiv (u64.wrap (i64.wrap (a1+a3))) 2))+a2))-x1458))<a3))) else(some false)):Option (Bool))>>=fun x1555=>((if x1555=true then((Z3.f x1552 (i64.wrap (Int.fdiv (u64.wrap (i64.wrap (a1+a3))) 2)) (i64.wrap ((i64.wrap ((i64.wrap (Int.fdiv (u64.wrap (i64.wrap (a1+a3))) 2))+a2))-x1458)) a3)>>=fun t1559=>some t1559) else(some x1552)):Option (List Z1))>>=fun x1561=>some x1561)))
partial_fixpoint
theorem Z3.ok (a0:List Z1) (a1:Int) (a2:Int) (a3:Int) (r:List Z1) (H:Z3.f a0 a1 a2 a3=some r):Pv.Fn Tryz.prog 196 [.own 0,iV .i64 a1,iV .i64 a2,iV .i64 a3,.im (.sc (.func (.func 183) #[] #[]))] [(0,some (.row 2 136 (a0.map Z0)))] 1 (fun x o=>x = .tup []∧o=[(0,some (.row 2 136 (r.map Z0)))]):=by
 refine Z3.f.partial_correctness (motive:=fun a0 a1 a2 a3 r=>Pv.Fn Tryz.prog 196 [.own 0,iV .i64 a1,iV .i64 a2,iV .i64 a3,.im (.sc (.func (.func 183) #[] #[]))] [(0,some (.row 2 136 (a0.map Z0)))] 1 (fun x o=>x = .tup []∧o=[(0,some (.row 2 136 (r.map Z0)))])) ?_ a0 a1 a2 a3 r H
 clear H a0 a1 a2 a3 r;intro self ihF a0 a1 a2 a3 r H
 exact HT.fn H (fun r =>.tup []) (fun r=>[(0,some (.row 2 136 (r.map Z0)))]) [0] Tryz.func196 rfl rfl hmx (.rg [] <| .cd (fun c1243 =>.rg [] <| .rg [] <| .bl <| .loop (.c2 (Z3.l0.partial_correctness a0 a1)) (a2,a3) [(0,0)] [] [] (fun _ =>.pr fun x1264 =>.one (fun x1265=>⟨[(0,.own 0),(1,iV .i64 a1),(4,.im (.sc (.func (.func 183) #[] #[]))),(10,iV .i64 x1264),(11,iV .i64 x1265)],[(0,some (.row 2 136 (a0.map Z0)))],1⟩) fun x1265 =>.rg [] <| .cd (fun c1266 =>.bl <| .rg [(4,hK 1)] <| .el fun b1275 p1276 q1277 =>.el fun b1278 p1279 q1280 =>.bd fun t1281 e1282 =>.rg [(3,hX Z0 p1276 q1277),(4,hL Z0 q1277),(7,hX Z0 p1279 q1280),(8,hL Z0 q1280),(9,hC [] [] [] [] Tryz.call183 (Z2e.ok b1275 b1278 t1281 e1282))] <| .join (.cd (fun c1283 =>.rg [] <| .out [(0,0)] [] [])
 (fun c1283 =>.rg [] <| .out [(0,0)] [] []))
 (.pr fun x1284 =>.st .normal (fun x1285=>⟨[(0,.own 0),(1,iV .i64 a1),(4,.im (.sc (.func (.func 183) #[] #[]))),(10,iV .i64 x1284),(11,iV .i64 x1285)],[(0,some (.row 2 136 (a0.map Z0)))],1⟩) fun x1285 =>.back [(0,0)] [] [] rfl))
 (fun c1266 =>.out [(0,0)] [] []))
 (.st (.exit 0) (fun x1286=>⟨[(0,.own 0),(1,iV .i64 a1),(10,iV .i64 x1286)],[(0,some (.row 2 136 (a0.map Z0)))],1⟩) fun x1286 =>.rg [] <| .bl <| .loop (.c2 (Z3.l1.partial_correctness x1286)) (a0,a1) [(0,0)] [] [] (fun _ =>.pr fun x1306 =>.one (fun x1307=>⟨[(0,.own 0),(10,iV .i64 x1286),(13,iV .i64 x1307)],[(0,some (.row 2 136 (x1306.map Z0)))],1⟩) fun x1307 =>.rg [] <| .cd (fun c1308 =>.bl <| .el fun b1318 p1319 q1320 =>.el fun b1321 p1322 q1323 =>.el fun b1324 p1325 q1326 =>.rg [(8,hX Z0 p1319 q1320),(9,hL Z0 q1320),(12,hX Z0 p1322 q1323),(13,hL Z0 q1323),(14,hX Z0 p1322 q1323),(15,hS Z0 b1318 0 [iI .i64 b1318.f0,iI .u64 b1318.f1] q1323),(16,hX Z0 p1325 q1326),(17,hS Z0 b1321 0 [iI .i64 b1321.f0,iI .u64 b1321.f1] q1326)] <| .rg [] <| .back [(0,0)] [] [] rfl)
 (fun c1308 =>.out [(0,0)] [] []))
 (.st (.exit 2) (fun x1327=>⟨[],[(0,some (.row 2 136 (x1327.map Z0)))],1⟩) fun x1327 =>.ret [(0,0)] [] [] ⟨[],[(0,some (.row 2 136 (x1327.map Z0)))],1⟩)))
 (fun c1243 =>.rg [] <| .cd (fun c1328 =>.rg [] <| .rg [] <| .bl <| .loop (.c2 (Z3.l2.partial_correctness a0 a2)) (a1,a2) [(0,0)] [] [] (fun _ =>.pr fun x1349 =>.one (fun x1350=>⟨[(0,.own 0),(2,iV .i64 a2),(4,.im (.sc (.func (.func 183) #[] #[]))),(14,iV .i64 x1349),(15,iV .i64 x1350)],[(0,some (.row 2 136 (a0.map Z0)))],1⟩) fun x1350 =>.rg [] <| .cd (fun c1351 =>.bl <| .rg [(4,hK 1)] <| .el fun b1360 p1361 q1362 =>.el fun b1363 p1364 q1365 =>.bd fun t1366 e1367 =>.rg [(3,hX Z0 p1361 q1362),(4,hL Z0 q1362),(7,hX Z0 p1364 q1365),(8,hL Z0 q1365),(9,hC [] [] [] [] Tryz.call183 (Z2e.ok b1360 b1363 t1366 e1367))] <| .join (.cd (fun c1368 =>.rg [] <| .out [(0,0)] [] [])
 (fun c1368 =>.rg [] <| .out [(0,0)] [] []))
 (.pr fun x1369 =>.st .normal (fun x1370=>⟨[(0,.own 0),(2,iV .i64 a2),(4,.im (.sc (.func (.func 183) #[] #[]))),(14,iV .i64 x1369),(15,iV .i64 x1370)],[(0,some (.row 2 136 (a0.map Z0)))],1⟩) fun x1370 =>.back [(0,0)] [] [] rfl))
 (fun c1351 =>.out [(0,0)] [] []))
 (.st (.exit 4) (fun x1371=>⟨[(0,.own 0),(2,iV .i64 a2),(14,iV .i64 x1371)],[(0,some (.row 2 136 (a0.map Z0)))],1⟩) fun x1371 =>.rg [] <| .bl <| .loop (.c2 (Z3.l3.partial_correctness x1371)) (a0,a2) [(0,0)] [] [] (fun _ =>.pr fun x1391 =>.one (fun x1392=>⟨[(0,.own 0),(14,iV .i64 x1371),(17,iV .i64 x1392)],[(0,some (.row 2 136 (x1391.map Z0)))],1⟩) fun x1392 =>.rg [] <| .cd (fun c1393 =>.bl <| .el fun b1403 p1404 q1405 =>.el fun b1406 p1407 q1408 =>.el fun b1409 p1410 q1411 =>.rg [(8,hX Z0 p1404 q1405),(9,hL Z0 q1405),(12,hX Z0 p1407 q1408),(13,hL Z0 q1408),(14,hX Z0 p1407 q1408),(15,hS Z0 b1403 0 [iI .i64 b1403.f0,iI .u64 b1403.f1] q1408),(16,hX Z0 p1410 q1411),(17,hS Z0 b1406 0 [iI .i64 b1406.f0,iI .u64 b1406.f1] q1411)] <| .rg [] <| .back [(0,0)] [] [] rfl)
 (fun c1393 =>.out [(0,0)] [] []))
 (.st (.exit 6) (fun x1412=>⟨[],[(0,some (.row 2 136 (x1412.map Z0)))],1⟩) fun x1412 =>.ret [(0,0)] [] [] ⟨[],[(0,some (.row 2 136 (x1412.map Z0)))],1⟩)))
 (fun c1328 =>.rg [(4,hK 1)] <| .rg [] <| .rg [] <| .rg [] <| .join (.cd (fun c1413 =>.rg [] <| .rg [] <| .out [(0,0)] [] [])
 (fun c1413 =>.rg [] <| .rg [] <| .out [(0,0)] [] []))
 (.pr fun x1414 =>.st .normal (fun x1415=>⟨[(0,.own 0),(1,iV .i64 a1),(2,iV .i64 a2),(3,iV .i64 a3),(4,.im (.sc (.func (.func 183) #[] #[]))),(18,iV .i64 (i64.wrap (Int.fdiv (u64.wrap (i64.wrap (a1+a3))) 2))),(19,iV .i64 (i64.wrap ((i64.wrap (Int.fdiv (u64.wrap (i64.wrap (a1+a3))) 2))+a2))),(20,iV .i64 x1414),(21,iV .i64 x1415)],[(0,some (.row 2 136 (a0.map Z0)))],1⟩) fun x1415 =>.rg [] <| .bl <| .loop (.c2 (Z3.l4.partial_correctness a0 a1 a2 a3)) (x1414,x1415) [(0,0)] [] [] (fun _ =>.pr fun x1436 =>.one (fun x1437=>⟨[(0,.own 0),(1,iV .i64 a1),(2,iV .i64 a2),(3,iV .i64 a3),(4,.im (.sc (.func (.func 183) #[] #[]))),(18,iV .i64 (i64.wrap (Int.fdiv (u64.wrap (i64.wrap (a1+a3))) 2))),(19,iV .i64 (i64.wrap ((i64.wrap (Int.fdiv (u64.wrap (i64.wrap (a1+a3))) 2))+a2))),(20,iV .i64 x1436),(21,iV .i64 x1437),(22,iV .i64 (i64.wrap ((i64.wrap ((i64.wrap (Int.fdiv (u64.wrap (i64.wrap (a1+a3))) 2))+a2))-(1:Int))))],[(0,some (.row 2 136 (a0.map Z0)))],1⟩) fun x1437 =>.rg [] <| .cd (fun c1438 =>.bl <| .rg [(4,hK 1)] <| .el fun b1447 p1448 q1449 =>.el fun b1450 p1451 q1452 =>.bd fun t1453 e1454 =>.rg [(5,hX Z0 p1448 q1449),(6,hL Z0 q1449),(9,hX Z0 p1451 q1452),(10,hL Z0 q1452),(11,hC [] [] [] [] Tryz.call183 (Z2e.ok b1447 b1450 t1453 e1454))] <| .join (.cd (fun c1455 =>.rg [] <| .out [(0,0)] [] [])
 (fun c1455 =>.rg [] <| .out [(0,0)] [] []))
 (.pr fun x1456 =>.st .normal (fun x1457=>⟨[(0,.own 0),(1,iV .i64 a1),(2,iV .i64 a2),(3,iV .i64 a3),(4,.im (.sc (.func (.func 183) #[] #[]))),(18,iV .i64 (i64.wrap (Int.fdiv (u64.wrap (i64.wrap (a1+a3))) 2))),(19,iV .i64 (i64.wrap ((i64.wrap (Int.fdiv (u64.wrap (i64.wrap (a1+a3))) 2))+a2))),(20,iV .i64 x1456),(21,iV .i64 x1457),(22,iV .i64 (i64.wrap ((i64.wrap ((i64.wrap (Int.fdiv (u64.wrap (i64.wrap (a1+a3))) 2))+a2))-(1:Int))))],[(0,some (.row 2 136 (a0.map Z0)))],1⟩) fun x1457 =>.back [(0,0)] [] [] rfl))
 (fun c1438 =>.out [(0,0)] [] []))
 (.st (.exit 8) (fun x1458=>⟨[(0,.own 0),(1,iV .i64 a1),(2,iV .i64 a2),(3,iV .i64 a3),(4,.im (.sc (.func (.func 183) #[] #[]))),(18,iV .i64 (i64.wrap (Int.fdiv (u64.wrap (i64.wrap (a1+a3))) 2))),(19,iV .i64 (i64.wrap ((i64.wrap (Int.fdiv (u64.wrap (i64.wrap (a1+a3))) 2))+a2))),(20,iV .i64 x1458)],[(0,some (.row 2 136 (a0.map Z0)))],1⟩) fun x1458 =>.rg [] <| .join (.sp (fun c1460 =>.rg [(3,hB c1460)] <| .out [(0,0)] [] [])
 (fun c1460 =>.rg [(3,hB c1460)] <| .out [(0,0)] [] []))
 (.st .normal (fun x1461=>⟨[(0,.own 0),(1,iV .i64 a1),(2,iV .i64 a2),(3,iV .i64 a3),(4,.im (.sc (.func (.func 183) #[] #[]))),(18,iV .i64 (i64.wrap (Int.fdiv (u64.wrap (i64.wrap (a1+a3))) 2))),(20,iV .i64 x1458),(24,iV .i64 (i64.wrap ((i64.wrap ((i64.wrap (Int.fdiv (u64.wrap (i64.wrap (a1+a3))) 2))+a2))-x1458))),(185,bV x1461)],[(0,some (.row 2 136 (a0.map Z0)))],1⟩) fun x1461 =>.join (.cd (fun c1462 =>.bd fun t1541 e1542 =>.rg [(5,hC [(0,0)] [(0,0)] [] [] Tryz.call201 (Zu.ok a0 x1458 a2 (i64.wrap ((i64.wrap ((i64.wrap (Int.fdiv (u64.wrap (i64.wrap (a1+a3))) 2))+a2))-x1458)) t1541 e1542))] <| .out [(0,0)] [] [])
 (fun c1462 =>.out [(0,0)] [] []))
 (.st .normal (fun x1543=>⟨[(0,.own 0),(1,iV .i64 a1),(3,iV .i64 a3),(4,.im (.sc (.func (.func 183) #[] #[]))),(18,iV .i64 (i64.wrap (Int.fdiv (u64.wrap (i64.wrap (a1+a3))) 2))),(20,iV .i64 x1458),(24,iV .i64 (i64.wrap ((i64.wrap ((i64.wrap (Int.fdiv (u64.wrap (i64.wrap (a1+a3))) 2))+a2))-x1458)))],[(0,some (.row 2 136 (x1543.map Z0)))],1⟩) fun x1543 =>.join (.sp (fun c1545 =>.rg [(3,hB c1545)] <| .out [(0,0)] [] [])
 (fun c1545 =>.rg [(3,hB c1545)] <| .out [(0,0)] [] []))
 (.st .normal (fun x1546=>⟨[(0,.own 0),(1,iV .i64 a1),(3,iV .i64 a3),(4,.im (.sc (.func (.func 183) #[] #[]))),(18,iV .i64 (i64.wrap (Int.fdiv (u64.wrap (i64.wrap (a1+a3))) 2))),(20,iV .i64 x1458),(24,iV .i64 (i64.wrap ((i64.wrap ((i64.wrap (Int.fdiv (u64.wrap (i64.wrap (a1+a3))) 2))+a2))-x1458))),(199,bV x1546)],[(0,some (.row 2 136 (x1543.map Z0)))],1⟩) fun x1546 =>.join (.cd (fun c1547 =>.bd fun t1550 e1551 =>.rg [(5,hC [(0,0)] [(0,0)] [] [] Tryz.call196 (ihF x1543 a1 x1458 (i64.wrap (Int.fdiv (u64.wrap (i64.wrap (a1+a3))) 2)) _ e1551))] <| .out [(0,0)] [] [])
 (fun c1547 =>.out [(0,0)] [] []))
 (.st .normal (fun x1552=>⟨[(0,.own 0),(3,iV .i64 a3),(4,.im (.sc (.func (.func 183) #[] #[]))),(18,iV .i64 (i64.wrap (Int.fdiv (u64.wrap (i64.wrap (a1+a3))) 2))),(24,iV .i64 (i64.wrap ((i64.wrap ((i64.wrap (Int.fdiv (u64.wrap (i64.wrap (a1+a3))) 2))+a2))-x1458)))],[(0,some (.row 2 136 (x1552.map Z0)))],1⟩) fun x1552 =>.join (.sp (fun c1554 =>.rg [(3,hB c1554)] <| .out [(0,0)] [] [])
 (fun c1554 =>.rg [(3,hB c1554)] <| .out [(0,0)] [] []))
 (.st .normal (fun x1555=>⟨[(0,.own 0),(3,iV .i64 a3),(4,.im (.sc (.func (.func 183) #[] #[]))),(18,iV .i64 (i64.wrap (Int.fdiv (u64.wrap (i64.wrap (a1+a3))) 2))),(24,iV .i64 (i64.wrap ((i64.wrap ((i64.wrap (Int.fdiv (u64.wrap (i64.wrap (a1+a3))) 2))+a2))-x1458))),(213,bV x1555)],[(0,some (.row 2 136 (x1552.map Z0)))],1⟩) fun x1555 =>.join (.cd (fun c1556 =>.bd fun t1559 e1560 =>.rg [(5,hC [(0,0)] [(0,0)] [] [] Tryz.call196 (ihF x1552 (i64.wrap (Int.fdiv (u64.wrap (i64.wrap (a1+a3))) 2)) (i64.wrap ((i64.wrap ((i64.wrap (Int.fdiv (u64.wrap (i64.wrap (a1+a3))) 2))+a2))-x1458)) a3 _ e1560))] <| .out [(0,0)] [] [])
 (fun c1556 =>.out [(0,0)] [] []))
 (.st .normal (fun x1561=>⟨[],[(0,some (.row 2 136 (x1561.map Z0)))],1⟩) fun x1561 =>.ret [(0,0)] [] [] ⟨[],[(0,some (.row 2 136 (x1561.map Z0)))],1⟩)))))))))))
def Zg.l0 (a1:Int) (x1227:List Z1) (x1228:Int) (x1229:Int):Option ((List Z1)×Int):=if(decide (x1229≤a1))=true then((Zf.f x1227 x1228 x1229)>>=fun t1233=>Zg.l0 a1 t1233 x1229 (i64.wrap (x1229+(20:Int)))) else(some (x1227,x1228))
partial_fixpoint
def Zg.l2 (a1:Int) (x1583:Int) (x1590:List Z1) (x1591:Int) (x1592:Int):Option ((List Z1)×Int):=if(decide (x1592≤a1))=true then((Z3.f x1590 x1591 (i64.wrap (x1591+x1583)) x1592)>>=fun t1596=>Zg.l2 a1 x1583 t1596 x1592 (i64.wrap (x1592+(i64.wrap ((2:Int)*x1583))))) else(some (x1590,x1591))
partial_fixpoint
def Zg.l1 (a1:Int) (x1582:List Z1) (x1583:Int):Option (List Z1):=if(decide (x1583<a1))=true then((Zg.l2 a1 x1583 x1582 0 (i64.wrap ((2:Int)*x1583)))>>=fun oo=>match oo with | (x1598,x1599)=>(((if(decide ((i64.wrap (x1599+x1583))<a1))=true then((Z3.f x1598 x1599 (i64.wrap (x1599+x1583)) a1)>>=fun t1603=>some t1603) else(some x1598)):Option (List Z1))>>=fun x1605=>Zg.l1 a1 x1605 (i64.wrap (x1583*(2:Int))))) else(some x1582)
partial_fixpoint
def Zg.f (a0:List Z1) (a1:Int):Option (List Z1):=(Zg.l0 a1 a0 0 20)>>=fun oo=>match oo with | (x1235,x1236)=>((Zf.f x1235 x1236 a1)>>=fun t1239=>(Zg.l1 a1 t1239 20)>>=fun x1606=>some x1606)
theorem Zg.ok (a0:List Z1) (a1:Int) (r:List Z1) (H:Zg.f a0 a1=some r):Pv.Fn Tryz.prog 189 [.own 0,iV .i64 a1,.im (.sc (.func (.func 183) #[] #[]))] [(0,some (.row 2 136 (a0.map Z0)))] 1 (fun x o=>x = .tup []∧o=[(0,some (.row 2 136 (r.map Z0)))]):=by
 unfold Zg.f at H
 exact HT.fn H (fun r =>.tup []) (fun r=>[(0,some (.row 2 136 (r.map Z0)))]) [0] Tryz.func189 rfl rfl hmx (.rg [] <| .rg [] <| .bl <| .loop (.c3 (Zg.l0.partial_correctness a1)) (a0,0,20) [(0,0)] [] [] (fun _ =>.pr fun x1227 =>.pr fun x1228 =>.one (fun x1229=>⟨[(0,.own 0),(1,iV .i64 a1),(2,.im (.sc (.func (.func 183) #[] #[]))),(6,iV .i64 20),(7,iV .i64 x1228),(8,iV .i64 x1229)],[(0,some (.row 2 136 (x1227.map Z0)))],1⟩) fun x1229 =>.rg [] <| .cd (fun c1230 =>.bl <| .bd fun t1233 e1234 =>.rg [(4,hC [(0,0)] [(0,0)] [] [] Tryz.call195 (Zf.ok x1227 x1228 x1229 t1233 e1234))] <| .rg [] <| .rg [] <| .back [(0,0)] [] [] rfl)
 (fun c1230 =>.out [(0,0)] [] []))
 (.pr fun x1235 =>.st (.exit 0) (fun x1236=>⟨[(0,.own 0),(1,iV .i64 a1),(2,.im (.sc (.func (.func 183) #[] #[]))),(6,iV .i64 20),(7,iV .i64 x1236)],[(0,some (.row 2 136 (x1235.map Z0)))],1⟩) fun x1236 =>.bd fun t1239 e1240 =>.rg [(4,hC [(0,0)] [(0,0)] [] [] Tryz.call195 (Zf.ok x1235 x1236 a1 t1239 e1240))] <| .bl <| .loop (.c2 (Zg.l1.partial_correctness a1)) (t1239,20) [(0,0)] [] [] (fun _ =>.pr fun x1582 =>.one (fun x1583=>⟨[(0,.own 0),(1,iV .i64 a1),(2,.im (.sc (.func (.func 183) #[] #[]))),(6,iV .i64 x1583)],[(0,some (.row 2 136 (x1582.map Z0)))],1⟩) fun x1583 =>.rg [] <| .cd (fun c1584 =>.bl <| .rg [] <| .bl <| .loop (.c3 (Zg.l2.partial_correctness a1 x1583)) (x1582,0,i64.wrap ((2:Int)*x1583)) [(0,0)] [] [] (fun _ =>.pr fun x1590 =>.pr fun x1591 =>.one (fun x1592=>⟨[(0,.own 0),(1,iV .i64 a1),(2,.im (.sc (.func (.func 183) #[] #[]))),(6,iV .i64 x1583),(7,iV .i64 x1591),(8,iV .i64 x1592)],[(0,some (.row 2 136 (x1590.map Z0)))],1⟩) fun x1592 =>.rg [] <| .cd (fun c1593 =>.bl <| .bd fun t1596 e1597 =>.rg [(7,hC [(0,0)] [(0,0)] [] [] Tryz.call196 (Z3.ok x1590 x1591 (i64.wrap (x1591+x1583)) x1592 t1596 e1597))] <| .rg [] <| .rg [] <| .back [(0,0)] [] [] rfl)
 (fun c1593 =>.out [(0,0)] [] []))
 (.pr fun x1598 =>.st (.exit 4) (fun x1599=>⟨[(0,.own 0),(1,iV .i64 a1),(2,.im (.sc (.func (.func 183) #[] #[]))),(6,iV .i64 x1583),(7,iV .i64 x1599)],[(0,some (.row 2 136 (x1598.map Z0)))],1⟩) fun x1599 =>.rg [] <| .rg [] <| .join (.cd (fun c1600 =>.bd fun t1603 e1604 =>.rg [(5,hC [(0,0)] [(0,0)] [] [] Tryz.call196 (Z3.ok x1598 x1599 (i64.wrap (x1599+x1583)) a1 t1603 e1604))] <| .out [(0,0)] [] [])
 (fun c1600 =>.out [(0,0)] [] []))
 (.st .normal (fun x1605=>⟨[(0,.own 0),(1,iV .i64 a1),(2,.im (.sc (.func (.func 183) #[] #[]))),(6,iV .i64 x1583)],[(0,some (.row 2 136 (x1605.map Z0)))],1⟩) fun x1605 =>.rg [] <| .back [(0,0)] [] [] rfl)))
 (fun c1584 =>.out [(0,0)] [] []))
 (.st (.exit 2) (fun x1606=>⟨[],[(0,some (.row 2 136 (x1606.map Z0)))],1⟩) fun x1606 =>.ret [(0,0)] [] [] ⟨[],[(0,some (.row 2 136 (x1606.map Z0)))],1⟩)))
def Z0b.f (a0:List Z1):Option (List Z1):=(Zg.f a0 (a0.length:Int))>>=fun t1609=>some t1609
theorem Z0b.ok (a0:List Z1) (r:List Z1) (H:Z0b.f a0=some r):Pv.Fn Tryz.prog 182 [.own 0,.im (.sc (.func (.func 183) #[] #[]))] [(0,some (.row 2 136 (a0.map Z0)))] 1 (fun x o=>x = .tup []∧o=[(0,some (.row 2 136 (r.map Z0)))]):=by
 unfold Z0b.f at H
 exact HT.fn H (fun r =>.tup []) (fun r=>[(0,some (.row 2 136 (r.map Z0)))]) [0] Tryz.func182 rfl rfl hmx (.bd fun t1609 e1610 =>.rg [(2,hG Z0 a0),(4,hC [(0,0)] [(0,0)] [] [] Tryz.call189 (Zg.ok a0 (a0.length:Int) t1609 e1610))] <| .ret [(0,0)] [] [] ⟨[],[(0,some (.row 2 136 (t1609.map Z0)))],1⟩)
def Z1u.l0 (t1613:List Z1) (x1626:List Z1) (x1627:Int):Option (((List Z1)×Int) ⊕ (List Z1)):=if(decide (x1627<(t1613.length:Int)))=true then((at? t1613 x1627)>>=fun b1632=>((if(b1632.f1==(0:Int))=true then(some (.inr x1626)) else(((if(decide ((x1626.length:Int)>(0:Int)))=true then((at? x1626 (i64.wrap ((x1626.length:Int)-(1:Int))))>>=fun b1641=>some (b1641.f0==b1632.f0)) else(some false)):Option (Bool))>>=fun x1644=>((if x1644=true then((at? x1626 (i64.wrap ((x1626.length:Int)-(1:Int))))>>=fun b1651=>(Z39.f [b1651.f1,b1632.f1])>>=fun t1654=>if(t1654.2 != (0:Int))=true then(some (.inl ([],t1654.2))) else(some (.inr (x1626.set (Int.toNat (i64.wrap ((x1626.length:Int)-(1:Int)))) (⟨b1651.f0,t1654.1⟩:Z1))))) else((chk ((x1626.length+[b1632].length)*16≤140737488355328))>>=fun _=>some (.inr (x1626++[b1632])))):Option (((List Z1)×Int) ⊕ (List Z1)))>>=fun oo=>match oo with | .inl rr=>(some (.inl rr)) | .inr x1659=>(some (.inr x1659)))):Option (((List Z1)×Int) ⊕ (List Z1)))>>=fun oo=>match oo with | .inl rr=>(some (.inl rr)) | .inr x1660=>(Z1u.l0 t1613 x1660 (i64.wrap (x1627+(1:Int))))) else(some (.inr x1626))
partial_fixpoint
def Z1u.f (a0:List Z1):Option ((List Z1)×Int):=(Z0r.f a0)>>=fun t1040=>(Z0b.f t1040)>>=fun t1613=>(Z1u.l0 t1613 [] 0)>>=fun oo=>match oo with | .inl rr=>(some rr) | .inr x1661=>(some (x1661,0))
theorem Z1u.ok (a0:List Z1) (r:(List Z1)×Int) (H:Z1u.f a0=some r):Pv.Fn Tryz.prog 171 [.im (.row (a0.map Z0))] [] 0 (fun x o=>x = .tup [.own 0,iV .i64 r.2]∧o=[(0,some (.row 2 136 (r.1.map Z0)))]):=by
 unfold Z1u.f at H
 exact HT.fn H (fun r =>.tup [.own 0,iV .i64 r.2]) (fun r=>[(0,some (.row 2 136 (r.1.map Z0)))]) [0] Tryz.func171 rfl rfl hmx (.rg [] <| .rg [] <| .bd fun t1040 e1041 =>.rg [(1,hC [] [(0,0)] [] [0] Tryz.call181 (Z0r.ok a0 t1040 e1041))] <| .bd fun t1613 e1614 =>.rg [(1,hC [(0,0)] [(0,0)] [] [] Tryz.call182 (Z0b.ok t1040 t1613 e1614))] <| .rg [(1,hG Z0 t1613)] <| .bl <| .loop (.c2 (Z1u.l0.partial_correctness t1613)) ([],0) [(0,7)] [] [6] (fun _ =>.pr fun x1626 =>.one (fun x1627=>⟨[(4,.own 6),(14,.own 7),(15,iV .i64 (t1613.length:Int)),(16,iV .i64 x1627)],[(6,some (.row 2 136 (x1626.map Z0))),(7,some (.row 2 136 (t1613.map Z0)))],0⟩) fun x1627 =>.rg [] <| .cd (fun c1628 =>.bl <| .el fun b1632 p1633 q1634 =>.rg [(0,hX Z0 p1633 q1634),(1,hL Z0 q1634),(2,⟨.k 8,.n⟩)] <| .rg [(1,hG Z0 x1626)] <| .bl <| .rg [] <| .join (.cd (fun c1635 =>.out [(6,17),(7,18)] [] [])
 (fun c1635 =>.join (.sp (fun c1640 =>.el fun b1641 p1642 q1643 =>.rg [(2,hB c1640),(6,hX Z0 p1642 q1643),(8,hL Z0 q1643)] <| .out [(6,9),(8,10),(7,11)] [] [])
 (fun c1640 =>.rg [(2,hB c1640)] <| .out [(6,9),(8,10),(7,11)] [] []))
 (.st .normal (fun x1644=>⟨[(4,.own 9),(6,.ptr 10 0 0),(7,iV .i64 (x1626.length:Int)),(14,.own 11),(15,iV .i64 (t1613.length:Int)),(16,iV .i64 x1627),(30,bV x1644)],[(9,some (.row 2 136 (x1626.map Z0))),(10,some (.box 136 (Z7b b1632))),(11,some (.row 2 136 (t1613.map Z0)))],0⟩) fun x1644 =>.join (.cd (fun c1645 =>.el fun b1651 p1652 q1653 =>.bd fun t1654 e1655 =>.rg [(3,hX Z0 p1652 q1653),(5,hL Z0 q1653),(8,hQ 12 (Z2 .u64) ([b1651.f1,b1632.f1]:List Int)),(9,hC [] [] [12] [] Tryz.call126 (Z39.ok [b1651.f1,b1632.f1] t1654 e1655))] <| .rg [] <| .cd (fun c1656 =>.rg [] <| .ret [] [] [0] ⟨[(2,.own 0),(3,iV .i64 t1654.2)],[(0,some (.row 2 136 ([].map Z0)))],0⟩)
 (fun c1656 =>.rg [(4,hX Z0 p1652 q1653),(6,hS Z0 (⟨b1651.f0,t1654.1⟩:Z1) 1 [iI .u64 t1654.1] q1653)] <| .out [(9,15),(11,16)] [] []))
 (fun c1645 =>.ck fun c1658 =>.rg [(2,hQ 13 Z0 ([b1632]:List Z1)),(3,hP 14 Z0 2 c1658)] <| .out [(14,15),(11,16)] [] []))
 (.sm (.rt (fun rr =>.tup [.own 0,iV .i64 rr.2]) (fun rr=>[(0,some (.row 2 136 (rr.1.map Z0)))]))
 (.st .normal (fun x1659=>⟨[(4,.own 15),(14,.own 16),(15,iV .i64 (t1613.length:Int)),(16,iV .i64 x1627)],[(15,some (.row 2 136 (x1659.map Z0))),(16,some (.row 2 136 (t1613.map Z0)))],0⟩) fun x1659 =>.out [(15,17),(16,18)] [] [])))))
 (.sm (.rt (fun rr =>.tup [.own 0,iV .i64 rr.2]) (fun rr=>[(0,some (.row 2 136 (rr.1.map Z0)))]))
 (.st .normal (fun x1660=>⟨[(4,.own 17),(14,.own 18),(15,iV .i64 (t1613.length:Int)),(16,iV .i64 x1627)],[(17,some (.row 2 136 (x1660.map Z0))),(18,some (.row 2 136 (t1613.map Z0)))],0⟩) fun x1660 =>.rg [] <| .back [(17,6),(18,7)] [] [] rfl)))
 (fun c1628 =>.out [(6,19)] [] []))
 (.sm (.rt (fun rr =>.tup [.own 0,iV .i64 rr.2]) (fun rr=>[(0,some (.row 2 136 (rr.1.map Z0)))]))
 (.st (.exit 0) (fun x1661=>⟨[(4,.own 19)],[(19,some (.row 2 136 (x1661.map Z0)))],0⟩) fun x1661 =>.rg [] <| .ret [(19,0)] [] [] ⟨[(2,.own 0),(3,iV .i64 0)],[(0,some (.row 2 136 (x1661.map Z0)))],0⟩)))
def Z3a.f (a0:Zk) (a1:List Z1) (a2:List Z1):Option (Zk×Int):=(Z1u.f a1)>>=fun t1664=>(Z1u.f a2)>>=fun t1668=>if((if t1668.2>t1664.2 then t1668.2 else t1664.2) != (0:Int))=true then(some ((⟨0,0,0,0,0,0,[],[]⟩:Zk),(if t1668.2>t1664.2 then t1668.2 else t1664.2))) else((Z1f.f [t1664.1,t1668.1,[(⟨0,a0.f3⟩:Z1)]])>>=fun t1675=>if(t1675.2 != (0:Int))=true then(some ((⟨0,0,0,0,0,0,[],[]⟩:Zk),t1675.2)) else((Z0f.f (⟨a0.f0,a0.f1,a0.f2,a0.f3,t1675.1,a0.f5,t1664.1,t1668.1⟩:Zk))>>=fun t1680=>if(t1680 != (0:Int))=true then(some ((⟨0,0,0,0,0,0,[],[]⟩:Zk),t1680)) else(some ((⟨a0.f0,a0.f1,a0.f2,a0.f3,t1675.1,a0.f5,t1664.1,t1668.1⟩:Zk),0))))
theorem Z3a.ok (a0:Zk) (a1:List Z1) (a2:List Z1) (r:Zk×Int) (H:Z3a.f a0 a1 a2=some r):Pv.Fn Tryz.prog 153 [.agg (Z0d a0),.im (.row (a1.map Z0)),.im (.row (a2.map Z0))] [] 0 (fun x o=>x = .tup [.agg (Z0d (r.1)),iV .i64 r.2]∧o=[]):=by
 unfold Z3a.f at H
 exact HT.fn H (fun r =>.tup [.agg (Z0d (r.1)),iV .i64 r.2]) (fun r=>[]) [] Tryz.func153 rfl rfl hmx (.rg [(0,⟨.k 0,.n⟩),(1,⟨.k 1,.n⟩)] <| .rg [] <| .bd fun t1664 e1665 =>.rg [(1,hC [] [(0,2)] [] [2] Tryz.call171 (Z1u.ok a1 t1664 e1665))] <| .bd fun t1668 e1669 =>.rg [(1,hC [] [(0,3)] [] [3] Tryz.call171 (Z1u.ok a2 t1668 e1669))] <| .rg [(2,⟨.more xMax,.n⟩)] <| .rg [] <| .cd (fun c1670 =>.rg [] <| .ret [(1,0)] [] [] ⟨[(6,.ptr 0 0 0),(7,iV .i64 (if t1668.2>t1664.2 then t1668.2 else t1664.2))],[(0,some (.box 48 (Z0d ((⟨0,0,0,0,0,0,[],[]⟩:Zk)))))],0⟩)
 (fun c1670 =>.cv [(0,0),(1,1)] [2,3] [] ⟨[(3,.ptr 0 0 0),(6,.ptr 1 0 0),(8,iV .i64 (if t1668.2>t1664.2 then t1668.2 else t1664.2)),(27,bV ((if t1668.2>t1664.2 then t1668.2 else t1664.2) != (0:Int)))],[(0,some (.box 48 (Z0d ⟨a0.f0,a0.f1,a0.f2,a0.f3,a0.f4,a0.f5,t1664.1,t1668.1⟩))),(1,some (.box 48 [iV .i64 0,iV .i64 0,iV .i64 0,iV .u64 0,iV .u64 0,iV .i64 0,.none0,.none0]))],0⟩ <| .bd fun t1675 e1676 =>.rg [(7,fzI (hQ 4 Z0 ([(⟨0,a0.f3⟩:Z1)]:List Z1))),(8,hQ 5 (Z1i Z0) ([t1664.1,t1668.1,[(⟨0,a0.f3⟩:Z1)]]:List (List Z1))),(9,hC [] [] [5] [] Tryz.call95 (Z1f.ok [t1664.1,t1668.1,[(⟨0,a0.f3⟩:Z1)]] t1675 e1676))] <| .rg [] <| .cd (fun c1677 =>.rg [] <| .ret [(1,0)] [] [] ⟨[(6,.ptr 0 0 0),(7,iV .i64 t1675.2)],[(0,some (.box 48 (Z0d ((⟨0,0,0,0,0,0,[],[]⟩:Zk)))))],0⟩)
 (fun c1677 =>.bd fun t1680 e1681 =>.rg [(1,hC [] [] [] [] Tryz.call57 (Z0f.ok (⟨a0.f0,a0.f1,a0.f2,a0.f3,t1675.1,a0.f5,t1664.1,t1668.1⟩:Zk) t1680 e1681))] <| .rg [] <| .cd (fun c1682 =>.rg [] <| .ret [(1,0)] [] [] ⟨[(6,.ptr 0 0 0),(7,iV .i64 t1680)],[(0,some (.box 48 (Z0d ((⟨0,0,0,0,0,0,[],[]⟩:Zk)))))],0⟩)
 (fun c1682 =>.rg [] <| .ret [(1,0)] [] [] ⟨[(6,.ptr 0 0 0),(7,iV .i64 0)],[(0,some (.box 48 (Z0d ((⟨a0.f0,a0.f1,a0.f2,a0.f3,t1675.1,a0.f5,t1664.1,t1668.1⟩:Zk)))))],0⟩))))
def Z3l.f (a0:Zk) (a1:List Z1) (a2:List Z1) (a3:Int):Option (Zk×Int):=(Z2m.f a0 a1 a3)>>=fun t981=>(Z2m.f a0 a2 a3)>>=fun t983=>(Z0e.f a1 a0.f0 a0.f1 a0.f2 a0.f3 a0.f4 a0.f5 a0.f6 a0.f7 (if t983>t981 then t983 else t981))>>=fun t1034=>(Z0e.f a2 a0.f0 a0.f1 a0.f2 t1034.2 a0.f4 a0.f5 a0.f6 a0.f7 (if t983>t981 then t983 else t981))>>=fun t1036=>(Z3a.f (⟨a0.f0,a0.f1,(if t983>t981 then t983 else t981),t1036.2,a0.f4,a0.f5,a0.f6,a0.f7⟩:Zk) t1034.1 t1036.1)>>=fun t1687=>some ((t1687.1),t1687.2)
theorem Z3l.ok (a0:Zk) (a1:List Z1) (a2:List Z1) (a3:Int) (r:Zk×Int) (H:Z3l.f a0 a1 a2 a3=some r):Pv.Fn Tryz.prog 193 [.agg (Z0d a0),.im (.row (a1.map Z0)),.im (.row (a2.map Z0)),iV .i64 a3] [] 0 (fun x o=>x = .tup [.agg (Z0d (r.1)),iV .i64 r.2]∧o=[]):=by
 unfold Z3l.f at H
 exact HT.fn H (fun r =>.tup [.agg (Z0d (r.1)),iV .i64 r.2]) (fun r=>[]) [] Tryz.func193 rfl rfl hmx (.rg [(0,⟨.k 0,.n⟩),(1,⟨.k 1,.n⟩),(2,⟨.k 2,.n⟩)] <| .bd fun t981 e982 =>.bd fun t983 e984 =>.rg [(3,hC [] [] [] [] Tryz.call199 (Z2m.ok a0 a1 a3 t981 e982)),(7,hC [] [] [] [] Tryz.call199 (Z2m.ok a0 a2 a3 t983 e984)),(8,⟨.more xMax,.n⟩)] <| .rg [(0,⟨.more xFunc,.n⟩)] <| .bd fun t1034 e1035 =>.bd fun t1036 e1037 =>.rg [(2,hC [(0,0),(1,1)] [(0,0),(1,1),(2,3)] [] [3] Tryz.call200 (Z0e.ok a1 a0.f0 a0.f1 a0.f2 a0.f3 a0.f4 a0.f5 a0.f6 a0.f7 (if t983>t981 then t983 else t981) t1034 e1035)),(5,hC [(0,0),(1,1)] [(0,0),(1,1),(2,4)] [] [4] Tryz.call200 (Z0e.ok a2 a0.f0 a0.f1 a0.f2 t1034.2 a0.f4 a0.f5 a0.f6 a0.f7 (if t983>t981 then t983 else t981) t1036 e1037))] <| .rg [] <| .cv [(2,2),(0,0)] [3,4] [] ⟨[(1,.im (.row (t1034.1.map Z0))),(2,.im (.row (t1036.1.map Z0))),(4,.ptr 0 0 0),(8,.ptr 2 0 0)],[(0,some (.box 48 (Z0d ⟨a0.f0,a0.f1,(if t983>t981 then t983 else t981),t1036.2,a0.f4,a0.f5,a0.f6,a0.f7⟩))),(2,some (.box 48 [iV .i64 0,iV .i64 0,iV .i64 0,iV .u64 0,iV .u64 0,iV .i64 0,.none0,.none0]))],0⟩ <| .bd fun t1687 e1688 =>.rg [(3,hC [] [] [] [] Tryz.call153 (Z3a.ok (⟨a0.f0,a0.f1,(if t983>t981 then t983 else t981),t1036.2,a0.f4,a0.f5,a0.f6,a0.f7⟩:Zk) t1034.1 t1036.1 t1687 e1688))] <| .ret [(2,0)] [] [] ⟨[(8,.ptr 0 0 0),(9,iV .i64 t1687.2)],[(0,some (.box 48 (Z0d ((t1687.1)))))],0⟩)
def Z4a.f (a0:Zk) (a1:Int):Option (Zk×Int):=(((Z0n.f a1)>>=fun t863=>if(!t863)=true then(some true) else(some (decide (a1>a0.f1)))):Option (Bool))>>=fun x866=>if x866=true then(some ((⟨0,0,0,0,0,0,[],[]⟩:Zk),20)) else((Z2n.f a0.f6 a0.f1 a1)>>=fun t926=>(Z2n.f a0.f7 a0.f1 a1)>>=fun t928=>(Z3l.f (⟨a0.f0,a1,a0.f2,a0.f3,a0.f4,a0.f5,a0.f6,a0.f7⟩:Zk) t926 t928 a0.f2)>>=fun t1693=>some ((t1693.1),t1693.2))
theorem Z4a.ok (a0:Zk) (a1:Int) (r:Zk×Int) (H:Z4a.f a0 a1=some r):Pv.Fn Tryz.prog 187 [.agg (Z0d a0),iV .i64 a1] [] 0 (fun x o=>x = .tup [.agg (Z0d (r.1)),iV .i64 r.2]∧o=[]):=by
 unfold Z4a.f at H
 exact HT.fn H (fun r =>.tup [.agg (Z0d (r.1)),iV .i64 r.2]) (fun r=>[]) [] Tryz.func187 rfl rfl hmx (.rg [(0,⟨.k 0,.n⟩),(1,⟨.k 1,.n⟩)] <| .join (.bd fun t863 e864 =>.sp (fun c865 =>.rg [(1,hC [] [] [] [] Tryz.call93 (Z0n.ok a1 t863 e864)),(3,hB c865)] <| .out [(0,2),(1,3)] [] [])
 (fun c865 =>.rg [(1,hC [] [] [] [] Tryz.call93 (Z0n.ok a1 t863 e864)),(3,hB c865)] <| .out [(0,2),(1,3)] [] []))
 (.st .normal (fun x866=>⟨[(1,iV .i64 a1),(2,.ptr 2 0 0),(4,.ptr 3 0 0),(17,bV x866)],[(2,some (.box 48 (Z0d a0))),(3,some (.box 48 [iV .i64 0,iV .i64 0,iV .i64 0,iV .u64 0,iV .u64 0,iV .i64 0,.none0,.none0]))],0⟩) fun x866 =>.cd (fun c867 =>.rg [] <| .ret [(3,0)] [] [] ⟨[(4,.ptr 0 0 0),(5,iV .i64 20)],[(0,some (.box 48 (Z0d ((⟨0,0,0,0,0,0,[],[]⟩:Zk)))))],0⟩)
 (fun c867 =>.rg [] <| .rg [] <| .bd fun t926 e927 =>.bd fun t928 e929 =>.rg [(4,hC [] [(0,4)] [] [4] Tryz.call192 (Z2n.ok a0.f6 a0.f1 a1 t926 e927)),(9,hC [] [(0,5)] [] [5] Tryz.call192 (Z2n.ok a0.f7 a0.f1 a1 t928 e929))] <| .cv [(2,2),(3,3)] [4,5] [] ⟨[(2,.ptr 2 0 0),(4,.ptr 3 0 0),(7,.im (.row (t926.map Z0))),(8,.im (.row (t928.map Z0)))],[(2,some (.box 48 (Z0d ⟨a0.f0,a1,a0.f2,a0.f3,a0.f4,a0.f5,a0.f6,a0.f7⟩))),(3,some (.box 48 [iV .i64 0,iV .i64 0,iV .i64 0,iV .u64 0,iV .u64 0,iV .i64 0,.none0,.none0]))],0⟩ <| .bd fun t1693 e1694 =>.rg [(5,hC [] [] [] [] Tryz.call193 (Z3l.ok (⟨a0.f0,a1,a0.f2,a0.f3,a0.f4,a0.f5,a0.f6,a0.f7⟩:Zk) t926 t928 a0.f2 t1693 e1694))] <| .ret [(3,0)] [] [] ⟨[(4,.ptr 0 0 0),(5,iV .i64 t1693.2)],[(0,some (.box 48 (Z0d ((t1693.1)))))],0⟩)))
def Z58.f (a0:Zk):Option (Zk):=(Z0r.f a0.f6)>>=fun t1711=>(Z0r.f a0.f7)>>=fun t1713=>some (⟨a0.f0,a0.f1,a0.f2,a0.f3,a0.f4,a0.f5,t1711,t1713⟩:Zk)
theorem Z58.ok (a0:Zk) (r:Zk) (H:Z58.f a0=some r):Pv.Fn Tryz.prog 194 [.agg (Z0d a0)] [] 0 (fun x o=>x = .agg [iV .i64 ((r).f0),iV .i64 ((r).f1),iV .i64 ((r).f2),iV .u64 ((r).f3),iV .u64 ((r).f4),iV .i64 ((r).f5),.own 0,.own 1]∧o=[(0,some (.row 2 136 (((r).f6).map Z0))),(1,some (.row 2 136 (((r).f7).map Z0)))]):=by
 unfold Z58.f at H
 exact HT.fn H (fun r =>.agg [iV .i64 ((r).f0),iV .i64 ((r).f1),iV .i64 ((r).f2),iV .u64 ((r).f3),iV .u64 ((r).f4),iV .i64 ((r).f5),.own 0,.own 1]) (fun r=>[(0,some (.row 2 136 (((r).f6).map Z0))),(1,some (.row 2 136 (((r).f7).map Z0)))]) [0,1] Tryz.func194 rfl rfl hmx (.rg [(0,⟨.k 0,.n⟩),(1,⟨.k 1,.n⟩)] <| .bd fun t1711 e1712 =>.bd fun t1713 e1714 =>.rg [(2,hC [] [(0,2)] [] [2] Tryz.call181 (Z0r.ok a0.f6 t1711 e1712)),(5,hC [] [(0,3)] [] [3] Tryz.call181 (Z0r.ok a0.f7 t1713 e1714))] <| .rg [] <| .ret [(1,2),(2,0),(3,1)] [] [] ⟨[(2,.ptr 2 0 0)],[(0,some (.row 2 136 ((((⟨a0.f0,a0.f1,a0.f2,a0.f3,a0.f4,a0.f5,t1711,t1713⟩:Zk)).f6).map Z0))),(1,some (.row 2 136 ((((⟨a0.f0,a0.f1,a0.f2,a0.f3,a0.f4,a0.f5,t1711,t1713⟩:Zk)).f7).map Z0))),(2,some (.box 48 [iV .i64 (((⟨a0.f0,a0.f1,a0.f2,a0.f3,a0.f4,a0.f5,t1711,t1713⟩:Zk)).f0),iV .i64 (((⟨a0.f0,a0.f1,a0.f2,a0.f3,a0.f4,a0.f5,t1711,t1713⟩:Zk)).f1),iV .i64 (((⟨a0.f0,a0.f1,a0.f2,a0.f3,a0.f4,a0.f5,t1711,t1713⟩:Zk)).f2),iV .u64 (((⟨a0.f0,a0.f1,a0.f2,a0.f3,a0.f4,a0.f5,t1711,t1713⟩:Zk)).f3),iV .u64 (((⟨a0.f0,a0.f1,a0.f2,a0.f3,a0.f4,a0.f5,t1711,t1713⟩:Zk)).f4),iV .i64 (((⟨a0.f0,a0.f1,a0.f2,a0.f3,a0.f4,a0.f5,t1711,t1713⟩:Zk)).f5),.own 0,.own 1]))],0⟩)
def Z33.f (a0:Zk) (a1:Int):Option (Zk×Int):=if(decide (a1<a0.f2))=true then(some ((⟨0,0,0,0,0,0,[],[]⟩:Zk),31)) else(if(a1==a0.f2)=true then((Z58.f a0)>>=fun t1717=>some ((t1717),0)) else(((if(decide (a1≤(-262144)))=true then(some true) else(some (decide (a1>(262144:Int))))):Option (Bool))>>=fun x1721=>if x1721=true then(some ((⟨0,0,0,0,0,0,[],[]⟩:Zk),31)) else((Z3l.f a0 a0.f6 a0.f7 a1)>>=fun t1725=>some ((t1725.1),t1725.2))))
theorem Z33.ok (a0:Zk) (a1:Int) (r:Zk×Int) (H:Z33.f a0 a1=some r):Pv.Fn Tryz.prog 188 [.agg (Z0d a0),iV .i64 a1] [] 0 (fun x o=>x = .tup [.agg (Z0d (r.1)),iV .i64 r.2]∧o=[]):=by
 unfold Z33.f at H
 exact HT.fn H (fun r =>.tup [.agg (Z0d (r.1)),iV .i64 r.2]) (fun r=>[]) [] Tryz.func188 rfl rfl hmx (.rg [(0,⟨.k 0,.n⟩),(1,⟨.k 1,.n⟩)] <| .bl <| .rg [] <| .cd (fun c1705 =>.rg [] <| .ret [(1,0)] [] [] ⟨[(4,.ptr 0 0 0),(5,iV .i64 31)],[(0,some (.box 48 (Z0d ((⟨0,0,0,0,0,0,[],[]⟩:Zk)))))],0⟩)
 (fun c1705 =>.rg [] <| .cd (fun c1706 =>.bd fun t1717 e1718 =>.rg [(1,hC [] [(0,2),(1,3)] [] [2,3] Tryz.call194 (Z58.ok a0 t1717 e1718))] <| .ret [(1,0)] [2,3] [] ⟨[(4,.ptr 0 0 0),(5,iV .i64 0)],[(0,some (.box 48 (Z0d ((t1717)))))],0⟩)
 (fun c1706 =>.join (.sp (fun c1720 =>.rg [(2,hB c1720)] <| .out [(0,4),(1,5)] [] [])
 (fun c1720 =>.rg [(2,hB c1720)] <| .out [(0,4),(1,5)] [] []))
 (.st .normal (fun x1721=>⟨[(1,iV .i64 a1),(2,.ptr 4 0 0),(4,.ptr 5 0 0),(19,bV x1721)],[(4,some (.box 48 (Z0d a0))),(5,some (.box 48 [iV .i64 0,iV .i64 0,iV .i64 0,iV .u64 0,iV .u64 0,iV .i64 0,.none0,.none0]))],0⟩) fun x1721 =>.cd (fun c1722 =>.rg [] <| .ret [(5,0)] [] [] ⟨[(4,.ptr 0 0 0),(5,iV .i64 31)],[(0,some (.box 48 (Z0d ((⟨0,0,0,0,0,0,[],[]⟩:Zk)))))],0⟩)
 (fun c1722 =>.bd fun t1725 e1726 =>.rg [(6,hC [] [] [] [] Tryz.call193 (Z3l.ok a0 a0.f6 a0.f7 a1 t1725 e1726))] <| .ret [(5,0)] [] [] ⟨[(4,.ptr 0 0 0),(5,iV .i64 t1725.2)],[(0,some (.box 48 (Z0d ((t1725.1)))))],0⟩)))))
def Z1w.l0  (v:Int×Int×Int×Int×Int×Int×(List Z1)×(List Z1)×Int×Int×Int×Int×Int×Int×(List Z1)×(List Z1)):Option ((Zk×Zk×Int) ⊕ (Int×Int×Int×Int×Int×Int×(List Z1)×(List Z1)×Int×Int×Int×Int×Int×Int×(List Z1)×(List Z1))):=match v with
 | (x1736,x1737,x1738,x1739,x1740,x1741,x1742,x1743,x1744,x1745,x1746,x1747,x1748,x1749,x1750,x1751)=>if(x1738 != x1746)=true then((Z33.f (⟨x1736,x1737,x1738,x1739,x1740,x1741,x1742,x1743⟩:Zk) (if x1746>x1738 then x1746 else x1738))>>=fun t1755=>(Z33.f (⟨x1744,x1745,x1746,x1747,x1748,x1749,x1750,x1751⟩:Zk) (if x1746>x1738 then x1746 else x1738))>>=fun t1759=>if((if t1759.2>t1755.2 then t1759.2 else t1755.2) != (0:Int))=true then(some (.inl ((⟨0,0,0,0,0,0,[],[]⟩:Zk),(⟨0,0,0,0,0,0,[],[]⟩:Zk),(if t1759.2>t1755.2 then t1759.2 else t1755.2)))) else(Z1w.l0  ((t1755.1).f0,(t1755.1).f1,(t1755.1).f2,(t1755.1).f3,(t1755.1).f4,(t1755.1).f5,(t1755.1).f6,(t1755.1).f7,(t1759.1).f0,(t1759.1).f1,(t1759.1).f2,(t1759.1).f3,(t1759.1).f4,(t1759.1).f5,(t1759.1).f6,(t1759.1).f7))) else(some (.inr (x1736,x1737,x1738,x1739,x1740,x1741,x1742,x1743,x1744,x1745,x1746,x1747,x1748,x1749,x1750,x1751)))
partial_fixpoint
def Z1w.f (a0:Zk) (a1:Zk):Option (Zk×Zk×Int):=(Z4a.f a0 (if a1.f1<a0.f1 then a1.f1 else a0.f1))>>=fun t1697=>(Z4a.f a1 (if a1.f1<a0.f1 then a1.f1 else a0.f1))>>=fun t1701=>if((if t1701.2>t1697.2 then t1701.2 else t1697.2) != (0:Int))=true then(some ((⟨0,0,0,0,0,0,[],[]⟩:Zk),(⟨0,0,0,0,0,0,[],[]⟩:Zk),(if t1701.2>t1697.2 then t1701.2 else t1697.2))) else((Z1w.l0  ((t1697.1).f0,(t1697.1).f1,(t1697.1).f2,(t1697.1).f3,(t1697.1).f4,(t1697.1).f5,(t1697.1).f6,(t1697.1).f7,(t1701.1).f0,(t1701.1).f1,(t1701.1).f2,(t1701.1).f3,(t1701.1).f4,(t1701.1).f5,(t1701.1).f6,(t1701.1).f7))>>=fun oo=>match oo with | .inl rr=>(some rr) | .inr (x1762,x1763,x1764,x1765,x1766,x1767,x1768,x1769,x1770,x1771,x1772,x1773,x1774,x1775,x1776,x1777)=>(some ((⟨x1762,x1763,x1764,x1765,x1766,x1767,x1768,x1769⟩:Zk),(⟨x1770,x1771,x1772,x1773,x1774,x1775,x1776,x1777⟩:Zk),0)))
theorem Z1w.ok (a0:Zk) (a1:Zk) (r:Zk×Zk×Int) (H:Z1w.f a0 a1=some r):Pv.Fn Tryz.prog 177 [.agg (Z0d a0),.agg (Z0d a1)] [] 0 (fun x o=>x = .tup [.agg (Z0d (r.1)),.agg (Z0d (r.2.1)),iV .i64 r.2.2]∧o=[]):=by
 unfold Z1w.f at H
 exact HT.fn H (fun r =>.tup [.agg (Z0d (r.1)),.agg (Z0d (r.2.1)),iV .i64 r.2.2]) (fun r=>[]) [] Tryz.func177 rfl rfl hmx (.rg [(0,⟨.k 0,.n⟩),(1,⟨.k 1,.n⟩),(2,⟨.k 2,.n⟩),(3,⟨.k 3,.n⟩)] <| .rg [(4,⟨.more xMin,.n⟩)] <| .bd fun t1697 e1698 =>.rg [(2,hC [] [] [] [] Tryz.call187 (Z4a.ok a0 (if a1.f1<a0.f1 then a1.f1 else a0.f1) t1697 e1698))] <| .bd fun t1701 e1702 =>.rg [(2,hC [] [] [] [] Tryz.call187 (Z4a.ok a1 (if a1.f1<a0.f1 then a1.f1 else a0.f1) t1701 e1702))] <| .rg [(2,⟨.more xMax,.n⟩)] <| .rg [] <| .cd (fun c1703 =>.rg [] <| .ret [(2,0),(3,1)] [] [] ⟨[(4,.ptr 0 0 0),(5,.ptr 1 0 0),(6,iV .i64 (if t1701.2>t1697.2 then t1701.2 else t1697.2))],[(0,some (.box 48 (Z0d ((⟨0,0,0,0,0,0,[],[]⟩:Zk))))),(1,some (.box 48 (Z0d ((⟨0,0,0,0,0,0,[],[]⟩:Zk)))))],0⟩)
 (fun c1703 =>.bl <| .loop (.one (Z1w.l0.partial_correctness )) ((t1697.1).f0,(t1697.1).f1,(t1697.1).f2,(t1697.1).f3,(t1697.1).f4,(t1697.1).f5,(t1697.1).f6,(t1697.1).f7,(t1701.1).f0,(t1701.1).f1,(t1701.1).f2,(t1701.1).f3,(t1701.1).f4,(t1701.1).f5,(t1701.1).f6,(t1701.1).f7) [(0,4),(1,5),(2,6),(3,7)] [] [] (fun _ =>.pr fun x1736 =>.pr fun x1737 =>.pr fun x1738 =>.pr fun x1739 =>.pr fun x1740 =>.pr fun x1741 =>.pr fun x1742 =>.pr fun x1743 =>.pr fun x1744 =>.pr fun x1745 =>.pr fun x1746 =>.pr fun x1747 =>.pr fun x1748 =>.pr fun x1749 =>.pr fun x1750 =>.one (fun x1751=>⟨[(2,.ptr 4 0 0),(3,.ptr 5 0 0),(4,.ptr 6 0 0),(5,.ptr 7 0 0)],[(4,some (.box 48 (Z0d ⟨x1736,x1737,x1738,x1739,x1740,x1741,x1742,x1743⟩))),(5,some (.box 48 (Z0d ⟨x1744,x1745,x1746,x1747,x1748,x1749,x1750,x1751⟩))),(6,some (.box 48 [iV .i64 0,iV .i64 0,iV .i64 0,iV .u64 0,iV .u64 0,iV .i64 0,.none0,.none0])),(7,some (.box 48 [iV .i64 0,iV .i64 0,iV .i64 0,iV .u64 0,iV .u64 0,iV .i64 0,.none0,.none0]))],0⟩) fun x1751 =>.rg [] <| .cd (fun c1752 =>.bl <| .rg [(4,⟨.more xMax,.n⟩)] <| .bd fun t1755 e1756 =>.rg [(2,hC [] [] [] [] Tryz.call188 (Z33.ok (⟨x1736,x1737,x1738,x1739,x1740,x1741,x1742,x1743⟩:Zk) (if x1746>x1738 then x1746 else x1738) t1755 e1756))] <| .bd fun t1759 e1760 =>.rg [(2,hC [] [] [] [] Tryz.call188 (Z33.ok (⟨x1744,x1745,x1746,x1747,x1748,x1749,x1750,x1751⟩:Zk) (if x1746>x1738 then x1746 else x1738) t1759 e1760))] <| .rg [(2,⟨.more xMax,.n⟩)] <| .rg [] <| .cd (fun c1761 =>.rg [] <| .ret [(6,0),(7,1)] [] [] ⟨[(4,.ptr 0 0 0),(5,.ptr 1 0 0),(6,iV .i64 (if t1759.2>t1755.2 then t1759.2 else t1755.2))],[(0,some (.box 48 (Z0d ((⟨0,0,0,0,0,0,[],[]⟩:Zk))))),(1,some (.box 48 (Z0d ((⟨0,0,0,0,0,0,[],[]⟩:Zk)))))],0⟩)
 (fun c1761 =>.back [(4,4),(5,5),(6,6),(7,7)] [] [] rfl))
 (fun c1752 =>.out [(4,8),(5,9),(6,10),(7,11)] [] []))
 (.sm (.rt (fun rr =>.tup [.agg (Z0d (rr.1)),.agg (Z0d (rr.2.1)),iV .i64 rr.2.2]) (fun rr=>[]))
 (.pr fun x1762 =>.pr fun x1763 =>.pr fun x1764 =>.pr fun x1765 =>.pr fun x1766 =>.pr fun x1767 =>.pr fun x1768 =>.pr fun x1769 =>.pr fun x1770 =>.pr fun x1771 =>.pr fun x1772 =>.pr fun x1773 =>.pr fun x1774 =>.pr fun x1775 =>.pr fun x1776 =>.st (.exit 0) (fun x1777=>⟨[(2,.ptr 8 0 0),(3,.ptr 9 0 0),(4,.ptr 10 0 0),(5,.ptr 11 0 0)],[(8,some (.box 48 (Z0d ⟨x1762,x1763,x1764,x1765,x1766,x1767,x1768,x1769⟩))),(9,some (.box 48 (Z0d ⟨x1770,x1771,x1772,x1773,x1774,x1775,x1776,x1777⟩))),(10,some (.box 48 [iV .i64 0,iV .i64 0,iV .i64 0,iV .u64 0,iV .u64 0,iV .i64 0,.none0,.none0])),(11,some (.box 48 [iV .i64 0,iV .i64 0,iV .i64 0,iV .u64 0,iV .u64 0,iV .i64 0,.none0,.none0]))],0⟩) fun x1777 =>.rg [] <| .ret [(10,0),(11,1)] [] [] ⟨[(4,.ptr 0 0 0),(5,.ptr 1 0 0),(6,iV .i64 0)],[(0,some (.box 48 (Z0d ((⟨x1762,x1763,x1764,x1765,x1766,x1767,x1768,x1769⟩:Zk))))),(1,some (.box 48 (Z0d ((⟨x1770,x1771,x1772,x1773,x1774,x1775,x1776,x1777⟩:Zk)))))],0⟩))))
def Z1e.l1 (a0:List Z1) (b1831:Z1) (x1824:List Z1) (x1825:List Z1) (x1826:Int) (x1844:Unit):Option (((List Z1)×Bool) ⊕ Unit):=((if(decide ((x1824.length:Int)>(0:Int)))=true then((at? x1824 0)>>=fun b1839=>some (decide (b1839.f0<b1831.f0))) else(some false)):Option (Bool))>>=fun x1842=>if x1842=true then(some (.inl ([],false))) else(some (.inr ()))
def Z1e.l0 (a0:List Z1) (x1824:List Z1) (x1825:List Z1) (x1826:Int):Option (((List Z1)×Bool) ⊕ ((List Z1)×(List Z1))):=if(decide (x1826<(a0.length:Int)))=true then((at? a0 x1826)>>=fun b1831=>(Z1e.l1 a0 b1831 x1824 x1825 x1826 ())>>=fun oo=>match oo with | .inl rr=>(some (.inl rr)) | .inr _=>(((if(decide ((x1824.length:Int)>(0:Int)))=true then((at? x1824 0)>>=fun b1850=>some (b1850.f0==b1831.f0)) else(some false)):Option (Bool))>>=fun x1853=>((if x1853=true then((at? x1824 0)>>=fun b1858=>if(decide (b1858.f1>b1831.f1))=true then(some (.inl ([],false))) else((chk (0≤(1:Int)∧(1:Int)≤(x1824.length:Int)∧(x1824.length:Int)≤(x1824.length:Int)))>>=fun _=>some (.inr ((x1824.drop (Int.toNat ((1:Int)))).take ((Int.toNat ((x1824.length:Int)))-(Int.toNat ((1:Int)))),u64.wrap (b1831.f1-b1858.f1))))) else(some (.inr (x1824,b1831.f1)))):Option (((List Z1)×Bool) ⊕ ((List Z1)×Int)))>>=fun oo=>match oo with | .inl rr=>(some (.inl rr)) | .inr (x1864,x1865)=>((chk ((x1825.length+[(⟨b1831.f0,x1865⟩:Z1)].length)*16≤140737488355328))>>=fun _=>Z1e.l0 a0 x1864 (x1825++[(⟨b1831.f0,x1865⟩:Z1)]) (i64.wrap (x1826+(1:Int)))))) else(some (.inr (x1824,x1825)))
partial_fixpoint
def Z1e.f (a0:List Z1) (a1:List Z1):Option ((List Z1)×Bool):=(Z1e.l0 a0 a1 [] 0)>>=fun oo=>match oo with | .inl rr=>(some rr) | .inr (x1868,x1869)=>(some (x1869,((x1868.length:Int)==(0:Int))))
theorem Z1e.ok (a0:List Z1) (a1:List Z1) (r:(List Z1)×Bool) (H:Z1e.f a0 a1=some r):Pv.Fn Tryz.prog 178 [.im (.row (a0.map Z0)),.im (.row (a1.map Z0))] [] 0 (fun x o=>x = .tup [.own 0,bV r.2]∧o=[(0,some (.row 2 136 (r.1.map Z0)))]):=by
 unfold Z1e.f at H
 exact HT.fn H (fun r =>.tup [.own 0,bV r.2]) (fun r=>[(0,some (.row 2 136 (r.1.map Z0)))]) [0] Tryz.func178 rfl rfl hmx (.rg [] <| .rg [] <| .rg [(1,hG Z0 a0)] <| .bl <| .loop (.c3 (Z1e.l0.partial_correctness a0)) (a1,[],0) [] [] [7] (fun _ =>.pr fun x1824 =>.pr fun x1825 =>.one (fun x1826=>⟨[(1,.im (.row (x1824.map Z0))),(6,.own 7),(9,.im (.row (a0.map Z0))),(10,iV .i64 (a0.length:Int)),(11,iV .i64 x1826)],[(7,some (.row 2 136 (x1825.map Z0)))],0⟩) fun x1826 =>.rg [] <| .cd (fun c1827 =>.bl <| .el fun b1831 p1832 q1833 =>.rg [(0,hA Z0 p1832 q1833),(2,⟨.k 8,.n⟩)] <| .bl <| .loop (.no (fun p=>Z1e.l1 a0 b1831 x1824 x1825 x1826 p)) () [(7,7),(8,8)] [] [] (fun _ =>.one (fun x1844=>⟨[(1,.im (.row (x1824.map Z0))),(6,.own 7),(8,.ptr 8 0 0),(9,.im (.row (a0.map Z0))),(10,iV .i64 (a0.length:Int)),(11,iV .i64 x1826)],[(7,some (.row 2 136 (x1825.map Z0))),(8,some (.box 136 (Z7b b1831)))],0⟩) fun x1844 =>.join (.sp (fun c1838 =>.el fun b1839 p1840 q1841 =>.rg [(1,hG Z0 x1824),(3,hB c1838),(5,hA Z0 p1840 q1841)] <| .out [(7,9),(8,10)] [] [])
 (fun c1838 =>.rg [(1,hG Z0 x1824),(3,hB c1838)] <| .out [(7,9),(8,10)] [] []))
 (.st .normal (fun x1842=>⟨[(1,.im (.row (x1824.map Z0))),(6,.own 9),(8,.ptr 10 0 0),(9,.im (.row (a0.map Z0))),(10,iV .i64 (a0.length:Int)),(11,iV .i64 x1826),(26,bV x1842)],[(9,some (.row 2 136 (x1825.map Z0))),(10,some (.box 136 (Z7b b1831)))],0⟩) fun x1842 =>.cd (fun c1843 =>.bl <| .rg [] <| .ret [] [] [0] ⟨[(4,.own 0),(5,bV false)],[(0,some (.row 2 136 ([].map Z0)))],0⟩)
 (fun c1843 =>.out [(9,11),(10,12)] [] [])))
 (.sm (.rt (fun rr =>.tup [.own 0,bV rr.2]) (fun rr=>[(0,some (.row 2 136 (rr.1.map Z0)))]))
 (.st (.exit 2) (fun _=>⟨[(1,.im (.row (x1824.map Z0))),(6,.own 11),(8,.ptr 12 0 0),(9,.im (.row (a0.map Z0))),(10,iV .i64 (a0.length:Int)),(11,iV .i64 x1826)],[(11,some (.row 2 136 (x1825.map Z0))),(12,some (.box 136 (Z7b b1831)))],0⟩) fun _ =>.join (.sp (fun c1849 =>.el fun b1850 p1851 q1852 =>.rg [(1,hG Z0 x1824),(3,hB c1849),(5,hA Z0 p1851 q1852)] <| .out [(11,13),(12,14)] [] [])
 (fun c1849 =>.rg [(1,hG Z0 x1824),(3,hB c1849)] <| .out [(11,13),(12,14)] [] []))
 (.st .normal (fun x1853=>⟨[(1,.im (.row (x1824.map Z0))),(6,.own 13),(8,.ptr 14 0 0),(9,.im (.row (a0.map Z0))),(10,iV .i64 (a0.length:Int)),(11,iV .i64 x1826),(38,bV x1853)],[(13,some (.row 2 136 (x1825.map Z0))),(14,some (.box 136 (Z7b b1831)))],0⟩) fun x1853 =>.join (.cd (fun c1854 =>.el fun b1858 p1859 q1860 =>.rg [(1,hA Z0 p1859 q1860)] <| .cd (fun c1861 =>.rg [] <| .ret [] [] [0] ⟨[(4,.own 0),(5,bV false)],[(0,some (.row 2 136 ([].map Z0)))],0⟩)
 (fun c1861 =>.rg [(3,hA Z0 p1859 q1860)] <| .ck fun c1863 =>.rg [(1,hR1 Z0 2 c1863)] <| .out [(13,15),(14,16)] [] []))
 (fun c1854 =>.out [(13,15),(14,16)] [] []))
 (.sm (.rt (fun rr =>.tup [.own 0,bV rr.2]) (fun rr=>[(0,some (.row 2 136 (rr.1.map Z0)))]))
 (.pr fun x1864 =>.st .normal (fun x1865=>⟨[(1,.im (.row (x1864.map Z0))),(6,.own 15),(8,.ptr 16 0 0),(9,.im (.row (a0.map Z0))),(10,iV .i64 (a0.length:Int)),(11,iV .i64 x1826)],[(15,some (.row 2 136 (x1825.map Z0))),(16,some (.box 136 (Z7b ⟨b1831.f0,x1865⟩)))],0⟩) fun x1865 =>.ck fun c1867 =>.rg [(2,hQ 17 Z0 ([(⟨b1831.f0,x1865⟩:Z1)]:List Z1)),(3,hP 18 Z0 2 c1867)] <| .rg [] <| .back [(18,7)] [] [] rfl))))))
 (fun c1827 =>.out [(7,19)] [] []))
 (.sm (.rt (fun rr =>.tup [.own 0,bV rr.2]) (fun rr=>[(0,some (.row 2 136 (rr.1.map Z0)))]))
 (.pr fun x1868 =>.st (.exit 0) (fun x1869=>⟨[(1,.im (.row (x1868.map Z0))),(6,.own 19)],[(19,some (.row 2 136 (x1869.map Z0)))],0⟩) fun x1869 =>.rg [(2,hG Z0 x1868)] <| .ret [(19,0)] [] [] ⟨[(4,.own 0),(5,bV ((x1868.length:Int)==(0:Int)))],[(0,some (.row 2 136 (x1869.map Z0)))],0⟩)))
def Z6y.f (a0:Int) (a1:Int):Option (Int×Int):=if(decide (a1>a0))=true then(some (0,5)) else(some (u64.wrap (a0-a1),0))
theorem Z6y.ok (a0:Int) (a1:Int) (r:Int×Int) (H:Z6y.f a0 a1=some r):Pv.Fn Tryz.prog 179 [iV .u64 a0,iV .u64 a1] [] 0 (fun x o=>x = .tup [iV .u64 r.1,iV .i64 r.2]∧o=[]):=by
 unfold Z6y.f at H
 exact HT.fn H (fun r =>.tup [iV .u64 r.1,iV .i64 r.2]) (fun r=>[]) [] Tryz.func179 rfl rfl hmx (.rg [] <| .rg [] <| .cd (fun c1878 =>.rg [] <| .ret [] [] [] ⟨[(4,iV .u64 0),(5,iV .i64 5)],[],0⟩)
 (fun c1878 =>.rg [] <| .ret [] [] [] ⟨[(4,iV .u64 (u64.wrap (a0-a1))),(5,iV .i64 0)],[],0⟩))
def Z45.f (a0:Zk) (a1:Zk):Option (Zk×Int):=(Z56.f a0.f5 a1.f5)>>=fun t858=>(Z1w.f a0 a1)>>=fun t1780=>if(t1780.2.2 != (0:Int))=true then(some ((⟨0,0,0,0,0,0,[],[]⟩:Zk),t1780.2.2)) else((Z1e.f ((t1780.1).f6) ((t1780.2.1).f6))>>=fun t1872=>(Z1e.f ((t1780.1).f7) ((t1780.2.1).f7))>>=fun t1876=>(Z6y.f ((t1780.1).f3) ((t1780.2.1).f3))>>=fun t1881=>((if(!t1872.2)=true then(some true) else(if(!t1876.2)=true then(some true) else(some (t1881.2 != (0:Int))))):Option (Bool))>>=fun x1887=>if x1887=true then(some ((⟨0,0,0,0,0,0,[],[]⟩:Zk),21)) else(if(t858.2 != (0:Int))=true then(some ((⟨0,0,0,0,0,0,[],[]⟩:Zk),t858.2)) else((Z3a.f (⟨(t1780.1).f0,(t1780.1).f1,(t1780.1).f2,t1881.1,(t1780.1).f4,t858.1,(t1780.1).f6,(t1780.1).f7⟩:Zk) t1872.1 t1876.1)>>=fun t1894=>some ((t1894.1),t1894.2))))
theorem Z45.ok (a0:Zk) (a1:Zk) (r:Zk×Int) (H:Z45.f a0 a1=some r):Pv.Fn Tryz.prog 165 [.agg (Z0d a0),.agg (Z0d a1)] [] 0 (fun x o=>x = .tup [.agg (Z0d (r.1)),iV .i64 r.2]∧o=[]):=by
 unfold Z45.f at H
 exact HT.fn H (fun r =>.tup [.agg (Z0d (r.1)),iV .i64 r.2]) (fun r=>[]) [] Tryz.func165 rfl rfl hmx (.rg [(0,⟨.k 0,.n⟩),(1,⟨.k 1,.n⟩),(2,⟨.k 2,.n⟩)] <| .bd fun t858 e859 =>.rg [(4,hC [] [] [] [] Tryz.call176 (Z56.ok a0.f5 a1.f5 t858 e859))] <| .bd fun t1780 e1781 =>.rg [(2,hC [] [] [] [] Tryz.call177 (Z1w.ok a0 a1 t1780 e1781))] <| .rg [] <| .cd (fun c1782 =>.rg [] <| .ret [(2,0)] [] [] ⟨[(4,.ptr 0 0 0),(5,iV .i64 t1780.2.2)],[(0,some (.box 48 (Z0d ((⟨0,0,0,0,0,0,[],[]⟩:Zk)))))],0⟩)
 (fun c1782 =>.bd fun t1872 e1873 =>.rg [(4,hC [] [(0,3)] [] [3] Tryz.call178 (Z1e.ok ((t1780.1).f6) ((t1780.2.1).f6) t1872 e1873))] <| .bd fun t1876 e1877 =>.rg [(4,hC [] [(0,4)] [] [4] Tryz.call178 (Z1e.ok ((t1780.1).f7) ((t1780.2.1).f7) t1876 e1877))] <| .bd fun t1881 e1882 =>.rg [(4,hC [] [] [] [] Tryz.call179 (Z6y.ok ((t1780.1).f3) ((t1780.2.1).f3) t1881 e1882))] <| .bl <| .join (.sp (fun c1885 =>.rg [(2,hB c1885)] <| .out [(0,5),(2,6),(3,7),(4,8)] [] [])
 (fun c1885 =>.sp (fun c1886 =>.rg [(2,hB c1885),(6,hB c1886)] <| .out [(0,5),(2,6),(3,7),(4,8)] [] [])
 (fun c1886 =>.rg [(2,hB c1885),(6,hB c1886)] <| .out [(0,5),(2,6),(3,7),(4,8)] [] [])))
 (.st .normal (fun x1887=>⟨[(2,.ptr 5 0 0),(4,.ptr 6 0 0),(6,iV .i64 t858.1),(7,iV .i64 t858.2),(9,.own 7),(11,.own 8),(13,iV .u64 t1881.1),(58,bV x1887)],[(5,some (.box 48 (Z0d (t1780.1)))),(6,some (.box 48 [iV .i64 0,iV .i64 0,iV .i64 0,iV .u64 0,iV .u64 0,iV .i64 0,.none0,.none0])),(7,some (.row 2 136 (t1872.1.map Z0))),(8,some (.row 2 136 (t1876.1.map Z0)))],0⟩) fun x1887 =>.cd (fun c1888 =>.rg [] <| .ret [(6,0)] [] [] ⟨[(4,.ptr 0 0 0),(5,iV .i64 21)],[(0,some (.box 48 (Z0d ((⟨0,0,0,0,0,0,[],[]⟩:Zk)))))],0⟩)
 (fun c1888 =>.rg [] <| .cd (fun c1889 =>.rg [] <| .ret [(6,0)] [] [] ⟨[(4,.ptr 0 0 0),(5,iV .i64 t858.2)],[(0,some (.box 48 (Z0d ((⟨0,0,0,0,0,0,[],[]⟩:Zk)))))],0⟩)
 (fun c1889 =>.rg [] <| .cv [(5,5),(6,6)] [7,8] [] ⟨[(2,.ptr 5 0 0),(4,.ptr 6 0 0),(9,.im (.row (t1872.1.map Z0))),(11,.im (.row (t1876.1.map Z0)))],[(5,some (.box 48 (Z0d ⟨((t1780.1).f0),((t1780.1).f1),((t1780.1).f2),t1881.1,((t1780.1).f4),t858.1,((t1780.1).f6),((t1780.1).f7)⟩))),(6,some (.box 48 [iV .i64 0,iV .i64 0,iV .i64 0,iV .u64 0,iV .u64 0,iV .i64 0,.none0,.none0]))],0⟩ <| .bd fun t1894 e1895 =>.rg [(3,hC [] [] [] [] Tryz.call153 (Z3a.ok (⟨(t1780.1).f0,(t1780.1).f1,(t1780.1).f2,t1881.1,(t1780.1).f4,t858.1,(t1780.1).f6,(t1780.1).f7⟩:Zk) t1872.1 t1876.1 t1894 e1895))] <| .ret [(6,0)] [] [] ⟨[(4,.ptr 0 0 0),(5,iV .i64 t1894.2)],[(0,some (.box 48 (Z0d ((t1894.1)))))],0⟩)))))
def Z57.f (a0:Zk) (a1:Zk):Option (Bool):=(Z45.f a1 a0)>>=fun t1898=>some (t1898.2==(21:Int))
theorem Z57.ok (a0:Zk) (a1:Zk) (r:Bool) (H:Z57.f a0 a1=some r):Pv.Fn Tryz.prog 132 [.agg (Z0d a0),.agg (Z0d a1)] [] 0 (fun x o=>x=bV r∧o=[]):=by
 unfold Z57.f at H
 exact HT.fn H (fun r=>bV r) (fun r=>[]) [] Tryz.func132 rfl rfl hmx (.rg [(0,⟨.k 0,.n⟩),(1,⟨.k 1,.n⟩)] <| .bd fun t1898 e1899 =>.rg [(2,hC [] [] [] [] Tryz.call165 (Z45.ok a1 a0 t1898 e1899)),(6,⟨.k 2,.n⟩)] <| .rg [] <| .ret [] [] [] ⟨[(4,bV (t1898.2==(21:Int)))],[],0⟩)
def Z1x.f (a0:List Za):Option (List Za):=(chk ((([]:List Za).length+a0.length)*104≤140737488355328))>>=fun _=>some a0
theorem Z1x.ok (a0 r:List Za) (H:Z1x.f a0=some r):Pv.Fn Tryz.prog 97 [.im (.row (a0.map Z7))] [] 0 (fun x o=>x = .own 0∧o=[(0,some (.row 9 50 (r.map Z7)))]):=by
 unfold Z1x.f at H
 obtain⟨c1,H⟩:=Z99 H
 obtain rfl:=sj H
 refine Fn.bodyK [0] Tryz.func97 rfl rfl (fun Γ hP hn => ?_)
 have hm:Tryz.prog.follows .mixedOrders=true:=by kernel_rfl
 replace hn:Γ.n=8:=hn
 refine AWp.seq ?_
 refine reg hP hn hm [] [0,2] [] ⟨[(0,.im (.row (a0.map Z7))),(2,.none0)],[],0⟩ [] (by kernel_rfl) trivial ?_
 refine AWp.seq ?_
 cases a0 with
 | nil =>
  refine AWp.nilSplit 0 rfl (fun b m => ?_)
  refine AWp.seq ?_
  cases b with
  | none =>
   refine reg hP hn hm [(1,.more xNil)] [2,4] [] ⟨[(2,.none0),(4,bV true)],[],0⟩ [] (by kernel_rfl) trivial ?_
   refine AWp.cond true rfl (fun _ => ?_) (fun h=>nomatch h)
   refine AWp.seq ?_
   refine reg hP hn hm [] [2] [] ⟨[(2,.none0)],[],0⟩ [] (by kernel_rfl) trivial ?_
   refine AWp.conv (inv:=[]) (vk:=[]) (e0:=[0]) (t:=⟨[(2,.own 0)],[(0,some (.row 9 50 []))],0⟩) (by kernel_rfl) ?_
   refine AWp.ret ?_
   exact Exists.intro _ (And.intro (fun _ _ h=>h) (And.intro (.inl rfl) (And.intro rfl (And.intro (by kernel_rfl) (by kernel_rfl)))))
  | some b =>
   refine reg hP hn hm [(1,.more xNil)] [0,2,4] [] ⟨[(0,.im (.sc (.slice (some b) 0 m))),(2,.none0),(4,bV false)],[],0⟩ [] (by kernel_rfl) trivial ?_
   refine AWp.cond false rfl (fun h=>nomatch h) (fun _ => ?_)
   refine AWp.skip ?_
   refine AWp.unsplit 0 rfl ?_
   refine AWp.seq ?_
   refine reg hP hn hm [(0,.app 0 ([]:List (List Im))),(2,.app 1 (([]:List Za).map Z7))] [2] [1] ⟨[(2,.own 1)],[(1,some (.row 9 50 (([]:List Za).map Z7)))],0⟩ [([]:List (List Im))=[],([]:List Za).map Z7=([]:List (List Im))++([]:List Za).map Z7,∀ c∈([]:List Za).map Z7,c.length=9,∀ c∈([]:List Za).map Z7,Z2o (c.map .im)=true,(([]:List (List Im)).length+(([]:List Za).map Z7).length)*104≤140737488355328] (by kernel_rfl) ⟨rfl,by simp,by exact Z4n _ _ _ (fun _=>rfl),by exact Z42 _ _ (fun _=>rfl),by simpa using c1,trivial⟩ ?_
   refine AWp.conv (inv:=[(1,0)]) (vk:=[]) (e0:=[]) (t:=⟨[(2,.own 0)],[(0,some (.row 9 50 (([]:List Za).map Z7)))],0⟩) (by kernel_rfl) ?_
   refine AWp.ret ?_
   exact Exists.intro _ (And.intro (fun _ _ h=>h) (And.intro (.inl rfl) (And.intro rfl (And.intro (by kernel_rfl) (by kernel_rfl)))))
 | cons y l =>
  refine AWp.seq ?_
  refine reg hP hn hm [(1,.more xNil)] [0,2,4] [] ⟨[(0,.im (.row ((y::l).map Z7))),(2,.none0),(4,bV false)],[],0⟩ [] (by kernel_rfl) trivial ?_
  refine AWp.cond false rfl (fun h=>nomatch h) (fun _ => ?_)
  refine AWp.skip ?_
  refine AWp.seq ?_
  refine reg hP hn hm [(0,.app 0 ([]:List (List Im))),(2,.app 1 ((y::l).map Z7))] [2] [1] ⟨[(2,.own 1)],[(1,some (.row 9 50 ((y::l).map Z7)))],0⟩ [([]:List (List Im))=[],(y::l).map Z7=([]:List (List Im))++(y::l).map Z7,∀ c∈(y::l).map Z7,c.length=9,∀ c∈(y::l).map Z7,Z2o (c.map .im)=true,(([]:List (List Im)).length+((y::l).map Z7).length)*104≤140737488355328] (by kernel_rfl) ⟨rfl,by simp,by exact Z4n _ _ _ (fun _=>rfl),by exact Z42 _ _ (fun _=>rfl),by simpa using c1,trivial⟩ ?_
  refine AWp.conv (inv:=[(1,0)]) (vk:=[]) (e0:=[]) (t:=⟨[(2,.own 0)],[(0,some (.row 9 50 ((y::l).map Z7)))],0⟩) (by kernel_rfl) ?_
  refine AWp.ret ?_
  exact Exists.intro _ (And.intro (fun _ _ h=>h) (And.intro (.inl rfl) (And.intro rfl (And.intro (by kernel_rfl) (by kernel_rfl)))))
def Z32.l0 (a0:List Z1) (x1924:Int) (x1925:List Z2j) (x1926:Int):Option (Int×(List Z2j)):=if(decide (x1926<(a0.length:Int)))=true then((at? a0 x1926)>>=fun b1931=>((if(x1926==(0:Int))=true then(some (b1931.f0,[(⟨0,1⟩:Z2j)])) else((at? a0 (i64.wrap (x1926-(1:Int))))>>=fun b1938=>((if((i64.wrap (b1938.f0+(1:Int)))==b1931.f0)=true then((at? x1925 (i64.wrap ((x1925.length:Int)-(1:Int))))>>=fun b1945=>some (x1925.set (Int.toNat (i64.wrap ((x1925.length:Int)-(1:Int)))) (⟨b1945.f0,i64.wrap (b1945.f1+(1:Int))⟩:Z2j))) else((chk ((x1925.length+[(⟨i64.wrap ((i64.wrap (b1931.f0-b1938.f0))-(1:Int)),1⟩:Z2j)].length)*16≤140737488355328))>>=fun _=>some (x1925++[(⟨i64.wrap ((i64.wrap (b1931.f0-b1938.f0))-(1:Int)),1⟩:Z2j)]))):Option (List Z2j))>>=fun x1950=>some (x1924,x1950))):Option (Int×(List Z2j)))>>=fun oo=>match oo with | (x1951,x1952)=>(Z32.l0 a0 x1951 x1952 (i64.wrap (x1926+(1:Int))))) else(some (x1924,x1925))
partial_fixpoint
def Z32.f (a0:List Z1):Option (Zd):=(Z32.l0 a0 0 [] 0)>>=fun oo=>match oo with | (x1953,x1954)=>(some (⟨x1953,x1954⟩:Zd))
theorem Z32.ok (a0:List Z1) (r:Zd) (H:Z32.f a0=some r):Pv.Fn Tryz.prog 135 [.im (.row (a0.map Z0))] [] 0 (fun x o=>x = .agg [iV .i64 ((r).f0),.own 0]∧o=[(0,some (.row 2 210 (((r).f1).map Z20)))]):=by
 unfold Z32.f at H
 exact HT.fn H (fun r =>.agg [iV .i64 ((r).f0),.own 0]) (fun r=>[(0,some (.row 2 210 (((r).f1).map Z20)))]) [0] Tryz.func135 rfl rfl hmx (.rg [(0,⟨.k 0,.n⟩)] <| .rg [(0,⟨.k 1,.n⟩)] <| .rg [(1,hG Z0 a0)] <| .bl <| .loop (.c3 (Z32.l0.partial_correctness a0)) (0,[],0) [(0,4),(1,5)] [] [6] (fun _ =>.pr fun x1924 =>.pr fun x1925 =>.one (fun x1926=>⟨[(0,.im (.row (a0.map Z0))),(2,.ptr 4 0 0),(3,.ptr 5 0 0),(7,.im (.row (a0.map Z0))),(8,iV .i64 (a0.length:Int)),(9,iV .i64 x1926)],[(4,some (.box 179 [iV .i64 0,.none0])),(5,some (.box 179 [iV .i64 x1924,.own 6])),(6,some (.row 2 210 (x1925.map Z20)))],0⟩) fun x1926 =>.rg [] <| .cd (fun c1927 =>.bl <| .el fun b1931 p1932 q1933 =>.rg [(1,hA Z0 p1932 q1933),(3,⟨.k 7,.n⟩)] <| .rg [(2,hG Z20 x1925)] <| .bl <| .rg [] <| .join (.cd (fun c1934 =>.rg [] <| .rg [(1,hQ 8 Z20 ([(⟨0,1⟩:Z2j)]:List Z2j))] <| .out [(4,14),(5,15),(8,16)] [] [])
 (fun c1934 =>.el fun b1938 p1939 q1940 =>.rg [(3,hA Z0 p1939 q1940)] <| .join (.cd (fun c1941 =>.el fun b1945 p1946 q1947 =>.rg [(4,hX Z20 p1946 q1947),(6,hL Z20 q1947),(8,hX Z20 p1946 q1947),(10,hS Z20 (⟨b1945.f0,i64.wrap (b1945.f1+(1:Int))⟩:Z2j) 1 [iI .i64 (i64.wrap (b1945.f1+(1:Int)))] q1947)] <| .out [(4,11),(5,12),(6,13)] [] [])
 (fun c1941 =>.ck fun c1949 =>.rg [(7,hA Z0 p1939 q1940),(13,hQ 9 Z20 ([(⟨i64.wrap ((i64.wrap (b1931.f0-b1938.f0))-(1:Int)),1⟩:Z2j)]:List Z2j)),(14,hP 10 Z20 2 c1949)] <| .out [(4,11),(5,12),(10,13)] [] []))
 (.st .normal (fun x1950=>⟨[(0,.im (.row (a0.map Z0))),(2,.ptr 11 0 0),(3,.ptr 12 0 0),(7,.im (.row (a0.map Z0))),(8,iV .i64 (a0.length:Int)),(9,iV .i64 x1926)],[(11,some (.box 179 [iV .i64 0,.none0])),(12,some (.box 179 [iV .i64 x1924,.own 13])),(13,some (.row 2 210 (x1950.map Z20)))],0⟩) fun x1950 =>.out [(11,14),(12,15),(13,16)] [] [])))
 (.pr fun x1951 =>.st .normal (fun x1952=>⟨[(0,.im (.row (a0.map Z0))),(2,.ptr 14 0 0),(3,.ptr 15 0 0),(7,.im (.row (a0.map Z0))),(8,iV .i64 (a0.length:Int)),(9,iV .i64 x1926)],[(14,some (.box 179 [iV .i64 0,.none0])),(15,some (.box 179 [iV .i64 x1951,.own 16])),(16,some (.row 2 210 (x1952.map Z20)))],0⟩) fun x1952 =>.rg [] <| .back [(14,4),(15,5),(16,6)] [] [] rfl))
 (fun c1927 =>.out [(4,17),(5,18),(6,19)] [] []))
 (.pr fun x1953 =>.st (.exit 0) (fun x1954=>⟨[(2,.ptr 17 0 0),(3,.ptr 18 0 0)],[(17,some (.box 179 [iV .i64 0,.none0])),(18,some (.box 179 [iV .i64 x1953,.own 19])),(19,some (.row 2 210 (x1954.map Z20)))],0⟩) fun x1954 =>.rg [] <| .ret [(17,1),(19,0)] [] [] ⟨[(2,.ptr 1 0 0)],[(0,some (.row 2 210 ((((⟨x1953,x1954⟩:Zd)).f1).map Z20))),(1,some (.box 179 [iV .i64 (((⟨x1953,x1954⟩:Zd)).f0),.own 0]))],0⟩))
def Zs.l1 (a0:Zd) (b1982:Z2j) (x1977:Int) (x1988:List Int) (x1989:Int) (x1990:Int):Option ((List Int)×Int):=if(decide (x1990<b1982.f1))=true then((chk ((x1988.length+[x1989].length)*8≤140737488355328))>>=fun _=>Zs.l1 a0 b1982 x1977 (x1988++[x1989]) (i64.wrap (x1989+(1:Int))) (i64.wrap (x1990+(1:Int)))) else(some (x1988,x1989))
partial_fixpoint
def Zs.l0 (a0:Zd) (x1975:List Int) (x1976:Int) (x1977:Int):Option (List Int):=if(decide (x1977<(a0.f1.length:Int)))=true then((at? a0.f1 x1977)>>=fun b1982=>(Zs.l1 a0 b1982 x1977 x1975 (i64.wrap (x1976+b1982.f0)) 0)>>=fun oo=>match oo with | (x1994,x1995)=>(Zs.l0 a0 x1994 x1995 (i64.wrap (x1977+(1:Int))))) else(some x1975)
partial_fixpoint
def Zs.f (a0:Zd):Option (List Int):=(Zs.l0 a0 [] a0.f0 0)>>=fun x1996=>some x1996
theorem Zs.ok (a0:Zd) (r:List Int) (H:Zs.f a0=some r):Pv.Fn Tryz.prog 133 [.agg (Zp a0)] [] 0 (fun x o=>x = .own 0∧o=[(0,some (.row 1 3 (r.map (Z2 .i64))))]):=by
 unfold Zs.f at H
 exact HT.fn H (fun r =>.own 0) (fun r=>[(0,some (.row 1 3 (r.map (Z2 .i64))))]) [0] Tryz.func133 rfl rfl hmx (.rg [(0,⟨.k 0,.n⟩)] <| .rg [] <| .rg [] <| .rg [(2,hG Z20 a0.f1)] <| .bl <| .loop (.c3 (Zs.l0.partial_correctness a0)) ([],a0.f0,0) [] [] [8] (fun _ =>.pr fun x1975 =>.pr fun x1976 =>.one (fun x1977=>⟨[(3,.own 8),(4,iV .i64 x1976),(10,.im (.row (a0.f1.map Z20))),(11,iV .i64 (a0.f1.length:Int)),(12,iV .i64 x1977)],[(8,some (.row 1 3 (x1975.map (Z2 .i64))))],0⟩) fun x1977 =>.rg [] <| .cd (fun c1978 =>.bl <| .el fun b1982 p1983 q1984 =>.rg [(0,hA Z20 p1983 q1984),(2,⟨.k 9,.n⟩)] <| .rg [] <| .rg [] <| .bl <| .loop (.c3 (Zs.l1.partial_correctness a0 b1982 x1977)) (x1975,i64.wrap (x1976+b1982.f0),0) [(8,12)] [] [] (fun _ =>.pr fun x1988 =>.pr fun x1989 =>.one (fun x1990=>⟨[(3,.own 12),(4,iV .i64 x1989),(10,.im (.row (a0.f1.map Z20))),(11,iV .i64 (a0.f1.length:Int)),(12,iV .i64 x1977),(21,iV .i64 b1982.f1),(22,iV .i64 x1990)],[(12,some (.row 1 3 (x1988.map (Z2 .i64))))],0⟩) fun x1990 =>.rg [] <| .cd (fun c1991 =>.bl <| .ck fun c1993 =>.rg [(2,hQ 13 (Z2 .i64) ([x1989]:List Int)),(3,hP 14 (Z2 .i64) 1 c1993)] <| .rg [] <| .rg [] <| .back [(14,12)] [] [] rfl)
 (fun c1991 =>.out [(12,15)] [] []))
 (.pr fun x1994 =>.st (.exit 2) (fun x1995=>⟨[(3,.own 15),(4,iV .i64 x1995),(10,.im (.row (a0.f1.map Z20))),(11,iV .i64 (a0.f1.length:Int)),(12,iV .i64 x1977)],[(15,some (.row 1 3 (x1994.map (Z2 .i64))))],0⟩) fun x1995 =>.rg [] <| .back [(15,8)] [] [] rfl))
 (fun c1978 =>.out [(8,16)] [] []))
 (.st (.exit 0) (fun x1996=>⟨[(3,.own 16)],[(16,some (.row 1 3 (x1996.map (Z2 .i64))))],0⟩) fun x1996 =>.rg [] <| .ret [(16,0)] [] [] ⟨[(2,.own 0)],[(0,some (.row 1 3 (x1996.map (Z2 .i64))))],0⟩))
def Z2b.l0 (x2082:List Int) (x2083:List Int) (x2084:List Z1):Option (List Z1):=if(decide ((i64.wrap ((x2082.length:Int)+(x2083.length:Int)))>(0:Int)))=true then(((if((x2083.length:Int)==(0:Int))=true then(some true) else(if(decide ((x2082.length:Int)>(0:Int)))=true then((at? x2082 0)>>=fun b2096=>(at? x2083 0)>>=fun b2099=>some (decide (b2096<b2099))) else(some false))):Option (Bool))>>=fun x2102=>((if x2102=true then((at? x2082 0)>>=fun b2108=>(chk ((x2084.length+[(⟨b2108,0⟩:Z1)].length)*16≤140737488355328))>>=fun _=>(chk (0≤(1:Int)∧(1:Int)≤(x2082.length:Int)∧(x2082.length:Int)≤(x2082.length:Int)))>>=fun _=>some ((x2082.drop (Int.toNat ((1:Int)))).take ((Int.toNat ((x2082.length:Int)))-(Int.toNat ((1:Int)))),x2083,x2084++[(⟨b2108,0⟩:Z1)])) else(((if((x2082.length:Int)==(0:Int))=true then(some true) else((at? x2083 0)>>=fun b2122=>(at? x2082 0)>>=fun b2125=>some (decide (b2122<b2125)))):Option (Bool))>>=fun x2128=>((if x2128=true then((at? x2083 0)>>=fun b2134=>(chk ((x2084.length+[(⟨b2134,0⟩:Z1)].length)*16≤140737488355328))>>=fun _=>(chk (0≤(1:Int)∧(1:Int)≤(x2083.length:Int)∧(x2083.length:Int)≤(x2083.length:Int)))>>=fun _=>some (x2082,x2084++[(⟨b2134,0⟩:Z1)])) else((at? x2082 0)>>=fun b2144=>(chk ((x2084.length+[(⟨b2144,0⟩:Z1)].length)*16≤140737488355328))>>=fun _=>(chk (0≤(1:Int)∧(1:Int)≤(x2082.length:Int)∧(x2082.length:Int)≤(x2082.length:Int)))>>=fun _=>(chk (0≤(1:Int)∧(1:Int)≤(x2083.length:Int)∧(x2083.length:Int)≤(x2083.length:Int)))>>=fun _=>some ((x2082.drop (Int.toNat ((1:Int)))).take ((Int.toNat ((x2082.length:Int)))-(Int.toNat ((1:Int)))),x2084++[(⟨b2144,0⟩:Z1)]))):Option ((List Int)×(List Z1)))>>=fun oo=>match oo with | (x2152,x2153)=>(some (x2152,(x2083.drop (Int.toNat ((1:Int)))).take ((Int.toNat ((x2083.length:Int)))-(Int.toNat ((1:Int)))),x2153)))):Option ((List Int)×(List Int)×(List Z1)))>>=fun oo=>match oo with | (x2154,x2155,x2156)=>(Z2b.l0  x2154 x2155 x2156)) else(some x2084)
partial_fixpoint
def Z2b.f (a0:Zd) (a1:Zd):Option (Zd):=(Zs.f a0)>>=fun t2001=>(Zs.f a1)>>=fun t2003=>(Z2b.l0  t2001 t2003 [])>>=fun x2157=>(Z32.f x2157)>>=fun t2160=>some (t2160)
theorem Z2b.ok (a0:Zd) (a1:Zd) (r:Zd) (H:Z2b.f a0 a1=some r):Pv.Fn Tryz.prog 134 [.agg (Zp a0),.agg (Zp a1)] [] 0 (fun x o=>x = .agg [iV .i64 ((r).f0),.own 0]∧o=[(0,some (.row 2 210 (((r).f1).map Z20)))]):=by
 unfold Z2b.f at H
 exact HT.fn H (fun r =>.agg [iV .i64 ((r).f0),.own 0]) (fun r=>[(0,some (.row 2 210 (((r).f1).map Z20)))]) [0] Tryz.func134 rfl rfl hmx (.rg [(0,⟨.k 0,.n⟩),(1,⟨.k 1,.n⟩),(2,⟨.k 2,.n⟩)] <| .bd fun t2001 e2002 =>.bd fun t2003 e2004 =>.rg [(1,hC [] [(0,3)] [] [3] Tryz.call133 (Zs.ok a0 t2001 e2002)),(3,hC [] [(0,4)] [] [4] Tryz.call133 (Zs.ok a1 t2003 e2004))] <| .rg [] <| .bl <| .loop (.c3 (Z2b.l0.partial_correctness )) (t2001,t2003,[]) [(2,21)] [3,4] [22] (fun _ =>.pr fun x2082 =>.pr fun x2083 =>.one (fun x2084=>⟨[(4,.ptr 21 0 0),(5,.im (.row (x2082.map (Z2 .i64)))),(6,.im (.row (x2083.map (Z2 .i64)))),(7,.own 22)],[(21,some (.box 179 [iV .i64 0,.none0])),(22,some (.row 2 136 (x2084.map Z0)))],0⟩) fun x2084 =>.rg [(1,hG (Z2 .i64) x2082),(3,hG (Z2 .i64) x2083)] <| .cd (fun c2085 =>.bl <| .bl <| .join (.sp (fun c2094 =>.rg [(1,hG (Z2 .i64) x2083),(3,hB c2094)] <| .out [(21,23),(22,24)] [] [])
 (fun c2094 =>.sp (fun c2095 =>.el fun b2096 p2097 q2098 =>.el fun b2099 p2100 q2101 =>.rg [(1,hG (Z2 .i64) x2083),(3,hB c2094),(5,hG (Z2 .i64) x2082),(7,hB c2095),(9,hA (Z2 .i64) p2097 q2098),(12,hA (Z2 .i64) p2100 q2101)] <| .out [(21,23),(22,24)] [] [])
 (fun c2095 =>.rg [(1,hG (Z2 .i64) x2083),(3,hB c2094),(5,hG (Z2 .i64) x2082),(7,hB c2095)] <| .out [(21,23),(22,24)] [] [])))
 (.st .normal (fun x2102=>⟨[(4,.ptr 23 0 0),(5,.im (.row (x2082.map (Z2 .i64)))),(6,.im (.row (x2083.map (Z2 .i64)))),(7,.own 24),(29,bV x2102)],[(23,some (.box 179 [iV .i64 0,.none0])),(24,some (.row 2 136 (x2084.map Z0)))],0⟩) fun x2102 =>.join (.cd (fun c2103 =>.el fun b2108 p2109 q2110 =>.ck fun c2111 =>.rg [(2,hA (Z2 .i64) p2109 q2110),(5,hQ 25 Z0 ([(⟨b2108,0⟩:Z1)]:List Z1)),(6,hP 26 Z0 2 c2111)] <| .ck fun c2113 =>.rg [(1,hR1 (Z2 .i64) 1 c2113)] <| .out [(23,35),(26,36)] [] [])
 (fun c2103 =>.join (.sp (fun c2121 =>.rg [(1,hG (Z2 .i64) x2082),(3,hB c2121)] <| .out [(23,27),(24,28)] [] [])
 (fun c2121 =>.el fun b2122 p2123 q2124 =>.el fun b2125 p2126 q2127 =>.rg [(1,hG (Z2 .i64) x2082),(3,hB c2121),(5,hA (Z2 .i64) p2123 q2124),(8,hA (Z2 .i64) p2126 q2127)] <| .out [(23,27),(24,28)] [] []))
 (.st .normal (fun x2128=>⟨[(4,.ptr 27 0 0),(5,.im (.row (x2082.map (Z2 .i64)))),(6,.im (.row (x2083.map (Z2 .i64)))),(7,.own 28),(56,bV x2128)],[(27,some (.box 179 [iV .i64 0,.none0])),(28,some (.row 2 136 (x2084.map Z0)))],0⟩) fun x2128 =>.join (.cd (fun c2129 =>.el fun b2134 p2135 q2136 =>.ck fun c2137 =>.rg [(2,hA (Z2 .i64) p2135 q2136),(5,hQ 29 Z0 ([(⟨b2134,0⟩:Z1)]:List Z1)),(6,hP 30 Z0 2 c2137)] <| .ck fun c2139 =>.rg [(1,hR1 (Z2 .i64) 1 c2139)] <| .out [(27,33),(30,34)] [] [])
 (fun c2129 =>.el fun b2144 p2145 q2146 =>.ck fun c2147 =>.rg [(2,hA (Z2 .i64) p2145 q2146),(5,hQ 31 Z0 ([(⟨b2144,0⟩:Z1)]:List Z1)),(6,hP 32 Z0 2 c2147)] <| .ck fun c2150 =>.ck fun c2151 =>.rg [(1,hR1 (Z2 .i64) 1 c2150),(3,hR1 (Z2 .i64) 1 c2151)] <| .out [(27,33),(32,34)] [] []))
 (.pr fun x2152 =>.st .normal (fun x2153=>⟨[(4,.ptr 33 0 0),(5,.im (.row (x2152.map (Z2 .i64)))),(6,.im (.row (((x2083.drop (Int.toNat ((1:Int)))).take ((Int.toNat ((x2083.length:Int)))-(Int.toNat ((1:Int))))).map (Z2 .i64)))),(7,.own 34)],[(33,some (.box 179 [iV .i64 0,.none0])),(34,some (.row 2 136 (x2153.map Z0)))],0⟩) fun x2153 =>.out [(33,35),(34,36)] [] []))))
 (.pr fun x2154 =>.pr fun x2155 =>.st .normal (fun x2156=>⟨[(4,.ptr 35 0 0),(5,.im (.row (x2154.map (Z2 .i64)))),(6,.im (.row (x2155.map (Z2 .i64)))),(7,.own 36)],[(35,some (.box 179 [iV .i64 0,.none0])),(36,some (.row 2 136 (x2156.map Z0)))],0⟩) fun x2156 =>.back [(35,21),(36,22)] [] [] rfl)))
 (fun c2085 =>.out [(21,37),(22,38)] [] []))
 (.st (.exit 0) (fun x2157=>⟨[(4,.ptr 37 0 0),(7,.own 38)],[(37,some (.box 179 [iV .i64 0,.none0])),(38,some (.row 2 136 (x2157.map Z0)))],0⟩) fun x2157 =>.bd fun t2160 e2161 =>.rg [(1,⟨.more (Z4t [] [(0,39)] [38] [39] 0 (.agg [iV .i64 ((t2160).f0),.own 0]) [(0,some (.row 2 210 (((t2160).f1).map Z20)))]),.c (Tryz.call135) (.c (Z32.ok x2157 t2160 e2161) (.c (p:=∀ c∈((t2160).f1).map Z20,∀ x∈c,∃ v,x=Im.sc v) (Z51 _ _ (fun _=>by simp)) .n))⟩)] <| .ret [(37,1),(39,0)] [] [] ⟨[(4,.ptr 1 0 0)],[(0,some (.row 2 210 ((((t2160)).f1).map Z20))),(1,some (.box 179 [iV .i64 (((t2160)).f0),.own 0]))],0⟩))
def Z1g.l0 (a0:List Za) (x2176:Int) (x2177:List Z2j) (x2178:Int) (x2179:List Z2j) (x2180:Int):Option (Int×(List Z2j)×Int×(List Z2j)):=if(decide (x2180<(a0.length:Int)))=true then((at? a0 x2180)>>=fun b2185=>(Z32.f b2185.f1.f6)>>=fun t2192=>(Z2b.f (⟨x2176,x2177⟩:Zd) (t2192))>>=fun t2194=>(Z32.f b2185.f1.f7)>>=fun t2200=>(Z2b.f (⟨x2178,x2179⟩:Zd) (t2200))>>=fun t2202=>Z1g.l0 a0 ((t2194).f0) ((t2194).f1) ((t2202).f0) ((t2202).f1) (i64.wrap (x2180+(1:Int)))) else(some (x2176,x2177,x2178,x2179))
partial_fixpoint
def Z1g.f (a0:List Za):Option (Zd×Zd):=(Z1g.l0 a0 0 [] 0 [] 0)>>=fun oo=>match oo with | (x2204,x2205,x2206,x2207)=>(some ((⟨x2204,x2205⟩:Zd),(⟨x2206,x2207⟩:Zd)))
theorem Z1g.ok (a0:List Za) (r:Zd×Zd) (H:Z1g.f a0=some r):Pv.Fn Tryz.prog 106 [.im (.row (a0.map Z7))] [] 0 (fun x o=>x = .tup [.agg [iV .i64 ((r.1).f0),.own 0],.agg [iV .i64 ((r.2).f0),.own 1]]∧o=[(0,some (.row 2 210 (((r.1).f1).map Z20))),(1,some (.row 2 210 (((r.2).f1).map Z20)))]):=by
 unfold Z1g.f at H
 exact HT.fn H (fun r =>.tup [.agg [iV .i64 ((r.1).f0),.own 0],.agg [iV .i64 ((r.2).f0),.own 1]]) (fun r=>[(0,some (.row 2 210 (((r.1).f1).map Z20))),(1,some (.row 2 210 (((r.2).f1).map Z20)))]) [0,1] Tryz.func106 rfl rfl hmx (.rg [(0,⟨.k 0,.n⟩),(1,⟨.k 1,.n⟩)] <| .rg [(1,hG Z7 a0)] <| .bl <| .loop (.c5 (Z1g.l0.partial_correctness a0)) (0,[],0,[],0) [(0,7),(1,9)] [] [8,10] (fun _ =>.pr fun x2176 =>.pr fun x2177 =>.pr fun x2178 =>.pr fun x2179 =>.one (fun x2180=>⟨[(2,.ptr 7 0 0),(3,.ptr 9 0 0),(6,.im (.row (a0.map Z7))),(7,iV .i64 (a0.length:Int)),(8,iV .i64 x2180)],[(7,some (.box 179 [iV .i64 x2176,.own 8])),(8,some (.row 2 210 (x2177.map Z20))),(9,some (.box 179 [iV .i64 x2178,.own 10])),(10,some (.row 2 210 (x2179.map Z20)))],0⟩) fun x2180 =>.rg [] <| .cd (fun c2181 =>.bl <| .el fun b2185 p2186 q2187 =>.rg [(0,hA Z7 p2186 q2187),(2,⟨.k 11,.n⟩)] <| .bd fun t2192 e2193 =>.bd fun t2194 e2195 =>.rg [(4,hC [] [(0,12)] [] [12] Tryz.call135 (Z32.ok b2185.f1.f6 t2192 e2193)),(5,⟨.more (Z4t [] [(0,13)] [8,12] [13] 0 (.agg [iV .i64 ((t2194).f0),.own 0]) [(0,some (.row 2 210 (((t2194).f1).map Z20)))]),.c (Tryz.call134) (.c (Z2b.ok (⟨x2176,x2177⟩:Zd) (t2192) t2194 e2195) (.c (p:=∀ c∈((t2194).f1).map Z20,∀ x∈c,∃ v,x=Im.sc v) (Z51 _ _ (fun _=>by simp)) .n))⟩)] <| .bd fun t2200 e2201 =>.bd fun t2202 e2203 =>.rg [(4,hC [] [(0,14)] [] [14] Tryz.call135 (Z32.ok b2185.f1.f7 t2200 e2201)),(5,⟨.more (Z4t [] [(0,15)] [10,14] [15] 0 (.agg [iV .i64 ((t2202).f0),.own 0]) [(0,some (.row 2 210 (((t2202).f1).map Z20)))]),.c (Tryz.call134) (.c (Z2b.ok (⟨x2178,x2179⟩:Zd) (t2200) t2202 e2203) (.c (p:=∀ c∈((t2202).f1).map Z20,∀ x∈c,∃ v,x=Im.sc v) (Z51 _ _ (fun _=>by simp)) .n))⟩)] <| .rg [] <| .back [(7,7),(9,9),(13,8),(15,10)] [] [] rfl)
 (fun c2181 =>.out [(7,16),(8,17),(9,18),(10,19)] [] []))
 (.pr fun x2204 =>.pr fun x2205 =>.pr fun x2206 =>.st (.exit 0) (fun x2207=>⟨[(2,.ptr 16 0 0),(3,.ptr 18 0 0)],[(16,some (.box 179 [iV .i64 x2204,.own 17])),(17,some (.row 2 210 (x2205.map Z20))),(18,some (.box 179 [iV .i64 x2206,.own 19])),(19,some (.row 2 210 (x2207.map Z20)))],0⟩) fun x2207 =>.rg [] <| .ret [(16,2),(17,0),(18,3),(19,1)] [] [] ⟨[(2,.ptr 2 0 0),(3,.ptr 3 0 0)],[(0,some (.row 2 210 ((((⟨x2204,x2205⟩:Zd)).f1).map Z20))),(1,some (.row 2 210 ((((⟨x2206,x2207⟩:Zd)).f1).map Z20))),(2,some (.box 179 [iV .i64 (((⟨x2204,x2205⟩:Zd)).f0),.own 0])),(3,some (.box 179 [iV .i64 (((⟨x2206,x2207⟩:Zd)).f0),.own 1]))],0⟩))
def Z1o.f (a0:List Za) (a1:Za):Option (Bool):=if((a0.length:Int)==(0:Int))=true then(some true) else((at? a0 (i64.wrap ((a0.length:Int)-(1:Int))))>>=fun b836=>((if(decide ((a0.length:Int)≥(32:Int)))=true then(some true) else(if(decide (a1.f0≤b836.f0))=true then(some true) else((Z4g.f b836.f1 a1.f1)>>=fun t850=>some (!t850)))):Option (Bool))>>=fun x852=>if x852=true then(some false) else(((if(a1.f1.f0==(0:Int))=true then((Z57.f b836.f1 a1.f1)>>=fun t1903=>some t1903) else(some false)):Option (Bool))>>=fun x1905=>if x1905=true then(some false) else((Z1x.f a0)>>=fun t2210=>(chk ((t2210.length+[a1].length)*104≤140737488355328))>>=fun _=>(Z1g.f (t2210++[a1]))>>=fun t2213=>(((Zs.f (t2213.1))>>=fun t2220=>if(decide ((t2220.length:Int)≤(512:Int)))=true then((Zs.f (t2213.2))>>=fun t2223=>some (decide ((t2223.length:Int)≤(512:Int)))) else(some false)):Option (Bool))>>=fun x2225=>some x2225)))
theorem Z1o.ok (a0:List Za) (a1:Za) (r:Bool) (H:Z1o.f a0 a1=some r):Pv.Fn Tryz.prog 104 [.im (.row (a0.map Z7)),.agg [iV .i64 a1.f0,iV .i64 a1.f1.f0,iV .i64 a1.f1.f1,iV .i64 a1.f1.f2,iV .u64 a1.f1.f3,iV .u64 a1.f1.f4,iV .i64 a1.f1.f5,.im (.row (a1.f1.f6.map Z0)),.im (.row (a1.f1.f7.map Z0))]] [] 0 (fun x o=>x=bV r∧o=[]):=by
 unfold Z1o.f at H
 exact HT.fn H (fun r=>bV r) (fun r=>[]) [] Tryz.func104 rfl rfl hmx (.rg [(0,⟨.k 0,.n⟩)] <| .rg [(1,hG Z7 a0)] <| .cd (fun c832 =>.rg [] <| .ret [] [] [] ⟨[(4,bV true)],[],0⟩)
 (fun c832 =>.el fun b836 p837 q838 =>.rg [(2,hG Z7 a0),(4,hA Z7 p837 q838),(6,⟨.k 1,.n⟩)] <| .join (.sp (fun c848 =>.rg [(1,hG Z7 a0),(3,hB c848)] <| .out [(0,2),(1,3)] [] [])
 (fun c848 =>.sp (fun c849 =>.rg [(1,hG Z7 a0),(3,hB c848),(10,hB c849)] <| .out [(0,2),(1,3)] [] [])
 (fun c849 =>.bd fun t850 e851 =>.rg [(1,hG Z7 a0),(3,hB c848),(10,hB c849),(15,hC [] [] [] [] Tryz.call131 (Z4g.ok b836.f1 a1.f1 t850 e851))] <| .out [(0,2),(1,3)] [] [])))
 (.st .normal (fun x852=>⟨[(0,.im (.row (a0.map Z7))),(3,.ptr 2 0 0),(5,.ptr 3 0 0),(34,bV x852)],[(2,some (.box 50 [iV .i64 a1.f0,iV .i64 a1.f1.f0,iV .i64 a1.f1.f1,iV .i64 a1.f1.f2,iV .u64 a1.f1.f3,iV .u64 a1.f1.f4,iV .i64 a1.f1.f5,.im (.row (a1.f1.f6.map Z0)),.im (.row (a1.f1.f7.map Z0))])),(3,some (.box 50 [iV .i64 b836.f0,iV .i64 b836.f1.f0,iV .i64 b836.f1.f1,iV .i64 b836.f1.f2,iV .u64 b836.f1.f3,iV .u64 b836.f1.f4,iV .i64 b836.f1.f5,.im (.row (b836.f1.f6.map Z0)),.im (.row (b836.f1.f7.map Z0))]))],0⟩) fun x852 =>.cd (fun c853 =>.rg [] <| .ret [] [] [] ⟨[(4,bV false)],[],0⟩)
 (fun c853 =>.join (.sp (fun c1902 =>.bd fun t1903 e1904 =>.rg [(4,hB c1902),(9,hC [] [] [] [] Tryz.call132 (Z57.ok b836.f1 a1.f1 t1903 e1904))] <| .out [(2,4)] [] [])
 (fun c1902 =>.rg [(4,hB c1902)] <| .out [(2,4)] [] []))
 (.st .normal (fun x1905=>⟨[(0,.im (.row (a0.map Z7))),(3,.ptr 4 0 0),(45,bV x1905)],[(4,some (.box 50 [iV .i64 a1.f0,iV .i64 a1.f1.f0,iV .i64 a1.f1.f1,iV .i64 a1.f1.f2,iV .u64 a1.f1.f3,iV .u64 a1.f1.f4,iV .i64 a1.f1.f5,.im (.row (a1.f1.f6.map Z0)),.im (.row (a1.f1.f7.map Z0))]))],0⟩) fun x1905 =>.cd (fun c1906 =>.rg [] <| .ret [] [] [] ⟨[(4,bV false)],[],0⟩)
 (fun c1906 =>.bd fun t2210 e2211 =>.ck fun c2212 =>.bd fun t2213 e2214 =>.rg [(1,hC [] [(0,5)] [] [5] Tryz.call97 (Z1x.ok a0 t2210 e2211)),(3,hQ 6 Z7 ([a1]:List Za)),(4,hP 7 Z7 9 c2212),(5,hC [] [(0,8),(1,9)] [7] [8,9] Tryz.call106 (Z1g.ok (t2210++[a1]) t2213 e2214)),(9,⟨.k 10,.n⟩),(10,⟨.k 11,.n⟩)] <| .join (.bd fun t2220 e2221 =>.sp (fun c2222 =>.bd fun t2223 e2224 =>.rg [(1,⟨.more (Z4t [] [(0,12)] [8] [12] 0 (.own 0) [(0,some (.row 1 3 (t2220.map (Z2 .i64))))]),.c (Tryz.call133) (.c (Zs.ok (t2213.1) t2220 e2221) (.c (p:=∀ c∈t2220.map (Z2 .i64),∀ x∈c,∃ v,x=Im.sc v) (Z51 _ _ (fun _=>by simp)) .n))⟩),(2,hG (Z2 .i64) t2220),(4,hB c2222),(6,⟨.more (Z4t [] [(0,13)] [9] [13] 0 (.own 0) [(0,some (.row 1 3 (t2223.map (Z2 .i64))))]),.c (Tryz.call133) (.c (Zs.ok (t2213.2) t2223 e2224) (.c (p:=∀ c∈t2223.map (Z2 .i64),∀ x∈c,∃ v,x=Im.sc v) (Z51 _ _ (fun _=>by simp)) .n))⟩),(7,hG (Z2 .i64) t2223)] <| .out [] [] [])
 (fun c2222 =>.rg [(1,⟨.more (Z4t [] [(0,12)] [8] [12] 0 (.own 0) [(0,some (.row 1 3 (t2220.map (Z2 .i64))))]),.c (Tryz.call133) (.c (Zs.ok (t2213.1) t2220 e2221) (.c (p:=∀ c∈t2220.map (Z2 .i64),∀ x∈c,∃ v,x=Im.sc v) (Z51 _ _ (fun _=>by simp)) .n))⟩),(2,hG (Z2 .i64) t2220),(4,hB c2222)] <| .out [] [] []))
 (.st .normal (fun x2225=>⟨[(4,bV x2225)],[],0⟩) fun x2225 =>.ret [] [] [] ⟨[(4,bV x2225)],[],0⟩)))))))
def Z2h.l0 (a0:List Za) (x1:List (List Za)) (x2:List Za) (x3:Int):Option (List (List Za)):=if(decide (x3<(a0.length:Int)))=true then((at? a0 x3)>>=fun b1=>(chk ((x1.length+2)*24≤140737488355328))>>=fun _=>(Z1o.f x2 b1)>>=fun t1=>if(!t1)=true then Z2h.l0 a0 (x1++[x2]) [b1] (i64.wrap (x3+(1:Int))) else(chk ((x2.length+1)*104≤140737488355328))>>=fun _=>Z2h.l0 a0 x1 (x2++[b1]) (i64.wrap (x3+(1:Int)))) else some (x1++[x2])
partial_fixpoint
def Z2h.f (a0:List Za):Option (List (List Za)):=if(decide ((0:Int)<(a0.length:Int)))=true then((at? a0 0)>>=fun b1=>Z2h.l0 a0 [] [b1] (i64.wrap ((0:Int)+(1:Int)))) else some []
theorem Z2h.ok (a0:List Za) (r:List (List Za)) (H:Z2h.f a0=some r):Pv.Fn Tryz.prog 72 [.im (.row (a0.map Z7))] [] 0 (fun x o=>x = .own 0∧o=[(0,some (.row 1 44 (r.map (Z1i Z7))))]):=by
 unfold Z2h.f at H
 refine Fn.bodyK [0] Tryz.func72 rfl rfl (fun Γ hP hn => ?_)
 have hm:Tryz.prog.follows .mixedOrders=true:=by kernel_rfl
 replace hn:Γ.n=46:=hn
 refine sO hP hn hm [] [] [0] [] [] ?_
 refine sO hP hn hm [] [(3,.none0)] [0,3] [] [] ?_
 refine AWp.seq ?_
 refine AWp.seq ?_
 refine rG hP hn hm [(1,.any (iV .i64 (a0.length:Int)))] [(7,.im (.row (a0.map Z7))),(8,iV .i64 (a0.length:Int)),(9,iV .i64 0)] [3,7,8,9] [] [] [((a0.map Z7).length:Int)=(a0.length:Int)] ⟨by rw[Z7z],trivial⟩ ?_
 refine AWp.block ?_
 refine AWp.loop (LWp.mono (Q:=fun e s=>e = .exit 0∧s=⟨[(3,.own 0)],[(0,some (.row 1 44 (r.map (Z1i Z7))))],0⟩) (LWp.cv (withBody (fun body hbody => ?_))) ?_)
 ·have main:∀ x1 x2 x3 o,        Z2h.l0 a0 x1 x2 x3=some o→LWp Γ body (fun e s=>∃ t,Cv Γ s t∧(e = .exit 0∧t=⟨[(3,.own 0)],[(0,some (.row 1 44 (o.map (Z1i    Z7     ))))],0⟩)) ⟨[(3,.own 20),(7,.im (.row (a0.map Z7     ))),(8,iV .i64 (a0.length:Int)),(9,iV .i64 x3)],[(20,some (.arow 1 44 (x1.map (Z1i    Z7     )) [[.own 21]])),(21,some (.row 9 50 (x2.map Z7     )))],0⟩:=by
   intro x1 x2 x3 o e1
   refine Z2h.l0.partial_correctness a0 (motive:=fun x1 x2 x3 o=>LWp Γ body (fun e s=>∃ t,Cv Γ s t∧(e = .exit 0∧t=⟨[(3,.own 0)],[(0,some (.row 1 44 (o.map (Z1i Z7))))],0⟩)) ⟨[(3,.own 20),(7,.im (.row (a0.map Z7))),(8,iV .i64 (a0.length:Int)),(9,iV .i64 x3)],[(20,some (.arow 1 44 (x1.map (Z1i Z7)) [[.own 21]])),(21,some (.row 9 50 (x2.map Z7)))],0⟩) ?_ _ _ _ _ e1
   clear H e1 o x1 x2 x3;intro self ih x1 x2 x3 o H
   subst hbody
   refine LWp.round ?_
   refine sO hP hn hm [] [(10,bV (decide (x3<(a0.length:Int))))] [3,7,8,9,10] [] [20,21] ?_
   refine AWp.seq ?_
   refine AWp.cond (decide (x3<(a0.length:Int))) (by kernel_rfl) (fun c1 => ?_) (fun c1 => ?_)
   ·replace H:=iT c1 H
    refine AWp.skip ?_
    refine AWp.seq ?_
    refine AWp.block ?_
    obtain⟨b1,p1,q1,H⟩:=at_of H
    obtain⟨d1,H⟩:=Z99 H
    have w0:=cut_w0 d1
    have w1:=cut_w1 d1
    rw[← Z7z x1 (Z1i Z7)] at w0 w1
    refine sR hP hn hm [(0,.c (Z7 b1)),(2,.k 23)] [(5,.ptr 23 0 0)] [3,5,7,8,9] [(23,some (.box 50 (aSample b1)))] [20,21,23] [_,_] ⟨p1,Z97 Z7 q1,trivial⟩ ?_
    refine sO hP hn hm [(1,.more xLenT)] [(6,iV .i64 (((x1.map (Z1i Z7)).length+1:Nat):Int))] [3,5,6,7,8,9] [] [20,21,23] ?_
    refine AWp.seq ?_
    obtain⟨t1,e2,H⟩:=Z79 H
    refine sR hP hn hm [(1,.b false),(6,.more (Zd5 0)),(7,.more (Zda 0)),(9,.more (Z4t [] [] [21] [] 0 (bV t1) []))] [(26,bV (!t1))] [3,5,6,7,8,9,26] [] [20,21,23] [((((x1.map (Z1i Z7)).length+1:Nat):Int)==(0:Int))=false,_,(x1.map (Z1i Z7)).length+0=(x1.map (Z1i Z7)).length+0,_,_] ⟨by simp;omega,w0,rfl,Tryz.call104,Z1o.ok x2 b1 t1 e2,trivial⟩ ?_
    refine AWp.cond (!t1) (by kernel_rfl) (fun c2 => ?_) (fun c2 => ?_)
    ·replace H:=iT c2 H
     refine sR hP hn hm [(1,.more (xOneT 24)),(2,.more (xAppT 25))] [(3,.own 25)] [3,5,6,7,8,9] [(25,some (.arow 1 44 (x1.map (Z1i Z7)) [[.own 21],[.none0]]))] [21,23,25] [((x1.map (Z1i Z7)).length+1+1)*24≤140737488355328] ⟨by rw[Z7z];omega,trivial⟩ ?_
     refine rO hP hn hm [] [(6,iV .i64 (i64.wrap ((((x1.map (Z1i Z7)).length+1:Nat):Int)+1)))] [3,5,6,7,8,9] [] [21,23,25] ?_
     refine rG hP hn hm [(6,.more (Zd5 1)),(7,.more (Zda 1)),(9,.app 26 ([b1].map Z7)),(10,.app 27 ([b1].map Z7)),(11,.more (Zd5 1)),(12,.more (xStoreT 1))] [] [3,7,8,9] [(25,some (.arow 1 44 (x1.map (Z1i Z7)) [[.own 21],[.own 27]])),(27,some (.row 9 50 ([b1].map Z7)))] [21,25,27] [_,(x1.map (Z1i Z7)).length+1=(x1.map (Z1i Z7)).length+1,[b1].map Z7=[Z7 b1],[b1].map Z7=[]++([b1].map Z7),∀ c∈([b1].map Z7),c.length=9,∀ c∈([b1].map Z7),Z2o (c.map .im)=true,(([]:List (List Im)).length+([b1].map Z7).length)*104≤140737488355328,_,(x1.map (Z1i Z7)).length+1=(x1.map (Z1i Z7)).length+1] ⟨w1,rfl,rfl,rfl,by exact Z4n _ _ _ (fun _=>rfl),by exact Z42 _ _ (fun _=>rfl),by simp,w1,rfl,trivial⟩ ?_
     refine rO hP hn hm [] [(9,iV .i64 (i64.wrap (x3+(1:Int))))] [3,7,8,9] [] [21,25,27] ?_
     have h:=ih _ _ _ _ H
     rw[app1] at h
     exact LWp.conv [(25,20),(27,21)] [21] [] (by kernel_rfl) h
    ·replace H:=iF c2 H
     obtain⟨d2,H⟩:=Z99 H
     refine AWp.skip ?_
     refine rG hP hn hm [(6,.more (Zd5 0)),(7,.more (Zda 0)),(9,.app 26 ([b1].map Z7)),(10,.app 27 ((x2++[b1]).map Z7)),(11,.more (Zd5 0)),(12,.more (xStoreT 0))] [] [3,7,8,9] [(20,some (.arow 1 44 (x1.map (Z1i Z7)) [[.own 27]])),(27,some (.row 9 50 ((x2++[b1]).map Z7)))] [20,27] [_,(x1.map (Z1i Z7)).length+0=(x1.map (Z1i Z7)).length+0,[b1].map Z7=[Z7 b1],(x2++[b1]).map Z7=(x2.map Z7)++([b1].map Z7),∀ c∈([b1].map Z7),c.length=9,∀ c∈([b1].map Z7),Z2o (c.map .im)=true,((x2.map Z7).length+([b1].map Z7).length)*104≤140737488355328,_,(x1.map (Z1i Z7)).length+0=(x1.map (Z1i Z7)).length+0] ⟨w0,rfl,rfl,by simp,by exact Z4n _ _ _ (fun _=>rfl),by exact Z42 _ _ (fun _=>rfl),by simpa using d2,w0,rfl,trivial⟩ ?_
     refine rO hP hn hm [] [(9,iV .i64 (i64.wrap (x3+(1:Int))))] [3,7,8,9] [] [20,27] ?_
     exact LWp.conv [(20,20),(27,21)] [] [] (by kernel_rfl) (ih _ _ _ _ H)
   ·replace H:=iF c1 H
    refine AWp.exit ?_
    obtain rfl:=sj H
    exact lf (t:=⟨[(3,.own 0)],[(0,some (.row 1 44 (x1.map (Z1i Z7)++[(Z1i Z7) x2])))],0⟩) [(20,0)] [21] [] (by kernel_rfl) ⟨rfl,by rw[app1]⟩
  subst hbody
  refine LWp.round ?_
  refine sO hP hn hm [] [(10,bV (decide ((0:Int)<(a0.length:Int))))] [3,7,8,9,10] [] [] ?_
  refine AWp.seq ?_
  refine AWp.cond (decide ((0:Int)<(a0.length:Int))) (by kernel_rfl) (fun c1 => ?_) (fun c1 => ?_)
  ·replace H:=iT c1 H
   refine AWp.skip ?_
   refine AWp.seq ?_
   refine AWp.block ?_
   obtain⟨b1,p1,q1,H⟩:=at_of H
   refine sR hP hn hm [(0,.c (Z7 b1)),(2,.k 23)] [(5,.ptr 23 0 0)] [3,5,7,8,9] [(23,some (.box 50 (aSample b1)))] [23] [_,_] ⟨p1,Z97 Z7 q1,trivial⟩ ?_
   refine sO hP hn hm [] [(6,iV .i64 0)] [3,5,6,7,8,9] [] [23] ?_
   refine AWp.seq ?_
   refine sR hP hn hm [(1,.b true)] [(26,bV true)] [3,5,6,7,8,9,26] [] [23] [((0:Int)==0)=true] ⟨rfl,trivial⟩ ?_
   refine AWp.cond true (by kernel_rfl) (fun c2 => ?_) (fun c2=>nomatch c2)
   refine sR hP hn hm [(1,.more (xOneT 24)),(2,.more (xAppT 25))] [(3,.own 25)] [3,5,6,7,8,9] [(25,some (.arow 1 44 [] [[.none0]]))] [23,25] [1*24≤140737488355328] ⟨by decide,trivial⟩ ?_
   refine rO hP hn hm [] [(6,iV .i64 1)] [3,5,6,7,8,9] [] [23,25] ?_
   refine rG hP hn hm [(6,.more (Zd5 0)),(7,.more (Zda 0)),(9,.app 26 ([b1].map Z7)),(10,.app 27 ([b1].map Z7)),(11,.more (Zd5 0)),(12,.more (xStoreT 0))] [] [3,7,8,9] [(25,some (.arow 1 44 [] [[.own 27]])),(27,some (.row 9 50 ([b1].map Z7)))] [25,27] [i64.wrap ((1:Int)-1)=((([]:List (List Im)).length+0:Nat):Int),([]:List (List Im)).length+0=([]:List (List Im)).length+0,[b1].map Z7=[Z7 b1],[b1].map Z7=[]++([b1].map Z7),∀ c∈([b1].map Z7),c.length=9,∀ c∈([b1].map Z7),Z2o (c.map .im)=true,(([]:List (List Im)).length+([b1].map Z7).length)*104≤140737488355328,i64.wrap ((1:Int)-1)=((([]:List (List Im)).length+0:Nat):Int),([]:List (List Im)).length+0=([]:List (List Im)).length+0] ⟨rfl,rfl,rfl,rfl,by exact Z4n _ _ _ (fun _=>rfl),by exact Z42 _ _ (fun _=>rfl),by simp,rfl,rfl,trivial⟩ ?_
   refine rO hP hn hm [] [(9,iV .i64 (i64.wrap ((0:Int)+(1:Int))))] [3,7,8,9] [] [25,27] ?_
   exact LWp.conv [(25,20),(27,21)] [] [] (by kernel_rfl) (main [] [b1] _ _ H)
  ·replace H:=iF c1 H
   refine AWp.exit ?_
   obtain rfl:=sj H
   exact lf [] [] [0] (by kernel_rfl) ⟨rfl,rfl⟩
 ·rintro e s ⟨rfl,rfl⟩
  refine sO hP hn hm [] [(2,.own 0)] [2] [] [0] ?_
  refine AWp.ret ?_
  exact rl (.inl rfl) rfl (by kernel_rfl) (by kernel_rfl)
def Z1h.l0 (a0:List Za) (x2265:Int):Option (Int ⊕ Unit):=if(decide (x2265<(a0.length:Int)))=true then((at? a0 x2265)>>=fun b2270=>((if(decide (b2270.f0<(0:Int)))=true then(some true) else(some (decide (b2270.f0>(1099511627776:Int))))):Option (Bool))>>=fun x2275=>if x2275=true then(some (.inl 4)) else((Z0f.f b2270.f1)>>=fun t2279=>if(t2279 != (0:Int))=true then(some (.inl t2279)) else((chk (0≤(0:Int)∧(0:Int)≤x2265∧x2265≤(a0.length:Int)))>>=fun _=>(Z1o.f ((a0.drop (Int.toNat ((0:Int)))).take ((Int.toNat (x2265))-(Int.toNat ((0:Int))))) b2270)>>=fun t2286=>if(!t2286)=true then(some (.inl 6)) else(Z1h.l0 a0 (i64.wrap (x2265+(1:Int))))))) else(some (.inr ()))
partial_fixpoint
def Z1h.f (a0:List Za):Option (Int):=if((a0.length:Int)==(0:Int))=true then(some 30) else((Z1h.l0 a0 0)>>=fun oo=>match oo with | .inl rr=>(some rr) | .inr _=>(some 0))
theorem Z1h.ok (a0:List Za) (r:Int) (H:Z1h.f a0=some r):Pv.Fn Tryz.prog 105 [.im (.row (a0.map Z7))] [] 0 (fun x o=>x=iV .i64 r∧o=[]):=by
 unfold Z1h.f at H
 exact HT.fn H (fun r=>iV .i64 r) (fun r=>[]) [] Tryz.func105 rfl rfl hmx (.rg [] <| .rg [(1,hG Z7 a0)] <| .cd (fun c2241 =>.rg [] <| .ret [] [] [] ⟨[(2,iV .i64 30)],[],0⟩)
 (fun c2241 =>.rg [(1,hG Z7 a0)] <| .bl <| .loop (.one (Z1h.l0.partial_correctness a0)) 0 [] [] [] (fun _ =>.one (fun x2265=>⟨[(0,.im (.row (a0.map Z7))),(9,.im (.row (a0.map Z7))),(10,iV .i64 (a0.length:Int)),(11,iV .i64 x2265)],[],0⟩) fun x2265 =>.rg [] <| .cd (fun c2266 =>.bl <| .el fun b2270 p2271 q2272 =>.rg [(1,hA Z7 p2271 q2272),(3,⟨.k 2,.n⟩)] <| .join (.sp (fun c2274 =>.rg [(3,hB c2274)] <| .out [(2,3)] [] [])
 (fun c2274 =>.rg [(3,hB c2274)] <| .out [(2,3)] [] []))
 (.st .normal (fun x2275=>⟨[(0,.im (.row (a0.map Z7))),(3,iV .i64 x2265),(4,.ptr 3 0 0),(9,.im (.row (a0.map Z7))),(10,iV .i64 (a0.length:Int)),(11,iV .i64 x2265),(23,bV x2275)],[(3,some (.box 50 [iV .i64 b2270.f0,iV .i64 b2270.f1.f0,iV .i64 b2270.f1.f1,iV .i64 b2270.f1.f2,iV .u64 b2270.f1.f3,iV .u64 b2270.f1.f4,iV .i64 b2270.f1.f5,.im (.row (b2270.f1.f6.map Z0)),.im (.row (b2270.f1.f7.map Z0))]))],0⟩) fun x2275 =>.cd (fun c2276 =>.rg [] <| .ret [] [] [] ⟨[(2,iV .i64 4)],[],0⟩)
 (fun c2276 =>.bd fun t2279 e2280 =>.rg [(2,hC [] [] [] [] Tryz.call57 (Z0f.ok b2270.f1 t2279 e2280))] <| .rg [] <| .cd (fun c2281 =>.rg [] <| .ret [] [] [] ⟨[(2,iV .i64 t2279)],[],0⟩)
 (fun c2281 =>.ck fun c2285 =>.bd fun t2286 e2287 =>.rg [(2,hR Z7 9 c2285),(4,hC [] [] [] [] Tryz.call104 (Z1o.ok ((a0.drop (Int.toNat ((0:Int)))).take ((Int.toNat (x2265))-(Int.toNat ((0:Int))))) b2270 t2286 e2287))] <| .cd (fun c2288 =>.rg [] <| .ret [] [] [] ⟨[(2,iV .i64 6)],[],0⟩)
 (fun c2288 =>.rg [] <| .back [] [] [] rfl)))))
 (fun c2266 =>.out [] [] []))
 (.sm (.rt (fun rr=>iV .i64 rr) (fun rr=>[]))
 (.st (.exit 0) (fun _=>⟨[],[],0⟩) fun _ =>.rg [] <| .ret [] [] [] ⟨[(2,iV .i64 0)],[],0⟩))))
def Z7l.f (a0:Int):Option (Unit):=some ()
theorem Z7l.ok (a0:Int) (r:Unit) (H:Z7l.f a0=some r):Pv.Fn Tryz.prog 136 [iV .i64 a0] [] 0 (fun x o=>x=iV .u64 (u64.wrap (((BitVec.toNat (BitVec.ofInt 64 (u64.wrap (i64.wrap (a0*2))) ^^^ BitVec.ofInt 64 (u64.wrap (Int.fdiv a0 9223372036854775808))):Nat):Int)))∧o=[]):=by
 unfold Z7l.f at H
 exact HT.fn H (fun r=>iV .u64 (u64.wrap (((BitVec.toNat (BitVec.ofInt 64 (u64.wrap (i64.wrap (a0*2))) ^^^ BitVec.ofInt 64 (u64.wrap (Int.fdiv a0 9223372036854775808))):Nat):Int)))) (fun r=>[]) [] Tryz.func136 rfl rfl hmx (.rg [] <| .rg [(1,hK 1),(4,hK 63)] <| .ret [] [] [] ⟨[(2,iV .u64 (u64.wrap (((BitVec.toNat (BitVec.ofInt 64 (u64.wrap (i64.wrap (a0*2))) ^^^ BitVec.ofInt 64 (u64.wrap (Int.fdiv a0 9223372036854775808))):Nat):Int))))],[],0⟩)
def Z0g.f (a0_c0:List Int) (a0_c1:Int) (a1:Int):Option ((List Int)×Int):=(Z7l.f a1)>>=fun t2316=>(Zb.f a0_c0 a0_c1 (u64.wrap (((BitVec.toNat (BitVec.ofInt 64 (u64.wrap (i64.wrap (a1*2))) ^^^ BitVec.ofInt 64 (u64.wrap (Int.fdiv a1 9223372036854775808))):Nat):Int))))>>=fun t2318=>some (t2318.1,t2318.2)
theorem Z0g.ok (a0_c0:List Int) (a0_c1:Int) (a1:Int) (r:(List Int)×Int) (H:Z0g.f a0_c0 a0_c1 a1=some r):Pv.Fn Tryz.prog 107 [.ptr 0 0 0,iV .i64 a1] [(0,some (.box 86 [.own 1,iV .u64 a0_c1])),(1,some (.row 1 5 (a0_c0.map (Z2 .u8))))] 2 (fun x o=>x = .tup []∧o=[(0,some (.box 86 [.own 2,iV .u64 r.2])),(1,none),(2,some (.row 1 5 (r.1.map (Z2 .u8))))]):=by
 unfold Z0g.f at H
 exact HT.fn H (fun r =>.tup []) (fun r=>[(0,some (.box 86 [.own 2,iV .u64 r.2])),(1,none),(2,some (.row 1 5 (r.1.map (Z2 .u8))))]) [0,1,2] Tryz.func107 rfl rfl hmx (.bd fun t2316 e2317 =>.bd fun t2318 e2319 =>.rg [(2,hC [] [] [] [] Tryz.call136 (Z7l.ok a1 t2316 e2317)),(3,hC [(0,0),(1,1)] [(0,0),(2,2)] [] [2] Tryz.call33 (Zb.ok a0_c0 a0_c1 (u64.wrap (((BitVec.toNat (BitVec.ofInt 64 (u64.wrap (i64.wrap (a1*2))) ^^^ BitVec.ofInt 64 (u64.wrap (Int.fdiv a1 9223372036854775808))):Nat):Int))) t2318 e2319))] <| .ret [(0,0),(2,2)] [] [] ⟨[],[(0,some (.box 86 [.own 2,iV .u64 t2318.2])),(2,some (.row 1 5 (t2318.1.map (Z2 .u8))))],2⟩)
def Z1s.l0 (a1:Zd) (x2344:List Int) (x2345:Int) (x2346:Int):Option ((List Int)×Int):=if(decide (x2346<(a1.f1.length:Int)))=true then((at? a1.f1 x2346)>>=fun b2351=>((if(decide (x2346>(0:Int)))=true then((Zb.f x2344 x2345 (u64.wrap (i64.wrap (b2351.f0-(1:Int)))))>>=fun t2357=>some (t2357.1,t2357.2)) else(some (x2344,x2345))):Option ((List Int)×Int))>>=fun oo=>match oo with | (x2359,x2360)=>((Zb.f x2359 x2360 (u64.wrap (i64.wrap (b2351.f1-(1:Int)))))>>=fun t2363=>Z1s.l0 a1 t2363.1 t2363.2 (i64.wrap (x2346+(1:Int))))) else(some (x2344,x2345))
partial_fixpoint
def Z1s.f (a0_c0:List Int) (a0_c1:Int) (a1:Zd):Option ((List Int)×Int):=(Zb.f a0_c0 a0_c1 (u64.wrap ((a1.f1.length:Int))))>>=fun t2326=>if((a1.f1.length:Int)==(0:Int))=true then(some (t2326.1,t2326.2)) else((Z0g.f t2326.1 t2326.2 a1.f0)>>=fun t2331=>(Z1s.l0 a1 t2331.1 t2331.2 0)>>=fun oo=>match oo with | (x2365,x2366)=>(some (x2365,x2366)))
theorem Z1s.ok (a0_c0:List Int) (a0_c1:Int) (a1:Zd) (r:(List Int)×Int) (H:Z1s.f a0_c0 a0_c1 a1=some r):Pv.Fn Tryz.prog 108 [.ptr 0 0 0,.agg (Zp a1)] [(0,some (.box 86 [.own 1,iV .u64 a0_c1])),(1,some (.row 1 5 (a0_c0.map (Z2 .u8))))] 2 (fun x o=>x = .tup []∧o=[(0,some (.box 86 [.own 2,iV .u64 r.2])),(1,none),(2,some (.row 1 5 (r.1.map (Z2 .u8))))]):=by
 unfold Z1s.f at H
 exact HT.fn H (fun r =>.tup []) (fun r=>[(0,some (.box 86 [.own 2,iV .u64 r.2])),(1,none),(2,some (.row 1 5 (r.1.map (Z2 .u8))))]) [0,1,2] Tryz.func108 rfl rfl hmx (.rg [(0,⟨.k 2,.n⟩)] <| .bd fun t2326 e2327 =>.rg [(3,hG Z20 a1.f1),(5,hC [(0,0),(1,1)] [(0,0),(2,3)] [] [3] Tryz.call33 (Zb.ok a0_c0 a0_c1 (u64.wrap ((a1.f1.length:Int))) t2326 e2327))] <| .rg [(2,hG Z20 a1.f1)] <| .cd (fun c2328 =>.ret [(0,0),(3,2)] [] [] ⟨[],[(0,some (.box 86 [.own 2,iV .u64 t2326.2])),(2,some (.row 1 5 (t2326.1.map (Z2 .u8))))],2⟩)
 (fun c2328 =>.bd fun t2331 e2332 =>.rg [(3,hC [(0,0),(3,1)] [(0,0),(2,4)] [] [4] Tryz.call107 (Z0g.ok t2326.1 t2326.2 a1.f0 t2331 e2332))] <| .rg [(2,hG Z20 a1.f1)] <| .bl <| .loop (.c3 (Z1s.l0.partial_correctness a1)) (t2331.1,t2331.2,0) [(0,0),(4,7)] [] [] (fun _ =>.pr fun x2344 =>.pr fun x2345 =>.one (fun x2346=>⟨[(0,.ptr 0 0 0),(21,.im (.row (a1.f1.map Z20))),(22,iV .i64 (a1.f1.length:Int)),(23,iV .i64 x2346)],[(0,some (.box 86 [.own 7,iV .u64 x2345])),(7,some (.row 1 5 (x2344.map (Z2 .u8))))],2⟩) fun x2346 =>.rg [] <| .cd (fun c2347 =>.bl <| .el fun b2351 p2352 q2353 =>.rg [(1,hA Z20 p2352 q2353),(3,⟨.k 8,.n⟩)] <| .rg [] <| .join (.cd (fun c2354 =>.bd fun t2357 e2358 =>.rg [(5,hC [(0,0),(7,1)] [(0,0),(2,9)] [] [9] Tryz.call33 (Zb.ok x2344 x2345 (u64.wrap (i64.wrap (b2351.f0-(1:Int)))) t2357 e2358))] <| .out [(0,0),(9,10),(8,11)] [] [])
 (fun c2354 =>.out [(0,0),(7,10),(8,11)] [] []))
 (.pr fun x2359 =>.st .normal (fun x2360=>⟨[(0,.ptr 0 0 0),(5,.ptr 11 0 0),(21,.im (.row (a1.f1.map Z20))),(22,iV .i64 (a1.f1.length:Int)),(23,iV .i64 x2346)],[(0,some (.box 86 [.own 10,iV .u64 x2360])),(10,some (.row 1 5 (x2359.map (Z2 .u8)))),(11,some (.box 210 (aSpan b2351)))],2⟩) fun x2360 =>.bd fun t2363 e2364 =>.rg [(5,hC [(0,0),(10,1)] [(0,0),(2,12)] [] [12] Tryz.call33 (Zb.ok x2359 x2360 (u64.wrap (i64.wrap (b2351.f1-(1:Int)))) t2363 e2364))] <| .rg [] <| .back [(0,0),(12,7)] [] [] rfl))
 (fun c2347 =>.out [(0,0),(7,13)] [] []))
 (.pr fun x2365 =>.st (.exit 0) (fun x2366=>⟨[],[(0,some (.box 86 [.own 13,iV .u64 x2366])),(13,some (.row 1 5 (x2365.map (Z2 .u8))))],2⟩) fun x2366 =>.ret [(0,0),(13,2)] [] [] ⟨[],[(0,some (.box 86 [.own 2,iV .u64 x2366])),(2,some (.row 1 5 (x2365.map (Z2 .u8))))],2⟩)))
end Go.Proofs.YtinhldbfifpakaaGreat.PvGL1
