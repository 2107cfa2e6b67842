import Derived.Test.YtpoihfcehejgfaaGreatProg
import Derived.Test.YtpoihfcehejgfaaGreatPxBlockMakes06
set_option linter.unusedVariables false
set_option linter.unnecessarySimpa false
set_option linter.unusedSimpArgs false
set_option maxRecDepth 10000
namespace Go.Proofs.YtpoihfcehejgfaaGreat.PvGS
open Go Go.Pv Tryz Go.IntKind
structure Z0v where
 f0:Int
 f1:Int
 deriving DecidableEq,Inhabited
abbrev Z0r (x:Z0v):List Im:=[iI .i64 x.f0,iI .u64 x.f1]
abbrev aBucket (x:Z0v):List AVal:=[iV .i64 x.f0,iV .u64 x.f1]
structure RBucket (x:Z0v):Prop where
 r0:I64 x.f0
 r1:U64 x.f1
structure Z20 where
 f0:Int
 f1:Int
 f2:Int
 f3:Int
 f4:Int
 f5:Int
 f6:List Z0v
 f7:List Z0v
 deriving DecidableEq,Inhabited
abbrev eHist (x:Z20):List Im:=[iI .i64 x.f0,iI .i64 x.f1,iI .i64 x.f2,iI .u64 x.f3,iI .u64 x.f4,iI .i64 x.f5,.row (x.f6.map Z0r),.row (x.f7.map Z0r)]
abbrev aHist (x:Z20):List AVal:=[iV .i64 x.f0,iV .i64 x.f1,iV .i64 x.f2,iV .u64 x.f3,iV .u64 x.f4,iV .i64 x.f5,.im (.row (x.f6.map Z0r)),.im (.row (x.f7.map Z0r))]
structure RHist (x:Z20):Prop where
 r0:I64 x.f0
 r1:I64 x.f1
 r2:I64 x.f2
 r3:U64 x.f3
 r4:U64 x.f4
 r5:I64 x.f5
 r6:x.f6.length≤1048576∧∀ y∈x.f6,RBucket y
 r7:x.f7.length≤1048576∧∀ y∈x.f7,RBucket y
structure Zi where
 f0:Int
 f1:Z20
 deriving DecidableEq,Inhabited
abbrev Ze (x:Zi):List Im:=[iI .i64 x.f0,iI .i64 x.f1.f0,iI .i64 x.f1.f1,iI .i64 x.f1.f2,iI .u64 x.f1.f3,iI .u64 x.f1.f4,iI .i64 x.f1.f5,.row (x.f1.f6.map Z0r),.row (x.f1.f7.map Z0r)]
abbrev aSample (x:Zi):List AVal:=[iV .i64 x.f0,iV .i64 x.f1.f0,iV .i64 x.f1.f1,iV .i64 x.f1.f2,iV .u64 x.f1.f3,iV .u64 x.f1.f4,iV .i64 x.f1.f5,.im (.row (x.f1.f6.map Z0r)),.im (.row (x.f1.f7.map Z0r))]
structure RSample (x:Zi):Prop where
 r0:I64 x.f0
 r1:RHist x.f1
structure Z2 where
 f0:ByteArray
 f1:List Zi
 deriving DecidableEq,Inhabited
abbrev Z0 (x:Z2):List Im:=[sI x.f0,.row (x.f1.map Ze)]
abbrev Z2k (x:Z2):List AVal:=[sV x.f0,.im (.row (x.f1.map Ze))]
structure Z3b (x:Z2):Prop where
 r0:x.f0.size≤1048576
 r1:x.f1.length≤1048576∧∀ y∈x.f1,RSample y
structure Z4 where
 f0:Int
 f1:Int
 deriving DecidableEq,Inhabited
abbrev Z1 (x:Z4):List Im:=[iI .i64 x.f0,iI .i64 x.f1]
abbrev Z43 (x:Z4):List AVal:=[iV .i64 x.f0,iV .i64 x.f1]
structure Z68 (x:Z4):Prop where
 r0:I64 x.f0
 r1:I64 x.f1
structure Z1c where
 f0:ByteArray
 f1:ByteArray
 deriving DecidableEq,Inhabited
abbrev Z2i (x:Z1c):List Im:=[sI x.f0,sI x.f1]
abbrev aLabel (x:Z1c):List AVal:=[sV x.f0,sV x.f1]
structure RLabel (x:Z1c):Prop where
 r0:x.f0.size≤1048576
 r1:x.f1.size≤1048576
structure Z2m where
 f0:Int
 f1:Int
 f2:Int
 deriving DecidableEq,Inhabited
abbrev Zb1 (x:Z2m):List AVal:=[iV .i64 x.f0,iV .i64 x.f1,iV .i64 x.f2]
structure Rblock_Meta (x:Z2m):Prop where
 r0:I64 x.f0
 r1:I64 x.f1
 r2:I64 x.f2
structure Z5 where
 f0:Z2m
 f1:List Z2
 deriving DecidableEq,Inhabited
abbrev Z3 (x:Z5):List Im:=[iI .i64 x.f0.f0,iI .i64 x.f0.f1,iI .i64 x.f0.f2,.row (x.f1.map Z0)]
abbrev ablock_Block (x:Z5):List AVal:=[iV .i64 x.f0.f0,iV .i64 x.f0.f1,iV .i64 x.f0.f2,.im (.row (x.f1.map Z0))]
structure Rblock_Block (x:Z5):Prop where
 r0:Rblock_Meta x.f0
 r1:x.f1.length≤1048576∧∀ y∈x.f1,Z3b y
structure Z1y where
 f0:Int
 f1:Int
 f2:Int
 f3:List Z2
 deriving DecidableEq,Inhabited
abbrev Z54 (x:Z1y):List AVal:=[iV .i64 x.f0,iV .i64 x.f1,iV .i64 x.f2,.im (.row (x.f3.map Z0))]
structure Rr16_Block (x:Z1y):Prop where
 r0:I64 x.f0
 r1:I64 x.f1
 r2:I64 x.f2
 r3:x.f3.length≤1048576∧∀ y∈x.f3,Z3b y
structure Z0z where
 f0:List Z4
 deriving DecidableEq,Inhabited
abbrev Z14 (x:Z0z):List Im:=[.row (x.f0.map Z1)]
structure Rtomb_Set (x:Z0z):Prop where
 r0:x.f0.length≤1048576∧∀ y∈x.f0,Z68 y
theorem hmx:Tryz.prog.follows .mixedOrders=true:=by kernel_rfl
abbrev FN (f:Nat) (A:List AVal) (O:List (Nat×Option MObj)) (k:Nat) {ρ:Type} (y:Option ρ) (x:ρ→AVal) (o:ρ→List (Nat×Option MObj)):Prop:=∀ r,y=some r→Pv.Fn Tryz.prog f A O k (fun a b=>a=x r∧b=o r)
theorem FT {f:Nat} {fn:Func} {c:Code} {A:List AVal} {O:List (Nat×Option MObj)} {k:Nat} {ρ:Type} {y:Option ρ} {x:ρ→AVal} {o:ρ→List (Nat×Option MObj)} (keys:List Nat) (hf:Tryz.prog.funcs[f]? = some fn) (t:HT (fun q:Empty=>(nomatch q:Option ρ)) y) (hb:fn.body=some c:=by rfl) (hn:Nat.ble A.length fn.ntmps=true:=by rfl) (hk:t.chk ⟨Tryz.prog,fn.ntmps,fn,k,keys⟩ 0 (fun r=>.ret (x r) (o r)) (fun q=>nomatch q) c [] ⟨Z4a A 0,O,k⟩=t.sk ⟨Tryz.prog,fn.ntmps,fn,k,keys⟩ 0 (fun r=>.ret (x r) (o r)) (fun q=>nomatch q):=by kernel_rfl):FN f A O k y x o:=fun r H=>HT.fn H x o keys hf hb hn hmx t hk
abbrev qi:Int→AVal:=iV .i64
abbrev qu:Int→AVal:=iV .u64
section
variable {P:Program} {g:Nat} {A:List AVal} {O:List (Nat×Option MObj)} {f:Nat} {r:AVal} {o:List (Nat×Option MObj)} (a b n:Nat) (e:Enters P g) (z:Pv.Fn P g A O f (fun x y=>x=r∧y=o))
abbrev qh:HI:=hC [] [] [] [] e z
abbrev jA:HI:=hC [(0,0)] [(0,0)] [] [] e z
abbrev h1:HI:=hC [] [(0,n)] [] [n] e z
abbrev h2:HI:=hC [(a,0),(b,1)] [(0,a),(2,n)] [] [n] e z
abbrev h3:HI:=hC [] [] [n] [] e z
end
abbrev qe:=Z41 .i64
abbrev qv:=Z41 .u64
abbrev qb:=Z41 .u8
abbrev qx (a b:Int):Int:=((BitVec.toNat (BitVec.ofInt 64 a ^^^ BitVec.ofInt 64 b):Nat):Int)
abbrev qf (n:Nat):Im:=.sc (.func (.func n) #[] #[])
abbrev RW {α:Type} (w t:Nat) (e:α→List Im) (k:Nat) (x:List α):Nat×Option MObj:=(k,some (.row w t (x.map e)))
abbrev BW {α:Type} (t:Nat) (e:α→List AVal) (k:Nat) (x:α):Nat×Option MObj:=(k,some (.box t (e x)))
abbrev BX (t k:Nat) (x:List AVal):Nat×Option MObj:=(k,some (.box t x))
abbrev im {α:Type} (x:List α) (e:α→List Im):AVal:=.im (.row (x.map e))
abbrev clp (n a:Int):Int:=if(if n<a then n else a)>0 then(if n<a then n else a) else 0
abbrev mi (a b:Int):Int:=i64.wrap (Int.fdiv (u64.wrap (i64.wrap (a+b))) 2)
abbrev F0 (f:Nat) (A:List AVal) {ρ:Type} (y:Option ρ) (x:ρ→AVal):Prop:=FN f A [] 0 y x (fun _=>[])
abbrev _root_.Go.Pv.HT.lq {ρ X:Type} {g:X→Option ρ} {Y O:Type} {f:O→Option ρ} (lp:Lp Y O) (x0:Y) (inv:CI) (b:∀ g',Bd g' (lp.F g')) (a:Arm g f):HT g (lp.l x0>>=f):=.loop lp x0 inv [] [] b a
abbrev qs:=Pv.encStr
abbrev ln {α:Type} (x:List α):Int:=(x.length:Int)
abbrev _root_.Go.Pv.HT.ru {ρ X:Type} {g:X→Option ρ} {o:ρ} (i:CI) (t:Z6):HT g (some o):=.ret i [] [] t
abbrev _root_.Go.Pv.HT.rv {ρ X:Type} {g:X→Option ρ} {o:ρ} (t:Z6):HT g (some o):=.ret [] [] [] t
def Z1i.l1 (a0:List Z2) (b31:Z2) (x26 x41 x42:Int):Option Int:=if decide (x42<(b31.f1.length:Int)) then((at? b31.f1 x42)>>=fun b47=>Z1i.l1 a0 b31 x26 (i64.wrap (x41+(i64.wrap ((i64.wrap ((b47.f1.f6.length:Int)+(b47.f1.f7.length:Int)))+1)))) (i64.wrap (x42+1))) else(some x41)
partial_fixpoint
def Z1i.l0 (a0:List Z2) (x25 x26:Int):Option Int:=if decide (x26<(a0.length:Int)) then((at? a0 x26)>>=fun b31=>(Z1i.l1 a0 b31 x26 (i64.wrap (x25+(i64.wrap ((b31.f0.size:Int)+1)))) 0)>>=fun x50=>Z1i.l0 a0 x50 (i64.wrap (x26+1))) else(some x25)
partial_fixpoint
def Z1i.f (a0:List Z2):Option Bool:=(Z1i.l0 a0 0 0)>>=fun x51=>some (decide (x51≤1200))
theorem Z1i.ok (a0:List Z2):F0 6 [.im (.row (a0.map Z0))] (Z1i.f a0) (fun r=>bV r):=FT [] func6 (.r0<|.r0<|.rg [(1,hG Z0 a0)]<|.bl<|.lq (.c2 (Z1i.l0.partial_correctness a0)) (0,0) [] (fun _=>.pr fun x25=>.one (fun x26=>⟨[(3,qi x25),(8,im a0 Z0),(9,qi (ln a0)),(10,qi x26)],[],0⟩) fun x26=>.r0<|.cd (fun c27=>.bl<|.el fun b31 p32 q33=>.rg [(0,hA Z0 p32 q33),(2,⟨.k 3,.n⟩)]<|.r0<|.rg [(2,hG Ze b31.f1)]<|.bl<|.lq (.c2 (Z1i.l1.partial_correctness a0 b31 x26)) (i64.wrap (x25+(i64.wrap ((b31.f0.size:Int)+1))),0) [] (fun _=>.pr fun x41=>.one (fun x42=>⟨[(3,qi x41),(8,im a0 Z0),(9,qi (ln a0)),(10,qi x26),(21,im b31.f1 Ze),(22,qi (ln b31.f1)),(23,qi x42)],[],0⟩) fun x42=>.r0<|.cd (fun c43=>.bl<|.el fun b47 p48 q49=>.rg [(0,hA Ze p48 q49),(2,⟨.k 5,.n⟩)]<|.rg [(4,hG Z0r b47.f1.f6),(8,hG Z0r b47.f1.f7)]<|.r0<|.bk [] rfl)
 (fun c43=>.o []))
 (.st (.exit 2) (fun x50=>⟨[(3,qi x50),(8,im a0 Z0),(9,qi (ln a0)),(10,qi x26)],[],0⟩) fun x50=>.r0<|.bk [] rfl))
 (fun c27=>.o []))
 (.st (.exit 0) (fun x51=>⟨[(3,qi x51)],[],0⟩) fun x51=>.r0<|.rv ⟨[(2,bV (decide (x51≤1200)))],[],0⟩))
def Z2e.l0 (a0:ByteArray) (aa:Int):Option (Bool ⊕ Unit):=if decide (aa<(a0.size:Int)) then((chk (0≤aa∧aa<(a0.size:Int)))>>=fun _=>((if(bt a0 aa)==95 then(some true) else(if decide ((bt a0 aa)≥65) then(if decide ((bt a0 aa)≤90) then(some true) else(if decide ((bt a0 aa)≥97) then(if decide ((bt a0 aa)≤122) then(some true) else(if decide (aa>0) then(if decide ((bt a0 aa)≥48) then(some (decide ((bt a0 aa)≤57))) else(some false)) else(some false))) else(if decide (aa>0) then(if decide ((bt a0 aa)≥48) then(some (decide ((bt a0 aa)≤57))) else(some false)) else(some false)))) else(if decide ((bt a0 aa)≥97) then(if decide ((bt a0 aa)≤122) then(some true) else(if decide (aa>0) then(if decide ((bt a0 aa)≥48) then(some (decide ((bt a0 aa)≤57))) else(some false)) else(some false))) else(if decide (aa>0) then(if decide ((bt a0 aa)≥48) then(some (decide ((bt a0 aa)≤57))) else(some false)) else(some false))))):Option Bool)>>=fun ab=>if !ab then(some (.inl false)) else(Z2e.l0 a0 (i64.wrap (aa+1)))) else(some (.inr ()))
partial_fixpoint
def Z2e.f (a0:ByteArray):Option Bool:=((if decide ((a0.size:Int)<1) then(some true) else(some (decide ((a0.size:Int)>64)))):Option Bool)>>=fun aa=>if aa=true then(some false) else((Z2e.l0 a0 0)>>=fun | .inl rr=>(some rr) | .inr _=>(some true))
theorem Z2e.ok (a0:ByteArray):F0 125 [sV a0] (Z2e.f a0) (fun r=>bV r):=FT [] func125 (.r0<|.join (.sp (fun aa=>.rg [(3,hB aa)]<|.o [])
 (fun aa=>.rg [(3,hB aa)]<|.o []))
 (.st .normal (fun ab=>⟨[(0,sV a0),(13,bV ab)],[],0⟩) fun ab=>.cd (fun ac=>.r0<|.rv ⟨[(2,bV false)],[],0⟩)
 (fun ac=>.r0<|.bl<|.lq (.one (Z2e.l0.partial_correctness a0)) 0 [] (fun _=>.one (fun ae=>⟨[(0,sV a0),(3,qi ae)],[],0⟩) fun ae=>.r0<|.cd (fun af=>.bl<|.ck fun ah=>.rg [(2,hN (p2 ah))]<|.join (.sp (fun ai=>.rg [(2,hB ai)]<|.o [])
 (fun ai=>.sp (fun aj=>.sp (fun ak=>.rg [(2,hB ai),(5,hB aj),(10,hB ak)]<|.o [])
 (fun ak=>.sp (fun al=>.sp (fun am=>.rg [(2,hB ai),(5,hB aj),(10,hB ak),(13,hB al),(18,hB am)]<|.o [])
 (fun am=>.sp (fun an=>.sp (fun ao=>.rg [(2,hB ai),(5,hB aj),(10,hB ak),(13,hB al),(18,hB am),(21,hB an),(25,hB ao)]<|.o [])
 (fun ao=>.rg [(2,hB ai),(5,hB aj),(10,hB ak),(13,hB al),(18,hB am),(21,hB an),(25,hB ao)]<|.o []))
 (fun an=>.rg [(2,hB ai),(5,hB aj),(10,hB ak),(13,hB al),(18,hB am),(21,hB an)]<|.o [])))
 (fun al=>.sp (fun aq=>.sp (fun ar=>.rg [(2,hB ai),(5,hB aj),(10,hB ak),(13,hB al),(21,hB aq),(25,hB ar)]<|.o [])
 (fun ar=>.rg [(2,hB ai),(5,hB aj),(10,hB ak),(13,hB al),(21,hB aq),(25,hB ar)]<|.o []))
 (fun aq=>.rg [(2,hB ai),(5,hB aj),(10,hB ak),(13,hB al),(21,hB aq)]<|.o []))))
 (fun aj=>.sp (fun au=>.sp (fun av=>.rg [(2,hB ai),(5,hB aj),(13,hB au),(18,hB av)]<|.o [])
 (fun av=>.sp (fun aw=>.sp (fun ax=>.rg [(2,hB ai),(5,hB aj),(13,hB au),(18,hB av),(21,hB aw),(25,hB ax)]<|.o [])
 (fun ax=>.rg [(2,hB ai),(5,hB aj),(13,hB au),(18,hB av),(21,hB aw),(25,hB ax)]<|.o []))
 (fun aw=>.rg [(2,hB ai),(5,hB aj),(13,hB au),(18,hB av),(21,hB aw)]<|.o [])))
 (fun au=>.sp (fun ay=>.sp (fun az=>.rg [(2,hB ai),(5,hB aj),(13,hB au),(21,hB ay),(25,hB az)]<|.o [])
 (fun az=>.rg [(2,hB ai),(5,hB aj),(13,hB au),(21,hB ay),(25,hB az)]<|.o []))
 (fun ay=>.rg [(2,hB ai),(5,hB aj),(13,hB au),(21,hB ay)]<|.o [])))))
 (.st .normal (fun a8=>⟨[(0,sV a0),(3,qi ae),(5,bV a8)],[],0⟩) fun a8=>.r0<|.cd (fun a9=>.r0<|.rv ⟨[(2,bV false)],[],0⟩)
 (fun a9=>.r0<|.bk [] rfl)))
 (fun af=>.o []))
 (.sm (.rt (fun rr=>bV rr) (fun rr=>[]))
 (.st (.exit 0) (fun _=>⟨[],[],0⟩) fun _=>.r0<|.rv ⟨[(2,bV true)],[],0⟩)))))
def Z2f.l0 (a0:List Z1c) (aa:Int):Option (Int ⊕ Unit):=if decide (aa<(a0.length:Int)) then((((at? a0 aa)>>=fun ab=>(Z2e.f ab.f0)>>=fun ac=>if !ac then(some true) else(if decide ((ab.f1.size:Int)<1) then(some true) else(some (decide ((ab.f1.size:Int)>64))))):Option Bool)>>=fun ae=>if ae=true then(some (.inl 26)) else(((if decide (aa>0) then((at? a0 (i64.wrap (aa-1)))>>=fun af=>(at? a0 aa)>>=fun ah=>some (!(Op.bytesLess af.f0.toList ah.f0.toList))) else(some false)):Option Bool)>>=fun ai=>if ai=true then(some (.inl 26)) else(Z2f.l0 a0 (i64.wrap (aa+1))))) else(some (.inr ()))
partial_fixpoint
def Z2f.f (a0:List Z1c):Option Int:=if decide ((a0.length:Int)>16) then(some 9) else((Z2f.l0 a0 0)>>=fun | .inl rr=>(some rr) | .inr _=>(some 0))
theorem Z2f.ok (a0:List Z1c):F0 73 [.im (.row (a0.map Z2i))] (Z2f.f a0) (fun r=>qi r):=FT [] func73 (.r0<|.rg [(1,hG Z2i a0)]<|.cd (fun aa=>.r0<|.rv ⟨[(2,qi 9)],[],0⟩)
 (fun aa=>.r0<|.bl<|.lq (.one (Z2f.l0.partial_correctness a0)) 0 [] (fun _=>.one (fun ab=>⟨[(0,im a0 Z2i),(3,qi ab)],[],0⟩) fun ab=>.rg [(2,hG Z2i a0)]<|.cd (fun ac=>.bl<|.join (.el fun ae af ah=>.bd fun ai aj=>.sp (fun ak=>.rg [(2,hA Z2i af ah),(5,qh call125 (Z2e.ok ae.f0 ai aj)),(7,hB ak)]<|.o [])
 (fun ak=>.sp (fun al=>.rg [(2,hA Z2i af ah),(5,qh call125 (Z2e.ok ae.f0 ai aj)),(7,hB ak),(10,hA Z2i af ah),(16,hB al)]<|.o [])
 (fun al=>.rg [(2,hA Z2i af ah),(5,qh call125 (Z2e.ok ae.f0 ai aj)),(7,hB ak),(10,hA Z2i af ah),(16,hB al),(19,hA Z2i af ah)]<|.o [])))
 (.st .normal (fun am=>⟨[(0,im a0 Z2i),(3,qi ab),(37,bV am)],[],0⟩) fun am=>.cd (fun an=>.r0<|.rv ⟨[(2,qi 26)],[],0⟩)
 (fun an=>.join (.sp (fun ao=>.el fun aq ar au=>.el fun av aw ax=>.rg [(2,hB ao),(6,hA Z2i ar au),(11,hA Z2i aw ax)]<|.o [])
 (fun ao=>.rg [(2,hB ao)]<|.o []))
 (.st .normal (fun ay=>⟨[(0,im a0 Z2i),(3,qi ab),(54,bV ay)],[],0⟩) fun ay=>.cd (fun az=>.r0<|.rv ⟨[(2,qi 26)],[],0⟩)
 (fun az=>.r0<|.bk [] rfl)))))
 (fun ac=>.o []))
 (.sm (.rt (fun rr=>qi rr) (fun rr=>[]))
 (.st (.exit 0) (fun _=>⟨[],[],0⟩) fun _=>.r0<|.rv ⟨[(2,qi 0)],[],0⟩))))
def Z1f.l0 (x72:ByteArray) (x73:List ByteArray):Option (Bool ⊕ (List ByteArray)):=if decide ((x72.size:Int)>0) then((chk (0≤(0:Int)∧(0:Int)<(x72.size:Int)))>>=fun _=>if decide ((i64.wrap ((i64.wrap (bt x72 0))+1))>(x72.size:Int)) then(some (.inl false)) else((chk (0≤(1:Int)∧(1:Int)≤(i64.wrap ((i64.wrap (bt x72 0))+1))∧(i64.wrap ((i64.wrap (bt x72 0))+1))≤(x72.size:Int)))>>=fun _=>(chk ((x73.length+[x72.extract (1:Int).toNat ((i64.wrap ((i64.wrap (bt x72 0))+1))).toNat].length)*16≤140737488355328))>>=fun _=>(chk (0≤(i64.wrap ((i64.wrap (bt x72 0))+1))∧(i64.wrap ((i64.wrap (bt x72 0))+1))≤(x72.size:Int)∧(x72.size:Int)≤(x72.size:Int)))>>=fun _=>Z1f.l0  (x72.extract ((i64.wrap ((i64.wrap (bt x72 0))+1))).toNat (x72.size:Int).toNat) (x73++[x72.extract (1:Int).toNat ((i64.wrap ((i64.wrap (bt x72 0))+1))).toNat]))) else(some (.inr x73))
partial_fixpoint
def Z1f.l1 (x84:List ByteArray) (aa:List Z1c) (ab:Int):Option (List Z1c):=if decide ((i64.wrap (ab+1))<(x84.length:Int)) then((at? x84 ab)>>=fun ac=>(at? x84 (i64.wrap (ab+1)))>>=fun ae=>(chk ((aa.length+[(⟨ac,ae⟩:Z1c)].length)*32≤140737488355328))>>=fun _=>Z1f.l1 x84 (aa++[(⟨ac,ae⟩:Z1c)]) (i64.wrap (ab+2))) else(some aa)
partial_fixpoint
def Z1f.f (a0:ByteArray):Option Bool:=(Z1f.l0  a0 [])>>=fun | .inl rr=>(some rr) | .inr x84=>(if(Int.tmod (x84.length:Int) (2:Int))==1 then(some false) else((Z1f.l1 x84 [] 0)>>=fun aa=>(Z2f.f aa)>>=fun ab=>some (ab==0)))
abbrev q0:=@RW _ 1 9 encStr
abbrev q1:=@RW _ 2 74 Z2i
theorem Z1f.ok (a0:ByteArray):F0 25 [sV a0] (Z1f.f a0) (fun r=>bV r):=FT [] func25 (.r0<|.r0<|.bl<|.loop (.c2 (Z1f.l0.partial_correctness )) (a0,[]) [] [] [2] (fun _=>.pr fun x72=>.one (fun x73=>⟨[(0,sV x72),(3,.own 2)],[q0 2 x73],0⟩) fun x73=>.r0<|.cd (fun c74=>.bl<|.ck fun c76=>.rg [(1,hN (p2 c76))]<|.r0<|.cd (fun c77=>.r0<|.rv ⟨[(2,bV false)],[],0⟩)
 (fun c77=>.ck fun c80=>.ck fun c81=>.rg [(4,hN (p3 c80)),(5,hQ 3 encStr ([x72.extract (Int.toNat (1:Int)) (Int.toNat ((i64.wrap ((i64.wrap (bt x72 0))+1))))]:List ByteArray)),(6,hP 4 encStr 1 c81)]<|.ck fun c83=>.rg [(3,hN (p3 c83))]<|.bk [(4,2)] rfl))
 (fun c74=>.o [(2,5)]))
 (.sm (.rt (fun rr=>bV rr) (fun rr=>[]))
 (.st (.exit 0) (fun x84=>⟨[(3,.own 5)],[q0 5 x84],0⟩) fun x84=>.rg [(1,hG encStr x84),(2,hJ 2)]<|.cd (fun c85=>.r0<|.rv ⟨[(2,bV false)],[],0⟩)
 (fun c85=>.r0<|.r0<|.bl<|.loop (.c2 (Z1f.l1.partial_correctness x84)) ([],0) [(5,8)] [] [9] (fun _=>.pr fun aa=>.one (fun ab=>⟨[(3,.own 8),(5,.own 9),(6,qi ab)],[q0 8 x84,q1 9 aa],0⟩) fun ab=>.rg [(3,hG encStr x84)]<|.cd (fun ac=>.bl<|.el fun ae af ah=>.el fun ai aj ak=>.ck fun al=>.rg [(3,hX encStr af ah),(4,hL encStr ah),(8,hX encStr aj ak),(9,hL encStr ak),(11,hQ 10 Z2i ([(⟨ae,ai⟩:Z1c)]:List Z1c)),(12,hP 11 Z2i 2 al)]<|.r0<|.bk [(8,8),(11,9)] rfl)
 (fun ac=>.o [(9,12)]))
 (.st (.exit 2) (fun am=>⟨[(5,.own 12)],[q1 12 am],0⟩) fun am=>.bd fun an ao=>.rg [(1,h3 12 call73 (Z2f.ok am an ao))]<|.rv ⟨[(2,bV (an==0))],[],0⟩)))))
def Z3j.f (a0:Int):Option Bool:=((if decide (a0≥0) then(some (decide (a0≤1099511627776))) else(some false)):Option Bool)>>=fun aa=>some aa
theorem Z3j.ok (a0:Int):F0 74 [qi a0] (Z3j.f a0) (fun r=>bV r):=FT [] func74 (.r0<|.join (.sp (fun aa=>.rg [(2,hB aa)]<|.o [])
 (fun aa=>.rg [(2,hB aa)]<|.o []))
 (.st .normal (fun ab=>⟨[(2,bV ab)],[],0⟩) fun ab=>.rv ⟨[(2,bV ab)],[],0⟩))
def Z27.f (a0:Int):Option Bool:=((if decide (a0≥(-4)) then(some (decide (a0≤8))) else(some false)):Option Bool)>>=fun aa=>some aa
theorem Z27.ok (a0:Int):F0 126 [qi a0] (Z27.f a0) (fun r=>bV r):=FT [] func126 (.r0<|.join (.sp (fun aa=>.rg [(2,hB aa)]<|.o [])
 (fun aa=>.rg [(2,hB aa)]<|.o []))
 (.st .normal (fun ab=>⟨[(2,bV ab)],[],0⟩) fun ab=>.rv ⟨[(2,bV ab)],[],0⟩))
def Z2r.l0 (aa ab:Int):Option Int:=if decide (ab<8) then(Z2r.l0  (i64.wrap (aa*2)) (i64.wrap (ab+1))) else(some aa)
partial_fixpoint
def Z2r.f (a0:Int):Option Int:=(Z2r.l0  1 a0)>>=fun aa=>some aa
theorem Z2r.ok (a0:Int):F0 188 [qi a0] (Z2r.f a0) (fun r=>qi r):=FT [] func188 (.r0<|.r0<|.r0<|.bl<|.lq (.c2 (Z2r.l0.partial_correctness )) (1,a0) [] (fun _=>.pr fun aa=>.one (fun ab=>⟨[(3,qi aa),(4,qi ab)],[],0⟩) fun ab=>.r0<|.cd (fun ac=>.bl<|.r0<|.r0<|.bk [] rfl)
 (fun ac=>.o []))
 (.st (.exit 0) (fun ae=>⟨[(3,qi ae)],[],0⟩) fun ae=>.r0<|.rv ⟨[(2,qi ae)],[],0⟩))
def Z2w.f (a0 a1:Int):Option Int:=(Z27.f a0)>>=fun aa=>if !aa then(some 0) else((Z2r.f a0)>>=fun ab=>some (i64.wrap (a1*ab)))
theorem Z2w.ok (a0 a1:Int):F0 128 [qi a0,qi a1] (Z2w.f a0 a1) (fun r=>qi r):=FT [] func128 (.r0<|.bd fun aa ab=>.rg [(1,qh call126 (Z27.ok a0 aa ab))]<|.cd (fun ac=>.r0<|.rv ⟨[(4,qi 0)],[],0⟩)
 (fun ac=>.bd fun ae af=>.rg [(2,qh call188 (Z2r.ok a0 ae af))]<|.rv ⟨[(4,qi (i64.wrap (a1*ae)))],[],0⟩))
def Z6z.f (a0 a1:Int):Option Bool:=(((Z27.f a0)>>=fun aa=>if aa=true then(if decide (a1>(-262144)) then(if decide (a1≤262144) then((Z2w.f a0 a1)>>=fun ab=>if decide (ab>(-262144)) then((Z2w.f a0 a1)>>=fun ac=>some (decide (ac≤262144))) else(some false)) else(some false)) else(some false)) else(some false)):Option Bool)>>=fun ae=>some ae
theorem Z6z.ok (a0 a1:Int):F0 127 [qi a0,qi a1] (Z6z.f a0 a1) (fun r=>bV r):=FT [] func127 (.r0<|.join (.bd fun aa ab=>.sp (fun ac=>.sp (fun ae=>.sp (fun af=>.bd fun ah ai=>.sp (fun aj=>.bd fun ak al=>.rg [(1,qh call126 (Z27.ok a0 aa ab)),(2,hB ac),(6,hB ae),(10,hB af),(13,qh call128 (Z2w.ok a0 a1 ah ai)),(16,hB aj),(19,qh call128 (Z2w.ok a0 a1 ak al))]<|.o [])
 (fun aj=>.rg [(1,qh call126 (Z27.ok a0 aa ab)),(2,hB ac),(6,hB ae),(10,hB af),(13,qh call128 (Z2w.ok a0 a1 ah ai)),(16,hB aj)]<|.o []))
 (fun af=>.rg [(1,qh call126 (Z27.ok a0 aa ab)),(2,hB ac),(6,hB ae),(10,hB af)]<|.o []))
 (fun ae=>.rg [(1,qh call126 (Z27.ok a0 aa ab)),(2,hB ac),(6,hB ae)]<|.o []))
 (fun ac=>.rg [(1,qh call126 (Z27.ok a0 aa ab)),(2,hB ac)]<|.o []))
 (.st .normal (fun am=>⟨[(4,bV am)],[],0⟩) fun am=>.rv ⟨[(4,bV am)],[],0⟩))
def Z39.l0 (a0:List Int) (aa ab:Int):Option ((Int×Int) ⊕ Int):=if decide (ab<(a0.length:Int)) then((at? a0 ab)>>=fun ac=>if decide (ac>(u64.wrap ((18446744073709551615:Int)-aa))) then(some (.inl (0,5))) else(Z39.l0 a0 (u64.wrap (aa+ac)) (i64.wrap (ab+1)))) else(some (.inr aa))
partial_fixpoint
def Z39.f (a0:List Int):Option (Int×Int):=(Z39.l0 a0 0 0)>>=fun | .inl rr=>(some rr) | .inr aa=>(some (aa,0))
theorem Z39.ok (a0:List Int):F0 129 [.im (.row (a0.map qv))] (Z39.f a0) (fun r=>.tup [qu r.1,qi r.2]):=FT [] func129 (.r0<|.r0<|.r0<|.bl<|.lq (.c2 (Z39.l0.partial_correctness a0)) (0,0) [] (fun _=>.pr fun aa=>.one (fun ab=>⟨[(0,im a0 qv),(4,qu aa),(5,qi ab)],[],0⟩) fun ab=>.rg [(2,hG qv a0)]<|.cd (fun ac=>.bl<|.el fun ae af ah=>.rg [(2,hA qv af ah)]<|.cd (fun ai=>.r0<|.rv ⟨[(2,qu 0),(3,qi 5)],[],0⟩)
 (fun ai=>.rg [(3,hA qv af ah)]<|.r0<|.bk [] rfl))
 (fun ac=>.o []))
 (.sm (.rt (fun rr=>.tup [qu rr.1,qi rr.2]) (fun rr=>[]))
 (.st (.exit 0) (fun aj=>⟨[(4,qu aj)],[],0⟩) fun aj=>.r0<|.rv ⟨[(2,qu aj),(3,qi 0)],[],0⟩)))
def Z0p.l1 (a0:Z20) (aa:Int) (ab:List Z0v) (ac:List Int) (ae:Int):Option (Int ⊕ (List Int)):=if decide (ae<(ab.length:Int)) then((at? ab ae)>>=fun af=>(Z6z.f a0.f1 af.f0)>>=fun ah=>if !ah then(some (.inl 4)) else(((if decide (ae>0) then((at? ab (i64.wrap (ae-1)))>>=fun ai=>some (decide (af.f0≤ai.f0))) else(some false)):Option Bool)>>=fun aj=>if aj=true then(some (.inl 32)) else(if af.f1==0 then(some (.inl 21)) else((Z2w.f a0.f1 (i64.wrap (af.f0-1)))>>=fun ak=>if decide (ak<a0.f2) then(some (.inl 31)) else((chk ((ac.length+[af.f1].length)*8≤140737488355328))>>=fun _=>Z0p.l1 a0 aa ab (ac++[af.f1]) (i64.wrap (ae+1))))))) else(some (.inr ac))
partial_fixpoint
def Z0p.l0 (a0:Z20) (aa:List Int) (ab:Int):Option (Int ⊕ (List Int)):=if decide (ab<2) then(((if ab==1 then(some a0.f7) else(some a0.f6)):Option (List Z0v))>>=fun ac=>if decide ((ac.length:Int)>512) then(some (.inl 9)) else((Z0p.l1 a0 ab ac aa 0)>>=fun | .inl rr=>(some (.inl rr)) | .inr ae=>(Z0p.l0 a0 ae (i64.wrap (ab+1))))) else(some (.inr aa))
partial_fixpoint
def Z0p.f (a0:Z20):Option Int:=((if a0.f0 != 0 then(some (a0.f0 != 1)) else(some false)):Option Bool)>>=fun aa=>if aa=true then(some 25) else((Z27.f a0.f1)>>=fun ab=>if !ab then(some 20) else(((if a0.f2 != (-524288) then(if decide (a0.f2≤(-262144)) then(some true) else(some (decide (a0.f2>262144)))) else(some false)):Option Bool)>>=fun ac=>if ac=true then(some 31) else((Z0p.l0 a0 [a0.f3] 0)>>=fun | .inl rr=>(some rr) | .inr ae=>((Z39.f ae)>>=fun af=>if af.2 != 0 then(some 5) else(if af.1 != a0.f4 then(some 21) else(some 0))))))
abbrev w0_ (k:Nat) (x:Z20):Nat×Option MObj:=BW 50 aHist k x
abbrev q2:=@RW _ 1 47 qv
theorem Z0p.ok (a0:Z20):F0 75 [.agg (aHist a0)] (Z0p.f a0) (fun r=>qi r):=FT [] func75 (.rg [(0,⟨.k 0,.n⟩)]<|.join (.sp (fun aa=>.rg [(3,hB aa)]<|.o [(0,1)])
 (fun aa=>.rg [(3,hB aa)]<|.o [(0,1)]))
 (.st .normal (fun ab=>⟨[(1,.ptr 1 0 0),(16,bV ab)],[w0_ 1 a0],0⟩) fun ab=>.cd (fun ac=>.r0<|.rv ⟨[(2,qi 25)],[],0⟩)
 (fun ac=>.bd fun ae af=>.rg [(2,qh call126 (Z27.ok a0.f1 ae af))]<|.cd (fun ah=>.r0<|.rv ⟨[(2,qi 20)],[],0⟩)
 (fun ah=>.join (.sp (fun ai=>.sp (fun aj=>.rg [(3,hB ai),(7,hB aj)]<|.o [(1,2)])
 (fun aj=>.rg [(3,hB ai),(7,hB aj)]<|.o [(1,2)]))
 (fun ai=>.rg [(3,hB ai)]<|.o [(1,2)]))
 (.st .normal (fun ak=>⟨[(1,.ptr 2 0 0),(33,bV ak)],[w0_ 2 a0],0⟩) fun ak=>.cd (fun al=>.r0<|.rv ⟨[(2,qi 31)],[],0⟩)
 (fun al=>.rg [(2,hQ 3 qv ([a0.f3]:List Int))]<|.r0<|.bl<|.lq (.c2 (Z0p.l0.partial_correctness a0)) ([a0.f3],0) [(2,14),(3,15)] (fun _=>.pr fun am=>.one (fun an=>⟨[(1,.ptr 14 0 0),(3,.own 15),(4,qi an)],[w0_ 14 a0,q2 15 am],0⟩) fun an=>.r0<|.cd (fun ao=>.bl<|.r0<|.r0<|.join (.cd (fun aq=>.r0<|.o [(14,16),(15,17)])
 (fun aq=>.o [(14,16),(15,17)]))
 (.st .normal (fun ar=>⟨[(1,.ptr 16 0 0),(3,.own 17),(4,qi an),(5,im ar Z0r)],[w0_ 16 a0,q2 17 am],0⟩) fun ar=>.rg [(1,hG Z0r ar)]<|.cd (fun au=>.r0<|.rv ⟨[(2,qi 9)],[],0⟩)
 (fun au=>.r0<|.bl<|.lq (.c2 (Z0p.l1.partial_correctness a0 an ar)) (am,0) [(16,20),(17,21)] (fun _=>.pr fun av=>.one (fun aw=>⟨[(1,.ptr 20 0 0),(3,.own 21),(4,qi an),(5,im ar Z0r),(6,qi aw)],[w0_ 20 a0,q2 21 av],0⟩) fun aw=>.rg [(2,hG Z0r ar)]<|.cd (fun ax=>.bl<|.el fun ay az a8=>.bd fun a9 ba=>.rg [(4,hA Z0r az a8),(7,qh call127 (Z6z.ok a0.f1 ay.f0 a9 ba))]<|.cd (fun bb=>.r0<|.rv ⟨[(2,qi 4)],[],0⟩)
 (fun bb=>.join (.sp (fun bc=>.el fun be bf bg=>.rg [(2,hB bc),(5,hA Z0r az a8),(11,hA Z0r bf bg)]<|.o [(20,22),(21,23)])
 (fun bc=>.rg [(2,hB bc)]<|.o [(20,22),(21,23)]))
 (.st .normal (fun bh=>⟨[(1,.ptr 22 0 0),(3,.own 23),(4,qi an),(5,im ar Z0r),(6,qi aw),(80,bV bh)],[w0_ 22 a0,q2 23 av],0⟩) fun bh=>.cd (fun bi=>.r0<|.rv ⟨[(2,qi 32)],[],0⟩)
 (fun bi=>.rg [(2,hA Z0r az a8)]<|.cd (fun bj=>.r0<|.rv ⟨[(2,qi 21)],[],0⟩)
 (fun bj=>.bd fun bn bo=>.rg [(4,hA Z0r az a8),(8,qh call128 (Z2w.ok a0.f1 (i64.wrap (ay.f0-1)) bn bo))]<|.cd (fun bp=>.r0<|.rv ⟨[(2,qi 31)],[],0⟩)
 (fun bp=>.ck fun bq=>.rg [(3,hA Z0r az a8),(6,hQ 24 qv ([ay.f1]:List Int)),(7,hP 25 qv 1 bq)]<|.r0<|.bk [(22,20),(25,21)] rfl))))))
 (fun ax=>.o [(20,26),(21,27)]))
 (.sm (.rt (fun rr=>qi rr) (fun rr=>[]))
 (.st (.exit 2) (fun br=>⟨[(1,.ptr 26 0 0),(3,.own 27),(4,qi an)],[w0_ 26 a0,q2 27 br],0⟩) fun br=>.r0<|.bk [(26,14),(27,15)] rfl)))))
 (fun ao=>.o [(14,28),(15,29)]))
 (.sm (.rt (fun rr=>qi rr) (fun rr=>[]))
 (.st (.exit 0) (fun bu=>⟨[(1,.ptr 28 0 0),(3,.own 29)],[w0_ 28 a0,q2 29 bu],0⟩) fun bu=>.bd fun bv bw=>.rg [(1,h3 29 call129 (Z39.ok bu bv bw))]<|.r0<|.cd (fun bx=>.r0<|.rv ⟨[(2,qi 5)],[],0⟩)
 (fun bx=>.r0<|.cd (fun bz=>.r0<|.rv ⟨[(2,qi 21)],[],0⟩)
 (fun bz=>.r0<|.rv ⟨[(2,qi 0)],[],0⟩))))))))))
def Z16.l0 (a0:List Zi) (aa:Int):Option (Bool ⊕ Unit):=if decide (aa<(a0.length:Int)) then((((at? a0 aa)>>=fun ab=>(Z3j.f ab.f0)>>=fun ac=>if !ac then(some true) else((Z0p.f ab.f1)>>=fun ae=>if ae != 0 then(some true) else(if decide (aa>0) then((at? a0 (i64.wrap (aa-1)))>>=fun af=>some (decide (ab.f0≤af.f0))) else(some false)))):Option Bool)>>=fun ah=>if ah=true then(some (.inl false)) else(Z16.l0 a0 (i64.wrap (aa+1)))) else(some (.inr ()))
partial_fixpoint
def Z16.f (a0:List Zi):Option Bool:=(Z16.l0 a0 0)>>=fun | .inl rr=>(some rr) | .inr _=>(some true)
theorem Z16.ok (a0:List Zi):F0 26 [.im (.row (a0.map Ze))] (Z16.f a0) (fun r=>bV r):=FT [] func26 (.r0<|.r0<|.bl<|.lq (.one (Z16.l0.partial_correctness a0)) 0 [] (fun _=>.one (fun aa=>⟨[(0,im a0 Ze),(3,qi aa)],[],0⟩) fun aa=>.rg [(2,hG Ze a0)]<|.cd (fun ab=>.bl<|.join (.el fun ac ae af=>.bd fun ah ai=>.sp (fun aj=>.rg [(2,hA Ze ae af),(5,qh call74 (Z3j.ok ac.f0 ah ai)),(7,hB aj)]<|.o [])
 (fun aj=>.bd fun ak al=>.sp (fun am=>.rg [(2,hA Ze ae af),(5,qh call74 (Z3j.ok ac.f0 ah ai)),(7,hB aj),(10,hA Ze ae af),(13,qh call75 (Z0p.ok ac.f1 ak al)),(16,hB am)]<|.o [])
 (fun am=>.sp (fun an=>.el fun ao aq ar=>.rg [(2,hA Ze ae af),(5,qh call74 (Z3j.ok ac.f0 ah ai)),(7,hB aj),(10,hA Ze ae af),(13,qh call75 (Z0p.ok ac.f1 ak al)),(16,hB am),(19,hB an),(22,hA Ze ae af),(28,hA Ze aq ar)]<|.o [])
 (fun an=>.rg [(2,hA Ze ae af),(5,qh call74 (Z3j.ok ac.f0 ah ai)),(7,hB aj),(10,hA Ze ae af),(13,qh call75 (Z0p.ok ac.f1 ak al)),(16,hB am),(19,hB an)]<|.o []))))
 (.st .normal (fun au=>⟨[(0,im a0 Ze),(3,qi aa),(43,bV au)],[],0⟩) fun au=>.cd (fun av=>.r0<|.rv ⟨[(2,bV false)],[],0⟩)
 (fun av=>.r0<|.bk [] rfl)))
 (fun ab=>.o []))
 (.sm (.rt (fun rr=>bV rr) (fun rr=>[]))
 (.st (.exit 0) (fun _=>⟨[],[],0⟩) fun _=>.r0<|.rv ⟨[(2,bV true)],[],0⟩)))
def Z2j.l0 (a0:List Z2) (aa:Int):Option (Bool ⊕ Unit):=if decide (aa<(a0.length:Int)) then((at? a0 aa)>>=fun ab=>(((Z1f.f ab.f0)>>=fun ac=>if !ac then(some true) else(if decide (aa>0) then((at? a0 (i64.wrap (aa-1)))>>=fun ae=>if !Op.bytesLess ae.f0.toList ab.f0.toList then(some true) else((Z16.f ab.f1)>>=fun af=>if !af then(some true) else(some ((ab.f1.length:Int)==0)))) else((Z16.f ab.f1)>>=fun ah=>if !ah then(some true) else(some ((ab.f1.length:Int)==0))))):Option Bool)>>=fun ai=>if ai=true then(some (.inl false)) else(Z2j.l0 a0 (i64.wrap (aa+1)))) else(some (.inr ()))
partial_fixpoint
def Z2j.f (a0:List Z2):Option Bool:=(Z2j.l0 a0 0)>>=fun | .inl rr=>(some rr) | .inr _=>(some (decide ((a0.length:Int)≤64)))
theorem Z2j.ok (a0:List Z2):F0 7 [.im (.row (a0.map Z0))] (Z2j.f a0) (fun r=>bV r):=FT [] func7 (.r0<|.rg [(1,hG Z0 a0)]<|.bl<|.lq (.one (Z2j.l0.partial_correctness a0)) 0 [] (fun _=>.one (fun aa=>⟨[(0,im a0 Z0),(5,im a0 Z0),(6,qi (ln a0)),(7,qi aa)],[],0⟩) fun aa=>.r0<|.cd (fun ab=>.bl<|.el fun ac ae af=>.rg [(1,hA Z0 ae af),(3,⟨.k 1,.n⟩)]<|.join (.bd fun ah ai=>.sp (fun aj=>.rg [(2,qh call25 (Z1f.ok ac.f0 ah ai)),(4,hB aj)]<|.o [])
 (fun aj=>.sp (fun ak=>.el fun al am an=>.sp (fun ao=>.rg [(2,qh call25 (Z1f.ok ac.f0 ah ai)),(4,hB aj),(7,hB ak),(11,hA Z0 am an),(19,hB ao)]<|.o [])
 (fun ao=>.bd fun aq ar=>.sp (fun au=>.rg [(2,qh call25 (Z1f.ok ac.f0 ah ai)),(4,hB aj),(7,hB ak),(11,hA Z0 am an),(19,hB ao),(22,qh call26 (Z16.ok ac.f1 aq ar)),(25,hB au)]<|.o [])
 (fun au=>.rg [(2,qh call25 (Z1f.ok ac.f0 ah ai)),(4,hB aj),(7,hB ak),(11,hA Z0 am an),(19,hB ao),(22,qh call26 (Z16.ok ac.f1 aq ar)),(25,hB au),(28,hG Ze ac.f1)]<|.o [])))
 (fun ak=>.bd fun av aw=>.sp (fun ax=>.rg [(2,qh call25 (Z1f.ok ac.f0 ah ai)),(4,hB aj),(7,hB ak),(22,qh call26 (Z16.ok ac.f1 av aw)),(25,hB ax)]<|.o [])
 (fun ax=>.rg [(2,qh call25 (Z1f.ok ac.f0 ah ai)),(4,hB aj),(7,hB ak),(22,qh call26 (Z16.ok ac.f1 av aw)),(25,hB ax),(28,hG Ze ac.f1)]<|.o []))))
 (.st .normal (fun ay=>⟨[(0,im a0 Z0),(5,im a0 Z0),(6,qi (ln a0)),(7,qi aa),(42,bV ay)],[],0⟩) fun ay=>.cd (fun az=>.r0<|.rv ⟨[(2,bV false)],[],0⟩)
 (fun az=>.r0<|.bk [] rfl)))
 (fun ab=>.o []))
 (.sm (.rt (fun rr=>bV rr) (fun rr=>[]))
 (.st (.exit 0) (fun _=>⟨[(0,im a0 Z0)],[],0⟩) fun _=>.rg [(1,hG Z0 a0)]<|.rv ⟨[(2,bV (decide ((ln a0)≤64)))],[],0⟩)))
def Z2h.l1 (a0:List Z1c) (aa:Z1c) (ab:Int) (ac:List Int) (ae:Int):Option (List Int):=if decide (ae<2) then((((chk (0≤ae∧ae<2))>>=fun _=>if ae==0 then(some aa.f0) else(some aa.f1)):Option ByteArray)>>=fun af=>(chk ((ac.length+[u8.wrap (af.size:Int)].length)*1≤140737488355328))>>=fun _=>(chk (((ac++[u8.wrap (af.size:Int)]).length+af.size)*1≤140737488355328))>>=fun _=>Z2h.l1 a0 aa ab ((ac++[u8.wrap (af.size:Int)])++Z4w af) (i64.wrap (ae+1))) else(some ac)
partial_fixpoint
def Z2h.l0 (a0:List Z1c) (aa:List Int) (ab:Int):Option (List Int):=if decide (ab<(a0.length:Int)) then((at? a0 ab)>>=fun ac=>(Z2h.l1 a0 ac ab aa 0)>>=fun ae=>Z2h.l0 a0 ae (i64.wrap (ab+1))) else(some aa)
partial_fixpoint
def Z2h.f (a0:List Z1c):Option ByteArray:=(Z2h.l0 a0 [] 0)>>=fun aa=>some (strOf aa)
abbrev q3:=@RW _ 1 5 qb
theorem Z2h.ok (a0:List Z1c):F0 27 [.im (.row (a0.map Z2i))] (Z2h.f a0) (fun r=>sV r):=FT [] func27 (.r0<|.r0<|.rg [(1,hG Z2i a0)]<|.bl<|.loop (.c2 (Z2h.l0.partial_correctness a0)) ([],0) [] [] [10] (fun _=>.pr fun aa=>.one (fun ab=>⟨[(3,.own 10),(8,im a0 Z2i),(9,qi (ln a0)),(10,qi ab)],[q3 10 aa],0⟩) fun ab=>.r0<|.cd (fun ac=>.bl<|.el fun ae af ah=>.rg [(0,hA Z2i af ah),(2,⟨.k 11,.n⟩)]<|.r0<|.bl<|.lq (.c2 (Z2h.l1.partial_correctness a0 ae ab)) (aa,0) [(10,15)] (fun _=>.pr fun ai=>.one (fun aj=>⟨[(3,.own 15),(8,im a0 Z2i),(9,qi (ln a0)),(10,qi ab),(18,.agg (aLabel ae)),(19,qi aj)],[q3 15 ai],0⟩) fun aj=>.r0<|.cd (fun ak=>.bl<|.join (.ck fun al=>.sp (fun am=>.rg [(0,⟨.more (xIdx 0),.c (p:=aj=((0:Nat):Int)) (by simpa using am) .n⟩)]<|.o [(15,16)])
 (fun am=>.rg [(0,⟨.more (xIdx 1),.c (p:=aj=((1:Nat):Int)) (by have:=al;simp only[beq_eq_false_iff_ne] at *;omega) .n⟩)]<|.o [(15,16)]))
 (.st .normal (fun an=>⟨[(3,.own 16),(7,sV an),(8,im a0 Z2i),(9,qi (ln a0)),(10,qi ab),(18,.agg (aLabel ae)),(19,qi aj)],[q3 16 ai],0⟩) fun an=>.ck fun ao=>.ck fun aq=>.rg [(4,hQ 17 qb ([u8.wrap (an.size:Int)]:List Int)),(5,hP 18 qb 1 ao),(7,⟨.more (xAppStr 19 (((ai++[u8.wrap (an.size:Int)])++Z4w an).map qb)),.c (p:=((ai++[u8.wrap (an.size:Int)])++Z4w an).map qb=(ai++[u8.wrap (an.size:Int)]).map qb++(Z4w an).map qb) (by simp) (.c (p:=(((ai++[u8.wrap (an.size:Int)]).map qb).length+an.size)*1≤140737488355328) (by simpa using aq) .n)⟩)]<|.r0<|.bk [(19,15)] rfl))
 (fun ak=>.o [(15,20)]))
 (.st (.exit 2) (fun ar=>⟨[(3,.own 20),(8,im a0 Z2i),(9,qi (ln a0)),(10,qi ab)],[q3 20 ar],0⟩) fun ar=>.r0<|.bk [(20,10)] rfl))
 (fun ac=>.o [(10,21)]))
 (.st (.exit 0) (fun au=>⟨[(3,.own 21)],[q3 21 au],0⟩) fun au=>.rg [(1,hT (xStr au) au)]<|.rv ⟨[(2,sV (strOf au))],[],0⟩))
def Z2p.f (a0:Int):Option Unit:=(chk (0≤(u64.wrap ((2:Int)*(u64.wrap ((if(if(4:Int)<a0 then(4:Int) else a0)>0 then(if(4:Int)<a0 then(4:Int) else a0) else(0:Int))))))))>>=fun _=>some ()
theorem Z2p.ok (a0:Int):F0 20 [qi a0] (Z2p.f a0) (fun r=>qi (i64.wrap ((64:Int)*2 ^ (min (Int.toNat (u64.wrap ((2:Int)*(u64.wrap ((clp 4 a0)))))) 64)))):=FT [] func20 (.r0<|.ck fun aa=>.rg [(1,⟨.more xMin,.n⟩),(2,⟨.more xMax,.n⟩),(5,hN (p1 aa))]<|.rv ⟨[(2,qi (i64.wrap ((64:Int)*2 ^ (min (Int.toNat (u64.wrap ((2:Int)*(u64.wrap ((clp 4 a0)))))) 64))))],[],0⟩)
def Z4j.f (a0 a1:Int):Option Unit:=(Z2p.f a0)>>=fun aa=>(chk ((i64.wrap ((64:Int)*2 ^ (min (u64.wrap ((2:Int)*(u64.wrap ((if(if(4:Int)<a0 then(4:Int) else a0)>0 then(if(4:Int)<a0 then(4:Int) else a0) else(0:Int)))))).toNat 64)))≠0))>>=fun _=>some ()
theorem Z4j.ok (a0 a1:Int):F0 22 [qi a0,qi a1] (Z4j.f a0 a1) (fun r=>qi (i64.wrap (a1-(Int.tmod a1 (i64.wrap ((64:Int)*2 ^ (min (Int.toNat (u64.wrap ((2:Int)*(u64.wrap ((clp 4 a0)))))) 64))))))):=FT [] func22 (.r0<|.bd fun aa ab=>.ck fun ac=>.rg [(3,qh call20 (Z2p.ok a0 aa ab)),(4,hN (p1 ac))]<|.rv ⟨[(4,qi (i64.wrap (a1-(Int.tmod a1 (i64.wrap ((64:Int)*2 ^ (min (Int.toNat (u64.wrap ((2:Int)*(u64.wrap ((clp 4 a0)))))) 64)))))))],[],0⟩)
def Z5j.f (a0:Int):Option Int:=((if decide (a0≥4294967296) then(some (Int.fdiv a0 4294967296,32)) else(some (a0,0))):Option (Int×Int))>>=fun | (aa,ab)=>(((if decide (aa≥65536) then(some (Int.fdiv aa 65536,i64.wrap (ab+16))) else(some (aa,ab))):Option (Int×Int))>>=fun | (ac,ae)=>(((if decide (ac≥256) then(some (Int.fdiv ac 256,i64.wrap (ae+8))) else(some (ac,ae))):Option (Int×Int))>>=fun | (af,ah)=>((chk (0≤(u8.wrap (af))∧(u8.wrap (af))<((⟨#[0,1,2,2,3,3,3,3,4,4,4,4,4,4,4,4,5,5,5,5,5,5,5,5,5,5,5,5,5,5,5,5,6,6,6,6,6,6,6,6,6,6,6,6,6,6,6,6,6,6,6,6,6,6,6,6,6,6,6,6,6,6,6,6,7,7,7,7,7,7,7,7,7,7,7,7,7,7,7,7,7,7,7,7,7,7,7,7,7,7,7,7,7,7,7,7,7,7,7,7,7,7,7,7,7,7,7,7,7,7,7,7,7,7,7,7,7,7,7,7,7,7,7,7,7,7,7,7,8,8,8,8,8,8,8,8,8,8,8,8,8,8,8,8,8,8,8,8,8,8,8,8,8,8,8,8,8,8,8,8,8,8,8,8,8,8,8,8,8,8,8,8,8,8,8,8,8,8,8,8,8,8,8,8,8,8,8,8,8,8,8,8,8,8,8,8,8,8,8,8,8,8,8,8,8,8,8,8,8,8,8,8,8,8,8,8,8,8,8,8,8,8,8,8,8,8,8,8,8,8,8,8,8,8,8,8,8,8,8,8,8,8,8,8,8,8,8,8,8,8,8,8,8,8,8,8]⟩:ByteArray).size:Int)))>>=fun _=>some (i64.wrap (ah+(i64.wrap (bt (⟨#[0,1,2,2,3,3,3,3,4,4,4,4,4,4,4,4,5,5,5,5,5,5,5,5,5,5,5,5,5,5,5,5,6,6,6,6,6,6,6,6,6,6,6,6,6,6,6,6,6,6,6,6,6,6,6,6,6,6,6,6,6,6,6,6,7,7,7,7,7,7,7,7,7,7,7,7,7,7,7,7,7,7,7,7,7,7,7,7,7,7,7,7,7,7,7,7,7,7,7,7,7,7,7,7,7,7,7,7,7,7,7,7,7,7,7,7,7,7,7,7,7,7,7,7,7,7,7,7,8,8,8,8,8,8,8,8,8,8,8,8,8,8,8,8,8,8,8,8,8,8,8,8,8,8,8,8,8,8,8,8,8,8,8,8,8,8,8,8,8,8,8,8,8,8,8,8,8,8,8,8,8,8,8,8,8,8,8,8,8,8,8,8,8,8,8,8,8,8,8,8,8,8,8,8,8,8,8,8,8,8,8,8,8,8,8,8,8,8,8,8,8,8,8,8,8,8,8,8,8,8,8,8,8,8,8,8,8,8,8,8,8,8,8,8,8,8,8,8,8,8,8,8,8,8,8,8]⟩:ByteArray) (u8.wrap (af)))))))))
theorem Z5j.ok (a0:Int):F0 139 [qu a0] (Z5j.f a0) (fun r=>qi r):=FT [] func139 (.r0<|.r0<|.join (.cd (fun aa=>.rg [(1,hK 32)]<|.r0<|.o [])
 (fun aa=>.o []))
 (.pr fun ab=>.st .normal (fun ac=>⟨[(0,qu ab),(2,qi ac)],[],0⟩) fun ac=>.r0<|.join (.cd (fun ae=>.rg [(1,hK 16)]<|.r0<|.o [])
 (fun ae=>.o []))
 (.pr fun af=>.st .normal (fun ah=>⟨[(0,qu af),(2,qi ah)],[],0⟩) fun ah=>.r0<|.join (.cd (fun ai=>.rg [(1,hK 8)]<|.r0<|.o [])
 (fun ai=>.o []))
 (.pr fun aj=>.st .normal (fun ak=>⟨[(0,qu aj),(2,qi ak)],[],0⟩) fun ak=>.ck fun al=>.rg [(3,hN (p2 al))]<|.rv ⟨[(2,qi (i64.wrap (ak+(i64.wrap (bt (⟨#[0,1,2,2,3,3,3,3,4,4,4,4,4,4,4,4,5,5,5,5,5,5,5,5,5,5,5,5,5,5,5,5,6,6,6,6,6,6,6,6,6,6,6,6,6,6,6,6,6,6,6,6,6,6,6,6,6,6,6,6,6,6,6,6,7,7,7,7,7,7,7,7,7,7,7,7,7,7,7,7,7,7,7,7,7,7,7,7,7,7,7,7,7,7,7,7,7,7,7,7,7,7,7,7,7,7,7,7,7,7,7,7,7,7,7,7,7,7,7,7,7,7,7,7,7,7,7,7,8,8,8,8,8,8,8,8,8,8,8,8,8,8,8,8,8,8,8,8,8,8,8,8,8,8,8,8,8,8,8,8,8,8,8,8,8,8,8,8,8,8,8,8,8,8,8,8,8,8,8,8,8,8,8,8,8,8,8,8,8,8,8,8,8,8,8,8,8,8,8,8,8,8,8,8,8,8,8,8,8,8,8,8,8,8,8,8,8,8,8,8,8,8,8,8,8,8,8,8,8,8,8,8,8,8,8,8,8,8,8,8,8,8,8,8,8,8,8,8,8,8,8,8,8,8,8,8]⟩:ByteArray) (u8.wrap (aj)))))))],[],0⟩))))
def Z3k.f (a0:Int):Option Int:=(Z5j.f a0)>>=fun aa=>some aa
theorem Z3k.ok (a0:Int):F0 77 [qu a0] (Z3k.f a0) (fun r=>qi r):=FT [] func77 (.r0<|.cl (rfl:false=false)<|.bd fun aa ab=>.rg [(1,qh call139 (Z5j.ok a0 aa ab))]<|.rv ⟨[(2,qi aa)],[],0⟩)
def Z24.f (a0:Int):Option Unit:=some ()
theorem Z24.ok (a0:Int):F0 78 [qi a0] (Z24.f a0) (fun r=>bV (a0 != a0)):=FT [] func78 (.r0<|.r0<|.rv ⟨[(2,bV (a0 != a0))],[],0⟩)
def Z0x.f (a0 a1:Int):Option Int:=(Z24.f a0)>>=fun aa=>(Z24.f a1)>>=fun ab=>if a0 != a0 then(if a1 != a1 then(some 0) else(some (-1))) else(if a1 != a1 then(some 1) else(if decide (a0<a1) then(some (-1)) else(if decide (a0>a1) then(some 1) else(some 0))))
theorem Z0x.ok (a0 a1:Int):F0 30 [qi a0,qi a1] (Z0x.f a0 a1) (fun r=>qi r):=FT [] func30 (.r0<|.bd fun aa ab=>.rg [(1,qh call78 (Z24.ok a0 aa ab))]<|.bd fun ac ae=>.rg [(1,qh call78 (Z24.ok a1 ac ae))]<|.r0<|.cd (fun af=>.r0<|.cd (fun ah=>.r0<|.rv ⟨[(4,qi 0)],[],0⟩)
 (fun ah=>.r0<|.rv ⟨[(4,qi (-1))],[],0⟩))
 (fun af=>.r0<|.cd (fun ai=>.r0<|.rv ⟨[(4,qi 1)],[],0⟩)
 (fun ai=>.r0<|.cd (fun aj=>.r0<|.rv ⟨[(4,qi (-1))],[],0⟩)
 (fun aj=>.r0<|.cd (fun ak=>.r0<|.rv ⟨[(4,qi 1)],[],0⟩)
 (fun ak=>.r0<|.rv ⟨[(4,qi 0)],[],0⟩)))))
def Z0l.f (a0 a1:Z5):Option Int:=(Z0x.f a0.f0.f0 a1.f0.f0)>>=fun aa=>some aa
theorem Z0l.ok (a0 a1:Z5):F0 29 [.agg (Z54 ⟨a0.f0.f0,a0.f0.f1,a0.f0.f2,a0.f1⟩),.agg (Z54 ⟨a1.f0.f0,a1.f0.f1,a1.f0.f2,a1.f1⟩)] (Z0l.f a0 a1) (fun r=>qi r):=FT [] func29 (.rg [(0,⟨.k 0,.n⟩),(1,⟨.k 1,.n⟩)]<|.bd fun aa ab=>.rg [(6,qh call30 (Z0x.ok a0.f0.f0 a1.f0.f0 aa ab))]<|.rv ⟨[(4,qi aa)],[],0⟩)
def Zq.l1 (a1 a2 aa:Int) (ab:List Z5) (ac:Int):Option (List Z5):=((if decide (ac>a1) then((at? ab ac)>>=fun ae=>(at? ab (i64.wrap (ac-1)))>>=fun af=>(Z0l.f ae af)>>=fun ah=>some (decide (ah<0))) else(some false)):Option Bool)>>=fun ai=>if ai=true then((at? ab (i64.wrap (ac-1)))>>=fun aj=>(at? ab ac)>>=fun ak=>(at? (ab.set ac.toNat aj) (i64.wrap (ac-1)))>>=fun al=>Zq.l1 a1 a2 aa ((ab.set ac.toNat aj).set (i64.wrap (ac-1)).toNat ak) (i64.wrap (ac-1))) else(some ab)
partial_fixpoint
def Zq.l0 (a1 a2:Int) (aa:List Z5) (ab:Int):Option (List Z5):=if decide (ab<a2) then((Zq.l1 a1 a2 ab aa ab)>>=fun ac=>Zq.l0 a1 a2 ac (i64.wrap (ab+1))) else(some aa)
partial_fixpoint
def Zq.f (a0:List Z5) (a1 a2:Int):Option (List Z5):=(Zq.l0 a1 a2 a0 (i64.wrap (a1+1)))>>=fun aa=>some aa
abbrev q4:=@RW _ 4 36 Z3
theorem Zq.ok (a0:List Z5) (a1 a2:Int):FN 130 [.own 0,qi a1,qi a2,.im (qf 29)] [q4 0 a0] 1 (Zq.f a0 a1 a2) (fun r=>.tup []) (fun r=>[q4 0 r]):=FT [0] func130 (.r0<|.bl<|.lq (.c2 (Zq.l0.partial_correctness a1 a2)) (a0,i64.wrap (a1+1)) [(0,0)] (fun _=>.pr fun aa=>.one (fun ab=>⟨[(0,.own 0),(1,qi a1),(2,qi a2),(3,.im (qf 29)),(8,qi ab)],[q4 0 aa],1⟩) fun ab=>.r0<|.cd (fun ac=>.bl<|.r0<|.bl<|.lq (.c2 (Zq.l1.partial_correctness a1 a2 ab)) (aa,ab) [(0,0)] (fun _=>.pr fun ae=>.one (fun af=>⟨[(0,.own 0),(1,qi a1),(2,qi a2),(3,.im (qf 29)),(8,qi ab),(9,qi af)],[q4 0 ae],1⟩) fun af=>.join (.sp (fun ah=>.el fun ai aj ak=>.el fun al am an=>.bd fun ao aq=>.rg [(3,hB ah),(7,hX Z3 aj ak),(8,hL Z3 ak),(12,hX Z3 am an),(13,hL Z3 an),(14,qh call29 (Z0l.ok ai al ao aq))]<|.o [(0,0)])
 (fun ah=>.rg [(3,hB ah)]<|.o [(0,0)]))
 (.st .normal (fun ar=>⟨[(0,.own 0),(1,qi a1),(2,qi a2),(3,.im (qf 29)),(8,qi ab),(9,qi af),(34,bV ar)],[q4 0 ae],1⟩) fun ar=>.cd (fun au=>.bl<|.el fun av aw ax=>.el fun ay az a8=>.el fun a9 ba bb=>.rg [(8,hX Z3 aw ax),(9,hL Z3 ax),(12,hX Z3 az a8),(13,hL Z3 a8),(14,hX Z3 az a8),(15,hS Z3 av 0 [iI .i64 av.f0.f0,iI .i64 av.f0.f1,iI .i64 av.f0.f2,.row (av.f1.map Z0)] a8),(16,hX Z3 ba bb),(17,hS Z3 ay 0 [iI .i64 ay.f0.f0,iI .i64 ay.f0.f1,iI .i64 ay.f0.f2,.row (ay.f1.map Z0)] bb)]<|.r0<|.bk [(0,0)] rfl)
 (fun au=>.o [(0,0)])))
 (.st (.exit 2) (fun bc=>⟨[(0,.own 0),(1,qi a1),(2,qi a2),(3,.im (qf 29)),(8,qi ab)],[q4 0 bc],1⟩) fun bc=>.r0<|.bk [(0,0)] rfl))
 (fun ac=>.o [(0,0)]))
 (.st (.exit 0) (fun be=>⟨[],[q4 0 be],1⟩) fun be=>.ru [(0,0)] ⟨[],[q4 0 be],1⟩))
def Z00.l0 (a2 a3:Int) (aa:List Z5) (ab:Int):Option ((List Z5) ⊕ (List Z5)):=if decide ((i64.wrap ((i64.wrap ((2:Int)*ab))+1))≥a2) then(some (.inr aa)) else(((if decide ((i64.wrap ((i64.wrap ((i64.wrap ((2:Int)*ab))+1))+1))<a2) then((at? aa (i64.wrap (a3+(i64.wrap ((i64.wrap ((2:Int)*ab))+1)))))>>=fun ac=>(at? aa (i64.wrap ((i64.wrap (a3+(i64.wrap ((i64.wrap ((2:Int)*ab))+1))))+1)))>>=fun ae=>(Z0l.f ac ae)>>=fun af=>some (decide (af<0))) else(some false)):Option Bool)>>=fun ah=>((if ah=true then(some (i64.wrap ((i64.wrap ((i64.wrap ((2:Int)*ab))+1))+1))) else(some (i64.wrap ((i64.wrap ((2:Int)*ab))+1)))):Option Int)>>=fun ai=>(at? aa (i64.wrap (a3+ab)))>>=fun aj=>(at? aa (i64.wrap (a3+ai)))>>=fun ak=>(Z0l.f aj ak)>>=fun al=>if !(decide (al<0)) then(some (.inl aa)) else((at? (aa.set (i64.wrap (a3+ab)).toNat ak) (i64.wrap (a3+ai)))>>=fun am=>Z00.l0 a2 a3 ((aa.set (i64.wrap (a3+ab)).toNat ak).set (i64.wrap (a3+ai)).toNat aj) ai))
partial_fixpoint
def Z00.f (a0:List Z5) (a1 a2 a3:Int):Option (List Z5):=(Z00.l0 a2 a3 a0 a1)>>=fun | .inl rr=>(some rr) | .inr aa=>(some aa)
theorem Z00.ok (a0:List Z5) (a1 a2 a3:Int):FN 189 [.own 0,qi a1,qi a2,qi a3,.im (qf 29)] [q4 0 a0] 1 (Z00.f a0 a1 a2 a3) (fun r=>.tup []) (fun r=>[q4 0 r]):=FT [0] func189 (.r0<|.bl<|.lq (.c2 (Z00.l0.partial_correctness a2 a3)) (a0,a1) [(0,0)] (fun _=>.pr fun aa=>.one (fun ab=>⟨[(0,.own 0),(2,qi a2),(3,qi a3),(4,.im (qf 29)),(10,qi ab)],[q4 0 aa],1⟩) fun ab=>.bl<|.r0<|.r0<|.cd (fun ac=>.o [(0,0)])
 (fun ac=>.join (.sp (fun ae=>.el fun af ah ai=>.el fun aj ak al=>.bd fun am an=>.rg [(4,hB ae),(10,hX Z3 ah ai),(11,hL Z3 ai),(17,hX Z3 ak al),(18,hL Z3 al),(19,qh call29 (Z0l.ok af aj am an))]<|.o [(0,0)])
 (fun ae=>.rg [(4,hB ae)]<|.o [(0,0)]))
 (.st .normal (fun ao=>⟨[(0,.own 0),(2,qi a2),(3,qi a3),(4,.im (qf 29)),(10,qi ab),(11,qi (i64.wrap ((i64.wrap ((2:Int)*ab))+1))),(40,bV ao)],[q4 0 aa],1⟩) fun ao=>.join (.cd (fun aq=>.r0<|.o [(0,0)])
 (fun aq=>.o [(0,0)]))
 (.st .normal (fun ar=>⟨[(0,.own 0),(2,qi a2),(3,qi a3),(4,.im (qf 29)),(10,qi ab),(11,qi ar)],[q4 0 aa],1⟩) fun ar=>.el fun au av aw=>.el fun ax ay az=>.bd fun a8 a9=>.rg [(5,hX Z3 av aw),(6,hL Z3 aw),(11,hX Z3 ay az),(12,hL Z3 az),(13,qh call29 (Z0l.ok au ax a8 a9))]<|.cd (fun ba=>.ru [(0,0)] ⟨[],[q4 0 aa],1⟩)
 (fun ba=>.el fun bb bc be=>.rg [(12,hX Z3 ay az),(13,hL Z3 az),(18,hX Z3 av aw),(19,hL Z3 aw),(20,hX Z3 av aw),(21,hS Z3 ax 0 [iI .i64 ax.f0.f0,iI .i64 ax.f0.f1,iI .i64 ax.f0.f2,.row (ax.f1.map Z0)] aw),(22,hX Z3 bc be),(23,hS Z3 au 0 [iI .i64 au.f0.f0,iI .i64 au.f0.f1,iI .i64 au.f0.f2,.row (au.f1.map Z0)] be)]<|.r0<|.bk [(0,0)] rfl)))))
 (.sm (.rt (fun rr=>.tup []) (fun rr=>[q4 0 rr]))
 (.st (.exit 0) (fun bf=>⟨[],[q4 0 bf],1⟩) fun bf=>.ru [(0,0)] ⟨[],[q4 0 bf],1⟩)))
def Zv.l0 (a1 a2:Int) (aa:List Z5) (ab:Int):Option (List Z5):=if decide (ab≥0) then((Z00.f aa ab (i64.wrap (a2-a1)) a1)>>=fun ac=>Zv.l0 a1 a2 ac (i64.wrap (ab-1))) else(some aa)
partial_fixpoint
def Zv.l1 (a1:Int) (aa:List Z5) (ab:Int):Option (List Z5):=if decide (ab≥0) then((at? aa (i64.wrap (a1+ab)))>>=fun ac=>(at? aa a1)>>=fun ae=>(at? (aa.set a1.toNat ac) (i64.wrap (a1+ab)))>>=fun af=>(Z00.f ((aa.set a1.toNat ac).set (i64.wrap (a1+ab)).toNat ae) 0 ab a1)>>=fun ah=>Zv.l1 a1 ah (i64.wrap (ab-1))) else(some aa)
partial_fixpoint
def Zv.f (a0:List Z5) (a1 a2:Int):Option (List Z5):=(Zv.l0 a1 a2 a0 (i64.wrap (Int.tdiv (i64.wrap ((i64.wrap (a2-a1))-1)) (2:Int))))>>=fun aa=>(Zv.l1 a1 aa (i64.wrap ((i64.wrap (a2-a1))-1)))>>=fun ab=>some ab
theorem Zv.ok (a0:List Z5) (a1 a2:Int):FN 131 [.own 0,qi a1,qi a2,.im (qf 29)] [q4 0 a0] 1 (Zv.f a0 a1 a2) (fun r=>.tup []) (fun r=>[q4 0 r]):=FT [0] func131 (.r0<|.r0<|.r0<|.rg [(2,hJ 2)]<|.bl<|.lq (.c2 (Zv.l0.partial_correctness a1 a2)) (a0,i64.wrap (Int.tdiv (i64.wrap ((i64.wrap (a2-a1))-1)) (2:Int))) [(0,0)] (fun _=>.pr fun aa=>.one (fun ab=>⟨[(0,.own 0),(3,.im (qf 29)),(8,qi a1),(9,qi 0),(10,qi (i64.wrap (a2-a1))),(11,qi ab)],[q4 0 aa],1⟩) fun ab=>.r0<|.cd (fun ac=>.bl<|.bd fun ae af=>.rg [(5,jA call189 (Z00.ok aa ab (i64.wrap (a2-a1)) a1 ae af))]<|.r0<|.bk [(0,0)] rfl)
 (fun ac=>.o [(0,0)]))
 (.st (.exit 0) (fun ah=>⟨[(0,.own 0),(3,.im (qf 29)),(8,qi a1),(9,qi 0),(10,qi (i64.wrap (a2-a1)))],[q4 0 ah],1⟩) fun ah=>.r0<|.bl<|.lq (.c2 (Zv.l1.partial_correctness a1)) (ah,i64.wrap ((i64.wrap (a2-a1))-1)) [(0,0)] (fun _=>.pr fun ai=>.one (fun aj=>⟨[(0,.own 0),(3,.im (qf 29)),(8,qi a1),(9,qi 0),(12,qi aj)],[q4 0 ai],1⟩) fun aj=>.r0<|.cd (fun ak=>.bl<|.el fun al am an=>.el fun ao aq ar=>.el fun au av aw=>.rg [(10,hX Z3 am an),(11,hL Z3 an),(14,hX Z3 aq ar),(15,hL Z3 ar),(16,hX Z3 aq ar),(17,hS Z3 al 0 [iI .i64 al.f0.f0,iI .i64 al.f0.f1,iI .i64 al.f0.f2,.row (al.f1.map Z0)] ar),(18,hX Z3 av aw),(19,hS Z3 ao 0 [iI .i64 ao.f0.f0,iI .i64 ao.f0.f1,iI .i64 ao.f0.f2,.row (ao.f1.map Z0)] aw)]<|.bd fun ax ay=>.rg [(5,jA call189 (Z00.ok ((ai.set (Int.toNat (a1)) al).set (Int.toNat (i64.wrap (a1+aj))) ao) 0 aj a1 ax ay))]<|.r0<|.bk [(0,0)] rfl)
 (fun ak=>.o [(0,0)]))
 (.st (.exit 2) (fun az=>⟨[],[q4 0 az],1⟩) fun az=>.ru [(0,0)] ⟨[],[q4 0 az],1⟩)))
def Z0d.f (a0:List Z5) (a1 a2 aa:Int):Option (Int×Int×Int):=(at? a0 a2)>>=fun ab=>(at? a0 a1)>>=fun ac=>(Z0l.f ab ac)>>=fun ae=>if decide (ae<0) then(some (a2,a1,i64.wrap (aa+1))) else(some (a1,a2,aa))
abbrev v0_ (k:Nat) (x:List AVal):Nat×Option MObj:=BX 3 k x
theorem Z0d.ok (a0:List Z5) (a1 a2 aa:Int):FN 221 [.own 0,qi a1,qi a2,.ptr 1 0 0,.im (qf 29)] [q4 0 a0,v0_ 1 [qi aa]] 2 (Z0d.f a0 a1 a2 aa) (fun r=>.tup [qi r.1,qi r.2.1]) (fun r=>[q4 0 a0,v0_ 1 [qi r.2.2]]):=FT [0,1] func221 (.r0<|.el fun ab ac ae=>.el fun af ah ai=>.bd fun aj ak=>.rg [(3,hX Z3 ac ae),(4,hL Z3 ae),(7,hX Z3 ah ai),(8,hL Z3 ai),(9,qh call29 (Z0l.ok ab af aj ak))]<|.cd (fun al=>.r0<|.r0<|.ru [(0,0),(1,1)] ⟨[(10,qi a2),(11,qi a1)],[q4 0 a0,v0_ 1 [qi (i64.wrap (aa+1))]],2⟩)
 (fun al=>.r0<|.ru [(0,0),(1,1)] ⟨[(10,qi a1),(11,qi a2)],[q4 0 a0,v0_ 1 [qi aa]],2⟩))
def Z0q.f (a0:List Z5) (a1 a2 a3 aa:Int):Option (Int×Int):=(Z0d.f a0 a1 a2 aa)>>=fun ab=>(Z0d.f a0 ab.2.1 a3 ab.2.2)>>=fun ac=>(Z0d.f a0 ab.1 ac.1 ac.2.2)>>=fun ae=>some (ae.2.1,ae.2.2)
theorem Z0q.ok (a0:List Z5) (a1 a2 a3 aa:Int):FN 193 [.own 0,qi a1,qi a2,qi a3,.ptr 1 0 0,.im (qf 29)] [q4 0 a0,v0_ 1 [qi aa]] 2 (Z0q.f a0 a1 a2 a3 aa) (fun r=>qi r.1) (fun r=>[q4 0 a0,v0_ 1 [qi r.2]]):=FT [0,1] func193 (.r0<|.bd fun ab ac=>.rg [(5,hC [(0,0),(1,1)] [(0,0),(1,1)] [] [] call221 (Z0d.ok a0 a1 a2 aa ab ac))]<|.bd fun ae af=>.rg [(5,hC [(0,0),(1,1)] [(0,0),(1,1)] [] [] call221 (Z0d.ok a0 ab.2.1 a3 ab.2.2 ae af))]<|.bd fun ah ai=>.rg [(5,hC [(0,0),(1,1)] [(0,0),(1,1)] [] [] call221 (Z0d.ok a0 ab.1 ae.1 ae.2.2 ah ai))]<|.r0<|.ru [(0,0),(1,1)] ⟨[(12,qi ah.2.1)],[q4 0 a0,v0_ 1 [qi ah.2.2]],2⟩)
def Z01.f (a0:List Z5) (a1 aa:Int):Option (Int×Int):=(Z0q.f a0 (i64.wrap (a1-1)) a1 (i64.wrap (a1+1)) aa)>>=fun ab=>some (ab.1,ab.2)
theorem Z01.ok (a0:List Z5) (a1 aa:Int):FN 192 [.own 0,qi a1,.ptr 1 0 0,.im (qf 29)] [q4 0 a0,v0_ 1 [qi aa]] 2 (Z01.f a0 a1 aa) (fun r=>qi r.1) (fun r=>[q4 0 a0,v0_ 1 [qi r.2]]):=FT [0,1] func192 (.r0<|.bd fun ab ac=>.rg [(8,hC [(0,0),(1,1)] [(0,0),(1,1)] [] [] call193 (Z0q.ok a0 (i64.wrap (a1-1)) a1 (i64.wrap (a1+1)) aa ab ac))]<|.ru [(0,0),(1,1)] ⟨[(8,qi ab.1)],[q4 0 a0,v0_ 1 [qi ab.2]],2⟩)
def Z11.f (a0:List Z5) (a1 a2:Int):Option (Int×Int):=((if decide ((i64.wrap (a2-a1))≥8) then(((if decide ((i64.wrap (a2-a1))≥50) then((Z01.f a0 (i64.wrap (a1+(i64.wrap ((i64.wrap (Int.tdiv (i64.wrap (a2-a1)) (4:Int)))*1)))) 0)>>=fun aa=>(Z01.f a0 (i64.wrap (a1+(i64.wrap ((i64.wrap (Int.tdiv (i64.wrap (a2-a1)) (4:Int)))*2)))) aa.2)>>=fun ab=>(Z01.f a0 (i64.wrap (a1+(i64.wrap ((i64.wrap (Int.tdiv (i64.wrap (a2-a1)) (4:Int)))*3)))) ab.2)>>=fun ac=>some (ac.2,aa.1,ab.1,ac.1)) else(some (0,i64.wrap (a1+(i64.wrap ((i64.wrap (Int.tdiv (i64.wrap (a2-a1)) (4:Int)))*1))),i64.wrap (a1+(i64.wrap ((i64.wrap (Int.tdiv (i64.wrap (a2-a1)) (4:Int)))*2))),i64.wrap (a1+(i64.wrap ((i64.wrap (Int.tdiv (i64.wrap (a2-a1)) (4:Int)))*3)))))):Option (Int×Int×Int×Int))>>=fun | (ae,af,ah,ai)=>((Z0q.f a0 af ah ai ae)>>=fun aj=>some (aj.2,aj.1))) else(some (0,i64.wrap (a1+(i64.wrap ((i64.wrap (Int.tdiv (i64.wrap (a2-a1)) (4:Int)))*2)))))):Option (Int×Int))>>=fun | (ak,al)=>(if ak==0 then(some (al,1)) else(if ak==12 then(some (al,2)) else(some (al,0))))
theorem Z11.ok (a0:List Z5) (a1 a2:Int):FN 133 [.own 0,qi a1,qi a2,.im (qf 29)] [q4 0 a0] 1 (Z11.f a0 a1 a2) (fun r=>.tup [qi r.1,qi r.2]) (fun r=>[q4 0 a0]):=FT [0] func133 (.r0<|.r0<|.rg [(0,⟨.k 1,.n⟩)]<|.rg [(2,hJ 4)]<|.rg [(2,hJ 4)]<|.rg [(2,hJ 4)]<|.r0<|.join (.cd (fun aa=>.r0<|.join (.cd (fun ab=>.bd fun ac ae=>.rg [(3,hC [(0,0),(1,1)] [(0,0),(1,1)] [] [] call192 (Z01.ok a0 (i64.wrap (a1+(i64.wrap ((i64.wrap (Int.tdiv (i64.wrap (a2-a1)) (4:Int)))*1)))) 0 ac ae))]<|.bd fun af ah=>.rg [(3,hC [(0,0),(1,1)] [(0,0),(1,1)] [] [] call192 (Z01.ok a0 (i64.wrap (a1+(i64.wrap ((i64.wrap (Int.tdiv (i64.wrap (a2-a1)) (4:Int)))*2)))) ac.2 af ah))]<|.bd fun ai aj=>.rg [(3,hC [(0,0),(1,1)] [(0,0),(1,1)] [] [] call192 (Z01.ok a0 (i64.wrap (a1+(i64.wrap ((i64.wrap (Int.tdiv (i64.wrap (a2-a1)) (4:Int)))*3)))) af.2 ai aj))]<|.o [(0,0),(1,2)])
 (fun ab=>.o [(0,0),(1,2)]))
 (.pr fun ak=>.pr fun al=>.pr fun am=>.st .normal (fun an=>⟨[(0,.own 0),(3,.im (qf 29)),(11,.ptr 2 0 0),(12,qi al),(13,qi am),(14,qi an)],[q4 0 a0,v0_ 2 [qi ak]],1⟩) fun an=>.bd fun ao aq=>.rg [(5,hC [(0,0),(2,1)] [(0,0),(1,2)] [] [] call193 (Z0q.ok a0 al am an ak ao aq))]<|.o [(2,3),(0,0)]))
 (fun aa=>.o [(1,3),(0,0)]))
 (.pr fun ar=>.st .normal (fun au=>⟨[(11,.ptr 3 0 0),(13,qi au)],[q4 0 a0,v0_ 3 [qi ar]],1⟩) fun au=>.r0<|.bl<|.r0<|.cd (fun av=>.r0<|.ru [(0,0)] ⟨[(8,qi au),(9,qi 1)],[q4 0 a0],1⟩)
 (fun av=>.r0<|.cd (fun aw=>.r0<|.ru [(0,0)] ⟨[(8,qi au),(9,qi 2)],[q4 0 a0],1⟩)
 (fun aw=>.r0<|.ru [(0,0)] ⟨[(8,qi au),(9,qi 0)],[q4 0 a0],1⟩))))
def Z09.l0 (aa:List Z5) (ab ac:Int):Option (List Z5):=if decide (ab<ac) then((at? aa ac)>>=fun ae=>(at? aa ab)>>=fun af=>(at? (aa.set ab.toNat ae) ac)>>=fun ah=>Z09.l0  ((aa.set ab.toNat ae).set ac.toNat af) (i64.wrap (ab+1)) (i64.wrap (ac-1))) else(some aa)
partial_fixpoint
def Z09.f (a0:List Z5) (a1 a2:Int):Option (List Z5):=(Z09.l0  a0 a1 (i64.wrap (a2-1)))>>=fun aa=>some aa
theorem Z09.ok (a0:List Z5) (a1 a2:Int):FN 134 [.own 0,qi a1,qi a2,.im (qf 29)] [q4 0 a0] 1 (Z09.f a0 a1 a2) (fun r=>.tup []) (fun r=>[q4 0 r]):=FT [0] func134 (.r0<|.r0<|.bl<|.lq (.c3 (Z09.l0.partial_correctness )) (a0,a1,i64.wrap (a2-1)) [(0,0)] (fun _=>.pr fun aa=>.pr fun ab=>.one (fun ac=>⟨[(0,.own 0),(8,qi ab),(9,qi ac)],[q4 0 aa],1⟩) fun ac=>.r0<|.cd (fun ae=>.bl<|.el fun af ah ai=>.el fun aj ak al=>.el fun am an ao=>.rg [(6,hX Z3 ah ai),(7,hL Z3 ai),(10,hX Z3 ak al),(11,hL Z3 al),(12,hX Z3 ak al),(13,hS Z3 af 0 [iI .i64 af.f0.f0,iI .i64 af.f0.f1,iI .i64 af.f0.f2,.row (af.f1.map Z0)] al),(14,hX Z3 an ao),(15,hS Z3 aj 0 [iI .i64 aj.f0.f0,iI .i64 aj.f0.f1,iI .i64 aj.f0.f2,.row (aj.f1.map Z0)] ao)]<|.r0<|.r0<|.bk [(0,0)] rfl)
 (fun ae=>.o [(0,0)]))
 (.st (.exit 0) (fun aq=>⟨[],[q4 0 aq],1⟩) fun aq=>.ru [(0,0)] ⟨[],[q4 0 aq],1⟩))
def Z8.l1 (a1 a2:Int) (aa:List Z5) (ab ac:Int):Option Int:=((if decide (ac<a2) then((at? aa ac)>>=fun ae=>(at? aa (i64.wrap (ac-1)))>>=fun af=>(Z0l.f ae af)>>=fun ah=>some (!(decide (ah<0)))) else(some false)):Option Bool)>>=fun ai=>if ai=true then(Z8.l1 a1 a2 aa ab (i64.wrap (ac+1))) else(some ac)
partial_fixpoint
def Z8.l2 (a1 a2 aa ab:Int) (ac:List Z5) (ae:Int):Option (List Z5):=if decide (ae≥1) then((at? ac ae)>>=fun af=>(at? ac (i64.wrap (ae-1)))>>=fun ah=>(Z0l.f af ah)>>=fun ai=>if !(decide (ai<0)) then(some ac) else((at? (ac.set ae.toNat ah) (i64.wrap (ae-1)))>>=fun aj=>Z8.l2 a1 a2 aa ab ((ac.set ae.toNat ah).set (i64.wrap (ae-1)).toNat af) (i64.wrap (ae-1)))) else(some ac)
partial_fixpoint
def Z8.l3 (a1 a2 aa ab:Int) (ac:List Z5) (ae:Int):Option (List Z5):=if decide (ae<a2) then((at? ac ae)>>=fun af=>(at? ac (i64.wrap (ae-1)))>>=fun ah=>(Z0l.f af ah)>>=fun ai=>if !(decide (ai<0)) then(some ac) else((at? (ac.set ae.toNat ah) (i64.wrap (ae-1)))>>=fun aj=>Z8.l3 a1 a2 aa ab ((ac.set ae.toNat ah).set (i64.wrap (ae-1)).toNat af) (i64.wrap (ae+1)))) else(some ac)
partial_fixpoint
def Z8.l0 (a1 a2:Int) (aa:List Z5) (ab ac:Int):Option ((Bool×(List Z5)) ⊕ (List Z5)):=if decide (ac<5) then((Z8.l1 a1 a2 aa ac ab)>>=fun ae=>if ae==a2 then(some (.inl (true,aa))) else(if decide ((i64.wrap (a2-a1))<50) then(some (.inl (false,aa))) else((at? aa (i64.wrap (ae-1)))>>=fun af=>(at? aa ae)>>=fun ah=>(at? (aa.set ae.toNat af) (i64.wrap (ae-1)))>>=fun ai=>((if decide ((i64.wrap (ae-a1))≥2) then((Z8.l2 a1 a2 ac ae ((aa.set ae.toNat af).set (i64.wrap (ae-1)).toNat ah) (i64.wrap (ae-1)))>>=fun aj=>some aj) else(some ((aa.set ae.toNat af).set (i64.wrap (ae-1)).toNat ah))):Option (List Z5))>>=fun ak=>((if decide ((i64.wrap (a2-ae))≥2) then((Z8.l3 a1 a2 ac ae ak (i64.wrap (ae+1)))>>=fun al=>some al) else(some ak)):Option (List Z5))>>=fun am=>Z8.l0 a1 a2 am ae (i64.wrap (ac+1))))) else(some (.inr aa))
partial_fixpoint
def Z8.f (a0:List Z5) (a1 a2:Int):Option (Bool×(List Z5)):=(Z8.l0 a1 a2 a0 (i64.wrap (a1+1)) 0)>>=fun | .inl rr=>(some rr) | .inr aa=>(some (false,aa))
theorem Z8.ok (a0:List Z5) (a1 a2:Int):FN 135 [.own 0,qi a1,qi a2,.im (qf 29)] [q4 0 a0] 1 (Z8.f a0 a1 a2) (fun r=>bV r.1) (fun r=>[q4 0 r.2]):=FT [0] func135 (.r0<|.r0<|.r0<|.bl<|.lq (.c3 (Z8.l0.partial_correctness a1 a2)) (a0,i64.wrap (a1+1),0) [(0,0)] (fun _=>.pr fun aa=>.pr fun ab=>.one (fun ac=>⟨[(0,.own 0),(1,qi a1),(2,qi a2),(3,.im (qf 29)),(9,qi ab),(10,qi ac)],[q4 0 aa],1⟩) fun ac=>.r0<|.cd (fun ae=>.bl<|.bl<|.lq (.one (Z8.l1.partial_correctness a1 a2 aa ac)) ab [(0,0)] (fun _=>.one (fun af=>⟨[(0,.own 0),(1,qi a1),(2,qi a2),(3,.im (qf 29)),(9,qi af),(10,qi ac)],[q4 0 aa],1⟩) fun af=>.join (.sp (fun ah=>.el fun ai aj ak=>.el fun al am an=>.bd fun ao aq=>.rg [(3,hB ah),(7,hX Z3 aj ak),(8,hL Z3 ak),(12,hX Z3 am an),(13,hL Z3 an),(14,qh call29 (Z0l.ok ai al ao aq))]<|.o [(0,0)])
 (fun ah=>.rg [(3,hB ah)]<|.o [(0,0)]))
 (.st .normal (fun ar=>⟨[(0,.own 0),(1,qi a1),(2,qi a2),(3,.im (qf 29)),(9,qi af),(10,qi ac),(36,bV ar)],[q4 0 aa],1⟩) fun ar=>.cd (fun au=>.bl<|.r0<|.bk [(0,0)] rfl)
 (fun au=>.o [(0,0)])))
 (.st (.exit 2) (fun av=>⟨[(0,.own 0),(1,qi a1),(2,qi a2),(3,.im (qf 29)),(9,qi av),(10,qi ac)],[q4 0 aa],1⟩) fun av=>.r0<|.cd (fun aw=>.r0<|.ru [(0,0)] ⟨[(8,bV true)],[q4 0 aa],1⟩)
 (fun aw=>.r0<|.cd (fun ax=>.r0<|.ru [(0,0)] ⟨[(8,bV false)],[q4 0 aa],1⟩)
 (fun ax=>.el fun ay az a8=>.el fun a9 ba bb=>.el fun bc be bf=>.rg [(8,hX Z3 az a8),(9,hL Z3 a8),(12,hX Z3 ba bb),(13,hL Z3 bb),(14,hX Z3 ba bb),(15,hS Z3 ay 0 [iI .i64 ay.f0.f0,iI .i64 ay.f0.f1,iI .i64 ay.f0.f2,.row (ay.f1.map Z0)] bb),(16,hX Z3 be bf),(17,hS Z3 a9 0 [iI .i64 a9.f0.f0,iI .i64 a9.f0.f1,iI .i64 a9.f0.f2,.row (a9.f1.map Z0)] bf)]<|.r0<|.join (.cd (fun bg=>.r0<|.bl<|.lq (.c2 (Z8.l2.partial_correctness a1 a2 ac av)) ((aa.set (Int.toNat (av)) ay).set (Int.toNat (i64.wrap (av-1))) a9,i64.wrap (av-1)) [(0,0)] (fun _=>.pr fun bh=>.one (fun bi=>⟨[(0,.own 0),(1,qi a1),(2,qi a2),(3,.im (qf 29)),(9,qi av),(10,qi ac),(11,qi bi)],[q4 0 bh],1⟩) fun bi=>.r0<|.cd (fun bj=>.bl<|.el fun bn bo bp=>.el fun bq br bu=>.bd fun bv bw=>.rg [(3,hX Z3 bo bp),(4,hL Z3 bp),(8,hX Z3 br bu),(9,hL Z3 bu),(10,qh call29 (Z0l.ok bn bq bv bw))]<|.cd (fun bx=>.o [(0,0)])
 (fun bx=>.el fun bz ca cb=>.rg [(8,hX Z3 br bu),(9,hL Z3 bu),(12,hX Z3 bo bp),(13,hL Z3 bp),(14,hX Z3 bo bp),(15,hS Z3 bq 0 [iI .i64 bq.f0.f0,iI .i64 bq.f0.f1,iI .i64 bq.f0.f2,.row (bq.f1.map Z0)] bp),(16,hX Z3 ca cb),(17,hS Z3 bn 0 [iI .i64 bn.f0.f0,iI .i64 bn.f0.f1,iI .i64 bn.f0.f2,.row (bn.f1.map Z0)] cb)]<|.r0<|.bk [(0,0)] rfl))
 (fun bj=>.o [(0,0)]))
 (.st (.exit 4) (fun cc=>⟨[(0,.own 0),(1,qi a1),(2,qi a2),(3,.im (qf 29)),(9,qi av),(10,qi ac)],[q4 0 cc],1⟩) fun cc=>.o [(0,0)]))
 (fun bg=>.o [(0,0)]))
 (.st .normal (fun ce=>⟨[(0,.own 0),(1,qi a1),(2,qi a2),(3,.im (qf 29)),(9,qi av),(10,qi ac)],[q4 0 ce],1⟩) fun ce=>.r0<|.join (.cd (fun cf=>.r0<|.bl<|.lq (.c2 (Z8.l3.partial_correctness a1 a2 ac av)) (ce,i64.wrap (av+1)) [(0,0)] (fun _=>.pr fun cj=>.one (fun cm=>⟨[(0,.own 0),(1,qi a1),(2,qi a2),(3,.im (qf 29)),(9,qi av),(10,qi ac),(12,qi cm)],[q4 0 cj],1⟩) fun cm=>.r0<|.cd (fun cn=>.bl<|.el fun co cp cq=>.el fun cr ct cu=>.bd fun cw cx=>.rg [(3,hX Z3 cp cq),(4,hL Z3 cq),(8,hX Z3 ct cu),(9,hL Z3 cu),(10,qh call29 (Z0l.ok co cr cw cx))]<|.cd (fun cy=>.o [(0,0)])
 (fun cy=>.el fun cz c8 c9=>.rg [(8,hX Z3 ct cu),(9,hL Z3 cu),(12,hX Z3 cp cq),(13,hL Z3 cq),(14,hX Z3 cp cq),(15,hS Z3 cr 0 [iI .i64 cr.f0.f0,iI .i64 cr.f0.f1,iI .i64 cr.f0.f2,.row (cr.f1.map Z0)] cq),(16,hX Z3 c8 c9),(17,hS Z3 co 0 [iI .i64 co.f0.f0,iI .i64 co.f0.f1,iI .i64 co.f0.f2,.row (co.f1.map Z0)] c9)]<|.r0<|.bk [(0,0)] rfl))
 (fun cn=>.o [(0,0)]))
 (.st (.exit 6) (fun da=>⟨[(0,.own 0),(1,qi a1),(2,qi a2),(3,.im (qf 29)),(9,qi av),(10,qi ac)],[q4 0 da],1⟩) fun da=>.o [(0,0)]))
 (fun cf=>.o [(0,0)]))
 (.st .normal (fun db=>⟨[(0,.own 0),(1,qi a1),(2,qi a2),(3,.im (qf 29)),(9,qi av),(10,qi ac)],[q4 0 db],1⟩) fun db=>.r0<|.bk [(0,0)] rfl))))))
 (fun ae=>.o [(0,0)]))
 (.sm (.rt (fun rr=>bV rr.1) (fun rr=>[q4 0 rr.2]))
 (.st (.exit 0) (fun dc=>⟨[],[q4 0 dc],1⟩) fun dc=>.r0<|.ru [(0,0)] ⟨[(8,bV false)],[q4 0 dc],1⟩)))
def Zh.l1 (a1:Int) (aa:List Z5) (ab ac:Int):Option Int:=((if decide (ac≤ab) then((at? aa a1)>>=fun ae=>(at? aa ac)>>=fun af=>(Z0l.f ae af)>>=fun ah=>some (!(decide (ah<0)))) else(some false)):Option Bool)>>=fun ai=>if ai=true then(Zh.l1 a1 aa ab (i64.wrap (ac+1))) else(some ac)
partial_fixpoint
def Zh.l2 (a1:Int) (aa:List Z5) (ab ac:Int):Option Int:=((if decide (ab≤ac) then((at? aa a1)>>=fun ae=>(at? aa ac)>>=fun af=>(Z0l.f ae af)>>=fun ah=>some (decide (ah<0))) else(some false)):Option Bool)>>=fun ai=>if ai=true then(Zh.l2 a1 aa ab (i64.wrap (ac-1))) else(some ac)
partial_fixpoint
def Zh.l0 (a1:Int) (aa:List Z5) (ab ac:Int):Option (Int×(List Z5)):=(Zh.l1 a1 aa ac ab)>>=fun ae=>(Zh.l2 a1 aa ae ac)>>=fun af=>if decide (ae>af) then(some (ae,aa)) else((at? aa af)>>=fun ah=>(at? aa ae)>>=fun ai=>(at? (aa.set ae.toNat ah) af)>>=fun aj=>Zh.l0 a1 ((aa.set ae.toNat ah).set af.toNat ai) (i64.wrap (ae+1)) (i64.wrap (af-1)))
partial_fixpoint
def Zh.f (a0:List Z5) (a1 a2 a3:Int):Option (Int×(List Z5)):=(at? a0 a3)>>=fun aa=>(at? a0 a1)>>=fun ab=>(at? (a0.set a1.toNat aa) a3)>>=fun ac=>(Zh.l0 a1 ((a0.set a1.toNat aa).set a3.toNat ab) (i64.wrap (a1+1)) (i64.wrap (a2-1)))>>=fun | (ae,af)=>(some (ae,af))
theorem Zh.ok (a0:List Z5) (a1 a2 a3:Int):FN 136 [.own 0,qi a1,qi a2,qi a3,.im (qf 29)] [q4 0 a0] 1 (Zh.f a0 a1 a2 a3) (fun r=>qi r.1) (fun r=>[q4 0 r.2]):=FT [0] func136 (.r0<|.el fun aa ab ac=>.el fun ae af ah=>.el fun ai aj ak=>.rg [(6,hX Z3 ab ac),(7,hL Z3 ac),(10,hX Z3 af ah),(11,hL Z3 ah),(12,hX Z3 af ah),(13,hS Z3 aa 0 [iI .i64 aa.f0.f0,iI .i64 aa.f0.f1,iI .i64 aa.f0.f2,.row (aa.f1.map Z0)] ah),(14,hX Z3 aj ak),(15,hS Z3 ae 0 [iI .i64 ae.f0.f0,iI .i64 ae.f0.f1,iI .i64 ae.f0.f2,.row (ae.f1.map Z0)] ak)]<|.r0<|.bl<|.lq (.c3 (Zh.l0.partial_correctness a1)) ((a0.set (Int.toNat (a1)) aa).set (Int.toNat (a3)) ae,i64.wrap (a1+1),i64.wrap (a2-1)) [(0,0)] (fun _=>.pr fun al=>.pr fun am=>.one (fun an=>⟨[(0,.own 0),(1,qi a1),(4,.im (qf 29)),(11,qi am),(12,qi an)],[q4 0 al],1⟩) fun an=>.bl<|.bl<|.lq (.one (Zh.l1.partial_correctness a1 al an)) am [(0,0)] (fun _=>.one (fun ao=>⟨[(0,.own 0),(1,qi a1),(4,.im (qf 29)),(11,qi ao),(12,qi an)],[q4 0 al],1⟩) fun ao=>.join (.sp (fun aq=>.el fun ar au av=>.el fun aw ax ay=>.bd fun az a8=>.rg [(3,hB aq),(7,hX Z3 au av),(8,hL Z3 av),(11,hX Z3 ax ay),(12,hL Z3 ay),(13,qh call29 (Z0l.ok ar aw az a8))]<|.o [(0,0)])
 (fun aq=>.rg [(3,hB aq)]<|.o [(0,0)]))
 (.st .normal (fun a9=>⟨[(0,.own 0),(1,qi a1),(4,.im (qf 29)),(11,qi ao),(12,qi an),(47,bV a9)],[q4 0 al],1⟩) fun a9=>.cd (fun ba=>.bl<|.r0<|.bk [(0,0)] rfl)
 (fun ba=>.o [(0,0)])))
 (.st (.exit 2) (fun bb=>⟨[(0,.own 0),(1,qi a1),(4,.im (qf 29)),(11,qi bb),(12,qi an)],[q4 0 al],1⟩) fun bb=>.bl<|.lq (.one (Zh.l2.partial_correctness a1 al bb)) an [(0,0)] (fun _=>.one (fun bc=>⟨[(0,.own 0),(1,qi a1),(4,.im (qf 29)),(11,qi bb),(12,qi bc)],[q4 0 al],1⟩) fun bc=>.join (.sp (fun be=>.el fun bf bg bh=>.el fun bi bj bn=>.bd fun bo bp=>.rg [(3,hB be),(7,hX Z3 bg bh),(8,hL Z3 bh),(11,hX Z3 bj bn),(12,hL Z3 bn),(13,qh call29 (Z0l.ok bf bi bo bp))]<|.o [(0,0)])
 (fun be=>.rg [(3,hB be)]<|.o [(0,0)]))
 (.st .normal (fun bq=>⟨[(0,.own 0),(1,qi a1),(4,.im (qf 29)),(11,qi bb),(12,qi bc),(65,bV bq)],[q4 0 al],1⟩) fun bq=>.cd (fun br=>.bl<|.r0<|.bk [(0,0)] rfl)
 (fun br=>.o [(0,0)])))
 (.st (.exit 4) (fun bu=>⟨[(0,.own 0),(1,qi a1),(4,.im (qf 29)),(11,qi bb),(12,qi bu)],[q4 0 al],1⟩) fun bu=>.r0<|.cd (fun bv=>.o [(0,0)])
 (fun bv=>.el fun bw bx bz=>.el fun ca cb cc=>.el fun ce cf cj=>.rg [(6,hX Z3 bx bz),(7,hL Z3 bz),(10,hX Z3 cb cc),(11,hL Z3 cc),(12,hX Z3 cb cc),(13,hS Z3 bw 0 [iI .i64 bw.f0.f0,iI .i64 bw.f0.f1,iI .i64 bw.f0.f2,.row (bw.f1.map Z0)] cc),(14,hX Z3 cf cj),(15,hS Z3 ca 0 [iI .i64 ca.f0.f0,iI .i64 ca.f0.f1,iI .i64 ca.f0.f2,.row (ca.f1.map Z0)] cj)]<|.r0<|.r0<|.bk [(0,0)] rfl))))
 (.pr fun cm=>.st (.exit 0) (fun cn=>⟨[(11,qi cm)],[q4 0 cn],1⟩) fun cn=>.r0<|.ru [(0,0)] ⟨[(10,qi cm)],[q4 0 cn],1⟩))
def Za.l0 (a0:List Z5) (a1 a2 a3:Int) (aa ab:Z5) (ac:Int):Option Int:=((if decide (ac≤(i64.wrap (a2-1))) then((at? ((a0.set a1.toNat aa).set a3.toNat ab) ac)>>=fun ae=>(at? ((a0.set a1.toNat aa).set a3.toNat ab) a1)>>=fun af=>(Z0l.f ae af)>>=fun ah=>some (decide (ah<0))) else(some false)):Option Bool)>>=fun ai=>if ai=true then(Za.l0 a0 a1 a2 a3 aa ab (i64.wrap (ac+1))) else(some ac)
partial_fixpoint
def Za.l1 (a0:List Z5) (a1 a3:Int) (aa ab:Z5) (ac ae:Int):Option Int:=((if decide (ac≤ae) then((at? ((a0.set a1.toNat aa).set a3.toNat ab) ae)>>=fun af=>(at? ((a0.set a1.toNat aa).set a3.toNat ab) a1)>>=fun ah=>(Z0l.f af ah)>>=fun ai=>some (!(decide (ai<0)))) else(some false)):Option Bool)>>=fun aj=>if aj=true then(Za.l1 a0 a1 a3 aa ab ac (i64.wrap (ae-1))) else(some ae)
partial_fixpoint
def Za.l3 (a1:Int) (aa:List Z5) (ab ac:Int):Option Int:=((if decide (ac≤ab) then((at? aa ac)>>=fun ae=>(at? aa a1)>>=fun af=>(Z0l.f ae af)>>=fun ah=>some (decide (ah<0))) else(some false)):Option Bool)>>=fun ai=>if ai=true then(Za.l3 a1 aa ab (i64.wrap (ac+1))) else(some ac)
partial_fixpoint
def Za.l4 (a1:Int) (aa:List Z5) (ab ac:Int):Option Int:=((if decide (ab≤ac) then((at? aa ac)>>=fun ae=>(at? aa a1)>>=fun af=>(Z0l.f ae af)>>=fun ah=>some (!(decide (ah<0)))) else(some false)):Option Bool)>>=fun ai=>if ai=true then(Za.l4 a1 aa ab (i64.wrap (ac-1))) else(some ac)
partial_fixpoint
def Za.l2 (a1:Int) (aa:List Z5) (ab ac:Int):Option ((List Z5)×Int):=(Za.l3 a1 aa ac ab)>>=fun ae=>(Za.l4 a1 aa ae ac)>>=fun af=>if decide (ae>af) then(some (aa,af)) else((at? aa af)>>=fun ah=>(at? aa ae)>>=fun ai=>(at? (aa.set ae.toNat ah) af)>>=fun aj=>Za.l2 a1 ((aa.set ae.toNat ah).set af.toNat ai) (i64.wrap (ae+1)) (i64.wrap (af-1)))
partial_fixpoint
def Za.f (a0:List Z5) (a1 a2 a3:Int):Option (Int×Bool×(List Z5)):=(at? a0 a3)>>=fun aa=>(at? a0 a1)>>=fun ab=>(at? (a0.set a1.toNat aa) a3)>>=fun ac=>(Za.l0 a0 a1 a2 a3 aa ab (i64.wrap (a1+1)))>>=fun ae=>(Za.l1 a0 a1 a3 aa ab ae (i64.wrap (a2-1)))>>=fun af=>if decide (ae>af) then((at? ((a0.set a1.toNat aa).set a3.toNat ab) a1)>>=fun ah=>(at? ((a0.set a1.toNat aa).set a3.toNat ab) af)>>=fun ai=>(at? (((a0.set a1.toNat aa).set a3.toNat ab).set af.toNat ah) a1)>>=fun aj=>some (af,true,(((a0.set a1.toNat aa).set a3.toNat ab).set af.toNat ah).set a1.toNat ai)) else((at? ((a0.set a1.toNat aa).set a3.toNat ab) af)>>=fun ak=>(at? ((a0.set a1.toNat aa).set a3.toNat ab) ae)>>=fun al=>(at? (((a0.set a1.toNat aa).set a3.toNat ab).set ae.toNat ak) af)>>=fun am=>(Za.l2 a1 ((((a0.set a1.toNat aa).set a3.toNat ab).set ae.toNat ak).set af.toNat al) (i64.wrap (ae+1)) (i64.wrap (af-1)))>>=fun | (an,ao)=>((at? an a1)>>=fun aq=>(at? an ao)>>=fun ar=>(at? (an.set ao.toNat aq) a1)>>=fun au=>some (ao,false,(an.set ao.toNat aq).set a1.toNat ar)))
theorem Za.ok (a0:List Z5) (a1 a2 a3:Int):FN 137 [.own 0,qi a1,qi a2,qi a3,.im (qf 29)] [q4 0 a0] 1 (Za.f a0 a1 a2 a3) (fun r=>.tup [qi r.1,bV r.2.1]) (fun r=>[q4 0 r.2.2]):=FT [0] func137 (.r0<|.el fun aa ab ac=>.el fun ae af ah=>.el fun ai aj ak=>.rg [(6,hX Z3 ab ac),(7,hL Z3 ac),(10,hX Z3 af ah),(11,hL Z3 ah),(12,hX Z3 af ah),(13,hS Z3 aa 0 [iI .i64 aa.f0.f0,iI .i64 aa.f0.f1,iI .i64 aa.f0.f2,.row (aa.f1.map Z0)] ah),(14,hX Z3 aj ak),(15,hS Z3 ae 0 [iI .i64 ae.f0.f0,iI .i64 ae.f0.f1,iI .i64 ae.f0.f2,.row (ae.f1.map Z0)] ak)]<|.r0<|.bl<|.lq (.one (Za.l0.partial_correctness a0 a1 a2 a3 aa ae)) (i64.wrap (a1+1)) [(0,0)] (fun _=>.one (fun al=>⟨[(0,.own 0),(1,qi a1),(4,.im (qf 29)),(12,qi al),(13,qi (i64.wrap (a2-1)))],[q4 0 ((a0.set (Int.toNat (a1)) aa).set (Int.toNat (a3)) ae)],1⟩) fun al=>.join (.sp (fun am=>.el fun an ao aq=>.el fun ar au av=>.bd fun aw ax=>.rg [(3,hB am),(7,hX Z3 ao aq),(8,hL Z3 aq),(11,hX Z3 au av),(12,hL Z3 av),(13,qh call29 (Z0l.ok an ar aw ax))]<|.o [(0,0)])
 (fun am=>.rg [(3,hB am)]<|.o [(0,0)]))
 (.st .normal (fun ay=>⟨[(0,.own 0),(1,qi a1),(4,.im (qf 29)),(12,qi al),(13,qi (i64.wrap (a2-1))),(47,bV ay)],[q4 0 ((a0.set (Int.toNat (a1)) aa).set (Int.toNat (a3)) ae)],1⟩) fun ay=>.cd (fun az=>.bl<|.r0<|.bk [(0,0)] rfl)
 (fun az=>.o [(0,0)])))
 (.st (.exit 0) (fun a8=>⟨[(0,.own 0),(1,qi a1),(4,.im (qf 29)),(12,qi a8),(13,qi (i64.wrap (a2-1)))],[q4 0 ((a0.set (Int.toNat (a1)) aa).set (Int.toNat (a3)) ae)],1⟩) fun a8=>.bl<|.lq (.one (Za.l1.partial_correctness a0 a1 a3 aa ae a8)) (i64.wrap (a2-1)) [(0,0)] (fun _=>.one (fun a9=>⟨[(0,.own 0),(1,qi a1),(4,.im (qf 29)),(12,qi a8),(13,qi a9)],[q4 0 ((a0.set (Int.toNat (a1)) aa).set (Int.toNat (a3)) ae)],1⟩) fun a9=>.join (.sp (fun ba=>.el fun bb bc be=>.el fun bf bg bh=>.bd fun bi bj=>.rg [(3,hB ba),(7,hX Z3 bc be),(8,hL Z3 be),(11,hX Z3 bg bh),(12,hL Z3 bh),(13,qh call29 (Z0l.ok bb bf bi bj))]<|.o [(0,0)])
 (fun ba=>.rg [(3,hB ba)]<|.o [(0,0)]))
 (.st .normal (fun bn=>⟨[(0,.own 0),(1,qi a1),(4,.im (qf 29)),(12,qi a8),(13,qi a9),(66,bV bn)],[q4 0 ((a0.set (Int.toNat (a1)) aa).set (Int.toNat (a3)) ae)],1⟩) fun bn=>.cd (fun bo=>.bl<|.r0<|.bk [(0,0)] rfl)
 (fun bo=>.o [(0,0)])))
 (.st (.exit 2) (fun bp=>⟨[(0,.own 0),(1,qi a1),(4,.im (qf 29)),(12,qi a8),(13,qi bp)],[q4 0 ((a0.set (Int.toNat (a1)) aa).set (Int.toNat (a3)) ae)],1⟩) fun bp=>.r0<|.cd (fun bq=>.el fun br bu bv=>.el fun bw bx bz=>.el fun ca cb cc=>.rg [(6,hX Z3 bu bv),(7,hL Z3 bv),(10,hX Z3 bx bz),(11,hL Z3 bz),(12,hX Z3 bx bz),(13,hS Z3 br 0 [iI .i64 br.f0.f0,iI .i64 br.f0.f1,iI .i64 br.f0.f2,.row (br.f1.map Z0)] bz),(14,hX Z3 cb cc),(15,hS Z3 bw 0 [iI .i64 bw.f0.f0,iI .i64 bw.f0.f1,iI .i64 bw.f0.f2,.row (bw.f1.map Z0)] cc)]<|.r0<|.ru [(0,0)] ⟨[(10,qi bp),(11,bV true)],[q4 0 ((((a0.set (Int.toNat (a1)) aa).set (Int.toNat (a3)) ae).set (Int.toNat (bp)) br).set (Int.toNat (a1)) bw)],1⟩)
 (fun bq=>.el fun ce cf cj=>.el fun cm cn co=>.el fun cp cq cr=>.rg [(6,hX Z3 cf cj),(7,hL Z3 cj),(10,hX Z3 cn co),(11,hL Z3 co),(12,hX Z3 cn co),(13,hS Z3 ce 0 [iI .i64 ce.f0.f0,iI .i64 ce.f0.f1,iI .i64 ce.f0.f2,.row (ce.f1.map Z0)] co),(14,hX Z3 cq cr),(15,hS Z3 cm 0 [iI .i64 cm.f0.f0,iI .i64 cm.f0.f1,iI .i64 cm.f0.f2,.row (cm.f1.map Z0)] cr)]<|.r0<|.r0<|.bl<|.lq (.c3 (Za.l2.partial_correctness a1)) ((((a0.set (Int.toNat (a1)) aa).set (Int.toNat (a3)) ae).set (Int.toNat (a8)) ce).set (Int.toNat (bp)) cm,i64.wrap (a8+1),i64.wrap (bp-1)) [(0,0)] (fun _=>.pr fun ct=>.pr fun cu=>.one (fun cw=>⟨[(0,.own 0),(1,qi a1),(4,.im (qf 29)),(12,qi cu),(13,qi cw)],[q4 0 ct],1⟩) fun cw=>.bl<|.bl<|.lq (.one (Za.l3.partial_correctness a1 ct cw)) cu [(0,0)] (fun _=>.one (fun cx=>⟨[(0,.own 0),(1,qi a1),(4,.im (qf 29)),(12,qi cx),(13,qi cw)],[q4 0 ct],1⟩) fun cx=>.join (.sp (fun cy=>.el fun cz c8 c9=>.el fun da db dc=>.bd fun dd de=>.rg [(3,hB cy),(7,hX Z3 c8 c9),(8,hL Z3 c9),(11,hX Z3 db dc),(12,hL Z3 dc),(13,qh call29 (Z0l.ok cz da dd de))]<|.o [(0,0)])
 (fun cy=>.rg [(3,hB cy)]<|.o [(0,0)]))
 (.st .normal (fun df=>⟨[(0,.own 0),(1,qi a1),(4,.im (qf 29)),(12,qi cx),(13,qi cw),(120,bV df)],[q4 0 ct],1⟩) fun df=>.cd (fun dg=>.bl<|.r0<|.bk [(0,0)] rfl)
 (fun dg=>.o [(0,0)])))
 (.st (.exit 6) (fun dh=>⟨[(0,.own 0),(1,qi a1),(4,.im (qf 29)),(12,qi dh),(13,qi cw)],[q4 0 ct],1⟩) fun dh=>.bl<|.lq (.one (Za.l4.partial_correctness a1 ct dh)) cw [(0,0)] (fun _=>.one (fun di=>⟨[(0,.own 0),(1,qi a1),(4,.im (qf 29)),(12,qi dh),(13,qi di)],[q4 0 ct],1⟩) fun di=>.join (.sp (fun dj=>.el fun dk dm dn=>.el fun dp dq dr=>.bd fun dt du=>.rg [(3,hB dj),(7,hX Z3 dm dn),(8,hL Z3 dn),(11,hX Z3 dq dr),(12,hL Z3 dr),(13,qh call29 (Z0l.ok dk dp dt du))]<|.o [(0,0)])
 (fun dj=>.rg [(3,hB dj)]<|.o [(0,0)]))
 (.st .normal (fun dv=>⟨[(0,.own 0),(1,qi a1),(4,.im (qf 29)),(12,qi dh),(13,qi di),(139,bV dv)],[q4 0 ct],1⟩) fun dv=>.cd (fun dw=>.bl<|.r0<|.bk [(0,0)] rfl)
 (fun dw=>.o [(0,0)])))
 (.st (.exit 8) (fun dx=>⟨[(0,.own 0),(1,qi a1),(4,.im (qf 29)),(12,qi dh),(13,qi dx)],[q4 0 ct],1⟩) fun dx=>.r0<|.cd (fun dy=>.o [(0,0)])
 (fun dy=>.el fun dz d5 d6=>.el fun d7 d8 d9=>.el fun ea ed ee=>.rg [(6,hX Z3 d5 d6),(7,hL Z3 d6),(10,hX Z3 d8 d9),(11,hL Z3 d9),(12,hX Z3 d8 d9),(13,hS Z3 dz 0 [iI .i64 dz.f0.f0,iI .i64 dz.f0.f1,iI .i64 dz.f0.f2,.row (dz.f1.map Z0)] d9),(14,hX Z3 ed ee),(15,hS Z3 d7 0 [iI .i64 d7.f0.f0,iI .i64 d7.f0.f1,iI .i64 d7.f0.f2,.row (d7.f1.map Z0)] ee)]<|.r0<|.r0<|.bk [(0,0)] rfl))))
 (.pr fun ef=>.st (.exit 4) (fun eg=>⟨[(0,.own 0),(1,qi a1),(13,qi eg)],[q4 0 ef],1⟩) fun eg=>.el fun eh ei em=>.el fun eo ep eq=>.el fun eu ev ew=>.rg [(6,hX Z3 ei em),(7,hL Z3 em),(10,hX Z3 ep eq),(11,hL Z3 eq),(12,hX Z3 ep eq),(13,hS Z3 eh 0 [iI .i64 eh.f0.f0,iI .i64 eh.f0.f1,iI .i64 eh.f0.f2,.row (eh.f1.map Z0)] eq),(14,hX Z3 ev ew),(15,hS Z3 eo 0 [iI .i64 eo.f0.f0,iI .i64 eo.f0.f1,iI .i64 eo.f0.f2,.row (eo.f1.map Z0)] ew)]<|.r0<|.ru [(0,0)] ⟨[(10,qi eg),(11,bV false)],[q4 0 ((ef.set (Int.toNat (eg)) eh).set (Int.toNat (a1)) eo)],1⟩)))))
def Z1j.f (a0:Int):Option Int:=(Z3k.f (u64.wrap (a0)))>>=fun aa=>(chk (0≤aa))>>=fun _=>some (u64.wrap ((1:Int)*2 ^ (min aa.toNat 64)))
theorem Z1j.ok (a0:Int):F0 190 [qi a0] (Z1j.f a0) (fun r=>qu r):=FT [] func190 (.r0<|.bd fun aa ab=>.ck fun ac=>.rg [(2,qh call77 (Z3k.ok (u64.wrap (a0)) aa ab)),(3,hN (p1 ac))]<|.rv ⟨[(2,qu (u64.wrap ((1:Int)*2 ^ (min (Int.toNat (aa)) 64))))],[],0⟩)
def Z1b.f (aa:Int):Option Unit:=some ()
abbrev v1_ (k:Nat) (x:List AVal):Nat×Option MObj:=BX 250 k x
theorem Z1b.ok (aa:Int):FN 191 [.ptr 0 0 0] [v1_ 0 [qu aa]] 1 (Z1b.f aa) (fun r=>qu (u64.wrap ((qx (u64.wrap ((qx (u64.wrap ((qx aa (u64.wrap (aa*8192))))) (Int.fdiv (u64.wrap ((qx aa (u64.wrap (aa*8192))))) 128)))) (u64.wrap ((u64.wrap ((qx (u64.wrap ((qx aa (u64.wrap (aa*8192))))) (Int.fdiv (u64.wrap ((qx aa (u64.wrap (aa*8192))))) 128))))*131072)))))) (fun r=>[v1_ 0 [qu (u64.wrap ((qx (u64.wrap ((qx (u64.wrap ((qx aa (u64.wrap (aa*8192))))) (Int.fdiv (u64.wrap ((qx aa (u64.wrap (aa*8192))))) 128)))) (u64.wrap ((u64.wrap ((qx (u64.wrap ((qx aa (u64.wrap (aa*8192))))) (Int.fdiv (u64.wrap ((qx aa (u64.wrap (aa*8192))))) 128))))*131072)))))]]):=FT [0] func191 (.r0<|.rg [(6,hK 13)]<|.rg [(6,hK 7)]<|.rg [(6,hK 17)]<|.r0<|.ru [(0,0)] ⟨[(2,qu (u64.wrap ((qx (u64.wrap ((qx (u64.wrap ((qx aa (u64.wrap (aa*8192))))) (Int.fdiv (u64.wrap ((qx aa (u64.wrap (aa*8192))))) 128)))) (u64.wrap ((u64.wrap ((qx (u64.wrap ((qx aa (u64.wrap (aa*8192))))) (Int.fdiv (u64.wrap ((qx aa (u64.wrap (aa*8192))))) 128))))*131072))))))],[v1_ 0 [qu (u64.wrap ((qx (u64.wrap ((qx (u64.wrap ((qx aa (u64.wrap (aa*8192))))) (Int.fdiv (u64.wrap ((qx aa (u64.wrap (aa*8192))))) 128)))) (u64.wrap ((u64.wrap ((qx (u64.wrap ((qx aa (u64.wrap (aa*8192))))) (Int.fdiv (u64.wrap ((qx aa (u64.wrap (aa*8192))))) 128))))*131072)))))]],1⟩)
def Z08.l0 (a1 a2 aa:Int) (ab:List Z5) (ac ae:Int):Option (List Z5):=if decide (ae≤(i64.wrap ((i64.wrap (a1+(i64.wrap ((i64.wrap (Int.tdiv (i64.wrap (a2-a1)) (4:Int)))*2))))+1))) then((Z1b.f ac)>>=fun af=>((if decide ((i64.wrap (u64.wrap (((BitVec.toNat (BitVec.ofInt 64 (u64.wrap (((BitVec.toNat (BitVec.ofInt 64 (u64.wrap (((BitVec.toNat (BitVec.ofInt 64 (u64.wrap (((BitVec.toNat (BitVec.ofInt 64 ac ^^^ BitVec.ofInt 64 (u64.wrap (ac*8192))):Nat):Int))) ^^^ BitVec.ofInt 64 (Int.fdiv (u64.wrap (((BitVec.toNat (BitVec.ofInt 64 ac ^^^ BitVec.ofInt 64 (u64.wrap (ac*8192))):Nat):Int))) 128)):Nat):Int))) ^^^ BitVec.ofInt 64 (u64.wrap ((u64.wrap (((BitVec.toNat (BitVec.ofInt 64 (u64.wrap (((BitVec.toNat (BitVec.ofInt 64 ac ^^^ BitVec.ofInt 64 (u64.wrap (ac*8192))):Nat):Int))) ^^^ BitVec.ofInt 64 (Int.fdiv (u64.wrap (((BitVec.toNat (BitVec.ofInt 64 ac ^^^ BitVec.ofInt 64 (u64.wrap (ac*8192))):Nat):Int))) 128)):Nat):Int)))*131072))):Nat):Int))) &&& BitVec.ofInt 64 (u64.wrap (aa-1))):Nat):Int))))≥(i64.wrap (a2-a1))) then(some (i64.wrap ((i64.wrap (u64.wrap (((BitVec.toNat (BitVec.ofInt 64 (u64.wrap (((BitVec.toNat (BitVec.ofInt 64 (u64.wrap (((BitVec.toNat (BitVec.ofInt 64 (u64.wrap (((BitVec.toNat (BitVec.ofInt 64 ac ^^^ BitVec.ofInt 64 (u64.wrap (ac*8192))):Nat):Int))) ^^^ BitVec.ofInt 64 (Int.fdiv (u64.wrap (((BitVec.toNat (BitVec.ofInt 64 ac ^^^ BitVec.ofInt 64 (u64.wrap (ac*8192))):Nat):Int))) 128)):Nat):Int))) ^^^ BitVec.ofInt 64 (u64.wrap ((u64.wrap (((BitVec.toNat (BitVec.ofInt 64 (u64.wrap (((BitVec.toNat (BitVec.ofInt 64 ac ^^^ BitVec.ofInt 64 (u64.wrap (ac*8192))):Nat):Int))) ^^^ BitVec.ofInt 64 (Int.fdiv (u64.wrap (((BitVec.toNat (BitVec.ofInt 64 ac ^^^ BitVec.ofInt 64 (u64.wrap (ac*8192))):Nat):Int))) 128)):Nat):Int)))*131072))):Nat):Int))) &&& BitVec.ofInt 64 (u64.wrap (aa-1))):Nat):Int))))-(i64.wrap (a2-a1))))) else(some (i64.wrap (u64.wrap (((BitVec.toNat (BitVec.ofInt 64 (u64.wrap (((BitVec.toNat (BitVec.ofInt 64 (u64.wrap (((BitVec.toNat (BitVec.ofInt 64 (u64.wrap (((BitVec.toNat (BitVec.ofInt 64 ac ^^^ BitVec.ofInt 64 (u64.wrap (ac*8192))):Nat):Int))) ^^^ BitVec.ofInt 64 (Int.fdiv (u64.wrap (((BitVec.toNat (BitVec.ofInt 64 ac ^^^ BitVec.ofInt 64 (u64.wrap (ac*8192))):Nat):Int))) 128)):Nat):Int))) ^^^ BitVec.ofInt 64 (u64.wrap ((u64.wrap (((BitVec.toNat (BitVec.ofInt 64 (u64.wrap (((BitVec.toNat (BitVec.ofInt 64 ac ^^^ BitVec.ofInt 64 (u64.wrap (ac*8192))):Nat):Int))) ^^^ BitVec.ofInt 64 (Int.fdiv (u64.wrap (((BitVec.toNat (BitVec.ofInt 64 ac ^^^ BitVec.ofInt 64 (u64.wrap (ac*8192))):Nat):Int))) 128)):Nat):Int)))*131072))):Nat):Int))) &&& BitVec.ofInt 64 (u64.wrap (aa-1))):Nat):Int)))))):Option Int)>>=fun ah=>(at? ab (i64.wrap (a1+ah)))>>=fun ai=>(at? ab ae)>>=fun aj=>(at? (ab.set ae.toNat ai) (i64.wrap (a1+ah)))>>=fun ak=>Z08.l0 a1 a2 aa ((ab.set ae.toNat ai).set (i64.wrap (a1+ah)).toNat aj) (u64.wrap (((BitVec.toNat (BitVec.ofInt 64 (u64.wrap (((BitVec.toNat (BitVec.ofInt 64 (u64.wrap (((BitVec.toNat (BitVec.ofInt 64 ac ^^^ BitVec.ofInt 64 (u64.wrap (ac*8192))):Nat):Int))) ^^^ BitVec.ofInt 64 (Int.fdiv (u64.wrap (((BitVec.toNat (BitVec.ofInt 64 ac ^^^ BitVec.ofInt 64 (u64.wrap (ac*8192))):Nat):Int))) 128)):Nat):Int))) ^^^ BitVec.ofInt 64 (u64.wrap ((u64.wrap (((BitVec.toNat (BitVec.ofInt 64 (u64.wrap (((BitVec.toNat (BitVec.ofInt 64 ac ^^^ BitVec.ofInt 64 (u64.wrap (ac*8192))):Nat):Int))) ^^^ BitVec.ofInt 64 (Int.fdiv (u64.wrap (((BitVec.toNat (BitVec.ofInt 64 ac ^^^ BitVec.ofInt 64 (u64.wrap (ac*8192))):Nat):Int))) 128)):Nat):Int)))*131072))):Nat):Int))) (i64.wrap (ae+1))) else(some ab)
partial_fixpoint
def Z08.f (a0:List Z5) (a1 a2:Int):Option (List Z5):=((if decide ((i64.wrap (a2-a1))≥8) then((Z1j.f (i64.wrap (a2-a1)))>>=fun aa=>(Z08.l0 a1 a2 aa a0 (u64.wrap (i64.wrap (a2-a1))) (i64.wrap ((i64.wrap (a1+(i64.wrap ((i64.wrap (Int.tdiv (i64.wrap (a2-a1)) (4:Int)))*2))))-1)))>>=fun ab=>some ab) else(some a0)):Option (List Z5))>>=fun ac=>some ac
theorem Z08.ok (a0:List Z5) (a1 a2:Int):FN 132 [.own 0,qi a1,qi a2,.im (qf 29)] [q4 0 a0] 1 (Z08.f a0 a1 a2) (fun r=>.tup []) (fun r=>[q4 0 r]):=FT [0] func132 (.r0<|.r0<|.join (.cd (fun aa=>.rg [(2,⟨.k 1,.n⟩)]<|.bd fun ab ac=>.rg [(1,qh call190 (Z1j.ok (i64.wrap (a2-a1)) ab ac))]<|.rg [(2,hJ 4)]<|.bl<|.lq (.c3 (Z08.l0.partial_correctness a1 a2 ab)) (a0,u64.wrap (i64.wrap (a2-a1)),i64.wrap ((i64.wrap (a1+(i64.wrap ((i64.wrap (Int.tdiv (i64.wrap (a2-a1)) (4:Int)))*2))))-1)) [(0,0),(1,3)] (fun _=>.pr fun ae=>.pr fun af=>.one (fun ah=>⟨[(0,.own 0),(1,qi a1),(8,qi (i64.wrap (a2-a1))),(9,.ptr 3 0 0),(10,qu ab),(11,qi ah)],[q4 0 ae,v1_ 3 [qu af]],1⟩) fun ah=>.rg [(3,hJ 4)]<|.cd (fun ai=>.bl<|.bd fun aj ak=>.rg [(0,hC [(3,0)] [(0,3)] [] [] call191 (Z1b.ok af aj ak))]<|.r0<|.join (.cd (fun al=>.r0<|.o [(0,0),(3,4)])
 (fun al=>.o [(0,0),(3,4)]))
 (.st .normal (fun am=>⟨[(0,.own 0),(1,qi a1),(8,qi (i64.wrap (a2-a1))),(9,.ptr 4 0 0),(10,qu ab),(11,qi ah),(12,qi am)],[q4 0 ae,v1_ 4 [qu (u64.wrap ((qx (u64.wrap ((qx (u64.wrap ((qx af (u64.wrap (af*8192))))) (Int.fdiv (u64.wrap ((qx af (u64.wrap (af*8192))))) 128)))) (u64.wrap ((u64.wrap ((qx (u64.wrap ((qx af (u64.wrap (af*8192))))) (Int.fdiv (u64.wrap ((qx af (u64.wrap (af*8192))))) 128))))*131072)))))]],1⟩) fun am=>.el fun an ao aq=>.el fun ar au av=>.el fun aw ax ay=>.rg [(10,hX Z3 ao aq),(11,hL Z3 aq),(14,hX Z3 au av),(15,hL Z3 av),(16,hX Z3 au av),(17,hS Z3 an 0 [iI .i64 an.f0.f0,iI .i64 an.f0.f1,iI .i64 an.f0.f2,.row (an.f1.map Z0)] av),(18,hX Z3 ax ay),(19,hS Z3 ar 0 [iI .i64 ar.f0.f0,iI .i64 ar.f0.f1,iI .i64 ar.f0.f2,.row (ar.f1.map Z0)] ay)]<|.r0<|.bk [(0,0),(4,3)] rfl))
 (fun ai=>.o [(0,0)]))
 (.st (.exit 0) (fun az=>⟨[],[q4 0 az],1⟩) fun az=>.o [(0,0)]))
 (fun aa=>.o [(0,0)]))
 (.st .normal (fun a8=>⟨[],[q4 0 a8],1⟩) fun a8=>.ru [(0,0)] ⟨[],[q4 0 a8],1⟩))
def Zl.l0 (self:(List Z5)→Int→Int→Int→Option (List Z5)) (aa:List Z5) (ab ac ae:Int) (af ah:Bool):Option (List Z5):=((if decide ((i64.wrap (ac-ab))≤12) then((Zq.f aa ab ac)>>=fun ai=>some (.inl ai)) else(if ae==0 then((Zv.f aa ab ac)>>=fun aj=>some (.inl aj)) else(((if !af then((Z08.f aa ab ac)>>=fun ak=>some (ak,i64.wrap (ae-1))) else(some (aa,ae))):Option ((List Z5)×Int))>>=fun | (al,am)=>((Z11.f al ab ac)>>=fun an=>((if an.2==2 then((Z09.f al ab ac)>>=fun ao=>some (ao,i64.wrap ((i64.wrap (ac-1))-(i64.wrap (an.1-ab))),1)) else(some (al,an.1,an.2))):Option ((List Z5)×Int×Int))>>=fun | (aq,ar,au)=>(((if af=true then(if ah=true then(some (au==1)) else(some false)) else(some false)):Option Bool)>>=fun av=>((if av=true then((Z8.f aq ab ac)>>=fun aw=>if aw.1=true then(some (.inl aw.2)) else(some (.inr aw.2))) else(some (.inr aq))):Option ((List Z5) ⊕ (List Z5)))>>=fun | .inl rr=>(some (.inl rr)) | .inr ax=>(((if decide (ab>0) then((at? ax (i64.wrap (ab-1)))>>=fun ay=>(at? ax ar)>>=fun az=>(Z0l.f ay az)>>=fun a8=>some (!(decide (a8<0)))) else(some false)):Option Bool)>>=fun a9=>if a9=true then((Zh.f ax ab ac ar)>>=fun ba=>some (.inr (ba.2,ba.1,ac,am,af,ah))) else((Za.f ax ab ac ar)>>=fun bb=>((if decide ((i64.wrap (bb.1-ab))<(i64.wrap (ac-bb.1))) then((self bb.2.2 ab bb.1 am)>>=fun bc=>some (bc,i64.wrap (bb.1+1),ac,(decide ((i64.wrap (bb.1-ab))≥(i64.wrap (Int.tdiv (i64.wrap (ac-ab)) (8:Int))))))) else((self bb.2.2 (i64.wrap (bb.1+1)) ac am)>>=fun be=>some (be,ab,bb.1,(decide ((i64.wrap (ac-bb.1))≥(i64.wrap (Int.tdiv (i64.wrap (ac-ab)) (8:Int)))))))):Option ((List Z5)×Int×Int×Bool))>>=fun | (bf,bg,bh,bi)=>(some (.inr (bf,bg,bh,am,bi,bb.2.1)))))))))):Option ((List Z5) ⊕ ((List Z5)×Int×Int×Int×Bool×Bool)))>>=fun | .inl rr=>(some rr) | .inr (bj,bn,bo,bp,bq,br)=>(Zl.l0 self bj bn bo bp bq br)
partial_fixpoint
def Zl.fu:Nat→(List Z5)→Int→Int→Int→Option (List Z5)
 | 0,_,_,_,_=>none
 | k+1,a0,a1,a2,a3=>(Zl.l0 (Zl.fu k) a0 a1 a2 a3 true true)>>=fun rr=>some rr
def Zl.f (a0:List Z5) (a1 a2 a3:Int):Option (List Z5):=Zl.fu 100 a0 a1 a2 a3
theorem Zl.oku (k:Nat) (a0:List Z5) (a1 a2 a3:Int) (r:List Z5) (H:Zl.fu k a0 a1 a2 a3=some r):Pv.Fn Tryz.prog 76 [.own 0,qi a1,qi a2,qi a3,.im (qf 29)] [q4 0 a0] 1 (fun x o=>x = .tup []∧o=[q4 0 r]):=by
 induction k generalizing a0 a1 a2 a3 r with
 | zero=>simp[Zl.fu] at H
 | succ k ihF =>
 rw[Zl.fu] at H;exact HT.fn H (fun r=>.tup []) (fun r=>[q4 0 r]) [0] func76 rfl rfl hmx (.r0<|.r0<|.bl<|.loop (.c6 (Zl.l0.partial_correctness (Zl.fu k))) (a0,a1,a2,a3,true,true) [(0,0)] [] [] (fun _=>.pr fun aa=>.pr fun ab=>.pr fun ac=>.pr fun ae=>.pr fun af=>.one (fun ah=>⟨[(0,.own 0),(1,qi ab),(2,qi ac),(3,qi ae),(4,.im (qf 29)),(10,bV af),(11,bV ah)],[q4 0 aa],1⟩) fun ah=>.join (.bl<|.r0<|.r0<|.cd (fun ai=>.bd fun aj ak=>.rg [(4,jA call130 (Zq.ok aa ab ac aj ak))]<|.ru [(0,0)] ⟨[],[q4 0 aj],1⟩)
 (fun ai=>.r0<|.cd (fun al=>.bd fun am an=>.rg [(4,jA call131 (Zv.ok aa ab ac am an))]<|.ru [(0,0)] ⟨[],[q4 0 am],1⟩)
 (fun al=>.r0<|.join (.cd (fun ao=>.bd fun aq ar=>.rg [(4,jA call132 (Z08.ok aa ab ac aq ar))]<|.r0<|.o [(0,0)])
 (fun ao=>.o [(0,0)]))
 (.pr fun au=>.st .normal (fun av=>⟨[(0,.own 0),(1,qi ab),(2,qi ac),(3,qi av),(4,.im (qf 29)),(10,bV af),(11,bV ah),(12,qi (i64.wrap (ac-ab)))],[q4 0 au],1⟩) fun av=>.bd fun aw ax=>.rg [(4,jA call133 (Z11.ok au ab ac aw ax))]<|.r0<|.join (.cd (fun ay=>.bd fun az a8=>.rg [(4,jA call134 (Z09.ok au ab ac az a8))]<|.r0<|.r0<|.o [(0,0)])
 (fun ay=>.o [(0,0)]))
 (.pr fun a9=>.pr fun ba=>.st .normal (fun bb=>⟨[(0,.own 0),(1,qi ab),(2,qi ac),(3,qi av),(4,.im (qf 29)),(10,bV af),(11,bV ah),(12,qi (i64.wrap (ac-ab))),(13,qi ba),(14,qi bb)],[q4 0 a9],1⟩) fun bb=>.join (.sp (fun bc=>.sp (fun be=>.rg [(1,hB bc),(4,hB be)]<|.o [(0,0)])
 (fun be=>.rg [(1,hB bc),(4,hB be)]<|.o [(0,0)]))
 (fun bc=>.rg [(1,hB bc)]<|.o [(0,0)]))
 (.st .normal (fun bf=>⟨[(0,.own 0),(1,qi ab),(2,qi ac),(3,qi av),(4,.im (qf 29)),(10,bV af),(11,bV ah),(12,qi (i64.wrap (ac-ab))),(13,qi ba),(75,bV bf)],[q4 0 a9],1⟩) fun bf=>.join (.cd (fun bg=>.bd fun bh bi=>.rg [(4,jA call135 (Z8.ok a9 ab ac bh bi))]<|.cd (fun bj=>.ru [(0,0)] ⟨[],[q4 0 bh.2],1⟩)
 (fun bj=>.o [(0,0)]))
 (fun bg=>.o [(0,0)]))
 (.sm (.rt (fun rr=>.tup []) (fun rr=>[q4 0 rr]))
 (.st .normal (fun bn=>⟨[(0,.own 0),(1,qi ab),(2,qi ac),(3,qi av),(4,.im (qf 29)),(10,bV af),(11,bV ah),(12,qi (i64.wrap (ac-ab))),(13,qi ba)],[q4 0 bn],1⟩) fun bn=>.join (.sp (fun bo=>.el fun bp bq br=>.el fun bu bv bw=>.bd fun bx bz=>.rg [(2,hB bo),(7,hX Z3 bq br),(8,hL Z3 br),(11,hX Z3 bv bw),(12,hL Z3 bw),(13,qh call29 (Z0l.ok bp bu bx bz))]<|.o [(0,0)])
 (fun bo=>.rg [(2,hB bo)]<|.o [(0,0)]))
 (.st .normal (fun ca=>⟨[(0,.own 0),(1,qi ab),(2,qi ac),(3,qi av),(4,.im (qf 29)),(10,bV af),(11,bV ah),(12,qi (i64.wrap (ac-ab))),(13,qi ba),(97,bV ca)],[q4 0 bn],1⟩) fun ca=>.cd (fun cb=>.bd fun cc ce=>.rg [(5,jA call136 (Zh.ok bn ab ac ba cc ce))]<|.r0<|.o [(0,0)])
 (fun cb=>.bd fun cf cj=>.rg [(5,jA call137 (Za.ok bn ab ac ba cf cj))]<|.r0<|.r0<|.rg [(1,hJ 8)]<|.r0<|.join (.cd (fun cm=>.r0<|.bd fun cn co=>.rg [(5,jA call76 (ihF cf.2.2 ab cf.1 av _ co))]<|.r0<|.o [(0,0)])
 (fun cm=>.r0<|.bd fun cp cq=>.rg [(6,jA call76 (ihF cf.2.2 (i64.wrap (cf.1+1)) ac av _ cq))]<|.r0<|.o [(0,0)]))
 (.pr fun cr=>.pr fun ct=>.pr fun cu=>.st .normal (fun cw=>⟨[(0,.own 0),(1,qi ct),(2,qi cu),(3,qi av),(4,.im (qf 29)),(10,bV cw),(11,bV cf.2.1)],[q4 0 cr],1⟩) fun cw=>.o [(0,0)])))))))))))
 (.sm (.rt (fun rr=>.tup []) (fun rr=>[q4 0 rr]))
 (.pr fun cx=>.pr fun cy=>.pr fun cz=>.pr fun c8=>.pr fun c9=>.st .normal (fun da=>⟨[(0,.own 0),(1,qi cy),(2,qi cz),(3,qi c8),(4,.im (qf 29)),(10,bV c9),(11,bV da)],[q4 0 cx],1⟩) fun da=>.bk [(0,0)] rfl)))
 (.rt (fun rr=>.tup []) (fun rr=>[q4 0 rr])))
theorem Zl.ok (a0:List Z5) (a1 a2 a3:Int) (r:List Z5) (H:Zl.f a0 a1 a2 a3=some r):Pv.Fn Tryz.prog 76 [.own 0,qi a1,qi a2,qi a3,.im (qf 29)] [q4 0 a0] 1 (fun x o=>x = .tup []∧o=[q4 0 r]):=Zl.oku 100 a0 a1 a2 a3 r H
def Zz.f (a0:List Z5):Option (List Z5):=(Z3k.f (u64.wrap (a0.length:Int)))>>=fun aa=>(Zl.f a0 0 (a0.length:Int) aa)>>=fun ab=>some ab
theorem Zz.ok (a0:List Z5):FN 28 [.own 0,.im (qf 29)] [q4 0 a0] 1 (Zz.f a0) (fun r=>.tup []) (fun r=>[q4 0 r]):=FT [0] func28 (.rg [(1,hG Z3 a0)]<|.bd fun aa ab=>.bd fun ac ae=>.rg [(4,qh call77 (Z3k.ok (u64.wrap (ln a0)) aa ab)),(6,jA call76 (Zl.ok a0 0 (ln a0) aa ac ae))]<|.ru [(0,0)] ⟨[],[q4 0 ac],1⟩)
def Zf.add (bk:Z5) (k:ByteArray) (s:Zi):Option Z5:=match bk.f1.getLast? with
 | none=>some ⟨bk.f0,[⟨k,[s]⟩]⟩
 | some r=>(chk ((bk.f1.length+1)*40≤140737488355328))>>=fun _=>if r.f0.toList==k.toList then(chk ((r.f1.length+1)*104≤140737488355328))>>=fun _=>some ⟨bk.f0,bk.f1.dropLast++[⟨r.f0,r.f1++[s]⟩]⟩ else some ⟨bk.f0,bk.f1++[⟨k,[s]⟩]⟩
abbrev Zf.wd (a0:Int):Int:=i64.wrap ((64:Int)*2 ^ (min (Int.toNat (u64.wrap ((2:Int)*(u64.wrap ((if(if(4:Int)<a0 then(4:Int) else a0)>0 then(if(4:Int)<a0 then(4:Int) else a0) else(0:Int))))))) 64))
abbrev Zf.lo (a0 a1:Int):Int:=i64.wrap (a1-(Int.tmod a1 (i64.wrap ((64:Int)*2 ^ (min (Int.toNat (u64.wrap ((2:Int)*(u64.wrap ((if(if(4:Int)<a0 then(4:Int) else a0)>0 then(if(4:Int)<a0 then(4:Int) else a0) else(0:Int))))))) 64)))))
abbrev Zf.new (a0 lo:Int):Z5:=⟨⟨lo,i64.wrap (lo+Zf.wd a0),(if(if(4:Int)<a0 then(4:Int) else a0)>0 then(if(4:Int)<a0 then(4:Int) else a0) else(0:Int))⟩,[]⟩
def Zf.l1 (a0:Int) (b:Z2) (x1:List (Int×Z5)) (x2:Int):Option (List (Int×Z5)):=if decide (x2<(b.f1.length:Int)) then((at? b.f1 x2)>>=fun s=>(Z4j.f a0 s.f0)>>=fun _=>(Z2p.f a0)>>=fun _=>(Zf.add ((mget x1 (Zf.lo a0 s.f0)).getD (Zf.new a0 (Zf.lo a0 s.f0))) b.f0 s)>>=fun bk=>Zf.l1 a0 b (mput x1 (Zf.lo a0 s.f0) bk) (i64.wrap (x2+1))) else some x1
partial_fixpoint
def Zf.l0 (a0:Int) (a1:List (Z2)) (x1:List (Int×Z5)) (x2:Int):Option (List (Int×Z5)):=if decide (x2<(a1.length:Int)) then((at? a1 x2)>>=fun b=>(Zf.l1 a0 b x1 0)>>=fun y=>Zf.l0 a0 a1 y (i64.wrap (x2+1))) else some x1
partial_fixpoint
noncomputable def Zf.f (a0:Int) (a1:List (Z2)):Option (List (Z5)):=(Zf.l0 a0 a1 [] 0)>>=fun y=>(chk (y.length*48≤140737488355328))>>=fun _=>(rchk (fun(p:List (Int×Z5)) (_:Unit)=>Zz.f (p.map (·.2))) y ())>>=fun r=>some r
def Zf.obs (bk:Z5):List (Nat×MObj):=match bk.f1.getLast? with
 | none=>[(40,.box 36 [qi bk.f0.f0,qi bk.f0.f1,qi bk.f0.f2,.none0])]
 | some r=>[(40,.box 36 [qi bk.f0.f0,qi bk.f0.f1,qi bk.f0.f2,.own 41]),(41,.arow 2 30 (bk.f1.dropLast.map Z0) [[sV r.f0,.own 42]]),(42,.row 9 52 (r.f1.map Ze))]
theorem Zf.obs0 (m:Z2m):Zf.obs ⟨m,[]⟩=[(40,.box 36 [qi m.f0,qi m.f1,qi m.f2,.none0])]:=rfl
theorem Zf.obs1 (m:Z2m) (l:List (Z2)) (r:Z2):Zf.obs ⟨m,l++[r]⟩=[(40,.box 36 [qi m.f0,qi m.f1,qi m.f2,.own 41]),(41,.arow 2 30 (l.map Z0) [[sV r.f0,.own 42]]),(42,.row 9 52 (r.f1.map Ze))]:=by
 unfold Zf.obs;simp
theorem Zf.one (a0:Int):True:=trivial
abbrev q5:=@RW _ 9 52 Ze
set_option maxHeartbeats 400000 in
theorem Zf.ok (a0:Int) (a1:List (Z2)) (r:List (Z5)) (H:Zf.f a0 a1=some r):Pv.Fn Tryz.prog 9 [qi a0,.im (.row (a1.map Z0))] [] 0 (fun x o=>x = .own 0∧o=[q4 0 r]):=by
 unfold Zf.f at H;obtain⟨y,H0,H⟩:=Z40 H;obtain⟨d1,H⟩:=Z9d H;obtain⟨r',HS,H⟩:=Z40 H;obtain rfl:=sj H;refine Fn.bodyK [0] func9 rfl rfl (fun Γ hP hn => ?_);have hm:Tryz.prog.follows .mixedOrders=true:=by kernel_rfl
 replace hn:Γ.n=129:=hn;refine sO hP hn hm [] [] [0,1] [] [] ?_;refine sO hP hn hm [(0,.more (xMk 10))] [(5,.mown 10)] [0,1,5] [(10,some (.map (mE (vkI .i64) Im.sc [])))] [10] ?_;refine AWp.bag0 ?_;refine GWp.seq ?_;refine GWp.seq ?_;refine gR hP hn hm [(1,.any (qi (a1.length:Int)))] [(18,.im (.row (a1.map Z0))),(19,qi (a1.length:Int)),(20,qi 0)] [0,5,18,19,20] [] [10] [((a1.map Z0).length:Int)=(a1.length:Int)] ⟨by rw[Z4t],trivial⟩ ?_;refine GWp.block ?_;refine GWp.loopB (fun body0 hbody0 => ?_);have main0:∀ x1 x2 o,Zf.l0 a0 a1 x1 x2=some o→∀ (q:QL Int (Z5)) (Bs:List (List Nat)),qS q=x1→GLWp Γ body0 (fun e s g=>e = .exit 0∧∃ (q:QL Int (Z5)) (Bs:List (List Nat)),qS q=o∧s=⟨[(5,.mown 10)],[(10,some (.map (mE (vkI .i64) Im.sc (qM q))))],0⟩∧g=bag (qB (.ptr 40 0 0) Zf.obs q) Bs) ⟨[(0,qi a0),(5,.mown 10),(18,.im (.row (a1.map Z0))),(19,qi (a1.length:Int)),(20,qi x2)],[(10,some (.map (mE (vkI .i64) Im.sc (qM q))))],0⟩ (bag (qB (.ptr 40 0 0) Zf.obs q) Bs):=by
  intro x1 x2 o e1;refine Zf.l0.partial_correctness a0 a1 (motive:=fun x1 x2 o=>∀ (q:QL Int (Z5)) (Bs:List (List Nat)),qS q=x1→GLWp Γ body0 (fun e s g=>e = .exit 0∧∃ (q:QL Int (Z5)) (Bs:List (List Nat)),qS q=o∧s=⟨[(5,.mown 10)],[(10,some (.map (mE (vkI .i64) Im.sc (qM q))))],0⟩∧g=bag (qB (.ptr 40 0 0) Zf.obs q) Bs) ⟨[(0,qi a0),(5,.mown 10),(18,.im (.row (a1.map Z0))),(19,qi (a1.length:Int)),(20,qi x2)],[(10,some (.map (mE (vkI .i64) Im.sc (qM q))))],0⟩ (bag (qB (.ptr 40 0 0) Zf.obs q) Bs)) ?_ _ _ _ e1;clear H0 e1 o x1 x2;intro self ih x1 x2 o H q Bs hq;subst hbody0;refine GLWp.round ?_;refine gS hP hn hm [] [(21,bV (decide (x2<(a1.length:Int))))] [0,5,18,19,20,21] [] [10] [] trivial ?_;refine GWp.seq ?_;refine GWp.cond (decide (x2<(a1.length:Int))) (by kernel_rfl) (fun c1 => ?_) (fun c1 => ?_)
  ·replace H:=iT c1 H
   refine GWp.skip ?_;refine GWp.seq ?_;refine GWp.block ?_;obtain⟨b,p1,hq1,H⟩:=at_of H;obtain⟨y1,H1,H⟩:=Z40 H;refine gS hP hn hm [(0,.c (Z0 b)),(2,.k 30)] [(7,.ptr 30 0 0)] [0,5,7,18,19,20] [(30,some (.box 30 (Z2k b)))] [10,30] [_,_] ⟨p1,Zau Z0 hq1,trivial⟩ ?_;refine gS hP hn hm [(2,.any (qi (b.f1.length:Int)))] [(25,.im (.row (b.f1.map Ze))),(26,qi (b.f1.length:Int)),(27,qi 0)] [0,5,7,18,19,20,25,26,27] [] [10,30] [((b.f1.map Ze).length:Int)=(b.f1.length:Int)] ⟨by rw[Z4t],trivial⟩ ?_;refine GWp.block ?_;refine GWp.loopB (fun body1 hbody1 => ?_);have main1:∀ z1 z2 o1,Zf.l1 a0 b z1 z2=some o1→∀ (q:QL Int (Z5)) (Bs:List (List Nat)),qS q=z1→GLWp Γ body1 (fun e s g=>e = .exit 2∧∃ (q:QL Int (Z5)) (Bs:List (List Nat)),qS q=o1∧s=⟨[(0,qi a0),(5,.mown 10),(18,.im (.row (a1.map Z0))),(19,qi (a1.length:Int)),(20,qi x2)],[(10,some (.map (mE (vkI .i64) Im.sc (qM q))))],0⟩∧g=bag (qB (.ptr 40 0 0) Zf.obs q) Bs) ⟨[(0,qi a0),(5,.mown 10),(7,.ptr 30 0 0),(18,.im (.row (a1.map Z0))),(19,qi (a1.length:Int)),(20,qi x2),(25,.im (.row (b.f1.map Ze))),(26,qi (b.f1.length:Int)),(27,qi z2)],[(10,some (.map (mE (vkI .i64) Im.sc (qM q)))),(30,some (.box 30 (Z2k b)))],0⟩ (bag (qB (.ptr 40 0 0) Zf.obs q) Bs):=by
    intro z1 z2 o1 e2;refine Zf.l1.partial_correctness a0 b (motive:=fun z1 z2 o1=>∀ (q:QL Int (Z5)) (Bs:List (List Nat)),qS q=z1→GLWp Γ body1 (fun e s g=>e = .exit 2∧∃ (q:QL Int (Z5)) (Bs:List (List Nat)),qS q=o1∧s=⟨[(0,qi a0),(5,.mown 10),(18,.im (.row (a1.map Z0))),(19,qi (a1.length:Int)),(20,qi x2)],[(10,some (.map (mE (vkI .i64) Im.sc (qM q))))],0⟩∧g=bag (qB (.ptr 40 0 0) Zf.obs q) Bs) ⟨[(0,qi a0),(5,.mown 10),(7,.ptr 30 0 0),(18,.im (.row (a1.map Z0))),(19,qi (a1.length:Int)),(20,qi x2),(25,.im (.row (b.f1.map Ze))),(26,qi (b.f1.length:Int)),(27,qi z2)],[(10,some (.map (mE (vkI .i64) Im.sc (qM q)))),(30,some (.box 30 (Z2k b)))],0⟩ (bag (qB (.ptr 40 0 0) Zf.obs q) Bs)) ?_ _ _ _ e2;clear H1 H hq q Bs e2 o1 z1 z2;intro self1 ih1 z1 z2 o1 H q Bs hq;subst hbody1;refine GLWp.round ?_;refine gS hP hn hm [] [(28,bV (decide (z2<(b.f1.length:Int))))] [0,5,7,18,19,20,25,26,27,28] [] [10,30] [] trivial ?_;refine GWp.seq ?_;refine GWp.cond (decide (z2<(b.f1.length:Int))) (by kernel_rfl) (fun c2 => ?_) (fun c2 => ?_)
    ·replace H:=iT c2 H
     refine GWp.skip ?_;refine GWp.seq ?_;refine GWp.block ?_;obtain⟨s,p2,hq2,H⟩:=at_of H;obtain⟨u1,e3,H⟩:=Z40 H;obtain⟨u2,e4,H⟩:=Z40 H;obtain⟨bk',e5,H⟩:=Z40 H;refine gS hP hn hm [(0,.c (Ze s)),(2,.k 31)] [(9,.ptr 31 0 0)] [0,5,7,9,18,19,20,25,26,27] [(31,some (.box 52 (aSample s)))] [10,30,31] [_,_] ⟨p2,Zau Ze hq2,trivial⟩ ?_;refine gS hP hn hm [(3,.call [] [] [] [] 0 (qi (Zf.lo a0 s.f0)) [])] [(10,qi (Zf.lo a0 s.f0))] [0,5,7,9,10,18,19,20,25,26,27] [] [10,30,31] [_,Pv.Fn Tryz.prog 22 [qi a0,qi s.f0] [] 0 (fun x o=>x=qi (Zf.lo a0 s.f0)∧o=[])] ⟨call22,Z4j.ok a0 s.f0 u1 e3,trivial⟩ ?_;refine gS hP hn hm [(2,.more (xLook (vkI .i64) Im.sc (qM q) (Zf.lo a0 s.f0) (.pointer none)))] [(11,.im (.sc ((mget (qM q) (Zf.lo a0 s.f0)).getD (.pointer none))))] [0,5,7,9,10,11,18,19,20,25,26,27] [] [10,30,31] [Z5v Tryz.prog 2 (vkI .i64),mE (vkI .i64) Im.sc (qM q)=mE (vkI .i64) Im.sc (qM q),valA (qi (Zf.lo a0 s.f0))=some (vkI .i64 (Zf.lo a0 s.f0)),Im.sc (.pointer none)=Im.sc (.pointer none)] ⟨key_int (by kernel_rfl),rfl,rfl,rfl,trivial⟩ ?_;generalize hlo:Zf.lo a0 s.f0=lo at *;refine GWp.seq ?_;refine GWp.mono (Q:=fun e s' g=>e = .normal∧∃ (q':QL Int (Z5)) (Bs':List (List Nat)) (i:Nat) (v:Value),q'[i]? = some ((lo,(mget (qS q) lo).getD (Zf.new a0 lo)),v)∧(∀ c,mput (qS q) lo c=qS (q'.set i ((lo,c),v)))∧s'=⟨[(0,qi a0),(5,.mown 10),(7,.ptr 30 0 0),(9,.ptr 31 0 0),(11,.im (.sc v)),(18,.im (.row (a1.map Z0))),(19,qi (a1.length:Int)),(20,qi x2),(25,.im (.row (b.f1.map Ze))),(26,qi (b.f1.length:Int)),(27,qi z2)],[(10,some (.map (mE (vkI .i64) Im.sc (qM q')))),(30,some (.box 30 (Z2k b))),(31,some (.box 52 (aSample s)))],0⟩∧g=bag (qB (.ptr 40 0 0) Zf.obs q') Bs') ?_ ?_
     ·rcases q_get lo q with ⟨h1,h2,h3⟩ | ⟨i,bk,v,h1,h2,h3,h4⟩
      ·rw[h2]
       refine gS hP hn hm [(1,.more xPNil)] [(39,bV true)] [0,5,7,9,10,11,18,19,20,25,26,27,39] [] [10,30,31] [] trivial ?_;refine GWp.cond true (by kernel_rfl) (fun _ => ?_) (fun h=>nomatch h);refine GWp.seq ?_;refine gR hP hn hm [(3,.call [] [] [] [] 0 (qi (Zf.wd a0)) []),(6,.more xMin),(7,.more xMax),(10,.k 40)] [(11,.ptr 40 0 0)] [0,5,7,9,10,11,18,19,20,25,26,27] [(40,some (.box 36 [qi lo,qi (i64.wrap (lo+Zf.wd a0)),qi (Zf.new a0 lo).f0.f2,.none0]))] [10,30,31,40] [_,Pv.Fn Tryz.prog 20 [qi a0] [] 0 (fun x o=>x=qi (Zf.wd a0)∧o=[])] ⟨call20,Z2p.ok a0 u2 e4,trivial⟩ ?_;refine GWp.newB [40] 11 (.ptr 40 0 0) [(40,.box 36 [qi lo,qi (i64.wrap (lo+Zf.wd a0)),qi (Zf.new a0 lo).f0.f2,.none0])] rfl (by decide) (fun k o h => ?_) (fun v B' => ?_)
       ·have h':=Z1e      h
        simp only[List.mem_cons,List.not_mem_nil,or_false,Prod.mk.injEq] at h';obtain⟨rfl,rfl⟩:=h';exact⟨by simp,rfl⟩
       refine gR hP hn hm [(3,.more (xPut (vkI .i64) Im.sc (qM q) lo v))] [] [0,5,7,9,11,18,19,20,25,26,27] [(10,some (.map (mE (vkI .i64) Im.sc (mput (qM q) lo v))))] [10,30,31] [Z5v Tryz.prog 2 (vkI .i64),mE (vkI .i64) Im.sc (qM q)=mE (vkI .i64) Im.sc (qM q),valA (qi lo)=some (vkI .i64 lo),Im.sc v=Im.sc v] ⟨key_int (by kernel_rfl),rfl,rfl,rfl,trivial⟩ ?_;refine⟨rfl,q++[((lo,Zf.new a0 lo),v)],Bs++[B'],q.length,v,by rw[h1];simp,fun c => ?_,?_,?_⟩
       ·rw[(h3 c v).1];congr 1;simp
       ·rw[← (h3 (Zf.new a0 lo) v).2];rfl
       ·rw[qB_app];rfl
      ·rw[h3]
       refine GWp.fact _ (bag_ptr (qB_get h1) rfl) (fun hv => ?_);obtain⟨ad,hv⟩:=hv;have hv:v = .pointer (some ad):=hv;subst hv;refine gS hP hn hm [(1,.more xPNil)] [(39,bV false)] [0,5,7,9,10,11,18,19,20,25,26,27,39] [] [10,30,31] [] trivial ?_;refine GWp.cond false (by kernel_rfl) (fun h=>nomatch h) (fun _ => ?_);refine GWp.cv (Z2q [0,5,7,9,11,18,19,20,25,26,27] [10,30,31]) (GWp.skip ?_);exact⟨rfl,q,Bs,i,_,by rw[h2];exact h1,h4,rfl,rfl⟩
     ·rintro e s' g ⟨rfl,q',Bs',i,v,k1,k3,rfl,rfl⟩
      rw[← hq] at e5;generalize hbk:(mget (qS q) lo).getD (Zf.new a0 lo)=bk at *;rw[hq] at k3;have hb:=qB_get (h:=.ptr 40 0 0) (f:=Zf.obs) k1;have fin:∀ (Q:Exit→Z6→Gh→Prop) B',(∀ (q2:QL Int (Z5)) (Bs2:List (List Nat)),qS q2=mput z1 lo bk'→Q .normal ⟨[(0,qi a0),(5,.mown 10),(7,.ptr 30 0 0),(18,.im (.row (a1.map Z0))),(19,qi (a1.length:Int)),(20,qi x2),(25,.im (.row (b.f1.map Ze))),(26,qi (b.f1.length:Int)),(27,qi (i64.wrap (z2+1)))],[(10,some (.map (mE (vkI .i64) Im.sc (qM q2)))),(30,some (.box 30 (Z2k b)))],0⟩ (bag (qB (.ptr 40 0 0) Zf.obs q2) Bs2))→Q .normal ⟨[(0,qi a0),(5,.mown 10),(7,.ptr 30 0 0),(18,.im (.row (a1.map Z0))),(19,qi (a1.length:Int)),(20,qi x2),(25,.im (.row (b.f1.map Ze))),(26,qi (b.f1.length:Int)),(27,qi (i64.wrap (z2+1)))],[(10,some (.map (mE (vkI .i64) Im.sc (qM q')))),(30,some (.box 30 (Z2k b)))],0⟩ (bag ((qB (.ptr 40 0 0) Zf.obs q').set i ⟨v,.ptr 40 0 0,Zf.obs bk'⟩) (Bs'.set i B')):=fun Q B' hh=>by
       have:=hh (q'.set i ((lo,bk'),v)) (Bs'.set i B') (k3 bk').symm;rw[qM_set k1,qB_set] at this;exact this
      obtain⟨m,rows⟩:=bk;have side:∀ q,(AVal.ptr 40 0 0).has q=true→q∈[40,41,42]∧q<41:=fun q h=>by
       have:40=q:=by simpa[AVal.has] using h
       subst this;exact⟨by simp,by omega⟩
      rcases List.eq_nil_or_concat rows with hrw | ⟨l,r0,hrw⟩
      ·subst hrw
       rw[Zf.obs0] at hb;obtain rfl:=sj (show some (⟨m,[⟨b.f0,[s]⟩]⟩:Z5)=some bk' from e5);refine GWp.open [40,41,42] 41 i 11 _ hb rfl (by decide) (fun k o h => ?_) (fun k h => ?_) (fun k o q h h2 => ?_) side (Nat.zero_le _) (fun Γ' e6 e7 => ?_)
       ·have h':=Z1e      h
        simp only[List.mem_cons,List.not_mem_nil,or_false,Prod.mk.injEq] at h';obtain⟨rfl,_⟩:=h';simp
       ·simp only[List.mem_cons,List.not_mem_nil,or_false] at h
        rcases h with rfl | rfl | rfl<;>exact Z5b (by kernel_rfl)
       ·have h':=Z1e      h
        simp only[List.mem_cons,List.not_mem_nil,or_false,Prod.mk.injEq] at h';obtain⟨rfl,rfl⟩:=h';simp[MObj.has,hasL,AVal.has] at h2
       ·have hP':=e6.trans hP
        have hn':=e7.trans hn;refine AWp.seq ?_;refine sO hP' hn' hm [] [(12,qi 0)] [0,5,7,9,11,12,18,19,20,25,26,27] [] [10,30,31,40] ?_;refine sR hP' hn' hm [(1,.b true)] [(74,bV true)] [0,5,7,9,11,12,18,19,20,25,26,27,74] [] [10,30,31,40] [((0:Int)==0)=true] ⟨rfl,trivial⟩ ?_;refine AWp.cond true (by kernel_rfl) (fun _ => ?_) (fun h=>nomatch h);refine rG hP' hn' hm [(8,.more (xOneT 43)),(9,.more (xAppT 44))] [] [0,5,7,9,11,18,19,20,25,26,27] [(40,some (.box 36 [qi m.f0,qi m.f1,qi m.f2,.own 44])),(44,some (.arow 2 30 [] [[sV b.f0,.none0]]))] [10,30,31,40,44] [1*40≤140737488355328] ⟨by decide,trivial⟩ ?_;refine sO hP' hn' hm [(4,.more xLenT)] [(13,qi 1)] [0,5,7,9,11,13,18,19,20,25,26,27] [] [10,30,31,40,44] ?_;refine AWp.cv (rG hP' hn' hm [(12,.more (xIdxT 0)),(14,.more (xLoadT 0)),(16,.app 45 ([s].map Ze)),(17,.app 46 ([s].map Ze)),(18,.more (xIdxT 0)),(20,.more (xStoreT 0))] [] [0,5,7,18,19,20,25,26,27] [(44,some (.arow 2 30 [] [[sV b.f0,.own 46]])),(46,some (.row 9 52 ([s].map Ze)))] [10,30,40,44,46] [i64.wrap ((1:Int)-1)=((([]:List (List Im)).length+0:Nat):Int),([]:List (List Im)).length+0=([]:List (List Im)).length+0,[s].map Ze=[Ze s],[s].map Ze=[]++([s].map Ze),∀ c∈([s].map Ze),c.length=9,∀ c∈([s].map Ze),Z2c (c.map .im)=true,(([]:List (List Im)).length+([s].map Ze).length)*104≤140737488355328,i64.wrap ((1:Int)-1)=((([]:List (List Im)).length+0:Nat):Int),([]:List (List Im)).length+0=([]:List (List Im)).length+0] ⟨rfl,rfl,rfl,rfl,by exact Z4d _ _ _ (fun _=>rfl),by exact Z3y _ _ (fun _=>rfl),by simp,rfl,rfl,trivial⟩ ?_);refine lf (t:=⟨[(0,qi a0),(5,.mown 10),(7,.ptr 30 0 0),(18,.im (.row (a1.map Z0))),(19,qi (a1.length:Int)),(20,qi x2),(25,.im (.row (b.f1.map Ze))),(26,qi (b.f1.length:Int)),(27,qi z2)],[(10,some (.map (mE (vkI .i64) Im.sc (qM q')))),(30,some (.box 30 (Z2k b))),(40,some (.box 36 [qi m.f0,qi m.f1,qi m.f2,.own 41])),(41,some (.arow 2 30 [] [[sV b.f0,.own 42]])),(42,some (.row 9 52 ([s].map Ze)))],41⟩) [(10,10),(30,30),(40,40),(44,41),(46,42)] [] [] (by kernel_rfl) ?_;refine⟨rfl,Zf.obs ⟨m,[⟨b.f0,[s]⟩]⟩,fun k o h => ?_,fun B' => ?_⟩
        ·have h':=Z1e      h
         rw[show Zf.obs ⟨m,[⟨b.f0,[s]⟩]⟩=[(40,.box 36 [qi m.f0,qi m.f1,qi m.f2,.own 41]),(41,.arow 2 30 [] [[sV b.f0,.own 42]]),(42,.row 9 52 ([s].map Ze))] from Zf.obs1 m [] ⟨b.f0,[s]⟩] at h';simp only[List.mem_cons,List.not_mem_nil,or_false,Prod.mk.injEq] at h';rcases h' with ⟨rfl,rfl⟩ | ⟨rfl,rfl⟩ | ⟨rfl,rfl⟩<;>exact⟨by simp,rfl⟩
        ·refine gR hP hn hm [] [(27,qi (i64.wrap (z2+1)))] [0,5,7,18,19,20,25,26,27] [] [10,30] [] trivial ?_
         exact fin _ B' (fun q2 Bs2 hq2=>ih1 _ _ _ H q2 Bs2 hq2)
      ·simp only[List.concat_eq_append] at hrw
       subst hrw;rw[Zf.obs1] at hb;unfold Zf.add at e5;rw[show(⟨m,l++[r0]⟩:Z5).f1.getLast? = some r0 from List.getLast?_concat] at e5;dsimp only at e5;obtain⟨d2,e5⟩:=Z9d e5;have dl:(l.length+2)*40≤140737488355328:=by simpa using d2
       have w0:=cut_w0 (n:=(l.map Z0).length) (by rw[Z4t];omega);have w1:=cut_w1 (n:=(l.map Z0).length) (by rw[Z4t];omega);refine GWp.open [40,41,42] 41 i 11 _ hb rfl (by decide) (fun k o h => ?_) (fun k h => ?_) (fun k o q h h2 => ?_) side (Nat.zero_le _) (fun Γ' e6 e7 => ?_)
       ·have h':=Z1e      h
        simp only[List.mem_cons,List.not_mem_nil,or_false,Prod.mk.injEq] at h';rcases h' with ⟨rfl,_⟩ | ⟨rfl,_⟩ | ⟨rfl,_⟩<;>simp
       ·simp only[List.mem_cons,List.not_mem_nil,or_false] at h
        rcases h with rfl | rfl | rfl<;>exact Z5b (by kernel_rfl)
       ·have h':=Z1e      h
        simp only[List.mem_cons,List.not_mem_nil,or_false,Prod.mk.injEq] at h';rcases h' with ⟨rfl,rfl⟩ | ⟨rfl,rfl⟩ | ⟨rfl,rfl⟩
        ·have:41=q:=by simpa[MObj.has,hasL,AVal.has] using h2
         simp[← this]
        ·have:42=q:=by simpa[MObj.has,hasL,Z5e  ,AVal.has] using h2
         simp[← this]
        ·simp[MObj.has] at h2
       ·have hP':=e6.trans hP
        have hn':=e7.trans hn;refine AWp.seq ?_;refine sO hP' hn' hm [(4,.more xLenT)] [(12,qi (((l.map Z0).length+1:Nat):Int))] [0,5,7,9,11,12,18,19,20,25,26,27] [] [10,30,31,40,41,42] ?_;refine sR hP' hn' hm [(1,.b false),(9,.more (xIdxT 0)),(11,.more (xLoadT 0))] [(74,bV (!(r0.f0.toList==b.f0.toList)))] [0,5,7,9,11,12,18,19,20,25,26,27,74] [] [10,30,31,40,41,42] [((((l.map Z0).length+1:Nat):Int)==0)=false,_,(l.map Z0).length+0=(l.map Z0).length+0] ⟨by simp;omega,w0,rfl,trivial⟩ ?_;refine AWp.cond (!(r0.f0.toList==b.f0.toList)) (by kernel_rfl) (fun c3 => ?_) (fun c3 => ?_)
        ·rw[if_neg (by simpa using c3)] at e5
         obtain rfl:=sj e5;refine rG hP' hn' hm [(8,.more (xOneT 43)),(9,.more (xAppT 44))] [] [0,5,7,9,11,18,19,20,25,26,27] [(40,some (.box 36 [qi m.f0,qi m.f1,qi m.f2,.own 44])),(44,some (.arow 2 30 (l.map Z0) [[sV r0.f0,.own 42],[sV b.f0,.none0]]))] [10,30,31,40,42,44] [((l.map Z0).length+1+1)*40≤140737488355328] ⟨by rw[Z4t];omega,trivial⟩ ?_;refine sO hP' hn' hm [(4,.more xLenT)] [(13,qi (((l.map Z0).length+1+1:Nat):Int))] [0,5,7,9,11,13,18,19,20,25,26,27] [] [10,30,31,40,42,44] ?_;refine AWp.cv (rG hP' hn' hm [(12,.more (xIdxT 1)),(14,.more (xLoadT 1)),(16,.app 45 ([s].map Ze)),(17,.app 46 ([s].map Ze)),(18,.more (xIdxT 1)),(20,.more (xStoreT 1))] [] [0,5,7,18,19,20,25,26,27] [(44,some (.arow 2 30 (l.map Z0) [[sV r0.f0,.own 42],[sV b.f0,.own 46]])),(46,some (.row 9 52 ([s].map Ze)))] [10,30,40,42,44,46] [i64.wrap ((((l.map Z0).length+1+1:Nat):Int)-1)=(((l.map Z0).length+1:Nat):Int),(l.map Z0).length+1=(l.map Z0).length+1,[s].map Ze=[Ze s],[s].map Ze=[]++([s].map Ze),∀ c∈([s].map Ze),c.length=9,∀ c∈([s].map Ze),Z2c (c.map .im)=true,(([]:List (List Im)).length+([s].map Ze).length)*104≤140737488355328,i64.wrap ((((l.map Z0).length+1+1:Nat):Int)-1)=(((l.map Z0).length+1:Nat):Int),(l.map Z0).length+1=(l.map Z0).length+1] ⟨by rw[Z0b (by rw[Z4t];omega) (by rw[Z4t];omega)];omega,rfl,rfl,rfl,by exact Z4d _ _ _ (fun _=>rfl),by exact Z3y _ _ (fun _=>rfl),by simp,by rw[Z0b (by rw[Z4t];omega) (by rw[Z4t];omega)];omega,rfl,trivial⟩ ?_);refine lf (t:=⟨[(0,qi a0),(5,.mown 10),(7,.ptr 30 0 0),(18,.im (.row (a1.map Z0))),(19,qi (a1.length:Int)),(20,qi x2),(25,.im (.row (b.f1.map Ze))),(26,qi (b.f1.length:Int)),(27,qi z2)],[(10,some (.map (mE (vkI .i64) Im.sc (qM q')))),(30,some (.box 30 (Z2k b))),(40,some (.box 36 [qi m.f0,qi m.f1,qi m.f2,.own 41])),(41,some (.arow 2 30 (l.map Z0++[Z0 r0]) [[sV b.f0,.own 42]])),(42,some (.row 9 52 ([s].map Ze)))],41⟩) [(10,10),(30,30),(40,40),(44,41),(46,42)] [42] [] (by kernel_rfl) ?_;refine⟨rfl,Zf.obs ⟨m,(l++[r0])++[⟨b.f0,[s]⟩]⟩,fun k o h => ?_,fun B' => ?_⟩
         ·have h':=Z1e      h
          rw[Zf.obs1,app1] at h';simp only[List.mem_cons,List.not_mem_nil,or_false,Prod.mk.injEq] at h';rcases h' with ⟨rfl,rfl⟩ | ⟨rfl,rfl⟩ | ⟨rfl,rfl⟩<;>exact⟨by simp,rfl⟩
         ·refine gR hP hn hm [] [(27,qi (i64.wrap (z2+1)))] [0,5,7,18,19,20,25,26,27] [] [10,30] [] trivial ?_
          exact fin _ B' (fun q2 Bs2 hq2=>ih1 _ _ _ H q2 Bs2 hq2)
        ·rw[if_pos (by simpa using c3)] at e5
         obtain⟨d3,e5⟩:=Z9d e5;rw[show(⟨m,l++[r0]⟩:Z5).f1.dropLast=l from List.dropLast_concat] at e5;obtain rfl:=sj e5;refine AWp.skip ?_;refine sO hP' hn' hm [(4,.more xLenT)] [(13,qi (((l.map Z0).length+1:Nat):Int))] [0,5,7,9,11,13,18,19,20,25,26,27] [] [10,30,31,40,41,42] ?_;refine AWp.cv (rG hP' hn' hm [(12,.more (xIdxT 0)),(14,.more (xLoadT 0)),(16,.app 45 ([s].map Ze)),(17,.app 46 ((r0.f1++[s]).map Ze)),(18,.more (xIdxT 0)),(20,.more (xStoreT 0))] [] [0,5,7,18,19,20,25,26,27] [(41,some (.arow 2 30 (l.map Z0) [[sV r0.f0,.own 46]])),q5 46 (r0.f1++[s])] [10,30,40,41,46] [_,(l.map Z0).length+0=(l.map Z0).length+0,[s].map Ze=[Ze s],(r0.f1++[s]).map Ze=(r0.f1.map Ze)++([s].map Ze),∀ c∈([s].map Ze),c.length=9,∀ c∈([s].map Ze),Z2c (c.map .im)=true,((r0.f1.map Ze).length+([s].map Ze).length)*104≤140737488355328,_,(l.map Z0).length+0=(l.map Z0).length+0] ⟨w0,rfl,rfl,by simp,by exact Z4d _ _ _ (fun _=>rfl),by exact Z3y _ _ (fun _=>rfl),by simpa using d3,w0,rfl,trivial⟩ ?_);refine lf (t:=⟨[(0,qi a0),(5,.mown 10),(7,.ptr 30 0 0),(18,.im (.row (a1.map Z0))),(19,qi (a1.length:Int)),(20,qi x2),(25,.im (.row (b.f1.map Ze))),(26,qi (b.f1.length:Int)),(27,qi z2)],[(10,some (.map (mE (vkI .i64) Im.sc (qM q')))),(30,some (.box 30 (Z2k b))),(40,some (.box 36 [qi m.f0,qi m.f1,qi m.f2,.own 41])),(41,some (.arow 2 30 (l.map Z0) [[sV r0.f0,.own 42]])),q5 42 (r0.f1++[s])],41⟩) [(10,10),(30,30),(40,40),(41,41),(46,42)] [] [] (by kernel_rfl) ?_;refine⟨rfl,Zf.obs ⟨m,l++[⟨r0.f0,r0.f1++[s]⟩]⟩,fun k o h => ?_,fun B' => ?_⟩
         ·have h':=Z1e      h
          rw[Zf.obs1] at h';simp only[List.mem_cons,List.not_mem_nil,or_false,Prod.mk.injEq] at h';rcases h' with ⟨rfl,rfl⟩ | ⟨rfl,rfl⟩ | ⟨rfl,rfl⟩<;>exact⟨by simp,rfl⟩
         ·refine gR hP hn hm [] [(27,qi (i64.wrap (z2+1)))] [0,5,7,18,19,20,25,26,27] [] [10,30] [] trivial ?_
          exact fin _ B' (fun q2 Bs2 hq2=>ih1 _ _ _ H q2 Bs2 hq2)
    ·replace H:=iF c2 H
     obtain rfl:=sj H;refine GWp.cv (Z2q [0,5,18,19,20] [10]) (GWp.exit ⟨rfl,q,Bs,hq,rfl,rfl⟩)
   refine GLWp.mono (main1 x1 0 y1 H1 q Bs hq) ?_;rintro e s g ⟨rfl,q2,Bs2,hq2,rfl,rfl⟩;show GWp Γ _ _ _ _;refine gR hP hn hm [] [(20,qi (i64.wrap (x2+1)))] [0,5,18,19,20] [] [10] [] trivial ?_;exact ih _ _ _ H q2 Bs2 hq2
  ·replace H:=iF c1 H
   obtain rfl:=sj H;refine GWp.cv (Z2q [5] [10]) (GWp.exit ⟨rfl,q,Bs,hq,rfl,rfl⟩)
 refine GLWp.mono (main0 [] 0 y H0 [] [] rfl) ?_;rintro e s g ⟨rfl,q,Bs,hq,rfl,rfl⟩;show GWp Γ _ _ _ _;have hql:(qM q).length=(qS q).length:=by simp[qM,qS]
 refine GWp.seq (gK hP hn hm [] [(14,.none0)] [5,14] [] [10] [] [(10,10)] [] [50] ⟨[(5,.mown 10),(14,.own 50)],[(10,some (.map (mE (vkI .i64) Im.sc (qM q)))),(50,some (.row 4 36 []))],0⟩ trivial rfl ?_);refine GWp.seq ?_;refine gS hP hn hm [(1,.more (xRng 51 (qM q).length))] [(115,.ptr 51 0 0)] [14,115] [(51,some (.iter (some 10) (qM q).length []))] [10,50,51] [(qM q).length=(mE (vkI .i64) Im.sc (qM q)).length] ⟨Zbg _ _ _,trivial⟩ ?_;refine GWp.block ?_;refine GWp.loopB (fun body2 hbody2 => ?_);have main2:∀ (N:Nat) (sn:List Nat) (acc:List (Int×Z5)) (bs:List Bun) (Bs:List (List Nat)),(remI (qM q).length sn).length=N→(acc++Z5q (qS q) sn).Perm (qS q)→(∀ i∈remI (qM q).length sn,bs[i]? = (qB (.ptr 40 0 0) Zf.obs q)[i]?)→GLWp Γ body2 (fun e s g=>e = .exit 4∧∃ acc:List (Int×Z5),acc.Perm (qS q)∧s=⟨[(14,.own 50)],[q4 50 (acc.map (·.2))],0⟩) ⟨[(14,.own 50),(115,.ptr 51 0 0)],[(10,some (.map (mE (vkI .i64) Im.sc (qM q)))),q4 50 (acc.map (·.2)),(51,some (.iter (some 10) (qM q).length sn))],0⟩ (bag bs Bs):=by
  intro N
  induction N using Nat.strongRecOn with
  | _ N ih =>
  intro sn acc bs Bs hN hp hbs;subst hbody2;refine GLWp.round ?_;refine GWp.seq ?_;refine GWp.frame (fun Γ' e6 e7=>AWp.next (n:=(qM q).length) (sn:=sn) (es:=mE (vkI .i64) Im.sc (qM q)) 116 117 51 10 (e6.trans hP) rfl rfl rfl rfl rfl rfl (by rw[e7,hn];decide) (by rw[e7,hn];decide) (by kernel_rfl) (by kernel_rfl) (by kernel_rfl) (Zbg _ _ _) (fun hz=>⟨rfl,?_⟩) (fun i A B hA hB hin=>⟨rfl,?_⟩))
  ·show GWp Γ _ _ _ _
   refine GWp.seq (GWp.cond false (by kernel_rfl) (fun h=>nomatch h) (fun _ => ?_));refine GWp.cv (Z2q [14] [50]) (GWp.exit ⟨rfl,acc,?_,rfl⟩);have:Z5q (qS q) sn=[]:=by unfold Z5q;rw[← hql,hz];rfl
   rw[this,List.append_nil] at hp;exact hp
  ·show GWp Γ _ _ _ _
   refine GWp.seq (GWp.cond true (by kernel_rfl) (fun _=>GWp.skip ?_) (fun h=>nomatch h));show GWp Γ _ _ _ _;refine GWp.block ?_;have hiq:i<q.length:=by simpa[qM] using hin
   obtain⟨⟨⟨lo,bk⟩,v⟩,hqi⟩:∃ y,q[i]? = some y:=⟨_,List.getElem?_eq_getElem hiq⟩
   have hmem:i∈remI (qM q).length sn:=by rw[hA];simp
   have hb:=(hbs i hmem).trans (qB_get (h:=.ptr 40 0 0) (f:=Zf.obs) hqi);have hSi:(qS q)[i]? = some (lo,bk):=by simp[qS,hqi]
   have hp2:((acc++[(lo,bk)])++Z5q (qS q) (sn++[i])).Perm (qS q):=by
    refine List.Perm.trans ?_ hp;have q1:Z5q (qS q) sn=A.filterMap (fun i=>(qS q)[i]?)++(lo,bk)::B.filterMap (fun i=>(qS q)[i]?):=by rw[Z5q,← hql,hA,List.filterMap_append,List.filterMap_cons,hSi]
    have q2:Z5q (qS q) (sn++[i])=A.filterMap (fun i=>(qS q)[i]?)++B.filterMap (fun i=>(qS q)[i]?):=by rw[Z5q,← hql,hB,List.filterMap_append]
    rw[q1,q2,List.append_assoc];refine List.Perm.append_left _ ?_;rw[List.singleton_append];exact List.perm_middle.symm
   have next:∀ o' B',GLWp Γ _ _ _ _:=fun o' B'=>ih _ (by rw[← hN,hA,hB];simp) (sn++[i]) (acc++[(lo,bk)]) (bs.set i ⟨v,.ptr 40 0 0,o'⟩) (Bs.set i B') rfl hp2 (fun i' hi'=>by
    have hne:i≠i':=by
     rintro rfl;have:=(List.mem_filter.1 hi').2;simp at this
    rw[List.getElem?_set_ne hne];refine hbs i' ?_;rw[hB] at hi';rw[hA];rcases List.mem_append.1 hi' with h | h<;>simp[h])
   refine gS hP hn hm [(0,.more (xEnt (vkI .i64) Im.sc (qM q) i (lo,v) (qi lo)))] [(16,.im (.sc v))] [14,16,115] [] [10,50,51] [(qM q).length=(mE (vkI .i64) Im.sc (qM q)).length,(sn++[i]).getLast? = some i,mE (vkI .i64) Im.sc (qM q)=mE (vkI .i64) Im.sc (qM q),(qM q)[i]? = some (lo,v),valA (qi lo)=some (vkI .i64 lo)] ⟨Zbg _ _ _,by simp,rfl,by simp[qM,hqi],rfl,trivial⟩ ?_;have side:∀ q,(AVal.ptr 40 0 0).has q=true→q∈[40,41,42]∧q<41:=fun q h=>by
    have:40=q:=by simpa[AVal.has] using h
    subst this;exact⟨by simp,by omega⟩
   have hsz:(acc.length+1)*48≤140737488355328:=by
    have e1:=hp2.length_eq;have e2:(qS q).length=y.length:=by rw[hq]
    simp only[List.length_append,List.length_cons,List.length_nil] at e1;omega
   obtain⟨m,rows⟩:=bk;rcases List.eq_nil_or_concat rows with hrw | ⟨l,r0,hrw⟩
   ·subst hrw
    rw[Zf.obs0] at hb;refine GWp.open [40,41,42] 41 i 16 _ hb rfl (by decide) (fun k o h => ?_) (fun k h => ?_) (fun k o q h h2 => ?_) side (Nat.zero_le _) (fun Γ' e6 e7 => ?_)
    ·have h':=Z1e      h
     simp only[List.mem_cons,List.not_mem_nil,or_false,Prod.mk.injEq] at h';obtain⟨rfl,_⟩:=h';simp
    ·simp only[List.mem_cons,List.not_mem_nil,or_false] at h
     rcases h with rfl | rfl | rfl<;>exact Z5b (by kernel_rfl)
    ·have h':=Z1e      h
     simp only[List.mem_cons,List.not_mem_nil,or_false,Prod.mk.injEq] at h';obtain⟨rfl,rfl⟩:=h';simp[MObj.has,hasL,AVal.has] at h2
    ·have hP':=e6.trans hP
     have hn':=e7.trans hn;refine AWp.cv (rG hP' hn' hm [(4,.app 45 ([(⟨m,[]⟩:Z5)].map Z3)),(5,.app 46 (((acc++[(lo,(⟨m,[]⟩:Z5))]).map (·.2)).map Z3))] [(14,.own 46)] [14,115] [q4 46 ((acc++[(lo,(⟨m,[]⟩:Z5))]).map (·.2))] [10,46,51] [[(⟨m,[]⟩:Z5)].map Z3=[Z3 (⟨m,[]⟩:Z5)],((acc++[(lo,(⟨m,[]⟩:Z5))]).map (·.2)).map Z3=(acc.map (·.2)).map Z3++[(⟨m,[]⟩:Z5)].map Z3,∀ c∈([(⟨m,[]⟩:Z5)].map Z3),c.length=4,∀ c∈([(⟨m,[]⟩:Z5)].map Z3),Z2c (c.map .im)=true,(((acc.map (·.2)).map Z3).length+([(⟨m,[]⟩:Z5)].map Z3).length)*48≤140737488355328] ⟨rfl,by simp,by exact Z4d _ _ _ (fun _=>rfl),by exact Z3y _ _ (fun _=>rfl),by simpa using hsz,trivial⟩ ?_);refine lf (t:=⟨[(14,.own 50),(115,.ptr 51 0 0)],[(10,some (.map (mE (vkI .i64) Im.sc (qM q)))),q4 50 ((acc++[(lo,(⟨m,[]⟩:Z5))]).map (·.2)),(51,some (.iter (some 10) (qM q).length (sn++[i])))],41⟩) [(10,10),(46,50),(51,51)] [] [] (by kernel_rfl) ?_;refine⟨rfl,[],fun k o h=>by simp[Pv.look] at h,fun B' => ?_⟩;exact GLWp.cv (Z2q [14,115] [10,50,51]) (next [] B')
   ·simp only[List.concat_eq_append] at hrw
    subst hrw;rw[Zf.obs1] at hb;refine GWp.open [40,41,42] 41 i 16 _ hb rfl (by decide) (fun k o h => ?_) (fun k h => ?_) (fun k o q h h2 => ?_) side (Nat.zero_le _) (fun Γ' e6 e7 => ?_)
    ·have h':=Z1e      h
     simp only[List.mem_cons,List.not_mem_nil,or_false,Prod.mk.injEq] at h';rcases h' with ⟨rfl,_⟩ | ⟨rfl,_⟩ | ⟨rfl,_⟩<;>simp
    ·simp only[List.mem_cons,List.not_mem_nil,or_false] at h
     rcases h with rfl | rfl | rfl<;>exact Z5b (by kernel_rfl)
    ·have h':=Z1e      h
     simp only[List.mem_cons,List.not_mem_nil,or_false,Prod.mk.injEq] at h';rcases h' with ⟨rfl,rfl⟩ | ⟨rfl,rfl⟩ | ⟨rfl,rfl⟩
     ·have:41=q:=by simpa[MObj.has,hasL,AVal.has] using h2
      simp[← this]
     ·have:42=q:=by simpa[MObj.has,hasL,Z5e  ,AVal.has] using h2
      simp[← this]
     ·simp[MObj.has] at h2
    ·have hP':=e6.trans hP
     have hn':=e7.trans hn;refine AWp.conv (inv:=[(10,10),(50,50),(51,51),(40,40),(41,41)]) (vk:=[42]) (e0:=[]) (t:=⟨[(14,.own 50),(16,.ptr 40 0 0),(115,.ptr 51 0 0)],[(10,some (.map (mE (vkI .i64) Im.sc (qM q)))),q4 50 (acc.map (·.2)),(51,some (.iter (some 10) (qM q).length (sn++[i]))),(40,some (.box 36 [qi m.f0,qi m.f1,qi m.f2,.own 41])),(41,some (.row 2 30 (l.map Z0++[Z0 r0])))],41⟩) (by kernel_rfl) ?_
     refine AWp.conv (inv:=[(10,10),(50,50),(51,51),(40,40)]) (vk:=[41]) (e0:=[]) (t:=⟨[(14,.own 50),(16,.ptr 40 0 0),(115,.ptr 51 0 0)],[(10,some (.map (mE (vkI .i64) Im.sc (qM q)))),q4 50 (acc.map (·.2)),(51,some (.iter (some 10) (qM q).length (sn++[i]))),(40,some (.box 36 [qi m.f0,qi m.f1,qi m.f2,.im (.row (l.map Z0++[Z0 r0]))]))],41⟩) (by kernel_rfl) ?_
     refine AWp.cv (rG hP' hn' hm [(4,.app 45 ([(⟨m,l++[r0]⟩:Z5)].map Z3)),(5,.app 46 (((acc++[(lo,(⟨m,l++[r0]⟩:Z5))]).map (·.2)).map Z3))] [(14,.own 46)] [14,115] [q4 46 ((acc++[(lo,(⟨m,l++[r0]⟩:Z5))]).map (·.2))] [10,46,51] [[(⟨m,l++[r0]⟩:Z5)].map Z3=[[iI .i64 m.f0,iI .i64 m.f1,iI .i64 m.f2,.row (l.map Z0++[Z0 r0])]],((acc++[(lo,(⟨m,l++[r0]⟩:Z5))]).map (·.2)).map Z3=(acc.map (·.2)).map Z3++[(⟨m,l++[r0]⟩:Z5)].map Z3,∀ c∈([(⟨m,l++[r0]⟩:Z5)].map Z3),c.length=4,∀ c∈([(⟨m,l++[r0]⟩:Z5)].map Z3),Z2c (c.map .im)=true,(((acc.map (·.2)).map Z3).length+([(⟨m,l++[r0]⟩:Z5)].map Z3).length)*48≤140737488355328] ⟨by simp,by simp,by exact Z4d _ _ _ (fun _=>rfl),by exact Z3y _ _ (fun _=>rfl),by simpa using hsz,trivial⟩ ?_);refine lf (t:=⟨[(14,.own 50),(115,.ptr 51 0 0)],[(10,some (.map (mE (vkI .i64) Im.sc (qM q)))),q4 50 ((acc++[(lo,(⟨m,l++[r0]⟩:Z5))]).map (·.2)),(51,some (.iter (some 10) (qM q).length (sn++[i])))],41⟩) [(10,10),(46,50),(51,51)] [] [] (by kernel_rfl) ?_;refine⟨rfl,[],fun k o h=>by simp[Pv.look] at h,fun B' => ?_⟩;exact GLWp.cv (Z2q [14,115] [10,50,51]) (next [] B')
 refine GLWp.mono (main2 _ [] [] (qB (.ptr 40 0 0) Zf.obs q) Bs rfl (by rw[picks_nil];exact .refl _) (fun i _=>rfl)) ?_;rintro e s g ⟨rfl,acc,hacc,rfl⟩;show GWp Γ _ _ _ _;have HSa:Zz.f (acc.map (·.2))=some r':=by
  have h0:=rchk_of HS acc (by rw[← hq];exact hacc);exact h0
 clear HS main0 main2;have hfn:Pv.Fn Tryz.prog 28 [.own 0,.im (.sc (.func (.func 29) #[] #[]))] [q4 0 (acc.map (·.2))] 1 (fun x o=>x = .tup []∧o=[q4 0 r']):=Zz.ok _ _ HSa;refine gS hP hn hm [(1,.call [(50,0)] [(0,50)] [] [] 1 (.tup []) [q4 0 r'])] [] [14] [q4 50 r'] [50] [_,Pv.Fn Tryz.prog 28 [.own 0,.im (.sc (.func (.func 29) #[] #[]))] [q4 0 (acc.map (·.2))] 1 (fun x o=>x = .tup []∧o=[q4 0 r'])] ⟨call28,hfn,trivial⟩ ?_;refine gS hP hn hm [] [(4,.own 50)] [4] [] [50] [] trivial ?_;refine GWp.ret ?_;exact lf (t:=⟨[(4,.own 0)],[q4 0 r'],0⟩) [(50,0)] [] [] (by kernel_rfl) ⟨.inl rfl,rfl,by kernel_rfl,by kernel_rfl⟩
def Z4z.f (a0:Z2m):Option Bool:=((if decide (a0.f2<0) then(some true) else(some (decide (a0.f2>4)))):Option Bool)>>=fun aa=>if aa=true then(some false) else((Z2p.f a0.f2)>>=fun ab=>((if decide (a0.f0≥0) then(if decide (a0.f0≤1099511627776) then((chk ((i64.wrap ((64:Int)*2 ^ (min (u64.wrap ((2:Int)*(u64.wrap ((if(if(4:Int)<a0.f2 then(4:Int) else a0.f2)>0 then(if(4:Int)<a0.f2 then(4:Int) else a0.f2) else(0:Int)))))).toNat 64)))≠0))>>=fun _=>if(Int.tmod a0.f0 (i64.wrap ((64:Int)*2 ^ (min (u64.wrap ((2:Int)*(u64.wrap ((if(if(4:Int)<a0.f2 then(4:Int) else a0.f2)>0 then(if(4:Int)<a0.f2 then(4:Int) else a0.f2) else(0:Int)))))).toNat 64))))==0 then(some (a0.f1==(i64.wrap (a0.f0+(i64.wrap ((64:Int)*2 ^ (min (u64.wrap ((2:Int)*(u64.wrap ((if(if(4:Int)<a0.f2 then(4:Int) else a0.f2)>0 then(if(4:Int)<a0.f2 then(4:Int) else a0.f2) else(0:Int)))))).toNat 64))))))) else(some false)) else(some false)) else(some false)):Option Bool)>>=fun ac=>some ac)
abbrev w1_ (k:Nat) (x:Z2m):Nat×Option MObj:=BW 34 Zb1 k x
theorem Z4z.ok (a0:Z2m):F0 55 [.agg (Zb1 a0)] (Z4z.f a0) (fun r=>bV r):=FT [] func55 (.rg [(0,⟨.k 0,.n⟩)]<|.join (.sp (fun aa=>.rg [(3,hB aa)]<|.o [(0,1)])
 (fun aa=>.rg [(3,hB aa)]<|.o [(0,1)]))
 (.st .normal (fun ab=>⟨[(1,.ptr 1 0 0),(11,bV ab)],[w1_ 1 a0],0⟩) fun ab=>.cd (fun ac=>.r0<|.rv ⟨[(2,bV false)],[],0⟩)
 (fun ac=>.bd fun ae af=>.rg [(2,qh call20 (Z2p.ok a0.f2 ae af))]<|.join (.sp (fun ah=>.sp (fun ai=>.ck fun aj=>.sp (fun ak=>.rg [(3,hB ah),(8,hB ai),(12,hN (p1 aj)),(15,hB ak)]<|.o [])
 (fun ak=>.rg [(3,hB ah),(8,hB ai),(12,hN (p1 aj)),(15,hB ak)]<|.o []))
 (fun ai=>.rg [(3,hB ah),(8,hB ai)]<|.o []))
 (fun ah=>.rg [(3,hB ah)]<|.o []))
 (.st .normal (fun al=>⟨[(2,bV al)],[],0⟩) fun al=>.rv ⟨[(2,bV al)],[],0⟩))))
def Z1v.l0 (a0:ByteArray) (aa:Int):Option (Bool ⊕ Unit):=if decide (aa<(a0.size:Int)) then((chk (0≤aa∧aa<(a0.size:Int)))>>=fun _=>((if decide ((bt a0 aa)≥97) then(if decide ((bt a0 aa)≤122) then(some true) else(if decide ((bt a0 aa)≥65) then(if decide ((bt a0 aa)≤90) then(some true) else(some ((bt a0 aa)==95))) else(some ((bt a0 aa)==95)))) else(if decide ((bt a0 aa)≥65) then(if decide ((bt a0 aa)≤90) then(some true) else(some ((bt a0 aa)==95))) else(some ((bt a0 aa)==95)))):Option Bool)>>=fun ab=>((if !ab then(if aa==0 then(some true) else(if decide ((bt a0 aa)<48) then(some true) else(some (decide ((bt a0 aa)>57))))) else(some false)):Option Bool)>>=fun ac=>if ac=true then(some (.inl false)) else(Z1v.l0 a0 (i64.wrap (aa+1)))) else(some (.inr ()))
partial_fixpoint
def Z1v.f (a0:ByteArray):Option Bool:=((if a0.toList==(⟨#[]⟩:ByteArray).toList then(some true) else(some (decide ((a0.size:Int)>64)))):Option Bool)>>=fun aa=>if aa=true then(some false) else((Z1v.l0 a0 0)>>=fun | .inl rr=>(some rr) | .inr _=>(some true))
theorem Z1v.ok (a0:ByteArray):F0 165 [sV a0] (Z1v.f a0) (fun r=>bV r):=FT [] func165 (.r0<|.join (.sp (fun aa=>.rg [(2,hB aa)]<|.o [])
 (fun aa=>.rg [(2,hB aa)]<|.o []))
 (.st .normal (fun ab=>⟨[(0,sV a0),(12,bV ab)],[],0⟩) fun ab=>.cd (fun ac=>.r0<|.rv ⟨[(2,bV false)],[],0⟩)
 (fun ac=>.r0<|.bl<|.lq (.one (Z1v.l0.partial_correctness a0)) 0 [] (fun _=>.one (fun ae=>⟨[(0,sV a0),(14,qi (a0.size:Int)),(15,qi ae)],[],0⟩) fun ae=>.r0<|.cd (fun af=>.bl<|.r0<|.ck fun ah=>.rg [(2,hN (p2 ah))]<|.join (.sp (fun ai=>.sp (fun aj=>.rg [(2,hB ai),(6,hB aj)]<|.o [])
 (fun aj=>.sp (fun ak=>.sp (fun al=>.rg [(2,hB ai),(6,hB aj),(9,hB ak),(14,hB al)]<|.o [])
 (fun al=>.rg [(2,hB ai),(6,hB aj),(9,hB ak),(14,hB al)]<|.o []))
 (fun ak=>.rg [(2,hB ai),(6,hB aj),(9,hB ak)]<|.o [])))
 (fun ai=>.sp (fun am=>.sp (fun an=>.rg [(2,hB ai),(9,hB am),(14,hB an)]<|.o [])
 (fun an=>.rg [(2,hB ai),(9,hB am),(14,hB an)]<|.o []))
 (fun am=>.rg [(2,hB ai),(9,hB am)]<|.o [])))
 (.st .normal (fun ao=>⟨[(0,sV a0),(3,qi ae),(4,iV .u8 (bt a0 ae)),(5,bV ao),(14,qi (a0.size:Int)),(15,qi ae)],[],0⟩) fun ao=>.join (.sp (fun aq=>.sp (fun ar=>.rg [(2,hB aq),(5,hB ar)]<|.o [])
 (fun ar=>.sp (fun au=>.rg [(2,hB aq),(5,hB ar),(9,hB au)]<|.o [])
 (fun au=>.rg [(2,hB aq),(5,hB ar),(9,hB au)]<|.o [])))
 (fun aq=>.rg [(2,hB aq)]<|.o []))
 (.st .normal (fun av=>⟨[(0,sV a0),(14,qi (a0.size:Int)),(15,qi ae),(52,bV av)],[],0⟩) fun av=>.cd (fun aw=>.r0<|.rv ⟨[(2,bV false)],[],0⟩)
 (fun aw=>.r0<|.bk [] rfl))))
 (fun af=>.o []))
 (.sm (.rt (fun rr=>bV rr) (fun rr=>[]))
 (.st (.exit 0) (fun _=>⟨[],[],0⟩) fun _=>.r0<|.rv ⟨[(2,bV true)],[],0⟩)))))
def Z30.f (a0:ByteArray):Option Bool:=((if !(a0.toList==(⟨#[]⟩:ByteArray).toList) then(some (decide ((a0.size:Int)≤64))) else(some false)):Option Bool)>>=fun aa=>some aa
theorem Z30.ok (a0:ByteArray):F0 166 [sV a0] (Z30.f a0) (fun r=>bV r):=FT [] func166 (.r0<|.join (.sp (fun aa=>.rg [(2,hB aa)]<|.o [])
 (fun aa=>.rg [(2,hB aa)]<|.o []))
 (.st .normal (fun ab=>⟨[(2,bV ab)],[],0⟩) fun ab=>.rv ⟨[(2,bV ab)],[],0⟩))
def Z1x.l0 (a0:List Z1c) (aa:Int):Option (Int ⊕ Unit):=if decide (aa<(a0.length:Int)) then((at? a0 aa)>>=fun ab=>(((Z1v.f ab.f0)>>=fun ac=>if !ac then(some true) else((Z30.f ab.f1)>>=fun ae=>if !ae then(some true) else(if decide (aa>0) then((at? a0 (i64.wrap (aa-1)))>>=fun af=>some (!Op.bytesLess af.f0.toList ab.f0.toList)) else(some false)))):Option Bool)>>=fun ah=>if ah=true then(some (.inl 26)) else(Z1x.l0 a0 (i64.wrap (aa+1)))) else(some (.inr ()))
partial_fixpoint
def Z1x.f (a0:List Z1c):Option Int:=if decide ((a0.length:Int)>16) then(some 9) else((Z1x.l0 a0 0)>>=fun | .inl rr=>(some rr) | .inr _=>(some 0))
theorem Z1x.ok (a0:List Z1c):F0 96 [.im (.row (a0.map Z2i))] (Z1x.f a0) (fun r=>qi r):=FT [] func96 (.r0<|.rg [(1,hG Z2i a0)]<|.cd (fun aa=>.r0<|.rv ⟨[(2,qi 9)],[],0⟩)
 (fun aa=>.rg [(1,hG Z2i a0)]<|.bl<|.lq (.one (Z1x.l0.partial_correctness a0)) 0 [] (fun _=>.one (fun ab=>⟨[(0,im a0 Z2i),(8,im a0 Z2i),(9,qi (ln a0)),(10,qi ab)],[],0⟩) fun ab=>.r0<|.cd (fun ac=>.bl<|.el fun ae af ah=>.rg [(1,hA Z2i af ah),(3,⟨.k 1,.n⟩)]<|.join (.bd fun ai aj=>.sp (fun ak=>.rg [(2,qh call165 (Z1v.ok ae.f0 ai aj)),(4,hB ak)]<|.o [])
 (fun ak=>.bd fun al am=>.sp (fun an=>.rg [(2,qh call165 (Z1v.ok ae.f0 ai aj)),(4,hB ak),(7,qh call166 (Z30.ok ae.f1 al am)),(10,hB an)]<|.o [])
 (fun an=>.sp (fun ao=>.el fun aq ar au=>.rg [(2,qh call165 (Z1v.ok ae.f0 ai aj)),(4,hB ak),(7,qh call166 (Z30.ok ae.f1 al am)),(10,hB an),(13,hB ao),(17,hA Z2i ar au)]<|.o [])
 (fun ao=>.rg [(2,qh call165 (Z1v.ok ae.f0 ai aj)),(4,hB ak),(7,qh call166 (Z30.ok ae.f1 al am)),(10,hB an),(13,hB ao)]<|.o []))))
 (.st .normal (fun av=>⟨[(0,im a0 Z2i),(8,im a0 Z2i),(9,qi (ln a0)),(10,qi ab),(39,bV av)],[],0⟩) fun av=>.cd (fun aw=>.r0<|.rv ⟨[(2,qi 26)],[],0⟩)
 (fun aw=>.r0<|.bk [] rfl)))
 (fun ac=>.o []))
 (.sm (.rt (fun rr=>qi rr) (fun rr=>[]))
 (.st (.exit 0) (fun _=>⟨[],[],0⟩) fun _=>.r0<|.rv ⟨[(2,qi 0)],[],0⟩))))
def Z17.l0 (aa:ByteArray) (ab:List ByteArray):Option (((List Z1c)×Int) ⊕ (List ByteArray)):=if decide ((aa.size:Int)>0) then((chk (0≤(0:Int)∧(0:Int)<(aa.size:Int)))>>=fun _=>if decide ((i64.wrap (bt aa 0))>(i64.wrap ((aa.size:Int)-1))) then(some (.inl ([],6))) else((chk (0≤(1:Int)∧(1:Int)≤(i64.wrap ((1:Int)+(i64.wrap (bt aa 0))))∧(i64.wrap ((1:Int)+(i64.wrap (bt aa 0))))≤(aa.size:Int)))>>=fun _=>(chk ((ab.length+[aa.extract (1:Int).toNat ((i64.wrap ((1:Int)+(i64.wrap (bt aa 0))))).toNat].length)*16≤140737488355328))>>=fun _=>(chk (0≤(i64.wrap ((1:Int)+(i64.wrap (bt aa 0))))∧(i64.wrap ((1:Int)+(i64.wrap (bt aa 0))))≤(aa.size:Int)∧(aa.size:Int)≤(aa.size:Int)))>>=fun _=>Z17.l0  (aa.extract ((i64.wrap ((1:Int)+(i64.wrap (bt aa 0))))).toNat (aa.size:Int).toNat) (ab++[aa.extract (1:Int).toNat ((i64.wrap ((1:Int)+(i64.wrap (bt aa 0))))).toNat]))) else(some (.inr ab))
partial_fixpoint
def Z17.l1 (aa:List ByteArray) (ab:List Z1c) (ac:Int):Option (List Z1c):=if decide (ac<(aa.length:Int)) then((at? aa ac)>>=fun ae=>(at? aa (i64.wrap (ac+1)))>>=fun af=>(chk ((ab.length+[(⟨ae,af⟩:Z1c)].length)*32≤140737488355328))>>=fun _=>Z17.l1 aa (ab++[(⟨ae,af⟩:Z1c)]) (i64.wrap (ac+2))) else(some ab)
partial_fixpoint
def Z17.f (a0:ByteArray):Option ((List Z1c)×Int):=(Z17.l0  a0 [])>>=fun | .inl rr=>(some rr) | .inr aa=>(if(Int.tmod (aa.length:Int) (2:Int))==1 then(some ([],6)) else((Z17.l1 aa [] 0)>>=fun ab=>(Z1x.f ab)>>=fun ac=>if ac != 0 then(some ([],6)) else(some (ab,0))))
theorem Z17.ok (a0:ByteArray):FN 49 [sV a0] [] 0 (Z17.f a0) (fun r=>.tup [.own 0,qi r.2]) (fun r=>[q1 0 r.1]):=FT [0] func49 (.r0<|.r0<|.bl<|.loop (.c2 (Z17.l0.partial_correctness )) (a0,[]) [] [] [2] (fun _=>.pr fun aa=>.one (fun ab=>⟨[(0,sV aa),(4,.own 2)],[q0 2 ab],0⟩) fun ab=>.r0<|.cd (fun ac=>.bl<|.ck fun ae=>.rg [(1,hN (p2 ae))]<|.r0<|.cd (fun af=>.r0<|.ret [] [] [0] ⟨[(2,.own 0),(3,qi 6)],[q1 0 []],0⟩)
 (fun af=>.ck fun ah=>.ck fun ai=>.rg [(4,hN (p3 ah)),(5,hQ 3 encStr ([aa.extract (Int.toNat (1:Int)) (Int.toNat ((i64.wrap ((1:Int)+(i64.wrap (bt aa 0))))))]:List ByteArray)),(6,hP 4 encStr 1 ai)]<|.ck fun aj=>.rg [(3,hN (p3 aj))]<|.bk [(4,2)] rfl))
 (fun ac=>.o [(2,5)]))
 (.sm (.rt (fun rr=>.tup [.own 0,qi rr.2]) (fun rr=>[q1 0 rr.1]))
 (.st (.exit 0) (fun ak=>⟨[(4,.own 5)],[q0 5 ak],0⟩) fun ak=>.rg [(1,hG encStr ak),(2,hJ 2)]<|.cd (fun al=>.r0<|.ret [] [] [0] ⟨[(2,.own 0),(3,qi 6)],[q1 0 []],0⟩)
 (fun al=>.r0<|.r0<|.bl<|.loop (.c2 (Z17.l1.partial_correctness ak)) ([],0) [(5,8)] [] [9] (fun _=>.pr fun am=>.one (fun an=>⟨[(4,.own 8),(6,.own 9),(7,qi an)],[q0 8 ak,q1 9 am],0⟩) fun an=>.rg [(2,hG encStr ak)]<|.cd (fun ao=>.bl<|.el fun aq ar au=>.el fun av aw ax=>.ck fun ay=>.rg [(3,hX encStr ar au),(4,hL encStr au),(8,hX encStr aw ax),(9,hL encStr ax),(11,hQ 10 Z2i ([(⟨aq,av⟩:Z1c)]:List Z1c)),(12,hP 11 Z2i 2 ay)]<|.r0<|.bk [(8,8),(11,9)] rfl)
 (fun ao=>.o [(9,12)]))
 (.st (.exit 2) (fun az=>⟨[(6,.own 12)],[q1 12 az],0⟩) fun az=>.bd fun a8 a9=>.rg [(1,h3 12 call96 (Z1x.ok az a8 a9))]<|.cd (fun ba=>.r0<|.ret [] [] [0] ⟨[(2,.own 0),(3,qi 6)],[q1 0 []],0⟩)
 (fun ba=>.r0<|.ru [(12,0)] ⟨[(2,.own 0),(3,qi 0)],[q1 0 az],0⟩))))))
def Z1m.f (a0:Int):Option Bool:=((if decide (a0≥(-4)) then(some (decide (a0≤8))) else(some false)):Option Bool)>>=fun aa=>some aa
theorem Z1m.ok (a0:Int):F0 175 [qi a0] (Z1m.f a0) (fun r=>bV r):=FT [] func175 (.r0<|.join (.sp (fun aa=>.rg [(2,hB aa)]<|.o [])
 (fun aa=>.rg [(2,hB aa)]<|.o []))
 (.st .normal (fun ab=>⟨[(2,bV ab)],[],0⟩) fun ab=>.rv ⟨[(2,bV ab)],[],0⟩))
def Z31.f (a0:Int):Option Unit:=some ()
theorem Z31.ok (a0:Int):F0 242 [qi a0] (Z31.f a0) (fun r=>qu (u64.wrap (i64.wrap ((8:Int)-a0)))):=FT [] func242 (.r0<|.r0<|.rv ⟨[(2,qu (u64.wrap (i64.wrap ((8:Int)-a0))))],[],0⟩)
def Z3d.f (a0:Int):Option Int:=(Z1m.f a0)>>=fun aa=>if !aa then(some 0) else((Z31.f a0)>>=fun ab=>(chk (0≤(u64.wrap (i64.wrap ((8:Int)-a0)))))>>=fun _=>some (Int.fdiv (262144:Int) (2 ^ (min (u64.wrap (i64.wrap ((8:Int)-a0))).toNat 64))))
theorem Z3d.ok (a0:Int):F0 233 [qi a0] (Z3d.f a0) (fun r=>qi r):=FT [] func233 (.r0<|.bd fun aa ab=>.rg [(1,qh call175 (Z1m.ok a0 aa ab))]<|.cd (fun ac=>.r0<|.rv ⟨[(2,qi 0)],[],0⟩)
 (fun ac=>.bd fun ae af=>.ck fun ah=>.rg [(1,qh call242 (Z31.ok a0 ae af)),(2,hN (p1 ah))]<|.rv ⟨[(2,qi (Int.fdiv (262144:Int) (2 ^ (min (Int.toNat (u64.wrap (i64.wrap ((8:Int)-a0)))) 64))))],[],0⟩))
def Z3x.f (a0:Int):Option Int:=(Z3d.f a0)>>=fun aa=>some (i64.wrap ((i64.wrap (0-aa))+1))
theorem Z3x.ok (a0:Int):F0 232 [qi a0] (Z3x.f a0) (fun r=>qi r):=FT [] func232 (.r0<|.bd fun aa ab=>.rg [(1,qh call233 (Z3d.ok a0 aa ab))]<|.rv ⟨[(2,qi (i64.wrap ((i64.wrap (0-aa))+1)))],[],0⟩)
def Z52.f (a0 a1:Int):Option Bool:=(((Z1m.f a0)>>=fun aa=>if aa=true then((Z3x.f a0)>>=fun ab=>if decide (a1≥ab) then((Z3d.f a0)>>=fun ac=>some (decide (a1≤ac))) else(some false)) else(some false)):Option Bool)>>=fun ae=>some ae
theorem Z52.ok (a0 a1:Int):F0 211 [qi a0,qi a1] (Z52.f a0 a1) (fun r=>bV r):=FT [] func211 (.r0<|.join (.bd fun aa ab=>.sp (fun ac=>.bd fun ae af=>.sp (fun ah=>.bd fun ai aj=>.rg [(1,qh call175 (Z1m.ok a0 aa ab)),(2,hB ac),(5,qh call232 (Z3x.ok a0 ae af)),(8,hB ah),(11,qh call233 (Z3d.ok a0 ai aj))]<|.o [])
 (fun ah=>.rg [(1,qh call175 (Z1m.ok a0 aa ab)),(2,hB ac),(5,qh call232 (Z3x.ok a0 ae af)),(8,hB ah)]<|.o []))
 (fun ac=>.rg [(1,qh call175 (Z1m.ok a0 aa ab)),(2,hB ac)]<|.o []))
 (.st .normal (fun ak=>⟨[(4,bV ak)],[],0⟩) fun ak=>.rv ⟨[(4,bV ak)],[],0⟩))
def Z3w.f (a0 a1:Int):Option Int:=(Z1m.f a0)>>=fun aa=>if !aa then(some 0) else((Z31.f a0)>>=fun ab=>(chk (0≤(u64.wrap (i64.wrap ((8:Int)-a0)))))>>=fun _=>some (i64.wrap (a1*2 ^ (min (u64.wrap (i64.wrap ((8:Int)-a0))).toNat 64))))
theorem Z3w.ok (a0 a1:Int):F0 234 [qi a0,qi a1] (Z3w.f a0 a1) (fun r=>qi r):=FT [] func234 (.r0<|.bd fun aa ab=>.rg [(1,qh call175 (Z1m.ok a0 aa ab))]<|.cd (fun ac=>.r0<|.rv ⟨[(4,qi 0)],[],0⟩)
 (fun ac=>.bd fun ae af=>.ck fun ah=>.rg [(2,qh call242 (Z31.ok a0 ae af)),(3,hN (p1 ah))]<|.rv ⟨[(4,qi (i64.wrap (a1*2 ^ (min (Int.toNat (u64.wrap (i64.wrap ((8:Int)-a0)))) 64))))],[],0⟩))
def Z4i.f (a0 a1:Int):Option Int:=(Z3w.f a0 (i64.wrap (a1-1)))>>=fun aa=>some aa
theorem Z4i.ok (a0 a1:Int):F0 212 [qi a0,qi a1] (Z4i.f a0 a1) (fun r=>qi r):=FT [] func212 (.r0<|.bd fun aa ab=>.rg [(3,qh call234 (Z3w.ok a0 (i64.wrap (a1-1)) aa ab))]<|.rv ⟨[(4,qi aa)],[],0⟩)
def Z0y.l0 (a0:Z20) (a1:List Z0v) (aa:Int):Option (Int ⊕ Unit):=if decide (aa<(a1.length:Int)) then((at? a1 aa)>>=fun ab=>(Z52.f a0.f1 ab.f0)>>=fun ac=>if !ac then(some (.inl 4)) else(((if decide (aa>0) then((at? a1 (i64.wrap (aa-1)))>>=fun ae=>some (decide (ae.f0≥ab.f0))) else(some false)):Option Bool)>>=fun af=>if af=true then(some (.inl 32)) else(if ab.f1==0 then(some (.inl 21)) else((Z4i.f a0.f1 ab.f0)>>=fun ah=>if decide (ah<a0.f2) then(some (.inl 31)) else(Z0y.l0 a0 a1 (i64.wrap (aa+1))))))) else(some (.inr ()))
partial_fixpoint
def Z0y.f (a0:Z20) (a1:List Z0v):Option Int:=if decide ((a1.length:Int)>512) then(some 9) else((Z0y.l0 a0 a1 0)>>=fun | .inl rr=>(some rr) | .inr _=>(some 0))
abbrev w2_ (k:Nat) (x:Z0v):Nat×Option MObj:=BW 193 aBucket k x
theorem Z0y.ok (a0:Z20) (a1:List Z0v):F0 176 [.agg (aHist a0),.im (.row (a1.map Z0r))] (Z0y.f a0 a1) (fun r=>qi r):=FT [] func176 (.rg [(0,⟨.k 0,.n⟩)]<|.rg [(1,hG Z0r a1)]<|.cd (fun aa=>.r0<|.rv ⟨[(4,qi 9)],[],0⟩)
 (fun aa=>.rg [(1,hG Z0r a1)]<|.bl<|.lq (.one (Z0y.l0.partial_correctness a0 a1)) 0 [(0,2)] (fun _=>.one (fun ab=>⟨[(1,im a1 Z0r),(2,.ptr 2 0 0),(10,im a1 Z0r),(11,qi (ln a1)),(12,qi ab)],[w0_ 2 a0],0⟩) fun ab=>.r0<|.cd (fun ac=>.bl<|.el fun ae af ah=>.rg [(1,hA Z0r af ah),(3,⟨.k 3,.n⟩)]<|.bl<|.bd fun ai aj=>.rg [(4,qh call211 (Z52.ok a0.f1 ae.f0 ai aj))]<|.cd (fun ak=>.r0<|.rv ⟨[(4,qi 4)],[],0⟩)
 (fun ak=>.join (.sp (fun al=>.el fun am an ao=>.rg [(2,hB al),(6,hA Z0r an ao)]<|.o [(2,4),(3,5)])
 (fun al=>.rg [(2,hB al)]<|.o [(2,4),(3,5)]))
 (.st .normal (fun aq=>⟨[(1,im a1 Z0r),(2,.ptr 4 0 0),(6,.ptr 5 0 0),(10,im a1 Z0r),(11,qi (ln a1)),(12,qi ab),(24,bV aq)],[w0_ 4 a0,w2_ 5 ae],0⟩) fun aq=>.cd (fun ar=>.r0<|.rv ⟨[(4,qi 32)],[],0⟩)
 (fun ar=>.r0<|.cd (fun au=>.r0<|.rv ⟨[(4,qi 21)],[],0⟩)
 (fun au=>.bd fun av aw=>.rg [(4,qh call212 (Z4i.ok a0.f1 ae.f0 av aw))]<|.cd (fun ax=>.r0<|.rv ⟨[(4,qi 31)],[],0⟩)
 (fun ax=>.r0<|.bk [(4,2)] rfl))))))
 (fun ac=>.o []))
 (.sm (.rt (fun rr=>qi rr) (fun rr=>[]))
 (.st (.exit 0) (fun _=>⟨[],[],0⟩) fun _=>.r0<|.rv ⟨[(4,qi 0)],[],0⟩))))
def Z2z.l0 (a0:List Int) (aa ab:Int):Option ((Int×Int) ⊕ Int):=if decide (ab<(a0.length:Int)) then((at? a0 ab)>>=fun ac=>(chk (0≤aa∧0≤ac∧0≤(0:Int)∧(0:Int)≤1))>>=fun _=>if((aa+ac+0) / 18446744073709551616) != 0 then(some (.inl (0,5))) else(Z2z.l0 a0 ((aa+ac+0) % 18446744073709551616) (i64.wrap (ab+1)))) else(some (.inr aa))
partial_fixpoint
def Z2z.f (a0:List Int):Option (Int×Int):=(Z2z.l0 a0 0 0)>>=fun | .inl rr=>(some rr) | .inr aa=>(some (aa,0))
theorem Z2z.ok (a0:List Int):F0 213 [.im (.row (a0.map qv))] (Z2z.f a0) (fun r=>.tup [qu r.1,qi r.2]):=FT [] func213 (.r0<|.r0<|.rg [(1,hG qv a0)]<|.bl<|.lq (.c2 (Z2z.l0.partial_correctness a0)) (0,0) [] (fun _=>.pr fun aa=>.one (fun ab=>⟨[(4,qu aa),(9,im a0 qv),(10,qi (ln a0)),(11,qi ab)],[],0⟩) fun ab=>.r0<|.cd (fun ac=>.bl<|.el fun ae af ah=>.rg [(0,hA qv af ah)]<|.ck fun ai=>.rg [(2,⟨.ext (.tup [qu ((aa+ae+0) % 18446744073709551616),qu ((aa+ae+0) / 18446744073709551616)]),.c (p:=∀ w,(callFunc 235 ([.int .u64 aa,.int .u64 ae,.int .u64 (0:Int)]:List Value).toArray).run Tryz.prog w = .ok (.value (.tuple #[.int .u64 ((aa+ae+0) % 18446744073709551616),.int .u64 ((aa+ae+0) / 18446744073709551616)])) w) (fun w=>x_add64 (fn:=Tryz.f235) func235 (by kernel_rfl) rfl (by kernel_rfl) (by kernel_rfl) ai w) .n⟩)]<|.r0<|.cd (fun aj=>.r0<|.rv ⟨[(2,qu 0),(3,qi 5)],[],0⟩)
 (fun aj=>.r0<|.r0<|.bk [] rfl))
 (fun ac=>.o []))
 (.sm (.rt (fun rr=>.tup [qu rr.1,qi rr.2]) (fun rr=>[]))
 (.st (.exit 0) (fun ak=>⟨[(4,qu ak)],[],0⟩) fun ak=>.r0<|.rv ⟨[(2,qu ak),(3,qi 0)],[],0⟩)))
def Z1g.l1 (a0:List (List Z0v)) (aa:List Z0v) (ab ac ae:Int):Option ((Int×Int) ⊕ Int):=if decide (ae<(aa.length:Int)) then((at? aa ae)>>=fun af=>(Z2z.f [ac,af.f1])>>=fun ah=>if ah.2 != 0 then(some (.inl (0,ah.2))) else(Z1g.l1 a0 aa ab ah.1 (i64.wrap (ae+1)))) else(some (.inr ac))
partial_fixpoint
def Z1g.l0 (a0:List (List Z0v)) (aa ab:Int):Option ((Int×Int) ⊕ Int):=if decide (ab<(a0.length:Int)) then((at? a0 ab)>>=fun ac=>(Z1g.l1 a0 ac ab aa 0)>>=fun | .inl rr=>(some (.inl rr)) | .inr ae=>(Z1g.l0 a0 ae (i64.wrap (ab+1)))) else(some (.inr aa))
partial_fixpoint
def Z1g.f (a0:List (List Z0v)):Option (Int×Int):=(Z1g.l0 a0 0 0)>>=fun | .inl rr=>(some rr) | .inr aa=>(some (aa,0))
theorem Z1g.ok (a0:List (List Z0v)):F0 177 [.im (.row (a0.map (Z6b Z0r)))] (Z1g.f a0) (fun r=>.tup [qu r.1,qi r.2]):=FT [] func177 (.r0<|.r0<|.rg [(1,hG (Z6b Z0r) a0)]<|.bl<|.lq (.c2 (Z1g.l0.partial_correctness a0)) (0,0) [] (fun _=>.pr fun aa=>.one (fun ab=>⟨[(4,qu aa),(10,im a0 (Z6b Z0r)),(11,qi (ln a0)),(12,qi ab)],[],0⟩) fun ab=>.r0<|.cd (fun ac=>.bl<|.el fun ae af ah=>.rg [(0,hA (Z6b Z0r) af ah)]<|.rg [(1,hG Z0r ae)]<|.bl<|.lq (.c2 (Z1g.l1.partial_correctness a0 ae ab)) (aa,0) [] (fun _=>.pr fun ai=>.one (fun aj=>⟨[(4,qu ai),(10,im a0 (Z6b Z0r)),(11,qi (ln a0)),(12,qi ab),(16,im ae Z0r),(17,qi (ln ae)),(18,qi aj)],[],0⟩) fun aj=>.r0<|.cd (fun ak=>.bl<|.el fun al am an=>.rg [(0,hA Z0r am an),(2,⟨.k 6,.n⟩)]<|.r0<|.bd fun ao aq=>.rg [(3,hQ 7 qv ([ai,al.f1]:List Int)),(4,h3 7 call213 (Z2z.ok [ai,al.f1] ao aq))]<|.r0<|.cd (fun ar=>.r0<|.rv ⟨[(2,qu 0),(3,qi ao.2)],[],0⟩)
 (fun ar=>.r0<|.bk [] rfl))
 (fun ak=>.o []))
 (.sm (.rt (fun rr=>.tup [qu rr.1,qi rr.2]) (fun rr=>[]))
 (.st (.exit 2) (fun au=>⟨[(4,qu au),(10,im a0 (Z6b Z0r)),(11,qi (ln a0)),(12,qi ab)],[],0⟩) fun au=>.r0<|.bk [] rfl)))
 (fun ac=>.o []))
 (.sm (.rt (fun rr=>.tup [qu rr.1,qi rr.2]) (fun rr=>[]))
 (.st (.exit 0) (fun av=>⟨[(4,qu av)],[],0⟩) fun av=>.r0<|.rv ⟨[(2,qu av),(3,qi 0)],[],0⟩)))
def Z1q.l0 (a0:Z20) (aa:Int):Option (Int ⊕ Unit):=if decide (aa<2) then((((chk (0≤aa∧aa<2))>>=fun _=>if aa==0 then(some a0.f6) else(some a0.f7)):Option (List Z0v))>>=fun ab=>(Z0y.f a0 ab)>>=fun ac=>if ac != 0 then(some (.inl ac)) else(Z1q.l0 a0 (i64.wrap (aa+1)))) else(some (.inr ()))
partial_fixpoint
def Z1q.f (a0:Z20):Option Int:=((if a0.f0 != 0 then(some (a0.f0 != 1)) else(some false)):Option Bool)>>=fun aa=>if aa=true then(some 25) else((Z1m.f a0.f1)>>=fun ab=>if !ab then(some 20) else(((if a0.f2 != (-524288) then(if decide (a0.f2≤(-262144)) then(some true) else(some (decide (a0.f2>262144)))) else(some false)):Option Bool)>>=fun ac=>if ac=true then(some 31) else((Z1q.l0 a0 0)>>=fun | .inl rr=>(some rr) | .inr _=>((Z1g.f [a0.f6,a0.f7,[(⟨0,a0.f3⟩:Z0v)]])>>=fun ae=>if ae.2 != 0 then(some ae.2) else(if ae.1 != a0.f4 then(some 21) else(some 0))))))
theorem Z1q.ok (a0:Z20):F0 108 [.agg (aHist a0)] (Z1q.f a0) (fun r=>qi r):=FT [] func108 (.rg [(0,⟨.k 0,.n⟩)]<|.bl<|.join (.sp (fun aa=>.rg [(3,hB aa)]<|.o [(0,1)])
 (fun aa=>.rg [(3,hB aa)]<|.o [(0,1)]))
 (.st .normal (fun ab=>⟨[(1,.ptr 1 0 0),(8,bV ab)],[w0_ 1 a0],0⟩) fun ab=>.cd (fun ac=>.r0<|.rv ⟨[(2,qi 25)],[],0⟩)
 (fun ac=>.bd fun ae af=>.rg [(2,qh call175 (Z1m.ok a0.f1 ae af))]<|.cd (fun ah=>.r0<|.rv ⟨[(2,qi 20)],[],0⟩)
 (fun ah=>.join (.sp (fun ai=>.sp (fun aj=>.rg [(3,hB ai),(7,hB aj)]<|.o [(1,2)])
 (fun aj=>.rg [(3,hB ai),(7,hB aj)]<|.o [(1,2)]))
 (fun ai=>.rg [(3,hB ai)]<|.o [(1,2)]))
 (.st .normal (fun ak=>⟨[(1,.ptr 2 0 0),(22,bV ak)],[w0_ 2 a0],0⟩) fun ak=>.cd (fun al=>.r0<|.rv ⟨[(2,qi 31)],[],0⟩)
 (fun al=>.r0<|.bl<|.lq (.one (Z1q.l0.partial_correctness a0)) 0 [(2,3)] (fun _=>.one (fun am=>⟨[(1,.ptr 3 0 0),(40,.agg [im a0.f6 Z0r,im a0.f7 Z0r]),(41,qi am)],[w0_ 3 a0],0⟩) fun am=>.r0<|.cd (fun an=>.bl<|.join (.ck fun ao=>.sp (fun aq=>.rg [(0,⟨.more (xIdx 0),.c (p:=am=((0:Nat):Int)) (by simpa using aq) .n⟩)]<|.o [(3,4)])
 (fun aq=>.rg [(0,⟨.more (xIdx 1),.c (p:=am=((1:Nat):Int)) (by have:=ao;simp only[beq_eq_false_iff_ne] at *;omega) .n⟩)]<|.o [(3,4)]))
 (.st .normal (fun ar=>⟨[(1,.ptr 4 0 0),(4,im ar Z0r),(40,.agg [im a0.f6 Z0r,im a0.f7 Z0r]),(41,qi am)],[w0_ 4 a0],0⟩) fun ar=>.bd fun au av=>.rg [(2,qh call176 (Z0y.ok a0 ar au av))]<|.r0<|.cd (fun aw=>.r0<|.rv ⟨[(2,qi au)],[],0⟩)
 (fun aw=>.r0<|.bk [(4,3)] rfl)))
 (fun an=>.o [(3,5)]))
 (.sm (.rt (fun rr=>qi rr) (fun rr=>[]))
 (.st (.exit 1) (fun _=>⟨[(1,.ptr 5 0 0)],[w0_ 5 a0],0⟩) fun _=>.bd fun ax ay=>.rg [(7,fzI (hQ 6 Z0r ([(⟨0,a0.f3⟩:Z0v)]:List Z0v))),(8,hQ 7 (Z6b Z0r) ([a0.f6,a0.f7,[(⟨0,a0.f3⟩:Z0v)]]:List (List Z0v))),(9,h3 7 call177 (Z1g.ok [a0.f6,a0.f7,[(⟨0,a0.f3⟩:Z0v)]] ax ay))]<|.bl<|.r0<|.cd (fun az=>.r0<|.rv ⟨[(2,qi ax.2)],[],0⟩)
 (fun az=>.r0<|.cd (fun a8=>.r0<|.rv ⟨[(2,qi 21)],[],0⟩)
 (fun a8=>.r0<|.rv ⟨[(2,qi 0)],[],0⟩))))))))))
def Z26.l0 (a0:List Zi) (aa:Int):Option (Bool ⊕ Unit):=if decide (aa<(a0.length:Int)) then((at? a0 aa)>>=fun ab=>((if decide (ab.f0<0) then(some true) else(if decide (ab.f0>1099511627776) then(some true) else((Z1q.f ab.f1)>>=fun ac=>if ac != 0 then(some true) else(if decide (aa>0) then((at? a0 (i64.wrap (aa-1)))>>=fun ae=>some (decide (ae.f0≥ab.f0))) else(some false))))):Option Bool)>>=fun af=>if af=true then(some (.inl false)) else(Z26.l0 a0 (i64.wrap (aa+1)))) else(some (.inr ()))
partial_fixpoint
def Z26.f (a0:List Zi):Option Bool:=(Z26.l0 a0 0)>>=fun | .inl rr=>(some rr) | .inr _=>(some true)
theorem Z26.ok (a0:List Zi):F0 56 [.im (.row (a0.map Ze))] (Z26.f a0) (fun r=>bV r):=FT [] func56 (.r0<|.rg [(1,hG Ze a0)]<|.bl<|.lq (.one (Z26.l0.partial_correctness a0)) 0 [] (fun _=>.one (fun aa=>⟨[(0,im a0 Ze),(5,im a0 Ze),(6,qi (ln a0)),(7,qi aa)],[],0⟩) fun aa=>.r0<|.cd (fun ab=>.bl<|.el fun ac ae af=>.rg [(1,hA Ze ae af),(3,⟨.k 1,.n⟩)]<|.join (.sp (fun ah=>.rg [(3,hB ah)]<|.o [])
 (fun ah=>.sp (fun ai=>.rg [(3,hB ah),(8,hB ai)]<|.o [])
 (fun ai=>.bd fun aj ak=>.sp (fun al=>.rg [(3,hB ah),(8,hB ai),(11,qh call108 (Z1q.ok ac.f1 aj ak)),(14,hB al)]<|.o [])
 (fun al=>.sp (fun am=>.el fun an ao aq=>.rg [(3,hB ah),(8,hB ai),(11,qh call108 (Z1q.ok ac.f1 aj ak)),(14,hB al),(17,hB am),(21,hA Ze ao aq)]<|.o [])
 (fun am=>.rg [(3,hB ah),(8,hB ai),(11,qh call108 (Z1q.ok ac.f1 aj ak)),(14,hB al),(17,hB am)]<|.o [])))))
 (.st .normal (fun ar=>⟨[(0,im a0 Ze),(5,im a0 Ze),(6,qi (ln a0)),(7,qi aa),(40,bV ar)],[],0⟩) fun ar=>.cd (fun au=>.r0<|.rv ⟨[(2,bV false)],[],0⟩)
 (fun au=>.r0<|.bk [] rfl)))
 (fun ab=>.o []))
 (.sm (.rt (fun rr=>bV rr) (fun rr=>[]))
 (.st (.exit 0) (fun _=>⟨[],[],0⟩) fun _=>.r0<|.rv ⟨[(2,bV true)],[],0⟩)))
end Go.Proofs.YtpoihfcehejgfaaGreat.PvGS
