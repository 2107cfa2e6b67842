import Derived.Test.YtpoihfcehejgfaaProg
import Derived.Test.YtpoihfcehejgfaaPxBlockJoins06
set_option linter.unusedVariables false
set_option linter.unnecessarySimpa false
set_option linter.unusedSimpArgs false
set_option maxRecDepth 10000
namespace Go.Proofs.Ytpoihfcehejgfaa.PvGP
open Go Go.Pv Try Go.IntKind
structure Z0f where
 f0:Int
 f1:Int
 deriving DecidableEq,Inhabited
abbrev Z0d (x:Z0f):List Im:=[iI .i64 x.f0,iI .u64 x.f1]
abbrev aBucket (x:Z0f):List AVal:=[iV .i64 x.f0,iV .u64 x.f1]
structure RBucket (x:Z0f):Prop where
 r0:I64 x.f0
 r1:U64 x.f1
structure Z1c where
 f0:Int
 f1:Int
 f2:Int
 f3:Int
 f4:Int
 f5:Int
 f6:List Z0f
 f7:List Z0f
 deriving DecidableEq,Inhabited
abbrev eHist (x:Z1c):List Im:=[iI .i64 x.f0,iI .i64 x.f1,iI .i64 x.f2,iI .u64 x.f3,iI .u64 x.f4,iI .i64 x.f5,.row (x.f6.map Z0d),.row (x.f7.map Z0d)]
abbrev aHist (x:Z1c):List AVal:=[iV .i64 x.f0,iV .i64 x.f1,iV .i64 x.f2,iV .u64 x.f3,iV .u64 x.f4,iV .i64 x.f5,.im (.row (x.f6.map Z0d)),.im (.row (x.f7.map Z0d))]
structure RHist (x:Z1c):Prop where
 r0:I64 x.f0
 r1:I64 x.f1
 r2:I64 x.f2
 r3:U64 x.f3
 r4:U64 x.f4
 r5:I64 x.f5
 r6:x.f6.length≤1048576∧∀ y∈x.f6,RBucket y
 r7:x.f7.length≤1048576∧∀ y∈x.f7,RBucket y
structure Zf where
 f0:Int
 f1:Z1c
 deriving DecidableEq,Inhabited
abbrev Zc (x:Zf):List Im:=[iI .i64 x.f0,iI .i64 x.f1.f0,iI .i64 x.f1.f1,iI .i64 x.f1.f2,iI .u64 x.f1.f3,iI .u64 x.f1.f4,iI .i64 x.f1.f5,.row (x.f1.f6.map Z0d),.row (x.f1.f7.map Z0d)]
abbrev aSample (x:Zf):List AVal:=[iV .i64 x.f0,iV .i64 x.f1.f0,iV .i64 x.f1.f1,iV .i64 x.f1.f2,iV .u64 x.f1.f3,iV .u64 x.f1.f4,iV .i64 x.f1.f5,.im (.row (x.f1.f6.map Z0d)),.im (.row (x.f1.f7.map Z0d))]
structure RSample (x:Zf):Prop where
 r0:I64 x.f0
 r1:RHist x.f1
structure Z2 where
 f0:ByteArray
 f1:List Zf
 deriving DecidableEq,Inhabited
abbrev Z0 (x:Z2):List Im:=[sI x.f0,.row (x.f1.map Zc)]
abbrev Z26 (x:Z2):List AVal:=[sV x.f0,.im (.row (x.f1.map Zc))]
structure Z2s (x:Z2):Prop where
 r0:x.f0.size≤1048576
 r1:x.f1.length≤1048576∧∀ y∈x.f1,RSample y
structure Z0q where
 f0:ByteArray
 f1:ByteArray
 deriving DecidableEq,Inhabited
abbrev Z1t (x:Z0q):List Im:=[sI x.f0,sI x.f1]
abbrev aLabel (x:Z0q):List AVal:=[sV x.f0,sV x.f1]
structure RLabel (x:Z0q):Prop where
 r0:x.f0.size≤1048576
 r1:x.f1.size≤1048576
structure Z1x where
 f0:Int
 f1:Int
 f2:Int
 deriving DecidableEq,Inhabited
abbrev Z9p (x:Z1x):List AVal:=[iV .i64 x.f0,iV .i64 x.f1,iV .i64 x.f2]
structure Rblock_Meta (x:Z1x):Prop where
 r0:I64 x.f0
 r1:I64 x.f1
 r2:I64 x.f2
structure Z3 where
 f0:Z1x
 f1:List Z2
 deriving DecidableEq,Inhabited
abbrev Z1 (x:Z3):List Im:=[iI .i64 x.f0.f0,iI .i64 x.f0.f1,iI .i64 x.f0.f2,.row (x.f1.map Z0)]
abbrev ablock_Block (x:Z3):List AVal:=[iV .i64 x.f0.f0,iV .i64 x.f0.f1,iV .i64 x.f0.f2,.im (.row (x.f1.map Z0))]
structure Rblock_Block (x:Z3):Prop where
 r0:Rblock_Meta x.f0
 r1:x.f1.length≤1048576∧∀ y∈x.f1,Z2s y
structure Z0i where
 f0:Int
 f1:Int
 deriving DecidableEq,Inhabited
abbrev Z0g (x:Z0i):List Im:=[iI .i64 x.f0,iI .i64 x.f1]
abbrev atomb_Range (x:Z0i):List AVal:=[iV .i64 x.f0,iV .i64 x.f1]
structure Rtomb_Range (x:Z0i):Prop where
 r0:I64 x.f0
 r1:I64 x.f1
structure Z0v where
 f0:List Z0i
 deriving DecidableEq,Inhabited
structure Rtomb_Set (x:Z0v):Prop where
 r0:x.f0.length≤1048576∧∀ y∈x.f0,Rtomb_Range y
structure Z32 where
 f0:Int
 f1:Int
 f2:Int
 f3:List Z2
 deriving DecidableEq,Inhabited
abbrev Z5x (x:Z32):List AVal:=[iV .i64 x.f0,iV .i64 x.f1,iV .i64 x.f2,.im (.row (x.f3.map Z0))]
structure Rr16_Block (x:Z32):Prop where
 r0:I64 x.f0
 r1:I64 x.f1
 r2:I64 x.f2
 r3:x.f3.length≤1048576∧∀ y∈x.f3,Z2s y
theorem hmx:Try.prog.follows .mixedOrders=true:=by kernel_rfl
abbrev FN (f:Nat) (A:List AVal) (O:List (Nat×Option MObj)) (k:Nat) {ρ:Type} (y:Option ρ) (x:ρ→AVal) (o:ρ→List (Nat×Option MObj)):Prop:=∀ r,y=some r→Pv.Fn Try.prog f A O k (fun a b=>a=x r∧b=o r)
theorem FT {f:Nat} {fn:Func} {c:Code} {A:List AVal} {O:List (Nat×Option MObj)} {k:Nat} {ρ:Type} {y:Option ρ} {x:ρ→AVal} {o:ρ→List (Nat×Option MObj)} (keys:List Nat) (hf:Try.prog.funcs[f]? = some fn) (t:HT (fun q:Empty=>(nomatch q:Option ρ)) y) (hb:fn.body=some c:=by rfl) (hn:Nat.ble A.length fn.ntmps=true:=by rfl) (hk:t.chk ⟨Try.prog,fn.ntmps,fn,k,keys⟩ 0 (fun r=>.ret (x r) (o r)) (fun q=>nomatch q) c [] ⟨Z3e A 0,O,k⟩=t.sk ⟨Try.prog,fn.ntmps,fn,k,keys⟩ 0 (fun r=>.ret (x r) (o r)) (fun q=>nomatch q):=by kernel_rfl):FN f A O k y x o:=fun r H=>HT.fn H x o keys hf hb hn hmx t hk
abbrev qi:Int→AVal:=iV .i64
abbrev qu:Int→AVal:=iV .u64
section
variable {P:Program} {g:Nat} {A:List AVal} {O:List (Nat×Option MObj)} {f:Nat} {r:AVal} {o:List (Nat×Option MObj)} (a b n:Nat) (e:Enters P g) (z:Pv.Fn P g A O f (fun x y=>x=r∧y=o))
abbrev qh:HI:=hC [] [] [] [] e z
abbrev jA:HI:=hC [(0,0)] [(0,0)] [] [] e z
abbrev h1:HI:=hC [] [(0,n)] [] [n] e z
abbrev h2:HI:=hC [(a,0),(b,1)] [(0,a),(2,n)] [] [n] e z
abbrev h3:HI:=hC [] [] [n] [] e z
end
abbrev qe:=Z35 .i64
abbrev qv:=Z35 .u64
abbrev qb:=Z35 .u8
abbrev qx (a b:Int):Int:=((BitVec.toNat (BitVec.ofInt 64 a ^^^ BitVec.ofInt 64 b):Nat):Int)
abbrev qf (n:Nat):Im:=.sc (.func (.func n) #[] #[])
abbrev RW {α:Type} (w t:Nat) (e:α→List Im) (k:Nat) (x:List α):Nat×Option MObj:=(k,some (.row w t (x.map e)))
abbrev BW {α:Type} (t:Nat) (e:α→List AVal) (k:Nat) (x:α):Nat×Option MObj:=(k,some (.box t (e x)))
abbrev BX (t k:Nat) (x:List AVal):Nat×Option MObj:=(k,some (.box t x))
abbrev im {α:Type} (x:List α) (e:α→List Im):AVal:=.im (.row (x.map e))
abbrev clp (n a:Int):Int:=if(if n<a then n else a)>0 then(if n<a then n else a) else 0
abbrev mi (a b:Int):Int:=i64.wrap (Int.fdiv (u64.wrap (i64.wrap (a+b))) 2)
abbrev F0 (f:Nat) (A:List AVal) {ρ:Type} (y:Option ρ) (x:ρ→AVal):Prop:=FN f A [] 0 y x (fun _=>[])
abbrev _root_.Go.Pv.HT.lq {ρ X:Type} {g:X→Option ρ} {Y O:Type} {f:O→Option ρ} (lp:Lp Y O) (x0:Y) (inv:CI) (b:∀ g',Bd g' (lp.F g')) (a:Arm g f):HT g (lp.l x0>>=f):=.loop lp x0 inv [] [] b a
abbrev qs:=Pv.encStr
abbrev ln {α:Type} (x:List α):Int:=(x.length:Int)
abbrev _root_.Go.Pv.HT.ru {ρ X:Type} {g:X→Option ρ} {o:ρ} (i:CI) (t:Z4):HT g (some o):=.ret i [] [] t
abbrev _root_.Go.Pv.HT.rv {ρ X:Type} {g:X→Option ρ} {o:ρ} (t:Z4):HT g (some o):=.ret [] [] [] t
def Z0w.l1 (a0:List Z2) (b31:Z2) (x26 x41 x42:Int):Option Int:=if decide (x42<(b31.f1.length:Int)) then((at? b31.f1 x42)>>=fun b47=>Z0w.l1 a0 b31 x26 (i64.wrap (x41+(i64.wrap ((i64.wrap ((b47.f1.f6.length:Int)+(b47.f1.f7.length:Int)))+1)))) (i64.wrap (x42+1))) else(some x41)
partial_fixpoint
def Z0w.l0 (a0:List Z2) (x25 x26:Int):Option Int:=if decide (x26<(a0.length:Int)) then((at? a0 x26)>>=fun b31=>(Z0w.l1 a0 b31 x26 (i64.wrap (x25+(i64.wrap ((b31.f0.size:Int)+1)))) 0)>>=fun x50=>Z0w.l0 a0 x50 (i64.wrap (x26+1))) else(some x25)
partial_fixpoint
def Z0w.f (a0:List Z2):Option Bool:=(Z0w.l0 a0 0 0)>>=fun x51=>some (decide (x51≤1200))
theorem Z0w.ok (a0:List Z2):F0 9 [.im (.row (a0.map Z0))] (Z0w.f a0) (fun r=>bV r):=FT [] func9 (.r0<|.r0<|.rg [(1,hG Z0 a0)]<|.bl<|.lq (.c2 (Z0w.l0.partial_correctness a0)) (0,0) [] (fun _=>.pr fun x25=>.one (fun x26=>⟨[(3,qi x25),(8,im a0 Z0),(9,qi (ln a0)),(10,qi x26)],[],0⟩) fun x26=>.r0<|.cd (fun c27=>.bl<|.el fun b31 p32 q33=>.rg [(0,hA Z0 p32 q33),(2,⟨.k 3,.n⟩)]<|.r0<|.rg [(2,hG Zc b31.f1)]<|.bl<|.lq (.c2 (Z0w.l1.partial_correctness a0 b31 x26)) (i64.wrap (x25+(i64.wrap ((b31.f0.size:Int)+1))),0) [] (fun _=>.pr fun x41=>.one (fun x42=>⟨[(3,qi x41),(8,im a0 Z0),(9,qi (ln a0)),(10,qi x26),(21,im b31.f1 Zc),(22,qi (ln b31.f1)),(23,qi x42)],[],0⟩) fun x42=>.r0<|.cd (fun c43=>.bl<|.el fun b47 p48 q49=>.rg [(0,hA Zc p48 q49),(2,⟨.k 5,.n⟩)]<|.rg [(4,hG Z0d b47.f1.f6),(8,hG Z0d b47.f1.f7)]<|.r0<|.bk [] rfl)
 (fun c43=>.o []))
 (.st (.exit 2) (fun x50=>⟨[(3,qi x50),(8,im a0 Z0),(9,qi (ln a0)),(10,qi x26)],[],0⟩) fun x50=>.r0<|.bk [] rfl))
 (fun c27=>.o []))
 (.st (.exit 0) (fun x51=>⟨[(3,qi x51)],[],0⟩) fun x51=>.r0<|.rv ⟨[(2,bV (decide (x51≤1200)))],[],0⟩))
def Z1o.l0 (a0:ByteArray) (aa:Int):Option (Bool ⊕ Unit):=if decide (aa<(a0.size:Int)) then((chk (0≤aa∧aa<(a0.size:Int)))>>=fun _=>((if(bt a0 aa)==95 then(some true) else(if decide ((bt a0 aa)≥65) then(if decide ((bt a0 aa)≤90) then(some true) else(if decide ((bt a0 aa)≥97) then(if decide ((bt a0 aa)≤122) then(some true) else(if decide (aa>0) then(if decide ((bt a0 aa)≥48) then(some (decide ((bt a0 aa)≤57))) else(some false)) else(some false))) else(if decide (aa>0) then(if decide ((bt a0 aa)≥48) then(some (decide ((bt a0 aa)≤57))) else(some false)) else(some false)))) else(if decide ((bt a0 aa)≥97) then(if decide ((bt a0 aa)≤122) then(some true) else(if decide (aa>0) then(if decide ((bt a0 aa)≥48) then(some (decide ((bt a0 aa)≤57))) else(some false)) else(some false))) else(if decide (aa>0) then(if decide ((bt a0 aa)≥48) then(some (decide ((bt a0 aa)≤57))) else(some false)) else(some false))))):Option Bool)>>=fun ab=>if !ab then(some (.inl false)) else(Z1o.l0 a0 (i64.wrap (aa+1)))) else(some (.inr ()))
partial_fixpoint
def Z1o.f (a0:ByteArray):Option Bool:=((if decide ((a0.size:Int)<1) then(some true) else(some (decide ((a0.size:Int)>64)))):Option Bool)>>=fun aa=>if aa=true then(some false) else((Z1o.l0 a0 0)>>=fun | .inl rr=>(some rr) | .inr _=>(some true))
theorem Z1o.ok (a0:ByteArray):F0 47 [sV a0] (Z1o.f a0) (fun r=>bV r):=FT [] func47 (.r0<|.join (.sp (fun aa=>.rg [(3,hB aa)]<|.o [])
 (fun aa=>.rg [(3,hB aa)]<|.o []))
 (.st .normal (fun ab=>⟨[(0,sV a0),(13,bV ab)],[],0⟩) fun ab=>.cd (fun ac=>.r0<|.rv ⟨[(2,bV false)],[],0⟩)
 (fun ac=>.r0<|.bl<|.lq (.one (Z1o.l0.partial_correctness a0)) 0 [] (fun _=>.one (fun ae=>⟨[(0,sV a0),(3,qi ae)],[],0⟩) fun ae=>.r0<|.cd (fun af=>.bl<|.ck fun ah=>.rg [(2,hN (p2 ah))]<|.join (.sp (fun ai=>.rg [(2,hB ai)]<|.o [])
 (fun ai=>.sp (fun aj=>.sp (fun ak=>.rg [(2,hB ai),(5,hB aj),(10,hB ak)]<|.o [])
 (fun ak=>.sp (fun al=>.sp (fun am=>.rg [(2,hB ai),(5,hB aj),(10,hB ak),(13,hB al),(18,hB am)]<|.o [])
 (fun am=>.sp (fun an=>.sp (fun ao=>.rg [(2,hB ai),(5,hB aj),(10,hB ak),(13,hB al),(18,hB am),(21,hB an),(25,hB ao)]<|.o [])
 (fun ao=>.rg [(2,hB ai),(5,hB aj),(10,hB ak),(13,hB al),(18,hB am),(21,hB an),(25,hB ao)]<|.o []))
 (fun an=>.rg [(2,hB ai),(5,hB aj),(10,hB ak),(13,hB al),(18,hB am),(21,hB an)]<|.o [])))
 (fun al=>.sp (fun aq=>.sp (fun ar=>.rg [(2,hB ai),(5,hB aj),(10,hB ak),(13,hB al),(21,hB aq),(25,hB ar)]<|.o [])
 (fun ar=>.rg [(2,hB ai),(5,hB aj),(10,hB ak),(13,hB al),(21,hB aq),(25,hB ar)]<|.o []))
 (fun aq=>.rg [(2,hB ai),(5,hB aj),(10,hB ak),(13,hB al),(21,hB aq)]<|.o []))))
 (fun aj=>.sp (fun au=>.sp (fun av=>.rg [(2,hB ai),(5,hB aj),(13,hB au),(18,hB av)]<|.o [])
 (fun av=>.sp (fun aw=>.sp (fun ax=>.rg [(2,hB ai),(5,hB aj),(13,hB au),(18,hB av),(21,hB aw),(25,hB ax)]<|.o [])
 (fun ax=>.rg [(2,hB ai),(5,hB aj),(13,hB au),(18,hB av),(21,hB aw),(25,hB ax)]<|.o []))
 (fun aw=>.rg [(2,hB ai),(5,hB aj),(13,hB au),(18,hB av),(21,hB aw)]<|.o [])))
 (fun au=>.sp (fun ay=>.sp (fun az=>.rg [(2,hB ai),(5,hB aj),(13,hB au),(21,hB ay),(25,hB az)]<|.o [])
 (fun az=>.rg [(2,hB ai),(5,hB aj),(13,hB au),(21,hB ay),(25,hB az)]<|.o []))
 (fun ay=>.rg [(2,hB ai),(5,hB aj),(13,hB au),(21,hB ay)]<|.o [])))))
 (.st .normal (fun a8=>⟨[(0,sV a0),(3,qi ae),(5,bV a8)],[],0⟩) fun a8=>.r0<|.cd (fun a9=>.r0<|.rv ⟨[(2,bV false)],[],0⟩)
 (fun a9=>.r0<|.bk [] rfl)))
 (fun af=>.o []))
 (.sm (.rt (fun rr=>bV rr) (fun rr=>[]))
 (.st (.exit 0) (fun _=>⟨[],[],0⟩) fun _=>.r0<|.rv ⟨[(2,bV true)],[],0⟩)))))
def Z1p.l0 (a0:List Z0q) (aa:Int):Option (Int ⊕ Unit):=if decide (aa<(a0.length:Int)) then((((at? a0 aa)>>=fun ab=>(Z1o.f ab.f0)>>=fun ac=>if !ac then(some true) else(if decide ((ab.f1.size:Int)<1) then(some true) else(some (decide ((ab.f1.size:Int)>64))))):Option Bool)>>=fun ae=>if ae=true then(some (.inl 26)) else(((if decide (aa>0) then((at? a0 (i64.wrap (aa-1)))>>=fun af=>(at? a0 aa)>>=fun ah=>some (!(Op.bytesLess af.f0.toList ah.f0.toList))) else(some false)):Option Bool)>>=fun ai=>if ai=true then(some (.inl 26)) else(Z1p.l0 a0 (i64.wrap (aa+1))))) else(some (.inr ()))
partial_fixpoint
def Z1p.f (a0:List Z0q):Option Int:=if decide ((a0.length:Int)>16) then(some 9) else((Z1p.l0 a0 0)>>=fun | .inl rr=>(some rr) | .inr _=>(some 0))
theorem Z1p.ok (a0:List Z0q):F0 31 [.im (.row (a0.map Z1t))] (Z1p.f a0) (fun r=>qi r):=FT [] func31 (.r0<|.rg [(1,hG Z1t a0)]<|.cd (fun aa=>.r0<|.rv ⟨[(2,qi 9)],[],0⟩)
 (fun aa=>.r0<|.bl<|.lq (.one (Z1p.l0.partial_correctness a0)) 0 [] (fun _=>.one (fun ab=>⟨[(0,im a0 Z1t),(3,qi ab)],[],0⟩) fun ab=>.rg [(2,hG Z1t a0)]<|.cd (fun ac=>.bl<|.join (.el fun ae af ah=>.bd fun ai aj=>.sp (fun ak=>.rg [(2,hA Z1t af ah),(5,qh call47 (Z1o.ok ae.f0 ai aj)),(7,hB ak)]<|.o [])
 (fun ak=>.sp (fun al=>.rg [(2,hA Z1t af ah),(5,qh call47 (Z1o.ok ae.f0 ai aj)),(7,hB ak),(10,hA Z1t af ah),(16,hB al)]<|.o [])
 (fun al=>.rg [(2,hA Z1t af ah),(5,qh call47 (Z1o.ok ae.f0 ai aj)),(7,hB ak),(10,hA Z1t af ah),(16,hB al),(19,hA Z1t af ah)]<|.o [])))
 (.st .normal (fun am=>⟨[(0,im a0 Z1t),(3,qi ab),(37,bV am)],[],0⟩) fun am=>.cd (fun an=>.r0<|.rv ⟨[(2,qi 26)],[],0⟩)
 (fun an=>.join (.sp (fun ao=>.el fun aq ar au=>.el fun av aw ax=>.rg [(2,hB ao),(6,hA Z1t ar au),(11,hA Z1t aw ax)]<|.o [])
 (fun ao=>.rg [(2,hB ao)]<|.o []))
 (.st .normal (fun ay=>⟨[(0,im a0 Z1t),(3,qi ab),(54,bV ay)],[],0⟩) fun ay=>.cd (fun az=>.r0<|.rv ⟨[(2,qi 26)],[],0⟩)
 (fun az=>.r0<|.bk [] rfl)))))
 (fun ac=>.o []))
 (.sm (.rt (fun rr=>qi rr) (fun rr=>[]))
 (.st (.exit 0) (fun _=>⟨[],[],0⟩) fun _=>.r0<|.rv ⟨[(2,qi 0)],[],0⟩))))
def Z11.l0 (x72:ByteArray) (x73:List ByteArray):Option (Bool ⊕ (List ByteArray)):=if decide ((x72.size:Int)>0) then((chk (0≤(0:Int)∧(0:Int)<(x72.size:Int)))>>=fun _=>if decide ((i64.wrap ((i64.wrap (bt x72 0))+1))>(x72.size:Int)) then(some (.inl false)) else((chk (0≤(1:Int)∧(1:Int)≤(i64.wrap ((i64.wrap (bt x72 0))+1))∧(i64.wrap ((i64.wrap (bt x72 0))+1))≤(x72.size:Int)))>>=fun _=>(chk ((x73.length+[x72.extract (1:Int).toNat ((i64.wrap ((i64.wrap (bt x72 0))+1))).toNat].length)*16≤140737488355328))>>=fun _=>(chk (0≤(i64.wrap ((i64.wrap (bt x72 0))+1))∧(i64.wrap ((i64.wrap (bt x72 0))+1))≤(x72.size:Int)∧(x72.size:Int)≤(x72.size:Int)))>>=fun _=>Z11.l0  (x72.extract ((i64.wrap ((i64.wrap (bt x72 0))+1))).toNat (x72.size:Int).toNat) (x73++[x72.extract (1:Int).toNat ((i64.wrap ((i64.wrap (bt x72 0))+1))).toNat]))) else(some (.inr x73))
partial_fixpoint
def Z11.l1 (x84:List ByteArray) (aa:List Z0q) (ab:Int):Option (List Z0q):=if decide ((i64.wrap (ab+1))<(x84.length:Int)) then((at? x84 ab)>>=fun ac=>(at? x84 (i64.wrap (ab+1)))>>=fun ae=>(chk ((aa.length+[(⟨ac,ae⟩:Z0q)].length)*32≤140737488355328))>>=fun _=>Z11.l1 x84 (aa++[(⟨ac,ae⟩:Z0q)]) (i64.wrap (ab+2))) else(some aa)
partial_fixpoint
def Z11.f (a0:ByteArray):Option Bool:=(Z11.l0  a0 [])>>=fun | .inl rr=>(some rr) | .inr x84=>(if(Int.tmod (x84.length:Int) (2:Int))==1 then(some false) else((Z11.l1 x84 [] 0)>>=fun aa=>(Z1p.f aa)>>=fun ab=>some (ab==0)))
abbrev q0:=@RW _ 1 9 encStr
abbrev q1:=@RW _ 2 53 Z1t
theorem Z11.ok (a0:ByteArray):F0 17 [sV a0] (Z11.f a0) (fun r=>bV r):=FT [] func17 (.r0<|.r0<|.bl<|.loop (.c2 (Z11.l0.partial_correctness )) (a0,[]) [] [] [2] (fun _=>.pr fun x72=>.one (fun x73=>⟨[(0,sV x72),(3,.own 2)],[q0 2 x73],0⟩) fun x73=>.r0<|.cd (fun c74=>.bl<|.ck fun c76=>.rg [(1,hN (p2 c76))]<|.r0<|.cd (fun c77=>.r0<|.rv ⟨[(2,bV false)],[],0⟩)
 (fun c77=>.ck fun c80=>.ck fun c81=>.rg [(4,hN (p3 c80)),(5,hQ 3 encStr ([x72.extract (Int.toNat (1:Int)) (Int.toNat ((i64.wrap ((i64.wrap (bt x72 0))+1))))]:List ByteArray)),(6,hP 4 encStr 1 c81)]<|.ck fun c83=>.rg [(3,hN (p3 c83))]<|.bk [(4,2)] rfl))
 (fun c74=>.o [(2,5)]))
 (.sm (.rt (fun rr=>bV rr) (fun rr=>[]))
 (.st (.exit 0) (fun x84=>⟨[(3,.own 5)],[q0 5 x84],0⟩) fun x84=>.rg [(1,hG encStr x84),(2,hJ 2)]<|.cd (fun c85=>.r0<|.rv ⟨[(2,bV false)],[],0⟩)
 (fun c85=>.r0<|.r0<|.bl<|.loop (.c2 (Z11.l1.partial_correctness x84)) ([],0) [(5,8)] [] [9] (fun _=>.pr fun aa=>.one (fun ab=>⟨[(3,.own 8),(5,.own 9),(6,qi ab)],[q0 8 x84,q1 9 aa],0⟩) fun ab=>.rg [(3,hG encStr x84)]<|.cd (fun ac=>.bl<|.el fun ae af ah=>.el fun ai aj ak=>.ck fun al=>.rg [(3,hX encStr af ah),(4,hL encStr ah),(8,hX encStr aj ak),(9,hL encStr ak),(11,hQ 10 Z1t ([(⟨ae,ai⟩:Z0q)]:List Z0q)),(12,hP 11 Z1t 2 al)]<|.r0<|.bk [(8,8),(11,9)] rfl)
 (fun ac=>.o [(9,12)]))
 (.st (.exit 2) (fun am=>⟨[(5,.own 12)],[q1 12 am],0⟩) fun am=>.bd fun an ao=>.rg [(1,h3 12 call31 (Z1p.ok am an ao))]<|.rv ⟨[(2,bV (an==0))],[],0⟩)))))
def Z2q.f (a0:Int):Option Bool:=((if decide (a0≥0) then(some (decide (a0≤1099511627776))) else(some false)):Option Bool)>>=fun aa=>some aa
theorem Z2q.ok (a0:Int):F0 32 [qi a0] (Z2q.f a0) (fun r=>bV r):=FT [] func32 (.r0<|.join (.sp (fun aa=>.rg [(2,hB aa)]<|.o [])
 (fun aa=>.rg [(2,hB aa)]<|.o []))
 (.st .normal (fun ab=>⟨[(2,bV ab)],[],0⟩) fun ab=>.rv ⟨[(2,bV ab)],[],0⟩))
def Z1k.f (a0:Int):Option Bool:=((if decide (a0≥(-4)) then(some (decide (a0≤8))) else(some false)):Option Bool)>>=fun aa=>some aa
theorem Z1k.ok (a0:Int):F0 48 [qi a0] (Z1k.f a0) (fun r=>bV r):=FT [] func48 (.r0<|.join (.sp (fun aa=>.rg [(2,hB aa)]<|.o [])
 (fun aa=>.rg [(2,hB aa)]<|.o []))
 (.st .normal (fun ab=>⟨[(2,bV ab)],[],0⟩) fun ab=>.rv ⟨[(2,bV ab)],[],0⟩))
def Z23.l0 (aa ab:Int):Option Int:=if decide (ab<8) then(Z23.l0  (i64.wrap (aa*2)) (i64.wrap (ab+1))) else(some aa)
partial_fixpoint
def Z23.f (a0:Int):Option Int:=(Z23.l0  1 a0)>>=fun aa=>some aa
theorem Z23.ok (a0:Int):F0 81 [qi a0] (Z23.f a0) (fun r=>qi r):=FT [] func81 (.r0<|.r0<|.r0<|.bl<|.lq (.c2 (Z23.l0.partial_correctness )) (1,a0) [] (fun _=>.pr fun aa=>.one (fun ab=>⟨[(3,qi aa),(4,qi ab)],[],0⟩) fun ab=>.r0<|.cd (fun ac=>.bl<|.r0<|.r0<|.bk [] rfl)
 (fun ac=>.o []))
 (.st (.exit 0) (fun ae=>⟨[(3,qi ae)],[],0⟩) fun ae=>.r0<|.rv ⟨[(2,qi ae)],[],0⟩))
def Z29.f (a0 a1:Int):Option Int:=(Z1k.f a0)>>=fun aa=>if !aa then(some 0) else((Z23.f a0)>>=fun ab=>some (i64.wrap (a1*ab)))
theorem Z29.ok (a0 a1:Int):F0 50 [qi a0,qi a1] (Z29.f a0 a1) (fun r=>qi r):=FT [] func50 (.r0<|.bd fun aa ab=>.rg [(1,qh call48 (Z1k.ok a0 aa ab))]<|.cd (fun ac=>.r0<|.rv ⟨[(4,qi 0)],[],0⟩)
 (fun ac=>.bd fun ae af=>.rg [(2,qh call81 (Z23.ok a0 ae af))]<|.rv ⟨[(4,qi (i64.wrap (a1*ae)))],[],0⟩))
def Z5s.f (a0 a1:Int):Option Bool:=(((Z1k.f a0)>>=fun aa=>if aa=true then(if decide (a1>(-262144)) then(if decide (a1≤262144) then((Z29.f a0 a1)>>=fun ab=>if decide (ab>(-262144)) then((Z29.f a0 a1)>>=fun ac=>some (decide (ac≤262144))) else(some false)) else(some false)) else(some false)) else(some false)):Option Bool)>>=fun ae=>some ae
theorem Z5s.ok (a0 a1:Int):F0 49 [qi a0,qi a1] (Z5s.f a0 a1) (fun r=>bV r):=FT [] func49 (.r0<|.join (.bd fun aa ab=>.sp (fun ac=>.sp (fun ae=>.sp (fun af=>.bd fun ah ai=>.sp (fun aj=>.bd fun ak al=>.rg [(1,qh call48 (Z1k.ok a0 aa ab)),(2,hB ac),(6,hB ae),(10,hB af),(13,qh call50 (Z29.ok a0 a1 ah ai)),(16,hB aj),(19,qh call50 (Z29.ok a0 a1 ak al))]<|.o [])
 (fun aj=>.rg [(1,qh call48 (Z1k.ok a0 aa ab)),(2,hB ac),(6,hB ae),(10,hB af),(13,qh call50 (Z29.ok a0 a1 ah ai)),(16,hB aj)]<|.o []))
 (fun af=>.rg [(1,qh call48 (Z1k.ok a0 aa ab)),(2,hB ac),(6,hB ae),(10,hB af)]<|.o []))
 (fun ae=>.rg [(1,qh call48 (Z1k.ok a0 aa ab)),(2,hB ac),(6,hB ae)]<|.o []))
 (fun ac=>.rg [(1,qh call48 (Z1k.ok a0 aa ab)),(2,hB ac)]<|.o []))
 (.st .normal (fun am=>⟨[(4,bV am)],[],0⟩) fun am=>.rv ⟨[(4,bV am)],[],0⟩))
def Z2j.l0 (a0:List Int) (aa ab:Int):Option ((Int×Int) ⊕ Int):=if decide (ab<(a0.length:Int)) then((at? a0 ab)>>=fun ac=>if decide (ac>(u64.wrap ((18446744073709551615:Int)-aa))) then(some (.inl (0,5))) else(Z2j.l0 a0 (u64.wrap (aa+ac)) (i64.wrap (ab+1)))) else(some (.inr aa))
partial_fixpoint
def Z2j.f (a0:List Int):Option (Int×Int):=(Z2j.l0 a0 0 0)>>=fun | .inl rr=>(some rr) | .inr aa=>(some (aa,0))
theorem Z2j.ok (a0:List Int):F0 51 [.im (.row (a0.map qv))] (Z2j.f a0) (fun r=>.tup [qu r.1,qi r.2]):=FT [] func51 (.r0<|.r0<|.r0<|.bl<|.lq (.c2 (Z2j.l0.partial_correctness a0)) (0,0) [] (fun _=>.pr fun aa=>.one (fun ab=>⟨[(0,im a0 qv),(4,qu aa),(5,qi ab)],[],0⟩) fun ab=>.rg [(2,hG qv a0)]<|.cd (fun ac=>.bl<|.el fun ae af ah=>.rg [(2,hA qv af ah)]<|.cd (fun ai=>.r0<|.rv ⟨[(2,qu 0),(3,qi 5)],[],0⟩)
 (fun ai=>.rg [(3,hA qv af ah)]<|.r0<|.bk [] rfl))
 (fun ac=>.o []))
 (.sm (.rt (fun rr=>.tup [qu rr.1,qi rr.2]) (fun rr=>[]))
 (.st (.exit 0) (fun aj=>⟨[(4,qu aj)],[],0⟩) fun aj=>.r0<|.rv ⟨[(2,qu aj),(3,qi 0)],[],0⟩)))
def Z0b.l1 (a0:Z1c) (aa:Int) (ab:List Z0f) (ac:List Int) (ae:Int):Option (Int ⊕ (List Int)):=if decide (ae<(ab.length:Int)) then((at? ab ae)>>=fun af=>(Z5s.f a0.f1 af.f0)>>=fun ah=>if !ah then(some (.inl 4)) else(((if decide (ae>0) then((at? ab (i64.wrap (ae-1)))>>=fun ai=>some (decide (af.f0≤ai.f0))) else(some false)):Option Bool)>>=fun aj=>if aj=true then(some (.inl 32)) else(if af.f1==0 then(some (.inl 21)) else((Z29.f a0.f1 (i64.wrap (af.f0-1)))>>=fun ak=>if decide (ak<a0.f2) then(some (.inl 31)) else((chk ((ac.length+[af.f1].length)*8≤140737488355328))>>=fun _=>Z0b.l1 a0 aa ab (ac++[af.f1]) (i64.wrap (ae+1))))))) else(some (.inr ac))
partial_fixpoint
def Z0b.l0 (a0:Z1c) (aa:List Int) (ab:Int):Option (Int ⊕ (List Int)):=if decide (ab<2) then(((if ab==1 then(some a0.f7) else(some a0.f6)):Option (List Z0f))>>=fun ac=>if decide ((ac.length:Int)>512) then(some (.inl 9)) else((Z0b.l1 a0 ab ac aa 0)>>=fun | .inl rr=>(some (.inl rr)) | .inr ae=>(Z0b.l0 a0 ae (i64.wrap (ab+1))))) else(some (.inr aa))
partial_fixpoint
def Z0b.f (a0:Z1c):Option Int:=((if a0.f0 != 0 then(some (a0.f0 != 1)) else(some false)):Option Bool)>>=fun aa=>if aa=true then(some 25) else((Z1k.f a0.f1)>>=fun ab=>if !ab then(some 20) else(((if a0.f2 != (-524288) then(if decide (a0.f2≤(-262144)) then(some true) else(some (decide (a0.f2>262144)))) else(some false)):Option Bool)>>=fun ac=>if ac=true then(some 31) else((Z0b.l0 a0 [a0.f3] 0)>>=fun | .inl rr=>(some rr) | .inr ae=>((Z2j.f ae)>>=fun af=>if af.2 != 0 then(some 5) else(if af.1 != a0.f4 then(some 21) else(some 0))))))
abbrev w0_ (k:Nat) (x:Z1c):Nat×Option MObj:=BW 50 aHist k x
abbrev q2:=@RW _ 1 47 qv
theorem Z0b.ok (a0:Z1c):F0 33 [.agg (aHist a0)] (Z0b.f a0) (fun r=>qi r):=FT [] func33 (.rg [(0,⟨.k 0,.n⟩)]<|.join (.sp (fun aa=>.rg [(3,hB aa)]<|.o [(0,1)])
 (fun aa=>.rg [(3,hB aa)]<|.o [(0,1)]))
 (.st .normal (fun ab=>⟨[(1,.ptr 1 0 0),(16,bV ab)],[w0_ 1 a0],0⟩) fun ab=>.cd (fun ac=>.r0<|.rv ⟨[(2,qi 25)],[],0⟩)
 (fun ac=>.bd fun ae af=>.rg [(2,qh call48 (Z1k.ok a0.f1 ae af))]<|.cd (fun ah=>.r0<|.rv ⟨[(2,qi 20)],[],0⟩)
 (fun ah=>.join (.sp (fun ai=>.sp (fun aj=>.rg [(3,hB ai),(7,hB aj)]<|.o [(1,2)])
 (fun aj=>.rg [(3,hB ai),(7,hB aj)]<|.o [(1,2)]))
 (fun ai=>.rg [(3,hB ai)]<|.o [(1,2)]))
 (.st .normal (fun ak=>⟨[(1,.ptr 2 0 0),(33,bV ak)],[w0_ 2 a0],0⟩) fun ak=>.cd (fun al=>.r0<|.rv ⟨[(2,qi 31)],[],0⟩)
 (fun al=>.rg [(2,hQ 3 qv ([a0.f3]:List Int))]<|.r0<|.bl<|.lq (.c2 (Z0b.l0.partial_correctness a0)) ([a0.f3],0) [(2,14),(3,15)] (fun _=>.pr fun am=>.one (fun an=>⟨[(1,.ptr 14 0 0),(3,.own 15),(4,qi an)],[w0_ 14 a0,q2 15 am],0⟩) fun an=>.r0<|.cd (fun ao=>.bl<|.r0<|.r0<|.join (.cd (fun aq=>.r0<|.o [(14,16),(15,17)])
 (fun aq=>.o [(14,16),(15,17)]))
 (.st .normal (fun ar=>⟨[(1,.ptr 16 0 0),(3,.own 17),(4,qi an),(5,im ar Z0d)],[w0_ 16 a0,q2 17 am],0⟩) fun ar=>.rg [(1,hG Z0d ar)]<|.cd (fun au=>.r0<|.rv ⟨[(2,qi 9)],[],0⟩)
 (fun au=>.r0<|.bl<|.lq (.c2 (Z0b.l1.partial_correctness a0 an ar)) (am,0) [(16,20),(17,21)] (fun _=>.pr fun av=>.one (fun aw=>⟨[(1,.ptr 20 0 0),(3,.own 21),(4,qi an),(5,im ar Z0d),(6,qi aw)],[w0_ 20 a0,q2 21 av],0⟩) fun aw=>.rg [(2,hG Z0d ar)]<|.cd (fun ax=>.bl<|.el fun ay az a8=>.bd fun a9 ba=>.rg [(4,hA Z0d az a8),(7,qh call49 (Z5s.ok a0.f1 ay.f0 a9 ba))]<|.cd (fun bb=>.r0<|.rv ⟨[(2,qi 4)],[],0⟩)
 (fun bb=>.join (.sp (fun bc=>.el fun be bf bg=>.rg [(2,hB bc),(5,hA Z0d az a8),(11,hA Z0d bf bg)]<|.o [(20,22),(21,23)])
 (fun bc=>.rg [(2,hB bc)]<|.o [(20,22),(21,23)]))
 (.st .normal (fun bh=>⟨[(1,.ptr 22 0 0),(3,.own 23),(4,qi an),(5,im ar Z0d),(6,qi aw),(80,bV bh)],[w0_ 22 a0,q2 23 av],0⟩) fun bh=>.cd (fun bi=>.r0<|.rv ⟨[(2,qi 32)],[],0⟩)
 (fun bi=>.rg [(2,hA Z0d az a8)]<|.cd (fun bj=>.r0<|.rv ⟨[(2,qi 21)],[],0⟩)
 (fun bj=>.bd fun bn bo=>.rg [(4,hA Z0d az a8),(8,qh call50 (Z29.ok a0.f1 (i64.wrap (ay.f0-1)) bn bo))]<|.cd (fun bp=>.r0<|.rv ⟨[(2,qi 31)],[],0⟩)
 (fun bp=>.ck fun bq=>.rg [(3,hA Z0d az a8),(6,hQ 24 qv ([ay.f1]:List Int)),(7,hP 25 qv 1 bq)]<|.r0<|.bk [(22,20),(25,21)] rfl))))))
 (fun ax=>.o [(20,26),(21,27)]))
 (.sm (.rt (fun rr=>qi rr) (fun rr=>[]))
 (.st (.exit 2) (fun br=>⟨[(1,.ptr 26 0 0),(3,.own 27),(4,qi an)],[w0_ 26 a0,q2 27 br],0⟩) fun br=>.r0<|.bk [(26,14),(27,15)] rfl)))))
 (fun ao=>.o [(14,28),(15,29)]))
 (.sm (.rt (fun rr=>qi rr) (fun rr=>[]))
 (.st (.exit 0) (fun bu=>⟨[(1,.ptr 28 0 0),(3,.own 29)],[w0_ 28 a0,q2 29 bu],0⟩) fun bu=>.bd fun bv bw=>.rg [(1,h3 29 call51 (Z2j.ok bu bv bw))]<|.r0<|.cd (fun bx=>.r0<|.rv ⟨[(2,qi 5)],[],0⟩)
 (fun bx=>.r0<|.cd (fun bz=>.r0<|.rv ⟨[(2,qi 21)],[],0⟩)
 (fun bz=>.r0<|.rv ⟨[(2,qi 0)],[],0⟩))))))))))
def Z0s.l0 (a0:List Zf) (aa:Int):Option (Bool ⊕ Unit):=if decide (aa<(a0.length:Int)) then((((at? a0 aa)>>=fun ab=>(Z2q.f ab.f0)>>=fun ac=>if !ac then(some true) else((Z0b.f ab.f1)>>=fun ae=>if ae != 0 then(some true) else(if decide (aa>0) then((at? a0 (i64.wrap (aa-1)))>>=fun af=>some (decide (ab.f0≤af.f0))) else(some false)))):Option Bool)>>=fun ah=>if ah=true then(some (.inl false)) else(Z0s.l0 a0 (i64.wrap (aa+1)))) else(some (.inr ()))
partial_fixpoint
def Z0s.f (a0:List Zf):Option Bool:=(Z0s.l0 a0 0)>>=fun | .inl rr=>(some rr) | .inr _=>(some true)
theorem Z0s.ok (a0:List Zf):F0 18 [.im (.row (a0.map Zc))] (Z0s.f a0) (fun r=>bV r):=FT [] func18 (.r0<|.r0<|.bl<|.lq (.one (Z0s.l0.partial_correctness a0)) 0 [] (fun _=>.one (fun aa=>⟨[(0,im a0 Zc),(3,qi aa)],[],0⟩) fun aa=>.rg [(2,hG Zc a0)]<|.cd (fun ab=>.bl<|.join (.el fun ac ae af=>.bd fun ah ai=>.sp (fun aj=>.rg [(2,hA Zc ae af),(5,qh call32 (Z2q.ok ac.f0 ah ai)),(7,hB aj)]<|.o [])
 (fun aj=>.bd fun ak al=>.sp (fun am=>.rg [(2,hA Zc ae af),(5,qh call32 (Z2q.ok ac.f0 ah ai)),(7,hB aj),(10,hA Zc ae af),(13,qh call33 (Z0b.ok ac.f1 ak al)),(16,hB am)]<|.o [])
 (fun am=>.sp (fun an=>.el fun ao aq ar=>.rg [(2,hA Zc ae af),(5,qh call32 (Z2q.ok ac.f0 ah ai)),(7,hB aj),(10,hA Zc ae af),(13,qh call33 (Z0b.ok ac.f1 ak al)),(16,hB am),(19,hB an),(22,hA Zc ae af),(28,hA Zc aq ar)]<|.o [])
 (fun an=>.rg [(2,hA Zc ae af),(5,qh call32 (Z2q.ok ac.f0 ah ai)),(7,hB aj),(10,hA Zc ae af),(13,qh call33 (Z0b.ok ac.f1 ak al)),(16,hB am),(19,hB an)]<|.o []))))
 (.st .normal (fun au=>⟨[(0,im a0 Zc),(3,qi aa),(43,bV au)],[],0⟩) fun au=>.cd (fun av=>.r0<|.rv ⟨[(2,bV false)],[],0⟩)
 (fun av=>.r0<|.bk [] rfl)))
 (fun ab=>.o []))
 (.sm (.rt (fun rr=>bV rr) (fun rr=>[]))
 (.st (.exit 0) (fun _=>⟨[],[],0⟩) fun _=>.r0<|.rv ⟨[(2,bV true)],[],0⟩)))
def Z24.l0 (a0:List Z2) (aa:Int):Option (Bool ⊕ Unit):=if decide (aa<(a0.length:Int)) then((at? a0 aa)>>=fun ab=>(((Z11.f ab.f0)>>=fun ac=>if !ac then(some true) else(if decide (aa>0) then((at? a0 (i64.wrap (aa-1)))>>=fun ae=>if !Op.bytesLess ae.f0.toList ab.f0.toList then(some true) else((Z0s.f ab.f1)>>=fun af=>if !af then(some true) else(some ((ab.f1.length:Int)==0)))) else((Z0s.f ab.f1)>>=fun ah=>if !ah then(some true) else(some ((ab.f1.length:Int)==0))))):Option Bool)>>=fun ai=>if ai=true then(some (.inl false)) else(Z24.l0 a0 (i64.wrap (aa+1)))) else(some (.inr ()))
partial_fixpoint
def Z24.f (a0:List Z2):Option Bool:=(Z24.l0 a0 0)>>=fun | .inl rr=>(some rr) | .inr _=>(some (decide ((a0.length:Int)≤64)))
theorem Z24.ok (a0:List Z2):F0 10 [.im (.row (a0.map Z0))] (Z24.f a0) (fun r=>bV r):=FT [] func10 (.r0<|.rg [(1,hG Z0 a0)]<|.bl<|.lq (.one (Z24.l0.partial_correctness a0)) 0 [] (fun _=>.one (fun aa=>⟨[(0,im a0 Z0),(5,im a0 Z0),(6,qi (ln a0)),(7,qi aa)],[],0⟩) fun aa=>.r0<|.cd (fun ab=>.bl<|.el fun ac ae af=>.rg [(1,hA Z0 ae af),(3,⟨.k 1,.n⟩)]<|.join (.bd fun ah ai=>.sp (fun aj=>.rg [(2,qh call17 (Z11.ok ac.f0 ah ai)),(4,hB aj)]<|.o [])
 (fun aj=>.sp (fun ak=>.el fun al am an=>.sp (fun ao=>.rg [(2,qh call17 (Z11.ok ac.f0 ah ai)),(4,hB aj),(7,hB ak),(11,hA Z0 am an),(19,hB ao)]<|.o [])
 (fun ao=>.bd fun aq ar=>.sp (fun au=>.rg [(2,qh call17 (Z11.ok ac.f0 ah ai)),(4,hB aj),(7,hB ak),(11,hA Z0 am an),(19,hB ao),(22,qh call18 (Z0s.ok ac.f1 aq ar)),(25,hB au)]<|.o [])
 (fun au=>.rg [(2,qh call17 (Z11.ok ac.f0 ah ai)),(4,hB aj),(7,hB ak),(11,hA Z0 am an),(19,hB ao),(22,qh call18 (Z0s.ok ac.f1 aq ar)),(25,hB au),(28,hG Zc ac.f1)]<|.o [])))
 (fun ak=>.bd fun av aw=>.sp (fun ax=>.rg [(2,qh call17 (Z11.ok ac.f0 ah ai)),(4,hB aj),(7,hB ak),(22,qh call18 (Z0s.ok ac.f1 av aw)),(25,hB ax)]<|.o [])
 (fun ax=>.rg [(2,qh call17 (Z11.ok ac.f0 ah ai)),(4,hB aj),(7,hB ak),(22,qh call18 (Z0s.ok ac.f1 av aw)),(25,hB ax),(28,hG Zc ac.f1)]<|.o []))))
 (.st .normal (fun ay=>⟨[(0,im a0 Z0),(5,im a0 Z0),(6,qi (ln a0)),(7,qi aa),(42,bV ay)],[],0⟩) fun ay=>.cd (fun az=>.r0<|.rv ⟨[(2,bV false)],[],0⟩)
 (fun az=>.r0<|.bk [] rfl)))
 (fun ab=>.o []))
 (.sm (.rt (fun rr=>bV rr) (fun rr=>[]))
 (.st (.exit 0) (fun _=>⟨[(0,im a0 Z0)],[],0⟩) fun _=>.rg [(1,hG Z0 a0)]<|.rv ⟨[(2,bV (decide ((ln a0)≤64)))],[],0⟩)))
def Z1r.l1 (a0:List Z0q) (aa:Z0q) (ab:Int) (ac:List Int) (ae:Int):Option (List Int):=if decide (ae<2) then((((chk (0≤ae∧ae<2))>>=fun _=>if ae==0 then(some aa.f0) else(some aa.f1)):Option ByteArray)>>=fun af=>(chk ((ac.length+[u8.wrap (af.size:Int)].length)*1≤140737488355328))>>=fun _=>(chk (((ac++[u8.wrap (af.size:Int)]).length+af.size)*1≤140737488355328))>>=fun _=>Z1r.l1 a0 aa ab ((ac++[u8.wrap (af.size:Int)])++Z41 af) (i64.wrap (ae+1))) else(some ac)
partial_fixpoint
def Z1r.l0 (a0:List Z0q) (aa:List Int) (ab:Int):Option (List Int):=if decide (ab<(a0.length:Int)) then((at? a0 ab)>>=fun ac=>(Z1r.l1 a0 ac ab aa 0)>>=fun ae=>Z1r.l0 a0 ae (i64.wrap (ab+1))) else(some aa)
partial_fixpoint
def Z1r.f (a0:List Z0q):Option ByteArray:=(Z1r.l0 a0 [] 0)>>=fun aa=>some (strOf aa)
abbrev q3:=@RW _ 1 5 qb
theorem Z1r.ok (a0:List Z0q):F0 15 [.im (.row (a0.map Z1t))] (Z1r.f a0) (fun r=>sV r):=FT [] func15 (.r0<|.r0<|.rg [(1,hG Z1t a0)]<|.bl<|.loop (.c2 (Z1r.l0.partial_correctness a0)) ([],0) [] [] [10] (fun _=>.pr fun aa=>.one (fun ab=>⟨[(3,.own 10),(8,im a0 Z1t),(9,qi (ln a0)),(10,qi ab)],[q3 10 aa],0⟩) fun ab=>.r0<|.cd (fun ac=>.bl<|.el fun ae af ah=>.rg [(0,hA Z1t af ah),(2,⟨.k 11,.n⟩)]<|.r0<|.bl<|.lq (.c2 (Z1r.l1.partial_correctness a0 ae ab)) (aa,0) [(10,15)] (fun _=>.pr fun ai=>.one (fun aj=>⟨[(3,.own 15),(8,im a0 Z1t),(9,qi (ln a0)),(10,qi ab),(18,.agg (aLabel ae)),(19,qi aj)],[q3 15 ai],0⟩) fun aj=>.r0<|.cd (fun ak=>.bl<|.join (.ck fun al=>.sp (fun am=>.rg [(0,⟨.more (xIdx 0),.c (p:=aj=((0:Nat):Int)) (by simpa using am) .n⟩)]<|.o [(15,16)])
 (fun am=>.rg [(0,⟨.more (xIdx 1),.c (p:=aj=((1:Nat):Int)) (by have:=al;simp only[beq_eq_false_iff_ne] at *;omega) .n⟩)]<|.o [(15,16)]))
 (.st .normal (fun an=>⟨[(3,.own 16),(7,sV an),(8,im a0 Z1t),(9,qi (ln a0)),(10,qi ab),(18,.agg (aLabel ae)),(19,qi aj)],[q3 16 ai],0⟩) fun an=>.ck fun ao=>.ck fun aq=>.rg [(4,hQ 17 qb ([u8.wrap (an.size:Int)]:List Int)),(5,hP 18 qb 1 ao),(7,⟨.more (xAppStr 19 (((ai++[u8.wrap (an.size:Int)])++Z41 an).map qb)),.c (p:=((ai++[u8.wrap (an.size:Int)])++Z41 an).map qb=(ai++[u8.wrap (an.size:Int)]).map qb++(Z41 an).map qb) (by simp) (.c (p:=(((ai++[u8.wrap (an.size:Int)]).map qb).length+an.size)*1≤140737488355328) (by simpa using aq) .n)⟩)]<|.r0<|.bk [(19,15)] rfl))
 (fun ak=>.o [(15,20)]))
 (.st (.exit 2) (fun ar=>⟨[(3,.own 20),(8,im a0 Z1t),(9,qi (ln a0)),(10,qi ab)],[q3 20 ar],0⟩) fun ar=>.r0<|.bk [(20,10)] rfl))
 (fun ac=>.o [(10,21)]))
 (.st (.exit 0) (fun au=>⟨[(3,.own 21)],[q3 21 au],0⟩) fun au=>.rg [(1,hT (xStr au) au)]<|.rv ⟨[(2,sV (strOf au))],[],0⟩))
def Z21.f (a0:Int):Option Unit:=(chk (0≤(u64.wrap ((2:Int)*(u64.wrap ((if(if(4:Int)<a0 then(4:Int) else a0)>0 then(if(4:Int)<a0 then(4:Int) else a0) else(0:Int))))))))>>=fun _=>some ()
theorem Z21.ok (a0:Int):F0 7 [qi a0] (Z21.f a0) (fun r=>qi (i64.wrap ((64:Int)*2 ^ (min (Int.toNat (u64.wrap ((2:Int)*(u64.wrap ((clp 4 a0)))))) 64)))):=FT [] func7 (.r0<|.ck fun aa=>.rg [(1,⟨.more xMin,.n⟩),(2,⟨.more xMax,.n⟩),(5,hN (p1 aa))]<|.rv ⟨[(2,qi (i64.wrap ((64:Int)*2 ^ (min (Int.toNat (u64.wrap ((2:Int)*(u64.wrap ((clp 4 a0)))))) 64))))],[],0⟩)
def Z3m.f (a0 a1:Int):Option Unit:=(Z21.f a0)>>=fun aa=>(chk ((i64.wrap ((64:Int)*2 ^ (min (u64.wrap ((2:Int)*(u64.wrap ((if(if(4:Int)<a0 then(4:Int) else a0)>0 then(if(4:Int)<a0 then(4:Int) else a0) else(0:Int)))))).toNat 64)))≠0))>>=fun _=>some ()
theorem Z3m.ok (a0 a1:Int):F0 5 [qi a0,qi a1] (Z3m.f a0 a1) (fun r=>qi (i64.wrap (a1-(Int.tmod a1 (i64.wrap ((64:Int)*2 ^ (min (Int.toNat (u64.wrap ((2:Int)*(u64.wrap ((clp 4 a0)))))) 64))))))):=FT [] func5 (.r0<|.bd fun aa ab=>.ck fun ac=>.rg [(3,qh call7 (Z21.ok a0 aa ab)),(4,hN (p1 ac))]<|.rv ⟨[(4,qi (i64.wrap (a1-(Int.tmod a1 (i64.wrap ((64:Int)*2 ^ (min (Int.toNat (u64.wrap ((2:Int)*(u64.wrap ((clp 4 a0)))))) 64)))))))],[],0⟩)
def Z4m.f (a0:Int):Option Int:=((if decide (a0≥4294967296) then(some (Int.fdiv a0 4294967296,32)) else(some (a0,0))):Option (Int×Int))>>=fun | (aa,ab)=>(((if decide (aa≥65536) then(some (Int.fdiv aa 65536,i64.wrap (ab+16))) else(some (aa,ab))):Option (Int×Int))>>=fun | (ac,ae)=>(((if decide (ac≥256) then(some (Int.fdiv ac 256,i64.wrap (ae+8))) else(some (ac,ae))):Option (Int×Int))>>=fun | (af,ah)=>((chk (0≤(u8.wrap (af))∧(u8.wrap (af))<((⟨#[0,1,2,2,3,3,3,3,4,4,4,4,4,4,4,4,5,5,5,5,5,5,5,5,5,5,5,5,5,5,5,5,6,6,6,6,6,6,6,6,6,6,6,6,6,6,6,6,6,6,6,6,6,6,6,6,6,6,6,6,6,6,6,6,7,7,7,7,7,7,7,7,7,7,7,7,7,7,7,7,7,7,7,7,7,7,7,7,7,7,7,7,7,7,7,7,7,7,7,7,7,7,7,7,7,7,7,7,7,7,7,7,7,7,7,7,7,7,7,7,7,7,7,7,7,7,7,7,8,8,8,8,8,8,8,8,8,8,8,8,8,8,8,8,8,8,8,8,8,8,8,8,8,8,8,8,8,8,8,8,8,8,8,8,8,8,8,8,8,8,8,8,8,8,8,8,8,8,8,8,8,8,8,8,8,8,8,8,8,8,8,8,8,8,8,8,8,8,8,8,8,8,8,8,8,8,8,8,8,8,8,8,8,8,8,8,8,8,8,8,8,8,8,8,8,8,8,8,8,8,8,8,8,8,8,8,8,8,8,8,8,8,8,8,8,8,8,8,8,8,8,8,8,8,8,8]⟩:ByteArray).size:Int)))>>=fun _=>some (i64.wrap (ah+(i64.wrap (bt (⟨#[0,1,2,2,3,3,3,3,4,4,4,4,4,4,4,4,5,5,5,5,5,5,5,5,5,5,5,5,5,5,5,5,6,6,6,6,6,6,6,6,6,6,6,6,6,6,6,6,6,6,6,6,6,6,6,6,6,6,6,6,6,6,6,6,7,7,7,7,7,7,7,7,7,7,7,7,7,7,7,7,7,7,7,7,7,7,7,7,7,7,7,7,7,7,7,7,7,7,7,7,7,7,7,7,7,7,7,7,7,7,7,7,7,7,7,7,7,7,7,7,7,7,7,7,7,7,7,7,8,8,8,8,8,8,8,8,8,8,8,8,8,8,8,8,8,8,8,8,8,8,8,8,8,8,8,8,8,8,8,8,8,8,8,8,8,8,8,8,8,8,8,8,8,8,8,8,8,8,8,8,8,8,8,8,8,8,8,8,8,8,8,8,8,8,8,8,8,8,8,8,8,8,8,8,8,8,8,8,8,8,8,8,8,8,8,8,8,8,8,8,8,8,8,8,8,8,8,8,8,8,8,8,8,8,8,8,8,8,8,8,8,8,8,8,8,8,8,8,8,8,8,8,8,8,8,8]⟩:ByteArray) (u8.wrap (af)))))))))
theorem Z4m.ok (a0:Int):F0 61 [qu a0] (Z4m.f a0) (fun r=>qi r):=FT [] func61 (.r0<|.r0<|.join (.cd (fun aa=>.rg [(1,hK 32)]<|.r0<|.o [])
 (fun aa=>.o []))
 (.pr fun ab=>.st .normal (fun ac=>⟨[(0,qu ab),(2,qi ac)],[],0⟩) fun ac=>.r0<|.join (.cd (fun ae=>.rg [(1,hK 16)]<|.r0<|.o [])
 (fun ae=>.o []))
 (.pr fun af=>.st .normal (fun ah=>⟨[(0,qu af),(2,qi ah)],[],0⟩) fun ah=>.r0<|.join (.cd (fun ai=>.rg [(1,hK 8)]<|.r0<|.o [])
 (fun ai=>.o []))
 (.pr fun aj=>.st .normal (fun ak=>⟨[(0,qu aj),(2,qi ak)],[],0⟩) fun ak=>.ck fun al=>.rg [(3,hN (p2 al))]<|.rv ⟨[(2,qi (i64.wrap (ak+(i64.wrap (bt (⟨#[0,1,2,2,3,3,3,3,4,4,4,4,4,4,4,4,5,5,5,5,5,5,5,5,5,5,5,5,5,5,5,5,6,6,6,6,6,6,6,6,6,6,6,6,6,6,6,6,6,6,6,6,6,6,6,6,6,6,6,6,6,6,6,6,7,7,7,7,7,7,7,7,7,7,7,7,7,7,7,7,7,7,7,7,7,7,7,7,7,7,7,7,7,7,7,7,7,7,7,7,7,7,7,7,7,7,7,7,7,7,7,7,7,7,7,7,7,7,7,7,7,7,7,7,7,7,7,7,8,8,8,8,8,8,8,8,8,8,8,8,8,8,8,8,8,8,8,8,8,8,8,8,8,8,8,8,8,8,8,8,8,8,8,8,8,8,8,8,8,8,8,8,8,8,8,8,8,8,8,8,8,8,8,8,8,8,8,8,8,8,8,8,8,8,8,8,8,8,8,8,8,8,8,8,8,8,8,8,8,8,8,8,8,8,8,8,8,8,8,8,8,8,8,8,8,8,8,8,8,8,8,8,8,8,8,8,8,8,8,8,8,8,8,8,8,8,8,8,8,8,8,8,8,8,8,8]⟩:ByteArray) (u8.wrap (aj)))))))],[],0⟩))))
def Z3a.f (a0:Int):Option Int:=(Z4m.f a0)>>=fun aa=>some aa
theorem Z3a.ok (a0:Int):F0 35 [qu a0] (Z3a.f a0) (fun r=>qi r):=FT [] func35 (.r0<|.cl (rfl:false=false)<|.bd fun aa ab=>.rg [(1,qh call61 (Z4m.ok a0 aa ab))]<|.rv ⟨[(2,qi aa)],[],0⟩)
def Z1h.f (a0:Int):Option Unit:=some ()
theorem Z1h.ok (a0:Int):F0 36 [qi a0] (Z1h.f a0) (fun r=>bV (a0 != a0)):=FT [] func36 (.r0<|.r0<|.rv ⟨[(2,bV (a0 != a0))],[],0⟩)
def Z0o.f (a0 a1:Int):Option Int:=(Z1h.f a0)>>=fun aa=>(Z1h.f a1)>>=fun ab=>if a0 != a0 then(if a1 != a1 then(some 0) else(some (-1))) else(if a1 != a1 then(some 1) else(if decide (a0<a1) then(some (-1)) else(if decide (a0>a1) then(some 1) else(some 0))))
theorem Z0o.ok (a0 a1:Int):F0 21 [qi a0,qi a1] (Z0o.f a0 a1) (fun r=>qi r):=FT [] func21 (.r0<|.bd fun aa ab=>.rg [(1,qh call36 (Z1h.ok a0 aa ab))]<|.bd fun ac ae=>.rg [(1,qh call36 (Z1h.ok a1 ac ae))]<|.r0<|.cd (fun af=>.r0<|.cd (fun ah=>.r0<|.rv ⟨[(4,qi 0)],[],0⟩)
 (fun ah=>.r0<|.rv ⟨[(4,qi (-1))],[],0⟩))
 (fun af=>.r0<|.cd (fun ai=>.r0<|.rv ⟨[(4,qi 1)],[],0⟩)
 (fun ai=>.r0<|.cd (fun aj=>.r0<|.rv ⟨[(4,qi (-1))],[],0⟩)
 (fun aj=>.r0<|.cd (fun ak=>.r0<|.rv ⟨[(4,qi 1)],[],0⟩)
 (fun ak=>.r0<|.rv ⟨[(4,qi 0)],[],0⟩)))))
def Z08.f (a0 a1:Z3):Option Int:=(Z0o.f a0.f0.f0 a1.f0.f0)>>=fun aa=>some aa
theorem Z08.ok (a0 a1:Z3):F0 20 [.agg (Z5x ⟨a0.f0.f0,a0.f0.f1,a0.f0.f2,a0.f1⟩),.agg (Z5x ⟨a1.f0.f0,a1.f0.f1,a1.f0.f2,a1.f1⟩)] (Z08.f a0 a1) (fun r=>qi r):=FT [] func20 (.rg [(0,⟨.k 0,.n⟩),(1,⟨.k 1,.n⟩)]<|.bd fun aa ab=>.rg [(6,qh call21 (Z0o.ok a0.f0.f0 a1.f0.f0 aa ab))]<|.rv ⟨[(4,qi aa)],[],0⟩)
def Zk.l1 (a1 a2 aa:Int) (ab:List Z3) (ac:Int):Option (List Z3):=((if decide (ac>a1) then((at? ab ac)>>=fun ae=>(at? ab (i64.wrap (ac-1)))>>=fun af=>(Z08.f ae af)>>=fun ah=>some (decide (ah<0))) else(some false)):Option Bool)>>=fun ai=>if ai=true then((at? ab (i64.wrap (ac-1)))>>=fun aj=>(at? ab ac)>>=fun ak=>(at? (ab.set ac.toNat aj) (i64.wrap (ac-1)))>>=fun al=>Zk.l1 a1 a2 aa ((ab.set ac.toNat aj).set (i64.wrap (ac-1)).toNat ak) (i64.wrap (ac-1))) else(some ab)
partial_fixpoint
def Zk.l0 (a1 a2:Int) (aa:List Z3) (ab:Int):Option (List Z3):=if decide (ab<a2) then((Zk.l1 a1 a2 ab aa ab)>>=fun ac=>Zk.l0 a1 a2 ac (i64.wrap (ab+1))) else(some aa)
partial_fixpoint
def Zk.f (a0:List Z3) (a1 a2:Int):Option (List Z3):=(Zk.l0 a1 a2 a0 (i64.wrap (a1+1)))>>=fun aa=>some aa
abbrev q4:=@RW _ 4 42 Z1
theorem Zk.ok (a0:List Z3) (a1 a2:Int):FN 52 [.own 0,qi a1,qi a2,.im (qf 20)] [q4 0 a0] 1 (Zk.f a0 a1 a2) (fun r=>.tup []) (fun r=>[q4 0 r]):=FT [0] func52 (.r0<|.bl<|.lq (.c2 (Zk.l0.partial_correctness a1 a2)) (a0,i64.wrap (a1+1)) [(0,0)] (fun _=>.pr fun aa=>.one (fun ab=>⟨[(0,.own 0),(1,qi a1),(2,qi a2),(3,.im (qf 20)),(8,qi ab)],[q4 0 aa],1⟩) fun ab=>.r0<|.cd (fun ac=>.bl<|.r0<|.bl<|.lq (.c2 (Zk.l1.partial_correctness a1 a2 ab)) (aa,ab) [(0,0)] (fun _=>.pr fun ae=>.one (fun af=>⟨[(0,.own 0),(1,qi a1),(2,qi a2),(3,.im (qf 20)),(8,qi ab),(9,qi af)],[q4 0 ae],1⟩) fun af=>.join (.sp (fun ah=>.el fun ai aj ak=>.el fun al am an=>.bd fun ao aq=>.rg [(3,hB ah),(7,hX Z1 aj ak),(8,hL Z1 ak),(12,hX Z1 am an),(13,hL Z1 an),(14,qh call20 (Z08.ok ai al ao aq))]<|.o [(0,0)])
 (fun ah=>.rg [(3,hB ah)]<|.o [(0,0)]))
 (.st .normal (fun ar=>⟨[(0,.own 0),(1,qi a1),(2,qi a2),(3,.im (qf 20)),(8,qi ab),(9,qi af),(34,bV ar)],[q4 0 ae],1⟩) fun ar=>.cd (fun au=>.bl<|.el fun av aw ax=>.el fun ay az a8=>.el fun a9 ba bb=>.rg [(8,hX Z1 aw ax),(9,hL Z1 ax),(12,hX Z1 az a8),(13,hL Z1 a8),(14,hX Z1 az a8),(15,hS Z1 av 0 [iI .i64 av.f0.f0,iI .i64 av.f0.f1,iI .i64 av.f0.f2,.row (av.f1.map Z0)] a8),(16,hX Z1 ba bb),(17,hS Z1 ay 0 [iI .i64 ay.f0.f0,iI .i64 ay.f0.f1,iI .i64 ay.f0.f2,.row (ay.f1.map Z0)] bb)]<|.r0<|.bk [(0,0)] rfl)
 (fun au=>.o [(0,0)])))
 (.st (.exit 2) (fun bc=>⟨[(0,.own 0),(1,qi a1),(2,qi a2),(3,.im (qf 20)),(8,qi ab)],[q4 0 bc],1⟩) fun bc=>.r0<|.bk [(0,0)] rfl))
 (fun ac=>.o [(0,0)]))
 (.st (.exit 0) (fun be=>⟨[],[q4 0 be],1⟩) fun be=>.ru [(0,0)] ⟨[],[q4 0 be],1⟩))
def Zr.l0 (a2 a3:Int) (aa:List Z3) (ab:Int):Option ((List Z3) ⊕ (List Z3)):=if decide ((i64.wrap ((i64.wrap ((2:Int)*ab))+1))≥a2) then(some (.inr aa)) else(((if decide ((i64.wrap ((i64.wrap ((i64.wrap ((2:Int)*ab))+1))+1))<a2) then((at? aa (i64.wrap (a3+(i64.wrap ((i64.wrap ((2:Int)*ab))+1)))))>>=fun ac=>(at? aa (i64.wrap ((i64.wrap (a3+(i64.wrap ((i64.wrap ((2:Int)*ab))+1))))+1)))>>=fun ae=>(Z08.f ac ae)>>=fun af=>some (decide (af<0))) else(some false)):Option Bool)>>=fun ah=>((if ah=true then(some (i64.wrap ((i64.wrap ((i64.wrap ((2:Int)*ab))+1))+1))) else(some (i64.wrap ((i64.wrap ((2:Int)*ab))+1)))):Option Int)>>=fun ai=>(at? aa (i64.wrap (a3+ab)))>>=fun aj=>(at? aa (i64.wrap (a3+ai)))>>=fun ak=>(Z08.f aj ak)>>=fun al=>if !(decide (al<0)) then(some (.inl aa)) else((at? (aa.set (i64.wrap (a3+ab)).toNat ak) (i64.wrap (a3+ai)))>>=fun am=>Zr.l0 a2 a3 ((aa.set (i64.wrap (a3+ab)).toNat ak).set (i64.wrap (a3+ai)).toNat aj) ai))
partial_fixpoint
def Zr.f (a0:List Z3) (a1 a2 a3:Int):Option (List Z3):=(Zr.l0 a2 a3 a0 a1)>>=fun | .inl rr=>(some rr) | .inr aa=>(some aa)
theorem Zr.ok (a0:List Z3) (a1 a2 a3:Int):FN 82 [.own 0,qi a1,qi a2,qi a3,.im (qf 20)] [q4 0 a0] 1 (Zr.f a0 a1 a2 a3) (fun r=>.tup []) (fun r=>[q4 0 r]):=FT [0] func82 (.r0<|.bl<|.lq (.c2 (Zr.l0.partial_correctness a2 a3)) (a0,a1) [(0,0)] (fun _=>.pr fun aa=>.one (fun ab=>⟨[(0,.own 0),(2,qi a2),(3,qi a3),(4,.im (qf 20)),(10,qi ab)],[q4 0 aa],1⟩) fun ab=>.bl<|.r0<|.r0<|.cd (fun ac=>.o [(0,0)])
 (fun ac=>.join (.sp (fun ae=>.el fun af ah ai=>.el fun aj ak al=>.bd fun am an=>.rg [(4,hB ae),(10,hX Z1 ah ai),(11,hL Z1 ai),(17,hX Z1 ak al),(18,hL Z1 al),(19,qh call20 (Z08.ok af aj am an))]<|.o [(0,0)])
 (fun ae=>.rg [(4,hB ae)]<|.o [(0,0)]))
 (.st .normal (fun ao=>⟨[(0,.own 0),(2,qi a2),(3,qi a3),(4,.im (qf 20)),(10,qi ab),(11,qi (i64.wrap ((i64.wrap ((2:Int)*ab))+1))),(40,bV ao)],[q4 0 aa],1⟩) fun ao=>.join (.cd (fun aq=>.r0<|.o [(0,0)])
 (fun aq=>.o [(0,0)]))
 (.st .normal (fun ar=>⟨[(0,.own 0),(2,qi a2),(3,qi a3),(4,.im (qf 20)),(10,qi ab),(11,qi ar)],[q4 0 aa],1⟩) fun ar=>.el fun au av aw=>.el fun ax ay az=>.bd fun a8 a9=>.rg [(5,hX Z1 av aw),(6,hL Z1 aw),(11,hX Z1 ay az),(12,hL Z1 az),(13,qh call20 (Z08.ok au ax a8 a9))]<|.cd (fun ba=>.ru [(0,0)] ⟨[],[q4 0 aa],1⟩)
 (fun ba=>.el fun bb bc be=>.rg [(12,hX Z1 ay az),(13,hL Z1 az),(18,hX Z1 av aw),(19,hL Z1 aw),(20,hX Z1 av aw),(21,hS Z1 ax 0 [iI .i64 ax.f0.f0,iI .i64 ax.f0.f1,iI .i64 ax.f0.f2,.row (ax.f1.map Z0)] aw),(22,hX Z1 bc be),(23,hS Z1 au 0 [iI .i64 au.f0.f0,iI .i64 au.f0.f1,iI .i64 au.f0.f2,.row (au.f1.map Z0)] be)]<|.r0<|.bk [(0,0)] rfl)))))
 (.sm (.rt (fun rr=>.tup []) (fun rr=>[q4 0 rr]))
 (.st (.exit 0) (fun bf=>⟨[],[q4 0 bf],1⟩) fun bf=>.ru [(0,0)] ⟨[],[q4 0 bf],1⟩)))
def Zn.l0 (a1 a2:Int) (aa:List Z3) (ab:Int):Option (List Z3):=if decide (ab≥0) then((Zr.f aa ab (i64.wrap (a2-a1)) a1)>>=fun ac=>Zn.l0 a1 a2 ac (i64.wrap (ab-1))) else(some aa)
partial_fixpoint
def Zn.l1 (a1:Int) (aa:List Z3) (ab:Int):Option (List Z3):=if decide (ab≥0) then((at? aa (i64.wrap (a1+ab)))>>=fun ac=>(at? aa a1)>>=fun ae=>(at? (aa.set a1.toNat ac) (i64.wrap (a1+ab)))>>=fun af=>(Zr.f ((aa.set a1.toNat ac).set (i64.wrap (a1+ab)).toNat ae) 0 ab a1)>>=fun ah=>Zn.l1 a1 ah (i64.wrap (ab-1))) else(some aa)
partial_fixpoint
def Zn.f (a0:List Z3) (a1 a2:Int):Option (List Z3):=(Zn.l0 a1 a2 a0 (i64.wrap (Int.tdiv (i64.wrap ((i64.wrap (a2-a1))-1)) (2:Int))))>>=fun aa=>(Zn.l1 a1 aa (i64.wrap ((i64.wrap (a2-a1))-1)))>>=fun ab=>some ab
theorem Zn.ok (a0:List Z3) (a1 a2:Int):FN 53 [.own 0,qi a1,qi a2,.im (qf 20)] [q4 0 a0] 1 (Zn.f a0 a1 a2) (fun r=>.tup []) (fun r=>[q4 0 r]):=FT [0] func53 (.r0<|.r0<|.r0<|.rg [(2,hJ 2)]<|.bl<|.lq (.c2 (Zn.l0.partial_correctness a1 a2)) (a0,i64.wrap (Int.tdiv (i64.wrap ((i64.wrap (a2-a1))-1)) (2:Int))) [(0,0)] (fun _=>.pr fun aa=>.one (fun ab=>⟨[(0,.own 0),(3,.im (qf 20)),(8,qi a1),(9,qi 0),(10,qi (i64.wrap (a2-a1))),(11,qi ab)],[q4 0 aa],1⟩) fun ab=>.r0<|.cd (fun ac=>.bl<|.bd fun ae af=>.rg [(5,jA call82 (Zr.ok aa ab (i64.wrap (a2-a1)) a1 ae af))]<|.r0<|.bk [(0,0)] rfl)
 (fun ac=>.o [(0,0)]))
 (.st (.exit 0) (fun ah=>⟨[(0,.own 0),(3,.im (qf 20)),(8,qi a1),(9,qi 0),(10,qi (i64.wrap (a2-a1)))],[q4 0 ah],1⟩) fun ah=>.r0<|.bl<|.lq (.c2 (Zn.l1.partial_correctness a1)) (ah,i64.wrap ((i64.wrap (a2-a1))-1)) [(0,0)] (fun _=>.pr fun ai=>.one (fun aj=>⟨[(0,.own 0),(3,.im (qf 20)),(8,qi a1),(9,qi 0),(12,qi aj)],[q4 0 ai],1⟩) fun aj=>.r0<|.cd (fun ak=>.bl<|.el fun al am an=>.el fun ao aq ar=>.el fun au av aw=>.rg [(10,hX Z1 am an),(11,hL Z1 an),(14,hX Z1 aq ar),(15,hL Z1 ar),(16,hX Z1 aq ar),(17,hS Z1 al 0 [iI .i64 al.f0.f0,iI .i64 al.f0.f1,iI .i64 al.f0.f2,.row (al.f1.map Z0)] ar),(18,hX Z1 av aw),(19,hS Z1 ao 0 [iI .i64 ao.f0.f0,iI .i64 ao.f0.f1,iI .i64 ao.f0.f2,.row (ao.f1.map Z0)] aw)]<|.bd fun ax ay=>.rg [(5,jA call82 (Zr.ok ((ai.set (Int.toNat (a1)) al).set (Int.toNat (i64.wrap (a1+aj))) ao) 0 aj a1 ax ay))]<|.r0<|.bk [(0,0)] rfl)
 (fun ak=>.o [(0,0)]))
 (.st (.exit 2) (fun az=>⟨[],[q4 0 az],1⟩) fun az=>.ru [(0,0)] ⟨[],[q4 0 az],1⟩)))
def Z02.f (a0:List Z3) (a1 a2 aa:Int):Option (Int×Int×Int):=(at? a0 a2)>>=fun ab=>(at? a0 a1)>>=fun ac=>(Z08.f ab ac)>>=fun ae=>if decide (ae<0) then(some (a2,a1,i64.wrap (aa+1))) else(some (a1,a2,aa))
abbrev v0_ (k:Nat) (x:List AVal):Nat×Option MObj:=BX 3 k x
theorem Z02.ok (a0:List Z3) (a1 a2 aa:Int):FN 94 [.own 0,qi a1,qi a2,.ptr 1 0 0,.im (qf 20)] [q4 0 a0,v0_ 1 [qi aa]] 2 (Z02.f a0 a1 a2 aa) (fun r=>.tup [qi r.1,qi r.2.1]) (fun r=>[q4 0 a0,v0_ 1 [qi r.2.2]]):=FT [0,1] func94 (.r0<|.el fun ab ac ae=>.el fun af ah ai=>.bd fun aj ak=>.rg [(3,hX Z1 ac ae),(4,hL Z1 ae),(7,hX Z1 ah ai),(8,hL Z1 ai),(9,qh call20 (Z08.ok ab af aj ak))]<|.cd (fun al=>.r0<|.r0<|.ru [(0,0),(1,1)] ⟨[(10,qi a2),(11,qi a1)],[q4 0 a0,v0_ 1 [qi (i64.wrap (aa+1))]],2⟩)
 (fun al=>.r0<|.ru [(0,0),(1,1)] ⟨[(10,qi a1),(11,qi a2)],[q4 0 a0,v0_ 1 [qi aa]],2⟩))
def Z0c.f (a0:List Z3) (a1 a2 a3 aa:Int):Option (Int×Int):=(Z02.f a0 a1 a2 aa)>>=fun ab=>(Z02.f a0 ab.2.1 a3 ab.2.2)>>=fun ac=>(Z02.f a0 ab.1 ac.1 ac.2.2)>>=fun ae=>some (ae.2.1,ae.2.2)
theorem Z0c.ok (a0:List Z3) (a1 a2 a3 aa:Int):FN 86 [.own 0,qi a1,qi a2,qi a3,.ptr 1 0 0,.im (qf 20)] [q4 0 a0,v0_ 1 [qi aa]] 2 (Z0c.f a0 a1 a2 a3 aa) (fun r=>qi r.1) (fun r=>[q4 0 a0,v0_ 1 [qi r.2]]):=FT [0,1] func86 (.r0<|.bd fun ab ac=>.rg [(5,hC [(0,0),(1,1)] [(0,0),(1,1)] [] [] call94 (Z02.ok a0 a1 a2 aa ab ac))]<|.bd fun ae af=>.rg [(5,hC [(0,0),(1,1)] [(0,0),(1,1)] [] [] call94 (Z02.ok a0 ab.2.1 a3 ab.2.2 ae af))]<|.bd fun ah ai=>.rg [(5,hC [(0,0),(1,1)] [(0,0),(1,1)] [] [] call94 (Z02.ok a0 ab.1 ae.1 ae.2.2 ah ai))]<|.r0<|.ru [(0,0),(1,1)] ⟨[(12,qi ah.2.1)],[q4 0 a0,v0_ 1 [qi ah.2.2]],2⟩)
def Zs.f (a0:List Z3) (a1 aa:Int):Option (Int×Int):=(Z0c.f a0 (i64.wrap (a1-1)) a1 (i64.wrap (a1+1)) aa)>>=fun ab=>some (ab.1,ab.2)
theorem Zs.ok (a0:List Z3) (a1 aa:Int):FN 85 [.own 0,qi a1,.ptr 1 0 0,.im (qf 20)] [q4 0 a0,v0_ 1 [qi aa]] 2 (Zs.f a0 a1 aa) (fun r=>qi r.1) (fun r=>[q4 0 a0,v0_ 1 [qi r.2]]):=FT [0,1] func85 (.r0<|.bd fun ab ac=>.rg [(8,hC [(0,0),(1,1)] [(0,0),(1,1)] [] [] call86 (Z0c.ok a0 (i64.wrap (a1-1)) a1 (i64.wrap (a1+1)) aa ab ac))]<|.ru [(0,0),(1,1)] ⟨[(8,qi ab.1)],[q4 0 a0,v0_ 1 [qi ab.2]],2⟩)
def Z0k.f (a0:List Z3) (a1 a2:Int):Option (Int×Int):=((if decide ((i64.wrap (a2-a1))≥8) then(((if decide ((i64.wrap (a2-a1))≥50) then((Zs.f a0 (i64.wrap (a1+(i64.wrap ((i64.wrap (Int.tdiv (i64.wrap (a2-a1)) (4:Int)))*1)))) 0)>>=fun aa=>(Zs.f a0 (i64.wrap (a1+(i64.wrap ((i64.wrap (Int.tdiv (i64.wrap (a2-a1)) (4:Int)))*2)))) aa.2)>>=fun ab=>(Zs.f a0 (i64.wrap (a1+(i64.wrap ((i64.wrap (Int.tdiv (i64.wrap (a2-a1)) (4:Int)))*3)))) ab.2)>>=fun ac=>some (ac.2,aa.1,ab.1,ac.1)) else(some (0,i64.wrap (a1+(i64.wrap ((i64.wrap (Int.tdiv (i64.wrap (a2-a1)) (4:Int)))*1))),i64.wrap (a1+(i64.wrap ((i64.wrap (Int.tdiv (i64.wrap (a2-a1)) (4:Int)))*2))),i64.wrap (a1+(i64.wrap ((i64.wrap (Int.tdiv (i64.wrap (a2-a1)) (4:Int)))*3)))))):Option (Int×Int×Int×Int))>>=fun | (ae,af,ah,ai)=>((Z0c.f a0 af ah ai ae)>>=fun aj=>some (aj.2,aj.1))) else(some (0,i64.wrap (a1+(i64.wrap ((i64.wrap (Int.tdiv (i64.wrap (a2-a1)) (4:Int)))*2)))))):Option (Int×Int))>>=fun | (ak,al)=>(if ak==0 then(some (al,1)) else(if ak==12 then(some (al,2)) else(some (al,0))))
theorem Z0k.ok (a0:List Z3) (a1 a2:Int):FN 55 [.own 0,qi a1,qi a2,.im (qf 20)] [q4 0 a0] 1 (Z0k.f a0 a1 a2) (fun r=>.tup [qi r.1,qi r.2]) (fun r=>[q4 0 a0]):=FT [0] func55 (.r0<|.r0<|.rg [(0,⟨.k 1,.n⟩)]<|.rg [(2,hJ 4)]<|.rg [(2,hJ 4)]<|.rg [(2,hJ 4)]<|.r0<|.join (.cd (fun aa=>.r0<|.join (.cd (fun ab=>.bd fun ac ae=>.rg [(3,hC [(0,0),(1,1)] [(0,0),(1,1)] [] [] call85 (Zs.ok a0 (i64.wrap (a1+(i64.wrap ((i64.wrap (Int.tdiv (i64.wrap (a2-a1)) (4:Int)))*1)))) 0 ac ae))]<|.bd fun af ah=>.rg [(3,hC [(0,0),(1,1)] [(0,0),(1,1)] [] [] call85 (Zs.ok a0 (i64.wrap (a1+(i64.wrap ((i64.wrap (Int.tdiv (i64.wrap (a2-a1)) (4:Int)))*2)))) ac.2 af ah))]<|.bd fun ai aj=>.rg [(3,hC [(0,0),(1,1)] [(0,0),(1,1)] [] [] call85 (Zs.ok a0 (i64.wrap (a1+(i64.wrap ((i64.wrap (Int.tdiv (i64.wrap (a2-a1)) (4:Int)))*3)))) af.2 ai aj))]<|.o [(0,0),(1,2)])
 (fun ab=>.o [(0,0),(1,2)]))
 (.pr fun ak=>.pr fun al=>.pr fun am=>.st .normal (fun an=>⟨[(0,.own 0),(3,.im (qf 20)),(11,.ptr 2 0 0),(12,qi al),(13,qi am),(14,qi an)],[q4 0 a0,v0_ 2 [qi ak]],1⟩) fun an=>.bd fun ao aq=>.rg [(5,hC [(0,0),(2,1)] [(0,0),(1,2)] [] [] call86 (Z0c.ok a0 al am an ak ao aq))]<|.o [(2,3),(0,0)]))
 (fun aa=>.o [(1,3),(0,0)]))
 (.pr fun ar=>.st .normal (fun au=>⟨[(11,.ptr 3 0 0),(13,qi au)],[q4 0 a0,v0_ 3 [qi ar]],1⟩) fun au=>.r0<|.bl<|.r0<|.cd (fun av=>.r0<|.ru [(0,0)] ⟨[(8,qi au),(9,qi 1)],[q4 0 a0],1⟩)
 (fun av=>.r0<|.cd (fun aw=>.r0<|.ru [(0,0)] ⟨[(8,qi au),(9,qi 2)],[q4 0 a0],1⟩)
 (fun aw=>.r0<|.ru [(0,0)] ⟨[(8,qi au),(9,qi 0)],[q4 0 a0],1⟩))))
def Zy.l0 (aa:List Z3) (ab ac:Int):Option (List Z3):=if decide (ab<ac) then((at? aa ac)>>=fun ae=>(at? aa ab)>>=fun af=>(at? (aa.set ab.toNat ae) ac)>>=fun ah=>Zy.l0  ((aa.set ab.toNat ae).set ac.toNat af) (i64.wrap (ab+1)) (i64.wrap (ac-1))) else(some aa)
partial_fixpoint
def Zy.f (a0:List Z3) (a1 a2:Int):Option (List Z3):=(Zy.l0  a0 a1 (i64.wrap (a2-1)))>>=fun aa=>some aa
theorem Zy.ok (a0:List Z3) (a1 a2:Int):FN 56 [.own 0,qi a1,qi a2,.im (qf 20)] [q4 0 a0] 1 (Zy.f a0 a1 a2) (fun r=>.tup []) (fun r=>[q4 0 r]):=FT [0] func56 (.r0<|.r0<|.bl<|.lq (.c3 (Zy.l0.partial_correctness )) (a0,a1,i64.wrap (a2-1)) [(0,0)] (fun _=>.pr fun aa=>.pr fun ab=>.one (fun ac=>⟨[(0,.own 0),(8,qi ab),(9,qi ac)],[q4 0 aa],1⟩) fun ac=>.r0<|.cd (fun ae=>.bl<|.el fun af ah ai=>.el fun aj ak al=>.el fun am an ao=>.rg [(6,hX Z1 ah ai),(7,hL Z1 ai),(10,hX Z1 ak al),(11,hL Z1 al),(12,hX Z1 ak al),(13,hS Z1 af 0 [iI .i64 af.f0.f0,iI .i64 af.f0.f1,iI .i64 af.f0.f2,.row (af.f1.map Z0)] al),(14,hX Z1 an ao),(15,hS Z1 aj 0 [iI .i64 aj.f0.f0,iI .i64 aj.f0.f1,iI .i64 aj.f0.f2,.row (aj.f1.map Z0)] ao)]<|.r0<|.r0<|.bk [(0,0)] rfl)
 (fun ae=>.o [(0,0)]))
 (.st (.exit 0) (fun aq=>⟨[],[q4 0 aq],1⟩) fun aq=>.ru [(0,0)] ⟨[],[q4 0 aq],1⟩))
def Z6.l1 (a1 a2:Int) (aa:List Z3) (ab ac:Int):Option Int:=((if decide (ac<a2) then((at? aa ac)>>=fun ae=>(at? aa (i64.wrap (ac-1)))>>=fun af=>(Z08.f ae af)>>=fun ah=>some (!(decide (ah<0)))) else(some false)):Option Bool)>>=fun ai=>if ai=true then(Z6.l1 a1 a2 aa ab (i64.wrap (ac+1))) else(some ac)
partial_fixpoint
def Z6.l2 (a1 a2 aa ab:Int) (ac:List Z3) (ae:Int):Option (List Z3):=if decide (ae≥1) then((at? ac ae)>>=fun af=>(at? ac (i64.wrap (ae-1)))>>=fun ah=>(Z08.f af ah)>>=fun ai=>if !(decide (ai<0)) then(some ac) else((at? (ac.set ae.toNat ah) (i64.wrap (ae-1)))>>=fun aj=>Z6.l2 a1 a2 aa ab ((ac.set ae.toNat ah).set (i64.wrap (ae-1)).toNat af) (i64.wrap (ae-1)))) else(some ac)
partial_fixpoint
def Z6.l3 (a1 a2 aa ab:Int) (ac:List Z3) (ae:Int):Option (List Z3):=if decide (ae<a2) then((at? ac ae)>>=fun af=>(at? ac (i64.wrap (ae-1)))>>=fun ah=>(Z08.f af ah)>>=fun ai=>if !(decide (ai<0)) then(some ac) else((at? (ac.set ae.toNat ah) (i64.wrap (ae-1)))>>=fun aj=>Z6.l3 a1 a2 aa ab ((ac.set ae.toNat ah).set (i64.wrap (ae-1)).toNat af) (i64.wrap (ae+1)))) else(some ac)
partial_fixpoint
def Z6.l0 (a1 a2:Int) (aa:List Z3) (ab ac:Int):Option ((Bool×(List Z3)) ⊕ (List Z3)):=if decide (ac<5) then((Z6.l1 a1 a2 aa ac ab)>>=fun ae=>if ae==a2 then(some (.inl (true,aa))) else(if decide ((i64.wrap (a2-a1))<50) then(some (.inl (false,aa))) else((at? aa (i64.wrap (ae-1)))>>=fun af=>(at? aa ae)>>=fun ah=>(at? (aa.set ae.toNat af) (i64.wrap (ae-1)))>>=fun ai=>((if decide ((i64.wrap (ae-a1))≥2) then((Z6.l2 a1 a2 ac ae ((aa.set ae.toNat af).set (i64.wrap (ae-1)).toNat ah) (i64.wrap (ae-1)))>>=fun aj=>some aj) else(some ((aa.set ae.toNat af).set (i64.wrap (ae-1)).toNat ah))):Option (List Z3))>>=fun ak=>((if decide ((i64.wrap (a2-ae))≥2) then((Z6.l3 a1 a2 ac ae ak (i64.wrap (ae+1)))>>=fun al=>some al) else(some ak)):Option (List Z3))>>=fun am=>Z6.l0 a1 a2 am ae (i64.wrap (ac+1))))) else(some (.inr aa))
partial_fixpoint
def Z6.f (a0:List Z3) (a1 a2:Int):Option (Bool×(List Z3)):=(Z6.l0 a1 a2 a0 (i64.wrap (a1+1)) 0)>>=fun | .inl rr=>(some rr) | .inr aa=>(some (false,aa))
theorem Z6.ok (a0:List Z3) (a1 a2:Int):FN 57 [.own 0,qi a1,qi a2,.im (qf 20)] [q4 0 a0] 1 (Z6.f a0 a1 a2) (fun r=>bV r.1) (fun r=>[q4 0 r.2]):=FT [0] func57 (.r0<|.r0<|.r0<|.bl<|.lq (.c3 (Z6.l0.partial_correctness a1 a2)) (a0,i64.wrap (a1+1),0) [(0,0)] (fun _=>.pr fun aa=>.pr fun ab=>.one (fun ac=>⟨[(0,.own 0),(1,qi a1),(2,qi a2),(3,.im (qf 20)),(9,qi ab),(10,qi ac)],[q4 0 aa],1⟩) fun ac=>.r0<|.cd (fun ae=>.bl<|.bl<|.lq (.one (Z6.l1.partial_correctness a1 a2 aa ac)) ab [(0,0)] (fun _=>.one (fun af=>⟨[(0,.own 0),(1,qi a1),(2,qi a2),(3,.im (qf 20)),(9,qi af),(10,qi ac)],[q4 0 aa],1⟩) fun af=>.join (.sp (fun ah=>.el fun ai aj ak=>.el fun al am an=>.bd fun ao aq=>.rg [(3,hB ah),(7,hX Z1 aj ak),(8,hL Z1 ak),(12,hX Z1 am an),(13,hL Z1 an),(14,qh call20 (Z08.ok ai al ao aq))]<|.o [(0,0)])
 (fun ah=>.rg [(3,hB ah)]<|.o [(0,0)]))
 (.st .normal (fun ar=>⟨[(0,.own 0),(1,qi a1),(2,qi a2),(3,.im (qf 20)),(9,qi af),(10,qi ac),(36,bV ar)],[q4 0 aa],1⟩) fun ar=>.cd (fun au=>.bl<|.r0<|.bk [(0,0)] rfl)
 (fun au=>.o [(0,0)])))
 (.st (.exit 2) (fun av=>⟨[(0,.own 0),(1,qi a1),(2,qi a2),(3,.im (qf 20)),(9,qi av),(10,qi ac)],[q4 0 aa],1⟩) fun av=>.r0<|.cd (fun aw=>.r0<|.ru [(0,0)] ⟨[(8,bV true)],[q4 0 aa],1⟩)
 (fun aw=>.r0<|.cd (fun ax=>.r0<|.ru [(0,0)] ⟨[(8,bV false)],[q4 0 aa],1⟩)
 (fun ax=>.el fun ay az a8=>.el fun a9 ba bb=>.el fun bc be bf=>.rg [(8,hX Z1 az a8),(9,hL Z1 a8),(12,hX Z1 ba bb),(13,hL Z1 bb),(14,hX Z1 ba bb),(15,hS Z1 ay 0 [iI .i64 ay.f0.f0,iI .i64 ay.f0.f1,iI .i64 ay.f0.f2,.row (ay.f1.map Z0)] bb),(16,hX Z1 be bf),(17,hS Z1 a9 0 [iI .i64 a9.f0.f0,iI .i64 a9.f0.f1,iI .i64 a9.f0.f2,.row (a9.f1.map Z0)] bf)]<|.r0<|.join (.cd (fun bg=>.r0<|.bl<|.lq (.c2 (Z6.l2.partial_correctness a1 a2 ac av)) ((aa.set (Int.toNat (av)) ay).set (Int.toNat (i64.wrap (av-1))) a9,i64.wrap (av-1)) [(0,0)] (fun _=>.pr fun bh=>.one (fun bi=>⟨[(0,.own 0),(1,qi a1),(2,qi a2),(3,.im (qf 20)),(9,qi av),(10,qi ac),(11,qi bi)],[q4 0 bh],1⟩) fun bi=>.r0<|.cd (fun bj=>.bl<|.el fun bn bo bp=>.el fun bq br bu=>.bd fun bv bw=>.rg [(3,hX Z1 bo bp),(4,hL Z1 bp),(8,hX Z1 br bu),(9,hL Z1 bu),(10,qh call20 (Z08.ok bn bq bv bw))]<|.cd (fun bx=>.o [(0,0)])
 (fun bx=>.el fun bz ca cb=>.rg [(8,hX Z1 br bu),(9,hL Z1 bu),(12,hX Z1 bo bp),(13,hL Z1 bp),(14,hX Z1 bo bp),(15,hS Z1 bq 0 [iI .i64 bq.f0.f0,iI .i64 bq.f0.f1,iI .i64 bq.f0.f2,.row (bq.f1.map Z0)] bp),(16,hX Z1 ca cb),(17,hS Z1 bn 0 [iI .i64 bn.f0.f0,iI .i64 bn.f0.f1,iI .i64 bn.f0.f2,.row (bn.f1.map Z0)] cb)]<|.r0<|.bk [(0,0)] rfl))
 (fun bj=>.o [(0,0)]))
 (.st (.exit 4) (fun cc=>⟨[(0,.own 0),(1,qi a1),(2,qi a2),(3,.im (qf 20)),(9,qi av),(10,qi ac)],[q4 0 cc],1⟩) fun cc=>.o [(0,0)]))
 (fun bg=>.o [(0,0)]))
 (.st .normal (fun ce=>⟨[(0,.own 0),(1,qi a1),(2,qi a2),(3,.im (qf 20)),(9,qi av),(10,qi ac)],[q4 0 ce],1⟩) fun ce=>.r0<|.join (.cd (fun cf=>.r0<|.bl<|.lq (.c2 (Z6.l3.partial_correctness a1 a2 ac av)) (ce,i64.wrap (av+1)) [(0,0)] (fun _=>.pr fun cj=>.one (fun cm=>⟨[(0,.own 0),(1,qi a1),(2,qi a2),(3,.im (qf 20)),(9,qi av),(10,qi ac),(12,qi cm)],[q4 0 cj],1⟩) fun cm=>.r0<|.cd (fun cn=>.bl<|.el fun co cp cq=>.el fun cr ct cu=>.bd fun cw cx=>.rg [(3,hX Z1 cp cq),(4,hL Z1 cq),(8,hX Z1 ct cu),(9,hL Z1 cu),(10,qh call20 (Z08.ok co cr cw cx))]<|.cd (fun cy=>.o [(0,0)])
 (fun cy=>.el fun cz c8 c9=>.rg [(8,hX Z1 ct cu),(9,hL Z1 cu),(12,hX Z1 cp cq),(13,hL Z1 cq),(14,hX Z1 cp cq),(15,hS Z1 cr 0 [iI .i64 cr.f0.f0,iI .i64 cr.f0.f1,iI .i64 cr.f0.f2,.row (cr.f1.map Z0)] cq),(16,hX Z1 c8 c9),(17,hS Z1 co 0 [iI .i64 co.f0.f0,iI .i64 co.f0.f1,iI .i64 co.f0.f2,.row (co.f1.map Z0)] c9)]<|.r0<|.bk [(0,0)] rfl))
 (fun cn=>.o [(0,0)]))
 (.st (.exit 6) (fun da=>⟨[(0,.own 0),(1,qi a1),(2,qi a2),(3,.im (qf 20)),(9,qi av),(10,qi ac)],[q4 0 da],1⟩) fun da=>.o [(0,0)]))
 (fun cf=>.o [(0,0)]))
 (.st .normal (fun db=>⟨[(0,.own 0),(1,qi a1),(2,qi a2),(3,.im (qf 20)),(9,qi av),(10,qi ac)],[q4 0 db],1⟩) fun db=>.r0<|.bk [(0,0)] rfl))))))
 (fun ae=>.o [(0,0)]))
 (.sm (.rt (fun rr=>bV rr.1) (fun rr=>[q4 0 rr.2]))
 (.st (.exit 0) (fun dc=>⟨[],[q4 0 dc],1⟩) fun dc=>.r0<|.ru [(0,0)] ⟨[(8,bV false)],[q4 0 dc],1⟩)))
def Zd.l1 (a1:Int) (aa:List Z3) (ab ac:Int):Option Int:=((if decide (ac≤ab) then((at? aa a1)>>=fun ae=>(at? aa ac)>>=fun af=>(Z08.f ae af)>>=fun ah=>some (!(decide (ah<0)))) else(some false)):Option Bool)>>=fun ai=>if ai=true then(Zd.l1 a1 aa ab (i64.wrap (ac+1))) else(some ac)
partial_fixpoint
def Zd.l2 (a1:Int) (aa:List Z3) (ab ac:Int):Option Int:=((if decide (ab≤ac) then((at? aa a1)>>=fun ae=>(at? aa ac)>>=fun af=>(Z08.f ae af)>>=fun ah=>some (decide (ah<0))) else(some false)):Option Bool)>>=fun ai=>if ai=true then(Zd.l2 a1 aa ab (i64.wrap (ac-1))) else(some ac)
partial_fixpoint
def Zd.l0 (a1:Int) (aa:List Z3) (ab ac:Int):Option (Int×(List Z3)):=(Zd.l1 a1 aa ac ab)>>=fun ae=>(Zd.l2 a1 aa ae ac)>>=fun af=>if decide (ae>af) then(some (ae,aa)) else((at? aa af)>>=fun ah=>(at? aa ae)>>=fun ai=>(at? (aa.set ae.toNat ah) af)>>=fun aj=>Zd.l0 a1 ((aa.set ae.toNat ah).set af.toNat ai) (i64.wrap (ae+1)) (i64.wrap (af-1)))
partial_fixpoint
def Zd.f (a0:List Z3) (a1 a2 a3:Int):Option (Int×(List Z3)):=(at? a0 a3)>>=fun aa=>(at? a0 a1)>>=fun ab=>(at? (a0.set a1.toNat aa) a3)>>=fun ac=>(Zd.l0 a1 ((a0.set a1.toNat aa).set a3.toNat ab) (i64.wrap (a1+1)) (i64.wrap (a2-1)))>>=fun | (ae,af)=>(some (ae,af))
theorem Zd.ok (a0:List Z3) (a1 a2 a3:Int):FN 58 [.own 0,qi a1,qi a2,qi a3,.im (qf 20)] [q4 0 a0] 1 (Zd.f a0 a1 a2 a3) (fun r=>qi r.1) (fun r=>[q4 0 r.2]):=FT [0] func58 (.r0<|.el fun aa ab ac=>.el fun ae af ah=>.el fun ai aj ak=>.rg [(6,hX Z1 ab ac),(7,hL Z1 ac),(10,hX Z1 af ah),(11,hL Z1 ah),(12,hX Z1 af ah),(13,hS Z1 aa 0 [iI .i64 aa.f0.f0,iI .i64 aa.f0.f1,iI .i64 aa.f0.f2,.row (aa.f1.map Z0)] ah),(14,hX Z1 aj ak),(15,hS Z1 ae 0 [iI .i64 ae.f0.f0,iI .i64 ae.f0.f1,iI .i64 ae.f0.f2,.row (ae.f1.map Z0)] ak)]<|.r0<|.bl<|.lq (.c3 (Zd.l0.partial_correctness a1)) ((a0.set (Int.toNat (a1)) aa).set (Int.toNat (a3)) ae,i64.wrap (a1+1),i64.wrap (a2-1)) [(0,0)] (fun _=>.pr fun al=>.pr fun am=>.one (fun an=>⟨[(0,.own 0),(1,qi a1),(4,.im (qf 20)),(11,qi am),(12,qi an)],[q4 0 al],1⟩) fun an=>.bl<|.bl<|.lq (.one (Zd.l1.partial_correctness a1 al an)) am [(0,0)] (fun _=>.one (fun ao=>⟨[(0,.own 0),(1,qi a1),(4,.im (qf 20)),(11,qi ao),(12,qi an)],[q4 0 al],1⟩) fun ao=>.join (.sp (fun aq=>.el fun ar au av=>.el fun aw ax ay=>.bd fun az a8=>.rg [(3,hB aq),(7,hX Z1 au av),(8,hL Z1 av),(11,hX Z1 ax ay),(12,hL Z1 ay),(13,qh call20 (Z08.ok ar aw az a8))]<|.o [(0,0)])
 (fun aq=>.rg [(3,hB aq)]<|.o [(0,0)]))
 (.st .normal (fun a9=>⟨[(0,.own 0),(1,qi a1),(4,.im (qf 20)),(11,qi ao),(12,qi an),(47,bV a9)],[q4 0 al],1⟩) fun a9=>.cd (fun ba=>.bl<|.r0<|.bk [(0,0)] rfl)
 (fun ba=>.o [(0,0)])))
 (.st (.exit 2) (fun bb=>⟨[(0,.own 0),(1,qi a1),(4,.im (qf 20)),(11,qi bb),(12,qi an)],[q4 0 al],1⟩) fun bb=>.bl<|.lq (.one (Zd.l2.partial_correctness a1 al bb)) an [(0,0)] (fun _=>.one (fun bc=>⟨[(0,.own 0),(1,qi a1),(4,.im (qf 20)),(11,qi bb),(12,qi bc)],[q4 0 al],1⟩) fun bc=>.join (.sp (fun be=>.el fun bf bg bh=>.el fun bi bj bn=>.bd fun bo bp=>.rg [(3,hB be),(7,hX Z1 bg bh),(8,hL Z1 bh),(11,hX Z1 bj bn),(12,hL Z1 bn),(13,qh call20 (Z08.ok bf bi bo bp))]<|.o [(0,0)])
 (fun be=>.rg [(3,hB be)]<|.o [(0,0)]))
 (.st .normal (fun bq=>⟨[(0,.own 0),(1,qi a1),(4,.im (qf 20)),(11,qi bb),(12,qi bc),(65,bV bq)],[q4 0 al],1⟩) fun bq=>.cd (fun br=>.bl<|.r0<|.bk [(0,0)] rfl)
 (fun br=>.o [(0,0)])))
 (.st (.exit 4) (fun bu=>⟨[(0,.own 0),(1,qi a1),(4,.im (qf 20)),(11,qi bb),(12,qi bu)],[q4 0 al],1⟩) fun bu=>.r0<|.cd (fun bv=>.o [(0,0)])
 (fun bv=>.el fun bw bx bz=>.el fun ca cb cc=>.el fun ce cf cj=>.rg [(6,hX Z1 bx bz),(7,hL Z1 bz),(10,hX Z1 cb cc),(11,hL Z1 cc),(12,hX Z1 cb cc),(13,hS Z1 bw 0 [iI .i64 bw.f0.f0,iI .i64 bw.f0.f1,iI .i64 bw.f0.f2,.row (bw.f1.map Z0)] cc),(14,hX Z1 cf cj),(15,hS Z1 ca 0 [iI .i64 ca.f0.f0,iI .i64 ca.f0.f1,iI .i64 ca.f0.f2,.row (ca.f1.map Z0)] cj)]<|.r0<|.r0<|.bk [(0,0)] rfl))))
 (.pr fun cm=>.st (.exit 0) (fun cn=>⟨[(11,qi cm)],[q4 0 cn],1⟩) fun cn=>.r0<|.ru [(0,0)] ⟨[(10,qi cm)],[q4 0 cn],1⟩))
def Z8.l0 (a0:List Z3) (a1 a2 a3:Int) (aa ab:Z3) (ac:Int):Option Int:=((if decide (ac≤(i64.wrap (a2-1))) then((at? ((a0.set a1.toNat aa).set a3.toNat ab) ac)>>=fun ae=>(at? ((a0.set a1.toNat aa).set a3.toNat ab) a1)>>=fun af=>(Z08.f ae af)>>=fun ah=>some (decide (ah<0))) else(some false)):Option Bool)>>=fun ai=>if ai=true then(Z8.l0 a0 a1 a2 a3 aa ab (i64.wrap (ac+1))) else(some ac)
partial_fixpoint
def Z8.l1 (a0:List Z3) (a1 a3:Int) (aa ab:Z3) (ac ae:Int):Option Int:=((if decide (ac≤ae) then((at? ((a0.set a1.toNat aa).set a3.toNat ab) ae)>>=fun af=>(at? ((a0.set a1.toNat aa).set a3.toNat ab) a1)>>=fun ah=>(Z08.f af ah)>>=fun ai=>some (!(decide (ai<0)))) else(some false)):Option Bool)>>=fun aj=>if aj=true then(Z8.l1 a0 a1 a3 aa ab ac (i64.wrap (ae-1))) else(some ae)
partial_fixpoint
def Z8.l3 (a1:Int) (aa:List Z3) (ab ac:Int):Option Int:=((if decide (ac≤ab) then((at? aa ac)>>=fun ae=>(at? aa a1)>>=fun af=>(Z08.f ae af)>>=fun ah=>some (decide (ah<0))) else(some false)):Option Bool)>>=fun ai=>if ai=true then(Z8.l3 a1 aa ab (i64.wrap (ac+1))) else(some ac)
partial_fixpoint
def Z8.l4 (a1:Int) (aa:List Z3) (ab ac:Int):Option Int:=((if decide (ab≤ac) then((at? aa ac)>>=fun ae=>(at? aa a1)>>=fun af=>(Z08.f ae af)>>=fun ah=>some (!(decide (ah<0)))) else(some false)):Option Bool)>>=fun ai=>if ai=true then(Z8.l4 a1 aa ab (i64.wrap (ac-1))) else(some ac)
partial_fixpoint
def Z8.l2 (a1:Int) (aa:List Z3) (ab ac:Int):Option ((List Z3)×Int):=(Z8.l3 a1 aa ac ab)>>=fun ae=>(Z8.l4 a1 aa ae ac)>>=fun af=>if decide (ae>af) then(some (aa,af)) else((at? aa af)>>=fun ah=>(at? aa ae)>>=fun ai=>(at? (aa.set ae.toNat ah) af)>>=fun aj=>Z8.l2 a1 ((aa.set ae.toNat ah).set af.toNat ai) (i64.wrap (ae+1)) (i64.wrap (af-1)))
partial_fixpoint
def Z8.f (a0:List Z3) (a1 a2 a3:Int):Option (Int×Bool×(List Z3)):=(at? a0 a3)>>=fun aa=>(at? a0 a1)>>=fun ab=>(at? (a0.set a1.toNat aa) a3)>>=fun ac=>(Z8.l0 a0 a1 a2 a3 aa ab (i64.wrap (a1+1)))>>=fun ae=>(Z8.l1 a0 a1 a3 aa ab ae (i64.wrap (a2-1)))>>=fun af=>if decide (ae>af) then((at? ((a0.set a1.toNat aa).set a3.toNat ab) a1)>>=fun ah=>(at? ((a0.set a1.toNat aa).set a3.toNat ab) af)>>=fun ai=>(at? (((a0.set a1.toNat aa).set a3.toNat ab).set af.toNat ah) a1)>>=fun aj=>some (af,true,(((a0.set a1.toNat aa).set a3.toNat ab).set af.toNat ah).set a1.toNat ai)) else((at? ((a0.set a1.toNat aa).set a3.toNat ab) af)>>=fun ak=>(at? ((a0.set a1.toNat aa).set a3.toNat ab) ae)>>=fun al=>(at? (((a0.set a1.toNat aa).set a3.toNat ab).set ae.toNat ak) af)>>=fun am=>(Z8.l2 a1 ((((a0.set a1.toNat aa).set a3.toNat ab).set ae.toNat ak).set af.toNat al) (i64.wrap (ae+1)) (i64.wrap (af-1)))>>=fun | (an,ao)=>((at? an a1)>>=fun aq=>(at? an ao)>>=fun ar=>(at? (an.set ao.toNat aq) a1)>>=fun au=>some (ao,false,(an.set ao.toNat aq).set a1.toNat ar)))
theorem Z8.ok (a0:List Z3) (a1 a2 a3:Int):FN 59 [.own 0,qi a1,qi a2,qi a3,.im (qf 20)] [q4 0 a0] 1 (Z8.f a0 a1 a2 a3) (fun r=>.tup [qi r.1,bV r.2.1]) (fun r=>[q4 0 r.2.2]):=FT [0] func59 (.r0<|.el fun aa ab ac=>.el fun ae af ah=>.el fun ai aj ak=>.rg [(6,hX Z1 ab ac),(7,hL Z1 ac),(10,hX Z1 af ah),(11,hL Z1 ah),(12,hX Z1 af ah),(13,hS Z1 aa 0 [iI .i64 aa.f0.f0,iI .i64 aa.f0.f1,iI .i64 aa.f0.f2,.row (aa.f1.map Z0)] ah),(14,hX Z1 aj ak),(15,hS Z1 ae 0 [iI .i64 ae.f0.f0,iI .i64 ae.f0.f1,iI .i64 ae.f0.f2,.row (ae.f1.map Z0)] ak)]<|.r0<|.bl<|.lq (.one (Z8.l0.partial_correctness a0 a1 a2 a3 aa ae)) (i64.wrap (a1+1)) [(0,0)] (fun _=>.one (fun al=>⟨[(0,.own 0),(1,qi a1),(4,.im (qf 20)),(12,qi al),(13,qi (i64.wrap (a2-1)))],[q4 0 ((a0.set (Int.toNat (a1)) aa).set (Int.toNat (a3)) ae)],1⟩) fun al=>.join (.sp (fun am=>.el fun an ao aq=>.el fun ar au av=>.bd fun aw ax=>.rg [(3,hB am),(7,hX Z1 ao aq),(8,hL Z1 aq),(11,hX Z1 au av),(12,hL Z1 av),(13,qh call20 (Z08.ok an ar aw ax))]<|.o [(0,0)])
 (fun am=>.rg [(3,hB am)]<|.o [(0,0)]))
 (.st .normal (fun ay=>⟨[(0,.own 0),(1,qi a1),(4,.im (qf 20)),(12,qi al),(13,qi (i64.wrap (a2-1))),(47,bV ay)],[q4 0 ((a0.set (Int.toNat (a1)) aa).set (Int.toNat (a3)) ae)],1⟩) fun ay=>.cd (fun az=>.bl<|.r0<|.bk [(0,0)] rfl)
 (fun az=>.o [(0,0)])))
 (.st (.exit 0) (fun a8=>⟨[(0,.own 0),(1,qi a1),(4,.im (qf 20)),(12,qi a8),(13,qi (i64.wrap (a2-1)))],[q4 0 ((a0.set (Int.toNat (a1)) aa).set (Int.toNat (a3)) ae)],1⟩) fun a8=>.bl<|.lq (.one (Z8.l1.partial_correctness a0 a1 a3 aa ae a8)) (i64.wrap (a2-1)) [(0,0)] (fun _=>.one (fun a9=>⟨[(0,.own 0),(1,qi a1),(4,.im (qf 20)),(12,qi a8),(13,qi a9)],[q4 0 ((a0.set (Int.toNat (a1)) aa).set (Int.toNat (a3)) ae)],1⟩) fun a9=>.join (.sp (fun ba=>.el fun bb bc be=>.el fun bf bg bh=>.bd fun bi bj=>.rg [(3,hB ba),(7,hX Z1 bc be),(8,hL Z1 be),(11,hX Z1 bg bh),(12,hL Z1 bh),(13,qh call20 (Z08.ok bb bf bi bj))]<|.o [(0,0)])
 (fun ba=>.rg [(3,hB ba)]<|.o [(0,0)]))
 (.st .normal (fun bn=>⟨[(0,.own 0),(1,qi a1),(4,.im (qf 20)),(12,qi a8),(13,qi a9),(66,bV bn)],[q4 0 ((a0.set (Int.toNat (a1)) aa).set (Int.toNat (a3)) ae)],1⟩) fun bn=>.cd (fun bo=>.bl<|.r0<|.bk [(0,0)] rfl)
 (fun bo=>.o [(0,0)])))
 (.st (.exit 2) (fun bp=>⟨[(0,.own 0),(1,qi a1),(4,.im (qf 20)),(12,qi a8),(13,qi bp)],[q4 0 ((a0.set (Int.toNat (a1)) aa).set (Int.toNat (a3)) ae)],1⟩) fun bp=>.r0<|.cd (fun bq=>.el fun br bu bv=>.el fun bw bx bz=>.el fun ca cb cc=>.rg [(6,hX Z1 bu bv),(7,hL Z1 bv),(10,hX Z1 bx bz),(11,hL Z1 bz),(12,hX Z1 bx bz),(13,hS Z1 br 0 [iI .i64 br.f0.f0,iI .i64 br.f0.f1,iI .i64 br.f0.f2,.row (br.f1.map Z0)] bz),(14,hX Z1 cb cc),(15,hS Z1 bw 0 [iI .i64 bw.f0.f0,iI .i64 bw.f0.f1,iI .i64 bw.f0.f2,.row (bw.f1.map Z0)] cc)]<|.r0<|.ru [(0,0)] ⟨[(10,qi bp),(11,bV true)],[q4 0 ((((a0.set (Int.toNat (a1)) aa).set (Int.toNat (a3)) ae).set (Int.toNat (bp)) br).set (Int.toNat (a1)) bw)],1⟩)
 (fun bq=>.el fun ce cf cj=>.el fun cm cn co=>.el fun cp cq cr=>.rg [(6,hX Z1 cf cj),(7,hL Z1 cj),(10,hX Z1 cn co),(11,hL Z1 co),(12,hX Z1 cn co),(13,hS Z1 ce 0 [iI .i64 ce.f0.f0,iI .i64 ce.f0.f1,iI .i64 ce.f0.f2,.row (ce.f1.map Z0)] co),(14,hX Z1 cq cr),(15,hS Z1 cm 0 [iI .i64 cm.f0.f0,iI .i64 cm.f0.f1,iI .i64 cm.f0.f2,.row (cm.f1.map Z0)] cr)]<|.r0<|.r0<|.bl<|.lq (.c3 (Z8.l2.partial_correctness a1)) ((((a0.set (Int.toNat (a1)) aa).set (Int.toNat (a3)) ae).set (Int.toNat (a8)) ce).set (Int.toNat (bp)) cm,i64.wrap (a8+1),i64.wrap (bp-1)) [(0,0)] (fun _=>.pr fun ct=>.pr fun cu=>.one (fun cw=>⟨[(0,.own 0),(1,qi a1),(4,.im (qf 20)),(12,qi cu),(13,qi cw)],[q4 0 ct],1⟩) fun cw=>.bl<|.bl<|.lq (.one (Z8.l3.partial_correctness a1 ct cw)) cu [(0,0)] (fun _=>.one (fun cx=>⟨[(0,.own 0),(1,qi a1),(4,.im (qf 20)),(12,qi cx),(13,qi cw)],[q4 0 ct],1⟩) fun cx=>.join (.sp (fun cy=>.el fun cz c8 c9=>.el fun da db dc=>.bd fun dd de=>.rg [(3,hB cy),(7,hX Z1 c8 c9),(8,hL Z1 c9),(11,hX Z1 db dc),(12,hL Z1 dc),(13,qh call20 (Z08.ok cz da dd de))]<|.o [(0,0)])
 (fun cy=>.rg [(3,hB cy)]<|.o [(0,0)]))
 (.st .normal (fun df=>⟨[(0,.own 0),(1,qi a1),(4,.im (qf 20)),(12,qi cx),(13,qi cw),(120,bV df)],[q4 0 ct],1⟩) fun df=>.cd (fun dg=>.bl<|.r0<|.bk [(0,0)] rfl)
 (fun dg=>.o [(0,0)])))
 (.st (.exit 6) (fun dh=>⟨[(0,.own 0),(1,qi a1),(4,.im (qf 20)),(12,qi dh),(13,qi cw)],[q4 0 ct],1⟩) fun dh=>.bl<|.lq (.one (Z8.l4.partial_correctness a1 ct dh)) cw [(0,0)] (fun _=>.one (fun di=>⟨[(0,.own 0),(1,qi a1),(4,.im (qf 20)),(12,qi dh),(13,qi di)],[q4 0 ct],1⟩) fun di=>.join (.sp (fun dj=>.el fun dk dm dn=>.el fun dp dq dr=>.bd fun dt du=>.rg [(3,hB dj),(7,hX Z1 dm dn),(8,hL Z1 dn),(11,hX Z1 dq dr),(12,hL Z1 dr),(13,qh call20 (Z08.ok dk dp dt du))]<|.o [(0,0)])
 (fun dj=>.rg [(3,hB dj)]<|.o [(0,0)]))
 (.st .normal (fun dv=>⟨[(0,.own 0),(1,qi a1),(4,.im (qf 20)),(12,qi dh),(13,qi di),(139,bV dv)],[q4 0 ct],1⟩) fun dv=>.cd (fun dw=>.bl<|.r0<|.bk [(0,0)] rfl)
 (fun dw=>.o [(0,0)])))
 (.st (.exit 8) (fun dx=>⟨[(0,.own 0),(1,qi a1),(4,.im (qf 20)),(12,qi dh),(13,qi dx)],[q4 0 ct],1⟩) fun dx=>.r0<|.cd (fun dy=>.o [(0,0)])
 (fun dy=>.el fun dz d5 d6=>.el fun d7 d8 d9=>.el fun ea ed ee=>.rg [(6,hX Z1 d5 d6),(7,hL Z1 d6),(10,hX Z1 d8 d9),(11,hL Z1 d9),(12,hX Z1 d8 d9),(13,hS Z1 dz 0 [iI .i64 dz.f0.f0,iI .i64 dz.f0.f1,iI .i64 dz.f0.f2,.row (dz.f1.map Z0)] d9),(14,hX Z1 ed ee),(15,hS Z1 d7 0 [iI .i64 d7.f0.f0,iI .i64 d7.f0.f1,iI .i64 d7.f0.f2,.row (d7.f1.map Z0)] ee)]<|.r0<|.r0<|.bk [(0,0)] rfl))))
 (.pr fun ef=>.st (.exit 4) (fun eg=>⟨[(0,.own 0),(1,qi a1),(13,qi eg)],[q4 0 ef],1⟩) fun eg=>.el fun eh ei em=>.el fun eo ep eq=>.el fun eu ev ew=>.rg [(6,hX Z1 ei em),(7,hL Z1 em),(10,hX Z1 ep eq),(11,hL Z1 eq),(12,hX Z1 ep eq),(13,hS Z1 eh 0 [iI .i64 eh.f0.f0,iI .i64 eh.f0.f1,iI .i64 eh.f0.f2,.row (eh.f1.map Z0)] eq),(14,hX Z1 ev ew),(15,hS Z1 eo 0 [iI .i64 eo.f0.f0,iI .i64 eo.f0.f1,iI .i64 eo.f0.f2,.row (eo.f1.map Z0)] ew)]<|.r0<|.ru [(0,0)] ⟨[(10,qi eg),(11,bV false)],[q4 0 ((ef.set (Int.toNat (eg)) eh).set (Int.toNat (a1)) eo)],1⟩)))))
def Z1a.f (a0:Int):Option Int:=(Z3a.f (u64.wrap (a0)))>>=fun aa=>(chk (0≤aa))>>=fun _=>some (u64.wrap ((1:Int)*2 ^ (min aa.toNat 64)))
theorem Z1a.ok (a0:Int):F0 83 [qi a0] (Z1a.f a0) (fun r=>qu r):=FT [] func83 (.r0<|.bd fun aa ab=>.ck fun ac=>.rg [(2,qh call35 (Z3a.ok (u64.wrap (a0)) aa ab)),(3,hN (p1 ac))]<|.rv ⟨[(2,qu (u64.wrap ((1:Int)*2 ^ (min (Int.toNat (aa)) 64))))],[],0⟩)
def Z15.f (aa:Int):Option Unit:=some ()
abbrev v1_ (k:Nat) (x:List AVal):Nat×Option MObj:=BX 132 k x
theorem Z15.ok (aa:Int):FN 84 [.ptr 0 0 0] [v1_ 0 [qu aa]] 1 (Z15.f aa) (fun r=>qu (u64.wrap ((qx (u64.wrap ((qx (u64.wrap ((qx aa (u64.wrap (aa*8192))))) (Int.fdiv (u64.wrap ((qx aa (u64.wrap (aa*8192))))) 128)))) (u64.wrap ((u64.wrap ((qx (u64.wrap ((qx aa (u64.wrap (aa*8192))))) (Int.fdiv (u64.wrap ((qx aa (u64.wrap (aa*8192))))) 128))))*131072)))))) (fun r=>[v1_ 0 [qu (u64.wrap ((qx (u64.wrap ((qx (u64.wrap ((qx aa (u64.wrap (aa*8192))))) (Int.fdiv (u64.wrap ((qx aa (u64.wrap (aa*8192))))) 128)))) (u64.wrap ((u64.wrap ((qx (u64.wrap ((qx aa (u64.wrap (aa*8192))))) (Int.fdiv (u64.wrap ((qx aa (u64.wrap (aa*8192))))) 128))))*131072)))))]]):=FT [0] func84 (.r0<|.rg [(6,hK 13)]<|.rg [(6,hK 7)]<|.rg [(6,hK 17)]<|.r0<|.ru [(0,0)] ⟨[(2,qu (u64.wrap ((qx (u64.wrap ((qx (u64.wrap ((qx aa (u64.wrap (aa*8192))))) (Int.fdiv (u64.wrap ((qx aa (u64.wrap (aa*8192))))) 128)))) (u64.wrap ((u64.wrap ((qx (u64.wrap ((qx aa (u64.wrap (aa*8192))))) (Int.fdiv (u64.wrap ((qx aa (u64.wrap (aa*8192))))) 128))))*131072))))))],[v1_ 0 [qu (u64.wrap ((qx (u64.wrap ((qx (u64.wrap ((qx aa (u64.wrap (aa*8192))))) (Int.fdiv (u64.wrap ((qx aa (u64.wrap (aa*8192))))) 128)))) (u64.wrap ((u64.wrap ((qx (u64.wrap ((qx aa (u64.wrap (aa*8192))))) (Int.fdiv (u64.wrap ((qx aa (u64.wrap (aa*8192))))) 128))))*131072)))))]],1⟩)
def Zx.l0 (a1 a2 aa:Int) (ab:List Z3) (ac ae:Int):Option (List Z3):=if decide (ae≤(i64.wrap ((i64.wrap (a1+(i64.wrap ((i64.wrap (Int.tdiv (i64.wrap (a2-a1)) (4:Int)))*2))))+1))) then((Z15.f ac)>>=fun af=>((if decide ((i64.wrap (u64.wrap (((BitVec.toNat (BitVec.ofInt 64 (u64.wrap (((BitVec.toNat (BitVec.ofInt 64 (u64.wrap (((BitVec.toNat (BitVec.ofInt 64 (u64.wrap (((BitVec.toNat (BitVec.ofInt 64 ac ^^^ BitVec.ofInt 64 (u64.wrap (ac*8192))):Nat):Int))) ^^^ BitVec.ofInt 64 (Int.fdiv (u64.wrap (((BitVec.toNat (BitVec.ofInt 64 ac ^^^ BitVec.ofInt 64 (u64.wrap (ac*8192))):Nat):Int))) 128)):Nat):Int))) ^^^ BitVec.ofInt 64 (u64.wrap ((u64.wrap (((BitVec.toNat (BitVec.ofInt 64 (u64.wrap (((BitVec.toNat (BitVec.ofInt 64 ac ^^^ BitVec.ofInt 64 (u64.wrap (ac*8192))):Nat):Int))) ^^^ BitVec.ofInt 64 (Int.fdiv (u64.wrap (((BitVec.toNat (BitVec.ofInt 64 ac ^^^ BitVec.ofInt 64 (u64.wrap (ac*8192))):Nat):Int))) 128)):Nat):Int)))*131072))):Nat):Int))) &&& BitVec.ofInt 64 (u64.wrap (aa-1))):Nat):Int))))≥(i64.wrap (a2-a1))) then(some (i64.wrap ((i64.wrap (u64.wrap (((BitVec.toNat (BitVec.ofInt 64 (u64.wrap (((BitVec.toNat (BitVec.ofInt 64 (u64.wrap (((BitVec.toNat (BitVec.ofInt 64 (u64.wrap (((BitVec.toNat (BitVec.ofInt 64 ac ^^^ BitVec.ofInt 64 (u64.wrap (ac*8192))):Nat):Int))) ^^^ BitVec.ofInt 64 (Int.fdiv (u64.wrap (((BitVec.toNat (BitVec.ofInt 64 ac ^^^ BitVec.ofInt 64 (u64.wrap (ac*8192))):Nat):Int))) 128)):Nat):Int))) ^^^ BitVec.ofInt 64 (u64.wrap ((u64.wrap (((BitVec.toNat (BitVec.ofInt 64 (u64.wrap (((BitVec.toNat (BitVec.ofInt 64 ac ^^^ BitVec.ofInt 64 (u64.wrap (ac*8192))):Nat):Int))) ^^^ BitVec.ofInt 64 (Int.fdiv (u64.wrap (((BitVec.toNat (BitVec.ofInt 64 ac ^^^ BitVec.ofInt 64 (u64.wrap (ac*8192))):Nat):Int))) 128)):Nat):Int)))*131072))):Nat):Int))) &&& BitVec.ofInt 64 (u64.wrap (aa-1))):Nat):Int))))-(i64.wrap (a2-a1))))) else(some (i64.wrap (u64.wrap (((BitVec.toNat (BitVec.ofInt 64 (u64.wrap (((BitVec.toNat (BitVec.ofInt 64 (u64.wrap (((BitVec.toNat (BitVec.ofInt 64 (u64.wrap (((BitVec.toNat (BitVec.ofInt 64 ac ^^^ BitVec.ofInt 64 (u64.wrap (ac*8192))):Nat):Int))) ^^^ BitVec.ofInt 64 (Int.fdiv (u64.wrap (((BitVec.toNat (BitVec.ofInt 64 ac ^^^ BitVec.ofInt 64 (u64.wrap (ac*8192))):Nat):Int))) 128)):Nat):Int))) ^^^ BitVec.ofInt 64 (u64.wrap ((u64.wrap (((BitVec.toNat (BitVec.ofInt 64 (u64.wrap (((BitVec.toNat (BitVec.ofInt 64 ac ^^^ BitVec.ofInt 64 (u64.wrap (ac*8192))):Nat):Int))) ^^^ BitVec.ofInt 64 (Int.fdiv (u64.wrap (((BitVec.toNat (BitVec.ofInt 64 ac ^^^ BitVec.ofInt 64 (u64.wrap (ac*8192))):Nat):Int))) 128)):Nat):Int)))*131072))):Nat):Int))) &&& BitVec.ofInt 64 (u64.wrap (aa-1))):Nat):Int)))))):Option Int)>>=fun ah=>(at? ab (i64.wrap (a1+ah)))>>=fun ai=>(at? ab ae)>>=fun aj=>(at? (ab.set ae.toNat ai) (i64.wrap (a1+ah)))>>=fun ak=>Zx.l0 a1 a2 aa ((ab.set ae.toNat ai).set (i64.wrap (a1+ah)).toNat aj) (u64.wrap (((BitVec.toNat (BitVec.ofInt 64 (u64.wrap (((BitVec.toNat (BitVec.ofInt 64 (u64.wrap (((BitVec.toNat (BitVec.ofInt 64 ac ^^^ BitVec.ofInt 64 (u64.wrap (ac*8192))):Nat):Int))) ^^^ BitVec.ofInt 64 (Int.fdiv (u64.wrap (((BitVec.toNat (BitVec.ofInt 64 ac ^^^ BitVec.ofInt 64 (u64.wrap (ac*8192))):Nat):Int))) 128)):Nat):Int))) ^^^ BitVec.ofInt 64 (u64.wrap ((u64.wrap (((BitVec.toNat (BitVec.ofInt 64 (u64.wrap (((BitVec.toNat (BitVec.ofInt 64 ac ^^^ BitVec.ofInt 64 (u64.wrap (ac*8192))):Nat):Int))) ^^^ BitVec.ofInt 64 (Int.fdiv (u64.wrap (((BitVec.toNat (BitVec.ofInt 64 ac ^^^ BitVec.ofInt 64 (u64.wrap (ac*8192))):Nat):Int))) 128)):Nat):Int)))*131072))):Nat):Int))) (i64.wrap (ae+1))) else(some ab)
partial_fixpoint
def Zx.f (a0:List Z3) (a1 a2:Int):Option (List Z3):=((if decide ((i64.wrap (a2-a1))≥8) then((Z1a.f (i64.wrap (a2-a1)))>>=fun aa=>(Zx.l0 a1 a2 aa a0 (u64.wrap (i64.wrap (a2-a1))) (i64.wrap ((i64.wrap (a1+(i64.wrap ((i64.wrap (Int.tdiv (i64.wrap (a2-a1)) (4:Int)))*2))))-1)))>>=fun ab=>some ab) else(some a0)):Option (List Z3))>>=fun ac=>some ac
theorem Zx.ok (a0:List Z3) (a1 a2:Int):FN 54 [.own 0,qi a1,qi a2,.im (qf 20)] [q4 0 a0] 1 (Zx.f a0 a1 a2) (fun r=>.tup []) (fun r=>[q4 0 r]):=FT [0] func54 (.r0<|.r0<|.join (.cd (fun aa=>.rg [(2,⟨.k 1,.n⟩)]<|.bd fun ab ac=>.rg [(1,qh call83 (Z1a.ok (i64.wrap (a2-a1)) ab ac))]<|.rg [(2,hJ 4)]<|.bl<|.lq (.c3 (Zx.l0.partial_correctness a1 a2 ab)) (a0,u64.wrap (i64.wrap (a2-a1)),i64.wrap ((i64.wrap (a1+(i64.wrap ((i64.wrap (Int.tdiv (i64.wrap (a2-a1)) (4:Int)))*2))))-1)) [(0,0),(1,3)] (fun _=>.pr fun ae=>.pr fun af=>.one (fun ah=>⟨[(0,.own 0),(1,qi a1),(8,qi (i64.wrap (a2-a1))),(9,.ptr 3 0 0),(10,qu ab),(11,qi ah)],[q4 0 ae,v1_ 3 [qu af]],1⟩) fun ah=>.rg [(3,hJ 4)]<|.cd (fun ai=>.bl<|.bd fun aj ak=>.rg [(0,hC [(3,0)] [(0,3)] [] [] call84 (Z15.ok af aj ak))]<|.r0<|.join (.cd (fun al=>.r0<|.o [(0,0),(3,4)])
 (fun al=>.o [(0,0),(3,4)]))
 (.st .normal (fun am=>⟨[(0,.own 0),(1,qi a1),(8,qi (i64.wrap (a2-a1))),(9,.ptr 4 0 0),(10,qu ab),(11,qi ah),(12,qi am)],[q4 0 ae,v1_ 4 [qu (u64.wrap ((qx (u64.wrap ((qx (u64.wrap ((qx af (u64.wrap (af*8192))))) (Int.fdiv (u64.wrap ((qx af (u64.wrap (af*8192))))) 128)))) (u64.wrap ((u64.wrap ((qx (u64.wrap ((qx af (u64.wrap (af*8192))))) (Int.fdiv (u64.wrap ((qx af (u64.wrap (af*8192))))) 128))))*131072)))))]],1⟩) fun am=>.el fun an ao aq=>.el fun ar au av=>.el fun aw ax ay=>.rg [(10,hX Z1 ao aq),(11,hL Z1 aq),(14,hX Z1 au av),(15,hL Z1 av),(16,hX Z1 au av),(17,hS Z1 an 0 [iI .i64 an.f0.f0,iI .i64 an.f0.f1,iI .i64 an.f0.f2,.row (an.f1.map Z0)] av),(18,hX Z1 ax ay),(19,hS Z1 ar 0 [iI .i64 ar.f0.f0,iI .i64 ar.f0.f1,iI .i64 ar.f0.f2,.row (ar.f1.map Z0)] ay)]<|.r0<|.bk [(0,0),(4,3)] rfl))
 (fun ai=>.o [(0,0)]))
 (.st (.exit 0) (fun az=>⟨[],[q4 0 az],1⟩) fun az=>.o [(0,0)]))
 (fun aa=>.o [(0,0)]))
 (.st .normal (fun a8=>⟨[],[q4 0 a8],1⟩) fun a8=>.ru [(0,0)] ⟨[],[q4 0 a8],1⟩))
def Zg.l0 (self:(List Z3)→Int→Int→Int→Option (List Z3)) (aa:List Z3) (ab ac ae:Int) (af ah:Bool):Option (List Z3):=((if decide ((i64.wrap (ac-ab))≤12) then((Zk.f aa ab ac)>>=fun ai=>some (.inl ai)) else(if ae==0 then((Zn.f aa ab ac)>>=fun aj=>some (.inl aj)) else(((if !af then((Zx.f aa ab ac)>>=fun ak=>some (ak,i64.wrap (ae-1))) else(some (aa,ae))):Option ((List Z3)×Int))>>=fun | (al,am)=>((Z0k.f al ab ac)>>=fun an=>((if an.2==2 then((Zy.f al ab ac)>>=fun ao=>some (ao,i64.wrap ((i64.wrap (ac-1))-(i64.wrap (an.1-ab))),1)) else(some (al,an.1,an.2))):Option ((List Z3)×Int×Int))>>=fun | (aq,ar,au)=>(((if af=true then(if ah=true then(some (au==1)) else(some false)) else(some false)):Option Bool)>>=fun av=>((if av=true then((Z6.f aq ab ac)>>=fun aw=>if aw.1=true then(some (.inl aw.2)) else(some (.inr aw.2))) else(some (.inr aq))):Option ((List Z3) ⊕ (List Z3)))>>=fun | .inl rr=>(some (.inl rr)) | .inr ax=>(((if decide (ab>0) then((at? ax (i64.wrap (ab-1)))>>=fun ay=>(at? ax ar)>>=fun az=>(Z08.f ay az)>>=fun a8=>some (!(decide (a8<0)))) else(some false)):Option Bool)>>=fun a9=>if a9=true then((Zd.f ax ab ac ar)>>=fun ba=>some (.inr (ba.2,ba.1,ac,am,af,ah))) else((Z8.f ax ab ac ar)>>=fun bb=>((if decide ((i64.wrap (bb.1-ab))<(i64.wrap (ac-bb.1))) then((self bb.2.2 ab bb.1 am)>>=fun bc=>some (bc,i64.wrap (bb.1+1),ac,(decide ((i64.wrap (bb.1-ab))≥(i64.wrap (Int.tdiv (i64.wrap (ac-ab)) (8:Int))))))) else((self bb.2.2 (i64.wrap (bb.1+1)) ac am)>>=fun be=>some (be,ab,bb.1,(decide ((i64.wrap (ac-bb.1))≥(i64.wrap (Int.tdiv (i64.wrap (ac-ab)) (8:Int)))))))):Option ((List Z3)×Int×Int×Bool))>>=fun | (bf,bg,bh,bi)=>(some (.inr (bf,bg,bh,am,bi,bb.2.1)))))))))):Option ((List Z3) ⊕ ((List Z3)×Int×Int×Int×Bool×Bool)))>>=fun | .inl rr=>(some rr) | .inr (bj,bn,bo,bp,bq,br)=>(Zg.l0 self bj bn bo bp bq br)
partial_fixpoint
def Zg.fu:Nat→(List Z3)→Int→Int→Int→Option (List Z3)
 | 0,_,_,_,_=>none
 | k+1,a0,a1,a2,a3=>(Zg.l0 (Zg.fu k) a0 a1 a2 a3 true true)>>=fun rr=>some rr
def Zg.f (a0:List Z3) (a1 a2 a3:Int):Option (List Z3):=Zg.fu 100 a0 a1 a2 a3
theorem Zg.oku (k:Nat) (a0:List Z3) (a1 a2 a3:Int) (r:List Z3) (H:Zg.fu k a0 a1 a2 a3=some r):Pv.Fn Try.prog 34 [.own 0,qi a1,qi a2,qi a3,.im (qf 20)] [q4 0 a0] 1 (fun x o=>x = .tup []∧o=[q4 0 r]):=by
 induction k generalizing a0 a1 a2 a3 r with
 | zero=>simp[Zg.fu] at H
 | succ k ihF =>
 rw[Zg.fu] at H;exact HT.fn H (fun r=>.tup []) (fun r=>[q4 0 r]) [0] func34 rfl rfl hmx (.r0<|.r0<|.bl<|.loop (.c6 (Zg.l0.partial_correctness (Zg.fu k))) (a0,a1,a2,a3,true,true) [(0,0)] [] [] (fun _=>.pr fun aa=>.pr fun ab=>.pr fun ac=>.pr fun ae=>.pr fun af=>.one (fun ah=>⟨[(0,.own 0),(1,qi ab),(2,qi ac),(3,qi ae),(4,.im (qf 20)),(10,bV af),(11,bV ah)],[q4 0 aa],1⟩) fun ah=>.join (.bl<|.r0<|.r0<|.cd (fun ai=>.bd fun aj ak=>.rg [(4,jA call52 (Zk.ok aa ab ac aj ak))]<|.ru [(0,0)] ⟨[],[q4 0 aj],1⟩)
 (fun ai=>.r0<|.cd (fun al=>.bd fun am an=>.rg [(4,jA call53 (Zn.ok aa ab ac am an))]<|.ru [(0,0)] ⟨[],[q4 0 am],1⟩)
 (fun al=>.r0<|.join (.cd (fun ao=>.bd fun aq ar=>.rg [(4,jA call54 (Zx.ok aa ab ac aq ar))]<|.r0<|.o [(0,0)])
 (fun ao=>.o [(0,0)]))
 (.pr fun au=>.st .normal (fun av=>⟨[(0,.own 0),(1,qi ab),(2,qi ac),(3,qi av),(4,.im (qf 20)),(10,bV af),(11,bV ah),(12,qi (i64.wrap (ac-ab)))],[q4 0 au],1⟩) fun av=>.bd fun aw ax=>.rg [(4,jA call55 (Z0k.ok au ab ac aw ax))]<|.r0<|.join (.cd (fun ay=>.bd fun az a8=>.rg [(4,jA call56 (Zy.ok au ab ac az a8))]<|.r0<|.r0<|.o [(0,0)])
 (fun ay=>.o [(0,0)]))
 (.pr fun a9=>.pr fun ba=>.st .normal (fun bb=>⟨[(0,.own 0),(1,qi ab),(2,qi ac),(3,qi av),(4,.im (qf 20)),(10,bV af),(11,bV ah),(12,qi (i64.wrap (ac-ab))),(13,qi ba),(14,qi bb)],[q4 0 a9],1⟩) fun bb=>.join (.sp (fun bc=>.sp (fun be=>.rg [(1,hB bc),(4,hB be)]<|.o [(0,0)])
 (fun be=>.rg [(1,hB bc),(4,hB be)]<|.o [(0,0)]))
 (fun bc=>.rg [(1,hB bc)]<|.o [(0,0)]))
 (.st .normal (fun bf=>⟨[(0,.own 0),(1,qi ab),(2,qi ac),(3,qi av),(4,.im (qf 20)),(10,bV af),(11,bV ah),(12,qi (i64.wrap (ac-ab))),(13,qi ba),(75,bV bf)],[q4 0 a9],1⟩) fun bf=>.join (.cd (fun bg=>.bd fun bh bi=>.rg [(4,jA call57 (Z6.ok a9 ab ac bh bi))]<|.cd (fun bj=>.ru [(0,0)] ⟨[],[q4 0 bh.2],1⟩)
 (fun bj=>.o [(0,0)]))
 (fun bg=>.o [(0,0)]))
 (.sm (.rt (fun rr=>.tup []) (fun rr=>[q4 0 rr]))
 (.st .normal (fun bn=>⟨[(0,.own 0),(1,qi ab),(2,qi ac),(3,qi av),(4,.im (qf 20)),(10,bV af),(11,bV ah),(12,qi (i64.wrap (ac-ab))),(13,qi ba)],[q4 0 bn],1⟩) fun bn=>.join (.sp (fun bo=>.el fun bp bq br=>.el fun bu bv bw=>.bd fun bx bz=>.rg [(2,hB bo),(7,hX Z1 bq br),(8,hL Z1 br),(11,hX Z1 bv bw),(12,hL Z1 bw),(13,qh call20 (Z08.ok bp bu bx bz))]<|.o [(0,0)])
 (fun bo=>.rg [(2,hB bo)]<|.o [(0,0)]))
 (.st .normal (fun ca=>⟨[(0,.own 0),(1,qi ab),(2,qi ac),(3,qi av),(4,.im (qf 20)),(10,bV af),(11,bV ah),(12,qi (i64.wrap (ac-ab))),(13,qi ba),(97,bV ca)],[q4 0 bn],1⟩) fun ca=>.cd (fun cb=>.bd fun cc ce=>.rg [(5,jA call58 (Zd.ok bn ab ac ba cc ce))]<|.r0<|.o [(0,0)])
 (fun cb=>.bd fun cf cj=>.rg [(5,jA call59 (Z8.ok bn ab ac ba cf cj))]<|.r0<|.r0<|.rg [(1,hJ 8)]<|.r0<|.join (.cd (fun cm=>.r0<|.bd fun cn co=>.rg [(5,jA call34 (ihF cf.2.2 ab cf.1 av _ co))]<|.r0<|.o [(0,0)])
 (fun cm=>.r0<|.bd fun cp cq=>.rg [(6,jA call34 (ihF cf.2.2 (i64.wrap (cf.1+1)) ac av _ cq))]<|.r0<|.o [(0,0)]))
 (.pr fun cr=>.pr fun ct=>.pr fun cu=>.st .normal (fun cw=>⟨[(0,.own 0),(1,qi ct),(2,qi cu),(3,qi av),(4,.im (qf 20)),(10,bV cw),(11,bV cf.2.1)],[q4 0 cr],1⟩) fun cw=>.o [(0,0)])))))))))))
 (.sm (.rt (fun rr=>.tup []) (fun rr=>[q4 0 rr]))
 (.pr fun cx=>.pr fun cy=>.pr fun cz=>.pr fun c8=>.pr fun c9=>.st .normal (fun da=>⟨[(0,.own 0),(1,qi cy),(2,qi cz),(3,qi c8),(4,.im (qf 20)),(10,bV c9),(11,bV da)],[q4 0 cx],1⟩) fun da=>.bk [(0,0)] rfl)))
 (.rt (fun rr=>.tup []) (fun rr=>[q4 0 rr])))
theorem Zg.ok (a0:List Z3) (a1 a2 a3:Int) (r:List Z3) (H:Zg.f a0 a1 a2 a3=some r):Pv.Fn Try.prog 34 [.own 0,qi a1,qi a2,qi a3,.im (qf 20)] [q4 0 a0] 1 (fun x o=>x = .tup []∧o=[q4 0 r]):=Zg.oku 100 a0 a1 a2 a3 r H
def Zq.f (a0:List Z3):Option (List Z3):=(Z3a.f (u64.wrap (a0.length:Int)))>>=fun aa=>(Zg.f a0 0 (a0.length:Int) aa)>>=fun ab=>some ab
theorem Zq.ok (a0:List Z3):FN 19 [.own 0,.im (qf 20)] [q4 0 a0] 1 (Zq.f a0) (fun r=>.tup []) (fun r=>[q4 0 r]):=FT [0] func19 (.rg [(1,hG Z1 a0)]<|.bd fun aa ab=>.bd fun ac ae=>.rg [(4,qh call35 (Z3a.ok (u64.wrap (ln a0)) aa ab)),(6,jA call34 (Zg.ok a0 0 (ln a0) aa ac ae))]<|.ru [(0,0)] ⟨[],[q4 0 ac],1⟩)
def Za.add (bk:Z3) (k:ByteArray) (s:Zf):Option Z3:=match bk.f1.getLast? with
 | none=>some ⟨bk.f0,[⟨k,[s]⟩]⟩
 | some r=>(chk ((bk.f1.length+1)*40≤140737488355328))>>=fun _=>if r.f0.toList==k.toList then(chk ((r.f1.length+1)*104≤140737488355328))>>=fun _=>some ⟨bk.f0,bk.f1.dropLast++[⟨r.f0,r.f1++[s]⟩]⟩ else some ⟨bk.f0,bk.f1++[⟨k,[s]⟩]⟩
abbrev Za.wd (a0:Int):Int:=i64.wrap ((64:Int)*2 ^ (min (Int.toNat (u64.wrap ((2:Int)*(u64.wrap ((if(if(4:Int)<a0 then(4:Int) else a0)>0 then(if(4:Int)<a0 then(4:Int) else a0) else(0:Int))))))) 64))
abbrev Za.lo (a0 a1:Int):Int:=i64.wrap (a1-(Int.tmod a1 (i64.wrap ((64:Int)*2 ^ (min (Int.toNat (u64.wrap ((2:Int)*(u64.wrap ((if(if(4:Int)<a0 then(4:Int) else a0)>0 then(if(4:Int)<a0 then(4:Int) else a0) else(0:Int))))))) 64)))))
abbrev Za.new (a0 lo:Int):Z3:=⟨⟨lo,i64.wrap (lo+Za.wd a0),(if(if(4:Int)<a0 then(4:Int) else a0)>0 then(if(4:Int)<a0 then(4:Int) else a0) else(0:Int))⟩,[]⟩
def Za.l1 (a0:Int) (b:Z2) (x1:List (Int×Z3)) (x2:Int):Option (List (Int×Z3)):=if decide (x2<(b.f1.length:Int)) then((at? b.f1 x2)>>=fun s=>(Z3m.f a0 s.f0)>>=fun _=>(Z21.f a0)>>=fun _=>(Za.add ((mget x1 (Za.lo a0 s.f0)).getD (Za.new a0 (Za.lo a0 s.f0))) b.f0 s)>>=fun bk=>Za.l1 a0 b (mput x1 (Za.lo a0 s.f0) bk) (i64.wrap (x2+1))) else some x1
partial_fixpoint
def Za.l0 (a0:Int) (a1:List (Z2)) (x1:List (Int×Z3)) (x2:Int):Option (List (Int×Z3)):=if decide (x2<(a1.length:Int)) then((at? a1 x2)>>=fun b=>(Za.l1 a0 b x1 0)>>=fun y=>Za.l0 a0 a1 y (i64.wrap (x2+1))) else some x1
partial_fixpoint
noncomputable def Za.f (a0:Int) (a1:List (Z2)):Option (List (Z3)):=(Za.l0 a0 a1 [] 0)>>=fun y=>(chk (y.length*48≤140737488355328))>>=fun _=>(rchk (fun(p:List (Int×Z3)) (_:Unit)=>Zq.f (p.map (·.2))) y ())>>=fun r=>some r
def Za.obs (bk:Z3):List (Nat×MObj):=match bk.f1.getLast? with
 | none=>[(40,.box 42 [qi bk.f0.f0,qi bk.f0.f1,qi bk.f0.f2,.none0])]
 | some r=>[(40,.box 42 [qi bk.f0.f0,qi bk.f0.f1,qi bk.f0.f2,.own 41]),(41,.arow 2 36 (bk.f1.dropLast.map Z0) [[sV r.f0,.own 42]]),(42,.row 9 56 (r.f1.map Zc))]
theorem Za.obs0 (m:Z1x):Za.obs ⟨m,[]⟩=[(40,.box 42 [qi m.f0,qi m.f1,qi m.f2,.none0])]:=rfl
theorem Za.obs1 (m:Z1x) (l:List (Z2)) (r:Z2):Za.obs ⟨m,l++[r]⟩=[(40,.box 42 [qi m.f0,qi m.f1,qi m.f2,.own 41]),(41,.arow 2 36 (l.map Z0) [[sV r.f0,.own 42]]),(42,.row 9 56 (r.f1.map Zc))]:=by
 unfold Za.obs;simp
theorem Za.one (a0:Int):True:=trivial
abbrev q5:=@RW _ 9 56 Zc
set_option maxHeartbeats 400000 in
theorem Za.ok (a0:Int) (a1:List (Z2)) (r:List (Z3)) (H:Za.f a0 a1=some r):Pv.Fn Try.prog 11 [qi a0,.im (.row (a1.map Z0))] [] 0 (fun x o=>x = .own 0∧o=[q4 0 r]):=by
 unfold Za.f at H;obtain⟨y,H0,H⟩:=Z34 H;obtain⟨d1,H⟩:=Z9g H;obtain⟨r',HS,H⟩:=Z34 H;obtain rfl:=sj H;refine Fn.bodyK [0] func11 rfl rfl (fun Γ hP hn => ?_);have hm:Try.prog.follows .mixedOrders=true:=by kernel_rfl
 replace hn:Γ.n=129:=hn;refine sO hP hn hm [] [] [0,1] [] [] ?_;refine sO hP hn hm [(0,.more (xMk 10))] [(5,.mown 10)] [0,1,5] [(10,some (.map (mE (vkI .i64) Im.sc [])))] [10] ?_;refine AWp.bag0 ?_;refine GWp.seq ?_;refine GWp.seq ?_;refine gR hP hn hm [(1,.any (qi (a1.length:Int)))] [(18,.im (.row (a1.map Z0))),(19,qi (a1.length:Int)),(20,qi 0)] [0,5,18,19,20] [] [10] [((a1.map Z0).length:Int)=(a1.length:Int)] ⟨by rw[Z3x],trivial⟩ ?_;refine GWp.block ?_;refine GWp.loopB (fun body0 hbody0 => ?_);have main0:∀ x1 x2 o,Za.l0 a0 a1 x1 x2=some o→∀ (q:QL Int (Z3)) (Bs:List (List Nat)),qS q=x1→GLWp Γ body0 (fun e s g=>e = .exit 0∧∃ (q:QL Int (Z3)) (Bs:List (List Nat)),qS q=o∧s=⟨[(5,.mown 10)],[(10,some (.map (mE (vkI .i64) Im.sc (qM q))))],0⟩∧g=bag (qB (.ptr 40 0 0) Za.obs q) Bs) ⟨[(0,qi a0),(5,.mown 10),(18,.im (.row (a1.map Z0))),(19,qi (a1.length:Int)),(20,qi x2)],[(10,some (.map (mE (vkI .i64) Im.sc (qM q))))],0⟩ (bag (qB (.ptr 40 0 0) Za.obs q) Bs):=by
  intro x1 x2 o e1;refine Za.l0.partial_correctness a0 a1 (motive:=fun x1 x2 o=>∀ (q:QL Int (Z3)) (Bs:List (List Nat)),qS q=x1→GLWp Γ body0 (fun e s g=>e = .exit 0∧∃ (q:QL Int (Z3)) (Bs:List (List Nat)),qS q=o∧s=⟨[(5,.mown 10)],[(10,some (.map (mE (vkI .i64) Im.sc (qM q))))],0⟩∧g=bag (qB (.ptr 40 0 0) Za.obs q) Bs) ⟨[(0,qi a0),(5,.mown 10),(18,.im (.row (a1.map Z0))),(19,qi (a1.length:Int)),(20,qi x2)],[(10,some (.map (mE (vkI .i64) Im.sc (qM q))))],0⟩ (bag (qB (.ptr 40 0 0) Za.obs q) Bs)) ?_ _ _ _ e1;clear H0 e1 o x1 x2;intro self ih x1 x2 o H q Bs hq;subst hbody0;refine GLWp.round ?_;refine gS hP hn hm [] [(21,bV (decide (x2<(a1.length:Int))))] [0,5,18,19,20,21] [] [10] [] trivial ?_;refine GWp.seq ?_;refine GWp.cond (decide (x2<(a1.length:Int))) (by kernel_rfl) (fun c1 => ?_) (fun c1 => ?_)
  ·replace H:=iT c1 H
   refine GWp.skip ?_;refine GWp.seq ?_;refine GWp.block ?_;obtain⟨b,p1,hq1,H⟩:=at_of H;obtain⟨y1,H1,H⟩:=Z34 H;refine gS hP hn hm [(0,.c (Z0 b)),(2,.k 30)] [(7,.ptr 30 0 0)] [0,5,7,18,19,20] [(30,some (.box 36 (Z26 b)))] [10,30] [_,_] ⟨p1,Z9f Z0 hq1,trivial⟩ ?_;refine gS hP hn hm [(2,.any (qi (b.f1.length:Int)))] [(25,.im (.row (b.f1.map Zc))),(26,qi (b.f1.length:Int)),(27,qi 0)] [0,5,7,18,19,20,25,26,27] [] [10,30] [((b.f1.map Zc).length:Int)=(b.f1.length:Int)] ⟨by rw[Z3x],trivial⟩ ?_;refine GWp.block ?_;refine GWp.loopB (fun body1 hbody1 => ?_);have main1:∀ z1 z2 o1,Za.l1 a0 b z1 z2=some o1→∀ (q:QL Int (Z3)) (Bs:List (List Nat)),qS q=z1→GLWp Γ body1 (fun e s g=>e = .exit 2∧∃ (q:QL Int (Z3)) (Bs:List (List Nat)),qS q=o1∧s=⟨[(0,qi a0),(5,.mown 10),(18,.im (.row (a1.map Z0))),(19,qi (a1.length:Int)),(20,qi x2)],[(10,some (.map (mE (vkI .i64) Im.sc (qM q))))],0⟩∧g=bag (qB (.ptr 40 0 0) Za.obs q) Bs) ⟨[(0,qi a0),(5,.mown 10),(7,.ptr 30 0 0),(18,.im (.row (a1.map Z0))),(19,qi (a1.length:Int)),(20,qi x2),(25,.im (.row (b.f1.map Zc))),(26,qi (b.f1.length:Int)),(27,qi z2)],[(10,some (.map (mE (vkI .i64) Im.sc (qM q)))),(30,some (.box 36 (Z26 b)))],0⟩ (bag (qB (.ptr 40 0 0) Za.obs q) Bs):=by
    intro z1 z2 o1 e2;refine Za.l1.partial_correctness a0 b (motive:=fun z1 z2 o1=>∀ (q:QL Int (Z3)) (Bs:List (List Nat)),qS q=z1→GLWp Γ body1 (fun e s g=>e = .exit 2∧∃ (q:QL Int (Z3)) (Bs:List (List Nat)),qS q=o1∧s=⟨[(0,qi a0),(5,.mown 10),(18,.im (.row (a1.map Z0))),(19,qi (a1.length:Int)),(20,qi x2)],[(10,some (.map (mE (vkI .i64) Im.sc (qM q))))],0⟩∧g=bag (qB (.ptr 40 0 0) Za.obs q) Bs) ⟨[(0,qi a0),(5,.mown 10),(7,.ptr 30 0 0),(18,.im (.row (a1.map Z0))),(19,qi (a1.length:Int)),(20,qi x2),(25,.im (.row (b.f1.map Zc))),(26,qi (b.f1.length:Int)),(27,qi z2)],[(10,some (.map (mE (vkI .i64) Im.sc (qM q)))),(30,some (.box 36 (Z26 b)))],0⟩ (bag (qB (.ptr 40 0 0) Za.obs q) Bs)) ?_ _ _ _ e2;clear H1 H hq q Bs e2 o1 z1 z2;intro self1 ih1 z1 z2 o1 H q Bs hq;subst hbody1;refine GLWp.round ?_;refine gS hP hn hm [] [(28,bV (decide (z2<(b.f1.length:Int))))] [0,5,7,18,19,20,25,26,27,28] [] [10,30] [] trivial ?_;refine GWp.seq ?_;refine GWp.cond (decide (z2<(b.f1.length:Int))) (by kernel_rfl) (fun c2 => ?_) (fun c2 => ?_)
    ·replace H:=iT c2 H
     refine GWp.skip ?_;refine GWp.seq ?_;refine GWp.block ?_;obtain⟨s,p2,hq2,H⟩:=at_of H;obtain⟨u1,e3,H⟩:=Z34 H;obtain⟨u2,e4,H⟩:=Z34 H;obtain⟨bk',e5,H⟩:=Z34 H;refine gS hP hn hm [(0,.c (Zc s)),(2,.k 31)] [(9,.ptr 31 0 0)] [0,5,7,9,18,19,20,25,26,27] [(31,some (.box 56 (aSample s)))] [10,30,31] [_,_] ⟨p2,Z9f Zc hq2,trivial⟩ ?_;refine gS hP hn hm [(3,.call [] [] [] [] 0 (qi (Za.lo a0 s.f0)) [])] [(10,qi (Za.lo a0 s.f0))] [0,5,7,9,10,18,19,20,25,26,27] [] [10,30,31] [_,Pv.Fn Try.prog 5 [qi a0,qi s.f0] [] 0 (fun x o=>x=qi (Za.lo a0 s.f0)∧o=[])] ⟨call5,Z3m.ok a0 s.f0 u1 e3,trivial⟩ ?_;refine gS hP hn hm [(2,.more (xLook (vkI .i64) Im.sc (qM q) (Za.lo a0 s.f0) (.pointer none)))] [(11,.im (.sc ((mget (qM q) (Za.lo a0 s.f0)).getD (.pointer none))))] [0,5,7,9,10,11,18,19,20,25,26,27] [] [10,30,31] [Z59 Try.prog 2 (vkI .i64),mE (vkI .i64) Im.sc (qM q)=mE (vkI .i64) Im.sc (qM q),valA (qi (Za.lo a0 s.f0))=some (vkI .i64 (Za.lo a0 s.f0)),Im.sc (.pointer none)=Im.sc (.pointer none)] ⟨key_int (by kernel_rfl),rfl,rfl,rfl,trivial⟩ ?_;generalize hlo:Za.lo a0 s.f0=lo at *;refine GWp.seq ?_;refine GWp.mono (Q:=fun e s' g=>e = .normal∧∃ (q':QL Int (Z3)) (Bs':List (List Nat)) (i:Nat) (v:Value),q'[i]? = some ((lo,(mget (qS q) lo).getD (Za.new a0 lo)),v)∧(∀ c,mput (qS q) lo c=qS (q'.set i ((lo,c),v)))∧s'=⟨[(0,qi a0),(5,.mown 10),(7,.ptr 30 0 0),(9,.ptr 31 0 0),(11,.im (.sc v)),(18,.im (.row (a1.map Z0))),(19,qi (a1.length:Int)),(20,qi x2),(25,.im (.row (b.f1.map Zc))),(26,qi (b.f1.length:Int)),(27,qi z2)],[(10,some (.map (mE (vkI .i64) Im.sc (qM q')))),(30,some (.box 36 (Z26 b))),(31,some (.box 56 (aSample s)))],0⟩∧g=bag (qB (.ptr 40 0 0) Za.obs q') Bs') ?_ ?_
     ·rcases q_get lo q with ⟨h1,h2,h3⟩ | ⟨i,bk,v,h1,h2,h3,h4⟩
      ·rw[h2]
       refine gS hP hn hm [(1,.more xPNil)] [(39,bV true)] [0,5,7,9,10,11,18,19,20,25,26,27,39] [] [10,30,31] [] trivial ?_;refine GWp.cond true (by kernel_rfl) (fun _ => ?_) (fun h=>nomatch h);refine GWp.seq ?_;refine gR hP hn hm [(3,.call [] [] [] [] 0 (qi (Za.wd a0)) []),(6,.more xMin),(7,.more xMax),(10,.k 40)] [(11,.ptr 40 0 0)] [0,5,7,9,10,11,18,19,20,25,26,27] [(40,some (.box 42 [qi lo,qi (i64.wrap (lo+Za.wd a0)),qi (Za.new a0 lo).f0.f2,.none0]))] [10,30,31,40] [_,Pv.Fn Try.prog 7 [qi a0] [] 0 (fun x o=>x=qi (Za.wd a0)∧o=[])] ⟨call7,Z21.ok a0 u2 e4,trivial⟩ ?_;refine GWp.newB [40] 11 (.ptr 40 0 0) [(40,.box 42 [qi lo,qi (i64.wrap (lo+Za.wd a0)),qi (Za.new a0 lo).f0.f2,.none0])] rfl (by decide) (fun k o h => ?_) (fun v B' => ?_)
       ·have h':=Z0t      h
        simp only[List.mem_cons,List.not_mem_nil,or_false,Prod.mk.injEq] at h';obtain⟨rfl,rfl⟩:=h';exact⟨by simp,rfl⟩
       refine gR hP hn hm [(3,.more (xPut (vkI .i64) Im.sc (qM q) lo v))] [] [0,5,7,9,11,18,19,20,25,26,27] [(10,some (.map (mE (vkI .i64) Im.sc (mput (qM q) lo v))))] [10,30,31] [Z59 Try.prog 2 (vkI .i64),mE (vkI .i64) Im.sc (qM q)=mE (vkI .i64) Im.sc (qM q),valA (qi lo)=some (vkI .i64 lo),Im.sc v=Im.sc v] ⟨key_int (by kernel_rfl),rfl,rfl,rfl,trivial⟩ ?_;refine⟨rfl,q++[((lo,Za.new a0 lo),v)],Bs++[B'],q.length,v,by rw[h1];simp,fun c => ?_,?_,?_⟩
       ·rw[(h3 c v).1];congr 1;simp
       ·rw[← (h3 (Za.new a0 lo) v).2];rfl
       ·rw[qB_app];rfl
      ·rw[h3]
       refine GWp.fact _ (bag_ptr (qB_get h1) rfl) (fun hv => ?_);obtain⟨ad,hv⟩:=hv;have hv:v = .pointer (some ad):=hv;subst hv;refine gS hP hn hm [(1,.more xPNil)] [(39,bV false)] [0,5,7,9,10,11,18,19,20,25,26,27,39] [] [10,30,31] [] trivial ?_;refine GWp.cond false (by kernel_rfl) (fun h=>nomatch h) (fun _ => ?_);refine GWp.cv (Z22 [0,5,7,9,11,18,19,20,25,26,27] [10,30,31]) (GWp.skip ?_);exact⟨rfl,q,Bs,i,_,by rw[h2];exact h1,h4,rfl,rfl⟩
     ·rintro e s' g ⟨rfl,q',Bs',i,v,k1,k3,rfl,rfl⟩
      rw[← hq] at e5;generalize hbk:(mget (qS q) lo).getD (Za.new a0 lo)=bk at *;rw[hq] at k3;have hb:=qB_get (h:=.ptr 40 0 0) (f:=Za.obs) k1;have fin:∀ (Q:Exit→Z4→Gh→Prop) B',(∀ (q2:QL Int (Z3)) (Bs2:List (List Nat)),qS q2=mput z1 lo bk'→Q .normal ⟨[(0,qi a0),(5,.mown 10),(7,.ptr 30 0 0),(18,.im (.row (a1.map Z0))),(19,qi (a1.length:Int)),(20,qi x2),(25,.im (.row (b.f1.map Zc))),(26,qi (b.f1.length:Int)),(27,qi (i64.wrap (z2+1)))],[(10,some (.map (mE (vkI .i64) Im.sc (qM q2)))),(30,some (.box 36 (Z26 b)))],0⟩ (bag (qB (.ptr 40 0 0) Za.obs q2) Bs2))→Q .normal ⟨[(0,qi a0),(5,.mown 10),(7,.ptr 30 0 0),(18,.im (.row (a1.map Z0))),(19,qi (a1.length:Int)),(20,qi x2),(25,.im (.row (b.f1.map Zc))),(26,qi (b.f1.length:Int)),(27,qi (i64.wrap (z2+1)))],[(10,some (.map (mE (vkI .i64) Im.sc (qM q')))),(30,some (.box 36 (Z26 b)))],0⟩ (bag ((qB (.ptr 40 0 0) Za.obs q').set i ⟨v,.ptr 40 0 0,Za.obs bk'⟩) (Bs'.set i B')):=fun Q B' hh=>by
       have:=hh (q'.set i ((lo,bk'),v)) (Bs'.set i B') (k3 bk').symm;rw[qM_set k1,qB_set] at this;exact this
      obtain⟨m,rows⟩:=bk;have side:∀ q,(AVal.ptr 40 0 0).has q=true→q∈[40,41,42]∧q<41:=fun q h=>by
       have:40=q:=by simpa[AVal.has] using h
       subst this;exact⟨by simp,by omega⟩
      rcases List.eq_nil_or_concat rows with hrw | ⟨l,r0,hrw⟩
      ·subst hrw
       rw[Za.obs0] at hb;obtain rfl:=sj (show some (⟨m,[⟨b.f0,[s]⟩]⟩:Z3)=some bk' from e5);refine GWp.open [40,41,42] 41 i 11 _ hb rfl (by decide) (fun k o h => ?_) (fun k h => ?_) (fun k o q h h2 => ?_) side (Nat.zero_le _) (fun Γ' e6 e7 => ?_)
       ·have h':=Z0t      h
        simp only[List.mem_cons,List.not_mem_nil,or_false,Prod.mk.injEq] at h';obtain⟨rfl,_⟩:=h';simp
       ·simp only[List.mem_cons,List.not_mem_nil,or_false] at h
        rcases h with rfl | rfl | rfl<;>exact Z4e (by kernel_rfl)
       ·have h':=Z0t      h
        simp only[List.mem_cons,List.not_mem_nil,or_false,Prod.mk.injEq] at h';obtain⟨rfl,rfl⟩:=h';simp[MObj.has,hasL,AVal.has] at h2
       ·have hP':=e6.trans hP
        have hn':=e7.trans hn;refine AWp.seq ?_;refine sO hP' hn' hm [] [(12,qi 0)] [0,5,7,9,11,12,18,19,20,25,26,27] [] [10,30,31,40] ?_;refine sR hP' hn' hm [(1,.b true)] [(74,bV true)] [0,5,7,9,11,12,18,19,20,25,26,27,74] [] [10,30,31,40] [((0:Int)==0)=true] ⟨rfl,trivial⟩ ?_;refine AWp.cond true (by kernel_rfl) (fun _ => ?_) (fun h=>nomatch h);refine rG hP' hn' hm [(8,.more (xOneT 43)),(9,.more (xAppT 44))] [] [0,5,7,9,11,18,19,20,25,26,27] [(40,some (.box 42 [qi m.f0,qi m.f1,qi m.f2,.own 44])),(44,some (.arow 2 36 [] [[sV b.f0,.none0]]))] [10,30,31,40,44] [1*40≤140737488355328] ⟨by decide,trivial⟩ ?_;refine sO hP' hn' hm [(4,.more xLenT)] [(13,qi 1)] [0,5,7,9,11,13,18,19,20,25,26,27] [] [10,30,31,40,44] ?_;refine AWp.cv (rG hP' hn' hm [(12,.more (xIdxT 0)),(14,.more (xLoadT 0)),(16,.app 45 ([s].map Zc)),(17,.app 46 ([s].map Zc)),(18,.more (xIdxT 0)),(20,.more (xStoreT 0))] [] [0,5,7,18,19,20,25,26,27] [(44,some (.arow 2 36 [] [[sV b.f0,.own 46]])),(46,some (.row 9 56 ([s].map Zc)))] [10,30,40,44,46] [i64.wrap ((1:Int)-1)=((([]:List (List Im)).length+0:Nat):Int),([]:List (List Im)).length+0=([]:List (List Im)).length+0,[s].map Zc=[Zc s],[s].map Zc=[]++([s].map Zc),∀ c∈([s].map Zc),c.length=9,∀ c∈([s].map Zc),Z1w (c.map .im)=true,(([]:List (List Im)).length+([s].map Zc).length)*104≤140737488355328,i64.wrap ((1:Int)-1)=((([]:List (List Im)).length+0:Nat):Int),([]:List (List Im)).length+0=([]:List (List Im)).length+0] ⟨rfl,rfl,rfl,rfl,by exact Z3z _ _ _ (fun _=>rfl),by exact Z3g _ _ (fun _=>rfl),by simp,rfl,rfl,trivial⟩ ?_);refine lf (t:=⟨[(0,qi a0),(5,.mown 10),(7,.ptr 30 0 0),(18,.im (.row (a1.map Z0))),(19,qi (a1.length:Int)),(20,qi x2),(25,.im (.row (b.f1.map Zc))),(26,qi (b.f1.length:Int)),(27,qi z2)],[(10,some (.map (mE (vkI .i64) Im.sc (qM q')))),(30,some (.box 36 (Z26 b))),(40,some (.box 42 [qi m.f0,qi m.f1,qi m.f2,.own 41])),(41,some (.arow 2 36 [] [[sV b.f0,.own 42]])),(42,some (.row 9 56 ([s].map Zc)))],41⟩) [(10,10),(30,30),(40,40),(44,41),(46,42)] [] [] (by kernel_rfl) ?_;refine⟨rfl,Za.obs ⟨m,[⟨b.f0,[s]⟩]⟩,fun k o h => ?_,fun B' => ?_⟩
        ·have h':=Z0t      h
         rw[show Za.obs ⟨m,[⟨b.f0,[s]⟩]⟩=[(40,.box 42 [qi m.f0,qi m.f1,qi m.f2,.own 41]),(41,.arow 2 36 [] [[sV b.f0,.own 42]]),(42,.row 9 56 ([s].map Zc))] from Za.obs1 m [] ⟨b.f0,[s]⟩] at h';simp only[List.mem_cons,List.not_mem_nil,or_false,Prod.mk.injEq] at h';rcases h' with ⟨rfl,rfl⟩ | ⟨rfl,rfl⟩ | ⟨rfl,rfl⟩<;>exact⟨by simp,rfl⟩
        ·refine gR hP hn hm [] [(27,qi (i64.wrap (z2+1)))] [0,5,7,18,19,20,25,26,27] [] [10,30] [] trivial ?_
         exact fin _ B' (fun q2 Bs2 hq2=>ih1 _ _ _ H q2 Bs2 hq2)
      ·simp only[List.concat_eq_append] at hrw
       subst hrw;rw[Za.obs1] at hb;unfold Za.add at e5;rw[show(⟨m,l++[r0]⟩:Z3).f1.getLast? = some r0 from List.getLast?_concat] at e5;dsimp only at e5;obtain⟨d2,e5⟩:=Z9g e5;have dl:(l.length+2)*40≤140737488355328:=by simpa using d2
       have w0:=cut_w0 (n:=(l.map Z0).length) (by rw[Z3x];omega);have w1:=cut_w1 (n:=(l.map Z0).length) (by rw[Z3x];omega);refine GWp.open [40,41,42] 41 i 11 _ hb rfl (by decide) (fun k o h => ?_) (fun k h => ?_) (fun k o q h h2 => ?_) side (Nat.zero_le _) (fun Γ' e6 e7 => ?_)
       ·have h':=Z0t      h
        simp only[List.mem_cons,List.not_mem_nil,or_false,Prod.mk.injEq] at h';rcases h' with ⟨rfl,_⟩ | ⟨rfl,_⟩ | ⟨rfl,_⟩<;>simp
       ·simp only[List.mem_cons,List.not_mem_nil,or_false] at h
        rcases h with rfl | rfl | rfl<;>exact Z4e (by kernel_rfl)
       ·have h':=Z0t      h
        simp only[List.mem_cons,List.not_mem_nil,or_false,Prod.mk.injEq] at h';rcases h' with ⟨rfl,rfl⟩ | ⟨rfl,rfl⟩ | ⟨rfl,rfl⟩
        ·have:41=q:=by simpa[MObj.has,hasL,AVal.has] using h2
         simp[← this]
        ·have:42=q:=by simpa[MObj.has,hasL,Z4h  ,AVal.has] using h2
         simp[← this]
        ·simp[MObj.has] at h2
       ·have hP':=e6.trans hP
        have hn':=e7.trans hn;refine AWp.seq ?_;refine sO hP' hn' hm [(4,.more xLenT)] [(12,qi (((l.map Z0).length+1:Nat):Int))] [0,5,7,9,11,12,18,19,20,25,26,27] [] [10,30,31,40,41,42] ?_;refine sR hP' hn' hm [(1,.b false),(9,.more (xIdxT 0)),(11,.more (xLoadT 0))] [(74,bV (!(r0.f0.toList==b.f0.toList)))] [0,5,7,9,11,12,18,19,20,25,26,27,74] [] [10,30,31,40,41,42] [((((l.map Z0).length+1:Nat):Int)==0)=false,_,(l.map Z0).length+0=(l.map Z0).length+0] ⟨by simp;omega,w0,rfl,trivial⟩ ?_;refine AWp.cond (!(r0.f0.toList==b.f0.toList)) (by kernel_rfl) (fun c3 => ?_) (fun c3 => ?_)
        ·rw[if_neg (by simpa using c3)] at e5
         obtain rfl:=sj e5;refine rG hP' hn' hm [(8,.more (xOneT 43)),(9,.more (xAppT 44))] [] [0,5,7,9,11,18,19,20,25,26,27] [(40,some (.box 42 [qi m.f0,qi m.f1,qi m.f2,.own 44])),(44,some (.arow 2 36 (l.map Z0) [[sV r0.f0,.own 42],[sV b.f0,.none0]]))] [10,30,31,40,42,44] [((l.map Z0).length+1+1)*40≤140737488355328] ⟨by rw[Z3x];omega,trivial⟩ ?_;refine sO hP' hn' hm [(4,.more xLenT)] [(13,qi (((l.map Z0).length+1+1:Nat):Int))] [0,5,7,9,11,13,18,19,20,25,26,27] [] [10,30,31,40,42,44] ?_;refine AWp.cv (rG hP' hn' hm [(12,.more (xIdxT 1)),(14,.more (xLoadT 1)),(16,.app 45 ([s].map Zc)),(17,.app 46 ([s].map Zc)),(18,.more (xIdxT 1)),(20,.more (xStoreT 1))] [] [0,5,7,18,19,20,25,26,27] [(44,some (.arow 2 36 (l.map Z0) [[sV r0.f0,.own 42],[sV b.f0,.own 46]])),(46,some (.row 9 56 ([s].map Zc)))] [10,30,40,42,44,46] [i64.wrap ((((l.map Z0).length+1+1:Nat):Int)-1)=(((l.map Z0).length+1:Nat):Int),(l.map Z0).length+1=(l.map Z0).length+1,[s].map Zc=[Zc s],[s].map Zc=[]++([s].map Zc),∀ c∈([s].map Zc),c.length=9,∀ c∈([s].map Zc),Z1w (c.map .im)=true,(([]:List (List Im)).length+([s].map Zc).length)*104≤140737488355328,i64.wrap ((((l.map Z0).length+1+1:Nat):Int)-1)=(((l.map Z0).length+1:Nat):Int),(l.map Z0).length+1=(l.map Z0).length+1] ⟨by rw[Z07 (by rw[Z3x];omega) (by rw[Z3x];omega)];omega,rfl,rfl,rfl,by exact Z3z _ _ _ (fun _=>rfl),by exact Z3g _ _ (fun _=>rfl),by simp,by rw[Z07 (by rw[Z3x];omega) (by rw[Z3x];omega)];omega,rfl,trivial⟩ ?_);refine lf (t:=⟨[(0,qi a0),(5,.mown 10),(7,.ptr 30 0 0),(18,.im (.row (a1.map Z0))),(19,qi (a1.length:Int)),(20,qi x2),(25,.im (.row (b.f1.map Zc))),(26,qi (b.f1.length:Int)),(27,qi z2)],[(10,some (.map (mE (vkI .i64) Im.sc (qM q')))),(30,some (.box 36 (Z26 b))),(40,some (.box 42 [qi m.f0,qi m.f1,qi m.f2,.own 41])),(41,some (.arow 2 36 (l.map Z0++[Z0 r0]) [[sV b.f0,.own 42]])),(42,some (.row 9 56 ([s].map Zc)))],41⟩) [(10,10),(30,30),(40,40),(44,41),(46,42)] [42] [] (by kernel_rfl) ?_;refine⟨rfl,Za.obs ⟨m,(l++[r0])++[⟨b.f0,[s]⟩]⟩,fun k o h => ?_,fun B' => ?_⟩
         ·have h':=Z0t      h
          rw[Za.obs1,app1] at h';simp only[List.mem_cons,List.not_mem_nil,or_false,Prod.mk.injEq] at h';rcases h' with ⟨rfl,rfl⟩ | ⟨rfl,rfl⟩ | ⟨rfl,rfl⟩<;>exact⟨by simp,rfl⟩
         ·refine gR hP hn hm [] [(27,qi (i64.wrap (z2+1)))] [0,5,7,18,19,20,25,26,27] [] [10,30] [] trivial ?_
          exact fin _ B' (fun q2 Bs2 hq2=>ih1 _ _ _ H q2 Bs2 hq2)
        ·rw[if_pos (by simpa using c3)] at e5
         obtain⟨d3,e5⟩:=Z9g e5;rw[show(⟨m,l++[r0]⟩:Z3).f1.dropLast=l from List.dropLast_concat] at e5;obtain rfl:=sj e5;refine AWp.skip ?_;refine sO hP' hn' hm [(4,.more xLenT)] [(13,qi (((l.map Z0).length+1:Nat):Int))] [0,5,7,9,11,13,18,19,20,25,26,27] [] [10,30,31,40,41,42] ?_;refine AWp.cv (rG hP' hn' hm [(12,.more (xIdxT 0)),(14,.more (xLoadT 0)),(16,.app 45 ([s].map Zc)),(17,.app 46 ((r0.f1++[s]).map Zc)),(18,.more (xIdxT 0)),(20,.more (xStoreT 0))] [] [0,5,7,18,19,20,25,26,27] [(41,some (.arow 2 36 (l.map Z0) [[sV r0.f0,.own 46]])),q5 46 (r0.f1++[s])] [10,30,40,41,46] [_,(l.map Z0).length+0=(l.map Z0).length+0,[s].map Zc=[Zc s],(r0.f1++[s]).map Zc=(r0.f1.map Zc)++([s].map Zc),∀ c∈([s].map Zc),c.length=9,∀ c∈([s].map Zc),Z1w (c.map .im)=true,((r0.f1.map Zc).length+([s].map Zc).length)*104≤140737488355328,_,(l.map Z0).length+0=(l.map Z0).length+0] ⟨w0,rfl,rfl,by simp,by exact Z3z _ _ _ (fun _=>rfl),by exact Z3g _ _ (fun _=>rfl),by simpa using d3,w0,rfl,trivial⟩ ?_);refine lf (t:=⟨[(0,qi a0),(5,.mown 10),(7,.ptr 30 0 0),(18,.im (.row (a1.map Z0))),(19,qi (a1.length:Int)),(20,qi x2),(25,.im (.row (b.f1.map Zc))),(26,qi (b.f1.length:Int)),(27,qi z2)],[(10,some (.map (mE (vkI .i64) Im.sc (qM q')))),(30,some (.box 36 (Z26 b))),(40,some (.box 42 [qi m.f0,qi m.f1,qi m.f2,.own 41])),(41,some (.arow 2 36 (l.map Z0) [[sV r0.f0,.own 42]])),q5 42 (r0.f1++[s])],41⟩) [(10,10),(30,30),(40,40),(41,41),(46,42)] [] [] (by kernel_rfl) ?_;refine⟨rfl,Za.obs ⟨m,l++[⟨r0.f0,r0.f1++[s]⟩]⟩,fun k o h => ?_,fun B' => ?_⟩
         ·have h':=Z0t      h
          rw[Za.obs1] at h';simp only[List.mem_cons,List.not_mem_nil,or_false,Prod.mk.injEq] at h';rcases h' with ⟨rfl,rfl⟩ | ⟨rfl,rfl⟩ | ⟨rfl,rfl⟩<;>exact⟨by simp,rfl⟩
         ·refine gR hP hn hm [] [(27,qi (i64.wrap (z2+1)))] [0,5,7,18,19,20,25,26,27] [] [10,30] [] trivial ?_
          exact fin _ B' (fun q2 Bs2 hq2=>ih1 _ _ _ H q2 Bs2 hq2)
    ·replace H:=iF c2 H
     obtain rfl:=sj H;refine GWp.cv (Z22 [0,5,18,19,20] [10]) (GWp.exit ⟨rfl,q,Bs,hq,rfl,rfl⟩)
   refine GLWp.mono (main1 x1 0 y1 H1 q Bs hq) ?_;rintro e s g ⟨rfl,q2,Bs2,hq2,rfl,rfl⟩;show GWp Γ _ _ _ _;refine gR hP hn hm [] [(20,qi (i64.wrap (x2+1)))] [0,5,18,19,20] [] [10] [] trivial ?_;exact ih _ _ _ H q2 Bs2 hq2
  ·replace H:=iF c1 H
   obtain rfl:=sj H;refine GWp.cv (Z22 [5] [10]) (GWp.exit ⟨rfl,q,Bs,hq,rfl,rfl⟩)
 refine GLWp.mono (main0 [] 0 y H0 [] [] rfl) ?_;rintro e s g ⟨rfl,q,Bs,hq,rfl,rfl⟩;show GWp Γ _ _ _ _;have hql:(qM q).length=(qS q).length:=by simp[qM,qS]
 refine GWp.seq (gK hP hn hm [] [(14,.none0)] [5,14] [] [10] [] [(10,10)] [] [50] ⟨[(5,.mown 10),(14,.own 50)],[(10,some (.map (mE (vkI .i64) Im.sc (qM q)))),(50,some (.row 4 42 []))],0⟩ trivial rfl ?_);refine GWp.seq ?_;refine gS hP hn hm [(1,.more (xRng 51 (qM q).length))] [(115,.ptr 51 0 0)] [14,115] [(51,some (.iter (some 10) (qM q).length []))] [10,50,51] [(qM q).length=(mE (vkI .i64) Im.sc (qM q)).length] ⟨Za3 _ _ _,trivial⟩ ?_;refine GWp.block ?_;refine GWp.loopB (fun body2 hbody2 => ?_);have main2:∀ (N:Nat) (sn:List Nat) (acc:List (Int×Z3)) (bs:List Bun) (Bs:List (List Nat)),(remI (qM q).length sn).length=N→(acc++Z4t (qS q) sn).Perm (qS q)→(∀ i∈remI (qM q).length sn,bs[i]? = (qB (.ptr 40 0 0) Za.obs q)[i]?)→GLWp Γ body2 (fun e s g=>e = .exit 4∧∃ acc:List (Int×Z3),acc.Perm (qS q)∧s=⟨[(14,.own 50)],[q4 50 (acc.map (·.2))],0⟩) ⟨[(14,.own 50),(115,.ptr 51 0 0)],[(10,some (.map (mE (vkI .i64) Im.sc (qM q)))),q4 50 (acc.map (·.2)),(51,some (.iter (some 10) (qM q).length sn))],0⟩ (bag bs Bs):=by
  intro N
  induction N using Nat.strongRecOn with
  | _ N ih =>
  intro sn acc bs Bs hN hp hbs;subst hbody2;refine GLWp.round ?_;refine GWp.seq ?_;refine GWp.frame (fun Γ' e6 e7=>AWp.next (n:=(qM q).length) (sn:=sn) (es:=mE (vkI .i64) Im.sc (qM q)) 116 117 51 10 (e6.trans hP) rfl rfl rfl rfl rfl rfl (by rw[e7,hn];decide) (by rw[e7,hn];decide) (by kernel_rfl) (by kernel_rfl) (by kernel_rfl) (Za3 _ _ _) (fun hz=>⟨rfl,?_⟩) (fun i A B hA hB hin=>⟨rfl,?_⟩))
  ·show GWp Γ _ _ _ _
   refine GWp.seq (GWp.cond false (by kernel_rfl) (fun h=>nomatch h) (fun _ => ?_));refine GWp.cv (Z22 [14] [50]) (GWp.exit ⟨rfl,acc,?_,rfl⟩);have:Z4t (qS q) sn=[]:=by unfold Z4t;rw[← hql,hz];rfl
   rw[this,List.append_nil] at hp;exact hp
  ·show GWp Γ _ _ _ _
   refine GWp.seq (GWp.cond true (by kernel_rfl) (fun _=>GWp.skip ?_) (fun h=>nomatch h));show GWp Γ _ _ _ _;refine GWp.block ?_;have hiq:i<q.length:=by simpa[qM] using hin
   obtain⟨⟨⟨lo,bk⟩,v⟩,hqi⟩:∃ y,q[i]? = some y:=⟨_,List.getElem?_eq_getElem hiq⟩
   have hmem:i∈remI (qM q).length sn:=by rw[hA];simp
   have hb:=(hbs i hmem).trans (qB_get (h:=.ptr 40 0 0) (f:=Za.obs) hqi);have hSi:(qS q)[i]? = some (lo,bk):=by simp[qS,hqi]
   have hp2:((acc++[(lo,bk)])++Z4t (qS q) (sn++[i])).Perm (qS q):=by
    refine List.Perm.trans ?_ hp;have q1:Z4t (qS q) sn=A.filterMap (fun i=>(qS q)[i]?)++(lo,bk)::B.filterMap (fun i=>(qS q)[i]?):=by rw[Z4t,← hql,hA,List.filterMap_append,List.filterMap_cons,hSi]
    have q2:Z4t (qS q) (sn++[i])=A.filterMap (fun i=>(qS q)[i]?)++B.filterMap (fun i=>(qS q)[i]?):=by rw[Z4t,← hql,hB,List.filterMap_append]
    rw[q1,q2,List.append_assoc];refine List.Perm.append_left _ ?_;rw[List.singleton_append];exact List.perm_middle.symm
   have next:∀ o' B',GLWp Γ _ _ _ _:=fun o' B'=>ih _ (by rw[← hN,hA,hB];simp) (sn++[i]) (acc++[(lo,bk)]) (bs.set i ⟨v,.ptr 40 0 0,o'⟩) (Bs.set i B') rfl hp2 (fun i' hi'=>by
    have hne:i≠i':=by
     rintro rfl;have:=(List.mem_filter.1 hi').2;simp at this
    rw[List.getElem?_set_ne hne];refine hbs i' ?_;rw[hB] at hi';rw[hA];rcases List.mem_append.1 hi' with h | h<;>simp[h])
   refine gS hP hn hm [(0,.more (xEnt (vkI .i64) Im.sc (qM q) i (lo,v) (qi lo)))] [(16,.im (.sc v))] [14,16,115] [] [10,50,51] [(qM q).length=(mE (vkI .i64) Im.sc (qM q)).length,(sn++[i]).getLast? = some i,mE (vkI .i64) Im.sc (qM q)=mE (vkI .i64) Im.sc (qM q),(qM q)[i]? = some (lo,v),valA (qi lo)=some (vkI .i64 lo)] ⟨Za3 _ _ _,by simp,rfl,by simp[qM,hqi],rfl,trivial⟩ ?_;have side:∀ q,(AVal.ptr 40 0 0).has q=true→q∈[40,41,42]∧q<41:=fun q h=>by
    have:40=q:=by simpa[AVal.has] using h
    subst this;exact⟨by simp,by omega⟩
   have hsz:(acc.length+1)*48≤140737488355328:=by
    have e1:=hp2.length_eq;have e2:(qS q).length=y.length:=by rw[hq]
    simp only[List.length_append,List.length_cons,List.length_nil] at e1;omega
   obtain⟨m,rows⟩:=bk;rcases List.eq_nil_or_concat rows with hrw | ⟨l,r0,hrw⟩
   ·subst hrw
    rw[Za.obs0] at hb;refine GWp.open [40,41,42] 41 i 16 _ hb rfl (by decide) (fun k o h => ?_) (fun k h => ?_) (fun k o q h h2 => ?_) side (Nat.zero_le _) (fun Γ' e6 e7 => ?_)
    ·have h':=Z0t      h
     simp only[List.mem_cons,List.not_mem_nil,or_false,Prod.mk.injEq] at h';obtain⟨rfl,_⟩:=h';simp
    ·simp only[List.mem_cons,List.not_mem_nil,or_false] at h
     rcases h with rfl | rfl | rfl<;>exact Z4e (by kernel_rfl)
    ·have h':=Z0t      h
     simp only[List.mem_cons,List.not_mem_nil,or_false,Prod.mk.injEq] at h';obtain⟨rfl,rfl⟩:=h';simp[MObj.has,hasL,AVal.has] at h2
    ·have hP':=e6.trans hP
     have hn':=e7.trans hn;refine AWp.cv (rG hP' hn' hm [(4,.app 45 ([(⟨m,[]⟩:Z3)].map Z1)),(5,.app 46 (((acc++[(lo,(⟨m,[]⟩:Z3))]).map (·.2)).map Z1))] [(14,.own 46)] [14,115] [q4 46 ((acc++[(lo,(⟨m,[]⟩:Z3))]).map (·.2))] [10,46,51] [[(⟨m,[]⟩:Z3)].map Z1=[Z1 (⟨m,[]⟩:Z3)],((acc++[(lo,(⟨m,[]⟩:Z3))]).map (·.2)).map Z1=(acc.map (·.2)).map Z1++[(⟨m,[]⟩:Z3)].map Z1,∀ c∈([(⟨m,[]⟩:Z3)].map Z1),c.length=4,∀ c∈([(⟨m,[]⟩:Z3)].map Z1),Z1w (c.map .im)=true,(((acc.map (·.2)).map Z1).length+([(⟨m,[]⟩:Z3)].map Z1).length)*48≤140737488355328] ⟨rfl,by simp,by exact Z3z _ _ _ (fun _=>rfl),by exact Z3g _ _ (fun _=>rfl),by simpa using hsz,trivial⟩ ?_);refine lf (t:=⟨[(14,.own 50),(115,.ptr 51 0 0)],[(10,some (.map (mE (vkI .i64) Im.sc (qM q)))),q4 50 ((acc++[(lo,(⟨m,[]⟩:Z3))]).map (·.2)),(51,some (.iter (some 10) (qM q).length (sn++[i])))],41⟩) [(10,10),(46,50),(51,51)] [] [] (by kernel_rfl) ?_;refine⟨rfl,[],fun k o h=>by simp[Pv.look] at h,fun B' => ?_⟩;exact GLWp.cv (Z22 [14,115] [10,50,51]) (next [] B')
   ·simp only[List.concat_eq_append] at hrw
    subst hrw;rw[Za.obs1] at hb;refine GWp.open [40,41,42] 41 i 16 _ hb rfl (by decide) (fun k o h => ?_) (fun k h => ?_) (fun k o q h h2 => ?_) side (Nat.zero_le _) (fun Γ' e6 e7 => ?_)
    ·have h':=Z0t      h
     simp only[List.mem_cons,List.not_mem_nil,or_false,Prod.mk.injEq] at h';rcases h' with ⟨rfl,_⟩ | ⟨rfl,_⟩ | ⟨rfl,_⟩<;>simp
    ·simp only[List.mem_cons,List.not_mem_nil,or_false] at h
     rcases h with rfl | rfl | rfl<;>exact Z4e (by kernel_rfl)
    ·have h':=Z0t      h
     simp only[List.mem_cons,List.not_mem_nil,or_false,Prod.mk.injEq] at h';rcases h' with ⟨rfl,rfl⟩ | ⟨rfl,rfl⟩ | ⟨rfl,rfl⟩
     ·have:41=q:=by simpa[MObj.has,hasL,AVal.has] using h2
      simp[← this]
     ·have:42=q:=by simpa[MObj.has,hasL,Z4h  ,AVal.has] using h2
      simp[← this]
     ·simp[MObj.has] at h2
    ·have hP':=e6.trans hP
     have hn':=e7.trans hn;refine AWp.conv (inv:=[(10,10),(50,50),(51,51),(40,40),(41,41)]) (vk:=[42]) (e0:=[]) (t:=⟨[(14,.own 50),(16,.ptr 40 0 0),(115,.ptr 51 0 0)],[(10,some (.map (mE (vkI .i64) Im.sc (qM q)))),q4 50 (acc.map (·.2)),(51,some (.iter (some 10) (qM q).length (sn++[i]))),(40,some (.box 42 [qi m.f0,qi m.f1,qi m.f2,.own 41])),(41,some (.row 2 36 (l.map Z0++[Z0 r0])))],41⟩) (by kernel_rfl) ?_
     refine AWp.conv (inv:=[(10,10),(50,50),(51,51),(40,40)]) (vk:=[41]) (e0:=[]) (t:=⟨[(14,.own 50),(16,.ptr 40 0 0),(115,.ptr 51 0 0)],[(10,some (.map (mE (vkI .i64) Im.sc (qM q)))),q4 50 (acc.map (·.2)),(51,some (.iter (some 10) (qM q).length (sn++[i]))),(40,some (.box 42 [qi m.f0,qi m.f1,qi m.f2,.im (.row (l.map Z0++[Z0 r0]))]))],41⟩) (by kernel_rfl) ?_
     refine AWp.cv (rG hP' hn' hm [(4,.app 45 ([(⟨m,l++[r0]⟩:Z3)].map Z1)),(5,.app 46 (((acc++[(lo,(⟨m,l++[r0]⟩:Z3))]).map (·.2)).map Z1))] [(14,.own 46)] [14,115] [q4 46 ((acc++[(lo,(⟨m,l++[r0]⟩:Z3))]).map (·.2))] [10,46,51] [[(⟨m,l++[r0]⟩:Z3)].map Z1=[[iI .i64 m.f0,iI .i64 m.f1,iI .i64 m.f2,.row (l.map Z0++[Z0 r0])]],((acc++[(lo,(⟨m,l++[r0]⟩:Z3))]).map (·.2)).map Z1=(acc.map (·.2)).map Z1++[(⟨m,l++[r0]⟩:Z3)].map Z1,∀ c∈([(⟨m,l++[r0]⟩:Z3)].map Z1),c.length=4,∀ c∈([(⟨m,l++[r0]⟩:Z3)].map Z1),Z1w (c.map .im)=true,(((acc.map (·.2)).map Z1).length+([(⟨m,l++[r0]⟩:Z3)].map Z1).length)*48≤140737488355328] ⟨by simp,by simp,by exact Z3z _ _ _ (fun _=>rfl),by exact Z3g _ _ (fun _=>rfl),by simpa using hsz,trivial⟩ ?_);refine lf (t:=⟨[(14,.own 50),(115,.ptr 51 0 0)],[(10,some (.map (mE (vkI .i64) Im.sc (qM q)))),q4 50 ((acc++[(lo,(⟨m,l++[r0]⟩:Z3))]).map (·.2)),(51,some (.iter (some 10) (qM q).length (sn++[i])))],41⟩) [(10,10),(46,50),(51,51)] [] [] (by kernel_rfl) ?_;refine⟨rfl,[],fun k o h=>by simp[Pv.look] at h,fun B' => ?_⟩;exact GLWp.cv (Z22 [14,115] [10,50,51]) (next [] B')
 refine GLWp.mono (main2 _ [] [] (qB (.ptr 40 0 0) Za.obs q) Bs rfl (by rw[picks_nil];exact .refl _) (fun i _=>rfl)) ?_;rintro e s g ⟨rfl,acc,hacc,rfl⟩;show GWp Γ _ _ _ _;have HSa:Zq.f (acc.map (·.2))=some r':=by
  have h0:=rchk_of HS acc (by rw[← hq];exact hacc);exact h0
 clear HS main0 main2;have hfn:Pv.Fn Try.prog 19 [.own 0,.im (.sc (.func (.func 20) #[] #[]))] [q4 0 (acc.map (·.2))] 1 (fun x o=>x = .tup []∧o=[q4 0 r']):=Zq.ok _ _ HSa;refine gS hP hn hm [(1,.call [(50,0)] [(0,50)] [] [] 1 (.tup []) [q4 0 r'])] [] [14] [q4 50 r'] [50] [_,Pv.Fn Try.prog 19 [.own 0,.im (.sc (.func (.func 20) #[] #[]))] [q4 0 (acc.map (·.2))] 1 (fun x o=>x = .tup []∧o=[q4 0 r'])] ⟨call19,hfn,trivial⟩ ?_;refine gS hP hn hm [] [(4,.own 50)] [4] [] [50] [] trivial ?_;refine GWp.ret ?_;exact lf (t:=⟨[(4,.own 0)],[q4 0 r'],0⟩) [(50,0)] [] [] (by kernel_rfl) ⟨.inl rfl,rfl,by kernel_rfl,by kernel_rfl⟩
def Z44.f (a0:Z1x):Option Bool:=((if decide (a0.f2<0) then(some true) else(some (decide (a0.f2>4)))):Option Bool)>>=fun aa=>if aa=true then(some false) else((Z21.f a0.f2)>>=fun ab=>((if decide (a0.f0≥0) then(if decide (a0.f0≤1099511627776) then((chk ((i64.wrap ((64:Int)*2 ^ (min (u64.wrap ((2:Int)*(u64.wrap ((if(if(4:Int)<a0.f2 then(4:Int) else a0.f2)>0 then(if(4:Int)<a0.f2 then(4:Int) else a0.f2) else(0:Int)))))).toNat 64)))≠0))>>=fun _=>if(Int.tmod a0.f0 (i64.wrap ((64:Int)*2 ^ (min (u64.wrap ((2:Int)*(u64.wrap ((if(if(4:Int)<a0.f2 then(4:Int) else a0.f2)>0 then(if(4:Int)<a0.f2 then(4:Int) else a0.f2) else(0:Int)))))).toNat 64))))==0 then(some (a0.f1==(i64.wrap (a0.f0+(i64.wrap ((64:Int)*2 ^ (min (u64.wrap ((2:Int)*(u64.wrap ((if(if(4:Int)<a0.f2 then(4:Int) else a0.f2)>0 then(if(4:Int)<a0.f2 then(4:Int) else a0.f2) else(0:Int)))))).toNat 64))))))) else(some false)) else(some false)) else(some false)):Option Bool)>>=fun ac=>some ac)
abbrev w1_ (k:Nat) (x:Z1x):Nat×Option MObj:=BW 28 Z9p k x
theorem Z44.ok (a0:Z1x):F0 8 [.agg (Z9p a0)] (Z44.f a0) (fun r=>bV r):=FT [] func8 (.rg [(0,⟨.k 0,.n⟩)]<|.join (.sp (fun aa=>.rg [(3,hB aa)]<|.o [(0,1)])
 (fun aa=>.rg [(3,hB aa)]<|.o [(0,1)]))
 (.st .normal (fun ab=>⟨[(1,.ptr 1 0 0),(11,bV ab)],[w1_ 1 a0],0⟩) fun ab=>.cd (fun ac=>.r0<|.rv ⟨[(2,bV false)],[],0⟩)
 (fun ac=>.bd fun ae af=>.rg [(2,qh call7 (Z21.ok a0.f2 ae af))]<|.join (.sp (fun ah=>.sp (fun ai=>.ck fun aj=>.sp (fun ak=>.rg [(3,hB ah),(8,hB ai),(12,hN (p1 aj)),(15,hB ak)]<|.o [])
 (fun ak=>.rg [(3,hB ah),(8,hB ai),(12,hN (p1 aj)),(15,hB ak)]<|.o []))
 (fun ai=>.rg [(3,hB ah),(8,hB ai)]<|.o []))
 (fun ah=>.rg [(3,hB ah)]<|.o []))
 (.st .normal (fun al=>⟨[(2,bV al)],[],0⟩) fun al=>.rv ⟨[(2,bV al)],[],0⟩))))
def Z19.l0 (a0:ByteArray) (aa:Int):Option (Bool ⊕ Unit):=if decide (aa<(a0.size:Int)) then((chk (0≤aa∧aa<(a0.size:Int)))>>=fun _=>((if decide ((bt a0 aa)≥97) then(if decide ((bt a0 aa)≤122) then(some true) else(if decide ((bt a0 aa)≥65) then(if decide ((bt a0 aa)≤90) then(some true) else(some ((bt a0 aa)==95))) else(some ((bt a0 aa)==95)))) else(if decide ((bt a0 aa)≥65) then(if decide ((bt a0 aa)≤90) then(some true) else(some ((bt a0 aa)==95))) else(some ((bt a0 aa)==95)))):Option Bool)>>=fun ab=>((if !ab then(if aa==0 then(some true) else(if decide ((bt a0 aa)<48) then(some true) else(some (decide ((bt a0 aa)>57))))) else(some false)):Option Bool)>>=fun ac=>if ac=true then(some (.inl false)) else(Z19.l0 a0 (i64.wrap (aa+1)))) else(some (.inr ()))
partial_fixpoint
def Z19.f (a0:ByteArray):Option Bool:=((if a0.toList==(⟨#[]⟩:ByteArray).toList then(some true) else(some (decide ((a0.size:Int)>64)))):Option Bool)>>=fun aa=>if aa=true then(some false) else((Z19.l0 a0 0)>>=fun | .inl rr=>(some rr) | .inr _=>(some true))
theorem Z19.ok (a0:ByteArray):F0 76 [sV a0] (Z19.f a0) (fun r=>bV r):=FT [] func76 (.r0<|.join (.sp (fun aa=>.rg [(2,hB aa)]<|.o [])
 (fun aa=>.rg [(2,hB aa)]<|.o []))
 (.st .normal (fun ab=>⟨[(0,sV a0),(12,bV ab)],[],0⟩) fun ab=>.cd (fun ac=>.r0<|.rv ⟨[(2,bV false)],[],0⟩)
 (fun ac=>.r0<|.bl<|.lq (.one (Z19.l0.partial_correctness a0)) 0 [] (fun _=>.one (fun ae=>⟨[(0,sV a0),(14,qi (a0.size:Int)),(15,qi ae)],[],0⟩) fun ae=>.r0<|.cd (fun af=>.bl<|.r0<|.ck fun ah=>.rg [(2,hN (p2 ah))]<|.join (.sp (fun ai=>.sp (fun aj=>.rg [(2,hB ai),(6,hB aj)]<|.o [])
 (fun aj=>.sp (fun ak=>.sp (fun al=>.rg [(2,hB ai),(6,hB aj),(9,hB ak),(14,hB al)]<|.o [])
 (fun al=>.rg [(2,hB ai),(6,hB aj),(9,hB ak),(14,hB al)]<|.o []))
 (fun ak=>.rg [(2,hB ai),(6,hB aj),(9,hB ak)]<|.o [])))
 (fun ai=>.sp (fun am=>.sp (fun an=>.rg [(2,hB ai),(9,hB am),(14,hB an)]<|.o [])
 (fun an=>.rg [(2,hB ai),(9,hB am),(14,hB an)]<|.o []))
 (fun am=>.rg [(2,hB ai),(9,hB am)]<|.o [])))
 (.st .normal (fun ao=>⟨[(0,sV a0),(3,qi ae),(4,iV .u8 (bt a0 ae)),(5,bV ao),(14,qi (a0.size:Int)),(15,qi ae)],[],0⟩) fun ao=>.join (.sp (fun aq=>.sp (fun ar=>.rg [(2,hB aq),(5,hB ar)]<|.o [])
 (fun ar=>.sp (fun au=>.rg [(2,hB aq),(5,hB ar),(9,hB au)]<|.o [])
 (fun au=>.rg [(2,hB aq),(5,hB ar),(9,hB au)]<|.o [])))
 (fun aq=>.rg [(2,hB aq)]<|.o []))
 (.st .normal (fun av=>⟨[(0,sV a0),(14,qi (a0.size:Int)),(15,qi ae),(52,bV av)],[],0⟩) fun av=>.cd (fun aw=>.r0<|.rv ⟨[(2,bV false)],[],0⟩)
 (fun aw=>.r0<|.bk [] rfl))))
 (fun af=>.o []))
 (.sm (.rt (fun rr=>bV rr) (fun rr=>[]))
 (.st (.exit 0) (fun _=>⟨[],[],0⟩) fun _=>.r0<|.rv ⟨[(2,bV true)],[],0⟩)))))
def Z2c.f (a0:ByteArray):Option Bool:=((if !(a0.toList==(⟨#[]⟩:ByteArray).toList) then(some (decide ((a0.size:Int)≤64))) else(some false)):Option Bool)>>=fun aa=>some aa
theorem Z2c.ok (a0:ByteArray):F0 77 [sV a0] (Z2c.f a0) (fun r=>bV r):=FT [] func77 (.r0<|.join (.sp (fun aa=>.rg [(2,hB aa)]<|.o [])
 (fun aa=>.rg [(2,hB aa)]<|.o []))
 (.st .normal (fun ab=>⟨[(2,bV ab)],[],0⟩) fun ab=>.rv ⟨[(2,bV ab)],[],0⟩))
def Z1b.l0 (a0:List Z0q) (aa:Int):Option (Int ⊕ Unit):=if decide (aa<(a0.length:Int)) then((at? a0 aa)>>=fun ab=>(((Z19.f ab.f0)>>=fun ac=>if !ac then(some true) else((Z2c.f ab.f1)>>=fun ae=>if !ae then(some true) else(if decide (aa>0) then((at? a0 (i64.wrap (aa-1)))>>=fun af=>some (!Op.bytesLess af.f0.toList ab.f0.toList)) else(some false)))):Option Bool)>>=fun ah=>if ah=true then(some (.inl 26)) else(Z1b.l0 a0 (i64.wrap (aa+1)))) else(some (.inr ()))
partial_fixpoint
def Z1b.f (a0:List Z0q):Option Int:=if decide ((a0.length:Int)>16) then(some 9) else((Z1b.l0 a0 0)>>=fun | .inl rr=>(some rr) | .inr _=>(some 0))
theorem Z1b.ok (a0:List Z0q):F0 45 [.im (.row (a0.map Z1t))] (Z1b.f a0) (fun r=>qi r):=FT [] func45 (.r0<|.rg [(1,hG Z1t a0)]<|.cd (fun aa=>.r0<|.rv ⟨[(2,qi 9)],[],0⟩)
 (fun aa=>.rg [(1,hG Z1t a0)]<|.bl<|.lq (.one (Z1b.l0.partial_correctness a0)) 0 [] (fun _=>.one (fun ab=>⟨[(0,im a0 Z1t),(8,im a0 Z1t),(9,qi (ln a0)),(10,qi ab)],[],0⟩) fun ab=>.r0<|.cd (fun ac=>.bl<|.el fun ae af ah=>.rg [(1,hA Z1t af ah),(3,⟨.k 1,.n⟩)]<|.join (.bd fun ai aj=>.sp (fun ak=>.rg [(2,qh call76 (Z19.ok ae.f0 ai aj)),(4,hB ak)]<|.o [])
 (fun ak=>.bd fun al am=>.sp (fun an=>.rg [(2,qh call76 (Z19.ok ae.f0 ai aj)),(4,hB ak),(7,qh call77 (Z2c.ok ae.f1 al am)),(10,hB an)]<|.o [])
 (fun an=>.sp (fun ao=>.el fun aq ar au=>.rg [(2,qh call76 (Z19.ok ae.f0 ai aj)),(4,hB ak),(7,qh call77 (Z2c.ok ae.f1 al am)),(10,hB an),(13,hB ao),(17,hA Z1t ar au)]<|.o [])
 (fun ao=>.rg [(2,qh call76 (Z19.ok ae.f0 ai aj)),(4,hB ak),(7,qh call77 (Z2c.ok ae.f1 al am)),(10,hB an),(13,hB ao)]<|.o []))))
 (.st .normal (fun av=>⟨[(0,im a0 Z1t),(8,im a0 Z1t),(9,qi (ln a0)),(10,qi ab),(39,bV av)],[],0⟩) fun av=>.cd (fun aw=>.r0<|.rv ⟨[(2,qi 26)],[],0⟩)
 (fun aw=>.r0<|.bk [] rfl)))
 (fun ac=>.o []))
 (.sm (.rt (fun rr=>qi rr) (fun rr=>[]))
 (.st (.exit 0) (fun _=>⟨[],[],0⟩) fun _=>.r0<|.rv ⟨[(2,qi 0)],[],0⟩))))
def Z0m.l0 (aa:ByteArray) (ab:List ByteArray):Option (((List Z0q)×Int) ⊕ (List ByteArray)):=if decide ((aa.size:Int)>0) then((chk (0≤(0:Int)∧(0:Int)<(aa.size:Int)))>>=fun _=>if decide ((i64.wrap (bt aa 0))>(i64.wrap ((aa.size:Int)-1))) then(some (.inl ([],6))) else((chk (0≤(1:Int)∧(1:Int)≤(i64.wrap ((1:Int)+(i64.wrap (bt aa 0))))∧(i64.wrap ((1:Int)+(i64.wrap (bt aa 0))))≤(aa.size:Int)))>>=fun _=>(chk ((ab.length+[aa.extract (1:Int).toNat ((i64.wrap ((1:Int)+(i64.wrap (bt aa 0))))).toNat].length)*16≤140737488355328))>>=fun _=>(chk (0≤(i64.wrap ((1:Int)+(i64.wrap (bt aa 0))))∧(i64.wrap ((1:Int)+(i64.wrap (bt aa 0))))≤(aa.size:Int)∧(aa.size:Int)≤(aa.size:Int)))>>=fun _=>Z0m.l0  (aa.extract ((i64.wrap ((1:Int)+(i64.wrap (bt aa 0))))).toNat (aa.size:Int).toNat) (ab++[aa.extract (1:Int).toNat ((i64.wrap ((1:Int)+(i64.wrap (bt aa 0))))).toNat]))) else(some (.inr ab))
partial_fixpoint
def Z0m.l1 (aa:List ByteArray) (ab:List Z0q) (ac:Int):Option (List Z0q):=if decide (ac<(aa.length:Int)) then((at? aa ac)>>=fun ae=>(at? aa (i64.wrap (ac+1)))>>=fun af=>(chk ((ab.length+[(⟨ae,af⟩:Z0q)].length)*32≤140737488355328))>>=fun _=>Z0m.l1 aa (ab++[(⟨ae,af⟩:Z0q)]) (i64.wrap (ac+2))) else(some ab)
partial_fixpoint
def Z0m.f (a0:ByteArray):Option ((List Z0q)×Int):=(Z0m.l0  a0 [])>>=fun | .inl rr=>(some rr) | .inr aa=>(if(Int.tmod (aa.length:Int) (2:Int))==1 then(some ([],6)) else((Z0m.l1 aa [] 0)>>=fun ab=>(Z1b.f ab)>>=fun ac=>if ac != 0 then(some ([],6)) else(some (ab,0))))
theorem Z0m.ok (a0:ByteArray):FN 29 [sV a0] [] 0 (Z0m.f a0) (fun r=>.tup [.own 0,qi r.2]) (fun r=>[q1 0 r.1]):=FT [0] func29 (.r0<|.r0<|.bl<|.loop (.c2 (Z0m.l0.partial_correctness )) (a0,[]) [] [] [2] (fun _=>.pr fun aa=>.one (fun ab=>⟨[(0,sV aa),(4,.own 2)],[q0 2 ab],0⟩) fun ab=>.r0<|.cd (fun ac=>.bl<|.ck fun ae=>.rg [(1,hN (p2 ae))]<|.r0<|.cd (fun af=>.r0<|.ret [] [] [0] ⟨[(2,.own 0),(3,qi 6)],[q1 0 []],0⟩)
 (fun af=>.ck fun ah=>.ck fun ai=>.rg [(4,hN (p3 ah)),(5,hQ 3 encStr ([aa.extract (Int.toNat (1:Int)) (Int.toNat ((i64.wrap ((1:Int)+(i64.wrap (bt aa 0))))))]:List ByteArray)),(6,hP 4 encStr 1 ai)]<|.ck fun aj=>.rg [(3,hN (p3 aj))]<|.bk [(4,2)] rfl))
 (fun ac=>.o [(2,5)]))
 (.sm (.rt (fun rr=>.tup [.own 0,qi rr.2]) (fun rr=>[q1 0 rr.1]))
 (.st (.exit 0) (fun ak=>⟨[(4,.own 5)],[q0 5 ak],0⟩) fun ak=>.rg [(1,hG encStr ak),(2,hJ 2)]<|.cd (fun al=>.r0<|.ret [] [] [0] ⟨[(2,.own 0),(3,qi 6)],[q1 0 []],0⟩)
 (fun al=>.r0<|.r0<|.bl<|.loop (.c2 (Z0m.l1.partial_correctness ak)) ([],0) [(5,8)] [] [9] (fun _=>.pr fun am=>.one (fun an=>⟨[(4,.own 8),(6,.own 9),(7,qi an)],[q0 8 ak,q1 9 am],0⟩) fun an=>.rg [(2,hG encStr ak)]<|.cd (fun ao=>.bl<|.el fun aq ar au=>.el fun av aw ax=>.ck fun ay=>.rg [(3,hX encStr ar au),(4,hL encStr au),(8,hX encStr aw ax),(9,hL encStr ax),(11,hQ 10 Z1t ([(⟨aq,av⟩:Z0q)]:List Z0q)),(12,hP 11 Z1t 2 ay)]<|.r0<|.bk [(8,8),(11,9)] rfl)
 (fun ao=>.o [(9,12)]))
 (.st (.exit 2) (fun az=>⟨[(6,.own 12)],[q1 12 az],0⟩) fun az=>.bd fun a8 a9=>.rg [(1,h3 12 call45 (Z1b.ok az a8 a9))]<|.cd (fun ba=>.r0<|.ret [] [] [0] ⟨[(2,.own 0),(3,qi 6)],[q1 0 []],0⟩)
 (fun ba=>.r0<|.ru [(12,0)] ⟨[(2,.own 0),(3,qi 0)],[q1 0 az],0⟩))))))
def Z0z.f (a0:Int):Option Bool:=((if decide (a0≥(-4)) then(some (decide (a0≤8))) else(some false)):Option Bool)>>=fun aa=>some aa
theorem Z0z.ok (a0:Int):F0 78 [qi a0] (Z0z.f a0) (fun r=>bV r):=FT [] func78 (.r0<|.join (.sp (fun aa=>.rg [(2,hB aa)]<|.o [])
 (fun aa=>.rg [(2,hB aa)]<|.o []))
 (.st .normal (fun ab=>⟨[(2,bV ab)],[],0⟩) fun ab=>.rv ⟨[(2,bV ab)],[],0⟩))
def Z2d.f (a0:Int):Option Unit:=some ()
theorem Z2d.ok (a0:Int):F0 101 [qi a0] (Z2d.f a0) (fun r=>qu (u64.wrap (i64.wrap ((8:Int)-a0)))):=FT [] func101 (.r0<|.r0<|.rv ⟨[(2,qu (u64.wrap (i64.wrap ((8:Int)-a0))))],[],0⟩)
def Z2l.f (a0:Int):Option Int:=(Z0z.f a0)>>=fun aa=>if !aa then(some 0) else((Z2d.f a0)>>=fun ab=>(chk (0≤(u64.wrap (i64.wrap ((8:Int)-a0)))))>>=fun _=>some (Int.fdiv (262144:Int) (2 ^ (min (u64.wrap (i64.wrap ((8:Int)-a0))).toNat 64))))
theorem Z2l.ok (a0:Int):F0 98 [qi a0] (Z2l.f a0) (fun r=>qi r):=FT [] func98 (.r0<|.bd fun aa ab=>.rg [(1,qh call78 (Z0z.ok a0 aa ab))]<|.cd (fun ac=>.r0<|.rv ⟨[(2,qi 0)],[],0⟩)
 (fun ac=>.bd fun ae af=>.ck fun ah=>.rg [(1,qh call101 (Z2d.ok a0 ae af)),(2,hN (p1 ah))]<|.rv ⟨[(2,qi (Int.fdiv (262144:Int) (2 ^ (min (Int.toNat (u64.wrap (i64.wrap ((8:Int)-a0)))) 64))))],[],0⟩))
def Z31.f (a0:Int):Option Int:=(Z2l.f a0)>>=fun aa=>some (i64.wrap ((i64.wrap (0-aa))+1))
theorem Z31.ok (a0:Int):F0 97 [qi a0] (Z31.f a0) (fun r=>qi r):=FT [] func97 (.r0<|.bd fun aa ab=>.rg [(1,qh call98 (Z2l.ok a0 aa ab))]<|.rv ⟨[(2,qi (i64.wrap ((i64.wrap (0-aa))+1)))],[],0⟩)
def Z47.f (a0 a1:Int):Option Bool:=(((Z0z.f a0)>>=fun aa=>if aa=true then((Z31.f a0)>>=fun ab=>if decide (a1≥ab) then((Z2l.f a0)>>=fun ac=>some (decide (a1≤ac))) else(some false)) else(some false)):Option Bool)>>=fun ae=>some ae
theorem Z47.ok (a0 a1:Int):F0 91 [qi a0,qi a1] (Z47.f a0 a1) (fun r=>bV r):=FT [] func91 (.r0<|.join (.bd fun aa ab=>.sp (fun ac=>.bd fun ae af=>.sp (fun ah=>.bd fun ai aj=>.rg [(1,qh call78 (Z0z.ok a0 aa ab)),(2,hB ac),(5,qh call97 (Z31.ok a0 ae af)),(8,hB ah),(11,qh call98 (Z2l.ok a0 ai aj))]<|.o [])
 (fun ah=>.rg [(1,qh call78 (Z0z.ok a0 aa ab)),(2,hB ac),(5,qh call97 (Z31.ok a0 ae af)),(8,hB ah)]<|.o []))
 (fun ac=>.rg [(1,qh call78 (Z0z.ok a0 aa ab)),(2,hB ac)]<|.o []))
 (.st .normal (fun ak=>⟨[(4,bV ak)],[],0⟩) fun ak=>.rv ⟨[(4,bV ak)],[],0⟩))
def Z30.f (a0 a1:Int):Option Int:=(Z0z.f a0)>>=fun aa=>if !aa then(some 0) else((Z2d.f a0)>>=fun ab=>(chk (0≤(u64.wrap (i64.wrap ((8:Int)-a0)))))>>=fun _=>some (i64.wrap (a1*2 ^ (min (u64.wrap (i64.wrap ((8:Int)-a0))).toNat 64))))
theorem Z30.ok (a0 a1:Int):F0 99 [qi a0,qi a1] (Z30.f a0 a1) (fun r=>qi r):=FT [] func99 (.r0<|.bd fun aa ab=>.rg [(1,qh call78 (Z0z.ok a0 aa ab))]<|.cd (fun ac=>.r0<|.rv ⟨[(4,qi 0)],[],0⟩)
 (fun ac=>.bd fun ae af=>.ck fun ah=>.rg [(2,qh call101 (Z2d.ok a0 ae af)),(3,hN (p1 ah))]<|.rv ⟨[(4,qi (i64.wrap (a1*2 ^ (min (Int.toNat (u64.wrap (i64.wrap ((8:Int)-a0)))) 64))))],[],0⟩))
def Z3l.f (a0 a1:Int):Option Int:=(Z30.f a0 (i64.wrap (a1-1)))>>=fun aa=>some aa
theorem Z3l.ok (a0 a1:Int):F0 92 [qi a0,qi a1] (Z3l.f a0 a1) (fun r=>qi r):=FT [] func92 (.r0<|.bd fun aa ab=>.rg [(3,qh call99 (Z30.ok a0 (i64.wrap (a1-1)) aa ab))]<|.rv ⟨[(4,qi aa)],[],0⟩)
def Z0h.l0 (a0:Z1c) (a1:List Z0f) (aa:Int):Option (Int ⊕ Unit):=if decide (aa<(a1.length:Int)) then((at? a1 aa)>>=fun ab=>(Z47.f a0.f1 ab.f0)>>=fun ac=>if !ac then(some (.inl 4)) else(((if decide (aa>0) then((at? a1 (i64.wrap (aa-1)))>>=fun ae=>some (decide (ae.f0≥ab.f0))) else(some false)):Option Bool)>>=fun af=>if af=true then(some (.inl 32)) else(if ab.f1==0 then(some (.inl 21)) else((Z3l.f a0.f1 ab.f0)>>=fun ah=>if decide (ah<a0.f2) then(some (.inl 31)) else(Z0h.l0 a0 a1 (i64.wrap (aa+1))))))) else(some (.inr ()))
partial_fixpoint
def Z0h.f (a0:Z1c) (a1:List Z0f):Option Int:=if decide ((a1.length:Int)>512) then(some 9) else((Z0h.l0 a0 a1 0)>>=fun | .inl rr=>(some rr) | .inr _=>(some 0))
abbrev w2_ (k:Nat) (x:Z0f):Nat×Option MObj:=BW 100 aBucket k x
theorem Z0h.ok (a0:Z1c) (a1:List Z0f):F0 79 [.agg (aHist a0),.im (.row (a1.map Z0d))] (Z0h.f a0 a1) (fun r=>qi r):=FT [] func79 (.rg [(0,⟨.k 0,.n⟩)]<|.rg [(1,hG Z0d a1)]<|.cd (fun aa=>.r0<|.rv ⟨[(4,qi 9)],[],0⟩)
 (fun aa=>.rg [(1,hG Z0d a1)]<|.bl<|.lq (.one (Z0h.l0.partial_correctness a0 a1)) 0 [(0,2)] (fun _=>.one (fun ab=>⟨[(1,im a1 Z0d),(2,.ptr 2 0 0),(10,im a1 Z0d),(11,qi (ln a1)),(12,qi ab)],[w0_ 2 a0],0⟩) fun ab=>.r0<|.cd (fun ac=>.bl<|.el fun ae af ah=>.rg [(1,hA Z0d af ah),(3,⟨.k 3,.n⟩)]<|.bl<|.bd fun ai aj=>.rg [(4,qh call91 (Z47.ok a0.f1 ae.f0 ai aj))]<|.cd (fun ak=>.r0<|.rv ⟨[(4,qi 4)],[],0⟩)
 (fun ak=>.join (.sp (fun al=>.el fun am an ao=>.rg [(2,hB al),(6,hA Z0d an ao)]<|.o [(2,4),(3,5)])
 (fun al=>.rg [(2,hB al)]<|.o [(2,4),(3,5)]))
 (.st .normal (fun aq=>⟨[(1,im a1 Z0d),(2,.ptr 4 0 0),(6,.ptr 5 0 0),(10,im a1 Z0d),(11,qi (ln a1)),(12,qi ab),(24,bV aq)],[w0_ 4 a0,w2_ 5 ae],0⟩) fun aq=>.cd (fun ar=>.r0<|.rv ⟨[(4,qi 32)],[],0⟩)
 (fun ar=>.r0<|.cd (fun au=>.r0<|.rv ⟨[(4,qi 21)],[],0⟩)
 (fun au=>.bd fun av aw=>.rg [(4,qh call92 (Z3l.ok a0.f1 ae.f0 av aw))]<|.cd (fun ax=>.r0<|.rv ⟨[(4,qi 31)],[],0⟩)
 (fun ax=>.r0<|.bk [(4,2)] rfl))))))
 (fun ac=>.o []))
 (.sm (.rt (fun rr=>qi rr) (fun rr=>[]))
 (.st (.exit 0) (fun _=>⟨[],[],0⟩) fun _=>.r0<|.rv ⟨[(4,qi 0)],[],0⟩))))
def Z2b.l0 (a0:List Int) (aa ab:Int):Option ((Int×Int) ⊕ Int):=if decide (ab<(a0.length:Int)) then((at? a0 ab)>>=fun ac=>(chk (0≤aa∧0≤ac∧0≤(0:Int)∧(0:Int)≤1))>>=fun _=>if((aa+ac+0) / 18446744073709551616) != 0 then(some (.inl (0,5))) else(Z2b.l0 a0 ((aa+ac+0) % 18446744073709551616) (i64.wrap (ab+1)))) else(some (.inr aa))
partial_fixpoint
def Z2b.f (a0:List Int):Option (Int×Int):=(Z2b.l0 a0 0 0)>>=fun | .inl rr=>(some rr) | .inr aa=>(some (aa,0))
theorem Z2b.ok (a0:List Int):F0 93 [.im (.row (a0.map qv))] (Z2b.f a0) (fun r=>.tup [qu r.1,qi r.2]):=FT [] func93 (.r0<|.r0<|.rg [(1,hG qv a0)]<|.bl<|.lq (.c2 (Z2b.l0.partial_correctness a0)) (0,0) [] (fun _=>.pr fun aa=>.one (fun ab=>⟨[(4,qu aa),(9,im a0 qv),(10,qi (ln a0)),(11,qi ab)],[],0⟩) fun ab=>.r0<|.cd (fun ac=>.bl<|.el fun ae af ah=>.rg [(0,hA qv af ah)]<|.ck fun ai=>.rg [(2,⟨.ext (.tup [qu ((aa+ae+0) % 18446744073709551616),qu ((aa+ae+0) / 18446744073709551616)]),.c (p:=∀ w,(callFunc 100 ([.int .u64 aa,.int .u64 ae,.int .u64 (0:Int)]:List Value).toArray).run Try.prog w = .ok (.value (.tuple #[.int .u64 ((aa+ae+0) % 18446744073709551616),.int .u64 ((aa+ae+0) / 18446744073709551616)])) w) (fun w=>x_add64 (fn:=Try.f100) func100 (by kernel_rfl) rfl (by kernel_rfl) (by kernel_rfl) ai w) .n⟩)]<|.r0<|.cd (fun aj=>.r0<|.rv ⟨[(2,qu 0),(3,qi 5)],[],0⟩)
 (fun aj=>.r0<|.r0<|.bk [] rfl))
 (fun ac=>.o []))
 (.sm (.rt (fun rr=>.tup [qu rr.1,qi rr.2]) (fun rr=>[]))
 (.st (.exit 0) (fun ak=>⟨[(4,qu ak)],[],0⟩) fun ak=>.r0<|.rv ⟨[(2,qu ak),(3,qi 0)],[],0⟩)))
def Z0u.l1 (a0:List (List Z0f)) (aa:List Z0f) (ab ac ae:Int):Option ((Int×Int) ⊕ Int):=if decide (ae<(aa.length:Int)) then((at? aa ae)>>=fun af=>(Z2b.f [ac,af.f1])>>=fun ah=>if ah.2 != 0 then(some (.inl (0,ah.2))) else(Z0u.l1 a0 aa ab ah.1 (i64.wrap (ae+1)))) else(some (.inr ac))
partial_fixpoint
def Z0u.l0 (a0:List (List Z0f)) (aa ab:Int):Option ((Int×Int) ⊕ Int):=if decide (ab<(a0.length:Int)) then((at? a0 ab)>>=fun ac=>(Z0u.l1 a0 ac ab aa 0)>>=fun | .inl rr=>(some (.inl rr)) | .inr ae=>(Z0u.l0 a0 ae (i64.wrap (ab+1)))) else(some (.inr aa))
partial_fixpoint
def Z0u.f (a0:List (List Z0f)):Option (Int×Int):=(Z0u.l0 a0 0 0)>>=fun | .inl rr=>(some rr) | .inr aa=>(some (aa,0))
theorem Z0u.ok (a0:List (List Z0f)):F0 80 [.im (.row (a0.map (Z5l Z0d)))] (Z0u.f a0) (fun r=>.tup [qu r.1,qi r.2]):=FT [] func80 (.r0<|.r0<|.rg [(1,hG (Z5l Z0d) a0)]<|.bl<|.lq (.c2 (Z0u.l0.partial_correctness a0)) (0,0) [] (fun _=>.pr fun aa=>.one (fun ab=>⟨[(4,qu aa),(10,im a0 (Z5l Z0d)),(11,qi (ln a0)),(12,qi ab)],[],0⟩) fun ab=>.r0<|.cd (fun ac=>.bl<|.el fun ae af ah=>.rg [(0,hA (Z5l Z0d) af ah)]<|.rg [(1,hG Z0d ae)]<|.bl<|.lq (.c2 (Z0u.l1.partial_correctness a0 ae ab)) (aa,0) [] (fun _=>.pr fun ai=>.one (fun aj=>⟨[(4,qu ai),(10,im a0 (Z5l Z0d)),(11,qi (ln a0)),(12,qi ab),(16,im ae Z0d),(17,qi (ln ae)),(18,qi aj)],[],0⟩) fun aj=>.r0<|.cd (fun ak=>.bl<|.el fun al am an=>.rg [(0,hA Z0d am an),(2,⟨.k 6,.n⟩)]<|.r0<|.bd fun ao aq=>.rg [(3,hQ 7 qv ([ai,al.f1]:List Int)),(4,h3 7 call93 (Z2b.ok [ai,al.f1] ao aq))]<|.r0<|.cd (fun ar=>.r0<|.rv ⟨[(2,qu 0),(3,qi ao.2)],[],0⟩)
 (fun ar=>.r0<|.bk [] rfl))
 (fun ak=>.o []))
 (.sm (.rt (fun rr=>.tup [qu rr.1,qi rr.2]) (fun rr=>[]))
 (.st (.exit 2) (fun au=>⟨[(4,qu au),(10,im a0 (Z5l Z0d)),(11,qi (ln a0)),(12,qi ab)],[],0⟩) fun au=>.r0<|.bk [] rfl)))
 (fun ac=>.o []))
 (.sm (.rt (fun rr=>.tup [qu rr.1,qi rr.2]) (fun rr=>[]))
 (.st (.exit 0) (fun av=>⟨[(4,qu av)],[],0⟩) fun av=>.r0<|.rv ⟨[(2,qu av),(3,qi 0)],[],0⟩)))
def Z14.l0 (a0:Z1c) (aa:Int):Option (Int ⊕ Unit):=if decide (aa<2) then((((chk (0≤aa∧aa<2))>>=fun _=>if aa==0 then(some a0.f6) else(some a0.f7)):Option (List Z0f))>>=fun ab=>(Z0h.f a0 ab)>>=fun ac=>if ac != 0 then(some (.inl ac)) else(Z14.l0 a0 (i64.wrap (aa+1)))) else(some (.inr ()))
partial_fixpoint
def Z14.f (a0:Z1c):Option Int:=((if a0.f0 != 0 then(some (a0.f0 != 1)) else(some false)):Option Bool)>>=fun aa=>if aa=true then(some 25) else((Z0z.f a0.f1)>>=fun ab=>if !ab then(some 20) else(((if a0.f2 != (-524288) then(if decide (a0.f2≤(-262144)) then(some true) else(some (decide (a0.f2>262144)))) else(some false)):Option Bool)>>=fun ac=>if ac=true then(some 31) else((Z14.l0 a0 0)>>=fun | .inl rr=>(some rr) | .inr _=>((Z0u.f [a0.f6,a0.f7,[(⟨0,a0.f3⟩:Z0f)]])>>=fun ae=>if ae.2 != 0 then(some ae.2) else(if ae.1 != a0.f4 then(some 21) else(some 0))))))
theorem Z14.ok (a0:Z1c):F0 46 [.agg (aHist a0)] (Z14.f a0) (fun r=>qi r):=FT [] func46 (.rg [(0,⟨.k 0,.n⟩)]<|.bl<|.join (.sp (fun aa=>.rg [(3,hB aa)]<|.o [(0,1)])
 (fun aa=>.rg [(3,hB aa)]<|.o [(0,1)]))
 (.st .normal (fun ab=>⟨[(1,.ptr 1 0 0),(8,bV ab)],[w0_ 1 a0],0⟩) fun ab=>.cd (fun ac=>.r0<|.rv ⟨[(2,qi 25)],[],0⟩)
 (fun ac=>.bd fun ae af=>.rg [(2,qh call78 (Z0z.ok a0.f1 ae af))]<|.cd (fun ah=>.r0<|.rv ⟨[(2,qi 20)],[],0⟩)
 (fun ah=>.join (.sp (fun ai=>.sp (fun aj=>.rg [(3,hB ai),(7,hB aj)]<|.o [(1,2)])
 (fun aj=>.rg [(3,hB ai),(7,hB aj)]<|.o [(1,2)]))
 (fun ai=>.rg [(3,hB ai)]<|.o [(1,2)]))
 (.st .normal (fun ak=>⟨[(1,.ptr 2 0 0),(22,bV ak)],[w0_ 2 a0],0⟩) fun ak=>.cd (fun al=>.r0<|.rv ⟨[(2,qi 31)],[],0⟩)
 (fun al=>.r0<|.bl<|.lq (.one (Z14.l0.partial_correctness a0)) 0 [(2,3)] (fun _=>.one (fun am=>⟨[(1,.ptr 3 0 0),(40,.agg [im a0.f6 Z0d,im a0.f7 Z0d]),(41,qi am)],[w0_ 3 a0],0⟩) fun am=>.r0<|.cd (fun an=>.bl<|.join (.ck fun ao=>.sp (fun aq=>.rg [(0,⟨.more (xIdx 0),.c (p:=am=((0:Nat):Int)) (by simpa using aq) .n⟩)]<|.o [(3,4)])
 (fun aq=>.rg [(0,⟨.more (xIdx 1),.c (p:=am=((1:Nat):Int)) (by have:=ao;simp only[beq_eq_false_iff_ne] at *;omega) .n⟩)]<|.o [(3,4)]))
 (.st .normal (fun ar=>⟨[(1,.ptr 4 0 0),(4,im ar Z0d),(40,.agg [im a0.f6 Z0d,im a0.f7 Z0d]),(41,qi am)],[w0_ 4 a0],0⟩) fun ar=>.bd fun au av=>.rg [(2,qh call79 (Z0h.ok a0 ar au av))]<|.r0<|.cd (fun aw=>.r0<|.rv ⟨[(2,qi au)],[],0⟩)
 (fun aw=>.r0<|.bk [(4,3)] rfl)))
 (fun an=>.o [(3,5)]))
 (.sm (.rt (fun rr=>qi rr) (fun rr=>[]))
 (.st (.exit 1) (fun _=>⟨[(1,.ptr 5 0 0)],[w0_ 5 a0],0⟩) fun _=>.bd fun ax ay=>.rg [(7,fzI (hQ 6 Z0d ([(⟨0,a0.f3⟩:Z0f)]:List Z0f))),(8,hQ 7 (Z5l Z0d) ([a0.f6,a0.f7,[(⟨0,a0.f3⟩:Z0f)]]:List (List Z0f))),(9,h3 7 call80 (Z0u.ok [a0.f6,a0.f7,[(⟨0,a0.f3⟩:Z0f)]] ax ay))]<|.bl<|.r0<|.cd (fun az=>.r0<|.rv ⟨[(2,qi ax.2)],[],0⟩)
 (fun az=>.r0<|.cd (fun a8=>.r0<|.rv ⟨[(2,qi 21)],[],0⟩)
 (fun a8=>.r0<|.rv ⟨[(2,qi 0)],[],0⟩))))))))))
def Z1j.l0 (a0:List Zf) (aa:Int):Option (Bool ⊕ Unit):=if decide (aa<(a0.length:Int)) then((at? a0 aa)>>=fun ab=>((if decide (ab.f0<0) then(some true) else(if decide (ab.f0>1099511627776) then(some true) else((Z14.f ab.f1)>>=fun ac=>if ac != 0 then(some true) else(if decide (aa>0) then((at? a0 (i64.wrap (aa-1)))>>=fun ae=>some (decide (ae.f0≥ab.f0))) else(some false))))):Option Bool)>>=fun af=>if af=true then(some (.inl false)) else(Z1j.l0 a0 (i64.wrap (aa+1)))) else(some (.inr ()))
partial_fixpoint
def Z1j.f (a0:List Zf):Option Bool:=(Z1j.l0 a0 0)>>=fun | .inl rr=>(some rr) | .inr _=>(some true)
theorem Z1j.ok (a0:List Zf):F0 30 [.im (.row (a0.map Zc))] (Z1j.f a0) (fun r=>bV r):=FT [] func30 (.r0<|.rg [(1,hG Zc a0)]<|.bl<|.lq (.one (Z1j.l0.partial_correctness a0)) 0 [] (fun _=>.one (fun aa=>⟨[(0,im a0 Zc),(5,im a0 Zc),(6,qi (ln a0)),(7,qi aa)],[],0⟩) fun aa=>.r0<|.cd (fun ab=>.bl<|.el fun ac ae af=>.rg [(1,hA Zc ae af),(3,⟨.k 1,.n⟩)]<|.join (.sp (fun ah=>.rg [(3,hB ah)]<|.o [])
 (fun ah=>.sp (fun ai=>.rg [(3,hB ah),(8,hB ai)]<|.o [])
 (fun ai=>.bd fun aj ak=>.sp (fun al=>.rg [(3,hB ah),(8,hB ai),(11,qh call46 (Z14.ok ac.f1 aj ak)),(14,hB al)]<|.o [])
 (fun al=>.sp (fun am=>.el fun an ao aq=>.rg [(3,hB ah),(8,hB ai),(11,qh call46 (Z14.ok ac.f1 aj ak)),(14,hB al),(17,hB am),(21,hA Zc ao aq)]<|.o [])
 (fun am=>.rg [(3,hB ah),(8,hB ai),(11,qh call46 (Z14.ok ac.f1 aj ak)),(14,hB al),(17,hB am)]<|.o [])))))
 (.st .normal (fun ar=>⟨[(0,im a0 Zc),(5,im a0 Zc),(6,qi (ln a0)),(7,qi aa),(40,bV ar)],[],0⟩) fun ar=>.cd (fun au=>.r0<|.rv ⟨[(2,bV false)],[],0⟩)
 (fun au=>.r0<|.bk [] rfl)))
 (fun ab=>.o []))
 (.sm (.rt (fun rr=>bV rr) (fun rr=>[]))
 (.st (.exit 0) (fun _=>⟨[],[],0⟩) fun _=>.r0<|.rv ⟨[(2,bV true)],[],0⟩)))
end Go.Proofs.Ytpoihfcehejgfaa.PvGP
