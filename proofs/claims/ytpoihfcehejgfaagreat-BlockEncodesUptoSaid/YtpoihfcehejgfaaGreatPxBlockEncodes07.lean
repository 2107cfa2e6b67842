import Derived.Shelf.Slices.In.SortNone
import Derived.Shelf.Sort.Plain
import Derived.Test.YtpoihfcehejgfaaGreatProg
import Derived.Test.YtpoihfcehejgfaaGreatPxBlockEncodes06
set_option linter.unusedVariables false
set_option linter.unnecessarySimpa false
set_option linter.unusedSimpArgs false
set_option maxRecDepth 10000
namespace Go.Proofs.YtpoihfcehejgfaaGreat.PvGS1
open Go Go.Pv Tryz Go.IntKind
structure Z0 where
 f0:Int
 f1:Int
 deriving DecidableEq,Inhabited
abbrev Z3 (x:Z0):List Im:=[iI .i64 x.f0,iI .u64 x.f1]
abbrev aBucket (x:Z0):List AVal:=[iV .i64 x.f0,iV .u64 x.f1]
structure RBucket (x:Z0):Prop where
 r0:I64 x.f0
 r1:U64 x.f1
structure Zi where
 f0:Int
 f1:Int
 f2:Int
 f3:Int
 f4:Int
 f5:Int
 f6:List Z0
 f7:List Z0
 deriving DecidableEq,Inhabited
abbrev eHist (x:Zi):List Im:=[iI .i64 x.f0,iI .i64 x.f1,iI .i64 x.f2,iI .u64 x.f3,iI .u64 x.f4,iI .i64 x.f5,.row (x.f6.map Z3),.row (x.f7.map Z3)]
abbrev Z4n (x:Zi):List AVal:=[iV .i64 x.f0,iV .i64 x.f1,iV .i64 x.f2,iV .u64 x.f3,iV .u64 x.f4,iV .i64 x.f5,.im (.row (x.f6.map Z3)),.im (.row (x.f7.map Z3))]
structure RHist (x:Zi):Prop where
 r0:I64 x.f0
 r1:I64 x.f1
 r2:I64 x.f2
 r3:U64 x.f3
 r4:U64 x.f4
 r5:I64 x.f5
 r6:x.f6.length≤1048576∧∀ y∈x.f6,RBucket y
 r7:x.f7.length≤1048576∧∀ y∈x.f7,RBucket y
structure Z6 where
 f0:Int
 f1:Zi
 deriving DecidableEq,Inhabited
abbrev Z5 (x:Z6):List Im:=[iI .i64 x.f0,iI .i64 x.f1.f0,iI .i64 x.f1.f1,iI .i64 x.f1.f2,iI .u64 x.f1.f3,iI .u64 x.f1.f4,iI .i64 x.f1.f5,.row (x.f1.f6.map Z3),.row (x.f1.f7.map Z3)]
abbrev aSample (x:Z6):List AVal:=[iV .i64 x.f0,iV .i64 x.f1.f0,iV .i64 x.f1.f1,iV .i64 x.f1.f2,iV .u64 x.f1.f3,iV .u64 x.f1.f4,iV .i64 x.f1.f5,.im (.row (x.f1.f6.map Z3)),.im (.row (x.f1.f7.map Z3))]
structure RSample (x:Z6):Prop where
 r0:I64 x.f0
 r1:RHist x.f1
structure Zh where
 f0:ByteArray
 f1:List Z6
 deriving DecidableEq,Inhabited
abbrev Z7 (x:Zh):List Im:=[sI x.f0,.row (x.f1.map Z5)]
abbrev Z4s (x:Zh):List AVal:=[sV x.f0,.im (.row (x.f1.map Z5))]
structure Z5m (x:Zh):Prop where
 r0:x.f0.size≤1048576
 r1:x.f1.length≤1048576∧∀ y∈x.f1,RSample y
structure Z07 where
 f0:Int
 f1:Int
 f2:Int
 f3:List Zh
 deriving DecidableEq,Inhabited
abbrev er16_Block (x:Z07):List Im:=[iI .i64 x.f0,iI .i64 x.f1,iI .i64 x.f2,.row (x.f3.map Z7)]
abbrev Z4r (x:Z07):List AVal:=[iV .i64 x.f0,iV .i64 x.f1,iV .i64 x.f2,.im (.row (x.f3.map Z7))]
structure Zfj (x:Z07):Prop where
 r0:I64 x.f0
 r1:I64 x.f1
 r2:I64 x.f2
 r3:x.f3.length≤1048576∧∀ y∈x.f3,Z5m y
structure Z0d where
 f0:ByteArray
 f1:ByteArray
 deriving DecidableEq,Inhabited
abbrev Z2s (x:Z0d):List Im:=[sI x.f0,sI x.f1]
abbrev aLabel (x:Z0d):List AVal:=[sV x.f0,sV x.f1]
structure RLabel (x:Z0d):Prop where
 r0:x.f0.size≤1048576
 r1:x.f1.size≤1048576
structure Zt where
 f0:Int
 f1:Int
 f2:Int
 deriving DecidableEq,Inhabited
abbrev Zen (x:Zt):List AVal:=[iV .i64 x.f0,iV .i64 x.f1,iV .i64 x.f2]
structure Rblock_Meta (x:Zt):Prop where
 r0:I64 x.f0
 r1:I64 x.f1
 r2:I64 x.f2
structure Z2 where
 f0:Zt
 f1:List Zh
 deriving DecidableEq,Inhabited
abbrev Zn (x:Z2):List Im:=[iI .i64 x.f0.f0,iI .i64 x.f0.f1,iI .i64 x.f0.f2,.row (x.f1.map Z7)]
structure Rblock_Block (x:Z2):Prop where
 r0:Rblock_Meta x.f0
 r1:x.f1.length≤1048576∧∀ y∈x.f1,Z5m y
structure Tbits_Writer where
 f0:List Int
 f1:Int
 deriving DecidableEq,Inhabited
structure Rbits_Writer (x:Tbits_Writer):Prop where
 r0:x.f0.length≤1048576∧∀ y∈x.f0,Rng 0 256 y
 r1:U64 x.f1
structure Z2k where
 f0:Int
 f1:Int
 deriving DecidableEq,Inhabited
abbrev Z4m (x:Z2k):List Im:=[iI .i64 x.f0,iI .i64 x.f1]
abbrev aSpan (x:Z2k):List AVal:=[iV .i64 x.f0,iV .i64 x.f1]
structure RSpan (x:Z2k):Prop where
 r0:I64 x.f0
 r1:I64 x.f1
structure Zf where
 f0:Int
 f1:List Z2k
 deriving DecidableEq,Inhabited
abbrev Z2y (x:Zf):List AVal:=[iV .i64 x.f0,.im (.row (x.f1.map Z4m))]
structure Rspan_Layout (x:Zf):Prop where
 r0:I64 x.f0
 r1:x.f1.length≤1048576∧∀ y∈x.f1,RSpan y
structure Z9w where
 f0:List Int
 f1:Int
 f2:Int
 deriving DecidableEq,Inhabited
abbrev abits_Reader (x:Z9w):List AVal:=[.im (.row (x.f0.map (Z4p .u8))),iV .i64 x.f1,iV .i64 x.f2]
structure Rbits_Reader (x:Z9w):Prop where
 r0:x.f0.length≤1048576∧∀ y∈x.f0,Rng 0 256 y
 r1:I64 x.f1
 r2:I64 x.f2
theorem hmx:Tryz.prog.follows .mixedOrders=true:=by kernel_rfl
abbrev FN (f:Nat) (A:List AVal) (O:List (Nat×Option MObj)) (k:Nat) {ρ:Type} (y:Option ρ) (x:ρ→AVal) (o:ρ→List (Nat×Option MObj)):Prop:=∀ r,y=some r→Pv.Fn Tryz.prog f A O k (fun a b=>a=x r∧b=o r)
theorem FT {f:Nat} {fn:Func} {c:Code} {A:List AVal} {O:List (Nat×Option MObj)} {k:Nat} {ρ:Type} {y:Option ρ} {x:ρ→AVal} {o:ρ→List (Nat×Option MObj)} (keys:List Nat) (hf:Tryz.prog.funcs[f]? = some fn) (t:HT (fun q:Empty=>(nomatch q:Option ρ)) y) (hb:fn.body=some c:=by rfl) (hn:Nat.ble A.length fn.ntmps=true:=by rfl) (hk:t.chk ⟨Tryz.prog,fn.ntmps,fn,k,keys⟩ 0 (fun r=>.ret (x r) (o r)) (fun q=>nomatch q) c [] ⟨Z70 A 0,O,k⟩=t.sk ⟨Tryz.prog,fn.ntmps,fn,k,keys⟩ 0 (fun r=>.ret (x r) (o r)) (fun q=>nomatch q):=by kernel_rfl):FN f A O k y x o:=fun r H=>HT.fn H x o keys hf hb hn hmx t hk
abbrev qi:Int→AVal:=iV .i64
abbrev qu:Int→AVal:=iV .u64
section
variable {P:Program} {g:Nat} {A:List AVal} {O:List (Nat×Option MObj)} {f:Nat} {r:AVal} {o:List (Nat×Option MObj)} (a b n:Nat) (e:Enters P g) (z:Pv.Fn P g A O f (fun x y=>x=r∧y=o))
abbrev qh:HI:=hC [] [] [] [] e z
abbrev jA:HI:=hC [(0,0)] [(0,0)] [] [] e z
abbrev h1:HI:=hC [] [(0,n)] [] [n] e z
abbrev h2:HI:=hC [(a,0),(b,1)] [(0,a),(2,n)] [] [n] e z
abbrev h3:HI:=hC [] [] [n] [] e z
end
abbrev qe:=Z4p .i64
abbrev qv:=Z4p .u64
abbrev qb:=Z4p .u8
abbrev qx (a b:Int):Int:=((BitVec.toNat (BitVec.ofInt 64 a ^^^ BitVec.ofInt 64 b):Nat):Int)
abbrev qf (n:Nat):Im:=.sc (.func (.func n) #[] #[])
abbrev RW {α:Type} (w t:Nat) (e:α→List Im) (k:Nat) (x:List α):Nat×Option MObj:=(k,some (.row w t (x.map e)))
abbrev BW {α:Type} (t:Nat) (e:α→List AVal) (k:Nat) (x:α):Nat×Option MObj:=(k,some (.box t (e x)))
abbrev BX (t k:Nat) (x:List AVal):Nat×Option MObj:=(k,some (.box t x))
abbrev im {α:Type} (x:List α) (e:α→List Im):AVal:=.im (.row (x.map e))
abbrev clp (n a:Int):Int:=if(if n<a then n else a)>0 then(if n<a then n else a) else 0
abbrev mi (a b:Int):Int:=i64.wrap (Int.fdiv (u64.wrap (i64.wrap (a+b))) 2)
abbrev F0 (f:Nat) (A:List AVal) {ρ:Type} (y:Option ρ) (x:ρ→AVal):Prop:=FN f A [] 0 y x (fun _=>[])
abbrev _root_.Go.Pv.HT.lq {ρ X:Type} {g:X→Option ρ} {Y O:Type} {f:O→Option ρ} (lp:Lp Y O) (x0:Y) (inv:CI) (b:∀ g',Bd g' (lp.F g')) (a:Arm g f):HT g (lp.l x0>>=f):=.loop lp x0 inv [] [] b a
abbrev qs:=Pv.encStr
abbrev ln {α:Type} (x:List α):Int:=(x.length:Int)
abbrev _root_.Go.Pv.HT.ru {ρ X:Type} {g:X→Option ρ} {o:ρ} (i:CI) (t:Z1):HT g (some o):=.ret i [] [] t
abbrev _root_.Go.Pv.HT.rv {ρ X:Type} {g:X→Option ρ} {o:ρ} (t:Z1):HT g (some o):=.ret [] [] [] t
abbrev fgI (k:Nat) (ids:List Nat) (h:HI):HI:=⟨.more (xFzG k ids h.h),h.l⟩
def Z20.l1 (a0:List Zh) (b31:Zh) (x26 x41 x42:Int):Option Int:=if decide (x42<(b31.f1.length:Int)) then((at? b31.f1 x42)>>=fun b47=>Z20.l1 a0 b31 x26 (i64.wrap (x41+(i64.wrap ((i64.wrap ((b47.f1.f6.length:Int)+(b47.f1.f7.length:Int)))+1)))) (i64.wrap (x42+1))) else(some x41)
partial_fixpoint
def Z20.l0 (a0:List Zh) (x25 x26:Int):Option Int:=if decide (x26<(a0.length:Int)) then((at? a0 x26)>>=fun b31=>(Z20.l1 a0 b31 x26 (i64.wrap (x25+(i64.wrap ((b31.f0.size:Int)+1)))) 0)>>=fun x50=>Z20.l0 a0 x50 (i64.wrap (x26+1))) else(some x25)
partial_fixpoint
def Z20.f (a0:List Zh):Option Bool:=(Z20.l0 a0 0 0)>>=fun x51=>some (decide (x51≤1200))
theorem Z20.ok (a0:List Zh):F0 6 [.im (.row (a0.map Z7))] (Z20.f a0) (fun r=>bV r):=FT [] func6 (.r0<|.r0<|.rg [(1,hG Z7 a0)]<|.bl<|.lq (.c2 (Z20.l0.partial_correctness a0)) (0,0) [] (fun _=>.pr fun x25=>.one (fun x26=>⟨[(3,qi x25),(8,im a0 Z7),(9,qi (ln a0)),(10,qi x26)],[],0⟩) fun x26=>.r0<|.cd (fun c27=>.bl<|.el fun b31 p32 q33=>.rg [(0,hA Z7 p32 q33),(2,⟨.k 3,.n⟩)]<|.r0<|.rg [(2,hG Z5 b31.f1)]<|.bl<|.lq (.c2 (Z20.l1.partial_correctness a0 b31 x26)) (i64.wrap (x25+(i64.wrap ((b31.f0.size:Int)+1))),0) [] (fun _=>.pr fun x41=>.one (fun x42=>⟨[(3,qi x41),(8,im a0 Z7),(9,qi (ln a0)),(10,qi x26),(21,im b31.f1 Z5),(22,qi (ln b31.f1)),(23,qi x42)],[],0⟩) fun x42=>.r0<|.cd (fun c43=>.bl<|.el fun b47 p48 q49=>.rg [(0,hA Z5 p48 q49),(2,⟨.k 5,.n⟩)]<|.rg [(4,hG Z3 b47.f1.f6),(8,hG Z3 b47.f1.f7)]<|.r0<|.bk [] rfl)
 (fun c43=>.o []))
 (.st (.exit 2) (fun x50=>⟨[(3,qi x50),(8,im a0 Z7),(9,qi (ln a0)),(10,qi x26)],[],0⟩) fun x50=>.r0<|.bk [] rfl))
 (fun c27=>.o []))
 (.st (.exit 0) (fun x51=>⟨[(3,qi x51)],[],0⟩) fun x51=>.r0<|.rv ⟨[(2,bV (decide (x51≤1200)))],[],0⟩))
def Z12.l1 (a0:List Z0d) (b87:Z0d) (x82:Int) (x94:List Int) (x95:Int):Option (List Int):=if decide (x95<2) then((((chk (0≤x95∧x95<2))>>=fun _=>if x95==0 then(some b87.f0) else(some b87.f1)):Option ByteArray)>>=fun aa=>(chk ((x94.length+[u8.wrap (aa.size:Int)].length)*1≤140737488355328))>>=fun _=>(chk (((x94++[u8.wrap (aa.size:Int)]).length+aa.size)*1≤140737488355328))>>=fun _=>Z12.l1 a0 b87 x82 ((x94++[u8.wrap (aa.size:Int)])++Z2d aa) (i64.wrap (x95+1))) else(some x94)
partial_fixpoint
def Z12.l0 (a0:List Z0d) (x81:List Int) (x82:Int):Option (List Int):=if decide (x82<(a0.length:Int)) then((at? a0 x82)>>=fun b87=>(Z12.l1 a0 b87 x82 x81 0)>>=fun aa=>Z12.l0 a0 aa (i64.wrap (x82+1))) else(some x81)
partial_fixpoint
def Z12.f (a0:List Z0d):Option ByteArray:=(Z12.l0 a0 [] 0)>>=fun aa=>some (Z7a aa)
abbrev q0:=@RW _ 1 5 qb
theorem Z12.ok (a0:List Z0d):F0 27 [.im (.row (a0.map Z2s))] (Z12.f a0) (fun r=>sV r):=FT [] func27 (.r0<|.r0<|.rg [(1,hG Z2s a0)]<|.bl<|.loop (.c2 (Z12.l0.partial_correctness a0)) ([],0) [] [] [10] (fun _=>.pr fun x81=>.one (fun x82=>⟨[(3,.own 10),(8,im a0 Z2s),(9,qi (ln a0)),(10,qi x82)],[q0 10 x81],0⟩) fun x82=>.r0<|.cd (fun c83=>.bl<|.el fun b87 p88 q89=>.rg [(0,hA Z2s p88 q89),(2,⟨.k 11,.n⟩)]<|.r0<|.bl<|.lq (.c2 (Z12.l1.partial_correctness a0 b87 x82)) (x81,0) [(10,15)] (fun _=>.pr fun x94=>.one (fun x95=>⟨[(3,.own 15),(8,im a0 Z2s),(9,qi (ln a0)),(10,qi x82),(18,.agg (aLabel b87)),(19,qi x95)],[q0 15 x94],0⟩) fun x95=>.r0<|.cd (fun c96=>.bl<|.join (.ck fun c99=>.sp (fun aa=>.rg [(0,⟨.more (xIdx 0),.c (p:=x95=((0:Nat):Int)) (by simpa using aa) .n⟩)]<|.o [(15,16)])
 (fun aa=>.rg [(0,⟨.more (xIdx 1),.c (p:=x95=((1:Nat):Int)) (by have:=c99;simp only[beq_eq_false_iff_ne] at *;omega) .n⟩)]<|.o [(15,16)]))
 (.st .normal (fun ab=>⟨[(3,.own 16),(7,sV ab),(8,im a0 Z2s),(9,qi (ln a0)),(10,qi x82),(18,.agg (aLabel b87)),(19,qi x95)],[q0 16 x94],0⟩) fun ab=>.ck fun ac=>.ck fun ae=>.rg [(4,hQ 17 qb ([u8.wrap (ab.size:Int)]:List Int)),(5,hP 18 qb 1 ac),(7,⟨.more (xAppStr 19 (((x94++[u8.wrap (ab.size:Int)])++Z2d ab).map qb)),.c (p:=((x94++[u8.wrap (ab.size:Int)])++Z2d ab).map qb=(x94++[u8.wrap (ab.size:Int)]).map qb++(Z2d ab).map qb) (by simp) (.c (p:=(((x94++[u8.wrap (ab.size:Int)]).map qb).length+ab.size)*1≤140737488355328) (by simpa using ae) .n)⟩)]<|.r0<|.bk [(19,15)] rfl))
 (fun c96=>.o [(15,20)]))
 (.st (.exit 2) (fun af=>⟨[(3,.own 20),(8,im a0 Z2s),(9,qi (ln a0)),(10,qi x82)],[q0 20 af],0⟩) fun af=>.r0<|.bk [(20,10)] rfl))
 (fun c83=>.o [(10,21)]))
 (.st (.exit 0) (fun ah=>⟨[(3,.own 21)],[q0 21 ah],0⟩) fun ah=>.rg [(1,hT (xStr ah) ah)]<|.rv ⟨[(2,sV (Z7a ah))],[],0⟩))
def Z25.f (a0:Int):Option Unit:=(chk (0≤(u64.wrap ((2:Int)*(u64.wrap ((if(if(4:Int)<a0 then(4:Int) else a0)>0 then(if(4:Int)<a0 then(4:Int) else a0) else(0:Int))))))))>>=fun _=>some ()
theorem Z25.ok (a0:Int):F0 20 [qi a0] (Z25.f a0) (fun r=>qi (i64.wrap ((64:Int)*2 ^ (min (Int.toNat (u64.wrap ((2:Int)*(u64.wrap ((clp 4 a0)))))) 64)))):=FT [] func20 (.r0<|.ck fun aa=>.rg [(1,⟨.more xMin,.n⟩),(2,⟨.more xMax,.n⟩),(5,hN (p1 aa))]<|.rv ⟨[(2,qi (i64.wrap ((64:Int)*2 ^ (min (Int.toNat (u64.wrap ((2:Int)*(u64.wrap ((clp 4 a0)))))) 64))))],[],0⟩)
def Z53.f (a0 a1:Int):Option Unit:=(Z25.f a0)>>=fun aa=>(chk ((i64.wrap ((64:Int)*2 ^ (min (u64.wrap ((2:Int)*(u64.wrap ((if(if(4:Int)<a0 then(4:Int) else a0)>0 then(if(4:Int)<a0 then(4:Int) else a0) else(0:Int)))))).toNat 64)))≠0))>>=fun _=>some ()
theorem Z53.ok (a0 a1:Int):F0 22 [qi a0,qi a1] (Z53.f a0 a1) (fun r=>qi (i64.wrap (a1-(Int.tmod a1 (i64.wrap ((64:Int)*2 ^ (min (Int.toNat (u64.wrap ((2:Int)*(u64.wrap ((clp 4 a0)))))) 64))))))):=FT [] func22 (.r0<|.bd fun aa ab=>.ck fun ac=>.rg [(3,qh call20 (Z25.ok a0 aa ab)),(4,hN (p1 ac))]<|.rv ⟨[(4,qi (i64.wrap (a1-(Int.tmod a1 (i64.wrap ((64:Int)*2 ^ (min (Int.toNat (u64.wrap ((2:Int)*(u64.wrap ((clp 4 a0)))))) 64)))))))],[],0⟩)
def Z89.f (a0:Int):Option Int:=((if decide (a0≥4294967296) then(some (Int.fdiv a0 4294967296,32)) else(some (a0,0))):Option (Int×Int))>>=fun | (aa,ab)=>(((if decide (aa≥65536) then(some (Int.fdiv aa 65536,i64.wrap (ab+16))) else(some (aa,ab))):Option (Int×Int))>>=fun | (ac,ae)=>(((if decide (ac≥256) then(some (Int.fdiv ac 256,i64.wrap (ae+8))) else(some (ac,ae))):Option (Int×Int))>>=fun | (af,ah)=>((chk (0≤(u8.wrap (af))∧(u8.wrap (af))<((⟨#[0,1,2,2,3,3,3,3,4,4,4,4,4,4,4,4,5,5,5,5,5,5,5,5,5,5,5,5,5,5,5,5,6,6,6,6,6,6,6,6,6,6,6,6,6,6,6,6,6,6,6,6,6,6,6,6,6,6,6,6,6,6,6,6,7,7,7,7,7,7,7,7,7,7,7,7,7,7,7,7,7,7,7,7,7,7,7,7,7,7,7,7,7,7,7,7,7,7,7,7,7,7,7,7,7,7,7,7,7,7,7,7,7,7,7,7,7,7,7,7,7,7,7,7,7,7,7,7,8,8,8,8,8,8,8,8,8,8,8,8,8,8,8,8,8,8,8,8,8,8,8,8,8,8,8,8,8,8,8,8,8,8,8,8,8,8,8,8,8,8,8,8,8,8,8,8,8,8,8,8,8,8,8,8,8,8,8,8,8,8,8,8,8,8,8,8,8,8,8,8,8,8,8,8,8,8,8,8,8,8,8,8,8,8,8,8,8,8,8,8,8,8,8,8,8,8,8,8,8,8,8,8,8,8,8,8,8,8,8,8,8,8,8,8,8,8,8,8,8,8,8,8,8,8,8,8]⟩:ByteArray).size:Int)))>>=fun _=>some (i64.wrap (ah+(i64.wrap (bt (⟨#[0,1,2,2,3,3,3,3,4,4,4,4,4,4,4,4,5,5,5,5,5,5,5,5,5,5,5,5,5,5,5,5,6,6,6,6,6,6,6,6,6,6,6,6,6,6,6,6,6,6,6,6,6,6,6,6,6,6,6,6,6,6,6,6,7,7,7,7,7,7,7,7,7,7,7,7,7,7,7,7,7,7,7,7,7,7,7,7,7,7,7,7,7,7,7,7,7,7,7,7,7,7,7,7,7,7,7,7,7,7,7,7,7,7,7,7,7,7,7,7,7,7,7,7,7,7,7,7,8,8,8,8,8,8,8,8,8,8,8,8,8,8,8,8,8,8,8,8,8,8,8,8,8,8,8,8,8,8,8,8,8,8,8,8,8,8,8,8,8,8,8,8,8,8,8,8,8,8,8,8,8,8,8,8,8,8,8,8,8,8,8,8,8,8,8,8,8,8,8,8,8,8,8,8,8,8,8,8,8,8,8,8,8,8,8,8,8,8,8,8,8,8,8,8,8,8,8,8,8,8,8,8,8,8,8,8,8,8,8,8,8,8,8,8,8,8,8,8,8,8,8,8,8,8,8,8]⟩:ByteArray) (u8.wrap (af)))))))))
theorem Z89.ok (a0:Int):F0 139 [qu a0] (Z89.f a0) (fun r=>qi r):=FT [] func139 (.r0<|.r0<|.join (.cd (fun aa=>.rg [(1,hK 32)]<|.r0<|.o [])
 (fun aa=>.o []))
 (.pr fun ab=>.st .normal (fun ac=>⟨[(0,qu ab),(2,qi ac)],[],0⟩) fun ac=>.r0<|.join (.cd (fun ae=>.rg [(1,hK 16)]<|.r0<|.o [])
 (fun ae=>.o []))
 (.pr fun af=>.st .normal (fun ah=>⟨[(0,qu af),(2,qi ah)],[],0⟩) fun ah=>.r0<|.join (.cd (fun ai=>.rg [(1,hK 8)]<|.r0<|.o [])
 (fun ai=>.o []))
 (.pr fun aj=>.st .normal (fun ak=>⟨[(0,qu aj),(2,qi ak)],[],0⟩) fun ak=>.ck fun al=>.rg [(3,hN (p2 al))]<|.rv ⟨[(2,qi (i64.wrap (ak+(i64.wrap (bt (⟨#[0,1,2,2,3,3,3,3,4,4,4,4,4,4,4,4,5,5,5,5,5,5,5,5,5,5,5,5,5,5,5,5,6,6,6,6,6,6,6,6,6,6,6,6,6,6,6,6,6,6,6,6,6,6,6,6,6,6,6,6,6,6,6,6,7,7,7,7,7,7,7,7,7,7,7,7,7,7,7,7,7,7,7,7,7,7,7,7,7,7,7,7,7,7,7,7,7,7,7,7,7,7,7,7,7,7,7,7,7,7,7,7,7,7,7,7,7,7,7,7,7,7,7,7,7,7,7,7,8,8,8,8,8,8,8,8,8,8,8,8,8,8,8,8,8,8,8,8,8,8,8,8,8,8,8,8,8,8,8,8,8,8,8,8,8,8,8,8,8,8,8,8,8,8,8,8,8,8,8,8,8,8,8,8,8,8,8,8,8,8,8,8,8,8,8,8,8,8,8,8,8,8,8,8,8,8,8,8,8,8,8,8,8,8,8,8,8,8,8,8,8,8,8,8,8,8,8,8,8,8,8,8,8,8,8,8,8,8,8,8,8,8,8,8,8,8,8,8,8,8,8,8,8,8,8,8]⟩:ByteArray) (u8.wrap (aj)))))))],[],0⟩))))
def Za6.f (a0:Int):Option Int:=(Z89.f a0)>>=fun aa=>some aa
theorem Za6.ok (a0:Int):F0 77 [qu a0] (Za6.f a0) (fun r=>qi r):=FT [] func77 (.r0<|.cl (rfl:false=false)<|.bd fun aa ab=>.rg [(1,qh call139 (Z89.ok a0 aa ab))]<|.rv ⟨[(2,qi aa)],[],0⟩)
def Z44.f (a0:Int):Option Unit:=some ()
theorem Z44.ok (a0:Int):F0 78 [qi a0] (Z44.f a0) (fun r=>bV (a0 != a0)):=FT [] func78 (.r0<|.r0<|.rv ⟨[(2,bV (a0 != a0))],[],0⟩)
def Z50.f (a0 a1:Int):Option Int:=(Z44.f a0)>>=fun aa=>(Z44.f a1)>>=fun ab=>if a0 != a0 then(if a1 != a1 then(some 0) else(some (-1))) else(if a1 != a1 then(some 1) else(if decide (a0<a1) then(some (-1)) else(if decide (a0>a1) then(some 1) else(some 0))))
theorem Z50.ok (a0 a1:Int):F0 30 [qi a0,qi a1] (Z50.f a0 a1) (fun r=>qi r):=FT [] func30 (.r0<|.bd fun aa ab=>.rg [(1,qh call78 (Z44.ok a0 aa ab))]<|.bd fun ac ae=>.rg [(1,qh call78 (Z44.ok a1 ac ae))]<|.r0<|.cd (fun af=>.r0<|.cd (fun ah=>.r0<|.rv ⟨[(4,qi 0)],[],0⟩)
 (fun ah=>.r0<|.rv ⟨[(4,qi (-1))],[],0⟩))
 (fun af=>.r0<|.cd (fun ai=>.r0<|.rv ⟨[(4,qi 1)],[],0⟩)
 (fun ai=>.r0<|.cd (fun aj=>.r0<|.rv ⟨[(4,qi (-1))],[],0⟩)
 (fun aj=>.r0<|.cd (fun ak=>.r0<|.rv ⟨[(4,qi 1)],[],0⟩)
 (fun ak=>.r0<|.rv ⟨[(4,qi 0)],[],0⟩)))))
def Z6y.f (a0 a1:Z2):Option Int:=(Z50.f a0.f0.f0 a1.f0.f0)>>=fun aa=>some aa
theorem Z6y.ok (a0 a1:Z2):F0 29 [.agg (Z4r ⟨a0.f0.f0,a0.f0.f1,a0.f0.f2,a0.f1⟩),.agg (Z4r ⟨a1.f0.f0,a1.f0.f1,a1.f0.f2,a1.f1⟩)] (Z6y.f a0 a1) (fun r=>qi r):=FT [] func29 (.rg [(0,⟨.k 0,.n⟩),(1,⟨.k 1,.n⟩)]<|.bd fun aa ab=>.rg [(6,qh call30 (Z50.ok a0.f0.f0 a1.f0.f0 aa ab))]<|.rv ⟨[(4,qi aa)],[],0⟩)
def Zg.l1 (a1 a2 aa:Int) (ab:List Z2) (ac:Int):Option (List Z2):=((if decide (ac>a1) then((at? ab ac)>>=fun ae=>(at? ab (i64.wrap (ac-1)))>>=fun af=>(Z6y.f ae af)>>=fun ah=>some (decide (ah<0))) else(some false)):Option Bool)>>=fun ai=>if ai=true then((at? ab (i64.wrap (ac-1)))>>=fun aj=>(at? ab ac)>>=fun ak=>(at? (ab.set ac.toNat aj) (i64.wrap (ac-1)))>>=fun al=>Zg.l1 a1 a2 aa ((ab.set ac.toNat aj).set (i64.wrap (ac-1)).toNat ak) (i64.wrap (ac-1))) else(some ab)
partial_fixpoint
def Zg.l0 (a1 a2:Int) (aa:List Z2) (ab:Int):Option (List Z2):=if decide (ab<a2) then((Zg.l1 a1 a2 ab aa ab)>>=fun ac=>Zg.l0 a1 a2 ac (i64.wrap (ab+1))) else(some aa)
partial_fixpoint
def Zg.f (a0:List Z2) (a1 a2:Int):Option (List Z2):=(Zg.l0 a1 a2 a0 (i64.wrap (a1+1)))>>=fun aa=>some aa
abbrev q1:=@RW _ 4 36 Zn
theorem Zg.ok (a0:List Z2) (a1 a2:Int):FN 130 [.own 0,qi a1,qi a2,.im (qf 29)] [q1 0 a0] 1 (Zg.f a0 a1 a2) (fun r=>.tup []) (fun r=>[q1 0 r]):=FT [0] func130 (.r0<|.bl<|.lq (.c2 (Zg.l0.partial_correctness a1 a2)) (a0,i64.wrap (a1+1)) [(0,0)] (fun _=>.pr fun aa=>.one (fun ab=>⟨[(0,.own 0),(1,qi a1),(2,qi a2),(3,.im (qf 29)),(8,qi ab)],[q1 0 aa],1⟩) fun ab=>.r0<|.cd (fun ac=>.bl<|.r0<|.bl<|.lq (.c2 (Zg.l1.partial_correctness a1 a2 ab)) (aa,ab) [(0,0)] (fun _=>.pr fun ae=>.one (fun af=>⟨[(0,.own 0),(1,qi a1),(2,qi a2),(3,.im (qf 29)),(8,qi ab),(9,qi af)],[q1 0 ae],1⟩) fun af=>.join (.sp (fun ah=>.el fun ai aj ak=>.el fun al am ao=>.bd fun ap aq=>.rg [(3,hB ah),(7,hX Zn aj ak),(8,hL Zn ak),(12,hX Zn am ao),(13,hL Zn ao),(14,qh call29 (Z6y.ok ai al ap aq))]<|.o [(0,0)])
 (fun ah=>.rg [(3,hB ah)]<|.o [(0,0)]))
 (.st .normal (fun ar=>⟨[(0,.own 0),(1,qi a1),(2,qi a2),(3,.im (qf 29)),(8,qi ab),(9,qi af),(34,bV ar)],[q1 0 ae],1⟩) fun ar=>.cd (fun au=>.bl<|.el fun av ax az=>.el fun a8 ba bb=>.el fun bc be bf=>.rg [(8,hX Zn ax az),(9,hL Zn az),(12,hX Zn ba bb),(13,hL Zn bb),(14,hX Zn ba bb),(15,hS Zn av 0 [iI .i64 av.f0.f0,iI .i64 av.f0.f1,iI .i64 av.f0.f2,.row (av.f1.map Z7)] bb),(16,hX Zn be bf),(17,hS Zn a8 0 [iI .i64 a8.f0.f0,iI .i64 a8.f0.f1,iI .i64 a8.f0.f2,.row (a8.f1.map Z7)] bf)]<|.r0<|.bk [(0,0)] rfl)
 (fun au=>.o [(0,0)])))
 (.st (.exit 2) (fun bg=>⟨[(0,.own 0),(1,qi a1),(2,qi a2),(3,.im (qf 29)),(8,qi ab)],[q1 0 bg],1⟩) fun bg=>.r0<|.bk [(0,0)] rfl))
 (fun ac=>.o [(0,0)]))
 (.st (.exit 0) (fun bh=>⟨[],[q1 0 bh],1⟩) fun bh=>.ru [(0,0)] ⟨[],[q1 0 bh],1⟩))
def Z05.l0 (a0:List Z2) (a1 a2 a3:Int) (aa:Unit):Option (List Z2):=if decide ((i64.wrap (a2-a1))≤12) then((Zg.f a0 a1 a2)>>=fun ab=>some ab) else(none)
def Z05.f (a0:List Z2) (a1 a2 a3:Int):Option (List Z2):=(Z05.l0 a0 a1 a2 a3 ())>>=fun rr=>some rr
theorem Z05.ok (a0:List Z2) (a1 a2 a3:Int):FN 76 [.own 0,qi a1,qi a2,qi a3,.im (qf 29)] [q1 0 a0] 1 (Z05.f a0 a1 a2 a3) (fun r=>.tup []) (fun r=>[q1 0 r]):=FT [0] func76 (.r0<|.r0<|.bl<|.lq (.no (fun p=>Z05.l0 a0 a1 a2 a3 p)) () [(0,0)] (fun _=>.one (fun aa=>⟨[(0,.own 0),(1,qi a1),(2,qi a2),(3,qi a3),(4,.im (qf 29)),(10,bV true),(11,bV true)],[q1 0 a0],1⟩) fun aa=>.bl<|.r0<|.r0<|.cd (fun ab=>.bd fun ac ae=>.rg [(4,jA call130 (Zg.ok a0 a1 a2 ac ae))]<|.ru [(0,0)] ⟨[],[q1 0 ac],1⟩)
 (fun ab=>.no))
 (.rt (fun rr=>.tup []) (fun rr=>[q1 0 rr])))
def Zq.f (a0:List Z2):Option (List Z2):=(Za6.f (u64.wrap (a0.length:Int)))>>=fun aa=>(Z05.f a0 0 (a0.length:Int) aa)>>=fun ab=>some ab
theorem Zq.ok (a0:List Z2):FN 28 [.own 0,.im (qf 29)] [q1 0 a0] 1 (Zq.f a0) (fun r=>.tup []) (fun r=>[q1 0 r]):=FT [0] func28 (.rg [(1,hG Zn a0)]<|.bd fun aa ab=>.bd fun ac ae=>.rg [(4,qh call77 (Za6.ok (u64.wrap (ln a0)) aa ab)),(6,jA call76 (Z05.ok a0 0 (ln a0) aa ac ae))]<|.ru [(0,0)] ⟨[],[q1 0 ac],1⟩)
def Za.add (bk:Z2) (k:ByteArray) (s:Z6):Option Z2:=match bk.f1.getLast? with
 | none=>some ⟨bk.f0,[⟨k,[s]⟩]⟩
 | some r=>(chk ((bk.f1.length+1)*40≤140737488355328))>>=fun _=>if r.f0.toList==k.toList then(chk ((r.f1.length+1)*104≤140737488355328))>>=fun _=>some ⟨bk.f0,bk.f1.dropLast++[⟨r.f0,r.f1++[s]⟩]⟩ else some ⟨bk.f0,bk.f1++[⟨k,[s]⟩]⟩
abbrev Za.wd (a0:Int):Int:=i64.wrap ((64:Int)*2 ^ (min (Int.toNat (u64.wrap ((2:Int)*(u64.wrap ((if(if(4:Int)<a0 then(4:Int) else a0)>0 then(if(4:Int)<a0 then(4:Int) else a0) else(0:Int))))))) 64))
abbrev Za.lo (a0 a1:Int):Int:=i64.wrap (a1-(Int.tmod a1 (i64.wrap ((64:Int)*2 ^ (min (Int.toNat (u64.wrap ((2:Int)*(u64.wrap ((if(if(4:Int)<a0 then(4:Int) else a0)>0 then(if(4:Int)<a0 then(4:Int) else a0) else(0:Int))))))) 64)))))
abbrev Za.new (a0 lo:Int):Z2:=⟨⟨lo,i64.wrap (lo+Za.wd a0),(if(if(4:Int)<a0 then(4:Int) else a0)>0 then(if(4:Int)<a0 then(4:Int) else a0) else(0:Int))⟩,[]⟩
def Za.l1 (a0:Int) (b:Zh) (x1:List (Int×Z2)) (x2:Int):Option (List (Int×Z2)):=if decide (x2<(b.f1.length:Int)) then((at? b.f1 x2)>>=fun s=>(Z53.f a0 s.f0)>>=fun _=>(Z25.f a0)>>=fun _=>(Za.add ((mget x1 (Za.lo a0 s.f0)).getD (Za.new a0 (Za.lo a0 s.f0))) b.f0 s)>>=fun bk=>Za.l1 a0 b (mput x1 (Za.lo a0 s.f0) bk) (i64.wrap (x2+1))) else some x1
partial_fixpoint
def Za.l0 (a0:Int) (a1:List (Zh)) (x1:List (Int×Z2)) (x2:Int):Option (List (Int×Z2)):=if decide (x2<(a1.length:Int)) then((at? a1 x2)>>=fun b=>(Za.l1 a0 b x1 0)>>=fun y=>Za.l0 a0 a1 y (i64.wrap (x2+1))) else some x1
partial_fixpoint
noncomputable def Za.f (a0:Int) (a1:List (Zh)):Option (List (Z2)):=(Za.l0 a0 a1 [] 0)>>=fun y=>(chk (y.length*48≤140737488355328))>>=fun _=>(rchk (fun(p:List (Int×Z2)) (_:Unit)=>Zq.f (p.map (·.2))) y ())>>=fun r=>some r
def Za.obs (bk:Z2):List (Nat×MObj):=match bk.f1.getLast? with
 | none=>[(40,.box 36 [qi bk.f0.f0,qi bk.f0.f1,qi bk.f0.f2,.none0])]
 | some r=>[(40,.box 36 [qi bk.f0.f0,qi bk.f0.f1,qi bk.f0.f2,.own 41]),(41,.arow 2 30 (bk.f1.dropLast.map Z7) [[sV r.f0,.own 42]]),(42,.row 9 52 (r.f1.map Z5))]
theorem Za.obs0 (m:Zt):Za.obs ⟨m,[]⟩=[(40,.box 36 [qi m.f0,qi m.f1,qi m.f2,.none0])]:=rfl
theorem Za.obs1 (m:Zt) (l:List (Zh)) (r:Zh):Za.obs ⟨m,l++[r]⟩=[(40,.box 36 [qi m.f0,qi m.f1,qi m.f2,.own 41]),(41,.arow 2 30 (l.map Z7) [[sV r.f0,.own 42]]),(42,.row 9 52 (r.f1.map Z5))]:=by
 unfold Za.obs;simp
theorem Za.one (a0:Int):True:=trivial
abbrev q2:=@RW _ 9 52 Z5
set_option maxHeartbeats 400000 in
theorem Za.ok (a0:Int) (a1:List (Zh)) (r:List (Z2)) (H:Za.f a0 a1=some r):Pv.Fn Tryz.prog 9 [qi a0,.im (.row (a1.map Z7))] [] 0 (fun x o=>x = .own 0∧o=[q1 0 r]):=by
 unfold Za.f at H;obtain⟨y,H0,H⟩:=Z37 H;obtain⟨d1,H⟩:=Z5n H;obtain⟨r',HS,H⟩:=Z37 H;obtain rfl:=sj H;refine Fn.bodyK [0] func9 rfl rfl (fun Γ hP hn => ?_);have hm:Tryz.prog.follows .mixedOrders=true:=by kernel_rfl
 replace hn:Γ.n=129:=hn;refine sO hP hn hm [] [] [0,1] [] [] ?_;refine sO hP hn hm [(0,.more (xMk 10))] [(5,.mown 10)] [0,1,5] [(10,some (.map (mE (vkI .i64) Im.sc [])))] [10] ?_;refine AWp.bag0 ?_;refine GWp.seq ?_;refine GWp.seq ?_;refine gR hP hn hm [(1,.any (qi (a1.length:Int)))] [(18,.im (.row (a1.map Z7))),(19,qi (a1.length:Int)),(20,qi 0)] [0,5,18,19,20] [] [10] [((a1.map Z7).length:Int)=(a1.length:Int)] ⟨by rw[Z3v],trivial⟩ ?_;refine GWp.block ?_;refine GWp.loopB (fun body0 hbody0 => ?_);have main0:∀ x1 x2 o,Za.l0 a0 a1 x1 x2=some o→∀ (q:QL Int (Z2)) (Bs:List (List Nat)),qS q=x1→GLWp Γ body0 (fun e s g=>e = .exit 0∧∃ (q:QL Int (Z2)) (Bs:List (List Nat)),qS q=o∧s=⟨[(5,.mown 10)],[(10,some (.map (mE (vkI .i64) Im.sc (qM q))))],0⟩∧g=bag (qB (.ptr 40 0 0) Za.obs q) Bs) ⟨[(0,qi a0),(5,.mown 10),(18,.im (.row (a1.map Z7))),(19,qi (a1.length:Int)),(20,qi x2)],[(10,some (.map (mE (vkI .i64) Im.sc (qM q))))],0⟩ (bag (qB (.ptr 40 0 0) Za.obs q) Bs):=by
  intro x1 x2 o e1;refine Za.l0.partial_correctness a0 a1 (motive:=fun x1 x2 o=>∀ (q:QL Int (Z2)) (Bs:List (List Nat)),qS q=x1→GLWp Γ body0 (fun e s g=>e = .exit 0∧∃ (q:QL Int (Z2)) (Bs:List (List Nat)),qS q=o∧s=⟨[(5,.mown 10)],[(10,some (.map (mE (vkI .i64) Im.sc (qM q))))],0⟩∧g=bag (qB (.ptr 40 0 0) Za.obs q) Bs) ⟨[(0,qi a0),(5,.mown 10),(18,.im (.row (a1.map Z7))),(19,qi (a1.length:Int)),(20,qi x2)],[(10,some (.map (mE (vkI .i64) Im.sc (qM q))))],0⟩ (bag (qB (.ptr 40 0 0) Za.obs q) Bs)) ?_ _ _ _ e1;clear H0 e1 o x1 x2;intro self ih x1 x2 o H q Bs hq;subst hbody0;refine GLWp.round ?_;refine gS hP hn hm [] [(21,bV (decide (x2<(a1.length:Int))))] [0,5,18,19,20,21] [] [10] [] trivial ?_;refine GWp.seq ?_;refine GWp.cond (decide (x2<(a1.length:Int))) (by kernel_rfl) (fun c1 => ?_) (fun c1 => ?_)
  ·replace H:=iT c1 H
   refine GWp.skip ?_;refine GWp.seq ?_;refine GWp.block ?_;obtain⟨b,p1,hq1,H⟩:=at_of H;obtain⟨y1,H1,H⟩:=Z37 H;refine gS hP hn hm [(0,.c (Z7 b)),(2,.k 30)] [(7,.ptr 30 0 0)] [0,5,7,18,19,20] [(30,some (.box 30 (Z4s b)))] [10,30] [_,_] ⟨p1,Z7u Z7 hq1,trivial⟩ ?_;refine gS hP hn hm [(2,.any (qi (b.f1.length:Int)))] [(25,.im (.row (b.f1.map Z5))),(26,qi (b.f1.length:Int)),(27,qi 0)] [0,5,7,18,19,20,25,26,27] [] [10,30] [((b.f1.map Z5).length:Int)=(b.f1.length:Int)] ⟨by rw[Z3v],trivial⟩ ?_;refine GWp.block ?_;refine GWp.loopB (fun body1 hbody1 => ?_);have main1:∀ z1 z2 o1,Za.l1 a0 b z1 z2=some o1→∀ (q:QL Int (Z2)) (Bs:List (List Nat)),qS q=z1→GLWp Γ body1 (fun e s g=>e = .exit 2∧∃ (q:QL Int (Z2)) (Bs:List (List Nat)),qS q=o1∧s=⟨[(0,qi a0),(5,.mown 10),(18,.im (.row (a1.map Z7))),(19,qi (a1.length:Int)),(20,qi x2)],[(10,some (.map (mE (vkI .i64) Im.sc (qM q))))],0⟩∧g=bag (qB (.ptr 40 0 0) Za.obs q) Bs) ⟨[(0,qi a0),(5,.mown 10),(7,.ptr 30 0 0),(18,.im (.row (a1.map Z7))),(19,qi (a1.length:Int)),(20,qi x2),(25,.im (.row (b.f1.map Z5))),(26,qi (b.f1.length:Int)),(27,qi z2)],[(10,some (.map (mE (vkI .i64) Im.sc (qM q)))),(30,some (.box 30 (Z4s b)))],0⟩ (bag (qB (.ptr 40 0 0) Za.obs q) Bs):=by
    intro z1 z2 o1 e2;refine Za.l1.partial_correctness a0 b (motive:=fun z1 z2 o1=>∀ (q:QL Int (Z2)) (Bs:List (List Nat)),qS q=z1→GLWp Γ body1 (fun e s g=>e = .exit 2∧∃ (q:QL Int (Z2)) (Bs:List (List Nat)),qS q=o1∧s=⟨[(0,qi a0),(5,.mown 10),(18,.im (.row (a1.map Z7))),(19,qi (a1.length:Int)),(20,qi x2)],[(10,some (.map (mE (vkI .i64) Im.sc (qM q))))],0⟩∧g=bag (qB (.ptr 40 0 0) Za.obs q) Bs) ⟨[(0,qi a0),(5,.mown 10),(7,.ptr 30 0 0),(18,.im (.row (a1.map Z7))),(19,qi (a1.length:Int)),(20,qi x2),(25,.im (.row (b.f1.map Z5))),(26,qi (b.f1.length:Int)),(27,qi z2)],[(10,some (.map (mE (vkI .i64) Im.sc (qM q)))),(30,some (.box 30 (Z4s b)))],0⟩ (bag (qB (.ptr 40 0 0) Za.obs q) Bs)) ?_ _ _ _ e2;clear H1 H hq q Bs e2 o1 z1 z2;intro self1 ih1 z1 z2 o1 H q Bs hq;subst hbody1;refine GLWp.round ?_;refine gS hP hn hm [] [(28,bV (decide (z2<(b.f1.length:Int))))] [0,5,7,18,19,20,25,26,27,28] [] [10,30] [] trivial ?_;refine GWp.seq ?_;refine GWp.cond (decide (z2<(b.f1.length:Int))) (by kernel_rfl) (fun c2 => ?_) (fun c2 => ?_)
    ·replace H:=iT c2 H
     refine GWp.skip ?_;refine GWp.seq ?_;refine GWp.block ?_;obtain⟨s,p2,hq2,H⟩:=at_of H;obtain⟨u1,e3,H⟩:=Z37 H;obtain⟨u2,e4,H⟩:=Z37 H;obtain⟨bk',e5,H⟩:=Z37 H;refine gS hP hn hm [(0,.c (Z5 s)),(2,.k 31)] [(9,.ptr 31 0 0)] [0,5,7,9,18,19,20,25,26,27] [(31,some (.box 52 (aSample s)))] [10,30,31] [_,_] ⟨p2,Z7u Z5 hq2,trivial⟩ ?_;refine gS hP hn hm [(3,.call [] [] [] [] 0 (qi (Za.lo a0 s.f0)) [])] [(10,qi (Za.lo a0 s.f0))] [0,5,7,9,10,18,19,20,25,26,27] [] [10,30,31] [_,Pv.Fn Tryz.prog 22 [qi a0,qi s.f0] [] 0 (fun x o=>x=qi (Za.lo a0 s.f0)∧o=[])] ⟨call22,Z53.ok a0 s.f0 u1 e3,trivial⟩ ?_;refine gS hP hn hm [(2,.more (xLook (vkI .i64) Im.sc (qM q) (Za.lo a0 s.f0) (.pointer none)))] [(11,.im (.sc ((mget (qM q) (Za.lo a0 s.f0)).getD (.pointer none))))] [0,5,7,9,10,11,18,19,20,25,26,27] [] [10,30,31] [KeyOK Tryz.prog 2 (vkI .i64),mE (vkI .i64) Im.sc (qM q)=mE (vkI .i64) Im.sc (qM q),valA (qi (Za.lo a0 s.f0))=some (vkI .i64 (Za.lo a0 s.f0)),Im.sc (.pointer none)=Im.sc (.pointer none)] ⟨key_int (by kernel_rfl),rfl,rfl,rfl,trivial⟩ ?_;generalize hlo:Za.lo a0 s.f0=lo at *;refine GWp.seq ?_;refine GWp.mono (Q:=fun e s' g=>e = .normal∧∃ (q':QL Int (Z2)) (Bs':List (List Nat)) (i:Nat) (v:Value),q'[i]? = some ((lo,(mget (qS q) lo).getD (Za.new a0 lo)),v)∧(∀ c,mput (qS q) lo c=qS (q'.set i ((lo,c),v)))∧s'=⟨[(0,qi a0),(5,.mown 10),(7,.ptr 30 0 0),(9,.ptr 31 0 0),(11,.im (.sc v)),(18,.im (.row (a1.map Z7))),(19,qi (a1.length:Int)),(20,qi x2),(25,.im (.row (b.f1.map Z5))),(26,qi (b.f1.length:Int)),(27,qi z2)],[(10,some (.map (mE (vkI .i64) Im.sc (qM q')))),(30,some (.box 30 (Z4s b))),(31,some (.box 52 (aSample s)))],0⟩∧g=bag (qB (.ptr 40 0 0) Za.obs q') Bs') ?_ ?_
     ·rcases q_get lo q with ⟨h1,h2,h3⟩ | ⟨i,bk,v,h1,h2,h3,h4⟩
      ·rw[h2]
       refine gS hP hn hm [(1,.more xPNil)] [(39,bV true)] [0,5,7,9,10,11,18,19,20,25,26,27,39] [] [10,30,31] [] trivial ?_;refine GWp.cond true (by kernel_rfl) (fun _ => ?_) (fun h=>nomatch h);refine GWp.seq ?_;refine gR hP hn hm [(3,.call [] [] [] [] 0 (qi (Za.wd a0)) []),(6,.more xMin),(7,.more xMax),(10,.k 40)] [(11,.ptr 40 0 0)] [0,5,7,9,10,11,18,19,20,25,26,27] [(40,some (.box 36 [qi lo,qi (i64.wrap (lo+Za.wd a0)),qi (Za.new a0 lo).f0.f2,.none0]))] [10,30,31,40] [_,Pv.Fn Tryz.prog 20 [qi a0] [] 0 (fun x o=>x=qi (Za.wd a0)∧o=[])] ⟨call20,Z25.ok a0 u2 e4,trivial⟩ ?_;refine GWp.newB [40] 11 (.ptr 40 0 0) [(40,.box 36 [qi lo,qi (i64.wrap (lo+Za.wd a0)),qi (Za.new a0 lo).f0.f2,.none0])] rfl (by decide) (fun k o h => ?_) (fun v B' => ?_)
       ·have h':=Z21      h
        simp only[List.mem_cons,List.not_mem_nil,or_false,Prod.mk.injEq] at h';obtain⟨rfl,rfl⟩:=h';exact⟨by simp,rfl⟩
       refine gR hP hn hm [(3,.more (xPut (vkI .i64) Im.sc (qM q) lo v))] [] [0,5,7,9,11,18,19,20,25,26,27] [(10,some (.map (mE (vkI .i64) Im.sc (mput (qM q) lo v))))] [10,30,31] [KeyOK Tryz.prog 2 (vkI .i64),mE (vkI .i64) Im.sc (qM q)=mE (vkI .i64) Im.sc (qM q),valA (qi lo)=some (vkI .i64 lo),Im.sc v=Im.sc v] ⟨key_int (by kernel_rfl),rfl,rfl,rfl,trivial⟩ ?_;refine⟨rfl,q++[((lo,Za.new a0 lo),v)],Bs++[B'],q.length,v,by rw[h1];simp,fun c => ?_,?_,?_⟩
       ·rw[(h3 c v).1];congr 1;simp
       ·rw[← (h3 (Za.new a0 lo) v).2];rfl
       ·rw[qB_app];rfl
      ·rw[h3]
       refine GWp.fact _ (bag_ptr (qB_get h1) rfl) (fun hv => ?_);obtain⟨ad,hv⟩:=hv;have hv:v = .pointer (some ad):=hv;subst hv;refine gS hP hn hm [(1,.more xPNil)] [(39,bV false)] [0,5,7,9,10,11,18,19,20,25,26,27,39] [] [10,30,31] [] trivial ?_;refine GWp.cond false (by kernel_rfl) (fun h=>nomatch h) (fun _ => ?_);refine GWp.cv (Z7i [0,5,7,9,11,18,19,20,25,26,27] [10,30,31]) (GWp.skip ?_);exact⟨rfl,q,Bs,i,_,by rw[h2];exact h1,h4,rfl,rfl⟩
     ·rintro e s' g ⟨rfl,q',Bs',i,v,k1,k3,rfl,rfl⟩
      rw[← hq] at e5;generalize hbk:(mget (qS q) lo).getD (Za.new a0 lo)=bk at *;rw[hq] at k3;have hb:=qB_get (h:=.ptr 40 0 0) (f:=Za.obs) k1;have fin:∀ (Q:Exit→Z1→Gh→Prop) B',(∀ (q2:QL Int (Z2)) (Bs2:List (List Nat)),qS q2=mput z1 lo bk'→Q .normal ⟨[(0,qi a0),(5,.mown 10),(7,.ptr 30 0 0),(18,.im (.row (a1.map Z7))),(19,qi (a1.length:Int)),(20,qi x2),(25,.im (.row (b.f1.map Z5))),(26,qi (b.f1.length:Int)),(27,qi (i64.wrap (z2+1)))],[(10,some (.map (mE (vkI .i64) Im.sc (qM q2)))),(30,some (.box 30 (Z4s b)))],0⟩ (bag (qB (.ptr 40 0 0) Za.obs q2) Bs2))→Q .normal ⟨[(0,qi a0),(5,.mown 10),(7,.ptr 30 0 0),(18,.im (.row (a1.map Z7))),(19,qi (a1.length:Int)),(20,qi x2),(25,.im (.row (b.f1.map Z5))),(26,qi (b.f1.length:Int)),(27,qi (i64.wrap (z2+1)))],[(10,some (.map (mE (vkI .i64) Im.sc (qM q')))),(30,some (.box 30 (Z4s b)))],0⟩ (bag ((qB (.ptr 40 0 0) Za.obs q').set i ⟨v,.ptr 40 0 0,Za.obs bk'⟩) (Bs'.set i B')):=fun Q B' hh=>by
       have:=hh (q'.set i ((lo,bk'),v)) (Bs'.set i B') (k3 bk').symm;rw[qM_set k1,qB_set] at this;exact this
      obtain⟨m,rows⟩:=bk;have side:∀ q,(AVal.ptr 40 0 0).has q=true→q∈[40,41,42]∧q<41:=fun q h=>by
       have:40=q:=by simpa[AVal.has] using h
       subst this;exact⟨by simp,by omega⟩
      rcases List.eq_nil_or_concat rows with hrw | ⟨l,r0,hrw⟩
      ·subst hrw
       rw[Za.obs0] at hb;obtain rfl:=sj (show some (⟨m,[⟨b.f0,[s]⟩]⟩:Z2)=some bk' from e5);refine GWp.open [40,41,42] 41 i 11 _ hb rfl (by decide) (fun k o h => ?_) (fun k h => ?_) (fun k o q h h2 => ?_) side (Nat.zero_le _) (fun Γ' e6 e7 => ?_)
       ·have h':=Z21      h
        simp only[List.mem_cons,List.not_mem_nil,or_false,Prod.mk.injEq] at h';obtain⟨rfl,_⟩:=h';simp
       ·simp only[List.mem_cons,List.not_mem_nil,or_false] at h
        rcases h with rfl | rfl | rfl<;>exact Z7t (by kernel_rfl)
       ·have h':=Z21      h
        simp only[List.mem_cons,List.not_mem_nil,or_false,Prod.mk.injEq] at h';obtain⟨rfl,rfl⟩:=h';simp[MObj.has,hasL,AVal.has] at h2
       ·have hP':=e6.trans hP
        have hn':=e7.trans hn;refine AWp.seq ?_;refine sO hP' hn' hm [] [(12,qi 0)] [0,5,7,9,11,12,18,19,20,25,26,27] [] [10,30,31,40] ?_;refine sR hP' hn' hm [(1,.b true)] [(74,bV true)] [0,5,7,9,11,12,18,19,20,25,26,27,74] [] [10,30,31,40] [((0:Int)==0)=true] ⟨rfl,trivial⟩ ?_;refine AWp.cond true (by kernel_rfl) (fun _ => ?_) (fun h=>nomatch h);refine rG hP' hn' hm [(8,.more (xOneT 43)),(9,.more (xAppT 44))] [] [0,5,7,9,11,18,19,20,25,26,27] [(40,some (.box 36 [qi m.f0,qi m.f1,qi m.f2,.own 44])),(44,some (.arow 2 30 [] [[sV b.f0,.none0]]))] [10,30,31,40,44] [1*40≤140737488355328] ⟨by decide,trivial⟩ ?_;refine sO hP' hn' hm [(4,.more xLenT)] [(13,qi 1)] [0,5,7,9,11,13,18,19,20,25,26,27] [] [10,30,31,40,44] ?_;refine AWp.cv (rG hP' hn' hm [(12,.more (Z9g 0)),(14,.more (Zad 0)),(16,.app 45 ([s].map Z5)),(17,.app 46 ([s].map Z5)),(18,.more (Z9g 0)),(20,.more (Zaj 0))] [] [0,5,7,18,19,20,25,26,27] [(44,some (.arow 2 30 [] [[sV b.f0,.own 46]])),(46,some (.row 9 52 ([s].map Z5)))] [10,30,40,44,46] [i64.wrap ((1:Int)-1)=((([]:List (List Im)).length+0:Nat):Int),([]:List (List Im)).length+0=([]:List (List Im)).length+0,[s].map Z5=[Z5 s],[s].map Z5=[]++([s].map Z5),∀ c∈([s].map Z5),c.length=9,∀ c∈([s].map Z5),Z1v (c.map .im)=true,(([]:List (List Im)).length+([s].map Z5).length)*104≤140737488355328,i64.wrap ((1:Int)-1)=((([]:List (List Im)).length+0:Nat):Int),([]:List (List Im)).length+0=([]:List (List Im)).length+0] ⟨rfl,rfl,rfl,rfl,by exact Z3c _ _ _ (fun _=>rfl),by exact Z2r _ _ (fun _=>rfl),by simp,rfl,rfl,trivial⟩ ?_);refine lf (t:=⟨[(0,qi a0),(5,.mown 10),(7,.ptr 30 0 0),(18,.im (.row (a1.map Z7))),(19,qi (a1.length:Int)),(20,qi x2),(25,.im (.row (b.f1.map Z5))),(26,qi (b.f1.length:Int)),(27,qi z2)],[(10,some (.map (mE (vkI .i64) Im.sc (qM q')))),(30,some (.box 30 (Z4s b))),(40,some (.box 36 [qi m.f0,qi m.f1,qi m.f2,.own 41])),(41,some (.arow 2 30 [] [[sV b.f0,.own 42]])),(42,some (.row 9 52 ([s].map Z5)))],41⟩) [(10,10),(30,30),(40,40),(44,41),(46,42)] [] [] (by kernel_rfl) ?_;refine⟨rfl,Za.obs ⟨m,[⟨b.f0,[s]⟩]⟩,fun k o h => ?_,fun B' => ?_⟩
        ·have h':=Z21      h
         rw[show Za.obs ⟨m,[⟨b.f0,[s]⟩]⟩=[(40,.box 36 [qi m.f0,qi m.f1,qi m.f2,.own 41]),(41,.arow 2 30 [] [[sV b.f0,.own 42]]),(42,.row 9 52 ([s].map Z5))] from Za.obs1 m [] ⟨b.f0,[s]⟩] at h';simp only[List.mem_cons,List.not_mem_nil,or_false,Prod.mk.injEq] at h';rcases h' with ⟨rfl,rfl⟩ | ⟨rfl,rfl⟩ | ⟨rfl,rfl⟩<;>exact⟨by simp,rfl⟩
        ·refine gR hP hn hm [] [(27,qi (i64.wrap (z2+1)))] [0,5,7,18,19,20,25,26,27] [] [10,30] [] trivial ?_
         exact fin _ B' (fun q2 Bs2 hq2=>ih1 _ _ _ H q2 Bs2 hq2)
      ·simp only[List.concat_eq_append] at hrw
       subst hrw;rw[Za.obs1] at hb;unfold Za.add at e5;rw[show(⟨m,l++[r0]⟩:Z2).f1.getLast? = some r0 from List.getLast?_concat] at e5;dsimp only at e5;obtain⟨d2,e5⟩:=Z5n e5;have dl:(l.length+2)*40≤140737488355328:=by simpa using d2
       have w0:=cut_w0 (n:=(l.map Z7).length) (by rw[Z3v];omega);have w1:=cut_w1 (n:=(l.map Z7).length) (by rw[Z3v];omega);refine GWp.open [40,41,42] 41 i 11 _ hb rfl (by decide) (fun k o h => ?_) (fun k h => ?_) (fun k o q h h2 => ?_) side (Nat.zero_le _) (fun Γ' e6 e7 => ?_)
       ·have h':=Z21      h
        simp only[List.mem_cons,List.not_mem_nil,or_false,Prod.mk.injEq] at h';rcases h' with ⟨rfl,_⟩ | ⟨rfl,_⟩ | ⟨rfl,_⟩<;>simp
       ·simp only[List.mem_cons,List.not_mem_nil,or_false] at h
        rcases h with rfl | rfl | rfl<;>exact Z7t (by kernel_rfl)
       ·have h':=Z21      h
        simp only[List.mem_cons,List.not_mem_nil,or_false,Prod.mk.injEq] at h';rcases h' with ⟨rfl,rfl⟩ | ⟨rfl,rfl⟩ | ⟨rfl,rfl⟩
        ·have:41=q:=by simpa[MObj.has,hasL,AVal.has] using h2
         simp[← this]
        ·have:42=q:=by simpa[MObj.has,hasL,Z80  ,AVal.has] using h2
         simp[← this]
        ·simp[MObj.has] at h2
       ·have hP':=e6.trans hP
        have hn':=e7.trans hn;refine AWp.seq ?_;refine sO hP' hn' hm [(4,.more xLenT)] [(12,qi (((l.map Z7).length+1:Nat):Int))] [0,5,7,9,11,12,18,19,20,25,26,27] [] [10,30,31,40,41,42] ?_;refine sR hP' hn' hm [(1,.b false),(9,.more (Z9g 0)),(11,.more (Zad 0))] [(74,bV (!(r0.f0.toList==b.f0.toList)))] [0,5,7,9,11,12,18,19,20,25,26,27,74] [] [10,30,31,40,41,42] [((((l.map Z7).length+1:Nat):Int)==0)=false,_,(l.map Z7).length+0=(l.map Z7).length+0] ⟨by simp;omega,w0,rfl,trivial⟩ ?_;refine AWp.cond (!(r0.f0.toList==b.f0.toList)) (by kernel_rfl) (fun c3 => ?_) (fun c3 => ?_)
        ·rw[if_neg (by simpa using c3)] at e5
         obtain rfl:=sj e5;refine rG hP' hn' hm [(8,.more (xOneT 43)),(9,.more (xAppT 44))] [] [0,5,7,9,11,18,19,20,25,26,27] [(40,some (.box 36 [qi m.f0,qi m.f1,qi m.f2,.own 44])),(44,some (.arow 2 30 (l.map Z7) [[sV r0.f0,.own 42],[sV b.f0,.none0]]))] [10,30,31,40,42,44] [((l.map Z7).length+1+1)*40≤140737488355328] ⟨by rw[Z3v];omega,trivial⟩ ?_;refine sO hP' hn' hm [(4,.more xLenT)] [(13,qi (((l.map Z7).length+1+1:Nat):Int))] [0,5,7,9,11,13,18,19,20,25,26,27] [] [10,30,31,40,42,44] ?_;refine AWp.cv (rG hP' hn' hm [(12,.more (Z9g 1)),(14,.more (Zad 1)),(16,.app 45 ([s].map Z5)),(17,.app 46 ([s].map Z5)),(18,.more (Z9g 1)),(20,.more (Zaj 1))] [] [0,5,7,18,19,20,25,26,27] [(44,some (.arow 2 30 (l.map Z7) [[sV r0.f0,.own 42],[sV b.f0,.own 46]])),(46,some (.row 9 52 ([s].map Z5)))] [10,30,40,42,44,46] [i64.wrap ((((l.map Z7).length+1+1:Nat):Int)-1)=(((l.map Z7).length+1:Nat):Int),(l.map Z7).length+1=(l.map Z7).length+1,[s].map Z5=[Z5 s],[s].map Z5=[]++([s].map Z5),∀ c∈([s].map Z5),c.length=9,∀ c∈([s].map Z5),Z1v (c.map .im)=true,(([]:List (List Im)).length+([s].map Z5).length)*104≤140737488355328,i64.wrap ((((l.map Z7).length+1+1:Nat):Int)-1)=(((l.map Z7).length+1:Nat):Int),(l.map Z7).length+1=(l.map Z7).length+1] ⟨by rw[Z8 (by rw[Z3v];omega) (by rw[Z3v];omega)];omega,rfl,rfl,rfl,by exact Z3c _ _ _ (fun _=>rfl),by exact Z2r _ _ (fun _=>rfl),by simp,by rw[Z8 (by rw[Z3v];omega) (by rw[Z3v];omega)];omega,rfl,trivial⟩ ?_);refine lf (t:=⟨[(0,qi a0),(5,.mown 10),(7,.ptr 30 0 0),(18,.im (.row (a1.map Z7))),(19,qi (a1.length:Int)),(20,qi x2),(25,.im (.row (b.f1.map Z5))),(26,qi (b.f1.length:Int)),(27,qi z2)],[(10,some (.map (mE (vkI .i64) Im.sc (qM q')))),(30,some (.box 30 (Z4s b))),(40,some (.box 36 [qi m.f0,qi m.f1,qi m.f2,.own 41])),(41,some (.arow 2 30 (l.map Z7++[Z7 r0]) [[sV b.f0,.own 42]])),(42,some (.row 9 52 ([s].map Z5)))],41⟩) [(10,10),(30,30),(40,40),(44,41),(46,42)] [42] [] (by kernel_rfl) ?_;refine⟨rfl,Za.obs ⟨m,(l++[r0])++[⟨b.f0,[s]⟩]⟩,fun k o h => ?_,fun B' => ?_⟩
         ·have h':=Z21      h
          rw[Za.obs1,app1] at h';simp only[List.mem_cons,List.not_mem_nil,or_false,Prod.mk.injEq] at h';rcases h' with ⟨rfl,rfl⟩ | ⟨rfl,rfl⟩ | ⟨rfl,rfl⟩<;>exact⟨by simp,rfl⟩
         ·refine gR hP hn hm [] [(27,qi (i64.wrap (z2+1)))] [0,5,7,18,19,20,25,26,27] [] [10,30] [] trivial ?_
          exact fin _ B' (fun q2 Bs2 hq2=>ih1 _ _ _ H q2 Bs2 hq2)
        ·rw[if_pos (by simpa using c3)] at e5
         obtain⟨d3,e5⟩:=Z5n e5;rw[show(⟨m,l++[r0]⟩:Z2).f1.dropLast=l from List.dropLast_concat] at e5;obtain rfl:=sj e5;refine AWp.skip ?_;refine sO hP' hn' hm [(4,.more xLenT)] [(13,qi (((l.map Z7).length+1:Nat):Int))] [0,5,7,9,11,13,18,19,20,25,26,27] [] [10,30,31,40,41,42] ?_;refine AWp.cv (rG hP' hn' hm [(12,.more (Z9g 0)),(14,.more (Zad 0)),(16,.app 45 ([s].map Z5)),(17,.app 46 ((r0.f1++[s]).map Z5)),(18,.more (Z9g 0)),(20,.more (Zaj 0))] [] [0,5,7,18,19,20,25,26,27] [(41,some (.arow 2 30 (l.map Z7) [[sV r0.f0,.own 46]])),q2 46 (r0.f1++[s])] [10,30,40,41,46] [_,(l.map Z7).length+0=(l.map Z7).length+0,[s].map Z5=[Z5 s],(r0.f1++[s]).map Z5=(r0.f1.map Z5)++([s].map Z5),∀ c∈([s].map Z5),c.length=9,∀ c∈([s].map Z5),Z1v (c.map .im)=true,((r0.f1.map Z5).length+([s].map Z5).length)*104≤140737488355328,_,(l.map Z7).length+0=(l.map Z7).length+0] ⟨w0,rfl,rfl,by simp,by exact Z3c _ _ _ (fun _=>rfl),by exact Z2r _ _ (fun _=>rfl),by simpa using d3,w0,rfl,trivial⟩ ?_);refine lf (t:=⟨[(0,qi a0),(5,.mown 10),(7,.ptr 30 0 0),(18,.im (.row (a1.map Z7))),(19,qi (a1.length:Int)),(20,qi x2),(25,.im (.row (b.f1.map Z5))),(26,qi (b.f1.length:Int)),(27,qi z2)],[(10,some (.map (mE (vkI .i64) Im.sc (qM q')))),(30,some (.box 30 (Z4s b))),(40,some (.box 36 [qi m.f0,qi m.f1,qi m.f2,.own 41])),(41,some (.arow 2 30 (l.map Z7) [[sV r0.f0,.own 42]])),q2 42 (r0.f1++[s])],41⟩) [(10,10),(30,30),(40,40),(41,41),(46,42)] [] [] (by kernel_rfl) ?_;refine⟨rfl,Za.obs ⟨m,l++[⟨r0.f0,r0.f1++[s]⟩]⟩,fun k o h => ?_,fun B' => ?_⟩
         ·have h':=Z21      h
          rw[Za.obs1] at h';simp only[List.mem_cons,List.not_mem_nil,or_false,Prod.mk.injEq] at h';rcases h' with ⟨rfl,rfl⟩ | ⟨rfl,rfl⟩ | ⟨rfl,rfl⟩<;>exact⟨by simp,rfl⟩
         ·refine gR hP hn hm [] [(27,qi (i64.wrap (z2+1)))] [0,5,7,18,19,20,25,26,27] [] [10,30] [] trivial ?_
          exact fin _ B' (fun q2 Bs2 hq2=>ih1 _ _ _ H q2 Bs2 hq2)
    ·replace H:=iF c2 H
     obtain rfl:=sj H;refine GWp.cv (Z7i [0,5,18,19,20] [10]) (GWp.exit ⟨rfl,q,Bs,hq,rfl,rfl⟩)
   refine GLWp.mono (main1 x1 0 y1 H1 q Bs hq) ?_;rintro e s g ⟨rfl,q2,Bs2,hq2,rfl,rfl⟩;show GWp Γ _ _ _ _;refine gR hP hn hm [] [(20,qi (i64.wrap (x2+1)))] [0,5,18,19,20] [] [10] [] trivial ?_;exact ih _ _ _ H q2 Bs2 hq2
  ·replace H:=iF c1 H
   obtain rfl:=sj H;refine GWp.cv (Z7i [5] [10]) (GWp.exit ⟨rfl,q,Bs,hq,rfl,rfl⟩)
 refine GLWp.mono (main0 [] 0 y H0 [] [] rfl) ?_;rintro e s g ⟨rfl,q,Bs,hq,rfl,rfl⟩;show GWp Γ _ _ _ _;have hql:(qM q).length=(qS q).length:=by simp[qM,qS]
 refine GWp.seq (gK hP hn hm [] [(14,.none0)] [5,14] [] [10] [] [(10,10)] [] [50] ⟨[(5,.mown 10),(14,.own 50)],[(10,some (.map (mE (vkI .i64) Im.sc (qM q)))),(50,some (.row 4 36 []))],0⟩ trivial rfl ?_);refine GWp.seq ?_;refine gS hP hn hm [(1,.more (xRng 51 (qM q).length))] [(115,.ptr 51 0 0)] [14,115] [(51,some (.iter (some 10) (qM q).length []))] [10,50,51] [(qM q).length=(mE (vkI .i64) Im.sc (qM q)).length] ⟨len_mE _ _ _,trivial⟩ ?_;refine GWp.block ?_;refine GWp.loopB (fun body2 hbody2 => ?_);have main2:∀ (N:Nat) (sn:List Nat) (acc:List (Int×Z2)) (bs:List Bun) (Bs:List (List Nat)),(remI (qM q).length sn).length=N→(acc++Zes (qS q) sn).Perm (qS q)→(∀ i∈remI (qM q).length sn,bs[i]? = (qB (.ptr 40 0 0) Za.obs q)[i]?)→GLWp Γ body2 (fun e s g=>e = .exit 4∧∃ acc:List (Int×Z2),acc.Perm (qS q)∧s=⟨[(14,.own 50)],[q1 50 (acc.map (·.2))],0⟩) ⟨[(14,.own 50),(115,.ptr 51 0 0)],[(10,some (.map (mE (vkI .i64) Im.sc (qM q)))),q1 50 (acc.map (·.2)),(51,some (.iter (some 10) (qM q).length sn))],0⟩ (bag bs Bs):=by
  intro N
  induction N using Nat.strongRecOn with
  | _ N ih =>
  intro sn acc bs Bs hN hp hbs;subst hbody2;refine GLWp.round ?_;refine GWp.seq ?_;refine GWp.frame (fun Γ' e6 e7=>AWp.next (n:=(qM q).length) (sn:=sn) (es:=mE (vkI .i64) Im.sc (qM q)) 116 117 51 10 (e6.trans hP) rfl rfl rfl rfl rfl rfl (by rw[e7,hn];decide) (by rw[e7,hn];decide) (by kernel_rfl) (by kernel_rfl) (by kernel_rfl) (len_mE _ _ _) (fun hz=>⟨rfl,?_⟩) (fun i A B hA hB hin=>⟨rfl,?_⟩))
  ·show GWp Γ _ _ _ _
   refine GWp.seq (GWp.cond false (by kernel_rfl) (fun h=>nomatch h) (fun _ => ?_));refine GWp.cv (Z7i [14] [50]) (GWp.exit ⟨rfl,acc,?_,rfl⟩);have:Zes (qS q) sn=[]:=by unfold Zes;rw[← hql,hz];rfl
   rw[this,List.append_nil] at hp;exact hp
  ·show GWp Γ _ _ _ _
   refine GWp.seq (GWp.cond true (by kernel_rfl) (fun _=>GWp.skip ?_) (fun h=>nomatch h));show GWp Γ _ _ _ _;refine GWp.block ?_;have hiq:i<q.length:=by simpa[qM] using hin
   obtain⟨⟨⟨lo,bk⟩,v⟩,hqi⟩:∃ y,q[i]? = some y:=⟨_,List.getElem?_eq_getElem hiq⟩
   have hmem:i∈remI (qM q).length sn:=by rw[hA];simp
   have hb:=(hbs i hmem).trans (qB_get (h:=.ptr 40 0 0) (f:=Za.obs) hqi);have hSi:(qS q)[i]? = some (lo,bk):=by simp[qS,hqi]
   have hp2:((acc++[(lo,bk)])++Zes (qS q) (sn++[i])).Perm (qS q):=by
    refine List.Perm.trans ?_ hp;have q1:Zes (qS q) sn=A.filterMap (fun i=>(qS q)[i]?)++(lo,bk)::B.filterMap (fun i=>(qS q)[i]?):=by rw[Zes,← hql,hA,List.filterMap_append,List.filterMap_cons,hSi]
    have q2:Zes (qS q) (sn++[i])=A.filterMap (fun i=>(qS q)[i]?)++B.filterMap (fun i=>(qS q)[i]?):=by rw[Zes,← hql,hB,List.filterMap_append]
    rw[q1,q2,List.append_assoc];refine List.Perm.append_left _ ?_;rw[List.singleton_append];exact List.perm_middle.symm
   have next:∀ o' B',GLWp Γ _ _ _ _:=fun o' B'=>ih _ (by rw[← hN,hA,hB];simp) (sn++[i]) (acc++[(lo,bk)]) (bs.set i ⟨v,.ptr 40 0 0,o'⟩) (Bs.set i B') rfl hp2 (fun i' hi'=>by
    have hne:i≠i':=by
     rintro rfl;have:=(List.mem_filter.1 hi').2;simp at this
    rw[List.getElem?_set_ne hne];refine hbs i' ?_;rw[hB] at hi';rw[hA];rcases List.mem_append.1 hi' with h | h<;>simp[h])
   refine gS hP hn hm [(0,.more (xEnt (vkI .i64) Im.sc (qM q) i (lo,v) (qi lo)))] [(16,.im (.sc v))] [14,16,115] [] [10,50,51] [(qM q).length=(mE (vkI .i64) Im.sc (qM q)).length,(sn++[i]).getLast? = some i,mE (vkI .i64) Im.sc (qM q)=mE (vkI .i64) Im.sc (qM q),(qM q)[i]? = some (lo,v),valA (qi lo)=some (vkI .i64 lo)] ⟨len_mE _ _ _,by simp,rfl,by simp[qM,hqi],rfl,trivial⟩ ?_;have side:∀ q,(AVal.ptr 40 0 0).has q=true→q∈[40,41,42]∧q<41:=fun q h=>by
    have:40=q:=by simpa[AVal.has] using h
    subst this;exact⟨by simp,by omega⟩
   have hsz:(acc.length+1)*48≤140737488355328:=by
    have e1:=hp2.length_eq;have e2:(qS q).length=y.length:=by rw[hq]
    simp only[List.length_append,List.length_cons,List.length_nil] at e1;omega
   obtain⟨m,rows⟩:=bk;rcases List.eq_nil_or_concat rows with hrw | ⟨l,r0,hrw⟩
   ·subst hrw
    rw[Za.obs0] at hb;refine GWp.open [40,41,42] 41 i 16 _ hb rfl (by decide) (fun k o h => ?_) (fun k h => ?_) (fun k o q h h2 => ?_) side (Nat.zero_le _) (fun Γ' e6 e7 => ?_)
    ·have h':=Z21      h
     simp only[List.mem_cons,List.not_mem_nil,or_false,Prod.mk.injEq] at h';obtain⟨rfl,_⟩:=h';simp
    ·simp only[List.mem_cons,List.not_mem_nil,or_false] at h
     rcases h with rfl | rfl | rfl<;>exact Z7t (by kernel_rfl)
    ·have h':=Z21      h
     simp only[List.mem_cons,List.not_mem_nil,or_false,Prod.mk.injEq] at h';obtain⟨rfl,rfl⟩:=h';simp[MObj.has,hasL,AVal.has] at h2
    ·have hP':=e6.trans hP
     have hn':=e7.trans hn;refine AWp.cv (rG hP' hn' hm [(4,.app 45 ([(⟨m,[]⟩:Z2)].map Zn)),(5,.app 46 (((acc++[(lo,(⟨m,[]⟩:Z2))]).map (·.2)).map Zn))] [(14,.own 46)] [14,115] [q1 46 ((acc++[(lo,(⟨m,[]⟩:Z2))]).map (·.2))] [10,46,51] [[(⟨m,[]⟩:Z2)].map Zn=[Zn (⟨m,[]⟩:Z2)],((acc++[(lo,(⟨m,[]⟩:Z2))]).map (·.2)).map Zn=(acc.map (·.2)).map Zn++[(⟨m,[]⟩:Z2)].map Zn,∀ c∈([(⟨m,[]⟩:Z2)].map Zn),c.length=4,∀ c∈([(⟨m,[]⟩:Z2)].map Zn),Z1v (c.map .im)=true,(((acc.map (·.2)).map Zn).length+([(⟨m,[]⟩:Z2)].map Zn).length)*48≤140737488355328] ⟨rfl,by simp,by exact Z3c _ _ _ (fun _=>rfl),by exact Z2r _ _ (fun _=>rfl),by simpa using hsz,trivial⟩ ?_);refine lf (t:=⟨[(14,.own 50),(115,.ptr 51 0 0)],[(10,some (.map (mE (vkI .i64) Im.sc (qM q)))),q1 50 ((acc++[(lo,(⟨m,[]⟩:Z2))]).map (·.2)),(51,some (.iter (some 10) (qM q).length (sn++[i])))],41⟩) [(10,10),(46,50),(51,51)] [] [] (by kernel_rfl) ?_;refine⟨rfl,[],fun k o h=>by simp[Pv.look] at h,fun B' => ?_⟩;exact GLWp.cv (Z7i [14,115] [10,50,51]) (next [] B')
   ·simp only[List.concat_eq_append] at hrw
    subst hrw;rw[Za.obs1] at hb;refine GWp.open [40,41,42] 41 i 16 _ hb rfl (by decide) (fun k o h => ?_) (fun k h => ?_) (fun k o q h h2 => ?_) side (Nat.zero_le _) (fun Γ' e6 e7 => ?_)
    ·have h':=Z21      h
     simp only[List.mem_cons,List.not_mem_nil,or_false,Prod.mk.injEq] at h';rcases h' with ⟨rfl,_⟩ | ⟨rfl,_⟩ | ⟨rfl,_⟩<;>simp
    ·simp only[List.mem_cons,List.not_mem_nil,or_false] at h
     rcases h with rfl | rfl | rfl<;>exact Z7t (by kernel_rfl)
    ·have h':=Z21      h
     simp only[List.mem_cons,List.not_mem_nil,or_false,Prod.mk.injEq] at h';rcases h' with ⟨rfl,rfl⟩ | ⟨rfl,rfl⟩ | ⟨rfl,rfl⟩
     ·have:41=q:=by simpa[MObj.has,hasL,AVal.has] using h2
      simp[← this]
     ·have:42=q:=by simpa[MObj.has,hasL,Z80  ,AVal.has] using h2
      simp[← this]
     ·simp[MObj.has] at h2
    ·have hP':=e6.trans hP
     have hn':=e7.trans hn;refine AWp.conv (inv:=[(10,10),(50,50),(51,51),(40,40),(41,41)]) (vk:=[42]) (e0:=[]) (t:=⟨[(14,.own 50),(16,.ptr 40 0 0),(115,.ptr 51 0 0)],[(10,some (.map (mE (vkI .i64) Im.sc (qM q)))),q1 50 (acc.map (·.2)),(51,some (.iter (some 10) (qM q).length (sn++[i]))),(40,some (.box 36 [qi m.f0,qi m.f1,qi m.f2,.own 41])),(41,some (.row 2 30 (l.map Z7++[Z7 r0])))],41⟩) (by kernel_rfl) ?_
     refine AWp.conv (inv:=[(10,10),(50,50),(51,51),(40,40)]) (vk:=[41]) (e0:=[]) (t:=⟨[(14,.own 50),(16,.ptr 40 0 0),(115,.ptr 51 0 0)],[(10,some (.map (mE (vkI .i64) Im.sc (qM q)))),q1 50 (acc.map (·.2)),(51,some (.iter (some 10) (qM q).length (sn++[i]))),(40,some (.box 36 [qi m.f0,qi m.f1,qi m.f2,.im (.row (l.map Z7++[Z7 r0]))]))],41⟩) (by kernel_rfl) ?_
     refine AWp.cv (rG hP' hn' hm [(4,.app 45 ([(⟨m,l++[r0]⟩:Z2)].map Zn)),(5,.app 46 (((acc++[(lo,(⟨m,l++[r0]⟩:Z2))]).map (·.2)).map Zn))] [(14,.own 46)] [14,115] [q1 46 ((acc++[(lo,(⟨m,l++[r0]⟩:Z2))]).map (·.2))] [10,46,51] [[(⟨m,l++[r0]⟩:Z2)].map Zn=[[iI .i64 m.f0,iI .i64 m.f1,iI .i64 m.f2,.row (l.map Z7++[Z7 r0])]],((acc++[(lo,(⟨m,l++[r0]⟩:Z2))]).map (·.2)).map Zn=(acc.map (·.2)).map Zn++[(⟨m,l++[r0]⟩:Z2)].map Zn,∀ c∈([(⟨m,l++[r0]⟩:Z2)].map Zn),c.length=4,∀ c∈([(⟨m,l++[r0]⟩:Z2)].map Zn),Z1v (c.map .im)=true,(((acc.map (·.2)).map Zn).length+([(⟨m,l++[r0]⟩:Z2)].map Zn).length)*48≤140737488355328] ⟨by simp,by simp,by exact Z3c _ _ _ (fun _=>rfl),by exact Z2r _ _ (fun _=>rfl),by simpa using hsz,trivial⟩ ?_);refine lf (t:=⟨[(14,.own 50),(115,.ptr 51 0 0)],[(10,some (.map (mE (vkI .i64) Im.sc (qM q)))),q1 50 ((acc++[(lo,(⟨m,l++[r0]⟩:Z2))]).map (·.2)),(51,some (.iter (some 10) (qM q).length (sn++[i])))],41⟩) [(10,10),(46,50),(51,51)] [] [] (by kernel_rfl) ?_;refine⟨rfl,[],fun k o h=>by simp[Pv.look] at h,fun B' => ?_⟩;exact GLWp.cv (Z7i [14,115] [10,50,51]) (next [] B')
 refine GLWp.mono (main2 _ [] [] (qB (.ptr 40 0 0) Za.obs q) Bs rfl (by rw[picks_nil];exact .refl _) (fun i _=>rfl)) ?_;rintro e s g ⟨rfl,acc,hacc,rfl⟩;show GWp Γ _ _ _ _;have HSa:Zq.f (acc.map (·.2))=some r':=by
  have h0:=rchk_of HS acc (by rw[← hq];exact hacc);exact h0
 clear HS main0 main2;have hfn:Pv.Fn Tryz.prog 28 [.own 0,.im (.sc (.func (.func 29) #[] #[]))] [q1 0 (acc.map (·.2))] 1 (fun x o=>x = .tup []∧o=[q1 0 r']):=Zq.ok _ _ HSa;refine gS hP hn hm [(1,.call [(50,0)] [(0,50)] [] [] 1 (.tup []) [q1 0 r'])] [] [14] [q1 50 r'] [50] [_,Pv.Fn Tryz.prog 28 [.own 0,.im (.sc (.func (.func 29) #[] #[]))] [q1 0 (acc.map (·.2))] 1 (fun x o=>x = .tup []∧o=[q1 0 r'])] ⟨call28,hfn,trivial⟩ ?_;refine gS hP hn hm [] [(4,.own 50)] [4] [] [50] [] trivial ?_;refine GWp.ret ?_;exact lf (t:=⟨[(4,.own 0)],[q1 0 r'],0⟩) [(50,0)] [] [] (by kernel_rfl) ⟨.inl rfl,rfl,by kernel_rfl,by kernel_rfl⟩
def Z5j.f (a0:Zt):Option Bool:=((if decide (a0.f2<0) then(some true) else(some (decide (a0.f2>4)))):Option Bool)>>=fun aa=>if aa=true then(some false) else((Z25.f a0.f2)>>=fun ab=>((if decide (a0.f0≥0) then(if decide (a0.f0≤1099511627776) then((chk ((i64.wrap ((64:Int)*2 ^ (min (u64.wrap ((2:Int)*(u64.wrap ((if(if(4:Int)<a0.f2 then(4:Int) else a0.f2)>0 then(if(4:Int)<a0.f2 then(4:Int) else a0.f2) else(0:Int)))))).toNat 64)))≠0))>>=fun _=>if(Int.tmod a0.f0 (i64.wrap ((64:Int)*2 ^ (min (u64.wrap ((2:Int)*(u64.wrap ((if(if(4:Int)<a0.f2 then(4:Int) else a0.f2)>0 then(if(4:Int)<a0.f2 then(4:Int) else a0.f2) else(0:Int)))))).toNat 64))))==0 then(some (a0.f1==(i64.wrap (a0.f0+(i64.wrap ((64:Int)*2 ^ (min (u64.wrap ((2:Int)*(u64.wrap ((if(if(4:Int)<a0.f2 then(4:Int) else a0.f2)>0 then(if(4:Int)<a0.f2 then(4:Int) else a0.f2) else(0:Int)))))).toNat 64))))))) else(some false)) else(some false)) else(some false)):Option Bool)>>=fun ac=>some ac)
abbrev w0_ (k:Nat) (x:Zt):Nat×Option MObj:=BW 34 Zen k x
theorem Z5j.ok (a0:Zt):F0 55 [.agg (Zen a0)] (Z5j.f a0) (fun r=>bV r):=FT [] func55 (.rg [(0,⟨.k 0,.n⟩)]<|.join (.sp (fun aa=>.rg [(3,hB aa)]<|.o [(0,1)])
 (fun aa=>.rg [(3,hB aa)]<|.o [(0,1)]))
 (.st .normal (fun ab=>⟨[(1,.ptr 1 0 0),(11,bV ab)],[w0_ 1 a0],0⟩) fun ab=>.cd (fun ac=>.r0<|.rv ⟨[(2,bV false)],[],0⟩)
 (fun ac=>.bd fun ae af=>.rg [(2,qh call20 (Z25.ok a0.f2 ae af))]<|.join (.sp (fun ah=>.sp (fun ai=>.ck fun aj=>.sp (fun ak=>.rg [(3,hB ah),(8,hB ai),(12,hN (p1 aj)),(15,hB ak)]<|.o [])
 (fun ak=>.rg [(3,hB ah),(8,hB ai),(12,hN (p1 aj)),(15,hB ak)]<|.o []))
 (fun ai=>.rg [(3,hB ah),(8,hB ai)]<|.o []))
 (fun ah=>.rg [(3,hB ah)]<|.o []))
 (.st .normal (fun al=>⟨[(2,bV al)],[],0⟩) fun al=>.rv ⟨[(2,bV al)],[],0⟩))))
def Z28.l0 (a0:ByteArray) (aa:Int):Option (Bool ⊕ Unit):=if decide (aa<(a0.size:Int)) then((chk (0≤aa∧aa<(a0.size:Int)))>>=fun _=>((if decide ((bt a0 aa)≥97) then(if decide ((bt a0 aa)≤122) then(some true) else(if decide ((bt a0 aa)≥65) then(if decide ((bt a0 aa)≤90) then(some true) else(some ((bt a0 aa)==95))) else(some ((bt a0 aa)==95)))) else(if decide ((bt a0 aa)≥65) then(if decide ((bt a0 aa)≤90) then(some true) else(some ((bt a0 aa)==95))) else(some ((bt a0 aa)==95)))):Option Bool)>>=fun ab=>((if !ab then(if aa==0 then(some true) else(if decide ((bt a0 aa)<48) then(some true) else(some (decide ((bt a0 aa)>57))))) else(some false)):Option Bool)>>=fun ac=>if ac=true then(some (.inl false)) else(Z28.l0 a0 (i64.wrap (aa+1)))) else(some (.inr ()))
partial_fixpoint
def Z28.f (a0:ByteArray):Option Bool:=((if a0.toList==(⟨#[]⟩:ByteArray).toList then(some true) else(some (decide ((a0.size:Int)>64)))):Option Bool)>>=fun aa=>if aa=true then(some false) else((Z28.l0 a0 0)>>=fun | .inl rr=>(some rr) | .inr _=>(some true))
theorem Z28.ok (a0:ByteArray):F0 165 [sV a0] (Z28.f a0) (fun r=>bV r):=FT [] func165 (.r0<|.join (.sp (fun aa=>.rg [(2,hB aa)]<|.o [])
 (fun aa=>.rg [(2,hB aa)]<|.o []))
 (.st .normal (fun ab=>⟨[(0,sV a0),(12,bV ab)],[],0⟩) fun ab=>.cd (fun ac=>.r0<|.rv ⟨[(2,bV false)],[],0⟩)
 (fun ac=>.r0<|.bl<|.lq (.one (Z28.l0.partial_correctness a0)) 0 [] (fun _=>.one (fun ae=>⟨[(0,sV a0),(14,qi (a0.size:Int)),(15,qi ae)],[],0⟩) fun ae=>.r0<|.cd (fun af=>.bl<|.r0<|.ck fun ah=>.rg [(2,hN (p2 ah))]<|.join (.sp (fun ai=>.sp (fun aj=>.rg [(2,hB ai),(6,hB aj)]<|.o [])
 (fun aj=>.sp (fun ak=>.sp (fun al=>.rg [(2,hB ai),(6,hB aj),(9,hB ak),(14,hB al)]<|.o [])
 (fun al=>.rg [(2,hB ai),(6,hB aj),(9,hB ak),(14,hB al)]<|.o []))
 (fun ak=>.rg [(2,hB ai),(6,hB aj),(9,hB ak)]<|.o [])))
 (fun ai=>.sp (fun am=>.sp (fun ao=>.rg [(2,hB ai),(9,hB am),(14,hB ao)]<|.o [])
 (fun ao=>.rg [(2,hB ai),(9,hB am),(14,hB ao)]<|.o []))
 (fun am=>.rg [(2,hB ai),(9,hB am)]<|.o [])))
 (.st .normal (fun ap=>⟨[(0,sV a0),(3,qi ae),(4,iV .u8 (bt a0 ae)),(5,bV ap),(14,qi (a0.size:Int)),(15,qi ae)],[],0⟩) fun ap=>.join (.sp (fun aq=>.sp (fun ar=>.rg [(2,hB aq),(5,hB ar)]<|.o [])
 (fun ar=>.sp (fun au=>.rg [(2,hB aq),(5,hB ar),(9,hB au)]<|.o [])
 (fun au=>.rg [(2,hB aq),(5,hB ar),(9,hB au)]<|.o [])))
 (fun aq=>.rg [(2,hB aq)]<|.o []))
 (.st .normal (fun av=>⟨[(0,sV a0),(14,qi (a0.size:Int)),(15,qi ae),(52,bV av)],[],0⟩) fun av=>.cd (fun ax=>.r0<|.rv ⟨[(2,bV false)],[],0⟩)
 (fun ax=>.r0<|.bk [] rfl))))
 (fun af=>.o []))
 (.sm (.rt (fun rr=>bV rr) (fun rr=>[]))
 (.st (.exit 0) (fun _=>⟨[],[],0⟩) fun _=>.r0<|.rv ⟨[(2,bV true)],[],0⟩)))))
def Z4g.f (a0:ByteArray):Option Bool:=((if !(a0.toList==(⟨#[]⟩:ByteArray).toList) then(some (decide ((a0.size:Int)≤64))) else(some false)):Option Bool)>>=fun aa=>some aa
theorem Z4g.ok (a0:ByteArray):F0 166 [sV a0] (Z4g.f a0) (fun r=>bV r):=FT [] func166 (.r0<|.join (.sp (fun aa=>.rg [(2,hB aa)]<|.o [])
 (fun aa=>.rg [(2,hB aa)]<|.o []))
 (.st .normal (fun ab=>⟨[(2,bV ab)],[],0⟩) fun ab=>.rv ⟨[(2,bV ab)],[],0⟩))
def Z2o.l0 (a0:List Z0d) (aa:Int):Option (Int ⊕ Unit):=if decide (aa<(a0.length:Int)) then((at? a0 aa)>>=fun ab=>(((Z28.f ab.f0)>>=fun ac=>if !ac then(some true) else((Z4g.f ab.f1)>>=fun ae=>if !ae then(some true) else(if decide (aa>0) then((at? a0 (i64.wrap (aa-1)))>>=fun af=>some (!Op.bytesLess af.f0.toList ab.f0.toList)) else(some false)))):Option Bool)>>=fun ah=>if ah=true then(some (.inl 26)) else(Z2o.l0 a0 (i64.wrap (aa+1)))) else(some (.inr ()))
partial_fixpoint
def Z2o.f (a0:List Z0d):Option Int:=if decide ((a0.length:Int)>16) then(some 9) else((Z2o.l0 a0 0)>>=fun | .inl rr=>(some rr) | .inr _=>(some 0))
theorem Z2o.ok (a0:List Z0d):F0 96 [.im (.row (a0.map Z2s))] (Z2o.f a0) (fun r=>qi r):=FT [] func96 (.r0<|.rg [(1,hG Z2s a0)]<|.cd (fun aa=>.r0<|.rv ⟨[(2,qi 9)],[],0⟩)
 (fun aa=>.rg [(1,hG Z2s a0)]<|.bl<|.lq (.one (Z2o.l0.partial_correctness a0)) 0 [] (fun _=>.one (fun ab=>⟨[(0,im a0 Z2s),(8,im a0 Z2s),(9,qi (ln a0)),(10,qi ab)],[],0⟩) fun ab=>.r0<|.cd (fun ac=>.bl<|.el fun ae af ah=>.rg [(1,hA Z2s af ah),(3,⟨.k 1,.n⟩)]<|.join (.bd fun ai aj=>.sp (fun ak=>.rg [(2,qh call165 (Z28.ok ae.f0 ai aj)),(4,hB ak)]<|.o [])
 (fun ak=>.bd fun al am=>.sp (fun ao=>.rg [(2,qh call165 (Z28.ok ae.f0 ai aj)),(4,hB ak),(7,qh call166 (Z4g.ok ae.f1 al am)),(10,hB ao)]<|.o [])
 (fun ao=>.sp (fun ap=>.el fun aq ar au=>.rg [(2,qh call165 (Z28.ok ae.f0 ai aj)),(4,hB ak),(7,qh call166 (Z4g.ok ae.f1 al am)),(10,hB ao),(13,hB ap),(17,hA Z2s ar au)]<|.o [])
 (fun ap=>.rg [(2,qh call165 (Z28.ok ae.f0 ai aj)),(4,hB ak),(7,qh call166 (Z4g.ok ae.f1 al am)),(10,hB ao),(13,hB ap)]<|.o []))))
 (.st .normal (fun av=>⟨[(0,im a0 Z2s),(8,im a0 Z2s),(9,qi (ln a0)),(10,qi ab),(39,bV av)],[],0⟩) fun av=>.cd (fun ax=>.r0<|.rv ⟨[(2,qi 26)],[],0⟩)
 (fun ax=>.r0<|.bk [] rfl)))
 (fun ac=>.o []))
 (.sm (.rt (fun rr=>qi rr) (fun rr=>[]))
 (.st (.exit 0) (fun _=>⟨[],[],0⟩) fun _=>.r0<|.rv ⟨[(2,qi 0)],[],0⟩))))
def Z0e.l0 (aa:ByteArray) (ab:List ByteArray):Option (((List Z0d)×Int) ⊕ (List ByteArray)):=if decide ((aa.size:Int)>0) then((chk (0≤(0:Int)∧(0:Int)<(aa.size:Int)))>>=fun _=>if decide ((i64.wrap (bt aa 0))>(i64.wrap ((aa.size:Int)-1))) then(some (.inl ([],6))) else((chk (0≤(1:Int)∧(1:Int)≤(i64.wrap ((1:Int)+(i64.wrap (bt aa 0))))∧(i64.wrap ((1:Int)+(i64.wrap (bt aa 0))))≤(aa.size:Int)))>>=fun _=>(chk ((ab.length+[aa.extract (1:Int).toNat ((i64.wrap ((1:Int)+(i64.wrap (bt aa 0))))).toNat].length)*16≤140737488355328))>>=fun _=>(chk (0≤(i64.wrap ((1:Int)+(i64.wrap (bt aa 0))))∧(i64.wrap ((1:Int)+(i64.wrap (bt aa 0))))≤(aa.size:Int)∧(aa.size:Int)≤(aa.size:Int)))>>=fun _=>Z0e.l0  (aa.extract ((i64.wrap ((1:Int)+(i64.wrap (bt aa 0))))).toNat (aa.size:Int).toNat) (ab++[aa.extract (1:Int).toNat ((i64.wrap ((1:Int)+(i64.wrap (bt aa 0))))).toNat]))) else(some (.inr ab))
partial_fixpoint
def Z0e.l1 (aa:List ByteArray) (ab:List Z0d) (ac:Int):Option (List Z0d):=if decide (ac<(aa.length:Int)) then((at? aa ac)>>=fun ae=>(at? aa (i64.wrap (ac+1)))>>=fun af=>(chk ((ab.length+[(⟨ae,af⟩:Z0d)].length)*32≤140737488355328))>>=fun _=>Z0e.l1 aa (ab++[(⟨ae,af⟩:Z0d)]) (i64.wrap (ac+2))) else(some ab)
partial_fixpoint
def Z0e.f (a0:ByteArray):Option ((List Z0d)×Int):=(Z0e.l0  a0 [])>>=fun | .inl rr=>(some rr) | .inr aa=>(if(Int.tmod (aa.length:Int) (2:Int))==1 then(some ([],6)) else((Z0e.l1 aa [] 0)>>=fun ab=>(Z2o.f ab)>>=fun ac=>if ac != 0 then(some ([],6)) else(some (ab,0))))
abbrev q3:=@RW _ 2 74 Z2s
abbrev q4:=@RW _ 1 9 qs
theorem Z0e.ok (a0:ByteArray):FN 49 [sV a0] [] 0 (Z0e.f a0) (fun r=>.tup [.own 0,qi r.2]) (fun r=>[q3 0 r.1]):=FT [0] func49 (.r0<|.r0<|.bl<|.loop (.c2 (Z0e.l0.partial_correctness )) (a0,[]) [] [] [2] (fun _=>.pr fun aa=>.one (fun ab=>⟨[(0,sV aa),(4,.own 2)],[q4 2 ab],0⟩) fun ab=>.r0<|.cd (fun ac=>.bl<|.ck fun ae=>.rg [(1,hN (p2 ae))]<|.r0<|.cd (fun af=>.r0<|.ret [] [] [0] ⟨[(2,.own 0),(3,qi 6)],[q3 0 []],0⟩)
 (fun af=>.ck fun ah=>.ck fun ai=>.rg [(4,hN (p3 ah)),(5,hQ 3 qs ([aa.extract (Int.toNat (1:Int)) (Int.toNat ((i64.wrap ((1:Int)+(i64.wrap (bt aa 0))))))]:List ByteArray)),(6,hP 4 qs 1 ai)]<|.ck fun aj=>.rg [(3,hN (p3 aj))]<|.bk [(4,2)] rfl))
 (fun ac=>.o [(2,5)]))
 (.sm (.rt (fun rr=>.tup [.own 0,qi rr.2]) (fun rr=>[q3 0 rr.1]))
 (.st (.exit 0) (fun ak=>⟨[(4,.own 5)],[q4 5 ak],0⟩) fun ak=>.rg [(1,hG qs ak),(2,hJ 2)]<|.cd (fun al=>.r0<|.ret [] [] [0] ⟨[(2,.own 0),(3,qi 6)],[q3 0 []],0⟩)
 (fun al=>.r0<|.r0<|.bl<|.loop (.c2 (Z0e.l1.partial_correctness ak)) ([],0) [(5,8)] [] [9] (fun _=>.pr fun am=>.one (fun ao=>⟨[(4,.own 8),(6,.own 9),(7,qi ao)],[q4 8 ak,q3 9 am],0⟩) fun ao=>.rg [(2,hG qs ak)]<|.cd (fun ap=>.bl<|.el fun aq ar au=>.el fun av ax az=>.ck fun a8=>.rg [(3,hX qs ar au),(4,hL qs au),(8,hX qs ax az),(9,hL qs az),(11,hQ 10 Z2s ([(⟨aq,av⟩:Z0d)]:List Z0d)),(12,hP 11 Z2s 2 a8)]<|.r0<|.bk [(8,8),(11,9)] rfl)
 (fun ap=>.o [(9,12)]))
 (.st (.exit 2) (fun ba=>⟨[(6,.own 12)],[q3 12 ba],0⟩) fun ba=>.bd fun bb bc=>.rg [(1,h3 12 call96 (Z2o.ok ba bb bc))]<|.cd (fun be=>.r0<|.ret [] [] [0] ⟨[(2,.own 0),(3,qi 6)],[q3 0 []],0⟩)
 (fun be=>.r0<|.ru [(12,0)] ⟨[(2,.own 0),(3,qi 0)],[q3 0 ba],0⟩))))))
def Z0i.f (a0:Int):Option Bool:=((if decide (a0≥(-4)) then(some (decide (a0≤8))) else(some false)):Option Bool)>>=fun aa=>some aa
theorem Z0i.ok (a0:Int):F0 175 [qi a0] (Z0i.f a0) (fun r=>bV r):=FT [] func175 (.r0<|.join (.sp (fun aa=>.rg [(2,hB aa)]<|.o [])
 (fun aa=>.rg [(2,hB aa)]<|.o []))
 (.st .normal (fun ab=>⟨[(2,bV ab)],[],0⟩) fun ab=>.rv ⟨[(2,bV ab)],[],0⟩))
def Z4j.f (a0:Int):Option Unit:=some ()
theorem Z4j.ok (a0:Int):F0 242 [qi a0] (Z4j.f a0) (fun r=>qu (u64.wrap (i64.wrap ((8:Int)-a0)))):=FT [] func242 (.r0<|.r0<|.rv ⟨[(2,qu (u64.wrap (i64.wrap ((8:Int)-a0))))],[],0⟩)
def Z4y.f (a0:Int):Option Int:=(Z0i.f a0)>>=fun aa=>if !aa then(some 0) else((Z4j.f a0)>>=fun ab=>(chk (0≤(u64.wrap (i64.wrap ((8:Int)-a0)))))>>=fun _=>some (Int.fdiv (262144:Int) (2 ^ (min (u64.wrap (i64.wrap ((8:Int)-a0))).toNat 64))))
theorem Z4y.ok (a0:Int):F0 233 [qi a0] (Z4y.f a0) (fun r=>qi r):=FT [] func233 (.r0<|.bd fun aa ab=>.rg [(1,qh call175 (Z0i.ok a0 aa ab))]<|.cd (fun ac=>.r0<|.rv ⟨[(2,qi 0)],[],0⟩)
 (fun ac=>.bd fun ae af=>.ck fun ah=>.rg [(1,qh call242 (Z4j.ok a0 ae af)),(2,hN (p1 ah))]<|.rv ⟨[(2,qi (Int.fdiv (262144:Int) (2 ^ (min (Int.toNat (u64.wrap (i64.wrap ((8:Int)-a0)))) 64))))],[],0⟩))
def Z5i.f (a0:Int):Option Int:=(Z4y.f a0)>>=fun aa=>some (i64.wrap ((i64.wrap (0-aa))+1))
theorem Z5i.ok (a0:Int):F0 232 [qi a0] (Z5i.f a0) (fun r=>qi r):=FT [] func232 (.r0<|.bd fun aa ab=>.rg [(1,qh call233 (Z4y.ok a0 aa ab))]<|.rv ⟨[(2,qi (i64.wrap ((i64.wrap (0-aa))+1)))],[],0⟩)
def Z65.f (a0 a1:Int):Option Bool:=(((Z0i.f a0)>>=fun aa=>if aa=true then((Z5i.f a0)>>=fun ab=>if decide (a1≥ab) then((Z4y.f a0)>>=fun ac=>some (decide (a1≤ac))) else(some false)) else(some false)):Option Bool)>>=fun ae=>some ae
theorem Z65.ok (a0 a1:Int):F0 211 [qi a0,qi a1] (Z65.f a0 a1) (fun r=>bV r):=FT [] func211 (.r0<|.join (.bd fun aa ab=>.sp (fun ac=>.bd fun ae af=>.sp (fun ah=>.bd fun ai aj=>.rg [(1,qh call175 (Z0i.ok a0 aa ab)),(2,hB ac),(5,qh call232 (Z5i.ok a0 ae af)),(8,hB ah),(11,qh call233 (Z4y.ok a0 ai aj))]<|.o [])
 (fun ah=>.rg [(1,qh call175 (Z0i.ok a0 aa ab)),(2,hB ac),(5,qh call232 (Z5i.ok a0 ae af)),(8,hB ah)]<|.o []))
 (fun ac=>.rg [(1,qh call175 (Z0i.ok a0 aa ab)),(2,hB ac)]<|.o []))
 (.st .normal (fun ak=>⟨[(4,bV ak)],[],0⟩) fun ak=>.rv ⟨[(4,bV ak)],[],0⟩))
def Z2q.f (a0 a1:Int):Option Int:=(Z0i.f a0)>>=fun aa=>if !aa then(some 0) else((Z4j.f a0)>>=fun ab=>(chk (0≤(u64.wrap (i64.wrap ((8:Int)-a0)))))>>=fun _=>some (i64.wrap (a1*2 ^ (min (u64.wrap (i64.wrap ((8:Int)-a0))).toNat 64))))
theorem Z2q.ok (a0 a1:Int):F0 234 [qi a0,qi a1] (Z2q.f a0 a1) (fun r=>qi r):=FT [] func234 (.r0<|.bd fun aa ab=>.rg [(1,qh call175 (Z0i.ok a0 aa ab))]<|.cd (fun ac=>.r0<|.rv ⟨[(4,qi 0)],[],0⟩)
 (fun ac=>.bd fun ae af=>.ck fun ah=>.rg [(2,qh call242 (Z4j.ok a0 ae af)),(3,hN (p1 ah))]<|.rv ⟨[(4,qi (i64.wrap (a1*2 ^ (min (Int.toNat (u64.wrap (i64.wrap ((8:Int)-a0)))) 64))))],[],0⟩))
def Z52.f (a0 a1:Int):Option Int:=(Z2q.f a0 (i64.wrap (a1-1)))>>=fun aa=>some aa
theorem Z52.ok (a0 a1:Int):F0 212 [qi a0,qi a1] (Z52.f a0 a1) (fun r=>qi r):=FT [] func212 (.r0<|.bd fun aa ab=>.rg [(3,qh call234 (Z2q.ok a0 (i64.wrap (a1-1)) aa ab))]<|.rv ⟨[(4,qi aa)],[],0⟩)
def Z04.l0 (a0:Zi) (a1:List Z0) (aa:Int):Option (Int ⊕ Unit):=if decide (aa<(a1.length:Int)) then((at? a1 aa)>>=fun ab=>(Z65.f a0.f1 ab.f0)>>=fun ac=>if !ac then(some (.inl 4)) else(((if decide (aa>0) then((at? a1 (i64.wrap (aa-1)))>>=fun ae=>some (decide (ae.f0≥ab.f0))) else(some false)):Option Bool)>>=fun af=>if af=true then(some (.inl 32)) else(if ab.f1==0 then(some (.inl 21)) else((Z52.f a0.f1 ab.f0)>>=fun ah=>if decide (ah<a0.f2) then(some (.inl 31)) else(Z04.l0 a0 a1 (i64.wrap (aa+1))))))) else(some (.inr ()))
partial_fixpoint
def Z04.f (a0:Zi) (a1:List Z0):Option Int:=if decide ((a1.length:Int)>512) then(some 9) else((Z04.l0 a0 a1 0)>>=fun | .inl rr=>(some rr) | .inr _=>(some 0))
abbrev w1_ (k:Nat) (x:Zi):Nat×Option MObj:=BW 50 Z4n k x
abbrev w2_ (k:Nat) (x:Z0):Nat×Option MObj:=BW 193 aBucket k x
theorem Z04.ok (a0:Zi) (a1:List Z0):F0 176 [.agg (Z4n a0),.im (.row (a1.map Z3))] (Z04.f a0 a1) (fun r=>qi r):=FT [] func176 (.rg [(0,⟨.k 0,.n⟩)]<|.rg [(1,hG Z3 a1)]<|.cd (fun aa=>.r0<|.rv ⟨[(4,qi 9)],[],0⟩)
 (fun aa=>.rg [(1,hG Z3 a1)]<|.bl<|.lq (.one (Z04.l0.partial_correctness a0 a1)) 0 [(0,2)] (fun _=>.one (fun ab=>⟨[(1,im a1 Z3),(2,.ptr 2 0 0),(10,im a1 Z3),(11,qi (ln a1)),(12,qi ab)],[w1_ 2 a0],0⟩) fun ab=>.r0<|.cd (fun ac=>.bl<|.el fun ae af ah=>.rg [(1,hA Z3 af ah),(3,⟨.k 3,.n⟩)]<|.bl<|.bd fun ai aj=>.rg [(4,qh call211 (Z65.ok a0.f1 ae.f0 ai aj))]<|.cd (fun ak=>.r0<|.rv ⟨[(4,qi 4)],[],0⟩)
 (fun ak=>.join (.sp (fun al=>.el fun am ao ap=>.rg [(2,hB al),(6,hA Z3 ao ap)]<|.o [(2,4),(3,5)])
 (fun al=>.rg [(2,hB al)]<|.o [(2,4),(3,5)]))
 (.st .normal (fun aq=>⟨[(1,im a1 Z3),(2,.ptr 4 0 0),(6,.ptr 5 0 0),(10,im a1 Z3),(11,qi (ln a1)),(12,qi ab),(24,bV aq)],[w1_ 4 a0,w2_ 5 ae],0⟩) fun aq=>.cd (fun ar=>.r0<|.rv ⟨[(4,qi 32)],[],0⟩)
 (fun ar=>.r0<|.cd (fun au=>.r0<|.rv ⟨[(4,qi 21)],[],0⟩)
 (fun au=>.bd fun av ax=>.rg [(4,qh call212 (Z52.ok a0.f1 ae.f0 av ax))]<|.cd (fun az=>.r0<|.rv ⟨[(4,qi 31)],[],0⟩)
 (fun az=>.r0<|.bk [(4,2)] rfl))))))
 (fun ac=>.o []))
 (.sm (.rt (fun rr=>qi rr) (fun rr=>[]))
 (.st (.exit 0) (fun _=>⟨[],[],0⟩) fun _=>.r0<|.rv ⟨[(4,qi 0)],[],0⟩))))
def Z3f.l0 (a0:List Int) (aa ab:Int):Option ((Int×Int) ⊕ Int):=if decide (ab<(a0.length:Int)) then((at? a0 ab)>>=fun ac=>(chk (0≤aa∧0≤ac∧0≤(0:Int)∧(0:Int)≤1))>>=fun _=>if((aa+ac+0) / 18446744073709551616) != 0 then(some (.inl (0,5))) else(Z3f.l0 a0 ((aa+ac+0) % 18446744073709551616) (i64.wrap (ab+1)))) else(some (.inr aa))
partial_fixpoint
def Z3f.f (a0:List Int):Option (Int×Int):=(Z3f.l0 a0 0 0)>>=fun | .inl rr=>(some rr) | .inr aa=>(some (aa,0))
theorem Z3f.ok (a0:List Int):F0 213 [.im (.row (a0.map qv))] (Z3f.f a0) (fun r=>.tup [qu r.1,qi r.2]):=FT [] func213 (.r0<|.r0<|.rg [(1,hG qv a0)]<|.bl<|.lq (.c2 (Z3f.l0.partial_correctness a0)) (0,0) [] (fun _=>.pr fun aa=>.one (fun ab=>⟨[(4,qu aa),(9,im a0 qv),(10,qi (ln a0)),(11,qi ab)],[],0⟩) fun ab=>.r0<|.cd (fun ac=>.bl<|.el fun ae af ah=>.rg [(0,hA qv af ah)]<|.ck fun ai=>.rg [(2,⟨.ext (.tup [qu ((aa+ae+0) % 18446744073709551616),qu ((aa+ae+0) / 18446744073709551616)]),.c (p:=∀ w,(callFunc 235 ([.int .u64 aa,.int .u64 ae,.int .u64 (0:Int)]:List Value).toArray).run Tryz.prog w = .ok (.value (.tuple #[.int .u64 ((aa+ae+0) % 18446744073709551616),.int .u64 ((aa+ae+0) / 18446744073709551616)])) w) (fun w=>x_add64 (fn:=Tryz.f235) func235 (by kernel_rfl) rfl (by kernel_rfl) (by kernel_rfl) ai w) .n⟩)]<|.r0<|.cd (fun aj=>.r0<|.rv ⟨[(2,qu 0),(3,qi 5)],[],0⟩)
 (fun aj=>.r0<|.r0<|.bk [] rfl))
 (fun ac=>.o []))
 (.sm (.rt (fun rr=>.tup [qu rr.1,qi rr.2]) (fun rr=>[]))
 (.st (.exit 0) (fun ak=>⟨[(4,qu ak)],[],0⟩) fun ak=>.r0<|.rv ⟨[(2,qu ak),(3,qi 0)],[],0⟩)))
def Z18.l1 (a0:List (List Z0)) (aa:List Z0) (ab ac ae:Int):Option ((Int×Int) ⊕ Int):=if decide (ae<(aa.length:Int)) then((at? aa ae)>>=fun af=>(Z3f.f [ac,af.f1])>>=fun ah=>if ah.2 != 0 then(some (.inl (0,ah.2))) else(Z18.l1 a0 aa ab ah.1 (i64.wrap (ae+1)))) else(some (.inr ac))
partial_fixpoint
def Z18.l0 (a0:List (List Z0)) (aa ab:Int):Option ((Int×Int) ⊕ Int):=if decide (ab<(a0.length:Int)) then((at? a0 ab)>>=fun ac=>(Z18.l1 a0 ac ab aa 0)>>=fun | .inl rr=>(some (.inl rr)) | .inr ae=>(Z18.l0 a0 ae (i64.wrap (ab+1)))) else(some (.inr aa))
partial_fixpoint
def Z18.f (a0:List (List Z0)):Option (Int×Int):=(Z18.l0 a0 0 0)>>=fun | .inl rr=>(some rr) | .inr aa=>(some (aa,0))
theorem Z18.ok (a0:List (List Z0)):F0 177 [.im (.row (a0.map (Z0t Z3)))] (Z18.f a0) (fun r=>.tup [qu r.1,qi r.2]):=FT [] func177 (.r0<|.r0<|.rg [(1,hG (Z0t Z3) a0)]<|.bl<|.lq (.c2 (Z18.l0.partial_correctness a0)) (0,0) [] (fun _=>.pr fun aa=>.one (fun ab=>⟨[(4,qu aa),(10,im a0 (Z0t Z3)),(11,qi (ln a0)),(12,qi ab)],[],0⟩) fun ab=>.r0<|.cd (fun ac=>.bl<|.el fun ae af ah=>.rg [(0,hA (Z0t Z3) af ah)]<|.rg [(1,hG Z3 ae)]<|.bl<|.lq (.c2 (Z18.l1.partial_correctness a0 ae ab)) (aa,0) [] (fun _=>.pr fun ai=>.one (fun aj=>⟨[(4,qu ai),(10,im a0 (Z0t Z3)),(11,qi (ln a0)),(12,qi ab),(16,im ae Z3),(17,qi (ln ae)),(18,qi aj)],[],0⟩) fun aj=>.r0<|.cd (fun ak=>.bl<|.el fun al am ao=>.rg [(0,hA Z3 am ao),(2,⟨.k 6,.n⟩)]<|.r0<|.bd fun ap aq=>.rg [(3,hQ 7 qv ([ai,al.f1]:List Int)),(4,h3 7 call213 (Z3f.ok [ai,al.f1] ap aq))]<|.r0<|.cd (fun ar=>.r0<|.rv ⟨[(2,qu 0),(3,qi ap.2)],[],0⟩)
 (fun ar=>.r0<|.bk [] rfl))
 (fun ak=>.o []))
 (.sm (.rt (fun rr=>.tup [qu rr.1,qi rr.2]) (fun rr=>[]))
 (.st (.exit 2) (fun au=>⟨[(4,qu au),(10,im a0 (Z0t Z3)),(11,qi (ln a0)),(12,qi ab)],[],0⟩) fun au=>.r0<|.bk [] rfl)))
 (fun ac=>.o []))
 (.sm (.rt (fun rr=>.tup [qu rr.1,qi rr.2]) (fun rr=>[]))
 (.st (.exit 0) (fun av=>⟨[(4,qu av)],[],0⟩) fun av=>.r0<|.rv ⟨[(2,qu av),(3,qi 0)],[],0⟩)))
def Z0f.l0 (a0:Zi) (aa:Int):Option (Int ⊕ Unit):=if decide (aa<2) then((((chk (0≤aa∧aa<2))>>=fun _=>if aa==0 then(some a0.f6) else(some a0.f7)):Option (List Z0))>>=fun ab=>(Z04.f a0 ab)>>=fun ac=>if ac != 0 then(some (.inl ac)) else(Z0f.l0 a0 (i64.wrap (aa+1)))) else(some (.inr ()))
partial_fixpoint
def Z0f.f (a0:Zi):Option Int:=((if a0.f0 != 0 then(some (a0.f0 != 1)) else(some false)):Option Bool)>>=fun aa=>if aa=true then(some 25) else((Z0i.f a0.f1)>>=fun ab=>if !ab then(some 20) else(((if a0.f2 != (-524288) then(if decide (a0.f2≤(-262144)) then(some true) else(some (decide (a0.f2>262144)))) else(some false)):Option Bool)>>=fun ac=>if ac=true then(some 31) else((Z0f.l0 a0 0)>>=fun | .inl rr=>(some rr) | .inr _=>((Z18.f [a0.f6,a0.f7,[(⟨0,a0.f3⟩:Z0)]])>>=fun ae=>if ae.2 != 0 then(some ae.2) else(if ae.1 != a0.f4 then(some 21) else(some 0))))))
theorem Z0f.ok (a0:Zi):F0 108 [.agg (Z4n a0)] (Z0f.f a0) (fun r=>qi r):=FT [] func108 (.rg [(0,⟨.k 0,.n⟩)]<|.bl<|.join (.sp (fun aa=>.rg [(3,hB aa)]<|.o [(0,1)])
 (fun aa=>.rg [(3,hB aa)]<|.o [(0,1)]))
 (.st .normal (fun ab=>⟨[(1,.ptr 1 0 0),(8,bV ab)],[w1_ 1 a0],0⟩) fun ab=>.cd (fun ac=>.r0<|.rv ⟨[(2,qi 25)],[],0⟩)
 (fun ac=>.bd fun ae af=>.rg [(2,qh call175 (Z0i.ok a0.f1 ae af))]<|.cd (fun ah=>.r0<|.rv ⟨[(2,qi 20)],[],0⟩)
 (fun ah=>.join (.sp (fun ai=>.sp (fun aj=>.rg [(3,hB ai),(7,hB aj)]<|.o [(1,2)])
 (fun aj=>.rg [(3,hB ai),(7,hB aj)]<|.o [(1,2)]))
 (fun ai=>.rg [(3,hB ai)]<|.o [(1,2)]))
 (.st .normal (fun ak=>⟨[(1,.ptr 2 0 0),(22,bV ak)],[w1_ 2 a0],0⟩) fun ak=>.cd (fun al=>.r0<|.rv ⟨[(2,qi 31)],[],0⟩)
 (fun al=>.r0<|.bl<|.lq (.one (Z0f.l0.partial_correctness a0)) 0 [(2,3)] (fun _=>.one (fun am=>⟨[(1,.ptr 3 0 0),(40,.agg [im a0.f6 Z3,im a0.f7 Z3]),(41,qi am)],[w1_ 3 a0],0⟩) fun am=>.r0<|.cd (fun ao=>.bl<|.join (.ck fun ap=>.sp (fun aq=>.rg [(0,⟨.more (xIdx 0),.c (p:=am=((0:Nat):Int)) (by simpa using aq) .n⟩)]<|.o [(3,4)])
 (fun aq=>.rg [(0,⟨.more (xIdx 1),.c (p:=am=((1:Nat):Int)) (by have:=ap;simp only[beq_eq_false_iff_ne] at *;omega) .n⟩)]<|.o [(3,4)]))
 (.st .normal (fun ar=>⟨[(1,.ptr 4 0 0),(4,im ar Z3),(40,.agg [im a0.f6 Z3,im a0.f7 Z3]),(41,qi am)],[w1_ 4 a0],0⟩) fun ar=>.bd fun au av=>.rg [(2,qh call176 (Z04.ok a0 ar au av))]<|.r0<|.cd (fun ax=>.r0<|.rv ⟨[(2,qi au)],[],0⟩)
 (fun ax=>.r0<|.bk [(4,3)] rfl)))
 (fun ao=>.o [(3,5)]))
 (.sm (.rt (fun rr=>qi rr) (fun rr=>[]))
 (.st (.exit 1) (fun _=>⟨[(1,.ptr 5 0 0)],[w1_ 5 a0],0⟩) fun _=>.bd fun az a8=>.rg [(7,fzI (hQ 6 Z3 ([(⟨0,a0.f3⟩:Z0)]:List Z0))),(8,hQ 7 (Z0t Z3) ([a0.f6,a0.f7,[(⟨0,a0.f3⟩:Z0)]]:List (List Z0))),(9,h3 7 call177 (Z18.ok [a0.f6,a0.f7,[(⟨0,a0.f3⟩:Z0)]] az a8))]<|.bl<|.r0<|.cd (fun ba=>.r0<|.rv ⟨[(2,qi az.2)],[],0⟩)
 (fun ba=>.r0<|.cd (fun bb=>.r0<|.rv ⟨[(2,qi 21)],[],0⟩)
 (fun bb=>.r0<|.rv ⟨[(2,qi 0)],[],0⟩))))))))))
def Z1h.l0 (a0:List Z6) (aa:Int):Option (Bool ⊕ Unit):=if decide (aa<(a0.length:Int)) then((at? a0 aa)>>=fun ab=>((if decide (ab.f0<0) then(some true) else(if decide (ab.f0>1099511627776) then(some true) else((Z0f.f ab.f1)>>=fun ac=>if ac != 0 then(some true) else(if decide (aa>0) then((at? a0 (i64.wrap (aa-1)))>>=fun ae=>some (decide (ae.f0≥ab.f0))) else(some false))))):Option Bool)>>=fun af=>if af=true then(some (.inl false)) else(Z1h.l0 a0 (i64.wrap (aa+1)))) else(some (.inr ()))
partial_fixpoint
def Z1h.f (a0:List Z6):Option Bool:=(Z1h.l0 a0 0)>>=fun | .inl rr=>(some rr) | .inr _=>(some true)
theorem Z1h.ok (a0:List Z6):F0 56 [.im (.row (a0.map Z5))] (Z1h.f a0) (fun r=>bV r):=FT [] func56 (.r0<|.rg [(1,hG Z5 a0)]<|.bl<|.lq (.one (Z1h.l0.partial_correctness a0)) 0 [] (fun _=>.one (fun aa=>⟨[(0,im a0 Z5),(5,im a0 Z5),(6,qi (ln a0)),(7,qi aa)],[],0⟩) fun aa=>.r0<|.cd (fun ab=>.bl<|.el fun ac ae af=>.rg [(1,hA Z5 ae af),(3,⟨.k 1,.n⟩)]<|.join (.sp (fun ah=>.rg [(3,hB ah)]<|.o [])
 (fun ah=>.sp (fun ai=>.rg [(3,hB ah),(8,hB ai)]<|.o [])
 (fun ai=>.bd fun aj ak=>.sp (fun al=>.rg [(3,hB ah),(8,hB ai),(11,qh call108 (Z0f.ok ac.f1 aj ak)),(14,hB al)]<|.o [])
 (fun al=>.sp (fun am=>.el fun ao ap aq=>.rg [(3,hB ah),(8,hB ai),(11,qh call108 (Z0f.ok ac.f1 aj ak)),(14,hB al),(17,hB am),(21,hA Z5 ap aq)]<|.o [])
 (fun am=>.rg [(3,hB ah),(8,hB ai),(11,qh call108 (Z0f.ok ac.f1 aj ak)),(14,hB al),(17,hB am)]<|.o [])))))
 (.st .normal (fun ar=>⟨[(0,im a0 Z5),(5,im a0 Z5),(6,qi (ln a0)),(7,qi aa),(40,bV ar)],[],0⟩) fun ar=>.cd (fun au=>.r0<|.rv ⟨[(2,bV false)],[],0⟩)
 (fun au=>.r0<|.bk [] rfl)))
 (fun ab=>.o []))
 (.sm (.rt (fun rr=>bV rr) (fun rr=>[]))
 (.st (.exit 0) (fun _=>⟨[],[],0⟩) fun _=>.r0<|.rv ⟨[(2,bV true)],[],0⟩)))
def Z1d.l0 (a0:Z2) (aa:Int):Option (Int ⊕ Unit):=if decide (aa<(a0.f1.length:Int)) then((at? a0.f1 aa)>>=fun ab=>(Z0e.f ab.f0)>>=fun ac=>((if ac.2 != 0 then(some true) else(if decide (aa>0) then((at? a0.f1 (i64.wrap (aa-1)))>>=fun ae=>some (!Op.bytesLess ae.f0.toList ab.f0.toList)) else(some false))):Option Bool)>>=fun af=>if af=true then(some (.inl 26)) else(((if(ab.f1.length:Int)==0 then(some true) else((Z1h.f ab.f1)>>=fun ah=>if !ah then(some true) else((at? ab.f1 0)>>=fun ai=>if decide (ai.f0<a0.f0.f0) then(some true) else((at? ab.f1 (i64.wrap ((ab.f1.length:Int)-1)))>>=fun aj=>some (decide (aj.f0≥a0.f0.f1)))))):Option Bool)>>=fun ak=>if ak=true then(some (.inl 22)) else(Z1d.l0 a0 (i64.wrap (aa+1))))) else(some (.inr ()))
partial_fixpoint
def Z1d.f (a0:Z2):Option Int:=(Z5j.f a0.f0)>>=fun aa=>if !aa then(some 4) else(((if(a0.f1.length:Int)==0 then(some true) else(some (decide ((a0.f1.length:Int)>64)))):Option Bool)>>=fun ab=>if ab=true then(some 9) else((Z1d.l0 a0 0)>>=fun | .inl rr=>(some rr) | .inr _=>(some 0)))
abbrev v0_ (k:Nat) (x:List AVal):Nat×Option MObj:=BX 36 k x
abbrev w3_ (k:Nat) (x:Zh):Nat×Option MObj:=BW 30 Z4s k x
theorem Z1d.ok (a0:Z2):F0 19 [.agg (Z4r ⟨a0.f0.f0,a0.f0.f1,a0.f0.f2,a0.f1⟩)] (Z1d.f a0) (fun r=>qi r):=FT [] func19 (.rg [(0,⟨.k 0,.n⟩)]<|.bd fun aa ab=>.rg [(2,qh call55 (Z5j.ok a0.f0 aa ab))]<|.cd (fun ac=>.r0<|.rv ⟨[(2,qi 4)],[],0⟩)
 (fun ac=>.join (.sp (fun ae=>.rg [(2,hG Z7 a0.f1),(4,hB ae)]<|.o [(0,1)])
 (fun ae=>.rg [(2,hG Z7 a0.f1),(4,hB ae),(7,hG Z7 a0.f1)]<|.o [(0,1)]))
 (.st .normal (fun af=>⟨[(1,.ptr 1 0 0),(21,bV af)],[v0_ 1 [qi a0.f0.f0,qi a0.f0.f1,qi a0.f0.f2,im a0.f1 Z7]],0⟩) fun af=>.cd (fun ah=>.r0<|.rv ⟨[(2,qi 9)],[],0⟩)
 (fun ah=>.rg [(2,hG Z7 a0.f1)]<|.bl<|.lq (.one (Z1d.l0.partial_correctness a0)) 0 [(1,7)] (fun _=>.one (fun ai=>⟨[(1,.ptr 7 0 0),(23,im a0.f1 Z7),(24,qi (ln a0.f1)),(25,qi ai)],[v0_ 7 [qi a0.f0.f0,qi a0.f0.f1,qi a0.f0.f2,im a0.f1 Z7]],0⟩) fun ai=>.r0<|.cd (fun aj=>.bl<|.el fun ak al am=>.rg [(1,hA Z7 al am),(3,⟨.k 8,.n⟩)]<|.bd fun ao ap=>.rg [(2,h1 9 call49 (Z0e.ok ak.f0 ao ap))]<|.join (.sp (fun aq=>.rg [(2,hB aq)]<|.o [(7,10),(8,11)])
 (fun aq=>.sp (fun ar=>.el fun au av ax=>.rg [(2,hB aq),(5,hB ar),(10,hA Z7 av ax)]<|.o [(7,10),(8,11)])
 (fun ar=>.rg [(2,hB aq),(5,hB ar)]<|.o [(7,10),(8,11)])))
 (.st .normal (fun az=>⟨[(1,.ptr 10 0 0),(4,.ptr 11 0 0),(23,im a0.f1 Z7),(24,qi (ln a0.f1)),(25,qi ai),(53,bV az)],[v0_ 10 [qi a0.f0.f0,qi a0.f0.f1,qi a0.f0.f2,im a0.f1 Z7],w3_ 11 ak],0⟩) fun az=>.cd (fun a8=>.r0<|.rv ⟨[(2,qi 26)],[],0⟩)
 (fun a8=>.rg [(2,hG Z5 ak.f1)]<|.join (.sp (fun ba=>.rg [(2,hB ba)]<|.o [(10,12)])
 (fun ba=>.bd fun bb bc=>.sp (fun be=>.rg [(2,hB ba),(5,qh call56 (Z1h.ok ak.f1 bb bc)),(8,hB be)]<|.o [(10,12)])
 (fun be=>.el fun bf bg bh=>.sp (fun bi=>.rg [(2,hB ba),(5,qh call56 (Z1h.ok ak.f1 bb bc)),(8,hB be),(11,hA Z5 bg bh),(19,hB bi)]<|.o [(10,12)])
 (fun bi=>.el fun bj bn bo=>.rg [(2,hB ba),(5,qh call56 (Z1h.ok ak.f1 bb bc)),(8,hB be),(11,hA Z5 bg bh),(19,hB bi),(24,hA Z5 bn bo)]<|.o [(10,12)]))))
 (.st .normal (fun bp=>⟨[(1,.ptr 12 0 0),(23,im a0.f1 Z7),(24,qi (ln a0.f1)),(25,qi ai),(88,bV bp)],[v0_ 12 [qi a0.f0.f0,qi a0.f0.f1,qi a0.f0.f2,im a0.f1 Z7]],0⟩) fun bp=>.cd (fun bq=>.r0<|.rv ⟨[(2,qi 22)],[],0⟩)
 (fun bq=>.r0<|.bk [(12,7)] rfl)))))
 (fun aj=>.o []))
 (.sm (.rt (fun rr=>qi rr) (fun rr=>[]))
 (.st (.exit 0) (fun _=>⟨[],[],0⟩) fun _=>.r0<|.rv ⟨[(2,qi 0)],[],0⟩))))))
noncomputable def Z2j.f  : Option Bool:=(Z12.f [(⟨(⟨#[97]⟩:ByteArray),(⟨#[120]⟩:ByteArray)⟩:Z0d)])>>=fun aa=>(Za.f 0 [(⟨aa,[(⟨0,(⟨0,0,(-524288),0,0,0,[],[]⟩:Zi)⟩:Z6),(⟨63,(⟨0,0,(-524288),0,0,0,[],[]⟩:Zi)⟩:Z6),(⟨64,(⟨0,0,(-524288),0,0,0,[],[]⟩:Zi)⟩:Z6)]⟩:Zh)])>>=fun ab=>((if(ab.length:Int)==2 then((at? ab 0)>>=fun ac=>if ac.f0.f0==0 then((at? ab 1)>>=fun ae=>if ae.f0.f0==64 then((Z1d.f ac)>>=fun af=>some (af==0)) else(some false)) else(some false)) else(some false)):Option Bool)>>=fun ah=>some ah
theorem Z2j.ok  : F0 8 [] (Z2j.f ) (fun r=>bV r):=FT [] func8 (.r0<|.rg [(1,⟨.k 0,.n⟩)]<|.bd fun aa ab=>.bd fun ac ae=>.rg [(1,hQ 1 Z2s ([(⟨(⟨#[97]⟩:ByteArray),(⟨#[120]⟩:ByteArray)⟩:Z0d)]:List Z0d)),(2,h3 1 call27 (Z12.ok [(⟨(⟨#[97]⟩:ByteArray),(⟨#[120]⟩:ByteArray)⟩:Z0d)] aa ab)),(9,fzI (hQ 2 Z5 ([(⟨0,(⟨0,0,(-524288),0,0,0,[],[]⟩:Zi)⟩:Z6),(⟨63,(⟨0,0,(-524288),0,0,0,[],[]⟩:Zi)⟩:Z6),(⟨64,(⟨0,0,(-524288),0,0,0,[],[]⟩:Zi)⟩:Z6)]:List Z6))),(11,hQ 3 Z7 ([(⟨aa,[(⟨0,(⟨0,0,(-524288),0,0,0,[],[]⟩:Zi)⟩:Z6),(⟨63,(⟨0,0,(-524288),0,0,0,[],[]⟩:Zi)⟩:Z6),(⟨64,(⟨0,0,(-524288),0,0,0,[],[]⟩:Zi)⟩:Z6)]⟩:Zh)]:List Zh)),(12,hC [] [(0,4)] [3] [4] call9 (Za.ok 0 [(⟨aa,[(⟨0,(⟨0,0,(-524288),0,0,0,[],[]⟩:Zi)⟩:Z6),(⟨63,(⟨0,0,(-524288),0,0,0,[],[]⟩:Zi)⟩:Z6),(⟨64,(⟨0,0,(-524288),0,0,0,[],[]⟩:Zi)⟩:Z6)]⟩:Zh)] ac ae))]<|.join (.sp (fun af=>.el fun ah ai aj=>.sp (fun ak=>.el fun al am ao=>.sp (fun ap=>.bd fun aq ar=>.rg [(1,hG Zn ac),(3,hB af),(5,hX Zn ai aj),(8,hL Zn aj),(11,hB ak),(13,hX Zn am ao),(16,hL Zn ao),(19,hB ap),(21,hX Zn ai aj),(22,hL Zn aj),(23,qh call19 (Z1d.ok ah aq ar))]<|.o [])
 (fun ap=>.rg [(1,hG Zn ac),(3,hB af),(5,hX Zn ai aj),(8,hL Zn aj),(11,hB ak),(13,hX Zn am ao),(16,hL Zn ao),(19,hB ap)]<|.o []))
 (fun ak=>.rg [(1,hG Zn ac),(3,hB af),(5,hX Zn ai aj),(8,hL Zn aj),(11,hB ak)]<|.o []))
 (fun af=>.rg [(1,hG Zn ac),(3,hB af)]<|.o []))
 (.st .normal (fun au=>⟨[(0,bV au)],[],0⟩) fun au=>.rv ⟨[(0,bV au)],[],0⟩))
def Z10.l0 (a0 aa ab:Int):Option Int:=((if decide (ab<a0) then(some (decide (ab<4))) else(some false)):Option Bool)>>=fun ac=>if ac=true then(Z10.l0 a0 (i64.wrap (aa*4)) (i64.wrap (ab+1))) else(some aa)
partial_fixpoint
def Z10.f (a0:Int):Option Int:=(Z10.l0 a0 64 0)>>=fun aa=>some aa
theorem Z10.ok (a0:Int):F0 21 [qi a0] (Z10.f a0) (fun r=>qi r):=FT [] func21 (.r0<|.r0<|.r0<|.bl<|.lq (.c2 (Z10.l0.partial_correctness a0)) (64,0) [] (fun _=>.pr fun aa=>.one (fun ab=>⟨[(0,qi a0),(3,qi aa),(4,qi ab)],[],0⟩) fun ab=>.join (.sp (fun ac=>.rg [(3,hB ac)]<|.o [])
 (fun ac=>.rg [(3,hB ac)]<|.o []))
 (.st .normal (fun ae=>⟨[(0,qi a0),(3,qi aa),(4,qi ab),(11,bV ae)],[],0⟩) fun ae=>.cd (fun af=>.bl<|.r0<|.r0<|.bk [] rfl)
 (fun af=>.o [])))
 (.st (.exit 0) (fun ah=>⟨[(3,qi ah)],[],0⟩) fun ah=>.r0<|.rv ⟨[(2,qi ah)],[],0⟩))
def Z3h.l0 (a0:ByteArray) (aa:Int):Option (Bool ⊕ Unit):=if decide (aa<(a0.size:Int)) then((chk (0≤aa∧aa<(a0.size:Int)))>>=fun _=>((if(bt a0 aa)==95 then(some true) else(if decide ((bt a0 aa)≥65) then(if decide ((bt a0 aa)≤90) then(some true) else(if decide ((bt a0 aa)≥97) then(if decide ((bt a0 aa)≤122) then(some true) else(if decide (aa>0) then(if decide ((bt a0 aa)≥48) then(some (decide ((bt a0 aa)≤57))) else(some false)) else(some false))) else(if decide (aa>0) then(if decide ((bt a0 aa)≥48) then(some (decide ((bt a0 aa)≤57))) else(some false)) else(some false)))) else(if decide ((bt a0 aa)≥97) then(if decide ((bt a0 aa)≤122) then(some true) else(if decide (aa>0) then(if decide ((bt a0 aa)≥48) then(some (decide ((bt a0 aa)≤57))) else(some false)) else(some false))) else(if decide (aa>0) then(if decide ((bt a0 aa)≥48) then(some (decide ((bt a0 aa)≤57))) else(some false)) else(some false))))):Option Bool)>>=fun ab=>if !ab then(some (.inl false)) else(Z3h.l0 a0 (i64.wrap (aa+1)))) else(some (.inr ()))
partial_fixpoint
def Z3h.f (a0:ByteArray):Option Bool:=((if decide ((a0.size:Int)<1) then(some true) else(some (decide ((a0.size:Int)>64)))):Option Bool)>>=fun aa=>if aa=true then(some false) else((Z3h.l0 a0 0)>>=fun | .inl rr=>(some rr) | .inr _=>(some true))
theorem Z3h.ok (a0:ByteArray):F0 125 [sV a0] (Z3h.f a0) (fun r=>bV r):=FT [] func125 (.r0<|.join (.sp (fun aa=>.rg [(3,hB aa)]<|.o [])
 (fun aa=>.rg [(3,hB aa)]<|.o []))
 (.st .normal (fun ab=>⟨[(0,sV a0),(13,bV ab)],[],0⟩) fun ab=>.cd (fun ac=>.r0<|.rv ⟨[(2,bV false)],[],0⟩)
 (fun ac=>.r0<|.bl<|.lq (.one (Z3h.l0.partial_correctness a0)) 0 [] (fun _=>.one (fun ae=>⟨[(0,sV a0),(3,qi ae)],[],0⟩) fun ae=>.r0<|.cd (fun af=>.bl<|.ck fun ah=>.rg [(2,hN (p2 ah))]<|.join (.sp (fun ai=>.rg [(2,hB ai)]<|.o [])
 (fun ai=>.sp (fun aj=>.sp (fun ak=>.rg [(2,hB ai),(5,hB aj),(10,hB ak)]<|.o [])
 (fun ak=>.sp (fun al=>.sp (fun am=>.rg [(2,hB ai),(5,hB aj),(10,hB ak),(13,hB al),(18,hB am)]<|.o [])
 (fun am=>.sp (fun ao=>.sp (fun ap=>.rg [(2,hB ai),(5,hB aj),(10,hB ak),(13,hB al),(18,hB am),(21,hB ao),(25,hB ap)]<|.o [])
 (fun ap=>.rg [(2,hB ai),(5,hB aj),(10,hB ak),(13,hB al),(18,hB am),(21,hB ao),(25,hB ap)]<|.o []))
 (fun ao=>.rg [(2,hB ai),(5,hB aj),(10,hB ak),(13,hB al),(18,hB am),(21,hB ao)]<|.o [])))
 (fun al=>.sp (fun aq=>.sp (fun ar=>.rg [(2,hB ai),(5,hB aj),(10,hB ak),(13,hB al),(21,hB aq),(25,hB ar)]<|.o [])
 (fun ar=>.rg [(2,hB ai),(5,hB aj),(10,hB ak),(13,hB al),(21,hB aq),(25,hB ar)]<|.o []))
 (fun aq=>.rg [(2,hB ai),(5,hB aj),(10,hB ak),(13,hB al),(21,hB aq)]<|.o []))))
 (fun aj=>.sp (fun au=>.sp (fun av=>.rg [(2,hB ai),(5,hB aj),(13,hB au),(18,hB av)]<|.o [])
 (fun av=>.sp (fun ax=>.sp (fun az=>.rg [(2,hB ai),(5,hB aj),(13,hB au),(18,hB av),(21,hB ax),(25,hB az)]<|.o [])
 (fun az=>.rg [(2,hB ai),(5,hB aj),(13,hB au),(18,hB av),(21,hB ax),(25,hB az)]<|.o []))
 (fun ax=>.rg [(2,hB ai),(5,hB aj),(13,hB au),(18,hB av),(21,hB ax)]<|.o [])))
 (fun au=>.sp (fun a8=>.sp (fun ba=>.rg [(2,hB ai),(5,hB aj),(13,hB au),(21,hB a8),(25,hB ba)]<|.o [])
 (fun ba=>.rg [(2,hB ai),(5,hB aj),(13,hB au),(21,hB a8),(25,hB ba)]<|.o []))
 (fun a8=>.rg [(2,hB ai),(5,hB aj),(13,hB au),(21,hB a8)]<|.o [])))))
 (.st .normal (fun bb=>⟨[(0,sV a0),(3,qi ae),(5,bV bb)],[],0⟩) fun bb=>.r0<|.cd (fun bc=>.r0<|.rv ⟨[(2,bV false)],[],0⟩)
 (fun bc=>.r0<|.bk [] rfl)))
 (fun af=>.o []))
 (.sm (.rt (fun rr=>bV rr) (fun rr=>[]))
 (.st (.exit 0) (fun _=>⟨[],[],0⟩) fun _=>.r0<|.rv ⟨[(2,bV true)],[],0⟩)))))
def Z3i.l0 (a0:List Z0d) (aa:Int):Option (Int ⊕ Unit):=if decide (aa<(a0.length:Int)) then((((at? a0 aa)>>=fun ab=>(Z3h.f ab.f0)>>=fun ac=>if !ac then(some true) else(if decide ((ab.f1.size:Int)<1) then(some true) else(some (decide ((ab.f1.size:Int)>64))))):Option Bool)>>=fun ae=>if ae=true then(some (.inl 26)) else(((if decide (aa>0) then((at? a0 (i64.wrap (aa-1)))>>=fun af=>(at? a0 aa)>>=fun ah=>some (!(Op.bytesLess af.f0.toList ah.f0.toList))) else(some false)):Option Bool)>>=fun ai=>if ai=true then(some (.inl 26)) else(Z3i.l0 a0 (i64.wrap (aa+1))))) else(some (.inr ()))
partial_fixpoint
def Z3i.f (a0:List Z0d):Option Int:=if decide ((a0.length:Int)>16) then(some 9) else((Z3i.l0 a0 0)>>=fun | .inl rr=>(some rr) | .inr _=>(some 0))
theorem Z3i.ok (a0:List Z0d):F0 73 [.im (.row (a0.map Z2s))] (Z3i.f a0) (fun r=>qi r):=FT [] func73 (.r0<|.rg [(1,hG Z2s a0)]<|.cd (fun aa=>.r0<|.rv ⟨[(2,qi 9)],[],0⟩)
 (fun aa=>.r0<|.bl<|.lq (.one (Z3i.l0.partial_correctness a0)) 0 [] (fun _=>.one (fun ab=>⟨[(0,im a0 Z2s),(3,qi ab)],[],0⟩) fun ab=>.rg [(2,hG Z2s a0)]<|.cd (fun ac=>.bl<|.join (.el fun ae af ah=>.bd fun ai aj=>.sp (fun ak=>.rg [(2,hA Z2s af ah),(5,qh call125 (Z3h.ok ae.f0 ai aj)),(7,hB ak)]<|.o [])
 (fun ak=>.sp (fun al=>.rg [(2,hA Z2s af ah),(5,qh call125 (Z3h.ok ae.f0 ai aj)),(7,hB ak),(10,hA Z2s af ah),(16,hB al)]<|.o [])
 (fun al=>.rg [(2,hA Z2s af ah),(5,qh call125 (Z3h.ok ae.f0 ai aj)),(7,hB ak),(10,hA Z2s af ah),(16,hB al),(19,hA Z2s af ah)]<|.o [])))
 (.st .normal (fun am=>⟨[(0,im a0 Z2s),(3,qi ab),(37,bV am)],[],0⟩) fun am=>.cd (fun ao=>.r0<|.rv ⟨[(2,qi 26)],[],0⟩)
 (fun ao=>.join (.sp (fun ap=>.el fun aq ar au=>.el fun av ax az=>.rg [(2,hB ap),(6,hA Z2s ar au),(11,hA Z2s ax az)]<|.o [])
 (fun ap=>.rg [(2,hB ap)]<|.o []))
 (.st .normal (fun a8=>⟨[(0,im a0 Z2s),(3,qi ab),(54,bV a8)],[],0⟩) fun a8=>.cd (fun ba=>.r0<|.rv ⟨[(2,qi 26)],[],0⟩)
 (fun ba=>.r0<|.bk [] rfl)))))
 (fun ac=>.o []))
 (.sm (.rt (fun rr=>qi rr) (fun rr=>[]))
 (.st (.exit 0) (fun _=>⟨[],[],0⟩) fun _=>.r0<|.rv ⟨[(2,qi 0)],[],0⟩))))
def Z2b.l0 (aa:ByteArray) (ab:List ByteArray):Option (Bool ⊕ (List ByteArray)):=if decide ((aa.size:Int)>0) then((chk (0≤(0:Int)∧(0:Int)<(aa.size:Int)))>>=fun _=>if decide ((i64.wrap ((i64.wrap (bt aa 0))+1))>(aa.size:Int)) then(some (.inl false)) else((chk (0≤(1:Int)∧(1:Int)≤(i64.wrap ((i64.wrap (bt aa 0))+1))∧(i64.wrap ((i64.wrap (bt aa 0))+1))≤(aa.size:Int)))>>=fun _=>(chk ((ab.length+[aa.extract (1:Int).toNat ((i64.wrap ((i64.wrap (bt aa 0))+1))).toNat].length)*16≤140737488355328))>>=fun _=>(chk (0≤(i64.wrap ((i64.wrap (bt aa 0))+1))∧(i64.wrap ((i64.wrap (bt aa 0))+1))≤(aa.size:Int)∧(aa.size:Int)≤(aa.size:Int)))>>=fun _=>Z2b.l0  (aa.extract ((i64.wrap ((i64.wrap (bt aa 0))+1))).toNat (aa.size:Int).toNat) (ab++[aa.extract (1:Int).toNat ((i64.wrap ((i64.wrap (bt aa 0))+1))).toNat]))) else(some (.inr ab))
partial_fixpoint
def Z2b.l1 (aa:List ByteArray) (ab:List Z0d) (ac:Int):Option (List Z0d):=if decide ((i64.wrap (ac+1))<(aa.length:Int)) then((at? aa ac)>>=fun ae=>(at? aa (i64.wrap (ac+1)))>>=fun af=>(chk ((ab.length+[(⟨ae,af⟩:Z0d)].length)*32≤140737488355328))>>=fun _=>Z2b.l1 aa (ab++[(⟨ae,af⟩:Z0d)]) (i64.wrap (ac+2))) else(some ab)
partial_fixpoint
def Z2b.f (a0:ByteArray):Option Bool:=(Z2b.l0  a0 [])>>=fun | .inl rr=>(some rr) | .inr aa=>(if(Int.tmod (aa.length:Int) (2:Int))==1 then(some false) else((Z2b.l1 aa [] 0)>>=fun ab=>(Z3i.f ab)>>=fun ac=>some (ac==0)))
theorem Z2b.ok (a0:ByteArray):F0 25 [sV a0] (Z2b.f a0) (fun r=>bV r):=FT [] func25 (.r0<|.r0<|.bl<|.loop (.c2 (Z2b.l0.partial_correctness )) (a0,[]) [] [] [2] (fun _=>.pr fun aa=>.one (fun ab=>⟨[(0,sV aa),(3,.own 2)],[q4 2 ab],0⟩) fun ab=>.r0<|.cd (fun ac=>.bl<|.ck fun ae=>.rg [(1,hN (p2 ae))]<|.r0<|.cd (fun af=>.r0<|.rv ⟨[(2,bV false)],[],0⟩)
 (fun af=>.ck fun ah=>.ck fun ai=>.rg [(4,hN (p3 ah)),(5,hQ 3 qs ([aa.extract (Int.toNat (1:Int)) (Int.toNat ((i64.wrap ((i64.wrap (bt aa 0))+1))))]:List ByteArray)),(6,hP 4 qs 1 ai)]<|.ck fun aj=>.rg [(3,hN (p3 aj))]<|.bk [(4,2)] rfl))
 (fun ac=>.o [(2,5)]))
 (.sm (.rt (fun rr=>bV rr) (fun rr=>[]))
 (.st (.exit 0) (fun ak=>⟨[(3,.own 5)],[q4 5 ak],0⟩) fun ak=>.rg [(1,hG qs ak),(2,hJ 2)]<|.cd (fun al=>.r0<|.rv ⟨[(2,bV false)],[],0⟩)
 (fun al=>.r0<|.r0<|.bl<|.loop (.c2 (Z2b.l1.partial_correctness ak)) ([],0) [(5,8)] [] [9] (fun _=>.pr fun am=>.one (fun ao=>⟨[(3,.own 8),(5,.own 9),(6,qi ao)],[q4 8 ak,q3 9 am],0⟩) fun ao=>.rg [(3,hG qs ak)]<|.cd (fun ap=>.bl<|.el fun aq ar au=>.el fun av ax az=>.ck fun a8=>.rg [(3,hX qs ar au),(4,hL qs au),(8,hX qs ax az),(9,hL qs az),(11,hQ 10 Z2s ([(⟨aq,av⟩:Z0d)]:List Z0d)),(12,hP 11 Z2s 2 a8)]<|.r0<|.bk [(8,8),(11,9)] rfl)
 (fun ap=>.o [(9,12)]))
 (.st (.exit 2) (fun ba=>⟨[(5,.own 12)],[q3 12 ba],0⟩) fun ba=>.bd fun bb bc=>.rg [(1,h3 12 call73 (Z3i.ok ba bb bc))]<|.rv ⟨[(2,bV (bb==0))],[],0⟩)))))
def Z58.f (a0:Int):Option Bool:=((if decide (a0≥0) then(some (decide (a0≤1099511627776))) else(some false)):Option Bool)>>=fun aa=>some aa
theorem Z58.ok (a0:Int):F0 74 [qi a0] (Z58.f a0) (fun r=>bV r):=FT [] func74 (.r0<|.join (.sp (fun aa=>.rg [(2,hB aa)]<|.o [])
 (fun aa=>.rg [(2,hB aa)]<|.o []))
 (.st .normal (fun ab=>⟨[(2,bV ab)],[],0⟩) fun ab=>.rv ⟨[(2,bV ab)],[],0⟩))
def Z0w.f (a0:Int):Option Bool:=((if decide (a0≥(-4)) then(some (decide (a0≤8))) else(some false)):Option Bool)>>=fun aa=>some aa
theorem Z0w.ok (a0:Int):F0 126 [qi a0] (Z0w.f a0) (fun r=>bV r):=FT [] func126 (.r0<|.join (.sp (fun aa=>.rg [(2,hB aa)]<|.o [])
 (fun aa=>.rg [(2,hB aa)]<|.o []))
 (.st .normal (fun ab=>⟨[(2,bV ab)],[],0⟩) fun ab=>.rv ⟨[(2,bV ab)],[],0⟩))
def Z3k.l0 (aa ab:Int):Option Int:=if decide (ab<8) then(Z3k.l0  (i64.wrap (aa*2)) (i64.wrap (ab+1))) else(some aa)
partial_fixpoint
def Z3k.f (a0:Int):Option Int:=(Z3k.l0  1 a0)>>=fun aa=>some aa
theorem Z3k.ok (a0:Int):F0 188 [qi a0] (Z3k.f a0) (fun r=>qi r):=FT [] func188 (.r0<|.r0<|.r0<|.bl<|.lq (.c2 (Z3k.l0.partial_correctness )) (1,a0) [] (fun _=>.pr fun aa=>.one (fun ab=>⟨[(3,qi aa),(4,qi ab)],[],0⟩) fun ab=>.r0<|.cd (fun ac=>.bl<|.r0<|.r0<|.bk [] rfl)
 (fun ac=>.o []))
 (.st (.exit 0) (fun ae=>⟨[(3,qi ae)],[],0⟩) fun ae=>.r0<|.rv ⟨[(2,qi ae)],[],0⟩))
def Z0v.f (a0 a1:Int):Option Int:=(Z0w.f a0)>>=fun aa=>if !aa then(some 0) else((Z3k.f a0)>>=fun ab=>some (i64.wrap (a1*ab)))
theorem Z0v.ok (a0 a1:Int):F0 128 [qi a0,qi a1] (Z0v.f a0 a1) (fun r=>qi r):=FT [] func128 (.r0<|.bd fun aa ab=>.rg [(1,qh call126 (Z0w.ok a0 aa ab))]<|.cd (fun ac=>.r0<|.rv ⟨[(4,qi 0)],[],0⟩)
 (fun ac=>.bd fun ae af=>.rg [(2,qh call188 (Z3k.ok a0 ae af))]<|.rv ⟨[(4,qi (i64.wrap (a1*ae)))],[],0⟩))
def Z88.f (a0 a1:Int):Option Bool:=(((Z0w.f a0)>>=fun aa=>if aa=true then(if decide (a1>(-262144)) then(if decide (a1≤262144) then((Z0v.f a0 a1)>>=fun ab=>if decide (ab>(-262144)) then((Z0v.f a0 a1)>>=fun ac=>some (decide (ac≤262144))) else(some false)) else(some false)) else(some false)) else(some false)):Option Bool)>>=fun ae=>some ae
theorem Z88.ok (a0 a1:Int):F0 127 [qi a0,qi a1] (Z88.f a0 a1) (fun r=>bV r):=FT [] func127 (.r0<|.join (.bd fun aa ab=>.sp (fun ac=>.sp (fun ae=>.sp (fun af=>.bd fun ah ai=>.sp (fun aj=>.bd fun ak al=>.rg [(1,qh call126 (Z0w.ok a0 aa ab)),(2,hB ac),(6,hB ae),(10,hB af),(13,qh call128 (Z0v.ok a0 a1 ah ai)),(16,hB aj),(19,qh call128 (Z0v.ok a0 a1 ak al))]<|.o [])
 (fun aj=>.rg [(1,qh call126 (Z0w.ok a0 aa ab)),(2,hB ac),(6,hB ae),(10,hB af),(13,qh call128 (Z0v.ok a0 a1 ah ai)),(16,hB aj)]<|.o []))
 (fun af=>.rg [(1,qh call126 (Z0w.ok a0 aa ab)),(2,hB ac),(6,hB ae),(10,hB af)]<|.o []))
 (fun ae=>.rg [(1,qh call126 (Z0w.ok a0 aa ab)),(2,hB ac),(6,hB ae)]<|.o []))
 (fun ac=>.rg [(1,qh call126 (Z0w.ok a0 aa ab)),(2,hB ac)]<|.o []))
 (.st .normal (fun am=>⟨[(4,bV am)],[],0⟩) fun am=>.rv ⟨[(4,bV am)],[],0⟩))
def Z4b.l0 (a0:List Int) (aa ab:Int):Option ((Int×Int) ⊕ Int):=if decide (ab<(a0.length:Int)) then((at? a0 ab)>>=fun ac=>if decide (ac>(u64.wrap ((18446744073709551615:Int)-aa))) then(some (.inl (0,5))) else(Z4b.l0 a0 (u64.wrap (aa+ac)) (i64.wrap (ab+1)))) else(some (.inr aa))
partial_fixpoint
def Z4b.f (a0:List Int):Option (Int×Int):=(Z4b.l0 a0 0 0)>>=fun | .inl rr=>(some rr) | .inr aa=>(some (aa,0))
theorem Z4b.ok (a0:List Int):F0 129 [.im (.row (a0.map qv))] (Z4b.f a0) (fun r=>.tup [qu r.1,qi r.2]):=FT [] func129 (.r0<|.r0<|.r0<|.bl<|.lq (.c2 (Z4b.l0.partial_correctness a0)) (0,0) [] (fun _=>.pr fun aa=>.one (fun ab=>⟨[(0,im a0 qv),(4,qu aa),(5,qi ab)],[],0⟩) fun ab=>.rg [(2,hG qv a0)]<|.cd (fun ac=>.bl<|.el fun ae af ah=>.rg [(2,hA qv af ah)]<|.cd (fun ai=>.r0<|.rv ⟨[(2,qu 0),(3,qi 5)],[],0⟩)
 (fun ai=>.rg [(3,hA qv af ah)]<|.r0<|.bk [] rfl))
 (fun ac=>.o []))
 (.sm (.rt (fun rr=>.tup [qu rr.1,qi rr.2]) (fun rr=>[]))
 (.st (.exit 0) (fun aj=>⟨[(4,qu aj)],[],0⟩) fun aj=>.r0<|.rv ⟨[(2,qu aj),(3,qi 0)],[],0⟩)))
def Z06.l1 (a0:Zi) (aa:Int) (ab:List Z0) (ac:List Int) (ae:Int):Option (Int ⊕ (List Int)):=if decide (ae<(ab.length:Int)) then((at? ab ae)>>=fun af=>(Z88.f a0.f1 af.f0)>>=fun ah=>if !ah then(some (.inl 4)) else(((if decide (ae>0) then((at? ab (i64.wrap (ae-1)))>>=fun ai=>some (decide (af.f0≤ai.f0))) else(some false)):Option Bool)>>=fun aj=>if aj=true then(some (.inl 32)) else(if af.f1==0 then(some (.inl 21)) else((Z0v.f a0.f1 (i64.wrap (af.f0-1)))>>=fun ak=>if decide (ak<a0.f2) then(some (.inl 31)) else((chk ((ac.length+[af.f1].length)*8≤140737488355328))>>=fun _=>Z06.l1 a0 aa ab (ac++[af.f1]) (i64.wrap (ae+1))))))) else(some (.inr ac))
partial_fixpoint
def Z06.l0 (a0:Zi) (aa:List Int) (ab:Int):Option (Int ⊕ (List Int)):=if decide (ab<2) then(((if ab==1 then(some a0.f7) else(some a0.f6)):Option (List Z0))>>=fun ac=>if decide ((ac.length:Int)>512) then(some (.inl 9)) else((Z06.l1 a0 ab ac aa 0)>>=fun | .inl rr=>(some (.inl rr)) | .inr ae=>(Z06.l0 a0 ae (i64.wrap (ab+1))))) else(some (.inr aa))
partial_fixpoint
def Z06.f (a0:Zi):Option Int:=((if a0.f0 != 0 then(some (a0.f0 != 1)) else(some false)):Option Bool)>>=fun aa=>if aa=true then(some 25) else((Z0w.f a0.f1)>>=fun ab=>if !ab then(some 20) else(((if a0.f2 != (-524288) then(if decide (a0.f2≤(-262144)) then(some true) else(some (decide (a0.f2>262144)))) else(some false)):Option Bool)>>=fun ac=>if ac=true then(some 31) else((Z06.l0 a0 [a0.f3] 0)>>=fun | .inl rr=>(some rr) | .inr ae=>((Z4b.f ae)>>=fun af=>if af.2 != 0 then(some 5) else(if af.1 != a0.f4 then(some 21) else(some 0))))))
abbrev q5:=@RW _ 1 47 qv
theorem Z06.ok (a0:Zi):F0 75 [.agg (Z4n a0)] (Z06.f a0) (fun r=>qi r):=FT [] func75 (.rg [(0,⟨.k 0,.n⟩)]<|.join (.sp (fun aa=>.rg [(3,hB aa)]<|.o [(0,1)])
 (fun aa=>.rg [(3,hB aa)]<|.o [(0,1)]))
 (.st .normal (fun ab=>⟨[(1,.ptr 1 0 0),(16,bV ab)],[w1_ 1 a0],0⟩) fun ab=>.cd (fun ac=>.r0<|.rv ⟨[(2,qi 25)],[],0⟩)
 (fun ac=>.bd fun ae af=>.rg [(2,qh call126 (Z0w.ok a0.f1 ae af))]<|.cd (fun ah=>.r0<|.rv ⟨[(2,qi 20)],[],0⟩)
 (fun ah=>.join (.sp (fun ai=>.sp (fun aj=>.rg [(3,hB ai),(7,hB aj)]<|.o [(1,2)])
 (fun aj=>.rg [(3,hB ai),(7,hB aj)]<|.o [(1,2)]))
 (fun ai=>.rg [(3,hB ai)]<|.o [(1,2)]))
 (.st .normal (fun ak=>⟨[(1,.ptr 2 0 0),(33,bV ak)],[w1_ 2 a0],0⟩) fun ak=>.cd (fun al=>.r0<|.rv ⟨[(2,qi 31)],[],0⟩)
 (fun al=>.rg [(2,hQ 3 qv ([a0.f3]:List Int))]<|.r0<|.bl<|.lq (.c2 (Z06.l0.partial_correctness a0)) ([a0.f3],0) [(2,14),(3,15)] (fun _=>.pr fun am=>.one (fun ao=>⟨[(1,.ptr 14 0 0),(3,.own 15),(4,qi ao)],[w1_ 14 a0,q5 15 am],0⟩) fun ao=>.r0<|.cd (fun ap=>.bl<|.r0<|.r0<|.join (.cd (fun aq=>.r0<|.o [(14,16),(15,17)])
 (fun aq=>.o [(14,16),(15,17)]))
 (.st .normal (fun ar=>⟨[(1,.ptr 16 0 0),(3,.own 17),(4,qi ao),(5,im ar Z3)],[w1_ 16 a0,q5 17 am],0⟩) fun ar=>.rg [(1,hG Z3 ar)]<|.cd (fun au=>.r0<|.rv ⟨[(2,qi 9)],[],0⟩)
 (fun au=>.r0<|.bl<|.lq (.c2 (Z06.l1.partial_correctness a0 ao ar)) (am,0) [(16,20),(17,21)] (fun _=>.pr fun av=>.one (fun ax=>⟨[(1,.ptr 20 0 0),(3,.own 21),(4,qi ao),(5,im ar Z3),(6,qi ax)],[w1_ 20 a0,q5 21 av],0⟩) fun ax=>.rg [(2,hG Z3 ar)]<|.cd (fun az=>.bl<|.el fun a8 ba bb=>.bd fun bc be=>.rg [(4,hA Z3 ba bb),(7,qh call127 (Z88.ok a0.f1 a8.f0 bc be))]<|.cd (fun bf=>.r0<|.rv ⟨[(2,qi 4)],[],0⟩)
 (fun bf=>.join (.sp (fun bg=>.el fun bh bi bj=>.rg [(2,hB bg),(5,hA Z3 ba bb),(11,hA Z3 bi bj)]<|.o [(20,22),(21,23)])
 (fun bg=>.rg [(2,hB bg)]<|.o [(20,22),(21,23)]))
 (.st .normal (fun bn=>⟨[(1,.ptr 22 0 0),(3,.own 23),(4,qi ao),(5,im ar Z3),(6,qi ax),(80,bV bn)],[w1_ 22 a0,q5 23 av],0⟩) fun bn=>.cd (fun bo=>.r0<|.rv ⟨[(2,qi 32)],[],0⟩)
 (fun bo=>.rg [(2,hA Z3 ba bb)]<|.cd (fun bp=>.r0<|.rv ⟨[(2,qi 21)],[],0⟩)
 (fun bp=>.bd fun bq br=>.rg [(4,hA Z3 ba bb),(8,qh call128 (Z0v.ok a0.f1 (i64.wrap (a8.f0-1)) bq br))]<|.cd (fun bu=>.r0<|.rv ⟨[(2,qi 31)],[],0⟩)
 (fun bu=>.ck fun bv=>.rg [(3,hA Z3 ba bb),(6,hQ 24 qv ([a8.f1]:List Int)),(7,hP 25 qv 1 bv)]<|.r0<|.bk [(22,20),(25,21)] rfl))))))
 (fun az=>.o [(20,26),(21,27)]))
 (.sm (.rt (fun rr=>qi rr) (fun rr=>[]))
 (.st (.exit 2) (fun bw=>⟨[(1,.ptr 26 0 0),(3,.own 27),(4,qi ao)],[w1_ 26 a0,q5 27 bw],0⟩) fun bw=>.r0<|.bk [(26,14),(27,15)] rfl)))))
 (fun ap=>.o [(14,28),(15,29)]))
 (.sm (.rt (fun rr=>qi rr) (fun rr=>[]))
 (.st (.exit 0) (fun bx=>⟨[(1,.ptr 28 0 0),(3,.own 29)],[w1_ 28 a0,q5 29 bx],0⟩) fun bx=>.bd fun bz ca=>.rg [(1,h3 29 call129 (Z4b.ok bx bz ca))]<|.r0<|.cd (fun cb=>.r0<|.rv ⟨[(2,qi 5)],[],0⟩)
 (fun cb=>.r0<|.cd (fun cc=>.r0<|.rv ⟨[(2,qi 21)],[],0⟩)
 (fun cc=>.r0<|.rv ⟨[(2,qi 0)],[],0⟩))))))))))
def Z2w.l0 (a0:List Z6) (aa:Int):Option (Bool ⊕ Unit):=if decide (aa<(a0.length:Int)) then((((at? a0 aa)>>=fun ab=>(Z58.f ab.f0)>>=fun ac=>if !ac then(some true) else((Z06.f ab.f1)>>=fun ae=>if ae != 0 then(some true) else(if decide (aa>0) then((at? a0 (i64.wrap (aa-1)))>>=fun af=>some (decide (ab.f0≤af.f0))) else(some false)))):Option Bool)>>=fun ah=>if ah=true then(some (.inl false)) else(Z2w.l0 a0 (i64.wrap (aa+1)))) else(some (.inr ()))
partial_fixpoint
def Z2w.f (a0:List Z6):Option Bool:=(Z2w.l0 a0 0)>>=fun | .inl rr=>(some rr) | .inr _=>(some true)
theorem Z2w.ok (a0:List Z6):F0 26 [.im (.row (a0.map Z5))] (Z2w.f a0) (fun r=>bV r):=FT [] func26 (.r0<|.r0<|.bl<|.lq (.one (Z2w.l0.partial_correctness a0)) 0 [] (fun _=>.one (fun aa=>⟨[(0,im a0 Z5),(3,qi aa)],[],0⟩) fun aa=>.rg [(2,hG Z5 a0)]<|.cd (fun ab=>.bl<|.join (.el fun ac ae af=>.bd fun ah ai=>.sp (fun aj=>.rg [(2,hA Z5 ae af),(5,qh call74 (Z58.ok ac.f0 ah ai)),(7,hB aj)]<|.o [])
 (fun aj=>.bd fun ak al=>.sp (fun am=>.rg [(2,hA Z5 ae af),(5,qh call74 (Z58.ok ac.f0 ah ai)),(7,hB aj),(10,hA Z5 ae af),(13,qh call75 (Z06.ok ac.f1 ak al)),(16,hB am)]<|.o [])
 (fun am=>.sp (fun ao=>.el fun ap aq ar=>.rg [(2,hA Z5 ae af),(5,qh call74 (Z58.ok ac.f0 ah ai)),(7,hB aj),(10,hA Z5 ae af),(13,qh call75 (Z06.ok ac.f1 ak al)),(16,hB am),(19,hB ao),(22,hA Z5 ae af),(28,hA Z5 aq ar)]<|.o [])
 (fun ao=>.rg [(2,hA Z5 ae af),(5,qh call74 (Z58.ok ac.f0 ah ai)),(7,hB aj),(10,hA Z5 ae af),(13,qh call75 (Z06.ok ac.f1 ak al)),(16,hB am),(19,hB ao)]<|.o []))))
 (.st .normal (fun au=>⟨[(0,im a0 Z5),(3,qi aa),(43,bV au)],[],0⟩) fun au=>.cd (fun av=>.r0<|.rv ⟨[(2,bV false)],[],0⟩)
 (fun av=>.r0<|.bk [] rfl)))
 (fun ab=>.o []))
 (.sm (.rt (fun rr=>bV rr) (fun rr=>[]))
 (.st (.exit 0) (fun _=>⟨[],[],0⟩) fun _=>.r0<|.rv ⟨[(2,bV true)],[],0⟩)))
def Z1y.l1 (a0:Z07) (aa:Zh) (ab ac:Int):Option (Int ⊕ Unit):=if decide (ac<(aa.f1.length:Int)) then((((at? aa.f1 ac)>>=fun ae=>if decide (ae.f0<a0.f0) then(some true) else(some (decide (ae.f0≥a0.f1)))):Option Bool)>>=fun af=>if af=true then(some (.inl 22)) else(Z1y.l1 a0 aa ab (i64.wrap (ac+1)))) else(some (.inr ()))
partial_fixpoint
def Z1y.l0 (a0:Z07) (aa:Int):Option (Int ⊕ Unit):=if decide (aa<(a0.f3.length:Int)) then((at? a0.f3 aa)>>=fun ab=>(((Z2b.f ab.f0)>>=fun ac=>if !ac then(some true) else(if decide (aa>0) then((at? a0.f3 (i64.wrap (aa-1)))>>=fun ae=>some (Op.bytesLess ab.f0.toList ae.f0.toList||ab.f0.toList==ae.f0.toList)) else(some false))):Option Bool)>>=fun af=>if af=true then(some (.inl 26)) else(((if(ab.f1.length:Int)==0 then(some true) else((Z2w.f ab.f1)>>=fun ah=>some (!ah))):Option Bool)>>=fun ai=>if ai=true then(some (.inl 22)) else((Z1y.l1 a0 ab aa 0)>>=fun | .inl rr=>(some (.inl rr)) | .inr _=>(Z1y.l0 a0 (i64.wrap (aa+1)))))) else(some (.inr ()))
partial_fixpoint
def Z1y.f (a0:Z07):Option Int:=((if decide (a0.f2<0) then(some true) else(if decide (a0.f2>4) then(some true) else(if decide (a0.f0<0) then(some true) else(if decide (a0.f0>1099511627776) then(some true) else((Z10.f a0.f2)>>=fun aa=>(chk (aa≠0))>>=fun _=>if(Int.tmod a0.f0 aa) != 0 then(some true) else((Z10.f a0.f2)>>=fun ab=>some (a0.f1 != (i64.wrap (a0.f0+ab))))))))):Option Bool)>>=fun ac=>if ac=true then(some 4) else(((if decide ((a0.f3.length:Int)<1) then(some true) else(some (decide ((a0.f3.length:Int)>64)))):Option Bool)>>=fun ae=>if ae=true then(some 9) else((Z1y.l0 a0 0)>>=fun | .inl rr=>(some rr) | .inr _=>(some 0)))
abbrev w4_ (k:Nat) (x:Z07):Nat×Option MObj:=BW 39 Z4r k x
abbrev w5_ (k:Nat) (x:Zh):Nat×Option MObj:=BW 29 Z4s k x
theorem Z1y.ok (a0:Z07):F0 10 [.agg (Z4r a0)] (Z1y.f a0) (fun r=>qi r):=FT [] func10 (.rg [(0,⟨.k 0,.n⟩)]<|.join (.sp (fun aa=>.rg [(3,hB aa)]<|.o [(0,1)])
 (fun aa=>.sp (fun ab=>.rg [(3,hB aa),(8,hB ab)]<|.o [(0,1)])
 (fun ab=>.sp (fun ac=>.rg [(3,hB aa),(8,hB ab),(13,hB ac)]<|.o [(0,1)])
 (fun ac=>.sp (fun ae=>.rg [(3,hB aa),(8,hB ab),(13,hB ac),(18,hB ae)]<|.o [(0,1)])
 (fun ae=>.bd fun af ah=>.ck fun ai=>.sp (fun aj=>.rg [(3,hB aa),(8,hB ab),(13,hB ac),(18,hB ae),(23,qh call21 (Z10.ok a0.f2 af ah)),(24,hN (p1 ai)),(27,hB aj)]<|.o [(0,1)])
 (fun aj=>.bd fun ak al=>.rg [(3,hB aa),(8,hB ab),(13,hB ac),(18,hB ae),(23,qh call21 (Z10.ok a0.f2 af ah)),(24,hN (p1 ai)),(27,hB aj),(34,qh call21 (Z10.ok a0.f2 ak al))]<|.o [(0,1)]))))))
 (.st .normal (fun am=>⟨[(1,.ptr 1 0 0),(43,bV am)],[w4_ 1 a0],0⟩) fun am=>.cd (fun ao=>.r0<|.rv ⟨[(2,qi 4)],[],0⟩)
 (fun ao=>.join (.sp (fun ap=>.rg [(2,hG Z7 a0.f3),(4,hB ap)]<|.o [(1,2)])
 (fun ap=>.rg [(2,hG Z7 a0.f3),(4,hB ap),(7,hG Z7 a0.f3)]<|.o [(1,2)]))
 (.st .normal (fun aq=>⟨[(1,.ptr 2 0 0),(53,bV aq)],[w4_ 2 a0],0⟩) fun aq=>.cd (fun ar=>.r0<|.rv ⟨[(2,qi 9)],[],0⟩)
 (fun ar=>.r0<|.bl<|.lq (.one (Z1y.l0.partial_correctness a0)) 0 [(2,15)] (fun _=>.one (fun au=>⟨[(1,.ptr 15 0 0),(3,qi au)],[w4_ 15 a0],0⟩) fun au=>.rg [(3,hG Z7 a0.f3)]<|.cd (fun av=>.bl<|.el fun ax az a8=>.rg [(3,hA Z7 az a8),(5,⟨.k 16,.n⟩)]<|.join (.bd fun ba bb=>.sp (fun bc=>.rg [(2,qh call25 (Z2b.ok ax.f0 ba bb)),(4,hB bc)]<|.o [(15,17),(16,18)])
 (fun bc=>.sp (fun be=>.el fun bf bg bh=>.rg [(2,qh call25 (Z2b.ok ax.f0 ba bb)),(4,hB bc),(7,hB be),(14,hA Z7 bg bh)]<|.o [(15,17),(16,18)])
 (fun be=>.rg [(2,qh call25 (Z2b.ok ax.f0 ba bb)),(4,hB bc),(7,hB be)]<|.o [(15,17),(16,18)])))
 (.st .normal (fun bi=>⟨[(1,.ptr 17 0 0),(3,qi au),(4,.ptr 18 0 0),(85,bV bi)],[w4_ 17 a0,w5_ 18 ax],0⟩) fun bi=>.cd (fun bj=>.r0<|.rv ⟨[(2,qi 26)],[],0⟩)
 (fun bj=>.join (.sp (fun bn=>.rg [(2,hG Z5 ax.f1),(4,hB bn)]<|.o [(17,19),(18,20)])
 (fun bn=>.bd fun bo bp=>.rg [(2,hG Z5 ax.f1),(4,hB bn),(7,qh call26 (Z2w.ok ax.f1 bo bp))]<|.o [(17,19),(18,20)]))
 (.st .normal (fun bq=>⟨[(1,.ptr 19 0 0),(3,qi au),(4,.ptr 20 0 0),(95,bV bq)],[w4_ 19 a0,w5_ 20 ax],0⟩) fun bq=>.cd (fun br=>.r0<|.rv ⟨[(2,qi 22)],[],0⟩)
 (fun br=>.r0<|.bl<|.lq (.one (Z1y.l1.partial_correctness a0 ax au)) 0 [(19,23),(20,24)] (fun _=>.one (fun bu=>⟨[(1,.ptr 23 0 0),(3,qi au),(4,.ptr 24 0 0),(5,qi bu)],[w4_ 23 a0,w5_ 24 ax],0⟩) fun bu=>.rg [(3,hG Z5 ax.f1)]<|.cd (fun bv=>.bl<|.join (.el fun bw bx bz=>.sp (fun ca=>.rg [(3,hA Z5 bx bz),(9,hB ca)]<|.o [(23,25),(24,26)])
 (fun ca=>.rg [(3,hA Z5 bx bz),(9,hB ca),(13,hA Z5 bx bz)]<|.o [(23,25),(24,26)]))
 (.st .normal (fun cb=>⟨[(1,.ptr 25 0 0),(3,qi au),(4,.ptr 26 0 0),(5,qi bu),(122,bV cb)],[w4_ 25 a0,w5_ 26 ax],0⟩) fun cb=>.cd (fun cc=>.r0<|.rv ⟨[(2,qi 22)],[],0⟩)
 (fun cc=>.r0<|.bk [(25,23),(26,24)] rfl)))
 (fun bv=>.o [(23,27)]))
 (.sm (.rt (fun rr=>qi rr) (fun rr=>[]))
 (.st (.exit 2) (fun _=>⟨[(1,.ptr 27 0 0),(3,qi au)],[w4_ 27 a0],0⟩) fun _=>.r0<|.bk [(27,15)] rfl)))))))
 (fun av=>.o []))
 (.sm (.rt (fun rr=>qi rr) (fun rr=>[]))
 (.st (.exit 0) (fun _=>⟨[],[],0⟩) fun _=>.r0<|.rv ⟨[(2,qi 0)],[],0⟩)))))))
def Z4h.l0 (a0:Z07) (aa:List Zh) (ab:Int):Option (List Zh):=if decide (ab<(a0.f3.length:Int)) then((at? a0.f3 ab)>>=fun ac=>(chk ((aa.length+[ac].length)*40≤140737488355328))>>=fun _=>Z4h.l0 a0 (aa++[ac]) (i64.wrap (ab+1))) else(some aa)
partial_fixpoint
def Z4h.f (a0:Z07):Option Z2:=(Z4h.l0 a0 [] 0)>>=fun aa=>some (⟨(⟨a0.f0,a0.f1,a0.f2⟩:Zt),aa⟩:Z2)
abbrev qk0:MObj:=.box 36 [qi 0,qi 0,qi 0,.none0]
abbrev q6:=@RW _ 2 30 Z7
theorem Z4h.ok (a0:Z07):FN 18 [.agg (Z4r a0)] [] 0 (Z4h.f a0) (fun r=>.agg [qi (((r).f0).f0),qi (((r).f0).f1),qi (((r).f0).f2),.own 0]) (fun r=>[q6 0 ((r).f1)]):=FT [0] func18 (.rg [(0,⟨.k 0,.n⟩),(1,⟨.k 1,.n⟩)]<|.rg [(8,⟨.k 2,.n⟩)]<|.rg [(2,hG Z7 a0.f3)]<|.bl<|.loop (.c2 (Z4h.l0.partial_correctness a0)) ([],0) [(1,6),(2,7)] [] [8] (fun _=>.pr fun aa=>.one (fun ab=>⟨[(2,.ptr 6 0 0),(3,.ptr 7 0 0),(15,im a0.f3 Z7),(16,qi (ln a0.f3)),(17,qi ab)],[(6,some (qk0)),v0_ 7 [qi a0.f0,qi a0.f1,qi a0.f2,.own 8],q6 8 aa],0⟩) fun ab=>.r0<|.cd (fun ac=>.bl<|.el fun ae af ah=>.rg [(0,hA Z7 af ah),(2,⟨.k 9,.n⟩)]<|.ck fun ai=>.rg [(3,hQ 10 Z7 ([ae]:List Zh)),(4,hP 11 Z7 2 ai)]<|.r0<|.bk [(6,6),(7,7),(11,8)] rfl)
 (fun ac=>.o [(6,12),(7,13),(8,14)]))
 (.st (.exit 0) (fun aj=>⟨[(2,.ptr 12 0 0),(3,.ptr 13 0 0)],[(12,some (qk0)),v0_ 13 [qi a0.f0,qi a0.f1,qi a0.f2,.own 14],q6 14 aj],0⟩) fun aj=>.r0<|.ru [(12,1),(14,0)] ⟨[(2,.ptr 1 0 0)],[q6 0 (((⟨(⟨a0.f0,a0.f1,a0.f2⟩:Zt),aj⟩:Z2)).f1),v0_ 1 [qi ((((⟨(⟨a0.f0,a0.f1,a0.f2⟩:Zt),aj⟩:Z2)).f0).f0),qi ((((⟨(⟨a0.f0,a0.f1,a0.f2⟩:Zt),aj⟩:Z2)).f0).f1),qi ((((⟨(⟨a0.f0,a0.f1,a0.f2⟩:Zt),aj⟩:Z2)).f0).f2),.own 0]],0⟩))
def Z38.f  : Option (List Int):=some [0,3,7,12,20,32,64]
abbrev q7:=@RW _ 1 3 qe
theorem Z38.ok  : FN 89 [] [] 0 (Z38.f ) (fun r=>.own 0) (fun r=>[q7 0 r]):=FT [0] func89 (.r0<|.rg [(0,hQ 0 qe ([0,3,7,12,20,32,64]:List Int))]<|.ru [(0,0)] ⟨[(0,.own 0)],[(0,some (.row 1 3 ([0,3,7,12,20,32,64].map qe)))],0⟩)
def Z29.l0 (aa ab:Int):Option Int:=if decide (aa>0) then(Z29.l0  (Int.fdiv aa 2) (i64.wrap (ab+1))) else(some ab)
partial_fixpoint
def Z29.f (a0:Int):Option Int:=(Z29.l0  a0 0)>>=fun aa=>some aa
theorem Z29.ok (a0:Int):F0 91 [qu a0] (Z29.f a0) (fun r=>qi r):=FT [] func91 (.r0<|.r0<|.bl<|.lq (.c2 (Z29.l0.partial_correctness )) (a0,0) [] (fun _=>.pr fun aa=>.one (fun ab=>⟨[(0,qu aa),(3,qi ab)],[],0⟩) fun ab=>.r0<|.cd (fun ac=>.bl<|.r0<|.rg [(1,hK 1)]<|.bk [] rfl)
 (fun ac=>.o []))
 (.st (.exit 0) (fun ae=>⟨[(3,qi ae)],[],0⟩) fun ae=>.r0<|.rv ⟨[(2,qi ae)],[],0⟩))
def Z1l.f (a0:Int):Option Unit:=some ()
theorem Z1l.ok (a0:Int):F0 201 [qi a0] (Z1l.f a0) (fun r=>bV (a0 != a0)):=FT [] func201 (.r0<|.r0<|.rv ⟨[(2,bV (a0 != a0))],[],0⟩)
def Z59.f (a0 a1:Int):Option Bool:=(((Z1l.f a0)>>=fun aa=>if a0 != a0 then((Z1l.f a1)>>=fun ab=>if !(a1 != a1) then(some true) else(some (decide (a0<a1)))) else(some (decide (a0<a1)))):Option Bool)>>=fun ac=>some ac
theorem Z59.ok (a0 a1:Int):F0 162 [qi a0,qi a1] (Z59.f a0 a1) (fun r=>bV r):=FT [] func162 (.r0<|.join (.bd fun aa ab=>.sp (fun ac=>.bd fun ae af=>.sp (fun ah=>.rg [(1,qh call201 (Z1l.ok a0 aa ab)),(2,hB ac),(4,qh call201 (Z1l.ok a1 ae af)),(7,hB ah)]<|.o [])
 (fun ah=>.rg [(1,qh call201 (Z1l.ok a0 aa ab)),(2,hB ac),(4,qh call201 (Z1l.ok a1 ae af)),(7,hB ah)]<|.o []))
 (fun ac=>.rg [(1,qh call201 (Z1l.ok a0 aa ab)),(2,hB ac)]<|.o []))
 (.st .normal (fun ai=>⟨[(4,bV ai)],[],0⟩) fun ai=>.rv ⟨[(4,bV ai)],[],0⟩))
def Z2v.f (a0:Int):Option Unit:=some ()
theorem Z2v.ok (a0:Int):F0 163 [qi a0] (Z2v.f a0) (fun r=>bV (a0 != a0)):=FT [] func163 (.r0<|.r0<|.rv ⟨[(2,bV (a0 != a0))],[],0⟩)
def Z01.l0 (a0:List Int) (a1 aa ab:Int):Option Int:=if decide (aa<ab) then((at? a0 (i64.wrap (Int.fdiv (u64.wrap (i64.wrap (aa+ab))) 2)))>>=fun ac=>(Z59.f ac a1)>>=fun ae=>((if ae=true then(some (i64.wrap ((i64.wrap (Int.fdiv (u64.wrap (i64.wrap (aa+ab))) 2))+1),ab)) else(some (aa,i64.wrap (Int.fdiv (u64.wrap (i64.wrap (aa+ab))) 2)))):Option (Int×Int))>>=fun | (af,ah)=>(Z01.l0 a0 a1 af ah)) else(some aa)
partial_fixpoint
def Z01.f (a0:List Int) (a1:Int):Option (Int×Bool):=(Z01.l0 a0 a1 0 (a0.length:Int))>>=fun aa=>((if decide (aa<(a0.length:Int)) then((at? a0 aa)>>=fun ab=>if ab==a1 then(some true) else((Z2v.f ab)>>=fun ac=>if ab != ab then((Z2v.f a1)>>=fun ae=>some (a1 != a1)) else(some false))) else(some false)):Option Bool)>>=fun af=>some (aa,af)
theorem Z01.ok (a0:List Int) (a1:Int):F0 90 [.im (.row (a0.map qe)),qi a1] (Z01.f a0 a1) (fun r=>.tup [qi r.1,bV r.2]):=FT [] func90 (.r0<|.rg [(1,hG qe a0)]<|.r0<|.bl<|.lq (.c2 (Z01.l0.partial_correctness a0 a1)) (0,(ln a0)) [] (fun _=>.pr fun aa=>.one (fun ab=>⟨[(0,im a0 qe),(1,qi a1),(6,qi (ln a0)),(7,qi aa),(8,qi ab)],[],0⟩) fun ab=>.r0<|.cd (fun ac=>.bl<|.rg [(4,hK 1)]<|.el fun ae af ah=>.bd fun ai aj=>.rg [(2,hA qe af ah),(5,qh call162 (Z59.ok ae a1 ai aj))]<|.join (.cd (fun ak=>.r0<|.o [])
 (fun ak=>.r0<|.o []))
 (.pr fun al=>.st .normal (fun am=>⟨[(0,im a0 qe),(1,qi a1),(6,qi (ln a0)),(7,qi al),(8,qi am)],[],0⟩) fun am=>.bk [] rfl))
 (fun ac=>.o []))
 (.st (.exit 0) (fun ao=>⟨[(0,im a0 qe),(1,qi a1),(6,qi (ln a0)),(7,qi ao)],[],0⟩) fun ao=>.join (.sp (fun ap=>.el fun aq ar au=>.sp (fun av=>.rg [(4,hB ap),(7,hA qe ar au),(11,hB av)]<|.o [])
 (fun av=>.bd fun ax az=>.sp (fun a8=>.bd fun ba bb=>.rg [(4,hB ap),(7,hA qe ar au),(11,hB av),(14,hA qe ar au),(16,qh call163 (Z2v.ok aq ax az)),(17,hB a8),(19,qh call163 (Z2v.ok a1 ba bb))]<|.o [])
 (fun a8=>.rg [(4,hB ap),(7,hA qe ar au),(11,hB av),(14,hA qe ar au),(16,qh call163 (Z2v.ok aq ax az)),(17,hB a8)]<|.o [])))
 (fun ap=>.rg [(4,hB ap)]<|.o []))
 (.st .normal (fun bc=>⟨[(4,qi ao),(5,bV bc)],[],0⟩) fun bc=>.rv ⟨[(4,qi ao),(5,bV bc)],[],0⟩)))
def Z3o.f (aa:Int) (a1:Bool):Option ((List Int)×Int):=((if aa==0 then((chk ((([]:List Int).length+[0].length)*1≤140737488355328))>>=fun _=>some ([0],8)) else(some ([],aa))):Option ((List Int)×Int))>>=fun | (ab,ac)=>(((if a1=true then((at? ab (i64.wrap ((ab.length:Int)-1)))>>=fun ae=>(chk (0≤(u64.wrap (ac-1))))>>=fun _=>some (ab.set (i64.wrap ((ab.length:Int)-1)).toNat (u8.wrap (((BitVec.toNat (BitVec.ofInt 8 ae ||| BitVec.ofInt 8 (u8.wrap ((1:Int)*2 ^ (min (u64.wrap (ac-1)).toNat 8)))):Nat):Int))))) else(some ab)):Option (List Int))>>=fun af=>some (af,u64.wrap (ac-1)))
abbrev v1_ (k:Nat) (x:List AVal):Nat×Option MObj:=BX 102 k x
theorem Z3o.ok (aa:Int) (a1:Bool):FN 92 [.ptr 0 0 0,bV a1] [v1_ 0 [.none0,qu aa]] 1 (Z3o.f aa a1) (fun r=>.tup []) (fun r=>[v1_ 0 [.own 1,qu r.2],q0 1 r.1]):=FT [0,1] func92 (.r0<|.join (.cd (fun ab=>.ck fun ac=>.rg [(5,hQ 1 qb ([0]:List Int)),(6,⟨.app 2 ([0].map qb),.c (p:=[0].map qb=([]:List (List Im))++([0].map qb)) (by simp) (.c (p:=∀ c∈([0].map qb),c.length=1) (Z3c _ _ _ (fun _=>rfl)) (.c (p:=∀ c∈([0].map qb),Z1v (c.map .im)=true) (Z2r _ _ (fun _=>rfl)) (.c (p:=(([]:List (List Im)).length+([0].map qb).length)*1≤140737488355328) (by simpa using ac) .n)))⟩)]<|.r0<|.o [(0,0),(2,3)])
 (fun ab=>.out [(0,0)] [] [3]))
 (.pr fun ae=>.st .normal (fun af=>⟨[(0,.ptr 0 0 0),(1,bV a1)],[v1_ 0 [.own 3,qu af],q0 3 ae],1⟩) fun af=>.r0<|.r0<|.join (.cd (fun ah=>.el fun ai aj ak=>.ck fun al=>.rg [(8,hG qb ae),(10,hX qb aj ak),(11,hL qb ak),(16,hN (p1 al)),(18,hX qb aj ak),(19,hS qb (u8.wrap (((BitVec.toNat (BitVec.ofInt 8 ai ||| BitVec.ofInt 8 (u8.wrap ((1:Int)*2 ^ (min (Int.toNat (u64.wrap (af-1))) 8)))):Nat):Int))) 0 [iI .u8 (u8.wrap (((BitVec.toNat (BitVec.ofInt 8 ai ||| BitVec.ofInt 8 (u8.wrap ((1:Int)*2 ^ (min (Int.toNat (u64.wrap (af-1))) 8)))):Nat):Int)))] ak)]<|.o [(0,0),(3,4)])
 (fun ah=>.o [(0,0),(3,4)]))
 (.st .normal (fun am=>⟨[],[v1_ 0 [.own 4,qu (u64.wrap (af-1))],q0 4 am],1⟩) fun am=>.ru [(0,0),(4,1)] ⟨[],[v1_ 0 [.own 1,qu (u64.wrap (af-1))],q0 1 am],1⟩)))
def Z0b.f (aa:List Int) (ab:Int) (a1:Bool):Option ((List Int)×Int):=((if ab==0 then((chk ((aa.length+[0].length)*1≤140737488355328))>>=fun _=>some (aa++[0],8)) else(some (aa,ab))):Option ((List Int)×Int))>>=fun | (ac,ae)=>(((if a1=true then((at? ac (i64.wrap ((ac.length:Int)-1)))>>=fun af=>(chk (0≤(u64.wrap (ae-1))))>>=fun _=>some (ac.set (i64.wrap ((ac.length:Int)-1)).toNat (u8.wrap (((BitVec.toNat (BitVec.ofInt 8 af ||| BitVec.ofInt 8 (u8.wrap ((1:Int)*2 ^ (min (u64.wrap (ae-1)).toNat 8)))):Nat):Int))))) else(some ac)):Option (List Int))>>=fun ah=>some (ah,u64.wrap (ae-1)))
theorem Z0b.ok (aa:List Int) (ab:Int) (a1:Bool):FN 92 [.ptr 0 0 0,bV a1] [v1_ 0 [.own 1,qu ab],q0 1 aa] 2 (Z0b.f aa ab a1) (fun r=>.tup []) (fun r=>[v1_ 0 [.own 2,qu r.2],(1,none),q0 2 r.1]):=FT [0,1,2] func92 (.r0<|.join (.cd (fun ac=>.ck fun ae=>.rg [(5,hQ 2 qb ([0]:List Int)),(6,⟨.app 3 ((aa++[0]).map qb),.c (p:=(aa++[0]).map qb=(aa.map qb)++([0].map qb)) (by simp) (.c (p:=∀ c∈([0].map qb),c.length=1) (Z3c _ _ _ (fun _=>rfl)) (.c (p:=∀ c∈([0].map qb),Z1v (c.map .im)=true) (Z2r _ _ (fun _=>rfl)) (.c (p:=((aa.map qb).length+([0].map qb).length)*1≤140737488355328) (by simpa using ae) .n)))⟩)]<|.r0<|.o [(0,0),(3,4)])
 (fun ac=>.o [(0,0),(1,4)]))
 (.pr fun af=>.st .normal (fun ah=>⟨[(0,.ptr 0 0 0),(1,bV a1)],[v1_ 0 [.own 4,qu ah],q0 4 af],2⟩) fun ah=>.r0<|.r0<|.join (.cd (fun ai=>.el fun aj ak al=>.ck fun am=>.rg [(8,hG qb af),(10,hX qb ak al),(11,hL qb al),(16,hN (p1 am)),(18,hX qb ak al),(19,hS qb (u8.wrap (((BitVec.toNat (BitVec.ofInt 8 aj ||| BitVec.ofInt 8 (u8.wrap ((1:Int)*2 ^ (min (Int.toNat (u64.wrap (ah-1))) 8)))):Nat):Int))) 0 [iI .u8 (u8.wrap (((BitVec.toNat (BitVec.ofInt 8 aj ||| BitVec.ofInt 8 (u8.wrap ((1:Int)*2 ^ (min (Int.toNat (u64.wrap (ah-1))) 8)))):Nat):Int)))] al)]<|.o [(0,0),(4,5)])
 (fun ai=>.o [(0,0),(4,5)]))
 (.st .normal (fun ao=>⟨[],[v1_ 0 [.own 5,qu (u64.wrap (ah-1))],q0 5 ao],2⟩) fun ao=>.ru [(0,0),(5,2)] ⟨[],[v1_ 0 [.own 2,qu (u64.wrap (ah-1))],q0 2 ao],2⟩)))
def Zx.l0 (a1:Int) (aa:List Int) (ab ac:Int):Option ((List Int)×Int):=if decide (ac≥0) then((chk (0≤(u64.wrap (ac))))>>=fun _=>(Z0b.f aa ab ((u64.wrap (((BitVec.toNat (BitVec.ofInt 64 (Int.fdiv a1 (2 ^ (min (u64.wrap (ac)).toNat 64))) &&& BitVec.ofInt 64 (1:Int)):Nat):Int)))==1))>>=fun ae=>Zx.l0 a1 ae.1 ae.2 (i64.wrap (ac-1))) else(some (aa,ab))
partial_fixpoint
def Zx.f (aa:List Int) (ab a1 a2:Int):Option ((List Int)×Int):=(Zx.l0 a1 aa ab (i64.wrap ((if(if(64:Int)<a2 then(64:Int) else a2)>0 then(if(64:Int)<a2 then(64:Int) else a2) else(0:Int))-1)))>>=fun | (ac,ae)=>(some (ac,ae))
theorem Zx.ok (aa:List Int) (ab a1 a2:Int):FN 93 [.ptr 0 0 0,qu a1,qi a2] [v1_ 0 [.own 1,qu ab],q0 1 aa] 2 (Zx.f aa ab a1 a2) (fun r=>.tup []) (fun r=>[v1_ 0 [.own 2,qu r.2],(1,none),q0 2 r.1]):=FT [0,1,2] func93 (.rg [(1,⟨.more xMin,.n⟩),(2,⟨.more xMax,.n⟩)]<|.bl<|.lq (.c3 (Zx.l0.partial_correctness a1)) (aa,ab,i64.wrap ((clp 64 a2)-1)) [(0,0),(1,3)] (fun _=>.pr fun ac=>.pr fun ae=>.one (fun af=>⟨[(0,.ptr 0 0 0),(1,qu a1),(6,qi af)],[v1_ 0 [.own 3,qu ae],q0 3 ac],2⟩) fun af=>.r0<|.cd (fun ah=>.bl<|.ck fun ai=>.bd fun aj ak=>.rg [(4,hN (p1 ai)),(7,h2 0 3 4 call92 (Z0b.ok ac ae ((u64.wrap (((BitVec.toNat (BitVec.ofInt 64 (Int.fdiv a1 (2 ^ (min (Int.toNat (u64.wrap (af))) 64))) &&& BitVec.ofInt 64 (1:Int)):Nat):Int)))==1) aj ak))]<|.r0<|.bk [(0,0),(4,3)] rfl)
 (fun ah=>.o [(0,0),(3,5)]))
 (.pr fun al=>.st (.exit 0) (fun am=>⟨[],[v1_ 0 [.own 5,qu am],q0 5 al],2⟩) fun am=>.ru [(0,0),(5,2)] ⟨[],[v1_ 0 [.own 2,qu am],q0 2 al],2⟩))
def Z1e.l0 (a1:Int) (aa:List Int) (ab:Int×Bool) (ac:List Int) (ae af:Int):Option ((List Int)×Int):=if decide (af<ab.1) then((Z0b.f ac ae true)>>=fun ah=>Z1e.l0 a1 aa ab ah.1 ah.2 (i64.wrap (af+1))) else(some (ac,ae))
partial_fixpoint
def Z1e.f (aa a1:Int):Option ((List Int)×Int):=(Z38.f)>>=fun ab=>(Z29.f a1)>>=fun ac=>(Z01.f ab ac)>>=fun ae=>(Z1e.l0 a1 ab ae [] aa 0)>>=fun | (af,ah)=>(((if decide (ae.1<(i64.wrap ((ab.length:Int)-1))) then((Z0b.f af ah false)>>=fun ai=>some (ai.1,ai.2)) else(some (af,ah))):Option ((List Int)×Int))>>=fun | (aj,ak)=>((at? ab ae.1)>>=fun al=>(Zx.f aj ak a1 al)>>=fun am=>some (am.1,am.2)))
theorem Z1e.ok (aa a1:Int):FN 46 [.ptr 0 0 0,qu a1] [v1_ 0 [.none0,qu aa]] 1 (Z1e.f aa a1) (fun r=>.tup []) (fun r=>[v1_ 0 [.own 1,qu r.2],q0 1 r.1]):=FT [0,1] func46 (.bd fun ab ac=>.rg [(0,h1 1 call89 (Z38.ok  ab ac))]<|.bd fun ae af=>.bd fun ah ai=>.rg [(2,qh call91 (Z29.ok a1 ae af)),(3,h3 1 call90 (Z01.ok ab ae ah ai))]<|.r0<|.bl<|.loop (.c3 (Z1e.l0.partial_correctness a1 ab ah)) ([],aa,0) [(0,0),(1,4)] [] [3] (fun _=>.pr fun aj=>.pr fun ak=>.one (fun al=>⟨[(0,.ptr 0 0 0),(1,qu a1),(4,.own 4),(5,qi ah.1),(15,qi ah.1),(16,qi al)],[v1_ 0 [.own 3,qu ak],q0 3 aj,q7 4 ab],1⟩) fun al=>.r0<|.cd (fun am=>.bl<|.bd fun ao ap=>.rg [(1,h2 0 3 5 call92 (Z0b.ok aj ak true ao ap))]<|.r0<|.bk [(0,0),(4,4),(5,3)] rfl)
 (fun am=>.o [(0,0),(3,6),(4,7)]))
 (.pr fun aq=>.st (.exit 0) (fun ar=>⟨[(0,.ptr 0 0 0),(1,qu a1),(4,.own 7),(5,qi ah.1)],[v1_ 0 [.own 6,qu ar],q0 6 aq,q7 7 ab],1⟩) fun ar=>.rg [(2,hG qe ab)]<|.join (.cd (fun au=>.bd fun av ax=>.rg [(1,h2 0 6 8 call92 (Z0b.ok aq ar false av ax))]<|.o [(0,0),(8,9),(7,10)])
 (fun au=>.o [(0,0),(6,9),(7,10)]))
 (.pr fun az=>.st .normal (fun a8=>⟨[(0,.ptr 0 0 0),(1,qu a1),(4,.own 10),(5,qi ah.1)],[v1_ 0 [.own 9,qu a8],q0 9 az,q7 10 ab],1⟩) fun a8=>.el fun ba bb bc=>.bd fun be bf=>.rg [(4,hX qe bb bc),(5,hL qe bc),(6,h2 0 9 11 call93 (Zx.ok az a8 a1 ba be bf))]<|.ru [(0,0),(11,1)] ⟨[],[v1_ 0 [.own 1,qu be.2],q0 1 be.1],1⟩)))
def Z9.l0 (a1:Int) (aa:List Int) (ab:Int×Bool) (ac:List Int) (ae af:Int):Option ((List Int)×Int):=if decide (af<ab.1) then((Z0b.f ac ae true)>>=fun ah=>Z9.l0 a1 aa ab ah.1 ah.2 (i64.wrap (af+1))) else(some (ac,ae))
partial_fixpoint
def Z9.f (aa:List Int) (ab a1:Int):Option ((List Int)×Int):=(Z38.f)>>=fun ac=>(Z29.f a1)>>=fun ae=>(Z01.f ac ae)>>=fun af=>(Z9.l0 a1 ac af aa ab 0)>>=fun | (ah,ai)=>(((if decide (af.1<(i64.wrap ((ac.length:Int)-1))) then((Z0b.f ah ai false)>>=fun aj=>some (aj.1,aj.2)) else(some (ah,ai))):Option ((List Int)×Int))>>=fun | (ak,al)=>((at? ac af.1)>>=fun am=>(Zx.f ak al a1 am)>>=fun ao=>some (ao.1,ao.2)))
theorem Z9.ok (aa:List Int) (ab a1:Int):FN 46 [.ptr 0 0 0,qu a1] [v1_ 0 [.own 1,qu ab],q0 1 aa] 2 (Z9.f aa ab a1) (fun r=>.tup []) (fun r=>[v1_ 0 [.own 2,qu r.2],(1,none),q0 2 r.1]):=FT [0,1,2] func46 (.bd fun ac ae=>.rg [(0,h1 2 call89 (Z38.ok  ac ae))]<|.bd fun af ah=>.bd fun ai aj=>.rg [(2,qh call91 (Z29.ok a1 af ah)),(3,h3 2 call90 (Z01.ok ac af ai aj))]<|.r0<|.bl<|.lq (.c3 (Z9.l0.partial_correctness a1 ac ai)) (aa,ab,0) [(0,0),(1,4),(2,5)] (fun _=>.pr fun ak=>.pr fun al=>.one (fun am=>⟨[(0,.ptr 0 0 0),(1,qu a1),(4,.own 5),(5,qi ai.1),(15,qi ai.1),(16,qi am)],[v1_ 0 [.own 4,qu al],q0 4 ak,q7 5 ac],2⟩) fun am=>.r0<|.cd (fun ao=>.bl<|.bd fun ap aq=>.rg [(1,h2 0 4 6 call92 (Z0b.ok ak al true ap aq))]<|.r0<|.bk [(0,0),(5,5),(6,4)] rfl)
 (fun ao=>.o [(0,0),(4,7),(5,8)]))
 (.pr fun ar=>.st (.exit 0) (fun au=>⟨[(0,.ptr 0 0 0),(1,qu a1),(4,.own 8),(5,qi ai.1)],[v1_ 0 [.own 7,qu au],q0 7 ar,q7 8 ac],2⟩) fun au=>.rg [(2,hG qe ac)]<|.join (.cd (fun av=>.bd fun ax az=>.rg [(1,h2 0 7 9 call92 (Z0b.ok ar au false ax az))]<|.o [(0,0),(9,10),(8,11)])
 (fun av=>.o [(0,0),(7,10),(8,11)]))
 (.pr fun a8=>.st .normal (fun ba=>⟨[(0,.ptr 0 0 0),(1,qu a1),(4,.own 11),(5,qi ai.1)],[v1_ 0 [.own 10,qu ba],q0 10 a8,q7 11 ac],2⟩) fun ba=>.el fun bb bc be=>.bd fun bf bg=>.rg [(4,hX qe bc be),(5,hL qe be),(6,h2 0 10 12 call93 (Zx.ok a8 ba a1 bb bf bg))]<|.ru [(0,0),(12,2)] ⟨[],[v1_ 0 [.own 2,qu bf.2],q0 2 bf.1],2⟩)))
def Z2t.f (a0:List ByteArray):Option (List ByteArray):=(chk (a0.length<4611686018427387904))>>=fun _=>some (Zao a0)
def lays190_ren:Go.Shelf.Ren:=⟨fun | 190=>94 | 125=>77 | 258=>164 | 128=>138 | 129=>139 | 302=>202 | 303=>203 | 304=>204 | 305=>205 | 306=>206 | 307=>207 | 308=>97 | 309=>208 | 310=>209 | 333=>225 | 329=>190 | 330=>191 | 334=>226 | 335=>227 | 336=>87 | 344=>239 | n=>n,fun | 31=>104 | 9=>9 | 3=>3 | 46=>100 | 0=>0 | 51=>134 | 53=>47 | 4=>4 | 183=>199 | 182=>198 | 131=>110 | 5=>5 | 218=>250 | 222=>253 | 228=>274 | 229=>178 | n=>n,fun | n=>n⟩
theorem lays190:Go.Proofs.Lays.n190 Tryz.prog lays190_ren := {
 mixed:=by kernel_rfl
 f125:=func77.trans (congrArg some (by kernel_rfl))
 f128:=func138.trans (congrArg some (by kernel_rfl))
 f129:=func139.trans (congrArg some (by kernel_rfl))
 f190:=func94.trans (congrArg some (by kernel_rfl))
 f258:=func164.trans (congrArg some (by kernel_rfl))
 f302:=func202.trans (congrArg some (by kernel_rfl))
 f303:=func203.trans (congrArg some (by kernel_rfl))
 f304:=func204.trans (congrArg some (by kernel_rfl))
 f305:=func205.trans (congrArg some (by kernel_rfl))
 f306:=func206.trans (congrArg some (by kernel_rfl))
 f307:=func207.trans (congrArg some (by kernel_rfl))
 f308:=func97.trans (congrArg some (by kernel_rfl))
 f309:=func208.trans (congrArg some (by kernel_rfl))
 f310:=func209.trans (congrArg some (by kernel_rfl))
 f329:=func190.trans (congrArg some (by kernel_rfl))
 f330:=func191.trans (congrArg some (by kernel_rfl))
 f333:=func225.trans (congrArg some (by kernel_rfl))
 f334:=func226.trans (congrArg some (by kernel_rfl))
 f335:=func227.trans (congrArg some (by kernel_rfl))
 f336:=func87.trans (congrArg some (by kernel_rfl))
 f344:=func239.trans (congrArg some (by kernel_rfl))
 t0:=Tryz.underlying0
 a0:=Tryz.isAgg0
 z0:=Tryz.sizeOf0
 v0:=Tryz.zeroValue0
 t3:=Tryz.underlying3
 a3:=Tryz.isAgg3
 z3:=Tryz.sizeOf3
 v3:=Tryz.zeroValue3
 t4:=Tryz.underlying4
 a4:=Tryz.isAgg4
 z4:=Tryz.sizeOf4
 v4:=Tryz.zeroValue4
 t5:=Tryz.underlying5
 a5:=Tryz.isAgg5
 z5:=Tryz.sizeOf5
 v5:=Tryz.zeroValue5
 t9:=Tryz.underlying9
 a9:=Tryz.isAgg9
 z9:=Tryz.sizeOf9
 v9:=Tryz.zeroValue9
 t31:=Tryz.underlying104
 a31:=Tryz.isAgg104
 z31:=Tryz.sizeOf104
 v31:=Tryz.zeroValue104
 t46:=Tryz.underlying100
 a46:=Tryz.isAgg100
 z46:=Tryz.sizeOf100
 v46:=Tryz.zeroValue100
 t51:=Tryz.underlying134
 a51:=Tryz.isAgg134
 z51:=Tryz.sizeOf134
 v51:=Tryz.zeroValue134
 t53:=Tryz.underlying47
 a53:=Tryz.isAgg47
 z53:=Tryz.sizeOf47
 v53:=Tryz.zeroValue47
 t131:=Tryz.underlying110
 a131:=Tryz.isAgg110
 z131:=Tryz.sizeOf110
 v131:=Tryz.zeroValue110
 t182:=Tryz.underlying198
 a182:=Tryz.isAgg198
 z182:=Tryz.sizeOf198
 v182:=Tryz.zeroValue198
 t183:=Tryz.underlying199
 a183:=Tryz.isAgg199
 z183:=Tryz.sizeOf199
 v183:=Tryz.zeroValue199
 t218:=Tryz.underlying250
 a218:=Tryz.isAgg250
 z218:=Tryz.sizeOf250
 v218:=Tryz.zeroValue250
 t222:=Tryz.underlying253
 a222:=Tryz.isAgg253
 z222:=Tryz.sizeOf253
 v222:=Tryz.zeroValue253
 t228:=Tryz.underlying274
 a228:=Tryz.isAgg274
 z228:=Tryz.sizeOf274
 v228:=Tryz.zeroValue274
 t229:=Tryz.underlying178
 a229:=Tryz.isAgg178
 z229:=Tryz.sizeOf178
 v229:=Tryz.zeroValue178 }
theorem Z2t.ok (a0 r:List ByteArray) (H:Z2t.f a0=some r):Pv.Fn Tryz.prog 94 [.own 0] [q4 0 a0] 1 (fun x o=>x = .tup []∧o=[q4 0 r]):=by
 unfold Z2t.f at H;obtain⟨c,H⟩:=Z5n H;obtain rfl:=sj H;exact Fn.sortStr (fun blk off cap ss w hH hb hl=>Go.Proofs.Any.slices_Sort_string lays190 blk off cap ss w hH hb hl) (fun p cap w=>Go.Proofs.Any.slices_Sort_string_none lays190 p cap w) a0 c
def Zp.l1 (a0:List ByteArray) (aa:Int) (ab:List ByteArray) (ac ae:Int):Option ((List ByteArray)×Int):=if decide (ae<(((a0.length-(Int.toNat aa)):Nat):Int)) then((chk (0≤ae∧ae<(((a0.length-(Int.toNat aa)):Nat):Int)))>>=fun _=>(at? ab ((((Int.toNat aa)+ae.toNat:Nat)):Int))>>=fun af=>(chk (0≤(i64.wrap (ae-1))∧(i64.wrap (ae-1))<(((a0.length-(Int.toNat aa)):Nat):Int)))>>=fun _=>(at? ab ((((Int.toNat aa)+(i64.wrap (ae-1)).toNat:Nat)):Int))>>=fun ah=>((if !(af.toList==ah.toList) then((at? ab ac)>>=fun ai=>some (ab.set ac.toNat af,i64.wrap (ac+1))) else(some (ab,ac))):Option ((List ByteArray)×Int))>>=fun | (aj,ak)=>(Zp.l1 a0 aa aj ak (i64.wrap (ae+1)))) else(some (ab,ac))
partial_fixpoint
def Zp.l0 (a0:List ByteArray) (aa:Int):Option ((List ByteArray) ⊕ Unit):=if decide (aa<(a0.length:Int)) then((at? a0 aa)>>=fun ab=>(at? a0 (i64.wrap (aa-1)))>>=fun ac=>if ab.toList==ac.toList then((chk (0≤aa∧aa≤(a0.length:Int)))>>=fun _=>(Zp.l1 a0 aa a0 aa 1)>>=fun | (ae,af)=>((chk (0≤af∧af≤(ae.length:Int)))>>=fun _=>(chk (0≤af∧af≤((ae.take (Int.toNat af)++List.replicate (ae.length-(Int.toNat af)) (⟨#[]⟩:ByteArray)).length:Int)))>>=fun _=>some (.inl ((ae.take (Int.toNat af)++List.replicate (ae.length-(Int.toNat af)) (⟨#[]⟩:ByteArray)).take af.toNat)))) else(Zp.l0 a0 (i64.wrap (aa+1)))) else(some (.inr ()))
partial_fixpoint
def Zp.f (a0:List ByteArray):Option (List ByteArray):=if decide ((a0.length:Int)<2) then(some a0) else((Zp.l0 a0 1)>>=fun | .inl rr=>(some rr) | .inr _=>(some a0))
theorem Zp.ok (a0:List ByteArray):FN 95 [.own 0] [q4 0 a0] 1 (Zp.f a0) (fun r=>.own 1) (fun r=>[(0,none),q4 1 r]):=FT [0,1] func95 (.r0<|.rg [(1,hG qs a0)]<|.cd (fun aa=>.r0<|.ru [(0,1)] ⟨[(2,.own 1)],[q4 1 a0],1⟩)
 (fun aa=>.r0<|.bl<|.lq (.one (Zp.l0.partial_correctness a0)) 1 [(0,0)] (fun _=>.one (fun ab=>⟨[(0,.own 0),(3,qi ab)],[q4 0 a0],1⟩) fun ab=>.rg [(2,hG qs a0)]<|.cd (fun ac=>.bl<|.el fun ae af ah=>.el fun ai aj ak=>.rg [(2,hX qs af ah),(3,hL qs ah),(7,hX qs aj ak),(8,hL qs ak)]<|.cd (fun al=>.ck fun am=>.rg [(2,⟨.more (xCutOwn (Int.toNat ab) (a0.length-(Int.toNat ab))),.c (p:=ab=(((Int.toNat ab):Nat):Int)) ((Int.toNat_of_nonneg am.1).symm) (.c (p:=(Int.toNat ab)+(a0.length-(Int.toNat ab))=(a0.map qs).length) (by have h:=am;rw[List.length_map];omega) .n)⟩)]<|.r0<|.bl<|.lq (.c3 (Zp.l1.partial_correctness a0 ab)) (a0,ab,1) [(0,0)] (fun _=>.pr fun ao=>.pr fun ap=>.one (fun aq=>⟨[(0,.own 0),(3,qi ap),(4,.cut 0 (Int.toNat ab) (a0.length-(Int.toNat ab))),(5,qi aq)],[q4 0 ao],1⟩) fun aq=>.rg [(2,⟨.more xLenCut,.n⟩)]<|.cd (fun ar=>.bl<|.ck fun au=>.el fun av ax az=>.ck fun a8=>.el fun ba bb bc=>.rg [(2,⟨.more (xIdxCut (Int.toNat (aq))),.c (p:=aq=(((Int.toNat (aq)):Nat):Int)) ((Int.toNat_of_nonneg au.1).symm) (.c (p:=(Int.toNat (aq))<(a0.length-(Int.toNat ab))) ((Int.toNat_lt au.1).2 au.2) .n)⟩),(3,hL qs az),(7,⟨.more (xIdxCut (Int.toNat (i64.wrap (aq-1)))),.c (p:=(i64.wrap (aq-1))=(((Int.toNat (i64.wrap (aq-1))):Nat):Int)) ((Int.toNat_of_nonneg a8.1).symm) (.c (p:=(Int.toNat (i64.wrap (aq-1)))<(a0.length-(Int.toNat ab))) ((Int.toNat_lt a8.1).2 a8.2) .n)⟩),(8,hL qs bc)]<|.join (.cd (fun be=>.el fun bf bg bh=>.rg [(4,⟨.more (xIdxCut (Int.toNat (aq))),.c (p:=aq=(((Int.toNat (aq)):Nat):Int)) ((Int.toNat_of_nonneg au.1).symm) (.c (p:=(Int.toNat (aq))<(a0.length-(Int.toNat ab))) ((Int.toNat_lt au.1).2 au.2) .n)⟩),(5,hL qs az),(6,hX qs bg bh),(7,hS qs av 0 [sI av] bh)]<|.r0<|.o [(0,0)])
 (fun be=>.o [(0,0)]))
 (.pr fun bi=>.st .normal (fun bj=>⟨[(0,.own 0),(3,qi bj),(4,.cut 0 (Int.toNat ab) (a0.length-(Int.toNat ab))),(5,qi aq)],[q4 0 bi],1⟩) fun bj=>.r0<|.bk [(0,0)] rfl))
 (fun ar=>.o [(0,0)]))
 (.pr fun bn=>.st (.exit 2) (fun bo=>⟨[(0,.own 0),(3,qi bo)],[q4 0 bn],1⟩) fun bo=>.ck fun bp=>.rg [(2,⟨.more (xCutOwn (Int.toNat bo) (bn.length-(Int.toNat bo))),.c (p:=bo=(((Int.toNat bo):Nat):Int)) ((Int.toNat_of_nonneg bp.1).symm) (.c (p:=(Int.toNat bo)+(bn.length-(Int.toNat bo))=(bn.map qs).length) (by have h:=bp;rw[List.length_map];omega) .n)⟩),(3,⟨.more (xClear ((bn.take (Int.toNat bo)++List.replicate (bn.length-(Int.toNat bo)) (⟨#[]⟩:ByteArray)).map qs)),.c (p:=(bn.take (Int.toNat bo)++List.replicate (bn.length-(Int.toNat bo)) (⟨#[]⟩:ByteArray)).map qs=(bn.map qs).take (Int.toNat bo)++List.replicate (bn.length-(Int.toNat bo)) [sI (⟨#[]⟩:ByteArray)]) (by simp) (.c (p:=(Int.toNat bo)+(bn.length-(Int.toNat bo))=(bn.map qs).length) (by have h:=bp;rw[List.length_map];omega) .n)⟩)]<|.ck fun bq=>.rg [(2,⟨.more (xTake 2 (((bn.take (Int.toNat bo)++List.replicate (bn.length-(Int.toNat bo)) (⟨#[]⟩:ByteArray)).take (Int.toNat (bo))).map qs)),.c (bq.1) (.c (p:=bo≤(((bn.take (Int.toNat bo)++List.replicate (bn.length-(Int.toNat bo)) (⟨#[]⟩:ByteArray)).map qs).length:Int)) (by simpa using bq.2) (.c (p:=((bn.take (Int.toNat bo)++List.replicate (bn.length-(Int.toNat bo)) (⟨#[]⟩:ByteArray)).take (Int.toNat (bo))).map qs=((bn.take (Int.toNat bo)++List.replicate (bn.length-(Int.toNat bo)) (⟨#[]⟩:ByteArray)).map qs).take (Int.toNat (bo))) (by simp) .n))⟩)]<|.ru [(2,1)] ⟨[(2,.own 1)],[q4 1 ((bn.take (Int.toNat bo)++List.replicate (bn.length-(Int.toNat bo)) (⟨#[]⟩:ByteArray)).take (Int.toNat (bo)))],1⟩))
 (fun al=>.r0<|.bk [(0,0)] rfl))
 (fun ac=>.o [(0,0)]))
 (.sm (.rt (fun rr=>.own 1) (fun rr=>[(0,none),q4 1 rr]))
 (.st (.exit 0) (fun _=>⟨[(0,.own 0)],[q4 0 a0],1⟩) fun _=>.r0<|.ru [(0,1)] ⟨[(2,.own 1)],[q4 1 a0],1⟩))))
def Z14.l1 (a0:Z2) (aa:(List Z0d)×Int) (ab:Int) (ac:List ByteArray) (ae:Int):Option (List ByteArray):=if decide (ae<(aa.1.length:Int)) then((at? aa.1 ae)>>=fun af=>(chk ((ac.length+[af.f0,af.f1].length)*16≤140737488355328))>>=fun _=>Z14.l1 a0 aa ab (ac++[af.f0,af.f1]) (i64.wrap (ae+1))) else(some ac)
partial_fixpoint
def Z14.l0 (a0:Z2) (aa:List ByteArray) (ab:Int):Option (List ByteArray):=if decide (ab<(a0.f1.length:Int)) then((at? a0.f1 ab)>>=fun ac=>(Z0e.f ac.f0)>>=fun ae=>(Z14.l1 a0 ae ab aa 0)>>=fun af=>Z14.l0 a0 af (i64.wrap (ab+1))) else(some aa)
partial_fixpoint
def Z14.f (a0:Z2):Option (List ByteArray):=(Z14.l0 a0 [] 0)>>=fun aa=>(Z2t.f aa)>>=fun ab=>(Zp.f ab)>>=fun ac=>some ac
theorem Z14.ok (a0:Z2):FN 47 [.agg (Z4r ⟨a0.f0.f0,a0.f0.f1,a0.f0.f2,a0.f1⟩)] [] 0 (Z14.f a0) (fun r=>.own 0) (fun r=>[q4 0 r]):=FT [0] func47 (.rg [(0,⟨.k 0,.n⟩)]<|.r0<|.rg [(2,hG Z7 a0.f1)]<|.bl<|.loop (.c2 (Z14.l0.partial_correctness a0)) ([],0) [] [] [12] (fun _=>.pr fun aa=>.one (fun ab=>⟨[(3,.own 12),(11,im a0.f1 Z7),(12,qi (ln a0.f1)),(13,qi ab)],[q4 12 aa],0⟩) fun ab=>.r0<|.cd (fun ac=>.bl<|.el fun ae af ah=>.rg [(0,hA Z7 af ah),(2,⟨.k 13,.n⟩)]<|.bd fun ai aj=>.rg [(2,h1 14 call49 (Z0e.ok ae.f0 ai aj))]<|.rg [(1,hG Z2s ai.1)]<|.bl<|.lq (.c2 (Z14.l1.partial_correctness a0 ai ab)) (aa,0) [(12,18),(14,19)] (fun _=>.pr fun ak=>.one (fun al=>⟨[(3,.own 18),(11,im a0.f1 Z7),(12,qi (ln a0.f1)),(13,qi ab),(23,.own 19),(24,qi (ln ai.1)),(25,qi al)],[q4 18 ak,q3 19 ai.1],0⟩) fun al=>.r0<|.cd (fun am=>.bl<|.el fun ao ap aq=>.rg [(0,hX Z2s ap aq),(1,hL Z2s aq),(2,⟨.k 20,.n⟩)]<|.ck fun ar=>.rg [(5,hQ 21 qs ([ao.f0,ao.f1]:List ByteArray)),(6,hP 22 qs 1 ar)]<|.r0<|.bk [(19,19),(22,18)] rfl)
 (fun am=>.o [(18,23)]))
 (.st (.exit 2) (fun au=>⟨[(3,.own 23),(11,im a0.f1 Z7),(12,qi (ln a0.f1)),(13,qi ab)],[q4 23 au],0⟩) fun au=>.r0<|.bk [(23,12)] rfl))
 (fun ac=>.o [(12,24)]))
 (.st (.exit 0) (fun av=>⟨[(3,.own 24)],[q4 24 av],0⟩) fun av=>.bd fun ax az=>.rg [(1,hC [(24,0)] [(0,24)] [] [] call94 (Z2t.ok av ax az))]<|.bd fun a8 ba=>.rg [(1,hC [(24,0)] [(1,25)] [] [25] call95 (Zp.ok ax a8 ba))]<|.ru [(25,0)] ⟨[(2,.own 0)],[q4 0 a8],0⟩))
def Z17.l0 (a1:ByteArray) (aa:List Int) (ab ac:Int):Option ((List Int)×Int):=if decide (ac<(a1.size:Int)) then((chk (0≤ac∧ac<(a1.size:Int)))>>=fun _=>(Zx.f aa ab (u64.wrap (bt a1 ac)) 8)>>=fun ae=>Z17.l0 a1 ae.1 ae.2 (i64.wrap (ac+1))) else(some (aa,ab))
partial_fixpoint
def Z17.f (aa:List Int) (ab:Int) (a1:ByteArray):Option ((List Int)×Int):=(Z9.f aa ab (u64.wrap (a1.size:Int)))>>=fun ac=>(Z17.l0 a1 ac.1 ac.2 0)>>=fun | (ae,af)=>(some (ae,af))
theorem Z17.ok (aa:List Int) (ab:Int) (a1:ByteArray):FN 48 [.ptr 0 0 0,sV a1] [v1_ 0 [.own 1,qu ab],q0 1 aa] 2 (Z17.f aa ab a1) (fun r=>.tup []) (fun r=>[v1_ 0 [.own 2,qu r.2],(1,none),q0 2 r.1]):=FT [0,1,2] func48 (.bd fun ac ae=>.rg [(4,h2 0 1 2 call46 (Z9.ok aa ab (u64.wrap (a1.size:Int)) ac ae))]<|.r0<|.bl<|.lq (.c3 (Z17.l0.partial_correctness a1)) (ac.1,ac.2,0) [(0,0),(2,4)] (fun _=>.pr fun af=>.pr fun ah=>.one (fun ai=>⟨[(0,.ptr 0 0 0),(1,sV a1),(11,qi (a1.size:Int)),(12,qi ai)],[v1_ 0 [.own 4,qu ah],q0 4 af],2⟩) fun ai=>.r0<|.cd (fun aj=>.bl<|.r0<|.ck fun ak=>.bd fun al am=>.rg [(3,hN (p2 ak)),(5,h2 0 4 5 call93 (Zx.ok af ah (u64.wrap (bt a1 ai)) 8 al am))]<|.r0<|.bk [(0,0),(5,4)] rfl)
 (fun aj=>.o [(0,0),(4,6)]))
 (.pr fun ao=>.st (.exit 0) (fun ap=>⟨[],[v1_ 0 [.own 6,qu ap],q0 6 ao],2⟩) fun ap=>.ru [(0,0),(6,2)] ⟨[],[v1_ 0 [.own 2,qu ap],q0 2 ao],2⟩))
def Z22.f (a0:ByteArray):Option Unit:=some ()
theorem Z22.ok (a0:ByteArray):F0 87 [sV a0] (Z22.f a0) (fun r=>bV (!(a0.toList==a0.toList))):=FT [] func87 (.r0<|.r0<|.rv ⟨[(2,bV (!(a0.toList==a0.toList)))],[],0⟩)
def Z45.f (a0 a1:ByteArray):Option Bool:=(((Z22.f a0)>>=fun aa=>if !(a0.toList==a0.toList) then((Z22.f a1)>>=fun ab=>if !(!(a1.toList==a1.toList)) then(some true) else(some (Op.bytesLess a0.toList a1.toList))) else(some (Op.bytesLess a0.toList a1.toList))):Option Bool)>>=fun ac=>some ac
theorem Z45.ok (a0 a1:ByteArray):F0 97 [sV a0,sV a1] (Z45.f a0 a1) (fun r=>bV r):=FT [] func97 (.r0<|.join (.bd fun aa ab=>.sp (fun ac=>.bd fun ae af=>.sp (fun ah=>.rg [(1,qh call87 (Z22.ok a0 aa ab)),(2,hB ac),(4,qh call87 (Z22.ok a1 ae af)),(7,hB ah)]<|.o [])
 (fun ah=>.rg [(1,qh call87 (Z22.ok a0 aa ab)),(2,hB ac),(4,qh call87 (Z22.ok a1 ae af)),(7,hB ah)]<|.o []))
 (fun ac=>.rg [(1,qh call87 (Z22.ok a0 aa ab)),(2,hB ac)]<|.o []))
 (.st .normal (fun ai=>⟨[(4,bV ai)],[],0⟩) fun ai=>.rv ⟨[(4,bV ai)],[],0⟩))
def Z2g.f (a0:ByteArray):Option Unit:=some ()
theorem Z2g.ok (a0:ByteArray):F0 98 [sV a0] (Z2g.f a0) (fun r=>bV (!(a0.toList==a0.toList))):=FT [] func98 (.r0<|.r0<|.rv ⟨[(2,bV (!(a0.toList==a0.toList)))],[],0⟩)
def Z00.l0 (a0:List ByteArray) (a1:ByteArray) (aa ab:Int):Option Int:=if decide (aa<ab) then((at? a0 (i64.wrap (Int.fdiv (u64.wrap (i64.wrap (aa+ab))) 2)))>>=fun ac=>(Z45.f ac a1)>>=fun ae=>((if ae=true then(some (i64.wrap ((i64.wrap (Int.fdiv (u64.wrap (i64.wrap (aa+ab))) 2))+1),ab)) else(some (aa,i64.wrap (Int.fdiv (u64.wrap (i64.wrap (aa+ab))) 2)))):Option (Int×Int))>>=fun | (af,ah)=>(Z00.l0 a0 a1 af ah)) else(some aa)
partial_fixpoint
def Z00.f (a0:List ByteArray) (a1:ByteArray):Option (Int×Bool):=(Z00.l0 a0 a1 0 (a0.length:Int))>>=fun aa=>((if decide (aa<(a0.length:Int)) then((at? a0 aa)>>=fun ab=>if ab.toList==a1.toList then(some true) else((Z2g.f ab)>>=fun ac=>if !(ab.toList==ab.toList) then((Z2g.f a1)>>=fun ae=>some (!(a1.toList==a1.toList))) else(some false))) else(some false)):Option Bool)>>=fun af=>some (aa,af)
theorem Z00.ok (a0:List ByteArray) (a1:ByteArray):F0 50 [.im (.row (a0.map qs)),sV a1] (Z00.f a0 a1) (fun r=>.tup [qi r.1,bV r.2]):=FT [] func50 (.r0<|.rg [(1,hG qs a0)]<|.r0<|.bl<|.lq (.c2 (Z00.l0.partial_correctness a0 a1)) (0,(ln a0)) [] (fun _=>.pr fun aa=>.one (fun ab=>⟨[(0,im a0 qs),(1,sV a1),(6,qi (ln a0)),(7,qi aa),(8,qi ab)],[],0⟩) fun ab=>.r0<|.cd (fun ac=>.bl<|.rg [(4,hK 1)]<|.el fun ae af ah=>.bd fun ai aj=>.rg [(2,hA qs af ah),(5,qh call97 (Z45.ok ae a1 ai aj))]<|.join (.cd (fun ak=>.r0<|.o [])
 (fun ak=>.r0<|.o []))
 (.pr fun al=>.st .normal (fun am=>⟨[(0,im a0 qs),(1,sV a1),(6,qi (ln a0)),(7,qi al),(8,qi am)],[],0⟩) fun am=>.bk [] rfl))
 (fun ac=>.o []))
 (.st (.exit 0) (fun ao=>⟨[(0,im a0 qs),(1,sV a1),(6,qi (ln a0)),(7,qi ao)],[],0⟩) fun ao=>.join (.sp (fun ap=>.el fun aq ar au=>.sp (fun av=>.rg [(4,hB ap),(7,hA qs ar au),(11,hB av)]<|.o [])
 (fun av=>.bd fun ax az=>.sp (fun a8=>.bd fun ba bb=>.rg [(4,hB ap),(7,hA qs ar au),(11,hB av),(14,hA qs ar au),(16,qh call98 (Z2g.ok aq ax az)),(17,hB a8),(19,qh call98 (Z2g.ok a1 ba bb))]<|.o [])
 (fun a8=>.rg [(4,hB ap),(7,hA qs ar au),(11,hB av),(14,hA qs ar au),(16,qh call98 (Z2g.ok aq ax az)),(17,hB a8)]<|.o [])))
 (fun ap=>.rg [(4,hB ap)]<|.o []))
 (.st .normal (fun bc=>⟨[(4,qi ao),(5,bV bc)],[],0⟩) fun bc=>.rv ⟨[(4,qi ao),(5,bV bc)],[],0⟩)))
def Z51.f (a0 a1:Zi):Option Bool:=((if a0.f0==a1.f0 then(if a0.f1==a1.f1 then(some (a0.f2==a1.f2)) else(some false)) else(some false)):Option Bool)>>=fun aa=>some aa
theorem Z51.ok (a0 a1:Zi):F0 167 [.agg (Z4n a0),.agg (Z4n a1)] (Z51.f a0 a1) (fun r=>bV r):=FT [] func167 (.rg [(0,⟨.k 0,.n⟩),(1,⟨.k 1,.n⟩)]<|.join (.sp (fun aa=>.sp (fun ab=>.rg [(5,hB aa),(12,hB ab)]<|.o [])
 (fun ab=>.rg [(5,hB aa),(12,hB ab)]<|.o []))
 (fun aa=>.rg [(5,hB aa)]<|.o []))
 (.st .normal (fun ac=>⟨[(4,bV ac)],[],0⟩) fun ac=>.rv ⟨[(4,bV ac)],[],0⟩))
def Z62.f (a0 a1:Int):Option (Int×Int):=if !((decide (a0<a1))==(decide ((i64.wrap (a0-a1))<0))) then(some (0,5)) else(some (i64.wrap (a0-a1),0))
theorem Z62.ok (a0 a1:Int):F0 228 [qi a0,qi a1] (Z62.f a0 a1) (fun r=>.tup [qi r.1,qi r.2]):=FT [] func228 (.r0<|.r0<|.r0<|.cd (fun aa=>.r0<|.rv ⟨[(4,qi 0),(5,qi 5)],[],0⟩)
 (fun aa=>.r0<|.rv ⟨[(4,qi (i64.wrap (a0-a1))),(5,qi 0)],[],0⟩))
def Zbh.f (a0 a1:Int):Option Unit:=(chk (0≤a1))>>=fun _=>some ()
theorem Zbh.ok (a0 a1:Int):F0 259 [qi a0,qu a1] (Zbh.f a0 a1) (fun r=>qi (i64.wrap (0-(Int.fdiv (i64.wrap (0-a0)) (2 ^ (min (Int.toNat (a1)) 64)))))):=FT [] func259 (.r0<|.ck fun aa=>.rg [(3,hN (p1 aa))]<|.rv ⟨[(4,qi (i64.wrap (0-(Int.fdiv (i64.wrap (0-a0)) (2 ^ (min (Int.toNat (a1)) 64))))))],[],0⟩)
def Z7l.f (a0 a1 a2:Int):Option (Int×Int):=(((Z0i.f a0)>>=fun aa=>if !aa then(some true) else((Z0i.f a1)>>=fun ab=>if !ab then(some true) else(some (decide (a1>a0))))):Option Bool)>>=fun ac=>if ac=true then(some (0,20)) else((Z65.f a0 a2)>>=fun ae=>if !ae then(some (0,4)) else((Zbh.f a2 (u64.wrap (i64.wrap (a0-a1))))>>=fun af=>some (i64.wrap (0-(Int.fdiv (i64.wrap (0-a2)) (2 ^ (min ((u64.wrap (i64.wrap (a0-a1)))).toNat 64)))),0)))
theorem Z7l.ok (a0 a1 a2:Int):F0 254 [qi a0,qi a1,qi a2] (Z7l.f a0 a1 a2) (fun r=>.tup [qi r.1,qi r.2]):=FT [] func254 (.r0<|.bl<|.join (.bd fun aa ab=>.sp (fun ac=>.rg [(1,qh call175 (Z0i.ok a0 aa ab)),(3,hB ac)]<|.o [])
 (fun ac=>.bd fun ae af=>.sp (fun ah=>.rg [(1,qh call175 (Z0i.ok a0 aa ab)),(3,hB ac),(5,qh call175 (Z0i.ok a1 ae af)),(8,hB ah)]<|.o [])
 (fun ah=>.rg [(1,qh call175 (Z0i.ok a0 aa ab)),(3,hB ac),(5,qh call175 (Z0i.ok a1 ae af)),(8,hB ah)]<|.o [])))
 (.st .normal (fun ai=>⟨[(0,qi a0),(1,qi a1),(2,qi a2),(8,bV ai)],[],0⟩) fun ai=>.cd (fun aj=>.r0<|.rv ⟨[(6,qi 0),(7,qi 20)],[],0⟩)
 (fun aj=>.bd fun ak al=>.rg [(2,qh call211 (Z65.ok a0 a2 ak al))]<|.cd (fun am=>.r0<|.rv ⟨[(6,qi 0),(7,qi 4)],[],0⟩)
 (fun am=>.bd fun ao ap=>.rg [(5,qh call259 (Zbh.ok a2 (u64.wrap (i64.wrap (a0-a1))) ao ap))]<|.rv ⟨[(6,qi (i64.wrap (0-(Int.fdiv (i64.wrap (0-a2)) (2 ^ (min (Int.toNat ((u64.wrap (i64.wrap (a0-a1))))) 64)))))),(7,qi 0)],[],0⟩))))
def Z34.l0 (a0:List Z0) (a1 a2:Int) (aa:List Z0) (ab:Int):Option (List Z0):=if decide (ab<(a0.length:Int)) then((at? a0 ab)>>=fun ac=>(Z7l.f a1 a2 ac.f0)>>=fun ae=>(chk ((aa.length+[(⟨ae.1,ac.f1⟩:Z0)].length)*16≤140737488355328))>>=fun _=>Z34.l0 a0 a1 a2 (aa++[(⟨ae.1,ac.f1⟩:Z0)]) (i64.wrap (ab+1))) else(some aa)
partial_fixpoint
def Z34.f (a0:List Z0) (a1 a2:Int):Option (List Z0):=(Z34.l0 a0 a1 a2 [] 0)>>=fun aa=>some aa
abbrev q8:=@RW _ 2 193 Z3
theorem Z34.ok (a0:List Z0) (a1 a2:Int):FN 249 [.im (.row (a0.map Z3)),qi a1,qi a2] [] 0 (Z34.f a0 a1 a2) (fun r=>.own 0) (fun r=>[q8 0 r]):=FT [0] func249 (.r0<|.r0<|.rg [(1,hG Z3 a0)]<|.bl<|.loop (.c2 (Z34.l0.partial_correctness a0 a1 a2)) ([],0) [] [] [3] (fun _=>.pr fun aa=>.one (fun ab=>⟨[(1,qi a1),(2,qi a2),(7,.own 3),(10,im a0 Z3),(11,qi (ln a0)),(12,qi ab)],[q8 3 aa],0⟩) fun ab=>.r0<|.cd (fun ac=>.bl<|.el fun ae af ah=>.rg [(0,hA Z3 af ah),(2,⟨.k 4,.n⟩)]<|.bd fun ai aj=>.rg [(4,qh call254 (Z7l.ok a1 a2 ae.f0 ai aj))]<|.ck fun ak=>.rg [(2,hQ 5 Z3 ([(⟨ai.1,ae.f1⟩:Z0)]:List Z0)),(3,hP 6 Z3 2 ak)]<|.r0<|.bk [(6,3)] rfl)
 (fun ac=>.o [(3,7)]))
 (.st (.exit 0) (fun al=>⟨[(7,.own 7)],[q8 7 al],0⟩) fun al=>.r0<|.ru [(7,0)] ⟨[(6,.own 0)],[q8 0 al],0⟩))
def Z33.l0 (a0:Zi) (a1:List Z0) (a2 aa:Int):Option (Int ⊕ Unit):=if decide (aa<(a1.length:Int)) then((at? a1 aa)>>=fun ab=>(((Z52.f a0.f1 ab.f0)>>=fun ac=>if decide (ac<a2) then((Z2q.f a0.f1 ab.f0)>>=fun ae=>some (decide (a2<ae))) else(some false)):Option Bool)>>=fun af=>if af=true then((Z2q.f a0.f1 ab.f0)>>=fun ah=>some (.inl ah)) else(Z33.l0 a0 a1 a2 (i64.wrap (aa+1)))) else(some (.inr ()))
partial_fixpoint
def Z33.f (a0:Zi) (a1:List Z0) (a2:Int):Option Int:=(Z33.l0 a0 a1 a2 0)>>=fun | .inl rr=>(some rr) | .inr _=>(some a2)
theorem Z33.ok (a0:Zi) (a1:List Z0) (a2:Int):F0 255 [.agg (Z4n a0),.im (.row (a1.map Z3)),qi a2] (Z33.f a0 a1 a2) (fun r=>qi r):=FT [] func255 (.rg [(0,⟨.k 0,.n⟩)]<|.rg [(1,hG Z3 a1)]<|.bl<|.lq (.one (Z33.l0.partial_correctness a0 a1 a2)) 0 [(0,4)] (fun _=>.one (fun aa=>⟨[(2,qi a2),(3,.ptr 4 0 0),(9,im a1 Z3),(10,qi (ln a1)),(11,qi aa)],[w1_ 4 a0],0⟩) fun aa=>.r0<|.cd (fun ab=>.bl<|.el fun ac ae af=>.rg [(0,hA Z3 ae af),(2,⟨.k 5,.n⟩)]<|.join (.bd fun ah ai=>.sp (fun aj=>.bd fun ak al=>.rg [(4,qh call212 (Z52.ok a0.f1 ac.f0 ah ai)),(7,hB aj),(13,qh call234 (Z2q.ok a0.f1 ac.f0 ak al))]<|.o [(4,6),(5,7)])
 (fun aj=>.rg [(4,qh call212 (Z52.ok a0.f1 ac.f0 ah ai)),(7,hB aj)]<|.o [(4,6),(5,7)]))
 (.st .normal (fun am=>⟨[(2,qi a2),(3,.ptr 6 0 0),(8,.ptr 7 0 0),(9,im a1 Z3),(10,qi (ln a1)),(11,qi aa),(30,bV am)],[w1_ 6 a0,w2_ 7 ac],0⟩) fun am=>.cd (fun ao=>.bd fun ap aq=>.rg [(4,qh call234 (Z2q.ok a0.f1 ac.f0 ap aq))]<|.rv ⟨[(6,qi ap)],[],0⟩)
 (fun ao=>.r0<|.bk [(6,4)] rfl)))
 (fun ab=>.o []))
 (.sm (.rt (fun rr=>qi rr) (fun rr=>[]))
 (.st (.exit 0) (fun _=>⟨[(2,qi a2)],[],0⟩) fun _=>.r0<|.rv ⟨[(6,qi a2)],[],0⟩)))
def Z0g.l0 (a0:List Z0) (aa ab ac ae af:Int) (ah ai:List Z0) (aj ak:Int) (al:List Z0) (am:Int):Option ((List Z0)×Int):=if decide (am<(a0.length:Int)) then((at? a0 am)>>=fun ao=>(Z2q.f ab ao.f0)>>=fun ap=>((if decide (ap>aj) then((chk ((al.length+[ao].length)*16≤140737488355328))>>=fun _=>some (ak,al++[ao])) else((Z3f.f [ak,ao.f1])>>=fun aq=>some (aq.1,al))):Option (Int×(List Z0)))>>=fun | (ar,au)=>(Z0g.l0 a0 aa ab ac ae af ah ai aj ar au (i64.wrap (am+1)))) else(some (al,ak))
partial_fixpoint
def Z0g.f (a0:List Z0) (aa ab ac ae af ah:Int) (ai aj:List Z0) (ak:Int):Option ((List Z0)×Int):=(Z0g.l0 a0 aa ab ac af ah ai aj ak ae [] 0)>>=fun | (al,am)=>(some (al,am))
abbrev v2_ (k:Nat) (x:List AVal):Nat×Option MObj:=BX 3 k x
theorem Z0g.ok (a0:List Z0) (aa ab ac ae af ah:Int) (ai aj:List Z0) (ak:Int):FN 256 [.im (.row (a0.map Z3)),.ptr 0 0 0,.ptr 1 0 0] [w1_ 0 ⟨aa,ab,ac,ae,af,ah,ai,aj⟩,v2_ 1 [qi ak]] 2 (Z0g.f a0 aa ab ac ae af ah ai aj ak) (fun r=>.own 2) (fun r=>[w1_ 0 ⟨aa,ab,ac,r.2,af,ah,ai,aj⟩,v2_ 1 [qi ak],q8 2 r.1]):=FT [0,1,2] func256 (.r0<|.r0<|.rg [(1,hG Z3 a0)]<|.bl<|.loop (.c3 (Z0g.l0.partial_correctness a0 aa ab ac af ah ai aj ak)) (ae,[],0) [(0,0),(1,1)] [] [7] (fun _=>.pr fun al=>.pr fun am=>.one (fun ao=>⟨[(1,.ptr 0 0 0),(2,.ptr 1 0 0),(5,.own 7),(8,im a0 Z3),(9,qi (ln a0)),(10,qi ao)],[w1_ 0 ⟨aa,ab,ac,al,af,ah,ai,aj⟩,v2_ 1 [qi ak],q8 7 am],2⟩) fun ao=>.r0<|.cd (fun ap=>.bl<|.el fun aq ar au=>.rg [(0,hA Z3 ar au),(2,⟨.k 8,.n⟩)]<|.bd fun av ax=>.rg [(4,qh call234 (Z2q.ok ab aq.f0 av ax))]<|.join (.cd (fun az=>.ck fun a8=>.rg [(2,hQ 9 Z3 ([aq]:List Z0)),(3,hP 10 Z3 2 a8)]<|.o [(0,0),(1,1),(10,12)])
 (fun az=>.bd fun ba bb=>.rg [(4,hQ 11 qv ([al,aq.f1]:List Int)),(5,h3 11 call213 (Z3f.ok [al,aq.f1] ba bb))]<|.o [(0,0),(1,1),(7,12)]))
 (.pr fun bc=>.st .normal (fun be=>⟨[(1,.ptr 0 0 0),(2,.ptr 1 0 0),(5,.own 12),(8,im a0 Z3),(9,qi (ln a0)),(10,qi ao)],[w1_ 0 ⟨aa,ab,ac,bc,af,ah,ai,aj⟩,v2_ 1 [qi ak],q8 12 be],2⟩) fun be=>.r0<|.bk [(0,0),(1,1),(12,7)] rfl))
 (fun ap=>.o [(7,13),(0,0),(1,1)]))
 (.pr fun bf=>.st (.exit 0) (fun bg=>⟨[(5,.own 13)],[w1_ 0 ⟨aa,ab,ac,bg,af,ah,ai,aj⟩,v2_ 1 [qi ak],q8 13 bf],2⟩) fun bg=>.r0<|.ru [(0,0),(1,1),(13,2)] ⟨[(4,.own 2)],[w1_ 0 ⟨aa,ab,ac,bg,af,ah,ai,aj⟩,v2_ 1 [qi ak],q8 2 bf],2⟩))
def Z0n.f (a0:List Z0):Option (List Z0):=(chk ((([]:List Z0).length+a0.length)*16≤140737488355328))>>=fun _=>some a0
theorem Z0n.ok (a0 r:List Z0) (H:Z0n.f a0=some r):Pv.Fn Tryz.prog 243 [.im (.row (a0.map Z3))] [] 0 (fun x o=>x = .own 0∧o=[q8 0 r]):=by
 unfold Z0n.f at H;obtain⟨c1,H⟩:=Z5n H;obtain rfl:=sj H;refine Fn.bodyK [0] func243 rfl rfl (fun Γ hP hn => ?_);have hm:Tryz.prog.follows .mixedOrders=true:=by kernel_rfl
 replace hn:Γ.n=8:=hn;refine AWp.seq ?_;refine reg hP hn hm [] [0,2] [] ⟨[(0,im a0 Z3),(2,.none0)],[],0⟩ [] (by kernel_rfl) trivial ?_;refine AWp.seq ?_;cases a0 with
 | nil =>
  refine AWp.nilSplit 0 rfl (fun b m => ?_);refine AWp.seq ?_;cases b with
  | none =>
   refine reg hP hn hm [(1,.more xNil)] [2,4] [] ⟨[(2,.none0),(4,bV true)],[],0⟩ [] (by kernel_rfl) trivial ?_;refine AWp.cond true rfl (fun _ => ?_) (fun h=>nomatch h);refine AWp.seq ?_;refine reg hP hn hm [] [2] [] ⟨[(2,.none0)],[],0⟩ [] (by kernel_rfl) trivial ?_;refine AWp.conv (inv:=[]) (vk:=[]) (e0:=[0]) (t:=⟨[(2,.own 0)],[(0,some (.row 2 193 []))],0⟩) (by kernel_rfl) ?_
   refine AWp.ret ?_;exact Exists.intro _ (And.intro (fun _ _ h=>h) (And.intro (.inl rfl) (And.intro rfl (And.intro (by kernel_rfl) (by kernel_rfl)))))
  | some b =>
   refine reg hP hn hm [(1,.more xNil)] [0,2,4] [] ⟨[(0,.im (.sc (.slice (some b) 0 m))),(2,.none0),(4,bV false)],[],0⟩ [] (by kernel_rfl) trivial ?_;refine AWp.cond false rfl (fun h=>nomatch h) (fun _ => ?_);refine AWp.skip ?_;refine AWp.unsplit 0 rfl ?_;refine AWp.seq ?_;refine reg hP hn hm [(0,.app 0 ([]:List (List Im))),(2,.app 1 (([]:List Z0).map Z3))] [2] [1] ⟨[(2,.own 1)],[q8 1 ([]:List Z0)],0⟩ [([]:List (List Im))=[],([]:List Z0).map Z3=([]:List (List Im))++([]:List Z0).map Z3,∀ c∈([]:List Z0).map Z3,c.length=2,∀ c∈([]:List Z0).map Z3,Z1v (c.map .im)=true,(([]:List (List Im)).length+(([]:List Z0).map Z3).length)*16≤140737488355328] (by kernel_rfl) ⟨rfl,by simp,by exact Z3c _ _ _ (fun _=>rfl),by exact Z2r _ _ (fun _=>rfl),by simpa using c1,trivial⟩ ?_;refine AWp.conv (inv:=[(1,0)]) (vk:=[]) (e0:=[]) (t:=⟨[(2,.own 0)],[q8 0 ([]:List Z0)],0⟩) (by kernel_rfl) ?_
   refine AWp.ret ?_;exact Exists.intro _ (And.intro (fun _ _ h=>h) (And.intro (.inl rfl) (And.intro rfl (And.intro (by kernel_rfl) (by kernel_rfl)))))
 | cons y l =>
  refine AWp.seq ?_;refine reg hP hn hm [(1,.more xNil)] [0,2,4] [] ⟨[(0,im (y::l) Z3),(2,.none0),(4,bV false)],[],0⟩ [] (by kernel_rfl) trivial ?_;refine AWp.cond false rfl (fun h=>nomatch h) (fun _ => ?_);refine AWp.skip ?_;refine AWp.seq ?_;refine reg hP hn hm [(0,.app 0 ([]:List (List Im))),(2,.app 1 ((y::l).map Z3))] [2] [1] ⟨[(2,.own 1)],[q8 1 (y::l)],0⟩ [([]:List (List Im))=[],(y::l).map Z3=([]:List (List Im))++(y::l).map Z3,∀ c∈(y::l).map Z3,c.length=2,∀ c∈(y::l).map Z3,Z1v (c.map .im)=true,(([]:List (List Im)).length+((y::l).map Z3).length)*16≤140737488355328] (by kernel_rfl) ⟨rfl,by simp,by exact Z3c _ _ _ (fun _=>rfl),by exact Z2r _ _ (fun _=>rfl),by simpa using c1,trivial⟩ ?_;refine AWp.conv (inv:=[(1,0)]) (vk:=[]) (e0:=[]) (t:=⟨[(2,.own 0)],[q8 0 (y::l)],0⟩) (by kernel_rfl) ?_
  refine AWp.ret ?_;exact Exists.intro _ (And.intro (fun _ _ h=>h) (And.intro (.inl rfl) (And.intro rfl (And.intro (by kernel_rfl) (by kernel_rfl)))))
end Go.Proofs.YtpoihfcehejgfaaGreat.PvGS1
