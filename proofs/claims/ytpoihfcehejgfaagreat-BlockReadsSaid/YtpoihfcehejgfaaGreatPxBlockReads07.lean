import Derived.Shelf.Slices.In.SortNone
import Derived.Shelf.Sort.Plain
import Derived.Test.YtpoihfcehejgfaaGreatProg
import Derived.Test.YtpoihfcehejgfaaGreatPxBlockReads06
set_option linter.unusedVariables false
set_option linter.unnecessarySimpa false
set_option linter.unusedSimpArgs false
set_option maxRecDepth 10000
namespace Go.Proofs.YtpoihfcehejgfaaGreat.PvGS2
open Go Go.Pv Tryz Go.IntKind
structure Z0f where
 f0:ByteArray
 f1:ByteArray
 deriving DecidableEq,Inhabited
abbrev Z2m (x:Z0f):List Im:=[sI x.f0,sI x.f1]
abbrev aLabel (x:Z0f):List AVal:=[sV x.f0,sV x.f1]
structure RLabel (x:Z0f):Prop where
 r0:x.f0.size≤1048576
 r1:x.f1.size≤1048576
structure Z0 where
 f0:Int
 f1:Int
 deriving DecidableEq,Inhabited
abbrev Z4 (x:Z0):List Im:=[iI .i64 x.f0,iI .u64 x.f1]
abbrev aBucket (x:Z0):List AVal:=[iV .i64 x.f0,iV .u64 x.f1]
structure RBucket (x:Z0):Prop where
 r0:I64 x.f0
 r1:U64 x.f1
structure Zh where
 f0:Int
 f1:Int
 f2:Int
 f3:Int
 f4:Int
 f5:Int
 f6:List Z0
 f7:List Z0
 deriving DecidableEq,Inhabited
abbrev Z4l (x:Zh):List AVal:=[iV .i64 x.f0,iV .i64 x.f1,iV .i64 x.f2,iV .u64 x.f3,iV .u64 x.f4,iV .i64 x.f5,.im (.row (x.f6.map Z4)),.im (.row (x.f7.map Z4))]
structure RHist (x:Zh):Prop where
 r0:I64 x.f0
 r1:I64 x.f1
 r2:I64 x.f2
 r3:U64 x.f3
 r4:U64 x.f4
 r5:I64 x.f5
 r6:x.f6.length≤1048576∧∀ y∈x.f6,RBucket y
 r7:x.f7.length≤1048576∧∀ y∈x.f7,RBucket y
structure Z6 where
 f0:Int
 f1:Zh
 deriving DecidableEq,Inhabited
abbrev Z5 (x:Z6):List Im:=[iI .i64 x.f0,iI .i64 x.f1.f0,iI .i64 x.f1.f1,iI .i64 x.f1.f2,iI .u64 x.f1.f3,iI .u64 x.f1.f4,iI .i64 x.f1.f5,.row (x.f1.f6.map Z4),.row (x.f1.f7.map Z4)]
abbrev aSample (x:Z6):List AVal:=[iV .i64 x.f0,iV .i64 x.f1.f0,iV .i64 x.f1.f1,iV .i64 x.f1.f2,iV .u64 x.f1.f3,iV .u64 x.f1.f4,iV .i64 x.f1.f5,.im (.row (x.f1.f6.map Z4)),.im (.row (x.f1.f7.map Z4))]
structure RSample (x:Z6):Prop where
 r0:I64 x.f0
 r1:RHist x.f1
structure Zp where
 f0:ByteArray
 f1:List Z6
 deriving DecidableEq,Inhabited
abbrev Za (x:Zp):List Im:=[sI x.f0,.row (x.f1.map Z5)]
abbrev Z4k (x:Zp):List AVal:=[sV x.f0,.im (.row (x.f1.map Z5))]
structure Zfg (x:Zp):Prop where
 r0:x.f0.size≤1048576
 r1:x.f1.length≤1048576∧∀ y∈x.f1,RSample y
structure Z05 where
 f0:Int
 f1:Int
 f2:Int
 deriving DecidableEq,Inhabited
abbrev Zeg (x:Z05):List AVal:=[iV .i64 x.f0,iV .i64 x.f1,iV .i64 x.f2]
structure Rblock_Meta (x:Z05):Prop where
 r0:I64 x.f0
 r1:I64 x.f1
 r2:I64 x.f2
structure Z2 where
 f0:Z05
 f1:List Zp
 deriving DecidableEq,Inhabited
abbrev Zo (x:Z2):List Im:=[iI .i64 x.f0.f0,iI .i64 x.f0.f1,iI .i64 x.f0.f2,.row (x.f1.map Za)]
structure Rblock_Block (x:Z2):Prop where
 r0:Rblock_Meta x.f0
 r1:x.f1.length≤1048576∧∀ y∈x.f1,Zfg y
structure Z9i where
 f0:List Int
 f1:Int
 f2:Int
 deriving DecidableEq,Inhabited
abbrev abits_Reader (x:Z9i):List AVal:=[.im (.row (x.f0.map (Z4q .u8))),iV .i64 x.f1,iV .i64 x.f2]
structure Rbits_Reader (x:Z9i):Prop where
 r0:x.f0.length≤1048576∧∀ y∈x.f0,Rng 0 256 y
 r1:I64 x.f1
 r2:I64 x.f2
structure Z2u where
 f0:Int
 f1:Int
 deriving DecidableEq,Inhabited
abbrev Z4f (x:Z2u):List Im:=[iI .i64 x.f0,iI .i64 x.f1]
abbrev aSpan (x:Z2u):List AVal:=[iV .i64 x.f0,iV .i64 x.f1]
structure RSpan (x:Z2u):Prop where
 r0:I64 x.f0
 r1:I64 x.f1
structure Ze where
 f0:Int
 f1:List Z2u
 deriving DecidableEq,Inhabited
abbrev Z2t (x:Ze):List AVal:=[iV .i64 x.f0,.im (.row (x.f1.map Z4f))]
structure Rspan_Layout (x:Ze):Prop where
 r0:I64 x.f0
 r1:x.f1.length≤1048576∧∀ y∈x.f1,RSpan y
structure Tbits_Writer where
 f0:List Int
 f1:Int
 deriving DecidableEq,Inhabited
structure Rbits_Writer (x:Tbits_Writer):Prop where
 r0:x.f0.length≤1048576∧∀ y∈x.f0,Rng 0 256 y
 r1:U64 x.f1
structure Z0g where
 f0:Int
 f1:Int
 f2:Int
 f3:List Zp
 deriving DecidableEq,Inhabited
abbrev Z5c (x:Z0g):List AVal:=[iV .i64 x.f0,iV .i64 x.f1,iV .i64 x.f2,.im (.row (x.f3.map Za))]
structure Rr16_Block (x:Z0g):Prop where
 r0:I64 x.f0
 r1:I64 x.f1
 r2:I64 x.f2
 r3:x.f3.length≤1048576∧∀ y∈x.f3,Zfg y
theorem hmx:Tryz.prog.follows .mixedOrders=true:=by kernel_rfl
abbrev FN (f:Nat) (A:List AVal) (O:List (Nat×Option MObj)) (k:Nat) {ρ:Type} (y:Option ρ) (x:ρ→AVal) (o:ρ→List (Nat×Option MObj)):Prop:=∀ r,y=some r→Pv.Fn Tryz.prog f A O k (fun a b=>a=x r∧b=o r)
theorem FT {f:Nat} {fn:Func} {c:Code} {A:List AVal} {O:List (Nat×Option MObj)} {k:Nat} {ρ:Type} {y:Option ρ} {x:ρ→AVal} {o:ρ→List (Nat×Option MObj)} (keys:List Nat) (hf:Tryz.prog.funcs[f]? = some fn) (t:HT (fun q:Empty=>(nomatch q:Option ρ)) y) (hb:fn.body=some c:=by rfl) (hn:Nat.ble A.length fn.ntmps=true:=by rfl) (hk:t.chk ⟨Tryz.prog,fn.ntmps,fn,k,keys⟩ 0 (fun r=>.ret (x r) (o r)) (fun q=>nomatch q) c [] ⟨Z66 A 0,O,k⟩=t.sk ⟨Tryz.prog,fn.ntmps,fn,k,keys⟩ 0 (fun r=>.ret (x r) (o r)) (fun q=>nomatch q):=by kernel_rfl):FN f A O k y x o:=fun r H=>HT.fn H x o keys hf hb hn hmx t hk
abbrev qi:Int→AVal:=iV .i64
abbrev qu:Int→AVal:=iV .u64
section
variable {P:Program} {g:Nat} {A:List AVal} {O:List (Nat×Option MObj)} {f:Nat} {r:AVal} {o:List (Nat×Option MObj)} (a b n:Nat) (e:Enters P g) (z:Pv.Fn P g A O f (fun x y=>x=r∧y=o))
abbrev qh:HI:=hC [] [] [] [] e z
abbrev jA:HI:=hC [(0,0)] [(0,0)] [] [] e z
abbrev h1:HI:=hC [] [(0,n)] [] [n] e z
abbrev h2:HI:=hC [(a,0),(b,1)] [(0,a),(2,n)] [] [n] e z
abbrev h3:HI:=hC [] [] [n] [] e z
end
abbrev qe:=Z4q .i64
abbrev qv:=Z4q .u64
abbrev qb:=Z4q .u8
abbrev qx (a b:Int):Int:=((BitVec.toNat (BitVec.ofInt 64 a ^^^ BitVec.ofInt 64 b):Nat):Int)
abbrev qf (n:Nat):Im:=.sc (.func (.func n) #[] #[])
abbrev RW {α:Type} (w t:Nat) (e:α→List Im) (k:Nat) (x:List α):Nat×Option MObj:=(k,some (.row w t (x.map e)))
abbrev BW {α:Type} (t:Nat) (e:α→List AVal) (k:Nat) (x:α):Nat×Option MObj:=(k,some (.box t (e x)))
abbrev BX (t k:Nat) (x:List AVal):Nat×Option MObj:=(k,some (.box t x))
abbrev im {α:Type} (x:List α) (e:α→List Im):AVal:=.im (.row (x.map e))
abbrev clp (n a:Int):Int:=if(if n<a then n else a)>0 then(if n<a then n else a) else 0
abbrev mi (a b:Int):Int:=i64.wrap (Int.fdiv (u64.wrap (i64.wrap (a+b))) 2)
abbrev F0 (f:Nat) (A:List AVal) {ρ:Type} (y:Option ρ) (x:ρ→AVal):Prop:=FN f A [] 0 y x (fun _=>[])
abbrev _root_.Go.Pv.HT.lq {ρ X:Type} {g:X→Option ρ} {Y O:Type} {f:O→Option ρ} (lp:Lp Y O) (x0:Y) (inv:CI) (b:∀ g',Bd g' (lp.F g')) (a:Arm g f):HT g (lp.l x0>>=f):=.loop lp x0 inv [] [] b a
abbrev qs:=Pv.encStr
abbrev ln {α:Type} (x:List α):Int:=(x.length:Int)
abbrev _root_.Go.Pv.HT.ru {ρ X:Type} {g:X→Option ρ} {o:ρ} (i:CI) (t:Z1):HT g (some o):=.ret i [] [] t
abbrev _root_.Go.Pv.HT.rv {ρ X:Type} {g:X→Option ρ} {o:ρ} (t:Z1):HT g (some o):=.ret [] [] [] t
abbrev fgI (k:Nat) (ids:List Nat) (h:HI):HI:=⟨.more (xFzG k ids h.h),h.l⟩
def Z1c.l1 (a0:List Z0f) (b32:Z0f) (x27:Int) (x39:List Int) (x40:Int):Option (List Int):=if decide (x40<2) then((((chk (0≤x40∧x40<2))>>=fun _=>if x40==0 then(some b32.f0) else(some b32.f1)):Option ByteArray)>>=fun x46=>(chk ((x39.length+[u8.wrap (x46.size:Int)].length)*1≤140737488355328))>>=fun _=>(chk (((x39++[u8.wrap (x46.size:Int)]).length+x46.size)*1≤140737488355328))>>=fun _=>Z1c.l1 a0 b32 x27 ((x39++[u8.wrap (x46.size:Int)])++Z3b x46) (i64.wrap (x40+1))) else(some x39)
partial_fixpoint
def Z1c.l0 (a0:List Z0f) (x26:List Int) (x27:Int):Option (List Int):=if decide (x27<(a0.length:Int)) then((at? a0 x27)>>=fun b32=>(Z1c.l1 a0 b32 x27 x26 0)>>=fun x51=>Z1c.l0 a0 x51 (i64.wrap (x27+1))) else(some x26)
partial_fixpoint
def Z1c.f (a0:List Z0f):Option ByteArray:=(Z1c.l0 a0 [] 0)>>=fun x52=>some (Z6d x52)
abbrev q0:=@RW _ 1 5 qb
theorem Z1c.ok (a0:List Z0f):F0 27 [.im (.row (a0.map Z2m))] (Z1c.f a0) (fun r=>sV r):=FT [] func27 (.r0<|.r0<|.rg [(1,hG Z2m a0)]<|.bl<|.loop (.c2 (Z1c.l0.partial_correctness a0)) ([],0) [] [] [10] (fun _=>.pr fun x26=>.one (fun x27=>⟨[(3,.own 10),(8,im a0 Z2m),(9,qi (ln a0)),(10,qi x27)],[q0 10 x26],0⟩) fun x27=>.r0<|.cd (fun c28=>.bl<|.el fun b32 p33 q34=>.rg [(0,hA Z2m p33 q34),(2,⟨.k 11,.n⟩)]<|.r0<|.bl<|.lq (.c2 (Z1c.l1.partial_correctness a0 b32 x27)) (x26,0) [(10,15)] (fun _=>.pr fun x39=>.one (fun x40=>⟨[(3,.own 15),(8,im a0 Z2m),(9,qi (ln a0)),(10,qi x27),(18,.agg (aLabel b32)),(19,qi x40)],[q0 15 x39],0⟩) fun x40=>.r0<|.cd (fun c41=>.bl<|.join (.ck fun c44=>.sp (fun c45=>.rg [(0,⟨.more (xIdx 0),.c (p:=x40=((0:Nat):Int)) (by simpa using c45) .n⟩)]<|.o [(15,16)])
 (fun c45=>.rg [(0,⟨.more (xIdx 1),.c (p:=x40=((1:Nat):Int)) (by have:=c44;simp only[beq_eq_false_iff_ne] at *;omega) .n⟩)]<|.o [(15,16)]))
 (.st .normal (fun x46=>⟨[(3,.own 16),(7,sV x46),(8,im a0 Z2m),(9,qi (ln a0)),(10,qi x27),(18,.agg (aLabel b32)),(19,qi x40)],[q0 16 x39],0⟩) fun x46=>.ck fun c49=>.ck fun c50=>.rg [(4,hQ 17 qb ([u8.wrap (x46.size:Int)]:List Int)),(5,hP 18 qb 1 c49),(7,⟨.more (xAppStr 19 (((x39++[u8.wrap (x46.size:Int)])++Z3b x46).map qb)),.c (p:=((x39++[u8.wrap (x46.size:Int)])++Z3b x46).map qb=(x39++[u8.wrap (x46.size:Int)]).map qb++(Z3b x46).map qb) (by simp) (.c (p:=(((x39++[u8.wrap (x46.size:Int)]).map qb).length+x46.size)*1≤140737488355328) (by simpa using c50) .n)⟩)]<|.r0<|.bk [(19,15)] rfl))
 (fun c41=>.o [(15,20)]))
 (.st (.exit 2) (fun x51=>⟨[(3,.own 20),(8,im a0 Z2m),(9,qi (ln a0)),(10,qi x27)],[q0 20 x51],0⟩) fun x51=>.r0<|.bk [(20,10)] rfl))
 (fun c28=>.o [(10,21)]))
 (.st (.exit 0) (fun x52=>⟨[(3,.own 21)],[q0 21 x52],0⟩) fun x52=>.rg [(1,hT (xStr x52) x52)]<|.rv ⟨[(2,sV (Z6d x52))],[],0⟩))
def Z3a.f (a0:Int):Option Unit:=(chk (0≤(u64.wrap ((2:Int)*(u64.wrap ((if(if(4:Int)<a0 then(4:Int) else a0)>0 then(if(4:Int)<a0 then(4:Int) else a0) else(0:Int))))))))>>=fun _=>some ()
theorem Z3a.ok (a0:Int):F0 20 [qi a0] (Z3a.f a0) (fun r=>qi (i64.wrap ((64:Int)*2 ^ (min (Int.toNat (u64.wrap ((2:Int)*(u64.wrap ((clp 4 a0)))))) 64)))):=FT [] func20 (.r0<|.ck fun c58=>.rg [(1,⟨.more xMin,.n⟩),(2,⟨.more xMax,.n⟩),(5,hN (p1 c58))]<|.rv ⟨[(2,qi (i64.wrap ((64:Int)*2 ^ (min (Int.toNat (u64.wrap ((2:Int)*(u64.wrap ((clp 4 a0)))))) 64))))],[],0⟩)
def Z8o.f (a0 a1:Int):Option Unit:=(Z3a.f a0)>>=fun t62=>(chk ((i64.wrap ((64:Int)*2 ^ (min (u64.wrap ((2:Int)*(u64.wrap ((if(if(4:Int)<a0 then(4:Int) else a0)>0 then(if(4:Int)<a0 then(4:Int) else a0) else(0:Int)))))).toNat 64)))≠0))>>=fun _=>some ()
theorem Z8o.ok (a0 a1:Int):F0 22 [qi a0,qi a1] (Z8o.f a0 a1) (fun r=>qi (i64.wrap (a1-(Int.tmod a1 (i64.wrap ((64:Int)*2 ^ (min (Int.toNat (u64.wrap ((2:Int)*(u64.wrap ((clp 4 a0)))))) 64))))))):=FT [] func22 (.r0<|.bd fun t62 e63=>.ck fun c64=>.rg [(3,qh call20 (Z3a.ok a0 t62 e63)),(4,hN (p1 c64))]<|.rv ⟨[(4,qi (i64.wrap (a1-(Int.tmod a1 (i64.wrap ((64:Int)*2 ^ (min (Int.toNat (u64.wrap ((2:Int)*(u64.wrap ((clp 4 a0)))))) 64)))))))],[],0⟩)
def Z7s.f (a0:Int):Option Int:=((if decide (a0≥4294967296) then(some (Int.fdiv a0 4294967296,32)) else(some (a0,0))):Option (Int×Int))>>=fun | (x66,x67)=>(((if decide (x66≥65536) then(some (Int.fdiv x66 65536,i64.wrap (x67+16))) else(some (x66,x67))):Option (Int×Int))>>=fun | (x69,x70)=>(((if decide (x69≥256) then(some (Int.fdiv x69 256,i64.wrap (x70+8))) else(some (x69,x70))):Option (Int×Int))>>=fun | (x72,x73)=>((chk (0≤(u8.wrap (x72))∧(u8.wrap (x72))<((⟨#[0,1,2,2,3,3,3,3,4,4,4,4,4,4,4,4,5,5,5,5,5,5,5,5,5,5,5,5,5,5,5,5,6,6,6,6,6,6,6,6,6,6,6,6,6,6,6,6,6,6,6,6,6,6,6,6,6,6,6,6,6,6,6,6,7,7,7,7,7,7,7,7,7,7,7,7,7,7,7,7,7,7,7,7,7,7,7,7,7,7,7,7,7,7,7,7,7,7,7,7,7,7,7,7,7,7,7,7,7,7,7,7,7,7,7,7,7,7,7,7,7,7,7,7,7,7,7,7,8,8,8,8,8,8,8,8,8,8,8,8,8,8,8,8,8,8,8,8,8,8,8,8,8,8,8,8,8,8,8,8,8,8,8,8,8,8,8,8,8,8,8,8,8,8,8,8,8,8,8,8,8,8,8,8,8,8,8,8,8,8,8,8,8,8,8,8,8,8,8,8,8,8,8,8,8,8,8,8,8,8,8,8,8,8,8,8,8,8,8,8,8,8,8,8,8,8,8,8,8,8,8,8,8,8,8,8,8,8,8,8,8,8,8,8,8,8,8,8,8,8,8,8,8,8,8,8]⟩:ByteArray).size:Int)))>>=fun _=>some (i64.wrap (x73+(i64.wrap (bt (⟨#[0,1,2,2,3,3,3,3,4,4,4,4,4,4,4,4,5,5,5,5,5,5,5,5,5,5,5,5,5,5,5,5,6,6,6,6,6,6,6,6,6,6,6,6,6,6,6,6,6,6,6,6,6,6,6,6,6,6,6,6,6,6,6,6,7,7,7,7,7,7,7,7,7,7,7,7,7,7,7,7,7,7,7,7,7,7,7,7,7,7,7,7,7,7,7,7,7,7,7,7,7,7,7,7,7,7,7,7,7,7,7,7,7,7,7,7,7,7,7,7,7,7,7,7,7,7,7,7,8,8,8,8,8,8,8,8,8,8,8,8,8,8,8,8,8,8,8,8,8,8,8,8,8,8,8,8,8,8,8,8,8,8,8,8,8,8,8,8,8,8,8,8,8,8,8,8,8,8,8,8,8,8,8,8,8,8,8,8,8,8,8,8,8,8,8,8,8,8,8,8,8,8,8,8,8,8,8,8,8,8,8,8,8,8,8,8,8,8,8,8,8,8,8,8,8,8,8,8,8,8,8,8,8,8,8,8,8,8,8,8,8,8,8,8,8,8,8,8,8,8,8,8,8,8,8,8]⟩:ByteArray) (u8.wrap (x72)))))))))
theorem Z7s.ok (a0:Int):F0 139 [qu a0] (Z7s.f a0) (fun r=>qi r):=FT [] func139 (.r0<|.r0<|.join (.cd (fun c65=>.rg [(1,hK 32)]<|.r0<|.o [])
 (fun c65=>.o []))
 (.pr fun x66=>.st .normal (fun x67=>⟨[(0,qu x66),(2,qi x67)],[],0⟩) fun x67=>.r0<|.join (.cd (fun c68=>.rg [(1,hK 16)]<|.r0<|.o [])
 (fun c68=>.o []))
 (.pr fun x69=>.st .normal (fun x70=>⟨[(0,qu x69),(2,qi x70)],[],0⟩) fun x70=>.r0<|.join (.cd (fun c71=>.rg [(1,hK 8)]<|.r0<|.o [])
 (fun c71=>.o []))
 (.pr fun x72=>.st .normal (fun x73=>⟨[(0,qu x72),(2,qi x73)],[],0⟩) fun x73=>.ck fun c75=>.rg [(3,hN (p2 c75))]<|.rv ⟨[(2,qi (i64.wrap (x73+(i64.wrap (bt (⟨#[0,1,2,2,3,3,3,3,4,4,4,4,4,4,4,4,5,5,5,5,5,5,5,5,5,5,5,5,5,5,5,5,6,6,6,6,6,6,6,6,6,6,6,6,6,6,6,6,6,6,6,6,6,6,6,6,6,6,6,6,6,6,6,6,7,7,7,7,7,7,7,7,7,7,7,7,7,7,7,7,7,7,7,7,7,7,7,7,7,7,7,7,7,7,7,7,7,7,7,7,7,7,7,7,7,7,7,7,7,7,7,7,7,7,7,7,7,7,7,7,7,7,7,7,7,7,7,7,8,8,8,8,8,8,8,8,8,8,8,8,8,8,8,8,8,8,8,8,8,8,8,8,8,8,8,8,8,8,8,8,8,8,8,8,8,8,8,8,8,8,8,8,8,8,8,8,8,8,8,8,8,8,8,8,8,8,8,8,8,8,8,8,8,8,8,8,8,8,8,8,8,8,8,8,8,8,8,8,8,8,8,8,8,8,8,8,8,8,8,8,8,8,8,8,8,8,8,8,8,8,8,8,8,8,8,8,8,8,8,8,8,8,8,8,8,8,8,8,8,8,8,8,8,8,8,8]⟩:ByteArray) (u8.wrap (x72)))))))],[],0⟩))))
def Z9s.f (a0:Int):Option Int:=(Z7s.f a0)>>=fun t78=>some t78
theorem Z9s.ok (a0:Int):F0 77 [qu a0] (Z9s.f a0) (fun r=>qi r):=FT [] func77 (.r0<|.cl (rfl:false=false)<|.bd fun t78 e79=>.rg [(1,qh call139 (Z7s.ok a0 t78 e79))]<|.rv ⟨[(2,qi t78)],[],0⟩)
def Z3y.f (a0:Int):Option Unit:=some ()
theorem Z3y.ok (a0:Int):F0 78 [qi a0] (Z3y.f a0) (fun r=>bV (a0 != a0)):=FT [] func78 (.r0<|.r0<|.rv ⟨[(2,bV (a0 != a0))],[],0⟩)
def Z4s.f (a0 a1:Int):Option Int:=(Z3y.f a0)>>=fun t93=>(Z3y.f a1)>>=fun t97=>if a0 != a0 then(if a1 != a1 then(some 0) else(some (-1))) else(if a1 != a1 then(some 1) else(if decide (a0<a1) then(some (-1)) else(if decide (a0>a1) then(some 1) else(some 0))))
theorem Z4s.ok (a0 a1:Int):F0 30 [qi a0,qi a1] (Z4s.f a0 a1) (fun r=>qi r):=FT [] func30 (.r0<|.bd fun t93 e94=>.rg [(1,qh call78 (Z3y.ok a0 t93 e94))]<|.bd fun t97 e98=>.rg [(1,qh call78 (Z3y.ok a1 t97 e98))]<|.r0<|.cd (fun c99=>.r0<|.cd (fun aa=>.r0<|.rv ⟨[(4,qi 0)],[],0⟩)
 (fun aa=>.r0<|.rv ⟨[(4,qi (-1))],[],0⟩))
 (fun c99=>.r0<|.cd (fun ab=>.r0<|.rv ⟨[(4,qi 1)],[],0⟩)
 (fun ab=>.r0<|.cd (fun ac=>.r0<|.rv ⟨[(4,qi (-1))],[],0⟩)
 (fun ac=>.r0<|.cd (fun ae=>.r0<|.rv ⟨[(4,qi 1)],[],0⟩)
 (fun ae=>.r0<|.rv ⟨[(4,qi 0)],[],0⟩)))))
def Z6o.f (a0 a1:Z2):Option Int:=(Z4s.f a0.f0.f0 a1.f0.f0)>>=fun aa=>some aa
theorem Z6o.ok (a0 a1:Z2):F0 29 [.agg (Z5c ⟨a0.f0.f0,a0.f0.f1,a0.f0.f2,a0.f1⟩),.agg (Z5c ⟨a1.f0.f0,a1.f0.f1,a1.f0.f2,a1.f1⟩)] (Z6o.f a0 a1) (fun r=>qi r):=FT [] func29 (.rg [(0,⟨.k 0,.n⟩),(1,⟨.k 1,.n⟩)]<|.bd fun aa ab=>.rg [(6,qh call30 (Z4s.ok a0.f0.f0 a1.f0.f0 aa ab))]<|.rv ⟨[(4,qi aa)],[],0⟩)
def Zg.l1 (a1 a2 aa:Int) (ab:List Z2) (ac:Int):Option (List Z2):=((if decide (ac>a1) then((at? ab ac)>>=fun ae=>(at? ab (i64.wrap (ac-1)))>>=fun af=>(Z6o.f ae af)>>=fun ah=>some (decide (ah<0))) else(some false)):Option Bool)>>=fun ai=>if ai=true then((at? ab (i64.wrap (ac-1)))>>=fun aj=>(at? ab ac)>>=fun ak=>(at? (ab.set ac.toNat aj) (i64.wrap (ac-1)))>>=fun al=>Zg.l1 a1 a2 aa ((ab.set ac.toNat aj).set (i64.wrap (ac-1)).toNat ak) (i64.wrap (ac-1))) else(some ab)
partial_fixpoint
def Zg.l0 (a1 a2:Int) (aa:List Z2) (ab:Int):Option (List Z2):=if decide (ab<a2) then((Zg.l1 a1 a2 ab aa ab)>>=fun ac=>Zg.l0 a1 a2 ac (i64.wrap (ab+1))) else(some aa)
partial_fixpoint
def Zg.f (a0:List Z2) (a1 a2:Int):Option (List Z2):=(Zg.l0 a1 a2 a0 (i64.wrap (a1+1)))>>=fun aa=>some aa
abbrev q1:=@RW _ 4 36 Zo
theorem Zg.ok (a0:List Z2) (a1 a2:Int):FN 130 [.own 0,qi a1,qi a2,.im (qf 29)] [q1 0 a0] 1 (Zg.f a0 a1 a2) (fun r=>.tup []) (fun r=>[q1 0 r]):=FT [0] func130 (.r0<|.bl<|.lq (.c2 (Zg.l0.partial_correctness a1 a2)) (a0,i64.wrap (a1+1)) [(0,0)] (fun _=>.pr fun aa=>.one (fun ab=>⟨[(0,.own 0),(1,qi a1),(2,qi a2),(3,.im (qf 29)),(8,qi ab)],[q1 0 aa],1⟩) fun ab=>.r0<|.cd (fun ac=>.bl<|.r0<|.bl<|.lq (.c2 (Zg.l1.partial_correctness a1 a2 ab)) (aa,ab) [(0,0)] (fun _=>.pr fun ae=>.one (fun af=>⟨[(0,.own 0),(1,qi a1),(2,qi a2),(3,.im (qf 29)),(8,qi ab),(9,qi af)],[q1 0 ae],1⟩) fun af=>.join (.sp (fun ah=>.el fun ai aj ak=>.el fun al am ao=>.bd fun ap aq=>.rg [(3,hB ah),(7,hX Zo aj ak),(8,hL Zo ak),(12,hX Zo am ao),(13,hL Zo ao),(14,qh call29 (Z6o.ok ai al ap aq))]<|.o [(0,0)])
 (fun ah=>.rg [(3,hB ah)]<|.o [(0,0)]))
 (.st .normal (fun ar=>⟨[(0,.own 0),(1,qi a1),(2,qi a2),(3,.im (qf 29)),(8,qi ab),(9,qi af),(34,bV ar)],[q1 0 ae],1⟩) fun ar=>.cd (fun au=>.bl<|.el fun av ax az=>.el fun ba bb bc=>.el fun be bf bg=>.rg [(8,hX Zo ax az),(9,hL Zo az),(12,hX Zo bb bc),(13,hL Zo bc),(14,hX Zo bb bc),(15,hS Zo av 0 [iI .i64 av.f0.f0,iI .i64 av.f0.f1,iI .i64 av.f0.f2,.row (av.f1.map Za)] bc),(16,hX Zo bf bg),(17,hS Zo ba 0 [iI .i64 ba.f0.f0,iI .i64 ba.f0.f1,iI .i64 ba.f0.f2,.row (ba.f1.map Za)] bg)]<|.r0<|.bk [(0,0)] rfl)
 (fun au=>.o [(0,0)])))
 (.st (.exit 2) (fun bh=>⟨[(0,.own 0),(1,qi a1),(2,qi a2),(3,.im (qf 29)),(8,qi ab)],[q1 0 bh],1⟩) fun bh=>.r0<|.bk [(0,0)] rfl))
 (fun ac=>.o [(0,0)]))
 (.st (.exit 0) (fun bi=>⟨[],[q1 0 bi],1⟩) fun bi=>.ru [(0,0)] ⟨[],[q1 0 bi],1⟩))
def Z04.l0 (a0:List Z2) (a1 a2 a3:Int) (aa:Unit):Option (List Z2):=if decide ((i64.wrap (a2-a1))≤12) then((Zg.f a0 a1 a2)>>=fun ab=>some ab) else(none)
def Z04.f (a0:List Z2) (a1 a2 a3:Int):Option (List Z2):=(Z04.l0 a0 a1 a2 a3 ())>>=fun rr=>some rr
theorem Z04.ok (a0:List Z2) (a1 a2 a3:Int):FN 76 [.own 0,qi a1,qi a2,qi a3,.im (qf 29)] [q1 0 a0] 1 (Z04.f a0 a1 a2 a3) (fun r=>.tup []) (fun r=>[q1 0 r]):=FT [0] func76 (.r0<|.r0<|.bl<|.lq (.no (fun p=>Z04.l0 a0 a1 a2 a3 p)) () [(0,0)] (fun _=>.one (fun aa=>⟨[(0,.own 0),(1,qi a1),(2,qi a2),(3,qi a3),(4,.im (qf 29)),(10,bV true),(11,bV true)],[q1 0 a0],1⟩) fun aa=>.bl<|.r0<|.r0<|.cd (fun c82=>.bd fun ab ac=>.rg [(4,jA call130 (Zg.ok a0 a1 a2 ab ac))]<|.ru [(0,0)] ⟨[],[q1 0 ab],1⟩)
 (fun c82=>.no))
 (.rt (fun rr=>.tup []) (fun rr=>[q1 0 rr])))
def Zs.f (a0:List Z2):Option (List Z2):=(Z9s.f (u64.wrap (a0.length:Int)))>>=fun aa=>(Z04.f a0 0 (a0.length:Int) aa)>>=fun ab=>some ab
theorem Zs.ok (a0:List Z2):FN 28 [.own 0,.im (qf 29)] [q1 0 a0] 1 (Zs.f a0) (fun r=>.tup []) (fun r=>[q1 0 r]):=FT [0] func28 (.rg [(1,hG Zo a0)]<|.bd fun aa ab=>.bd fun ac ae=>.rg [(4,qh call77 (Z9s.ok (u64.wrap (ln a0)) aa ab)),(6,jA call76 (Z04.ok a0 0 (ln a0) aa ac ae))]<|.ru [(0,0)] ⟨[],[q1 0 ac],1⟩)
def Zb.add (bk:Z2) (k:ByteArray) (s:Z6):Option Z2:=match bk.f1.getLast? with
 | none=>some ⟨bk.f0,[⟨k,[s]⟩]⟩
 | some r=>(chk ((bk.f1.length+1)*40≤140737488355328))>>=fun _=>if r.f0.toList==k.toList then(chk ((r.f1.length+1)*104≤140737488355328))>>=fun _=>some ⟨bk.f0,bk.f1.dropLast++[⟨r.f0,r.f1++[s]⟩]⟩ else some ⟨bk.f0,bk.f1++[⟨k,[s]⟩]⟩
abbrev Zb.wd (a0:Int):Int:=i64.wrap ((64:Int)*2 ^ (min (Int.toNat (u64.wrap ((2:Int)*(u64.wrap ((if(if(4:Int)<a0 then(4:Int) else a0)>0 then(if(4:Int)<a0 then(4:Int) else a0) else(0:Int))))))) 64))
abbrev Zb.lo (a0 a1:Int):Int:=i64.wrap (a1-(Int.tmod a1 (i64.wrap ((64:Int)*2 ^ (min (Int.toNat (u64.wrap ((2:Int)*(u64.wrap ((if(if(4:Int)<a0 then(4:Int) else a0)>0 then(if(4:Int)<a0 then(4:Int) else a0) else(0:Int))))))) 64)))))
abbrev Zb.new (a0 lo:Int):Z2:=⟨⟨lo,i64.wrap (lo+Zb.wd a0),(if(if(4:Int)<a0 then(4:Int) else a0)>0 then(if(4:Int)<a0 then(4:Int) else a0) else(0:Int))⟩,[]⟩
def Zb.l1 (a0:Int) (b:Zp) (x1:List (Int×Z2)) (x2:Int):Option (List (Int×Z2)):=if decide (x2<(b.f1.length:Int)) then((at? b.f1 x2)>>=fun s=>(Z8o.f a0 s.f0)>>=fun _=>(Z3a.f a0)>>=fun _=>(Zb.add ((mget x1 (Zb.lo a0 s.f0)).getD (Zb.new a0 (Zb.lo a0 s.f0))) b.f0 s)>>=fun bk=>Zb.l1 a0 b (mput x1 (Zb.lo a0 s.f0) bk) (i64.wrap (x2+1))) else some x1
partial_fixpoint
def Zb.l0 (a0:Int) (a1:List (Zp)) (x1:List (Int×Z2)) (x2:Int):Option (List (Int×Z2)):=if decide (x2<(a1.length:Int)) then((at? a1 x2)>>=fun b=>(Zb.l1 a0 b x1 0)>>=fun y=>Zb.l0 a0 a1 y (i64.wrap (x2+1))) else some x1
partial_fixpoint
noncomputable def Zb.f (a0:Int) (a1:List (Zp)):Option (List (Z2)):=(Zb.l0 a0 a1 [] 0)>>=fun y=>(chk (y.length*48≤140737488355328))>>=fun _=>(rchk (fun(p:List (Int×Z2)) (_:Unit)=>Zs.f (p.map (·.2))) y ())>>=fun r=>some r
def Zb.obs (bk:Z2):List (Nat×MObj):=match bk.f1.getLast? with
 | none=>[(40,.box 36 [qi bk.f0.f0,qi bk.f0.f1,qi bk.f0.f2,.none0])]
 | some r=>[(40,.box 36 [qi bk.f0.f0,qi bk.f0.f1,qi bk.f0.f2,.own 41]),(41,.arow 2 30 (bk.f1.dropLast.map Za) [[sV r.f0,.own 42]]),(42,.row 9 52 (r.f1.map Z5))]
theorem Zb.obs0 (m:Z05):Zb.obs ⟨m,[]⟩=[(40,.box 36 [qi m.f0,qi m.f1,qi m.f2,.none0])]:=rfl
theorem Zb.obs1 (m:Z05) (l:List (Zp)) (r:Zp):Zb.obs ⟨m,l++[r]⟩=[(40,.box 36 [qi m.f0,qi m.f1,qi m.f2,.own 41]),(41,.arow 2 30 (l.map Za) [[sV r.f0,.own 42]]),(42,.row 9 52 (r.f1.map Z5))]:=by
 unfold Zb.obs;simp
theorem Zb.one (a0:Int):True:=trivial
abbrev q2:=@RW _ 9 52 Z5
set_option maxHeartbeats 400000 in
theorem Zb.ok (a0:Int) (a1:List (Zp)) (r:List (Z2)) (H:Zb.f a0 a1=some r):Pv.Fn Tryz.prog 9 [qi a0,.im (.row (a1.map Za))] [] 0 (fun x o=>x = .own 0∧o=[q1 0 r]):=by
 unfold Zb.f at H;obtain⟨y,H0,H⟩:=Z36 H;obtain⟨d1,H⟩:=Z5f H;obtain⟨r',HS,H⟩:=Z36 H;obtain rfl:=sj H;refine Fn.bodyK [0] func9 rfl rfl (fun Γ hP hn => ?_);have hm:Tryz.prog.follows .mixedOrders=true:=by kernel_rfl
 replace hn:Γ.n=129:=hn;refine sO hP hn hm [] [] [0,1] [] [] ?_;refine sO hP hn hm [(0,.more (xMk 10))] [(5,.mown 10)] [0,1,5] [(10,some (.map (mE (vkI .i64) Im.sc [])))] [10] ?_;refine AWp.bag0 ?_;refine GWp.seq ?_;refine GWp.seq ?_;refine gR hP hn hm [(1,.any (qi (a1.length:Int)))] [(18,.im (.row (a1.map Za))),(19,qi (a1.length:Int)),(20,qi 0)] [0,5,18,19,20] [] [10] [((a1.map Za).length:Int)=(a1.length:Int)] ⟨by rw[Z3r],trivial⟩ ?_;refine GWp.block ?_;refine GWp.loopB (fun body0 hbody0 => ?_);have main0:∀ x1 x2 o,Zb.l0 a0 a1 x1 x2=some o→∀ (q:QL Int (Z2)) (Bs:List (List Nat)),qS q=x1→GLWp Γ body0 (fun e s g=>e = .exit 0∧∃ (q:QL Int (Z2)) (Bs:List (List Nat)),qS q=o∧s=⟨[(5,.mown 10)],[(10,some (.map (mE (vkI .i64) Im.sc (qM q))))],0⟩∧g=bag (qB (.ptr 40 0 0) Zb.obs q) Bs) ⟨[(0,qi a0),(5,.mown 10),(18,.im (.row (a1.map Za))),(19,qi (a1.length:Int)),(20,qi x2)],[(10,some (.map (mE (vkI .i64) Im.sc (qM q))))],0⟩ (bag (qB (.ptr 40 0 0) Zb.obs q) Bs):=by
  intro x1 x2 o e1;refine Zb.l0.partial_correctness a0 a1 (motive:=fun x1 x2 o=>∀ (q:QL Int (Z2)) (Bs:List (List Nat)),qS q=x1→GLWp Γ body0 (fun e s g=>e = .exit 0∧∃ (q:QL Int (Z2)) (Bs:List (List Nat)),qS q=o∧s=⟨[(5,.mown 10)],[(10,some (.map (mE (vkI .i64) Im.sc (qM q))))],0⟩∧g=bag (qB (.ptr 40 0 0) Zb.obs q) Bs) ⟨[(0,qi a0),(5,.mown 10),(18,.im (.row (a1.map Za))),(19,qi (a1.length:Int)),(20,qi x2)],[(10,some (.map (mE (vkI .i64) Im.sc (qM q))))],0⟩ (bag (qB (.ptr 40 0 0) Zb.obs q) Bs)) ?_ _ _ _ e1;clear H0 e1 o x1 x2;intro self ih x1 x2 o H q Bs hq;subst hbody0;refine GLWp.round ?_;refine gS hP hn hm [] [(21,bV (decide (x2<(a1.length:Int))))] [0,5,18,19,20,21] [] [10] [] trivial ?_;refine GWp.seq ?_;refine GWp.cond (decide (x2<(a1.length:Int))) (by kernel_rfl) (fun c1 => ?_) (fun c1 => ?_)
  ·replace H:=iT c1 H
   refine GWp.skip ?_;refine GWp.seq ?_;refine GWp.block ?_;obtain⟨b,p1,hq1,H⟩:=at_of H;obtain⟨y1,H1,H⟩:=Z36 H;refine gS hP hn hm [(0,.c (Za b)),(2,.k 30)] [(7,.ptr 30 0 0)] [0,5,7,18,19,20] [(30,some (.box 30 (Z4k b)))] [10,30] [_,_] ⟨p1,Z7e Za hq1,trivial⟩ ?_;refine gS hP hn hm [(2,.any (qi (b.f1.length:Int)))] [(25,.im (.row (b.f1.map Z5))),(26,qi (b.f1.length:Int)),(27,qi 0)] [0,5,7,18,19,20,25,26,27] [] [10,30] [((b.f1.map Z5).length:Int)=(b.f1.length:Int)] ⟨by rw[Z3r],trivial⟩ ?_;refine GWp.block ?_;refine GWp.loopB (fun body1 hbody1 => ?_);have main1:∀ z1 z2 o1,Zb.l1 a0 b z1 z2=some o1→∀ (q:QL Int (Z2)) (Bs:List (List Nat)),qS q=z1→GLWp Γ body1 (fun e s g=>e = .exit 2∧∃ (q:QL Int (Z2)) (Bs:List (List Nat)),qS q=o1∧s=⟨[(0,qi a0),(5,.mown 10),(18,.im (.row (a1.map Za))),(19,qi (a1.length:Int)),(20,qi x2)],[(10,some (.map (mE (vkI .i64) Im.sc (qM q))))],0⟩∧g=bag (qB (.ptr 40 0 0) Zb.obs q) Bs) ⟨[(0,qi a0),(5,.mown 10),(7,.ptr 30 0 0),(18,.im (.row (a1.map Za))),(19,qi (a1.length:Int)),(20,qi x2),(25,.im (.row (b.f1.map Z5))),(26,qi (b.f1.length:Int)),(27,qi z2)],[(10,some (.map (mE (vkI .i64) Im.sc (qM q)))),(30,some (.box 30 (Z4k b)))],0⟩ (bag (qB (.ptr 40 0 0) Zb.obs q) Bs):=by
    intro z1 z2 o1 e2;refine Zb.l1.partial_correctness a0 b (motive:=fun z1 z2 o1=>∀ (q:QL Int (Z2)) (Bs:List (List Nat)),qS q=z1→GLWp Γ body1 (fun e s g=>e = .exit 2∧∃ (q:QL Int (Z2)) (Bs:List (List Nat)),qS q=o1∧s=⟨[(0,qi a0),(5,.mown 10),(18,.im (.row (a1.map Za))),(19,qi (a1.length:Int)),(20,qi x2)],[(10,some (.map (mE (vkI .i64) Im.sc (qM q))))],0⟩∧g=bag (qB (.ptr 40 0 0) Zb.obs q) Bs) ⟨[(0,qi a0),(5,.mown 10),(7,.ptr 30 0 0),(18,.im (.row (a1.map Za))),(19,qi (a1.length:Int)),(20,qi x2),(25,.im (.row (b.f1.map Z5))),(26,qi (b.f1.length:Int)),(27,qi z2)],[(10,some (.map (mE (vkI .i64) Im.sc (qM q)))),(30,some (.box 30 (Z4k b)))],0⟩ (bag (qB (.ptr 40 0 0) Zb.obs q) Bs)) ?_ _ _ _ e2;clear H1 H hq q Bs e2 o1 z1 z2;intro self1 ih1 z1 z2 o1 H q Bs hq;subst hbody1;refine GLWp.round ?_;refine gS hP hn hm [] [(28,bV (decide (z2<(b.f1.length:Int))))] [0,5,7,18,19,20,25,26,27,28] [] [10,30] [] trivial ?_;refine GWp.seq ?_;refine GWp.cond (decide (z2<(b.f1.length:Int))) (by kernel_rfl) (fun c2 => ?_) (fun c2 => ?_)
    ·replace H:=iT c2 H
     refine GWp.skip ?_;refine GWp.seq ?_;refine GWp.block ?_;obtain⟨s,p2,hq2,H⟩:=at_of H;obtain⟨u1,e3,H⟩:=Z36 H;obtain⟨u2,e4,H⟩:=Z36 H;obtain⟨bk',e5,H⟩:=Z36 H;refine gS hP hn hm [(0,.c (Z5 s)),(2,.k 31)] [(9,.ptr 31 0 0)] [0,5,7,9,18,19,20,25,26,27] [(31,some (.box 52 (aSample s)))] [10,30,31] [_,_] ⟨p2,Z7e Z5 hq2,trivial⟩ ?_;refine gS hP hn hm [(3,.call [] [] [] [] 0 (qi (Zb.lo a0 s.f0)) [])] [(10,qi (Zb.lo a0 s.f0))] [0,5,7,9,10,18,19,20,25,26,27] [] [10,30,31] [_,Pv.Fn Tryz.prog 22 [qi a0,qi s.f0] [] 0 (fun x o=>x=qi (Zb.lo a0 s.f0)∧o=[])] ⟨call22,Z8o.ok a0 s.f0 u1 e3,trivial⟩ ?_;refine gS hP hn hm [(2,.more (xLook (vkI .i64) Im.sc (qM q) (Zb.lo a0 s.f0) (.pointer none)))] [(11,.im (.sc ((mget (qM q) (Zb.lo a0 s.f0)).getD (.pointer none))))] [0,5,7,9,10,11,18,19,20,25,26,27] [] [10,30,31] [KeyOK Tryz.prog 2 (vkI .i64),mE (vkI .i64) Im.sc (qM q)=mE (vkI .i64) Im.sc (qM q),valA (qi (Zb.lo a0 s.f0))=some (vkI .i64 (Zb.lo a0 s.f0)),Im.sc (.pointer none)=Im.sc (.pointer none)] ⟨key_int (by kernel_rfl),rfl,rfl,rfl,trivial⟩ ?_;generalize hlo:Zb.lo a0 s.f0=lo at *;refine GWp.seq ?_;refine GWp.mono (Q:=fun e s' g=>e = .normal∧∃ (q':QL Int (Z2)) (Bs':List (List Nat)) (i:Nat) (v:Value),q'[i]? = some ((lo,(mget (qS q) lo).getD (Zb.new a0 lo)),v)∧(∀ c,mput (qS q) lo c=qS (q'.set i ((lo,c),v)))∧s'=⟨[(0,qi a0),(5,.mown 10),(7,.ptr 30 0 0),(9,.ptr 31 0 0),(11,.im (.sc v)),(18,.im (.row (a1.map Za))),(19,qi (a1.length:Int)),(20,qi x2),(25,.im (.row (b.f1.map Z5))),(26,qi (b.f1.length:Int)),(27,qi z2)],[(10,some (.map (mE (vkI .i64) Im.sc (qM q')))),(30,some (.box 30 (Z4k b))),(31,some (.box 52 (aSample s)))],0⟩∧g=bag (qB (.ptr 40 0 0) Zb.obs q') Bs') ?_ ?_
     ·rcases q_get lo q with ⟨h1,h2,h3⟩ | ⟨i,bk,v,h1,h2,h3,h4⟩
      ·rw[h2]
       refine gS hP hn hm [(1,.more xPNil)] [(39,bV true)] [0,5,7,9,10,11,18,19,20,25,26,27,39] [] [10,30,31] [] trivial ?_;refine GWp.cond true (by kernel_rfl) (fun _ => ?_) (fun h=>nomatch h);refine GWp.seq ?_;refine gR hP hn hm [(3,.call [] [] [] [] 0 (qi (Zb.wd a0)) []),(6,.more xMin),(7,.more xMax),(10,.k 40)] [(11,.ptr 40 0 0)] [0,5,7,9,10,11,18,19,20,25,26,27] [(40,some (.box 36 [qi lo,qi (i64.wrap (lo+Zb.wd a0)),qi (Zb.new a0 lo).f0.f2,.none0]))] [10,30,31,40] [_,Pv.Fn Tryz.prog 20 [qi a0] [] 0 (fun x o=>x=qi (Zb.wd a0)∧o=[])] ⟨call20,Z3a.ok a0 u2 e4,trivial⟩ ?_;refine GWp.newB [40] 11 (.ptr 40 0 0) [(40,.box 36 [qi lo,qi (i64.wrap (lo+Zb.wd a0)),qi (Zb.new a0 lo).f0.f2,.none0])] rfl (by decide) (fun k o h => ?_) (fun v B' => ?_)
       ·have h':=Z1x      h
        simp only[List.mem_cons,List.not_mem_nil,or_false,Prod.mk.injEq] at h';obtain⟨rfl,rfl⟩:=h';exact⟨by simp,rfl⟩
       refine gR hP hn hm [(3,.more (xPut (vkI .i64) Im.sc (qM q) lo v))] [] [0,5,7,9,11,18,19,20,25,26,27] [(10,some (.map (mE (vkI .i64) Im.sc (mput (qM q) lo v))))] [10,30,31] [KeyOK Tryz.prog 2 (vkI .i64),mE (vkI .i64) Im.sc (qM q)=mE (vkI .i64) Im.sc (qM q),valA (qi lo)=some (vkI .i64 lo),Im.sc v=Im.sc v] ⟨key_int (by kernel_rfl),rfl,rfl,rfl,trivial⟩ ?_;refine⟨rfl,q++[((lo,Zb.new a0 lo),v)],Bs++[B'],q.length,v,by rw[h1];simp,fun c => ?_,?_,?_⟩
       ·rw[(h3 c v).1];congr 1;simp
       ·rw[← (h3 (Zb.new a0 lo) v).2];rfl
       ·rw[qB_app];rfl
      ·rw[h3]
       refine GWp.fact _ (bag_ptr (qB_get h1) rfl) (fun hv => ?_);obtain⟨ad,hv⟩:=hv;have hv:v = .pointer (some ad):=hv;subst hv;refine gS hP hn hm [(1,.more xPNil)] [(39,bV false)] [0,5,7,9,10,11,18,19,20,25,26,27,39] [] [10,30,31] [] trivial ?_;refine GWp.cond false (by kernel_rfl) (fun h=>nomatch h) (fun _ => ?_);refine GWp.cv (Z73 [0,5,7,9,11,18,19,20,25,26,27] [10,30,31]) (GWp.skip ?_);exact⟨rfl,q,Bs,i,_,by rw[h2];exact h1,h4,rfl,rfl⟩
     ·rintro e s' g ⟨rfl,q',Bs',i,v,k1,k3,rfl,rfl⟩
      rw[← hq] at e5;generalize hbk:(mget (qS q) lo).getD (Zb.new a0 lo)=bk at *;rw[hq] at k3;have hb:=qB_get (h:=.ptr 40 0 0) (f:=Zb.obs) k1;have fin:∀ (Q:Exit→Z1→Gh→Prop) B',(∀ (q2:QL Int (Z2)) (Bs2:List (List Nat)),qS q2=mput z1 lo bk'→Q .normal ⟨[(0,qi a0),(5,.mown 10),(7,.ptr 30 0 0),(18,.im (.row (a1.map Za))),(19,qi (a1.length:Int)),(20,qi x2),(25,.im (.row (b.f1.map Z5))),(26,qi (b.f1.length:Int)),(27,qi (i64.wrap (z2+1)))],[(10,some (.map (mE (vkI .i64) Im.sc (qM q2)))),(30,some (.box 30 (Z4k b)))],0⟩ (bag (qB (.ptr 40 0 0) Zb.obs q2) Bs2))→Q .normal ⟨[(0,qi a0),(5,.mown 10),(7,.ptr 30 0 0),(18,.im (.row (a1.map Za))),(19,qi (a1.length:Int)),(20,qi x2),(25,.im (.row (b.f1.map Z5))),(26,qi (b.f1.length:Int)),(27,qi (i64.wrap (z2+1)))],[(10,some (.map (mE (vkI .i64) Im.sc (qM q')))),(30,some (.box 30 (Z4k b)))],0⟩ (bag ((qB (.ptr 40 0 0) Zb.obs q').set i ⟨v,.ptr 40 0 0,Zb.obs bk'⟩) (Bs'.set i B')):=fun Q B' hh=>by
       have:=hh (q'.set i ((lo,bk'),v)) (Bs'.set i B') (k3 bk').symm;rw[qM_set k1,qB_set] at this;exact this
      obtain⟨m,rows⟩:=bk;have side:∀ q,(AVal.ptr 40 0 0).has q=true→q∈[40,41,42]∧q<41:=fun q h=>by
       have:40=q:=by simpa[AVal.has] using h
       subst this;exact⟨by simp,by omega⟩
      rcases List.eq_nil_or_concat rows with hrw | ⟨l,r0,hrw⟩
      ·subst hrw
       rw[Zb.obs0] at hb;obtain rfl:=sj (show some (⟨m,[⟨b.f0,[s]⟩]⟩:Z2)=some bk' from e5);refine GWp.open [40,41,42] 41 i 11 _ hb rfl (by decide) (fun k o h => ?_) (fun k h => ?_) (fun k o q h h2 => ?_) side (Nat.zero_le _) (fun Γ' e6 e7 => ?_)
       ·have h':=Z1x      h
        simp only[List.mem_cons,List.not_mem_nil,or_false,Prod.mk.injEq] at h';obtain⟨rfl,_⟩:=h';simp
       ·simp only[List.mem_cons,List.not_mem_nil,or_false] at h
        rcases h with rfl | rfl | rfl<;>exact Z7d (by kernel_rfl)
       ·have h':=Z1x      h
        simp only[List.mem_cons,List.not_mem_nil,or_false,Prod.mk.injEq] at h';obtain⟨rfl,rfl⟩:=h';simp[MObj.has,hasL,AVal.has] at h2
       ·have hP':=e6.trans hP
        have hn':=e7.trans hn;refine AWp.seq ?_;refine sO hP' hn' hm [] [(12,qi 0)] [0,5,7,9,11,12,18,19,20,25,26,27] [] [10,30,31,40] ?_;refine sR hP' hn' hm [(1,.b true)] [(74,bV true)] [0,5,7,9,11,12,18,19,20,25,26,27,74] [] [10,30,31,40] [((0:Int)==0)=true] ⟨rfl,trivial⟩ ?_;refine AWp.cond true (by kernel_rfl) (fun _ => ?_) (fun h=>nomatch h);refine rG hP' hn' hm [(8,.more (xOneT 43)),(9,.more (xAppT 44))] [] [0,5,7,9,11,18,19,20,25,26,27] [(40,some (.box 36 [qi m.f0,qi m.f1,qi m.f2,.own 44])),(44,some (.arow 2 30 [] [[sV b.f0,.none0]]))] [10,30,31,40,44] [1*40≤140737488355328] ⟨by decide,trivial⟩ ?_;refine sO hP' hn' hm [(4,.more xLenT)] [(13,qi 1)] [0,5,7,9,11,13,18,19,20,25,26,27] [] [10,30,31,40,44] ?_;refine AWp.cv (rG hP' hn' hm [(12,.more (Z8y 0)),(14,.more (Za0 0)),(16,.app 45 ([s].map Z5)),(17,.app 46 ([s].map Z5)),(18,.more (Z8y 0)),(20,.more (Za6 0))] [] [0,5,7,18,19,20,25,26,27] [(44,some (.arow 2 30 [] [[sV b.f0,.own 46]])),(46,some (.row 9 52 ([s].map Z5)))] [10,30,40,44,46] [i64.wrap ((1:Int)-1)=((([]:List (List Im)).length+0:Nat):Int),([]:List (List Im)).length+0=([]:List (List Im)).length+0,[s].map Z5=[Z5 s],[s].map Z5=[]++([s].map Z5),∀ c∈([s].map Z5),c.length=9,∀ c∈([s].map Z5),Z1s (c.map .im)=true,(([]:List (List Im)).length+([s].map Z5).length)*104≤140737488355328,i64.wrap ((1:Int)-1)=((([]:List (List Im)).length+0:Nat):Int),([]:List (List Im)).length+0=([]:List (List Im)).length+0] ⟨rfl,rfl,rfl,rfl,by exact Z3c _ _ _ (fun _=>rfl),by exact Z2k _ _ (fun _=>rfl),by simp,rfl,rfl,trivial⟩ ?_);refine lf (t:=⟨[(0,qi a0),(5,.mown 10),(7,.ptr 30 0 0),(18,.im (.row (a1.map Za))),(19,qi (a1.length:Int)),(20,qi x2),(25,.im (.row (b.f1.map Z5))),(26,qi (b.f1.length:Int)),(27,qi z2)],[(10,some (.map (mE (vkI .i64) Im.sc (qM q')))),(30,some (.box 30 (Z4k b))),(40,some (.box 36 [qi m.f0,qi m.f1,qi m.f2,.own 41])),(41,some (.arow 2 30 [] [[sV b.f0,.own 42]])),(42,some (.row 9 52 ([s].map Z5)))],41⟩) [(10,10),(30,30),(40,40),(44,41),(46,42)] [] [] (by kernel_rfl) ?_;refine⟨rfl,Zb.obs ⟨m,[⟨b.f0,[s]⟩]⟩,fun k o h => ?_,fun B' => ?_⟩
        ·have h':=Z1x      h
         rw[show Zb.obs ⟨m,[⟨b.f0,[s]⟩]⟩=[(40,.box 36 [qi m.f0,qi m.f1,qi m.f2,.own 41]),(41,.arow 2 30 [] [[sV b.f0,.own 42]]),(42,.row 9 52 ([s].map Z5))] from Zb.obs1 m [] ⟨b.f0,[s]⟩] at h';simp only[List.mem_cons,List.not_mem_nil,or_false,Prod.mk.injEq] at h';rcases h' with ⟨rfl,rfl⟩ | ⟨rfl,rfl⟩ | ⟨rfl,rfl⟩<;>exact⟨by simp,rfl⟩
        ·refine gR hP hn hm [] [(27,qi (i64.wrap (z2+1)))] [0,5,7,18,19,20,25,26,27] [] [10,30] [] trivial ?_
         exact fin _ B' (fun q2 Bs2 hq2=>ih1 _ _ _ H q2 Bs2 hq2)
      ·simp only[List.concat_eq_append] at hrw
       subst hrw;rw[Zb.obs1] at hb;unfold Zb.add at e5;rw[show(⟨m,l++[r0]⟩:Z2).f1.getLast? = some r0 from List.getLast?_concat] at e5;dsimp only at e5;obtain⟨d2,e5⟩:=Z5f e5;have dl:(l.length+2)*40≤140737488355328:=by simpa using d2
       have w0:=cut_w0 (n:=(l.map Za).length) (by rw[Z3r];omega);have w1:=cut_w1 (n:=(l.map Za).length) (by rw[Z3r];omega);refine GWp.open [40,41,42] 41 i 11 _ hb rfl (by decide) (fun k o h => ?_) (fun k h => ?_) (fun k o q h h2 => ?_) side (Nat.zero_le _) (fun Γ' e6 e7 => ?_)
       ·have h':=Z1x      h
        simp only[List.mem_cons,List.not_mem_nil,or_false,Prod.mk.injEq] at h';rcases h' with ⟨rfl,_⟩ | ⟨rfl,_⟩ | ⟨rfl,_⟩<;>simp
       ·simp only[List.mem_cons,List.not_mem_nil,or_false] at h
        rcases h with rfl | rfl | rfl<;>exact Z7d (by kernel_rfl)
       ·have h':=Z1x      h
        simp only[List.mem_cons,List.not_mem_nil,or_false,Prod.mk.injEq] at h';rcases h' with ⟨rfl,rfl⟩ | ⟨rfl,rfl⟩ | ⟨rfl,rfl⟩
        ·have:41=q:=by simpa[MObj.has,hasL,AVal.has] using h2
         simp[← this]
        ·have:42=q:=by simpa[MObj.has,hasL,Z7j  ,AVal.has] using h2
         simp[← this]
        ·simp[MObj.has] at h2
       ·have hP':=e6.trans hP
        have hn':=e7.trans hn;refine AWp.seq ?_;refine sO hP' hn' hm [(4,.more xLenT)] [(12,qi (((l.map Za).length+1:Nat):Int))] [0,5,7,9,11,12,18,19,20,25,26,27] [] [10,30,31,40,41,42] ?_;refine sR hP' hn' hm [(1,.b false),(9,.more (Z8y 0)),(11,.more (Za0 0))] [(74,bV (!(r0.f0.toList==b.f0.toList)))] [0,5,7,9,11,12,18,19,20,25,26,27,74] [] [10,30,31,40,41,42] [((((l.map Za).length+1:Nat):Int)==0)=false,_,(l.map Za).length+0=(l.map Za).length+0] ⟨by simp;omega,w0,rfl,trivial⟩ ?_;refine AWp.cond (!(r0.f0.toList==b.f0.toList)) (by kernel_rfl) (fun c3 => ?_) (fun c3 => ?_)
        ·rw[if_neg (by simpa using c3)] at e5
         obtain rfl:=sj e5;refine rG hP' hn' hm [(8,.more (xOneT 43)),(9,.more (xAppT 44))] [] [0,5,7,9,11,18,19,20,25,26,27] [(40,some (.box 36 [qi m.f0,qi m.f1,qi m.f2,.own 44])),(44,some (.arow 2 30 (l.map Za) [[sV r0.f0,.own 42],[sV b.f0,.none0]]))] [10,30,31,40,42,44] [((l.map Za).length+1+1)*40≤140737488355328] ⟨by rw[Z3r];omega,trivial⟩ ?_;refine sO hP' hn' hm [(4,.more xLenT)] [(13,qi (((l.map Za).length+1+1:Nat):Int))] [0,5,7,9,11,13,18,19,20,25,26,27] [] [10,30,31,40,42,44] ?_;refine AWp.cv (rG hP' hn' hm [(12,.more (Z8y 1)),(14,.more (Za0 1)),(16,.app 45 ([s].map Z5)),(17,.app 46 ([s].map Z5)),(18,.more (Z8y 1)),(20,.more (Za6 1))] [] [0,5,7,18,19,20,25,26,27] [(44,some (.arow 2 30 (l.map Za) [[sV r0.f0,.own 42],[sV b.f0,.own 46]])),(46,some (.row 9 52 ([s].map Z5)))] [10,30,40,42,44,46] [i64.wrap ((((l.map Za).length+1+1:Nat):Int)-1)=(((l.map Za).length+1:Nat):Int),(l.map Za).length+1=(l.map Za).length+1,[s].map Z5=[Z5 s],[s].map Z5=[]++([s].map Z5),∀ c∈([s].map Z5),c.length=9,∀ c∈([s].map Z5),Z1s (c.map .im)=true,(([]:List (List Im)).length+([s].map Z5).length)*104≤140737488355328,i64.wrap ((((l.map Za).length+1+1:Nat):Int)-1)=(((l.map Za).length+1:Nat):Int),(l.map Za).length+1=(l.map Za).length+1] ⟨by rw[Z8 (by rw[Z3r];omega) (by rw[Z3r];omega)];omega,rfl,rfl,rfl,by exact Z3c _ _ _ (fun _=>rfl),by exact Z2k _ _ (fun _=>rfl),by simp,by rw[Z8 (by rw[Z3r];omega) (by rw[Z3r];omega)];omega,rfl,trivial⟩ ?_);refine lf (t:=⟨[(0,qi a0),(5,.mown 10),(7,.ptr 30 0 0),(18,.im (.row (a1.map Za))),(19,qi (a1.length:Int)),(20,qi x2),(25,.im (.row (b.f1.map Z5))),(26,qi (b.f1.length:Int)),(27,qi z2)],[(10,some (.map (mE (vkI .i64) Im.sc (qM q')))),(30,some (.box 30 (Z4k b))),(40,some (.box 36 [qi m.f0,qi m.f1,qi m.f2,.own 41])),(41,some (.arow 2 30 (l.map Za++[Za r0]) [[sV b.f0,.own 42]])),(42,some (.row 9 52 ([s].map Z5)))],41⟩) [(10,10),(30,30),(40,40),(44,41),(46,42)] [42] [] (by kernel_rfl) ?_;refine⟨rfl,Zb.obs ⟨m,(l++[r0])++[⟨b.f0,[s]⟩]⟩,fun k o h => ?_,fun B' => ?_⟩
         ·have h':=Z1x      h
          rw[Zb.obs1,app1] at h';simp only[List.mem_cons,List.not_mem_nil,or_false,Prod.mk.injEq] at h';rcases h' with ⟨rfl,rfl⟩ | ⟨rfl,rfl⟩ | ⟨rfl,rfl⟩<;>exact⟨by simp,rfl⟩
         ·refine gR hP hn hm [] [(27,qi (i64.wrap (z2+1)))] [0,5,7,18,19,20,25,26,27] [] [10,30] [] trivial ?_
          exact fin _ B' (fun q2 Bs2 hq2=>ih1 _ _ _ H q2 Bs2 hq2)
        ·rw[if_pos (by simpa using c3)] at e5
         obtain⟨d3,e5⟩:=Z5f e5;rw[show(⟨m,l++[r0]⟩:Z2).f1.dropLast=l from List.dropLast_concat] at e5;obtain rfl:=sj e5;refine AWp.skip ?_;refine sO hP' hn' hm [(4,.more xLenT)] [(13,qi (((l.map Za).length+1:Nat):Int))] [0,5,7,9,11,13,18,19,20,25,26,27] [] [10,30,31,40,41,42] ?_;refine AWp.cv (rG hP' hn' hm [(12,.more (Z8y 0)),(14,.more (Za0 0)),(16,.app 45 ([s].map Z5)),(17,.app 46 ((r0.f1++[s]).map Z5)),(18,.more (Z8y 0)),(20,.more (Za6 0))] [] [0,5,7,18,19,20,25,26,27] [(41,some (.arow 2 30 (l.map Za) [[sV r0.f0,.own 46]])),q2 46 (r0.f1++[s])] [10,30,40,41,46] [_,(l.map Za).length+0=(l.map Za).length+0,[s].map Z5=[Z5 s],(r0.f1++[s]).map Z5=(r0.f1.map Z5)++([s].map Z5),∀ c∈([s].map Z5),c.length=9,∀ c∈([s].map Z5),Z1s (c.map .im)=true,((r0.f1.map Z5).length+([s].map Z5).length)*104≤140737488355328,_,(l.map Za).length+0=(l.map Za).length+0] ⟨w0,rfl,rfl,by simp,by exact Z3c _ _ _ (fun _=>rfl),by exact Z2k _ _ (fun _=>rfl),by simpa using d3,w0,rfl,trivial⟩ ?_);refine lf (t:=⟨[(0,qi a0),(5,.mown 10),(7,.ptr 30 0 0),(18,.im (.row (a1.map Za))),(19,qi (a1.length:Int)),(20,qi x2),(25,.im (.row (b.f1.map Z5))),(26,qi (b.f1.length:Int)),(27,qi z2)],[(10,some (.map (mE (vkI .i64) Im.sc (qM q')))),(30,some (.box 30 (Z4k b))),(40,some (.box 36 [qi m.f0,qi m.f1,qi m.f2,.own 41])),(41,some (.arow 2 30 (l.map Za) [[sV r0.f0,.own 42]])),q2 42 (r0.f1++[s])],41⟩) [(10,10),(30,30),(40,40),(41,41),(46,42)] [] [] (by kernel_rfl) ?_;refine⟨rfl,Zb.obs ⟨m,l++[⟨r0.f0,r0.f1++[s]⟩]⟩,fun k o h => ?_,fun B' => ?_⟩
         ·have h':=Z1x      h
          rw[Zb.obs1] at h';simp only[List.mem_cons,List.not_mem_nil,or_false,Prod.mk.injEq] at h';rcases h' with ⟨rfl,rfl⟩ | ⟨rfl,rfl⟩ | ⟨rfl,rfl⟩<;>exact⟨by simp,rfl⟩
         ·refine gR hP hn hm [] [(27,qi (i64.wrap (z2+1)))] [0,5,7,18,19,20,25,26,27] [] [10,30] [] trivial ?_
          exact fin _ B' (fun q2 Bs2 hq2=>ih1 _ _ _ H q2 Bs2 hq2)
    ·replace H:=iF c2 H
     obtain rfl:=sj H;refine GWp.cv (Z73 [0,5,18,19,20] [10]) (GWp.exit ⟨rfl,q,Bs,hq,rfl,rfl⟩)
   refine GLWp.mono (main1 x1 0 y1 H1 q Bs hq) ?_;rintro e s g ⟨rfl,q2,Bs2,hq2,rfl,rfl⟩;show GWp Γ _ _ _ _;refine gR hP hn hm [] [(20,qi (i64.wrap (x2+1)))] [0,5,18,19,20] [] [10] [] trivial ?_;exact ih _ _ _ H q2 Bs2 hq2
  ·replace H:=iF c1 H
   obtain rfl:=sj H;refine GWp.cv (Z73 [5] [10]) (GWp.exit ⟨rfl,q,Bs,hq,rfl,rfl⟩)
 refine GLWp.mono (main0 [] 0 y H0 [] [] rfl) ?_;rintro e s g ⟨rfl,q,Bs,hq,rfl,rfl⟩;show GWp Γ _ _ _ _;have hql:(qM q).length=(qS q).length:=by simp[qM,qS]
 refine GWp.seq (gK hP hn hm [] [(14,.none0)] [5,14] [] [10] [] [(10,10)] [] [50] ⟨[(5,.mown 10),(14,.own 50)],[(10,some (.map (mE (vkI .i64) Im.sc (qM q)))),(50,some (.row 4 36 []))],0⟩ trivial rfl ?_);refine GWp.seq ?_;refine gS hP hn hm [(1,.more (xRng 51 (qM q).length))] [(115,.ptr 51 0 0)] [14,115] [(51,some (.iter (some 10) (qM q).length []))] [10,50,51] [(qM q).length=(mE (vkI .i64) Im.sc (qM q)).length] ⟨len_mE _ _ _,trivial⟩ ?_;refine GWp.block ?_;refine GWp.loopB (fun body2 hbody2 => ?_);have main2:∀ (N:Nat) (sn:List Nat) (acc:List (Int×Z2)) (bs:List Bun) (Bs:List (List Nat)),(remI (qM q).length sn).length=N→(acc++Zem (qS q) sn).Perm (qS q)→(∀ i∈remI (qM q).length sn,bs[i]? = (qB (.ptr 40 0 0) Zb.obs q)[i]?)→GLWp Γ body2 (fun e s g=>e = .exit 4∧∃ acc:List (Int×Z2),acc.Perm (qS q)∧s=⟨[(14,.own 50)],[q1 50 (acc.map (·.2))],0⟩) ⟨[(14,.own 50),(115,.ptr 51 0 0)],[(10,some (.map (mE (vkI .i64) Im.sc (qM q)))),q1 50 (acc.map (·.2)),(51,some (.iter (some 10) (qM q).length sn))],0⟩ (bag bs Bs):=by
  intro N
  induction N using Nat.strongRecOn with
  | _ N ih =>
  intro sn acc bs Bs hN hp hbs;subst hbody2;refine GLWp.round ?_;refine GWp.seq ?_;refine GWp.frame (fun Γ' e6 e7=>AWp.next (n:=(qM q).length) (sn:=sn) (es:=mE (vkI .i64) Im.sc (qM q)) 116 117 51 10 (e6.trans hP) rfl rfl rfl rfl rfl rfl (by rw[e7,hn];decide) (by rw[e7,hn];decide) (by kernel_rfl) (by kernel_rfl) (by kernel_rfl) (len_mE _ _ _) (fun hz=>⟨rfl,?_⟩) (fun i A B hA hB hin=>⟨rfl,?_⟩))
  ·show GWp Γ _ _ _ _
   refine GWp.seq (GWp.cond false (by kernel_rfl) (fun h=>nomatch h) (fun _ => ?_));refine GWp.cv (Z73 [14] [50]) (GWp.exit ⟨rfl,acc,?_,rfl⟩);have:Zem (qS q) sn=[]:=by unfold Zem;rw[← hql,hz];rfl
   rw[this,List.append_nil] at hp;exact hp
  ·show GWp Γ _ _ _ _
   refine GWp.seq (GWp.cond true (by kernel_rfl) (fun _=>GWp.skip ?_) (fun h=>nomatch h));show GWp Γ _ _ _ _;refine GWp.block ?_;have hiq:i<q.length:=by simpa[qM] using hin
   obtain⟨⟨⟨lo,bk⟩,v⟩,hqi⟩:∃ y,q[i]? = some y:=⟨_,List.getElem?_eq_getElem hiq⟩
   have hmem:i∈remI (qM q).length sn:=by rw[hA];simp
   have hb:=(hbs i hmem).trans (qB_get (h:=.ptr 40 0 0) (f:=Zb.obs) hqi);have hSi:(qS q)[i]? = some (lo,bk):=by simp[qS,hqi]
   have hp2:((acc++[(lo,bk)])++Zem (qS q) (sn++[i])).Perm (qS q):=by
    refine List.Perm.trans ?_ hp;have q1:Zem (qS q) sn=A.filterMap (fun i=>(qS q)[i]?)++(lo,bk)::B.filterMap (fun i=>(qS q)[i]?):=by rw[Zem,← hql,hA,List.filterMap_append,List.filterMap_cons,hSi]
    have q2:Zem (qS q) (sn++[i])=A.filterMap (fun i=>(qS q)[i]?)++B.filterMap (fun i=>(qS q)[i]?):=by rw[Zem,← hql,hB,List.filterMap_append]
    rw[q1,q2,List.append_assoc];refine List.Perm.append_left _ ?_;rw[List.singleton_append];exact List.perm_middle.symm
   have next:∀ o' B',GLWp Γ _ _ _ _:=fun o' B'=>ih _ (by rw[← hN,hA,hB];simp) (sn++[i]) (acc++[(lo,bk)]) (bs.set i ⟨v,.ptr 40 0 0,o'⟩) (Bs.set i B') rfl hp2 (fun i' hi'=>by
    have hne:i≠i':=by
     rintro rfl;have:=(List.mem_filter.1 hi').2;simp at this
    rw[List.getElem?_set_ne hne];refine hbs i' ?_;rw[hB] at hi';rw[hA];rcases List.mem_append.1 hi' with h | h<;>simp[h])
   refine gS hP hn hm [(0,.more (xEnt (vkI .i64) Im.sc (qM q) i (lo,v) (qi lo)))] [(16,.im (.sc v))] [14,16,115] [] [10,50,51] [(qM q).length=(mE (vkI .i64) Im.sc (qM q)).length,(sn++[i]).getLast? = some i,mE (vkI .i64) Im.sc (qM q)=mE (vkI .i64) Im.sc (qM q),(qM q)[i]? = some (lo,v),valA (qi lo)=some (vkI .i64 lo)] ⟨len_mE _ _ _,by simp,rfl,by simp[qM,hqi],rfl,trivial⟩ ?_;have side:∀ q,(AVal.ptr 40 0 0).has q=true→q∈[40,41,42]∧q<41:=fun q h=>by
    have:40=q:=by simpa[AVal.has] using h
    subst this;exact⟨by simp,by omega⟩
   have hsz:(acc.length+1)*48≤140737488355328:=by
    have e1:=hp2.length_eq;have e2:(qS q).length=y.length:=by rw[hq]
    simp only[List.length_append,List.length_cons,List.length_nil] at e1;omega
   obtain⟨m,rows⟩:=bk;rcases List.eq_nil_or_concat rows with hrw | ⟨l,r0,hrw⟩
   ·subst hrw
    rw[Zb.obs0] at hb;refine GWp.open [40,41,42] 41 i 16 _ hb rfl (by decide) (fun k o h => ?_) (fun k h => ?_) (fun k o q h h2 => ?_) side (Nat.zero_le _) (fun Γ' e6 e7 => ?_)
    ·have h':=Z1x      h
     simp only[List.mem_cons,List.not_mem_nil,or_false,Prod.mk.injEq] at h';obtain⟨rfl,_⟩:=h';simp
    ·simp only[List.mem_cons,List.not_mem_nil,or_false] at h
     rcases h with rfl | rfl | rfl<;>exact Z7d (by kernel_rfl)
    ·have h':=Z1x      h
     simp only[List.mem_cons,List.not_mem_nil,or_false,Prod.mk.injEq] at h';obtain⟨rfl,rfl⟩:=h';simp[MObj.has,hasL,AVal.has] at h2
    ·have hP':=e6.trans hP
     have hn':=e7.trans hn;refine AWp.cv (rG hP' hn' hm [(4,.app 45 ([(⟨m,[]⟩:Z2)].map Zo)),(5,.app 46 (((acc++[(lo,(⟨m,[]⟩:Z2))]).map (·.2)).map Zo))] [(14,.own 46)] [14,115] [q1 46 ((acc++[(lo,(⟨m,[]⟩:Z2))]).map (·.2))] [10,46,51] [[(⟨m,[]⟩:Z2)].map Zo=[Zo (⟨m,[]⟩:Z2)],((acc++[(lo,(⟨m,[]⟩:Z2))]).map (·.2)).map Zo=(acc.map (·.2)).map Zo++[(⟨m,[]⟩:Z2)].map Zo,∀ c∈([(⟨m,[]⟩:Z2)].map Zo),c.length=4,∀ c∈([(⟨m,[]⟩:Z2)].map Zo),Z1s (c.map .im)=true,(((acc.map (·.2)).map Zo).length+([(⟨m,[]⟩:Z2)].map Zo).length)*48≤140737488355328] ⟨rfl,by simp,by exact Z3c _ _ _ (fun _=>rfl),by exact Z2k _ _ (fun _=>rfl),by simpa using hsz,trivial⟩ ?_);refine lf (t:=⟨[(14,.own 50),(115,.ptr 51 0 0)],[(10,some (.map (mE (vkI .i64) Im.sc (qM q)))),q1 50 ((acc++[(lo,(⟨m,[]⟩:Z2))]).map (·.2)),(51,some (.iter (some 10) (qM q).length (sn++[i])))],41⟩) [(10,10),(46,50),(51,51)] [] [] (by kernel_rfl) ?_;refine⟨rfl,[],fun k o h=>by simp[Pv.look] at h,fun B' => ?_⟩;exact GLWp.cv (Z73 [14,115] [10,50,51]) (next [] B')
   ·simp only[List.concat_eq_append] at hrw
    subst hrw;rw[Zb.obs1] at hb;refine GWp.open [40,41,42] 41 i 16 _ hb rfl (by decide) (fun k o h => ?_) (fun k h => ?_) (fun k o q h h2 => ?_) side (Nat.zero_le _) (fun Γ' e6 e7 => ?_)
    ·have h':=Z1x      h
     simp only[List.mem_cons,List.not_mem_nil,or_false,Prod.mk.injEq] at h';rcases h' with ⟨rfl,_⟩ | ⟨rfl,_⟩ | ⟨rfl,_⟩<;>simp
    ·simp only[List.mem_cons,List.not_mem_nil,or_false] at h
     rcases h with rfl | rfl | rfl<;>exact Z7d (by kernel_rfl)
    ·have h':=Z1x      h
     simp only[List.mem_cons,List.not_mem_nil,or_false,Prod.mk.injEq] at h';rcases h' with ⟨rfl,rfl⟩ | ⟨rfl,rfl⟩ | ⟨rfl,rfl⟩
     ·have:41=q:=by simpa[MObj.has,hasL,AVal.has] using h2
      simp[← this]
     ·have:42=q:=by simpa[MObj.has,hasL,Z7j  ,AVal.has] using h2
      simp[← this]
     ·simp[MObj.has] at h2
    ·have hP':=e6.trans hP
     have hn':=e7.trans hn;refine AWp.conv (inv:=[(10,10),(50,50),(51,51),(40,40),(41,41)]) (vk:=[42]) (e0:=[]) (t:=⟨[(14,.own 50),(16,.ptr 40 0 0),(115,.ptr 51 0 0)],[(10,some (.map (mE (vkI .i64) Im.sc (qM q)))),q1 50 (acc.map (·.2)),(51,some (.iter (some 10) (qM q).length (sn++[i]))),(40,some (.box 36 [qi m.f0,qi m.f1,qi m.f2,.own 41])),(41,some (.row 2 30 (l.map Za++[Za r0])))],41⟩) (by kernel_rfl) ?_
     refine AWp.conv (inv:=[(10,10),(50,50),(51,51),(40,40)]) (vk:=[41]) (e0:=[]) (t:=⟨[(14,.own 50),(16,.ptr 40 0 0),(115,.ptr 51 0 0)],[(10,some (.map (mE (vkI .i64) Im.sc (qM q)))),q1 50 (acc.map (·.2)),(51,some (.iter (some 10) (qM q).length (sn++[i]))),(40,some (.box 36 [qi m.f0,qi m.f1,qi m.f2,.im (.row (l.map Za++[Za r0]))]))],41⟩) (by kernel_rfl) ?_
     refine AWp.cv (rG hP' hn' hm [(4,.app 45 ([(⟨m,l++[r0]⟩:Z2)].map Zo)),(5,.app 46 (((acc++[(lo,(⟨m,l++[r0]⟩:Z2))]).map (·.2)).map Zo))] [(14,.own 46)] [14,115] [q1 46 ((acc++[(lo,(⟨m,l++[r0]⟩:Z2))]).map (·.2))] [10,46,51] [[(⟨m,l++[r0]⟩:Z2)].map Zo=[[iI .i64 m.f0,iI .i64 m.f1,iI .i64 m.f2,.row (l.map Za++[Za r0])]],((acc++[(lo,(⟨m,l++[r0]⟩:Z2))]).map (·.2)).map Zo=(acc.map (·.2)).map Zo++[(⟨m,l++[r0]⟩:Z2)].map Zo,∀ c∈([(⟨m,l++[r0]⟩:Z2)].map Zo),c.length=4,∀ c∈([(⟨m,l++[r0]⟩:Z2)].map Zo),Z1s (c.map .im)=true,(((acc.map (·.2)).map Zo).length+([(⟨m,l++[r0]⟩:Z2)].map Zo).length)*48≤140737488355328] ⟨by simp,by simp,by exact Z3c _ _ _ (fun _=>rfl),by exact Z2k _ _ (fun _=>rfl),by simpa using hsz,trivial⟩ ?_);refine lf (t:=⟨[(14,.own 50),(115,.ptr 51 0 0)],[(10,some (.map (mE (vkI .i64) Im.sc (qM q)))),q1 50 ((acc++[(lo,(⟨m,l++[r0]⟩:Z2))]).map (·.2)),(51,some (.iter (some 10) (qM q).length (sn++[i])))],41⟩) [(10,10),(46,50),(51,51)] [] [] (by kernel_rfl) ?_;refine⟨rfl,[],fun k o h=>by simp[Pv.look] at h,fun B' => ?_⟩;exact GLWp.cv (Z73 [14,115] [10,50,51]) (next [] B')
 refine GLWp.mono (main2 _ [] [] (qB (.ptr 40 0 0) Zb.obs q) Bs rfl (by rw[picks_nil];exact .refl _) (fun i _=>rfl)) ?_;rintro e s g ⟨rfl,acc,hacc,rfl⟩;show GWp Γ _ _ _ _;have HSa:Zs.f (acc.map (·.2))=some r':=by
  have h0:=rchk_of HS acc (by rw[← hq];exact hacc);exact h0
 clear HS main0 main2;have hfn:Pv.Fn Tryz.prog 28 [.own 0,.im (.sc (.func (.func 29) #[] #[]))] [q1 0 (acc.map (·.2))] 1 (fun x o=>x = .tup []∧o=[q1 0 r']):=Zs.ok _ _ HSa;refine gS hP hn hm [(1,.call [(50,0)] [(0,50)] [] [] 1 (.tup []) [q1 0 r'])] [] [14] [q1 50 r'] [50] [_,Pv.Fn Tryz.prog 28 [.own 0,.im (.sc (.func (.func 29) #[] #[]))] [q1 0 (acc.map (·.2))] 1 (fun x o=>x = .tup []∧o=[q1 0 r'])] ⟨call28,hfn,trivial⟩ ?_;refine gS hP hn hm [] [(4,.own 50)] [4] [] [50] [] trivial ?_;refine GWp.ret ?_;exact lf (t:=⟨[(4,.own 0)],[q1 0 r'],0⟩) [(50,0)] [] [] (by kernel_rfl) ⟨.inl rfl,rfl,by kernel_rfl,by kernel_rfl⟩
def Z5a.f (a0:Z05):Option Bool:=((if decide (a0.f2<0) then(some true) else(some (decide (a0.f2>4)))):Option Bool)>>=fun aa=>if aa=true then(some false) else((Z3a.f a0.f2)>>=fun ab=>((if decide (a0.f0≥0) then(if decide (a0.f0≤1099511627776) then((chk ((i64.wrap ((64:Int)*2 ^ (min (u64.wrap ((2:Int)*(u64.wrap ((if(if(4:Int)<a0.f2 then(4:Int) else a0.f2)>0 then(if(4:Int)<a0.f2 then(4:Int) else a0.f2) else(0:Int)))))).toNat 64)))≠0))>>=fun _=>if(Int.tmod a0.f0 (i64.wrap ((64:Int)*2 ^ (min (u64.wrap ((2:Int)*(u64.wrap ((if(if(4:Int)<a0.f2 then(4:Int) else a0.f2)>0 then(if(4:Int)<a0.f2 then(4:Int) else a0.f2) else(0:Int)))))).toNat 64))))==0 then(some (a0.f1==(i64.wrap (a0.f0+(i64.wrap ((64:Int)*2 ^ (min (u64.wrap ((2:Int)*(u64.wrap ((if(if(4:Int)<a0.f2 then(4:Int) else a0.f2)>0 then(if(4:Int)<a0.f2 then(4:Int) else a0.f2) else(0:Int)))))).toNat 64))))))) else(some false)) else(some false)) else(some false)):Option Bool)>>=fun ac=>some ac)
abbrev w0_ (k:Nat) (x:Z05):Nat×Option MObj:=BW 34 Zeg k x
theorem Z5a.ok (a0:Z05):F0 55 [.agg (Zeg a0)] (Z5a.f a0) (fun r=>bV r):=FT [] func55 (.rg [(0,⟨.k 0,.n⟩)]<|.join (.sp (fun aa=>.rg [(3,hB aa)]<|.o [(0,1)])
 (fun aa=>.rg [(3,hB aa)]<|.o [(0,1)]))
 (.st .normal (fun ab=>⟨[(1,.ptr 1 0 0),(11,bV ab)],[w0_ 1 a0],0⟩) fun ab=>.cd (fun ac=>.r0<|.rv ⟨[(2,bV false)],[],0⟩)
 (fun ac=>.bd fun ae af=>.rg [(2,qh call20 (Z3a.ok a0.f2 ae af))]<|.join (.sp (fun ah=>.sp (fun ai=>.ck fun aj=>.sp (fun ak=>.rg [(3,hB ah),(8,hB ai),(12,hN (p1 aj)),(15,hB ak)]<|.o [])
 (fun ak=>.rg [(3,hB ah),(8,hB ai),(12,hN (p1 aj)),(15,hB ak)]<|.o []))
 (fun ai=>.rg [(3,hB ah),(8,hB ai)]<|.o []))
 (fun ah=>.rg [(3,hB ah)]<|.o []))
 (.st .normal (fun al=>⟨[(2,bV al)],[],0⟩) fun al=>.rv ⟨[(2,bV al)],[],0⟩))))
def Z26.l0 (a0:ByteArray) (aa:Int):Option (Bool ⊕ Unit):=if decide (aa<(a0.size:Int)) then((chk (0≤aa∧aa<(a0.size:Int)))>>=fun _=>((if decide ((bt a0 aa)≥97) then(if decide ((bt a0 aa)≤122) then(some true) else(if decide ((bt a0 aa)≥65) then(if decide ((bt a0 aa)≤90) then(some true) else(some ((bt a0 aa)==95))) else(some ((bt a0 aa)==95)))) else(if decide ((bt a0 aa)≥65) then(if decide ((bt a0 aa)≤90) then(some true) else(some ((bt a0 aa)==95))) else(some ((bt a0 aa)==95)))):Option Bool)>>=fun ab=>((if !ab then(if aa==0 then(some true) else(if decide ((bt a0 aa)<48) then(some true) else(some (decide ((bt a0 aa)>57))))) else(some false)):Option Bool)>>=fun ac=>if ac=true then(some (.inl false)) else(Z26.l0 a0 (i64.wrap (aa+1)))) else(some (.inr ()))
partial_fixpoint
def Z26.f (a0:ByteArray):Option Bool:=((if a0.toList==(⟨#[]⟩:ByteArray).toList then(some true) else(some (decide ((a0.size:Int)>64)))):Option Bool)>>=fun aa=>if aa=true then(some false) else((Z26.l0 a0 0)>>=fun | .inl rr=>(some rr) | .inr _=>(some true))
theorem Z26.ok (a0:ByteArray):F0 165 [sV a0] (Z26.f a0) (fun r=>bV r):=FT [] func165 (.r0<|.join (.sp (fun aa=>.rg [(2,hB aa)]<|.o [])
 (fun aa=>.rg [(2,hB aa)]<|.o []))
 (.st .normal (fun ab=>⟨[(0,sV a0),(12,bV ab)],[],0⟩) fun ab=>.cd (fun ac=>.r0<|.rv ⟨[(2,bV false)],[],0⟩)
 (fun ac=>.r0<|.bl<|.lq (.one (Z26.l0.partial_correctness a0)) 0 [] (fun _=>.one (fun ae=>⟨[(0,sV a0),(14,qi (a0.size:Int)),(15,qi ae)],[],0⟩) fun ae=>.r0<|.cd (fun af=>.bl<|.r0<|.ck fun ah=>.rg [(2,hN (p2 ah))]<|.join (.sp (fun ai=>.sp (fun aj=>.rg [(2,hB ai),(6,hB aj)]<|.o [])
 (fun aj=>.sp (fun ak=>.sp (fun al=>.rg [(2,hB ai),(6,hB aj),(9,hB ak),(14,hB al)]<|.o [])
 (fun al=>.rg [(2,hB ai),(6,hB aj),(9,hB ak),(14,hB al)]<|.o []))
 (fun ak=>.rg [(2,hB ai),(6,hB aj),(9,hB ak)]<|.o [])))
 (fun ai=>.sp (fun am=>.sp (fun ao=>.rg [(2,hB ai),(9,hB am),(14,hB ao)]<|.o [])
 (fun ao=>.rg [(2,hB ai),(9,hB am),(14,hB ao)]<|.o []))
 (fun am=>.rg [(2,hB ai),(9,hB am)]<|.o [])))
 (.st .normal (fun ap=>⟨[(0,sV a0),(3,qi ae),(4,iV .u8 (bt a0 ae)),(5,bV ap),(14,qi (a0.size:Int)),(15,qi ae)],[],0⟩) fun ap=>.join (.sp (fun aq=>.sp (fun ar=>.rg [(2,hB aq),(5,hB ar)]<|.o [])
 (fun ar=>.sp (fun au=>.rg [(2,hB aq),(5,hB ar),(9,hB au)]<|.o [])
 (fun au=>.rg [(2,hB aq),(5,hB ar),(9,hB au)]<|.o [])))
 (fun aq=>.rg [(2,hB aq)]<|.o []))
 (.st .normal (fun av=>⟨[(0,sV a0),(14,qi (a0.size:Int)),(15,qi ae),(52,bV av)],[],0⟩) fun av=>.cd (fun ax=>.r0<|.rv ⟨[(2,bV false)],[],0⟩)
 (fun ax=>.r0<|.bk [] rfl))))
 (fun af=>.o []))
 (.sm (.rt (fun rr=>bV rr) (fun rr=>[]))
 (.st (.exit 0) (fun _=>⟨[],[],0⟩) fun _=>.r0<|.rv ⟨[(2,bV true)],[],0⟩)))))
def Z4b.f (a0:ByteArray):Option Bool:=((if !(a0.toList==(⟨#[]⟩:ByteArray).toList) then(some (decide ((a0.size:Int)≤64))) else(some false)):Option Bool)>>=fun aa=>some aa
theorem Z4b.ok (a0:ByteArray):F0 166 [sV a0] (Z4b.f a0) (fun r=>bV r):=FT [] func166 (.r0<|.join (.sp (fun aa=>.rg [(2,hB aa)]<|.o [])
 (fun aa=>.rg [(2,hB aa)]<|.o []))
 (.st .normal (fun ab=>⟨[(2,bV ab)],[],0⟩) fun ab=>.rv ⟨[(2,bV ab)],[],0⟩))
def Z2h.l0 (a0:List Z0f) (aa:Int):Option (Int ⊕ Unit):=if decide (aa<(a0.length:Int)) then((at? a0 aa)>>=fun ab=>(((Z26.f ab.f0)>>=fun ac=>if !ac then(some true) else((Z4b.f ab.f1)>>=fun ae=>if !ae then(some true) else(if decide (aa>0) then((at? a0 (i64.wrap (aa-1)))>>=fun af=>some (!Op.bytesLess af.f0.toList ab.f0.toList)) else(some false)))):Option Bool)>>=fun ah=>if ah=true then(some (.inl 26)) else(Z2h.l0 a0 (i64.wrap (aa+1)))) else(some (.inr ()))
partial_fixpoint
def Z2h.f (a0:List Z0f):Option Int:=if decide ((a0.length:Int)>16) then(some 9) else((Z2h.l0 a0 0)>>=fun | .inl rr=>(some rr) | .inr _=>(some 0))
theorem Z2h.ok (a0:List Z0f):F0 96 [.im (.row (a0.map Z2m))] (Z2h.f a0) (fun r=>qi r):=FT [] func96 (.r0<|.rg [(1,hG Z2m a0)]<|.cd (fun aa=>.r0<|.rv ⟨[(2,qi 9)],[],0⟩)
 (fun aa=>.rg [(1,hG Z2m a0)]<|.bl<|.lq (.one (Z2h.l0.partial_correctness a0)) 0 [] (fun _=>.one (fun ab=>⟨[(0,im a0 Z2m),(8,im a0 Z2m),(9,qi (ln a0)),(10,qi ab)],[],0⟩) fun ab=>.r0<|.cd (fun ac=>.bl<|.el fun ae af ah=>.rg [(1,hA Z2m af ah),(3,⟨.k 1,.n⟩)]<|.join (.bd fun ai aj=>.sp (fun ak=>.rg [(2,qh call165 (Z26.ok ae.f0 ai aj)),(4,hB ak)]<|.o [])
 (fun ak=>.bd fun al am=>.sp (fun ao=>.rg [(2,qh call165 (Z26.ok ae.f0 ai aj)),(4,hB ak),(7,qh call166 (Z4b.ok ae.f1 al am)),(10,hB ao)]<|.o [])
 (fun ao=>.sp (fun ap=>.el fun aq ar au=>.rg [(2,qh call165 (Z26.ok ae.f0 ai aj)),(4,hB ak),(7,qh call166 (Z4b.ok ae.f1 al am)),(10,hB ao),(13,hB ap),(17,hA Z2m ar au)]<|.o [])
 (fun ap=>.rg [(2,qh call165 (Z26.ok ae.f0 ai aj)),(4,hB ak),(7,qh call166 (Z4b.ok ae.f1 al am)),(10,hB ao),(13,hB ap)]<|.o []))))
 (.st .normal (fun av=>⟨[(0,im a0 Z2m),(8,im a0 Z2m),(9,qi (ln a0)),(10,qi ab),(39,bV av)],[],0⟩) fun av=>.cd (fun ax=>.r0<|.rv ⟨[(2,qi 26)],[],0⟩)
 (fun ax=>.r0<|.bk [] rfl)))
 (fun ac=>.o []))
 (.sm (.rt (fun rr=>qi rr) (fun rr=>[]))
 (.st (.exit 0) (fun _=>⟨[],[],0⟩) fun _=>.r0<|.rv ⟨[(2,qi 0)],[],0⟩))))
def Z0h.l0 (aa:ByteArray) (ab:List ByteArray):Option (((List Z0f)×Int) ⊕ (List ByteArray)):=if decide ((aa.size:Int)>0) then((chk (0≤(0:Int)∧(0:Int)<(aa.size:Int)))>>=fun _=>if decide ((i64.wrap (bt aa 0))>(i64.wrap ((aa.size:Int)-1))) then(some (.inl ([],6))) else((chk (0≤(1:Int)∧(1:Int)≤(i64.wrap ((1:Int)+(i64.wrap (bt aa 0))))∧(i64.wrap ((1:Int)+(i64.wrap (bt aa 0))))≤(aa.size:Int)))>>=fun _=>(chk ((ab.length+[aa.extract (1:Int).toNat ((i64.wrap ((1:Int)+(i64.wrap (bt aa 0))))).toNat].length)*16≤140737488355328))>>=fun _=>(chk (0≤(i64.wrap ((1:Int)+(i64.wrap (bt aa 0))))∧(i64.wrap ((1:Int)+(i64.wrap (bt aa 0))))≤(aa.size:Int)∧(aa.size:Int)≤(aa.size:Int)))>>=fun _=>Z0h.l0  (aa.extract ((i64.wrap ((1:Int)+(i64.wrap (bt aa 0))))).toNat (aa.size:Int).toNat) (ab++[aa.extract (1:Int).toNat ((i64.wrap ((1:Int)+(i64.wrap (bt aa 0))))).toNat]))) else(some (.inr ab))
partial_fixpoint
def Z0h.l1 (aa:List ByteArray) (ab:List Z0f) (ac:Int):Option (List Z0f):=if decide (ac<(aa.length:Int)) then((at? aa ac)>>=fun ae=>(at? aa (i64.wrap (ac+1)))>>=fun af=>(chk ((ab.length+[(⟨ae,af⟩:Z0f)].length)*32≤140737488355328))>>=fun _=>Z0h.l1 aa (ab++[(⟨ae,af⟩:Z0f)]) (i64.wrap (ac+2))) else(some ab)
partial_fixpoint
def Z0h.f (a0:ByteArray):Option ((List Z0f)×Int):=(Z0h.l0  a0 [])>>=fun | .inl rr=>(some rr) | .inr aa=>(if(Int.tmod (aa.length:Int) (2:Int))==1 then(some ([],6)) else((Z0h.l1 aa [] 0)>>=fun ab=>(Z2h.f ab)>>=fun ac=>if ac != 0 then(some ([],6)) else(some (ab,0))))
abbrev q3:=@RW _ 2 74 Z2m
abbrev q4:=@RW _ 1 9 qs
theorem Z0h.ok (a0:ByteArray):FN 49 [sV a0] [] 0 (Z0h.f a0) (fun r=>.tup [.own 0,qi r.2]) (fun r=>[q3 0 r.1]):=FT [0] func49 (.r0<|.r0<|.bl<|.loop (.c2 (Z0h.l0.partial_correctness )) (a0,[]) [] [] [2] (fun _=>.pr fun aa=>.one (fun ab=>⟨[(0,sV aa),(4,.own 2)],[q4 2 ab],0⟩) fun ab=>.r0<|.cd (fun ac=>.bl<|.ck fun ae=>.rg [(1,hN (p2 ae))]<|.r0<|.cd (fun af=>.r0<|.ret [] [] [0] ⟨[(2,.own 0),(3,qi 6)],[q3 0 []],0⟩)
 (fun af=>.ck fun ah=>.ck fun ai=>.rg [(4,hN (p3 ah)),(5,hQ 3 qs ([aa.extract (Int.toNat (1:Int)) (Int.toNat ((i64.wrap ((1:Int)+(i64.wrap (bt aa 0))))))]:List ByteArray)),(6,hP 4 qs 1 ai)]<|.ck fun aj=>.rg [(3,hN (p3 aj))]<|.bk [(4,2)] rfl))
 (fun ac=>.o [(2,5)]))
 (.sm (.rt (fun rr=>.tup [.own 0,qi rr.2]) (fun rr=>[q3 0 rr.1]))
 (.st (.exit 0) (fun ak=>⟨[(4,.own 5)],[q4 5 ak],0⟩) fun ak=>.rg [(1,hG qs ak),(2,hJ 2)]<|.cd (fun al=>.r0<|.ret [] [] [0] ⟨[(2,.own 0),(3,qi 6)],[q3 0 []],0⟩)
 (fun al=>.r0<|.r0<|.bl<|.loop (.c2 (Z0h.l1.partial_correctness ak)) ([],0) [(5,8)] [] [9] (fun _=>.pr fun am=>.one (fun ao=>⟨[(4,.own 8),(6,.own 9),(7,qi ao)],[q4 8 ak,q3 9 am],0⟩) fun ao=>.rg [(2,hG qs ak)]<|.cd (fun ap=>.bl<|.el fun aq ar au=>.el fun av ax az=>.ck fun ba=>.rg [(3,hX qs ar au),(4,hL qs au),(8,hX qs ax az),(9,hL qs az),(11,hQ 10 Z2m ([(⟨aq,av⟩:Z0f)]:List Z0f)),(12,hP 11 Z2m 2 ba)]<|.r0<|.bk [(8,8),(11,9)] rfl)
 (fun ap=>.o [(9,12)]))
 (.st (.exit 2) (fun bb=>⟨[(6,.own 12)],[q3 12 bb],0⟩) fun bb=>.bd fun bc be=>.rg [(1,h3 12 call96 (Z2h.ok bb bc be))]<|.cd (fun bf=>.r0<|.ret [] [] [0] ⟨[(2,.own 0),(3,qi 6)],[q3 0 []],0⟩)
 (fun bf=>.r0<|.ru [(12,0)] ⟨[(2,.own 0),(3,qi 0)],[q3 0 bb],0⟩))))))
def Z0m.f (a0:Int):Option Bool:=((if decide (a0≥(-4)) then(some (decide (a0≤8))) else(some false)):Option Bool)>>=fun aa=>some aa
theorem Z0m.ok (a0:Int):F0 175 [qi a0] (Z0m.f a0) (fun r=>bV r):=FT [] func175 (.r0<|.join (.sp (fun aa=>.rg [(2,hB aa)]<|.o [])
 (fun aa=>.rg [(2,hB aa)]<|.o []))
 (.st .normal (fun ab=>⟨[(2,bV ab)],[],0⟩) fun ab=>.rv ⟨[(2,bV ab)],[],0⟩))
def Z3t.f (a0:Int):Option Unit:=some ()
theorem Z3t.ok (a0:Int):F0 242 [qi a0] (Z3t.f a0) (fun r=>qu (u64.wrap (i64.wrap ((8:Int)-a0)))):=FT [] func242 (.r0<|.r0<|.rv ⟨[(2,qu (u64.wrap (i64.wrap ((8:Int)-a0))))],[],0⟩)
def Z3m.f (a0:Int):Option Int:=(Z0m.f a0)>>=fun aa=>if !aa then(some 0) else((Z3t.f a0)>>=fun ab=>(chk (0≤(u64.wrap (i64.wrap ((8:Int)-a0)))))>>=fun _=>some (Int.fdiv (262144:Int) (2 ^ (min (u64.wrap (i64.wrap ((8:Int)-a0))).toNat 64))))
theorem Z3m.ok (a0:Int):F0 233 [qi a0] (Z3m.f a0) (fun r=>qi r):=FT [] func233 (.r0<|.bd fun aa ab=>.rg [(1,qh call175 (Z0m.ok a0 aa ab))]<|.cd (fun ac=>.r0<|.rv ⟨[(2,qi 0)],[],0⟩)
 (fun ac=>.bd fun ae af=>.ck fun ah=>.rg [(1,qh call242 (Z3t.ok a0 ae af)),(2,hN (p1 ah))]<|.rv ⟨[(2,qi (Int.fdiv (262144:Int) (2 ^ (min (Int.toNat (u64.wrap (i64.wrap ((8:Int)-a0)))) 64))))],[],0⟩))
def Z4c.f (a0:Int):Option Int:=(Z3m.f a0)>>=fun aa=>some (i64.wrap ((i64.wrap (0-aa))+1))
theorem Z4c.ok (a0:Int):F0 232 [qi a0] (Z4c.f a0) (fun r=>qi r):=FT [] func232 (.r0<|.bd fun aa ab=>.rg [(1,qh call233 (Z3m.ok a0 aa ab))]<|.rv ⟨[(2,qi (i64.wrap ((i64.wrap (0-aa))+1)))],[],0⟩)
def Z53.f (a0 a1:Int):Option Bool:=(((Z0m.f a0)>>=fun aa=>if aa=true then((Z4c.f a0)>>=fun ab=>if decide (a1≥ab) then((Z3m.f a0)>>=fun ac=>some (decide (a1≤ac))) else(some false)) else(some false)):Option Bool)>>=fun ae=>some ae
theorem Z53.ok (a0 a1:Int):F0 211 [qi a0,qi a1] (Z53.f a0 a1) (fun r=>bV r):=FT [] func211 (.r0<|.join (.bd fun aa ab=>.sp (fun ac=>.bd fun ae af=>.sp (fun ah=>.bd fun ai aj=>.rg [(1,qh call175 (Z0m.ok a0 aa ab)),(2,hB ac),(5,qh call232 (Z4c.ok a0 ae af)),(8,hB ah),(11,qh call233 (Z3m.ok a0 ai aj))]<|.o [])
 (fun ah=>.rg [(1,qh call175 (Z0m.ok a0 aa ab)),(2,hB ac),(5,qh call232 (Z4c.ok a0 ae af)),(8,hB ah)]<|.o []))
 (fun ac=>.rg [(1,qh call175 (Z0m.ok a0 aa ab)),(2,hB ac)]<|.o []))
 (.st .normal (fun ak=>⟨[(4,bV ak)],[],0⟩) fun ak=>.rv ⟨[(4,bV ak)],[],0⟩))
def Z22.f (a0 a1:Int):Option Int:=(Z0m.f a0)>>=fun aa=>if !aa then(some 0) else((Z3t.f a0)>>=fun ab=>(chk (0≤(u64.wrap (i64.wrap ((8:Int)-a0)))))>>=fun _=>some (i64.wrap (a1*2 ^ (min (u64.wrap (i64.wrap ((8:Int)-a0))).toNat 64))))
theorem Z22.ok (a0 a1:Int):F0 234 [qi a0,qi a1] (Z22.f a0 a1) (fun r=>qi r):=FT [] func234 (.r0<|.bd fun aa ab=>.rg [(1,qh call175 (Z0m.ok a0 aa ab))]<|.cd (fun ac=>.r0<|.rv ⟨[(4,qi 0)],[],0⟩)
 (fun ac=>.bd fun ae af=>.ck fun ah=>.rg [(2,qh call242 (Z3t.ok a0 ae af)),(3,hN (p1 ah))]<|.rv ⟨[(4,qi (i64.wrap (a1*2 ^ (min (Int.toNat (u64.wrap (i64.wrap ((8:Int)-a0)))) 64))))],[],0⟩))
def Z46.f (a0 a1:Int):Option Int:=(Z22.f a0 (i64.wrap (a1-1)))>>=fun aa=>some aa
theorem Z46.ok (a0 a1:Int):F0 212 [qi a0,qi a1] (Z46.f a0 a1) (fun r=>qi r):=FT [] func212 (.r0<|.bd fun aa ab=>.rg [(3,qh call234 (Z22.ok a0 (i64.wrap (a1-1)) aa ab))]<|.rv ⟨[(4,qi aa)],[],0⟩)
def Zt.l0 (a0:Zh) (a1:List Z0) (aa:Int):Option (Int ⊕ Unit):=if decide (aa<(a1.length:Int)) then((at? a1 aa)>>=fun ab=>(Z53.f a0.f1 ab.f0)>>=fun ac=>if !ac then(some (.inl 4)) else(((if decide (aa>0) then((at? a1 (i64.wrap (aa-1)))>>=fun ae=>some (decide (ae.f0≥ab.f0))) else(some false)):Option Bool)>>=fun af=>if af=true then(some (.inl 32)) else(if ab.f1==0 then(some (.inl 21)) else((Z46.f a0.f1 ab.f0)>>=fun ah=>if decide (ah<a0.f2) then(some (.inl 31)) else(Zt.l0 a0 a1 (i64.wrap (aa+1))))))) else(some (.inr ()))
partial_fixpoint
def Zt.f (a0:Zh) (a1:List Z0):Option Int:=if decide ((a1.length:Int)>512) then(some 9) else((Zt.l0 a0 a1 0)>>=fun | .inl rr=>(some rr) | .inr _=>(some 0))
abbrev w1_ (k:Nat) (x:Zh):Nat×Option MObj:=BW 50 Z4l k x
abbrev w2_ (k:Nat) (x:Z0):Nat×Option MObj:=BW 193 aBucket k x
theorem Zt.ok (a0:Zh) (a1:List Z0):F0 176 [.agg (Z4l a0),.im (.row (a1.map Z4))] (Zt.f a0 a1) (fun r=>qi r):=FT [] func176 (.rg [(0,⟨.k 0,.n⟩)]<|.rg [(1,hG Z4 a1)]<|.cd (fun aa=>.r0<|.rv ⟨[(4,qi 9)],[],0⟩)
 (fun aa=>.rg [(1,hG Z4 a1)]<|.bl<|.lq (.one (Zt.l0.partial_correctness a0 a1)) 0 [(0,2)] (fun _=>.one (fun ab=>⟨[(1,im a1 Z4),(2,.ptr 2 0 0),(10,im a1 Z4),(11,qi (ln a1)),(12,qi ab)],[w1_ 2 a0],0⟩) fun ab=>.r0<|.cd (fun ac=>.bl<|.el fun ae af ah=>.rg [(1,hA Z4 af ah),(3,⟨.k 3,.n⟩)]<|.bl<|.bd fun ai aj=>.rg [(4,qh call211 (Z53.ok a0.f1 ae.f0 ai aj))]<|.cd (fun ak=>.r0<|.rv ⟨[(4,qi 4)],[],0⟩)
 (fun ak=>.join (.sp (fun al=>.el fun am ao ap=>.rg [(2,hB al),(6,hA Z4 ao ap)]<|.o [(2,4),(3,5)])
 (fun al=>.rg [(2,hB al)]<|.o [(2,4),(3,5)]))
 (.st .normal (fun aq=>⟨[(1,im a1 Z4),(2,.ptr 4 0 0),(6,.ptr 5 0 0),(10,im a1 Z4),(11,qi (ln a1)),(12,qi ab),(24,bV aq)],[w1_ 4 a0,w2_ 5 ae],0⟩) fun aq=>.cd (fun ar=>.r0<|.rv ⟨[(4,qi 32)],[],0⟩)
 (fun ar=>.r0<|.cd (fun au=>.r0<|.rv ⟨[(4,qi 21)],[],0⟩)
 (fun au=>.bd fun av ax=>.rg [(4,qh call212 (Z46.ok a0.f1 ae.f0 av ax))]<|.cd (fun az=>.r0<|.rv ⟨[(4,qi 31)],[],0⟩)
 (fun az=>.r0<|.bk [(4,2)] rfl))))))
 (fun ac=>.o []))
 (.sm (.rt (fun rr=>qi rr) (fun rr=>[]))
 (.st (.exit 0) (fun _=>⟨[],[],0⟩) fun _=>.r0<|.rv ⟨[(4,qi 0)],[],0⟩))))
def Z3f.l0 (a0:List Int) (aa ab:Int):Option ((Int×Int) ⊕ Int):=if decide (ab<(a0.length:Int)) then((at? a0 ab)>>=fun ac=>(chk (0≤aa∧0≤ac∧0≤(0:Int)∧(0:Int)≤1))>>=fun _=>if((aa+ac+0) / 18446744073709551616) != 0 then(some (.inl (0,5))) else(Z3f.l0 a0 ((aa+ac+0) % 18446744073709551616) (i64.wrap (ab+1)))) else(some (.inr aa))
partial_fixpoint
def Z3f.f (a0:List Int):Option (Int×Int):=(Z3f.l0 a0 0 0)>>=fun | .inl rr=>(some rr) | .inr aa=>(some (aa,0))
theorem Z3f.ok (a0:List Int):F0 213 [.im (.row (a0.map qv))] (Z3f.f a0) (fun r=>.tup [qu r.1,qi r.2]):=FT [] func213 (.r0<|.r0<|.rg [(1,hG qv a0)]<|.bl<|.lq (.c2 (Z3f.l0.partial_correctness a0)) (0,0) [] (fun _=>.pr fun aa=>.one (fun ab=>⟨[(4,qu aa),(9,im a0 qv),(10,qi (ln a0)),(11,qi ab)],[],0⟩) fun ab=>.r0<|.cd (fun ac=>.bl<|.el fun ae af ah=>.rg [(0,hA qv af ah)]<|.ck fun ai=>.rg [(2,⟨.ext (.tup [qu ((aa+ae+0) % 18446744073709551616),qu ((aa+ae+0) / 18446744073709551616)]),.c (p:=∀ w,(callFunc 235 ([.int .u64 aa,.int .u64 ae,.int .u64 (0:Int)]:List Value).toArray).run Tryz.prog w = .ok (.value (.tuple #[.int .u64 ((aa+ae+0) % 18446744073709551616),.int .u64 ((aa+ae+0) / 18446744073709551616)])) w) (fun w=>x_add64 (fn:=Tryz.f235) func235 (by kernel_rfl) rfl (by kernel_rfl) (by kernel_rfl) ai w) .n⟩)]<|.r0<|.cd (fun aj=>.r0<|.rv ⟨[(2,qu 0),(3,qi 5)],[],0⟩)
 (fun aj=>.r0<|.r0<|.bk [] rfl))
 (fun ac=>.o []))
 (.sm (.rt (fun rr=>.tup [qu rr.1,qi rr.2]) (fun rr=>[]))
 (.st (.exit 0) (fun ak=>⟨[(4,qu ak)],[],0⟩) fun ak=>.r0<|.rv ⟨[(2,qu ak),(3,qi 0)],[],0⟩)))
def Z17.l1 (a0:List (List Z0)) (aa:List Z0) (ab ac ae:Int):Option ((Int×Int) ⊕ Int):=if decide (ae<(aa.length:Int)) then((at? aa ae)>>=fun af=>(Z3f.f [ac,af.f1])>>=fun ah=>if ah.2 != 0 then(some (.inl (0,ah.2))) else(Z17.l1 a0 aa ab ah.1 (i64.wrap (ae+1)))) else(some (.inr ac))
partial_fixpoint
def Z17.l0 (a0:List (List Z0)) (aa ab:Int):Option ((Int×Int) ⊕ Int):=if decide (ab<(a0.length:Int)) then((at? a0 ab)>>=fun ac=>(Z17.l1 a0 ac ab aa 0)>>=fun | .inl rr=>(some (.inl rr)) | .inr ae=>(Z17.l0 a0 ae (i64.wrap (ab+1)))) else(some (.inr aa))
partial_fixpoint
def Z17.f (a0:List (List Z0)):Option (Int×Int):=(Z17.l0 a0 0 0)>>=fun | .inl rr=>(some rr) | .inr aa=>(some (aa,0))
theorem Z17.ok (a0:List (List Z0)):F0 177 [.im (.row (a0.map (Z0x Z4)))] (Z17.f a0) (fun r=>.tup [qu r.1,qi r.2]):=FT [] func177 (.r0<|.r0<|.rg [(1,hG (Z0x Z4) a0)]<|.bl<|.lq (.c2 (Z17.l0.partial_correctness a0)) (0,0) [] (fun _=>.pr fun aa=>.one (fun ab=>⟨[(4,qu aa),(10,im a0 (Z0x Z4)),(11,qi (ln a0)),(12,qi ab)],[],0⟩) fun ab=>.r0<|.cd (fun ac=>.bl<|.el fun ae af ah=>.rg [(0,hA (Z0x Z4) af ah)]<|.rg [(1,hG Z4 ae)]<|.bl<|.lq (.c2 (Z17.l1.partial_correctness a0 ae ab)) (aa,0) [] (fun _=>.pr fun ai=>.one (fun aj=>⟨[(4,qu ai),(10,im a0 (Z0x Z4)),(11,qi (ln a0)),(12,qi ab),(16,im ae Z4),(17,qi (ln ae)),(18,qi aj)],[],0⟩) fun aj=>.r0<|.cd (fun ak=>.bl<|.el fun al am ao=>.rg [(0,hA Z4 am ao),(2,⟨.k 6,.n⟩)]<|.r0<|.bd fun ap aq=>.rg [(3,hQ 7 qv ([ai,al.f1]:List Int)),(4,h3 7 call213 (Z3f.ok [ai,al.f1] ap aq))]<|.r0<|.cd (fun ar=>.r0<|.rv ⟨[(2,qu 0),(3,qi ap.2)],[],0⟩)
 (fun ar=>.r0<|.bk [] rfl))
 (fun ak=>.o []))
 (.sm (.rt (fun rr=>.tup [qu rr.1,qi rr.2]) (fun rr=>[]))
 (.st (.exit 2) (fun au=>⟨[(4,qu au),(10,im a0 (Z0x Z4)),(11,qi (ln a0)),(12,qi ab)],[],0⟩) fun au=>.r0<|.bk [] rfl)))
 (fun ac=>.o []))
 (.sm (.rt (fun rr=>.tup [qu rr.1,qi rr.2]) (fun rr=>[]))
 (.st (.exit 0) (fun av=>⟨[(4,qu av)],[],0⟩) fun av=>.r0<|.rv ⟨[(2,qu av),(3,qi 0)],[],0⟩)))
def Z0d.l0 (a0:Zh) (aa:Int):Option (Int ⊕ Unit):=if decide (aa<2) then((((chk (0≤aa∧aa<2))>>=fun _=>if aa==0 then(some a0.f6) else(some a0.f7)):Option (List Z0))>>=fun ab=>(Zt.f a0 ab)>>=fun ac=>if ac != 0 then(some (.inl ac)) else(Z0d.l0 a0 (i64.wrap (aa+1)))) else(some (.inr ()))
partial_fixpoint
def Z0d.f (a0:Zh):Option Int:=((if a0.f0 != 0 then(some (a0.f0 != 1)) else(some false)):Option Bool)>>=fun aa=>if aa=true then(some 25) else((Z0m.f a0.f1)>>=fun ab=>if !ab then(some 20) else(((if a0.f2 != (-524288) then(if decide (a0.f2≤(-262144)) then(some true) else(some (decide (a0.f2>262144)))) else(some false)):Option Bool)>>=fun ac=>if ac=true then(some 31) else((Z0d.l0 a0 0)>>=fun | .inl rr=>(some rr) | .inr _=>((Z17.f [a0.f6,a0.f7,[(⟨0,a0.f3⟩:Z0)]])>>=fun ae=>if ae.2 != 0 then(some ae.2) else(if ae.1 != a0.f4 then(some 21) else(some 0))))))
theorem Z0d.ok (a0:Zh):F0 108 [.agg (Z4l a0)] (Z0d.f a0) (fun r=>qi r):=FT [] func108 (.rg [(0,⟨.k 0,.n⟩)]<|.bl<|.join (.sp (fun aa=>.rg [(3,hB aa)]<|.o [(0,1)])
 (fun aa=>.rg [(3,hB aa)]<|.o [(0,1)]))
 (.st .normal (fun ab=>⟨[(1,.ptr 1 0 0),(8,bV ab)],[w1_ 1 a0],0⟩) fun ab=>.cd (fun ac=>.r0<|.rv ⟨[(2,qi 25)],[],0⟩)
 (fun ac=>.bd fun ae af=>.rg [(2,qh call175 (Z0m.ok a0.f1 ae af))]<|.cd (fun ah=>.r0<|.rv ⟨[(2,qi 20)],[],0⟩)
 (fun ah=>.join (.sp (fun ai=>.sp (fun aj=>.rg [(3,hB ai),(7,hB aj)]<|.o [(1,2)])
 (fun aj=>.rg [(3,hB ai),(7,hB aj)]<|.o [(1,2)]))
 (fun ai=>.rg [(3,hB ai)]<|.o [(1,2)]))
 (.st .normal (fun ak=>⟨[(1,.ptr 2 0 0),(22,bV ak)],[w1_ 2 a0],0⟩) fun ak=>.cd (fun al=>.r0<|.rv ⟨[(2,qi 31)],[],0⟩)
 (fun al=>.r0<|.bl<|.lq (.one (Z0d.l0.partial_correctness a0)) 0 [(2,3)] (fun _=>.one (fun am=>⟨[(1,.ptr 3 0 0),(40,.agg [im a0.f6 Z4,im a0.f7 Z4]),(41,qi am)],[w1_ 3 a0],0⟩) fun am=>.r0<|.cd (fun ao=>.bl<|.join (.ck fun ap=>.sp (fun aq=>.rg [(0,⟨.more (xIdx 0),.c (p:=am=((0:Nat):Int)) (by simpa using aq) .n⟩)]<|.o [(3,4)])
 (fun aq=>.rg [(0,⟨.more (xIdx 1),.c (p:=am=((1:Nat):Int)) (by have:=ap;simp only[beq_eq_false_iff_ne] at *;omega) .n⟩)]<|.o [(3,4)]))
 (.st .normal (fun ar=>⟨[(1,.ptr 4 0 0),(4,im ar Z4),(40,.agg [im a0.f6 Z4,im a0.f7 Z4]),(41,qi am)],[w1_ 4 a0],0⟩) fun ar=>.bd fun au av=>.rg [(2,qh call176 (Zt.ok a0 ar au av))]<|.r0<|.cd (fun ax=>.r0<|.rv ⟨[(2,qi au)],[],0⟩)
 (fun ax=>.r0<|.bk [(4,3)] rfl)))
 (fun ao=>.o [(3,5)]))
 (.sm (.rt (fun rr=>qi rr) (fun rr=>[]))
 (.st (.exit 1) (fun _=>⟨[(1,.ptr 5 0 0)],[w1_ 5 a0],0⟩) fun _=>.bd fun az ba=>.rg [(7,fzI (hQ 6 Z4 ([(⟨0,a0.f3⟩:Z0)]:List Z0))),(8,hQ 7 (Z0x Z4) ([a0.f6,a0.f7,[(⟨0,a0.f3⟩:Z0)]]:List (List Z0))),(9,h3 7 call177 (Z17.ok [a0.f6,a0.f7,[(⟨0,a0.f3⟩:Z0)]] az ba))]<|.bl<|.r0<|.cd (fun bb=>.r0<|.rv ⟨[(2,qi az.2)],[],0⟩)
 (fun bb=>.r0<|.cd (fun bc=>.r0<|.rv ⟨[(2,qi 21)],[],0⟩)
 (fun bc=>.r0<|.rv ⟨[(2,qi 0)],[],0⟩))))))))))
def Z1g.l0 (a0:List Z6) (aa:Int):Option (Bool ⊕ Unit):=if decide (aa<(a0.length:Int)) then((at? a0 aa)>>=fun ab=>((if decide (ab.f0<0) then(some true) else(if decide (ab.f0>1099511627776) then(some true) else((Z0d.f ab.f1)>>=fun ac=>if ac != 0 then(some true) else(if decide (aa>0) then((at? a0 (i64.wrap (aa-1)))>>=fun ae=>some (decide (ae.f0≥ab.f0))) else(some false))))):Option Bool)>>=fun af=>if af=true then(some (.inl false)) else(Z1g.l0 a0 (i64.wrap (aa+1)))) else(some (.inr ()))
partial_fixpoint
def Z1g.f (a0:List Z6):Option Bool:=(Z1g.l0 a0 0)>>=fun | .inl rr=>(some rr) | .inr _=>(some true)
theorem Z1g.ok (a0:List Z6):F0 56 [.im (.row (a0.map Z5))] (Z1g.f a0) (fun r=>bV r):=FT [] func56 (.r0<|.rg [(1,hG Z5 a0)]<|.bl<|.lq (.one (Z1g.l0.partial_correctness a0)) 0 [] (fun _=>.one (fun aa=>⟨[(0,im a0 Z5),(5,im a0 Z5),(6,qi (ln a0)),(7,qi aa)],[],0⟩) fun aa=>.r0<|.cd (fun ab=>.bl<|.el fun ac ae af=>.rg [(1,hA Z5 ae af),(3,⟨.k 1,.n⟩)]<|.join (.sp (fun ah=>.rg [(3,hB ah)]<|.o [])
 (fun ah=>.sp (fun ai=>.rg [(3,hB ah),(8,hB ai)]<|.o [])
 (fun ai=>.bd fun aj ak=>.sp (fun al=>.rg [(3,hB ah),(8,hB ai),(11,qh call108 (Z0d.ok ac.f1 aj ak)),(14,hB al)]<|.o [])
 (fun al=>.sp (fun am=>.el fun ao ap aq=>.rg [(3,hB ah),(8,hB ai),(11,qh call108 (Z0d.ok ac.f1 aj ak)),(14,hB al),(17,hB am),(21,hA Z5 ap aq)]<|.o [])
 (fun am=>.rg [(3,hB ah),(8,hB ai),(11,qh call108 (Z0d.ok ac.f1 aj ak)),(14,hB al),(17,hB am)]<|.o [])))))
 (.st .normal (fun ar=>⟨[(0,im a0 Z5),(5,im a0 Z5),(6,qi (ln a0)),(7,qi aa),(40,bV ar)],[],0⟩) fun ar=>.cd (fun au=>.r0<|.rv ⟨[(2,bV false)],[],0⟩)
 (fun au=>.r0<|.bk [] rfl)))
 (fun ab=>.o []))
 (.sm (.rt (fun rr=>bV rr) (fun rr=>[]))
 (.st (.exit 0) (fun _=>⟨[],[],0⟩) fun _=>.r0<|.rv ⟨[(2,bV true)],[],0⟩)))
def Z23.l0 (a0:Z2) (aa:Int):Option (Int ⊕ Unit):=if decide (aa<(a0.f1.length:Int)) then((at? a0.f1 aa)>>=fun ab=>(Z0h.f ab.f0)>>=fun ac=>((if ac.2 != 0 then(some true) else(if decide (aa>0) then((at? a0.f1 (i64.wrap (aa-1)))>>=fun ae=>some (!Op.bytesLess ae.f0.toList ab.f0.toList)) else(some false))):Option Bool)>>=fun af=>if af=true then(some (.inl 26)) else(((if(ab.f1.length:Int)==0 then(some true) else((Z1g.f ab.f1)>>=fun ah=>if !ah then(some true) else((at? ab.f1 0)>>=fun ai=>if decide (ai.f0<a0.f0.f0) then(some true) else((at? ab.f1 (i64.wrap ((ab.f1.length:Int)-1)))>>=fun aj=>some (decide (aj.f0≥a0.f0.f1)))))):Option Bool)>>=fun ak=>if ak=true then(some (.inl 22)) else(Z23.l0 a0 (i64.wrap (aa+1))))) else(some (.inr ()))
partial_fixpoint
def Z23.f (a0:Z2):Option Int:=(Z5a.f a0.f0)>>=fun aa=>if !aa then(some 4) else(((if(a0.f1.length:Int)==0 then(some true) else(some (decide ((a0.f1.length:Int)>64)))):Option Bool)>>=fun ab=>if ab=true then(some 9) else((Z23.l0 a0 0)>>=fun | .inl rr=>(some rr) | .inr _=>(some 0)))
abbrev v0_ (k:Nat) (x:List AVal):Nat×Option MObj:=BX 36 k x
abbrev w3_ (k:Nat) (x:Zp):Nat×Option MObj:=BW 30 Z4k k x
theorem Z23.ok (a0:Z2):F0 19 [.agg (Z5c ⟨a0.f0.f0,a0.f0.f1,a0.f0.f2,a0.f1⟩)] (Z23.f a0) (fun r=>qi r):=FT [] func19 (.rg [(0,⟨.k 0,.n⟩)]<|.bd fun aa ab=>.rg [(2,qh call55 (Z5a.ok a0.f0 aa ab))]<|.cd (fun ac=>.r0<|.rv ⟨[(2,qi 4)],[],0⟩)
 (fun ac=>.join (.sp (fun ae=>.rg [(2,hG Za a0.f1),(4,hB ae)]<|.o [(0,1)])
 (fun ae=>.rg [(2,hG Za a0.f1),(4,hB ae),(7,hG Za a0.f1)]<|.o [(0,1)]))
 (.st .normal (fun af=>⟨[(1,.ptr 1 0 0),(21,bV af)],[v0_ 1 [qi a0.f0.f0,qi a0.f0.f1,qi a0.f0.f2,im a0.f1 Za]],0⟩) fun af=>.cd (fun ah=>.r0<|.rv ⟨[(2,qi 9)],[],0⟩)
 (fun ah=>.rg [(2,hG Za a0.f1)]<|.bl<|.lq (.one (Z23.l0.partial_correctness a0)) 0 [(1,7)] (fun _=>.one (fun ai=>⟨[(1,.ptr 7 0 0),(23,im a0.f1 Za),(24,qi (ln a0.f1)),(25,qi ai)],[v0_ 7 [qi a0.f0.f0,qi a0.f0.f1,qi a0.f0.f2,im a0.f1 Za]],0⟩) fun ai=>.r0<|.cd (fun aj=>.bl<|.el fun ak al am=>.rg [(1,hA Za al am),(3,⟨.k 8,.n⟩)]<|.bd fun ao ap=>.rg [(2,h1 9 call49 (Z0h.ok ak.f0 ao ap))]<|.join (.sp (fun aq=>.rg [(2,hB aq)]<|.o [(7,10),(8,11)])
 (fun aq=>.sp (fun ar=>.el fun au av ax=>.rg [(2,hB aq),(5,hB ar),(10,hA Za av ax)]<|.o [(7,10),(8,11)])
 (fun ar=>.rg [(2,hB aq),(5,hB ar)]<|.o [(7,10),(8,11)])))
 (.st .normal (fun az=>⟨[(1,.ptr 10 0 0),(4,.ptr 11 0 0),(23,im a0.f1 Za),(24,qi (ln a0.f1)),(25,qi ai),(53,bV az)],[v0_ 10 [qi a0.f0.f0,qi a0.f0.f1,qi a0.f0.f2,im a0.f1 Za],w3_ 11 ak],0⟩) fun az=>.cd (fun ba=>.r0<|.rv ⟨[(2,qi 26)],[],0⟩)
 (fun ba=>.rg [(2,hG Z5 ak.f1)]<|.join (.sp (fun bb=>.rg [(2,hB bb)]<|.o [(10,12)])
 (fun bb=>.bd fun bc be=>.sp (fun bf=>.rg [(2,hB bb),(5,qh call56 (Z1g.ok ak.f1 bc be)),(8,hB bf)]<|.o [(10,12)])
 (fun bf=>.el fun bg bh bi=>.sp (fun bj=>.rg [(2,hB bb),(5,qh call56 (Z1g.ok ak.f1 bc be)),(8,hB bf),(11,hA Z5 bh bi),(19,hB bj)]<|.o [(10,12)])
 (fun bj=>.el fun bn bo bp=>.rg [(2,hB bb),(5,qh call56 (Z1g.ok ak.f1 bc be)),(8,hB bf),(11,hA Z5 bh bi),(19,hB bj),(24,hA Z5 bo bp)]<|.o [(10,12)]))))
 (.st .normal (fun bq=>⟨[(1,.ptr 12 0 0),(23,im a0.f1 Za),(24,qi (ln a0.f1)),(25,qi ai),(88,bV bq)],[v0_ 12 [qi a0.f0.f0,qi a0.f0.f1,qi a0.f0.f2,im a0.f1 Za]],0⟩) fun bq=>.cd (fun br=>.r0<|.rv ⟨[(2,qi 22)],[],0⟩)
 (fun br=>.r0<|.bk [(12,7)] rfl)))))
 (fun aj=>.o []))
 (.sm (.rt (fun rr=>qi rr) (fun rr=>[]))
 (.st (.exit 0) (fun _=>⟨[],[],0⟩) fun _=>.r0<|.rv ⟨[(2,qi 0)],[],0⟩))))))
noncomputable def Z2p.f  : Option Bool:=(Z1c.f [(⟨(⟨#[97]⟩:ByteArray),(⟨#[120]⟩:ByteArray)⟩:Z0f)])>>=fun aa=>(Zb.f 0 [(⟨aa,[(⟨0,(⟨0,0,(-524288),0,0,0,[],[]⟩:Zh)⟩:Z6),(⟨63,(⟨0,0,(-524288),0,0,0,[],[]⟩:Zh)⟩:Z6),(⟨64,(⟨0,0,(-524288),0,0,0,[],[]⟩:Zh)⟩:Z6)]⟩:Zp)])>>=fun ab=>((if(ab.length:Int)==2 then((at? ab 0)>>=fun ac=>if ac.f0.f0==0 then((at? ab 1)>>=fun ae=>if ae.f0.f0==64 then((Z23.f ac)>>=fun af=>some (af==0)) else(some false)) else(some false)) else(some false)):Option Bool)>>=fun ah=>some ah
theorem Z2p.ok  : F0 8 [] (Z2p.f ) (fun r=>bV r):=FT [] func8 (.r0<|.rg [(1,⟨.k 0,.n⟩)]<|.bd fun aa ab=>.bd fun ac ae=>.rg [(1,hQ 1 Z2m ([(⟨(⟨#[97]⟩:ByteArray),(⟨#[120]⟩:ByteArray)⟩:Z0f)]:List Z0f)),(2,h3 1 call27 (Z1c.ok [(⟨(⟨#[97]⟩:ByteArray),(⟨#[120]⟩:ByteArray)⟩:Z0f)] aa ab)),(9,fzI (hQ 2 Z5 ([(⟨0,(⟨0,0,(-524288),0,0,0,[],[]⟩:Zh)⟩:Z6),(⟨63,(⟨0,0,(-524288),0,0,0,[],[]⟩:Zh)⟩:Z6),(⟨64,(⟨0,0,(-524288),0,0,0,[],[]⟩:Zh)⟩:Z6)]:List Z6))),(11,hQ 3 Za ([(⟨aa,[(⟨0,(⟨0,0,(-524288),0,0,0,[],[]⟩:Zh)⟩:Z6),(⟨63,(⟨0,0,(-524288),0,0,0,[],[]⟩:Zh)⟩:Z6),(⟨64,(⟨0,0,(-524288),0,0,0,[],[]⟩:Zh)⟩:Z6)]⟩:Zp)]:List Zp)),(12,hC [] [(0,4)] [3] [4] call9 (Zb.ok 0 [(⟨aa,[(⟨0,(⟨0,0,(-524288),0,0,0,[],[]⟩:Zh)⟩:Z6),(⟨63,(⟨0,0,(-524288),0,0,0,[],[]⟩:Zh)⟩:Z6),(⟨64,(⟨0,0,(-524288),0,0,0,[],[]⟩:Zh)⟩:Z6)]⟩:Zp)] ac ae))]<|.join (.sp (fun af=>.el fun ah ai aj=>.sp (fun ak=>.el fun al am ao=>.sp (fun ap=>.bd fun aq ar=>.rg [(1,hG Zo ac),(3,hB af),(5,hX Zo ai aj),(8,hL Zo aj),(11,hB ak),(13,hX Zo am ao),(16,hL Zo ao),(19,hB ap),(21,hX Zo ai aj),(22,hL Zo aj),(23,qh call19 (Z23.ok ah aq ar))]<|.o [])
 (fun ap=>.rg [(1,hG Zo ac),(3,hB af),(5,hX Zo ai aj),(8,hL Zo aj),(11,hB ak),(13,hX Zo am ao),(16,hL Zo ao),(19,hB ap)]<|.o []))
 (fun ak=>.rg [(1,hG Zo ac),(3,hB af),(5,hX Zo ai aj),(8,hL Zo aj),(11,hB ak)]<|.o []))
 (fun af=>.rg [(1,hG Zo ac),(3,hB af)]<|.o []))
 (.st .normal (fun au=>⟨[(0,bV au)],[],0⟩) fun au=>.rv ⟨[(0,bV au)],[],0⟩))
def Z1t.l0 (a0:List Int) (aa ab:Int):Option Int:=if decide (ab≥0) then((at? a0 ab)>>=fun ac=>Z1t.l0 a0 (u32.wrap (((BitVec.toNat (BitVec.ofInt 32 (u32.wrap (aa*256)) ||| BitVec.ofInt 32 (u32.wrap (ac))):Nat):Int))) (i64.wrap (ab-1))) else(some aa)
partial_fixpoint
def Z1t.f (a0:List Int):Option Int:=(Z1t.l0 a0 0 (i64.wrap ((if(4:Int)<(a0.length:Int) then(4:Int) else(a0.length:Int))-1)))>>=fun aa=>some aa
theorem Z1t.ok (a0:List Int):F0 109 [.im (.row (a0.map qb))] (Z1t.f a0) (fun r=>iV .u32 r):=FT [] func109 (.r0<|.r0<|.rg [(1,hG qb a0),(2,⟨.more xMin,.n⟩)]<|.bl<|.lq (.c2 (Z1t.l0.partial_correctness a0)) (0,i64.wrap ((if(4:Int)<(ln a0) then(4:Int) else(ln a0))-1)) [] (fun _=>.pr fun aa=>.one (fun ab=>⟨[(0,im a0 qb),(3,iV .u32 aa),(4,qi ab)],[],0⟩) fun ab=>.r0<|.cd (fun ac=>.bl<|.el fun ae af ah=>.rg [(1,hK 8),(4,hA qb af ah)]<|.r0<|.bk [] rfl)
 (fun ac=>.o []))
 (.st (.exit 0) (fun ai=>⟨[(3,iV .u32 ai)],[],0⟩) fun ai=>.r0<|.rv ⟨[(2,iV .u32 ai)],[],0⟩))
def Zaf.f:Option (List Int):=some crcT
abbrev v1_ (k:Nat) (x:List AVal):Nat×Option MObj:=BX 230 k x
theorem Zaf.ok (r:List Int) (H:Zaf.f=some r):Pv.Fn Tryz.prog 174 [] [] 0 (fun x o=>x = .agg (r.map (iV .u32))∧o=[]):=by
 obtain rfl:=sj (show some crcT=some r from H);refine Fn.bodyK [] func174 rfl rfl (fun Γ hP hn => ?_);have hm:Tryz.prog.follows .mixedOrders=true:=by kernel_rfl
 replace hn:Γ.n=25:=hn;refine sO hP hn hm [(0,.k 10)] [(0,.ptr 10 0 0)] [0] [v1_ 10 ((List.replicate 256 0).map (iV .u32))] [10] ?_;refine sO hP hn hm [(0,.k 11)] [(1,.ptr 11 0 0)] [0,1] [v1_ 11 ((crcP 0).map (iV .u32))] [10,11] ?_;refine AWp.seq ?_;refine sO hP hn hm [] [(4,qi ((0:Nat):Int))] [0,1,4] [] [10,11] ?_;refine AWp.block ?_;refine AWp.loop (LWp.mono (Q:=fun e s=>e = .exit 0∧s=⟨[(0,.ptr 10 0 0),(1,.ptr 11 0 0),(5,bV false)],[v1_ 10 ((List.replicate 256 0).map (iV .u32)),v1_ 11 (crcT.map (iV .u32))],0⟩) (Z8e (fun body0 hbody0 => ?_)) ?_)
 ·have main0:∀ m n,n+m=256→LWp Γ body0 (fun e s=>e = .exit 0∧s=⟨[(0,.ptr 10 0 0),(1,.ptr 11 0 0),(5,bV false)],[v1_ 10 ((List.replicate 256 0).map (iV .u32)),v1_ 11 (crcT.map (iV .u32))],0⟩) ⟨[(0,.ptr 10 0 0),(1,.ptr 11 0 0),(4,qi ((n:Nat):Int))],[v1_ 10 ((List.replicate 256 0).map (iV .u32)),v1_ 11 ((crcP n).map (iV .u32))],0⟩:=by
   intro m
   induction m with
   | zero =>
    intro n hn1;obtain rfl:n=256:=by omega
    subst hbody0;refine LWp.round ?_;refine sO hP hn hm [] [(5,bV false)] [0,1,5] [] [10,11] ?_;refine AWp.seq ?_;refine AWp.cond false (by kernel_rfl) (fun h=>nomatch h) (fun _ => ?_);refine AWp.exit ⟨rfl,?_⟩;rw[crcP_all];rfl
   | succ m ih =>
    intro n hn1;subst hbody0;refine LWp.round ?_;refine sR hP hn hm [(0,.b true)] [(5,bV true)] [0,1,4,5] [] [10,11] [decide (((n:Nat):Int)<256)=true] ⟨by simp;omega,trivial⟩ ?_;refine AWp.seq ?_;refine AWp.cond true (by kernel_rfl) (fun _ => ?_) (fun h=>nomatch h);refine AWp.skip ?_;refine AWp.seq ?_;refine AWp.block ?_;refine sO hP hn hm [] [(2,qi ((n:Nat):Int))] [0,1,2,4] [] [10,11] ?_;refine sO hP hn hm [] [(3,iV .u32 (u32.wrap ((n:Nat):Int)))] [0,1,2,3,4] [] [10,11] ?_;refine AWp.seq ?_;refine sO hP hn hm [] [(9,qi ((0:Nat):Int))] [0,1,2,3,4,9] [] [10,11] ?_;refine AWp.block ?_;refine AWp.loop (LWp.mono (Q:=fun e s=>e = .exit 2∧s=⟨[(0,.ptr 10 0 0),(1,.ptr 11 0 0),(2,qi ((n:Nat):Int)),(3,iV .u32 (crcE n)),(4,qi ((n:Nat):Int)),(10,bV false)],[v1_ 10 ((List.replicate 256 0).map (iV .u32)),v1_ 11 ((crcP n).map (iV .u32))],0⟩) (Z8e (fun body1 hbody1 => ?_)) ?_)
    ·have main1:∀ m1 n1 c,n1+m1=8→LWp Γ body1 (fun e s=>e = .exit 2∧s=⟨[(0,.ptr 10 0 0),(1,.ptr 11 0 0),(2,qi ((n:Nat):Int)),(3,iV .u32 (crcN m1 c)),(4,qi ((n:Nat):Int)),(10,bV false)],[v1_ 10 ((List.replicate 256 0).map (iV .u32)),v1_ 11 ((crcP n).map (iV .u32))],0⟩) ⟨[(0,.ptr 10 0 0),(1,.ptr 11 0 0),(2,qi ((n:Nat):Int)),(3,iV .u32 c),(4,qi ((n:Nat):Int)),(9,qi ((n1:Nat):Int))],[v1_ 10 ((List.replicate 256 0).map (iV .u32)),v1_ 11 ((crcP n).map (iV .u32))],0⟩:=by
      intro m1
      induction m1 with
      | zero =>
       intro n1 c hn2;obtain rfl:n1=8:=by omega
       subst hbody1;refine LWp.round ?_;refine sO hP hn hm [] [(10,bV false)] [0,1,2,3,4,10] [] [10,11] ?_;refine AWp.seq ?_;refine AWp.cond false (by kernel_rfl) (fun h=>nomatch h) (fun _ => ?_);exact AWp.exit ⟨rfl,rfl⟩
      | succ m1 ih1 =>
       intro n1 c hn2;subst hbody1;refine LWp.round ?_;refine sR hP hn hm [(0,.b true)] [(10,bV true)] [0,1,2,3,4,9,10] [] [10,11] [decide (((n1:Nat):Int)<8)=true] ⟨by simp;omega,trivial⟩ ?_;refine AWp.seq ?_;refine AWp.cond true (by kernel_rfl) (fun _ => ?_) (fun h=>nomatch h);refine AWp.skip ?_;have hw:i64.wrap (((n1:Nat):Int)+1)=((n1+1:Nat):Int):=by rw[Z8 (by omega) (by omega)];omega
       refine AWp.seq ?_;refine AWp.block ?_;refine sO hP hn hm [] [(13,bV (u32.wrap (((BitVec.ofInt 32 c &&& BitVec.ofInt 32 1).toNat:Nat):Int)==1))] [0,1,2,3,4,9,13] [] [10,11] ?_;refine AWp.cond (u32.wrap (((BitVec.ofInt 32 c &&& BitVec.ofInt 32 1).toNat:Nat):Int)==1) (by kernel_rfl) (fun c1 => ?_) (fun c1 => ?_)
       ·have e1:crcS c=u32.wrap (((BitVec.ofInt 32 (Int.fdiv c 2) ^^^ BitVec.ofInt 32 3988292384).toNat:Nat):Int):=by unfold crcS;rw[if_pos c1]
        refine rG hP hn hm [] [(3,iV .u32 (u32.wrap (((BitVec.ofInt 32 (Int.fdiv c 2) ^^^ BitVec.ofInt 32 3988292384).toNat:Nat):Int)))] [0,1,2,3,4,9] [] [10,11] [(0:Int)≤1] ⟨by decide,trivial⟩ ?_;rw[← e1];refine rO hP hn hm [] [(9,qi (i64.wrap (((n1:Nat):Int)+1)))] [0,1,2,3,4,9] [] [10,11] ?_;rw[hw];exact ih1 (n1+1) (crcS c) (by omega)
       ·have e1:crcS c=Int.fdiv c 2:=by unfold crcS;rw[if_neg (by rw[c1];exact Bool.false_ne_true)]
        refine rG hP hn hm [] [(3,iV .u32 (Int.fdiv c 2))] [0,1,2,3,4,9] [] [10,11] [(0:Int)≤1] ⟨by decide,trivial⟩ ?_;rw[← e1];refine rO hP hn hm [] [(9,qi (i64.wrap (((n1:Nat):Int)+1)))] [0,1,2,3,4,9] [] [10,11] ?_;rw[hw];exact ih1 (n1+1) (crcS c) (by omega)
     exact main1 8 0 (u32.wrap ((n:Nat):Int)) rfl
    ·rintro e s ⟨rfl,rfl⟩
     have hw:i64.wrap (((n:Nat):Int)+1)=((n+1:Nat):Int):=by rw[Z8 (by omega) (by omega)];omega
     show AWp Γ _ _ _;refine rG hP hn hm [(2,.more (xIdxS n)),(3,.more (xStoreS ((crcP (n+1)).map (iV .u32))))] [] [0,1,4] [v1_ 11 ((crcP (n+1)).map (iV .u32))] [10,11] [((n:Nat):Int)=((n:Nat):Int),n<256,true=true,1=1,0<1,0+n*1+1≤((crcP n).map (iV .u32)).length,Z42 ((crcP n).map (iV .u32)) (0+n*1) [iV .u32 (crcE n)]=(crcP (n+1)).map (iV .u32)] ⟨rfl,by omega,rfl,rfl,by decide,by rw[List.length_map,crcP_len (by omega)];omega,?_,trivial⟩ ?_
     ·rw[splice_one (by rw[List.length_map,crcP_len (by omega)];omega),← List.map_set,Nat.zero_add,Nat.mul_one,crcP_set (by omega)]
     ·refine rO hP hn hm [] [(4,qi (i64.wrap (((n:Nat):Int)+1)))] [0,1,4] [] [10,11] ?_
      rw[hw];exact ih (n+1) (by omega)
  exact main0 256 0 rfl
 ·rintro e s ⟨rfl,rfl⟩
  show AWp Γ _ _ _;refine sR hP hn hm [(0,.more (xLoadS (.agg (crcT.map (iV .u32))))),(1,.more (xStoreS (crcT.map (iV .u32))))] [] [0] [v1_ 10 (crcT.map (iV .u32))] [10] [Z8m true 256 ((crcT.map (iV .u32)).drop 0)=some (.agg (crcT.map (iV .u32))),Z1s (crcT.map (iV .u32))=true,(crcT.map (iV .u32)).length=256,0<256,0+256≤((List.replicate 256 (0:Int)).map (iV .u32)).length,Z42 ((List.replicate 256 (0:Int)).map (iV .u32)) 0 (crcT.map (iV .u32))=crcT.map (iV .u32)] ⟨loadA_all (by rw[List.length_map,Z8q]),Zbs _ (fun _=>rfl) _,by rw[List.length_map,Z8q],by decide,by simp,Zeu (by simp[Z8q]),trivial⟩ ?_;refine AWp.ret ⟨_,fun _ _ h=>h,.inl rfl,rfl,?_,by kernel_rfl⟩;show resOf Tryz.prog Tryz.f174 ⟨[(0,.ptr 10 0 0)],[v1_ 10 (crcT.map (iV .u32))],0⟩=some (.agg (crcT.map (iV .u32)));have hra:resA Tryz.prog ⟨[(0,.ptr 10 0 0)],[v1_ 10 (crcT.map (iV .u32))],0⟩ (.cell 0 230)=Z8m true 256 ((crcT.map (iV .u32)).drop 0):=by kernel_rfl
  have hr:resL Tryz.prog ⟨[(0,.ptr 10 0 0)],[v1_ 10 (crcT.map (iV .u32))],0⟩ [.cell 0 230]=some [.agg (crcT.map (iV .u32))]:=by
   unfold resL;rw[hra,loadA_all (by rw[List.length_map,Z8q])];rfl
  unfold resOf;rw[show(Tryz.f174).results.toList=[.cell 0 230] from rfl,hr]
def Z6n.f (a0:List (List Int)):Option Int:=(chk (a0.length≤140737488355328∧∀ l∈a0,l.length≤140737488355328))>>=fun _=>some (crcO a0)
theorem Z6n.ok (a0:List (List Int)) (r:Int) (H:Z6n.f a0=some r):Pv.Fn Tryz.prog 106 [.im (.row (a0.map (Z0x qb)))] [] 0 (fun x o=>x=iV .u32 r∧o=[]):=by
 unfold Z6n.f at H;obtain⟨⟨hl,hls⟩,H⟩:=Z5f H;obtain rfl:=sj H;refine Fn.bodyK [] func106 rfl rfl (fun Γ hP hn => ?_);have hm:Tryz.prog.follows .mixedOrders=true:=by kernel_rfl
 replace hn:Γ.n=35:=hn;refine sO hP hn hm [] [] [0] [] [] ?_;refine sR hP hn hm [(0,.call [] [] [] [] 0 (.agg (crcT.map (iV .u32))) []),(1,.k 12),(2,.more (xStoreS (crcT.map (iV .u32))))] [(3,.ptr 12 0 0)] [0,3] [v1_ 12 (crcT.map (iV .u32))] [12] [_,Pv.Fn Tryz.prog 174 [] [] 0 (fun x o=>x = .agg (crcT.map (iV .u32))∧o=[]),Z1s (crcT.map (iV .u32))=true,(crcT.map (iV .u32)).length=256,0<256,0+256≤((List.replicate 256 (0:Int)).map (iV .u32)).length,Z42 ((List.replicate 256 (0:Int)).map (iV .u32)) 0 (crcT.map (iV .u32))=crcT.map (iV .u32)] ⟨call174,Zaf.ok crcT rfl,Zbs _ (fun _=>rfl) _,by rw[List.length_map,Z8q],by decide,by simp,Zeu (by simp[Z8q]),trivial⟩ ?_;refine sO hP hn hm [] [(4,iV .u32 4294967295)] [0,3,4] [] [12] ?_;refine AWp.seq ?_;refine sR hP hn hm [(1,.any (qi (a0.length:Int)))] [(10,im a0 (Z0x qb)),(11,qi (a0.length:Int)),(12,qi ((0:Nat):Int))] [3,4,10,11,12] [] [12] [((a0.map (Z0x qb)).length:Int)=(a0.length:Int)] ⟨by rw[Z3r],trivial⟩ ?_;refine AWp.block ?_;refine AWp.loop (LWp.mono (Q:=fun e s=>e = .exit 0∧s=⟨[(4,iV .u32 (crcFF 4294967295 a0)),(13,bV false)],[],0⟩) (Z8e (fun body0 hbody0 => ?_)) ?_)
 ·have main0:∀ m n c,n+m=a0.length→LWp Γ body0 (fun e s=>e = .exit 0∧s=⟨[(4,iV .u32 (crcFF c (a0.drop n))),(13,bV false)],[],0⟩) ⟨[(3,.ptr 12 0 0),(4,iV .u32 c),(10,im a0 (Z0x    qb)),(11,qi (a0.length:Int)),(12,qi ((n:Nat):Int))],[v1_ 12 (crcT.map (iV .u32))],0⟩:=by
   intro m
   induction m with
   | zero =>
    intro n c hn1;obtain rfl:n=a0.length:=by omega
    subst hbody0;refine LWp.round ?_;refine sR hP hn hm [(0,.b false)] [(13,bV false)] [4,13] [] [] [decide (((a0.length:Nat):Int)<(a0.length:Int))=false] ⟨by simp,trivial⟩ ?_;refine AWp.seq ?_;refine AWp.cond false (by kernel_rfl) (fun h=>nomatch h) (fun _ => ?_);refine AWp.exit ⟨rfl,?_⟩;rw[List.drop_length];rfl
   | succ m ih =>
    intro n c hn1;have hnl:n<a0.length:=by omega
    obtain⟨b,hb⟩:∃ b,a0[n]? = some b:=⟨_,List.getElem?_eq_getElem hnl⟩
    have hbl:=hls b (List.mem_of_getElem? hb);have hd:a0.drop n=b::a0.drop (n+1):=by rw[List.drop_eq_getElem_cons hnl];congr 1;exact(List.getElem?_eq_some_iff.1 hb).2
    subst hbody0;refine LWp.round ?_;refine sR hP hn hm [(0,.b true)] [(13,bV true)] [3,4,10,11,12,13] [] [12] [decide (((n:Nat):Int)<(a0.length:Int))=true] ⟨by simp;omega,trivial⟩ ?_;refine AWp.seq ?_;refine AWp.cond true (by kernel_rfl) (fun _ => ?_) (fun h=>nomatch h);refine AWp.skip ?_;refine AWp.seq ?_;refine AWp.block ?_;refine sR hP hn hm [(0,.c ((Z0x qb) b))] [(6,im b qb)] [3,4,6,10,11,12] [] [12] [(0:Int)≤((n:Nat):Int),(a0.map (Z0x qb))[(((n:Nat):Int)).toNat]? = some ((Z0x qb) b)] ⟨by omega,by rw[Int.toNat_natCast];exact Z7e (Z0x qb) hb,trivial⟩ ?_;refine sR hP hn hm [(1,.any (qi (b.length:Int)))] [(16,im b qb),(17,qi (b.length:Int)),(18,qi ((0:Nat):Int))] [3,4,10,11,12,16,17,18] [] [12] [((b.map qb).length:Int)=(b.length:Int)] ⟨by rw[Z3r],trivial⟩ ?_;refine AWp.block ?_;refine AWp.loop (LWp.mono (Q:=fun e s=>e = .exit 2∧s=⟨[(3,.ptr 12 0 0),(4,iV .u32 (crcF c b)),(10,im a0 (Z0x qb)),(11,qi (a0.length:Int)),(12,qi ((n:Nat):Int)),(19,bV false)],[v1_ 12 (crcT.map (iV .u32))],0⟩) (Z8e (fun body1 hbody1 => ?_)) ?_)
    ·have main1:∀ m1 n1 c,n1+m1=b.length→LWp Γ body1 (fun e s=>e = .exit 2∧s=⟨[(3,.ptr 12 0 0),(4,iV .u32 (crcF c (b.drop n1))),(10,im a0 (Z0x    qb)),(11,qi (a0.length:Int)),(12,qi ((n:Nat):Int)),(19,bV false)],[v1_ 12 (crcT.map (iV .u32))],0⟩) ⟨[(3,.ptr 12 0 0),(4,iV .u32 c),(10,im a0 (Z0x    qb)),(11,qi (a0.length:Int)),(12,qi ((n:Nat):Int)),(16,im b qb),(17,qi (b.length:Int)),(18,qi ((n1:Nat):Int))],[v1_ 12 (crcT.map (iV .u32))],0⟩:=by
      intro m1
      induction m1 with
      | zero =>
       intro n1 c hn2;obtain rfl:n1=b.length:=by omega
       subst hbody1;refine LWp.round ?_;refine sR hP hn hm [(0,.b false)] [(19,bV false)] [3,4,10,11,12,19] [] [12] [decide (((b.length:Nat):Int)<(b.length:Int))=false] ⟨by simp,trivial⟩ ?_;refine AWp.seq ?_;refine AWp.cond false (by kernel_rfl) (fun h=>nomatch h) (fun _ => ?_);refine AWp.exit ⟨rfl,?_⟩;rw[List.drop_length];rfl
      | succ m1 ih1 =>
       intro n1 c hn2;have hnl1:n1<b.length:=by omega
       obtain⟨x,hx⟩:∃ x,b[n1]? = some x:=⟨_,List.getElem?_eq_getElem hnl1⟩
       have hd1:b.drop n1=x::b.drop (n1+1):=by rw[List.drop_eq_getElem_cons hnl1];congr 1;exact(List.getElem?_eq_some_iff.1 hx).2
       have hw:i64.wrap (((n1:Nat):Int)+1)=((n1+1:Nat):Int):=by rw[Z8 (by omega) (by omega)];omega
       rw[hd1];subst hbody1;refine LWp.round ?_;refine sR hP hn hm [(0,.b true)] [(19,bV true)] [3,4,10,11,12,16,17,18,19] [] [12] [decide (((n1:Nat):Int)<(b.length:Int))=true] ⟨by simp;omega,trivial⟩ ?_;refine AWp.seq ?_;refine AWp.cond true (by kernel_rfl) (fun _ => ?_) (fun h=>nomatch h);refine AWp.skip ?_;refine AWp.seq ?_;refine AWp.block ?_;refine sR hP hn hm [(0,.c (Z4q .u8 x))] [(8,iV .u8 x)] [3,4,8,10,11,12,16,17,18] [] [12] [(0:Int)≤((n1:Nat):Int),(b.map qb)[(((n1:Nat):Int)).toNat]? = some (Z4q .u8 x)] ⟨by omega,by rw[Int.toNat_natCast];exact Z7e qb hx,trivial⟩ ?_;refine rG hP hn hm [(4,.more (xIdxS (crcI c x))),(5,.more (xLoadS (iV .u32 (crcT.getD (crcI c x) 0))))] [(4,iV .u32 (crcU c x))] [3,4,10,11,12,16,17,18] [] [12] [u8.wrap (((BitVec.ofInt 8 (u8.wrap c) ^^^ BitVec.ofInt 8 x).toNat:Nat):Int)=(crcI c x:Int),crcI c x<256,Z8m false 1 ((crcT.map (iV .u32)).drop (0+crcI c x*1))=some (iV .u32 (crcT.getD (crcI c x) 0)),(0:Int)≤8] ⟨crcI_eq c x,crcI_lt c x,loadA_elem (by rw[Nat.zero_add,Nat.mul_one,List.getElem?_map,crcT_get (crcI_lt c x)];rfl),by decide,trivial⟩ ?_;refine rO hP hn hm [] [(18,qi (i64.wrap (((n1:Nat):Int)+1)))] [3,4,10,11,12,16,17,18] [] [12] ?_;rw[hw];exact ih1 (n1+1) (crcU c x) (by omega)
     exact main1 b.length 0 c (by omega)
    ·rintro e s ⟨rfl,rfl⟩
     have hw:i64.wrap (((n:Nat):Int)+1)=((n+1:Nat):Int):=by rw[Z8 (by omega) (by omega)];omega
     show AWp Γ _ _ _;rw[hd];refine rO hP hn hm [] [(12,qi (i64.wrap (((n:Nat):Int)+1)))] [3,4,10,11,12] [] [12] ?_;rw[hw];exact ih (n+1) (crcF c b) (by omega)
  exact main0 a0.length 0 4294967295 (by omega)
 ·rintro e s ⟨rfl,rfl⟩
  show AWp Γ _ _ _;refine sO hP hn hm [(1,.more xUXor)] [(2,iV .u32 (crcO a0))] [2] [] [] ?_;refine AWp.ret ⟨_,fun _ _ h=>h,.inl rfl,rfl,by kernel_rfl,by kernel_rfl⟩
def Z4z.f (a0:List Int):Option ((List Int)×(List Int)×Int):=if decide ((a0.length:Int)<8) then(some ([],[],7)) else((Z1t.f a0)>>=fun aa=>if decide ((u64.wrap (aa))>(u64.wrap (i64.wrap ((a0.length:Int)-8)))) then(some ([],[],7)) else((chk (0≤(8:Int)∧(8:Int)≤(u64.wrap ((8:Int)+(u64.wrap (aa))))∧(u64.wrap ((8:Int)+(u64.wrap (aa))))≤(a0.length:Int)))>>=fun _=>(chk (0≤(0:Int)∧(0:Int)≤4∧(4:Int)≤(a0.length:Int)))>>=fun _=>(Z6n.f [(a0.drop (0:Int).toNat).take ((4:Int).toNat-(0:Int).toNat),(a0.drop (8:Int).toNat).take (((u64.wrap ((8:Int)+(u64.wrap (aa))))).toNat-(8:Int).toNat)])>>=fun ab=>(chk (0≤(4:Int)∧(4:Int)≤(a0.length:Int)∧(a0.length:Int)≤(a0.length:Int)))>>=fun _=>(Z1t.f ((a0.drop (4:Int).toNat).take ((a0.length:Int).toNat-(4:Int).toNat)))>>=fun ac=>if ab != ac then(some ([],[],8)) else((chk ((([]:List Int).length+((a0.drop (8:Int).toNat).take (((u64.wrap ((8:Int)+(u64.wrap (aa))))).toNat-(8:Int).toNat)).length)*1≤140737488355328))>>=fun _=>(chk (0≤(u64.wrap ((8:Int)+(u64.wrap (aa))))∧(u64.wrap ((8:Int)+(u64.wrap (aa))))≤(a0.length:Int)∧(a0.length:Int)≤(a0.length:Int)))>>=fun _=>(chk ((([]:List Int).length+((a0.drop ((u64.wrap ((8:Int)+(u64.wrap (aa))))).toNat).take ((a0.length:Int).toNat-((u64.wrap ((8:Int)+(u64.wrap (aa))))).toNat)).length)*1≤140737488355328))>>=fun _=>some ((a0.drop (8:Int).toNat).take (((u64.wrap ((8:Int)+(u64.wrap (aa))))).toNat-(8:Int).toNat),(a0.drop ((u64.wrap ((8:Int)+(u64.wrap (aa))))).toNat).take ((a0.length:Int).toNat-((u64.wrap ((8:Int)+(u64.wrap (aa))))).toNat),0))))
theorem Z4z.ok (a0:List Int):FN 57 [.im (.row (a0.map qb))] [] 0 (Z4z.f a0) (fun r=>.tup [.own 0,.own 1,qi r.2.2]) (fun r=>[q0 0 r.1,q0 1 r.2.1]):=FT [0,1] func57 (.r0<|.rg [(1,hG qb a0)]<|.cd (fun aa=>.r0<|.ret [] [] [0,1] ⟨[(2,.own 0),(3,.own 1),(4,qi 7)],[q0 0 [],q0 1 []],0⟩)
 (fun aa=>.bd fun ab ac=>.rg [(1,qh call109 (Z1t.ok a0 ab ac))]<|.rg [(2,hG qb a0)]<|.cd (fun ae=>.r0<|.ret [] [] [0,1] ⟨[(2,.own 0),(3,.own 1),(4,qi 7)],[q0 0 [],q0 1 []],0⟩)
 (fun ae=>.ck fun af=>.rg [(3,hR qb 1 af)]<|.ck fun ah=>.bd fun ai aj=>.ck fun ak=>.bd fun al am=>.rg [(1,hR qb 1 ah),(3,hQ 0 (Z0x qb) ([(a0.drop (Int.toNat (0:Int))).take ((Int.toNat (4:Int))-(Int.toNat (0:Int))),(a0.drop (Int.toNat (8:Int))).take ((Int.toNat ((u64.wrap ((8:Int)+(u64.wrap (ab))))))-(Int.toNat (8:Int)))]:List (List Int))),(4,h3 0 call106 (Z6n.ok [(a0.drop (Int.toNat (0:Int))).take ((Int.toNat (4:Int))-(Int.toNat (0:Int))),(a0.drop (Int.toNat (8:Int))).take ((Int.toNat ((u64.wrap ((8:Int)+(u64.wrap (ab))))))-(Int.toNat (8:Int)))] ai aj)),(6,hR1 qb 1 ak),(7,qh call109 (Z1t.ok ((a0.drop (Int.toNat (4:Int))).take ((Int.toNat (ln a0))-(Int.toNat (4:Int)))) al am))]<|.cd (fun ao=>.r0<|.ret [] [] [0,1] ⟨[(2,.own 0),(3,.own 1),(4,qi 8)],[q0 0 [],q0 1 []],0⟩)
 (fun ao=>.ck fun ap=>.ck fun aq=>.ck fun ar=>.rg [(1,hP0 1 qb 1 ap),(5,hR1 qb 1 aq),(6,hP0 2 qb 1 ar)]<|.ru [(1,0),(2,1)] ⟨[(2,.own 0),(3,.own 1),(4,qi 0)],[q0 0 ((a0.drop (Int.toNat (8:Int))).take ((Int.toNat ((u64.wrap ((8:Int)+(u64.wrap (ab))))))-(Int.toNat (8:Int)))),q0 1 ((a0.drop (Int.toNat ((u64.wrap ((8:Int)+(u64.wrap (ab))))))).take ((Int.toNat (ln a0))-(Int.toNat ((u64.wrap ((8:Int)+(u64.wrap (ab))))))))],0⟩))))
def Z57.f (a0:List Int):Option Unit:=some ()
abbrev w4_ (k:Nat) (x:Z9i):Nat×Option MObj:=BW 171 abits_Reader k x
theorem Z57.ok (a0:List Int):FN 58 [.im (.row (a0.map qb))] [] 0 (Z57.f a0) (fun r=>.ptr 0 0 0) (fun r=>[w4_ 0 ⟨a0,0,0⟩]):=FT [0] func58 (.r0<|.rg [(2,⟨.k 0,.n⟩)]<|.ru [(0,0)] ⟨[(2,.ptr 0 0 0)],[w4_ 0 ⟨a0,0,0⟩],0⟩)
def Z2x.f  : Option (List Int):=some [0,3,7,12,20,32,64]
abbrev q5:=@RW _ 1 3 qe
theorem Z2x.ok  : FN 89 [] [] 0 (Z2x.f ) (fun r=>.own 0) (fun r=>[q5 0 r]):=FT [0] func89 (.r0<|.rg [(0,hQ 0 qe ([0,3,7,12,20,32,64]:List Int))]<|.ru [(0,0)] ⟨[(0,.own 0)],[(0,some (.row 1 3 ([0,3,7,12,20,32,64].map qe)))],0⟩)
def Zn.f (aa:List Int) (ab ac a1:Int):Option Int:=((if ac==0 then(some a1) else(some ac)):Option Int)>>=fun ae=>some ae
theorem Zn.ok (aa:List Int) (ab ac a1:Int):FN 111 [.ptr 0 0 0,qi a1] [w4_ 0 ⟨aa,ab,ac⟩] 1 (Zn.f aa ab ac a1) (fun r=>.tup []) (fun r=>[w4_ 0 ⟨aa,ab,r⟩]):=FT [0] func111 (.r0<|.join (.cd (fun ae=>.r0<|.o [(0,0)])
 (fun ae=>.o [(0,0)]))
 (.st .normal (fun af=>⟨[],[w4_ 0 ⟨aa,ab,af⟩],1⟩) fun af=>.ru [(0,0)] ⟨[],[w4_ 0 ⟨aa,ab,af⟩],1⟩))
def Z08.f (aa:List Int) (ab ac:Int):Option (Bool×Int×Int):=((if ac != 0 then(some true) else(some (decide (ab≥(i64.wrap ((8:Int)*(aa.length:Int))))))):Option Bool)>>=fun ae=>if ae=true then((Zn.f aa ab ac 7)>>=fun af=>some (false,ab,af)) else((at? aa (i64.wrap (Int.tdiv ab (8:Int))))>>=fun ah=>(chk (0≤(u64.wrap ((7:Int)-(u64.wrap (Int.tmod ab (8:Int)))))))>>=fun _=>some (((u8.wrap (((BitVec.toNat (BitVec.ofInt 8 (Int.fdiv ah (2 ^ (min (u64.wrap ((7:Int)-(u64.wrap (Int.tmod ab (8:Int))))).toNat 8))) &&& BitVec.ofInt 8 (1:Int)):Nat):Int)))==1),i64.wrap (ab+1),ac))
theorem Z08.ok (aa:List Int) (ab ac:Int):FN 115 [.ptr 0 0 0] [w4_ 0 ⟨aa,ab,ac⟩] 1 (Z08.f aa ab ac) (fun r=>bV r.1) (fun r=>[w4_ 0 ⟨aa,r.2.1,r.2.2⟩]):=FT [0] func115 (.r0<|.join (.sp (fun ae=>.rg [(5,hB ae)]<|.o [(0,0)])
 (fun ae=>.rg [(5,hB ae),(14,hG qb aa)]<|.o [(0,0)]))
 (.st .normal (fun af=>⟨[(0,.ptr 0 0 0),(21,bV af)],[w4_ 0 ⟨aa,ab,ac⟩],1⟩) fun af=>.cd (fun ah=>.bd fun ai aj=>.rg [(1,jA call111 (Zn.ok aa ab ac 7 ai aj))]<|.r0<|.ru [(0,0)] ⟨[(2,bV false)],[w4_ 0 ⟨aa,ab,ai⟩],1⟩)
 (fun ah=>.el fun ak al am=>.ck fun ao=>.rg [(8,hJ 8),(9,hA qb al am),(15,hJ 8),(18,hN (p1 ao))]<|.r0<|.r0<|.ru [(0,0)] ⟨[(2,bV ((u8.wrap (((BitVec.toNat (BitVec.ofInt 8 (Int.fdiv ak (2 ^ (min (Int.toNat (u64.wrap ((7:Int)-(u64.wrap (Int.tmod ab (8:Int)))))) 8))) &&& BitVec.ofInt 8 (1:Int)):Nat):Int)))==1))],[w4_ 0 ⟨aa,(i64.wrap (ab+1)),ac⟩],1⟩)))
def Zk.l0 (aa:List Int) (a1 ab ac ae af:Int):Option (Int×Int×Int):=if decide (af<(if(if(64:Int)<a1 then(64:Int) else a1)>0 then(if(64:Int)<a1 then(64:Int) else a1) else(0:Int))) then((Z08.f aa ab ac)>>=fun ah=>((if ah.1=true then(some (u64.wrap (((BitVec.toNat (BitVec.ofInt 64 (u64.wrap (ae*2)) ||| BitVec.ofInt 64 (1:Int)):Nat):Int)))) else(some (u64.wrap (ae*2)))):Option Int)>>=fun ai=>Zk.l0 aa a1 ah.2.1 ah.2.2 ai (i64.wrap (af+1))) else(some (ab,ac,ae))
partial_fixpoint
def Zk.f (aa:List Int) (ab ac a1:Int):Option (Int×Int×Int):=(Zk.l0 aa a1 ab ac 0 0)>>=fun | (ae,af,ah)=>(if af != 0 then(some (0,ae,af)) else(some (ah,ae,af)))
theorem Zk.ok (aa:List Int) (ab ac a1:Int):FN 113 [.ptr 0 0 0,qi a1] [w4_ 0 ⟨aa,ab,ac⟩] 1 (Zk.f aa ab ac a1) (fun r=>qu r.1) (fun r=>[w4_ 0 ⟨aa,r.2.1,r.2.2⟩]):=FT [0] func113 (.r0<|.r0<|.rg [(1,⟨.more xMin,.n⟩),(2,⟨.more xMax,.n⟩)]<|.bl<|.lq (.c4 (Zk.l0.partial_correctness aa a1)) (ab,ac,0,0) [(0,0)] (fun _=>.pr fun ae=>.pr fun af=>.pr fun ah=>.one (fun ai=>⟨[(0,.ptr 0 0 0),(5,qu ah),(8,qi (clp 64 a1)),(9,qi ai)],[w4_ 0 ⟨aa,ae,af⟩],1⟩) fun ai=>.r0<|.cd (fun aj=>.bl<|.rg [(1,hK 1)]<|.bd fun ak al=>.rg [(1,jA call115 (Z08.ok aa ae af ak al))]<|.join (.cd (fun am=>.r0<|.o [(0,0)])
 (fun am=>.o [(0,0)]))
 (.st .normal (fun ao=>⟨[(0,.ptr 0 0 0),(5,qu ao),(8,qi (clp 64 a1)),(9,qi ai)],[w4_ 0 ⟨aa,ak.2.1,ak.2.2⟩],1⟩) fun ao=>.r0<|.bk [(0,0)] rfl))
 (fun aj=>.o [(0,0)]))
 (.pr fun ap=>.pr fun aq=>.st (.exit 0) (fun ar=>⟨[(0,.ptr 0 0 0),(5,qu ar)],[w4_ 0 ⟨aa,ap,aq⟩],1⟩) fun ar=>.r0<|.cd (fun au=>.r0<|.ru [(0,0)] ⟨[(4,qu 0)],[w4_ 0 ⟨aa,ap,aq⟩],1⟩)
 (fun au=>.r0<|.ru [(0,0)] ⟨[(4,qu ar)],[w4_ 0 ⟨aa,ap,aq⟩],1⟩)))
def Z1w.l0 (aa ab:Int):Option Int:=if decide (aa>0) then(Z1w.l0  (Int.fdiv aa 2) (i64.wrap (ab+1))) else(some ab)
partial_fixpoint
def Z1w.f (a0:Int):Option Int:=(Z1w.l0  a0 0)>>=fun aa=>some aa
theorem Z1w.ok (a0:Int):F0 91 [qu a0] (Z1w.f a0) (fun r=>qi r):=FT [] func91 (.r0<|.r0<|.bl<|.lq (.c2 (Z1w.l0.partial_correctness )) (a0,0) [] (fun _=>.pr fun aa=>.one (fun ab=>⟨[(0,qu aa),(3,qi ab)],[],0⟩) fun ab=>.r0<|.cd (fun ac=>.bl<|.r0<|.rg [(1,hK 1)]<|.bk [] rfl)
 (fun ac=>.o []))
 (.st (.exit 0) (fun ae=>⟨[(3,qi ae)],[],0⟩) fun ae=>.r0<|.rv ⟨[(2,qi ae)],[],0⟩))
def Zm.l0 (aa ab:List Int) (ac ae af:Int):Option (Int×Int×Int):=((if decide (af<(i64.wrap ((ab.length:Int)-1))) then((Z08.f aa ac ae)>>=fun ah=>some (ah.2.1,ah.2.2,ah.1)) else(some (ac,ae,false))):Option (Int×Int×Bool))>>=fun | (ai,aj,ak)=>(if ak=true then(Zm.l0 aa ab ai aj (i64.wrap (af+1))) else(some (ai,aj,af)))
partial_fixpoint
def Zm.f (aa:List Int) (ab ac:Int):Option (Int×Int×Int):=(Z2x.f)>>=fun ae=>(Zm.l0 aa ae ab ac 0)>>=fun | (af,ah,ai)=>((at? ae ai)>>=fun aj=>(Zk.f aa af ah aj)>>=fun ak=>((if decide (ai>0) then((Z1w.f ak.1)>>=fun al=>(at? ae (i64.wrap (ai-1)))>>=fun am=>some (decide (al≤am))) else(some false)):Option Bool)>>=fun ao=>((if ao=true then((Zn.f aa ak.2.1 ak.2.2 6)>>=fun ap=>some ap) else(some ak.2.2)):Option Int)>>=fun aq=>if aq != 0 then(some (0,ak.2.1,aq)) else(some (ak.1,ak.2.1,aq)))
theorem Zm.ok (aa:List Int) (ab ac:Int):FN 110 [.ptr 0 0 0] [w4_ 0 ⟨aa,ab,ac⟩] 1 (Zm.f aa ab ac) (fun r=>qu r.1) (fun r=>[w4_ 0 ⟨aa,r.2.1,r.2.2⟩]):=FT [0] func110 (.r0<|.bd fun ae af=>.rg [(0,h1 1 call89 (Z2x.ok  ae af))]<|.r0<|.bl<|.lq (.c3 (Zm.l0.partial_correctness aa ae)) (ab,ac,0) [(0,0),(1,3)] (fun _=>.pr fun ah=>.pr fun ai=>.one (fun aj=>⟨[(0,.ptr 0 0 0),(3,.own 3),(4,qi aj)],[w4_ 0 ⟨aa,ah,ai⟩,q5 3 ae],1⟩) fun aj=>.join (.sp (fun ak=>.bd fun al am=>.rg [(2,hG qe ae),(5,hB ak),(7,jA call115 (Z08.ok aa ah ai al am))]<|.o [(0,0),(3,4)])
 (fun ak=>.rg [(2,hG qe ae),(5,hB ak)]<|.o [(0,0),(3,4)]))
 (.pr fun ao=>.pr fun ap=>.st .normal (fun aq=>⟨[(0,.ptr 0 0 0),(3,.own 4),(4,qi aj),(15,bV aq)],[w4_ 0 ⟨aa,ao,ap⟩,q5 4 ae],1⟩) fun aq=>.cd (fun ar=>.bl<|.r0<|.bk [(0,0),(4,3)] rfl)
 (fun ar=>.o [(0,0),(4,5)])))
 (.pr fun au=>.pr fun av=>.st (.exit 0) (fun ax=>⟨[(0,.ptr 0 0 0),(3,.own 5),(4,qi ax)],[w4_ 0 ⟨aa,au,av⟩,q5 5 ae],1⟩) fun ax=>.el fun az ba bb=>.bd fun bc be=>.rg [(3,hX qe ba bb),(4,hL qe bb),(5,jA call113 (Zk.ok aa au av az bc be))]<|.join (.sp (fun bf=>.bd fun bg bh=>.el fun bi bj bn=>.rg [(2,hB bf),(4,qh call91 (Z1w.ok bc.1 bg bh)),(8,hX qe bj bn),(9,hL qe bn)]<|.o [(0,0)])
 (fun bf=>.rg [(2,hB bf)]<|.o [(0,0)]))
 (.st .normal (fun bo=>⟨[(0,.ptr 0 0 0),(5,qu bc.1),(35,bV bo)],[w4_ 0 ⟨aa,bc.2.1,bc.2.2⟩],1⟩) fun bo=>.join (.cd (fun bp=>.bd fun bq br=>.rg [(1,jA call111 (Zn.ok aa bc.2.1 bc.2.2 6 bq br))]<|.o [(0,0)])
 (fun bp=>.o [(0,0)]))
 (.st .normal (fun bu=>⟨[(0,.ptr 0 0 0),(5,qu bc.1)],[w4_ 0 ⟨aa,bc.2.1,bu⟩],1⟩) fun bu=>.r0<|.cd (fun bv=>.r0<|.ru [(0,0)] ⟨[(2,qu 0)],[w4_ 0 ⟨aa,bc.2.1,bu⟩],1⟩)
 (fun bv=>.r0<|.ru [(0,0)] ⟨[(2,qu bc.1)],[w4_ 0 ⟨aa,bc.2.1,bu⟩],1⟩)))))
def Z7.f (aa:List Int) (ab ac a1:Int):Option (Int×Int×Int):=(Zm.f aa ab ac)>>=fun ae=>((if decide (a1<0) then(some true) else(some (decide (ae.1>(u64.wrap (a1)))))):Option Bool)>>=fun af=>if af=true then((Zn.f aa ae.2.1 ae.2.2 9)>>=fun ah=>some (0,ae.2.1,ah)) else(some (i64.wrap (ae.1),ae.2.1,ae.2.2))
theorem Z7.ok (aa:List Int) (ab ac a1:Int):FN 59 [.ptr 0 0 0,qi a1] [w4_ 0 ⟨aa,ab,ac⟩] 1 (Z7.f aa ab ac a1) (fun r=>qi r.1) (fun r=>[w4_ 0 ⟨aa,r.2.1,r.2.2⟩]):=FT [0] func59 (.r0<|.bd fun ae af=>.rg [(1,jA call110 (Zm.ok aa ab ac ae af))]<|.join (.sp (fun ah=>.rg [(2,hB ah)]<|.o [(0,0)])
 (fun ah=>.rg [(2,hB ah)]<|.o [(0,0)]))
 (.st .normal (fun ai=>⟨[(0,.ptr 0 0 0),(5,qu ae.1),(15,bV ai)],[w4_ 0 ⟨aa,ae.2.1,ae.2.2⟩],1⟩) fun ai=>.cd (fun aj=>.bd fun ak al=>.rg [(1,jA call111 (Zn.ok aa ae.2.1 ae.2.2 9 ak al))]<|.r0<|.ru [(0,0)] ⟨[(4,qi 0)],[w4_ 0 ⟨aa,ae.2.1,ak⟩],1⟩)
 (fun aj=>.r0<|.ru [(0,0)] ⟨[(4,qi (i64.wrap (ae.1)))],[w4_ 0 ⟨aa,ae.2.1,ae.2.2⟩],1⟩)))
def Zu.f (aa:List Int) (ab ac:Int):Option Unit:=some ()
theorem Zu.ok (aa:List Int) (ab ac:Int):FN 60 [.ptr 0 0 0] [w4_ 0 ⟨aa,ab,ac⟩] 1 (Zu.f aa ab ac) (fun r=>qi ac) (fun r=>[w4_ 0 ⟨aa,ab,ac⟩]):=FT [0] func60 (.r0<|.r0<|.ru [(0,0)] ⟨[(2,qi ac)],[w4_ 0 ⟨aa,ab,ac⟩],1⟩)
def Z0u.f (aa:List Int) (ab ac:Int):Option Unit:=some ()
theorem Z0u.ok (aa:List Int) (ab ac:Int):FN 112 [.ptr 0 0 0] [w4_ 0 ⟨aa,ab,ac⟩] 1 (Z0u.f aa ab ac) (fun r=>qi (i64.wrap ((i64.wrap ((8:Int)*(ln aa)))-ab))) (fun r=>[w4_ 0 ⟨aa,ab,ac⟩]):=FT [0] func112 (.r0<|.rg [(4,hG qb aa)]<|.ru [(0,0)] ⟨[(2,qi (i64.wrap ((i64.wrap ((8:Int)*(ln aa)))-ab)))],[w4_ 0 ⟨aa,ab,ac⟩],1⟩)
def Z0e.l0 (aa:List Int) (ab:Int×Int×Int) (ac ae:Int) (af:List Int) (ah:Int):Option ((List Int)×Int×Int):=if decide (ah<((List.replicate (Int.toNat ab.1) (0:Int)).length:Int)) then((Zk.f aa ac ae 8)>>=fun ai=>(at? af ah)>>=fun aj=>Z0e.l0 aa ab ai.2.1 ai.2.2 (af.set ah.toNat (u8.wrap (ai.1))) (i64.wrap (ah+1))) else(some (af,ac,ae))
partial_fixpoint
def Z0e.f (aa:List Int) (ab ac:Int):Option (ByteArray×Int×Int):=(Z0u.f aa ab ac)>>=fun ae=>(Z7.f aa ab ac (i64.wrap (Int.tdiv (i64.wrap ((i64.wrap ((8:Int)*(aa.length:Int)))-ab)) (8:Int))))>>=fun af=>(chk (0≤af.1∧af.1≤af.1∧((1:Nat):Int)*af.1≤281474976710656∧af.1≤9223372036854775807))>>=fun _=>(Z0e.l0 aa af af.2.1 af.2.2 (List.replicate (Int.toNat af.1) (0:Int)) 0)>>=fun | (ah,ai,aj)=>(some (Z6d ah,ai,aj))
theorem Z0e.ok (aa:List Int) (ab ac:Int):FN 61 [.ptr 0 0 0] [w4_ 0 ⟨aa,ab,ac⟩] 1 (Z0e.f aa ab ac) (fun r=>sV r.1) (fun r=>[w4_ 0 ⟨aa,r.2.1,r.2.2⟩]):=FT [0] func61 (.r0<|.bd fun ae af=>.bd fun ah ai=>.rg [(2,jA call112 (Z0u.ok aa ab ac ae af)),(3,hJ 8),(4,jA call59 (Z7.ok aa ab ac (i64.wrap (Int.tdiv (i64.wrap ((i64.wrap ((8:Int)*(ln aa)))-ab)) (8:Int))) ah ai))]<|.ck fun aj=>.rg [(1,⟨.more (xMake 1 ((List.replicate (Int.toNat ah.1) (0:Int)).map qb)),.c (p:=(List.replicate (Int.toNat ah.1) (0:Int)).map qb=List.replicate (Int.toNat ah.1) [iI .u8 0]) (by simp) (.c (aj.1) (.c (aj.2.1) (.c (aj.2.2.1) (.c (aj.2.2.2) .n))))⟩)]<|.rg [(1,hG qb (List.replicate (Int.toNat ah.1) (0:Int)))]<|.bl<|.lq (.c4 (Z0e.l0.partial_correctness aa ah)) (ah.2.1,ah.2.2,List.replicate (Int.toNat ah.1) (0:Int),0) [(0,0),(1,2)] (fun _=>.pr fun ak=>.pr fun al=>.pr fun am=>.one (fun ao=>⟨[(0,.ptr 0 0 0),(4,.own 2),(14,qi ((List.replicate (Int.toNat ah.1) (0:Int)).length:Int)),(15,qi ao)],[w4_ 0 ⟨aa,ak,al⟩,q0 2 am],1⟩) fun ao=>.r0<|.cd (fun ap=>.bl<|.r0<|.bd fun aq ar=>.el fun au av ax=>.rg [(3,jA call113 (Zk.ok aa ak al 8 aq ar)),(5,hX qb av ax),(6,hS qb (u8.wrap (aq.1)) 0 [iI .u8 (u8.wrap (aq.1))] ax)]<|.r0<|.bk [(0,0),(2,2)] rfl)
 (fun ap=>.o [(2,3),(0,0)]))
 (.pr fun az=>.pr fun ba=>.st (.exit 0) (fun bb=>⟨[(4,.own 3)],[w4_ 0 ⟨aa,ba,bb⟩,q0 3 az],1⟩) fun bb=>.rg [(1,hT (xStr az) az)]<|.ru [(0,0)] ⟨[(2,sV (Z6d az))],[w4_ 0 ⟨aa,ba,bb⟩],1⟩))
def Z9c.f (a0:Int):Option Unit:=some ()
theorem Z9c.ok (a0:Int):F0 214 [qu a0] (Z9c.f a0) (fun r=>qi (i64.wrap ((qx (i64.wrap (Int.fdiv a0 2)) (i64.wrap (0-(i64.wrap (u64.wrap (((BitVec.toNat (BitVec.ofInt 64 a0 &&& BitVec.ofInt 64 (1:Int)):Nat):Int)))))))))):=FT [] func214 (.r0<|.rg [(1,hK 1)]<|.rv ⟨[(2,qi (i64.wrap ((qx (i64.wrap (Int.fdiv a0 2)) (i64.wrap (0-(i64.wrap (u64.wrap (((BitVec.toNat (BitVec.ofInt 64 a0 &&& BitVec.ofInt 64 (1:Int)):Nat):Int))))))))))],[],0⟩)
def Z0c.f (aa:List Int) (ab ac:Int):Option (Int×Int×Int):=(Zm.f aa ab ac)>>=fun ae=>(Z9c.f ae.1)>>=fun af=>some (i64.wrap (((BitVec.toNat (BitVec.ofInt 64 (i64.wrap (Int.fdiv ae.1 2)) ^^^ BitVec.ofInt 64 (i64.wrap (0-(i64.wrap (u64.wrap (((BitVec.toNat (BitVec.ofInt 64 ae.1 &&& BitVec.ofInt 64 (1:Int)):Nat):Int))))))):Nat):Int)),ae.2.1,ae.2.2)
theorem Z0c.ok (aa:List Int) (ab ac:Int):FN 178 [.ptr 0 0 0] [w4_ 0 ⟨aa,ab,ac⟩] 1 (Z0c.f aa ab ac) (fun r=>qi r.1) (fun r=>[w4_ 0 ⟨aa,r.2.1,r.2.2⟩]):=FT [0] func178 (.r0<|.bd fun ae af=>.bd fun ah ai=>.rg [(1,jA call110 (Zm.ok aa ab ac ae af)),(2,qh call214 (Z9c.ok ae.1 ah ai))]<|.ru [(0,0)] ⟨[(2,qi (i64.wrap ((qx (i64.wrap (Int.fdiv ae.1 2)) (i64.wrap (0-(i64.wrap (u64.wrap (((BitVec.toNat (BitVec.ofInt 64 ae.1 &&& BitVec.ofInt 64 (1:Int)):Nat):Int))))))))))],[w4_ 0 ⟨aa,ae.2.1,ae.2.2⟩],1⟩)
def Z34.l0 (a0:Ze) (a1 aa ab:Int):Option (Bool ⊕ Unit):=if decide (ab<(a0.f1.length:Int)) then((at? a0.f1 ab)>>=fun ac=>((if decide (ac.f1<1) then(some true) else(if decide (ac.f1>(i64.wrap (a1-aa))) then(some true) else(if decide (ac.f0<0) then(some true) else(if decide (ac.f0>524288) then(some true) else(some (!((ab==0)==(ac.f0==0)))))))):Option Bool)>>=fun ae=>if ae=true then(some (.inl false)) else(Z34.l0 a0 a1 (i64.wrap (aa+ac.f1)) (i64.wrap (ab+1)))) else(some (.inr ()))
partial_fixpoint
def Z34.f (a0:Ze) (a1:Int):Option Bool:=if(a0.f1.length:Int)==0 then(some (a0.f0==0)) else((Z34.l0 a0 a1 0 0)>>=fun | .inl rr=>(some rr) | .inr _=>(((if decide (a0.f0≥(-262144)) then(some (decide (a0.f0≤262144))) else(some false)):Option Bool)>>=fun aa=>some aa))
abbrev w5_ (k:Nat) (x:Ze):Nat×Option MObj:=BW 161 Z2t k x
abbrev w6_ (k:Nat) (x:Z2u):Nat×Option MObj:=BW 227 aSpan k x
theorem Z34.ok (a0:Ze) (a1:Int):F0 215 [.agg (Z2t a0),qi a1] (Z34.f a0 a1) (fun r=>bV r):=FT [] func215 (.rg [(0,⟨.k 0,.n⟩)]<|.rg [(2,hG Z4f a0.f1)]<|.cd (fun aa=>.r0<|.rv ⟨[(4,bV (a0.f0==0))],[],0⟩)
 (fun aa=>.r0<|.rg [(2,hG Z4f a0.f1)]<|.bl<|.lq (.c2 (Z34.l0.partial_correctness a0 a1)) (0,0) [(0,4)] (fun _=>.pr fun ab=>.one (fun ac=>⟨[(1,qi a1),(2,.ptr 4 0 0),(5,qi ab),(16,im a0.f1 Z4f),(17,qi (ln a0.f1)),(18,qi ac)],[w5_ 4 a0],0⟩) fun ac=>.r0<|.cd (fun ae=>.bl<|.el fun af ah ai=>.rg [(1,hA Z4f ah ai),(3,⟨.k 5,.n⟩)]<|.join (.sp (fun aj=>.rg [(3,hB aj)]<|.o [(4,6),(5,7)])
 (fun aj=>.sp (fun ak=>.rg [(3,hB aj),(11,hB ak)]<|.o [(4,6),(5,7)])
 (fun ak=>.sp (fun al=>.rg [(3,hB aj),(11,hB ak),(16,hB al)]<|.o [(4,6),(5,7)])
 (fun al=>.sp (fun am=>.rg [(3,hB aj),(11,hB ak),(16,hB al),(21,hB am)]<|.o [(4,6),(5,7)])
 (fun am=>.rg [(3,hB aj),(11,hB ak),(16,hB al),(21,hB am)]<|.o [(4,6),(5,7)])))))
 (.st .normal (fun ao=>⟨[(1,qi a1),(2,.ptr 6 0 0),(5,qi ab),(7,.ptr 7 0 0),(16,im a0.f1 Z4f),(17,qi (ln a0.f1)),(18,qi ac),(51,bV ao)],[w5_ 6 a0,w6_ 7 af],0⟩) fun ao=>.cd (fun ap=>.r0<|.rv ⟨[(4,bV false)],[],0⟩)
 (fun ap=>.r0<|.r0<|.bk [(6,4)] rfl)))
 (fun ae=>.o [(4,8)]))
 (.sm (.rt (fun rr=>bV rr) (fun rr=>[]))
 (.st (.exit 0) (fun _=>⟨[(2,.ptr 8 0 0)],[w5_ 8 a0],0⟩) fun _=>.join (.sp (fun aq=>.rg [(3,hB aq)]<|.o [])
 (fun aq=>.rg [(3,hB aq)]<|.o []))
 (.st .normal (fun ar=>⟨[(4,bV ar)],[],0⟩) fun ar=>.rv ⟨[(4,bV ar)],[],0⟩)))))
def Z1h.l0 (aa:List Int) (a1 ab ac ae af:Int) (ah:List Z2u) (ai:Int):Option (Int×Int×(List Z2u)):=((if decide (ai<ac) then((Zu.f aa ae af)>>=fun aj=>some (af==0)) else(some false)):Option Bool)>>=fun ak=>if ak=true then(((if decide (ai>0) then((Z7.f aa ae af 524287)>>=fun al=>some (al.2.1,al.2.2,i64.wrap ((1:Int)+al.1))) else(some (ae,af,0))):Option (Int×Int×Int))>>=fun | (am,ao,ap)=>((Z7.f aa am ao (i64.wrap (a1-1)))>>=fun aq=>(chk ((ah.length+[(⟨ap,i64.wrap ((1:Int)+aq.1)⟩:Z2u)].length)*16≤140737488355328))>>=fun _=>Z1h.l0 aa a1 ab ac aq.2.1 aq.2.2 (ah++[(⟨ap,i64.wrap ((1:Int)+aq.1)⟩:Z2u)]) (i64.wrap (ai+1)))) else(some (ae,af,ah))
partial_fixpoint
def Z1h.f (aa:List Int) (ab ac a1:Int):Option (Ze×Int×Int):=(Z7.f aa ab ac a1)>>=fun ae=>((if decide (ae.1>0) then((Z0c.f aa ae.2.1 ae.2.2)>>=fun af=>((if decide (af.1≥(-262144)) then(some (decide (af.1≤262144))) else(some false)):Option Bool)>>=fun ah=>((if ah=true then(some (af.1,ae.1)) else(some (0,(-1)))):Option (Int×Int))>>=fun | (ai,aj)=>(some (af.2.1,af.2.2,ai,aj))) else(some (ae.2.1,ae.2.2,0,ae.1))):Option (Int×Int×Int×Int))>>=fun | (ak,al,am,ao)=>((Z1h.l0 aa a1 am ao ak al [] 0)>>=fun | (ap,aq,ar)=>((((Zu.f aa ap aq)>>=fun au=>if aq != 0 then(some true) else(if decide (ao<0) then(some true) else((Z34.f (⟨am,ar⟩:Ze) a1)>>=fun av=>some (!av)))):Option Bool)>>=fun ax=>if ax=true then(some ((⟨0,[]⟩:Ze),ap,aq)) else(some ((⟨am,ar⟩:Ze),ap,aq))))
abbrev qk0:MObj:=.box 161 [qi 0,.none0]
abbrev v2_ (k:Nat) (x:List AVal):Nat×Option MObj:=BX 161 k x
abbrev q6:=@RW _ 2 227 Z4f
theorem Z1h.ok (aa:List Int) (ab ac a1:Int):FN 179 [.ptr 0 0 0,qi a1] [w4_ 0 ⟨aa,ab,ac⟩] 1 (Z1h.f aa ab ac a1) (fun r=>.agg [qi ((r.1).f0),.own 1]) (fun r=>[w4_ 0 ⟨aa,r.2.1,r.2.2⟩,q6 1 ((r.1).f1)]):=FT [0,1] func179 (.rg [(0,⟨.k 1,.n⟩)]<|.rg [(0,⟨.k 2,.n⟩)]<|.bd fun ae af=>.rg [(2,jA call59 (Z7.ok aa ab ac a1 ae af))]<|.r0<|.join (.cd (fun ah=>.bd fun ai aj=>.rg [(1,jA call178 (Z0c.ok aa ae.2.1 ae.2.2 ai aj))]<|.join (.sp (fun ak=>.rg [(2,hB ak)]<|.o [(0,0),(1,3),(2,4)])
 (fun ak=>.rg [(2,hB ak)]<|.o [(0,0),(1,3),(2,4)]))
 (.st .normal (fun al=>⟨[(0,.ptr 0 0 0),(1,qi a1),(4,.ptr 3 0 0),(5,.ptr 4 0 0),(6,qi ae.1),(7,qi ai.1),(22,bV al)],[w4_ 0 ⟨aa,ai.2.1,ai.2.2⟩,(3,some (qk0)),(4,some (qk0))],1⟩) fun al=>.join (.cd (fun am=>.r0<|.o [(0,0),(3,5),(4,6)])
 (fun am=>.r0<|.o [(0,0),(3,5),(4,6)]))
 (.pr fun ao=>.st .normal (fun ap=>⟨[(0,.ptr 0 0 0),(1,qi a1),(4,.ptr 5 0 0),(5,.ptr 6 0 0),(6,qi ap)],[w4_ 0 ⟨aa,ai.2.1,ai.2.2⟩,(5,some (qk0)),v2_ 6 [qi ao,.none0]],1⟩) fun ap=>.o [(0,0),(5,7),(6,8)])))
 (fun ah=>.o [(0,0),(1,7),(2,8)]))
 (.pr fun aq=>.pr fun ar=>.pr fun au=>.st .normal (fun av=>⟨[(0,.ptr 0 0 0),(1,qi a1),(4,.ptr 7 0 0),(5,.ptr 8 0 0),(6,qi av)],[w4_ 0 ⟨aa,aq,ar⟩,(7,some (qk0)),v2_ 8 [qi au,.none0]],1⟩) fun av=>.r0<|.bl<|.loop (.c4 (Z1h.l0.partial_correctness aa a1 au av)) (aq,ar,[],0) [(0,0),(7,14),(8,15)] [] [16] (fun _=>.pr fun ax=>.pr fun az=>.pr fun ba=>.one (fun bb=>⟨[(0,.ptr 0 0 0),(1,qi a1),(4,.ptr 14 0 0),(5,.ptr 15 0 0),(6,qi av),(8,qi bb)],[w4_ 0 ⟨aa,ax,az⟩,(14,some (qk0)),v2_ 15 [qi au,.own 16],q6 16 ba],1⟩) fun bb=>.join (.sp (fun bc=>.bd fun be bf=>.rg [(3,hB bc),(5,jA call60 (Zu.ok aa ax az be bf))]<|.o [(0,0),(14,17),(15,18),(16,19)])
 (fun bc=>.rg [(3,hB bc)]<|.o [(0,0),(14,17),(15,18),(16,19)]))
 (.st .normal (fun bg=>⟨[(0,.ptr 0 0 0),(1,qi a1),(4,.ptr 17 0 0),(5,.ptr 18 0 0),(6,qi av),(8,qi bb),(32,bV bg)],[w4_ 0 ⟨aa,ax,az⟩,(17,some (qk0)),v2_ 18 [qi au,.own 19],q6 19 ba],1⟩) fun bg=>.cd (fun bh=>.bl<|.rg [(1,⟨.k 20,.n⟩)]<|.r0<|.join (.cd (fun bi=>.bd fun bj bn=>.rg [(1,jA call59 (Z7.ok aa ax az 524287 bj bn))]<|.o [(0,0),(17,21),(18,22),(19,23),(20,24)])
 (fun bi=>.o [(0,0),(17,21),(18,22),(19,23),(20,24)]))
 (.pr fun bo=>.pr fun bp=>.st .normal (fun bq=>⟨[(0,.ptr 0 0 0),(1,qi a1),(4,.ptr 21 0 0),(5,.ptr 22 0 0),(6,qi av),(8,qi bb),(9,.ptr 24 0 0)],[w4_ 0 ⟨aa,bo,bp⟩,(21,some (qk0)),v2_ 22 [qi au,.own 23],q6 23 ba,w6_ 24 ⟨bq,0⟩],1⟩) fun bq=>.bd fun br bu=>.rg [(3,jA call59 (Z7.ok aa bo bp (i64.wrap (a1-1)) br bu))]<|.ck fun bv=>.rg [(3,hQ 25 Z4f ([(⟨bq,i64.wrap ((1:Int)+br.1)⟩:Z2u)]:List Z2u)),(4,hP 26 Z4f 2 bv)]<|.r0<|.bk [(0,0),(21,14),(22,15),(26,16)] rfl))
 (fun bh=>.o [(0,0),(17,27),(18,28),(19,29)])))
 (.pr fun bw=>.pr fun bx=>.st (.exit 0) (fun bz=>⟨[(0,.ptr 0 0 0),(1,qi a1),(4,.ptr 27 0 0),(5,.ptr 28 0 0),(6,qi av)],[w4_ 0 ⟨aa,bw,bx⟩,(27,some (qk0)),v2_ 28 [qi au,.own 29],q6 29 bz],1⟩) fun bz=>.join (.bd fun ca cb=>.sp (fun cc=>.rg [(1,jA call60 (Zu.ok aa bw bx ca cb)),(3,hB cc)]<|.o [(27,30),(28,31),(29,32),(0,0)])
 (fun cc=>.sp (fun cf=>.rg [(1,jA call60 (Zu.ok aa bw bx ca cb)),(3,hB cc),(7,hB cf)]<|.o [(27,30),(28,31),(29,32),(0,0)])
 (fun cf=>.bd fun cj cm=>.rg [(1,jA call60 (Zu.ok aa bw bx ca cb)),(3,hB cc),(7,hB cf),(10,h3 29 call215 (Z34.ok (⟨au,bz⟩:Ze) a1 cj cm))]<|.o [(27,30),(28,31),(29,32),(0,0)])))
 (.st .normal (fun cn=>⟨[(4,.ptr 30 0 0),(5,.ptr 31 0 0),(66,bV cn)],[w4_ 0 ⟨aa,bw,bx⟩,(30,some (qk0)),v2_ 31 [qi au,.own 32],q6 32 bz],1⟩) fun cn=>.cd (fun co=>.r0<|.ret [(0,0),(30,2)] [] [1] ⟨[(4,.ptr 2 0 0)],[w4_ 0 ⟨aa,bw,bx⟩,q6 1 ((⟨0,[]⟩:Ze).f1),v2_ 2 [qi ((⟨0,[]⟩:Ze).f0),.own 1]],1⟩)
 (fun co=>.r0<|.ru [(0,0),(30,2),(32,1)] ⟨[(4,.ptr 2 0 0)],[w4_ 0 ⟨aa,bw,bx⟩,q6 1 ((⟨au,bz⟩:Ze).f1),v2_ 2 [qi ((⟨au,bz⟩:Ze).f0),.own 1]],1⟩)))))
def Zq.l1 (a0:Ze) (aa:Z2u) (ab:Int) (ac:List Int) (ae af:Int):Option ((List Int)×Int):=if decide (af<aa.f1) then((chk ((ac.length+[ae].length)*8≤140737488355328))>>=fun _=>Zq.l1 a0 aa ab (ac++[ae]) (i64.wrap (ae+1)) (i64.wrap (af+1))) else(some (ac,ae))
partial_fixpoint
def Zq.l0 (a0:Ze) (aa:List Int) (ab ac:Int):Option (List Int):=if decide (ac<(a0.f1.length:Int)) then((at? a0.f1 ac)>>=fun ae=>(Zq.l1 a0 ae ac aa (i64.wrap (ab+ae.f0)) 0)>>=fun | (af,ah)=>(Zq.l0 a0 af ah (i64.wrap (ac+1)))) else(some aa)
partial_fixpoint
def Zq.f (a0:Ze):Option (List Int):=(Zq.l0 a0 [] a0.f0 0)>>=fun aa=>some aa
theorem Zq.ok (a0:Ze):FN 169 [.agg (Z2t a0)] [] 0 (Zq.f a0) (fun r=>.own 0) (fun r=>[q5 0 r]):=FT [0] func169 (.rg [(0,⟨.k 0,.n⟩)]<|.r0<|.r0<|.rg [(2,hG Z4f a0.f1)]<|.bl<|.loop (.c3 (Zq.l0.partial_correctness a0)) ([],a0.f0,0) [] [] [8] (fun _=>.pr fun aa=>.pr fun ab=>.one (fun ac=>⟨[(3,.own 8),(4,qi ab),(10,im a0.f1 Z4f),(11,qi (ln a0.f1)),(12,qi ac)],[q5 8 aa],0⟩) fun ac=>.r0<|.cd (fun ae=>.bl<|.el fun af ah ai=>.rg [(0,hA Z4f ah ai),(2,⟨.k 9,.n⟩)]<|.r0<|.r0<|.bl<|.lq (.c3 (Zq.l1.partial_correctness a0 af ac)) (aa,i64.wrap (ab+af.f0),0) [(8,12)] (fun _=>.pr fun aj=>.pr fun ak=>.one (fun al=>⟨[(3,.own 12),(4,qi ak),(10,im a0.f1 Z4f),(11,qi (ln a0.f1)),(12,qi ac),(21,qi af.f1),(22,qi al)],[q5 12 aj],0⟩) fun al=>.r0<|.cd (fun am=>.bl<|.ck fun ao=>.rg [(2,hQ 13 qe ([ak]:List Int)),(3,hP 14 qe 1 ao)]<|.r0<|.r0<|.bk [(14,12)] rfl)
 (fun am=>.o [(12,15)]))
 (.pr fun ap=>.st (.exit 2) (fun aq=>⟨[(3,.own 15),(4,qi aq),(10,im a0.f1 Z4f),(11,qi (ln a0.f1)),(12,qi ac)],[q5 15 ap],0⟩) fun aq=>.r0<|.bk [(15,8)] rfl))
 (fun ae=>.o [(8,16)]))
 (.st (.exit 0) (fun ar=>⟨[(3,.own 16)],[q5 16 ar],0⟩) fun ar=>.r0<|.ru [(16,0)] ⟨[(2,.own 0)],[q5 0 ar],0⟩))
def Z1o.l0 (a1 aa:List Int) (ab:List Z0) (ac:Int):Option (List Z0):=if decide (ac<(aa.length:Int)) then((at? aa ac)>>=fun ae=>((if decide (ac<(a1.length:Int)) then((at? a1 ac)>>=fun af=>some (decide (af>0))) else(some false)):Option Bool)>>=fun ah=>((if ah=true then((at? a1 ac)>>=fun ai=>(chk ((ab.length+[(⟨ae,ai⟩:Z0)].length)*16≤140737488355328))>>=fun _=>some (ab++[(⟨ae,ai⟩:Z0)])) else(some ab)):Option (List Z0))>>=fun aj=>Z1o.l0 a1 aa aj (i64.wrap (ac+1))) else(some ab)
partial_fixpoint
def Z1o.f (a0:Ze) (a1:List Int):Option (List Z0):=(Zq.f a0)>>=fun aa=>(Z1o.l0 a1 aa [] 0)>>=fun ab=>some ab
abbrev q7:=@RW _ 2 193 Z4
theorem Z1o.ok (a0:Ze) (a1:List Int):FN 216 [.agg (Z2t a0),.im (.row (a1.map qv))] [] 0 (Z1o.f a0 a1) (fun r=>.own 0) (fun r=>[q7 0 r]):=FT [0] func216 (.rg [(0,⟨.k 0,.n⟩)]<|.r0<|.bd fun aa ab=>.rg [(1,h1 1 call169 (Zq.ok a0 aa ab)),(2,hG qe aa)]<|.bl<|.loop (.c2 (Z1o.l0.partial_correctness a1 aa)) ([],0) [(1,8)] [] [7] (fun _=>.pr fun ac=>.one (fun ae=>⟨[(1,im a1 qv),(5,.own 7),(9,.own 8),(10,qi (ln aa)),(11,qi ae)],[q7 7 ac,q5 8 aa],0⟩) fun ae=>.r0<|.cd (fun af=>.bl<|.el fun ah ai aj=>.rg [(1,hX qe ai aj),(2,hL qe aj)]<|.join (.sp (fun ak=>.el fun al am ao=>.rg [(2,hG qv a1),(4,hB ak),(7,hA qv am ao)]<|.o [(7,9),(8,10)])
 (fun ak=>.rg [(2,hG qv a1),(4,hB ak)]<|.o [(7,9),(8,10)]))
 (.st .normal (fun ap=>⟨[(1,im a1 qv),(5,.own 9),(6,qi ae),(7,qi ah),(9,.own 10),(10,qi (ln aa)),(11,qi ae),(26,bV ap)],[q7 9 ac,q5 10 aa],0⟩) fun ap=>.join (.cd (fun aq=>.el fun ar au av=>.ck fun ax=>.rg [(4,hA qv au av),(7,hQ 11 Z4 ([(⟨ah,ar⟩:Z0)]:List Z0)),(8,hP 12 Z4 2 ax)]<|.o [(12,13),(10,14)])
 (fun aq=>.o [(9,13),(10,14)]))
 (.st .normal (fun az=>⟨[(1,im a1 qv),(5,.own 13),(9,.own 14),(10,qi (ln aa)),(11,qi ae)],[q7 13 az,q5 14 aa],0⟩) fun az=>.r0<|.bk [(13,7),(14,8)] rfl)))
 (fun af=>.o [(7,15)]))
 (.st (.exit 0) (fun ba=>⟨[(5,.own 15)],[q7 15 ba],0⟩) fun ba=>.r0<|.ru [(15,0)] ⟨[(4,.own 0)],[q7 0 ba],0⟩))
def Z0o.f (a0:List Z0):Option (List Z0):=(chk ((([]:List Z0).length+a0.length)*16≤140737488355328))>>=fun _=>some a0
theorem Z0o.ok (a0 r:List Z0) (H:Z0o.f a0=some r):Pv.Fn Tryz.prog 243 [.im (.row (a0.map Z4))] [] 0 (fun x o=>x = .own 0∧o=[q7 0 r]):=by
 unfold Z0o.f at H;obtain⟨c1,H⟩:=Z5f H;obtain rfl:=sj H;refine Fn.bodyK [0] func243 rfl rfl (fun Γ hP hn => ?_);have hm:Tryz.prog.follows .mixedOrders=true:=by kernel_rfl
 replace hn:Γ.n=8:=hn;refine AWp.seq ?_;refine reg hP hn hm [] [0,2] [] ⟨[(0,im a0 Z4),(2,.none0)],[],0⟩ [] (by kernel_rfl) trivial ?_;refine AWp.seq ?_;cases a0 with
 | nil =>
  refine AWp.nilSplit 0 rfl (fun b m => ?_);refine AWp.seq ?_;cases b with
  | none =>
   refine reg hP hn hm [(1,.more xNil)] [2,4] [] ⟨[(2,.none0),(4,bV true)],[],0⟩ [] (by kernel_rfl) trivial ?_;refine AWp.cond true rfl (fun _ => ?_) (fun h=>nomatch h);refine AWp.seq ?_;refine reg hP hn hm [] [2] [] ⟨[(2,.none0)],[],0⟩ [] (by kernel_rfl) trivial ?_;refine AWp.conv (inv:=[]) (vk:=[]) (e0:=[0]) (t:=⟨[(2,.own 0)],[(0,some (.row 2 193 []))],0⟩) (by kernel_rfl) ?_
   refine AWp.ret ?_;exact Exists.intro _ (And.intro (fun _ _ h=>h) (And.intro (.inl rfl) (And.intro rfl (And.intro (by kernel_rfl) (by kernel_rfl)))))
  | some b =>
   refine reg hP hn hm [(1,.more xNil)] [0,2,4] [] ⟨[(0,.im (.sc (.slice (some b) 0 m))),(2,.none0),(4,bV false)],[],0⟩ [] (by kernel_rfl) trivial ?_;refine AWp.cond false rfl (fun h=>nomatch h) (fun _ => ?_);refine AWp.skip ?_;refine AWp.unsplit 0 rfl ?_;refine AWp.seq ?_;refine reg hP hn hm [(0,.app 0 ([]:List (List Im))),(2,.app 1 (([]:List Z0).map Z4))] [2] [1] ⟨[(2,.own 1)],[q7 1 ([]:List Z0)],0⟩ [([]:List (List Im))=[],([]:List Z0).map Z4=([]:List (List Im))++([]:List Z0).map Z4,∀ c∈([]:List Z0).map Z4,c.length=2,∀ c∈([]:List Z0).map Z4,Z1s (c.map .im)=true,(([]:List (List Im)).length+(([]:List Z0).map Z4).length)*16≤140737488355328] (by kernel_rfl) ⟨rfl,by simp,by exact Z3c _ _ _ (fun _=>rfl),by exact Z2k _ _ (fun _=>rfl),by simpa using c1,trivial⟩ ?_;refine AWp.conv (inv:=[(1,0)]) (vk:=[]) (e0:=[]) (t:=⟨[(2,.own 0)],[q7 0 ([]:List Z0)],0⟩) (by kernel_rfl) ?_
   refine AWp.ret ?_;exact Exists.intro _ (And.intro (fun _ _ h=>h) (And.intro (.inl rfl) (And.intro rfl (And.intro (by kernel_rfl) (by kernel_rfl)))))
 | cons y l =>
  refine AWp.seq ?_;refine reg hP hn hm [(1,.more xNil)] [0,2,4] [] ⟨[(0,im (y::l) Z4),(2,.none0),(4,bV false)],[],0⟩ [] (by kernel_rfl) trivial ?_;refine AWp.cond false rfl (fun h=>nomatch h) (fun _ => ?_);refine AWp.skip ?_;refine AWp.seq ?_;refine reg hP hn hm [(0,.app 0 ([]:List (List Im))),(2,.app 1 ((y::l).map Z4))] [2] [1] ⟨[(2,.own 1)],[q7 1 (y::l)],0⟩ [([]:List (List Im))=[],(y::l).map Z4=([]:List (List Im))++(y::l).map Z4,∀ c∈(y::l).map Z4,c.length=2,∀ c∈(y::l).map Z4,Z1s (c.map .im)=true,(([]:List (List Im)).length+((y::l).map Z4).length)*16≤140737488355328] (by kernel_rfl) ⟨rfl,by simp,by exact Z3c _ _ _ (fun _=>rfl),by exact Z2k _ _ (fun _=>rfl),by simpa using c1,trivial⟩ ?_;refine AWp.conv (inv:=[(1,0)]) (vk:=[]) (e0:=[]) (t:=⟨[(2,.own 0)],[q7 0 (y::l)],0⟩) (by kernel_rfl) ?_
  refine AWp.ret ?_;exact Exists.intro _ (And.intro (fun _ _ h=>h) (And.intro (.inl rfl) (And.intro rfl (And.intro (by kernel_rfl) (by kernel_rfl)))))
def Z1i.f (a0:Int):Option Unit:=some ()
theorem Z1i.ok (a0:Int):F0 201 [qi a0] (Z1i.f a0) (fun r=>bV (a0 != a0)):=FT [] func201 (.r0<|.r0<|.rv ⟨[(2,bV (a0 != a0))],[],0⟩)
def Z40.f (a0 a1:Int):Option Int:=(Z1i.f a0)>>=fun aa=>(Z1i.f a1)>>=fun ab=>if a0 != a0 then(if a1 != a1 then(some 0) else(some (-1))) else(if a1 != a1 then(some 1) else(if decide (a0<a1) then(some (-1)) else(if decide (a0>a1) then(some 1) else(some 0))))
theorem Z40.ok (a0 a1:Int):F0 246 [qi a0,qi a1] (Z40.f a0 a1) (fun r=>qi r):=FT [] func246 (.r0<|.bd fun aa ab=>.rg [(1,qh call201 (Z1i.ok a0 aa ab))]<|.bd fun ac ae=>.rg [(1,qh call201 (Z1i.ok a1 ac ae))]<|.r0<|.cd (fun af=>.r0<|.cd (fun ah=>.r0<|.rv ⟨[(4,qi 0)],[],0⟩)
 (fun ah=>.r0<|.rv ⟨[(4,qi (-1))],[],0⟩))
 (fun af=>.r0<|.cd (fun ai=>.r0<|.rv ⟨[(4,qi 1)],[],0⟩)
 (fun ai=>.r0<|.cd (fun aj=>.r0<|.rv ⟨[(4,qi (-1))],[],0⟩)
 (fun aj=>.r0<|.cd (fun ak=>.r0<|.rv ⟨[(4,qi 1)],[],0⟩)
 (fun ak=>.r0<|.rv ⟨[(4,qi 0)],[],0⟩)))))
def Z2i.f (a0 a1:Z0):Option Int:=(Z40.f a0.f0 a1.f0)>>=fun aa=>some aa
theorem Z2i.ok (a0 a1:Z0):F0 245 [.agg (aBucket a0),.agg (aBucket a1)] (Z2i.f a0 a1) (fun r=>qi r):=FT [] func245 (.rg [(0,⟨.k 0,.n⟩),(1,⟨.k 1,.n⟩)]<|.bd fun aa ab=>.rg [(4,qh call246 (Z40.ok a0.f0 a1.f0 aa ab))]<|.rv ⟨[(4,qi aa)],[],0⟩)
def Zd.l1 (a1 a2 aa:Int) (ab:List Z0) (ac:Int):Option (List Z0):=((if decide (ac>a1) then((at? ab ac)>>=fun ae=>(at? ab (i64.wrap (ac-1)))>>=fun af=>(Z2i.f ae af)>>=fun ah=>some (decide (ah<0))) else(some false)):Option Bool)>>=fun ai=>if ai=true then((at? ab (i64.wrap (ac-1)))>>=fun aj=>(at? ab ac)>>=fun ak=>(at? (ab.set ac.toNat aj) (i64.wrap (ac-1)))>>=fun al=>Zd.l1 a1 a2 aa ((ab.set ac.toNat aj).set (i64.wrap (ac-1)).toNat ak) (i64.wrap (ac-1))) else(some ab)
partial_fixpoint
def Zd.l0 (a1 a2:Int) (aa:List Z0) (ab:Int):Option (List Z0):=if decide (ab<a2) then((Zd.l1 a1 a2 ab aa ab)>>=fun ac=>Zd.l0 a1 a2 ac (i64.wrap (ab+1))) else(some aa)
partial_fixpoint
def Zd.f (a0:List Z0) (a1 a2:Int):Option (List Z0):=(Zd.l0 a1 a2 a0 (i64.wrap (a1+1)))>>=fun aa=>some aa
theorem Zd.ok (a0:List Z0) (a1 a2:Int):FN 257 [.own 0,qi a1,qi a2,.im (qf 245)] [q7 0 a0] 1 (Zd.f a0 a1 a2) (fun r=>.tup []) (fun r=>[q7 0 r]):=FT [0] func257 (.r0<|.bl<|.lq (.c2 (Zd.l0.partial_correctness a1 a2)) (a0,i64.wrap (a1+1)) [(0,0)] (fun _=>.pr fun aa=>.one (fun ab=>⟨[(0,.own 0),(1,qi a1),(2,qi a2),(3,.im (qf 245)),(8,qi ab)],[q7 0 aa],1⟩) fun ab=>.r0<|.cd (fun ac=>.bl<|.r0<|.bl<|.lq (.c2 (Zd.l1.partial_correctness a1 a2 ab)) (aa,ab) [(0,0)] (fun _=>.pr fun ae=>.one (fun af=>⟨[(0,.own 0),(1,qi a1),(2,qi a2),(3,.im (qf 245)),(8,qi ab),(9,qi af)],[q7 0 ae],1⟩) fun af=>.join (.sp (fun ah=>.el fun ai aj ak=>.el fun al am ao=>.bd fun ap aq=>.rg [(3,hB ah),(7,hX Z4 aj ak),(8,hL Z4 ak),(12,hX Z4 am ao),(13,hL Z4 ao),(14,qh call245 (Z2i.ok ai al ap aq))]<|.o [(0,0)])
 (fun ah=>.rg [(3,hB ah)]<|.o [(0,0)]))
 (.st .normal (fun ar=>⟨[(0,.own 0),(1,qi a1),(2,qi a2),(3,.im (qf 245)),(8,qi ab),(9,qi af),(34,bV ar)],[q7 0 ae],1⟩) fun ar=>.cd (fun au=>.bl<|.el fun av ax az=>.el fun ba bb bc=>.el fun be bf bg=>.rg [(8,hX Z4 ax az),(9,hL Z4 az),(12,hX Z4 bb bc),(13,hL Z4 bc),(14,hX Z4 bb bc),(15,hS Z4 av 0 [iI .i64 av.f0,iI .u64 av.f1] bc),(16,hX Z4 bf bg),(17,hS Z4 ba 0 [iI .i64 ba.f0,iI .u64 ba.f1] bg)]<|.r0<|.bk [(0,0)] rfl)
 (fun au=>.o [(0,0)])))
 (.st (.exit 2) (fun bh=>⟨[(0,.own 0),(1,qi a1),(2,qi a2),(3,.im (qf 245)),(8,qi ab)],[q7 0 bh],1⟩) fun bh=>.r0<|.bk [(0,0)] rfl))
 (fun ac=>.o [(0,0)]))
 (.st (.exit 0) (fun bi=>⟨[],[q7 0 bi],1⟩) fun bi=>.ru [(0,0)] ⟨[],[q7 0 bi],1⟩))
def Zj.l0 (a1 a2 a3:Int) (aa:List Z0) (ab:Int):Option (List Z0):=if decide (ab<a3) then((at? aa (i64.wrap (a2+ab)))>>=fun ac=>(at? aa (i64.wrap (a1+ab)))>>=fun ae=>(at? (aa.set (i64.wrap (a1+ab)).toNat ac) (i64.wrap (a2+ab)))>>=fun af=>Zj.l0 a1 a2 a3 ((aa.set (i64.wrap (a1+ab)).toNat ac).set (i64.wrap (a2+ab)).toNat ae) (i64.wrap (ab+1))) else(some aa)
partial_fixpoint
def Zj.f (a0:List Z0) (a1 a2 a3:Int):Option (List Z0):=(Zj.l0 a1 a2 a3 a0 0)>>=fun aa=>some aa
theorem Zj.ok (a0:List Z0) (a1 a2 a3:Int):FN 261 [.own 0,qi a1,qi a2,qi a3,.im (qf 245)] [q7 0 a0] 1 (Zj.f a0 a1 a2 a3) (fun r=>.tup []) (fun r=>[q7 0 r]):=FT [0] func261 (.r0<|.bl<|.lq (.c2 (Zj.l0.partial_correctness a1 a2 a3)) (a0,0) [(0,0)] (fun _=>.pr fun aa=>.one (fun ab=>⟨[(0,.own 0),(1,qi a1),(2,qi a2),(3,qi a3),(10,qi ab)],[q7 0 aa],1⟩) fun ab=>.r0<|.cd (fun ac=>.bl<|.el fun ae af ah=>.el fun ai aj ak=>.el fun al am ao=>.rg [(12,hX Z4 af ah),(13,hL Z4 ah),(18,hX Z4 aj ak),(19,hL Z4 ak),(20,hX Z4 aj ak),(21,hS Z4 ae 0 [iI .i64 ae.f0,iI .u64 ae.f1] ak),(22,hX Z4 am ao),(23,hS Z4 ai 0 [iI .i64 ai.f0,iI .u64 ai.f1] ao)]<|.r0<|.bk [(0,0)] rfl)
 (fun ac=>.o [(0,0)]))
 (.st (.exit 0) (fun ap=>⟨[],[q7 0 ap],1⟩) fun ap=>.ru [(0,0)] ⟨[],[q7 0 ap],1⟩))
def Zx.l0 (a2:Int) (aa:List Z0) (ab ac:Int):Option ((List Z0)×Int):=if ab != ac then(((if decide (ab>ac) then((Zj.f aa (i64.wrap (a2-ab)) a2 ac)>>=fun ae=>some (ae,i64.wrap (ab-ac),ac)) else((Zj.f aa (i64.wrap (a2-ab)) (i64.wrap ((i64.wrap (a2+ac))-ab)) ab)>>=fun af=>some (af,ab,i64.wrap (ac-ab)))):Option ((List Z0)×Int×Int))>>=fun | (ah,ai,aj)=>(Zx.l0 a2 ah ai aj)) else(some (aa,ab))
partial_fixpoint
def Zx.f (a0:List Z0) (a1 a2 a3:Int):Option (List Z0):=(Zx.l0 a2 a0 (i64.wrap (a2-a1)) (i64.wrap (a3-a2)))>>=fun | (aa,ab)=>((Zj.f aa (i64.wrap (a2-ab)) a2 ab)>>=fun ac=>some ac)
theorem Zx.ok (a0:List Z0) (a1 a2 a3:Int):FN 260 [.own 0,qi a1,qi a2,qi a3,.im (qf 245)] [q7 0 a0] 1 (Zx.f a0 a1 a2 a3) (fun r=>.tup []) (fun r=>[q7 0 r]):=FT [0] func260 (.r0<|.r0<|.bl<|.lq (.c3 (Zx.l0.partial_correctness a2)) (a0,i64.wrap (a2-a1),i64.wrap (a3-a2)) [(0,0)] (fun _=>.pr fun aa=>.pr fun ab=>.one (fun ac=>⟨[(0,.own 0),(2,qi a2),(4,.im (qf 245)),(10,qi ab),(11,qi ac)],[q7 0 aa],1⟩) fun ac=>.r0<|.cd (fun ae=>.bl<|.r0<|.join (.cd (fun af=>.bd fun ah ai=>.rg [(7,jA call261 (Zj.ok aa (i64.wrap (a2-ab)) a2 ac ah ai))]<|.r0<|.o [(0,0)])
 (fun af=>.bd fun aj ak=>.rg [(11,jA call261 (Zj.ok aa (i64.wrap (a2-ab)) (i64.wrap ((i64.wrap (a2+ac))-ab)) ab aj ak))]<|.r0<|.o [(0,0)]))
 (.pr fun al=>.pr fun am=>.st .normal (fun ao=>⟨[(0,.own 0),(2,qi a2),(4,.im (qf 245)),(10,qi am),(11,qi ao)],[q7 0 al],1⟩) fun ao=>.bk [(0,0)] rfl))
 (fun ae=>.o [(0,0)]))
 (.pr fun ap=>.st (.exit 0) (fun aq=>⟨[(0,.own 0),(2,qi a2),(4,.im (qf 245)),(10,qi aq)],[q7 0 ap],1⟩) fun aq=>.bd fun ar au=>.rg [(7,jA call261 (Zj.ok ap (i64.wrap (a2-aq)) a2 aq ar au))]<|.ru [(0,0)] ⟨[],[q7 0 ar],1⟩))
def Z3.l0 (a0:List Z0) (a1 aa ab:Int):Option Int:=if decide (aa<ab) then((at? a0 (i64.wrap (Int.fdiv (u64.wrap (i64.wrap (aa+ab))) 2)))>>=fun ac=>(at? a0 a1)>>=fun ae=>(Z2i.f ac ae)>>=fun af=>((if decide (af<0) then(some (i64.wrap ((i64.wrap (Int.fdiv (u64.wrap (i64.wrap (aa+ab))) 2))+1),ab)) else(some (aa,i64.wrap (Int.fdiv (u64.wrap (i64.wrap (aa+ab))) 2)))):Option (Int×Int))>>=fun | (ah,ai)=>(Z3.l0 a0 a1 ah ai)) else(some aa)
partial_fixpoint
def Z3.l1 (aa:Int) (ab:List Z0) (ac:Int):Option (List Z0):=if decide (ac<(i64.wrap (aa-1))) then((at? ab (i64.wrap (ac+1)))>>=fun ae=>(at? ab ac)>>=fun af=>(at? (ab.set ac.toNat ae) (i64.wrap (ac+1)))>>=fun ah=>Z3.l1 aa ((ab.set ac.toNat ae).set (i64.wrap (ac+1)).toNat af) (i64.wrap (ac+1))) else(some ab)
partial_fixpoint
def Z3.l2 (a0:List Z0) (a2 aa ab:Int):Option Int:=if decide (aa<ab) then((at? a0 a2)>>=fun ac=>(at? a0 (i64.wrap (Int.fdiv (u64.wrap (i64.wrap (aa+ab))) 2)))>>=fun ae=>(Z2i.f ac ae)>>=fun af=>((if !(decide (af<0)) then(some (i64.wrap ((i64.wrap (Int.fdiv (u64.wrap (i64.wrap (aa+ab))) 2))+1),ab)) else(some (aa,i64.wrap (Int.fdiv (u64.wrap (i64.wrap (aa+ab))) 2)))):Option (Int×Int))>>=fun | (ah,ai)=>(Z3.l2 a0 a2 ah ai)) else(some aa)
partial_fixpoint
def Z3.l3 (aa:Int) (ab:List Z0) (ac:Int):Option (List Z0):=if decide (ac>aa) then((at? ab (i64.wrap (ac-1)))>>=fun ae=>(at? ab ac)>>=fun af=>(at? (ab.set ac.toNat ae) (i64.wrap (ac-1)))>>=fun ah=>Z3.l3 aa ((ab.set ac.toNat ae).set (i64.wrap (ac-1)).toNat af) (i64.wrap (ac-1))) else(some ab)
partial_fixpoint
def Z3.l4 (a0:List Z0) (a1 a2 a3 aa ab:Int):Option Int:=if decide (aa<ab) then((at? a0 (i64.wrap ((i64.wrap ((i64.wrap ((i64.wrap (Int.fdiv (u64.wrap (i64.wrap (a1+a3))) 2))+a2))-1))-(i64.wrap (Int.fdiv (u64.wrap (i64.wrap (aa+ab))) 2)))))>>=fun ac=>(at? a0 (i64.wrap (Int.fdiv (u64.wrap (i64.wrap (aa+ab))) 2)))>>=fun ae=>(Z2i.f ac ae)>>=fun af=>((if !(decide (af<0)) then(some (i64.wrap ((i64.wrap (Int.fdiv (u64.wrap (i64.wrap (aa+ab))) 2))+1),ab)) else(some (aa,i64.wrap (Int.fdiv (u64.wrap (i64.wrap (aa+ab))) 2)))):Option (Int×Int))>>=fun | (ah,ai)=>(Z3.l4 a0 a1 a2 a3 ah ai)) else(some aa)
partial_fixpoint
def Z3.f (a0:List Z0) (a1 a2 a3:Int):Option (List Z0):=if(i64.wrap (a2-a1))==1 then((Z3.l0 a0 a1 a2 a3)>>=fun aa=>(Z3.l1 aa a0 a1)>>=fun ab=>some ab) else(if(i64.wrap (a3-a2))==1 then((Z3.l2 a0 a2 a1 a2)>>=fun ac=>(Z3.l3 ac a0 a2)>>=fun ae=>some ae) else(((if decide (a2>(i64.wrap (Int.fdiv (u64.wrap (i64.wrap (a1+a3))) 2))) then(some (i64.wrap ((i64.wrap ((i64.wrap (Int.fdiv (u64.wrap (i64.wrap (a1+a3))) 2))+a2))-a3),i64.wrap (Int.fdiv (u64.wrap (i64.wrap (a1+a3))) 2))) else(some (a1,a2))):Option (Int×Int))>>=fun | (af,ah)=>((Z3.l4 a0 a1 a2 a3 af ah)>>=fun ai=>((if decide (ai<a2) then(some (decide (a2<(i64.wrap ((i64.wrap ((i64.wrap (Int.fdiv (u64.wrap (i64.wrap (a1+a3))) 2))+a2))-ai))))) else(some false)):Option Bool)>>=fun aj=>((if aj=true then((Zx.f a0 ai a2 (i64.wrap ((i64.wrap ((i64.wrap (Int.fdiv (u64.wrap (i64.wrap (a1+a3))) 2))+a2))-ai)))>>=fun ak=>some ak) else(some a0)):Option (List Z0))>>=fun al=>((if decide (a1<ai) then(some (decide (ai<(i64.wrap (Int.fdiv (u64.wrap (i64.wrap (a1+a3))) 2))))) else(some false)):Option Bool)>>=fun am=>((if am=true then((Z3.f al a1 ai (i64.wrap (Int.fdiv (u64.wrap (i64.wrap (a1+a3))) 2)))>>=fun ao=>some ao) else(some al)):Option (List Z0))>>=fun ap=>((if decide ((i64.wrap (Int.fdiv (u64.wrap (i64.wrap (a1+a3))) 2))<(i64.wrap ((i64.wrap ((i64.wrap (Int.fdiv (u64.wrap (i64.wrap (a1+a3))) 2))+a2))-ai))) then(some (decide ((i64.wrap ((i64.wrap ((i64.wrap (Int.fdiv (u64.wrap (i64.wrap (a1+a3))) 2))+a2))-ai))<a3))) else(some false)):Option Bool)>>=fun aq=>((if aq=true then((Z3.f ap (i64.wrap (Int.fdiv (u64.wrap (i64.wrap (a1+a3))) 2)) (i64.wrap ((i64.wrap ((i64.wrap (Int.fdiv (u64.wrap (i64.wrap (a1+a3))) 2))+a2))-ai)) a3)>>=fun ar=>some ar) else(some ap)):Option (List Z0))>>=fun au=>some au)))
partial_fixpoint
theorem Z3.ok (a0:List Z0) (a1 a2 a3:Int) (r:List Z0) (H:Z3.f a0 a1 a2 a3=some r):Pv.Fn Tryz.prog 258 [.own 0,qi a1,qi a2,qi a3,.im (qf 245)] [q7 0 a0] 1 (fun x o=>x = .tup []∧o=[q7 0 r]):=by
 refine Z3.f.partial_correctness (motive:=fun a0 a1 a2 a3 r=>Pv.Fn Tryz.prog 258 [.own 0,qi a1,qi a2,qi a3,.im (qf 245)] [q7 0 a0] 1 (fun x o=>x = .tup []∧o=[q7 0 r])) ?_ a0 a1 a2 a3 r H;clear H a0 a1 a2 a3 r;intro self ihF a0 a1 a2 a3 r H;exact HT.fn H (fun r=>.tup []) (fun r=>[q7 0 r]) [0] func258 rfl rfl hmx (.r0<|.cd (fun aa=>.r0<|.r0<|.bl<|.loop (.c2 (Z3.l0.partial_correctness a0 a1)) (a2,a3) [(0,0)] [] [] (fun _=>.pr fun ab=>.one (fun ac=>⟨[(0,.own 0),(1,qi a1),(4,.im (qf 245)),(10,qi ab),(11,qi ac)],[q7 0 a0],1⟩) fun ac=>.r0<|.cd (fun ae=>.bl<|.rg [(4,hK 1)]<|.el fun af ah ai=>.el fun aj ak al=>.bd fun am ao=>.rg [(3,hX Z4 ah ai),(4,hL Z4 ai),(7,hX Z4 ak al),(8,hL Z4 al),(9,qh call245 (Z2i.ok af aj am ao))]<|.join (.cd (fun ap=>.r0<|.o [(0,0)])
 (fun ap=>.r0<|.o [(0,0)]))
 (.pr fun aq=>.st .normal (fun ar=>⟨[(0,.own 0),(1,qi a1),(4,.im (qf 245)),(10,qi aq),(11,qi ar)],[q7 0 a0],1⟩) fun ar=>.bk [(0,0)] rfl))
 (fun ae=>.o [(0,0)]))
 (.st (.exit 0) (fun au=>⟨[(0,.own 0),(1,qi a1),(10,qi au)],[q7 0 a0],1⟩) fun au=>.r0<|.bl<|.loop (.c2 (Z3.l1.partial_correctness au)) (a0,a1) [(0,0)] [] [] (fun _=>.pr fun av=>.one (fun ax=>⟨[(0,.own 0),(10,qi au),(13,qi ax)],[q7 0 av],1⟩) fun ax=>.r0<|.cd (fun az=>.bl<|.el fun ba bb bc=>.el fun be bf bg=>.el fun bh bi bj=>.rg [(8,hX Z4 bb bc),(9,hL Z4 bc),(12,hX Z4 bf bg),(13,hL Z4 bg),(14,hX Z4 bf bg),(15,hS Z4 ba 0 [iI .i64 ba.f0,iI .u64 ba.f1] bg),(16,hX Z4 bi bj),(17,hS Z4 be 0 [iI .i64 be.f0,iI .u64 be.f1] bj)]<|.r0<|.bk [(0,0)] rfl)
 (fun az=>.o [(0,0)]))
 (.st (.exit 2) (fun bn=>⟨[],[q7 0 bn],1⟩) fun bn=>.ru [(0,0)] ⟨[],[q7 0 bn],1⟩)))
 (fun aa=>.r0<|.cd (fun bo=>.r0<|.r0<|.bl<|.loop (.c2 (Z3.l2.partial_correctness a0 a2)) (a1,a2) [(0,0)] [] [] (fun _=>.pr fun bp=>.one (fun bq=>⟨[(0,.own 0),(2,qi a2),(4,.im (qf 245)),(14,qi bp),(15,qi bq)],[q7 0 a0],1⟩) fun bq=>.r0<|.cd (fun br=>.bl<|.rg [(4,hK 1)]<|.el fun bu bv bw=>.el fun bx bz ca=>.bd fun cb cc=>.rg [(3,hX Z4 bv bw),(4,hL Z4 bw),(7,hX Z4 bz ca),(8,hL Z4 ca),(9,qh call245 (Z2i.ok bu bx cb cc))]<|.join (.cd (fun cf=>.r0<|.o [(0,0)])
 (fun cf=>.r0<|.o [(0,0)]))
 (.pr fun cj=>.st .normal (fun cm=>⟨[(0,.own 0),(2,qi a2),(4,.im (qf 245)),(14,qi cj),(15,qi cm)],[q7 0 a0],1⟩) fun cm=>.bk [(0,0)] rfl))
 (fun br=>.o [(0,0)]))
 (.st (.exit 4) (fun cn=>⟨[(0,.own 0),(2,qi a2),(14,qi cn)],[q7 0 a0],1⟩) fun cn=>.r0<|.bl<|.loop (.c2 (Z3.l3.partial_correctness cn)) (a0,a2) [(0,0)] [] [] (fun _=>.pr fun co=>.one (fun ct=>⟨[(0,.own 0),(14,qi cn),(17,qi ct)],[q7 0 co],1⟩) fun ct=>.r0<|.cd (fun cw=>.bl<|.el fun cx cy cz=>.el fun c8 c9 da=>.el fun db dc de=>.rg [(8,hX Z4 cy cz),(9,hL Z4 cz),(12,hX Z4 c9 da),(13,hL Z4 da),(14,hX Z4 c9 da),(15,hS Z4 cx 0 [iI .i64 cx.f0,iI .u64 cx.f1] da),(16,hX Z4 dc de),(17,hS Z4 c8 0 [iI .i64 c8.f0,iI .u64 c8.f1] de)]<|.r0<|.bk [(0,0)] rfl)
 (fun cw=>.o [(0,0)]))
 (.st (.exit 6) (fun df=>⟨[],[q7 0 df],1⟩) fun df=>.ru [(0,0)] ⟨[],[q7 0 df],1⟩)))
 (fun bo=>.rg [(4,hK 1)]<|.r0<|.r0<|.r0<|.join (.cd (fun dg=>.r0<|.r0<|.o [(0,0)])
 (fun dg=>.r0<|.r0<|.o [(0,0)]))
 (.pr fun dh=>.st .normal (fun di=>⟨[(0,.own 0),(1,qi a1),(2,qi a2),(3,qi a3),(4,.im (qf 245)),(18,qi (i64.wrap (Int.fdiv (u64.wrap (i64.wrap (a1+a3))) 2))),(19,qi (i64.wrap ((i64.wrap (Int.fdiv (u64.wrap (i64.wrap (a1+a3))) 2))+a2))),(20,qi dh),(21,qi di)],[q7 0 a0],1⟩) fun di=>.r0<|.bl<|.loop (.c2 (Z3.l4.partial_correctness a0 a1 a2 a3)) (dh,di) [(0,0)] [] [] (fun _=>.pr fun dj=>.one (fun dk=>⟨[(0,.own 0),(1,qi a1),(2,qi a2),(3,qi a3),(4,.im (qf 245)),(18,qi (i64.wrap (Int.fdiv (u64.wrap (i64.wrap (a1+a3))) 2))),(19,qi (i64.wrap ((i64.wrap (Int.fdiv (u64.wrap (i64.wrap (a1+a3))) 2))+a2))),(20,qi dj),(21,qi dk),(22,qi (i64.wrap ((i64.wrap ((i64.wrap (Int.fdiv (u64.wrap (i64.wrap (a1+a3))) 2))+a2))-1)))],[q7 0 a0],1⟩) fun dk=>.r0<|.cd (fun dm=>.bl<|.rg [(4,hK 1)]<|.el fun dp dq dr=>.el fun dt du dv=>.bd fun dw dx=>.rg [(5,hX Z4 dq dr),(6,hL Z4 dr),(9,hX Z4 du dv),(10,hL Z4 dv),(11,qh call245 (Z2i.ok dp dt dw dx))]<|.join (.cd (fun dy=>.r0<|.o [(0,0)])
 (fun dy=>.r0<|.o [(0,0)]))
 (.pr fun dz=>.st .normal (fun d5=>⟨[(0,.own 0),(1,qi a1),(2,qi a2),(3,qi a3),(4,.im (qf 245)),(18,qi (i64.wrap (Int.fdiv (u64.wrap (i64.wrap (a1+a3))) 2))),(19,qi (i64.wrap ((i64.wrap (Int.fdiv (u64.wrap (i64.wrap (a1+a3))) 2))+a2))),(20,qi dz),(21,qi d5),(22,qi (i64.wrap ((i64.wrap ((i64.wrap (Int.fdiv (u64.wrap (i64.wrap (a1+a3))) 2))+a2))-1)))],[q7 0 a0],1⟩) fun d5=>.bk [(0,0)] rfl))
 (fun dm=>.o [(0,0)]))
 (.st (.exit 8) (fun d9=>⟨[(0,.own 0),(1,qi a1),(2,qi a2),(3,qi a3),(4,.im (qf 245)),(18,qi (i64.wrap (Int.fdiv (u64.wrap (i64.wrap (a1+a3))) 2))),(19,qi (i64.wrap ((i64.wrap (Int.fdiv (u64.wrap (i64.wrap (a1+a3))) 2))+a2))),(20,qi d9)],[q7 0 a0],1⟩) fun d9=>.r0<|.join (.sp (fun ea=>.rg [(3,hB ea)]<|.o [(0,0)])
 (fun ea=>.rg [(3,hB ea)]<|.o [(0,0)]))
 (.st .normal (fun ed=>⟨[(0,.own 0),(1,qi a1),(2,qi a2),(3,qi a3),(4,.im (qf 245)),(18,qi (i64.wrap (Int.fdiv (u64.wrap (i64.wrap (a1+a3))) 2))),(20,qi d9),(24,qi (i64.wrap ((i64.wrap ((i64.wrap (Int.fdiv (u64.wrap (i64.wrap (a1+a3))) 2))+a2))-d9))),(185,bV ed)],[q7 0 a0],1⟩) fun ed=>.join (.cd (fun ee=>.bd fun eg eh=>.rg [(5,jA call260 (Zx.ok a0 d9 a2 (i64.wrap ((i64.wrap ((i64.wrap (Int.fdiv (u64.wrap (i64.wrap (a1+a3))) 2))+a2))-d9)) eg eh))]<|.o [(0,0)])
 (fun ee=>.o [(0,0)]))
 (.st .normal (fun ei=>⟨[(0,.own 0),(1,qi a1),(3,qi a3),(4,.im (qf 245)),(18,qi (i64.wrap (Int.fdiv (u64.wrap (i64.wrap (a1+a3))) 2))),(20,qi d9),(24,qi (i64.wrap ((i64.wrap ((i64.wrap (Int.fdiv (u64.wrap (i64.wrap (a1+a3))) 2))+a2))-d9)))],[q7 0 ei],1⟩) fun ei=>.join (.sp (fun ej=>.rg [(3,hB ej)]<|.o [(0,0)])
 (fun ej=>.rg [(3,hB ej)]<|.o [(0,0)]))
 (.st .normal (fun em=>⟨[(0,.own 0),(1,qi a1),(3,qi a3),(4,.im (qf 245)),(18,qi (i64.wrap (Int.fdiv (u64.wrap (i64.wrap (a1+a3))) 2))),(20,qi d9),(24,qi (i64.wrap ((i64.wrap ((i64.wrap (Int.fdiv (u64.wrap (i64.wrap (a1+a3))) 2))+a2))-d9))),(199,bV em)],[q7 0 ei],1⟩) fun em=>.join (.cd (fun en=>.bd fun eo ep=>.rg [(5,jA call258 (ihF ei a1 d9 (i64.wrap (Int.fdiv (u64.wrap (i64.wrap (a1+a3))) 2)) _ ep))]<|.o [(0,0)])
 (fun en=>.o [(0,0)]))
 (.st .normal (fun eq=>⟨[(0,.own 0),(3,qi a3),(4,.im (qf 245)),(18,qi (i64.wrap (Int.fdiv (u64.wrap (i64.wrap (a1+a3))) 2))),(24,qi (i64.wrap ((i64.wrap ((i64.wrap (Int.fdiv (u64.wrap (i64.wrap (a1+a3))) 2))+a2))-d9)))],[q7 0 eq],1⟩) fun eq=>.join (.sp (fun eu=>.rg [(3,hB eu)]<|.o [(0,0)])
 (fun eu=>.rg [(3,hB eu)]<|.o [(0,0)]))
 (.st .normal (fun ev=>⟨[(0,.own 0),(3,qi a3),(4,.im (qf 245)),(18,qi (i64.wrap (Int.fdiv (u64.wrap (i64.wrap (a1+a3))) 2))),(24,qi (i64.wrap ((i64.wrap ((i64.wrap (Int.fdiv (u64.wrap (i64.wrap (a1+a3))) 2))+a2))-d9))),(213,bV ev)],[q7 0 eq],1⟩) fun ev=>.join (.cd (fun ew=>.bd fun ey ez=>.rg [(5,jA call258 (ihF eq (i64.wrap (Int.fdiv (u64.wrap (i64.wrap (a1+a3))) 2)) (i64.wrap ((i64.wrap ((i64.wrap (Int.fdiv (u64.wrap (i64.wrap (a1+a3))) 2))+a2))-d9)) a3 _ ez))]<|.o [(0,0)])
 (fun ew=>.o [(0,0)]))
 (.st .normal (fun fc=>⟨[],[q7 0 fc],1⟩) fun fc=>.ru [(0,0)] ⟨[],[q7 0 fc],1⟩)))))))))))
def Zf.l0 (a1:Int) (aa:List Z0) (ab ac:Int):Option ((List Z0)×Int):=if decide (ac≤a1) then((Zd.f aa ab ac)>>=fun ae=>Zf.l0 a1 ae ac (i64.wrap (ac+20))) else(some (aa,ab))
partial_fixpoint
def Zf.l2 (a1 aa:Int) (ab:List Z0) (ac ae:Int):Option ((List Z0)×Int):=if decide (ae≤a1) then((Z3.f ab ac (i64.wrap (ac+aa)) ae)>>=fun af=>Zf.l2 a1 aa af ae (i64.wrap (ae+(i64.wrap ((2:Int)*aa))))) else(some (ab,ac))
partial_fixpoint
def Zf.l1 (a1:Int) (aa:List Z0) (ab:Int):Option (List Z0):=if decide (ab<a1) then((Zf.l2 a1 ab aa 0 (i64.wrap ((2:Int)*ab)))>>=fun | (ac,ae)=>(((if decide ((i64.wrap (ae+ab))<a1) then((Z3.f ac ae (i64.wrap (ae+ab)) a1)>>=fun af=>some af) else(some ac)):Option (List Z0))>>=fun ah=>Zf.l1 a1 ah (i64.wrap (ab*2)))) else(some aa)
partial_fixpoint
def Zf.f (a0:List Z0) (a1:Int):Option (List Z0):=(Zf.l0 a1 a0 0 20)>>=fun | (aa,ab)=>((Zd.f aa ab a1)>>=fun ac=>(Zf.l1 a1 ac 20)>>=fun ae=>some ae)
theorem Zf.ok (a0:List Z0) (a1:Int):FN 252 [.own 0,qi a1,.im (qf 245)] [q7 0 a0] 1 (Zf.f a0 a1) (fun r=>.tup []) (fun r=>[q7 0 r]):=FT [0] func252 (.r0<|.r0<|.bl<|.lq (.c3 (Zf.l0.partial_correctness a1)) (a0,0,20) [(0,0)] (fun _=>.pr fun aa=>.pr fun ab=>.one (fun ac=>⟨[(0,.own 0),(1,qi a1),(2,.im (qf 245)),(6,qi 20),(7,qi ab),(8,qi ac)],[q7 0 aa],1⟩) fun ac=>.r0<|.cd (fun ae=>.bl<|.bd fun af ah=>.rg [(4,jA call257 (Zd.ok aa ab ac af ah))]<|.r0<|.r0<|.bk [(0,0)] rfl)
 (fun ae=>.o [(0,0)]))
 (.pr fun ai=>.st (.exit 0) (fun aj=>⟨[(0,.own 0),(1,qi a1),(2,.im (qf 245)),(6,qi 20),(7,qi aj)],[q7 0 ai],1⟩) fun aj=>.bd fun ak al=>.rg [(4,jA call257 (Zd.ok ai aj a1 ak al))]<|.bl<|.lq (.c2 (Zf.l1.partial_correctness a1)) (ak,20) [(0,0)] (fun _=>.pr fun am=>.one (fun ao=>⟨[(0,.own 0),(1,qi a1),(2,.im (qf 245)),(6,qi ao)],[q7 0 am],1⟩) fun ao=>.r0<|.cd (fun ap=>.bl<|.r0<|.bl<|.lq (.c3 (Zf.l2.partial_correctness a1 ao)) (am,0,i64.wrap ((2:Int)*ao)) [(0,0)] (fun _=>.pr fun aq=>.pr fun ar=>.one (fun au=>⟨[(0,.own 0),(1,qi a1),(2,.im (qf 245)),(6,qi ao),(7,qi ar),(8,qi au)],[q7 0 aq],1⟩) fun au=>.r0<|.cd (fun av=>.bl<|.bd fun ax az=>.rg [(7,jA call258 (Z3.ok aq ar (i64.wrap (ar+ao)) au ax az))]<|.r0<|.r0<|.bk [(0,0)] rfl)
 (fun av=>.o [(0,0)]))
 (.pr fun ba=>.st (.exit 4) (fun bb=>⟨[(0,.own 0),(1,qi a1),(2,.im (qf 245)),(6,qi ao),(7,qi bb)],[q7 0 ba],1⟩) fun bb=>.r0<|.r0<|.join (.cd (fun bc=>.bd fun be bf=>.rg [(5,jA call258 (Z3.ok ba bb (i64.wrap (bb+ao)) a1 be bf))]<|.o [(0,0)])
 (fun bc=>.o [(0,0)]))
 (.st .normal (fun bg=>⟨[(0,.own 0),(1,qi a1),(2,.im (qf 245)),(6,qi ao)],[q7 0 bg],1⟩) fun bg=>.r0<|.bk [(0,0)] rfl)))
 (fun ap=>.o [(0,0)]))
 (.st (.exit 2) (fun bh=>⟨[],[q7 0 bh],1⟩) fun bh=>.ru [(0,0)] ⟨[],[q7 0 bh],1⟩)))
def Z0p.f (a0:List Z0):Option (List Z0):=(Zf.f a0 (a0.length:Int))>>=fun aa=>some aa
theorem Z0p.ok (a0:List Z0):FN 244 [.own 0,.im (qf 245)] [q7 0 a0] 1 (Z0p.f a0) (fun r=>.tup []) (fun r=>[q7 0 r]):=FT [0] func244 (.bd fun aa ab=>.rg [(2,hG Z4 a0),(4,jA call252 (Zf.ok a0 (ln a0) aa ab))]<|.ru [(0,0)] ⟨[],[q7 0 aa],1⟩)
end Go.Proofs.YtpoihfcehejgfaaGreat.PvGS2
