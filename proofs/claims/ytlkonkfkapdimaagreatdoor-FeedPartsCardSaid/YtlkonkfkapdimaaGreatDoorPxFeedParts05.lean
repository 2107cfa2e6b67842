import Derived.Shelf.Strconv.Itoa4
import Derived.Test.YtlkonkfkapdimaaGreatDoorProg
import Derived.Test.YtlkonkfkapdimaaGreatDoorPxFeedParts04
set_option linter.unusedVariables false
set_option linter.unnecessarySimpa false
set_option linter.unusedSimpArgs false
set_option maxRecDepth 10000
namespace Go.Proofs.YtlkonkfkapdimaaGreatDoor.PvGR
open Go Go.Pv Tryz Go.IntKind
structure Zp where
 f0:ByteArray
 f1:ByteArray
 deriving DecidableEq,Inhabited
abbrev Z17 (x:Zp):List Im:=[sI x.f0,sI x.f1]
structure RLabel (x:Zp):Prop where
 r0:x.f0.size≤maxLen
 r1:x.f1.size≤maxLen
structure Z2 where
 f0:Int
 f1:Int
 deriving DecidableEq,Inhabited
abbrev Z4 (x:Z2):List Im:=[iI .i64 x.f0,iI .u64 x.f1]
abbrev aBucket (x:Z2):List AVal:=[iV .i64 x.f0,iV .u64 x.f1]
structure RBucket (x:Z2):Prop where
 r0:I64 x.f0
 r1:U64 x.f1
structure Zi where
 f0:Int
 f1:Int
 f2:Int
 f3:Int
 f4:Int
 f5:Int
 f6:List Z2
 f7:List Z2
 deriving DecidableEq,Inhabited
abbrev eHist (x:Zi):List Im:=[iI .i64 x.f0,iI .i64 x.f1,iI .i64 x.f2,iI .u64 x.f3,iI .u64 x.f4,iI .i64 x.f5,.row (x.f6.map Z4),.row (x.f7.map Z4)]
abbrev Z27 (x:Zi):List AVal:=[iV .i64 x.f0,iV .i64 x.f1,iV .i64 x.f2,iV .u64 x.f3,iV .u64 x.f4,iV .i64 x.f5,.im (.row (x.f6.map Z4)),.im (.row (x.f7.map Z4))]
structure RHist (x:Zi):Prop where
 r0:I64 x.f0
 r1:I64 x.f1
 r2:I64 x.f2
 r3:U64 x.f3
 r4:U64 x.f4
 r5:I64 x.f5
 r6:x.f6.length*16≤140737488351232∧∀ y∈x.f6,RBucket y
 r7:x.f7.length*16≤140737488351232∧∀ y∈x.f7,RBucket y
structure Z6 where
 f0:List Zp
 f1:Int
 f2:Zi
 deriving DecidableEq,Inhabited
abbrev estore_Item (x:Z6):List Im:=[.row (x.f0.map Z17),iI .i64 x.f1,iI .i64 x.f2.f0,iI .i64 x.f2.f1,iI .i64 x.f2.f2,iI .u64 x.f2.f3,iI .u64 x.f2.f4,iI .i64 x.f2.f5,.row (x.f2.f6.map Z4),.row (x.f2.f7.map Z4)]
structure Z81 (x:Z6):Prop where
 r0:x.f0.length*32≤140737488351232∧∀ y∈x.f0,RLabel y
 r1:I64 x.f1
 r2:RHist x.f2
theorem hmx:Tryz.prog.follows .mixedOrders=true:=by kernel_rfl
abbrev FN (f:Nat) (A:List AVal) (O:List (Nat×Option MObj)) (k:Nat) {ρ:Type} (y:Option ρ) (x:ρ→AVal) (o:ρ→List (Nat×Option MObj)):Prop:=∀ r,y=some r→Pv.Fn Tryz.prog f A O k (fun a b=>a=x r∧b=o r)
theorem FT {f:Nat} {fn:Func} {c:Code} {A:List AVal} {O:List (Nat×Option MObj)} {k:Nat} {ρ:Type} {y:Option ρ} {x:ρ→AVal} {o:ρ→List (Nat×Option MObj)} (keys:List Nat) (hf:Tryz.prog.funcs[f]? = some fn) (t:HT (fun q:Empty=>(nomatch q:Option ρ)) y) (hb:fn.body=some c:=by rfl) (hn:Nat.ble A.length fn.ntmps=true:=by rfl) (hk:t.chk ⟨Tryz.prog,fn.ntmps,fn,k,keys⟩ 0 (fun r=>.ret (x r) (o r)) (fun q=>nomatch q) c [] ⟨Z33 A 0,O,k⟩=t.sk ⟨Tryz.prog,fn.ntmps,fn,k,keys⟩ 0 (fun r=>.ret (x r) (o r)) (fun q=>nomatch q):=by kernel_rfl):FN f A O k y x o:=fun r H=>HT.fn H x o keys hf hb hn hmx t hk
abbrev qi:Int→AVal:=iV .i64
abbrev qu:Int→AVal:=iV .u64
abbrev qh {P:Program} {g:Nat} {args:List AVal} {ob:List (Nat×Option MObj)} {floor:Nat} {r:AVal} {o:List (Nat×Option MObj)} (h1:Enters P g) (h2:Pv.Fn P g args ob floor (fun x y=>x=r∧y=o)):HI:=hC [] [] [] [] h1 h2
abbrev qe:=Z24 .i64
abbrev qv:=Z24 .u64
abbrev qb:=Z24 .u8
abbrev qx (a b:Int):Int:=((BitVec.toNat (BitVec.ofInt 64 a ^^^ BitVec.ofInt 64 b):Nat):Int)
abbrev qf (n:Nat):Im:=.sc (.func (.func n) #[] #[])
abbrev RW {α:Type} (w t:Nat) (e:α→List Im) (k:Nat) (x:List α):Nat×Option MObj:=(k,some (.row w t (x.map e)))
def gt0:List ByteArray:=[⟨#[99,111,117,110,116,101,114]⟩,⟨#[103,97,117,103,101]⟩]
theorem gt0_ok:Z2r Tryz.prog 0=some (gt0.map Value.string):=by kernel_rfl
def Z0z.l0 (a0:List Zp) (x8:Int) (x9:Int):Option Int:=if(decide (x9<(a0.length:Int)))=true then((at? a0 x9)>>=fun b14=>Z0z.l0 a0 (i64.wrap (x8+(i64.wrap ((i64.wrap ((b14.f0.size:Int)+(b14.f1.size:Int)))+1)))) (i64.wrap (x9+1))) else(some x8)
partial_fixpoint
def Z0z.f (a0:List Zp):Option Bool:=(Z0z.l0 a0 0 0)>>=fun x17=>some (decide (x17≤3000))
theorem Z0z.ok (a0:List Zp):FN 6 [.im (.row (a0.map Z17))] [] 0 (Z0z.f a0) (fun r=>bV r) (fun r=>[]):=FT [] func6 (.r0<|.r0<|.rg [(1,hG Z17 a0)]<|.bl<|.loop (.c2 (Z0z.l0.partial_correctness a0)) (0,0) [] [] [] (fun _=>.pr fun x8=>.one (fun x9=>⟨[(3,qi x8),(6,.im (.row (a0.map Z17))),(7,qi (a0.length:Int)),(8,qi x9)],[],0⟩) fun x9=>.r0<|.cd (fun c10=>.bl<|.el fun b14 p15 q16=>.rg [(0,hA Z17 p15 q16),(2,⟨.k 1,.n⟩)]<|.r0<|.r0<|.bk [] rfl)
 (fun c10=>.o []))
 (.st (.exit 0) (fun x17=>⟨[(3,qi x17)],[],0⟩) fun x17=>.r0<|.ret [] [] [] ⟨[(2,bV (decide (x17≤3000)))],[],0⟩))
def Z2y.f (a0:Zi):Option Bool:=((if(decide ((a0.f6.length:Int)≤200))=true then(some (decide ((a0.f7.length:Int)≤200))) else(some false)):Option Bool)>>=fun x23=>some x23
theorem Z2y.ok (a0:Zi):FN 7 [.agg (Z27 a0)] [] 0 (Z2y.f a0) (fun r=>bV r) (fun r=>[]):=FT [] func7 (.rg [(0,⟨.k 0,.n⟩)]<|.join (.sp (fun c22=>.rg [(2,hG Z4 a0.f6),(4,hB c22),(7,hG Z4 a0.f7)]<|.o [])
 (fun c22=>.rg [(2,hG Z4 a0.f6),(4,hB c22)]<|.o []))
 (.st .normal (fun x23=>⟨[(2,bV x23)],[],0⟩) fun x23=>.ret [] [] [] ⟨[(2,bV x23)],[],0⟩))
def Z2b.f (a0:ByteArray) (a1:ByteArray):Option Unit:=if((a1.size:Int)==0)=true then(none) else(if((a1.size:Int)==1)=true then((chk (0≤(0:Int)∧(0:Int)<(a1.size:Int)))>>=fun _=>some ()) else(none))
theorem Z2b.ok (a0:ByteArray) (a1:ByteArray):FN 80 [sV a0,sV a1] [] 0 (Z2b.f a0 a1) (fun r=>qi ((Lib.countByte a0.data.toList (Int.toNat (bt a1 0)).toUInt8:Nat):Int)) (fun r=>[]):=FT [] func80 (.r0<|.r0<|.cd (fun c36=>.no)
 (fun c36=>.r0<|.cd (fun c37=>.ck fun c39=>.rg [(2,hN (p2 c39)),(3,⟨.ext (qi ((Lib.countByte a0.data.toList (Int.toNat (bt a1 0)).toUInt8:Nat):Int)),.c (p:=∀ w,(callFunc 104 ([.string a0,.int .u8 (bt a1 0)]:List Value).toArray).run Tryz.prog w = .ok (.value (.int .i64 (((Lib.countByte a0.data.toList (Int.toNat (bt a1 0)).toUInt8:Nat):Int)))) w) (fun w=>x_countString (fn:=Tryz.f104) func104 (by kernel_rfl) rfl (by kernel_rfl) (by kernel_rfl) w) .n⟩)]<|.ret [] [] [] ⟨[(4,qi ((Lib.countByte a0.data.toList (Int.toNat (bt a1 0)).toUInt8:Nat):Int))],[],0⟩)
 (fun c37=>.no)))
def Zo.f (a0:ByteArray) (a1:Int):Option Unit:=some ()
theorem Zo.ok (a0:ByteArray) (a1:Int):FN 118 [sV a0,iV .u8 a1] [] 0 (Zo.f a0 a1) (fun r=>qi (Lib.indexByte a0.data.toList (Int.toNat a1).toUInt8)) (fun r=>[]):=FT [] func118 (.r0<|.rg [(2,⟨.ext (qi (Lib.indexByte a0.data.toList (Int.toNat a1).toUInt8)),.c (p:=∀ w,(callFunc 126 ([.string a0,.int .u8 a1]:List Value).toArray).run Tryz.prog w = .ok (.value (.int .i64 (Lib.indexByte a0.data.toList (Int.toNat a1).toUInt8))) w) (fun w=>x_indexByte (fn:=Tryz.f126) func126 (by kernel_rfl) rfl (by kernel_rfl) (by kernel_rfl) w) .n⟩)]<|.ret [] [] [] ⟨[(4,qi (Lib.indexByte a0.data.toList (Int.toNat a1).toUInt8))],[],0⟩)
def Z1m.f (a0:ByteArray) (a1:ByteArray):Option Int:=((if((a1.size:Int)==0)=true then(some true) else(some (a1.toList==a0.toList))):Option Bool)>>=fun x50=>if x50=true then(some 0) else(if((a1.size:Int)==1)=true then((chk (0≤(0:Int)∧(0:Int)<(a1.size:Int)))>>=fun _=>(Zo.f a0 (bt a1 0))>>=fun t57=>some (Lib.indexByte a0.data.toList (Int.toNat (bt a1 0)).toUInt8)) else(none))
theorem Z1m.ok (a0:ByteArray) (a1:ByteArray):FN 105 [sV a0,sV a1] [] 0 (Z1m.f a0 a1) (fun r=>qi r) (fun r=>[]):=FT [] func105 (.r0<|.r0<|.bl<|.join (.sp (fun c49=>.rg [(2,hB c49)]<|.o [])
 (fun c49=>.rg [(2,hB c49)]<|.o []))
 (.st .normal (fun x50=>⟨[(0,sV a0),(1,sV a1),(5,qi (a1.size:Int)),(16,bV x50)],[],0⟩) fun x50=>.cd (fun c51=>.r0<|.ret [] [] [] ⟨[(4,qi 0)],[],0⟩)
 (fun c51=>.r0<|.cd (fun c52=>.ck fun c56=>.bd fun t57 e58=>.rg [(2,hN (p2 c56)),(3,qh call118 (Zo.ok a0 (bt a1 0) t57 e58))]<|.ret [] [] [] ⟨[(4,qi (Lib.indexByte a0.data.toList (Int.toNat (bt a1 0)).toUInt8))],[],0⟩)
 (fun c52=>.no))))
def Z1y.f (a0:ByteArray) (a1:ByteArray):Option Int:=(Z1m.f a0 a1)>>=fun t61=>some t61
theorem Z1y.ok (a0:ByteArray) (a1:ByteArray):FN 81 [sV a0,sV a1] [] 0 (Z1y.f a0 a1) (fun r=>qi r) (fun r=>[]):=FT [] func81 (.r0<|.bd fun t61 e62=>.rg [(2,qh call105 (Z1m.ok a0 a1 t61 e62))]<|.ret [] [] [] ⟨[(4,qi t61)],[],0⟩)
def Zm.l0 (a0:ByteArray) (a1:ByteArray) (a2:Int) (x44:Int) (x78:ByteArray) (x79:List ByteArray) (x80:Int):Option (ByteArray×(List ByteArray)×Int):=if(decide (x80<(i64.wrap ((if(i64.wrap ((a0.size:Int)+1))<x44 then(i64.wrap ((a0.size:Int)+1)) else x44)-1))))=true then((Z1y.f x78 a1)>>=fun t84=>if(decide (t84<0))=true then(some (x78,x79,x80)) else((chk (0≤(0:Int)∧(0:Int)≤(i64.wrap (t84+a2))∧(i64.wrap (t84+a2))≤(x78.size:Int)))>>=fun _=>(at? x79 x80)>>=fun b92=>(chk (0≤(i64.wrap (t84+(a1.size:Int)))∧(i64.wrap (t84+(a1.size:Int)))≤(x78.size:Int)∧(x78.size:Int)≤(x78.size:Int)))>>=fun _=>Zm.l0 a0 a1 a2 x44 (x78.extract (Int.toNat ((i64.wrap (t84+(a1.size:Int))))) (Int.toNat (x78.size:Int))) (x79.set (Int.toNat (x80)) (x78.extract (Int.toNat (0:Int)) (Int.toNat ((i64.wrap (t84+a2)))))) (i64.wrap (x80+1)))) else(some (x78,x79,x80))
partial_fixpoint
def Zm.f (a0:ByteArray) (a1:ByteArray) (a2:Int) (a3:Int):Option (List ByteArray):=if(a3==0)=true then(some []) else(if(a1.toList==(⟨#[]⟩:ByteArray).toList)=true then(none) else(((if(decide (a3<0))=true then((Z2b.f a0 a1)>>=fun t42=>some (i64.wrap (((Lib.countByte a0.data.toList (Int.toNat (bt a1 0)).toUInt8:Nat):Int)+1))) else(some a3)):Option Int)>>=fun x44=>(chk (0≤(if(i64.wrap ((a0.size:Int)+1))<x44 then(i64.wrap ((a0.size:Int)+1)) else x44)∧(if(i64.wrap ((a0.size:Int)+1))<x44 then(i64.wrap ((a0.size:Int)+1)) else x44)≤(if(i64.wrap ((a0.size:Int)+1))<x44 then(i64.wrap ((a0.size:Int)+1)) else x44)∧((16:Nat):Int)*(if(i64.wrap ((a0.size:Int)+1))<x44 then(i64.wrap ((a0.size:Int)+1)) else x44)≤281474976710656∧(if(i64.wrap ((a0.size:Int)+1))<x44 then(i64.wrap ((a0.size:Int)+1)) else x44)≤9223372036854775807))>>=fun _=>(Zm.l0 a0 a1 a2 x44 a0 (List.replicate (Int.toNat (if(i64.wrap ((a0.size:Int)+1))<x44 then(i64.wrap ((a0.size:Int)+1)) else x44)) (⟨#[]⟩:ByteArray)) 0)>>=fun oo=>match oo with | (x97,x98,x99)=>((at? x98 x99)>>=fun aa=>(chk (0≤(i64.wrap (x99+1))∧(i64.wrap (x99+1))≤((x98.set (Int.toNat (x99)) x97).length:Int)))>>=fun _=>some ((x98.set (Int.toNat (x99)) x97).take (Int.toNat ((i64.wrap (x99+1))))))))
abbrev q0:=@RW _ 1 9 Zq
theorem Zm.ok (a0:ByteArray) (a1:ByteArray) (a2:Int) (a3:Int):FN 61 [sV a0,sV a1,qi a2,qi a3] [] 0 (Zm.f a0 a1 a2 a3) (fun r=>.own 0) (fun r=>[q0 0 r]):=FT [0] func61 (.r0<|.r0<|.cd (fun c33=>.r0<|.ret [] [] [0] ⟨[(8,.own 0)],[q0 0 []],0⟩)
 (fun c33=>.r0<|.cd (fun c34=>.no)
 (fun c34=>.r0<|.join (.cd (fun c35=>.bd fun t42 e43=>.rg [(2,qh call80 (Z2b.ok a0 a1 t42 e43))]<|.o [])
 (fun c35=>.o []))
 (.st .normal (fun x44=>⟨[(0,sV a0),(1,sV a1),(2,qi a2),(3,qi x44)],[],0⟩) fun x44=>.rg [(4,⟨.more xMin,.n⟩)]<|.ck fun c46=>.rg [(1,⟨.more (xMake 0 ((List.replicate (Int.toNat (if(i64.wrap ((a0.size:Int)+1))<x44 then(i64.wrap ((a0.size:Int)+1)) else x44)) (⟨#[]⟩:ByteArray)).map Zq)),.c (p:=(List.replicate (Int.toNat (if(i64.wrap ((a0.size:Int)+1))<x44 then(i64.wrap ((a0.size:Int)+1)) else x44)) (⟨#[]⟩:ByteArray)).map Zq=List.replicate (Int.toNat (if(i64.wrap ((a0.size:Int)+1))<x44 then(i64.wrap ((a0.size:Int)+1)) else x44)) [sI (⟨#[]⟩:ByteArray)]) (by simp) (.c (c46.1) (.c (c46.2.1) (.c (c46.2.2.1) (.c (c46.2.2.2) .n))))⟩)]<|.r0<|.r0<|.bl<|.loop (.c3 (Zm.l0.partial_correctness a0 a1 a2 x44)) (a0,List.replicate (Int.toNat (if(i64.wrap ((a0.size:Int)+1))<x44 then(i64.wrap ((a0.size:Int)+1)) else x44)) (⟨#[]⟩:ByteArray),0) [(0,1)] [] [] (fun _=>.pr fun x78=>.pr fun x79=>.one (fun x80=>⟨[(0,sV x78),(1,sV a1),(2,qi a2),(3,qi (i64.wrap ((if(i64.wrap ((a0.size:Int)+1))<x44 then(i64.wrap ((a0.size:Int)+1)) else x44)-1))),(9,.own 1),(10,qi x80)],[q0 1 x79],0⟩) fun x80=>.r0<|.cd (fun c81=>.bl<|.bd fun t84 e85=>.rg [(2,qh call81 (Z1y.ok x78 a1 t84 e85))]<|.r0<|.cd (fun c86=>.o [(1,2)])
 (fun c86=>.ck fun c91=>.el fun b92 p93 q94=>.rg [(6,hN (p3 c91)),(7,hX Zq p93 q94),(8,hS Zq (x78.extract (Int.toNat (0:Int)) (Int.toNat ((i64.wrap (t84+a2))))) 0 [sI (x78.extract (Int.toNat (0:Int)) (Int.toNat ((i64.wrap (t84+a2)))))] q94)]<|.ck fun c96=>.rg [(5,hN (p3 c96))]<|.r0<|.bk [(1,1)] rfl))
 (fun c81=>.o [(1,2)]))
 (.pr fun x97=>.pr fun x98=>.st (.exit 0) (fun x99=>⟨[(0,sV x97),(9,.own 2),(10,qi x99)],[q0 2 x98],0⟩) fun x99=>.el fun aa ab ac=>.rg [(3,hX Zq ab ac),(4,hS Zq x97 0 [sI x97] ac)]<|.ck fun ad=>.rg [(3,⟨.more (xTake 3 (((x98.set (Int.toNat (x99)) x97).take (Int.toNat ((i64.wrap (x99+1))))).map Zq)),.c (ad.1) (.c (p:=(i64.wrap (x99+1))≤(((x98.set (Int.toNat (x99)) x97).map Zq).length:Int)) (by simpa using ad.2) (.c (p:=((x98.set (Int.toNat (x99)) x97).take (Int.toNat ((i64.wrap (x99+1))))).map Zq=((x98.set (Int.toNat (x99)) x97).map Zq).take (Int.toNat ((i64.wrap (x99+1))))) (by simp) .n))⟩)]<|.ret [(3,0)] [] [] ⟨[(8,.own 0)],[q0 0 ((x98.set (Int.toNat (x99)) x97).take (Int.toNat ((i64.wrap (x99+1)))))],0⟩)))))
def Z1c.f (a0:ByteArray) (a1:ByteArray) (a2:Int):Option (List ByteArray):=(Zm.f a0 a1 0 a2)>>=fun aa=>some aa
theorem Z1c.ok (a0:ByteArray) (a1:ByteArray) (a2:Int):FN 45 [sV a0,sV a1,qi a2] [] 0 (Z1c.f a0 a1 a2) (fun r=>.own 0) (fun r=>[q0 0 r]):=FT [0] func45 (.r0<|.bd fun aa ab=>.rg [(3,hC [] [(0,0)] [] [0] call61 (Zm.ok a0 a1 0 a2 aa ab))]<|.ret [(0,0)] [] [] ⟨[(6,.own 0)],[q0 0 aa],0⟩)
def Zl.l0 (a0:ByteArray) (a1:Int) (a2:Int) (aa:Int) (ab:Int):Option Int:=if(decide (ab<((Z0m a0).length:Int)))=true then((at? (Z0m a0) ab)>>=fun ac=>((if(ac==95)=true then(some (a1==0)) else(some false)):Option Bool)>>=fun ad=>if ad=true then(none) else(((if(decide ((48:Int)≤ac))=true then(some (decide (ac≤57))) else(some false)):Option Bool)>>=fun ae=>if ae=true then(if(decide ((u8.wrap (ac-48))≥(u8.wrap (a1))))=true then(none) else(if(decide (aa≥1844674407370955162))=true then(none) else(((if(decide ((u64.wrap ((u64.wrap (aa*(u64.wrap (a1))))+(u64.wrap (u8.wrap (ac-48)))))<(u64.wrap (aa*(u64.wrap (a1))))))=true then(some true) else(some (decide ((u64.wrap ((u64.wrap (aa*(u64.wrap (a1))))+(u64.wrap (u8.wrap (ac-48)))))>(u64.wrap ((u64.wrap ((1:Int)*2 ^ (min (Int.toNat (u64.wrap (a2))) 64)))-1)))))):Option Bool)>>=fun af=>if af=true then(none) else(Zl.l0 a0 a1 a2 (u64.wrap ((u64.wrap (aa*(u64.wrap (a1))))+(u64.wrap (u8.wrap (ac-48))))) (i64.wrap (ab+1)))))) else(none))) else(some aa)
partial_fixpoint
def Zl.f (a0:ByteArray) (a1:Int) (a2:Int):Option Int:=if(a0.toList==(⟨#[]⟩:ByteArray).toList)=true then(none) else(((if(decide ((2:Int)≤a1))=true then(some (decide (a1≤36))) else(some false)):Option Bool)>>=fun aa=>if aa=true then(if(a2==0)=true then(none) else(((if(decide (a2<0))=true then(some true) else(some (decide (a2>64)))):Option Bool)>>=fun ab=>if ab=true then(none) else(if(a1==10)=true then((chk (0≤(u64.wrap (a2))))>>=fun _=>(Zl.l0 a0 a1 a2 0 0)>>=fun ac=>some ac) else(none)))) else(none))
theorem Zl.ok (a0:ByteArray) (a1:Int) (a2:Int):FN 84 [sV a0,qi a1,qi a2] [] 0 (Zl.f a0 a1 a2) (fun r=>.tup [qu r,.im (.sc (.nilIface))]) (fun r=>[]):=FT [] func84 (.r0<|.r0<|.cd (fun aa=>.no)
 (fun aa=>.r0<|.r0<|.bl<|.join (.sp (fun ab=>.rg [(2,hB ab)]<|.o [])
 (fun ab=>.rg [(2,hB ab)]<|.o []))
 (.st .normal (fun ac=>⟨[(0,sV a0),(1,qi a1),(2,qi a2),(8,bV (a1==0)),(9,sV a0),(25,bV ac)],[],0⟩) fun ac=>.cd (fun ad=>.r0<|.cd (fun ae=>.no)
 (fun ae=>.join (.sp (fun af=>.rg [(2,hB af)]<|.o [])
 (fun af=>.rg [(2,hB af)]<|.o []))
 (.st .normal (fun ah=>⟨[(0,sV a0),(1,qi a1),(2,qi a2),(8,bV (a1==0)),(9,sV a0),(83,bV ah)],[],0⟩) fun ah=>.cd (fun ai=>.no)
 (fun ai=>.r0<|.r0<|.bl<|.r0<|.cd (fun aj=>.r0<|.ck fun ak=>.rg [(2,hN (p1 ak))]<|.r0<|.r0<|.rg [(1,⟨.more xBytes,.n⟩),(2,hG qb (Z0m a0))]<|.bl<|.loop (.c2 (Zl.l0.partial_correctness a0 a1 a2)) (0,0) [] [] [] (fun _=>.pr fun al=>.one (fun am=>⟨[(1,qi a1),(8,bV (a1==0)),(9,sV a0),(10,qu 1844674407370955162),(11,qu (u64.wrap ((u64.wrap ((1:Int)*2 ^ (min (Int.toNat (u64.wrap (a2))) 64)))-1))),(12,bV false),(13,qu al),(99,.im (.row ((Z0m a0).map qb))),(100,qi ((Z0m a0).length:Int)),(101,qi am)],[],0⟩) fun am=>.r0<|.cd (fun an=>.bl<|.el fun ao ap aq=>.rg [(0,hA qb ap aq)]<|.r0<|.bl<|.join (.sp (fun ar=>.rg [(2,hB ar)]<|.o [])
 (fun ar=>.rg [(2,hB ar)]<|.o []))
 (.st .normal (fun au=>⟨[(1,qi a1),(8,bV (a1==0)),(9,sV a0),(10,qu 1844674407370955162),(11,qu (u64.wrap ((u64.wrap ((1:Int)*2 ^ (min (Int.toNat (u64.wrap (a2))) 64)))-1))),(12,bV false),(13,qu al),(15,iV .u8 ao),(99,.im (.row ((Z0m a0).map qb))),(100,qi ((Z0m a0).length:Int)),(101,qi am),(106,bV au)],[],0⟩) fun au=>.cd (fun av=>.no)
 (fun av=>.join (.sp (fun aw=>.rg [(2,hB aw)]<|.o [])
 (fun aw=>.rg [(2,hB aw)]<|.o []))
 (.st .normal (fun ax=>⟨[(1,qi a1),(8,bV (a1==0)),(9,sV a0),(10,qu 1844674407370955162),(11,qu (u64.wrap ((u64.wrap ((1:Int)*2 ^ (min (Int.toNat (u64.wrap (a2))) 64)))-1))),(12,bV false),(13,qu al),(15,iV .u8 ao),(99,.im (.row ((Z0m a0).map qb))),(100,qi ((Z0m a0).length:Int)),(101,qi am),(112,bV ax)],[],0⟩) fun ax=>.cd (fun ay=>.r0<|.r0<|.cd (fun az=>.no)
 (fun az=>.r0<|.cd (fun a8=>.no)
 (fun a8=>.r0<|.r0<|.join (.sp (fun ba=>.rg [(3,hB ba)]<|.o [])
 (fun ba=>.rg [(3,hB ba)]<|.o []))
 (.st .normal (fun bb=>⟨[(1,qi a1),(8,bV (a1==0)),(9,sV a0),(10,qu 1844674407370955162),(11,qu (u64.wrap ((u64.wrap ((1:Int)*2 ^ (min (Int.toNat (u64.wrap (a2))) 64)))-1))),(12,bV false),(17,qu (u64.wrap ((u64.wrap (al*(u64.wrap (a1))))+(u64.wrap (u8.wrap (ao-48)))))),(99,.im (.row ((Z0m a0).map qb))),(100,qi ((Z0m a0).length:Int)),(101,qi am),(159,bV bb)],[],0⟩) fun bb=>.cd (fun bc=>.no)
 (fun bc=>.r0<|.r0<|.bk [] rfl)))))
 (fun ay=>.no)))))
 (fun an=>.o []))
 (.st (.exit 3) (fun be=>⟨[(9,sV a0),(12,bV false),(13,qu be)],[],0⟩) fun be=>.r0<|.cl (rfl:false=false)<|.r0<|.ret [] [] [] ⟨[(6,qu be),(7,.im (.sc (.nilIface)))],[],0⟩))
 (fun aj=>.no)))))
 (fun ad=>.no))))
def Z1n.f (a0:ByteArray) (a1:Int) (a2:Int):Option Int:=if(a0.toList==(⟨#[]⟩:ByteArray).toList)=true then(none) else((chk (0≤(0:Int)∧(0:Int)<(a0.size:Int)))>>=fun _=>((if((bt a0 0)==43)=true then((chk (0≤(1:Int)∧(1:Int)≤(a0.size:Int)∧(a0.size:Int)≤(a0.size:Int)))>>=fun _=>some (a0.extract (Int.toNat (1:Int)) (Int.toNat (a0.size:Int)),false)) else(((if((bt a0 0)==45)=true then((chk (0≤(1:Int)∧(1:Int)≤(a0.size:Int)∧(a0.size:Int)≤(a0.size:Int)))>>=fun _=>some (a0.extract (Int.toNat (1:Int)) (Int.toNat (a0.size:Int)),true)) else(some (a0,false))):Option (ByteArray×Bool))>>=fun oo=>match oo with | (aa,ab)=>(some (aa,ab)))):Option (ByteArray×Bool))>>=fun oo=>match oo with | (ac,ad)=>((Zl.f ac a1 a2)>>=fun ae=>if(a2==0)=true then(none) else((chk (0≤(u64.wrap (i64.wrap (a2-1)))))>>=fun _=>((if(!ad)=true then(some (decide (ae≥(u64.wrap ((1:Int)*2 ^ (min (Int.toNat (u64.wrap (i64.wrap (a2-1)))) 64)))))) else(some false)):Option Bool)>>=fun af=>if af=true then(none) else(((if ad=true then(some (decide (ae>(u64.wrap ((1:Int)*2 ^ (min (Int.toNat (u64.wrap (i64.wrap (a2-1)))) 64)))))) else(some false)):Option Bool)>>=fun ah=>if ah=true then(none) else(((if ad=true then(some (i64.wrap (0-(i64.wrap (ae))))) else(some (i64.wrap (ae)))):Option Int)>>=fun ai=>some ai)))))
theorem Z1n.ok (a0:ByteArray) (a1:Int) (a2:Int):FN 82 [sV a0,qi a1,qi a2] [] 0 (Z1n.f a0 a1 a2) (fun r=>.tup [qi r,.im (.sc (.nilIface))]) (fun r=>[]):=FT [] func82 (.r0<|.r0<|.cd (fun aa=>.no)
 (fun aa=>.r0<|.ck fun ab=>.rg [(1,hN (p2 ab))]<|.bl<|.r0<|.join (.cd (fun ac=>.ck fun ad=>.rg [(1,hN (p3 ad))]<|.o [])
 (fun ac=>.r0<|.join (.cd (fun ae=>.ck fun af=>.rg [(1,hN (p3 af))]<|.r0<|.o [])
 (fun ae=>.o []))
 (.pr fun ah=>.st .normal (fun ai=>⟨[(0,sV ah),(1,qi a1),(2,qi a2),(8,bV ai)],[],0⟩) fun ai=>.o [])))
 (.pr fun aj=>.st .normal (fun ak=>⟨[(0,sV aj),(1,qi a1),(2,qi a2),(8,bV ak)],[],0⟩) fun ak=>.r0<|.bd fun al am=>.rg [(3,qh call84 (Zl.ok aj a1 a2 al am))]<|.rg [(1,⟨.more xIfNil,.n⟩)]<|.cl (rfl:false=false)<|.r0<|.cd (fun an=>.no)
 (fun an=>.ck fun ao=>.rg [(3,hN (p1 ao))]<|.join (.sp (fun ap=>.rg [(2,hB ap)]<|.o [])
 (fun ap=>.rg [(2,hB ap)]<|.o []))
 (.st .normal (fun aq=>⟨[(8,bV ak),(9,qu al),(10,qu (u64.wrap ((1:Int)*2 ^ (min (Int.toNat (u64.wrap (i64.wrap (a2-1)))) 64)))),(52,bV aq)],[],0⟩) fun aq=>.cd (fun ar=>.no)
 (fun ar=>.join (.sp (fun au=>.rg [(1,hB au)]<|.o [])
 (fun au=>.rg [(1,hB au)]<|.o []))
 (.st .normal (fun av=>⟨[(8,bV ak),(9,qu al),(10,qu (u64.wrap ((1:Int)*2 ^ (min (Int.toNat (u64.wrap (i64.wrap (a2-1)))) 64)))),(62,bV av)],[],0⟩) fun av=>.cd (fun aw=>.no)
 (fun aw=>.r0<|.r0<|.join (.cd (fun ax=>.r0<|.o [])
 (fun ax=>.o []))
 (.st .normal (fun ay=>⟨[(11,qi ay)],[],0⟩) fun ay=>.r0<|.ret [] [] [] ⟨[(6,qi ay),(7,.im (.sc (.nilIface)))],[],0⟩)))))))))
def Z1b.f (a0:ByteArray) (a1:Int) (a2:Int):Option Int:=(Z1n.f a0 a1 a2)>>=fun aa=>some aa
theorem Z1b.ok (a0:ByteArray) (a1:Int) (a2:Int):FN 63 [sV a0,qi a1,qi a2] [] 0 (Z1b.f a0 a1 a2) (fun r=>.tup [qi r,.im (.sc (.nilIface))]) (fun r=>[]):=FT [] func63 (.r0<|.bd fun aa ab=>.rg [(3,qh call82 (Z1n.ok a0 a1 a2 aa ab))]<|.rg [(1,⟨.more xIfNil,.n⟩)]<|.cl (rfl:false=false)<|.r0<|.ret [] [] [] ⟨[(6,qi aa),(7,.im (.sc (.nilIface)))],[],0⟩)
def Z7q:Go.Shelf.Ren:=⟨fun | 246=>51 | 283=>69 | 284=>70 | 285=>71 | 286=>72 | 129=>92 | 317=>91 | 318=>93 | 319=>94 | 320=>95 | 337=>114 | 338=>115 | n=>n,fun | 2=>2 | 3=>3 | 9=>9 | 4=>4 | 171=>114 | 0=>0 | 53=>23 | 37=>93 | 5=>5 | 173=>117 | 212=>130 | 51=>131 | 20=>20 | 213=>132 | 46=>133 | 232=>157 | 233=>158 | n=>n,fun | 17=>1 | 18=>5 | 19=>6 | n=>n⟩
theorem lays246:Go.Proofs.LaysM.n246 Tryz.prog Z7q := {
 mixed:=by kernel_rfl
 f129:=func92.trans (congrArg some (by kernel_rfl))
 f246:=func51.trans (congrArg some (by kernel_rfl))
 f283:=func69.trans (congrArg some (by kernel_rfl))
 f284:=func70.trans (congrArg some (by kernel_rfl))
 f285:=func71.trans (congrArg some (by kernel_rfl))
 f286:=func72.trans (congrArg some (by kernel_rfl))
 f317:=func91.trans (congrArg some (by kernel_rfl))
 f318:=func93.trans (congrArg some (by kernel_rfl))
 f319:=func94.trans (congrArg some (by kernel_rfl))
 f320:=func95.trans (congrArg some (by kernel_rfl))
 f337:=func114.trans (congrArg some (by kernel_rfl))
 f338:=func115.trans (congrArg some (by kernel_rfl))
 t0:=Tryz.underlying0
 a0:=Tryz.isAgg0
 z0:=Tryz.sizeOf0
 v0:=Tryz.zeroValue0
 t2:=Tryz.underlying2
 a2:=Tryz.isAgg2
 z2:=Tryz.sizeOf2
 v2:=Tryz.zeroValue2
 t3:=Tryz.underlying3
 a3:=Tryz.isAgg3
 z3:=Tryz.sizeOf3
 v3:=Tryz.zeroValue3
 t4:=Tryz.underlying4
 a4:=Tryz.isAgg4
 z4:=Tryz.sizeOf4
 v4:=Tryz.zeroValue4
 t5:=Tryz.underlying5
 a5:=Tryz.isAgg5
 z5:=Tryz.sizeOf5
 v5:=Tryz.zeroValue5
 t9:=Tryz.underlying9
 a9:=Tryz.isAgg9
 z9:=Tryz.sizeOf9
 v9:=Tryz.zeroValue9
 t20:=Tryz.underlying20
 a20:=Tryz.isAgg20
 z20:=Tryz.sizeOf20
 v20:=Tryz.zeroValue20
 t37:=Tryz.underlying93
 a37:=Tryz.isAgg93
 z37:=Tryz.sizeOf93
 v37:=Tryz.zeroValue93
 t46:=Tryz.underlying133
 a46:=Tryz.isAgg133
 z46:=Tryz.sizeOf133
 v46:=Tryz.zeroValue133
 t51:=Tryz.underlying131
 a51:=Tryz.isAgg131
 z51:=Tryz.sizeOf131
 v51:=Tryz.zeroValue131
 t53:=Tryz.underlying23
 a53:=Tryz.isAgg23
 z53:=Tryz.sizeOf23
 v53:=Tryz.zeroValue23
 t171:=Tryz.underlying114
 a171:=Tryz.isAgg114
 z171:=Tryz.sizeOf114
 v171:=Tryz.zeroValue114
 t173:=Tryz.underlying117
 a173:=Tryz.isAgg117
 z173:=Tryz.sizeOf117
 v173:=Tryz.zeroValue117
 t212:=Tryz.underlying130
 a212:=Tryz.isAgg130
 z212:=Tryz.sizeOf130
 v212:=Tryz.zeroValue130
 t213:=Tryz.underlying132
 a213:=Tryz.isAgg132
 z213:=Tryz.sizeOf132
 t232:=Tryz.underlying157
 a232:=Tryz.isAgg157
 z232:=Tryz.sizeOf157
 v232:=Tryz.zeroValue157
 t233:=Tryz.underlying158
 a233:=Tryz.isAgg158
 z233:=Tryz.sizeOf158
 v233:=Tryz.zeroValue158
 g17:=by kernel_rfl
 g18:=by kernel_rfl
 g19:=by kernel_rfl
 i0:=by kernel_rfl
 i2:=by kernel_rfl
 i3:=by kernel_rfl
 i4:=by kernel_rfl
 i5:=by kernel_rfl
 i9:=by kernel_rfl
 i20:=by kernel_rfl
 i37:=by kernel_rfl
 i46:=by kernel_rfl
 i51:=by kernel_rfl
 i53:=by kernel_rfl
 i171:=by kernel_rfl
 i173:=by kernel_rfl
 i212:=by kernel_rfl
 i232:=by kernel_rfl
 i233:=by kernel_rfl
 m17:=by kernel_rfl
 m18:=by kernel_rfl
 m19:=by kernel_rfl }
def Z05.f (a0:Int) (a1:Int):Option ByteArray:=(chk (-9223372036854775808≤a0∧a0≤9223372036854775807∧a1=10))>>=fun _=>some (⟨(Lib.itoa a0).toArray⟩:ByteArray)
theorem Z05.ok (a0:Int) (a1:Int) (r:ByteArray) (H:Z05.f a0 a1=some r):Pv.Fn Tryz.prog 51 [qi a0,qi a1] [] 0 (fun x o=>x=sV r∧o=[]):=by
 unfold Z05.f at H;obtain⟨c,H⟩:=chk_of H;obtain rfl:=sj H;obtain⟨c1,c2,rfl⟩:=c;exact Pv.Fn.quiet (vs:=[.int .i64 a0,.int .i64 10]) (fun w I M hg=>Any.internal_strconv_FormatInt_10 lays246 a0 c1 c2 w (hg.tabIs (g:=1) (zs:=Lib.pow10Tab) (by kernel_rfl) (by kernel_rfl)))
def Z03.f (a0:Int) (a1:Int):Option ByteArray:=(Z05.f a0 a1)>>=fun aa=>some aa
theorem Z03.ok (a0:Int) (a1:Int):FN 27 [qi a0,qi a1] [] 0 (Z03.f a0 a1) (fun r=>sV r) (fun r=>[]):=FT [] func27 (.r0<|.bd fun aa ab=>.rg [(2,qh call51 (Z05.ok a0 a1 aa ab))]<|.ret [] [] [] ⟨[(4,sV aa)],[],0⟩)
def Z0g.f (a0:ByteArray):Option (Int×Bool):=(Z1b.f a0 10 64)>>=fun aa=>(Z03.f aa 10)>>=fun ab=>some (aa,(ab.toList==a0.toList))
theorem Z0g.ok (a0:ByteArray):FN 37 [sV a0] [] 0 (Z0g.f a0) (fun r=>.tup [qi r.1,bV r.2]) (fun r=>[]):=FT [] func37 (.r0<|.bd fun aa ab=>.rg [(1,qh call63 (Z1b.ok a0 10 64 aa ab))]<|.bd fun ac ad=>.rg [(2,⟨.more xIfNil,.n⟩),(5,qh call27 (Z03.ok aa 10 ac ad))]<|.ret [] [] [] ⟨[(2,qi aa),(3,bV (ac.toList==a0.toList))],[],0⟩)
def Zn.f  : Option Unit:=some ()
theorem Zn.ok  : FN 77 [.ptr 0 0 0] [(0,some (.box 95 [.im (.sc (.pointer none)),.none0]))] 1 (Zn.f ) (fun r=>.tup []) (fun r=>[(0,some (.box 95 [.ptr 0 0 0,.none0]))]):=FT [0] func77 (.rg [(4,⟨.more (xPtrEq none),.n⟩)]<|.cl (rfl:true=true)<|.rg [(2,⟨.more xUnsafe,.n⟩),(3,⟨.more (xSame 100),.c (p:=∀ v w,(callFunc 100 #[v]).run Tryz.prog w = .ok (.value v) w) (fun v w=>x_noEscape (fn:=Tryz.f100) func100 (by kernel_rfl) rfl (by kernel_rfl) (by kernel_rfl) v w) .n⟩),(4,⟨.more xUnsafe,.n⟩)]<|.ret [(0,0)] [] [] ⟨[],[(0,some (.box 95 [.ptr 0 0 0,.none0]))],1⟩)
def Z0a.f (a1:Int):Option (List Int):=(chk (0<(i64.wrap ((0:Int)+a1))∧(i64.wrap ((0:Int)+a1))≤281474976710656))>>=fun _=>(chk ((0:Int)=0∧0<(Int.toNat (i64.wrap ((0:Int)+a1)))))>>=fun _=>some ([]:List Int)
abbrev q1:=@RW _ 1 5 qb
theorem Z0a.ok (a1:Int):FN 78 [.ptr 0 0 0,qi a1] [(0,some (.box 95 [.ptr 0 0 0,.none0]))] 1 (Z0a.f a1) (fun r=>.tup []) (fun r=>[(0,some (.box 95 [.ptr 0 0 0,.own 1])),q1 1 r]):=FT [0,1] func78 (.ck fun aa=>.ck fun ab=>.rg [(4,⟨.more xCapNil,.n⟩),(8,⟨.more (xNoZero 101 1 5),.c (p:=0≤(i64.wrap ((0:Int)+a1))) (Int.le_of_lt aa.1) (.c (aa.2) (.c (p:=∀ (w:World) (n:Nat),n≤281474976710656→∃ cs:Array Value,(callFunc 101 #[.int .i64 (n:Int)]).run Tryz.prog w = .ok (.value (.slice (some ⟨w.heap.size,0,none⟩) n cs.size)) (World.alloc' w.drew.drew (.cells cs 5))∧n≤cs.size) (fun w n h=>x_makeNoZero (fn:=Tryz.f101) (ps := #[3]) (t:=93) (e:=5) func101 (by kernel_rfl) rfl (by kernel_rfl) (by kernel_rfl) (by kernel_rfl) w n h) .n))⟩),(14,⟨.more xCut0,.c (ab.1) (.c (ab.2) .n)⟩)]<|.rg [(5,⟨.more xCopy0,.n⟩)]<|.r0<|.ret [(0,0),(1,1)] [] [] ⟨[],[(0,some (.box 95 [.ptr 0 0 0,.own 1])),q1 1 ([]:List Int)],1⟩)
def Zs.f (a1:Int):Option (List Int):=(Zn.f)>>=fun aa=>if(decide (a1<0))=true then(none) else(((if(decide ((0:Int)<a1))=true then((Z0a.f a1)>>=fun ab=>some ab) else(some [])):Option (List Int))>>=fun ac=>some ac)
theorem Zs.ok (a1:Int):FN 57 [.ptr 0 0 0,qi a1] [(0,some (.box 95 [.im (.sc (.pointer none)),.none0]))] 1 (Zs.f a1) (fun r=>.tup []) (fun r=>[(0,some (.box 95 [.ptr 0 0 0,.own 1])),q1 1 r]):=FT [0,1] func57 (.bd fun aa ab=>.rg [(1,hC [(0,0)] [(0,0)] [] [] call77 (Zn.ok  aa ab))]<|.r0<|.cd (fun ac=>.no)
 (fun ac=>.rg [(4,⟨.more xCapNil,.n⟩)]<|.join (.cd (fun ad=>.bd fun ae af=>.rg [(2,hC [(0,0)] [(0,0),(1,1)] [] [1] call78 (Z0a.ok a1 ae af))]<|.o [(0,0),(1,2)])
 (fun ad=>.out [(0,0)] [] [2]))
 (.st .normal (fun ah=>⟨[],[(0,some (.box 95 [.ptr 0 0 0,.own 2])),q1 2 ah],1⟩) fun ah=>.ret [(0,0),(2,1)] [] [] ⟨[],[(0,some (.box 95 [.ptr 0 0 0,.own 1])),q1 1 ah],1⟩)))
def Zj.f (aa:List Int):Option Unit:=some ()
theorem Zj.ok (aa:List Int):FN 77 [.ptr 0 0 0] [(0,some (.box 95 [.ptr 0 0 0,.own 1])),q1 1 aa] 2 (Zj.f aa) (fun r=>.tup []) (fun r=>[(0,some (.box 95 [.ptr 0 0 0,.own 1])),q1 1 aa]):=FT [0,1] func77 (.rg [(4,⟨.more (xPtrEq none),.n⟩)]<|.cl (rfl:false=false)<|.rg [(5,⟨.more (xPtrEq none),.n⟩)]<|.cl (rfl:false=false)<|.ret [(0,0),(1,1)] [] [] ⟨[],[(0,some (.box 95 [.ptr 0 0 0,.own 1])),q1 1 aa],2⟩)
def Z9.f (aa:List Int) (a1:ByteArray):Option (List Int):=(Zj.f aa)>>=fun ab=>(chk ((aa.length+a1.size)*1≤140737488355328))>>=fun _=>some (aa++Z0m a1)
theorem Z9.ok (aa:List Int) (a1:ByteArray):FN 58 [.ptr 0 0 0,sV a1] [(0,some (.box 95 [.ptr 0 0 0,.own 1])),q1 1 aa] 2 (Z9.f aa a1) (fun r=>.tup [qi (a1.size:Int),.im (.sc (.nilIface))]) (fun r=>[(0,some (.box 95 [.ptr 0 0 0,.own 2])),(1,none),q1 2 r]):=FT [0,1,2] func58 (.r0<|.bd fun ab ac=>.rg [(1,hC [(0,0),(1,1)] [(0,0),(1,1)] [] [] call77 (Zj.ok aa ab ac))]<|.ck fun ad=>.rg [(6,⟨.more (xAppStr 2 ((aa++Z0m a1).map qb)),.c (p:=(aa++Z0m a1).map qb=aa.map qb++(Z0m a1).map qb) (by simp) (.c (p:=((aa.map qb).length+a1.size)*1≤140737488355328) (by simpa using ad) .n)⟩)]<|.r0<|.ret [(0,0),(2,2)] [] [] ⟨[(4,qi (a1.size:Int)),(5,.im (.sc (.nilIface)))],[(0,some (.box 95 [.ptr 0 0 0,.own 2])),q1 2 (aa++Z0m a1)],2⟩)
def Zd.f (aa:List Int):Option Unit:=(chk (aa≠[]))>>=fun _=>(chk (aa≠[]∧aa.length≤9223372036854775807∧Z7w aa))>>=fun _=>some ()
theorem Zd.ok (aa:List Int):FN 59 [.ptr 0 0 0] [(0,some (.box 95 [.ptr 0 0 0,.own 1])),q1 1 aa] 2 (Zd.f aa) (fun r=>sV (Z3o aa)) (fun r=>[(0,some (.box 95 [.ptr 0 0 0,.top])),(1,none)]):=FT [0,1] func59 (.r0<|.ck fun ab=>.ck fun ac=>.rg [(4,⟨.more xSliceData,.c (p:=aa.map qb≠[]) (by simpa using ab) .n⟩),(9,hG qb aa),(10,⟨.more (xUString aa),.c (p:=aa.map qb=aa.map qb) (rfl) (.c (p:=(aa.length:Int)=(aa.length:Int)) (rfl) (.c (ac) .n))⟩)]<|.ret [(0,0)] [] [] ⟨[(2,sV (Z3o aa))],[(0,some (.box 95 [.ptr 0 0 0,.top]))],2⟩)
def Za.l0 (a0:List ByteArray) (a1:ByteArray) (aa:Int) (ab:Int):Option Int:=if(decide (ab<(a0.length:Int)))=true then((at? a0 ab)>>=fun ac=>if(decide ((ac.size:Int)>(i64.wrap ((9223372036854775807:Int)-aa))))=true then(none) else(Za.l0 a0 a1 (i64.wrap (aa+(ac.size:Int))) (i64.wrap (ab+1)))) else(some aa)
partial_fixpoint
def Za.l1 (a0:List ByteArray) (a1:ByteArray) (aa:List Int) (ab:Int):Option (List Int):=if(decide (ab<(((a0.drop (Int.toNat (1:Int))).take ((Int.toNat (a0.length:Int))-(Int.toNat (1:Int)))).length:Int)))=true then((at? ((a0.drop (Int.toNat (1:Int))).take ((Int.toNat (a0.length:Int))-(Int.toNat (1:Int)))) ab)>>=fun ac=>(Z9.f aa a1)>>=fun ad=>(Z9.f ad ac)>>=fun ae=>Za.l1 a0 a1 ae (i64.wrap (ab+1))) else(some aa)
partial_fixpoint
def Za.f (a0:List ByteArray) (a1:ByteArray):Option ByteArray:=if((a0.length:Int)==0)=true then(some (⟨#[]⟩:ByteArray)) else(if((a0.length:Int)==1)=true then((at? a0 0)>>=fun aa=>some aa) else(((if(decide ((a1.size:Int)>0))=true then((chk ((i64.wrap ((a0.length:Int)-1))≠0))>>=fun _=>if(decide ((a1.size:Int)≥(i64.wrap (Int.tdiv (9223372036854775807:Int) (i64.wrap ((a0.length:Int)-1))))))=true then(none) else(some (i64.wrap ((0:Int)+(i64.wrap ((a1.size:Int)*(i64.wrap ((a0.length:Int)-1)))))))) else(some 0)):Option Int)>>=fun ab=>(Za.l0 a0 a1 ab 0)>>=fun ac=>(Zs.f ac)>>=fun ad=>(at? a0 0)>>=fun ae=>(Z9.f ad ae)>>=fun af=>(chk (0≤(1:Int)∧(1:Int)≤(a0.length:Int)∧(a0.length:Int)≤(a0.length:Int)))>>=fun _=>(Za.l1 a0 a1 af 0)>>=fun ah=>(Zd.f ah)>>=fun ai=>some (Z3o ah)))
theorem Za.ok (a0:List ByteArray) (a1:ByteArray):FN 31 [.im (.row (a0.map Zq)),sV a1] [] 0 (Za.f a0 a1) (fun r=>sV r) (fun r=>[]):=FT [] func31 (.r0<|.rg [(1,hG Zq a0)]<|.bl<|.r0<|.cd (fun aa=>.r0<|.ret [] [] [] ⟨[(4,sV (⟨#[]⟩:ByteArray))],[],0⟩)
 (fun aa=>.r0<|.cd (fun ab=>.el fun ac ad ae=>.rg [(1,hA Zq ad ae)]<|.ret [] [] [] ⟨[(4,sV ac)],[],0⟩)
 (fun ab=>.r0<|.r0<|.join (.cd (fun af=>.ck fun ah=>.rg [(3,hG Zq a0),(5,hN (p1 ah))]<|.cd (fun ai=>.no)
 (fun ai=>.rg [(4,hG Zq a0)]<|.o []))
 (fun af=>.o []))
 (.st .normal (fun aj=>⟨[(0,.im (.row (a0.map Zq))),(1,sV a1),(5,qi aj)],[],0⟩) fun aj=>.rg [(1,hG Zq a0)]<|.bl<|.loop (.c2 (Za.l0.partial_correctness a0 a1)) (aj,0) [] [] [] (fun _=>.pr fun ak=>.one (fun al=>⟨[(0,.im (.row (a0.map Zq))),(1,sV a1),(5,qi ak),(39,.im (.row (a0.map Zq))),(40,qi (a0.length:Int)),(41,qi al)],[],0⟩) fun al=>.r0<|.cd (fun am=>.bl<|.el fun an ao ap=>.rg [(0,hA Zq ao ap)]<|.r0<|.cd (fun aq=>.no)
 (fun aq=>.r0<|.r0<|.bk [] rfl))
 (fun am=>.o []))
 (.st (.exit 1) (fun ar=>⟨[(0,.im (.row (a0.map Zq))),(1,sV a1),(5,qi ar)],[],0⟩) fun ar=>.rg [(0,⟨.k 0,.n⟩)]<|.bd fun au av=>.rg [(1,hC [(0,0)] [(0,0),(1,1)] [] [1] call57 (Zs.ok ar au av))]<|.el fun aw ax ay=>.bd fun az a8=>.rg [(1,hA Zq ax ay),(3,hC [(0,0),(1,1)] [(0,0),(2,2)] [] [2] call58 (Z9.ok au aw az a8))]<|.ck fun ba=>.rg [(1,hR1 Zq 1 ba),(2,hG Zq ((a0.drop (Int.toNat (1:Int))).take ((Int.toNat (a0.length:Int))-(Int.toNat (1:Int)))))]<|.bl<|.loop (.c2 (Za.l1.partial_correctness a0 a1)) (az,0) [(0,5),(2,6)] [] [] (fun _=>.pr fun bb=>.one (fun bc=>⟨[(1,sV a1),(8,.ptr 5 0 0),(63,.im (.row (((a0.drop (Int.toNat (1:Int))).take ((Int.toNat (a0.length:Int))-(Int.toNat (1:Int)))).map Zq))),(64,qi (((a0.drop (Int.toNat (1:Int))).take ((Int.toNat (a0.length:Int))-(Int.toNat (1:Int)))).length:Int)),(65,qi bc)],[(5,some (.box 95 [.ptr 5 0 0,.own 6])),q1 6 bb],0⟩) fun bc=>.r0<|.cd (fun be=>.bl<|.el fun bf bg bh=>.rg [(0,hA Zq bg bh)]<|.bd fun bi bj=>.rg [(1,hC [(5,0),(6,1)] [(0,5),(2,7)] [] [7] call58 (Z9.ok bb a1 bi bj))]<|.bd fun bn bo=>.rg [(1,hC [(5,0),(7,1)] [(0,5),(2,8)] [] [8] call58 (Z9.ok bi bf bn bo))]<|.r0<|.bk [(5,5),(8,6)] rfl)
 (fun be=>.o [(5,9),(6,10)]))
 (.st (.exit 3) (fun bp=>⟨[(8,.ptr 9 0 0)],[(9,some (.box 95 [.ptr 9 0 0,.own 10])),q1 10 bp],0⟩) fun bp=>.bd fun bq br=>.rg [(0,hC [(9,0),(10,1)] [(0,9)] [] [] call59 (Zd.ok bp bq br))]<|.ret [] [] [] ⟨[(4,sV (Z3o bp))],[],0⟩))))))
def Z16.f (a0:ByteArray) (a1:ByteArray):Option (List ByteArray):=(Zm.f a0 a1 0 (-1))>>=fun aa=>some aa
theorem Z16.ok (a0:ByteArray) (a1:ByteArray):FN 34 [sV a0,sV a1] [] 0 (Z16.f a0 a1) (fun r=>.own 0) (fun r=>[q0 0 r]):=FT [0] func34 (.r0<|.bd fun aa ab=>.rg [(2,hC [] [(0,0)] [] [0] call61 (Zm.ok a0 a1 0 (-1) aa ab))]<|.ret [(0,0)] [] [] ⟨[(4,.own 0)],[q0 0 aa],0⟩)
def Z02.f (a0:ByteArray) (a1:ByteArray):Option Bool:=((if(decide ((a0.size:Int)≥(a1.size:Int)))=true then((chk (0≤(0:Int)∧(0:Int)≤(a1.size:Int)∧(a1.size:Int)≤(a0.size:Int)))>>=fun _=>some ((a0.extract (Int.toNat (0:Int)) (Int.toNat (a1.size:Int))).toList==a1.toList)) else(some false)):Option Bool)>>=fun aa=>some aa
theorem Z02.ok (a0:ByteArray) (a1:ByteArray):FN 62 [sV a0,sV a1] [] 0 (Z02.f a0 a1) (fun r=>bV r) (fun r=>[]):=FT [] func62 (.r0<|.join (.sp (fun aa=>.ck fun ab=>.rg [(5,hB aa),(9,hN (p3 ab))]<|.o [])
 (fun aa=>.rg [(5,hB aa)]<|.o []))
 (.st .normal (fun ac=>⟨[(4,bV ac)],[],0⟩) fun ac=>.ret [] [] [] ⟨[(4,bV ac)],[],0⟩))
def Z0b.f (a0:ByteArray) (a1:ByteArray):Option Bool:=(Z02.f a0 a1)>>=fun aa=>some aa
theorem Z0b.ok (a0:ByteArray) (a1:ByteArray):FN 35 [sV a0,sV a1] [] 0 (Z0b.f a0 a1) (fun r=>bV r) (fun r=>[]):=FT [] func35 (.r0<|.bd fun aa ab=>.rg [(2,qh call62 (Z02.ok a0 a1 aa ab))]<|.ret [] [] [] ⟨[(4,bV aa)],[],0⟩)
def Zr.l0 (a0:List ByteArray) (a1:ByteArray) (aa:Int):Option (Int ⊕ Unit):=if(decide (aa<(a0.length:Int)))=true then((at? a0 aa)>>=fun ab=>if(a1.toList==ab.toList)=true then(some (.inl aa)) else(Zr.l0 a0 a1 (i64.wrap (aa+1)))) else(some (.inr ()))
partial_fixpoint
def Zr.f (a0:List ByteArray) (a1:ByteArray):Option Int:=(Zr.l0 a0 a1 0)>>=fun oo=>match oo with | .inl rr=>(some rr) | .inr _=>(some (-1))
theorem Zr.ok (a0:List ByteArray) (a1:ByteArray):FN 36 [.im (.row (a0.map Zq)),sV a1] [] 0 (Zr.f a0 a1) (fun r=>qi r) (fun r=>[]):=FT [] func36 (.r0<|.rg [(1,hG Zq a0)]<|.bl<|.loop (.one (Zr.l0.partial_correctness a0 a1)) 0 [] [] [] (fun _=>.one (fun aa=>⟨[(0,.im (.row (a0.map Zq))),(1,sV a1),(7,qi (a0.length:Int)),(8,qi aa)],[],0⟩) fun aa=>.r0<|.cd (fun ab=>.bl<|.r0<|.el fun ac ad ae=>.rg [(3,hA Zq ad ae)]<|.cd (fun af=>.r0<|.ret [] [] [] ⟨[(4,qi aa)],[],0⟩)
 (fun af=>.r0<|.bk [] rfl))
 (fun ab=>.o []))
 (.sm (.rt (fun rr=>qi rr) (fun rr=>[]))
 (.st (.exit 0) (fun _=>⟨[],[],0⟩) fun _=>.r0<|.ret [] [] [] ⟨[(4,qi (-1))],[],0⟩)))
def Z10.f (a0:ByteArray) (a1:Int) (a2:Int):Option Int:=(Zl.f a0 a1 a2)>>=fun aa=>some aa
theorem Z10.ok (a0:ByteArray) (a1:Int) (a2:Int):FN 64 [sV a0,qi a1,qi a2] [] 0 (Z10.f a0 a1 a2) (fun r=>.tup [qu r,.im (.sc (.nilIface))]) (fun r=>[]):=FT [] func64 (.r0<|.bd fun aa ab=>.rg [(3,qh call84 (Zl.ok a0 a1 a2 aa ab))]<|.rg [(1,⟨.more xIfNil,.n⟩)]<|.cl (rfl:false=false)<|.r0<|.ret [] [] [] ⟨[(6,qu aa),(7,.im (.sc (.nilIface)))],[],0⟩)
open Go.Sort in
theorem fmtU_fin (w:World) (o:Go.Obj) (dk:Array UInt8) (k:Nat):∃ os,(putRow (fun(b:UInt8)=>Value.int .u8 (b.toNat:Int)) (w.alloc o) w.heap.size 0 dk).drewN k=grow (w.drewN k) os:=by
 rw[alloc_eq_grow];obtain⟨os',_,e⟩:=putRow_grow_new (fun(b:UInt8)=>Value.int .u8 (b.toNat:Int)) w #[o] w.heap.size 0 dk (Nat.le_refl _);exact⟨os',by rw[e];rfl⟩
open Go.Sort in
theorem fmtU_zero (w:World) (T:TypeId) (nd:Nat) (hs:nd≤24):Holds (fun(b:UInt8)=>Value.int .u8 (b.toNat:Int)) (w.alloc (.cells Lib.zeros24 T)) w.heap.size 0 (Array.replicate nd (0:UInt8)):=fun j hj=>by
 have hj':j<nd:=by simpa using hj
 refine⟨?_,World.frozen?_alloc_new _ _ _ _⟩;rw[World.cell?_alloc_new,Lib.zeros24_at _ (by omega),getElem!_pos _ j hj];simp
open Go.Sort in
set_option maxHeartbeats 6400000 in
set_option maxRecDepth 100000 in
theorem fmtU_in (u:Nat) (hu64:u<18446744073709551616) (w:World) (htab:Lib.TabIs Tryz.prog w "internal/strconv.uint64pow10" .u64 Lib.pow10Tab) :
  Calls Tryz.prog 60 #[.int .u64 (u:Int),.int .i64 10] w fun e w'=>e = .returned (.string ⟨(Lib.decDigits u).toArray⟩)∧∃ k os,w'=grow (w.drewN k) os:=by
 have L:=lays246;by_cases hs:u<100
 ·have c0:Calls Tryz.prog 69 #[.int .i64 (u:Int)] w _:=Any.internal_strconv_small { L with } u hs w
  go_enter func60,Tryz.ntmps60
  go_wp2_with (go_at_call 69;refine c0.mono ?_;rintro e w' ⟨rfl,rfl⟩)
  go_ret
  exact⟨rfl,0,#[],by simp[World.drewN_zero]⟩
 ·have hu1:1≤u:=by omega
  have hnd20:Lib.nDigits u≤20:=by have:=Lib.numDigits_eq u hu1 hu64;split at this<;>omega
  have hal:Tryz.prog.arrayLen 114=24:=by kernel_rfl
  have hsl1:∀ W,(Instr.sliceAt 114 (.pointer (some ⟨w.heap.size,0,none⟩)) none (some (.int .i64 (Lib.nDigits u:Int))) none).run Tryz.prog W = .ok (.slice (some ⟨w.heap.size,0,none⟩) (Lib.nDigits u) 24) W:=fun W=>by
   rw[run_sliceAt_array_h W 114 ⟨w.heap.size,0,none⟩ (by kernel_rfl) .i64 (Lib.nDigits u:Int) (by omega) (by rw[hal];omega)]
   go_simp
  have hH0:=fmtU_zero w 114 (Lib.nDigits u) (by omega);have hfmt:=Any.internal_strconv_formatBase10 { L with } w.heap.size 0 24 u (Array.replicate (Lib.nDigits u) 0) (w.alloc (.cells Lib.zeros24 114)) hH0 (by rw[Array.size_replicate];exact Lib.lt_pow_nDigits u) hu64 (by rw[Array.size_replicate];omega);rw[Array.size_replicate] at hfmt;have HH0:=Lib.hid hH0;have cN:Calls Tryz.prog 70 #[.int .u64 (u:Int)] (w.alloc (.cells Lib.zeros24 114)) _:=Any.internal_strconv_numDigits { L with } u hu1 hu64 _ (Lib.tabIs_alloc htab _);clear hH0 hal
  go_enter func60,Tryz.ntmps60
  go_wp2_with (go_at_call 70;refine cN.mono ?_;rintro e w' ⟨rfl,rfl⟩)
  go_at_call 71
  refine hfmt.mono ?_;rintro e w' ⟨rfl,k,v',dk,rfl,hF⟩;have hcv:(convert 93 9 (.slice (some ⟨w.heap.size,0,none⟩) (Lib.nDigits u) 24)).run Tryz.prog ((putRow (fun(b:UInt8)=>Value.int .u8 (b.toNat:Int)) (w.alloc (.cells Lib.zeros24 114)) w.heap.size 0 dk).drewN k) = .ok (.string ⟨(Lib.decDigits u).toArray⟩) ((putRow (fun(b:UInt8)=>Value.int .u8 (b.toNat:Int)) (w.alloc (.cells Lib.zeros24 114)) w.heap.size 0 dk).drewN k):=by
   have h:=run_convert_bytes_back (P:=Tryz.prog) ((putRow (fun(b:UInt8)=>Value.int .u8 (b.toNat:Int)) (w.alloc (.cells Lib.zeros24 114)) w.heap.size 0 dk).drewN k) 93 9 (Z7q.t 5) ⟨w.heap.size,0,none⟩ 24 (Lib.decDigits u) L.t37 L.t5 L.t9 (fun j hj=>by
     rw[Lib.row_is_numeral hF j hj,Lib.add_plain,World.cell?_drewN];exact cell?_putRow (fun(b:UInt8)=>Value.int .u8 (b.toNat:Int)) _ w.heap.size 0 _ dk HH0.out (by rw[hF.size,Array.size_replicate]) j (by rw[hF.size];rw[Lib.decDigits_length] at hj;exact hj))
   rw[Lib.decDigits_length] at h;exact h
  go_wp2
  go_ret
  obtain⟨os,eo⟩:=fmtU_fin w (.cells Lib.zeros24 114) dk k;exact⟨rfl,k,os,eo⟩
def Z0p.f (a0:Int) (a1:Int):Option ByteArray:=(chk (0≤a0∧a0≤18446744073709551615∧a1=10))>>=fun _=>some (⟨(Lib.itoa a0).toArray⟩:ByteArray)
theorem Z0p.ok (a0:Int) (a1:Int) (r:ByteArray) (H:Z0p.f a0 a1=some r):Pv.Fn Tryz.prog 60 [qu a0,qi a1] [] 0 (fun x o=>x=sV r∧o=[]):=by
 unfold Z0p.f at H;obtain⟨c,H⟩:=chk_of H;obtain rfl:=sj H;obtain⟨c1,c2,rfl⟩:=c;obtain⟨u,rfl⟩:∃ u:Nat,(u:Int)=a0:=⟨a0.toNat,by omega⟩
 rw[Lib.itoa_nonneg];exact Pv.Fn.quiet (vs:=[.int .u64 u,.int .i64 10]) (fun w I M hg=>fmtU_in u (by omega) w (hg.tabIs (g:=1) (zs:=Lib.pow10Tab) (by kernel_rfl) (by kernel_rfl)))
def Z00.f (a0:Int) (a1:Int):Option ByteArray:=(Z0p.f a0 a1)>>=fun aa=>some aa
theorem Z00.ok (a0:Int) (a1:Int):FN 32 [qu a0,qi a1] [] 0 (Z00.f a0 a1) (fun r=>sV r) (fun r=>[]):=FT [] func32 (.r0<|.bd fun aa ab=>.rg [(2,qh call60 (Z0p.ok a0 a1 aa ab))]<|.ret [] [] [] ⟨[(4,sV aa)],[],0⟩)
def Z22.f (a0:ByteArray):Option (Int×Bool):=(Z10.f a0 10 64)>>=fun aa=>(Z00.f aa 10)>>=fun ab=>some (aa,(ab.toList==a0.toList))
theorem Z22.ok (a0:ByteArray):FN 38 [sV a0] [] 0 (Z22.f a0) (fun r=>.tup [qu r.1,bV r.2]) (fun r=>[]):=FT [] func38 (.r0<|.bd fun aa ab=>.rg [(1,qh call64 (Z10.ok a0 10 64 aa ab))]<|.bd fun ac ad=>.rg [(2,⟨.more xIfNil,.n⟩),(5,qh call32 (Z00.ok aa 10 ac ad))]<|.ret [] [] [] ⟨[(2,qu aa),(3,bV (ac.toList==a0.toList))],[],0⟩)
def Z0u.f (a0:ByteArray):Option Int:=if((⟨#[58]⟩:ByteArray).toList==a0.toList)=true then(some 0) else((chk (0≤(0:Int)∧(0:Int)<((⟨#[58]⟩:ByteArray).size:Int)))>>=fun _=>(Zo.f a0 (bt (⟨#[58]⟩:ByteArray) 0))>>=fun aa=>some (Lib.indexByte a0.data.toList (Int.toNat (bt (⟨#[58]⟩:ByteArray) 0)).toUInt8))
theorem Z0u.ok (a0:ByteArray):FN 105 [sV a0,sV (⟨#[58]⟩:ByteArray)] [] 0 (Z0u.f a0) (fun r=>qi r) (fun r=>[]):=FT [] func105 (.r0<|.r0<|.bl<|.r0<|.cd (fun aa=>.r0<|.ret [] [] [] ⟨[(4,qi 0)],[],0⟩)
 (fun aa=>.r0<|.cl (rfl:true=true)<|.ck fun ab=>.bd fun ac ad=>.rg [(2,hN (p2 ab)),(3,qh call118 (Zo.ok a0 (bt (⟨#[58]⟩:ByteArray) 0) ac ad))]<|.ret [] [] [] ⟨[(4,qi (Lib.indexByte a0.data.toList (Int.toNat (bt (⟨#[58]⟩:ByteArray) 0)).toUInt8))],[],0⟩))
def Z14.f (a0:ByteArray):Option (ByteArray×ByteArray×Bool):=(Z0u.f a0)>>=fun aa=>if(decide (aa≥0))=true then((chk (0≤(0:Int)∧(0:Int)≤aa∧aa≤(a0.size:Int)))>>=fun _=>(chk (0≤(i64.wrap (aa+1))∧(i64.wrap (aa+1))≤(a0.size:Int)∧(a0.size:Int)≤(a0.size:Int)))>>=fun _=>some (a0.extract (Int.toNat (0:Int)) (Int.toNat (aa)),a0.extract (Int.toNat ((i64.wrap (aa+1)))) (Int.toNat (a0.size:Int)),true)) else(some (a0,(⟨#[]⟩:ByteArray),false))
theorem Z14.ok (a0:ByteArray):FN 85 [sV a0,sV (⟨#[58]⟩:ByteArray)] [] 0 (Z14.f a0) (fun r=>.tup [sV r.1,sV r.2.1,bV r.2.2]) (fun r=>[]):=FT [] func85 (.r0<|.bd fun aa ab=>.rg [(2,qh call105 (Z0u.ok a0 aa ab))]<|.r0<|.cd (fun ac=>.ck fun ad=>.ck fun ae=>.rg [(2,hN (p3 ad)),(8,hN (p3 ae))]<|.ret [] [] [] ⟨[(4,sV (a0.extract (Int.toNat (0:Int)) (Int.toNat (aa)))),(5,sV (a0.extract (Int.toNat ((i64.wrap (aa+1)))) (Int.toNat (a0.size:Int)))),(6,bV true)],[],0⟩)
 (fun ac=>.r0<|.ret [] [] [] ⟨[(4,sV a0),(5,sV (⟨#[]⟩:ByteArray)),(6,bV false)],[],0⟩))
def Z1i.f (a0:ByteArray):Option (ByteArray×ByteArray×Bool):=(Z14.f a0)>>=fun aa=>some (aa.1,aa.2.1,aa.2.2)
theorem Z1i.ok (a0:ByteArray):FN 65 [sV a0,sV (⟨#[58]⟩:ByteArray)] [] 0 (Z1i.f a0) (fun r=>.tup [sV r.1,sV r.2.1,bV r.2.2]) (fun r=>[]):=FT [] func65 (.r0<|.bd fun aa ab=>.rg [(2,qh call85 (Z14.ok a0 aa ab))]<|.ret [] [] [] ⟨[(4,sV aa.1),(5,sV aa.2.1),(6,bV aa.2.2)],[],0⟩)
def Z01.l0 (aa:List ByteArray) (ab:List Z2) (ac:Int):Option (((List Z2)×Bool) ⊕ (List Z2)):=if(decide (ac<(aa.length:Int)))=true then((at? aa ac)>>=fun ad=>(Z1i.f ad)>>=fun ae=>(Z0g.f ae.1)>>=fun af=>(Z22.f ae.2.1)>>=fun ah=>((if(!ae.2.2)=true then(some true) else(if(!af.2)=true then(some true) else(some (!ah.2)))):Option Bool)>>=fun ai=>if ai=true then(some (.inl ([],false))) else((chk ((ab.length+[(⟨af.1,ah.1⟩:Z2)].length)*16≤140737488355328))>>=fun _=>Z01.l0 aa (ab++[(⟨af.1,ah.1⟩:Z2)]) (i64.wrap (ac+1)))) else(some (.inr ab))
partial_fixpoint
def Z01.f (a0:ByteArray):Option ((List Z2)×Bool):=if(a0.toList==(⟨#[]⟩:ByteArray).toList)=true then(some ([],true)) else((Z16.f a0 (⟨#[44]⟩:ByteArray))>>=fun aa=>(Z01.l0 aa [] 0)>>=fun oo=>match oo with | .inl rr=>(some rr) | .inr ab=>(some (ab,true)))
abbrev q2:=@RW _ 2 58 Z4
theorem Z01.ok (a0:ByteArray):FN 39 [sV a0] [] 0 (Z01.f a0) (fun r=>.tup [.own 0,bV r.2]) (fun r=>[q2 0 r.1]):=FT [0] func39 (.r0<|.r0<|.cd (fun aa=>.r0<|.ret [] [] [0] ⟨[(2,.own 0),(3,bV true)],[q2 0 []],0⟩)
 (fun aa=>.r0<|.bd fun ab ac=>.rg [(1,hC [] [(0,0)] [] [0] call34 (Z16.ok a0 (⟨#[44]⟩:ByteArray) ab ac)),(2,hG Zq ab)]<|.bl<|.loop (.c2 (Z01.l0.partial_correctness ab)) ([],0) [(0,5)] [] [4] (fun _=>.pr fun ad=>.one (fun ae=>⟨[(4,.own 4),(17,.own 5),(18,qi (ab.length:Int)),(19,qi ae)],[q2 4 ad,q0 5 ab],0⟩) fun ae=>.r0<|.cd (fun af=>.bl<|.el fun ah ai aj=>.rg [(0,hX Zq ai aj),(1,hL Zq aj)]<|.bd fun ak al=>.rg [(1,qh call65 (Z1i.ok ah ak al))]<|.bd fun am an=>.rg [(1,qh call37 (Z0g.ok ak.1 am an))]<|.bd fun ao ap=>.rg [(1,qh call38 (Z22.ok ak.2.1 ao ap))]<|.join (.sp (fun aq=>.rg [(2,hB aq)]<|.o [(4,6),(5,7)])
 (fun aq=>.sp (fun ar=>.rg [(2,hB aq),(6,hB ar)]<|.o [(4,6),(5,7)])
 (fun ar=>.rg [(2,hB aq),(6,hB ar)]<|.o [(4,6),(5,7)])))
 (.st .normal (fun au=>⟨[(4,.own 6),(10,qi am.1),(12,qu ao.1),(17,.own 7),(18,qi (ab.length:Int)),(19,qi ae),(48,bV au)],[q2 6 ad,q0 7 ab],0⟩) fun au=>.cd (fun av=>.r0<|.ret [] [] [0] ⟨[(2,.own 0),(3,bV false)],[q2 0 []],0⟩)
 (fun av=>.ck fun aw=>.rg [(4,hQ 8 Z4 ([(⟨am.1,ao.1⟩:Z2)]:List Z2)),(5,hP 9 Z4 2 aw)]<|.r0<|.bk [(7,5),(9,4)] rfl)))
 (fun af=>.o [(4,10)]))
 (.sm (.rt (fun rr=>.tup [.own 0,bV rr.2]) (fun rr=>[q2 0 rr.1]))
 (.st (.exit 0) (fun ax=>⟨[(4,.own 10)],[q2 10 ax],0⟩) fun ax=>.r0<|.ret [(10,0)] [] [] ⟨[(2,.own 0),(3,bV true)],[q2 0 ax],0⟩))))
def Z04.f (a0:List Z2):Option (List Z2):=(chk ((([]:List Z2).length+a0.length)*16≤140737488355328))>>=fun _=>some a0
theorem Z04.ok (a0 r:List Z2) (H:Z04.f a0=some r):Pv.Fn Tryz.prog 86 [.im (.row (a0.map Z4))] [] 0 (fun x o=>x = .own 0∧o=[q2 0 r]):=by
 unfold Z04.f at H;obtain⟨c1,H⟩:=chk_of H;obtain rfl:=sj H;refine Fn.bodyK [0] func86 rfl rfl (fun Γ hP hn => ?_);have hm:Tryz.prog.follows .mixedOrders=true:=by kernel_rfl
 replace hn:Γ.n=8:=hn;refine AWp.seq ?_;refine reg hP hn hm [] [0,2] [] ⟨[(0,.im (.row (a0.map Z4))),(2,.none0)],[],0⟩ [] (by kernel_rfl) trivial ?_;refine AWp.seq ?_;cases a0 with
 | nil =>
  refine AWp.nilSplit 0 rfl (fun b m => ?_);refine AWp.seq ?_;cases b with
  | none =>
   refine reg hP hn hm [(1,.more xNil)] [2,4] [] ⟨[(2,.none0),(4,bV true)],[],0⟩ [] (by kernel_rfl) trivial ?_;refine AWp.cond true rfl (fun _ => ?_) (fun h=>nomatch h);refine AWp.seq ?_;refine reg hP hn hm [] [2] [] ⟨[(2,.none0)],[],0⟩ [] (by kernel_rfl) trivial ?_;refine AWp.conv (inv:=[]) (vk:=[]) (e0:=[0]) (t:=⟨[(2,.own 0)],[(0,some (.row 2 58 []))],0⟩) (by kernel_rfl) ?_
   refine AWp.ret ?_;exact Exists.intro _ (And.intro (fun _ _ h=>h) (And.intro (.inl rfl) (And.intro rfl (And.intro (by kernel_rfl) (by kernel_rfl)))))
  | some b =>
   refine reg hP hn hm [(1,.more xNil)] [0,2,4] [] ⟨[(0,.im (.sc (.slice (some b) 0 m))),(2,.none0),(4,bV false)],[],0⟩ [] (by kernel_rfl) trivial ?_;refine AWp.cond false rfl (fun h=>nomatch h) (fun _ => ?_);refine AWp.skip ?_;refine AWp.unsplit 0 rfl ?_;refine AWp.seq ?_;refine reg hP hn hm [(0,.app 0 ([]:List (List Im))),(2,.app 1 (([]:List Z2).map Z4))] [2] [1] ⟨[(2,.own 1)],[q2 1 ([]:List Z2)],0⟩ [([]:List (List Im))=[],([]:List Z2).map Z4=([]:List (List Im))++([]:List Z2).map Z4,∀ c∈([]:List Z2).map Z4,c.length=2,∀ c∈([]:List Z2).map Z4,Z25 (c.map .im)=true,(([]:List (List Im)).length+(([]:List Z2).map Z4).length)*16≤140737488355328] (by kernel_rfl) ⟨rfl,by simp,by exact Z5c _ _ _ (fun _=>rfl),by exact Z5v _ _ (fun _=>rfl),by simpa using c1,trivial⟩ ?_;refine AWp.conv (inv:=[(1,0)]) (vk:=[]) (e0:=[]) (t:=⟨[(2,.own 0)],[q2 0 ([]:List Z2)],0⟩) (by kernel_rfl) ?_
   refine AWp.ret ?_;exact Exists.intro _ (And.intro (fun _ _ h=>h) (And.intro (.inl rfl) (And.intro rfl (And.intro (by kernel_rfl) (by kernel_rfl)))))
 | cons y l =>
  refine AWp.seq ?_;refine reg hP hn hm [(1,.more xNil)] [0,2,4] [] ⟨[(0,.im (.row ((y::l).map Z4))),(2,.none0),(4,bV false)],[],0⟩ [] (by kernel_rfl) trivial ?_;refine AWp.cond false rfl (fun h=>nomatch h) (fun _ => ?_);refine AWp.skip ?_;refine AWp.seq ?_;refine reg hP hn hm [(0,.app 0 ([]:List (List Im))),(2,.app 1 ((y::l).map Z4))] [2] [1] ⟨[(2,.own 1)],[q2 1 (y::l)],0⟩ [([]:List (List Im))=[],(y::l).map Z4=([]:List (List Im))++(y::l).map Z4,∀ c∈(y::l).map Z4,c.length=2,∀ c∈(y::l).map Z4,Z25 (c.map .im)=true,(([]:List (List Im)).length+((y::l).map Z4).length)*16≤140737488355328] (by kernel_rfl) ⟨rfl,by simp,by exact Z5c _ _ _ (fun _=>rfl),by exact Z5v _ _ (fun _=>rfl),by simpa using c1,trivial⟩ ?_;refine AWp.conv (inv:=[(1,0)]) (vk:=[]) (e0:=[]) (t:=⟨[(2,.own 0)],[q2 0 (y::l)],0⟩) (by kernel_rfl) ?_
  refine AWp.ret ?_;exact Exists.intro _ (And.intro (fun _ _ h=>h) (And.intro (.inl rfl) (And.intro rfl (And.intro (by kernel_rfl) (by kernel_rfl)))))
def Z1q.f (a0:Int):Option Unit:=some ()
theorem Z1q.ok (a0:Int):FN 113 [qi a0] [] 0 (Z1q.f a0) (fun r=>bV (a0 != a0)) (fun r=>[]):=FT [] func113 (.r0<|.r0<|.ret [] [] [] ⟨[(2,bV (a0 != a0))],[],0⟩)
def Z1l.f (a0:Int) (a1:Int):Option Int:=(Z1q.f a0)>>=fun aa=>(Z1q.f a1)>>=fun ab=>if(a0 != a0)=true then(if(a1 != a1)=true then(some 0) else(some (-1))) else(if(a1 != a1)=true then(some 1) else(if(decide (a0<a1))=true then(some (-1)) else(if(decide (a0>a1))=true then(some 1) else(some 0))))
theorem Z1l.ok (a0:Int) (a1:Int):FN 89 [qi a0,qi a1] [] 0 (Z1l.f a0 a1) (fun r=>qi r) (fun r=>[]):=FT [] func89 (.r0<|.bd fun aa ab=>.rg [(1,qh call113 (Z1q.ok a0 aa ab))]<|.bd fun ac ad=>.rg [(1,qh call113 (Z1q.ok a1 ac ad))]<|.r0<|.cd (fun ae=>.r0<|.cd (fun af=>.r0<|.ret [] [] [] ⟨[(4,qi 0)],[],0⟩)
 (fun af=>.r0<|.ret [] [] [] ⟨[(4,qi (-1))],[],0⟩))
 (fun ae=>.r0<|.cd (fun ah=>.r0<|.ret [] [] [] ⟨[(4,qi 1)],[],0⟩)
 (fun ah=>.r0<|.cd (fun ai=>.r0<|.ret [] [] [] ⟨[(4,qi (-1))],[],0⟩)
 (fun ai=>.r0<|.cd (fun aj=>.r0<|.ret [] [] [] ⟨[(4,qi 1)],[],0⟩)
 (fun aj=>.r0<|.ret [] [] [] ⟨[(4,qi 0)],[],0⟩)))))
def Z0i.f (a0:Z2) (a1:Z2):Option Int:=(Z1l.f a0.f0 a1.f0)>>=fun aa=>some aa
theorem Z0i.ok (a0:Z2) (a1:Z2):FN 88 [.agg (aBucket a0),.agg (aBucket a1)] [] 0 (Z0i.f a0 a1) (fun r=>qi r) (fun r=>[]):=FT [] func88 (.rg [(0,⟨.k 0,.n⟩),(1,⟨.k 1,.n⟩)]<|.bd fun aa ab=>.rg [(4,qh call89 (Z1l.ok a0.f0 a1.f0 aa ab))]<|.ret [] [] [] ⟨[(4,qi aa)],[],0⟩)
def Z3.l1 (a1:Int) (a2:Int) (aa:Int) (ab:List Z2) (ac:Int):Option (List Z2):=((if(decide (ac>a1))=true then((at? ab ac)>>=fun ad=>(at? ab (i64.wrap (ac-1)))>>=fun ae=>(Z0i.f ad ae)>>=fun af=>some (decide (af<0))) else(some false)):Option Bool)>>=fun ah=>if ah=true then((at? ab (i64.wrap (ac-1)))>>=fun ai=>(at? ab ac)>>=fun aj=>(at? (ab.set (Int.toNat (ac)) ai) (i64.wrap (ac-1)))>>=fun ak=>Z3.l1 a1 a2 aa ((ab.set (Int.toNat (ac)) ai).set (Int.toNat (i64.wrap (ac-1))) aj) (i64.wrap (ac-1))) else(some ab)
partial_fixpoint
def Z3.l0 (a1:Int) (a2:Int) (aa:List Z2) (ab:Int):Option (List Z2):=if(decide (ab<a2))=true then((Z3.l1 a1 a2 ab aa ab)>>=fun ac=>Z3.l0 a1 a2 ac (i64.wrap (ab+1))) else(some aa)
partial_fixpoint
def Z3.f (a0:List Z2) (a1:Int) (a2:Int):Option (List Z2):=(Z3.l0 a1 a2 a0 (i64.wrap (a1+1)))>>=fun aa=>some aa
theorem Z3.ok (a0:List Z2) (a1:Int) (a2:Int):FN 124 [.own 0,qi a1,qi a2,.im (qf 88)] [q2 0 a0] 1 (Z3.f a0 a1 a2) (fun r=>.tup []) (fun r=>[q2 0 r]):=FT [0] func124 (.r0<|.bl<|.loop (.c2 (Z3.l0.partial_correctness a1 a2)) (a0,i64.wrap (a1+1)) [(0,0)] [] [] (fun _=>.pr fun aa=>.one (fun ab=>⟨[(0,.own 0),(1,qi a1),(2,qi a2),(3,.im (qf 88)),(8,qi ab)],[q2 0 aa],1⟩) fun ab=>.r0<|.cd (fun ac=>.bl<|.r0<|.bl<|.loop (.c2 (Z3.l1.partial_correctness a1 a2 ab)) (aa,ab) [(0,0)] [] [] (fun _=>.pr fun ad=>.one (fun ae=>⟨[(0,.own 0),(1,qi a1),(2,qi a2),(3,.im (qf 88)),(8,qi ab),(9,qi ae)],[q2 0 ad],1⟩) fun ae=>.join (.sp (fun af=>.el fun ah ai aj=>.el fun ak al am=>.bd fun an ao=>.rg [(3,hB af),(7,hX Z4 ai aj),(8,hL Z4 aj),(12,hX Z4 al am),(13,hL Z4 am),(14,qh call88 (Z0i.ok ah ak an ao))]<|.o [(0,0)])
 (fun af=>.rg [(3,hB af)]<|.o [(0,0)]))
 (.st .normal (fun ap=>⟨[(0,.own 0),(1,qi a1),(2,qi a2),(3,.im (qf 88)),(8,qi ab),(9,qi ae),(34,bV ap)],[q2 0 ad],1⟩) fun ap=>.cd (fun aq=>.bl<|.el fun ar au av=>.el fun aw ax ay=>.el fun az a8 ba=>.rg [(8,hX Z4 au av),(9,hL Z4 av),(12,hX Z4 ax ay),(13,hL Z4 ay),(14,hX Z4 ax ay),(15,hS Z4 ar 0 [iI .i64 ar.f0,iI .u64 ar.f1] ay),(16,hX Z4 a8 ba),(17,hS Z4 aw 0 [iI .i64 aw.f0,iI .u64 aw.f1] ba)]<|.r0<|.bk [(0,0)] rfl)
 (fun aq=>.o [(0,0)])))
 (.st (.exit 2) (fun bb=>⟨[(0,.own 0),(1,qi a1),(2,qi a2),(3,.im (qf 88)),(8,qi ab)],[q2 0 bb],1⟩) fun bb=>.r0<|.bk [(0,0)] rfl))
 (fun ac=>.o [(0,0)]))
 (.st (.exit 0) (fun bc=>⟨[],[q2 0 bc],1⟩) fun bc=>.ret [(0,0)] [] [] ⟨[],[q2 0 bc],1⟩))
def Z7.l0 (a1:Int) (a2:Int) (a3:Int) (aa:List Z2) (ab:Int):Option (List Z2):=if(decide (ab<a3))=true then((at? aa (i64.wrap (a2+ab)))>>=fun ac=>(at? aa (i64.wrap (a1+ab)))>>=fun ad=>(at? (aa.set (Int.toNat (i64.wrap (a1+ab))) ac) (i64.wrap (a2+ab)))>>=fun ae=>Z7.l0 a1 a2 a3 ((aa.set (Int.toNat (i64.wrap (a1+ab))) ac).set (Int.toNat (i64.wrap (a2+ab))) ad) (i64.wrap (ab+1))) else(some aa)
partial_fixpoint
def Z7.f (a0:List Z2) (a1:Int) (a2:Int) (a3:Int):Option (List Z2):=(Z7.l0 a1 a2 a3 a0 0)>>=fun aa=>some aa
theorem Z7.ok (a0:List Z2) (a1:Int) (a2:Int) (a3:Int):FN 129 [.own 0,qi a1,qi a2,qi a3,.im (qf 88)] [q2 0 a0] 1 (Z7.f a0 a1 a2 a3) (fun r=>.tup []) (fun r=>[q2 0 r]):=FT [0] func129 (.r0<|.bl<|.loop (.c2 (Z7.l0.partial_correctness a1 a2 a3)) (a0,0) [(0,0)] [] [] (fun _=>.pr fun aa=>.one (fun ab=>⟨[(0,.own 0),(1,qi a1),(2,qi a2),(3,qi a3),(10,qi ab)],[q2 0 aa],1⟩) fun ab=>.r0<|.cd (fun ac=>.bl<|.el fun ad ae af=>.el fun ah ai aj=>.el fun ak al am=>.rg [(12,hX Z4 ae af),(13,hL Z4 af),(18,hX Z4 ai aj),(19,hL Z4 aj),(20,hX Z4 ai aj),(21,hS Z4 ad 0 [iI .i64 ad.f0,iI .u64 ad.f1] aj),(22,hX Z4 al am),(23,hS Z4 ah 0 [iI .i64 ah.f0,iI .u64 ah.f1] am)]<|.r0<|.bk [(0,0)] rfl)
 (fun ac=>.o [(0,0)]))
 (.st (.exit 0) (fun an=>⟨[],[q2 0 an],1⟩) fun an=>.ret [(0,0)] [] [] ⟨[],[q2 0 an],1⟩))
def Zb.l0 (a2:Int) (aa:List Z2) (ab:Int) (ac:Int):Option ((List Z2)×Int):=if(ab != ac)=true then(((if(decide (ab>ac))=true then((Z7.f aa (i64.wrap (a2-ab)) a2 ac)>>=fun ad=>some (ad,i64.wrap (ab-ac),ac)) else((Z7.f aa (i64.wrap (a2-ab)) (i64.wrap ((i64.wrap (a2+ac))-ab)) ab)>>=fun ae=>some (ae,ab,i64.wrap (ac-ab)))):Option ((List Z2)×Int×Int))>>=fun oo=>match oo with | (af,ah,ai)=>(Zb.l0 a2 af ah ai)) else(some (aa,ab))
partial_fixpoint
def Zb.f (a0:List Z2) (a1:Int) (a2:Int) (a3:Int):Option (List Z2):=(Zb.l0 a2 a0 (i64.wrap (a2-a1)) (i64.wrap (a3-a2)))>>=fun oo=>match oo with | (aa,ab)=>((Z7.f aa (i64.wrap (a2-ab)) a2 ab)>>=fun ac=>some ac)
theorem Zb.ok (a0:List Z2) (a1:Int) (a2:Int) (a3:Int):FN 128 [.own 0,qi a1,qi a2,qi a3,.im (qf 88)] [q2 0 a0] 1 (Zb.f a0 a1 a2 a3) (fun r=>.tup []) (fun r=>[q2 0 r]):=FT [0] func128 (.r0<|.r0<|.bl<|.loop (.c3 (Zb.l0.partial_correctness a2)) (a0,i64.wrap (a2-a1),i64.wrap (a3-a2)) [(0,0)] [] [] (fun _=>.pr fun aa=>.pr fun ab=>.one (fun ac=>⟨[(0,.own 0),(2,qi a2),(4,.im (qf 88)),(10,qi ab),(11,qi ac)],[q2 0 aa],1⟩) fun ac=>.r0<|.cd (fun ad=>.bl<|.r0<|.join (.cd (fun ae=>.bd fun af ah=>.rg [(7,hC [(0,0)] [(0,0)] [] [] call129 (Z7.ok aa (i64.wrap (a2-ab)) a2 ac af ah))]<|.r0<|.o [(0,0)])
 (fun ae=>.bd fun ai aj=>.rg [(11,hC [(0,0)] [(0,0)] [] [] call129 (Z7.ok aa (i64.wrap (a2-ab)) (i64.wrap ((i64.wrap (a2+ac))-ab)) ab ai aj))]<|.r0<|.o [(0,0)]))
 (.pr fun ak=>.pr fun al=>.st .normal (fun am=>⟨[(0,.own 0),(2,qi a2),(4,.im (qf 88)),(10,qi al),(11,qi am)],[q2 0 ak],1⟩) fun am=>.bk [(0,0)] rfl))
 (fun ad=>.o [(0,0)]))
 (.pr fun an=>.st (.exit 0) (fun ao=>⟨[(0,.own 0),(2,qi a2),(4,.im (qf 88)),(10,qi ao)],[q2 0 an],1⟩) fun ao=>.bd fun ap aq=>.rg [(7,hC [(0,0)] [(0,0)] [] [] call129 (Z7.ok an (i64.wrap (a2-ao)) a2 ao ap aq))]<|.ret [(0,0)] [] [] ⟨[],[q2 0 ap],1⟩))
def Z0.l0 (a0:List Z2) (a1:Int) (aa:Int) (ab:Int):Option Int:=if(decide (aa<ab))=true then((at? a0 (i64.wrap (Int.fdiv (u64.wrap (i64.wrap (aa+ab))) 2)))>>=fun ac=>(at? a0 a1)>>=fun ad=>(Z0i.f ac ad)>>=fun ae=>((if(decide (ae<0))=true then(some (i64.wrap ((i64.wrap (Int.fdiv (u64.wrap (i64.wrap (aa+ab))) 2))+1),ab)) else(some (aa,i64.wrap (Int.fdiv (u64.wrap (i64.wrap (aa+ab))) 2)))):Option (Int×Int))>>=fun oo=>match oo with | (af,ah)=>(Z0.l0 a0 a1 af ah)) else(some aa)
partial_fixpoint
def Z0.l1 (aa:Int) (ab:List Z2) (ac:Int):Option (List Z2):=if(decide (ac<(i64.wrap (aa-1))))=true then((at? ab (i64.wrap (ac+1)))>>=fun ad=>(at? ab ac)>>=fun ae=>(at? (ab.set (Int.toNat (ac)) ad) (i64.wrap (ac+1)))>>=fun af=>Z0.l1 aa ((ab.set (Int.toNat (ac)) ad).set (Int.toNat (i64.wrap (ac+1))) ae) (i64.wrap (ac+1))) else(some ab)
partial_fixpoint
def Z0.l2 (a0:List Z2) (a2:Int) (aa:Int) (ab:Int):Option Int:=if(decide (aa<ab))=true then((at? a0 a2)>>=fun ac=>(at? a0 (i64.wrap (Int.fdiv (u64.wrap (i64.wrap (aa+ab))) 2)))>>=fun ad=>(Z0i.f ac ad)>>=fun ae=>((if(!(decide (ae<0)))=true then(some (i64.wrap ((i64.wrap (Int.fdiv (u64.wrap (i64.wrap (aa+ab))) 2))+1),ab)) else(some (aa,i64.wrap (Int.fdiv (u64.wrap (i64.wrap (aa+ab))) 2)))):Option (Int×Int))>>=fun oo=>match oo with | (af,ah)=>(Z0.l2 a0 a2 af ah)) else(some aa)
partial_fixpoint
def Z0.l3 (aa:Int) (ab:List Z2) (ac:Int):Option (List Z2):=if(decide (ac>aa))=true then((at? ab (i64.wrap (ac-1)))>>=fun ad=>(at? ab ac)>>=fun ae=>(at? (ab.set (Int.toNat (ac)) ad) (i64.wrap (ac-1)))>>=fun af=>Z0.l3 aa ((ab.set (Int.toNat (ac)) ad).set (Int.toNat (i64.wrap (ac-1))) ae) (i64.wrap (ac-1))) else(some ab)
partial_fixpoint
def Z0.l4 (a0:List Z2) (a1:Int) (a2:Int) (a3:Int) (aa:Int) (ab:Int):Option Int:=if(decide (aa<ab))=true then((at? a0 (i64.wrap ((i64.wrap ((i64.wrap ((i64.wrap (Int.fdiv (u64.wrap (i64.wrap (a1+a3))) 2))+a2))-1))-(i64.wrap (Int.fdiv (u64.wrap (i64.wrap (aa+ab))) 2)))))>>=fun ac=>(at? a0 (i64.wrap (Int.fdiv (u64.wrap (i64.wrap (aa+ab))) 2)))>>=fun ad=>(Z0i.f ac ad)>>=fun ae=>((if(!(decide (ae<0)))=true then(some (i64.wrap ((i64.wrap (Int.fdiv (u64.wrap (i64.wrap (aa+ab))) 2))+1),ab)) else(some (aa,i64.wrap (Int.fdiv (u64.wrap (i64.wrap (aa+ab))) 2)))):Option (Int×Int))>>=fun oo=>match oo with | (af,ah)=>(Z0.l4 a0 a1 a2 a3 af ah)) else(some aa)
partial_fixpoint
def Z0.f (a0:List Z2) (a1:Int) (a2:Int) (a3:Int):Option (List Z2):=if((i64.wrap (a2-a1))==1)=true then((Z0.l0 a0 a1 a2 a3)>>=fun aa=>(Z0.l1 aa a0 a1)>>=fun ab=>some ab) else(if((i64.wrap (a3-a2))==1)=true then((Z0.l2 a0 a2 a1 a2)>>=fun ac=>(Z0.l3 ac a0 a2)>>=fun ad=>some ad) else(((if(decide (a2>(i64.wrap (Int.fdiv (u64.wrap (i64.wrap (a1+a3))) 2))))=true then(some (i64.wrap ((i64.wrap ((i64.wrap (Int.fdiv (u64.wrap (i64.wrap (a1+a3))) 2))+a2))-a3),i64.wrap (Int.fdiv (u64.wrap (i64.wrap (a1+a3))) 2))) else(some (a1,a2))):Option (Int×Int))>>=fun oo=>match oo with | (ae,af)=>((Z0.l4 a0 a1 a2 a3 ae af)>>=fun ah=>((if(decide (ah<a2))=true then(some (decide (a2<(i64.wrap ((i64.wrap ((i64.wrap (Int.fdiv (u64.wrap (i64.wrap (a1+a3))) 2))+a2))-ah))))) else(some false)):Option Bool)>>=fun ai=>((if ai=true then((Zb.f a0 ah a2 (i64.wrap ((i64.wrap ((i64.wrap (Int.fdiv (u64.wrap (i64.wrap (a1+a3))) 2))+a2))-ah)))>>=fun aj=>some aj) else(some a0)):Option (List Z2))>>=fun ak=>((if(decide (a1<ah))=true then(some (decide (ah<(i64.wrap (Int.fdiv (u64.wrap (i64.wrap (a1+a3))) 2))))) else(some false)):Option Bool)>>=fun al=>((if al=true then((Z0.f ak a1 ah (i64.wrap (Int.fdiv (u64.wrap (i64.wrap (a1+a3))) 2)))>>=fun am=>some am) else(some ak)):Option (List Z2))>>=fun an=>((if(decide ((i64.wrap (Int.fdiv (u64.wrap (i64.wrap (a1+a3))) 2))<(i64.wrap ((i64.wrap ((i64.wrap (Int.fdiv (u64.wrap (i64.wrap (a1+a3))) 2))+a2))-ah))))=true then(some (decide ((i64.wrap ((i64.wrap ((i64.wrap (Int.fdiv (u64.wrap (i64.wrap (a1+a3))) 2))+a2))-ah))<a3))) else(some false)):Option Bool)>>=fun ao=>((if ao=true then((Z0.f an (i64.wrap (Int.fdiv (u64.wrap (i64.wrap (a1+a3))) 2)) (i64.wrap ((i64.wrap ((i64.wrap (Int.fdiv (u64.wrap (i64.wrap (a1+a3))) 2))+a2))-ah)) a3)>>=fun ap=>some ap) else(some an)):Option (List Z2))>>=fun aq=>some aq)))
partial_fixpoint
theorem Z0.ok (a0:List Z2) (a1:Int) (a2:Int) (a3:Int) (r:List Z2) (H:Z0.f a0 a1 a2 a3=some r):Pv.Fn Tryz.prog 125 [.own 0,qi a1,qi a2,qi a3,.im (qf 88)] [q2 0 a0] 1 (fun x o=>x = .tup []∧o=[q2 0 r]):=by
 refine Z0.f.partial_correctness (motive:=fun a0 a1 a2 a3 r=>Pv.Fn Tryz.prog 125 [.own 0,qi a1,qi a2,qi a3,.im (qf 88)] [q2 0 a0] 1 (fun x o=>x = .tup []∧o=[q2 0 r])) ?_ a0 a1 a2 a3 r H;clear H a0 a1 a2 a3 r;intro self ihF a0 a1 a2 a3 r H;exact HT.fn H (fun r=>.tup []) (fun r=>[q2 0 r]) [0] func125 rfl rfl hmx (.r0<|.cd (fun aa=>.r0<|.r0<|.bl<|.loop (.c2 (Z0.l0.partial_correctness a0 a1)) (a2,a3) [(0,0)] [] [] (fun _=>.pr fun ab=>.one (fun ac=>⟨[(0,.own 0),(1,qi a1),(4,.im (qf 88)),(10,qi ab),(11,qi ac)],[q2 0 a0],1⟩) fun ac=>.r0<|.cd (fun ad=>.bl<|.rg [(4,hK 1)]<|.el fun ae af ah=>.el fun ai aj ak=>.bd fun al am=>.rg [(3,hX Z4 af ah),(4,hL Z4 ah),(7,hX Z4 aj ak),(8,hL Z4 ak),(9,qh call88 (Z0i.ok ae ai al am))]<|.join (.cd (fun an=>.r0<|.o [(0,0)])
 (fun an=>.r0<|.o [(0,0)]))
 (.pr fun ao=>.st .normal (fun ap=>⟨[(0,.own 0),(1,qi a1),(4,.im (qf 88)),(10,qi ao),(11,qi ap)],[q2 0 a0],1⟩) fun ap=>.bk [(0,0)] rfl))
 (fun ad=>.o [(0,0)]))
 (.st (.exit 0) (fun aq=>⟨[(0,.own 0),(1,qi a1),(10,qi aq)],[q2 0 a0],1⟩) fun aq=>.r0<|.bl<|.loop (.c2 (Z0.l1.partial_correctness aq)) (a0,a1) [(0,0)] [] [] (fun _=>.pr fun ar=>.one (fun au=>⟨[(0,.own 0),(10,qi aq),(13,qi au)],[q2 0 ar],1⟩) fun au=>.r0<|.cd (fun av=>.bl<|.el fun aw ax ay=>.el fun az a8 ba=>.el fun bb bc be=>.rg [(8,hX Z4 ax ay),(9,hL Z4 ay),(12,hX Z4 a8 ba),(13,hL Z4 ba),(14,hX Z4 a8 ba),(15,hS Z4 aw 0 [iI .i64 aw.f0,iI .u64 aw.f1] ba),(16,hX Z4 bc be),(17,hS Z4 az 0 [iI .i64 az.f0,iI .u64 az.f1] be)]<|.r0<|.bk [(0,0)] rfl)
 (fun av=>.o [(0,0)]))
 (.st (.exit 2) (fun bf=>⟨[],[q2 0 bf],1⟩) fun bf=>.ret [(0,0)] [] [] ⟨[],[q2 0 bf],1⟩)))
 (fun aa=>.r0<|.cd (fun bg=>.r0<|.r0<|.bl<|.loop (.c2 (Z0.l2.partial_correctness a0 a2)) (a1,a2) [(0,0)] [] [] (fun _=>.pr fun bh=>.one (fun bi=>⟨[(0,.own 0),(2,qi a2),(4,.im (qf 88)),(14,qi bh),(15,qi bi)],[q2 0 a0],1⟩) fun bi=>.r0<|.cd (fun bj=>.bl<|.rg [(4,hK 1)]<|.el fun bn bo bp=>.el fun bq br bu=>.bd fun bv bw=>.rg [(3,hX Z4 bo bp),(4,hL Z4 bp),(7,hX Z4 br bu),(8,hL Z4 bu),(9,qh call88 (Z0i.ok bn bq bv bw))]<|.join (.cd (fun bx=>.r0<|.o [(0,0)])
 (fun bx=>.r0<|.o [(0,0)]))
 (.pr fun bz=>.st .normal (fun ca=>⟨[(0,.own 0),(2,qi a2),(4,.im (qf 88)),(14,qi bz),(15,qi ca)],[q2 0 a0],1⟩) fun ca=>.bk [(0,0)] rfl))
 (fun bj=>.o [(0,0)]))
 (.st (.exit 4) (fun cb=>⟨[(0,.own 0),(2,qi a2),(14,qi cb)],[q2 0 a0],1⟩) fun cb=>.r0<|.bl<|.loop (.c2 (Z0.l3.partial_correctness cb)) (a0,a2) [(0,0)] [] [] (fun _=>.pr fun cc=>.one (fun ce=>⟨[(0,.own 0),(14,qi cb),(17,qi ce)],[q2 0 cc],1⟩) fun ce=>.r0<|.cd (fun cf=>.bl<|.el fun cj cm cn=>.el fun co cp cq=>.el fun cr ct cu=>.rg [(8,hX Z4 cm cn),(9,hL Z4 cn),(12,hX Z4 cp cq),(13,hL Z4 cq),(14,hX Z4 cp cq),(15,hS Z4 cj 0 [iI .i64 cj.f0,iI .u64 cj.f1] cq),(16,hX Z4 ct cu),(17,hS Z4 co 0 [iI .i64 co.f0,iI .u64 co.f1] cu)]<|.r0<|.bk [(0,0)] rfl)
 (fun cf=>.o [(0,0)]))
 (.st (.exit 6) (fun cw=>⟨[],[q2 0 cw],1⟩) fun cw=>.ret [(0,0)] [] [] ⟨[],[q2 0 cw],1⟩)))
 (fun bg=>.rg [(4,hK 1)]<|.r0<|.r0<|.r0<|.join (.cd (fun cx=>.r0<|.r0<|.o [(0,0)])
 (fun cx=>.r0<|.r0<|.o [(0,0)]))
 (.pr fun cy=>.st .normal (fun cz=>⟨[(0,.own 0),(1,qi a1),(2,qi a2),(3,qi a3),(4,.im (qf 88)),(18,qi (i64.wrap (Int.fdiv (u64.wrap (i64.wrap (a1+a3))) 2))),(19,qi (i64.wrap ((i64.wrap (Int.fdiv (u64.wrap (i64.wrap (a1+a3))) 2))+a2))),(20,qi cy),(21,qi cz)],[q2 0 a0],1⟩) fun cz=>.r0<|.bl<|.loop (.c2 (Z0.l4.partial_correctness a0 a1 a2 a3)) (cy,cz) [(0,0)] [] [] (fun _=>.pr fun c8=>.one (fun c9=>⟨[(0,.own 0),(1,qi a1),(2,qi a2),(3,qi a3),(4,.im (qf 88)),(18,qi (i64.wrap (Int.fdiv (u64.wrap (i64.wrap (a1+a3))) 2))),(19,qi (i64.wrap ((i64.wrap (Int.fdiv (u64.wrap (i64.wrap (a1+a3))) 2))+a2))),(20,qi c8),(21,qi c9),(22,qi (i64.wrap ((i64.wrap ((i64.wrap (Int.fdiv (u64.wrap (i64.wrap (a1+a3))) 2))+a2))-1)))],[q2 0 a0],1⟩) fun c9=>.r0<|.cd (fun da=>.bl<|.rg [(4,hK 1)]<|.el fun db dc dd=>.el fun de df dg=>.bd fun dh di=>.rg [(5,hX Z4 dc dd),(6,hL Z4 dd),(9,hX Z4 df dg),(10,hL Z4 dg),(11,qh call88 (Z0i.ok db de dh di))]<|.join (.cd (fun dj=>.r0<|.o [(0,0)])
 (fun dj=>.r0<|.o [(0,0)]))
 (.pr fun dl=>.st .normal (fun dm=>⟨[(0,.own 0),(1,qi a1),(2,qi a2),(3,qi a3),(4,.im (qf 88)),(18,qi (i64.wrap (Int.fdiv (u64.wrap (i64.wrap (a1+a3))) 2))),(19,qi (i64.wrap ((i64.wrap (Int.fdiv (u64.wrap (i64.wrap (a1+a3))) 2))+a2))),(20,qi dl),(21,qi dm),(22,qi (i64.wrap ((i64.wrap ((i64.wrap (Int.fdiv (u64.wrap (i64.wrap (a1+a3))) 2))+a2))-1)))],[q2 0 a0],1⟩) fun dm=>.bk [(0,0)] rfl))
 (fun da=>.o [(0,0)]))
 (.st (.exit 8) (fun dn=>⟨[(0,.own 0),(1,qi a1),(2,qi a2),(3,qi a3),(4,.im (qf 88)),(18,qi (i64.wrap (Int.fdiv (u64.wrap (i64.wrap (a1+a3))) 2))),(19,qi (i64.wrap ((i64.wrap (Int.fdiv (u64.wrap (i64.wrap (a1+a3))) 2))+a2))),(20,qi dn)],[q2 0 a0],1⟩) fun dn=>.r0<|.join (.sp (fun dp=>.rg [(3,hB dp)]<|.o [(0,0)])
 (fun dp=>.rg [(3,hB dp)]<|.o [(0,0)]))
 (.st .normal (fun dq=>⟨[(0,.own 0),(1,qi a1),(2,qi a2),(3,qi a3),(4,.im (qf 88)),(18,qi (i64.wrap (Int.fdiv (u64.wrap (i64.wrap (a1+a3))) 2))),(20,qi dn),(24,qi (i64.wrap ((i64.wrap ((i64.wrap (Int.fdiv (u64.wrap (i64.wrap (a1+a3))) 2))+a2))-dn))),(185,bV dq)],[q2 0 a0],1⟩) fun dq=>.join (.cd (fun dr=>.bd fun dt du=>.rg [(5,hC [(0,0)] [(0,0)] [] [] call128 (Zb.ok a0 dn a2 (i64.wrap ((i64.wrap ((i64.wrap (Int.fdiv (u64.wrap (i64.wrap (a1+a3))) 2))+a2))-dn)) dt du))]<|.o [(0,0)])
 (fun dr=>.o [(0,0)]))
 (.st .normal (fun dv=>⟨[(0,.own 0),(1,qi a1),(3,qi a3),(4,.im (qf 88)),(18,qi (i64.wrap (Int.fdiv (u64.wrap (i64.wrap (a1+a3))) 2))),(20,qi dn),(24,qi (i64.wrap ((i64.wrap ((i64.wrap (Int.fdiv (u64.wrap (i64.wrap (a1+a3))) 2))+a2))-dn)))],[q2 0 dv],1⟩) fun dv=>.join (.sp (fun dw=>.rg [(3,hB dw)]<|.o [(0,0)])
 (fun dw=>.rg [(3,hB dw)]<|.o [(0,0)]))
 (.st .normal (fun dx=>⟨[(0,.own 0),(1,qi a1),(3,qi a3),(4,.im (qf 88)),(18,qi (i64.wrap (Int.fdiv (u64.wrap (i64.wrap (a1+a3))) 2))),(20,qi dn),(24,qi (i64.wrap ((i64.wrap ((i64.wrap (Int.fdiv (u64.wrap (i64.wrap (a1+a3))) 2))+a2))-dn))),(199,bV dx)],[q2 0 dv],1⟩) fun dx=>.join (.cd (fun dy=>.bd fun dz d3=>.rg [(5,hC [(0,0)] [(0,0)] [] [] call125 (ihF dv a1 dn (i64.wrap (Int.fdiv (u64.wrap (i64.wrap (a1+a3))) 2)) _ d3))]<|.o [(0,0)])
 (fun dy=>.o [(0,0)]))
 (.st .normal (fun d4=>⟨[(0,.own 0),(3,qi a3),(4,.im (qf 88)),(18,qi (i64.wrap (Int.fdiv (u64.wrap (i64.wrap (a1+a3))) 2))),(24,qi (i64.wrap ((i64.wrap ((i64.wrap (Int.fdiv (u64.wrap (i64.wrap (a1+a3))) 2))+a2))-dn)))],[q2 0 d4],1⟩) fun d4=>.join (.sp (fun d5=>.rg [(3,hB d5)]<|.o [(0,0)])
 (fun d5=>.rg [(3,hB d5)]<|.o [(0,0)]))
 (.st .normal (fun d6=>⟨[(0,.own 0),(3,qi a3),(4,.im (qf 88)),(18,qi (i64.wrap (Int.fdiv (u64.wrap (i64.wrap (a1+a3))) 2))),(24,qi (i64.wrap ((i64.wrap ((i64.wrap (Int.fdiv (u64.wrap (i64.wrap (a1+a3))) 2))+a2))-dn))),(213,bV d6)],[q2 0 d4],1⟩) fun d6=>.join (.cd (fun d7=>.bd fun d8 d9=>.rg [(5,hC [(0,0)] [(0,0)] [] [] call125 (ihF d4 (i64.wrap (Int.fdiv (u64.wrap (i64.wrap (a1+a3))) 2)) (i64.wrap ((i64.wrap ((i64.wrap (Int.fdiv (u64.wrap (i64.wrap (a1+a3))) 2))+a2))-dn)) a3 _ d9))]<|.o [(0,0)])
 (fun d7=>.o [(0,0)]))
 (.st .normal (fun ea=>⟨[],[q2 0 ea],1⟩) fun ea=>.ret [(0,0)] [] [] ⟨[],[q2 0 ea],1⟩)))))))))))
def Z5.l0 (a1:Int) (aa:List Z2) (ab:Int) (ac:Int):Option ((List Z2)×Int):=if(decide (ac≤a1))=true then((Z3.f aa ab ac)>>=fun ad=>Z5.l0 a1 ad ac (i64.wrap (ac+20))) else(some (aa,ab))
partial_fixpoint
def Z5.l2 (a1:Int) (aa:Int) (ab:List Z2) (ac:Int) (ad:Int):Option ((List Z2)×Int):=if(decide (ad≤a1))=true then((Z0.f ab ac (i64.wrap (ac+aa)) ad)>>=fun ae=>Z5.l2 a1 aa ae ad (i64.wrap (ad+(i64.wrap ((2:Int)*aa))))) else(some (ab,ac))
partial_fixpoint
def Z5.l1 (a1:Int) (aa:List Z2) (ab:Int):Option (List Z2):=if(decide (ab<a1))=true then((Z5.l2 a1 ab aa 0 (i64.wrap ((2:Int)*ab)))>>=fun oo=>match oo with | (ac,ad)=>(((if(decide ((i64.wrap (ad+ab))<a1))=true then((Z0.f ac ad (i64.wrap (ad+ab)) a1)>>=fun ae=>some ae) else(some ac)):Option (List Z2))>>=fun af=>Z5.l1 a1 af (i64.wrap (ab*2)))) else(some aa)
partial_fixpoint
def Z5.f (a0:List Z2) (a1:Int):Option (List Z2):=(Z5.l0 a1 a0 0 20)>>=fun oo=>match oo with | (aa,ab)=>((Z3.f aa ab a1)>>=fun ac=>(Z5.l1 a1 ac 20)>>=fun ad=>some ad)
theorem Z5.ok (a0:List Z2) (a1:Int):FN 112 [.own 0,qi a1,.im (qf 88)] [q2 0 a0] 1 (Z5.f a0 a1) (fun r=>.tup []) (fun r=>[q2 0 r]):=FT [0] func112 (.r0<|.r0<|.bl<|.loop (.c3 (Z5.l0.partial_correctness a1)) (a0,0,20) [(0,0)] [] [] (fun _=>.pr fun aa=>.pr fun ab=>.one (fun ac=>⟨[(0,.own 0),(1,qi a1),(2,.im (qf 88)),(6,qi 20),(7,qi ab),(8,qi ac)],[q2 0 aa],1⟩) fun ac=>.r0<|.cd (fun ad=>.bl<|.bd fun ae af=>.rg [(4,hC [(0,0)] [(0,0)] [] [] call124 (Z3.ok aa ab ac ae af))]<|.r0<|.r0<|.bk [(0,0)] rfl)
 (fun ad=>.o [(0,0)]))
 (.pr fun ah=>.st (.exit 0) (fun ai=>⟨[(0,.own 0),(1,qi a1),(2,.im (qf 88)),(6,qi 20),(7,qi ai)],[q2 0 ah],1⟩) fun ai=>.bd fun aj ak=>.rg [(4,hC [(0,0)] [(0,0)] [] [] call124 (Z3.ok ah ai a1 aj ak))]<|.bl<|.loop (.c2 (Z5.l1.partial_correctness a1)) (aj,20) [(0,0)] [] [] (fun _=>.pr fun al=>.one (fun am=>⟨[(0,.own 0),(1,qi a1),(2,.im (qf 88)),(6,qi am)],[q2 0 al],1⟩) fun am=>.r0<|.cd (fun an=>.bl<|.r0<|.bl<|.loop (.c3 (Z5.l2.partial_correctness a1 am)) (al,0,i64.wrap ((2:Int)*am)) [(0,0)] [] [] (fun _=>.pr fun ao=>.pr fun ap=>.one (fun aq=>⟨[(0,.own 0),(1,qi a1),(2,.im (qf 88)),(6,qi am),(7,qi ap),(8,qi aq)],[q2 0 ao],1⟩) fun aq=>.r0<|.cd (fun ar=>.bl<|.bd fun au av=>.rg [(7,hC [(0,0)] [(0,0)] [] [] call125 (Z0.ok ao ap (i64.wrap (ap+am)) aq au av))]<|.r0<|.r0<|.bk [(0,0)] rfl)
 (fun ar=>.o [(0,0)]))
 (.pr fun aw=>.st (.exit 4) (fun ax=>⟨[(0,.own 0),(1,qi a1),(2,.im (qf 88)),(6,qi am),(7,qi ax)],[q2 0 aw],1⟩) fun ax=>.r0<|.r0<|.join (.cd (fun ay=>.bd fun az a8=>.rg [(5,hC [(0,0)] [(0,0)] [] [] call125 (Z0.ok aw ax (i64.wrap (ax+am)) a1 az a8))]<|.o [(0,0)])
 (fun ay=>.o [(0,0)]))
 (.st .normal (fun ba=>⟨[(0,.own 0),(1,qi a1),(2,.im (qf 88)),(6,qi am)],[q2 0 ba],1⟩) fun ba=>.r0<|.bk [(0,0)] rfl)))
 (fun an=>.o [(0,0)]))
 (.st (.exit 2) (fun bb=>⟨[],[q2 0 bb],1⟩) fun bb=>.ret [(0,0)] [] [] ⟨[],[q2 0 bb],1⟩)))
def Zk.f (a0:List Z2):Option (List Z2):=(Z5.f a0 (a0.length:Int))>>=fun aa=>some aa
theorem Zk.ok (a0:List Z2):FN 87 [.own 0,.im (qf 88)] [q2 0 a0] 1 (Zk.f a0) (fun r=>.tup []) (fun r=>[q2 0 r]):=FT [0] func87 (.bd fun aa ab=>.rg [(2,hG Z4 a0),(4,hC [(0,0)] [(0,0)] [] [] call112 (Z5.ok a0 (a0.length:Int) aa ab))]<|.ret [(0,0)] [] [] ⟨[],[q2 0 aa],1⟩)
def Z1e.l0 (a0:List Int) (aa:Int) (ab:Int):Option ((Int×Int) ⊕ Int):=if(decide (ab<(a0.length:Int)))=true then((at? a0 ab)>>=fun ac=>(chk (0≤aa∧0≤ac∧0≤(0:Int)∧(0:Int)≤1))>>=fun _=>if(((aa+ac+0) / 18446744073709551616) != 0)=true then(some (.inl (0,5))) else(Z1e.l0 a0 ((aa+ac+0) % 18446744073709551616) (i64.wrap (ab+1)))) else(some (.inr aa))
partial_fixpoint
def Z1e.f (a0:List Int):Option (Int×Int):=(Z1e.l0 a0 0 0)>>=fun oo=>match oo with | .inl rr=>(some rr) | .inr aa=>(some (aa,0))
theorem Z1e.ok (a0:List Int):FN 76 [.im (.row (a0.map qv))] [] 0 (Z1e.f a0) (fun r=>.tup [qu r.1,qi r.2]) (fun r=>[]):=FT [] func76 (.r0<|.r0<|.rg [(1,hG qv a0)]<|.bl<|.loop (.c2 (Z1e.l0.partial_correctness a0)) (0,0) [] [] [] (fun _=>.pr fun aa=>.one (fun ab=>⟨[(4,qu aa),(9,.im (.row (a0.map qv))),(10,qi (a0.length:Int)),(11,qi ab)],[],0⟩) fun ab=>.r0<|.cd (fun ac=>.bl<|.el fun ad ae af=>.rg [(0,hA qv ae af)]<|.ck fun ah=>.rg [(2,⟨.ext (.tup [qu ((aa+ad+0) % 18446744073709551616),qu ((aa+ad+0) / 18446744073709551616)]),.c (p:=∀ w,(callFunc 99 ([.int .u64 aa,.int .u64 ad,.int .u64 (0:Int)]:List Value).toArray).run Tryz.prog w = .ok (.value (.tuple #[.int .u64 ((aa+ad+0) % 18446744073709551616),.int .u64 ((aa+ad+0) / 18446744073709551616)])) w) (fun w=>x_add64 (fn:=Tryz.f99) func99 (by kernel_rfl) rfl (by kernel_rfl) (by kernel_rfl) ah w) .n⟩)]<|.r0<|.cd (fun ai=>.r0<|.ret [] [] [] ⟨[(2,qu 0),(3,qi 5)],[],0⟩)
 (fun ai=>.r0<|.r0<|.bk [] rfl))
 (fun ac=>.o []))
 (.sm (.rt (fun rr=>.tup [qu rr.1,qi rr.2]) (fun rr=>[]))
 (.st (.exit 0) (fun aj=>⟨[(4,qu aj)],[],0⟩) fun aj=>.r0<|.ret [] [] [] ⟨[(2,qu aj),(3,qi 0)],[],0⟩)))
def Z09.l0 (aa:List Z2) (ab:List Z2) (ac:Int):Option (((List Z2)×Int) ⊕ (List Z2)):=if(decide (ac<(aa.length:Int)))=true then((at? aa ac)>>=fun ad=>((if(ad.f1==0)=true then(some (.inr ab)) else(((if(decide ((ab.length:Int)>0))=true then((at? ab (i64.wrap ((ab.length:Int)-1)))>>=fun ae=>some (ae.f0==ad.f0)) else(some false)):Option Bool)>>=fun af=>((if af=true then((at? ab (i64.wrap ((ab.length:Int)-1)))>>=fun ah=>(Z1e.f [ah.f1,ad.f1])>>=fun ai=>if(ai.2 != 0)=true then(some (.inl ([],ai.2))) else(some (.inr (ab.set (Int.toNat (i64.wrap ((ab.length:Int)-1))) (⟨ah.f0,ai.1⟩:Z2))))) else((chk ((ab.length+[ad].length)*16≤140737488355328))>>=fun _=>some (.inr (ab++[ad])))):Option (((List Z2)×Int) ⊕ (List Z2)))>>=fun oo=>match oo with | .inl rr=>(some (.inl rr)) | .inr aj=>(some (.inr aj)))):Option (((List Z2)×Int) ⊕ (List Z2)))>>=fun oo=>match oo with | .inl rr=>(some (.inl rr)) | .inr ak=>(Z09.l0 aa ak (i64.wrap (ac+1)))) else(some (.inr ab))
partial_fixpoint
def Z09.f (a0:List Z2):Option ((List Z2)×Int):=(Z04.f a0)>>=fun aa=>(Zk.f aa)>>=fun ab=>(Z09.l0 ab [] 0)>>=fun oo=>match oo with | .inl rr=>(some rr) | .inr ac=>(some (ac,0))
theorem Z09.ok (a0:List Z2):FN 66 [.im (.row (a0.map Z4))] [] 0 (Z09.f a0) (fun r=>.tup [.own 0,qi r.2]) (fun r=>[q2 0 r.1]):=FT [0] func66 (.r0<|.r0<|.bd fun aa ab=>.rg [(1,hC [] [(0,0)] [] [0] call86 (Z04.ok a0 aa ab))]<|.bd fun ac ad=>.rg [(1,hC [(0,0)] [(0,0)] [] [] call87 (Zk.ok aa ac ad))]<|.rg [(1,hG Z4 ac)]<|.bl<|.loop (.c2 (Z09.l0.partial_correctness ac)) ([],0) [(0,7)] [] [6] (fun _=>.pr fun ae=>.one (fun af=>⟨[(4,.own 6),(14,.own 7),(15,qi (ac.length:Int)),(16,qi af)],[q2 6 ae,q2 7 ac],0⟩) fun af=>.r0<|.cd (fun ah=>.bl<|.el fun ai aj ak=>.rg [(0,hX Z4 aj ak),(1,hL Z4 ak),(2,⟨.k 8,.n⟩)]<|.rg [(1,hG Z4 ae)]<|.bl<|.r0<|.join (.cd (fun al=>.o [(6,17),(7,18)])
 (fun al=>.join (.sp (fun am=>.el fun an ao ap=>.rg [(2,hB am),(6,hX Z4 ao ap),(8,hL Z4 ap)]<|.o [(6,9),(8,10),(7,11)])
 (fun am=>.rg [(2,hB am)]<|.o [(6,9),(8,10),(7,11)]))
 (.st .normal (fun aq=>⟨[(4,.own 9),(6,.ptr 10 0 0),(7,qi (ae.length:Int)),(14,.own 11),(15,qi (ac.length:Int)),(16,qi af),(30,bV aq)],[q2 9 ae,(10,some (.box 58 (aBucket ai))),q2 11 ac],0⟩) fun aq=>.join (.cd (fun ar=>.el fun au av aw=>.bd fun ax ay=>.rg [(3,hX Z4 av aw),(5,hL Z4 aw),(8,hQ 12 qv ([au.f1,ai.f1]:List Int)),(9,hC [] [] [12] [] call76 (Z1e.ok [au.f1,ai.f1] ax ay))]<|.r0<|.cd (fun az=>.r0<|.ret [] [] [0] ⟨[(2,.own 0),(3,qi ax.2)],[q2 0 []],0⟩)
 (fun az=>.rg [(4,hX Z4 av aw),(6,hS Z4 (⟨au.f0,ax.1⟩:Z2) 1 [iI .u64 ax.1] aw)]<|.o [(9,15),(11,16)]))
 (fun ar=>.ck fun a8=>.rg [(2,hQ 13 Z4 ([ai]:List Z2)),(3,hP 14 Z4 2 a8)]<|.o [(14,15),(11,16)]))
 (.sm (.rt (fun rr=>.tup [.own 0,qi rr.2]) (fun rr=>[q2 0 rr.1]))
 (.st .normal (fun ba=>⟨[(4,.own 15),(14,.own 16),(15,qi (ac.length:Int)),(16,qi af)],[q2 15 ba,q2 16 ac],0⟩) fun ba=>.o [(15,17),(16,18)])))))
 (.sm (.rt (fun rr=>.tup [.own 0,qi rr.2]) (fun rr=>[q2 0 rr.1]))
 (.st .normal (fun bb=>⟨[(4,.own 17),(14,.own 18),(15,qi (ac.length:Int)),(16,qi af)],[q2 17 bb,q2 18 ac],0⟩) fun bb=>.r0<|.bk [(17,6),(18,7)] rfl)))
 (fun ah=>.o [(6,19)]))
 (.sm (.rt (fun rr=>.tup [.own 0,qi rr.2]) (fun rr=>[q2 0 rr.1]))
 (.st (.exit 0) (fun bc=>⟨[(4,.own 19)],[q2 19 bc],0⟩) fun bc=>.r0<|.ret [(19,0)] [] [] ⟨[(2,.own 0),(3,qi 0)],[q2 0 bc],0⟩)))
def Zt.l1 (a0:List (List Z2)) (aa:List Z2) (ab:Int) (ac:Int) (ad:Int):Option ((Int×Int) ⊕ Int):=if(decide (ad<(aa.length:Int)))=true then((at? aa ad)>>=fun ae=>(Z1e.f [ac,ae.f1])>>=fun af=>if(af.2 != 0)=true then(some (.inl (0,af.2))) else(Zt.l1 a0 aa ab af.1 (i64.wrap (ad+1)))) else(some (.inr ac))
partial_fixpoint
def Zt.l0 (a0:List (List Z2)) (aa:Int) (ab:Int):Option ((Int×Int) ⊕ Int):=if(decide (ab<(a0.length:Int)))=true then((at? a0 ab)>>=fun ac=>(Zt.l1 a0 ac ab aa 0)>>=fun oo=>match oo with | .inl rr=>(some (.inl rr)) | .inr ad=>(Zt.l0 a0 ad (i64.wrap (ab+1)))) else(some (.inr aa))
partial_fixpoint
def Zt.f (a0:List (List Z2)):Option (Int×Int):=(Zt.l0 a0 0 0)>>=fun oo=>match oo with | .inl rr=>(some rr) | .inr aa=>(some (aa,0))
theorem Zt.ok (a0:List (List Z2)):FN 55 [.im (.row (a0.map (Z4l Z4)))] [] 0 (Zt.f a0) (fun r=>.tup [qu r.1,qi r.2]) (fun r=>[]):=FT [] func55 (.r0<|.r0<|.rg [(1,hG (Z4l Z4) a0)]<|.bl<|.loop (.c2 (Zt.l0.partial_correctness a0)) (0,0) [] [] [] (fun _=>.pr fun aa=>.one (fun ab=>⟨[(4,qu aa),(10,.im (.row (a0.map (Z4l Z4)))),(11,qi (a0.length:Int)),(12,qi ab)],[],0⟩) fun ab=>.r0<|.cd (fun ac=>.bl<|.el fun ad ae af=>.rg [(0,hA (Z4l Z4) ae af)]<|.rg [(1,hG Z4 ad)]<|.bl<|.loop (.c2 (Zt.l1.partial_correctness a0 ad ab)) (aa,0) [] [] [] (fun _=>.pr fun ah=>.one (fun ai=>⟨[(4,qu ah),(10,.im (.row (a0.map (Z4l Z4)))),(11,qi (a0.length:Int)),(12,qi ab),(16,.im (.row (ad.map Z4))),(17,qi (ad.length:Int)),(18,qi ai)],[],0⟩) fun ai=>.r0<|.cd (fun aj=>.bl<|.el fun ak al am=>.rg [(0,hA Z4 al am),(2,⟨.k 6,.n⟩)]<|.r0<|.bd fun an ao=>.rg [(3,hQ 7 qv ([ah,ak.f1]:List Int)),(4,hC [] [] [7] [] call76 (Z1e.ok [ah,ak.f1] an ao))]<|.r0<|.cd (fun ap=>.r0<|.ret [] [] [] ⟨[(2,qu 0),(3,qi an.2)],[],0⟩)
 (fun ap=>.r0<|.bk [] rfl))
 (fun aj=>.o []))
 (.sm (.rt (fun rr=>.tup [qu rr.1,qi rr.2]) (fun rr=>[]))
 (.st (.exit 2) (fun aq=>⟨[(4,qu aq),(10,.im (.row (a0.map (Z4l Z4)))),(11,qi (a0.length:Int)),(12,qi ab)],[],0⟩) fun aq=>.r0<|.bk [] rfl)))
 (fun ac=>.o []))
 (.sm (.rt (fun rr=>.tup [qu rr.1,qi rr.2]) (fun rr=>[]))
 (.st (.exit 0) (fun ar=>⟨[(4,qu ar)],[],0⟩) fun ar=>.r0<|.ret [] [] [] ⟨[(2,qu ar),(3,qi 0)],[],0⟩)))
def Z07.f (a0:Int):Option Bool:=((if(decide (a0≥(-4)))=true then(some (decide (a0≤8))) else(some false)):Option Bool)>>=fun aa=>some aa
theorem Z07.ok (a0:Int):FN 53 [qi a0] [] 0 (Z07.f a0) (fun r=>bV r) (fun r=>[]):=FT [] func53 (.r0<|.join (.sp (fun aa=>.rg [(2,hB aa)]<|.o [])
 (fun aa=>.rg [(2,hB aa)]<|.o []))
 (.st .normal (fun ab=>⟨[(2,bV ab)],[],0⟩) fun ab=>.ret [] [] [] ⟨[(2,bV ab)],[],0⟩))
def Z1u.f (a0:Int):Option Unit:=some ()
theorem Z1u.ok (a0:Int):FN 116 [qi a0] [] 0 (Z1u.f a0) (fun r=>qu (u64.wrap (i64.wrap ((8:Int)-a0)))) (fun r=>[]):=FT [] func116 (.r0<|.r0<|.ret [] [] [] ⟨[(2,qu (u64.wrap (i64.wrap ((8:Int)-a0))))],[],0⟩)
def Z23.f (a0:Int):Option Int:=(Z07.f a0)>>=fun aa=>if(!aa)=true then(some 0) else((Z1u.f a0)>>=fun ab=>(chk (0≤(u64.wrap (i64.wrap ((8:Int)-a0)))))>>=fun _=>some (Int.fdiv (262144:Int) (2 ^ (min (Int.toNat (u64.wrap (i64.wrap ((8:Int)-a0)))) 64))))
theorem Z23.ok (a0:Int):FN 97 [qi a0] [] 0 (Z23.f a0) (fun r=>qi r) (fun r=>[]):=FT [] func97 (.r0<|.bd fun aa ab=>.rg [(1,qh call53 (Z07.ok a0 aa ab))]<|.cd (fun ac=>.r0<|.ret [] [] [] ⟨[(2,qi 0)],[],0⟩)
 (fun ac=>.bd fun ad ae=>.ck fun af=>.rg [(1,qh call116 (Z1u.ok a0 ad ae)),(2,hN (p1 af))]<|.ret [] [] [] ⟨[(2,qi (Int.fdiv (262144:Int) (2 ^ (min (Int.toNat (u64.wrap (i64.wrap ((8:Int)-a0)))) 64))))],[],0⟩))
def Z2j.f (a0:Int):Option Int:=(Z23.f a0)>>=fun aa=>some (i64.wrap ((i64.wrap (0-aa))+1))
theorem Z2j.ok (a0:Int):FN 96 [qi a0] [] 0 (Z2j.f a0) (fun r=>qi r) (fun r=>[]):=FT [] func96 (.r0<|.bd fun aa ab=>.rg [(1,qh call97 (Z23.ok a0 aa ab))]<|.ret [] [] [] ⟨[(2,qi (i64.wrap ((i64.wrap (0-aa))+1)))],[],0⟩)
def Z3g.f (a0:Int) (a1:Int):Option Bool:=(((Z07.f a0)>>=fun aa=>if aa=true then((Z2j.f a0)>>=fun ab=>if(decide (a1≥ab))=true then((Z23.f a0)>>=fun ac=>some (decide (a1≤ac))) else(some false)) else(some false)):Option Bool)>>=fun ad=>some ad
theorem Z3g.ok (a0:Int) (a1:Int):FN 74 [qi a0,qi a1] [] 0 (Z3g.f a0 a1) (fun r=>bV r) (fun r=>[]):=FT [] func74 (.r0<|.join (.bd fun aa ab=>.sp (fun ac=>.bd fun ad ae=>.sp (fun af=>.bd fun ah ai=>.rg [(1,qh call53 (Z07.ok a0 aa ab)),(2,hB ac),(5,qh call96 (Z2j.ok a0 ad ae)),(8,hB af),(11,qh call97 (Z23.ok a0 ah ai))]<|.o [])
 (fun af=>.rg [(1,qh call53 (Z07.ok a0 aa ab)),(2,hB ac),(5,qh call96 (Z2j.ok a0 ad ae)),(8,hB af)]<|.o []))
 (fun ac=>.rg [(1,qh call53 (Z07.ok a0 aa ab)),(2,hB ac)]<|.o []))
 (.st .normal (fun aj=>⟨[(4,bV aj)],[],0⟩) fun aj=>.ret [] [] [] ⟨[(4,bV aj)],[],0⟩))
def Z2i.f (a0:Int) (a1:Int):Option Int:=(Z07.f a0)>>=fun aa=>if(!aa)=true then(some 0) else((Z1u.f a0)>>=fun ab=>(chk (0≤(u64.wrap (i64.wrap ((8:Int)-a0)))))>>=fun _=>some (i64.wrap (a1*2 ^ (min (Int.toNat (u64.wrap (i64.wrap ((8:Int)-a0)))) 64))))
theorem Z2i.ok (a0:Int) (a1:Int):FN 98 [qi a0,qi a1] [] 0 (Z2i.f a0 a1) (fun r=>qi r) (fun r=>[]):=FT [] func98 (.r0<|.bd fun aa ab=>.rg [(1,qh call53 (Z07.ok a0 aa ab))]<|.cd (fun ac=>.r0<|.ret [] [] [] ⟨[(4,qi 0)],[],0⟩)
 (fun ac=>.bd fun ad ae=>.ck fun af=>.rg [(2,qh call116 (Z1u.ok a0 ad ae)),(3,hN (p1 af))]<|.ret [] [] [] ⟨[(4,qi (i64.wrap (a1*2 ^ (min (Int.toNat (u64.wrap (i64.wrap ((8:Int)-a0)))) 64))))],[],0⟩))
def Z30.f (a0:Int) (a1:Int):Option Int:=(Z2i.f a0 (i64.wrap (a1-1)))>>=fun aa=>some aa
theorem Z30.ok (a0:Int) (a1:Int):FN 75 [qi a0,qi a1] [] 0 (Z30.f a0 a1) (fun r=>qi r) (fun r=>[]):=FT [] func75 (.r0<|.bd fun aa ab=>.rg [(3,qh call98 (Z2i.ok a0 (i64.wrap (a1-1)) aa ab))]<|.ret [] [] [] ⟨[(4,qi aa)],[],0⟩)
def Zf.l0 (a0:Zi) (a1:List Z2) (aa:Int):Option (Int ⊕ Unit):=if(decide (aa<(a1.length:Int)))=true then((at? a1 aa)>>=fun ab=>(Z3g.f a0.f1 ab.f0)>>=fun ac=>if(!ac)=true then(some (.inl 4)) else(((if(decide (aa>0))=true then((at? a1 (i64.wrap (aa-1)))>>=fun ad=>some (decide (ad.f0≥ab.f0))) else(some false)):Option Bool)>>=fun ae=>if ae=true then(some (.inl 32)) else(if(ab.f1==0)=true then(some (.inl 21)) else((Z30.f a0.f1 ab.f0)>>=fun af=>if(decide (af<a0.f2))=true then(some (.inl 31)) else(Zf.l0 a0 a1 (i64.wrap (aa+1))))))) else(some (.inr ()))
partial_fixpoint
def Zf.f (a0:Zi) (a1:List Z2):Option Int:=if(decide ((a1.length:Int)>512))=true then(some 9) else((Zf.l0 a0 a1 0)>>=fun oo=>match oo with | .inl rr=>(some rr) | .inr _=>(some 0))
theorem Zf.ok (a0:Zi) (a1:List Z2):FN 54 [.agg (Z27 a0),.im (.row (a1.map Z4))] [] 0 (Zf.f a0 a1) (fun r=>qi r) (fun r=>[]):=FT [] func54 (.rg [(0,⟨.k 0,.n⟩)]<|.rg [(1,hG Z4 a1)]<|.cd (fun aa=>.r0<|.ret [] [] [] ⟨[(4,qi 9)],[],0⟩)
 (fun aa=>.rg [(1,hG Z4 a1)]<|.bl<|.loop (.one (Zf.l0.partial_correctness a0 a1)) 0 [(0,2)] [] [] (fun _=>.one (fun ab=>⟨[(1,.im (.row (a1.map Z4))),(2,.ptr 2 0 0),(10,.im (.row (a1.map Z4))),(11,qi (a1.length:Int)),(12,qi ab)],[(2,some (.box 26 (Z27 a0)))],0⟩) fun ab=>.r0<|.cd (fun ac=>.bl<|.el fun ad ae af=>.rg [(1,hA Z4 ae af),(3,⟨.k 3,.n⟩)]<|.bl<|.bd fun ah ai=>.rg [(4,qh call74 (Z3g.ok a0.f1 ad.f0 ah ai))]<|.cd (fun aj=>.r0<|.ret [] [] [] ⟨[(4,qi 4)],[],0⟩)
 (fun aj=>.join (.sp (fun ak=>.el fun al am an=>.rg [(2,hB ak),(6,hA Z4 am an)]<|.o [(2,4),(3,5)])
 (fun ak=>.rg [(2,hB ak)]<|.o [(2,4),(3,5)]))
 (.st .normal (fun ao=>⟨[(1,.im (.row (a1.map Z4))),(2,.ptr 4 0 0),(6,.ptr 5 0 0),(10,.im (.row (a1.map Z4))),(11,qi (a1.length:Int)),(12,qi ab),(24,bV ao)],[(4,some (.box 26 (Z27 a0))),(5,some (.box 58 (aBucket ad)))],0⟩) fun ao=>.cd (fun ap=>.r0<|.ret [] [] [] ⟨[(4,qi 32)],[],0⟩)
 (fun ap=>.r0<|.cd (fun aq=>.r0<|.ret [] [] [] ⟨[(4,qi 21)],[],0⟩)
 (fun aq=>.bd fun ar au=>.rg [(4,qh call75 (Z30.ok a0.f1 ad.f0 ar au))]<|.cd (fun av=>.r0<|.ret [] [] [] ⟨[(4,qi 31)],[],0⟩)
 (fun av=>.r0<|.bk [(4,2)] rfl))))))
 (fun ac=>.o []))
 (.sm (.rt (fun rr=>qi rr) (fun rr=>[]))
 (.st (.exit 0) (fun _=>⟨[],[],0⟩) fun _=>.r0<|.ret [] [] [] ⟨[(4,qi 0)],[],0⟩))))
def Zu.l0 (a0:Zi) (aa:Int):Option (Int ⊕ Unit):=if(decide (aa<2))=true then((((chk (0≤aa∧aa<2))>>=fun _=>if(aa==0)=true then(some a0.f6) else(some a0.f7)):Option (List Z2))>>=fun ab=>(Zf.f a0 ab)>>=fun ac=>if(ac != 0)=true then(some (.inl ac)) else(Zu.l0 a0 (i64.wrap (aa+1)))) else(some (.inr ()))
partial_fixpoint
def Zu.f (a0:Zi):Option Int:=((if(a0.f0 != 0)=true then(some (a0.f0 != 1)) else(some false)):Option Bool)>>=fun aa=>if aa=true then(some 25) else((Z07.f a0.f1)>>=fun ab=>if(!ab)=true then(some 20) else(((if(a0.f2 != (-524288))=true then(if(decide (a0.f2≤(-262144)))=true then(some true) else(some (decide (a0.f2>262144)))) else(some false)):Option Bool)>>=fun ac=>if ac=true then(some 31) else((Zu.l0 a0 0)>>=fun oo=>match oo with | .inl rr=>(some rr) | .inr _=>((Zt.f [a0.f6,a0.f7,[(⟨0,a0.f3⟩:Z2)]])>>=fun ad=>if(ad.2 != 0)=true then(some ad.2) else(if(ad.1 != a0.f4)=true then(some 21) else(some 0))))))
theorem Zu.ok (a0:Zi):FN 29 [.agg (Z27 a0)] [] 0 (Zu.f a0) (fun r=>qi r) (fun r=>[]):=FT [] func29 (.rg [(0,⟨.k 0,.n⟩)]<|.bl<|.join (.sp (fun aa=>.rg [(3,hB aa)]<|.o [(0,1)])
 (fun aa=>.rg [(3,hB aa)]<|.o [(0,1)]))
 (.st .normal (fun ab=>⟨[(1,.ptr 1 0 0),(8,bV ab)],[(1,some (.box 26 (Z27 a0)))],0⟩) fun ab=>.cd (fun ac=>.r0<|.ret [] [] [] ⟨[(2,qi 25)],[],0⟩)
 (fun ac=>.bd fun ad ae=>.rg [(2,qh call53 (Z07.ok a0.f1 ad ae))]<|.cd (fun af=>.r0<|.ret [] [] [] ⟨[(2,qi 20)],[],0⟩)
 (fun af=>.join (.sp (fun ah=>.sp (fun ai=>.rg [(3,hB ah),(7,hB ai)]<|.o [(1,2)])
 (fun ai=>.rg [(3,hB ah),(7,hB ai)]<|.o [(1,2)]))
 (fun ah=>.rg [(3,hB ah)]<|.o [(1,2)]))
 (.st .normal (fun aj=>⟨[(1,.ptr 2 0 0),(22,bV aj)],[(2,some (.box 26 (Z27 a0)))],0⟩) fun aj=>.cd (fun ak=>.r0<|.ret [] [] [] ⟨[(2,qi 31)],[],0⟩)
 (fun ak=>.r0<|.bl<|.loop (.one (Zu.l0.partial_correctness a0)) 0 [(2,3)] [] [] (fun _=>.one (fun al=>⟨[(1,.ptr 3 0 0),(40,.agg [.im (.row (a0.f6.map Z4)),.im (.row (a0.f7.map Z4))]),(41,qi al)],[(3,some (.box 26 (Z27 a0)))],0⟩) fun al=>.r0<|.cd (fun am=>.bl<|.join (.ck fun an=>.sp (fun ao=>.rg [(0,⟨.more (xIdx 0),.c (p:=al=((0:Nat):Int)) (by simpa using ao) .n⟩)]<|.o [(3,4)])
 (fun ao=>.rg [(0,⟨.more (xIdx 1),.c (p:=al=((1:Nat):Int)) (by have:=an;simp only[beq_eq_false_iff_ne] at *;omega) .n⟩)]<|.o [(3,4)]))
 (.st .normal (fun ap=>⟨[(1,.ptr 4 0 0),(4,.im (.row (ap.map Z4))),(40,.agg [.im (.row (a0.f6.map Z4)),.im (.row (a0.f7.map Z4))]),(41,qi al)],[(4,some (.box 26 (Z27 a0)))],0⟩) fun ap=>.bd fun aq ar=>.rg [(2,qh call54 (Zf.ok a0 ap aq ar))]<|.r0<|.cd (fun au=>.r0<|.ret [] [] [] ⟨[(2,qi aq)],[],0⟩)
 (fun au=>.r0<|.bk [(4,3)] rfl)))
 (fun am=>.o [(3,5)]))
 (.sm (.rt (fun rr=>qi rr) (fun rr=>[]))
 (.st (.exit 1) (fun _=>⟨[(1,.ptr 5 0 0)],[(5,some (.box 26 (Z27 a0)))],0⟩) fun _=>.bd fun av aw=>.rg [(7,fzI (hQ 6 Z4 ([(⟨0,a0.f3⟩:Z2)]:List Z2))),(8,hQ 7 (Z4l Z4) ([a0.f6,a0.f7,[(⟨0,a0.f3⟩:Z2)]]:List (List Z2))),(9,hC [] [] [7] [] call55 (Zt.ok [a0.f6,a0.f7,[(⟨0,a0.f3⟩:Z2)]] av aw))]<|.bl<|.r0<|.cd (fun ax=>.r0<|.ret [] [] [] ⟨[(2,qi av.2)],[],0⟩)
 (fun ax=>.r0<|.cd (fun ay=>.r0<|.ret [] [] [] ⟨[(2,qi 21)],[],0⟩)
 (fun ay=>.r0<|.ret [] [] [] ⟨[(2,qi 0)],[],0⟩))))))))))
def Z2z.f (a0:Zi) (a1:List Z2) (a2:List Z2):Option (Zi×Int):=(Z09.f a1)>>=fun aa=>(Z09.f a2)>>=fun ab=>if((if ab.2>aa.2 then ab.2 else aa.2) != 0)=true then(some ((⟨0,0,0,0,0,0,[],[]⟩:Zi),(if ab.2>aa.2 then ab.2 else aa.2))) else((Zt.f [aa.1,ab.1,[(⟨0,a0.f3⟩:Z2)]])>>=fun ac=>if(ac.2 != 0)=true then(some ((⟨0,0,0,0,0,0,[],[]⟩:Zi),ac.2)) else((Zu.f (⟨a0.f0,a0.f1,a0.f2,a0.f3,ac.1,a0.f5,aa.1,ab.1⟩:Zi))>>=fun ad=>if(ad != 0)=true then(some ((⟨0,0,0,0,0,0,[],[]⟩:Zi),ad)) else(some ((⟨a0.f0,a0.f1,a0.f2,a0.f3,ac.1,a0.f5,aa.1,ab.1⟩:Zi),0))))
abbrev qk0:MObj:=.box 26 [qi 0,qi 0,qi 0,qu 0,qu 0,qi 0,.none0,.none0]
theorem Z2z.ok (a0:Zi) (a1:List Z2) (a2:List Z2):FN 40 [.agg (Z27 a0),.im (.row (a1.map Z4)),.im (.row (a2.map Z4))] [] 0 (Z2z.f a0 a1 a2) (fun r=>.tup [.agg (Z27 (r.1)),qi r.2]) (fun r=>[]):=FT [] func40 (.rg [(0,⟨.k 0,.n⟩),(1,⟨.k 1,.n⟩)]<|.r0<|.bd fun aa ab=>.rg [(1,hC [] [(0,2)] [] [2] call66 (Z09.ok a1 aa ab))]<|.bd fun ac ad=>.rg [(1,hC [] [(0,3)] [] [3] call66 (Z09.ok a2 ac ad))]<|.rg [(2,⟨.more xMax,.n⟩)]<|.r0<|.cd (fun ae=>.r0<|.ret [(1,0)] [] [] ⟨[(6,.ptr 0 0 0),(7,qi (if ac.2>aa.2 then ac.2 else aa.2))],[(0,some (.box 26 (Z27 (⟨0,0,0,0,0,0,[],[]⟩:Zi))))],0⟩)
 (fun ae=>.cv [(0,0),(1,1)] [2,3] [] ⟨[(3,.ptr 0 0 0),(6,.ptr 1 0 0),(8,qi (if ac.2>aa.2 then ac.2 else aa.2)),(27,bV ((if ac.2>aa.2 then ac.2 else aa.2) != 0))],[(0,some (.box 26 (Z27 ⟨a0.f0,a0.f1,a0.f2,a0.f3,a0.f4,a0.f5,aa.1,ac.1⟩))),(1,some (qk0))],0⟩<|.bd fun af ah=>.rg [(7,fzI (hQ 4 Z4 ([(⟨0,a0.f3⟩:Z2)]:List Z2))),(8,hQ 5 (Z4l Z4) ([aa.1,ac.1,[(⟨0,a0.f3⟩:Z2)]]:List (List Z2))),(9,hC [] [] [5] [] call55 (Zt.ok [aa.1,ac.1,[(⟨0,a0.f3⟩:Z2)]] af ah))]<|.r0<|.cd (fun ai=>.r0<|.ret [(1,0)] [] [] ⟨[(6,.ptr 0 0 0),(7,qi af.2)],[(0,some (.box 26 (Z27 (⟨0,0,0,0,0,0,[],[]⟩:Zi))))],0⟩)
 (fun ai=>.bd fun aj ak=>.rg [(1,qh call29 (Zu.ok (⟨a0.f0,a0.f1,a0.f2,a0.f3,af.1,a0.f5,aa.1,ac.1⟩:Zi) aj ak))]<|.r0<|.cd (fun al=>.r0<|.ret [(1,0)] [] [] ⟨[(6,.ptr 0 0 0),(7,qi aj)],[(0,some (.box 26 (Z27 (⟨0,0,0,0,0,0,[],[]⟩:Zi))))],0⟩)
 (fun al=>.r0<|.ret [(1,0)] [] [] ⟨[(6,.ptr 0 0 0),(7,qi 0)],[(0,some (.box 26 (Z27 (⟨a0.f0,a0.f1,a0.f2,a0.f3,af.1,a0.f5,aa.1,ac.1⟩:Zi))))],0⟩))))
def Zc.l0 (a0:List Z2) (a1:List Z2) (aa:Int):Option (Bool ⊕ Unit):=if(decide (aa<(a0.length:Int)))=true then((at? a0 aa)>>=fun ab=>(at? a1 aa)>>=fun ac=>if(!((ab.f0==ac.f0)&&((ab.f1==ac.f1)&&true)))=true then(some (.inl false)) else(Zc.l0 a0 a1 (i64.wrap (aa+1)))) else(some (.inr ()))
partial_fixpoint
def Zc.f (a0:List Z2) (a1:List Z2):Option Bool:=if((a0.length:Int) != (a1.length:Int))=true then(some false) else((Zc.l0 a0 a1 0)>>=fun oo=>match oo with | .inl rr=>(some rr) | .inr _=>(some true))
theorem Zc.ok (a0:List Z2) (a1:List Z2):FN 41 [.im (.row (a0.map Z4)),.im (.row (a1.map Z4))] [] 0 (Zc.f a0 a1) (fun r=>bV r) (fun r=>[]):=FT [] func41 (.r0<|.rg [(1,hG Z4 a0),(3,hG Z4 a1)]<|.cd (fun aa=>.r0<|.ret [] [] [] ⟨[(4,bV false)],[],0⟩)
 (fun aa=>.rg [(1,hG Z4 a0)]<|.bl<|.loop (.one (Zc.l0.partial_correctness a0 a1)) 0 [] [] [] (fun _=>.one (fun ab=>⟨[(0,.im (.row (a0.map Z4))),(1,.im (.row (a1.map Z4))),(12,qi (a0.length:Int)),(13,qi ab)],[],0⟩) fun ab=>.r0<|.cd (fun ac=>.bl<|.r0<|.el fun ad ae af=>.el fun ah ai aj=>.rg [(2,hA Z4 ae af),(6,hA Z4 ai aj),(8,⟨.more (xAgg none),.n⟩)]<|.cd (fun ak=>.r0<|.ret [] [] [] ⟨[(4,bV false)],[],0⟩)
 (fun ak=>.r0<|.bk [] rfl))
 (fun ac=>.o []))
 (.sm (.rt (fun rr=>bV rr) (fun rr=>[]))
 (.st (.exit 0) (fun _=>⟨[],[],0⟩) fun _=>.r0<|.ret [] [] [] ⟨[(4,bV true)],[],0⟩))))
def Z2e.f (a0:ByteArray):Option (Zi×Int):=(Z16.f a0 (⟨#[32]⟩:ByteArray))>>=fun aa=>((if((aa.length:Int) != 7)=true then(some true) else((at? aa 5)>>=fun ab=>(Z0b.f ab (⟨#[43]⟩:ByteArray))>>=fun ac=>if(!ac)=true then(some true) else((at? aa 6)>>=fun ad=>(Z0b.f ad (⟨#[45]⟩:ByteArray))>>=fun ae=>some (!ae)))):Option Bool)>>=fun af=>if af=true then(some ((⟨0,0,0,0,0,0,[],[]⟩:Zi),6)) else((at? aa 0)>>=fun ah=>(Zr.f gt0 ah)>>=fun ai=>(at? aa 1)>>=fun aj=>(Z0g.f aj)>>=fun ak=>(at? aa 3)>>=fun al=>(Z22.f al)>>=fun am=>(at? aa 4)>>=fun an=>(Z0g.f an)>>=fun ao=>(at? aa 5)>>=fun ap=>(chk (0≤(1:Int)∧(1:Int)≤(ap.size:Int)∧(ap.size:Int)≤(ap.size:Int)))>>=fun _=>(Z01.f (ap.extract (Int.toNat (1:Int)) (Int.toNat (ap.size:Int))))>>=fun aq=>(at? aa 6)>>=fun ar=>(chk (0≤(1:Int)∧(1:Int)≤(ar.size:Int)∧(ar.size:Int)≤(ar.size:Int)))>>=fun _=>(Z01.f (ar.extract (Int.toNat (1:Int)) (Int.toNat (ar.size:Int))))>>=fun au=>((if(decide (ai≥0))=true then(if ak.2=true then(if am.2=true then(if ao.2=true then(if aq.2=true then(some au.2) else(some false)) else(some false)) else(some false)) else(some false)) else(some false)):Option Bool)>>=fun av=>(at? aa 2)>>=fun aw=>((if(!(aw.toList==(⟨#[110,111,110,101]⟩:ByteArray).toList))=true then((Z0g.f aw)>>=fun ax=>((if av=true then(if ax.2=true then(some (ax.1 != (-524288))) else(some false)) else(some false)):Option Bool)>>=fun ay=>some (ax.1,ay)) else(some ((-524288),av))):Option (Int×Bool))>>=fun oo=>match oo with | (az,a8)=>(if(!a8)=true then(some ((⟨0,0,0,0,0,0,[],[]⟩:Zi),6)) else((Z2z.f (⟨ai,ak.1,az,am.1,0,ao.1,[],[]⟩:Zi) aq.1 au.1)>>=fun ba=>if(ba.2 != 0)=true then(some ((⟨0,0,0,0,0,0,[],[]⟩:Zi),ba.2)) else((((Zc.f ((ba.1).f6) aq.1)>>=fun bb=>if(!bb)=true then(some true) else((Zc.f ((ba.1).f7) au.1)>>=fun bc=>some (!bc))):Option Bool)>>=fun be=>if be=true then(some ((⟨0,0,0,0,0,0,[],[]⟩:Zi),32)) else(some ((ba.1),0))))))
theorem Z2e.ok (a0:ByteArray):FN 13 [sV a0] [] 0 (Z2e.f a0) (fun r=>.tup [.agg (Z27 (r.1)),qi r.2]) (fun r=>[]):=FT [] func13 (.rg [(0,⟨.k 0,.n⟩)]<|.bd fun aa ab=>.rg [(1,hC [] [(0,1)] [] [1] call34 (Z16.ok a0 (⟨#[32]⟩:ByteArray) aa ab))]<|.join (.sp (fun ac=>.rg [(1,hG Zq aa),(3,hB ac)]<|.o [(0,2),(1,3)])
 (fun ac=>.el fun ad ae af=>.bd fun ah ai=>.sp (fun aj=>.rg [(1,hG Zq aa),(3,hB ac),(5,hX Zq ae af),(6,hL Zq af),(7,qh call35 (Z0b.ok ad (⟨#[43]⟩:ByteArray) ah ai)),(10,hB aj)]<|.o [(0,2),(1,3)])
 (fun aj=>.el fun ak al am=>.bd fun an ao=>.rg [(1,hG Zq aa),(3,hB ac),(5,hX Zq ae af),(6,hL Zq af),(7,qh call35 (Z0b.ok ad (⟨#[43]⟩:ByteArray) ah ai)),(10,hB aj),(12,hX Zq al am),(13,hL Zq am),(14,qh call35 (Z0b.ok ak (⟨#[45]⟩:ByteArray) an ao))]<|.o [(0,2),(1,3)])))
 (.st .normal (fun ap=>⟨[(2,.ptr 2 0 0),(4,.own 3),(39,bV ap)],[(2,some (qk0)),q0 3 aa],0⟩) fun ap=>.cd (fun aq=>.r0<|.ret [(2,0)] [] [] ⟨[(2,.ptr 0 0 0),(3,qi 6)],[(0,some (.box 26 (Z27 (⟨0,0,0,0,0,0,[],[]⟩:Zi))))],0⟩)
 (fun aq=>.el fun ar au av=>.bd fun aw ax=>.rg [(0,hGS 2 Value.string gt0_ok),(2,hX Zq au av),(3,hL Zq av),(4,qh call36 (Zr.ok gt0 ar aw ax)),(6,⟨.k 4,.n⟩)]<|.el fun ay az a8=>.bd fun ba bb=>.rg [(1,hX Zq az a8),(2,hL Zq a8),(3,qh call37 (Z0g.ok ay ba bb))]<|.el fun bc be bf=>.bd fun bg bh=>.rg [(1,hX Zq be bf),(2,hL Zq bf),(3,qh call38 (Z22.ok bc bg bh))]<|.el fun bi bj bn=>.bd fun bo bp=>.rg [(1,hX Zq bj bn),(2,hL Zq bn),(3,qh call37 (Z0g.ok bi bo bp))]<|.el fun bq br bu=>.ck fun bv=>.bd fun bw bx=>.rg [(1,hX Zq br bu),(2,hL Zq bu),(3,hN (p3 bv)),(4,hC [] [(0,5)] [] [5] call39 (Z01.ok (bq.extract (Int.toNat (1:Int)) (Int.toNat (bq.size:Int))) bw bx))]<|.el fun bz ca cb=>.ck fun cc=>.bd fun ce cf=>.rg [(1,hX Zq ca cb),(2,hL Zq cb),(3,hN (p3 cc)),(4,hC [] [(0,6)] [] [6] call39 (Z01.ok (bz.extract (Int.toNat (1:Int)) (Int.toNat (bz.size:Int))) ce cf))]<|.join (.sp (fun cj=>.sp (fun cm=>.sp (fun cn=>.sp (fun co=>.sp (fun cp=>.rg [(3,hB cj),(6,hB cm),(9,hB cn),(12,hB co),(15,hB cp)]<|.o [(2,7),(3,8),(4,9),(5,10),(6,11)])
 (fun cp=>.rg [(3,hB cj),(6,hB cm),(9,hB cn),(12,hB co),(15,hB cp)]<|.o [(2,7),(3,8),(4,9),(5,10),(6,11)]))
 (fun co=>.rg [(3,hB cj),(6,hB cm),(9,hB cn),(12,hB co)]<|.o [(2,7),(3,8),(4,9),(5,10),(6,11)]))
 (fun cn=>.rg [(3,hB cj),(6,hB cm),(9,hB cn)]<|.o [(2,7),(3,8),(4,9),(5,10),(6,11)]))
 (fun cm=>.rg [(3,hB cj),(6,hB cm)]<|.o [(2,7),(3,8),(4,9),(5,10),(6,11)]))
 (fun cj=>.rg [(3,hB cj)]<|.o [(2,7),(3,8),(4,9),(5,10),(6,11)]))
 (.st .normal (fun cq=>⟨[(2,.ptr 7 0 0),(4,.own 8),(5,.ptr 9 0 0),(6,qi ba.1),(8,qu bg.1),(10,qi bo.1),(12,.own 10),(14,.own 11),(16,bV cq)],[(7,some (qk0)),q0 8 aa,(9,some (.box 26 [qi aw,qi 0,qi (-524288),qu 0,qu 0,qi 0,.none0,.none0])),q2 10 bw.1,q2 11 ce.1],0⟩) fun cq=>.el fun cr ct cu=>.rg [(1,hX Zq ct cu),(2,hL Zq cu)]<|.join (.cd (fun cw=>.bd fun cx cy=>.rg [(1,hX Zq ct cu),(2,hL Zq cu),(3,qh call37 (Z0g.ok cr cx cy))]<|.r0<|.join (.sp (fun cz=>.sp (fun c8=>.rg [(1,hB cz),(4,hB c8)]<|.o [(7,12),(9,13),(10,14),(11,15)])
 (fun c8=>.rg [(1,hB cz),(4,hB c8)]<|.o [(7,12),(9,13),(10,14),(11,15)]))
 (fun cz=>.rg [(1,hB cz)]<|.o [(7,12),(9,13),(10,14),(11,15)]))
 (.st .normal (fun c9=>⟨[(2,.ptr 12 0 0),(5,.ptr 13 0 0),(6,qi ba.1),(8,qu bg.1),(10,qi bo.1),(12,.own 14),(14,.own 15),(16,bV c9)],[(12,some (qk0)),(13,some (.box 26 [qi aw,qi 0,qi cx.1,qu 0,qu 0,qi 0,.none0,.none0])),q2 14 bw.1,q2 15 ce.1],0⟩) fun c9=>.o [(12,16),(13,17),(14,18),(15,19)]))
 (fun cw=>.o [(7,16),(9,17),(10,18),(11,19)]))
 (.pr fun da=>.st .normal (fun db=>⟨[(2,.ptr 16 0 0),(5,.ptr 17 0 0),(6,qi ba.1),(8,qu bg.1),(10,qi bo.1),(12,.own 18),(14,.own 19),(16,bV db)],[(16,some (qk0)),(17,some (.box 26 [qi aw,qi 0,qi da,qu 0,qu 0,qi 0,.none0,.none0])),q2 18 bw.1,q2 19 ce.1],0⟩) fun db=>.r0<|.cd (fun dc=>.r0<|.ret [(16,0)] [] [] ⟨[(2,.ptr 0 0 0),(3,qi 6)],[(0,some (.box 26 (Z27 (⟨0,0,0,0,0,0,[],[]⟩:Zi))))],0⟩)
 (fun dc=>.r0<|.cv [(16,16),(17,17)] [18,19] [] ⟨[(2,.ptr 16 0 0),(5,.ptr 17 0 0),(12,.im (.row (bw.1.map Z4))),(14,.im (.row (ce.1.map Z4)))],[(16,some (qk0)),(17,some (.box 26 [qi aw,qi ba.1,qi da,qu bg.1,qu 0,qi bo.1,.none0,.none0]))],0⟩<|.bd fun dd de=>.rg [(3,qh call40 (Z2z.ok (⟨aw,ba.1,da,bg.1,0,bo.1,[],[]⟩:Zi) bw.1 ce.1 dd de)),(7,⟨.k 20,.n⟩)]<|.bl<|.r0<|.cd (fun df=>.r0<|.ret [(16,0)] [] [] ⟨[(2,.ptr 0 0 0),(3,qi dd.2)],[(0,some (.box 26 (Z27 (⟨0,0,0,0,0,0,[],[]⟩:Zi))))],0⟩)
 (fun df=>.join (.bd fun dg dh=>.sp (fun di=>.rg [(3,qh call41 (Zc.ok ((dd.1).f6) bw.1 dg dh)),(5,hB di)]<|.o [(16,21),(20,22)])
 (fun di=>.bd fun dj dl=>.rg [(3,qh call41 (Zc.ok ((dd.1).f6) bw.1 dg dh)),(5,hB di),(9,qh call41 (Zc.ok ((dd.1).f7) ce.1 dj dl))]<|.o [(16,21),(20,22)]))
 (.st .normal (fun dm=>⟨[(2,.ptr 21 0 0),(19,.ptr 22 0 0),(145,bV dm)],[(21,some (qk0)),(22,some (.box 26 (Z27 (dd.1))))],0⟩) fun dm=>.cd (fun dn=>.r0<|.ret [(21,0)] [] [] ⟨[(2,.ptr 0 0 0),(3,qi 32)],[(0,some (.box 26 (Z27 (⟨0,0,0,0,0,0,[],[]⟩:Zi))))],0⟩)
 (fun dn=>.r0<|.ret [(21,0)] [] [] ⟨[(2,.ptr 0 0 0),(3,qi 0)],[(0,some (.box 26 (Z27 (dd.1))))],0⟩)))))))))
def Z0w.f (a0:ByteArray) (a1:ByteArray):Option (ByteArray×Bool):=(Z02.f a0 a1)>>=fun aa=>if(!aa)=true then(some (a0,false)) else((chk (0≤(a1.size:Int)∧(a1.size:Int)≤(a0.size:Int)∧(a0.size:Int)≤(a0.size:Int)))>>=fun _=>some (a0.extract (Int.toNat (a1.size:Int)) (Int.toNat (a0.size:Int)),true))
theorem Z0w.ok (a0:ByteArray) (a1:ByteArray):FN 90 [sV a0,sV a1] [] 0 (Z0w.f a0 a1) (fun r=>.tup [sV r.1,bV r.2]) (fun r=>[]):=FT [] func90 (.r0<|.bd fun aa ab=>.rg [(2,qh call62 (Z02.ok a0 a1 aa ab))]<|.cd (fun ac=>.r0<|.ret [] [] [] ⟨[(4,sV a0),(5,bV false)],[],0⟩)
 (fun ac=>.ck fun ad=>.rg [(3,hN (p3 ad))]<|.ret [] [] [] ⟨[(4,sV (a0.extract (Int.toNat (a1.size:Int)) (Int.toNat (a0.size:Int)))),(5,bV true)],[],0⟩))
def Z11.f (a0:ByteArray) (a1:ByteArray):Option (ByteArray×Bool):=(Z0w.f a0 a1)>>=fun aa=>some (aa.1,aa.2)
theorem Z11.ok (a0:ByteArray) (a1:ByteArray):FN 67 [sV a0,sV a1] [] 0 (Z11.f a0 a1) (fun r=>.tup [sV r.1,bV r.2]) (fun r=>[]):=FT [] func67 (.r0<|.bd fun aa ab=>.rg [(2,qh call90 (Z0w.ok a0 a1 aa ab))]<|.ret [] [] [] ⟨[(4,sV aa.1),(5,bV aa.2)],[],0⟩)
def Z0v.f (a0:ByteArray):Option Int:=if((⟨#[61]⟩:ByteArray).toList==a0.toList)=true then(some 0) else((chk (0≤(0:Int)∧(0:Int)<((⟨#[61]⟩:ByteArray).size:Int)))>>=fun _=>(Zo.f a0 (bt (⟨#[61]⟩:ByteArray) 0))>>=fun aa=>some (Lib.indexByte a0.data.toList (Int.toNat (bt (⟨#[61]⟩:ByteArray) 0)).toUInt8))
theorem Z0v.ok (a0:ByteArray):FN 105 [sV a0,sV (⟨#[61]⟩:ByteArray)] [] 0 (Z0v.f a0) (fun r=>qi r) (fun r=>[]):=FT [] func105 (.r0<|.r0<|.bl<|.r0<|.cd (fun aa=>.r0<|.ret [] [] [] ⟨[(4,qi 0)],[],0⟩)
 (fun aa=>.r0<|.cl (rfl:true=true)<|.ck fun ab=>.bd fun ac ad=>.rg [(2,hN (p2 ab)),(3,qh call118 (Zo.ok a0 (bt (⟨#[61]⟩:ByteArray) 0) ac ad))]<|.ret [] [] [] ⟨[(4,qi (Lib.indexByte a0.data.toList (Int.toNat (bt (⟨#[61]⟩:ByteArray) 0)).toUInt8))],[],0⟩))
def Z15.f (a0:ByteArray):Option (ByteArray×ByteArray×Bool):=(Z0v.f a0)>>=fun aa=>if(decide (aa≥0))=true then((chk (0≤(0:Int)∧(0:Int)≤aa∧aa≤(a0.size:Int)))>>=fun _=>(chk (0≤(i64.wrap (aa+1))∧(i64.wrap (aa+1))≤(a0.size:Int)∧(a0.size:Int)≤(a0.size:Int)))>>=fun _=>some (a0.extract (Int.toNat (0:Int)) (Int.toNat (aa)),a0.extract (Int.toNat ((i64.wrap (aa+1)))) (Int.toNat (a0.size:Int)),true)) else(some (a0,(⟨#[]⟩:ByteArray),false))
theorem Z15.ok (a0:ByteArray):FN 85 [sV a0,sV (⟨#[61]⟩:ByteArray)] [] 0 (Z15.f a0) (fun r=>.tup [sV r.1,sV r.2.1,bV r.2.2]) (fun r=>[]):=FT [] func85 (.r0<|.bd fun aa ab=>.rg [(2,qh call105 (Z0v.ok a0 aa ab))]<|.r0<|.cd (fun ac=>.ck fun ad=>.ck fun ae=>.rg [(2,hN (p3 ad)),(8,hN (p3 ae))]<|.ret [] [] [] ⟨[(4,sV (a0.extract (Int.toNat (0:Int)) (Int.toNat (aa)))),(5,sV (a0.extract (Int.toNat ((i64.wrap (aa+1)))) (Int.toNat (a0.size:Int)))),(6,bV true)],[],0⟩)
 (fun ac=>.r0<|.ret [] [] [] ⟨[(4,sV a0),(5,sV (⟨#[]⟩:ByteArray)),(6,bV false)],[],0⟩))
def Z1j.f (a0:ByteArray):Option (ByteArray×ByteArray×Bool):=(Z15.f a0)>>=fun aa=>some (aa.1,aa.2.1,aa.2.2)
theorem Z1j.ok (a0:ByteArray):FN 65 [sV a0,sV (⟨#[61]⟩:ByteArray)] [] 0 (Z1j.f a0) (fun r=>.tup [sV r.1,sV r.2.1,bV r.2.2]) (fun r=>[]):=FT [] func65 (.r0<|.bd fun aa ab=>.rg [(2,qh call85 (Z15.ok a0 aa ab))]<|.ret [] [] [] ⟨[(4,sV aa.1),(5,sV aa.2.1),(6,bV aa.2.2)],[],0⟩)
def Zw.l0 (a0:ByteArray) (aa:List Int) (ab:Int):Option ((ByteArray×ByteArray×Bool) ⊕ Unit):=if(decide (ab<(a0.size:Int)))=true then((((chk (0≤ab∧ab<(a0.size:Int)))>>=fun _=>if((bt a0 ab)==34)=true then((chk (0≤(i64.wrap (ab+1))∧(i64.wrap (ab+1))≤(a0.size:Int)∧(a0.size:Int)≤(a0.size:Int)))>>=fun _=>some (.inl (Z3o aa,a0.extract (Int.toNat ((i64.wrap (ab+1)))) (Int.toNat (a0.size:Int)),true))) else(if((bt a0 ab)==10)=true then(some (.inl ((⟨#[]⟩:ByteArray),(⟨#[]⟩:ByteArray),false))) else(if((bt a0 ab) != 92)=true then((chk ((aa.length+[bt a0 ab].length)*1≤140737488355328))>>=fun _=>some (.inr (aa++[bt a0 ab],ab))) else(if((i64.wrap (ab+1))==(a0.size:Int))=true then(some (.inl ((⟨#[]⟩:ByteArray),(⟨#[]⟩:ByteArray),false))) else((chk (0≤(i64.wrap (ab+1))∧(i64.wrap (ab+1))<(a0.size:Int)))>>=fun _=>((if((bt a0 (i64.wrap (ab+1)))==110)=true then((chk ((aa.length+[10].length)*1≤140737488355328))>>=fun _=>some (.inr (aa++[10]))) else(((if((bt a0 (i64.wrap (ab+1)))==34)=true then(some true) else(some ((bt a0 (i64.wrap (ab+1)))==92))):Option Bool)>>=fun ac=>if ac=true then((chk ((aa.length+[bt a0 (i64.wrap (ab+1))].length)*1≤140737488355328))>>=fun _=>some (.inr (aa++[bt a0 (i64.wrap (ab+1))]))) else(some (.inl ((⟨#[]⟩:ByteArray),(⟨#[]⟩:ByteArray),false))))):Option ((ByteArray×ByteArray×Bool) ⊕ (List Int)))>>=fun oo=>match oo with | .inl rr=>(some (.inl rr)) | .inr ad=>(some (.inr (ad,i64.wrap (ab+1))))))))):Option ((ByteArray×ByteArray×Bool) ⊕ ((List Int)×Int)))>>=fun oo=>match oo with | .inl rr=>(some (.inl rr)) | .inr (ae,af)=>(Zw.l0 a0 ae (i64.wrap (af+1)))) else(some (.inr ()))
partial_fixpoint
def Zw.f (a0:ByteArray):Option (ByteArray×ByteArray×Bool):=((if(a0.toList==(⟨#[]⟩:ByteArray).toList)=true then(some true) else((chk (0≤(0:Int)∧(0:Int)<(a0.size:Int)))>>=fun _=>some ((bt a0 0) != 34))):Option Bool)>>=fun aa=>if aa=true then(some ((⟨#[]⟩:ByteArray),(⟨#[]⟩:ByteArray),false)) else((Zw.l0 a0 [] 1)>>=fun oo=>match oo with | .inl rr=>(some rr) | .inr _=>(some ((⟨#[]⟩:ByteArray),(⟨#[]⟩:ByteArray),false)))
theorem Zw.ok (a0:ByteArray):FN 68 [sV a0] [] 0 (Zw.f a0) (fun r=>.tup [sV r.1,sV r.2.1,bV r.2.2]) (fun r=>[]):=FT [] func68 (.r0<|.join (.sp (fun aa=>.rg [(2,hB aa)]<|.o [])
 (fun aa=>.ck fun ab=>.rg [(2,hB aa),(4,hN (p2 ab))]<|.o []))
 (.st .normal (fun ac=>⟨[(0,sV a0),(14,bV ac)],[],0⟩) fun ac=>.cd (fun ad=>.r0<|.ret [] [] [] ⟨[(2,sV (⟨#[]⟩:ByteArray)),(3,sV (⟨#[]⟩:ByteArray)),(4,bV false)],[],0⟩)
 (fun ad=>.r0<|.r0<|.bl<|.loop (.c2 (Zw.l0.partial_correctness a0)) ([],1) [] [] [8] (fun _=>.pr fun ae=>.one (fun af=>⟨[(0,sV a0),(5,.own 8),(6,qi af)],[q1 8 ae],0⟩) fun af=>.r0<|.cd (fun ah=>.join (.bl<|.ck fun ai=>.rg [(2,hN (p2 ai))]<|.bl<|.r0<|.cd (fun aj=>.ck fun ak=>.rg [(1,hT (xStr ae) ae),(5,hN (p3 ak))]<|.ret [] [] [] ⟨[(2,sV (Z3o ae)),(3,sV (a0.extract (Int.toNat ((i64.wrap (af+1)))) (Int.toNat (a0.size:Int)))),(4,bV true)],[],0⟩)
 (fun aj=>.r0<|.cd (fun al=>.r0<|.ret [] [] [] ⟨[(2,sV (⟨#[]⟩:ByteArray)),(3,sV (⟨#[]⟩:ByteArray)),(4,bV false)],[],0⟩)
 (fun al=>.r0<|.cd (fun am=>.ck fun an=>.rg [(2,hQ 9 qb ([bt a0 af]:List Int)),(3,hP 10 qb 1 an)]<|.o [(10,17)])
 (fun am=>.r0<|.bl<|.r0<|.cd (fun ao=>.r0<|.ret [] [] [] ⟨[(2,sV (⟨#[]⟩:ByteArray)),(3,sV (⟨#[]⟩:ByteArray)),(4,bV false)],[],0⟩)
 (fun ao=>.ck fun ap=>.rg [(2,hN (p2 ap))]<|.join (.cd (fun aq=>.ck fun ar=>.rg [(1,hQ 11 qb ([10]:List Int)),(2,⟨.app 12 ((ae++[10]).map qb),.c (p:=(ae++[10]).map qb=(ae.map qb)++([10].map qb)) (by simp) (.c (p:=∀ c∈([10].map qb),c.length=1) (Z5c _ _ _ (fun _=>rfl)) (.c (p:=∀ c∈([10].map qb),Z25 (c.map .im)=true) (Z5v _ _ (fun _=>rfl)) (.c (p:=((ae.map qb).length+([10].map qb).length)*1≤140737488355328) (by simpa using ar) .n)))⟩)]<|.o [(12,16)])
 (fun aq=>.join (.sp (fun au=>.rg [(2,hN (p2 ap)),(4,hB au)]<|.o [(8,13)])
 (fun au=>.rg [(2,hN (p2 ap)),(4,hB au),(7,hN (p2 ap))]<|.o [(8,13)]))
 (.st .normal (fun av=>⟨[(0,sV a0),(5,.own 13),(6,qi (i64.wrap (af+1))),(58,bV av)],[q1 13 ae],0⟩) fun av=>.cd (fun aw=>.ck fun ax=>.rg [(3,hN (p2 ap)),(4,hQ 14 qb ([bt a0 (i64.wrap (af+1))]:List Int)),(5,hP 15 qb 1 ax)]<|.o [(15,16)])
 (fun aw=>.r0<|.ret [] [] [] ⟨[(2,sV (⟨#[]⟩:ByteArray)),(3,sV (⟨#[]⟩:ByteArray)),(4,bV false)],[],0⟩))))
 (.sm (.rt (fun rr=>.tup [sV rr.1,sV rr.2.1,bV rr.2.2]) (fun rr=>[]))
 (.st .normal (fun ay=>⟨[(0,sV a0),(5,.own 16),(6,qi (i64.wrap (af+1)))],[q1 16 ay],0⟩) fun ay=>.o [(16,17)])))))))
 (.sm (.rt (fun rr=>.tup [sV rr.1,sV rr.2.1,bV rr.2.2]) (fun rr=>[]))
 (.pr fun az=>.st .normal (fun a8=>⟨[(0,sV a0),(5,.own 17),(6,qi a8)],[q1 17 az],0⟩) fun a8=>.r0<|.bk [(17,8)] rfl)))
 (fun ah=>.o []))
 (.sm (.rt (fun rr=>.tup [sV rr.1,sV rr.2.1,bV rr.2.2]) (fun rr=>[]))
 (.st (.exit 0) (fun _=>⟨[],[],0⟩) fun _=>.r0<|.ret [] [] [] ⟨[(2,sV (⟨#[]⟩:ByteArray)),(3,sV (⟨#[]⟩:ByteArray)),(4,bV false)],[],0⟩)))))
def Z0e.l0 (a0:ByteArray) (aa:Int):Option (Bool ⊕ Unit):=if(decide (aa<(a0.size:Int)))=true then((chk (0≤aa∧aa<(a0.size:Int)))>>=fun _=>((if(decide ((bt a0 aa)≥97))=true then(if(decide ((bt a0 aa)≤122))=true then(some true) else(if(decide ((bt a0 aa)≥65))=true then(if(decide ((bt a0 aa)≤90))=true then(some true) else(some ((bt a0 aa)==95))) else(some ((bt a0 aa)==95)))) else(if(decide ((bt a0 aa)≥65))=true then(if(decide ((bt a0 aa)≤90))=true then(some true) else(some ((bt a0 aa)==95))) else(some ((bt a0 aa)==95)))):Option Bool)>>=fun ab=>((if(!ab)=true then(if(aa==0)=true then(some true) else(if(decide ((bt a0 aa)<48))=true then(some true) else(some (decide ((bt a0 aa)>57))))) else(some false)):Option Bool)>>=fun ac=>if ac=true then(some (.inl false)) else(Z0e.l0 a0 (i64.wrap (aa+1)))) else(some (.inr ()))
partial_fixpoint
def Z0e.f (a0:ByteArray):Option Bool:=((if(a0.toList==(⟨#[]⟩:ByteArray).toList)=true then(some true) else(some (decide ((a0.size:Int)>64)))):Option Bool)>>=fun aa=>if aa=true then(some false) else((Z0e.l0 a0 0)>>=fun oo=>match oo with | .inl rr=>(some rr) | .inr _=>(some true))
theorem Z0e.ok (a0:ByteArray):FN 49 [sV a0] [] 0 (Z0e.f a0) (fun r=>bV r) (fun r=>[]):=FT [] func49 (.r0<|.join (.sp (fun aa=>.rg [(2,hB aa)]<|.o [])
 (fun aa=>.rg [(2,hB aa)]<|.o []))
 (.st .normal (fun ab=>⟨[(0,sV a0),(12,bV ab)],[],0⟩) fun ab=>.cd (fun ac=>.r0<|.ret [] [] [] ⟨[(2,bV false)],[],0⟩)
 (fun ac=>.r0<|.bl<|.loop (.one (Z0e.l0.partial_correctness a0)) 0 [] [] [] (fun _=>.one (fun ad=>⟨[(0,sV a0),(14,qi (a0.size:Int)),(15,qi ad)],[],0⟩) fun ad=>.r0<|.cd (fun ae=>.bl<|.r0<|.ck fun af=>.rg [(2,hN (p2 af))]<|.join (.sp (fun ah=>.sp (fun ai=>.rg [(2,hB ah),(6,hB ai)]<|.o [])
 (fun ai=>.sp (fun aj=>.sp (fun ak=>.rg [(2,hB ah),(6,hB ai),(9,hB aj),(14,hB ak)]<|.o [])
 (fun ak=>.rg [(2,hB ah),(6,hB ai),(9,hB aj),(14,hB ak)]<|.o []))
 (fun aj=>.rg [(2,hB ah),(6,hB ai),(9,hB aj)]<|.o [])))
 (fun ah=>.sp (fun al=>.sp (fun am=>.rg [(2,hB ah),(9,hB al),(14,hB am)]<|.o [])
 (fun am=>.rg [(2,hB ah),(9,hB al),(14,hB am)]<|.o []))
 (fun al=>.rg [(2,hB ah),(9,hB al)]<|.o [])))
 (.st .normal (fun an=>⟨[(0,sV a0),(3,qi ad),(4,iV .u8 (bt a0 ad)),(5,bV an),(14,qi (a0.size:Int)),(15,qi ad)],[],0⟩) fun an=>.join (.sp (fun ao=>.sp (fun ap=>.rg [(2,hB ao),(5,hB ap)]<|.o [])
 (fun ap=>.sp (fun aq=>.rg [(2,hB ao),(5,hB ap),(9,hB aq)]<|.o [])
 (fun aq=>.rg [(2,hB ao),(5,hB ap),(9,hB aq)]<|.o [])))
 (fun ao=>.rg [(2,hB ao)]<|.o []))
 (.st .normal (fun ar=>⟨[(0,sV a0),(14,qi (a0.size:Int)),(15,qi ad),(52,bV ar)],[],0⟩) fun ar=>.cd (fun au=>.r0<|.ret [] [] [] ⟨[(2,bV false)],[],0⟩)
 (fun au=>.r0<|.bk [] rfl))))
 (fun ae=>.o []))
 (.sm (.rt (fun rr=>bV rr) (fun rr=>[]))
 (.st (.exit 0) (fun _=>⟨[],[],0⟩) fun _=>.r0<|.ret [] [] [] ⟨[(2,bV true)],[],0⟩)))))
def Z1t.f (a0:ByteArray):Option Bool:=((if(!(a0.toList==(⟨#[]⟩:ByteArray).toList))=true then(some (decide ((a0.size:Int)≤64))) else(some false)):Option Bool)>>=fun aa=>some aa
theorem Z1t.ok (a0:ByteArray):FN 50 [sV a0] [] 0 (Z1t.f a0) (fun r=>bV r) (fun r=>[]):=FT [] func50 (.r0<|.join (.sp (fun aa=>.rg [(2,hB aa)]<|.o [])
 (fun aa=>.rg [(2,hB aa)]<|.o []))
 (.st .normal (fun ab=>⟨[(2,bV ab)],[],0⟩) fun ab=>.ret [] [] [] ⟨[(2,bV ab)],[],0⟩))
def Z0d.l0 (a0:List Zp) (aa:Int):Option (Int ⊕ Unit):=if(decide (aa<(a0.length:Int)))=true then((at? a0 aa)>>=fun ab=>(((Z0e.f ab.f0)>>=fun ac=>if(!ac)=true then(some true) else((Z1t.f ab.f1)>>=fun ad=>if(!ad)=true then(some true) else(if(decide (aa>0))=true then((at? a0 (i64.wrap (aa-1)))>>=fun ae=>some (!Op.bytesLess ae.f0.toList ab.f0.toList)) else(some false)))):Option Bool)>>=fun af=>if af=true then(some (.inl 26)) else(Z0d.l0 a0 (i64.wrap (aa+1)))) else(some (.inr ()))
partial_fixpoint
def Z0d.f (a0:List Zp):Option Int:=if(decide ((a0.length:Int)>16))=true then(some 9) else((Z0d.l0 a0 0)>>=fun oo=>match oo with | .inl rr=>(some rr) | .inr _=>(some 0))
theorem Z0d.ok (a0:List Zp):FN 26 [.im (.row (a0.map Z17))] [] 0 (Z0d.f a0) (fun r=>qi r) (fun r=>[]):=FT [] func26 (.r0<|.rg [(1,hG Z17 a0)]<|.cd (fun aa=>.r0<|.ret [] [] [] ⟨[(2,qi 9)],[],0⟩)
 (fun aa=>.rg [(1,hG Z17 a0)]<|.bl<|.loop (.one (Z0d.l0.partial_correctness a0)) 0 [] [] [] (fun _=>.one (fun ab=>⟨[(0,.im (.row (a0.map Z17))),(8,.im (.row (a0.map Z17))),(9,qi (a0.length:Int)),(10,qi ab)],[],0⟩) fun ab=>.r0<|.cd (fun ac=>.bl<|.el fun ad ae af=>.rg [(1,hA Z17 ae af),(3,⟨.k 1,.n⟩)]<|.join (.bd fun ah ai=>.sp (fun aj=>.rg [(2,qh call49 (Z0e.ok ad.f0 ah ai)),(4,hB aj)]<|.o [])
 (fun aj=>.bd fun ak al=>.sp (fun am=>.rg [(2,qh call49 (Z0e.ok ad.f0 ah ai)),(4,hB aj),(7,qh call50 (Z1t.ok ad.f1 ak al)),(10,hB am)]<|.o [])
 (fun am=>.sp (fun an=>.el fun ao ap aq=>.rg [(2,qh call49 (Z0e.ok ad.f0 ah ai)),(4,hB aj),(7,qh call50 (Z1t.ok ad.f1 ak al)),(10,hB am),(13,hB an),(17,hA Z17 ap aq)]<|.o [])
 (fun an=>.rg [(2,qh call49 (Z0e.ok ad.f0 ah ai)),(4,hB aj),(7,qh call50 (Z1t.ok ad.f1 ak al)),(10,hB am),(13,hB an)]<|.o []))))
 (.st .normal (fun ar=>⟨[(0,.im (.row (a0.map Z17))),(8,.im (.row (a0.map Z17))),(9,qi (a0.length:Int)),(10,qi ab),(39,bV ar)],[],0⟩) fun ar=>.cd (fun au=>.r0<|.ret [] [] [] ⟨[(2,qi 26)],[],0⟩)
 (fun au=>.r0<|.bk [] rfl)))
 (fun ac=>.o []))
 (.sm (.rt (fun rr=>qi rr) (fun rr=>[]))
 (.st (.exit 0) (fun _=>⟨[],[],0⟩) fun _=>.r0<|.ret [] [] [] ⟨[(2,qi 0)],[],0⟩))))
def Z06.l0 (aa:ByteArray) (ab:List Zp):Option (((List Zp)×Int) ⊕ (List Zp)):=(Z1j.f aa)>>=fun ac=>if(!ac.2.2)=true then(some (.inl ([],6))) else((Zw.f ac.2.1)>>=fun ad=>((if(!ad.2.2)=true then(some true) else(some (ad.2.1.toList==(⟨#[]⟩:ByteArray).toList))):Option Bool)>>=fun ae=>if ae=true then(some (.inl ([],6))) else((chk ((ab.length+[(⟨ac.1,ad.1⟩:Zp)].length)*32≤140737488355328))>>=fun _=>if(ad.2.1.toList==(⟨#[125]⟩:ByteArray).toList)=true then(some (.inr (ab++[(⟨ac.1,ad.1⟩:Zp)]))) else((chk (0≤(0:Int)∧(0:Int)<(ad.2.1.size:Int)))>>=fun _=>if((bt ad.2.1 0) != 44)=true then(some (.inl ([],6))) else((chk (0≤(1:Int)∧(1:Int)≤(ad.2.1.size:Int)∧(ad.2.1.size:Int)≤(ad.2.1.size:Int)))>>=fun _=>Z06.l0  (ad.2.1.extract (Int.toNat (1:Int)) (Int.toNat (ad.2.1.size:Int))) (ab++[(⟨ac.1,ad.1⟩:Zp)])))))
partial_fixpoint
def Z06.f (a0:ByteArray):Option ((List Zp)×Int):=(Z11.f a0 (⟨#[123]⟩:ByteArray))>>=fun aa=>if(!aa.2)=true then(some ([],6)) else(if(aa.1.toList==(⟨#[125]⟩:ByteArray).toList)=true then(some ([],0)) else((Z06.l0  aa.1 [])>>=fun oo=>match oo with | .inl rr=>(some rr) | .inr ab=>((Z0d.f ab)>>=fun ac=>if(ac != 0)=true then(some ([],ac)) else(some (ab,0)))))
abbrev q3:=@RW _ 2 52 Z17
theorem Z06.ok (a0:ByteArray):FN 46 [sV a0] [] 0 (Z06.f a0) (fun r=>.tup [.own 0,qi r.2]) (fun r=>[q3 0 r.1]):=FT [0] func46 (.r0<|.bd fun aa ab=>.rg [(1,qh call67 (Z11.ok a0 (⟨#[123]⟩:ByteArray) aa ab))]<|.r0<|.cd (fun ac=>.r0<|.ret [] [] [0] ⟨[(2,.own 0),(3,qi 6)],[q3 0 []],0⟩)
 (fun ac=>.r0<|.cd (fun ad=>.r0<|.ret [] [] [0] ⟨[(2,.own 0),(3,qi 0)],[q3 0 []],0⟩)
 (fun ad=>.r0<|.bl<|.loop (.c2 (Z06.l0.partial_correctness )) (aa.1,[]) [] [] [2] (fun _=>.pr fun ae=>.one (fun af=>⟨[(4,sV ae),(6,.own 2)],[q3 2 af],0⟩) fun af=>.bl<|.bd fun ah ai=>.rg [(1,qh call65 (Z1j.ok ae ah ai))]<|.r0<|.cd (fun aj=>.r0<|.ret [] [] [0] ⟨[(2,.own 0),(3,qi 6)],[q3 0 []],0⟩)
 (fun aj=>.bd fun ak al=>.rg [(1,qh call68 (Zw.ok ah.2.1 ak al))]<|.join (.sp (fun am=>.rg [(2,hB am)]<|.o [(2,3)])
 (fun am=>.rg [(2,hB am)]<|.o [(2,3)]))
 (.st .normal (fun an=>⟨[(6,.own 3),(7,sV ah.1),(10,sV ak.1),(11,sV ak.2.1),(41,bV an)],[q3 3 af],0⟩) fun an=>.cd (fun ao=>.r0<|.ret [] [] [0] ⟨[(2,.own 0),(3,qi 6)],[q3 0 []],0⟩)
 (fun ao=>.ck fun ap=>.rg [(4,hQ 4 Z17 ([(⟨ah.1,ak.1⟩:Zp)]:List Zp)),(5,hP 5 Z17 2 ap)]<|.r0<|.cd (fun aq=>.o [(5,6)])
 (fun aq=>.ck fun ar=>.rg [(1,hN (p2 ar))]<|.cd (fun au=>.r0<|.ret [] [] [0] ⟨[(2,.own 0),(3,qi 6)],[q3 0 []],0⟩)
 (fun au=>.ck fun av=>.rg [(1,hN (p3 av))]<|.bk [(5,2)] rfl))))))
 (.sm (.rt (fun rr=>.tup [.own 0,qi rr.2]) (fun rr=>[q3 0 rr.1]))
 (.st (.exit 0) (fun aw=>⟨[(6,.own 6)],[q3 6 aw],0⟩) fun aw=>.bd fun ax ay=>.rg [(1,hC [] [] [6] [] call26 (Z0d.ok aw ax ay))]<|.r0<|.cd (fun az=>.r0<|.ret [] [] [0] ⟨[(2,.own 0),(3,qi ax)],[q3 0 []],0⟩)
 (fun az=>.r0<|.ret [(6,0)] [] [] ⟨[(2,.own 0),(3,qi 0)],[q3 0 aw],0⟩))))))
def Z2f.f (a0:ByteArray):Option (Z6×Int):=(Z1c.f a0 (⟨#[32]⟩:ByteArray) 9)>>=fun aa=>if((aa.length:Int) != 9)=true then(some ((⟨[],0,(⟨0,0,0,0,0,0,[],[]⟩:Zi)⟩:Z6),6)) else((at? aa 0)>>=fun ab=>(Z0g.f ab)>>=fun ac=>if(!ac.2)=true then(some ((⟨[],0,(⟨0,0,0,0,0,0,[],[]⟩:Zi)⟩:Z6),6)) else(((if(decide (ac.1<0))=true then(some true) else(some (decide (ac.1>1099511627776)))):Option Bool)>>=fun ad=>if ad=true then(some ((⟨[],0,(⟨0,0,0,0,0,0,[],[]⟩:Zi)⟩:Z6),4)) else((chk (0≤(1:Int)∧(1:Int)≤8∧(8:Int)≤(aa.length:Int)))>>=fun _=>(Za.f ((aa.drop (Int.toNat (1:Int))).take (Int.toNat (8:Int)-Int.toNat (1:Int))) (⟨#[32]⟩:ByteArray))>>=fun ae=>(Z2e.f ae)>>=fun af=>if(af.2 != 0)=true then(some ((⟨[],0,(⟨0,0,0,0,0,0,[],[]⟩:Zi)⟩:Z6),af.2)) else((at? aa 8)>>=fun ah=>(Z06.f ah)>>=fun ai=>if(ai.2 != 0)=true then(some ((⟨[],0,(⟨0,0,0,0,0,0,[],[]⟩:Zi)⟩:Z6),ai.2)) else(some ((⟨ai.1,ac.1,(af.1)⟩:Z6),0))))))
abbrev qk1:MObj:=.box 36 [.none0,qi 0,qi 0,qi 0,qi 0,qu 0,qu 0,qi 0,.none0,.none0]
theorem Z2f.ok (a0:ByteArray):FN 16 [sV a0] [] 0 (Z2f.f a0) (fun r=>.tup [.agg [.own 0,qi ((r.1).f1),qi (((r.1).f2).f0),qi (((r.1).f2).f1),qi (((r.1).f2).f2),qu (((r.1).f2).f3),qu (((r.1).f2).f4),qi (((r.1).f2).f5),.im (.row ((((r.1).f2).f6).map Z4)),.im (.row ((((r.1).f2).f7).map Z4))],qi r.2]) (fun r=>[q3 0 ((r.1).f0)]):=FT [0] func16 (.rg [(0,⟨.k 0,.n⟩)]<|.bd fun aa ab=>.rg [(1,hC [] [(0,1)] [] [1] call45 (Z1c.ok a0 (⟨#[32]⟩:ByteArray) 9 aa ab))]<|.rg [(1,hG Zq aa)]<|.cd (fun ac=>.r0<|.ret [(0,1)] [] [0] ⟨[(2,.ptr 1 0 0),(3,qi 6)],[q3 0 (((⟨[],0,(⟨0,0,0,0,0,0,[],[]⟩:Zi)⟩:Z6)).f0),(1,some (.box 36 [.own 0,qi (((⟨[],0,(⟨0,0,0,0,0,0,[],[]⟩:Zi)⟩:Z6)).f1),qi ((((⟨[],0,(⟨0,0,0,0,0,0,[],[]⟩:Zi)⟩:Z6)).f2).f0),qi ((((⟨[],0,(⟨0,0,0,0,0,0,[],[]⟩:Zi)⟩:Z6)).f2).f1),qi ((((⟨[],0,(⟨0,0,0,0,0,0,[],[]⟩:Zi)⟩:Z6)).f2).f2),qu ((((⟨[],0,(⟨0,0,0,0,0,0,[],[]⟩:Zi)⟩:Z6)).f2).f3),qu ((((⟨[],0,(⟨0,0,0,0,0,0,[],[]⟩:Zi)⟩:Z6)).f2).f4),qi ((((⟨[],0,(⟨0,0,0,0,0,0,[],[]⟩:Zi)⟩:Z6)).f2).f5),.im (.row (((((⟨[],0,(⟨0,0,0,0,0,0,[],[]⟩:Zi)⟩:Z6)).f2).f6).map Z4)),.im (.row (((((⟨[],0,(⟨0,0,0,0,0,0,[],[]⟩:Zi)⟩:Z6)).f2).f7).map Z4))]))],0⟩)
 (fun ac=>.el fun ad ae af=>.bd fun ah ai=>.rg [(1,hX Zq ae af),(2,hL Zq af),(3,qh call37 (Z0g.ok ad ah ai))]<|.r0<|.cd (fun aj=>.r0<|.ret [(0,1)] [] [0] ⟨[(2,.ptr 1 0 0),(3,qi 6)],[q3 0 (((⟨[],0,(⟨0,0,0,0,0,0,[],[]⟩:Zi)⟩:Z6)).f0),(1,some (.box 36 [.own 0,qi (((⟨[],0,(⟨0,0,0,0,0,0,[],[]⟩:Zi)⟩:Z6)).f1),qi ((((⟨[],0,(⟨0,0,0,0,0,0,[],[]⟩:Zi)⟩:Z6)).f2).f0),qi ((((⟨[],0,(⟨0,0,0,0,0,0,[],[]⟩:Zi)⟩:Z6)).f2).f1),qi ((((⟨[],0,(⟨0,0,0,0,0,0,[],[]⟩:Zi)⟩:Z6)).f2).f2),qu ((((⟨[],0,(⟨0,0,0,0,0,0,[],[]⟩:Zi)⟩:Z6)).f2).f3),qu ((((⟨[],0,(⟨0,0,0,0,0,0,[],[]⟩:Zi)⟩:Z6)).f2).f4),qi ((((⟨[],0,(⟨0,0,0,0,0,0,[],[]⟩:Zi)⟩:Z6)).f2).f5),.im (.row (((((⟨[],0,(⟨0,0,0,0,0,0,[],[]⟩:Zi)⟩:Z6)).f2).f6).map Z4)),.im (.row (((((⟨[],0,(⟨0,0,0,0,0,0,[],[]⟩:Zi)⟩:Z6)).f2).f7).map Z4))]))],0⟩)
 (fun aj=>.join (.sp (fun ak=>.rg [(2,hB ak)]<|.o [(0,2),(1,3)])
 (fun ak=>.rg [(2,hB ak)]<|.o [(0,2),(1,3)]))
 (.st .normal (fun al=>⟨[(2,.ptr 2 0 0),(4,.own 3),(5,qi ah.1),(31,bV al)],[(2,some (qk1)),q0 3 aa],0⟩) fun al=>.cd (fun am=>.r0<|.ret [(2,1)] [] [0] ⟨[(2,.ptr 1 0 0),(3,qi 4)],[q3 0 (((⟨[],0,(⟨0,0,0,0,0,0,[],[]⟩:Zi)⟩:Z6)).f0),(1,some (.box 36 [.own 0,qi (((⟨[],0,(⟨0,0,0,0,0,0,[],[]⟩:Zi)⟩:Z6)).f1),qi ((((⟨[],0,(⟨0,0,0,0,0,0,[],[]⟩:Zi)⟩:Z6)).f2).f0),qi ((((⟨[],0,(⟨0,0,0,0,0,0,[],[]⟩:Zi)⟩:Z6)).f2).f1),qi ((((⟨[],0,(⟨0,0,0,0,0,0,[],[]⟩:Zi)⟩:Z6)).f2).f2),qu ((((⟨[],0,(⟨0,0,0,0,0,0,[],[]⟩:Zi)⟩:Z6)).f2).f3),qu ((((⟨[],0,(⟨0,0,0,0,0,0,[],[]⟩:Zi)⟩:Z6)).f2).f4),qi ((((⟨[],0,(⟨0,0,0,0,0,0,[],[]⟩:Zi)⟩:Z6)).f2).f5),.im (.row (((((⟨[],0,(⟨0,0,0,0,0,0,[],[]⟩:Zi)⟩:Z6)).f2).f6).map Z4)),.im (.row (((((⟨[],0,(⟨0,0,0,0,0,0,[],[]⟩:Zi)⟩:Z6)).f2).f7).map Z4))]))],0⟩)
 (fun am=>.ck fun an=>.bd fun ao ap=>.bd fun aq ar=>.rg [(1,⟨.more (xSub (Int.toNat (1:Int)) (Int.toNat (8:Int)-Int.toNat (1:Int))),.c (p:=(1:Int)=((Int.toNat (1:Int):Nat):Int)) ((Int.toNat_of_nonneg an.1).symm) (.c (p:=(8:Int)=((Int.toNat (1:Int)+(Int.toNat (8:Int)-Int.toNat (1:Int)):Nat):Int)) (by have h:=an;(try simp only[List.length_map] at h ⊢);omega) (.c (p:=Int.toNat (1:Int)+(Int.toNat (8:Int)-Int.toNat (1:Int))≤(aa.map Zq).length) (by have h:=an;simp only[List.length_map] at h ⊢;omega) .n))⟩),(2,⟨.call [] [] [3] [] 0 (sV ao) [],.c (call31) (.c (p:=Pv.Fn Tryz.prog 31 [.im (.row (((aa.map Zq).drop (Int.toNat (1:Int))).take (Int.toNat (8:Int)-Int.toNat (1:Int)))),sV (⟨#[32]⟩:ByteArray)] [] 0 (fun r o=>r=sV ao∧o=[])) ((by have hh:=Za.ok ((aa.drop (Int.toNat (1:Int))).take (Int.toNat (8:Int)-Int.toNat (1:Int))) (⟨#[32]⟩:ByteArray) ao ap;rw[cut1 aa (Int.toNat (1:Int)) (Int.toNat (8:Int)-Int.toNat (1:Int)) Zq] at hh;exact hh)) .n)⟩),(3,qh call13 (Z2e.ok ao aq ar)),(7,⟨.k 4,.n⟩)]<|.r0<|.cd (fun au=>.r0<|.ret [(2,1)] [] [0] ⟨[(2,.ptr 1 0 0),(3,qi aq.2)],[q3 0 (((⟨[],0,(⟨0,0,0,0,0,0,[],[]⟩:Zi)⟩:Z6)).f0),(1,some (.box 36 [.own 0,qi (((⟨[],0,(⟨0,0,0,0,0,0,[],[]⟩:Zi)⟩:Z6)).f1),qi ((((⟨[],0,(⟨0,0,0,0,0,0,[],[]⟩:Zi)⟩:Z6)).f2).f0),qi ((((⟨[],0,(⟨0,0,0,0,0,0,[],[]⟩:Zi)⟩:Z6)).f2).f1),qi ((((⟨[],0,(⟨0,0,0,0,0,0,[],[]⟩:Zi)⟩:Z6)).f2).f2),qu ((((⟨[],0,(⟨0,0,0,0,0,0,[],[]⟩:Zi)⟩:Z6)).f2).f3),qu ((((⟨[],0,(⟨0,0,0,0,0,0,[],[]⟩:Zi)⟩:Z6)).f2).f4),qi ((((⟨[],0,(⟨0,0,0,0,0,0,[],[]⟩:Zi)⟩:Z6)).f2).f5),.im (.row (((((⟨[],0,(⟨0,0,0,0,0,0,[],[]⟩:Zi)⟩:Z6)).f2).f6).map Z4)),.im (.row (((((⟨[],0,(⟨0,0,0,0,0,0,[],[]⟩:Zi)⟩:Z6)).f2).f7).map Z4))]))],0⟩)
 (fun au=>.el fun av aw ax=>.bd fun ay az=>.rg [(1,hX Zq aw ax),(2,hL Zq ax),(3,hC [] [(0,5)] [] [5] call46 (Z06.ok av ay az))]<|.r0<|.cd (fun a8=>.r0<|.ret [(2,1)] [] [0] ⟨[(2,.ptr 1 0 0),(3,qi ay.2)],[q3 0 (((⟨[],0,(⟨0,0,0,0,0,0,[],[]⟩:Zi)⟩:Z6)).f0),(1,some (.box 36 [.own 0,qi (((⟨[],0,(⟨0,0,0,0,0,0,[],[]⟩:Zi)⟩:Z6)).f1),qi ((((⟨[],0,(⟨0,0,0,0,0,0,[],[]⟩:Zi)⟩:Z6)).f2).f0),qi ((((⟨[],0,(⟨0,0,0,0,0,0,[],[]⟩:Zi)⟩:Z6)).f2).f1),qi ((((⟨[],0,(⟨0,0,0,0,0,0,[],[]⟩:Zi)⟩:Z6)).f2).f2),qu ((((⟨[],0,(⟨0,0,0,0,0,0,[],[]⟩:Zi)⟩:Z6)).f2).f3),qu ((((⟨[],0,(⟨0,0,0,0,0,0,[],[]⟩:Zi)⟩:Z6)).f2).f4),qi ((((⟨[],0,(⟨0,0,0,0,0,0,[],[]⟩:Zi)⟩:Z6)).f2).f5),.im (.row (((((⟨[],0,(⟨0,0,0,0,0,0,[],[]⟩:Zi)⟩:Z6)).f2).f6).map Z4)),.im (.row (((((⟨[],0,(⟨0,0,0,0,0,0,[],[]⟩:Zi)⟩:Z6)).f2).f7).map Z4))]))],0⟩)
 (fun a8=>.r0<|.ret [(2,1),(5,0)] [] [] ⟨[(2,.ptr 1 0 0),(3,qi 0)],[q3 0 (((⟨ay.1,ah.1,(aq.1)⟩:Z6)).f0),(1,some (.box 36 [.own 0,qi (((⟨ay.1,ah.1,(aq.1)⟩:Z6)).f1),qi ((((⟨ay.1,ah.1,(aq.1)⟩:Z6)).f2).f0),qi ((((⟨ay.1,ah.1,(aq.1)⟩:Z6)).f2).f1),qi ((((⟨ay.1,ah.1,(aq.1)⟩:Z6)).f2).f2),qu ((((⟨ay.1,ah.1,(aq.1)⟩:Z6)).f2).f3),qu ((((⟨ay.1,ah.1,(aq.1)⟩:Z6)).f2).f4),qi ((((⟨ay.1,ah.1,(aq.1)⟩:Z6)).f2).f5),.im (.row (((((⟨ay.1,ah.1,(aq.1)⟩:Z6)).f2).f6).map Z4)),.im (.row (((((⟨ay.1,ah.1,(aq.1)⟩:Z6)).f2).f7).map Z4))]))],0⟩)))))))
def Z0n.f  : Option Bool:=(Z2f.f (⟨#[53,32,99,111,117,110,116,101,114,32,48,32,110,111,110,101,32,48,32,55,32,43,49,58,50,32,45,32,123,97,61,34,120,34,125]⟩:ByteArray))>>=fun aa=>((if(aa.2==0)=true then(if(((aa.1).f1)==5)=true then(if((((aa.1).f2).f4)==2)=true then(if((((aa.1).f2).f5)==7)=true then(if((((aa.1).f0).length:Int)==1)=true then(some (((((aa.1).f2).f6).length:Int)==1)) else(some false)) else(some false)) else(some false)) else(some false)) else(some false)):Option Bool)>>=fun ab=>some ab
theorem Z0n.ok  : FN 8 [] [] 0 (Z0n.f ) (fun r=>bV r) (fun r=>[]):=FT [] func8 (.r0<|.bd fun aa ab=>.rg [(0,hC [] [(0,0)] [] [0] call16 (Z2f.ok (⟨#[53,32,99,111,117,110,116,101,114,32,48,32,110,111,110,101,32,48,32,55,32,43,49,58,50,32,45,32,123,97,61,34,120,34,125]⟩:ByteArray) aa ab)),(4,⟨.k 1,.n⟩)]<|.join (.sp (fun ac=>.sp (fun ad=>.sp (fun ae=>.sp (fun af=>.sp (fun ah=>.rg [(2,hB ac),(7,hB ad),(13,hB ae),(19,hB af),(22,hG Z17 ((aa.1).f0)),(25,hB ah),(29,hG Z4 (((aa.1).f2).f6))]<|.o [])
 (fun ah=>.rg [(2,hB ac),(7,hB ad),(13,hB ae),(19,hB af),(22,hG Z17 ((aa.1).f0)),(25,hB ah)]<|.o []))
 (fun af=>.rg [(2,hB ac),(7,hB ad),(13,hB ae),(19,hB af)]<|.o []))
 (fun ae=>.rg [(2,hB ac),(7,hB ad),(13,hB ae)]<|.o []))
 (fun ad=>.rg [(2,hB ac),(7,hB ad)]<|.o []))
 (fun ac=>.rg [(2,hB ac)]<|.o []))
 (.st .normal (fun ai=>⟨[(0,bV ai)],[],0⟩) fun ai=>.ret [] [] [] ⟨[(0,bV ai)],[],0⟩))
def Z0y.f (a0:Int):Option Bool:=((if(decide (a0≥(-4)))=true then(some (decide (a0≤8))) else(some false)):Option Bool)>>=fun aa=>some aa
theorem Z0y.ok (a0:Int):FN 22 [qi a0] [] 0 (Z0y.f a0) (fun r=>bV r) (fun r=>[]):=FT [] func22 (.r0<|.join (.sp (fun aa=>.rg [(2,hB aa)]<|.o [])
 (fun aa=>.rg [(2,hB aa)]<|.o []))
 (.st .normal (fun ab=>⟨[(2,bV ab)],[],0⟩) fun ab=>.ret [] [] [] ⟨[(2,bV ab)],[],0⟩))
def Z1k.l0 (aa:Int) (ab:Int):Option Int:=if(decide (ab<8))=true then(Z1k.l0  (i64.wrap (aa*2)) (i64.wrap (ab+1))) else(some aa)
partial_fixpoint
def Z1k.f (a0:Int):Option Int:=(Z1k.l0  1 a0)>>=fun aa=>some aa
theorem Z1k.ok (a0:Int):FN 48 [qi a0] [] 0 (Z1k.f a0) (fun r=>qi r) (fun r=>[]):=FT [] func48 (.r0<|.r0<|.r0<|.bl<|.loop (.c2 (Z1k.l0.partial_correctness )) (1,a0) [] [] [] (fun _=>.pr fun aa=>.one (fun ab=>⟨[(3,qi aa),(4,qi ab)],[],0⟩) fun ab=>.r0<|.cd (fun ac=>.bl<|.r0<|.r0<|.bk [] rfl)
 (fun ac=>.o []))
 (.st (.exit 0) (fun ad=>⟨[(3,qi ad)],[],0⟩) fun ad=>.r0<|.ret [] [] [] ⟨[(2,qi ad)],[],0⟩))
def Z1o.f (a0:Int) (a1:Int):Option Int:=(Z0y.f a0)>>=fun aa=>if(!aa)=true then(some 0) else((Z1k.f a0)>>=fun ab=>some (i64.wrap (a1*ab)))
theorem Z1o.ok (a0:Int) (a1:Int):FN 24 [qi a0,qi a1] [] 0 (Z1o.f a0 a1) (fun r=>qi r) (fun r=>[]):=FT [] func24 (.r0<|.bd fun aa ab=>.rg [(1,qh call22 (Z0y.ok a0 aa ab))]<|.cd (fun ac=>.r0<|.ret [] [] [] ⟨[(4,qi 0)],[],0⟩)
 (fun ac=>.bd fun ad ae=>.rg [(2,qh call48 (Z1k.ok a0 ad ae))]<|.ret [] [] [] ⟨[(4,qi (i64.wrap (a1*ad)))],[],0⟩))
def Z4v.f (a0:Int) (a1:Int):Option Bool:=(((Z0y.f a0)>>=fun aa=>if aa=true then(if(decide (a1>(-262144)))=true then(if(decide (a1≤262144))=true then((Z1o.f a0 a1)>>=fun ab=>if(decide (ab>(-262144)))=true then((Z1o.f a0 a1)>>=fun ac=>some (decide (ac≤262144))) else(some false)) else(some false)) else(some false)) else(some false)):Option Bool)>>=fun ad=>some ad
theorem Z4v.ok (a0:Int) (a1:Int):FN 23 [qi a0,qi a1] [] 0 (Z4v.f a0 a1) (fun r=>bV r) (fun r=>[]):=FT [] func23 (.r0<|.join (.bd fun aa ab=>.sp (fun ac=>.sp (fun ad=>.sp (fun ae=>.bd fun af ah=>.sp (fun ai=>.bd fun aj ak=>.rg [(1,qh call22 (Z0y.ok a0 aa ab)),(2,hB ac),(6,hB ad),(10,hB ae),(13,qh call24 (Z1o.ok a0 a1 af ah)),(16,hB ai),(19,qh call24 (Z1o.ok a0 a1 aj ak))]<|.o [])
 (fun ai=>.rg [(1,qh call22 (Z0y.ok a0 aa ab)),(2,hB ac),(6,hB ad),(10,hB ae),(13,qh call24 (Z1o.ok a0 a1 af ah)),(16,hB ai)]<|.o []))
 (fun ae=>.rg [(1,qh call22 (Z0y.ok a0 aa ab)),(2,hB ac),(6,hB ad),(10,hB ae)]<|.o []))
 (fun ad=>.rg [(1,qh call22 (Z0y.ok a0 aa ab)),(2,hB ac),(6,hB ad)]<|.o []))
 (fun ac=>.rg [(1,qh call22 (Z0y.ok a0 aa ab)),(2,hB ac)]<|.o []))
 (.st .normal (fun al=>⟨[(4,bV al)],[],0⟩) fun al=>.ret [] [] [] ⟨[(4,bV al)],[],0⟩))
def Z1z.l0 (a0:List Int) (aa:Int) (ab:Int):Option ((Int×Int) ⊕ Int):=if(decide (ab<(a0.length:Int)))=true then((at? a0 ab)>>=fun ac=>if(decide (ac>(u64.wrap ((18446744073709551615:Int)-aa))))=true then(some (.inl (0,5))) else(Z1z.l0 a0 (u64.wrap (aa+ac)) (i64.wrap (ab+1)))) else(some (.inr aa))
partial_fixpoint
def Z1z.f (a0:List Int):Option (Int×Int):=(Z1z.l0 a0 0 0)>>=fun oo=>match oo with | .inl rr=>(some rr) | .inr aa=>(some (aa,0))
theorem Z1z.ok (a0:List Int):FN 25 [.im (.row (a0.map qv))] [] 0 (Z1z.f a0) (fun r=>.tup [qu r.1,qi r.2]) (fun r=>[]):=FT [] func25 (.r0<|.r0<|.r0<|.bl<|.loop (.c2 (Z1z.l0.partial_correctness a0)) (0,0) [] [] [] (fun _=>.pr fun aa=>.one (fun ab=>⟨[(0,.im (.row (a0.map qv))),(4,qu aa),(5,qi ab)],[],0⟩) fun ab=>.rg [(2,hG qv a0)]<|.cd (fun ac=>.bl<|.el fun ad ae af=>.rg [(2,hA qv ae af)]<|.cd (fun ah=>.r0<|.ret [] [] [] ⟨[(2,qu 0),(3,qi 5)],[],0⟩)
 (fun ah=>.rg [(3,hA qv ae af)]<|.r0<|.bk [] rfl))
 (fun ac=>.o []))
 (.sm (.rt (fun rr=>.tup [qu rr.1,qi rr.2]) (fun rr=>[]))
 (.st (.exit 0) (fun ai=>⟨[(4,qu ai)],[],0⟩) fun ai=>.r0<|.ret [] [] [] ⟨[(2,qu ai),(3,qi 0)],[],0⟩)))
def Zg.l1 (a0:Zi) (aa:Int) (ab:List Z2) (ac:List Int) (ad:Int):Option (Int ⊕ (List Int)):=if(decide (ad<(ab.length:Int)))=true then((at? ab ad)>>=fun ae=>(Z4v.f a0.f1 ae.f0)>>=fun af=>if(!af)=true then(some (.inl 4)) else(((if(decide (ad>0))=true then((at? ab (i64.wrap (ad-1)))>>=fun ah=>some (decide (ae.f0≤ah.f0))) else(some false)):Option Bool)>>=fun ai=>if ai=true then(some (.inl 32)) else(if(ae.f1==0)=true then(some (.inl 21)) else((Z1o.f a0.f1 (i64.wrap (ae.f0-1)))>>=fun aj=>if(decide (aj<a0.f2))=true then(some (.inl 31)) else((chk ((ac.length+[ae.f1].length)*8≤140737488355328))>>=fun _=>Zg.l1 a0 aa ab (ac++[ae.f1]) (i64.wrap (ad+1))))))) else(some (.inr ac))
partial_fixpoint
def Zg.l0 (a0:Zi) (aa:List Int) (ab:Int):Option (Int ⊕ (List Int)):=if(decide (ab<2))=true then(((if(ab==1)=true then(some a0.f7) else(some a0.f6)):Option (List Z2))>>=fun ac=>if(decide ((ac.length:Int)>512))=true then(some (.inl 9)) else((Zg.l1 a0 ab ac aa 0)>>=fun oo=>match oo with | .inl rr=>(some (.inl rr)) | .inr ad=>(Zg.l0 a0 ad (i64.wrap (ab+1))))) else(some (.inr aa))
partial_fixpoint
def Zg.f (a0:Zi):Option Int:=((if(a0.f0 != 0)=true then(some (a0.f0 != 1)) else(some false)):Option Bool)>>=fun aa=>if aa=true then(some 25) else((Z0y.f a0.f1)>>=fun ab=>if(!ab)=true then(some 20) else(((if(a0.f2 != (-524288))=true then(if(decide (a0.f2≤(-262144)))=true then(some true) else(some (decide (a0.f2>262144)))) else(some false)):Option Bool)>>=fun ac=>if ac=true then(some 31) else((Zg.l0 a0 [a0.f3] 0)>>=fun oo=>match oo with | .inl rr=>(some rr) | .inr ad=>((Z1z.f ad)>>=fun ae=>if(ae.2 != 0)=true then(some 5) else(if(ae.1 != a0.f4)=true then(some 21) else(some 0))))))
abbrev q4:=@RW _ 1 23 qv
theorem Zg.ok (a0:Zi):FN 10 [.agg (Z27 a0)] [] 0 (Zg.f a0) (fun r=>qi r) (fun r=>[]):=FT [] func10 (.rg [(0,⟨.k 0,.n⟩)]<|.join (.sp (fun aa=>.rg [(3,hB aa)]<|.o [(0,1)])
 (fun aa=>.rg [(3,hB aa)]<|.o [(0,1)]))
 (.st .normal (fun ab=>⟨[(1,.ptr 1 0 0),(16,bV ab)],[(1,some (.box 26 (Z27 a0)))],0⟩) fun ab=>.cd (fun ac=>.r0<|.ret [] [] [] ⟨[(2,qi 25)],[],0⟩)
 (fun ac=>.bd fun ad ae=>.rg [(2,qh call22 (Z0y.ok a0.f1 ad ae))]<|.cd (fun af=>.r0<|.ret [] [] [] ⟨[(2,qi 20)],[],0⟩)
 (fun af=>.join (.sp (fun ah=>.sp (fun ai=>.rg [(3,hB ah),(7,hB ai)]<|.o [(1,2)])
 (fun ai=>.rg [(3,hB ah),(7,hB ai)]<|.o [(1,2)]))
 (fun ah=>.rg [(3,hB ah)]<|.o [(1,2)]))
 (.st .normal (fun aj=>⟨[(1,.ptr 2 0 0),(33,bV aj)],[(2,some (.box 26 (Z27 a0)))],0⟩) fun aj=>.cd (fun ak=>.r0<|.ret [] [] [] ⟨[(2,qi 31)],[],0⟩)
 (fun ak=>.rg [(2,hQ 3 qv ([a0.f3]:List Int))]<|.r0<|.bl<|.loop (.c2 (Zg.l0.partial_correctness a0)) ([a0.f3],0) [(2,14),(3,15)] [] [] (fun _=>.pr fun al=>.one (fun am=>⟨[(1,.ptr 14 0 0),(3,.own 15),(4,qi am)],[(14,some (.box 26 (Z27 a0))),q4 15 al],0⟩) fun am=>.r0<|.cd (fun an=>.bl<|.r0<|.r0<|.join (.cd (fun ao=>.r0<|.o [(14,16),(15,17)])
 (fun ao=>.o [(14,16),(15,17)]))
 (.st .normal (fun ap=>⟨[(1,.ptr 16 0 0),(3,.own 17),(4,qi am),(5,.im (.row (ap.map Z4)))],[(16,some (.box 26 (Z27 a0))),q4 17 al],0⟩) fun ap=>.rg [(1,hG Z4 ap)]<|.cd (fun aq=>.r0<|.ret [] [] [] ⟨[(2,qi 9)],[],0⟩)
 (fun aq=>.r0<|.bl<|.loop (.c2 (Zg.l1.partial_correctness a0 am ap)) (al,0) [(16,20),(17,21)] [] [] (fun _=>.pr fun ar=>.one (fun au=>⟨[(1,.ptr 20 0 0),(3,.own 21),(4,qi am),(5,.im (.row (ap.map Z4))),(6,qi au)],[(20,some (.box 26 (Z27 a0))),q4 21 ar],0⟩) fun au=>.rg [(2,hG Z4 ap)]<|.cd (fun av=>.bl<|.el fun aw ax ay=>.bd fun az a8=>.rg [(4,hA Z4 ax ay),(7,qh call23 (Z4v.ok a0.f1 aw.f0 az a8))]<|.cd (fun ba=>.r0<|.ret [] [] [] ⟨[(2,qi 4)],[],0⟩)
 (fun ba=>.join (.sp (fun bb=>.el fun bc be bf=>.rg [(2,hB bb),(5,hA Z4 ax ay),(11,hA Z4 be bf)]<|.o [(20,22),(21,23)])
 (fun bb=>.rg [(2,hB bb)]<|.o [(20,22),(21,23)]))
 (.st .normal (fun bg=>⟨[(1,.ptr 22 0 0),(3,.own 23),(4,qi am),(5,.im (.row (ap.map Z4))),(6,qi au),(80,bV bg)],[(22,some (.box 26 (Z27 a0))),q4 23 ar],0⟩) fun bg=>.cd (fun bh=>.r0<|.ret [] [] [] ⟨[(2,qi 32)],[],0⟩)
 (fun bh=>.rg [(2,hA Z4 ax ay)]<|.cd (fun bi=>.r0<|.ret [] [] [] ⟨[(2,qi 21)],[],0⟩)
 (fun bi=>.bd fun bj bn=>.rg [(4,hA Z4 ax ay),(8,qh call24 (Z1o.ok a0.f1 (i64.wrap (aw.f0-1)) bj bn))]<|.cd (fun bo=>.r0<|.ret [] [] [] ⟨[(2,qi 31)],[],0⟩)
 (fun bo=>.ck fun bp=>.rg [(3,hA Z4 ax ay),(6,hQ 24 qv ([aw.f1]:List Int)),(7,hP 25 qv 1 bp)]<|.r0<|.bk [(22,20),(25,21)] rfl))))))
 (fun av=>.o [(20,26),(21,27)]))
 (.sm (.rt (fun rr=>qi rr) (fun rr=>[]))
 (.st (.exit 2) (fun bq=>⟨[(1,.ptr 26 0 0),(3,.own 27),(4,qi am)],[(26,some (.box 26 (Z27 a0))),q4 27 bq],0⟩) fun bq=>.r0<|.bk [(26,14),(27,15)] rfl)))))
 (fun an=>.o [(14,28),(15,29)]))
 (.sm (.rt (fun rr=>qi rr) (fun rr=>[]))
 (.st (.exit 0) (fun br=>⟨[(1,.ptr 28 0 0),(3,.own 29)],[(28,some (.box 26 (Z27 a0))),q4 29 br],0⟩) fun br=>.bd fun bu bv=>.rg [(1,hC [] [] [29] [] call25 (Z1z.ok br bu bv))]<|.r0<|.cd (fun bw=>.r0<|.ret [] [] [] ⟨[(2,qi 5)],[],0⟩)
 (fun bw=>.r0<|.cd (fun bx=>.r0<|.ret [] [] [] ⟨[(2,qi 21)],[],0⟩)
 (fun bx=>.r0<|.ret [] [] [] ⟨[(2,qi 0)],[],0⟩))))))))))
def Z2c.f (a0:Int):Option ByteArray:=(Z05.f a0 10)>>=fun aa=>some aa
theorem Z2c.ok (a0:Int):FN 56 [qi a0] [] 0 (Z2c.f a0) (fun r=>sV r) (fun r=>[]):=FT [] func56 (.r0<|.bd fun aa ab=>.rg [(1,qh call51 (Z05.ok a0 10 aa ab))]<|.ret [] [] [] ⟨[(2,sV aa)],[],0⟩)
def Z0l.f (a0:Int):Option ByteArray:=(Z2c.f a0)>>=fun aa=>some aa
theorem Z0l.ok (a0:Int):FN 30 [qi a0] [] 0 (Z0l.f a0) (fun r=>sV r) (fun r=>[]):=FT [] func30 (.r0<|.bd fun aa ab=>.rg [(1,qh call56 (Z2c.ok a0 aa ab))]<|.ret [] [] [] ⟨[(2,sV aa)],[],0⟩)
def Z0k.l0 (a0:List Z2) (aa:List ByteArray) (ab:Int):Option (List ByteArray):=if(decide (ab<(a0.length:Int)))=true then((at? a0 ab)>>=fun ac=>(Z0l.f ac.f0)>>=fun ad=>(chk (((ad.size+(⟨#[58]⟩:ByteArray).size:Nat):Int)≤9223372036854775807))>>=fun _=>(Z00.f ac.f1 10)>>=fun ae=>(chk ((((ad++(⟨#[58]⟩:ByteArray)).size+ae.size:Nat):Int)≤9223372036854775807))>>=fun _=>(chk ((aa.length+[(ad++(⟨#[58]⟩:ByteArray))++ae].length)*16≤140737488355328))>>=fun _=>Z0k.l0 a0 (aa++[(ad++(⟨#[58]⟩:ByteArray))++ae]) (i64.wrap (ab+1))) else(some aa)
partial_fixpoint
def Z0k.f (a0:List Z2):Option ByteArray:=(Z0k.l0 a0 [] 0)>>=fun aa=>(Za.f aa (⟨#[44]⟩:ByteArray))>>=fun ab=>some ab
theorem Z0k.ok (a0:List Z2):FN 33 [.im (.row (a0.map Z4))] [] 0 (Z0k.f a0) (fun r=>sV r) (fun r=>[]):=FT [] func33 (.r0<|.r0<|.rg [(1,hG Z4 a0)]<|.bl<|.loop (.c2 (Z0k.l0.partial_correctness a0)) ([],0) [] [] [3] (fun _=>.pr fun aa=>.one (fun ab=>⟨[(3,.own 3),(6,.im (.row (a0.map Z4))),(7,qi (a0.length:Int)),(8,qi ab)],[q0 3 aa],0⟩) fun ab=>.r0<|.cd (fun ac=>.bl<|.el fun ad ae af=>.rg [(0,hA Z4 ae af),(2,⟨.k 4,.n⟩)]<|.bd fun ah ai=>.ck fun aj=>.bd fun ak al=>.ck fun am=>.ck fun an=>.rg [(3,qh call30 (Z0l.ok ad.f0 ah ai)),(4,hN (p1 aj)),(7,qh call32 (Z00.ok ad.f1 10 ak al)),(8,hN (p1 am)),(9,hQ 5 Zq ([(ah++(⟨#[58]⟩:ByteArray))++ak]:List ByteArray)),(10,hP 6 Zq 1 an)]<|.r0<|.bk [(6,3)] rfl)
 (fun ac=>.o [(3,7)]))
 (.st (.exit 0) (fun ao=>⟨[(3,.own 7)],[q0 7 ao],0⟩) fun ao=>.bd fun ap aq=>.rg [(1,hC [] [] [7] [] call31 (Za.ok ao (⟨#[44]⟩:ByteArray) ap aq))]<|.ret [] [] [] ⟨[(2,sV ap)],[],0⟩))
def Z1p.f (a0:Zi):Option (ByteArray×Int):=(Zu.f a0)>>=fun aa=>if(aa != 0)=true then(some ((⟨#[]⟩:ByteArray),aa)) else(((if(a0.f2 != (-524288))=true then((Z0l.f a0.f2)>>=fun ab=>some ab) else(some (⟨#[110,111,110,101]⟩:ByteArray))):Option ByteArray)>>=fun ac=>(at? gt0 a0.f0)>>=fun ad=>(Z0l.f a0.f1)>>=fun ae=>(Z00.f a0.f3 10)>>=fun af=>(Z03.f a0.f5 10)>>=fun ah=>(Z0k.f a0.f6)>>=fun ai=>(chk ((((⟨#[43]⟩:ByteArray).size+ai.size:Nat):Int)≤9223372036854775807))>>=fun _=>(Z0k.f a0.f7)>>=fun aj=>(chk ((((⟨#[45]⟩:ByteArray).size+aj.size:Nat):Int)≤9223372036854775807))>>=fun _=>(Za.f [ad,ae,ac,af,ah,(⟨#[43]⟩:ByteArray)++ai,(⟨#[45]⟩:ByteArray)++aj] (⟨#[32]⟩:ByteArray))>>=fun ak=>some (ak,0))
theorem Z1p.ok (a0:Zi):FN 12 [.agg (Z27 a0)] [] 0 (Z1p.f a0) (fun r=>.tup [sV r.1,qi r.2]) (fun r=>[]):=FT [] func12 (.rg [(0,⟨.k 0,.n⟩)]<|.bd fun aa ab=>.rg [(1,qh call29 (Zu.ok a0 aa ab))]<|.r0<|.cd (fun ac=>.r0<|.ret [] [] [] ⟨[(2,sV (⟨#[]⟩:ByteArray)),(3,qi aa)],[],0⟩)
 (fun ac=>.r0<|.r0<|.join (.cd (fun ad=>.bd fun ae af=>.rg [(2,qh call30 (Z0l.ok a0.f2 ae af))]<|.o [(0,1)])
 (fun ad=>.o [(0,1)]))
 (.st .normal (fun ah=>⟨[(1,.ptr 1 0 0),(5,sV ah)],[(1,some (.box 26 (Z27 a0)))],0⟩) fun ah=>.el fun ai aj ak=>.bd fun al am=>.bd fun an ao=>.bd fun ap aq=>.bd fun ar au=>.ck fun av=>.bd fun aw ax=>.ck fun ay=>.bd fun az a8=>.rg [(2,hGX 2 Value.string gt0_ok aj ak),(6,qh call30 (Z0l.ok a0.f1 al am)),(10,qh call32 (Z00.ok a0.f3 10 an ao)),(13,qh call27 (Z03.ok a0.f5 10 ap aq)),(16,qh call33 (Z0k.ok a0.f6 ar au)),(17,hN (p1 av)),(20,qh call33 (Z0k.ok a0.f7 aw ax)),(21,hN (p1 ay)),(22,hQ 2 Zq ([ai,al,ah,an,ap,(⟨#[43]⟩:ByteArray)++ar,(⟨#[45]⟩:ByteArray)++aw]:List ByteArray)),(23,hC [] [] [2] [] call31 (Za.ok [ai,al,ah,an,ap,(⟨#[43]⟩:ByteArray)++ar,(⟨#[45]⟩:ByteArray)++aw] (⟨#[32]⟩:ByteArray) az a8))]<|.ret [] [] [] ⟨[(2,sV az),(3,qi 0)],[],0⟩)))
def Z08.f (a1:Int):Option (List Int):=(Zn.f)>>=fun aa=>(chk ((([]:List Int).length+[a1].length)*1≤140737488355328))>>=fun _=>some [a1]
theorem Z08.ok (a1:Int):FN 73 [.ptr 0 0 0,iV .u8 a1] [(0,some (.box 95 [.im (.sc (.pointer none)),.none0]))] 1 (Z08.f a1) (fun r=>.im (.sc (.nilIface))) (fun r=>[(0,some (.box 95 [.ptr 0 0 0,.own 1])),q1 1 r]):=FT [0,1] func73 (.r0<|.bd fun aa ab=>.rg [(1,hC [(0,0)] [(0,0)] [] [] call77 (Zn.ok  aa ab))]<|.ck fun ac=>.rg [(6,hQ 1 qb ([a1]:List Int)),(7,hP0 2 qb 1 ac)]<|.r0<|.ret [(0,0),(2,1)] [] [] ⟨[(4,.im (.sc (.nilIface)))],[(0,some (.box 95 [.ptr 0 0 0,.own 1])),(1,some (.row 1 5 ([a1].map qb)))],1⟩)
def Zh.f (aa:List Int) (a1:Int):Option (List Int):=(Zj.f aa)>>=fun ab=>(chk ((aa.length+[a1].length)*1≤140737488355328))>>=fun _=>some (aa++[a1])
theorem Zh.ok (aa:List Int) (a1:Int):FN 73 [.ptr 0 0 0,iV .u8 a1] [(0,some (.box 95 [.ptr 0 0 0,.own 1])),q1 1 aa] 2 (Zh.f aa a1) (fun r=>.im (.sc (.nilIface))) (fun r=>[(0,some (.box 95 [.ptr 0 0 0,.own 2])),(1,none),q1 2 r]):=FT [0,1,2] func73 (.r0<|.bd fun ab ac=>.rg [(1,hC [(0,0),(1,1)] [(0,0),(1,1)] [] [] call77 (Zj.ok aa ab ac))]<|.ck fun ad=>.rg [(6,hQ 2 qb ([a1]:List Int)),(7,hP 3 qb 1 ad)]<|.r0<|.ret [(0,0),(3,2)] [] [] ⟨[(4,.im (.sc (.nilIface)))],[(0,some (.box 95 [.ptr 0 0 0,.own 2])),q1 2 (aa++[a1])],2⟩)
def Z0h.l0 (a0:ByteArray) (aa:List Int) (ab:Int):Option (List Int):=if(decide (ab<(a0.size:Int)))=true then((chk (0≤ab∧ab<(a0.size:Int)))>>=fun _=>((((if((bt a0 ab)==10)=true then((Z9.f aa (⟨#[92,110]⟩:ByteArray))>>=fun ac=>some (.inr ac)) else(((if((bt a0 ab)==34)=true then(some ((bt a0 ab)==34)) else(some ((bt a0 ab)==92))):Option Bool)>>=fun ad=>if ad=true then((Zh.f aa 92)>>=fun ae=>some (.inl ae)) else(some (.inl aa)))):Option ((List Int) ⊕ (List Int)))>>=fun oo=>match oo with | .inl af=>((Zh.f af (bt a0 ab))>>=fun ah=>some ah) | .inr ai=>(some ai)):Option (List Int))>>=fun aj=>Z0h.l0 a0 aj (i64.wrap (ab+1))) else(some aa)
partial_fixpoint
def Z0h.f (a0:ByteArray):Option ByteArray:=(Z08.f 34)>>=fun aa=>(Z0h.l0 a0 aa 0)>>=fun ab=>(Zh.f ab 34)>>=fun ac=>(Zd.f ac)>>=fun ad=>some (Z3o ac)
theorem Z0h.ok (a0:ByteArray):FN 52 [sV a0] [] 0 (Z0h.f a0) (fun r=>sV r) (fun r=>[]):=FT [] func52 (.r0<|.rg [(0,⟨.k 0,.n⟩)]<|.bd fun aa ab=>.rg [(0,hC [(0,0)] [(0,0),(1,1)] [] [1] call73 (Z08.ok 34 aa ab))]<|.r0<|.bl<|.loop (.c2 (Z0h.l0.partial_correctness a0)) (aa,0) [(0,13),(1,14)] [] [] (fun _=>.pr fun ac=>.one (fun ad=>⟨[(0,sV a0),(3,.ptr 13 0 0),(8,qi (a0.size:Int)),(9,qi ad)],[(13,some (.box 95 [.ptr 13 0 0,.own 14])),q1 14 ac],0⟩) fun ad=>.r0<|.cd (fun ae=>.bl<|.r0<|.ck fun af=>.rg [(2,hN (p2 af))]<|.r0<|.join (.bl<|.join (.bl<|.bl<|.bl<|.r0<|.cd (fun ah=>.bd fun ai aj=>.rg [(0,hC [(13,0),(14,1)] [(0,13),(2,17)] [] [17] call58 (Z9.ok ac (⟨#[92,110]⟩:ByteArray) ai aj))]<|.o [(13,21),(17,22)])
 (fun ah=>.r0<|.join (.cd (fun ak=>.o [(13,15),(14,16)])
 (fun ak=>.r0<|.o [(13,15),(14,16)]))
 (.st .normal (fun al=>⟨[(0,sV a0),(3,.ptr 15 0 0),(5,iV .u8 (bt a0 ad)),(8,qi (a0.size:Int)),(9,qi ad),(18,bV al)],[(15,some (.box 95 [.ptr 15 0 0,.own 16])),q1 16 ac],0⟩) fun al=>.cd (fun am=>.bd fun an ao=>.rg [(0,hC [(15,0),(16,1)] [(0,15),(2,18)] [] [18] call73 (Zh.ok ac 92 an ao))]<|.o [(15,19),(18,20)])
 (fun am=>.o [(15,19),(16,20)]))))
 (.sm (.st .normal (fun ap=>⟨[(0,sV a0),(3,.ptr 19 0 0),(5,iV .u8 (bt a0 ad)),(8,qi (a0.size:Int)),(9,qi ad)],[(19,some (.box 95 [.ptr 19 0 0,.own 20])),q1 20 ap],0⟩) fun ap=>.bd fun aq ar=>.rg [(1,hC [(19,0),(20,1)] [(0,19),(2,23)] [] [23] call73 (Zh.ok ap (bt a0 ad) aq ar))]<|.o [(19,24),(23,25)])
 (.st (.exit 2) (fun au=>⟨[(0,sV a0),(3,.ptr 21 0 0),(8,qi (a0.size:Int)),(9,qi ad)],[(21,some (.box 95 [.ptr 21 0 0,.own 22])),q1 22 au],0⟩) fun au=>.o [(21,24),(22,25)])))
 (.st .normal (fun av=>⟨[(0,sV a0),(3,.ptr 24 0 0),(8,qi (a0.size:Int)),(9,qi ad)],[(24,some (.box 95 [.ptr 24 0 0,.own 25])),q1 25 av],0⟩) fun av=>.r0<|.bk [(24,13),(25,14)] rfl))
 (fun ae=>.o [(13,26),(14,27)]))
 (.st (.exit 0) (fun aw=>⟨[(3,.ptr 26 0 0)],[(26,some (.box 95 [.ptr 26 0 0,.own 27])),q1 27 aw],0⟩) fun aw=>.bd fun ax ay=>.rg [(0,hC [(26,0),(27,1)] [(0,26),(2,28)] [] [28] call73 (Zh.ok aw 34 ax ay))]<|.bd fun az a8=>.rg [(0,hC [(26,0),(28,1)] [(0,26)] [] [] call59 (Zd.ok ax az a8))]<|.ret [] [] [] ⟨[(2,sV (Z3o ax))],[],0⟩))
def Z0c.l0 (a0:List Zp) (aa:List ByteArray) (ab:Int):Option (List ByteArray):=if(decide (ab<(a0.length:Int)))=true then((at? a0 ab)>>=fun ac=>(chk (((ac.f0.size+(⟨#[61]⟩:ByteArray).size:Nat):Int)≤9223372036854775807))>>=fun _=>(Z0h.f ac.f1)>>=fun ad=>(chk ((((ac.f0++(⟨#[61]⟩:ByteArray)).size+ad.size:Nat):Int)≤9223372036854775807))>>=fun _=>(chk ((aa.length+[(ac.f0++(⟨#[61]⟩:ByteArray))++ad].length)*16≤140737488355328))>>=fun _=>Z0c.l0 a0 (aa++[(ac.f0++(⟨#[61]⟩:ByteArray))++ad]) (i64.wrap (ab+1))) else(some aa)
partial_fixpoint
def Z0c.f (a0:List Zp):Option ByteArray:=(Z0c.l0 a0 [] 0)>>=fun aa=>(Za.f aa (⟨#[44]⟩:ByteArray))>>=fun ab=>(chk ((((⟨#[123]⟩:ByteArray).size+ab.size:Nat):Int)≤9223372036854775807))>>=fun _=>(chk (((((⟨#[123]⟩:ByteArray)++ab).size+(⟨#[125]⟩:ByteArray).size:Nat):Int)≤9223372036854775807))>>=fun _=>some (((⟨#[123]⟩:ByteArray)++ab)++(⟨#[125]⟩:ByteArray))
theorem Z0c.ok (a0:List Zp):FN 28 [.im (.row (a0.map Z17))] [] 0 (Z0c.f a0) (fun r=>sV r) (fun r=>[]):=FT [] func28 (.r0<|.r0<|.rg [(1,hG Z17 a0)]<|.bl<|.loop (.c2 (Z0c.l0.partial_correctness a0)) ([],0) [] [] [3] (fun _=>.pr fun aa=>.one (fun ab=>⟨[(3,.own 3),(6,.im (.row (a0.map Z17))),(7,qi (a0.length:Int)),(8,qi ab)],[q0 3 aa],0⟩) fun ab=>.r0<|.cd (fun ac=>.bl<|.el fun ad ae af=>.rg [(0,hA Z17 ae af),(2,⟨.k 4,.n⟩)]<|.ck fun ah=>.bd fun ai aj=>.ck fun ak=>.ck fun al=>.rg [(3,hN (p1 ah)),(6,qh call52 (Z0h.ok ad.f1 ai aj)),(7,hN (p1 ak)),(8,hQ 5 Zq ([(ad.f0++(⟨#[61]⟩:ByteArray))++ai]:List ByteArray)),(9,hP 6 Zq 1 al)]<|.r0<|.bk [(6,3)] rfl)
 (fun ac=>.o [(3,7)]))
 (.st (.exit 0) (fun am=>⟨[(3,.own 7)],[q0 7 am],0⟩) fun am=>.bd fun an ao=>.ck fun ap=>.ck fun aq=>.rg [(1,hC [] [] [7] [] call31 (Za.ok am (⟨#[44]⟩:ByteArray) an ao)),(2,hN (p1 ap)),(3,hN (p1 aq))]<|.ret [] [] [] ⟨[(2,sV (((⟨#[123]⟩:ByteArray)++an)++(⟨#[125]⟩:ByteArray)))],[],0⟩))
def Z1x.f (a0:Z6):Option (ByteArray×Int):=(Z0d.f a0.f0)>>=fun aa=>if(aa != 0)=true then(some ((⟨#[]⟩:ByteArray),aa)) else(((if(decide (a0.f1<0))=true then(some true) else(some (decide (a0.f1>1099511627776)))):Option Bool)>>=fun ab=>if ab=true then(some ((⟨#[]⟩:ByteArray),4)) else((Z1p.f a0.f2)>>=fun ac=>if(ac.2 != 0)=true then(some ((⟨#[]⟩:ByteArray),ac.2)) else((Z03.f a0.f1 10)>>=fun ad=>(chk (((ad.size+(⟨#[32]⟩:ByteArray).size:Nat):Int)≤9223372036854775807))>>=fun _=>(chk ((((ad++(⟨#[32]⟩:ByteArray)).size+ac.1.size:Nat):Int)≤9223372036854775807))>>=fun _=>(chk (((((ad++(⟨#[32]⟩:ByteArray))++ac.1).size+(⟨#[32]⟩:ByteArray).size:Nat):Int)≤9223372036854775807))>>=fun _=>(Z0c.f a0.f0)>>=fun ae=>(chk ((((((ad++(⟨#[32]⟩:ByteArray))++ac.1)++(⟨#[32]⟩:ByteArray)).size+ae.size:Nat):Int)≤9223372036854775807))>>=fun _=>some ((((ad++(⟨#[32]⟩:ByteArray))++ac.1)++(⟨#[32]⟩:ByteArray))++ae,0))))
theorem Z1x.ok (a0:Z6):FN 11 [.agg [.im (.row (a0.f0.map Z17)),qi a0.f1,qi a0.f2.f0,qi a0.f2.f1,qi a0.f2.f2,qu a0.f2.f3,qu a0.f2.f4,qi a0.f2.f5,.im (.row (a0.f2.f6.map Z4)),.im (.row (a0.f2.f7.map Z4))]] [] 0 (Z1x.f a0) (fun r=>.tup [sV r.1,qi r.2]) (fun r=>[]):=FT [] func11 (.rg [(0,⟨.k 0,.n⟩)]<|.bd fun aa ab=>.rg [(2,qh call26 (Z0d.ok a0.f0 aa ab))]<|.r0<|.cd (fun ac=>.r0<|.ret [] [] [] ⟨[(2,sV (⟨#[]⟩:ByteArray)),(3,qi aa)],[],0⟩)
 (fun ac=>.join (.sp (fun ad=>.rg [(3,hB ad)]<|.o [(0,1)])
 (fun ad=>.rg [(3,hB ad)]<|.o [(0,1)]))
 (.st .normal (fun ae=>⟨[(1,.ptr 1 0 0),(20,bV ae)],[(1,some (.box 36 [.im (.row (a0.f0.map Z17)),qi a0.f1,qi a0.f2.f0,qi a0.f2.f1,qi a0.f2.f2,qu a0.f2.f3,qu a0.f2.f4,qi a0.f2.f5,.im (.row (a0.f2.f6.map Z4)),.im (.row (a0.f2.f7.map Z4))]))],0⟩) fun ae=>.cd (fun af=>.r0<|.ret [] [] [] ⟨[(2,sV (⟨#[]⟩:ByteArray)),(3,qi 4)],[],0⟩)
 (fun af=>.bd fun ah ai=>.rg [(2,qh call12 (Z1p.ok a0.f2 ah ai))]<|.r0<|.cd (fun aj=>.r0<|.ret [] [] [] ⟨[(2,sV (⟨#[]⟩:ByteArray)),(3,qi ah.2)],[],0⟩)
 (fun aj=>.bd fun ak al=>.ck fun am=>.ck fun an=>.ck fun ao=>.bd fun ap aq=>.ck fun ar=>.rg [(2,qh call27 (Z03.ok a0.f1 10 ak al)),(3,hN (p1 am)),(5,hN (p1 an)),(6,hN (p1 ao)),(9,qh call28 (Z0c.ok a0.f0 ap aq)),(10,hN (p1 ar))]<|.ret [] [] [] ⟨[(2,sV ((((ak++(⟨#[32]⟩:ByteArray))++ah.1)++(⟨#[32]⟩:ByteArray))++ap)),(3,qi 0)],[],0⟩)))))
end Go.Proofs.YtlkonkfkapdimaaGreatDoor.PvGR
