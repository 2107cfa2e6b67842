import Derived.Test.YtlclecehlekjoaaProg
import Derived.Test.YtlclecehlekjoaaPxChunkParts05
set_option linter.unusedVariables false
set_option linter.unnecessarySimpa false
set_option linter.unusedSimpArgs false
set_option maxRecDepth 10000
namespace Go.Proofs.Ytlclecehlekjoaa.PvGE
open Go Go.Pv Go.IntKind
structure Z2 where
 f0:Int
 f1:Int
 deriving DecidableEq,Inhabited
abbrev Z0 (x:Z2):List Im:=[iI .i64 x.f0,iI .u64 x.f1]
abbrev Z1o (x:Z2):List AVal:=[iV .i64 x.f0,iV .u64 x.f1]
structure RBucket (x:Z2):Prop where
 r0:I64 x.f0
 r1:U64 x.f1
structure Zj where
 f0:Int
 f1:Int
 f2:Int
 f3:Int
 f4:Int
 f5:Int
 f6:List Z2
 f7:List Z2
 deriving DecidableEq,Inhabited
abbrev eHist (x:Zj):List Im:=[iI .i64 x.f0,iI .i64 x.f1,iI .i64 x.f2,iI .u64 x.f3,iI .u64 x.f4,iI .i64 x.f5,.row (x.f6.map Z0),.row (x.f7.map Z0)]
abbrev Zn (x:Zj):List AVal:=[iV .i64 x.f0,iV .i64 x.f1,iV .i64 x.f2,iV .u64 x.f3,iV .u64 x.f4,iV .i64 x.f5,.im (.row (x.f6.map Z0)),.im (.row (x.f7.map Z0))]
structure RHist (x:Zj):Prop where
 r0:I64 x.f0
 r1:I64 x.f1
 r2:I64 x.f2
 r3:U64 x.f3
 r4:U64 x.f4
 r5:I64 x.f5
 r6:x.f6.length≤140737488351232∧∀ y∈x.f6,RBucket y
 r7:x.f7.length≤140737488351232∧∀ y∈x.f7,RBucket y
structure Zd where
 f0:Int
 f1:Zj
 deriving DecidableEq,Inhabited
abbrev Z7 (x:Zd):List Im:=[iI .i64 x.f0,iI .i64 x.f1.f0,iI .i64 x.f1.f1,iI .i64 x.f1.f2,iI .u64 x.f1.f3,iI .u64 x.f1.f4,iI .i64 x.f1.f5,.row (x.f1.f6.map Z0),.row (x.f1.f7.map Z0)]
abbrev aSample (x:Zd):List AVal:=[iV .i64 x.f0,iV .i64 x.f1.f0,iV .i64 x.f1.f1,iV .i64 x.f1.f2,iV .u64 x.f1.f3,iV .u64 x.f1.f4,iV .i64 x.f1.f5,.im (.row (x.f1.f6.map Z0)),.im (.row (x.f1.f7.map Z0))]
structure RSample (x:Zd):Prop where
 r0:I64 x.f0
 r1:RHist x.f1
structure Z1h where
 f0:Int
 f1:Int
 deriving DecidableEq,Inhabited
abbrev Z00 (x:Z1h):List Im:=[iI .i64 x.f0,iI .i64 x.f1]
abbrev aSpan (x:Z1h):List AVal:=[iV .i64 x.f0,iV .i64 x.f1]
structure RSpan (x:Z1h):Prop where
 r0:I64 x.f0
 r1:I64 x.f1
structure Zb where
 f0:Int
 f1:List Z1h
 deriving DecidableEq,Inhabited
abbrev Za (x:Zb):List AVal:=[iV .i64 x.f0,.im (.row (x.f1.map Z00))]
structure Rspan_Layout (x:Zb):Prop where
 r0:I64 x.f0
 r1:x.f1.length≤140737488351232∧∀ y∈x.f1,RSpan y
structure Tbits_Writer where
 f0:List Int
 f1:Int
 deriving DecidableEq,Inhabited
structure Rbits_Writer (x:Tbits_Writer):Prop where
 r0:x.f0.length≤140737488351232∧∀ y∈x.f0,Rng 0 256 y
 r1:U64 x.f1
structure Z6g where
 f0:List Int
 f1:Int
 f2:Int
 deriving DecidableEq,Inhabited
abbrev Z3 (x:Z6g):List AVal:=[.im (.row (x.f0.map (Z1 .u8))),iV .i64 x.f1,iV .i64 x.f2]
structure Rbits_Reader (x:Z6g):Prop where
 r0:x.f0.length≤140737488351232∧∀ y∈x.f0,Rng 0 256 y
 r1:I64 x.f1
 r2:I64 x.f2
def Z0n.l0 (a0:List Zd) (x8:Int) (x9:Int):Option (Int):=if(decide (x9<(a0.length:Int)))=true then((at? a0 x9)>>=fun b14=>Z0n.l0 a0 (i64.wrap (x8+(i64.wrap ((i64.wrap ((b14.f1.f6.length:Int)+(b14.f1.f7.length:Int)))+(1:Int))))) (i64.wrap (x9+(1:Int)))) else(some x8)
partial_fixpoint
def Z0n.f (a0:List Zd):Option (Bool):=(Z0n.l0 a0 0 0)>>=fun x17=>some (decide (x17≤(700:Int)))
theorem Z0n.ok (a0:List Zd) (r:Bool) (H:Z0n.f a0=some r):Pv.Fn Try.prog 5 [.im (.row (a0.map Z7))] [] 0 (fun x o=>x=bV r∧o=[]):=by
 unfold Z0n.f at H
 refine Fn.bodyK [] Try.func5 rfl rfl (fun Γ hP hn => ?_)
 have hm:Try.prog.follows .mixedOrders=true:=by kernel_rfl
 replace hn:Γ.n=27:=hn
 refine sO hP hn hm [] [] [0] [] [] ?_
 refine sO hP hn hm [] [(3,iV .i64 0)] [0,3] [] [] ?_
 refine AWp.seq ?_
 refine sR hP hn hm [(1,.any (iV .i64 (a0.length:Int)))] [(6,.im (.row (a0.map Z7))),(7,iV .i64 (a0.length:Int)),(8,iV .i64 0)] [3,6,7,8] [] [] [((a0.map Z7).length:Int)=(a0.length:Int)] ⟨by rw[Zi],trivial⟩ ?_
 refine AWp.block ?_
 obtain⟨o18,e19,H⟩:=Z4 H
 refine AWp.loop (LWp.conv (inv:=[]) (vk:=[]) (e0:=[]) (t:=⟨[(3,iV .i64 0),(6,.im (.row (a0.map Z7))),(7,iV .i64 (a0.length:Int)),(8,iV .i64 0)],[],0⟩) (by kernel_rfl) ?_)
 refine LWp.mono (Q:=fun e s=>(match (generalizing:=false) o18 with | x17=>e = .exit 0∧s=⟨[(3,iV .i64 x17)],[],0⟩)) (LWp.cv (Zt (fun body hbody => ?_))) ?_
 ·refine         Z0n.l0.partial_correctness a0 (motive:=fun x8 x9 o18=>LWp Γ body (fun e s=>∃ t,Cv Γ s t∧(match (generalizing:=false) o18 with | x17=>e = .exit 0∧t=⟨[(3,iV .i64 x17)],[],0⟩)) ⟨[(3,iV .i64 x8),(6,.im (.row (a0.map Z7     ))),(7,iV .i64 (a0.length:Int)),(8,iV .i64 x9)],[],0⟩) ?_ _ _ _ e19
  clear H e19 o18;intro self ih x8 x9 o18 H
  subst hbody
  refine LWp.round ?_
  refine sO hP hn hm [] [(9,bV (decide (x9<(a0.length:Int))))] [3,6,7,8,9] [] [] ?_
  refine AWp.seq ?_
  refine AWp.cond (decide (x9<(a0.length:Int))) (by kernel_rfl) (fun c10 => ?_) (fun c10 => ?_)
  ·replace H:=iT c10 H
   refine AWp.skip ?_
   refine AWp.seq ?_
   refine AWp.block ?_
   obtain⟨b14,p15,q16,H⟩:=Z0d H
   refine sR hP hn hm [(0,.c (Z7 b14)),(2,.k 1)] [(5,.ptr 1 0 0)] [3,5,6,7,8] [(1,some (.box 38 [iV .i64 b14.f0,iV .i64 b14.f1.f0,iV .i64 b14.f1.f1,iV .i64 b14.f1.f2,iV .u64 b14.f1.f3,iV .u64 b14.f1.f4,iV .i64 b14.f1.f5,.im (.row (b14.f1.f6.map Z0)),.im (.row (b14.f1.f7.map Z0))]))] [1] [_,_] ⟨p15,Zk Z7 q16,trivial⟩ ?_
   refine rG hP hn hm [(4,.any (iV .i64 (b14.f1.f6.length:Int))),(8,.any (iV .i64 (b14.f1.f7.length:Int)))] [(3,iV .i64 (i64.wrap (x8+(i64.wrap ((i64.wrap ((b14.f1.f6.length:Int)+(b14.f1.f7.length:Int)))+(1:Int))))))] [3,6,7,8] [] [] [((b14.f1.f6.map Z0).length:Int)=(b14.f1.f6.length:Int),((b14.f1.f7.map Z0).length:Int)=(b14.f1.f7.length:Int)] ⟨by rw[Zi],by rw[Zi],trivial⟩ ?_
   refine rO hP hn hm [] [(8,iV .i64 (i64.wrap (x9+(1:Int))))] [3,6,7,8] [] [] ?_
   exact LWp.conv [] [] [] (by kernel_rfl) (ih _ _ _ H)
  ·replace H:=iF c10 H
   refine AWp.exit ?_
   obtain rfl:=sj H
   exact lf [] [] [] (by kernel_rfl) ⟨rfl,rfl⟩
 ·obtain⟨x17,rfl⟩:∃ z,z=o18:=⟨_,rfl⟩
  rintro e s ⟨rfl,rfl⟩
  refine sO hP hn hm [] [(2,bV (decide (x17≤(700:Int))))] [2] [] [] ?_
  refine AWp.conv (inv:=[]) (vk:=[]) (e0:=[]) (t:=⟨[(2,bV (decide (x17≤(700:Int))))],[],0⟩) (by kernel_rfl) ?_
  refine AWp.ret ?_
  obtain rfl:=sj H
  exact rl (.inl rfl) rfl (by kernel_rfl) (by kernel_rfl)
def Zq.f (a0:Int):Option (Bool):=((if(decide (a0≥(-4)))=true then(some (decide (a0≤(8:Int)))) else(some false)):Option (Bool))>>=fun x42=>some x42
theorem Zq.ok (a0:Int) (r:Bool) (H:Zq.f a0=some r):Pv.Fn Try.prog 32 [iV .i64 a0] [] 0 (fun x o=>x=bV r∧o=[]):=by
 unfold Zq.f at H
 refine Fn.bodyK [] Try.func32 rfl rfl (fun Γ hP hn => ?_)
 have hm:Try.prog.follows .mixedOrders=true:=by kernel_rfl
 replace hn:Γ.n=9:=hn
 refine sO hP hn hm [] [] [0] [] [] ?_
 refine AWp.seq ?_
 obtain⟨o43,e44,H⟩:=Z4 H
 refine AWp.mono (Q:=fun e s=>(match (generalizing:=false) o43 with | x42=>e = .normal∧s=⟨[(2,bV x42)],[],0⟩)) (AWp.cv ?_) ?_
 ·replace H:=e44;clear e44
  rcases Bool.eq_false_or_eq_true (decide (a0≥(-4))) with c41 | c41
  ·replace H:=iT c41 H
   refine rG hP hn hm [(2,.b true)] [(2,bV (decide (a0≤(8:Int))))] [2] [] [] [_] ⟨c41,trivial⟩ ?_
   obtain rfl:=sj H
   exact lf [] [] [] (by kernel_rfl) ⟨rfl,rfl⟩
  ·replace H:=iF c41 H
   refine rG hP hn hm [(2,.b false)] [(2,bV false)] [2] [] [] [_] ⟨c41,trivial⟩ ?_
   obtain rfl:=sj H
   exact lf [] [] [] (by kernel_rfl) ⟨rfl,rfl⟩
 ·obtain⟨x42,rfl⟩:∃ z,z=o43:=⟨_,rfl⟩
  rintro e s ⟨rfl,rfl⟩
  refine AWp.conv (inv:=[]) (vk:=[]) (e0:=[]) (t:=⟨[(2,bV x42)],[],0⟩) (by kernel_rfl) ?_
  refine AWp.ret ?_
  obtain rfl:=sj H
  exact rl (.inl rfl) rfl (by kernel_rfl) (by kernel_rfl)
def Z1t.f (a0:Int):Option (Unit):=some ()
theorem Z1t.ok (a0:Int) (r:Unit) (H:Z1t.f a0=some r):Pv.Fn Try.prog 77 [iV .i64 a0] [] 0 (fun x o=>x=iV .u64 (u64.wrap (i64.wrap ((8:Int)-a0)))∧o=[]):=by
 unfold Z1t.f at H
 refine Fn.bodyK [] Try.func77 rfl rfl (fun Γ hP hn => ?_)
 have hm:Try.prog.follows .mixedOrders=true:=by kernel_rfl
 replace hn:Γ.n=6:=hn
 refine sO hP hn hm [] [] [0] [] [] ?_
 refine sO hP hn hm [] [(2,iV .u64 (u64.wrap (i64.wrap ((8:Int)-a0))))] [2] [] [] ?_
 refine AWp.conv (inv:=[]) (vk:=[]) (e0:=[]) (t:=⟨[(2,iV .u64 (u64.wrap (i64.wrap ((8:Int)-a0))))],[],0⟩) (by kernel_rfl) ?_
 refine AWp.ret ?_
 obtain rfl:=sj H
 exact rl (.inl rfl) rfl (by kernel_rfl) (by kernel_rfl)
def Z25.f (a0:Int):Option (Int):=(Zq.f a0)>>=fun t69=>if(!t69)=true then(some 0) else((Z1t.f a0)>>=fun t75=>(chk (0≤(u64.wrap (i64.wrap ((8:Int)-a0)))))>>=fun _=>some (Int.fdiv (262144:Int) (2 ^ (min (Int.toNat (u64.wrap (i64.wrap ((8:Int)-a0)))) 64))))
theorem Z25.ok (a0:Int) (r:Int) (H:Z25.f a0=some r):Pv.Fn Try.prog 65 [iV .i64 a0] [] 0 (fun x o=>x=iV .i64 r∧o=[]):=by
 unfold Z25.f at H
 refine Fn.bodyK [] Try.func65 rfl rfl (fun Γ hP hn => ?_)
 have hm:Try.prog.follows .mixedOrders=true:=by kernel_rfl
 replace hn:Γ.n=9:=hn
 refine sO hP hn hm [] [] [0] [] [] ?_
 refine AWp.seq ?_
 obtain⟨t69,e70,H⟩:=Z4 H
 refine sR hP hn hm [(1,.call [] [] [] [] 0 (bV t69) [])] [(5,bV (!t69))] [0,5] [] [] [_,_] ⟨Try.call32,Zq.ok a0 t69 e70,trivial⟩ ?_
 refine AWp.cond (!t69) (by kernel_rfl) (fun c71 => ?_) (fun c71 => ?_)
 ·replace H:=iT c71 H
  refine sO hP hn hm [] [(2,iV .i64 0)] [2] [] [] ?_
  refine AWp.conv (inv:=[]) (vk:=[]) (e0:=[]) (t:=⟨[(2,iV .i64 0)],[],0⟩) (by kernel_rfl) ?_
  refine AWp.ret ?_
  obtain rfl:=sj H
  exact rl (.inl rfl) rfl (by kernel_rfl) (by kernel_rfl)
 ·replace H:=iF c71 H
  refine AWp.skip ?_
  obtain⟨t75,e76,H⟩:=Z4 H
  obtain⟨c77,H⟩:=Z0x H
  refine sR hP hn hm [(1,.call [] [] [] [] 0 (iV .u64 (u64.wrap (i64.wrap ((8:Int)-a0)))) [])] [(2,iV .i64 (Int.fdiv (262144:Int) (2 ^ (min (Int.toNat (u64.wrap (i64.wrap ((8:Int)-a0)))) 64))))] [2] [] [] [_,_,_] ⟨Try.call77,Z1t.ok a0 t75 e76,c77,trivial⟩ ?_
  refine AWp.conv (inv:=[]) (vk:=[]) (e0:=[]) (t:=⟨[(2,iV .i64 (Int.fdiv (262144:Int) (2 ^ (min (Int.toNat (u64.wrap (i64.wrap ((8:Int)-a0)))) 64))))],[],0⟩) (by kernel_rfl) ?_
  refine AWp.ret ?_
  obtain rfl:=sj H
  exact rl (.inl rfl) rfl (by kernel_rfl) (by kernel_rfl)
def Z2a.f (a0:Int):Option (Int):=(Z25.f a0)>>=fun t80=>some (i64.wrap ((i64.wrap (0-t80))+(1:Int)))
theorem Z2a.ok (a0:Int) (r:Int) (H:Z2a.f a0=some r):Pv.Fn Try.prog 64 [iV .i64 a0] [] 0 (fun x o=>x=iV .i64 r∧o=[]):=by
 unfold Z2a.f at H
 refine Fn.bodyK [] Try.func64 rfl rfl (fun Γ hP hn => ?_)
 have hm:Try.prog.follows .mixedOrders=true:=by kernel_rfl
 replace hn:Γ.n=7:=hn
 refine sO hP hn hm [] [] [0] [] [] ?_
 obtain⟨t80,e81,H⟩:=Z4 H
 refine sR hP hn hm [(1,.call [] [] [] [] 0 (iV .i64 t80) [])] [(2,iV .i64 (i64.wrap ((i64.wrap (0-t80))+(1:Int))))] [2] [] [] [_,_] ⟨Try.call65,Z25.ok a0 t80 e81,trivial⟩ ?_
 refine AWp.conv (inv:=[]) (vk:=[]) (e0:=[]) (t:=⟨[(2,iV .i64 (i64.wrap ((i64.wrap (0-t80))+(1:Int))))],[],0⟩) (by kernel_rfl) ?_
 refine AWp.ret ?_
 obtain rfl:=sj H
 exact rl (.inl rfl) rfl (by kernel_rfl) (by kernel_rfl)
def Z2m.f (a0:Int) (a1:Int):Option (Bool):=(((Zq.f a0)>>=fun t87=>if t87=true then((Z2a.f a0)>>=fun t90=>if(decide (a1≥t90))=true then((Z25.f a0)>>=fun t93=>some (decide (a1≤t93))) else(some false)) else(some false)):Option (Bool))>>=fun x95=>some x95
theorem Z2m.ok (a0:Int) (a1:Int) (r:Bool) (H:Z2m.f a0 a1=some r):Pv.Fn Try.prog 57 [iV .i64 a0,iV .i64 a1] [] 0 (fun x o=>x=bV r∧o=[]):=by
 unfold Z2m.f at H
 refine Fn.bodyK [] Try.func57 rfl rfl (fun Γ hP hn => ?_)
 have hm:Try.prog.follows .mixedOrders=true:=by kernel_rfl
 replace hn:Γ.n=19:=hn
 refine sO hP hn hm [] [] [0,1] [] [] ?_
 refine AWp.seq ?_
 obtain⟨o96,e97,H⟩:=Z4 H
 refine AWp.mono (Q:=fun e s=>(match (generalizing:=false) o96 with | x95=>e = .normal∧s=⟨[(4,bV x95)],[],0⟩)) (AWp.cv ?_) ?_
 ·replace H:=e97;clear e97
  obtain⟨t87,e88,H⟩:=Z4 H
  rcases Bool.eq_false_or_eq_true t87 with c89 | c89
  ·replace H:=iT c89 H
   obtain⟨t90,e91,H⟩:=Z4 H
   rcases Bool.eq_false_or_eq_true (decide (a1≥t90)) with c92 | c92
   ·replace H:=iT c92 H
    obtain⟨t93,e94,H⟩:=Z4 H
    refine rG hP hn hm [(1,.call [] [] [] [] 0 (bV t87) []),(2,.b true),(5,.call [] [] [] [] 0 (iV .i64 t90) []),(8,.b true),(11,.call [] [] [] [] 0 (iV .i64 t93) [])] [(4,bV (decide (a1≤t93)))] [4] [] [] [_,_,_,_,_,_,_,_] ⟨Try.call32,Zq.ok a0 t87 e88,c89,Try.call64,Z2a.ok a0 t90 e91,c92,Try.call65,Z25.ok a0 t93 e94,trivial⟩ ?_
    obtain rfl:=sj H
    exact lf [] [] [] (by kernel_rfl) ⟨rfl,rfl⟩
   ·replace H:=iF c92 H
    refine rG hP hn hm [(1,.call [] [] [] [] 0 (bV t87) []),(2,.b true),(5,.call [] [] [] [] 0 (iV .i64 t90) []),(8,.b false)] [(4,bV false)] [4] [] [] [_,_,_,_,_,_] ⟨Try.call32,Zq.ok a0 t87 e88,c89,Try.call64,Z2a.ok a0 t90 e91,c92,trivial⟩ ?_
    obtain rfl:=sj H
    exact lf [] [] [] (by kernel_rfl) ⟨rfl,rfl⟩
  ·replace H:=iF c89 H
   refine rG hP hn hm [(1,.call [] [] [] [] 0 (bV t87) []),(2,.b false)] [(4,bV false)] [4] [] [] [_,_,_] ⟨Try.call32,Zq.ok a0 t87 e88,c89,trivial⟩ ?_
   obtain rfl:=sj H
   exact lf [] [] [] (by kernel_rfl) ⟨rfl,rfl⟩
 ·obtain⟨x95,rfl⟩:∃ z,z=o96:=⟨_,rfl⟩
  rintro e s ⟨rfl,rfl⟩
  refine AWp.conv (inv:=[]) (vk:=[]) (e0:=[]) (t:=⟨[(4,bV x95)],[],0⟩) (by kernel_rfl) ?_
  refine AWp.ret ?_
  obtain rfl:=sj H
  exact rl (.inl rfl) rfl (by kernel_rfl) (by kernel_rfl)
def Z0v.f (a0:Int) (a1:Int):Option (Int):=(Zq.f a0)>>=fun t106=>if(!t106)=true then(some 0) else((Z1t.f a0)>>=fun t112=>(chk (0≤(u64.wrap (i64.wrap ((8:Int)-a0)))))>>=fun _=>some (i64.wrap (a1*2 ^ (min (Int.toNat (u64.wrap (i64.wrap ((8:Int)-a0)))) 64))))
theorem Z0v.ok (a0:Int) (a1:Int) (r:Int) (H:Z0v.f a0 a1=some r):Pv.Fn Try.prog 66 [iV .i64 a0,iV .i64 a1] [] 0 (fun x o=>x=iV .i64 r∧o=[]):=by
 unfold Z0v.f at H
 refine Fn.bodyK [] Try.func66 rfl rfl (fun Γ hP hn => ?_)
 have hm:Try.prog.follows .mixedOrders=true:=by kernel_rfl
 replace hn:Γ.n=12:=hn
 refine sO hP hn hm [] [] [0,1] [] [] ?_
 refine AWp.seq ?_
 obtain⟨t106,e107,H⟩:=Z4 H
 refine sR hP hn hm [(1,.call [] [] [] [] 0 (bV t106) [])] [(7,bV (!t106))] [0,1,7] [] [] [_,_] ⟨Try.call32,Zq.ok a0 t106 e107,trivial⟩ ?_
 refine AWp.cond (!t106) (by kernel_rfl) (fun c108 => ?_) (fun c108 => ?_)
 ·replace H:=iT c108 H
  refine sO hP hn hm [] [(4,iV .i64 0)] [4] [] [] ?_
  refine AWp.conv (inv:=[]) (vk:=[]) (e0:=[]) (t:=⟨[(4,iV .i64 0)],[],0⟩) (by kernel_rfl) ?_
  refine AWp.ret ?_
  obtain rfl:=sj H
  exact rl (.inl rfl) rfl (by kernel_rfl) (by kernel_rfl)
 ·replace H:=iF c108 H
  refine AWp.skip ?_
  obtain⟨t112,e113,H⟩:=Z4 H
  obtain⟨c114,H⟩:=Z0x H
  refine sR hP hn hm [(2,.call [] [] [] [] 0 (iV .u64 (u64.wrap (i64.wrap ((8:Int)-a0)))) [])] [(4,iV .i64 (i64.wrap (a1*2 ^ (min (Int.toNat (u64.wrap (i64.wrap ((8:Int)-a0)))) 64))))] [4] [] [] [_,_,_] ⟨Try.call77,Z1t.ok a0 t112 e113,c114,trivial⟩ ?_
  refine AWp.conv (inv:=[]) (vk:=[]) (e0:=[]) (t:=⟨[(4,iV .i64 (i64.wrap (a1*2 ^ (min (Int.toNat (u64.wrap (i64.wrap ((8:Int)-a0)))) 64))))],[],0⟩) (by kernel_rfl) ?_
  refine AWp.ret ?_
  obtain rfl:=sj H
  exact rl (.inl rfl) rfl (by kernel_rfl) (by kernel_rfl)
def Z27.f (a0:Int) (a1:Int):Option (Int):=(Z0v.f a0 (i64.wrap (a1-(1:Int))))>>=fun t117=>some t117
theorem Z27.ok (a0:Int) (a1:Int) (r:Int) (H:Z27.f a0 a1=some r):Pv.Fn Try.prog 58 [iV .i64 a0,iV .i64 a1] [] 0 (fun x o=>x=iV .i64 r∧o=[]):=by
 unfold Z27.f at H
 refine Fn.bodyK [] Try.func58 rfl rfl (fun Γ hP hn => ?_)
 have hm:Try.prog.follows .mixedOrders=true:=by kernel_rfl
 replace hn:Γ.n=9:=hn
 refine sO hP hn hm [] [] [0,1] [] [] ?_
 obtain⟨t117,e118,H⟩:=Z4 H
 refine sR hP hn hm [(3,.call [] [] [] [] 0 (iV .i64 t117) [])] [(4,iV .i64 t117)] [4] [] [] [_,_] ⟨Try.call66,Z0v.ok a0 (i64.wrap (a1-(1:Int))) t117 e118,trivial⟩ ?_
 refine AWp.conv (inv:=[]) (vk:=[]) (e0:=[]) (t:=⟨[(4,iV .i64 t117)],[],0⟩) (by kernel_rfl) ?_
 refine AWp.ret ?_
 obtain rfl:=sj H
 exact rl (.inl rfl) rfl (by kernel_rfl) (by kernel_rfl)
def Z01.l0 (a0:Zj) (a1:List Z2) (x124:Int):Option (Int ⊕ Unit):=if(decide (x124<(a1.length:Int)))=true then((at? a1 x124)>>=fun b129=>(Z2m.f a0.f1 b129.f0)>>=fun t134=>if(!t134)=true then(some (.inl 4)) else(((if(decide (x124>(0:Int)))=true then((at? a1 (i64.wrap (x124-(1:Int))))>>=fun b142=>some (decide (b142.f0≥b129.f0))) else(some false)):Option (Bool))>>=fun x145=>if x145=true then(some (.inl 32)) else(if(b129.f1==(0:Int))=true then(some (.inl 21)) else((Z27.f a0.f1 b129.f0)>>=fun t150=>if(decide (t150<a0.f2))=true then(some (.inl 31)) else(Z01.l0 a0 a1 (i64.wrap (x124+(1:Int)))))))) else(some (.inr ()))
partial_fixpoint
def Z01.f (a0:Zj) (a1:List Z2):Option (Int):=if(decide ((a1.length:Int)>(512:Int)))=true then(some 9) else((Z01.l0 a0 a1 0)>>=fun oo=>match oo with | .inl rr=>(some rr) | .inr _=>(some 0))
theorem Z01.ok (a0:Zj) (a1:List Z2) (r:Int) (H:Z01.f a0 a1=some r):Pv.Fn Try.prog 33 [.agg (Zn a0),.im (.row (a1.map Z0))] [] 0 (fun x o=>x=iV .i64 r∧o=[]):=by
 unfold Z01.f at H
 refine Fn.bodyK [] Try.func33 rfl rfl (fun Γ hP hn => ?_)
 have hm:Try.prog.follows .mixedOrders=true:=by kernel_rfl
 replace hn:Γ.n=52:=hn
 refine sO hP hn hm [(0,.k 0)] [(2,.ptr 0 0 0)] [1,2] [(0,some (.box 36 (Zn a0)))] [0] ?_
 refine AWp.seq ?_
 refine sR hP hn hm [(1,.any (iV .i64 (a1.length:Int)))] [(9,bV (decide ((a1.length:Int)>(512:Int))))] [1,2,9] [] [0] [((a1.map Z0).length:Int)=(a1.length:Int)] ⟨by rw[Zi],trivial⟩ ?_
 refine AWp.cond (decide ((a1.length:Int)>(512:Int))) (by kernel_rfl) (fun c56 => ?_) (fun c56 => ?_)
 ·replace H:=iT c56 H
  refine sO hP hn hm [] [(4,iV .i64 9)] [4] [] [] ?_
  refine AWp.conv (inv:=[]) (vk:=[]) (e0:=[]) (t:=⟨[(4,iV .i64 9)],[],0⟩) (by kernel_rfl) ?_
  refine AWp.ret ?_
  obtain rfl:=sj H
  exact rl (.inl rfl) rfl (by kernel_rfl) (by kernel_rfl)
 ·replace H:=iF c56 H
  refine AWp.skip ?_
  refine AWp.seq ?_
  refine sR hP hn hm [(1,.any (iV .i64 (a1.length:Int)))] [(10,.im (.row (a1.map Z0))),(11,iV .i64 (a1.length:Int)),(12,iV .i64 0)] [1,2,10,11,12] [] [0] [((a1.map Z0).length:Int)=(a1.length:Int)] ⟨by rw[Zi],trivial⟩ ?_
  refine AWp.block ?_
  obtain⟨o153,e154,H⟩:=Z4 H
  refine AWp.loop (LWp.conv (inv:=[(0,2)]) (vk:=[]) (e0:=[]) (t:=⟨[(1,.im (.row (a1.map Z0))),(2,.ptr 2 0 0),(10,.im (.row (a1.map Z0))),(11,iV .i64 (a1.length:Int)),(12,iV .i64 0)],[(2,some (.box 36 (Zn a0)))],0⟩) (by kernel_rfl) ?_)
  refine LWp.mono (Q:=fun e s=>(match (generalizing:=false) o153 with | .inl rr=>e = .ret∧s.floor=0∧Z2c Try.prog Try.f33 s=some (iV .i64 rr)∧([]:List (Nat×Option MObj))=[] | .inr _=>e = .exit 0∧s=⟨[],[],0⟩)) (LWp.cv (Zt (fun body hbody => ?_))) ?_
  ·refine            Z01.l0.partial_correctness a0 a1 (motive:=fun x124 o153=>LWp Γ body (fun e s=>∃ t,Cv Γ s t∧(match (generalizing:=false) o153 with | .inl rr=>e = .ret∧t.floor=0∧Z2c   Try.prog Try.f33 t=some (iV .i64 rr)∧([]:List (Nat×Option MObj))=[] | .inr _=>e = .exit 0∧t=⟨[],[],0⟩)) ⟨[(1,.im (.row (a1.map Z0     ))),(2,.ptr 2 0 0),(10,.im (.row (a1.map Z0     ))),(11,iV .i64 (a1.length:Int)),(12,iV .i64 x124)],[(2,some (.box 36 (Zn    a0)))],0⟩) ?_ _ _ e154
   clear H e154 o153;intro self ih x124 o153 H
   subst hbody
   refine LWp.round ?_
   refine sO hP hn hm [] [(13,bV (decide (x124<(a1.length:Int))))] [1,2,10,11,12,13] [] [2] ?_
   refine AWp.seq ?_
   refine AWp.cond (decide (x124<(a1.length:Int))) (by kernel_rfl) (fun c125 => ?_) (fun c125 => ?_)
   ·replace H:=iT c125 H
    refine AWp.skip ?_
    refine AWp.seq ?_
    refine AWp.block ?_
    obtain⟨b129,p130,q131,H⟩:=Z0d H
    refine sR hP hn hm [(1,.c (Z0 b129)),(3,.k 3)] [(5,iV .i64 x124),(6,.ptr 3 0 0)] [1,2,5,6,10,11,12] [(3,some (.box 78 (Z1o b129)))] [2,3] [_,_] ⟨p130,Zk Z0 q131,trivial⟩ ?_
    refine AWp.block ?_
    obtain⟨t134,e135,H⟩:=Z4 H
    refine sR hP hn hm [(4,.call [] [] [] [] 0 (bV t134) [])] [(17,bV (!t134))] [1,2,5,6,10,11,12,17] [] [2,3] [_,_] ⟨Try.call57,Z2m.ok a0.f1 b129.f0 t134 e135,trivial⟩ ?_
    refine AWp.cond (!t134) (by kernel_rfl) (fun c136 => ?_) (fun c136 => ?_)
    ·replace H:=iT c136 H
     refine sO hP hn hm [] [(4,iV .i64 4)] [4] [] [] ?_
     refine AWp.conv (inv:=[]) (vk:=[]) (e0:=[]) (t:=⟨[(4,iV .i64 4)],[],0⟩) (by kernel_rfl) ?_
     refine AWp.ret ?_
     obtain rfl:=sj H
     exact rl rfl rfl (by kernel_rfl) (by kernel_rfl)
    ·replace H:=iF c136 H
     refine AWp.seq ?_
     obtain⟨o155,e156,H⟩:=Z4 H
     refine AWp.mono (Q:=fun e s=>(match (generalizing:=false) o155 with | x145=>e = .normal∧s=⟨[(1,.im (.row (a1.map Z0))),(2,.ptr 4 0 0),(6,.ptr 5 0 0),(10,.im (.row (a1.map Z0))),(11,iV .i64 (a1.length:Int)),(12,iV .i64 x124),(24,bV x145)],[(4,some (.box 36 (Zn a0))),(5,some (.box 78 (Z1o b129)))],0⟩)) (AWp.cv ?_) ?_
     ·replace H:=e156;clear e156
      rcases Bool.eq_false_or_eq_true (decide (x124>(0:Int))) with c141 | c141
      ·replace H:=iT c141 H
       obtain⟨b142,p143,q144,H⟩:=Z0d H
       refine rG hP hn hm [(2,.b true),(6,.c (Z0 b142))] [(24,bV (decide (b142.f0≥b129.f0))),(28,.im (.row (a1.map Z0))),(29,iV .i64 x124),(30,iV .i64 (i64.wrap (x124-(1:Int)))),(31,.ip [iI .i64 b142.f0,iI .u64 b142.f1]),(32,.ip [iI .i64 b142.f0,iI .u64 b142.f1]),(33,iV .i64 b142.f0),(34,.ptr 3 0 0),(35,iV .i64 b129.f0),(36,bV (decide (b142.f0≥b129.f0)))] [1,2,6,10,11,12,24,28,29,30,31,32,33,34,35,36] [] [2,3] [_,_,_] ⟨c141,p143,Zk Z0 q144,trivial⟩ ?_
       obtain rfl:=sj H
       exact lf [(2,4),(3,5)] [] [] (by kernel_rfl) ⟨rfl,rfl⟩
      ·replace H:=iF c141 H
       refine rG hP hn hm [(2,.b false)] [(24,bV false)] [1,2,6,10,11,12,24] [] [2,3] [_] ⟨c141,trivial⟩ ?_
       obtain rfl:=sj H
       exact lf [(2,4),(3,5)] [] [] (by kernel_rfl) ⟨rfl,rfl⟩
     ·obtain⟨x145,rfl⟩:∃ z,z=o155:=⟨_,rfl⟩
      rintro e s ⟨rfl,rfl⟩
      refine AWp.cond x145 (by kernel_rfl) (fun c146 => ?_) (fun c146 => ?_)
      ·replace H:=iT c146 H
       refine sO hP hn hm [] [(4,iV .i64 32)] [4] [] [] ?_
       refine AWp.conv (inv:=[]) (vk:=[]) (e0:=[]) (t:=⟨[(4,iV .i64 32)],[],0⟩) (by kernel_rfl) ?_
       refine AWp.ret ?_
       obtain rfl:=sj H
       exact rl rfl rfl (by kernel_rfl) (by kernel_rfl)
      ·replace H:=iF c146 H
       refine sO hP hn hm [] [(38,bV (b129.f1==(0:Int)))] [1,2,6,10,11,12,38] [] [4,5] ?_
       refine AWp.cond (b129.f1==(0:Int)) (by kernel_rfl) (fun c147 => ?_) (fun c147 => ?_)
       ·replace H:=iT c147 H
        refine sO hP hn hm [] [(4,iV .i64 21)] [4] [] [] ?_
        refine AWp.conv (inv:=[]) (vk:=[]) (e0:=[]) (t:=⟨[(4,iV .i64 21)],[],0⟩) (by kernel_rfl) ?_
        refine AWp.ret ?_
        obtain rfl:=sj H
        exact rl rfl rfl (by kernel_rfl) (by kernel_rfl)
       ·replace H:=iF c147 H
        obtain⟨t150,e151,H⟩:=Z4 H
        refine sR hP hn hm [(4,.call [] [] [] [] 0 (iV .i64 t150) [])] [(42,bV (decide (t150<a0.f2)))] [1,2,10,11,12,42] [] [4] [_,_] ⟨Try.call58,Z27.ok a0.f1 b129.f0 t150 e151,trivial⟩ ?_
        refine AWp.cond (decide (t150<a0.f2)) (by kernel_rfl) (fun c152 => ?_) (fun c152 => ?_)
        ·replace H:=iT c152 H
         refine sO hP hn hm [] [(4,iV .i64 31)] [4] [] [] ?_
         refine AWp.conv (inv:=[]) (vk:=[]) (e0:=[]) (t:=⟨[(4,iV .i64 31)],[],0⟩) (by kernel_rfl) ?_
         refine AWp.ret ?_
         obtain rfl:=sj H
         exact rl rfl rfl (by kernel_rfl) (by kernel_rfl)
        ·replace H:=iF c152 H
         refine AWp.skip ?_
         refine rO hP hn hm [] [(12,iV .i64 (i64.wrap (x124+(1:Int))))] [1,2,10,11,12] [] [4] ?_
         exact LWp.conv [(4,2)] [] [] (by kernel_rfl) (ih _ _ H)
   ·replace H:=iF c125 H
    refine AWp.exit ?_
    obtain rfl:=sj H
    exact lf [] [] [] (by kernel_rfl) ⟨rfl,rfl⟩
  ·rcases o153 with rr | _
   ·skip
    rintro e s ⟨rfl,hfl,hres⟩
    obtain rfl:=sj H
    exact Exists.intro _ (And.intro (fun _ _ h=>h) (And.intro (.inl rfl) (And.intro hfl hres)))
   ·skip
    rintro e s ⟨rfl,rfl⟩
    refine sO hP hn hm [] [(4,iV .i64 0)] [4] [] [] ?_
    refine AWp.conv (inv:=[]) (vk:=[]) (e0:=[]) (t:=⟨[(4,iV .i64 0)],[],0⟩) (by kernel_rfl) ?_
    refine AWp.ret ?_
    obtain rfl:=sj H
    exact rl (.inl rfl) rfl (by kernel_rfl) (by kernel_rfl)
def Z1e.l0 (a0:List Int) (x198:Int) (x199:Int):Option ((Int×Int) ⊕ Int):=if(decide (x199<(a0.length:Int)))=true then((at? a0 x199)>>=fun b204=>(chk (0≤x198∧0≤b204∧0≤(0:Int)∧(0:Int)≤(1:Int)))>>=fun _=>if(((x198+b204+(0:Int)) / 18446744073709551616) != (0:Int))=true then(some (.inl (0,5))) else(Z1e.l0 a0 ((x198+b204+(0:Int)) % 18446744073709551616) (i64.wrap (x199+(1:Int))))) else(some (.inr x198))
partial_fixpoint
def Z1e.f (a0:List Int):Option (Int×Int):=(Z1e.l0 a0 0 0)>>=fun oo=>match oo with | .inl rr=>(some rr) | .inr x210=>(some (x210,0))
theorem Z1e.ok (a0:List Int) (r:Int×Int) (H:Z1e.f a0=some r):Pv.Fn Try.prog 59 [.im (.row (a0.map (Z1 .u64)))] [] 0 (fun x o=>x = .tup [iV .u64 r.1,iV .i64 r.2]∧o=[]):=by
 unfold Z1e.f at H
 refine Fn.bodyK [] Try.func59 rfl rfl (fun Γ hP hn => ?_)
 have hm:Try.prog.follows .mixedOrders=true:=by kernel_rfl
 replace hn:Γ.n=26:=hn
 refine sO hP hn hm [] [] [0] [] [] ?_
 refine sO hP hn hm [] [(4,iV .u64 0)] [0,4] [] [] ?_
 refine AWp.seq ?_
 refine sR hP hn hm [(1,.any (iV .i64 (a0.length:Int)))] [(9,.im (.row (a0.map (Z1 .u64)))),(10,iV .i64 (a0.length:Int)),(11,iV .i64 0)] [4,9,10,11] [] [] [((a0.map (Z1 .u64)).length:Int)=(a0.length:Int)] ⟨by rw[Zi],trivial⟩ ?_
 refine AWp.block ?_
 obtain⟨o211,e212,H⟩:=Z4 H
 refine AWp.loop (LWp.conv (inv:=[]) (vk:=[]) (e0:=[]) (t:=⟨[(4,iV .u64 0),(9,.im (.row (a0.map (Z1 .u64)))),(10,iV .i64 (a0.length:Int)),(11,iV .i64 0)],[],0⟩) (by kernel_rfl) ?_)
 refine LWp.mono (Q:=fun e s=>(match (generalizing:=false) o211 with | .inl rr=>e = .ret∧s.floor=0∧Z2c Try.prog Try.f59 s=some (.tup [iV .u64 rr.1,iV .i64 rr.2])∧([]:List (Nat×Option MObj))=[] | .inr x210=>e = .exit 0∧s=⟨[(4,iV .u64 x210)],[],0⟩)) (LWp.cv (Zt (fun body hbody => ?_))) ?_
 ·refine       Z1e.l0.partial_correctness a0 (motive:=fun x198 x199 o211=>LWp Γ body (fun e s=>∃ t,Cv Γ s t∧(match (generalizing:=false) o211 with | .inl rr=>e = .ret∧t.floor=0∧Z2c   Try.prog Try.f59 t=some (.tup [iV .u64 rr.1,iV .i64 rr.2])∧([]:List (Nat×Option MObj))=[] | .inr x210=>e = .exit 0∧t=⟨[(4,iV .u64 x210)],[],0⟩)) ⟨[(4,iV .u64 x198),(9,.im (.row (a0.map (Z1     .u64)))),(10,iV .i64 (a0.length:Int)),(11,iV .i64 x199)],[],0⟩) ?_ _ _ _ e212
  clear H e212 o211;intro self ih x198 x199 o211 H
  subst hbody
  refine LWp.round ?_
  refine sO hP hn hm [] [(12,bV (decide (x199<(a0.length:Int))))] [4,9,10,11,12] [] [] ?_
  refine AWp.seq ?_
  refine AWp.cond (decide (x199<(a0.length:Int))) (by kernel_rfl) (fun c200 => ?_) (fun c200 => ?_)
  ·replace H:=iT c200 H
   refine AWp.skip ?_
   refine AWp.seq ?_
   refine AWp.block ?_
   obtain⟨b204,p205,q206,H⟩:=Z0d H
   refine sR hP hn hm [(0,.c ((Z1 .u64) b204))] [(6,iV .u64 b204)] [4,6,9,10,11] [] [] [_,_] ⟨p205,Zk (Z1 .u64) q206,trivial⟩ ?_
   obtain⟨c208,H⟩:=Z0x H
   refine sR hP hn hm [(2,.ext (.tup [iV .u64 ((x198+b204+(0:Int)) % 18446744073709551616),iV .u64 ((x198+b204+(0:Int)) / 18446744073709551616)]))] [(7,iV .u64 ((x198+b204+(0:Int)) % 18446744073709551616)),(8,iV .u64 ((x198+b204+(0:Int)) / 18446744073709551616))] [7,8,9,10,11] [] [] [∀ w,(callFunc 67 ([.int .u64 x198,.int .u64 b204,.int .u64 (0:Int)]:List Value).toArray).run Try.prog w = .ok (.value (.tuple #[.int .u64 ((x198+b204+(0:Int)) % 18446744073709551616),.int .u64 ((x198+b204+(0:Int)) / 18446744073709551616)])) w] ⟨by exact fun w=>x_add64 (fn:=Try.f67) Try.func67 (by kernel_rfl) rfl (by kernel_rfl) (by kernel_rfl) c208 w,trivial⟩ ?_
   refine AWp.seq ?_
   refine sO hP hn hm [] [(22,bV (((x198+b204+(0:Int)) / 18446744073709551616) != (0:Int)))] [7,9,10,11,22] [] [] ?_
   refine AWp.cond (((x198+b204+(0:Int)) / 18446744073709551616) != (0:Int)) (by kernel_rfl) (fun c209 => ?_) (fun c209 => ?_)
   ·replace H:=iT c209 H
    refine sO hP hn hm [] [(2,iV .u64 0),(3,iV .i64 5)] [2,3] [] [] ?_
    refine AWp.conv (inv:=[]) (vk:=[]) (e0:=[]) (t:=⟨[(2,iV .u64 0),(3,iV .i64 5)],[],0⟩) (by kernel_rfl) ?_
    refine AWp.ret ?_
    obtain rfl:=sj H
    exact rl rfl rfl (by kernel_rfl) (by kernel_rfl)
   ·replace H:=iF c209 H
    refine AWp.skip ?_
    refine rO hP hn hm [] [(4,iV .u64 ((x198+b204+(0:Int)) % 18446744073709551616))] [4,9,10,11] [] [] ?_
    refine rO hP hn hm [] [(11,iV .i64 (i64.wrap (x199+(1:Int))))] [4,9,10,11] [] [] ?_
    exact LWp.conv [] [] [] (by kernel_rfl) (ih _ _ _ H)
  ·replace H:=iF c200 H
   refine AWp.exit ?_
   obtain rfl:=sj H
   exact lf [] [] [] (by kernel_rfl) ⟨rfl,rfl⟩
 ·rcases o211 with rr | x210
  ·skip
   rintro e s ⟨rfl,hfl,hres⟩
   obtain rfl:=sj H
   exact Exists.intro _ (And.intro (fun _ _ h=>h) (And.intro (.inl rfl) (And.intro hfl hres)))
  ·skip
   rintro e s ⟨rfl,rfl⟩
   refine sO hP hn hm [] [(2,iV .u64 x210),(3,iV .i64 0)] [2,3] [] [] ?_
   refine AWp.conv (inv:=[]) (vk:=[]) (e0:=[]) (t:=⟨[(2,iV .u64 x210),(3,iV .i64 0)],[],0⟩) (by kernel_rfl) ?_
   refine AWp.ret ?_
   obtain rfl:=sj H
   exact rl (.inl rfl) rfl (by kernel_rfl) (by kernel_rfl)
def Z06.l1 (a0:List (List Z2)) (b239:List Z2) (x234:Int) (x254:Int) (x255:Int):Option ((Int×Int) ⊕ Int):=if(decide (x255<(b239.length:Int)))=true then((at? b239 x255)>>=fun b260=>(Z1e.f [x254,b260.f1])>>=fun t265=>if(t265.2 != (0:Int))=true then(some (.inl (0,t265.2))) else(Z06.l1 a0 b239 x234 t265.1 (i64.wrap (x255+(1:Int))))) else(some (.inr x254))
partial_fixpoint
def Z06.l0 (a0:List (List Z2)) (x233:Int) (x234:Int):Option ((Int×Int) ⊕ Int):=if(decide (x234<(a0.length:Int)))=true then((at? a0 x234)>>=fun b239=>(Z06.l1 a0 b239 x234 x233 0)>>=fun oo=>match oo with | .inl rr=>(some (.inl rr)) | .inr x268=>(Z06.l0 a0 x268 (i64.wrap (x234+(1:Int))))) else(some (.inr x233))
partial_fixpoint
def Z06.f (a0:List (List Z2)):Option (Int×Int):=(Z06.l0 a0 0 0)>>=fun oo=>match oo with | .inl rr=>(some rr) | .inr x269=>(some (x269,0))
theorem Z06.ok (a0:List (List Z2)) (r:Int×Int) (H:Z06.f a0=some r):Pv.Fn Try.prog 34 [.im (.row (a0.map (Z0w Z0)))] [] 0 (fun x o=>x = .tup [iV .u64 r.1,iV .i64 r.2]∧o=[]):=by
 unfold Z06.f at H
 refine Fn.bodyK [] Try.func34 rfl rfl (fun Γ hP hn => ?_)
 have hm:Try.prog.follows .mixedOrders=true:=by kernel_rfl
 replace hn:Γ.n=36:=hn
 refine sO hP hn hm [] [] [0] [] [] ?_
 refine sO hP hn hm [] [(4,iV .u64 0)] [0,4] [] [] ?_
 refine AWp.seq ?_
 refine sR hP hn hm [(1,.any (iV .i64 (a0.length:Int)))] [(10,.im (.row (a0.map (Z0w Z0)))),(11,iV .i64 (a0.length:Int)),(12,iV .i64 0)] [4,10,11,12] [] [] [((a0.map (Z0w Z0)).length:Int)=(a0.length:Int)] ⟨by rw[Zi],trivial⟩ ?_
 refine AWp.block ?_
 obtain⟨o270,e271,H⟩:=Z4 H
 refine AWp.loop (LWp.conv (inv:=[]) (vk:=[]) (e0:=[]) (t:=⟨[(4,iV .u64 0),(10,.im (.row (a0.map (Z0w Z0)))),(11,iV .i64 (a0.length:Int)),(12,iV .i64 0)],[],0⟩) (by kernel_rfl) ?_)
 refine LWp.mono (Q:=fun e s=>(match (generalizing:=false) o270 with | .inl rr=>e = .ret∧s.floor=0∧Z2c Try.prog Try.f34 s=some (.tup [iV .u64 rr.1,iV .i64 rr.2])∧([]:List (Nat×Option MObj))=[] | .inr x269=>e = .exit 0∧s=⟨[(4,iV .u64 x269)],[],0⟩)) (LWp.cv (Zt (fun body hbody => ?_))) ?_
 ·refine          Z06.l0.partial_correctness a0 (motive:=fun x233 x234 o270=>LWp Γ body (fun e s=>∃ t,Cv Γ s t∧(match (generalizing:=false) o270 with | .inl rr=>e = .ret∧t.floor=0∧Z2c   Try.prog Try.f34 t=some (.tup [iV .u64 rr.1,iV .i64 rr.2])∧([]:List (Nat×Option MObj))=[] | .inr x269=>e = .exit 0∧t=⟨[(4,iV .u64 x269)],[],0⟩)) ⟨[(4,iV .u64 x233),(10,.im (.row (a0.map (Z0w    Z0     )))),(11,iV .i64 (a0.length:Int)),(12,iV .i64 x234)],[],0⟩) ?_ _ _ _ e271
  clear H e271 o270;intro self ih x233 x234 o270 H
  subst hbody
  refine LWp.round ?_
  refine sO hP hn hm [] [(13,bV (decide (x234<(a0.length:Int))))] [4,10,11,12,13] [] [] ?_
  refine AWp.seq ?_
  refine AWp.cond (decide (x234<(a0.length:Int))) (by kernel_rfl) (fun c235 => ?_) (fun c235 => ?_)
  ·replace H:=iT c235 H
   refine AWp.skip ?_
   refine AWp.seq ?_
   refine AWp.block ?_
   obtain⟨b239,p240,q241,H⟩:=Z0d H
   refine sR hP hn hm [(0,.c ((Z0w Z0) b239))] [(6,.im (.row (b239.map Z0)))] [4,6,10,11,12] [] [] [_,_] ⟨p240,Zk (Z0w Z0) q241,trivial⟩ ?_
   refine sR hP hn hm [(1,.any (iV .i64 (b239.length:Int)))] [(16,.im (.row (b239.map Z0))),(17,iV .i64 (b239.length:Int)),(18,iV .i64 0)] [4,10,11,12,16,17,18] [] [] [((b239.map Z0).length:Int)=(b239.length:Int)] ⟨by rw[Zi],trivial⟩ ?_
   refine AWp.block ?_
   obtain⟨o272,e273,H⟩:=Z4 H
   refine AWp.loop (LWp.conv (inv:=[]) (vk:=[]) (e0:=[]) (t:=⟨[(4,iV .u64 x233),(10,.im (.row (a0.map (Z0w Z0)))),(11,iV .i64 (a0.length:Int)),(12,iV .i64 x234),(16,.im (.row (b239.map Z0))),(17,iV .i64 (b239.length:Int)),(18,iV .i64 0)],[],0⟩) (by kernel_rfl) ?_)
   refine LWp.mono (Q:=fun e s=>(match (generalizing:=false) o272 with | .inl rr=>e = .ret∧s.floor=0∧Z2c Try.prog Try.f34 s=some (.tup [iV .u64 rr.1,iV .i64 rr.2])∧([]:List (Nat×Option MObj))=[] | .inr x268=>e = .exit 2∧s=⟨[(4,iV .u64 x268),(10,.im (.row (a0.map (Z0w Z0)))),(11,iV .i64 (a0.length:Int)),(12,iV .i64 x234)],[],0⟩)) (LWp.cv (Zt (fun body hbody => ?_))) ?_
   ·refine          Z06.l1.partial_correctness a0 b239 x234 (motive:=fun x254 x255 o272=>LWp Γ body (fun e s=>∃ t,Cv Γ s t∧(match (generalizing:=false) o272 with | .inl rr=>e = .ret∧t.floor=0∧Z2c   Try.prog Try.f34 t=some (.tup [iV .u64 rr.1,iV .i64 rr.2])∧([]:List (Nat×Option MObj))=[] | .inr x268=>e = .exit 2∧t=⟨[(4,iV .u64 x268),(10,.im (.row (a0.map (Z0w    Z0     )))),(11,iV .i64 (a0.length:Int)),(12,iV .i64 x234)],[],0⟩)) ⟨[(4,iV .u64 x254),(10,.im (.row (a0.map (Z0w    Z0     )))),(11,iV .i64 (a0.length:Int)),(12,iV .i64 x234),(16,.im (.row (b239.map Z0     ))),(17,iV .i64 (b239.length:Int)),(18,iV .i64 x255)],[],0⟩) ?_ _ _ _ e273
    clear H e273 o272;intro self ih x254 x255 o272 H
    subst hbody
    refine LWp.round ?_
    refine sO hP hn hm [] [(19,bV (decide (x255<(b239.length:Int))))] [4,10,11,12,16,17,18,19] [] [] ?_
    refine AWp.seq ?_
    refine AWp.cond (decide (x255<(b239.length:Int))) (by kernel_rfl) (fun c256 => ?_) (fun c256 => ?_)
    ·replace H:=iT c256 H
     refine AWp.skip ?_
     refine AWp.seq ?_
     refine AWp.block ?_
     obtain⟨b260,p261,q262,H⟩:=Z0d H
     refine sR hP hn hm [(0,.c (Z0 b260)),(2,.k 6)] [(8,.ptr 6 0 0)] [4,8,10,11,12,16,17,18] [(6,some (.box 78 (Z1o b260)))] [6] [_,_] ⟨p261,Zk Z0 q262,trivial⟩ ?_
     refine sO hP hn hm [] [] [4,8,10,11,12,16,17,18] [] [6] ?_
     obtain⟨t265,e266,H⟩:=Z4 H
     refine sR hP hn hm [(3,.app 7 ([x254,b260.f1].map (Z1 .u64))),(4,.call [] [] [7] [] 0 (.tup [iV .u64 t265.1,iV .i64 t265.2]) [])] [(4,iV .u64 t265.1),(9,iV .i64 t265.2)] [4,9,10,11,12,16,17,18] [] [] [[x254,b260.f1].map (Z1 .u64)=[[iI .u64 x254],[iI .u64 b260.f1]],_,_] ⟨by exact rfl,Try.call59,Z1e.ok [x254,b260.f1] t265 e266,trivial⟩ ?_
     refine sO hP hn hm [] [(31,bV (t265.2 != (0:Int)))] [4,9,10,11,12,16,17,18,31] [] [] ?_
     refine AWp.cond (t265.2 != (0:Int)) (by kernel_rfl) (fun c267 => ?_) (fun c267 => ?_)
     ·replace H:=iT c267 H
      refine sO hP hn hm [] [(2,iV .u64 0),(3,iV .i64 t265.2)] [2,3] [] [] ?_
      refine AWp.conv (inv:=[]) (vk:=[]) (e0:=[]) (t:=⟨[(2,iV .u64 0),(3,iV .i64 t265.2)],[],0⟩) (by kernel_rfl) ?_
      refine AWp.ret ?_
      obtain rfl:=sj H
      exact rl rfl rfl (by kernel_rfl) (by kernel_rfl)
     ·replace H:=iF c267 H
      refine AWp.skip ?_
      refine rO hP hn hm [] [(18,iV .i64 (i64.wrap (x255+(1:Int))))] [4,10,11,12,16,17,18] [] [] ?_
      exact LWp.conv [] [] [] (by kernel_rfl) (ih _ _ _ H)
    ·replace H:=iF c256 H
     refine AWp.exit ?_
     obtain rfl:=sj H
     exact lf [] [] [] (by kernel_rfl) ⟨rfl,rfl⟩
   ·rcases o272 with rr | x268
    ·skip
     rintro e s ⟨rfl,hfl,hres⟩
     obtain rfl:=sj H
     exact Exists.intro _ (And.intro (fun _ _ h=>h) (And.intro rfl (And.intro hfl hres)))
    ·skip
     rintro e s ⟨rfl,rfl⟩
     refine rO hP hn hm [] [(12,iV .i64 (i64.wrap (x234+(1:Int))))] [4,10,11,12] [] [] ?_
     exact LWp.conv [] [] [] (by kernel_rfl) (ih _ _ _ H)
  ·replace H:=iF c235 H
   refine AWp.exit ?_
   obtain rfl:=sj H
   exact lf [] [] [] (by kernel_rfl) ⟨rfl,rfl⟩
 ·rcases o270 with rr | x269
  ·skip
   rintro e s ⟨rfl,hfl,hres⟩
   obtain rfl:=sj H
   exact Exists.intro _ (And.intro (fun _ _ h=>h) (And.intro (.inl rfl) (And.intro hfl hres)))
  ·skip
   rintro e s ⟨rfl,rfl⟩
   refine sO hP hn hm [] [(2,iV .u64 x269),(3,iV .i64 0)] [2,3] [] [] ?_
   refine AWp.conv (inv:=[]) (vk:=[]) (e0:=[]) (t:=⟨[(2,iV .u64 x269),(3,iV .i64 0)],[],0⟩) (by kernel_rfl) ?_
   refine AWp.ret ?_
   obtain rfl:=sj H
   exact rl (.inl rfl) rfl (by kernel_rfl) (by kernel_rfl)
def Z02.l0 (a0:Zj) (x162:Int):Option (Int ⊕ Unit):=if(decide (x162<(2:Int)))=true then((((chk (0≤x162∧x162<(2:Int)))>>=fun _=>if(x162==(0:Int))=true then(some a0.f6) else(some a0.f7)):Option (List Z2))>>=fun x168=>(Z01.f a0 x168)>>=fun t171=>if(t171 != (0:Int))=true then(some (.inl t171)) else(Z02.l0 a0 (i64.wrap (x162+(1:Int))))) else(some (.inr ()))
partial_fixpoint
def Z02.f (a0:Zj):Option (Int):=((if(a0.f0 != (0:Int))=true then(some (a0.f0 != (1:Int))) else(some false)):Option (Bool))>>=fun x38=>if x38=true then(some 25) else((Zq.f a0.f1)>>=fun t47=>if(!t47)=true then(some 20) else(((if(a0.f2 != (-524288))=true then(if(decide (a0.f2≤(-262144)))=true then(some true) else(some (decide (a0.f2>(262144:Int))))) else(some false)):Option (Bool))>>=fun x54=>if x54=true then(some 31) else((Z02.l0 a0 0)>>=fun oo=>match oo with | .inl rr=>(some rr) | .inr _=>((Z06.f [a0.f6,a0.f7,[(⟨0,a0.f3⟩:Z2)]])>>=fun t276=>if(t276.2 != (0:Int))=true then(some t276.2) else(if(t276.1 != a0.f4)=true then(some 21) else(some 0))))))
theorem Z02.ok (a0:Zj) (r:Int) (H:Z02.f a0=some r):Pv.Fn Try.prog 11 [.agg (Zn a0)] [] 0 (fun x o=>x=iV .i64 r∧o=[]):=by
 unfold Z02.f at H
 refine Fn.bodyK [] Try.func11 rfl rfl (fun Γ hP hn => ?_)
 have hm:Try.prog.follows .mixedOrders=true:=by kernel_rfl
 replace hn:Γ.n=73:=hn
 refine sO hP hn hm [(0,.k 0)] [(1,.ptr 0 0 0)] [1] [(0,some (.box 36 (Zn a0)))] [0] ?_
 refine AWp.seq ?_
 refine AWp.block ?_
 refine AWp.seq ?_
 obtain⟨o280,e281,H⟩:=Z4 H
 refine AWp.mono (Q:=fun e s=>(match (generalizing:=false) o280 with | x38=>e = .normal∧s=⟨[(1,.ptr 1 0 0),(8,bV x38)],[(1,some (.box 36 (Zn a0)))],0⟩)) (AWp.cv ?_) ?_
 ·replace H:=e281;clear e281
  rcases Bool.eq_false_or_eq_true (a0.f0 != (0:Int)) with c37 | c37
  ·replace H:=iT c37 H
   refine rG hP hn hm [(3,.b true)] [(8,bV (a0.f0 != (1:Int)))] [1,8] [] [0] [_] ⟨c37,trivial⟩ ?_
   obtain rfl:=sj H
   exact lf [(0,1)] [] [] (by kernel_rfl) ⟨rfl,rfl⟩
  ·replace H:=iF c37 H
   refine rG hP hn hm [(3,.b false)] [(8,bV false)] [1,8] [] [0] [_] ⟨c37,trivial⟩ ?_
   obtain rfl:=sj H
   exact lf [(0,1)] [] [] (by kernel_rfl) ⟨rfl,rfl⟩
 ·obtain⟨x38,rfl⟩:∃ z,z=o280:=⟨_,rfl⟩
  rintro e s ⟨rfl,rfl⟩
  refine AWp.cond x38 (by kernel_rfl) (fun c39 => ?_) (fun c39 => ?_)
  ·replace H:=iT c39 H
   refine sO hP hn hm [] [(2,iV .i64 25)] [2] [] [] ?_
   refine AWp.conv (inv:=[]) (vk:=[]) (e0:=[]) (t:=⟨[(2,iV .i64 25)],[],0⟩) (by kernel_rfl) ?_
   refine AWp.ret ?_
   obtain rfl:=sj H
   exact rl (.inl rfl) rfl (by kernel_rfl) (by kernel_rfl)
  ·replace H:=iF c39 H
   obtain⟨t47,e48,H⟩:=Z4 H
   refine sR hP hn hm [(2,.call [] [] [] [] 0 (bV t47) [])] [(17,bV (!t47))] [1,17] [] [1] [_,_] ⟨Try.call32,Zq.ok a0.f1 t47 e48,trivial⟩ ?_
   refine AWp.cond (!t47) (by kernel_rfl) (fun c49 => ?_) (fun c49 => ?_)
   ·replace H:=iT c49 H
    refine sO hP hn hm [] [(2,iV .i64 20)] [2] [] [] ?_
    refine AWp.conv (inv:=[]) (vk:=[]) (e0:=[]) (t:=⟨[(2,iV .i64 20)],[],0⟩) (by kernel_rfl) ?_
    refine AWp.ret ?_
    obtain rfl:=sj H
    exact rl (.inl rfl) rfl (by kernel_rfl) (by kernel_rfl)
   ·replace H:=iF c49 H
    refine AWp.seq ?_
    obtain⟨o282,e283,H⟩:=Z4 H
    refine AWp.mono (Q:=fun e s=>(match (generalizing:=false) o282 with | x54=>e = .normal∧s=⟨[(1,.ptr 2 0 0),(22,bV x54)],[(2,some (.box 36 (Zn a0)))],0⟩)) (AWp.cv ?_) ?_
    ·replace H:=e283;clear e283
     rcases Bool.eq_false_or_eq_true (a0.f2 != (-524288)) with c52 | c52
     ·replace H:=iT c52 H
      rcases Bool.eq_false_or_eq_true (decide (a0.f2≤(-262144))) with c53 | c53
      ·replace H:=iT c53 H
       refine rG hP hn hm [(3,.b true),(7,.b true)] [(22,bV true)] [1,22] [] [1] [_,_] ⟨c52,c53,trivial⟩ ?_
       obtain rfl:=sj H
       exact lf [(1,2)] [] [] (by kernel_rfl) ⟨rfl,rfl⟩
      ·replace H:=iF c53 H
       refine rG hP hn hm [(3,.b true),(7,.b false)] [(22,bV (decide (a0.f2>(262144:Int))))] [1,22] [] [1] [_,_] ⟨c52,c53,trivial⟩ ?_
       obtain rfl:=sj H
       exact lf [(1,2)] [] [] (by kernel_rfl) ⟨rfl,rfl⟩
     ·replace H:=iF c52 H
      refine rG hP hn hm [(3,.b false)] [(22,bV false)] [1,22] [] [1] [_] ⟨c52,trivial⟩ ?_
      obtain rfl:=sj H
      exact lf [(1,2)] [] [] (by kernel_rfl) ⟨rfl,rfl⟩
    ·obtain⟨x54,rfl⟩:∃ z,z=o282:=⟨_,rfl⟩
     rintro e s ⟨rfl,rfl⟩
     refine AWp.cond x54 (by kernel_rfl) (fun c55 => ?_) (fun c55 => ?_)
     ·replace H:=iT c55 H
      refine sO hP hn hm [] [(2,iV .i64 31)] [2] [] [] ?_
      refine AWp.conv (inv:=[]) (vk:=[]) (e0:=[]) (t:=⟨[(2,iV .i64 31)],[],0⟩) (by kernel_rfl) ?_
      refine AWp.ret ?_
      obtain rfl:=sj H
      exact rl (.inl rfl) rfl (by kernel_rfl) (by kernel_rfl)
     ·replace H:=iF c55 H
      refine AWp.skip ?_
      refine AWp.seq ?_
      refine sO hP hn hm [] [(40,.agg [.im (.row (a0.f6.map Z0)),.im (.row (a0.f7.map Z0))]),(41,iV .i64 0)] [1,40,41] [] [2] ?_
      refine AWp.block ?_
      obtain⟨o284,e285,H⟩:=Z4 H
      refine AWp.loop (LWp.conv (inv:=[(2,3)]) (vk:=[]) (e0:=[]) (t:=⟨[(1,.ptr 3 0 0),(40,.agg [.im (.row (a0.f6.map Z0)),.im (.row (a0.f7.map Z0))]),(41,iV .i64 0)],[(3,some (.box 36 (Zn a0)))],0⟩) (by kernel_rfl) ?_)
      refine LWp.mono (Q:=fun e s=>(match (generalizing:=false) o284 with | .inl rr=>e = .ret∧s.floor=0∧Z2c Try.prog Try.f11 s=some (iV .i64 rr)∧([]:List (Nat×Option MObj))=[] | .inr _=>e = .exit 1∧s=⟨[(1,.ptr 5 0 0)],[(5,some (.box 36 (Zn a0)))],0⟩)) (LWp.cv (Zt (fun body hbody => ?_))) ?_
      ·refine          Z02.l0.partial_correctness a0 (motive:=fun x162 o284=>LWp Γ body (fun e s=>∃ t,Cv Γ s t∧(match (generalizing:=false) o284 with | .inl rr=>e = .ret∧t.floor=0∧Z2c   Try.prog Try.f11 t=some (iV .i64 rr)∧([]:List (Nat×Option MObj))=[] | .inr _=>e = .exit 1∧t=⟨[(1,.ptr 5 0 0)],[(5,some (.box 36 (Zn    a0)))],0⟩)) ⟨[(1,.ptr 3 0 0),(40,.agg [.im (.row (a0.f6.map Z0     )),.im (.row (a0.f7.map Z0     ))]),(41,iV .i64 x162)],[(3,some (.box 36 (Zn    a0)))],0⟩) ?_ _ _ e285
       clear H e285 o284;intro self ih x162 o284 H
       subst hbody
       refine LWp.round ?_
       refine sO hP hn hm [] [(42,bV (decide (x162<(2:Int))))] [1,40,41,42] [] [3] ?_
       refine AWp.seq ?_
       refine AWp.cond (decide (x162<(2:Int))) (by kernel_rfl) (fun c163 => ?_) (fun c163 => ?_)
       ·replace H:=iT c163 H
        refine AWp.skip ?_
        refine AWp.seq ?_
        refine AWp.block ?_
        refine AWp.seq ?_
        obtain⟨o286,e287,H⟩:=Z4 H
        refine AWp.mono (Q:=fun e s=>(match (generalizing:=false) o286 with | x168=>e = .normal∧s=⟨[(1,.ptr 4 0 0),(4,.im (.row (x168.map Z0))),(40,.agg [.im (.row (a0.f6.map Z0)),.im (.row (a0.f7.map Z0))]),(41,iV .i64 x162)],[(4,some (.box 36 (Zn a0)))],0⟩)) (AWp.cv ?_) ?_
        ·replace H:=e287;clear e287
         obtain⟨c166,H⟩:=Z0x H
         rcases Bool.eq_false_or_eq_true (x162==(0:Int)) with c167 | c167
         ·replace H:=iT c167 H
          refine rG hP hn hm [(0,.more (xIdx 0))] [(4,.im (.row (a0.f6.map Z0)))] [1,4,40,41] [] [3] [x162=((0:Nat):Int)] ⟨by exact(by simpa using c167),trivial⟩ ?_
          obtain rfl:=sj H
          exact lf [(3,4)] [] [] (by kernel_rfl) ⟨rfl,rfl⟩
         ·replace H:=iF c167 H
          refine rG hP hn hm [(0,.more (xIdx 1))] [(4,.im (.row (a0.f7.map Z0)))] [1,4,40,41] [] [3] [x162=((1:Nat):Int)] ⟨by have:=c166;simp only[beq_eq_false_iff_ne] at *;omega,trivial⟩ ?_
          obtain rfl:=sj H
          exact lf [(3,4)] [] [] (by kernel_rfl) ⟨rfl,rfl⟩
        ·obtain⟨x168,rfl⟩:∃ z,z=o286:=⟨_,rfl⟩
         rintro e s ⟨rfl,rfl⟩
         obtain⟨t171,e172,H⟩:=Z4 H
         refine sR hP hn hm [(2,.call [] [] [] [] 0 (iV .i64 t171) [])] [(5,iV .i64 t171)] [1,5,40,41] [] [4] [_,_] ⟨Try.call33,Z01.ok a0 x168 t171 e172,trivial⟩ ?_
         refine sO hP hn hm [] [(48,bV (t171 != (0:Int)))] [1,5,40,41,48] [] [4] ?_
         refine AWp.cond (t171 != (0:Int)) (by kernel_rfl) (fun c173 => ?_) (fun c173 => ?_)
         ·replace H:=iT c173 H
          refine sO hP hn hm [] [(2,iV .i64 t171)] [2] [] [] ?_
          refine AWp.conv (inv:=[]) (vk:=[]) (e0:=[]) (t:=⟨[(2,iV .i64 t171)],[],0⟩) (by kernel_rfl) ?_
          refine AWp.ret ?_
          obtain rfl:=sj H
          exact rl rfl rfl (by kernel_rfl) (by kernel_rfl)
         ·replace H:=iF c173 H
          refine AWp.skip ?_
          refine rO hP hn hm [] [(41,iV .i64 (i64.wrap (x162+(1:Int))))] [1,40,41] [] [4] ?_
          exact LWp.conv [(4,3)] [] [] (by kernel_rfl) (ih _ _ H)
       ·replace H:=iF c163 H
        refine AWp.exit ?_
        obtain rfl:=sj H
        exact lf [(3,5)] [] [] (by kernel_rfl) ⟨rfl,rfl⟩
      ·rcases o284 with rr | _
       ·skip
        rintro e s ⟨rfl,hfl,hres⟩
        obtain rfl:=sj H
        exact Exists.intro _ (And.intro (fun _ _ h=>h) (And.intro (.inl rfl) (And.intro hfl hres)))
       ·skip
        rintro e s ⟨rfl,rfl⟩
        obtain⟨t276,e277,H⟩:=Z4 H
        refine sR hP hn hm [(7,.more (xFz (.app 6 ([(⟨0,a0.f3⟩:Z2)].map Z0)))),(8,.app 7 ([a0.f6,a0.f7,[(⟨0,a0.f3⟩:Z2)]].map (Z0w Z0))),(9,.call [] [] [7] [] 0 (.tup [iV .u64 t276.1,iV .i64 t276.2]) [])] [(6,iV .u64 t276.1),(7,iV .i64 t276.2)] [1,6,7] [] [5] [[(⟨0,a0.f3⟩:Z2)].map Z0=[[iI .i64 0,iI .u64 a0.f3]],[a0.f6,a0.f7,[(⟨0,a0.f3⟩:Z2)]].map (Z0w Z0)=[[.row (a0.f6.map Z0)],[.row (a0.f7.map Z0)],[.row ([(⟨0,a0.f3⟩:Z2)].map Z0)]],_,_] ⟨by exact rfl,by exact rfl,Try.call34,Z06.ok [a0.f6,a0.f7,[(⟨0,a0.f3⟩:Z2)]] t276 e277,trivial⟩ ?_
        refine AWp.seq ?_
        refine AWp.block ?_
        refine sO hP hn hm [] [(64,bV (t276.2 != (0:Int)))] [1,6,7,64] [] [5] ?_
        refine AWp.cond (t276.2 != (0:Int)) (by kernel_rfl) (fun c278 => ?_) (fun c278 => ?_)
        ·replace H:=iT c278 H
         refine sO hP hn hm [] [(2,iV .i64 t276.2)] [2] [] [] ?_
         refine AWp.conv (inv:=[]) (vk:=[]) (e0:=[]) (t:=⟨[(2,iV .i64 t276.2)],[],0⟩) (by kernel_rfl) ?_
         refine AWp.ret ?_
         obtain rfl:=sj H
         exact rl (.inl rfl) rfl (by kernel_rfl) (by kernel_rfl)
        ·replace H:=iF c278 H
         refine sO hP hn hm [] [(68,bV (t276.1 != a0.f4))] [68] [] [] ?_
         refine AWp.cond (t276.1 != a0.f4) (by kernel_rfl) (fun c279 => ?_) (fun c279 => ?_)
         ·replace H:=iT c279 H
          refine sO hP hn hm [] [(2,iV .i64 21)] [2] [] [] ?_
          refine AWp.conv (inv:=[]) (vk:=[]) (e0:=[]) (t:=⟨[(2,iV .i64 21)],[],0⟩) (by kernel_rfl) ?_
          refine AWp.ret ?_
          obtain rfl:=sj H
          exact rl (.inl rfl) rfl (by kernel_rfl) (by kernel_rfl)
         ·replace H:=iF c279 H
          refine AWp.skip ?_
          refine sO hP hn hm [] [(2,iV .i64 0)] [2] [] [] ?_
          refine AWp.conv (inv:=[]) (vk:=[]) (e0:=[]) (t:=⟨[(2,iV .i64 0)],[],0⟩) (by kernel_rfl) ?_
          refine AWp.ret ?_
          obtain rfl:=sj H
          exact rl (.inl rfl) rfl (by kernel_rfl) (by kernel_rfl)
def Z24.f (a0:Zj) (a1:Zj):Option (Bool):=((if(a0.f0==a1.f0)=true then(if(a0.f1==a1.f1)=true then(some (a0.f2==a1.f2)) else(some false)) else(some false)):Option (Bool))>>=fun x307=>some x307
theorem Z24.ok (a0:Zj) (a1:Zj) (r:Bool) (H:Z24.f a0 a1=some r):Pv.Fn Try.prog 35 [.agg (Zn a0),.agg (Zn a1)] [] 0 (fun x o=>x=bV r∧o=[]):=by
 unfold Z24.f at H
 refine Fn.bodyK [] Try.func35 rfl rfl (fun Γ hP hn => ?_)
 have hm:Try.prog.follows .mixedOrders=true:=by kernel_rfl
 replace hn:Γ.n=24:=hn
 refine sO hP hn hm [(0,.k 0),(1,.k 1)] [(2,.ptr 0 0 0),(3,.ptr 1 0 0)] [2,3] [(0,some (.box 36 (Zn a0))),(1,some (.box 36 (Zn a1)))] [0,1] ?_
 refine AWp.seq ?_
 obtain⟨o308,e309,H⟩:=Z4 H
 refine AWp.mono (Q:=fun e s=>(match (generalizing:=false) o308 with | x307=>e = .normal∧s=⟨[(4,bV x307)],[],0⟩)) (AWp.cv ?_) ?_
 ·replace H:=e309;clear e309
  rcases Bool.eq_false_or_eq_true (a0.f0==a1.f0) with c305 | c305
  ·replace H:=iT c305 H
   rcases Bool.eq_false_or_eq_true (a0.f1==a1.f1) with c306 | c306
   ·replace H:=iT c306 H
    refine rG hP hn hm [(5,.b true),(12,.b true)] [(4,bV (a0.f2==a1.f2))] [4] [] [] [_,_] ⟨c305,c306,trivial⟩ ?_
    obtain rfl:=sj H
    exact lf [] [] [] (by kernel_rfl) ⟨rfl,rfl⟩
   ·replace H:=iF c306 H
    refine rG hP hn hm [(5,.b true),(12,.b false)] [(4,bV false)] [4] [] [] [_,_] ⟨c305,c306,trivial⟩ ?_
    obtain rfl:=sj H
    exact lf [] [] [] (by kernel_rfl) ⟨rfl,rfl⟩
  ·replace H:=iF c305 H
   refine rG hP hn hm [(5,.b false)] [(4,bV false)] [4] [] [] [_] ⟨c305,trivial⟩ ?_
   obtain rfl:=sj H
   exact lf [] [] [] (by kernel_rfl) ⟨rfl,rfl⟩
 ·obtain⟨x307,rfl⟩:∃ z,z=o308:=⟨_,rfl⟩
  rintro e s ⟨rfl,rfl⟩
  refine AWp.conv (inv:=[]) (vk:=[]) (e0:=[]) (t:=⟨[(4,bV x307)],[],0⟩) (by kernel_rfl) ?_
  refine AWp.ret ?_
  obtain rfl:=sj H
  exact rl (.inl rfl) rfl (by kernel_rfl) (by kernel_rfl)
def Z2g.f (a0:Int) (a1:Int):Option (Int×Int):=if(!((decide (a0<a1))==(decide ((i64.wrap (a0-a1))<(0:Int)))))=true then(some (0,5)) else(some (i64.wrap (a0-a1),0))
theorem Z2g.ok (a0:Int) (a1:Int) (r:Int×Int) (H:Z2g.f a0 a1=some r):Pv.Fn Try.prog 68 [iV .i64 a0,iV .i64 a1] [] 0 (fun x o=>x = .tup [iV .i64 r.1,iV .i64 r.2]∧o=[]):=by
 unfold Z2g.f at H
 refine Fn.bodyK [] Try.func68 rfl rfl (fun Γ hP hn => ?_)
 have hm:Try.prog.follows .mixedOrders=true:=by kernel_rfl
 replace hn:Γ.n=17:=hn
 refine sO hP hn hm [] [] [0,1] [] [] ?_
 refine sO hP hn hm [] [(6,iV .i64 (i64.wrap (a0-a1)))] [0,1,6] [] [] ?_
 refine AWp.seq ?_
 refine sO hP hn hm [] [(15,bV (!((decide (a0<a1))==(decide ((i64.wrap (a0-a1))<(0:Int))))))] [6,15] [] [] ?_
 refine AWp.cond (!((decide (a0<a1))==(decide ((i64.wrap (a0-a1))<(0:Int))))) (by kernel_rfl) (fun c319 => ?_) (fun c319 => ?_)
 ·replace H:=iT c319 H
  refine sO hP hn hm [] [(4,iV .i64 0),(5,iV .i64 5)] [4,5] [] [] ?_
  refine AWp.conv (inv:=[]) (vk:=[]) (e0:=[]) (t:=⟨[(4,iV .i64 0),(5,iV .i64 5)],[],0⟩) (by kernel_rfl) ?_
  refine AWp.ret ?_
  obtain rfl:=sj H
  exact rl (.inl rfl) rfl (by kernel_rfl) (by kernel_rfl)
 ·replace H:=iF c319 H
  refine AWp.skip ?_
  refine sO hP hn hm [] [(4,iV .i64 (i64.wrap (a0-a1))),(5,iV .i64 0)] [4,5] [] [] ?_
  refine AWp.conv (inv:=[]) (vk:=[]) (e0:=[]) (t:=⟨[(4,iV .i64 (i64.wrap (a0-a1))),(5,iV .i64 0)],[],0⟩) (by kernel_rfl) ?_
  refine AWp.ret ?_
  obtain rfl:=sj H
  exact rl (.inl rfl) rfl (by kernel_rfl) (by kernel_rfl)
def Z4q.f (a0:Int) (a1:Int):Option (Unit):=(chk (0≤a1))>>=fun _=>some ()
theorem Z4q.ok (a0:Int) (a1:Int) (r:Unit) (H:Z4q.f a0 a1=some r):Pv.Fn Try.prog 90 [iV .i64 a0,iV .u64 a1] [] 0 (fun x o=>x=iV .i64 (i64.wrap (0-(Int.fdiv (i64.wrap (0-a0)) (2 ^ (min (Int.toNat (a1)) 64)))))∧o=[]):=by
 unfold Z4q.f at H
 refine Fn.bodyK [] Try.func90 rfl rfl (fun Γ hP hn => ?_)
 have hm:Try.prog.follows .mixedOrders=true:=by kernel_rfl
 replace hn:Γ.n=10:=hn
 refine sO hP hn hm [] [] [0,1] [] [] ?_
 obtain⟨c359,H⟩:=Z0x H
 refine sR hP hn hm [] [(4,iV .i64 (i64.wrap (0-(Int.fdiv (i64.wrap (0-a0)) (2 ^ (min (Int.toNat (a1)) 64))))))] [4] [] [] [_] ⟨c359,trivial⟩ ?_
 refine AWp.conv (inv:=[]) (vk:=[]) (e0:=[]) (t:=⟨[(4,iV .i64 (i64.wrap (0-(Int.fdiv (i64.wrap (0-a0)) (2 ^ (min (Int.toNat (a1)) 64))))))],[],0⟩) (by kernel_rfl) ?_
 refine AWp.ret ?_
 obtain rfl:=sj H
 exact rl (.inl rfl) rfl (by kernel_rfl) (by kernel_rfl)
def Z2x.f (a0:Int) (a1:Int) (a2:Int):Option (Int×Int):=(((Zq.f a0)>>=fun t345=>if(!t345)=true then(some true) else((Zq.f a1)>>=fun t348=>if(!t348)=true then(some true) else(some (decide (a1>a0))))):Option (Bool))>>=fun x351=>if x351=true then(some (0,20)) else((Z2m.f a0 a2)>>=fun t355=>if(!t355)=true then(some (0,4)) else((Z4q.f a2 (u64.wrap (i64.wrap (a0-a1))))>>=fun t362=>some (i64.wrap (0-(Int.fdiv (i64.wrap (0-a2)) (2 ^ (min (Int.toNat ((u64.wrap (i64.wrap (a0-a1))))) 64)))),0)))
theorem Z2x.ok (a0:Int) (a1:Int) (a2:Int) (r:Int×Int) (H:Z2x.f a0 a1 a2=some r):Pv.Fn Try.prog 86 [iV .i64 a0,iV .i64 a1,iV .i64 a2] [] 0 (fun x o=>x = .tup [iV .i64 r.1,iV .i64 r.2]∧o=[]):=by
 unfold Z2x.f at H
 refine Fn.bodyK [] Try.func86 rfl rfl (fun Γ hP hn => ?_)
 have hm:Try.prog.follows .mixedOrders=true:=by kernel_rfl
 replace hn:Γ.n=33:=hn
 refine sO hP hn hm [] [] [0,1,2] [] [] ?_
 refine AWp.seq ?_
 refine AWp.block ?_
 refine AWp.seq ?_
 obtain⟨o364,e365,H⟩:=Z4 H
 refine AWp.mono (Q:=fun e s=>(match (generalizing:=false) o364 with | x351=>e = .normal∧s=⟨[(0,iV .i64 a0),(1,iV .i64 a1),(2,iV .i64 a2),(8,bV x351)],[],0⟩)) (AWp.cv ?_) ?_
 ·replace H:=e365;clear e365
  obtain⟨t345,e346,H⟩:=Z4 H
  rcases Bool.eq_false_or_eq_true (!t345) with c347 | c347
  ·replace H:=iT c347 H
   refine rG hP hn hm [(1,.call [] [] [] [] 0 (bV t345) []),(3,.b true)] [(8,bV true)] [0,1,2,8] [] [] [_,_,_] ⟨Try.call32,Zq.ok a0 t345 e346,c347,trivial⟩ ?_
   obtain rfl:=sj H
   exact lf [] [] [] (by kernel_rfl) ⟨rfl,rfl⟩
  ·replace H:=iF c347 H
   obtain⟨t348,e349,H⟩:=Z4 H
   rcases Bool.eq_false_or_eq_true (!t348) with c350 | c350
   ·replace H:=iT c350 H
    refine rG hP hn hm [(1,.call [] [] [] [] 0 (bV t345) []),(3,.b false),(5,.call [] [] [] [] 0 (bV t348) []),(8,.b true)] [(8,bV true)] [0,1,2,8] [] [] [_,_,_,_,_,_] ⟨Try.call32,Zq.ok a0 t345 e346,c347,Try.call32,Zq.ok a1 t348 e349,c350,trivial⟩ ?_
    obtain rfl:=sj H
    exact lf [] [] [] (by kernel_rfl) ⟨rfl,rfl⟩
   ·replace H:=iF c350 H
    refine rG hP hn hm [(1,.call [] [] [] [] 0 (bV t345) []),(3,.b false),(5,.call [] [] [] [] 0 (bV t348) []),(8,.b false)] [(8,bV (decide (a1>a0)))] [0,1,2,8] [] [] [_,_,_,_,_,_] ⟨Try.call32,Zq.ok a0 t345 e346,c347,Try.call32,Zq.ok a1 t348 e349,c350,trivial⟩ ?_
    obtain rfl:=sj H
    exact lf [] [] [] (by kernel_rfl) ⟨rfl,rfl⟩
 ·obtain⟨x351,rfl⟩:∃ z,z=o364:=⟨_,rfl⟩
  rintro e s ⟨rfl,rfl⟩
  refine AWp.cond x351 (by kernel_rfl) (fun c352 => ?_) (fun c352 => ?_)
  ·replace H:=iT c352 H
   refine sO hP hn hm [] [(6,iV .i64 0),(7,iV .i64 20)] [6,7] [] [] ?_
   refine AWp.conv (inv:=[]) (vk:=[]) (e0:=[]) (t:=⟨[(6,iV .i64 0),(7,iV .i64 20)],[],0⟩) (by kernel_rfl) ?_
   refine AWp.ret ?_
   obtain rfl:=sj H
   exact rl (.inl rfl) rfl (by kernel_rfl) (by kernel_rfl)
  ·replace H:=iF c352 H
   obtain⟨t355,e356,H⟩:=Z4 H
   refine sR hP hn hm [(2,.call [] [] [] [] 0 (bV t355) [])] [(22,bV (!t355))] [0,1,2,22] [] [] [_,_] ⟨Try.call57,Z2m.ok a0 a2 t355 e356,trivial⟩ ?_
   refine AWp.cond (!t355) (by kernel_rfl) (fun c357 => ?_) (fun c357 => ?_)
   ·replace H:=iT c357 H
    refine sO hP hn hm [] [(6,iV .i64 0),(7,iV .i64 4)] [6,7] [] [] ?_
    refine AWp.conv (inv:=[]) (vk:=[]) (e0:=[]) (t:=⟨[(6,iV .i64 0),(7,iV .i64 4)],[],0⟩) (by kernel_rfl) ?_
    refine AWp.ret ?_
    obtain rfl:=sj H
    exact rl (.inl rfl) rfl (by kernel_rfl) (by kernel_rfl)
   ·replace H:=iF c357 H
    refine AWp.skip ?_
    obtain⟨t362,e363,H⟩:=Z4 H
    refine sR hP hn hm [(5,.call [] [] [] [] 0 (iV .i64 (i64.wrap (0-(Int.fdiv (i64.wrap (0-a2)) (2 ^ (min (Int.toNat ((u64.wrap (i64.wrap (a0-a1))))) 64)))))) [])] [(6,iV .i64 (i64.wrap (0-(Int.fdiv (i64.wrap (0-a2)) (2 ^ (min (Int.toNat ((u64.wrap (i64.wrap (a0-a1))))) 64)))))),(7,iV .i64 0)] [6,7] [] [] [_,_] ⟨Try.call90,Z4q.ok a2 (u64.wrap (i64.wrap (a0-a1))) t362 e363,trivial⟩ ?_
    refine AWp.conv (inv:=[]) (vk:=[]) (e0:=[]) (t:=⟨[(6,iV .i64 (i64.wrap (0-(Int.fdiv (i64.wrap (0-a2)) (2 ^ (min (Int.toNat ((u64.wrap (i64.wrap (a0-a1))))) 64)))))),(7,iV .i64 0)],[],0⟩) (by kernel_rfl) ?_
    refine AWp.ret ?_
    obtain rfl:=sj H
    exact rl (.inl rfl) rfl (by kernel_rfl) (by kernel_rfl)
def Z11.l0 (a0:List Z2) (a1:Int) (a2:Int) (x372:List Z2) (x373:Int):Option (List Z2):=if(decide (x373<(a0.length:Int)))=true then((at? a0 x373)>>=fun b378=>(Z2x.f a1 a2 b378.f0)>>=fun t383=>(chk ((x372.length+[(⟨t383.1,b378.f1⟩:Z2)].length)*16≤140737488355328))>>=fun _=>Z11.l0 a0 a1 a2 (x372++[(⟨t383.1,b378.f1⟩:Z2)]) (i64.wrap (x373+(1:Int)))) else(some x372)
partial_fixpoint
def Z11.f (a0:List Z2) (a1:Int) (a2:Int):Option (List Z2):=(Z11.l0 a0 a1 a2 [] 0)>>=fun x387=>some x387
theorem Z11.ok (a0:List Z2) (a1:Int) (a2:Int) (r:List Z2) (H:Z11.f a0 a1 a2=some r):Pv.Fn Try.prog 81 [.im (.row (a0.map Z0)),iV .i64 a1,iV .i64 a2] [] 0 (fun x o=>x = .own 0∧o=[(0,some (.row 2 78 (r.map Z0)))]):=by
 unfold Z11.f at H
 refine Fn.bodyK [0] Try.func81 rfl rfl (fun Γ hP hn => ?_)
 have hm:Try.prog.follows .mixedOrders=true:=by kernel_rfl
 replace hn:Γ.n=31:=hn
 refine sO hP hn hm [] [] [0,1,2] [] [] ?_
 refine sO hP hn hm [] [(7,.none0)] [0,1,2,7] [] [] ?_
 refine AWp.seq ?_
 refine sR hP hn hm [(1,.any (iV .i64 (a0.length:Int)))] [(10,.im (.row (a0.map Z0))),(11,iV .i64 (a0.length:Int)),(12,iV .i64 0)] [1,2,7,10,11,12] [] [] [((a0.map Z0).length:Int)=(a0.length:Int)] ⟨by rw[Zi],trivial⟩ ?_
 refine AWp.block ?_
 obtain⟨o388,e389,H⟩:=Z4 H
 refine AWp.loop (LWp.conv (inv:=[]) (vk:=[]) (e0:=[3]) (t:=⟨[(1,iV .i64 a1),(2,iV .i64 a2),(7,.own 3),(10,.im (.row (a0.map Z0))),(11,iV .i64 (a0.length:Int)),(12,iV .i64 0)],[(3,some (.row 2 78 ([].map Z0)))],0⟩) (by kernel_rfl) ?_)
 refine LWp.mono (Q:=fun e s=>(match (generalizing:=false) o388 with | x387=>e = .exit 0∧s=⟨[(7,.own 7)],[(7,some (.row 2 78 (x387.map Z0)))],0⟩)) (LWp.cv (Zt (fun body hbody => ?_))) ?_
 ·refine         Z11.l0.partial_correctness a0 a1 a2 (motive:=fun x372 x373 o388=>LWp Γ body (fun e s=>∃ t,Cv Γ s t∧(match (generalizing:=false) o388 with | x387=>e = .exit 0∧t=⟨[(7,.own 7)],[(7,some (.row 2 78 (x387.map Z0     )))],0⟩)) ⟨[(1,iV .i64 a1),(2,iV .i64 a2),(7,.own 3),(10,.im (.row (a0.map Z0     ))),(11,iV .i64 (a0.length:Int)),(12,iV .i64 x373)],[(3,some (.row 2 78 (x372.map Z0     )))],0⟩) ?_ _ _ _ e389
  clear H e389 o388;intro self ih x372 x373 o388 H
  subst hbody
  refine LWp.round ?_
  refine sO hP hn hm [] [(13,bV (decide (x373<(a0.length:Int))))] [1,2,7,10,11,12,13] [] [3] ?_
  refine AWp.seq ?_
  refine AWp.cond (decide (x373<(a0.length:Int))) (by kernel_rfl) (fun c374 => ?_) (fun c374 => ?_)
  ·replace H:=iT c374 H
   refine AWp.skip ?_
   refine AWp.seq ?_
   refine AWp.block ?_
   obtain⟨b378,p379,q380,H⟩:=Z0d H
   refine sR hP hn hm [(0,.c (Z0 b378)),(2,.k 4)] [(9,.ptr 4 0 0)] [1,2,7,9,10,11,12] [(4,some (.box 78 (Z1o b378)))] [3,4] [_,_] ⟨p379,Zk Z0 q380,trivial⟩ ?_
   obtain⟨t383,e384,H⟩:=Z4 H
   refine sR hP hn hm [(4,.call [] [] [] [] 0 (.tup [iV .i64 t383.1,iV .i64 t383.2]) [])] [] [1,2,7,9,10,11,12] [(4,some (.box 78 (Z1o ⟨t383.1,b378.f1⟩)))] [3,4] [_,_] ⟨Try.call86,Z2x.ok a1 a2 b378.f0 t383 e384,trivial⟩ ?_
   obtain⟨c386,H⟩:=Z0x H
   refine rG hP hn hm [(2,.app 5 ([(⟨t383.1,b378.f1⟩:Z2)].map Z0)),(3,.app 6 ((x372++[(⟨t383.1,b378.f1⟩:Z2)]).map Z0))] [(7,.own 6)] [1,2,7,10,11,12] [(6,some (.row 2 78 ((x372++[(⟨t383.1,b378.f1⟩:Z2)]).map Z0)))] [6] [[(⟨t383.1,b378.f1⟩:Z2)].map Z0=[[iI .i64 t383.1,iI .u64 b378.f1]],(x372++[(⟨t383.1,b378.f1⟩:Z2)]).map Z0=(x372.map Z0)++([(⟨t383.1,b378.f1⟩:Z2)].map Z0),∀ c∈([(⟨t383.1,b378.f1⟩:Z2)].map Z0),c.length=2,∀ c∈([(⟨t383.1,b378.f1⟩:Z2)].map Z0),Z0k (c.map .im)=true,((x372.map Z0).length+([(⟨t383.1,b378.f1⟩:Z2)].map Z0).length)*16≤140737488355328] ⟨by exact rfl,by simp,by exact Z0o _ _ _ (fun _=>rfl),by exact Z0p _ _ (fun _=>rfl),by simpa using c386,trivial⟩ ?_
   refine rO hP hn hm [] [(12,iV .i64 (i64.wrap (x373+(1:Int))))] [1,2,7,10,11,12] [] [6] ?_
   exact LWp.conv [(6,3)] [] [] (by kernel_rfl) (ih _ _ _ H)
  ·replace H:=iF c374 H
   refine AWp.exit ?_
   obtain rfl:=sj H
   exact lf [(3,7)] [] [] (by kernel_rfl) ⟨rfl,rfl⟩
 ·obtain⟨x387,rfl⟩:∃ z,z=o388:=⟨_,rfl⟩
  rintro e s ⟨rfl,rfl⟩
  refine sO hP hn hm [] [(6,.own 7)] [6] [] [7] ?_
  refine AWp.conv (inv:=[(7,0)]) (vk:=[]) (e0:=[]) (t:=⟨[(6,.own 0)],[(0,some (.row 2 78 (x387.map Z0)))],0⟩) (by kernel_rfl) ?_
  refine AWp.ret ?_
  obtain rfl:=sj H
  exact rl (.inl rfl) rfl (by kernel_rfl) (by kernel_rfl)
def Z10.l0 (a0:Zj) (a1:List Z2) (a2:Int) (x421:Int):Option (Int ⊕ Unit):=if(decide (x421<(a1.length:Int)))=true then((at? a1 x421)>>=fun b426=>(((Z27.f a0.f1 b426.f0)>>=fun t434=>if(decide (t434<a2))=true then((Z0v.f a0.f1 b426.f0)>>=fun t437=>some (decide (a2<t437))) else(some false)):Option (Bool))>>=fun x439=>if x439=true then((Z0v.f a0.f1 b426.f0)>>=fun t443=>some (.inl t443)) else(Z10.l0 a0 a1 a2 (i64.wrap (x421+(1:Int))))) else(some (.inr ()))
partial_fixpoint
def Z10.f (a0:Zj) (a1:List Z2) (a2:Int):Option (Int):=(Z10.l0 a0 a1 a2 0)>>=fun oo=>match oo with | .inl rr=>(some rr) | .inr _=>(some a2)
theorem Z10.ok (a0:Zj) (a1:List Z2) (a2:Int) (r:Int) (H:Z10.f a0 a1 a2=some r):Pv.Fn Try.prog 87 [.agg (Zn a0),.im (.row (a1.map Z0)),iV .i64 a2] [] 0 (fun x o=>x=iV .i64 r∧o=[]):=by
 unfold Z10.f at H
 refine Fn.bodyK [] Try.func87 rfl rfl (fun Γ hP hn => ?_)
 have hm:Try.prog.follows .mixedOrders=true:=by kernel_rfl
 replace hn:Γ.n=38:=hn
 refine sO hP hn hm [(0,.k 0)] [(3,.ptr 0 0 0)] [1,2,3] [(0,some (.box 36 (Zn a0)))] [0] ?_
 refine AWp.seq ?_
 refine sR hP hn hm [(1,.any (iV .i64 (a1.length:Int)))] [(9,.im (.row (a1.map Z0))),(10,iV .i64 (a1.length:Int)),(11,iV .i64 0)] [2,3,9,10,11] [] [0] [((a1.map Z0).length:Int)=(a1.length:Int)] ⟨by rw[Zi],trivial⟩ ?_
 refine AWp.block ?_
 obtain⟨o445,e446,H⟩:=Z4 H
 refine AWp.loop (LWp.conv (inv:=[(0,4)]) (vk:=[]) (e0:=[]) (t:=⟨[(2,iV .i64 a2),(3,.ptr 4 0 0),(9,.im (.row (a1.map Z0))),(10,iV .i64 (a1.length:Int)),(11,iV .i64 0)],[(4,some (.box 36 (Zn a0)))],0⟩) (by kernel_rfl) ?_)
 refine LWp.mono (Q:=fun e s=>(match (generalizing:=false) o445 with | .inl rr=>e = .ret∧s.floor=0∧Z2c Try.prog Try.f87 s=some (iV .i64 rr)∧([]:List (Nat×Option MObj))=[] | .inr _=>e = .exit 0∧s=⟨[(2,iV .i64 a2)],[],0⟩)) (LWp.cv (Zt (fun body hbody => ?_))) ?_
 ·refine         Z10.l0.partial_correctness a0 a1 a2 (motive:=fun x421 o445=>LWp Γ body (fun e s=>∃ t,Cv Γ s t∧(match (generalizing:=false) o445 with | .inl rr=>e = .ret∧t.floor=0∧Z2c   Try.prog Try.f87 t=some (iV .i64 rr)∧([]:List (Nat×Option MObj))=[] | .inr _=>e = .exit 0∧t=⟨[(2,iV .i64 a2)],[],0⟩)) ⟨[(2,iV .i64 a2),(3,.ptr 4 0 0),(9,.im (.row (a1.map Z0     ))),(10,iV .i64 (a1.length:Int)),(11,iV .i64 x421)],[(4,some (.box 36 (Zn    a0)))],0⟩) ?_ _ _ e446
  clear H e446 o445;intro self ih x421 o445 H
  subst hbody
  refine LWp.round ?_
  refine sO hP hn hm [] [(12,bV (decide (x421<(a1.length:Int))))] [2,3,9,10,11,12] [] [4] ?_
  refine AWp.seq ?_
  refine AWp.cond (decide (x421<(a1.length:Int))) (by kernel_rfl) (fun c422 => ?_) (fun c422 => ?_)
  ·replace H:=iT c422 H
   refine AWp.skip ?_
   refine AWp.seq ?_
   refine AWp.block ?_
   obtain⟨b426,p427,q428,H⟩:=Z0d H
   refine sR hP hn hm [(0,.c (Z0 b426)),(2,.k 5)] [(8,.ptr 5 0 0)] [2,3,8,9,10,11] [(5,some (.box 78 (Z1o b426)))] [4,5] [_,_] ⟨p427,Zk Z0 q428,trivial⟩ ?_
   refine AWp.seq ?_
   obtain⟨o447,e448,H⟩:=Z4 H
   refine AWp.mono (Q:=fun e s=>(match (generalizing:=false) o447 with | x439=>e = .normal∧s=⟨[(2,iV .i64 a2),(3,.ptr 6 0 0),(8,.ptr 7 0 0),(9,.im (.row (a1.map Z0))),(10,iV .i64 (a1.length:Int)),(11,iV .i64 x421),(30,bV x439)],[(6,some (.box 36 (Zn a0))),(7,some (.box 78 (Z1o b426)))],0⟩)) (AWp.cv ?_) ?_
   ·replace H:=e448;clear e448
    obtain⟨t434,e435,H⟩:=Z4 H
    rcases Bool.eq_false_or_eq_true (decide (t434<a2)) with c436 | c436
    ·replace H:=iT c436 H
     obtain⟨t437,e438,H⟩:=Z4 H
     refine rG hP hn hm [(4,.call [] [] [] [] 0 (iV .i64 t434) []),(7,.b true),(13,.call [] [] [] [] 0 (iV .i64 t437) [])] [(23,iV .i64 a2),(24,.ptr 4 0 1),(25,iV .i64 a0.f1),(26,.ptr 5 0 0),(27,iV .i64 b426.f0),(28,iV .i64 t437),(29,bV (decide (a2<t437))),(30,bV (decide (a2<t437)))] [2,3,8,9,10,11,23,24,25,26,27,28,29,30] [] [4,5] [_,_,_,_,_] ⟨Try.call58,Z27.ok a0.f1 b426.f0 t434 e435,c436,Try.call66,Z0v.ok a0.f1 b426.f0 t437 e438,trivial⟩ ?_
     obtain rfl:=sj H
     exact lf [(4,6),(5,7)] [] [] (by kernel_rfl) ⟨rfl,rfl⟩
    ·replace H:=iF c436 H
     refine rG hP hn hm [(4,.call [] [] [] [] 0 (iV .i64 t434) []),(7,.b false)] [(30,bV false)] [2,3,8,9,10,11,30] [] [4,5] [_,_,_] ⟨Try.call58,Z27.ok a0.f1 b426.f0 t434 e435,c436,trivial⟩ ?_
     obtain rfl:=sj H
     exact lf [(4,6),(5,7)] [] [] (by kernel_rfl) ⟨rfl,rfl⟩
   ·obtain⟨x439,rfl⟩:∃ z,z=o447:=⟨_,rfl⟩
    rintro e s ⟨rfl,rfl⟩
    refine AWp.cond x439 (by kernel_rfl) (fun c440 => ?_) (fun c440 => ?_)
    ·replace H:=iT c440 H
     obtain⟨t443,e444,H⟩:=Z4 H
     refine sR hP hn hm [(4,.call [] [] [] [] 0 (iV .i64 t443) [])] [(6,iV .i64 t443)] [6] [] [] [_,_] ⟨Try.call66,Z0v.ok a0.f1 b426.f0 t443 e444,trivial⟩ ?_
     refine AWp.conv (inv:=[]) (vk:=[]) (e0:=[]) (t:=⟨[(6,iV .i64 t443)],[],0⟩) (by kernel_rfl) ?_
     refine AWp.ret ?_
     obtain rfl:=sj H
     exact rl rfl rfl (by kernel_rfl) (by kernel_rfl)
    ·replace H:=iF c440 H
     refine AWp.skip ?_
     refine rO hP hn hm [] [(11,iV .i64 (i64.wrap (x421+(1:Int))))] [2,3,9,10,11] [] [6] ?_
     exact LWp.conv [(6,4)] [] [] (by kernel_rfl) (ih _ _ H)
  ·replace H:=iF c422 H
   refine AWp.exit ?_
   obtain rfl:=sj H
   exact lf [] [] [] (by kernel_rfl) ⟨rfl,rfl⟩
 ·rcases o445 with rr | _
  ·skip
   rintro e s ⟨rfl,hfl,hres⟩
   obtain rfl:=sj H
   exact Exists.intro _ (And.intro (fun _ _ h=>h) (And.intro (.inl rfl) (And.intro hfl hres)))
  ·skip
   rintro e s ⟨rfl,rfl⟩
   refine sO hP hn hm [] [(6,iV .i64 a2)] [6] [] [] ?_
   refine AWp.conv (inv:=[]) (vk:=[]) (e0:=[]) (t:=⟨[(6,iV .i64 a2)],[],0⟩) (by kernel_rfl) ?_
   refine AWp.ret ?_
   obtain rfl:=sj H
   exact rl (.inl rfl) rfl (by kernel_rfl) (by kernel_rfl)
def Zp.l0 (a0:List Z2) (a1_c0:Int) (a1_c1:Int) (a1_c2:Int) (a1_c4:Int) (a1_c5:Int) (a1_c6:List Z2) (a1_c7:List Z2) (a2_c0:Int) (x477:Int) (x478:List Z2) (x479:Int):Option ((List Z2)×Int):=if(decide (x479<(a0.length:Int)))=true then((at? a0 x479)>>=fun b484=>(Z0v.f a1_c1 b484.f0)>>=fun t489=>((if(decide (t489>a2_c0))=true then((chk ((x478.length+[b484].length)*16≤140737488355328))>>=fun _=>some (x477,x478++[b484])) else((Z1e.f [x477,b484.f1])>>=fun t496=>some (t496.1,x478))):Option (Int×(List Z2)))>>=fun oo=>match oo with | (x498,x499)=>(Zp.l0 a0 a1_c0 a1_c1 a1_c2 a1_c4 a1_c5 a1_c6 a1_c7 a2_c0 x498 x499 (i64.wrap (x479+(1:Int))))) else(some (x478,x477))
partial_fixpoint
def Zp.f (a0:List Z2) (a1_c0:Int) (a1_c1:Int) (a1_c2:Int) (a1_c3:Int) (a1_c4:Int) (a1_c5:Int) (a1_c6:List Z2) (a1_c7:List Z2) (a2_c0:Int):Option ((List Z2)×Int):=(Zp.l0 a0 a1_c0 a1_c1 a1_c2 a1_c4 a1_c5 a1_c6 a1_c7 a2_c0 a1_c3 [] 0)>>=fun oo=>match oo with | (x500,x501)=>(some (x500,x501))
theorem Zp.ok (a0:List Z2) (a1_c0:Int) (a1_c1:Int) (a1_c2:Int) (a1_c3:Int) (a1_c4:Int) (a1_c5:Int) (a1_c6:List Z2) (a1_c7:List Z2) (a2_c0:Int) (r:(List Z2)×Int) (H:Zp.f a0 a1_c0 a1_c1 a1_c2 a1_c3 a1_c4 a1_c5 a1_c6 a1_c7 a2_c0=some r):Pv.Fn Try.prog 88 [.im (.row (a0.map Z0)),.ptr 0 0 0,.ptr 1 0 0] [(0,some (.box 36 (Zn ⟨a1_c0,a1_c1,a1_c2,a1_c3,a1_c4,a1_c5,a1_c6,a1_c7⟩))),(1,some (.box 3 [iV .i64 a2_c0]))] 2 (fun x o=>x = .own 2∧o=[(0,some (.box 36 (Zn ⟨a1_c0,a1_c1,a1_c2,r.2,a1_c4,a1_c5,a1_c6,a1_c7⟩))),(1,some (.box 3 [iV .i64 a2_c0])),(2,some (.row 2 78 (r.1.map Z0)))]):=by
 unfold Zp.f at H
 refine Fn.bodyK [0,1,2] Try.func88 rfl rfl (fun Γ hP hn => ?_)
 have hm:Try.prog.follows .mixedOrders=true:=by kernel_rfl
 replace hn:Γ.n=37:=hn
 refine sO hP hn hm [] [] [0,1,2] [] [0,1] ?_
 refine sO hP hn hm [] [(5,.none0)] [0,1,2,5] [] [0,1] ?_
 refine AWp.seq ?_
 refine sR hP hn hm [(1,.any (iV .i64 (a0.length:Int)))] [(8,.im (.row (a0.map Z0))),(9,iV .i64 (a0.length:Int)),(10,iV .i64 0)] [1,2,5,8,9,10] [] [0,1] [((a0.map Z0).length:Int)=(a0.length:Int)] ⟨by rw[Zi],trivial⟩ ?_
 refine AWp.block ?_
 obtain⟨o502,e503,H⟩:=Z4 H
 refine AWp.loop (LWp.conv (inv:=[(0,0),(1,1)]) (vk:=[]) (e0:=[7]) (t:=⟨[(1,.ptr 0 0 0),(2,.ptr 1 0 0),(5,.own 7),(8,.im (.row (a0.map Z0))),(9,iV .i64 (a0.length:Int)),(10,iV .i64 0)],[(0,some (.box 36 (Zn ⟨a1_c0,a1_c1,a1_c2,a1_c3,a1_c4,a1_c5,a1_c6,a1_c7⟩))),(1,some (.box 3 [iV .i64 a2_c0])),(7,some (.row 2 78 ([].map Z0)))],2⟩) (by kernel_rfl) ?_)
 refine LWp.mono (Q:=fun e s=>(match (generalizing:=false) o502 with | (x500,x501)=>e = .exit 0∧s=⟨[(5,.own 13)],[(0,some (.box 36 (Zn ⟨a1_c0,a1_c1,a1_c2,x501,a1_c4,a1_c5,a1_c6,a1_c7⟩))),(1,some (.box 3 [iV .i64 a2_c0])),(13,some (.row 2 78 (x500.map Z0)))],2⟩)) (LWp.cv (Zt (fun body hbody => ?_))) ?_
 ·refine                   Zp.l0.partial_correctness a0 a1_c0 a1_c1 a1_c2 a1_c4 a1_c5 a1_c6 a1_c7 a2_c0 (motive:=fun x477 x478 x479 o502=>LWp Γ body (fun e s=>∃ t,Cv Γ s t∧(match (generalizing:=false) o502 with | (x500,x501)=>e = .exit 0∧t=⟨[(5,.own 13)],[(0,some (.box 36 (Zn    ⟨a1_c0,a1_c1,a1_c2,x501,a1_c4,a1_c5,a1_c6,a1_c7⟩))),(1,some (.box 3 [iV .i64 a2_c0])),(13,some (.row 2 78 (x500.map Z0     )))],2⟩)) ⟨[(1,.ptr 0 0 0),(2,.ptr 1 0 0),(5,.own 7),(8,.im (.row (a0.map Z0     ))),(9,iV .i64 (a0.length:Int)),(10,iV .i64 x479)],[(0,some (.box 36 (Zn    ⟨a1_c0,a1_c1,a1_c2,x477,a1_c4,a1_c5,a1_c6,a1_c7⟩))),(1,some (.box 3 [iV .i64 a2_c0])),(7,some (.row 2 78 (x478.map Z0     )))],2⟩) ?_ _ _ _ _ e503
  clear H e503 o502;intro self ih x477 x478 x479 o502 H
  subst hbody
  refine LWp.round ?_
  refine sO hP hn hm [] [(11,bV (decide (x479<(a0.length:Int))))] [1,2,5,8,9,10,11] [] [0,1,7] ?_
  refine AWp.seq ?_
  refine AWp.cond (decide (x479<(a0.length:Int))) (by kernel_rfl) (fun c480 => ?_) (fun c480 => ?_)
  ·replace H:=iT c480 H
   refine AWp.skip ?_
   refine AWp.seq ?_
   refine AWp.block ?_
   obtain⟨b484,p485,q486,H⟩:=Z0d H
   refine sR hP hn hm [(0,.c (Z0 b484)),(2,.k 8)] [(7,.ptr 8 0 0)] [1,2,5,7,8,9,10] [(8,some (.box 78 (Z1o b484)))] [0,1,7,8] [_,_] ⟨p485,Zk Z0 q486,trivial⟩ ?_
   obtain⟨t489,e490,H⟩:=Z4 H
   refine sR hP hn hm [(4,.call [] [] [] [] 0 (iV .i64 t489) [])] [(20,bV (decide (t489>a2_c0)))] [1,2,5,7,8,9,10,20] [] [0,1,7,8] [_,_] ⟨Try.call66,Z0v.ok a1_c1 b484.f0 t489 e490,trivial⟩ ?_
   obtain⟨o504,e505,H⟩:=Z4 H
   refine AWp.mono (Q:=fun e s=>(match (generalizing:=false) o504 with | (x498,x499)=>e = .normal∧s=⟨[(1,.ptr 0 0 0),(2,.ptr 1 0 0),(5,.own 12),(8,.im (.row (a0.map Z0))),(9,iV .i64 (a0.length:Int)),(10,iV .i64 x479)],[(0,some (.box 36 (Zn ⟨a1_c0,a1_c1,a1_c2,x498,a1_c4,a1_c5,a1_c6,a1_c7⟩))),(1,some (.box 3 [iV .i64 a2_c0])),(12,some (.row 2 78 (x499.map Z0)))],2⟩)) (AWp.cv ?_) ?_
   ·replace H:=e505;clear e505
    refine AWp.cond (decide (t489>a2_c0)) (by kernel_rfl) (fun c491 => ?_) (fun c491 => ?_)
    ·replace H:=iT c491 H
     obtain⟨c493,H⟩:=Z0x H
     refine rG hP hn hm [(2,.app 9 ([b484].map Z0)),(3,.app 10 ((x478++[b484]).map Z0))] [(5,.own 10)] [1,2,5,8,9,10] [(10,some (.row 2 78 ((x478++[b484]).map Z0)))] [0,1,10] [[b484].map Z0=[[iI .i64 b484.f0,iI .u64 b484.f1]],(x478++[b484]).map Z0=(x478.map Z0)++([b484].map Z0),∀ c∈([b484].map Z0),c.length=2,∀ c∈([b484].map Z0),Z0k (c.map .im)=true,((x478.map Z0).length+([b484].map Z0).length)*16≤140737488355328] ⟨by exact rfl,by simp,by exact Z0o _ _ _ (fun _=>rfl),by exact Z0p _ _ (fun _=>rfl),by simpa using c493,trivial⟩ ?_
     obtain rfl:=sj H
     exact lf [(0,0),(1,1),(10,12)] [] [] (by kernel_rfl) ⟨rfl,rfl⟩
    ·replace H:=iF c491 H
     obtain⟨t496,e497,H⟩:=Z4 H
     refine rG hP hn hm [(4,.app 11 ([x477,b484.f1].map (Z1 .u64))),(5,.call [] [] [11] [] 0 (.tup [iV .u64 t496.1,iV .i64 t496.2]) [])] [] [1,2,5,8,9,10] [(0,some (.box 36 (Zn ⟨a1_c0,a1_c1,a1_c2,t496.1,a1_c4,a1_c5,a1_c6,a1_c7⟩)))] [0,1,7] [[x477,b484.f1].map (Z1 .u64)=[[iI .u64 x477],[iI .u64 b484.f1]],_,_] ⟨by exact rfl,Try.call59,Z1e.ok [x477,b484.f1] t496 e497,trivial⟩ ?_
     obtain rfl:=sj H
     exact lf [(0,0),(1,1),(7,12)] [] [] (by kernel_rfl) ⟨rfl,rfl⟩
   ·obtain⟨x498,x499⟩:=o504
    rintro e s ⟨rfl,rfl⟩
    refine rO hP hn hm [] [(10,iV .i64 (i64.wrap (x479+(1:Int))))] [1,2,5,8,9,10] [] [0,1,12] ?_
    exact LWp.conv [(0,0),(1,1),(12,7)] [] [] (by kernel_rfl) (ih _ _ _ _ H)
  ·replace H:=iF c480 H
   refine AWp.exit ?_
   obtain rfl:=sj H
   exact lf [(7,13),(0,0),(1,1)] [] [] (by kernel_rfl) ⟨rfl,rfl⟩
 ·obtain⟨x500,x501⟩:=o502
  rintro e s ⟨rfl,rfl⟩
  refine sO hP hn hm [] [(4,.own 13)] [4] [] [0,1,13] ?_
  refine AWp.conv (inv:=[(0,0),(1,1),(13,2)]) (vk:=[]) (e0:=[]) (t:=⟨[(4,.own 2)],[(0,some (.box 36 (Zn ⟨a1_c0,a1_c1,a1_c2,x501,a1_c4,a1_c5,a1_c6,a1_c7⟩))),(1,some (.box 3 [iV .i64 a2_c0])),(2,some (.row 2 78 (x500.map Z0)))],2⟩) (by kernel_rfl) ?_
  refine AWp.ret ?_
  obtain rfl:=sj H
  exact rl (.inl rfl) rfl (by kernel_rfl) (by kernel_rfl)
def Zv.f (a0:List Z2):Option (List Z2):=(chk ((([]:List Z2).length+a0.length)*16≤140737488355328))>>=fun _=>some a0
theorem Zv.ok (a0 r:List Z2) (H:Zv.f a0=some r):Pv.Fn Try.prog 73 [.im (.row (a0.map Z0))] [] 0 (fun x o=>x = .own 0∧o=[(0,some (.row 2 78 (r.map Z0)))]):=by
 unfold Zv.f at H
 obtain⟨c1,H⟩:=Z0x H
 obtain rfl:=sj H
 refine Fn.bodyK [0] Try.func73 rfl rfl (fun Γ hP hn => ?_)
 have hm:Try.prog.follows .mixedOrders=true:=by kernel_rfl
 replace hn:Γ.n=8:=hn
 refine AWp.seq ?_
 refine reg hP hn hm [] [0,2] [] ⟨[(0,.im (.row (a0.map Z0))),(2,.none0)],[],0⟩ [] (by kernel_rfl) trivial ?_
 refine AWp.seq ?_
 cases a0 with
 | nil =>
  refine AWp.nilSplit 0 rfl (fun b m => ?_)
  refine AWp.seq ?_
  cases b with
  | none =>
   refine reg hP hn hm [(1,.more xNil)] [2,4] [] ⟨[(2,.none0),(4,bV true)],[],0⟩ [] (by kernel_rfl) trivial ?_
   refine AWp.cond true rfl (fun _ => ?_) (fun h=>nomatch h)
   refine AWp.seq ?_
   refine reg hP hn hm [] [2] [] ⟨[(2,.none0)],[],0⟩ [] (by kernel_rfl) trivial ?_
   refine AWp.conv (inv:=[]) (vk:=[]) (e0:=[0]) (t:=⟨[(2,.own 0)],[(0,some (.row 2 78 []))],0⟩) (by kernel_rfl) ?_
   refine AWp.ret ?_
   exact Exists.intro _ (And.intro (fun _ _ h=>h) (And.intro (.inl rfl) (And.intro rfl (And.intro (by kernel_rfl) (by kernel_rfl)))))
  | some b =>
   refine reg hP hn hm [(1,.more xNil)] [0,2,4] [] ⟨[(0,.im (.sc (.slice (some b) 0 m))),(2,.none0),(4,bV false)],[],0⟩ [] (by kernel_rfl) trivial ?_
   refine AWp.cond false rfl (fun h=>nomatch h) (fun _ => ?_)
   refine AWp.skip ?_
   refine AWp.unsplit 0 rfl ?_
   refine AWp.seq ?_
   refine reg hP hn hm [(0,.app 0 ([]:List (List Im))),(2,.app 1 (([]:List Z2).map Z0))] [2] [1] ⟨[(2,.own 1)],[(1,some (.row 2 78 (([]:List Z2).map Z0)))],0⟩ [([]:List (List Im))=[],([]:List Z2).map Z0=([]:List (List Im))++([]:List Z2).map Z0,∀ c∈([]:List Z2).map Z0,c.length=2,∀ c∈([]:List Z2).map Z0,Z0k (c.map .im)=true,(([]:List (List Im)).length+(([]:List Z2).map Z0).length)*16≤140737488355328] (by kernel_rfl) ⟨rfl,by simp,by exact Z0o _ _ _ (fun _=>rfl),by exact Z0p _ _ (fun _=>rfl),by simpa using c1,trivial⟩ ?_
   refine AWp.conv (inv:=[(1,0)]) (vk:=[]) (e0:=[]) (t:=⟨[(2,.own 0)],[(0,some (.row 2 78 (([]:List Z2).map Z0)))],0⟩) (by kernel_rfl) ?_
   refine AWp.ret ?_
   exact Exists.intro _ (And.intro (fun _ _ h=>h) (And.intro (.inl rfl) (And.intro rfl (And.intro (by kernel_rfl) (by kernel_rfl)))))
 | cons y l =>
  refine AWp.seq ?_
  refine reg hP hn hm [(1,.more xNil)] [0,2,4] [] ⟨[(0,.im (.row ((y::l).map Z0))),(2,.none0),(4,bV false)],[],0⟩ [] (by kernel_rfl) trivial ?_
  refine AWp.cond false rfl (fun h=>nomatch h) (fun _ => ?_)
  refine AWp.skip ?_
  refine AWp.seq ?_
  refine reg hP hn hm [(0,.app 0 ([]:List (List Im))),(2,.app 1 ((y::l).map Z0))] [2] [1] ⟨[(2,.own 1)],[(1,some (.row 2 78 ((y::l).map Z0)))],0⟩ [([]:List (List Im))=[],(y::l).map Z0=([]:List (List Im))++(y::l).map Z0,∀ c∈(y::l).map Z0,c.length=2,∀ c∈(y::l).map Z0,Z0k (c.map .im)=true,(([]:List (List Im)).length+((y::l).map Z0).length)*16≤140737488355328] (by kernel_rfl) ⟨rfl,by simp,by exact Z0o _ _ _ (fun _=>rfl),by exact Z0p _ _ (fun _=>rfl),by simpa using c1,trivial⟩ ?_
  refine AWp.conv (inv:=[(1,0)]) (vk:=[]) (e0:=[]) (t:=⟨[(2,.own 0)],[(0,some (.row 2 78 ((y::l).map Z0)))],0⟩) (by kernel_rfl) ?_
  refine AWp.ret ?_
  exact Exists.intro _ (And.intro (fun _ _ h=>h) (And.intro (.inl rfl) (And.intro rfl (And.intro (by kernel_rfl) (by kernel_rfl)))))
def Z0c.f (a0:Int):Option (Unit):=some ()
theorem Z0c.ok (a0:Int) (r:Unit) (H:Z0c.f a0=some r):Pv.Fn Try.prog 72 [iV .i64 a0] [] 0 (fun x o=>x=bV (a0 != a0)∧o=[]):=by
 unfold Z0c.f at H
 refine Fn.bodyK [] Try.func72 rfl rfl (fun Γ hP hn => ?_)
 have hm:Try.prog.follows .mixedOrders=true:=by kernel_rfl
 replace hn:Γ.n=6:=hn
 refine sO hP hn hm [] [] [0] [] [] ?_
 refine sO hP hn hm [] [(2,bV (a0 != a0))] [2] [] [] ?_
 refine AWp.conv (inv:=[]) (vk:=[]) (e0:=[]) (t:=⟨[(2,bV (a0 != a0))],[],0⟩) (by kernel_rfl) ?_
 refine AWp.ret ?_
 obtain rfl:=sj H
 exact rl (.inl rfl) rfl (by kernel_rfl) (by kernel_rfl)
def Z1j.f (a0:Int) (a1:Int):Option (Int):=(Z0c.f a0)>>=fun t529=>(Z0c.f a1)>>=fun t533=>if(a0 != a0)=true then(if(a1 != a1)=true then(some 0) else(some (-1))) else(if(a1 != a1)=true then(some 1) else(if(decide (a0<a1))=true then(some (-1)) else(if(decide (a0>a1))=true then(some 1) else(some 0))))
theorem Z1j.ok (a0:Int) (a1:Int) (r:Int) (H:Z1j.f a0 a1=some r):Pv.Fn Try.prog 76 [iV .i64 a0,iV .i64 a1] [] 0 (fun x o=>x=iV .i64 r∧o=[]):=by
 unfold Z1j.f at H
 refine Fn.bodyK [] Try.func76 rfl rfl (fun Γ hP hn => ?_)
 have hm:Try.prog.follows .mixedOrders=true:=by kernel_rfl
 replace hn:Γ.n=20:=hn
 refine sO hP hn hm [] [] [0,1] [] [] ?_
 obtain⟨t529,e530,H⟩:=Z4 H
 refine sR hP hn hm [(1,.call [] [] [] [] 0 (bV (a0 != a0)) [])] [(5,bV (a0 != a0))] [0,1,5] [] [] [_,_] ⟨Try.call72,Z0c.ok a0 t529 e530,trivial⟩ ?_
 obtain⟨t533,e534,H⟩:=Z4 H
 refine sR hP hn hm [(1,.call [] [] [] [] 0 (bV (a1 != a1)) [])] [(6,bV (a1 != a1))] [0,1,5,6] [] [] [_,_] ⟨Try.call72,Z0c.ok a1 t533 e534,trivial⟩ ?_
 refine AWp.seq ?_
 refine sO hP hn hm [] [(11,bV (a0 != a0))] [0,1,6,11] [] [] ?_
 refine AWp.cond (a0 != a0) (by kernel_rfl) (fun c535 => ?_) (fun c535 => ?_)
 ·replace H:=iT c535 H
  refine AWp.seq ?_
  refine sO hP hn hm [] [(12,bV (a1 != a1))] [12] [] [] ?_
  refine AWp.cond (a1 != a1) (by kernel_rfl) (fun c536 => ?_) (fun c536 => ?_)
  ·replace H:=iT c536 H
   refine sO hP hn hm [] [(4,iV .i64 0)] [4] [] [] ?_
   refine AWp.conv (inv:=[]) (vk:=[]) (e0:=[]) (t:=⟨[(4,iV .i64 0)],[],0⟩) (by kernel_rfl) ?_
   refine AWp.ret ?_
   obtain rfl:=sj H
   exact rl (.inl rfl) rfl (by kernel_rfl) (by kernel_rfl)
  ·replace H:=iF c536 H
   refine AWp.skip ?_
   refine sO hP hn hm [] [(4,iV .i64 (-1))] [4] [] [] ?_
   refine AWp.conv (inv:=[]) (vk:=[]) (e0:=[]) (t:=⟨[(4,iV .i64 (-1))],[],0⟩) (by kernel_rfl) ?_
   refine AWp.ret ?_
   obtain rfl:=sj H
   exact rl (.inl rfl) rfl (by kernel_rfl) (by kernel_rfl)
 ·replace H:=iF c535 H
  refine AWp.skip ?_
  refine AWp.seq ?_
  refine sO hP hn hm [] [(13,bV (a1 != a1))] [0,1,13] [] [] ?_
  refine AWp.cond (a1 != a1) (by kernel_rfl) (fun c537 => ?_) (fun c537 => ?_)
  ·replace H:=iT c537 H
   refine sO hP hn hm [] [(4,iV .i64 1)] [4] [] [] ?_
   refine AWp.conv (inv:=[]) (vk:=[]) (e0:=[]) (t:=⟨[(4,iV .i64 1)],[],0⟩) (by kernel_rfl) ?_
   refine AWp.ret ?_
   obtain rfl:=sj H
   exact rl (.inl rfl) rfl (by kernel_rfl) (by kernel_rfl)
  ·replace H:=iF c537 H
   refine AWp.skip ?_
   refine AWp.seq ?_
   refine sO hP hn hm [] [(16,bV (decide (a0<a1)))] [0,1,16] [] [] ?_
   refine AWp.cond (decide (a0<a1)) (by kernel_rfl) (fun c538 => ?_) (fun c538 => ?_)
   ·replace H:=iT c538 H
    refine sO hP hn hm [] [(4,iV .i64 (-1))] [4] [] [] ?_
    refine AWp.conv (inv:=[]) (vk:=[]) (e0:=[]) (t:=⟨[(4,iV .i64 (-1))],[],0⟩) (by kernel_rfl) ?_
    refine AWp.ret ?_
    obtain rfl:=sj H
    exact rl (.inl rfl) rfl (by kernel_rfl) (by kernel_rfl)
   ·replace H:=iF c538 H
    refine AWp.skip ?_
    refine AWp.seq ?_
    refine sO hP hn hm [] [(19,bV (decide (a0>a1)))] [19] [] [] ?_
    refine AWp.cond (decide (a0>a1)) (by kernel_rfl) (fun c539 => ?_) (fun c539 => ?_)
    ·replace H:=iT c539 H
     refine sO hP hn hm [] [(4,iV .i64 1)] [4] [] [] ?_
     refine AWp.conv (inv:=[]) (vk:=[]) (e0:=[]) (t:=⟨[(4,iV .i64 1)],[],0⟩) (by kernel_rfl) ?_
     refine AWp.ret ?_
     obtain rfl:=sj H
     exact rl (.inl rfl) rfl (by kernel_rfl) (by kernel_rfl)
    ·replace H:=iF c539 H
     refine AWp.skip ?_
     refine sO hP hn hm [] [(4,iV .i64 0)] [4] [] [] ?_
     refine AWp.conv (inv:=[]) (vk:=[]) (e0:=[]) (t:=⟨[(4,iV .i64 0)],[],0⟩) (by kernel_rfl) ?_
     refine AWp.ret ?_
     obtain rfl:=sj H
     exact rl (.inl rfl) rfl (by kernel_rfl) (by kernel_rfl)
def Z0u.f (a0:Z2) (a1:Z2):Option (Int):=(Z1j.f a0.f0 a1.f0)>>=fun t542=>some t542
theorem Z0u.ok (a0:Z2) (a1:Z2) (r:Int) (H:Z0u.f a0 a1=some r):Pv.Fn Try.prog 75 [.agg (Z1o a0),.agg (Z1o a1)] [] 0 (fun x o=>x=iV .i64 r∧o=[]):=by
 unfold Z0u.f at H
 refine Fn.bodyK [] Try.func75 rfl rfl (fun Γ hP hn => ?_)
 have hm:Try.prog.follows .mixedOrders=true:=by kernel_rfl
 replace hn:Γ.n=10:=hn
 refine sO hP hn hm [(0,.k 0),(1,.k 1)] [(2,.ptr 0 0 0),(3,.ptr 1 0 0)] [2,3] [(0,some (.box 78 (Z1o a0))),(1,some (.box 78 (Z1o a1)))] [0,1] ?_
 obtain⟨t542,e543,H⟩:=Z4 H
 refine sR hP hn hm [(4,.call [] [] [] [] 0 (iV .i64 t542) [])] [(4,iV .i64 t542)] [4] [] [] [_,_] ⟨Try.call76,Z1j.ok a0.f0 a1.f0 t542 e543,trivial⟩ ?_
 refine AWp.conv (inv:=[]) (vk:=[]) (e0:=[]) (t:=⟨[(4,iV .i64 t542)],[],0⟩) (by kernel_rfl) ?_
 refine AWp.ret ?_
 obtain rfl:=sj H
 exact rl (.inl rfl) rfl (by kernel_rfl) (by kernel_rfl)
def Z8.l1 (a1:Int) (a2:Int) (x617:Int) (x657:List Z2) (x658:Int):Option (List Z2):=((if(decide (x658>a1))=true then((at? x657 x658)>>=fun b669=>(at? x657 (i64.wrap (x658-(1:Int))))>>=fun b672=>(Z0u.f b669 b672)>>=fun t675=>some (decide (t675<(0:Int)))) else(some false)):Option (Bool))>>=fun x677=>if x677=true then((at? x657 (i64.wrap (x658-(1:Int))))>>=fun b688=>(at? x657 x658)>>=fun b691=>(at? (x657.set (Int.toNat (x658)) b688) (i64.wrap (x658-(1:Int))))>>=fun b694=>Z8.l1 a1 a2 x617 ((x657.set (Int.toNat (x658)) b688).set (Int.toNat (i64.wrap (x658-(1:Int)))) b691) (i64.wrap (x658-(1:Int)))) else(some x657)
partial_fixpoint
def Z8.l0 (a1:Int) (a2:Int) (x616:List Z2) (x617:Int):Option (List Z2):=if(decide (x617<a2))=true then((Z8.l1 a1 a2 x617 x616 x617)>>=fun x697=>Z8.l0 a1 a2 x697 (i64.wrap (x617+(1:Int)))) else(some x616)
partial_fixpoint
def Z8.f (a0:List Z2) (a1:Int) (a2:Int):Option (List Z2):=(Z8.l0 a1 a2 a0 (i64.wrap (a1+(1:Int))))>>=fun x698=>some x698
theorem Z8.ok (a0:List Z2) (a1:Int) (a2:Int) (r:List Z2) (H:Z8.f a0 a1 a2=some r):Pv.Fn Try.prog 84 [.own 0,iV .i64 a1,iV .i64 a2,.im (.sc (.func (.func 75) #[] #[]))] [(0,some (.row 2 78 (a0.map Z0)))] 1 (fun x o=>x = .tup []∧o=[(0,some (.row 2 78 (r.map Z0)))]):=by
 unfold Z8.f at H
 refine Fn.bodyK [0] Try.func84 rfl rfl (fun Γ hP hn => ?_)
 have hm:Try.prog.follows .mixedOrders=true:=by kernel_rfl
 replace hn:Γ.n=53:=hn
 refine sO hP hn hm [] [(8,iV .i64 (i64.wrap (a1+(1:Int))))] [0,1,2,3,8] [] [0] ?_
 refine AWp.block ?_
 obtain⟨o699,e700,H⟩:=Z4 H
 refine AWp.loop (LWp.conv (inv:=[(0,0)]) (vk:=[]) (e0:=[]) (t:=⟨[(0,.own 0),(1,iV .i64 a1),(2,iV .i64 a2),(3,.im (.sc (.func (.func 75) #[] #[]))),(8,iV .i64 (i64.wrap (a1+(1:Int))))],[(0,some (.row 2 78 (a0.map Z0)))],1⟩) (by kernel_rfl) ?_)
 refine LWp.mono (Q:=fun e s=>(match (generalizing:=false) o699 with | x698=>e = .exit 0∧s=⟨[],[(0,some (.row 2 78 (x698.map Z0)))],1⟩)) (LWp.cv (Zt (fun body hbody => ?_))) ?_
 ·refine                                                   Z8.l0.partial_correctness a1 a2 (motive:=fun x616 x617 o699=>LWp Γ body (fun e s=>∃ t,Cv Γ s t∧(match (generalizing:=false) o699 with | x698=>e = .exit 0∧t=⟨[],[(0,some (.row 2 78 (x698.map Z0     )))],1⟩)) ⟨[(0,.own 0),(1,iV .i64 a1),(2,iV .i64 a2),(3,.im (.sc (.func (.func 75) #[] #[]))),(8,iV .i64 x617)],[(0,some (.row 2 78 (x616.map Z0     )))],1⟩) ?_ _ _ _ e700
  clear H e700 o699;intro self ih x616 x617 o699 H
  subst hbody
  refine LWp.round ?_
  refine AWp.seq ?_
  refine sO hP hn hm [] [(14,bV (decide (x617<a2)))] [0,1,2,3,8,14] [] [0] ?_
  refine AWp.cond (decide (x617<a2)) (by kernel_rfl) (fun c618 => ?_) (fun c618 => ?_)
  ·replace H:=iT c618 H
   refine AWp.skip ?_
   refine AWp.seq ?_
   refine AWp.block ?_
   refine sO hP hn hm [] [(9,iV .i64 x617)] [0,1,2,3,8,9] [] [0] ?_
   refine AWp.block ?_
   obtain⟨o701,e702,H⟩:=Z4 H
   refine AWp.loop (LWp.conv (inv:=[(0,0)]) (vk:=[]) (e0:=[]) (t:=⟨[(0,.own 0),(1,iV .i64 a1),(2,iV .i64 a2),(3,.im (.sc (.func (.func 75) #[] #[]))),(8,iV .i64 x617),(9,iV .i64 x617)],[(0,some (.row 2 78 (x616.map Z0)))],1⟩) (by kernel_rfl) ?_)
   refine LWp.mono (Q:=fun e s=>(match (generalizing:=false) o701 with | x697=>e = .exit 2∧s=⟨[(0,.own 0),(1,iV .i64 a1),(2,iV .i64 a2),(3,.im (.sc (.func (.func 75) #[] #[]))),(8,iV .i64 x617)],[(0,some (.row 2 78 (x697.map Z0)))],1⟩)) (LWp.cv (Zt (fun body hbody => ?_))) ?_
   ·refine                                                   Z8.l1.partial_correctness a1 a2 x617 (motive:=fun x657 x658 o701=>LWp Γ body (fun e s=>∃ t,Cv Γ s t∧(match (generalizing:=false) o701 with | x697=>e = .exit 2∧t=⟨[(0,.own 0),(1,iV .i64 a1),(2,iV .i64 a2),(3,.im (.sc (.func (.func 75) #[] #[]))),(8,iV .i64 x617)],[(0,some (.row 2 78 (x697.map Z0     )))],1⟩)) ⟨[(0,.own 0),(1,iV .i64 a1),(2,iV .i64 a2),(3,.im (.sc (.func (.func 75) #[] #[]))),(8,iV .i64 x617),(9,iV .i64 x658)],[(0,some (.row 2 78 (x657.map Z0     )))],1⟩) ?_ _ _ _ e702
    clear H e702 o701;intro self ih x657 x658 o701 H
    subst hbody
    refine LWp.round ?_
    refine AWp.seq ?_
    refine AWp.seq ?_
    obtain⟨o703,e704,H⟩:=Z4 H
    refine AWp.mono (Q:=fun e s=>(match (generalizing:=false) o703 with | x677=>e = .normal∧s=⟨[(0,.own 0),(1,iV .i64 a1),(2,iV .i64 a2),(3,.im (.sc (.func (.func 75) #[] #[]))),(8,iV .i64 x617),(9,iV .i64 x658),(34,bV x677)],[(0,some (.row 2 78 (x657.map Z0)))],1⟩)) (AWp.cv ?_) ?_
    ·replace H:=e704;clear e704
     rcases Bool.eq_false_or_eq_true (decide (x658>a1)) with c668 | c668
     ·replace H:=iT c668 H
      obtain⟨b669,p670,q671,H⟩:=Z0d H
      obtain⟨b672,p673,q674,H⟩:=Z0d H
      obtain⟨t675,e676,H⟩:=Z4 H
      refine rG hP hn hm [(3,.b true),(8,.c (Z0 b669)),(13,.c (Z0 b672)),(14,.call [] [] [] [] 0 (iV .i64 t675) [])] [(22,.im (.sc (.func (.func 75) #[] #[]))),(23,.own 0),(24,iV .i64 x658),(25,.ptr 0 (Int.toNat (x658)) 0),(26,.agg (Z1o b669)),(27,.own 0),(28,iV .i64 x658),(29,iV .i64 (i64.wrap (x658-(1:Int)))),(30,.ptr 0 (Int.toNat (i64.wrap (x658-(1:Int)))) 0),(31,.agg (Z1o b672)),(32,iV .i64 t675),(33,bV (decide (t675<(0:Int)))),(34,bV (decide (t675<(0:Int))))] [0,1,2,3,8,9,22,23,24,25,26,27,28,29,30,31,32,33,34] [] [0] [_,_,_,_,_,_,_,_,_] ⟨c668,p670,Z1g Z0 p670 q671,Zk Z0 q671,p673,Z1g Z0 p673 q674,Zk Z0 q674,Try.call75,Z0u.ok b669 b672 t675 e676,trivial⟩ ?_
      obtain rfl:=sj H
      exact lf [(0,0)] [] [] (by kernel_rfl) ⟨rfl,rfl⟩
     ·replace H:=iF c668 H
      refine rG hP hn hm [(3,.b false)] [(34,bV false)] [0,1,2,3,8,9,34] [] [0] [_] ⟨c668,trivial⟩ ?_
      obtain rfl:=sj H
      exact lf [(0,0)] [] [] (by kernel_rfl) ⟨rfl,rfl⟩
    ·obtain⟨x677,rfl⟩:∃ z,z=o703:=⟨_,rfl⟩
     rintro e s ⟨rfl,rfl⟩
     refine AWp.cond x677 (by kernel_rfl) (fun c678 => ?_) (fun c678 => ?_)
     ·replace H:=iT c678 H
      refine AWp.skip ?_
      refine AWp.seq ?_
      refine AWp.block ?_
      obtain⟨b688,p689,q690,H⟩:=Z0d H
      obtain⟨b691,p692,q693,H⟩:=Z0d H
      obtain⟨b694,p695,q696,H⟩:=Z0d H
      refine rG hP hn hm [(9,.c (Z0 b688)),(13,.c (Z0 b691)),(15,.put (Z0 b691) ((x657.set (Int.toNat (x658)) b688).map Z0)),(17,.put (Z0 b694) (((x657.set (Int.toNat (x658)) b688).set (Int.toNat (i64.wrap (x658-(1:Int)))) b691).map Z0))] [] [0,1,2,3,8,9] [(0,some (.row 2 78 (((x657.set (Int.toNat (x658)) b688).set (Int.toNat (i64.wrap (x658-(1:Int)))) b691).map Z0)))] [0] [_,_,_,_,_,_,_,_,_,(x657.set (Int.toNat (x658)) b688).map Z0=(x657.map Z0).set (Int.toNat (x658)) (Z1c (Z0 b691) 0 [iI .i64 b688.f0,iI .u64 b688.f1]),_,_,_,((x657.set (Int.toNat (x658)) b688).set (Int.toNat (i64.wrap (x658-(1:Int)))) b691).map Z0=((x657.set (Int.toNat (x658)) b688).map Z0).set (Int.toNat (i64.wrap (x658-(1:Int)))) (Z1c (Z0 b694) 0 [iI .i64 b691.f0,iI .u64 b691.f1])] ⟨p689,Z1g Z0 p689 q690,Zk Z0 q690,p692,Z1g Z0 p692 q693,Zk Z0 q693,p692,Z1g Z0 p692 q693,Zk Z0 q693,by exact set1 _ _ _ _,p695,Z1g Z0 p695 q696,Zk Z0 q696,by exact set1 _ _ _ _,trivial⟩ ?_
      refine rO hP hn hm [] [(9,iV .i64 (i64.wrap (x658-(1:Int))))] [0,1,2,3,8,9] [] [0] ?_
      exact LWp.conv [(0,0)] [] [] (by kernel_rfl) (ih _ _ _ H)
     ·replace H:=iF c678 H
      refine AWp.exit ?_
      obtain rfl:=sj H
      exact lf [(0,0)] [] [] (by kernel_rfl) ⟨rfl,rfl⟩
   ·obtain⟨x697,rfl⟩:∃ z,z=o701:=⟨_,rfl⟩
    rintro e s ⟨rfl,rfl⟩
    refine rO hP hn hm [] [(8,iV .i64 (i64.wrap (x617+(1:Int))))] [0,1,2,3,8] [] [0] ?_
    exact LWp.conv [(0,0)] [] [] (by kernel_rfl) (ih _ _ _ H)
  ·replace H:=iF c618 H
   refine AWp.exit ?_
   obtain rfl:=sj H
   exact lf [(0,0)] [] [] (by kernel_rfl) ⟨rfl,rfl⟩
 ·obtain⟨x698,rfl⟩:∃ z,z=o699:=⟨_,rfl⟩
  rintro e s ⟨rfl,rfl⟩
  obtain rfl:=sj H
  exact Exists.intro ⟨[],[(0,some (.row 2 78 (x698.map Z0)))],1⟩ (And.intro (fun _ _ h=>h.conv (inv:=[(0,0)]) (vk:=[]) (e0:=[]) (t:=⟨[],[(0,some (.row 2 78 (x698.map Z0)))],1⟩) (by kernel_rfl)) (And.intro (.inr rfl) (And.intro rfl (And.intro (by kernel_rfl) (by kernel_rfl)))))
def Zc.l0 (a1:Int) (a2:Int) (a3:Int) (x966:List Z2) (x967:Int):Option (List Z2):=if(decide (x967<a3))=true then((at? x966 (i64.wrap (a2+x967)))>>=fun b978=>(at? x966 (i64.wrap (a1+x967)))>>=fun b981=>(at? (x966.set (Int.toNat (i64.wrap (a1+x967))) b978) (i64.wrap (a2+x967)))>>=fun b984=>Zc.l0 a1 a2 a3 ((x966.set (Int.toNat (i64.wrap (a1+x967))) b978).set (Int.toNat (i64.wrap (a2+x967))) b981) (i64.wrap (x967+(1:Int)))) else(some x966)
partial_fixpoint
def Zc.f (a0:List Z2) (a1:Int) (a2:Int) (a3:Int):Option (List Z2):=(Zc.l0 a1 a2 a3 a0 0)>>=fun x987=>some x987
theorem Zc.ok (a0:List Z2) (a1:Int) (a2:Int) (a3:Int) (r:List Z2) (H:Zc.f a0 a1 a2 a3=some r):Pv.Fn Try.prog 91 [.own 0,iV .i64 a1,iV .i64 a2,iV .i64 a3,.im (.sc (.func (.func 75) #[] #[]))] [(0,some (.row 2 78 (a0.map Z0)))] 1 (fun x o=>x = .tup []∧o=[(0,some (.row 2 78 (r.map Z0)))]):=by
 unfold Zc.f at H
 refine Fn.bodyK [0] Try.func91 rfl rfl (fun Γ hP hn => ?_)
 have hm:Try.prog.follows .mixedOrders=true:=by kernel_rfl
 replace hn:Γ.n=38:=hn
 refine sO hP hn hm [] [(10,iV .i64 0)] [0,1,2,3,10] [] [0] ?_
 refine AWp.block ?_
 obtain⟨o988,e989,H⟩:=Z4 H
 refine AWp.loop (LWp.conv (inv:=[(0,0)]) (vk:=[]) (e0:=[]) (t:=⟨[(0,.own 0),(1,iV .i64 a1),(2,iV .i64 a2),(3,iV .i64 a3),(10,iV .i64 0)],[(0,some (.row 2 78 (a0.map Z0)))],1⟩) (by kernel_rfl) ?_)
 refine LWp.mono (Q:=fun e s=>(match (generalizing:=false) o988 with | x987=>e = .exit 0∧s=⟨[],[(0,some (.row 2 78 (x987.map Z0)))],1⟩)) (LWp.cv (Zt (fun body hbody => ?_))) ?_
 ·refine                                               Zc.l0.partial_correctness a1 a2 a3 (motive:=fun x966 x967 o988=>LWp Γ body (fun e s=>∃ t,Cv Γ s t∧(match (generalizing:=false) o988 with | x987=>e = .exit 0∧t=⟨[],[(0,some (.row 2 78 (x987.map Z0     )))],1⟩)) ⟨[(0,.own 0),(1,iV .i64 a1),(2,iV .i64 a2),(3,iV .i64 a3),(10,iV .i64 x967)],[(0,some (.row 2 78 (x966.map Z0     )))],1⟩) ?_ _ _ _ e989
  clear H e989 o988;intro self ih x966 x967 o988 H
  subst hbody
  refine LWp.round ?_
  refine AWp.seq ?_
  refine sO hP hn hm [] [(13,bV (decide (x967<a3)))] [0,1,2,3,10,13] [] [0] ?_
  refine AWp.cond (decide (x967<a3)) (by kernel_rfl) (fun c968 => ?_) (fun c968 => ?_)
  ·replace H:=iT c968 H
   refine AWp.skip ?_
   refine AWp.seq ?_
   refine AWp.block ?_
   obtain⟨b978,p979,q980,H⟩:=Z0d H
   obtain⟨b981,p982,q983,H⟩:=Z0d H
   obtain⟨b984,p985,q986,H⟩:=Z0d H
   refine rG hP hn hm [(13,.c (Z0 b978)),(19,.c (Z0 b981)),(21,.put (Z0 b981) ((x966.set (Int.toNat (i64.wrap (a1+x967))) b978).map Z0)),(23,.put (Z0 b984) (((x966.set (Int.toNat (i64.wrap (a1+x967))) b978).set (Int.toNat (i64.wrap (a2+x967))) b981).map Z0))] [] [0,1,2,3,10] [(0,some (.row 2 78 (((x966.set (Int.toNat (i64.wrap (a1+x967))) b978).set (Int.toNat (i64.wrap (a2+x967))) b981).map Z0)))] [0] [_,_,_,_,_,_,_,_,_,(x966.set (Int.toNat (i64.wrap (a1+x967))) b978).map Z0=(x966.map Z0).set (Int.toNat (i64.wrap (a1+x967))) (Z1c (Z0 b981) 0 [iI .i64 b978.f0,iI .u64 b978.f1]),_,_,_,((x966.set (Int.toNat (i64.wrap (a1+x967))) b978).set (Int.toNat (i64.wrap (a2+x967))) b981).map Z0=((x966.set (Int.toNat (i64.wrap (a1+x967))) b978).map Z0).set (Int.toNat (i64.wrap (a2+x967))) (Z1c (Z0 b984) 0 [iI .i64 b981.f0,iI .u64 b981.f1])] ⟨p979,Z1g Z0 p979 q980,Zk Z0 q980,p982,Z1g Z0 p982 q983,Zk Z0 q983,p982,Z1g Z0 p982 q983,Zk Z0 q983,by exact set1 _ _ _ _,p985,Z1g Z0 p985 q986,Zk Z0 q986,by exact set1 _ _ _ _,trivial⟩ ?_
   refine rO hP hn hm [] [(10,iV .i64 (i64.wrap (x967+(1:Int))))] [0,1,2,3,10] [] [0] ?_
   exact LWp.conv [(0,0)] [] [] (by kernel_rfl) (ih _ _ _ H)
  ·replace H:=iF c968 H
   refine AWp.exit ?_
   obtain rfl:=sj H
   exact lf [(0,0)] [] [] (by kernel_rfl) ⟨rfl,rfl⟩
 ·obtain⟨x987,rfl⟩:∃ z,z=o988:=⟨_,rfl⟩
  rintro e s ⟨rfl,rfl⟩
  obtain rfl:=sj H
  exact Exists.intro ⟨[],[(0,some (.row 2 78 (x987.map Z0)))],1⟩ (And.intro (fun _ _ h=>h.conv (inv:=[(0,0)]) (vk:=[]) (e0:=[]) (t:=⟨[],[(0,some (.row 2 78 (x987.map Z0)))],1⟩) (by kernel_rfl)) (And.intro (.inr rfl) (And.intro rfl (And.intro (by kernel_rfl) (by kernel_rfl)))))
def Zf.l0 (a2:Int) (x1001:List Z2) (x1002:Int) (x1003:Int):Option ((List Z2)×Int):=if(x1002 != x1003)=true then(((if(decide (x1002>x1003))=true then((Zc.f x1001 (i64.wrap (a2-x1002)) a2 x1003)>>=fun t1008=>some (t1008,i64.wrap (x1002-x1003),x1003)) else((Zc.f x1001 (i64.wrap (a2-x1002)) (i64.wrap ((i64.wrap (a2+x1003))-x1002)) x1002)>>=fun t1012=>some (t1012,x1002,i64.wrap (x1003-x1002)))):Option ((List Z2)×Int×Int))>>=fun oo=>match oo with | (x1014,x1015,x1016)=>(Zf.l0 a2 x1014 x1015 x1016)) else(some (x1001,x1002))
partial_fixpoint
def Zf.f (a0:List Z2) (a1:Int) (a2:Int) (a3:Int):Option (List Z2):=(Zf.l0 a2 a0 (i64.wrap (a2-a1)) (i64.wrap (a3-a2)))>>=fun oo=>match oo with | (x1017,x1018)=>((Zc.f x1017 (i64.wrap (a2-x1018)) a2 x1018)>>=fun t1021=>some t1021)
theorem Zf.ok (a0:List Z2) (a1:Int) (a2:Int) (a3:Int) (r:List Z2) (H:Zf.f a0 a1 a2 a3=some r):Pv.Fn Try.prog 89 [.own 0,iV .i64 a1,iV .i64 a2,iV .i64 a3,.im (.sc (.func (.func 75) #[] #[]))] [(0,some (.row 2 78 (a0.map Z0)))] 1 (fun x o=>x = .tup []∧o=[(0,some (.row 2 78 (r.map Z0)))]):=by
 unfold Zf.f at H
 refine Fn.bodyK [0] Try.func89 rfl rfl (fun Γ hP hn => ?_)
 have hm:Try.prog.follows .mixedOrders=true:=by kernel_rfl
 replace hn:Γ.n=58:=hn
 refine sO hP hn hm [] [(10,iV .i64 (i64.wrap (a2-a1)))] [0,2,3,4,10] [] [0] ?_
 refine sO hP hn hm [] [(11,iV .i64 (i64.wrap (a3-a2)))] [0,2,4,10,11] [] [0] ?_
 refine AWp.seq ?_
 refine AWp.block ?_
 obtain⟨o1023,e1024,H⟩:=Z4 H
 refine AWp.loop (LWp.conv (inv:=[(0,0)]) (vk:=[]) (e0:=[]) (t:=⟨[(0,.own 0),(2,iV .i64 a2),(4,.im (.sc (.func (.func 75) #[] #[]))),(10,iV .i64 (i64.wrap (a2-a1))),(11,iV .i64 (i64.wrap (a3-a2)))],[(0,some (.row 2 78 (a0.map Z0)))],1⟩) (by kernel_rfl) ?_)
 refine LWp.mono (Q:=fun e s=>(match (generalizing:=false) o1023 with | (x1017,x1018)=>e = .exit 0∧s=⟨[(0,.own 0),(2,iV .i64 a2),(4,.im (.sc (.func (.func 75) #[] #[]))),(10,iV .i64 x1018)],[(0,some (.row 2 78 (x1017.map Z0)))],1⟩)) (LWp.cv (Zt (fun body hbody => ?_))) ?_
 ·refine                                            Zf.l0.partial_correctness a2 (motive:=fun x1001 x1002 x1003 o1023=>LWp Γ body (fun e s=>∃ t,Cv Γ s t∧(match (generalizing:=false) o1023 with | (x1017,x1018)=>e = .exit 0∧t=⟨[(0,.own 0),(2,iV .i64 a2),(4,.im (.sc (.func (.func 75) #[] #[]))),(10,iV .i64 x1018)],[(0,some (.row 2 78 (x1017.map Z0     )))],1⟩)) ⟨[(0,.own 0),(2,iV .i64 a2),(4,.im (.sc (.func (.func 75) #[] #[]))),(10,iV .i64 x1002),(11,iV .i64 x1003)],[(0,some (.row 2 78 (x1001.map Z0     )))],1⟩) ?_ _ _ _ _ e1024
  clear H e1024 o1023;intro self ih x1001 x1002 x1003 o1023 H
  subst hbody
  refine LWp.round ?_
  refine AWp.seq ?_
  refine sO hP hn hm [] [(20,bV (x1002 != x1003))] [0,2,4,10,11,20] [] [0] ?_
  refine AWp.cond (x1002 != x1003) (by kernel_rfl) (fun c1004 => ?_) (fun c1004 => ?_)
  ·replace H:=iT c1004 H
   refine AWp.skip ?_
   refine AWp.block ?_
   refine sO hP hn hm [] [(23,bV (decide (x1002>x1003)))] [0,2,4,10,11,23] [] [0] ?_
   obtain⟨o1025,e1026,H⟩:=Z4 H
   refine AWp.mono (Q:=fun e s=>(match (generalizing:=false) o1025 with | (x1014,x1015,x1016)=>e = .normal∧s=⟨[(0,.own 0),(2,iV .i64 a2),(4,.im (.sc (.func (.func 75) #[] #[]))),(10,iV .i64 x1015),(11,iV .i64 x1016)],[(0,some (.row 2 78 (x1014.map Z0)))],1⟩)) (AWp.cv ?_) ?_
   ·replace H:=e1026;clear e1026
    refine AWp.cond (decide (x1002>x1003)) (by kernel_rfl) (fun c1005 => ?_) (fun c1005 => ?_)
    ·replace H:=iT c1005 H
     obtain⟨t1008,e1009,H⟩:=Z4 H
     refine sR hP hn hm [(7,.call [(0,0)] [(0,0)] [] [] 1 (.tup []) [(0,some (.row 2 78 (t1008.map Z0)))])] [] [0,2,4,10,11] [(0,some (.row 2 78 (t1008.map Z0)))] [0] [_,_] ⟨Try.call91,Zc.ok x1001 (i64.wrap (a2-x1002)) a2 x1003 t1008 e1009,trivial⟩ ?_
     refine rO hP hn hm [] [(10,iV .i64 (i64.wrap (x1002-x1003)))] [0,2,4,10,11] [] [0] ?_
     obtain rfl:=sj H
     exact lf [(0,0)] [] [] (by kernel_rfl) ⟨rfl,rfl⟩
    ·replace H:=iF c1005 H
     obtain⟨t1012,e1013,H⟩:=Z4 H
     refine sR hP hn hm [(11,.call [(0,0)] [(0,0)] [] [] 1 (.tup []) [(0,some (.row 2 78 (t1012.map Z0)))])] [] [0,2,4,10,11] [(0,some (.row 2 78 (t1012.map Z0)))] [0] [_,_] ⟨Try.call91,Zc.ok x1001 (i64.wrap (a2-x1002)) (i64.wrap ((i64.wrap (a2+x1003))-x1002)) x1002 t1012 e1013,trivial⟩ ?_
     refine rO hP hn hm [] [(11,iV .i64 (i64.wrap (x1003-x1002)))] [0,2,4,10,11] [] [0] ?_
     obtain rfl:=sj H
     exact lf [(0,0)] [] [] (by kernel_rfl) ⟨rfl,rfl⟩
   ·obtain⟨x1014,x1015,x1016⟩:=o1025
    rintro e s ⟨rfl,rfl⟩
    exact LWp.conv [(0,0)] [] [] (by kernel_rfl) (ih _ _ _ _ H)
  ·replace H:=iF c1004 H
   refine AWp.exit ?_
   obtain rfl:=sj H
   exact lf [(0,0)] [] [] (by kernel_rfl) ⟨rfl,rfl⟩
 ·obtain⟨x1017,x1018⟩:=o1023
  rintro e s ⟨rfl,rfl⟩
  obtain⟨t1021,e1022,H⟩:=Z4 H
  refine rG hP hn hm [(7,.call [(0,0)] [(0,0)] [] [] 1 (.tup []) [(0,some (.row 2 78 (t1021.map Z0)))])] [] [] [(0,some (.row 2 78 (t1021.map Z0)))] [0] [_,_] ⟨Try.call91,Zc.ok x1017 (i64.wrap (a2-x1018)) a2 x1018 t1021 e1022,trivial⟩ ?_
  obtain rfl:=sj H
  exact Exists.intro ⟨[],[(0,some (.row 2 78 (t1021.map Z0)))],1⟩ (And.intro (fun _ _ h=>h.conv (inv:=[(0,0)]) (vk:=[]) (e0:=[]) (t:=⟨[],[(0,some (.row 2 78 (t1021.map Z0)))],1⟩) (by kernel_rfl)) (And.intro (.inr rfl) (And.intro rfl (And.intro (by kernel_rfl) (by kernel_rfl)))))
def Z5.l0 (a0:List Z2) (a1:Int) (x746:Int) (x747:Int):Option (Int):=if(decide (x746<x747))=true then((at? a0 (i64.wrap (Int.fdiv (u64.wrap (i64.wrap (x746+x747))) 2)))>>=fun b757=>(at? a0 a1)>>=fun b760=>(Z0u.f b757 b760)>>=fun t763=>((if(decide (t763<(0:Int)))=true then(some (i64.wrap ((i64.wrap (Int.fdiv (u64.wrap (i64.wrap (x746+x747))) 2))+(1:Int)),x747)) else(some (x746,i64.wrap (Int.fdiv (u64.wrap (i64.wrap (x746+x747))) 2)))):Option (Int×Int))>>=fun oo=>match oo with | (x766,x767)=>(Z5.l0 a0 a1 x766 x767)) else(some x746)
partial_fixpoint
def Z5.l1 (x768:Int) (x788:List Z2) (x789:Int):Option (List Z2):=if(decide (x789<(i64.wrap (x768-(1:Int)))))=true then((at? x788 (i64.wrap (x789+(1:Int))))>>=fun b800=>(at? x788 x789)>>=fun b803=>(at? (x788.set (Int.toNat (x789)) b800) (i64.wrap (x789+(1:Int))))>>=fun b806=>Z5.l1 x768 ((x788.set (Int.toNat (x789)) b800).set (Int.toNat (i64.wrap (x789+(1:Int)))) b803) (i64.wrap (x789+(1:Int)))) else(some x788)
partial_fixpoint
def Z5.l2 (a0:List Z2) (a2:Int) (x831:Int) (x832:Int):Option (Int):=if(decide (x831<x832))=true then((at? a0 a2)>>=fun b842=>(at? a0 (i64.wrap (Int.fdiv (u64.wrap (i64.wrap (x831+x832))) 2)))>>=fun b845=>(Z0u.f b842 b845)>>=fun t848=>((if(!(decide (t848<(0:Int))))=true then(some (i64.wrap ((i64.wrap (Int.fdiv (u64.wrap (i64.wrap (x831+x832))) 2))+(1:Int)),x832)) else(some (x831,i64.wrap (Int.fdiv (u64.wrap (i64.wrap (x831+x832))) 2)))):Option (Int×Int))>>=fun oo=>match oo with | (x851,x852)=>(Z5.l2 a0 a2 x851 x852)) else(some x831)
partial_fixpoint
def Z5.l3 (x853:Int) (x873:List Z2) (x874:Int):Option (List Z2):=if(decide (x874>x853))=true then((at? x873 (i64.wrap (x874-(1:Int))))>>=fun b885=>(at? x873 x874)>>=fun b888=>(at? (x873.set (Int.toNat (x874)) b885) (i64.wrap (x874-(1:Int))))>>=fun b891=>Z5.l3 x853 ((x873.set (Int.toNat (x874)) b885).set (Int.toNat (i64.wrap (x874-(1:Int)))) b888) (i64.wrap (x874-(1:Int)))) else(some x873)
partial_fixpoint
def Z5.l4 (a0:List Z2) (a1:Int) (a2:Int) (a3:Int) (x918:Int) (x919:Int):Option (Int):=if(decide (x918<x919))=true then((at? a0 (i64.wrap ((i64.wrap ((i64.wrap ((i64.wrap (Int.fdiv (u64.wrap (i64.wrap (a1+a3))) 2))+a2))-(1:Int)))-(i64.wrap (Int.fdiv (u64.wrap (i64.wrap (x918+x919))) 2)))))>>=fun b929=>(at? a0 (i64.wrap (Int.fdiv (u64.wrap (i64.wrap (x918+x919))) 2)))>>=fun b932=>(Z0u.f b929 b932)>>=fun t935=>((if(!(decide (t935<(0:Int))))=true then(some (i64.wrap ((i64.wrap (Int.fdiv (u64.wrap (i64.wrap (x918+x919))) 2))+(1:Int)),x919)) else(some (x918,i64.wrap (Int.fdiv (u64.wrap (i64.wrap (x918+x919))) 2)))):Option (Int×Int))>>=fun oo=>match oo with | (x938,x939)=>(Z5.l4 a0 a1 a2 a3 x938 x939)) else(some x918)
partial_fixpoint
def Z5.f (a0:List Z2) (a1:Int) (a2:Int) (a3:Int):Option (List Z2):=if((i64.wrap (a2-a1))==(1:Int))=true then((Z5.l0 a0 a1 a2 a3)>>=fun x768=>(Z5.l1 x768 a0 a1)>>=fun x809=>some x809) else(if((i64.wrap (a3-a2))==(1:Int))=true then((Z5.l2 a0 a2 a1 a2)>>=fun x853=>(Z5.l3 x853 a0 a2)>>=fun x894=>some x894) else(((if(decide (a2>(i64.wrap (Int.fdiv (u64.wrap (i64.wrap (a1+a3))) 2))))=true then(some (i64.wrap ((i64.wrap ((i64.wrap (Int.fdiv (u64.wrap (i64.wrap (a1+a3))) 2))+a2))-a3),i64.wrap (Int.fdiv (u64.wrap (i64.wrap (a1+a3))) 2))) else(some (a1,a2))):Option (Int×Int))>>=fun oo=>match oo with | (x896,x897)=>((Z5.l4 a0 a1 a2 a3 x896 x897)>>=fun x940=>((if(decide (x940<a2))=true then(some (decide (a2<(i64.wrap ((i64.wrap ((i64.wrap (Int.fdiv (u64.wrap (i64.wrap (a1+a3))) 2))+a2))-x940))))) else(some false)):Option (Bool))>>=fun x943=>((if x943=true then((Zf.f a0 x940 a2 (i64.wrap ((i64.wrap ((i64.wrap (Int.fdiv (u64.wrap (i64.wrap (a1+a3))) 2))+a2))-x940)))>>=fun t1029=>some t1029) else(some a0)):Option (List Z2))>>=fun x1031=>((if(decide (a1<x940))=true then(some (decide (x940<(i64.wrap (Int.fdiv (u64.wrap (i64.wrap (a1+a3))) 2))))) else(some false)):Option (Bool))>>=fun x1034=>((if x1034=true then((Z5.f x1031 a1 x940 (i64.wrap (Int.fdiv (u64.wrap (i64.wrap (a1+a3))) 2)))>>=fun t1038=>some t1038) else(some x1031)):Option (List Z2))>>=fun x1040=>((if(decide ((i64.wrap (Int.fdiv (u64.wrap (i64.wrap (a1+a3))) 2))<(i64.wrap ((i64.wrap ((i64.wrap (Int.fdiv (u64.wrap (i64.wrap (a1+a3))) 2))+a2))-x940))))=true then(some (decide ((i64.wrap ((i64.wrap ((i64.wrap (Int.fdiv (u64.wrap (i64.wrap (a1+a3))) 2))+a2))-x940))<a3))) else(some false)):Option (Bool))>>=fun x1043=>((if x1043=true then((Z5.f x1040 (i64.wrap (Int.fdiv (u64.wrap (i64.wrap (a1+a3))) 2)) (i64.wrap ((i64.wrap ((i64.wrap (Int.fdiv (u64.wrap (i64.wrap (a1+a3))) 2))+a2))-x940)) a3)>>=fun t1047=>some t1047) else(some x1040)):Option (List Z2))>>=fun x1049=>some x1049)))
partial_fixpoint
theorem Z5.ok (a0:List Z2) (a1:Int) (a2:Int) (a3:Int) (r:List Z2) (H:Z5.f a0 a1 a2 a3=some r):Pv.Fn Try.prog 85 [.own 0,iV .i64 a1,iV .i64 a2,iV .i64 a3,.im (.sc (.func (.func 75) #[] #[]))] [(0,some (.row 2 78 (a0.map Z0)))] 1 (fun x o=>x = .tup []∧o=[(0,some (.row 2 78 (r.map Z0)))]):=by
 refine Z5.f.partial_correctness (motive:=fun a0 a1 a2 a3 r=>Pv.Fn Try.prog 85 [.own 0,iV .i64 a1,iV .i64 a2,iV .i64 a3,.im (.sc (.func (.func 75) #[] #[]))] [(0,some (.row 2 78 (a0.map Z0)))] 1 (fun x o=>x = .tup []∧o=[(0,some (.row 2 78 (r.map Z0)))])) ?_ a0 a1 a2 a3 r H
 clear H a0 a1 a2 a3 r;intro self ihF a0 a1 a2 a3 r H
 refine Fn.bodyK [0] Try.func85 rfl rfl (fun Γ hP hn => ?_)
 have hm:Try.prog.follows .mixedOrders=true:=by kernel_rfl
 replace hn:Γ.n=220:=hn
 refine AWp.seq ?_
 refine sO hP hn hm [] [(28,bV ((i64.wrap (a2-a1))==(1:Int)))] [0,1,2,3,4,28] [] [0] ?_
 refine AWp.cond ((i64.wrap (a2-a1))==(1:Int)) (by kernel_rfl) (fun c725 => ?_) (fun c725 => ?_)
 ·replace H:=iT c725 H
  refine sO hP hn hm [] [(10,iV .i64 a2)] [0,1,3,4,10] [] [0] ?_
  refine sO hP hn hm [] [(11,iV .i64 a3)] [0,1,4,10,11] [] [0] ?_
  refine AWp.seq ?_
  refine AWp.block ?_
  obtain⟨o1050,e1051,H⟩:=Z4 H
  refine AWp.loop (LWp.conv (inv:=[(0,0)]) (vk:=[]) (e0:=[]) (t:=⟨[(0,.own 0),(1,iV .i64 a1),(4,.im (.sc (.func (.func 75) #[] #[]))),(10,iV .i64 a2),(11,iV .i64 a3)],[(0,some (.row 2 78 (a0.map Z0)))],1⟩) (by kernel_rfl) ?_)
  refine LWp.mono (Q:=fun e s=>(match (generalizing:=false) o1050 with | x768=>e = .exit 0∧s=⟨[(0,.own 0),(1,iV .i64 a1),(10,iV .i64 x768)],[(0,some (.row 2 78 (a0.map Z0)))],1⟩)) (LWp.cv (Zt (fun body hbody => ?_))) ?_
  ·refine                                              Z5.l0.partial_correctness a0 a1 (motive:=fun x746 x747 o1050=>LWp Γ body (fun e s=>∃ t,Cv Γ s t∧(match (generalizing:=false) o1050 with | x768=>e = .exit 0∧t=⟨[(0,.own 0),(1,iV .i64 a1),(10,iV .i64 x768)],[(0,some (.row 2 78 (a0.map Z0     )))],1⟩)) ⟨[(0,.own 0),(1,iV .i64 a1),(4,.im (.sc (.func (.func 75) #[] #[]))),(10,iV .i64 x746),(11,iV .i64 x747)],[(0,some (.row 2 78 (a0.map Z0     )))],1⟩) ?_ _ _ _ e1051
   clear H e1051 o1050;intro self ih x746 x747 o1050 H
   subst hbody
   refine LWp.round ?_
   refine AWp.seq ?_
   refine sO hP hn hm [] [(33,bV (decide (x746<x747)))] [0,1,4,10,11,33] [] [0] ?_
   refine AWp.cond (decide (x746<x747)) (by kernel_rfl) (fun c748 => ?_) (fun c748 => ?_)
   ·replace H:=iT c748 H
    refine AWp.skip ?_
    refine AWp.block ?_
    refine sR hP hn hm [] [(12,iV .i64 (i64.wrap (Int.fdiv (u64.wrap (i64.wrap (x746+x747))) 2)))] [0,1,4,10,11,12] [] [0] [(0:Int)≤1] ⟨by decide,trivial⟩ ?_
    obtain⟨b757,p758,q759,H⟩:=Z0d H
    obtain⟨b760,p761,q762,H⟩:=Z0d H
    obtain⟨t763,e764,H⟩:=Z4 H
    refine sR hP hn hm [(4,.c (Z0 b757)),(8,.c (Z0 b760)),(9,.call [] [] [] [] 0 (iV .i64 t763) [])] [(50,bV (decide (t763<(0:Int))))] [0,1,4,10,11,12,50] [] [0] [_,_,_,_,_,_,_,_] ⟨p758,Z1g Z0 p758 q759,Zk Z0 q759,p761,Z1g Z0 p761 q762,Zk Z0 q762,Try.call75,Z0u.ok b757 b760 t763 e764,trivial⟩ ?_
    obtain⟨o1052,e1053,H⟩:=Z4 H
    refine AWp.mono (Q:=fun e s=>(match (generalizing:=false) o1052 with | (x766,x767)=>e = .normal∧s=⟨[(0,.own 0),(1,iV .i64 a1),(4,.im (.sc (.func (.func 75) #[] #[]))),(10,iV .i64 x766),(11,iV .i64 x767)],[(0,some (.row 2 78 (a0.map Z0)))],1⟩)) (AWp.cv ?_) ?_
    ·replace H:=e1053;clear e1053
     refine AWp.cond (decide (t763<(0:Int))) (by kernel_rfl) (fun c765 => ?_) (fun c765 => ?_)
     ·replace H:=iT c765 H
      refine rO hP hn hm [] [(10,iV .i64 (i64.wrap ((i64.wrap (Int.fdiv (u64.wrap (i64.wrap (x746+x747))) 2))+(1:Int))))] [0,1,4,10,11] [] [0] ?_
      obtain rfl:=sj H
      exact lf [(0,0)] [] [] (by kernel_rfl) ⟨rfl,rfl⟩
     ·replace H:=iF c765 H
      refine rO hP hn hm [] [(11,iV .i64 (i64.wrap (Int.fdiv (u64.wrap (i64.wrap (x746+x747))) 2)))] [0,1,4,10,11] [] [0] ?_
      obtain rfl:=sj H
      exact lf [(0,0)] [] [] (by kernel_rfl) ⟨rfl,rfl⟩
    ·obtain⟨x766,x767⟩:=o1052
     rintro e s ⟨rfl,rfl⟩
     exact LWp.conv [(0,0)] [] [] (by kernel_rfl) (ih _ _ _ H)
   ·replace H:=iF c748 H
    refine AWp.exit ?_
    obtain rfl:=sj H
    exact lf [(0,0)] [] [] (by kernel_rfl) ⟨rfl,rfl⟩
  ·obtain⟨x768,rfl⟩:∃ z,z=o1050:=⟨_,rfl⟩
   rintro e s ⟨rfl,rfl⟩
   refine AWp.seq ?_
   refine sO hP hn hm [] [(13,iV .i64 a1)] [0,10,13] [] [0] ?_
   refine AWp.block ?_
   obtain⟨o1054,e1055,H⟩:=Z4 H
   refine AWp.loop (LWp.conv (inv:=[(0,0)]) (vk:=[]) (e0:=[]) (t:=⟨[(0,.own 0),(10,iV .i64 x768),(13,iV .i64 a1)],[(0,some (.row 2 78 (a0.map Z0)))],1⟩) (by kernel_rfl) ?_)
   refine LWp.mono (Q:=fun e s=>(match (generalizing:=false) o1054 with | x809=>e = .exit 2∧s=⟨[],[(0,some (.row 2 78 (x809.map Z0)))],1⟩)) (LWp.cv (Zt (fun body hbody => ?_))) ?_
   ·refine                                              Z5.l1.partial_correctness x768 (motive:=fun x788 x789 o1054=>LWp Γ body (fun e s=>∃ t,Cv Γ s t∧(match (generalizing:=false) o1054 with | x809=>e = .exit 2∧t=⟨[],[(0,some (.row 2 78 (x809.map Z0     )))],1⟩)) ⟨[(0,.own 0),(10,iV .i64 x768),(13,iV .i64 x789)],[(0,some (.row 2 78 (x788.map Z0     )))],1⟩) ?_ _ _ _ e1055
    clear H e1055 o1054;intro self ih x788 x789 o1054 H
    subst hbody
    refine LWp.round ?_
    refine AWp.seq ?_
    refine sO hP hn hm [] [(58,bV (decide (x789<(i64.wrap (x768-(1:Int))))))] [0,10,13,58] [] [0] ?_
    refine AWp.cond (decide (x789<(i64.wrap (x768-(1:Int))))) (by kernel_rfl) (fun c790 => ?_) (fun c790 => ?_)
    ·replace H:=iT c790 H
     refine AWp.skip ?_
     refine AWp.seq ?_
     refine AWp.block ?_
     obtain⟨b800,p801,q802,H⟩:=Z0d H
     obtain⟨b803,p804,q805,H⟩:=Z0d H
     obtain⟨b806,p807,q808,H⟩:=Z0d H
     refine rG hP hn hm [(9,.c (Z0 b800)),(13,.c (Z0 b803)),(15,.put (Z0 b803) ((x788.set (Int.toNat (x789)) b800).map Z0)),(17,.put (Z0 b806) (((x788.set (Int.toNat (x789)) b800).set (Int.toNat (i64.wrap (x789+(1:Int)))) b803).map Z0))] [] [0,10,13] [(0,some (.row 2 78 (((x788.set (Int.toNat (x789)) b800).set (Int.toNat (i64.wrap (x789+(1:Int)))) b803).map Z0)))] [0] [_,_,_,_,_,_,_,_,_,(x788.set (Int.toNat (x789)) b800).map Z0=(x788.map Z0).set (Int.toNat (x789)) (Z1c (Z0 b803) 0 [iI .i64 b800.f0,iI .u64 b800.f1]),_,_,_,((x788.set (Int.toNat (x789)) b800).set (Int.toNat (i64.wrap (x789+(1:Int)))) b803).map Z0=((x788.set (Int.toNat (x789)) b800).map Z0).set (Int.toNat (i64.wrap (x789+(1:Int)))) (Z1c (Z0 b806) 0 [iI .i64 b803.f0,iI .u64 b803.f1])] ⟨p801,Z1g Z0 p801 q802,Zk Z0 q802,p804,Z1g Z0 p804 q805,Zk Z0 q805,p804,Z1g Z0 p804 q805,Zk Z0 q805,by exact set1 _ _ _ _,p807,Z1g Z0 p807 q808,Zk Z0 q808,by exact set1 _ _ _ _,trivial⟩ ?_
     refine rO hP hn hm [] [(13,iV .i64 (i64.wrap (x789+(1:Int))))] [0,10,13] [] [0] ?_
     exact LWp.conv [(0,0)] [] [] (by kernel_rfl) (ih _ _ _ H)
    ·replace H:=iF c790 H
     refine AWp.exit ?_
     obtain rfl:=sj H
     exact lf [(0,0)] [] [] (by kernel_rfl) ⟨rfl,rfl⟩
   ·obtain⟨x809,rfl⟩:∃ z,z=o1054:=⟨_,rfl⟩
    rintro e s ⟨rfl,rfl⟩
    refine AWp.conv (inv:=[(0,0)]) (vk:=[]) (e0:=[]) (t:=⟨[],[(0,some (.row 2 78 (x809.map Z0)))],1⟩) (by kernel_rfl) ?_
    refine AWp.ret ?_
    obtain rfl:=sj H
    exact rl (.inl rfl) rfl (by kernel_rfl) (by kernel_rfl)
 ·replace H:=iF c725 H
  refine AWp.skip ?_
  refine AWp.seq ?_
  refine sO hP hn hm [] [(80,bV ((i64.wrap (a3-a2))==(1:Int)))] [0,1,2,3,4,80] [] [0] ?_
  refine AWp.cond ((i64.wrap (a3-a2))==(1:Int)) (by kernel_rfl) (fun c810 => ?_) (fun c810 => ?_)
  ·replace H:=iT c810 H
   refine sO hP hn hm [] [(14,iV .i64 a1)] [0,2,4,14] [] [0] ?_
   refine sO hP hn hm [] [(15,iV .i64 a2)] [0,2,4,14,15] [] [0] ?_
   refine AWp.seq ?_
   refine AWp.block ?_
   obtain⟨o1056,e1057,H⟩:=Z4 H
   refine AWp.loop (LWp.conv (inv:=[(0,0)]) (vk:=[]) (e0:=[]) (t:=⟨[(0,.own 0),(2,iV .i64 a2),(4,.im (.sc (.func (.func 75) #[] #[]))),(14,iV .i64 a1),(15,iV .i64 a2)],[(0,some (.row 2 78 (a0.map Z0)))],1⟩) (by kernel_rfl) ?_)
   refine LWp.mono (Q:=fun e s=>(match (generalizing:=false) o1056 with | x853=>e = .exit 4∧s=⟨[(0,.own 0),(2,iV .i64 a2),(14,iV .i64 x853)],[(0,some (.row 2 78 (a0.map Z0)))],1⟩)) (LWp.cv (Zt (fun body hbody => ?_))) ?_
   ·refine                                              Z5.l2.partial_correctness a0 a2 (motive:=fun x831 x832 o1056=>LWp Γ body (fun e s=>∃ t,Cv Γ s t∧(match (generalizing:=false) o1056 with | x853=>e = .exit 4∧t=⟨[(0,.own 0),(2,iV .i64 a2),(14,iV .i64 x853)],[(0,some (.row 2 78 (a0.map Z0     )))],1⟩)) ⟨[(0,.own 0),(2,iV .i64 a2),(4,.im (.sc (.func (.func 75) #[] #[]))),(14,iV .i64 x831),(15,iV .i64 x832)],[(0,some (.row 2 78 (a0.map Z0     )))],1⟩) ?_ _ _ _ e1057
    clear H e1057 o1056;intro self ih x831 x832 o1056 H
    subst hbody
    refine LWp.round ?_
    refine AWp.seq ?_
    refine sO hP hn hm [] [(85,bV (decide (x831<x832)))] [0,2,4,14,15,85] [] [0] ?_
    refine AWp.cond (decide (x831<x832)) (by kernel_rfl) (fun c833 => ?_) (fun c833 => ?_)
    ·replace H:=iT c833 H
     refine AWp.skip ?_
     refine AWp.block ?_
     refine sR hP hn hm [] [(16,iV .i64 (i64.wrap (Int.fdiv (u64.wrap (i64.wrap (x831+x832))) 2)))] [0,2,4,14,15,16] [] [0] [(0:Int)≤1] ⟨by decide,trivial⟩ ?_
     obtain⟨b842,p843,q844,H⟩:=Z0d H
     obtain⟨b845,p846,q847,H⟩:=Z0d H
     obtain⟨t848,e849,H⟩:=Z4 H
     refine sR hP hn hm [(4,.c (Z0 b842)),(8,.c (Z0 b845)),(9,.call [] [] [] [] 0 (iV .i64 t848) [])] [(103,bV (!(decide (t848<(0:Int)))))] [0,2,4,14,15,16,103] [] [0] [_,_,_,_,_,_,_,_] ⟨p843,Z1g Z0 p843 q844,Zk Z0 q844,p846,Z1g Z0 p846 q847,Zk Z0 q847,Try.call75,Z0u.ok b842 b845 t848 e849,trivial⟩ ?_
     obtain⟨o1058,e1059,H⟩:=Z4 H
     refine AWp.mono (Q:=fun e s=>(match (generalizing:=false) o1058 with | (x851,x852)=>e = .normal∧s=⟨[(0,.own 0),(2,iV .i64 a2),(4,.im (.sc (.func (.func 75) #[] #[]))),(14,iV .i64 x851),(15,iV .i64 x852)],[(0,some (.row 2 78 (a0.map Z0)))],1⟩)) (AWp.cv ?_) ?_
     ·replace H:=e1059;clear e1059
      refine AWp.cond (!(decide (t848<(0:Int)))) (by kernel_rfl) (fun c850 => ?_) (fun c850 => ?_)
      ·replace H:=iT c850 H
       refine rO hP hn hm [] [(14,iV .i64 (i64.wrap ((i64.wrap (Int.fdiv (u64.wrap (i64.wrap (x831+x832))) 2))+(1:Int))))] [0,2,4,14,15] [] [0] ?_
       obtain rfl:=sj H
       exact lf [(0,0)] [] [] (by kernel_rfl) ⟨rfl,rfl⟩
      ·replace H:=iF c850 H
       refine rO hP hn hm [] [(15,iV .i64 (i64.wrap (Int.fdiv (u64.wrap (i64.wrap (x831+x832))) 2)))] [0,2,4,14,15] [] [0] ?_
       obtain rfl:=sj H
       exact lf [(0,0)] [] [] (by kernel_rfl) ⟨rfl,rfl⟩
     ·obtain⟨x851,x852⟩:=o1058
      rintro e s ⟨rfl,rfl⟩
      exact LWp.conv [(0,0)] [] [] (by kernel_rfl) (ih _ _ _ H)
    ·replace H:=iF c833 H
     refine AWp.exit ?_
     obtain rfl:=sj H
     exact lf [(0,0)] [] [] (by kernel_rfl) ⟨rfl,rfl⟩
   ·obtain⟨x853,rfl⟩:∃ z,z=o1056:=⟨_,rfl⟩
    rintro e s ⟨rfl,rfl⟩
    refine AWp.seq ?_
    refine sO hP hn hm [] [(17,iV .i64 a2)] [0,14,17] [] [0] ?_
    refine AWp.block ?_
    obtain⟨o1060,e1061,H⟩:=Z4 H
    refine AWp.loop (LWp.conv (inv:=[(0,0)]) (vk:=[]) (e0:=[]) (t:=⟨[(0,.own 0),(14,iV .i64 x853),(17,iV .i64 a2)],[(0,some (.row 2 78 (a0.map Z0)))],1⟩) (by kernel_rfl) ?_)
    refine LWp.mono (Q:=fun e s=>(match (generalizing:=false) o1060 with | x894=>e = .exit 6∧s=⟨[],[(0,some (.row 2 78 (x894.map Z0)))],1⟩)) (LWp.cv (Zt (fun body hbody => ?_))) ?_
    ·refine                                              Z5.l3.partial_correctness x853 (motive:=fun x873 x874 o1060=>LWp Γ body (fun e s=>∃ t,Cv Γ s t∧(match (generalizing:=false) o1060 with | x894=>e = .exit 6∧t=⟨[],[(0,some (.row 2 78 (x894.map Z0     )))],1⟩)) ⟨[(0,.own 0),(14,iV .i64 x853),(17,iV .i64 x874)],[(0,some (.row 2 78 (x873.map Z0     )))],1⟩) ?_ _ _ _ e1061
     clear H e1061 o1060;intro self ih x873 x874 o1060 H
     subst hbody
     refine LWp.round ?_
     refine AWp.seq ?_
     refine sO hP hn hm [] [(110,bV (decide (x874>x853)))] [0,14,17,110] [] [0] ?_
     refine AWp.cond (decide (x874>x853)) (by kernel_rfl) (fun c875 => ?_) (fun c875 => ?_)
     ·replace H:=iT c875 H
      refine AWp.skip ?_
      refine AWp.seq ?_
      refine AWp.block ?_
      obtain⟨b885,p886,q887,H⟩:=Z0d H
      obtain⟨b888,p889,q890,H⟩:=Z0d H
      obtain⟨b891,p892,q893,H⟩:=Z0d H
      refine rG hP hn hm [(9,.c (Z0 b885)),(13,.c (Z0 b888)),(15,.put (Z0 b888) ((x873.set (Int.toNat (x874)) b885).map Z0)),(17,.put (Z0 b891) (((x873.set (Int.toNat (x874)) b885).set (Int.toNat (i64.wrap (x874-(1:Int)))) b888).map Z0))] [] [0,14,17] [(0,some (.row 2 78 (((x873.set (Int.toNat (x874)) b885).set (Int.toNat (i64.wrap (x874-(1:Int)))) b888).map Z0)))] [0] [_,_,_,_,_,_,_,_,_,(x873.set (Int.toNat (x874)) b885).map Z0=(x873.map Z0).set (Int.toNat (x874)) (Z1c (Z0 b888) 0 [iI .i64 b885.f0,iI .u64 b885.f1]),_,_,_,((x873.set (Int.toNat (x874)) b885).set (Int.toNat (i64.wrap (x874-(1:Int)))) b888).map Z0=((x873.set (Int.toNat (x874)) b885).map Z0).set (Int.toNat (i64.wrap (x874-(1:Int)))) (Z1c (Z0 b891) 0 [iI .i64 b888.f0,iI .u64 b888.f1])] ⟨p886,Z1g Z0 p886 q887,Zk Z0 q887,p889,Z1g Z0 p889 q890,Zk Z0 q890,p889,Z1g Z0 p889 q890,Zk Z0 q890,by exact set1 _ _ _ _,p892,Z1g Z0 p892 q893,Zk Z0 q893,by exact set1 _ _ _ _,trivial⟩ ?_
      refine rO hP hn hm [] [(17,iV .i64 (i64.wrap (x874-(1:Int))))] [0,14,17] [] [0] ?_
      exact LWp.conv [(0,0)] [] [] (by kernel_rfl) (ih _ _ _ H)
     ·replace H:=iF c875 H
      refine AWp.exit ?_
      obtain rfl:=sj H
      exact lf [(0,0)] [] [] (by kernel_rfl) ⟨rfl,rfl⟩
    ·obtain⟨x894,rfl⟩:∃ z,z=o1060:=⟨_,rfl⟩
     rintro e s ⟨rfl,rfl⟩
     refine AWp.conv (inv:=[(0,0)]) (vk:=[]) (e0:=[]) (t:=⟨[],[(0,some (.row 2 78 (x894.map Z0)))],1⟩) (by kernel_rfl) ?_
     refine AWp.ret ?_
     obtain rfl:=sj H
     exact rl (.inl rfl) rfl (by kernel_rfl) (by kernel_rfl)
  ·replace H:=iF c810 H
   refine AWp.skip ?_
   refine sR hP hn hm [] [(18,iV .i64 (i64.wrap (Int.fdiv (u64.wrap (i64.wrap (a1+a3))) 2)))] [0,1,2,3,4,18] [] [0] [(0:Int)≤1] ⟨by decide,trivial⟩ ?_
   refine sO hP hn hm [] [(19,iV .i64 (i64.wrap ((i64.wrap (Int.fdiv (u64.wrap (i64.wrap (a1+a3))) 2))+a2)))] [0,1,2,3,4,18,19] [] [0] ?_
   refine sO hP hn hm [] [] [0,1,2,3,4,18,19] [] [0] ?_
   refine AWp.seq ?_
   refine sO hP hn hm [] [(140,bV (decide (a2>(i64.wrap (Int.fdiv (u64.wrap (i64.wrap (a1+a3))) 2)))))] [0,1,2,3,4,18,19,140] [] [0] ?_
   obtain⟨o1062,e1063,H⟩:=Z4 H
   refine AWp.mono (Q:=fun e s=>(match (generalizing:=false) o1062 with | (x896,x897)=>e = .normal∧s=⟨[(0,.own 0),(1,iV .i64 a1),(2,iV .i64 a2),(3,iV .i64 a3),(4,.im (.sc (.func (.func 75) #[] #[]))),(18,iV .i64 (i64.wrap (Int.fdiv (u64.wrap (i64.wrap (a1+a3))) 2))),(19,iV .i64 (i64.wrap ((i64.wrap (Int.fdiv (u64.wrap (i64.wrap (a1+a3))) 2))+a2))),(20,iV .i64 x896),(21,iV .i64 x897)],[(0,some (.row 2 78 (a0.map Z0)))],1⟩)) (AWp.cv ?_) ?_
   ·replace H:=e1063;clear e1063
    refine AWp.cond (decide (a2>(i64.wrap (Int.fdiv (u64.wrap (i64.wrap (a1+a3))) 2)))) (by kernel_rfl) (fun c895 => ?_) (fun c895 => ?_)
    ·replace H:=iT c895 H
     refine sO hP hn hm [] [(20,iV .i64 (i64.wrap ((i64.wrap ((i64.wrap (Int.fdiv (u64.wrap (i64.wrap (a1+a3))) 2))+a2))-a3)))] [0,1,2,3,4,18,19,20] [] [0] ?_
     refine rO hP hn hm [] [(21,iV .i64 (i64.wrap (Int.fdiv (u64.wrap (i64.wrap (a1+a3))) 2)))] [0,1,2,3,4,18,19,20,21] [] [0] ?_
     obtain rfl:=sj H
     exact lf [(0,0)] [] [] (by kernel_rfl) ⟨rfl,rfl⟩
    ·replace H:=iF c895 H
     refine sO hP hn hm [] [(20,iV .i64 a1)] [0,1,2,3,4,18,19,20] [] [0] ?_
     refine rO hP hn hm [] [(21,iV .i64 a2)] [0,1,2,3,4,18,19,20,21] [] [0] ?_
     obtain rfl:=sj H
     exact lf [(0,0)] [] [] (by kernel_rfl) ⟨rfl,rfl⟩
   ·obtain⟨x896,x897⟩:=o1062
    rintro e s ⟨rfl,rfl⟩
    refine sO hP hn hm [] [(22,iV .i64 (i64.wrap ((i64.wrap ((i64.wrap (Int.fdiv (u64.wrap (i64.wrap (a1+a3))) 2))+a2))-(1:Int))))] [0,1,2,3,4,18,19,20,21,22] [] [0] ?_
    refine AWp.seq ?_
    refine AWp.block ?_
    obtain⟨o1064,e1065,H⟩:=Z4 H
    refine AWp.loop (LWp.conv (inv:=[(0,0)]) (vk:=[]) (e0:=[]) (t:=⟨[(0,.own 0),(1,iV .i64 a1),(2,iV .i64 a2),(3,iV .i64 a3),(4,.im (.sc (.func (.func 75) #[] #[]))),(18,iV .i64 (i64.wrap (Int.fdiv (u64.wrap (i64.wrap (a1+a3))) 2))),(19,iV .i64 (i64.wrap ((i64.wrap (Int.fdiv (u64.wrap (i64.wrap (a1+a3))) 2))+a2))),(20,iV .i64 x896),(21,iV .i64 x897),(22,iV .i64 (i64.wrap ((i64.wrap ((i64.wrap (Int.fdiv (u64.wrap (i64.wrap (a1+a3))) 2))+a2))-(1:Int))))],[(0,some (.row 2 78 (a0.map Z0)))],1⟩) (by kernel_rfl) ?_)
    refine LWp.mono (Q:=fun e s=>(match (generalizing:=false) o1064 with | x940=>e = .exit 8∧s=⟨[(0,.own 0),(1,iV .i64 a1),(2,iV .i64 a2),(3,iV .i64 a3),(4,.im (.sc (.func (.func 75) #[] #[]))),(18,iV .i64 (i64.wrap (Int.fdiv (u64.wrap (i64.wrap (a1+a3))) 2))),(19,iV .i64 (i64.wrap ((i64.wrap (Int.fdiv (u64.wrap (i64.wrap (a1+a3))) 2))+a2))),(20,iV .i64 x940)],[(0,some (.row 2 78 (a0.map Z0)))],1⟩)) (LWp.cv (Zt (fun body hbody => ?_))) ?_
    ·refine                                              Z5.l4.partial_correctness a0 a1 a2 a3 (motive:=fun x918 x919 o1064=>LWp Γ body (fun e s=>∃ t,Cv Γ s t∧(match (generalizing:=false) o1064 with | x940=>e = .exit 8∧t=⟨[(0,.own 0),(1,iV .i64 a1),(2,iV .i64 a2),(3,iV .i64 a3),(4,.im (.sc (.func (.func 75) #[] #[]))),(18,iV .i64 (i64.wrap (Int.fdiv (u64.wrap (i64.wrap (a1+a3))) 2))),(19,iV .i64 (i64.wrap ((i64.wrap (Int.fdiv (u64.wrap (i64.wrap (a1+a3))) 2))+a2))),(20,iV .i64 x940)],[(0,some (.row 2 78 (a0.map Z0     )))],1⟩)) ⟨[(0,.own 0),(1,iV .i64 a1),(2,iV .i64 a2),(3,iV .i64 a3),(4,.im (.sc (.func (.func 75) #[] #[]))),(18,iV .i64 (i64.wrap (Int.fdiv (u64.wrap (i64.wrap (a1+a3))) 2))),(19,iV .i64 (i64.wrap ((i64.wrap (Int.fdiv (u64.wrap (i64.wrap (a1+a3))) 2))+a2))),(20,iV .i64 x918),(21,iV .i64 x919),(22,iV .i64 (i64.wrap ((i64.wrap ((i64.wrap (Int.fdiv (u64.wrap (i64.wrap (a1+a3))) 2))+a2))-(1:Int))))],[(0,some (.row 2 78 (a0.map Z0     )))],1⟩) ?_ _ _ _ e1065
     clear H e1065 o1064;intro self ih x918 x919 o1064 H
     subst hbody
     refine LWp.round ?_
     refine AWp.seq ?_
     refine sO hP hn hm [] [(151,bV (decide (x918<x919)))] [0,1,2,3,4,18,19,20,21,22,151] [] [0] ?_
     refine AWp.cond (decide (x918<x919)) (by kernel_rfl) (fun c920 => ?_) (fun c920 => ?_)
     ·replace H:=iT c920 H
      refine AWp.skip ?_
      refine AWp.block ?_
      refine sR hP hn hm [] [(23,iV .i64 (i64.wrap (Int.fdiv (u64.wrap (i64.wrap (x918+x919))) 2)))] [0,1,2,3,4,18,19,20,21,22,23] [] [0] [(0:Int)≤1] ⟨by decide,trivial⟩ ?_
      obtain⟨b929,p930,q931,H⟩:=Z0d H
      obtain⟨b932,p933,q934,H⟩:=Z0d H
      obtain⟨t935,e936,H⟩:=Z4 H
      refine sR hP hn hm [(6,.c (Z0 b929)),(10,.c (Z0 b932)),(11,.call [] [] [] [] 0 (iV .i64 t935) [])] [(171,bV (!(decide (t935<(0:Int)))))] [0,1,2,3,4,18,19,20,21,22,23,171] [] [0] [_,_,_,_,_,_,_,_] ⟨p930,Z1g Z0 p930 q931,Zk Z0 q931,p933,Z1g Z0 p933 q934,Zk Z0 q934,Try.call75,Z0u.ok b929 b932 t935 e936,trivial⟩ ?_
      obtain⟨o1066,e1067,H⟩:=Z4 H
      refine AWp.mono (Q:=fun e s=>(match (generalizing:=false) o1066 with | (x938,x939)=>e = .normal∧s=⟨[(0,.own 0),(1,iV .i64 a1),(2,iV .i64 a2),(3,iV .i64 a3),(4,.im (.sc (.func (.func 75) #[] #[]))),(18,iV .i64 (i64.wrap (Int.fdiv (u64.wrap (i64.wrap (a1+a3))) 2))),(19,iV .i64 (i64.wrap ((i64.wrap (Int.fdiv (u64.wrap (i64.wrap (a1+a3))) 2))+a2))),(20,iV .i64 x938),(21,iV .i64 x939),(22,iV .i64 (i64.wrap ((i64.wrap ((i64.wrap (Int.fdiv (u64.wrap (i64.wrap (a1+a3))) 2))+a2))-(1:Int))))],[(0,some (.row 2 78 (a0.map Z0)))],1⟩)) (AWp.cv ?_) ?_
      ·replace H:=e1067;clear e1067
       refine AWp.cond (!(decide (t935<(0:Int)))) (by kernel_rfl) (fun c937 => ?_) (fun c937 => ?_)
       ·replace H:=iT c937 H
        refine rO hP hn hm [] [(20,iV .i64 (i64.wrap ((i64.wrap (Int.fdiv (u64.wrap (i64.wrap (x918+x919))) 2))+(1:Int))))] [0,1,2,3,4,18,19,20,21,22] [] [0] ?_
        obtain rfl:=sj H
        exact lf [(0,0)] [] [] (by kernel_rfl) ⟨rfl,rfl⟩
       ·replace H:=iF c937 H
        refine rO hP hn hm [] [(21,iV .i64 (i64.wrap (Int.fdiv (u64.wrap (i64.wrap (x918+x919))) 2)))] [0,1,2,3,4,18,19,20,21,22] [] [0] ?_
        obtain rfl:=sj H
        exact lf [(0,0)] [] [] (by kernel_rfl) ⟨rfl,rfl⟩
      ·obtain⟨x938,x939⟩:=o1066
       rintro e s ⟨rfl,rfl⟩
       exact LWp.conv [(0,0)] [] [] (by kernel_rfl) (ih _ _ _ H)
     ·replace H:=iF c920 H
      refine AWp.exit ?_
      obtain rfl:=sj H
      exact lf [(0,0)] [] [] (by kernel_rfl) ⟨rfl,rfl⟩
    ·obtain⟨x940,rfl⟩:∃ z,z=o1064:=⟨_,rfl⟩
     rintro e s ⟨rfl,rfl⟩
     refine sO hP hn hm [] [(24,iV .i64 (i64.wrap ((i64.wrap ((i64.wrap (Int.fdiv (u64.wrap (i64.wrap (a1+a3))) 2))+a2))-x940)))] [0,1,2,3,4,18,20,24] [] [0] ?_
     refine AWp.seq ?_
     refine AWp.seq ?_
     obtain⟨o1068,e1069,H⟩:=Z4 H
     refine AWp.mono (Q:=fun e s=>(match (generalizing:=false) o1068 with | x943=>e = .normal∧s=⟨[(0,.own 0),(1,iV .i64 a1),(2,iV .i64 a2),(3,iV .i64 a3),(4,.im (.sc (.func (.func 75) #[] #[]))),(18,iV .i64 (i64.wrap (Int.fdiv (u64.wrap (i64.wrap (a1+a3))) 2))),(20,iV .i64 x940),(24,iV .i64 (i64.wrap ((i64.wrap ((i64.wrap (Int.fdiv (u64.wrap (i64.wrap (a1+a3))) 2))+a2))-x940))),(185,bV x943)],[(0,some (.row 2 78 (a0.map Z0)))],1⟩)) (AWp.cv ?_) ?_
     ·replace H:=e1069;clear e1069
      rcases Bool.eq_false_or_eq_true (decide (x940<a2)) with c942 | c942
      ·replace H:=iT c942 H
       refine rG hP hn hm [(3,.b true)] [(185,bV (decide (a2<(i64.wrap ((i64.wrap ((i64.wrap (Int.fdiv (u64.wrap (i64.wrap (a1+a3))) 2))+a2))-x940)))))] [0,1,2,3,4,18,20,24,185] [] [0] [_] ⟨c942,trivial⟩ ?_
       obtain rfl:=sj H
       exact lf [(0,0)] [] [] (by kernel_rfl) ⟨rfl,rfl⟩
      ·replace H:=iF c942 H
       refine rG hP hn hm [(3,.b false)] [(185,bV false)] [0,1,2,3,4,18,20,24,185] [] [0] [_] ⟨c942,trivial⟩ ?_
       obtain rfl:=sj H
       exact lf [(0,0)] [] [] (by kernel_rfl) ⟨rfl,rfl⟩
     ·obtain⟨x943,rfl⟩:∃ z,z=o1068:=⟨_,rfl⟩
      rintro e s ⟨rfl,rfl⟩
      obtain⟨o1070,e1071,H⟩:=Z4 H
      refine AWp.mono (Q:=fun e s=>(match (generalizing:=false) o1070 with | x1031=>e = .normal∧s=⟨[(0,.own 0),(1,iV .i64 a1),(3,iV .i64 a3),(4,.im (.sc (.func (.func 75) #[] #[]))),(18,iV .i64 (i64.wrap (Int.fdiv (u64.wrap (i64.wrap (a1+a3))) 2))),(20,iV .i64 x940),(24,iV .i64 (i64.wrap ((i64.wrap ((i64.wrap (Int.fdiv (u64.wrap (i64.wrap (a1+a3))) 2))+a2))-x940)))],[(0,some (.row 2 78 (x1031.map Z0)))],1⟩)) (AWp.cv ?_) ?_
      ·replace H:=e1071;clear e1071
       refine AWp.cond x943 (by kernel_rfl) (fun c944 => ?_) (fun c944 => ?_)
       ·replace H:=iT c944 H
        obtain⟨t1029,e1030,H⟩:=Z4 H
        refine rG hP hn hm [(5,.call [(0,0)] [(0,0)] [] [] 1 (.tup []) [(0,some (.row 2 78 (t1029.map Z0)))])] [] [0,1,3,4,18,20,24] [(0,some (.row 2 78 (t1029.map Z0)))] [0] [_,_] ⟨Try.call89,Zf.ok a0 x940 a2 (i64.wrap ((i64.wrap ((i64.wrap (Int.fdiv (u64.wrap (i64.wrap (a1+a3))) 2))+a2))-x940)) t1029 e1030,trivial⟩ ?_
        obtain rfl:=sj H
        exact lf [(0,0)] [] [] (by kernel_rfl) ⟨rfl,rfl⟩
       ·replace H:=iF c944 H
        refine AWp.skip ?_
        obtain rfl:=sj H
        exact lf [(0,0)] [] [] (by kernel_rfl) ⟨rfl,rfl⟩
      ·obtain⟨x1031,rfl⟩:∃ z,z=o1070:=⟨_,rfl⟩
       rintro e s ⟨rfl,rfl⟩
       refine AWp.seq ?_
       refine AWp.seq ?_
       obtain⟨o1072,e1073,H⟩:=Z4 H
       refine AWp.mono (Q:=fun e s=>(match (generalizing:=false) o1072 with | x1034=>e = .normal∧s=⟨[(0,.own 0),(1,iV .i64 a1),(3,iV .i64 a3),(4,.im (.sc (.func (.func 75) #[] #[]))),(18,iV .i64 (i64.wrap (Int.fdiv (u64.wrap (i64.wrap (a1+a3))) 2))),(20,iV .i64 x940),(24,iV .i64 (i64.wrap ((i64.wrap ((i64.wrap (Int.fdiv (u64.wrap (i64.wrap (a1+a3))) 2))+a2))-x940))),(199,bV x1034)],[(0,some (.row 2 78 (x1031.map Z0)))],1⟩)) (AWp.cv ?_) ?_
       ·replace H:=e1073;clear e1073
        rcases Bool.eq_false_or_eq_true (decide (a1<x940)) with c1033 | c1033
        ·replace H:=iT c1033 H
         refine rG hP hn hm [(3,.b true)] [(199,bV (decide (x940<(i64.wrap (Int.fdiv (u64.wrap (i64.wrap (a1+a3))) 2)))))] [0,1,3,4,18,20,24,199] [] [0] [_] ⟨c1033,trivial⟩ ?_
         obtain rfl:=sj H
         exact lf [(0,0)] [] [] (by kernel_rfl) ⟨rfl,rfl⟩
        ·replace H:=iF c1033 H
         refine rG hP hn hm [(3,.b false)] [(199,bV false)] [0,1,3,4,18,20,24,199] [] [0] [_] ⟨c1033,trivial⟩ ?_
         obtain rfl:=sj H
         exact lf [(0,0)] [] [] (by kernel_rfl) ⟨rfl,rfl⟩
       ·obtain⟨x1034,rfl⟩:∃ z,z=o1072:=⟨_,rfl⟩
        rintro e s ⟨rfl,rfl⟩
        obtain⟨o1074,e1075,H⟩:=Z4 H
        refine AWp.mono (Q:=fun e s=>(match (generalizing:=false) o1074 with | x1040=>e = .normal∧s=⟨[(0,.own 0),(3,iV .i64 a3),(4,.im (.sc (.func (.func 75) #[] #[]))),(18,iV .i64 (i64.wrap (Int.fdiv (u64.wrap (i64.wrap (a1+a3))) 2))),(24,iV .i64 (i64.wrap ((i64.wrap ((i64.wrap (Int.fdiv (u64.wrap (i64.wrap (a1+a3))) 2))+a2))-x940)))],[(0,some (.row 2 78 (x1040.map Z0)))],1⟩)) (AWp.cv ?_) ?_
        ·replace H:=e1075;clear e1075
         refine AWp.cond x1034 (by kernel_rfl) (fun c1035 => ?_) (fun c1035 => ?_)
         ·replace H:=iT c1035 H
          obtain⟨t1038,e1039,H⟩:=Z4 H
          refine rG hP hn hm [(5,.call [(0,0)] [(0,0)] [] [] 1 (.tup []) [(0,some (.row 2 78 (t1038.map Z0)))])] [] [0,3,4,18,24] [(0,some (.row 2 78 (t1038.map Z0)))] [0] [_,Pv.Fn Try.prog 85 [.own 0,iV .i64 a1,iV .i64 x940,iV .i64 (i64.wrap (Int.fdiv (u64.wrap (i64.wrap (a1+a3))) 2)),.im (.sc (.func (.func 75) #[] #[]))] [(0,some (.row 2 78 (x1031.map Z0)))] 1 (fun r o=>r = .tup []∧o=[(0,some (.row 2 78 (t1038.map Z0)))])] ⟨Try.call85,by exact ihF x1031 a1 x940 (i64.wrap (Int.fdiv (u64.wrap (i64.wrap (a1+a3))) 2)) _ e1039,trivial⟩ ?_
          obtain rfl:=sj H
          exact lf [(0,0)] [] [] (by kernel_rfl) ⟨rfl,rfl⟩
         ·replace H:=iF c1035 H
          refine AWp.skip ?_
          obtain rfl:=sj H
          exact lf [(0,0)] [] [] (by kernel_rfl) ⟨rfl,rfl⟩
        ·obtain⟨x1040,rfl⟩:∃ z,z=o1074:=⟨_,rfl⟩
         rintro e s ⟨rfl,rfl⟩
         refine AWp.seq ?_
         obtain⟨o1076,e1077,H⟩:=Z4 H
         refine AWp.mono (Q:=fun e s=>(match (generalizing:=false) o1076 with | x1043=>e = .normal∧s=⟨[(0,.own 0),(3,iV .i64 a3),(4,.im (.sc (.func (.func 75) #[] #[]))),(18,iV .i64 (i64.wrap (Int.fdiv (u64.wrap (i64.wrap (a1+a3))) 2))),(24,iV .i64 (i64.wrap ((i64.wrap ((i64.wrap (Int.fdiv (u64.wrap (i64.wrap (a1+a3))) 2))+a2))-x940))),(213,bV x1043)],[(0,some (.row 2 78 (x1040.map Z0)))],1⟩)) (AWp.cv ?_) ?_
         ·replace H:=e1077;clear e1077
          rcases Bool.eq_false_or_eq_true (decide ((i64.wrap (Int.fdiv (u64.wrap (i64.wrap (a1+a3))) 2))<(i64.wrap ((i64.wrap ((i64.wrap (Int.fdiv (u64.wrap (i64.wrap (a1+a3))) 2))+a2))-x940)))) with c1042 | c1042
          ·replace H:=iT c1042 H
           refine rG hP hn hm [(3,.b true)] [(213,bV (decide ((i64.wrap ((i64.wrap ((i64.wrap (Int.fdiv (u64.wrap (i64.wrap (a1+a3))) 2))+a2))-x940))<a3)))] [0,3,4,18,24,213] [] [0] [_] ⟨c1042,trivial⟩ ?_
           obtain rfl:=sj H
           exact lf [(0,0)] [] [] (by kernel_rfl) ⟨rfl,rfl⟩
          ·replace H:=iF c1042 H
           refine rG hP hn hm [(3,.b false)] [(213,bV false)] [0,3,4,18,24,213] [] [0] [_] ⟨c1042,trivial⟩ ?_
           obtain rfl:=sj H
           exact lf [(0,0)] [] [] (by kernel_rfl) ⟨rfl,rfl⟩
         ·obtain⟨x1043,rfl⟩:∃ z,z=o1076:=⟨_,rfl⟩
          rintro e s ⟨rfl,rfl⟩
          obtain⟨o1078,e1079,H⟩:=Z4 H
          refine AWp.mono (Q:=fun e s=>(match (generalizing:=false) o1078 with | x1049=>e = .normal∧s=⟨[],[(0,some (.row 2 78 (x1049.map Z0)))],1⟩)) (AWp.cv ?_) ?_
          ·replace H:=e1079;clear e1079
           refine AWp.cond x1043 (by kernel_rfl) (fun c1044 => ?_) (fun c1044 => ?_)
           ·replace H:=iT c1044 H
            obtain⟨t1047,e1048,H⟩:=Z4 H
            refine rG hP hn hm [(5,.call [(0,0)] [(0,0)] [] [] 1 (.tup []) [(0,some (.row 2 78 (t1047.map Z0)))])] [] [] [(0,some (.row 2 78 (t1047.map Z0)))] [0] [_,Pv.Fn Try.prog 85 [.own 0,iV .i64 (i64.wrap (Int.fdiv (u64.wrap (i64.wrap (a1+a3))) 2)),iV .i64 (i64.wrap ((i64.wrap ((i64.wrap (Int.fdiv (u64.wrap (i64.wrap (a1+a3))) 2))+a2))-x940)),iV .i64 a3,.im (.sc (.func (.func 75) #[] #[]))] [(0,some (.row 2 78 (x1040.map Z0)))] 1 (fun r o=>r = .tup []∧o=[(0,some (.row 2 78 (t1047.map Z0)))])] ⟨Try.call85,by exact ihF x1040 (i64.wrap (Int.fdiv (u64.wrap (i64.wrap (a1+a3))) 2)) (i64.wrap ((i64.wrap ((i64.wrap (Int.fdiv (u64.wrap (i64.wrap (a1+a3))) 2))+a2))-x940)) a3 _ e1048,trivial⟩ ?_
            obtain rfl:=sj H
            exact lf [(0,0)] [] [] (by kernel_rfl) ⟨rfl,rfl⟩
           ·replace H:=iF c1044 H
            refine AWp.skip ?_
            obtain rfl:=sj H
            exact lf [(0,0)] [] [] (by kernel_rfl) ⟨rfl,rfl⟩
          ·obtain⟨x1049,rfl⟩:∃ z,z=o1078:=⟨_,rfl⟩
           rintro e s ⟨rfl,rfl⟩
           obtain rfl:=sj H
           exact Exists.intro ⟨[],[(0,some (.row 2 78 (x1049.map Z0)))],1⟩ (And.intro (fun _ _ h=>h.conv (inv:=[(0,0)]) (vk:=[]) (e0:=[]) (t:=⟨[],[(0,some (.row 2 78 (x1049.map Z0)))],1⟩) (by kernel_rfl)) (And.intro (.inr rfl) (And.intro rfl (And.intro (by kernel_rfl) (by kernel_rfl)))))
def Z9.l0 (a1:Int) (x709:List Z2) (x710:Int) (x711:Int):Option ((List Z2)×Int):=if(decide (x711≤a1))=true then((Z8.f x709 x710 x711)>>=fun t715=>Z9.l0 a1 t715 x711 (i64.wrap (x711+(20:Int)))) else(some (x709,x710))
partial_fixpoint
def Z9.l2 (a1:Int) (x1101:Int) (x1108:List Z2) (x1109:Int) (x1110:Int):Option ((List Z2)×Int):=if(decide (x1110≤a1))=true then((Z5.f x1108 x1109 (i64.wrap (x1109+x1101)) x1110)>>=fun t1114=>Z9.l2 a1 x1101 t1114 x1110 (i64.wrap (x1110+(i64.wrap ((2:Int)*x1101))))) else(some (x1108,x1109))
partial_fixpoint
def Z9.l1 (a1:Int) (x1100:List Z2) (x1101:Int):Option (List Z2):=if(decide (x1101<a1))=true then((Z9.l2 a1 x1101 x1100 0 (i64.wrap ((2:Int)*x1101)))>>=fun oo=>match oo with | (x1116,x1117)=>(((if(decide ((i64.wrap (x1117+x1101))<a1))=true then((Z5.f x1116 x1117 (i64.wrap (x1117+x1101)) a1)>>=fun t1121=>some t1121) else(some x1116)):Option (List Z2))>>=fun x1123=>Z9.l1 a1 x1123 (i64.wrap (x1101*(2:Int))))) else(some x1100)
partial_fixpoint
def Z9.f (a0:List Z2) (a1:Int):Option (List Z2):=(Z9.l0 a1 a0 0 20)>>=fun oo=>match oo with | (x717,x718)=>((Z8.f x717 x718 a1)>>=fun t721=>(Z9.l1 a1 t721 20)>>=fun x1124=>some x1124)
theorem Z9.ok (a0:List Z2) (a1:Int) (r:List Z2) (H:Z9.f a0 a1=some r):Pv.Fn Try.prog 80 [.own 0,iV .i64 a1,.im (.sc (.func (.func 75) #[] #[]))] [(0,some (.row 2 78 (a0.map Z0)))] 1 (fun x o=>x = .tup []∧o=[(0,some (.row 2 78 (r.map Z0)))]):=by
 unfold Z9.f at H
 refine Fn.bodyK [0] Try.func80 rfl rfl (fun Γ hP hn => ?_)
 have hm:Try.prog.follows .mixedOrders=true:=by kernel_rfl
 replace hn:Γ.n=63:=hn
 refine sO hP hn hm [] [(6,iV .i64 20)] [0,1,2,6] [] [0] ?_
 refine sO hP hn hm [] [(7,iV .i64 0),(8,iV .i64 20)] [0,1,2,6,7,8] [] [0] ?_
 refine AWp.seq ?_
 refine AWp.block ?_
 obtain⟨o1125,e1126,H⟩:=Z4 H
 refine AWp.loop (LWp.conv (inv:=[(0,0)]) (vk:=[]) (e0:=[]) (t:=⟨[(0,.own 0),(1,iV .i64 a1),(2,.im (.sc (.func (.func 75) #[] #[]))),(6,iV .i64 20),(7,iV .i64 0),(8,iV .i64 20)],[(0,some (.row 2 78 (a0.map Z0)))],1⟩) (by kernel_rfl) ?_)
 refine LWp.mono (Q:=fun e s=>(match (generalizing:=false) o1125 with | (x717,x718)=>e = .exit 0∧s=⟨[(0,.own 0),(1,iV .i64 a1),(2,.im (.sc (.func (.func 75) #[] #[]))),(6,iV .i64 20),(7,iV .i64 x718)],[(0,some (.row 2 78 (x717.map Z0)))],1⟩)) (LWp.cv (Zt (fun body hbody => ?_))) ?_
 ·refine                                            Z9.l0.partial_correctness a1 (motive:=fun x709 x710 x711 o1125=>LWp Γ body (fun e s=>∃ t,Cv Γ s t∧(match (generalizing:=false) o1125 with | (x717,x718)=>e = .exit 0∧t=⟨[(0,.own 0),(1,iV .i64 a1),(2,.im (.sc (.func (.func 75) #[] #[]))),(6,iV .i64 20),(7,iV .i64 x718)],[(0,some (.row 2 78 (x717.map Z0     )))],1⟩)) ⟨[(0,.own 0),(1,iV .i64 a1),(2,.im (.sc (.func (.func 75) #[] #[]))),(6,iV .i64 20),(7,iV .i64 x710),(8,iV .i64 x711)],[(0,some (.row 2 78 (x709.map Z0     )))],1⟩) ?_ _ _ _ _ e1126
  clear H e1126 o1125;intro self ih x709 x710 x711 o1125 H
  subst hbody
  refine LWp.round ?_
  refine AWp.seq ?_
  refine sO hP hn hm [] [(13,bV (decide (x711≤a1)))] [0,1,2,6,7,8,13] [] [0] ?_
  refine AWp.cond (decide (x711≤a1)) (by kernel_rfl) (fun c712 => ?_) (fun c712 => ?_)
  ·replace H:=iT c712 H
   refine AWp.skip ?_
   refine AWp.block ?_
   obtain⟨t715,e716,H⟩:=Z4 H
   refine sR hP hn hm [(4,.call [(0,0)] [(0,0)] [] [] 1 (.tup []) [(0,some (.row 2 78 (t715.map Z0)))])] [] [0,1,2,6,8] [(0,some (.row 2 78 (t715.map Z0)))] [0] [_,_] ⟨Try.call84,Z8.ok x709 x710 x711 t715 e716,trivial⟩ ?_
   refine sO hP hn hm [] [(7,iV .i64 x711)] [0,1,2,6,7,8] [] [0] ?_
   refine rO hP hn hm [] [(8,iV .i64 (i64.wrap (x711+(20:Int))))] [0,1,2,6,7,8] [] [0] ?_
   exact LWp.conv [(0,0)] [] [] (by kernel_rfl) (ih _ _ _ _ H)
  ·replace H:=iF c712 H
   refine AWp.exit ?_
   obtain rfl:=sj H
   exact lf [(0,0)] [] [] (by kernel_rfl) ⟨rfl,rfl⟩
 ·obtain⟨x717,x718⟩:=o1125
  rintro e s ⟨rfl,rfl⟩
  obtain⟨t721,e722,H⟩:=Z4 H
  refine sR hP hn hm [(4,.call [(0,0)] [(0,0)] [] [] 1 (.tup []) [(0,some (.row 2 78 (t721.map Z0)))])] [] [0,1,2,6] [(0,some (.row 2 78 (t721.map Z0)))] [0] [_,_] ⟨Try.call84,Z8.ok x717 x718 a1 t721 e722,trivial⟩ ?_
  refine AWp.block ?_
  obtain⟨o1127,e1128,H⟩:=Z4 H
  refine AWp.loop (LWp.conv (inv:=[(0,0)]) (vk:=[]) (e0:=[]) (t:=⟨[(0,.own 0),(1,iV .i64 a1),(2,.im (.sc (.func (.func 75) #[] #[]))),(6,iV .i64 20)],[(0,some (.row 2 78 (t721.map Z0)))],1⟩) (by kernel_rfl) ?_)
  refine LWp.mono (Q:=fun e s=>(match (generalizing:=false) o1127 with | x1124=>e = .exit 2∧s=⟨[],[(0,some (.row 2 78 (x1124.map Z0)))],1⟩)) (LWp.cv (Zt (fun body hbody => ?_))) ?_
  ·refine                                            Z9.l1.partial_correctness a1 (motive:=fun x1100 x1101 o1127=>LWp Γ body (fun e s=>∃ t,Cv Γ s t∧(match (generalizing:=false) o1127 with | x1124=>e = .exit 2∧t=⟨[],[(0,some (.row 2 78 (x1124.map Z0     )))],1⟩)) ⟨[(0,.own 0),(1,iV .i64 a1),(2,.im (.sc (.func (.func 75) #[] #[]))),(6,iV .i64 x1101)],[(0,some (.row 2 78 (x1100.map Z0     )))],1⟩) ?_ _ _ _ e1128
   clear H e1128 o1127;intro self ih x1100 x1101 o1127 H
   subst hbody
   refine LWp.round ?_
   refine AWp.seq ?_
   refine sO hP hn hm [] [(30,bV (decide (x1101<a1)))] [0,1,2,6,30] [] [0] ?_
   refine AWp.cond (decide (x1101<a1)) (by kernel_rfl) (fun c1102 => ?_) (fun c1102 => ?_)
   ·replace H:=iT c1102 H
    refine AWp.skip ?_
    refine AWp.block ?_
    refine sO hP hn hm [] [(7,iV .i64 0),(8,iV .i64 (i64.wrap ((2:Int)*x1101)))] [0,1,2,6,7,8] [] [0] ?_
    refine AWp.seq ?_
    refine AWp.block ?_
    obtain⟨o1129,e1130,H⟩:=Z4 H
    refine AWp.loop (LWp.conv (inv:=[(0,0)]) (vk:=[]) (e0:=[]) (t:=⟨[(0,.own 0),(1,iV .i64 a1),(2,.im (.sc (.func (.func 75) #[] #[]))),(6,iV .i64 x1101),(7,iV .i64 0),(8,iV .i64 (i64.wrap ((2:Int)*x1101)))],[(0,some (.row 2 78 (x1100.map Z0)))],1⟩) (by kernel_rfl) ?_)
    refine LWp.mono (Q:=fun e s=>(match (generalizing:=false) o1129 with | (x1116,x1117)=>e = .exit 4∧s=⟨[(0,.own 0),(1,iV .i64 a1),(2,.im (.sc (.func (.func 75) #[] #[]))),(6,iV .i64 x1101),(7,iV .i64 x1117)],[(0,some (.row 2 78 (x1116.map Z0)))],1⟩)) (LWp.cv (Zt (fun body hbody => ?_))) ?_
    ·refine                                            Z9.l2.partial_correctness a1 x1101 (motive:=fun x1108 x1109 x1110 o1129=>LWp Γ body (fun e s=>∃ t,Cv Γ s t∧(match (generalizing:=false) o1129 with | (x1116,x1117)=>e = .exit 4∧t=⟨[(0,.own 0),(1,iV .i64 a1),(2,.im (.sc (.func (.func 75) #[] #[]))),(6,iV .i64 x1101),(7,iV .i64 x1117)],[(0,some (.row 2 78 (x1116.map Z0     )))],1⟩)) ⟨[(0,.own 0),(1,iV .i64 a1),(2,.im (.sc (.func (.func 75) #[] #[]))),(6,iV .i64 x1101),(7,iV .i64 x1109),(8,iV .i64 x1110)],[(0,some (.row 2 78 (x1108.map Z0     )))],1⟩) ?_ _ _ _ _ e1130
     clear H e1130 o1129;intro self ih x1108 x1109 x1110 o1129 H
     subst hbody
     refine LWp.round ?_
     refine AWp.seq ?_
     refine sO hP hn hm [] [(35,bV (decide (x1110≤a1)))] [0,1,2,6,7,8,35] [] [0] ?_
     refine AWp.cond (decide (x1110≤a1)) (by kernel_rfl) (fun c1111 => ?_) (fun c1111 => ?_)
     ·replace H:=iT c1111 H
      refine AWp.skip ?_
      refine AWp.block ?_
      obtain⟨t1114,e1115,H⟩:=Z4 H
      refine sR hP hn hm [(7,.call [(0,0)] [(0,0)] [] [] 1 (.tup []) [(0,some (.row 2 78 (t1114.map Z0)))])] [] [0,1,2,6,8] [(0,some (.row 2 78 (t1114.map Z0)))] [0] [_,_] ⟨Try.call85,Z5.ok x1108 x1109 (i64.wrap (x1109+x1101)) x1110 t1114 e1115,trivial⟩ ?_
      refine sO hP hn hm [] [(7,iV .i64 x1110)] [0,1,2,6,7,8] [] [0] ?_
      refine rO hP hn hm [] [(8,iV .i64 (i64.wrap (x1110+(i64.wrap ((2:Int)*x1101)))))] [0,1,2,6,7,8] [] [0] ?_
      exact LWp.conv [(0,0)] [] [] (by kernel_rfl) (ih _ _ _ _ H)
     ·replace H:=iF c1111 H
      refine AWp.exit ?_
      obtain rfl:=sj H
      exact lf [(0,0)] [] [] (by kernel_rfl) ⟨rfl,rfl⟩
    ·obtain⟨x1116,x1117⟩:=o1129
     rintro e s ⟨rfl,rfl⟩
     refine AWp.seq ?_
     refine sO hP hn hm [] [(9,iV .i64 (i64.wrap (x1117+x1101)))] [0,1,2,6,7,9] [] [0] ?_
     refine sO hP hn hm [] [(54,bV (decide ((i64.wrap (x1117+x1101))<a1)))] [0,1,2,6,7,9,54] [] [0] ?_
     obtain⟨o1131,e1132,H⟩:=Z4 H
     refine AWp.mono (Q:=fun e s=>(match (generalizing:=false) o1131 with | x1123=>e = .normal∧s=⟨[(0,.own 0),(1,iV .i64 a1),(2,.im (.sc (.func (.func 75) #[] #[]))),(6,iV .i64 x1101)],[(0,some (.row 2 78 (x1123.map Z0)))],1⟩)) (AWp.cv ?_) ?_
     ·replace H:=e1132;clear e1132
      refine AWp.cond (decide ((i64.wrap (x1117+x1101))<a1)) (by kernel_rfl) (fun c1118 => ?_) (fun c1118 => ?_)
      ·replace H:=iT c1118 H
       obtain⟨t1121,e1122,H⟩:=Z4 H
       refine rG hP hn hm [(5,.call [(0,0)] [(0,0)] [] [] 1 (.tup []) [(0,some (.row 2 78 (t1121.map Z0)))])] [] [0,1,2,6] [(0,some (.row 2 78 (t1121.map Z0)))] [0] [_,_] ⟨Try.call85,Z5.ok x1116 x1117 (i64.wrap (x1117+x1101)) a1 t1121 e1122,trivial⟩ ?_
       obtain rfl:=sj H
       exact lf [(0,0)] [] [] (by kernel_rfl) ⟨rfl,rfl⟩
      ·replace H:=iF c1118 H
       refine AWp.skip ?_
       obtain rfl:=sj H
       exact lf [(0,0)] [] [] (by kernel_rfl) ⟨rfl,rfl⟩
     ·obtain⟨x1123,rfl⟩:∃ z,z=o1131:=⟨_,rfl⟩
      rintro e s ⟨rfl,rfl⟩
      refine rO hP hn hm [] [(6,iV .i64 (i64.wrap (x1101*(2:Int))))] [0,1,2,6] [] [0] ?_
      exact LWp.conv [(0,0)] [] [] (by kernel_rfl) (ih _ _ _ H)
   ·replace H:=iF c1102 H
    refine AWp.exit ?_
    obtain rfl:=sj H
    exact lf [(0,0)] [] [] (by kernel_rfl) ⟨rfl,rfl⟩
  ·obtain⟨x1124,rfl⟩:∃ z,z=o1127:=⟨_,rfl⟩
   rintro e s ⟨rfl,rfl⟩
   obtain rfl:=sj H
   exact Exists.intro ⟨[],[(0,some (.row 2 78 (x1124.map Z0)))],1⟩ (And.intro (fun _ _ h=>h.conv (inv:=[(0,0)]) (vk:=[]) (e0:=[]) (t:=⟨[],[(0,some (.row 2 78 (x1124.map Z0)))],1⟩) (by kernel_rfl)) (And.intro (.inr rfl) (And.intro rfl (And.intro (by kernel_rfl) (by kernel_rfl)))))
def Zo.f (a0:List Z2):Option (List Z2):=(Z9.f a0 (a0.length:Int))>>=fun t1135=>some t1135
theorem Zo.ok (a0:List Z2) (r:List Z2) (H:Zo.f a0=some r):Pv.Fn Try.prog 74 [.own 0,.im (.sc (.func (.func 75) #[] #[]))] [(0,some (.row 2 78 (a0.map Z0)))] 1 (fun x o=>x = .tup []∧o=[(0,some (.row 2 78 (r.map Z0)))]):=by
 unfold Zo.f at H
 refine Fn.bodyK [0] Try.func74 rfl rfl (fun Γ hP hn => ?_)
 have hm:Try.prog.follows .mixedOrders=true:=by kernel_rfl
 replace hn:Γ.n=9:=hn
 obtain⟨t1135,e1136,H⟩:=Z4 H
 refine rG hP hn hm [(2,.any (iV .i64 (a0.length:Int))),(4,.call [(0,0)] [(0,0)] [] [] 1 (.tup []) [(0,some (.row 2 78 (t1135.map Z0)))])] [] [] [(0,some (.row 2 78 (t1135.map Z0)))] [0] [((a0.map Z0).length:Int)=(a0.length:Int),_,_] ⟨by rw[Zi],Try.call80,Z9.ok a0 (a0.length:Int) t1135 e1136,trivial⟩ ?_
 obtain rfl:=sj H
 exact Exists.intro ⟨[],[(0,some (.row 2 78 (t1135.map Z0)))],1⟩ (And.intro (fun _ _ h=>h.conv (inv:=[(0,0)]) (vk:=[]) (e0:=[]) (t:=⟨[],[(0,some (.row 2 78 (t1135.map Z0)))],1⟩) (by kernel_rfl)) (And.intro (.inr rfl) (And.intro rfl (And.intro (by kernel_rfl) (by kernel_rfl)))))
def Z0i.l0 (t1139:List Z2) (x1152:List Z2) (x1153:Int):Option (((List Z2)×Int) ⊕ (List Z2)):=if(decide (x1153<(t1139.length:Int)))=true then((at? t1139 x1153)>>=fun b1158=>((if(b1158.f1==(0:Int))=true then(some (.inr x1152)) else(((if(decide ((x1152.length:Int)>(0:Int)))=true then((at? x1152 (i64.wrap ((x1152.length:Int)-(1:Int))))>>=fun b1167=>some (b1167.f0==b1158.f0)) else(some false)):Option (Bool))>>=fun x1170=>((if x1170=true then((at? x1152 (i64.wrap ((x1152.length:Int)-(1:Int))))>>=fun b1177=>(Z1e.f [b1177.f1,b1158.f1])>>=fun t1180=>if(t1180.2 != (0:Int))=true then(some (.inl ([],t1180.2))) else(some (.inr (x1152.set (Int.toNat (i64.wrap ((x1152.length:Int)-(1:Int)))) (⟨b1177.f0,t1180.1⟩:Z2))))) else((chk ((x1152.length+[b1158].length)*16≤140737488355328))>>=fun _=>some (.inr (x1152++[b1158])))):Option (((List Z2)×Int) ⊕ (List Z2)))>>=fun oo=>match oo with | .inl rr=>(some (.inl rr)) | .inr x1185=>(some (.inr x1185)))):Option (((List Z2)×Int) ⊕ (List Z2)))>>=fun oo=>match oo with | .inl rr=>(some (.inl rr)) | .inr x1186=>(Z0i.l0 t1139 x1186 (i64.wrap (x1153+(1:Int))))) else(some (.inr x1152))
partial_fixpoint
def Z0i.f (a0:List Z2):Option ((List Z2)×Int):=(Zv.f a0)>>=fun t516=>(Zo.f t516)>>=fun t1139=>(Z0i.l0 t1139 [] 0)>>=fun oo=>match oo with | .inl rr=>(some rr) | .inr x1187=>(some (x1187,0))
theorem Z0i.ok (a0:List Z2) (r:(List Z2)×Int) (H:Z0i.f a0=some r):Pv.Fn Try.prog 63 [.im (.row (a0.map Z0))] [] 0 (fun x o=>x = .tup [.own 0,iV .i64 r.2]∧o=[(0,some (.row 2 78 (r.1.map Z0)))]):=by
 unfold Z0i.f at H
 refine Fn.bodyK [0] Try.func63 rfl rfl (fun Γ hP hn => ?_)
 have hm:Try.prog.follows .mixedOrders=true:=by kernel_rfl
 replace hn:Γ.n=68:=hn
 refine sO hP hn hm [] [] [0] [] [] ?_
 refine sO hP hn hm [] [(4,.none0)] [0,4] [] [] ?_
 obtain⟨t516,e517,H⟩:=Z4 H
 refine sR hP hn hm [(1,.call [] [(0,0)] [] [0] 0 (.own 0) [(0,some (.row 2 78 (t516.map Z0)))])] [(0,.own 0)] [0,4] [(0,some (.row 2 78 (t516.map Z0)))] [0] [_,_] ⟨Try.call73,Zv.ok a0 t516 e517,trivial⟩ ?_
 obtain⟨t1139,e1140,H⟩:=Z4 H
 refine sR hP hn hm [(1,.call [(0,0)] [(0,0)] [] [] 1 (.tup []) [(0,some (.row 2 78 (t1139.map Z0)))])] [] [0,4] [(0,some (.row 2 78 (t1139.map Z0)))] [0] [_,_] ⟨Try.call74,Zo.ok t516 t1139 e1140,trivial⟩ ?_
 refine AWp.seq ?_
 refine sR hP hn hm [(1,.any (iV .i64 (t1139.length:Int)))] [(14,.own 0),(15,iV .i64 (t1139.length:Int)),(16,iV .i64 0)] [4,14,15,16] [] [0] [((t1139.map Z0).length:Int)=(t1139.length:Int)] ⟨by rw[Zi],trivial⟩ ?_
 refine AWp.block ?_
 obtain⟨o1188,e1189,H⟩:=Z4 H
 refine AWp.loop (LWp.conv (inv:=[(0,7)]) (vk:=[]) (e0:=[6]) (t:=⟨[(4,.own 6),(14,.own 7),(15,iV .i64 (t1139.length:Int)),(16,iV .i64 0)],[(6,some (.row 2 78 ([].map Z0))),(7,some (.row 2 78 (t1139.map Z0)))],0⟩) (by kernel_rfl) ?_)
 refine LWp.mono (Q:=fun e s=>(match (generalizing:=false) o1188 with | .inl rr=>e = .ret∧s.floor=0∧Z2c Try.prog Try.f63 s=some (.tup [.own 0,iV .i64 rr.2])∧([(0,s.obj 0)]:List (Nat×Option MObj))=[(0,some (.row 2 78 (rr.1.map Z0)))] | .inr x1187=>e = .exit 0∧s=⟨[(4,.own 19)],[(19,some (.row 2 78 (x1187.map Z0)))],0⟩)) (LWp.cv (Zt (fun body hbody => ?_))) ?_
 ·refine         Z0i.l0.partial_correctness t1139 (motive:=fun x1152 x1153 o1188=>LWp Γ body (fun e s=>∃ t,Cv Γ s t∧(match (generalizing:=false) o1188 with | .inl rr=>e = .ret∧t.floor=0∧Z2c   Try.prog Try.f63 t=some (.tup [.own 0,iV .i64 rr.2])∧([(0,t.obj 0)]:List (Nat×Option MObj))=[(0,some (.row 2 78 (rr.1.map Z0     )))] | .inr x1187=>e = .exit 0∧t=⟨[(4,.own 19)],[(19,some (.row 2 78 (x1187.map Z0     )))],0⟩)) ⟨[(4,.own 6),(14,.own 7),(15,iV .i64 (t1139.length:Int)),(16,iV .i64 x1153)],[(6,some (.row 2 78 (x1152.map Z0     ))),(7,some (.row 2 78 (t1139.map Z0     )))],0⟩) ?_ _ _ _ e1189
  clear H e1189 o1188;intro self ih x1152 x1153 o1188 H
  subst hbody
  refine LWp.round ?_
  refine sO hP hn hm [] [(17,bV (decide (x1153<(t1139.length:Int))))] [4,14,15,16,17] [] [6,7] ?_
  refine AWp.seq ?_
  refine AWp.cond (decide (x1153<(t1139.length:Int))) (by kernel_rfl) (fun c1154 => ?_) (fun c1154 => ?_)
  ·replace H:=iT c1154 H
   refine AWp.skip ?_
   refine AWp.seq ?_
   refine AWp.block ?_
   obtain⟨b1158,p1159,q1160,H⟩:=Z0d H
   refine sR hP hn hm [(1,.c (Z0 b1158)),(2,.k 8)] [(6,.ptr 8 0 0)] [4,6,14,15,16] [(8,some (.box 78 (Z1o b1158)))] [6,7,8] [_,_,_] ⟨p1159,Z1g Z0 p1159 q1160,Zk Z0 q1160,trivial⟩ ?_
   refine sR hP hn hm [(1,.any (iV .i64 (x1152.length:Int)))] [(7,iV .i64 (x1152.length:Int))] [4,6,7,14,15,16] [] [6,7,8] [((x1152.map Z0).length:Int)=(x1152.length:Int)] ⟨by rw[Zi],trivial⟩ ?_
   refine AWp.block ?_
   refine sO hP hn hm [] [(26,bV (b1158.f1==(0:Int)))] [4,6,7,14,15,16,26] [] [6,7,8] ?_
   obtain⟨o1190,e1191,H⟩:=Z4 H
   refine AWp.mono (Q:=fun e s=>(match (generalizing:=false) o1190 with | .inl rr=>e = .ret∧s.floor=0∧Z2c Try.prog Try.f63 s=some (.tup [.own 0,iV .i64 rr.2])∧([(0,s.obj 0)]:List (Nat×Option MObj))=[(0,some (.row 2 78 (rr.1.map Z0)))] | .inr x1186=>e = .normal∧s=⟨[(4,.own 17),(14,.own 18),(15,iV .i64 (t1139.length:Int)),(16,iV .i64 x1153)],[(17,some (.row 2 78 (x1186.map Z0))),(18,some (.row 2 78 (t1139.map Z0)))],0⟩)) (AWp.cv ?_) ?_
   ·replace H:=e1191;clear e1191
    refine AWp.cond (b1158.f1==(0:Int)) (by kernel_rfl) (fun c1161 => ?_) (fun c1161 => ?_)
    ·replace H:=iT c1161 H
     refine AWp.skip ?_
     obtain rfl:=sj H
     exact lf [(6,17),(7,18)] [] [] (by kernel_rfl) ⟨rfl,rfl⟩
    ·replace H:=iF c1161 H
     refine AWp.seq ?_
     obtain⟨o1192,e1193,H⟩:=Z4 H
     refine AWp.mono (Q:=fun e s=>(match (generalizing:=false) o1192 with | x1170=>e = .normal∧s=⟨[(4,.own 9),(6,.ptr 10 0 0),(7,iV .i64 (x1152.length:Int)),(14,.own 11),(15,iV .i64 (t1139.length:Int)),(16,iV .i64 x1153),(30,bV x1170)],[(9,some (.row 2 78 (x1152.map Z0))),(10,some (.box 78 (Z1o b1158))),(11,some (.row 2 78 (t1139.map Z0)))],0⟩)) (AWp.cv ?_) ?_
     ·replace H:=e1193;clear e1193
      rcases Bool.eq_false_or_eq_true (decide ((x1152.length:Int)>(0:Int))) with c1166 | c1166
      ·replace H:=iT c1166 H
       obtain⟨b1167,p1168,q1169,H⟩:=Z0d H
       refine rG hP hn hm [(2,.b true),(8,.c (Z0 b1167))] [(30,bV (b1167.f0==b1158.f0)),(34,.own 6),(35,iV .i64 (x1152.length:Int)),(36,iV .i64 (i64.wrap ((x1152.length:Int)-(1:Int)))),(37,.ptr 6 (Int.toNat (i64.wrap ((x1152.length:Int)-(1:Int)))) 0),(38,.ptr 6 (Int.toNat (i64.wrap ((x1152.length:Int)-(1:Int)))) 0),(39,iV .i64 b1167.f0),(40,.ptr 8 0 0),(41,iV .i64 b1158.f0),(42,bV (b1167.f0==b1158.f0))] [4,6,7,14,15,16,30,34,35,36,37,38,39,40,41,42] [] [6,7,8] [_,_,_,_] ⟨c1166,p1168,Z1g Z0 p1168 q1169,Zk Z0 q1169,trivial⟩ ?_
       obtain rfl:=sj H
       exact lf [(6,9),(8,10),(7,11)] [] [] (by kernel_rfl) ⟨rfl,rfl⟩
      ·replace H:=iF c1166 H
       refine rG hP hn hm [(2,.b false)] [(30,bV false)] [4,6,7,14,15,16,30] [] [6,7,8] [_] ⟨c1166,trivial⟩ ?_
       obtain rfl:=sj H
       exact lf [(6,9),(8,10),(7,11)] [] [] (by kernel_rfl) ⟨rfl,rfl⟩
     ·obtain⟨x1170,rfl⟩:∃ z,z=o1192:=⟨_,rfl⟩
      rintro e s ⟨rfl,rfl⟩
      obtain⟨o1194,e1195,H⟩:=Z4 H
      refine AWp.mono (Q:=fun e s=>(match (generalizing:=false) o1194 with | .inl rr=>e = .ret∧s.floor=0∧Z2c Try.prog Try.f63 s=some (.tup [.own 0,iV .i64 rr.2])∧([(0,s.obj 0)]:List (Nat×Option MObj))=[(0,some (.row 2 78 (rr.1.map Z0)))] | .inr x1185=>e = .normal∧s=⟨[(4,.own 15),(14,.own 16),(15,iV .i64 (t1139.length:Int)),(16,iV .i64 x1153)],[(15,some (.row 2 78 (x1185.map Z0))),(16,some (.row 2 78 (t1139.map Z0)))],0⟩)) (AWp.cv ?_) ?_
      ·replace H:=e1195;clear e1195
       refine AWp.cond x1170 (by kernel_rfl) (fun c1171 => ?_) (fun c1171 => ?_)
       ·replace H:=iT c1171 H
        obtain⟨b1177,p1178,q1179,H⟩:=Z0d H
        obtain⟨t1180,e1181,H⟩:=Z4 H
        refine sR hP hn hm [(5,.c (Z0 b1177)),(8,.app 12 ([b1177.f1,b1158.f1].map (Z1 .u64))),(9,.call [] [] [12] [] 0 (.tup [iV .u64 t1180.1,iV .i64 t1180.2]) [])] [(8,iV .u64 t1180.1),(9,iV .i64 t1180.2)] [4,7,8,9,14,15,16] [] [9,11] [_,_,_,[b1177.f1,b1158.f1].map (Z1 .u64)=[[iI .u64 b1177.f1],[iI .u64 b1158.f1]],_,_] ⟨p1178,Z1g Z0 p1178 q1179,Zk Z0 q1179,by exact rfl,Try.call59,Z1e.ok [b1177.f1,b1158.f1] t1180 e1181,trivial⟩ ?_
        refine AWp.seq ?_
        refine sO hP hn hm [] [(58,bV (t1180.2 != (0:Int)))] [4,7,8,9,14,15,16,58] [] [9,11] ?_
        refine AWp.cond (t1180.2 != (0:Int)) (by kernel_rfl) (fun c1182 => ?_) (fun c1182 => ?_)
        ·replace H:=iT c1182 H
         refine sO hP hn hm [] [(2,.none0),(3,iV .i64 t1180.2)] [2,3] [] [] ?_
         refine AWp.conv (inv:=[]) (vk:=[]) (e0:=[0]) (t:=⟨[(2,.own 0),(3,iV .i64 t1180.2)],[(0,some (.row 2 78 ([].map Z0)))],0⟩) (by kernel_rfl) ?_
         refine AWp.ret ?_
         obtain rfl:=sj H
         exact rl rfl rfl (by kernel_rfl) (by kernel_rfl)
        ·replace H:=iF c1182 H
         refine AWp.skip ?_
         refine rG hP hn hm [(6,.put (Z0 b1177) ((x1152.set (Int.toNat (i64.wrap ((x1152.length:Int)-(1:Int)))) (⟨b1177.f0,t1180.1⟩:Z2)).map Z0))] [] [4,14,15,16] [(9,some (.row 2 78 ((x1152.set (Int.toNat (i64.wrap ((x1152.length:Int)-(1:Int)))) (⟨b1177.f0,t1180.1⟩:Z2)).map Z0)))] [9,11] [_,_,_,(x1152.set (Int.toNat (i64.wrap ((x1152.length:Int)-(1:Int)))) (⟨b1177.f0,t1180.1⟩:Z2)).map Z0=(x1152.map Z0).set (Int.toNat (i64.wrap ((x1152.length:Int)-(1:Int)))) (Z1c (Z0 b1177) 1 [iI .u64 t1180.1])] ⟨p1178,Z1g Z0 p1178 q1179,Zk Z0 q1179,by exact set1 _ _ _ _,trivial⟩ ?_
         obtain rfl:=sj H
         exact lf [(9,15),(11,16)] [] [] (by kernel_rfl) ⟨rfl,rfl⟩
       ·replace H:=iF c1171 H
        obtain⟨c1184,H⟩:=Z0x H
        refine rG hP hn hm [(2,.app 13 ([b1158].map Z0)),(3,.app 14 ((x1152++[b1158]).map Z0))] [(4,.own 14)] [4,14,15,16] [(14,some (.row 2 78 ((x1152++[b1158]).map Z0)))] [11,14] [[b1158].map Z0=[[iI .i64 b1158.f0,iI .u64 b1158.f1]],(x1152++[b1158]).map Z0=(x1152.map Z0)++([b1158].map Z0),∀ c∈([b1158].map Z0),c.length=2,∀ c∈([b1158].map Z0),Z0k (c.map .im)=true,((x1152.map Z0).length+([b1158].map Z0).length)*16≤140737488355328] ⟨by exact rfl,by simp,by exact Z0o _ _ _ (fun _=>rfl),by exact Z0p _ _ (fun _=>rfl),by simpa using c1184,trivial⟩ ?_
        obtain rfl:=sj H
        exact lf [(14,15),(11,16)] [] [] (by kernel_rfl) ⟨rfl,rfl⟩
      ·rcases o1194 with rr | x1185
       ·skip
        rintro e s ⟨rfl,hfl,hres⟩
        obtain rfl:=sj H
        exact Exists.intro _ (And.intro (fun _ _ h=>h) (And.intro rfl (And.intro hfl hres)))
       ·skip
        rintro e s ⟨rfl,rfl⟩
        obtain rfl:=sj H
        exact lf [(15,17),(16,18)] [] [] (by kernel_rfl) ⟨rfl,rfl⟩
   ·rcases o1190 with rr | x1186
    ·skip
     rintro e s ⟨rfl,hfl,hres⟩
     obtain rfl:=sj H
     exact Exists.intro _ (And.intro (fun _ _ h=>h) (And.intro rfl (And.intro hfl hres)))
    ·skip
     rintro e s ⟨rfl,rfl⟩
     refine rO hP hn hm [] [(16,iV .i64 (i64.wrap (x1153+(1:Int))))] [4,14,15,16] [] [17,18] ?_
     exact LWp.conv [(17,6),(18,7)] [] [] (by kernel_rfl) (ih _ _ _ H)
  ·replace H:=iF c1154 H
   refine AWp.exit ?_
   obtain rfl:=sj H
   exact lf [(6,19)] [] [] (by kernel_rfl) ⟨rfl,rfl⟩
 ·rcases o1188 with rr | x1187
  ·skip
   rintro e s ⟨rfl,hfl,hres⟩
   obtain rfl:=sj H
   exact Exists.intro _ (And.intro (fun _ _ h=>h) (And.intro (.inl rfl) (And.intro hfl hres)))
  ·skip
   rintro e s ⟨rfl,rfl⟩
   refine sO hP hn hm [] [(2,.own 19),(3,iV .i64 0)] [2,3] [] [19] ?_
   refine AWp.conv (inv:=[(19,0)]) (vk:=[]) (e0:=[]) (t:=⟨[(2,.own 0),(3,iV .i64 0)],[(0,some (.row 2 78 (x1187.map Z0)))],0⟩) (by kernel_rfl) ?_
   refine AWp.ret ?_
   obtain rfl:=sj H
   exact rl (.inl rfl) rfl (by kernel_rfl) (by kernel_rfl)
def Z1x.f (a0:Zj) (a1:List Z2) (a2:List Z2):Option (Zj×Int):=(Z0i.f a1)>>=fun t1198=>(Z0i.f a2)>>=fun t1202=>if((if t1202.2>t1198.2 then t1202.2 else t1198.2) != (0:Int))=true then(some ((⟨0,0,0,0,0,0,[],[]⟩:Zj),(if t1202.2>t1198.2 then t1202.2 else t1198.2))) else((Z06.f [t1198.1,t1202.1,[(⟨0,a0.f3⟩:Z2)]])>>=fun t1209=>if(t1209.2 != (0:Int))=true then(some ((⟨0,0,0,0,0,0,[],[]⟩:Zj),t1209.2)) else((Z02.f (⟨a0.f0,a0.f1,a0.f2,a0.f3,t1209.1,a0.f5,t1198.1,t1202.1⟩:Zj))>>=fun t1214=>if(t1214 != (0:Int))=true then(some ((⟨0,0,0,0,0,0,[],[]⟩:Zj),t1214)) else(some ((⟨a0.f0,a0.f1,a0.f2,a0.f3,t1209.1,a0.f5,t1198.1,t1202.1⟩:Zj),0))))
theorem Z1x.ok (a0:Zj) (a1:List Z2) (a2:List Z2) (r:Zj×Int) (H:Z1x.f a0 a1 a2=some r):Pv.Fn Try.prog 54 [.agg (Zn a0),.im (.row (a1.map Z0)),.im (.row (a2.map Z0))] [] 0 (fun x o=>x = .tup [.agg (Zn (r.1)),iV .i64 r.2]∧o=[]):=by
 unfold Z1x.f at H
 refine Fn.bodyK [] Try.func54 rfl rfl (fun Γ hP hn => ?_)
 have hm:Try.prog.follows .mixedOrders=true:=by kernel_rfl
 replace hn:Γ.n=55:=hn
 refine sO hP hn hm [(0,.k 0),(1,.k 1)] [(3,.ptr 0 0 0),(6,.ptr 1 0 0)] [1,2,3,6] [(0,some (.box 36 (Zn a0))),(1,some (.box 36 [iV .i64 0,iV .i64 0,iV .i64 0,iV .u64 0,iV .u64 0,iV .i64 0,.none0,.none0]))] [0,1] ?_
 refine sO hP hn hm [] [] [1,2,3,6] [] [0,1] ?_
 obtain⟨t1198,e1199,H⟩:=Z4 H
 refine sR hP hn hm [(1,.call [] [(0,2)] [] [2] 0 (.tup [.own 0,iV .i64 t1198.2]) [(0,some (.row 2 78 (t1198.1.map Z0)))])] [(8,iV .i64 t1198.2)] [2,3,6,8] [(0,some (.box 36 [iV .i64 a0.f0,iV .i64 a0.f1,iV .i64 a0.f2,iV .u64 a0.f3,iV .u64 a0.f4,iV .i64 a0.f5,.own 2,.im (.row (a0.f7.map Z0))])),(2,some (.row 2 78 (t1198.1.map Z0)))] [0,1,2] [_,_] ⟨Try.call63,Z0i.ok a1 t1198 e1199,trivial⟩ ?_
 obtain⟨t1202,e1203,H⟩:=Z4 H
 refine sR hP hn hm [(1,.call [] [(0,3)] [] [3] 0 (.tup [.own 0,iV .i64 t1202.2]) [(0,some (.row 2 78 (t1202.1.map Z0)))])] [(9,iV .i64 t1202.2)] [3,6,8,9] [(0,some (.box 36 [iV .i64 a0.f0,iV .i64 a0.f1,iV .i64 a0.f2,iV .u64 a0.f3,iV .u64 a0.f4,iV .i64 a0.f5,.own 2,.own 3])),(3,some (.row 2 78 (t1202.1.map Z0)))] [0,1,2,3] [_,_] ⟨Try.call63,Z0i.ok a2 t1202 e1203,trivial⟩ ?_
 refine AWp.seq ?_
 refine sO hP hn hm [(2,.more xMax)] [(8,iV .i64 (if t1202.2>t1198.2 then t1202.2 else t1198.2))] [3,6,8] [] [0,1,2,3] ?_
 refine sO hP hn hm [] [(27,bV ((if t1202.2>t1198.2 then t1202.2 else t1198.2) != (0:Int)))] [3,6,8,27] [] [0,1,2,3] ?_
 refine AWp.cond ((if t1202.2>t1198.2 then t1202.2 else t1198.2) != (0:Int)) (by kernel_rfl) (fun c1204 => ?_) (fun c1204 => ?_)
 ·replace H:=iT c1204 H
  refine sO hP hn hm [] [(7,iV .i64 (if t1202.2>t1198.2 then t1202.2 else t1198.2))] [6,7] [] [1] ?_
  refine AWp.conv (inv:=[(1,0)]) (vk:=[]) (e0:=[]) (t:=⟨[(6,.ptr 0 0 0),(7,iV .i64 (if t1202.2>t1198.2 then t1202.2 else t1198.2))],[(0,some (.box 36 (Zn ((⟨0,0,0,0,0,0,[],[]⟩:Zj)))))],0⟩) (by kernel_rfl) ?_
  refine AWp.ret ?_
  obtain rfl:=sj H
  exact rl (.inl rfl) rfl (by kernel_rfl) (by kernel_rfl)
 ·replace H:=iF c1204 H
  refine AWp.skip ?_
  refine AWp.seq ?_
  refine AWp.seq ?_
  refine AWp.conv (inv:=[(0,0),(1,1)]) (vk:=[2,3]) (e0:=[]) (t:=⟨[(3,.ptr 0 0 0),(6,.ptr 1 0 0),(8,iV .i64 (if t1202.2>t1198.2 then t1202.2 else t1198.2)),(27,bV ((if t1202.2>t1198.2 then t1202.2 else t1198.2) != (0:Int)))],[(0,some (.box 36 (Zn ⟨a0.f0,a0.f1,a0.f2,a0.f3,a0.f4,a0.f5,t1198.1,t1202.1⟩))),(1,some (.box 36 [iV .i64 0,iV .i64 0,iV .i64 0,iV .u64 0,iV .u64 0,iV .i64 0,.none0,.none0]))],0⟩) (by kernel_rfl) ?_
  obtain⟨t1209,e1210,H⟩:=Z4 H
  refine rG hP hn hm [(7,.more (xFz (.app 4 ([(⟨0,a0.f3⟩:Z2)].map Z0)))),(8,.app 5 ([t1198.1,t1202.1,[(⟨0,a0.f3⟩:Z2)]].map (Z0w Z0))),(9,.call [] [] [5] [] 0 (.tup [iV .u64 t1209.1,iV .i64 t1209.2]) [])] [(8,iV .i64 t1209.2)] [3,6,8] [(0,some (.box 36 (Zn ⟨a0.f0,a0.f1,a0.f2,a0.f3,t1209.1,a0.f5,t1198.1,t1202.1⟩)))] [0,1] [[(⟨0,a0.f3⟩:Z2)].map Z0=[[iI .i64 0,iI .u64 a0.f3]],[t1198.1,t1202.1,[(⟨0,a0.f3⟩:Z2)]].map (Z0w Z0)=[[.row (t1198.1.map Z0)],[.row (t1202.1.map Z0)],[.row ([(⟨0,a0.f3⟩:Z2)].map Z0)]],_,_] ⟨by exact rfl,by exact rfl,Try.call34,Z06.ok [t1198.1,t1202.1,[(⟨0,a0.f3⟩:Z2)]] t1209 e1210,trivial⟩ ?_
  refine sO hP hn hm [] [(45,bV (t1209.2 != (0:Int)))] [3,6,8,45] [] [0,1] ?_
  refine AWp.cond (t1209.2 != (0:Int)) (by kernel_rfl) (fun c1211 => ?_) (fun c1211 => ?_)
  ·replace H:=iT c1211 H
   refine sO hP hn hm [] [(7,iV .i64 t1209.2)] [6,7] [] [1] ?_
   refine AWp.conv (inv:=[(1,0)]) (vk:=[]) (e0:=[]) (t:=⟨[(6,.ptr 0 0 0),(7,iV .i64 t1209.2)],[(0,some (.box 36 (Zn ((⟨0,0,0,0,0,0,[],[]⟩:Zj)))))],0⟩) (by kernel_rfl) ?_
   refine AWp.ret ?_
   obtain rfl:=sj H
   exact rl (.inl rfl) rfl (by kernel_rfl) (by kernel_rfl)
  ·replace H:=iF c1211 H
   refine AWp.skip ?_
   refine AWp.seq ?_
   obtain⟨t1214,e1215,H⟩:=Z4 H
   refine sR hP hn hm [(1,.call [] [] [] [] 0 (iV .i64 t1214) [])] [(10,iV .i64 t1214)] [3,6,10] [] [0,1] [_,_] ⟨Try.call11,Z02.ok (⟨a0.f0,a0.f1,a0.f2,a0.f3,t1209.1,a0.f5,t1198.1,t1202.1⟩:Zj) t1214 e1215,trivial⟩ ?_
   refine sO hP hn hm [] [(51,bV (t1214 != (0:Int)))] [3,6,10,51] [] [0,1] ?_
   refine AWp.cond (t1214 != (0:Int)) (by kernel_rfl) (fun c1216 => ?_) (fun c1216 => ?_)
   ·replace H:=iT c1216 H
    refine sO hP hn hm [] [(7,iV .i64 t1214)] [6,7] [] [1] ?_
    refine AWp.conv (inv:=[(1,0)]) (vk:=[]) (e0:=[]) (t:=⟨[(6,.ptr 0 0 0),(7,iV .i64 t1214)],[(0,some (.box 36 (Zn ((⟨0,0,0,0,0,0,[],[]⟩:Zj)))))],0⟩) (by kernel_rfl) ?_
    refine AWp.ret ?_
    obtain rfl:=sj H
    exact rl (.inl rfl) rfl (by kernel_rfl) (by kernel_rfl)
   ·replace H:=iF c1216 H
    refine AWp.skip ?_
    refine sO hP hn hm [] [(7,iV .i64 0)] [6,7] [(1,some (.box 36 (Zn ⟨a0.f0,a0.f1,a0.f2,a0.f3,t1209.1,a0.f5,t1198.1,t1202.1⟩)))] [1] ?_
    refine AWp.conv (inv:=[(1,0)]) (vk:=[]) (e0:=[]) (t:=⟨[(6,.ptr 0 0 0),(7,iV .i64 0)],[(0,some (.box 36 (Zn ((⟨a0.f0,a0.f1,a0.f2,a0.f3,t1209.1,a0.f5,t1198.1,t1202.1⟩:Zj)))))],0⟩) (by kernel_rfl) ?_
    refine AWp.ret ?_
    obtain rfl:=sj H
    exact rl (.inl rfl) rfl (by kernel_rfl) (by kernel_rfl)
def Z1l.f (a0:Zj) (a1:List Z2) (a2:List Z2) (a3:Int):Option (Zj×Int):=(Z10.f a0 a1 a3)>>=fun t453=>(Z10.f a0 a2 a3)>>=fun t455=>(Zp.f a1 a0.f0 a0.f1 a0.f2 a0.f3 a0.f4 a0.f5 a0.f6 a0.f7 (if t455>t453 then t455 else t453))>>=fun t510=>(Zp.f a2 a0.f0 a0.f1 a0.f2 t510.2 a0.f4 a0.f5 a0.f6 a0.f7 (if t455>t453 then t455 else t453))>>=fun t512=>(Z1x.f (⟨a0.f0,a0.f1,(if t455>t453 then t455 else t453),t512.2,a0.f4,a0.f5,a0.f6,a0.f7⟩:Zj) t510.1 t512.1)>>=fun t1221=>some ((t1221.1),t1221.2)
theorem Z1l.ok (a0:Zj) (a1:List Z2) (a2:List Z2) (a3:Int) (r:Zj×Int) (H:Z1l.f a0 a1 a2 a3=some r):Pv.Fn Try.prog 82 [.agg (Zn a0),.im (.row (a1.map Z0)),.im (.row (a2.map Z0)),iV .i64 a3] [] 0 (fun x o=>x = .tup [.agg (Zn (r.1)),iV .i64 r.2]∧o=[]):=by
 unfold Z1l.f at H
 refine Fn.bodyK [] Try.func82 rfl rfl (fun Γ hP hn => ?_)
 have hm:Try.prog.follows .mixedOrders=true:=by kernel_rfl
 replace hn:Γ.n=35:=hn
 refine sO hP hn hm [(0,.k 0),(1,.k 1),(2,.k 2)] [(4,.ptr 0 0 0),(7,.ptr 1 0 0),(8,.ptr 2 0 0)] [1,2,4,7,8] [(0,some (.box 36 (Zn a0))),(1,some (.box 3 [iV .i64 a3])),(2,some (.box 36 [iV .i64 0,iV .i64 0,iV .i64 0,iV .u64 0,iV .u64 0,iV .i64 0,.none0,.none0]))] [0,1,2] ?_
 obtain⟨t453,e454,H⟩:=Z4 H
 obtain⟨t455,e456,H⟩:=Z4 H
 refine sR hP hn hm [(3,.call [] [] [] [] 0 (iV .i64 t453) []),(7,.call [] [] [] [] 0 (iV .i64 t455) []),(8,.more xMax)] [] [1,2,4,7,8] [(1,some (.box 3 [iV .i64 (if t455>t453 then t455 else t453)]))] [0,1,2] [_,_,_,_] ⟨Try.call87,Z10.ok a0 a1 a3 t453 e454,Try.call87,Z10.ok a0 a2 a3 t455 e456,trivial⟩ ?_
 refine sO hP hn hm [(0,.more xFunc)] [(10,.fn 88 [.ptr 0 0 0,.ptr 1 0 0])] [1,2,4,7,8,10] [] [0,1,2] ?_
 obtain⟨t510,e511,H⟩:=Z4 H
 obtain⟨t512,e513,H⟩:=Z4 H
 refine sR hP hn hm [(2,.call [(0,0),(1,1)] [(0,0),(1,1),(2,3)] [] [3] 2 (.own 2) [(0,some (.box 36 (Zn ⟨a0.f0,a0.f1,a0.f2,t510.2,a0.f4,a0.f5,a0.f6,a0.f7⟩))),(1,some (.box 3 [iV .i64 (if t455>t453 then t455 else t453)])),(2,some (.row 2 78 (t510.1.map Z0)))]),(5,.call [(0,0),(1,1)] [(0,0),(1,1),(2,4)] [] [4] 2 (.own 2) [(0,some (.box 36 (Zn ⟨a0.f0,a0.f1,a0.f2,t512.2,a0.f4,a0.f5,a0.f6,a0.f7⟩))),(1,some (.box 3 [iV .i64 (if t455>t453 then t455 else t453)])),(2,some (.row 2 78 (t512.1.map Z0)))])] [(1,.own 3),(2,.own 4)] [1,2,4,7,8] [(0,some (.box 36 (Zn ⟨a0.f0,a0.f1,a0.f2,t512.2,a0.f4,a0.f5,a0.f6,a0.f7⟩))),(3,some (.row 2 78 (t510.1.map Z0))),(4,some (.row 2 78 (t512.1.map Z0)))] [0,1,2,3,4] [_,_,_,_] ⟨Try.call88,Zp.ok a1 a0.f0 a0.f1 a0.f2 a0.f3 a0.f4 a0.f5 a0.f6 a0.f7 (if t455>t453 then t455 else t453) t510 e511,Try.call88,Zp.ok a2 a0.f0 a0.f1 a0.f2 t510.2 a0.f4 a0.f5 a0.f6 a0.f7 (if t455>t453 then t455 else t453) t512 e513,trivial⟩ ?_
 refine sO hP hn hm [] [] [1,2,4,8] [(0,some (.box 36 (Zn ⟨a0.f0,a0.f1,(if t455>t453 then t455 else t453),t512.2,a0.f4,a0.f5,a0.f6,a0.f7⟩)))] [0,2,3,4] ?_
 refine AWp.seq ?_
 refine AWp.conv (inv:=[(2,2),(0,0)]) (vk:=[3,4]) (e0:=[]) (t:=⟨[(1,.im (.row (t510.1.map Z0))),(2,.im (.row (t512.1.map Z0))),(4,.ptr 0 0 0),(8,.ptr 2 0 0)],[(0,some (.box 36 (Zn ⟨a0.f0,a0.f1,(if t455>t453 then t455 else t453),t512.2,a0.f4,a0.f5,a0.f6,a0.f7⟩))),(2,some (.box 36 [iV .i64 0,iV .i64 0,iV .i64 0,iV .u64 0,iV .u64 0,iV .i64 0,.none0,.none0]))],0⟩) (by kernel_rfl) ?_
 obtain⟨t1221,e1222,H⟩:=Z4 H
 refine rG hP hn hm [(3,.call [] [] [] [] 0 (.tup [.agg (Zn (t1221.1)),iV .i64 t1221.2]) [])] [(9,iV .i64 t1221.2)] [8,9] [(2,some (.box 36 (Zn (t1221.1))))] [2] [_,_] ⟨Try.call54,Z1x.ok (⟨a0.f0,a0.f1,(if t455>t453 then t455 else t453),t512.2,a0.f4,a0.f5,a0.f6,a0.f7⟩:Zj) t510.1 t512.1 t1221 e1222,trivial⟩ ?_
 refine AWp.conv (inv:=[(2,0)]) (vk:=[]) (e0:=[]) (t:=⟨[(8,.ptr 0 0 0),(9,iV .i64 t1221.2)],[(0,some (.box 36 (Zn ((t1221.1)))))],0⟩) (by kernel_rfl) ?_
 refine AWp.ret ?_
 obtain rfl:=sj H
 exact rl (.inl rfl) rfl (by kernel_rfl) (by kernel_rfl)
def Z1w.f (a0:Zj) (a1:Int):Option (Zj×Int):=(((Zq.f a1)>>=fun t327=>if(!t327)=true then(some true) else(some (decide (a1>a0.f1)))):Option (Bool))>>=fun x330=>if x330=true then(some ((⟨0,0,0,0,0,0,[],[]⟩:Zj),20)) else((Z11.f a0.f6 a0.f1 a1)>>=fun t394=>(Z11.f a0.f7 a0.f1 a1)>>=fun t396=>(Z1l.f (⟨a0.f0,a1,a0.f2,a0.f3,a0.f4,a0.f5,a0.f6,a0.f7⟩:Zj) t394 t396 a0.f2)>>=fun t1227=>some ((t1227.1),t1227.2))
theorem Z1w.ok (a0:Zj) (a1:Int) (r:Zj×Int) (H:Z1w.f a0 a1=some r):Pv.Fn Try.prog 78 [.agg (Zn a0),iV .i64 a1] [] 0 (fun x o=>x = .tup [.agg (Zn (r.1)),iV .i64 r.2]∧o=[]):=by
 unfold Z1w.f at H
 refine Fn.bodyK [] Try.func78 rfl rfl (fun Γ hP hn => ?_)
 have hm:Try.prog.follows .mixedOrders=true:=by kernel_rfl
 replace hn:Γ.n=41:=hn
 refine sO hP hn hm [(0,.k 0),(1,.k 1)] [(2,.ptr 0 0 0),(4,.ptr 1 0 0)] [1,2,4] [(0,some (.box 36 (Zn a0))),(1,some (.box 36 [iV .i64 0,iV .i64 0,iV .i64 0,iV .u64 0,iV .u64 0,iV .i64 0,.none0,.none0]))] [0,1] ?_
 refine AWp.seq ?_
 refine AWp.seq ?_
 obtain⟨o1229,e1230,H⟩:=Z4 H
 refine AWp.mono (Q:=fun e s=>(match (generalizing:=false) o1229 with | x330=>e = .normal∧s=⟨[(1,iV .i64 a1),(2,.ptr 2 0 0),(4,.ptr 3 0 0),(17,bV x330)],[(2,some (.box 36 (Zn a0))),(3,some (.box 36 [iV .i64 0,iV .i64 0,iV .i64 0,iV .u64 0,iV .u64 0,iV .i64 0,.none0,.none0]))],0⟩)) (AWp.cv ?_) ?_
 ·replace H:=e1230;clear e1230
  obtain⟨t327,e328,H⟩:=Z4 H
  rcases Bool.eq_false_or_eq_true (!t327) with c329 | c329
  ·replace H:=iT c329 H
   refine rG hP hn hm [(1,.call [] [] [] [] 0 (bV t327) []),(3,.b true)] [(17,bV true)] [1,2,4,17] [] [0,1] [_,_,_] ⟨Try.call32,Zq.ok a1 t327 e328,c329,trivial⟩ ?_
   obtain rfl:=sj H
   exact lf [(0,2),(1,3)] [] [] (by kernel_rfl) ⟨rfl,rfl⟩
  ·replace H:=iF c329 H
   refine rG hP hn hm [(1,.call [] [] [] [] 0 (bV t327) []),(3,.b false)] [(17,bV (decide (a1>a0.f1)))] [1,2,4,17] [] [0,1] [_,_,_] ⟨Try.call32,Zq.ok a1 t327 e328,c329,trivial⟩ ?_
   obtain rfl:=sj H
   exact lf [(0,2),(1,3)] [] [] (by kernel_rfl) ⟨rfl,rfl⟩
 ·obtain⟨x330,rfl⟩:∃ z,z=o1229:=⟨_,rfl⟩
  rintro e s ⟨rfl,rfl⟩
  refine AWp.cond x330 (by kernel_rfl) (fun c331 => ?_) (fun c331 => ?_)
  ·replace H:=iT c331 H
   refine sO hP hn hm [] [(5,iV .i64 20)] [4,5] [] [3] ?_
   refine AWp.conv (inv:=[(3,0)]) (vk:=[]) (e0:=[]) (t:=⟨[(4,.ptr 0 0 0),(5,iV .i64 20)],[(0,some (.box 36 (Zn ((⟨0,0,0,0,0,0,[],[]⟩:Zj)))))],0⟩) (by kernel_rfl) ?_
   refine AWp.ret ?_
   obtain rfl:=sj H
   exact rl (.inl rfl) rfl (by kernel_rfl) (by kernel_rfl)
  ·replace H:=iF c331 H
   refine AWp.skip ?_
   refine sO hP hn hm [] [(6,iV .i64 a0.f1)] [1,2,4,6] [] [2,3] ?_
   refine sO hP hn hm [] [] [1,2,4,6] [(2,some (.box 36 (Zn ⟨a0.f0,a1,a0.f2,a0.f3,a0.f4,a0.f5,a0.f6,a0.f7⟩)))] [2,3] ?_
   obtain⟨t394,e395,H⟩:=Z4 H
   obtain⟨t396,e397,H⟩:=Z4 H
   refine sR hP hn hm [(4,.call [] [(0,4)] [] [4] 0 (.own 0) [(0,some (.row 2 78 (t394.map Z0)))]),(9,.call [] [(0,5)] [] [5] 0 (.own 0) [(0,some (.row 2 78 (t396.map Z0)))])] [(7,.own 4),(8,.own 5)] [2,4,7,8] [(4,some (.row 2 78 (t394.map Z0))),(5,some (.row 2 78 (t396.map Z0)))] [2,3,4,5] [_,_,_,_] ⟨Try.call81,Z11.ok a0.f6 a0.f1 a1 t394 e395,Try.call81,Z11.ok a0.f7 a0.f1 a1 t396 e397,trivial⟩ ?_
   refine AWp.seq ?_
   refine AWp.conv (inv:=[(2,2),(3,3)]) (vk:=[4,5]) (e0:=[]) (t:=⟨[(2,.ptr 2 0 0),(4,.ptr 3 0 0),(7,.im (.row (t394.map Z0))),(8,.im (.row (t396.map Z0)))],[(2,some (.box 36 (Zn ⟨a0.f0,a1,a0.f2,a0.f3,a0.f4,a0.f5,a0.f6,a0.f7⟩))),(3,some (.box 36 [iV .i64 0,iV .i64 0,iV .i64 0,iV .u64 0,iV .u64 0,iV .i64 0,.none0,.none0]))],0⟩) (by kernel_rfl) ?_
   obtain⟨t1227,e1228,H⟩:=Z4 H
   refine rG hP hn hm [(5,.call [] [] [] [] 0 (.tup [.agg (Zn (t1227.1)),iV .i64 t1227.2]) [])] [(5,iV .i64 t1227.2)] [4,5] [(3,some (.box 36 (Zn (t1227.1))))] [3] [_,_] ⟨Try.call82,Z1l.ok (⟨a0.f0,a1,a0.f2,a0.f3,a0.f4,a0.f5,a0.f6,a0.f7⟩:Zj) t394 t396 a0.f2 t1227 e1228,trivial⟩ ?_
   refine AWp.conv (inv:=[(3,0)]) (vk:=[]) (e0:=[]) (t:=⟨[(4,.ptr 0 0 0),(5,iV .i64 t1227.2)],[(0,some (.box 36 (Zn ((t1227.1)))))],0⟩) (by kernel_rfl) ?_
   refine AWp.ret ?_
   obtain rfl:=sj H
   exact rl (.inl rfl) rfl (by kernel_rfl) (by kernel_rfl)
def Z2i.f (a0:Zj):Option (Zj):=(Zv.f a0.f6)>>=fun t1247=>(Zv.f a0.f7)>>=fun t1249=>some (⟨a0.f0,a0.f1,a0.f2,a0.f3,a0.f4,a0.f5,t1247,t1249⟩:Zj)
theorem Z2i.ok (a0:Zj) (r:Zj) (H:Z2i.f a0=some r):Pv.Fn Try.prog 83 [.agg (Zn a0)] [] 0 (fun x o=>x = .agg [iV .i64 ((r).f0),iV .i64 ((r).f1),iV .i64 ((r).f2),iV .u64 ((r).f3),iV .u64 ((r).f4),iV .i64 ((r).f5),.own 0,.own 1]∧o=[(0,some (.row 2 78 (((r).f6).map Z0))),(1,some (.row 2 78 (((r).f7).map Z0)))]):=by
 unfold Z2i.f at H
 refine Fn.bodyK [0,1] Try.func83 rfl rfl (fun Γ hP hn => ?_)
 have hm:Try.prog.follows .mixedOrders=true:=by kernel_rfl
 replace hn:Γ.n=12:=hn
 refine sO hP hn hm [(0,.k 0),(1,.k 1)] [(1,.ptr 0 0 0),(2,.ptr 1 0 0)] [1,2] [(0,some (.box 36 (Zn a0))),(1,some (.box 36 [iV .i64 0,iV .i64 0,iV .i64 0,iV .u64 0,iV .u64 0,iV .i64 0,.none0,.none0]))] [0,1] ?_
 obtain⟨t1247,e1248,H⟩:=Z4 H
 obtain⟨t1249,e1250,H⟩:=Z4 H
 refine sR hP hn hm [(2,.call [] [(0,2)] [] [2] 0 (.own 0) [(0,some (.row 2 78 (t1247.map Z0)))]),(5,.call [] [(0,3)] [] [3] 0 (.own 0) [(0,some (.row 2 78 (t1249.map Z0)))])] [] [1,2] [(0,some (.box 36 [iV .i64 a0.f0,iV .i64 a0.f1,iV .i64 a0.f2,iV .u64 a0.f3,iV .u64 a0.f4,iV .i64 a0.f5,.own 2,.own 3])),(2,some (.row 2 78 (t1247.map Z0))),(3,some (.row 2 78 (t1249.map Z0)))] [0,1,2,3] [_,_,_,_] ⟨Try.call73,Zv.ok a0.f6 t1247 e1248,Try.call73,Zv.ok a0.f7 t1249 e1250,trivial⟩ ?_
 refine sO hP hn hm [] [] [2] [(1,some (.box 36 [iV .i64 a0.f0,iV .i64 a0.f1,iV .i64 a0.f2,iV .u64 a0.f3,iV .u64 a0.f4,iV .i64 a0.f5,.own 2,.own 3]))] [1,2,3] ?_
 refine AWp.conv (inv:=[(1,2),(2,0),(3,1)]) (vk:=[]) (e0:=[]) (t:=⟨[(2,.ptr 2 0 0)],[(0,some (.row 2 78 ((((⟨a0.f0,a0.f1,a0.f2,a0.f3,a0.f4,a0.f5,t1247,t1249⟩:Zj)).f6).map Z0))),(1,some (.row 2 78 ((((⟨a0.f0,a0.f1,a0.f2,a0.f3,a0.f4,a0.f5,t1247,t1249⟩:Zj)).f7).map Z0))),(2,some (.box 36 [iV .i64 (((⟨a0.f0,a0.f1,a0.f2,a0.f3,a0.f4,a0.f5,t1247,t1249⟩:Zj)).f0),iV .i64 (((⟨a0.f0,a0.f1,a0.f2,a0.f3,a0.f4,a0.f5,t1247,t1249⟩:Zj)).f1),iV .i64 (((⟨a0.f0,a0.f1,a0.f2,a0.f3,a0.f4,a0.f5,t1247,t1249⟩:Zj)).f2),iV .u64 (((⟨a0.f0,a0.f1,a0.f2,a0.f3,a0.f4,a0.f5,t1247,t1249⟩:Zj)).f3),iV .u64 (((⟨a0.f0,a0.f1,a0.f2,a0.f3,a0.f4,a0.f5,t1247,t1249⟩:Zj)).f4),iV .i64 (((⟨a0.f0,a0.f1,a0.f2,a0.f3,a0.f4,a0.f5,t1247,t1249⟩:Zj)).f5),.own 0,.own 1]))],0⟩) (by kernel_rfl) ?_
 refine AWp.ret ?_
 obtain rfl:=sj H
 exact rl (.inl rfl) rfl (by kernel_rfl) (by kernel_rfl)
def Z19.f (a0:Zj) (a1:Int):Option (Zj×Int):=if(decide (a1<a0.f2))=true then(some ((⟨0,0,0,0,0,0,[],[]⟩:Zj),31)) else(if(a1==a0.f2)=true then((Z2i.f a0)>>=fun t1253=>some ((t1253),0)) else(((if(decide (a1≤(-262144)))=true then(some true) else(some (decide (a1>(262144:Int))))):Option (Bool))>>=fun x1257=>if x1257=true then(some ((⟨0,0,0,0,0,0,[],[]⟩:Zj),31)) else((Z1l.f a0 a0.f6 a0.f7 a1)>>=fun t1261=>some ((t1261.1),t1261.2))))
theorem Z19.ok (a0:Zj) (a1:Int) (r:Zj×Int) (H:Z19.f a0 a1=some r):Pv.Fn Try.prog 79 [.agg (Zn a0),iV .i64 a1] [] 0 (fun x o=>x = .tup [.agg (Zn (r.1)),iV .i64 r.2]∧o=[]):=by
 unfold Z19.f at H
 refine Fn.bodyK [] Try.func79 rfl rfl (fun Γ hP hn => ?_)
 have hm:Try.prog.follows .mixedOrders=true:=by kernel_rfl
 replace hn:Γ.n=36:=hn
 refine sO hP hn hm [(0,.k 0),(1,.k 1)] [(2,.ptr 0 0 0),(4,.ptr 1 0 0)] [1,2,4] [(0,some (.box 36 (Zn a0))),(1,some (.box 36 [iV .i64 0,iV .i64 0,iV .i64 0,iV .u64 0,iV .u64 0,iV .i64 0,.none0,.none0]))] [0,1] ?_
 refine AWp.seq ?_
 refine AWp.block ?_
 refine sO hP hn hm [] [(6,bV (decide (a1<a0.f2)))] [1,2,4,6] [] [0,1] ?_
 refine AWp.cond (decide (a1<a0.f2)) (by kernel_rfl) (fun c1241 => ?_) (fun c1241 => ?_)
 ·replace H:=iT c1241 H
  refine sO hP hn hm [] [(5,iV .i64 31)] [4,5] [] [1] ?_
  refine AWp.conv (inv:=[(1,0)]) (vk:=[]) (e0:=[]) (t:=⟨[(4,.ptr 0 0 0),(5,iV .i64 31)],[(0,some (.box 36 (Zn ((⟨0,0,0,0,0,0,[],[]⟩:Zj)))))],0⟩) (by kernel_rfl) ?_
  refine AWp.ret ?_
  obtain rfl:=sj H
  exact rl (.inl rfl) rfl (by kernel_rfl) (by kernel_rfl)
 ·replace H:=iF c1241 H
  refine sO hP hn hm [] [(12,bV (a1==a0.f2))] [1,2,4,12] [] [0,1] ?_
  refine AWp.cond (a1==a0.f2) (by kernel_rfl) (fun c1242 => ?_) (fun c1242 => ?_)
  ·replace H:=iT c1242 H
   obtain⟨t1253,e1254,H⟩:=Z4 H
   refine sR hP hn hm [(1,.call [] [(0,2),(1,3)] [] [2,3] 0 (.agg [iV .i64 ((t1253).f0),iV .i64 ((t1253).f1),iV .i64 ((t1253).f2),iV .u64 ((t1253).f3),iV .u64 ((t1253).f4),iV .i64 ((t1253).f5),.own 0,.own 1]) [(0,some (.row 2 78 (((t1253).f6).map Z0))),(1,some (.row 2 78 (((t1253).f7).map Z0)))])] [(5,iV .i64 0)] [4,5] [(1,some (.box 36 [iV .i64 ((t1253).f0),iV .i64 ((t1253).f1),iV .i64 ((t1253).f2),iV .u64 ((t1253).f3),iV .u64 ((t1253).f4),iV .i64 ((t1253).f5),.own 2,.own 3])),(2,some (.row 2 78 (((t1253).f6).map Z0))),(3,some (.row 2 78 (((t1253).f7).map Z0)))] [1,2,3] [_,_] ⟨Try.call83,Z2i.ok a0 t1253 e1254,trivial⟩ ?_
   refine AWp.conv (inv:=[(1,0)]) (vk:=[2,3]) (e0:=[]) (t:=⟨[(4,.ptr 0 0 0),(5,iV .i64 0)],[(0,some (.box 36 (Zn ((t1253)))))],0⟩) (by kernel_rfl) ?_
   refine AWp.ret ?_
   obtain rfl:=sj H
   exact rl (.inl rfl) rfl (by kernel_rfl) (by kernel_rfl)
  ·replace H:=iF c1242 H
   refine AWp.seq ?_
   obtain⟨o1263,e1264,H⟩:=Z4 H
   refine AWp.mono (Q:=fun e s=>(match (generalizing:=false) o1263 with | x1257=>e = .normal∧s=⟨[(1,iV .i64 a1),(2,.ptr 4 0 0),(4,.ptr 5 0 0),(19,bV x1257)],[(4,some (.box 36 (Zn a0))),(5,some (.box 36 [iV .i64 0,iV .i64 0,iV .i64 0,iV .u64 0,iV .u64 0,iV .i64 0,.none0,.none0]))],0⟩)) (AWp.cv ?_) ?_
   ·replace H:=e1264;clear e1264
    rcases Bool.eq_false_or_eq_true (decide (a1≤(-262144))) with c1256 | c1256
    ·replace H:=iT c1256 H
     refine rG hP hn hm [(2,.b true)] [(19,bV true)] [1,2,4,19] [] [0,1] [_] ⟨c1256,trivial⟩ ?_
     obtain rfl:=sj H
     exact lf [(0,4),(1,5)] [] [] (by kernel_rfl) ⟨rfl,rfl⟩
    ·replace H:=iF c1256 H
     refine rG hP hn hm [(2,.b false)] [(19,bV (decide (a1>(262144:Int))))] [1,2,4,19] [] [0,1] [_] ⟨c1256,trivial⟩ ?_
     obtain rfl:=sj H
     exact lf [(0,4),(1,5)] [] [] (by kernel_rfl) ⟨rfl,rfl⟩
   ·obtain⟨x1257,rfl⟩:∃ z,z=o1263:=⟨_,rfl⟩
    rintro e s ⟨rfl,rfl⟩
    refine AWp.cond x1257 (by kernel_rfl) (fun c1258 => ?_) (fun c1258 => ?_)
    ·replace H:=iT c1258 H
     refine sO hP hn hm [] [(5,iV .i64 31)] [4,5] [] [5] ?_
     refine AWp.conv (inv:=[(5,0)]) (vk:=[]) (e0:=[]) (t:=⟨[(4,.ptr 0 0 0),(5,iV .i64 31)],[(0,some (.box 36 (Zn ((⟨0,0,0,0,0,0,[],[]⟩:Zj)))))],0⟩) (by kernel_rfl) ?_
     refine AWp.ret ?_
     obtain rfl:=sj H
     exact rl (.inl rfl) rfl (by kernel_rfl) (by kernel_rfl)
    ·replace H:=iF c1258 H
     refine AWp.skip ?_
     obtain⟨t1261,e1262,H⟩:=Z4 H
     refine sR hP hn hm [(6,.call [] [] [] [] 0 (.tup [.agg (Zn (t1261.1)),iV .i64 t1261.2]) [])] [(5,iV .i64 t1261.2)] [4,5] [(5,some (.box 36 (Zn (t1261.1))))] [5] [_,_] ⟨Try.call82,Z1l.ok a0 a0.f6 a0.f7 a1 t1261 e1262,trivial⟩ ?_
     refine AWp.conv (inv:=[(5,0)]) (vk:=[]) (e0:=[]) (t:=⟨[(4,.ptr 0 0 0),(5,iV .i64 t1261.2)],[(0,some (.box 36 (Zn ((t1261.1)))))],0⟩) (by kernel_rfl) ?_
     refine AWp.ret ?_
     obtain rfl:=sj H
     exact rl (.inl rfl) rfl (by kernel_rfl) (by kernel_rfl)
def Z0e.l0  (v:Int×Int×Int×Int×Int×Int×(List Z2)×(List Z2)×Int×Int×Int×Int×Int×Int×(List Z2)×(List Z2)):Option ((Zj×Zj×Int) ⊕ (Int×Int×Int×Int×Int×Int×(List Z2)×(List Z2)×Int×Int×Int×Int×Int×Int×(List Z2)×(List Z2))):=match v with
 | (x1274,x1275,x1276,x1277,x1278,x1279,x1280,x1281,x1282,x1283,x1284,x1285,x1286,x1287,x1288,x1289)=>if(x1276 != x1284)=true then((Z19.f (⟨x1274,x1275,x1276,x1277,x1278,x1279,x1280,x1281⟩:Zj) (if x1284>x1276 then x1284 else x1276))>>=fun t1293=>(Z19.f (⟨x1282,x1283,x1284,x1285,x1286,x1287,x1288,x1289⟩:Zj) (if x1284>x1276 then x1284 else x1276))>>=fun t1297=>if((if t1297.2>t1293.2 then t1297.2 else t1293.2) != (0:Int))=true then(some (.inl ((⟨0,0,0,0,0,0,[],[]⟩:Zj),(⟨0,0,0,0,0,0,[],[]⟩:Zj),(if t1297.2>t1293.2 then t1297.2 else t1293.2)))) else(Z0e.l0  ((t1293.1).f0,(t1293.1).f1,(t1293.1).f2,(t1293.1).f3,(t1293.1).f4,(t1293.1).f5,(t1293.1).f6,(t1293.1).f7,(t1297.1).f0,(t1297.1).f1,(t1297.1).f2,(t1297.1).f3,(t1297.1).f4,(t1297.1).f5,(t1297.1).f6,(t1297.1).f7))) else(some (.inr (x1274,x1275,x1276,x1277,x1278,x1279,x1280,x1281,x1282,x1283,x1284,x1285,x1286,x1287,x1288,x1289)))
partial_fixpoint
def Z0e.f (a0:Zj) (a1:Zj):Option (Zj×Zj×Int):=(Z1w.f a0 (if a1.f1<a0.f1 then a1.f1 else a0.f1))>>=fun t1233=>(Z1w.f a1 (if a1.f1<a0.f1 then a1.f1 else a0.f1))>>=fun t1237=>if((if t1237.2>t1233.2 then t1237.2 else t1233.2) != (0:Int))=true then(some ((⟨0,0,0,0,0,0,[],[]⟩:Zj),(⟨0,0,0,0,0,0,[],[]⟩:Zj),(if t1237.2>t1233.2 then t1237.2 else t1233.2))) else((Z0e.l0  ((t1233.1).f0,(t1233.1).f1,(t1233.1).f2,(t1233.1).f3,(t1233.1).f4,(t1233.1).f5,(t1233.1).f6,(t1233.1).f7,(t1237.1).f0,(t1237.1).f1,(t1237.1).f2,(t1237.1).f3,(t1237.1).f4,(t1237.1).f5,(t1237.1).f6,(t1237.1).f7))>>=fun oo=>match oo with | .inl rr=>(some rr) | .inr (x1300,x1301,x1302,x1303,x1304,x1305,x1306,x1307,x1308,x1309,x1310,x1311,x1312,x1313,x1314,x1315)=>(some ((⟨x1300,x1301,x1302,x1303,x1304,x1305,x1306,x1307⟩:Zj),(⟨x1308,x1309,x1310,x1311,x1312,x1313,x1314,x1315⟩:Zj),0)))
theorem Z0e.ok (a0:Zj) (a1:Zj) (r:Zj×Zj×Int) (H:Z0e.f a0 a1=some r):Pv.Fn Try.prog 69 [.agg (Zn a0),.agg (Zn a1)] [] 0 (fun x o=>x = .tup [.agg (Zn (r.1)),.agg (Zn (r.2.1)),iV .i64 r.2.2]∧o=[]):=by
 unfold Z0e.f at H
 refine Fn.bodyK [] Try.func69 rfl rfl (fun Γ hP hn => ?_)
 have hm:Try.prog.follows .mixedOrders=true:=by kernel_rfl
 replace hn:Γ.n=68:=hn
 refine sO hP hn hm [(0,.k 0),(1,.k 1),(2,.k 2),(3,.k 3)] [(2,.ptr 0 0 0),(3,.ptr 1 0 0),(4,.ptr 2 0 0),(5,.ptr 3 0 0)] [2,3,4,5] [(0,some (.box 36 (Zn a0))),(1,some (.box 36 (Zn a1))),(2,some (.box 36 [iV .i64 0,iV .i64 0,iV .i64 0,iV .u64 0,iV .u64 0,iV .i64 0,.none0,.none0])),(3,some (.box 36 [iV .i64 0,iV .i64 0,iV .i64 0,iV .u64 0,iV .u64 0,iV .i64 0,.none0,.none0]))] [0,1,2,3] ?_
 refine sO hP hn hm [(4,.more xMin)] [(7,iV .i64 (if a1.f1<a0.f1 then a1.f1 else a0.f1))] [2,3,4,5,7] [] [0,1,2,3] ?_
 obtain⟨t1233,e1234,H⟩:=Z4 H
 refine sR hP hn hm [(2,.call [] [] [] [] 0 (.tup [.agg (Zn (t1233.1)),iV .i64 t1233.2]) [])] [(8,iV .i64 t1233.2)] [2,3,4,5,7,8] [(0,some (.box 36 (Zn (t1233.1))))] [0,1,2,3] [_,_] ⟨Try.call78,Z1w.ok a0 (if a1.f1<a0.f1 then a1.f1 else a0.f1) t1233 e1234,trivial⟩ ?_
 obtain⟨t1237,e1238,H⟩:=Z4 H
 refine sR hP hn hm [(2,.call [] [] [] [] 0 (.tup [.agg (Zn (t1237.1)),iV .i64 t1237.2]) [])] [(9,iV .i64 t1237.2)] [2,3,4,5,8,9] [(1,some (.box 36 (Zn (t1237.1))))] [0,1,2,3] [_,_] ⟨Try.call78,Z1w.ok a1 (if a1.f1<a0.f1 then a1.f1 else a0.f1) t1237 e1238,trivial⟩ ?_
 refine AWp.seq ?_
 refine sO hP hn hm [(2,.more xMax)] [(8,iV .i64 (if t1237.2>t1233.2 then t1237.2 else t1233.2))] [2,3,4,5,8] [] [0,1,2,3] ?_
 refine sO hP hn hm [] [(32,bV ((if t1237.2>t1233.2 then t1237.2 else t1233.2) != (0:Int)))] [2,3,4,5,8,32] [] [0,1,2,3] ?_
 refine AWp.cond ((if t1237.2>t1233.2 then t1237.2 else t1233.2) != (0:Int)) (by kernel_rfl) (fun c1239 => ?_) (fun c1239 => ?_)
 ·replace H:=iT c1239 H
  refine sO hP hn hm [] [(6,iV .i64 (if t1237.2>t1233.2 then t1237.2 else t1233.2))] [4,5,6] [] [2,3] ?_
  refine AWp.conv (inv:=[(2,0),(3,1)]) (vk:=[]) (e0:=[]) (t:=⟨[(4,.ptr 0 0 0),(5,.ptr 1 0 0),(6,iV .i64 (if t1237.2>t1233.2 then t1237.2 else t1233.2))],[(0,some (.box 36 (Zn ((⟨0,0,0,0,0,0,[],[]⟩:Zj))))),(1,some (.box 36 (Zn ((⟨0,0,0,0,0,0,[],[]⟩:Zj)))))],0⟩) (by kernel_rfl) ?_
  refine AWp.ret ?_
  obtain rfl:=sj H
  exact rl (.inl rfl) rfl (by kernel_rfl) (by kernel_rfl)
 ·replace H:=iF c1239 H
  refine AWp.skip ?_
  refine AWp.seq ?_
  refine AWp.block ?_
  obtain⟨o1316,e1317,H⟩:=Z4 H
  refine AWp.loop (LWp.conv (inv:=[(0,4),(1,5),(2,6),(3,7)]) (vk:=[]) (e0:=[]) (t:=⟨[(2,.ptr 4 0 0),(3,.ptr 5 0 0),(4,.ptr 6 0 0),(5,.ptr 7 0 0)],[(4,some (.box 36 (Zn (t1233.1)))),(5,some (.box 36 (Zn (t1237.1)))),(6,some (.box 36 [iV .i64 0,iV .i64 0,iV .i64 0,iV .u64 0,iV .u64 0,iV .i64 0,.none0,.none0])),(7,some (.box 36 [iV .i64 0,iV .i64 0,iV .i64 0,iV .u64 0,iV .u64 0,iV .i64 0,.none0,.none0]))],0⟩) (by kernel_rfl) ?_)
  refine LWp.mono (Q:=fun e s=>(match (generalizing:=false) o1316 with | .inl rr=>e = .ret∧s.floor=0∧Z2c Try.prog Try.f69 s=some (.tup [.agg (Zn (rr.1)),.agg (Zn (rr.2.1)),iV .i64 rr.2.2])∧([]:List (Nat×Option MObj))=[] | .inr (x1300,x1301,x1302,x1303,x1304,x1305,x1306,x1307,x1308,x1309,x1310,x1311,x1312,x1313,x1314,x1315)=>e = .exit 0∧s=⟨[(2,.ptr 8 0 0),(3,.ptr 9 0 0),(4,.ptr 10 0 0),(5,.ptr 11 0 0)],[(8,some (.box 36 (Zn ⟨x1300,x1301,x1302,x1303,x1304,x1305,x1306,x1307⟩))),(9,some (.box 36 (Zn ⟨x1308,x1309,x1310,x1311,x1312,x1313,x1314,x1315⟩))),(10,some (.box 36 [iV .i64 0,iV .i64 0,iV .i64 0,iV .u64 0,iV .u64 0,iV .i64 0,.none0,.none0])),(11,some (.box 36 [iV .i64 0,iV .i64 0,iV .i64 0,iV .u64 0,iV .u64 0,iV .i64 0,.none0,.none0]))],0⟩)) (LWp.cv (Zt (fun body hbody => ?_))) ?_
  ·refine          Z0e.l0.partial_correctness  (motive:=fun v o1316=>(match (generalizing:=false) v with | (x1274,x1275,x1276,x1277,x1278,x1279,x1280,x1281,x1282,x1283,x1284,x1285,x1286,x1287,x1288,x1289)=>LWp Γ body (fun e s=>∃ t,Cv Γ s t∧(match (generalizing:=false) o1316 with | .inl rr=>e = .ret∧t.floor=0∧Z2c   Try.prog Try.f69 t=some (.tup [.agg (Zn    (rr.1)),.agg (Zn    (rr.2.1)),iV .i64 rr.2.2])∧([]:List (Nat×Option MObj))=[] | .inr (x1300,x1301,x1302,x1303,x1304,x1305,x1306,x1307,x1308,x1309,x1310,x1311,x1312,x1313,x1314,x1315)=>e = .exit 0∧t=⟨[(2,.ptr 8 0 0),(3,.ptr 9 0 0),(4,.ptr 10 0 0),(5,.ptr 11 0 0)],[(8,some (.box 36 (Zn    ⟨x1300,x1301,x1302,x1303,x1304,x1305,x1306,x1307⟩))),(9,some (.box 36 (Zn    ⟨x1308,x1309,x1310,x1311,x1312,x1313,x1314,x1315⟩))),(10,some (.box 36 [iV .i64 0,iV .i64 0,iV .i64 0,iV .u64 0,iV .u64 0,iV .i64 0,.none0,.none0])),(11,some (.box 36 [iV .i64 0,iV .i64 0,iV .i64 0,iV .u64 0,iV .u64 0,iV .i64 0,.none0,.none0]))],0⟩)) ⟨[(2,.ptr 4 0 0),(3,.ptr 5 0 0),(4,.ptr 6 0 0),(5,.ptr 7 0 0)],[(4,some (.box 36 (Zn    ⟨x1274,x1275,x1276,x1277,x1278,x1279,x1280,x1281⟩))),(5,some (.box 36 (Zn    ⟨x1282,x1283,x1284,x1285,x1286,x1287,x1288,x1289⟩))),(6,some (.box 36 [iV .i64 0,iV .i64 0,iV .i64 0,iV .u64 0,iV .u64 0,iV .i64 0,.none0,.none0])),(7,some (.box 36 [iV .i64 0,iV .i64 0,iV .i64 0,iV .u64 0,iV .u64 0,iV .i64 0,.none0,.none0]))],0⟩)) ?_ _ _ e1317
   clear H e1317 o1316;intro self ih v o1316 H
   obtain⟨x1274,x1275,x1276,x1277,x1278,x1279,x1280,x1281,x1282,x1283,x1284,x1285,x1286,x1287,x1288,x1289⟩:=v
   dsimp only at H
   subst hbody
   refine LWp.round ?_
   refine AWp.seq ?_
   refine sO hP hn hm [] [(40,bV (x1276 != x1284))] [2,3,4,5,40] [] [4,5,6,7] ?_
   refine AWp.cond (x1276 != x1284) (by kernel_rfl) (fun c1290 => ?_) (fun c1290 => ?_)
   ·replace H:=iT c1290 H
    refine AWp.skip ?_
    refine AWp.block ?_
    refine sO hP hn hm [(4,.more xMax)] [(10,iV .i64 (if x1284>x1276 then x1284 else x1276))] [2,3,4,5,10] [] [4,5,6,7] ?_
    obtain⟨t1293,e1294,H⟩:=Z4 H
    refine sR hP hn hm [(2,.call [] [] [] [] 0 (.tup [.agg (Zn (t1293.1)),iV .i64 t1293.2]) [])] [(8,iV .i64 t1293.2)] [2,3,4,5,8,10] [(4,some (.box 36 (Zn (t1293.1))))] [4,5,6,7] [_,_] ⟨Try.call79,Z19.ok (⟨x1274,x1275,x1276,x1277,x1278,x1279,x1280,x1281⟩:Zj) (if x1284>x1276 then x1284 else x1276) t1293 e1294,trivial⟩ ?_
    obtain⟨t1297,e1298,H⟩:=Z4 H
    refine sR hP hn hm [(2,.call [] [] [] [] 0 (.tup [.agg (Zn (t1297.1)),iV .i64 t1297.2]) [])] [(9,iV .i64 t1297.2)] [2,3,4,5,8,9] [(5,some (.box 36 (Zn (t1297.1))))] [4,5,6,7] [_,_] ⟨Try.call79,Z19.ok (⟨x1282,x1283,x1284,x1285,x1286,x1287,x1288,x1289⟩:Zj) (if x1284>x1276 then x1284 else x1276) t1297 e1298,trivial⟩ ?_
    refine sO hP hn hm [(2,.more xMax)] [(8,iV .i64 (if t1297.2>t1293.2 then t1297.2 else t1293.2))] [2,3,4,5,8] [] [4,5,6,7] ?_
    refine sO hP hn hm [] [(62,bV ((if t1297.2>t1293.2 then t1297.2 else t1293.2) != (0:Int)))] [2,3,4,5,8,62] [] [4,5,6,7] ?_
    refine AWp.cond ((if t1297.2>t1293.2 then t1297.2 else t1293.2) != (0:Int)) (by kernel_rfl) (fun c1299 => ?_) (fun c1299 => ?_)
    ·replace H:=iT c1299 H
     refine sO hP hn hm [] [(6,iV .i64 (if t1297.2>t1293.2 then t1297.2 else t1293.2))] [4,5,6] [] [6,7] ?_
     refine AWp.conv (inv:=[(6,0),(7,1)]) (vk:=[]) (e0:=[]) (t:=⟨[(4,.ptr 0 0 0),(5,.ptr 1 0 0),(6,iV .i64 (if t1297.2>t1293.2 then t1297.2 else t1293.2))],[(0,some (.box 36 (Zn ((⟨0,0,0,0,0,0,[],[]⟩:Zj))))),(1,some (.box 36 (Zn ((⟨0,0,0,0,0,0,[],[]⟩:Zj)))))],0⟩) (by kernel_rfl) ?_
     refine AWp.ret ?_
     obtain rfl:=sj H
     exact rl rfl rfl (by kernel_rfl) (by kernel_rfl)
    ·replace H:=iF c1299 H
     refine AWp.skip ?_
     exact LWp.conv [(4,4),(5,5),(6,6),(7,7)] [] [] (by kernel_rfl) (ih _ _ H)
   ·replace H:=iF c1290 H
    refine AWp.exit ?_
    obtain rfl:=sj H
    exact lf [(4,8),(5,9),(6,10),(7,11)] [] [] (by kernel_rfl) ⟨rfl,rfl⟩
  ·rcases o1316 with rr | ⟨x1300,x1301,x1302,x1303,x1304,x1305,x1306,x1307,x1308,x1309,x1310,x1311,x1312,x1313,x1314,x1315⟩
   ·skip
    rintro e s ⟨rfl,hfl,hres⟩
    obtain rfl:=sj H
    exact Exists.intro _ (And.intro (fun _ _ h=>h) (And.intro (.inl rfl) (And.intro hfl hres)))
   ·skip
    rintro e s ⟨rfl,rfl⟩
    refine sO hP hn hm [] [(6,iV .i64 0)] [4,5,6] [(10,some (.box 36 (Zn ⟨x1300,x1301,x1302,x1303,x1304,x1305,x1306,x1307⟩))),(11,some (.box 36 (Zn ⟨x1308,x1309,x1310,x1311,x1312,x1313,x1314,x1315⟩)))] [10,11] ?_
    refine AWp.conv (inv:=[(10,0),(11,1)]) (vk:=[]) (e0:=[]) (t:=⟨[(4,.ptr 0 0 0),(5,.ptr 1 0 0),(6,iV .i64 0)],[(0,some (.box 36 (Zn ((⟨x1300,x1301,x1302,x1303,x1304,x1305,x1306,x1307⟩:Zj))))),(1,some (.box 36 (Zn ((⟨x1308,x1309,x1310,x1311,x1312,x1313,x1314,x1315⟩:Zj)))))],0⟩) (by kernel_rfl) ?_
    refine AWp.ret ?_
    obtain rfl:=sj H
    exact rl (.inl rfl) rfl (by kernel_rfl) (by kernel_rfl)
end Go.Proofs.Ytlclecehlekjoaa.PvGE
