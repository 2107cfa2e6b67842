import Derived.Test.YtlclecehlekjoaaProg
import Derived.Test.YtlclecehlekjoaaPxChunkTurns05
set_option linter.unusedVariables false
set_option linter.unnecessarySimpa false
set_option linter.unusedSimpArgs false
set_option maxRecDepth 10000
namespace Go.Proofs.Ytlclecehlekjoaa.PvGE
open Go Go.Pv Go.IntKind
structure Z2 where
 f0:Int
 f1:Int
 deriving DecidableEq,Inhabited
abbrev Z0 (x:Z2):List Im:=[iI .i64 x.f0,iI .u64 x.f1]
abbrev Z1v (x:Z2):List AVal:=[iV .i64 x.f0,iV .u64 x.f1]
structure RBucket (x:Z2):Prop where
 r0:I64 x.f0
 r1:U64 x.f1
structure Zp where
 f0:Int
 f1:Int
 f2:Int
 f3:Int
 f4:Int
 f5:Int
 f6:List Z2
 f7:List Z2
 deriving DecidableEq,Inhabited
abbrev eHist (x:Zp):List Im:=[iI .i64 x.f0,iI .i64 x.f1,iI .i64 x.f2,iI .u64 x.f3,iI .u64 x.f4,iI .i64 x.f5,.row (x.f6.map Z0),.row (x.f7.map Z0)]
abbrev Zx (x:Zp):List AVal:=[iV .i64 x.f0,iV .i64 x.f1,iV .i64 x.f2,iV .u64 x.f3,iV .u64 x.f4,iV .i64 x.f5,.im (.row (x.f6.map Z0)),.im (.row (x.f7.map Z0))]
structure RHist (x:Zp):Prop where
 r0:I64 x.f0
 r1:I64 x.f1
 r2:I64 x.f2
 r3:U64 x.f3
 r4:U64 x.f4
 r5:I64 x.f5
 r6:x.f6.length≤140737488351232∧∀ y∈x.f6,RBucket y
 r7:x.f7.length≤140737488351232∧∀ y∈x.f7,RBucket y
structure Zh where
 f0:Int
 f1:Zp
 deriving DecidableEq,Inhabited
abbrev Zc (x:Zh):List Im:=[iI .i64 x.f0,iI .i64 x.f1.f0,iI .i64 x.f1.f1,iI .i64 x.f1.f2,iI .u64 x.f1.f3,iI .u64 x.f1.f4,iI .i64 x.f1.f5,.row (x.f1.f6.map Z0),.row (x.f1.f7.map Z0)]
structure Z8g (x:Zh):Prop where
 r0:I64 x.f0
 r1:RHist x.f1
structure Z0y where
 f0:Int
 f1:Int
 deriving DecidableEq,Inhabited
abbrev Z0a (x:Z0y):List Im:=[iI .i64 x.f0,iI .i64 x.f1]
abbrev aSpan (x:Z0y):List AVal:=[iV .i64 x.f0,iV .i64 x.f1]
structure RSpan (x:Z0y):Prop where
 r0:I64 x.f0
 r1:I64 x.f1
structure Z7 where
 f0:Int
 f1:List Z0y
 deriving DecidableEq,Inhabited
abbrev Zb (x:Z7):List AVal:=[iV .i64 x.f0,.im (.row (x.f1.map Z0a))]
structure Rspan_Layout (x:Z7):Prop where
 r0:I64 x.f0
 r1:x.f1.length≤140737488351232∧∀ y∈x.f1,RSpan y
structure Tbits_Writer where
 f0:List Int
 f1:Int
 deriving DecidableEq,Inhabited
structure Rbits_Writer (x:Tbits_Writer):Prop where
 r0:x.f0.length≤140737488351232∧∀ y∈x.f0,Rng 0 256 y
 r1:U64 x.f1
structure Z71 where
 f0:List Int
 f1:Int
 f2:Int
 deriving DecidableEq,Inhabited
abbrev Z3 (x:Z71):List AVal:=[.im (.row (x.f0.map (Z1 .u8))),iV .i64 x.f1,iV .i64 x.f2]
structure Rbits_Reader (x:Z71):Prop where
 r0:x.f0.length≤140737488351232∧∀ y∈x.f0,Rng 0 256 y
 r1:I64 x.f1
 r2:I64 x.f2
def Z0v.l0 (a0:List Zh) (x8:Int) (x9:Int):Option (Int):=if(decide (x9<(a0.length:Int)))=true then((at? a0 x9)>>=fun b14=>Z0v.l0 a0 (i64.wrap (x8+(i64.wrap ((i64.wrap ((b14.f1.f6.length:Int)+(b14.f1.f7.length:Int)))+(1:Int))))) (i64.wrap (x9+(1:Int)))) else(some x8)
partial_fixpoint
def Z0v.f (a0:List Zh):Option (Bool):=(Z0v.l0 a0 0 0)>>=fun x17=>some (decide (x17≤(700:Int)))
theorem Z0v.ok (a0:List Zh) (r:Bool) (H:Z0v.f a0=some r):Pv.Fn Try.prog 5 [.im (.row (a0.map Zc))] [] 0 (fun x o=>x=bV r∧o=[]):=by
 unfold Z0v.f at H
 refine Fn.bodyK [] Try.func5 rfl rfl (fun Γ hP hn => ?_)
 have hm:Try.prog.follows .mixedOrders=true:=by kernel_rfl
 replace hn:Γ.n=27:=hn
 refine sO hP hn hm [] [] [0] [] [] ?_
 refine sO hP hn hm [] [(3,iV .i64 0)] [0,3] [] [] ?_
 refine AWp.seq ?_
 refine sR hP hn hm [(1,.any (iV .i64 (a0.length:Int)))] [(6,.im (.row (a0.map Zc))),(7,iV .i64 (a0.length:Int)),(8,iV .i64 0)] [3,6,7,8] [] [] [((a0.map Zc).length:Int)=(a0.length:Int)] ⟨by rw[Zv],trivial⟩ ?_
 refine AWp.block ?_
 obtain⟨o18,e19,H⟩:=Z4 H
 refine AWp.loop (LWp.conv (inv:=[]) (vk:=[]) (e0:=[]) (t:=⟨[(3,iV .i64 0),(6,.im (.row (a0.map Zc))),(7,iV .i64 (a0.length:Int)),(8,iV .i64 0)],[],0⟩) (by kernel_rfl) ?_)
 refine LWp.mono (Q:=fun e s=>(match (generalizing:=false) o18 with | x17=>e = .exit 0∧s=⟨[(3,iV .i64 x17)],[],0⟩)) (LWp.cv (Z07 (fun body hbody => ?_))) ?_
 ·refine         Z0v.l0.partial_correctness a0 (motive:=fun x8 x9 o18=>LWp Γ body (fun e s=>∃ t,Cv Γ s t∧(match (generalizing:=false) o18 with | x17=>e = .exit 0∧t=⟨[(3,iV .i64 x17)],[],0⟩)) ⟨[(3,iV .i64 x8),(6,.im (.row (a0.map Zc     ))),(7,iV .i64 (a0.length:Int)),(8,iV .i64 x9)],[],0⟩) ?_ _ _ _ e19
  clear H e19 o18;intro self ih x8 x9 o18 H
  subst hbody
  refine LWp.round ?_
  refine sO hP hn hm [] [(9,bV (decide (x9<(a0.length:Int))))] [3,6,7,8,9] [] [] ?_
  refine AWp.seq ?_
  refine AWp.cond (decide (x9<(a0.length:Int))) (by kernel_rfl) (fun c10 => ?_) (fun c10 => ?_)
  ·replace H:=iT c10 H
   refine AWp.skip ?_
   refine AWp.seq ?_
   refine AWp.block ?_
   obtain⟨b14,p15,q16,H⟩:=Z0q H
   refine sR hP hn hm [(0,.c (Zc b14)),(2,.k 1)] [(5,.ptr 1 0 0)] [3,5,6,7,8] [(1,some (.box 38 [iV .i64 b14.f0,iV .i64 b14.f1.f0,iV .i64 b14.f1.f1,iV .i64 b14.f1.f2,iV .u64 b14.f1.f3,iV .u64 b14.f1.f4,iV .i64 b14.f1.f5,.im (.row (b14.f1.f6.map Z0)),.im (.row (b14.f1.f7.map Z0))]))] [1] [_,_] ⟨p15,Zu Zc q16,trivial⟩ ?_
   refine rG hP hn hm [(4,.any (iV .i64 (b14.f1.f6.length:Int))),(8,.any (iV .i64 (b14.f1.f7.length:Int)))] [(3,iV .i64 (i64.wrap (x8+(i64.wrap ((i64.wrap ((b14.f1.f6.length:Int)+(b14.f1.f7.length:Int)))+(1:Int))))))] [3,6,7,8] [] [] [((b14.f1.f6.map Z0).length:Int)=(b14.f1.f6.length:Int),((b14.f1.f7.map Z0).length:Int)=(b14.f1.f7.length:Int)] ⟨by rw[Zv],by rw[Zv],trivial⟩ ?_
   refine rO hP hn hm [] [(8,iV .i64 (i64.wrap (x9+(1:Int))))] [3,6,7,8] [] [] ?_
   exact LWp.conv [] [] [] (by kernel_rfl) (ih _ _ _ H)
  ·replace H:=iF c10 H
   refine AWp.exit ?_
   obtain rfl:=sj H
   exact lf [] [] [] (by kernel_rfl) ⟨rfl,rfl⟩
 ·obtain⟨x17,rfl⟩:∃ z,z=o18:=⟨_,rfl⟩
  rintro e s ⟨rfl,rfl⟩
  refine sO hP hn hm [] [(2,bV (decide (x17≤(700:Int))))] [2] [] [] ?_
  refine AWp.conv (inv:=[]) (vk:=[]) (e0:=[]) (t:=⟨[(2,bV (decide (x17≤(700:Int))))],[],0⟩) (by kernel_rfl) ?_
  refine AWp.ret ?_
  obtain rfl:=sj H
  exact rl (.inl rfl) rfl (by kernel_rfl) (by kernel_rfl)
def Z35.f (a0:Int) (a1:Int):Option (Zp):=some (⟨a0,a1,(-524288),0,0,0,[],[]⟩:Zp)
theorem Z35.ok (a0:Int) (a1:Int) (r:Zp) (H:Z35.f a0 a1=some r):Pv.Fn Try.prog 14 [iV .i64 a0,iV .i64 a1] [] 0 (fun x o=>x = .agg (Zx (r))∧o=[]):=by
 unfold Z35.f at H
 refine Fn.bodyK [] Try.func14 rfl rfl (fun Γ hP hn => ?_)
 have hm:Try.prog.follows .mixedOrders=true:=by kernel_rfl
 replace hn:Γ.n=8:=hn
 refine sO hP hn hm [(0,.k 0)] [(4,.ptr 0 0 0)] [0,1,4] [(0,some (.box 36 [iV .i64 0,iV .i64 0,iV .i64 0,iV .u64 0,iV .u64 0,iV .i64 0,.none0,.none0]))] [0] ?_
 refine sO hP hn hm [] [] [4] [(0,some (.box 36 [iV .i64 a0,iV .i64 a1,iV .i64 (-524288),iV .u64 0,iV .u64 0,iV .i64 0,.none0,.none0]))] [0] ?_
 refine AWp.conv (inv:=[(0,0)]) (vk:=[]) (e0:=[]) (t:=⟨[(4,.ptr 0 0 0)],[(0,some (.box 36 (Zx ((⟨a0,a1,(-524288),0,0,0,[],[]⟩:Zp)))))],0⟩) (by kernel_rfl) ?_
 refine AWp.ret ?_
 obtain rfl:=sj H
 exact rl (.inl rfl) rfl (by kernel_rfl) (by kernel_rfl)
def Z03.f (a0:Int):Option (Bool):=((if(decide (a0≥(-4)))=true then(some (decide (a0≤(8:Int)))) else(some false)):Option (Bool))>>=fun x54=>some x54
theorem Z03.ok (a0:Int) (r:Bool) (H:Z03.f a0=some r):Pv.Fn Try.prog 32 [iV .i64 a0] [] 0 (fun x o=>x=bV r∧o=[]):=by
 unfold Z03.f at H
 refine Fn.bodyK [] Try.func32 rfl rfl (fun Γ hP hn => ?_)
 have hm:Try.prog.follows .mixedOrders=true:=by kernel_rfl
 replace hn:Γ.n=9:=hn
 refine sO hP hn hm [] [] [0] [] [] ?_
 refine AWp.seq ?_
 obtain⟨o55,e56,H⟩:=Z4 H
 refine AWp.mono (Q:=fun e s=>(match (generalizing:=false) o55 with | x54=>e = .normal∧s=⟨[(2,bV x54)],[],0⟩)) (AWp.cv ?_) ?_
 ·replace H:=e56;clear e56
  rcases Bool.eq_false_or_eq_true (decide (a0≥(-4))) with c53 | c53
  ·replace H:=iT c53 H
   refine rG hP hn hm [(2,.b true)] [(2,bV (decide (a0≤(8:Int))))] [2] [] [] [_] ⟨c53,trivial⟩ ?_
   obtain rfl:=sj H
   exact lf [] [] [] (by kernel_rfl) ⟨rfl,rfl⟩
  ·replace H:=iF c53 H
   refine rG hP hn hm [(2,.b false)] [(2,bV false)] [2] [] [] [_] ⟨c53,trivial⟩ ?_
   obtain rfl:=sj H
   exact lf [] [] [] (by kernel_rfl) ⟨rfl,rfl⟩
 ·obtain⟨x54,rfl⟩:∃ z,z=o55:=⟨_,rfl⟩
  rintro e s ⟨rfl,rfl⟩
  refine AWp.conv (inv:=[]) (vk:=[]) (e0:=[]) (t:=⟨[(2,bV x54)],[],0⟩) (by kernel_rfl) ?_
  refine AWp.ret ?_
  obtain rfl:=sj H
  exact rl (.inl rfl) rfl (by kernel_rfl) (by kernel_rfl)
def Z1t.f (a0:Int):Option (Unit):=some ()
theorem Z1t.ok (a0:Int) (r:Unit) (H:Z1t.f a0=some r):Pv.Fn Try.prog 77 [iV .i64 a0] [] 0 (fun x o=>x=iV .u64 (u64.wrap (i64.wrap ((8:Int)-a0)))∧o=[]):=by
 unfold Z1t.f at H
 refine Fn.bodyK [] Try.func77 rfl rfl (fun Γ hP hn => ?_)
 have hm:Try.prog.follows .mixedOrders=true:=by kernel_rfl
 replace hn:Γ.n=6:=hn
 refine sO hP hn hm [] [] [0] [] [] ?_
 refine sO hP hn hm [] [(2,iV .u64 (u64.wrap (i64.wrap ((8:Int)-a0))))] [2] [] [] ?_
 refine AWp.conv (inv:=[]) (vk:=[]) (e0:=[]) (t:=⟨[(2,iV .u64 (u64.wrap (i64.wrap ((8:Int)-a0))))],[],0⟩) (by kernel_rfl) ?_
 refine AWp.ret ?_
 obtain rfl:=sj H
 exact rl (.inl rfl) rfl (by kernel_rfl) (by kernel_rfl)
def Z1p.f (a0:Int):Option (Int):=(Z03.f a0)>>=fun t81=>if(!t81)=true then(some 0) else((Z1t.f a0)>>=fun t87=>(chk (0≤(u64.wrap (i64.wrap ((8:Int)-a0)))))>>=fun _=>some (Int.fdiv (262144:Int) (2 ^ (min (Int.toNat (u64.wrap (i64.wrap ((8:Int)-a0)))) 64))))
theorem Z1p.ok (a0:Int) (r:Int) (H:Z1p.f a0=some r):Pv.Fn Try.prog 65 [iV .i64 a0] [] 0 (fun x o=>x=iV .i64 r∧o=[]):=by
 unfold Z1p.f at H
 refine Fn.bodyK [] Try.func65 rfl rfl (fun Γ hP hn => ?_)
 have hm:Try.prog.follows .mixedOrders=true:=by kernel_rfl
 replace hn:Γ.n=9:=hn
 refine sO hP hn hm [] [] [0] [] [] ?_
 refine AWp.seq ?_
 obtain⟨t81,e82,H⟩:=Z4 H
 refine sR hP hn hm [(1,.call [] [] [] [] 0 (bV t81) [])] [(5,bV (!t81))] [0,5] [] [] [_,_] ⟨Try.call32,Z03.ok a0 t81 e82,trivial⟩ ?_
 refine AWp.cond (!t81) (by kernel_rfl) (fun c83 => ?_) (fun c83 => ?_)
 ·replace H:=iT c83 H
  refine sO hP hn hm [] [(2,iV .i64 0)] [2] [] [] ?_
  refine AWp.conv (inv:=[]) (vk:=[]) (e0:=[]) (t:=⟨[(2,iV .i64 0)],[],0⟩) (by kernel_rfl) ?_
  refine AWp.ret ?_
  obtain rfl:=sj H
  exact rl (.inl rfl) rfl (by kernel_rfl) (by kernel_rfl)
 ·replace H:=iF c83 H
  refine AWp.skip ?_
  obtain⟨t87,e88,H⟩:=Z4 H
  obtain⟨c89,H⟩:=Z17 H
  refine sR hP hn hm [(1,.call [] [] [] [] 0 (iV .u64 (u64.wrap (i64.wrap ((8:Int)-a0)))) [])] [(2,iV .i64 (Int.fdiv (262144:Int) (2 ^ (min (Int.toNat (u64.wrap (i64.wrap ((8:Int)-a0)))) 64))))] [2] [] [] [_,_,_] ⟨Try.call77,Z1t.ok a0 t87 e88,c89,trivial⟩ ?_
  refine AWp.conv (inv:=[]) (vk:=[]) (e0:=[]) (t:=⟨[(2,iV .i64 (Int.fdiv (262144:Int) (2 ^ (min (Int.toNat (u64.wrap (i64.wrap ((8:Int)-a0)))) 64))))],[],0⟩) (by kernel_rfl) ?_
  refine AWp.ret ?_
  obtain rfl:=sj H
  exact rl (.inl rfl) rfl (by kernel_rfl) (by kernel_rfl)
def Z20.f (a0:Int):Option (Int):=(Z1p.f a0)>>=fun t92=>some (i64.wrap ((i64.wrap (0-t92))+(1:Int)))
theorem Z20.ok (a0:Int) (r:Int) (H:Z20.f a0=some r):Pv.Fn Try.prog 64 [iV .i64 a0] [] 0 (fun x o=>x=iV .i64 r∧o=[]):=by
 unfold Z20.f at H
 refine Fn.bodyK [] Try.func64 rfl rfl (fun Γ hP hn => ?_)
 have hm:Try.prog.follows .mixedOrders=true:=by kernel_rfl
 replace hn:Γ.n=7:=hn
 refine sO hP hn hm [] [] [0] [] [] ?_
 obtain⟨t92,e93,H⟩:=Z4 H
 refine sR hP hn hm [(1,.call [] [] [] [] 0 (iV .i64 t92) [])] [(2,iV .i64 (i64.wrap ((i64.wrap (0-t92))+(1:Int))))] [2] [] [] [_,_] ⟨Try.call65,Z1p.ok a0 t92 e93,trivial⟩ ?_
 refine AWp.conv (inv:=[]) (vk:=[]) (e0:=[]) (t:=⟨[(2,iV .i64 (i64.wrap ((i64.wrap (0-t92))+(1:Int))))],[],0⟩) (by kernel_rfl) ?_
 refine AWp.ret ?_
 obtain rfl:=sj H
 exact rl (.inl rfl) rfl (by kernel_rfl) (by kernel_rfl)
def Z2d.f (a0:Int) (a1:Int):Option (Bool):=(((Z03.f a0)>>=fun t99=>if t99=true then((Z20.f a0)>>=fun t102=>if(decide (a1≥t102))=true then((Z1p.f a0)>>=fun t105=>some (decide (a1≤t105))) else(some false)) else(some false)):Option (Bool))>>=fun x107=>some x107
theorem Z2d.ok (a0:Int) (a1:Int) (r:Bool) (H:Z2d.f a0 a1=some r):Pv.Fn Try.prog 57 [iV .i64 a0,iV .i64 a1] [] 0 (fun x o=>x=bV r∧o=[]):=by
 unfold Z2d.f at H
 refine Fn.bodyK [] Try.func57 rfl rfl (fun Γ hP hn => ?_)
 have hm:Try.prog.follows .mixedOrders=true:=by kernel_rfl
 replace hn:Γ.n=19:=hn
 refine sO hP hn hm [] [] [0,1] [] [] ?_
 refine AWp.seq ?_
 obtain⟨o108,e109,H⟩:=Z4 H
 refine AWp.mono (Q:=fun e s=>(match (generalizing:=false) o108 with | x107=>e = .normal∧s=⟨[(4,bV x107)],[],0⟩)) (AWp.cv ?_) ?_
 ·replace H:=e109;clear e109
  obtain⟨t99,e100,H⟩:=Z4 H
  rcases Bool.eq_false_or_eq_true t99 with c101 | c101
  ·replace H:=iT c101 H
   obtain⟨t102,e103,H⟩:=Z4 H
   rcases Bool.eq_false_or_eq_true (decide (a1≥t102)) with c104 | c104
   ·replace H:=iT c104 H
    obtain⟨t105,e106,H⟩:=Z4 H
    refine rG hP hn hm [(1,.call [] [] [] [] 0 (bV t99) []),(2,.b true),(5,.call [] [] [] [] 0 (iV .i64 t102) []),(8,.b true),(11,.call [] [] [] [] 0 (iV .i64 t105) [])] [(4,bV (decide (a1≤t105)))] [4] [] [] [_,_,_,_,_,_,_,_] ⟨Try.call32,Z03.ok a0 t99 e100,c101,Try.call64,Z20.ok a0 t102 e103,c104,Try.call65,Z1p.ok a0 t105 e106,trivial⟩ ?_
    obtain rfl:=sj H
    exact lf [] [] [] (by kernel_rfl) ⟨rfl,rfl⟩
   ·replace H:=iF c104 H
    refine rG hP hn hm [(1,.call [] [] [] [] 0 (bV t99) []),(2,.b true),(5,.call [] [] [] [] 0 (iV .i64 t102) []),(8,.b false)] [(4,bV false)] [4] [] [] [_,_,_,_,_,_] ⟨Try.call32,Z03.ok a0 t99 e100,c101,Try.call64,Z20.ok a0 t102 e103,c104,trivial⟩ ?_
    obtain rfl:=sj H
    exact lf [] [] [] (by kernel_rfl) ⟨rfl,rfl⟩
  ·replace H:=iF c101 H
   refine rG hP hn hm [(1,.call [] [] [] [] 0 (bV t99) []),(2,.b false)] [(4,bV false)] [4] [] [] [_,_,_] ⟨Try.call32,Z03.ok a0 t99 e100,c101,trivial⟩ ?_
   obtain rfl:=sj H
   exact lf [] [] [] (by kernel_rfl) ⟨rfl,rfl⟩
 ·obtain⟨x107,rfl⟩:∃ z,z=o108:=⟨_,rfl⟩
  rintro e s ⟨rfl,rfl⟩
  refine AWp.conv (inv:=[]) (vk:=[]) (e0:=[]) (t:=⟨[(4,bV x107)],[],0⟩) (by kernel_rfl) ?_
  refine AWp.ret ?_
  obtain rfl:=sj H
  exact rl (.inl rfl) rfl (by kernel_rfl) (by kernel_rfl)
def Z0u.f (a0:Int) (a1:Int):Option (Int):=(Z03.f a0)>>=fun t118=>if(!t118)=true then(some 0) else((Z1t.f a0)>>=fun t124=>(chk (0≤(u64.wrap (i64.wrap ((8:Int)-a0)))))>>=fun _=>some (i64.wrap (a1*2 ^ (min (Int.toNat (u64.wrap (i64.wrap ((8:Int)-a0)))) 64))))
theorem Z0u.ok (a0:Int) (a1:Int) (r:Int) (H:Z0u.f a0 a1=some r):Pv.Fn Try.prog 66 [iV .i64 a0,iV .i64 a1] [] 0 (fun x o=>x=iV .i64 r∧o=[]):=by
 unfold Z0u.f at H
 refine Fn.bodyK [] Try.func66 rfl rfl (fun Γ hP hn => ?_)
 have hm:Try.prog.follows .mixedOrders=true:=by kernel_rfl
 replace hn:Γ.n=12:=hn
 refine sO hP hn hm [] [] [0,1] [] [] ?_
 refine AWp.seq ?_
 obtain⟨t118,e119,H⟩:=Z4 H
 refine sR hP hn hm [(1,.call [] [] [] [] 0 (bV t118) [])] [(7,bV (!t118))] [0,1,7] [] [] [_,_] ⟨Try.call32,Z03.ok a0 t118 e119,trivial⟩ ?_
 refine AWp.cond (!t118) (by kernel_rfl) (fun c120 => ?_) (fun c120 => ?_)
 ·replace H:=iT c120 H
  refine sO hP hn hm [] [(4,iV .i64 0)] [4] [] [] ?_
  refine AWp.conv (inv:=[]) (vk:=[]) (e0:=[]) (t:=⟨[(4,iV .i64 0)],[],0⟩) (by kernel_rfl) ?_
  refine AWp.ret ?_
  obtain rfl:=sj H
  exact rl (.inl rfl) rfl (by kernel_rfl) (by kernel_rfl)
 ·replace H:=iF c120 H
  refine AWp.skip ?_
  obtain⟨t124,e125,H⟩:=Z4 H
  obtain⟨c126,H⟩:=Z17 H
  refine sR hP hn hm [(2,.call [] [] [] [] 0 (iV .u64 (u64.wrap (i64.wrap ((8:Int)-a0)))) [])] [(4,iV .i64 (i64.wrap (a1*2 ^ (min (Int.toNat (u64.wrap (i64.wrap ((8:Int)-a0)))) 64))))] [4] [] [] [_,_,_] ⟨Try.call77,Z1t.ok a0 t124 e125,c126,trivial⟩ ?_
  refine AWp.conv (inv:=[]) (vk:=[]) (e0:=[]) (t:=⟨[(4,iV .i64 (i64.wrap (a1*2 ^ (min (Int.toNat (u64.wrap (i64.wrap ((8:Int)-a0)))) 64))))],[],0⟩) (by kernel_rfl) ?_
  refine AWp.ret ?_
  obtain rfl:=sj H
  exact rl (.inl rfl) rfl (by kernel_rfl) (by kernel_rfl)
def Z1x.f (a0:Int) (a1:Int):Option (Int):=(Z0u.f a0 (i64.wrap (a1-(1:Int))))>>=fun t129=>some t129
theorem Z1x.ok (a0:Int) (a1:Int) (r:Int) (H:Z1x.f a0 a1=some r):Pv.Fn Try.prog 58 [iV .i64 a0,iV .i64 a1] [] 0 (fun x o=>x=iV .i64 r∧o=[]):=by
 unfold Z1x.f at H
 refine Fn.bodyK [] Try.func58 rfl rfl (fun Γ hP hn => ?_)
 have hm:Try.prog.follows .mixedOrders=true:=by kernel_rfl
 replace hn:Γ.n=9:=hn
 refine sO hP hn hm [] [] [0,1] [] [] ?_
 obtain⟨t129,e130,H⟩:=Z4 H
 refine sR hP hn hm [(3,.call [] [] [] [] 0 (iV .i64 t129) [])] [(4,iV .i64 t129)] [4] [] [] [_,_] ⟨Try.call66,Z0u.ok a0 (i64.wrap (a1-(1:Int))) t129 e130,trivial⟩ ?_
 refine AWp.conv (inv:=[]) (vk:=[]) (e0:=[]) (t:=⟨[(4,iV .i64 t129)],[],0⟩) (by kernel_rfl) ?_
 refine AWp.ret ?_
 obtain rfl:=sj H
 exact rl (.inl rfl) rfl (by kernel_rfl) (by kernel_rfl)
def Z01.l0 (a0:Zp) (a1:List Z2) (x136:Int):Option (Int ⊕ Unit):=if(decide (x136<(a1.length:Int)))=true then((at? a1 x136)>>=fun b141=>(Z2d.f a0.f1 b141.f0)>>=fun t146=>if(!t146)=true then(some (.inl 4)) else(((if(decide (x136>(0:Int)))=true then((at? a1 (i64.wrap (x136-(1:Int))))>>=fun b154=>some (decide (b154.f0≥b141.f0))) else(some false)):Option (Bool))>>=fun x157=>if x157=true then(some (.inl 32)) else(if(b141.f1==(0:Int))=true then(some (.inl 21)) else((Z1x.f a0.f1 b141.f0)>>=fun t162=>if(decide (t162<a0.f2))=true then(some (.inl 31)) else(Z01.l0 a0 a1 (i64.wrap (x136+(1:Int)))))))) else(some (.inr ()))
partial_fixpoint
def Z01.f (a0:Zp) (a1:List Z2):Option (Int):=if(decide ((a1.length:Int)>(512:Int)))=true then(some 9) else((Z01.l0 a0 a1 0)>>=fun oo=>match oo with | .inl rr=>(some rr) | .inr _=>(some 0))
theorem Z01.ok (a0:Zp) (a1:List Z2) (r:Int) (H:Z01.f a0 a1=some r):Pv.Fn Try.prog 33 [.agg (Zx a0),.im (.row (a1.map Z0))] [] 0 (fun x o=>x=iV .i64 r∧o=[]):=by
 unfold Z01.f at H
 refine Fn.bodyK [] Try.func33 rfl rfl (fun Γ hP hn => ?_)
 have hm:Try.prog.follows .mixedOrders=true:=by kernel_rfl
 replace hn:Γ.n=52:=hn
 refine sO hP hn hm [(0,.k 0)] [(2,.ptr 0 0 0)] [1,2] [(0,some (.box 36 (Zx a0)))] [0] ?_
 refine AWp.seq ?_
 refine sR hP hn hm [(1,.any (iV .i64 (a1.length:Int)))] [(9,bV (decide ((a1.length:Int)>(512:Int))))] [1,2,9] [] [0] [((a1.map Z0).length:Int)=(a1.length:Int)] ⟨by rw[Zv],trivial⟩ ?_
 refine AWp.cond (decide ((a1.length:Int)>(512:Int))) (by kernel_rfl) (fun c68 => ?_) (fun c68 => ?_)
 ·replace H:=iT c68 H
  refine sO hP hn hm [] [(4,iV .i64 9)] [4] [] [] ?_
  refine AWp.conv (inv:=[]) (vk:=[]) (e0:=[]) (t:=⟨[(4,iV .i64 9)],[],0⟩) (by kernel_rfl) ?_
  refine AWp.ret ?_
  obtain rfl:=sj H
  exact rl (.inl rfl) rfl (by kernel_rfl) (by kernel_rfl)
 ·replace H:=iF c68 H
  refine AWp.skip ?_
  refine AWp.seq ?_
  refine sR hP hn hm [(1,.any (iV .i64 (a1.length:Int)))] [(10,.im (.row (a1.map Z0))),(11,iV .i64 (a1.length:Int)),(12,iV .i64 0)] [1,2,10,11,12] [] [0] [((a1.map Z0).length:Int)=(a1.length:Int)] ⟨by rw[Zv],trivial⟩ ?_
  refine AWp.block ?_
  obtain⟨o165,e166,H⟩:=Z4 H
  refine AWp.loop (LWp.conv (inv:=[(0,2)]) (vk:=[]) (e0:=[]) (t:=⟨[(1,.im (.row (a1.map Z0))),(2,.ptr 2 0 0),(10,.im (.row (a1.map Z0))),(11,iV .i64 (a1.length:Int)),(12,iV .i64 0)],[(2,some (.box 36 (Zx a0)))],0⟩) (by kernel_rfl) ?_)
  refine LWp.mono (Q:=fun e s=>(match (generalizing:=false) o165 with | .inl rr=>e = .ret∧s.floor=0∧Z2f Try.prog Try.f33 s=some (iV .i64 rr)∧([]:List (Nat×Option MObj))=[] | .inr _=>e = .exit 0∧s=⟨[],[],0⟩)) (LWp.cv (Z07 (fun body hbody => ?_))) ?_
  ·refine            Z01.l0.partial_correctness a0 a1 (motive:=fun x136 o165=>LWp Γ body (fun e s=>∃ t,Cv Γ s t∧(match (generalizing:=false) o165 with | .inl rr=>e = .ret∧t.floor=0∧Z2f   Try.prog Try.f33 t=some (iV .i64 rr)∧([]:List (Nat×Option MObj))=[] | .inr _=>e = .exit 0∧t=⟨[],[],0⟩)) ⟨[(1,.im (.row (a1.map Z0     ))),(2,.ptr 2 0 0),(10,.im (.row (a1.map Z0     ))),(11,iV .i64 (a1.length:Int)),(12,iV .i64 x136)],[(2,some (.box 36 (Zx    a0)))],0⟩) ?_ _ _ e166
   clear H e166 o165;intro self ih x136 o165 H
   subst hbody
   refine LWp.round ?_
   refine sO hP hn hm [] [(13,bV (decide (x136<(a1.length:Int))))] [1,2,10,11,12,13] [] [2] ?_
   refine AWp.seq ?_
   refine AWp.cond (decide (x136<(a1.length:Int))) (by kernel_rfl) (fun c137 => ?_) (fun c137 => ?_)
   ·replace H:=iT c137 H
    refine AWp.skip ?_
    refine AWp.seq ?_
    refine AWp.block ?_
    obtain⟨b141,p142,q143,H⟩:=Z0q H
    refine sR hP hn hm [(1,.c (Z0 b141)),(3,.k 3)] [(5,iV .i64 x136),(6,.ptr 3 0 0)] [1,2,5,6,10,11,12] [(3,some (.box 78 (Z1v b141)))] [2,3] [_,_] ⟨p142,Zu Z0 q143,trivial⟩ ?_
    refine AWp.block ?_
    obtain⟨t146,e147,H⟩:=Z4 H
    refine sR hP hn hm [(4,.call [] [] [] [] 0 (bV t146) [])] [(17,bV (!t146))] [1,2,5,6,10,11,12,17] [] [2,3] [_,_] ⟨Try.call57,Z2d.ok a0.f1 b141.f0 t146 e147,trivial⟩ ?_
    refine AWp.cond (!t146) (by kernel_rfl) (fun c148 => ?_) (fun c148 => ?_)
    ·replace H:=iT c148 H
     refine sO hP hn hm [] [(4,iV .i64 4)] [4] [] [] ?_
     refine AWp.conv (inv:=[]) (vk:=[]) (e0:=[]) (t:=⟨[(4,iV .i64 4)],[],0⟩) (by kernel_rfl) ?_
     refine AWp.ret ?_
     obtain rfl:=sj H
     exact rl rfl rfl (by kernel_rfl) (by kernel_rfl)
    ·replace H:=iF c148 H
     refine AWp.seq ?_
     obtain⟨o167,e168,H⟩:=Z4 H
     refine AWp.mono (Q:=fun e s=>(match (generalizing:=false) o167 with | x157=>e = .normal∧s=⟨[(1,.im (.row (a1.map Z0))),(2,.ptr 4 0 0),(6,.ptr 5 0 0),(10,.im (.row (a1.map Z0))),(11,iV .i64 (a1.length:Int)),(12,iV .i64 x136),(24,bV x157)],[(4,some (.box 36 (Zx a0))),(5,some (.box 78 (Z1v b141)))],0⟩)) (AWp.cv ?_) ?_
     ·replace H:=e168;clear e168
      rcases Bool.eq_false_or_eq_true (decide (x136>(0:Int))) with c153 | c153
      ·replace H:=iT c153 H
       obtain⟨b154,p155,q156,H⟩:=Z0q H
       refine rG hP hn hm [(2,.b true),(6,.c (Z0 b154))] [(24,bV (decide (b154.f0≥b141.f0))),(28,.im (.row (a1.map Z0))),(29,iV .i64 x136),(30,iV .i64 (i64.wrap (x136-(1:Int)))),(31,.ip [iI .i64 b154.f0,iI .u64 b154.f1]),(32,.ip [iI .i64 b154.f0,iI .u64 b154.f1]),(33,iV .i64 b154.f0),(34,.ptr 3 0 0),(35,iV .i64 b141.f0),(36,bV (decide (b154.f0≥b141.f0)))] [1,2,6,10,11,12,24,28,29,30,31,32,33,34,35,36] [] [2,3] [_,_,_] ⟨c153,p155,Zu Z0 q156,trivial⟩ ?_
       obtain rfl:=sj H
       exact lf [(2,4),(3,5)] [] [] (by kernel_rfl) ⟨rfl,rfl⟩
      ·replace H:=iF c153 H
       refine rG hP hn hm [(2,.b false)] [(24,bV false)] [1,2,6,10,11,12,24] [] [2,3] [_] ⟨c153,trivial⟩ ?_
       obtain rfl:=sj H
       exact lf [(2,4),(3,5)] [] [] (by kernel_rfl) ⟨rfl,rfl⟩
     ·obtain⟨x157,rfl⟩:∃ z,z=o167:=⟨_,rfl⟩
      rintro e s ⟨rfl,rfl⟩
      refine AWp.cond x157 (by kernel_rfl) (fun c158 => ?_) (fun c158 => ?_)
      ·replace H:=iT c158 H
       refine sO hP hn hm [] [(4,iV .i64 32)] [4] [] [] ?_
       refine AWp.conv (inv:=[]) (vk:=[]) (e0:=[]) (t:=⟨[(4,iV .i64 32)],[],0⟩) (by kernel_rfl) ?_
       refine AWp.ret ?_
       obtain rfl:=sj H
       exact rl rfl rfl (by kernel_rfl) (by kernel_rfl)
      ·replace H:=iF c158 H
       refine sO hP hn hm [] [(38,bV (b141.f1==(0:Int)))] [1,2,6,10,11,12,38] [] [4,5] ?_
       refine AWp.cond (b141.f1==(0:Int)) (by kernel_rfl) (fun c159 => ?_) (fun c159 => ?_)
       ·replace H:=iT c159 H
        refine sO hP hn hm [] [(4,iV .i64 21)] [4] [] [] ?_
        refine AWp.conv (inv:=[]) (vk:=[]) (e0:=[]) (t:=⟨[(4,iV .i64 21)],[],0⟩) (by kernel_rfl) ?_
        refine AWp.ret ?_
        obtain rfl:=sj H
        exact rl rfl rfl (by kernel_rfl) (by kernel_rfl)
       ·replace H:=iF c159 H
        obtain⟨t162,e163,H⟩:=Z4 H
        refine sR hP hn hm [(4,.call [] [] [] [] 0 (iV .i64 t162) [])] [(42,bV (decide (t162<a0.f2)))] [1,2,10,11,12,42] [] [4] [_,_] ⟨Try.call58,Z1x.ok a0.f1 b141.f0 t162 e163,trivial⟩ ?_
        refine AWp.cond (decide (t162<a0.f2)) (by kernel_rfl) (fun c164 => ?_) (fun c164 => ?_)
        ·replace H:=iT c164 H
         refine sO hP hn hm [] [(4,iV .i64 31)] [4] [] [] ?_
         refine AWp.conv (inv:=[]) (vk:=[]) (e0:=[]) (t:=⟨[(4,iV .i64 31)],[],0⟩) (by kernel_rfl) ?_
         refine AWp.ret ?_
         obtain rfl:=sj H
         exact rl rfl rfl (by kernel_rfl) (by kernel_rfl)
        ·replace H:=iF c164 H
         refine AWp.skip ?_
         refine rO hP hn hm [] [(12,iV .i64 (i64.wrap (x136+(1:Int))))] [1,2,10,11,12] [] [4] ?_
         exact LWp.conv [(4,2)] [] [] (by kernel_rfl) (ih _ _ H)
   ·replace H:=iF c137 H
    refine AWp.exit ?_
    obtain rfl:=sj H
    exact lf [] [] [] (by kernel_rfl) ⟨rfl,rfl⟩
  ·rcases o165 with rr | _
   ·skip
    rintro e s ⟨rfl,hfl,hres⟩
    obtain rfl:=sj H
    exact Exists.intro _ (And.intro (fun _ _ h=>h) (And.intro (.inl rfl) (And.intro hfl hres)))
   ·skip
    rintro e s ⟨rfl,rfl⟩
    refine sO hP hn hm [] [(4,iV .i64 0)] [4] [] [] ?_
    refine AWp.conv (inv:=[]) (vk:=[]) (e0:=[]) (t:=⟨[(4,iV .i64 0)],[],0⟩) (by kernel_rfl) ?_
    refine AWp.ret ?_
    obtain rfl:=sj H
    exact rl (.inl rfl) rfl (by kernel_rfl) (by kernel_rfl)
def Z1l.l0 (a0:List Int) (x210:Int) (x211:Int):Option ((Int×Int) ⊕ Int):=if(decide (x211<(a0.length:Int)))=true then((at? a0 x211)>>=fun b216=>(chk (0≤x210∧0≤b216∧0≤(0:Int)∧(0:Int)≤(1:Int)))>>=fun _=>if(((x210+b216+(0:Int)) / 18446744073709551616) != (0:Int))=true then(some (.inl (0,5))) else(Z1l.l0 a0 ((x210+b216+(0:Int)) % 18446744073709551616) (i64.wrap (x211+(1:Int))))) else(some (.inr x210))
partial_fixpoint
def Z1l.f (a0:List Int):Option (Int×Int):=(Z1l.l0 a0 0 0)>>=fun oo=>match oo with | .inl rr=>(some rr) | .inr x222=>(some (x222,0))
theorem Z1l.ok (a0:List Int) (r:Int×Int) (H:Z1l.f a0=some r):Pv.Fn Try.prog 59 [.im (.row (a0.map (Z1 .u64)))] [] 0 (fun x o=>x = .tup [iV .u64 r.1,iV .i64 r.2]∧o=[]):=by
 unfold Z1l.f at H
 refine Fn.bodyK [] Try.func59 rfl rfl (fun Γ hP hn => ?_)
 have hm:Try.prog.follows .mixedOrders=true:=by kernel_rfl
 replace hn:Γ.n=26:=hn
 refine sO hP hn hm [] [] [0] [] [] ?_
 refine sO hP hn hm [] [(4,iV .u64 0)] [0,4] [] [] ?_
 refine AWp.seq ?_
 refine sR hP hn hm [(1,.any (iV .i64 (a0.length:Int)))] [(9,.im (.row (a0.map (Z1 .u64)))),(10,iV .i64 (a0.length:Int)),(11,iV .i64 0)] [4,9,10,11] [] [] [((a0.map (Z1 .u64)).length:Int)=(a0.length:Int)] ⟨by rw[Zv],trivial⟩ ?_
 refine AWp.block ?_
 obtain⟨o223,e224,H⟩:=Z4 H
 refine AWp.loop (LWp.conv (inv:=[]) (vk:=[]) (e0:=[]) (t:=⟨[(4,iV .u64 0),(9,.im (.row (a0.map (Z1 .u64)))),(10,iV .i64 (a0.length:Int)),(11,iV .i64 0)],[],0⟩) (by kernel_rfl) ?_)
 refine LWp.mono (Q:=fun e s=>(match (generalizing:=false) o223 with | .inl rr=>e = .ret∧s.floor=0∧Z2f Try.prog Try.f59 s=some (.tup [iV .u64 rr.1,iV .i64 rr.2])∧([]:List (Nat×Option MObj))=[] | .inr x222=>e = .exit 0∧s=⟨[(4,iV .u64 x222)],[],0⟩)) (LWp.cv (Z07 (fun body hbody => ?_))) ?_
 ·refine       Z1l.l0.partial_correctness a0 (motive:=fun x210 x211 o223=>LWp Γ body (fun e s=>∃ t,Cv Γ s t∧(match (generalizing:=false) o223 with | .inl rr=>e = .ret∧t.floor=0∧Z2f   Try.prog Try.f59 t=some (.tup [iV .u64 rr.1,iV .i64 rr.2])∧([]:List (Nat×Option MObj))=[] | .inr x222=>e = .exit 0∧t=⟨[(4,iV .u64 x222)],[],0⟩)) ⟨[(4,iV .u64 x210),(9,.im (.row (a0.map (Z1     .u64)))),(10,iV .i64 (a0.length:Int)),(11,iV .i64 x211)],[],0⟩) ?_ _ _ _ e224
  clear H e224 o223;intro self ih x210 x211 o223 H
  subst hbody
  refine LWp.round ?_
  refine sO hP hn hm [] [(12,bV (decide (x211<(a0.length:Int))))] [4,9,10,11,12] [] [] ?_
  refine AWp.seq ?_
  refine AWp.cond (decide (x211<(a0.length:Int))) (by kernel_rfl) (fun c212 => ?_) (fun c212 => ?_)
  ·replace H:=iT c212 H
   refine AWp.skip ?_
   refine AWp.seq ?_
   refine AWp.block ?_
   obtain⟨b216,p217,q218,H⟩:=Z0q H
   refine sR hP hn hm [(0,.c ((Z1 .u64) b216))] [(6,iV .u64 b216)] [4,6,9,10,11] [] [] [_,_] ⟨p217,Zu (Z1 .u64) q218,trivial⟩ ?_
   obtain⟨c220,H⟩:=Z17 H
   refine sR hP hn hm [(2,.ext (.tup [iV .u64 ((x210+b216+(0:Int)) % 18446744073709551616),iV .u64 ((x210+b216+(0:Int)) / 18446744073709551616)]))] [(7,iV .u64 ((x210+b216+(0:Int)) % 18446744073709551616)),(8,iV .u64 ((x210+b216+(0:Int)) / 18446744073709551616))] [7,8,9,10,11] [] [] [∀ w,(callFunc 67 ([.int .u64 x210,.int .u64 b216,.int .u64 (0:Int)]:List Value).toArray).run Try.prog w = .ok (.value (.tuple #[.int .u64 ((x210+b216+(0:Int)) % 18446744073709551616),.int .u64 ((x210+b216+(0:Int)) / 18446744073709551616)])) w] ⟨by exact fun w=>x_add64 (fn:=Try.f67) Try.func67 (by kernel_rfl) rfl (by kernel_rfl) (by kernel_rfl) c220 w,trivial⟩ ?_
   refine AWp.seq ?_
   refine sO hP hn hm [] [(22,bV (((x210+b216+(0:Int)) / 18446744073709551616) != (0:Int)))] [7,9,10,11,22] [] [] ?_
   refine AWp.cond (((x210+b216+(0:Int)) / 18446744073709551616) != (0:Int)) (by kernel_rfl) (fun c221 => ?_) (fun c221 => ?_)
   ·replace H:=iT c221 H
    refine sO hP hn hm [] [(2,iV .u64 0),(3,iV .i64 5)] [2,3] [] [] ?_
    refine AWp.conv (inv:=[]) (vk:=[]) (e0:=[]) (t:=⟨[(2,iV .u64 0),(3,iV .i64 5)],[],0⟩) (by kernel_rfl) ?_
    refine AWp.ret ?_
    obtain rfl:=sj H
    exact rl rfl rfl (by kernel_rfl) (by kernel_rfl)
   ·replace H:=iF c221 H
    refine AWp.skip ?_
    refine rO hP hn hm [] [(4,iV .u64 ((x210+b216+(0:Int)) % 18446744073709551616))] [4,9,10,11] [] [] ?_
    refine rO hP hn hm [] [(11,iV .i64 (i64.wrap (x211+(1:Int))))] [4,9,10,11] [] [] ?_
    exact LWp.conv [] [] [] (by kernel_rfl) (ih _ _ _ H)
  ·replace H:=iF c212 H
   refine AWp.exit ?_
   obtain rfl:=sj H
   exact lf [] [] [] (by kernel_rfl) ⟨rfl,rfl⟩
 ·rcases o223 with rr | x222
  ·skip
   rintro e s ⟨rfl,hfl,hres⟩
   obtain rfl:=sj H
   exact Exists.intro _ (And.intro (fun _ _ h=>h) (And.intro (.inl rfl) (And.intro hfl hres)))
  ·skip
   rintro e s ⟨rfl,rfl⟩
   refine sO hP hn hm [] [(2,iV .u64 x222),(3,iV .i64 0)] [2,3] [] [] ?_
   refine AWp.conv (inv:=[]) (vk:=[]) (e0:=[]) (t:=⟨[(2,iV .u64 x222),(3,iV .i64 0)],[],0⟩) (by kernel_rfl) ?_
   refine AWp.ret ?_
   obtain rfl:=sj H
   exact rl (.inl rfl) rfl (by kernel_rfl) (by kernel_rfl)
def Z0g.l1 (a0:List (List Z2)) (b251:List Z2) (x246:Int) (x266:Int) (x267:Int):Option ((Int×Int) ⊕ Int):=if(decide (x267<(b251.length:Int)))=true then((at? b251 x267)>>=fun b272=>(Z1l.f [x266,b272.f1])>>=fun t277=>if(t277.2 != (0:Int))=true then(some (.inl (0,t277.2))) else(Z0g.l1 a0 b251 x246 t277.1 (i64.wrap (x267+(1:Int))))) else(some (.inr x266))
partial_fixpoint
def Z0g.l0 (a0:List (List Z2)) (x245:Int) (x246:Int):Option ((Int×Int) ⊕ Int):=if(decide (x246<(a0.length:Int)))=true then((at? a0 x246)>>=fun b251=>(Z0g.l1 a0 b251 x246 x245 0)>>=fun oo=>match oo with | .inl rr=>(some (.inl rr)) | .inr x280=>(Z0g.l0 a0 x280 (i64.wrap (x246+(1:Int))))) else(some (.inr x245))
partial_fixpoint
def Z0g.f (a0:List (List Z2)):Option (Int×Int):=(Z0g.l0 a0 0 0)>>=fun oo=>match oo with | .inl rr=>(some rr) | .inr x281=>(some (x281,0))
theorem Z0g.ok (a0:List (List Z2)) (r:Int×Int) (H:Z0g.f a0=some r):Pv.Fn Try.prog 34 [.im (.row (a0.map (Z2x Z0)))] [] 0 (fun x o=>x = .tup [iV .u64 r.1,iV .i64 r.2]∧o=[]):=by
 unfold Z0g.f at H
 refine Fn.bodyK [] Try.func34 rfl rfl (fun Γ hP hn => ?_)
 have hm:Try.prog.follows .mixedOrders=true:=by kernel_rfl
 replace hn:Γ.n=36:=hn
 refine sO hP hn hm [] [] [0] [] [] ?_
 refine sO hP hn hm [] [(4,iV .u64 0)] [0,4] [] [] ?_
 refine AWp.seq ?_
 refine sR hP hn hm [(1,.any (iV .i64 (a0.length:Int)))] [(10,.im (.row (a0.map (Z2x Z0)))),(11,iV .i64 (a0.length:Int)),(12,iV .i64 0)] [4,10,11,12] [] [] [((a0.map (Z2x Z0)).length:Int)=(a0.length:Int)] ⟨by rw[Zv],trivial⟩ ?_
 refine AWp.block ?_
 obtain⟨o282,e283,H⟩:=Z4 H
 refine AWp.loop (LWp.conv (inv:=[]) (vk:=[]) (e0:=[]) (t:=⟨[(4,iV .u64 0),(10,.im (.row (a0.map (Z2x Z0)))),(11,iV .i64 (a0.length:Int)),(12,iV .i64 0)],[],0⟩) (by kernel_rfl) ?_)
 refine LWp.mono (Q:=fun e s=>(match (generalizing:=false) o282 with | .inl rr=>e = .ret∧s.floor=0∧Z2f Try.prog Try.f34 s=some (.tup [iV .u64 rr.1,iV .i64 rr.2])∧([]:List (Nat×Option MObj))=[] | .inr x281=>e = .exit 0∧s=⟨[(4,iV .u64 x281)],[],0⟩)) (LWp.cv (Z07 (fun body hbody => ?_))) ?_
 ·refine          Z0g.l0.partial_correctness a0 (motive:=fun x245 x246 o282=>LWp Γ body (fun e s=>∃ t,Cv Γ s t∧(match (generalizing:=false) o282 with | .inl rr=>e = .ret∧t.floor=0∧Z2f   Try.prog Try.f34 t=some (.tup [iV .u64 rr.1,iV .i64 rr.2])∧([]:List (Nat×Option MObj))=[] | .inr x281=>e = .exit 0∧t=⟨[(4,iV .u64 x281)],[],0⟩)) ⟨[(4,iV .u64 x245),(10,.im (.row (a0.map (Z2x    Z0     )))),(11,iV .i64 (a0.length:Int)),(12,iV .i64 x246)],[],0⟩) ?_ _ _ _ e283
  clear H e283 o282;intro self ih x245 x246 o282 H
  subst hbody
  refine LWp.round ?_
  refine sO hP hn hm [] [(13,bV (decide (x246<(a0.length:Int))))] [4,10,11,12,13] [] [] ?_
  refine AWp.seq ?_
  refine AWp.cond (decide (x246<(a0.length:Int))) (by kernel_rfl) (fun c247 => ?_) (fun c247 => ?_)
  ·replace H:=iT c247 H
   refine AWp.skip ?_
   refine AWp.seq ?_
   refine AWp.block ?_
   obtain⟨b251,p252,q253,H⟩:=Z0q H
   refine sR hP hn hm [(0,.c ((Z2x Z0) b251))] [(6,.im (.row (b251.map Z0)))] [4,6,10,11,12] [] [] [_,_] ⟨p252,Zu (Z2x Z0) q253,trivial⟩ ?_
   refine sR hP hn hm [(1,.any (iV .i64 (b251.length:Int)))] [(16,.im (.row (b251.map Z0))),(17,iV .i64 (b251.length:Int)),(18,iV .i64 0)] [4,10,11,12,16,17,18] [] [] [((b251.map Z0).length:Int)=(b251.length:Int)] ⟨by rw[Zv],trivial⟩ ?_
   refine AWp.block ?_
   obtain⟨o284,e285,H⟩:=Z4 H
   refine AWp.loop (LWp.conv (inv:=[]) (vk:=[]) (e0:=[]) (t:=⟨[(4,iV .u64 x245),(10,.im (.row (a0.map (Z2x Z0)))),(11,iV .i64 (a0.length:Int)),(12,iV .i64 x246),(16,.im (.row (b251.map Z0))),(17,iV .i64 (b251.length:Int)),(18,iV .i64 0)],[],0⟩) (by kernel_rfl) ?_)
   refine LWp.mono (Q:=fun e s=>(match (generalizing:=false) o284 with | .inl rr=>e = .ret∧s.floor=0∧Z2f Try.prog Try.f34 s=some (.tup [iV .u64 rr.1,iV .i64 rr.2])∧([]:List (Nat×Option MObj))=[] | .inr x280=>e = .exit 2∧s=⟨[(4,iV .u64 x280),(10,.im (.row (a0.map (Z2x Z0)))),(11,iV .i64 (a0.length:Int)),(12,iV .i64 x246)],[],0⟩)) (LWp.cv (Z07 (fun body hbody => ?_))) ?_
   ·refine          Z0g.l1.partial_correctness a0 b251 x246 (motive:=fun x266 x267 o284=>LWp Γ body (fun e s=>∃ t,Cv Γ s t∧(match (generalizing:=false) o284 with | .inl rr=>e = .ret∧t.floor=0∧Z2f   Try.prog Try.f34 t=some (.tup [iV .u64 rr.1,iV .i64 rr.2])∧([]:List (Nat×Option MObj))=[] | .inr x280=>e = .exit 2∧t=⟨[(4,iV .u64 x280),(10,.im (.row (a0.map (Z2x    Z0     )))),(11,iV .i64 (a0.length:Int)),(12,iV .i64 x246)],[],0⟩)) ⟨[(4,iV .u64 x266),(10,.im (.row (a0.map (Z2x    Z0     )))),(11,iV .i64 (a0.length:Int)),(12,iV .i64 x246),(16,.im (.row (b251.map Z0     ))),(17,iV .i64 (b251.length:Int)),(18,iV .i64 x267)],[],0⟩) ?_ _ _ _ e285
    clear H e285 o284;intro self ih x266 x267 o284 H
    subst hbody
    refine LWp.round ?_
    refine sO hP hn hm [] [(19,bV (decide (x267<(b251.length:Int))))] [4,10,11,12,16,17,18,19] [] [] ?_
    refine AWp.seq ?_
    refine AWp.cond (decide (x267<(b251.length:Int))) (by kernel_rfl) (fun c268 => ?_) (fun c268 => ?_)
    ·replace H:=iT c268 H
     refine AWp.skip ?_
     refine AWp.seq ?_
     refine AWp.block ?_
     obtain⟨b272,p273,q274,H⟩:=Z0q H
     refine sR hP hn hm [(0,.c (Z0 b272)),(2,.k 6)] [(8,.ptr 6 0 0)] [4,8,10,11,12,16,17,18] [(6,some (.box 78 (Z1v b272)))] [6] [_,_] ⟨p273,Zu Z0 q274,trivial⟩ ?_
     refine sO hP hn hm [] [] [4,8,10,11,12,16,17,18] [] [6] ?_
     obtain⟨t277,e278,H⟩:=Z4 H
     refine sR hP hn hm [(3,.app 7 ([x266,b272.f1].map (Z1 .u64))),(4,.call [] [] [7] [] 0 (.tup [iV .u64 t277.1,iV .i64 t277.2]) [])] [(4,iV .u64 t277.1),(9,iV .i64 t277.2)] [4,9,10,11,12,16,17,18] [] [] [[x266,b272.f1].map (Z1 .u64)=[[iI .u64 x266],[iI .u64 b272.f1]],_,_] ⟨by exact rfl,Try.call59,Z1l.ok [x266,b272.f1] t277 e278,trivial⟩ ?_
     refine sO hP hn hm [] [(31,bV (t277.2 != (0:Int)))] [4,9,10,11,12,16,17,18,31] [] [] ?_
     refine AWp.cond (t277.2 != (0:Int)) (by kernel_rfl) (fun c279 => ?_) (fun c279 => ?_)
     ·replace H:=iT c279 H
      refine sO hP hn hm [] [(2,iV .u64 0),(3,iV .i64 t277.2)] [2,3] [] [] ?_
      refine AWp.conv (inv:=[]) (vk:=[]) (e0:=[]) (t:=⟨[(2,iV .u64 0),(3,iV .i64 t277.2)],[],0⟩) (by kernel_rfl) ?_
      refine AWp.ret ?_
      obtain rfl:=sj H
      exact rl rfl rfl (by kernel_rfl) (by kernel_rfl)
     ·replace H:=iF c279 H
      refine AWp.skip ?_
      refine rO hP hn hm [] [(18,iV .i64 (i64.wrap (x267+(1:Int))))] [4,10,11,12,16,17,18] [] [] ?_
      exact LWp.conv [] [] [] (by kernel_rfl) (ih _ _ _ H)
    ·replace H:=iF c268 H
     refine AWp.exit ?_
     obtain rfl:=sj H
     exact lf [] [] [] (by kernel_rfl) ⟨rfl,rfl⟩
   ·rcases o284 with rr | x280
    ·skip
     rintro e s ⟨rfl,hfl,hres⟩
     obtain rfl:=sj H
     exact Exists.intro _ (And.intro (fun _ _ h=>h) (And.intro rfl (And.intro hfl hres)))
    ·skip
     rintro e s ⟨rfl,rfl⟩
     refine rO hP hn hm [] [(12,iV .i64 (i64.wrap (x246+(1:Int))))] [4,10,11,12] [] [] ?_
     exact LWp.conv [] [] [] (by kernel_rfl) (ih _ _ _ H)
  ·replace H:=iF c247 H
   refine AWp.exit ?_
   obtain rfl:=sj H
   exact lf [] [] [] (by kernel_rfl) ⟨rfl,rfl⟩
 ·rcases o282 with rr | x281
  ·skip
   rintro e s ⟨rfl,hfl,hres⟩
   obtain rfl:=sj H
   exact Exists.intro _ (And.intro (fun _ _ h=>h) (And.intro (.inl rfl) (And.intro hfl hres)))
  ·skip
   rintro e s ⟨rfl,rfl⟩
   refine sO hP hn hm [] [(2,iV .u64 x281),(3,iV .i64 0)] [2,3] [] [] ?_
   refine AWp.conv (inv:=[]) (vk:=[]) (e0:=[]) (t:=⟨[(2,iV .u64 x281),(3,iV .i64 0)],[],0⟩) (by kernel_rfl) ?_
   refine AWp.ret ?_
   obtain rfl:=sj H
   exact rl (.inl rfl) rfl (by kernel_rfl) (by kernel_rfl)
def Z0c.l0 (a0:Zp) (x174:Int):Option (Int ⊕ Unit):=if(decide (x174<(2:Int)))=true then((((chk (0≤x174∧x174<(2:Int)))>>=fun _=>if(x174==(0:Int))=true then(some a0.f6) else(some a0.f7)):Option (List Z2))>>=fun x180=>(Z01.f a0 x180)>>=fun t183=>if(t183 != (0:Int))=true then(some (.inl t183)) else(Z0c.l0 a0 (i64.wrap (x174+(1:Int))))) else(some (.inr ()))
partial_fixpoint
def Z0c.f (a0:Zp):Option (Int):=((if(a0.f0 != (0:Int))=true then(some (a0.f0 != (1:Int))) else(some false)):Option (Bool))>>=fun x50=>if x50=true then(some 25) else((Z03.f a0.f1)>>=fun t59=>if(!t59)=true then(some 20) else(((if(a0.f2 != (-524288))=true then(if(decide (a0.f2≤(-262144)))=true then(some true) else(some (decide (a0.f2>(262144:Int))))) else(some false)):Option (Bool))>>=fun x66=>if x66=true then(some 31) else((Z0c.l0 a0 0)>>=fun oo=>match oo with | .inl rr=>(some rr) | .inr _=>((Z0g.f [a0.f6,a0.f7,[(⟨0,a0.f3⟩:Z2)]])>>=fun t288=>if(t288.2 != (0:Int))=true then(some t288.2) else(if(t288.1 != a0.f4)=true then(some 21) else(some 0))))))
theorem Z0c.ok (a0:Zp) (r:Int) (H:Z0c.f a0=some r):Pv.Fn Try.prog 11 [.agg (Zx a0)] [] 0 (fun x o=>x=iV .i64 r∧o=[]):=by
 unfold Z0c.f at H
 refine Fn.bodyK [] Try.func11 rfl rfl (fun Γ hP hn => ?_)
 have hm:Try.prog.follows .mixedOrders=true:=by kernel_rfl
 replace hn:Γ.n=73:=hn
 refine sO hP hn hm [(0,.k 0)] [(1,.ptr 0 0 0)] [1] [(0,some (.box 36 (Zx a0)))] [0] ?_
 refine AWp.seq ?_
 refine AWp.block ?_
 refine AWp.seq ?_
 obtain⟨o292,e293,H⟩:=Z4 H
 refine AWp.mono (Q:=fun e s=>(match (generalizing:=false) o292 with | x50=>e = .normal∧s=⟨[(1,.ptr 1 0 0),(8,bV x50)],[(1,some (.box 36 (Zx a0)))],0⟩)) (AWp.cv ?_) ?_
 ·replace H:=e293;clear e293
  rcases Bool.eq_false_or_eq_true (a0.f0 != (0:Int)) with c49 | c49
  ·replace H:=iT c49 H
   refine rG hP hn hm [(3,.b true)] [(8,bV (a0.f0 != (1:Int)))] [1,8] [] [0] [_] ⟨c49,trivial⟩ ?_
   obtain rfl:=sj H
   exact lf [(0,1)] [] [] (by kernel_rfl) ⟨rfl,rfl⟩
  ·replace H:=iF c49 H
   refine rG hP hn hm [(3,.b false)] [(8,bV false)] [1,8] [] [0] [_] ⟨c49,trivial⟩ ?_
   obtain rfl:=sj H
   exact lf [(0,1)] [] [] (by kernel_rfl) ⟨rfl,rfl⟩
 ·obtain⟨x50,rfl⟩:∃ z,z=o292:=⟨_,rfl⟩
  rintro e s ⟨rfl,rfl⟩
  refine AWp.cond x50 (by kernel_rfl) (fun c51 => ?_) (fun c51 => ?_)
  ·replace H:=iT c51 H
   refine sO hP hn hm [] [(2,iV .i64 25)] [2] [] [] ?_
   refine AWp.conv (inv:=[]) (vk:=[]) (e0:=[]) (t:=⟨[(2,iV .i64 25)],[],0⟩) (by kernel_rfl) ?_
   refine AWp.ret ?_
   obtain rfl:=sj H
   exact rl (.inl rfl) rfl (by kernel_rfl) (by kernel_rfl)
  ·replace H:=iF c51 H
   obtain⟨t59,e60,H⟩:=Z4 H
   refine sR hP hn hm [(2,.call [] [] [] [] 0 (bV t59) [])] [(17,bV (!t59))] [1,17] [] [1] [_,_] ⟨Try.call32,Z03.ok a0.f1 t59 e60,trivial⟩ ?_
   refine AWp.cond (!t59) (by kernel_rfl) (fun c61 => ?_) (fun c61 => ?_)
   ·replace H:=iT c61 H
    refine sO hP hn hm [] [(2,iV .i64 20)] [2] [] [] ?_
    refine AWp.conv (inv:=[]) (vk:=[]) (e0:=[]) (t:=⟨[(2,iV .i64 20)],[],0⟩) (by kernel_rfl) ?_
    refine AWp.ret ?_
    obtain rfl:=sj H
    exact rl (.inl rfl) rfl (by kernel_rfl) (by kernel_rfl)
   ·replace H:=iF c61 H
    refine AWp.seq ?_
    obtain⟨o294,e295,H⟩:=Z4 H
    refine AWp.mono (Q:=fun e s=>(match (generalizing:=false) o294 with | x66=>e = .normal∧s=⟨[(1,.ptr 2 0 0),(22,bV x66)],[(2,some (.box 36 (Zx a0)))],0⟩)) (AWp.cv ?_) ?_
    ·replace H:=e295;clear e295
     rcases Bool.eq_false_or_eq_true (a0.f2 != (-524288)) with c64 | c64
     ·replace H:=iT c64 H
      rcases Bool.eq_false_or_eq_true (decide (a0.f2≤(-262144))) with c65 | c65
      ·replace H:=iT c65 H
       refine rG hP hn hm [(3,.b true),(7,.b true)] [(22,bV true)] [1,22] [] [1] [_,_] ⟨c64,c65,trivial⟩ ?_
       obtain rfl:=sj H
       exact lf [(1,2)] [] [] (by kernel_rfl) ⟨rfl,rfl⟩
      ·replace H:=iF c65 H
       refine rG hP hn hm [(3,.b true),(7,.b false)] [(22,bV (decide (a0.f2>(262144:Int))))] [1,22] [] [1] [_,_] ⟨c64,c65,trivial⟩ ?_
       obtain rfl:=sj H
       exact lf [(1,2)] [] [] (by kernel_rfl) ⟨rfl,rfl⟩
     ·replace H:=iF c64 H
      refine rG hP hn hm [(3,.b false)] [(22,bV false)] [1,22] [] [1] [_] ⟨c64,trivial⟩ ?_
      obtain rfl:=sj H
      exact lf [(1,2)] [] [] (by kernel_rfl) ⟨rfl,rfl⟩
    ·obtain⟨x66,rfl⟩:∃ z,z=o294:=⟨_,rfl⟩
     rintro e s ⟨rfl,rfl⟩
     refine AWp.cond x66 (by kernel_rfl) (fun c67 => ?_) (fun c67 => ?_)
     ·replace H:=iT c67 H
      refine sO hP hn hm [] [(2,iV .i64 31)] [2] [] [] ?_
      refine AWp.conv (inv:=[]) (vk:=[]) (e0:=[]) (t:=⟨[(2,iV .i64 31)],[],0⟩) (by kernel_rfl) ?_
      refine AWp.ret ?_
      obtain rfl:=sj H
      exact rl (.inl rfl) rfl (by kernel_rfl) (by kernel_rfl)
     ·replace H:=iF c67 H
      refine AWp.skip ?_
      refine AWp.seq ?_
      refine sO hP hn hm [] [(40,.agg [.im (.row (a0.f6.map Z0)),.im (.row (a0.f7.map Z0))]),(41,iV .i64 0)] [1,40,41] [] [2] ?_
      refine AWp.block ?_
      obtain⟨o296,e297,H⟩:=Z4 H
      refine AWp.loop (LWp.conv (inv:=[(2,3)]) (vk:=[]) (e0:=[]) (t:=⟨[(1,.ptr 3 0 0),(40,.agg [.im (.row (a0.f6.map Z0)),.im (.row (a0.f7.map Z0))]),(41,iV .i64 0)],[(3,some (.box 36 (Zx a0)))],0⟩) (by kernel_rfl) ?_)
      refine LWp.mono (Q:=fun e s=>(match (generalizing:=false) o296 with | .inl rr=>e = .ret∧s.floor=0∧Z2f Try.prog Try.f11 s=some (iV .i64 rr)∧([]:List (Nat×Option MObj))=[] | .inr _=>e = .exit 1∧s=⟨[(1,.ptr 5 0 0)],[(5,some (.box 36 (Zx a0)))],0⟩)) (LWp.cv (Z07 (fun body hbody => ?_))) ?_
      ·refine          Z0c.l0.partial_correctness a0 (motive:=fun x174 o296=>LWp Γ body (fun e s=>∃ t,Cv Γ s t∧(match (generalizing:=false) o296 with | .inl rr=>e = .ret∧t.floor=0∧Z2f   Try.prog Try.f11 t=some (iV .i64 rr)∧([]:List (Nat×Option MObj))=[] | .inr _=>e = .exit 1∧t=⟨[(1,.ptr 5 0 0)],[(5,some (.box 36 (Zx    a0)))],0⟩)) ⟨[(1,.ptr 3 0 0),(40,.agg [.im (.row (a0.f6.map Z0     )),.im (.row (a0.f7.map Z0     ))]),(41,iV .i64 x174)],[(3,some (.box 36 (Zx    a0)))],0⟩) ?_ _ _ e297
       clear H e297 o296;intro self ih x174 o296 H
       subst hbody
       refine LWp.round ?_
       refine sO hP hn hm [] [(42,bV (decide (x174<(2:Int))))] [1,40,41,42] [] [3] ?_
       refine AWp.seq ?_
       refine AWp.cond (decide (x174<(2:Int))) (by kernel_rfl) (fun c175 => ?_) (fun c175 => ?_)
       ·replace H:=iT c175 H
        refine AWp.skip ?_
        refine AWp.seq ?_
        refine AWp.block ?_
        refine AWp.seq ?_
        obtain⟨o298,e299,H⟩:=Z4 H
        refine AWp.mono (Q:=fun e s=>(match (generalizing:=false) o298 with | x180=>e = .normal∧s=⟨[(1,.ptr 4 0 0),(4,.im (.row (x180.map Z0))),(40,.agg [.im (.row (a0.f6.map Z0)),.im (.row (a0.f7.map Z0))]),(41,iV .i64 x174)],[(4,some (.box 36 (Zx a0)))],0⟩)) (AWp.cv ?_) ?_
        ·replace H:=e299;clear e299
         obtain⟨c178,H⟩:=Z17 H
         rcases Bool.eq_false_or_eq_true (x174==(0:Int)) with c179 | c179
         ·replace H:=iT c179 H
          refine rG hP hn hm [(0,.more (xIdx 0))] [(4,.im (.row (a0.f6.map Z0)))] [1,4,40,41] [] [3] [x174=((0:Nat):Int)] ⟨by exact(by simpa using c179),trivial⟩ ?_
          obtain rfl:=sj H
          exact lf [(3,4)] [] [] (by kernel_rfl) ⟨rfl,rfl⟩
         ·replace H:=iF c179 H
          refine rG hP hn hm [(0,.more (xIdx 1))] [(4,.im (.row (a0.f7.map Z0)))] [1,4,40,41] [] [3] [x174=((1:Nat):Int)] ⟨by have:=c178;simp only[beq_eq_false_iff_ne] at *;omega,trivial⟩ ?_
          obtain rfl:=sj H
          exact lf [(3,4)] [] [] (by kernel_rfl) ⟨rfl,rfl⟩
        ·obtain⟨x180,rfl⟩:∃ z,z=o298:=⟨_,rfl⟩
         rintro e s ⟨rfl,rfl⟩
         obtain⟨t183,e184,H⟩:=Z4 H
         refine sR hP hn hm [(2,.call [] [] [] [] 0 (iV .i64 t183) [])] [(5,iV .i64 t183)] [1,5,40,41] [] [4] [_,_] ⟨Try.call33,Z01.ok a0 x180 t183 e184,trivial⟩ ?_
         refine sO hP hn hm [] [(48,bV (t183 != (0:Int)))] [1,5,40,41,48] [] [4] ?_
         refine AWp.cond (t183 != (0:Int)) (by kernel_rfl) (fun c185 => ?_) (fun c185 => ?_)
         ·replace H:=iT c185 H
          refine sO hP hn hm [] [(2,iV .i64 t183)] [2] [] [] ?_
          refine AWp.conv (inv:=[]) (vk:=[]) (e0:=[]) (t:=⟨[(2,iV .i64 t183)],[],0⟩) (by kernel_rfl) ?_
          refine AWp.ret ?_
          obtain rfl:=sj H
          exact rl rfl rfl (by kernel_rfl) (by kernel_rfl)
         ·replace H:=iF c185 H
          refine AWp.skip ?_
          refine rO hP hn hm [] [(41,iV .i64 (i64.wrap (x174+(1:Int))))] [1,40,41] [] [4] ?_
          exact LWp.conv [(4,3)] [] [] (by kernel_rfl) (ih _ _ H)
       ·replace H:=iF c175 H
        refine AWp.exit ?_
        obtain rfl:=sj H
        exact lf [(3,5)] [] [] (by kernel_rfl) ⟨rfl,rfl⟩
      ·rcases o296 with rr | _
       ·skip
        rintro e s ⟨rfl,hfl,hres⟩
        obtain rfl:=sj H
        exact Exists.intro _ (And.intro (fun _ _ h=>h) (And.intro (.inl rfl) (And.intro hfl hres)))
       ·skip
        rintro e s ⟨rfl,rfl⟩
        obtain⟨t288,e289,H⟩:=Z4 H
        refine sR hP hn hm [(7,.more (xFz (.app 6 ([(⟨0,a0.f3⟩:Z2)].map Z0)))),(8,.app 7 ([a0.f6,a0.f7,[(⟨0,a0.f3⟩:Z2)]].map (Z2x Z0))),(9,.call [] [] [7] [] 0 (.tup [iV .u64 t288.1,iV .i64 t288.2]) [])] [(6,iV .u64 t288.1),(7,iV .i64 t288.2)] [1,6,7] [] [5] [[(⟨0,a0.f3⟩:Z2)].map Z0=[[iI .i64 0,iI .u64 a0.f3]],[a0.f6,a0.f7,[(⟨0,a0.f3⟩:Z2)]].map (Z2x Z0)=[[.row (a0.f6.map Z0)],[.row (a0.f7.map Z0)],[.row ([(⟨0,a0.f3⟩:Z2)].map Z0)]],_,_] ⟨by exact rfl,by exact rfl,Try.call34,Z0g.ok [a0.f6,a0.f7,[(⟨0,a0.f3⟩:Z2)]] t288 e289,trivial⟩ ?_
        refine AWp.seq ?_
        refine AWp.block ?_
        refine sO hP hn hm [] [(64,bV (t288.2 != (0:Int)))] [1,6,7,64] [] [5] ?_
        refine AWp.cond (t288.2 != (0:Int)) (by kernel_rfl) (fun c290 => ?_) (fun c290 => ?_)
        ·replace H:=iT c290 H
         refine sO hP hn hm [] [(2,iV .i64 t288.2)] [2] [] [] ?_
         refine AWp.conv (inv:=[]) (vk:=[]) (e0:=[]) (t:=⟨[(2,iV .i64 t288.2)],[],0⟩) (by kernel_rfl) ?_
         refine AWp.ret ?_
         obtain rfl:=sj H
         exact rl (.inl rfl) rfl (by kernel_rfl) (by kernel_rfl)
        ·replace H:=iF c290 H
         refine sO hP hn hm [] [(68,bV (t288.1 != a0.f4))] [68] [] [] ?_
         refine AWp.cond (t288.1 != a0.f4) (by kernel_rfl) (fun c291 => ?_) (fun c291 => ?_)
         ·replace H:=iT c291 H
          refine sO hP hn hm [] [(2,iV .i64 21)] [2] [] [] ?_
          refine AWp.conv (inv:=[]) (vk:=[]) (e0:=[]) (t:=⟨[(2,iV .i64 21)],[],0⟩) (by kernel_rfl) ?_
          refine AWp.ret ?_
          obtain rfl:=sj H
          exact rl (.inl rfl) rfl (by kernel_rfl) (by kernel_rfl)
         ·replace H:=iF c291 H
          refine AWp.skip ?_
          refine sO hP hn hm [] [(2,iV .i64 0)] [2] [] [] ?_
          refine AWp.conv (inv:=[]) (vk:=[]) (e0:=[]) (t:=⟨[(2,iV .i64 0)],[],0⟩) (by kernel_rfl) ?_
          refine AWp.ret ?_
          obtain rfl:=sj H
          exact rl (.inl rfl) rfl (by kernel_rfl) (by kernel_rfl)
def Z29.f (a0:Zp) (a1:Zp):Option (Bool):=((if(a0.f0==a1.f0)=true then(if(a0.f1==a1.f1)=true then(some (a0.f2==a1.f2)) else(some false)) else(some false)):Option (Bool))>>=fun x319=>some x319
theorem Z29.ok (a0:Zp) (a1:Zp) (r:Bool) (H:Z29.f a0 a1=some r):Pv.Fn Try.prog 35 [.agg (Zx a0),.agg (Zx a1)] [] 0 (fun x o=>x=bV r∧o=[]):=by
 unfold Z29.f at H
 refine Fn.bodyK [] Try.func35 rfl rfl (fun Γ hP hn => ?_)
 have hm:Try.prog.follows .mixedOrders=true:=by kernel_rfl
 replace hn:Γ.n=24:=hn
 refine sO hP hn hm [(0,.k 0),(1,.k 1)] [(2,.ptr 0 0 0),(3,.ptr 1 0 0)] [2,3] [(0,some (.box 36 (Zx a0))),(1,some (.box 36 (Zx a1)))] [0,1] ?_
 refine AWp.seq ?_
 obtain⟨o320,e321,H⟩:=Z4 H
 refine AWp.mono (Q:=fun e s=>(match (generalizing:=false) o320 with | x319=>e = .normal∧s=⟨[(4,bV x319)],[],0⟩)) (AWp.cv ?_) ?_
 ·replace H:=e321;clear e321
  rcases Bool.eq_false_or_eq_true (a0.f0==a1.f0) with c317 | c317
  ·replace H:=iT c317 H
   rcases Bool.eq_false_or_eq_true (a0.f1==a1.f1) with c318 | c318
   ·replace H:=iT c318 H
    refine rG hP hn hm [(5,.b true),(12,.b true)] [(4,bV (a0.f2==a1.f2))] [4] [] [] [_,_] ⟨c317,c318,trivial⟩ ?_
    obtain rfl:=sj H
    exact lf [] [] [] (by kernel_rfl) ⟨rfl,rfl⟩
   ·replace H:=iF c318 H
    refine rG hP hn hm [(5,.b true),(12,.b false)] [(4,bV false)] [4] [] [] [_,_] ⟨c317,c318,trivial⟩ ?_
    obtain rfl:=sj H
    exact lf [] [] [] (by kernel_rfl) ⟨rfl,rfl⟩
  ·replace H:=iF c317 H
   refine rG hP hn hm [(5,.b false)] [(4,bV false)] [4] [] [] [_] ⟨c317,trivial⟩ ?_
   obtain rfl:=sj H
   exact lf [] [] [] (by kernel_rfl) ⟨rfl,rfl⟩
 ·obtain⟨x319,rfl⟩:∃ z,z=o320:=⟨_,rfl⟩
  rintro e s ⟨rfl,rfl⟩
  refine AWp.conv (inv:=[]) (vk:=[]) (e0:=[]) (t:=⟨[(4,bV x319)],[],0⟩) (by kernel_rfl) ?_
  refine AWp.ret ?_
  obtain rfl:=sj H
  exact rl (.inl rfl) rfl (by kernel_rfl) (by kernel_rfl)
def Z2k.f (a0:Int) (a1:Int):Option (Int×Int):=if(!((decide (a0<a1))==(decide ((i64.wrap (a0-a1))<(0:Int)))))=true then(some (0,5)) else(some (i64.wrap (a0-a1),0))
theorem Z2k.ok (a0:Int) (a1:Int) (r:Int×Int) (H:Z2k.f a0 a1=some r):Pv.Fn Try.prog 68 [iV .i64 a0,iV .i64 a1] [] 0 (fun x o=>x = .tup [iV .i64 r.1,iV .i64 r.2]∧o=[]):=by
 unfold Z2k.f at H
 refine Fn.bodyK [] Try.func68 rfl rfl (fun Γ hP hn => ?_)
 have hm:Try.prog.follows .mixedOrders=true:=by kernel_rfl
 replace hn:Γ.n=17:=hn
 refine sO hP hn hm [] [] [0,1] [] [] ?_
 refine sO hP hn hm [] [(6,iV .i64 (i64.wrap (a0-a1)))] [0,1,6] [] [] ?_
 refine AWp.seq ?_
 refine sO hP hn hm [] [(15,bV (!((decide (a0<a1))==(decide ((i64.wrap (a0-a1))<(0:Int))))))] [6,15] [] [] ?_
 refine AWp.cond (!((decide (a0<a1))==(decide ((i64.wrap (a0-a1))<(0:Int))))) (by kernel_rfl) (fun c331 => ?_) (fun c331 => ?_)
 ·replace H:=iT c331 H
  refine sO hP hn hm [] [(4,iV .i64 0),(5,iV .i64 5)] [4,5] [] [] ?_
  refine AWp.conv (inv:=[]) (vk:=[]) (e0:=[]) (t:=⟨[(4,iV .i64 0),(5,iV .i64 5)],[],0⟩) (by kernel_rfl) ?_
  refine AWp.ret ?_
  obtain rfl:=sj H
  exact rl (.inl rfl) rfl (by kernel_rfl) (by kernel_rfl)
 ·replace H:=iF c331 H
  refine AWp.skip ?_
  refine sO hP hn hm [] [(4,iV .i64 (i64.wrap (a0-a1))),(5,iV .i64 0)] [4,5] [] [] ?_
  refine AWp.conv (inv:=[]) (vk:=[]) (e0:=[]) (t:=⟨[(4,iV .i64 (i64.wrap (a0-a1))),(5,iV .i64 0)],[],0⟩) (by kernel_rfl) ?_
  refine AWp.ret ?_
  obtain rfl:=sj H
  exact rl (.inl rfl) rfl (by kernel_rfl) (by kernel_rfl)
def Z55.f (a0:Int) (a1:Int):Option (Unit):=(chk (0≤a1))>>=fun _=>some ()
theorem Z55.ok (a0:Int) (a1:Int) (r:Unit) (H:Z55.f a0 a1=some r):Pv.Fn Try.prog 90 [iV .i64 a0,iV .u64 a1] [] 0 (fun x o=>x=iV .i64 (i64.wrap (0-(Int.fdiv (i64.wrap (0-a0)) (2 ^ (min (Int.toNat (a1)) 64)))))∧o=[]):=by
 unfold Z55.f at H
 refine Fn.bodyK [] Try.func90 rfl rfl (fun Γ hP hn => ?_)
 have hm:Try.prog.follows .mixedOrders=true:=by kernel_rfl
 replace hn:Γ.n=10:=hn
 refine sO hP hn hm [] [] [0,1] [] [] ?_
 obtain⟨c371,H⟩:=Z17 H
 refine sR hP hn hm [] [(4,iV .i64 (i64.wrap (0-(Int.fdiv (i64.wrap (0-a0)) (2 ^ (min (Int.toNat (a1)) 64))))))] [4] [] [] [_] ⟨c371,trivial⟩ ?_
 refine AWp.conv (inv:=[]) (vk:=[]) (e0:=[]) (t:=⟨[(4,iV .i64 (i64.wrap (0-(Int.fdiv (i64.wrap (0-a0)) (2 ^ (min (Int.toNat (a1)) 64))))))],[],0⟩) (by kernel_rfl) ?_
 refine AWp.ret ?_
 obtain rfl:=sj H
 exact rl (.inl rfl) rfl (by kernel_rfl) (by kernel_rfl)
def Z32.f (a0:Int) (a1:Int) (a2:Int):Option (Int×Int):=(((Z03.f a0)>>=fun t357=>if(!t357)=true then(some true) else((Z03.f a1)>>=fun t360=>if(!t360)=true then(some true) else(some (decide (a1>a0))))):Option (Bool))>>=fun x363=>if x363=true then(some (0,20)) else((Z2d.f a0 a2)>>=fun t367=>if(!t367)=true then(some (0,4)) else((Z55.f a2 (u64.wrap (i64.wrap (a0-a1))))>>=fun t374=>some (i64.wrap (0-(Int.fdiv (i64.wrap (0-a2)) (2 ^ (min (Int.toNat ((u64.wrap (i64.wrap (a0-a1))))) 64)))),0)))
theorem Z32.ok (a0:Int) (a1:Int) (a2:Int) (r:Int×Int) (H:Z32.f a0 a1 a2=some r):Pv.Fn Try.prog 86 [iV .i64 a0,iV .i64 a1,iV .i64 a2] [] 0 (fun x o=>x = .tup [iV .i64 r.1,iV .i64 r.2]∧o=[]):=by
 unfold Z32.f at H
 refine Fn.bodyK [] Try.func86 rfl rfl (fun Γ hP hn => ?_)
 have hm:Try.prog.follows .mixedOrders=true:=by kernel_rfl
 replace hn:Γ.n=33:=hn
 refine sO hP hn hm [] [] [0,1,2] [] [] ?_
 refine AWp.seq ?_
 refine AWp.block ?_
 refine AWp.seq ?_
 obtain⟨o376,e377,H⟩:=Z4 H
 refine AWp.mono (Q:=fun e s=>(match (generalizing:=false) o376 with | x363=>e = .normal∧s=⟨[(0,iV .i64 a0),(1,iV .i64 a1),(2,iV .i64 a2),(8,bV x363)],[],0⟩)) (AWp.cv ?_) ?_
 ·replace H:=e377;clear e377
  obtain⟨t357,e358,H⟩:=Z4 H
  rcases Bool.eq_false_or_eq_true (!t357) with c359 | c359
  ·replace H:=iT c359 H
   refine rG hP hn hm [(1,.call [] [] [] [] 0 (bV t357) []),(3,.b true)] [(8,bV true)] [0,1,2,8] [] [] [_,_,_] ⟨Try.call32,Z03.ok a0 t357 e358,c359,trivial⟩ ?_
   obtain rfl:=sj H
   exact lf [] [] [] (by kernel_rfl) ⟨rfl,rfl⟩
  ·replace H:=iF c359 H
   obtain⟨t360,e361,H⟩:=Z4 H
   rcases Bool.eq_false_or_eq_true (!t360) with c362 | c362
   ·replace H:=iT c362 H
    refine rG hP hn hm [(1,.call [] [] [] [] 0 (bV t357) []),(3,.b false),(5,.call [] [] [] [] 0 (bV t360) []),(8,.b true)] [(8,bV true)] [0,1,2,8] [] [] [_,_,_,_,_,_] ⟨Try.call32,Z03.ok a0 t357 e358,c359,Try.call32,Z03.ok a1 t360 e361,c362,trivial⟩ ?_
    obtain rfl:=sj H
    exact lf [] [] [] (by kernel_rfl) ⟨rfl,rfl⟩
   ·replace H:=iF c362 H
    refine rG hP hn hm [(1,.call [] [] [] [] 0 (bV t357) []),(3,.b false),(5,.call [] [] [] [] 0 (bV t360) []),(8,.b false)] [(8,bV (decide (a1>a0)))] [0,1,2,8] [] [] [_,_,_,_,_,_] ⟨Try.call32,Z03.ok a0 t357 e358,c359,Try.call32,Z03.ok a1 t360 e361,c362,trivial⟩ ?_
    obtain rfl:=sj H
    exact lf [] [] [] (by kernel_rfl) ⟨rfl,rfl⟩
 ·obtain⟨x363,rfl⟩:∃ z,z=o376:=⟨_,rfl⟩
  rintro e s ⟨rfl,rfl⟩
  refine AWp.cond x363 (by kernel_rfl) (fun c364 => ?_) (fun c364 => ?_)
  ·replace H:=iT c364 H
   refine sO hP hn hm [] [(6,iV .i64 0),(7,iV .i64 20)] [6,7] [] [] ?_
   refine AWp.conv (inv:=[]) (vk:=[]) (e0:=[]) (t:=⟨[(6,iV .i64 0),(7,iV .i64 20)],[],0⟩) (by kernel_rfl) ?_
   refine AWp.ret ?_
   obtain rfl:=sj H
   exact rl (.inl rfl) rfl (by kernel_rfl) (by kernel_rfl)
  ·replace H:=iF c364 H
   obtain⟨t367,e368,H⟩:=Z4 H
   refine sR hP hn hm [(2,.call [] [] [] [] 0 (bV t367) [])] [(22,bV (!t367))] [0,1,2,22] [] [] [_,_] ⟨Try.call57,Z2d.ok a0 a2 t367 e368,trivial⟩ ?_
   refine AWp.cond (!t367) (by kernel_rfl) (fun c369 => ?_) (fun c369 => ?_)
   ·replace H:=iT c369 H
    refine sO hP hn hm [] [(6,iV .i64 0),(7,iV .i64 4)] [6,7] [] [] ?_
    refine AWp.conv (inv:=[]) (vk:=[]) (e0:=[]) (t:=⟨[(6,iV .i64 0),(7,iV .i64 4)],[],0⟩) (by kernel_rfl) ?_
    refine AWp.ret ?_
    obtain rfl:=sj H
    exact rl (.inl rfl) rfl (by kernel_rfl) (by kernel_rfl)
   ·replace H:=iF c369 H
    refine AWp.skip ?_
    obtain⟨t374,e375,H⟩:=Z4 H
    refine sR hP hn hm [(5,.call [] [] [] [] 0 (iV .i64 (i64.wrap (0-(Int.fdiv (i64.wrap (0-a2)) (2 ^ (min (Int.toNat ((u64.wrap (i64.wrap (a0-a1))))) 64)))))) [])] [(6,iV .i64 (i64.wrap (0-(Int.fdiv (i64.wrap (0-a2)) (2 ^ (min (Int.toNat ((u64.wrap (i64.wrap (a0-a1))))) 64)))))),(7,iV .i64 0)] [6,7] [] [] [_,_] ⟨Try.call90,Z55.ok a2 (u64.wrap (i64.wrap (a0-a1))) t374 e375,trivial⟩ ?_
    refine AWp.conv (inv:=[]) (vk:=[]) (e0:=[]) (t:=⟨[(6,iV .i64 (i64.wrap (0-(Int.fdiv (i64.wrap (0-a2)) (2 ^ (min (Int.toNat ((u64.wrap (i64.wrap (a0-a1))))) 64)))))),(7,iV .i64 0)],[],0⟩) (by kernel_rfl) ?_
    refine AWp.ret ?_
    obtain rfl:=sj H
    exact rl (.inl rfl) rfl (by kernel_rfl) (by kernel_rfl)
def Z1a.l0 (a0:List Z2) (a1:Int) (a2:Int) (x384:List Z2) (x385:Int):Option (List Z2):=if(decide (x385<(a0.length:Int)))=true then((at? a0 x385)>>=fun b390=>(Z32.f a1 a2 b390.f0)>>=fun t395=>(chk ((x384.length+[(⟨t395.1,b390.f1⟩:Z2)].length)*16≤140737488355328))>>=fun _=>Z1a.l0 a0 a1 a2 (x384++[(⟨t395.1,b390.f1⟩:Z2)]) (i64.wrap (x385+(1:Int)))) else(some x384)
partial_fixpoint
def Z1a.f (a0:List Z2) (a1:Int) (a2:Int):Option (List Z2):=(Z1a.l0 a0 a1 a2 [] 0)>>=fun x399=>some x399
theorem Z1a.ok (a0:List Z2) (a1:Int) (a2:Int) (r:List Z2) (H:Z1a.f a0 a1 a2=some r):Pv.Fn Try.prog 81 [.im (.row (a0.map Z0)),iV .i64 a1,iV .i64 a2] [] 0 (fun x o=>x = .own 0∧o=[(0,some (.row 2 78 (r.map Z0)))]):=by
 unfold Z1a.f at H
 refine Fn.bodyK [0] Try.func81 rfl rfl (fun Γ hP hn => ?_)
 have hm:Try.prog.follows .mixedOrders=true:=by kernel_rfl
 replace hn:Γ.n=31:=hn
 refine sO hP hn hm [] [] [0,1,2] [] [] ?_
 refine sO hP hn hm [] [(7,.none0)] [0,1,2,7] [] [] ?_
 refine AWp.seq ?_
 refine sR hP hn hm [(1,.any (iV .i64 (a0.length:Int)))] [(10,.im (.row (a0.map Z0))),(11,iV .i64 (a0.length:Int)),(12,iV .i64 0)] [1,2,7,10,11,12] [] [] [((a0.map Z0).length:Int)=(a0.length:Int)] ⟨by rw[Zv],trivial⟩ ?_
 refine AWp.block ?_
 obtain⟨o400,e401,H⟩:=Z4 H
 refine AWp.loop (LWp.conv (inv:=[]) (vk:=[]) (e0:=[3]) (t:=⟨[(1,iV .i64 a1),(2,iV .i64 a2),(7,.own 3),(10,.im (.row (a0.map Z0))),(11,iV .i64 (a0.length:Int)),(12,iV .i64 0)],[(3,some (.row 2 78 ([].map Z0)))],0⟩) (by kernel_rfl) ?_)
 refine LWp.mono (Q:=fun e s=>(match (generalizing:=false) o400 with | x399=>e = .exit 0∧s=⟨[(7,.own 7)],[(7,some (.row 2 78 (x399.map Z0)))],0⟩)) (LWp.cv (Z07 (fun body hbody => ?_))) ?_
 ·refine         Z1a.l0.partial_correctness a0 a1 a2 (motive:=fun x384 x385 o400=>LWp Γ body (fun e s=>∃ t,Cv Γ s t∧(match (generalizing:=false) o400 with | x399=>e = .exit 0∧t=⟨[(7,.own 7)],[(7,some (.row 2 78 (x399.map Z0     )))],0⟩)) ⟨[(1,iV .i64 a1),(2,iV .i64 a2),(7,.own 3),(10,.im (.row (a0.map Z0     ))),(11,iV .i64 (a0.length:Int)),(12,iV .i64 x385)],[(3,some (.row 2 78 (x384.map Z0     )))],0⟩) ?_ _ _ _ e401
  clear H e401 o400;intro self ih x384 x385 o400 H
  subst hbody
  refine LWp.round ?_
  refine sO hP hn hm [] [(13,bV (decide (x385<(a0.length:Int))))] [1,2,7,10,11,12,13] [] [3] ?_
  refine AWp.seq ?_
  refine AWp.cond (decide (x385<(a0.length:Int))) (by kernel_rfl) (fun c386 => ?_) (fun c386 => ?_)
  ·replace H:=iT c386 H
   refine AWp.skip ?_
   refine AWp.seq ?_
   refine AWp.block ?_
   obtain⟨b390,p391,q392,H⟩:=Z0q H
   refine sR hP hn hm [(0,.c (Z0 b390)),(2,.k 4)] [(9,.ptr 4 0 0)] [1,2,7,9,10,11,12] [(4,some (.box 78 (Z1v b390)))] [3,4] [_,_] ⟨p391,Zu Z0 q392,trivial⟩ ?_
   obtain⟨t395,e396,H⟩:=Z4 H
   refine sR hP hn hm [(4,.call [] [] [] [] 0 (.tup [iV .i64 t395.1,iV .i64 t395.2]) [])] [] [1,2,7,9,10,11,12] [(4,some (.box 78 (Z1v ⟨t395.1,b390.f1⟩)))] [3,4] [_,_] ⟨Try.call86,Z32.ok a1 a2 b390.f0 t395 e396,trivial⟩ ?_
   obtain⟨c398,H⟩:=Z17 H
   refine rG hP hn hm [(2,.app 5 ([(⟨t395.1,b390.f1⟩:Z2)].map Z0)),(3,.app 6 ((x384++[(⟨t395.1,b390.f1⟩:Z2)]).map Z0))] [(7,.own 6)] [1,2,7,10,11,12] [(6,some (.row 2 78 ((x384++[(⟨t395.1,b390.f1⟩:Z2)]).map Z0)))] [6] [[(⟨t395.1,b390.f1⟩:Z2)].map Z0=[[iI .i64 t395.1,iI .u64 b390.f1]],(x384++[(⟨t395.1,b390.f1⟩:Z2)]).map Z0=(x384.map Z0)++([(⟨t395.1,b390.f1⟩:Z2)].map Z0),∀ c∈([(⟨t395.1,b390.f1⟩:Z2)].map Z0),c.length=2,∀ c∈([(⟨t395.1,b390.f1⟩:Z2)].map Z0),Z12 (c.map .im)=true,((x384.map Z0).length+([(⟨t395.1,b390.f1⟩:Z2)].map Z0).length)*16≤140737488355328] ⟨by exact rfl,by simp,by exact Z13 _ _ _ (fun _=>rfl),by exact Z16 _ _ (fun _=>rfl),by simpa using c398,trivial⟩ ?_
   refine rO hP hn hm [] [(12,iV .i64 (i64.wrap (x385+(1:Int))))] [1,2,7,10,11,12] [] [6] ?_
   exact LWp.conv [(6,3)] [] [] (by kernel_rfl) (ih _ _ _ H)
  ·replace H:=iF c386 H
   refine AWp.exit ?_
   obtain rfl:=sj H
   exact lf [(3,7)] [] [] (by kernel_rfl) ⟨rfl,rfl⟩
 ·obtain⟨x399,rfl⟩:∃ z,z=o400:=⟨_,rfl⟩
  rintro e s ⟨rfl,rfl⟩
  refine sO hP hn hm [] [(6,.own 7)] [6] [] [7] ?_
  refine AWp.conv (inv:=[(7,0)]) (vk:=[]) (e0:=[]) (t:=⟨[(6,.own 0)],[(0,some (.row 2 78 (x399.map Z0)))],0⟩) (by kernel_rfl) ?_
  refine AWp.ret ?_
  obtain rfl:=sj H
  exact rl (.inl rfl) rfl (by kernel_rfl) (by kernel_rfl)
def Z19.l0 (a0:Zp) (a1:List Z2) (a2:Int) (x433:Int):Option (Int ⊕ Unit):=if(decide (x433<(a1.length:Int)))=true then((at? a1 x433)>>=fun b438=>(((Z1x.f a0.f1 b438.f0)>>=fun t446=>if(decide (t446<a2))=true then((Z0u.f a0.f1 b438.f0)>>=fun t449=>some (decide (a2<t449))) else(some false)):Option (Bool))>>=fun x451=>if x451=true then((Z0u.f a0.f1 b438.f0)>>=fun t455=>some (.inl t455)) else(Z19.l0 a0 a1 a2 (i64.wrap (x433+(1:Int))))) else(some (.inr ()))
partial_fixpoint
def Z19.f (a0:Zp) (a1:List Z2) (a2:Int):Option (Int):=(Z19.l0 a0 a1 a2 0)>>=fun oo=>match oo with | .inl rr=>(some rr) | .inr _=>(some a2)
theorem Z19.ok (a0:Zp) (a1:List Z2) (a2:Int) (r:Int) (H:Z19.f a0 a1 a2=some r):Pv.Fn Try.prog 87 [.agg (Zx a0),.im (.row (a1.map Z0)),iV .i64 a2] [] 0 (fun x o=>x=iV .i64 r∧o=[]):=by
 unfold Z19.f at H
 refine Fn.bodyK [] Try.func87 rfl rfl (fun Γ hP hn => ?_)
 have hm:Try.prog.follows .mixedOrders=true:=by kernel_rfl
 replace hn:Γ.n=38:=hn
 refine sO hP hn hm [(0,.k 0)] [(3,.ptr 0 0 0)] [1,2,3] [(0,some (.box 36 (Zx a0)))] [0] ?_
 refine AWp.seq ?_
 refine sR hP hn hm [(1,.any (iV .i64 (a1.length:Int)))] [(9,.im (.row (a1.map Z0))),(10,iV .i64 (a1.length:Int)),(11,iV .i64 0)] [2,3,9,10,11] [] [0] [((a1.map Z0).length:Int)=(a1.length:Int)] ⟨by rw[Zv],trivial⟩ ?_
 refine AWp.block ?_
 obtain⟨o457,e458,H⟩:=Z4 H
 refine AWp.loop (LWp.conv (inv:=[(0,4)]) (vk:=[]) (e0:=[]) (t:=⟨[(2,iV .i64 a2),(3,.ptr 4 0 0),(9,.im (.row (a1.map Z0))),(10,iV .i64 (a1.length:Int)),(11,iV .i64 0)],[(4,some (.box 36 (Zx a0)))],0⟩) (by kernel_rfl) ?_)
 refine LWp.mono (Q:=fun e s=>(match (generalizing:=false) o457 with | .inl rr=>e = .ret∧s.floor=0∧Z2f Try.prog Try.f87 s=some (iV .i64 rr)∧([]:List (Nat×Option MObj))=[] | .inr _=>e = .exit 0∧s=⟨[(2,iV .i64 a2)],[],0⟩)) (LWp.cv (Z07 (fun body hbody => ?_))) ?_
 ·refine         Z19.l0.partial_correctness a0 a1 a2 (motive:=fun x433 o457=>LWp Γ body (fun e s=>∃ t,Cv Γ s t∧(match (generalizing:=false) o457 with | .inl rr=>e = .ret∧t.floor=0∧Z2f   Try.prog Try.f87 t=some (iV .i64 rr)∧([]:List (Nat×Option MObj))=[] | .inr _=>e = .exit 0∧t=⟨[(2,iV .i64 a2)],[],0⟩)) ⟨[(2,iV .i64 a2),(3,.ptr 4 0 0),(9,.im (.row (a1.map Z0     ))),(10,iV .i64 (a1.length:Int)),(11,iV .i64 x433)],[(4,some (.box 36 (Zx    a0)))],0⟩) ?_ _ _ e458
  clear H e458 o457;intro self ih x433 o457 H
  subst hbody
  refine LWp.round ?_
  refine sO hP hn hm [] [(12,bV (decide (x433<(a1.length:Int))))] [2,3,9,10,11,12] [] [4] ?_
  refine AWp.seq ?_
  refine AWp.cond (decide (x433<(a1.length:Int))) (by kernel_rfl) (fun c434 => ?_) (fun c434 => ?_)
  ·replace H:=iT c434 H
   refine AWp.skip ?_
   refine AWp.seq ?_
   refine AWp.block ?_
   obtain⟨b438,p439,q440,H⟩:=Z0q H
   refine sR hP hn hm [(0,.c (Z0 b438)),(2,.k 5)] [(8,.ptr 5 0 0)] [2,3,8,9,10,11] [(5,some (.box 78 (Z1v b438)))] [4,5] [_,_] ⟨p439,Zu Z0 q440,trivial⟩ ?_
   refine AWp.seq ?_
   obtain⟨o459,e460,H⟩:=Z4 H
   refine AWp.mono (Q:=fun e s=>(match (generalizing:=false) o459 with | x451=>e = .normal∧s=⟨[(2,iV .i64 a2),(3,.ptr 6 0 0),(8,.ptr 7 0 0),(9,.im (.row (a1.map Z0))),(10,iV .i64 (a1.length:Int)),(11,iV .i64 x433),(30,bV x451)],[(6,some (.box 36 (Zx a0))),(7,some (.box 78 (Z1v b438)))],0⟩)) (AWp.cv ?_) ?_
   ·replace H:=e460;clear e460
    obtain⟨t446,e447,H⟩:=Z4 H
    rcases Bool.eq_false_or_eq_true (decide (t446<a2)) with c448 | c448
    ·replace H:=iT c448 H
     obtain⟨t449,e450,H⟩:=Z4 H
     refine rG hP hn hm [(4,.call [] [] [] [] 0 (iV .i64 t446) []),(7,.b true),(13,.call [] [] [] [] 0 (iV .i64 t449) [])] [(23,iV .i64 a2),(24,.ptr 4 0 1),(25,iV .i64 a0.f1),(26,.ptr 5 0 0),(27,iV .i64 b438.f0),(28,iV .i64 t449),(29,bV (decide (a2<t449))),(30,bV (decide (a2<t449)))] [2,3,8,9,10,11,23,24,25,26,27,28,29,30] [] [4,5] [_,_,_,_,_] ⟨Try.call58,Z1x.ok a0.f1 b438.f0 t446 e447,c448,Try.call66,Z0u.ok a0.f1 b438.f0 t449 e450,trivial⟩ ?_
     obtain rfl:=sj H
     exact lf [(4,6),(5,7)] [] [] (by kernel_rfl) ⟨rfl,rfl⟩
    ·replace H:=iF c448 H
     refine rG hP hn hm [(4,.call [] [] [] [] 0 (iV .i64 t446) []),(7,.b false)] [(30,bV false)] [2,3,8,9,10,11,30] [] [4,5] [_,_,_] ⟨Try.call58,Z1x.ok a0.f1 b438.f0 t446 e447,c448,trivial⟩ ?_
     obtain rfl:=sj H
     exact lf [(4,6),(5,7)] [] [] (by kernel_rfl) ⟨rfl,rfl⟩
   ·obtain⟨x451,rfl⟩:∃ z,z=o459:=⟨_,rfl⟩
    rintro e s ⟨rfl,rfl⟩
    refine AWp.cond x451 (by kernel_rfl) (fun c452 => ?_) (fun c452 => ?_)
    ·replace H:=iT c452 H
     obtain⟨t455,e456,H⟩:=Z4 H
     refine sR hP hn hm [(4,.call [] [] [] [] 0 (iV .i64 t455) [])] [(6,iV .i64 t455)] [6] [] [] [_,_] ⟨Try.call66,Z0u.ok a0.f1 b438.f0 t455 e456,trivial⟩ ?_
     refine AWp.conv (inv:=[]) (vk:=[]) (e0:=[]) (t:=⟨[(6,iV .i64 t455)],[],0⟩) (by kernel_rfl) ?_
     refine AWp.ret ?_
     obtain rfl:=sj H
     exact rl rfl rfl (by kernel_rfl) (by kernel_rfl)
    ·replace H:=iF c452 H
     refine AWp.skip ?_
     refine rO hP hn hm [] [(11,iV .i64 (i64.wrap (x433+(1:Int))))] [2,3,9,10,11] [] [6] ?_
     exact LWp.conv [(6,4)] [] [] (by kernel_rfl) (ih _ _ H)
  ·replace H:=iF c434 H
   refine AWp.exit ?_
   obtain rfl:=sj H
   exact lf [] [] [] (by kernel_rfl) ⟨rfl,rfl⟩
 ·rcases o457 with rr | _
  ·skip
   rintro e s ⟨rfl,hfl,hres⟩
   obtain rfl:=sj H
   exact Exists.intro _ (And.intro (fun _ _ h=>h) (And.intro (.inl rfl) (And.intro hfl hres)))
  ·skip
   rintro e s ⟨rfl,rfl⟩
   refine sO hP hn hm [] [(6,iV .i64 a2)] [6] [] [] ?_
   refine AWp.conv (inv:=[]) (vk:=[]) (e0:=[]) (t:=⟨[(6,iV .i64 a2)],[],0⟩) (by kernel_rfl) ?_
   refine AWp.ret ?_
   obtain rfl:=sj H
   exact rl (.inl rfl) rfl (by kernel_rfl) (by kernel_rfl)
def Zz.l0 (a0:List Z2) (a1_c0:Int) (a1_c1:Int) (a1_c2:Int) (a1_c4:Int) (a1_c5:Int) (a1_c6:List Z2) (a1_c7:List Z2) (a2_c0:Int) (x489:Int) (x490:List Z2) (x491:Int):Option ((List Z2)×Int):=if(decide (x491<(a0.length:Int)))=true then((at? a0 x491)>>=fun b496=>(Z0u.f a1_c1 b496.f0)>>=fun t501=>((if(decide (t501>a2_c0))=true then((chk ((x490.length+[b496].length)*16≤140737488355328))>>=fun _=>some (x489,x490++[b496])) else((Z1l.f [x489,b496.f1])>>=fun t508=>some (t508.1,x490))):Option (Int×(List Z2)))>>=fun oo=>match oo with | (x510,x511)=>(Zz.l0 a0 a1_c0 a1_c1 a1_c2 a1_c4 a1_c5 a1_c6 a1_c7 a2_c0 x510 x511 (i64.wrap (x491+(1:Int))))) else(some (x490,x489))
partial_fixpoint
def Zz.f (a0:List Z2) (a1_c0:Int) (a1_c1:Int) (a1_c2:Int) (a1_c3:Int) (a1_c4:Int) (a1_c5:Int) (a1_c6:List Z2) (a1_c7:List Z2) (a2_c0:Int):Option ((List Z2)×Int):=(Zz.l0 a0 a1_c0 a1_c1 a1_c2 a1_c4 a1_c5 a1_c6 a1_c7 a2_c0 a1_c3 [] 0)>>=fun oo=>match oo with | (x512,x513)=>(some (x512,x513))
theorem Zz.ok (a0:List Z2) (a1_c0:Int) (a1_c1:Int) (a1_c2:Int) (a1_c3:Int) (a1_c4:Int) (a1_c5:Int) (a1_c6:List Z2) (a1_c7:List Z2) (a2_c0:Int) (r:(List Z2)×Int) (H:Zz.f a0 a1_c0 a1_c1 a1_c2 a1_c3 a1_c4 a1_c5 a1_c6 a1_c7 a2_c0=some r):Pv.Fn Try.prog 88 [.im (.row (a0.map Z0)),.ptr 0 0 0,.ptr 1 0 0] [(0,some (.box 36 (Zx ⟨a1_c0,a1_c1,a1_c2,a1_c3,a1_c4,a1_c5,a1_c6,a1_c7⟩))),(1,some (.box 3 [iV .i64 a2_c0]))] 2 (fun x o=>x = .own 2∧o=[(0,some (.box 36 (Zx ⟨a1_c0,a1_c1,a1_c2,r.2,a1_c4,a1_c5,a1_c6,a1_c7⟩))),(1,some (.box 3 [iV .i64 a2_c0])),(2,some (.row 2 78 (r.1.map Z0)))]):=by
 unfold Zz.f at H
 refine Fn.bodyK [0,1,2] Try.func88 rfl rfl (fun Γ hP hn => ?_)
 have hm:Try.prog.follows .mixedOrders=true:=by kernel_rfl
 replace hn:Γ.n=37:=hn
 refine sO hP hn hm [] [] [0,1,2] [] [0,1] ?_
 refine sO hP hn hm [] [(5,.none0)] [0,1,2,5] [] [0,1] ?_
 refine AWp.seq ?_
 refine sR hP hn hm [(1,.any (iV .i64 (a0.length:Int)))] [(8,.im (.row (a0.map Z0))),(9,iV .i64 (a0.length:Int)),(10,iV .i64 0)] [1,2,5,8,9,10] [] [0,1] [((a0.map Z0).length:Int)=(a0.length:Int)] ⟨by rw[Zv],trivial⟩ ?_
 refine AWp.block ?_
 obtain⟨o514,e515,H⟩:=Z4 H
 refine AWp.loop (LWp.conv (inv:=[(0,0),(1,1)]) (vk:=[]) (e0:=[7]) (t:=⟨[(1,.ptr 0 0 0),(2,.ptr 1 0 0),(5,.own 7),(8,.im (.row (a0.map Z0))),(9,iV .i64 (a0.length:Int)),(10,iV .i64 0)],[(0,some (.box 36 (Zx ⟨a1_c0,a1_c1,a1_c2,a1_c3,a1_c4,a1_c5,a1_c6,a1_c7⟩))),(1,some (.box 3 [iV .i64 a2_c0])),(7,some (.row 2 78 ([].map Z0)))],2⟩) (by kernel_rfl) ?_)
 refine LWp.mono (Q:=fun e s=>(match (generalizing:=false) o514 with | (x512,x513)=>e = .exit 0∧s=⟨[(5,.own 13)],[(0,some (.box 36 (Zx ⟨a1_c0,a1_c1,a1_c2,x513,a1_c4,a1_c5,a1_c6,a1_c7⟩))),(1,some (.box 3 [iV .i64 a2_c0])),(13,some (.row 2 78 (x512.map Z0)))],2⟩)) (LWp.cv (Z07 (fun body hbody => ?_))) ?_
 ·refine                   Zz.l0.partial_correctness a0 a1_c0 a1_c1 a1_c2 a1_c4 a1_c5 a1_c6 a1_c7 a2_c0 (motive:=fun x489 x490 x491 o514=>LWp Γ body (fun e s=>∃ t,Cv Γ s t∧(match (generalizing:=false) o514 with | (x512,x513)=>e = .exit 0∧t=⟨[(5,.own 13)],[(0,some (.box 36 (Zx    ⟨a1_c0,a1_c1,a1_c2,x513,a1_c4,a1_c5,a1_c6,a1_c7⟩))),(1,some (.box 3 [iV .i64 a2_c0])),(13,some (.row 2 78 (x512.map Z0     )))],2⟩)) ⟨[(1,.ptr 0 0 0),(2,.ptr 1 0 0),(5,.own 7),(8,.im (.row (a0.map Z0     ))),(9,iV .i64 (a0.length:Int)),(10,iV .i64 x491)],[(0,some (.box 36 (Zx    ⟨a1_c0,a1_c1,a1_c2,x489,a1_c4,a1_c5,a1_c6,a1_c7⟩))),(1,some (.box 3 [iV .i64 a2_c0])),(7,some (.row 2 78 (x490.map Z0     )))],2⟩) ?_ _ _ _ _ e515
  clear H e515 o514;intro self ih x489 x490 x491 o514 H
  subst hbody
  refine LWp.round ?_
  refine sO hP hn hm [] [(11,bV (decide (x491<(a0.length:Int))))] [1,2,5,8,9,10,11] [] [0,1,7] ?_
  refine AWp.seq ?_
  refine AWp.cond (decide (x491<(a0.length:Int))) (by kernel_rfl) (fun c492 => ?_) (fun c492 => ?_)
  ·replace H:=iT c492 H
   refine AWp.skip ?_
   refine AWp.seq ?_
   refine AWp.block ?_
   obtain⟨b496,p497,q498,H⟩:=Z0q H
   refine sR hP hn hm [(0,.c (Z0 b496)),(2,.k 8)] [(7,.ptr 8 0 0)] [1,2,5,7,8,9,10] [(8,some (.box 78 (Z1v b496)))] [0,1,7,8] [_,_] ⟨p497,Zu Z0 q498,trivial⟩ ?_
   obtain⟨t501,e502,H⟩:=Z4 H
   refine sR hP hn hm [(4,.call [] [] [] [] 0 (iV .i64 t501) [])] [(20,bV (decide (t501>a2_c0)))] [1,2,5,7,8,9,10,20] [] [0,1,7,8] [_,_] ⟨Try.call66,Z0u.ok a1_c1 b496.f0 t501 e502,trivial⟩ ?_
   obtain⟨o516,e517,H⟩:=Z4 H
   refine AWp.mono (Q:=fun e s=>(match (generalizing:=false) o516 with | (x510,x511)=>e = .normal∧s=⟨[(1,.ptr 0 0 0),(2,.ptr 1 0 0),(5,.own 12),(8,.im (.row (a0.map Z0))),(9,iV .i64 (a0.length:Int)),(10,iV .i64 x491)],[(0,some (.box 36 (Zx ⟨a1_c0,a1_c1,a1_c2,x510,a1_c4,a1_c5,a1_c6,a1_c7⟩))),(1,some (.box 3 [iV .i64 a2_c0])),(12,some (.row 2 78 (x511.map Z0)))],2⟩)) (AWp.cv ?_) ?_
   ·replace H:=e517;clear e517
    refine AWp.cond (decide (t501>a2_c0)) (by kernel_rfl) (fun c503 => ?_) (fun c503 => ?_)
    ·replace H:=iT c503 H
     obtain⟨c505,H⟩:=Z17 H
     refine rG hP hn hm [(2,.app 9 ([b496].map Z0)),(3,.app 10 ((x490++[b496]).map Z0))] [(5,.own 10)] [1,2,5,8,9,10] [(10,some (.row 2 78 ((x490++[b496]).map Z0)))] [0,1,10] [[b496].map Z0=[[iI .i64 b496.f0,iI .u64 b496.f1]],(x490++[b496]).map Z0=(x490.map Z0)++([b496].map Z0),∀ c∈([b496].map Z0),c.length=2,∀ c∈([b496].map Z0),Z12 (c.map .im)=true,((x490.map Z0).length+([b496].map Z0).length)*16≤140737488355328] ⟨by exact rfl,by simp,by exact Z13 _ _ _ (fun _=>rfl),by exact Z16 _ _ (fun _=>rfl),by simpa using c505,trivial⟩ ?_
     obtain rfl:=sj H
     exact lf [(0,0),(1,1),(10,12)] [] [] (by kernel_rfl) ⟨rfl,rfl⟩
    ·replace H:=iF c503 H
     obtain⟨t508,e509,H⟩:=Z4 H
     refine rG hP hn hm [(4,.app 11 ([x489,b496.f1].map (Z1 .u64))),(5,.call [] [] [11] [] 0 (.tup [iV .u64 t508.1,iV .i64 t508.2]) [])] [] [1,2,5,8,9,10] [(0,some (.box 36 (Zx ⟨a1_c0,a1_c1,a1_c2,t508.1,a1_c4,a1_c5,a1_c6,a1_c7⟩)))] [0,1,7] [[x489,b496.f1].map (Z1 .u64)=[[iI .u64 x489],[iI .u64 b496.f1]],_,_] ⟨by exact rfl,Try.call59,Z1l.ok [x489,b496.f1] t508 e509,trivial⟩ ?_
     obtain rfl:=sj H
     exact lf [(0,0),(1,1),(7,12)] [] [] (by kernel_rfl) ⟨rfl,rfl⟩
   ·obtain⟨x510,x511⟩:=o516
    rintro e s ⟨rfl,rfl⟩
    refine rO hP hn hm [] [(10,iV .i64 (i64.wrap (x491+(1:Int))))] [1,2,5,8,9,10] [] [0,1,12] ?_
    exact LWp.conv [(0,0),(1,1),(12,7)] [] [] (by kernel_rfl) (ih _ _ _ _ H)
  ·replace H:=iF c492 H
   refine AWp.exit ?_
   obtain rfl:=sj H
   exact lf [(7,13),(0,0),(1,1)] [] [] (by kernel_rfl) ⟨rfl,rfl⟩
 ·obtain⟨x512,x513⟩:=o514
  rintro e s ⟨rfl,rfl⟩
  refine sO hP hn hm [] [(4,.own 13)] [4] [] [0,1,13] ?_
  refine AWp.conv (inv:=[(0,0),(1,1),(13,2)]) (vk:=[]) (e0:=[]) (t:=⟨[(4,.own 2)],[(0,some (.box 36 (Zx ⟨a1_c0,a1_c1,a1_c2,x513,a1_c4,a1_c5,a1_c6,a1_c7⟩))),(1,some (.box 3 [iV .i64 a2_c0])),(2,some (.row 2 78 (x512.map Z0)))],2⟩) (by kernel_rfl) ?_
  refine AWp.ret ?_
  obtain rfl:=sj H
  exact rl (.inl rfl) rfl (by kernel_rfl) (by kernel_rfl)
def Z06.f (a0:List Z2):Option (List Z2):=(chk ((([]:List Z2).length+a0.length)*16≤140737488355328))>>=fun _=>some a0
theorem Z06.ok (a0 r:List Z2) (H:Z06.f a0=some r):Pv.Fn Try.prog 73 [.im (.row (a0.map Z0))] [] 0 (fun x o=>x = .own 0∧o=[(0,some (.row 2 78 (r.map Z0)))]):=by
 unfold Z06.f at H
 obtain⟨c1,H⟩:=Z17 H
 obtain rfl:=sj H
 refine Fn.bodyK [0] Try.func73 rfl rfl (fun Γ hP hn => ?_)
 have hm:Try.prog.follows .mixedOrders=true:=by kernel_rfl
 replace hn:Γ.n=8:=hn
 refine AWp.seq ?_
 refine reg hP hn hm [] [0,2] [] ⟨[(0,.im (.row (a0.map Z0))),(2,.none0)],[],0⟩ [] (by kernel_rfl) trivial ?_
 refine AWp.seq ?_
 cases a0 with
 | nil =>
  refine AWp.nilSplit 0 rfl (fun b m => ?_)
  refine AWp.seq ?_
  cases b with
  | none =>
   refine reg hP hn hm [(1,.more xNil)] [2,4] [] ⟨[(2,.none0),(4,bV true)],[],0⟩ [] (by kernel_rfl) trivial ?_
   refine AWp.cond true rfl (fun _ => ?_) (fun h=>nomatch h)
   refine AWp.seq ?_
   refine reg hP hn hm [] [2] [] ⟨[(2,.none0)],[],0⟩ [] (by kernel_rfl) trivial ?_
   refine AWp.conv (inv:=[]) (vk:=[]) (e0:=[0]) (t:=⟨[(2,.own 0)],[(0,some (.row 2 78 []))],0⟩) (by kernel_rfl) ?_
   refine AWp.ret ?_
   exact Exists.intro _ (And.intro (fun _ _ h=>h) (And.intro (.inl rfl) (And.intro rfl (And.intro (by kernel_rfl) (by kernel_rfl)))))
  | some b =>
   refine reg hP hn hm [(1,.more xNil)] [0,2,4] [] ⟨[(0,.im (.sc (.slice (some b) 0 m))),(2,.none0),(4,bV false)],[],0⟩ [] (by kernel_rfl) trivial ?_
   refine AWp.cond false rfl (fun h=>nomatch h) (fun _ => ?_)
   refine AWp.skip ?_
   refine AWp.unsplit 0 rfl ?_
   refine AWp.seq ?_
   refine reg hP hn hm [(0,.app 0 ([]:List (List Im))),(2,.app 1 (([]:List Z2).map Z0))] [2] [1] ⟨[(2,.own 1)],[(1,some (.row 2 78 (([]:List Z2).map Z0)))],0⟩ [([]:List (List Im))=[],([]:List Z2).map Z0=([]:List (List Im))++([]:List Z2).map Z0,∀ c∈([]:List Z2).map Z0,c.length=2,∀ c∈([]:List Z2).map Z0,Z12 (c.map .im)=true,(([]:List (List Im)).length+(([]:List Z2).map Z0).length)*16≤140737488355328] (by kernel_rfl) ⟨rfl,by simp,by exact Z13 _ _ _ (fun _=>rfl),by exact Z16 _ _ (fun _=>rfl),by simpa using c1,trivial⟩ ?_
   refine AWp.conv (inv:=[(1,0)]) (vk:=[]) (e0:=[]) (t:=⟨[(2,.own 0)],[(0,some (.row 2 78 (([]:List Z2).map Z0)))],0⟩) (by kernel_rfl) ?_
   refine AWp.ret ?_
   exact Exists.intro _ (And.intro (fun _ _ h=>h) (And.intro (.inl rfl) (And.intro rfl (And.intro (by kernel_rfl) (by kernel_rfl)))))
 | cons y l =>
  refine AWp.seq ?_
  refine reg hP hn hm [(1,.more xNil)] [0,2,4] [] ⟨[(0,.im (.row ((y::l).map Z0))),(2,.none0),(4,bV false)],[],0⟩ [] (by kernel_rfl) trivial ?_
  refine AWp.cond false rfl (fun h=>nomatch h) (fun _ => ?_)
  refine AWp.skip ?_
  refine AWp.seq ?_
  refine reg hP hn hm [(0,.app 0 ([]:List (List Im))),(2,.app 1 ((y::l).map Z0))] [2] [1] ⟨[(2,.own 1)],[(1,some (.row 2 78 ((y::l).map Z0)))],0⟩ [([]:List (List Im))=[],(y::l).map Z0=([]:List (List Im))++(y::l).map Z0,∀ c∈(y::l).map Z0,c.length=2,∀ c∈(y::l).map Z0,Z12 (c.map .im)=true,(([]:List (List Im)).length+((y::l).map Z0).length)*16≤140737488355328] (by kernel_rfl) ⟨rfl,by simp,by exact Z13 _ _ _ (fun _=>rfl),by exact Z16 _ _ (fun _=>rfl),by simpa using c1,trivial⟩ ?_
  refine AWp.conv (inv:=[(1,0)]) (vk:=[]) (e0:=[]) (t:=⟨[(2,.own 0)],[(0,some (.row 2 78 ((y::l).map Z0)))],0⟩) (by kernel_rfl) ?_
  refine AWp.ret ?_
  exact Exists.intro _ (And.intro (fun _ _ h=>h) (And.intro (.inl rfl) (And.intro rfl (And.intro (by kernel_rfl) (by kernel_rfl)))))
def Z0k.f (a0:Int):Option (Unit):=some ()
theorem Z0k.ok (a0:Int) (r:Unit) (H:Z0k.f a0=some r):Pv.Fn Try.prog 72 [iV .i64 a0] [] 0 (fun x o=>x=bV (a0 != a0)∧o=[]):=by
 unfold Z0k.f at H
 refine Fn.bodyK [] Try.func72 rfl rfl (fun Γ hP hn => ?_)
 have hm:Try.prog.follows .mixedOrders=true:=by kernel_rfl
 replace hn:Γ.n=6:=hn
 refine sO hP hn hm [] [] [0] [] [] ?_
 refine sO hP hn hm [] [(2,bV (a0 != a0))] [2] [] [] ?_
 refine AWp.conv (inv:=[]) (vk:=[]) (e0:=[]) (t:=⟨[(2,bV (a0 != a0))],[],0⟩) (by kernel_rfl) ?_
 refine AWp.ret ?_
 obtain rfl:=sj H
 exact rl (.inl rfl) rfl (by kernel_rfl) (by kernel_rfl)
def Z1r.f (a0:Int) (a1:Int):Option (Int):=(Z0k.f a0)>>=fun t541=>(Z0k.f a1)>>=fun t545=>if(a0 != a0)=true then(if(a1 != a1)=true then(some 0) else(some (-1))) else(if(a1 != a1)=true then(some 1) else(if(decide (a0<a1))=true then(some (-1)) else(if(decide (a0>a1))=true then(some 1) else(some 0))))
theorem Z1r.ok (a0:Int) (a1:Int) (r:Int) (H:Z1r.f a0 a1=some r):Pv.Fn Try.prog 76 [iV .i64 a0,iV .i64 a1] [] 0 (fun x o=>x=iV .i64 r∧o=[]):=by
 unfold Z1r.f at H
 refine Fn.bodyK [] Try.func76 rfl rfl (fun Γ hP hn => ?_)
 have hm:Try.prog.follows .mixedOrders=true:=by kernel_rfl
 replace hn:Γ.n=20:=hn
 refine sO hP hn hm [] [] [0,1] [] [] ?_
 obtain⟨t541,e542,H⟩:=Z4 H
 refine sR hP hn hm [(1,.call [] [] [] [] 0 (bV (a0 != a0)) [])] [(5,bV (a0 != a0))] [0,1,5] [] [] [_,_] ⟨Try.call72,Z0k.ok a0 t541 e542,trivial⟩ ?_
 obtain⟨t545,e546,H⟩:=Z4 H
 refine sR hP hn hm [(1,.call [] [] [] [] 0 (bV (a1 != a1)) [])] [(6,bV (a1 != a1))] [0,1,5,6] [] [] [_,_] ⟨Try.call72,Z0k.ok a1 t545 e546,trivial⟩ ?_
 refine AWp.seq ?_
 refine sO hP hn hm [] [(11,bV (a0 != a0))] [0,1,6,11] [] [] ?_
 refine AWp.cond (a0 != a0) (by kernel_rfl) (fun c547 => ?_) (fun c547 => ?_)
 ·replace H:=iT c547 H
  refine AWp.seq ?_
  refine sO hP hn hm [] [(12,bV (a1 != a1))] [12] [] [] ?_
  refine AWp.cond (a1 != a1) (by kernel_rfl) (fun c548 => ?_) (fun c548 => ?_)
  ·replace H:=iT c548 H
   refine sO hP hn hm [] [(4,iV .i64 0)] [4] [] [] ?_
   refine AWp.conv (inv:=[]) (vk:=[]) (e0:=[]) (t:=⟨[(4,iV .i64 0)],[],0⟩) (by kernel_rfl) ?_
   refine AWp.ret ?_
   obtain rfl:=sj H
   exact rl (.inl rfl) rfl (by kernel_rfl) (by kernel_rfl)
  ·replace H:=iF c548 H
   refine AWp.skip ?_
   refine sO hP hn hm [] [(4,iV .i64 (-1))] [4] [] [] ?_
   refine AWp.conv (inv:=[]) (vk:=[]) (e0:=[]) (t:=⟨[(4,iV .i64 (-1))],[],0⟩) (by kernel_rfl) ?_
   refine AWp.ret ?_
   obtain rfl:=sj H
   exact rl (.inl rfl) rfl (by kernel_rfl) (by kernel_rfl)
 ·replace H:=iF c547 H
  refine AWp.skip ?_
  refine AWp.seq ?_
  refine sO hP hn hm [] [(13,bV (a1 != a1))] [0,1,13] [] [] ?_
  refine AWp.cond (a1 != a1) (by kernel_rfl) (fun c549 => ?_) (fun c549 => ?_)
  ·replace H:=iT c549 H
   refine sO hP hn hm [] [(4,iV .i64 1)] [4] [] [] ?_
   refine AWp.conv (inv:=[]) (vk:=[]) (e0:=[]) (t:=⟨[(4,iV .i64 1)],[],0⟩) (by kernel_rfl) ?_
   refine AWp.ret ?_
   obtain rfl:=sj H
   exact rl (.inl rfl) rfl (by kernel_rfl) (by kernel_rfl)
  ·replace H:=iF c549 H
   refine AWp.skip ?_
   refine AWp.seq ?_
   refine sO hP hn hm [] [(16,bV (decide (a0<a1)))] [0,1,16] [] [] ?_
   refine AWp.cond (decide (a0<a1)) (by kernel_rfl) (fun c550 => ?_) (fun c550 => ?_)
   ·replace H:=iT c550 H
    refine sO hP hn hm [] [(4,iV .i64 (-1))] [4] [] [] ?_
    refine AWp.conv (inv:=[]) (vk:=[]) (e0:=[]) (t:=⟨[(4,iV .i64 (-1))],[],0⟩) (by kernel_rfl) ?_
    refine AWp.ret ?_
    obtain rfl:=sj H
    exact rl (.inl rfl) rfl (by kernel_rfl) (by kernel_rfl)
   ·replace H:=iF c550 H
    refine AWp.skip ?_
    refine AWp.seq ?_
    refine sO hP hn hm [] [(19,bV (decide (a0>a1)))] [19] [] [] ?_
    refine AWp.cond (decide (a0>a1)) (by kernel_rfl) (fun c551 => ?_) (fun c551 => ?_)
    ·replace H:=iT c551 H
     refine sO hP hn hm [] [(4,iV .i64 1)] [4] [] [] ?_
     refine AWp.conv (inv:=[]) (vk:=[]) (e0:=[]) (t:=⟨[(4,iV .i64 1)],[],0⟩) (by kernel_rfl) ?_
     refine AWp.ret ?_
     obtain rfl:=sj H
     exact rl (.inl rfl) rfl (by kernel_rfl) (by kernel_rfl)
    ·replace H:=iF c551 H
     refine AWp.skip ?_
     refine sO hP hn hm [] [(4,iV .i64 0)] [4] [] [] ?_
     refine AWp.conv (inv:=[]) (vk:=[]) (e0:=[]) (t:=⟨[(4,iV .i64 0)],[],0⟩) (by kernel_rfl) ?_
     refine AWp.ret ?_
     obtain rfl:=sj H
     exact rl (.inl rfl) rfl (by kernel_rfl) (by kernel_rfl)
def Z10.f (a0:Z2) (a1:Z2):Option (Int):=(Z1r.f a0.f0 a1.f0)>>=fun t554=>some t554
theorem Z10.ok (a0:Z2) (a1:Z2) (r:Int) (H:Z10.f a0 a1=some r):Pv.Fn Try.prog 75 [.agg (Z1v a0),.agg (Z1v a1)] [] 0 (fun x o=>x=iV .i64 r∧o=[]):=by
 unfold Z10.f at H
 refine Fn.bodyK [] Try.func75 rfl rfl (fun Γ hP hn => ?_)
 have hm:Try.prog.follows .mixedOrders=true:=by kernel_rfl
 replace hn:Γ.n=10:=hn
 refine sO hP hn hm [(0,.k 0),(1,.k 1)] [(2,.ptr 0 0 0),(3,.ptr 1 0 0)] [2,3] [(0,some (.box 78 (Z1v a0))),(1,some (.box 78 (Z1v a1)))] [0,1] ?_
 obtain⟨t554,e555,H⟩:=Z4 H
 refine sR hP hn hm [(4,.call [] [] [] [] 0 (iV .i64 t554) [])] [(4,iV .i64 t554)] [4] [] [] [_,_] ⟨Try.call76,Z1r.ok a0.f0 a1.f0 t554 e555,trivial⟩ ?_
 refine AWp.conv (inv:=[]) (vk:=[]) (e0:=[]) (t:=⟨[(4,iV .i64 t554)],[],0⟩) (by kernel_rfl) ?_
 refine AWp.ret ?_
 obtain rfl:=sj H
 exact rl (.inl rfl) rfl (by kernel_rfl) (by kernel_rfl)
def Z8.l1 (a1:Int) (a2:Int) (x629:Int) (x669:List Z2) (x670:Int):Option (List Z2):=((if(decide (x670>a1))=true then((at? x669 x670)>>=fun b681=>(at? x669 (i64.wrap (x670-(1:Int))))>>=fun b684=>(Z10.f b681 b684)>>=fun t687=>some (decide (t687<(0:Int)))) else(some false)):Option (Bool))>>=fun x689=>if x689=true then((at? x669 (i64.wrap (x670-(1:Int))))>>=fun b700=>(at? x669 x670)>>=fun b703=>(at? (x669.set (Int.toNat (x670)) b700) (i64.wrap (x670-(1:Int))))>>=fun b706=>Z8.l1 a1 a2 x629 ((x669.set (Int.toNat (x670)) b700).set (Int.toNat (i64.wrap (x670-(1:Int)))) b703) (i64.wrap (x670-(1:Int)))) else(some x669)
partial_fixpoint
def Z8.l0 (a1:Int) (a2:Int) (x628:List Z2) (x629:Int):Option (List Z2):=if(decide (x629<a2))=true then((Z8.l1 a1 a2 x629 x628 x629)>>=fun x709=>Z8.l0 a1 a2 x709 (i64.wrap (x629+(1:Int)))) else(some x628)
partial_fixpoint
def Z8.f (a0:List Z2) (a1:Int) (a2:Int):Option (List Z2):=(Z8.l0 a1 a2 a0 (i64.wrap (a1+(1:Int))))>>=fun x710=>some x710
theorem Z8.ok (a0:List Z2) (a1:Int) (a2:Int) (r:List Z2) (H:Z8.f a0 a1 a2=some r):Pv.Fn Try.prog 84 [.own 0,iV .i64 a1,iV .i64 a2,.im (.sc (.func (.func 75) #[] #[]))] [(0,some (.row 2 78 (a0.map Z0)))] 1 (fun x o=>x = .tup []∧o=[(0,some (.row 2 78 (r.map Z0)))]):=by
 unfold Z8.f at H
 refine Fn.bodyK [0] Try.func84 rfl rfl (fun Γ hP hn => ?_)
 have hm:Try.prog.follows .mixedOrders=true:=by kernel_rfl
 replace hn:Γ.n=53:=hn
 refine sO hP hn hm [] [(8,iV .i64 (i64.wrap (a1+(1:Int))))] [0,1,2,3,8] [] [0] ?_
 refine AWp.block ?_
 obtain⟨o711,e712,H⟩:=Z4 H
 refine AWp.loop (LWp.conv (inv:=[(0,0)]) (vk:=[]) (e0:=[]) (t:=⟨[(0,.own 0),(1,iV .i64 a1),(2,iV .i64 a2),(3,.im (.sc (.func (.func 75) #[] #[]))),(8,iV .i64 (i64.wrap (a1+(1:Int))))],[(0,some (.row 2 78 (a0.map Z0)))],1⟩) (by kernel_rfl) ?_)
 refine LWp.mono (Q:=fun e s=>(match (generalizing:=false) o711 with | x710=>e = .exit 0∧s=⟨[],[(0,some (.row 2 78 (x710.map Z0)))],1⟩)) (LWp.cv (Z07 (fun body hbody => ?_))) ?_
 ·refine                                                   Z8.l0.partial_correctness a1 a2 (motive:=fun x628 x629 o711=>LWp Γ body (fun e s=>∃ t,Cv Γ s t∧(match (generalizing:=false) o711 with | x710=>e = .exit 0∧t=⟨[],[(0,some (.row 2 78 (x710.map Z0     )))],1⟩)) ⟨[(0,.own 0),(1,iV .i64 a1),(2,iV .i64 a2),(3,.im (.sc (.func (.func 75) #[] #[]))),(8,iV .i64 x629)],[(0,some (.row 2 78 (x628.map Z0     )))],1⟩) ?_ _ _ _ e712
  clear H e712 o711;intro self ih x628 x629 o711 H
  subst hbody
  refine LWp.round ?_
  refine AWp.seq ?_
  refine sO hP hn hm [] [(14,bV (decide (x629<a2)))] [0,1,2,3,8,14] [] [0] ?_
  refine AWp.cond (decide (x629<a2)) (by kernel_rfl) (fun c630 => ?_) (fun c630 => ?_)
  ·replace H:=iT c630 H
   refine AWp.skip ?_
   refine AWp.seq ?_
   refine AWp.block ?_
   refine sO hP hn hm [] [(9,iV .i64 x629)] [0,1,2,3,8,9] [] [0] ?_
   refine AWp.block ?_
   obtain⟨o713,e714,H⟩:=Z4 H
   refine AWp.loop (LWp.conv (inv:=[(0,0)]) (vk:=[]) (e0:=[]) (t:=⟨[(0,.own 0),(1,iV .i64 a1),(2,iV .i64 a2),(3,.im (.sc (.func (.func 75) #[] #[]))),(8,iV .i64 x629),(9,iV .i64 x629)],[(0,some (.row 2 78 (x628.map Z0)))],1⟩) (by kernel_rfl) ?_)
   refine LWp.mono (Q:=fun e s=>(match (generalizing:=false) o713 with | x709=>e = .exit 2∧s=⟨[(0,.own 0),(1,iV .i64 a1),(2,iV .i64 a2),(3,.im (.sc (.func (.func 75) #[] #[]))),(8,iV .i64 x629)],[(0,some (.row 2 78 (x709.map Z0)))],1⟩)) (LWp.cv (Z07 (fun body hbody => ?_))) ?_
   ·refine                                                   Z8.l1.partial_correctness a1 a2 x629 (motive:=fun x669 x670 o713=>LWp Γ body (fun e s=>∃ t,Cv Γ s t∧(match (generalizing:=false) o713 with | x709=>e = .exit 2∧t=⟨[(0,.own 0),(1,iV .i64 a1),(2,iV .i64 a2),(3,.im (.sc (.func (.func 75) #[] #[]))),(8,iV .i64 x629)],[(0,some (.row 2 78 (x709.map Z0     )))],1⟩)) ⟨[(0,.own 0),(1,iV .i64 a1),(2,iV .i64 a2),(3,.im (.sc (.func (.func 75) #[] #[]))),(8,iV .i64 x629),(9,iV .i64 x670)],[(0,some (.row 2 78 (x669.map Z0     )))],1⟩) ?_ _ _ _ e714
    clear H e714 o713;intro self ih x669 x670 o713 H
    subst hbody
    refine LWp.round ?_
    refine AWp.seq ?_
    refine AWp.seq ?_
    obtain⟨o715,e716,H⟩:=Z4 H
    refine AWp.mono (Q:=fun e s=>(match (generalizing:=false) o715 with | x689=>e = .normal∧s=⟨[(0,.own 0),(1,iV .i64 a1),(2,iV .i64 a2),(3,.im (.sc (.func (.func 75) #[] #[]))),(8,iV .i64 x629),(9,iV .i64 x670),(34,bV x689)],[(0,some (.row 2 78 (x669.map Z0)))],1⟩)) (AWp.cv ?_) ?_
    ·replace H:=e716;clear e716
     rcases Bool.eq_false_or_eq_true (decide (x670>a1)) with c680 | c680
     ·replace H:=iT c680 H
      obtain⟨b681,p682,q683,H⟩:=Z0q H
      obtain⟨b684,p685,q686,H⟩:=Z0q H
      obtain⟨t687,e688,H⟩:=Z4 H
      refine rG hP hn hm [(3,.b true),(8,.c (Z0 b681)),(13,.c (Z0 b684)),(14,.call [] [] [] [] 0 (iV .i64 t687) [])] [(22,.im (.sc (.func (.func 75) #[] #[]))),(23,.own 0),(24,iV .i64 x670),(25,.ptr 0 (Int.toNat (x670)) 0),(26,.agg (Z1v b681)),(27,.own 0),(28,iV .i64 x670),(29,iV .i64 (i64.wrap (x670-(1:Int)))),(30,.ptr 0 (Int.toNat (i64.wrap (x670-(1:Int)))) 0),(31,.agg (Z1v b684)),(32,iV .i64 t687),(33,bV (decide (t687<(0:Int)))),(34,bV (decide (t687<(0:Int))))] [0,1,2,3,8,9,22,23,24,25,26,27,28,29,30,31,32,33,34] [] [0] [_,_,_,_,_,_,_,_,_] ⟨c680,p682,Z1m Z0 p682 q683,Zu Z0 q683,p685,Z1m Z0 p685 q686,Zu Z0 q686,Try.call75,Z10.ok b681 b684 t687 e688,trivial⟩ ?_
      obtain rfl:=sj H
      exact lf [(0,0)] [] [] (by kernel_rfl) ⟨rfl,rfl⟩
     ·replace H:=iF c680 H
      refine rG hP hn hm [(3,.b false)] [(34,bV false)] [0,1,2,3,8,9,34] [] [0] [_] ⟨c680,trivial⟩ ?_
      obtain rfl:=sj H
      exact lf [(0,0)] [] [] (by kernel_rfl) ⟨rfl,rfl⟩
    ·obtain⟨x689,rfl⟩:∃ z,z=o715:=⟨_,rfl⟩
     rintro e s ⟨rfl,rfl⟩
     refine AWp.cond x689 (by kernel_rfl) (fun c690 => ?_) (fun c690 => ?_)
     ·replace H:=iT c690 H
      refine AWp.skip ?_
      refine AWp.seq ?_
      refine AWp.block ?_
      obtain⟨b700,p701,q702,H⟩:=Z0q H
      obtain⟨b703,p704,q705,H⟩:=Z0q H
      obtain⟨b706,p707,q708,H⟩:=Z0q H
      refine rG hP hn hm [(9,.c (Z0 b700)),(13,.c (Z0 b703)),(15,.put (Z0 b703) ((x669.set (Int.toNat (x670)) b700).map Z0)),(17,.put (Z0 b706) (((x669.set (Int.toNat (x670)) b700).set (Int.toNat (i64.wrap (x670-(1:Int)))) b703).map Z0))] [] [0,1,2,3,8,9] [(0,some (.row 2 78 (((x669.set (Int.toNat (x670)) b700).set (Int.toNat (i64.wrap (x670-(1:Int)))) b703).map Z0)))] [0] [_,_,_,_,_,_,_,_,_,(x669.set (Int.toNat (x670)) b700).map Z0=(x669.map Z0).set (Int.toNat (x670)) (Z1u (Z0 b703) 0 [iI .i64 b700.f0,iI .u64 b700.f1]),_,_,_,((x669.set (Int.toNat (x670)) b700).set (Int.toNat (i64.wrap (x670-(1:Int)))) b703).map Z0=((x669.set (Int.toNat (x670)) b700).map Z0).set (Int.toNat (i64.wrap (x670-(1:Int)))) (Z1u (Z0 b706) 0 [iI .i64 b703.f0,iI .u64 b703.f1])] ⟨p701,Z1m Z0 p701 q702,Zu Z0 q702,p704,Z1m Z0 p704 q705,Zu Z0 q705,p704,Z1m Z0 p704 q705,Zu Z0 q705,by exact set1 _ _ _ _,p707,Z1m Z0 p707 q708,Zu Z0 q708,by exact set1 _ _ _ _,trivial⟩ ?_
      refine rO hP hn hm [] [(9,iV .i64 (i64.wrap (x670-(1:Int))))] [0,1,2,3,8,9] [] [0] ?_
      exact LWp.conv [(0,0)] [] [] (by kernel_rfl) (ih _ _ _ H)
     ·replace H:=iF c690 H
      refine AWp.exit ?_
      obtain rfl:=sj H
      exact lf [(0,0)] [] [] (by kernel_rfl) ⟨rfl,rfl⟩
   ·obtain⟨x709,rfl⟩:∃ z,z=o713:=⟨_,rfl⟩
    rintro e s ⟨rfl,rfl⟩
    refine rO hP hn hm [] [(8,iV .i64 (i64.wrap (x629+(1:Int))))] [0,1,2,3,8] [] [0] ?_
    exact LWp.conv [(0,0)] [] [] (by kernel_rfl) (ih _ _ _ H)
  ·replace H:=iF c630 H
   refine AWp.exit ?_
   obtain rfl:=sj H
   exact lf [(0,0)] [] [] (by kernel_rfl) ⟨rfl,rfl⟩
 ·obtain⟨x710,rfl⟩:∃ z,z=o711:=⟨_,rfl⟩
  rintro e s ⟨rfl,rfl⟩
  obtain rfl:=sj H
  exact Exists.intro ⟨[],[(0,some (.row 2 78 (x710.map Z0)))],1⟩ (And.intro (fun _ _ h=>h.conv (inv:=[(0,0)]) (vk:=[]) (e0:=[]) (t:=⟨[],[(0,some (.row 2 78 (x710.map Z0)))],1⟩) (by kernel_rfl)) (And.intro (.inr rfl) (And.intro rfl (And.intro (by kernel_rfl) (by kernel_rfl)))))
def Zd.l0 (a1:Int) (a2:Int) (a3:Int) (x978:List Z2) (x979:Int):Option (List Z2):=if(decide (x979<a3))=true then((at? x978 (i64.wrap (a2+x979)))>>=fun b990=>(at? x978 (i64.wrap (a1+x979)))>>=fun b993=>(at? (x978.set (Int.toNat (i64.wrap (a1+x979))) b990) (i64.wrap (a2+x979)))>>=fun b996=>Zd.l0 a1 a2 a3 ((x978.set (Int.toNat (i64.wrap (a1+x979))) b990).set (Int.toNat (i64.wrap (a2+x979))) b993) (i64.wrap (x979+(1:Int)))) else(some x978)
partial_fixpoint
def Zd.f (a0:List Z2) (a1:Int) (a2:Int) (a3:Int):Option (List Z2):=(Zd.l0 a1 a2 a3 a0 0)>>=fun x999=>some x999
theorem Zd.ok (a0:List Z2) (a1:Int) (a2:Int) (a3:Int) (r:List Z2) (H:Zd.f a0 a1 a2 a3=some r):Pv.Fn Try.prog 91 [.own 0,iV .i64 a1,iV .i64 a2,iV .i64 a3,.im (.sc (.func (.func 75) #[] #[]))] [(0,some (.row 2 78 (a0.map Z0)))] 1 (fun x o=>x = .tup []∧o=[(0,some (.row 2 78 (r.map Z0)))]):=by
 unfold Zd.f at H
 refine Fn.bodyK [0] Try.func91 rfl rfl (fun Γ hP hn => ?_)
 have hm:Try.prog.follows .mixedOrders=true:=by kernel_rfl
 replace hn:Γ.n=38:=hn
 refine sO hP hn hm [] [(10,iV .i64 0)] [0,1,2,3,10] [] [0] ?_
 refine AWp.block ?_
 obtain⟨o1000,e1001,H⟩:=Z4 H
 refine AWp.loop (LWp.conv (inv:=[(0,0)]) (vk:=[]) (e0:=[]) (t:=⟨[(0,.own 0),(1,iV .i64 a1),(2,iV .i64 a2),(3,iV .i64 a3),(10,iV .i64 0)],[(0,some (.row 2 78 (a0.map Z0)))],1⟩) (by kernel_rfl) ?_)
 refine LWp.mono (Q:=fun e s=>(match (generalizing:=false) o1000 with | x999=>e = .exit 0∧s=⟨[],[(0,some (.row 2 78 (x999.map Z0)))],1⟩)) (LWp.cv (Z07 (fun body hbody => ?_))) ?_
 ·refine                                               Zd.l0.partial_correctness a1 a2 a3 (motive:=fun x978 x979 o1000=>LWp Γ body (fun e s=>∃ t,Cv Γ s t∧(match (generalizing:=false) o1000 with | x999=>e = .exit 0∧t=⟨[],[(0,some (.row 2 78 (x999.map Z0     )))],1⟩)) ⟨[(0,.own 0),(1,iV .i64 a1),(2,iV .i64 a2),(3,iV .i64 a3),(10,iV .i64 x979)],[(0,some (.row 2 78 (x978.map Z0     )))],1⟩) ?_ _ _ _ e1001
  clear H e1001 o1000;intro self ih x978 x979 o1000 H
  subst hbody
  refine LWp.round ?_
  refine AWp.seq ?_
  refine sO hP hn hm [] [(13,bV (decide (x979<a3)))] [0,1,2,3,10,13] [] [0] ?_
  refine AWp.cond (decide (x979<a3)) (by kernel_rfl) (fun c980 => ?_) (fun c980 => ?_)
  ·replace H:=iT c980 H
   refine AWp.skip ?_
   refine AWp.seq ?_
   refine AWp.block ?_
   obtain⟨b990,p991,q992,H⟩:=Z0q H
   obtain⟨b993,p994,q995,H⟩:=Z0q H
   obtain⟨b996,p997,q998,H⟩:=Z0q H
   refine rG hP hn hm [(13,.c (Z0 b990)),(19,.c (Z0 b993)),(21,.put (Z0 b993) ((x978.set (Int.toNat (i64.wrap (a1+x979))) b990).map Z0)),(23,.put (Z0 b996) (((x978.set (Int.toNat (i64.wrap (a1+x979))) b990).set (Int.toNat (i64.wrap (a2+x979))) b993).map Z0))] [] [0,1,2,3,10] [(0,some (.row 2 78 (((x978.set (Int.toNat (i64.wrap (a1+x979))) b990).set (Int.toNat (i64.wrap (a2+x979))) b993).map Z0)))] [0] [_,_,_,_,_,_,_,_,_,(x978.set (Int.toNat (i64.wrap (a1+x979))) b990).map Z0=(x978.map Z0).set (Int.toNat (i64.wrap (a1+x979))) (Z1u (Z0 b993) 0 [iI .i64 b990.f0,iI .u64 b990.f1]),_,_,_,((x978.set (Int.toNat (i64.wrap (a1+x979))) b990).set (Int.toNat (i64.wrap (a2+x979))) b993).map Z0=((x978.set (Int.toNat (i64.wrap (a1+x979))) b990).map Z0).set (Int.toNat (i64.wrap (a2+x979))) (Z1u (Z0 b996) 0 [iI .i64 b993.f0,iI .u64 b993.f1])] ⟨p991,Z1m Z0 p991 q992,Zu Z0 q992,p994,Z1m Z0 p994 q995,Zu Z0 q995,p994,Z1m Z0 p994 q995,Zu Z0 q995,by exact set1 _ _ _ _,p997,Z1m Z0 p997 q998,Zu Z0 q998,by exact set1 _ _ _ _,trivial⟩ ?_
   refine rO hP hn hm [] [(10,iV .i64 (i64.wrap (x979+(1:Int))))] [0,1,2,3,10] [] [0] ?_
   exact LWp.conv [(0,0)] [] [] (by kernel_rfl) (ih _ _ _ H)
  ·replace H:=iF c980 H
   refine AWp.exit ?_
   obtain rfl:=sj H
   exact lf [(0,0)] [] [] (by kernel_rfl) ⟨rfl,rfl⟩
 ·obtain⟨x999,rfl⟩:∃ z,z=o1000:=⟨_,rfl⟩
  rintro e s ⟨rfl,rfl⟩
  obtain rfl:=sj H
  exact Exists.intro ⟨[],[(0,some (.row 2 78 (x999.map Z0)))],1⟩ (And.intro (fun _ _ h=>h.conv (inv:=[(0,0)]) (vk:=[]) (e0:=[]) (t:=⟨[],[(0,some (.row 2 78 (x999.map Z0)))],1⟩) (by kernel_rfl)) (And.intro (.inr rfl) (And.intro rfl (And.intro (by kernel_rfl) (by kernel_rfl)))))
def Zo.l0 (a2:Int) (x1013:List Z2) (x1014:Int) (x1015:Int):Option ((List Z2)×Int):=if(x1014 != x1015)=true then(((if(decide (x1014>x1015))=true then((Zd.f x1013 (i64.wrap (a2-x1014)) a2 x1015)>>=fun t1020=>some (t1020,i64.wrap (x1014-x1015),x1015)) else((Zd.f x1013 (i64.wrap (a2-x1014)) (i64.wrap ((i64.wrap (a2+x1015))-x1014)) x1014)>>=fun t1024=>some (t1024,x1014,i64.wrap (x1015-x1014)))):Option ((List Z2)×Int×Int))>>=fun oo=>match oo with | (x1026,x1027,x1028)=>(Zo.l0 a2 x1026 x1027 x1028)) else(some (x1013,x1014))
partial_fixpoint
def Zo.f (a0:List Z2) (a1:Int) (a2:Int) (a3:Int):Option (List Z2):=(Zo.l0 a2 a0 (i64.wrap (a2-a1)) (i64.wrap (a3-a2)))>>=fun oo=>match oo with | (x1029,x1030)=>((Zd.f x1029 (i64.wrap (a2-x1030)) a2 x1030)>>=fun t1033=>some t1033)
theorem Zo.ok (a0:List Z2) (a1:Int) (a2:Int) (a3:Int) (r:List Z2) (H:Zo.f a0 a1 a2 a3=some r):Pv.Fn Try.prog 89 [.own 0,iV .i64 a1,iV .i64 a2,iV .i64 a3,.im (.sc (.func (.func 75) #[] #[]))] [(0,some (.row 2 78 (a0.map Z0)))] 1 (fun x o=>x = .tup []∧o=[(0,some (.row 2 78 (r.map Z0)))]):=by
 unfold Zo.f at H
 refine Fn.bodyK [0] Try.func89 rfl rfl (fun Γ hP hn => ?_)
 have hm:Try.prog.follows .mixedOrders=true:=by kernel_rfl
 replace hn:Γ.n=58:=hn
 refine sO hP hn hm [] [(10,iV .i64 (i64.wrap (a2-a1)))] [0,2,3,4,10] [] [0] ?_
 refine sO hP hn hm [] [(11,iV .i64 (i64.wrap (a3-a2)))] [0,2,4,10,11] [] [0] ?_
 refine AWp.seq ?_
 refine AWp.block ?_
 obtain⟨o1035,e1036,H⟩:=Z4 H
 refine AWp.loop (LWp.conv (inv:=[(0,0)]) (vk:=[]) (e0:=[]) (t:=⟨[(0,.own 0),(2,iV .i64 a2),(4,.im (.sc (.func (.func 75) #[] #[]))),(10,iV .i64 (i64.wrap (a2-a1))),(11,iV .i64 (i64.wrap (a3-a2)))],[(0,some (.row 2 78 (a0.map Z0)))],1⟩) (by kernel_rfl) ?_)
 refine LWp.mono (Q:=fun e s=>(match (generalizing:=false) o1035 with | (x1029,x1030)=>e = .exit 0∧s=⟨[(0,.own 0),(2,iV .i64 a2),(4,.im (.sc (.func (.func 75) #[] #[]))),(10,iV .i64 x1030)],[(0,some (.row 2 78 (x1029.map Z0)))],1⟩)) (LWp.cv (Z07 (fun body hbody => ?_))) ?_
 ·refine                                            Zo.l0.partial_correctness a2 (motive:=fun x1013 x1014 x1015 o1035=>LWp Γ body (fun e s=>∃ t,Cv Γ s t∧(match (generalizing:=false) o1035 with | (x1029,x1030)=>e = .exit 0∧t=⟨[(0,.own 0),(2,iV .i64 a2),(4,.im (.sc (.func (.func 75) #[] #[]))),(10,iV .i64 x1030)],[(0,some (.row 2 78 (x1029.map Z0     )))],1⟩)) ⟨[(0,.own 0),(2,iV .i64 a2),(4,.im (.sc (.func (.func 75) #[] #[]))),(10,iV .i64 x1014),(11,iV .i64 x1015)],[(0,some (.row 2 78 (x1013.map Z0     )))],1⟩) ?_ _ _ _ _ e1036
  clear H e1036 o1035;intro self ih x1013 x1014 x1015 o1035 H
  subst hbody
  refine LWp.round ?_
  refine AWp.seq ?_
  refine sO hP hn hm [] [(20,bV (x1014 != x1015))] [0,2,4,10,11,20] [] [0] ?_
  refine AWp.cond (x1014 != x1015) (by kernel_rfl) (fun c1016 => ?_) (fun c1016 => ?_)
  ·replace H:=iT c1016 H
   refine AWp.skip ?_
   refine AWp.block ?_
   refine sO hP hn hm [] [(23,bV (decide (x1014>x1015)))] [0,2,4,10,11,23] [] [0] ?_
   obtain⟨o1037,e1038,H⟩:=Z4 H
   refine AWp.mono (Q:=fun e s=>(match (generalizing:=false) o1037 with | (x1026,x1027,x1028)=>e = .normal∧s=⟨[(0,.own 0),(2,iV .i64 a2),(4,.im (.sc (.func (.func 75) #[] #[]))),(10,iV .i64 x1027),(11,iV .i64 x1028)],[(0,some (.row 2 78 (x1026.map Z0)))],1⟩)) (AWp.cv ?_) ?_
   ·replace H:=e1038;clear e1038
    refine AWp.cond (decide (x1014>x1015)) (by kernel_rfl) (fun c1017 => ?_) (fun c1017 => ?_)
    ·replace H:=iT c1017 H
     obtain⟨t1020,e1021,H⟩:=Z4 H
     refine sR hP hn hm [(7,.call [(0,0)] [(0,0)] [] [] 1 (.tup []) [(0,some (.row 2 78 (t1020.map Z0)))])] [] [0,2,4,10,11] [(0,some (.row 2 78 (t1020.map Z0)))] [0] [_,_] ⟨Try.call91,Zd.ok x1013 (i64.wrap (a2-x1014)) a2 x1015 t1020 e1021,trivial⟩ ?_
     refine rO hP hn hm [] [(10,iV .i64 (i64.wrap (x1014-x1015)))] [0,2,4,10,11] [] [0] ?_
     obtain rfl:=sj H
     exact lf [(0,0)] [] [] (by kernel_rfl) ⟨rfl,rfl⟩
    ·replace H:=iF c1017 H
     obtain⟨t1024,e1025,H⟩:=Z4 H
     refine sR hP hn hm [(11,.call [(0,0)] [(0,0)] [] [] 1 (.tup []) [(0,some (.row 2 78 (t1024.map Z0)))])] [] [0,2,4,10,11] [(0,some (.row 2 78 (t1024.map Z0)))] [0] [_,_] ⟨Try.call91,Zd.ok x1013 (i64.wrap (a2-x1014)) (i64.wrap ((i64.wrap (a2+x1015))-x1014)) x1014 t1024 e1025,trivial⟩ ?_
     refine rO hP hn hm [] [(11,iV .i64 (i64.wrap (x1015-x1014)))] [0,2,4,10,11] [] [0] ?_
     obtain rfl:=sj H
     exact lf [(0,0)] [] [] (by kernel_rfl) ⟨rfl,rfl⟩
   ·obtain⟨x1026,x1027,x1028⟩:=o1037
    rintro e s ⟨rfl,rfl⟩
    exact LWp.conv [(0,0)] [] [] (by kernel_rfl) (ih _ _ _ _ H)
  ·replace H:=iF c1016 H
   refine AWp.exit ?_
   obtain rfl:=sj H
   exact lf [(0,0)] [] [] (by kernel_rfl) ⟨rfl,rfl⟩
 ·obtain⟨x1029,x1030⟩:=o1035
  rintro e s ⟨rfl,rfl⟩
  obtain⟨t1033,e1034,H⟩:=Z4 H
  refine rG hP hn hm [(7,.call [(0,0)] [(0,0)] [] [] 1 (.tup []) [(0,some (.row 2 78 (t1033.map Z0)))])] [] [] [(0,some (.row 2 78 (t1033.map Z0)))] [0] [_,_] ⟨Try.call91,Zd.ok x1029 (i64.wrap (a2-x1030)) a2 x1030 t1033 e1034,trivial⟩ ?_
  obtain rfl:=sj H
  exact Exists.intro ⟨[],[(0,some (.row 2 78 (t1033.map Z0)))],1⟩ (And.intro (fun _ _ h=>h.conv (inv:=[(0,0)]) (vk:=[]) (e0:=[]) (t:=⟨[],[(0,some (.row 2 78 (t1033.map Z0)))],1⟩) (by kernel_rfl)) (And.intro (.inr rfl) (And.intro rfl (And.intro (by kernel_rfl) (by kernel_rfl)))))
def Z5.l0 (a0:List Z2) (a1:Int) (x758:Int) (x759:Int):Option (Int):=if(decide (x758<x759))=true then((at? a0 (i64.wrap (Int.fdiv (u64.wrap (i64.wrap (x758+x759))) 2)))>>=fun b769=>(at? a0 a1)>>=fun b772=>(Z10.f b769 b772)>>=fun t775=>((if(decide (t775<(0:Int)))=true then(some (i64.wrap ((i64.wrap (Int.fdiv (u64.wrap (i64.wrap (x758+x759))) 2))+(1:Int)),x759)) else(some (x758,i64.wrap (Int.fdiv (u64.wrap (i64.wrap (x758+x759))) 2)))):Option (Int×Int))>>=fun oo=>match oo with | (x778,x779)=>(Z5.l0 a0 a1 x778 x779)) else(some x758)
partial_fixpoint
def Z5.l1 (x780:Int) (x800:List Z2) (x801:Int):Option (List Z2):=if(decide (x801<(i64.wrap (x780-(1:Int)))))=true then((at? x800 (i64.wrap (x801+(1:Int))))>>=fun b812=>(at? x800 x801)>>=fun b815=>(at? (x800.set (Int.toNat (x801)) b812) (i64.wrap (x801+(1:Int))))>>=fun b818=>Z5.l1 x780 ((x800.set (Int.toNat (x801)) b812).set (Int.toNat (i64.wrap (x801+(1:Int)))) b815) (i64.wrap (x801+(1:Int)))) else(some x800)
partial_fixpoint
def Z5.l2 (a0:List Z2) (a2:Int) (x843:Int) (x844:Int):Option (Int):=if(decide (x843<x844))=true then((at? a0 a2)>>=fun b854=>(at? a0 (i64.wrap (Int.fdiv (u64.wrap (i64.wrap (x843+x844))) 2)))>>=fun b857=>(Z10.f b854 b857)>>=fun t860=>((if(!(decide (t860<(0:Int))))=true then(some (i64.wrap ((i64.wrap (Int.fdiv (u64.wrap (i64.wrap (x843+x844))) 2))+(1:Int)),x844)) else(some (x843,i64.wrap (Int.fdiv (u64.wrap (i64.wrap (x843+x844))) 2)))):Option (Int×Int))>>=fun oo=>match oo with | (x863,x864)=>(Z5.l2 a0 a2 x863 x864)) else(some x843)
partial_fixpoint
def Z5.l3 (x865:Int) (x885:List Z2) (x886:Int):Option (List Z2):=if(decide (x886>x865))=true then((at? x885 (i64.wrap (x886-(1:Int))))>>=fun b897=>(at? x885 x886)>>=fun b900=>(at? (x885.set (Int.toNat (x886)) b897) (i64.wrap (x886-(1:Int))))>>=fun b903=>Z5.l3 x865 ((x885.set (Int.toNat (x886)) b897).set (Int.toNat (i64.wrap (x886-(1:Int)))) b900) (i64.wrap (x886-(1:Int)))) else(some x885)
partial_fixpoint
def Z5.l4 (a0:List Z2) (a1:Int) (a2:Int) (a3:Int) (x930:Int) (x931:Int):Option (Int):=if(decide (x930<x931))=true then((at? a0 (i64.wrap ((i64.wrap ((i64.wrap ((i64.wrap (Int.fdiv (u64.wrap (i64.wrap (a1+a3))) 2))+a2))-(1:Int)))-(i64.wrap (Int.fdiv (u64.wrap (i64.wrap (x930+x931))) 2)))))>>=fun b941=>(at? a0 (i64.wrap (Int.fdiv (u64.wrap (i64.wrap (x930+x931))) 2)))>>=fun b944=>(Z10.f b941 b944)>>=fun t947=>((if(!(decide (t947<(0:Int))))=true then(some (i64.wrap ((i64.wrap (Int.fdiv (u64.wrap (i64.wrap (x930+x931))) 2))+(1:Int)),x931)) else(some (x930,i64.wrap (Int.fdiv (u64.wrap (i64.wrap (x930+x931))) 2)))):Option (Int×Int))>>=fun oo=>match oo with | (x950,x951)=>(Z5.l4 a0 a1 a2 a3 x950 x951)) else(some x930)
partial_fixpoint
def Z5.f (a0:List Z2) (a1:Int) (a2:Int) (a3:Int):Option (List Z2):=if((i64.wrap (a2-a1))==(1:Int))=true then((Z5.l0 a0 a1 a2 a3)>>=fun x780=>(Z5.l1 x780 a0 a1)>>=fun x821=>some x821) else(if((i64.wrap (a3-a2))==(1:Int))=true then((Z5.l2 a0 a2 a1 a2)>>=fun x865=>(Z5.l3 x865 a0 a2)>>=fun x906=>some x906) else(((if(decide (a2>(i64.wrap (Int.fdiv (u64.wrap (i64.wrap (a1+a3))) 2))))=true then(some (i64.wrap ((i64.wrap ((i64.wrap (Int.fdiv (u64.wrap (i64.wrap (a1+a3))) 2))+a2))-a3),i64.wrap (Int.fdiv (u64.wrap (i64.wrap (a1+a3))) 2))) else(some (a1,a2))):Option (Int×Int))>>=fun oo=>match oo with | (x908,x909)=>((Z5.l4 a0 a1 a2 a3 x908 x909)>>=fun x952=>((if(decide (x952<a2))=true then(some (decide (a2<(i64.wrap ((i64.wrap ((i64.wrap (Int.fdiv (u64.wrap (i64.wrap (a1+a3))) 2))+a2))-x952))))) else(some false)):Option (Bool))>>=fun x955=>((if x955=true then((Zo.f a0 x952 a2 (i64.wrap ((i64.wrap ((i64.wrap (Int.fdiv (u64.wrap (i64.wrap (a1+a3))) 2))+a2))-x952)))>>=fun t1041=>some t1041) else(some a0)):Option (List Z2))>>=fun x1043=>((if(decide (a1<x952))=true then(some (decide (x952<(i64.wrap (Int.fdiv (u64.wrap (i64.wrap (a1+a3))) 2))))) else(some false)):Option (Bool))>>=fun x1046=>((if x1046=true then((Z5.f x1043 a1 x952 (i64.wrap (Int.fdiv (u64.wrap (i64.wrap (a1+a3))) 2)))>>=fun t1050=>some t1050) else(some x1043)):Option (List Z2))>>=fun x1052=>((if(decide ((i64.wrap (Int.fdiv (u64.wrap (i64.wrap (a1+a3))) 2))<(i64.wrap ((i64.wrap ((i64.wrap (Int.fdiv (u64.wrap (i64.wrap (a1+a3))) 2))+a2))-x952))))=true then(some (decide ((i64.wrap ((i64.wrap ((i64.wrap (Int.fdiv (u64.wrap (i64.wrap (a1+a3))) 2))+a2))-x952))<a3))) else(some false)):Option (Bool))>>=fun x1055=>((if x1055=true then((Z5.f x1052 (i64.wrap (Int.fdiv (u64.wrap (i64.wrap (a1+a3))) 2)) (i64.wrap ((i64.wrap ((i64.wrap (Int.fdiv (u64.wrap (i64.wrap (a1+a3))) 2))+a2))-x952)) a3)>>=fun t1059=>some t1059) else(some x1052)):Option (List Z2))>>=fun x1061=>some x1061)))
partial_fixpoint
theorem Z5.ok (a0:List Z2) (a1:Int) (a2:Int) (a3:Int) (r:List Z2) (H:Z5.f a0 a1 a2 a3=some r):Pv.Fn Try.prog 85 [.own 0,iV .i64 a1,iV .i64 a2,iV .i64 a3,.im (.sc (.func (.func 75) #[] #[]))] [(0,some (.row 2 78 (a0.map Z0)))] 1 (fun x o=>x = .tup []∧o=[(0,some (.row 2 78 (r.map Z0)))]):=by
 refine Z5.f.partial_correctness (motive:=fun a0 a1 a2 a3 r=>Pv.Fn Try.prog 85 [.own 0,iV .i64 a1,iV .i64 a2,iV .i64 a3,.im (.sc (.func (.func 75) #[] #[]))] [(0,some (.row 2 78 (a0.map Z0)))] 1 (fun x o=>x = .tup []∧o=[(0,some (.row 2 78 (r.map Z0)))])) ?_ a0 a1 a2 a3 r H
 clear H a0 a1 a2 a3 r;intro self ihF a0 a1 a2 a3 r H
 refine Fn.bodyK [0] Try.func85 rfl rfl (fun Γ hP hn => ?_)
 have hm:Try.prog.follows .mixedOrders=true:=by kernel_rfl
 replace hn:Γ.n=220:=hn
 refine AWp.seq ?_
 refine sO hP hn hm [] [(28,bV ((i64.wrap (a2-a1))==(1:Int)))] [0,1,2,3,4,28] [] [0] ?_
 refine AWp.cond ((i64.wrap (a2-a1))==(1:Int)) (by kernel_rfl) (fun c737 => ?_) (fun c737 => ?_)
 ·replace H:=iT c737 H
  refine sO hP hn hm [] [(10,iV .i64 a2)] [0,1,3,4,10] [] [0] ?_
  refine sO hP hn hm [] [(11,iV .i64 a3)] [0,1,4,10,11] [] [0] ?_
  refine AWp.seq ?_
  refine AWp.block ?_
  obtain⟨o1062,e1063,H⟩:=Z4 H
  refine AWp.loop (LWp.conv (inv:=[(0,0)]) (vk:=[]) (e0:=[]) (t:=⟨[(0,.own 0),(1,iV .i64 a1),(4,.im (.sc (.func (.func 75) #[] #[]))),(10,iV .i64 a2),(11,iV .i64 a3)],[(0,some (.row 2 78 (a0.map Z0)))],1⟩) (by kernel_rfl) ?_)
  refine LWp.mono (Q:=fun e s=>(match (generalizing:=false) o1062 with | x780=>e = .exit 0∧s=⟨[(0,.own 0),(1,iV .i64 a1),(10,iV .i64 x780)],[(0,some (.row 2 78 (a0.map Z0)))],1⟩)) (LWp.cv (Z07 (fun body hbody => ?_))) ?_
  ·refine                                              Z5.l0.partial_correctness a0 a1 (motive:=fun x758 x759 o1062=>LWp Γ body (fun e s=>∃ t,Cv Γ s t∧(match (generalizing:=false) o1062 with | x780=>e = .exit 0∧t=⟨[(0,.own 0),(1,iV .i64 a1),(10,iV .i64 x780)],[(0,some (.row 2 78 (a0.map Z0     )))],1⟩)) ⟨[(0,.own 0),(1,iV .i64 a1),(4,.im (.sc (.func (.func 75) #[] #[]))),(10,iV .i64 x758),(11,iV .i64 x759)],[(0,some (.row 2 78 (a0.map Z0     )))],1⟩) ?_ _ _ _ e1063
   clear H e1063 o1062;intro self ih x758 x759 o1062 H
   subst hbody
   refine LWp.round ?_
   refine AWp.seq ?_
   refine sO hP hn hm [] [(33,bV (decide (x758<x759)))] [0,1,4,10,11,33] [] [0] ?_
   refine AWp.cond (decide (x758<x759)) (by kernel_rfl) (fun c760 => ?_) (fun c760 => ?_)
   ·replace H:=iT c760 H
    refine AWp.skip ?_
    refine AWp.block ?_
    refine sR hP hn hm [] [(12,iV .i64 (i64.wrap (Int.fdiv (u64.wrap (i64.wrap (x758+x759))) 2)))] [0,1,4,10,11,12] [] [0] [(0:Int)≤1] ⟨by decide,trivial⟩ ?_
    obtain⟨b769,p770,q771,H⟩:=Z0q H
    obtain⟨b772,p773,q774,H⟩:=Z0q H
    obtain⟨t775,e776,H⟩:=Z4 H
    refine sR hP hn hm [(4,.c (Z0 b769)),(8,.c (Z0 b772)),(9,.call [] [] [] [] 0 (iV .i64 t775) [])] [(50,bV (decide (t775<(0:Int))))] [0,1,4,10,11,12,50] [] [0] [_,_,_,_,_,_,_,_] ⟨p770,Z1m Z0 p770 q771,Zu Z0 q771,p773,Z1m Z0 p773 q774,Zu Z0 q774,Try.call75,Z10.ok b769 b772 t775 e776,trivial⟩ ?_
    obtain⟨o1064,e1065,H⟩:=Z4 H
    refine AWp.mono (Q:=fun e s=>(match (generalizing:=false) o1064 with | (x778,x779)=>e = .normal∧s=⟨[(0,.own 0),(1,iV .i64 a1),(4,.im (.sc (.func (.func 75) #[] #[]))),(10,iV .i64 x778),(11,iV .i64 x779)],[(0,some (.row 2 78 (a0.map Z0)))],1⟩)) (AWp.cv ?_) ?_
    ·replace H:=e1065;clear e1065
     refine AWp.cond (decide (t775<(0:Int))) (by kernel_rfl) (fun c777 => ?_) (fun c777 => ?_)
     ·replace H:=iT c777 H
      refine rO hP hn hm [] [(10,iV .i64 (i64.wrap ((i64.wrap (Int.fdiv (u64.wrap (i64.wrap (x758+x759))) 2))+(1:Int))))] [0,1,4,10,11] [] [0] ?_
      obtain rfl:=sj H
      exact lf [(0,0)] [] [] (by kernel_rfl) ⟨rfl,rfl⟩
     ·replace H:=iF c777 H
      refine rO hP hn hm [] [(11,iV .i64 (i64.wrap (Int.fdiv (u64.wrap (i64.wrap (x758+x759))) 2)))] [0,1,4,10,11] [] [0] ?_
      obtain rfl:=sj H
      exact lf [(0,0)] [] [] (by kernel_rfl) ⟨rfl,rfl⟩
    ·obtain⟨x778,x779⟩:=o1064
     rintro e s ⟨rfl,rfl⟩
     exact LWp.conv [(0,0)] [] [] (by kernel_rfl) (ih _ _ _ H)
   ·replace H:=iF c760 H
    refine AWp.exit ?_
    obtain rfl:=sj H
    exact lf [(0,0)] [] [] (by kernel_rfl) ⟨rfl,rfl⟩
  ·obtain⟨x780,rfl⟩:∃ z,z=o1062:=⟨_,rfl⟩
   rintro e s ⟨rfl,rfl⟩
   refine AWp.seq ?_
   refine sO hP hn hm [] [(13,iV .i64 a1)] [0,10,13] [] [0] ?_
   refine AWp.block ?_
   obtain⟨o1066,e1067,H⟩:=Z4 H
   refine AWp.loop (LWp.conv (inv:=[(0,0)]) (vk:=[]) (e0:=[]) (t:=⟨[(0,.own 0),(10,iV .i64 x780),(13,iV .i64 a1)],[(0,some (.row 2 78 (a0.map Z0)))],1⟩) (by kernel_rfl) ?_)
   refine LWp.mono (Q:=fun e s=>(match (generalizing:=false) o1066 with | x821=>e = .exit 2∧s=⟨[],[(0,some (.row 2 78 (x821.map Z0)))],1⟩)) (LWp.cv (Z07 (fun body hbody => ?_))) ?_
   ·refine                                              Z5.l1.partial_correctness x780 (motive:=fun x800 x801 o1066=>LWp Γ body (fun e s=>∃ t,Cv Γ s t∧(match (generalizing:=false) o1066 with | x821=>e = .exit 2∧t=⟨[],[(0,some (.row 2 78 (x821.map Z0     )))],1⟩)) ⟨[(0,.own 0),(10,iV .i64 x780),(13,iV .i64 x801)],[(0,some (.row 2 78 (x800.map Z0     )))],1⟩) ?_ _ _ _ e1067
    clear H e1067 o1066;intro self ih x800 x801 o1066 H
    subst hbody
    refine LWp.round ?_
    refine AWp.seq ?_
    refine sO hP hn hm [] [(58,bV (decide (x801<(i64.wrap (x780-(1:Int))))))] [0,10,13,58] [] [0] ?_
    refine AWp.cond (decide (x801<(i64.wrap (x780-(1:Int))))) (by kernel_rfl) (fun c802 => ?_) (fun c802 => ?_)
    ·replace H:=iT c802 H
     refine AWp.skip ?_
     refine AWp.seq ?_
     refine AWp.block ?_
     obtain⟨b812,p813,q814,H⟩:=Z0q H
     obtain⟨b815,p816,q817,H⟩:=Z0q H
     obtain⟨b818,p819,q820,H⟩:=Z0q H
     refine rG hP hn hm [(9,.c (Z0 b812)),(13,.c (Z0 b815)),(15,.put (Z0 b815) ((x800.set (Int.toNat (x801)) b812).map Z0)),(17,.put (Z0 b818) (((x800.set (Int.toNat (x801)) b812).set (Int.toNat (i64.wrap (x801+(1:Int)))) b815).map Z0))] [] [0,10,13] [(0,some (.row 2 78 (((x800.set (Int.toNat (x801)) b812).set (Int.toNat (i64.wrap (x801+(1:Int)))) b815).map Z0)))] [0] [_,_,_,_,_,_,_,_,_,(x800.set (Int.toNat (x801)) b812).map Z0=(x800.map Z0).set (Int.toNat (x801)) (Z1u (Z0 b815) 0 [iI .i64 b812.f0,iI .u64 b812.f1]),_,_,_,((x800.set (Int.toNat (x801)) b812).set (Int.toNat (i64.wrap (x801+(1:Int)))) b815).map Z0=((x800.set (Int.toNat (x801)) b812).map Z0).set (Int.toNat (i64.wrap (x801+(1:Int)))) (Z1u (Z0 b818) 0 [iI .i64 b815.f0,iI .u64 b815.f1])] ⟨p813,Z1m Z0 p813 q814,Zu Z0 q814,p816,Z1m Z0 p816 q817,Zu Z0 q817,p816,Z1m Z0 p816 q817,Zu Z0 q817,by exact set1 _ _ _ _,p819,Z1m Z0 p819 q820,Zu Z0 q820,by exact set1 _ _ _ _,trivial⟩ ?_
     refine rO hP hn hm [] [(13,iV .i64 (i64.wrap (x801+(1:Int))))] [0,10,13] [] [0] ?_
     exact LWp.conv [(0,0)] [] [] (by kernel_rfl) (ih _ _ _ H)
    ·replace H:=iF c802 H
     refine AWp.exit ?_
     obtain rfl:=sj H
     exact lf [(0,0)] [] [] (by kernel_rfl) ⟨rfl,rfl⟩
   ·obtain⟨x821,rfl⟩:∃ z,z=o1066:=⟨_,rfl⟩
    rintro e s ⟨rfl,rfl⟩
    refine AWp.conv (inv:=[(0,0)]) (vk:=[]) (e0:=[]) (t:=⟨[],[(0,some (.row 2 78 (x821.map Z0)))],1⟩) (by kernel_rfl) ?_
    refine AWp.ret ?_
    obtain rfl:=sj H
    exact rl (.inl rfl) rfl (by kernel_rfl) (by kernel_rfl)
 ·replace H:=iF c737 H
  refine AWp.skip ?_
  refine AWp.seq ?_
  refine sO hP hn hm [] [(80,bV ((i64.wrap (a3-a2))==(1:Int)))] [0,1,2,3,4,80] [] [0] ?_
  refine AWp.cond ((i64.wrap (a3-a2))==(1:Int)) (by kernel_rfl) (fun c822 => ?_) (fun c822 => ?_)
  ·replace H:=iT c822 H
   refine sO hP hn hm [] [(14,iV .i64 a1)] [0,2,4,14] [] [0] ?_
   refine sO hP hn hm [] [(15,iV .i64 a2)] [0,2,4,14,15] [] [0] ?_
   refine AWp.seq ?_
   refine AWp.block ?_
   obtain⟨o1068,e1069,H⟩:=Z4 H
   refine AWp.loop (LWp.conv (inv:=[(0,0)]) (vk:=[]) (e0:=[]) (t:=⟨[(0,.own 0),(2,iV .i64 a2),(4,.im (.sc (.func (.func 75) #[] #[]))),(14,iV .i64 a1),(15,iV .i64 a2)],[(0,some (.row 2 78 (a0.map Z0)))],1⟩) (by kernel_rfl) ?_)
   refine LWp.mono (Q:=fun e s=>(match (generalizing:=false) o1068 with | x865=>e = .exit 4∧s=⟨[(0,.own 0),(2,iV .i64 a2),(14,iV .i64 x865)],[(0,some (.row 2 78 (a0.map Z0)))],1⟩)) (LWp.cv (Z07 (fun body hbody => ?_))) ?_
   ·refine                                              Z5.l2.partial_correctness a0 a2 (motive:=fun x843 x844 o1068=>LWp Γ body (fun e s=>∃ t,Cv Γ s t∧(match (generalizing:=false) o1068 with | x865=>e = .exit 4∧t=⟨[(0,.own 0),(2,iV .i64 a2),(14,iV .i64 x865)],[(0,some (.row 2 78 (a0.map Z0     )))],1⟩)) ⟨[(0,.own 0),(2,iV .i64 a2),(4,.im (.sc (.func (.func 75) #[] #[]))),(14,iV .i64 x843),(15,iV .i64 x844)],[(0,some (.row 2 78 (a0.map Z0     )))],1⟩) ?_ _ _ _ e1069
    clear H e1069 o1068;intro self ih x843 x844 o1068 H
    subst hbody
    refine LWp.round ?_
    refine AWp.seq ?_
    refine sO hP hn hm [] [(85,bV (decide (x843<x844)))] [0,2,4,14,15,85] [] [0] ?_
    refine AWp.cond (decide (x843<x844)) (by kernel_rfl) (fun c845 => ?_) (fun c845 => ?_)
    ·replace H:=iT c845 H
     refine AWp.skip ?_
     refine AWp.block ?_
     refine sR hP hn hm [] [(16,iV .i64 (i64.wrap (Int.fdiv (u64.wrap (i64.wrap (x843+x844))) 2)))] [0,2,4,14,15,16] [] [0] [(0:Int)≤1] ⟨by decide,trivial⟩ ?_
     obtain⟨b854,p855,q856,H⟩:=Z0q H
     obtain⟨b857,p858,q859,H⟩:=Z0q H
     obtain⟨t860,e861,H⟩:=Z4 H
     refine sR hP hn hm [(4,.c (Z0 b854)),(8,.c (Z0 b857)),(9,.call [] [] [] [] 0 (iV .i64 t860) [])] [(103,bV (!(decide (t860<(0:Int)))))] [0,2,4,14,15,16,103] [] [0] [_,_,_,_,_,_,_,_] ⟨p855,Z1m Z0 p855 q856,Zu Z0 q856,p858,Z1m Z0 p858 q859,Zu Z0 q859,Try.call75,Z10.ok b854 b857 t860 e861,trivial⟩ ?_
     obtain⟨o1070,e1071,H⟩:=Z4 H
     refine AWp.mono (Q:=fun e s=>(match (generalizing:=false) o1070 with | (x863,x864)=>e = .normal∧s=⟨[(0,.own 0),(2,iV .i64 a2),(4,.im (.sc (.func (.func 75) #[] #[]))),(14,iV .i64 x863),(15,iV .i64 x864)],[(0,some (.row 2 78 (a0.map Z0)))],1⟩)) (AWp.cv ?_) ?_
     ·replace H:=e1071;clear e1071
      refine AWp.cond (!(decide (t860<(0:Int)))) (by kernel_rfl) (fun c862 => ?_) (fun c862 => ?_)
      ·replace H:=iT c862 H
       refine rO hP hn hm [] [(14,iV .i64 (i64.wrap ((i64.wrap (Int.fdiv (u64.wrap (i64.wrap (x843+x844))) 2))+(1:Int))))] [0,2,4,14,15] [] [0] ?_
       obtain rfl:=sj H
       exact lf [(0,0)] [] [] (by kernel_rfl) ⟨rfl,rfl⟩
      ·replace H:=iF c862 H
       refine rO hP hn hm [] [(15,iV .i64 (i64.wrap (Int.fdiv (u64.wrap (i64.wrap (x843+x844))) 2)))] [0,2,4,14,15] [] [0] ?_
       obtain rfl:=sj H
       exact lf [(0,0)] [] [] (by kernel_rfl) ⟨rfl,rfl⟩
     ·obtain⟨x863,x864⟩:=o1070
      rintro e s ⟨rfl,rfl⟩
      exact LWp.conv [(0,0)] [] [] (by kernel_rfl) (ih _ _ _ H)
    ·replace H:=iF c845 H
     refine AWp.exit ?_
     obtain rfl:=sj H
     exact lf [(0,0)] [] [] (by kernel_rfl) ⟨rfl,rfl⟩
   ·obtain⟨x865,rfl⟩:∃ z,z=o1068:=⟨_,rfl⟩
    rintro e s ⟨rfl,rfl⟩
    refine AWp.seq ?_
    refine sO hP hn hm [] [(17,iV .i64 a2)] [0,14,17] [] [0] ?_
    refine AWp.block ?_
    obtain⟨o1072,e1073,H⟩:=Z4 H
    refine AWp.loop (LWp.conv (inv:=[(0,0)]) (vk:=[]) (e0:=[]) (t:=⟨[(0,.own 0),(14,iV .i64 x865),(17,iV .i64 a2)],[(0,some (.row 2 78 (a0.map Z0)))],1⟩) (by kernel_rfl) ?_)
    refine LWp.mono (Q:=fun e s=>(match (generalizing:=false) o1072 with | x906=>e = .exit 6∧s=⟨[],[(0,some (.row 2 78 (x906.map Z0)))],1⟩)) (LWp.cv (Z07 (fun body hbody => ?_))) ?_
    ·refine                                              Z5.l3.partial_correctness x865 (motive:=fun x885 x886 o1072=>LWp Γ body (fun e s=>∃ t,Cv Γ s t∧(match (generalizing:=false) o1072 with | x906=>e = .exit 6∧t=⟨[],[(0,some (.row 2 78 (x906.map Z0     )))],1⟩)) ⟨[(0,.own 0),(14,iV .i64 x865),(17,iV .i64 x886)],[(0,some (.row 2 78 (x885.map Z0     )))],1⟩) ?_ _ _ _ e1073
     clear H e1073 o1072;intro self ih x885 x886 o1072 H
     subst hbody
     refine LWp.round ?_
     refine AWp.seq ?_
     refine sO hP hn hm [] [(110,bV (decide (x886>x865)))] [0,14,17,110] [] [0] ?_
     refine AWp.cond (decide (x886>x865)) (by kernel_rfl) (fun c887 => ?_) (fun c887 => ?_)
     ·replace H:=iT c887 H
      refine AWp.skip ?_
      refine AWp.seq ?_
      refine AWp.block ?_
      obtain⟨b897,p898,q899,H⟩:=Z0q H
      obtain⟨b900,p901,q902,H⟩:=Z0q H
      obtain⟨b903,p904,q905,H⟩:=Z0q H
      refine rG hP hn hm [(9,.c (Z0 b897)),(13,.c (Z0 b900)),(15,.put (Z0 b900) ((x885.set (Int.toNat (x886)) b897).map Z0)),(17,.put (Z0 b903) (((x885.set (Int.toNat (x886)) b897).set (Int.toNat (i64.wrap (x886-(1:Int)))) b900).map Z0))] [] [0,14,17] [(0,some (.row 2 78 (((x885.set (Int.toNat (x886)) b897).set (Int.toNat (i64.wrap (x886-(1:Int)))) b900).map Z0)))] [0] [_,_,_,_,_,_,_,_,_,(x885.set (Int.toNat (x886)) b897).map Z0=(x885.map Z0).set (Int.toNat (x886)) (Z1u (Z0 b900) 0 [iI .i64 b897.f0,iI .u64 b897.f1]),_,_,_,((x885.set (Int.toNat (x886)) b897).set (Int.toNat (i64.wrap (x886-(1:Int)))) b900).map Z0=((x885.set (Int.toNat (x886)) b897).map Z0).set (Int.toNat (i64.wrap (x886-(1:Int)))) (Z1u (Z0 b903) 0 [iI .i64 b900.f0,iI .u64 b900.f1])] ⟨p898,Z1m Z0 p898 q899,Zu Z0 q899,p901,Z1m Z0 p901 q902,Zu Z0 q902,p901,Z1m Z0 p901 q902,Zu Z0 q902,by exact set1 _ _ _ _,p904,Z1m Z0 p904 q905,Zu Z0 q905,by exact set1 _ _ _ _,trivial⟩ ?_
      refine rO hP hn hm [] [(17,iV .i64 (i64.wrap (x886-(1:Int))))] [0,14,17] [] [0] ?_
      exact LWp.conv [(0,0)] [] [] (by kernel_rfl) (ih _ _ _ H)
     ·replace H:=iF c887 H
      refine AWp.exit ?_
      obtain rfl:=sj H
      exact lf [(0,0)] [] [] (by kernel_rfl) ⟨rfl,rfl⟩
    ·obtain⟨x906,rfl⟩:∃ z,z=o1072:=⟨_,rfl⟩
     rintro e s ⟨rfl,rfl⟩
     refine AWp.conv (inv:=[(0,0)]) (vk:=[]) (e0:=[]) (t:=⟨[],[(0,some (.row 2 78 (x906.map Z0)))],1⟩) (by kernel_rfl) ?_
     refine AWp.ret ?_
     obtain rfl:=sj H
     exact rl (.inl rfl) rfl (by kernel_rfl) (by kernel_rfl)
  ·replace H:=iF c822 H
   refine AWp.skip ?_
   refine sR hP hn hm [] [(18,iV .i64 (i64.wrap (Int.fdiv (u64.wrap (i64.wrap (a1+a3))) 2)))] [0,1,2,3,4,18] [] [0] [(0:Int)≤1] ⟨by decide,trivial⟩ ?_
   refine sO hP hn hm [] [(19,iV .i64 (i64.wrap ((i64.wrap (Int.fdiv (u64.wrap (i64.wrap (a1+a3))) 2))+a2)))] [0,1,2,3,4,18,19] [] [0] ?_
   refine sO hP hn hm [] [] [0,1,2,3,4,18,19] [] [0] ?_
   refine AWp.seq ?_
   refine sO hP hn hm [] [(140,bV (decide (a2>(i64.wrap (Int.fdiv (u64.wrap (i64.wrap (a1+a3))) 2)))))] [0,1,2,3,4,18,19,140] [] [0] ?_
   obtain⟨o1074,e1075,H⟩:=Z4 H
   refine AWp.mono (Q:=fun e s=>(match (generalizing:=false) o1074 with | (x908,x909)=>e = .normal∧s=⟨[(0,.own 0),(1,iV .i64 a1),(2,iV .i64 a2),(3,iV .i64 a3),(4,.im (.sc (.func (.func 75) #[] #[]))),(18,iV .i64 (i64.wrap (Int.fdiv (u64.wrap (i64.wrap (a1+a3))) 2))),(19,iV .i64 (i64.wrap ((i64.wrap (Int.fdiv (u64.wrap (i64.wrap (a1+a3))) 2))+a2))),(20,iV .i64 x908),(21,iV .i64 x909)],[(0,some (.row 2 78 (a0.map Z0)))],1⟩)) (AWp.cv ?_) ?_
   ·replace H:=e1075;clear e1075
    refine AWp.cond (decide (a2>(i64.wrap (Int.fdiv (u64.wrap (i64.wrap (a1+a3))) 2)))) (by kernel_rfl) (fun c907 => ?_) (fun c907 => ?_)
    ·replace H:=iT c907 H
     refine sO hP hn hm [] [(20,iV .i64 (i64.wrap ((i64.wrap ((i64.wrap (Int.fdiv (u64.wrap (i64.wrap (a1+a3))) 2))+a2))-a3)))] [0,1,2,3,4,18,19,20] [] [0] ?_
     refine rO hP hn hm [] [(21,iV .i64 (i64.wrap (Int.fdiv (u64.wrap (i64.wrap (a1+a3))) 2)))] [0,1,2,3,4,18,19,20,21] [] [0] ?_
     obtain rfl:=sj H
     exact lf [(0,0)] [] [] (by kernel_rfl) ⟨rfl,rfl⟩
    ·replace H:=iF c907 H
     refine sO hP hn hm [] [(20,iV .i64 a1)] [0,1,2,3,4,18,19,20] [] [0] ?_
     refine rO hP hn hm [] [(21,iV .i64 a2)] [0,1,2,3,4,18,19,20,21] [] [0] ?_
     obtain rfl:=sj H
     exact lf [(0,0)] [] [] (by kernel_rfl) ⟨rfl,rfl⟩
   ·obtain⟨x908,x909⟩:=o1074
    rintro e s ⟨rfl,rfl⟩
    refine sO hP hn hm [] [(22,iV .i64 (i64.wrap ((i64.wrap ((i64.wrap (Int.fdiv (u64.wrap (i64.wrap (a1+a3))) 2))+a2))-(1:Int))))] [0,1,2,3,4,18,19,20,21,22] [] [0] ?_
    refine AWp.seq ?_
    refine AWp.block ?_
    obtain⟨o1076,e1077,H⟩:=Z4 H
    refine AWp.loop (LWp.conv (inv:=[(0,0)]) (vk:=[]) (e0:=[]) (t:=⟨[(0,.own 0),(1,iV .i64 a1),(2,iV .i64 a2),(3,iV .i64 a3),(4,.im (.sc (.func (.func 75) #[] #[]))),(18,iV .i64 (i64.wrap (Int.fdiv (u64.wrap (i64.wrap (a1+a3))) 2))),(19,iV .i64 (i64.wrap ((i64.wrap (Int.fdiv (u64.wrap (i64.wrap (a1+a3))) 2))+a2))),(20,iV .i64 x908),(21,iV .i64 x909),(22,iV .i64 (i64.wrap ((i64.wrap ((i64.wrap (Int.fdiv (u64.wrap (i64.wrap (a1+a3))) 2))+a2))-(1:Int))))],[(0,some (.row 2 78 (a0.map Z0)))],1⟩) (by kernel_rfl) ?_)
    refine LWp.mono (Q:=fun e s=>(match (generalizing:=false) o1076 with | x952=>e = .exit 8∧s=⟨[(0,.own 0),(1,iV .i64 a1),(2,iV .i64 a2),(3,iV .i64 a3),(4,.im (.sc (.func (.func 75) #[] #[]))),(18,iV .i64 (i64.wrap (Int.fdiv (u64.wrap (i64.wrap (a1+a3))) 2))),(19,iV .i64 (i64.wrap ((i64.wrap (Int.fdiv (u64.wrap (i64.wrap (a1+a3))) 2))+a2))),(20,iV .i64 x952)],[(0,some (.row 2 78 (a0.map Z0)))],1⟩)) (LWp.cv (Z07 (fun body hbody => ?_))) ?_
    ·refine                                              Z5.l4.partial_correctness a0 a1 a2 a3 (motive:=fun x930 x931 o1076=>LWp Γ body (fun e s=>∃ t,Cv Γ s t∧(match (generalizing:=false) o1076 with | x952=>e = .exit 8∧t=⟨[(0,.own 0),(1,iV .i64 a1),(2,iV .i64 a2),(3,iV .i64 a3),(4,.im (.sc (.func (.func 75) #[] #[]))),(18,iV .i64 (i64.wrap (Int.fdiv (u64.wrap (i64.wrap (a1+a3))) 2))),(19,iV .i64 (i64.wrap ((i64.wrap (Int.fdiv (u64.wrap (i64.wrap (a1+a3))) 2))+a2))),(20,iV .i64 x952)],[(0,some (.row 2 78 (a0.map Z0     )))],1⟩)) ⟨[(0,.own 0),(1,iV .i64 a1),(2,iV .i64 a2),(3,iV .i64 a3),(4,.im (.sc (.func (.func 75) #[] #[]))),(18,iV .i64 (i64.wrap (Int.fdiv (u64.wrap (i64.wrap (a1+a3))) 2))),(19,iV .i64 (i64.wrap ((i64.wrap (Int.fdiv (u64.wrap (i64.wrap (a1+a3))) 2))+a2))),(20,iV .i64 x930),(21,iV .i64 x931),(22,iV .i64 (i64.wrap ((i64.wrap ((i64.wrap (Int.fdiv (u64.wrap (i64.wrap (a1+a3))) 2))+a2))-(1:Int))))],[(0,some (.row 2 78 (a0.map Z0     )))],1⟩) ?_ _ _ _ e1077
     clear H e1077 o1076;intro self ih x930 x931 o1076 H
     subst hbody
     refine LWp.round ?_
     refine AWp.seq ?_
     refine sO hP hn hm [] [(151,bV (decide (x930<x931)))] [0,1,2,3,4,18,19,20,21,22,151] [] [0] ?_
     refine AWp.cond (decide (x930<x931)) (by kernel_rfl) (fun c932 => ?_) (fun c932 => ?_)
     ·replace H:=iT c932 H
      refine AWp.skip ?_
      refine AWp.block ?_
      refine sR hP hn hm [] [(23,iV .i64 (i64.wrap (Int.fdiv (u64.wrap (i64.wrap (x930+x931))) 2)))] [0,1,2,3,4,18,19,20,21,22,23] [] [0] [(0:Int)≤1] ⟨by decide,trivial⟩ ?_
      obtain⟨b941,p942,q943,H⟩:=Z0q H
      obtain⟨b944,p945,q946,H⟩:=Z0q H
      obtain⟨t947,e948,H⟩:=Z4 H
      refine sR hP hn hm [(6,.c (Z0 b941)),(10,.c (Z0 b944)),(11,.call [] [] [] [] 0 (iV .i64 t947) [])] [(171,bV (!(decide (t947<(0:Int)))))] [0,1,2,3,4,18,19,20,21,22,23,171] [] [0] [_,_,_,_,_,_,_,_] ⟨p942,Z1m Z0 p942 q943,Zu Z0 q943,p945,Z1m Z0 p945 q946,Zu Z0 q946,Try.call75,Z10.ok b941 b944 t947 e948,trivial⟩ ?_
      obtain⟨o1078,e1079,H⟩:=Z4 H
      refine AWp.mono (Q:=fun e s=>(match (generalizing:=false) o1078 with | (x950,x951)=>e = .normal∧s=⟨[(0,.own 0),(1,iV .i64 a1),(2,iV .i64 a2),(3,iV .i64 a3),(4,.im (.sc (.func (.func 75) #[] #[]))),(18,iV .i64 (i64.wrap (Int.fdiv (u64.wrap (i64.wrap (a1+a3))) 2))),(19,iV .i64 (i64.wrap ((i64.wrap (Int.fdiv (u64.wrap (i64.wrap (a1+a3))) 2))+a2))),(20,iV .i64 x950),(21,iV .i64 x951),(22,iV .i64 (i64.wrap ((i64.wrap ((i64.wrap (Int.fdiv (u64.wrap (i64.wrap (a1+a3))) 2))+a2))-(1:Int))))],[(0,some (.row 2 78 (a0.map Z0)))],1⟩)) (AWp.cv ?_) ?_
      ·replace H:=e1079;clear e1079
       refine AWp.cond (!(decide (t947<(0:Int)))) (by kernel_rfl) (fun c949 => ?_) (fun c949 => ?_)
       ·replace H:=iT c949 H
        refine rO hP hn hm [] [(20,iV .i64 (i64.wrap ((i64.wrap (Int.fdiv (u64.wrap (i64.wrap (x930+x931))) 2))+(1:Int))))] [0,1,2,3,4,18,19,20,21,22] [] [0] ?_
        obtain rfl:=sj H
        exact lf [(0,0)] [] [] (by kernel_rfl) ⟨rfl,rfl⟩
       ·replace H:=iF c949 H
        refine rO hP hn hm [] [(21,iV .i64 (i64.wrap (Int.fdiv (u64.wrap (i64.wrap (x930+x931))) 2)))] [0,1,2,3,4,18,19,20,21,22] [] [0] ?_
        obtain rfl:=sj H
        exact lf [(0,0)] [] [] (by kernel_rfl) ⟨rfl,rfl⟩
      ·obtain⟨x950,x951⟩:=o1078
       rintro e s ⟨rfl,rfl⟩
       exact LWp.conv [(0,0)] [] [] (by kernel_rfl) (ih _ _ _ H)
     ·replace H:=iF c932 H
      refine AWp.exit ?_
      obtain rfl:=sj H
      exact lf [(0,0)] [] [] (by kernel_rfl) ⟨rfl,rfl⟩
    ·obtain⟨x952,rfl⟩:∃ z,z=o1076:=⟨_,rfl⟩
     rintro e s ⟨rfl,rfl⟩
     refine sO hP hn hm [] [(24,iV .i64 (i64.wrap ((i64.wrap ((i64.wrap (Int.fdiv (u64.wrap (i64.wrap (a1+a3))) 2))+a2))-x952)))] [0,1,2,3,4,18,20,24] [] [0] ?_
     refine AWp.seq ?_
     refine AWp.seq ?_
     obtain⟨o1080,e1081,H⟩:=Z4 H
     refine AWp.mono (Q:=fun e s=>(match (generalizing:=false) o1080 with | x955=>e = .normal∧s=⟨[(0,.own 0),(1,iV .i64 a1),(2,iV .i64 a2),(3,iV .i64 a3),(4,.im (.sc (.func (.func 75) #[] #[]))),(18,iV .i64 (i64.wrap (Int.fdiv (u64.wrap (i64.wrap (a1+a3))) 2))),(20,iV .i64 x952),(24,iV .i64 (i64.wrap ((i64.wrap ((i64.wrap (Int.fdiv (u64.wrap (i64.wrap (a1+a3))) 2))+a2))-x952))),(185,bV x955)],[(0,some (.row 2 78 (a0.map Z0)))],1⟩)) (AWp.cv ?_) ?_
     ·replace H:=e1081;clear e1081
      rcases Bool.eq_false_or_eq_true (decide (x952<a2)) with c954 | c954
      ·replace H:=iT c954 H
       refine rG hP hn hm [(3,.b true)] [(185,bV (decide (a2<(i64.wrap ((i64.wrap ((i64.wrap (Int.fdiv (u64.wrap (i64.wrap (a1+a3))) 2))+a2))-x952)))))] [0,1,2,3,4,18,20,24,185] [] [0] [_] ⟨c954,trivial⟩ ?_
       obtain rfl:=sj H
       exact lf [(0,0)] [] [] (by kernel_rfl) ⟨rfl,rfl⟩
      ·replace H:=iF c954 H
       refine rG hP hn hm [(3,.b false)] [(185,bV false)] [0,1,2,3,4,18,20,24,185] [] [0] [_] ⟨c954,trivial⟩ ?_
       obtain rfl:=sj H
       exact lf [(0,0)] [] [] (by kernel_rfl) ⟨rfl,rfl⟩
     ·obtain⟨x955,rfl⟩:∃ z,z=o1080:=⟨_,rfl⟩
      rintro e s ⟨rfl,rfl⟩
      obtain⟨o1082,e1083,H⟩:=Z4 H
      refine AWp.mono (Q:=fun e s=>(match (generalizing:=false) o1082 with | x1043=>e = .normal∧s=⟨[(0,.own 0),(1,iV .i64 a1),(3,iV .i64 a3),(4,.im (.sc (.func (.func 75) #[] #[]))),(18,iV .i64 (i64.wrap (Int.fdiv (u64.wrap (i64.wrap (a1+a3))) 2))),(20,iV .i64 x952),(24,iV .i64 (i64.wrap ((i64.wrap ((i64.wrap (Int.fdiv (u64.wrap (i64.wrap (a1+a3))) 2))+a2))-x952)))],[(0,some (.row 2 78 (x1043.map Z0)))],1⟩)) (AWp.cv ?_) ?_
      ·replace H:=e1083;clear e1083
       refine AWp.cond x955 (by kernel_rfl) (fun c956 => ?_) (fun c956 => ?_)
       ·replace H:=iT c956 H
        obtain⟨t1041,e1042,H⟩:=Z4 H
        refine rG hP hn hm [(5,.call [(0,0)] [(0,0)] [] [] 1 (.tup []) [(0,some (.row 2 78 (t1041.map Z0)))])] [] [0,1,3,4,18,20,24] [(0,some (.row 2 78 (t1041.map Z0)))] [0] [_,_] ⟨Try.call89,Zo.ok a0 x952 a2 (i64.wrap ((i64.wrap ((i64.wrap (Int.fdiv (u64.wrap (i64.wrap (a1+a3))) 2))+a2))-x952)) t1041 e1042,trivial⟩ ?_
        obtain rfl:=sj H
        exact lf [(0,0)] [] [] (by kernel_rfl) ⟨rfl,rfl⟩
       ·replace H:=iF c956 H
        refine AWp.skip ?_
        obtain rfl:=sj H
        exact lf [(0,0)] [] [] (by kernel_rfl) ⟨rfl,rfl⟩
      ·obtain⟨x1043,rfl⟩:∃ z,z=o1082:=⟨_,rfl⟩
       rintro e s ⟨rfl,rfl⟩
       refine AWp.seq ?_
       refine AWp.seq ?_
       obtain⟨o1084,e1085,H⟩:=Z4 H
       refine AWp.mono (Q:=fun e s=>(match (generalizing:=false) o1084 with | x1046=>e = .normal∧s=⟨[(0,.own 0),(1,iV .i64 a1),(3,iV .i64 a3),(4,.im (.sc (.func (.func 75) #[] #[]))),(18,iV .i64 (i64.wrap (Int.fdiv (u64.wrap (i64.wrap (a1+a3))) 2))),(20,iV .i64 x952),(24,iV .i64 (i64.wrap ((i64.wrap ((i64.wrap (Int.fdiv (u64.wrap (i64.wrap (a1+a3))) 2))+a2))-x952))),(199,bV x1046)],[(0,some (.row 2 78 (x1043.map Z0)))],1⟩)) (AWp.cv ?_) ?_
       ·replace H:=e1085;clear e1085
        rcases Bool.eq_false_or_eq_true (decide (a1<x952)) with c1045 | c1045
        ·replace H:=iT c1045 H
         refine rG hP hn hm [(3,.b true)] [(199,bV (decide (x952<(i64.wrap (Int.fdiv (u64.wrap (i64.wrap (a1+a3))) 2)))))] [0,1,3,4,18,20,24,199] [] [0] [_] ⟨c1045,trivial⟩ ?_
         obtain rfl:=sj H
         exact lf [(0,0)] [] [] (by kernel_rfl) ⟨rfl,rfl⟩
        ·replace H:=iF c1045 H
         refine rG hP hn hm [(3,.b false)] [(199,bV false)] [0,1,3,4,18,20,24,199] [] [0] [_] ⟨c1045,trivial⟩ ?_
         obtain rfl:=sj H
         exact lf [(0,0)] [] [] (by kernel_rfl) ⟨rfl,rfl⟩
       ·obtain⟨x1046,rfl⟩:∃ z,z=o1084:=⟨_,rfl⟩
        rintro e s ⟨rfl,rfl⟩
        obtain⟨o1086,e1087,H⟩:=Z4 H
        refine AWp.mono (Q:=fun e s=>(match (generalizing:=false) o1086 with | x1052=>e = .normal∧s=⟨[(0,.own 0),(3,iV .i64 a3),(4,.im (.sc (.func (.func 75) #[] #[]))),(18,iV .i64 (i64.wrap (Int.fdiv (u64.wrap (i64.wrap (a1+a3))) 2))),(24,iV .i64 (i64.wrap ((i64.wrap ((i64.wrap (Int.fdiv (u64.wrap (i64.wrap (a1+a3))) 2))+a2))-x952)))],[(0,some (.row 2 78 (x1052.map Z0)))],1⟩)) (AWp.cv ?_) ?_
        ·replace H:=e1087;clear e1087
         refine AWp.cond x1046 (by kernel_rfl) (fun c1047 => ?_) (fun c1047 => ?_)
         ·replace H:=iT c1047 H
          obtain⟨t1050,e1051,H⟩:=Z4 H
          refine rG hP hn hm [(5,.call [(0,0)] [(0,0)] [] [] 1 (.tup []) [(0,some (.row 2 78 (t1050.map Z0)))])] [] [0,3,4,18,24] [(0,some (.row 2 78 (t1050.map Z0)))] [0] [_,Pv.Fn Try.prog 85 [.own 0,iV .i64 a1,iV .i64 x952,iV .i64 (i64.wrap (Int.fdiv (u64.wrap (i64.wrap (a1+a3))) 2)),.im (.sc (.func (.func 75) #[] #[]))] [(0,some (.row 2 78 (x1043.map Z0)))] 1 (fun r o=>r = .tup []∧o=[(0,some (.row 2 78 (t1050.map Z0)))])] ⟨Try.call85,by exact ihF x1043 a1 x952 (i64.wrap (Int.fdiv (u64.wrap (i64.wrap (a1+a3))) 2)) _ e1051,trivial⟩ ?_
          obtain rfl:=sj H
          exact lf [(0,0)] [] [] (by kernel_rfl) ⟨rfl,rfl⟩
         ·replace H:=iF c1047 H
          refine AWp.skip ?_
          obtain rfl:=sj H
          exact lf [(0,0)] [] [] (by kernel_rfl) ⟨rfl,rfl⟩
        ·obtain⟨x1052,rfl⟩:∃ z,z=o1086:=⟨_,rfl⟩
         rintro e s ⟨rfl,rfl⟩
         refine AWp.seq ?_
         obtain⟨o1088,e1089,H⟩:=Z4 H
         refine AWp.mono (Q:=fun e s=>(match (generalizing:=false) o1088 with | x1055=>e = .normal∧s=⟨[(0,.own 0),(3,iV .i64 a3),(4,.im (.sc (.func (.func 75) #[] #[]))),(18,iV .i64 (i64.wrap (Int.fdiv (u64.wrap (i64.wrap (a1+a3))) 2))),(24,iV .i64 (i64.wrap ((i64.wrap ((i64.wrap (Int.fdiv (u64.wrap (i64.wrap (a1+a3))) 2))+a2))-x952))),(213,bV x1055)],[(0,some (.row 2 78 (x1052.map Z0)))],1⟩)) (AWp.cv ?_) ?_
         ·replace H:=e1089;clear e1089
          rcases Bool.eq_false_or_eq_true (decide ((i64.wrap (Int.fdiv (u64.wrap (i64.wrap (a1+a3))) 2))<(i64.wrap ((i64.wrap ((i64.wrap (Int.fdiv (u64.wrap (i64.wrap (a1+a3))) 2))+a2))-x952)))) with c1054 | c1054
          ·replace H:=iT c1054 H
           refine rG hP hn hm [(3,.b true)] [(213,bV (decide ((i64.wrap ((i64.wrap ((i64.wrap (Int.fdiv (u64.wrap (i64.wrap (a1+a3))) 2))+a2))-x952))<a3)))] [0,3,4,18,24,213] [] [0] [_] ⟨c1054,trivial⟩ ?_
           obtain rfl:=sj H
           exact lf [(0,0)] [] [] (by kernel_rfl) ⟨rfl,rfl⟩
          ·replace H:=iF c1054 H
           refine rG hP hn hm [(3,.b false)] [(213,bV false)] [0,3,4,18,24,213] [] [0] [_] ⟨c1054,trivial⟩ ?_
           obtain rfl:=sj H
           exact lf [(0,0)] [] [] (by kernel_rfl) ⟨rfl,rfl⟩
         ·obtain⟨x1055,rfl⟩:∃ z,z=o1088:=⟨_,rfl⟩
          rintro e s ⟨rfl,rfl⟩
          obtain⟨o1090,e1091,H⟩:=Z4 H
          refine AWp.mono (Q:=fun e s=>(match (generalizing:=false) o1090 with | x1061=>e = .normal∧s=⟨[],[(0,some (.row 2 78 (x1061.map Z0)))],1⟩)) (AWp.cv ?_) ?_
          ·replace H:=e1091;clear e1091
           refine AWp.cond x1055 (by kernel_rfl) (fun c1056 => ?_) (fun c1056 => ?_)
           ·replace H:=iT c1056 H
            obtain⟨t1059,e1060,H⟩:=Z4 H
            refine rG hP hn hm [(5,.call [(0,0)] [(0,0)] [] [] 1 (.tup []) [(0,some (.row 2 78 (t1059.map Z0)))])] [] [] [(0,some (.row 2 78 (t1059.map Z0)))] [0] [_,Pv.Fn Try.prog 85 [.own 0,iV .i64 (i64.wrap (Int.fdiv (u64.wrap (i64.wrap (a1+a3))) 2)),iV .i64 (i64.wrap ((i64.wrap ((i64.wrap (Int.fdiv (u64.wrap (i64.wrap (a1+a3))) 2))+a2))-x952)),iV .i64 a3,.im (.sc (.func (.func 75) #[] #[]))] [(0,some (.row 2 78 (x1052.map Z0)))] 1 (fun r o=>r = .tup []∧o=[(0,some (.row 2 78 (t1059.map Z0)))])] ⟨Try.call85,by exact ihF x1052 (i64.wrap (Int.fdiv (u64.wrap (i64.wrap (a1+a3))) 2)) (i64.wrap ((i64.wrap ((i64.wrap (Int.fdiv (u64.wrap (i64.wrap (a1+a3))) 2))+a2))-x952)) a3 _ e1060,trivial⟩ ?_
            obtain rfl:=sj H
            exact lf [(0,0)] [] [] (by kernel_rfl) ⟨rfl,rfl⟩
           ·replace H:=iF c1056 H
            refine AWp.skip ?_
            obtain rfl:=sj H
            exact lf [(0,0)] [] [] (by kernel_rfl) ⟨rfl,rfl⟩
          ·obtain⟨x1061,rfl⟩:∃ z,z=o1090:=⟨_,rfl⟩
           rintro e s ⟨rfl,rfl⟩
           obtain rfl:=sj H
           exact Exists.intro ⟨[],[(0,some (.row 2 78 (x1061.map Z0)))],1⟩ (And.intro (fun _ _ h=>h.conv (inv:=[(0,0)]) (vk:=[]) (e0:=[]) (t:=⟨[],[(0,some (.row 2 78 (x1061.map Z0)))],1⟩) (by kernel_rfl)) (And.intro (.inr rfl) (And.intro rfl (And.intro (by kernel_rfl) (by kernel_rfl)))))
def Z9.l0 (a1:Int) (x721:List Z2) (x722:Int) (x723:Int):Option ((List Z2)×Int):=if(decide (x723≤a1))=true then((Z8.f x721 x722 x723)>>=fun t727=>Z9.l0 a1 t727 x723 (i64.wrap (x723+(20:Int)))) else(some (x721,x722))
partial_fixpoint
def Z9.l2 (a1:Int) (x1113:Int) (x1120:List Z2) (x1121:Int) (x1122:Int):Option ((List Z2)×Int):=if(decide (x1122≤a1))=true then((Z5.f x1120 x1121 (i64.wrap (x1121+x1113)) x1122)>>=fun t1126=>Z9.l2 a1 x1113 t1126 x1122 (i64.wrap (x1122+(i64.wrap ((2:Int)*x1113))))) else(some (x1120,x1121))
partial_fixpoint
def Z9.l1 (a1:Int) (x1112:List Z2) (x1113:Int):Option (List Z2):=if(decide (x1113<a1))=true then((Z9.l2 a1 x1113 x1112 0 (i64.wrap ((2:Int)*x1113)))>>=fun oo=>match oo with | (x1128,x1129)=>(((if(decide ((i64.wrap (x1129+x1113))<a1))=true then((Z5.f x1128 x1129 (i64.wrap (x1129+x1113)) a1)>>=fun t1133=>some t1133) else(some x1128)):Option (List Z2))>>=fun x1135=>Z9.l1 a1 x1135 (i64.wrap (x1113*(2:Int))))) else(some x1112)
partial_fixpoint
def Z9.f (a0:List Z2) (a1:Int):Option (List Z2):=(Z9.l0 a1 a0 0 20)>>=fun oo=>match oo with | (x729,x730)=>((Z8.f x729 x730 a1)>>=fun t733=>(Z9.l1 a1 t733 20)>>=fun x1136=>some x1136)
theorem Z9.ok (a0:List Z2) (a1:Int) (r:List Z2) (H:Z9.f a0 a1=some r):Pv.Fn Try.prog 80 [.own 0,iV .i64 a1,.im (.sc (.func (.func 75) #[] #[]))] [(0,some (.row 2 78 (a0.map Z0)))] 1 (fun x o=>x = .tup []∧o=[(0,some (.row 2 78 (r.map Z0)))]):=by
 unfold Z9.f at H
 refine Fn.bodyK [0] Try.func80 rfl rfl (fun Γ hP hn => ?_)
 have hm:Try.prog.follows .mixedOrders=true:=by kernel_rfl
 replace hn:Γ.n=63:=hn
 refine sO hP hn hm [] [(6,iV .i64 20)] [0,1,2,6] [] [0] ?_
 refine sO hP hn hm [] [(7,iV .i64 0),(8,iV .i64 20)] [0,1,2,6,7,8] [] [0] ?_
 refine AWp.seq ?_
 refine AWp.block ?_
 obtain⟨o1137,e1138,H⟩:=Z4 H
 refine AWp.loop (LWp.conv (inv:=[(0,0)]) (vk:=[]) (e0:=[]) (t:=⟨[(0,.own 0),(1,iV .i64 a1),(2,.im (.sc (.func (.func 75) #[] #[]))),(6,iV .i64 20),(7,iV .i64 0),(8,iV .i64 20)],[(0,some (.row 2 78 (a0.map Z0)))],1⟩) (by kernel_rfl) ?_)
 refine LWp.mono (Q:=fun e s=>(match (generalizing:=false) o1137 with | (x729,x730)=>e = .exit 0∧s=⟨[(0,.own 0),(1,iV .i64 a1),(2,.im (.sc (.func (.func 75) #[] #[]))),(6,iV .i64 20),(7,iV .i64 x730)],[(0,some (.row 2 78 (x729.map Z0)))],1⟩)) (LWp.cv (Z07 (fun body hbody => ?_))) ?_
 ·refine                                            Z9.l0.partial_correctness a1 (motive:=fun x721 x722 x723 o1137=>LWp Γ body (fun e s=>∃ t,Cv Γ s t∧(match (generalizing:=false) o1137 with | (x729,x730)=>e = .exit 0∧t=⟨[(0,.own 0),(1,iV .i64 a1),(2,.im (.sc (.func (.func 75) #[] #[]))),(6,iV .i64 20),(7,iV .i64 x730)],[(0,some (.row 2 78 (x729.map Z0     )))],1⟩)) ⟨[(0,.own 0),(1,iV .i64 a1),(2,.im (.sc (.func (.func 75) #[] #[]))),(6,iV .i64 20),(7,iV .i64 x722),(8,iV .i64 x723)],[(0,some (.row 2 78 (x721.map Z0     )))],1⟩) ?_ _ _ _ _ e1138
  clear H e1138 o1137;intro self ih x721 x722 x723 o1137 H
  subst hbody
  refine LWp.round ?_
  refine AWp.seq ?_
  refine sO hP hn hm [] [(13,bV (decide (x723≤a1)))] [0,1,2,6,7,8,13] [] [0] ?_
  refine AWp.cond (decide (x723≤a1)) (by kernel_rfl) (fun c724 => ?_) (fun c724 => ?_)
  ·replace H:=iT c724 H
   refine AWp.skip ?_
   refine AWp.block ?_
   obtain⟨t727,e728,H⟩:=Z4 H
   refine sR hP hn hm [(4,.call [(0,0)] [(0,0)] [] [] 1 (.tup []) [(0,some (.row 2 78 (t727.map Z0)))])] [] [0,1,2,6,8] [(0,some (.row 2 78 (t727.map Z0)))] [0] [_,_] ⟨Try.call84,Z8.ok x721 x722 x723 t727 e728,trivial⟩ ?_
   refine sO hP hn hm [] [(7,iV .i64 x723)] [0,1,2,6,7,8] [] [0] ?_
   refine rO hP hn hm [] [(8,iV .i64 (i64.wrap (x723+(20:Int))))] [0,1,2,6,7,8] [] [0] ?_
   exact LWp.conv [(0,0)] [] [] (by kernel_rfl) (ih _ _ _ _ H)
  ·replace H:=iF c724 H
   refine AWp.exit ?_
   obtain rfl:=sj H
   exact lf [(0,0)] [] [] (by kernel_rfl) ⟨rfl,rfl⟩
 ·obtain⟨x729,x730⟩:=o1137
  rintro e s ⟨rfl,rfl⟩
  obtain⟨t733,e734,H⟩:=Z4 H
  refine sR hP hn hm [(4,.call [(0,0)] [(0,0)] [] [] 1 (.tup []) [(0,some (.row 2 78 (t733.map Z0)))])] [] [0,1,2,6] [(0,some (.row 2 78 (t733.map Z0)))] [0] [_,_] ⟨Try.call84,Z8.ok x729 x730 a1 t733 e734,trivial⟩ ?_
  refine AWp.block ?_
  obtain⟨o1139,e1140,H⟩:=Z4 H
  refine AWp.loop (LWp.conv (inv:=[(0,0)]) (vk:=[]) (e0:=[]) (t:=⟨[(0,.own 0),(1,iV .i64 a1),(2,.im (.sc (.func (.func 75) #[] #[]))),(6,iV .i64 20)],[(0,some (.row 2 78 (t733.map Z0)))],1⟩) (by kernel_rfl) ?_)
  refine LWp.mono (Q:=fun e s=>(match (generalizing:=false) o1139 with | x1136=>e = .exit 2∧s=⟨[],[(0,some (.row 2 78 (x1136.map Z0)))],1⟩)) (LWp.cv (Z07 (fun body hbody => ?_))) ?_
  ·refine                                            Z9.l1.partial_correctness a1 (motive:=fun x1112 x1113 o1139=>LWp Γ body (fun e s=>∃ t,Cv Γ s t∧(match (generalizing:=false) o1139 with | x1136=>e = .exit 2∧t=⟨[],[(0,some (.row 2 78 (x1136.map Z0     )))],1⟩)) ⟨[(0,.own 0),(1,iV .i64 a1),(2,.im (.sc (.func (.func 75) #[] #[]))),(6,iV .i64 x1113)],[(0,some (.row 2 78 (x1112.map Z0     )))],1⟩) ?_ _ _ _ e1140
   clear H e1140 o1139;intro self ih x1112 x1113 o1139 H
   subst hbody
   refine LWp.round ?_
   refine AWp.seq ?_
   refine sO hP hn hm [] [(30,bV (decide (x1113<a1)))] [0,1,2,6,30] [] [0] ?_
   refine AWp.cond (decide (x1113<a1)) (by kernel_rfl) (fun c1114 => ?_) (fun c1114 => ?_)
   ·replace H:=iT c1114 H
    refine AWp.skip ?_
    refine AWp.block ?_
    refine sO hP hn hm [] [(7,iV .i64 0),(8,iV .i64 (i64.wrap ((2:Int)*x1113)))] [0,1,2,6,7,8] [] [0] ?_
    refine AWp.seq ?_
    refine AWp.block ?_
    obtain⟨o1141,e1142,H⟩:=Z4 H
    refine AWp.loop (LWp.conv (inv:=[(0,0)]) (vk:=[]) (e0:=[]) (t:=⟨[(0,.own 0),(1,iV .i64 a1),(2,.im (.sc (.func (.func 75) #[] #[]))),(6,iV .i64 x1113),(7,iV .i64 0),(8,iV .i64 (i64.wrap ((2:Int)*x1113)))],[(0,some (.row 2 78 (x1112.map Z0)))],1⟩) (by kernel_rfl) ?_)
    refine LWp.mono (Q:=fun e s=>(match (generalizing:=false) o1141 with | (x1128,x1129)=>e = .exit 4∧s=⟨[(0,.own 0),(1,iV .i64 a1),(2,.im (.sc (.func (.func 75) #[] #[]))),(6,iV .i64 x1113),(7,iV .i64 x1129)],[(0,some (.row 2 78 (x1128.map Z0)))],1⟩)) (LWp.cv (Z07 (fun body hbody => ?_))) ?_
    ·refine                                            Z9.l2.partial_correctness a1 x1113 (motive:=fun x1120 x1121 x1122 o1141=>LWp Γ body (fun e s=>∃ t,Cv Γ s t∧(match (generalizing:=false) o1141 with | (x1128,x1129)=>e = .exit 4∧t=⟨[(0,.own 0),(1,iV .i64 a1),(2,.im (.sc (.func (.func 75) #[] #[]))),(6,iV .i64 x1113),(7,iV .i64 x1129)],[(0,some (.row 2 78 (x1128.map Z0     )))],1⟩)) ⟨[(0,.own 0),(1,iV .i64 a1),(2,.im (.sc (.func (.func 75) #[] #[]))),(6,iV .i64 x1113),(7,iV .i64 x1121),(8,iV .i64 x1122)],[(0,some (.row 2 78 (x1120.map Z0     )))],1⟩) ?_ _ _ _ _ e1142
     clear H e1142 o1141;intro self ih x1120 x1121 x1122 o1141 H
     subst hbody
     refine LWp.round ?_
     refine AWp.seq ?_
     refine sO hP hn hm [] [(35,bV (decide (x1122≤a1)))] [0,1,2,6,7,8,35] [] [0] ?_
     refine AWp.cond (decide (x1122≤a1)) (by kernel_rfl) (fun c1123 => ?_) (fun c1123 => ?_)
     ·replace H:=iT c1123 H
      refine AWp.skip ?_
      refine AWp.block ?_
      obtain⟨t1126,e1127,H⟩:=Z4 H
      refine sR hP hn hm [(7,.call [(0,0)] [(0,0)] [] [] 1 (.tup []) [(0,some (.row 2 78 (t1126.map Z0)))])] [] [0,1,2,6,8] [(0,some (.row 2 78 (t1126.map Z0)))] [0] [_,_] ⟨Try.call85,Z5.ok x1120 x1121 (i64.wrap (x1121+x1113)) x1122 t1126 e1127,trivial⟩ ?_
      refine sO hP hn hm [] [(7,iV .i64 x1122)] [0,1,2,6,7,8] [] [0] ?_
      refine rO hP hn hm [] [(8,iV .i64 (i64.wrap (x1122+(i64.wrap ((2:Int)*x1113)))))] [0,1,2,6,7,8] [] [0] ?_
      exact LWp.conv [(0,0)] [] [] (by kernel_rfl) (ih _ _ _ _ H)
     ·replace H:=iF c1123 H
      refine AWp.exit ?_
      obtain rfl:=sj H
      exact lf [(0,0)] [] [] (by kernel_rfl) ⟨rfl,rfl⟩
    ·obtain⟨x1128,x1129⟩:=o1141
     rintro e s ⟨rfl,rfl⟩
     refine AWp.seq ?_
     refine sO hP hn hm [] [(9,iV .i64 (i64.wrap (x1129+x1113)))] [0,1,2,6,7,9] [] [0] ?_
     refine sO hP hn hm [] [(54,bV (decide ((i64.wrap (x1129+x1113))<a1)))] [0,1,2,6,7,9,54] [] [0] ?_
     obtain⟨o1143,e1144,H⟩:=Z4 H
     refine AWp.mono (Q:=fun e s=>(match (generalizing:=false) o1143 with | x1135=>e = .normal∧s=⟨[(0,.own 0),(1,iV .i64 a1),(2,.im (.sc (.func (.func 75) #[] #[]))),(6,iV .i64 x1113)],[(0,some (.row 2 78 (x1135.map Z0)))],1⟩)) (AWp.cv ?_) ?_
     ·replace H:=e1144;clear e1144
      refine AWp.cond (decide ((i64.wrap (x1129+x1113))<a1)) (by kernel_rfl) (fun c1130 => ?_) (fun c1130 => ?_)
      ·replace H:=iT c1130 H
       obtain⟨t1133,e1134,H⟩:=Z4 H
       refine rG hP hn hm [(5,.call [(0,0)] [(0,0)] [] [] 1 (.tup []) [(0,some (.row 2 78 (t1133.map Z0)))])] [] [0,1,2,6] [(0,some (.row 2 78 (t1133.map Z0)))] [0] [_,_] ⟨Try.call85,Z5.ok x1128 x1129 (i64.wrap (x1129+x1113)) a1 t1133 e1134,trivial⟩ ?_
       obtain rfl:=sj H
       exact lf [(0,0)] [] [] (by kernel_rfl) ⟨rfl,rfl⟩
      ·replace H:=iF c1130 H
       refine AWp.skip ?_
       obtain rfl:=sj H
       exact lf [(0,0)] [] [] (by kernel_rfl) ⟨rfl,rfl⟩
     ·obtain⟨x1135,rfl⟩:∃ z,z=o1143:=⟨_,rfl⟩
      rintro e s ⟨rfl,rfl⟩
      refine rO hP hn hm [] [(6,iV .i64 (i64.wrap (x1113*(2:Int))))] [0,1,2,6] [] [0] ?_
      exact LWp.conv [(0,0)] [] [] (by kernel_rfl) (ih _ _ _ H)
   ·replace H:=iF c1114 H
    refine AWp.exit ?_
    obtain rfl:=sj H
    exact lf [(0,0)] [] [] (by kernel_rfl) ⟨rfl,rfl⟩
  ·obtain⟨x1136,rfl⟩:∃ z,z=o1139:=⟨_,rfl⟩
   rintro e s ⟨rfl,rfl⟩
   obtain rfl:=sj H
   exact Exists.intro ⟨[],[(0,some (.row 2 78 (x1136.map Z0)))],1⟩ (And.intro (fun _ _ h=>h.conv (inv:=[(0,0)]) (vk:=[]) (e0:=[]) (t:=⟨[],[(0,some (.row 2 78 (x1136.map Z0)))],1⟩) (by kernel_rfl)) (And.intro (.inr rfl) (And.intro rfl (And.intro (by kernel_rfl) (by kernel_rfl)))))
def Zy.f (a0:List Z2):Option (List Z2):=(Z9.f a0 (a0.length:Int))>>=fun t1147=>some t1147
theorem Zy.ok (a0:List Z2) (r:List Z2) (H:Zy.f a0=some r):Pv.Fn Try.prog 74 [.own 0,.im (.sc (.func (.func 75) #[] #[]))] [(0,some (.row 2 78 (a0.map Z0)))] 1 (fun x o=>x = .tup []∧o=[(0,some (.row 2 78 (r.map Z0)))]):=by
 unfold Zy.f at H
 refine Fn.bodyK [0] Try.func74 rfl rfl (fun Γ hP hn => ?_)
 have hm:Try.prog.follows .mixedOrders=true:=by kernel_rfl
 replace hn:Γ.n=9:=hn
 obtain⟨t1147,e1148,H⟩:=Z4 H
 refine rG hP hn hm [(2,.any (iV .i64 (a0.length:Int))),(4,.call [(0,0)] [(0,0)] [] [] 1 (.tup []) [(0,some (.row 2 78 (t1147.map Z0)))])] [] [] [(0,some (.row 2 78 (t1147.map Z0)))] [0] [((a0.map Z0).length:Int)=(a0.length:Int),_,_] ⟨by rw[Zv],Try.call80,Z9.ok a0 (a0.length:Int) t1147 e1148,trivial⟩ ?_
 obtain rfl:=sj H
 exact Exists.intro ⟨[],[(0,some (.row 2 78 (t1147.map Z0)))],1⟩ (And.intro (fun _ _ h=>h.conv (inv:=[(0,0)]) (vk:=[]) (e0:=[]) (t:=⟨[],[(0,some (.row 2 78 (t1147.map Z0)))],1⟩) (by kernel_rfl)) (And.intro (.inr rfl) (And.intro rfl (And.intro (by kernel_rfl) (by kernel_rfl)))))
def Z0j.l0 (t1151:List Z2) (x1164:List Z2) (x1165:Int):Option (((List Z2)×Int) ⊕ (List Z2)):=if(decide (x1165<(t1151.length:Int)))=true then((at? t1151 x1165)>>=fun b1170=>((if(b1170.f1==(0:Int))=true then(some (.inr x1164)) else(((if(decide ((x1164.length:Int)>(0:Int)))=true then((at? x1164 (i64.wrap ((x1164.length:Int)-(1:Int))))>>=fun b1179=>some (b1179.f0==b1170.f0)) else(some false)):Option (Bool))>>=fun x1182=>((if x1182=true then((at? x1164 (i64.wrap ((x1164.length:Int)-(1:Int))))>>=fun b1189=>(Z1l.f [b1189.f1,b1170.f1])>>=fun t1192=>if(t1192.2 != (0:Int))=true then(some (.inl ([],t1192.2))) else(some (.inr (x1164.set (Int.toNat (i64.wrap ((x1164.length:Int)-(1:Int)))) (⟨b1189.f0,t1192.1⟩:Z2))))) else((chk ((x1164.length+[b1170].length)*16≤140737488355328))>>=fun _=>some (.inr (x1164++[b1170])))):Option (((List Z2)×Int) ⊕ (List Z2)))>>=fun oo=>match oo with | .inl rr=>(some (.inl rr)) | .inr x1197=>(some (.inr x1197)))):Option (((List Z2)×Int) ⊕ (List Z2)))>>=fun oo=>match oo with | .inl rr=>(some (.inl rr)) | .inr x1198=>(Z0j.l0 t1151 x1198 (i64.wrap (x1165+(1:Int))))) else(some (.inr x1164))
partial_fixpoint
def Z0j.f (a0:List Z2):Option ((List Z2)×Int):=(Z06.f a0)>>=fun t528=>(Zy.f t528)>>=fun t1151=>(Z0j.l0 t1151 [] 0)>>=fun oo=>match oo with | .inl rr=>(some rr) | .inr x1199=>(some (x1199,0))
theorem Z0j.ok (a0:List Z2) (r:(List Z2)×Int) (H:Z0j.f a0=some r):Pv.Fn Try.prog 63 [.im (.row (a0.map Z0))] [] 0 (fun x o=>x = .tup [.own 0,iV .i64 r.2]∧o=[(0,some (.row 2 78 (r.1.map Z0)))]):=by
 unfold Z0j.f at H
 refine Fn.bodyK [0] Try.func63 rfl rfl (fun Γ hP hn => ?_)
 have hm:Try.prog.follows .mixedOrders=true:=by kernel_rfl
 replace hn:Γ.n=68:=hn
 refine sO hP hn hm [] [] [0] [] [] ?_
 refine sO hP hn hm [] [(4,.none0)] [0,4] [] [] ?_
 obtain⟨t528,e529,H⟩:=Z4 H
 refine sR hP hn hm [(1,.call [] [(0,0)] [] [0] 0 (.own 0) [(0,some (.row 2 78 (t528.map Z0)))])] [(0,.own 0)] [0,4] [(0,some (.row 2 78 (t528.map Z0)))] [0] [_,_] ⟨Try.call73,Z06.ok a0 t528 e529,trivial⟩ ?_
 obtain⟨t1151,e1152,H⟩:=Z4 H
 refine sR hP hn hm [(1,.call [(0,0)] [(0,0)] [] [] 1 (.tup []) [(0,some (.row 2 78 (t1151.map Z0)))])] [] [0,4] [(0,some (.row 2 78 (t1151.map Z0)))] [0] [_,_] ⟨Try.call74,Zy.ok t528 t1151 e1152,trivial⟩ ?_
 refine AWp.seq ?_
 refine sR hP hn hm [(1,.any (iV .i64 (t1151.length:Int)))] [(14,.own 0),(15,iV .i64 (t1151.length:Int)),(16,iV .i64 0)] [4,14,15,16] [] [0] [((t1151.map Z0).length:Int)=(t1151.length:Int)] ⟨by rw[Zv],trivial⟩ ?_
 refine AWp.block ?_
 obtain⟨o1200,e1201,H⟩:=Z4 H
 refine AWp.loop (LWp.conv (inv:=[(0,7)]) (vk:=[]) (e0:=[6]) (t:=⟨[(4,.own 6),(14,.own 7),(15,iV .i64 (t1151.length:Int)),(16,iV .i64 0)],[(6,some (.row 2 78 ([].map Z0))),(7,some (.row 2 78 (t1151.map Z0)))],0⟩) (by kernel_rfl) ?_)
 refine LWp.mono (Q:=fun e s=>(match (generalizing:=false) o1200 with | .inl rr=>e = .ret∧s.floor=0∧Z2f Try.prog Try.f63 s=some (.tup [.own 0,iV .i64 rr.2])∧([(0,s.obj 0)]:List (Nat×Option MObj))=[(0,some (.row 2 78 (rr.1.map Z0)))] | .inr x1199=>e = .exit 0∧s=⟨[(4,.own 19)],[(19,some (.row 2 78 (x1199.map Z0)))],0⟩)) (LWp.cv (Z07 (fun body hbody => ?_))) ?_
 ·refine         Z0j.l0.partial_correctness t1151 (motive:=fun x1164 x1165 o1200=>LWp Γ body (fun e s=>∃ t,Cv Γ s t∧(match (generalizing:=false) o1200 with | .inl rr=>e = .ret∧t.floor=0∧Z2f   Try.prog Try.f63 t=some (.tup [.own 0,iV .i64 rr.2])∧([(0,t.obj 0)]:List (Nat×Option MObj))=[(0,some (.row 2 78 (rr.1.map Z0     )))] | .inr x1199=>e = .exit 0∧t=⟨[(4,.own 19)],[(19,some (.row 2 78 (x1199.map Z0     )))],0⟩)) ⟨[(4,.own 6),(14,.own 7),(15,iV .i64 (t1151.length:Int)),(16,iV .i64 x1165)],[(6,some (.row 2 78 (x1164.map Z0     ))),(7,some (.row 2 78 (t1151.map Z0     )))],0⟩) ?_ _ _ _ e1201
  clear H e1201 o1200;intro self ih x1164 x1165 o1200 H
  subst hbody
  refine LWp.round ?_
  refine sO hP hn hm [] [(17,bV (decide (x1165<(t1151.length:Int))))] [4,14,15,16,17] [] [6,7] ?_
  refine AWp.seq ?_
  refine AWp.cond (decide (x1165<(t1151.length:Int))) (by kernel_rfl) (fun c1166 => ?_) (fun c1166 => ?_)
  ·replace H:=iT c1166 H
   refine AWp.skip ?_
   refine AWp.seq ?_
   refine AWp.block ?_
   obtain⟨b1170,p1171,q1172,H⟩:=Z0q H
   refine sR hP hn hm [(1,.c (Z0 b1170)),(2,.k 8)] [(6,.ptr 8 0 0)] [4,6,14,15,16] [(8,some (.box 78 (Z1v b1170)))] [6,7,8] [_,_,_] ⟨p1171,Z1m Z0 p1171 q1172,Zu Z0 q1172,trivial⟩ ?_
   refine sR hP hn hm [(1,.any (iV .i64 (x1164.length:Int)))] [(7,iV .i64 (x1164.length:Int))] [4,6,7,14,15,16] [] [6,7,8] [((x1164.map Z0).length:Int)=(x1164.length:Int)] ⟨by rw[Zv],trivial⟩ ?_
   refine AWp.block ?_
   refine sO hP hn hm [] [(26,bV (b1170.f1==(0:Int)))] [4,6,7,14,15,16,26] [] [6,7,8] ?_
   obtain⟨o1202,e1203,H⟩:=Z4 H
   refine AWp.mono (Q:=fun e s=>(match (generalizing:=false) o1202 with | .inl rr=>e = .ret∧s.floor=0∧Z2f Try.prog Try.f63 s=some (.tup [.own 0,iV .i64 rr.2])∧([(0,s.obj 0)]:List (Nat×Option MObj))=[(0,some (.row 2 78 (rr.1.map Z0)))] | .inr x1198=>e = .normal∧s=⟨[(4,.own 17),(14,.own 18),(15,iV .i64 (t1151.length:Int)),(16,iV .i64 x1165)],[(17,some (.row 2 78 (x1198.map Z0))),(18,some (.row 2 78 (t1151.map Z0)))],0⟩)) (AWp.cv ?_) ?_
   ·replace H:=e1203;clear e1203
    refine AWp.cond (b1170.f1==(0:Int)) (by kernel_rfl) (fun c1173 => ?_) (fun c1173 => ?_)
    ·replace H:=iT c1173 H
     refine AWp.skip ?_
     obtain rfl:=sj H
     exact lf [(6,17),(7,18)] [] [] (by kernel_rfl) ⟨rfl,rfl⟩
    ·replace H:=iF c1173 H
     refine AWp.seq ?_
     obtain⟨o1204,e1205,H⟩:=Z4 H
     refine AWp.mono (Q:=fun e s=>(match (generalizing:=false) o1204 with | x1182=>e = .normal∧s=⟨[(4,.own 9),(6,.ptr 10 0 0),(7,iV .i64 (x1164.length:Int)),(14,.own 11),(15,iV .i64 (t1151.length:Int)),(16,iV .i64 x1165),(30,bV x1182)],[(9,some (.row 2 78 (x1164.map Z0))),(10,some (.box 78 (Z1v b1170))),(11,some (.row 2 78 (t1151.map Z0)))],0⟩)) (AWp.cv ?_) ?_
     ·replace H:=e1205;clear e1205
      rcases Bool.eq_false_or_eq_true (decide ((x1164.length:Int)>(0:Int))) with c1178 | c1178
      ·replace H:=iT c1178 H
       obtain⟨b1179,p1180,q1181,H⟩:=Z0q H
       refine rG hP hn hm [(2,.b true),(8,.c (Z0 b1179))] [(30,bV (b1179.f0==b1170.f0)),(34,.own 6),(35,iV .i64 (x1164.length:Int)),(36,iV .i64 (i64.wrap ((x1164.length:Int)-(1:Int)))),(37,.ptr 6 (Int.toNat (i64.wrap ((x1164.length:Int)-(1:Int)))) 0),(38,.ptr 6 (Int.toNat (i64.wrap ((x1164.length:Int)-(1:Int)))) 0),(39,iV .i64 b1179.f0),(40,.ptr 8 0 0),(41,iV .i64 b1170.f0),(42,bV (b1179.f0==b1170.f0))] [4,6,7,14,15,16,30,34,35,36,37,38,39,40,41,42] [] [6,7,8] [_,_,_,_] ⟨c1178,p1180,Z1m Z0 p1180 q1181,Zu Z0 q1181,trivial⟩ ?_
       obtain rfl:=sj H
       exact lf [(6,9),(8,10),(7,11)] [] [] (by kernel_rfl) ⟨rfl,rfl⟩
      ·replace H:=iF c1178 H
       refine rG hP hn hm [(2,.b false)] [(30,bV false)] [4,6,7,14,15,16,30] [] [6,7,8] [_] ⟨c1178,trivial⟩ ?_
       obtain rfl:=sj H
       exact lf [(6,9),(8,10),(7,11)] [] [] (by kernel_rfl) ⟨rfl,rfl⟩
     ·obtain⟨x1182,rfl⟩:∃ z,z=o1204:=⟨_,rfl⟩
      rintro e s ⟨rfl,rfl⟩
      obtain⟨o1206,e1207,H⟩:=Z4 H
      refine AWp.mono (Q:=fun e s=>(match (generalizing:=false) o1206 with | .inl rr=>e = .ret∧s.floor=0∧Z2f Try.prog Try.f63 s=some (.tup [.own 0,iV .i64 rr.2])∧([(0,s.obj 0)]:List (Nat×Option MObj))=[(0,some (.row 2 78 (rr.1.map Z0)))] | .inr x1197=>e = .normal∧s=⟨[(4,.own 15),(14,.own 16),(15,iV .i64 (t1151.length:Int)),(16,iV .i64 x1165)],[(15,some (.row 2 78 (x1197.map Z0))),(16,some (.row 2 78 (t1151.map Z0)))],0⟩)) (AWp.cv ?_) ?_
      ·replace H:=e1207;clear e1207
       refine AWp.cond x1182 (by kernel_rfl) (fun c1183 => ?_) (fun c1183 => ?_)
       ·replace H:=iT c1183 H
        obtain⟨b1189,p1190,q1191,H⟩:=Z0q H
        obtain⟨t1192,e1193,H⟩:=Z4 H
        refine sR hP hn hm [(5,.c (Z0 b1189)),(8,.app 12 ([b1189.f1,b1170.f1].map (Z1 .u64))),(9,.call [] [] [12] [] 0 (.tup [iV .u64 t1192.1,iV .i64 t1192.2]) [])] [(8,iV .u64 t1192.1),(9,iV .i64 t1192.2)] [4,7,8,9,14,15,16] [] [9,11] [_,_,_,[b1189.f1,b1170.f1].map (Z1 .u64)=[[iI .u64 b1189.f1],[iI .u64 b1170.f1]],_,_] ⟨p1190,Z1m Z0 p1190 q1191,Zu Z0 q1191,by exact rfl,Try.call59,Z1l.ok [b1189.f1,b1170.f1] t1192 e1193,trivial⟩ ?_
        refine AWp.seq ?_
        refine sO hP hn hm [] [(58,bV (t1192.2 != (0:Int)))] [4,7,8,9,14,15,16,58] [] [9,11] ?_
        refine AWp.cond (t1192.2 != (0:Int)) (by kernel_rfl) (fun c1194 => ?_) (fun c1194 => ?_)
        ·replace H:=iT c1194 H
         refine sO hP hn hm [] [(2,.none0),(3,iV .i64 t1192.2)] [2,3] [] [] ?_
         refine AWp.conv (inv:=[]) (vk:=[]) (e0:=[0]) (t:=⟨[(2,.own 0),(3,iV .i64 t1192.2)],[(0,some (.row 2 78 ([].map Z0)))],0⟩) (by kernel_rfl) ?_
         refine AWp.ret ?_
         obtain rfl:=sj H
         exact rl rfl rfl (by kernel_rfl) (by kernel_rfl)
        ·replace H:=iF c1194 H
         refine AWp.skip ?_
         refine rG hP hn hm [(6,.put (Z0 b1189) ((x1164.set (Int.toNat (i64.wrap ((x1164.length:Int)-(1:Int)))) (⟨b1189.f0,t1192.1⟩:Z2)).map Z0))] [] [4,14,15,16] [(9,some (.row 2 78 ((x1164.set (Int.toNat (i64.wrap ((x1164.length:Int)-(1:Int)))) (⟨b1189.f0,t1192.1⟩:Z2)).map Z0)))] [9,11] [_,_,_,(x1164.set (Int.toNat (i64.wrap ((x1164.length:Int)-(1:Int)))) (⟨b1189.f0,t1192.1⟩:Z2)).map Z0=(x1164.map Z0).set (Int.toNat (i64.wrap ((x1164.length:Int)-(1:Int)))) (Z1u (Z0 b1189) 1 [iI .u64 t1192.1])] ⟨p1190,Z1m Z0 p1190 q1191,Zu Z0 q1191,by exact set1 _ _ _ _,trivial⟩ ?_
         obtain rfl:=sj H
         exact lf [(9,15),(11,16)] [] [] (by kernel_rfl) ⟨rfl,rfl⟩
       ·replace H:=iF c1183 H
        obtain⟨c1196,H⟩:=Z17 H
        refine rG hP hn hm [(2,.app 13 ([b1170].map Z0)),(3,.app 14 ((x1164++[b1170]).map Z0))] [(4,.own 14)] [4,14,15,16] [(14,some (.row 2 78 ((x1164++[b1170]).map Z0)))] [11,14] [[b1170].map Z0=[[iI .i64 b1170.f0,iI .u64 b1170.f1]],(x1164++[b1170]).map Z0=(x1164.map Z0)++([b1170].map Z0),∀ c∈([b1170].map Z0),c.length=2,∀ c∈([b1170].map Z0),Z12 (c.map .im)=true,((x1164.map Z0).length+([b1170].map Z0).length)*16≤140737488355328] ⟨by exact rfl,by simp,by exact Z13 _ _ _ (fun _=>rfl),by exact Z16 _ _ (fun _=>rfl),by simpa using c1196,trivial⟩ ?_
        obtain rfl:=sj H
        exact lf [(14,15),(11,16)] [] [] (by kernel_rfl) ⟨rfl,rfl⟩
      ·rcases o1206 with rr | x1197
       ·skip
        rintro e s ⟨rfl,hfl,hres⟩
        obtain rfl:=sj H
        exact Exists.intro _ (And.intro (fun _ _ h=>h) (And.intro rfl (And.intro hfl hres)))
       ·skip
        rintro e s ⟨rfl,rfl⟩
        obtain rfl:=sj H
        exact lf [(15,17),(16,18)] [] [] (by kernel_rfl) ⟨rfl,rfl⟩
   ·rcases o1202 with rr | x1198
    ·skip
     rintro e s ⟨rfl,hfl,hres⟩
     obtain rfl:=sj H
     exact Exists.intro _ (And.intro (fun _ _ h=>h) (And.intro rfl (And.intro hfl hres)))
    ·skip
     rintro e s ⟨rfl,rfl⟩
     refine rO hP hn hm [] [(16,iV .i64 (i64.wrap (x1165+(1:Int))))] [4,14,15,16] [] [17,18] ?_
     exact LWp.conv [(17,6),(18,7)] [] [] (by kernel_rfl) (ih _ _ _ H)
  ·replace H:=iF c1166 H
   refine AWp.exit ?_
   obtain rfl:=sj H
   exact lf [(6,19)] [] [] (by kernel_rfl) ⟨rfl,rfl⟩
 ·rcases o1200 with rr | x1199
  ·skip
   rintro e s ⟨rfl,hfl,hres⟩
   obtain rfl:=sj H
   exact Exists.intro _ (And.intro (fun _ _ h=>h) (And.intro (.inl rfl) (And.intro hfl hres)))
  ·skip
   rintro e s ⟨rfl,rfl⟩
   refine sO hP hn hm [] [(2,.own 19),(3,iV .i64 0)] [2,3] [] [19] ?_
   refine AWp.conv (inv:=[(19,0)]) (vk:=[]) (e0:=[]) (t:=⟨[(2,.own 0),(3,iV .i64 0)],[(0,some (.row 2 78 (x1199.map Z0)))],0⟩) (by kernel_rfl) ?_
   refine AWp.ret ?_
   obtain rfl:=sj H
   exact rl (.inl rfl) rfl (by kernel_rfl) (by kernel_rfl)
def Z0r.f (a0:Zp) (a1:List Z2) (a2:List Z2):Option (Zp×Int):=(Z0j.f a1)>>=fun t1210=>(Z0j.f a2)>>=fun t1214=>if((if t1214.2>t1210.2 then t1214.2 else t1210.2) != (0:Int))=true then(some ((⟨0,0,0,0,0,0,[],[]⟩:Zp),(if t1214.2>t1210.2 then t1214.2 else t1210.2))) else((Z0g.f [t1210.1,t1214.1,[(⟨0,a0.f3⟩:Z2)]])>>=fun t1221=>if(t1221.2 != (0:Int))=true then(some ((⟨0,0,0,0,0,0,[],[]⟩:Zp),t1221.2)) else((Z0c.f (⟨a0.f0,a0.f1,a0.f2,a0.f3,t1221.1,a0.f5,t1210.1,t1214.1⟩:Zp))>>=fun t1226=>if(t1226 != (0:Int))=true then(some ((⟨0,0,0,0,0,0,[],[]⟩:Zp),t1226)) else(some ((⟨a0.f0,a0.f1,a0.f2,a0.f3,t1221.1,a0.f5,t1210.1,t1214.1⟩:Zp),0))))
theorem Z0r.ok (a0:Zp) (a1:List Z2) (a2:List Z2) (r:Zp×Int) (H:Z0r.f a0 a1 a2=some r):Pv.Fn Try.prog 54 [.agg (Zx a0),.im (.row (a1.map Z0)),.im (.row (a2.map Z0))] [] 0 (fun x o=>x = .tup [.agg (Zx (r.1)),iV .i64 r.2]∧o=[]):=by
 unfold Z0r.f at H
 refine Fn.bodyK [] Try.func54 rfl rfl (fun Γ hP hn => ?_)
 have hm:Try.prog.follows .mixedOrders=true:=by kernel_rfl
 replace hn:Γ.n=55:=hn
 refine sO hP hn hm [(0,.k 0),(1,.k 1)] [(3,.ptr 0 0 0),(6,.ptr 1 0 0)] [1,2,3,6] [(0,some (.box 36 (Zx a0))),(1,some (.box 36 [iV .i64 0,iV .i64 0,iV .i64 0,iV .u64 0,iV .u64 0,iV .i64 0,.none0,.none0]))] [0,1] ?_
 refine sO hP hn hm [] [] [1,2,3,6] [] [0,1] ?_
 obtain⟨t1210,e1211,H⟩:=Z4 H
 refine sR hP hn hm [(1,.call [] [(0,2)] [] [2] 0 (.tup [.own 0,iV .i64 t1210.2]) [(0,some (.row 2 78 (t1210.1.map Z0)))])] [(8,iV .i64 t1210.2)] [2,3,6,8] [(0,some (.box 36 [iV .i64 a0.f0,iV .i64 a0.f1,iV .i64 a0.f2,iV .u64 a0.f3,iV .u64 a0.f4,iV .i64 a0.f5,.own 2,.im (.row (a0.f7.map Z0))])),(2,some (.row 2 78 (t1210.1.map Z0)))] [0,1,2] [_,_] ⟨Try.call63,Z0j.ok a1 t1210 e1211,trivial⟩ ?_
 obtain⟨t1214,e1215,H⟩:=Z4 H
 refine sR hP hn hm [(1,.call [] [(0,3)] [] [3] 0 (.tup [.own 0,iV .i64 t1214.2]) [(0,some (.row 2 78 (t1214.1.map Z0)))])] [(9,iV .i64 t1214.2)] [3,6,8,9] [(0,some (.box 36 [iV .i64 a0.f0,iV .i64 a0.f1,iV .i64 a0.f2,iV .u64 a0.f3,iV .u64 a0.f4,iV .i64 a0.f5,.own 2,.own 3])),(3,some (.row 2 78 (t1214.1.map Z0)))] [0,1,2,3] [_,_] ⟨Try.call63,Z0j.ok a2 t1214 e1215,trivial⟩ ?_
 refine AWp.seq ?_
 refine sO hP hn hm [(2,.more xMax)] [(8,iV .i64 (if t1214.2>t1210.2 then t1214.2 else t1210.2))] [3,6,8] [] [0,1,2,3] ?_
 refine sO hP hn hm [] [(27,bV ((if t1214.2>t1210.2 then t1214.2 else t1210.2) != (0:Int)))] [3,6,8,27] [] [0,1,2,3] ?_
 refine AWp.cond ((if t1214.2>t1210.2 then t1214.2 else t1210.2) != (0:Int)) (by kernel_rfl) (fun c1216 => ?_) (fun c1216 => ?_)
 ·replace H:=iT c1216 H
  refine sO hP hn hm [] [(7,iV .i64 (if t1214.2>t1210.2 then t1214.2 else t1210.2))] [6,7] [] [1] ?_
  refine AWp.conv (inv:=[(1,0)]) (vk:=[]) (e0:=[]) (t:=⟨[(6,.ptr 0 0 0),(7,iV .i64 (if t1214.2>t1210.2 then t1214.2 else t1210.2))],[(0,some (.box 36 (Zx ((⟨0,0,0,0,0,0,[],[]⟩:Zp)))))],0⟩) (by kernel_rfl) ?_
  refine AWp.ret ?_
  obtain rfl:=sj H
  exact rl (.inl rfl) rfl (by kernel_rfl) (by kernel_rfl)
 ·replace H:=iF c1216 H
  refine AWp.skip ?_
  refine AWp.seq ?_
  refine AWp.seq ?_
  refine AWp.conv (inv:=[(0,0),(1,1)]) (vk:=[2,3]) (e0:=[]) (t:=⟨[(3,.ptr 0 0 0),(6,.ptr 1 0 0),(8,iV .i64 (if t1214.2>t1210.2 then t1214.2 else t1210.2)),(27,bV ((if t1214.2>t1210.2 then t1214.2 else t1210.2) != (0:Int)))],[(0,some (.box 36 (Zx ⟨a0.f0,a0.f1,a0.f2,a0.f3,a0.f4,a0.f5,t1210.1,t1214.1⟩))),(1,some (.box 36 [iV .i64 0,iV .i64 0,iV .i64 0,iV .u64 0,iV .u64 0,iV .i64 0,.none0,.none0]))],0⟩) (by kernel_rfl) ?_
  obtain⟨t1221,e1222,H⟩:=Z4 H
  refine rG hP hn hm [(7,.more (xFz (.app 4 ([(⟨0,a0.f3⟩:Z2)].map Z0)))),(8,.app 5 ([t1210.1,t1214.1,[(⟨0,a0.f3⟩:Z2)]].map (Z2x Z0))),(9,.call [] [] [5] [] 0 (.tup [iV .u64 t1221.1,iV .i64 t1221.2]) [])] [(8,iV .i64 t1221.2)] [3,6,8] [(0,some (.box 36 (Zx ⟨a0.f0,a0.f1,a0.f2,a0.f3,t1221.1,a0.f5,t1210.1,t1214.1⟩)))] [0,1] [[(⟨0,a0.f3⟩:Z2)].map Z0=[[iI .i64 0,iI .u64 a0.f3]],[t1210.1,t1214.1,[(⟨0,a0.f3⟩:Z2)]].map (Z2x Z0)=[[.row (t1210.1.map Z0)],[.row (t1214.1.map Z0)],[.row ([(⟨0,a0.f3⟩:Z2)].map Z0)]],_,_] ⟨by exact rfl,by exact rfl,Try.call34,Z0g.ok [t1210.1,t1214.1,[(⟨0,a0.f3⟩:Z2)]] t1221 e1222,trivial⟩ ?_
  refine sO hP hn hm [] [(45,bV (t1221.2 != (0:Int)))] [3,6,8,45] [] [0,1] ?_
  refine AWp.cond (t1221.2 != (0:Int)) (by kernel_rfl) (fun c1223 => ?_) (fun c1223 => ?_)
  ·replace H:=iT c1223 H
   refine sO hP hn hm [] [(7,iV .i64 t1221.2)] [6,7] [] [1] ?_
   refine AWp.conv (inv:=[(1,0)]) (vk:=[]) (e0:=[]) (t:=⟨[(6,.ptr 0 0 0),(7,iV .i64 t1221.2)],[(0,some (.box 36 (Zx ((⟨0,0,0,0,0,0,[],[]⟩:Zp)))))],0⟩) (by kernel_rfl) ?_
   refine AWp.ret ?_
   obtain rfl:=sj H
   exact rl (.inl rfl) rfl (by kernel_rfl) (by kernel_rfl)
  ·replace H:=iF c1223 H
   refine AWp.skip ?_
   refine AWp.seq ?_
   obtain⟨t1226,e1227,H⟩:=Z4 H
   refine sR hP hn hm [(1,.call [] [] [] [] 0 (iV .i64 t1226) [])] [(10,iV .i64 t1226)] [3,6,10] [] [0,1] [_,_] ⟨Try.call11,Z0c.ok (⟨a0.f0,a0.f1,a0.f2,a0.f3,t1221.1,a0.f5,t1210.1,t1214.1⟩:Zp) t1226 e1227,trivial⟩ ?_
   refine sO hP hn hm [] [(51,bV (t1226 != (0:Int)))] [3,6,10,51] [] [0,1] ?_
   refine AWp.cond (t1226 != (0:Int)) (by kernel_rfl) (fun c1228 => ?_) (fun c1228 => ?_)
   ·replace H:=iT c1228 H
    refine sO hP hn hm [] [(7,iV .i64 t1226)] [6,7] [] [1] ?_
    refine AWp.conv (inv:=[(1,0)]) (vk:=[]) (e0:=[]) (t:=⟨[(6,.ptr 0 0 0),(7,iV .i64 t1226)],[(0,some (.box 36 (Zx ((⟨0,0,0,0,0,0,[],[]⟩:Zp)))))],0⟩) (by kernel_rfl) ?_
    refine AWp.ret ?_
    obtain rfl:=sj H
    exact rl (.inl rfl) rfl (by kernel_rfl) (by kernel_rfl)
   ·replace H:=iF c1228 H
    refine AWp.skip ?_
    refine sO hP hn hm [] [(7,iV .i64 0)] [6,7] [(1,some (.box 36 (Zx ⟨a0.f0,a0.f1,a0.f2,a0.f3,t1221.1,a0.f5,t1210.1,t1214.1⟩)))] [1] ?_
    refine AWp.conv (inv:=[(1,0)]) (vk:=[]) (e0:=[]) (t:=⟨[(6,.ptr 0 0 0),(7,iV .i64 0)],[(0,some (.box 36 (Zx ((⟨a0.f0,a0.f1,a0.f2,a0.f3,t1221.1,a0.f5,t1210.1,t1214.1⟩:Zp)))))],0⟩) (by kernel_rfl) ?_
    refine AWp.ret ?_
    obtain rfl:=sj H
    exact rl (.inl rfl) rfl (by kernel_rfl) (by kernel_rfl)
def Z1s.f (a0:Zp) (a1:List Z2) (a2:List Z2) (a3:Int):Option (Zp×Int):=(Z19.f a0 a1 a3)>>=fun t465=>(Z19.f a0 a2 a3)>>=fun t467=>(Zz.f a1 a0.f0 a0.f1 a0.f2 a0.f3 a0.f4 a0.f5 a0.f6 a0.f7 (if t467>t465 then t467 else t465))>>=fun t522=>(Zz.f a2 a0.f0 a0.f1 a0.f2 t522.2 a0.f4 a0.f5 a0.f6 a0.f7 (if t467>t465 then t467 else t465))>>=fun t524=>(Z0r.f (⟨a0.f0,a0.f1,(if t467>t465 then t467 else t465),t524.2,a0.f4,a0.f5,a0.f6,a0.f7⟩:Zp) t522.1 t524.1)>>=fun t1233=>some ((t1233.1),t1233.2)
theorem Z1s.ok (a0:Zp) (a1:List Z2) (a2:List Z2) (a3:Int) (r:Zp×Int) (H:Z1s.f a0 a1 a2 a3=some r):Pv.Fn Try.prog 82 [.agg (Zx a0),.im (.row (a1.map Z0)),.im (.row (a2.map Z0)),iV .i64 a3] [] 0 (fun x o=>x = .tup [.agg (Zx (r.1)),iV .i64 r.2]∧o=[]):=by
 unfold Z1s.f at H
 refine Fn.bodyK [] Try.func82 rfl rfl (fun Γ hP hn => ?_)
 have hm:Try.prog.follows .mixedOrders=true:=by kernel_rfl
 replace hn:Γ.n=35:=hn
 refine sO hP hn hm [(0,.k 0),(1,.k 1),(2,.k 2)] [(4,.ptr 0 0 0),(7,.ptr 1 0 0),(8,.ptr 2 0 0)] [1,2,4,7,8] [(0,some (.box 36 (Zx a0))),(1,some (.box 3 [iV .i64 a3])),(2,some (.box 36 [iV .i64 0,iV .i64 0,iV .i64 0,iV .u64 0,iV .u64 0,iV .i64 0,.none0,.none0]))] [0,1,2] ?_
 obtain⟨t465,e466,H⟩:=Z4 H
 obtain⟨t467,e468,H⟩:=Z4 H
 refine sR hP hn hm [(3,.call [] [] [] [] 0 (iV .i64 t465) []),(7,.call [] [] [] [] 0 (iV .i64 t467) []),(8,.more xMax)] [] [1,2,4,7,8] [(1,some (.box 3 [iV .i64 (if t467>t465 then t467 else t465)]))] [0,1,2] [_,_,_,_] ⟨Try.call87,Z19.ok a0 a1 a3 t465 e466,Try.call87,Z19.ok a0 a2 a3 t467 e468,trivial⟩ ?_
 refine sO hP hn hm [(0,.more xFunc)] [(10,.fn 88 [.ptr 0 0 0,.ptr 1 0 0])] [1,2,4,7,8,10] [] [0,1,2] ?_
 obtain⟨t522,e523,H⟩:=Z4 H
 obtain⟨t524,e525,H⟩:=Z4 H
 refine sR hP hn hm [(2,.call [(0,0),(1,1)] [(0,0),(1,1),(2,3)] [] [3] 2 (.own 2) [(0,some (.box 36 (Zx ⟨a0.f0,a0.f1,a0.f2,t522.2,a0.f4,a0.f5,a0.f6,a0.f7⟩))),(1,some (.box 3 [iV .i64 (if t467>t465 then t467 else t465)])),(2,some (.row 2 78 (t522.1.map Z0)))]),(5,.call [(0,0),(1,1)] [(0,0),(1,1),(2,4)] [] [4] 2 (.own 2) [(0,some (.box 36 (Zx ⟨a0.f0,a0.f1,a0.f2,t524.2,a0.f4,a0.f5,a0.f6,a0.f7⟩))),(1,some (.box 3 [iV .i64 (if t467>t465 then t467 else t465)])),(2,some (.row 2 78 (t524.1.map Z0)))])] [(1,.own 3),(2,.own 4)] [1,2,4,7,8] [(0,some (.box 36 (Zx ⟨a0.f0,a0.f1,a0.f2,t524.2,a0.f4,a0.f5,a0.f6,a0.f7⟩))),(3,some (.row 2 78 (t522.1.map Z0))),(4,some (.row 2 78 (t524.1.map Z0)))] [0,1,2,3,4] [_,_,_,_] ⟨Try.call88,Zz.ok a1 a0.f0 a0.f1 a0.f2 a0.f3 a0.f4 a0.f5 a0.f6 a0.f7 (if t467>t465 then t467 else t465) t522 e523,Try.call88,Zz.ok a2 a0.f0 a0.f1 a0.f2 t522.2 a0.f4 a0.f5 a0.f6 a0.f7 (if t467>t465 then t467 else t465) t524 e525,trivial⟩ ?_
 refine sO hP hn hm [] [] [1,2,4,8] [(0,some (.box 36 (Zx ⟨a0.f0,a0.f1,(if t467>t465 then t467 else t465),t524.2,a0.f4,a0.f5,a0.f6,a0.f7⟩)))] [0,2,3,4] ?_
 refine AWp.seq ?_
 refine AWp.conv (inv:=[(2,2),(0,0)]) (vk:=[3,4]) (e0:=[]) (t:=⟨[(1,.im (.row (t522.1.map Z0))),(2,.im (.row (t524.1.map Z0))),(4,.ptr 0 0 0),(8,.ptr 2 0 0)],[(0,some (.box 36 (Zx ⟨a0.f0,a0.f1,(if t467>t465 then t467 else t465),t524.2,a0.f4,a0.f5,a0.f6,a0.f7⟩))),(2,some (.box 36 [iV .i64 0,iV .i64 0,iV .i64 0,iV .u64 0,iV .u64 0,iV .i64 0,.none0,.none0]))],0⟩) (by kernel_rfl) ?_
 obtain⟨t1233,e1234,H⟩:=Z4 H
 refine rG hP hn hm [(3,.call [] [] [] [] 0 (.tup [.agg (Zx (t1233.1)),iV .i64 t1233.2]) [])] [(9,iV .i64 t1233.2)] [8,9] [(2,some (.box 36 (Zx (t1233.1))))] [2] [_,_] ⟨Try.call54,Z0r.ok (⟨a0.f0,a0.f1,(if t467>t465 then t467 else t465),t524.2,a0.f4,a0.f5,a0.f6,a0.f7⟩:Zp) t522.1 t524.1 t1233 e1234,trivial⟩ ?_
 refine AWp.conv (inv:=[(2,0)]) (vk:=[]) (e0:=[]) (t:=⟨[(8,.ptr 0 0 0),(9,iV .i64 t1233.2)],[(0,some (.box 36 (Zx ((t1233.1)))))],0⟩) (by kernel_rfl) ?_
 refine AWp.ret ?_
 obtain rfl:=sj H
 exact rl (.inl rfl) rfl (by kernel_rfl) (by kernel_rfl)
def Z23.f (a0:Zp) (a1:Int):Option (Zp×Int):=(((Z03.f a1)>>=fun t339=>if(!t339)=true then(some true) else(some (decide (a1>a0.f1)))):Option (Bool))>>=fun x342=>if x342=true then(some ((⟨0,0,0,0,0,0,[],[]⟩:Zp),20)) else((Z1a.f a0.f6 a0.f1 a1)>>=fun t406=>(Z1a.f a0.f7 a0.f1 a1)>>=fun t408=>(Z1s.f (⟨a0.f0,a1,a0.f2,a0.f3,a0.f4,a0.f5,a0.f6,a0.f7⟩:Zp) t406 t408 a0.f2)>>=fun t1239=>some ((t1239.1),t1239.2))
theorem Z23.ok (a0:Zp) (a1:Int) (r:Zp×Int) (H:Z23.f a0 a1=some r):Pv.Fn Try.prog 78 [.agg (Zx a0),iV .i64 a1] [] 0 (fun x o=>x = .tup [.agg (Zx (r.1)),iV .i64 r.2]∧o=[]):=by
 unfold Z23.f at H
 refine Fn.bodyK [] Try.func78 rfl rfl (fun Γ hP hn => ?_)
 have hm:Try.prog.follows .mixedOrders=true:=by kernel_rfl
 replace hn:Γ.n=41:=hn
 refine sO hP hn hm [(0,.k 0),(1,.k 1)] [(2,.ptr 0 0 0),(4,.ptr 1 0 0)] [1,2,4] [(0,some (.box 36 (Zx a0))),(1,some (.box 36 [iV .i64 0,iV .i64 0,iV .i64 0,iV .u64 0,iV .u64 0,iV .i64 0,.none0,.none0]))] [0,1] ?_
 refine AWp.seq ?_
 refine AWp.seq ?_
 obtain⟨o1241,e1242,H⟩:=Z4 H
 refine AWp.mono (Q:=fun e s=>(match (generalizing:=false) o1241 with | x342=>e = .normal∧s=⟨[(1,iV .i64 a1),(2,.ptr 2 0 0),(4,.ptr 3 0 0),(17,bV x342)],[(2,some (.box 36 (Zx a0))),(3,some (.box 36 [iV .i64 0,iV .i64 0,iV .i64 0,iV .u64 0,iV .u64 0,iV .i64 0,.none0,.none0]))],0⟩)) (AWp.cv ?_) ?_
 ·replace H:=e1242;clear e1242
  obtain⟨t339,e340,H⟩:=Z4 H
  rcases Bool.eq_false_or_eq_true (!t339) with c341 | c341
  ·replace H:=iT c341 H
   refine rG hP hn hm [(1,.call [] [] [] [] 0 (bV t339) []),(3,.b true)] [(17,bV true)] [1,2,4,17] [] [0,1] [_,_,_] ⟨Try.call32,Z03.ok a1 t339 e340,c341,trivial⟩ ?_
   obtain rfl:=sj H
   exact lf [(0,2),(1,3)] [] [] (by kernel_rfl) ⟨rfl,rfl⟩
  ·replace H:=iF c341 H
   refine rG hP hn hm [(1,.call [] [] [] [] 0 (bV t339) []),(3,.b false)] [(17,bV (decide (a1>a0.f1)))] [1,2,4,17] [] [0,1] [_,_,_] ⟨Try.call32,Z03.ok a1 t339 e340,c341,trivial⟩ ?_
   obtain rfl:=sj H
   exact lf [(0,2),(1,3)] [] [] (by kernel_rfl) ⟨rfl,rfl⟩
 ·obtain⟨x342,rfl⟩:∃ z,z=o1241:=⟨_,rfl⟩
  rintro e s ⟨rfl,rfl⟩
  refine AWp.cond x342 (by kernel_rfl) (fun c343 => ?_) (fun c343 => ?_)
  ·replace H:=iT c343 H
   refine sO hP hn hm [] [(5,iV .i64 20)] [4,5] [] [3] ?_
   refine AWp.conv (inv:=[(3,0)]) (vk:=[]) (e0:=[]) (t:=⟨[(4,.ptr 0 0 0),(5,iV .i64 20)],[(0,some (.box 36 (Zx ((⟨0,0,0,0,0,0,[],[]⟩:Zp)))))],0⟩) (by kernel_rfl) ?_
   refine AWp.ret ?_
   obtain rfl:=sj H
   exact rl (.inl rfl) rfl (by kernel_rfl) (by kernel_rfl)
  ·replace H:=iF c343 H
   refine AWp.skip ?_
   refine sO hP hn hm [] [(6,iV .i64 a0.f1)] [1,2,4,6] [] [2,3] ?_
   refine sO hP hn hm [] [] [1,2,4,6] [(2,some (.box 36 (Zx ⟨a0.f0,a1,a0.f2,a0.f3,a0.f4,a0.f5,a0.f6,a0.f7⟩)))] [2,3] ?_
   obtain⟨t406,e407,H⟩:=Z4 H
   obtain⟨t408,e409,H⟩:=Z4 H
   refine sR hP hn hm [(4,.call [] [(0,4)] [] [4] 0 (.own 0) [(0,some (.row 2 78 (t406.map Z0)))]),(9,.call [] [(0,5)] [] [5] 0 (.own 0) [(0,some (.row 2 78 (t408.map Z0)))])] [(7,.own 4),(8,.own 5)] [2,4,7,8] [(4,some (.row 2 78 (t406.map Z0))),(5,some (.row 2 78 (t408.map Z0)))] [2,3,4,5] [_,_,_,_] ⟨Try.call81,Z1a.ok a0.f6 a0.f1 a1 t406 e407,Try.call81,Z1a.ok a0.f7 a0.f1 a1 t408 e409,trivial⟩ ?_
   refine AWp.seq ?_
   refine AWp.conv (inv:=[(2,2),(3,3)]) (vk:=[4,5]) (e0:=[]) (t:=⟨[(2,.ptr 2 0 0),(4,.ptr 3 0 0),(7,.im (.row (t406.map Z0))),(8,.im (.row (t408.map Z0)))],[(2,some (.box 36 (Zx ⟨a0.f0,a1,a0.f2,a0.f3,a0.f4,a0.f5,a0.f6,a0.f7⟩))),(3,some (.box 36 [iV .i64 0,iV .i64 0,iV .i64 0,iV .u64 0,iV .u64 0,iV .i64 0,.none0,.none0]))],0⟩) (by kernel_rfl) ?_
   obtain⟨t1239,e1240,H⟩:=Z4 H
   refine rG hP hn hm [(5,.call [] [] [] [] 0 (.tup [.agg (Zx (t1239.1)),iV .i64 t1239.2]) [])] [(5,iV .i64 t1239.2)] [4,5] [(3,some (.box 36 (Zx (t1239.1))))] [3] [_,_] ⟨Try.call82,Z1s.ok (⟨a0.f0,a1,a0.f2,a0.f3,a0.f4,a0.f5,a0.f6,a0.f7⟩:Zp) t406 t408 a0.f2 t1239 e1240,trivial⟩ ?_
   refine AWp.conv (inv:=[(3,0)]) (vk:=[]) (e0:=[]) (t:=⟨[(4,.ptr 0 0 0),(5,iV .i64 t1239.2)],[(0,some (.box 36 (Zx ((t1239.1)))))],0⟩) (by kernel_rfl) ?_
   refine AWp.ret ?_
   obtain rfl:=sj H
   exact rl (.inl rfl) rfl (by kernel_rfl) (by kernel_rfl)
def Z2m.f (a0:Zp):Option (Zp):=(Z06.f a0.f6)>>=fun t1259=>(Z06.f a0.f7)>>=fun t1261=>some (⟨a0.f0,a0.f1,a0.f2,a0.f3,a0.f4,a0.f5,t1259,t1261⟩:Zp)
theorem Z2m.ok (a0:Zp) (r:Zp) (H:Z2m.f a0=some r):Pv.Fn Try.prog 83 [.agg (Zx a0)] [] 0 (fun x o=>x = .agg [iV .i64 ((r).f0),iV .i64 ((r).f1),iV .i64 ((r).f2),iV .u64 ((r).f3),iV .u64 ((r).f4),iV .i64 ((r).f5),.own 0,.own 1]∧o=[(0,some (.row 2 78 (((r).f6).map Z0))),(1,some (.row 2 78 (((r).f7).map Z0)))]):=by
 unfold Z2m.f at H
 refine Fn.bodyK [0,1] Try.func83 rfl rfl (fun Γ hP hn => ?_)
 have hm:Try.prog.follows .mixedOrders=true:=by kernel_rfl
 replace hn:Γ.n=12:=hn
 refine sO hP hn hm [(0,.k 0),(1,.k 1)] [(1,.ptr 0 0 0),(2,.ptr 1 0 0)] [1,2] [(0,some (.box 36 (Zx a0))),(1,some (.box 36 [iV .i64 0,iV .i64 0,iV .i64 0,iV .u64 0,iV .u64 0,iV .i64 0,.none0,.none0]))] [0,1] ?_
 obtain⟨t1259,e1260,H⟩:=Z4 H
 obtain⟨t1261,e1262,H⟩:=Z4 H
 refine sR hP hn hm [(2,.call [] [(0,2)] [] [2] 0 (.own 0) [(0,some (.row 2 78 (t1259.map Z0)))]),(5,.call [] [(0,3)] [] [3] 0 (.own 0) [(0,some (.row 2 78 (t1261.map Z0)))])] [] [1,2] [(0,some (.box 36 [iV .i64 a0.f0,iV .i64 a0.f1,iV .i64 a0.f2,iV .u64 a0.f3,iV .u64 a0.f4,iV .i64 a0.f5,.own 2,.own 3])),(2,some (.row 2 78 (t1259.map Z0))),(3,some (.row 2 78 (t1261.map Z0)))] [0,1,2,3] [_,_,_,_] ⟨Try.call73,Z06.ok a0.f6 t1259 e1260,Try.call73,Z06.ok a0.f7 t1261 e1262,trivial⟩ ?_
 refine sO hP hn hm [] [] [2] [(1,some (.box 36 [iV .i64 a0.f0,iV .i64 a0.f1,iV .i64 a0.f2,iV .u64 a0.f3,iV .u64 a0.f4,iV .i64 a0.f5,.own 2,.own 3]))] [1,2,3] ?_
 refine AWp.conv (inv:=[(1,2),(2,0),(3,1)]) (vk:=[]) (e0:=[]) (t:=⟨[(2,.ptr 2 0 0)],[(0,some (.row 2 78 ((((⟨a0.f0,a0.f1,a0.f2,a0.f3,a0.f4,a0.f5,t1259,t1261⟩:Zp)).f6).map Z0))),(1,some (.row 2 78 ((((⟨a0.f0,a0.f1,a0.f2,a0.f3,a0.f4,a0.f5,t1259,t1261⟩:Zp)).f7).map Z0))),(2,some (.box 36 [iV .i64 (((⟨a0.f0,a0.f1,a0.f2,a0.f3,a0.f4,a0.f5,t1259,t1261⟩:Zp)).f0),iV .i64 (((⟨a0.f0,a0.f1,a0.f2,a0.f3,a0.f4,a0.f5,t1259,t1261⟩:Zp)).f1),iV .i64 (((⟨a0.f0,a0.f1,a0.f2,a0.f3,a0.f4,a0.f5,t1259,t1261⟩:Zp)).f2),iV .u64 (((⟨a0.f0,a0.f1,a0.f2,a0.f3,a0.f4,a0.f5,t1259,t1261⟩:Zp)).f3),iV .u64 (((⟨a0.f0,a0.f1,a0.f2,a0.f3,a0.f4,a0.f5,t1259,t1261⟩:Zp)).f4),iV .i64 (((⟨a0.f0,a0.f1,a0.f2,a0.f3,a0.f4,a0.f5,t1259,t1261⟩:Zp)).f5),.own 0,.own 1]))],0⟩) (by kernel_rfl) ?_
 refine AWp.ret ?_
 obtain rfl:=sj H
 exact rl (.inl rfl) rfl (by kernel_rfl) (by kernel_rfl)
def Z1g.f (a0:Zp) (a1:Int):Option (Zp×Int):=if(decide (a1<a0.f2))=true then(some ((⟨0,0,0,0,0,0,[],[]⟩:Zp),31)) else(if(a1==a0.f2)=true then((Z2m.f a0)>>=fun t1265=>some ((t1265),0)) else(((if(decide (a1≤(-262144)))=true then(some true) else(some (decide (a1>(262144:Int))))):Option (Bool))>>=fun x1269=>if x1269=true then(some ((⟨0,0,0,0,0,0,[],[]⟩:Zp),31)) else((Z1s.f a0 a0.f6 a0.f7 a1)>>=fun t1273=>some ((t1273.1),t1273.2))))
theorem Z1g.ok (a0:Zp) (a1:Int) (r:Zp×Int) (H:Z1g.f a0 a1=some r):Pv.Fn Try.prog 79 [.agg (Zx a0),iV .i64 a1] [] 0 (fun x o=>x = .tup [.agg (Zx (r.1)),iV .i64 r.2]∧o=[]):=by
 unfold Z1g.f at H
 refine Fn.bodyK [] Try.func79 rfl rfl (fun Γ hP hn => ?_)
 have hm:Try.prog.follows .mixedOrders=true:=by kernel_rfl
 replace hn:Γ.n=36:=hn
 refine sO hP hn hm [(0,.k 0),(1,.k 1)] [(2,.ptr 0 0 0),(4,.ptr 1 0 0)] [1,2,4] [(0,some (.box 36 (Zx a0))),(1,some (.box 36 [iV .i64 0,iV .i64 0,iV .i64 0,iV .u64 0,iV .u64 0,iV .i64 0,.none0,.none0]))] [0,1] ?_
 refine AWp.seq ?_
 refine AWp.block ?_
 refine sO hP hn hm [] [(6,bV (decide (a1<a0.f2)))] [1,2,4,6] [] [0,1] ?_
 refine AWp.cond (decide (a1<a0.f2)) (by kernel_rfl) (fun c1253 => ?_) (fun c1253 => ?_)
 ·replace H:=iT c1253 H
  refine sO hP hn hm [] [(5,iV .i64 31)] [4,5] [] [1] ?_
  refine AWp.conv (inv:=[(1,0)]) (vk:=[]) (e0:=[]) (t:=⟨[(4,.ptr 0 0 0),(5,iV .i64 31)],[(0,some (.box 36 (Zx ((⟨0,0,0,0,0,0,[],[]⟩:Zp)))))],0⟩) (by kernel_rfl) ?_
  refine AWp.ret ?_
  obtain rfl:=sj H
  exact rl (.inl rfl) rfl (by kernel_rfl) (by kernel_rfl)
 ·replace H:=iF c1253 H
  refine sO hP hn hm [] [(12,bV (a1==a0.f2))] [1,2,4,12] [] [0,1] ?_
  refine AWp.cond (a1==a0.f2) (by kernel_rfl) (fun c1254 => ?_) (fun c1254 => ?_)
  ·replace H:=iT c1254 H
   obtain⟨t1265,e1266,H⟩:=Z4 H
   refine sR hP hn hm [(1,.call [] [(0,2),(1,3)] [] [2,3] 0 (.agg [iV .i64 ((t1265).f0),iV .i64 ((t1265).f1),iV .i64 ((t1265).f2),iV .u64 ((t1265).f3),iV .u64 ((t1265).f4),iV .i64 ((t1265).f5),.own 0,.own 1]) [(0,some (.row 2 78 (((t1265).f6).map Z0))),(1,some (.row 2 78 (((t1265).f7).map Z0)))])] [(5,iV .i64 0)] [4,5] [(1,some (.box 36 [iV .i64 ((t1265).f0),iV .i64 ((t1265).f1),iV .i64 ((t1265).f2),iV .u64 ((t1265).f3),iV .u64 ((t1265).f4),iV .i64 ((t1265).f5),.own 2,.own 3])),(2,some (.row 2 78 (((t1265).f6).map Z0))),(3,some (.row 2 78 (((t1265).f7).map Z0)))] [1,2,3] [_,_] ⟨Try.call83,Z2m.ok a0 t1265 e1266,trivial⟩ ?_
   refine AWp.conv (inv:=[(1,0)]) (vk:=[2,3]) (e0:=[]) (t:=⟨[(4,.ptr 0 0 0),(5,iV .i64 0)],[(0,some (.box 36 (Zx ((t1265)))))],0⟩) (by kernel_rfl) ?_
   refine AWp.ret ?_
   obtain rfl:=sj H
   exact rl (.inl rfl) rfl (by kernel_rfl) (by kernel_rfl)
  ·replace H:=iF c1254 H
   refine AWp.seq ?_
   obtain⟨o1275,e1276,H⟩:=Z4 H
   refine AWp.mono (Q:=fun e s=>(match (generalizing:=false) o1275 with | x1269=>e = .normal∧s=⟨[(1,iV .i64 a1),(2,.ptr 4 0 0),(4,.ptr 5 0 0),(19,bV x1269)],[(4,some (.box 36 (Zx a0))),(5,some (.box 36 [iV .i64 0,iV .i64 0,iV .i64 0,iV .u64 0,iV .u64 0,iV .i64 0,.none0,.none0]))],0⟩)) (AWp.cv ?_) ?_
   ·replace H:=e1276;clear e1276
    rcases Bool.eq_false_or_eq_true (decide (a1≤(-262144))) with c1268 | c1268
    ·replace H:=iT c1268 H
     refine rG hP hn hm [(2,.b true)] [(19,bV true)] [1,2,4,19] [] [0,1] [_] ⟨c1268,trivial⟩ ?_
     obtain rfl:=sj H
     exact lf [(0,4),(1,5)] [] [] (by kernel_rfl) ⟨rfl,rfl⟩
    ·replace H:=iF c1268 H
     refine rG hP hn hm [(2,.b false)] [(19,bV (decide (a1>(262144:Int))))] [1,2,4,19] [] [0,1] [_] ⟨c1268,trivial⟩ ?_
     obtain rfl:=sj H
     exact lf [(0,4),(1,5)] [] [] (by kernel_rfl) ⟨rfl,rfl⟩
   ·obtain⟨x1269,rfl⟩:∃ z,z=o1275:=⟨_,rfl⟩
    rintro e s ⟨rfl,rfl⟩
    refine AWp.cond x1269 (by kernel_rfl) (fun c1270 => ?_) (fun c1270 => ?_)
    ·replace H:=iT c1270 H
     refine sO hP hn hm [] [(5,iV .i64 31)] [4,5] [] [5] ?_
     refine AWp.conv (inv:=[(5,0)]) (vk:=[]) (e0:=[]) (t:=⟨[(4,.ptr 0 0 0),(5,iV .i64 31)],[(0,some (.box 36 (Zx ((⟨0,0,0,0,0,0,[],[]⟩:Zp)))))],0⟩) (by kernel_rfl) ?_
     refine AWp.ret ?_
     obtain rfl:=sj H
     exact rl (.inl rfl) rfl (by kernel_rfl) (by kernel_rfl)
    ·replace H:=iF c1270 H
     refine AWp.skip ?_
     obtain⟨t1273,e1274,H⟩:=Z4 H
     refine sR hP hn hm [(6,.call [] [] [] [] 0 (.tup [.agg (Zx (t1273.1)),iV .i64 t1273.2]) [])] [(5,iV .i64 t1273.2)] [4,5] [(5,some (.box 36 (Zx (t1273.1))))] [5] [_,_] ⟨Try.call82,Z1s.ok a0 a0.f6 a0.f7 a1 t1273 e1274,trivial⟩ ?_
     refine AWp.conv (inv:=[(5,0)]) (vk:=[]) (e0:=[]) (t:=⟨[(4,.ptr 0 0 0),(5,iV .i64 t1273.2)],[(0,some (.box 36 (Zx ((t1273.1)))))],0⟩) (by kernel_rfl) ?_
     refine AWp.ret ?_
     obtain rfl:=sj H
     exact rl (.inl rfl) rfl (by kernel_rfl) (by kernel_rfl)
def Z0s.l0  (v:Int×Int×Int×Int×Int×Int×(List Z2)×(List Z2)×Int×Int×Int×Int×Int×Int×(List Z2)×(List Z2)):Option ((Zp×Zp×Int) ⊕ (Int×Int×Int×Int×Int×Int×(List Z2)×(List Z2)×Int×Int×Int×Int×Int×Int×(List Z2)×(List Z2))):=match v with
 | (x1286,x1287,x1288,x1289,x1290,x1291,x1292,x1293,x1294,x1295,x1296,x1297,x1298,x1299,x1300,x1301)=>if(x1288 != x1296)=true then((Z1g.f (⟨x1286,x1287,x1288,x1289,x1290,x1291,x1292,x1293⟩:Zp) (if x1296>x1288 then x1296 else x1288))>>=fun t1305=>(Z1g.f (⟨x1294,x1295,x1296,x1297,x1298,x1299,x1300,x1301⟩:Zp) (if x1296>x1288 then x1296 else x1288))>>=fun t1309=>if((if t1309.2>t1305.2 then t1309.2 else t1305.2) != (0:Int))=true then(some (.inl ((⟨0,0,0,0,0,0,[],[]⟩:Zp),(⟨0,0,0,0,0,0,[],[]⟩:Zp),(if t1309.2>t1305.2 then t1309.2 else t1305.2)))) else(Z0s.l0  ((t1305.1).f0,(t1305.1).f1,(t1305.1).f2,(t1305.1).f3,(t1305.1).f4,(t1305.1).f5,(t1305.1).f6,(t1305.1).f7,(t1309.1).f0,(t1309.1).f1,(t1309.1).f2,(t1309.1).f3,(t1309.1).f4,(t1309.1).f5,(t1309.1).f6,(t1309.1).f7))) else(some (.inr (x1286,x1287,x1288,x1289,x1290,x1291,x1292,x1293,x1294,x1295,x1296,x1297,x1298,x1299,x1300,x1301)))
partial_fixpoint
def Z0s.f (a0:Zp) (a1:Zp):Option (Zp×Zp×Int):=(Z23.f a0 (if a1.f1<a0.f1 then a1.f1 else a0.f1))>>=fun t1245=>(Z23.f a1 (if a1.f1<a0.f1 then a1.f1 else a0.f1))>>=fun t1249=>if((if t1249.2>t1245.2 then t1249.2 else t1245.2) != (0:Int))=true then(some ((⟨0,0,0,0,0,0,[],[]⟩:Zp),(⟨0,0,0,0,0,0,[],[]⟩:Zp),(if t1249.2>t1245.2 then t1249.2 else t1245.2))) else((Z0s.l0  ((t1245.1).f0,(t1245.1).f1,(t1245.1).f2,(t1245.1).f3,(t1245.1).f4,(t1245.1).f5,(t1245.1).f6,(t1245.1).f7,(t1249.1).f0,(t1249.1).f1,(t1249.1).f2,(t1249.1).f3,(t1249.1).f4,(t1249.1).f5,(t1249.1).f6,(t1249.1).f7))>>=fun oo=>match oo with | .inl rr=>(some rr) | .inr (x1312,x1313,x1314,x1315,x1316,x1317,x1318,x1319,x1320,x1321,x1322,x1323,x1324,x1325,x1326,x1327)=>(some ((⟨x1312,x1313,x1314,x1315,x1316,x1317,x1318,x1319⟩:Zp),(⟨x1320,x1321,x1322,x1323,x1324,x1325,x1326,x1327⟩:Zp),0)))
theorem Z0s.ok (a0:Zp) (a1:Zp) (r:Zp×Zp×Int) (H:Z0s.f a0 a1=some r):Pv.Fn Try.prog 69 [.agg (Zx a0),.agg (Zx a1)] [] 0 (fun x o=>x = .tup [.agg (Zx (r.1)),.agg (Zx (r.2.1)),iV .i64 r.2.2]∧o=[]):=by
 unfold Z0s.f at H
 refine Fn.bodyK [] Try.func69 rfl rfl (fun Γ hP hn => ?_)
 have hm:Try.prog.follows .mixedOrders=true:=by kernel_rfl
 replace hn:Γ.n=68:=hn
 refine sO hP hn hm [(0,.k 0),(1,.k 1),(2,.k 2),(3,.k 3)] [(2,.ptr 0 0 0),(3,.ptr 1 0 0),(4,.ptr 2 0 0),(5,.ptr 3 0 0)] [2,3,4,5] [(0,some (.box 36 (Zx a0))),(1,some (.box 36 (Zx a1))),(2,some (.box 36 [iV .i64 0,iV .i64 0,iV .i64 0,iV .u64 0,iV .u64 0,iV .i64 0,.none0,.none0])),(3,some (.box 36 [iV .i64 0,iV .i64 0,iV .i64 0,iV .u64 0,iV .u64 0,iV .i64 0,.none0,.none0]))] [0,1,2,3] ?_
 refine sO hP hn hm [(4,.more xMin)] [(7,iV .i64 (if a1.f1<a0.f1 then a1.f1 else a0.f1))] [2,3,4,5,7] [] [0,1,2,3] ?_
 obtain⟨t1245,e1246,H⟩:=Z4 H
 refine sR hP hn hm [(2,.call [] [] [] [] 0 (.tup [.agg (Zx (t1245.1)),iV .i64 t1245.2]) [])] [(8,iV .i64 t1245.2)] [2,3,4,5,7,8] [(0,some (.box 36 (Zx (t1245.1))))] [0,1,2,3] [_,_] ⟨Try.call78,Z23.ok a0 (if a1.f1<a0.f1 then a1.f1 else a0.f1) t1245 e1246,trivial⟩ ?_
 obtain⟨t1249,e1250,H⟩:=Z4 H
 refine sR hP hn hm [(2,.call [] [] [] [] 0 (.tup [.agg (Zx (t1249.1)),iV .i64 t1249.2]) [])] [(9,iV .i64 t1249.2)] [2,3,4,5,8,9] [(1,some (.box 36 (Zx (t1249.1))))] [0,1,2,3] [_,_] ⟨Try.call78,Z23.ok a1 (if a1.f1<a0.f1 then a1.f1 else a0.f1) t1249 e1250,trivial⟩ ?_
 refine AWp.seq ?_
 refine sO hP hn hm [(2,.more xMax)] [(8,iV .i64 (if t1249.2>t1245.2 then t1249.2 else t1245.2))] [2,3,4,5,8] [] [0,1,2,3] ?_
 refine sO hP hn hm [] [(32,bV ((if t1249.2>t1245.2 then t1249.2 else t1245.2) != (0:Int)))] [2,3,4,5,8,32] [] [0,1,2,3] ?_
 refine AWp.cond ((if t1249.2>t1245.2 then t1249.2 else t1245.2) != (0:Int)) (by kernel_rfl) (fun c1251 => ?_) (fun c1251 => ?_)
 ·replace H:=iT c1251 H
  refine sO hP hn hm [] [(6,iV .i64 (if t1249.2>t1245.2 then t1249.2 else t1245.2))] [4,5,6] [] [2,3] ?_
  refine AWp.conv (inv:=[(2,0),(3,1)]) (vk:=[]) (e0:=[]) (t:=⟨[(4,.ptr 0 0 0),(5,.ptr 1 0 0),(6,iV .i64 (if t1249.2>t1245.2 then t1249.2 else t1245.2))],[(0,some (.box 36 (Zx ((⟨0,0,0,0,0,0,[],[]⟩:Zp))))),(1,some (.box 36 (Zx ((⟨0,0,0,0,0,0,[],[]⟩:Zp)))))],0⟩) (by kernel_rfl) ?_
  refine AWp.ret ?_
  obtain rfl:=sj H
  exact rl (.inl rfl) rfl (by kernel_rfl) (by kernel_rfl)
 ·replace H:=iF c1251 H
  refine AWp.skip ?_
  refine AWp.seq ?_
  refine AWp.block ?_
  obtain⟨o1328,e1329,H⟩:=Z4 H
  refine AWp.loop (LWp.conv (inv:=[(0,4),(1,5),(2,6),(3,7)]) (vk:=[]) (e0:=[]) (t:=⟨[(2,.ptr 4 0 0),(3,.ptr 5 0 0),(4,.ptr 6 0 0),(5,.ptr 7 0 0)],[(4,some (.box 36 (Zx (t1245.1)))),(5,some (.box 36 (Zx (t1249.1)))),(6,some (.box 36 [iV .i64 0,iV .i64 0,iV .i64 0,iV .u64 0,iV .u64 0,iV .i64 0,.none0,.none0])),(7,some (.box 36 [iV .i64 0,iV .i64 0,iV .i64 0,iV .u64 0,iV .u64 0,iV .i64 0,.none0,.none0]))],0⟩) (by kernel_rfl) ?_)
  refine LWp.mono (Q:=fun e s=>(match (generalizing:=false) o1328 with | .inl rr=>e = .ret∧s.floor=0∧Z2f Try.prog Try.f69 s=some (.tup [.agg (Zx (rr.1)),.agg (Zx (rr.2.1)),iV .i64 rr.2.2])∧([]:List (Nat×Option MObj))=[] | .inr (x1312,x1313,x1314,x1315,x1316,x1317,x1318,x1319,x1320,x1321,x1322,x1323,x1324,x1325,x1326,x1327)=>e = .exit 0∧s=⟨[(2,.ptr 8 0 0),(3,.ptr 9 0 0),(4,.ptr 10 0 0),(5,.ptr 11 0 0)],[(8,some (.box 36 (Zx ⟨x1312,x1313,x1314,x1315,x1316,x1317,x1318,x1319⟩))),(9,some (.box 36 (Zx ⟨x1320,x1321,x1322,x1323,x1324,x1325,x1326,x1327⟩))),(10,some (.box 36 [iV .i64 0,iV .i64 0,iV .i64 0,iV .u64 0,iV .u64 0,iV .i64 0,.none0,.none0])),(11,some (.box 36 [iV .i64 0,iV .i64 0,iV .i64 0,iV .u64 0,iV .u64 0,iV .i64 0,.none0,.none0]))],0⟩)) (LWp.cv (Z07 (fun body hbody => ?_))) ?_
  ·refine          Z0s.l0.partial_correctness  (motive:=fun v o1328=>(match (generalizing:=false) v with | (x1286,x1287,x1288,x1289,x1290,x1291,x1292,x1293,x1294,x1295,x1296,x1297,x1298,x1299,x1300,x1301)=>LWp Γ body (fun e s=>∃ t,Cv Γ s t∧(match (generalizing:=false) o1328 with | .inl rr=>e = .ret∧t.floor=0∧Z2f   Try.prog Try.f69 t=some (.tup [.agg (Zx    (rr.1)),.agg (Zx    (rr.2.1)),iV .i64 rr.2.2])∧([]:List (Nat×Option MObj))=[] | .inr (x1312,x1313,x1314,x1315,x1316,x1317,x1318,x1319,x1320,x1321,x1322,x1323,x1324,x1325,x1326,x1327)=>e = .exit 0∧t=⟨[(2,.ptr 8 0 0),(3,.ptr 9 0 0),(4,.ptr 10 0 0),(5,.ptr 11 0 0)],[(8,some (.box 36 (Zx    ⟨x1312,x1313,x1314,x1315,x1316,x1317,x1318,x1319⟩))),(9,some (.box 36 (Zx    ⟨x1320,x1321,x1322,x1323,x1324,x1325,x1326,x1327⟩))),(10,some (.box 36 [iV .i64 0,iV .i64 0,iV .i64 0,iV .u64 0,iV .u64 0,iV .i64 0,.none0,.none0])),(11,some (.box 36 [iV .i64 0,iV .i64 0,iV .i64 0,iV .u64 0,iV .u64 0,iV .i64 0,.none0,.none0]))],0⟩)) ⟨[(2,.ptr 4 0 0),(3,.ptr 5 0 0),(4,.ptr 6 0 0),(5,.ptr 7 0 0)],[(4,some (.box 36 (Zx    ⟨x1286,x1287,x1288,x1289,x1290,x1291,x1292,x1293⟩))),(5,some (.box 36 (Zx    ⟨x1294,x1295,x1296,x1297,x1298,x1299,x1300,x1301⟩))),(6,some (.box 36 [iV .i64 0,iV .i64 0,iV .i64 0,iV .u64 0,iV .u64 0,iV .i64 0,.none0,.none0])),(7,some (.box 36 [iV .i64 0,iV .i64 0,iV .i64 0,iV .u64 0,iV .u64 0,iV .i64 0,.none0,.none0]))],0⟩)) ?_ _ _ e1329
   clear H e1329 o1328;intro self ih v o1328 H
   obtain⟨x1286,x1287,x1288,x1289,x1290,x1291,x1292,x1293,x1294,x1295,x1296,x1297,x1298,x1299,x1300,x1301⟩:=v
   dsimp only at H
   subst hbody
   refine LWp.round ?_
   refine AWp.seq ?_
   refine sO hP hn hm [] [(40,bV (x1288 != x1296))] [2,3,4,5,40] [] [4,5,6,7] ?_
   refine AWp.cond (x1288 != x1296) (by kernel_rfl) (fun c1302 => ?_) (fun c1302 => ?_)
   ·replace H:=iT c1302 H
    refine AWp.skip ?_
    refine AWp.block ?_
    refine sO hP hn hm [(4,.more xMax)] [(10,iV .i64 (if x1296>x1288 then x1296 else x1288))] [2,3,4,5,10] [] [4,5,6,7] ?_
    obtain⟨t1305,e1306,H⟩:=Z4 H
    refine sR hP hn hm [(2,.call [] [] [] [] 0 (.tup [.agg (Zx (t1305.1)),iV .i64 t1305.2]) [])] [(8,iV .i64 t1305.2)] [2,3,4,5,8,10] [(4,some (.box 36 (Zx (t1305.1))))] [4,5,6,7] [_,_] ⟨Try.call79,Z1g.ok (⟨x1286,x1287,x1288,x1289,x1290,x1291,x1292,x1293⟩:Zp) (if x1296>x1288 then x1296 else x1288) t1305 e1306,trivial⟩ ?_
    obtain⟨t1309,e1310,H⟩:=Z4 H
    refine sR hP hn hm [(2,.call [] [] [] [] 0 (.tup [.agg (Zx (t1309.1)),iV .i64 t1309.2]) [])] [(9,iV .i64 t1309.2)] [2,3,4,5,8,9] [(5,some (.box 36 (Zx (t1309.1))))] [4,5,6,7] [_,_] ⟨Try.call79,Z1g.ok (⟨x1294,x1295,x1296,x1297,x1298,x1299,x1300,x1301⟩:Zp) (if x1296>x1288 then x1296 else x1288) t1309 e1310,trivial⟩ ?_
    refine sO hP hn hm [(2,.more xMax)] [(8,iV .i64 (if t1309.2>t1305.2 then t1309.2 else t1305.2))] [2,3,4,5,8] [] [4,5,6,7] ?_
    refine sO hP hn hm [] [(62,bV ((if t1309.2>t1305.2 then t1309.2 else t1305.2) != (0:Int)))] [2,3,4,5,8,62] [] [4,5,6,7] ?_
    refine AWp.cond ((if t1309.2>t1305.2 then t1309.2 else t1305.2) != (0:Int)) (by kernel_rfl) (fun c1311 => ?_) (fun c1311 => ?_)
    ·replace H:=iT c1311 H
     refine sO hP hn hm [] [(6,iV .i64 (if t1309.2>t1305.2 then t1309.2 else t1305.2))] [4,5,6] [] [6,7] ?_
     refine AWp.conv (inv:=[(6,0),(7,1)]) (vk:=[]) (e0:=[]) (t:=⟨[(4,.ptr 0 0 0),(5,.ptr 1 0 0),(6,iV .i64 (if t1309.2>t1305.2 then t1309.2 else t1305.2))],[(0,some (.box 36 (Zx ((⟨0,0,0,0,0,0,[],[]⟩:Zp))))),(1,some (.box 36 (Zx ((⟨0,0,0,0,0,0,[],[]⟩:Zp)))))],0⟩) (by kernel_rfl) ?_
     refine AWp.ret ?_
     obtain rfl:=sj H
     exact rl rfl rfl (by kernel_rfl) (by kernel_rfl)
    ·replace H:=iF c1311 H
     refine AWp.skip ?_
     exact LWp.conv [(4,4),(5,5),(6,6),(7,7)] [] [] (by kernel_rfl) (ih _ _ H)
   ·replace H:=iF c1302 H
    refine AWp.exit ?_
    obtain rfl:=sj H
    exact lf [(4,8),(5,9),(6,10),(7,11)] [] [] (by kernel_rfl) ⟨rfl,rfl⟩
  ·rcases o1328 with rr | ⟨x1312,x1313,x1314,x1315,x1316,x1317,x1318,x1319,x1320,x1321,x1322,x1323,x1324,x1325,x1326,x1327⟩
   ·skip
    rintro e s ⟨rfl,hfl,hres⟩
    obtain rfl:=sj H
    exact Exists.intro _ (And.intro (fun _ _ h=>h) (And.intro (.inl rfl) (And.intro hfl hres)))
   ·skip
    rintro e s ⟨rfl,rfl⟩
    refine sO hP hn hm [] [(6,iV .i64 0)] [4,5,6] [(10,some (.box 36 (Zx ⟨x1312,x1313,x1314,x1315,x1316,x1317,x1318,x1319⟩))),(11,some (.box 36 (Zx ⟨x1320,x1321,x1322,x1323,x1324,x1325,x1326,x1327⟩)))] [10,11] ?_
    refine AWp.conv (inv:=[(10,0),(11,1)]) (vk:=[]) (e0:=[]) (t:=⟨[(4,.ptr 0 0 0),(5,.ptr 1 0 0),(6,iV .i64 0)],[(0,some (.box 36 (Zx ((⟨x1312,x1313,x1314,x1315,x1316,x1317,x1318,x1319⟩:Zp))))),(1,some (.box 36 (Zx ((⟨x1320,x1321,x1322,x1323,x1324,x1325,x1326,x1327⟩:Zp)))))],0⟩) (by kernel_rfl) ?_
    refine AWp.ret ?_
    obtain rfl:=sj H
    exact rl (.inl rfl) rfl (by kernel_rfl) (by kernel_rfl)
end Go.Proofs.Ytlclecehlekjoaa.PvGE
