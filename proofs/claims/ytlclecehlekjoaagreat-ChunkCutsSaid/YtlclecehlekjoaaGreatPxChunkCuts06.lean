import Derived.Test.YtlclecehlekjoaaGreatProg
import Derived.Test.YtlclecehlekjoaaGreatPxChunkCuts05
set_option linter.unusedVariables false
set_option linter.unnecessarySimpa false
set_option linter.unusedSimpArgs false
set_option maxRecDepth 10000
namespace Go.Proofs.YtlclecehlekjoaaGreat.PvGK
open Go Go.Pv Go.IntKind
structure Z2 where
 f0:Int
 f1:Int
 deriving DecidableEq,Inhabited
abbrev Z0 (x:Z2):List Im:=[iI .i64 x.f0,iI .u64 x.f1]
abbrev Z2b (x:Z2):List AVal:=[iV .i64 x.f0,iV .u64 x.f1]
structure RBucket (x:Z2):Prop where
 r0:I64 x.f0
 r1:U64 x.f1
structure Ze where
 f0:Int
 f1:Int
 f2:Int
 f3:Int
 f4:Int
 f5:Int
 f6:List Z2
 f7:List Z2
 deriving DecidableEq,Inhabited
abbrev eHist (x:Ze):List Im:=[iI .i64 x.f0,iI .i64 x.f1,iI .i64 x.f2,iI .u64 x.f3,iI .u64 x.f4,iI .i64 x.f5,.row (x.f6.map Z0),.row (x.f7.map Z0)]
abbrev Zh (x:Ze):List AVal:=[iV .i64 x.f0,iV .i64 x.f1,iV .i64 x.f2,iV .u64 x.f3,iV .u64 x.f4,iV .i64 x.f5,.im (.row (x.f6.map Z0)),.im (.row (x.f7.map Z0))]
structure RHist (x:Ze):Prop where
 r0:I64 x.f0
 r1:I64 x.f1
 r2:I64 x.f2
 r3:U64 x.f3
 r4:U64 x.f4
 r5:I64 x.f5
 r6:x.f6.length≤140737488351232∧∀ y∈x.f6,RBucket y
 r7:x.f7.length≤140737488351232∧∀ y∈x.f7,RBucket y
structure Za where
 f0:Int
 f1:Ze
 deriving DecidableEq,Inhabited
abbrev Z4 (x:Za):List Im:=[iI .i64 x.f0,iI .i64 x.f1.f0,iI .i64 x.f1.f1,iI .i64 x.f1.f2,iI .u64 x.f1.f3,iI .u64 x.f1.f4,iI .i64 x.f1.f5,.row (x.f1.f6.map Z0),.row (x.f1.f7.map Z0)]
abbrev aSample (x:Za):List AVal:=[iV .i64 x.f0,iV .i64 x.f1.f0,iV .i64 x.f1.f1,iV .i64 x.f1.f2,iV .u64 x.f1.f3,iV .u64 x.f1.f4,iV .i64 x.f1.f5,.im (.row (x.f1.f6.map Z0)),.im (.row (x.f1.f7.map Z0))]
structure RSample (x:Za):Prop where
 r0:I64 x.f0
 r1:RHist x.f1
structure Z24 where
 f0:Int
 f1:Int
 deriving DecidableEq,Inhabited
abbrev Z02 (x:Z24):List Im:=[iI .i64 x.f0,iI .i64 x.f1]
abbrev aSpan (x:Z24):List AVal:=[iV .i64 x.f0,iV .i64 x.f1]
structure RSpan (x:Z24):Prop where
 r0:I64 x.f0
 r1:I64 x.f1
structure Zc where
 f0:Int
 f1:List Z24
 deriving DecidableEq,Inhabited
abbrev Zb (x:Zc):List AVal:=[iV .i64 x.f0,.im (.row (x.f1.map Z02))]
structure Rspan_Layout (x:Zc):Prop where
 r0:I64 x.f0
 r1:x.f1.length≤140737488351232∧∀ y∈x.f1,RSpan y
structure Tbits_Writer where
 f0:List Int
 f1:Int
 deriving DecidableEq,Inhabited
structure Rbits_Writer (x:Tbits_Writer):Prop where
 r0:x.f0.length≤140737488351232∧∀ y∈x.f0,Rng 0 256 y
 r1:U64 x.f1
structure Z7p where
 f0:List Int
 f1:Int
 f2:Int
 deriving DecidableEq,Inhabited
abbrev Z5 (x:Z7p):List AVal:=[.im (.row (x.f0.map (Z1 .u8))),iV .i64 x.f1,iV .i64 x.f2]
structure Rbits_Reader (x:Z7p):Prop where
 r0:x.f0.length≤140737488351232∧∀ y∈x.f0,Rng 0 256 y
 r1:I64 x.f1
 r2:I64 x.f2
def Z19.l0 (a0:List Za) (x8:Int) (x9:Int):Option (Int):=if(decide (x9<(a0.length:Int)))=true then((at? a0 x9)>>=fun b14=>Z19.l0 a0 (i64.wrap (x8+(i64.wrap ((i64.wrap ((b14.f1.f6.length:Int)+(b14.f1.f7.length:Int)))+(1:Int))))) (i64.wrap (x9+(1:Int)))) else(some x8)
partial_fixpoint
def Z19.f (a0:List Za):Option (Bool):=(Z19.l0 a0 0 0)>>=fun x17=>some (decide (x17≤(700:Int)))
theorem Z19.ok (a0:List Za) (r:Bool) (H:Z19.f a0=some r):Pv.Fn Tryz.prog 6 [.im (.row (a0.map Z4))] [] 0 (fun x o=>x=bV r∧o=[]):=by
 unfold Z19.f at H
 refine Fn.bodyK [] Tryz.func6 rfl rfl (fun Γ hP hn => ?_)
 have hm:Tryz.prog.follows .mixedOrders=true:=by kernel_rfl
 replace hn:Γ.n=27:=hn
 refine sO hP hn hm [] [] [0] [] [] ?_
 refine sO hP hn hm [] [(3,iV .i64 0)] [0,3] [] [] ?_
 refine AWp.seq ?_
 refine sR hP hn hm [(1,.any (iV .i64 (a0.length:Int)))] [(6,.im (.row (a0.map Z4))),(7,iV .i64 (a0.length:Int)),(8,iV .i64 0)] [3,6,7,8] [] [] [((a0.map Z4).length:Int)=(a0.length:Int)] ⟨by rw[Zi],trivial⟩ ?_
 refine AWp.block ?_
 obtain⟨o18,e19,H⟩:=Z3 H
 refine AWp.loop (LWp.conv (inv:=[]) (vk:=[]) (e0:=[]) (t:=⟨[(3,iV .i64 0),(6,.im (.row (a0.map Z4))),(7,iV .i64 (a0.length:Int)),(8,iV .i64 0)],[],0⟩) (by kernel_rfl) ?_)
 refine LWp.mono (Q:=fun e s=>(match (generalizing:=false) o18 with | x17=>e = .exit 0∧s=⟨[(3,iV .i64 x17)],[],0⟩)) (LWp.cv (Zn (fun body hbody => ?_))) ?_
 ·refine         Z19.l0.partial_correctness a0 (motive:=fun x8 x9 o18=>LWp Γ body (fun e s=>∃ t,Cv Γ s t∧(match (generalizing:=false) o18 with | x17=>e = .exit 0∧t=⟨[(3,iV .i64 x17)],[],0⟩)) ⟨[(3,iV .i64 x8),(6,.im (.row (a0.map Z4     ))),(7,iV .i64 (a0.length:Int)),(8,iV .i64 x9)],[],0⟩) ?_ _ _ _ e19
  clear H e19 o18;intro self ih x8 x9 o18 H
  subst hbody
  refine LWp.round ?_
  refine sO hP hn hm [] [(9,bV (decide (x9<(a0.length:Int))))] [3,6,7,8,9] [] [] ?_
  refine AWp.seq ?_
  refine AWp.cond (decide (x9<(a0.length:Int))) (by kernel_rfl) (fun c10 => ?_) (fun c10 => ?_)
  ·replace H:=iT c10 H
   refine AWp.skip ?_
   refine AWp.seq ?_
   refine AWp.block ?_
   obtain⟨b14,p15,q16,H⟩:=Z03 H
   refine sR hP hn hm [(0,.c (Z4 b14)),(2,.k 1)] [(5,.ptr 1 0 0)] [3,5,6,7,8] [(1,some (.box 41 [iV .i64 b14.f0,iV .i64 b14.f1.f0,iV .i64 b14.f1.f1,iV .i64 b14.f1.f2,iV .u64 b14.f1.f3,iV .u64 b14.f1.f4,iV .i64 b14.f1.f5,.im (.row (b14.f1.f6.map Z0)),.im (.row (b14.f1.f7.map Z0))]))] [1] [_,_] ⟨p15,Zf Z4 q16,trivial⟩ ?_
   refine rG hP hn hm [(4,.any (iV .i64 (b14.f1.f6.length:Int))),(8,.any (iV .i64 (b14.f1.f7.length:Int)))] [(3,iV .i64 (i64.wrap (x8+(i64.wrap ((i64.wrap ((b14.f1.f6.length:Int)+(b14.f1.f7.length:Int)))+(1:Int))))))] [3,6,7,8] [] [] [((b14.f1.f6.map Z0).length:Int)=(b14.f1.f6.length:Int),((b14.f1.f7.map Z0).length:Int)=(b14.f1.f7.length:Int)] ⟨by rw[Zi],by rw[Zi],trivial⟩ ?_
   refine rO hP hn hm [] [(8,iV .i64 (i64.wrap (x9+(1:Int))))] [3,6,7,8] [] [] ?_
   exact LWp.conv [] [] [] (by kernel_rfl) (ih _ _ _ H)
  ·replace H:=iF c10 H
   refine AWp.exit ?_
   obtain rfl:=sj H
   exact lf [] [] [] (by kernel_rfl) ⟨rfl,rfl⟩
 ·obtain⟨x17,rfl⟩:∃ z,z=o18:=⟨_,rfl⟩
  rintro e s ⟨rfl,rfl⟩
  refine sO hP hn hm [] [(2,bV (decide (x17≤(700:Int))))] [2] [] [] ?_
  refine AWp.conv (inv:=[]) (vk:=[]) (e0:=[]) (t:=⟨[(2,bV (decide (x17≤(700:Int))))],[],0⟩) (by kernel_rfl) ?_
  refine AWp.ret ?_
  obtain rfl:=sj H
  exact rl (.inl rfl) rfl (by kernel_rfl) (by kernel_rfl)
def Z45.f (a0:Int) (a1:Int):Option (Ze):=some (⟨a0,a1,(-524288),0,0,0,[],[]⟩:Ze)
theorem Z45.ok (a0:Int) (a1:Int) (r:Ze) (H:Z45.f a0 a1=some r):Pv.Fn Tryz.prog 18 [iV .i64 a0,iV .i64 a1] [] 0 (fun x o=>x = .agg (Zh (r))∧o=[]):=by
 unfold Z45.f at H
 refine Fn.bodyK [] Tryz.func18 rfl rfl (fun Γ hP hn => ?_)
 have hm:Tryz.prog.follows .mixedOrders=true:=by kernel_rfl
 replace hn:Γ.n=8:=hn
 refine sO hP hn hm [(0,.k 0)] [(4,.ptr 0 0 0)] [0,1,4] [(0,some (.box 39 [iV .i64 0,iV .i64 0,iV .i64 0,iV .u64 0,iV .u64 0,iV .i64 0,.none0,.none0]))] [0] ?_
 refine sO hP hn hm [] [] [4] [(0,some (.box 39 [iV .i64 a0,iV .i64 a1,iV .i64 (-524288),iV .u64 0,iV .u64 0,iV .i64 0,.none0,.none0]))] [0] ?_
 refine AWp.conv (inv:=[(0,0)]) (vk:=[]) (e0:=[]) (t:=⟨[(4,.ptr 0 0 0)],[(0,some (.box 39 (Zh ((⟨a0,a1,(-524288),0,0,0,[],[]⟩:Ze)))))],0⟩) (by kernel_rfl) ?_
 refine AWp.ret ?_
 obtain rfl:=sj H
 exact rl (.inl rfl) rfl (by kernel_rfl) (by kernel_rfl)
def Zu.f (a0:Int):Option (Bool):=((if(decide (a0≥(-4)))=true then(some (decide (a0≤(8:Int)))) else(some false)):Option (Bool))>>=fun x47=>some x47
theorem Zu.ok (a0:Int) (r:Bool) (H:Zu.f a0=some r):Pv.Fn Tryz.prog 62 [iV .i64 a0] [] 0 (fun x o=>x=bV r∧o=[]):=by
 unfold Zu.f at H
 refine Fn.bodyK [] Tryz.func62 rfl rfl (fun Γ hP hn => ?_)
 have hm:Tryz.prog.follows .mixedOrders=true:=by kernel_rfl
 replace hn:Γ.n=9:=hn
 refine sO hP hn hm [] [] [0] [] [] ?_
 refine AWp.seq ?_
 obtain⟨o48,e49,H⟩:=Z3 H
 refine AWp.mono (Q:=fun e s=>(match (generalizing:=false) o48 with | x47=>e = .normal∧s=⟨[(2,bV x47)],[],0⟩)) (AWp.cv ?_) ?_
 ·replace H:=e49;clear e49
  rcases Bool.eq_false_or_eq_true (decide (a0≥(-4))) with c46 | c46
  ·replace H:=iT c46 H
   refine rG hP hn hm [(2,.b true)] [(2,bV (decide (a0≤(8:Int))))] [2] [] [] [_] ⟨c46,trivial⟩ ?_
   obtain rfl:=sj H
   exact lf [] [] [] (by kernel_rfl) ⟨rfl,rfl⟩
  ·replace H:=iF c46 H
   refine rG hP hn hm [(2,.b false)] [(2,bV false)] [2] [] [] [_] ⟨c46,trivial⟩ ?_
   obtain rfl:=sj H
   exact lf [] [] [] (by kernel_rfl) ⟨rfl,rfl⟩
 ·obtain⟨x47,rfl⟩:∃ z,z=o48:=⟨_,rfl⟩
  rintro e s ⟨rfl,rfl⟩
  refine AWp.conv (inv:=[]) (vk:=[]) (e0:=[]) (t:=⟨[(2,bV x47)],[],0⟩) (by kernel_rfl) ?_
  refine AWp.ret ?_
  obtain rfl:=sj H
  exact rl (.inl rfl) rfl (by kernel_rfl) (by kernel_rfl)
def Z2j.f (a0:Int):Option (Unit):=some ()
theorem Z2j.ok (a0:Int) (r:Unit) (H:Z2j.f a0=some r):Pv.Fn Tryz.prog 111 [iV .i64 a0] [] 0 (fun x o=>x=iV .u64 (u64.wrap (i64.wrap ((8:Int)-a0)))∧o=[]):=by
 unfold Z2j.f at H
 refine Fn.bodyK [] Tryz.func111 rfl rfl (fun Γ hP hn => ?_)
 have hm:Tryz.prog.follows .mixedOrders=true:=by kernel_rfl
 replace hn:Γ.n=6:=hn
 refine sO hP hn hm [] [] [0] [] [] ?_
 refine sO hP hn hm [] [(2,iV .u64 (u64.wrap (i64.wrap ((8:Int)-a0))))] [2] [] [] ?_
 refine AWp.conv (inv:=[]) (vk:=[]) (e0:=[]) (t:=⟨[(2,iV .u64 (u64.wrap (i64.wrap ((8:Int)-a0))))],[],0⟩) (by kernel_rfl) ?_
 refine AWp.ret ?_
 obtain rfl:=sj H
 exact rl (.inl rfl) rfl (by kernel_rfl) (by kernel_rfl)
def Z2w.f (a0:Int):Option (Int):=(Zu.f a0)>>=fun t74=>if(!t74)=true then(some 0) else((Z2j.f a0)>>=fun t80=>(chk (0≤(u64.wrap (i64.wrap ((8:Int)-a0)))))>>=fun _=>some (Int.fdiv (262144:Int) (2 ^ (min (Int.toNat (u64.wrap (i64.wrap ((8:Int)-a0)))) 64))))
theorem Z2w.ok (a0:Int) (r:Int) (H:Z2w.f a0=some r):Pv.Fn Tryz.prog 100 [iV .i64 a0] [] 0 (fun x o=>x=iV .i64 r∧o=[]):=by
 unfold Z2w.f at H
 refine Fn.bodyK [] Tryz.func100 rfl rfl (fun Γ hP hn => ?_)
 have hm:Tryz.prog.follows .mixedOrders=true:=by kernel_rfl
 replace hn:Γ.n=9:=hn
 refine sO hP hn hm [] [] [0] [] [] ?_
 refine AWp.seq ?_
 obtain⟨t74,e75,H⟩:=Z3 H
 refine sR hP hn hm [(1,.call [] [] [] [] 0 (bV t74) [])] [(5,bV (!t74))] [0,5] [] [] [_,_] ⟨Tryz.call62,Zu.ok a0 t74 e75,trivial⟩ ?_
 refine AWp.cond (!t74) (by kernel_rfl) (fun c76 => ?_) (fun c76 => ?_)
 ·replace H:=iT c76 H
  refine sO hP hn hm [] [(2,iV .i64 0)] [2] [] [] ?_
  refine AWp.conv (inv:=[]) (vk:=[]) (e0:=[]) (t:=⟨[(2,iV .i64 0)],[],0⟩) (by kernel_rfl) ?_
  refine AWp.ret ?_
  obtain rfl:=sj H
  exact rl (.inl rfl) rfl (by kernel_rfl) (by kernel_rfl)
 ·replace H:=iF c76 H
  refine AWp.skip ?_
  obtain⟨t80,e81,H⟩:=Z3 H
  obtain⟨c82,H⟩:=Z0q H
  refine sR hP hn hm [(1,.call [] [] [] [] 0 (iV .u64 (u64.wrap (i64.wrap ((8:Int)-a0)))) [])] [(2,iV .i64 (Int.fdiv (262144:Int) (2 ^ (min (Int.toNat (u64.wrap (i64.wrap ((8:Int)-a0)))) 64))))] [2] [] [] [_,_,_] ⟨Tryz.call111,Z2j.ok a0 t80 e81,c82,trivial⟩ ?_
  refine AWp.conv (inv:=[]) (vk:=[]) (e0:=[]) (t:=⟨[(2,iV .i64 (Int.fdiv (262144:Int) (2 ^ (min (Int.toNat (u64.wrap (i64.wrap ((8:Int)-a0)))) 64))))],[],0⟩) (by kernel_rfl) ?_
  refine AWp.ret ?_
  obtain rfl:=sj H
  exact rl (.inl rfl) rfl (by kernel_rfl) (by kernel_rfl)
def Z34.f (a0:Int):Option (Int):=(Z2w.f a0)>>=fun t85=>some (i64.wrap ((i64.wrap (0-t85))+(1:Int)))
theorem Z34.ok (a0:Int) (r:Int) (H:Z34.f a0=some r):Pv.Fn Tryz.prog 99 [iV .i64 a0] [] 0 (fun x o=>x=iV .i64 r∧o=[]):=by
 unfold Z34.f at H
 refine Fn.bodyK [] Tryz.func99 rfl rfl (fun Γ hP hn => ?_)
 have hm:Tryz.prog.follows .mixedOrders=true:=by kernel_rfl
 replace hn:Γ.n=7:=hn
 refine sO hP hn hm [] [] [0] [] [] ?_
 obtain⟨t85,e86,H⟩:=Z3 H
 refine sR hP hn hm [(1,.call [] [] [] [] 0 (iV .i64 t85) [])] [(2,iV .i64 (i64.wrap ((i64.wrap (0-t85))+(1:Int))))] [2] [] [] [_,_] ⟨Tryz.call100,Z2w.ok a0 t85 e86,trivial⟩ ?_
 refine AWp.conv (inv:=[]) (vk:=[]) (e0:=[]) (t:=⟨[(2,iV .i64 (i64.wrap ((i64.wrap (0-t85))+(1:Int))))],[],0⟩) (by kernel_rfl) ?_
 refine AWp.ret ?_
 obtain rfl:=sj H
 exact rl (.inl rfl) rfl (by kernel_rfl) (by kernel_rfl)
def Z3b.f (a0:Int) (a1:Int):Option (Bool):=(((Zu.f a0)>>=fun t92=>if t92=true then((Z34.f a0)>>=fun t95=>if(decide (a1≥t95))=true then((Z2w.f a0)>>=fun t98=>some (decide (a1≤t98))) else(some false)) else(some false)):Option (Bool))>>=fun x100=>some x100
theorem Z3b.ok (a0:Int) (a1:Int) (r:Bool) (H:Z3b.f a0 a1=some r):Pv.Fn Tryz.prog 87 [iV .i64 a0,iV .i64 a1] [] 0 (fun x o=>x=bV r∧o=[]):=by
 unfold Z3b.f at H
 refine Fn.bodyK [] Tryz.func87 rfl rfl (fun Γ hP hn => ?_)
 have hm:Tryz.prog.follows .mixedOrders=true:=by kernel_rfl
 replace hn:Γ.n=19:=hn
 refine sO hP hn hm [] [] [0,1] [] [] ?_
 refine AWp.seq ?_
 obtain⟨o101,e102,H⟩:=Z3 H
 refine AWp.mono (Q:=fun e s=>(match (generalizing:=false) o101 with | x100=>e = .normal∧s=⟨[(4,bV x100)],[],0⟩)) (AWp.cv ?_) ?_
 ·replace H:=e102;clear e102
  obtain⟨t92,e93,H⟩:=Z3 H
  rcases Bool.eq_false_or_eq_true t92 with c94 | c94
  ·replace H:=iT c94 H
   obtain⟨t95,e96,H⟩:=Z3 H
   rcases Bool.eq_false_or_eq_true (decide (a1≥t95)) with c97 | c97
   ·replace H:=iT c97 H
    obtain⟨t98,e99,H⟩:=Z3 H
    refine rG hP hn hm [(1,.call [] [] [] [] 0 (bV t92) []),(2,.b true),(5,.call [] [] [] [] 0 (iV .i64 t95) []),(8,.b true),(11,.call [] [] [] [] 0 (iV .i64 t98) [])] [(4,bV (decide (a1≤t98)))] [4] [] [] [_,_,_,_,_,_,_,_] ⟨Tryz.call62,Zu.ok a0 t92 e93,c94,Tryz.call99,Z34.ok a0 t95 e96,c97,Tryz.call100,Z2w.ok a0 t98 e99,trivial⟩ ?_
    obtain rfl:=sj H
    exact lf [] [] [] (by kernel_rfl) ⟨rfl,rfl⟩
   ·replace H:=iF c97 H
    refine rG hP hn hm [(1,.call [] [] [] [] 0 (bV t92) []),(2,.b true),(5,.call [] [] [] [] 0 (iV .i64 t95) []),(8,.b false)] [(4,bV false)] [4] [] [] [_,_,_,_,_,_] ⟨Tryz.call62,Zu.ok a0 t92 e93,c94,Tryz.call99,Z34.ok a0 t95 e96,c97,trivial⟩ ?_
    obtain rfl:=sj H
    exact lf [] [] [] (by kernel_rfl) ⟨rfl,rfl⟩
  ·replace H:=iF c94 H
   refine rG hP hn hm [(1,.call [] [] [] [] 0 (bV t92) []),(2,.b false)] [(4,bV false)] [4] [] [] [_,_,_] ⟨Tryz.call62,Zu.ok a0 t92 e93,c94,trivial⟩ ?_
   obtain rfl:=sj H
   exact lf [] [] [] (by kernel_rfl) ⟨rfl,rfl⟩
 ·obtain⟨x100,rfl⟩:∃ z,z=o101:=⟨_,rfl⟩
  rintro e s ⟨rfl,rfl⟩
  refine AWp.conv (inv:=[]) (vk:=[]) (e0:=[]) (t:=⟨[(4,bV x100)],[],0⟩) (by kernel_rfl) ?_
  refine AWp.ret ?_
  obtain rfl:=sj H
  exact rl (.inl rfl) rfl (by kernel_rfl) (by kernel_rfl)
def Z1c.f (a0:Int) (a1:Int):Option (Int):=(Zu.f a0)>>=fun t111=>if(!t111)=true then(some 0) else((Z2j.f a0)>>=fun t117=>(chk (0≤(u64.wrap (i64.wrap ((8:Int)-a0)))))>>=fun _=>some (i64.wrap (a1*2 ^ (min (Int.toNat (u64.wrap (i64.wrap ((8:Int)-a0)))) 64))))
theorem Z1c.ok (a0:Int) (a1:Int) (r:Int) (H:Z1c.f a0 a1=some r):Pv.Fn Tryz.prog 101 [iV .i64 a0,iV .i64 a1] [] 0 (fun x o=>x=iV .i64 r∧o=[]):=by
 unfold Z1c.f at H
 refine Fn.bodyK [] Tryz.func101 rfl rfl (fun Γ hP hn => ?_)
 have hm:Tryz.prog.follows .mixedOrders=true:=by kernel_rfl
 replace hn:Γ.n=12:=hn
 refine sO hP hn hm [] [] [0,1] [] [] ?_
 refine AWp.seq ?_
 obtain⟨t111,e112,H⟩:=Z3 H
 refine sR hP hn hm [(1,.call [] [] [] [] 0 (bV t111) [])] [(7,bV (!t111))] [0,1,7] [] [] [_,_] ⟨Tryz.call62,Zu.ok a0 t111 e112,trivial⟩ ?_
 refine AWp.cond (!t111) (by kernel_rfl) (fun c113 => ?_) (fun c113 => ?_)
 ·replace H:=iT c113 H
  refine sO hP hn hm [] [(4,iV .i64 0)] [4] [] [] ?_
  refine AWp.conv (inv:=[]) (vk:=[]) (e0:=[]) (t:=⟨[(4,iV .i64 0)],[],0⟩) (by kernel_rfl) ?_
  refine AWp.ret ?_
  obtain rfl:=sj H
  exact rl (.inl rfl) rfl (by kernel_rfl) (by kernel_rfl)
 ·replace H:=iF c113 H
  refine AWp.skip ?_
  obtain⟨t117,e118,H⟩:=Z3 H
  obtain⟨c119,H⟩:=Z0q H
  refine sR hP hn hm [(2,.call [] [] [] [] 0 (iV .u64 (u64.wrap (i64.wrap ((8:Int)-a0)))) [])] [(4,iV .i64 (i64.wrap (a1*2 ^ (min (Int.toNat (u64.wrap (i64.wrap ((8:Int)-a0)))) 64))))] [4] [] [] [_,_,_] ⟨Tryz.call111,Z2j.ok a0 t117 e118,c119,trivial⟩ ?_
  refine AWp.conv (inv:=[]) (vk:=[]) (e0:=[]) (t:=⟨[(4,iV .i64 (i64.wrap (a1*2 ^ (min (Int.toNat (u64.wrap (i64.wrap ((8:Int)-a0)))) 64))))],[],0⟩) (by kernel_rfl) ?_
  refine AWp.ret ?_
  obtain rfl:=sj H
  exact rl (.inl rfl) rfl (by kernel_rfl) (by kernel_rfl)
def Z2y.f (a0:Int) (a1:Int):Option (Int):=(Z1c.f a0 (i64.wrap (a1-(1:Int))))>>=fun t122=>some t122
theorem Z2y.ok (a0:Int) (a1:Int) (r:Int) (H:Z2y.f a0 a1=some r):Pv.Fn Tryz.prog 88 [iV .i64 a0,iV .i64 a1] [] 0 (fun x o=>x=iV .i64 r∧o=[]):=by
 unfold Z2y.f at H
 refine Fn.bodyK [] Tryz.func88 rfl rfl (fun Γ hP hn => ?_)
 have hm:Tryz.prog.follows .mixedOrders=true:=by kernel_rfl
 replace hn:Γ.n=9:=hn
 refine sO hP hn hm [] [] [0,1] [] [] ?_
 obtain⟨t122,e123,H⟩:=Z3 H
 refine sR hP hn hm [(3,.call [] [] [] [] 0 (iV .i64 t122) [])] [(4,iV .i64 t122)] [4] [] [] [_,_] ⟨Tryz.call101,Z1c.ok a0 (i64.wrap (a1-(1:Int))) t122 e123,trivial⟩ ?_
 refine AWp.conv (inv:=[]) (vk:=[]) (e0:=[]) (t:=⟨[(4,iV .i64 t122)],[],0⟩) (by kernel_rfl) ?_
 refine AWp.ret ?_
 obtain rfl:=sj H
 exact rl (.inl rfl) rfl (by kernel_rfl) (by kernel_rfl)
def Zq.l0 (a0:Ze) (a1:List Z2) (x129:Int):Option (Int ⊕ Unit):=if(decide (x129<(a1.length:Int)))=true then((at? a1 x129)>>=fun b134=>(Z3b.f a0.f1 b134.f0)>>=fun t139=>if(!t139)=true then(some (.inl 4)) else(((if(decide (x129>(0:Int)))=true then((at? a1 (i64.wrap (x129-(1:Int))))>>=fun b147=>some (decide (b147.f0≥b134.f0))) else(some false)):Option (Bool))>>=fun x150=>if x150=true then(some (.inl 32)) else(if(b134.f1==(0:Int))=true then(some (.inl 21)) else((Z2y.f a0.f1 b134.f0)>>=fun t155=>if(decide (t155<a0.f2))=true then(some (.inl 31)) else(Zq.l0 a0 a1 (i64.wrap (x129+(1:Int)))))))) else(some (.inr ()))
partial_fixpoint
def Zq.f (a0:Ze) (a1:List Z2):Option (Int):=if(decide ((a1.length:Int)>(512:Int)))=true then(some 9) else((Zq.l0 a0 a1 0)>>=fun oo=>match oo with | .inl rr=>(some rr) | .inr _=>(some 0))
theorem Zq.ok (a0:Ze) (a1:List Z2) (r:Int) (H:Zq.f a0 a1=some r):Pv.Fn Tryz.prog 63 [.agg (Zh a0),.im (.row (a1.map Z0))] [] 0 (fun x o=>x=iV .i64 r∧o=[]):=by
 unfold Zq.f at H
 refine Fn.bodyK [] Tryz.func63 rfl rfl (fun Γ hP hn => ?_)
 have hm:Tryz.prog.follows .mixedOrders=true:=by kernel_rfl
 replace hn:Γ.n=52:=hn
 refine sO hP hn hm [(0,.k 0)] [(2,.ptr 0 0 0)] [1,2] [(0,some (.box 39 (Zh a0)))] [0] ?_
 refine AWp.seq ?_
 refine sR hP hn hm [(1,.any (iV .i64 (a1.length:Int)))] [(9,bV (decide ((a1.length:Int)>(512:Int))))] [1,2,9] [] [0] [((a1.map Z0).length:Int)=(a1.length:Int)] ⟨by rw[Zi],trivial⟩ ?_
 refine AWp.cond (decide ((a1.length:Int)>(512:Int))) (by kernel_rfl) (fun c61 => ?_) (fun c61 => ?_)
 ·replace H:=iT c61 H
  refine sO hP hn hm [] [(4,iV .i64 9)] [4] [] [] ?_
  refine AWp.conv (inv:=[]) (vk:=[]) (e0:=[]) (t:=⟨[(4,iV .i64 9)],[],0⟩) (by kernel_rfl) ?_
  refine AWp.ret ?_
  obtain rfl:=sj H
  exact rl (.inl rfl) rfl (by kernel_rfl) (by kernel_rfl)
 ·replace H:=iF c61 H
  refine AWp.skip ?_
  refine AWp.seq ?_
  refine sR hP hn hm [(1,.any (iV .i64 (a1.length:Int)))] [(10,.im (.row (a1.map Z0))),(11,iV .i64 (a1.length:Int)),(12,iV .i64 0)] [1,2,10,11,12] [] [0] [((a1.map Z0).length:Int)=(a1.length:Int)] ⟨by rw[Zi],trivial⟩ ?_
  refine AWp.block ?_
  obtain⟨o158,e159,H⟩:=Z3 H
  refine AWp.loop (LWp.conv (inv:=[(0,2)]) (vk:=[]) (e0:=[]) (t:=⟨[(1,.im (.row (a1.map Z0))),(2,.ptr 2 0 0),(10,.im (.row (a1.map Z0))),(11,iV .i64 (a1.length:Int)),(12,iV .i64 0)],[(2,some (.box 39 (Zh a0)))],0⟩) (by kernel_rfl) ?_)
  refine LWp.mono (Q:=fun e s=>(match (generalizing:=false) o158 with | .inl rr=>e = .ret∧s.floor=0∧Z1x Tryz.prog Tryz.f63 s=some (iV .i64 rr)∧([]:List (Nat×Option MObj))=[] | .inr _=>e = .exit 0∧s=⟨[],[],0⟩)) (LWp.cv (Zn (fun body hbody => ?_))) ?_
  ·refine             Zq.l0.partial_correctness a0 a1 (motive:=fun x129 o158=>LWp Γ body (fun e s=>∃ t,Cv Γ s t∧(match (generalizing:=false) o158 with | .inl rr=>e = .ret∧t.floor=0∧Z1x   Tryz.prog Tryz.f63 t=some (iV .i64 rr)∧([]:List (Nat×Option MObj))=[] | .inr _=>e = .exit 0∧t=⟨[],[],0⟩)) ⟨[(1,.im (.row (a1.map Z0     ))),(2,.ptr 2 0 0),(10,.im (.row (a1.map Z0     ))),(11,iV .i64 (a1.length:Int)),(12,iV .i64 x129)],[(2,some (.box 39 (Zh    a0)))],0⟩) ?_ _ _ e159
   clear H e159 o158;intro self ih x129 o158 H
   subst hbody
   refine LWp.round ?_
   refine sO hP hn hm [] [(13,bV (decide (x129<(a1.length:Int))))] [1,2,10,11,12,13] [] [2] ?_
   refine AWp.seq ?_
   refine AWp.cond (decide (x129<(a1.length:Int))) (by kernel_rfl) (fun c130 => ?_) (fun c130 => ?_)
   ·replace H:=iT c130 H
    refine AWp.skip ?_
    refine AWp.seq ?_
    refine AWp.block ?_
    obtain⟨b134,p135,q136,H⟩:=Z03 H
    refine sR hP hn hm [(1,.c (Z0 b134)),(3,.k 3)] [(5,iV .i64 x129),(6,.ptr 3 0 0)] [1,2,5,6,10,11,12] [(3,some (.box 87 (Z2b b134)))] [2,3] [_,_] ⟨p135,Zf Z0 q136,trivial⟩ ?_
    refine AWp.block ?_
    obtain⟨t139,e140,H⟩:=Z3 H
    refine sR hP hn hm [(4,.call [] [] [] [] 0 (bV t139) [])] [(17,bV (!t139))] [1,2,5,6,10,11,12,17] [] [2,3] [_,_] ⟨Tryz.call87,Z3b.ok a0.f1 b134.f0 t139 e140,trivial⟩ ?_
    refine AWp.cond (!t139) (by kernel_rfl) (fun c141 => ?_) (fun c141 => ?_)
    ·replace H:=iT c141 H
     refine sO hP hn hm [] [(4,iV .i64 4)] [4] [] [] ?_
     refine AWp.conv (inv:=[]) (vk:=[]) (e0:=[]) (t:=⟨[(4,iV .i64 4)],[],0⟩) (by kernel_rfl) ?_
     refine AWp.ret ?_
     obtain rfl:=sj H
     exact rl rfl rfl (by kernel_rfl) (by kernel_rfl)
    ·replace H:=iF c141 H
     refine AWp.seq ?_
     obtain⟨o160,e161,H⟩:=Z3 H
     refine AWp.mono (Q:=fun e s=>(match (generalizing:=false) o160 with | x150=>e = .normal∧s=⟨[(1,.im (.row (a1.map Z0))),(2,.ptr 4 0 0),(6,.ptr 5 0 0),(10,.im (.row (a1.map Z0))),(11,iV .i64 (a1.length:Int)),(12,iV .i64 x129),(24,bV x150)],[(4,some (.box 39 (Zh a0))),(5,some (.box 87 (Z2b b134)))],0⟩)) (AWp.cv ?_) ?_
     ·replace H:=e161;clear e161
      rcases Bool.eq_false_or_eq_true (decide (x129>(0:Int))) with c146 | c146
      ·replace H:=iT c146 H
       obtain⟨b147,p148,q149,H⟩:=Z03 H
       refine rG hP hn hm [(2,.b true),(6,.c (Z0 b147))] [(24,bV (decide (b147.f0≥b134.f0))),(28,.im (.row (a1.map Z0))),(29,iV .i64 x129),(30,iV .i64 (i64.wrap (x129-(1:Int)))),(31,.ip [iI .i64 b147.f0,iI .u64 b147.f1]),(32,.ip [iI .i64 b147.f0,iI .u64 b147.f1]),(33,iV .i64 b147.f0),(34,.ptr 3 0 0),(35,iV .i64 b134.f0),(36,bV (decide (b147.f0≥b134.f0)))] [1,2,6,10,11,12,24,28,29,30,31,32,33,34,35,36] [] [2,3] [_,_,_] ⟨c146,p148,Zf Z0 q149,trivial⟩ ?_
       obtain rfl:=sj H
       exact lf [(2,4),(3,5)] [] [] (by kernel_rfl) ⟨rfl,rfl⟩
      ·replace H:=iF c146 H
       refine rG hP hn hm [(2,.b false)] [(24,bV false)] [1,2,6,10,11,12,24] [] [2,3] [_] ⟨c146,trivial⟩ ?_
       obtain rfl:=sj H
       exact lf [(2,4),(3,5)] [] [] (by kernel_rfl) ⟨rfl,rfl⟩
     ·obtain⟨x150,rfl⟩:∃ z,z=o160:=⟨_,rfl⟩
      rintro e s ⟨rfl,rfl⟩
      refine AWp.cond x150 (by kernel_rfl) (fun c151 => ?_) (fun c151 => ?_)
      ·replace H:=iT c151 H
       refine sO hP hn hm [] [(4,iV .i64 32)] [4] [] [] ?_
       refine AWp.conv (inv:=[]) (vk:=[]) (e0:=[]) (t:=⟨[(4,iV .i64 32)],[],0⟩) (by kernel_rfl) ?_
       refine AWp.ret ?_
       obtain rfl:=sj H
       exact rl rfl rfl (by kernel_rfl) (by kernel_rfl)
      ·replace H:=iF c151 H
       refine sO hP hn hm [] [(38,bV (b134.f1==(0:Int)))] [1,2,6,10,11,12,38] [] [4,5] ?_
       refine AWp.cond (b134.f1==(0:Int)) (by kernel_rfl) (fun c152 => ?_) (fun c152 => ?_)
       ·replace H:=iT c152 H
        refine sO hP hn hm [] [(4,iV .i64 21)] [4] [] [] ?_
        refine AWp.conv (inv:=[]) (vk:=[]) (e0:=[]) (t:=⟨[(4,iV .i64 21)],[],0⟩) (by kernel_rfl) ?_
        refine AWp.ret ?_
        obtain rfl:=sj H
        exact rl rfl rfl (by kernel_rfl) (by kernel_rfl)
       ·replace H:=iF c152 H
        obtain⟨t155,e156,H⟩:=Z3 H
        refine sR hP hn hm [(4,.call [] [] [] [] 0 (iV .i64 t155) [])] [(42,bV (decide (t155<a0.f2)))] [1,2,10,11,12,42] [] [4] [_,_] ⟨Tryz.call88,Z2y.ok a0.f1 b134.f0 t155 e156,trivial⟩ ?_
        refine AWp.cond (decide (t155<a0.f2)) (by kernel_rfl) (fun c157 => ?_) (fun c157 => ?_)
        ·replace H:=iT c157 H
         refine sO hP hn hm [] [(4,iV .i64 31)] [4] [] [] ?_
         refine AWp.conv (inv:=[]) (vk:=[]) (e0:=[]) (t:=⟨[(4,iV .i64 31)],[],0⟩) (by kernel_rfl) ?_
         refine AWp.ret ?_
         obtain rfl:=sj H
         exact rl rfl rfl (by kernel_rfl) (by kernel_rfl)
        ·replace H:=iF c157 H
         refine AWp.skip ?_
         refine rO hP hn hm [] [(12,iV .i64 (i64.wrap (x129+(1:Int))))] [1,2,10,11,12] [] [4] ?_
         exact LWp.conv [(4,2)] [] [] (by kernel_rfl) (ih _ _ H)
   ·replace H:=iF c130 H
    refine AWp.exit ?_
    obtain rfl:=sj H
    exact lf [] [] [] (by kernel_rfl) ⟨rfl,rfl⟩
  ·rcases o158 with rr | _
   ·skip
    rintro e s ⟨rfl,hfl,hres⟩
    obtain rfl:=sj H
    exact Exists.intro _ (And.intro (fun _ _ h=>h) (And.intro (.inl rfl) (And.intro hfl hres)))
   ·skip
    rintro e s ⟨rfl,rfl⟩
    refine sO hP hn hm [] [(4,iV .i64 0)] [4] [] [] ?_
    refine AWp.conv (inv:=[]) (vk:=[]) (e0:=[]) (t:=⟨[(4,iV .i64 0)],[],0⟩) (by kernel_rfl) ?_
    refine AWp.ret ?_
    obtain rfl:=sj H
    exact rl (.inl rfl) rfl (by kernel_rfl) (by kernel_rfl)
def Z1z.l0 (a0:List Int) (x203:Int) (x204:Int):Option ((Int×Int) ⊕ Int):=if(decide (x204<(a0.length:Int)))=true then((at? a0 x204)>>=fun b209=>(chk (0≤x203∧0≤b209∧0≤(0:Int)∧(0:Int)≤(1:Int)))>>=fun _=>if(((x203+b209+(0:Int)) / 18446744073709551616) != (0:Int))=true then(some (.inl (0,5))) else(Z1z.l0 a0 ((x203+b209+(0:Int)) % 18446744073709551616) (i64.wrap (x204+(1:Int))))) else(some (.inr x203))
partial_fixpoint
def Z1z.f (a0:List Int):Option (Int×Int):=(Z1z.l0 a0 0 0)>>=fun oo=>match oo with | .inl rr=>(some rr) | .inr x215=>(some (x215,0))
theorem Z1z.ok (a0:List Int) (r:Int×Int) (H:Z1z.f a0=some r):Pv.Fn Tryz.prog 89 [.im (.row (a0.map (Z1 .u64)))] [] 0 (fun x o=>x = .tup [iV .u64 r.1,iV .i64 r.2]∧o=[]):=by
 unfold Z1z.f at H
 refine Fn.bodyK [] Tryz.func89 rfl rfl (fun Γ hP hn => ?_)
 have hm:Tryz.prog.follows .mixedOrders=true:=by kernel_rfl
 replace hn:Γ.n=26:=hn
 refine sO hP hn hm [] [] [0] [] [] ?_
 refine sO hP hn hm [] [(4,iV .u64 0)] [0,4] [] [] ?_
 refine AWp.seq ?_
 refine sR hP hn hm [(1,.any (iV .i64 (a0.length:Int)))] [(9,.im (.row (a0.map (Z1 .u64)))),(10,iV .i64 (a0.length:Int)),(11,iV .i64 0)] [4,9,10,11] [] [] [((a0.map (Z1 .u64)).length:Int)=(a0.length:Int)] ⟨by rw[Zi],trivial⟩ ?_
 refine AWp.block ?_
 obtain⟨o216,e217,H⟩:=Z3 H
 refine AWp.loop (LWp.conv (inv:=[]) (vk:=[]) (e0:=[]) (t:=⟨[(4,iV .u64 0),(9,.im (.row (a0.map (Z1 .u64)))),(10,iV .i64 (a0.length:Int)),(11,iV .i64 0)],[],0⟩) (by kernel_rfl) ?_)
 refine LWp.mono (Q:=fun e s=>(match (generalizing:=false) o216 with | .inl rr=>e = .ret∧s.floor=0∧Z1x Tryz.prog Tryz.f89 s=some (.tup [iV .u64 rr.1,iV .i64 rr.2])∧([]:List (Nat×Option MObj))=[] | .inr x215=>e = .exit 0∧s=⟨[(4,iV .u64 x215)],[],0⟩)) (LWp.cv (Zn (fun body hbody => ?_))) ?_
 ·refine       Z1z.l0.partial_correctness a0 (motive:=fun x203 x204 o216=>LWp Γ body (fun e s=>∃ t,Cv Γ s t∧(match (generalizing:=false) o216 with | .inl rr=>e = .ret∧t.floor=0∧Z1x   Tryz.prog Tryz.f89 t=some (.tup [iV .u64 rr.1,iV .i64 rr.2])∧([]:List (Nat×Option MObj))=[] | .inr x215=>e = .exit 0∧t=⟨[(4,iV .u64 x215)],[],0⟩)) ⟨[(4,iV .u64 x203),(9,.im (.row (a0.map (Z1     .u64)))),(10,iV .i64 (a0.length:Int)),(11,iV .i64 x204)],[],0⟩) ?_ _ _ _ e217
  clear H e217 o216;intro self ih x203 x204 o216 H
  subst hbody
  refine LWp.round ?_
  refine sO hP hn hm [] [(12,bV (decide (x204<(a0.length:Int))))] [4,9,10,11,12] [] [] ?_
  refine AWp.seq ?_
  refine AWp.cond (decide (x204<(a0.length:Int))) (by kernel_rfl) (fun c205 => ?_) (fun c205 => ?_)
  ·replace H:=iT c205 H
   refine AWp.skip ?_
   refine AWp.seq ?_
   refine AWp.block ?_
   obtain⟨b209,p210,q211,H⟩:=Z03 H
   refine sR hP hn hm [(0,.c ((Z1 .u64) b209))] [(6,iV .u64 b209)] [4,6,9,10,11] [] [] [_,_] ⟨p210,Zf (Z1 .u64) q211,trivial⟩ ?_
   obtain⟨c213,H⟩:=Z0q H
   refine sR hP hn hm [(2,.ext (.tup [iV .u64 ((x203+b209+(0:Int)) % 18446744073709551616),iV .u64 ((x203+b209+(0:Int)) / 18446744073709551616)]))] [(7,iV .u64 ((x203+b209+(0:Int)) % 18446744073709551616)),(8,iV .u64 ((x203+b209+(0:Int)) / 18446744073709551616))] [7,8,9,10,11] [] [] [∀ w,(callFunc 102 ([.int .u64 x203,.int .u64 b209,.int .u64 (0:Int)]:List Value).toArray).run Tryz.prog w = .ok (.value (.tuple #[.int .u64 ((x203+b209+(0:Int)) % 18446744073709551616),.int .u64 ((x203+b209+(0:Int)) / 18446744073709551616)])) w] ⟨by exact fun w=>x_add64 (fn:=Tryz.f102) Tryz.func102 (by kernel_rfl) rfl (by kernel_rfl) (by kernel_rfl) c213 w,trivial⟩ ?_
   refine AWp.seq ?_
   refine sO hP hn hm [] [(22,bV (((x203+b209+(0:Int)) / 18446744073709551616) != (0:Int)))] [7,9,10,11,22] [] [] ?_
   refine AWp.cond (((x203+b209+(0:Int)) / 18446744073709551616) != (0:Int)) (by kernel_rfl) (fun c214 => ?_) (fun c214 => ?_)
   ·replace H:=iT c214 H
    refine sO hP hn hm [] [(2,iV .u64 0),(3,iV .i64 5)] [2,3] [] [] ?_
    refine AWp.conv (inv:=[]) (vk:=[]) (e0:=[]) (t:=⟨[(2,iV .u64 0),(3,iV .i64 5)],[],0⟩) (by kernel_rfl) ?_
    refine AWp.ret ?_
    obtain rfl:=sj H
    exact rl rfl rfl (by kernel_rfl) (by kernel_rfl)
   ·replace H:=iF c214 H
    refine AWp.skip ?_
    refine rO hP hn hm [] [(4,iV .u64 ((x203+b209+(0:Int)) % 18446744073709551616))] [4,9,10,11] [] [] ?_
    refine rO hP hn hm [] [(11,iV .i64 (i64.wrap (x204+(1:Int))))] [4,9,10,11] [] [] ?_
    exact LWp.conv [] [] [] (by kernel_rfl) (ih _ _ _ H)
  ·replace H:=iF c205 H
   refine AWp.exit ?_
   obtain rfl:=sj H
   exact lf [] [] [] (by kernel_rfl) ⟨rfl,rfl⟩
 ·rcases o216 with rr | x215
  ·skip
   rintro e s ⟨rfl,hfl,hres⟩
   obtain rfl:=sj H
   exact Exists.intro _ (And.intro (fun _ _ h=>h) (And.intro (.inl rfl) (And.intro hfl hres)))
  ·skip
   rintro e s ⟨rfl,rfl⟩
   refine sO hP hn hm [] [(2,iV .u64 x215),(3,iV .i64 0)] [2,3] [] [] ?_
   refine AWp.conv (inv:=[]) (vk:=[]) (e0:=[]) (t:=⟨[(2,iV .u64 x215),(3,iV .i64 0)],[],0⟩) (by kernel_rfl) ?_
   refine AWp.ret ?_
   obtain rfl:=sj H
   exact rl (.inl rfl) rfl (by kernel_rfl) (by kernel_rfl)
def Z0c.l1 (a0:List (List Z2)) (b244:List Z2) (x239:Int) (x259:Int) (x260:Int):Option ((Int×Int) ⊕ Int):=if(decide (x260<(b244.length:Int)))=true then((at? b244 x260)>>=fun b265=>(Z1z.f [x259,b265.f1])>>=fun t270=>if(t270.2 != (0:Int))=true then(some (.inl (0,t270.2))) else(Z0c.l1 a0 b244 x239 t270.1 (i64.wrap (x260+(1:Int))))) else(some (.inr x259))
partial_fixpoint
def Z0c.l0 (a0:List (List Z2)) (x238:Int) (x239:Int):Option ((Int×Int) ⊕ Int):=if(decide (x239<(a0.length:Int)))=true then((at? a0 x239)>>=fun b244=>(Z0c.l1 a0 b244 x239 x238 0)>>=fun oo=>match oo with | .inl rr=>(some (.inl rr)) | .inr x273=>(Z0c.l0 a0 x273 (i64.wrap (x239+(1:Int))))) else(some (.inr x238))
partial_fixpoint
def Z0c.f (a0:List (List Z2)):Option (Int×Int):=(Z0c.l0 a0 0 0)>>=fun oo=>match oo with | .inl rr=>(some rr) | .inr x274=>(some (x274,0))
theorem Z0c.ok (a0:List (List Z2)) (r:Int×Int) (H:Z0c.f a0=some r):Pv.Fn Tryz.prog 64 [.im (.row (a0.map (Z0y Z0)))] [] 0 (fun x o=>x = .tup [iV .u64 r.1,iV .i64 r.2]∧o=[]):=by
 unfold Z0c.f at H
 refine Fn.bodyK [] Tryz.func64 rfl rfl (fun Γ hP hn => ?_)
 have hm:Tryz.prog.follows .mixedOrders=true:=by kernel_rfl
 replace hn:Γ.n=36:=hn
 refine sO hP hn hm [] [] [0] [] [] ?_
 refine sO hP hn hm [] [(4,iV .u64 0)] [0,4] [] [] ?_
 refine AWp.seq ?_
 refine sR hP hn hm [(1,.any (iV .i64 (a0.length:Int)))] [(10,.im (.row (a0.map (Z0y Z0)))),(11,iV .i64 (a0.length:Int)),(12,iV .i64 0)] [4,10,11,12] [] [] [((a0.map (Z0y Z0)).length:Int)=(a0.length:Int)] ⟨by rw[Zi],trivial⟩ ?_
 refine AWp.block ?_
 obtain⟨o275,e276,H⟩:=Z3 H
 refine AWp.loop (LWp.conv (inv:=[]) (vk:=[]) (e0:=[]) (t:=⟨[(4,iV .u64 0),(10,.im (.row (a0.map (Z0y Z0)))),(11,iV .i64 (a0.length:Int)),(12,iV .i64 0)],[],0⟩) (by kernel_rfl) ?_)
 refine LWp.mono (Q:=fun e s=>(match (generalizing:=false) o275 with | .inl rr=>e = .ret∧s.floor=0∧Z1x Tryz.prog Tryz.f64 s=some (.tup [iV .u64 rr.1,iV .i64 rr.2])∧([]:List (Nat×Option MObj))=[] | .inr x274=>e = .exit 0∧s=⟨[(4,iV .u64 x274)],[],0⟩)) (LWp.cv (Zn (fun body hbody => ?_))) ?_
 ·refine          Z0c.l0.partial_correctness a0 (motive:=fun x238 x239 o275=>LWp Γ body (fun e s=>∃ t,Cv Γ s t∧(match (generalizing:=false) o275 with | .inl rr=>e = .ret∧t.floor=0∧Z1x   Tryz.prog Tryz.f64 t=some (.tup [iV .u64 rr.1,iV .i64 rr.2])∧([]:List (Nat×Option MObj))=[] | .inr x274=>e = .exit 0∧t=⟨[(4,iV .u64 x274)],[],0⟩)) ⟨[(4,iV .u64 x238),(10,.im (.row (a0.map (Z0y    Z0     )))),(11,iV .i64 (a0.length:Int)),(12,iV .i64 x239)],[],0⟩) ?_ _ _ _ e276
  clear H e276 o275;intro self ih x238 x239 o275 H
  subst hbody
  refine LWp.round ?_
  refine sO hP hn hm [] [(13,bV (decide (x239<(a0.length:Int))))] [4,10,11,12,13] [] [] ?_
  refine AWp.seq ?_
  refine AWp.cond (decide (x239<(a0.length:Int))) (by kernel_rfl) (fun c240 => ?_) (fun c240 => ?_)
  ·replace H:=iT c240 H
   refine AWp.skip ?_
   refine AWp.seq ?_
   refine AWp.block ?_
   obtain⟨b244,p245,q246,H⟩:=Z03 H
   refine sR hP hn hm [(0,.c ((Z0y Z0) b244))] [(6,.im (.row (b244.map Z0)))] [4,6,10,11,12] [] [] [_,_] ⟨p245,Zf (Z0y Z0) q246,trivial⟩ ?_
   refine sR hP hn hm [(1,.any (iV .i64 (b244.length:Int)))] [(16,.im (.row (b244.map Z0))),(17,iV .i64 (b244.length:Int)),(18,iV .i64 0)] [4,10,11,12,16,17,18] [] [] [((b244.map Z0).length:Int)=(b244.length:Int)] ⟨by rw[Zi],trivial⟩ ?_
   refine AWp.block ?_
   obtain⟨o277,e278,H⟩:=Z3 H
   refine AWp.loop (LWp.conv (inv:=[]) (vk:=[]) (e0:=[]) (t:=⟨[(4,iV .u64 x238),(10,.im (.row (a0.map (Z0y Z0)))),(11,iV .i64 (a0.length:Int)),(12,iV .i64 x239),(16,.im (.row (b244.map Z0))),(17,iV .i64 (b244.length:Int)),(18,iV .i64 0)],[],0⟩) (by kernel_rfl) ?_)
   refine LWp.mono (Q:=fun e s=>(match (generalizing:=false) o277 with | .inl rr=>e = .ret∧s.floor=0∧Z1x Tryz.prog Tryz.f64 s=some (.tup [iV .u64 rr.1,iV .i64 rr.2])∧([]:List (Nat×Option MObj))=[] | .inr x273=>e = .exit 2∧s=⟨[(4,iV .u64 x273),(10,.im (.row (a0.map (Z0y Z0)))),(11,iV .i64 (a0.length:Int)),(12,iV .i64 x239)],[],0⟩)) (LWp.cv (Zn (fun body hbody => ?_))) ?_
   ·refine          Z0c.l1.partial_correctness a0 b244 x239 (motive:=fun x259 x260 o277=>LWp Γ body (fun e s=>∃ t,Cv Γ s t∧(match (generalizing:=false) o277 with | .inl rr=>e = .ret∧t.floor=0∧Z1x   Tryz.prog Tryz.f64 t=some (.tup [iV .u64 rr.1,iV .i64 rr.2])∧([]:List (Nat×Option MObj))=[] | .inr x273=>e = .exit 2∧t=⟨[(4,iV .u64 x273),(10,.im (.row (a0.map (Z0y    Z0     )))),(11,iV .i64 (a0.length:Int)),(12,iV .i64 x239)],[],0⟩)) ⟨[(4,iV .u64 x259),(10,.im (.row (a0.map (Z0y    Z0     )))),(11,iV .i64 (a0.length:Int)),(12,iV .i64 x239),(16,.im (.row (b244.map Z0     ))),(17,iV .i64 (b244.length:Int)),(18,iV .i64 x260)],[],0⟩) ?_ _ _ _ e278
    clear H e278 o277;intro self ih x259 x260 o277 H
    subst hbody
    refine LWp.round ?_
    refine sO hP hn hm [] [(19,bV (decide (x260<(b244.length:Int))))] [4,10,11,12,16,17,18,19] [] [] ?_
    refine AWp.seq ?_
    refine AWp.cond (decide (x260<(b244.length:Int))) (by kernel_rfl) (fun c261 => ?_) (fun c261 => ?_)
    ·replace H:=iT c261 H
     refine AWp.skip ?_
     refine AWp.seq ?_
     refine AWp.block ?_
     obtain⟨b265,p266,q267,H⟩:=Z03 H
     refine sR hP hn hm [(0,.c (Z0 b265)),(2,.k 6)] [(8,.ptr 6 0 0)] [4,8,10,11,12,16,17,18] [(6,some (.box 87 (Z2b b265)))] [6] [_,_] ⟨p266,Zf Z0 q267,trivial⟩ ?_
     refine sO hP hn hm [] [] [4,8,10,11,12,16,17,18] [] [6] ?_
     obtain⟨t270,e271,H⟩:=Z3 H
     refine sR hP hn hm [(3,.app 7 ([x259,b265.f1].map (Z1 .u64))),(4,.call [] [] [7] [] 0 (.tup [iV .u64 t270.1,iV .i64 t270.2]) [])] [(4,iV .u64 t270.1),(9,iV .i64 t270.2)] [4,9,10,11,12,16,17,18] [] [] [[x259,b265.f1].map (Z1 .u64)=[[iI .u64 x259],[iI .u64 b265.f1]],_,_] ⟨by exact rfl,Tryz.call89,Z1z.ok [x259,b265.f1] t270 e271,trivial⟩ ?_
     refine sO hP hn hm [] [(31,bV (t270.2 != (0:Int)))] [4,9,10,11,12,16,17,18,31] [] [] ?_
     refine AWp.cond (t270.2 != (0:Int)) (by kernel_rfl) (fun c272 => ?_) (fun c272 => ?_)
     ·replace H:=iT c272 H
      refine sO hP hn hm [] [(2,iV .u64 0),(3,iV .i64 t270.2)] [2,3] [] [] ?_
      refine AWp.conv (inv:=[]) (vk:=[]) (e0:=[]) (t:=⟨[(2,iV .u64 0),(3,iV .i64 t270.2)],[],0⟩) (by kernel_rfl) ?_
      refine AWp.ret ?_
      obtain rfl:=sj H
      exact rl rfl rfl (by kernel_rfl) (by kernel_rfl)
     ·replace H:=iF c272 H
      refine AWp.skip ?_
      refine rO hP hn hm [] [(18,iV .i64 (i64.wrap (x260+(1:Int))))] [4,10,11,12,16,17,18] [] [] ?_
      exact LWp.conv [] [] [] (by kernel_rfl) (ih _ _ _ H)
    ·replace H:=iF c261 H
     refine AWp.exit ?_
     obtain rfl:=sj H
     exact lf [] [] [] (by kernel_rfl) ⟨rfl,rfl⟩
   ·rcases o277 with rr | x273
    ·skip
     rintro e s ⟨rfl,hfl,hres⟩
     obtain rfl:=sj H
     exact Exists.intro _ (And.intro (fun _ _ h=>h) (And.intro rfl (And.intro hfl hres)))
    ·skip
     rintro e s ⟨rfl,rfl⟩
     refine rO hP hn hm [] [(12,iV .i64 (i64.wrap (x239+(1:Int))))] [4,10,11,12] [] [] ?_
     exact LWp.conv [] [] [] (by kernel_rfl) (ih _ _ _ H)
  ·replace H:=iF c240 H
   refine AWp.exit ?_
   obtain rfl:=sj H
   exact lf [] [] [] (by kernel_rfl) ⟨rfl,rfl⟩
 ·rcases o275 with rr | x274
  ·skip
   rintro e s ⟨rfl,hfl,hres⟩
   obtain rfl:=sj H
   exact Exists.intro _ (And.intro (fun _ _ h=>h) (And.intro (.inl rfl) (And.intro hfl hres)))
  ·skip
   rintro e s ⟨rfl,rfl⟩
   refine sO hP hn hm [] [(2,iV .u64 x274),(3,iV .i64 0)] [2,3] [] [] ?_
   refine AWp.conv (inv:=[]) (vk:=[]) (e0:=[]) (t:=⟨[(2,iV .u64 x274),(3,iV .i64 0)],[],0⟩) (by kernel_rfl) ?_
   refine AWp.ret ?_
   obtain rfl:=sj H
   exact rl (.inl rfl) rfl (by kernel_rfl) (by kernel_rfl)
def Z0l.l0 (a0:Ze) (x167:Int):Option (Int ⊕ Unit):=if(decide (x167<(2:Int)))=true then((((chk (0≤x167∧x167<(2:Int)))>>=fun _=>if(x167==(0:Int))=true then(some a0.f6) else(some a0.f7)):Option (List Z2))>>=fun x173=>(Zq.f a0 x173)>>=fun t176=>if(t176 != (0:Int))=true then(some (.inl t176)) else(Z0l.l0 a0 (i64.wrap (x167+(1:Int))))) else(some (.inr ()))
partial_fixpoint
def Z0l.f (a0:Ze):Option (Int):=((if(a0.f0 != (0:Int))=true then(some (a0.f0 != (1:Int))) else(some false)):Option (Bool))>>=fun x43=>if x43=true then(some 25) else((Zu.f a0.f1)>>=fun t52=>if(!t52)=true then(some 20) else(((if(a0.f2 != (-524288))=true then(if(decide (a0.f2≤(-262144)))=true then(some true) else(some (decide (a0.f2>(262144:Int))))) else(some false)):Option (Bool))>>=fun x59=>if x59=true then(some 31) else((Z0l.l0 a0 0)>>=fun oo=>match oo with | .inl rr=>(some rr) | .inr _=>((Z0c.f [a0.f6,a0.f7,[(⟨0,a0.f3⟩:Z2)]])>>=fun t281=>if(t281.2 != (0:Int))=true then(some t281.2) else(if(t281.1 != a0.f4)=true then(some 21) else(some 0))))))
theorem Z0l.ok (a0:Ze) (r:Int) (H:Z0l.f a0=some r):Pv.Fn Tryz.prog 27 [.agg (Zh a0)] [] 0 (fun x o=>x=iV .i64 r∧o=[]):=by
 unfold Z0l.f at H
 refine Fn.bodyK [] Tryz.func27 rfl rfl (fun Γ hP hn => ?_)
 have hm:Tryz.prog.follows .mixedOrders=true:=by kernel_rfl
 replace hn:Γ.n=73:=hn
 refine sO hP hn hm [(0,.k 0)] [(1,.ptr 0 0 0)] [1] [(0,some (.box 39 (Zh a0)))] [0] ?_
 refine AWp.seq ?_
 refine AWp.block ?_
 refine AWp.seq ?_
 obtain⟨o285,e286,H⟩:=Z3 H
 refine AWp.mono (Q:=fun e s=>(match (generalizing:=false) o285 with | x43=>e = .normal∧s=⟨[(1,.ptr 1 0 0),(8,bV x43)],[(1,some (.box 39 (Zh a0)))],0⟩)) (AWp.cv ?_) ?_
 ·replace H:=e286;clear e286
  rcases Bool.eq_false_or_eq_true (a0.f0 != (0:Int)) with c42 | c42
  ·replace H:=iT c42 H
   refine rG hP hn hm [(3,.b true)] [(8,bV (a0.f0 != (1:Int)))] [1,8] [] [0] [_] ⟨c42,trivial⟩ ?_
   obtain rfl:=sj H
   exact lf [(0,1)] [] [] (by kernel_rfl) ⟨rfl,rfl⟩
  ·replace H:=iF c42 H
   refine rG hP hn hm [(3,.b false)] [(8,bV false)] [1,8] [] [0] [_] ⟨c42,trivial⟩ ?_
   obtain rfl:=sj H
   exact lf [(0,1)] [] [] (by kernel_rfl) ⟨rfl,rfl⟩
 ·obtain⟨x43,rfl⟩:∃ z,z=o285:=⟨_,rfl⟩
  rintro e s ⟨rfl,rfl⟩
  refine AWp.cond x43 (by kernel_rfl) (fun c44 => ?_) (fun c44 => ?_)
  ·replace H:=iT c44 H
   refine sO hP hn hm [] [(2,iV .i64 25)] [2] [] [] ?_
   refine AWp.conv (inv:=[]) (vk:=[]) (e0:=[]) (t:=⟨[(2,iV .i64 25)],[],0⟩) (by kernel_rfl) ?_
   refine AWp.ret ?_
   obtain rfl:=sj H
   exact rl (.inl rfl) rfl (by kernel_rfl) (by kernel_rfl)
  ·replace H:=iF c44 H
   obtain⟨t52,e53,H⟩:=Z3 H
   refine sR hP hn hm [(2,.call [] [] [] [] 0 (bV t52) [])] [(17,bV (!t52))] [1,17] [] [1] [_,_] ⟨Tryz.call62,Zu.ok a0.f1 t52 e53,trivial⟩ ?_
   refine AWp.cond (!t52) (by kernel_rfl) (fun c54 => ?_) (fun c54 => ?_)
   ·replace H:=iT c54 H
    refine sO hP hn hm [] [(2,iV .i64 20)] [2] [] [] ?_
    refine AWp.conv (inv:=[]) (vk:=[]) (e0:=[]) (t:=⟨[(2,iV .i64 20)],[],0⟩) (by kernel_rfl) ?_
    refine AWp.ret ?_
    obtain rfl:=sj H
    exact rl (.inl rfl) rfl (by kernel_rfl) (by kernel_rfl)
   ·replace H:=iF c54 H
    refine AWp.seq ?_
    obtain⟨o287,e288,H⟩:=Z3 H
    refine AWp.mono (Q:=fun e s=>(match (generalizing:=false) o287 with | x59=>e = .normal∧s=⟨[(1,.ptr 2 0 0),(22,bV x59)],[(2,some (.box 39 (Zh a0)))],0⟩)) (AWp.cv ?_) ?_
    ·replace H:=e288;clear e288
     rcases Bool.eq_false_or_eq_true (a0.f2 != (-524288)) with c57 | c57
     ·replace H:=iT c57 H
      rcases Bool.eq_false_or_eq_true (decide (a0.f2≤(-262144))) with c58 | c58
      ·replace H:=iT c58 H
       refine rG hP hn hm [(3,.b true),(7,.b true)] [(22,bV true)] [1,22] [] [1] [_,_] ⟨c57,c58,trivial⟩ ?_
       obtain rfl:=sj H
       exact lf [(1,2)] [] [] (by kernel_rfl) ⟨rfl,rfl⟩
      ·replace H:=iF c58 H
       refine rG hP hn hm [(3,.b true),(7,.b false)] [(22,bV (decide (a0.f2>(262144:Int))))] [1,22] [] [1] [_,_] ⟨c57,c58,trivial⟩ ?_
       obtain rfl:=sj H
       exact lf [(1,2)] [] [] (by kernel_rfl) ⟨rfl,rfl⟩
     ·replace H:=iF c57 H
      refine rG hP hn hm [(3,.b false)] [(22,bV false)] [1,22] [] [1] [_] ⟨c57,trivial⟩ ?_
      obtain rfl:=sj H
      exact lf [(1,2)] [] [] (by kernel_rfl) ⟨rfl,rfl⟩
    ·obtain⟨x59,rfl⟩:∃ z,z=o287:=⟨_,rfl⟩
     rintro e s ⟨rfl,rfl⟩
     refine AWp.cond x59 (by kernel_rfl) (fun c60 => ?_) (fun c60 => ?_)
     ·replace H:=iT c60 H
      refine sO hP hn hm [] [(2,iV .i64 31)] [2] [] [] ?_
      refine AWp.conv (inv:=[]) (vk:=[]) (e0:=[]) (t:=⟨[(2,iV .i64 31)],[],0⟩) (by kernel_rfl) ?_
      refine AWp.ret ?_
      obtain rfl:=sj H
      exact rl (.inl rfl) rfl (by kernel_rfl) (by kernel_rfl)
     ·replace H:=iF c60 H
      refine AWp.skip ?_
      refine AWp.seq ?_
      refine sO hP hn hm [] [(40,.agg [.im (.row (a0.f6.map Z0)),.im (.row (a0.f7.map Z0))]),(41,iV .i64 0)] [1,40,41] [] [2] ?_
      refine AWp.block ?_
      obtain⟨o289,e290,H⟩:=Z3 H
      refine AWp.loop (LWp.conv (inv:=[(2,3)]) (vk:=[]) (e0:=[]) (t:=⟨[(1,.ptr 3 0 0),(40,.agg [.im (.row (a0.f6.map Z0)),.im (.row (a0.f7.map Z0))]),(41,iV .i64 0)],[(3,some (.box 39 (Zh a0)))],0⟩) (by kernel_rfl) ?_)
      refine LWp.mono (Q:=fun e s=>(match (generalizing:=false) o289 with | .inl rr=>e = .ret∧s.floor=0∧Z1x Tryz.prog Tryz.f27 s=some (iV .i64 rr)∧([]:List (Nat×Option MObj))=[] | .inr _=>e = .exit 1∧s=⟨[(1,.ptr 5 0 0)],[(5,some (.box 39 (Zh a0)))],0⟩)) (LWp.cv (Zn (fun body hbody => ?_))) ?_
      ·refine          Z0l.l0.partial_correctness a0 (motive:=fun x167 o289=>LWp Γ body (fun e s=>∃ t,Cv Γ s t∧(match (generalizing:=false) o289 with | .inl rr=>e = .ret∧t.floor=0∧Z1x   Tryz.prog Tryz.f27 t=some (iV .i64 rr)∧([]:List (Nat×Option MObj))=[] | .inr _=>e = .exit 1∧t=⟨[(1,.ptr 5 0 0)],[(5,some (.box 39 (Zh    a0)))],0⟩)) ⟨[(1,.ptr 3 0 0),(40,.agg [.im (.row (a0.f6.map Z0     )),.im (.row (a0.f7.map Z0     ))]),(41,iV .i64 x167)],[(3,some (.box 39 (Zh    a0)))],0⟩) ?_ _ _ e290
       clear H e290 o289;intro self ih x167 o289 H
       subst hbody
       refine LWp.round ?_
       refine sO hP hn hm [] [(42,bV (decide (x167<(2:Int))))] [1,40,41,42] [] [3] ?_
       refine AWp.seq ?_
       refine AWp.cond (decide (x167<(2:Int))) (by kernel_rfl) (fun c168 => ?_) (fun c168 => ?_)
       ·replace H:=iT c168 H
        refine AWp.skip ?_
        refine AWp.seq ?_
        refine AWp.block ?_
        refine AWp.seq ?_
        obtain⟨o291,e292,H⟩:=Z3 H
        refine AWp.mono (Q:=fun e s=>(match (generalizing:=false) o291 with | x173=>e = .normal∧s=⟨[(1,.ptr 4 0 0),(4,.im (.row (x173.map Z0))),(40,.agg [.im (.row (a0.f6.map Z0)),.im (.row (a0.f7.map Z0))]),(41,iV .i64 x167)],[(4,some (.box 39 (Zh a0)))],0⟩)) (AWp.cv ?_) ?_
        ·replace H:=e292;clear e292
         obtain⟨c171,H⟩:=Z0q H
         rcases Bool.eq_false_or_eq_true (x167==(0:Int)) with c172 | c172
         ·replace H:=iT c172 H
          refine rG hP hn hm [(0,.more (xIdx 0))] [(4,.im (.row (a0.f6.map Z0)))] [1,4,40,41] [] [3] [x167=((0:Nat):Int)] ⟨by exact(by simpa using c172),trivial⟩ ?_
          obtain rfl:=sj H
          exact lf [(3,4)] [] [] (by kernel_rfl) ⟨rfl,rfl⟩
         ·replace H:=iF c172 H
          refine rG hP hn hm [(0,.more (xIdx 1))] [(4,.im (.row (a0.f7.map Z0)))] [1,4,40,41] [] [3] [x167=((1:Nat):Int)] ⟨by have:=c171;simp only[beq_eq_false_iff_ne] at *;omega,trivial⟩ ?_
          obtain rfl:=sj H
          exact lf [(3,4)] [] [] (by kernel_rfl) ⟨rfl,rfl⟩
        ·obtain⟨x173,rfl⟩:∃ z,z=o291:=⟨_,rfl⟩
         rintro e s ⟨rfl,rfl⟩
         obtain⟨t176,e177,H⟩:=Z3 H
         refine sR hP hn hm [(2,.call [] [] [] [] 0 (iV .i64 t176) [])] [(5,iV .i64 t176)] [1,5,40,41] [] [4] [_,_] ⟨Tryz.call63,Zq.ok a0 x173 t176 e177,trivial⟩ ?_
         refine sO hP hn hm [] [(48,bV (t176 != (0:Int)))] [1,5,40,41,48] [] [4] ?_
         refine AWp.cond (t176 != (0:Int)) (by kernel_rfl) (fun c178 => ?_) (fun c178 => ?_)
         ·replace H:=iT c178 H
          refine sO hP hn hm [] [(2,iV .i64 t176)] [2] [] [] ?_
          refine AWp.conv (inv:=[]) (vk:=[]) (e0:=[]) (t:=⟨[(2,iV .i64 t176)],[],0⟩) (by kernel_rfl) ?_
          refine AWp.ret ?_
          obtain rfl:=sj H
          exact rl rfl rfl (by kernel_rfl) (by kernel_rfl)
         ·replace H:=iF c178 H
          refine AWp.skip ?_
          refine rO hP hn hm [] [(41,iV .i64 (i64.wrap (x167+(1:Int))))] [1,40,41] [] [4] ?_
          exact LWp.conv [(4,3)] [] [] (by kernel_rfl) (ih _ _ H)
       ·replace H:=iF c168 H
        refine AWp.exit ?_
        obtain rfl:=sj H
        exact lf [(3,5)] [] [] (by kernel_rfl) ⟨rfl,rfl⟩
      ·rcases o289 with rr | _
       ·skip
        rintro e s ⟨rfl,hfl,hres⟩
        obtain rfl:=sj H
        exact Exists.intro _ (And.intro (fun _ _ h=>h) (And.intro (.inl rfl) (And.intro hfl hres)))
       ·skip
        rintro e s ⟨rfl,rfl⟩
        obtain⟨t281,e282,H⟩:=Z3 H
        refine sR hP hn hm [(7,.more (xFz (.app 6 ([(⟨0,a0.f3⟩:Z2)].map Z0)))),(8,.app 7 ([a0.f6,a0.f7,[(⟨0,a0.f3⟩:Z2)]].map (Z0y Z0))),(9,.call [] [] [7] [] 0 (.tup [iV .u64 t281.1,iV .i64 t281.2]) [])] [(6,iV .u64 t281.1),(7,iV .i64 t281.2)] [1,6,7] [] [5] [[(⟨0,a0.f3⟩:Z2)].map Z0=[[iI .i64 0,iI .u64 a0.f3]],[a0.f6,a0.f7,[(⟨0,a0.f3⟩:Z2)]].map (Z0y Z0)=[[.row (a0.f6.map Z0)],[.row (a0.f7.map Z0)],[.row ([(⟨0,a0.f3⟩:Z2)].map Z0)]],_,_] ⟨by exact rfl,by exact rfl,Tryz.call64,Z0c.ok [a0.f6,a0.f7,[(⟨0,a0.f3⟩:Z2)]] t281 e282,trivial⟩ ?_
        refine AWp.seq ?_
        refine AWp.block ?_
        refine sO hP hn hm [] [(64,bV (t281.2 != (0:Int)))] [1,6,7,64] [] [5] ?_
        refine AWp.cond (t281.2 != (0:Int)) (by kernel_rfl) (fun c283 => ?_) (fun c283 => ?_)
        ·replace H:=iT c283 H
         refine sO hP hn hm [] [(2,iV .i64 t281.2)] [2] [] [] ?_
         refine AWp.conv (inv:=[]) (vk:=[]) (e0:=[]) (t:=⟨[(2,iV .i64 t281.2)],[],0⟩) (by kernel_rfl) ?_
         refine AWp.ret ?_
         obtain rfl:=sj H
         exact rl (.inl rfl) rfl (by kernel_rfl) (by kernel_rfl)
        ·replace H:=iF c283 H
         refine sO hP hn hm [] [(68,bV (t281.1 != a0.f4))] [68] [] [] ?_
         refine AWp.cond (t281.1 != a0.f4) (by kernel_rfl) (fun c284 => ?_) (fun c284 => ?_)
         ·replace H:=iT c284 H
          refine sO hP hn hm [] [(2,iV .i64 21)] [2] [] [] ?_
          refine AWp.conv (inv:=[]) (vk:=[]) (e0:=[]) (t:=⟨[(2,iV .i64 21)],[],0⟩) (by kernel_rfl) ?_
          refine AWp.ret ?_
          obtain rfl:=sj H
          exact rl (.inl rfl) rfl (by kernel_rfl) (by kernel_rfl)
         ·replace H:=iF c284 H
          refine AWp.skip ?_
          refine sO hP hn hm [] [(2,iV .i64 0)] [2] [] [] ?_
          refine AWp.conv (inv:=[]) (vk:=[]) (e0:=[]) (t:=⟨[(2,iV .i64 0)],[],0⟩) (by kernel_rfl) ?_
          refine AWp.ret ?_
          obtain rfl:=sj H
          exact rl (.inl rfl) rfl (by kernel_rfl) (by kernel_rfl)
def Z2v.f (a0:Ze) (a1:Ze):Option (Bool):=((if(a0.f0==a1.f0)=true then(if(a0.f1==a1.f1)=true then(some (a0.f2==a1.f2)) else(some false)) else(some false)):Option (Bool))>>=fun x312=>some x312
theorem Z2v.ok (a0:Ze) (a1:Ze) (r:Bool) (H:Z2v.f a0 a1=some r):Pv.Fn Tryz.prog 50 [.agg (Zh a0),.agg (Zh a1)] [] 0 (fun x o=>x=bV r∧o=[]):=by
 unfold Z2v.f at H
 refine Fn.bodyK [] Tryz.func50 rfl rfl (fun Γ hP hn => ?_)
 have hm:Tryz.prog.follows .mixedOrders=true:=by kernel_rfl
 replace hn:Γ.n=24:=hn
 refine sO hP hn hm [(0,.k 0),(1,.k 1)] [(2,.ptr 0 0 0),(3,.ptr 1 0 0)] [2,3] [(0,some (.box 39 (Zh a0))),(1,some (.box 39 (Zh a1)))] [0,1] ?_
 refine AWp.seq ?_
 obtain⟨o313,e314,H⟩:=Z3 H
 refine AWp.mono (Q:=fun e s=>(match (generalizing:=false) o313 with | x312=>e = .normal∧s=⟨[(4,bV x312)],[],0⟩)) (AWp.cv ?_) ?_
 ·replace H:=e314;clear e314
  rcases Bool.eq_false_or_eq_true (a0.f0==a1.f0) with c310 | c310
  ·replace H:=iT c310 H
   rcases Bool.eq_false_or_eq_true (a0.f1==a1.f1) with c311 | c311
   ·replace H:=iT c311 H
    refine rG hP hn hm [(5,.b true),(12,.b true)] [(4,bV (a0.f2==a1.f2))] [4] [] [] [_,_] ⟨c310,c311,trivial⟩ ?_
    obtain rfl:=sj H
    exact lf [] [] [] (by kernel_rfl) ⟨rfl,rfl⟩
   ·replace H:=iF c311 H
    refine rG hP hn hm [(5,.b true),(12,.b false)] [(4,bV false)] [4] [] [] [_,_] ⟨c310,c311,trivial⟩ ?_
    obtain rfl:=sj H
    exact lf [] [] [] (by kernel_rfl) ⟨rfl,rfl⟩
  ·replace H:=iF c310 H
   refine rG hP hn hm [(5,.b false)] [(4,bV false)] [4] [] [] [_] ⟨c310,trivial⟩ ?_
   obtain rfl:=sj H
   exact lf [] [] [] (by kernel_rfl) ⟨rfl,rfl⟩
 ·obtain⟨x312,rfl⟩:∃ z,z=o313:=⟨_,rfl⟩
  rintro e s ⟨rfl,rfl⟩
  refine AWp.conv (inv:=[]) (vk:=[]) (e0:=[]) (t:=⟨[(4,bV x312)],[],0⟩) (by kernel_rfl) ?_
  refine AWp.ret ?_
  obtain rfl:=sj H
  exact rl (.inl rfl) rfl (by kernel_rfl) (by kernel_rfl)
def Z37.f (a0:Int) (a1:Int):Option (Int×Int):=if(!((decide (a0<a1))==(decide ((i64.wrap (a0-a1))<(0:Int)))))=true then(some (0,5)) else(some (i64.wrap (a0-a1),0))
theorem Z37.ok (a0:Int) (a1:Int) (r:Int×Int) (H:Z37.f a0 a1=some r):Pv.Fn Tryz.prog 94 [iV .i64 a0,iV .i64 a1] [] 0 (fun x o=>x = .tup [iV .i64 r.1,iV .i64 r.2]∧o=[]):=by
 unfold Z37.f at H
 refine Fn.bodyK [] Tryz.func94 rfl rfl (fun Γ hP hn => ?_)
 have hm:Tryz.prog.follows .mixedOrders=true:=by kernel_rfl
 replace hn:Γ.n=17:=hn
 refine sO hP hn hm [] [] [0,1] [] [] ?_
 refine sO hP hn hm [] [(6,iV .i64 (i64.wrap (a0-a1)))] [0,1,6] [] [] ?_
 refine AWp.seq ?_
 refine sO hP hn hm [] [(15,bV (!((decide (a0<a1))==(decide ((i64.wrap (a0-a1))<(0:Int))))))] [6,15] [] [] ?_
 refine AWp.cond (!((decide (a0<a1))==(decide ((i64.wrap (a0-a1))<(0:Int))))) (by kernel_rfl) (fun c324 => ?_) (fun c324 => ?_)
 ·replace H:=iT c324 H
  refine sO hP hn hm [] [(4,iV .i64 0),(5,iV .i64 5)] [4,5] [] [] ?_
  refine AWp.conv (inv:=[]) (vk:=[]) (e0:=[]) (t:=⟨[(4,iV .i64 0),(5,iV .i64 5)],[],0⟩) (by kernel_rfl) ?_
  refine AWp.ret ?_
  obtain rfl:=sj H
  exact rl (.inl rfl) rfl (by kernel_rfl) (by kernel_rfl)
 ·replace H:=iF c324 H
  refine AWp.skip ?_
  refine sO hP hn hm [] [(4,iV .i64 (i64.wrap (a0-a1))),(5,iV .i64 0)] [4,5] [] [] ?_
  refine AWp.conv (inv:=[]) (vk:=[]) (e0:=[]) (t:=⟨[(4,iV .i64 (i64.wrap (a0-a1))),(5,iV .i64 0)],[],0⟩) (by kernel_rfl) ?_
  refine AWp.ret ?_
  obtain rfl:=sj H
  exact rl (.inl rfl) rfl (by kernel_rfl) (by kernel_rfl)
def Z5v.f (a0:Int) (a1:Int):Option (Unit):=(chk (0≤a1))>>=fun _=>some ()
theorem Z5v.ok (a0:Int) (a1:Int) (r:Unit) (H:Z5v.f a0 a1=some r):Pv.Fn Tryz.prog 125 [iV .i64 a0,iV .u64 a1] [] 0 (fun x o=>x=iV .i64 (i64.wrap (0-(Int.fdiv (i64.wrap (0-a0)) (2 ^ (min (Int.toNat (a1)) 64)))))∧o=[]):=by
 unfold Z5v.f at H
 refine Fn.bodyK [] Tryz.func125 rfl rfl (fun Γ hP hn => ?_)
 have hm:Tryz.prog.follows .mixedOrders=true:=by kernel_rfl
 replace hn:Γ.n=10:=hn
 refine sO hP hn hm [] [] [0,1] [] [] ?_
 obtain⟨c364,H⟩:=Z0q H
 refine sR hP hn hm [] [(4,iV .i64 (i64.wrap (0-(Int.fdiv (i64.wrap (0-a0)) (2 ^ (min (Int.toNat (a1)) 64))))))] [4] [] [] [_] ⟨c364,trivial⟩ ?_
 refine AWp.conv (inv:=[]) (vk:=[]) (e0:=[]) (t:=⟨[(4,iV .i64 (i64.wrap (0-(Int.fdiv (i64.wrap (0-a0)) (2 ^ (min (Int.toNat (a1)) 64))))))],[],0⟩) (by kernel_rfl) ?_
 refine AWp.ret ?_
 obtain rfl:=sj H
 exact rl (.inl rfl) rfl (by kernel_rfl) (by kernel_rfl)
def Z3x.f (a0:Int) (a1:Int) (a2:Int):Option (Int×Int):=(((Zu.f a0)>>=fun t350=>if(!t350)=true then(some true) else((Zu.f a1)>>=fun t353=>if(!t353)=true then(some true) else(some (decide (a1>a0))))):Option (Bool))>>=fun x356=>if x356=true then(some (0,20)) else((Z3b.f a0 a2)>>=fun t360=>if(!t360)=true then(some (0,4)) else((Z5v.f a2 (u64.wrap (i64.wrap (a0-a1))))>>=fun t367=>some (i64.wrap (0-(Int.fdiv (i64.wrap (0-a2)) (2 ^ (min (Int.toNat ((u64.wrap (i64.wrap (a0-a1))))) 64)))),0)))
theorem Z3x.ok (a0:Int) (a1:Int) (a2:Int) (r:Int×Int) (H:Z3x.f a0 a1 a2=some r):Pv.Fn Tryz.prog 121 [iV .i64 a0,iV .i64 a1,iV .i64 a2] [] 0 (fun x o=>x = .tup [iV .i64 r.1,iV .i64 r.2]∧o=[]):=by
 unfold Z3x.f at H
 refine Fn.bodyK [] Tryz.func121 rfl rfl (fun Γ hP hn => ?_)
 have hm:Tryz.prog.follows .mixedOrders=true:=by kernel_rfl
 replace hn:Γ.n=33:=hn
 refine sO hP hn hm [] [] [0,1,2] [] [] ?_
 refine AWp.seq ?_
 refine AWp.block ?_
 refine AWp.seq ?_
 obtain⟨o369,e370,H⟩:=Z3 H
 refine AWp.mono (Q:=fun e s=>(match (generalizing:=false) o369 with | x356=>e = .normal∧s=⟨[(0,iV .i64 a0),(1,iV .i64 a1),(2,iV .i64 a2),(8,bV x356)],[],0⟩)) (AWp.cv ?_) ?_
 ·replace H:=e370;clear e370
  obtain⟨t350,e351,H⟩:=Z3 H
  rcases Bool.eq_false_or_eq_true (!t350) with c352 | c352
  ·replace H:=iT c352 H
   refine rG hP hn hm [(1,.call [] [] [] [] 0 (bV t350) []),(3,.b true)] [(8,bV true)] [0,1,2,8] [] [] [_,_,_] ⟨Tryz.call62,Zu.ok a0 t350 e351,c352,trivial⟩ ?_
   obtain rfl:=sj H
   exact lf [] [] [] (by kernel_rfl) ⟨rfl,rfl⟩
  ·replace H:=iF c352 H
   obtain⟨t353,e354,H⟩:=Z3 H
   rcases Bool.eq_false_or_eq_true (!t353) with c355 | c355
   ·replace H:=iT c355 H
    refine rG hP hn hm [(1,.call [] [] [] [] 0 (bV t350) []),(3,.b false),(5,.call [] [] [] [] 0 (bV t353) []),(8,.b true)] [(8,bV true)] [0,1,2,8] [] [] [_,_,_,_,_,_] ⟨Tryz.call62,Zu.ok a0 t350 e351,c352,Tryz.call62,Zu.ok a1 t353 e354,c355,trivial⟩ ?_
    obtain rfl:=sj H
    exact lf [] [] [] (by kernel_rfl) ⟨rfl,rfl⟩
   ·replace H:=iF c355 H
    refine rG hP hn hm [(1,.call [] [] [] [] 0 (bV t350) []),(3,.b false),(5,.call [] [] [] [] 0 (bV t353) []),(8,.b false)] [(8,bV (decide (a1>a0)))] [0,1,2,8] [] [] [_,_,_,_,_,_] ⟨Tryz.call62,Zu.ok a0 t350 e351,c352,Tryz.call62,Zu.ok a1 t353 e354,c355,trivial⟩ ?_
    obtain rfl:=sj H
    exact lf [] [] [] (by kernel_rfl) ⟨rfl,rfl⟩
 ·obtain⟨x356,rfl⟩:∃ z,z=o369:=⟨_,rfl⟩
  rintro e s ⟨rfl,rfl⟩
  refine AWp.cond x356 (by kernel_rfl) (fun c357 => ?_) (fun c357 => ?_)
  ·replace H:=iT c357 H
   refine sO hP hn hm [] [(6,iV .i64 0),(7,iV .i64 20)] [6,7] [] [] ?_
   refine AWp.conv (inv:=[]) (vk:=[]) (e0:=[]) (t:=⟨[(6,iV .i64 0),(7,iV .i64 20)],[],0⟩) (by kernel_rfl) ?_
   refine AWp.ret ?_
   obtain rfl:=sj H
   exact rl (.inl rfl) rfl (by kernel_rfl) (by kernel_rfl)
  ·replace H:=iF c357 H
   obtain⟨t360,e361,H⟩:=Z3 H
   refine sR hP hn hm [(2,.call [] [] [] [] 0 (bV t360) [])] [(22,bV (!t360))] [0,1,2,22] [] [] [_,_] ⟨Tryz.call87,Z3b.ok a0 a2 t360 e361,trivial⟩ ?_
   refine AWp.cond (!t360) (by kernel_rfl) (fun c362 => ?_) (fun c362 => ?_)
   ·replace H:=iT c362 H
    refine sO hP hn hm [] [(6,iV .i64 0),(7,iV .i64 4)] [6,7] [] [] ?_
    refine AWp.conv (inv:=[]) (vk:=[]) (e0:=[]) (t:=⟨[(6,iV .i64 0),(7,iV .i64 4)],[],0⟩) (by kernel_rfl) ?_
    refine AWp.ret ?_
    obtain rfl:=sj H
    exact rl (.inl rfl) rfl (by kernel_rfl) (by kernel_rfl)
   ·replace H:=iF c362 H
    refine AWp.skip ?_
    obtain⟨t367,e368,H⟩:=Z3 H
    refine sR hP hn hm [(5,.call [] [] [] [] 0 (iV .i64 (i64.wrap (0-(Int.fdiv (i64.wrap (0-a2)) (2 ^ (min (Int.toNat ((u64.wrap (i64.wrap (a0-a1))))) 64)))))) [])] [(6,iV .i64 (i64.wrap (0-(Int.fdiv (i64.wrap (0-a2)) (2 ^ (min (Int.toNat ((u64.wrap (i64.wrap (a0-a1))))) 64)))))),(7,iV .i64 0)] [6,7] [] [] [_,_] ⟨Tryz.call125,Z5v.ok a2 (u64.wrap (i64.wrap (a0-a1))) t367 e368,trivial⟩ ?_
    refine AWp.conv (inv:=[]) (vk:=[]) (e0:=[]) (t:=⟨[(6,iV .i64 (i64.wrap (0-(Int.fdiv (i64.wrap (0-a2)) (2 ^ (min (Int.toNat ((u64.wrap (i64.wrap (a0-a1))))) 64)))))),(7,iV .i64 0)],[],0⟩) (by kernel_rfl) ?_
    refine AWp.ret ?_
    obtain rfl:=sj H
    exact rl (.inl rfl) rfl (by kernel_rfl) (by kernel_rfl)
def Z1j.l0 (a0:List Z2) (a1:Int) (a2:Int) (x377:List Z2) (x378:Int):Option (List Z2):=if(decide (x378<(a0.length:Int)))=true then((at? a0 x378)>>=fun b383=>(Z3x.f a1 a2 b383.f0)>>=fun t388=>(chk ((x377.length+[(⟨t388.1,b383.f1⟩:Z2)].length)*16≤140737488355328))>>=fun _=>Z1j.l0 a0 a1 a2 (x377++[(⟨t388.1,b383.f1⟩:Z2)]) (i64.wrap (x378+(1:Int)))) else(some x377)
partial_fixpoint
def Z1j.f (a0:List Z2) (a1:Int) (a2:Int):Option (List Z2):=(Z1j.l0 a0 a1 a2 [] 0)>>=fun x392=>some x392
theorem Z1j.ok (a0:List Z2) (a1:Int) (a2:Int) (r:List Z2) (H:Z1j.f a0 a1 a2=some r):Pv.Fn Tryz.prog 115 [.im (.row (a0.map Z0)),iV .i64 a1,iV .i64 a2] [] 0 (fun x o=>x = .own 0∧o=[(0,some (.row 2 87 (r.map Z0)))]):=by
 unfold Z1j.f at H
 refine Fn.bodyK [0] Tryz.func115 rfl rfl (fun Γ hP hn => ?_)
 have hm:Tryz.prog.follows .mixedOrders=true:=by kernel_rfl
 replace hn:Γ.n=31:=hn
 refine sO hP hn hm [] [] [0,1,2] [] [] ?_
 refine sO hP hn hm [] [(7,.none0)] [0,1,2,7] [] [] ?_
 refine AWp.seq ?_
 refine sR hP hn hm [(1,.any (iV .i64 (a0.length:Int)))] [(10,.im (.row (a0.map Z0))),(11,iV .i64 (a0.length:Int)),(12,iV .i64 0)] [1,2,7,10,11,12] [] [] [((a0.map Z0).length:Int)=(a0.length:Int)] ⟨by rw[Zi],trivial⟩ ?_
 refine AWp.block ?_
 obtain⟨o393,e394,H⟩:=Z3 H
 refine AWp.loop (LWp.conv (inv:=[]) (vk:=[]) (e0:=[3]) (t:=⟨[(1,iV .i64 a1),(2,iV .i64 a2),(7,.own 3),(10,.im (.row (a0.map Z0))),(11,iV .i64 (a0.length:Int)),(12,iV .i64 0)],[(3,some (.row 2 87 ([].map Z0)))],0⟩) (by kernel_rfl) ?_)
 refine LWp.mono (Q:=fun e s=>(match (generalizing:=false) o393 with | x392=>e = .exit 0∧s=⟨[(7,.own 7)],[(7,some (.row 2 87 (x392.map Z0)))],0⟩)) (LWp.cv (Zn (fun body hbody => ?_))) ?_
 ·refine         Z1j.l0.partial_correctness a0 a1 a2 (motive:=fun x377 x378 o393=>LWp Γ body (fun e s=>∃ t,Cv Γ s t∧(match (generalizing:=false) o393 with | x392=>e = .exit 0∧t=⟨[(7,.own 7)],[(7,some (.row 2 87 (x392.map Z0     )))],0⟩)) ⟨[(1,iV .i64 a1),(2,iV .i64 a2),(7,.own 3),(10,.im (.row (a0.map Z0     ))),(11,iV .i64 (a0.length:Int)),(12,iV .i64 x378)],[(3,some (.row 2 87 (x377.map Z0     )))],0⟩) ?_ _ _ _ e394
  clear H e394 o393;intro self ih x377 x378 o393 H
  subst hbody
  refine LWp.round ?_
  refine sO hP hn hm [] [(13,bV (decide (x378<(a0.length:Int))))] [1,2,7,10,11,12,13] [] [3] ?_
  refine AWp.seq ?_
  refine AWp.cond (decide (x378<(a0.length:Int))) (by kernel_rfl) (fun c379 => ?_) (fun c379 => ?_)
  ·replace H:=iT c379 H
   refine AWp.skip ?_
   refine AWp.seq ?_
   refine AWp.block ?_
   obtain⟨b383,p384,q385,H⟩:=Z03 H
   refine sR hP hn hm [(0,.c (Z0 b383)),(2,.k 4)] [(9,.ptr 4 0 0)] [1,2,7,9,10,11,12] [(4,some (.box 87 (Z2b b383)))] [3,4] [_,_] ⟨p384,Zf Z0 q385,trivial⟩ ?_
   obtain⟨t388,e389,H⟩:=Z3 H
   refine sR hP hn hm [(4,.call [] [] [] [] 0 (.tup [iV .i64 t388.1,iV .i64 t388.2]) [])] [] [1,2,7,9,10,11,12] [(4,some (.box 87 (Z2b ⟨t388.1,b383.f1⟩)))] [3,4] [_,_] ⟨Tryz.call121,Z3x.ok a1 a2 b383.f0 t388 e389,trivial⟩ ?_
   obtain⟨c391,H⟩:=Z0q H
   refine rG hP hn hm [(2,.app 5 ([(⟨t388.1,b383.f1⟩:Z2)].map Z0)),(3,.app 6 ((x377++[(⟨t388.1,b383.f1⟩:Z2)]).map Z0))] [(7,.own 6)] [1,2,7,10,11,12] [(6,some (.row 2 87 ((x377++[(⟨t388.1,b383.f1⟩:Z2)]).map Z0)))] [6] [[(⟨t388.1,b383.f1⟩:Z2)].map Z0=[[iI .i64 t388.1,iI .u64 b383.f1]],(x377++[(⟨t388.1,b383.f1⟩:Z2)]).map Z0=(x377.map Z0)++([(⟨t388.1,b383.f1⟩:Z2)].map Z0),∀ c∈([(⟨t388.1,b383.f1⟩:Z2)].map Z0),c.length=2,∀ c∈([(⟨t388.1,b383.f1⟩:Z2)].map Z0),Z0m (c.map .im)=true,((x377.map Z0).length+([(⟨t388.1,b383.f1⟩:Z2)].map Z0).length)*16≤140737488355328] ⟨by exact rfl,by simp,by exact Z0k _ _ _ (fun _=>rfl),by exact Z0j _ _ (fun _=>rfl),by simpa using c391,trivial⟩ ?_
   refine rO hP hn hm [] [(12,iV .i64 (i64.wrap (x378+(1:Int))))] [1,2,7,10,11,12] [] [6] ?_
   exact LWp.conv [(6,3)] [] [] (by kernel_rfl) (ih _ _ _ H)
  ·replace H:=iF c379 H
   refine AWp.exit ?_
   obtain rfl:=sj H
   exact lf [(3,7)] [] [] (by kernel_rfl) ⟨rfl,rfl⟩
 ·obtain⟨x392,rfl⟩:∃ z,z=o393:=⟨_,rfl⟩
  rintro e s ⟨rfl,rfl⟩
  refine sO hP hn hm [] [(6,.own 7)] [6] [] [7] ?_
  refine AWp.conv (inv:=[(7,0)]) (vk:=[]) (e0:=[]) (t:=⟨[(6,.own 0)],[(0,some (.row 2 87 (x392.map Z0)))],0⟩) (by kernel_rfl) ?_
  refine AWp.ret ?_
  obtain rfl:=sj H
  exact rl (.inl rfl) rfl (by kernel_rfl) (by kernel_rfl)
def Z1i.l0 (a0:Ze) (a1:List Z2) (a2:Int) (x426:Int):Option (Int ⊕ Unit):=if(decide (x426<(a1.length:Int)))=true then((at? a1 x426)>>=fun b431=>(((Z2y.f a0.f1 b431.f0)>>=fun t439=>if(decide (t439<a2))=true then((Z1c.f a0.f1 b431.f0)>>=fun t442=>some (decide (a2<t442))) else(some false)):Option (Bool))>>=fun x444=>if x444=true then((Z1c.f a0.f1 b431.f0)>>=fun t448=>some (.inl t448)) else(Z1i.l0 a0 a1 a2 (i64.wrap (x426+(1:Int))))) else(some (.inr ()))
partial_fixpoint
def Z1i.f (a0:Ze) (a1:List Z2) (a2:Int):Option (Int):=(Z1i.l0 a0 a1 a2 0)>>=fun oo=>match oo with | .inl rr=>(some rr) | .inr _=>(some a2)
theorem Z1i.ok (a0:Ze) (a1:List Z2) (a2:Int) (r:Int) (H:Z1i.f a0 a1 a2=some r):Pv.Fn Tryz.prog 122 [.agg (Zh a0),.im (.row (a1.map Z0)),iV .i64 a2] [] 0 (fun x o=>x=iV .i64 r∧o=[]):=by
 unfold Z1i.f at H
 refine Fn.bodyK [] Tryz.func122 rfl rfl (fun Γ hP hn => ?_)
 have hm:Tryz.prog.follows .mixedOrders=true:=by kernel_rfl
 replace hn:Γ.n=38:=hn
 refine sO hP hn hm [(0,.k 0)] [(3,.ptr 0 0 0)] [1,2,3] [(0,some (.box 39 (Zh a0)))] [0] ?_
 refine AWp.seq ?_
 refine sR hP hn hm [(1,.any (iV .i64 (a1.length:Int)))] [(9,.im (.row (a1.map Z0))),(10,iV .i64 (a1.length:Int)),(11,iV .i64 0)] [2,3,9,10,11] [] [0] [((a1.map Z0).length:Int)=(a1.length:Int)] ⟨by rw[Zi],trivial⟩ ?_
 refine AWp.block ?_
 obtain⟨o450,e451,H⟩:=Z3 H
 refine AWp.loop (LWp.conv (inv:=[(0,4)]) (vk:=[]) (e0:=[]) (t:=⟨[(2,iV .i64 a2),(3,.ptr 4 0 0),(9,.im (.row (a1.map Z0))),(10,iV .i64 (a1.length:Int)),(11,iV .i64 0)],[(4,some (.box 39 (Zh a0)))],0⟩) (by kernel_rfl) ?_)
 refine LWp.mono (Q:=fun e s=>(match (generalizing:=false) o450 with | .inl rr=>e = .ret∧s.floor=0∧Z1x Tryz.prog Tryz.f122 s=some (iV .i64 rr)∧([]:List (Nat×Option MObj))=[] | .inr _=>e = .exit 0∧s=⟨[(2,iV .i64 a2)],[],0⟩)) (LWp.cv (Zn (fun body hbody => ?_))) ?_
 ·refine         Z1i.l0.partial_correctness a0 a1 a2 (motive:=fun x426 o450=>LWp Γ body (fun e s=>∃ t,Cv Γ s t∧(match (generalizing:=false) o450 with | .inl rr=>e = .ret∧t.floor=0∧Z1x   Tryz.prog Tryz.f122 t=some (iV .i64 rr)∧([]:List (Nat×Option MObj))=[] | .inr _=>e = .exit 0∧t=⟨[(2,iV .i64 a2)],[],0⟩)) ⟨[(2,iV .i64 a2),(3,.ptr 4 0 0),(9,.im (.row (a1.map Z0     ))),(10,iV .i64 (a1.length:Int)),(11,iV .i64 x426)],[(4,some (.box 39 (Zh    a0)))],0⟩) ?_ _ _ e451
  clear H e451 o450;intro self ih x426 o450 H
  subst hbody
  refine LWp.round ?_
  refine sO hP hn hm [] [(12,bV (decide (x426<(a1.length:Int))))] [2,3,9,10,11,12] [] [4] ?_
  refine AWp.seq ?_
  refine AWp.cond (decide (x426<(a1.length:Int))) (by kernel_rfl) (fun c427 => ?_) (fun c427 => ?_)
  ·replace H:=iT c427 H
   refine AWp.skip ?_
   refine AWp.seq ?_
   refine AWp.block ?_
   obtain⟨b431,p432,q433,H⟩:=Z03 H
   refine sR hP hn hm [(0,.c (Z0 b431)),(2,.k 5)] [(8,.ptr 5 0 0)] [2,3,8,9,10,11] [(5,some (.box 87 (Z2b b431)))] [4,5] [_,_] ⟨p432,Zf Z0 q433,trivial⟩ ?_
   refine AWp.seq ?_
   obtain⟨o452,e453,H⟩:=Z3 H
   refine AWp.mono (Q:=fun e s=>(match (generalizing:=false) o452 with | x444=>e = .normal∧s=⟨[(2,iV .i64 a2),(3,.ptr 6 0 0),(8,.ptr 7 0 0),(9,.im (.row (a1.map Z0))),(10,iV .i64 (a1.length:Int)),(11,iV .i64 x426),(30,bV x444)],[(6,some (.box 39 (Zh a0))),(7,some (.box 87 (Z2b b431)))],0⟩)) (AWp.cv ?_) ?_
   ·replace H:=e453;clear e453
    obtain⟨t439,e440,H⟩:=Z3 H
    rcases Bool.eq_false_or_eq_true (decide (t439<a2)) with c441 | c441
    ·replace H:=iT c441 H
     obtain⟨t442,e443,H⟩:=Z3 H
     refine rG hP hn hm [(4,.call [] [] [] [] 0 (iV .i64 t439) []),(7,.b true),(13,.call [] [] [] [] 0 (iV .i64 t442) [])] [(23,iV .i64 a2),(24,.ptr 4 0 1),(25,iV .i64 a0.f1),(26,.ptr 5 0 0),(27,iV .i64 b431.f0),(28,iV .i64 t442),(29,bV (decide (a2<t442))),(30,bV (decide (a2<t442)))] [2,3,8,9,10,11,23,24,25,26,27,28,29,30] [] [4,5] [_,_,_,_,_] ⟨Tryz.call88,Z2y.ok a0.f1 b431.f0 t439 e440,c441,Tryz.call101,Z1c.ok a0.f1 b431.f0 t442 e443,trivial⟩ ?_
     obtain rfl:=sj H
     exact lf [(4,6),(5,7)] [] [] (by kernel_rfl) ⟨rfl,rfl⟩
    ·replace H:=iF c441 H
     refine rG hP hn hm [(4,.call [] [] [] [] 0 (iV .i64 t439) []),(7,.b false)] [(30,bV false)] [2,3,8,9,10,11,30] [] [4,5] [_,_,_] ⟨Tryz.call88,Z2y.ok a0.f1 b431.f0 t439 e440,c441,trivial⟩ ?_
     obtain rfl:=sj H
     exact lf [(4,6),(5,7)] [] [] (by kernel_rfl) ⟨rfl,rfl⟩
   ·obtain⟨x444,rfl⟩:∃ z,z=o452:=⟨_,rfl⟩
    rintro e s ⟨rfl,rfl⟩
    refine AWp.cond x444 (by kernel_rfl) (fun c445 => ?_) (fun c445 => ?_)
    ·replace H:=iT c445 H
     obtain⟨t448,e449,H⟩:=Z3 H
     refine sR hP hn hm [(4,.call [] [] [] [] 0 (iV .i64 t448) [])] [(6,iV .i64 t448)] [6] [] [] [_,_] ⟨Tryz.call101,Z1c.ok a0.f1 b431.f0 t448 e449,trivial⟩ ?_
     refine AWp.conv (inv:=[]) (vk:=[]) (e0:=[]) (t:=⟨[(6,iV .i64 t448)],[],0⟩) (by kernel_rfl) ?_
     refine AWp.ret ?_
     obtain rfl:=sj H
     exact rl rfl rfl (by kernel_rfl) (by kernel_rfl)
    ·replace H:=iF c445 H
     refine AWp.skip ?_
     refine rO hP hn hm [] [(11,iV .i64 (i64.wrap (x426+(1:Int))))] [2,3,9,10,11] [] [6] ?_
     exact LWp.conv [(6,4)] [] [] (by kernel_rfl) (ih _ _ H)
  ·replace H:=iF c427 H
   refine AWp.exit ?_
   obtain rfl:=sj H
   exact lf [] [] [] (by kernel_rfl) ⟨rfl,rfl⟩
 ·rcases o450 with rr | _
  ·skip
   rintro e s ⟨rfl,hfl,hres⟩
   obtain rfl:=sj H
   exact Exists.intro _ (And.intro (fun _ _ h=>h) (And.intro (.inl rfl) (And.intro hfl hres)))
  ·skip
   rintro e s ⟨rfl,rfl⟩
   refine sO hP hn hm [] [(6,iV .i64 a2)] [6] [] [] ?_
   refine AWp.conv (inv:=[]) (vk:=[]) (e0:=[]) (t:=⟨[(6,iV .i64 a2)],[],0⟩) (by kernel_rfl) ?_
   refine AWp.ret ?_
   obtain rfl:=sj H
   exact rl (.inl rfl) rfl (by kernel_rfl) (by kernel_rfl)
def Zt.l0 (a0:List Z2) (a1_c0:Int) (a1_c1:Int) (a1_c2:Int) (a1_c4:Int) (a1_c5:Int) (a1_c6:List Z2) (a1_c7:List Z2) (a2_c0:Int) (x482:Int) (x483:List Z2) (x484:Int):Option ((List Z2)×Int):=if(decide (x484<(a0.length:Int)))=true then((at? a0 x484)>>=fun b489=>(Z1c.f a1_c1 b489.f0)>>=fun t494=>((if(decide (t494>a2_c0))=true then((chk ((x483.length+[b489].length)*16≤140737488355328))>>=fun _=>some (x482,x483++[b489])) else((Z1z.f [x482,b489.f1])>>=fun t501=>some (t501.1,x483))):Option (Int×(List Z2)))>>=fun oo=>match oo with | (x503,x504)=>(Zt.l0 a0 a1_c0 a1_c1 a1_c2 a1_c4 a1_c5 a1_c6 a1_c7 a2_c0 x503 x504 (i64.wrap (x484+(1:Int))))) else(some (x483,x482))
partial_fixpoint
def Zt.f (a0:List Z2) (a1_c0:Int) (a1_c1:Int) (a1_c2:Int) (a1_c3:Int) (a1_c4:Int) (a1_c5:Int) (a1_c6:List Z2) (a1_c7:List Z2) (a2_c0:Int):Option ((List Z2)×Int):=(Zt.l0 a0 a1_c0 a1_c1 a1_c2 a1_c4 a1_c5 a1_c6 a1_c7 a2_c0 a1_c3 [] 0)>>=fun oo=>match oo with | (x505,x506)=>(some (x505,x506))
theorem Zt.ok (a0:List Z2) (a1_c0:Int) (a1_c1:Int) (a1_c2:Int) (a1_c3:Int) (a1_c4:Int) (a1_c5:Int) (a1_c6:List Z2) (a1_c7:List Z2) (a2_c0:Int) (r:(List Z2)×Int) (H:Zt.f a0 a1_c0 a1_c1 a1_c2 a1_c3 a1_c4 a1_c5 a1_c6 a1_c7 a2_c0=some r):Pv.Fn Tryz.prog 123 [.im (.row (a0.map Z0)),.ptr 0 0 0,.ptr 1 0 0] [(0,some (.box 39 (Zh ⟨a1_c0,a1_c1,a1_c2,a1_c3,a1_c4,a1_c5,a1_c6,a1_c7⟩))),(1,some (.box 3 [iV .i64 a2_c0]))] 2 (fun x o=>x = .own 2∧o=[(0,some (.box 39 (Zh ⟨a1_c0,a1_c1,a1_c2,r.2,a1_c4,a1_c5,a1_c6,a1_c7⟩))),(1,some (.box 3 [iV .i64 a2_c0])),(2,some (.row 2 87 (r.1.map Z0)))]):=by
 unfold Zt.f at H
 refine Fn.bodyK [0,1,2] Tryz.func123 rfl rfl (fun Γ hP hn => ?_)
 have hm:Tryz.prog.follows .mixedOrders=true:=by kernel_rfl
 replace hn:Γ.n=37:=hn
 refine sO hP hn hm [] [] [0,1,2] [] [0,1] ?_
 refine sO hP hn hm [] [(5,.none0)] [0,1,2,5] [] [0,1] ?_
 refine AWp.seq ?_
 refine sR hP hn hm [(1,.any (iV .i64 (a0.length:Int)))] [(8,.im (.row (a0.map Z0))),(9,iV .i64 (a0.length:Int)),(10,iV .i64 0)] [1,2,5,8,9,10] [] [0,1] [((a0.map Z0).length:Int)=(a0.length:Int)] ⟨by rw[Zi],trivial⟩ ?_
 refine AWp.block ?_
 obtain⟨o507,e508,H⟩:=Z3 H
 refine AWp.loop (LWp.conv (inv:=[(0,0),(1,1)]) (vk:=[]) (e0:=[7]) (t:=⟨[(1,.ptr 0 0 0),(2,.ptr 1 0 0),(5,.own 7),(8,.im (.row (a0.map Z0))),(9,iV .i64 (a0.length:Int)),(10,iV .i64 0)],[(0,some (.box 39 (Zh ⟨a1_c0,a1_c1,a1_c2,a1_c3,a1_c4,a1_c5,a1_c6,a1_c7⟩))),(1,some (.box 3 [iV .i64 a2_c0])),(7,some (.row 2 87 ([].map Z0)))],2⟩) (by kernel_rfl) ?_)
 refine LWp.mono (Q:=fun e s=>(match (generalizing:=false) o507 with | (x505,x506)=>e = .exit 0∧s=⟨[(5,.own 13)],[(0,some (.box 39 (Zh ⟨a1_c0,a1_c1,a1_c2,x506,a1_c4,a1_c5,a1_c6,a1_c7⟩))),(1,some (.box 3 [iV .i64 a2_c0])),(13,some (.row 2 87 (x505.map Z0)))],2⟩)) (LWp.cv (Zn (fun body hbody => ?_))) ?_
 ·refine                   Zt.l0.partial_correctness a0 a1_c0 a1_c1 a1_c2 a1_c4 a1_c5 a1_c6 a1_c7 a2_c0 (motive:=fun x482 x483 x484 o507=>LWp Γ body (fun e s=>∃ t,Cv Γ s t∧(match (generalizing:=false) o507 with | (x505,x506)=>e = .exit 0∧t=⟨[(5,.own 13)],[(0,some (.box 39 (Zh    ⟨a1_c0,a1_c1,a1_c2,x506,a1_c4,a1_c5,a1_c6,a1_c7⟩))),(1,some (.box 3 [iV .i64 a2_c0])),(13,some (.row 2 87 (x505.map Z0     )))],2⟩)) ⟨[(1,.ptr 0 0 0),(2,.ptr 1 0 0),(5,.own 7),(8,.im (.row (a0.map Z0     ))),(9,iV .i64 (a0.length:Int)),(10,iV .i64 x484)],[(0,some (.box 39 (Zh    ⟨a1_c0,a1_c1,a1_c2,x482,a1_c4,a1_c5,a1_c6,a1_c7⟩))),(1,some (.box 3 [iV .i64 a2_c0])),(7,some (.row 2 87 (x483.map Z0     )))],2⟩) ?_ _ _ _ _ e508
  clear H e508 o507;intro self ih x482 x483 x484 o507 H
  subst hbody
  refine LWp.round ?_
  refine sO hP hn hm [] [(11,bV (decide (x484<(a0.length:Int))))] [1,2,5,8,9,10,11] [] [0,1,7] ?_
  refine AWp.seq ?_
  refine AWp.cond (decide (x484<(a0.length:Int))) (by kernel_rfl) (fun c485 => ?_) (fun c485 => ?_)
  ·replace H:=iT c485 H
   refine AWp.skip ?_
   refine AWp.seq ?_
   refine AWp.block ?_
   obtain⟨b489,p490,q491,H⟩:=Z03 H
   refine sR hP hn hm [(0,.c (Z0 b489)),(2,.k 8)] [(7,.ptr 8 0 0)] [1,2,5,7,8,9,10] [(8,some (.box 87 (Z2b b489)))] [0,1,7,8] [_,_] ⟨p490,Zf Z0 q491,trivial⟩ ?_
   obtain⟨t494,e495,H⟩:=Z3 H
   refine sR hP hn hm [(4,.call [] [] [] [] 0 (iV .i64 t494) [])] [(20,bV (decide (t494>a2_c0)))] [1,2,5,7,8,9,10,20] [] [0,1,7,8] [_,_] ⟨Tryz.call101,Z1c.ok a1_c1 b489.f0 t494 e495,trivial⟩ ?_
   obtain⟨o509,e510,H⟩:=Z3 H
   refine AWp.mono (Q:=fun e s=>(match (generalizing:=false) o509 with | (x503,x504)=>e = .normal∧s=⟨[(1,.ptr 0 0 0),(2,.ptr 1 0 0),(5,.own 12),(8,.im (.row (a0.map Z0))),(9,iV .i64 (a0.length:Int)),(10,iV .i64 x484)],[(0,some (.box 39 (Zh ⟨a1_c0,a1_c1,a1_c2,x503,a1_c4,a1_c5,a1_c6,a1_c7⟩))),(1,some (.box 3 [iV .i64 a2_c0])),(12,some (.row 2 87 (x504.map Z0)))],2⟩)) (AWp.cv ?_) ?_
   ·replace H:=e510;clear e510
    refine AWp.cond (decide (t494>a2_c0)) (by kernel_rfl) (fun c496 => ?_) (fun c496 => ?_)
    ·replace H:=iT c496 H
     obtain⟨c498,H⟩:=Z0q H
     refine rG hP hn hm [(2,.app 9 ([b489].map Z0)),(3,.app 10 ((x483++[b489]).map Z0))] [(5,.own 10)] [1,2,5,8,9,10] [(10,some (.row 2 87 ((x483++[b489]).map Z0)))] [0,1,10] [[b489].map Z0=[[iI .i64 b489.f0,iI .u64 b489.f1]],(x483++[b489]).map Z0=(x483.map Z0)++([b489].map Z0),∀ c∈([b489].map Z0),c.length=2,∀ c∈([b489].map Z0),Z0m (c.map .im)=true,((x483.map Z0).length+([b489].map Z0).length)*16≤140737488355328] ⟨by exact rfl,by simp,by exact Z0k _ _ _ (fun _=>rfl),by exact Z0j _ _ (fun _=>rfl),by simpa using c498,trivial⟩ ?_
     obtain rfl:=sj H
     exact lf [(0,0),(1,1),(10,12)] [] [] (by kernel_rfl) ⟨rfl,rfl⟩
    ·replace H:=iF c496 H
     obtain⟨t501,e502,H⟩:=Z3 H
     refine rG hP hn hm [(4,.app 11 ([x482,b489.f1].map (Z1 .u64))),(5,.call [] [] [11] [] 0 (.tup [iV .u64 t501.1,iV .i64 t501.2]) [])] [] [1,2,5,8,9,10] [(0,some (.box 39 (Zh ⟨a1_c0,a1_c1,a1_c2,t501.1,a1_c4,a1_c5,a1_c6,a1_c7⟩)))] [0,1,7] [[x482,b489.f1].map (Z1 .u64)=[[iI .u64 x482],[iI .u64 b489.f1]],_,_] ⟨by exact rfl,Tryz.call89,Z1z.ok [x482,b489.f1] t501 e502,trivial⟩ ?_
     obtain rfl:=sj H
     exact lf [(0,0),(1,1),(7,12)] [] [] (by kernel_rfl) ⟨rfl,rfl⟩
   ·obtain⟨x503,x504⟩:=o509
    rintro e s ⟨rfl,rfl⟩
    refine rO hP hn hm [] [(10,iV .i64 (i64.wrap (x484+(1:Int))))] [1,2,5,8,9,10] [] [0,1,12] ?_
    exact LWp.conv [(0,0),(1,1),(12,7)] [] [] (by kernel_rfl) (ih _ _ _ _ H)
  ·replace H:=iF c485 H
   refine AWp.exit ?_
   obtain rfl:=sj H
   exact lf [(7,13),(0,0),(1,1)] [] [] (by kernel_rfl) ⟨rfl,rfl⟩
 ·obtain⟨x505,x506⟩:=o507
  rintro e s ⟨rfl,rfl⟩
  refine sO hP hn hm [] [(4,.own 13)] [4] [] [0,1,13] ?_
  refine AWp.conv (inv:=[(0,0),(1,1),(13,2)]) (vk:=[]) (e0:=[]) (t:=⟨[(4,.own 2)],[(0,some (.box 39 (Zh ⟨a1_c0,a1_c1,a1_c2,x506,a1_c4,a1_c5,a1_c6,a1_c7⟩))),(1,some (.box 3 [iV .i64 a2_c0])),(2,some (.row 2 87 (x505.map Z0)))],2⟩) (by kernel_rfl) ?_
  refine AWp.ret ?_
  obtain rfl:=sj H
  exact rl (.inl rfl) rfl (by kernel_rfl) (by kernel_rfl)
def Zx.f (a0:List Z2):Option (List Z2):=(chk ((([]:List Z2).length+a0.length)*16≤140737488355328))>>=fun _=>some a0
theorem Zx.ok (a0 r:List Z2) (H:Zx.f a0=some r):Pv.Fn Tryz.prog 103 [.im (.row (a0.map Z0))] [] 0 (fun x o=>x = .own 0∧o=[(0,some (.row 2 87 (r.map Z0)))]):=by
 unfold Zx.f at H
 obtain⟨c1,H⟩:=Z0q H
 obtain rfl:=sj H
 refine Fn.bodyK [0] Tryz.func103 rfl rfl (fun Γ hP hn => ?_)
 have hm:Tryz.prog.follows .mixedOrders=true:=by kernel_rfl
 replace hn:Γ.n=8:=hn
 refine AWp.seq ?_
 refine reg hP hn hm [] [0,2] [] ⟨[(0,.im (.row (a0.map Z0))),(2,.none0)],[],0⟩ [] (by kernel_rfl) trivial ?_
 refine AWp.seq ?_
 cases a0 with
 | nil =>
  refine AWp.nilSplit 0 rfl (fun b m => ?_)
  refine AWp.seq ?_
  cases b with
  | none =>
   refine reg hP hn hm [(1,.more xNil)] [2,4] [] ⟨[(2,.none0),(4,bV true)],[],0⟩ [] (by kernel_rfl) trivial ?_
   refine AWp.cond true rfl (fun _ => ?_) (fun h=>nomatch h)
   refine AWp.seq ?_
   refine reg hP hn hm [] [2] [] ⟨[(2,.none0)],[],0⟩ [] (by kernel_rfl) trivial ?_
   refine AWp.conv (inv:=[]) (vk:=[]) (e0:=[0]) (t:=⟨[(2,.own 0)],[(0,some (.row 2 87 []))],0⟩) (by kernel_rfl) ?_
   refine AWp.ret ?_
   exact Exists.intro _ (And.intro (fun _ _ h=>h) (And.intro (.inl rfl) (And.intro rfl (And.intro (by kernel_rfl) (by kernel_rfl)))))
  | some b =>
   refine reg hP hn hm [(1,.more xNil)] [0,2,4] [] ⟨[(0,.im (.sc (.slice (some b) 0 m))),(2,.none0),(4,bV false)],[],0⟩ [] (by kernel_rfl) trivial ?_
   refine AWp.cond false rfl (fun h=>nomatch h) (fun _ => ?_)
   refine AWp.skip ?_
   refine AWp.unsplit 0 rfl ?_
   refine AWp.seq ?_
   refine reg hP hn hm [(0,.app 0 ([]:List (List Im))),(2,.app 1 (([]:List Z2).map Z0))] [2] [1] ⟨[(2,.own 1)],[(1,some (.row 2 87 (([]:List Z2).map Z0)))],0⟩ [([]:List (List Im))=[],([]:List Z2).map Z0=([]:List (List Im))++([]:List Z2).map Z0,∀ c∈([]:List Z2).map Z0,c.length=2,∀ c∈([]:List Z2).map Z0,Z0m (c.map .im)=true,(([]:List (List Im)).length+(([]:List Z2).map Z0).length)*16≤140737488355328] (by kernel_rfl) ⟨rfl,by simp,by exact Z0k _ _ _ (fun _=>rfl),by exact Z0j _ _ (fun _=>rfl),by simpa using c1,trivial⟩ ?_
   refine AWp.conv (inv:=[(1,0)]) (vk:=[]) (e0:=[]) (t:=⟨[(2,.own 0)],[(0,some (.row 2 87 (([]:List Z2).map Z0)))],0⟩) (by kernel_rfl) ?_
   refine AWp.ret ?_
   exact Exists.intro _ (And.intro (fun _ _ h=>h) (And.intro (.inl rfl) (And.intro rfl (And.intro (by kernel_rfl) (by kernel_rfl)))))
 | cons y l =>
  refine AWp.seq ?_
  refine reg hP hn hm [(1,.more xNil)] [0,2,4] [] ⟨[(0,.im (.row ((y::l).map Z0))),(2,.none0),(4,bV false)],[],0⟩ [] (by kernel_rfl) trivial ?_
  refine AWp.cond false rfl (fun h=>nomatch h) (fun _ => ?_)
  refine AWp.skip ?_
  refine AWp.seq ?_
  refine reg hP hn hm [(0,.app 0 ([]:List (List Im))),(2,.app 1 ((y::l).map Z0))] [2] [1] ⟨[(2,.own 1)],[(1,some (.row 2 87 ((y::l).map Z0)))],0⟩ [([]:List (List Im))=[],(y::l).map Z0=([]:List (List Im))++(y::l).map Z0,∀ c∈(y::l).map Z0,c.length=2,∀ c∈(y::l).map Z0,Z0m (c.map .im)=true,(([]:List (List Im)).length+((y::l).map Z0).length)*16≤140737488355328] (by kernel_rfl) ⟨rfl,by simp,by exact Z0k _ _ _ (fun _=>rfl),by exact Z0j _ _ (fun _=>rfl),by simpa using c1,trivial⟩ ?_
  refine AWp.conv (inv:=[(1,0)]) (vk:=[]) (e0:=[]) (t:=⟨[(2,.own 0)],[(0,some (.row 2 87 ((y::l).map Z0)))],0⟩) (by kernel_rfl) ?_
  refine AWp.ret ?_
  exact Exists.intro _ (And.intro (fun _ _ h=>h) (And.intro (.inl rfl) (And.intro rfl (And.intro (by kernel_rfl) (by kernel_rfl)))))
def Z0o.f (a0:Int):Option (Unit):=some ()
theorem Z0o.ok (a0:Int) (r:Unit) (H:Z0o.f a0=some r):Pv.Fn Tryz.prog 98 [iV .i64 a0] [] 0 (fun x o=>x=bV (a0 != a0)∧o=[]):=by
 unfold Z0o.f at H
 refine Fn.bodyK [] Tryz.func98 rfl rfl (fun Γ hP hn => ?_)
 have hm:Tryz.prog.follows .mixedOrders=true:=by kernel_rfl
 replace hn:Γ.n=6:=hn
 refine sO hP hn hm [] [] [0] [] [] ?_
 refine sO hP hn hm [] [(2,bV (a0 != a0))] [2] [] [] ?_
 refine AWp.conv (inv:=[]) (vk:=[]) (e0:=[]) (t:=⟨[(2,bV (a0 != a0))],[],0⟩) (by kernel_rfl) ?_
 refine AWp.ret ?_
 obtain rfl:=sj H
 exact rl (.inl rfl) rfl (by kernel_rfl) (by kernel_rfl)
def Z26.f (a0:Int) (a1:Int):Option (Int):=(Z0o.f a0)>>=fun t534=>(Z0o.f a1)>>=fun t538=>if(a0 != a0)=true then(if(a1 != a1)=true then(some 0) else(some (-1))) else(if(a1 != a1)=true then(some 1) else(if(decide (a0<a1))=true then(some (-1)) else(if(decide (a0>a1))=true then(some 1) else(some 0))))
theorem Z26.ok (a0:Int) (a1:Int) (r:Int) (H:Z26.f a0 a1=some r):Pv.Fn Tryz.prog 106 [iV .i64 a0,iV .i64 a1] [] 0 (fun x o=>x=iV .i64 r∧o=[]):=by
 unfold Z26.f at H
 refine Fn.bodyK [] Tryz.func106 rfl rfl (fun Γ hP hn => ?_)
 have hm:Tryz.prog.follows .mixedOrders=true:=by kernel_rfl
 replace hn:Γ.n=20:=hn
 refine sO hP hn hm [] [] [0,1] [] [] ?_
 obtain⟨t534,e535,H⟩:=Z3 H
 refine sR hP hn hm [(1,.call [] [] [] [] 0 (bV (a0 != a0)) [])] [(5,bV (a0 != a0))] [0,1,5] [] [] [_,_] ⟨Tryz.call98,Z0o.ok a0 t534 e535,trivial⟩ ?_
 obtain⟨t538,e539,H⟩:=Z3 H
 refine sR hP hn hm [(1,.call [] [] [] [] 0 (bV (a1 != a1)) [])] [(6,bV (a1 != a1))] [0,1,5,6] [] [] [_,_] ⟨Tryz.call98,Z0o.ok a1 t538 e539,trivial⟩ ?_
 refine AWp.seq ?_
 refine sO hP hn hm [] [(11,bV (a0 != a0))] [0,1,6,11] [] [] ?_
 refine AWp.cond (a0 != a0) (by kernel_rfl) (fun c540 => ?_) (fun c540 => ?_)
 ·replace H:=iT c540 H
  refine AWp.seq ?_
  refine sO hP hn hm [] [(12,bV (a1 != a1))] [12] [] [] ?_
  refine AWp.cond (a1 != a1) (by kernel_rfl) (fun c541 => ?_) (fun c541 => ?_)
  ·replace H:=iT c541 H
   refine sO hP hn hm [] [(4,iV .i64 0)] [4] [] [] ?_
   refine AWp.conv (inv:=[]) (vk:=[]) (e0:=[]) (t:=⟨[(4,iV .i64 0)],[],0⟩) (by kernel_rfl) ?_
   refine AWp.ret ?_
   obtain rfl:=sj H
   exact rl (.inl rfl) rfl (by kernel_rfl) (by kernel_rfl)
  ·replace H:=iF c541 H
   refine AWp.skip ?_
   refine sO hP hn hm [] [(4,iV .i64 (-1))] [4] [] [] ?_
   refine AWp.conv (inv:=[]) (vk:=[]) (e0:=[]) (t:=⟨[(4,iV .i64 (-1))],[],0⟩) (by kernel_rfl) ?_
   refine AWp.ret ?_
   obtain rfl:=sj H
   exact rl (.inl rfl) rfl (by kernel_rfl) (by kernel_rfl)
 ·replace H:=iF c540 H
  refine AWp.skip ?_
  refine AWp.seq ?_
  refine sO hP hn hm [] [(13,bV (a1 != a1))] [0,1,13] [] [] ?_
  refine AWp.cond (a1 != a1) (by kernel_rfl) (fun c542 => ?_) (fun c542 => ?_)
  ·replace H:=iT c542 H
   refine sO hP hn hm [] [(4,iV .i64 1)] [4] [] [] ?_
   refine AWp.conv (inv:=[]) (vk:=[]) (e0:=[]) (t:=⟨[(4,iV .i64 1)],[],0⟩) (by kernel_rfl) ?_
   refine AWp.ret ?_
   obtain rfl:=sj H
   exact rl (.inl rfl) rfl (by kernel_rfl) (by kernel_rfl)
  ·replace H:=iF c542 H
   refine AWp.skip ?_
   refine AWp.seq ?_
   refine sO hP hn hm [] [(16,bV (decide (a0<a1)))] [0,1,16] [] [] ?_
   refine AWp.cond (decide (a0<a1)) (by kernel_rfl) (fun c543 => ?_) (fun c543 => ?_)
   ·replace H:=iT c543 H
    refine sO hP hn hm [] [(4,iV .i64 (-1))] [4] [] [] ?_
    refine AWp.conv (inv:=[]) (vk:=[]) (e0:=[]) (t:=⟨[(4,iV .i64 (-1))],[],0⟩) (by kernel_rfl) ?_
    refine AWp.ret ?_
    obtain rfl:=sj H
    exact rl (.inl rfl) rfl (by kernel_rfl) (by kernel_rfl)
   ·replace H:=iF c543 H
    refine AWp.skip ?_
    refine AWp.seq ?_
    refine sO hP hn hm [] [(19,bV (decide (a0>a1)))] [19] [] [] ?_
    refine AWp.cond (decide (a0>a1)) (by kernel_rfl) (fun c544 => ?_) (fun c544 => ?_)
    ·replace H:=iT c544 H
     refine sO hP hn hm [] [(4,iV .i64 1)] [4] [] [] ?_
     refine AWp.conv (inv:=[]) (vk:=[]) (e0:=[]) (t:=⟨[(4,iV .i64 1)],[],0⟩) (by kernel_rfl) ?_
     refine AWp.ret ?_
     obtain rfl:=sj H
     exact rl (.inl rfl) rfl (by kernel_rfl) (by kernel_rfl)
    ·replace H:=iF c544 H
     refine AWp.skip ?_
     refine sO hP hn hm [] [(4,iV .i64 0)] [4] [] [] ?_
     refine AWp.conv (inv:=[]) (vk:=[]) (e0:=[]) (t:=⟨[(4,iV .i64 0)],[],0⟩) (by kernel_rfl) ?_
     refine AWp.ret ?_
     obtain rfl:=sj H
     exact rl (.inl rfl) rfl (by kernel_rfl) (by kernel_rfl)
def Z1b.f (a0:Z2) (a1:Z2):Option (Int):=(Z26.f a0.f0 a1.f0)>>=fun t547=>some t547
theorem Z1b.ok (a0:Z2) (a1:Z2) (r:Int) (H:Z1b.f a0 a1=some r):Pv.Fn Tryz.prog 105 [.agg (Z2b a0),.agg (Z2b a1)] [] 0 (fun x o=>x=iV .i64 r∧o=[]):=by
 unfold Z1b.f at H
 refine Fn.bodyK [] Tryz.func105 rfl rfl (fun Γ hP hn => ?_)
 have hm:Tryz.prog.follows .mixedOrders=true:=by kernel_rfl
 replace hn:Γ.n=10:=hn
 refine sO hP hn hm [(0,.k 0),(1,.k 1)] [(2,.ptr 0 0 0),(3,.ptr 1 0 0)] [2,3] [(0,some (.box 87 (Z2b a0))),(1,some (.box 87 (Z2b a1)))] [0,1] ?_
 obtain⟨t547,e548,H⟩:=Z3 H
 refine sR hP hn hm [(4,.call [] [] [] [] 0 (iV .i64 t547) [])] [(4,iV .i64 t547)] [4] [] [] [_,_] ⟨Tryz.call106,Z26.ok a0.f0 a1.f0 t547 e548,trivial⟩ ?_
 refine AWp.conv (inv:=[]) (vk:=[]) (e0:=[]) (t:=⟨[(4,iV .i64 t547)],[],0⟩) (by kernel_rfl) ?_
 refine AWp.ret ?_
 obtain rfl:=sj H
 exact rl (.inl rfl) rfl (by kernel_rfl) (by kernel_rfl)
def Z8.l1 (a1:Int) (a2:Int) (x622:Int) (x662:List Z2) (x663:Int):Option (List Z2):=((if(decide (x663>a1))=true then((at? x662 x663)>>=fun b674=>(at? x662 (i64.wrap (x663-(1:Int))))>>=fun b677=>(Z1b.f b674 b677)>>=fun t680=>some (decide (t680<(0:Int)))) else(some false)):Option (Bool))>>=fun x682=>if x682=true then((at? x662 (i64.wrap (x663-(1:Int))))>>=fun b693=>(at? x662 x663)>>=fun b696=>(at? (x662.set (Int.toNat (x663)) b693) (i64.wrap (x663-(1:Int))))>>=fun b699=>Z8.l1 a1 a2 x622 ((x662.set (Int.toNat (x663)) b693).set (Int.toNat (i64.wrap (x663-(1:Int)))) b696) (i64.wrap (x663-(1:Int)))) else(some x662)
partial_fixpoint
def Z8.l0 (a1:Int) (a2:Int) (x621:List Z2) (x622:Int):Option (List Z2):=if(decide (x622<a2))=true then((Z8.l1 a1 a2 x622 x621 x622)>>=fun x702=>Z8.l0 a1 a2 x702 (i64.wrap (x622+(1:Int)))) else(some x621)
partial_fixpoint
def Z8.f (a0:List Z2) (a1:Int) (a2:Int):Option (List Z2):=(Z8.l0 a1 a2 a0 (i64.wrap (a1+(1:Int))))>>=fun x703=>some x703
theorem Z8.ok (a0:List Z2) (a1:Int) (a2:Int) (r:List Z2) (H:Z8.f a0 a1 a2=some r):Pv.Fn Tryz.prog 118 [.own 0,iV .i64 a1,iV .i64 a2,.im (.sc (.func (.func 105) #[] #[]))] [(0,some (.row 2 87 (a0.map Z0)))] 1 (fun x o=>x = .tup []∧o=[(0,some (.row 2 87 (r.map Z0)))]):=by
 unfold Z8.f at H
 refine Fn.bodyK [0] Tryz.func118 rfl rfl (fun Γ hP hn => ?_)
 have hm:Tryz.prog.follows .mixedOrders=true:=by kernel_rfl
 replace hn:Γ.n=53:=hn
 refine sO hP hn hm [] [(8,iV .i64 (i64.wrap (a1+(1:Int))))] [0,1,2,3,8] [] [0] ?_
 refine AWp.block ?_
 obtain⟨o704,e705,H⟩:=Z3 H
 refine AWp.loop (LWp.conv (inv:=[(0,0)]) (vk:=[]) (e0:=[]) (t:=⟨[(0,.own 0),(1,iV .i64 a1),(2,iV .i64 a2),(3,.im (.sc (.func (.func 105) #[] #[]))),(8,iV .i64 (i64.wrap (a1+(1:Int))))],[(0,some (.row 2 87 (a0.map Z0)))],1⟩) (by kernel_rfl) ?_)
 refine LWp.mono (Q:=fun e s=>(match (generalizing:=false) o704 with | x703=>e = .exit 0∧s=⟨[],[(0,some (.row 2 87 (x703.map Z0)))],1⟩)) (LWp.cv (Zn (fun body hbody => ?_))) ?_
 ·refine                                                   Z8.l0.partial_correctness a1 a2 (motive:=fun x621 x622 o704=>LWp Γ body (fun e s=>∃ t,Cv Γ s t∧(match (generalizing:=false) o704 with | x703=>e = .exit 0∧t=⟨[],[(0,some (.row 2 87 (x703.map Z0     )))],1⟩)) ⟨[(0,.own 0),(1,iV .i64 a1),(2,iV .i64 a2),(3,.im (.sc (.func (.func 105) #[] #[]))),(8,iV .i64 x622)],[(0,some (.row 2 87 (x621.map Z0     )))],1⟩) ?_ _ _ _ e705
  clear H e705 o704;intro self ih x621 x622 o704 H
  subst hbody
  refine LWp.round ?_
  refine AWp.seq ?_
  refine sO hP hn hm [] [(14,bV (decide (x622<a2)))] [0,1,2,3,8,14] [] [0] ?_
  refine AWp.cond (decide (x622<a2)) (by kernel_rfl) (fun c623 => ?_) (fun c623 => ?_)
  ·replace H:=iT c623 H
   refine AWp.skip ?_
   refine AWp.seq ?_
   refine AWp.block ?_
   refine sO hP hn hm [] [(9,iV .i64 x622)] [0,1,2,3,8,9] [] [0] ?_
   refine AWp.block ?_
   obtain⟨o706,e707,H⟩:=Z3 H
   refine AWp.loop (LWp.conv (inv:=[(0,0)]) (vk:=[]) (e0:=[]) (t:=⟨[(0,.own 0),(1,iV .i64 a1),(2,iV .i64 a2),(3,.im (.sc (.func (.func 105) #[] #[]))),(8,iV .i64 x622),(9,iV .i64 x622)],[(0,some (.row 2 87 (x621.map Z0)))],1⟩) (by kernel_rfl) ?_)
   refine LWp.mono (Q:=fun e s=>(match (generalizing:=false) o706 with | x702=>e = .exit 2∧s=⟨[(0,.own 0),(1,iV .i64 a1),(2,iV .i64 a2),(3,.im (.sc (.func (.func 105) #[] #[]))),(8,iV .i64 x622)],[(0,some (.row 2 87 (x702.map Z0)))],1⟩)) (LWp.cv (Zn (fun body hbody => ?_))) ?_
   ·refine                                                   Z8.l1.partial_correctness a1 a2 x622 (motive:=fun x662 x663 o706=>LWp Γ body (fun e s=>∃ t,Cv Γ s t∧(match (generalizing:=false) o706 with | x702=>e = .exit 2∧t=⟨[(0,.own 0),(1,iV .i64 a1),(2,iV .i64 a2),(3,.im (.sc (.func (.func 105) #[] #[]))),(8,iV .i64 x622)],[(0,some (.row 2 87 (x702.map Z0     )))],1⟩)) ⟨[(0,.own 0),(1,iV .i64 a1),(2,iV .i64 a2),(3,.im (.sc (.func (.func 105) #[] #[]))),(8,iV .i64 x622),(9,iV .i64 x663)],[(0,some (.row 2 87 (x662.map Z0     )))],1⟩) ?_ _ _ _ e707
    clear H e707 o706;intro self ih x662 x663 o706 H
    subst hbody
    refine LWp.round ?_
    refine AWp.seq ?_
    refine AWp.seq ?_
    obtain⟨o708,e709,H⟩:=Z3 H
    refine AWp.mono (Q:=fun e s=>(match (generalizing:=false) o708 with | x682=>e = .normal∧s=⟨[(0,.own 0),(1,iV .i64 a1),(2,iV .i64 a2),(3,.im (.sc (.func (.func 105) #[] #[]))),(8,iV .i64 x622),(9,iV .i64 x663),(34,bV x682)],[(0,some (.row 2 87 (x662.map Z0)))],1⟩)) (AWp.cv ?_) ?_
    ·replace H:=e709;clear e709
     rcases Bool.eq_false_or_eq_true (decide (x663>a1)) with c673 | c673
     ·replace H:=iT c673 H
      obtain⟨b674,p675,q676,H⟩:=Z03 H
      obtain⟨b677,p678,q679,H⟩:=Z03 H
      obtain⟨t680,e681,H⟩:=Z3 H
      refine rG hP hn hm [(3,.b true),(8,.c (Z0 b674)),(13,.c (Z0 b677)),(14,.call [] [] [] [] 0 (iV .i64 t680) [])] [(22,.im (.sc (.func (.func 105) #[] #[]))),(23,.own 0),(24,iV .i64 x663),(25,.ptr 0 (Int.toNat (x663)) 0),(26,.agg (Z2b b674)),(27,.own 0),(28,iV .i64 x663),(29,iV .i64 (i64.wrap (x663-(1:Int)))),(30,.ptr 0 (Int.toNat (i64.wrap (x663-(1:Int)))) 0),(31,.agg (Z2b b677)),(32,iV .i64 t680),(33,bV (decide (t680<(0:Int)))),(34,bV (decide (t680<(0:Int))))] [0,1,2,3,8,9,22,23,24,25,26,27,28,29,30,31,32,33,34] [] [0] [_,_,_,_,_,_,_,_,_] ⟨c673,p675,Z1u Z0 p675 q676,Zf Z0 q676,p678,Z1u Z0 p678 q679,Zf Z0 q679,Tryz.call105,Z1b.ok b674 b677 t680 e681,trivial⟩ ?_
      obtain rfl:=sj H
      exact lf [(0,0)] [] [] (by kernel_rfl) ⟨rfl,rfl⟩
     ·replace H:=iF c673 H
      refine rG hP hn hm [(3,.b false)] [(34,bV false)] [0,1,2,3,8,9,34] [] [0] [_] ⟨c673,trivial⟩ ?_
      obtain rfl:=sj H
      exact lf [(0,0)] [] [] (by kernel_rfl) ⟨rfl,rfl⟩
    ·obtain⟨x682,rfl⟩:∃ z,z=o708:=⟨_,rfl⟩
     rintro e s ⟨rfl,rfl⟩
     refine AWp.cond x682 (by kernel_rfl) (fun c683 => ?_) (fun c683 => ?_)
     ·replace H:=iT c683 H
      refine AWp.skip ?_
      refine AWp.seq ?_
      refine AWp.block ?_
      obtain⟨b693,p694,q695,H⟩:=Z03 H
      obtain⟨b696,p697,q698,H⟩:=Z03 H
      obtain⟨b699,p700,q701,H⟩:=Z03 H
      refine rG hP hn hm [(9,.c (Z0 b693)),(13,.c (Z0 b696)),(15,.put (Z0 b696) ((x662.set (Int.toNat (x663)) b693).map Z0)),(17,.put (Z0 b699) (((x662.set (Int.toNat (x663)) b693).set (Int.toNat (i64.wrap (x663-(1:Int)))) b696).map Z0))] [] [0,1,2,3,8,9] [(0,some (.row 2 87 (((x662.set (Int.toNat (x663)) b693).set (Int.toNat (i64.wrap (x663-(1:Int)))) b696).map Z0)))] [0] [_,_,_,_,_,_,_,_,_,(x662.set (Int.toNat (x663)) b693).map Z0=(x662.map Z0).set (Int.toNat (x663)) (Z1w (Z0 b696) 0 [iI .i64 b693.f0,iI .u64 b693.f1]),_,_,_,((x662.set (Int.toNat (x663)) b693).set (Int.toNat (i64.wrap (x663-(1:Int)))) b696).map Z0=((x662.set (Int.toNat (x663)) b693).map Z0).set (Int.toNat (i64.wrap (x663-(1:Int)))) (Z1w (Z0 b699) 0 [iI .i64 b696.f0,iI .u64 b696.f1])] ⟨p694,Z1u Z0 p694 q695,Zf Z0 q695,p697,Z1u Z0 p697 q698,Zf Z0 q698,p697,Z1u Z0 p697 q698,Zf Z0 q698,by exact set1 _ _ _ _,p700,Z1u Z0 p700 q701,Zf Z0 q701,by exact set1 _ _ _ _,trivial⟩ ?_
      refine rO hP hn hm [] [(9,iV .i64 (i64.wrap (x663-(1:Int))))] [0,1,2,3,8,9] [] [0] ?_
      exact LWp.conv [(0,0)] [] [] (by kernel_rfl) (ih _ _ _ H)
     ·replace H:=iF c683 H
      refine AWp.exit ?_
      obtain rfl:=sj H
      exact lf [(0,0)] [] [] (by kernel_rfl) ⟨rfl,rfl⟩
   ·obtain⟨x702,rfl⟩:∃ z,z=o706:=⟨_,rfl⟩
    rintro e s ⟨rfl,rfl⟩
    refine rO hP hn hm [] [(8,iV .i64 (i64.wrap (x622+(1:Int))))] [0,1,2,3,8] [] [0] ?_
    exact LWp.conv [(0,0)] [] [] (by kernel_rfl) (ih _ _ _ H)
  ·replace H:=iF c623 H
   refine AWp.exit ?_
   obtain rfl:=sj H
   exact lf [(0,0)] [] [] (by kernel_rfl) ⟨rfl,rfl⟩
 ·obtain⟨x703,rfl⟩:∃ z,z=o704:=⟨_,rfl⟩
  rintro e s ⟨rfl,rfl⟩
  obtain rfl:=sj H
  exact Exists.intro ⟨[],[(0,some (.row 2 87 (x703.map Z0)))],1⟩ (And.intro (fun _ _ h=>h.conv (inv:=[(0,0)]) (vk:=[]) (e0:=[]) (t:=⟨[],[(0,some (.row 2 87 (x703.map Z0)))],1⟩) (by kernel_rfl)) (And.intro (.inr rfl) (And.intro rfl (And.intro (by kernel_rfl) (by kernel_rfl)))))
def Zd.l0 (a1:Int) (a2:Int) (a3:Int) (x971:List Z2) (x972:Int):Option (List Z2):=if(decide (x972<a3))=true then((at? x971 (i64.wrap (a2+x972)))>>=fun b983=>(at? x971 (i64.wrap (a1+x972)))>>=fun b986=>(at? (x971.set (Int.toNat (i64.wrap (a1+x972))) b983) (i64.wrap (a2+x972)))>>=fun b989=>Zd.l0 a1 a2 a3 ((x971.set (Int.toNat (i64.wrap (a1+x972))) b983).set (Int.toNat (i64.wrap (a2+x972))) b986) (i64.wrap (x972+(1:Int)))) else(some x971)
partial_fixpoint
def Zd.f (a0:List Z2) (a1:Int) (a2:Int) (a3:Int):Option (List Z2):=(Zd.l0 a1 a2 a3 a0 0)>>=fun x992=>some x992
theorem Zd.ok (a0:List Z2) (a1:Int) (a2:Int) (a3:Int) (r:List Z2) (H:Zd.f a0 a1 a2 a3=some r):Pv.Fn Tryz.prog 126 [.own 0,iV .i64 a1,iV .i64 a2,iV .i64 a3,.im (.sc (.func (.func 105) #[] #[]))] [(0,some (.row 2 87 (a0.map Z0)))] 1 (fun x o=>x = .tup []∧o=[(0,some (.row 2 87 (r.map Z0)))]):=by
 unfold Zd.f at H
 refine Fn.bodyK [0] Tryz.func126 rfl rfl (fun Γ hP hn => ?_)
 have hm:Tryz.prog.follows .mixedOrders=true:=by kernel_rfl
 replace hn:Γ.n=38:=hn
 refine sO hP hn hm [] [(10,iV .i64 0)] [0,1,2,3,10] [] [0] ?_
 refine AWp.block ?_
 obtain⟨o993,e994,H⟩:=Z3 H
 refine AWp.loop (LWp.conv (inv:=[(0,0)]) (vk:=[]) (e0:=[]) (t:=⟨[(0,.own 0),(1,iV .i64 a1),(2,iV .i64 a2),(3,iV .i64 a3),(10,iV .i64 0)],[(0,some (.row 2 87 (a0.map Z0)))],1⟩) (by kernel_rfl) ?_)
 refine LWp.mono (Q:=fun e s=>(match (generalizing:=false) o993 with | x992=>e = .exit 0∧s=⟨[],[(0,some (.row 2 87 (x992.map Z0)))],1⟩)) (LWp.cv (Zn (fun body hbody => ?_))) ?_
 ·refine                                               Zd.l0.partial_correctness a1 a2 a3 (motive:=fun x971 x972 o993=>LWp Γ body (fun e s=>∃ t,Cv Γ s t∧(match (generalizing:=false) o993 with | x992=>e = .exit 0∧t=⟨[],[(0,some (.row 2 87 (x992.map Z0     )))],1⟩)) ⟨[(0,.own 0),(1,iV .i64 a1),(2,iV .i64 a2),(3,iV .i64 a3),(10,iV .i64 x972)],[(0,some (.row 2 87 (x971.map Z0     )))],1⟩) ?_ _ _ _ e994
  clear H e994 o993;intro self ih x971 x972 o993 H
  subst hbody
  refine LWp.round ?_
  refine AWp.seq ?_
  refine sO hP hn hm [] [(13,bV (decide (x972<a3)))] [0,1,2,3,10,13] [] [0] ?_
  refine AWp.cond (decide (x972<a3)) (by kernel_rfl) (fun c973 => ?_) (fun c973 => ?_)
  ·replace H:=iT c973 H
   refine AWp.skip ?_
   refine AWp.seq ?_
   refine AWp.block ?_
   obtain⟨b983,p984,q985,H⟩:=Z03 H
   obtain⟨b986,p987,q988,H⟩:=Z03 H
   obtain⟨b989,p990,q991,H⟩:=Z03 H
   refine rG hP hn hm [(13,.c (Z0 b983)),(19,.c (Z0 b986)),(21,.put (Z0 b986) ((x971.set (Int.toNat (i64.wrap (a1+x972))) b983).map Z0)),(23,.put (Z0 b989) (((x971.set (Int.toNat (i64.wrap (a1+x972))) b983).set (Int.toNat (i64.wrap (a2+x972))) b986).map Z0))] [] [0,1,2,3,10] [(0,some (.row 2 87 (((x971.set (Int.toNat (i64.wrap (a1+x972))) b983).set (Int.toNat (i64.wrap (a2+x972))) b986).map Z0)))] [0] [_,_,_,_,_,_,_,_,_,(x971.set (Int.toNat (i64.wrap (a1+x972))) b983).map Z0=(x971.map Z0).set (Int.toNat (i64.wrap (a1+x972))) (Z1w (Z0 b986) 0 [iI .i64 b983.f0,iI .u64 b983.f1]),_,_,_,((x971.set (Int.toNat (i64.wrap (a1+x972))) b983).set (Int.toNat (i64.wrap (a2+x972))) b986).map Z0=((x971.set (Int.toNat (i64.wrap (a1+x972))) b983).map Z0).set (Int.toNat (i64.wrap (a2+x972))) (Z1w (Z0 b989) 0 [iI .i64 b986.f0,iI .u64 b986.f1])] ⟨p984,Z1u Z0 p984 q985,Zf Z0 q985,p987,Z1u Z0 p987 q988,Zf Z0 q988,p987,Z1u Z0 p987 q988,Zf Z0 q988,by exact set1 _ _ _ _,p990,Z1u Z0 p990 q991,Zf Z0 q991,by exact set1 _ _ _ _,trivial⟩ ?_
   refine rO hP hn hm [] [(10,iV .i64 (i64.wrap (x972+(1:Int))))] [0,1,2,3,10] [] [0] ?_
   exact LWp.conv [(0,0)] [] [] (by kernel_rfl) (ih _ _ _ H)
  ·replace H:=iF c973 H
   refine AWp.exit ?_
   obtain rfl:=sj H
   exact lf [(0,0)] [] [] (by kernel_rfl) ⟨rfl,rfl⟩
 ·obtain⟨x992,rfl⟩:∃ z,z=o993:=⟨_,rfl⟩
  rintro e s ⟨rfl,rfl⟩
  obtain rfl:=sj H
  exact Exists.intro ⟨[],[(0,some (.row 2 87 (x992.map Z0)))],1⟩ (And.intro (fun _ _ h=>h.conv (inv:=[(0,0)]) (vk:=[]) (e0:=[]) (t:=⟨[],[(0,some (.row 2 87 (x992.map Z0)))],1⟩) (by kernel_rfl)) (And.intro (.inr rfl) (And.intro rfl (And.intro (by kernel_rfl) (by kernel_rfl)))))
def Zj.l0 (a2:Int) (x1006:List Z2) (x1007:Int) (x1008:Int):Option ((List Z2)×Int):=if(x1007 != x1008)=true then(((if(decide (x1007>x1008))=true then((Zd.f x1006 (i64.wrap (a2-x1007)) a2 x1008)>>=fun t1013=>some (t1013,i64.wrap (x1007-x1008),x1008)) else((Zd.f x1006 (i64.wrap (a2-x1007)) (i64.wrap ((i64.wrap (a2+x1008))-x1007)) x1007)>>=fun t1017=>some (t1017,x1007,i64.wrap (x1008-x1007)))):Option ((List Z2)×Int×Int))>>=fun oo=>match oo with | (x1019,x1020,x1021)=>(Zj.l0 a2 x1019 x1020 x1021)) else(some (x1006,x1007))
partial_fixpoint
def Zj.f (a0:List Z2) (a1:Int) (a2:Int) (a3:Int):Option (List Z2):=(Zj.l0 a2 a0 (i64.wrap (a2-a1)) (i64.wrap (a3-a2)))>>=fun oo=>match oo with | (x1022,x1023)=>((Zd.f x1022 (i64.wrap (a2-x1023)) a2 x1023)>>=fun t1026=>some t1026)
theorem Zj.ok (a0:List Z2) (a1:Int) (a2:Int) (a3:Int) (r:List Z2) (H:Zj.f a0 a1 a2 a3=some r):Pv.Fn Tryz.prog 124 [.own 0,iV .i64 a1,iV .i64 a2,iV .i64 a3,.im (.sc (.func (.func 105) #[] #[]))] [(0,some (.row 2 87 (a0.map Z0)))] 1 (fun x o=>x = .tup []∧o=[(0,some (.row 2 87 (r.map Z0)))]):=by
 unfold Zj.f at H
 refine Fn.bodyK [0] Tryz.func124 rfl rfl (fun Γ hP hn => ?_)
 have hm:Tryz.prog.follows .mixedOrders=true:=by kernel_rfl
 replace hn:Γ.n=58:=hn
 refine sO hP hn hm [] [(10,iV .i64 (i64.wrap (a2-a1)))] [0,2,3,4,10] [] [0] ?_
 refine sO hP hn hm [] [(11,iV .i64 (i64.wrap (a3-a2)))] [0,2,4,10,11] [] [0] ?_
 refine AWp.seq ?_
 refine AWp.block ?_
 obtain⟨o1028,e1029,H⟩:=Z3 H
 refine AWp.loop (LWp.conv (inv:=[(0,0)]) (vk:=[]) (e0:=[]) (t:=⟨[(0,.own 0),(2,iV .i64 a2),(4,.im (.sc (.func (.func 105) #[] #[]))),(10,iV .i64 (i64.wrap (a2-a1))),(11,iV .i64 (i64.wrap (a3-a2)))],[(0,some (.row 2 87 (a0.map Z0)))],1⟩) (by kernel_rfl) ?_)
 refine LWp.mono (Q:=fun e s=>(match (generalizing:=false) o1028 with | (x1022,x1023)=>e = .exit 0∧s=⟨[(0,.own 0),(2,iV .i64 a2),(4,.im (.sc (.func (.func 105) #[] #[]))),(10,iV .i64 x1023)],[(0,some (.row 2 87 (x1022.map Z0)))],1⟩)) (LWp.cv (Zn (fun body hbody => ?_))) ?_
 ·refine                                            Zj.l0.partial_correctness a2 (motive:=fun x1006 x1007 x1008 o1028=>LWp Γ body (fun e s=>∃ t,Cv Γ s t∧(match (generalizing:=false) o1028 with | (x1022,x1023)=>e = .exit 0∧t=⟨[(0,.own 0),(2,iV .i64 a2),(4,.im (.sc (.func (.func 105) #[] #[]))),(10,iV .i64 x1023)],[(0,some (.row 2 87 (x1022.map Z0     )))],1⟩)) ⟨[(0,.own 0),(2,iV .i64 a2),(4,.im (.sc (.func (.func 105) #[] #[]))),(10,iV .i64 x1007),(11,iV .i64 x1008)],[(0,some (.row 2 87 (x1006.map Z0     )))],1⟩) ?_ _ _ _ _ e1029
  clear H e1029 o1028;intro self ih x1006 x1007 x1008 o1028 H
  subst hbody
  refine LWp.round ?_
  refine AWp.seq ?_
  refine sO hP hn hm [] [(20,bV (x1007 != x1008))] [0,2,4,10,11,20] [] [0] ?_
  refine AWp.cond (x1007 != x1008) (by kernel_rfl) (fun c1009 => ?_) (fun c1009 => ?_)
  ·replace H:=iT c1009 H
   refine AWp.skip ?_
   refine AWp.block ?_
   refine sO hP hn hm [] [(23,bV (decide (x1007>x1008)))] [0,2,4,10,11,23] [] [0] ?_
   obtain⟨o1030,e1031,H⟩:=Z3 H
   refine AWp.mono (Q:=fun e s=>(match (generalizing:=false) o1030 with | (x1019,x1020,x1021)=>e = .normal∧s=⟨[(0,.own 0),(2,iV .i64 a2),(4,.im (.sc (.func (.func 105) #[] #[]))),(10,iV .i64 x1020),(11,iV .i64 x1021)],[(0,some (.row 2 87 (x1019.map Z0)))],1⟩)) (AWp.cv ?_) ?_
   ·replace H:=e1031;clear e1031
    refine AWp.cond (decide (x1007>x1008)) (by kernel_rfl) (fun c1010 => ?_) (fun c1010 => ?_)
    ·replace H:=iT c1010 H
     obtain⟨t1013,e1014,H⟩:=Z3 H
     refine sR hP hn hm [(7,.call [(0,0)] [(0,0)] [] [] 1 (.tup []) [(0,some (.row 2 87 (t1013.map Z0)))])] [] [0,2,4,10,11] [(0,some (.row 2 87 (t1013.map Z0)))] [0] [_,_] ⟨Tryz.call126,Zd.ok x1006 (i64.wrap (a2-x1007)) a2 x1008 t1013 e1014,trivial⟩ ?_
     refine rO hP hn hm [] [(10,iV .i64 (i64.wrap (x1007-x1008)))] [0,2,4,10,11] [] [0] ?_
     obtain rfl:=sj H
     exact lf [(0,0)] [] [] (by kernel_rfl) ⟨rfl,rfl⟩
    ·replace H:=iF c1010 H
     obtain⟨t1017,e1018,H⟩:=Z3 H
     refine sR hP hn hm [(11,.call [(0,0)] [(0,0)] [] [] 1 (.tup []) [(0,some (.row 2 87 (t1017.map Z0)))])] [] [0,2,4,10,11] [(0,some (.row 2 87 (t1017.map Z0)))] [0] [_,_] ⟨Tryz.call126,Zd.ok x1006 (i64.wrap (a2-x1007)) (i64.wrap ((i64.wrap (a2+x1008))-x1007)) x1007 t1017 e1018,trivial⟩ ?_
     refine rO hP hn hm [] [(11,iV .i64 (i64.wrap (x1008-x1007)))] [0,2,4,10,11] [] [0] ?_
     obtain rfl:=sj H
     exact lf [(0,0)] [] [] (by kernel_rfl) ⟨rfl,rfl⟩
   ·obtain⟨x1019,x1020,x1021⟩:=o1030
    rintro e s ⟨rfl,rfl⟩
    exact LWp.conv [(0,0)] [] [] (by kernel_rfl) (ih _ _ _ _ H)
  ·replace H:=iF c1009 H
   refine AWp.exit ?_
   obtain rfl:=sj H
   exact lf [(0,0)] [] [] (by kernel_rfl) ⟨rfl,rfl⟩
 ·obtain⟨x1022,x1023⟩:=o1028
  rintro e s ⟨rfl,rfl⟩
  obtain⟨t1026,e1027,H⟩:=Z3 H
  refine rG hP hn hm [(7,.call [(0,0)] [(0,0)] [] [] 1 (.tup []) [(0,some (.row 2 87 (t1026.map Z0)))])] [] [] [(0,some (.row 2 87 (t1026.map Z0)))] [0] [_,_] ⟨Tryz.call126,Zd.ok x1022 (i64.wrap (a2-x1023)) a2 x1023 t1026 e1027,trivial⟩ ?_
  obtain rfl:=sj H
  exact Exists.intro ⟨[],[(0,some (.row 2 87 (t1026.map Z0)))],1⟩ (And.intro (fun _ _ h=>h.conv (inv:=[(0,0)]) (vk:=[]) (e0:=[]) (t:=⟨[],[(0,some (.row 2 87 (t1026.map Z0)))],1⟩) (by kernel_rfl)) (And.intro (.inr rfl) (And.intro rfl (And.intro (by kernel_rfl) (by kernel_rfl)))))
def Z6.l0 (a0:List Z2) (a1:Int) (x751:Int) (x752:Int):Option (Int):=if(decide (x751<x752))=true then((at? a0 (i64.wrap (Int.fdiv (u64.wrap (i64.wrap (x751+x752))) 2)))>>=fun b762=>(at? a0 a1)>>=fun b765=>(Z1b.f b762 b765)>>=fun t768=>((if(decide (t768<(0:Int)))=true then(some (i64.wrap ((i64.wrap (Int.fdiv (u64.wrap (i64.wrap (x751+x752))) 2))+(1:Int)),x752)) else(some (x751,i64.wrap (Int.fdiv (u64.wrap (i64.wrap (x751+x752))) 2)))):Option (Int×Int))>>=fun oo=>match oo with | (x771,x772)=>(Z6.l0 a0 a1 x771 x772)) else(some x751)
partial_fixpoint
def Z6.l1 (x773:Int) (x793:List Z2) (x794:Int):Option (List Z2):=if(decide (x794<(i64.wrap (x773-(1:Int)))))=true then((at? x793 (i64.wrap (x794+(1:Int))))>>=fun b805=>(at? x793 x794)>>=fun b808=>(at? (x793.set (Int.toNat (x794)) b805) (i64.wrap (x794+(1:Int))))>>=fun b811=>Z6.l1 x773 ((x793.set (Int.toNat (x794)) b805).set (Int.toNat (i64.wrap (x794+(1:Int)))) b808) (i64.wrap (x794+(1:Int)))) else(some x793)
partial_fixpoint
def Z6.l2 (a0:List Z2) (a2:Int) (x836:Int) (x837:Int):Option (Int):=if(decide (x836<x837))=true then((at? a0 a2)>>=fun b847=>(at? a0 (i64.wrap (Int.fdiv (u64.wrap (i64.wrap (x836+x837))) 2)))>>=fun b850=>(Z1b.f b847 b850)>>=fun t853=>((if(!(decide (t853<(0:Int))))=true then(some (i64.wrap ((i64.wrap (Int.fdiv (u64.wrap (i64.wrap (x836+x837))) 2))+(1:Int)),x837)) else(some (x836,i64.wrap (Int.fdiv (u64.wrap (i64.wrap (x836+x837))) 2)))):Option (Int×Int))>>=fun oo=>match oo with | (x856,x857)=>(Z6.l2 a0 a2 x856 x857)) else(some x836)
partial_fixpoint
def Z6.l3 (x858:Int) (x878:List Z2) (x879:Int):Option (List Z2):=if(decide (x879>x858))=true then((at? x878 (i64.wrap (x879-(1:Int))))>>=fun b890=>(at? x878 x879)>>=fun b893=>(at? (x878.set (Int.toNat (x879)) b890) (i64.wrap (x879-(1:Int))))>>=fun b896=>Z6.l3 x858 ((x878.set (Int.toNat (x879)) b890).set (Int.toNat (i64.wrap (x879-(1:Int)))) b893) (i64.wrap (x879-(1:Int)))) else(some x878)
partial_fixpoint
def Z6.l4 (a0:List Z2) (a1:Int) (a2:Int) (a3:Int) (x923:Int) (x924:Int):Option (Int):=if(decide (x923<x924))=true then((at? a0 (i64.wrap ((i64.wrap ((i64.wrap ((i64.wrap (Int.fdiv (u64.wrap (i64.wrap (a1+a3))) 2))+a2))-(1:Int)))-(i64.wrap (Int.fdiv (u64.wrap (i64.wrap (x923+x924))) 2)))))>>=fun b934=>(at? a0 (i64.wrap (Int.fdiv (u64.wrap (i64.wrap (x923+x924))) 2)))>>=fun b937=>(Z1b.f b934 b937)>>=fun t940=>((if(!(decide (t940<(0:Int))))=true then(some (i64.wrap ((i64.wrap (Int.fdiv (u64.wrap (i64.wrap (x923+x924))) 2))+(1:Int)),x924)) else(some (x923,i64.wrap (Int.fdiv (u64.wrap (i64.wrap (x923+x924))) 2)))):Option (Int×Int))>>=fun oo=>match oo with | (x943,x944)=>(Z6.l4 a0 a1 a2 a3 x943 x944)) else(some x923)
partial_fixpoint
def Z6.f (a0:List Z2) (a1:Int) (a2:Int) (a3:Int):Option (List Z2):=if((i64.wrap (a2-a1))==(1:Int))=true then((Z6.l0 a0 a1 a2 a3)>>=fun x773=>(Z6.l1 x773 a0 a1)>>=fun x814=>some x814) else(if((i64.wrap (a3-a2))==(1:Int))=true then((Z6.l2 a0 a2 a1 a2)>>=fun x858=>(Z6.l3 x858 a0 a2)>>=fun x899=>some x899) else(((if(decide (a2>(i64.wrap (Int.fdiv (u64.wrap (i64.wrap (a1+a3))) 2))))=true then(some (i64.wrap ((i64.wrap ((i64.wrap (Int.fdiv (u64.wrap (i64.wrap (a1+a3))) 2))+a2))-a3),i64.wrap (Int.fdiv (u64.wrap (i64.wrap (a1+a3))) 2))) else(some (a1,a2))):Option (Int×Int))>>=fun oo=>match oo with | (x901,x902)=>((Z6.l4 a0 a1 a2 a3 x901 x902)>>=fun x945=>((if(decide (x945<a2))=true then(some (decide (a2<(i64.wrap ((i64.wrap ((i64.wrap (Int.fdiv (u64.wrap (i64.wrap (a1+a3))) 2))+a2))-x945))))) else(some false)):Option (Bool))>>=fun x948=>((if x948=true then((Zj.f a0 x945 a2 (i64.wrap ((i64.wrap ((i64.wrap (Int.fdiv (u64.wrap (i64.wrap (a1+a3))) 2))+a2))-x945)))>>=fun t1034=>some t1034) else(some a0)):Option (List Z2))>>=fun x1036=>((if(decide (a1<x945))=true then(some (decide (x945<(i64.wrap (Int.fdiv (u64.wrap (i64.wrap (a1+a3))) 2))))) else(some false)):Option (Bool))>>=fun x1039=>((if x1039=true then((Z6.f x1036 a1 x945 (i64.wrap (Int.fdiv (u64.wrap (i64.wrap (a1+a3))) 2)))>>=fun t1043=>some t1043) else(some x1036)):Option (List Z2))>>=fun x1045=>((if(decide ((i64.wrap (Int.fdiv (u64.wrap (i64.wrap (a1+a3))) 2))<(i64.wrap ((i64.wrap ((i64.wrap (Int.fdiv (u64.wrap (i64.wrap (a1+a3))) 2))+a2))-x945))))=true then(some (decide ((i64.wrap ((i64.wrap ((i64.wrap (Int.fdiv (u64.wrap (i64.wrap (a1+a3))) 2))+a2))-x945))<a3))) else(some false)):Option (Bool))>>=fun x1048=>((if x1048=true then((Z6.f x1045 (i64.wrap (Int.fdiv (u64.wrap (i64.wrap (a1+a3))) 2)) (i64.wrap ((i64.wrap ((i64.wrap (Int.fdiv (u64.wrap (i64.wrap (a1+a3))) 2))+a2))-x945)) a3)>>=fun t1052=>some t1052) else(some x1045)):Option (List Z2))>>=fun x1054=>some x1054)))
partial_fixpoint
theorem Z6.ok (a0:List Z2) (a1:Int) (a2:Int) (a3:Int) (r:List Z2) (H:Z6.f a0 a1 a2 a3=some r):Pv.Fn Tryz.prog 119 [.own 0,iV .i64 a1,iV .i64 a2,iV .i64 a3,.im (.sc (.func (.func 105) #[] #[]))] [(0,some (.row 2 87 (a0.map Z0)))] 1 (fun x o=>x = .tup []∧o=[(0,some (.row 2 87 (r.map Z0)))]):=by
 refine Z6.f.partial_correctness (motive:=fun a0 a1 a2 a3 r=>Pv.Fn Tryz.prog 119 [.own 0,iV .i64 a1,iV .i64 a2,iV .i64 a3,.im (.sc (.func (.func 105) #[] #[]))] [(0,some (.row 2 87 (a0.map Z0)))] 1 (fun x o=>x = .tup []∧o=[(0,some (.row 2 87 (r.map Z0)))])) ?_ a0 a1 a2 a3 r H
 clear H a0 a1 a2 a3 r;intro self ihF a0 a1 a2 a3 r H
 refine Fn.bodyK [0] Tryz.func119 rfl rfl (fun Γ hP hn => ?_)
 have hm:Tryz.prog.follows .mixedOrders=true:=by kernel_rfl
 replace hn:Γ.n=220:=hn
 refine AWp.seq ?_
 refine sO hP hn hm [] [(28,bV ((i64.wrap (a2-a1))==(1:Int)))] [0,1,2,3,4,28] [] [0] ?_
 refine AWp.cond ((i64.wrap (a2-a1))==(1:Int)) (by kernel_rfl) (fun c730 => ?_) (fun c730 => ?_)
 ·replace H:=iT c730 H
  refine sO hP hn hm [] [(10,iV .i64 a2)] [0,1,3,4,10] [] [0] ?_
  refine sO hP hn hm [] [(11,iV .i64 a3)] [0,1,4,10,11] [] [0] ?_
  refine AWp.seq ?_
  refine AWp.block ?_
  obtain⟨o1055,e1056,H⟩:=Z3 H
  refine AWp.loop (LWp.conv (inv:=[(0,0)]) (vk:=[]) (e0:=[]) (t:=⟨[(0,.own 0),(1,iV .i64 a1),(4,.im (.sc (.func (.func 105) #[] #[]))),(10,iV .i64 a2),(11,iV .i64 a3)],[(0,some (.row 2 87 (a0.map Z0)))],1⟩) (by kernel_rfl) ?_)
  refine LWp.mono (Q:=fun e s=>(match (generalizing:=false) o1055 with | x773=>e = .exit 0∧s=⟨[(0,.own 0),(1,iV .i64 a1),(10,iV .i64 x773)],[(0,some (.row 2 87 (a0.map Z0)))],1⟩)) (LWp.cv (Zn (fun body hbody => ?_))) ?_
  ·refine                                              Z6.l0.partial_correctness a0 a1 (motive:=fun x751 x752 o1055=>LWp Γ body (fun e s=>∃ t,Cv Γ s t∧(match (generalizing:=false) o1055 with | x773=>e = .exit 0∧t=⟨[(0,.own 0),(1,iV .i64 a1),(10,iV .i64 x773)],[(0,some (.row 2 87 (a0.map Z0     )))],1⟩)) ⟨[(0,.own 0),(1,iV .i64 a1),(4,.im (.sc (.func (.func 105) #[] #[]))),(10,iV .i64 x751),(11,iV .i64 x752)],[(0,some (.row 2 87 (a0.map Z0     )))],1⟩) ?_ _ _ _ e1056
   clear H e1056 o1055;intro self ih x751 x752 o1055 H
   subst hbody
   refine LWp.round ?_
   refine AWp.seq ?_
   refine sO hP hn hm [] [(33,bV (decide (x751<x752)))] [0,1,4,10,11,33] [] [0] ?_
   refine AWp.cond (decide (x751<x752)) (by kernel_rfl) (fun c753 => ?_) (fun c753 => ?_)
   ·replace H:=iT c753 H
    refine AWp.skip ?_
    refine AWp.block ?_
    refine sR hP hn hm [] [(12,iV .i64 (i64.wrap (Int.fdiv (u64.wrap (i64.wrap (x751+x752))) 2)))] [0,1,4,10,11,12] [] [0] [(0:Int)≤1] ⟨by decide,trivial⟩ ?_
    obtain⟨b762,p763,q764,H⟩:=Z03 H
    obtain⟨b765,p766,q767,H⟩:=Z03 H
    obtain⟨t768,e769,H⟩:=Z3 H
    refine sR hP hn hm [(4,.c (Z0 b762)),(8,.c (Z0 b765)),(9,.call [] [] [] [] 0 (iV .i64 t768) [])] [(50,bV (decide (t768<(0:Int))))] [0,1,4,10,11,12,50] [] [0] [_,_,_,_,_,_,_,_] ⟨p763,Z1u Z0 p763 q764,Zf Z0 q764,p766,Z1u Z0 p766 q767,Zf Z0 q767,Tryz.call105,Z1b.ok b762 b765 t768 e769,trivial⟩ ?_
    obtain⟨o1057,e1058,H⟩:=Z3 H
    refine AWp.mono (Q:=fun e s=>(match (generalizing:=false) o1057 with | (x771,x772)=>e = .normal∧s=⟨[(0,.own 0),(1,iV .i64 a1),(4,.im (.sc (.func (.func 105) #[] #[]))),(10,iV .i64 x771),(11,iV .i64 x772)],[(0,some (.row 2 87 (a0.map Z0)))],1⟩)) (AWp.cv ?_) ?_
    ·replace H:=e1058;clear e1058
     refine AWp.cond (decide (t768<(0:Int))) (by kernel_rfl) (fun c770 => ?_) (fun c770 => ?_)
     ·replace H:=iT c770 H
      refine rO hP hn hm [] [(10,iV .i64 (i64.wrap ((i64.wrap (Int.fdiv (u64.wrap (i64.wrap (x751+x752))) 2))+(1:Int))))] [0,1,4,10,11] [] [0] ?_
      obtain rfl:=sj H
      exact lf [(0,0)] [] [] (by kernel_rfl) ⟨rfl,rfl⟩
     ·replace H:=iF c770 H
      refine rO hP hn hm [] [(11,iV .i64 (i64.wrap (Int.fdiv (u64.wrap (i64.wrap (x751+x752))) 2)))] [0,1,4,10,11] [] [0] ?_
      obtain rfl:=sj H
      exact lf [(0,0)] [] [] (by kernel_rfl) ⟨rfl,rfl⟩
    ·obtain⟨x771,x772⟩:=o1057
     rintro e s ⟨rfl,rfl⟩
     exact LWp.conv [(0,0)] [] [] (by kernel_rfl) (ih _ _ _ H)
   ·replace H:=iF c753 H
    refine AWp.exit ?_
    obtain rfl:=sj H
    exact lf [(0,0)] [] [] (by kernel_rfl) ⟨rfl,rfl⟩
  ·obtain⟨x773,rfl⟩:∃ z,z=o1055:=⟨_,rfl⟩
   rintro e s ⟨rfl,rfl⟩
   refine AWp.seq ?_
   refine sO hP hn hm [] [(13,iV .i64 a1)] [0,10,13] [] [0] ?_
   refine AWp.block ?_
   obtain⟨o1059,e1060,H⟩:=Z3 H
   refine AWp.loop (LWp.conv (inv:=[(0,0)]) (vk:=[]) (e0:=[]) (t:=⟨[(0,.own 0),(10,iV .i64 x773),(13,iV .i64 a1)],[(0,some (.row 2 87 (a0.map Z0)))],1⟩) (by kernel_rfl) ?_)
   refine LWp.mono (Q:=fun e s=>(match (generalizing:=false) o1059 with | x814=>e = .exit 2∧s=⟨[],[(0,some (.row 2 87 (x814.map Z0)))],1⟩)) (LWp.cv (Zn (fun body hbody => ?_))) ?_
   ·refine                                              Z6.l1.partial_correctness x773 (motive:=fun x793 x794 o1059=>LWp Γ body (fun e s=>∃ t,Cv Γ s t∧(match (generalizing:=false) o1059 with | x814=>e = .exit 2∧t=⟨[],[(0,some (.row 2 87 (x814.map Z0     )))],1⟩)) ⟨[(0,.own 0),(10,iV .i64 x773),(13,iV .i64 x794)],[(0,some (.row 2 87 (x793.map Z0     )))],1⟩) ?_ _ _ _ e1060
    clear H e1060 o1059;intro self ih x793 x794 o1059 H
    subst hbody
    refine LWp.round ?_
    refine AWp.seq ?_
    refine sO hP hn hm [] [(58,bV (decide (x794<(i64.wrap (x773-(1:Int))))))] [0,10,13,58] [] [0] ?_
    refine AWp.cond (decide (x794<(i64.wrap (x773-(1:Int))))) (by kernel_rfl) (fun c795 => ?_) (fun c795 => ?_)
    ·replace H:=iT c795 H
     refine AWp.skip ?_
     refine AWp.seq ?_
     refine AWp.block ?_
     obtain⟨b805,p806,q807,H⟩:=Z03 H
     obtain⟨b808,p809,q810,H⟩:=Z03 H
     obtain⟨b811,p812,q813,H⟩:=Z03 H
     refine rG hP hn hm [(9,.c (Z0 b805)),(13,.c (Z0 b808)),(15,.put (Z0 b808) ((x793.set (Int.toNat (x794)) b805).map Z0)),(17,.put (Z0 b811) (((x793.set (Int.toNat (x794)) b805).set (Int.toNat (i64.wrap (x794+(1:Int)))) b808).map Z0))] [] [0,10,13] [(0,some (.row 2 87 (((x793.set (Int.toNat (x794)) b805).set (Int.toNat (i64.wrap (x794+(1:Int)))) b808).map Z0)))] [0] [_,_,_,_,_,_,_,_,_,(x793.set (Int.toNat (x794)) b805).map Z0=(x793.map Z0).set (Int.toNat (x794)) (Z1w (Z0 b808) 0 [iI .i64 b805.f0,iI .u64 b805.f1]),_,_,_,((x793.set (Int.toNat (x794)) b805).set (Int.toNat (i64.wrap (x794+(1:Int)))) b808).map Z0=((x793.set (Int.toNat (x794)) b805).map Z0).set (Int.toNat (i64.wrap (x794+(1:Int)))) (Z1w (Z0 b811) 0 [iI .i64 b808.f0,iI .u64 b808.f1])] ⟨p806,Z1u Z0 p806 q807,Zf Z0 q807,p809,Z1u Z0 p809 q810,Zf Z0 q810,p809,Z1u Z0 p809 q810,Zf Z0 q810,by exact set1 _ _ _ _,p812,Z1u Z0 p812 q813,Zf Z0 q813,by exact set1 _ _ _ _,trivial⟩ ?_
     refine rO hP hn hm [] [(13,iV .i64 (i64.wrap (x794+(1:Int))))] [0,10,13] [] [0] ?_
     exact LWp.conv [(0,0)] [] [] (by kernel_rfl) (ih _ _ _ H)
    ·replace H:=iF c795 H
     refine AWp.exit ?_
     obtain rfl:=sj H
     exact lf [(0,0)] [] [] (by kernel_rfl) ⟨rfl,rfl⟩
   ·obtain⟨x814,rfl⟩:∃ z,z=o1059:=⟨_,rfl⟩
    rintro e s ⟨rfl,rfl⟩
    refine AWp.conv (inv:=[(0,0)]) (vk:=[]) (e0:=[]) (t:=⟨[],[(0,some (.row 2 87 (x814.map Z0)))],1⟩) (by kernel_rfl) ?_
    refine AWp.ret ?_
    obtain rfl:=sj H
    exact rl (.inl rfl) rfl (by kernel_rfl) (by kernel_rfl)
 ·replace H:=iF c730 H
  refine AWp.skip ?_
  refine AWp.seq ?_
  refine sO hP hn hm [] [(80,bV ((i64.wrap (a3-a2))==(1:Int)))] [0,1,2,3,4,80] [] [0] ?_
  refine AWp.cond ((i64.wrap (a3-a2))==(1:Int)) (by kernel_rfl) (fun c815 => ?_) (fun c815 => ?_)
  ·replace H:=iT c815 H
   refine sO hP hn hm [] [(14,iV .i64 a1)] [0,2,4,14] [] [0] ?_
   refine sO hP hn hm [] [(15,iV .i64 a2)] [0,2,4,14,15] [] [0] ?_
   refine AWp.seq ?_
   refine AWp.block ?_
   obtain⟨o1061,e1062,H⟩:=Z3 H
   refine AWp.loop (LWp.conv (inv:=[(0,0)]) (vk:=[]) (e0:=[]) (t:=⟨[(0,.own 0),(2,iV .i64 a2),(4,.im (.sc (.func (.func 105) #[] #[]))),(14,iV .i64 a1),(15,iV .i64 a2)],[(0,some (.row 2 87 (a0.map Z0)))],1⟩) (by kernel_rfl) ?_)
   refine LWp.mono (Q:=fun e s=>(match (generalizing:=false) o1061 with | x858=>e = .exit 4∧s=⟨[(0,.own 0),(2,iV .i64 a2),(14,iV .i64 x858)],[(0,some (.row 2 87 (a0.map Z0)))],1⟩)) (LWp.cv (Zn (fun body hbody => ?_))) ?_
   ·refine                                              Z6.l2.partial_correctness a0 a2 (motive:=fun x836 x837 o1061=>LWp Γ body (fun e s=>∃ t,Cv Γ s t∧(match (generalizing:=false) o1061 with | x858=>e = .exit 4∧t=⟨[(0,.own 0),(2,iV .i64 a2),(14,iV .i64 x858)],[(0,some (.row 2 87 (a0.map Z0     )))],1⟩)) ⟨[(0,.own 0),(2,iV .i64 a2),(4,.im (.sc (.func (.func 105) #[] #[]))),(14,iV .i64 x836),(15,iV .i64 x837)],[(0,some (.row 2 87 (a0.map Z0     )))],1⟩) ?_ _ _ _ e1062
    clear H e1062 o1061;intro self ih x836 x837 o1061 H
    subst hbody
    refine LWp.round ?_
    refine AWp.seq ?_
    refine sO hP hn hm [] [(85,bV (decide (x836<x837)))] [0,2,4,14,15,85] [] [0] ?_
    refine AWp.cond (decide (x836<x837)) (by kernel_rfl) (fun c838 => ?_) (fun c838 => ?_)
    ·replace H:=iT c838 H
     refine AWp.skip ?_
     refine AWp.block ?_
     refine sR hP hn hm [] [(16,iV .i64 (i64.wrap (Int.fdiv (u64.wrap (i64.wrap (x836+x837))) 2)))] [0,2,4,14,15,16] [] [0] [(0:Int)≤1] ⟨by decide,trivial⟩ ?_
     obtain⟨b847,p848,q849,H⟩:=Z03 H
     obtain⟨b850,p851,q852,H⟩:=Z03 H
     obtain⟨t853,e854,H⟩:=Z3 H
     refine sR hP hn hm [(4,.c (Z0 b847)),(8,.c (Z0 b850)),(9,.call [] [] [] [] 0 (iV .i64 t853) [])] [(103,bV (!(decide (t853<(0:Int)))))] [0,2,4,14,15,16,103] [] [0] [_,_,_,_,_,_,_,_] ⟨p848,Z1u Z0 p848 q849,Zf Z0 q849,p851,Z1u Z0 p851 q852,Zf Z0 q852,Tryz.call105,Z1b.ok b847 b850 t853 e854,trivial⟩ ?_
     obtain⟨o1063,e1064,H⟩:=Z3 H
     refine AWp.mono (Q:=fun e s=>(match (generalizing:=false) o1063 with | (x856,x857)=>e = .normal∧s=⟨[(0,.own 0),(2,iV .i64 a2),(4,.im (.sc (.func (.func 105) #[] #[]))),(14,iV .i64 x856),(15,iV .i64 x857)],[(0,some (.row 2 87 (a0.map Z0)))],1⟩)) (AWp.cv ?_) ?_
     ·replace H:=e1064;clear e1064
      refine AWp.cond (!(decide (t853<(0:Int)))) (by kernel_rfl) (fun c855 => ?_) (fun c855 => ?_)
      ·replace H:=iT c855 H
       refine rO hP hn hm [] [(14,iV .i64 (i64.wrap ((i64.wrap (Int.fdiv (u64.wrap (i64.wrap (x836+x837))) 2))+(1:Int))))] [0,2,4,14,15] [] [0] ?_
       obtain rfl:=sj H
       exact lf [(0,0)] [] [] (by kernel_rfl) ⟨rfl,rfl⟩
      ·replace H:=iF c855 H
       refine rO hP hn hm [] [(15,iV .i64 (i64.wrap (Int.fdiv (u64.wrap (i64.wrap (x836+x837))) 2)))] [0,2,4,14,15] [] [0] ?_
       obtain rfl:=sj H
       exact lf [(0,0)] [] [] (by kernel_rfl) ⟨rfl,rfl⟩
     ·obtain⟨x856,x857⟩:=o1063
      rintro e s ⟨rfl,rfl⟩
      exact LWp.conv [(0,0)] [] [] (by kernel_rfl) (ih _ _ _ H)
    ·replace H:=iF c838 H
     refine AWp.exit ?_
     obtain rfl:=sj H
     exact lf [(0,0)] [] [] (by kernel_rfl) ⟨rfl,rfl⟩
   ·obtain⟨x858,rfl⟩:∃ z,z=o1061:=⟨_,rfl⟩
    rintro e s ⟨rfl,rfl⟩
    refine AWp.seq ?_
    refine sO hP hn hm [] [(17,iV .i64 a2)] [0,14,17] [] [0] ?_
    refine AWp.block ?_
    obtain⟨o1065,e1066,H⟩:=Z3 H
    refine AWp.loop (LWp.conv (inv:=[(0,0)]) (vk:=[]) (e0:=[]) (t:=⟨[(0,.own 0),(14,iV .i64 x858),(17,iV .i64 a2)],[(0,some (.row 2 87 (a0.map Z0)))],1⟩) (by kernel_rfl) ?_)
    refine LWp.mono (Q:=fun e s=>(match (generalizing:=false) o1065 with | x899=>e = .exit 6∧s=⟨[],[(0,some (.row 2 87 (x899.map Z0)))],1⟩)) (LWp.cv (Zn (fun body hbody => ?_))) ?_
    ·refine                                              Z6.l3.partial_correctness x858 (motive:=fun x878 x879 o1065=>LWp Γ body (fun e s=>∃ t,Cv Γ s t∧(match (generalizing:=false) o1065 with | x899=>e = .exit 6∧t=⟨[],[(0,some (.row 2 87 (x899.map Z0     )))],1⟩)) ⟨[(0,.own 0),(14,iV .i64 x858),(17,iV .i64 x879)],[(0,some (.row 2 87 (x878.map Z0     )))],1⟩) ?_ _ _ _ e1066
     clear H e1066 o1065;intro self ih x878 x879 o1065 H
     subst hbody
     refine LWp.round ?_
     refine AWp.seq ?_
     refine sO hP hn hm [] [(110,bV (decide (x879>x858)))] [0,14,17,110] [] [0] ?_
     refine AWp.cond (decide (x879>x858)) (by kernel_rfl) (fun c880 => ?_) (fun c880 => ?_)
     ·replace H:=iT c880 H
      refine AWp.skip ?_
      refine AWp.seq ?_
      refine AWp.block ?_
      obtain⟨b890,p891,q892,H⟩:=Z03 H
      obtain⟨b893,p894,q895,H⟩:=Z03 H
      obtain⟨b896,p897,q898,H⟩:=Z03 H
      refine rG hP hn hm [(9,.c (Z0 b890)),(13,.c (Z0 b893)),(15,.put (Z0 b893) ((x878.set (Int.toNat (x879)) b890).map Z0)),(17,.put (Z0 b896) (((x878.set (Int.toNat (x879)) b890).set (Int.toNat (i64.wrap (x879-(1:Int)))) b893).map Z0))] [] [0,14,17] [(0,some (.row 2 87 (((x878.set (Int.toNat (x879)) b890).set (Int.toNat (i64.wrap (x879-(1:Int)))) b893).map Z0)))] [0] [_,_,_,_,_,_,_,_,_,(x878.set (Int.toNat (x879)) b890).map Z0=(x878.map Z0).set (Int.toNat (x879)) (Z1w (Z0 b893) 0 [iI .i64 b890.f0,iI .u64 b890.f1]),_,_,_,((x878.set (Int.toNat (x879)) b890).set (Int.toNat (i64.wrap (x879-(1:Int)))) b893).map Z0=((x878.set (Int.toNat (x879)) b890).map Z0).set (Int.toNat (i64.wrap (x879-(1:Int)))) (Z1w (Z0 b896) 0 [iI .i64 b893.f0,iI .u64 b893.f1])] ⟨p891,Z1u Z0 p891 q892,Zf Z0 q892,p894,Z1u Z0 p894 q895,Zf Z0 q895,p894,Z1u Z0 p894 q895,Zf Z0 q895,by exact set1 _ _ _ _,p897,Z1u Z0 p897 q898,Zf Z0 q898,by exact set1 _ _ _ _,trivial⟩ ?_
      refine rO hP hn hm [] [(17,iV .i64 (i64.wrap (x879-(1:Int))))] [0,14,17] [] [0] ?_
      exact LWp.conv [(0,0)] [] [] (by kernel_rfl) (ih _ _ _ H)
     ·replace H:=iF c880 H
      refine AWp.exit ?_
      obtain rfl:=sj H
      exact lf [(0,0)] [] [] (by kernel_rfl) ⟨rfl,rfl⟩
    ·obtain⟨x899,rfl⟩:∃ z,z=o1065:=⟨_,rfl⟩
     rintro e s ⟨rfl,rfl⟩
     refine AWp.conv (inv:=[(0,0)]) (vk:=[]) (e0:=[]) (t:=⟨[],[(0,some (.row 2 87 (x899.map Z0)))],1⟩) (by kernel_rfl) ?_
     refine AWp.ret ?_
     obtain rfl:=sj H
     exact rl (.inl rfl) rfl (by kernel_rfl) (by kernel_rfl)
  ·replace H:=iF c815 H
   refine AWp.skip ?_
   refine sR hP hn hm [] [(18,iV .i64 (i64.wrap (Int.fdiv (u64.wrap (i64.wrap (a1+a3))) 2)))] [0,1,2,3,4,18] [] [0] [(0:Int)≤1] ⟨by decide,trivial⟩ ?_
   refine sO hP hn hm [] [(19,iV .i64 (i64.wrap ((i64.wrap (Int.fdiv (u64.wrap (i64.wrap (a1+a3))) 2))+a2)))] [0,1,2,3,4,18,19] [] [0] ?_
   refine sO hP hn hm [] [] [0,1,2,3,4,18,19] [] [0] ?_
   refine AWp.seq ?_
   refine sO hP hn hm [] [(140,bV (decide (a2>(i64.wrap (Int.fdiv (u64.wrap (i64.wrap (a1+a3))) 2)))))] [0,1,2,3,4,18,19,140] [] [0] ?_
   obtain⟨o1067,e1068,H⟩:=Z3 H
   refine AWp.mono (Q:=fun e s=>(match (generalizing:=false) o1067 with | (x901,x902)=>e = .normal∧s=⟨[(0,.own 0),(1,iV .i64 a1),(2,iV .i64 a2),(3,iV .i64 a3),(4,.im (.sc (.func (.func 105) #[] #[]))),(18,iV .i64 (i64.wrap (Int.fdiv (u64.wrap (i64.wrap (a1+a3))) 2))),(19,iV .i64 (i64.wrap ((i64.wrap (Int.fdiv (u64.wrap (i64.wrap (a1+a3))) 2))+a2))),(20,iV .i64 x901),(21,iV .i64 x902)],[(0,some (.row 2 87 (a0.map Z0)))],1⟩)) (AWp.cv ?_) ?_
   ·replace H:=e1068;clear e1068
    refine AWp.cond (decide (a2>(i64.wrap (Int.fdiv (u64.wrap (i64.wrap (a1+a3))) 2)))) (by kernel_rfl) (fun c900 => ?_) (fun c900 => ?_)
    ·replace H:=iT c900 H
     refine sO hP hn hm [] [(20,iV .i64 (i64.wrap ((i64.wrap ((i64.wrap (Int.fdiv (u64.wrap (i64.wrap (a1+a3))) 2))+a2))-a3)))] [0,1,2,3,4,18,19,20] [] [0] ?_
     refine rO hP hn hm [] [(21,iV .i64 (i64.wrap (Int.fdiv (u64.wrap (i64.wrap (a1+a3))) 2)))] [0,1,2,3,4,18,19,20,21] [] [0] ?_
     obtain rfl:=sj H
     exact lf [(0,0)] [] [] (by kernel_rfl) ⟨rfl,rfl⟩
    ·replace H:=iF c900 H
     refine sO hP hn hm [] [(20,iV .i64 a1)] [0,1,2,3,4,18,19,20] [] [0] ?_
     refine rO hP hn hm [] [(21,iV .i64 a2)] [0,1,2,3,4,18,19,20,21] [] [0] ?_
     obtain rfl:=sj H
     exact lf [(0,0)] [] [] (by kernel_rfl) ⟨rfl,rfl⟩
   ·obtain⟨x901,x902⟩:=o1067
    rintro e s ⟨rfl,rfl⟩
    refine sO hP hn hm [] [(22,iV .i64 (i64.wrap ((i64.wrap ((i64.wrap (Int.fdiv (u64.wrap (i64.wrap (a1+a3))) 2))+a2))-(1:Int))))] [0,1,2,3,4,18,19,20,21,22] [] [0] ?_
    refine AWp.seq ?_
    refine AWp.block ?_
    obtain⟨o1069,e1070,H⟩:=Z3 H
    refine AWp.loop (LWp.conv (inv:=[(0,0)]) (vk:=[]) (e0:=[]) (t:=⟨[(0,.own 0),(1,iV .i64 a1),(2,iV .i64 a2),(3,iV .i64 a3),(4,.im (.sc (.func (.func 105) #[] #[]))),(18,iV .i64 (i64.wrap (Int.fdiv (u64.wrap (i64.wrap (a1+a3))) 2))),(19,iV .i64 (i64.wrap ((i64.wrap (Int.fdiv (u64.wrap (i64.wrap (a1+a3))) 2))+a2))),(20,iV .i64 x901),(21,iV .i64 x902),(22,iV .i64 (i64.wrap ((i64.wrap ((i64.wrap (Int.fdiv (u64.wrap (i64.wrap (a1+a3))) 2))+a2))-(1:Int))))],[(0,some (.row 2 87 (a0.map Z0)))],1⟩) (by kernel_rfl) ?_)
    refine LWp.mono (Q:=fun e s=>(match (generalizing:=false) o1069 with | x945=>e = .exit 8∧s=⟨[(0,.own 0),(1,iV .i64 a1),(2,iV .i64 a2),(3,iV .i64 a3),(4,.im (.sc (.func (.func 105) #[] #[]))),(18,iV .i64 (i64.wrap (Int.fdiv (u64.wrap (i64.wrap (a1+a3))) 2))),(19,iV .i64 (i64.wrap ((i64.wrap (Int.fdiv (u64.wrap (i64.wrap (a1+a3))) 2))+a2))),(20,iV .i64 x945)],[(0,some (.row 2 87 (a0.map Z0)))],1⟩)) (LWp.cv (Zn (fun body hbody => ?_))) ?_
    ·refine                                              Z6.l4.partial_correctness a0 a1 a2 a3 (motive:=fun x923 x924 o1069=>LWp Γ body (fun e s=>∃ t,Cv Γ s t∧(match (generalizing:=false) o1069 with | x945=>e = .exit 8∧t=⟨[(0,.own 0),(1,iV .i64 a1),(2,iV .i64 a2),(3,iV .i64 a3),(4,.im (.sc (.func (.func 105) #[] #[]))),(18,iV .i64 (i64.wrap (Int.fdiv (u64.wrap (i64.wrap (a1+a3))) 2))),(19,iV .i64 (i64.wrap ((i64.wrap (Int.fdiv (u64.wrap (i64.wrap (a1+a3))) 2))+a2))),(20,iV .i64 x945)],[(0,some (.row 2 87 (a0.map Z0     )))],1⟩)) ⟨[(0,.own 0),(1,iV .i64 a1),(2,iV .i64 a2),(3,iV .i64 a3),(4,.im (.sc (.func (.func 105) #[] #[]))),(18,iV .i64 (i64.wrap (Int.fdiv (u64.wrap (i64.wrap (a1+a3))) 2))),(19,iV .i64 (i64.wrap ((i64.wrap (Int.fdiv (u64.wrap (i64.wrap (a1+a3))) 2))+a2))),(20,iV .i64 x923),(21,iV .i64 x924),(22,iV .i64 (i64.wrap ((i64.wrap ((i64.wrap (Int.fdiv (u64.wrap (i64.wrap (a1+a3))) 2))+a2))-(1:Int))))],[(0,some (.row 2 87 (a0.map Z0     )))],1⟩) ?_ _ _ _ e1070
     clear H e1070 o1069;intro self ih x923 x924 o1069 H
     subst hbody
     refine LWp.round ?_
     refine AWp.seq ?_
     refine sO hP hn hm [] [(151,bV (decide (x923<x924)))] [0,1,2,3,4,18,19,20,21,22,151] [] [0] ?_
     refine AWp.cond (decide (x923<x924)) (by kernel_rfl) (fun c925 => ?_) (fun c925 => ?_)
     ·replace H:=iT c925 H
      refine AWp.skip ?_
      refine AWp.block ?_
      refine sR hP hn hm [] [(23,iV .i64 (i64.wrap (Int.fdiv (u64.wrap (i64.wrap (x923+x924))) 2)))] [0,1,2,3,4,18,19,20,21,22,23] [] [0] [(0:Int)≤1] ⟨by decide,trivial⟩ ?_
      obtain⟨b934,p935,q936,H⟩:=Z03 H
      obtain⟨b937,p938,q939,H⟩:=Z03 H
      obtain⟨t940,e941,H⟩:=Z3 H
      refine sR hP hn hm [(6,.c (Z0 b934)),(10,.c (Z0 b937)),(11,.call [] [] [] [] 0 (iV .i64 t940) [])] [(171,bV (!(decide (t940<(0:Int)))))] [0,1,2,3,4,18,19,20,21,22,23,171] [] [0] [_,_,_,_,_,_,_,_] ⟨p935,Z1u Z0 p935 q936,Zf Z0 q936,p938,Z1u Z0 p938 q939,Zf Z0 q939,Tryz.call105,Z1b.ok b934 b937 t940 e941,trivial⟩ ?_
      obtain⟨o1071,e1072,H⟩:=Z3 H
      refine AWp.mono (Q:=fun e s=>(match (generalizing:=false) o1071 with | (x943,x944)=>e = .normal∧s=⟨[(0,.own 0),(1,iV .i64 a1),(2,iV .i64 a2),(3,iV .i64 a3),(4,.im (.sc (.func (.func 105) #[] #[]))),(18,iV .i64 (i64.wrap (Int.fdiv (u64.wrap (i64.wrap (a1+a3))) 2))),(19,iV .i64 (i64.wrap ((i64.wrap (Int.fdiv (u64.wrap (i64.wrap (a1+a3))) 2))+a2))),(20,iV .i64 x943),(21,iV .i64 x944),(22,iV .i64 (i64.wrap ((i64.wrap ((i64.wrap (Int.fdiv (u64.wrap (i64.wrap (a1+a3))) 2))+a2))-(1:Int))))],[(0,some (.row 2 87 (a0.map Z0)))],1⟩)) (AWp.cv ?_) ?_
      ·replace H:=e1072;clear e1072
       refine AWp.cond (!(decide (t940<(0:Int)))) (by kernel_rfl) (fun c942 => ?_) (fun c942 => ?_)
       ·replace H:=iT c942 H
        refine rO hP hn hm [] [(20,iV .i64 (i64.wrap ((i64.wrap (Int.fdiv (u64.wrap (i64.wrap (x923+x924))) 2))+(1:Int))))] [0,1,2,3,4,18,19,20,21,22] [] [0] ?_
        obtain rfl:=sj H
        exact lf [(0,0)] [] [] (by kernel_rfl) ⟨rfl,rfl⟩
       ·replace H:=iF c942 H
        refine rO hP hn hm [] [(21,iV .i64 (i64.wrap (Int.fdiv (u64.wrap (i64.wrap (x923+x924))) 2)))] [0,1,2,3,4,18,19,20,21,22] [] [0] ?_
        obtain rfl:=sj H
        exact lf [(0,0)] [] [] (by kernel_rfl) ⟨rfl,rfl⟩
      ·obtain⟨x943,x944⟩:=o1071
       rintro e s ⟨rfl,rfl⟩
       exact LWp.conv [(0,0)] [] [] (by kernel_rfl) (ih _ _ _ H)
     ·replace H:=iF c925 H
      refine AWp.exit ?_
      obtain rfl:=sj H
      exact lf [(0,0)] [] [] (by kernel_rfl) ⟨rfl,rfl⟩
    ·obtain⟨x945,rfl⟩:∃ z,z=o1069:=⟨_,rfl⟩
     rintro e s ⟨rfl,rfl⟩
     refine sO hP hn hm [] [(24,iV .i64 (i64.wrap ((i64.wrap ((i64.wrap (Int.fdiv (u64.wrap (i64.wrap (a1+a3))) 2))+a2))-x945)))] [0,1,2,3,4,18,20,24] [] [0] ?_
     refine AWp.seq ?_
     refine AWp.seq ?_
     obtain⟨o1073,e1074,H⟩:=Z3 H
     refine AWp.mono (Q:=fun e s=>(match (generalizing:=false) o1073 with | x948=>e = .normal∧s=⟨[(0,.own 0),(1,iV .i64 a1),(2,iV .i64 a2),(3,iV .i64 a3),(4,.im (.sc (.func (.func 105) #[] #[]))),(18,iV .i64 (i64.wrap (Int.fdiv (u64.wrap (i64.wrap (a1+a3))) 2))),(20,iV .i64 x945),(24,iV .i64 (i64.wrap ((i64.wrap ((i64.wrap (Int.fdiv (u64.wrap (i64.wrap (a1+a3))) 2))+a2))-x945))),(185,bV x948)],[(0,some (.row 2 87 (a0.map Z0)))],1⟩)) (AWp.cv ?_) ?_
     ·replace H:=e1074;clear e1074
      rcases Bool.eq_false_or_eq_true (decide (x945<a2)) with c947 | c947
      ·replace H:=iT c947 H
       refine rG hP hn hm [(3,.b true)] [(185,bV (decide (a2<(i64.wrap ((i64.wrap ((i64.wrap (Int.fdiv (u64.wrap (i64.wrap (a1+a3))) 2))+a2))-x945)))))] [0,1,2,3,4,18,20,24,185] [] [0] [_] ⟨c947,trivial⟩ ?_
       obtain rfl:=sj H
       exact lf [(0,0)] [] [] (by kernel_rfl) ⟨rfl,rfl⟩
      ·replace H:=iF c947 H
       refine rG hP hn hm [(3,.b false)] [(185,bV false)] [0,1,2,3,4,18,20,24,185] [] [0] [_] ⟨c947,trivial⟩ ?_
       obtain rfl:=sj H
       exact lf [(0,0)] [] [] (by kernel_rfl) ⟨rfl,rfl⟩
     ·obtain⟨x948,rfl⟩:∃ z,z=o1073:=⟨_,rfl⟩
      rintro e s ⟨rfl,rfl⟩
      obtain⟨o1075,e1076,H⟩:=Z3 H
      refine AWp.mono (Q:=fun e s=>(match (generalizing:=false) o1075 with | x1036=>e = .normal∧s=⟨[(0,.own 0),(1,iV .i64 a1),(3,iV .i64 a3),(4,.im (.sc (.func (.func 105) #[] #[]))),(18,iV .i64 (i64.wrap (Int.fdiv (u64.wrap (i64.wrap (a1+a3))) 2))),(20,iV .i64 x945),(24,iV .i64 (i64.wrap ((i64.wrap ((i64.wrap (Int.fdiv (u64.wrap (i64.wrap (a1+a3))) 2))+a2))-x945)))],[(0,some (.row 2 87 (x1036.map Z0)))],1⟩)) (AWp.cv ?_) ?_
      ·replace H:=e1076;clear e1076
       refine AWp.cond x948 (by kernel_rfl) (fun c949 => ?_) (fun c949 => ?_)
       ·replace H:=iT c949 H
        obtain⟨t1034,e1035,H⟩:=Z3 H
        refine rG hP hn hm [(5,.call [(0,0)] [(0,0)] [] [] 1 (.tup []) [(0,some (.row 2 87 (t1034.map Z0)))])] [] [0,1,3,4,18,20,24] [(0,some (.row 2 87 (t1034.map Z0)))] [0] [_,_] ⟨Tryz.call124,Zj.ok a0 x945 a2 (i64.wrap ((i64.wrap ((i64.wrap (Int.fdiv (u64.wrap (i64.wrap (a1+a3))) 2))+a2))-x945)) t1034 e1035,trivial⟩ ?_
        obtain rfl:=sj H
        exact lf [(0,0)] [] [] (by kernel_rfl) ⟨rfl,rfl⟩
       ·replace H:=iF c949 H
        refine AWp.skip ?_
        obtain rfl:=sj H
        exact lf [(0,0)] [] [] (by kernel_rfl) ⟨rfl,rfl⟩
      ·obtain⟨x1036,rfl⟩:∃ z,z=o1075:=⟨_,rfl⟩
       rintro e s ⟨rfl,rfl⟩
       refine AWp.seq ?_
       refine AWp.seq ?_
       obtain⟨o1077,e1078,H⟩:=Z3 H
       refine AWp.mono (Q:=fun e s=>(match (generalizing:=false) o1077 with | x1039=>e = .normal∧s=⟨[(0,.own 0),(1,iV .i64 a1),(3,iV .i64 a3),(4,.im (.sc (.func (.func 105) #[] #[]))),(18,iV .i64 (i64.wrap (Int.fdiv (u64.wrap (i64.wrap (a1+a3))) 2))),(20,iV .i64 x945),(24,iV .i64 (i64.wrap ((i64.wrap ((i64.wrap (Int.fdiv (u64.wrap (i64.wrap (a1+a3))) 2))+a2))-x945))),(199,bV x1039)],[(0,some (.row 2 87 (x1036.map Z0)))],1⟩)) (AWp.cv ?_) ?_
       ·replace H:=e1078;clear e1078
        rcases Bool.eq_false_or_eq_true (decide (a1<x945)) with c1038 | c1038
        ·replace H:=iT c1038 H
         refine rG hP hn hm [(3,.b true)] [(199,bV (decide (x945<(i64.wrap (Int.fdiv (u64.wrap (i64.wrap (a1+a3))) 2)))))] [0,1,3,4,18,20,24,199] [] [0] [_] ⟨c1038,trivial⟩ ?_
         obtain rfl:=sj H
         exact lf [(0,0)] [] [] (by kernel_rfl) ⟨rfl,rfl⟩
        ·replace H:=iF c1038 H
         refine rG hP hn hm [(3,.b false)] [(199,bV false)] [0,1,3,4,18,20,24,199] [] [0] [_] ⟨c1038,trivial⟩ ?_
         obtain rfl:=sj H
         exact lf [(0,0)] [] [] (by kernel_rfl) ⟨rfl,rfl⟩
       ·obtain⟨x1039,rfl⟩:∃ z,z=o1077:=⟨_,rfl⟩
        rintro e s ⟨rfl,rfl⟩
        obtain⟨o1079,e1080,H⟩:=Z3 H
        refine AWp.mono (Q:=fun e s=>(match (generalizing:=false) o1079 with | x1045=>e = .normal∧s=⟨[(0,.own 0),(3,iV .i64 a3),(4,.im (.sc (.func (.func 105) #[] #[]))),(18,iV .i64 (i64.wrap (Int.fdiv (u64.wrap (i64.wrap (a1+a3))) 2))),(24,iV .i64 (i64.wrap ((i64.wrap ((i64.wrap (Int.fdiv (u64.wrap (i64.wrap (a1+a3))) 2))+a2))-x945)))],[(0,some (.row 2 87 (x1045.map Z0)))],1⟩)) (AWp.cv ?_) ?_
        ·replace H:=e1080;clear e1080
         refine AWp.cond x1039 (by kernel_rfl) (fun c1040 => ?_) (fun c1040 => ?_)
         ·replace H:=iT c1040 H
          obtain⟨t1043,e1044,H⟩:=Z3 H
          refine rG hP hn hm [(5,.call [(0,0)] [(0,0)] [] [] 1 (.tup []) [(0,some (.row 2 87 (t1043.map Z0)))])] [] [0,3,4,18,24] [(0,some (.row 2 87 (t1043.map Z0)))] [0] [_,Pv.Fn Tryz.prog 119 [.own 0,iV .i64 a1,iV .i64 x945,iV .i64 (i64.wrap (Int.fdiv (u64.wrap (i64.wrap (a1+a3))) 2)),.im (.sc (.func (.func 105) #[] #[]))] [(0,some (.row 2 87 (x1036.map Z0)))] 1 (fun r o=>r = .tup []∧o=[(0,some (.row 2 87 (t1043.map Z0)))])] ⟨Tryz.call119,by exact ihF x1036 a1 x945 (i64.wrap (Int.fdiv (u64.wrap (i64.wrap (a1+a3))) 2)) _ e1044,trivial⟩ ?_
          obtain rfl:=sj H
          exact lf [(0,0)] [] [] (by kernel_rfl) ⟨rfl,rfl⟩
         ·replace H:=iF c1040 H
          refine AWp.skip ?_
          obtain rfl:=sj H
          exact lf [(0,0)] [] [] (by kernel_rfl) ⟨rfl,rfl⟩
        ·obtain⟨x1045,rfl⟩:∃ z,z=o1079:=⟨_,rfl⟩
         rintro e s ⟨rfl,rfl⟩
         refine AWp.seq ?_
         obtain⟨o1081,e1082,H⟩:=Z3 H
         refine AWp.mono (Q:=fun e s=>(match (generalizing:=false) o1081 with | x1048=>e = .normal∧s=⟨[(0,.own 0),(3,iV .i64 a3),(4,.im (.sc (.func (.func 105) #[] #[]))),(18,iV .i64 (i64.wrap (Int.fdiv (u64.wrap (i64.wrap (a1+a3))) 2))),(24,iV .i64 (i64.wrap ((i64.wrap ((i64.wrap (Int.fdiv (u64.wrap (i64.wrap (a1+a3))) 2))+a2))-x945))),(213,bV x1048)],[(0,some (.row 2 87 (x1045.map Z0)))],1⟩)) (AWp.cv ?_) ?_
         ·replace H:=e1082;clear e1082
          rcases Bool.eq_false_or_eq_true (decide ((i64.wrap (Int.fdiv (u64.wrap (i64.wrap (a1+a3))) 2))<(i64.wrap ((i64.wrap ((i64.wrap (Int.fdiv (u64.wrap (i64.wrap (a1+a3))) 2))+a2))-x945)))) with c1047 | c1047
          ·replace H:=iT c1047 H
           refine rG hP hn hm [(3,.b true)] [(213,bV (decide ((i64.wrap ((i64.wrap ((i64.wrap (Int.fdiv (u64.wrap (i64.wrap (a1+a3))) 2))+a2))-x945))<a3)))] [0,3,4,18,24,213] [] [0] [_] ⟨c1047,trivial⟩ ?_
           obtain rfl:=sj H
           exact lf [(0,0)] [] [] (by kernel_rfl) ⟨rfl,rfl⟩
          ·replace H:=iF c1047 H
           refine rG hP hn hm [(3,.b false)] [(213,bV false)] [0,3,4,18,24,213] [] [0] [_] ⟨c1047,trivial⟩ ?_
           obtain rfl:=sj H
           exact lf [(0,0)] [] [] (by kernel_rfl) ⟨rfl,rfl⟩
         ·obtain⟨x1048,rfl⟩:∃ z,z=o1081:=⟨_,rfl⟩
          rintro e s ⟨rfl,rfl⟩
          obtain⟨o1083,e1084,H⟩:=Z3 H
          refine AWp.mono (Q:=fun e s=>(match (generalizing:=false) o1083 with | x1054=>e = .normal∧s=⟨[],[(0,some (.row 2 87 (x1054.map Z0)))],1⟩)) (AWp.cv ?_) ?_
          ·replace H:=e1084;clear e1084
           refine AWp.cond x1048 (by kernel_rfl) (fun c1049 => ?_) (fun c1049 => ?_)
           ·replace H:=iT c1049 H
            obtain⟨t1052,e1053,H⟩:=Z3 H
            refine rG hP hn hm [(5,.call [(0,0)] [(0,0)] [] [] 1 (.tup []) [(0,some (.row 2 87 (t1052.map Z0)))])] [] [] [(0,some (.row 2 87 (t1052.map Z0)))] [0] [_,Pv.Fn Tryz.prog 119 [.own 0,iV .i64 (i64.wrap (Int.fdiv (u64.wrap (i64.wrap (a1+a3))) 2)),iV .i64 (i64.wrap ((i64.wrap ((i64.wrap (Int.fdiv (u64.wrap (i64.wrap (a1+a3))) 2))+a2))-x945)),iV .i64 a3,.im (.sc (.func (.func 105) #[] #[]))] [(0,some (.row 2 87 (x1045.map Z0)))] 1 (fun r o=>r = .tup []∧o=[(0,some (.row 2 87 (t1052.map Z0)))])] ⟨Tryz.call119,by exact ihF x1045 (i64.wrap (Int.fdiv (u64.wrap (i64.wrap (a1+a3))) 2)) (i64.wrap ((i64.wrap ((i64.wrap (Int.fdiv (u64.wrap (i64.wrap (a1+a3))) 2))+a2))-x945)) a3 _ e1053,trivial⟩ ?_
            obtain rfl:=sj H
            exact lf [(0,0)] [] [] (by kernel_rfl) ⟨rfl,rfl⟩
           ·replace H:=iF c1049 H
            refine AWp.skip ?_
            obtain rfl:=sj H
            exact lf [(0,0)] [] [] (by kernel_rfl) ⟨rfl,rfl⟩
          ·obtain⟨x1054,rfl⟩:∃ z,z=o1083:=⟨_,rfl⟩
           rintro e s ⟨rfl,rfl⟩
           obtain rfl:=sj H
           exact Exists.intro ⟨[],[(0,some (.row 2 87 (x1054.map Z0)))],1⟩ (And.intro (fun _ _ h=>h.conv (inv:=[(0,0)]) (vk:=[]) (e0:=[]) (t:=⟨[],[(0,some (.row 2 87 (x1054.map Z0)))],1⟩) (by kernel_rfl)) (And.intro (.inr rfl) (And.intro rfl (And.intro (by kernel_rfl) (by kernel_rfl)))))
def Z9.l0 (a1:Int) (x714:List Z2) (x715:Int) (x716:Int):Option ((List Z2)×Int):=if(decide (x716≤a1))=true then((Z8.f x714 x715 x716)>>=fun t720=>Z9.l0 a1 t720 x716 (i64.wrap (x716+(20:Int)))) else(some (x714,x715))
partial_fixpoint
def Z9.l2 (a1:Int) (x1106:Int) (x1113:List Z2) (x1114:Int) (x1115:Int):Option ((List Z2)×Int):=if(decide (x1115≤a1))=true then((Z6.f x1113 x1114 (i64.wrap (x1114+x1106)) x1115)>>=fun t1119=>Z9.l2 a1 x1106 t1119 x1115 (i64.wrap (x1115+(i64.wrap ((2:Int)*x1106))))) else(some (x1113,x1114))
partial_fixpoint
def Z9.l1 (a1:Int) (x1105:List Z2) (x1106:Int):Option (List Z2):=if(decide (x1106<a1))=true then((Z9.l2 a1 x1106 x1105 0 (i64.wrap ((2:Int)*x1106)))>>=fun oo=>match oo with | (x1121,x1122)=>(((if(decide ((i64.wrap (x1122+x1106))<a1))=true then((Z6.f x1121 x1122 (i64.wrap (x1122+x1106)) a1)>>=fun t1126=>some t1126) else(some x1121)):Option (List Z2))>>=fun x1128=>Z9.l1 a1 x1128 (i64.wrap (x1106*(2:Int))))) else(some x1105)
partial_fixpoint
def Z9.f (a0:List Z2) (a1:Int):Option (List Z2):=(Z9.l0 a1 a0 0 20)>>=fun oo=>match oo with | (x722,x723)=>((Z8.f x722 x723 a1)>>=fun t726=>(Z9.l1 a1 t726 20)>>=fun x1129=>some x1129)
theorem Z9.ok (a0:List Z2) (a1:Int) (r:List Z2) (H:Z9.f a0 a1=some r):Pv.Fn Tryz.prog 112 [.own 0,iV .i64 a1,.im (.sc (.func (.func 105) #[] #[]))] [(0,some (.row 2 87 (a0.map Z0)))] 1 (fun x o=>x = .tup []∧o=[(0,some (.row 2 87 (r.map Z0)))]):=by
 unfold Z9.f at H
 refine Fn.bodyK [0] Tryz.func112 rfl rfl (fun Γ hP hn => ?_)
 have hm:Tryz.prog.follows .mixedOrders=true:=by kernel_rfl
 replace hn:Γ.n=63:=hn
 refine sO hP hn hm [] [(6,iV .i64 20)] [0,1,2,6] [] [0] ?_
 refine sO hP hn hm [] [(7,iV .i64 0),(8,iV .i64 20)] [0,1,2,6,7,8] [] [0] ?_
 refine AWp.seq ?_
 refine AWp.block ?_
 obtain⟨o1130,e1131,H⟩:=Z3 H
 refine AWp.loop (LWp.conv (inv:=[(0,0)]) (vk:=[]) (e0:=[]) (t:=⟨[(0,.own 0),(1,iV .i64 a1),(2,.im (.sc (.func (.func 105) #[] #[]))),(6,iV .i64 20),(7,iV .i64 0),(8,iV .i64 20)],[(0,some (.row 2 87 (a0.map Z0)))],1⟩) (by kernel_rfl) ?_)
 refine LWp.mono (Q:=fun e s=>(match (generalizing:=false) o1130 with | (x722,x723)=>e = .exit 0∧s=⟨[(0,.own 0),(1,iV .i64 a1),(2,.im (.sc (.func (.func 105) #[] #[]))),(6,iV .i64 20),(7,iV .i64 x723)],[(0,some (.row 2 87 (x722.map Z0)))],1⟩)) (LWp.cv (Zn (fun body hbody => ?_))) ?_
 ·refine                                            Z9.l0.partial_correctness a1 (motive:=fun x714 x715 x716 o1130=>LWp Γ body (fun e s=>∃ t,Cv Γ s t∧(match (generalizing:=false) o1130 with | (x722,x723)=>e = .exit 0∧t=⟨[(0,.own 0),(1,iV .i64 a1),(2,.im (.sc (.func (.func 105) #[] #[]))),(6,iV .i64 20),(7,iV .i64 x723)],[(0,some (.row 2 87 (x722.map Z0     )))],1⟩)) ⟨[(0,.own 0),(1,iV .i64 a1),(2,.im (.sc (.func (.func 105) #[] #[]))),(6,iV .i64 20),(7,iV .i64 x715),(8,iV .i64 x716)],[(0,some (.row 2 87 (x714.map Z0     )))],1⟩) ?_ _ _ _ _ e1131
  clear H e1131 o1130;intro self ih x714 x715 x716 o1130 H
  subst hbody
  refine LWp.round ?_
  refine AWp.seq ?_
  refine sO hP hn hm [] [(13,bV (decide (x716≤a1)))] [0,1,2,6,7,8,13] [] [0] ?_
  refine AWp.cond (decide (x716≤a1)) (by kernel_rfl) (fun c717 => ?_) (fun c717 => ?_)
  ·replace H:=iT c717 H
   refine AWp.skip ?_
   refine AWp.block ?_
   obtain⟨t720,e721,H⟩:=Z3 H
   refine sR hP hn hm [(4,.call [(0,0)] [(0,0)] [] [] 1 (.tup []) [(0,some (.row 2 87 (t720.map Z0)))])] [] [0,1,2,6,8] [(0,some (.row 2 87 (t720.map Z0)))] [0] [_,_] ⟨Tryz.call118,Z8.ok x714 x715 x716 t720 e721,trivial⟩ ?_
   refine sO hP hn hm [] [(7,iV .i64 x716)] [0,1,2,6,7,8] [] [0] ?_
   refine rO hP hn hm [] [(8,iV .i64 (i64.wrap (x716+(20:Int))))] [0,1,2,6,7,8] [] [0] ?_
   exact LWp.conv [(0,0)] [] [] (by kernel_rfl) (ih _ _ _ _ H)
  ·replace H:=iF c717 H
   refine AWp.exit ?_
   obtain rfl:=sj H
   exact lf [(0,0)] [] [] (by kernel_rfl) ⟨rfl,rfl⟩
 ·obtain⟨x722,x723⟩:=o1130
  rintro e s ⟨rfl,rfl⟩
  obtain⟨t726,e727,H⟩:=Z3 H
  refine sR hP hn hm [(4,.call [(0,0)] [(0,0)] [] [] 1 (.tup []) [(0,some (.row 2 87 (t726.map Z0)))])] [] [0,1,2,6] [(0,some (.row 2 87 (t726.map Z0)))] [0] [_,_] ⟨Tryz.call118,Z8.ok x722 x723 a1 t726 e727,trivial⟩ ?_
  refine AWp.block ?_
  obtain⟨o1132,e1133,H⟩:=Z3 H
  refine AWp.loop (LWp.conv (inv:=[(0,0)]) (vk:=[]) (e0:=[]) (t:=⟨[(0,.own 0),(1,iV .i64 a1),(2,.im (.sc (.func (.func 105) #[] #[]))),(6,iV .i64 20)],[(0,some (.row 2 87 (t726.map Z0)))],1⟩) (by kernel_rfl) ?_)
  refine LWp.mono (Q:=fun e s=>(match (generalizing:=false) o1132 with | x1129=>e = .exit 2∧s=⟨[],[(0,some (.row 2 87 (x1129.map Z0)))],1⟩)) (LWp.cv (Zn (fun body hbody => ?_))) ?_
  ·refine                                            Z9.l1.partial_correctness a1 (motive:=fun x1105 x1106 o1132=>LWp Γ body (fun e s=>∃ t,Cv Γ s t∧(match (generalizing:=false) o1132 with | x1129=>e = .exit 2∧t=⟨[],[(0,some (.row 2 87 (x1129.map Z0     )))],1⟩)) ⟨[(0,.own 0),(1,iV .i64 a1),(2,.im (.sc (.func (.func 105) #[] #[]))),(6,iV .i64 x1106)],[(0,some (.row 2 87 (x1105.map Z0     )))],1⟩) ?_ _ _ _ e1133
   clear H e1133 o1132;intro self ih x1105 x1106 o1132 H
   subst hbody
   refine LWp.round ?_
   refine AWp.seq ?_
   refine sO hP hn hm [] [(30,bV (decide (x1106<a1)))] [0,1,2,6,30] [] [0] ?_
   refine AWp.cond (decide (x1106<a1)) (by kernel_rfl) (fun c1107 => ?_) (fun c1107 => ?_)
   ·replace H:=iT c1107 H
    refine AWp.skip ?_
    refine AWp.block ?_
    refine sO hP hn hm [] [(7,iV .i64 0),(8,iV .i64 (i64.wrap ((2:Int)*x1106)))] [0,1,2,6,7,8] [] [0] ?_
    refine AWp.seq ?_
    refine AWp.block ?_
    obtain⟨o1134,e1135,H⟩:=Z3 H
    refine AWp.loop (LWp.conv (inv:=[(0,0)]) (vk:=[]) (e0:=[]) (t:=⟨[(0,.own 0),(1,iV .i64 a1),(2,.im (.sc (.func (.func 105) #[] #[]))),(6,iV .i64 x1106),(7,iV .i64 0),(8,iV .i64 (i64.wrap ((2:Int)*x1106)))],[(0,some (.row 2 87 (x1105.map Z0)))],1⟩) (by kernel_rfl) ?_)
    refine LWp.mono (Q:=fun e s=>(match (generalizing:=false) o1134 with | (x1121,x1122)=>e = .exit 4∧s=⟨[(0,.own 0),(1,iV .i64 a1),(2,.im (.sc (.func (.func 105) #[] #[]))),(6,iV .i64 x1106),(7,iV .i64 x1122)],[(0,some (.row 2 87 (x1121.map Z0)))],1⟩)) (LWp.cv (Zn (fun body hbody => ?_))) ?_
    ·refine                                            Z9.l2.partial_correctness a1 x1106 (motive:=fun x1113 x1114 x1115 o1134=>LWp Γ body (fun e s=>∃ t,Cv Γ s t∧(match (generalizing:=false) o1134 with | (x1121,x1122)=>e = .exit 4∧t=⟨[(0,.own 0),(1,iV .i64 a1),(2,.im (.sc (.func (.func 105) #[] #[]))),(6,iV .i64 x1106),(7,iV .i64 x1122)],[(0,some (.row 2 87 (x1121.map Z0     )))],1⟩)) ⟨[(0,.own 0),(1,iV .i64 a1),(2,.im (.sc (.func (.func 105) #[] #[]))),(6,iV .i64 x1106),(7,iV .i64 x1114),(8,iV .i64 x1115)],[(0,some (.row 2 87 (x1113.map Z0     )))],1⟩) ?_ _ _ _ _ e1135
     clear H e1135 o1134;intro self ih x1113 x1114 x1115 o1134 H
     subst hbody
     refine LWp.round ?_
     refine AWp.seq ?_
     refine sO hP hn hm [] [(35,bV (decide (x1115≤a1)))] [0,1,2,6,7,8,35] [] [0] ?_
     refine AWp.cond (decide (x1115≤a1)) (by kernel_rfl) (fun c1116 => ?_) (fun c1116 => ?_)
     ·replace H:=iT c1116 H
      refine AWp.skip ?_
      refine AWp.block ?_
      obtain⟨t1119,e1120,H⟩:=Z3 H
      refine sR hP hn hm [(7,.call [(0,0)] [(0,0)] [] [] 1 (.tup []) [(0,some (.row 2 87 (t1119.map Z0)))])] [] [0,1,2,6,8] [(0,some (.row 2 87 (t1119.map Z0)))] [0] [_,_] ⟨Tryz.call119,Z6.ok x1113 x1114 (i64.wrap (x1114+x1106)) x1115 t1119 e1120,trivial⟩ ?_
      refine sO hP hn hm [] [(7,iV .i64 x1115)] [0,1,2,6,7,8] [] [0] ?_
      refine rO hP hn hm [] [(8,iV .i64 (i64.wrap (x1115+(i64.wrap ((2:Int)*x1106)))))] [0,1,2,6,7,8] [] [0] ?_
      exact LWp.conv [(0,0)] [] [] (by kernel_rfl) (ih _ _ _ _ H)
     ·replace H:=iF c1116 H
      refine AWp.exit ?_
      obtain rfl:=sj H
      exact lf [(0,0)] [] [] (by kernel_rfl) ⟨rfl,rfl⟩
    ·obtain⟨x1121,x1122⟩:=o1134
     rintro e s ⟨rfl,rfl⟩
     refine AWp.seq ?_
     refine sO hP hn hm [] [(9,iV .i64 (i64.wrap (x1122+x1106)))] [0,1,2,6,7,9] [] [0] ?_
     refine sO hP hn hm [] [(54,bV (decide ((i64.wrap (x1122+x1106))<a1)))] [0,1,2,6,7,9,54] [] [0] ?_
     obtain⟨o1136,e1137,H⟩:=Z3 H
     refine AWp.mono (Q:=fun e s=>(match (generalizing:=false) o1136 with | x1128=>e = .normal∧s=⟨[(0,.own 0),(1,iV .i64 a1),(2,.im (.sc (.func (.func 105) #[] #[]))),(6,iV .i64 x1106)],[(0,some (.row 2 87 (x1128.map Z0)))],1⟩)) (AWp.cv ?_) ?_
     ·replace H:=e1137;clear e1137
      refine AWp.cond (decide ((i64.wrap (x1122+x1106))<a1)) (by kernel_rfl) (fun c1123 => ?_) (fun c1123 => ?_)
      ·replace H:=iT c1123 H
       obtain⟨t1126,e1127,H⟩:=Z3 H
       refine rG hP hn hm [(5,.call [(0,0)] [(0,0)] [] [] 1 (.tup []) [(0,some (.row 2 87 (t1126.map Z0)))])] [] [0,1,2,6] [(0,some (.row 2 87 (t1126.map Z0)))] [0] [_,_] ⟨Tryz.call119,Z6.ok x1121 x1122 (i64.wrap (x1122+x1106)) a1 t1126 e1127,trivial⟩ ?_
       obtain rfl:=sj H
       exact lf [(0,0)] [] [] (by kernel_rfl) ⟨rfl,rfl⟩
      ·replace H:=iF c1123 H
       refine AWp.skip ?_
       obtain rfl:=sj H
       exact lf [(0,0)] [] [] (by kernel_rfl) ⟨rfl,rfl⟩
     ·obtain⟨x1128,rfl⟩:∃ z,z=o1136:=⟨_,rfl⟩
      rintro e s ⟨rfl,rfl⟩
      refine rO hP hn hm [] [(6,iV .i64 (i64.wrap (x1106*(2:Int))))] [0,1,2,6] [] [0] ?_
      exact LWp.conv [(0,0)] [] [] (by kernel_rfl) (ih _ _ _ H)
   ·replace H:=iF c1107 H
    refine AWp.exit ?_
    obtain rfl:=sj H
    exact lf [(0,0)] [] [] (by kernel_rfl) ⟨rfl,rfl⟩
  ·obtain⟨x1129,rfl⟩:∃ z,z=o1132:=⟨_,rfl⟩
   rintro e s ⟨rfl,rfl⟩
   obtain rfl:=sj H
   exact Exists.intro ⟨[],[(0,some (.row 2 87 (x1129.map Z0)))],1⟩ (And.intro (fun _ _ h=>h.conv (inv:=[(0,0)]) (vk:=[]) (e0:=[]) (t:=⟨[],[(0,some (.row 2 87 (x1129.map Z0)))],1⟩) (by kernel_rfl)) (And.intro (.inr rfl) (And.intro rfl (And.intro (by kernel_rfl) (by kernel_rfl)))))
def Zs.f (a0:List Z2):Option (List Z2):=(Z9.f a0 (a0.length:Int))>>=fun t1140=>some t1140
theorem Zs.ok (a0:List Z2) (r:List Z2) (H:Zs.f a0=some r):Pv.Fn Tryz.prog 104 [.own 0,.im (.sc (.func (.func 105) #[] #[]))] [(0,some (.row 2 87 (a0.map Z0)))] 1 (fun x o=>x = .tup []∧o=[(0,some (.row 2 87 (r.map Z0)))]):=by
 unfold Zs.f at H
 refine Fn.bodyK [0] Tryz.func104 rfl rfl (fun Γ hP hn => ?_)
 have hm:Tryz.prog.follows .mixedOrders=true:=by kernel_rfl
 replace hn:Γ.n=9:=hn
 obtain⟨t1140,e1141,H⟩:=Z3 H
 refine rG hP hn hm [(2,.any (iV .i64 (a0.length:Int))),(4,.call [(0,0)] [(0,0)] [] [] 1 (.tup []) [(0,some (.row 2 87 (t1140.map Z0)))])] [] [] [(0,some (.row 2 87 (t1140.map Z0)))] [0] [((a0.map Z0).length:Int)=(a0.length:Int),_,_] ⟨by rw[Zi],Tryz.call112,Z9.ok a0 (a0.length:Int) t1140 e1141,trivial⟩ ?_
 obtain rfl:=sj H
 exact Exists.intro ⟨[],[(0,some (.row 2 87 (t1140.map Z0)))],1⟩ (And.intro (fun _ _ h=>h.conv (inv:=[(0,0)]) (vk:=[]) (e0:=[]) (t:=⟨[],[(0,some (.row 2 87 (t1140.map Z0)))],1⟩) (by kernel_rfl)) (And.intro (.inr rfl) (And.intro rfl (And.intro (by kernel_rfl) (by kernel_rfl)))))
def Z0u.l0 (t1144:List Z2) (x1157:List Z2) (x1158:Int):Option (((List Z2)×Int) ⊕ (List Z2)):=if(decide (x1158<(t1144.length:Int)))=true then((at? t1144 x1158)>>=fun b1163=>((if(b1163.f1==(0:Int))=true then(some (.inr x1157)) else(((if(decide ((x1157.length:Int)>(0:Int)))=true then((at? x1157 (i64.wrap ((x1157.length:Int)-(1:Int))))>>=fun b1172=>some (b1172.f0==b1163.f0)) else(some false)):Option (Bool))>>=fun x1175=>((if x1175=true then((at? x1157 (i64.wrap ((x1157.length:Int)-(1:Int))))>>=fun b1182=>(Z1z.f [b1182.f1,b1163.f1])>>=fun t1185=>if(t1185.2 != (0:Int))=true then(some (.inl ([],t1185.2))) else(some (.inr (x1157.set (Int.toNat (i64.wrap ((x1157.length:Int)-(1:Int)))) (⟨b1182.f0,t1185.1⟩:Z2))))) else((chk ((x1157.length+[b1163].length)*16≤140737488355328))>>=fun _=>some (.inr (x1157++[b1163])))):Option (((List Z2)×Int) ⊕ (List Z2)))>>=fun oo=>match oo with | .inl rr=>(some (.inl rr)) | .inr x1190=>(some (.inr x1190)))):Option (((List Z2)×Int) ⊕ (List Z2)))>>=fun oo=>match oo with | .inl rr=>(some (.inl rr)) | .inr x1191=>(Z0u.l0 t1144 x1191 (i64.wrap (x1158+(1:Int))))) else(some (.inr x1157))
partial_fixpoint
def Z0u.f (a0:List Z2):Option ((List Z2)×Int):=(Zx.f a0)>>=fun t521=>(Zs.f t521)>>=fun t1144=>(Z0u.l0 t1144 [] 0)>>=fun oo=>match oo with | .inl rr=>(some rr) | .inr x1192=>(some (x1192,0))
theorem Z0u.ok (a0:List Z2) (r:(List Z2)×Int) (H:Z0u.f a0=some r):Pv.Fn Tryz.prog 90 [.im (.row (a0.map Z0))] [] 0 (fun x o=>x = .tup [.own 0,iV .i64 r.2]∧o=[(0,some (.row 2 87 (r.1.map Z0)))]):=by
 unfold Z0u.f at H
 refine Fn.bodyK [0] Tryz.func90 rfl rfl (fun Γ hP hn => ?_)
 have hm:Tryz.prog.follows .mixedOrders=true:=by kernel_rfl
 replace hn:Γ.n=68:=hn
 refine sO hP hn hm [] [] [0] [] [] ?_
 refine sO hP hn hm [] [(4,.none0)] [0,4] [] [] ?_
 obtain⟨t521,e522,H⟩:=Z3 H
 refine sR hP hn hm [(1,.call [] [(0,0)] [] [0] 0 (.own 0) [(0,some (.row 2 87 (t521.map Z0)))])] [(0,.own 0)] [0,4] [(0,some (.row 2 87 (t521.map Z0)))] [0] [_,_] ⟨Tryz.call103,Zx.ok a0 t521 e522,trivial⟩ ?_
 obtain⟨t1144,e1145,H⟩:=Z3 H
 refine sR hP hn hm [(1,.call [(0,0)] [(0,0)] [] [] 1 (.tup []) [(0,some (.row 2 87 (t1144.map Z0)))])] [] [0,4] [(0,some (.row 2 87 (t1144.map Z0)))] [0] [_,_] ⟨Tryz.call104,Zs.ok t521 t1144 e1145,trivial⟩ ?_
 refine AWp.seq ?_
 refine sR hP hn hm [(1,.any (iV .i64 (t1144.length:Int)))] [(14,.own 0),(15,iV .i64 (t1144.length:Int)),(16,iV .i64 0)] [4,14,15,16] [] [0] [((t1144.map Z0).length:Int)=(t1144.length:Int)] ⟨by rw[Zi],trivial⟩ ?_
 refine AWp.block ?_
 obtain⟨o1193,e1194,H⟩:=Z3 H
 refine AWp.loop (LWp.conv (inv:=[(0,7)]) (vk:=[]) (e0:=[6]) (t:=⟨[(4,.own 6),(14,.own 7),(15,iV .i64 (t1144.length:Int)),(16,iV .i64 0)],[(6,some (.row 2 87 ([].map Z0))),(7,some (.row 2 87 (t1144.map Z0)))],0⟩) (by kernel_rfl) ?_)
 refine LWp.mono (Q:=fun e s=>(match (generalizing:=false) o1193 with | .inl rr=>e = .ret∧s.floor=0∧Z1x Tryz.prog Tryz.f90 s=some (.tup [.own 0,iV .i64 rr.2])∧([(0,s.obj 0)]:List (Nat×Option MObj))=[(0,some (.row 2 87 (rr.1.map Z0)))] | .inr x1192=>e = .exit 0∧s=⟨[(4,.own 19)],[(19,some (.row 2 87 (x1192.map Z0)))],0⟩)) (LWp.cv (Zn (fun body hbody => ?_))) ?_
 ·refine         Z0u.l0.partial_correctness t1144 (motive:=fun x1157 x1158 o1193=>LWp Γ body (fun e s=>∃ t,Cv Γ s t∧(match (generalizing:=false) o1193 with | .inl rr=>e = .ret∧t.floor=0∧Z1x   Tryz.prog Tryz.f90 t=some (.tup [.own 0,iV .i64 rr.2])∧([(0,t.obj 0)]:List (Nat×Option MObj))=[(0,some (.row 2 87 (rr.1.map Z0     )))] | .inr x1192=>e = .exit 0∧t=⟨[(4,.own 19)],[(19,some (.row 2 87 (x1192.map Z0     )))],0⟩)) ⟨[(4,.own 6),(14,.own 7),(15,iV .i64 (t1144.length:Int)),(16,iV .i64 x1158)],[(6,some (.row 2 87 (x1157.map Z0     ))),(7,some (.row 2 87 (t1144.map Z0     )))],0⟩) ?_ _ _ _ e1194
  clear H e1194 o1193;intro self ih x1157 x1158 o1193 H
  subst hbody
  refine LWp.round ?_
  refine sO hP hn hm [] [(17,bV (decide (x1158<(t1144.length:Int))))] [4,14,15,16,17] [] [6,7] ?_
  refine AWp.seq ?_
  refine AWp.cond (decide (x1158<(t1144.length:Int))) (by kernel_rfl) (fun c1159 => ?_) (fun c1159 => ?_)
  ·replace H:=iT c1159 H
   refine AWp.skip ?_
   refine AWp.seq ?_
   refine AWp.block ?_
   obtain⟨b1163,p1164,q1165,H⟩:=Z03 H
   refine sR hP hn hm [(1,.c (Z0 b1163)),(2,.k 8)] [(6,.ptr 8 0 0)] [4,6,14,15,16] [(8,some (.box 87 (Z2b b1163)))] [6,7,8] [_,_,_] ⟨p1164,Z1u Z0 p1164 q1165,Zf Z0 q1165,trivial⟩ ?_
   refine sR hP hn hm [(1,.any (iV .i64 (x1157.length:Int)))] [(7,iV .i64 (x1157.length:Int))] [4,6,7,14,15,16] [] [6,7,8] [((x1157.map Z0).length:Int)=(x1157.length:Int)] ⟨by rw[Zi],trivial⟩ ?_
   refine AWp.block ?_
   refine sO hP hn hm [] [(26,bV (b1163.f1==(0:Int)))] [4,6,7,14,15,16,26] [] [6,7,8] ?_
   obtain⟨o1195,e1196,H⟩:=Z3 H
   refine AWp.mono (Q:=fun e s=>(match (generalizing:=false) o1195 with | .inl rr=>e = .ret∧s.floor=0∧Z1x Tryz.prog Tryz.f90 s=some (.tup [.own 0,iV .i64 rr.2])∧([(0,s.obj 0)]:List (Nat×Option MObj))=[(0,some (.row 2 87 (rr.1.map Z0)))] | .inr x1191=>e = .normal∧s=⟨[(4,.own 17),(14,.own 18),(15,iV .i64 (t1144.length:Int)),(16,iV .i64 x1158)],[(17,some (.row 2 87 (x1191.map Z0))),(18,some (.row 2 87 (t1144.map Z0)))],0⟩)) (AWp.cv ?_) ?_
   ·replace H:=e1196;clear e1196
    refine AWp.cond (b1163.f1==(0:Int)) (by kernel_rfl) (fun c1166 => ?_) (fun c1166 => ?_)
    ·replace H:=iT c1166 H
     refine AWp.skip ?_
     obtain rfl:=sj H
     exact lf [(6,17),(7,18)] [] [] (by kernel_rfl) ⟨rfl,rfl⟩
    ·replace H:=iF c1166 H
     refine AWp.seq ?_
     obtain⟨o1197,e1198,H⟩:=Z3 H
     refine AWp.mono (Q:=fun e s=>(match (generalizing:=false) o1197 with | x1175=>e = .normal∧s=⟨[(4,.own 9),(6,.ptr 10 0 0),(7,iV .i64 (x1157.length:Int)),(14,.own 11),(15,iV .i64 (t1144.length:Int)),(16,iV .i64 x1158),(30,bV x1175)],[(9,some (.row 2 87 (x1157.map Z0))),(10,some (.box 87 (Z2b b1163))),(11,some (.row 2 87 (t1144.map Z0)))],0⟩)) (AWp.cv ?_) ?_
     ·replace H:=e1198;clear e1198
      rcases Bool.eq_false_or_eq_true (decide ((x1157.length:Int)>(0:Int))) with c1171 | c1171
      ·replace H:=iT c1171 H
       obtain⟨b1172,p1173,q1174,H⟩:=Z03 H
       refine rG hP hn hm [(2,.b true),(8,.c (Z0 b1172))] [(30,bV (b1172.f0==b1163.f0)),(34,.own 6),(35,iV .i64 (x1157.length:Int)),(36,iV .i64 (i64.wrap ((x1157.length:Int)-(1:Int)))),(37,.ptr 6 (Int.toNat (i64.wrap ((x1157.length:Int)-(1:Int)))) 0),(38,.ptr 6 (Int.toNat (i64.wrap ((x1157.length:Int)-(1:Int)))) 0),(39,iV .i64 b1172.f0),(40,.ptr 8 0 0),(41,iV .i64 b1163.f0),(42,bV (b1172.f0==b1163.f0))] [4,6,7,14,15,16,30,34,35,36,37,38,39,40,41,42] [] [6,7,8] [_,_,_,_] ⟨c1171,p1173,Z1u Z0 p1173 q1174,Zf Z0 q1174,trivial⟩ ?_
       obtain rfl:=sj H
       exact lf [(6,9),(8,10),(7,11)] [] [] (by kernel_rfl) ⟨rfl,rfl⟩
      ·replace H:=iF c1171 H
       refine rG hP hn hm [(2,.b false)] [(30,bV false)] [4,6,7,14,15,16,30] [] [6,7,8] [_] ⟨c1171,trivial⟩ ?_
       obtain rfl:=sj H
       exact lf [(6,9),(8,10),(7,11)] [] [] (by kernel_rfl) ⟨rfl,rfl⟩
     ·obtain⟨x1175,rfl⟩:∃ z,z=o1197:=⟨_,rfl⟩
      rintro e s ⟨rfl,rfl⟩
      obtain⟨o1199,e1200,H⟩:=Z3 H
      refine AWp.mono (Q:=fun e s=>(match (generalizing:=false) o1199 with | .inl rr=>e = .ret∧s.floor=0∧Z1x Tryz.prog Tryz.f90 s=some (.tup [.own 0,iV .i64 rr.2])∧([(0,s.obj 0)]:List (Nat×Option MObj))=[(0,some (.row 2 87 (rr.1.map Z0)))] | .inr x1190=>e = .normal∧s=⟨[(4,.own 15),(14,.own 16),(15,iV .i64 (t1144.length:Int)),(16,iV .i64 x1158)],[(15,some (.row 2 87 (x1190.map Z0))),(16,some (.row 2 87 (t1144.map Z0)))],0⟩)) (AWp.cv ?_) ?_
      ·replace H:=e1200;clear e1200
       refine AWp.cond x1175 (by kernel_rfl) (fun c1176 => ?_) (fun c1176 => ?_)
       ·replace H:=iT c1176 H
        obtain⟨b1182,p1183,q1184,H⟩:=Z03 H
        obtain⟨t1185,e1186,H⟩:=Z3 H
        refine sR hP hn hm [(5,.c (Z0 b1182)),(8,.app 12 ([b1182.f1,b1163.f1].map (Z1 .u64))),(9,.call [] [] [12] [] 0 (.tup [iV .u64 t1185.1,iV .i64 t1185.2]) [])] [(8,iV .u64 t1185.1),(9,iV .i64 t1185.2)] [4,7,8,9,14,15,16] [] [9,11] [_,_,_,[b1182.f1,b1163.f1].map (Z1 .u64)=[[iI .u64 b1182.f1],[iI .u64 b1163.f1]],_,_] ⟨p1183,Z1u Z0 p1183 q1184,Zf Z0 q1184,by exact rfl,Tryz.call89,Z1z.ok [b1182.f1,b1163.f1] t1185 e1186,trivial⟩ ?_
        refine AWp.seq ?_
        refine sO hP hn hm [] [(58,bV (t1185.2 != (0:Int)))] [4,7,8,9,14,15,16,58] [] [9,11] ?_
        refine AWp.cond (t1185.2 != (0:Int)) (by kernel_rfl) (fun c1187 => ?_) (fun c1187 => ?_)
        ·replace H:=iT c1187 H
         refine sO hP hn hm [] [(2,.none0),(3,iV .i64 t1185.2)] [2,3] [] [] ?_
         refine AWp.conv (inv:=[]) (vk:=[]) (e0:=[0]) (t:=⟨[(2,.own 0),(3,iV .i64 t1185.2)],[(0,some (.row 2 87 ([].map Z0)))],0⟩) (by kernel_rfl) ?_
         refine AWp.ret ?_
         obtain rfl:=sj H
         exact rl rfl rfl (by kernel_rfl) (by kernel_rfl)
        ·replace H:=iF c1187 H
         refine AWp.skip ?_
         refine rG hP hn hm [(6,.put (Z0 b1182) ((x1157.set (Int.toNat (i64.wrap ((x1157.length:Int)-(1:Int)))) (⟨b1182.f0,t1185.1⟩:Z2)).map Z0))] [] [4,14,15,16] [(9,some (.row 2 87 ((x1157.set (Int.toNat (i64.wrap ((x1157.length:Int)-(1:Int)))) (⟨b1182.f0,t1185.1⟩:Z2)).map Z0)))] [9,11] [_,_,_,(x1157.set (Int.toNat (i64.wrap ((x1157.length:Int)-(1:Int)))) (⟨b1182.f0,t1185.1⟩:Z2)).map Z0=(x1157.map Z0).set (Int.toNat (i64.wrap ((x1157.length:Int)-(1:Int)))) (Z1w (Z0 b1182) 1 [iI .u64 t1185.1])] ⟨p1183,Z1u Z0 p1183 q1184,Zf Z0 q1184,by exact set1 _ _ _ _,trivial⟩ ?_
         obtain rfl:=sj H
         exact lf [(9,15),(11,16)] [] [] (by kernel_rfl) ⟨rfl,rfl⟩
       ·replace H:=iF c1176 H
        obtain⟨c1189,H⟩:=Z0q H
        refine rG hP hn hm [(2,.app 13 ([b1163].map Z0)),(3,.app 14 ((x1157++[b1163]).map Z0))] [(4,.own 14)] [4,14,15,16] [(14,some (.row 2 87 ((x1157++[b1163]).map Z0)))] [11,14] [[b1163].map Z0=[[iI .i64 b1163.f0,iI .u64 b1163.f1]],(x1157++[b1163]).map Z0=(x1157.map Z0)++([b1163].map Z0),∀ c∈([b1163].map Z0),c.length=2,∀ c∈([b1163].map Z0),Z0m (c.map .im)=true,((x1157.map Z0).length+([b1163].map Z0).length)*16≤140737488355328] ⟨by exact rfl,by simp,by exact Z0k _ _ _ (fun _=>rfl),by exact Z0j _ _ (fun _=>rfl),by simpa using c1189,trivial⟩ ?_
        obtain rfl:=sj H
        exact lf [(14,15),(11,16)] [] [] (by kernel_rfl) ⟨rfl,rfl⟩
      ·rcases o1199 with rr | x1190
       ·skip
        rintro e s ⟨rfl,hfl,hres⟩
        obtain rfl:=sj H
        exact Exists.intro _ (And.intro (fun _ _ h=>h) (And.intro rfl (And.intro hfl hres)))
       ·skip
        rintro e s ⟨rfl,rfl⟩
        obtain rfl:=sj H
        exact lf [(15,17),(16,18)] [] [] (by kernel_rfl) ⟨rfl,rfl⟩
   ·rcases o1195 with rr | x1191
    ·skip
     rintro e s ⟨rfl,hfl,hres⟩
     obtain rfl:=sj H
     exact Exists.intro _ (And.intro (fun _ _ h=>h) (And.intro rfl (And.intro hfl hres)))
    ·skip
     rintro e s ⟨rfl,rfl⟩
     refine rO hP hn hm [] [(16,iV .i64 (i64.wrap (x1158+(1:Int))))] [4,14,15,16] [] [17,18] ?_
     exact LWp.conv [(17,6),(18,7)] [] [] (by kernel_rfl) (ih _ _ _ H)
  ·replace H:=iF c1159 H
   refine AWp.exit ?_
   obtain rfl:=sj H
   exact lf [(6,19)] [] [] (by kernel_rfl) ⟨rfl,rfl⟩
 ·rcases o1193 with rr | x1192
  ·skip
   rintro e s ⟨rfl,hfl,hres⟩
   obtain rfl:=sj H
   exact Exists.intro _ (And.intro (fun _ _ h=>h) (And.intro (.inl rfl) (And.intro hfl hres)))
  ·skip
   rintro e s ⟨rfl,rfl⟩
   refine sO hP hn hm [] [(2,.own 19),(3,iV .i64 0)] [2,3] [] [19] ?_
   refine AWp.conv (inv:=[(19,0)]) (vk:=[]) (e0:=[]) (t:=⟨[(2,.own 0),(3,iV .i64 0)],[(0,some (.row 2 87 (x1192.map Z0)))],0⟩) (by kernel_rfl) ?_
   refine AWp.ret ?_
   obtain rfl:=sj H
   exact rl (.inl rfl) rfl (by kernel_rfl) (by kernel_rfl)
def Z2n.f (a0:Ze) (a1:List Z2) (a2:List Z2):Option (Ze×Int):=(Z0u.f a1)>>=fun t1203=>(Z0u.f a2)>>=fun t1207=>if((if t1207.2>t1203.2 then t1207.2 else t1203.2) != (0:Int))=true then(some ((⟨0,0,0,0,0,0,[],[]⟩:Ze),(if t1207.2>t1203.2 then t1207.2 else t1203.2))) else((Z0c.f [t1203.1,t1207.1,[(⟨0,a0.f3⟩:Z2)]])>>=fun t1214=>if(t1214.2 != (0:Int))=true then(some ((⟨0,0,0,0,0,0,[],[]⟩:Ze),t1214.2)) else((Z0l.f (⟨a0.f0,a0.f1,a0.f2,a0.f3,t1214.1,a0.f5,t1203.1,t1207.1⟩:Ze))>>=fun t1219=>if(t1219 != (0:Int))=true then(some ((⟨0,0,0,0,0,0,[],[]⟩:Ze),t1219)) else(some ((⟨a0.f0,a0.f1,a0.f2,a0.f3,t1214.1,a0.f5,t1203.1,t1207.1⟩:Ze),0))))
theorem Z2n.ok (a0:Ze) (a1:List Z2) (a2:List Z2) (r:Ze×Int) (H:Z2n.f a0 a1 a2=some r):Pv.Fn Tryz.prog 72 [.agg (Zh a0),.im (.row (a1.map Z0)),.im (.row (a2.map Z0))] [] 0 (fun x o=>x = .tup [.agg (Zh (r.1)),iV .i64 r.2]∧o=[]):=by
 unfold Z2n.f at H
 refine Fn.bodyK [] Tryz.func72 rfl rfl (fun Γ hP hn => ?_)
 have hm:Tryz.prog.follows .mixedOrders=true:=by kernel_rfl
 replace hn:Γ.n=55:=hn
 refine sO hP hn hm [(0,.k 0),(1,.k 1)] [(3,.ptr 0 0 0),(6,.ptr 1 0 0)] [1,2,3,6] [(0,some (.box 39 (Zh a0))),(1,some (.box 39 [iV .i64 0,iV .i64 0,iV .i64 0,iV .u64 0,iV .u64 0,iV .i64 0,.none0,.none0]))] [0,1] ?_
 refine sO hP hn hm [] [] [1,2,3,6] [] [0,1] ?_
 obtain⟨t1203,e1204,H⟩:=Z3 H
 refine sR hP hn hm [(1,.call [] [(0,2)] [] [2] 0 (.tup [.own 0,iV .i64 t1203.2]) [(0,some (.row 2 87 (t1203.1.map Z0)))])] [(8,iV .i64 t1203.2)] [2,3,6,8] [(0,some (.box 39 [iV .i64 a0.f0,iV .i64 a0.f1,iV .i64 a0.f2,iV .u64 a0.f3,iV .u64 a0.f4,iV .i64 a0.f5,.own 2,.im (.row (a0.f7.map Z0))])),(2,some (.row 2 87 (t1203.1.map Z0)))] [0,1,2] [_,_] ⟨Tryz.call90,Z0u.ok a1 t1203 e1204,trivial⟩ ?_
 obtain⟨t1207,e1208,H⟩:=Z3 H
 refine sR hP hn hm [(1,.call [] [(0,3)] [] [3] 0 (.tup [.own 0,iV .i64 t1207.2]) [(0,some (.row 2 87 (t1207.1.map Z0)))])] [(9,iV .i64 t1207.2)] [3,6,8,9] [(0,some (.box 39 [iV .i64 a0.f0,iV .i64 a0.f1,iV .i64 a0.f2,iV .u64 a0.f3,iV .u64 a0.f4,iV .i64 a0.f5,.own 2,.own 3])),(3,some (.row 2 87 (t1207.1.map Z0)))] [0,1,2,3] [_,_] ⟨Tryz.call90,Z0u.ok a2 t1207 e1208,trivial⟩ ?_
 refine AWp.seq ?_
 refine sO hP hn hm [(2,.more xMax)] [(8,iV .i64 (if t1207.2>t1203.2 then t1207.2 else t1203.2))] [3,6,8] [] [0,1,2,3] ?_
 refine sO hP hn hm [] [(27,bV ((if t1207.2>t1203.2 then t1207.2 else t1203.2) != (0:Int)))] [3,6,8,27] [] [0,1,2,3] ?_
 refine AWp.cond ((if t1207.2>t1203.2 then t1207.2 else t1203.2) != (0:Int)) (by kernel_rfl) (fun c1209 => ?_) (fun c1209 => ?_)
 ·replace H:=iT c1209 H
  refine sO hP hn hm [] [(7,iV .i64 (if t1207.2>t1203.2 then t1207.2 else t1203.2))] [6,7] [] [1] ?_
  refine AWp.conv (inv:=[(1,0)]) (vk:=[]) (e0:=[]) (t:=⟨[(6,.ptr 0 0 0),(7,iV .i64 (if t1207.2>t1203.2 then t1207.2 else t1203.2))],[(0,some (.box 39 (Zh ((⟨0,0,0,0,0,0,[],[]⟩:Ze)))))],0⟩) (by kernel_rfl) ?_
  refine AWp.ret ?_
  obtain rfl:=sj H
  exact rl (.inl rfl) rfl (by kernel_rfl) (by kernel_rfl)
 ·replace H:=iF c1209 H
  refine AWp.skip ?_
  refine AWp.seq ?_
  refine AWp.seq ?_
  refine AWp.conv (inv:=[(0,0),(1,1)]) (vk:=[2,3]) (e0:=[]) (t:=⟨[(3,.ptr 0 0 0),(6,.ptr 1 0 0),(8,iV .i64 (if t1207.2>t1203.2 then t1207.2 else t1203.2)),(27,bV ((if t1207.2>t1203.2 then t1207.2 else t1203.2) != (0:Int)))],[(0,some (.box 39 (Zh ⟨a0.f0,a0.f1,a0.f2,a0.f3,a0.f4,a0.f5,t1203.1,t1207.1⟩))),(1,some (.box 39 [iV .i64 0,iV .i64 0,iV .i64 0,iV .u64 0,iV .u64 0,iV .i64 0,.none0,.none0]))],0⟩) (by kernel_rfl) ?_
  obtain⟨t1214,e1215,H⟩:=Z3 H
  refine rG hP hn hm [(7,.more (xFz (.app 4 ([(⟨0,a0.f3⟩:Z2)].map Z0)))),(8,.app 5 ([t1203.1,t1207.1,[(⟨0,a0.f3⟩:Z2)]].map (Z0y Z0))),(9,.call [] [] [5] [] 0 (.tup [iV .u64 t1214.1,iV .i64 t1214.2]) [])] [(8,iV .i64 t1214.2)] [3,6,8] [(0,some (.box 39 (Zh ⟨a0.f0,a0.f1,a0.f2,a0.f3,t1214.1,a0.f5,t1203.1,t1207.1⟩)))] [0,1] [[(⟨0,a0.f3⟩:Z2)].map Z0=[[iI .i64 0,iI .u64 a0.f3]],[t1203.1,t1207.1,[(⟨0,a0.f3⟩:Z2)]].map (Z0y Z0)=[[.row (t1203.1.map Z0)],[.row (t1207.1.map Z0)],[.row ([(⟨0,a0.f3⟩:Z2)].map Z0)]],_,_] ⟨by exact rfl,by exact rfl,Tryz.call64,Z0c.ok [t1203.1,t1207.1,[(⟨0,a0.f3⟩:Z2)]] t1214 e1215,trivial⟩ ?_
  refine sO hP hn hm [] [(45,bV (t1214.2 != (0:Int)))] [3,6,8,45] [] [0,1] ?_
  refine AWp.cond (t1214.2 != (0:Int)) (by kernel_rfl) (fun c1216 => ?_) (fun c1216 => ?_)
  ·replace H:=iT c1216 H
   refine sO hP hn hm [] [(7,iV .i64 t1214.2)] [6,7] [] [1] ?_
   refine AWp.conv (inv:=[(1,0)]) (vk:=[]) (e0:=[]) (t:=⟨[(6,.ptr 0 0 0),(7,iV .i64 t1214.2)],[(0,some (.box 39 (Zh ((⟨0,0,0,0,0,0,[],[]⟩:Ze)))))],0⟩) (by kernel_rfl) ?_
   refine AWp.ret ?_
   obtain rfl:=sj H
   exact rl (.inl rfl) rfl (by kernel_rfl) (by kernel_rfl)
  ·replace H:=iF c1216 H
   refine AWp.skip ?_
   refine AWp.seq ?_
   obtain⟨t1219,e1220,H⟩:=Z3 H
   refine sR hP hn hm [(1,.call [] [] [] [] 0 (iV .i64 t1219) [])] [(10,iV .i64 t1219)] [3,6,10] [] [0,1] [_,_] ⟨Tryz.call27,Z0l.ok (⟨a0.f0,a0.f1,a0.f2,a0.f3,t1214.1,a0.f5,t1203.1,t1207.1⟩:Ze) t1219 e1220,trivial⟩ ?_
   refine sO hP hn hm [] [(51,bV (t1219 != (0:Int)))] [3,6,10,51] [] [0,1] ?_
   refine AWp.cond (t1219 != (0:Int)) (by kernel_rfl) (fun c1221 => ?_) (fun c1221 => ?_)
   ·replace H:=iT c1221 H
    refine sO hP hn hm [] [(7,iV .i64 t1219)] [6,7] [] [1] ?_
    refine AWp.conv (inv:=[(1,0)]) (vk:=[]) (e0:=[]) (t:=⟨[(6,.ptr 0 0 0),(7,iV .i64 t1219)],[(0,some (.box 39 (Zh ((⟨0,0,0,0,0,0,[],[]⟩:Ze)))))],0⟩) (by kernel_rfl) ?_
    refine AWp.ret ?_
    obtain rfl:=sj H
    exact rl (.inl rfl) rfl (by kernel_rfl) (by kernel_rfl)
   ·replace H:=iF c1221 H
    refine AWp.skip ?_
    refine sO hP hn hm [] [(7,iV .i64 0)] [6,7] [(1,some (.box 39 (Zh ⟨a0.f0,a0.f1,a0.f2,a0.f3,t1214.1,a0.f5,t1203.1,t1207.1⟩)))] [1] ?_
    refine AWp.conv (inv:=[(1,0)]) (vk:=[]) (e0:=[]) (t:=⟨[(6,.ptr 0 0 0),(7,iV .i64 0)],[(0,some (.box 39 (Zh ((⟨a0.f0,a0.f1,a0.f2,a0.f3,t1214.1,a0.f5,t1203.1,t1207.1⟩:Ze)))))],0⟩) (by kernel_rfl) ?_
    refine AWp.ret ?_
    obtain rfl:=sj H
    exact rl (.inl rfl) rfl (by kernel_rfl) (by kernel_rfl)
def Z28.f (a0:Ze) (a1:List Z2) (a2:List Z2) (a3:Int):Option (Ze×Int):=(Z1i.f a0 a1 a3)>>=fun t458=>(Z1i.f a0 a2 a3)>>=fun t460=>(Zt.f a1 a0.f0 a0.f1 a0.f2 a0.f3 a0.f4 a0.f5 a0.f6 a0.f7 (if t460>t458 then t460 else t458))>>=fun t515=>(Zt.f a2 a0.f0 a0.f1 a0.f2 t515.2 a0.f4 a0.f5 a0.f6 a0.f7 (if t460>t458 then t460 else t458))>>=fun t517=>(Z2n.f (⟨a0.f0,a0.f1,(if t460>t458 then t460 else t458),t517.2,a0.f4,a0.f5,a0.f6,a0.f7⟩:Ze) t515.1 t517.1)>>=fun t1226=>some ((t1226.1),t1226.2)
theorem Z28.ok (a0:Ze) (a1:List Z2) (a2:List Z2) (a3:Int) (r:Ze×Int) (H:Z28.f a0 a1 a2 a3=some r):Pv.Fn Tryz.prog 116 [.agg (Zh a0),.im (.row (a1.map Z0)),.im (.row (a2.map Z0)),iV .i64 a3] [] 0 (fun x o=>x = .tup [.agg (Zh (r.1)),iV .i64 r.2]∧o=[]):=by
 unfold Z28.f at H
 refine Fn.bodyK [] Tryz.func116 rfl rfl (fun Γ hP hn => ?_)
 have hm:Tryz.prog.follows .mixedOrders=true:=by kernel_rfl
 replace hn:Γ.n=35:=hn
 refine sO hP hn hm [(0,.k 0),(1,.k 1),(2,.k 2)] [(4,.ptr 0 0 0),(7,.ptr 1 0 0),(8,.ptr 2 0 0)] [1,2,4,7,8] [(0,some (.box 39 (Zh a0))),(1,some (.box 3 [iV .i64 a3])),(2,some (.box 39 [iV .i64 0,iV .i64 0,iV .i64 0,iV .u64 0,iV .u64 0,iV .i64 0,.none0,.none0]))] [0,1,2] ?_
 obtain⟨t458,e459,H⟩:=Z3 H
 obtain⟨t460,e461,H⟩:=Z3 H
 refine sR hP hn hm [(3,.call [] [] [] [] 0 (iV .i64 t458) []),(7,.call [] [] [] [] 0 (iV .i64 t460) []),(8,.more xMax)] [] [1,2,4,7,8] [(1,some (.box 3 [iV .i64 (if t460>t458 then t460 else t458)]))] [0,1,2] [_,_,_,_] ⟨Tryz.call122,Z1i.ok a0 a1 a3 t458 e459,Tryz.call122,Z1i.ok a0 a2 a3 t460 e461,trivial⟩ ?_
 refine sO hP hn hm [(0,.more xFunc)] [(10,.fn 123 [.ptr 0 0 0,.ptr 1 0 0])] [1,2,4,7,8,10] [] [0,1,2] ?_
 obtain⟨t515,e516,H⟩:=Z3 H
 obtain⟨t517,e518,H⟩:=Z3 H
 refine sR hP hn hm [(2,.call [(0,0),(1,1)] [(0,0),(1,1),(2,3)] [] [3] 2 (.own 2) [(0,some (.box 39 (Zh ⟨a0.f0,a0.f1,a0.f2,t515.2,a0.f4,a0.f5,a0.f6,a0.f7⟩))),(1,some (.box 3 [iV .i64 (if t460>t458 then t460 else t458)])),(2,some (.row 2 87 (t515.1.map Z0)))]),(5,.call [(0,0),(1,1)] [(0,0),(1,1),(2,4)] [] [4] 2 (.own 2) [(0,some (.box 39 (Zh ⟨a0.f0,a0.f1,a0.f2,t517.2,a0.f4,a0.f5,a0.f6,a0.f7⟩))),(1,some (.box 3 [iV .i64 (if t460>t458 then t460 else t458)])),(2,some (.row 2 87 (t517.1.map Z0)))])] [(1,.own 3),(2,.own 4)] [1,2,4,7,8] [(0,some (.box 39 (Zh ⟨a0.f0,a0.f1,a0.f2,t517.2,a0.f4,a0.f5,a0.f6,a0.f7⟩))),(3,some (.row 2 87 (t515.1.map Z0))),(4,some (.row 2 87 (t517.1.map Z0)))] [0,1,2,3,4] [_,_,_,_] ⟨Tryz.call123,Zt.ok a1 a0.f0 a0.f1 a0.f2 a0.f3 a0.f4 a0.f5 a0.f6 a0.f7 (if t460>t458 then t460 else t458) t515 e516,Tryz.call123,Zt.ok a2 a0.f0 a0.f1 a0.f2 t515.2 a0.f4 a0.f5 a0.f6 a0.f7 (if t460>t458 then t460 else t458) t517 e518,trivial⟩ ?_
 refine sO hP hn hm [] [] [1,2,4,8] [(0,some (.box 39 (Zh ⟨a0.f0,a0.f1,(if t460>t458 then t460 else t458),t517.2,a0.f4,a0.f5,a0.f6,a0.f7⟩)))] [0,2,3,4] ?_
 refine AWp.seq ?_
 refine AWp.conv (inv:=[(2,2),(0,0)]) (vk:=[3,4]) (e0:=[]) (t:=⟨[(1,.im (.row (t515.1.map Z0))),(2,.im (.row (t517.1.map Z0))),(4,.ptr 0 0 0),(8,.ptr 2 0 0)],[(0,some (.box 39 (Zh ⟨a0.f0,a0.f1,(if t460>t458 then t460 else t458),t517.2,a0.f4,a0.f5,a0.f6,a0.f7⟩))),(2,some (.box 39 [iV .i64 0,iV .i64 0,iV .i64 0,iV .u64 0,iV .u64 0,iV .i64 0,.none0,.none0]))],0⟩) (by kernel_rfl) ?_
 obtain⟨t1226,e1227,H⟩:=Z3 H
 refine rG hP hn hm [(3,.call [] [] [] [] 0 (.tup [.agg (Zh (t1226.1)),iV .i64 t1226.2]) [])] [(9,iV .i64 t1226.2)] [8,9] [(2,some (.box 39 (Zh (t1226.1))))] [2] [_,_] ⟨Tryz.call72,Z2n.ok (⟨a0.f0,a0.f1,(if t460>t458 then t460 else t458),t517.2,a0.f4,a0.f5,a0.f6,a0.f7⟩:Ze) t515.1 t517.1 t1226 e1227,trivial⟩ ?_
 refine AWp.conv (inv:=[(2,0)]) (vk:=[]) (e0:=[]) (t:=⟨[(8,.ptr 0 0 0),(9,iV .i64 t1226.2)],[(0,some (.box 39 (Zh ((t1226.1)))))],0⟩) (by kernel_rfl) ?_
 refine AWp.ret ?_
 obtain rfl:=sj H
 exact rl (.inl rfl) rfl (by kernel_rfl) (by kernel_rfl)
def Z1p.f (a0:Ze) (a1:Int):Option (Ze×Int):=(((Zu.f a1)>>=fun t332=>if(!t332)=true then(some true) else(some (decide (a1>a0.f1)))):Option (Bool))>>=fun x335=>if x335=true then(some ((⟨0,0,0,0,0,0,[],[]⟩:Ze),20)) else((Z1j.f a0.f6 a0.f1 a1)>>=fun t399=>(Z1j.f a0.f7 a0.f1 a1)>>=fun t401=>(Z28.f (⟨a0.f0,a1,a0.f2,a0.f3,a0.f4,a0.f5,a0.f6,a0.f7⟩:Ze) t399 t401 a0.f2)>>=fun t1232=>some ((t1232.1),t1232.2))
theorem Z1p.ok (a0:Ze) (a1:Int) (r:Ze×Int) (H:Z1p.f a0 a1=some r):Pv.Fn Tryz.prog 109 [.agg (Zh a0),iV .i64 a1] [] 0 (fun x o=>x = .tup [.agg (Zh (r.1)),iV .i64 r.2]∧o=[]):=by
 unfold Z1p.f at H
 refine Fn.bodyK [] Tryz.func109 rfl rfl (fun Γ hP hn => ?_)
 have hm:Tryz.prog.follows .mixedOrders=true:=by kernel_rfl
 replace hn:Γ.n=41:=hn
 refine sO hP hn hm [(0,.k 0),(1,.k 1)] [(2,.ptr 0 0 0),(4,.ptr 1 0 0)] [1,2,4] [(0,some (.box 39 (Zh a0))),(1,some (.box 39 [iV .i64 0,iV .i64 0,iV .i64 0,iV .u64 0,iV .u64 0,iV .i64 0,.none0,.none0]))] [0,1] ?_
 refine AWp.seq ?_
 refine AWp.seq ?_
 obtain⟨o1234,e1235,H⟩:=Z3 H
 refine AWp.mono (Q:=fun e s=>(match (generalizing:=false) o1234 with | x335=>e = .normal∧s=⟨[(1,iV .i64 a1),(2,.ptr 2 0 0),(4,.ptr 3 0 0),(17,bV x335)],[(2,some (.box 39 (Zh a0))),(3,some (.box 39 [iV .i64 0,iV .i64 0,iV .i64 0,iV .u64 0,iV .u64 0,iV .i64 0,.none0,.none0]))],0⟩)) (AWp.cv ?_) ?_
 ·replace H:=e1235;clear e1235
  obtain⟨t332,e333,H⟩:=Z3 H
  rcases Bool.eq_false_or_eq_true (!t332) with c334 | c334
  ·replace H:=iT c334 H
   refine rG hP hn hm [(1,.call [] [] [] [] 0 (bV t332) []),(3,.b true)] [(17,bV true)] [1,2,4,17] [] [0,1] [_,_,_] ⟨Tryz.call62,Zu.ok a1 t332 e333,c334,trivial⟩ ?_
   obtain rfl:=sj H
   exact lf [(0,2),(1,3)] [] [] (by kernel_rfl) ⟨rfl,rfl⟩
  ·replace H:=iF c334 H
   refine rG hP hn hm [(1,.call [] [] [] [] 0 (bV t332) []),(3,.b false)] [(17,bV (decide (a1>a0.f1)))] [1,2,4,17] [] [0,1] [_,_,_] ⟨Tryz.call62,Zu.ok a1 t332 e333,c334,trivial⟩ ?_
   obtain rfl:=sj H
   exact lf [(0,2),(1,3)] [] [] (by kernel_rfl) ⟨rfl,rfl⟩
 ·obtain⟨x335,rfl⟩:∃ z,z=o1234:=⟨_,rfl⟩
  rintro e s ⟨rfl,rfl⟩
  refine AWp.cond x335 (by kernel_rfl) (fun c336 => ?_) (fun c336 => ?_)
  ·replace H:=iT c336 H
   refine sO hP hn hm [] [(5,iV .i64 20)] [4,5] [] [3] ?_
   refine AWp.conv (inv:=[(3,0)]) (vk:=[]) (e0:=[]) (t:=⟨[(4,.ptr 0 0 0),(5,iV .i64 20)],[(0,some (.box 39 (Zh ((⟨0,0,0,0,0,0,[],[]⟩:Ze)))))],0⟩) (by kernel_rfl) ?_
   refine AWp.ret ?_
   obtain rfl:=sj H
   exact rl (.inl rfl) rfl (by kernel_rfl) (by kernel_rfl)
  ·replace H:=iF c336 H
   refine AWp.skip ?_
   refine sO hP hn hm [] [(6,iV .i64 a0.f1)] [1,2,4,6] [] [2,3] ?_
   refine sO hP hn hm [] [] [1,2,4,6] [(2,some (.box 39 (Zh ⟨a0.f0,a1,a0.f2,a0.f3,a0.f4,a0.f5,a0.f6,a0.f7⟩)))] [2,3] ?_
   obtain⟨t399,e400,H⟩:=Z3 H
   obtain⟨t401,e402,H⟩:=Z3 H
   refine sR hP hn hm [(4,.call [] [(0,4)] [] [4] 0 (.own 0) [(0,some (.row 2 87 (t399.map Z0)))]),(9,.call [] [(0,5)] [] [5] 0 (.own 0) [(0,some (.row 2 87 (t401.map Z0)))])] [(7,.own 4),(8,.own 5)] [2,4,7,8] [(4,some (.row 2 87 (t399.map Z0))),(5,some (.row 2 87 (t401.map Z0)))] [2,3,4,5] [_,_,_,_] ⟨Tryz.call115,Z1j.ok a0.f6 a0.f1 a1 t399 e400,Tryz.call115,Z1j.ok a0.f7 a0.f1 a1 t401 e402,trivial⟩ ?_
   refine AWp.seq ?_
   refine AWp.conv (inv:=[(2,2),(3,3)]) (vk:=[4,5]) (e0:=[]) (t:=⟨[(2,.ptr 2 0 0),(4,.ptr 3 0 0),(7,.im (.row (t399.map Z0))),(8,.im (.row (t401.map Z0)))],[(2,some (.box 39 (Zh ⟨a0.f0,a1,a0.f2,a0.f3,a0.f4,a0.f5,a0.f6,a0.f7⟩))),(3,some (.box 39 [iV .i64 0,iV .i64 0,iV .i64 0,iV .u64 0,iV .u64 0,iV .i64 0,.none0,.none0]))],0⟩) (by kernel_rfl) ?_
   obtain⟨t1232,e1233,H⟩:=Z3 H
   refine rG hP hn hm [(5,.call [] [] [] [] 0 (.tup [.agg (Zh (t1232.1)),iV .i64 t1232.2]) [])] [(5,iV .i64 t1232.2)] [4,5] [(3,some (.box 39 (Zh (t1232.1))))] [3] [_,_] ⟨Tryz.call116,Z28.ok (⟨a0.f0,a1,a0.f2,a0.f3,a0.f4,a0.f5,a0.f6,a0.f7⟩:Ze) t399 t401 a0.f2 t1232 e1233,trivial⟩ ?_
   refine AWp.conv (inv:=[(3,0)]) (vk:=[]) (e0:=[]) (t:=⟨[(4,.ptr 0 0 0),(5,iV .i64 t1232.2)],[(0,some (.box 39 (Zh ((t1232.1)))))],0⟩) (by kernel_rfl) ?_
   refine AWp.ret ?_
   obtain rfl:=sj H
   exact rl (.inl rfl) rfl (by kernel_rfl) (by kernel_rfl)
def Z38.f (a0:Ze):Option (Ze):=(Zx.f a0.f6)>>=fun t1252=>(Zx.f a0.f7)>>=fun t1254=>some (⟨a0.f0,a0.f1,a0.f2,a0.f3,a0.f4,a0.f5,t1252,t1254⟩:Ze)
theorem Z38.ok (a0:Ze) (r:Ze) (H:Z38.f a0=some r):Pv.Fn Tryz.prog 117 [.agg (Zh a0)] [] 0 (fun x o=>x = .agg [iV .i64 ((r).f0),iV .i64 ((r).f1),iV .i64 ((r).f2),iV .u64 ((r).f3),iV .u64 ((r).f4),iV .i64 ((r).f5),.own 0,.own 1]∧o=[(0,some (.row 2 87 (((r).f6).map Z0))),(1,some (.row 2 87 (((r).f7).map Z0)))]):=by
 unfold Z38.f at H
 refine Fn.bodyK [0,1] Tryz.func117 rfl rfl (fun Γ hP hn => ?_)
 have hm:Tryz.prog.follows .mixedOrders=true:=by kernel_rfl
 replace hn:Γ.n=12:=hn
 refine sO hP hn hm [(0,.k 0),(1,.k 1)] [(1,.ptr 0 0 0),(2,.ptr 1 0 0)] [1,2] [(0,some (.box 39 (Zh a0))),(1,some (.box 39 [iV .i64 0,iV .i64 0,iV .i64 0,iV .u64 0,iV .u64 0,iV .i64 0,.none0,.none0]))] [0,1] ?_
 obtain⟨t1252,e1253,H⟩:=Z3 H
 obtain⟨t1254,e1255,H⟩:=Z3 H
 refine sR hP hn hm [(2,.call [] [(0,2)] [] [2] 0 (.own 0) [(0,some (.row 2 87 (t1252.map Z0)))]),(5,.call [] [(0,3)] [] [3] 0 (.own 0) [(0,some (.row 2 87 (t1254.map Z0)))])] [] [1,2] [(0,some (.box 39 [iV .i64 a0.f0,iV .i64 a0.f1,iV .i64 a0.f2,iV .u64 a0.f3,iV .u64 a0.f4,iV .i64 a0.f5,.own 2,.own 3])),(2,some (.row 2 87 (t1252.map Z0))),(3,some (.row 2 87 (t1254.map Z0)))] [0,1,2,3] [_,_,_,_] ⟨Tryz.call103,Zx.ok a0.f6 t1252 e1253,Tryz.call103,Zx.ok a0.f7 t1254 e1255,trivial⟩ ?_
 refine sO hP hn hm [] [] [2] [(1,some (.box 39 [iV .i64 a0.f0,iV .i64 a0.f1,iV .i64 a0.f2,iV .u64 a0.f3,iV .u64 a0.f4,iV .i64 a0.f5,.own 2,.own 3]))] [1,2,3] ?_
 refine AWp.conv (inv:=[(1,2),(2,0),(3,1)]) (vk:=[]) (e0:=[]) (t:=⟨[(2,.ptr 2 0 0)],[(0,some (.row 2 87 ((((⟨a0.f0,a0.f1,a0.f2,a0.f3,a0.f4,a0.f5,t1252,t1254⟩:Ze)).f6).map Z0))),(1,some (.row 2 87 ((((⟨a0.f0,a0.f1,a0.f2,a0.f3,a0.f4,a0.f5,t1252,t1254⟩:Ze)).f7).map Z0))),(2,some (.box 39 [iV .i64 (((⟨a0.f0,a0.f1,a0.f2,a0.f3,a0.f4,a0.f5,t1252,t1254⟩:Ze)).f0),iV .i64 (((⟨a0.f0,a0.f1,a0.f2,a0.f3,a0.f4,a0.f5,t1252,t1254⟩:Ze)).f1),iV .i64 (((⟨a0.f0,a0.f1,a0.f2,a0.f3,a0.f4,a0.f5,t1252,t1254⟩:Ze)).f2),iV .u64 (((⟨a0.f0,a0.f1,a0.f2,a0.f3,a0.f4,a0.f5,t1252,t1254⟩:Ze)).f3),iV .u64 (((⟨a0.f0,a0.f1,a0.f2,a0.f3,a0.f4,a0.f5,t1252,t1254⟩:Ze)).f4),iV .i64 (((⟨a0.f0,a0.f1,a0.f2,a0.f3,a0.f4,a0.f5,t1252,t1254⟩:Ze)).f5),.own 0,.own 1]))],0⟩) (by kernel_rfl) ?_
 refine AWp.ret ?_
 obtain rfl:=sj H
 exact rl (.inl rfl) rfl (by kernel_rfl) (by kernel_rfl)
def Z0x.f (a0:Ze) (a1:Int):Option (Ze×Int):=if(decide (a1<a0.f2))=true then(some ((⟨0,0,0,0,0,0,[],[]⟩:Ze),31)) else(if(a1==a0.f2)=true then((Z38.f a0)>>=fun t1258=>some ((t1258),0)) else(((if(decide (a1≤(-262144)))=true then(some true) else(some (decide (a1>(262144:Int))))):Option (Bool))>>=fun x1262=>if x1262=true then(some ((⟨0,0,0,0,0,0,[],[]⟩:Ze),31)) else((Z28.f a0 a0.f6 a0.f7 a1)>>=fun t1266=>some ((t1266.1),t1266.2))))
theorem Z0x.ok (a0:Ze) (a1:Int) (r:Ze×Int) (H:Z0x.f a0 a1=some r):Pv.Fn Tryz.prog 110 [.agg (Zh a0),iV .i64 a1] [] 0 (fun x o=>x = .tup [.agg (Zh (r.1)),iV .i64 r.2]∧o=[]):=by
 unfold Z0x.f at H
 refine Fn.bodyK [] Tryz.func110 rfl rfl (fun Γ hP hn => ?_)
 have hm:Tryz.prog.follows .mixedOrders=true:=by kernel_rfl
 replace hn:Γ.n=36:=hn
 refine sO hP hn hm [(0,.k 0),(1,.k 1)] [(2,.ptr 0 0 0),(4,.ptr 1 0 0)] [1,2,4] [(0,some (.box 39 (Zh a0))),(1,some (.box 39 [iV .i64 0,iV .i64 0,iV .i64 0,iV .u64 0,iV .u64 0,iV .i64 0,.none0,.none0]))] [0,1] ?_
 refine AWp.seq ?_
 refine AWp.block ?_
 refine sO hP hn hm [] [(6,bV (decide (a1<a0.f2)))] [1,2,4,6] [] [0,1] ?_
 refine AWp.cond (decide (a1<a0.f2)) (by kernel_rfl) (fun c1246 => ?_) (fun c1246 => ?_)
 ·replace H:=iT c1246 H
  refine sO hP hn hm [] [(5,iV .i64 31)] [4,5] [] [1] ?_
  refine AWp.conv (inv:=[(1,0)]) (vk:=[]) (e0:=[]) (t:=⟨[(4,.ptr 0 0 0),(5,iV .i64 31)],[(0,some (.box 39 (Zh ((⟨0,0,0,0,0,0,[],[]⟩:Ze)))))],0⟩) (by kernel_rfl) ?_
  refine AWp.ret ?_
  obtain rfl:=sj H
  exact rl (.inl rfl) rfl (by kernel_rfl) (by kernel_rfl)
 ·replace H:=iF c1246 H
  refine sO hP hn hm [] [(12,bV (a1==a0.f2))] [1,2,4,12] [] [0,1] ?_
  refine AWp.cond (a1==a0.f2) (by kernel_rfl) (fun c1247 => ?_) (fun c1247 => ?_)
  ·replace H:=iT c1247 H
   obtain⟨t1258,e1259,H⟩:=Z3 H
   refine sR hP hn hm [(1,.call [] [(0,2),(1,3)] [] [2,3] 0 (.agg [iV .i64 ((t1258).f0),iV .i64 ((t1258).f1),iV .i64 ((t1258).f2),iV .u64 ((t1258).f3),iV .u64 ((t1258).f4),iV .i64 ((t1258).f5),.own 0,.own 1]) [(0,some (.row 2 87 (((t1258).f6).map Z0))),(1,some (.row 2 87 (((t1258).f7).map Z0)))])] [(5,iV .i64 0)] [4,5] [(1,some (.box 39 [iV .i64 ((t1258).f0),iV .i64 ((t1258).f1),iV .i64 ((t1258).f2),iV .u64 ((t1258).f3),iV .u64 ((t1258).f4),iV .i64 ((t1258).f5),.own 2,.own 3])),(2,some (.row 2 87 (((t1258).f6).map Z0))),(3,some (.row 2 87 (((t1258).f7).map Z0)))] [1,2,3] [_,_] ⟨Tryz.call117,Z38.ok a0 t1258 e1259,trivial⟩ ?_
   refine AWp.conv (inv:=[(1,0)]) (vk:=[2,3]) (e0:=[]) (t:=⟨[(4,.ptr 0 0 0),(5,iV .i64 0)],[(0,some (.box 39 (Zh ((t1258)))))],0⟩) (by kernel_rfl) ?_
   refine AWp.ret ?_
   obtain rfl:=sj H
   exact rl (.inl rfl) rfl (by kernel_rfl) (by kernel_rfl)
  ·replace H:=iF c1247 H
   refine AWp.seq ?_
   obtain⟨o1268,e1269,H⟩:=Z3 H
   refine AWp.mono (Q:=fun e s=>(match (generalizing:=false) o1268 with | x1262=>e = .normal∧s=⟨[(1,iV .i64 a1),(2,.ptr 4 0 0),(4,.ptr 5 0 0),(19,bV x1262)],[(4,some (.box 39 (Zh a0))),(5,some (.box 39 [iV .i64 0,iV .i64 0,iV .i64 0,iV .u64 0,iV .u64 0,iV .i64 0,.none0,.none0]))],0⟩)) (AWp.cv ?_) ?_
   ·replace H:=e1269;clear e1269
    rcases Bool.eq_false_or_eq_true (decide (a1≤(-262144))) with c1261 | c1261
    ·replace H:=iT c1261 H
     refine rG hP hn hm [(2,.b true)] [(19,bV true)] [1,2,4,19] [] [0,1] [_] ⟨c1261,trivial⟩ ?_
     obtain rfl:=sj H
     exact lf [(0,4),(1,5)] [] [] (by kernel_rfl) ⟨rfl,rfl⟩
    ·replace H:=iF c1261 H
     refine rG hP hn hm [(2,.b false)] [(19,bV (decide (a1>(262144:Int))))] [1,2,4,19] [] [0,1] [_] ⟨c1261,trivial⟩ ?_
     obtain rfl:=sj H
     exact lf [(0,4),(1,5)] [] [] (by kernel_rfl) ⟨rfl,rfl⟩
   ·obtain⟨x1262,rfl⟩:∃ z,z=o1268:=⟨_,rfl⟩
    rintro e s ⟨rfl,rfl⟩
    refine AWp.cond x1262 (by kernel_rfl) (fun c1263 => ?_) (fun c1263 => ?_)
    ·replace H:=iT c1263 H
     refine sO hP hn hm [] [(5,iV .i64 31)] [4,5] [] [5] ?_
     refine AWp.conv (inv:=[(5,0)]) (vk:=[]) (e0:=[]) (t:=⟨[(4,.ptr 0 0 0),(5,iV .i64 31)],[(0,some (.box 39 (Zh ((⟨0,0,0,0,0,0,[],[]⟩:Ze)))))],0⟩) (by kernel_rfl) ?_
     refine AWp.ret ?_
     obtain rfl:=sj H
     exact rl (.inl rfl) rfl (by kernel_rfl) (by kernel_rfl)
    ·replace H:=iF c1263 H
     refine AWp.skip ?_
     obtain⟨t1266,e1267,H⟩:=Z3 H
     refine sR hP hn hm [(6,.call [] [] [] [] 0 (.tup [.agg (Zh (t1266.1)),iV .i64 t1266.2]) [])] [(5,iV .i64 t1266.2)] [4,5] [(5,some (.box 39 (Zh (t1266.1))))] [5] [_,_] ⟨Tryz.call116,Z28.ok a0 a0.f6 a0.f7 a1 t1266 e1267,trivial⟩ ?_
     refine AWp.conv (inv:=[(5,0)]) (vk:=[]) (e0:=[]) (t:=⟨[(4,.ptr 0 0 0),(5,iV .i64 t1266.2)],[(0,some (.box 39 (Zh ((t1266.1)))))],0⟩) (by kernel_rfl) ?_
     refine AWp.ret ?_
     obtain rfl:=sj H
     exact rl (.inl rfl) rfl (by kernel_rfl) (by kernel_rfl)
def Z07.l0  (v:Int×Int×Int×Int×Int×Int×(List Z2)×(List Z2)×Int×Int×Int×Int×Int×Int×(List Z2)×(List Z2)):Option ((Ze×Ze×Int) ⊕ (Int×Int×Int×Int×Int×Int×(List Z2)×(List Z2)×Int×Int×Int×Int×Int×Int×(List Z2)×(List Z2))):=match v with
 | (x1279,x1280,x1281,x1282,x1283,x1284,x1285,x1286,x1287,x1288,x1289,x1290,x1291,x1292,x1293,x1294)=>if(x1281 != x1289)=true then((Z0x.f (⟨x1279,x1280,x1281,x1282,x1283,x1284,x1285,x1286⟩:Ze) (if x1289>x1281 then x1289 else x1281))>>=fun t1298=>(Z0x.f (⟨x1287,x1288,x1289,x1290,x1291,x1292,x1293,x1294⟩:Ze) (if x1289>x1281 then x1289 else x1281))>>=fun t1302=>if((if t1302.2>t1298.2 then t1302.2 else t1298.2) != (0:Int))=true then(some (.inl ((⟨0,0,0,0,0,0,[],[]⟩:Ze),(⟨0,0,0,0,0,0,[],[]⟩:Ze),(if t1302.2>t1298.2 then t1302.2 else t1298.2)))) else(Z07.l0  ((t1298.1).f0,(t1298.1).f1,(t1298.1).f2,(t1298.1).f3,(t1298.1).f4,(t1298.1).f5,(t1298.1).f6,(t1298.1).f7,(t1302.1).f0,(t1302.1).f1,(t1302.1).f2,(t1302.1).f3,(t1302.1).f4,(t1302.1).f5,(t1302.1).f6,(t1302.1).f7))) else(some (.inr (x1279,x1280,x1281,x1282,x1283,x1284,x1285,x1286,x1287,x1288,x1289,x1290,x1291,x1292,x1293,x1294)))
partial_fixpoint
def Z07.f (a0:Ze) (a1:Ze):Option (Ze×Ze×Int):=(Z1p.f a0 (if a1.f1<a0.f1 then a1.f1 else a0.f1))>>=fun t1238=>(Z1p.f a1 (if a1.f1<a0.f1 then a1.f1 else a0.f1))>>=fun t1242=>if((if t1242.2>t1238.2 then t1242.2 else t1238.2) != (0:Int))=true then(some ((⟨0,0,0,0,0,0,[],[]⟩:Ze),(⟨0,0,0,0,0,0,[],[]⟩:Ze),(if t1242.2>t1238.2 then t1242.2 else t1238.2))) else((Z07.l0  ((t1238.1).f0,(t1238.1).f1,(t1238.1).f2,(t1238.1).f3,(t1238.1).f4,(t1238.1).f5,(t1238.1).f6,(t1238.1).f7,(t1242.1).f0,(t1242.1).f1,(t1242.1).f2,(t1242.1).f3,(t1242.1).f4,(t1242.1).f5,(t1242.1).f6,(t1242.1).f7))>>=fun oo=>match oo with | .inl rr=>(some rr) | .inr (x1305,x1306,x1307,x1308,x1309,x1310,x1311,x1312,x1313,x1314,x1315,x1316,x1317,x1318,x1319,x1320)=>(some ((⟨x1305,x1306,x1307,x1308,x1309,x1310,x1311,x1312⟩:Ze),(⟨x1313,x1314,x1315,x1316,x1317,x1318,x1319,x1320⟩:Ze),0)))
theorem Z07.ok (a0:Ze) (a1:Ze) (r:Ze×Ze×Int) (H:Z07.f a0 a1=some r):Pv.Fn Tryz.prog 95 [.agg (Zh a0),.agg (Zh a1)] [] 0 (fun x o=>x = .tup [.agg (Zh (r.1)),.agg (Zh (r.2.1)),iV .i64 r.2.2]∧o=[]):=by
 unfold Z07.f at H
 refine Fn.bodyK [] Tryz.func95 rfl rfl (fun Γ hP hn => ?_)
 have hm:Tryz.prog.follows .mixedOrders=true:=by kernel_rfl
 replace hn:Γ.n=68:=hn
 refine sO hP hn hm [(0,.k 0),(1,.k 1),(2,.k 2),(3,.k 3)] [(2,.ptr 0 0 0),(3,.ptr 1 0 0),(4,.ptr 2 0 0),(5,.ptr 3 0 0)] [2,3,4,5] [(0,some (.box 39 (Zh a0))),(1,some (.box 39 (Zh a1))),(2,some (.box 39 [iV .i64 0,iV .i64 0,iV .i64 0,iV .u64 0,iV .u64 0,iV .i64 0,.none0,.none0])),(3,some (.box 39 [iV .i64 0,iV .i64 0,iV .i64 0,iV .u64 0,iV .u64 0,iV .i64 0,.none0,.none0]))] [0,1,2,3] ?_
 refine sO hP hn hm [(4,.more xMin)] [(7,iV .i64 (if a1.f1<a0.f1 then a1.f1 else a0.f1))] [2,3,4,5,7] [] [0,1,2,3] ?_
 obtain⟨t1238,e1239,H⟩:=Z3 H
 refine sR hP hn hm [(2,.call [] [] [] [] 0 (.tup [.agg (Zh (t1238.1)),iV .i64 t1238.2]) [])] [(8,iV .i64 t1238.2)] [2,3,4,5,7,8] [(0,some (.box 39 (Zh (t1238.1))))] [0,1,2,3] [_,_] ⟨Tryz.call109,Z1p.ok a0 (if a1.f1<a0.f1 then a1.f1 else a0.f1) t1238 e1239,trivial⟩ ?_
 obtain⟨t1242,e1243,H⟩:=Z3 H
 refine sR hP hn hm [(2,.call [] [] [] [] 0 (.tup [.agg (Zh (t1242.1)),iV .i64 t1242.2]) [])] [(9,iV .i64 t1242.2)] [2,3,4,5,8,9] [(1,some (.box 39 (Zh (t1242.1))))] [0,1,2,3] [_,_] ⟨Tryz.call109,Z1p.ok a1 (if a1.f1<a0.f1 then a1.f1 else a0.f1) t1242 e1243,trivial⟩ ?_
 refine AWp.seq ?_
 refine sO hP hn hm [(2,.more xMax)] [(8,iV .i64 (if t1242.2>t1238.2 then t1242.2 else t1238.2))] [2,3,4,5,8] [] [0,1,2,3] ?_
 refine sO hP hn hm [] [(32,bV ((if t1242.2>t1238.2 then t1242.2 else t1238.2) != (0:Int)))] [2,3,4,5,8,32] [] [0,1,2,3] ?_
 refine AWp.cond ((if t1242.2>t1238.2 then t1242.2 else t1238.2) != (0:Int)) (by kernel_rfl) (fun c1244 => ?_) (fun c1244 => ?_)
 ·replace H:=iT c1244 H
  refine sO hP hn hm [] [(6,iV .i64 (if t1242.2>t1238.2 then t1242.2 else t1238.2))] [4,5,6] [] [2,3] ?_
  refine AWp.conv (inv:=[(2,0),(3,1)]) (vk:=[]) (e0:=[]) (t:=⟨[(4,.ptr 0 0 0),(5,.ptr 1 0 0),(6,iV .i64 (if t1242.2>t1238.2 then t1242.2 else t1238.2))],[(0,some (.box 39 (Zh ((⟨0,0,0,0,0,0,[],[]⟩:Ze))))),(1,some (.box 39 (Zh ((⟨0,0,0,0,0,0,[],[]⟩:Ze)))))],0⟩) (by kernel_rfl) ?_
  refine AWp.ret ?_
  obtain rfl:=sj H
  exact rl (.inl rfl) rfl (by kernel_rfl) (by kernel_rfl)
 ·replace H:=iF c1244 H
  refine AWp.skip ?_
  refine AWp.seq ?_
  refine AWp.block ?_
  obtain⟨o1321,e1322,H⟩:=Z3 H
  refine AWp.loop (LWp.conv (inv:=[(0,4),(1,5),(2,6),(3,7)]) (vk:=[]) (e0:=[]) (t:=⟨[(2,.ptr 4 0 0),(3,.ptr 5 0 0),(4,.ptr 6 0 0),(5,.ptr 7 0 0)],[(4,some (.box 39 (Zh (t1238.1)))),(5,some (.box 39 (Zh (t1242.1)))),(6,some (.box 39 [iV .i64 0,iV .i64 0,iV .i64 0,iV .u64 0,iV .u64 0,iV .i64 0,.none0,.none0])),(7,some (.box 39 [iV .i64 0,iV .i64 0,iV .i64 0,iV .u64 0,iV .u64 0,iV .i64 0,.none0,.none0]))],0⟩) (by kernel_rfl) ?_)
  refine LWp.mono (Q:=fun e s=>(match (generalizing:=false) o1321 with | .inl rr=>e = .ret∧s.floor=0∧Z1x Tryz.prog Tryz.f95 s=some (.tup [.agg (Zh (rr.1)),.agg (Zh (rr.2.1)),iV .i64 rr.2.2])∧([]:List (Nat×Option MObj))=[] | .inr (x1305,x1306,x1307,x1308,x1309,x1310,x1311,x1312,x1313,x1314,x1315,x1316,x1317,x1318,x1319,x1320)=>e = .exit 0∧s=⟨[(2,.ptr 8 0 0),(3,.ptr 9 0 0),(4,.ptr 10 0 0),(5,.ptr 11 0 0)],[(8,some (.box 39 (Zh ⟨x1305,x1306,x1307,x1308,x1309,x1310,x1311,x1312⟩))),(9,some (.box 39 (Zh ⟨x1313,x1314,x1315,x1316,x1317,x1318,x1319,x1320⟩))),(10,some (.box 39 [iV .i64 0,iV .i64 0,iV .i64 0,iV .u64 0,iV .u64 0,iV .i64 0,.none0,.none0])),(11,some (.box 39 [iV .i64 0,iV .i64 0,iV .i64 0,iV .u64 0,iV .u64 0,iV .i64 0,.none0,.none0]))],0⟩)) (LWp.cv (Zn (fun body hbody => ?_))) ?_
  ·refine          Z07.l0.partial_correctness  (motive:=fun v o1321=>(match (generalizing:=false) v with | (x1279,x1280,x1281,x1282,x1283,x1284,x1285,x1286,x1287,x1288,x1289,x1290,x1291,x1292,x1293,x1294)=>LWp Γ body (fun e s=>∃ t,Cv Γ s t∧(match (generalizing:=false) o1321 with | .inl rr=>e = .ret∧t.floor=0∧Z1x   Tryz.prog Tryz.f95 t=some (.tup [.agg (Zh    (rr.1)),.agg (Zh    (rr.2.1)),iV .i64 rr.2.2])∧([]:List (Nat×Option MObj))=[] | .inr (x1305,x1306,x1307,x1308,x1309,x1310,x1311,x1312,x1313,x1314,x1315,x1316,x1317,x1318,x1319,x1320)=>e = .exit 0∧t=⟨[(2,.ptr 8 0 0),(3,.ptr 9 0 0),(4,.ptr 10 0 0),(5,.ptr 11 0 0)],[(8,some (.box 39 (Zh    ⟨x1305,x1306,x1307,x1308,x1309,x1310,x1311,x1312⟩))),(9,some (.box 39 (Zh    ⟨x1313,x1314,x1315,x1316,x1317,x1318,x1319,x1320⟩))),(10,some (.box 39 [iV .i64 0,iV .i64 0,iV .i64 0,iV .u64 0,iV .u64 0,iV .i64 0,.none0,.none0])),(11,some (.box 39 [iV .i64 0,iV .i64 0,iV .i64 0,iV .u64 0,iV .u64 0,iV .i64 0,.none0,.none0]))],0⟩)) ⟨[(2,.ptr 4 0 0),(3,.ptr 5 0 0),(4,.ptr 6 0 0),(5,.ptr 7 0 0)],[(4,some (.box 39 (Zh    ⟨x1279,x1280,x1281,x1282,x1283,x1284,x1285,x1286⟩))),(5,some (.box 39 (Zh    ⟨x1287,x1288,x1289,x1290,x1291,x1292,x1293,x1294⟩))),(6,some (.box 39 [iV .i64 0,iV .i64 0,iV .i64 0,iV .u64 0,iV .u64 0,iV .i64 0,.none0,.none0])),(7,some (.box 39 [iV .i64 0,iV .i64 0,iV .i64 0,iV .u64 0,iV .u64 0,iV .i64 0,.none0,.none0]))],0⟩)) ?_ _ _ e1322
   clear H e1322 o1321;intro self ih v o1321 H
   obtain⟨x1279,x1280,x1281,x1282,x1283,x1284,x1285,x1286,x1287,x1288,x1289,x1290,x1291,x1292,x1293,x1294⟩:=v
   dsimp only at H
   subst hbody
   refine LWp.round ?_
   refine AWp.seq ?_
   refine sO hP hn hm [] [(40,bV (x1281 != x1289))] [2,3,4,5,40] [] [4,5,6,7] ?_
   refine AWp.cond (x1281 != x1289) (by kernel_rfl) (fun c1295 => ?_) (fun c1295 => ?_)
   ·replace H:=iT c1295 H
    refine AWp.skip ?_
    refine AWp.block ?_
    refine sO hP hn hm [(4,.more xMax)] [(10,iV .i64 (if x1289>x1281 then x1289 else x1281))] [2,3,4,5,10] [] [4,5,6,7] ?_
    obtain⟨t1298,e1299,H⟩:=Z3 H
    refine sR hP hn hm [(2,.call [] [] [] [] 0 (.tup [.agg (Zh (t1298.1)),iV .i64 t1298.2]) [])] [(8,iV .i64 t1298.2)] [2,3,4,5,8,10] [(4,some (.box 39 (Zh (t1298.1))))] [4,5,6,7] [_,_] ⟨Tryz.call110,Z0x.ok (⟨x1279,x1280,x1281,x1282,x1283,x1284,x1285,x1286⟩:Ze) (if x1289>x1281 then x1289 else x1281) t1298 e1299,trivial⟩ ?_
    obtain⟨t1302,e1303,H⟩:=Z3 H
    refine sR hP hn hm [(2,.call [] [] [] [] 0 (.tup [.agg (Zh (t1302.1)),iV .i64 t1302.2]) [])] [(9,iV .i64 t1302.2)] [2,3,4,5,8,9] [(5,some (.box 39 (Zh (t1302.1))))] [4,5,6,7] [_,_] ⟨Tryz.call110,Z0x.ok (⟨x1287,x1288,x1289,x1290,x1291,x1292,x1293,x1294⟩:Ze) (if x1289>x1281 then x1289 else x1281) t1302 e1303,trivial⟩ ?_
    refine sO hP hn hm [(2,.more xMax)] [(8,iV .i64 (if t1302.2>t1298.2 then t1302.2 else t1298.2))] [2,3,4,5,8] [] [4,5,6,7] ?_
    refine sO hP hn hm [] [(62,bV ((if t1302.2>t1298.2 then t1302.2 else t1298.2) != (0:Int)))] [2,3,4,5,8,62] [] [4,5,6,7] ?_
    refine AWp.cond ((if t1302.2>t1298.2 then t1302.2 else t1298.2) != (0:Int)) (by kernel_rfl) (fun c1304 => ?_) (fun c1304 => ?_)
    ·replace H:=iT c1304 H
     refine sO hP hn hm [] [(6,iV .i64 (if t1302.2>t1298.2 then t1302.2 else t1298.2))] [4,5,6] [] [6,7] ?_
     refine AWp.conv (inv:=[(6,0),(7,1)]) (vk:=[]) (e0:=[]) (t:=⟨[(4,.ptr 0 0 0),(5,.ptr 1 0 0),(6,iV .i64 (if t1302.2>t1298.2 then t1302.2 else t1298.2))],[(0,some (.box 39 (Zh ((⟨0,0,0,0,0,0,[],[]⟩:Ze))))),(1,some (.box 39 (Zh ((⟨0,0,0,0,0,0,[],[]⟩:Ze)))))],0⟩) (by kernel_rfl) ?_
     refine AWp.ret ?_
     obtain rfl:=sj H
     exact rl rfl rfl (by kernel_rfl) (by kernel_rfl)
    ·replace H:=iF c1304 H
     refine AWp.skip ?_
     exact LWp.conv [(4,4),(5,5),(6,6),(7,7)] [] [] (by kernel_rfl) (ih _ _ H)
   ·replace H:=iF c1295 H
    refine AWp.exit ?_
    obtain rfl:=sj H
    exact lf [(4,8),(5,9),(6,10),(7,11)] [] [] (by kernel_rfl) ⟨rfl,rfl⟩
  ·rcases o1321 with rr | ⟨x1305,x1306,x1307,x1308,x1309,x1310,x1311,x1312,x1313,x1314,x1315,x1316,x1317,x1318,x1319,x1320⟩
   ·skip
    rintro e s ⟨rfl,hfl,hres⟩
    obtain rfl:=sj H
    exact Exists.intro _ (And.intro (fun _ _ h=>h) (And.intro (.inl rfl) (And.intro hfl hres)))
   ·skip
    rintro e s ⟨rfl,rfl⟩
    refine sO hP hn hm [] [(6,iV .i64 0)] [4,5,6] [(10,some (.box 39 (Zh ⟨x1305,x1306,x1307,x1308,x1309,x1310,x1311,x1312⟩))),(11,some (.box 39 (Zh ⟨x1313,x1314,x1315,x1316,x1317,x1318,x1319,x1320⟩)))] [10,11] ?_
    refine AWp.conv (inv:=[(10,0),(11,1)]) (vk:=[]) (e0:=[]) (t:=⟨[(4,.ptr 0 0 0),(5,.ptr 1 0 0),(6,iV .i64 0)],[(0,some (.box 39 (Zh ((⟨x1305,x1306,x1307,x1308,x1309,x1310,x1311,x1312⟩:Ze))))),(1,some (.box 39 (Zh ((⟨x1313,x1314,x1315,x1316,x1317,x1318,x1319,x1320⟩:Ze)))))],0⟩) (by kernel_rfl) ?_
    refine AWp.ret ?_
    obtain rfl:=sj H
    exact rl (.inl rfl) rfl (by kernel_rfl) (by kernel_rfl)
end Go.Proofs.YtlclecehlekjoaaGreat.PvGK
