import Derived.Test.YtbmdealiikoplaaGreatProg
import Derived.Test.YtbmdealiikoplaaGreatPxEvalDoes05
set_option linter.unusedVariables false
set_option linter.unnecessarySimpa false
set_option linter.unusedSimpArgs false
set_option maxRecDepth 10000
namespace Go.Proofs.YtbmdealiikoplaaGreat.PvGJ
open Go Go.Pv Go.IntKind
structure Tr19_Ask where
 f0:Int
 f1:Int
 f2:Int
 f3:Int
 f4:Int
 f5:Int
 f6:Int
 deriving DecidableEq,Inhabited
abbrev er19_Ask (x:Tr19_Ask):List Im:=[iI .i64 x.f0,iI .u64 x.f1,iI .u64 x.f2,iI .i64 x.f3,iI .i64 x.f4,iI .i64 x.f5,iI .i64 x.f6]
abbrev ar19_Ask (x:Tr19_Ask):List AVal:=[iV .i64 x.f0,iV .u64 x.f1,iV .u64 x.f2,iV .i64 x.f3,iV .i64 x.f4,iV .i64 x.f5,iV .i64 x.f6]
structure Rr19_Ask (x:Tr19_Ask):Prop where
 r0:I64 x.f0
 r1:U64 x.f1
 r2:U64 x.f2
 r3:I64 x.f3
 r4:I64 x.f4
 r5:I64 x.f5
 r6:I64 x.f6
structure TBucket where
 f0:Int
 f1:Int
 deriving DecidableEq,Inhabited
abbrev eBucket (x:TBucket):List Im:=[iI .i64 x.f0,iI .u64 x.f1]
abbrev aBucket (x:TBucket):List AVal:=[iV .i64 x.f0,iV .u64 x.f1]
structure RBucket (x:TBucket):Prop where
 r0:I64 x.f0
 r1:U64 x.f1
structure THist where
 f0:Int
 f1:Int
 f2:Int
 f3:Int
 f4:Int
 f5:Int
 f6:List TBucket
 f7:List TBucket
 deriving DecidableEq,Inhabited
abbrev eHist (x:THist):List Im:=[iI .i64 x.f0,iI .i64 x.f1,iI .i64 x.f2,iI .u64 x.f3,iI .u64 x.f4,iI .i64 x.f5,.row (x.f6.map eBucket),.row (x.f7.map eBucket)]
abbrev aHist (x:THist):List AVal:=[iV .i64 x.f0,iV .i64 x.f1,iV .i64 x.f2,iV .u64 x.f3,iV .u64 x.f4,iV .i64 x.f5,.im (.row (x.f6.map eBucket)),.im (.row (x.f7.map eBucket))]
structure RHist (x:THist):Prop where
 r0:I64 x.f0
 r1:I64 x.f1
 r2:I64 x.f2
 r3:U64 x.f3
 r4:U64 x.f4
 r5:I64 x.f5
 r6:x.f6.length≤140737488351232∧∀ y∈x.f6,RBucket y
 r7:x.f7.length≤140737488351232∧∀ y∈x.f7,RBucket y
structure TSample where
 f0:Int
 f1:THist
 deriving DecidableEq,Inhabited
abbrev eSample (x:TSample):List Im:=[iI .i64 x.f0,iI .i64 x.f1.f0,iI .i64 x.f1.f1,iI .i64 x.f1.f2,iI .u64 x.f1.f3,iI .u64 x.f1.f4,iI .i64 x.f1.f5,.row (x.f1.f6.map eBucket),.row (x.f1.f7.map eBucket)]
structure RSample (x:TSample):Prop where
 r0:I64 x.f0
 r1:RHist x.f1
structure Trank_Place where
 f0:Int
 f1:Int
 deriving DecidableEq,Inhabited
abbrev arank_Place (x:Trank_Place):List AVal:=[iV .i64 x.f0,iV .i64 x.f1]
structure Rrank_Place (x:Trank_Place):Prop where
 r0:I64 x.f0
 r1:I64 x.f1
structure Teval_Ask where
 f0:Int
 f1:Int
 f2:Int
 f3:Trank_Place
 f4:Int
 f5:Int
 deriving DecidableEq,Inhabited
structure Reval_Ask (x:Teval_Ask):Prop where
 r0:I64 x.f0
 r1:U64 x.f1
 r2:U64 x.f2
 r3:Rrank_Place x.f3
 r4:I64 x.f4
 r5:I64 x.f5
structure Tnum_Wide where
 f0:Int
 f1:Int
 deriving DecidableEq,Inhabited
abbrev anum_Wide (x:Tnum_Wide):List AVal:=[iV .u64 x.f0,iV .u64 x.f1]
structure Rnum_Wide (x:Tnum_Wide):Prop where
 r0:U64 x.f0
 r1:U64 x.f1
structure Tbound_Key where
 f0:Int
 f1:Int
 f2:Int
 deriving DecidableEq,Inhabited
abbrev abound_Key (x:Tbound_Key):List AVal:=[iV .i64 x.f0,iV .i64 x.f1,iV .i64 x.f2]
structure Rbound_Key (x:Tbound_Key):Prop where
 r0:I64 x.f0
 r1:I64 x.f1
 r2:I64 x.f2
structure Trank_Cell where
 f0:Tbound_Key
 f1:Int
 deriving DecidableEq,Inhabited
abbrev erank_Cell (x:Trank_Cell):List Im:=[iI .i64 x.f0.f0,iI .i64 x.f0.f1,iI .i64 x.f0.f2,iI .u64 x.f1]
structure Rrank_Cell (x:Trank_Cell):Prop where
 r0:Rbound_Key x.f0
 r1:U64 x.f1
structure Trank_Part where
 f0:Int
 f1:Int
 f2:Int
 deriving DecidableEq,Inhabited
abbrev arank_Part (x:Trank_Part):List AVal:=[iV .u64 x.f0,iV .u64 x.f1,iV .u64 x.f2]
structure Rrank_Part (x:Trank_Part):Prop where
 r0:U64 x.f0
 r1:U64 x.f1
 r2:U64 x.f2
structure Teval_Answer where
 f0:THist
 f1:Int
 f2:Int
 f3:Tbound_Key
 f4:Trank_Part
 deriving DecidableEq,Inhabited
structure Reval_Answer (x:Teval_Answer):Prop where
 r0:RHist x.f0
 r1:I64 x.f1
 r2:U64 x.f2
 r3:Rbound_Key x.f3
 r4:Rrank_Part x.f4
structure Tr08_Cell where
 f0:Int
 f1:Int
 f2:Int
 f3:Int
 deriving DecidableEq,Inhabited
abbrev er08_Cell (x:Tr08_Cell):List Im:=[iI .i64 x.f0,iI .i64 x.f1,iI .i64 x.f2,iI .u64 x.f3]
abbrev ar08_Cell (x:Tr08_Cell):List AVal:=[iV .i64 x.f0,iV .i64 x.f1,iV .i64 x.f2,iV .u64 x.f3]
structure Rr08_Cell (x:Tr08_Cell):Prop where
 r0:I64 x.f0
 r1:I64 x.f1
 r2:I64 x.f2
 r3:U64 x.f3
structure S54 where
 f0:Int
 f1:Int
 f2:Int
 deriving DecidableEq,Inhabited
structure R54 (x:S54):Prop where
 r0:U64 x.f0
 r1:U64 x.f1
 r2:U64 x.f2
structure Tr19_Answer where
 f0:THist
 f1:Int
 f2:Int
 f3:Tr08_Cell
 f4:S54
 deriving DecidableEq,Inhabited
structure Rr19_Answer (x:Tr19_Answer):Prop where
 r0:RHist x.f0
 r1:I64 x.f1
 r2:U64 x.f2
 r3:Rr08_Cell x.f3
 r4:R54 x.f4
def f_r15_time.f (a0:Int):Option (Bool):=((if(decide (a0≥(0:Int)))=true then(some (decide (a0≤(1099511627776:Int)))) else(some false)):Option (Bool))>>=fun x25=>some x25
theorem f_r15_time.ok (a0:Int) (r:Bool) (H:f_r15_time.f a0=some r):Pv.Fn Tryz.prog 32 [iV .i64 a0] [] 0 (fun x o=>x=bV r∧o=[]):=by
 unfold f_r15_time.f at H
 refine Fn.bodyK [] Tryz.func32 rfl rfl (fun Γ hP hn => ?_)
 have hm:Tryz.prog.follows .mixedOrders=true:=by kernel_rfl
 replace hn:Γ.n=9:=hn
 refine sr hP hn hm [] [] [0] [] [] [] (by kernel_rfl) trivial ?_
 refine AWp.seq ?_
 obtain⟨o26,e27,H⟩:=bind_of H
 refine AWp.mono (Q:=fun e s=>(match (generalizing:=false) o26 with | x25=>e = .normal∧s=⟨[(2,bV x25)],[],0⟩)) (AWp.cv ?_) ?_
 ·replace H:=e27;clear e27
  rcases Bool.eq_false_or_eq_true (decide (a0≥(0:Int))) with c24 | c24
  ·replace H:=iT c24 H
   refine rg hP hn hm [(2,.b true)] [(2,bV (decide (a0≤(1099511627776:Int))))] [2] [] [] [_] (by kernel_rfl) ⟨c24,trivial⟩ ?_
   obtain rfl:=Option.some.inj H
   exact lf [] [] [] (by kernel_rfl) ⟨rfl,rfl⟩
  ·replace H:=iF c24 H
   refine rg hP hn hm [(2,.b false)] [(2,bV false)] [2] [] [] [_] (by kernel_rfl) ⟨c24,trivial⟩ ?_
   obtain rfl:=Option.some.inj H
   exact lf [] [] [] (by kernel_rfl) ⟨rfl,rfl⟩
 ·obtain⟨x25,rfl⟩:∃ z,z=o26:=⟨_,rfl⟩
  rintro e s ⟨rfl,rfl⟩
  refine AWp.conv (inv:=[]) (vk:=[]) (e0:=[]) (t:=⟨[(2,bV x25)],[],0⟩) (by kernel_rfl) ?_
  refine AWp.ret ?_
  obtain rfl:=Option.some.inj H
  exact rl (.inl rfl) rfl (by kernel_rfl) (by kernel_rfl)
def f_r04_Right.f (a0:Int):Option (Bool):=((if(decide (a0≥(-4)))=true then(some (decide (a0≤(8:Int)))) else(some false)):Option (Bool))>>=fun x37=>some x37
theorem f_r04_Right.ok (a0:Int) (r:Bool) (H:f_r04_Right.f a0=some r):Pv.Fn Tryz.prog 53 [iV .i64 a0] [] 0 (fun x o=>x=bV r∧o=[]):=by
 unfold f_r04_Right.f at H
 refine Fn.bodyK [] Tryz.func53 rfl rfl (fun Γ hP hn => ?_)
 have hm:Tryz.prog.follows .mixedOrders=true:=by kernel_rfl
 replace hn:Γ.n=9:=hn
 refine sr hP hn hm [] [] [0] [] [] [] (by kernel_rfl) trivial ?_
 refine AWp.seq ?_
 obtain⟨o38,e39,H⟩:=bind_of H
 refine AWp.mono (Q:=fun e s=>(match (generalizing:=false) o38 with | x37=>e = .normal∧s=⟨[(2,bV x37)],[],0⟩)) (AWp.cv ?_) ?_
 ·replace H:=e39;clear e39
  rcases Bool.eq_false_or_eq_true (decide (a0≥(-4))) with c36 | c36
  ·replace H:=iT c36 H
   refine rg hP hn hm [(2,.b true)] [(2,bV (decide (a0≤(8:Int))))] [2] [] [] [_] (by kernel_rfl) ⟨c36,trivial⟩ ?_
   obtain rfl:=Option.some.inj H
   exact lf [] [] [] (by kernel_rfl) ⟨rfl,rfl⟩
  ·replace H:=iF c36 H
   refine rg hP hn hm [(2,.b false)] [(2,bV false)] [2] [] [] [_] (by kernel_rfl) ⟨c36,trivial⟩ ?_
   obtain rfl:=Option.some.inj H
   exact lf [] [] [] (by kernel_rfl) ⟨rfl,rfl⟩
 ·obtain⟨x37,rfl⟩:∃ z,z=o38:=⟨_,rfl⟩
  rintro e s ⟨rfl,rfl⟩
  refine AWp.conv (inv:=[]) (vk:=[]) (e0:=[]) (t:=⟨[(2,bV x37)],[],0⟩) (by kernel_rfl) ?_
  refine AWp.ret ?_
  obtain rfl:=Option.some.inj H
  exact rl (.inl rfl) rfl (by kernel_rfl) (by kernel_rfl)
def f_r04_step.l0 (x67:Int) (x68:Int):Option (Int):=if(decide (x68<(8:Int)))=true then(f_r04_step.l0  (i64.wrap (x67*(2:Int))) (i64.wrap (x68+(1:Int)))) else(some x67)
partial_fixpoint
def f_r04_step.f (a0:Int):Option (Int):=(f_r04_step.l0  1 a0)>>=fun x70=>some x70
theorem f_r04_step.ok (a0:Int) (r:Int) (H:f_r04_step.f a0=some r):Pv.Fn Tryz.prog 72 [iV .i64 a0] [] 0 (fun x o=>x=iV .i64 r∧o=[]):=by
 unfold f_r04_step.f at H
 refine Fn.bodyK [] Tryz.func72 rfl rfl (fun Γ hP hn => ?_)
 have hm:Tryz.prog.follows .mixedOrders=true:=by kernel_rfl
 replace hn:Γ.n=13:=hn
 refine sr hP hn hm [] [] [0] [] [] [] (by kernel_rfl) trivial ?_
 refine sr hP hn hm [] [(3,iV .i64 1)] [0,3] [] [] [] (by kernel_rfl) trivial ?_
 refine AWp.seq ?_
 refine sr hP hn hm [] [(4,iV .i64 a0)] [3,4] [] [] [] (by kernel_rfl) trivial ?_
 refine AWp.block ?_
 obtain⟨o71,e72,H⟩:=bind_of H
 refine AWp.loop (LWp.conv (inv:=[]) (vk:=[]) (e0:=[]) (t:=⟨[(3,iV .i64 1),(4,iV .i64 a0)],[],0⟩) (by kernel_rfl) ?_)
 refine LWp.mono (Q:=fun e s=>(match (generalizing:=false) o71 with | x70=>e = .exit 0∧s=⟨[(3,iV .i64 x70)],[],0⟩)) (LWp.cv (withBody (fun body hbody => ?_))) ?_
 ·refine f_r04_step.l0.partial_correctness  (motive:=fun x67 x68 o71=>LWp Γ body (fun e s=>∃ t,Cv Γ s t∧(match (generalizing:=false) o71 with | x70=>e = .exit 0∧t=⟨[(3,iV .i64 x70)],[],0⟩)) ⟨[(3,iV .i64 x67),(4,iV .i64 x68)],[],0⟩) ?_ _ _ _ e72
  clear H e72 o71;intro self ih x67 x68 o71 H
  subst hbody
  refine LWp.round ?_
  refine AWp.seq ?_
  refine sr hP hn hm [] [(7,bV (decide (x68<(8:Int))))] [3,4,7] [] [] [] (by kernel_rfl) trivial ?_
  refine AWp.cond (decide (x68<(8:Int))) (by kernel_rfl) (fun c69 => ?_) (fun c69 => ?_)
  ·replace H:=iT c69 H
   refine AWp.skip ?_
   refine AWp.seq ?_
   refine AWp.block ?_
   refine rg hP hn hm [] [(3,iV .i64 (i64.wrap (x67*(2:Int))))] [3,4] [] [] [] (by kernel_rfl) trivial ?_
   refine rg hP hn hm [] [(4,iV .i64 (i64.wrap (x68+(1:Int))))] [3,4] [] [] [] (by kernel_rfl) trivial ?_
   exact LWp.conv [] [] [] (by kernel_rfl) (ih _ _ _ H)
  ·replace H:=iF c69 H
   refine AWp.exit ?_
   obtain rfl:=Option.some.inj H
   exact lf [] [] [] (by kernel_rfl) ⟨rfl,rfl⟩
 ·obtain⟨x70,rfl⟩:∃ z,z=o71:=⟨_,rfl⟩
  rintro e s ⟨rfl,rfl⟩
  refine sr hP hn hm [] [(2,iV .i64 x70)] [2] [] [] [] (by kernel_rfl) trivial ?_
  refine AWp.conv (inv:=[]) (vk:=[]) (e0:=[]) (t:=⟨[(2,iV .i64 x70)],[],0⟩) (by kernel_rfl) ?_
  refine AWp.ret ?_
  obtain rfl:=Option.some.inj H
  exact rl (.inl rfl) rfl (by kernel_rfl) (by kernel_rfl)
def f_r04_Units.f (a0:Int) (a1:Int):Option (Int):=(f_r04_Right.f a0)>>=fun t63=>if(!t63)=true then(some 0) else((f_r04_step.f a0)>>=fun t75=>some (i64.wrap (a1*t75)))
theorem f_r04_Units.ok (a0:Int) (a1:Int) (r:Int) (H:f_r04_Units.f a0 a1=some r):Pv.Fn Tryz.prog 55 [iV .i64 a0,iV .i64 a1] [] 0 (fun x o=>x=iV .i64 r∧o=[]):=by
 unfold f_r04_Units.f at H
 refine Fn.bodyK [] Tryz.func55 rfl rfl (fun Γ hP hn => ?_)
 have hm:Tryz.prog.follows .mixedOrders=true:=by kernel_rfl
 replace hn:Γ.n=12:=hn
 refine sr hP hn hm [] [] [0,1] [] [] [] (by kernel_rfl) trivial ?_
 refine AWp.seq ?_
 obtain⟨t63,e64,H⟩:=bind_of H
 refine sr hP hn hm [(1,.call [] [] [] [] 0 (bV t63) [])] [(7,bV (!t63))] [0,1,7] [] [] [_,_] (by kernel_rfl) ⟨Tryz.call53,f_r04_Right.ok a0 t63 e64,trivial⟩ ?_
 refine AWp.cond (!t63) (by kernel_rfl) (fun c65 => ?_) (fun c65 => ?_)
 ·replace H:=iT c65 H
  refine sr hP hn hm [] [(4,iV .i64 0)] [4] [] [] [] (by kernel_rfl) trivial ?_
  refine AWp.conv (inv:=[]) (vk:=[]) (e0:=[]) (t:=⟨[(4,iV .i64 0)],[],0⟩) (by kernel_rfl) ?_
  refine AWp.ret ?_
  obtain rfl:=Option.some.inj H
  exact rl (.inl rfl) rfl (by kernel_rfl) (by kernel_rfl)
 ·replace H:=iF c65 H
  refine AWp.skip ?_
  obtain⟨t75,e76,H⟩:=bind_of H
  refine sr hP hn hm [(2,.call [] [] [] [] 0 (iV .i64 t75) [])] [(4,iV .i64 (i64.wrap (a1*t75)))] [4] [] [] [_,_] (by kernel_rfl) ⟨Tryz.call72,f_r04_step.ok a0 t75 e76,trivial⟩ ?_
  refine AWp.conv (inv:=[]) (vk:=[]) (e0:=[]) (t:=⟨[(4,iV .i64 (i64.wrap (a1*t75)))],[],0⟩) (by kernel_rfl) ?_
  refine AWp.ret ?_
  obtain rfl:=Option.some.inj H
  exact rl (.inl rfl) rfl (by kernel_rfl) (by kernel_rfl)
def f_r04_In.f (a0:Int) (a1:Int):Option (Bool):=(((f_r04_Right.f a0)>>=fun t82=>if t82=true then(if(decide (a1>(-262144)))=true then(if(decide (a1≤(262144:Int)))=true then((f_r04_Units.f a0 a1)>>=fun t87=>if(decide (t87>(-262144)))=true then((f_r04_Units.f a0 a1)>>=fun t90=>some (decide (t90≤(262144:Int)))) else(some false)) else(some false)) else(some false)) else(some false)):Option (Bool))>>=fun x92=>some x92
theorem f_r04_In.ok (a0:Int) (a1:Int) (r:Bool) (H:f_r04_In.f a0 a1=some r):Pv.Fn Tryz.prog 54 [iV .i64 a0,iV .i64 a1] [] 0 (fun x o=>x=bV r∧o=[]):=by
 unfold f_r04_In.f at H
 refine Fn.bodyK [] Tryz.func54 rfl rfl (fun Γ hP hn => ?_)
 have hm:Tryz.prog.follows .mixedOrders=true:=by kernel_rfl
 replace hn:Γ.n=27:=hn
 refine sr hP hn hm [] [] [0,1] [] [] [] (by kernel_rfl) trivial ?_
 refine AWp.seq ?_
 obtain⟨o93,e94,H⟩:=bind_of H
 refine AWp.mono (Q:=fun e s=>(match (generalizing:=false) o93 with | x92=>e = .normal∧s=⟨[(4,bV x92)],[],0⟩)) (AWp.cv ?_) ?_
 ·replace H:=e94;clear e94
  obtain⟨t82,e83,H⟩:=bind_of H
  rcases Bool.eq_false_or_eq_true t82 with c84 | c84
  ·replace H:=iT c84 H
   rcases Bool.eq_false_or_eq_true (decide (a1>(-262144))) with c85 | c85
   ·replace H:=iT c85 H
    rcases Bool.eq_false_or_eq_true (decide (a1≤(262144:Int))) with c86 | c86
    ·replace H:=iT c86 H
     obtain⟨t87,e88,H⟩:=bind_of H
     rcases Bool.eq_false_or_eq_true (decide (t87>(-262144))) with c89 | c89
     ·replace H:=iT c89 H
      obtain⟨t90,e91,H⟩:=bind_of H
      refine rg hP hn hm [(1,.call [] [] [] [] 0 (bV t82) []),(2,.b true),(6,.b true),(10,.b true),(13,.call [] [] [] [] 0 (iV .i64 t87) []),(16,.b true),(19,.call [] [] [] [] 0 (iV .i64 t90) [])] [(4,bV (decide (t90≤(262144:Int))))] [4] [] [] [_,_,_,_,_,_,_,_,_,_] (by kernel_rfl) ⟨Tryz.call53,f_r04_Right.ok a0 t82 e83,c84,c85,c86,Tryz.call55,f_r04_Units.ok a0 a1 t87 e88,c89,Tryz.call55,f_r04_Units.ok a0 a1 t90 e91,trivial⟩ ?_
      obtain rfl:=Option.some.inj H
      exact lf [] [] [] (by kernel_rfl) ⟨rfl,rfl⟩
     ·replace H:=iF c89 H
      refine rg hP hn hm [(1,.call [] [] [] [] 0 (bV t82) []),(2,.b true),(6,.b true),(10,.b true),(13,.call [] [] [] [] 0 (iV .i64 t87) []),(16,.b false)] [(4,bV false)] [4] [] [] [_,_,_,_,_,_,_,_] (by kernel_rfl) ⟨Tryz.call53,f_r04_Right.ok a0 t82 e83,c84,c85,c86,Tryz.call55,f_r04_Units.ok a0 a1 t87 e88,c89,trivial⟩ ?_
      obtain rfl:=Option.some.inj H
      exact lf [] [] [] (by kernel_rfl) ⟨rfl,rfl⟩
    ·replace H:=iF c86 H
     refine rg hP hn hm [(1,.call [] [] [] [] 0 (bV t82) []),(2,.b true),(6,.b true),(10,.b false)] [(4,bV false)] [4] [] [] [_,_,_,_,_] (by kernel_rfl) ⟨Tryz.call53,f_r04_Right.ok a0 t82 e83,c84,c85,c86,trivial⟩ ?_
     obtain rfl:=Option.some.inj H
     exact lf [] [] [] (by kernel_rfl) ⟨rfl,rfl⟩
   ·replace H:=iF c85 H
    refine rg hP hn hm [(1,.call [] [] [] [] 0 (bV t82) []),(2,.b true),(6,.b false)] [(4,bV false)] [4] [] [] [_,_,_,_] (by kernel_rfl) ⟨Tryz.call53,f_r04_Right.ok a0 t82 e83,c84,c85,trivial⟩ ?_
    obtain rfl:=Option.some.inj H
    exact lf [] [] [] (by kernel_rfl) ⟨rfl,rfl⟩
  ·replace H:=iF c84 H
   refine rg hP hn hm [(1,.call [] [] [] [] 0 (bV t82) []),(2,.b false)] [(4,bV false)] [4] [] [] [_,_,_] (by kernel_rfl) ⟨Tryz.call53,f_r04_Right.ok a0 t82 e83,c84,trivial⟩ ?_
   obtain rfl:=Option.some.inj H
   exact lf [] [] [] (by kernel_rfl) ⟨rfl,rfl⟩
 ·obtain⟨x92,rfl⟩:∃ z,z=o93:=⟨_,rfl⟩
  rintro e s ⟨rfl,rfl⟩
  refine AWp.conv (inv:=[]) (vk:=[]) (e0:=[]) (t:=⟨[(4,bV x92)],[],0⟩) (by kernel_rfl) ?_
  refine AWp.ret ?_
  obtain rfl:=Option.some.inj H
  exact rl (.inl rfl) rfl (by kernel_rfl) (by kernel_rfl)
def f_r01_Add.l0 (a0:List Int) (x212:Int) (x213:Int):Option ((Int×Int) ⊕ Int):=if(decide (x213<(a0.length:Int)))=true then((at? a0 x213)>>=fun b218=>if(decide (b218>(u64.wrap ((18446744073709551615:Int)-x212))))=true then(some (.inl (0,5))) else(f_r01_Add.l0 a0 (u64.wrap (x212+b218)) (i64.wrap (x213+(1:Int))))) else(some (.inr x212))
partial_fixpoint
def f_r01_Add.f (a0:List Int):Option (Int×Int):=(f_r01_Add.l0 a0 0 0)>>=fun oo=>match oo with | .inl rr=>(some rr) | .inr x222=>(some (x222,0))
theorem f_r01_Add.ok (a0:List Int) (r:Int×Int) (H:f_r01_Add.f a0=some r):Pv.Fn Tryz.prog 56 [.im (.row (a0.map (encInt .u64)))] [] 0 (fun x o=>x = .tup [iV .u64 r.1,iV .i64 r.2]∧o=[]):=by
 unfold f_r01_Add.f at H
 refine Fn.bodyK [] Tryz.func56 rfl rfl (fun Γ hP hn => ?_)
 have hm:Tryz.prog.follows .mixedOrders=true:=by kernel_rfl
 replace hn:Γ.n=26:=hn
 refine sr hP hn hm [] [] [0] [] [] [] (by kernel_rfl) trivial ?_
 refine sr hP hn hm [] [(4,iV .u64 0)] [0,4] [] [] [] (by kernel_rfl) trivial ?_
 refine AWp.seq ?_
 refine sr hP hn hm [] [(5,iV .i64 0)] [0,4,5] [] [] [] (by kernel_rfl) trivial ?_
 refine AWp.block ?_
 obtain⟨o223,e224,H⟩:=bind_of H
 refine AWp.loop (LWp.conv (inv:=[]) (vk:=[]) (e0:=[]) (t:=⟨[(0,.im (.row (a0.map (encInt .u64)))),(4,iV .u64 0),(5,iV .i64 0)],[],0⟩) (by kernel_rfl) ?_)
 refine LWp.mono (Q:=fun e s=>(match (generalizing:=false) o223 with | .inl rr=>e = .ret∧s.floor=0∧resOf Tryz.prog Tryz.f56 s=some (.tup [iV .u64 rr.1,iV .i64 rr.2])∧([]:List (Nat×Option MObj))=[] | .inr x222=>e = .exit 0∧s=⟨[(4,iV .u64 x222)],[],0⟩)) (LWp.cv (withBody (fun body hbody => ?_))) ?_
 ·refine f_r01_Add.l0.partial_correctness a0 (motive:=fun x212 x213 o223=>LWp Γ body (fun e s=>∃ t,Cv Γ s t∧(match (generalizing:=false) o223 with | .inl rr=>e = .ret∧t.floor=0∧resOf Tryz.prog Tryz.f56 t=some (.tup [iV .u64 rr.1,iV .i64 rr.2])∧([]:List (Nat×Option MObj))=[] | .inr x222=>e = .exit 0∧t=⟨[(4,iV .u64 x222)],[],0⟩)) ⟨[(0,.im (.row (a0.map (encInt .u64)))),(4,iV .u64 x212),(5,iV .i64 x213)],[],0⟩) ?_ _ _ _ e224
  clear H e224 o223;intro self ih x212 x213 o223 H
  subst hbody
  refine LWp.round ?_
  refine AWp.seq ?_
  refine sr hP hn hm [(2,.any (iV .i64 (a0.length:Int)))] [(9,bV (decide (x213<(a0.length:Int))))] [0,4,5,9] [] [] [((a0.map (encInt .u64)).length:Int)=(a0.length:Int)] (by kernel_rfl) ⟨by rw[len_map],trivial⟩ ?_
  refine AWp.cond (decide (x213<(a0.length:Int))) (by kernel_rfl) (fun c214 => ?_) (fun c214 => ?_)
  ·replace H:=iT c214 H
   refine AWp.skip ?_
   refine AWp.seq ?_
   refine AWp.block ?_
   refine AWp.seq ?_
   obtain⟨b218,p219,q220,H⟩:=at_of H
   refine sr hP hn hm [(2,.c ((encInt .u64) b218))] [(18,bV (decide (b218>(u64.wrap ((18446744073709551615:Int)-x212)))))] [0,4,5,18] [] [] [_,_] (by kernel_rfl) ⟨p219,el_map (encInt .u64) q220,trivial⟩ ?_
   refine AWp.cond (decide (b218>(u64.wrap ((18446744073709551615:Int)-x212)))) (by kernel_rfl) (fun c221 => ?_) (fun c221 => ?_)
   ·replace H:=iT c221 H
    refine sr hP hn hm [] [(2,iV .u64 0),(3,iV .i64 5)] [2,3] [] [] [] (by kernel_rfl) trivial ?_
    refine AWp.conv (inv:=[]) (vk:=[]) (e0:=[]) (t:=⟨[(2,iV .u64 0),(3,iV .i64 5)],[],0⟩) (by kernel_rfl) ?_
    refine AWp.ret ?_
    obtain rfl:=Option.some.inj H
    exact rl rfl rfl (by kernel_rfl) (by kernel_rfl)
   ·replace H:=iF c221 H
    refine AWp.skip ?_
    refine rg hP hn hm [(3,.c ((encInt .u64) b218))] [(4,iV .u64 (u64.wrap (x212+b218)))] [0,4,5] [] [] [_,_] (by kernel_rfl) ⟨p219,el_map (encInt .u64) q220,trivial⟩ ?_
    refine rg hP hn hm [] [(5,iV .i64 (i64.wrap (x213+(1:Int))))] [0,4,5] [] [] [] (by kernel_rfl) trivial ?_
    exact LWp.conv [] [] [] (by kernel_rfl) (ih _ _ _ H)
  ·replace H:=iF c214 H
   refine AWp.exit ?_
   obtain rfl:=Option.some.inj H
   exact lf [] [] [] (by kernel_rfl) ⟨rfl,rfl⟩
 ·rcases o223 with rr | x222
  ·skip
   rintro e s ⟨rfl,hfl,hres⟩
   obtain rfl:=Option.some.inj H
   exact Exists.intro _ (And.intro (fun _ _ h=>h) (And.intro (.inl rfl) (And.intro hfl hres)))
  ·skip
   rintro e s ⟨rfl,rfl⟩
   refine sr hP hn hm [] [(2,iV .u64 x222),(3,iV .i64 0)] [2,3] [] [] [] (by kernel_rfl) trivial ?_
   refine AWp.conv (inv:=[]) (vk:=[]) (e0:=[]) (t:=⟨[(2,iV .u64 x222),(3,iV .i64 0)],[],0⟩) (by kernel_rfl) ?_
   refine AWp.ret ?_
   obtain rfl:=Option.some.inj H
   exact rl (.inl rfl) rfl (by kernel_rfl) (by kernel_rfl)
def f_r05_Check.l1 (a0:THist) (x145:Int) (x148:List TBucket) (x170:List Int) (x171:Int):Option (Int ⊕ (List Int)):=if(decide (x171<(x148.length:Int)))=true then((at? x148 x171)>>=fun b178=>(f_r04_In.f a0.f1 b178.f0)>>=fun t181=>if(!t181)=true then(some (.inl 4)) else(((if(decide (x171>(0:Int)))=true then((at? x148 (i64.wrap (x171-(1:Int))))>>=fun b189=>some (decide (b178.f0≤b189.f0))) else(some false)):Option (Bool))>>=fun x192=>if x192=true then(some (.inl 32)) else(if(b178.f1==(0:Int))=true then(some (.inl 21)) else((f_r04_Units.f a0.f1 (i64.wrap (b178.f0-(1:Int))))>>=fun t197=>if(decide (t197<a0.f2))=true then(some (.inl 31)) else((chk ((x170.length+[b178.f1].length)*8≤140737488355328))>>=fun _=>f_r05_Check.l1 a0 x145 x148 (x170++[b178.f1]) (i64.wrap (x171+(1:Int)))))))) else(some (.inr x170))
partial_fixpoint
def f_r05_Check.l0 (a0:THist) (x144:List Int) (x145:Int):Option (Int ⊕ (List Int)):=if(decide (x145<(2:Int)))=true then(((if(x145==(1:Int))=true then(some a0.f7) else(some a0.f6)):Option (List TBucket))>>=fun x148=>if(decide ((x148.length:Int)>(512:Int)))=true then(some (.inl 9)) else((f_r05_Check.l1 a0 x145 x148 x144 0)>>=fun oo=>match oo with | .inl rr=>(some (.inl rr)) | .inr x202=>(f_r05_Check.l0 a0 x202 (i64.wrap (x145+(1:Int)))))) else(some (.inr x144))
partial_fixpoint
def f_r05_Check.f (a0:THist):Option (Int):=((if(a0.f0 != (0:Int))=true then(some (a0.f0 != (1:Int))) else(some false)):Option (Bool))>>=fun x33=>if x33=true then(some 25) else((f_r04_Right.f a0.f1)>>=fun t42=>if(!t42)=true then(some 20) else(((if(a0.f2 != (-524288))=true then(if(decide (a0.f2≤(-262144)))=true then(some true) else(some (decide (a0.f2>(262144:Int))))) else(some false)):Option (Bool))>>=fun x49=>if x49=true then(some 31) else((f_r05_Check.l0 a0 [a0.f3] 0)>>=fun oo=>match oo with | .inl rr=>(some rr) | .inr x203=>((f_r01_Add.f x203)>>=fun t227=>if(t227.2 != (0:Int))=true then(some 5) else(if(t227.1 != a0.f4)=true then(some 21) else(some 0))))))
theorem f_r05_Check.ok (a0:THist) (r:Int) (H:f_r05_Check.f a0=some r):Pv.Fn Tryz.prog 33 [.agg (aHist a0)] [] 0 (fun x o=>x=iV .i64 r∧o=[]):=by
 unfold f_r05_Check.f at H
 refine Fn.bodyK [] Tryz.func33 rfl rfl (fun Γ hP hn => ?_)
 have hm:Tryz.prog.follows .mixedOrders=true:=by kernel_rfl
 replace hn:Γ.n=118:=hn
 refine sr hP hn hm [(0,.k 0)] [(1,.ptr 0 0 0)] [1] [(0,some (.box 32 (aHist a0)))] [0] [] (by kernel_rfl) trivial ?_
 refine AWp.seq ?_
 refine AWp.seq ?_
 obtain⟨o231,e232,H⟩:=bind_of H
 refine AWp.mono (Q:=fun e s=>(match (generalizing:=false) o231 with | x33=>e = .normal∧s=⟨[(1,.ptr 1 0 0),(16,bV x33)],[(1,some (.box 32 (aHist a0)))],0⟩)) (AWp.cv ?_) ?_
 ·replace H:=e232;clear e232
  rcases Bool.eq_false_or_eq_true (a0.f0 != (0:Int)) with c32 | c32
  ·replace H:=iT c32 H
   refine rg hP hn hm [(3,.b true)] [(16,bV (a0.f0 != (1:Int)))] [1,16] [] [0] [_] (by kernel_rfl) ⟨c32,trivial⟩ ?_
   obtain rfl:=Option.some.inj H
   exact lf [(0,1)] [] [] (by kernel_rfl) ⟨rfl,rfl⟩
  ·replace H:=iF c32 H
   refine rg hP hn hm [(3,.b false)] [(16,bV false)] [1,16] [] [0] [_] (by kernel_rfl) ⟨c32,trivial⟩ ?_
   obtain rfl:=Option.some.inj H
   exact lf [(0,1)] [] [] (by kernel_rfl) ⟨rfl,rfl⟩
 ·obtain⟨x33,rfl⟩:∃ z,z=o231:=⟨_,rfl⟩
  rintro e s ⟨rfl,rfl⟩
  refine AWp.cond x33 (by kernel_rfl) (fun c34 => ?_) (fun c34 => ?_)
  ·replace H:=iT c34 H
   refine sr hP hn hm [] [(2,iV .i64 25)] [2] [] [] [] (by kernel_rfl) trivial ?_
   refine AWp.conv (inv:=[]) (vk:=[]) (e0:=[]) (t:=⟨[(2,iV .i64 25)],[],0⟩) (by kernel_rfl) ?_
   refine AWp.ret ?_
   obtain rfl:=Option.some.inj H
   exact rl (.inl rfl) rfl (by kernel_rfl) (by kernel_rfl)
  ·replace H:=iF c34 H
   refine AWp.skip ?_
   refine AWp.seq ?_
   obtain⟨t42,e43,H⟩:=bind_of H
   refine sr hP hn hm [(2,.call [] [] [] [] 0 (bV t42) [])] [(20,bV (!t42))] [1,20] [] [1] [_,_] (by kernel_rfl) ⟨Tryz.call53,f_r04_Right.ok a0.f1 t42 e43,trivial⟩ ?_
   refine AWp.cond (!t42) (by kernel_rfl) (fun c44 => ?_) (fun c44 => ?_)
   ·replace H:=iT c44 H
    refine sr hP hn hm [] [(2,iV .i64 20)] [2] [] [] [] (by kernel_rfl) trivial ?_
    refine AWp.conv (inv:=[]) (vk:=[]) (e0:=[]) (t:=⟨[(2,iV .i64 20)],[],0⟩) (by kernel_rfl) ?_
    refine AWp.ret ?_
    obtain rfl:=Option.some.inj H
    exact rl (.inl rfl) rfl (by kernel_rfl) (by kernel_rfl)
   ·replace H:=iF c44 H
    refine AWp.skip ?_
    refine AWp.seq ?_
    refine AWp.seq ?_
    obtain⟨o233,e234,H⟩:=bind_of H
    refine AWp.mono (Q:=fun e s=>(match (generalizing:=false) o233 with | x49=>e = .normal∧s=⟨[(1,.ptr 2 0 0),(33,bV x49)],[(2,some (.box 32 (aHist a0)))],0⟩)) (AWp.cv ?_) ?_
    ·replace H:=e234;clear e234
     rcases Bool.eq_false_or_eq_true (a0.f2 != (-524288)) with c47 | c47
     ·replace H:=iT c47 H
      rcases Bool.eq_false_or_eq_true (decide (a0.f2≤(-262144))) with c48 | c48
      ·replace H:=iT c48 H
       refine rg hP hn hm [(3,.b true),(7,.b true)] [(33,bV true)] [1,33] [] [1] [_,_] (by kernel_rfl) ⟨c47,c48,trivial⟩ ?_
       obtain rfl:=Option.some.inj H
       exact lf [(1,2)] [] [] (by kernel_rfl) ⟨rfl,rfl⟩
      ·replace H:=iF c48 H
       refine rg hP hn hm [(3,.b true),(7,.b false)] [(33,bV (decide (a0.f2>(262144:Int))))] [1,33] [] [1] [_,_] (by kernel_rfl) ⟨c47,c48,trivial⟩ ?_
       obtain rfl:=Option.some.inj H
       exact lf [(1,2)] [] [] (by kernel_rfl) ⟨rfl,rfl⟩
     ·replace H:=iF c47 H
      refine rg hP hn hm [(3,.b false)] [(33,bV false)] [1,33] [] [1] [_] (by kernel_rfl) ⟨c47,trivial⟩ ?_
      obtain rfl:=Option.some.inj H
      exact lf [(1,2)] [] [] (by kernel_rfl) ⟨rfl,rfl⟩
    ·obtain⟨x49,rfl⟩:∃ z,z=o233:=⟨_,rfl⟩
     rintro e s ⟨rfl,rfl⟩
     refine AWp.cond x49 (by kernel_rfl) (fun c50 => ?_) (fun c50 => ?_)
     ·replace H:=iT c50 H
      refine sr hP hn hm [] [(2,iV .i64 31)] [2] [] [] [] (by kernel_rfl) trivial ?_
      refine AWp.conv (inv:=[]) (vk:=[]) (e0:=[]) (t:=⟨[(2,iV .i64 31)],[],0⟩) (by kernel_rfl) ?_
      refine AWp.ret ?_
      obtain rfl:=Option.some.inj H
      exact rl (.inl rfl) rfl (by kernel_rfl) (by kernel_rfl)
     ·replace H:=iF c50 H
      refine AWp.skip ?_
      refine sr hP hn hm [(2,.app 3 ([a0.f3].map (encInt .u64)))] [(3,.own 3)] [1,3] [(3,some (.row 1 22 ([a0.f3].map (encInt .u64))))] [2,3] [[a0.f3].map (encInt .u64)=[[iI .u64 a0.f3]]] (by kernel_rfl) ⟨by exact rfl,trivial⟩ ?_
      refine AWp.seq ?_
      refine sr hP hn hm [] [(4,iV .i64 0)] [1,3,4] [] [2,3] [] (by kernel_rfl) trivial ?_
      refine AWp.block ?_
      obtain⟨o235,e236,H⟩:=bind_of H
      refine AWp.loop (LWp.conv (inv:=[(2,14),(3,15)]) (vk:=[]) (e0:=[]) (t:=⟨[(1,.ptr 14 0 0),(3,.own 15),(4,iV .i64 0)],[(14,some (.box 32 (aHist a0))),(15,some (.row 1 22 ([a0.f3].map (encInt .u64))))],0⟩) (by kernel_rfl) ?_)
      refine LWp.mono (Q:=fun e s=>(match (generalizing:=false) o235 with | .inl rr=>e = .ret∧s.floor=0∧resOf Tryz.prog Tryz.f33 s=some (iV .i64 rr)∧([]:List (Nat×Option MObj))=[] | .inr x203=>e = .exit 0∧s=⟨[(1,.ptr 28 0 0),(3,.own 29)],[(28,some (.box 32 (aHist a0))),(29,some (.row 1 22 (x203.map (encInt .u64))))],0⟩)) (LWp.cv (withBody (fun body hbody => ?_))) ?_
      ·refine f_r05_Check.l0.partial_correctness a0 (motive:=fun x144 x145 o235=>LWp Γ body (fun e s=>∃ t,Cv Γ s t∧(match (generalizing:=false) o235 with | .inl rr=>e = .ret∧t.floor=0∧resOf Tryz.prog Tryz.f33 t=some (iV .i64 rr)∧([]:List (Nat×Option MObj))=[] | .inr x203=>e = .exit 0∧t=⟨[(1,.ptr 28 0 0),(3,.own 29)],[(28,some (.box 32 (aHist a0))),(29,some (.row 1 22 (x203.map (encInt .u64))))],0⟩)) ⟨[(1,.ptr 14 0 0),(3,.own 15),(4,iV .i64 x145)],[(14,some (.box 32 (aHist a0))),(15,some (.row 1 22 (x144.map (encInt .u64))))],0⟩) ?_ _ _ _ e236
       clear H e236 o235;intro self ih x144 x145 o235 H
       subst hbody
       refine LWp.round ?_
       refine AWp.seq ?_
       refine sr hP hn hm [] [(38,bV (decide (x145<(2:Int))))] [1,3,4,38] [] [14,15] [] (by kernel_rfl) trivial ?_
       refine AWp.cond (decide (x145<(2:Int))) (by kernel_rfl) (fun c146 => ?_) (fun c146 => ?_)
       ·replace H:=iT c146 H
        refine AWp.skip ?_
        refine AWp.seq ?_
        refine AWp.block ?_
        refine sr hP hn hm [] [(5,.im (.row (a0.f6.map eBucket)))] [1,3,4,5] [] [14,15] [] (by kernel_rfl) trivial ?_
        refine AWp.seq ?_
        refine sr hP hn hm [] [(44,bV (x145==(1:Int)))] [1,3,4,5,44] [] [14,15] [] (by kernel_rfl) trivial ?_
        obtain⟨o237,e238,H⟩:=bind_of H
        refine AWp.mono (Q:=fun e s=>(match (generalizing:=false) o237 with | x148=>e = .normal∧s=⟨[(1,.ptr 16 0 0),(3,.own 17),(4,iV .i64 x145),(5,.im (.row (x148.map eBucket)))],[(16,some (.box 32 (aHist a0))),(17,some (.row 1 22 (x144.map (encInt .u64))))],0⟩)) (AWp.cv ?_) ?_
        ·replace H:=e238;clear e238
         refine AWp.cond (x145==(1:Int)) (by kernel_rfl) (fun c147 => ?_) (fun c147 => ?_)
         ·replace H:=iT c147 H
          refine rg hP hn hm [] [(5,.im (.row (a0.f7.map eBucket)))] [1,3,4,5] [] [14,15] [] (by kernel_rfl) trivial ?_
          obtain rfl:=Option.some.inj H
          exact lf [(14,16),(15,17)] [] [] (by kernel_rfl) ⟨rfl,rfl⟩
         ·replace H:=iF c147 H
          refine AWp.skip ?_
          obtain rfl:=Option.some.inj H
          exact lf [(14,16),(15,17)] [] [] (by kernel_rfl) ⟨rfl,rfl⟩
        ·obtain⟨x148,rfl⟩:∃ z,z=o237:=⟨_,rfl⟩
         rintro e s ⟨rfl,rfl⟩
         refine AWp.seq ?_
         refine sr hP hn hm [(1,.any (iV .i64 (x148.length:Int)))] [(49,bV (decide ((x148.length:Int)>(512:Int))))] [1,3,4,5,49] [] [16,17] [((x148.map eBucket).length:Int)=(x148.length:Int)] (by kernel_rfl) ⟨by rw[len_map],trivial⟩ ?_
         refine AWp.cond (decide ((x148.length:Int)>(512:Int))) (by kernel_rfl) (fun c149 => ?_) (fun c149 => ?_)
         ·replace H:=iT c149 H
          refine sr hP hn hm [] [(2,iV .i64 9)] [2] [] [] [] (by kernel_rfl) trivial ?_
          refine AWp.conv (inv:=[]) (vk:=[]) (e0:=[]) (t:=⟨[(2,iV .i64 9)],[],0⟩) (by kernel_rfl) ?_
          refine AWp.ret ?_
          obtain rfl:=Option.some.inj H
          exact rl rfl rfl (by kernel_rfl) (by kernel_rfl)
         ·replace H:=iF c149 H
          refine AWp.skip ?_
          refine sr hP hn hm [] [(6,iV .i64 0)] [1,3,4,5,6] [] [16,17] [] (by kernel_rfl) trivial ?_
          refine AWp.block ?_
          obtain⟨o239,e240,H⟩:=bind_of H
          refine AWp.loop (LWp.conv (inv:=[(16,20),(17,21)]) (vk:=[]) (e0:=[]) (t:=⟨[(1,.ptr 20 0 0),(3,.own 21),(4,iV .i64 x145),(5,.im (.row (x148.map eBucket))),(6,iV .i64 0)],[(20,some (.box 32 (aHist a0))),(21,some (.row 1 22 (x144.map (encInt .u64))))],0⟩) (by kernel_rfl) ?_)
          refine LWp.mono (Q:=fun e s=>(match (generalizing:=false) o239 with | .inl rr=>e = .ret∧s.floor=0∧resOf Tryz.prog Tryz.f33 s=some (iV .i64 rr)∧([]:List (Nat×Option MObj))=[] | .inr x202=>e = .exit 2∧s=⟨[(1,.ptr 26 0 0),(3,.own 27),(4,iV .i64 x145)],[(26,some (.box 32 (aHist a0))),(27,some (.row 1 22 (x202.map (encInt .u64))))],0⟩)) (LWp.cv (withBody (fun body hbody => ?_))) ?_
          ·refine f_r05_Check.l1.partial_correctness a0 x145 x148 (motive:=fun x170 x171 o239=>LWp Γ body (fun e s=>∃ t,Cv Γ s t∧(match (generalizing:=false) o239 with | .inl rr=>e = .ret∧t.floor=0∧resOf Tryz.prog Tryz.f33 t=some (iV .i64 rr)∧([]:List (Nat×Option MObj))=[] | .inr x202=>e = .exit 2∧t=⟨[(1,.ptr 26 0 0),(3,.own 27),(4,iV .i64 x145)],[(26,some (.box 32 (aHist a0))),(27,some (.row 1 22 (x202.map (encInt .u64))))],0⟩)) ⟨[(1,.ptr 20 0 0),(3,.own 21),(4,iV .i64 x145),(5,.im (.row (x148.map eBucket))),(6,iV .i64 x171)],[(20,some (.box 32 (aHist a0))),(21,some (.row 1 22 (x170.map (encInt .u64))))],0⟩) ?_ _ _ _ e240
           clear H e240 o239;intro self ih x170 x171 o239 H
           subst hbody
           refine LWp.round ?_
           refine AWp.seq ?_
           refine sr hP hn hm [(2,.any (iV .i64 (x148.length:Int)))] [(53,bV (decide (x171<(x148.length:Int))))] [1,3,4,5,6,53] [] [20,21] [((x148.map eBucket).length:Int)=(x148.length:Int)] (by kernel_rfl) ⟨by rw[len_map],trivial⟩ ?_
           refine AWp.cond (decide (x171<(x148.length:Int))) (by kernel_rfl) (fun c172 => ?_) (fun c172 => ?_)
           ·replace H:=iT c172 H
            refine AWp.skip ?_
            refine AWp.seq ?_
            refine AWp.block ?_
            refine AWp.seq ?_
            obtain⟨b178,p179,q180,H⟩:=at_of H
            obtain⟨t181,e182,H⟩:=bind_of H
            refine sr hP hn hm [(4,.c (eBucket b178)),(7,.call [] [] [] [] 0 (bV t181) [])] [(64,bV (!t181))] [1,3,4,5,6,64] [] [20,21] [_,_,_,_] (by kernel_rfl) ⟨p179,el_map eBucket q180,Tryz.call54,f_r04_In.ok a0.f1 b178.f0 t181 e182,trivial⟩ ?_
            refine AWp.cond (!t181) (by kernel_rfl) (fun c183 => ?_) (fun c183 => ?_)
            ·replace H:=iT c183 H
             refine sr hP hn hm [] [(2,iV .i64 4)] [2] [] [] [] (by kernel_rfl) trivial ?_
             refine AWp.conv (inv:=[]) (vk:=[]) (e0:=[]) (t:=⟨[(2,iV .i64 4)],[],0⟩) (by kernel_rfl) ?_
             refine AWp.ret ?_
             obtain rfl:=Option.some.inj H
             exact rl rfl rfl (by kernel_rfl) (by kernel_rfl)
            ·replace H:=iF c183 H
             refine AWp.skip ?_
             refine AWp.seq ?_
             refine AWp.seq ?_
             obtain⟨o241,e242,H⟩:=bind_of H
             refine AWp.mono (Q:=fun e s=>(match (generalizing:=false) o241 with | x192=>e = .normal∧s=⟨[(1,.ptr 22 0 0),(3,.own 23),(4,iV .i64 x145),(5,.im (.row (x148.map eBucket))),(6,iV .i64 x171),(80,bV x192)],[(22,some (.box 32 (aHist a0))),(23,some (.row 1 22 (x170.map (encInt .u64))))],0⟩)) (AWp.cv ?_) ?_
             ·replace H:=e242;clear e242
              rcases Bool.eq_false_or_eq_true (decide (x171>(0:Int))) with c188 | c188
              ·replace H:=iT c188 H
               obtain⟨b189,p190,q191,H⟩:=at_of H
               refine rg hP hn hm [(2,.b true),(5,.c (eBucket b178)),(11,.c (eBucket b189))] [(68,.im (.row (x148.map eBucket))),(69,iV .i64 x171),(70,.ip [iI .i64 b178.f0,iI .u64 b178.f1]),(71,.ip [iI .i64 b178.f0,iI .u64 b178.f1]),(72,iV .i64 b178.f0),(73,.im (.row (x148.map eBucket))),(74,iV .i64 x171),(75,iV .i64 (i64.wrap (x171-(1:Int)))),(76,.ip [iI .i64 b189.f0,iI .u64 b189.f1]),(77,.ip [iI .i64 b189.f0,iI .u64 b189.f1]),(78,iV .i64 b189.f0),(79,bV (decide (b178.f0≤b189.f0))),(80,bV (decide (b178.f0≤b189.f0)))] [1,3,4,5,6,68,69,70,71,72,73,74,75,76,77,78,79,80] [] [20,21] [_,_,_,_,_] (by kernel_rfl) ⟨c188,p179,el_map eBucket q180,p190,el_map eBucket q191,trivial⟩ ?_
               obtain rfl:=Option.some.inj H
               exact lf [(20,22),(21,23)] [] [] (by kernel_rfl) ⟨rfl,rfl⟩
              ·replace H:=iF c188 H
               refine rg hP hn hm [(2,.b false)] [(80,bV false)] [1,3,4,5,6,80] [] [20,21] [_] (by kernel_rfl) ⟨c188,trivial⟩ ?_
               obtain rfl:=Option.some.inj H
               exact lf [(20,22),(21,23)] [] [] (by kernel_rfl) ⟨rfl,rfl⟩
             ·obtain⟨x192,rfl⟩:∃ z,z=o241:=⟨_,rfl⟩
              rintro e s ⟨rfl,rfl⟩
              refine AWp.cond x192 (by kernel_rfl) (fun c193 => ?_) (fun c193 => ?_)
              ·replace H:=iT c193 H
               refine sr hP hn hm [] [(2,iV .i64 32)] [2] [] [] [] (by kernel_rfl) trivial ?_
               refine AWp.conv (inv:=[]) (vk:=[]) (e0:=[]) (t:=⟨[(2,iV .i64 32)],[],0⟩) (by kernel_rfl) ?_
               refine AWp.ret ?_
               obtain rfl:=Option.some.inj H
               exact rl rfl rfl (by kernel_rfl) (by kernel_rfl)
              ·replace H:=iF c193 H
               refine AWp.skip ?_
               refine AWp.seq ?_
               refine sr hP hn hm [(2,.c (eBucket b178))] [(86,bV (b178.f1==(0:Int)))] [1,3,4,5,6,86] [] [22,23] [_,_] (by kernel_rfl) ⟨p179,el_map eBucket q180,trivial⟩ ?_
               refine AWp.cond (b178.f1==(0:Int)) (by kernel_rfl) (fun c194 => ?_) (fun c194 => ?_)
               ·replace H:=iT c194 H
                refine sr hP hn hm [] [(2,iV .i64 21)] [2] [] [] [] (by kernel_rfl) trivial ?_
                refine AWp.conv (inv:=[]) (vk:=[]) (e0:=[]) (t:=⟨[(2,iV .i64 21)],[],0⟩) (by kernel_rfl) ?_
                refine AWp.ret ?_
                obtain rfl:=Option.some.inj H
                exact rl rfl rfl (by kernel_rfl) (by kernel_rfl)
               ·replace H:=iF c194 H
                refine AWp.skip ?_
                refine AWp.seq ?_
                obtain⟨t197,e198,H⟩:=bind_of H
                refine sr hP hn hm [(4,.c (eBucket b178)),(8,.call [] [] [] [] 0 (iV .i64 t197) [])] [(98,bV (decide (t197<a0.f2)))] [1,3,4,5,6,98] [] [22,23] [_,_,_,_] (by kernel_rfl) ⟨p179,el_map eBucket q180,Tryz.call55,f_r04_Units.ok a0.f1 (i64.wrap (b178.f0-(1:Int))) t197 e198,trivial⟩ ?_
                refine AWp.cond (decide (t197<a0.f2)) (by kernel_rfl) (fun c199 => ?_) (fun c199 => ?_)
                ·replace H:=iT c199 H
                 refine sr hP hn hm [] [(2,iV .i64 31)] [2] [] [] [] (by kernel_rfl) trivial ?_
                 refine AWp.conv (inv:=[]) (vk:=[]) (e0:=[]) (t:=⟨[(2,iV .i64 31)],[],0⟩) (by kernel_rfl) ?_
                 refine AWp.ret ?_
                 obtain rfl:=Option.some.inj H
                 exact rl rfl rfl (by kernel_rfl) (by kernel_rfl)
                ·replace H:=iF c199 H
                 refine AWp.skip ?_
                 obtain⟨c201,H⟩:=chk_of H
                 refine rg hP hn hm [(3,.c (eBucket b178)),(6,.app 24 ([b178.f1].map (encInt .u64))),(7,.app 25 ((x170++[b178.f1]).map (encInt .u64)))] [(3,.own 25)] [1,3,4,5,6] [(25,some (.row 1 22 ((x170++[b178.f1]).map (encInt .u64))))] [22,25] [_,_,[b178.f1].map (encInt .u64)=[[iI .u64 b178.f1]],(x170++[b178.f1]).map (encInt .u64)=(x170.map (encInt .u64))++([b178.f1].map (encInt .u64)),∀ c∈([b178.f1].map (encInt .u64)),c.length=1,∀ c∈([b178.f1].map (encInt .u64)),leaves (c.map .im)=true,((x170.map (encInt .u64)).length+([b178.f1].map (encInt .u64)).length)*8≤140737488355328] (by kernel_rfl) ⟨p179,el_map eBucket q180,by exact rfl,by simp,by exact all_len _ _ _ (fun _=>rfl),by exact all_leaf _ _ (fun _=>rfl),by simpa using c201,trivial⟩ ?_
                 refine rg hP hn hm [] [(6,iV .i64 (i64.wrap (x171+(1:Int))))] [1,3,4,5,6] [] [22,25] [] (by kernel_rfl) trivial ?_
                 exact LWp.conv [(22,20),(25,21)] [] [] (by kernel_rfl) (ih _ _ _ H)
           ·replace H:=iF c172 H
            refine AWp.exit ?_
            obtain rfl:=Option.some.inj H
            exact lf [(20,26),(21,27)] [] [] (by kernel_rfl) ⟨rfl,rfl⟩
          ·rcases o239 with rr | x202
           ·skip
            rintro e s ⟨rfl,hfl,hres⟩
            obtain rfl:=Option.some.inj H
            exact Exists.intro _ (And.intro (fun _ _ h=>h) (And.intro rfl (And.intro hfl hres)))
           ·skip
            rintro e s ⟨rfl,rfl⟩
            refine rg hP hn hm [] [(4,iV .i64 (i64.wrap (x145+(1:Int))))] [1,3,4] [] [26,27] [] (by kernel_rfl) trivial ?_
            exact LWp.conv [(26,14),(27,15)] [] [] (by kernel_rfl) (ih _ _ _ H)
       ·replace H:=iF c146 H
        refine AWp.exit ?_
        obtain rfl:=Option.some.inj H
        exact lf [(14,28),(15,29)] [] [] (by kernel_rfl) ⟨rfl,rfl⟩
      ·rcases o235 with rr | x203
       ·skip
        rintro e s ⟨rfl,hfl,hres⟩
        obtain rfl:=Option.some.inj H
        exact Exists.intro _ (And.intro (fun _ _ h=>h) (And.intro (.inl rfl) (And.intro hfl hres)))
       ·skip
        rintro e s ⟨rfl,rfl⟩
        obtain⟨t227,e228,H⟩:=bind_of H
        refine sr hP hn hm [(1,.call [] [] [29] [] 0 (.tup [iV .u64 t227.1,iV .i64 t227.2]) [])] [(7,iV .u64 t227.1),(8,iV .i64 t227.2)] [1,7,8] [] [28] [_,_] (by kernel_rfl) ⟨Tryz.call56,f_r01_Add.ok x203 t227 e228,trivial⟩ ?_
        refine AWp.seq ?_
        refine sr hP hn hm [] [(113,bV (t227.2 != (0:Int)))] [1,7,113] [] [28] [] (by kernel_rfl) trivial ?_
        refine AWp.cond (t227.2 != (0:Int)) (by kernel_rfl) (fun c229 => ?_) (fun c229 => ?_)
        ·replace H:=iT c229 H
         refine sr hP hn hm [] [(2,iV .i64 5)] [2] [] [] [] (by kernel_rfl) trivial ?_
         refine AWp.conv (inv:=[]) (vk:=[]) (e0:=[]) (t:=⟨[(2,iV .i64 5)],[],0⟩) (by kernel_rfl) ?_
         refine AWp.ret ?_
         obtain rfl:=Option.some.inj H
         exact rl (.inl rfl) rfl (by kernel_rfl) (by kernel_rfl)
        ·replace H:=iF c229 H
         refine AWp.skip ?_
         refine AWp.seq ?_
         refine sr hP hn hm [] [(117,bV (t227.1 != a0.f4))] [117] [] [] [] (by kernel_rfl) trivial ?_
         refine AWp.cond (t227.1 != a0.f4) (by kernel_rfl) (fun c230 => ?_) (fun c230 => ?_)
         ·replace H:=iT c230 H
          refine sr hP hn hm [] [(2,iV .i64 21)] [2] [] [] [] (by kernel_rfl) trivial ?_
          refine AWp.conv (inv:=[]) (vk:=[]) (e0:=[]) (t:=⟨[(2,iV .i64 21)],[],0⟩) (by kernel_rfl) ?_
          refine AWp.ret ?_
          obtain rfl:=Option.some.inj H
          exact rl (.inl rfl) rfl (by kernel_rfl) (by kernel_rfl)
         ·replace H:=iF c230 H
          refine AWp.skip ?_
          refine sr hP hn hm [] [(2,iV .i64 0)] [2] [] [] [] (by kernel_rfl) trivial ?_
          refine AWp.conv (inv:=[]) (vk:=[]) (e0:=[]) (t:=⟨[(2,iV .i64 0)],[],0⟩) (by kernel_rfl) ?_
          refine AWp.ret ?_
          obtain rfl:=Option.some.inj H
          exact rl (.inl rfl) rfl (by kernel_rfl) (by kernel_rfl)
def f_r15_Rising.l0 (a0:List TSample) (x257:Int):Option (Bool ⊕ Unit):=if(decide (x257<(a0.length:Int)))=true then((((at? a0 x257)>>=fun b272=>(f_r15_time.f b272.f0)>>=fun t275=>if(!t275)=true then(some true) else((f_r05_Check.f b272.f1)>>=fun t278=>if(t278 != (0:Int))=true then(some true) else(if(decide (x257>(0:Int)))=true then((at? a0 (i64.wrap (x257-(1:Int))))>>=fun b282=>some (decide (b272.f0≤b282.f0))) else(some false)))):Option (Bool))>>=fun x285=>if x285=true then(some (.inl false)) else(f_r15_Rising.l0 a0 (i64.wrap (x257+(1:Int))))) else(some (.inr ()))
partial_fixpoint
def f_r15_Rising.f (a0:List TSample):Option (Bool):=(f_r15_Rising.l0 a0 0)>>=fun oo=>match oo with | .inl rr=>(some rr) | .inr _=>(some true)
theorem f_r15_Rising.ok (a0:List TSample) (r:Bool) (H:f_r15_Rising.f a0=some r):Pv.Fn Tryz.prog 19 [.im (.row (a0.map eSample))] [] 0 (fun x o=>x=bV r∧o=[]):=by
 unfold f_r15_Rising.f at H
 refine Fn.bodyK [] Tryz.func19 rfl rfl (fun Γ hP hn => ?_)
 have hm:Tryz.prog.follows .mixedOrders=true:=by kernel_rfl
 replace hn:Γ.n=44:=hn
 refine sr hP hn hm [] [] [0] [] [] [] (by kernel_rfl) trivial ?_
 refine AWp.seq ?_
 refine sr hP hn hm [] [(3,iV .i64 0)] [0,3] [] [] [] (by kernel_rfl) trivial ?_
 refine AWp.block ?_
 obtain⟨o287,e288,H⟩:=bind_of H
 refine AWp.loop (LWp.conv (inv:=[]) (vk:=[]) (e0:=[]) (t:=⟨[(0,.im (.row (a0.map eSample))),(3,iV .i64 0)],[],0⟩) (by kernel_rfl) ?_)
 refine LWp.mono (Q:=fun e s=>(match (generalizing:=false) o287 with | .inl rr=>e = .ret∧s.floor=0∧resOf Tryz.prog Tryz.f19 s=some (bV rr)∧([]:List (Nat×Option MObj))=[] | .inr _=>e = .exit 0∧s=⟨[],[],0⟩)) (LWp.cv (withBody (fun body hbody => ?_))) ?_
 ·refine f_r15_Rising.l0.partial_correctness a0 (motive:=fun x257 o287=>LWp Γ body (fun e s=>∃ t,Cv Γ s t∧(match (generalizing:=false) o287 with | .inl rr=>e = .ret∧t.floor=0∧resOf Tryz.prog Tryz.f19 t=some (bV rr)∧([]:List (Nat×Option MObj))=[] | .inr _=>e = .exit 0∧t=⟨[],[],0⟩)) ⟨[(0,.im (.row (a0.map eSample))),(3,iV .i64 x257)],[],0⟩) ?_ _ _ e288
  clear H e288 o287;intro self ih x257 o287 H
  subst hbody
  refine LWp.round ?_
  refine AWp.seq ?_
  refine sr hP hn hm [(2,.any (iV .i64 (a0.length:Int)))] [(7,bV (decide (x257<(a0.length:Int))))] [0,3,7] [] [] [((a0.map eSample).length:Int)=(a0.length:Int)] (by kernel_rfl) ⟨by rw[len_map],trivial⟩ ?_
  refine AWp.cond (decide (x257<(a0.length:Int))) (by kernel_rfl) (fun c258 => ?_) (fun c258 => ?_)
  ·replace H:=iT c258 H
   refine AWp.skip ?_
   refine AWp.seq ?_
   refine AWp.block ?_
   refine AWp.seq ?_
   obtain⟨o289,e290,H⟩:=bind_of H
   refine AWp.mono (Q:=fun e s=>(match (generalizing:=false) o289 with | x285=>e = .normal∧s=⟨[(0,.im (.row (a0.map eSample))),(3,iV .i64 x257),(43,bV x285)],[],0⟩)) (AWp.cv ?_) ?_
   ·replace H:=e290;clear e290
    obtain⟨b272,p273,q274,H⟩:=at_of H
    obtain⟨t275,e276,H⟩:=bind_of H
    rcases Bool.eq_false_or_eq_true (!t275) with c277 | c277
    ·replace H:=iT c277 H
     refine rg hP hn hm [(2,.c (eSample b272)),(5,.call [] [] [] [] 0 (bV t275) []),(7,.b true)] [(43,bV true)] [0,3,43] [] [] [_,_,_,_,_] (by kernel_rfl) ⟨p273,el_map eSample q274,Tryz.call32,f_r15_time.ok b272.f0 t275 e276,c277,trivial⟩ ?_
     obtain rfl:=Option.some.inj H
     exact lf [] [] [] (by kernel_rfl) ⟨rfl,rfl⟩
    ·replace H:=iF c277 H
     obtain⟨t278,e279,H⟩:=bind_of H
     rcases Bool.eq_false_or_eq_true (t278 != (0:Int)) with c280 | c280
     ·replace H:=iT c280 H
      refine rg hP hn hm [(2,.c (eSample b272)),(5,.call [] [] [] [] 0 (bV t275) []),(7,.b false),(10,.c (eSample b272)),(13,.call [] [] [] [] 0 (iV .i64 t278) []),(16,.b true)] [(18,.im (.row (a0.map eSample))),(19,iV .i64 x257),(20,.ip [iI .i64 b272.f0,iI .i64 b272.f1.f0,iI .i64 b272.f1.f1,iI .i64 b272.f1.f2,iI .u64 b272.f1.f3,iI .u64 b272.f1.f4,iI .i64 b272.f1.f5,.row (b272.f1.f6.map eBucket),.row (b272.f1.f7.map eBucket)]),(21,.ip [iI .i64 b272.f1.f0,iI .i64 b272.f1.f1,iI .i64 b272.f1.f2,iI .u64 b272.f1.f3,iI .u64 b272.f1.f4,iI .i64 b272.f1.f5,.row (b272.f1.f6.map eBucket),.row (b272.f1.f7.map eBucket)]),(22,.agg (aHist b272.f1)),(23,iV .i64 t278),(24,bV (t278 != (0:Int))),(43,bV true)] [0,3,18,19,20,21,22,23,24,43] [] [] [_,_,_,_,_,_,_,_,_,_] (by kernel_rfl) ⟨p273,el_map eSample q274,Tryz.call32,f_r15_time.ok b272.f0 t275 e276,c277,p273,el_map eSample q274,Tryz.call33,f_r05_Check.ok b272.f1 t278 e279,c280,trivial⟩ ?_
      obtain rfl:=Option.some.inj H
      exact lf [] [] [] (by kernel_rfl) ⟨rfl,rfl⟩
     ·replace H:=iF c280 H
      rcases Bool.eq_false_or_eq_true (decide (x257>(0:Int))) with c281 | c281
      ·replace H:=iT c281 H
       obtain⟨b282,p283,q284,H⟩:=at_of H
       refine rg hP hn hm [(2,.c (eSample b272)),(5,.call [] [] [] [] 0 (bV t275) []),(7,.b false),(10,.c (eSample b272)),(13,.call [] [] [] [] 0 (iV .i64 t278) []),(16,.b false),(19,.b true),(22,.c (eSample b272)),(28,.c (eSample b282))] [(18,.im (.row (a0.map eSample))),(19,iV .i64 x257),(20,.ip [iI .i64 b272.f0,iI .i64 b272.f1.f0,iI .i64 b272.f1.f1,iI .i64 b272.f1.f2,iI .u64 b272.f1.f3,iI .u64 b272.f1.f4,iI .i64 b272.f1.f5,.row (b272.f1.f6.map eBucket),.row (b272.f1.f7.map eBucket)]),(21,.ip [iI .i64 b272.f1.f0,iI .i64 b272.f1.f1,iI .i64 b272.f1.f2,iI .u64 b272.f1.f3,iI .u64 b272.f1.f4,iI .i64 b272.f1.f5,.row (b272.f1.f6.map eBucket),.row (b272.f1.f7.map eBucket)]),(22,.agg (aHist b272.f1)),(23,iV .i64 t278),(24,bV (t278 != (0:Int))),(27,iV .i64 x257),(28,bV (decide (x257>(0:Int)))),(29,bV true),(30,.im (.row (a0.map eSample))),(31,iV .i64 x257),(32,.ip [iI .i64 b272.f0,iI .i64 b272.f1.f0,iI .i64 b272.f1.f1,iI .i64 b272.f1.f2,iI .u64 b272.f1.f3,iI .u64 b272.f1.f4,iI .i64 b272.f1.f5,.row (b272.f1.f6.map eBucket),.row (b272.f1.f7.map eBucket)]),(33,.ip [iI .i64 b272.f0,iI .i64 b272.f1.f0,iI .i64 b272.f1.f1,iI .i64 b272.f1.f2,iI .u64 b272.f1.f3,iI .u64 b272.f1.f4,iI .i64 b272.f1.f5,.row (b272.f1.f6.map eBucket),.row (b272.f1.f7.map eBucket)]),(34,iV .i64 b272.f0),(35,.im (.row (a0.map eSample))),(36,iV .i64 x257),(37,iV .i64 (i64.wrap (x257-(1:Int)))),(38,.ip [iI .i64 b282.f0,iI .i64 b282.f1.f0,iI .i64 b282.f1.f1,iI .i64 b282.f1.f2,iI .u64 b282.f1.f3,iI .u64 b282.f1.f4,iI .i64 b282.f1.f5,.row (b282.f1.f6.map eBucket),.row (b282.f1.f7.map eBucket)]),(39,.ip [iI .i64 b282.f0,iI .i64 b282.f1.f0,iI .i64 b282.f1.f1,iI .i64 b282.f1.f2,iI .u64 b282.f1.f3,iI .u64 b282.f1.f4,iI .i64 b282.f1.f5,.row (b282.f1.f6.map eBucket),.row (b282.f1.f7.map eBucket)]),(40,iV .i64 b282.f0),(41,bV (decide (b272.f0≤b282.f0))),(42,bV (decide (b272.f0≤b282.f0))),(43,bV (decide (b272.f0≤b282.f0)))] [0,3,18,19,20,21,22,23,24,27,28,29,30,31,32,33,34,35,36,37,38,39,40,41,42,43] [] [] [_,_,_,_,_,_,_,_,_,_,_,_,_,_,_] (by kernel_rfl) ⟨p273,el_map eSample q274,Tryz.call32,f_r15_time.ok b272.f0 t275 e276,c277,p273,el_map eSample q274,Tryz.call33,f_r05_Check.ok b272.f1 t278 e279,c280,c281,p273,el_map eSample q274,p283,el_map eSample q284,trivial⟩ ?_
       obtain rfl:=Option.some.inj H
       exact lf [] [] [] (by kernel_rfl) ⟨rfl,rfl⟩
      ·replace H:=iF c281 H
       refine rg hP hn hm [(2,.c (eSample b272)),(5,.call [] [] [] [] 0 (bV t275) []),(7,.b false),(10,.c (eSample b272)),(13,.call [] [] [] [] 0 (iV .i64 t278) []),(16,.b false),(19,.b false)] [(18,.im (.row (a0.map eSample))),(19,iV .i64 x257),(20,.ip [iI .i64 b272.f0,iI .i64 b272.f1.f0,iI .i64 b272.f1.f1,iI .i64 b272.f1.f2,iI .u64 b272.f1.f3,iI .u64 b272.f1.f4,iI .i64 b272.f1.f5,.row (b272.f1.f6.map eBucket),.row (b272.f1.f7.map eBucket)]),(21,.ip [iI .i64 b272.f1.f0,iI .i64 b272.f1.f1,iI .i64 b272.f1.f2,iI .u64 b272.f1.f3,iI .u64 b272.f1.f4,iI .i64 b272.f1.f5,.row (b272.f1.f6.map eBucket),.row (b272.f1.f7.map eBucket)]),(22,.agg (aHist b272.f1)),(23,iV .i64 t278),(24,bV (t278 != (0:Int))),(27,iV .i64 x257),(28,bV (decide (x257>(0:Int)))),(29,bV false),(42,bV false),(43,bV false)] [0,3,18,19,20,21,22,23,24,27,28,29,42,43] [] [] [_,_,_,_,_,_,_,_,_,_,_] (by kernel_rfl) ⟨p273,el_map eSample q274,Tryz.call32,f_r15_time.ok b272.f0 t275 e276,c277,p273,el_map eSample q274,Tryz.call33,f_r05_Check.ok b272.f1 t278 e279,c280,c281,trivial⟩ ?_
       obtain rfl:=Option.some.inj H
       exact lf [] [] [] (by kernel_rfl) ⟨rfl,rfl⟩
   ·obtain⟨x285,rfl⟩:∃ z,z=o289:=⟨_,rfl⟩
    rintro e s ⟨rfl,rfl⟩
    refine AWp.cond x285 (by kernel_rfl) (fun c286 => ?_) (fun c286 => ?_)
    ·replace H:=iT c286 H
     refine sr hP hn hm [] [(2,bV false)] [2] [] [] [] (by kernel_rfl) trivial ?_
     refine AWp.conv (inv:=[]) (vk:=[]) (e0:=[]) (t:=⟨[(2,bV false)],[],0⟩) (by kernel_rfl) ?_
     refine AWp.ret ?_
     obtain rfl:=Option.some.inj H
     exact rl rfl rfl (by kernel_rfl) (by kernel_rfl)
    ·replace H:=iF c286 H
     refine AWp.skip ?_
     refine rg hP hn hm [] [(3,iV .i64 (i64.wrap (x257+(1:Int))))] [0,3] [] [] [] (by kernel_rfl) trivial ?_
     exact LWp.conv [] [] [] (by kernel_rfl) (ih _ _ H)
  ·replace H:=iF c258 H
   refine AWp.exit ?_
   obtain rfl:=Option.some.inj H
   exact lf [] [] [] (by kernel_rfl) ⟨rfl,rfl⟩
 ·rcases o287 with rr | _
  ·skip
   rintro e s ⟨rfl,hfl,hres⟩
   obtain rfl:=Option.some.inj H
   exact Exists.intro _ (And.intro (fun _ _ h=>h) (And.intro (.inl rfl) (And.intro hfl hres)))
  ·skip
   rintro e s ⟨rfl,rfl⟩
   refine sr hP hn hm [] [(2,bV true)] [2] [] [] [] (by kernel_rfl) trivial ?_
   refine AWp.conv (inv:=[]) (vk:=[]) (e0:=[]) (t:=⟨[(2,bV true)],[],0⟩) (by kernel_rfl) ?_
   refine AWp.ret ?_
   obtain rfl:=Option.some.inj H
   exact rl (.inl rfl) rfl (by kernel_rfl) (by kernel_rfl)
def f_l19_light.l0 (a0:List TSample) (x8:Int) (x9:Int):Option (Int):=if(decide (x9<(a0.length:Int)))=true then((at? a0 x9)>>=fun b14=>f_l19_light.l0 a0 (i64.wrap (x8+(i64.wrap ((i64.wrap ((1:Int)+(b14.f1.f6.length:Int)))+(b14.f1.f7.length:Int))))) (i64.wrap (x9+(1:Int)))) else(some x8)
partial_fixpoint
def f_l19_light.f (a0:List TSample):Option (Bool):=(f_l19_light.l0 a0 0 0)>>=fun x17=>((if(decide (x17≤(400:Int)))=true then((f_r15_Rising.f a0)>>=fun t294=>some t294) else(some false)):Option (Bool))>>=fun x296=>some x296
theorem f_l19_light.ok (a0:List TSample) (r:Bool) (H:f_l19_light.f a0=some r):Pv.Fn Tryz.prog 4 [.im (.row (a0.map eSample))] [] 0 (fun x o=>x=bV r∧o=[]):=by
 unfold f_l19_light.f at H
 refine Fn.bodyK [] Tryz.func4 rfl rfl (fun Γ hP hn => ?_)
 have hm:Tryz.prog.follows .mixedOrders=true:=by kernel_rfl
 replace hn:Γ.n=31:=hn
 refine sr hP hn hm [] [] [0] [] [] [] (by kernel_rfl) trivial ?_
 refine sr hP hn hm [] [(3,iV .i64 0)] [0,3] [] [] [] (by kernel_rfl) trivial ?_
 refine AWp.seq ?_
 refine sr hP hn hm [(1,.any (iV .i64 (a0.length:Int)))] [(6,.im (.row (a0.map eSample))),(7,iV .i64 (a0.length:Int)),(8,iV .i64 0)] [0,3,6,7,8] [] [] [((a0.map eSample).length:Int)=(a0.length:Int)] (by kernel_rfl) ⟨by rw[len_map],trivial⟩ ?_
 refine AWp.block ?_
 obtain⟨o297,e298,H⟩:=bind_of H
 refine AWp.loop (LWp.conv (inv:=[]) (vk:=[]) (e0:=[]) (t:=⟨[(0,.im (.row (a0.map eSample))),(3,iV .i64 0),(6,.im (.row (a0.map eSample))),(7,iV .i64 (a0.length:Int)),(8,iV .i64 0)],[],0⟩) (by kernel_rfl) ?_)
 refine LWp.mono (Q:=fun e s=>(match (generalizing:=false) o297 with | x17=>e = .exit 0∧s=⟨[(0,.im (.row (a0.map eSample))),(3,iV .i64 x17)],[],0⟩)) (LWp.cv (withBody (fun body hbody => ?_))) ?_
 ·refine f_l19_light.l0.partial_correctness a0 (motive:=fun x8 x9 o297=>LWp Γ body (fun e s=>∃ t,Cv Γ s t∧(match (generalizing:=false) o297 with | x17=>e = .exit 0∧t=⟨[(0,.im (.row (a0.map eSample))),(3,iV .i64 x17)],[],0⟩)) ⟨[(0,.im (.row (a0.map eSample))),(3,iV .i64 x8),(6,.im (.row (a0.map eSample))),(7,iV .i64 (a0.length:Int)),(8,iV .i64 x9)],[],0⟩) ?_ _ _ _ e298
  clear H e298 o297;intro self ih x8 x9 o297 H
  subst hbody
  refine LWp.round ?_
  refine sr hP hn hm [] [(9,bV (decide (x9<(a0.length:Int))))] [0,3,6,7,8,9] [] [] [] (by kernel_rfl) trivial ?_
  refine AWp.seq ?_
  refine AWp.cond (decide (x9<(a0.length:Int))) (by kernel_rfl) (fun c10 => ?_) (fun c10 => ?_)
  ·replace H:=iT c10 H
   refine AWp.skip ?_
   refine AWp.seq ?_
   refine AWp.block ?_
   obtain⟨b14,p15,q16,H⟩:=at_of H
   refine sr hP hn hm [(0,.c (eSample b14)),(2,.k 1)] [(5,.ptr 1 0 0)] [0,3,5,6,7,8] [(1,some (.box 65 [iV .i64 b14.f0,iV .i64 b14.f1.f0,iV .i64 b14.f1.f1,iV .i64 b14.f1.f2,iV .u64 b14.f1.f3,iV .u64 b14.f1.f4,iV .i64 b14.f1.f5,.im (.row (b14.f1.f6.map eBucket)),.im (.row (b14.f1.f7.map eBucket))]))] [1] [_,_] (by kernel_rfl) ⟨p15,el_map eSample q16,trivial⟩ ?_
   refine rg hP hn hm [(4,.any (iV .i64 (b14.f1.f6.length:Int))),(9,.any (iV .i64 (b14.f1.f7.length:Int)))] [(3,iV .i64 (i64.wrap (x8+(i64.wrap ((i64.wrap ((1:Int)+(b14.f1.f6.length:Int)))+(b14.f1.f7.length:Int))))))] [0,3,6,7,8] [] [] [((b14.f1.f6.map eBucket).length:Int)=(b14.f1.f6.length:Int),((b14.f1.f7.map eBucket).length:Int)=(b14.f1.f7.length:Int)] (by kernel_rfl) ⟨by rw[len_map],by rw[len_map],trivial⟩ ?_
   refine rg hP hn hm [] [(8,iV .i64 (i64.wrap (x9+(1:Int))))] [0,3,6,7,8] [] [] [] (by kernel_rfl) trivial ?_
   exact LWp.conv [] [] [] (by kernel_rfl) (ih _ _ _ H)
  ·replace H:=iF c10 H
   refine AWp.exit ?_
   obtain rfl:=Option.some.inj H
   exact lf [] [] [] (by kernel_rfl) ⟨rfl,rfl⟩
 ·obtain⟨x17,rfl⟩:∃ z,z=o297:=⟨_,rfl⟩
  rintro e s ⟨rfl,rfl⟩
  refine AWp.seq ?_
  obtain⟨o299,e300,H⟩:=bind_of H
  refine AWp.mono (Q:=fun e s=>(match (generalizing:=false) o299 with | x296=>e = .normal∧s=⟨[(2,bV x296)],[],0⟩)) (AWp.cv ?_) ?_
  ·replace H:=e300;clear e300
   rcases Bool.eq_false_or_eq_true (decide (x17≤(400:Int))) with c293 | c293
   ·replace H:=iT c293 H
    obtain⟨t294,e295,H⟩:=bind_of H
    refine rg hP hn hm [(2,.b true),(4,.call [] [] [] [] 0 (bV t294) [])] [(2,bV t294)] [2] [] [] [_,_,_] (by kernel_rfl) ⟨c293,Tryz.call19,f_r15_Rising.ok a0 t294 e295,trivial⟩ ?_
    obtain rfl:=Option.some.inj H
    exact lf [] [] [] (by kernel_rfl) ⟨rfl,rfl⟩
   ·replace H:=iF c293 H
    refine rg hP hn hm [(2,.b false)] [(2,bV false)] [2] [] [] [_] (by kernel_rfl) ⟨c293,trivial⟩ ?_
    obtain rfl:=Option.some.inj H
    exact lf [] [] [] (by kernel_rfl) ⟨rfl,rfl⟩
  ·obtain⟨x296,rfl⟩:∃ z,z=o299:=⟨_,rfl⟩
   rintro e s ⟨rfl,rfl⟩
   refine AWp.conv (inv:=[]) (vk:=[]) (e0:=[]) (t:=⟨[(2,bV x296)],[],0⟩) (by kernel_rfl) ?_
   refine AWp.ret ?_
   obtain rfl:=Option.some.inj H
   exact rl (.inl rfl) rfl (by kernel_rfl) (by kernel_rfl)
def f_slices_Clone_api_Sample.f (a0:List TSample):Option (List TSample):=(chk ((([]:List TSample).length+a0.length)*104≤140737488355328))>>=fun _=>some a0
theorem f_slices_Clone_api_Sample.ok (a0 r:List TSample) (H:f_slices_Clone_api_Sample.f a0=some r):Pv.Fn Tryz.prog 21 [.im (.row (a0.map eSample))] [] 0 (fun x o=>x = .own 0∧o=[(0,some (.row 9 65 (r.map eSample)))]):=by
 unfold f_slices_Clone_api_Sample.f at H
 obtain⟨c1,H⟩:=chk_of H
 obtain rfl:=Option.some.inj H
 refine Fn.bodyK [0] Tryz.func21 rfl rfl (fun Γ hP hn => ?_)
 have hm:Tryz.prog.follows .mixedOrders=true:=by kernel_rfl
 replace hn:Γ.n=8:=hn
 refine AWp.seq ?_
 refine reg hP hn hm [] [0,2] [] ⟨[(0,.im (.row (a0.map eSample))),(2,.none0)],[],0⟩ [] (by kernel_rfl) trivial ?_
 refine AWp.seq ?_
 cases a0 with
 | nil =>
  refine AWp.nilSplit 0 rfl (fun b m => ?_)
  refine AWp.seq ?_
  cases b with
  | none =>
   refine reg hP hn hm [(1,.more xNil)] [2,4] [] ⟨[(2,.none0),(4,bV true)],[],0⟩ [] (by kernel_rfl) trivial ?_
   refine AWp.cond true rfl (fun _ => ?_) (fun h=>nomatch h)
   refine AWp.seq ?_
   refine reg hP hn hm [] [2] [] ⟨[(2,.none0)],[],0⟩ [] (by kernel_rfl) trivial ?_
   refine AWp.conv (inv:=[]) (vk:=[]) (e0:=[0]) (t:=⟨[(2,.own 0)],[(0,some (.row 9 65 []))],0⟩) (by kernel_rfl) ?_
   refine AWp.ret ?_
   exact Exists.intro _ (And.intro (fun _ _ h=>h) (And.intro (.inl rfl) (And.intro rfl (And.intro (by kernel_rfl) (by kernel_rfl)))))
  | some b =>
   refine reg hP hn hm [(1,.more xNil)] [0,2,4] [] ⟨[(0,.im (.sc (.slice (some b) 0 m))),(2,.none0),(4,bV false)],[],0⟩ [] (by kernel_rfl) trivial ?_
   refine AWp.cond false rfl (fun h=>nomatch h) (fun _ => ?_)
   refine AWp.skip ?_
   refine AWp.unsplit 0 rfl ?_
   refine AWp.seq ?_
   refine reg hP hn hm [(0,.app 0 ([]:List (List Im))),(2,.app 1 (([]:List TSample).map eSample))] [2] [1] ⟨[(2,.own 1)],[(1,some (.row 9 65 (([]:List TSample).map eSample)))],0⟩ [([]:List (List Im))=[],([]:List TSample).map eSample=([]:List (List Im))++([]:List TSample).map eSample,∀ c∈([]:List TSample).map eSample,c.length=9,∀ c∈([]:List TSample).map eSample,leaves (c.map .im)=true,(([]:List (List Im)).length+(([]:List TSample).map eSample).length)*104≤140737488355328] (by kernel_rfl) ⟨rfl,by simp,by exact all_len _ _ _ (fun _=>rfl),by exact all_leaf _ _ (fun _=>rfl),by simpa using c1,trivial⟩ ?_
   refine AWp.conv (inv:=[(1,0)]) (vk:=[]) (e0:=[]) (t:=⟨[(2,.own 0)],[(0,some (.row 9 65 (([]:List TSample).map eSample)))],0⟩) (by kernel_rfl) ?_
   refine AWp.ret ?_
   exact Exists.intro _ (And.intro (fun _ _ h=>h) (And.intro (.inl rfl) (And.intro rfl (And.intro (by kernel_rfl) (by kernel_rfl)))))
 | cons y l =>
  refine AWp.seq ?_
  refine reg hP hn hm [(1,.more xNil)] [0,2,4] [] ⟨[(0,.im (.row ((y::l).map eSample))),(2,.none0),(4,bV false)],[],0⟩ [] (by kernel_rfl) trivial ?_
  refine AWp.cond false rfl (fun h=>nomatch h) (fun _ => ?_)
  refine AWp.skip ?_
  refine AWp.seq ?_
  refine reg hP hn hm [(0,.app 0 ([]:List (List Im))),(2,.app 1 ((y::l).map eSample))] [2] [1] ⟨[(2,.own 1)],[(1,some (.row 9 65 ((y::l).map eSample)))],0⟩ [([]:List (List Im))=[],(y::l).map eSample=([]:List (List Im))++(y::l).map eSample,∀ c∈(y::l).map eSample,c.length=9,∀ c∈(y::l).map eSample,leaves (c.map .im)=true,(([]:List (List Im)).length+((y::l).map eSample).length)*104≤140737488355328] (by kernel_rfl) ⟨rfl,by simp,by exact all_len _ _ _ (fun _=>rfl),by exact all_leaf _ _ (fun _=>rfl),by simpa using c1,trivial⟩ ?_
  refine AWp.conv (inv:=[(1,0)]) (vk:=[]) (e0:=[]) (t:=⟨[(2,.own 0)],[(0,some (.row 9 65 ((y::l).map eSample)))],0⟩) (by kernel_rfl) ?_
  refine AWp.ret ?_
  exact Exists.intro _ (And.intro (fun _ _ h=>h) (And.intro (.inl rfl) (And.intro rfl (And.intro (by kernel_rfl) (by kernel_rfl)))))
def f_eval_Window_1_00e.f (a0:TSample) (a1_c0:Int) (a2_c0:Int):Option (Bool):=((if(decide (a0.f0≤a1_c0))=true then(some true) else(some (decide (a0.f0>a2_c0)))):Option (Bool))>>=fun x318=>some x318
theorem f_eval_Window_1_00e.ok (a0:TSample) (a1_c0:Int) (a2_c0:Int) (r:Bool) (H:f_eval_Window_1_00e.f a0 a1_c0 a2_c0=some r):Pv.Fn Tryz.prog 22 [.agg [iV .i64 a0.f0,iV .i64 a0.f1.f0,iV .i64 a0.f1.f1,iV .i64 a0.f1.f2,iV .u64 a0.f1.f3,iV .u64 a0.f1.f4,iV .i64 a0.f1.f5,.im (.row (a0.f1.f6.map eBucket)),.im (.row (a0.f1.f7.map eBucket))],.ptr 0 0 0,.ptr 1 0 0] [(0,some (.box 2 [iV .i64 a1_c0])),(1,some (.box 2 [iV .i64 a2_c0]))] 2 (fun x o=>x=bV r∧o=[(0,some (.box 2 [iV .i64 a1_c0])),(1,some (.box 2 [iV .i64 a2_c0]))]):=by
 unfold f_eval_Window_1_00e.f at H
 refine Fn.bodyK [0,1] Tryz.func22 rfl rfl (fun Γ hP hn => ?_)
 have hm:Tryz.prog.follows .mixedOrders=true:=by kernel_rfl
 replace hn:Γ.n=15:=hn
 refine sr hP hn hm [(0,.k 2)] [(3,.ptr 2 0 0)] [1,2,3] [(2,some (.box 65 [iV .i64 a0.f0,iV .i64 a0.f1.f0,iV .i64 a0.f1.f1,iV .i64 a0.f1.f2,iV .u64 a0.f1.f3,iV .u64 a0.f1.f4,iV .i64 a0.f1.f5,.im (.row (a0.f1.f6.map eBucket)),.im (.row (a0.f1.f7.map eBucket))]))] [0,1,2] [] (by kernel_rfl) trivial ?_
 refine AWp.seq ?_
 obtain⟨o319,e320,H⟩:=bind_of H
 refine AWp.mono (Q:=fun e s=>(match (generalizing:=false) o319 with | x318=>e = .normal∧s=⟨[(4,bV x318)],[(0,some (.box 2 [iV .i64 a1_c0])),(1,some (.box 2 [iV .i64 a2_c0]))],2⟩)) (AWp.cv ?_) ?_
 ·replace H:=e320;clear e320
  rcases Bool.eq_false_or_eq_true (decide (a0.f0≤a1_c0)) with c317 | c317
  ·replace H:=iT c317 H
   refine rg hP hn hm [(4,.b true)] [(4,bV true)] [4] [] [0,1] [_] (by kernel_rfl) ⟨c317,trivial⟩ ?_
   obtain rfl:=Option.some.inj H
   exact lf [(0,0),(1,1)] [] [] (by kernel_rfl) ⟨rfl,rfl⟩
  ·replace H:=iF c317 H
   refine rg hP hn hm [(4,.b false)] [(4,bV (decide (a0.f0>a2_c0)))] [4] [] [0,1] [_] (by kernel_rfl) ⟨c317,trivial⟩ ?_
   obtain rfl:=Option.some.inj H
   exact lf [(0,0),(1,1)] [] [] (by kernel_rfl) ⟨rfl,rfl⟩
 ·obtain⟨x318,rfl⟩:∃ z,z=o319:=⟨_,rfl⟩
  rintro e s ⟨rfl,rfl⟩
  refine AWp.conv (inv:=[(0,0),(1,1)]) (vk:=[]) (e0:=[]) (t:=⟨[(4,bV x318)],[(0,some (.box 2 [iV .i64 a1_c0])),(1,some (.box 2 [iV .i64 a2_c0]))],2⟩) (by kernel_rfl) ?_
  refine AWp.ret ?_
  obtain rfl:=Option.some.inj H
  exact rl (.inl rfl) rfl (by kernel_rfl) (by kernel_rfl)
def f_slices_IndexFunc_api_Sample_eval_Window_1_aaa.l0 (a0:List TSample) (a1_f0_c0:Int) (a1_f1_c0:Int) (x329:Int):Option (Int ⊕ Unit):=if(decide (x329<(a0.length:Int)))=true then((at? a0 x329)>>=fun b336=>(f_eval_Window_1_00e.f b336 a1_f0_c0 a1_f1_c0)>>=fun t339=>if t339=true then(some (.inl x329)) else(f_slices_IndexFunc_api_Sample_eval_Window_1_aaa.l0 a0 a1_f0_c0 a1_f1_c0 (i64.wrap (x329+(1:Int))))) else(some (.inr ()))
partial_fixpoint
def f_slices_IndexFunc_api_Sample_eval_Window_1_aaa.f (a0:List TSample) (a1_f0_c0:Int) (a1_f1_c0:Int):Option (Int):=(f_slices_IndexFunc_api_Sample_eval_Window_1_aaa.l0 a0 a1_f0_c0 a1_f1_c0 0)>>=fun oo=>match oo with | .inl rr=>(some rr) | .inr _=>(some (-1))
theorem f_slices_IndexFunc_api_Sample_eval_Window_1_aaa.ok (a0:List TSample) (a1_f0_c0:Int) (a1_f1_c0:Int) (r:Int) (H:f_slices_IndexFunc_api_Sample_eval_Window_1_aaa.f a0 a1_f0_c0 a1_f1_c0=some r):Pv.Fn Tryz.prog 34 [.own 0,.fn 22 [.ptr 1 0 0,.ptr 2 0 0]] [(0,some (.row 9 65 (a0.map eSample))),(1,some (.box 2 [iV .i64 a1_f0_c0])),(2,some (.box 2 [iV .i64 a1_f1_c0]))] 3 (fun x o=>x=iV .i64 r∧o=[(0,some (.row 9 65 (a0.map eSample))),(1,some (.box 2 [iV .i64 a1_f0_c0])),(2,some (.box 2 [iV .i64 a1_f1_c0]))]):=by
 unfold f_slices_IndexFunc_api_Sample_eval_Window_1_aaa.f at H
 refine Fn.bodyK [0,1,2] Tryz.func34 rfl rfl (fun Γ hP hn => ?_)
 have hm:Tryz.prog.follows .mixedOrders=true:=by kernel_rfl
 replace hn:Γ.n=19:=hn
 refine sr hP hn hm [] [] [0,1] [] [0,1,2] [] (by kernel_rfl) trivial ?_
 refine AWp.seq ?_
 refine sr hP hn hm [(1,.any (iV .i64 (a0.length:Int)))] [(7,iV .i64 (a0.length:Int)),(8,iV .i64 0)] [0,1,7,8] [] [0,1,2] [((a0.map eSample).length:Int)=(a0.length:Int)] (by kernel_rfl) ⟨by rw[len_map],trivial⟩ ?_
 refine AWp.block ?_
 obtain⟨o342,e343,H⟩:=bind_of H
 refine AWp.loop (LWp.conv (inv:=[(0,0),(1,1),(2,2)]) (vk:=[]) (e0:=[]) (t:=⟨[(0,.own 0),(1,.fn 22 [.ptr 1 0 0,.ptr 2 0 0]),(7,iV .i64 (a0.length:Int)),(8,iV .i64 0)],[(0,some (.row 9 65 (a0.map eSample))),(1,some (.box 2 [iV .i64 a1_f0_c0])),(2,some (.box 2 [iV .i64 a1_f1_c0]))],3⟩) (by kernel_rfl) ?_)
 refine LWp.mono (Q:=fun e s=>(match (generalizing:=false) o342 with | .inl rr=>e = .ret∧s.floor=3∧resOf Tryz.prog Tryz.f34 s=some (iV .i64 rr)∧([(0,s.obj 0),(1,s.obj 1),(2,s.obj 2)]:List (Nat×Option MObj))=[(0,some (.row 9 65 (a0.map eSample))),(1,some (.box 2 [iV .i64 a1_f0_c0])),(2,some (.box 2 [iV .i64 a1_f1_c0]))] | .inr _=>e = .exit 0∧s=⟨[],[(0,some (.row 9 65 (a0.map eSample))),(1,some (.box 2 [iV .i64 a1_f0_c0])),(2,some (.box 2 [iV .i64 a1_f1_c0]))],3⟩)) (LWp.cv (withBody (fun body hbody => ?_))) ?_
 ·refine f_slices_IndexFunc_api_Sample_eval_Window_1_aaa.l0.partial_correctness a0 a1_f0_c0 a1_f1_c0 (motive:=fun x329 o342=>LWp Γ body (fun e s=>∃ t,Cv Γ s t∧(match (generalizing:=false) o342 with | .inl rr=>e = .ret∧t.floor=3∧resOf Tryz.prog Tryz.f34 t=some (iV .i64 rr)∧([(0,t.obj 0),(1,t.obj 1),(2,t.obj 2)]:List (Nat×Option MObj))=[(0,some (.row 9 65 (a0.map eSample))),(1,some (.box 2 [iV .i64 a1_f0_c0])),(2,some (.box 2 [iV .i64 a1_f1_c0]))] | .inr _=>e = .exit 0∧t=⟨[],[(0,some (.row 9 65 (a0.map eSample))),(1,some (.box 2 [iV .i64 a1_f0_c0])),(2,some (.box 2 [iV .i64 a1_f1_c0]))],3⟩)) ⟨[(0,.own 0),(1,.fn 22 [.ptr 1 0 0,.ptr 2 0 0]),(7,iV .i64 (a0.length:Int)),(8,iV .i64 x329)],[(0,some (.row 9 65 (a0.map eSample))),(1,some (.box 2 [iV .i64 a1_f0_c0])),(2,some (.box 2 [iV .i64 a1_f1_c0]))],3⟩) ?_ _ _ e343
  clear H e343 o342;intro self ih x329 o342 H
  subst hbody
  refine LWp.round ?_
  refine sr hP hn hm [] [(9,bV (decide (x329<(a0.length:Int))))] [0,1,7,8,9] [] [0,1,2] [] (by kernel_rfl) trivial ?_
  refine AWp.seq ?_
  refine AWp.cond (decide (x329<(a0.length:Int))) (by kernel_rfl) (fun c330 => ?_) (fun c330 => ?_)
  ·replace H:=iT c330 H
   refine AWp.skip ?_
   refine AWp.seq ?_
   refine AWp.block ?_
   refine sr hP hn hm [] [(5,iV .i64 x329)] [0,1,5,7,8] [] [0,1,2] [] (by kernel_rfl) trivial ?_
   obtain⟨b336,p337,q338,H⟩:=at_of H
   obtain⟨t339,e340,H⟩:=bind_of H
   refine sr hP hn hm [(4,.c (eSample b336)),(5,.call [(1,0),(2,1)] [(0,1),(1,2)] [] [] 2 (bV t339) [(0,some (.box 2 [iV .i64 a1_f0_c0])),(1,some (.box 2 [iV .i64 a1_f1_c0]))])] [(16,bV t339)] [0,1,5,7,8,16] [] [0,1,2] [_,_,_,_,_] (by kernel_rfl) ⟨p337,el_lt eSample p337 q338,el_map eSample q338,Tryz.call22,f_eval_Window_1_00e.ok b336 a1_f0_c0 a1_f1_c0 t339 e340,trivial⟩ ?_
   refine AWp.cond t339 (by kernel_rfl) (fun c341 => ?_) (fun c341 => ?_)
   ·replace H:=iT c341 H
    refine sr hP hn hm [] [(4,iV .i64 x329)] [4] [] [0,1,2] [] (by kernel_rfl) trivial ?_
    refine AWp.conv (inv:=[(0,0),(1,1),(2,2)]) (vk:=[]) (e0:=[]) (t:=⟨[(4,iV .i64 x329)],[(0,some (.row 9 65 (a0.map eSample))),(1,some (.box 2 [iV .i64 a1_f0_c0])),(2,some (.box 2 [iV .i64 a1_f1_c0]))],3⟩) (by kernel_rfl) ?_
    refine AWp.ret ?_
    obtain rfl:=Option.some.inj H
    exact rl rfl rfl (by kernel_rfl) (by kernel_rfl)
   ·replace H:=iF c341 H
    refine AWp.skip ?_
    refine rg hP hn hm [] [(8,iV .i64 (i64.wrap (x329+(1:Int))))] [0,1,7,8] [] [0,1,2] [] (by kernel_rfl) trivial ?_
    exact LWp.conv [(0,0),(1,1),(2,2)] [] [] (by kernel_rfl) (ih _ _ H)
  ·replace H:=iF c330 H
   refine AWp.exit ?_
   obtain rfl:=Option.some.inj H
   exact lf [(0,0),(1,1),(2,2)] [] [] (by kernel_rfl) ⟨rfl,rfl⟩
 ·rcases o342 with rr | _
  ·skip
   rintro e s ⟨rfl,hfl,hres⟩
   obtain rfl:=Option.some.inj H
   exact Exists.intro _ (And.intro (fun _ _ h=>h) (And.intro (.inl rfl) (And.intro hfl hres)))
  ·skip
   rintro e s ⟨rfl,rfl⟩
   refine sr hP hn hm [] [(4,iV .i64 (-1))] [4] [] [0,1,2] [] (by kernel_rfl) trivial ?_
   refine AWp.conv (inv:=[(0,0),(1,1),(2,2)]) (vk:=[]) (e0:=[]) (t:=⟨[(4,iV .i64 (-1))],[(0,some (.row 9 65 (a0.map eSample))),(1,some (.box 2 [iV .i64 a1_f0_c0])),(2,some (.box 2 [iV .i64 a1_f1_c0]))],3⟩) (by kernel_rfl) ?_
   refine AWp.ret ?_
   obtain rfl:=Option.some.inj H
   exact rl (.inl rfl) rfl (by kernel_rfl) (by kernel_rfl)
def f_slices_DeleteFunc_api_Sample_eval_Window_1_aaa.l0 (a1_f0_c0:Int) (a1_f1_c0:Int) (x369:List TSample) (x370:Int) (x371:Int):Option ((List TSample)×Int):=if(decide (x371<(x369.length:Int)))=true then((at? x369 x371)>>=fun b376=>(f_eval_Window_1_00e.f b376 a1_f0_c0 a1_f1_c0)>>=fun t381=>((if(!t381)=true then((at? x369 x370)>>=fun b387=>some (x369.set (Int.toNat (x370)) b376,i64.wrap (x370+(1:Int)))) else(some (x369,x370))):Option ((List TSample)×Int))>>=fun oo=>match oo with | (x390,x391)=>(f_slices_DeleteFunc_api_Sample_eval_Window_1_aaa.l0 a1_f0_c0 a1_f1_c0 x390 x391 (i64.wrap (x371+(1:Int))))) else(some (x369,x370))
partial_fixpoint
def f_slices_DeleteFunc_api_Sample_eval_Window_1_aaa.f (a0:List TSample) (a1_f0_c0:Int) (a1_f1_c0:Int):Option (List TSample):=(f_slices_IndexFunc_api_Sample_eval_Window_1_aaa.f a0 a1_f0_c0 a1_f1_c0)>>=fun t346=>if(t346==(-1))=true then(some a0) else((f_slices_DeleteFunc_api_Sample_eval_Window_1_aaa.l0 a1_f0_c0 a1_f1_c0 a0 t346 (i64.wrap (t346+(1:Int))))>>=fun oo=>match oo with | (x392,x393)=>((chk (0≤x393∧x393≤(x392.length:Int)))>>=fun _=>(chk (0≤x393∧x393≤((x392.take (Int.toNat x393)++List.replicate (x392.length-(Int.toNat x393)) (⟨0,(⟨0,0,0,0,0,0,[],[]⟩:THist)⟩:TSample)).length:Int)))>>=fun _=>some ((x392.take (Int.toNat x393)++List.replicate (x392.length-(Int.toNat x393)) (⟨0,(⟨0,0,0,0,0,0,[],[]⟩:THist)⟩:TSample)).take (Int.toNat (x393)))))
theorem f_slices_DeleteFunc_api_Sample_eval_Window_1_aaa.ok (a0:List TSample) (a1_f0_c0:Int) (a1_f1_c0:Int) (r:List TSample) (H:f_slices_DeleteFunc_api_Sample_eval_Window_1_aaa.f a0 a1_f0_c0 a1_f1_c0=some r):Pv.Fn Tryz.prog 20 [.own 0,.fn 22 [.ptr 1 0 0,.ptr 2 0 0]] [(0,some (.row 9 65 (a0.map eSample))),(1,some (.box 2 [iV .i64 a1_f0_c0])),(2,some (.box 2 [iV .i64 a1_f1_c0]))] 3 (fun x o=>x = .own 3∧o=[(0,none),(1,some (.box 2 [iV .i64 a1_f0_c0])),(2,some (.box 2 [iV .i64 a1_f1_c0])),(3,some (.row 9 65 (r.map eSample)))]):=by
 unfold f_slices_DeleteFunc_api_Sample_eval_Window_1_aaa.f at H
 refine Fn.bodyK [0,1,2,3] Tryz.func20 rfl rfl (fun Γ hP hn => ?_)
 have hm:Tryz.prog.follows .mixedOrders=true:=by kernel_rfl
 replace hn:Γ.n=42:=hn
 refine sr hP hn hm [] [] [0,1] [] [0,1,2] [] (by kernel_rfl) trivial ?_
 obtain⟨t346,e347,H⟩:=bind_of H
 refine sr hP hn hm [(2,.call [(0,0),(1,1),(2,2)] [(0,0),(1,1),(2,2)] [] [] 3 (iV .i64 t346) [(0,some (.row 9 65 (a0.map eSample))),(1,some (.box 2 [iV .i64 a1_f0_c0])),(2,some (.box 2 [iV .i64 a1_f1_c0]))])] [(5,iV .i64 t346)] [0,1,5] [] [0,1,2] [_,_] (by kernel_rfl) ⟨Tryz.call34,f_slices_IndexFunc_api_Sample_eval_Window_1_aaa.ok a0 a1_f0_c0 a1_f1_c0 t346 e347,trivial⟩ ?_
 refine AWp.seq ?_
 refine sr hP hn hm [] [(12,bV (t346==(-1)))] [0,1,5,12] [] [0,1,2] [] (by kernel_rfl) trivial ?_
 refine AWp.cond (t346==(-1)) (by kernel_rfl) (fun c348 => ?_) (fun c348 => ?_)
 ·replace H:=iT c348 H
  refine sr hP hn hm [] [(4,.own 0)] [4] [] [0,1,2] [] (by kernel_rfl) trivial ?_
  refine AWp.conv (inv:=[(0,3),(1,1),(2,2)]) (vk:=[]) (e0:=[]) (t:=⟨[(4,.own 3)],[(1,some (.box 2 [iV .i64 a1_f0_c0])),(2,some (.box 2 [iV .i64 a1_f1_c0])),(3,some (.row 9 65 (a0.map eSample)))],3⟩) (by kernel_rfl) ?_
  refine AWp.ret ?_
  obtain rfl:=Option.some.inj H
  exact rl (.inl rfl) rfl (by kernel_rfl) (by kernel_rfl)
 ·replace H:=iF c348 H
  refine AWp.skip ?_
  refine AWp.seq ?_
  refine sr hP hn hm [] [(6,iV .i64 (i64.wrap (t346+(1:Int))))] [0,1,5,6] [] [0,1,2] [] (by kernel_rfl) trivial ?_
  refine AWp.block ?_
  obtain⟨o398,e399,H⟩:=bind_of H
  refine AWp.loop (LWp.conv (inv:=[(0,0),(1,1),(2,2)]) (vk:=[]) (e0:=[]) (t:=⟨[(0,.own 0),(1,.fn 22 [.ptr 1 0 0,.ptr 2 0 0]),(5,iV .i64 t346),(6,iV .i64 (i64.wrap (t346+(1:Int))))],[(0,some (.row 9 65 (a0.map eSample))),(1,some (.box 2 [iV .i64 a1_f0_c0])),(2,some (.box 2 [iV .i64 a1_f1_c0]))],3⟩) (by kernel_rfl) ?_)
  refine LWp.mono (Q:=fun e s=>(match (generalizing:=false) o398 with | (x392,x393)=>e = .exit 0∧s=⟨[(0,.own 0),(5,iV .i64 x393)],[(0,some (.row 9 65 (x392.map eSample))),(1,some (.box 2 [iV .i64 a1_f0_c0])),(2,some (.box 2 [iV .i64 a1_f1_c0]))],3⟩)) (LWp.cv (withBody (fun body hbody => ?_))) ?_
  ·refine f_slices_DeleteFunc_api_Sample_eval_Window_1_aaa.l0.partial_correctness a1_f0_c0 a1_f1_c0 (motive:=fun x369 x370 x371 o398=>LWp Γ body (fun e s=>∃ t,Cv Γ s t∧(match (generalizing:=false) o398 with | (x392,x393)=>e = .exit 0∧t=⟨[(0,.own 0),(5,iV .i64 x393)],[(0,some (.row 9 65 (x392.map eSample))),(1,some (.box 2 [iV .i64 a1_f0_c0])),(2,some (.box 2 [iV .i64 a1_f1_c0]))],3⟩)) ⟨[(0,.own 0),(1,.fn 22 [.ptr 1 0 0,.ptr 2 0 0]),(5,iV .i64 x370),(6,iV .i64 x371)],[(0,some (.row 9 65 (x369.map eSample))),(1,some (.box 2 [iV .i64 a1_f0_c0])),(2,some (.box 2 [iV .i64 a1_f1_c0]))],3⟩) ?_ _ _ _ _ e399
   clear H e399 o398;intro self ih x369 x370 x371 o398 H
   subst hbody
   refine LWp.round ?_
   refine AWp.seq ?_
   refine sr hP hn hm [(2,.any (iV .i64 (x369.length:Int)))] [(19,bV (decide (x371<(x369.length:Int))))] [0,1,5,6,19] [] [0,1,2] [((x369.map eSample).length:Int)=(x369.length:Int)] (by kernel_rfl) ⟨by rw[len_map],trivial⟩ ?_
   refine AWp.cond (decide (x371<(x369.length:Int))) (by kernel_rfl) (fun c372 => ?_) (fun c372 => ?_)
   ·replace H:=iT c372 H
    refine AWp.skip ?_
    refine AWp.seq ?_
    refine AWp.block ?_
    obtain⟨b376,p377,q378,H⟩:=at_of H
    refine sr hP hn hm [(3,.c (eSample b376)),(4,.k 4)] [(7,.ptr 4 0 0)] [0,1,5,6,7] [(4,some (.box 65 [iV .i64 b376.f0,iV .i64 b376.f1.f0,iV .i64 b376.f1.f1,iV .i64 b376.f1.f2,iV .u64 b376.f1.f3,iV .u64 b376.f1.f4,iV .i64 b376.f1.f5,.im (.row (b376.f1.f6.map eBucket)),.im (.row (b376.f1.f7.map eBucket))]))] [0,1,2,4] [_,_,_] (by kernel_rfl) ⟨p377,el_lt eSample p377 q378,el_map eSample q378,trivial⟩ ?_
    obtain⟨t381,e382,H⟩:=bind_of H
    refine sr hP hn hm [(2,.call [(1,0),(2,1)] [(0,1),(1,2)] [] [] 2 (bV t381) [(0,some (.box 2 [iV .i64 a1_f0_c0])),(1,some (.box 2 [iV .i64 a1_f1_c0]))])] [(29,bV (!t381))] [0,1,5,6,7,29] [] [0,1,2,4] [_,_] (by kernel_rfl) ⟨Tryz.call22,f_eval_Window_1_00e.ok b376 a1_f0_c0 a1_f1_c0 t381 e382,trivial⟩ ?_
    obtain⟨o400,e401,H⟩:=bind_of H
    refine AWp.mono (Q:=fun e s=>(match (generalizing:=false) o400 with | (x390,x391)=>e = .normal∧s=⟨[(0,.own 0),(1,.fn 22 [.ptr 1 0 0,.ptr 2 0 0]),(5,iV .i64 x391),(6,iV .i64 x371)],[(0,some (.row 9 65 (x390.map eSample))),(1,some (.box 2 [iV .i64 a1_f0_c0])),(2,some (.box 2 [iV .i64 a1_f1_c0]))],3⟩)) (AWp.cv ?_) ?_
    ·replace H:=e401;clear e401
     refine AWp.cond (!t381) (by kernel_rfl) (fun c383 => ?_) (fun c383 => ?_)
     ·replace H:=iT c383 H
      obtain⟨b387,p388,q389,H⟩:=at_of H
      refine sr hP hn hm [(4,.put (eSample b387) ((x369.set (Int.toNat (x370)) b376).map eSample))] [] [0,1,5,6] [(0,some (.row 9 65 ((x369.set (Int.toNat (x370)) b376).map eSample)))] [0,1,2] [_,_,_,(x369.set (Int.toNat (x370)) b376).map eSample=(x369.map eSample).set (Int.toNat (x370)) (splice (eSample b387) 0 [iI .i64 b376.f0,iI .i64 b376.f1.f0,iI .i64 b376.f1.f1,iI .i64 b376.f1.f2,iI .u64 b376.f1.f3,iI .u64 b376.f1.f4,iI .i64 b376.f1.f5,.row (b376.f1.f6.map eBucket),.row (b376.f1.f7.map eBucket)])] (by kernel_rfl) ⟨p388,el_lt eSample p388 q389,el_map eSample q389,by exact set1 _ _ _ _,trivial⟩ ?_
      refine rg hP hn hm [] [(5,iV .i64 (i64.wrap (x370+(1:Int))))] [0,1,5,6] [] [0,1,2] [] (by kernel_rfl) trivial ?_
      obtain rfl:=Option.some.inj H
      exact lf [(0,0),(1,1),(2,2)] [] [] (by kernel_rfl) ⟨rfl,rfl⟩
     ·replace H:=iF c383 H
      refine AWp.skip ?_
      obtain rfl:=Option.some.inj H
      exact lf [(0,0),(1,1),(2,2)] [] [] (by kernel_rfl) ⟨rfl,rfl⟩
    ·obtain⟨x390,x391⟩:=o400
     rintro e s ⟨rfl,rfl⟩
     refine rg hP hn hm [] [(6,iV .i64 (i64.wrap (x371+(1:Int))))] [0,1,5,6] [] [0,1,2] [] (by kernel_rfl) trivial ?_
     exact LWp.conv [(0,0),(1,1),(2,2)] [] [] (by kernel_rfl) (ih _ _ _ _ H)
   ·replace H:=iF c372 H
    refine AWp.exit ?_
    obtain rfl:=Option.some.inj H
    exact lf [(0,0),(1,1),(2,2)] [] [] (by kernel_rfl) ⟨rfl,rfl⟩
  ·obtain⟨x392,x393⟩:=o398
   rintro e s ⟨rfl,rfl⟩
   obtain⟨c395,H⟩:=chk_of H
   refine sr hP hn hm [(2,.more (xCutOwn (Int.toNat x393) (x392.length-(Int.toNat x393)))),(3,.more (xClear ((x392.take (Int.toNat x393)++List.replicate (x392.length-(Int.toNat x393)) (⟨0,(⟨0,0,0,0,0,0,[],[]⟩:THist)⟩:TSample)).map eSample)))] [] [0,5] [(0,some (.row 9 65 ((x392.take (Int.toNat x393)++List.replicate (x392.length-(Int.toNat x393)) (⟨0,(⟨0,0,0,0,0,0,[],[]⟩:THist)⟩:TSample)).map eSample)))] [0,1,2] [x393=(((Int.toNat x393):Nat):Int),(Int.toNat x393)+(x392.length-(Int.toNat x393))=(x392.map eSample).length,(x392.take (Int.toNat x393)++List.replicate (x392.length-(Int.toNat x393)) (⟨0,(⟨0,0,0,0,0,0,[],[]⟩:THist)⟩:TSample)).map eSample=(x392.map eSample).take (Int.toNat x393)++List.replicate (x392.length-(Int.toNat x393)) [iI .i64 0,iI .i64 0,iI .i64 0,iI .i64 0,iI .u64 0,iI .u64 0,iI .i64 0,.row [],.row []],(Int.toNat x393)+(x392.length-(Int.toNat x393))=(x392.map eSample).length] (by kernel_rfl) ⟨by exact(Int.toNat_of_nonneg c395.1).symm,by have h:=c395;rw[List.length_map];omega,by simp,by have h:=c395;rw[List.length_map];omega,trivial⟩ ?_
   obtain⟨c397,H⟩:=chk_of H
   refine sr hP hn hm [(2,.more (xTake 5 (((x392.take (Int.toNat x393)++List.replicate (x392.length-(Int.toNat x393)) (⟨0,(⟨0,0,0,0,0,0,[],[]⟩:THist)⟩:TSample)).take (Int.toNat (x393))).map eSample)))] [(4,.own 5)] [4] [(5,some (.row 9 65 (((x392.take (Int.toNat x393)++List.replicate (x392.length-(Int.toNat x393)) (⟨0,(⟨0,0,0,0,0,0,[],[]⟩:THist)⟩:TSample)).take (Int.toNat (x393))).map eSample)))] [1,2,5] [0≤x393,x393≤(((x392.take (Int.toNat x393)++List.replicate (x392.length-(Int.toNat x393)) (⟨0,(⟨0,0,0,0,0,0,[],[]⟩:THist)⟩:TSample)).map eSample).length:Int),((x392.take (Int.toNat x393)++List.replicate (x392.length-(Int.toNat x393)) (⟨0,(⟨0,0,0,0,0,0,[],[]⟩:THist)⟩:TSample)).take (Int.toNat (x393))).map eSample=((x392.take (Int.toNat x393)++List.replicate (x392.length-(Int.toNat x393)) (⟨0,(⟨0,0,0,0,0,0,[],[]⟩:THist)⟩:TSample)).map eSample).take (Int.toNat (x393))] (by kernel_rfl) ⟨by exact c397.1,by simpa using c397.2,by simp,trivial⟩ ?_
   refine AWp.conv (inv:=[(1,1),(2,2),(5,3)]) (vk:=[]) (e0:=[]) (t:=⟨[(4,.own 3)],[(1,some (.box 2 [iV .i64 a1_f0_c0])),(2,some (.box 2 [iV .i64 a1_f1_c0])),(3,some (.row 9 65 (((x392.take (Int.toNat x393)++List.replicate (x392.length-(Int.toNat x393)) (⟨0,(⟨0,0,0,0,0,0,[],[]⟩:THist)⟩:TSample)).take (Int.toNat (x393))).map eSample)))],3⟩) (by kernel_rfl) ?_
   refine AWp.ret ?_
   obtain rfl:=Option.some.inj H
   exact rl (.inl rfl) rfl (by kernel_rfl) (by kernel_rfl)
def f_eval_Window.f (a0:List TSample) (a1:Int) (a2:Int):Option (List TSample):=(f_slices_Clone_api_Sample.f a0)>>=fun t404=>(f_slices_DeleteFunc_api_Sample_eval_Window_1_aaa.f t404 a1 a2)>>=fun t406=>some t406
theorem f_eval_Window.ok (a0:List TSample) (a1:Int) (a2:Int) (r:List TSample) (H:f_eval_Window.f a0 a1 a2=some r):Pv.Fn Tryz.prog 7 [.im (.row (a0.map eSample)),iV .i64 a1,iV .i64 a2] [] 0 (fun x o=>x = .own 0∧o=[(0,some (.row 9 65 (r.map eSample)))]):=by
 unfold f_eval_Window.f at H
 refine Fn.bodyK [0] Tryz.func7 rfl rfl (fun Γ hP hn => ?_)
 have hm:Tryz.prog.follows .mixedOrders=true:=by kernel_rfl
 replace hn:Γ.n=11:=hn
 refine sr hP hn hm [(0,.k 0),(1,.k 1)] [(4,.ptr 0 0 0),(5,.ptr 1 0 0)] [0,4,5] [(0,some (.box 2 [iV .i64 a1])),(1,some (.box 2 [iV .i64 a2]))] [0,1] [] (by kernel_rfl) trivial ?_
 obtain⟨t404,e405,H⟩:=bind_of H
 obtain⟨t406,e407,H⟩:=bind_of H
 refine sr hP hn hm [(1,.call [] [(0,2)] [] [2] 0 (.own 0) [(0,some (.row 9 65 (t404.map eSample)))]),(2,.more xFunc),(3,.call [(2,0),(0,1),(1,2)] [(1,0),(2,1),(3,3)] [] [3] 3 (.own 3) [(0,none),(1,some (.box 2 [iV .i64 a1])),(2,some (.box 2 [iV .i64 a2])),(3,some (.row 9 65 (t406.map eSample)))])] [(6,.own 3)] [6] [(3,some (.row 9 65 (t406.map eSample)))] [3] [_,_,_,_] (by kernel_rfl) ⟨Tryz.call21,f_slices_Clone_api_Sample.ok a0 t404 e405,Tryz.call20,f_slices_DeleteFunc_api_Sample_eval_Window_1_aaa.ok t404 a1 a2 t406 e407,trivial⟩ ?_
 refine AWp.conv (inv:=[(3,0)]) (vk:=[]) (e0:=[]) (t:=⟨[(6,.own 0)],[(0,some (.row 9 65 (t406.map eSample)))],0⟩) (by kernel_rfl) ?_
 refine AWp.ret ?_
 obtain rfl:=Option.some.inj H
 exact rl (.inl rfl) rfl (by kernel_rfl) (by kernel_rfl)
def f_hist_Empty.f (a0:Int) (a1:Int):Option (THist):=some (⟨a0,a1,(-524288),0,0,0,[],[]⟩:THist)
theorem f_hist_Empty.ok (a0:Int) (a1:Int) (r:THist) (H:f_hist_Empty.f a0 a1=some r):Pv.Fn Tryz.prog 35 [iV .i64 a0,iV .i64 a1] [] 0 (fun x o=>x = .agg (aHist (r))∧o=[]):=by
 unfold f_hist_Empty.f at H
 refine Fn.bodyK [] Tryz.func35 rfl rfl (fun Γ hP hn => ?_)
 have hm:Tryz.prog.follows .mixedOrders=true:=by kernel_rfl
 replace hn:Γ.n=8:=hn
 refine sr hP hn hm [(0,.k 0)] [(4,.ptr 0 0 0)] [0,1,4] [(0,some (.box 32 [iV .i64 0,iV .i64 0,iV .i64 0,iV .u64 0,iV .u64 0,iV .i64 0,.none0,.none0]))] [0] [] (by kernel_rfl) trivial ?_
 refine sr hP hn hm [] [] [4] [(0,some (.box 32 [iV .i64 a0,iV .i64 a1,iV .i64 (-524288),iV .u64 0,iV .u64 0,iV .i64 0,.none0,.none0]))] [0] [] (by kernel_rfl) trivial ?_
 refine AWp.conv (inv:=[(0,0)]) (vk:=[]) (e0:=[]) (t:=⟨[(4,.ptr 0 0 0)],[(0,some (.box 32 (aHist ((⟨a0,a1,(-524288),0,0,0,[],[]⟩:THist)))))],0⟩) (by kernel_rfl) ?_
 refine AWp.ret ?_
 obtain rfl:=Option.some.inj H
 exact rl (.inl rfl) rfl (by kernel_rfl) (by kernel_rfl)
def f_num_SubInt.f (a0:Int) (a1:Int):Option (Int×Int):=if(!((decide (a0<a1))==(decide ((i64.wrap (a0-a1))<(0:Int)))))=true then(some (0,5)) else(some (i64.wrap (a0-a1),0))
theorem f_num_SubInt.ok (a0:Int) (a1:Int) (r:Int×Int) (H:f_num_SubInt.f a0 a1=some r):Pv.Fn Tryz.prog 57 [iV .i64 a0,iV .i64 a1] [] 0 (fun x o=>x = .tup [iV .i64 r.1,iV .i64 r.2]∧o=[]):=by
 unfold f_num_SubInt.f at H
 refine Fn.bodyK [] Tryz.func57 rfl rfl (fun Γ hP hn => ?_)
 have hm:Tryz.prog.follows .mixedOrders=true:=by kernel_rfl
 replace hn:Γ.n=17:=hn
 refine sr hP hn hm [] [] [0,1] [] [] [] (by kernel_rfl) trivial ?_
 refine sr hP hn hm [] [(6,iV .i64 (i64.wrap (a0-a1)))] [0,1,6] [] [] [] (by kernel_rfl) trivial ?_
 refine AWp.seq ?_
 refine sr hP hn hm [] [(15,bV (!((decide (a0<a1))==(decide ((i64.wrap (a0-a1))<(0:Int))))))] [6,15] [] [] [] (by kernel_rfl) trivial ?_
 refine AWp.cond (!((decide (a0<a1))==(decide ((i64.wrap (a0-a1))<(0:Int))))) (by kernel_rfl) (fun c469 => ?_) (fun c469 => ?_)
 ·replace H:=iT c469 H
  refine sr hP hn hm [] [(4,iV .i64 0),(5,iV .i64 5)] [4,5] [] [] [] (by kernel_rfl) trivial ?_
  refine AWp.conv (inv:=[]) (vk:=[]) (e0:=[]) (t:=⟨[(4,iV .i64 0),(5,iV .i64 5)],[],0⟩) (by kernel_rfl) ?_
  refine AWp.ret ?_
  obtain rfl:=Option.some.inj H
  exact rl (.inl rfl) rfl (by kernel_rfl) (by kernel_rfl)
 ·replace H:=iF c469 H
  refine AWp.skip ?_
  refine sr hP hn hm [] [(4,iV .i64 (i64.wrap (a0-a1))),(5,iV .i64 0)] [4,5] [] [] [] (by kernel_rfl) trivial ?_
  refine AWp.conv (inv:=[]) (vk:=[]) (e0:=[]) (t:=⟨[(4,iV .i64 (i64.wrap (a0-a1))),(5,iV .i64 0)],[],0⟩) (by kernel_rfl) ?_
  refine AWp.ret ?_
  obtain rfl:=Option.some.inj H
  exact rl (.inl rfl) rfl (by kernel_rfl) (by kernel_rfl)
def f_bound_Right.f (a0:Int):Option (Bool):=((if(decide (a0≥(-4)))=true then(some (decide (a0≤(8:Int)))) else(some false)):Option (Bool))>>=fun x476=>some x476
theorem f_bound_Right.ok (a0:Int) (r:Bool) (H:f_bound_Right.f a0=some r):Pv.Fn Tryz.prog 84 [iV .i64 a0] [] 0 (fun x o=>x=bV r∧o=[]):=by
 unfold f_bound_Right.f at H
 refine Fn.bodyK [] Tryz.func84 rfl rfl (fun Γ hP hn => ?_)
 have hm:Tryz.prog.follows .mixedOrders=true:=by kernel_rfl
 replace hn:Γ.n=9:=hn
 refine sr hP hn hm [] [] [0] [] [] [] (by kernel_rfl) trivial ?_
 refine AWp.seq ?_
 obtain⟨o477,e478,H⟩:=bind_of H
 refine AWp.mono (Q:=fun e s=>(match (generalizing:=false) o477 with | x476=>e = .normal∧s=⟨[(2,bV x476)],[],0⟩)) (AWp.cv ?_) ?_
 ·replace H:=e478;clear e478
  rcases Bool.eq_false_or_eq_true (decide (a0≥(-4))) with c475 | c475
  ·replace H:=iT c475 H
   refine rg hP hn hm [(2,.b true)] [(2,bV (decide (a0≤(8:Int))))] [2] [] [] [_] (by kernel_rfl) ⟨c475,trivial⟩ ?_
   obtain rfl:=Option.some.inj H
   exact lf [] [] [] (by kernel_rfl) ⟨rfl,rfl⟩
  ·replace H:=iF c475 H
   refine rg hP hn hm [(2,.b false)] [(2,bV false)] [2] [] [] [_] (by kernel_rfl) ⟨c475,trivial⟩ ?_
   obtain rfl:=Option.some.inj H
   exact lf [] [] [] (by kernel_rfl) ⟨rfl,rfl⟩
 ·obtain⟨x476,rfl⟩:∃ z,z=o477:=⟨_,rfl⟩
  rintro e s ⟨rfl,rfl⟩
  refine AWp.conv (inv:=[]) (vk:=[]) (e0:=[]) (t:=⟨[(2,bV x476)],[],0⟩) (by kernel_rfl) ?_
  refine AWp.ret ?_
  obtain rfl:=Option.some.inj H
  exact rl (.inl rfl) rfl (by kernel_rfl) (by kernel_rfl)
def f_bound_shift.f (a0:Int):Option (Unit):=some ()
theorem f_bound_shift.ok (a0:Int) (r:Unit) (H:f_bound_shift.f a0=some r):Pv.Fn Tryz.prog 85 [iV .i64 a0] [] 0 (fun x o=>x=iV .u64 (u64.wrap (i64.wrap ((8:Int)-a0)))∧o=[]):=by
 unfold f_bound_shift.f at H
 refine Fn.bodyK [] Tryz.func85 rfl rfl (fun Γ hP hn => ?_)
 have hm:Tryz.prog.follows .mixedOrders=true:=by kernel_rfl
 replace hn:Γ.n=6:=hn
 refine sr hP hn hm [] [] [0] [] [] [] (by kernel_rfl) trivial ?_
 refine sr hP hn hm [] [(2,iV .u64 (u64.wrap (i64.wrap ((8:Int)-a0))))] [2] [] [] [] (by kernel_rfl) trivial ?_
 refine AWp.conv (inv:=[]) (vk:=[]) (e0:=[]) (t:=⟨[(2,iV .u64 (u64.wrap (i64.wrap ((8:Int)-a0))))],[],0⟩) (by kernel_rfl) ?_
 refine AWp.ret ?_
 obtain rfl:=Option.some.inj H
 exact rl (.inl rfl) rfl (by kernel_rfl) (by kernel_rfl)
def f_bound_Most.f (a0:Int):Option (Int):=(f_bound_Right.f a0)>>=fun t513=>if(!t513)=true then(some 0) else((f_bound_shift.f a0)>>=fun t519=>(chk (0≤(u64.wrap (i64.wrap ((8:Int)-a0)))))>>=fun _=>some (Int.fdiv (262144:Int) (2 ^ (min (Int.toNat (u64.wrap (i64.wrap ((8:Int)-a0)))) 64))))
theorem f_bound_Most.ok (a0:Int) (r:Int) (H:f_bound_Most.f a0=some r):Pv.Fn Tryz.prog 107 [iV .i64 a0] [] 0 (fun x o=>x=iV .i64 r∧o=[]):=by
 unfold f_bound_Most.f at H
 refine Fn.bodyK [] Tryz.func107 rfl rfl (fun Γ hP hn => ?_)
 have hm:Tryz.prog.follows .mixedOrders=true:=by kernel_rfl
 replace hn:Γ.n=9:=hn
 refine sr hP hn hm [] [] [0] [] [] [] (by kernel_rfl) trivial ?_
 refine AWp.seq ?_
 obtain⟨t513,e514,H⟩:=bind_of H
 refine sr hP hn hm [(1,.call [] [] [] [] 0 (bV t513) [])] [(5,bV (!t513))] [0,5] [] [] [_,_] (by kernel_rfl) ⟨Tryz.call84,f_bound_Right.ok a0 t513 e514,trivial⟩ ?_
 refine AWp.cond (!t513) (by kernel_rfl) (fun c515 => ?_) (fun c515 => ?_)
 ·replace H:=iT c515 H
  refine sr hP hn hm [] [(2,iV .i64 0)] [2] [] [] [] (by kernel_rfl) trivial ?_
  refine AWp.conv (inv:=[]) (vk:=[]) (e0:=[]) (t:=⟨[(2,iV .i64 0)],[],0⟩) (by kernel_rfl) ?_
  refine AWp.ret ?_
  obtain rfl:=Option.some.inj H
  exact rl (.inl rfl) rfl (by kernel_rfl) (by kernel_rfl)
 ·replace H:=iF c515 H
  refine AWp.skip ?_
  obtain⟨t519,e520,H⟩:=bind_of H
  obtain⟨c521,H⟩:=chk_of H
  refine sr hP hn hm [(1,.call [] [] [] [] 0 (iV .u64 (u64.wrap (i64.wrap ((8:Int)-a0)))) [])] [(2,iV .i64 (Int.fdiv (262144:Int) (2 ^ (min (Int.toNat (u64.wrap (i64.wrap ((8:Int)-a0)))) 64))))] [2] [] [] [_,_,_] (by kernel_rfl) ⟨Tryz.call85,f_bound_shift.ok a0 t519 e520,c521,trivial⟩ ?_
  refine AWp.conv (inv:=[]) (vk:=[]) (e0:=[]) (t:=⟨[(2,iV .i64 (Int.fdiv (262144:Int) (2 ^ (min (Int.toNat (u64.wrap (i64.wrap ((8:Int)-a0)))) 64))))],[],0⟩) (by kernel_rfl) ?_
  refine AWp.ret ?_
  obtain rfl:=Option.some.inj H
  exact rl (.inl rfl) rfl (by kernel_rfl) (by kernel_rfl)
def f_bound_Least.f (a0:Int):Option (Int):=(f_bound_Most.f a0)>>=fun t524=>some (i64.wrap ((i64.wrap (0-t524))+(1:Int)))
theorem f_bound_Least.ok (a0:Int) (r:Int) (H:f_bound_Least.f a0=some r):Pv.Fn Tryz.prog 106 [iV .i64 a0] [] 0 (fun x o=>x=iV .i64 r∧o=[]):=by
 unfold f_bound_Least.f at H
 refine Fn.bodyK [] Tryz.func106 rfl rfl (fun Γ hP hn => ?_)
 have hm:Tryz.prog.follows .mixedOrders=true:=by kernel_rfl
 replace hn:Γ.n=7:=hn
 refine sr hP hn hm [] [] [0] [] [] [] (by kernel_rfl) trivial ?_
 obtain⟨t524,e525,H⟩:=bind_of H
 refine sr hP hn hm [(1,.call [] [] [] [] 0 (iV .i64 t524) [])] [(2,iV .i64 (i64.wrap ((i64.wrap (0-t524))+(1:Int))))] [2] [] [] [_,_] (by kernel_rfl) ⟨Tryz.call107,f_bound_Most.ok a0 t524 e525,trivial⟩ ?_
 refine AWp.conv (inv:=[]) (vk:=[]) (e0:=[]) (t:=⟨[(2,iV .i64 (i64.wrap ((i64.wrap (0-t524))+(1:Int))))],[],0⟩) (by kernel_rfl) ?_
 refine AWp.ret ?_
 obtain rfl:=Option.some.inj H
 exact rl (.inl rfl) rfl (by kernel_rfl) (by kernel_rfl)
def f_bound_In.f (a0:Int) (a1:Int):Option (Bool):=(((f_bound_Right.f a0)>>=fun t531=>if t531=true then((f_bound_Least.f a0)>>=fun t534=>if(decide (a1≥t534))=true then((f_bound_Most.f a0)>>=fun t537=>some (decide (a1≤t537))) else(some false)) else(some false)):Option (Bool))>>=fun x539=>some x539
theorem f_bound_In.ok (a0:Int) (a1:Int) (r:Bool) (H:f_bound_In.f a0 a1=some r):Pv.Fn Tryz.prog 100 [iV .i64 a0,iV .i64 a1] [] 0 (fun x o=>x=bV r∧o=[]):=by
 unfold f_bound_In.f at H
 refine Fn.bodyK [] Tryz.func100 rfl rfl (fun Γ hP hn => ?_)
 have hm:Tryz.prog.follows .mixedOrders=true:=by kernel_rfl
 replace hn:Γ.n=19:=hn
 refine sr hP hn hm [] [] [0,1] [] [] [] (by kernel_rfl) trivial ?_
 refine AWp.seq ?_
 obtain⟨o540,e541,H⟩:=bind_of H
 refine AWp.mono (Q:=fun e s=>(match (generalizing:=false) o540 with | x539=>e = .normal∧s=⟨[(4,bV x539)],[],0⟩)) (AWp.cv ?_) ?_
 ·replace H:=e541;clear e541
  obtain⟨t531,e532,H⟩:=bind_of H
  rcases Bool.eq_false_or_eq_true t531 with c533 | c533
  ·replace H:=iT c533 H
   obtain⟨t534,e535,H⟩:=bind_of H
   rcases Bool.eq_false_or_eq_true (decide (a1≥t534)) with c536 | c536
   ·replace H:=iT c536 H
    obtain⟨t537,e538,H⟩:=bind_of H
    refine rg hP hn hm [(1,.call [] [] [] [] 0 (bV t531) []),(2,.b true),(5,.call [] [] [] [] 0 (iV .i64 t534) []),(8,.b true),(11,.call [] [] [] [] 0 (iV .i64 t537) [])] [(4,bV (decide (a1≤t537)))] [4] [] [] [_,_,_,_,_,_,_,_] (by kernel_rfl) ⟨Tryz.call84,f_bound_Right.ok a0 t531 e532,c533,Tryz.call106,f_bound_Least.ok a0 t534 e535,c536,Tryz.call107,f_bound_Most.ok a0 t537 e538,trivial⟩ ?_
    obtain rfl:=Option.some.inj H
    exact lf [] [] [] (by kernel_rfl) ⟨rfl,rfl⟩
   ·replace H:=iF c536 H
    refine rg hP hn hm [(1,.call [] [] [] [] 0 (bV t531) []),(2,.b true),(5,.call [] [] [] [] 0 (iV .i64 t534) []),(8,.b false)] [(4,bV false)] [4] [] [] [_,_,_,_,_,_] (by kernel_rfl) ⟨Tryz.call84,f_bound_Right.ok a0 t531 e532,c533,Tryz.call106,f_bound_Least.ok a0 t534 e535,c536,trivial⟩ ?_
    obtain rfl:=Option.some.inj H
    exact lf [] [] [] (by kernel_rfl) ⟨rfl,rfl⟩
  ·replace H:=iF c533 H
   refine rg hP hn hm [(1,.call [] [] [] [] 0 (bV t531) []),(2,.b false)] [(4,bV false)] [4] [] [] [_,_,_] (by kernel_rfl) ⟨Tryz.call84,f_bound_Right.ok a0 t531 e532,c533,trivial⟩ ?_
   obtain rfl:=Option.some.inj H
   exact lf [] [] [] (by kernel_rfl) ⟨rfl,rfl⟩
 ·obtain⟨x539,rfl⟩:∃ z,z=o540:=⟨_,rfl⟩
  rintro e s ⟨rfl,rfl⟩
  refine AWp.conv (inv:=[]) (vk:=[]) (e0:=[]) (t:=⟨[(4,bV x539)],[],0⟩) (by kernel_rfl) ?_
  refine AWp.ret ?_
  obtain rfl:=Option.some.inj H
  exact rl (.inl rfl) rfl (by kernel_rfl) (by kernel_rfl)
def f_num_Up.f (a0:Int) (a1:Int):Option (Unit):=(chk (0≤a1))>>=fun _=>some ()
theorem f_num_Up.ok (a0:Int) (a1:Int) (r:Unit) (H:f_num_Up.f a0 a1=some r):Pv.Fn Tryz.prog 103 [iV .i64 a0,iV .u64 a1] [] 0 (fun x o=>x=iV .i64 (i64.wrap (0-(Int.fdiv (i64.wrap (0-a0)) (2 ^ (min (Int.toNat (a1)) 64)))))∧o=[]):=by
 unfold f_num_Up.f at H
 refine Fn.bodyK [] Tryz.func103 rfl rfl (fun Γ hP hn => ?_)
 have hm:Tryz.prog.follows .mixedOrders=true:=by kernel_rfl
 replace hn:Γ.n=10:=hn
 refine sr hP hn hm [] [] [0,1] [] [] [] (by kernel_rfl) trivial ?_
 obtain⟨c548,H⟩:=chk_of H
 refine sr hP hn hm [] [(4,iV .i64 (i64.wrap (0-(Int.fdiv (i64.wrap (0-a0)) (2 ^ (min (Int.toNat (a1)) 64))))))] [4] [] [] [_] (by kernel_rfl) ⟨c548,trivial⟩ ?_
 refine AWp.conv (inv:=[]) (vk:=[]) (e0:=[]) (t:=⟨[(4,iV .i64 (i64.wrap (0-(Int.fdiv (i64.wrap (0-a0)) (2 ^ (min (Int.toNat (a1)) 64))))))],[],0⟩) (by kernel_rfl) ?_
 refine AWp.ret ?_
 obtain rfl:=Option.some.inj H
 exact rl (.inl rfl) rfl (by kernel_rfl) (by kernel_rfl)
def f_bound_To.f (a0:Int) (a1:Int) (a2:Int):Option (Int×Int):=(((f_bound_Right.f a0)>>=fun t500=>if(!t500)=true then(some true) else((f_bound_Right.f a1)>>=fun t503=>if(!t503)=true then(some true) else(some (decide (a1>a0))))):Option (Bool))>>=fun x506=>if x506=true then(some (0,20)) else((f_bound_In.f a0 a2)>>=fun t544=>if(!t544)=true then(some (0,4)) else((f_num_Up.f a2 (u64.wrap (i64.wrap (a0-a1))))>>=fun t551=>some (i64.wrap (0-(Int.fdiv (i64.wrap (0-a2)) (2 ^ (min (Int.toNat ((u64.wrap (i64.wrap (a0-a1))))) 64)))),0)))
theorem f_bound_To.ok (a0:Int) (a1:Int) (a2:Int) (r:Int×Int) (H:f_bound_To.f a0 a1 a2=some r):Pv.Fn Tryz.prog 95 [iV .i64 a0,iV .i64 a1,iV .i64 a2] [] 0 (fun x o=>x = .tup [iV .i64 r.1,iV .i64 r.2]∧o=[]):=by
 unfold f_bound_To.f at H
 refine Fn.bodyK [] Tryz.func95 rfl rfl (fun Γ hP hn => ?_)
 have hm:Tryz.prog.follows .mixedOrders=true:=by kernel_rfl
 replace hn:Γ.n=33:=hn
 refine sr hP hn hm [] [] [0,1,2] [] [] [] (by kernel_rfl) trivial ?_
 refine AWp.seq ?_
 refine AWp.block ?_
 refine AWp.seq ?_
 obtain⟨o553,e554,H⟩:=bind_of H
 refine AWp.mono (Q:=fun e s=>(match (generalizing:=false) o553 with | x506=>e = .normal∧s=⟨[(0,iV .i64 a0),(1,iV .i64 a1),(2,iV .i64 a2),(8,bV x506)],[],0⟩)) (AWp.cv ?_) ?_
 ·replace H:=e554;clear e554
  obtain⟨t500,e501,H⟩:=bind_of H
  rcases Bool.eq_false_or_eq_true (!t500) with c502 | c502
  ·replace H:=iT c502 H
   refine rg hP hn hm [(1,.call [] [] [] [] 0 (bV t500) []),(3,.b true)] [(8,bV true)] [0,1,2,8] [] [] [_,_,_] (by kernel_rfl) ⟨Tryz.call84,f_bound_Right.ok a0 t500 e501,c502,trivial⟩ ?_
   obtain rfl:=Option.some.inj H
   exact lf [] [] [] (by kernel_rfl) ⟨rfl,rfl⟩
  ·replace H:=iF c502 H
   obtain⟨t503,e504,H⟩:=bind_of H
   rcases Bool.eq_false_or_eq_true (!t503) with c505 | c505
   ·replace H:=iT c505 H
    refine rg hP hn hm [(1,.call [] [] [] [] 0 (bV t500) []),(3,.b false),(5,.call [] [] [] [] 0 (bV t503) []),(8,.b true)] [(8,bV true)] [0,1,2,8] [] [] [_,_,_,_,_,_] (by kernel_rfl) ⟨Tryz.call84,f_bound_Right.ok a0 t500 e501,c502,Tryz.call84,f_bound_Right.ok a1 t503 e504,c505,trivial⟩ ?_
    obtain rfl:=Option.some.inj H
    exact lf [] [] [] (by kernel_rfl) ⟨rfl,rfl⟩
   ·replace H:=iF c505 H
    refine rg hP hn hm [(1,.call [] [] [] [] 0 (bV t500) []),(3,.b false),(5,.call [] [] [] [] 0 (bV t503) []),(8,.b false)] [(8,bV (decide (a1>a0)))] [0,1,2,8] [] [] [_,_,_,_,_,_] (by kernel_rfl) ⟨Tryz.call84,f_bound_Right.ok a0 t500 e501,c502,Tryz.call84,f_bound_Right.ok a1 t503 e504,c505,trivial⟩ ?_
    obtain rfl:=Option.some.inj H
    exact lf [] [] [] (by kernel_rfl) ⟨rfl,rfl⟩
 ·obtain⟨x506,rfl⟩:∃ z,z=o553:=⟨_,rfl⟩
  rintro e s ⟨rfl,rfl⟩
  refine AWp.cond x506 (by kernel_rfl) (fun c507 => ?_) (fun c507 => ?_)
  ·replace H:=iT c507 H
   refine sr hP hn hm [] [(6,iV .i64 0),(7,iV .i64 20)] [6,7] [] [] [] (by kernel_rfl) trivial ?_
   refine AWp.conv (inv:=[]) (vk:=[]) (e0:=[]) (t:=⟨[(6,iV .i64 0),(7,iV .i64 20)],[],0⟩) (by kernel_rfl) ?_
   refine AWp.ret ?_
   obtain rfl:=Option.some.inj H
   exact rl (.inl rfl) rfl (by kernel_rfl) (by kernel_rfl)
  ·replace H:=iF c507 H
   obtain⟨t544,e545,H⟩:=bind_of H
   refine sr hP hn hm [(2,.call [] [] [] [] 0 (bV t544) [])] [(22,bV (!t544))] [0,1,2,22] [] [] [_,_] (by kernel_rfl) ⟨Tryz.call100,f_bound_In.ok a0 a2 t544 e545,trivial⟩ ?_
   refine AWp.cond (!t544) (by kernel_rfl) (fun c546 => ?_) (fun c546 => ?_)
   ·replace H:=iT c546 H
    refine sr hP hn hm [] [(6,iV .i64 0),(7,iV .i64 4)] [6,7] [] [] [] (by kernel_rfl) trivial ?_
    refine AWp.conv (inv:=[]) (vk:=[]) (e0:=[]) (t:=⟨[(6,iV .i64 0),(7,iV .i64 4)],[],0⟩) (by kernel_rfl) ?_
    refine AWp.ret ?_
    obtain rfl:=Option.some.inj H
    exact rl (.inl rfl) rfl (by kernel_rfl) (by kernel_rfl)
   ·replace H:=iF c546 H
    refine AWp.skip ?_
    obtain⟨t551,e552,H⟩:=bind_of H
    refine sr hP hn hm [(5,.call [] [] [] [] 0 (iV .i64 (i64.wrap (0-(Int.fdiv (i64.wrap (0-a2)) (2 ^ (min (Int.toNat ((u64.wrap (i64.wrap (a0-a1))))) 64)))))) [])] [(6,iV .i64 (i64.wrap (0-(Int.fdiv (i64.wrap (0-a2)) (2 ^ (min (Int.toNat ((u64.wrap (i64.wrap (a0-a1))))) 64)))))),(7,iV .i64 0)] [6,7] [] [] [_,_] (by kernel_rfl) ⟨Tryz.call103,f_num_Up.ok a2 (u64.wrap (i64.wrap (a0-a1))) t551 e552,trivial⟩ ?_
    refine AWp.conv (inv:=[]) (vk:=[]) (e0:=[]) (t:=⟨[(6,iV .i64 (i64.wrap (0-(Int.fdiv (i64.wrap (0-a2)) (2 ^ (min (Int.toNat ((u64.wrap (i64.wrap (a0-a1))))) 64)))))),(7,iV .i64 0)],[],0⟩) (by kernel_rfl) ?_
    refine AWp.ret ?_
    obtain rfl:=Option.some.inj H
    exact rl (.inl rfl) rfl (by kernel_rfl) (by kernel_rfl)
def f_meld_down.l0 (a0:List TBucket) (a1:Int) (a2:Int) (x561:List TBucket) (x562:Int):Option (List TBucket):=if(decide (x562<(a0.length:Int)))=true then((at? a0 x562)>>=fun b567=>(f_bound_To.f a1 a2 b567.f0)>>=fun t572=>(chk ((x561.length+[(⟨t572.1,b567.f1⟩:TBucket)].length)*16≤140737488355328))>>=fun _=>f_meld_down.l0 a0 a1 a2 (x561++[(⟨t572.1,b567.f1⟩:TBucket)]) (i64.wrap (x562+(1:Int)))) else(some x561)
partial_fixpoint
def f_meld_down.f (a0:List TBucket) (a1:Int) (a2:Int):Option (List TBucket):=(f_meld_down.l0 a0 a1 a2 [] 0)>>=fun x576=>some x576
theorem f_meld_down.ok (a0:List TBucket) (a1:Int) (a2:Int) (r:List TBucket) (H:f_meld_down.f a0 a1 a2=some r):Pv.Fn Tryz.prog 86 [.im (.row (a0.map eBucket)),iV .i64 a1,iV .i64 a2] [] 0 (fun x o=>x = .own 0∧o=[(0,some (.row 2 89 (r.map eBucket)))]):=by
 unfold f_meld_down.f at H
 refine Fn.bodyK [0] Tryz.func86 rfl rfl (fun Γ hP hn => ?_)
 have hm:Tryz.prog.follows .mixedOrders=true:=by kernel_rfl
 replace hn:Γ.n=31:=hn
 refine sr hP hn hm [] [] [0,1,2] [] [] [] (by kernel_rfl) trivial ?_
 refine sr hP hn hm [] [(7,.none0)] [0,1,2,7] [] [] [] (by kernel_rfl) trivial ?_
 refine AWp.seq ?_
 refine sr hP hn hm [(1,.any (iV .i64 (a0.length:Int)))] [(10,.im (.row (a0.map eBucket))),(11,iV .i64 (a0.length:Int)),(12,iV .i64 0)] [1,2,7,10,11,12] [] [] [((a0.map eBucket).length:Int)=(a0.length:Int)] (by kernel_rfl) ⟨by rw[len_map],trivial⟩ ?_
 refine AWp.block ?_
 obtain⟨o577,e578,H⟩:=bind_of H
 refine AWp.loop (LWp.conv (inv:=[]) (vk:=[]) (e0:=[3]) (t:=⟨[(1,iV .i64 a1),(2,iV .i64 a2),(7,.own 3),(10,.im (.row (a0.map eBucket))),(11,iV .i64 (a0.length:Int)),(12,iV .i64 0)],[(3,some (.row 2 89 ([].map eBucket)))],0⟩) (by kernel_rfl) ?_)
 refine LWp.mono (Q:=fun e s=>(match (generalizing:=false) o577 with | x576=>e = .exit 0∧s=⟨[(7,.own 7)],[(7,some (.row 2 89 (x576.map eBucket)))],0⟩)) (LWp.cv (withBody (fun body hbody => ?_))) ?_
 ·refine f_meld_down.l0.partial_correctness a0 a1 a2 (motive:=fun x561 x562 o577=>LWp Γ body (fun e s=>∃ t,Cv Γ s t∧(match (generalizing:=false) o577 with | x576=>e = .exit 0∧t=⟨[(7,.own 7)],[(7,some (.row 2 89 (x576.map eBucket)))],0⟩)) ⟨[(1,iV .i64 a1),(2,iV .i64 a2),(7,.own 3),(10,.im (.row (a0.map eBucket))),(11,iV .i64 (a0.length:Int)),(12,iV .i64 x562)],[(3,some (.row 2 89 (x561.map eBucket)))],0⟩) ?_ _ _ _ e578
  clear H e578 o577;intro self ih x561 x562 o577 H
  subst hbody
  refine LWp.round ?_
  refine sr hP hn hm [] [(13,bV (decide (x562<(a0.length:Int))))] [1,2,7,10,11,12,13] [] [3] [] (by kernel_rfl) trivial ?_
  refine AWp.seq ?_
  refine AWp.cond (decide (x562<(a0.length:Int))) (by kernel_rfl) (fun c563 => ?_) (fun c563 => ?_)
  ·replace H:=iT c563 H
   refine AWp.skip ?_
   refine AWp.seq ?_
   refine AWp.block ?_
   obtain⟨b567,p568,q569,H⟩:=at_of H
   refine sr hP hn hm [(0,.c (eBucket b567)),(2,.k 4)] [(9,.ptr 4 0 0)] [1,2,7,9,10,11,12] [(4,some (.box 89 (aBucket b567)))] [3,4] [_,_] (by kernel_rfl) ⟨p568,el_map eBucket q569,trivial⟩ ?_
   obtain⟨t572,e573,H⟩:=bind_of H
   refine sr hP hn hm [(4,.call [] [] [] [] 0 (.tup [iV .i64 t572.1,iV .i64 t572.2]) [])] [] [1,2,7,9,10,11,12] [(4,some (.box 89 (aBucket ⟨t572.1,b567.f1⟩)))] [3,4] [_,_] (by kernel_rfl) ⟨Tryz.call95,f_bound_To.ok a1 a2 b567.f0 t572 e573,trivial⟩ ?_
   obtain⟨c575,H⟩:=chk_of H
   refine rg hP hn hm [(2,.app 5 ([(⟨t572.1,b567.f1⟩:TBucket)].map eBucket)),(3,.app 6 ((x561++[(⟨t572.1,b567.f1⟩:TBucket)]).map eBucket))] [(7,.own 6)] [1,2,7,10,11,12] [(6,some (.row 2 89 ((x561++[(⟨t572.1,b567.f1⟩:TBucket)]).map eBucket)))] [6] [[(⟨t572.1,b567.f1⟩:TBucket)].map eBucket=[[iI .i64 t572.1,iI .u64 b567.f1]],(x561++[(⟨t572.1,b567.f1⟩:TBucket)]).map eBucket=(x561.map eBucket)++([(⟨t572.1,b567.f1⟩:TBucket)].map eBucket),∀ c∈([(⟨t572.1,b567.f1⟩:TBucket)].map eBucket),c.length=2,∀ c∈([(⟨t572.1,b567.f1⟩:TBucket)].map eBucket),leaves (c.map .im)=true,((x561.map eBucket).length+([(⟨t572.1,b567.f1⟩:TBucket)].map eBucket).length)*16≤140737488355328] (by kernel_rfl) ⟨by exact rfl,by simp,by exact all_len _ _ _ (fun _=>rfl),by exact all_leaf _ _ (fun _=>rfl),by simpa using c575,trivial⟩ ?_
   refine rg hP hn hm [] [(12,iV .i64 (i64.wrap (x562+(1:Int))))] [1,2,7,10,11,12] [] [6] [] (by kernel_rfl) trivial ?_
   exact LWp.conv [(6,3)] [] [] (by kernel_rfl) (ih _ _ _ H)
  ·replace H:=iF c563 H
   refine AWp.exit ?_
   obtain rfl:=Option.some.inj H
   exact lf [(3,7)] [] [] (by kernel_rfl) ⟨rfl,rfl⟩
 ·obtain⟨x576,rfl⟩:∃ z,z=o577:=⟨_,rfl⟩
  rintro e s ⟨rfl,rfl⟩
  refine sr hP hn hm [] [(6,.own 7)] [6] [] [7] [] (by kernel_rfl) trivial ?_
  refine AWp.conv (inv:=[(7,0)]) (vk:=[]) (e0:=[]) (t:=⟨[(6,.own 0)],[(0,some (.row 2 89 (x576.map eBucket)))],0⟩) (by kernel_rfl) ?_
  refine AWp.ret ?_
  obtain rfl:=Option.some.inj H
  exact rl (.inl rfl) rfl (by kernel_rfl) (by kernel_rfl)
def f_bound_Units.f (a0:Int) (a1:Int):Option (Int):=(f_bound_Right.f a0)>>=fun t596=>if(!t596)=true then(some 0) else((f_bound_shift.f a0)>>=fun t602=>(chk (0≤(u64.wrap (i64.wrap ((8:Int)-a0)))))>>=fun _=>some (i64.wrap (a1*2 ^ (min (Int.toNat (u64.wrap (i64.wrap ((8:Int)-a0)))) 64))))
theorem f_bound_Units.ok (a0:Int) (a1:Int) (r:Int) (H:f_bound_Units.f a0 a1=some r):Pv.Fn Tryz.prog 71 [iV .i64 a0,iV .i64 a1] [] 0 (fun x o=>x=iV .i64 r∧o=[]):=by
 unfold f_bound_Units.f at H
 refine Fn.bodyK [] Tryz.func71 rfl rfl (fun Γ hP hn => ?_)
 have hm:Tryz.prog.follows .mixedOrders=true:=by kernel_rfl
 replace hn:Γ.n=12:=hn
 refine sr hP hn hm [] [] [0,1] [] [] [] (by kernel_rfl) trivial ?_
 refine AWp.seq ?_
 obtain⟨t596,e597,H⟩:=bind_of H
 refine sr hP hn hm [(1,.call [] [] [] [] 0 (bV t596) [])] [(7,bV (!t596))] [0,1,7] [] [] [_,_] (by kernel_rfl) ⟨Tryz.call84,f_bound_Right.ok a0 t596 e597,trivial⟩ ?_
 refine AWp.cond (!t596) (by kernel_rfl) (fun c598 => ?_) (fun c598 => ?_)
 ·replace H:=iT c598 H
  refine sr hP hn hm [] [(4,iV .i64 0)] [4] [] [] [] (by kernel_rfl) trivial ?_
  refine AWp.conv (inv:=[]) (vk:=[]) (e0:=[]) (t:=⟨[(4,iV .i64 0)],[],0⟩) (by kernel_rfl) ?_
  refine AWp.ret ?_
  obtain rfl:=Option.some.inj H
  exact rl (.inl rfl) rfl (by kernel_rfl) (by kernel_rfl)
 ·replace H:=iF c598 H
  refine AWp.skip ?_
  obtain⟨t602,e603,H⟩:=bind_of H
  obtain⟨c604,H⟩:=chk_of H
  refine sr hP hn hm [(2,.call [] [] [] [] 0 (iV .u64 (u64.wrap (i64.wrap ((8:Int)-a0)))) [])] [(4,iV .i64 (i64.wrap (a1*2 ^ (min (Int.toNat (u64.wrap (i64.wrap ((8:Int)-a0)))) 64))))] [4] [] [] [_,_,_] (by kernel_rfl) ⟨Tryz.call85,f_bound_shift.ok a0 t602 e603,c604,trivial⟩ ?_
  refine AWp.conv (inv:=[]) (vk:=[]) (e0:=[]) (t:=⟨[(4,iV .i64 (i64.wrap (a1*2 ^ (min (Int.toNat (u64.wrap (i64.wrap ((8:Int)-a0)))) 64))))],[],0⟩) (by kernel_rfl) ?_
  refine AWp.ret ?_
  obtain rfl:=Option.some.inj H
  exact rl (.inl rfl) rfl (by kernel_rfl) (by kernel_rfl)
def f_bound_Low.f (a0:Int) (a1:Int):Option (Int):=(f_bound_Units.f a0 (i64.wrap (a1-(1:Int))))>>=fun t607=>some t607
theorem f_bound_Low.ok (a0:Int) (a1:Int) (r:Int) (H:f_bound_Low.f a0 a1=some r):Pv.Fn Tryz.prog 70 [iV .i64 a0,iV .i64 a1] [] 0 (fun x o=>x=iV .i64 r∧o=[]):=by
 unfold f_bound_Low.f at H
 refine Fn.bodyK [] Tryz.func70 rfl rfl (fun Γ hP hn => ?_)
 have hm:Tryz.prog.follows .mixedOrders=true:=by kernel_rfl
 replace hn:Γ.n=9:=hn
 refine sr hP hn hm [] [] [0,1] [] [] [] (by kernel_rfl) trivial ?_
 obtain⟨t607,e608,H⟩:=bind_of H
 refine sr hP hn hm [(3,.call [] [] [] [] 0 (iV .i64 t607) [])] [(4,iV .i64 t607)] [4] [] [] [_,_] (by kernel_rfl) ⟨Tryz.call71,f_bound_Units.ok a0 (i64.wrap (a1-(1:Int))) t607 e608,trivial⟩ ?_
 refine AWp.conv (inv:=[]) (vk:=[]) (e0:=[]) (t:=⟨[(4,iV .i64 t607)],[],0⟩) (by kernel_rfl) ?_
 refine AWp.ret ?_
 obtain rfl:=Option.some.inj H
 exact rl (.inl rfl) rfl (by kernel_rfl) (by kernel_rfl)
def f_meld_edge.l0 (a0:THist) (a1:List TBucket) (a2:Int) (x625:Int):Option (Int ⊕ Unit):=if(decide (x625<(a1.length:Int)))=true then((at? a1 x625)>>=fun b630=>(((f_bound_Low.f a0.f1 b630.f0)>>=fun t638=>if(decide (t638<a2))=true then((f_bound_Units.f a0.f1 b630.f0)>>=fun t641=>some (decide (a2<t641))) else(some false)):Option (Bool))>>=fun x643=>if x643=true then((f_bound_Units.f a0.f1 b630.f0)>>=fun t647=>some (.inl t647)) else(f_meld_edge.l0 a0 a1 a2 (i64.wrap (x625+(1:Int))))) else(some (.inr ()))
partial_fixpoint
def f_meld_edge.f (a0:THist) (a1:List TBucket) (a2:Int):Option (Int):=(f_meld_edge.l0 a0 a1 a2 0)>>=fun oo=>match oo with | .inl rr=>(some rr) | .inr _=>(some a2)
theorem f_meld_edge.ok (a0:THist) (a1:List TBucket) (a2:Int) (r:Int) (H:f_meld_edge.f a0 a1 a2=some r):Pv.Fn Tryz.prog 96 [.agg (aHist a0),.im (.row (a1.map eBucket)),iV .i64 a2] [] 0 (fun x o=>x=iV .i64 r∧o=[]):=by
 unfold f_meld_edge.f at H
 refine Fn.bodyK [] Tryz.func96 rfl rfl (fun Γ hP hn => ?_)
 have hm:Tryz.prog.follows .mixedOrders=true:=by kernel_rfl
 replace hn:Γ.n=38:=hn
 refine sr hP hn hm [(0,.k 0)] [(3,.ptr 0 0 0)] [1,2,3] [(0,some (.box 32 (aHist a0)))] [0] [] (by kernel_rfl) trivial ?_
 refine AWp.seq ?_
 refine sr hP hn hm [(1,.any (iV .i64 (a1.length:Int)))] [(9,.im (.row (a1.map eBucket))),(10,iV .i64 (a1.length:Int)),(11,iV .i64 0)] [2,3,9,10,11] [] [0] [((a1.map eBucket).length:Int)=(a1.length:Int)] (by kernel_rfl) ⟨by rw[len_map],trivial⟩ ?_
 refine AWp.block ?_
 obtain⟨o649,e650,H⟩:=bind_of H
 refine AWp.loop (LWp.conv (inv:=[(0,4)]) (vk:=[]) (e0:=[]) (t:=⟨[(2,iV .i64 a2),(3,.ptr 4 0 0),(9,.im (.row (a1.map eBucket))),(10,iV .i64 (a1.length:Int)),(11,iV .i64 0)],[(4,some (.box 32 (aHist a0)))],0⟩) (by kernel_rfl) ?_)
 refine LWp.mono (Q:=fun e s=>(match (generalizing:=false) o649 with | .inl rr=>e = .ret∧s.floor=0∧resOf Tryz.prog Tryz.f96 s=some (iV .i64 rr)∧([]:List (Nat×Option MObj))=[] | .inr _=>e = .exit 0∧s=⟨[(2,iV .i64 a2)],[],0⟩)) (LWp.cv (withBody (fun body hbody => ?_))) ?_
 ·refine f_meld_edge.l0.partial_correctness a0 a1 a2 (motive:=fun x625 o649=>LWp Γ body (fun e s=>∃ t,Cv Γ s t∧(match (generalizing:=false) o649 with | .inl rr=>e = .ret∧t.floor=0∧resOf Tryz.prog Tryz.f96 t=some (iV .i64 rr)∧([]:List (Nat×Option MObj))=[] | .inr _=>e = .exit 0∧t=⟨[(2,iV .i64 a2)],[],0⟩)) ⟨[(2,iV .i64 a2),(3,.ptr 4 0 0),(9,.im (.row (a1.map eBucket))),(10,iV .i64 (a1.length:Int)),(11,iV .i64 x625)],[(4,some (.box 32 (aHist a0)))],0⟩) ?_ _ _ e650
  clear H e650 o649;intro self ih x625 o649 H
  subst hbody
  refine LWp.round ?_
  refine sr hP hn hm [] [(12,bV (decide (x625<(a1.length:Int))))] [2,3,9,10,11,12] [] [4] [] (by kernel_rfl) trivial ?_
  refine AWp.seq ?_
  refine AWp.cond (decide (x625<(a1.length:Int))) (by kernel_rfl) (fun c626 => ?_) (fun c626 => ?_)
  ·replace H:=iT c626 H
   refine AWp.skip ?_
   refine AWp.seq ?_
   refine AWp.block ?_
   obtain⟨b630,p631,q632,H⟩:=at_of H
   refine sr hP hn hm [(0,.c (eBucket b630)),(2,.k 5)] [(8,.ptr 5 0 0)] [2,3,8,9,10,11] [(5,some (.box 89 (aBucket b630)))] [4,5] [_,_] (by kernel_rfl) ⟨p631,el_map eBucket q632,trivial⟩ ?_
   refine AWp.seq ?_
   obtain⟨o651,e652,H⟩:=bind_of H
   refine AWp.mono (Q:=fun e s=>(match (generalizing:=false) o651 with | x643=>e = .normal∧s=⟨[(2,iV .i64 a2),(3,.ptr 6 0 0),(8,.ptr 7 0 0),(9,.im (.row (a1.map eBucket))),(10,iV .i64 (a1.length:Int)),(11,iV .i64 x625),(30,bV x643)],[(6,some (.box 32 (aHist a0))),(7,some (.box 89 (aBucket b630)))],0⟩)) (AWp.cv ?_) ?_
   ·replace H:=e652;clear e652
    obtain⟨t638,e639,H⟩:=bind_of H
    rcases Bool.eq_false_or_eq_true (decide (t638<a2)) with c640 | c640
    ·replace H:=iT c640 H
     obtain⟨t641,e642,H⟩:=bind_of H
     refine rg hP hn hm [(4,.call [] [] [] [] 0 (iV .i64 t638) []),(7,.b true),(13,.call [] [] [] [] 0 (iV .i64 t641) [])] [(23,iV .i64 a2),(24,.ptr 4 0 1),(25,iV .i64 a0.f1),(26,.ptr 5 0 0),(27,iV .i64 b630.f0),(28,iV .i64 t641),(29,bV (decide (a2<t641))),(30,bV (decide (a2<t641)))] [2,3,8,9,10,11,23,24,25,26,27,28,29,30] [] [4,5] [_,_,_,_,_] (by kernel_rfl) ⟨Tryz.call70,f_bound_Low.ok a0.f1 b630.f0 t638 e639,c640,Tryz.call71,f_bound_Units.ok a0.f1 b630.f0 t641 e642,trivial⟩ ?_
     obtain rfl:=Option.some.inj H
     exact lf [(4,6),(5,7)] [] [] (by kernel_rfl) ⟨rfl,rfl⟩
    ·replace H:=iF c640 H
     refine rg hP hn hm [(4,.call [] [] [] [] 0 (iV .i64 t638) []),(7,.b false)] [(30,bV false)] [2,3,8,9,10,11,30] [] [4,5] [_,_,_] (by kernel_rfl) ⟨Tryz.call70,f_bound_Low.ok a0.f1 b630.f0 t638 e639,c640,trivial⟩ ?_
     obtain rfl:=Option.some.inj H
     exact lf [(4,6),(5,7)] [] [] (by kernel_rfl) ⟨rfl,rfl⟩
   ·obtain⟨x643,rfl⟩:∃ z,z=o651:=⟨_,rfl⟩
    rintro e s ⟨rfl,rfl⟩
    refine AWp.cond x643 (by kernel_rfl) (fun c644 => ?_) (fun c644 => ?_)
    ·replace H:=iT c644 H
     obtain⟨t647,e648,H⟩:=bind_of H
     refine sr hP hn hm [(4,.call [] [] [] [] 0 (iV .i64 t647) [])] [(6,iV .i64 t647)] [6] [] [] [_,_] (by kernel_rfl) ⟨Tryz.call71,f_bound_Units.ok a0.f1 b630.f0 t647 e648,trivial⟩ ?_
     refine AWp.conv (inv:=[]) (vk:=[]) (e0:=[]) (t:=⟨[(6,iV .i64 t647)],[],0⟩) (by kernel_rfl) ?_
     refine AWp.ret ?_
     obtain rfl:=Option.some.inj H
     exact rl rfl rfl (by kernel_rfl) (by kernel_rfl)
    ·replace H:=iF c644 H
     refine AWp.skip ?_
     refine rg hP hn hm [] [(11,iV .i64 (i64.wrap (x625+(1:Int))))] [2,3,9,10,11] [] [6] [] (by kernel_rfl) trivial ?_
     exact LWp.conv [(6,4)] [] [] (by kernel_rfl) (ih _ _ H)
  ·replace H:=iF c626 H
   refine AWp.exit ?_
   obtain rfl:=Option.some.inj H
   exact lf [] [] [] (by kernel_rfl) ⟨rfl,rfl⟩
 ·rcases o649 with rr | _
  ·skip
   rintro e s ⟨rfl,hfl,hres⟩
   obtain rfl:=Option.some.inj H
   exact Exists.intro _ (And.intro (fun _ _ h=>h) (And.intro (.inl rfl) (And.intro hfl hres)))
  ·skip
   rintro e s ⟨rfl,rfl⟩
   refine sr hP hn hm [] [(6,iV .i64 a2)] [6] [] [] [] (by kernel_rfl) trivial ?_
   refine AWp.conv (inv:=[]) (vk:=[]) (e0:=[]) (t:=⟨[(6,iV .i64 a2)],[],0⟩) (by kernel_rfl) ?_
   refine AWp.ret ?_
   obtain rfl:=Option.some.inj H
   exact rl (.inl rfl) rfl (by kernel_rfl) (by kernel_rfl)
def f_num_Add.l0 (a0:List Int) (x685:Int) (x686:Int):Option ((Int×Int) ⊕ Int):=if(decide (x686<(a0.length:Int)))=true then((at? a0 x686)>>=fun b691=>(chk (0≤x685∧0≤b691∧0≤(0:Int)∧(0:Int)≤(1:Int)))>>=fun _=>if(((x685+b691+(0:Int)) / 18446744073709551616) != (0:Int))=true then(some (.inl (0,5))) else(f_num_Add.l0 a0 ((x685+b691+(0:Int)) % 18446744073709551616) (i64.wrap (x686+(1:Int))))) else(some (.inr x685))
partial_fixpoint
def f_num_Add.f (a0:List Int):Option (Int×Int):=(f_num_Add.l0 a0 0 0)>>=fun oo=>match oo with | .inl rr=>(some rr) | .inr x697=>(some (x697,0))
theorem f_num_Add.ok (a0:List Int) (r:Int×Int) (H:f_num_Add.f a0=some r):Pv.Fn Tryz.prog 63 [.im (.row (a0.map (encInt .u64)))] [] 0 (fun x o=>x = .tup [iV .u64 r.1,iV .i64 r.2]∧o=[]):=by
 unfold f_num_Add.f at H
 refine Fn.bodyK [] Tryz.func63 rfl rfl (fun Γ hP hn => ?_)
 have hm:Tryz.prog.follows .mixedOrders=true:=by kernel_rfl
 replace hn:Γ.n=26:=hn
 refine sr hP hn hm [] [] [0] [] [] [] (by kernel_rfl) trivial ?_
 refine sr hP hn hm [] [(4,iV .u64 0)] [0,4] [] [] [] (by kernel_rfl) trivial ?_
 refine AWp.seq ?_
 refine sr hP hn hm [(1,.any (iV .i64 (a0.length:Int)))] [(9,.im (.row (a0.map (encInt .u64)))),(10,iV .i64 (a0.length:Int)),(11,iV .i64 0)] [4,9,10,11] [] [] [((a0.map (encInt .u64)).length:Int)=(a0.length:Int)] (by kernel_rfl) ⟨by rw[len_map],trivial⟩ ?_
 refine AWp.block ?_
 obtain⟨o698,e699,H⟩:=bind_of H
 refine AWp.loop (LWp.conv (inv:=[]) (vk:=[]) (e0:=[]) (t:=⟨[(4,iV .u64 0),(9,.im (.row (a0.map (encInt .u64)))),(10,iV .i64 (a0.length:Int)),(11,iV .i64 0)],[],0⟩) (by kernel_rfl) ?_)
 refine LWp.mono (Q:=fun e s=>(match (generalizing:=false) o698 with | .inl rr=>e = .ret∧s.floor=0∧resOf Tryz.prog Tryz.f63 s=some (.tup [iV .u64 rr.1,iV .i64 rr.2])∧([]:List (Nat×Option MObj))=[] | .inr x697=>e = .exit 0∧s=⟨[(4,iV .u64 x697)],[],0⟩)) (LWp.cv (withBody (fun body hbody => ?_))) ?_
 ·refine f_num_Add.l0.partial_correctness a0 (motive:=fun x685 x686 o698=>LWp Γ body (fun e s=>∃ t,Cv Γ s t∧(match (generalizing:=false) o698 with | .inl rr=>e = .ret∧t.floor=0∧resOf Tryz.prog Tryz.f63 t=some (.tup [iV .u64 rr.1,iV .i64 rr.2])∧([]:List (Nat×Option MObj))=[] | .inr x697=>e = .exit 0∧t=⟨[(4,iV .u64 x697)],[],0⟩)) ⟨[(4,iV .u64 x685),(9,.im (.row (a0.map (encInt .u64)))),(10,iV .i64 (a0.length:Int)),(11,iV .i64 x686)],[],0⟩) ?_ _ _ _ e699
  clear H e699 o698;intro self ih x685 x686 o698 H
  subst hbody
  refine LWp.round ?_
  refine sr hP hn hm [] [(12,bV (decide (x686<(a0.length:Int))))] [4,9,10,11,12] [] [] [] (by kernel_rfl) trivial ?_
  refine AWp.seq ?_
  refine AWp.cond (decide (x686<(a0.length:Int))) (by kernel_rfl) (fun c687 => ?_) (fun c687 => ?_)
  ·replace H:=iT c687 H
   refine AWp.skip ?_
   refine AWp.seq ?_
   refine AWp.block ?_
   obtain⟨b691,p692,q693,H⟩:=at_of H
   refine sr hP hn hm [(0,.c ((encInt .u64) b691))] [(6,iV .u64 b691)] [4,6,9,10,11] [] [] [_,_] (by kernel_rfl) ⟨p692,el_map (encInt .u64) q693,trivial⟩ ?_
   obtain⟨c695,H⟩:=chk_of H
   refine sr hP hn hm [(2,.ext (.tup [iV .u64 ((x685+b691+(0:Int)) % 18446744073709551616),iV .u64 ((x685+b691+(0:Int)) / 18446744073709551616)]))] [(7,iV .u64 ((x685+b691+(0:Int)) % 18446744073709551616)),(8,iV .u64 ((x685+b691+(0:Int)) / 18446744073709551616))] [7,8,9,10,11] [] [] [∀ w,(callFunc 78 ([.int .u64 x685,.int .u64 b691,.int .u64 (0:Int)]:List Value).toArray).run Tryz.prog w = .ok (.value (.tuple #[.int .u64 ((x685+b691+(0:Int)) % 18446744073709551616),.int .u64 ((x685+b691+(0:Int)) / 18446744073709551616)])) w] (by kernel_rfl) ⟨by exact fun w=>x_add64 (fn:=Tryz.f78) Tryz.func78 (by kernel_rfl) rfl (by kernel_rfl) (by kernel_rfl) c695 w,trivial⟩ ?_
   refine AWp.seq ?_
   refine sr hP hn hm [] [(22,bV (((x685+b691+(0:Int)) / 18446744073709551616) != (0:Int)))] [7,9,10,11,22] [] [] [] (by kernel_rfl) trivial ?_
   refine AWp.cond (((x685+b691+(0:Int)) / 18446744073709551616) != (0:Int)) (by kernel_rfl) (fun c696 => ?_) (fun c696 => ?_)
   ·replace H:=iT c696 H
    refine sr hP hn hm [] [(2,iV .u64 0),(3,iV .i64 5)] [2,3] [] [] [] (by kernel_rfl) trivial ?_
    refine AWp.conv (inv:=[]) (vk:=[]) (e0:=[]) (t:=⟨[(2,iV .u64 0),(3,iV .i64 5)],[],0⟩) (by kernel_rfl) ?_
    refine AWp.ret ?_
    obtain rfl:=Option.some.inj H
    exact rl rfl rfl (by kernel_rfl) (by kernel_rfl)
   ·replace H:=iF c696 H
    refine AWp.skip ?_
    refine rg hP hn hm [] [(4,iV .u64 ((x685+b691+(0:Int)) % 18446744073709551616))] [4,9,10,11] [] [] [] (by kernel_rfl) trivial ?_
    refine rg hP hn hm [] [(11,iV .i64 (i64.wrap (x686+(1:Int))))] [4,9,10,11] [] [] [] (by kernel_rfl) trivial ?_
    exact LWp.conv [] [] [] (by kernel_rfl) (ih _ _ _ H)
  ·replace H:=iF c687 H
   refine AWp.exit ?_
   obtain rfl:=Option.some.inj H
   exact lf [] [] [] (by kernel_rfl) ⟨rfl,rfl⟩
 ·rcases o698 with rr | x697
  ·skip
   rintro e s ⟨rfl,hfl,hres⟩
   obtain rfl:=Option.some.inj H
   exact Exists.intro _ (And.intro (fun _ _ h=>h) (And.intro (.inl rfl) (And.intro hfl hres)))
  ·skip
   rintro e s ⟨rfl,rfl⟩
   refine sr hP hn hm [] [(2,iV .u64 x697),(3,iV .i64 0)] [2,3] [] [] [] (by kernel_rfl) trivial ?_
   refine AWp.conv (inv:=[]) (vk:=[]) (e0:=[]) (t:=⟨[(2,iV .u64 x697),(3,iV .i64 0)],[],0⟩) (by kernel_rfl) ?_
   refine AWp.ret ?_
   obtain rfl:=Option.some.inj H
   exact rl (.inl rfl) rfl (by kernel_rfl) (by kernel_rfl)
def f_meld_swallow_1_8ce.l0 (a0:List TBucket) (a1_c0:Int) (a1_c1:Int) (a1_c2:Int) (a1_c4:Int) (a1_c5:Int) (a1_c6:List TBucket) (a1_c7:List TBucket) (a2_c0:Int) (x706:Int) (x707:List TBucket) (x708:Int):Option ((List TBucket)×Int):=if(decide (x708<(a0.length:Int)))=true then((at? a0 x708)>>=fun b713=>(f_bound_Units.f a1_c1 b713.f0)>>=fun t718=>((if(decide (t718>a2_c0))=true then((chk ((x707.length+[b713].length)*16≤140737488355328))>>=fun _=>some (x706,x707++[b713])) else((f_num_Add.f [x706,b713.f1])>>=fun t725=>some (t725.1,x707))):Option (Int×(List TBucket)))>>=fun oo=>match oo with | (x727,x728)=>(f_meld_swallow_1_8ce.l0 a0 a1_c0 a1_c1 a1_c2 a1_c4 a1_c5 a1_c6 a1_c7 a2_c0 x727 x728 (i64.wrap (x708+(1:Int))))) else(some (x707,x706))
partial_fixpoint
def f_meld_swallow_1_8ce.f (a0:List TBucket) (a1_c0:Int) (a1_c1:Int) (a1_c2:Int) (a1_c3:Int) (a1_c4:Int) (a1_c5:Int) (a1_c6:List TBucket) (a1_c7:List TBucket) (a2_c0:Int):Option ((List TBucket)×Int):=(f_meld_swallow_1_8ce.l0 a0 a1_c0 a1_c1 a1_c2 a1_c4 a1_c5 a1_c6 a1_c7 a2_c0 a1_c3 [] 0)>>=fun oo=>match oo with | (x729,x730)=>(some (x729,x730))
theorem f_meld_swallow_1_8ce.ok (a0:List TBucket) (a1_c0:Int) (a1_c1:Int) (a1_c2:Int) (a1_c3:Int) (a1_c4:Int) (a1_c5:Int) (a1_c6:List TBucket) (a1_c7:List TBucket) (a2_c0:Int) (r:(List TBucket)×Int) (H:f_meld_swallow_1_8ce.f a0 a1_c0 a1_c1 a1_c2 a1_c3 a1_c4 a1_c5 a1_c6 a1_c7 a2_c0=some r):Pv.Fn Tryz.prog 97 [.im (.row (a0.map eBucket)),.ptr 0 0 0,.ptr 1 0 0] [(0,some (.box 32 (aHist ⟨a1_c0,a1_c1,a1_c2,a1_c3,a1_c4,a1_c5,a1_c6,a1_c7⟩))),(1,some (.box 3 [iV .i64 a2_c0]))] 2 (fun x o=>x = .own 2∧o=[(0,some (.box 32 (aHist ⟨a1_c0,a1_c1,a1_c2,r.2,a1_c4,a1_c5,a1_c6,a1_c7⟩))),(1,some (.box 3 [iV .i64 a2_c0])),(2,some (.row 2 89 (r.1.map eBucket)))]):=by
 unfold f_meld_swallow_1_8ce.f at H
 refine Fn.bodyK [0,1,2] Tryz.func97 rfl rfl (fun Γ hP hn => ?_)
 have hm:Tryz.prog.follows .mixedOrders=true:=by kernel_rfl
 replace hn:Γ.n=37:=hn
 refine sr hP hn hm [] [] [0,1,2] [] [0,1] [] (by kernel_rfl) trivial ?_
 refine sr hP hn hm [] [(5,.none0)] [0,1,2,5] [] [0,1] [] (by kernel_rfl) trivial ?_
 refine AWp.seq ?_
 refine sr hP hn hm [(1,.any (iV .i64 (a0.length:Int)))] [(8,.im (.row (a0.map eBucket))),(9,iV .i64 (a0.length:Int)),(10,iV .i64 0)] [1,2,5,8,9,10] [] [0,1] [((a0.map eBucket).length:Int)=(a0.length:Int)] (by kernel_rfl) ⟨by rw[len_map],trivial⟩ ?_
 refine AWp.block ?_
 obtain⟨o731,e732,H⟩:=bind_of H
 refine AWp.loop (LWp.conv (inv:=[(0,0),(1,1)]) (vk:=[]) (e0:=[7]) (t:=⟨[(1,.ptr 0 0 0),(2,.ptr 1 0 0),(5,.own 7),(8,.im (.row (a0.map eBucket))),(9,iV .i64 (a0.length:Int)),(10,iV .i64 0)],[(0,some (.box 32 (aHist ⟨a1_c0,a1_c1,a1_c2,a1_c3,a1_c4,a1_c5,a1_c6,a1_c7⟩))),(1,some (.box 3 [iV .i64 a2_c0])),(7,some (.row 2 89 ([].map eBucket)))],2⟩) (by kernel_rfl) ?_)
 refine LWp.mono (Q:=fun e s=>(match (generalizing:=false) o731 with | (x729,x730)=>e = .exit 0∧s=⟨[(5,.own 13)],[(0,some (.box 32 (aHist ⟨a1_c0,a1_c1,a1_c2,x730,a1_c4,a1_c5,a1_c6,a1_c7⟩))),(1,some (.box 3 [iV .i64 a2_c0])),(13,some (.row 2 89 (x729.map eBucket)))],2⟩)) (LWp.cv (withBody (fun body hbody => ?_))) ?_
 ·refine f_meld_swallow_1_8ce.l0.partial_correctness a0 a1_c0 a1_c1 a1_c2 a1_c4 a1_c5 a1_c6 a1_c7 a2_c0 (motive:=fun x706 x707 x708 o731=>LWp Γ body (fun e s=>∃ t,Cv Γ s t∧(match (generalizing:=false) o731 with | (x729,x730)=>e = .exit 0∧t=⟨[(5,.own 13)],[(0,some (.box 32 (aHist ⟨a1_c0,a1_c1,a1_c2,x730,a1_c4,a1_c5,a1_c6,a1_c7⟩))),(1,some (.box 3 [iV .i64 a2_c0])),(13,some (.row 2 89 (x729.map eBucket)))],2⟩)) ⟨[(1,.ptr 0 0 0),(2,.ptr 1 0 0),(5,.own 7),(8,.im (.row (a0.map eBucket))),(9,iV .i64 (a0.length:Int)),(10,iV .i64 x708)],[(0,some (.box 32 (aHist ⟨a1_c0,a1_c1,a1_c2,x706,a1_c4,a1_c5,a1_c6,a1_c7⟩))),(1,some (.box 3 [iV .i64 a2_c0])),(7,some (.row 2 89 (x707.map eBucket)))],2⟩) ?_ _ _ _ _ e732
  clear H e732 o731;intro self ih x706 x707 x708 o731 H
  subst hbody
  refine LWp.round ?_
  refine sr hP hn hm [] [(11,bV (decide (x708<(a0.length:Int))))] [1,2,5,8,9,10,11] [] [0,1,7] [] (by kernel_rfl) trivial ?_
  refine AWp.seq ?_
  refine AWp.cond (decide (x708<(a0.length:Int))) (by kernel_rfl) (fun c709 => ?_) (fun c709 => ?_)
  ·replace H:=iT c709 H
   refine AWp.skip ?_
   refine AWp.seq ?_
   refine AWp.block ?_
   obtain⟨b713,p714,q715,H⟩:=at_of H
   refine sr hP hn hm [(0,.c (eBucket b713)),(2,.k 8)] [(7,.ptr 8 0 0)] [1,2,5,7,8,9,10] [(8,some (.box 89 (aBucket b713)))] [0,1,7,8] [_,_] (by kernel_rfl) ⟨p714,el_map eBucket q715,trivial⟩ ?_
   obtain⟨t718,e719,H⟩:=bind_of H
   refine sr hP hn hm [(4,.call [] [] [] [] 0 (iV .i64 t718) [])] [(20,bV (decide (t718>a2_c0)))] [1,2,5,7,8,9,10,20] [] [0,1,7,8] [_,_] (by kernel_rfl) ⟨Tryz.call71,f_bound_Units.ok a1_c1 b713.f0 t718 e719,trivial⟩ ?_
   obtain⟨o733,e734,H⟩:=bind_of H
   refine AWp.mono (Q:=fun e s=>(match (generalizing:=false) o733 with | (x727,x728)=>e = .normal∧s=⟨[(1,.ptr 0 0 0),(2,.ptr 1 0 0),(5,.own 12),(8,.im (.row (a0.map eBucket))),(9,iV .i64 (a0.length:Int)),(10,iV .i64 x708)],[(0,some (.box 32 (aHist ⟨a1_c0,a1_c1,a1_c2,x727,a1_c4,a1_c5,a1_c6,a1_c7⟩))),(1,some (.box 3 [iV .i64 a2_c0])),(12,some (.row 2 89 (x728.map eBucket)))],2⟩)) (AWp.cv ?_) ?_
   ·replace H:=e734;clear e734
    refine AWp.cond (decide (t718>a2_c0)) (by kernel_rfl) (fun c720 => ?_) (fun c720 => ?_)
    ·replace H:=iT c720 H
     obtain⟨c722,H⟩:=chk_of H
     refine rg hP hn hm [(2,.app 9 ([b713].map eBucket)),(3,.app 10 ((x707++[b713]).map eBucket))] [(5,.own 10)] [1,2,5,8,9,10] [(10,some (.row 2 89 ((x707++[b713]).map eBucket)))] [0,1,10] [[b713].map eBucket=[[iI .i64 b713.f0,iI .u64 b713.f1]],(x707++[b713]).map eBucket=(x707.map eBucket)++([b713].map eBucket),∀ c∈([b713].map eBucket),c.length=2,∀ c∈([b713].map eBucket),leaves (c.map .im)=true,((x707.map eBucket).length+([b713].map eBucket).length)*16≤140737488355328] (by kernel_rfl) ⟨by exact rfl,by simp,by exact all_len _ _ _ (fun _=>rfl),by exact all_leaf _ _ (fun _=>rfl),by simpa using c722,trivial⟩ ?_
     obtain rfl:=Option.some.inj H
     exact lf [(0,0),(1,1),(10,12)] [] [] (by kernel_rfl) ⟨rfl,rfl⟩
    ·replace H:=iF c720 H
     obtain⟨t725,e726,H⟩:=bind_of H
     refine rg hP hn hm [(4,.app 11 ([x706,b713.f1].map (encInt .u64))),(5,.call [] [] [11] [] 0 (.tup [iV .u64 t725.1,iV .i64 t725.2]) [])] [] [1,2,5,8,9,10] [(0,some (.box 32 (aHist ⟨a1_c0,a1_c1,a1_c2,t725.1,a1_c4,a1_c5,a1_c6,a1_c7⟩)))] [0,1,7] [[x706,b713.f1].map (encInt .u64)=[[iI .u64 x706],[iI .u64 b713.f1]],_,_] (by kernel_rfl) ⟨by exact rfl,Tryz.call63,f_num_Add.ok [x706,b713.f1] t725 e726,trivial⟩ ?_
     obtain rfl:=Option.some.inj H
     exact lf [(0,0),(1,1),(7,12)] [] [] (by kernel_rfl) ⟨rfl,rfl⟩
   ·obtain⟨x727,x728⟩:=o733
    rintro e s ⟨rfl,rfl⟩
    refine rg hP hn hm [] [(10,iV .i64 (i64.wrap (x708+(1:Int))))] [1,2,5,8,9,10] [] [0,1,12] [] (by kernel_rfl) trivial ?_
    exact LWp.conv [(0,0),(1,1),(12,7)] [] [] (by kernel_rfl) (ih _ _ _ _ H)
  ·replace H:=iF c709 H
   refine AWp.exit ?_
   obtain rfl:=Option.some.inj H
   exact lf [(7,13),(0,0),(1,1)] [] [] (by kernel_rfl) ⟨rfl,rfl⟩
 ·obtain⟨x729,x730⟩:=o731
  rintro e s ⟨rfl,rfl⟩
  refine sr hP hn hm [] [(4,.own 13)] [4] [] [0,1,13] [] (by kernel_rfl) trivial ?_
  refine AWp.conv (inv:=[(0,0),(1,1),(13,2)]) (vk:=[]) (e0:=[]) (t:=⟨[(4,.own 2)],[(0,some (.box 32 (aHist ⟨a1_c0,a1_c1,a1_c2,x730,a1_c4,a1_c5,a1_c6,a1_c7⟩))),(1,some (.box 3 [iV .i64 a2_c0])),(2,some (.row 2 89 (x729.map eBucket)))],2⟩) (by kernel_rfl) ?_
  refine AWp.ret ?_
  obtain rfl:=Option.some.inj H
  exact rl (.inl rfl) rfl (by kernel_rfl) (by kernel_rfl)
def f_slices_Clone_api_Bucket.f (a0:List TBucket):Option (List TBucket):=(chk ((([]:List TBucket).length+a0.length)*16≤140737488355328))>>=fun _=>some a0
theorem f_slices_Clone_api_Bucket.ok (a0 r:List TBucket) (H:f_slices_Clone_api_Bucket.f a0=some r):Pv.Fn Tryz.prog 38 [.im (.row (a0.map eBucket))] [] 0 (fun x o=>x = .own 0∧o=[(0,some (.row 2 89 (r.map eBucket)))]):=by
 unfold f_slices_Clone_api_Bucket.f at H
 obtain⟨c1,H⟩:=chk_of H
 obtain rfl:=Option.some.inj H
 refine Fn.bodyK [0] Tryz.func38 rfl rfl (fun Γ hP hn => ?_)
 have hm:Tryz.prog.follows .mixedOrders=true:=by kernel_rfl
 replace hn:Γ.n=8:=hn
 refine AWp.seq ?_
 refine reg hP hn hm [] [0,2] [] ⟨[(0,.im (.row (a0.map eBucket))),(2,.none0)],[],0⟩ [] (by kernel_rfl) trivial ?_
 refine AWp.seq ?_
 cases a0 with
 | nil =>
  refine AWp.nilSplit 0 rfl (fun b m => ?_)
  refine AWp.seq ?_
  cases b with
  | none =>
   refine reg hP hn hm [(1,.more xNil)] [2,4] [] ⟨[(2,.none0),(4,bV true)],[],0⟩ [] (by kernel_rfl) trivial ?_
   refine AWp.cond true rfl (fun _ => ?_) (fun h=>nomatch h)
   refine AWp.seq ?_
   refine reg hP hn hm [] [2] [] ⟨[(2,.none0)],[],0⟩ [] (by kernel_rfl) trivial ?_
   refine AWp.conv (inv:=[]) (vk:=[]) (e0:=[0]) (t:=⟨[(2,.own 0)],[(0,some (.row 2 89 []))],0⟩) (by kernel_rfl) ?_
   refine AWp.ret ?_
   exact Exists.intro _ (And.intro (fun _ _ h=>h) (And.intro (.inl rfl) (And.intro rfl (And.intro (by kernel_rfl) (by kernel_rfl)))))
  | some b =>
   refine reg hP hn hm [(1,.more xNil)] [0,2,4] [] ⟨[(0,.im (.sc (.slice (some b) 0 m))),(2,.none0),(4,bV false)],[],0⟩ [] (by kernel_rfl) trivial ?_
   refine AWp.cond false rfl (fun h=>nomatch h) (fun _ => ?_)
   refine AWp.skip ?_
   refine AWp.unsplit 0 rfl ?_
   refine AWp.seq ?_
   refine reg hP hn hm [(0,.app 0 ([]:List (List Im))),(2,.app 1 (([]:List TBucket).map eBucket))] [2] [1] ⟨[(2,.own 1)],[(1,some (.row 2 89 (([]:List TBucket).map eBucket)))],0⟩ [([]:List (List Im))=[],([]:List TBucket).map eBucket=([]:List (List Im))++([]:List TBucket).map eBucket,∀ c∈([]:List TBucket).map eBucket,c.length=2,∀ c∈([]:List TBucket).map eBucket,leaves (c.map .im)=true,(([]:List (List Im)).length+(([]:List TBucket).map eBucket).length)*16≤140737488355328] (by kernel_rfl) ⟨rfl,by simp,by exact all_len _ _ _ (fun _=>rfl),by exact all_leaf _ _ (fun _=>rfl),by simpa using c1,trivial⟩ ?_
   refine AWp.conv (inv:=[(1,0)]) (vk:=[]) (e0:=[]) (t:=⟨[(2,.own 0)],[(0,some (.row 2 89 (([]:List TBucket).map eBucket)))],0⟩) (by kernel_rfl) ?_
   refine AWp.ret ?_
   exact Exists.intro _ (And.intro (fun _ _ h=>h) (And.intro (.inl rfl) (And.intro rfl (And.intro (by kernel_rfl) (by kernel_rfl)))))
 | cons y l =>
  refine AWp.seq ?_
  refine reg hP hn hm [(1,.more xNil)] [0,2,4] [] ⟨[(0,.im (.row ((y::l).map eBucket))),(2,.none0),(4,bV false)],[],0⟩ [] (by kernel_rfl) trivial ?_
  refine AWp.cond false rfl (fun h=>nomatch h) (fun _ => ?_)
  refine AWp.skip ?_
  refine AWp.seq ?_
  refine reg hP hn hm [(0,.app 0 ([]:List (List Im))),(2,.app 1 ((y::l).map eBucket))] [2] [1] ⟨[(2,.own 1)],[(1,some (.row 2 89 ((y::l).map eBucket)))],0⟩ [([]:List (List Im))=[],(y::l).map eBucket=([]:List (List Im))++(y::l).map eBucket,∀ c∈(y::l).map eBucket,c.length=2,∀ c∈(y::l).map eBucket,leaves (c.map .im)=true,(([]:List (List Im)).length+((y::l).map eBucket).length)*16≤140737488355328] (by kernel_rfl) ⟨rfl,by simp,by exact all_len _ _ _ (fun _=>rfl),by exact all_leaf _ _ (fun _=>rfl),by simpa using c1,trivial⟩ ?_
  refine AWp.conv (inv:=[(1,0)]) (vk:=[]) (e0:=[]) (t:=⟨[(2,.own 0)],[(0,some (.row 2 89 ((y::l).map eBucket)))],0⟩) (by kernel_rfl) ?_
  refine AWp.ret ?_
  exact Exists.intro _ (And.intro (fun _ _ h=>h) (And.intro (.inl rfl) (And.intro rfl (And.intro (by kernel_rfl) (by kernel_rfl)))))
def f_cmp_isNaN_int.f (a0:Int):Option (Unit):=some ()
theorem f_cmp_isNaN_int.ok (a0:Int) (r:Unit) (H:f_cmp_isNaN_int.f a0=some r):Pv.Fn Tryz.prog 99 [iV .i64 a0] [] 0 (fun x o=>x=bV (a0 != a0)∧o=[]):=by
 unfold f_cmp_isNaN_int.f at H
 refine Fn.bodyK [] Tryz.func99 rfl rfl (fun Γ hP hn => ?_)
 have hm:Tryz.prog.follows .mixedOrders=true:=by kernel_rfl
 replace hn:Γ.n=6:=hn
 refine sr hP hn hm [] [] [0] [] [] [] (by kernel_rfl) trivial ?_
 refine sr hP hn hm [] [(2,bV (a0 != a0))] [2] [] [] [] (by kernel_rfl) trivial ?_
 refine AWp.conv (inv:=[]) (vk:=[]) (e0:=[]) (t:=⟨[(2,bV (a0 != a0))],[],0⟩) (by kernel_rfl) ?_
 refine AWp.ret ?_
 obtain rfl:=Option.some.inj H
 exact rl (.inl rfl) rfl (by kernel_rfl) (by kernel_rfl)
def f_cmp_Compare_int.f (a0:Int) (a1:Int):Option (Int):=(f_cmp_isNaN_int.f a0)>>=fun t758=>(f_cmp_isNaN_int.f a1)>>=fun t762=>if(a0 != a0)=true then(if(a1 != a1)=true then(some 0) else(some (-1))) else(if(a1 != a1)=true then(some 1) else(if(decide (a0<a1))=true then(some (-1)) else(if(decide (a0>a1))=true then(some 1) else(some 0))))
theorem f_cmp_Compare_int.ok (a0:Int) (a1:Int) (r:Int) (H:f_cmp_Compare_int.f a0 a1=some r):Pv.Fn Tryz.prog 90 [iV .i64 a0,iV .i64 a1] [] 0 (fun x o=>x=iV .i64 r∧o=[]):=by
 unfold f_cmp_Compare_int.f at H
 refine Fn.bodyK [] Tryz.func90 rfl rfl (fun Γ hP hn => ?_)
 have hm:Tryz.prog.follows .mixedOrders=true:=by kernel_rfl
 replace hn:Γ.n=20:=hn
 refine sr hP hn hm [] [] [0,1] [] [] [] (by kernel_rfl) trivial ?_
 obtain⟨t758,e759,H⟩:=bind_of H
 refine sr hP hn hm [(1,.call [] [] [] [] 0 (bV (a0 != a0)) [])] [(5,bV (a0 != a0))] [0,1,5] [] [] [_,_] (by kernel_rfl) ⟨Tryz.call99,f_cmp_isNaN_int.ok a0 t758 e759,trivial⟩ ?_
 obtain⟨t762,e763,H⟩:=bind_of H
 refine sr hP hn hm [(1,.call [] [] [] [] 0 (bV (a1 != a1)) [])] [(6,bV (a1 != a1))] [0,1,5,6] [] [] [_,_] (by kernel_rfl) ⟨Tryz.call99,f_cmp_isNaN_int.ok a1 t762 e763,trivial⟩ ?_
 refine AWp.seq ?_
 refine sr hP hn hm [] [(11,bV (a0 != a0))] [0,1,6,11] [] [] [] (by kernel_rfl) trivial ?_
 refine AWp.cond (a0 != a0) (by kernel_rfl) (fun c764 => ?_) (fun c764 => ?_)
 ·replace H:=iT c764 H
  refine AWp.seq ?_
  refine sr hP hn hm [] [(12,bV (a1 != a1))] [12] [] [] [] (by kernel_rfl) trivial ?_
  refine AWp.cond (a1 != a1) (by kernel_rfl) (fun c765 => ?_) (fun c765 => ?_)
  ·replace H:=iT c765 H
   refine sr hP hn hm [] [(4,iV .i64 0)] [4] [] [] [] (by kernel_rfl) trivial ?_
   refine AWp.conv (inv:=[]) (vk:=[]) (e0:=[]) (t:=⟨[(4,iV .i64 0)],[],0⟩) (by kernel_rfl) ?_
   refine AWp.ret ?_
   obtain rfl:=Option.some.inj H
   exact rl (.inl rfl) rfl (by kernel_rfl) (by kernel_rfl)
  ·replace H:=iF c765 H
   refine AWp.skip ?_
   refine sr hP hn hm [] [(4,iV .i64 (-1))] [4] [] [] [] (by kernel_rfl) trivial ?_
   refine AWp.conv (inv:=[]) (vk:=[]) (e0:=[]) (t:=⟨[(4,iV .i64 (-1))],[],0⟩) (by kernel_rfl) ?_
   refine AWp.ret ?_
   obtain rfl:=Option.some.inj H
   exact rl (.inl rfl) rfl (by kernel_rfl) (by kernel_rfl)
 ·replace H:=iF c764 H
  refine AWp.skip ?_
  refine AWp.seq ?_
  refine sr hP hn hm [] [(13,bV (a1 != a1))] [0,1,13] [] [] [] (by kernel_rfl) trivial ?_
  refine AWp.cond (a1 != a1) (by kernel_rfl) (fun c766 => ?_) (fun c766 => ?_)
  ·replace H:=iT c766 H
   refine sr hP hn hm [] [(4,iV .i64 1)] [4] [] [] [] (by kernel_rfl) trivial ?_
   refine AWp.conv (inv:=[]) (vk:=[]) (e0:=[]) (t:=⟨[(4,iV .i64 1)],[],0⟩) (by kernel_rfl) ?_
   refine AWp.ret ?_
   obtain rfl:=Option.some.inj H
   exact rl (.inl rfl) rfl (by kernel_rfl) (by kernel_rfl)
  ·replace H:=iF c766 H
   refine AWp.skip ?_
   refine AWp.seq ?_
   refine sr hP hn hm [] [(16,bV (decide (a0<a1)))] [0,1,16] [] [] [] (by kernel_rfl) trivial ?_
   refine AWp.cond (decide (a0<a1)) (by kernel_rfl) (fun c767 => ?_) (fun c767 => ?_)
   ·replace H:=iT c767 H
    refine sr hP hn hm [] [(4,iV .i64 (-1))] [4] [] [] [] (by kernel_rfl) trivial ?_
    refine AWp.conv (inv:=[]) (vk:=[]) (e0:=[]) (t:=⟨[(4,iV .i64 (-1))],[],0⟩) (by kernel_rfl) ?_
    refine AWp.ret ?_
    obtain rfl:=Option.some.inj H
    exact rl (.inl rfl) rfl (by kernel_rfl) (by kernel_rfl)
   ·replace H:=iF c767 H
    refine AWp.skip ?_
    refine AWp.seq ?_
    refine sr hP hn hm [] [(19,bV (decide (a0>a1)))] [19] [] [] [] (by kernel_rfl) trivial ?_
    refine AWp.cond (decide (a0>a1)) (by kernel_rfl) (fun c768 => ?_) (fun c768 => ?_)
    ·replace H:=iT c768 H
     refine sr hP hn hm [] [(4,iV .i64 1)] [4] [] [] [] (by kernel_rfl) trivial ?_
     refine AWp.conv (inv:=[]) (vk:=[]) (e0:=[]) (t:=⟨[(4,iV .i64 1)],[],0⟩) (by kernel_rfl) ?_
     refine AWp.ret ?_
     obtain rfl:=Option.some.inj H
     exact rl (.inl rfl) rfl (by kernel_rfl) (by kernel_rfl)
    ·replace H:=iF c768 H
     refine AWp.skip ?_
     refine sr hP hn hm [] [(4,iV .i64 0)] [4] [] [] [] (by kernel_rfl) trivial ?_
     refine AWp.conv (inv:=[]) (vk:=[]) (e0:=[]) (t:=⟨[(4,iV .i64 0)],[],0⟩) (by kernel_rfl) ?_
     refine AWp.ret ?_
     obtain rfl:=Option.some.inj H
     exact rl (.inl rfl) rfl (by kernel_rfl) (by kernel_rfl)
def f_hist_tidy_1.f (a0:TBucket) (a1:TBucket):Option (Int):=(f_cmp_Compare_int.f a0.f0 a1.f0)>>=fun t771=>some t771
theorem f_hist_tidy_1.ok (a0:TBucket) (a1:TBucket) (r:Int) (H:f_hist_tidy_1.f a0 a1=some r):Pv.Fn Tryz.prog 89 [.agg (aBucket a0),.agg (aBucket a1)] [] 0 (fun x o=>x=iV .i64 r∧o=[]):=by
 unfold f_hist_tidy_1.f at H
 refine Fn.bodyK [] Tryz.func89 rfl rfl (fun Γ hP hn => ?_)
 have hm:Tryz.prog.follows .mixedOrders=true:=by kernel_rfl
 replace hn:Γ.n=10:=hn
 refine sr hP hn hm [(0,.k 0),(1,.k 1)] [(2,.ptr 0 0 0),(3,.ptr 1 0 0)] [2,3] [(0,some (.box 89 (aBucket a0))),(1,some (.box 89 (aBucket a1)))] [0,1] [] (by kernel_rfl) trivial ?_
 obtain⟨t771,e772,H⟩:=bind_of H
 refine sr hP hn hm [(4,.call [] [] [] [] 0 (iV .i64 t771) [])] [(4,iV .i64 t771)] [4] [] [] [_,_] (by kernel_rfl) ⟨Tryz.call90,f_cmp_Compare_int.ok a0.f0 a1.f0 t771 e772,trivial⟩ ?_
 refine AWp.conv (inv:=[]) (vk:=[]) (e0:=[]) (t:=⟨[(4,iV .i64 t771)],[],0⟩) (by kernel_rfl) ?_
 refine AWp.ret ?_
 obtain rfl:=Option.some.inj H
 exact rl (.inl rfl) rfl (by kernel_rfl) (by kernel_rfl)
def f_slices_insertionSortCmpFunc_api_Bucket_hist_tidy_1.l1 (a1:Int) (a2:Int) (x846:Int) (x886:List TBucket) (x887:Int):Option (List TBucket):=((if(decide (x887>a1))=true then((at? x886 x887)>>=fun b898=>(at? x886 (i64.wrap (x887-(1:Int))))>>=fun b901=>(f_hist_tidy_1.f b898 b901)>>=fun t904=>some (decide (t904<(0:Int)))) else(some false)):Option (Bool))>>=fun x906=>if x906=true then((at? x886 (i64.wrap (x887-(1:Int))))>>=fun b917=>(at? x886 x887)>>=fun b920=>(at? (x886.set (Int.toNat (x887)) b917) (i64.wrap (x887-(1:Int))))>>=fun b923=>f_slices_insertionSortCmpFunc_api_Bucket_hist_tidy_1.l1 a1 a2 x846 ((x886.set (Int.toNat (x887)) b917).set (Int.toNat (i64.wrap (x887-(1:Int)))) b920) (i64.wrap (x887-(1:Int)))) else(some x886)
partial_fixpoint
def f_slices_insertionSortCmpFunc_api_Bucket_hist_tidy_1.l0 (a1:Int) (a2:Int) (x845:List TBucket) (x846:Int):Option (List TBucket):=if(decide (x846<a2))=true then((f_slices_insertionSortCmpFunc_api_Bucket_hist_tidy_1.l1 a1 a2 x846 x845 x846)>>=fun x926=>f_slices_insertionSortCmpFunc_api_Bucket_hist_tidy_1.l0 a1 a2 x926 (i64.wrap (x846+(1:Int)))) else(some x845)
partial_fixpoint
def f_slices_insertionSortCmpFunc_api_Bucket_hist_tidy_1.f (a0:List TBucket) (a1:Int) (a2:Int):Option (List TBucket):=(f_slices_insertionSortCmpFunc_api_Bucket_hist_tidy_1.l0 a1 a2 a0 (i64.wrap (a1+(1:Int))))>>=fun x927=>some x927
theorem f_slices_insertionSortCmpFunc_api_Bucket_hist_tidy_1.ok (a0:List TBucket) (a1:Int) (a2:Int) (r:List TBucket) (H:f_slices_insertionSortCmpFunc_api_Bucket_hist_tidy_1.f a0 a1 a2=some r):Pv.Fn Tryz.prog 104 [.own 0,iV .i64 a1,iV .i64 a2,.im (.sc (.func (.func 89) #[] #[]))] [(0,some (.row 2 89 (a0.map eBucket)))] 1 (fun x o=>x = .tup []∧o=[(0,some (.row 2 89 (r.map eBucket)))]):=by
 unfold f_slices_insertionSortCmpFunc_api_Bucket_hist_tidy_1.f at H
 refine Fn.bodyK [0] Tryz.func104 rfl rfl (fun Γ hP hn => ?_)
 have hm:Tryz.prog.follows .mixedOrders=true:=by kernel_rfl
 replace hn:Γ.n=53:=hn
 refine sr hP hn hm [] [(8,iV .i64 (i64.wrap (a1+(1:Int))))] [0,1,2,3,8] [] [0] [] (by kernel_rfl) trivial ?_
 refine AWp.block ?_
 obtain⟨o928,e929,H⟩:=bind_of H
 refine AWp.loop (LWp.conv (inv:=[(0,0)]) (vk:=[]) (e0:=[]) (t:=⟨[(0,.own 0),(1,iV .i64 a1),(2,iV .i64 a2),(3,.im (.sc (.func (.func 89) #[] #[]))),(8,iV .i64 (i64.wrap (a1+(1:Int))))],[(0,some (.row 2 89 (a0.map eBucket)))],1⟩) (by kernel_rfl) ?_)
 refine LWp.mono (Q:=fun e s=>(match (generalizing:=false) o928 with | x927=>e = .exit 0∧s=⟨[],[(0,some (.row 2 89 (x927.map eBucket)))],1⟩)) (LWp.cv (withBody (fun body hbody => ?_))) ?_
 ·refine f_slices_insertionSortCmpFunc_api_Bucket_hist_tidy_1.l0.partial_correctness a1 a2 (motive:=fun x845 x846 o928=>LWp Γ body (fun e s=>∃ t,Cv Γ s t∧(match (generalizing:=false) o928 with | x927=>e = .exit 0∧t=⟨[],[(0,some (.row 2 89 (x927.map eBucket)))],1⟩)) ⟨[(0,.own 0),(1,iV .i64 a1),(2,iV .i64 a2),(3,.im (.sc (.func (.func 89) #[] #[]))),(8,iV .i64 x846)],[(0,some (.row 2 89 (x845.map eBucket)))],1⟩) ?_ _ _ _ e929
  clear H e929 o928;intro self ih x845 x846 o928 H
  subst hbody
  refine LWp.round ?_
  refine AWp.seq ?_
  refine sr hP hn hm [] [(14,bV (decide (x846<a2)))] [0,1,2,3,8,14] [] [0] [] (by kernel_rfl) trivial ?_
  refine AWp.cond (decide (x846<a2)) (by kernel_rfl) (fun c847 => ?_) (fun c847 => ?_)
  ·replace H:=iT c847 H
   refine AWp.skip ?_
   refine AWp.seq ?_
   refine AWp.block ?_
   refine sr hP hn hm [] [(9,iV .i64 x846)] [0,1,2,3,8,9] [] [0] [] (by kernel_rfl) trivial ?_
   refine AWp.block ?_
   obtain⟨o930,e931,H⟩:=bind_of H
   refine AWp.loop (LWp.conv (inv:=[(0,0)]) (vk:=[]) (e0:=[]) (t:=⟨[(0,.own 0),(1,iV .i64 a1),(2,iV .i64 a2),(3,.im (.sc (.func (.func 89) #[] #[]))),(8,iV .i64 x846),(9,iV .i64 x846)],[(0,some (.row 2 89 (x845.map eBucket)))],1⟩) (by kernel_rfl) ?_)
   refine LWp.mono (Q:=fun e s=>(match (generalizing:=false) o930 with | x926=>e = .exit 2∧s=⟨[(0,.own 0),(1,iV .i64 a1),(2,iV .i64 a2),(3,.im (.sc (.func (.func 89) #[] #[]))),(8,iV .i64 x846)],[(0,some (.row 2 89 (x926.map eBucket)))],1⟩)) (LWp.cv (withBody (fun body hbody => ?_))) ?_
   ·refine f_slices_insertionSortCmpFunc_api_Bucket_hist_tidy_1.l1.partial_correctness a1 a2 x846 (motive:=fun x886 x887 o930=>LWp Γ body (fun e s=>∃ t,Cv Γ s t∧(match (generalizing:=false) o930 with | x926=>e = .exit 2∧t=⟨[(0,.own 0),(1,iV .i64 a1),(2,iV .i64 a2),(3,.im (.sc (.func (.func 89) #[] #[]))),(8,iV .i64 x846)],[(0,some (.row 2 89 (x926.map eBucket)))],1⟩)) ⟨[(0,.own 0),(1,iV .i64 a1),(2,iV .i64 a2),(3,.im (.sc (.func (.func 89) #[] #[]))),(8,iV .i64 x846),(9,iV .i64 x887)],[(0,some (.row 2 89 (x886.map eBucket)))],1⟩) ?_ _ _ _ e931
    clear H e931 o930;intro self ih x886 x887 o930 H
    subst hbody
    refine LWp.round ?_
    refine AWp.seq ?_
    refine AWp.seq ?_
    obtain⟨o932,e933,H⟩:=bind_of H
    refine AWp.mono (Q:=fun e s=>(match (generalizing:=false) o932 with | x906=>e = .normal∧s=⟨[(0,.own 0),(1,iV .i64 a1),(2,iV .i64 a2),(3,.im (.sc (.func (.func 89) #[] #[]))),(8,iV .i64 x846),(9,iV .i64 x887),(34,bV x906)],[(0,some (.row 2 89 (x886.map eBucket)))],1⟩)) (AWp.cv ?_) ?_
    ·replace H:=e933;clear e933
     rcases Bool.eq_false_or_eq_true (decide (x887>a1)) with c897 | c897
     ·replace H:=iT c897 H
      obtain⟨b898,p899,q900,H⟩:=at_of H
      obtain⟨b901,p902,q903,H⟩:=at_of H
      obtain⟨t904,e905,H⟩:=bind_of H
      refine rg hP hn hm [(3,.b true),(8,.c (eBucket b898)),(13,.c (eBucket b901)),(14,.call [] [] [] [] 0 (iV .i64 t904) [])] [(22,.im (.sc (.func (.func 89) #[] #[]))),(23,.own 0),(24,iV .i64 x887),(25,.ptr 0 (Int.toNat (x887)) 0),(26,.agg (aBucket b898)),(27,.own 0),(28,iV .i64 x887),(29,iV .i64 (i64.wrap (x887-(1:Int)))),(30,.ptr 0 (Int.toNat (i64.wrap (x887-(1:Int)))) 0),(31,.agg (aBucket b901)),(32,iV .i64 t904),(33,bV (decide (t904<(0:Int)))),(34,bV (decide (t904<(0:Int))))] [0,1,2,3,8,9,22,23,24,25,26,27,28,29,30,31,32,33,34] [] [0] [_,_,_,_,_,_,_,_,_] (by kernel_rfl) ⟨c897,p899,el_lt eBucket p899 q900,el_map eBucket q900,p902,el_lt eBucket p902 q903,el_map eBucket q903,Tryz.call89,f_hist_tidy_1.ok b898 b901 t904 e905,trivial⟩ ?_
      obtain rfl:=Option.some.inj H
      exact lf [(0,0)] [] [] (by kernel_rfl) ⟨rfl,rfl⟩
     ·replace H:=iF c897 H
      refine rg hP hn hm [(3,.b false)] [(34,bV false)] [0,1,2,3,8,9,34] [] [0] [_] (by kernel_rfl) ⟨c897,trivial⟩ ?_
      obtain rfl:=Option.some.inj H
      exact lf [(0,0)] [] [] (by kernel_rfl) ⟨rfl,rfl⟩
    ·obtain⟨x906,rfl⟩:∃ z,z=o932:=⟨_,rfl⟩
     rintro e s ⟨rfl,rfl⟩
     refine AWp.cond x906 (by kernel_rfl) (fun c907 => ?_) (fun c907 => ?_)
     ·replace H:=iT c907 H
      refine AWp.skip ?_
      refine AWp.seq ?_
      refine AWp.block ?_
      obtain⟨b917,p918,q919,H⟩:=at_of H
      obtain⟨b920,p921,q922,H⟩:=at_of H
      obtain⟨b923,p924,q925,H⟩:=at_of H
      refine rg hP hn hm [(9,.c (eBucket b917)),(13,.c (eBucket b920)),(15,.put (eBucket b920) ((x886.set (Int.toNat (x887)) b917).map eBucket)),(17,.put (eBucket b923) (((x886.set (Int.toNat (x887)) b917).set (Int.toNat (i64.wrap (x887-(1:Int)))) b920).map eBucket))] [] [0,1,2,3,8,9] [(0,some (.row 2 89 (((x886.set (Int.toNat (x887)) b917).set (Int.toNat (i64.wrap (x887-(1:Int)))) b920).map eBucket)))] [0] [_,_,_,_,_,_,_,_,_,(x886.set (Int.toNat (x887)) b917).map eBucket=(x886.map eBucket).set (Int.toNat (x887)) (splice (eBucket b920) 0 [iI .i64 b917.f0,iI .u64 b917.f1]),_,_,_,((x886.set (Int.toNat (x887)) b917).set (Int.toNat (i64.wrap (x887-(1:Int)))) b920).map eBucket=((x886.set (Int.toNat (x887)) b917).map eBucket).set (Int.toNat (i64.wrap (x887-(1:Int)))) (splice (eBucket b923) 0 [iI .i64 b920.f0,iI .u64 b920.f1])] (by kernel_rfl) ⟨p918,el_lt eBucket p918 q919,el_map eBucket q919,p921,el_lt eBucket p921 q922,el_map eBucket q922,p921,el_lt eBucket p921 q922,el_map eBucket q922,by exact set1 _ _ _ _,p924,el_lt eBucket p924 q925,el_map eBucket q925,by exact set1 _ _ _ _,trivial⟩ ?_
      refine rg hP hn hm [] [(9,iV .i64 (i64.wrap (x887-(1:Int))))] [0,1,2,3,8,9] [] [0] [] (by kernel_rfl) trivial ?_
      exact LWp.conv [(0,0)] [] [] (by kernel_rfl) (ih _ _ _ H)
     ·replace H:=iF c907 H
      refine AWp.exit ?_
      obtain rfl:=Option.some.inj H
      exact lf [(0,0)] [] [] (by kernel_rfl) ⟨rfl,rfl⟩
   ·obtain⟨x926,rfl⟩:∃ z,z=o930:=⟨_,rfl⟩
    rintro e s ⟨rfl,rfl⟩
    refine rg hP hn hm [] [(8,iV .i64 (i64.wrap (x846+(1:Int))))] [0,1,2,3,8] [] [0] [] (by kernel_rfl) trivial ?_
    exact LWp.conv [(0,0)] [] [] (by kernel_rfl) (ih _ _ _ H)
  ·replace H:=iF c847 H
   refine AWp.exit ?_
   obtain rfl:=Option.some.inj H
   exact lf [(0,0)] [] [] (by kernel_rfl) ⟨rfl,rfl⟩
 ·obtain⟨x927,rfl⟩:∃ z,z=o928:=⟨_,rfl⟩
  rintro e s ⟨rfl,rfl⟩
  obtain rfl:=Option.some.inj H
  exact Exists.intro ⟨[],[(0,some (.row 2 89 (x927.map eBucket)))],1⟩ (And.intro (fun _ _ h=>h.conv (inv:=[(0,0)]) (vk:=[]) (e0:=[]) (t:=⟨[],[(0,some (.row 2 89 (x927.map eBucket)))],1⟩) (by kernel_rfl)) (And.intro (.inr rfl) (And.intro rfl (And.intro (by kernel_rfl) (by kernel_rfl)))))
def f_slices_swapRangeCmpFunc_api_Bucket_hist_tidy_1.l0 (a1:Int) (a2:Int) (a3:Int) (x1195:List TBucket) (x1196:Int):Option (List TBucket):=if(decide (x1196<a3))=true then((at? x1195 (i64.wrap (a2+x1196)))>>=fun b1207=>(at? x1195 (i64.wrap (a1+x1196)))>>=fun b1210=>(at? (x1195.set (Int.toNat (i64.wrap (a1+x1196))) b1207) (i64.wrap (a2+x1196)))>>=fun b1213=>f_slices_swapRangeCmpFunc_api_Bucket_hist_tidy_1.l0 a1 a2 a3 ((x1195.set (Int.toNat (i64.wrap (a1+x1196))) b1207).set (Int.toNat (i64.wrap (a2+x1196))) b1210) (i64.wrap (x1196+(1:Int)))) else(some x1195)
partial_fixpoint
def f_slices_swapRangeCmpFunc_api_Bucket_hist_tidy_1.f (a0:List TBucket) (a1:Int) (a2:Int) (a3:Int):Option (List TBucket):=(f_slices_swapRangeCmpFunc_api_Bucket_hist_tidy_1.l0 a1 a2 a3 a0 0)>>=fun x1216=>some x1216
theorem f_slices_swapRangeCmpFunc_api_Bucket_hist_tidy_1.ok (a0:List TBucket) (a1:Int) (a2:Int) (a3:Int) (r:List TBucket) (H:f_slices_swapRangeCmpFunc_api_Bucket_hist_tidy_1.f a0 a1 a2 a3=some r):Pv.Fn Tryz.prog 110 [.own 0,iV .i64 a1,iV .i64 a2,iV .i64 a3,.im (.sc (.func (.func 89) #[] #[]))] [(0,some (.row 2 89 (a0.map eBucket)))] 1 (fun x o=>x = .tup []∧o=[(0,some (.row 2 89 (r.map eBucket)))]):=by
 unfold f_slices_swapRangeCmpFunc_api_Bucket_hist_tidy_1.f at H
 refine Fn.bodyK [0] Tryz.func110 rfl rfl (fun Γ hP hn => ?_)
 have hm:Tryz.prog.follows .mixedOrders=true:=by kernel_rfl
 replace hn:Γ.n=38:=hn
 refine sr hP hn hm [] [(10,iV .i64 0)] [0,1,2,3,10] [] [0] [] (by kernel_rfl) trivial ?_
 refine AWp.block ?_
 obtain⟨o1217,e1218,H⟩:=bind_of H
 refine AWp.loop (LWp.conv (inv:=[(0,0)]) (vk:=[]) (e0:=[]) (t:=⟨[(0,.own 0),(1,iV .i64 a1),(2,iV .i64 a2),(3,iV .i64 a3),(10,iV .i64 0)],[(0,some (.row 2 89 (a0.map eBucket)))],1⟩) (by kernel_rfl) ?_)
 refine LWp.mono (Q:=fun e s=>(match (generalizing:=false) o1217 with | x1216=>e = .exit 0∧s=⟨[],[(0,some (.row 2 89 (x1216.map eBucket)))],1⟩)) (LWp.cv (withBody (fun body hbody => ?_))) ?_
 ·refine f_slices_swapRangeCmpFunc_api_Bucket_hist_tidy_1.l0.partial_correctness a1 a2 a3 (motive:=fun x1195 x1196 o1217=>LWp Γ body (fun e s=>∃ t,Cv Γ s t∧(match (generalizing:=false) o1217 with | x1216=>e = .exit 0∧t=⟨[],[(0,some (.row 2 89 (x1216.map eBucket)))],1⟩)) ⟨[(0,.own 0),(1,iV .i64 a1),(2,iV .i64 a2),(3,iV .i64 a3),(10,iV .i64 x1196)],[(0,some (.row 2 89 (x1195.map eBucket)))],1⟩) ?_ _ _ _ e1218
  clear H e1218 o1217;intro self ih x1195 x1196 o1217 H
  subst hbody
  refine LWp.round ?_
  refine AWp.seq ?_
  refine sr hP hn hm [] [(13,bV (decide (x1196<a3)))] [0,1,2,3,10,13] [] [0] [] (by kernel_rfl) trivial ?_
  refine AWp.cond (decide (x1196<a3)) (by kernel_rfl) (fun c1197 => ?_) (fun c1197 => ?_)
  ·replace H:=iT c1197 H
   refine AWp.skip ?_
   refine AWp.seq ?_
   refine AWp.block ?_
   obtain⟨b1207,p1208,q1209,H⟩:=at_of H
   obtain⟨b1210,p1211,q1212,H⟩:=at_of H
   obtain⟨b1213,p1214,q1215,H⟩:=at_of H
   refine rg hP hn hm [(13,.c (eBucket b1207)),(19,.c (eBucket b1210)),(21,.put (eBucket b1210) ((x1195.set (Int.toNat (i64.wrap (a1+x1196))) b1207).map eBucket)),(23,.put (eBucket b1213) (((x1195.set (Int.toNat (i64.wrap (a1+x1196))) b1207).set (Int.toNat (i64.wrap (a2+x1196))) b1210).map eBucket))] [] [0,1,2,3,10] [(0,some (.row 2 89 (((x1195.set (Int.toNat (i64.wrap (a1+x1196))) b1207).set (Int.toNat (i64.wrap (a2+x1196))) b1210).map eBucket)))] [0] [_,_,_,_,_,_,_,_,_,(x1195.set (Int.toNat (i64.wrap (a1+x1196))) b1207).map eBucket=(x1195.map eBucket).set (Int.toNat (i64.wrap (a1+x1196))) (splice (eBucket b1210) 0 [iI .i64 b1207.f0,iI .u64 b1207.f1]),_,_,_,((x1195.set (Int.toNat (i64.wrap (a1+x1196))) b1207).set (Int.toNat (i64.wrap (a2+x1196))) b1210).map eBucket=((x1195.set (Int.toNat (i64.wrap (a1+x1196))) b1207).map eBucket).set (Int.toNat (i64.wrap (a2+x1196))) (splice (eBucket b1213) 0 [iI .i64 b1210.f0,iI .u64 b1210.f1])] (by kernel_rfl) ⟨p1208,el_lt eBucket p1208 q1209,el_map eBucket q1209,p1211,el_lt eBucket p1211 q1212,el_map eBucket q1212,p1211,el_lt eBucket p1211 q1212,el_map eBucket q1212,by exact set1 _ _ _ _,p1214,el_lt eBucket p1214 q1215,el_map eBucket q1215,by exact set1 _ _ _ _,trivial⟩ ?_
   refine rg hP hn hm [] [(10,iV .i64 (i64.wrap (x1196+(1:Int))))] [0,1,2,3,10] [] [0] [] (by kernel_rfl) trivial ?_
   exact LWp.conv [(0,0)] [] [] (by kernel_rfl) (ih _ _ _ H)
  ·replace H:=iF c1197 H
   refine AWp.exit ?_
   obtain rfl:=Option.some.inj H
   exact lf [(0,0)] [] [] (by kernel_rfl) ⟨rfl,rfl⟩
 ·obtain⟨x1216,rfl⟩:∃ z,z=o1217:=⟨_,rfl⟩
  rintro e s ⟨rfl,rfl⟩
  obtain rfl:=Option.some.inj H
  exact Exists.intro ⟨[],[(0,some (.row 2 89 (x1216.map eBucket)))],1⟩ (And.intro (fun _ _ h=>h.conv (inv:=[(0,0)]) (vk:=[]) (e0:=[]) (t:=⟨[],[(0,some (.row 2 89 (x1216.map eBucket)))],1⟩) (by kernel_rfl)) (And.intro (.inr rfl) (And.intro rfl (And.intro (by kernel_rfl) (by kernel_rfl)))))
def f_slices_rotateCmpFunc_api_Bucket_hist_tidy_1.l0 (a2:Int) (x1230:List TBucket) (x1231:Int) (x1232:Int):Option ((List TBucket)×Int):=if(x1231 != x1232)=true then(((if(decide (x1231>x1232))=true then((f_slices_swapRangeCmpFunc_api_Bucket_hist_tidy_1.f x1230 (i64.wrap (a2-x1231)) a2 x1232)>>=fun t1237=>some (t1237,i64.wrap (x1231-x1232),x1232)) else((f_slices_swapRangeCmpFunc_api_Bucket_hist_tidy_1.f x1230 (i64.wrap (a2-x1231)) (i64.wrap ((i64.wrap (a2+x1232))-x1231)) x1231)>>=fun t1241=>some (t1241,x1231,i64.wrap (x1232-x1231)))):Option ((List TBucket)×Int×Int))>>=fun oo=>match oo with | (x1243,x1244,x1245)=>(f_slices_rotateCmpFunc_api_Bucket_hist_tidy_1.l0 a2 x1243 x1244 x1245)) else(some (x1230,x1231))
partial_fixpoint
def f_slices_rotateCmpFunc_api_Bucket_hist_tidy_1.f (a0:List TBucket) (a1:Int) (a2:Int) (a3:Int):Option (List TBucket):=(f_slices_rotateCmpFunc_api_Bucket_hist_tidy_1.l0 a2 a0 (i64.wrap (a2-a1)) (i64.wrap (a3-a2)))>>=fun oo=>match oo with | (x1246,x1247)=>((f_slices_swapRangeCmpFunc_api_Bucket_hist_tidy_1.f x1246 (i64.wrap (a2-x1247)) a2 x1247)>>=fun t1250=>some t1250)
theorem f_slices_rotateCmpFunc_api_Bucket_hist_tidy_1.ok (a0:List TBucket) (a1:Int) (a2:Int) (a3:Int) (r:List TBucket) (H:f_slices_rotateCmpFunc_api_Bucket_hist_tidy_1.f a0 a1 a2 a3=some r):Pv.Fn Tryz.prog 109 [.own 0,iV .i64 a1,iV .i64 a2,iV .i64 a3,.im (.sc (.func (.func 89) #[] #[]))] [(0,some (.row 2 89 (a0.map eBucket)))] 1 (fun x o=>x = .tup []∧o=[(0,some (.row 2 89 (r.map eBucket)))]):=by
 unfold f_slices_rotateCmpFunc_api_Bucket_hist_tidy_1.f at H
 refine Fn.bodyK [0] Tryz.func109 rfl rfl (fun Γ hP hn => ?_)
 have hm:Tryz.prog.follows .mixedOrders=true:=by kernel_rfl
 replace hn:Γ.n=58:=hn
 refine sr hP hn hm [] [(10,iV .i64 (i64.wrap (a2-a1)))] [0,2,3,4,10] [] [0] [] (by kernel_rfl) trivial ?_
 refine sr hP hn hm [] [(11,iV .i64 (i64.wrap (a3-a2)))] [0,2,4,10,11] [] [0] [] (by kernel_rfl) trivial ?_
 refine AWp.seq ?_
 refine AWp.block ?_
 obtain⟨o1252,e1253,H⟩:=bind_of H
 refine AWp.loop (LWp.conv (inv:=[(0,0)]) (vk:=[]) (e0:=[]) (t:=⟨[(0,.own 0),(2,iV .i64 a2),(4,.im (.sc (.func (.func 89) #[] #[]))),(10,iV .i64 (i64.wrap (a2-a1))),(11,iV .i64 (i64.wrap (a3-a2)))],[(0,some (.row 2 89 (a0.map eBucket)))],1⟩) (by kernel_rfl) ?_)
 refine LWp.mono (Q:=fun e s=>(match (generalizing:=false) o1252 with | (x1246,x1247)=>e = .exit 0∧s=⟨[(0,.own 0),(2,iV .i64 a2),(4,.im (.sc (.func (.func 89) #[] #[]))),(10,iV .i64 x1247)],[(0,some (.row 2 89 (x1246.map eBucket)))],1⟩)) (LWp.cv (withBody (fun body hbody => ?_))) ?_
 ·refine f_slices_rotateCmpFunc_api_Bucket_hist_tidy_1.l0.partial_correctness a2 (motive:=fun x1230 x1231 x1232 o1252=>LWp Γ body (fun e s=>∃ t,Cv Γ s t∧(match (generalizing:=false) o1252 with | (x1246,x1247)=>e = .exit 0∧t=⟨[(0,.own 0),(2,iV .i64 a2),(4,.im (.sc (.func (.func 89) #[] #[]))),(10,iV .i64 x1247)],[(0,some (.row 2 89 (x1246.map eBucket)))],1⟩)) ⟨[(0,.own 0),(2,iV .i64 a2),(4,.im (.sc (.func (.func 89) #[] #[]))),(10,iV .i64 x1231),(11,iV .i64 x1232)],[(0,some (.row 2 89 (x1230.map eBucket)))],1⟩) ?_ _ _ _ _ e1253
  clear H e1253 o1252;intro self ih x1230 x1231 x1232 o1252 H
  subst hbody
  refine LWp.round ?_
  refine AWp.seq ?_
  refine sr hP hn hm [] [(20,bV (x1231 != x1232))] [0,2,4,10,11,20] [] [0] [] (by kernel_rfl) trivial ?_
  refine AWp.cond (x1231 != x1232) (by kernel_rfl) (fun c1233 => ?_) (fun c1233 => ?_)
  ·replace H:=iT c1233 H
   refine AWp.skip ?_
   refine AWp.block ?_
   refine sr hP hn hm [] [(23,bV (decide (x1231>x1232)))] [0,2,4,10,11,23] [] [0] [] (by kernel_rfl) trivial ?_
   obtain⟨o1254,e1255,H⟩:=bind_of H
   refine AWp.mono (Q:=fun e s=>(match (generalizing:=false) o1254 with | (x1243,x1244,x1245)=>e = .normal∧s=⟨[(0,.own 0),(2,iV .i64 a2),(4,.im (.sc (.func (.func 89) #[] #[]))),(10,iV .i64 x1244),(11,iV .i64 x1245)],[(0,some (.row 2 89 (x1243.map eBucket)))],1⟩)) (AWp.cv ?_) ?_
   ·replace H:=e1255;clear e1255
    refine AWp.cond (decide (x1231>x1232)) (by kernel_rfl) (fun c1234 => ?_) (fun c1234 => ?_)
    ·replace H:=iT c1234 H
     obtain⟨t1237,e1238,H⟩:=bind_of H
     refine sr hP hn hm [(7,.call [(0,0)] [(0,0)] [] [] 1 (.tup []) [(0,some (.row 2 89 (t1237.map eBucket)))])] [] [0,2,4,10,11] [(0,some (.row 2 89 (t1237.map eBucket)))] [0] [_,_] (by kernel_rfl) ⟨Tryz.call110,f_slices_swapRangeCmpFunc_api_Bucket_hist_tidy_1.ok x1230 (i64.wrap (a2-x1231)) a2 x1232 t1237 e1238,trivial⟩ ?_
     refine rg hP hn hm [] [(10,iV .i64 (i64.wrap (x1231-x1232)))] [0,2,4,10,11] [] [0] [] (by kernel_rfl) trivial ?_
     obtain rfl:=Option.some.inj H
     exact lf [(0,0)] [] [] (by kernel_rfl) ⟨rfl,rfl⟩
    ·replace H:=iF c1234 H
     obtain⟨t1241,e1242,H⟩:=bind_of H
     refine sr hP hn hm [(11,.call [(0,0)] [(0,0)] [] [] 1 (.tup []) [(0,some (.row 2 89 (t1241.map eBucket)))])] [] [0,2,4,10,11] [(0,some (.row 2 89 (t1241.map eBucket)))] [0] [_,_] (by kernel_rfl) ⟨Tryz.call110,f_slices_swapRangeCmpFunc_api_Bucket_hist_tidy_1.ok x1230 (i64.wrap (a2-x1231)) (i64.wrap ((i64.wrap (a2+x1232))-x1231)) x1231 t1241 e1242,trivial⟩ ?_
     refine rg hP hn hm [] [(11,iV .i64 (i64.wrap (x1232-x1231)))] [0,2,4,10,11] [] [0] [] (by kernel_rfl) trivial ?_
     obtain rfl:=Option.some.inj H
     exact lf [(0,0)] [] [] (by kernel_rfl) ⟨rfl,rfl⟩
   ·obtain⟨x1243,x1244,x1245⟩:=o1254
    rintro e s ⟨rfl,rfl⟩
    exact LWp.conv [(0,0)] [] [] (by kernel_rfl) (ih _ _ _ _ H)
  ·replace H:=iF c1233 H
   refine AWp.exit ?_
   obtain rfl:=Option.some.inj H
   exact lf [(0,0)] [] [] (by kernel_rfl) ⟨rfl,rfl⟩
 ·obtain⟨x1246,x1247⟩:=o1252
  rintro e s ⟨rfl,rfl⟩
  obtain⟨t1250,e1251,H⟩:=bind_of H
  refine rg hP hn hm [(7,.call [(0,0)] [(0,0)] [] [] 1 (.tup []) [(0,some (.row 2 89 (t1250.map eBucket)))])] [] [] [(0,some (.row 2 89 (t1250.map eBucket)))] [0] [_,_] (by kernel_rfl) ⟨Tryz.call110,f_slices_swapRangeCmpFunc_api_Bucket_hist_tidy_1.ok x1246 (i64.wrap (a2-x1247)) a2 x1247 t1250 e1251,trivial⟩ ?_
  obtain rfl:=Option.some.inj H
  exact Exists.intro ⟨[],[(0,some (.row 2 89 (t1250.map eBucket)))],1⟩ (And.intro (fun _ _ h=>h.conv (inv:=[(0,0)]) (vk:=[]) (e0:=[]) (t:=⟨[],[(0,some (.row 2 89 (t1250.map eBucket)))],1⟩) (by kernel_rfl)) (And.intro (.inr rfl) (And.intro rfl (And.intro (by kernel_rfl) (by kernel_rfl)))))
def f_slices_symMergeCmpFunc_api_Bucket_hist_tidy_1.l0 (a0:List TBucket) (a1:Int) (x975:Int) (x976:Int):Option (Int):=if(decide (x975<x976))=true then((at? a0 (i64.wrap (Int.fdiv (u64.wrap (i64.wrap (x975+x976))) 2)))>>=fun b986=>(at? a0 a1)>>=fun b989=>(f_hist_tidy_1.f b986 b989)>>=fun t992=>((if(decide (t992<(0:Int)))=true then(some (i64.wrap ((i64.wrap (Int.fdiv (u64.wrap (i64.wrap (x975+x976))) 2))+(1:Int)),x976)) else(some (x975,i64.wrap (Int.fdiv (u64.wrap (i64.wrap (x975+x976))) 2)))):Option (Int×Int))>>=fun oo=>match oo with | (x995,x996)=>(f_slices_symMergeCmpFunc_api_Bucket_hist_tidy_1.l0 a0 a1 x995 x996)) else(some x975)
partial_fixpoint
def f_slices_symMergeCmpFunc_api_Bucket_hist_tidy_1.l1 (x997:Int) (x1017:List TBucket) (x1018:Int):Option (List TBucket):=if(decide (x1018<(i64.wrap (x997-(1:Int)))))=true then((at? x1017 (i64.wrap (x1018+(1:Int))))>>=fun b1029=>(at? x1017 x1018)>>=fun b1032=>(at? (x1017.set (Int.toNat (x1018)) b1029) (i64.wrap (x1018+(1:Int))))>>=fun b1035=>f_slices_symMergeCmpFunc_api_Bucket_hist_tidy_1.l1 x997 ((x1017.set (Int.toNat (x1018)) b1029).set (Int.toNat (i64.wrap (x1018+(1:Int)))) b1032) (i64.wrap (x1018+(1:Int)))) else(some x1017)
partial_fixpoint
def f_slices_symMergeCmpFunc_api_Bucket_hist_tidy_1.l2 (a0:List TBucket) (a2:Int) (x1060:Int) (x1061:Int):Option (Int):=if(decide (x1060<x1061))=true then((at? a0 a2)>>=fun b1071=>(at? a0 (i64.wrap (Int.fdiv (u64.wrap (i64.wrap (x1060+x1061))) 2)))>>=fun b1074=>(f_hist_tidy_1.f b1071 b1074)>>=fun t1077=>((if(!(decide (t1077<(0:Int))))=true then(some (i64.wrap ((i64.wrap (Int.fdiv (u64.wrap (i64.wrap (x1060+x1061))) 2))+(1:Int)),x1061)) else(some (x1060,i64.wrap (Int.fdiv (u64.wrap (i64.wrap (x1060+x1061))) 2)))):Option (Int×Int))>>=fun oo=>match oo with | (x1080,x1081)=>(f_slices_symMergeCmpFunc_api_Bucket_hist_tidy_1.l2 a0 a2 x1080 x1081)) else(some x1060)
partial_fixpoint
def f_slices_symMergeCmpFunc_api_Bucket_hist_tidy_1.l3 (x1082:Int) (x1102:List TBucket) (x1103:Int):Option (List TBucket):=if(decide (x1103>x1082))=true then((at? x1102 (i64.wrap (x1103-(1:Int))))>>=fun b1114=>(at? x1102 x1103)>>=fun b1117=>(at? (x1102.set (Int.toNat (x1103)) b1114) (i64.wrap (x1103-(1:Int))))>>=fun b1120=>f_slices_symMergeCmpFunc_api_Bucket_hist_tidy_1.l3 x1082 ((x1102.set (Int.toNat (x1103)) b1114).set (Int.toNat (i64.wrap (x1103-(1:Int)))) b1117) (i64.wrap (x1103-(1:Int)))) else(some x1102)
partial_fixpoint
def f_slices_symMergeCmpFunc_api_Bucket_hist_tidy_1.l4 (a0:List TBucket) (a1:Int) (a2:Int) (a3:Int) (x1147:Int) (x1148:Int):Option (Int):=if(decide (x1147<x1148))=true then((at? a0 (i64.wrap ((i64.wrap ((i64.wrap ((i64.wrap (Int.fdiv (u64.wrap (i64.wrap (a1+a3))) 2))+a2))-(1:Int)))-(i64.wrap (Int.fdiv (u64.wrap (i64.wrap (x1147+x1148))) 2)))))>>=fun b1158=>(at? a0 (i64.wrap (Int.fdiv (u64.wrap (i64.wrap (x1147+x1148))) 2)))>>=fun b1161=>(f_hist_tidy_1.f b1158 b1161)>>=fun t1164=>((if(!(decide (t1164<(0:Int))))=true then(some (i64.wrap ((i64.wrap (Int.fdiv (u64.wrap (i64.wrap (x1147+x1148))) 2))+(1:Int)),x1148)) else(some (x1147,i64.wrap (Int.fdiv (u64.wrap (i64.wrap (x1147+x1148))) 2)))):Option (Int×Int))>>=fun oo=>match oo with | (x1167,x1168)=>(f_slices_symMergeCmpFunc_api_Bucket_hist_tidy_1.l4 a0 a1 a2 a3 x1167 x1168)) else(some x1147)
partial_fixpoint
def f_slices_symMergeCmpFunc_api_Bucket_hist_tidy_1.f (a0:List TBucket) (a1:Int) (a2:Int) (a3:Int):Option (List TBucket):=if((i64.wrap (a2-a1))==(1:Int))=true then((f_slices_symMergeCmpFunc_api_Bucket_hist_tidy_1.l0 a0 a1 a2 a3)>>=fun x997=>(f_slices_symMergeCmpFunc_api_Bucket_hist_tidy_1.l1 x997 a0 a1)>>=fun x1038=>some x1038) else(if((i64.wrap (a3-a2))==(1:Int))=true then((f_slices_symMergeCmpFunc_api_Bucket_hist_tidy_1.l2 a0 a2 a1 a2)>>=fun x1082=>(f_slices_symMergeCmpFunc_api_Bucket_hist_tidy_1.l3 x1082 a0 a2)>>=fun x1123=>some x1123) else(((if(decide (a2>(i64.wrap (Int.fdiv (u64.wrap (i64.wrap (a1+a3))) 2))))=true then(some (i64.wrap ((i64.wrap ((i64.wrap (Int.fdiv (u64.wrap (i64.wrap (a1+a3))) 2))+a2))-a3),i64.wrap (Int.fdiv (u64.wrap (i64.wrap (a1+a3))) 2))) else(some (a1,a2))):Option (Int×Int))>>=fun oo=>match oo with | (x1125,x1126)=>((f_slices_symMergeCmpFunc_api_Bucket_hist_tidy_1.l4 a0 a1 a2 a3 x1125 x1126)>>=fun x1169=>((if(decide (x1169<a2))=true then(some (decide (a2<(i64.wrap ((i64.wrap ((i64.wrap (Int.fdiv (u64.wrap (i64.wrap (a1+a3))) 2))+a2))-x1169))))) else(some false)):Option (Bool))>>=fun x1172=>((if x1172=true then((f_slices_rotateCmpFunc_api_Bucket_hist_tidy_1.f a0 x1169 a2 (i64.wrap ((i64.wrap ((i64.wrap (Int.fdiv (u64.wrap (i64.wrap (a1+a3))) 2))+a2))-x1169)))>>=fun t1258=>some t1258) else(some a0)):Option (List TBucket))>>=fun x1260=>((if(decide (a1<x1169))=true then(some (decide (x1169<(i64.wrap (Int.fdiv (u64.wrap (i64.wrap (a1+a3))) 2))))) else(some false)):Option (Bool))>>=fun x1263=>((if x1263=true then((f_slices_symMergeCmpFunc_api_Bucket_hist_tidy_1.f x1260 a1 x1169 (i64.wrap (Int.fdiv (u64.wrap (i64.wrap (a1+a3))) 2)))>>=fun t1267=>some t1267) else(some x1260)):Option (List TBucket))>>=fun x1269=>((if(decide ((i64.wrap (Int.fdiv (u64.wrap (i64.wrap (a1+a3))) 2))<(i64.wrap ((i64.wrap ((i64.wrap (Int.fdiv (u64.wrap (i64.wrap (a1+a3))) 2))+a2))-x1169))))=true then(some (decide ((i64.wrap ((i64.wrap ((i64.wrap (Int.fdiv (u64.wrap (i64.wrap (a1+a3))) 2))+a2))-x1169))<a3))) else(some false)):Option (Bool))>>=fun x1272=>((if x1272=true then((f_slices_symMergeCmpFunc_api_Bucket_hist_tidy_1.f x1269 (i64.wrap (Int.fdiv (u64.wrap (i64.wrap (a1+a3))) 2)) (i64.wrap ((i64.wrap ((i64.wrap (Int.fdiv (u64.wrap (i64.wrap (a1+a3))) 2))+a2))-x1169)) a3)>>=fun t1276=>some t1276) else(some x1269)):Option (List TBucket))>>=fun x1278=>some x1278)))
partial_fixpoint
theorem f_slices_symMergeCmpFunc_api_Bucket_hist_tidy_1.ok (a0:List TBucket) (a1:Int) (a2:Int) (a3:Int) (r:List TBucket) (H:f_slices_symMergeCmpFunc_api_Bucket_hist_tidy_1.f a0 a1 a2 a3=some r):Pv.Fn Tryz.prog 105 [.own 0,iV .i64 a1,iV .i64 a2,iV .i64 a3,.im (.sc (.func (.func 89) #[] #[]))] [(0,some (.row 2 89 (a0.map eBucket)))] 1 (fun x o=>x = .tup []∧o=[(0,some (.row 2 89 (r.map eBucket)))]):=by
 refine f_slices_symMergeCmpFunc_api_Bucket_hist_tidy_1.f.partial_correctness (motive:=fun a0 a1 a2 a3 r=>Pv.Fn Tryz.prog 105 [.own 0,iV .i64 a1,iV .i64 a2,iV .i64 a3,.im (.sc (.func (.func 89) #[] #[]))] [(0,some (.row 2 89 (a0.map eBucket)))] 1 (fun x o=>x = .tup []∧o=[(0,some (.row 2 89 (r.map eBucket)))])) ?_ a0 a1 a2 a3 r H
 clear H a0 a1 a2 a3 r;intro self ihF a0 a1 a2 a3 r H
 refine Fn.bodyK [0] Tryz.func105 rfl rfl (fun Γ hP hn => ?_)
 have hm:Tryz.prog.follows .mixedOrders=true:=by kernel_rfl
 replace hn:Γ.n=220:=hn
 refine AWp.seq ?_
 refine sr hP hn hm [] [(28,bV ((i64.wrap (a2-a1))==(1:Int)))] [0,1,2,3,4,28] [] [0] [] (by kernel_rfl) trivial ?_
 refine AWp.cond ((i64.wrap (a2-a1))==(1:Int)) (by kernel_rfl) (fun c954 => ?_) (fun c954 => ?_)
 ·replace H:=iT c954 H
  refine sr hP hn hm [] [(10,iV .i64 a2)] [0,1,3,4,10] [] [0] [] (by kernel_rfl) trivial ?_
  refine sr hP hn hm [] [(11,iV .i64 a3)] [0,1,4,10,11] [] [0] [] (by kernel_rfl) trivial ?_
  refine AWp.seq ?_
  refine AWp.block ?_
  obtain⟨o1279,e1280,H⟩:=bind_of H
  refine AWp.loop (LWp.conv (inv:=[(0,0)]) (vk:=[]) (e0:=[]) (t:=⟨[(0,.own 0),(1,iV .i64 a1),(4,.im (.sc (.func (.func 89) #[] #[]))),(10,iV .i64 a2),(11,iV .i64 a3)],[(0,some (.row 2 89 (a0.map eBucket)))],1⟩) (by kernel_rfl) ?_)
  refine LWp.mono (Q:=fun e s=>(match (generalizing:=false) o1279 with | x997=>e = .exit 0∧s=⟨[(0,.own 0),(1,iV .i64 a1),(10,iV .i64 x997)],[(0,some (.row 2 89 (a0.map eBucket)))],1⟩)) (LWp.cv (withBody (fun body hbody => ?_))) ?_
  ·refine f_slices_symMergeCmpFunc_api_Bucket_hist_tidy_1.l0.partial_correctness a0 a1 (motive:=fun x975 x976 o1279=>LWp Γ body (fun e s=>∃ t,Cv Γ s t∧(match (generalizing:=false) o1279 with | x997=>e = .exit 0∧t=⟨[(0,.own 0),(1,iV .i64 a1),(10,iV .i64 x997)],[(0,some (.row 2 89 (a0.map eBucket)))],1⟩)) ⟨[(0,.own 0),(1,iV .i64 a1),(4,.im (.sc (.func (.func 89) #[] #[]))),(10,iV .i64 x975),(11,iV .i64 x976)],[(0,some (.row 2 89 (a0.map eBucket)))],1⟩) ?_ _ _ _ e1280
   clear H e1280 o1279;intro self ih x975 x976 o1279 H
   subst hbody
   refine LWp.round ?_
   refine AWp.seq ?_
   refine sr hP hn hm [] [(33,bV (decide (x975<x976)))] [0,1,4,10,11,33] [] [0] [] (by kernel_rfl) trivial ?_
   refine AWp.cond (decide (x975<x976)) (by kernel_rfl) (fun c977 => ?_) (fun c977 => ?_)
   ·replace H:=iT c977 H
    refine AWp.skip ?_
    refine AWp.block ?_
    refine sr hP hn hm [] [(12,iV .i64 (i64.wrap (Int.fdiv (u64.wrap (i64.wrap (x975+x976))) 2)))] [0,1,4,10,11,12] [] [0] [(0:Int)≤1] (by kernel_rfl) ⟨by decide,trivial⟩ ?_
    obtain⟨b986,p987,q988,H⟩:=at_of H
    obtain⟨b989,p990,q991,H⟩:=at_of H
    obtain⟨t992,e993,H⟩:=bind_of H
    refine sr hP hn hm [(4,.c (eBucket b986)),(8,.c (eBucket b989)),(9,.call [] [] [] [] 0 (iV .i64 t992) [])] [(50,bV (decide (t992<(0:Int))))] [0,1,4,10,11,12,50] [] [0] [_,_,_,_,_,_,_,_] (by kernel_rfl) ⟨p987,el_lt eBucket p987 q988,el_map eBucket q988,p990,el_lt eBucket p990 q991,el_map eBucket q991,Tryz.call89,f_hist_tidy_1.ok b986 b989 t992 e993,trivial⟩ ?_
    obtain⟨o1281,e1282,H⟩:=bind_of H
    refine AWp.mono (Q:=fun e s=>(match (generalizing:=false) o1281 with | (x995,x996)=>e = .normal∧s=⟨[(0,.own 0),(1,iV .i64 a1),(4,.im (.sc (.func (.func 89) #[] #[]))),(10,iV .i64 x995),(11,iV .i64 x996)],[(0,some (.row 2 89 (a0.map eBucket)))],1⟩)) (AWp.cv ?_) ?_
    ·replace H:=e1282;clear e1282
     refine AWp.cond (decide (t992<(0:Int))) (by kernel_rfl) (fun c994 => ?_) (fun c994 => ?_)
     ·replace H:=iT c994 H
      refine rg hP hn hm [] [(10,iV .i64 (i64.wrap ((i64.wrap (Int.fdiv (u64.wrap (i64.wrap (x975+x976))) 2))+(1:Int))))] [0,1,4,10,11] [] [0] [] (by kernel_rfl) trivial ?_
      obtain rfl:=Option.some.inj H
      exact lf [(0,0)] [] [] (by kernel_rfl) ⟨rfl,rfl⟩
     ·replace H:=iF c994 H
      refine rg hP hn hm [] [(11,iV .i64 (i64.wrap (Int.fdiv (u64.wrap (i64.wrap (x975+x976))) 2)))] [0,1,4,10,11] [] [0] [] (by kernel_rfl) trivial ?_
      obtain rfl:=Option.some.inj H
      exact lf [(0,0)] [] [] (by kernel_rfl) ⟨rfl,rfl⟩
    ·obtain⟨x995,x996⟩:=o1281
     rintro e s ⟨rfl,rfl⟩
     exact LWp.conv [(0,0)] [] [] (by kernel_rfl) (ih _ _ _ H)
   ·replace H:=iF c977 H
    refine AWp.exit ?_
    obtain rfl:=Option.some.inj H
    exact lf [(0,0)] [] [] (by kernel_rfl) ⟨rfl,rfl⟩
  ·obtain⟨x997,rfl⟩:∃ z,z=o1279:=⟨_,rfl⟩
   rintro e s ⟨rfl,rfl⟩
   refine AWp.seq ?_
   refine sr hP hn hm [] [(13,iV .i64 a1)] [0,10,13] [] [0] [] (by kernel_rfl) trivial ?_
   refine AWp.block ?_
   obtain⟨o1283,e1284,H⟩:=bind_of H
   refine AWp.loop (LWp.conv (inv:=[(0,0)]) (vk:=[]) (e0:=[]) (t:=⟨[(0,.own 0),(10,iV .i64 x997),(13,iV .i64 a1)],[(0,some (.row 2 89 (a0.map eBucket)))],1⟩) (by kernel_rfl) ?_)
   refine LWp.mono (Q:=fun e s=>(match (generalizing:=false) o1283 with | x1038=>e = .exit 2∧s=⟨[],[(0,some (.row 2 89 (x1038.map eBucket)))],1⟩)) (LWp.cv (withBody (fun body hbody => ?_))) ?_
   ·refine f_slices_symMergeCmpFunc_api_Bucket_hist_tidy_1.l1.partial_correctness x997 (motive:=fun x1017 x1018 o1283=>LWp Γ body (fun e s=>∃ t,Cv Γ s t∧(match (generalizing:=false) o1283 with | x1038=>e = .exit 2∧t=⟨[],[(0,some (.row 2 89 (x1038.map eBucket)))],1⟩)) ⟨[(0,.own 0),(10,iV .i64 x997),(13,iV .i64 x1018)],[(0,some (.row 2 89 (x1017.map eBucket)))],1⟩) ?_ _ _ _ e1284
    clear H e1284 o1283;intro self ih x1017 x1018 o1283 H
    subst hbody
    refine LWp.round ?_
    refine AWp.seq ?_
    refine sr hP hn hm [] [(58,bV (decide (x1018<(i64.wrap (x997-(1:Int))))))] [0,10,13,58] [] [0] [] (by kernel_rfl) trivial ?_
    refine AWp.cond (decide (x1018<(i64.wrap (x997-(1:Int))))) (by kernel_rfl) (fun c1019 => ?_) (fun c1019 => ?_)
    ·replace H:=iT c1019 H
     refine AWp.skip ?_
     refine AWp.seq ?_
     refine AWp.block ?_
     obtain⟨b1029,p1030,q1031,H⟩:=at_of H
     obtain⟨b1032,p1033,q1034,H⟩:=at_of H
     obtain⟨b1035,p1036,q1037,H⟩:=at_of H
     refine rg hP hn hm [(9,.c (eBucket b1029)),(13,.c (eBucket b1032)),(15,.put (eBucket b1032) ((x1017.set (Int.toNat (x1018)) b1029).map eBucket)),(17,.put (eBucket b1035) (((x1017.set (Int.toNat (x1018)) b1029).set (Int.toNat (i64.wrap (x1018+(1:Int)))) b1032).map eBucket))] [] [0,10,13] [(0,some (.row 2 89 (((x1017.set (Int.toNat (x1018)) b1029).set (Int.toNat (i64.wrap (x1018+(1:Int)))) b1032).map eBucket)))] [0] [_,_,_,_,_,_,_,_,_,(x1017.set (Int.toNat (x1018)) b1029).map eBucket=(x1017.map eBucket).set (Int.toNat (x1018)) (splice (eBucket b1032) 0 [iI .i64 b1029.f0,iI .u64 b1029.f1]),_,_,_,((x1017.set (Int.toNat (x1018)) b1029).set (Int.toNat (i64.wrap (x1018+(1:Int)))) b1032).map eBucket=((x1017.set (Int.toNat (x1018)) b1029).map eBucket).set (Int.toNat (i64.wrap (x1018+(1:Int)))) (splice (eBucket b1035) 0 [iI .i64 b1032.f0,iI .u64 b1032.f1])] (by kernel_rfl) ⟨p1030,el_lt eBucket p1030 q1031,el_map eBucket q1031,p1033,el_lt eBucket p1033 q1034,el_map eBucket q1034,p1033,el_lt eBucket p1033 q1034,el_map eBucket q1034,by exact set1 _ _ _ _,p1036,el_lt eBucket p1036 q1037,el_map eBucket q1037,by exact set1 _ _ _ _,trivial⟩ ?_
     refine rg hP hn hm [] [(13,iV .i64 (i64.wrap (x1018+(1:Int))))] [0,10,13] [] [0] [] (by kernel_rfl) trivial ?_
     exact LWp.conv [(0,0)] [] [] (by kernel_rfl) (ih _ _ _ H)
    ·replace H:=iF c1019 H
     refine AWp.exit ?_
     obtain rfl:=Option.some.inj H
     exact lf [(0,0)] [] [] (by kernel_rfl) ⟨rfl,rfl⟩
   ·obtain⟨x1038,rfl⟩:∃ z,z=o1283:=⟨_,rfl⟩
    rintro e s ⟨rfl,rfl⟩
    refine AWp.conv (inv:=[(0,0)]) (vk:=[]) (e0:=[]) (t:=⟨[],[(0,some (.row 2 89 (x1038.map eBucket)))],1⟩) (by kernel_rfl) ?_
    refine AWp.ret ?_
    obtain rfl:=Option.some.inj H
    exact rl (.inl rfl) rfl (by kernel_rfl) (by kernel_rfl)
 ·replace H:=iF c954 H
  refine AWp.skip ?_
  refine AWp.seq ?_
  refine sr hP hn hm [] [(80,bV ((i64.wrap (a3-a2))==(1:Int)))] [0,1,2,3,4,80] [] [0] [] (by kernel_rfl) trivial ?_
  refine AWp.cond ((i64.wrap (a3-a2))==(1:Int)) (by kernel_rfl) (fun c1039 => ?_) (fun c1039 => ?_)
  ·replace H:=iT c1039 H
   refine sr hP hn hm [] [(14,iV .i64 a1)] [0,2,4,14] [] [0] [] (by kernel_rfl) trivial ?_
   refine sr hP hn hm [] [(15,iV .i64 a2)] [0,2,4,14,15] [] [0] [] (by kernel_rfl) trivial ?_
   refine AWp.seq ?_
   refine AWp.block ?_
   obtain⟨o1285,e1286,H⟩:=bind_of H
   refine AWp.loop (LWp.conv (inv:=[(0,0)]) (vk:=[]) (e0:=[]) (t:=⟨[(0,.own 0),(2,iV .i64 a2),(4,.im (.sc (.func (.func 89) #[] #[]))),(14,iV .i64 a1),(15,iV .i64 a2)],[(0,some (.row 2 89 (a0.map eBucket)))],1⟩) (by kernel_rfl) ?_)
   refine LWp.mono (Q:=fun e s=>(match (generalizing:=false) o1285 with | x1082=>e = .exit 4∧s=⟨[(0,.own 0),(2,iV .i64 a2),(14,iV .i64 x1082)],[(0,some (.row 2 89 (a0.map eBucket)))],1⟩)) (LWp.cv (withBody (fun body hbody => ?_))) ?_
   ·refine f_slices_symMergeCmpFunc_api_Bucket_hist_tidy_1.l2.partial_correctness a0 a2 (motive:=fun x1060 x1061 o1285=>LWp Γ body (fun e s=>∃ t,Cv Γ s t∧(match (generalizing:=false) o1285 with | x1082=>e = .exit 4∧t=⟨[(0,.own 0),(2,iV .i64 a2),(14,iV .i64 x1082)],[(0,some (.row 2 89 (a0.map eBucket)))],1⟩)) ⟨[(0,.own 0),(2,iV .i64 a2),(4,.im (.sc (.func (.func 89) #[] #[]))),(14,iV .i64 x1060),(15,iV .i64 x1061)],[(0,some (.row 2 89 (a0.map eBucket)))],1⟩) ?_ _ _ _ e1286
    clear H e1286 o1285;intro self ih x1060 x1061 o1285 H
    subst hbody
    refine LWp.round ?_
    refine AWp.seq ?_
    refine sr hP hn hm [] [(85,bV (decide (x1060<x1061)))] [0,2,4,14,15,85] [] [0] [] (by kernel_rfl) trivial ?_
    refine AWp.cond (decide (x1060<x1061)) (by kernel_rfl) (fun c1062 => ?_) (fun c1062 => ?_)
    ·replace H:=iT c1062 H
     refine AWp.skip ?_
     refine AWp.block ?_
     refine sr hP hn hm [] [(16,iV .i64 (i64.wrap (Int.fdiv (u64.wrap (i64.wrap (x1060+x1061))) 2)))] [0,2,4,14,15,16] [] [0] [(0:Int)≤1] (by kernel_rfl) ⟨by decide,trivial⟩ ?_
     obtain⟨b1071,p1072,q1073,H⟩:=at_of H
     obtain⟨b1074,p1075,q1076,H⟩:=at_of H
     obtain⟨t1077,e1078,H⟩:=bind_of H
     refine sr hP hn hm [(4,.c (eBucket b1071)),(8,.c (eBucket b1074)),(9,.call [] [] [] [] 0 (iV .i64 t1077) [])] [(103,bV (!(decide (t1077<(0:Int)))))] [0,2,4,14,15,16,103] [] [0] [_,_,_,_,_,_,_,_] (by kernel_rfl) ⟨p1072,el_lt eBucket p1072 q1073,el_map eBucket q1073,p1075,el_lt eBucket p1075 q1076,el_map eBucket q1076,Tryz.call89,f_hist_tidy_1.ok b1071 b1074 t1077 e1078,trivial⟩ ?_
     obtain⟨o1287,e1288,H⟩:=bind_of H
     refine AWp.mono (Q:=fun e s=>(match (generalizing:=false) o1287 with | (x1080,x1081)=>e = .normal∧s=⟨[(0,.own 0),(2,iV .i64 a2),(4,.im (.sc (.func (.func 89) #[] #[]))),(14,iV .i64 x1080),(15,iV .i64 x1081)],[(0,some (.row 2 89 (a0.map eBucket)))],1⟩)) (AWp.cv ?_) ?_
     ·replace H:=e1288;clear e1288
      refine AWp.cond (!(decide (t1077<(0:Int)))) (by kernel_rfl) (fun c1079 => ?_) (fun c1079 => ?_)
      ·replace H:=iT c1079 H
       refine rg hP hn hm [] [(14,iV .i64 (i64.wrap ((i64.wrap (Int.fdiv (u64.wrap (i64.wrap (x1060+x1061))) 2))+(1:Int))))] [0,2,4,14,15] [] [0] [] (by kernel_rfl) trivial ?_
       obtain rfl:=Option.some.inj H
       exact lf [(0,0)] [] [] (by kernel_rfl) ⟨rfl,rfl⟩
      ·replace H:=iF c1079 H
       refine rg hP hn hm [] [(15,iV .i64 (i64.wrap (Int.fdiv (u64.wrap (i64.wrap (x1060+x1061))) 2)))] [0,2,4,14,15] [] [0] [] (by kernel_rfl) trivial ?_
       obtain rfl:=Option.some.inj H
       exact lf [(0,0)] [] [] (by kernel_rfl) ⟨rfl,rfl⟩
     ·obtain⟨x1080,x1081⟩:=o1287
      rintro e s ⟨rfl,rfl⟩
      exact LWp.conv [(0,0)] [] [] (by kernel_rfl) (ih _ _ _ H)
    ·replace H:=iF c1062 H
     refine AWp.exit ?_
     obtain rfl:=Option.some.inj H
     exact lf [(0,0)] [] [] (by kernel_rfl) ⟨rfl,rfl⟩
   ·obtain⟨x1082,rfl⟩:∃ z,z=o1285:=⟨_,rfl⟩
    rintro e s ⟨rfl,rfl⟩
    refine AWp.seq ?_
    refine sr hP hn hm [] [(17,iV .i64 a2)] [0,14,17] [] [0] [] (by kernel_rfl) trivial ?_
    refine AWp.block ?_
    obtain⟨o1289,e1290,H⟩:=bind_of H
    refine AWp.loop (LWp.conv (inv:=[(0,0)]) (vk:=[]) (e0:=[]) (t:=⟨[(0,.own 0),(14,iV .i64 x1082),(17,iV .i64 a2)],[(0,some (.row 2 89 (a0.map eBucket)))],1⟩) (by kernel_rfl) ?_)
    refine LWp.mono (Q:=fun e s=>(match (generalizing:=false) o1289 with | x1123=>e = .exit 6∧s=⟨[],[(0,some (.row 2 89 (x1123.map eBucket)))],1⟩)) (LWp.cv (withBody (fun body hbody => ?_))) ?_
    ·refine f_slices_symMergeCmpFunc_api_Bucket_hist_tidy_1.l3.partial_correctness x1082 (motive:=fun x1102 x1103 o1289=>LWp Γ body (fun e s=>∃ t,Cv Γ s t∧(match (generalizing:=false) o1289 with | x1123=>e = .exit 6∧t=⟨[],[(0,some (.row 2 89 (x1123.map eBucket)))],1⟩)) ⟨[(0,.own 0),(14,iV .i64 x1082),(17,iV .i64 x1103)],[(0,some (.row 2 89 (x1102.map eBucket)))],1⟩) ?_ _ _ _ e1290
     clear H e1290 o1289;intro self ih x1102 x1103 o1289 H
     subst hbody
     refine LWp.round ?_
     refine AWp.seq ?_
     refine sr hP hn hm [] [(110,bV (decide (x1103>x1082)))] [0,14,17,110] [] [0] [] (by kernel_rfl) trivial ?_
     refine AWp.cond (decide (x1103>x1082)) (by kernel_rfl) (fun c1104 => ?_) (fun c1104 => ?_)
     ·replace H:=iT c1104 H
      refine AWp.skip ?_
      refine AWp.seq ?_
      refine AWp.block ?_
      obtain⟨b1114,p1115,q1116,H⟩:=at_of H
      obtain⟨b1117,p1118,q1119,H⟩:=at_of H
      obtain⟨b1120,p1121,q1122,H⟩:=at_of H
      refine rg hP hn hm [(9,.c (eBucket b1114)),(13,.c (eBucket b1117)),(15,.put (eBucket b1117) ((x1102.set (Int.toNat (x1103)) b1114).map eBucket)),(17,.put (eBucket b1120) (((x1102.set (Int.toNat (x1103)) b1114).set (Int.toNat (i64.wrap (x1103-(1:Int)))) b1117).map eBucket))] [] [0,14,17] [(0,some (.row 2 89 (((x1102.set (Int.toNat (x1103)) b1114).set (Int.toNat (i64.wrap (x1103-(1:Int)))) b1117).map eBucket)))] [0] [_,_,_,_,_,_,_,_,_,(x1102.set (Int.toNat (x1103)) b1114).map eBucket=(x1102.map eBucket).set (Int.toNat (x1103)) (splice (eBucket b1117) 0 [iI .i64 b1114.f0,iI .u64 b1114.f1]),_,_,_,((x1102.set (Int.toNat (x1103)) b1114).set (Int.toNat (i64.wrap (x1103-(1:Int)))) b1117).map eBucket=((x1102.set (Int.toNat (x1103)) b1114).map eBucket).set (Int.toNat (i64.wrap (x1103-(1:Int)))) (splice (eBucket b1120) 0 [iI .i64 b1117.f0,iI .u64 b1117.f1])] (by kernel_rfl) ⟨p1115,el_lt eBucket p1115 q1116,el_map eBucket q1116,p1118,el_lt eBucket p1118 q1119,el_map eBucket q1119,p1118,el_lt eBucket p1118 q1119,el_map eBucket q1119,by exact set1 _ _ _ _,p1121,el_lt eBucket p1121 q1122,el_map eBucket q1122,by exact set1 _ _ _ _,trivial⟩ ?_
      refine rg hP hn hm [] [(17,iV .i64 (i64.wrap (x1103-(1:Int))))] [0,14,17] [] [0] [] (by kernel_rfl) trivial ?_
      exact LWp.conv [(0,0)] [] [] (by kernel_rfl) (ih _ _ _ H)
     ·replace H:=iF c1104 H
      refine AWp.exit ?_
      obtain rfl:=Option.some.inj H
      exact lf [(0,0)] [] [] (by kernel_rfl) ⟨rfl,rfl⟩
    ·obtain⟨x1123,rfl⟩:∃ z,z=o1289:=⟨_,rfl⟩
     rintro e s ⟨rfl,rfl⟩
     refine AWp.conv (inv:=[(0,0)]) (vk:=[]) (e0:=[]) (t:=⟨[],[(0,some (.row 2 89 (x1123.map eBucket)))],1⟩) (by kernel_rfl) ?_
     refine AWp.ret ?_
     obtain rfl:=Option.some.inj H
     exact rl (.inl rfl) rfl (by kernel_rfl) (by kernel_rfl)
  ·replace H:=iF c1039 H
   refine AWp.skip ?_
   refine sr hP hn hm [] [(18,iV .i64 (i64.wrap (Int.fdiv (u64.wrap (i64.wrap (a1+a3))) 2)))] [0,1,2,3,4,18] [] [0] [(0:Int)≤1] (by kernel_rfl) ⟨by decide,trivial⟩ ?_
   refine sr hP hn hm [] [(19,iV .i64 (i64.wrap ((i64.wrap (Int.fdiv (u64.wrap (i64.wrap (a1+a3))) 2))+a2)))] [0,1,2,3,4,18,19] [] [0] [] (by kernel_rfl) trivial ?_
   refine sr hP hn hm [] [] [0,1,2,3,4,18,19] [] [0] [] (by kernel_rfl) trivial ?_
   refine AWp.seq ?_
   refine sr hP hn hm [] [(140,bV (decide (a2>(i64.wrap (Int.fdiv (u64.wrap (i64.wrap (a1+a3))) 2)))))] [0,1,2,3,4,18,19,140] [] [0] [] (by kernel_rfl) trivial ?_
   obtain⟨o1291,e1292,H⟩:=bind_of H
   refine AWp.mono (Q:=fun e s=>(match (generalizing:=false) o1291 with | (x1125,x1126)=>e = .normal∧s=⟨[(0,.own 0),(1,iV .i64 a1),(2,iV .i64 a2),(3,iV .i64 a3),(4,.im (.sc (.func (.func 89) #[] #[]))),(18,iV .i64 (i64.wrap (Int.fdiv (u64.wrap (i64.wrap (a1+a3))) 2))),(19,iV .i64 (i64.wrap ((i64.wrap (Int.fdiv (u64.wrap (i64.wrap (a1+a3))) 2))+a2))),(20,iV .i64 x1125),(21,iV .i64 x1126)],[(0,some (.row 2 89 (a0.map eBucket)))],1⟩)) (AWp.cv ?_) ?_
   ·replace H:=e1292;clear e1292
    refine AWp.cond (decide (a2>(i64.wrap (Int.fdiv (u64.wrap (i64.wrap (a1+a3))) 2)))) (by kernel_rfl) (fun c1124 => ?_) (fun c1124 => ?_)
    ·replace H:=iT c1124 H
     refine sr hP hn hm [] [(20,iV .i64 (i64.wrap ((i64.wrap ((i64.wrap (Int.fdiv (u64.wrap (i64.wrap (a1+a3))) 2))+a2))-a3)))] [0,1,2,3,4,18,19,20] [] [0] [] (by kernel_rfl) trivial ?_
     refine rg hP hn hm [] [(21,iV .i64 (i64.wrap (Int.fdiv (u64.wrap (i64.wrap (a1+a3))) 2)))] [0,1,2,3,4,18,19,20,21] [] [0] [] (by kernel_rfl) trivial ?_
     obtain rfl:=Option.some.inj H
     exact lf [(0,0)] [] [] (by kernel_rfl) ⟨rfl,rfl⟩
    ·replace H:=iF c1124 H
     refine sr hP hn hm [] [(20,iV .i64 a1)] [0,1,2,3,4,18,19,20] [] [0] [] (by kernel_rfl) trivial ?_
     refine rg hP hn hm [] [(21,iV .i64 a2)] [0,1,2,3,4,18,19,20,21] [] [0] [] (by kernel_rfl) trivial ?_
     obtain rfl:=Option.some.inj H
     exact lf [(0,0)] [] [] (by kernel_rfl) ⟨rfl,rfl⟩
   ·obtain⟨x1125,x1126⟩:=o1291
    rintro e s ⟨rfl,rfl⟩
    refine sr hP hn hm [] [(22,iV .i64 (i64.wrap ((i64.wrap ((i64.wrap (Int.fdiv (u64.wrap (i64.wrap (a1+a3))) 2))+a2))-(1:Int))))] [0,1,2,3,4,18,19,20,21,22] [] [0] [] (by kernel_rfl) trivial ?_
    refine AWp.seq ?_
    refine AWp.block ?_
    obtain⟨o1293,e1294,H⟩:=bind_of H
    refine AWp.loop (LWp.conv (inv:=[(0,0)]) (vk:=[]) (e0:=[]) (t:=⟨[(0,.own 0),(1,iV .i64 a1),(2,iV .i64 a2),(3,iV .i64 a3),(4,.im (.sc (.func (.func 89) #[] #[]))),(18,iV .i64 (i64.wrap (Int.fdiv (u64.wrap (i64.wrap (a1+a3))) 2))),(19,iV .i64 (i64.wrap ((i64.wrap (Int.fdiv (u64.wrap (i64.wrap (a1+a3))) 2))+a2))),(20,iV .i64 x1125),(21,iV .i64 x1126),(22,iV .i64 (i64.wrap ((i64.wrap ((i64.wrap (Int.fdiv (u64.wrap (i64.wrap (a1+a3))) 2))+a2))-(1:Int))))],[(0,some (.row 2 89 (a0.map eBucket)))],1⟩) (by kernel_rfl) ?_)
    refine LWp.mono (Q:=fun e s=>(match (generalizing:=false) o1293 with | x1169=>e = .exit 8∧s=⟨[(0,.own 0),(1,iV .i64 a1),(2,iV .i64 a2),(3,iV .i64 a3),(4,.im (.sc (.func (.func 89) #[] #[]))),(18,iV .i64 (i64.wrap (Int.fdiv (u64.wrap (i64.wrap (a1+a3))) 2))),(19,iV .i64 (i64.wrap ((i64.wrap (Int.fdiv (u64.wrap (i64.wrap (a1+a3))) 2))+a2))),(20,iV .i64 x1169)],[(0,some (.row 2 89 (a0.map eBucket)))],1⟩)) (LWp.cv (withBody (fun body hbody => ?_))) ?_
    ·refine f_slices_symMergeCmpFunc_api_Bucket_hist_tidy_1.l4.partial_correctness a0 a1 a2 a3 (motive:=fun x1147 x1148 o1293=>LWp Γ body (fun e s=>∃ t,Cv Γ s t∧(match (generalizing:=false) o1293 with | x1169=>e = .exit 8∧t=⟨[(0,.own 0),(1,iV .i64 a1),(2,iV .i64 a2),(3,iV .i64 a3),(4,.im (.sc (.func (.func 89) #[] #[]))),(18,iV .i64 (i64.wrap (Int.fdiv (u64.wrap (i64.wrap (a1+a3))) 2))),(19,iV .i64 (i64.wrap ((i64.wrap (Int.fdiv (u64.wrap (i64.wrap (a1+a3))) 2))+a2))),(20,iV .i64 x1169)],[(0,some (.row 2 89 (a0.map eBucket)))],1⟩)) ⟨[(0,.own 0),(1,iV .i64 a1),(2,iV .i64 a2),(3,iV .i64 a3),(4,.im (.sc (.func (.func 89) #[] #[]))),(18,iV .i64 (i64.wrap (Int.fdiv (u64.wrap (i64.wrap (a1+a3))) 2))),(19,iV .i64 (i64.wrap ((i64.wrap (Int.fdiv (u64.wrap (i64.wrap (a1+a3))) 2))+a2))),(20,iV .i64 x1147),(21,iV .i64 x1148),(22,iV .i64 (i64.wrap ((i64.wrap ((i64.wrap (Int.fdiv (u64.wrap (i64.wrap (a1+a3))) 2))+a2))-(1:Int))))],[(0,some (.row 2 89 (a0.map eBucket)))],1⟩) ?_ _ _ _ e1294
     clear H e1294 o1293;intro self ih x1147 x1148 o1293 H
     subst hbody
     refine LWp.round ?_
     refine AWp.seq ?_
     refine sr hP hn hm [] [(151,bV (decide (x1147<x1148)))] [0,1,2,3,4,18,19,20,21,22,151] [] [0] [] (by kernel_rfl) trivial ?_
     refine AWp.cond (decide (x1147<x1148)) (by kernel_rfl) (fun c1149 => ?_) (fun c1149 => ?_)
     ·replace H:=iT c1149 H
      refine AWp.skip ?_
      refine AWp.block ?_
      refine sr hP hn hm [] [(23,iV .i64 (i64.wrap (Int.fdiv (u64.wrap (i64.wrap (x1147+x1148))) 2)))] [0,1,2,3,4,18,19,20,21,22,23] [] [0] [(0:Int)≤1] (by kernel_rfl) ⟨by decide,trivial⟩ ?_
      obtain⟨b1158,p1159,q1160,H⟩:=at_of H
      obtain⟨b1161,p1162,q1163,H⟩:=at_of H
      obtain⟨t1164,e1165,H⟩:=bind_of H
      refine sr hP hn hm [(6,.c (eBucket b1158)),(10,.c (eBucket b1161)),(11,.call [] [] [] [] 0 (iV .i64 t1164) [])] [(171,bV (!(decide (t1164<(0:Int)))))] [0,1,2,3,4,18,19,20,21,22,23,171] [] [0] [_,_,_,_,_,_,_,_] (by kernel_rfl) ⟨p1159,el_lt eBucket p1159 q1160,el_map eBucket q1160,p1162,el_lt eBucket p1162 q1163,el_map eBucket q1163,Tryz.call89,f_hist_tidy_1.ok b1158 b1161 t1164 e1165,trivial⟩ ?_
      obtain⟨o1295,e1296,H⟩:=bind_of H
      refine AWp.mono (Q:=fun e s=>(match (generalizing:=false) o1295 with | (x1167,x1168)=>e = .normal∧s=⟨[(0,.own 0),(1,iV .i64 a1),(2,iV .i64 a2),(3,iV .i64 a3),(4,.im (.sc (.func (.func 89) #[] #[]))),(18,iV .i64 (i64.wrap (Int.fdiv (u64.wrap (i64.wrap (a1+a3))) 2))),(19,iV .i64 (i64.wrap ((i64.wrap (Int.fdiv (u64.wrap (i64.wrap (a1+a3))) 2))+a2))),(20,iV .i64 x1167),(21,iV .i64 x1168),(22,iV .i64 (i64.wrap ((i64.wrap ((i64.wrap (Int.fdiv (u64.wrap (i64.wrap (a1+a3))) 2))+a2))-(1:Int))))],[(0,some (.row 2 89 (a0.map eBucket)))],1⟩)) (AWp.cv ?_) ?_
      ·replace H:=e1296;clear e1296
       refine AWp.cond (!(decide (t1164<(0:Int)))) (by kernel_rfl) (fun c1166 => ?_) (fun c1166 => ?_)
       ·replace H:=iT c1166 H
        refine rg hP hn hm [] [(20,iV .i64 (i64.wrap ((i64.wrap (Int.fdiv (u64.wrap (i64.wrap (x1147+x1148))) 2))+(1:Int))))] [0,1,2,3,4,18,19,20,21,22] [] [0] [] (by kernel_rfl) trivial ?_
        obtain rfl:=Option.some.inj H
        exact lf [(0,0)] [] [] (by kernel_rfl) ⟨rfl,rfl⟩
       ·replace H:=iF c1166 H
        refine rg hP hn hm [] [(21,iV .i64 (i64.wrap (Int.fdiv (u64.wrap (i64.wrap (x1147+x1148))) 2)))] [0,1,2,3,4,18,19,20,21,22] [] [0] [] (by kernel_rfl) trivial ?_
        obtain rfl:=Option.some.inj H
        exact lf [(0,0)] [] [] (by kernel_rfl) ⟨rfl,rfl⟩
      ·obtain⟨x1167,x1168⟩:=o1295
       rintro e s ⟨rfl,rfl⟩
       exact LWp.conv [(0,0)] [] [] (by kernel_rfl) (ih _ _ _ H)
     ·replace H:=iF c1149 H
      refine AWp.exit ?_
      obtain rfl:=Option.some.inj H
      exact lf [(0,0)] [] [] (by kernel_rfl) ⟨rfl,rfl⟩
    ·obtain⟨x1169,rfl⟩:∃ z,z=o1293:=⟨_,rfl⟩
     rintro e s ⟨rfl,rfl⟩
     refine sr hP hn hm [] [(24,iV .i64 (i64.wrap ((i64.wrap ((i64.wrap (Int.fdiv (u64.wrap (i64.wrap (a1+a3))) 2))+a2))-x1169)))] [0,1,2,3,4,18,20,24] [] [0] [] (by kernel_rfl) trivial ?_
     refine AWp.seq ?_
     refine AWp.seq ?_
     obtain⟨o1297,e1298,H⟩:=bind_of H
     refine AWp.mono (Q:=fun e s=>(match (generalizing:=false) o1297 with | x1172=>e = .normal∧s=⟨[(0,.own 0),(1,iV .i64 a1),(2,iV .i64 a2),(3,iV .i64 a3),(4,.im (.sc (.func (.func 89) #[] #[]))),(18,iV .i64 (i64.wrap (Int.fdiv (u64.wrap (i64.wrap (a1+a3))) 2))),(20,iV .i64 x1169),(24,iV .i64 (i64.wrap ((i64.wrap ((i64.wrap (Int.fdiv (u64.wrap (i64.wrap (a1+a3))) 2))+a2))-x1169))),(185,bV x1172)],[(0,some (.row 2 89 (a0.map eBucket)))],1⟩)) (AWp.cv ?_) ?_
     ·replace H:=e1298;clear e1298
      rcases Bool.eq_false_or_eq_true (decide (x1169<a2)) with c1171 | c1171
      ·replace H:=iT c1171 H
       refine rg hP hn hm [(3,.b true)] [(185,bV (decide (a2<(i64.wrap ((i64.wrap ((i64.wrap (Int.fdiv (u64.wrap (i64.wrap (a1+a3))) 2))+a2))-x1169)))))] [0,1,2,3,4,18,20,24,185] [] [0] [_] (by kernel_rfl) ⟨c1171,trivial⟩ ?_
       obtain rfl:=Option.some.inj H
       exact lf [(0,0)] [] [] (by kernel_rfl) ⟨rfl,rfl⟩
      ·replace H:=iF c1171 H
       refine rg hP hn hm [(3,.b false)] [(185,bV false)] [0,1,2,3,4,18,20,24,185] [] [0] [_] (by kernel_rfl) ⟨c1171,trivial⟩ ?_
       obtain rfl:=Option.some.inj H
       exact lf [(0,0)] [] [] (by kernel_rfl) ⟨rfl,rfl⟩
     ·obtain⟨x1172,rfl⟩:∃ z,z=o1297:=⟨_,rfl⟩
      rintro e s ⟨rfl,rfl⟩
      obtain⟨o1299,e1300,H⟩:=bind_of H
      refine AWp.mono (Q:=fun e s=>(match (generalizing:=false) o1299 with | x1260=>e = .normal∧s=⟨[(0,.own 0),(1,iV .i64 a1),(3,iV .i64 a3),(4,.im (.sc (.func (.func 89) #[] #[]))),(18,iV .i64 (i64.wrap (Int.fdiv (u64.wrap (i64.wrap (a1+a3))) 2))),(20,iV .i64 x1169),(24,iV .i64 (i64.wrap ((i64.wrap ((i64.wrap (Int.fdiv (u64.wrap (i64.wrap (a1+a3))) 2))+a2))-x1169)))],[(0,some (.row 2 89 (x1260.map eBucket)))],1⟩)) (AWp.cv ?_) ?_
      ·replace H:=e1300;clear e1300
       refine AWp.cond x1172 (by kernel_rfl) (fun c1173 => ?_) (fun c1173 => ?_)
       ·replace H:=iT c1173 H
        obtain⟨t1258,e1259,H⟩:=bind_of H
        refine rg hP hn hm [(5,.call [(0,0)] [(0,0)] [] [] 1 (.tup []) [(0,some (.row 2 89 (t1258.map eBucket)))])] [] [0,1,3,4,18,20,24] [(0,some (.row 2 89 (t1258.map eBucket)))] [0] [_,_] (by kernel_rfl) ⟨Tryz.call109,f_slices_rotateCmpFunc_api_Bucket_hist_tidy_1.ok a0 x1169 a2 (i64.wrap ((i64.wrap ((i64.wrap (Int.fdiv (u64.wrap (i64.wrap (a1+a3))) 2))+a2))-x1169)) t1258 e1259,trivial⟩ ?_
        obtain rfl:=Option.some.inj H
        exact lf [(0,0)] [] [] (by kernel_rfl) ⟨rfl,rfl⟩
       ·replace H:=iF c1173 H
        refine AWp.skip ?_
        obtain rfl:=Option.some.inj H
        exact lf [(0,0)] [] [] (by kernel_rfl) ⟨rfl,rfl⟩
      ·obtain⟨x1260,rfl⟩:∃ z,z=o1299:=⟨_,rfl⟩
       rintro e s ⟨rfl,rfl⟩
       refine AWp.seq ?_
       refine AWp.seq ?_
       obtain⟨o1301,e1302,H⟩:=bind_of H
       refine AWp.mono (Q:=fun e s=>(match (generalizing:=false) o1301 with | x1263=>e = .normal∧s=⟨[(0,.own 0),(1,iV .i64 a1),(3,iV .i64 a3),(4,.im (.sc (.func (.func 89) #[] #[]))),(18,iV .i64 (i64.wrap (Int.fdiv (u64.wrap (i64.wrap (a1+a3))) 2))),(20,iV .i64 x1169),(24,iV .i64 (i64.wrap ((i64.wrap ((i64.wrap (Int.fdiv (u64.wrap (i64.wrap (a1+a3))) 2))+a2))-x1169))),(199,bV x1263)],[(0,some (.row 2 89 (x1260.map eBucket)))],1⟩)) (AWp.cv ?_) ?_
       ·replace H:=e1302;clear e1302
        rcases Bool.eq_false_or_eq_true (decide (a1<x1169)) with c1262 | c1262
        ·replace H:=iT c1262 H
         refine rg hP hn hm [(3,.b true)] [(199,bV (decide (x1169<(i64.wrap (Int.fdiv (u64.wrap (i64.wrap (a1+a3))) 2)))))] [0,1,3,4,18,20,24,199] [] [0] [_] (by kernel_rfl) ⟨c1262,trivial⟩ ?_
         obtain rfl:=Option.some.inj H
         exact lf [(0,0)] [] [] (by kernel_rfl) ⟨rfl,rfl⟩
        ·replace H:=iF c1262 H
         refine rg hP hn hm [(3,.b false)] [(199,bV false)] [0,1,3,4,18,20,24,199] [] [0] [_] (by kernel_rfl) ⟨c1262,trivial⟩ ?_
         obtain rfl:=Option.some.inj H
         exact lf [(0,0)] [] [] (by kernel_rfl) ⟨rfl,rfl⟩
       ·obtain⟨x1263,rfl⟩:∃ z,z=o1301:=⟨_,rfl⟩
        rintro e s ⟨rfl,rfl⟩
        obtain⟨o1303,e1304,H⟩:=bind_of H
        refine AWp.mono (Q:=fun e s=>(match (generalizing:=false) o1303 with | x1269=>e = .normal∧s=⟨[(0,.own 0),(3,iV .i64 a3),(4,.im (.sc (.func (.func 89) #[] #[]))),(18,iV .i64 (i64.wrap (Int.fdiv (u64.wrap (i64.wrap (a1+a3))) 2))),(24,iV .i64 (i64.wrap ((i64.wrap ((i64.wrap (Int.fdiv (u64.wrap (i64.wrap (a1+a3))) 2))+a2))-x1169)))],[(0,some (.row 2 89 (x1269.map eBucket)))],1⟩)) (AWp.cv ?_) ?_
        ·replace H:=e1304;clear e1304
         refine AWp.cond x1263 (by kernel_rfl) (fun c1264 => ?_) (fun c1264 => ?_)
         ·replace H:=iT c1264 H
          obtain⟨t1267,e1268,H⟩:=bind_of H
          refine rg hP hn hm [(5,.call [(0,0)] [(0,0)] [] [] 1 (.tup []) [(0,some (.row 2 89 (t1267.map eBucket)))])] [] [0,3,4,18,24] [(0,some (.row 2 89 (t1267.map eBucket)))] [0] [_,Pv.Fn Tryz.prog 105 [.own 0,iV .i64 a1,iV .i64 x1169,iV .i64 (i64.wrap (Int.fdiv (u64.wrap (i64.wrap (a1+a3))) 2)),.im (.sc (.func (.func 89) #[] #[]))] [(0,some (.row 2 89 (x1260.map eBucket)))] 1 (fun r o=>r = .tup []∧o=[(0,some (.row 2 89 (t1267.map eBucket)))])] (by kernel_rfl) ⟨Tryz.call105,by exact ihF x1260 a1 x1169 (i64.wrap (Int.fdiv (u64.wrap (i64.wrap (a1+a3))) 2)) _ e1268,trivial⟩ ?_
          obtain rfl:=Option.some.inj H
          exact lf [(0,0)] [] [] (by kernel_rfl) ⟨rfl,rfl⟩
         ·replace H:=iF c1264 H
          refine AWp.skip ?_
          obtain rfl:=Option.some.inj H
          exact lf [(0,0)] [] [] (by kernel_rfl) ⟨rfl,rfl⟩
        ·obtain⟨x1269,rfl⟩:∃ z,z=o1303:=⟨_,rfl⟩
         rintro e s ⟨rfl,rfl⟩
         refine AWp.seq ?_
         obtain⟨o1305,e1306,H⟩:=bind_of H
         refine AWp.mono (Q:=fun e s=>(match (generalizing:=false) o1305 with | x1272=>e = .normal∧s=⟨[(0,.own 0),(3,iV .i64 a3),(4,.im (.sc (.func (.func 89) #[] #[]))),(18,iV .i64 (i64.wrap (Int.fdiv (u64.wrap (i64.wrap (a1+a3))) 2))),(24,iV .i64 (i64.wrap ((i64.wrap ((i64.wrap (Int.fdiv (u64.wrap (i64.wrap (a1+a3))) 2))+a2))-x1169))),(213,bV x1272)],[(0,some (.row 2 89 (x1269.map eBucket)))],1⟩)) (AWp.cv ?_) ?_
         ·replace H:=e1306;clear e1306
          rcases Bool.eq_false_or_eq_true (decide ((i64.wrap (Int.fdiv (u64.wrap (i64.wrap (a1+a3))) 2))<(i64.wrap ((i64.wrap ((i64.wrap (Int.fdiv (u64.wrap (i64.wrap (a1+a3))) 2))+a2))-x1169)))) with c1271 | c1271
          ·replace H:=iT c1271 H
           refine rg hP hn hm [(3,.b true)] [(213,bV (decide ((i64.wrap ((i64.wrap ((i64.wrap (Int.fdiv (u64.wrap (i64.wrap (a1+a3))) 2))+a2))-x1169))<a3)))] [0,3,4,18,24,213] [] [0] [_] (by kernel_rfl) ⟨c1271,trivial⟩ ?_
           obtain rfl:=Option.some.inj H
           exact lf [(0,0)] [] [] (by kernel_rfl) ⟨rfl,rfl⟩
          ·replace H:=iF c1271 H
           refine rg hP hn hm [(3,.b false)] [(213,bV false)] [0,3,4,18,24,213] [] [0] [_] (by kernel_rfl) ⟨c1271,trivial⟩ ?_
           obtain rfl:=Option.some.inj H
           exact lf [(0,0)] [] [] (by kernel_rfl) ⟨rfl,rfl⟩
         ·obtain⟨x1272,rfl⟩:∃ z,z=o1305:=⟨_,rfl⟩
          rintro e s ⟨rfl,rfl⟩
          obtain⟨o1307,e1308,H⟩:=bind_of H
          refine AWp.mono (Q:=fun e s=>(match (generalizing:=false) o1307 with | x1278=>e = .normal∧s=⟨[],[(0,some (.row 2 89 (x1278.map eBucket)))],1⟩)) (AWp.cv ?_) ?_
          ·replace H:=e1308;clear e1308
           refine AWp.cond x1272 (by kernel_rfl) (fun c1273 => ?_) (fun c1273 => ?_)
           ·replace H:=iT c1273 H
            obtain⟨t1276,e1277,H⟩:=bind_of H
            refine rg hP hn hm [(5,.call [(0,0)] [(0,0)] [] [] 1 (.tup []) [(0,some (.row 2 89 (t1276.map eBucket)))])] [] [] [(0,some (.row 2 89 (t1276.map eBucket)))] [0] [_,Pv.Fn Tryz.prog 105 [.own 0,iV .i64 (i64.wrap (Int.fdiv (u64.wrap (i64.wrap (a1+a3))) 2)),iV .i64 (i64.wrap ((i64.wrap ((i64.wrap (Int.fdiv (u64.wrap (i64.wrap (a1+a3))) 2))+a2))-x1169)),iV .i64 a3,.im (.sc (.func (.func 89) #[] #[]))] [(0,some (.row 2 89 (x1269.map eBucket)))] 1 (fun r o=>r = .tup []∧o=[(0,some (.row 2 89 (t1276.map eBucket)))])] (by kernel_rfl) ⟨Tryz.call105,by exact ihF x1269 (i64.wrap (Int.fdiv (u64.wrap (i64.wrap (a1+a3))) 2)) (i64.wrap ((i64.wrap ((i64.wrap (Int.fdiv (u64.wrap (i64.wrap (a1+a3))) 2))+a2))-x1169)) a3 _ e1277,trivial⟩ ?_
            obtain rfl:=Option.some.inj H
            exact lf [(0,0)] [] [] (by kernel_rfl) ⟨rfl,rfl⟩
           ·replace H:=iF c1273 H
            refine AWp.skip ?_
            obtain rfl:=Option.some.inj H
            exact lf [(0,0)] [] [] (by kernel_rfl) ⟨rfl,rfl⟩
          ·obtain⟨x1278,rfl⟩:∃ z,z=o1307:=⟨_,rfl⟩
           rintro e s ⟨rfl,rfl⟩
           obtain rfl:=Option.some.inj H
           exact Exists.intro ⟨[],[(0,some (.row 2 89 (x1278.map eBucket)))],1⟩ (And.intro (fun _ _ h=>h.conv (inv:=[(0,0)]) (vk:=[]) (e0:=[]) (t:=⟨[],[(0,some (.row 2 89 (x1278.map eBucket)))],1⟩) (by kernel_rfl)) (And.intro (.inr rfl) (And.intro rfl (And.intro (by kernel_rfl) (by kernel_rfl)))))
end Go.Proofs.YtbmdealiikoplaaGreat.PvGJ
