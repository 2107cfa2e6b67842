import Derived.Test.YtlclecehlekjoaaGreatProg
import Derived.Test.YtlclecehlekjoaaGreatPxChunkCuts08
set_option linter.unusedVariables false
set_option linter.unnecessarySimpa false
set_option linter.unusedSimpArgs false
set_option maxRecDepth 10000
namespace Go.Proofs.YtlclecehlekjoaaGreat.PvGK
open Go Go.Pv Go.IntKind
def Z27.l0 (a0:Int) (a1:Int) (x4065:Int):Option (Int):=(Z00.f a0 x4065)>>=fun t4068=>if(decide (t4068<a1))=true then(Z27.l0 a0 a1 (i64.wrap (x4065+(1:Int)))) else(some x4065)
partial_fixpoint
def Z27.l1 (a0:Int) (a1:Int) (x4077:Int):Option (Int):=(Z00.f a0 (i64.wrap (x4077-(1:Int))))>>=fun t4080=>if(decide (t4080≥a1))=true then(Z27.l1 a0 a1 (i64.wrap (x4077-(1:Int)))) else(some x4077)
partial_fixpoint
def Z27.f (a0:Int) (a1:Int):Option (Int×Bool):=(((Z06.f a0)>>=fun t4048=>if(!t4048)=true then(some true) else(if(decide (a1≤(-262144)))=true then(some true) else(some (decide (a1>(262144:Int)))))):Option (Bool))>>=fun x4052=>if x4052=true then(some (0,false)) else((Z22.f a0)>>=fun t4057=>(chk (t4057≠0))>>=fun _=>(Z27.l0 a0 a1 (i64.wrap (Int.tdiv a1 t4057)))>>=fun x4071=>(Z27.l1 a0 a1 x4071)>>=fun x4083=>some (x4083,true))
theorem Z27.ok (a0:Int) (a1:Int) (r:Int×Bool) (H:Z27.f a0 a1=some r):Pv.Fn Tryz.prog 120 [iV .i64 a0,iV .i64 a1] [] 0 (fun x o=>x = .tup [iV .i64 r.1,bV r.2]∧o=[]):=by
 unfold Z27.f at H
 refine Fn.bodyK [] Tryz.func120 rfl rfl (fun Γ hP hn => ?_)
 have hm:Tryz.prog.follows .mixedOrders=true:=by kernel_rfl
 replace hn:Γ.n=38:=hn
 refine sO hP hn hm [] [] [0,1] [] [] ?_
 refine AWp.seq ?_
 refine AWp.seq ?_
 obtain⟨o4084,e4085,H⟩:=Z3 H
 refine AWp.mono (Q:=fun e s=>(match (generalizing:=false) o4084 with | x4052=>e = .normal∧s=⟨[(0,iV .i64 a0),(1,iV .i64 a1),(17,bV x4052)],[],0⟩)) (AWp.cv ?_) ?_
 ·replace H:=e4085;clear e4085
  obtain⟨t4048,e4049,H⟩:=Z3 H
  rcases Bool.eq_false_or_eq_true (!t4048) with c4050 | c4050
  ·replace H:=iT c4050 H
   refine rG hP hn hm [(1,.call [] [] [] [] 0 (bV t4048) []),(3,.b true)] [(17,bV true)] [0,1,17] [] [] [_,_,_] ⟨Tryz.call45,Z06.ok a0 t4048 e4049,c4050,trivial⟩ ?_
   obtain rfl:=sj H
   exact lf [] [] [] (by kernel_rfl) ⟨rfl,rfl⟩
  ·replace H:=iF c4050 H
   rcases Bool.eq_false_or_eq_true (decide (a1≤(-262144))) with c4051 | c4051
   ·replace H:=iT c4051 H
    refine rG hP hn hm [(1,.call [] [] [] [] 0 (bV t4048) []),(3,.b false),(7,.b true)] [(17,bV true)] [0,1,17] [] [] [_,_,_,_] ⟨Tryz.call45,Z06.ok a0 t4048 e4049,c4050,c4051,trivial⟩ ?_
    obtain rfl:=sj H
    exact lf [] [] [] (by kernel_rfl) ⟨rfl,rfl⟩
   ·replace H:=iF c4051 H
    refine rG hP hn hm [(1,.call [] [] [] [] 0 (bV t4048) []),(3,.b false),(7,.b false)] [(17,bV (decide (a1>(262144:Int))))] [0,1,17] [] [] [_,_,_,_] ⟨Tryz.call45,Z06.ok a0 t4048 e4049,c4050,c4051,trivial⟩ ?_
    obtain rfl:=sj H
    exact lf [] [] [] (by kernel_rfl) ⟨rfl,rfl⟩
 ·obtain⟨x4052,rfl⟩:∃ z,z=o4084:=⟨_,rfl⟩
  rintro e s ⟨rfl,rfl⟩
  refine AWp.cond x4052 (by kernel_rfl) (fun c4053 => ?_) (fun c4053 => ?_)
  ·replace H:=iT c4053 H
   refine sO hP hn hm [] [(4,iV .i64 0),(5,bV false)] [4,5] [] [] ?_
   refine AWp.conv (inv:=[]) (vk:=[]) (e0:=[]) (t:=⟨[(4,iV .i64 0),(5,bV false)],[],0⟩) (by kernel_rfl) ?_
   refine AWp.ret ?_
   obtain rfl:=sj H
   exact rl (.inl rfl) rfl (by kernel_rfl) (by kernel_rfl)
  ·replace H:=iF c4053 H
   refine AWp.skip ?_
   obtain⟨t4057,e4058,H⟩:=Z3 H
   obtain⟨c4059,H⟩:=Z0q H
   refine sR hP hn hm [(2,.call [] [] [] [] 0 (iV .i64 t4057) [])] [(6,iV .i64 (i64.wrap (Int.tdiv a1 t4057)))] [0,1,6] [] [] [_,_,_] ⟨Tryz.call80,Z22.ok a0 t4057 e4058,c4059,trivial⟩ ?_
   refine AWp.seq ?_
   refine AWp.block ?_
   obtain⟨o4086,e4087,H⟩:=Z3 H
   refine AWp.loop (LWp.conv (inv:=[]) (vk:=[]) (e0:=[]) (t:=⟨[(0,iV .i64 a0),(1,iV .i64 a1),(6,iV .i64 (i64.wrap (Int.tdiv a1 t4057)))],[],0⟩) (by kernel_rfl) ?_)
   refine LWp.mono (Q:=fun e s=>(match (generalizing:=false) o4086 with | x4071=>e = .exit 0∧s=⟨[(0,iV .i64 a0),(1,iV .i64 a1),(6,iV .i64 x4071)],[],0⟩)) (LWp.cv (Zn (fun body hbody => ?_))) ?_
   ·refine      Z27.l0.partial_correctness a0 a1 (motive:=fun x4065 o4086=>LWp Γ body (fun e s=>∃ t,Cv Γ s t∧(match (generalizing:=false) o4086 with | x4071=>e = .exit 0∧t=⟨[(0,iV .i64 a0),(1,iV .i64 a1),(6,iV .i64 x4071)],[],0⟩)) ⟨[(0,iV .i64 a0),(1,iV .i64 a1),(6,iV .i64 x4065)],[],0⟩) ?_ _ _ e4087
    clear H e4087 o4086;intro self ih x4065 o4086 H
    subst hbody
    refine LWp.round ?_
    refine AWp.seq ?_
    obtain⟨t4068,e4069,H⟩:=Z3 H
    refine sR hP hn hm [(2,.call [] [] [] [] 0 (iV .i64 t4068) [])] [(26,bV (decide (t4068<a1)))] [0,1,6,26] [] [] [_,_] ⟨Tryz.call47,Z00.ok a0 x4065 t4068 e4069,trivial⟩ ?_
    refine AWp.cond (decide (t4068<a1)) (by kernel_rfl) (fun c4070 => ?_) (fun c4070 => ?_)
    ·replace H:=iT c4070 H
     refine AWp.skip ?_
     refine AWp.block ?_
     refine rO hP hn hm [] [(6,iV .i64 (i64.wrap (x4065+(1:Int))))] [0,1,6] [] [] ?_
     exact LWp.conv [] [] [] (by kernel_rfl) (ih _ _ H)
    ·replace H:=iF c4070 H
     refine AWp.exit ?_
     obtain rfl:=sj H
     exact lf [] [] [] (by kernel_rfl) ⟨rfl,rfl⟩
   ·obtain⟨x4071,rfl⟩:∃ z,z=o4086:=⟨_,rfl⟩
    rintro e s ⟨rfl,rfl⟩
    refine AWp.seq ?_
    refine AWp.block ?_
    obtain⟨o4088,e4089,H⟩:=Z3 H
    refine AWp.loop (LWp.conv (inv:=[]) (vk:=[]) (e0:=[]) (t:=⟨[(0,iV .i64 a0),(1,iV .i64 a1),(6,iV .i64 x4071)],[],0⟩) (by kernel_rfl) ?_)
    refine LWp.mono (Q:=fun e s=>(match (generalizing:=false) o4088 with | x4083=>e = .exit 2∧s=⟨[(6,iV .i64 x4083)],[],0⟩)) (LWp.cv (Zn (fun body hbody => ?_))) ?_
    ·refine      Z27.l1.partial_correctness a0 a1 (motive:=fun x4077 o4088=>LWp Γ body (fun e s=>∃ t,Cv Γ s t∧(match (generalizing:=false) o4088 with | x4083=>e = .exit 2∧t=⟨[(6,iV .i64 x4083)],[],0⟩)) ⟨[(0,iV .i64 a0),(1,iV .i64 a1),(6,iV .i64 x4077)],[],0⟩) ?_ _ _ e4089
     clear H e4089 o4088;intro self ih x4077 o4088 H
     subst hbody
     refine LWp.round ?_
     refine AWp.seq ?_
     obtain⟨t4080,e4081,H⟩:=Z3 H
     refine sR hP hn hm [(3,.call [] [] [] [] 0 (iV .i64 t4080) [])] [(34,bV (decide (t4080≥a1)))] [0,1,6,34] [] [] [_,_] ⟨Tryz.call47,Z00.ok a0 (i64.wrap (x4077-(1:Int))) t4080 e4081,trivial⟩ ?_
     refine AWp.cond (decide (t4080≥a1)) (by kernel_rfl) (fun c4082 => ?_) (fun c4082 => ?_)
     ·replace H:=iT c4082 H
      refine AWp.skip ?_
      refine AWp.block ?_
      refine rO hP hn hm [] [(6,iV .i64 (i64.wrap (x4077-(1:Int))))] [0,1,6] [] [] ?_
      exact LWp.conv [] [] [] (by kernel_rfl) (ih _ _ H)
     ·replace H:=iF c4082 H
      refine AWp.exit ?_
      obtain rfl:=sj H
      exact lf [] [] [] (by kernel_rfl) ⟨rfl,rfl⟩
    ·obtain⟨x4083,rfl⟩:∃ z,z=o4088:=⟨_,rfl⟩
     rintro e s ⟨rfl,rfl⟩
     refine sO hP hn hm [] [(4,iV .i64 x4083),(5,bV true)] [4,5] [] [] ?_
     refine AWp.conv (inv:=[]) (vk:=[]) (e0:=[]) (t:=⟨[(4,iV .i64 x4083),(5,bV true)],[],0⟩) (by kernel_rfl) ?_
     refine AWp.ret ?_
     obtain rfl:=sj H
     exact rl (.inl rfl) rfl (by kernel_rfl) (by kernel_rfl)
def Z5b.f (a0:Int) (a1:Int) (a2:Int):Option (Int×Int):=(((Z06.f a0)>>=fun t4029=>if(!t4029)=true then(some true) else((Z06.f a1)>>=fun t4032=>if(!t4032)=true then(some true) else(some (decide (a1>a0))))):Option (Bool))>>=fun x4035=>if x4035=true then(some (0,20)) else((Z4b.f a0 a2)>>=fun t4039=>if(!t4039)=true then(some (0,4)) else((Z00.f a0 a2)>>=fun t4092=>(Z27.f a1 t4092)>>=fun t4094=>some (t4094.1,0)))
theorem Z5b.ok (a0:Int) (a1:Int) (a2:Int) (r:Int×Int) (H:Z5b.f a0 a1 a2=some r):Pv.Fn Tryz.prog 113 [iV .i64 a0,iV .i64 a1,iV .i64 a2] [] 0 (fun x o=>x = .tup [iV .i64 r.1,iV .i64 r.2]∧o=[]):=by
 unfold Z5b.f at H
 refine Fn.bodyK [] Tryz.func113 rfl rfl (fun Γ hP hn => ?_)
 have hm:Tryz.prog.follows .mixedOrders=true:=by kernel_rfl
 replace hn:Γ.n=36:=hn
 refine sO hP hn hm [] [] [0,1,2] [] [] ?_
 refine AWp.seq ?_
 refine AWp.seq ?_
 obtain⟨o4096,e4097,H⟩:=Z3 H
 refine AWp.mono (Q:=fun e s=>(match (generalizing:=false) o4096 with | x4035=>e = .normal∧s=⟨[(0,iV .i64 a0),(1,iV .i64 a1),(2,iV .i64 a2),(22,bV x4035)],[],0⟩)) (AWp.cv ?_) ?_
 ·replace H:=e4097;clear e4097
  obtain⟨t4029,e4030,H⟩:=Z3 H
  rcases Bool.eq_false_or_eq_true (!t4029) with c4031 | c4031
  ·replace H:=iT c4031 H
   refine rG hP hn hm [(1,.call [] [] [] [] 0 (bV t4029) []),(3,.b true)] [(22,bV true)] [0,1,2,22] [] [] [_,_,_] ⟨Tryz.call45,Z06.ok a0 t4029 e4030,c4031,trivial⟩ ?_
   obtain rfl:=sj H
   exact lf [] [] [] (by kernel_rfl) ⟨rfl,rfl⟩
  ·replace H:=iF c4031 H
   obtain⟨t4032,e4033,H⟩:=Z3 H
   rcases Bool.eq_false_or_eq_true (!t4032) with c4034 | c4034
   ·replace H:=iT c4034 H
    refine rG hP hn hm [(1,.call [] [] [] [] 0 (bV t4029) []),(3,.b false),(5,.call [] [] [] [] 0 (bV t4032) []),(8,.b true)] [(22,bV true)] [0,1,2,22] [] [] [_,_,_,_,_,_] ⟨Tryz.call45,Z06.ok a0 t4029 e4030,c4031,Tryz.call45,Z06.ok a1 t4032 e4033,c4034,trivial⟩ ?_
    obtain rfl:=sj H
    exact lf [] [] [] (by kernel_rfl) ⟨rfl,rfl⟩
   ·replace H:=iF c4034 H
    refine rG hP hn hm [(1,.call [] [] [] [] 0 (bV t4029) []),(3,.b false),(5,.call [] [] [] [] 0 (bV t4032) []),(8,.b false)] [(22,bV (decide (a1>a0)))] [0,1,2,22] [] [] [_,_,_,_,_,_] ⟨Tryz.call45,Z06.ok a0 t4029 e4030,c4031,Tryz.call45,Z06.ok a1 t4032 e4033,c4034,trivial⟩ ?_
    obtain rfl:=sj H
    exact lf [] [] [] (by kernel_rfl) ⟨rfl,rfl⟩
 ·obtain⟨x4035,rfl⟩:∃ z,z=o4096:=⟨_,rfl⟩
  rintro e s ⟨rfl,rfl⟩
  refine AWp.cond x4035 (by kernel_rfl) (fun c4036 => ?_) (fun c4036 => ?_)
  ·replace H:=iT c4036 H
   refine sO hP hn hm [] [(6,iV .i64 0),(7,iV .i64 20)] [6,7] [] [] ?_
   refine AWp.conv (inv:=[]) (vk:=[]) (e0:=[]) (t:=⟨[(6,iV .i64 0),(7,iV .i64 20)],[],0⟩) (by kernel_rfl) ?_
   refine AWp.ret ?_
   obtain rfl:=sj H
   exact rl (.inl rfl) rfl (by kernel_rfl) (by kernel_rfl)
  ·replace H:=iF c4036 H
   refine AWp.skip ?_
   refine AWp.seq ?_
   obtain⟨t4039,e4040,H⟩:=Z3 H
   refine sR hP hn hm [(2,.call [] [] [] [] 0 (bV t4039) [])] [(26,bV (!t4039))] [0,1,2,26] [] [] [_,_] ⟨Tryz.call46,Z4b.ok a0 a2 t4039 e4040,trivial⟩ ?_
   refine AWp.cond (!t4039) (by kernel_rfl) (fun c4041 => ?_) (fun c4041 => ?_)
   ·replace H:=iT c4041 H
    refine sO hP hn hm [] [(6,iV .i64 0),(7,iV .i64 4)] [6,7] [] [] ?_
    refine AWp.conv (inv:=[]) (vk:=[]) (e0:=[]) (t:=⟨[(6,iV .i64 0),(7,iV .i64 4)],[],0⟩) (by kernel_rfl) ?_
    refine AWp.ret ?_
    obtain rfl:=sj H
    exact rl (.inl rfl) rfl (by kernel_rfl) (by kernel_rfl)
   ·replace H:=iF c4041 H
    refine AWp.skip ?_
    obtain⟨t4092,e4093,H⟩:=Z3 H
    obtain⟨t4094,e4095,H⟩:=Z3 H
    refine sR hP hn hm [(3,.call [] [] [] [] 0 (iV .i64 t4092) []),(4,.call [] [] [] [] 0 (.tup [iV .i64 t4094.1,bV t4094.2]) [])] [(8,iV .i64 t4094.1)] [8] [] [] [_,_,_,_] ⟨Tryz.call47,Z00.ok a0 a2 t4092 e4093,Tryz.call120,Z27.ok a1 t4092 t4094 e4095,trivial⟩ ?_
    refine sO hP hn hm [] [(6,iV .i64 t4094.1),(7,iV .i64 0)] [6,7] [] [] ?_
    refine AWp.conv (inv:=[]) (vk:=[]) (e0:=[]) (t:=⟨[(6,iV .i64 t4094.1),(7,iV .i64 0)],[],0⟩) (by kernel_rfl) ?_
    refine AWp.ret ?_
    obtain rfl:=sj H
    exact rl (.inl rfl) rfl (by kernel_rfl) (by kernel_rfl)
def Z0z.l0 (a0:List Z2) (a1:Int) (x4168:List Int) (x4169:Int):Option (List Int):=if(decide (x4169<(a0.length:Int)))=true then((at? a0 x4169)>>=fun b4174=>((if(b4174.f0==a1)=true then((chk ((x4168.length+[b4174.f1].length)*8≤140737488355328))>>=fun _=>some (x4168++[b4174.f1])) else(some x4168)):Option (List Int))>>=fun x4180=>Z0z.l0 a0 a1 x4180 (i64.wrap (x4169+(1:Int)))) else(some x4168)
partial_fixpoint
def Z0z.f (a0:List Z2) (a1:Int):Option (Int×Int):=(Z0z.l0 a0 a1 [] 0)>>=fun x4181=>(Z2f.f x4181)>>=fun t4184=>some (t4184.1,t4184.2)
theorem Z0z.ok (a0:List Z2) (a1:Int) (r:Int×Int) (H:Z0z.f a0 a1=some r):Pv.Fn Tryz.prog 91 [.im (.row (a0.map Z0)),iV .i64 a1] [] 0 (fun x o=>x = .tup [iV .u64 r.1,iV .i64 r.2]∧o=[]):=by
 unfold Z0z.f at H
 refine Fn.bodyK [] Tryz.func91 rfl rfl (fun Γ hP hn => ?_)
 have hm:Tryz.prog.follows .mixedOrders=true:=by kernel_rfl
 replace hn:Γ.n=33:=hn
 refine sO hP hn hm [] [] [0,1] [] [] ?_
 refine sO hP hn hm [] [(6,.none0)] [0,1,6] [] [] ?_
 refine AWp.seq ?_
 refine sO hP hn hm [] [(7,iV .i64 0)] [0,1,6,7] [] [] ?_
 refine AWp.block ?_
 obtain⟨o4186,e4187,H⟩:=Z3 H
 refine AWp.loop (LWp.conv (inv:=[]) (vk:=[]) (e0:=[3]) (t:=⟨[(0,.im (.row (a0.map Z0))),(1,iV .i64 a1),(6,.own 3),(7,iV .i64 0)],[(3,some (.row 1 36 ([].map (Z1 .u64))))],0⟩) (by kernel_rfl) ?_)
 refine LWp.mono (Q:=fun e s=>(match (generalizing:=false) o4186 with | x4181=>e = .exit 0∧s=⟨[(6,.own 7)],[(7,some (.row 1 36 (x4181.map (Z1 .u64))))],0⟩)) (LWp.cv (Zn (fun body hbody => ?_))) ?_
 ·refine            Z0z.l0.partial_correctness a0 a1 (motive:=fun x4168 x4169 o4186=>LWp Γ body (fun e s=>∃ t,Cv Γ s t∧(match (generalizing:=false) o4186 with | x4181=>e = .exit 0∧t=⟨[(6,.own 7)],[(7,some (.row 1 36 (x4181.map (Z1     .u64))))],0⟩)) ⟨[(0,.im (.row (a0.map Z0     ))),(1,iV .i64 a1),(6,.own 3),(7,iV .i64 x4169)],[(3,some (.row 1 36 (x4168.map (Z1     .u64))))],0⟩) ?_ _ _ _ e4187
  clear H e4187 o4186;intro self ih x4168 x4169 o4186 H
  subst hbody
  refine LWp.round ?_
  refine AWp.seq ?_
  refine sR hP hn hm [(2,.any (iV .i64 (a0.length:Int)))] [(11,bV (decide (x4169<(a0.length:Int))))] [0,1,6,7,11] [] [3] [((a0.map Z0).length:Int)=(a0.length:Int)] ⟨by rw[Zi],trivial⟩ ?_
  refine AWp.cond (decide (x4169<(a0.length:Int))) (by kernel_rfl) (fun c4170 => ?_) (fun c4170 => ?_)
  ·replace H:=iT c4170 H
   refine AWp.skip ?_
   refine AWp.seq ?_
   refine AWp.block ?_
   obtain⟨b4174,p4175,q4176,H⟩:=Z03 H
   refine sR hP hn hm [(2,.c (Z0 b4174))] [(20,bV (b4174.f0==a1))] [0,1,6,7,20] [] [3] [_,_] ⟨p4175,Zf Z0 q4176,trivial⟩ ?_
   obtain⟨o4188,e4189,H⟩:=Z3 H
   refine AWp.mono (Q:=fun e s=>(match (generalizing:=false) o4188 with | x4180=>e = .normal∧s=⟨[(0,.im (.row (a0.map Z0))),(1,iV .i64 a1),(6,.own 6),(7,iV .i64 x4169)],[(6,some (.row 1 36 (x4180.map (Z1 .u64))))],0⟩)) (AWp.cv ?_) ?_
   ·replace H:=e4189;clear e4189
    refine AWp.cond (b4174.f0==a1) (by kernel_rfl) (fun c4177 => ?_) (fun c4177 => ?_)
    ·replace H:=iT c4177 H
     obtain⟨c4179,H⟩:=Z0q H
     refine rG hP hn hm [(3,.c (Z0 b4174)),(6,.app 4 ([b4174.f1].map (Z1 .u64))),(7,.app 5 ((x4168++[b4174.f1]).map (Z1 .u64)))] [(6,.own 5)] [0,1,6,7] [(5,some (.row 1 36 ((x4168++[b4174.f1]).map (Z1 .u64))))] [5] [_,_,[b4174.f1].map (Z1 .u64)=[[iI .u64 b4174.f1]],(x4168++[b4174.f1]).map (Z1 .u64)=(x4168.map (Z1 .u64))++([b4174.f1].map (Z1 .u64)),∀ c∈([b4174.f1].map (Z1 .u64)),c.length=1,∀ c∈([b4174.f1].map (Z1 .u64)),Z0m (c.map .im)=true,((x4168.map (Z1 .u64)).length+([b4174.f1].map (Z1 .u64)).length)*8≤140737488355328] ⟨p4175,Zf Z0 q4176,by exact rfl,by simp,by exact Z0k _ _ _ (fun _=>rfl),by exact Z0j _ _ (fun _=>rfl),by simpa using c4179,trivial⟩ ?_
     obtain rfl:=sj H
     exact lf [(5,6)] [] [] (by kernel_rfl) ⟨rfl,rfl⟩
    ·replace H:=iF c4177 H
     refine AWp.skip ?_
     obtain rfl:=sj H
     exact lf [(3,6)] [] [] (by kernel_rfl) ⟨rfl,rfl⟩
   ·obtain⟨x4180,rfl⟩:∃ z,z=o4188:=⟨_,rfl⟩
    rintro e s ⟨rfl,rfl⟩
    refine rO hP hn hm [] [(7,iV .i64 (i64.wrap (x4169+(1:Int))))] [0,1,6,7] [] [6] ?_
    exact LWp.conv [(6,3)] [] [] (by kernel_rfl) (ih _ _ _ H)
  ·replace H:=iF c4170 H
   refine AWp.exit ?_
   obtain rfl:=sj H
   exact lf [(3,7)] [] [] (by kernel_rfl) ⟨rfl,rfl⟩
 ·obtain⟨x4181,rfl⟩:∃ z,z=o4186:=⟨_,rfl⟩
  rintro e s ⟨rfl,rfl⟩
  obtain⟨t4184,e4185,H⟩:=Z3 H
  refine sR hP hn hm [(1,.call [] [] [7] [] 0 (.tup [iV .u64 t4184.1,iV .i64 t4184.2]) [])] [(4,iV .u64 t4184.1),(5,iV .i64 t4184.2)] [4,5] [] [] [_,_] ⟨Tryz.call48,Z2f.ok x4181 t4184 e4185,trivial⟩ ?_
  refine AWp.conv (inv:=[]) (vk:=[]) (e0:=[]) (t:=⟨[(4,iV .u64 t4184.1),(5,iV .i64 t4184.2)],[],0⟩) (by kernel_rfl) ?_
  refine AWp.ret ?_
  obtain rfl:=sj H
  exact rl (.inl rfl) rfl (by kernel_rfl) (by kernel_rfl)
def Z0w.l1 (a0:List Z2) (x4199:List Z2) (x4200:Bool) (x4201:Int) (x4223:Bool) (x4224:Int) (x4225:Int):Option (Bool×Int):=if(decide (x4225<(a0.length:Int)))=true then(((if(!x4200)=true then(if(!x4223)=true then(some true) else((at? a0 x4225)>>=fun b4239=>some (decide (b4239.f0<x4224)))) else((at? a0 x4225)>>=fun b4242=>if(decide (b4242.f0>x4201))=true then(if(!x4223)=true then(some true) else(some (decide (b4242.f0<x4224)))) else(some false))):Option (Bool))>>=fun x4247=>((if x4247=true then((at? a0 x4225)>>=fun b4252=>some (true,b4252.f0)) else(some (x4223,x4224))):Option (Bool×Int))>>=fun oo=>match oo with | (x4255,x4256)=>(Z0w.l1 a0 x4199 x4200 x4201 x4255 x4256 (i64.wrap (x4225+(1:Int))))) else(some (x4223,x4224))
partial_fixpoint
def Z0w.l0 (a0:List Z2) (x4199:List Z2) (x4200:Bool) (x4201:Int):Option ((List Z2)×Int):=(Z0w.l1 a0 x4199 x4200 x4201 false 0 0)>>=fun oo=>match oo with | (x4257,x4258)=>(if(!x4257)=true then(some (x4199,0)) else((Z0z.f a0 x4258)>>=fun t4262=>if(t4262.2 != (0:Int))=true then(some ([],5)) else(((if(decide (t4262.1>(0:Int)))=true then((chk ((x4199.length+[(⟨x4258,t4262.1⟩:Z2)].length)*16≤140737488355328))>>=fun _=>some (x4199++[(⟨x4258,t4262.1⟩:Z2)])) else(some x4199)):Option (List Z2))>>=fun x4268=>Z0w.l0 a0 x4268 true x4258)))
partial_fixpoint
def Z0w.f (a0:List Z2):Option ((List Z2)×Int):=(Z0w.l0 a0 [] false 0)>>=fun rr=>some rr
theorem Z0w.ok (a0:List Z2) (r:(List Z2)×Int) (H:Z0w.f a0=some r):Pv.Fn Tryz.prog 75 [.im (.row (a0.map Z0))] [] 0 (fun x o=>x = .tup [.own 0,iV .i64 r.2]∧o=[(0,some (.row 2 87 (r.1.map Z0)))]):=by
 unfold Z0w.f at H
 refine Fn.bodyK [0] Tryz.func75 rfl rfl (fun Γ hP hn => ?_)
 have hm:Tryz.prog.follows .mixedOrders=true:=by kernel_rfl
 replace hn:Γ.n=67:=hn
 refine sO hP hn hm [] [] [0] [] [] ?_
 refine sO hP hn hm [] [(4,.none0)] [0,4] [] [] ?_
 refine sO hP hn hm [] [(5,bV false)] [0,4,5] [] [] ?_
 refine sO hP hn hm [] [(6,iV .i64 0)] [0,4,5,6] [] [] ?_
 refine AWp.block ?_
 obtain⟨o4269,e4270,H⟩:=Z3 H
 refine AWp.loop (LWp.conv (inv:=[]) (vk:=[]) (e0:=[3]) (t:=⟨[(0,.im (.row (a0.map Z0))),(4,.own 3),(5,bV false),(6,iV .i64 0)],[(3,some (.row 2 87 ([].map Z0)))],0⟩) (by kernel_rfl) ?_)
 refine LWp.mono (Q:=fun e s=>(match (generalizing:=false) o4269 with | rr=>e = .ret∧s.floor=0∧Z1x Tryz.prog Tryz.f75 s=some (.tup [.own 0,iV .i64 rr.2])∧([(0,s.obj 0)]:List (Nat×Option MObj))=[(0,some (.row 2 87 (rr.1.map Z0)))])) (LWp.cv (Zn (fun body hbody => ?_))) ?_
 ·refine        Z0w.l0.partial_correctness a0 (motive:=fun x4199 x4200 x4201 o4269=>LWp Γ body (fun e s=>∃ t,Cv Γ s t∧(match (generalizing:=false) o4269 with | rr=>e = .ret∧t.floor=0∧Z1x   Tryz.prog Tryz.f75 t=some (.tup [.own 0,iV .i64 rr.2])∧([(0,t.obj 0)]:List (Nat×Option MObj))=[(0,some (.row 2 87 (rr.1.map Z0     )))])) ⟨[(0,.im (.row (a0.map Z0     ))),(4,.own 3),(5,bV x4200),(6,iV .i64 x4201)],[(3,some (.row 2 87 (x4199.map Z0     )))],0⟩) ?_ _ _ _ _ e4270
  clear H e4270 o4269;intro self ih x4199 x4200 x4201 o4269 H
  subst hbody
  refine LWp.round ?_
  refine AWp.block ?_
  refine sO hP hn hm [] [(7,bV false)] [0,4,5,6,7] [] [3] ?_
  refine sO hP hn hm [] [(8,iV .i64 0)] [0,4,5,6,7,8] [] [3] ?_
  refine AWp.seq ?_
  refine sO hP hn hm [] [(9,iV .i64 0)] [0,4,5,6,7,8,9] [] [3] ?_
  refine AWp.block ?_
  obtain⟨o4271,e4272,H⟩:=Z3 H
  refine AWp.loop (LWp.conv (inv:=[(3,6)]) (vk:=[]) (e0:=[]) (t:=⟨[(0,.im (.row (a0.map Z0))),(4,.own 6),(5,bV x4200),(6,iV .i64 x4201),(7,bV false),(8,iV .i64 0),(9,iV .i64 0)],[(6,some (.row 2 87 (x4199.map Z0)))],0⟩) (by kernel_rfl) ?_)
  refine LWp.mono (Q:=fun e s=>(match (generalizing:=false) o4271 with | (x4257,x4258)=>e = .exit 2∧s=⟨[(0,.im (.row (a0.map Z0))),(4,.own 9),(7,bV x4257),(8,iV .i64 x4258)],[(9,some (.row 2 87 (x4199.map Z0)))],0⟩)) (LWp.cv (Zn (fun body hbody => ?_))) ?_
  ·refine        Z0w.l1.partial_correctness a0 x4199 x4200 x4201 (motive:=fun x4223 x4224 x4225 o4271=>LWp Γ body (fun e s=>∃ t,Cv Γ s t∧(match (generalizing:=false) o4271 with | (x4257,x4258)=>e = .exit 2∧t=⟨[(0,.im (.row (a0.map Z0     ))),(4,.own 9),(7,bV x4257),(8,iV .i64 x4258)],[(9,some (.row 2 87 (x4199.map Z0     )))],0⟩)) ⟨[(0,.im (.row (a0.map Z0     ))),(4,.own 6),(5,bV x4200),(6,iV .i64 x4201),(7,bV x4223),(8,iV .i64 x4224),(9,iV .i64 x4225)],[(6,some (.row 2 87 (x4199.map Z0     )))],0⟩) ?_ _ _ _ _ e4272
   clear H e4272 o4271;intro self ih x4223 x4224 x4225 o4271 H
   subst hbody
   refine LWp.round ?_
   refine AWp.seq ?_
   refine sR hP hn hm [(2,.any (iV .i64 (a0.length:Int)))] [(15,bV (decide (x4225<(a0.length:Int))))] [0,4,5,6,7,8,9,15] [] [6] [((a0.map Z0).length:Int)=(a0.length:Int)] ⟨by rw[Zi],trivial⟩ ?_
   refine AWp.cond (decide (x4225<(a0.length:Int))) (by kernel_rfl) (fun c4226 => ?_) (fun c4226 => ?_)
   ·replace H:=iT c4226 H
    refine AWp.skip ?_
    refine AWp.seq ?_
    refine AWp.block ?_
    refine AWp.seq ?_
    obtain⟨o4273,e4274,H⟩:=Z3 H
    refine AWp.mono (Q:=fun e s=>(match (generalizing:=false) o4273 with | x4247=>e = .normal∧s=⟨[(0,.im (.row (a0.map Z0))),(4,.own 7),(5,bV x4200),(6,iV .i64 x4201),(7,bV x4223),(8,iV .i64 x4224),(9,iV .i64 x4225),(41,bV x4247)],[(7,some (.row 2 87 (x4199.map Z0)))],0⟩)) (AWp.cv ?_) ?_
    ·replace H:=e4274;clear e4274
     rcases Bool.eq_false_or_eq_true (!x4200) with c4237 | c4237
     ·replace H:=iT c4237 H
      rcases Bool.eq_false_or_eq_true (!x4223) with c4238 | c4238
      ·replace H:=iT c4238 H
       refine rG hP hn hm [(2,.b true),(14,.b true)] [(30,bV x4223),(31,bV (!x4223)),(32,bV true),(40,bV true),(41,bV true)] [0,4,5,6,7,8,9,30,31,32,40,41] [] [6] [_,_] ⟨c4237,c4238,trivial⟩ ?_
       obtain rfl:=sj H
       exact lf [(6,7)] [] [] (by kernel_rfl) ⟨rfl,rfl⟩
      ·replace H:=iF c4238 H
       obtain⟨b4239,p4240,q4241,H⟩:=Z03 H
       refine rG hP hn hm [(2,.b true),(14,.b false),(17,.c (Z0 b4239))] [(30,bV x4223),(31,bV (!x4223)),(32,bV false),(33,.im (.row (a0.map Z0))),(34,iV .i64 x4225),(35,.ip [iI .i64 b4239.f0,iI .u64 b4239.f1]),(36,.ip [iI .i64 b4239.f0,iI .u64 b4239.f1]),(37,iV .i64 b4239.f0),(38,iV .i64 x4224),(39,bV (decide (b4239.f0<x4224))),(40,bV (decide (b4239.f0<x4224))),(41,bV (decide (b4239.f0<x4224)))] [0,4,5,6,7,8,9,30,31,32,33,34,35,36,37,38,39,40,41] [] [6] [_,_,_,_] ⟨c4237,c4238,p4240,Zf Z0 q4241,trivial⟩ ?_
       obtain rfl:=sj H
       exact lf [(6,7)] [] [] (by kernel_rfl) ⟨rfl,rfl⟩
     ·replace H:=iF c4237 H
      obtain⟨b4242,p4243,q4244,H⟩:=Z03 H
      rcases Bool.eq_false_or_eq_true (decide (b4242.f0>x4201)) with c4245 | c4245
      ·replace H:=iT c4245 H
       rcases Bool.eq_false_or_eq_true (!x4223) with c4246 | c4246
       ·replace H:=iT c4246 H
        refine rG hP hn hm [(2,.b false),(5,.c (Z0 b4242)),(11,.b true),(14,.b true)] [(21,.im (.row (a0.map Z0))),(22,iV .i64 x4225),(23,.ip [iI .i64 b4242.f0,iI .u64 b4242.f1]),(24,.ip [iI .i64 b4242.f0,iI .u64 b4242.f1]),(25,iV .i64 b4242.f0),(26,iV .i64 x4201),(27,bV (decide (b4242.f0>x4201))),(30,bV x4223),(31,bV (!x4223)),(32,bV true),(40,bV true),(41,bV true)] [0,4,5,6,7,8,9,21,22,23,24,25,26,27,30,31,32,40,41] [] [6] [_,_,_,_,_] ⟨c4237,p4243,Zf Z0 q4244,c4245,c4246,trivial⟩ ?_
        obtain rfl:=sj H
        exact lf [(6,7)] [] [] (by kernel_rfl) ⟨rfl,rfl⟩
       ·replace H:=iF c4246 H
        refine rG hP hn hm [(2,.b false),(5,.c (Z0 b4242)),(11,.b true),(14,.b false),(17,.c (Z0 b4242))] [(21,.im (.row (a0.map Z0))),(22,iV .i64 x4225),(23,.ip [iI .i64 b4242.f0,iI .u64 b4242.f1]),(24,.ip [iI .i64 b4242.f0,iI .u64 b4242.f1]),(25,iV .i64 b4242.f0),(26,iV .i64 x4201),(27,bV (decide (b4242.f0>x4201))),(30,bV x4223),(31,bV (!x4223)),(32,bV false),(33,.im (.row (a0.map Z0))),(34,iV .i64 x4225),(35,.ip [iI .i64 b4242.f0,iI .u64 b4242.f1]),(36,.ip [iI .i64 b4242.f0,iI .u64 b4242.f1]),(37,iV .i64 b4242.f0),(38,iV .i64 x4224),(39,bV (decide (b4242.f0<x4224))),(40,bV (decide (b4242.f0<x4224))),(41,bV (decide (b4242.f0<x4224)))] [0,4,5,6,7,8,9,21,22,23,24,25,26,27,30,31,32,33,34,35,36,37,38,39,40,41] [] [6] [_,_,_,_,_,_,_] ⟨c4237,p4243,Zf Z0 q4244,c4245,c4246,p4243,Zf Z0 q4244,trivial⟩ ?_
        obtain rfl:=sj H
        exact lf [(6,7)] [] [] (by kernel_rfl) ⟨rfl,rfl⟩
      ·replace H:=iF c4245 H
       refine rG hP hn hm [(2,.b false),(5,.c (Z0 b4242)),(11,.b false)] [(21,.im (.row (a0.map Z0))),(22,iV .i64 x4225),(23,.ip [iI .i64 b4242.f0,iI .u64 b4242.f1]),(24,.ip [iI .i64 b4242.f0,iI .u64 b4242.f1]),(25,iV .i64 b4242.f0),(26,iV .i64 x4201),(27,bV (decide (b4242.f0>x4201))),(41,bV false)] [0,4,5,6,7,8,9,21,22,23,24,25,26,27,41] [] [6] [_,_,_,_] ⟨c4237,p4243,Zf Z0 q4244,c4245,trivial⟩ ?_
       obtain rfl:=sj H
       exact lf [(6,7)] [] [] (by kernel_rfl) ⟨rfl,rfl⟩
    ·obtain⟨x4247,rfl⟩:∃ z,z=o4273:=⟨_,rfl⟩
     rintro e s ⟨rfl,rfl⟩
     obtain⟨o4275,e4276,H⟩:=Z3 H
     refine AWp.mono (Q:=fun e s=>(match (generalizing:=false) o4275 with | (x4255,x4256)=>e = .normal∧s=⟨[(0,.im (.row (a0.map Z0))),(4,.own 8),(5,bV x4200),(6,iV .i64 x4201),(7,bV x4255),(8,iV .i64 x4256),(9,iV .i64 x4225)],[(8,some (.row 2 87 (x4199.map Z0)))],0⟩)) (AWp.cv ?_) ?_
     ·replace H:=e4276;clear e4276
      refine AWp.cond x4247 (by kernel_rfl) (fun c4248 => ?_) (fun c4248 => ?_)
      ·replace H:=iT c4248 H
       obtain⟨b4252,p4253,q4254,H⟩:=Z03 H
       refine sR hP hn hm [(2,.c (Z0 b4252))] [(8,iV .i64 b4252.f0)] [0,4,5,6,8,9] [] [7] [_,_] ⟨p4253,Zf Z0 q4254,trivial⟩ ?_
       refine rO hP hn hm [] [(7,bV true)] [0,4,5,6,7,8,9] [] [7] ?_
       obtain rfl:=sj H
       exact lf [(7,8)] [] [] (by kernel_rfl) ⟨rfl,rfl⟩
      ·replace H:=iF c4248 H
       refine AWp.skip ?_
       obtain rfl:=sj H
       exact lf [(7,8)] [] [] (by kernel_rfl) ⟨rfl,rfl⟩
     ·obtain⟨x4255,x4256⟩:=o4275
      rintro e s ⟨rfl,rfl⟩
      refine rO hP hn hm [] [(9,iV .i64 (i64.wrap (x4225+(1:Int))))] [0,4,5,6,7,8,9] [] [8] ?_
      exact LWp.conv [(8,6)] [] [] (by kernel_rfl) (ih _ _ _ _ H)
   ·replace H:=iF c4226 H
    refine AWp.exit ?_
    obtain rfl:=sj H
    exact lf [(6,9)] [] [] (by kernel_rfl) ⟨rfl,rfl⟩
  ·obtain⟨x4257,x4258⟩:=o4271
   rintro e s ⟨rfl,rfl⟩
   refine AWp.seq ?_
   refine sO hP hn hm [] [(48,bV (!x4257))] [0,4,8,48] [] [9] ?_
   refine AWp.cond (!x4257) (by kernel_rfl) (fun c4259 => ?_) (fun c4259 => ?_)
   ·replace H:=iT c4259 H
    refine sO hP hn hm [] [(2,.own 9),(3,iV .i64 0)] [2,3] [] [9] ?_
    refine AWp.conv (inv:=[(9,0)]) (vk:=[]) (e0:=[]) (t:=⟨[(2,.own 0),(3,iV .i64 0)],[(0,some (.row 2 87 (x4199.map Z0)))],0⟩) (by kernel_rfl) ?_
    refine AWp.ret ?_
    obtain rfl:=sj H
    exact rl rfl rfl (by kernel_rfl) (by kernel_rfl)
   ·replace H:=iF c4259 H
    refine AWp.skip ?_
    obtain⟨t4262,e4263,H⟩:=Z3 H
    refine sR hP hn hm [(2,.call [] [] [] [] 0 (.tup [iV .u64 t4262.1,iV .i64 t4262.2]) [])] [(10,iV .u64 t4262.1),(11,iV .i64 t4262.2)] [0,4,8,10,11] [] [9] [_,_] ⟨Tryz.call91,Z0z.ok a0 x4258 t4262 e4263,trivial⟩ ?_
    refine AWp.seq ?_
    refine sO hP hn hm [] [(57,bV (t4262.2 != (0:Int)))] [0,4,8,10,57] [] [9] ?_
    refine AWp.cond (t4262.2 != (0:Int)) (by kernel_rfl) (fun c4264 => ?_) (fun c4264 => ?_)
    ·replace H:=iT c4264 H
     refine sO hP hn hm [] [(2,.none0),(3,iV .i64 5)] [2,3] [] [] ?_
     refine AWp.conv (inv:=[]) (vk:=[]) (e0:=[0]) (t:=⟨[(2,.own 0),(3,iV .i64 5)],[(0,some (.row 2 87 ([].map Z0)))],0⟩) (by kernel_rfl) ?_
     refine AWp.ret ?_
     obtain rfl:=sj H
     exact rl rfl rfl (by kernel_rfl) (by kernel_rfl)
    ·replace H:=iF c4264 H
     refine AWp.skip ?_
     refine AWp.seq ?_
     refine sO hP hn hm [] [(59,bV (decide (t4262.1>(0:Int))))] [0,4,8,10,59] [] [9] ?_
     obtain⟨o4277,e4278,H⟩:=Z3 H
     refine AWp.mono (Q:=fun e s=>(match (generalizing:=false) o4277 with | x4268=>e = .normal∧s=⟨[(0,.im (.row (a0.map Z0))),(4,.own 12),(8,iV .i64 x4258)],[(12,some (.row 2 87 (x4268.map Z0)))],0⟩)) (AWp.cv ?_) ?_
     ·replace H:=e4278;clear e4278
      refine AWp.cond (decide (t4262.1>(0:Int))) (by kernel_rfl) (fun c4265 => ?_) (fun c4265 => ?_)
      ·replace H:=iT c4265 H
       obtain⟨c4267,H⟩:=Z0q H
       refine rG hP hn hm [(4,.app 10 ([(⟨x4258,t4262.1⟩:Z2)].map Z0)),(5,.app 11 ((x4199++[(⟨x4258,t4262.1⟩:Z2)]).map Z0))] [(4,.own 11)] [0,4,8] [(11,some (.row 2 87 ((x4199++[(⟨x4258,t4262.1⟩:Z2)]).map Z0)))] [11] [[(⟨x4258,t4262.1⟩:Z2)].map Z0=[[iI .i64 x4258,iI .u64 t4262.1]],(x4199++[(⟨x4258,t4262.1⟩:Z2)]).map Z0=(x4199.map Z0)++([(⟨x4258,t4262.1⟩:Z2)].map Z0),∀ c∈([(⟨x4258,t4262.1⟩:Z2)].map Z0),c.length=2,∀ c∈([(⟨x4258,t4262.1⟩:Z2)].map Z0),Z0m (c.map .im)=true,((x4199.map Z0).length+([(⟨x4258,t4262.1⟩:Z2)].map Z0).length)*16≤140737488355328] ⟨by exact rfl,by simp,by exact Z0k _ _ _ (fun _=>rfl),by exact Z0j _ _ (fun _=>rfl),by simpa using c4267,trivial⟩ ?_
       obtain rfl:=sj H
       exact lf [(11,12)] [] [] (by kernel_rfl) ⟨rfl,rfl⟩
      ·replace H:=iF c4265 H
       refine AWp.skip ?_
       obtain rfl:=sj H
       exact lf [(9,12)] [] [] (by kernel_rfl) ⟨rfl,rfl⟩
     ·obtain⟨x4268,rfl⟩:∃ z,z=o4277:=⟨_,rfl⟩
      rintro e s ⟨rfl,rfl⟩
      refine sO hP hn hm [] [(6,iV .i64 x4258)] [0,4,6] [] [12] ?_
      refine rO hP hn hm [] [(5,bV true)] [0,4,5,6] [] [12] ?_
      exact LWp.conv [(12,3)] [] [] (by kernel_rfl) (ih _ _ _ _ H)
 ·obtain⟨rr,rfl⟩:∃ z,z=o4269:=⟨_,rfl⟩
  rintro e s ⟨rfl,hfl,hres⟩
  obtain rfl:=sj H
  exact Exists.intro _ (And.intro (fun _ _ h=>h) (And.intro (.inl rfl) (And.intro hfl hres)))
def Z16.l0 (a0:List Z2) (a1:Int) (a2:Int) (x4107:List Z2) (x4108:Int):Option (List Z2):=if(decide (x4108<(a0.length:Int)))=true then((at? a0 x4108)>>=fun b4115=>(Z5b.f a1 a2 b4115.f0)>>=fun t4118=>(chk ((x4107.length+[(⟨t4118.1,b4115.f1⟩:Z2)].length)*16≤140737488355328))>>=fun _=>Z16.l0 a0 a1 a2 (x4107++[(⟨t4118.1,b4115.f1⟩:Z2)]) (i64.wrap (x4108+(1:Int)))) else(some x4107)
partial_fixpoint
def Z16.f (a0:List Z2) (a1:Int) (a2:Int):Option (List Z2):=(Z16.l0 a0 a1 a2 [] 0)>>=fun x4122=>(Z0w.f x4122)>>=fun t4281=>some t4281.1
theorem Z16.ok (a0:List Z2) (a1:Int) (a2:Int) (r:List Z2) (H:Z16.f a0 a1 a2=some r):Pv.Fn Tryz.prog 107 [.im (.row (a0.map Z0)),iV .i64 a1,iV .i64 a2] [] 0 (fun x o=>x = .own 0∧o=[(0,some (.row 2 87 (r.map Z0)))]):=by
 unfold Z16.f at H
 refine Fn.bodyK [0] Tryz.func107 rfl rfl (fun Γ hP hn => ?_)
 have hm:Tryz.prog.follows .mixedOrders=true:=by kernel_rfl
 replace hn:Γ.n=46:=hn
 refine sO hP hn hm [] [] [0,1,2] [] [] ?_
 refine sO hP hn hm [] [(7,.none0)] [0,1,2,7] [] [] ?_
 refine AWp.seq ?_
 refine sO hP hn hm [] [(8,iV .i64 0)] [0,1,2,7,8] [] [] ?_
 refine AWp.block ?_
 obtain⟨o4283,e4284,H⟩:=Z3 H
 refine AWp.loop (LWp.conv (inv:=[]) (vk:=[]) (e0:=[2]) (t:=⟨[(0,.im (.row (a0.map Z0))),(1,iV .i64 a1),(2,iV .i64 a2),(7,.own 2),(8,iV .i64 0)],[(2,some (.row 2 87 ([].map Z0)))],0⟩) (by kernel_rfl) ?_)
 refine LWp.mono (Q:=fun e s=>(match (generalizing:=false) o4283 with | x4122=>e = .exit 0∧s=⟨[(7,.own 5)],[(5,some (.row 2 87 (x4122.map Z0)))],0⟩)) (LWp.cv (Zn (fun body hbody => ?_))) ?_
 ·refine          Z16.l0.partial_correctness a0 a1 a2 (motive:=fun x4107 x4108 o4283=>LWp Γ body (fun e s=>∃ t,Cv Γ s t∧(match (generalizing:=false) o4283 with | x4122=>e = .exit 0∧t=⟨[(7,.own 5)],[(5,some (.row 2 87 (x4122.map Z0     )))],0⟩)) ⟨[(0,.im (.row (a0.map Z0     ))),(1,iV .i64 a1),(2,iV .i64 a2),(7,.own 2),(8,iV .i64 x4108)],[(2,some (.row 2 87 (x4107.map Z0     )))],0⟩) ?_ _ _ _ e4284
  clear H e4284 o4283;intro self ih x4107 x4108 o4283 H
  subst hbody
  refine LWp.round ?_
  refine AWp.seq ?_
  refine sR hP hn hm [(2,.any (iV .i64 (a0.length:Int)))] [(16,bV (decide (x4108<(a0.length:Int))))] [0,1,2,7,8,16] [] [2] [((a0.map Z0).length:Int)=(a0.length:Int)] ⟨by rw[Zi],trivial⟩ ?_
  refine AWp.cond (decide (x4108<(a0.length:Int))) (by kernel_rfl) (fun c4109 => ?_) (fun c4109 => ?_)
  ·replace H:=iT c4109 H
   refine AWp.skip ?_
   refine AWp.seq ?_
   refine AWp.block ?_
   obtain⟨b4115,p4116,q4117,H⟩:=Z03 H
   obtain⟨t4118,e4119,H⟩:=Z3 H
   refine sR hP hn hm [(4,.c (Z0 b4115)),(7,.call [] [] [] [] 0 (.tup [iV .i64 t4118.1,iV .i64 t4118.2]) [])] [(9,iV .i64 t4118.1)] [0,1,2,7,8,9] [] [2] [_,_,_,_] ⟨p4116,Zf Z0 q4117,Tryz.call113,Z5b.ok a1 a2 b4115.f0 t4118 e4119,trivial⟩ ?_
   obtain⟨c4121,H⟩:=Z0q H
   refine rG hP hn hm [(4,.c (Z0 b4115)),(8,.app 3 ([(⟨t4118.1,b4115.f1⟩:Z2)].map Z0)),(9,.app 4 ((x4107++[(⟨t4118.1,b4115.f1⟩:Z2)]).map Z0))] [(7,.own 4)] [0,1,2,7,8] [(4,some (.row 2 87 ((x4107++[(⟨t4118.1,b4115.f1⟩:Z2)]).map Z0)))] [4] [_,_,[(⟨t4118.1,b4115.f1⟩:Z2)].map Z0=[[iI .i64 t4118.1,iI .u64 b4115.f1]],(x4107++[(⟨t4118.1,b4115.f1⟩:Z2)]).map Z0=(x4107.map Z0)++([(⟨t4118.1,b4115.f1⟩:Z2)].map Z0),∀ c∈([(⟨t4118.1,b4115.f1⟩:Z2)].map Z0),c.length=2,∀ c∈([(⟨t4118.1,b4115.f1⟩:Z2)].map Z0),Z0m (c.map .im)=true,((x4107.map Z0).length+([(⟨t4118.1,b4115.f1⟩:Z2)].map Z0).length)*16≤140737488355328] ⟨p4116,Zf Z0 q4117,by exact rfl,by simp,by exact Z0k _ _ _ (fun _=>rfl),by exact Z0j _ _ (fun _=>rfl),by simpa using c4121,trivial⟩ ?_
   refine rO hP hn hm [] [(8,iV .i64 (i64.wrap (x4108+(1:Int))))] [0,1,2,7,8] [] [4] ?_
   exact LWp.conv [(4,2)] [] [] (by kernel_rfl) (ih _ _ _ H)
  ·replace H:=iF c4109 H
   refine AWp.exit ?_
   obtain rfl:=sj H
   exact lf [(2,5)] [] [] (by kernel_rfl) ⟨rfl,rfl⟩
 ·obtain⟨x4122,rfl⟩:∃ z,z=o4283:=⟨_,rfl⟩
  rintro e s ⟨rfl,rfl⟩
  obtain⟨t4281,e4282,H⟩:=Z3 H
  refine sR hP hn hm [(1,.more (Z3q [] [(0,6)] [5] [6] 0 (.tup [.own 0,iV .i64 t4281.2]) [(0,some (.row 2 87 (t4281.1.map Z0)))]))] [(11,.own 6)] [11] [(6,some (.row 2 87 (t4281.1.map Z0)))] [6] [_,_,∀ c∈t4281.1.map Z0,∀ x∈c,∃ v,x=Im.sc v] ⟨Tryz.call75,Z0w.ok x4122 t4281 e4282,by exact Z3s _ _ (fun _=>by simp),trivial⟩ ?_
  refine sO hP hn hm [] [(6,.own 6)] [6] [] [6] ?_
  refine AWp.conv (inv:=[(6,0)]) (vk:=[]) (e0:=[]) (t:=⟨[(6,.own 0)],[(0,some (.row 2 87 (t4281.1.map Z0)))],0⟩) (by kernel_rfl) ?_
  refine AWp.ret ?_
  obtain rfl:=sj H
  exact rl (.inl rfl) rfl (by kernel_rfl) (by kernel_rfl)
def Z15.l0 (a0:Int) (a1:List Z2) (a2:Int) (x4322:Int):Option (Int ⊕ Unit):=if(decide (x4322<(a1.length:Int)))=true then((((at? a1 x4322)>>=fun b4332=>(Z00.f a0 (i64.wrap (b4332.f0-(1:Int))))>>=fun t4335=>if(decide (t4335<a2))=true then((Z00.f a0 b4332.f0)>>=fun t4338=>some (decide (t4338>a2))) else(some false)):Option (Bool))>>=fun x4340=>if x4340=true then((at? a1 x4322)>>=fun b4347=>(Z00.f a0 b4347.f0)>>=fun t4350=>some (.inl t4350)) else(Z15.l0 a0 a1 a2 (i64.wrap (x4322+(1:Int))))) else(some (.inr ()))
partial_fixpoint
def Z15.f (a0:Int) (a1:List Z2) (a2:Int):Option (Int):=(Z15.l0 a0 a1 a2 0)>>=fun oo=>match oo with | .inl rr=>(some rr) | .inr _=>(some a2)
theorem Z15.ok (a0:Int) (a1:List Z2) (a2:Int) (r:Int) (H:Z15.f a0 a1 a2=some r):Pv.Fn Tryz.prog 114 [iV .i64 a0,.im (.row (a1.map Z0)),iV .i64 a2] [] 0 (fun x o=>x=iV .i64 r∧o=[]):=by
 unfold Z15.f at H
 refine Fn.bodyK [] Tryz.func114 rfl rfl (fun Γ hP hn => ?_)
 have hm:Tryz.prog.follows .mixedOrders=true:=by kernel_rfl
 replace hn:Γ.n=43:=hn
 refine sO hP hn hm [] [] [0,1,2] [] [] ?_
 refine AWp.seq ?_
 refine sO hP hn hm [] [(7,iV .i64 0)] [0,1,2,7] [] [] ?_
 refine AWp.block ?_
 obtain⟨o4352,e4353,H⟩:=Z3 H
 refine AWp.loop (LWp.conv (inv:=[]) (vk:=[]) (e0:=[]) (t:=⟨[(0,iV .i64 a0),(1,.im (.row (a1.map Z0))),(2,iV .i64 a2),(7,iV .i64 0)],[],0⟩) (by kernel_rfl) ?_)
 refine LWp.mono (Q:=fun e s=>(match (generalizing:=false) o4352 with | .inl rr=>e = .ret∧s.floor=0∧Z1x Tryz.prog Tryz.f114 s=some (iV .i64 rr)∧([]:List (Nat×Option MObj))=[] | .inr _=>e = .exit 0∧s=⟨[(2,iV .i64 a2)],[],0⟩)) (LWp.cv (Zn (fun body hbody => ?_))) ?_
 ·refine          Z15.l0.partial_correctness a0 a1 a2 (motive:=fun x4322 o4352=>LWp Γ body (fun e s=>∃ t,Cv Γ s t∧(match (generalizing:=false) o4352 with | .inl rr=>e = .ret∧t.floor=0∧Z1x   Tryz.prog Tryz.f114 t=some (iV .i64 rr)∧([]:List (Nat×Option MObj))=[] | .inr _=>e = .exit 0∧t=⟨[(2,iV .i64 a2)],[],0⟩)) ⟨[(0,iV .i64 a0),(1,.im (.row (a1.map Z0     ))),(2,iV .i64 a2),(7,iV .i64 x4322)],[],0⟩) ?_ _ _ e4353
  clear H e4353 o4352;intro self ih x4322 o4352 H
  subst hbody
  refine LWp.round ?_
  refine AWp.seq ?_
  refine sR hP hn hm [(2,.any (iV .i64 (a1.length:Int)))] [(11,bV (decide (x4322<(a1.length:Int))))] [0,1,2,7,11] [] [] [((a1.map Z0).length:Int)=(a1.length:Int)] ⟨by rw[Zi],trivial⟩ ?_
  refine AWp.cond (decide (x4322<(a1.length:Int))) (by kernel_rfl) (fun c4323 => ?_) (fun c4323 => ?_)
  ·replace H:=iT c4323 H
   refine AWp.skip ?_
   refine AWp.seq ?_
   refine AWp.block ?_
   refine AWp.seq ?_
   obtain⟨o4354,e4355,H⟩:=Z3 H
   refine AWp.mono (Q:=fun e s=>(match (generalizing:=false) o4354 with | x4340=>e = .normal∧s=⟨[(0,iV .i64 a0),(1,.im (.row (a1.map Z0))),(2,iV .i64 a2),(7,iV .i64 x4322),(34,bV x4340)],[],0⟩)) (AWp.cv ?_) ?_
   ·replace H:=e4355;clear e4355
    obtain⟨b4332,p4333,q4334,H⟩:=Z03 H
    obtain⟨t4335,e4336,H⟩:=Z3 H
    rcases Bool.eq_false_or_eq_true (decide (t4335<a2)) with c4337 | c4337
    ·replace H:=iT c4337 H
     obtain⟨t4338,e4339,H⟩:=Z3 H
     refine rG hP hn hm [(3,.c (Z0 b4332)),(7,.call [] [] [] [] 0 (iV .i64 t4335) []),(10,.b true),(14,.c (Z0 b4332)),(17,.call [] [] [] [] 0 (iV .i64 t4338) [])] [(25,iV .i64 a0),(26,.im (.row (a1.map Z0))),(27,iV .i64 x4322),(28,.ip [iI .i64 b4332.f0,iI .u64 b4332.f1]),(29,.ip [iI .i64 b4332.f0,iI .u64 b4332.f1]),(30,iV .i64 b4332.f0),(31,iV .i64 t4338),(32,iV .i64 a2),(33,bV (decide (t4338>a2))),(34,bV (decide (t4338>a2)))] [0,1,2,7,25,26,27,28,29,30,31,32,33,34] [] [] [_,_,_,_,_,_,_,_,_] ⟨p4333,Zf Z0 q4334,Tryz.call47,Z00.ok a0 (i64.wrap (b4332.f0-(1:Int))) t4335 e4336,c4337,p4333,Zf Z0 q4334,Tryz.call47,Z00.ok a0 b4332.f0 t4338 e4339,trivial⟩ ?_
     obtain rfl:=sj H
     exact lf [] [] [] (by kernel_rfl) ⟨rfl,rfl⟩
    ·replace H:=iF c4337 H
     refine rG hP hn hm [(3,.c (Z0 b4332)),(7,.call [] [] [] [] 0 (iV .i64 t4335) []),(10,.b false)] [(34,bV false)] [0,1,2,7,34] [] [] [_,_,_,_,_] ⟨p4333,Zf Z0 q4334,Tryz.call47,Z00.ok a0 (i64.wrap (b4332.f0-(1:Int))) t4335 e4336,c4337,trivial⟩ ?_
     obtain rfl:=sj H
     exact lf [] [] [] (by kernel_rfl) ⟨rfl,rfl⟩
   ·obtain⟨x4340,rfl⟩:∃ z,z=o4354:=⟨_,rfl⟩
    rintro e s ⟨rfl,rfl⟩
    refine AWp.cond x4340 (by kernel_rfl) (fun c4341 => ?_) (fun c4341 => ?_)
    ·replace H:=iT c4341 H
     obtain⟨b4347,p4348,q4349,H⟩:=Z03 H
     obtain⟨t4350,e4351,H⟩:=Z3 H
     refine sR hP hn hm [(3,.c (Z0 b4347)),(6,.call [] [] [] [] 0 (iV .i64 t4350) [])] [(6,iV .i64 t4350)] [6] [] [] [_,_,_,_] ⟨p4348,Zf Z0 q4349,Tryz.call47,Z00.ok a0 b4347.f0 t4350 e4351,trivial⟩ ?_
     refine AWp.conv (inv:=[]) (vk:=[]) (e0:=[]) (t:=⟨[(6,iV .i64 t4350)],[],0⟩) (by kernel_rfl) ?_
     refine AWp.ret ?_
     obtain rfl:=sj H
     exact rl rfl rfl (by kernel_rfl) (by kernel_rfl)
    ·replace H:=iF c4341 H
     refine AWp.skip ?_
     refine rO hP hn hm [] [(7,iV .i64 (i64.wrap (x4322+(1:Int))))] [0,1,2,7] [] [] ?_
     exact LWp.conv [] [] [] (by kernel_rfl) (ih _ _ H)
  ·replace H:=iF c4323 H
   refine AWp.exit ?_
   obtain rfl:=sj H
   exact lf [] [] [] (by kernel_rfl) ⟨rfl,rfl⟩
 ·rcases o4352 with rr | _
  ·skip
   rintro e s ⟨rfl,hfl,hres⟩
   obtain rfl:=sj H
   exact Exists.intro _ (And.intro (fun _ _ h=>h) (And.intro (.inl rfl) (And.intro hfl hres)))
  ·skip
   rintro e s ⟨rfl,rfl⟩
   refine sO hP hn hm [] [(6,iV .i64 a2)] [6] [] [] ?_
   refine AWp.conv (inv:=[]) (vk:=[]) (e0:=[]) (t:=⟨[(6,iV .i64 a2)],[],0⟩) (by kernel_rfl) ?_
   refine AWp.ret ?_
   obtain rfl:=sj H
   exact rl (.inl rfl) rfl (by kernel_rfl) (by kernel_rfl)
def Z05.l0 (a0:Ze) (x4365:Int) (x4382:Int) (x4383:List Z2) (x4384:Int):Option (Int×(List Z2)):=if(decide (x4384<(a0.f6.length:Int)))=true then((at? a0.f6 x4384)>>=fun b4391=>(Z00.f a0.f1 b4391.f0)>>=fun t4394=>((if(decide (t4394≤x4365))=true then(some (u64.wrap (x4382+b4391.f1),x4383)) else((chk ((x4383.length+[b4391].length)*16≤140737488355328))>>=fun _=>some (x4382,x4383++[b4391]))):Option (Int×(List Z2)))>>=fun oo=>match oo with | (x4399,x4400)=>(Z05.l0 a0 x4365 x4399 x4400 (i64.wrap (x4384+(1:Int))))) else(some (x4382,x4383))
partial_fixpoint
def Z05.l1 (a0:Ze) (x4365:Int) (x4402:List Z2) (x4419:Int) (x4420:List Z2) (x4421:Int):Option (Int×(List Z2)):=if(decide (x4421<(a0.f7.length:Int)))=true then((at? a0.f7 x4421)>>=fun b4428=>(Z00.f a0.f1 b4428.f0)>>=fun t4431=>((if(decide (t4431≤x4365))=true then(some (u64.wrap (x4419+b4428.f1),x4420)) else((chk ((x4420.length+[b4428].length)*16≤140737488355328))>>=fun _=>some (x4419,x4420++[b4428]))):Option (Int×(List Z2)))>>=fun oo=>match oo with | (x4436,x4437)=>(Z05.l1 a0 x4365 x4402 x4436 x4437 (i64.wrap (x4421+(1:Int))))) else(some (x4419,x4420))
partial_fixpoint
def Z05.f (a0:Ze) (a1:Int):Option (Ze):=(Z15.f a0.f1 a0.f6 a1)>>=fun t4360=>(Z15.f a0.f1 a0.f7 a1)>>=fun t4362=>((if(decide (t4362>t4360))=true then(some t4362) else(some t4360)):Option (Int))>>=fun x4365=>(Z05.l0 a0 x4365 a0.f3 [] 0)>>=fun oo=>match oo with | (x4401,x4402)=>((Z05.l1 a0 x4365 x4402 x4401 [] 0)>>=fun oo=>match oo with | (x4438,x4439)=>(some (⟨a0.f0,a0.f1,x4365,x4438,a0.f4,a0.f5,x4402,x4439⟩:Ze)))
theorem Z05.ok (a0:Ze) (a1:Int) (r:Ze) (H:Z05.f a0 a1=some r):Pv.Fn Tryz.prog 108 [.agg (Zh a0),iV .i64 a1] [] 0 (fun x o=>x = .agg [iV .i64 ((r).f0),iV .i64 ((r).f1),iV .i64 ((r).f2),iV .u64 ((r).f3),iV .u64 ((r).f4),iV .i64 ((r).f5),.own 0,.own 1]∧o=[(0,some (.row 2 87 (((r).f6).map Z0))),(1,some (.row 2 87 (((r).f7).map Z0)))]):=by
 unfold Z05.f at H
 refine Fn.bodyK [0,1] Tryz.func108 rfl rfl (fun Γ hP hn => ?_)
 have hm:Tryz.prog.follows .mixedOrders=true:=by kernel_rfl
 replace hn:Γ.n=108:=hn
 refine sO hP hn hm [(0,.k 0),(1,.k 1)] [(2,.ptr 0 0 0),(4,.ptr 1 0 0)] [1,2,4] [(0,some (.box 39 (Zh a0))),(1,some (.box 39 [iV .i64 0,iV .i64 0,iV .i64 0,iV .u64 0,iV .u64 0,iV .i64 0,.none0,.none0]))] [0,1] ?_
 obtain⟨t4360,e4361,H⟩:=Z3 H
 obtain⟨t4362,e4363,H⟩:=Z3 H
 refine sR hP hn hm [(5,.call [] [] [] [] 0 (iV .i64 t4360) []),(11,.call [] [] [] [] 0 (iV .i64 t4362) [])] [(5,iV .i64 t4360),(6,iV .i64 t4362)] [2,4,5,6] [] [0,1] [_,_,_,_] ⟨Tryz.call114,Z15.ok a0.f1 a0.f6 a1 t4360 e4361,Tryz.call114,Z15.ok a0.f1 a0.f7 a1 t4362 e4363,trivial⟩ ?_
 refine AWp.seq ?_
 refine sO hP hn hm [] [(24,bV (decide (t4362>t4360)))] [2,4,5,6,24] [] [0,1] ?_
 obtain⟨o4440,e4441,H⟩:=Z3 H
 refine AWp.mono (Q:=fun e s=>(match (generalizing:=false) o4440 with | x4365=>e = .normal∧s=⟨[(2,.ptr 2 0 0),(4,.ptr 3 0 0),(5,iV .i64 x4365)],[(2,some (.box 39 (Zh a0))),(3,some (.box 39 [iV .i64 0,iV .i64 0,iV .i64 0,iV .u64 0,iV .u64 0,iV .i64 0,.none0,.none0]))],0⟩)) (AWp.cv ?_) ?_
 ·replace H:=e4441;clear e4441
  refine AWp.cond (decide (t4362>t4360)) (by kernel_rfl) (fun c4364 => ?_) (fun c4364 => ?_)
  ·replace H:=iT c4364 H
   refine rO hP hn hm [] [(5,iV .i64 t4362)] [2,4,5] [] [0,1] ?_
   obtain rfl:=sj H
   exact lf [(0,2),(1,3)] [] [] (by kernel_rfl) ⟨rfl,rfl⟩
  ·replace H:=iF c4364 H
   refine AWp.skip ?_
   obtain rfl:=sj H
   exact lf [(0,2),(1,3)] [] [] (by kernel_rfl) ⟨rfl,rfl⟩
 ·obtain⟨x4365,rfl⟩:∃ z,z=o4440:=⟨_,rfl⟩
  rintro e s ⟨rfl,rfl⟩
  refine sO hP hn hm [(1,.k 4)] [(7,.ptr 4 0 0)] [2,4,5,7] [(4,some (.box 39 (Zh a0)))] [2,3,4] ?_
  refine sO hP hn hm [] [] [2,4,5,7] [(4,some (.box 39 (Zh ⟨a0.f0,a0.f1,x4365,a0.f3,a0.f4,a0.f5,a0.f6,a0.f7⟩)))] [2,3,4] ?_
  refine sO hP hn hm [] [] [2,4,5,7] [(4,some (.box 39 [iV .i64 a0.f0,iV .i64 a0.f1,iV .i64 x4365,iV .u64 a0.f3,iV .u64 a0.f4,iV .i64 a0.f5,.none0,.im (.row (a0.f7.map Z0))]))] [2,3,4] ?_
  refine sO hP hn hm [] [] [2,4,5,7] [(4,some (.box 39 [iV .i64 a0.f0,iV .i64 a0.f1,iV .i64 x4365,iV .u64 a0.f3,iV .u64 a0.f4,iV .i64 a0.f5,.none0,.none0]))] [2,3,4] ?_
  refine AWp.seq ?_
  refine sO hP hn hm [] [(8,iV .i64 0)] [2,4,5,7,8] [] [2,3,4] ?_
  refine AWp.block ?_
  obtain⟨o4442,e4443,H⟩:=Z3 H
  refine AWp.loop (LWp.conv (inv:=[(2,11),(3,12),(4,13)]) (vk:=[]) (e0:=[14]) (t:=⟨[(2,.ptr 11 0 0),(4,.ptr 12 0 0),(5,iV .i64 x4365),(7,.ptr 13 0 0),(8,iV .i64 0)],[(11,some (.box 39 (Zh a0))),(12,some (.box 39 [iV .i64 0,iV .i64 0,iV .i64 0,iV .u64 0,iV .u64 0,iV .i64 0,.none0,.none0])),(13,some (.box 39 [iV .i64 a0.f0,iV .i64 a0.f1,iV .i64 x4365,iV .u64 a0.f3,iV .u64 a0.f4,iV .i64 a0.f5,.own 14,.none0])),(14,some (.row 2 87 ([].map Z0)))],0⟩) (by kernel_rfl) ?_)
  refine LWp.mono (Q:=fun e s=>(match (generalizing:=false) o4442 with | (x4401,x4402)=>e = .exit 0∧s=⟨[(2,.ptr 21 0 0),(4,.ptr 22 0 0),(5,iV .i64 x4365),(7,.ptr 23 0 0)],[(21,some (.box 39 (Zh a0))),(22,some (.box 39 [iV .i64 0,iV .i64 0,iV .i64 0,iV .u64 0,iV .u64 0,iV .i64 0,.none0,.none0])),(23,some (.box 39 [iV .i64 a0.f0,iV .i64 a0.f1,iV .i64 x4365,iV .u64 x4401,iV .u64 a0.f4,iV .i64 a0.f5,.own 24,.none0])),(24,some (.row 2 87 (x4402.map Z0)))],0⟩)) (LWp.cv (Zn (fun body hbody => ?_))) ?_
  ·refine           Z05.l0.partial_correctness a0 x4365 (motive:=fun x4382 x4383 x4384 o4442=>LWp Γ body (fun e s=>∃ t,Cv Γ s t∧(match (generalizing:=false) o4442 with | (x4401,x4402)=>e = .exit 0∧t=⟨[(2,.ptr 21 0 0),(4,.ptr 22 0 0),(5,iV .i64 x4365),(7,.ptr 23 0 0)],[(21,some (.box 39 (Zh    a0))),(22,some (.box 39 [iV .i64 0,iV .i64 0,iV .i64 0,iV .u64 0,iV .u64 0,iV .i64 0,.none0,.none0])),(23,some (.box 39 [iV .i64 a0.f0,iV .i64 a0.f1,iV .i64 x4365,iV .u64 x4401,iV .u64 a0.f4,iV .i64 a0.f5,.own 24,.none0])),(24,some (.row 2 87 (x4402.map Z0     )))],0⟩)) ⟨[(2,.ptr 11 0 0),(4,.ptr 12 0 0),(5,iV .i64 x4365),(7,.ptr 13 0 0),(8,iV .i64 x4384)],[(11,some (.box 39 (Zh    a0))),(12,some (.box 39 [iV .i64 0,iV .i64 0,iV .i64 0,iV .u64 0,iV .u64 0,iV .i64 0,.none0,.none0])),(13,some (.box 39 [iV .i64 a0.f0,iV .i64 a0.f1,iV .i64 x4365,iV .u64 x4382,iV .u64 a0.f4,iV .i64 a0.f5,.own 14,.none0])),(14,some (.row 2 87 (x4383.map Z0     )))],0⟩) ?_ _ _ _ _ e4443
   clear H e4443 o4442;intro self ih x4382 x4383 x4384 o4442 H
   subst hbody
   refine LWp.round ?_
   refine AWp.seq ?_
   refine sR hP hn hm [(3,.any (iV .i64 (a0.f6.length:Int)))] [(35,bV (decide (x4384<(a0.f6.length:Int))))] [2,4,5,7,8,35] [] [11,12,13,14] [((a0.f6.map Z0).length:Int)=(a0.f6.length:Int)] ⟨by rw[Zi],trivial⟩ ?_
   refine AWp.cond (decide (x4384<(a0.f6.length:Int))) (by kernel_rfl) (fun c4385 => ?_) (fun c4385 => ?_)
   ·replace H:=iT c4385 H
    refine AWp.skip ?_
    refine AWp.seq ?_
    refine AWp.block ?_
    obtain⟨b4391,p4392,q4393,H⟩:=Z03 H
    obtain⟨t4394,e4395,H⟩:=Z3 H
    refine sR hP hn hm [(5,.c (Z0 b4391)),(8,.call [] [] [] [] 0 (iV .i64 t4394) [])] [(48,bV (decide (t4394≤x4365)))] [2,4,5,7,8,48] [] [11,12,13,14] [_,_,_,_] ⟨p4392,Zf Z0 q4393,Tryz.call47,Z00.ok a0.f1 b4391.f0 t4394 e4395,trivial⟩ ?_
    obtain⟨o4444,e4445,H⟩:=Z3 H
    refine AWp.mono (Q:=fun e s=>(match (generalizing:=false) o4444 with | (x4399,x4400)=>e = .normal∧s=⟨[(2,.ptr 17 0 0),(4,.ptr 18 0 0),(5,iV .i64 x4365),(7,.ptr 19 0 0),(8,iV .i64 x4384)],[(17,some (.box 39 (Zh a0))),(18,some (.box 39 [iV .i64 0,iV .i64 0,iV .i64 0,iV .u64 0,iV .u64 0,iV .i64 0,.none0,.none0])),(19,some (.box 39 [iV .i64 a0.f0,iV .i64 a0.f1,iV .i64 x4365,iV .u64 x4399,iV .u64 a0.f4,iV .i64 a0.f5,.own 20,.none0])),(20,some (.row 2 87 (x4400.map Z0)))],0⟩)) (AWp.cv ?_) ?_
    ·replace H:=e4445;clear e4445
     refine AWp.cond (decide (t4394≤x4365)) (by kernel_rfl) (fun c4396 => ?_) (fun c4396 => ?_)
     ·replace H:=iT c4396 H
      refine rG hP hn hm [(5,.c (Z0 b4391))] [] [2,4,5,7,8] [(13,some (.box 39 [iV .i64 a0.f0,iV .i64 a0.f1,iV .i64 x4365,iV .u64 (u64.wrap (x4382+b4391.f1)),iV .u64 a0.f4,iV .i64 a0.f5,.own 14,.none0]))] [11,12,13,14] [_,_] ⟨p4392,Zf Z0 q4393,trivial⟩ ?_
      obtain rfl:=sj H
      exact lf [(11,17),(12,18),(13,19),(14,20)] [] [] (by kernel_rfl) ⟨rfl,rfl⟩
     ·replace H:=iF c4396 H
      obtain⟨c4398,H⟩:=Z0q H
      refine rG hP hn hm [(5,.c (Z0 b4391)),(7,.app 15 ([b4391].map Z0)),(8,.app 16 ((x4383++[b4391]).map Z0))] [] [2,4,5,7,8] [(13,some (.box 39 [iV .i64 a0.f0,iV .i64 a0.f1,iV .i64 x4365,iV .u64 x4382,iV .u64 a0.f4,iV .i64 a0.f5,.own 16,.none0])),(16,some (.row 2 87 ((x4383++[b4391]).map Z0)))] [11,12,13,16] [_,_,[b4391].map Z0=[[iI .i64 b4391.f0,iI .u64 b4391.f1]],(x4383++[b4391]).map Z0=(x4383.map Z0)++([b4391].map Z0),∀ c∈([b4391].map Z0),c.length=2,∀ c∈([b4391].map Z0),Z0m (c.map .im)=true,((x4383.map Z0).length+([b4391].map Z0).length)*16≤140737488355328] ⟨p4392,Zf Z0 q4393,by exact rfl,by simp,by exact Z0k _ _ _ (fun _=>rfl),by exact Z0j _ _ (fun _=>rfl),by simpa using c4398,trivial⟩ ?_
      obtain rfl:=sj H
      exact lf [(11,17),(12,18),(13,19),(16,20)] [] [] (by kernel_rfl) ⟨rfl,rfl⟩
    ·obtain⟨x4399,x4400⟩:=o4444
     rintro e s ⟨rfl,rfl⟩
     refine rO hP hn hm [] [(8,iV .i64 (i64.wrap (x4384+(1:Int))))] [2,4,5,7,8] [] [17,18,19,20] ?_
     exact LWp.conv [(17,11),(18,12),(19,13),(20,14)] [] [] (by kernel_rfl) (ih _ _ _ _ H)
   ·replace H:=iF c4385 H
    refine AWp.exit ?_
    obtain rfl:=sj H
    exact lf [(11,21),(12,22),(13,23),(14,24)] [] [] (by kernel_rfl) ⟨rfl,rfl⟩
  ·obtain⟨x4401,x4402⟩:=o4442
   rintro e s ⟨rfl,rfl⟩
   refine AWp.seq ?_
   refine sO hP hn hm [] [(9,iV .i64 0)] [2,4,5,7,9] [] [21,22,23,24] ?_
   refine AWp.block ?_
   obtain⟨o4446,e4447,H⟩:=Z3 H
   refine AWp.loop (LWp.conv (inv:=[(21,32),(22,33),(23,34),(24,35)]) (vk:=[]) (e0:=[36]) (t:=⟨[(2,.ptr 32 0 0),(4,.ptr 33 0 0),(5,iV .i64 x4365),(7,.ptr 34 0 0),(9,iV .i64 0)],[(32,some (.box 39 (Zh a0))),(33,some (.box 39 [iV .i64 0,iV .i64 0,iV .i64 0,iV .u64 0,iV .u64 0,iV .i64 0,.none0,.none0])),(34,some (.box 39 [iV .i64 a0.f0,iV .i64 a0.f1,iV .i64 x4365,iV .u64 x4401,iV .u64 a0.f4,iV .i64 a0.f5,.own 35,.own 36])),(35,some (.row 2 87 (x4402.map Z0))),(36,some (.row 2 87 ([].map Z0)))],0⟩) (by kernel_rfl) ?_)
   refine LWp.mono (Q:=fun e s=>(match (generalizing:=false) o4446 with | (x4438,x4439)=>e = .exit 2∧s=⟨[(4,.ptr 44 0 0),(7,.ptr 45 0 0)],[(44,some (.box 39 [iV .i64 0,iV .i64 0,iV .i64 0,iV .u64 0,iV .u64 0,iV .i64 0,.none0,.none0])),(45,some (.box 39 [iV .i64 a0.f0,iV .i64 a0.f1,iV .i64 x4365,iV .u64 x4438,iV .u64 a0.f4,iV .i64 a0.f5,.own 46,.own 47])),(46,some (.row 2 87 (x4402.map Z0))),(47,some (.row 2 87 (x4439.map Z0)))],0⟩)) (LWp.cv (Zn (fun body hbody => ?_))) ?_
   ·refine           Z05.l1.partial_correctness a0 x4365 x4402 (motive:=fun x4419 x4420 x4421 o4446=>LWp Γ body (fun e s=>∃ t,Cv Γ s t∧(match (generalizing:=false) o4446 with | (x4438,x4439)=>e = .exit 2∧t=⟨[(4,.ptr 44 0 0),(7,.ptr 45 0 0)],[(44,some (.box 39 [iV .i64 0,iV .i64 0,iV .i64 0,iV .u64 0,iV .u64 0,iV .i64 0,.none0,.none0])),(45,some (.box 39 [iV .i64 a0.f0,iV .i64 a0.f1,iV .i64 x4365,iV .u64 x4438,iV .u64 a0.f4,iV .i64 a0.f5,.own 46,.own 47])),(46,some (.row 2 87 (x4402.map Z0     ))),(47,some (.row 2 87 (x4439.map Z0     )))],0⟩)) ⟨[(2,.ptr 32 0 0),(4,.ptr 33 0 0),(5,iV .i64 x4365),(7,.ptr 34 0 0),(9,iV .i64 x4421)],[(32,some (.box 39 (Zh    a0))),(33,some (.box 39 [iV .i64 0,iV .i64 0,iV .i64 0,iV .u64 0,iV .u64 0,iV .i64 0,.none0,.none0])),(34,some (.box 39 [iV .i64 a0.f0,iV .i64 a0.f1,iV .i64 x4365,iV .u64 x4419,iV .u64 a0.f4,iV .i64 a0.f5,.own 35,.own 36])),(35,some (.row 2 87 (x4402.map Z0     ))),(36,some (.row 2 87 (x4420.map Z0     )))],0⟩) ?_ _ _ _ _ e4447
    clear H e4447 o4446;intro self ih x4419 x4420 x4421 o4446 H
    subst hbody
    refine LWp.round ?_
    refine AWp.seq ?_
    refine sR hP hn hm [(3,.any (iV .i64 (a0.f7.length:Int)))] [(73,bV (decide (x4421<(a0.f7.length:Int))))] [2,4,5,7,9,73] [] [32,33,34,35,36] [((a0.f7.map Z0).length:Int)=(a0.f7.length:Int)] ⟨by rw[Zi],trivial⟩ ?_
    refine AWp.cond (decide (x4421<(a0.f7.length:Int))) (by kernel_rfl) (fun c4422 => ?_) (fun c4422 => ?_)
    ·replace H:=iT c4422 H
     refine AWp.skip ?_
     refine AWp.seq ?_
     refine AWp.block ?_
     obtain⟨b4428,p4429,q4430,H⟩:=Z03 H
     obtain⟨t4431,e4432,H⟩:=Z3 H
     refine sR hP hn hm [(5,.c (Z0 b4428)),(8,.call [] [] [] [] 0 (iV .i64 t4431) [])] [(86,bV (decide (t4431≤x4365)))] [2,4,5,7,9,86] [] [32,33,34,35,36] [_,_,_,_] ⟨p4429,Zf Z0 q4430,Tryz.call47,Z00.ok a0.f1 b4428.f0 t4431 e4432,trivial⟩ ?_
     obtain⟨o4448,e4449,H⟩:=Z3 H
     refine AWp.mono (Q:=fun e s=>(match (generalizing:=false) o4448 with | (x4436,x4437)=>e = .normal∧s=⟨[(2,.ptr 39 0 0),(4,.ptr 40 0 0),(5,iV .i64 x4365),(7,.ptr 41 0 0),(9,iV .i64 x4421)],[(39,some (.box 39 (Zh a0))),(40,some (.box 39 [iV .i64 0,iV .i64 0,iV .i64 0,iV .u64 0,iV .u64 0,iV .i64 0,.none0,.none0])),(41,some (.box 39 [iV .i64 a0.f0,iV .i64 a0.f1,iV .i64 x4365,iV .u64 x4436,iV .u64 a0.f4,iV .i64 a0.f5,.own 42,.own 43])),(42,some (.row 2 87 (x4402.map Z0))),(43,some (.row 2 87 (x4437.map Z0)))],0⟩)) (AWp.cv ?_) ?_
     ·replace H:=e4449;clear e4449
      refine AWp.cond (decide (t4431≤x4365)) (by kernel_rfl) (fun c4433 => ?_) (fun c4433 => ?_)
      ·replace H:=iT c4433 H
       refine rG hP hn hm [(5,.c (Z0 b4428))] [] [2,4,5,7,9] [(34,some (.box 39 [iV .i64 a0.f0,iV .i64 a0.f1,iV .i64 x4365,iV .u64 (u64.wrap (x4419+b4428.f1)),iV .u64 a0.f4,iV .i64 a0.f5,.own 35,.own 36]))] [32,33,34,35,36] [_,_] ⟨p4429,Zf Z0 q4430,trivial⟩ ?_
       obtain rfl:=sj H
       exact lf [(32,39),(33,40),(34,41),(35,42),(36,43)] [] [] (by kernel_rfl) ⟨rfl,rfl⟩
      ·replace H:=iF c4433 H
       obtain⟨c4435,H⟩:=Z0q H
       refine rG hP hn hm [(5,.c (Z0 b4428)),(7,.app 37 ([b4428].map Z0)),(8,.app 38 ((x4420++[b4428]).map Z0))] [] [2,4,5,7,9] [(34,some (.box 39 [iV .i64 a0.f0,iV .i64 a0.f1,iV .i64 x4365,iV .u64 x4419,iV .u64 a0.f4,iV .i64 a0.f5,.own 35,.own 38])),(38,some (.row 2 87 ((x4420++[b4428]).map Z0)))] [32,33,34,35,38] [_,_,[b4428].map Z0=[[iI .i64 b4428.f0,iI .u64 b4428.f1]],(x4420++[b4428]).map Z0=(x4420.map Z0)++([b4428].map Z0),∀ c∈([b4428].map Z0),c.length=2,∀ c∈([b4428].map Z0),Z0m (c.map .im)=true,((x4420.map Z0).length+([b4428].map Z0).length)*16≤140737488355328] ⟨p4429,Zf Z0 q4430,by exact rfl,by simp,by exact Z0k _ _ _ (fun _=>rfl),by exact Z0j _ _ (fun _=>rfl),by simpa using c4435,trivial⟩ ?_
       obtain rfl:=sj H
       exact lf [(32,39),(33,40),(34,41),(35,42),(38,43)] [] [] (by kernel_rfl) ⟨rfl,rfl⟩
     ·obtain⟨x4436,x4437⟩:=o4448
      rintro e s ⟨rfl,rfl⟩
      refine rO hP hn hm [] [(9,iV .i64 (i64.wrap (x4421+(1:Int))))] [2,4,5,7,9] [] [39,40,41,42,43] ?_
      exact LWp.conv [(39,32),(40,33),(41,34),(42,35),(43,36)] [] [] (by kernel_rfl) (ih _ _ _ _ H)
    ·replace H:=iF c4422 H
     refine AWp.exit ?_
     obtain rfl:=sj H
     exact lf [(33,44),(34,45),(35,46),(36,47)] [] [] (by kernel_rfl) ⟨rfl,rfl⟩
   ·obtain⟨x4438,x4439⟩:=o4446
    rintro e s ⟨rfl,rfl⟩
    refine sO hP hn hm [] [] [4] [(44,some (.box 39 [iV .i64 a0.f0,iV .i64 a0.f1,iV .i64 x4365,iV .u64 x4438,iV .u64 a0.f4,iV .i64 a0.f5,.own 46,.own 47]))] [44,46,47] ?_
    refine AWp.conv (inv:=[(44,2),(46,0),(47,1)]) (vk:=[]) (e0:=[]) (t:=⟨[(4,.ptr 2 0 0)],[(0,some (.row 2 87 ((((⟨a0.f0,a0.f1,x4365,x4438,a0.f4,a0.f5,x4402,x4439⟩:Ze)).f6).map Z0))),(1,some (.row 2 87 ((((⟨a0.f0,a0.f1,x4365,x4438,a0.f4,a0.f5,x4402,x4439⟩:Ze)).f7).map Z0))),(2,some (.box 39 [iV .i64 (((⟨a0.f0,a0.f1,x4365,x4438,a0.f4,a0.f5,x4402,x4439⟩:Ze)).f0),iV .i64 (((⟨a0.f0,a0.f1,x4365,x4438,a0.f4,a0.f5,x4402,x4439⟩:Ze)).f1),iV .i64 (((⟨a0.f0,a0.f1,x4365,x4438,a0.f4,a0.f5,x4402,x4439⟩:Ze)).f2),iV .u64 (((⟨a0.f0,a0.f1,x4365,x4438,a0.f4,a0.f5,x4402,x4439⟩:Ze)).f3),iV .u64 (((⟨a0.f0,a0.f1,x4365,x4438,a0.f4,a0.f5,x4402,x4439⟩:Ze)).f4),iV .i64 (((⟨a0.f0,a0.f1,x4365,x4438,a0.f4,a0.f5,x4402,x4439⟩:Ze)).f5),.own 0,.own 1]))],0⟩) (by kernel_rfl) ?_
    refine AWp.ret ?_
    obtain rfl:=sj H
    exact rl (.inl rfl) rfl (by kernel_rfl) (by kernel_rfl)
def Z2e.f (a0:Ze) (a1:Int):Option (Ze×Int):=(((Z06.f a1)>>=fun t4014=>if(!t4014)=true then(some true) else(some (decide (a1>a0.f1)))):Option (Bool))>>=fun x4017=>if x4017=true then(some ((⟨0,0,0,0,0,0,[],[]⟩:Ze),20)) else((Z16.f a0.f6 a0.f1 a1)>>=fun t4287=>(Z16.f a0.f7 a0.f1 a1)>>=fun t4291=>(Z05.f (⟨a0.f0,a1,a0.f2,a0.f3,a0.f4,a0.f5,t4287,t4291⟩:Ze) a0.f2)>>=fun t4452=>some ((t4452),0))
theorem Z2e.ok (a0:Ze) (a1:Int) (r:Ze×Int) (H:Z2e.f a0 a1=some r):Pv.Fn Tryz.prog 92 [.agg (Zh a0),iV .i64 a1] [] 0 (fun x o=>x = .tup [.agg [iV .i64 ((r.1).f0),iV .i64 ((r.1).f1),iV .i64 ((r.1).f2),iV .u64 ((r.1).f3),iV .u64 ((r.1).f4),iV .i64 ((r.1).f5),.own 0,.own 1],iV .i64 r.2]∧o=[(0,some (.row 2 87 (((r.1).f6).map Z0))),(1,some (.row 2 87 (((r.1).f7).map Z0)))]):=by
 unfold Z2e.f at H
 refine Fn.bodyK [0,1] Tryz.func92 rfl rfl (fun Γ hP hn => ?_)
 have hm:Tryz.prog.follows .mixedOrders=true:=by kernel_rfl
 replace hn:Γ.n=38:=hn
 refine sO hP hn hm [(0,.k 0),(1,.k 1)] [(2,.ptr 0 0 0),(4,.ptr 1 0 0)] [1,2,4] [(0,some (.box 39 (Zh a0))),(1,some (.box 39 [iV .i64 0,iV .i64 0,iV .i64 0,iV .u64 0,iV .u64 0,iV .i64 0,.none0,.none0]))] [0,1] ?_
 refine AWp.seq ?_
 refine AWp.seq ?_
 obtain⟨o4454,e4455,H⟩:=Z3 H
 refine AWp.mono (Q:=fun e s=>(match (generalizing:=false) o4454 with | x4017=>e = .normal∧s=⟨[(1,iV .i64 a1),(2,.ptr 2 0 0),(4,.ptr 3 0 0),(15,bV x4017)],[(2,some (.box 39 (Zh a0))),(3,some (.box 39 [iV .i64 0,iV .i64 0,iV .i64 0,iV .u64 0,iV .u64 0,iV .i64 0,.none0,.none0]))],0⟩)) (AWp.cv ?_) ?_
 ·replace H:=e4455;clear e4455
  obtain⟨t4014,e4015,H⟩:=Z3 H
  rcases Bool.eq_false_or_eq_true (!t4014) with c4016 | c4016
  ·replace H:=iT c4016 H
   refine rG hP hn hm [(1,.call [] [] [] [] 0 (bV t4014) []),(3,.b true)] [(15,bV true)] [1,2,4,15] [] [0,1] [_,_,_] ⟨Tryz.call45,Z06.ok a1 t4014 e4015,c4016,trivial⟩ ?_
   obtain rfl:=sj H
   exact lf [(0,2),(1,3)] [] [] (by kernel_rfl) ⟨rfl,rfl⟩
  ·replace H:=iF c4016 H
   refine rG hP hn hm [(1,.call [] [] [] [] 0 (bV t4014) []),(3,.b false)] [(15,bV (decide (a1>a0.f1)))] [1,2,4,15] [] [0,1] [_,_,_] ⟨Tryz.call45,Z06.ok a1 t4014 e4015,c4016,trivial⟩ ?_
   obtain rfl:=sj H
   exact lf [(0,2),(1,3)] [] [] (by kernel_rfl) ⟨rfl,rfl⟩
 ·obtain⟨x4017,rfl⟩:∃ z,z=o4454:=⟨_,rfl⟩
  rintro e s ⟨rfl,rfl⟩
  refine AWp.cond x4017 (by kernel_rfl) (fun c4018 => ?_) (fun c4018 => ?_)
  ·replace H:=iT c4018 H
   refine sO hP hn hm [] [(5,iV .i64 20)] [4,5] [] [3] ?_
   refine AWp.conv (inv:=[(3,2)]) (vk:=[]) (e0:=[0,1]) (t:=⟨[(4,.ptr 2 0 0),(5,iV .i64 20)],[(0,some (.row 2 87 ((((⟨0,0,0,0,0,0,[],[]⟩:Ze)).f6).map Z0))),(1,some (.row 2 87 ((((⟨0,0,0,0,0,0,[],[]⟩:Ze)).f7).map Z0))),(2,some (.box 39 [iV .i64 (((⟨0,0,0,0,0,0,[],[]⟩:Ze)).f0),iV .i64 (((⟨0,0,0,0,0,0,[],[]⟩:Ze)).f1),iV .i64 (((⟨0,0,0,0,0,0,[],[]⟩:Ze)).f2),iV .u64 (((⟨0,0,0,0,0,0,[],[]⟩:Ze)).f3),iV .u64 (((⟨0,0,0,0,0,0,[],[]⟩:Ze)).f4),iV .i64 (((⟨0,0,0,0,0,0,[],[]⟩:Ze)).f5),.own 0,.own 1]))],0⟩) (by kernel_rfl) ?_
   refine AWp.ret ?_
   obtain rfl:=sj H
   exact rl (.inl rfl) rfl (by kernel_rfl) (by kernel_rfl)
  ·replace H:=iF c4018 H
   refine AWp.skip ?_
   refine sO hP hn hm [(1,.k 4)] [(6,.ptr 4 0 0)] [1,2,4,6] [(4,some (.box 39 (Zh a0)))] [2,3,4] ?_
   refine sO hP hn hm [] [] [1,2,4,6] [(4,some (.box 39 (Zh ⟨a0.f0,a1,a0.f2,a0.f3,a0.f4,a0.f5,a0.f6,a0.f7⟩)))] [2,3,4] ?_
   obtain⟨t4287,e4288,H⟩:=Z3 H
   refine sR hP hn hm [(5,.call [] [(0,5)] [] [5] 0 (.own 0) [(0,some (.row 2 87 (t4287.map Z0)))])] [] [1,2,4,6] [(4,some (.box 39 [iV .i64 a0.f0,iV .i64 a1,iV .i64 a0.f2,iV .u64 a0.f3,iV .u64 a0.f4,iV .i64 a0.f5,.own 5,.im (.row (a0.f7.map Z0))])),(5,some (.row 2 87 (t4287.map Z0)))] [2,3,4,5] [_,_] ⟨Tryz.call107,Z16.ok a0.f6 a0.f1 a1 t4287 e4288,trivial⟩ ?_
   obtain⟨t4291,e4292,H⟩:=Z3 H
   refine sR hP hn hm [(5,.call [] [(0,6)] [] [6] 0 (.own 0) [(0,some (.row 2 87 (t4291.map Z0)))])] [] [2,4,6] [(4,some (.box 39 [iV .i64 a0.f0,iV .i64 a1,iV .i64 a0.f2,iV .u64 a0.f3,iV .u64 a0.f4,iV .i64 a0.f5,.own 5,.own 6])),(6,some (.row 2 87 (t4291.map Z0)))] [2,3,4,5,6] [_,_] ⟨Tryz.call107,Z16.ok a0.f7 a0.f1 a1 t4291 e4292,trivial⟩ ?_
   obtain⟨t4452,e4453,H⟩:=Z3 H
   refine sR hP hn hm [(3,.more (Z3q [] [(0,7),(1,8)] [5,6] [7,8] 0 (.agg [iV .i64 ((t4452).f0),iV .i64 ((t4452).f1),iV .i64 ((t4452).f2),iV .u64 ((t4452).f3),iV .u64 ((t4452).f4),iV .i64 ((t4452).f5),.own 0,.own 1]) [(0,some (.row 2 87 (((t4452).f6).map Z0))),(1,some (.row 2 87 (((t4452).f7).map Z0)))]))] [(5,iV .i64 0)] [4,5] [(3,some (.box 39 [iV .i64 ((t4452).f0),iV .i64 ((t4452).f1),iV .i64 ((t4452).f2),iV .u64 ((t4452).f3),iV .u64 ((t4452).f4),iV .i64 ((t4452).f5),.own 7,.own 8])),(7,some (.row 2 87 (((t4452).f6).map Z0))),(8,some (.row 2 87 (((t4452).f7).map Z0)))] [3,7,8] [_,_,∀ c∈((t4452).f6).map Z0,∀ x∈c,∃ v,x=Im.sc v,∀ c∈((t4452).f7).map Z0,∀ x∈c,∃ v,x=Im.sc v] ⟨Tryz.call108,Z05.ok (⟨a0.f0,a1,a0.f2,a0.f3,a0.f4,a0.f5,t4287,t4291⟩:Ze) a0.f2 t4452 e4453,by exact Z3s _ _ (fun _=>by simp),by exact Z3s _ _ (fun _=>by simp),trivial⟩ ?_
   refine AWp.conv (inv:=[(3,2),(7,0),(8,1)]) (vk:=[]) (e0:=[]) (t:=⟨[(4,.ptr 2 0 0),(5,iV .i64 0)],[(0,some (.row 2 87 ((((t4452)).f6).map Z0))),(1,some (.row 2 87 ((((t4452)).f7).map Z0))),(2,some (.box 39 [iV .i64 (((t4452)).f0),iV .i64 (((t4452)).f1),iV .i64 (((t4452)).f2),iV .u64 (((t4452)).f3),iV .u64 (((t4452)).f4),iV .i64 (((t4452)).f5),.own 0,.own 1]))],0⟩) (by kernel_rfl) ?_
   refine AWp.ret ?_
   obtain rfl:=sj H
   exact rl (.inl rfl) rfl (by kernel_rfl) (by kernel_rfl)
def Z2l.f (a0:Ze) (a1:Int):Option (Ze×Int):=((if(decide (a1<a0.f2))=true then(some true) else(if(a1 != a0.f2)=true then(if(decide (a1≤(-262144)))=true then(some true) else(some (decide (a1>(262144:Int))))) else(some false))):Option (Bool))>>=fun x4496=>if x4496=true then(some ((⟨0,0,0,0,0,0,[],[]⟩:Ze),31)) else(if(a1==a0.f2)=true then(some (a0,0)) else((Z05.f a0 a1)>>=fun t4501=>some ((t4501),0)))
theorem Z2l.ok (a0:Ze) (a1:Int) (r:Ze×Int) (H:Z2l.f a0 a1=some r):Pv.Fn Tryz.prog 93 [.agg (Zh a0),iV .i64 a1] [] 0 (fun x o=>x = .tup [.agg (Zh (r.1)),iV .i64 r.2]∧o=[]):=by
 unfold Z2l.f at H
 refine Fn.bodyK [] Tryz.func93 rfl rfl (fun Γ hP hn => ?_)
 have hm:Tryz.prog.follows .mixedOrders=true:=by kernel_rfl
 replace hn:Γ.n=33:=hn
 refine sO hP hn hm [(0,.k 0),(1,.k 1)] [(2,.ptr 0 0 0),(4,.ptr 1 0 0)] [1,2,4] [(0,some (.box 39 (Zh a0))),(1,some (.box 39 [iV .i64 0,iV .i64 0,iV .i64 0,iV .u64 0,iV .u64 0,iV .i64 0,.none0,.none0]))] [0,1] ?_
 refine AWp.seq ?_
 refine AWp.seq ?_
 obtain⟨o4503,e4504,H⟩:=Z3 H
 refine AWp.mono (Q:=fun e s=>(match (generalizing:=false) o4503 with | x4496=>e = .normal∧s=⟨[(1,iV .i64 a1),(2,.ptr 2 0 0),(4,.ptr 3 0 0),(23,bV x4496)],[(2,some (.box 39 (Zh a0))),(3,some (.box 39 [iV .i64 0,iV .i64 0,iV .i64 0,iV .u64 0,iV .u64 0,iV .i64 0,.none0,.none0]))],0⟩)) (AWp.cv ?_) ?_
 ·replace H:=e4504;clear e4504
  rcases Bool.eq_false_or_eq_true (decide (a1<a0.f2)) with c4493 | c4493
  ·replace H:=iT c4493 H
   refine rG hP hn hm [(4,.b true)] [(23,bV true)] [1,2,4,23] [] [0,1] [_] ⟨c4493,trivial⟩ ?_
   obtain rfl:=sj H
   exact lf [(0,2),(1,3)] [] [] (by kernel_rfl) ⟨rfl,rfl⟩
  ·replace H:=iF c4493 H
   rcases Bool.eq_false_or_eq_true (a1 != a0.f2) with c4494 | c4494
   ·replace H:=iT c4494 H
    rcases Bool.eq_false_or_eq_true (decide (a1≤(-262144))) with c4495 | c4495
    ·replace H:=iT c4495 H
     refine rG hP hn hm [(4,.b false),(9,.b true),(12,.b true)] [(23,bV true)] [1,2,4,23] [] [0,1] [_,_,_] ⟨c4493,c4494,c4495,trivial⟩ ?_
     obtain rfl:=sj H
     exact lf [(0,2),(1,3)] [] [] (by kernel_rfl) ⟨rfl,rfl⟩
    ·replace H:=iF c4495 H
     refine rG hP hn hm [(4,.b false),(9,.b true),(12,.b false)] [(23,bV (decide (a1>(262144:Int))))] [1,2,4,23] [] [0,1] [_,_,_] ⟨c4493,c4494,c4495,trivial⟩ ?_
     obtain rfl:=sj H
     exact lf [(0,2),(1,3)] [] [] (by kernel_rfl) ⟨rfl,rfl⟩
   ·replace H:=iF c4494 H
    refine rG hP hn hm [(4,.b false),(9,.b false)] [(23,bV false)] [1,2,4,23] [] [0,1] [_,_] ⟨c4493,c4494,trivial⟩ ?_
    obtain rfl:=sj H
    exact lf [(0,2),(1,3)] [] [] (by kernel_rfl) ⟨rfl,rfl⟩
 ·obtain⟨x4496,rfl⟩:∃ z,z=o4503:=⟨_,rfl⟩
  rintro e s ⟨rfl,rfl⟩
  refine AWp.cond x4496 (by kernel_rfl) (fun c4497 => ?_) (fun c4497 => ?_)
  ·replace H:=iT c4497 H
   refine sO hP hn hm [] [(5,iV .i64 31)] [4,5] [] [3] ?_
   refine AWp.conv (inv:=[(3,0)]) (vk:=[]) (e0:=[]) (t:=⟨[(4,.ptr 0 0 0),(5,iV .i64 31)],[(0,some (.box 39 (Zh ((⟨0,0,0,0,0,0,[],[]⟩:Ze)))))],0⟩) (by kernel_rfl) ?_
   refine AWp.ret ?_
   obtain rfl:=sj H
   exact rl (.inl rfl) rfl (by kernel_rfl) (by kernel_rfl)
  ·replace H:=iF c4497 H
   refine AWp.skip ?_
   refine AWp.seq ?_
   refine sO hP hn hm [] [(28,bV (a1==a0.f2))] [1,2,4,28] [] [2,3] ?_
   refine AWp.cond (a1==a0.f2) (by kernel_rfl) (fun c4498 => ?_) (fun c4498 => ?_)
   ·replace H:=iT c4498 H
    refine sO hP hn hm [] [(5,iV .i64 0)] [4,5] [(3,some (.box 39 (Zh a0)))] [3] ?_
    refine AWp.conv (inv:=[(3,0)]) (vk:=[]) (e0:=[]) (t:=⟨[(4,.ptr 0 0 0),(5,iV .i64 0)],[(0,some (.box 39 (Zh (a0))))],0⟩) (by kernel_rfl) ?_
    refine AWp.ret ?_
    obtain rfl:=sj H
    exact rl (.inl rfl) rfl (by kernel_rfl) (by kernel_rfl)
   ·replace H:=iF c4498 H
    refine AWp.skip ?_
    obtain⟨t4501,e4502,H⟩:=Z3 H
    refine sR hP hn hm [(2,.call [] [(0,4),(1,5)] [] [4,5] 0 (.agg [iV .i64 ((t4501).f0),iV .i64 ((t4501).f1),iV .i64 ((t4501).f2),iV .u64 ((t4501).f3),iV .u64 ((t4501).f4),iV .i64 ((t4501).f5),.own 0,.own 1]) [(0,some (.row 2 87 (((t4501).f6).map Z0))),(1,some (.row 2 87 (((t4501).f7).map Z0)))])] [(5,iV .i64 0)] [4,5] [(3,some (.box 39 [iV .i64 ((t4501).f0),iV .i64 ((t4501).f1),iV .i64 ((t4501).f2),iV .u64 ((t4501).f3),iV .u64 ((t4501).f4),iV .i64 ((t4501).f5),.own 4,.own 5])),(4,some (.row 2 87 (((t4501).f6).map Z0))),(5,some (.row 2 87 (((t4501).f7).map Z0)))] [3,4,5] [_,_] ⟨Tryz.call108,Z05.ok a0 a1 t4501 e4502,trivial⟩ ?_
    refine AWp.conv (inv:=[(3,0)]) (vk:=[4,5]) (e0:=[]) (t:=⟨[(4,.ptr 0 0 0),(5,iV .i64 0)],[(0,some (.box 39 (Zh ((t4501)))))],0⟩) (by kernel_rfl) ?_
    refine AWp.ret ?_
    obtain rfl:=sj H
    exact rl (.inl rfl) rfl (by kernel_rfl) (by kernel_rfl)
def Z1g.l0  (v:Int×Int×Int×Int×Int×Int×(List Z2)×(List Z2)×Int×Int×Int×Int×Int×Int×(List Z2)×(List Z2)):Option (Int×Int×Int×Int×Int×Int×(List Z2)×(List Z2)×Int×Int×Int×Int×Int×Int×(List Z2)×(List Z2)):=match v with
 | (x4533,x4534,x4535,x4536,x4537,x4538,x4539,x4540,x4541,x4542,x4543,x4544,x4545,x4546,x4547,x4548)=>if(x4535 != x4543)=true then(((if(decide (x4535<x4543))=true then((Z2l.f (⟨x4533,x4534,x4535,x4536,x4537,x4538,x4539,x4540⟩:Ze) x4543)>>=fun t4553=>some ((t4553.1).f0,(t4553.1).f1,(t4553.1).f2,(t4553.1).f3,(t4553.1).f4,(t4553.1).f5,(t4553.1).f6,(t4553.1).f7,x4541,x4542,x4543,x4544,x4545,x4546,x4547,x4548)) else((Z2l.f (⟨x4541,x4542,x4543,x4544,x4545,x4546,x4547,x4548⟩:Ze) x4535)>>=fun t4557=>some (x4533,x4534,x4535,x4536,x4537,x4538,x4539,x4540,(t4557.1).f0,(t4557.1).f1,(t4557.1).f2,(t4557.1).f3,(t4557.1).f4,(t4557.1).f5,(t4557.1).f6,(t4557.1).f7))):Option (Int×Int×Int×Int×Int×Int×(List Z2)×(List Z2)×Int×Int×Int×Int×Int×Int×(List Z2)×(List Z2)))>>=fun oo=>match oo with | (x4559,x4560,x4561,x4562,x4563,x4564,x4565,x4566,x4567,x4568,x4569,x4570,x4571,x4572,x4573,x4574)=>(Z1g.l0  (x4559,x4560,x4561,x4562,x4563,x4564,x4565,x4566,x4567,x4568,x4569,x4570,x4571,x4572,x4573,x4574))) else(some (x4533,x4534,x4535,x4536,x4537,x4538,x4539,x4540,x4541,x4542,x4543,x4544,x4545,x4546,x4547,x4548))
partial_fixpoint
def Z1g.f (a0:Ze) (a1:Ze):Option (Ze×Ze):=((if(decide (a0.f1<a1.f1))=true then((Z2e.f a1 a0.f1)>>=fun t4458=>(Z2e.f a0 a0.f1)>>=fun t4462=>some ((t4462.1).f0,(t4462.1).f1,(t4462.1).f2,(t4462.1).f3,(t4462.1).f4,(t4462.1).f5,(t4462.1).f6,(t4462.1).f7,(t4458.1).f0,(t4458.1).f1,(t4458.1).f2,(t4458.1).f3,(t4458.1).f4,(t4458.1).f5,(t4458.1).f6,(t4458.1).f7)) else((Z2e.f a0 a1.f1)>>=fun t4466=>(Z2e.f a1 a1.f1)>>=fun t4470=>some ((t4466.1).f0,(t4466.1).f1,(t4466.1).f2,(t4466.1).f3,(t4466.1).f4,(t4466.1).f5,(t4466.1).f6,(t4466.1).f7,(t4470.1).f0,(t4470.1).f1,(t4470.1).f2,(t4470.1).f3,(t4470.1).f4,(t4470.1).f5,(t4470.1).f6,(t4470.1).f7))):Option (Int×Int×Int×Int×Int×Int×(List Z2)×(List Z2)×Int×Int×Int×Int×Int×Int×(List Z2)×(List Z2)))>>=fun oo=>match oo with | (x4472,x4473,x4474,x4475,x4476,x4477,x4478,x4479,x4480,x4481,x4482,x4483,x4484,x4485,x4486,x4487)=>((Z1g.l0  (x4472,x4473,x4474,x4475,x4476,x4477,x4478,x4479,x4480,x4481,x4482,x4483,x4484,x4485,x4486,x4487))>>=fun oo=>match oo with | (x4575,x4576,x4577,x4578,x4579,x4580,x4581,x4582,x4583,x4584,x4585,x4586,x4587,x4588,x4589,x4590)=>(some ((⟨x4575,x4576,x4577,x4578,x4579,x4580,x4581,x4582⟩:Ze),(⟨x4583,x4584,x4585,x4586,x4587,x4588,x4589,x4590⟩:Ze))))
theorem Z1g.ok (a0:Ze) (a1:Ze) (r:Ze×Ze) (H:Z1g.f a0 a1=some r):Pv.Fn Tryz.prog 82 [.agg (Zh a0),.agg (Zh a1)] [] 0 (fun x o=>x = .tup [.agg (Zh (r.1)),.agg (Zh (r.2))]∧o=[]):=by
 unfold Z1g.f at H
 refine Fn.bodyK [] Tryz.func82 rfl rfl (fun Γ hP hn => ?_)
 have hm:Tryz.prog.follows .mixedOrders=true:=by kernel_rfl
 replace hn:Γ.n=65:=hn
 refine sO hP hn hm [(0,.k 0),(1,.k 1),(2,.k 2),(3,.k 3)] [(2,.ptr 0 0 0),(3,.ptr 1 0 0),(4,.ptr 2 0 0),(5,.ptr 3 0 0)] [2,3,4,5] [(0,some (.box 39 (Zh a0))),(1,some (.box 39 (Zh a1))),(2,some (.box 39 [iV .i64 0,iV .i64 0,iV .i64 0,iV .u64 0,iV .u64 0,iV .i64 0,.none0,.none0])),(3,some (.box 39 [iV .i64 0,iV .i64 0,iV .i64 0,iV .u64 0,iV .u64 0,iV .i64 0,.none0,.none0]))] [0,1,2,3] ?_
 refine AWp.seq ?_
 refine sO hP hn hm [] [(10,bV (decide (a0.f1<a1.f1)))] [2,3,4,5,10] [] [0,1,2,3] ?_
 obtain⟨o4591,e4592,H⟩:=Z3 H
 refine AWp.mono (Q:=fun e s=>(match (generalizing:=false) o4591 with | (x4472,x4473,x4474,x4475,x4476,x4477,x4478,x4479,x4480,x4481,x4482,x4483,x4484,x4485,x4486,x4487)=>e = .normal∧s=⟨[(2,.ptr 12 0 0),(3,.ptr 15 0 0),(4,.ptr 18 0 0),(5,.ptr 19 0 0)],[(12,some (.box 39 [iV .i64 x4472,iV .i64 x4473,iV .i64 x4474,iV .u64 x4475,iV .u64 x4476,iV .i64 x4477,.own 13,.own 14])),(13,some (.row 2 87 (x4478.map Z0))),(14,some (.row 2 87 (x4479.map Z0))),(15,some (.box 39 [iV .i64 x4480,iV .i64 x4481,iV .i64 x4482,iV .u64 x4483,iV .u64 x4484,iV .i64 x4485,.own 16,.own 17])),(16,some (.row 2 87 (x4486.map Z0))),(17,some (.row 2 87 (x4487.map Z0))),(18,some (.box 39 [iV .i64 0,iV .i64 0,iV .i64 0,iV .u64 0,iV .u64 0,iV .i64 0,.none0,.none0])),(19,some (.box 39 [iV .i64 0,iV .i64 0,iV .i64 0,iV .u64 0,iV .u64 0,iV .i64 0,.none0,.none0]))],0⟩)) (AWp.cv ?_) ?_
 ·replace H:=e4592;clear e4592
  refine AWp.cond (decide (a0.f1<a1.f1)) (by kernel_rfl) (fun c4010 => ?_) (fun c4010 => ?_)
  ·replace H:=iT c4010 H
   obtain⟨t4458,e4459,H⟩:=Z3 H
   refine sR hP hn hm [(3,.call [] [(0,4),(1,5)] [] [4,5] 0 (.tup [.agg [iV .i64 ((t4458.1).f0),iV .i64 ((t4458.1).f1),iV .i64 ((t4458.1).f2),iV .u64 ((t4458.1).f3),iV .u64 ((t4458.1).f4),iV .i64 ((t4458.1).f5),.own 0,.own 1],iV .i64 t4458.2]) [(0,some (.row 2 87 (((t4458.1).f6).map Z0))),(1,some (.row 2 87 (((t4458.1).f7).map Z0)))])] [] [2,3,4,5] [(1,some (.box 39 [iV .i64 ((t4458.1).f0),iV .i64 ((t4458.1).f1),iV .i64 ((t4458.1).f2),iV .u64 ((t4458.1).f3),iV .u64 ((t4458.1).f4),iV .i64 ((t4458.1).f5),.own 4,.own 5])),(4,some (.row 2 87 (((t4458.1).f6).map Z0))),(5,some (.row 2 87 (((t4458.1).f7).map Z0)))] [0,1,2,3,4,5] [_,_] ⟨Tryz.call92,Z2e.ok a1 a0.f1 t4458 e4459,trivial⟩ ?_
   obtain⟨t4462,e4463,H⟩:=Z3 H
   refine rG hP hn hm [(3,.call [] [(0,6),(1,7)] [] [6,7] 0 (.tup [.agg [iV .i64 ((t4462.1).f0),iV .i64 ((t4462.1).f1),iV .i64 ((t4462.1).f2),iV .u64 ((t4462.1).f3),iV .u64 ((t4462.1).f4),iV .i64 ((t4462.1).f5),.own 0,.own 1],iV .i64 t4462.2]) [(0,some (.row 2 87 (((t4462.1).f6).map Z0))),(1,some (.row 2 87 (((t4462.1).f7).map Z0)))])] [] [2,3,4,5] [(0,some (.box 39 [iV .i64 ((t4462.1).f0),iV .i64 ((t4462.1).f1),iV .i64 ((t4462.1).f2),iV .u64 ((t4462.1).f3),iV .u64 ((t4462.1).f4),iV .i64 ((t4462.1).f5),.own 6,.own 7])),(6,some (.row 2 87 (((t4462.1).f6).map Z0))),(7,some (.row 2 87 (((t4462.1).f7).map Z0)))] [0,1,2,3,4,5,6,7] [_,_] ⟨Tryz.call92,Z2e.ok a0 a0.f1 t4462 e4463,trivial⟩ ?_
   obtain rfl:=sj H
   exact lf [(0,12),(6,13),(7,14),(1,15),(4,16),(5,17),(2,18),(3,19)] [] [] (by kernel_rfl) ⟨rfl,rfl⟩
  ·replace H:=iF c4010 H
   obtain⟨t4466,e4467,H⟩:=Z3 H
   refine sR hP hn hm [(3,.call [] [(0,8),(1,9)] [] [8,9] 0 (.tup [.agg [iV .i64 ((t4466.1).f0),iV .i64 ((t4466.1).f1),iV .i64 ((t4466.1).f2),iV .u64 ((t4466.1).f3),iV .u64 ((t4466.1).f4),iV .i64 ((t4466.1).f5),.own 0,.own 1],iV .i64 t4466.2]) [(0,some (.row 2 87 (((t4466.1).f6).map Z0))),(1,some (.row 2 87 (((t4466.1).f7).map Z0)))])] [] [2,3,4,5] [(0,some (.box 39 [iV .i64 ((t4466.1).f0),iV .i64 ((t4466.1).f1),iV .i64 ((t4466.1).f2),iV .u64 ((t4466.1).f3),iV .u64 ((t4466.1).f4),iV .i64 ((t4466.1).f5),.own 8,.own 9])),(8,some (.row 2 87 (((t4466.1).f6).map Z0))),(9,some (.row 2 87 (((t4466.1).f7).map Z0)))] [0,1,2,3,8,9] [_,_] ⟨Tryz.call92,Z2e.ok a0 a1.f1 t4466 e4467,trivial⟩ ?_
   obtain⟨t4470,e4471,H⟩:=Z3 H
   refine rG hP hn hm [(3,.call [] [(0,10),(1,11)] [] [10,11] 0 (.tup [.agg [iV .i64 ((t4470.1).f0),iV .i64 ((t4470.1).f1),iV .i64 ((t4470.1).f2),iV .u64 ((t4470.1).f3),iV .u64 ((t4470.1).f4),iV .i64 ((t4470.1).f5),.own 0,.own 1],iV .i64 t4470.2]) [(0,some (.row 2 87 (((t4470.1).f6).map Z0))),(1,some (.row 2 87 (((t4470.1).f7).map Z0)))])] [] [2,3,4,5] [(1,some (.box 39 [iV .i64 ((t4470.1).f0),iV .i64 ((t4470.1).f1),iV .i64 ((t4470.1).f2),iV .u64 ((t4470.1).f3),iV .u64 ((t4470.1).f4),iV .i64 ((t4470.1).f5),.own 10,.own 11])),(10,some (.row 2 87 (((t4470.1).f6).map Z0))),(11,some (.row 2 87 (((t4470.1).f7).map Z0)))] [0,1,2,3,8,9,10,11] [_,_] ⟨Tryz.call92,Z2e.ok a1 a1.f1 t4470 e4471,trivial⟩ ?_
   obtain rfl:=sj H
   exact lf [(0,12),(8,13),(9,14),(1,15),(10,16),(11,17),(2,18),(3,19)] [] [] (by kernel_rfl) ⟨rfl,rfl⟩
 ·obtain⟨x4472,x4473,x4474,x4475,x4476,x4477,x4478,x4479,x4480,x4481,x4482,x4483,x4484,x4485,x4486,x4487⟩:=o4591
  rintro e s ⟨rfl,rfl⟩
  refine AWp.seq ?_
  refine AWp.block ?_
  obtain⟨o4593,e4594,H⟩:=Z3 H
  refine AWp.loop (LWp.conv (inv:=[(12,24),(15,25),(18,26),(19,27)]) (vk:=[13,14,16,17]) (e0:=[]) (t:=⟨[(2,.ptr 24 0 0),(3,.ptr 25 0 0),(4,.ptr 26 0 0),(5,.ptr 27 0 0)],[(24,some (.box 39 (Zh ⟨x4472,x4473,x4474,x4475,x4476,x4477,x4478,x4479⟩))),(25,some (.box 39 (Zh ⟨x4480,x4481,x4482,x4483,x4484,x4485,x4486,x4487⟩))),(26,some (.box 39 [iV .i64 0,iV .i64 0,iV .i64 0,iV .u64 0,iV .u64 0,iV .i64 0,.none0,.none0])),(27,some (.box 39 [iV .i64 0,iV .i64 0,iV .i64 0,iV .u64 0,iV .u64 0,iV .i64 0,.none0,.none0]))],0⟩) (by kernel_rfl) ?_)
  refine LWp.mono (Q:=fun e s=>(match (generalizing:=false) o4593 with | (x4575,x4576,x4577,x4578,x4579,x4580,x4581,x4582,x4583,x4584,x4585,x4586,x4587,x4588,x4589,x4590)=>e = .exit 0∧s=⟨[(2,.ptr 32 0 0),(3,.ptr 33 0 0),(4,.ptr 34 0 0),(5,.ptr 35 0 0)],[(32,some (.box 39 (Zh ⟨x4575,x4576,x4577,x4578,x4579,x4580,x4581,x4582⟩))),(33,some (.box 39 (Zh ⟨x4583,x4584,x4585,x4586,x4587,x4588,x4589,x4590⟩))),(34,some (.box 39 [iV .i64 0,iV .i64 0,iV .i64 0,iV .u64 0,iV .u64 0,iV .i64 0,.none0,.none0])),(35,some (.box 39 [iV .i64 0,iV .i64 0,iV .i64 0,iV .u64 0,iV .u64 0,iV .i64 0,.none0,.none0]))],0⟩)) (LWp.cv (Zn (fun body hbody => ?_))) ?_
  ·refine         Z1g.l0.partial_correctness  (motive:=fun v o4593=>(match (generalizing:=false) v with | (x4533,x4534,x4535,x4536,x4537,x4538,x4539,x4540,x4541,x4542,x4543,x4544,x4545,x4546,x4547,x4548)=>LWp Γ body (fun e s=>∃ t,Cv Γ s t∧(match (generalizing:=false) o4593 with | (x4575,x4576,x4577,x4578,x4579,x4580,x4581,x4582,x4583,x4584,x4585,x4586,x4587,x4588,x4589,x4590)=>e = .exit 0∧t=⟨[(2,.ptr 32 0 0),(3,.ptr 33 0 0),(4,.ptr 34 0 0),(5,.ptr 35 0 0)],[(32,some (.box 39 (Zh    ⟨x4575,x4576,x4577,x4578,x4579,x4580,x4581,x4582⟩))),(33,some (.box 39 (Zh    ⟨x4583,x4584,x4585,x4586,x4587,x4588,x4589,x4590⟩))),(34,some (.box 39 [iV .i64 0,iV .i64 0,iV .i64 0,iV .u64 0,iV .u64 0,iV .i64 0,.none0,.none0])),(35,some (.box 39 [iV .i64 0,iV .i64 0,iV .i64 0,iV .u64 0,iV .u64 0,iV .i64 0,.none0,.none0]))],0⟩)) ⟨[(2,.ptr 24 0 0),(3,.ptr 25 0 0),(4,.ptr 26 0 0),(5,.ptr 27 0 0)],[(24,some (.box 39 (Zh    ⟨x4533,x4534,x4535,x4536,x4537,x4538,x4539,x4540⟩))),(25,some (.box 39 (Zh    ⟨x4541,x4542,x4543,x4544,x4545,x4546,x4547,x4548⟩))),(26,some (.box 39 [iV .i64 0,iV .i64 0,iV .i64 0,iV .u64 0,iV .u64 0,iV .i64 0,.none0,.none0])),(27,some (.box 39 [iV .i64 0,iV .i64 0,iV .i64 0,iV .u64 0,iV .u64 0,iV .i64 0,.none0,.none0]))],0⟩)) ?_ _ _ e4594
   clear H e4594 o4593;intro self ih v o4593 H
   obtain⟨x4533,x4534,x4535,x4536,x4537,x4538,x4539,x4540,x4541,x4542,x4543,x4544,x4545,x4546,x4547,x4548⟩:=v
   dsimp only at H
   subst hbody
   refine LWp.round ?_
   refine AWp.seq ?_
   refine sO hP hn hm [] [(43,bV (x4535 != x4543))] [2,3,4,5,43] [] [24,25,26,27] ?_
   refine AWp.cond (x4535 != x4543) (by kernel_rfl) (fun c4549 => ?_) (fun c4549 => ?_)
   ·replace H:=iT c4549 H
    refine AWp.skip ?_
    refine AWp.block ?_
    refine sO hP hn hm [] [(48,bV (decide (x4535<x4543)))] [2,3,4,5,48] [] [24,25,26,27] ?_
    obtain⟨o4595,e4596,H⟩:=Z3 H
    refine AWp.mono (Q:=fun e s=>(match (generalizing:=false) o4595 with | (x4559,x4560,x4561,x4562,x4563,x4564,x4565,x4566,x4567,x4568,x4569,x4570,x4571,x4572,x4573,x4574)=>e = .normal∧s=⟨[(2,.ptr 28 0 0),(3,.ptr 29 0 0),(4,.ptr 30 0 0),(5,.ptr 31 0 0)],[(28,some (.box 39 (Zh ⟨x4559,x4560,x4561,x4562,x4563,x4564,x4565,x4566⟩))),(29,some (.box 39 (Zh ⟨x4567,x4568,x4569,x4570,x4571,x4572,x4573,x4574⟩))),(30,some (.box 39 [iV .i64 0,iV .i64 0,iV .i64 0,iV .u64 0,iV .u64 0,iV .i64 0,.none0,.none0])),(31,some (.box 39 [iV .i64 0,iV .i64 0,iV .i64 0,iV .u64 0,iV .u64 0,iV .i64 0,.none0,.none0]))],0⟩)) (AWp.cv ?_) ?_
    ·replace H:=e4596;clear e4596
     refine AWp.cond (decide (x4535<x4543)) (by kernel_rfl) (fun c4550 => ?_) (fun c4550 => ?_)
     ·replace H:=iT c4550 H
      obtain⟨t4553,e4554,H⟩:=Z3 H
      refine rG hP hn hm [(3,.call [] [] [] [] 0 (.tup [.agg (Zh (t4553.1)),iV .i64 t4553.2]) [])] [] [2,3,4,5] [(24,some (.box 39 (Zh (t4553.1))))] [24,25,26,27] [_,_] ⟨Tryz.call93,Z2l.ok (⟨x4533,x4534,x4535,x4536,x4537,x4538,x4539,x4540⟩:Ze) x4543 t4553 e4554,trivial⟩ ?_
      obtain rfl:=sj H
      exact lf [(24,28),(25,29),(26,30),(27,31)] [] [] (by kernel_rfl) ⟨rfl,rfl⟩
     ·replace H:=iF c4550 H
      obtain⟨t4557,e4558,H⟩:=Z3 H
      refine rG hP hn hm [(3,.call [] [] [] [] 0 (.tup [.agg (Zh (t4557.1)),iV .i64 t4557.2]) [])] [] [2,3,4,5] [(25,some (.box 39 (Zh (t4557.1))))] [24,25,26,27] [_,_] ⟨Tryz.call93,Z2l.ok (⟨x4541,x4542,x4543,x4544,x4545,x4546,x4547,x4548⟩:Ze) x4535 t4557 e4558,trivial⟩ ?_
      obtain rfl:=sj H
      exact lf [(24,28),(25,29),(26,30),(27,31)] [] [] (by kernel_rfl) ⟨rfl,rfl⟩
    ·obtain⟨x4559,x4560,x4561,x4562,x4563,x4564,x4565,x4566,x4567,x4568,x4569,x4570,x4571,x4572,x4573,x4574⟩:=o4595
     rintro e s ⟨rfl,rfl⟩
     exact LWp.conv [(28,24),(29,25),(30,26),(31,27)] [] [] (by kernel_rfl) (ih _ _ H)
   ·replace H:=iF c4549 H
    refine AWp.exit ?_
    obtain rfl:=sj H
    exact lf [(24,32),(25,33),(26,34),(27,35)] [] [] (by kernel_rfl) ⟨rfl,rfl⟩
  ·obtain⟨x4575,x4576,x4577,x4578,x4579,x4580,x4581,x4582,x4583,x4584,x4585,x4586,x4587,x4588,x4589,x4590⟩:=o4593
   rintro e s ⟨rfl,rfl⟩
   refine sO hP hn hm [] [] [4,5] [(34,some (.box 39 (Zh ⟨x4575,x4576,x4577,x4578,x4579,x4580,x4581,x4582⟩))),(35,some (.box 39 (Zh ⟨x4583,x4584,x4585,x4586,x4587,x4588,x4589,x4590⟩)))] [34,35] ?_
   refine AWp.conv (inv:=[(34,0),(35,1)]) (vk:=[]) (e0:=[]) (t:=⟨[(4,.ptr 0 0 0),(5,.ptr 1 0 0)],[(0,some (.box 39 (Zh ((⟨x4575,x4576,x4577,x4578,x4579,x4580,x4581,x4582⟩:Ze))))),(1,some (.box 39 (Zh ((⟨x4583,x4584,x4585,x4586,x4587,x4588,x4589,x4590⟩:Ze)))))],0⟩) (by kernel_rfl) ?_
   refine AWp.ret ?_
   obtain rfl:=sj H
   exact rl (.inl rfl) rfl (by kernel_rfl) (by kernel_rfl)
def Z31.l0 (a0:List Z2) (a1:Int) (x4613:Int):Option (Int ⊕ Unit):=if(decide (x4613<(a0.length:Int)))=true then((at? a0 x4613)>>=fun b4618=>if(b4618.f0==a1)=true then(some (.inl b4618.f1)) else(Z31.l0 a0 a1 (i64.wrap (x4613+(1:Int))))) else(some (.inr ()))
partial_fixpoint
def Z31.f (a0:List Z2) (a1:Int):Option (Int):=(Z31.l0 a0 a1 0)>>=fun oo=>match oo with | .inl rr=>(some rr) | .inr _=>(some 0)
theorem Z31.ok (a0:List Z2) (a1:Int) (r:Int) (H:Z31.f a0 a1=some r):Pv.Fn Tryz.prog 78 [.im (.row (a0.map Z0)),iV .i64 a1] [] 0 (fun x o=>x=iV .u64 r∧o=[]):=by
 unfold Z31.f at H
 refine Fn.bodyK [] Tryz.func78 rfl rfl (fun Γ hP hn => ?_)
 have hm:Tryz.prog.follows .mixedOrders=true:=by kernel_rfl
 replace hn:Γ.n=24:=hn
 refine sO hP hn hm [] [] [0,1] [] [] ?_
 refine AWp.seq ?_
 refine sO hP hn hm [] [(5,iV .i64 0)] [0,1,5] [] [] ?_
 refine AWp.block ?_
 obtain⟨o4622,e4623,H⟩:=Z3 H
 refine AWp.loop (LWp.conv (inv:=[]) (vk:=[]) (e0:=[]) (t:=⟨[(0,.im (.row (a0.map Z0))),(1,iV .i64 a1),(5,iV .i64 0)],[],0⟩) (by kernel_rfl) ?_)
 refine LWp.mono (Q:=fun e s=>(match (generalizing:=false) o4622 with | .inl rr=>e = .ret∧s.floor=0∧Z1x Tryz.prog Tryz.f78 s=some (iV .u64 rr)∧([]:List (Nat×Option MObj))=[] | .inr _=>e = .exit 0∧s=⟨[],[],0⟩)) (LWp.cv (Zn (fun body hbody => ?_))) ?_
 ·refine      Z31.l0.partial_correctness a0 a1 (motive:=fun x4613 o4622=>LWp Γ body (fun e s=>∃ t,Cv Γ s t∧(match (generalizing:=false) o4622 with | .inl rr=>e = .ret∧t.floor=0∧Z1x   Tryz.prog Tryz.f78 t=some (iV .u64 rr)∧([]:List (Nat×Option MObj))=[] | .inr _=>e = .exit 0∧t=⟨[],[],0⟩)) ⟨[(0,.im (.row (a0.map Z0     ))),(1,iV .i64 a1),(5,iV .i64 x4613)],[],0⟩) ?_ _ _ e4623
  clear H e4623 o4622;intro self ih x4613 o4622 H
  subst hbody
  refine LWp.round ?_
  refine AWp.seq ?_
  refine sR hP hn hm [(2,.any (iV .i64 (a0.length:Int)))] [(9,bV (decide (x4613<(a0.length:Int))))] [0,1,5,9] [] [] [((a0.map Z0).length:Int)=(a0.length:Int)] ⟨by rw[Zi],trivial⟩ ?_
  refine AWp.cond (decide (x4613<(a0.length:Int))) (by kernel_rfl) (fun c4614 => ?_) (fun c4614 => ?_)
  ·replace H:=iT c4614 H
   refine AWp.skip ?_
   refine AWp.seq ?_
   refine AWp.block ?_
   obtain⟨b4618,p4619,q4620,H⟩:=Z03 H
   refine sR hP hn hm [(2,.c (Z0 b4618))] [(18,bV (b4618.f0==a1))] [0,1,5,18] [] [] [_,_] ⟨p4619,Zf Z0 q4620,trivial⟩ ?_
   refine AWp.cond (b4618.f0==a1) (by kernel_rfl) (fun c4621 => ?_) (fun c4621 => ?_)
   ·replace H:=iT c4621 H
    refine sR hP hn hm [(2,.c (Z0 b4618))] [(4,iV .u64 b4618.f1)] [4] [] [] [_,_] ⟨p4619,Zf Z0 q4620,trivial⟩ ?_
    refine AWp.conv (inv:=[]) (vk:=[]) (e0:=[]) (t:=⟨[(4,iV .u64 b4618.f1)],[],0⟩) (by kernel_rfl) ?_
    refine AWp.ret ?_
    obtain rfl:=sj H
    exact rl rfl rfl (by kernel_rfl) (by kernel_rfl)
   ·replace H:=iF c4621 H
    refine AWp.skip ?_
    refine rO hP hn hm [] [(5,iV .i64 (i64.wrap (x4613+(1:Int))))] [0,1,5] [] [] ?_
    exact LWp.conv [] [] [] (by kernel_rfl) (ih _ _ H)
  ·replace H:=iF c4614 H
   refine AWp.exit ?_
   obtain rfl:=sj H
   exact lf [] [] [] (by kernel_rfl) ⟨rfl,rfl⟩
 ·rcases o4622 with rr | _
  ·skip
   rintro e s ⟨rfl,hfl,hres⟩
   obtain rfl:=sj H
   exact Exists.intro _ (And.intro (fun _ _ h=>h) (And.intro (.inl rfl) (And.intro hfl hres)))
  ·skip
   rintro e s ⟨rfl,rfl⟩
   refine sO hP hn hm [] [(4,iV .u64 0)] [4] [] [] ?_
   refine AWp.conv (inv:=[]) (vk:=[]) (e0:=[]) (t:=⟨[(4,iV .u64 0)],[],0⟩) (by kernel_rfl) ?_
   refine AWp.ret ?_
   obtain rfl:=sj H
   exact rl (.inl rfl) rfl (by kernel_rfl) (by kernel_rfl)
def Z14.l0 (a0:List Z2) (a1:List Z2) (x4632:Int):Option (((List Z2)×Bool) ⊕ Unit):=if(decide (x4632<(a1.length:Int)))=true then((at? a1 x4632)>>=fun b4639=>(Z31.f a0 b4639.f0)>>=fun t4642=>if(decide (t4642<b4639.f1))=true then(some (.inl ([],false))) else(Z14.l0 a0 a1 (i64.wrap (x4632+(1:Int))))) else(some (.inr ()))
partial_fixpoint
def Z14.l1 (a0:List Z2) (a1:List Z2) (x4660:List Z2) (x4661:Int):Option (List Z2):=if(decide (x4661<(a0.length:Int)))=true then((at? a0 x4661)>>=fun b4668=>(Z31.f a1 b4668.f0)>>=fun t4671=>((if(decide ((u64.wrap (b4668.f1-t4671))>(0:Int)))=true then((chk ((x4660.length+[(⟨b4668.f0,u64.wrap (b4668.f1-t4671)⟩:Z2)].length)*16≤140737488355328))>>=fun _=>some (x4660++[(⟨b4668.f0,u64.wrap (b4668.f1-t4671)⟩:Z2)])) else(some x4660)):Option (List Z2))>>=fun x4676=>Z14.l1 a0 a1 x4676 (i64.wrap (x4661+(1:Int)))) else(some x4660)
partial_fixpoint
def Z14.f (a0:List Z2) (a1:List Z2):Option ((List Z2)×Bool):=(Z14.l0 a0 a1 0)>>=fun oo=>match oo with | .inl rr=>(some rr) | .inr _=>((Z14.l1 a0 a1 [] 0)>>=fun x4677=>some (x4677,true))
theorem Z14.ok (a0:List Z2) (a1:List Z2) (r:(List Z2)×Bool) (H:Z14.f a0 a1=some r):Pv.Fn Tryz.prog 83 [.im (.row (a0.map Z0)),.im (.row (a1.map Z0))] [] 0 (fun x o=>x = .tup [.own 0,bV r.2]∧o=[(0,some (.row 2 87 (r.1.map Z0)))]):=by
 unfold Z14.f at H
 refine Fn.bodyK [0] Tryz.func83 rfl rfl (fun Γ hP hn => ?_)
 have hm:Tryz.prog.follows .mixedOrders=true:=by kernel_rfl
 replace hn:Γ.n=61:=hn
 refine sO hP hn hm [] [] [0,1] [] [] ?_
 refine AWp.seq ?_
 refine sO hP hn hm [] [(6,iV .i64 0)] [0,1,6] [] [] ?_
 refine AWp.block ?_
 obtain⟨o4678,e4679,H⟩:=Z3 H
 refine AWp.loop (LWp.conv (inv:=[]) (vk:=[]) (e0:=[]) (t:=⟨[(0,.im (.row (a0.map Z0))),(1,.im (.row (a1.map Z0))),(6,iV .i64 0)],[],0⟩) (by kernel_rfl) ?_)
 refine LWp.mono (Q:=fun e s=>(match (generalizing:=false) o4678 with | .inl rr=>e = .ret∧s.floor=0∧Z1x Tryz.prog Tryz.f83 s=some (.tup [.own 0,bV rr.2])∧([(0,s.obj 0)]:List (Nat×Option MObj))=[(0,some (.row 2 87 (rr.1.map Z0)))] | .inr _=>e = .exit 0∧s=⟨[(0,.im (.row (a0.map Z0))),(1,.im (.row (a1.map Z0)))],[],0⟩)) (LWp.cv (Zn (fun body hbody => ?_))) ?_
 ·refine       Z14.l0.partial_correctness a0 a1 (motive:=fun x4632 o4678=>LWp Γ body (fun e s=>∃ t,Cv Γ s t∧(match (generalizing:=false) o4678 with | .inl rr=>e = .ret∧t.floor=0∧Z1x   Tryz.prog Tryz.f83 t=some (.tup [.own 0,bV rr.2])∧([(0,t.obj 0)]:List (Nat×Option MObj))=[(0,some (.row 2 87 (rr.1.map Z0     )))] | .inr _=>e = .exit 0∧t=⟨[(0,.im (.row (a0.map Z0     ))),(1,.im (.row (a1.map Z0     )))],[],0⟩)) ⟨[(0,.im (.row (a0.map Z0     ))),(1,.im (.row (a1.map Z0     ))),(6,iV .i64 x4632)],[],0⟩) ?_ _ _ e4679
  clear H e4679 o4678;intro self ih x4632 o4678 H
  subst hbody
  refine LWp.round ?_
  refine AWp.seq ?_
  refine sR hP hn hm [(2,.any (iV .i64 (a1.length:Int)))] [(13,bV (decide (x4632<(a1.length:Int))))] [0,1,6,13] [] [] [((a1.map Z0).length:Int)=(a1.length:Int)] ⟨by rw[Zi],trivial⟩ ?_
  refine AWp.cond (decide (x4632<(a1.length:Int))) (by kernel_rfl) (fun c4633 => ?_) (fun c4633 => ?_)
  ·replace H:=iT c4633 H
   refine AWp.skip ?_
   refine AWp.seq ?_
   refine AWp.block ?_
   obtain⟨b4639,p4640,q4641,H⟩:=Z03 H
   obtain⟨t4642,e4643,H⟩:=Z3 H
   refine sR hP hn hm [(3,.c (Z0 b4639)),(6,.call [] [] [] [] 0 (iV .u64 t4642) []),(9,.c (Z0 b4639))] [(28,bV (decide (t4642<b4639.f1)))] [0,1,6,28] [] [] [_,_,_,_,_,_] ⟨p4640,Zf Z0 q4641,Tryz.call78,Z31.ok a0 b4639.f0 t4642 e4643,p4640,Zf Z0 q4641,trivial⟩ ?_
   refine AWp.cond (decide (t4642<b4639.f1)) (by kernel_rfl) (fun c4644 => ?_) (fun c4644 => ?_)
   ·replace H:=iT c4644 H
    refine sO hP hn hm [] [(4,.none0),(5,bV false)] [4,5] [] [] ?_
    refine AWp.conv (inv:=[]) (vk:=[]) (e0:=[0]) (t:=⟨[(4,.own 0),(5,bV false)],[(0,some (.row 2 87 ([].map Z0)))],0⟩) (by kernel_rfl) ?_
    refine AWp.ret ?_
    obtain rfl:=sj H
    exact rl rfl rfl (by kernel_rfl) (by kernel_rfl)
   ·replace H:=iF c4644 H
    refine AWp.skip ?_
    refine rO hP hn hm [] [(6,iV .i64 (i64.wrap (x4632+(1:Int))))] [0,1,6] [] [] ?_
    exact LWp.conv [] [] [] (by kernel_rfl) (ih _ _ H)
  ·replace H:=iF c4633 H
   refine AWp.exit ?_
   obtain rfl:=sj H
   exact lf [] [] [] (by kernel_rfl) ⟨rfl,rfl⟩
 ·rcases o4678 with rr | _
  ·skip
   rintro e s ⟨rfl,hfl,hres⟩
   obtain rfl:=sj H
   exact Exists.intro _ (And.intro (fun _ _ h=>h) (And.intro (.inl rfl) (And.intro hfl hres)))
  ·skip
   rintro e s ⟨rfl,rfl⟩
   refine sO hP hn hm [] [(7,.none0)] [0,1,7] [] [] ?_
   refine AWp.seq ?_
   refine sO hP hn hm [] [(8,iV .i64 0)] [0,1,7,8] [] [] ?_
   refine AWp.block ?_
   obtain⟨o4680,e4681,H⟩:=Z3 H
   refine AWp.loop (LWp.conv (inv:=[]) (vk:=[]) (e0:=[3]) (t:=⟨[(0,.im (.row (a0.map Z0))),(1,.im (.row (a1.map Z0))),(7,.own 3),(8,iV .i64 0)],[(3,some (.row 2 87 ([].map Z0)))],0⟩) (by kernel_rfl) ?_)
   refine LWp.mono (Q:=fun e s=>(match (generalizing:=false) o4680 with | x4677=>e = .exit 2∧s=⟨[(7,.own 7)],[(7,some (.row 2 87 (x4677.map Z0)))],0⟩)) (LWp.cv (Zn (fun body hbody => ?_))) ?_
   ·refine       Z14.l1.partial_correctness a0 a1 (motive:=fun x4660 x4661 o4680=>LWp Γ body (fun e s=>∃ t,Cv Γ s t∧(match (generalizing:=false) o4680 with | x4677=>e = .exit 2∧t=⟨[(7,.own 7)],[(7,some (.row 2 87 (x4677.map Z0     )))],0⟩)) ⟨[(0,.im (.row (a0.map Z0     ))),(1,.im (.row (a1.map Z0     ))),(7,.own 3),(8,iV .i64 x4661)],[(3,some (.row 2 87 (x4660.map Z0     )))],0⟩) ?_ _ _ _ e4681
    clear H e4681 o4680;intro self ih x4660 x4661 o4680 H
    subst hbody
    refine LWp.round ?_
    refine AWp.seq ?_
    refine sR hP hn hm [(2,.any (iV .i64 (a0.length:Int)))] [(32,bV (decide (x4661<(a0.length:Int))))] [0,1,7,8,32] [] [3] [((a0.map Z0).length:Int)=(a0.length:Int)] ⟨by rw[Zi],trivial⟩ ?_
    refine AWp.cond (decide (x4661<(a0.length:Int))) (by kernel_rfl) (fun c4662 => ?_) (fun c4662 => ?_)
    ·replace H:=iT c4662 H
     refine AWp.skip ?_
     refine AWp.seq ?_
     refine AWp.block ?_
     obtain⟨b4668,p4669,q4670,H⟩:=Z03 H
     obtain⟨t4671,e4672,H⟩:=Z3 H
     refine sR hP hn hm [(2,.c (Z0 b4668)),(8,.c (Z0 b4668)),(11,.call [] [] [] [] 0 (iV .u64 t4671) [])] [(9,iV .u64 (u64.wrap (b4668.f1-t4671)))] [0,1,7,8,9] [] [3] [_,_,_,_,_,_] ⟨p4669,Zf Z0 q4670,p4669,Zf Z0 q4670,Tryz.call78,Z31.ok a1 b4668.f0 t4671 e4672,trivial⟩ ?_
     refine sO hP hn hm [] [(49,bV (decide ((u64.wrap (b4668.f1-t4671))>(0:Int))))] [0,1,7,8,9,49] [] [3] ?_
     obtain⟨o4682,e4683,H⟩:=Z3 H
     refine AWp.mono (Q:=fun e s=>(match (generalizing:=false) o4682 with | x4676=>e = .normal∧s=⟨[(0,.im (.row (a0.map Z0))),(1,.im (.row (a1.map Z0))),(7,.own 6),(8,iV .i64 x4661)],[(6,some (.row 2 87 (x4676.map Z0)))],0⟩)) (AWp.cv ?_) ?_
     ·replace H:=e4683;clear e4683
      refine AWp.cond (decide ((u64.wrap (b4668.f1-t4671))>(0:Int))) (by kernel_rfl) (fun c4673 => ?_) (fun c4673 => ?_)
      ·replace H:=iT c4673 H
       obtain⟨c4675,H⟩:=Z0q H
       refine rG hP hn hm [(3,.c (Z0 b4668)),(8,.app 4 ([(⟨b4668.f0,u64.wrap (b4668.f1-t4671)⟩:Z2)].map Z0)),(9,.app 5 ((x4660++[(⟨b4668.f0,u64.wrap (b4668.f1-t4671)⟩:Z2)]).map Z0))] [(7,.own 5)] [0,1,7,8] [(5,some (.row 2 87 ((x4660++[(⟨b4668.f0,u64.wrap (b4668.f1-t4671)⟩:Z2)]).map Z0)))] [5] [_,_,[(⟨b4668.f0,u64.wrap (b4668.f1-t4671)⟩:Z2)].map Z0=[[iI .i64 b4668.f0,iI .u64 (u64.wrap (b4668.f1-t4671))]],(x4660++[(⟨b4668.f0,u64.wrap (b4668.f1-t4671)⟩:Z2)]).map Z0=(x4660.map Z0)++([(⟨b4668.f0,u64.wrap (b4668.f1-t4671)⟩:Z2)].map Z0),∀ c∈([(⟨b4668.f0,u64.wrap (b4668.f1-t4671)⟩:Z2)].map Z0),c.length=2,∀ c∈([(⟨b4668.f0,u64.wrap (b4668.f1-t4671)⟩:Z2)].map Z0),Z0m (c.map .im)=true,((x4660.map Z0).length+([(⟨b4668.f0,u64.wrap (b4668.f1-t4671)⟩:Z2)].map Z0).length)*16≤140737488355328] ⟨p4669,Zf Z0 q4670,by exact rfl,by simp,by exact Z0k _ _ _ (fun _=>rfl),by exact Z0j _ _ (fun _=>rfl),by simpa using c4675,trivial⟩ ?_
       obtain rfl:=sj H
       exact lf [(5,6)] [] [] (by kernel_rfl) ⟨rfl,rfl⟩
      ·replace H:=iF c4673 H
       refine AWp.skip ?_
       obtain rfl:=sj H
       exact lf [(3,6)] [] [] (by kernel_rfl) ⟨rfl,rfl⟩
     ·obtain⟨x4676,rfl⟩:∃ z,z=o4682:=⟨_,rfl⟩
      rintro e s ⟨rfl,rfl⟩
      refine rO hP hn hm [] [(8,iV .i64 (i64.wrap (x4661+(1:Int))))] [0,1,7,8] [] [6] ?_
      exact LWp.conv [(6,3)] [] [] (by kernel_rfl) (ih _ _ _ H)
    ·replace H:=iF c4662 H
     refine AWp.exit ?_
     obtain rfl:=sj H
     exact lf [(3,7)] [] [] (by kernel_rfl) ⟨rfl,rfl⟩
   ·obtain⟨x4677,rfl⟩:∃ z,z=o4680:=⟨_,rfl⟩
    rintro e s ⟨rfl,rfl⟩
    refine sO hP hn hm [] [(4,.own 7),(5,bV true)] [4,5] [] [7] ?_
    refine AWp.conv (inv:=[(7,0)]) (vk:=[]) (e0:=[]) (t:=⟨[(4,.own 0),(5,bV true)],[(0,some (.row 2 87 (x4677.map Z0)))],0⟩) (by kernel_rfl) ?_
    refine AWp.ret ?_
    obtain rfl:=sj H
    exact rl (.inl rfl) rfl (by kernel_rfl) (by kernel_rfl)
def Z32.f (a0:Ze) (a1:Ze):Option (Ze×Int):=((if(a1.f5==(-9223372036854775808))=true then(some (i64.wrap (a1.f5+(1:Int)))) else(some a1.f5)):Option (Int))>>=fun x3966=>((if(a1.f5==(-9223372036854775808))=true then((chk (([a0.f5,i64.wrap (0-x3966)].length+[1].length)*8≤140737488355328))>>=fun _=>some ([a0.f5,i64.wrap (0-x3966)]++[1])) else(some [a0.f5,i64.wrap (0-x3966)])):Option (List Int))>>=fun x3970=>(Z1h.f x3970)>>=fun t4008=>(Z1g.f a0 a1)>>=fun t4599=>(Z14.f ((t4599.1).f6) ((t4599.2).f6))>>=fun t4686=>(Z14.f ((t4599.1).f7) ((t4599.2).f7))>>=fun t4690=>((if(!t4686.2)=true then(some true) else(if(!t4690.2)=true then(some true) else(some (decide (((t4599.1).f3)<((t4599.2).f3)))))):Option (Bool))>>=fun x4696=>if x4696=true then(some ((⟨0,0,0,0,0,0,[],[]⟩:Ze),21)) else(if(t4008.2 != (0:Int))=true then(some ((⟨0,0,0,0,0,0,[],[]⟩:Ze),5)) else(some ((⟨(t4599.1).f0,(t4599.1).f1,(t4599.1).f2,u64.wrap (((t4599.1).f3)-((t4599.2).f3)),u64.wrap (((t4599.1).f4)-((t4599.2).f4)),t4008.1,t4686.1,t4690.1⟩:Ze),0)))
theorem Z32.ok (a0:Ze) (a1:Ze) (r:Ze×Int) (H:Z32.f a0 a1=some r):Pv.Fn Tryz.prog 49 [.agg (Zh a0),.agg (Zh a1)] [] 0 (fun x o=>x = .tup [.agg [iV .i64 ((r.1).f0),iV .i64 ((r.1).f1),iV .i64 ((r.1).f2),iV .u64 ((r.1).f3),iV .u64 ((r.1).f4),iV .i64 ((r.1).f5),.own 0,.own 1],iV .i64 r.2]∧o=[(0,some (.row 2 87 (((r.1).f6).map Z0))),(1,some (.row 2 87 (((r.1).f7).map Z0)))]):=by
 unfold Z32.f at H
 refine Fn.bodyK [0,1] Tryz.func49 rfl rfl (fun Γ hP hn => ?_)
 have hm:Tryz.prog.follows .mixedOrders=true:=by kernel_rfl
 replace hn:Γ.n=97:=hn
 refine sO hP hn hm [(0,.k 0),(1,.k 1),(2,.k 2)] [(2,.ptr 0 0 0),(3,.ptr 1 0 0),(4,.ptr 2 0 0)] [2,3,4] [(0,some (.box 39 (Zh a0))),(1,some (.box 39 (Zh a1))),(2,some (.box 39 [iV .i64 0,iV .i64 0,iV .i64 0,iV .u64 0,iV .u64 0,iV .i64 0,.none0,.none0]))] [0,1,2] ?_
 refine sO hP hn hm [] [(6,iV .i64 a1.f5)] [2,3,4,6] [] [0,1,2] ?_
 refine sO hP hn hm [] [(7,bV (a1.f5==(-9223372036854775808)))] [2,3,4,6,7] [] [0,1,2] ?_
 refine AWp.seq ?_
 refine sO hP hn hm [] [(20,bV (a1.f5==(-9223372036854775808)))] [2,3,4,6,7,20] [] [0,1,2] ?_
 obtain⟨o4699,e4700,H⟩:=Z3 H
 refine AWp.mono (Q:=fun e s=>(match (generalizing:=false) o4699 with | x3966=>e = .normal∧s=⟨[(2,.ptr 3 0 0),(3,.ptr 4 0 0),(4,.ptr 5 0 0),(6,iV .i64 x3966),(7,bV (a1.f5==(-9223372036854775808)))],[(3,some (.box 39 (Zh a0))),(4,some (.box 39 (Zh a1))),(5,some (.box 39 [iV .i64 0,iV .i64 0,iV .i64 0,iV .u64 0,iV .u64 0,iV .i64 0,.none0,.none0]))],0⟩)) (AWp.cv ?_) ?_
 ·replace H:=e4700;clear e4700
  refine AWp.cond (a1.f5==(-9223372036854775808)) (by kernel_rfl) (fun c3965 => ?_) (fun c3965 => ?_)
  ·replace H:=iT c3965 H
   refine rO hP hn hm [] [(6,iV .i64 (i64.wrap (a1.f5+(1:Int))))] [2,3,4,6,7] [] [0,1,2] ?_
   obtain rfl:=sj H
   exact lf [(0,3),(1,4),(2,5)] [] [] (by kernel_rfl) ⟨rfl,rfl⟩
  ·replace H:=iF c3965 H
   refine AWp.skip ?_
   obtain rfl:=sj H
   exact lf [(0,3),(1,4),(2,5)] [] [] (by kernel_rfl) ⟨rfl,rfl⟩
 ·obtain⟨x3966,rfl⟩:∃ z,z=o4699:=⟨_,rfl⟩
  rintro e s ⟨rfl,rfl⟩
  refine sR hP hn hm [(4,.app 6 ([a0.f5,i64.wrap (0-x3966)].map (Z1 .i64)))] [(8,.own 6)] [2,3,4,7,8] [(6,some (.row 1 2 ([a0.f5,i64.wrap (0-x3966)].map (Z1 .i64))))] [3,4,5,6] [[a0.f5,i64.wrap (0-x3966)].map (Z1 .i64)=[[iI .i64 a0.f5],[iI .i64 (i64.wrap (0-x3966))]]] ⟨by exact rfl,trivial⟩ ?_
  refine AWp.seq ?_
  refine sO hP hn hm [] [(28,bV (a1.f5==(-9223372036854775808)))] [2,3,4,8,28] [] [3,4,5,6] ?_
  obtain⟨o4701,e4702,H⟩:=Z3 H
  refine AWp.mono (Q:=fun e s=>(match (generalizing:=false) o4701 with | x3970=>e = .normal∧s=⟨[(2,.ptr 9 0 0),(3,.ptr 10 0 0),(4,.ptr 11 0 0),(8,.own 12)],[(9,some (.box 39 (Zh a0))),(10,some (.box 39 (Zh a1))),(11,some (.box 39 [iV .i64 0,iV .i64 0,iV .i64 0,iV .u64 0,iV .u64 0,iV .i64 0,.none0,.none0])),(12,some (.row 1 2 (x3970.map (Z1 .i64))))],0⟩)) (AWp.cv ?_) ?_
  ·replace H:=e4702;clear e4702
   refine AWp.cond (a1.f5==(-9223372036854775808)) (by kernel_rfl) (fun c3967 => ?_) (fun c3967 => ?_)
   ·replace H:=iT c3967 H
    obtain⟨c3969,H⟩:=Z0q H
    refine rG hP hn hm [(1,.app 7 ([1].map (Z1 .i64))),(2,.app 8 (([a0.f5,i64.wrap (0-x3966)]++[1]).map (Z1 .i64)))] [(8,.own 8)] [2,3,4,8] [(8,some (.row 1 2 (([a0.f5,i64.wrap (0-x3966)]++[1]).map (Z1 .i64))))] [3,4,5,8] [[1].map (Z1 .i64)=[[iI .i64 1]],([a0.f5,i64.wrap (0-x3966)]++[1]).map (Z1 .i64)=([a0.f5,i64.wrap (0-x3966)].map (Z1 .i64))++([1].map (Z1 .i64)),∀ c∈([1].map (Z1 .i64)),c.length=1,∀ c∈([1].map (Z1 .i64)),Z0m (c.map .im)=true,(([a0.f5,i64.wrap (0-x3966)].map (Z1 .i64)).length+([1].map (Z1 .i64)).length)*8≤140737488355328] ⟨by exact rfl,by simp,by exact Z0k _ _ _ (fun _=>rfl),by exact Z0j _ _ (fun _=>rfl),by simpa using c3969,trivial⟩ ?_
    obtain rfl:=sj H
    exact lf [(3,9),(4,10),(5,11),(8,12)] [] [] (by kernel_rfl) ⟨rfl,rfl⟩
   ·replace H:=iF c3967 H
    refine AWp.skip ?_
    obtain rfl:=sj H
    exact lf [(3,9),(4,10),(5,11),(6,12)] [] [] (by kernel_rfl) ⟨rfl,rfl⟩
  ·obtain⟨x3970,rfl⟩:∃ z,z=o4701:=⟨_,rfl⟩
   rintro e s ⟨rfl,rfl⟩
   obtain⟨t4008,e4009,H⟩:=Z3 H
   refine sR hP hn hm [(1,.call [] [] [12] [] 0 (.tup [iV .i64 t4008.1,iV .i64 t4008.2]) [])] [(9,iV .i64 t4008.1),(10,iV .i64 t4008.2)] [2,3,4,9,10] [] [9,10,11] [_,_] ⟨Tryz.call81,Z1h.ok x3970 t4008 e4009,trivial⟩ ?_
   obtain⟨t4599,e4600,H⟩:=Z3 H
   refine sR hP hn hm [(2,.call [] [] [] [] 0 (.tup [.agg (Zh (t4599.1)),.agg (Zh (t4599.2))]) [])] [] [2,3,4,9,10] [(9,some (.box 39 (Zh (t4599.1)))),(10,some (.box 39 (Zh (t4599.2))))] [9,10,11] [_,_] ⟨Tryz.call82,Z1g.ok a0 a1 t4599 e4600,trivial⟩ ?_
   obtain⟨t4686,e4687,H⟩:=Z3 H
   refine sR hP hn hm [(4,.call [] [(0,13)] [] [13] 0 (.tup [.own 0,bV t4686.2]) [(0,some (.row 2 87 (t4686.1.map Z0)))])] [(11,.own 13),(12,bV t4686.2)] [2,3,4,9,10,11,12] [(13,some (.row 2 87 (t4686.1.map Z0)))] [9,10,11,13] [_,_] ⟨Tryz.call83,Z14.ok ((t4599.1).f6) ((t4599.2).f6) t4686 e4687,trivial⟩ ?_
   obtain⟨t4690,e4691,H⟩:=Z3 H
   refine sR hP hn hm [(4,.call [] [(0,14)] [] [14] 0 (.tup [.own 0,bV t4690.2]) [(0,some (.row 2 87 (t4690.1.map Z0)))])] [(13,.own 14),(14,bV t4690.2)] [2,3,4,9,10,11,12,13,14] [(14,some (.row 2 87 (t4690.1.map Z0)))] [9,10,11,13,14] [_,_] ⟨Tryz.call83,Z14.ok ((t4599.1).f7) ((t4599.2).f7) t4690 e4691,trivial⟩ ?_
   refine AWp.seq ?_
   refine AWp.seq ?_
   obtain⟨o4703,e4704,H⟩:=Z3 H
   refine AWp.mono (Q:=fun e s=>(match (generalizing:=false) o4703 with | x4696=>e = .normal∧s=⟨[(2,.ptr 15 0 0),(3,.ptr 16 0 0),(4,.ptr 17 0 0),(9,iV .i64 t4008.1),(10,iV .i64 t4008.2),(11,.own 18),(13,.own 19),(71,bV x4696)],[(15,some (.box 39 (Zh (t4599.1)))),(16,some (.box 39 (Zh (t4599.2)))),(17,some (.box 39 [iV .i64 0,iV .i64 0,iV .i64 0,iV .u64 0,iV .u64 0,iV .i64 0,.none0,.none0])),(18,some (.row 2 87 (t4686.1.map Z0))),(19,some (.row 2 87 (t4690.1.map Z0)))],0⟩)) (AWp.cv ?_) ?_
   ·replace H:=e4704;clear e4704
    rcases Bool.eq_false_or_eq_true (!t4686.2) with c4694 | c4694
    ·replace H:=iT c4694 H
     refine rG hP hn hm [(2,.b true)] [(71,bV true)] [2,3,4,9,10,11,13,71] [] [9,10,11,13,14] [_] ⟨c4694,trivial⟩ ?_
     obtain rfl:=sj H
     exact lf [(9,15),(10,16),(11,17),(13,18),(14,19)] [] [] (by kernel_rfl) ⟨rfl,rfl⟩
    ·replace H:=iF c4694 H
     rcases Bool.eq_false_or_eq_true (!t4690.2) with c4695 | c4695
     ·replace H:=iT c4695 H
      refine rG hP hn hm [(2,.b false),(6,.b true)] [(71,bV true)] [2,3,4,9,10,11,13,71] [] [9,10,11,13,14] [_,_] ⟨c4694,c4695,trivial⟩ ?_
      obtain rfl:=sj H
      exact lf [(9,15),(10,16),(11,17),(13,18),(14,19)] [] [] (by kernel_rfl) ⟨rfl,rfl⟩
     ·replace H:=iF c4695 H
      refine rG hP hn hm [(2,.b false),(6,.b false)] [(71,bV (decide (((t4599.1).f3)<((t4599.2).f3))))] [2,3,4,9,10,11,13,71] [] [9,10,11,13,14] [_,_] ⟨c4694,c4695,trivial⟩ ?_
      obtain rfl:=sj H
      exact lf [(9,15),(10,16),(11,17),(13,18),(14,19)] [] [] (by kernel_rfl) ⟨rfl,rfl⟩
   ·obtain⟨x4696,rfl⟩:∃ z,z=o4703:=⟨_,rfl⟩
    rintro e s ⟨rfl,rfl⟩
    refine AWp.cond x4696 (by kernel_rfl) (fun c4697 => ?_) (fun c4697 => ?_)
    ·replace H:=iT c4697 H
     refine sO hP hn hm [] [(5,iV .i64 21)] [4,5] [] [17] ?_
     refine AWp.conv (inv:=[(17,2)]) (vk:=[]) (e0:=[0,1]) (t:=⟨[(4,.ptr 2 0 0),(5,iV .i64 21)],[(0,some (.row 2 87 ((((⟨0,0,0,0,0,0,[],[]⟩:Ze)).f6).map Z0))),(1,some (.row 2 87 ((((⟨0,0,0,0,0,0,[],[]⟩:Ze)).f7).map Z0))),(2,some (.box 39 [iV .i64 (((⟨0,0,0,0,0,0,[],[]⟩:Ze)).f0),iV .i64 (((⟨0,0,0,0,0,0,[],[]⟩:Ze)).f1),iV .i64 (((⟨0,0,0,0,0,0,[],[]⟩:Ze)).f2),iV .u64 (((⟨0,0,0,0,0,0,[],[]⟩:Ze)).f3),iV .u64 (((⟨0,0,0,0,0,0,[],[]⟩:Ze)).f4),iV .i64 (((⟨0,0,0,0,0,0,[],[]⟩:Ze)).f5),.own 0,.own 1]))],0⟩) (by kernel_rfl) ?_
     refine AWp.ret ?_
     obtain rfl:=sj H
     exact rl (.inl rfl) rfl (by kernel_rfl) (by kernel_rfl)
    ·replace H:=iF c4697 H
     refine AWp.skip ?_
     refine AWp.seq ?_
     refine sO hP hn hm [] [(74,bV (t4008.2 != (0:Int)))] [2,3,4,9,11,13,74] [] [15,16,17,18,19] ?_
     refine AWp.cond (t4008.2 != (0:Int)) (by kernel_rfl) (fun c4698 => ?_) (fun c4698 => ?_)
     ·replace H:=iT c4698 H
      refine sO hP hn hm [] [(5,iV .i64 5)] [4,5] [] [17] ?_
      refine AWp.conv (inv:=[(17,2)]) (vk:=[]) (e0:=[0,1]) (t:=⟨[(4,.ptr 2 0 0),(5,iV .i64 5)],[(0,some (.row 2 87 ((((⟨0,0,0,0,0,0,[],[]⟩:Ze)).f6).map Z0))),(1,some (.row 2 87 ((((⟨0,0,0,0,0,0,[],[]⟩:Ze)).f7).map Z0))),(2,some (.box 39 [iV .i64 (((⟨0,0,0,0,0,0,[],[]⟩:Ze)).f0),iV .i64 (((⟨0,0,0,0,0,0,[],[]⟩:Ze)).f1),iV .i64 (((⟨0,0,0,0,0,0,[],[]⟩:Ze)).f2),iV .u64 (((⟨0,0,0,0,0,0,[],[]⟩:Ze)).f3),iV .u64 (((⟨0,0,0,0,0,0,[],[]⟩:Ze)).f4),iV .i64 (((⟨0,0,0,0,0,0,[],[]⟩:Ze)).f5),.own 0,.own 1]))],0⟩) (by kernel_rfl) ?_
      refine AWp.ret ?_
      obtain rfl:=sj H
      exact rl (.inl rfl) rfl (by kernel_rfl) (by kernel_rfl)
     ·replace H:=iF c4698 H
      refine AWp.skip ?_
      refine sO hP hn hm [(20,.k 20)] [(15,.ptr 20 0 0)] [4,15] [(20,some (.box 39 [iV .i64 ((t4599.1).f0),iV .i64 ((t4599.1).f1),iV .i64 ((t4599.1).f2),iV .u64 (u64.wrap (((t4599.1).f3)-((t4599.2).f3))),iV .u64 (u64.wrap (((t4599.1).f4)-((t4599.2).f4))),iV .i64 t4008.1,.own 18,.own 19]))] [17,18,19,20] ?_
      refine sO hP hn hm [] [(5,iV .i64 0)] [4,5] [(17,some (.box 39 [iV .i64 ((t4599.1).f0),iV .i64 ((t4599.1).f1),iV .i64 ((t4599.1).f2),iV .u64 (u64.wrap (((t4599.1).f3)-((t4599.2).f3))),iV .u64 (u64.wrap (((t4599.1).f4)-((t4599.2).f4))),iV .i64 t4008.1,.own 18,.own 19]))] [17,18,19] ?_
      refine AWp.conv (inv:=[(17,2),(18,0),(19,1)]) (vk:=[]) (e0:=[]) (t:=⟨[(4,.ptr 2 0 0),(5,iV .i64 0)],[(0,some (.row 2 87 ((((⟨(t4599.1).f0,(t4599.1).f1,(t4599.1).f2,u64.wrap (((t4599.1).f3)-((t4599.2).f3)),u64.wrap (((t4599.1).f4)-((t4599.2).f4)),t4008.1,t4686.1,t4690.1⟩:Ze)).f6).map Z0))),(1,some (.row 2 87 ((((⟨(t4599.1).f0,(t4599.1).f1,(t4599.1).f2,u64.wrap (((t4599.1).f3)-((t4599.2).f3)),u64.wrap (((t4599.1).f4)-((t4599.2).f4)),t4008.1,t4686.1,t4690.1⟩:Ze)).f7).map Z0))),(2,some (.box 39 [iV .i64 (((⟨(t4599.1).f0,(t4599.1).f1,(t4599.1).f2,u64.wrap (((t4599.1).f3)-((t4599.2).f3)),u64.wrap (((t4599.1).f4)-((t4599.2).f4)),t4008.1,t4686.1,t4690.1⟩:Ze)).f0),iV .i64 (((⟨(t4599.1).f0,(t4599.1).f1,(t4599.1).f2,u64.wrap (((t4599.1).f3)-((t4599.2).f3)),u64.wrap (((t4599.1).f4)-((t4599.2).f4)),t4008.1,t4686.1,t4690.1⟩:Ze)).f1),iV .i64 (((⟨(t4599.1).f0,(t4599.1).f1,(t4599.1).f2,u64.wrap (((t4599.1).f3)-((t4599.2).f3)),u64.wrap (((t4599.1).f4)-((t4599.2).f4)),t4008.1,t4686.1,t4690.1⟩:Ze)).f2),iV .u64 (((⟨(t4599.1).f0,(t4599.1).f1,(t4599.1).f2,u64.wrap (((t4599.1).f3)-((t4599.2).f3)),u64.wrap (((t4599.1).f4)-((t4599.2).f4)),t4008.1,t4686.1,t4690.1⟩:Ze)).f3),iV .u64 (((⟨(t4599.1).f0,(t4599.1).f1,(t4599.1).f2,u64.wrap (((t4599.1).f3)-((t4599.2).f3)),u64.wrap (((t4599.1).f4)-((t4599.2).f4)),t4008.1,t4686.1,t4690.1⟩:Ze)).f4),iV .i64 (((⟨(t4599.1).f0,(t4599.1).f1,(t4599.1).f2,u64.wrap (((t4599.1).f3)-((t4599.2).f3)),u64.wrap (((t4599.1).f4)-((t4599.2).f4)),t4008.1,t4686.1,t4690.1⟩:Ze)).f5),.own 0,.own 1]))],0⟩) (by kernel_rfl) ?_
      refine AWp.ret ?_
      obtain rfl:=sj H
      exact rl (.inl rfl) rfl (by kernel_rfl) (by kernel_rfl)
def Z4f.f (a0:Ze) (a1:Int):Option (List Z2):=if(a1==(0:Int))=true then(some a0.f6) else(some a0.f7)
theorem Z4f.ok (a0:Ze) (a1:Int) (r:List Z2) (H:Z4f.f a0 a1=some r):Pv.Fn Tryz.prog 74 [.agg (Zh a0),iV .i64 a1] [] 0 (fun x o=>x = .im (.row (r.map Z0))∧o=[]):=by
 unfold Z4f.f at H
 refine Fn.bodyK [] Tryz.func74 rfl rfl (fun Γ hP hn => ?_)
 have hm:Tryz.prog.follows .mixedOrders=true:=by kernel_rfl
 replace hn:Γ.n=11:=hn
 refine sO hP hn hm [(0,.k 0)] [(2,.ptr 0 0 0)] [1,2] [(0,some (.box 39 (Zh a0)))] [0] ?_
 refine AWp.seq ?_
 refine sO hP hn hm [] [(6,bV (a1==(0:Int)))] [2,6] [] [0] ?_
 refine AWp.cond (a1==(0:Int)) (by kernel_rfl) (fun c4718 => ?_) (fun c4718 => ?_)
 ·replace H:=iT c4718 H
  refine sO hP hn hm [] [(4,.im (.row (a0.f6.map Z0)))] [4] [] [] ?_
  refine AWp.conv (inv:=[]) (vk:=[]) (e0:=[]) (t:=⟨[(4,.im (.row (a0.f6.map Z0)))],[],0⟩) (by kernel_rfl) ?_
  refine AWp.ret ?_
  obtain rfl:=sj H
  exact rl (.inl rfl) rfl (by kernel_rfl) (by kernel_rfl)
 ·replace H:=iF c4718 H
  refine AWp.skip ?_
  refine sO hP hn hm [] [(4,.im (.row (a0.f7.map Z0)))] [4] [] [] ?_
  refine AWp.conv (inv:=[]) (vk:=[]) (e0:=[]) (t:=⟨[(4,.im (.row (a0.f7.map Z0)))],[],0⟩) (by kernel_rfl) ?_
  refine AWp.ret ?_
  obtain rfl:=sj H
  exact rl (.inl rfl) rfl (by kernel_rfl) (by kernel_rfl)
def Z0n.l1 (a0:List Za) (a1:Int) (t4758:List Z2) (x4748:Int) (x4769:List Z2) (x4770:Int):Option (List Z2):=if(decide (x4770<(t4758.length:Int)))=true then((at? t4758 x4770)>>=fun b4776=>(chk ((x4769.length+[(⟨b4776.f0,1⟩:Z2)].length)*16≤140737488355328))>>=fun _=>Z0n.l1 a0 a1 t4758 x4748 (x4769++[(⟨b4776.f0,1⟩:Z2)]) (i64.wrap (x4770+(1:Int)))) else(some x4769)
partial_fixpoint
def Z0n.l0 (a0:List Za) (a1:Int) (x4747:List Z2) (x4748:Int):Option (List Z2):=if(decide (x4748<(a0.length:Int)))=true then((at? a0 x4748)>>=fun b4755=>(Z4f.f b4755.f1 a1)>>=fun t4758=>(Z0n.l1 a0 a1 t4758 x4748 x4747 0)>>=fun x4780=>Z0n.l0 a0 a1 x4780 (i64.wrap (x4748+(1:Int)))) else(some x4747)
partial_fixpoint
def Z0n.l2 (t4784:(List Z2)×Int) (x4795:List Int) (x4796:Int):Option (List Int):=if(decide (x4796<(t4784.1.length:Int)))=true then((at? t4784.1 x4796)>>=fun b4802=>(chk ((x4795.length+[b4802.f0].length)*8≤140737488355328))>>=fun _=>Z0n.l2 t4784 (x4795++[b4802.f0]) (i64.wrap (x4796+(1:Int)))) else(some x4795)
partial_fixpoint
def Z0n.f (a0:List Za) (a1:Int):Option (List Int):=(Z0n.l0 a0 a1 [] 0)>>=fun x4781=>(Z0w.f x4781)>>=fun t4784=>(Z0n.l2 t4784 [] 0)>>=fun x4806=>some x4806
theorem Z0n.ok (a0:List Za) (a1:Int) (r:List Int) (H:Z0n.f a0 a1=some r):Pv.Fn Tryz.prog 36 [.im (.row (a0.map Z4)),iV .i64 a1] [] 0 (fun x o=>x = .own 0∧o=[(0,some (.row 1 3 (r.map (Z1 .i64))))]):=by
 unfold Z0n.f at H
 refine Fn.bodyK [0] Tryz.func36 rfl rfl (fun Γ hP hn => ?_)
 have hm:Tryz.prog.follows .mixedOrders=true:=by kernel_rfl
 replace hn:Γ.n=61:=hn
 refine sO hP hn hm [] [] [0,1] [] [] ?_
 refine sO hP hn hm [] [(5,.none0)] [0,1,5] [] [] ?_
 refine AWp.seq ?_
 refine sO hP hn hm [] [(6,iV .i64 0)] [0,1,5,6] [] [] ?_
 refine AWp.block ?_
 obtain⟨o4807,e4808,H⟩:=Z3 H
 refine AWp.loop (LWp.conv (inv:=[]) (vk:=[]) (e0:=[6]) (t:=⟨[(0,.im (.row (a0.map Z4))),(1,iV .i64 a1),(5,.own 6),(6,iV .i64 0)],[(6,some (.row 2 87 ([].map Z0)))],0⟩) (by kernel_rfl) ?_)
 refine LWp.mono (Q:=fun e s=>(match (generalizing:=false) o4807 with | x4781=>e = .exit 0∧s=⟨[(5,.own 13)],[(13,some (.row 2 87 (x4781.map Z0)))],0⟩)) (LWp.cv (Zn (fun body hbody => ?_))) ?_
 ·refine       Z0n.l0.partial_correctness a0 a1 (motive:=fun x4747 x4748 o4807=>LWp Γ body (fun e s=>∃ t,Cv Γ s t∧(match (generalizing:=false) o4807 with | x4781=>e = .exit 0∧t=⟨[(5,.own 13)],[(13,some (.row 2 87 (x4781.map Z0     )))],0⟩)) ⟨[(0,.im (.row (a0.map Z4     ))),(1,iV .i64 a1),(5,.own 6),(6,iV .i64 x4748)],[(6,some (.row 2 87 (x4747.map Z0     )))],0⟩) ?_ _ _ _ e4808
  clear H e4808 o4807;intro self ih x4747 x4748 o4807 H
  subst hbody
  refine LWp.round ?_
  refine AWp.seq ?_
  refine sR hP hn hm [(2,.any (iV .i64 (a0.length:Int)))] [(16,bV (decide (x4748<(a0.length:Int))))] [0,1,5,6,16] [] [6] [((a0.map Z4).length:Int)=(a0.length:Int)] ⟨by rw[Zi],trivial⟩ ?_
  refine AWp.cond (decide (x4748<(a0.length:Int))) (by kernel_rfl) (fun c4749 => ?_) (fun c4749 => ?_)
  ·replace H:=iT c4749 H
   refine AWp.skip ?_
   refine AWp.seq ?_
   refine AWp.block ?_
   obtain⟨b4755,p4756,q4757,H⟩:=Z03 H
   obtain⟨t4758,e4759,H⟩:=Z3 H
   refine sR hP hn hm [(2,.c (Z4 b4755)),(6,.call [] [] [] [] 0 (.im (.row (t4758.map Z0))) [])] [(7,.im (.row (t4758.map Z0)))] [0,1,5,6,7] [] [6] [_,_,_,_] ⟨p4756,Zf Z4 q4757,Tryz.call74,Z4f.ok b4755.f1 a1 t4758 e4759,trivial⟩ ?_
   refine sO hP hn hm [] [(8,iV .i64 0)] [0,1,5,6,7,8] [] [6] ?_
   refine AWp.block ?_
   obtain⟨o4809,e4810,H⟩:=Z3 H
   refine AWp.loop (LWp.conv (inv:=[(6,9)]) (vk:=[]) (e0:=[]) (t:=⟨[(0,.im (.row (a0.map Z4))),(1,iV .i64 a1),(5,.own 9),(6,iV .i64 x4748),(7,.im (.row (t4758.map Z0))),(8,iV .i64 0)],[(9,some (.row 2 87 (x4747.map Z0)))],0⟩) (by kernel_rfl) ?_)
   refine LWp.mono (Q:=fun e s=>(match (generalizing:=false) o4809 with | x4780=>e = .exit 2∧s=⟨[(0,.im (.row (a0.map Z4))),(1,iV .i64 a1),(5,.own 12),(6,iV .i64 x4748)],[(12,some (.row 2 87 (x4780.map Z0)))],0⟩)) (LWp.cv (Zn (fun body hbody => ?_))) ?_
   ·refine       Z0n.l1.partial_correctness a0 a1 t4758 x4748 (motive:=fun x4769 x4770 o4809=>LWp Γ body (fun e s=>∃ t,Cv Γ s t∧(match (generalizing:=false) o4809 with | x4780=>e = .exit 2∧t=⟨[(0,.im (.row (a0.map Z4     ))),(1,iV .i64 a1),(5,.own 12),(6,iV .i64 x4748)],[(12,some (.row 2 87 (x4780.map Z0     )))],0⟩)) ⟨[(0,.im (.row (a0.map Z4     ))),(1,iV .i64 a1),(5,.own 9),(6,iV .i64 x4748),(7,.im (.row (t4758.map Z0     ))),(8,iV .i64 x4770)],[(9,some (.row 2 87 (x4769.map Z0     )))],0⟩) ?_ _ _ _ e4810
    clear H e4810 o4809;intro self ih x4769 x4770 o4809 H
    subst hbody
    refine LWp.round ?_
    refine AWp.seq ?_
    refine sR hP hn hm [(2,.any (iV .i64 (t4758.length:Int)))] [(29,bV (decide (x4770<(t4758.length:Int))))] [0,1,5,6,7,8,29] [] [9] [((t4758.map Z0).length:Int)=(t4758.length:Int)] ⟨by rw[Zi],trivial⟩ ?_
    refine AWp.cond (decide (x4770<(t4758.length:Int))) (by kernel_rfl) (fun c4771 => ?_) (fun c4771 => ?_)
    ·replace H:=iT c4771 H
     refine AWp.skip ?_
     refine AWp.seq ?_
     refine AWp.block ?_
     obtain⟨b4776,p4777,q4778,H⟩:=Z03 H
     obtain⟨c4779,H⟩:=Z0q H
     refine rG hP hn hm [(3,.c (Z0 b4776)),(7,.app 10 ([(⟨b4776.f0,1⟩:Z2)].map Z0)),(8,.app 11 ((x4769++[(⟨b4776.f0,1⟩:Z2)]).map Z0))] [(5,.own 11)] [0,1,5,6,7,8] [(11,some (.row 2 87 ((x4769++[(⟨b4776.f0,1⟩:Z2)]).map Z0)))] [11] [_,_,[(⟨b4776.f0,1⟩:Z2)].map Z0=[[iI .i64 b4776.f0,iI .u64 1]],(x4769++[(⟨b4776.f0,1⟩:Z2)]).map Z0=(x4769.map Z0)++([(⟨b4776.f0,1⟩:Z2)].map Z0),∀ c∈([(⟨b4776.f0,1⟩:Z2)].map Z0),c.length=2,∀ c∈([(⟨b4776.f0,1⟩:Z2)].map Z0),Z0m (c.map .im)=true,((x4769.map Z0).length+([(⟨b4776.f0,1⟩:Z2)].map Z0).length)*16≤140737488355328] ⟨p4777,Zf Z0 q4778,by exact rfl,by simp,by exact Z0k _ _ _ (fun _=>rfl),by exact Z0j _ _ (fun _=>rfl),by simpa using c4779,trivial⟩ ?_
     refine rO hP hn hm [] [(8,iV .i64 (i64.wrap (x4770+(1:Int))))] [0,1,5,6,7,8] [] [11] ?_
     exact LWp.conv [(11,9)] [] [] (by kernel_rfl) (ih _ _ _ H)
    ·replace H:=iF c4771 H
     refine AWp.exit ?_
     obtain rfl:=sj H
     exact lf [(9,12)] [] [] (by kernel_rfl) ⟨rfl,rfl⟩
   ·obtain⟨x4780,rfl⟩:∃ z,z=o4809:=⟨_,rfl⟩
    rintro e s ⟨rfl,rfl⟩
    refine rO hP hn hm [] [(6,iV .i64 (i64.wrap (x4748+(1:Int))))] [0,1,5,6] [] [12] ?_
    exact LWp.conv [(12,6)] [] [] (by kernel_rfl) (ih _ _ _ H)
  ·replace H:=iF c4749 H
   refine AWp.exit ?_
   obtain rfl:=sj H
   exact lf [(6,13)] [] [] (by kernel_rfl) ⟨rfl,rfl⟩
 ·obtain⟨x4781,rfl⟩:∃ z,z=o4807:=⟨_,rfl⟩
  rintro e s ⟨rfl,rfl⟩
  obtain⟨t4784,e4785,H⟩:=Z3 H
  refine sR hP hn hm [(1,.more (Z3q [] [(0,14)] [13] [14] 0 (.tup [.own 0,iV .i64 t4784.2]) [(0,some (.row 2 87 (t4784.1.map Z0)))]))] [(9,.own 14)] [9] [(14,some (.row 2 87 (t4784.1.map Z0)))] [14] [_,_,∀ c∈t4784.1.map Z0,∀ x∈c,∃ v,x=Im.sc v] ⟨Tryz.call75,Z0w.ok x4781 t4784 e4785,by exact Z3s _ _ (fun _=>by simp),trivial⟩ ?_
  refine sO hP hn hm [] [(11,.none0)] [9,11] [] [14] ?_
  refine AWp.seq ?_
  refine sO hP hn hm [] [(12,iV .i64 0)] [9,11,12] [] [14] ?_
  refine AWp.block ?_
  obtain⟨o4811,e4812,H⟩:=Z3 H
  refine AWp.loop (LWp.conv (inv:=[(14,17)]) (vk:=[]) (e0:=[18]) (t:=⟨[(9,.own 17),(11,.own 18),(12,iV .i64 0)],[(17,some (.row 2 87 (t4784.1.map Z0))),(18,some (.row 1 3 ([].map (Z1 .i64))))],0⟩) (by kernel_rfl) ?_)
  refine LWp.mono (Q:=fun e s=>(match (generalizing:=false) o4811 with | x4806=>e = .exit 4∧s=⟨[(11,.own 21)],[(21,some (.row 1 3 (x4806.map (Z1 .i64))))],0⟩)) (LWp.cv (Zn (fun body hbody => ?_))) ?_
  ·refine       Z0n.l2.partial_correctness t4784 (motive:=fun x4795 x4796 o4811=>LWp Γ body (fun e s=>∃ t,Cv Γ s t∧(match (generalizing:=false) o4811 with | x4806=>e = .exit 4∧t=⟨[(11,.own 21)],[(21,some (.row 1 3 (x4806.map (Z1     .i64))))],0⟩)) ⟨[(9,.own 17),(11,.own 18),(12,iV .i64 x4796)],[(17,some (.row 2 87 (t4784.1.map Z0     ))),(18,some (.row 1 3 (x4795.map (Z1     .i64))))],0⟩) ?_ _ _ _ e4812
   clear H e4812 o4811;intro self ih x4795 x4796 o4811 H
   subst hbody
   refine LWp.round ?_
   refine AWp.seq ?_
   refine sR hP hn hm [(2,.any (iV .i64 (t4784.1.length:Int)))] [(49,bV (decide (x4796<(t4784.1.length:Int))))] [9,11,12,49] [] [17,18] [((t4784.1.map Z0).length:Int)=(t4784.1.length:Int)] ⟨by rw[Zi],trivial⟩ ?_
   refine AWp.cond (decide (x4796<(t4784.1.length:Int))) (by kernel_rfl) (fun c4797 => ?_) (fun c4797 => ?_)
   ·replace H:=iT c4797 H
    refine AWp.skip ?_
    refine AWp.seq ?_
    refine AWp.block ?_
    obtain⟨b4802,p4803,q4804,H⟩:=Z03 H
    obtain⟨c4805,H⟩:=Z0q H
    refine rG hP hn hm [(5,.c (Z0 b4802)),(6,.app 19 ([b4802.f0].map (Z1 .i64))),(7,.app 20 ((x4795++[b4802.f0]).map (Z1 .i64)))] [(11,.own 20)] [9,11,12] [(20,some (.row 1 3 ((x4795++[b4802.f0]).map (Z1 .i64))))] [17,20] [_,_,_,[b4802.f0].map (Z1 .i64)=[[iI .i64 b4802.f0]],(x4795++[b4802.f0]).map (Z1 .i64)=(x4795.map (Z1 .i64))++([b4802.f0].map (Z1 .i64)),∀ c∈([b4802.f0].map (Z1 .i64)),c.length=1,∀ c∈([b4802.f0].map (Z1 .i64)),Z0m (c.map .im)=true,((x4795.map (Z1 .i64)).length+([b4802.f0].map (Z1 .i64)).length)*8≤140737488355328] ⟨p4803,Z1u Z0 p4803 q4804,Zf Z0 q4804,by exact rfl,by simp,by exact Z0k _ _ _ (fun _=>rfl),by exact Z0j _ _ (fun _=>rfl),by simpa using c4805,trivial⟩ ?_
    refine rO hP hn hm [] [(12,iV .i64 (i64.wrap (x4796+(1:Int))))] [9,11,12] [] [17,20] ?_
    exact LWp.conv [(17,17),(20,18)] [] [] (by kernel_rfl) (ih _ _ _ H)
   ·replace H:=iF c4797 H
    refine AWp.exit ?_
    obtain rfl:=sj H
    exact lf [(18,21)] [] [] (by kernel_rfl) ⟨rfl,rfl⟩
  ·obtain⟨x4806,rfl⟩:∃ z,z=o4811:=⟨_,rfl⟩
   rintro e s ⟨rfl,rfl⟩
   refine sO hP hn hm [] [(4,.own 21)] [4] [] [21] ?_
   refine AWp.conv (inv:=[(21,0)]) (vk:=[]) (e0:=[]) (t:=⟨[(4,.own 0)],[(0,some (.row 1 3 (x4806.map (Z1 .i64))))],0⟩) (by kernel_rfl) ?_
   refine AWp.ret ?_
   obtain rfl:=sj H
   exact rl (.inl rfl) rfl (by kernel_rfl) (by kernel_rfl)
def Z2d.f (a0:List Za) (a1:Za):Option (Bool):=if((a0.length:Int)==(0:Int))=true then(some true) else((at? a0 (i64.wrap ((a0.length:Int)-(1:Int))))>>=fun b3951=>((if(decide ((a0.length:Int)>(31:Int)))=true then(some true) else(if(decide (a1.f0≤b3951.f0))=true then(some true) else(if(a1.f1.f0 != b3951.f1.f0)=true then(some true) else(if(a1.f1.f1 != b3951.f1.f1)=true then(some true) else(some (a1.f1.f2 != b3951.f1.f2)))))):Option (Bool))>>=fun x3962=>if x3962=true then(some false) else(((if(a1.f1.f0==(0:Int))=true then((Z32.f a1.f1 b3951.f1)>>=fun t4707=>if(t4707.2==(21:Int))=true then(some (.inl false)) else(some (.inr ()))) else(some (.inr ()))):Option (Bool ⊕ Unit))>>=fun oo=>match oo with | .inl rr=>(some rr) | .inr _=>((chk ((([]:List Za).length+a0.length)*104≤140737488355328))>>=fun _=>(chk ((a0.length+[a1].length)*104≤140737488355328))>>=fun _=>(((Z0n.f (a0++[a1]) 0)>>=fun t4818=>if(decide ((t4818.length:Int)≤(512:Int)))=true then((Z0n.f (a0++[a1]) 1)>>=fun t4821=>some (decide ((t4821.length:Int)≤(512:Int)))) else(some false)):Option (Bool))>>=fun x4823=>some x4823)))
theorem Z2d.ok (a0:List Za) (a1:Za) (r:Bool) (H:Z2d.f a0 a1=some r):Pv.Fn Tryz.prog 16 [.im (.row (a0.map Z4)),.agg [iV .i64 a1.f0,iV .i64 a1.f1.f0,iV .i64 a1.f1.f1,iV .i64 a1.f1.f2,iV .u64 a1.f1.f3,iV .u64 a1.f1.f4,iV .i64 a1.f1.f5,.im (.row (a1.f1.f6.map Z0)),.im (.row (a1.f1.f7.map Z0))]] [] 0 (fun x o=>x=bV r∧o=[]):=by
 unfold Z2d.f at H
 refine Fn.bodyK [] Tryz.func16 rfl rfl (fun Γ hP hn => ?_)
 have hm:Tryz.prog.follows .mixedOrders=true:=by kernel_rfl
 replace hn:Γ.n=86:=hn
 refine sO hP hn hm [(0,.k 0)] [(3,.ptr 0 0 0)] [0,3] [(0,some (.box 41 [iV .i64 a1.f0,iV .i64 a1.f1.f0,iV .i64 a1.f1.f1,iV .i64 a1.f1.f2,iV .u64 a1.f1.f3,iV .u64 a1.f1.f4,iV .i64 a1.f1.f5,.im (.row (a1.f1.f6.map Z0)),.im (.row (a1.f1.f7.map Z0))]))] [0] ?_
 refine AWp.seq ?_
 refine sR hP hn hm [(1,.any (iV .i64 (a0.length:Int)))] [(11,bV ((a0.length:Int)==(0:Int)))] [0,3,11] [] [0] [((a0.map Z4).length:Int)=(a0.length:Int)] ⟨by rw[Zi],trivial⟩ ?_
 refine AWp.cond ((a0.length:Int)==(0:Int)) (by kernel_rfl) (fun c3947 => ?_) (fun c3947 => ?_)
 ·replace H:=iT c3947 H
  refine sO hP hn hm [] [(4,bV true)] [4] [] [] ?_
  refine AWp.conv (inv:=[]) (vk:=[]) (e0:=[]) (t:=⟨[(4,bV true)],[],0⟩) (by kernel_rfl) ?_
  refine AWp.ret ?_
  obtain rfl:=sj H
  exact rl (.inl rfl) rfl (by kernel_rfl) (by kernel_rfl)
 ·replace H:=iF c3947 H
  refine AWp.skip ?_
  obtain⟨b3951,p3952,q3953,H⟩:=Z03 H
  refine sR hP hn hm [(2,.any (iV .i64 (a0.length:Int))),(4,.c (Z4 b3951)),(6,.k 1)] [(5,.ptr 1 0 0)] [0,3,5] [(1,some (.box 41 [iV .i64 b3951.f0,iV .i64 b3951.f1.f0,iV .i64 b3951.f1.f1,iV .i64 b3951.f1.f2,iV .u64 b3951.f1.f3,iV .u64 b3951.f1.f4,iV .i64 b3951.f1.f5,.im (.row (b3951.f1.f6.map Z0)),.im (.row (b3951.f1.f7.map Z0))]))] [0,1] [((a0.map Z4).length:Int)=(a0.length:Int),_,_] ⟨by rw[Zi],p3952,Zf Z4 q3953,trivial⟩ ?_
  refine AWp.seq ?_
  refine AWp.seq ?_
  obtain⟨o4824,e4825,H⟩:=Z3 H
  refine AWp.mono (Q:=fun e s=>(match (generalizing:=false) o4824 with | x3962=>e = .normal∧s=⟨[(0,.im (.row (a0.map Z4))),(3,.ptr 2 0 0),(5,.ptr 3 0 0),(54,bV x3962)],[(2,some (.box 41 [iV .i64 a1.f0,iV .i64 a1.f1.f0,iV .i64 a1.f1.f1,iV .i64 a1.f1.f2,iV .u64 a1.f1.f3,iV .u64 a1.f1.f4,iV .i64 a1.f1.f5,.im (.row (a1.f1.f6.map Z0)),.im (.row (a1.f1.f7.map Z0))])),(3,some (.box 41 [iV .i64 b3951.f0,iV .i64 b3951.f1.f0,iV .i64 b3951.f1.f1,iV .i64 b3951.f1.f2,iV .u64 b3951.f1.f3,iV .u64 b3951.f1.f4,iV .i64 b3951.f1.f5,.im (.row (b3951.f1.f6.map Z0)),.im (.row (b3951.f1.f7.map Z0))]))],0⟩)) (AWp.cv ?_) ?_
  ·replace H:=e4825;clear e4825
   rcases Bool.eq_false_or_eq_true (decide ((a0.length:Int)>(31:Int))) with c3958 | c3958
   ·replace H:=iT c3958 H
    refine rG hP hn hm [(1,.any (iV .i64 (a0.length:Int))),(3,.b true)] [(54,bV true)] [0,3,5,54] [] [0,1] [((a0.map Z4).length:Int)=(a0.length:Int),_] ⟨by rw[Zi],c3958,trivial⟩ ?_
    obtain rfl:=sj H
    exact lf [(0,2),(1,3)] [] [] (by kernel_rfl) ⟨rfl,rfl⟩
   ·replace H:=iF c3958 H
    rcases Bool.eq_false_or_eq_true (decide (a1.f0≤b3951.f0)) with c3959 | c3959
    ·replace H:=iT c3959 H
     refine rG hP hn hm [(1,.any (iV .i64 (a0.length:Int))),(3,.b false),(10,.b true)] [(54,bV true)] [0,3,5,54] [] [0,1] [((a0.map Z4).length:Int)=(a0.length:Int),_,_] ⟨by rw[Zi],c3958,c3959,trivial⟩ ?_
     obtain rfl:=sj H
     exact lf [(0,2),(1,3)] [] [] (by kernel_rfl) ⟨rfl,rfl⟩
    ·replace H:=iF c3959 H
     rcases Bool.eq_false_or_eq_true (a1.f1.f0 != b3951.f1.f0) with c3960 | c3960
     ·replace H:=iT c3960 H
      refine rG hP hn hm [(1,.any (iV .i64 (a0.length:Int))),(3,.b false),(10,.b false),(19,.b true)] [(54,bV true)] [0,3,5,54] [] [0,1] [((a0.map Z4).length:Int)=(a0.length:Int),_,_,_] ⟨by rw[Zi],c3958,c3959,c3960,trivial⟩ ?_
      obtain rfl:=sj H
      exact lf [(0,2),(1,3)] [] [] (by kernel_rfl) ⟨rfl,rfl⟩
     ·replace H:=iF c3960 H
      rcases Bool.eq_false_or_eq_true (a1.f1.f1 != b3951.f1.f1) with c3961 | c3961
      ·replace H:=iT c3961 H
       refine rG hP hn hm [(1,.any (iV .i64 (a0.length:Int))),(3,.b false),(10,.b false),(19,.b false),(28,.b true)] [(54,bV true)] [0,3,5,54] [] [0,1] [((a0.map Z4).length:Int)=(a0.length:Int),_,_,_,_] ⟨by rw[Zi],c3958,c3959,c3960,c3961,trivial⟩ ?_
       obtain rfl:=sj H
       exact lf [(0,2),(1,3)] [] [] (by kernel_rfl) ⟨rfl,rfl⟩
      ·replace H:=iF c3961 H
       refine rG hP hn hm [(1,.any (iV .i64 (a0.length:Int))),(3,.b false),(10,.b false),(19,.b false),(28,.b false)] [(54,bV (a1.f1.f2 != b3951.f1.f2))] [0,3,5,54] [] [0,1] [((a0.map Z4).length:Int)=(a0.length:Int),_,_,_,_] ⟨by rw[Zi],c3958,c3959,c3960,c3961,trivial⟩ ?_
       obtain rfl:=sj H
       exact lf [(0,2),(1,3)] [] [] (by kernel_rfl) ⟨rfl,rfl⟩
  ·obtain⟨x3962,rfl⟩:∃ z,z=o4824:=⟨_,rfl⟩
   rintro e s ⟨rfl,rfl⟩
   refine AWp.cond x3962 (by kernel_rfl) (fun c3963 => ?_) (fun c3963 => ?_)
   ·replace H:=iT c3963 H
    refine sO hP hn hm [] [(4,bV false)] [4] [] [] ?_
    refine AWp.conv (inv:=[]) (vk:=[]) (e0:=[]) (t:=⟨[(4,bV false)],[],0⟩) (by kernel_rfl) ?_
    refine AWp.ret ?_
    obtain rfl:=sj H
    exact rl (.inl rfl) rfl (by kernel_rfl) (by kernel_rfl)
   ·replace H:=iF c3963 H
    refine AWp.skip ?_
    refine AWp.seq ?_
    refine sO hP hn hm [] [(58,bV (a1.f1.f0==(0:Int)))] [0,3,5,58] [] [2,3] ?_
    obtain⟨o4826,e4827,H⟩:=Z3 H
    refine AWp.mono (Q:=fun e s=>(match (generalizing:=false) o4826 with | .inl rr=>e = .ret∧s.floor=0∧Z1x Tryz.prog Tryz.f16 s=some (bV rr)∧([]:List (Nat×Option MObj))=[] | .inr _=>e = .normal∧s=⟨[(0,.im (.row (a0.map Z4))),(3,.ptr 7 0 0)],[(7,some (.box 41 [iV .i64 a1.f0,iV .i64 a1.f1.f0,iV .i64 a1.f1.f1,iV .i64 a1.f1.f2,iV .u64 a1.f1.f3,iV .u64 a1.f1.f4,iV .i64 a1.f1.f5,.im (.row (a1.f1.f6.map Z0)),.im (.row (a1.f1.f7.map Z0))]))],0⟩)) (AWp.cv ?_) ?_
    ·replace H:=e4827;clear e4827
     refine AWp.cond (a1.f1.f0==(0:Int)) (by kernel_rfl) (fun c3964 => ?_) (fun c3964 => ?_)
     ·replace H:=iT c3964 H
      obtain⟨t4707,e4708,H⟩:=Z3 H
      refine sR hP hn hm [(4,.call [] [(0,4),(1,5)] [] [4,5] 0 (.tup [.agg [iV .i64 ((t4707.1).f0),iV .i64 ((t4707.1).f1),iV .i64 ((t4707.1).f2),iV .u64 ((t4707.1).f3),iV .u64 ((t4707.1).f4),iV .i64 ((t4707.1).f5),.own 0,.own 1],iV .i64 t4707.2]) [(0,some (.row 2 87 (((t4707.1).f6).map Z0))),(1,some (.row 2 87 (((t4707.1).f7).map Z0)))]),(8,.k 6)] [(7,iV .i64 t4707.2)] [0,3,7] [] [2] [_,_] ⟨Tryz.call49,Z32.ok a1.f1 b3951.f1 t4707 e4708,trivial⟩ ?_
      refine sO hP hn hm [] [(68,bV (t4707.2==(21:Int)))] [0,3,68] [] [2] ?_
      refine AWp.cond (t4707.2==(21:Int)) (by kernel_rfl) (fun c4709 => ?_) (fun c4709 => ?_)
      ·replace H:=iT c4709 H
       refine sO hP hn hm [] [(4,bV false)] [4] [] [] ?_
       refine AWp.conv (inv:=[]) (vk:=[]) (e0:=[]) (t:=⟨[(4,bV false)],[],0⟩) (by kernel_rfl) ?_
       refine AWp.ret ?_
       obtain rfl:=sj H
       exact rl rfl rfl (by kernel_rfl) (by kernel_rfl)
      ·replace H:=iF c4709 H
       refine AWp.skip ?_
       obtain rfl:=sj H
       exact lf [(2,7)] [] [] (by kernel_rfl) ⟨rfl,rfl⟩
     ·replace H:=iF c3964 H
      refine AWp.skip ?_
      obtain rfl:=sj H
      exact lf [(2,7)] [] [] (by kernel_rfl) ⟨rfl,rfl⟩
    ·rcases o4826 with rr | _
     ·skip
      rintro e s ⟨rfl,hfl,hres⟩
      obtain rfl:=sj H
      exact Exists.intro _ (And.intro (fun _ _ h=>h) (And.intro (.inl rfl) (And.intro hfl hres)))
     ·skip
      rintro e s ⟨rfl,rfl⟩
      refine sO hP hn hm [] [(8,.none0)] [0,3,8] [] [7] ?_
      obtain⟨c4711,H⟩:=Z0q H
      refine sR hP hn hm [(2,.app 8 (a0.map Z4))] [(8,.own 8)] [3,8] [(8,some (.row 9 41 (a0.map Z4)))] [7,8] [a0.map Z4=([]:List (List Im))++(a0.map Z4),∀ c∈(a0.map Z4),c.length=9,∀ c∈(a0.map Z4),Z0m (c.map .im)=true,(([]:List (List Im)).length+(a0.map Z4).length)*104≤140737488355328] ⟨by simp,by exact Z0k _ _ _ (fun _=>rfl),by exact Z0j _ _ (fun _=>rfl),by simpa using c4711,trivial⟩ ?_
      obtain⟨c4713,H⟩:=Z0q H
      refine sR hP hn hm [(2,.app 9 ([a1].map Z4)),(3,.app 10 ((a0++[a1]).map Z4))] [(8,.own 10)] [8] [(10,some (.row 9 41 ((a0++[a1]).map Z4)))] [10] [[a1].map Z4=[[iI .i64 a1.f0,iI .i64 a1.f1.f0,iI .i64 a1.f1.f1,iI .i64 a1.f1.f2,iI .u64 a1.f1.f3,iI .u64 a1.f1.f4,iI .i64 a1.f1.f5,.row (a1.f1.f6.map Z0),.row (a1.f1.f7.map Z0)]],(a0++[a1]).map Z4=(a0.map Z4)++([a1].map Z4),∀ c∈([a1].map Z4),c.length=9,∀ c∈([a1].map Z4),Z0m (c.map .im)=true,((a0.map Z4).length+([a1].map Z4).length)*104≤140737488355328] ⟨by exact rfl,by simp,by exact Z0k _ _ _ (fun _=>rfl),by exact Z0j _ _ (fun _=>rfl),by simpa using c4713,trivial⟩ ?_
      refine AWp.seq ?_
      obtain⟨o4828,e4829,H⟩:=Z3 H
      refine AWp.mono (Q:=fun e s=>(match (generalizing:=false) o4828 with | x4823=>e = .normal∧s=⟨[(4,bV x4823)],[],0⟩)) (AWp.cv ?_) ?_
      ·replace H:=e4829;clear e4829
       obtain⟨t4818,e4819,H⟩:=Z3 H
       rcases Bool.eq_false_or_eq_true (decide ((t4818.length:Int)≤(512:Int))) with c4820 | c4820
       ·replace H:=iT c4820 H
        obtain⟨t4821,e4822,H⟩:=Z3 H
        refine rG hP hn hm [(1,.more (Z3q [] [(0,11)] [10] [11] 0 (.own 0) [(0,some (.row 1 3 (t4818.map (Z1 .i64))))])),(2,.any (iV .i64 (t4818.length:Int))),(4,.b true),(6,.more (Z3q [] [(0,12)] [10] [12] 0 (.own 0) [(0,some (.row 1 3 (t4821.map (Z1 .i64))))])),(7,.any (iV .i64 (t4821.length:Int)))] [(4,bV (decide ((t4821.length:Int)≤(512:Int))))] [4] [] [] [_,_,∀ c∈t4818.map (Z1 .i64),∀ x∈c,∃ v,x=Im.sc v,((t4818.map (Z1 .i64)).length:Int)=(t4818.length:Int),_,_,_,∀ c∈t4821.map (Z1 .i64),∀ x∈c,∃ v,x=Im.sc v,((t4821.map (Z1 .i64)).length:Int)=(t4821.length:Int)] ⟨Tryz.call36,Z0n.ok (a0++[a1]) 0 t4818 e4819,by exact Z3s _ _ (fun _=>by simp),by rw[Zi],c4820,Tryz.call36,Z0n.ok (a0++[a1]) 1 t4821 e4822,by exact Z3s _ _ (fun _=>by simp),by rw[Zi],trivial⟩ ?_
        obtain rfl:=sj H
        exact lf [] [] [] (by kernel_rfl) ⟨rfl,rfl⟩
       ·replace H:=iF c4820 H
        refine rG hP hn hm [(1,.more (Z3q [] [(0,11)] [10] [11] 0 (.own 0) [(0,some (.row 1 3 (t4818.map (Z1 .i64))))])),(2,.any (iV .i64 (t4818.length:Int))),(4,.b false)] [(4,bV false)] [4] [] [] [_,_,∀ c∈t4818.map (Z1 .i64),∀ x∈c,∃ v,x=Im.sc v,((t4818.map (Z1 .i64)).length:Int)=(t4818.length:Int),_] ⟨Tryz.call36,Z0n.ok (a0++[a1]) 0 t4818 e4819,by exact Z3s _ _ (fun _=>by simp),by rw[Zi],c4820,trivial⟩ ?_
        obtain rfl:=sj H
        exact lf [] [] [] (by kernel_rfl) ⟨rfl,rfl⟩
      ·obtain⟨x4823,rfl⟩:∃ z,z=o4828:=⟨_,rfl⟩
       rintro e s ⟨rfl,rfl⟩
       refine AWp.conv (inv:=[]) (vk:=[]) (e0:=[]) (t:=⟨[(4,bV x4823)],[],0⟩) (by kernel_rfl) ?_
       refine AWp.ret ?_
       obtain rfl:=sj H
       exact rl (.inl rfl) rfl (by kernel_rfl) (by kernel_rfl)
def Z13.l0 (a0:List Za) (x4836:Int):Option (Int ⊕ Unit):=if(decide (x4836<(a0.length:Int)))=true then((((at? a0 x4836)>>=fun b4842=>if(decide (b4842.f0<(0:Int)))=true then(some true) else(some (decide (b4842.f0>(1099511627776:Int))))):Option (Bool))>>=fun x4846=>if x4846=true then(some (.inl 4)) else((at? a0 x4836)>>=fun b4853=>(Zo.f b4853.f1)>>=fun t4856=>if(t4856 != (0:Int))=true then(some (.inl t4856)) else((chk (0≤(0:Int)∧(0:Int)≤x4836∧x4836≤(a0.length:Int)))>>=fun _=>(Z2d.f ((a0.drop (Int.toNat ((0:Int)))).take ((Int.toNat (x4836))-(Int.toNat ((0:Int))))) b4853)>>=fun t4863=>if(!t4863)=true then(some (.inl 6)) else(Z13.l0 a0 (i64.wrap (x4836+(1:Int))))))) else(some (.inr ()))
partial_fixpoint
def Z13.f (a0:List Za):Option (Int):=if((a0.length:Int)==(0:Int))=true then(some 30) else((Z13.l0 a0 0)>>=fun oo=>match oo with | .inl rr=>(some rr) | .inr _=>(some 0))
theorem Z13.ok (a0:List Za) (r:Int) (H:Z13.f a0=some r):Pv.Fn Tryz.prog 8 [.im (.row (a0.map Z4))] [] 0 (fun x o=>x=iV .i64 r∧o=[]):=by
 unfold Z13.f at H
 refine Fn.bodyK [] Tryz.func8 rfl rfl (fun Γ hP hn => ?_)
 have hm:Tryz.prog.follows .mixedOrders=true:=by kernel_rfl
 replace hn:Γ.n=46:=hn
 refine sO hP hn hm [] [] [0] [] [] ?_
 refine AWp.seq ?_
 refine sR hP hn hm [(1,.any (iV .i64 (a0.length:Int)))] [(7,bV ((a0.length:Int)==(0:Int)))] [0,7] [] [] [((a0.map Z4).length:Int)=(a0.length:Int)] ⟨by rw[Zi],trivial⟩ ?_
 refine AWp.cond ((a0.length:Int)==(0:Int)) (by kernel_rfl) (fun c3923 => ?_) (fun c3923 => ?_)
 ·replace H:=iT c3923 H
  refine sO hP hn hm [] [(2,iV .i64 30)] [2] [] [] ?_
  refine AWp.conv (inv:=[]) (vk:=[]) (e0:=[]) (t:=⟨[(2,iV .i64 30)],[],0⟩) (by kernel_rfl) ?_
  refine AWp.ret ?_
  obtain rfl:=sj H
  exact rl (.inl rfl) rfl (by kernel_rfl) (by kernel_rfl)
 ·replace H:=iF c3923 H
  refine AWp.skip ?_
  refine AWp.seq ?_
  refine sO hP hn hm [] [(3,iV .i64 0)] [0,3] [] [] ?_
  refine AWp.block ?_
  obtain⟨o4866,e4867,H⟩:=Z3 H
  refine AWp.loop (LWp.conv (inv:=[]) (vk:=[]) (e0:=[]) (t:=⟨[(0,.im (.row (a0.map Z4))),(3,iV .i64 0)],[],0⟩) (by kernel_rfl) ?_)
  refine LWp.mono (Q:=fun e s=>(match (generalizing:=false) o4866 with | .inl rr=>e = .ret∧s.floor=0∧Z1x Tryz.prog Tryz.f8 s=some (iV .i64 rr)∧([]:List (Nat×Option MObj))=[] | .inr _=>e = .exit 0∧s=⟨[],[],0⟩)) (LWp.cv (Zn (fun body hbody => ?_))) ?_
  ·refine         Z13.l0.partial_correctness a0 (motive:=fun x4836 o4866=>LWp Γ body (fun e s=>∃ t,Cv Γ s t∧(match (generalizing:=false) o4866 with | .inl rr=>e = .ret∧t.floor=0∧Z1x   Tryz.prog Tryz.f8 t=some (iV .i64 rr)∧([]:List (Nat×Option MObj))=[] | .inr _=>e = .exit 0∧t=⟨[],[],0⟩)) ⟨[(0,.im (.row (a0.map Z4     ))),(3,iV .i64 x4836)],[],0⟩) ?_ _ _ e4867
   clear H e4867 o4866;intro self ih x4836 o4866 H
   subst hbody
   refine LWp.round ?_
   refine AWp.seq ?_
   refine sR hP hn hm [(2,.any (iV .i64 (a0.length:Int)))] [(11,bV (decide (x4836<(a0.length:Int))))] [0,3,11] [] [] [((a0.map Z4).length:Int)=(a0.length:Int)] ⟨by rw[Zi],trivial⟩ ?_
   refine AWp.cond (decide (x4836<(a0.length:Int))) (by kernel_rfl) (fun c4837 => ?_) (fun c4837 => ?_)
   ·replace H:=iT c4837 H
    refine AWp.skip ?_
    refine AWp.seq ?_
    refine AWp.block ?_
    refine AWp.seq ?_
    refine AWp.seq ?_
    obtain⟨o4868,e4869,H⟩:=Z3 H
    refine AWp.mono (Q:=fun e s=>(match (generalizing:=false) o4868 with | x4846=>e = .normal∧s=⟨[(0,.im (.row (a0.map Z4))),(3,iV .i64 x4836),(27,bV x4846)],[],0⟩)) (AWp.cv ?_) ?_
    ·replace H:=e4869;clear e4869
     obtain⟨b4842,p4843,q4844,H⟩:=Z03 H
     rcases Bool.eq_false_or_eq_true (decide (b4842.f0<(0:Int))) with c4845 | c4845
     ·replace H:=iT c4845 H
      refine rG hP hn hm [(2,.c (Z4 b4842)),(6,.b true)] [(27,bV true)] [0,3,27] [] [] [_,_,_] ⟨p4843,Zf Z4 q4844,c4845,trivial⟩ ?_
      obtain rfl:=sj H
      exact lf [] [] [] (by kernel_rfl) ⟨rfl,rfl⟩
     ·replace H:=iF c4845 H
      refine rG hP hn hm [(2,.c (Z4 b4842)),(6,.b false),(9,.c (Z4 b4842))] [(21,.im (.row (a0.map Z4))),(22,iV .i64 x4836),(23,.ip [iI .i64 b4842.f0,iI .i64 b4842.f1.f0,iI .i64 b4842.f1.f1,iI .i64 b4842.f1.f2,iI .u64 b4842.f1.f3,iI .u64 b4842.f1.f4,iI .i64 b4842.f1.f5,.row (b4842.f1.f6.map Z0),.row (b4842.f1.f7.map Z0)]),(24,.ip [iI .i64 b4842.f0,iI .i64 b4842.f1.f0,iI .i64 b4842.f1.f1,iI .i64 b4842.f1.f2,iI .u64 b4842.f1.f3,iI .u64 b4842.f1.f4,iI .i64 b4842.f1.f5,.row (b4842.f1.f6.map Z0),.row (b4842.f1.f7.map Z0)]),(25,iV .i64 b4842.f0),(26,bV (decide (b4842.f0>(1099511627776:Int)))),(27,bV (decide (b4842.f0>(1099511627776:Int))))] [0,3,21,22,23,24,25,26,27] [] [] [_,_,_,_,_] ⟨p4843,Zf Z4 q4844,c4845,p4843,Zf Z4 q4844,trivial⟩ ?_
      obtain rfl:=sj H
      exact lf [] [] [] (by kernel_rfl) ⟨rfl,rfl⟩
    ·obtain⟨x4846,rfl⟩:∃ z,z=o4868:=⟨_,rfl⟩
     rintro e s ⟨rfl,rfl⟩
     refine AWp.cond x4846 (by kernel_rfl) (fun c4847 => ?_) (fun c4847 => ?_)
     ·replace H:=iT c4847 H
      refine sO hP hn hm [] [(2,iV .i64 4)] [2] [] [] ?_
      refine AWp.conv (inv:=[]) (vk:=[]) (e0:=[]) (t:=⟨[(2,iV .i64 4)],[],0⟩) (by kernel_rfl) ?_
      refine AWp.ret ?_
      obtain rfl:=sj H
      exact rl rfl rfl (by kernel_rfl) (by kernel_rfl)
     ·replace H:=iF c4847 H
      refine AWp.skip ?_
      refine AWp.seq ?_
      obtain⟨b4853,p4854,q4855,H⟩:=Z03 H
      obtain⟨t4856,e4857,H⟩:=Z3 H
      refine sR hP hn hm [(2,.c (Z4 b4853)),(5,.call [] [] [] [] 0 (iV .i64 t4856) [])] [(4,iV .i64 t4856)] [0,3,4] [] [] [_,_,_,_] ⟨p4854,Zf Z4 q4855,Tryz.call14,Zo.ok b4853.f1 t4856 e4857,trivial⟩ ?_
      refine sO hP hn hm [] [(35,bV (t4856 != (0:Int)))] [0,3,4,35] [] [] ?_
      refine AWp.cond (t4856 != (0:Int)) (by kernel_rfl) (fun c4858 => ?_) (fun c4858 => ?_)
      ·replace H:=iT c4858 H
       refine sO hP hn hm [] [(2,iV .i64 t4856)] [2] [] [] ?_
       refine AWp.conv (inv:=[]) (vk:=[]) (e0:=[]) (t:=⟨[(2,iV .i64 t4856)],[],0⟩) (by kernel_rfl) ?_
       refine AWp.ret ?_
       obtain rfl:=sj H
       exact rl rfl rfl (by kernel_rfl) (by kernel_rfl)
      ·replace H:=iF c4858 H
       refine AWp.skip ?_
       obtain⟨c4862,H⟩:=Z0q H
       obtain⟨t4863,e4864,H⟩:=Z3 H
       refine sR hP hn hm [(2,.rows (((a0.drop (Int.toNat ((0:Int)))).take ((Int.toNat (x4836))-(Int.toNat ((0:Int))))).map Z4)),(5,.c (Z4 b4853)),(7,.call [] [] [] [] 0 (bV t4863) [])] [(45,bV (!t4863))] [0,3,45] [] [] [0≤(0:Int),(0:Int)≤x4836,x4836≤((a0.map Z4).length:Int),∀ c∈a0.map Z4,c.length=9,((a0.drop (Int.toNat ((0:Int)))).take ((Int.toNat (x4836))-(Int.toNat ((0:Int))))).map Z4=((a0.map Z4).drop (Int.toNat ((0:Int)))).take ((Int.toNat (x4836))-(Int.toNat ((0:Int)))),_,_,_,_] ⟨by exact c4862.1,by simpa using c4862.2.1,by simpa using c4862.2.2,by exact Z0k _ _ _ (fun _=>rfl),by simp[cut1],p4854,Zf Z4 q4855,Tryz.call16,Z2d.ok ((a0.drop (Int.toNat ((0:Int)))).take ((Int.toNat (x4836))-(Int.toNat ((0:Int))))) b4853 t4863 e4864,trivial⟩ ?_
       refine AWp.cond (!t4863) (by kernel_rfl) (fun c4865 => ?_) (fun c4865 => ?_)
       ·replace H:=iT c4865 H
        refine sO hP hn hm [] [(2,iV .i64 6)] [2] [] [] ?_
        refine AWp.conv (inv:=[]) (vk:=[]) (e0:=[]) (t:=⟨[(2,iV .i64 6)],[],0⟩) (by kernel_rfl) ?_
        refine AWp.ret ?_
        obtain rfl:=sj H
        exact rl rfl rfl (by kernel_rfl) (by kernel_rfl)
       ·replace H:=iF c4865 H
        refine AWp.skip ?_
        refine rO hP hn hm [] [(3,iV .i64 (i64.wrap (x4836+(1:Int))))] [0,3] [] [] ?_
        exact LWp.conv [] [] [] (by kernel_rfl) (ih _ _ H)
   ·replace H:=iF c4837 H
    refine AWp.exit ?_
    obtain rfl:=sj H
    exact lf [] [] [] (by kernel_rfl) ⟨rfl,rfl⟩
  ·rcases o4866 with rr | _
   ·skip
    rintro e s ⟨rfl,hfl,hres⟩
    obtain rfl:=sj H
    exact Exists.intro _ (And.intro (fun _ _ h=>h) (And.intro (.inl rfl) (And.intro hfl hres)))
   ·skip
    rintro e s ⟨rfl,rfl⟩
    refine sO hP hn hm [] [(2,iV .i64 0)] [2] [] [] ?_
    refine AWp.conv (inv:=[]) (vk:=[]) (e0:=[]) (t:=⟨[(2,iV .i64 0)],[],0⟩) (by kernel_rfl) ?_
    refine AWp.ret ?_
    obtain rfl:=sj H
    exact rl (.inl rfl) rfl (by kernel_rfl) (by kernel_rfl)
def Zp.l0 (a0:List Za) (x3890:Int):Option (Bool ⊕ Unit):=if(decide (x3890<(a0.length:Int)))=true then((at? a0 x3890)>>=fun b3895=>(((Zo.f b3895.f1)>>=fun t3902=>if(t3902 != (0:Int))=true then(some true) else(if(decide (b3895.f0<(0:Int)))=true then(some true) else(some (decide (b3895.f0>(1099511627776:Int)))))):Option (Bool))>>=fun x3906=>if x3906=true then((Z2m.f)>>=fun t3910=>some (.inl t3910)) else(Zp.l0 a0 (i64.wrap (x3890+(1:Int))))) else(some (.inr ()))
partial_fixpoint
def Zp.l1 (a0:List Za) (t3914:List (List Za)) (x4880:List Za) (x4881:Int):Option (Bool ⊕ (List Za)):=if(decide (x4881<(t3914.length:Int)))=true then((at? t3914 x4881)>>=fun b4886=>(((Z13.f b4886)>>=fun t4901=>if(t4901 != (0:Int))=true then(some true) else(if(decide (x4881>(0:Int)))=true then((at? t3914 (i64.wrap (x4881-(1:Int))))>>=fun b4905=>(at? b4886 0)>>=fun b4908=>(Z2d.f b4905 b4908)>>=fun t4911=>some t4911) else(some false))):Option (Bool))>>=fun x4913=>if x4913=true then(some (.inl false)) else((chk ((x4880.length+b4886.length)*104≤140737488355328))>>=fun _=>Zp.l1 a0 t3914 (x4880++b4886) (i64.wrap (x4881+(1:Int))))) else(some (.inr x4880))
partial_fixpoint
def Zp.l2 (a0:List Za) (x4917:List Za) (x4936:Int):Option (Bool ⊕ Unit):=if(decide (x4936<(a0.length:Int)))=true then((chk (0≤(0:Int)∧(0:Int)≤x4936∧x4936≤(a0.length:Int)))>>=fun _=>(at? a0 x4936)>>=fun b4947=>(Z04.f ((a0.drop (Int.toNat ((0:Int)))).take ((Int.toNat (x4936))-(Int.toNat ((0:Int))))) b4947)>>=fun t4950=>(Z2d.f ((a0.drop (Int.toNat ((0:Int)))).take ((Int.toNat (x4936))-(Int.toNat ((0:Int))))) b4947)>>=fun t4952=>if(!(t4950==t4952))=true then(some (.inl false)) else(Zp.l2 a0 x4917 (i64.wrap (x4936+(1:Int))))) else(some (.inr ()))
partial_fixpoint
def Zp.f (a0:List Za):Option (Bool):=(Z19.f a0)>>=fun t22=>if(!t22)=true then((Z2m.f)>>=fun t3655=>some t3655) else((Zp.l0 a0 0)>>=fun oo=>match oo with | .inl rr=>(some rr) | .inr _=>((Z1k.f a0)>>=fun t3914=>(Zp.l1 a0 t3914 [] 0)>>=fun oo=>match oo with | .inl rr=>(some rr) | .inr x4917=>((Zp.l2 a0 x4917 0)>>=fun oo=>match oo with | .inl rr=>(some rr) | .inr _=>((((Z2m.f)>>=fun t4960=>if t4960=true then((Z23.f x4917 a0)>>=fun t4963=>some t4963) else(some false)):Option (Bool))>>=fun x4965=>some x4965))))
theorem Zp.ok (a0:List Za) (r:Bool) (H:Zp.f a0=some r):Pv.Fn Tryz.prog 5 [.im (.row (a0.map Z4))] [] 0 (fun x o=>x=bV r∧o=[]):=by
 unfold Zp.f at H
 refine Fn.bodyK [] Tryz.func5 rfl rfl (fun Γ hP hn => ?_)
 have hm:Tryz.prog.follows .mixedOrders=true:=by kernel_rfl
 replace hn:Γ.n=96:=hn
 refine sO hP hn hm [] [] [0] [] [] ?_
 refine AWp.seq ?_
 obtain⟨t22,e23,H⟩:=Z3 H
 refine sR hP hn hm [(1,.call [] [] [] [] 0 (bV t22) [])] [(12,bV (!t22))] [0,12] [] [] [_,_] ⟨Tryz.call6,Z19.ok a0 t22 e23,trivial⟩ ?_
 refine AWp.cond (!t22) (by kernel_rfl) (fun c24 => ?_) (fun c24 => ?_)
 ·replace H:=iT c24 H
  obtain⟨t3655,e3656,H⟩:=Z3 H
  refine sR hP hn hm [(0,.call [] [] [] [] 0 (bV t3655) [])] [(2,bV t3655)] [2] [] [] [_,_] ⟨Tryz.call7,Z2m.ok  t3655 e3656,trivial⟩ ?_
  refine AWp.conv (inv:=[]) (vk:=[]) (e0:=[]) (t:=⟨[(2,bV t3655)],[],0⟩) (by kernel_rfl) ?_
  refine AWp.ret ?_
  obtain rfl:=sj H
  exact rl (.inl rfl) rfl (by kernel_rfl) (by kernel_rfl)
 ·replace H:=iF c24 H
  refine AWp.skip ?_
  refine AWp.seq ?_
  refine sR hP hn hm [(1,.any (iV .i64 (a0.length:Int)))] [(14,.im (.row (a0.map Z4))),(15,iV .i64 (a0.length:Int)),(16,iV .i64 0)] [0,14,15,16] [] [] [((a0.map Z4).length:Int)=(a0.length:Int)] ⟨by rw[Zi],trivial⟩ ?_
  refine AWp.block ?_
  obtain⟨o4966,e4967,H⟩:=Z3 H
  refine AWp.loop (LWp.conv (inv:=[]) (vk:=[]) (e0:=[]) (t:=⟨[(0,.im (.row (a0.map Z4))),(14,.im (.row (a0.map Z4))),(15,iV .i64 (a0.length:Int)),(16,iV .i64 0)],[],0⟩) (by kernel_rfl) ?_)
  refine LWp.mono (Q:=fun e s=>(match (generalizing:=false) o4966 with | .inl rr=>e = .ret∧s.floor=0∧Z1x Tryz.prog Tryz.f5 s=some (bV rr)∧([]:List (Nat×Option MObj))=[] | .inr _=>e = .exit 0∧s=⟨[(0,.im (.row (a0.map Z4)))],[],0⟩)) (LWp.cv (Zn (fun body hbody => ?_))) ?_
  ·refine              Zp.l0.partial_correctness a0 (motive:=fun x3890 o4966=>LWp Γ body (fun e s=>∃ t,Cv Γ s t∧(match (generalizing:=false) o4966 with | .inl rr=>e = .ret∧t.floor=0∧Z1x   Tryz.prog Tryz.f5 t=some (bV rr)∧([]:List (Nat×Option MObj))=[] | .inr _=>e = .exit 0∧t=⟨[(0,.im (.row (a0.map Z4     )))],[],0⟩)) ⟨[(0,.im (.row (a0.map Z4     ))),(14,.im (.row (a0.map Z4     ))),(15,iV .i64 (a0.length:Int)),(16,iV .i64 x3890)],[],0⟩) ?_ _ _ e4967
   clear H e4967 o4966;intro self ih x3890 o4966 H
   subst hbody
   refine LWp.round ?_
   refine sO hP hn hm [] [(17,bV (decide (x3890<(a0.length:Int))))] [0,14,15,16,17] [] [] ?_
   refine AWp.seq ?_
   refine AWp.cond (decide (x3890<(a0.length:Int))) (by kernel_rfl) (fun c3891 => ?_) (fun c3891 => ?_)
   ·replace H:=iT c3891 H
    refine AWp.skip ?_
    refine AWp.seq ?_
    refine AWp.block ?_
    obtain⟨b3895,p3896,q3897,H⟩:=Z03 H
    refine sR hP hn hm [(0,.c (Z4 b3895)),(2,.k 1)] [(4,.ptr 1 0 0)] [0,4,14,15,16] [(1,some (.box 41 [iV .i64 b3895.f0,iV .i64 b3895.f1.f0,iV .i64 b3895.f1.f1,iV .i64 b3895.f1.f2,iV .u64 b3895.f1.f3,iV .u64 b3895.f1.f4,iV .i64 b3895.f1.f5,.im (.row (b3895.f1.f6.map Z0)),.im (.row (b3895.f1.f7.map Z0))]))] [1] [_,_] ⟨p3896,Zf Z4 q3897,trivial⟩ ?_
    refine AWp.seq ?_
    obtain⟨o4968,e4969,H⟩:=Z3 H
    refine AWp.mono (Q:=fun e s=>(match (generalizing:=false) o4968 with | x3906=>e = .normal∧s=⟨[(0,.im (.row (a0.map Z4))),(14,.im (.row (a0.map Z4))),(15,iV .i64 (a0.length:Int)),(16,iV .i64 x3890),(33,bV x3906)],[],0⟩)) (AWp.cv ?_) ?_
    ·replace H:=e4969;clear e4969
     obtain⟨t3902,e3903,H⟩:=Z3 H
     rcases Bool.eq_false_or_eq_true (t3902 != (0:Int)) with c3904 | c3904
     ·replace H:=iT c3904 H
      refine rG hP hn hm [(2,.call [] [] [] [] 0 (iV .i64 t3902) []),(4,.b true)] [(33,bV true)] [0,14,15,16,33] [] [] [_,_,_] ⟨Tryz.call14,Zo.ok b3895.f1 t3902 e3903,c3904,trivial⟩ ?_
      obtain rfl:=sj H
      exact lf [] [] [] (by kernel_rfl) ⟨rfl,rfl⟩
     ·replace H:=iF c3904 H
      rcases Bool.eq_false_or_eq_true (decide (b3895.f0<(0:Int))) with c3905 | c3905
      ·replace H:=iT c3905 H
       refine rG hP hn hm [(2,.call [] [] [] [] 0 (iV .i64 t3902) []),(4,.b false),(9,.b true)] [(25,.ptr 1 0 0),(26,iV .i64 b3895.f0),(27,bV (decide (b3895.f0<(0:Int)))),(33,bV true)] [0,14,15,16,25,26,27,33] [] [1] [_,_,_,_] ⟨Tryz.call14,Zo.ok b3895.f1 t3902 e3903,c3904,c3905,trivial⟩ ?_
       obtain rfl:=sj H
       exact lf [] [] [] (by kernel_rfl) ⟨rfl,rfl⟩
      ·replace H:=iF c3905 H
       refine rG hP hn hm [(2,.call [] [] [] [] 0 (iV .i64 t3902) []),(4,.b false),(9,.b false)] [(25,.ptr 1 0 0),(26,iV .i64 b3895.f0),(27,bV (decide (b3895.f0<(0:Int)))),(30,.ptr 1 0 0),(31,iV .i64 b3895.f0),(32,bV (decide (b3895.f0>(1099511627776:Int)))),(33,bV (decide (b3895.f0>(1099511627776:Int))))] [0,14,15,16,25,26,27,30,31,32,33] [] [1] [_,_,_,_] ⟨Tryz.call14,Zo.ok b3895.f1 t3902 e3903,c3904,c3905,trivial⟩ ?_
       obtain rfl:=sj H
       exact lf [] [] [] (by kernel_rfl) ⟨rfl,rfl⟩
    ·obtain⟨x3906,rfl⟩:∃ z,z=o4968:=⟨_,rfl⟩
     rintro e s ⟨rfl,rfl⟩
     refine AWp.cond x3906 (by kernel_rfl) (fun c3907 => ?_) (fun c3907 => ?_)
     ·replace H:=iT c3907 H
      obtain⟨t3910,e3911,H⟩:=Z3 H
      refine sR hP hn hm [(0,.call [] [] [] [] 0 (bV t3910) [])] [(2,bV t3910)] [2] [] [] [_,_] ⟨Tryz.call7,Z2m.ok  t3910 e3911,trivial⟩ ?_
      refine AWp.conv (inv:=[]) (vk:=[]) (e0:=[]) (t:=⟨[(2,bV t3910)],[],0⟩) (by kernel_rfl) ?_
      refine AWp.ret ?_
      obtain rfl:=sj H
      exact rl rfl rfl (by kernel_rfl) (by kernel_rfl)
     ·replace H:=iF c3907 H
      refine AWp.skip ?_
      refine rO hP hn hm [] [(16,iV .i64 (i64.wrap (x3890+(1:Int))))] [0,14,15,16] [] [] ?_
      exact LWp.conv [] [] [] (by kernel_rfl) (ih _ _ H)
   ·replace H:=iF c3891 H
    refine AWp.exit ?_
    obtain rfl:=sj H
    exact lf [] [] [] (by kernel_rfl) ⟨rfl,rfl⟩
  ·rcases o4966 with rr | _
   ·skip
    rintro e s ⟨rfl,hfl,hres⟩
    obtain rfl:=sj H
    exact Exists.intro _ (And.intro (fun _ _ h=>h) (And.intro (.inl rfl) (And.intro hfl hres)))
   ·skip
    rintro e s ⟨rfl,rfl⟩
    refine sO hP hn hm [] [(5,.none0)] [0,5] [] [] ?_
    obtain⟨t3914,e3915,H⟩:=Z3 H
    refine sR hP hn hm [(1,.call [] [(0,2)] [] [2] 0 (.own 0) [(0,some (.row 1 22 (t3914.map (Z0y Z4))))])] [(6,.own 2)] [0,5,6] [(2,some (.row 1 22 (t3914.map (Z0y Z4))))] [2] [_,_] ⟨Tryz.call15,Z1k.ok a0 t3914 e3915,trivial⟩ ?_
    refine AWp.seq ?_
    refine sR hP hn hm [(1,.any (iV .i64 (t3914.length:Int)))] [(38,.own 2),(39,iV .i64 (t3914.length:Int)),(40,iV .i64 0)] [0,5,6,38,39,40] [] [2] [((t3914.map (Z0y Z4)).length:Int)=(t3914.length:Int)] ⟨by rw[Zi],trivial⟩ ?_
    refine AWp.block ?_
    obtain⟨o4970,e4971,H⟩:=Z3 H
    refine AWp.loop (LWp.conv (inv:=[(2,6)]) (vk:=[]) (e0:=[5]) (t:=⟨[(0,.im (.row (a0.map Z4))),(5,.own 5),(6,.own 6),(38,.own 6),(39,iV .i64 (t3914.length:Int)),(40,iV .i64 0)],[(5,some (.row 9 41 ([].map Z4))),(6,some (.row 1 22 (t3914.map (Z0y Z4))))],0⟩) (by kernel_rfl) ?_)
    refine LWp.mono (Q:=fun e s=>(match (generalizing:=false) o4970 with | .inl rr=>e = .ret∧s.floor=0∧Z1x Tryz.prog Tryz.f5 s=some (bV rr)∧([]:List (Nat×Option MObj))=[] | .inr x4917=>e = .exit 2∧s=⟨[(0,.im (.row (a0.map Z4))),(5,.own 10)],[(10,some (.row 9 41 (x4917.map Z4)))],0⟩)) (LWp.cv (Zn (fun body hbody => ?_))) ?_
    ·refine              Zp.l1.partial_correctness a0 t3914 (motive:=fun x4880 x4881 o4970=>LWp Γ body (fun e s=>∃ t,Cv Γ s t∧(match (generalizing:=false) o4970 with | .inl rr=>e = .ret∧t.floor=0∧Z1x   Tryz.prog Tryz.f5 t=some (bV rr)∧([]:List (Nat×Option MObj))=[] | .inr x4917=>e = .exit 2∧t=⟨[(0,.im (.row (a0.map Z4     ))),(5,.own 10)],[(10,some (.row 9 41 (x4917.map Z4     )))],0⟩)) ⟨[(0,.im (.row (a0.map Z4     ))),(5,.own 5),(6,.own 6),(38,.own 6),(39,iV .i64 (t3914.length:Int)),(40,iV .i64 x4881)],[(5,some (.row 9 41 (x4880.map Z4     ))),(6,some (.row 1 22 (t3914.map (Z0y    Z4     ))))],0⟩) ?_ _ _ _ e4971
     clear H e4971 o4970;intro self ih x4880 x4881 o4970 H
     subst hbody
     refine LWp.round ?_
     refine sO hP hn hm [] [(41,bV (decide (x4881<(t3914.length:Int))))] [0,5,6,38,39,40,41] [] [5,6] ?_
     refine AWp.seq ?_
     refine AWp.cond (decide (x4881<(t3914.length:Int))) (by kernel_rfl) (fun c4882 => ?_) (fun c4882 => ?_)
     ·replace H:=iT c4882 H
      refine AWp.skip ?_
      refine AWp.seq ?_
      refine AWp.block ?_
      obtain⟨b4886,p4887,q4888,H⟩:=Z03 H
      refine sR hP hn hm [(2,.c ((Z0y Z4) b4886))] [(7,iV .i64 x4881),(8,.im (.row (b4886.map Z4)))] [0,5,6,7,8,38,39,40] [] [5,6] [_,_,_] ⟨p4887,Z1u (Z0y Z4) p4887 q4888,Zf (Z0y Z4) q4888,trivial⟩ ?_
      refine AWp.seq ?_
      refine AWp.seq ?_
      obtain⟨o4972,e4973,H⟩:=Z3 H
      refine AWp.mono (Q:=fun e s=>(match (generalizing:=false) o4972 with | x4913=>e = .normal∧s=⟨[(0,.im (.row (a0.map Z4))),(5,.own 7),(6,.own 8),(8,.im (.row (b4886.map Z4))),(38,.own 8),(39,iV .i64 (t3914.length:Int)),(40,iV .i64 x4881),(62,bV x4913)],[(7,some (.row 9 41 (x4880.map Z4))),(8,some (.row 1 22 (t3914.map (Z0y Z4))))],0⟩)) (AWp.cv ?_) ?_
      ·replace H:=e4973;clear e4973
       obtain⟨t4901,e4902,H⟩:=Z3 H
       rcases Bool.eq_false_or_eq_true (t4901 != (0:Int)) with c4903 | c4903
       ·replace H:=iT c4903 H
        refine rG hP hn hm [(1,.call [] [] [] [] 0 (iV .i64 t4901) []),(3,.b true)] [(62,bV true)] [0,5,6,8,38,39,40,62] [] [5,6] [_,_,_] ⟨Tryz.call8,Z13.ok b4886 t4901 e4902,c4903,trivial⟩ ?_
        obtain rfl:=sj H
        exact lf [(5,7),(6,8)] [] [] (by kernel_rfl) ⟨rfl,rfl⟩
       ·replace H:=iF c4903 H
        rcases Bool.eq_false_or_eq_true (decide (x4881>(0:Int))) with c4904 | c4904
        ·replace H:=iT c4904 H
         obtain⟨b4905,p4906,q4907,H⟩:=Z03 H
         obtain⟨b4908,p4909,q4910,H⟩:=Z03 H
         obtain⟨t4911,e4912,H⟩:=Z3 H
         refine rG hP hn hm [(1,.call [] [] [] [] 0 (iV .i64 t4901) []),(3,.b false),(6,.b true),(11,.c ((Z0y Z4) b4905)),(13,.c (Z4 b4908)),(15,.call [] [] [] [] 0 (bV t4911) [])] [(49,iV .i64 x4881),(50,bV (decide (x4881>(0:Int)))),(51,bV true),(52,.own 6),(53,iV .i64 x4881),(54,iV .i64 (i64.wrap (x4881-(1:Int)))),(55,.ptr 6 (Int.toNat (i64.wrap (x4881-(1:Int)))) 0),(56,.im (.row (b4905.map Z4))),(57,.im (.row (b4886.map Z4))),(58,.ip [iI .i64 b4908.f0,iI .i64 b4908.f1.f0,iI .i64 b4908.f1.f1,iI .i64 b4908.f1.f2,iI .u64 b4908.f1.f3,iI .u64 b4908.f1.f4,iI .i64 b4908.f1.f5,.row (b4908.f1.f6.map Z0),.row (b4908.f1.f7.map Z0)]),(59,.agg [iV .i64 b4908.f0,iV .i64 b4908.f1.f0,iV .i64 b4908.f1.f1,iV .i64 b4908.f1.f2,iV .u64 b4908.f1.f3,iV .u64 b4908.f1.f4,iV .i64 b4908.f1.f5,.im (.row (b4908.f1.f6.map Z0)),.im (.row (b4908.f1.f7.map Z0))]),(60,bV t4911),(61,bV t4911),(62,bV t4911)] [0,5,6,8,38,39,40,49,50,51,52,53,54,55,56,57,58,59,60,61,62] [] [5,6] [_,_,_,_,_,_,_,_,_,_,_] ⟨Tryz.call8,Z13.ok b4886 t4901 e4902,c4903,c4904,p4906,Z1u (Z0y Z4) p4906 q4907,Zf (Z0y Z4) q4907,p4909,Zf Z4 q4910,Tryz.call16,Z2d.ok b4905 b4908 t4911 e4912,trivial⟩ ?_
         obtain rfl:=sj H
         exact lf [(5,7),(6,8)] [] [] (by kernel_rfl) ⟨rfl,rfl⟩
        ·replace H:=iF c4904 H
         refine rG hP hn hm [(1,.call [] [] [] [] 0 (iV .i64 t4901) []),(3,.b false),(6,.b false)] [(49,iV .i64 x4881),(50,bV (decide (x4881>(0:Int)))),(51,bV false),(61,bV false),(62,bV false)] [0,5,6,8,38,39,40,49,50,51,61,62] [] [5,6] [_,_,_,_] ⟨Tryz.call8,Z13.ok b4886 t4901 e4902,c4903,c4904,trivial⟩ ?_
         obtain rfl:=sj H
         exact lf [(5,7),(6,8)] [] [] (by kernel_rfl) ⟨rfl,rfl⟩
      ·obtain⟨x4913,rfl⟩:∃ z,z=o4972:=⟨_,rfl⟩
       rintro e s ⟨rfl,rfl⟩
       refine AWp.cond x4913 (by kernel_rfl) (fun c4914 => ?_) (fun c4914 => ?_)
       ·replace H:=iT c4914 H
        refine sO hP hn hm [] [(2,bV false)] [2] [] [] ?_
        refine AWp.conv (inv:=[]) (vk:=[]) (e0:=[]) (t:=⟨[(2,bV false)],[],0⟩) (by kernel_rfl) ?_
        refine AWp.ret ?_
        obtain rfl:=sj H
        exact rl rfl rfl (by kernel_rfl) (by kernel_rfl)
       ·replace H:=iF c4914 H
        refine AWp.skip ?_
        obtain⟨c4916,H⟩:=Z0q H
        refine rG hP hn hm [(2,.app 9 ((x4880++b4886).map Z4))] [(5,.own 9)] [0,5,6,38,39,40] [(9,some (.row 9 41 ((x4880++b4886).map Z4)))] [8,9] [(x4880++b4886).map Z4=(x4880.map Z4)++(b4886.map Z4),∀ c∈(b4886.map Z4),c.length=9,∀ c∈(b4886.map Z4),Z0m (c.map .im)=true,((x4880.map Z4).length+(b4886.map Z4).length)*104≤140737488355328] ⟨by simp,by exact Z0k _ _ _ (fun _=>rfl),by exact Z0j _ _ (fun _=>rfl),by simpa using c4916,trivial⟩ ?_
        refine rO hP hn hm [] [(40,iV .i64 (i64.wrap (x4881+(1:Int))))] [0,5,6,38,39,40] [] [8,9] ?_
        exact LWp.conv [(8,6),(9,5)] [] [] (by kernel_rfl) (ih _ _ _ H)
     ·replace H:=iF c4882 H
      refine AWp.exit ?_
      obtain rfl:=sj H
      exact lf [(5,10)] [] [] (by kernel_rfl) ⟨rfl,rfl⟩
    ·rcases o4970 with rr | x4917
     ·skip
      rintro e s ⟨rfl,hfl,hres⟩
      obtain rfl:=sj H
      exact Exists.intro _ (And.intro (fun _ _ h=>h) (And.intro (.inl rfl) (And.intro hfl hres)))
     ·skip
      rintro e s ⟨rfl,rfl⟩
      refine AWp.seq ?_
      refine sR hP hn hm [(1,.any (iV .i64 (a0.length:Int)))] [(68,iV .i64 (a0.length:Int)),(69,iV .i64 0)] [0,5,68,69] [] [10] [((a0.map Z4).length:Int)=(a0.length:Int)] ⟨by rw[Zi],trivial⟩ ?_
      refine AWp.block ?_
      obtain⟨o4974,e4975,H⟩:=Z3 H
      refine AWp.loop (LWp.conv (inv:=[(10,11)]) (vk:=[]) (e0:=[]) (t:=⟨[(0,.im (.row (a0.map Z4))),(5,.own 11),(68,iV .i64 (a0.length:Int)),(69,iV .i64 0)],[(11,some (.row 9 41 (x4917.map Z4)))],0⟩) (by kernel_rfl) ?_)
      refine LWp.mono (Q:=fun e s=>(match (generalizing:=false) o4974 with | .inl rr=>e = .ret∧s.floor=0∧Z1x Tryz.prog Tryz.f5 s=some (bV rr)∧([]:List (Nat×Option MObj))=[] | .inr _=>e = .exit 4∧s=⟨[(0,.im (.row (a0.map Z4))),(5,.own 12)],[(12,some (.row 9 41 (x4917.map Z4)))],0⟩)) (LWp.cv (Zn (fun body hbody => ?_))) ?_
      ·refine              Zp.l2.partial_correctness a0 x4917 (motive:=fun x4936 o4974=>LWp Γ body (fun e s=>∃ t,Cv Γ s t∧(match (generalizing:=false) o4974 with | .inl rr=>e = .ret∧t.floor=0∧Z1x   Tryz.prog Tryz.f5 t=some (bV rr)∧([]:List (Nat×Option MObj))=[] | .inr _=>e = .exit 4∧t=⟨[(0,.im (.row (a0.map Z4     ))),(5,.own 12)],[(12,some (.row 9 41 (x4917.map Z4     )))],0⟩)) ⟨[(0,.im (.row (a0.map Z4     ))),(5,.own 11),(68,iV .i64 (a0.length:Int)),(69,iV .i64 x4936)],[(11,some (.row 9 41 (x4917.map Z4     )))],0⟩) ?_ _ _ e4975
       clear H e4975 o4974;intro self ih x4936 o4974 H
       subst hbody
       refine LWp.round ?_
       refine sO hP hn hm [] [(70,bV (decide (x4936<(a0.length:Int))))] [0,5,68,69,70] [] [11] ?_
       refine AWp.seq ?_
       refine AWp.cond (decide (x4936<(a0.length:Int))) (by kernel_rfl) (fun c4937 => ?_) (fun c4937 => ?_)
       ·replace H:=iT c4937 H
        refine AWp.skip ?_
        refine AWp.seq ?_
        refine AWp.block ?_
        refine sO hP hn hm [] [(9,iV .i64 x4936)] [0,5,9,68,69] [] [11] ?_
        obtain⟨c4946,H⟩:=Z0q H
        obtain⟨b4947,p4948,q4949,H⟩:=Z03 H
        obtain⟨t4950,e4951,H⟩:=Z3 H
        obtain⟨t4952,e4953,H⟩:=Z3 H
        refine sR hP hn hm [(2,.rows (((a0.drop (Int.toNat ((0:Int)))).take ((Int.toNat (x4936))-(Int.toNat ((0:Int))))).map Z4)),(5,.c (Z4 b4947)),(7,.call [] [] [] [] 0 (bV t4950) []),(10,.rows (((a0.drop (Int.toNat ((0:Int)))).take ((Int.toNat (x4936))-(Int.toNat ((0:Int))))).map Z4)),(13,.c (Z4 b4947)),(15,.call [] [] [] [] 0 (bV t4952) [])] [(88,bV (!(t4950==t4952)))] [0,5,68,69,88] [] [11] [0≤(0:Int),(0:Int)≤x4936,x4936≤((a0.map Z4).length:Int),∀ c∈a0.map Z4,c.length=9,((a0.drop (Int.toNat ((0:Int)))).take ((Int.toNat (x4936))-(Int.toNat ((0:Int))))).map Z4=((a0.map Z4).drop (Int.toNat ((0:Int)))).take ((Int.toNat (x4936))-(Int.toNat ((0:Int)))),_,_,_,_,0≤(0:Int),(0:Int)≤x4936,x4936≤((a0.map Z4).length:Int),∀ c∈a0.map Z4,c.length=9,((a0.drop (Int.toNat ((0:Int)))).take ((Int.toNat (x4936))-(Int.toNat ((0:Int))))).map Z4=((a0.map Z4).drop (Int.toNat ((0:Int)))).take ((Int.toNat (x4936))-(Int.toNat ((0:Int)))),_,_,_,_] ⟨by exact c4946.1,by simpa using c4946.2.1,by simpa using c4946.2.2,by exact Z0k _ _ _ (fun _=>rfl),by simp[cut1],p4948,Zf Z4 q4949,Tryz.call17,Z04.ok ((a0.drop (Int.toNat ((0:Int)))).take ((Int.toNat (x4936))-(Int.toNat ((0:Int))))) b4947 t4950 e4951,by exact c4946.1,by simpa using c4946.2.1,by simpa using c4946.2.2,by exact Z0k _ _ _ (fun _=>rfl),by simp[cut1],p4948,Zf Z4 q4949,Tryz.call16,Z2d.ok ((a0.drop (Int.toNat ((0:Int)))).take ((Int.toNat (x4936))-(Int.toNat ((0:Int))))) b4947 t4952 e4953,trivial⟩ ?_
        refine AWp.cond (!(t4950==t4952)) (by kernel_rfl) (fun c4954 => ?_) (fun c4954 => ?_)
        ·replace H:=iT c4954 H
         refine sO hP hn hm [] [(2,bV false)] [2] [] [] ?_
         refine AWp.conv (inv:=[]) (vk:=[]) (e0:=[]) (t:=⟨[(2,bV false)],[],0⟩) (by kernel_rfl) ?_
         refine AWp.ret ?_
         obtain rfl:=sj H
         exact rl rfl rfl (by kernel_rfl) (by kernel_rfl)
        ·replace H:=iF c4954 H
         refine AWp.skip ?_
         refine rO hP hn hm [] [(69,iV .i64 (i64.wrap (x4936+(1:Int))))] [0,5,68,69] [] [11] ?_
         exact LWp.conv [(11,11)] [] [] (by kernel_rfl) (ih _ _ H)
       ·replace H:=iF c4937 H
        refine AWp.exit ?_
        obtain rfl:=sj H
        exact lf [(11,12)] [] [] (by kernel_rfl) ⟨rfl,rfl⟩
      ·rcases o4974 with rr | _
       ·skip
        rintro e s ⟨rfl,hfl,hres⟩
        obtain rfl:=sj H
        exact Exists.intro _ (And.intro (fun _ _ h=>h) (And.intro (.inl rfl) (And.intro hfl hres)))
       ·skip
        rintro e s ⟨rfl,rfl⟩
        refine AWp.seq ?_
        obtain⟨o4976,e4977,H⟩:=Z3 H
        refine AWp.mono (Q:=fun e s=>(match (generalizing:=false) o4976 with | x4965=>e = .normal∧s=⟨[(2,bV x4965)],[],0⟩)) (AWp.cv ?_) ?_
        ·replace H:=e4977;clear e4977
         obtain⟨t4960,e4961,H⟩:=Z3 H
         rcases Bool.eq_false_or_eq_true t4960 with c4962 | c4962
         ·replace H:=iT c4962 H
          obtain⟨t4963,e4964,H⟩:=Z3 H
          refine rG hP hn hm [(0,.call [] [] [] [] 0 (bV t4960) []),(1,.b true),(4,.call [] [] [12] [] 0 (bV t4963) [])] [(2,bV t4963)] [2] [] [] [_,_,_,_,_] ⟨Tryz.call7,Z2m.ok  t4960 e4961,c4962,Tryz.call13,Z23.ok x4917 a0 t4963 e4964,trivial⟩ ?_
          obtain rfl:=sj H
          exact lf [] [] [] (by kernel_rfl) ⟨rfl,rfl⟩
         ·replace H:=iF c4962 H
          refine rG hP hn hm [(0,.call [] [] [] [] 0 (bV t4960) []),(1,.b false)] [(2,bV false)] [2] [] [] [_,_,_] ⟨Tryz.call7,Z2m.ok  t4960 e4961,c4962,trivial⟩ ?_
          obtain rfl:=sj H
          exact lf [] [] [] (by kernel_rfl) ⟨rfl,rfl⟩
        ·obtain⟨x4965,rfl⟩:∃ z,z=o4976:=⟨_,rfl⟩
         rintro e s ⟨rfl,rfl⟩
         refine AWp.conv (inv:=[]) (vk:=[]) (e0:=[]) (t:=⟨[(2,bV x4965)],[],0⟩) (by kernel_rfl) ?_
         refine AWp.ret ?_
         obtain rfl:=sj H
         exact rl (.inl rfl) rfl (by kernel_rfl) (by kernel_rfl)
end Go.Proofs.YtlclecehlekjoaaGreat.PvGK
