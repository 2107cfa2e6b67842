import Derived.Test.YtlclecehlekjoaaGreatProg
import Derived.Test.YtlclecehlekjoaaGreatPxChunkDecodes08
set_option linter.unusedVariables false
set_option linter.unnecessarySimpa false
set_option linter.unusedSimpArgs false
set_option maxRecDepth 10000
namespace Go.Proofs.YtlclecehlekjoaaGreat.PvGK
open Go Go.Pv Go.IntKind
def Z1c.l0 (a0:List Z2) (a1:Int) (x4114:List Int) (x4115:Int):Option (List Int):=if(decide (x4115<(a0.length:Int)))=true then((at? a0 x4115)>>=fun b4120=>((if(b4120.f0==a1)=true then((chk ((x4114.length+[b4120.f1].length)*8≤140737488355328))>>=fun _=>some (x4114++[b4120.f1])) else(some x4114)):Option (List Int))>>=fun x4126=>Z1c.l0 a0 a1 x4126 (i64.wrap (x4115+(1:Int)))) else(some x4114)
partial_fixpoint
def Z1c.f (a0:List Z2) (a1:Int):Option (Int×Int):=(Z1c.l0 a0 a1 [] 0)>>=fun x4127=>(Z2r.f x4127)>>=fun t4130=>some (t4130.1,t4130.2)
theorem Z1c.ok (a0:List Z2) (a1:Int) (r:Int×Int) (H:Z1c.f a0 a1=some r):Pv.Fn Tryz.prog 91 [.im (.row (a0.map Z0)),iV .i64 a1] [] 0 (fun x o=>x = .tup [iV .u64 r.1,iV .i64 r.2]∧o=[]):=by
 unfold Z1c.f at H
 refine Fn.bodyK [] Tryz.func91 rfl rfl (fun Γ hP hn => ?_)
 have hm:Tryz.prog.follows .mixedOrders=true:=by kernel_rfl
 replace hn:Γ.n=33:=hn
 refine sO hP hn hm [] [] [0,1] [] [] ?_
 refine sO hP hn hm [] [(6,.none0)] [0,1,6] [] [] ?_
 refine AWp.seq ?_
 refine sO hP hn hm [] [(7,iV .i64 0)] [0,1,6,7] [] [] ?_
 refine AWp.block ?_
 obtain⟨o4132,e4133,H⟩:=Z3 H
 refine AWp.loop (LWp.conv (inv:=[]) (vk:=[]) (e0:=[3]) (t:=⟨[(0,.im (.row (a0.map Z0))),(1,iV .i64 a1),(6,.own 3),(7,iV .i64 0)],[(3,some (.row 1 36 ([].map (Z1 .u64))))],0⟩) (by kernel_rfl) ?_)
 refine LWp.mono (Q:=fun e s=>(match (generalizing:=false) o4132 with | x4127=>e = .exit 0∧s=⟨[(6,.own 7)],[(7,some (.row 1 36 (x4127.map (Z1 .u64))))],0⟩)) (LWp.cv (Zp (fun body hbody => ?_))) ?_
 ·refine            Z1c.l0.partial_correctness a0 a1 (motive:=fun x4114 x4115 o4132=>LWp Γ body (fun e s=>∃ t,Cv Γ s t∧(match (generalizing:=false) o4132 with | x4127=>e = .exit 0∧t=⟨[(6,.own 7)],[(7,some (.row 1 36 (x4127.map (Z1     .u64))))],0⟩)) ⟨[(0,.im (.row (a0.map Z0     ))),(1,iV .i64 a1),(6,.own 3),(7,iV .i64 x4115)],[(3,some (.row 1 36 (x4114.map (Z1     .u64))))],0⟩) ?_ _ _ _ e4133
  clear H e4133 o4132;intro self ih x4114 x4115 o4132 H
  subst hbody
  refine LWp.round ?_
  refine AWp.seq ?_
  refine sR hP hn hm [(2,.any (iV .i64 (a0.length:Int)))] [(11,bV (decide (x4115<(a0.length:Int))))] [0,1,6,7,11] [] [3] [((a0.map Z0).length:Int)=(a0.length:Int)] ⟨by rw[Zn],trivial⟩ ?_
  refine AWp.cond (decide (x4115<(a0.length:Int))) (by kernel_rfl) (fun c4116 => ?_) (fun c4116 => ?_)
  ·replace H:=iT c4116 H
   refine AWp.skip ?_
   refine AWp.seq ?_
   refine AWp.block ?_
   obtain⟨b4120,p4121,q4122,H⟩:=Z06 H
   refine sR hP hn hm [(2,.c (Z0 b4120))] [(20,bV (b4120.f0==a1))] [0,1,6,7,20] [] [3] [_,_] ⟨p4121,Zi Z0 q4122,trivial⟩ ?_
   obtain⟨o4134,e4135,H⟩:=Z3 H
   refine AWp.mono (Q:=fun e s=>(match (generalizing:=false) o4134 with | x4126=>e = .normal∧s=⟨[(0,.im (.row (a0.map Z0))),(1,iV .i64 a1),(6,.own 6),(7,iV .i64 x4115)],[(6,some (.row 1 36 (x4126.map (Z1 .u64))))],0⟩)) (AWp.cv ?_) ?_
   ·replace H:=e4135;clear e4135
    refine AWp.cond (b4120.f0==a1) (by kernel_rfl) (fun c4123 => ?_) (fun c4123 => ?_)
    ·replace H:=iT c4123 H
     obtain⟨c4125,H⟩:=Z0f H
     refine rG hP hn hm [(3,.c (Z0 b4120)),(6,.app 4 ([b4120.f1].map (Z1 .u64))),(7,.app 5 ((x4114++[b4120.f1]).map (Z1 .u64)))] [(6,.own 5)] [0,1,6,7] [(5,some (.row 1 36 ((x4114++[b4120.f1]).map (Z1 .u64))))] [5] [_,_,[b4120.f1].map (Z1 .u64)=[[iI .u64 b4120.f1]],(x4114++[b4120.f1]).map (Z1 .u64)=(x4114.map (Z1 .u64))++([b4120.f1].map (Z1 .u64)),∀ c∈([b4120.f1].map (Z1 .u64)),c.length=1,∀ c∈([b4120.f1].map (Z1 .u64)),Z14 (c.map .im)=true,((x4114.map (Z1 .u64)).length+([b4120.f1].map (Z1 .u64)).length)*8≤140737488355328] ⟨p4121,Zi Z0 q4122,by exact rfl,by simp,by exact Z0z _ _ _ (fun _=>rfl),by exact Z0s _ _ (fun _=>rfl),by simpa using c4125,trivial⟩ ?_
     obtain rfl:=sj H
     exact lf [(5,6)] [] [] (by kernel_rfl) ⟨rfl,rfl⟩
    ·replace H:=iF c4123 H
     refine AWp.skip ?_
     obtain rfl:=sj H
     exact lf [(3,6)] [] [] (by kernel_rfl) ⟨rfl,rfl⟩
   ·obtain⟨x4126,rfl⟩:∃ z,z=o4134:=⟨_,rfl⟩
    rintro e s ⟨rfl,rfl⟩
    refine rO hP hn hm [] [(7,iV .i64 (i64.wrap (x4115+(1:Int))))] [0,1,6,7] [] [6] ?_
    exact LWp.conv [(6,3)] [] [] (by kernel_rfl) (ih _ _ _ H)
  ·replace H:=iF c4116 H
   refine AWp.exit ?_
   obtain rfl:=sj H
   exact lf [(3,7)] [] [] (by kernel_rfl) ⟨rfl,rfl⟩
 ·obtain⟨x4127,rfl⟩:∃ z,z=o4132:=⟨_,rfl⟩
  rintro e s ⟨rfl,rfl⟩
  obtain⟨t4130,e4131,H⟩:=Z3 H
  refine sR hP hn hm [(1,.call [] [] [7] [] 0 (.tup [iV .u64 t4130.1,iV .i64 t4130.2]) [])] [(4,iV .u64 t4130.1),(5,iV .i64 t4130.2)] [4,5] [] [] [_,_] ⟨Tryz.call48,Z2r.ok x4127 t4130 e4131,trivial⟩ ?_
  refine AWp.conv (inv:=[]) (vk:=[]) (e0:=[]) (t:=⟨[(4,iV .u64 t4130.1),(5,iV .i64 t4130.2)],[],0⟩) (by kernel_rfl) ?_
  refine AWp.ret ?_
  obtain rfl:=sj H
  exact rl (.inl rfl) rfl (by kernel_rfl) (by kernel_rfl)
def Z19.l1 (a0:List Z2) (x4145:List Z2) (x4146:Bool) (x4147:Int) (x4169:Bool) (x4170:Int) (x4171:Int):Option (Bool×Int):=if(decide (x4171<(a0.length:Int)))=true then(((if(!x4146)=true then(if(!x4169)=true then(some true) else((at? a0 x4171)>>=fun b4185=>some (decide (b4185.f0<x4170)))) else((at? a0 x4171)>>=fun b4188=>if(decide (b4188.f0>x4147))=true then(if(!x4169)=true then(some true) else(some (decide (b4188.f0<x4170)))) else(some false))):Option (Bool))>>=fun x4193=>((if x4193=true then((at? a0 x4171)>>=fun b4198=>some (true,b4198.f0)) else(some (x4169,x4170))):Option (Bool×Int))>>=fun oo=>match oo with | (x4201,x4202)=>(Z19.l1 a0 x4145 x4146 x4147 x4201 x4202 (i64.wrap (x4171+(1:Int))))) else(some (x4169,x4170))
partial_fixpoint
def Z19.l0 (a0:List Z2) (x4145:List Z2) (x4146:Bool) (x4147:Int):Option ((List Z2)×Int):=(Z19.l1 a0 x4145 x4146 x4147 false 0 0)>>=fun oo=>match oo with | (x4203,x4204)=>(if(!x4203)=true then(some (x4145,0)) else((Z1c.f a0 x4204)>>=fun t4208=>if(t4208.2 != (0:Int))=true then(some ([],5)) else(((if(decide (t4208.1>(0:Int)))=true then((chk ((x4145.length+[(⟨x4204,t4208.1⟩:Z2)].length)*16≤140737488355328))>>=fun _=>some (x4145++[(⟨x4204,t4208.1⟩:Z2)])) else(some x4145)):Option (List Z2))>>=fun x4214=>Z19.l0 a0 x4214 true x4204)))
partial_fixpoint
def Z19.f (a0:List Z2):Option ((List Z2)×Int):=(Z19.l0 a0 [] false 0)>>=fun rr=>some rr
theorem Z19.ok (a0:List Z2) (r:(List Z2)×Int) (H:Z19.f a0=some r):Pv.Fn Tryz.prog 75 [.im (.row (a0.map Z0))] [] 0 (fun x o=>x = .tup [.own 0,iV .i64 r.2]∧o=[(0,some (.row 2 87 (r.1.map Z0)))]):=by
 unfold Z19.f at H
 refine Fn.bodyK [0] Tryz.func75 rfl rfl (fun Γ hP hn => ?_)
 have hm:Tryz.prog.follows .mixedOrders=true:=by kernel_rfl
 replace hn:Γ.n=67:=hn
 refine sO hP hn hm [] [] [0] [] [] ?_
 refine sO hP hn hm [] [(4,.none0)] [0,4] [] [] ?_
 refine sO hP hn hm [] [(5,bV false)] [0,4,5] [] [] ?_
 refine sO hP hn hm [] [(6,iV .i64 0)] [0,4,5,6] [] [] ?_
 refine AWp.block ?_
 obtain⟨o4215,e4216,H⟩:=Z3 H
 refine AWp.loop (LWp.conv (inv:=[]) (vk:=[]) (e0:=[3]) (t:=⟨[(0,.im (.row (a0.map Z0))),(4,.own 3),(5,bV false),(6,iV .i64 0)],[(3,some (.row 2 87 ([].map Z0)))],0⟩) (by kernel_rfl) ?_)
 refine LWp.mono (Q:=fun e s=>(match (generalizing:=false) o4215 with | rr=>e = .ret∧s.floor=0∧Z2e Tryz.prog Tryz.f75 s=some (.tup [.own 0,iV .i64 rr.2])∧([(0,s.obj 0)]:List (Nat×Option MObj))=[(0,some (.row 2 87 (rr.1.map Z0)))])) (LWp.cv (Zp (fun body hbody => ?_))) ?_
 ·refine        Z19.l0.partial_correctness a0 (motive:=fun x4145 x4146 x4147 o4215=>LWp Γ body (fun e s=>∃ t,Cv Γ s t∧(match (generalizing:=false) o4215 with | rr=>e = .ret∧t.floor=0∧Z2e   Tryz.prog Tryz.f75 t=some (.tup [.own 0,iV .i64 rr.2])∧([(0,t.obj 0)]:List (Nat×Option MObj))=[(0,some (.row 2 87 (rr.1.map Z0     )))])) ⟨[(0,.im (.row (a0.map Z0     ))),(4,.own 3),(5,bV x4146),(6,iV .i64 x4147)],[(3,some (.row 2 87 (x4145.map Z0     )))],0⟩) ?_ _ _ _ _ e4216
  clear H e4216 o4215;intro self ih x4145 x4146 x4147 o4215 H
  subst hbody
  refine LWp.round ?_
  refine AWp.block ?_
  refine sO hP hn hm [] [(7,bV false)] [0,4,5,6,7] [] [3] ?_
  refine sO hP hn hm [] [(8,iV .i64 0)] [0,4,5,6,7,8] [] [3] ?_
  refine AWp.seq ?_
  refine sO hP hn hm [] [(9,iV .i64 0)] [0,4,5,6,7,8,9] [] [3] ?_
  refine AWp.block ?_
  obtain⟨o4217,e4218,H⟩:=Z3 H
  refine AWp.loop (LWp.conv (inv:=[(3,6)]) (vk:=[]) (e0:=[]) (t:=⟨[(0,.im (.row (a0.map Z0))),(4,.own 6),(5,bV x4146),(6,iV .i64 x4147),(7,bV false),(8,iV .i64 0),(9,iV .i64 0)],[(6,some (.row 2 87 (x4145.map Z0)))],0⟩) (by kernel_rfl) ?_)
  refine LWp.mono (Q:=fun e s=>(match (generalizing:=false) o4217 with | (x4203,x4204)=>e = .exit 2∧s=⟨[(0,.im (.row (a0.map Z0))),(4,.own 9),(7,bV x4203),(8,iV .i64 x4204)],[(9,some (.row 2 87 (x4145.map Z0)))],0⟩)) (LWp.cv (Zp (fun body hbody => ?_))) ?_
  ·refine        Z19.l1.partial_correctness a0 x4145 x4146 x4147 (motive:=fun x4169 x4170 x4171 o4217=>LWp Γ body (fun e s=>∃ t,Cv Γ s t∧(match (generalizing:=false) o4217 with | (x4203,x4204)=>e = .exit 2∧t=⟨[(0,.im (.row (a0.map Z0     ))),(4,.own 9),(7,bV x4203),(8,iV .i64 x4204)],[(9,some (.row 2 87 (x4145.map Z0     )))],0⟩)) ⟨[(0,.im (.row (a0.map Z0     ))),(4,.own 6),(5,bV x4146),(6,iV .i64 x4147),(7,bV x4169),(8,iV .i64 x4170),(9,iV .i64 x4171)],[(6,some (.row 2 87 (x4145.map Z0     )))],0⟩) ?_ _ _ _ _ e4218
   clear H e4218 o4217;intro self ih x4169 x4170 x4171 o4217 H
   subst hbody
   refine LWp.round ?_
   refine AWp.seq ?_
   refine sR hP hn hm [(2,.any (iV .i64 (a0.length:Int)))] [(15,bV (decide (x4171<(a0.length:Int))))] [0,4,5,6,7,8,9,15] [] [6] [((a0.map Z0).length:Int)=(a0.length:Int)] ⟨by rw[Zn],trivial⟩ ?_
   refine AWp.cond (decide (x4171<(a0.length:Int))) (by kernel_rfl) (fun c4172 => ?_) (fun c4172 => ?_)
   ·replace H:=iT c4172 H
    refine AWp.skip ?_
    refine AWp.seq ?_
    refine AWp.block ?_
    refine AWp.seq ?_
    obtain⟨o4219,e4220,H⟩:=Z3 H
    refine AWp.mono (Q:=fun e s=>(match (generalizing:=false) o4219 with | x4193=>e = .normal∧s=⟨[(0,.im (.row (a0.map Z0))),(4,.own 7),(5,bV x4146),(6,iV .i64 x4147),(7,bV x4169),(8,iV .i64 x4170),(9,iV .i64 x4171),(41,bV x4193)],[(7,some (.row 2 87 (x4145.map Z0)))],0⟩)) (AWp.cv ?_) ?_
    ·replace H:=e4220;clear e4220
     rcases Bool.eq_false_or_eq_true (!x4146) with c4183 | c4183
     ·replace H:=iT c4183 H
      rcases Bool.eq_false_or_eq_true (!x4169) with c4184 | c4184
      ·replace H:=iT c4184 H
       refine rG hP hn hm [(2,.b true),(14,.b true)] [(30,bV x4169),(31,bV (!x4169)),(32,bV true),(40,bV true),(41,bV true)] [0,4,5,6,7,8,9,30,31,32,40,41] [] [6] [_,_] ⟨c4183,c4184,trivial⟩ ?_
       obtain rfl:=sj H
       exact lf [(6,7)] [] [] (by kernel_rfl) ⟨rfl,rfl⟩
      ·replace H:=iF c4184 H
       obtain⟨b4185,p4186,q4187,H⟩:=Z06 H
       refine rG hP hn hm [(2,.b true),(14,.b false),(17,.c (Z0 b4185))] [(30,bV x4169),(31,bV (!x4169)),(32,bV false),(33,.im (.row (a0.map Z0))),(34,iV .i64 x4171),(35,.ip [iI .i64 b4185.f0,iI .u64 b4185.f1]),(36,.ip [iI .i64 b4185.f0,iI .u64 b4185.f1]),(37,iV .i64 b4185.f0),(38,iV .i64 x4170),(39,bV (decide (b4185.f0<x4170))),(40,bV (decide (b4185.f0<x4170))),(41,bV (decide (b4185.f0<x4170)))] [0,4,5,6,7,8,9,30,31,32,33,34,35,36,37,38,39,40,41] [] [6] [_,_,_,_] ⟨c4183,c4184,p4186,Zi Z0 q4187,trivial⟩ ?_
       obtain rfl:=sj H
       exact lf [(6,7)] [] [] (by kernel_rfl) ⟨rfl,rfl⟩
     ·replace H:=iF c4183 H
      obtain⟨b4188,p4189,q4190,H⟩:=Z06 H
      rcases Bool.eq_false_or_eq_true (decide (b4188.f0>x4147)) with c4191 | c4191
      ·replace H:=iT c4191 H
       rcases Bool.eq_false_or_eq_true (!x4169) with c4192 | c4192
       ·replace H:=iT c4192 H
        refine rG hP hn hm [(2,.b false),(5,.c (Z0 b4188)),(11,.b true),(14,.b true)] [(21,.im (.row (a0.map Z0))),(22,iV .i64 x4171),(23,.ip [iI .i64 b4188.f0,iI .u64 b4188.f1]),(24,.ip [iI .i64 b4188.f0,iI .u64 b4188.f1]),(25,iV .i64 b4188.f0),(26,iV .i64 x4147),(27,bV (decide (b4188.f0>x4147))),(30,bV x4169),(31,bV (!x4169)),(32,bV true),(40,bV true),(41,bV true)] [0,4,5,6,7,8,9,21,22,23,24,25,26,27,30,31,32,40,41] [] [6] [_,_,_,_,_] ⟨c4183,p4189,Zi Z0 q4190,c4191,c4192,trivial⟩ ?_
        obtain rfl:=sj H
        exact lf [(6,7)] [] [] (by kernel_rfl) ⟨rfl,rfl⟩
       ·replace H:=iF c4192 H
        refine rG hP hn hm [(2,.b false),(5,.c (Z0 b4188)),(11,.b true),(14,.b false),(17,.c (Z0 b4188))] [(21,.im (.row (a0.map Z0))),(22,iV .i64 x4171),(23,.ip [iI .i64 b4188.f0,iI .u64 b4188.f1]),(24,.ip [iI .i64 b4188.f0,iI .u64 b4188.f1]),(25,iV .i64 b4188.f0),(26,iV .i64 x4147),(27,bV (decide (b4188.f0>x4147))),(30,bV x4169),(31,bV (!x4169)),(32,bV false),(33,.im (.row (a0.map Z0))),(34,iV .i64 x4171),(35,.ip [iI .i64 b4188.f0,iI .u64 b4188.f1]),(36,.ip [iI .i64 b4188.f0,iI .u64 b4188.f1]),(37,iV .i64 b4188.f0),(38,iV .i64 x4170),(39,bV (decide (b4188.f0<x4170))),(40,bV (decide (b4188.f0<x4170))),(41,bV (decide (b4188.f0<x4170)))] [0,4,5,6,7,8,9,21,22,23,24,25,26,27,30,31,32,33,34,35,36,37,38,39,40,41] [] [6] [_,_,_,_,_,_,_] ⟨c4183,p4189,Zi Z0 q4190,c4191,c4192,p4189,Zi Z0 q4190,trivial⟩ ?_
        obtain rfl:=sj H
        exact lf [(6,7)] [] [] (by kernel_rfl) ⟨rfl,rfl⟩
      ·replace H:=iF c4191 H
       refine rG hP hn hm [(2,.b false),(5,.c (Z0 b4188)),(11,.b false)] [(21,.im (.row (a0.map Z0))),(22,iV .i64 x4171),(23,.ip [iI .i64 b4188.f0,iI .u64 b4188.f1]),(24,.ip [iI .i64 b4188.f0,iI .u64 b4188.f1]),(25,iV .i64 b4188.f0),(26,iV .i64 x4147),(27,bV (decide (b4188.f0>x4147))),(41,bV false)] [0,4,5,6,7,8,9,21,22,23,24,25,26,27,41] [] [6] [_,_,_,_] ⟨c4183,p4189,Zi Z0 q4190,c4191,trivial⟩ ?_
       obtain rfl:=sj H
       exact lf [(6,7)] [] [] (by kernel_rfl) ⟨rfl,rfl⟩
    ·obtain⟨x4193,rfl⟩:∃ z,z=o4219:=⟨_,rfl⟩
     rintro e s ⟨rfl,rfl⟩
     obtain⟨o4221,e4222,H⟩:=Z3 H
     refine AWp.mono (Q:=fun e s=>(match (generalizing:=false) o4221 with | (x4201,x4202)=>e = .normal∧s=⟨[(0,.im (.row (a0.map Z0))),(4,.own 8),(5,bV x4146),(6,iV .i64 x4147),(7,bV x4201),(8,iV .i64 x4202),(9,iV .i64 x4171)],[(8,some (.row 2 87 (x4145.map Z0)))],0⟩)) (AWp.cv ?_) ?_
     ·replace H:=e4222;clear e4222
      refine AWp.cond x4193 (by kernel_rfl) (fun c4194 => ?_) (fun c4194 => ?_)
      ·replace H:=iT c4194 H
       obtain⟨b4198,p4199,q4200,H⟩:=Z06 H
       refine sR hP hn hm [(2,.c (Z0 b4198))] [(8,iV .i64 b4198.f0)] [0,4,5,6,8,9] [] [7] [_,_] ⟨p4199,Zi Z0 q4200,trivial⟩ ?_
       refine rO hP hn hm [] [(7,bV true)] [0,4,5,6,7,8,9] [] [7] ?_
       obtain rfl:=sj H
       exact lf [(7,8)] [] [] (by kernel_rfl) ⟨rfl,rfl⟩
      ·replace H:=iF c4194 H
       refine AWp.skip ?_
       obtain rfl:=sj H
       exact lf [(7,8)] [] [] (by kernel_rfl) ⟨rfl,rfl⟩
     ·obtain⟨x4201,x4202⟩:=o4221
      rintro e s ⟨rfl,rfl⟩
      refine rO hP hn hm [] [(9,iV .i64 (i64.wrap (x4171+(1:Int))))] [0,4,5,6,7,8,9] [] [8] ?_
      exact LWp.conv [(8,6)] [] [] (by kernel_rfl) (ih _ _ _ _ H)
   ·replace H:=iF c4172 H
    refine AWp.exit ?_
    obtain rfl:=sj H
    exact lf [(6,9)] [] [] (by kernel_rfl) ⟨rfl,rfl⟩
  ·obtain⟨x4203,x4204⟩:=o4217
   rintro e s ⟨rfl,rfl⟩
   refine AWp.seq ?_
   refine sO hP hn hm [] [(48,bV (!x4203))] [0,4,8,48] [] [9] ?_
   refine AWp.cond (!x4203) (by kernel_rfl) (fun c4205 => ?_) (fun c4205 => ?_)
   ·replace H:=iT c4205 H
    refine sO hP hn hm [] [(2,.own 9),(3,iV .i64 0)] [2,3] [] [9] ?_
    refine AWp.conv (inv:=[(9,0)]) (vk:=[]) (e0:=[]) (t:=⟨[(2,.own 0),(3,iV .i64 0)],[(0,some (.row 2 87 (x4145.map Z0)))],0⟩) (by kernel_rfl) ?_
    refine AWp.ret ?_
    obtain rfl:=sj H
    exact rl rfl rfl (by kernel_rfl) (by kernel_rfl)
   ·replace H:=iF c4205 H
    refine AWp.skip ?_
    obtain⟨t4208,e4209,H⟩:=Z3 H
    refine sR hP hn hm [(2,.call [] [] [] [] 0 (.tup [iV .u64 t4208.1,iV .i64 t4208.2]) [])] [(10,iV .u64 t4208.1),(11,iV .i64 t4208.2)] [0,4,8,10,11] [] [9] [_,_] ⟨Tryz.call91,Z1c.ok a0 x4204 t4208 e4209,trivial⟩ ?_
    refine AWp.seq ?_
    refine sO hP hn hm [] [(57,bV (t4208.2 != (0:Int)))] [0,4,8,10,57] [] [9] ?_
    refine AWp.cond (t4208.2 != (0:Int)) (by kernel_rfl) (fun c4210 => ?_) (fun c4210 => ?_)
    ·replace H:=iT c4210 H
     refine sO hP hn hm [] [(2,.none0),(3,iV .i64 5)] [2,3] [] [] ?_
     refine AWp.conv (inv:=[]) (vk:=[]) (e0:=[0]) (t:=⟨[(2,.own 0),(3,iV .i64 5)],[(0,some (.row 2 87 ([].map Z0)))],0⟩) (by kernel_rfl) ?_
     refine AWp.ret ?_
     obtain rfl:=sj H
     exact rl rfl rfl (by kernel_rfl) (by kernel_rfl)
    ·replace H:=iF c4210 H
     refine AWp.skip ?_
     refine AWp.seq ?_
     refine sO hP hn hm [] [(59,bV (decide (t4208.1>(0:Int))))] [0,4,8,10,59] [] [9] ?_
     obtain⟨o4223,e4224,H⟩:=Z3 H
     refine AWp.mono (Q:=fun e s=>(match (generalizing:=false) o4223 with | x4214=>e = .normal∧s=⟨[(0,.im (.row (a0.map Z0))),(4,.own 12),(8,iV .i64 x4204)],[(12,some (.row 2 87 (x4214.map Z0)))],0⟩)) (AWp.cv ?_) ?_
     ·replace H:=e4224;clear e4224
      refine AWp.cond (decide (t4208.1>(0:Int))) (by kernel_rfl) (fun c4211 => ?_) (fun c4211 => ?_)
      ·replace H:=iT c4211 H
       obtain⟨c4213,H⟩:=Z0f H
       refine rG hP hn hm [(4,.app 10 ([(⟨x4204,t4208.1⟩:Z2)].map Z0)),(5,.app 11 ((x4145++[(⟨x4204,t4208.1⟩:Z2)]).map Z0))] [(4,.own 11)] [0,4,8] [(11,some (.row 2 87 ((x4145++[(⟨x4204,t4208.1⟩:Z2)]).map Z0)))] [11] [[(⟨x4204,t4208.1⟩:Z2)].map Z0=[[iI .i64 x4204,iI .u64 t4208.1]],(x4145++[(⟨x4204,t4208.1⟩:Z2)]).map Z0=(x4145.map Z0)++([(⟨x4204,t4208.1⟩:Z2)].map Z0),∀ c∈([(⟨x4204,t4208.1⟩:Z2)].map Z0),c.length=2,∀ c∈([(⟨x4204,t4208.1⟩:Z2)].map Z0),Z14 (c.map .im)=true,((x4145.map Z0).length+([(⟨x4204,t4208.1⟩:Z2)].map Z0).length)*16≤140737488355328] ⟨by exact rfl,by simp,by exact Z0z _ _ _ (fun _=>rfl),by exact Z0s _ _ (fun _=>rfl),by simpa using c4213,trivial⟩ ?_
       obtain rfl:=sj H
       exact lf [(11,12)] [] [] (by kernel_rfl) ⟨rfl,rfl⟩
      ·replace H:=iF c4211 H
       refine AWp.skip ?_
       obtain rfl:=sj H
       exact lf [(9,12)] [] [] (by kernel_rfl) ⟨rfl,rfl⟩
     ·obtain⟨x4214,rfl⟩:∃ z,z=o4223:=⟨_,rfl⟩
      rintro e s ⟨rfl,rfl⟩
      refine sO hP hn hm [] [(6,iV .i64 x4204)] [0,4,6] [] [12] ?_
      refine rO hP hn hm [] [(5,bV true)] [0,4,5,6] [] [12] ?_
      exact LWp.conv [(12,3)] [] [] (by kernel_rfl) (ih _ _ _ _ H)
 ·obtain⟨rr,rfl⟩:∃ z,z=o4215:=⟨_,rfl⟩
  rintro e s ⟨rfl,hfl,hres⟩
  obtain rfl:=sj H
  exact Exists.intro _ (And.intro (fun _ _ h=>h) (And.intro (.inl rfl) (And.intro hfl hres)))
def Z1i.l0 (a0:List Z2) (a1:Int) (a2:Int) (x4053:List Z2) (x4054:Int):Option (List Z2):=if(decide (x4054<(a0.length:Int)))=true then((at? a0 x4054)>>=fun b4061=>(Z5u.f a1 a2 b4061.f0)>>=fun t4064=>(chk ((x4053.length+[(⟨t4064.1,b4061.f1⟩:Z2)].length)*16≤140737488355328))>>=fun _=>Z1i.l0 a0 a1 a2 (x4053++[(⟨t4064.1,b4061.f1⟩:Z2)]) (i64.wrap (x4054+(1:Int)))) else(some x4053)
partial_fixpoint
def Z1i.f (a0:List Z2) (a1:Int) (a2:Int):Option (List Z2):=(Z1i.l0 a0 a1 a2 [] 0)>>=fun x4068=>(Z19.f x4068)>>=fun t4227=>some t4227.1
theorem Z1i.ok (a0:List Z2) (a1:Int) (a2:Int) (r:List Z2) (H:Z1i.f a0 a1 a2=some r):Pv.Fn Tryz.prog 107 [.im (.row (a0.map Z0)),iV .i64 a1,iV .i64 a2] [] 0 (fun x o=>x = .own 0∧o=[(0,some (.row 2 87 (r.map Z0)))]):=by
 unfold Z1i.f at H
 refine Fn.bodyK [0] Tryz.func107 rfl rfl (fun Γ hP hn => ?_)
 have hm:Tryz.prog.follows .mixedOrders=true:=by kernel_rfl
 replace hn:Γ.n=46:=hn
 refine sO hP hn hm [] [] [0,1,2] [] [] ?_
 refine sO hP hn hm [] [(7,.none0)] [0,1,2,7] [] [] ?_
 refine AWp.seq ?_
 refine sO hP hn hm [] [(8,iV .i64 0)] [0,1,2,7,8] [] [] ?_
 refine AWp.block ?_
 obtain⟨o4229,e4230,H⟩:=Z3 H
 refine AWp.loop (LWp.conv (inv:=[]) (vk:=[]) (e0:=[2]) (t:=⟨[(0,.im (.row (a0.map Z0))),(1,iV .i64 a1),(2,iV .i64 a2),(7,.own 2),(8,iV .i64 0)],[(2,some (.row 2 87 ([].map Z0)))],0⟩) (by kernel_rfl) ?_)
 refine LWp.mono (Q:=fun e s=>(match (generalizing:=false) o4229 with | x4068=>e = .exit 0∧s=⟨[(7,.own 5)],[(5,some (.row 2 87 (x4068.map Z0)))],0⟩)) (LWp.cv (Zp (fun body hbody => ?_))) ?_
 ·refine          Z1i.l0.partial_correctness a0 a1 a2 (motive:=fun x4053 x4054 o4229=>LWp Γ body (fun e s=>∃ t,Cv Γ s t∧(match (generalizing:=false) o4229 with | x4068=>e = .exit 0∧t=⟨[(7,.own 5)],[(5,some (.row 2 87 (x4068.map Z0     )))],0⟩)) ⟨[(0,.im (.row (a0.map Z0     ))),(1,iV .i64 a1),(2,iV .i64 a2),(7,.own 2),(8,iV .i64 x4054)],[(2,some (.row 2 87 (x4053.map Z0     )))],0⟩) ?_ _ _ _ e4230
  clear H e4230 o4229;intro self ih x4053 x4054 o4229 H
  subst hbody
  refine LWp.round ?_
  refine AWp.seq ?_
  refine sR hP hn hm [(2,.any (iV .i64 (a0.length:Int)))] [(16,bV (decide (x4054<(a0.length:Int))))] [0,1,2,7,8,16] [] [2] [((a0.map Z0).length:Int)=(a0.length:Int)] ⟨by rw[Zn],trivial⟩ ?_
  refine AWp.cond (decide (x4054<(a0.length:Int))) (by kernel_rfl) (fun c4055 => ?_) (fun c4055 => ?_)
  ·replace H:=iT c4055 H
   refine AWp.skip ?_
   refine AWp.seq ?_
   refine AWp.block ?_
   obtain⟨b4061,p4062,q4063,H⟩:=Z06 H
   obtain⟨t4064,e4065,H⟩:=Z3 H
   refine sR hP hn hm [(4,.c (Z0 b4061)),(7,.call [] [] [] [] 0 (.tup [iV .i64 t4064.1,iV .i64 t4064.2]) [])] [(9,iV .i64 t4064.1)] [0,1,2,7,8,9] [] [2] [_,_,_,_] ⟨p4062,Zi Z0 q4063,Tryz.call113,Z5u.ok a1 a2 b4061.f0 t4064 e4065,trivial⟩ ?_
   obtain⟨c4067,H⟩:=Z0f H
   refine rG hP hn hm [(4,.c (Z0 b4061)),(8,.app 3 ([(⟨t4064.1,b4061.f1⟩:Z2)].map Z0)),(9,.app 4 ((x4053++[(⟨t4064.1,b4061.f1⟩:Z2)]).map Z0))] [(7,.own 4)] [0,1,2,7,8] [(4,some (.row 2 87 ((x4053++[(⟨t4064.1,b4061.f1⟩:Z2)]).map Z0)))] [4] [_,_,[(⟨t4064.1,b4061.f1⟩:Z2)].map Z0=[[iI .i64 t4064.1,iI .u64 b4061.f1]],(x4053++[(⟨t4064.1,b4061.f1⟩:Z2)]).map Z0=(x4053.map Z0)++([(⟨t4064.1,b4061.f1⟩:Z2)].map Z0),∀ c∈([(⟨t4064.1,b4061.f1⟩:Z2)].map Z0),c.length=2,∀ c∈([(⟨t4064.1,b4061.f1⟩:Z2)].map Z0),Z14 (c.map .im)=true,((x4053.map Z0).length+([(⟨t4064.1,b4061.f1⟩:Z2)].map Z0).length)*16≤140737488355328] ⟨p4062,Zi Z0 q4063,by exact rfl,by simp,by exact Z0z _ _ _ (fun _=>rfl),by exact Z0s _ _ (fun _=>rfl),by simpa using c4067,trivial⟩ ?_
   refine rO hP hn hm [] [(8,iV .i64 (i64.wrap (x4054+(1:Int))))] [0,1,2,7,8] [] [4] ?_
   exact LWp.conv [(4,2)] [] [] (by kernel_rfl) (ih _ _ _ H)
  ·replace H:=iF c4055 H
   refine AWp.exit ?_
   obtain rfl:=sj H
   exact lf [(2,5)] [] [] (by kernel_rfl) ⟨rfl,rfl⟩
 ·obtain⟨x4068,rfl⟩:∃ z,z=o4229:=⟨_,rfl⟩
  rintro e s ⟨rfl,rfl⟩
  obtain⟨t4227,e4228,H⟩:=Z3 H
  refine sR hP hn hm [(1,.more (Z3j [] [(0,6)] [5] [6] 0 (.tup [.own 0,iV .i64 t4227.2]) [(0,some (.row 2 87 (t4227.1.map Z0)))]))] [(11,.own 6)] [11] [(6,some (.row 2 87 (t4227.1.map Z0)))] [6] [_,_,∀ c∈t4227.1.map Z0,∀ x∈c,∃ v,x=Im.sc v] ⟨Tryz.call75,Z19.ok x4068 t4227 e4228,by exact Z3i _ _ (fun _=>by simp),trivial⟩ ?_
  refine sO hP hn hm [] [(6,.own 6)] [6] [] [6] ?_
  refine AWp.conv (inv:=[(6,0)]) (vk:=[]) (e0:=[]) (t:=⟨[(6,.own 0)],[(0,some (.row 2 87 (t4227.1.map Z0)))],0⟩) (by kernel_rfl) ?_
  refine AWp.ret ?_
  obtain rfl:=sj H
  exact rl (.inl rfl) rfl (by kernel_rfl) (by kernel_rfl)
def Z1h.l0 (a0:Int) (a1:List Z2) (a2:Int) (x4268:Int):Option (Int ⊕ Unit):=if(decide (x4268<(a1.length:Int)))=true then((((at? a1 x4268)>>=fun b4278=>(Z0e.f a0 (i64.wrap (b4278.f0-(1:Int))))>>=fun t4281=>if(decide (t4281<a2))=true then((Z0e.f a0 b4278.f0)>>=fun t4284=>some (decide (t4284>a2))) else(some false)):Option (Bool))>>=fun x4286=>if x4286=true then((at? a1 x4268)>>=fun b4293=>(Z0e.f a0 b4293.f0)>>=fun t4296=>some (.inl t4296)) else(Z1h.l0 a0 a1 a2 (i64.wrap (x4268+(1:Int))))) else(some (.inr ()))
partial_fixpoint
def Z1h.f (a0:Int) (a1:List Z2) (a2:Int):Option (Int):=(Z1h.l0 a0 a1 a2 0)>>=fun oo=>match oo with | .inl rr=>(some rr) | .inr _=>(some a2)
theorem Z1h.ok (a0:Int) (a1:List Z2) (a2:Int) (r:Int) (H:Z1h.f a0 a1 a2=some r):Pv.Fn Tryz.prog 114 [iV .i64 a0,.im (.row (a1.map Z0)),iV .i64 a2] [] 0 (fun x o=>x=iV .i64 r∧o=[]):=by
 unfold Z1h.f at H
 refine Fn.bodyK [] Tryz.func114 rfl rfl (fun Γ hP hn => ?_)
 have hm:Tryz.prog.follows .mixedOrders=true:=by kernel_rfl
 replace hn:Γ.n=43:=hn
 refine sO hP hn hm [] [] [0,1,2] [] [] ?_
 refine AWp.seq ?_
 refine sO hP hn hm [] [(7,iV .i64 0)] [0,1,2,7] [] [] ?_
 refine AWp.block ?_
 obtain⟨o4298,e4299,H⟩:=Z3 H
 refine AWp.loop (LWp.conv (inv:=[]) (vk:=[]) (e0:=[]) (t:=⟨[(0,iV .i64 a0),(1,.im (.row (a1.map Z0))),(2,iV .i64 a2),(7,iV .i64 0)],[],0⟩) (by kernel_rfl) ?_)
 refine LWp.mono (Q:=fun e s=>(match (generalizing:=false) o4298 with | .inl rr=>e = .ret∧s.floor=0∧Z2e Tryz.prog Tryz.f114 s=some (iV .i64 rr)∧([]:List (Nat×Option MObj))=[] | .inr _=>e = .exit 0∧s=⟨[(2,iV .i64 a2)],[],0⟩)) (LWp.cv (Zp (fun body hbody => ?_))) ?_
 ·refine          Z1h.l0.partial_correctness a0 a1 a2 (motive:=fun x4268 o4298=>LWp Γ body (fun e s=>∃ t,Cv Γ s t∧(match (generalizing:=false) o4298 with | .inl rr=>e = .ret∧t.floor=0∧Z2e   Tryz.prog Tryz.f114 t=some (iV .i64 rr)∧([]:List (Nat×Option MObj))=[] | .inr _=>e = .exit 0∧t=⟨[(2,iV .i64 a2)],[],0⟩)) ⟨[(0,iV .i64 a0),(1,.im (.row (a1.map Z0     ))),(2,iV .i64 a2),(7,iV .i64 x4268)],[],0⟩) ?_ _ _ e4299
  clear H e4299 o4298;intro self ih x4268 o4298 H
  subst hbody
  refine LWp.round ?_
  refine AWp.seq ?_
  refine sR hP hn hm [(2,.any (iV .i64 (a1.length:Int)))] [(11,bV (decide (x4268<(a1.length:Int))))] [0,1,2,7,11] [] [] [((a1.map Z0).length:Int)=(a1.length:Int)] ⟨by rw[Zn],trivial⟩ ?_
  refine AWp.cond (decide (x4268<(a1.length:Int))) (by kernel_rfl) (fun c4269 => ?_) (fun c4269 => ?_)
  ·replace H:=iT c4269 H
   refine AWp.skip ?_
   refine AWp.seq ?_
   refine AWp.block ?_
   refine AWp.seq ?_
   obtain⟨o4300,e4301,H⟩:=Z3 H
   refine AWp.mono (Q:=fun e s=>(match (generalizing:=false) o4300 with | x4286=>e = .normal∧s=⟨[(0,iV .i64 a0),(1,.im (.row (a1.map Z0))),(2,iV .i64 a2),(7,iV .i64 x4268),(34,bV x4286)],[],0⟩)) (AWp.cv ?_) ?_
   ·replace H:=e4301;clear e4301
    obtain⟨b4278,p4279,q4280,H⟩:=Z06 H
    obtain⟨t4281,e4282,H⟩:=Z3 H
    rcases Bool.eq_false_or_eq_true (decide (t4281<a2)) with c4283 | c4283
    ·replace H:=iT c4283 H
     obtain⟨t4284,e4285,H⟩:=Z3 H
     refine rG hP hn hm [(3,.c (Z0 b4278)),(7,.call [] [] [] [] 0 (iV .i64 t4281) []),(10,.b true),(14,.c (Z0 b4278)),(17,.call [] [] [] [] 0 (iV .i64 t4284) [])] [(25,iV .i64 a0),(26,.im (.row (a1.map Z0))),(27,iV .i64 x4268),(28,.ip [iI .i64 b4278.f0,iI .u64 b4278.f1]),(29,.ip [iI .i64 b4278.f0,iI .u64 b4278.f1]),(30,iV .i64 b4278.f0),(31,iV .i64 t4284),(32,iV .i64 a2),(33,bV (decide (t4284>a2))),(34,bV (decide (t4284>a2)))] [0,1,2,7,25,26,27,28,29,30,31,32,33,34] [] [] [_,_,_,_,_,_,_,_,_] ⟨p4279,Zi Z0 q4280,Tryz.call47,Z0e.ok a0 (i64.wrap (b4278.f0-(1:Int))) t4281 e4282,c4283,p4279,Zi Z0 q4280,Tryz.call47,Z0e.ok a0 b4278.f0 t4284 e4285,trivial⟩ ?_
     obtain rfl:=sj H
     exact lf [] [] [] (by kernel_rfl) ⟨rfl,rfl⟩
    ·replace H:=iF c4283 H
     refine rG hP hn hm [(3,.c (Z0 b4278)),(7,.call [] [] [] [] 0 (iV .i64 t4281) []),(10,.b false)] [(34,bV false)] [0,1,2,7,34] [] [] [_,_,_,_,_] ⟨p4279,Zi Z0 q4280,Tryz.call47,Z0e.ok a0 (i64.wrap (b4278.f0-(1:Int))) t4281 e4282,c4283,trivial⟩ ?_
     obtain rfl:=sj H
     exact lf [] [] [] (by kernel_rfl) ⟨rfl,rfl⟩
   ·obtain⟨x4286,rfl⟩:∃ z,z=o4300:=⟨_,rfl⟩
    rintro e s ⟨rfl,rfl⟩
    refine AWp.cond x4286 (by kernel_rfl) (fun c4287 => ?_) (fun c4287 => ?_)
    ·replace H:=iT c4287 H
     obtain⟨b4293,p4294,q4295,H⟩:=Z06 H
     obtain⟨t4296,e4297,H⟩:=Z3 H
     refine sR hP hn hm [(3,.c (Z0 b4293)),(6,.call [] [] [] [] 0 (iV .i64 t4296) [])] [(6,iV .i64 t4296)] [6] [] [] [_,_,_,_] ⟨p4294,Zi Z0 q4295,Tryz.call47,Z0e.ok a0 b4293.f0 t4296 e4297,trivial⟩ ?_
     refine AWp.conv (inv:=[]) (vk:=[]) (e0:=[]) (t:=⟨[(6,iV .i64 t4296)],[],0⟩) (by kernel_rfl) ?_
     refine AWp.ret ?_
     obtain rfl:=sj H
     exact rl rfl rfl (by kernel_rfl) (by kernel_rfl)
    ·replace H:=iF c4287 H
     refine AWp.skip ?_
     refine rO hP hn hm [] [(7,iV .i64 (i64.wrap (x4268+(1:Int))))] [0,1,2,7] [] [] ?_
     exact LWp.conv [] [] [] (by kernel_rfl) (ih _ _ H)
  ·replace H:=iF c4269 H
   refine AWp.exit ?_
   obtain rfl:=sj H
   exact lf [] [] [] (by kernel_rfl) ⟨rfl,rfl⟩
 ·rcases o4298 with rr | _
  ·skip
   rintro e s ⟨rfl,hfl,hres⟩
   obtain rfl:=sj H
   exact Exists.intro _ (And.intro (fun _ _ h=>h) (And.intro (.inl rfl) (And.intro hfl hres)))
  ·skip
   rintro e s ⟨rfl,rfl⟩
   refine sO hP hn hm [] [(6,iV .i64 a2)] [6] [] [] ?_
   refine AWp.conv (inv:=[]) (vk:=[]) (e0:=[]) (t:=⟨[(6,iV .i64 a2)],[],0⟩) (by kernel_rfl) ?_
   refine AWp.ret ?_
   obtain rfl:=sj H
   exact rl (.inl rfl) rfl (by kernel_rfl) (by kernel_rfl)
def Z0g.l0 (a0:Zd) (x4311:Int) (x4328:Int) (x4329:List Z2) (x4330:Int):Option (Int×(List Z2)):=if(decide (x4330<(a0.f6.length:Int)))=true then((at? a0.f6 x4330)>>=fun b4337=>(Z0e.f a0.f1 b4337.f0)>>=fun t4340=>((if(decide (t4340≤x4311))=true then(some (u64.wrap (x4328+b4337.f1),x4329)) else((chk ((x4329.length+[b4337].length)*16≤140737488355328))>>=fun _=>some (x4328,x4329++[b4337]))):Option (Int×(List Z2)))>>=fun oo=>match oo with | (x4345,x4346)=>(Z0g.l0 a0 x4311 x4345 x4346 (i64.wrap (x4330+(1:Int))))) else(some (x4328,x4329))
partial_fixpoint
def Z0g.l1 (a0:Zd) (x4311:Int) (x4348:List Z2) (x4365:Int) (x4366:List Z2) (x4367:Int):Option (Int×(List Z2)):=if(decide (x4367<(a0.f7.length:Int)))=true then((at? a0.f7 x4367)>>=fun b4374=>(Z0e.f a0.f1 b4374.f0)>>=fun t4377=>((if(decide (t4377≤x4311))=true then(some (u64.wrap (x4365+b4374.f1),x4366)) else((chk ((x4366.length+[b4374].length)*16≤140737488355328))>>=fun _=>some (x4365,x4366++[b4374]))):Option (Int×(List Z2)))>>=fun oo=>match oo with | (x4382,x4383)=>(Z0g.l1 a0 x4311 x4348 x4382 x4383 (i64.wrap (x4367+(1:Int))))) else(some (x4365,x4366))
partial_fixpoint
def Z0g.f (a0:Zd) (a1:Int):Option (Zd):=(Z1h.f a0.f1 a0.f6 a1)>>=fun t4306=>(Z1h.f a0.f1 a0.f7 a1)>>=fun t4308=>((if(decide (t4308>t4306))=true then(some t4308) else(some t4306)):Option (Int))>>=fun x4311=>(Z0g.l0 a0 x4311 a0.f3 [] 0)>>=fun oo=>match oo with | (x4347,x4348)=>((Z0g.l1 a0 x4311 x4348 x4347 [] 0)>>=fun oo=>match oo with | (x4384,x4385)=>(some (⟨a0.f0,a0.f1,x4311,x4384,a0.f4,a0.f5,x4348,x4385⟩:Zd)))
theorem Z0g.ok (a0:Zd) (a1:Int) (r:Zd) (H:Z0g.f a0 a1=some r):Pv.Fn Tryz.prog 108 [.agg (Zl a0),iV .i64 a1] [] 0 (fun x o=>x = .agg [iV .i64 ((r).f0),iV .i64 ((r).f1),iV .i64 ((r).f2),iV .u64 ((r).f3),iV .u64 ((r).f4),iV .i64 ((r).f5),.own 0,.own 1]∧o=[(0,some (.row 2 87 (((r).f6).map Z0))),(1,some (.row 2 87 (((r).f7).map Z0)))]):=by
 unfold Z0g.f at H
 refine Fn.bodyK [0,1] Tryz.func108 rfl rfl (fun Γ hP hn => ?_)
 have hm:Tryz.prog.follows .mixedOrders=true:=by kernel_rfl
 replace hn:Γ.n=108:=hn
 refine sO hP hn hm [(0,.k 0),(1,.k 1)] [(2,.ptr 0 0 0),(4,.ptr 1 0 0)] [1,2,4] [(0,some (.box 39 (Zl a0))),(1,some (.box 39 [iV .i64 0,iV .i64 0,iV .i64 0,iV .u64 0,iV .u64 0,iV .i64 0,.none0,.none0]))] [0,1] ?_
 obtain⟨t4306,e4307,H⟩:=Z3 H
 obtain⟨t4308,e4309,H⟩:=Z3 H
 refine sR hP hn hm [(5,.call [] [] [] [] 0 (iV .i64 t4306) []),(11,.call [] [] [] [] 0 (iV .i64 t4308) [])] [(5,iV .i64 t4306),(6,iV .i64 t4308)] [2,4,5,6] [] [0,1] [_,_,_,_] ⟨Tryz.call114,Z1h.ok a0.f1 a0.f6 a1 t4306 e4307,Tryz.call114,Z1h.ok a0.f1 a0.f7 a1 t4308 e4309,trivial⟩ ?_
 refine AWp.seq ?_
 refine sO hP hn hm [] [(24,bV (decide (t4308>t4306)))] [2,4,5,6,24] [] [0,1] ?_
 obtain⟨o4386,e4387,H⟩:=Z3 H
 refine AWp.mono (Q:=fun e s=>(match (generalizing:=false) o4386 with | x4311=>e = .normal∧s=⟨[(2,.ptr 2 0 0),(4,.ptr 3 0 0),(5,iV .i64 x4311)],[(2,some (.box 39 (Zl a0))),(3,some (.box 39 [iV .i64 0,iV .i64 0,iV .i64 0,iV .u64 0,iV .u64 0,iV .i64 0,.none0,.none0]))],0⟩)) (AWp.cv ?_) ?_
 ·replace H:=e4387;clear e4387
  refine AWp.cond (decide (t4308>t4306)) (by kernel_rfl) (fun c4310 => ?_) (fun c4310 => ?_)
  ·replace H:=iT c4310 H
   refine rO hP hn hm [] [(5,iV .i64 t4308)] [2,4,5] [] [0,1] ?_
   obtain rfl:=sj H
   exact lf [(0,2),(1,3)] [] [] (by kernel_rfl) ⟨rfl,rfl⟩
  ·replace H:=iF c4310 H
   refine AWp.skip ?_
   obtain rfl:=sj H
   exact lf [(0,2),(1,3)] [] [] (by kernel_rfl) ⟨rfl,rfl⟩
 ·obtain⟨x4311,rfl⟩:∃ z,z=o4386:=⟨_,rfl⟩
  rintro e s ⟨rfl,rfl⟩
  refine sO hP hn hm [(1,.k 4)] [(7,.ptr 4 0 0)] [2,4,5,7] [(4,some (.box 39 (Zl a0)))] [2,3,4] ?_
  refine sO hP hn hm [] [] [2,4,5,7] [(4,some (.box 39 (Zl ⟨a0.f0,a0.f1,x4311,a0.f3,a0.f4,a0.f5,a0.f6,a0.f7⟩)))] [2,3,4] ?_
  refine sO hP hn hm [] [] [2,4,5,7] [(4,some (.box 39 [iV .i64 a0.f0,iV .i64 a0.f1,iV .i64 x4311,iV .u64 a0.f3,iV .u64 a0.f4,iV .i64 a0.f5,.none0,.im (.row (a0.f7.map Z0))]))] [2,3,4] ?_
  refine sO hP hn hm [] [] [2,4,5,7] [(4,some (.box 39 [iV .i64 a0.f0,iV .i64 a0.f1,iV .i64 x4311,iV .u64 a0.f3,iV .u64 a0.f4,iV .i64 a0.f5,.none0,.none0]))] [2,3,4] ?_
  refine AWp.seq ?_
  refine sO hP hn hm [] [(8,iV .i64 0)] [2,4,5,7,8] [] [2,3,4] ?_
  refine AWp.block ?_
  obtain⟨o4388,e4389,H⟩:=Z3 H
  refine AWp.loop (LWp.conv (inv:=[(2,11),(3,12),(4,13)]) (vk:=[]) (e0:=[14]) (t:=⟨[(2,.ptr 11 0 0),(4,.ptr 12 0 0),(5,iV .i64 x4311),(7,.ptr 13 0 0),(8,iV .i64 0)],[(11,some (.box 39 (Zl a0))),(12,some (.box 39 [iV .i64 0,iV .i64 0,iV .i64 0,iV .u64 0,iV .u64 0,iV .i64 0,.none0,.none0])),(13,some (.box 39 [iV .i64 a0.f0,iV .i64 a0.f1,iV .i64 x4311,iV .u64 a0.f3,iV .u64 a0.f4,iV .i64 a0.f5,.own 14,.none0])),(14,some (.row 2 87 ([].map Z0)))],0⟩) (by kernel_rfl) ?_)
  refine LWp.mono (Q:=fun e s=>(match (generalizing:=false) o4388 with | (x4347,x4348)=>e = .exit 0∧s=⟨[(2,.ptr 21 0 0),(4,.ptr 22 0 0),(5,iV .i64 x4311),(7,.ptr 23 0 0)],[(21,some (.box 39 (Zl a0))),(22,some (.box 39 [iV .i64 0,iV .i64 0,iV .i64 0,iV .u64 0,iV .u64 0,iV .i64 0,.none0,.none0])),(23,some (.box 39 [iV .i64 a0.f0,iV .i64 a0.f1,iV .i64 x4311,iV .u64 x4347,iV .u64 a0.f4,iV .i64 a0.f5,.own 24,.none0])),(24,some (.row 2 87 (x4348.map Z0)))],0⟩)) (LWp.cv (Zp (fun body hbody => ?_))) ?_
  ·refine           Z0g.l0.partial_correctness a0 x4311 (motive:=fun x4328 x4329 x4330 o4388=>LWp Γ body (fun e s=>∃ t,Cv Γ s t∧(match (generalizing:=false) o4388 with | (x4347,x4348)=>e = .exit 0∧t=⟨[(2,.ptr 21 0 0),(4,.ptr 22 0 0),(5,iV .i64 x4311),(7,.ptr 23 0 0)],[(21,some (.box 39 (Zl    a0))),(22,some (.box 39 [iV .i64 0,iV .i64 0,iV .i64 0,iV .u64 0,iV .u64 0,iV .i64 0,.none0,.none0])),(23,some (.box 39 [iV .i64 a0.f0,iV .i64 a0.f1,iV .i64 x4311,iV .u64 x4347,iV .u64 a0.f4,iV .i64 a0.f5,.own 24,.none0])),(24,some (.row 2 87 (x4348.map Z0     )))],0⟩)) ⟨[(2,.ptr 11 0 0),(4,.ptr 12 0 0),(5,iV .i64 x4311),(7,.ptr 13 0 0),(8,iV .i64 x4330)],[(11,some (.box 39 (Zl    a0))),(12,some (.box 39 [iV .i64 0,iV .i64 0,iV .i64 0,iV .u64 0,iV .u64 0,iV .i64 0,.none0,.none0])),(13,some (.box 39 [iV .i64 a0.f0,iV .i64 a0.f1,iV .i64 x4311,iV .u64 x4328,iV .u64 a0.f4,iV .i64 a0.f5,.own 14,.none0])),(14,some (.row 2 87 (x4329.map Z0     )))],0⟩) ?_ _ _ _ _ e4389
   clear H e4389 o4388;intro self ih x4328 x4329 x4330 o4388 H
   subst hbody
   refine LWp.round ?_
   refine AWp.seq ?_
   refine sR hP hn hm [(3,.any (iV .i64 (a0.f6.length:Int)))] [(35,bV (decide (x4330<(a0.f6.length:Int))))] [2,4,5,7,8,35] [] [11,12,13,14] [((a0.f6.map Z0).length:Int)=(a0.f6.length:Int)] ⟨by rw[Zn],trivial⟩ ?_
   refine AWp.cond (decide (x4330<(a0.f6.length:Int))) (by kernel_rfl) (fun c4331 => ?_) (fun c4331 => ?_)
   ·replace H:=iT c4331 H
    refine AWp.skip ?_
    refine AWp.seq ?_
    refine AWp.block ?_
    obtain⟨b4337,p4338,q4339,H⟩:=Z06 H
    obtain⟨t4340,e4341,H⟩:=Z3 H
    refine sR hP hn hm [(5,.c (Z0 b4337)),(8,.call [] [] [] [] 0 (iV .i64 t4340) [])] [(48,bV (decide (t4340≤x4311)))] [2,4,5,7,8,48] [] [11,12,13,14] [_,_,_,_] ⟨p4338,Zi Z0 q4339,Tryz.call47,Z0e.ok a0.f1 b4337.f0 t4340 e4341,trivial⟩ ?_
    obtain⟨o4390,e4391,H⟩:=Z3 H
    refine AWp.mono (Q:=fun e s=>(match (generalizing:=false) o4390 with | (x4345,x4346)=>e = .normal∧s=⟨[(2,.ptr 17 0 0),(4,.ptr 18 0 0),(5,iV .i64 x4311),(7,.ptr 19 0 0),(8,iV .i64 x4330)],[(17,some (.box 39 (Zl a0))),(18,some (.box 39 [iV .i64 0,iV .i64 0,iV .i64 0,iV .u64 0,iV .u64 0,iV .i64 0,.none0,.none0])),(19,some (.box 39 [iV .i64 a0.f0,iV .i64 a0.f1,iV .i64 x4311,iV .u64 x4345,iV .u64 a0.f4,iV .i64 a0.f5,.own 20,.none0])),(20,some (.row 2 87 (x4346.map Z0)))],0⟩)) (AWp.cv ?_) ?_
    ·replace H:=e4391;clear e4391
     refine AWp.cond (decide (t4340≤x4311)) (by kernel_rfl) (fun c4342 => ?_) (fun c4342 => ?_)
     ·replace H:=iT c4342 H
      refine rG hP hn hm [(5,.c (Z0 b4337))] [] [2,4,5,7,8] [(13,some (.box 39 [iV .i64 a0.f0,iV .i64 a0.f1,iV .i64 x4311,iV .u64 (u64.wrap (x4328+b4337.f1)),iV .u64 a0.f4,iV .i64 a0.f5,.own 14,.none0]))] [11,12,13,14] [_,_] ⟨p4338,Zi Z0 q4339,trivial⟩ ?_
      obtain rfl:=sj H
      exact lf [(11,17),(12,18),(13,19),(14,20)] [] [] (by kernel_rfl) ⟨rfl,rfl⟩
     ·replace H:=iF c4342 H
      obtain⟨c4344,H⟩:=Z0f H
      refine rG hP hn hm [(5,.c (Z0 b4337)),(7,.app 15 ([b4337].map Z0)),(8,.app 16 ((x4329++[b4337]).map Z0))] [] [2,4,5,7,8] [(13,some (.box 39 [iV .i64 a0.f0,iV .i64 a0.f1,iV .i64 x4311,iV .u64 x4328,iV .u64 a0.f4,iV .i64 a0.f5,.own 16,.none0])),(16,some (.row 2 87 ((x4329++[b4337]).map Z0)))] [11,12,13,16] [_,_,[b4337].map Z0=[[iI .i64 b4337.f0,iI .u64 b4337.f1]],(x4329++[b4337]).map Z0=(x4329.map Z0)++([b4337].map Z0),∀ c∈([b4337].map Z0),c.length=2,∀ c∈([b4337].map Z0),Z14 (c.map .im)=true,((x4329.map Z0).length+([b4337].map Z0).length)*16≤140737488355328] ⟨p4338,Zi Z0 q4339,by exact rfl,by simp,by exact Z0z _ _ _ (fun _=>rfl),by exact Z0s _ _ (fun _=>rfl),by simpa using c4344,trivial⟩ ?_
      obtain rfl:=sj H
      exact lf [(11,17),(12,18),(13,19),(16,20)] [] [] (by kernel_rfl) ⟨rfl,rfl⟩
    ·obtain⟨x4345,x4346⟩:=o4390
     rintro e s ⟨rfl,rfl⟩
     refine rO hP hn hm [] [(8,iV .i64 (i64.wrap (x4330+(1:Int))))] [2,4,5,7,8] [] [17,18,19,20] ?_
     exact LWp.conv [(17,11),(18,12),(19,13),(20,14)] [] [] (by kernel_rfl) (ih _ _ _ _ H)
   ·replace H:=iF c4331 H
    refine AWp.exit ?_
    obtain rfl:=sj H
    exact lf [(11,21),(12,22),(13,23),(14,24)] [] [] (by kernel_rfl) ⟨rfl,rfl⟩
  ·obtain⟨x4347,x4348⟩:=o4388
   rintro e s ⟨rfl,rfl⟩
   refine AWp.seq ?_
   refine sO hP hn hm [] [(9,iV .i64 0)] [2,4,5,7,9] [] [21,22,23,24] ?_
   refine AWp.block ?_
   obtain⟨o4392,e4393,H⟩:=Z3 H
   refine AWp.loop (LWp.conv (inv:=[(21,32),(22,33),(23,34),(24,35)]) (vk:=[]) (e0:=[36]) (t:=⟨[(2,.ptr 32 0 0),(4,.ptr 33 0 0),(5,iV .i64 x4311),(7,.ptr 34 0 0),(9,iV .i64 0)],[(32,some (.box 39 (Zl a0))),(33,some (.box 39 [iV .i64 0,iV .i64 0,iV .i64 0,iV .u64 0,iV .u64 0,iV .i64 0,.none0,.none0])),(34,some (.box 39 [iV .i64 a0.f0,iV .i64 a0.f1,iV .i64 x4311,iV .u64 x4347,iV .u64 a0.f4,iV .i64 a0.f5,.own 35,.own 36])),(35,some (.row 2 87 (x4348.map Z0))),(36,some (.row 2 87 ([].map Z0)))],0⟩) (by kernel_rfl) ?_)
   refine LWp.mono (Q:=fun e s=>(match (generalizing:=false) o4392 with | (x4384,x4385)=>e = .exit 2∧s=⟨[(4,.ptr 44 0 0),(7,.ptr 45 0 0)],[(44,some (.box 39 [iV .i64 0,iV .i64 0,iV .i64 0,iV .u64 0,iV .u64 0,iV .i64 0,.none0,.none0])),(45,some (.box 39 [iV .i64 a0.f0,iV .i64 a0.f1,iV .i64 x4311,iV .u64 x4384,iV .u64 a0.f4,iV .i64 a0.f5,.own 46,.own 47])),(46,some (.row 2 87 (x4348.map Z0))),(47,some (.row 2 87 (x4385.map Z0)))],0⟩)) (LWp.cv (Zp (fun body hbody => ?_))) ?_
   ·refine           Z0g.l1.partial_correctness a0 x4311 x4348 (motive:=fun x4365 x4366 x4367 o4392=>LWp Γ body (fun e s=>∃ t,Cv Γ s t∧(match (generalizing:=false) o4392 with | (x4384,x4385)=>e = .exit 2∧t=⟨[(4,.ptr 44 0 0),(7,.ptr 45 0 0)],[(44,some (.box 39 [iV .i64 0,iV .i64 0,iV .i64 0,iV .u64 0,iV .u64 0,iV .i64 0,.none0,.none0])),(45,some (.box 39 [iV .i64 a0.f0,iV .i64 a0.f1,iV .i64 x4311,iV .u64 x4384,iV .u64 a0.f4,iV .i64 a0.f5,.own 46,.own 47])),(46,some (.row 2 87 (x4348.map Z0     ))),(47,some (.row 2 87 (x4385.map Z0     )))],0⟩)) ⟨[(2,.ptr 32 0 0),(4,.ptr 33 0 0),(5,iV .i64 x4311),(7,.ptr 34 0 0),(9,iV .i64 x4367)],[(32,some (.box 39 (Zl    a0))),(33,some (.box 39 [iV .i64 0,iV .i64 0,iV .i64 0,iV .u64 0,iV .u64 0,iV .i64 0,.none0,.none0])),(34,some (.box 39 [iV .i64 a0.f0,iV .i64 a0.f1,iV .i64 x4311,iV .u64 x4365,iV .u64 a0.f4,iV .i64 a0.f5,.own 35,.own 36])),(35,some (.row 2 87 (x4348.map Z0     ))),(36,some (.row 2 87 (x4366.map Z0     )))],0⟩) ?_ _ _ _ _ e4393
    clear H e4393 o4392;intro self ih x4365 x4366 x4367 o4392 H
    subst hbody
    refine LWp.round ?_
    refine AWp.seq ?_
    refine sR hP hn hm [(3,.any (iV .i64 (a0.f7.length:Int)))] [(73,bV (decide (x4367<(a0.f7.length:Int))))] [2,4,5,7,9,73] [] [32,33,34,35,36] [((a0.f7.map Z0).length:Int)=(a0.f7.length:Int)] ⟨by rw[Zn],trivial⟩ ?_
    refine AWp.cond (decide (x4367<(a0.f7.length:Int))) (by kernel_rfl) (fun c4368 => ?_) (fun c4368 => ?_)
    ·replace H:=iT c4368 H
     refine AWp.skip ?_
     refine AWp.seq ?_
     refine AWp.block ?_
     obtain⟨b4374,p4375,q4376,H⟩:=Z06 H
     obtain⟨t4377,e4378,H⟩:=Z3 H
     refine sR hP hn hm [(5,.c (Z0 b4374)),(8,.call [] [] [] [] 0 (iV .i64 t4377) [])] [(86,bV (decide (t4377≤x4311)))] [2,4,5,7,9,86] [] [32,33,34,35,36] [_,_,_,_] ⟨p4375,Zi Z0 q4376,Tryz.call47,Z0e.ok a0.f1 b4374.f0 t4377 e4378,trivial⟩ ?_
     obtain⟨o4394,e4395,H⟩:=Z3 H
     refine AWp.mono (Q:=fun e s=>(match (generalizing:=false) o4394 with | (x4382,x4383)=>e = .normal∧s=⟨[(2,.ptr 39 0 0),(4,.ptr 40 0 0),(5,iV .i64 x4311),(7,.ptr 41 0 0),(9,iV .i64 x4367)],[(39,some (.box 39 (Zl a0))),(40,some (.box 39 [iV .i64 0,iV .i64 0,iV .i64 0,iV .u64 0,iV .u64 0,iV .i64 0,.none0,.none0])),(41,some (.box 39 [iV .i64 a0.f0,iV .i64 a0.f1,iV .i64 x4311,iV .u64 x4382,iV .u64 a0.f4,iV .i64 a0.f5,.own 42,.own 43])),(42,some (.row 2 87 (x4348.map Z0))),(43,some (.row 2 87 (x4383.map Z0)))],0⟩)) (AWp.cv ?_) ?_
     ·replace H:=e4395;clear e4395
      refine AWp.cond (decide (t4377≤x4311)) (by kernel_rfl) (fun c4379 => ?_) (fun c4379 => ?_)
      ·replace H:=iT c4379 H
       refine rG hP hn hm [(5,.c (Z0 b4374))] [] [2,4,5,7,9] [(34,some (.box 39 [iV .i64 a0.f0,iV .i64 a0.f1,iV .i64 x4311,iV .u64 (u64.wrap (x4365+b4374.f1)),iV .u64 a0.f4,iV .i64 a0.f5,.own 35,.own 36]))] [32,33,34,35,36] [_,_] ⟨p4375,Zi Z0 q4376,trivial⟩ ?_
       obtain rfl:=sj H
       exact lf [(32,39),(33,40),(34,41),(35,42),(36,43)] [] [] (by kernel_rfl) ⟨rfl,rfl⟩
      ·replace H:=iF c4379 H
       obtain⟨c4381,H⟩:=Z0f H
       refine rG hP hn hm [(5,.c (Z0 b4374)),(7,.app 37 ([b4374].map Z0)),(8,.app 38 ((x4366++[b4374]).map Z0))] [] [2,4,5,7,9] [(34,some (.box 39 [iV .i64 a0.f0,iV .i64 a0.f1,iV .i64 x4311,iV .u64 x4365,iV .u64 a0.f4,iV .i64 a0.f5,.own 35,.own 38])),(38,some (.row 2 87 ((x4366++[b4374]).map Z0)))] [32,33,34,35,38] [_,_,[b4374].map Z0=[[iI .i64 b4374.f0,iI .u64 b4374.f1]],(x4366++[b4374]).map Z0=(x4366.map Z0)++([b4374].map Z0),∀ c∈([b4374].map Z0),c.length=2,∀ c∈([b4374].map Z0),Z14 (c.map .im)=true,((x4366.map Z0).length+([b4374].map Z0).length)*16≤140737488355328] ⟨p4375,Zi Z0 q4376,by exact rfl,by simp,by exact Z0z _ _ _ (fun _=>rfl),by exact Z0s _ _ (fun _=>rfl),by simpa using c4381,trivial⟩ ?_
       obtain rfl:=sj H
       exact lf [(32,39),(33,40),(34,41),(35,42),(38,43)] [] [] (by kernel_rfl) ⟨rfl,rfl⟩
     ·obtain⟨x4382,x4383⟩:=o4394
      rintro e s ⟨rfl,rfl⟩
      refine rO hP hn hm [] [(9,iV .i64 (i64.wrap (x4367+(1:Int))))] [2,4,5,7,9] [] [39,40,41,42,43] ?_
      exact LWp.conv [(39,32),(40,33),(41,34),(42,35),(43,36)] [] [] (by kernel_rfl) (ih _ _ _ _ H)
    ·replace H:=iF c4368 H
     refine AWp.exit ?_
     obtain rfl:=sj H
     exact lf [(33,44),(34,45),(35,46),(36,47)] [] [] (by kernel_rfl) ⟨rfl,rfl⟩
   ·obtain⟨x4384,x4385⟩:=o4392
    rintro e s ⟨rfl,rfl⟩
    refine sO hP hn hm [] [] [4] [(44,some (.box 39 [iV .i64 a0.f0,iV .i64 a0.f1,iV .i64 x4311,iV .u64 x4384,iV .u64 a0.f4,iV .i64 a0.f5,.own 46,.own 47]))] [44,46,47] ?_
    refine AWp.conv (inv:=[(44,2),(46,0),(47,1)]) (vk:=[]) (e0:=[]) (t:=⟨[(4,.ptr 2 0 0)],[(0,some (.row 2 87 ((((⟨a0.f0,a0.f1,x4311,x4384,a0.f4,a0.f5,x4348,x4385⟩:Zd)).f6).map Z0))),(1,some (.row 2 87 ((((⟨a0.f0,a0.f1,x4311,x4384,a0.f4,a0.f5,x4348,x4385⟩:Zd)).f7).map Z0))),(2,some (.box 39 [iV .i64 (((⟨a0.f0,a0.f1,x4311,x4384,a0.f4,a0.f5,x4348,x4385⟩:Zd)).f0),iV .i64 (((⟨a0.f0,a0.f1,x4311,x4384,a0.f4,a0.f5,x4348,x4385⟩:Zd)).f1),iV .i64 (((⟨a0.f0,a0.f1,x4311,x4384,a0.f4,a0.f5,x4348,x4385⟩:Zd)).f2),iV .u64 (((⟨a0.f0,a0.f1,x4311,x4384,a0.f4,a0.f5,x4348,x4385⟩:Zd)).f3),iV .u64 (((⟨a0.f0,a0.f1,x4311,x4384,a0.f4,a0.f5,x4348,x4385⟩:Zd)).f4),iV .i64 (((⟨a0.f0,a0.f1,x4311,x4384,a0.f4,a0.f5,x4348,x4385⟩:Zd)).f5),.own 0,.own 1]))],0⟩) (by kernel_rfl) ?_
    refine AWp.ret ?_
    obtain rfl:=sj H
    exact rl (.inl rfl) rfl (by kernel_rfl) (by kernel_rfl)
def Z2l.f (a0:Zd) (a1:Int):Option (Zd×Int):=(((Z0h.f a1)>>=fun t3960=>if(!t3960)=true then(some true) else(some (decide (a1>a0.f1)))):Option (Bool))>>=fun x3963=>if x3963=true then(some ((⟨0,0,0,0,0,0,[],[]⟩:Zd),20)) else((Z1i.f a0.f6 a0.f1 a1)>>=fun t4233=>(Z1i.f a0.f7 a0.f1 a1)>>=fun t4237=>(Z0g.f (⟨a0.f0,a1,a0.f2,a0.f3,a0.f4,a0.f5,t4233,t4237⟩:Zd) a0.f2)>>=fun t4398=>some ((t4398),0))
theorem Z2l.ok (a0:Zd) (a1:Int) (r:Zd×Int) (H:Z2l.f a0 a1=some r):Pv.Fn Tryz.prog 92 [.agg (Zl a0),iV .i64 a1] [] 0 (fun x o=>x = .tup [.agg [iV .i64 ((r.1).f0),iV .i64 ((r.1).f1),iV .i64 ((r.1).f2),iV .u64 ((r.1).f3),iV .u64 ((r.1).f4),iV .i64 ((r.1).f5),.own 0,.own 1],iV .i64 r.2]∧o=[(0,some (.row 2 87 (((r.1).f6).map Z0))),(1,some (.row 2 87 (((r.1).f7).map Z0)))]):=by
 unfold Z2l.f at H
 refine Fn.bodyK [0,1] Tryz.func92 rfl rfl (fun Γ hP hn => ?_)
 have hm:Tryz.prog.follows .mixedOrders=true:=by kernel_rfl
 replace hn:Γ.n=38:=hn
 refine sO hP hn hm [(0,.k 0),(1,.k 1)] [(2,.ptr 0 0 0),(4,.ptr 1 0 0)] [1,2,4] [(0,some (.box 39 (Zl a0))),(1,some (.box 39 [iV .i64 0,iV .i64 0,iV .i64 0,iV .u64 0,iV .u64 0,iV .i64 0,.none0,.none0]))] [0,1] ?_
 refine AWp.seq ?_
 refine AWp.seq ?_
 obtain⟨o4400,e4401,H⟩:=Z3 H
 refine AWp.mono (Q:=fun e s=>(match (generalizing:=false) o4400 with | x3963=>e = .normal∧s=⟨[(1,iV .i64 a1),(2,.ptr 2 0 0),(4,.ptr 3 0 0),(15,bV x3963)],[(2,some (.box 39 (Zl a0))),(3,some (.box 39 [iV .i64 0,iV .i64 0,iV .i64 0,iV .u64 0,iV .u64 0,iV .i64 0,.none0,.none0]))],0⟩)) (AWp.cv ?_) ?_
 ·replace H:=e4401;clear e4401
  obtain⟨t3960,e3961,H⟩:=Z3 H
  rcases Bool.eq_false_or_eq_true (!t3960) with c3962 | c3962
  ·replace H:=iT c3962 H
   refine rG hP hn hm [(1,.call [] [] [] [] 0 (bV t3960) []),(3,.b true)] [(15,bV true)] [1,2,4,15] [] [0,1] [_,_,_] ⟨Tryz.call45,Z0h.ok a1 t3960 e3961,c3962,trivial⟩ ?_
   obtain rfl:=sj H
   exact lf [(0,2),(1,3)] [] [] (by kernel_rfl) ⟨rfl,rfl⟩
  ·replace H:=iF c3962 H
   refine rG hP hn hm [(1,.call [] [] [] [] 0 (bV t3960) []),(3,.b false)] [(15,bV (decide (a1>a0.f1)))] [1,2,4,15] [] [0,1] [_,_,_] ⟨Tryz.call45,Z0h.ok a1 t3960 e3961,c3962,trivial⟩ ?_
   obtain rfl:=sj H
   exact lf [(0,2),(1,3)] [] [] (by kernel_rfl) ⟨rfl,rfl⟩
 ·obtain⟨x3963,rfl⟩:∃ z,z=o4400:=⟨_,rfl⟩
  rintro e s ⟨rfl,rfl⟩
  refine AWp.cond x3963 (by kernel_rfl) (fun c3964 => ?_) (fun c3964 => ?_)
  ·replace H:=iT c3964 H
   refine sO hP hn hm [] [(5,iV .i64 20)] [4,5] [] [3] ?_
   refine AWp.conv (inv:=[(3,2)]) (vk:=[]) (e0:=[0,1]) (t:=⟨[(4,.ptr 2 0 0),(5,iV .i64 20)],[(0,some (.row 2 87 ((((⟨0,0,0,0,0,0,[],[]⟩:Zd)).f6).map Z0))),(1,some (.row 2 87 ((((⟨0,0,0,0,0,0,[],[]⟩:Zd)).f7).map Z0))),(2,some (.box 39 [iV .i64 (((⟨0,0,0,0,0,0,[],[]⟩:Zd)).f0),iV .i64 (((⟨0,0,0,0,0,0,[],[]⟩:Zd)).f1),iV .i64 (((⟨0,0,0,0,0,0,[],[]⟩:Zd)).f2),iV .u64 (((⟨0,0,0,0,0,0,[],[]⟩:Zd)).f3),iV .u64 (((⟨0,0,0,0,0,0,[],[]⟩:Zd)).f4),iV .i64 (((⟨0,0,0,0,0,0,[],[]⟩:Zd)).f5),.own 0,.own 1]))],0⟩) (by kernel_rfl) ?_
   refine AWp.ret ?_
   obtain rfl:=sj H
   exact rl (.inl rfl) rfl (by kernel_rfl) (by kernel_rfl)
  ·replace H:=iF c3964 H
   refine AWp.skip ?_
   refine sO hP hn hm [(1,.k 4)] [(6,.ptr 4 0 0)] [1,2,4,6] [(4,some (.box 39 (Zl a0)))] [2,3,4] ?_
   refine sO hP hn hm [] [] [1,2,4,6] [(4,some (.box 39 (Zl ⟨a0.f0,a1,a0.f2,a0.f3,a0.f4,a0.f5,a0.f6,a0.f7⟩)))] [2,3,4] ?_
   obtain⟨t4233,e4234,H⟩:=Z3 H
   refine sR hP hn hm [(5,.call [] [(0,5)] [] [5] 0 (.own 0) [(0,some (.row 2 87 (t4233.map Z0)))])] [] [1,2,4,6] [(4,some (.box 39 [iV .i64 a0.f0,iV .i64 a1,iV .i64 a0.f2,iV .u64 a0.f3,iV .u64 a0.f4,iV .i64 a0.f5,.own 5,.im (.row (a0.f7.map Z0))])),(5,some (.row 2 87 (t4233.map Z0)))] [2,3,4,5] [_,_] ⟨Tryz.call107,Z1i.ok a0.f6 a0.f1 a1 t4233 e4234,trivial⟩ ?_
   obtain⟨t4237,e4238,H⟩:=Z3 H
   refine sR hP hn hm [(5,.call [] [(0,6)] [] [6] 0 (.own 0) [(0,some (.row 2 87 (t4237.map Z0)))])] [] [2,4,6] [(4,some (.box 39 [iV .i64 a0.f0,iV .i64 a1,iV .i64 a0.f2,iV .u64 a0.f3,iV .u64 a0.f4,iV .i64 a0.f5,.own 5,.own 6])),(6,some (.row 2 87 (t4237.map Z0)))] [2,3,4,5,6] [_,_] ⟨Tryz.call107,Z1i.ok a0.f7 a0.f1 a1 t4237 e4238,trivial⟩ ?_
   obtain⟨t4398,e4399,H⟩:=Z3 H
   refine sR hP hn hm [(3,.more (Z3j [] [(0,7),(1,8)] [5,6] [7,8] 0 (.agg [iV .i64 ((t4398).f0),iV .i64 ((t4398).f1),iV .i64 ((t4398).f2),iV .u64 ((t4398).f3),iV .u64 ((t4398).f4),iV .i64 ((t4398).f5),.own 0,.own 1]) [(0,some (.row 2 87 (((t4398).f6).map Z0))),(1,some (.row 2 87 (((t4398).f7).map Z0)))]))] [(5,iV .i64 0)] [4,5] [(3,some (.box 39 [iV .i64 ((t4398).f0),iV .i64 ((t4398).f1),iV .i64 ((t4398).f2),iV .u64 ((t4398).f3),iV .u64 ((t4398).f4),iV .i64 ((t4398).f5),.own 7,.own 8])),(7,some (.row 2 87 (((t4398).f6).map Z0))),(8,some (.row 2 87 (((t4398).f7).map Z0)))] [3,7,8] [_,_,∀ c∈((t4398).f6).map Z0,∀ x∈c,∃ v,x=Im.sc v,∀ c∈((t4398).f7).map Z0,∀ x∈c,∃ v,x=Im.sc v] ⟨Tryz.call108,Z0g.ok (⟨a0.f0,a1,a0.f2,a0.f3,a0.f4,a0.f5,t4233,t4237⟩:Zd) a0.f2 t4398 e4399,by exact Z3i _ _ (fun _=>by simp),by exact Z3i _ _ (fun _=>by simp),trivial⟩ ?_
   refine AWp.conv (inv:=[(3,2),(7,0),(8,1)]) (vk:=[]) (e0:=[]) (t:=⟨[(4,.ptr 2 0 0),(5,iV .i64 0)],[(0,some (.row 2 87 ((((t4398)).f6).map Z0))),(1,some (.row 2 87 ((((t4398)).f7).map Z0))),(2,some (.box 39 [iV .i64 (((t4398)).f0),iV .i64 (((t4398)).f1),iV .i64 (((t4398)).f2),iV .u64 (((t4398)).f3),iV .u64 (((t4398)).f4),iV .i64 (((t4398)).f5),.own 0,.own 1]))],0⟩) (by kernel_rfl) ?_
   refine AWp.ret ?_
   obtain rfl:=sj H
   exact rl (.inl rfl) rfl (by kernel_rfl) (by kernel_rfl)
def Z2z.f (a0:Zd) (a1:Int):Option (Zd×Int):=((if(decide (a1<a0.f2))=true then(some true) else(if(a1 != a0.f2)=true then(if(decide (a1≤(-262144)))=true then(some true) else(some (decide (a1>(262144:Int))))) else(some false))):Option (Bool))>>=fun x4442=>if x4442=true then(some ((⟨0,0,0,0,0,0,[],[]⟩:Zd),31)) else(if(a1==a0.f2)=true then(some (a0,0)) else((Z0g.f a0 a1)>>=fun t4447=>some ((t4447),0)))
theorem Z2z.ok (a0:Zd) (a1:Int) (r:Zd×Int) (H:Z2z.f a0 a1=some r):Pv.Fn Tryz.prog 93 [.agg (Zl a0),iV .i64 a1] [] 0 (fun x o=>x = .tup [.agg (Zl (r.1)),iV .i64 r.2]∧o=[]):=by
 unfold Z2z.f at H
 refine Fn.bodyK [] Tryz.func93 rfl rfl (fun Γ hP hn => ?_)
 have hm:Tryz.prog.follows .mixedOrders=true:=by kernel_rfl
 replace hn:Γ.n=33:=hn
 refine sO hP hn hm [(0,.k 0),(1,.k 1)] [(2,.ptr 0 0 0),(4,.ptr 1 0 0)] [1,2,4] [(0,some (.box 39 (Zl a0))),(1,some (.box 39 [iV .i64 0,iV .i64 0,iV .i64 0,iV .u64 0,iV .u64 0,iV .i64 0,.none0,.none0]))] [0,1] ?_
 refine AWp.seq ?_
 refine AWp.seq ?_
 obtain⟨o4449,e4450,H⟩:=Z3 H
 refine AWp.mono (Q:=fun e s=>(match (generalizing:=false) o4449 with | x4442=>e = .normal∧s=⟨[(1,iV .i64 a1),(2,.ptr 2 0 0),(4,.ptr 3 0 0),(23,bV x4442)],[(2,some (.box 39 (Zl a0))),(3,some (.box 39 [iV .i64 0,iV .i64 0,iV .i64 0,iV .u64 0,iV .u64 0,iV .i64 0,.none0,.none0]))],0⟩)) (AWp.cv ?_) ?_
 ·replace H:=e4450;clear e4450
  rcases Bool.eq_false_or_eq_true (decide (a1<a0.f2)) with c4439 | c4439
  ·replace H:=iT c4439 H
   refine rG hP hn hm [(4,.b true)] [(23,bV true)] [1,2,4,23] [] [0,1] [_] ⟨c4439,trivial⟩ ?_
   obtain rfl:=sj H
   exact lf [(0,2),(1,3)] [] [] (by kernel_rfl) ⟨rfl,rfl⟩
  ·replace H:=iF c4439 H
   rcases Bool.eq_false_or_eq_true (a1 != a0.f2) with c4440 | c4440
   ·replace H:=iT c4440 H
    rcases Bool.eq_false_or_eq_true (decide (a1≤(-262144))) with c4441 | c4441
    ·replace H:=iT c4441 H
     refine rG hP hn hm [(4,.b false),(9,.b true),(12,.b true)] [(23,bV true)] [1,2,4,23] [] [0,1] [_,_,_] ⟨c4439,c4440,c4441,trivial⟩ ?_
     obtain rfl:=sj H
     exact lf [(0,2),(1,3)] [] [] (by kernel_rfl) ⟨rfl,rfl⟩
    ·replace H:=iF c4441 H
     refine rG hP hn hm [(4,.b false),(9,.b true),(12,.b false)] [(23,bV (decide (a1>(262144:Int))))] [1,2,4,23] [] [0,1] [_,_,_] ⟨c4439,c4440,c4441,trivial⟩ ?_
     obtain rfl:=sj H
     exact lf [(0,2),(1,3)] [] [] (by kernel_rfl) ⟨rfl,rfl⟩
   ·replace H:=iF c4440 H
    refine rG hP hn hm [(4,.b false),(9,.b false)] [(23,bV false)] [1,2,4,23] [] [0,1] [_,_] ⟨c4439,c4440,trivial⟩ ?_
    obtain rfl:=sj H
    exact lf [(0,2),(1,3)] [] [] (by kernel_rfl) ⟨rfl,rfl⟩
 ·obtain⟨x4442,rfl⟩:∃ z,z=o4449:=⟨_,rfl⟩
  rintro e s ⟨rfl,rfl⟩
  refine AWp.cond x4442 (by kernel_rfl) (fun c4443 => ?_) (fun c4443 => ?_)
  ·replace H:=iT c4443 H
   refine sO hP hn hm [] [(5,iV .i64 31)] [4,5] [] [3] ?_
   refine AWp.conv (inv:=[(3,0)]) (vk:=[]) (e0:=[]) (t:=⟨[(4,.ptr 0 0 0),(5,iV .i64 31)],[(0,some (.box 39 (Zl ((⟨0,0,0,0,0,0,[],[]⟩:Zd)))))],0⟩) (by kernel_rfl) ?_
   refine AWp.ret ?_
   obtain rfl:=sj H
   exact rl (.inl rfl) rfl (by kernel_rfl) (by kernel_rfl)
  ·replace H:=iF c4443 H
   refine AWp.skip ?_
   refine AWp.seq ?_
   refine sO hP hn hm [] [(28,bV (a1==a0.f2))] [1,2,4,28] [] [2,3] ?_
   refine AWp.cond (a1==a0.f2) (by kernel_rfl) (fun c4444 => ?_) (fun c4444 => ?_)
   ·replace H:=iT c4444 H
    refine sO hP hn hm [] [(5,iV .i64 0)] [4,5] [(3,some (.box 39 (Zl a0)))] [3] ?_
    refine AWp.conv (inv:=[(3,0)]) (vk:=[]) (e0:=[]) (t:=⟨[(4,.ptr 0 0 0),(5,iV .i64 0)],[(0,some (.box 39 (Zl (a0))))],0⟩) (by kernel_rfl) ?_
    refine AWp.ret ?_
    obtain rfl:=sj H
    exact rl (.inl rfl) rfl (by kernel_rfl) (by kernel_rfl)
   ·replace H:=iF c4444 H
    refine AWp.skip ?_
    obtain⟨t4447,e4448,H⟩:=Z3 H
    refine sR hP hn hm [(2,.call [] [(0,4),(1,5)] [] [4,5] 0 (.agg [iV .i64 ((t4447).f0),iV .i64 ((t4447).f1),iV .i64 ((t4447).f2),iV .u64 ((t4447).f3),iV .u64 ((t4447).f4),iV .i64 ((t4447).f5),.own 0,.own 1]) [(0,some (.row 2 87 (((t4447).f6).map Z0))),(1,some (.row 2 87 (((t4447).f7).map Z0)))])] [(5,iV .i64 0)] [4,5] [(3,some (.box 39 [iV .i64 ((t4447).f0),iV .i64 ((t4447).f1),iV .i64 ((t4447).f2),iV .u64 ((t4447).f3),iV .u64 ((t4447).f4),iV .i64 ((t4447).f5),.own 4,.own 5])),(4,some (.row 2 87 (((t4447).f6).map Z0))),(5,some (.row 2 87 (((t4447).f7).map Z0)))] [3,4,5] [_,_] ⟨Tryz.call108,Z0g.ok a0 a1 t4447 e4448,trivial⟩ ?_
    refine AWp.conv (inv:=[(3,0)]) (vk:=[4,5]) (e0:=[]) (t:=⟨[(4,.ptr 0 0 0),(5,iV .i64 0)],[(0,some (.box 39 (Zl ((t4447)))))],0⟩) (by kernel_rfl) ?_
    refine AWp.ret ?_
    obtain rfl:=sj H
    exact rl (.inl rfl) rfl (by kernel_rfl) (by kernel_rfl)
def Z1n.l0  (v:Int×Int×Int×Int×Int×Int×(List Z2)×(List Z2)×Int×Int×Int×Int×Int×Int×(List Z2)×(List Z2)):Option (Int×Int×Int×Int×Int×Int×(List Z2)×(List Z2)×Int×Int×Int×Int×Int×Int×(List Z2)×(List Z2)):=match v with
 | (x4479,x4480,x4481,x4482,x4483,x4484,x4485,x4486,x4487,x4488,x4489,x4490,x4491,x4492,x4493,x4494)=>if(x4481 != x4489)=true then(((if(decide (x4481<x4489))=true then((Z2z.f (⟨x4479,x4480,x4481,x4482,x4483,x4484,x4485,x4486⟩:Zd) x4489)>>=fun t4499=>some ((t4499.1).f0,(t4499.1).f1,(t4499.1).f2,(t4499.1).f3,(t4499.1).f4,(t4499.1).f5,(t4499.1).f6,(t4499.1).f7,x4487,x4488,x4489,x4490,x4491,x4492,x4493,x4494)) else((Z2z.f (⟨x4487,x4488,x4489,x4490,x4491,x4492,x4493,x4494⟩:Zd) x4481)>>=fun t4503=>some (x4479,x4480,x4481,x4482,x4483,x4484,x4485,x4486,(t4503.1).f0,(t4503.1).f1,(t4503.1).f2,(t4503.1).f3,(t4503.1).f4,(t4503.1).f5,(t4503.1).f6,(t4503.1).f7))):Option (Int×Int×Int×Int×Int×Int×(List Z2)×(List Z2)×Int×Int×Int×Int×Int×Int×(List Z2)×(List Z2)))>>=fun oo=>match oo with | (x4505,x4506,x4507,x4508,x4509,x4510,x4511,x4512,x4513,x4514,x4515,x4516,x4517,x4518,x4519,x4520)=>(Z1n.l0  (x4505,x4506,x4507,x4508,x4509,x4510,x4511,x4512,x4513,x4514,x4515,x4516,x4517,x4518,x4519,x4520))) else(some (x4479,x4480,x4481,x4482,x4483,x4484,x4485,x4486,x4487,x4488,x4489,x4490,x4491,x4492,x4493,x4494))
partial_fixpoint
def Z1n.f (a0:Zd) (a1:Zd):Option (Zd×Zd):=((if(decide (a0.f1<a1.f1))=true then((Z2l.f a1 a0.f1)>>=fun t4404=>(Z2l.f a0 a0.f1)>>=fun t4408=>some ((t4408.1).f0,(t4408.1).f1,(t4408.1).f2,(t4408.1).f3,(t4408.1).f4,(t4408.1).f5,(t4408.1).f6,(t4408.1).f7,(t4404.1).f0,(t4404.1).f1,(t4404.1).f2,(t4404.1).f3,(t4404.1).f4,(t4404.1).f5,(t4404.1).f6,(t4404.1).f7)) else((Z2l.f a0 a1.f1)>>=fun t4412=>(Z2l.f a1 a1.f1)>>=fun t4416=>some ((t4412.1).f0,(t4412.1).f1,(t4412.1).f2,(t4412.1).f3,(t4412.1).f4,(t4412.1).f5,(t4412.1).f6,(t4412.1).f7,(t4416.1).f0,(t4416.1).f1,(t4416.1).f2,(t4416.1).f3,(t4416.1).f4,(t4416.1).f5,(t4416.1).f6,(t4416.1).f7))):Option (Int×Int×Int×Int×Int×Int×(List Z2)×(List Z2)×Int×Int×Int×Int×Int×Int×(List Z2)×(List Z2)))>>=fun oo=>match oo with | (x4418,x4419,x4420,x4421,x4422,x4423,x4424,x4425,x4426,x4427,x4428,x4429,x4430,x4431,x4432,x4433)=>((Z1n.l0  (x4418,x4419,x4420,x4421,x4422,x4423,x4424,x4425,x4426,x4427,x4428,x4429,x4430,x4431,x4432,x4433))>>=fun oo=>match oo with | (x4521,x4522,x4523,x4524,x4525,x4526,x4527,x4528,x4529,x4530,x4531,x4532,x4533,x4534,x4535,x4536)=>(some ((⟨x4521,x4522,x4523,x4524,x4525,x4526,x4527,x4528⟩:Zd),(⟨x4529,x4530,x4531,x4532,x4533,x4534,x4535,x4536⟩:Zd))))
theorem Z1n.ok (a0:Zd) (a1:Zd) (r:Zd×Zd) (H:Z1n.f a0 a1=some r):Pv.Fn Tryz.prog 82 [.agg (Zl a0),.agg (Zl a1)] [] 0 (fun x o=>x = .tup [.agg (Zl (r.1)),.agg (Zl (r.2))]∧o=[]):=by
 unfold Z1n.f at H
 refine Fn.bodyK [] Tryz.func82 rfl rfl (fun Γ hP hn => ?_)
 have hm:Tryz.prog.follows .mixedOrders=true:=by kernel_rfl
 replace hn:Γ.n=65:=hn
 refine sO hP hn hm [(0,.k 0),(1,.k 1),(2,.k 2),(3,.k 3)] [(2,.ptr 0 0 0),(3,.ptr 1 0 0),(4,.ptr 2 0 0),(5,.ptr 3 0 0)] [2,3,4,5] [(0,some (.box 39 (Zl a0))),(1,some (.box 39 (Zl a1))),(2,some (.box 39 [iV .i64 0,iV .i64 0,iV .i64 0,iV .u64 0,iV .u64 0,iV .i64 0,.none0,.none0])),(3,some (.box 39 [iV .i64 0,iV .i64 0,iV .i64 0,iV .u64 0,iV .u64 0,iV .i64 0,.none0,.none0]))] [0,1,2,3] ?_
 refine AWp.seq ?_
 refine sO hP hn hm [] [(10,bV (decide (a0.f1<a1.f1)))] [2,3,4,5,10] [] [0,1,2,3] ?_
 obtain⟨o4537,e4538,H⟩:=Z3 H
 refine AWp.mono (Q:=fun e s=>(match (generalizing:=false) o4537 with | (x4418,x4419,x4420,x4421,x4422,x4423,x4424,x4425,x4426,x4427,x4428,x4429,x4430,x4431,x4432,x4433)=>e = .normal∧s=⟨[(2,.ptr 12 0 0),(3,.ptr 15 0 0),(4,.ptr 18 0 0),(5,.ptr 19 0 0)],[(12,some (.box 39 [iV .i64 x4418,iV .i64 x4419,iV .i64 x4420,iV .u64 x4421,iV .u64 x4422,iV .i64 x4423,.own 13,.own 14])),(13,some (.row 2 87 (x4424.map Z0))),(14,some (.row 2 87 (x4425.map Z0))),(15,some (.box 39 [iV .i64 x4426,iV .i64 x4427,iV .i64 x4428,iV .u64 x4429,iV .u64 x4430,iV .i64 x4431,.own 16,.own 17])),(16,some (.row 2 87 (x4432.map Z0))),(17,some (.row 2 87 (x4433.map Z0))),(18,some (.box 39 [iV .i64 0,iV .i64 0,iV .i64 0,iV .u64 0,iV .u64 0,iV .i64 0,.none0,.none0])),(19,some (.box 39 [iV .i64 0,iV .i64 0,iV .i64 0,iV .u64 0,iV .u64 0,iV .i64 0,.none0,.none0]))],0⟩)) (AWp.cv ?_) ?_
 ·replace H:=e4538;clear e4538
  refine AWp.cond (decide (a0.f1<a1.f1)) (by kernel_rfl) (fun c3956 => ?_) (fun c3956 => ?_)
  ·replace H:=iT c3956 H
   obtain⟨t4404,e4405,H⟩:=Z3 H
   refine sR hP hn hm [(3,.call [] [(0,4),(1,5)] [] [4,5] 0 (.tup [.agg [iV .i64 ((t4404.1).f0),iV .i64 ((t4404.1).f1),iV .i64 ((t4404.1).f2),iV .u64 ((t4404.1).f3),iV .u64 ((t4404.1).f4),iV .i64 ((t4404.1).f5),.own 0,.own 1],iV .i64 t4404.2]) [(0,some (.row 2 87 (((t4404.1).f6).map Z0))),(1,some (.row 2 87 (((t4404.1).f7).map Z0)))])] [] [2,3,4,5] [(1,some (.box 39 [iV .i64 ((t4404.1).f0),iV .i64 ((t4404.1).f1),iV .i64 ((t4404.1).f2),iV .u64 ((t4404.1).f3),iV .u64 ((t4404.1).f4),iV .i64 ((t4404.1).f5),.own 4,.own 5])),(4,some (.row 2 87 (((t4404.1).f6).map Z0))),(5,some (.row 2 87 (((t4404.1).f7).map Z0)))] [0,1,2,3,4,5] [_,_] ⟨Tryz.call92,Z2l.ok a1 a0.f1 t4404 e4405,trivial⟩ ?_
   obtain⟨t4408,e4409,H⟩:=Z3 H
   refine rG hP hn hm [(3,.call [] [(0,6),(1,7)] [] [6,7] 0 (.tup [.agg [iV .i64 ((t4408.1).f0),iV .i64 ((t4408.1).f1),iV .i64 ((t4408.1).f2),iV .u64 ((t4408.1).f3),iV .u64 ((t4408.1).f4),iV .i64 ((t4408.1).f5),.own 0,.own 1],iV .i64 t4408.2]) [(0,some (.row 2 87 (((t4408.1).f6).map Z0))),(1,some (.row 2 87 (((t4408.1).f7).map Z0)))])] [] [2,3,4,5] [(0,some (.box 39 [iV .i64 ((t4408.1).f0),iV .i64 ((t4408.1).f1),iV .i64 ((t4408.1).f2),iV .u64 ((t4408.1).f3),iV .u64 ((t4408.1).f4),iV .i64 ((t4408.1).f5),.own 6,.own 7])),(6,some (.row 2 87 (((t4408.1).f6).map Z0))),(7,some (.row 2 87 (((t4408.1).f7).map Z0)))] [0,1,2,3,4,5,6,7] [_,_] ⟨Tryz.call92,Z2l.ok a0 a0.f1 t4408 e4409,trivial⟩ ?_
   obtain rfl:=sj H
   exact lf [(0,12),(6,13),(7,14),(1,15),(4,16),(5,17),(2,18),(3,19)] [] [] (by kernel_rfl) ⟨rfl,rfl⟩
  ·replace H:=iF c3956 H
   obtain⟨t4412,e4413,H⟩:=Z3 H
   refine sR hP hn hm [(3,.call [] [(0,8),(1,9)] [] [8,9] 0 (.tup [.agg [iV .i64 ((t4412.1).f0),iV .i64 ((t4412.1).f1),iV .i64 ((t4412.1).f2),iV .u64 ((t4412.1).f3),iV .u64 ((t4412.1).f4),iV .i64 ((t4412.1).f5),.own 0,.own 1],iV .i64 t4412.2]) [(0,some (.row 2 87 (((t4412.1).f6).map Z0))),(1,some (.row 2 87 (((t4412.1).f7).map Z0)))])] [] [2,3,4,5] [(0,some (.box 39 [iV .i64 ((t4412.1).f0),iV .i64 ((t4412.1).f1),iV .i64 ((t4412.1).f2),iV .u64 ((t4412.1).f3),iV .u64 ((t4412.1).f4),iV .i64 ((t4412.1).f5),.own 8,.own 9])),(8,some (.row 2 87 (((t4412.1).f6).map Z0))),(9,some (.row 2 87 (((t4412.1).f7).map Z0)))] [0,1,2,3,8,9] [_,_] ⟨Tryz.call92,Z2l.ok a0 a1.f1 t4412 e4413,trivial⟩ ?_
   obtain⟨t4416,e4417,H⟩:=Z3 H
   refine rG hP hn hm [(3,.call [] [(0,10),(1,11)] [] [10,11] 0 (.tup [.agg [iV .i64 ((t4416.1).f0),iV .i64 ((t4416.1).f1),iV .i64 ((t4416.1).f2),iV .u64 ((t4416.1).f3),iV .u64 ((t4416.1).f4),iV .i64 ((t4416.1).f5),.own 0,.own 1],iV .i64 t4416.2]) [(0,some (.row 2 87 (((t4416.1).f6).map Z0))),(1,some (.row 2 87 (((t4416.1).f7).map Z0)))])] [] [2,3,4,5] [(1,some (.box 39 [iV .i64 ((t4416.1).f0),iV .i64 ((t4416.1).f1),iV .i64 ((t4416.1).f2),iV .u64 ((t4416.1).f3),iV .u64 ((t4416.1).f4),iV .i64 ((t4416.1).f5),.own 10,.own 11])),(10,some (.row 2 87 (((t4416.1).f6).map Z0))),(11,some (.row 2 87 (((t4416.1).f7).map Z0)))] [0,1,2,3,8,9,10,11] [_,_] ⟨Tryz.call92,Z2l.ok a1 a1.f1 t4416 e4417,trivial⟩ ?_
   obtain rfl:=sj H
   exact lf [(0,12),(8,13),(9,14),(1,15),(10,16),(11,17),(2,18),(3,19)] [] [] (by kernel_rfl) ⟨rfl,rfl⟩
 ·obtain⟨x4418,x4419,x4420,x4421,x4422,x4423,x4424,x4425,x4426,x4427,x4428,x4429,x4430,x4431,x4432,x4433⟩:=o4537
  rintro e s ⟨rfl,rfl⟩
  refine AWp.seq ?_
  refine AWp.block ?_
  obtain⟨o4539,e4540,H⟩:=Z3 H
  refine AWp.loop (LWp.conv (inv:=[(12,24),(15,25),(18,26),(19,27)]) (vk:=[13,14,16,17]) (e0:=[]) (t:=⟨[(2,.ptr 24 0 0),(3,.ptr 25 0 0),(4,.ptr 26 0 0),(5,.ptr 27 0 0)],[(24,some (.box 39 (Zl ⟨x4418,x4419,x4420,x4421,x4422,x4423,x4424,x4425⟩))),(25,some (.box 39 (Zl ⟨x4426,x4427,x4428,x4429,x4430,x4431,x4432,x4433⟩))),(26,some (.box 39 [iV .i64 0,iV .i64 0,iV .i64 0,iV .u64 0,iV .u64 0,iV .i64 0,.none0,.none0])),(27,some (.box 39 [iV .i64 0,iV .i64 0,iV .i64 0,iV .u64 0,iV .u64 0,iV .i64 0,.none0,.none0]))],0⟩) (by kernel_rfl) ?_)
  refine LWp.mono (Q:=fun e s=>(match (generalizing:=false) o4539 with | (x4521,x4522,x4523,x4524,x4525,x4526,x4527,x4528,x4529,x4530,x4531,x4532,x4533,x4534,x4535,x4536)=>e = .exit 0∧s=⟨[(2,.ptr 32 0 0),(3,.ptr 33 0 0),(4,.ptr 34 0 0),(5,.ptr 35 0 0)],[(32,some (.box 39 (Zl ⟨x4521,x4522,x4523,x4524,x4525,x4526,x4527,x4528⟩))),(33,some (.box 39 (Zl ⟨x4529,x4530,x4531,x4532,x4533,x4534,x4535,x4536⟩))),(34,some (.box 39 [iV .i64 0,iV .i64 0,iV .i64 0,iV .u64 0,iV .u64 0,iV .i64 0,.none0,.none0])),(35,some (.box 39 [iV .i64 0,iV .i64 0,iV .i64 0,iV .u64 0,iV .u64 0,iV .i64 0,.none0,.none0]))],0⟩)) (LWp.cv (Zp (fun body hbody => ?_))) ?_
  ·refine         Z1n.l0.partial_correctness  (motive:=fun v o4539=>(match (generalizing:=false) v with | (x4479,x4480,x4481,x4482,x4483,x4484,x4485,x4486,x4487,x4488,x4489,x4490,x4491,x4492,x4493,x4494)=>LWp Γ body (fun e s=>∃ t,Cv Γ s t∧(match (generalizing:=false) o4539 with | (x4521,x4522,x4523,x4524,x4525,x4526,x4527,x4528,x4529,x4530,x4531,x4532,x4533,x4534,x4535,x4536)=>e = .exit 0∧t=⟨[(2,.ptr 32 0 0),(3,.ptr 33 0 0),(4,.ptr 34 0 0),(5,.ptr 35 0 0)],[(32,some (.box 39 (Zl    ⟨x4521,x4522,x4523,x4524,x4525,x4526,x4527,x4528⟩))),(33,some (.box 39 (Zl    ⟨x4529,x4530,x4531,x4532,x4533,x4534,x4535,x4536⟩))),(34,some (.box 39 [iV .i64 0,iV .i64 0,iV .i64 0,iV .u64 0,iV .u64 0,iV .i64 0,.none0,.none0])),(35,some (.box 39 [iV .i64 0,iV .i64 0,iV .i64 0,iV .u64 0,iV .u64 0,iV .i64 0,.none0,.none0]))],0⟩)) ⟨[(2,.ptr 24 0 0),(3,.ptr 25 0 0),(4,.ptr 26 0 0),(5,.ptr 27 0 0)],[(24,some (.box 39 (Zl    ⟨x4479,x4480,x4481,x4482,x4483,x4484,x4485,x4486⟩))),(25,some (.box 39 (Zl    ⟨x4487,x4488,x4489,x4490,x4491,x4492,x4493,x4494⟩))),(26,some (.box 39 [iV .i64 0,iV .i64 0,iV .i64 0,iV .u64 0,iV .u64 0,iV .i64 0,.none0,.none0])),(27,some (.box 39 [iV .i64 0,iV .i64 0,iV .i64 0,iV .u64 0,iV .u64 0,iV .i64 0,.none0,.none0]))],0⟩)) ?_ _ _ e4540
   clear H e4540 o4539;intro self ih v o4539 H
   obtain⟨x4479,x4480,x4481,x4482,x4483,x4484,x4485,x4486,x4487,x4488,x4489,x4490,x4491,x4492,x4493,x4494⟩:=v
   dsimp only at H
   subst hbody
   refine LWp.round ?_
   refine AWp.seq ?_
   refine sO hP hn hm [] [(43,bV (x4481 != x4489))] [2,3,4,5,43] [] [24,25,26,27] ?_
   refine AWp.cond (x4481 != x4489) (by kernel_rfl) (fun c4495 => ?_) (fun c4495 => ?_)
   ·replace H:=iT c4495 H
    refine AWp.skip ?_
    refine AWp.block ?_
    refine sO hP hn hm [] [(48,bV (decide (x4481<x4489)))] [2,3,4,5,48] [] [24,25,26,27] ?_
    obtain⟨o4541,e4542,H⟩:=Z3 H
    refine AWp.mono (Q:=fun e s=>(match (generalizing:=false) o4541 with | (x4505,x4506,x4507,x4508,x4509,x4510,x4511,x4512,x4513,x4514,x4515,x4516,x4517,x4518,x4519,x4520)=>e = .normal∧s=⟨[(2,.ptr 28 0 0),(3,.ptr 29 0 0),(4,.ptr 30 0 0),(5,.ptr 31 0 0)],[(28,some (.box 39 (Zl ⟨x4505,x4506,x4507,x4508,x4509,x4510,x4511,x4512⟩))),(29,some (.box 39 (Zl ⟨x4513,x4514,x4515,x4516,x4517,x4518,x4519,x4520⟩))),(30,some (.box 39 [iV .i64 0,iV .i64 0,iV .i64 0,iV .u64 0,iV .u64 0,iV .i64 0,.none0,.none0])),(31,some (.box 39 [iV .i64 0,iV .i64 0,iV .i64 0,iV .u64 0,iV .u64 0,iV .i64 0,.none0,.none0]))],0⟩)) (AWp.cv ?_) ?_
    ·replace H:=e4542;clear e4542
     refine AWp.cond (decide (x4481<x4489)) (by kernel_rfl) (fun c4496 => ?_) (fun c4496 => ?_)
     ·replace H:=iT c4496 H
      obtain⟨t4499,e4500,H⟩:=Z3 H
      refine rG hP hn hm [(3,.call [] [] [] [] 0 (.tup [.agg (Zl (t4499.1)),iV .i64 t4499.2]) [])] [] [2,3,4,5] [(24,some (.box 39 (Zl (t4499.1))))] [24,25,26,27] [_,_] ⟨Tryz.call93,Z2z.ok (⟨x4479,x4480,x4481,x4482,x4483,x4484,x4485,x4486⟩:Zd) x4489 t4499 e4500,trivial⟩ ?_
      obtain rfl:=sj H
      exact lf [(24,28),(25,29),(26,30),(27,31)] [] [] (by kernel_rfl) ⟨rfl,rfl⟩
     ·replace H:=iF c4496 H
      obtain⟨t4503,e4504,H⟩:=Z3 H
      refine rG hP hn hm [(3,.call [] [] [] [] 0 (.tup [.agg (Zl (t4503.1)),iV .i64 t4503.2]) [])] [] [2,3,4,5] [(25,some (.box 39 (Zl (t4503.1))))] [24,25,26,27] [_,_] ⟨Tryz.call93,Z2z.ok (⟨x4487,x4488,x4489,x4490,x4491,x4492,x4493,x4494⟩:Zd) x4481 t4503 e4504,trivial⟩ ?_
      obtain rfl:=sj H
      exact lf [(24,28),(25,29),(26,30),(27,31)] [] [] (by kernel_rfl) ⟨rfl,rfl⟩
    ·obtain⟨x4505,x4506,x4507,x4508,x4509,x4510,x4511,x4512,x4513,x4514,x4515,x4516,x4517,x4518,x4519,x4520⟩:=o4541
     rintro e s ⟨rfl,rfl⟩
     exact LWp.conv [(28,24),(29,25),(30,26),(31,27)] [] [] (by kernel_rfl) (ih _ _ H)
   ·replace H:=iF c4495 H
    refine AWp.exit ?_
    obtain rfl:=sj H
    exact lf [(24,32),(25,33),(26,34),(27,35)] [] [] (by kernel_rfl) ⟨rfl,rfl⟩
  ·obtain⟨x4521,x4522,x4523,x4524,x4525,x4526,x4527,x4528,x4529,x4530,x4531,x4532,x4533,x4534,x4535,x4536⟩:=o4539
   rintro e s ⟨rfl,rfl⟩
   refine sO hP hn hm [] [] [4,5] [(34,some (.box 39 (Zl ⟨x4521,x4522,x4523,x4524,x4525,x4526,x4527,x4528⟩))),(35,some (.box 39 (Zl ⟨x4529,x4530,x4531,x4532,x4533,x4534,x4535,x4536⟩)))] [34,35] ?_
   refine AWp.conv (inv:=[(34,0),(35,1)]) (vk:=[]) (e0:=[]) (t:=⟨[(4,.ptr 0 0 0),(5,.ptr 1 0 0)],[(0,some (.box 39 (Zl ((⟨x4521,x4522,x4523,x4524,x4525,x4526,x4527,x4528⟩:Zd))))),(1,some (.box 39 (Zl ((⟨x4529,x4530,x4531,x4532,x4533,x4534,x4535,x4536⟩:Zd)))))],0⟩) (by kernel_rfl) ?_
   refine AWp.ret ?_
   obtain rfl:=sj H
   exact rl (.inl rfl) rfl (by kernel_rfl) (by kernel_rfl)
def Z2m.l0 (a0:List Z2) (a1:Int) (x4559:Int):Option (Int ⊕ Unit):=if(decide (x4559<(a0.length:Int)))=true then((at? a0 x4559)>>=fun b4564=>if(b4564.f0==a1)=true then(some (.inl b4564.f1)) else(Z2m.l0 a0 a1 (i64.wrap (x4559+(1:Int))))) else(some (.inr ()))
partial_fixpoint
def Z2m.f (a0:List Z2) (a1:Int):Option (Int):=(Z2m.l0 a0 a1 0)>>=fun oo=>match oo with | .inl rr=>(some rr) | .inr _=>(some 0)
theorem Z2m.ok (a0:List Z2) (a1:Int) (r:Int) (H:Z2m.f a0 a1=some r):Pv.Fn Tryz.prog 78 [.im (.row (a0.map Z0)),iV .i64 a1] [] 0 (fun x o=>x=iV .u64 r∧o=[]):=by
 unfold Z2m.f at H
 refine Fn.bodyK [] Tryz.func78 rfl rfl (fun Γ hP hn => ?_)
 have hm:Tryz.prog.follows .mixedOrders=true:=by kernel_rfl
 replace hn:Γ.n=24:=hn
 refine sO hP hn hm [] [] [0,1] [] [] ?_
 refine AWp.seq ?_
 refine sO hP hn hm [] [(5,iV .i64 0)] [0,1,5] [] [] ?_
 refine AWp.block ?_
 obtain⟨o4568,e4569,H⟩:=Z3 H
 refine AWp.loop (LWp.conv (inv:=[]) (vk:=[]) (e0:=[]) (t:=⟨[(0,.im (.row (a0.map Z0))),(1,iV .i64 a1),(5,iV .i64 0)],[],0⟩) (by kernel_rfl) ?_)
 refine LWp.mono (Q:=fun e s=>(match (generalizing:=false) o4568 with | .inl rr=>e = .ret∧s.floor=0∧Z2e Tryz.prog Tryz.f78 s=some (iV .u64 rr)∧([]:List (Nat×Option MObj))=[] | .inr _=>e = .exit 0∧s=⟨[],[],0⟩)) (LWp.cv (Zp (fun body hbody => ?_))) ?_
 ·refine      Z2m.l0.partial_correctness a0 a1 (motive:=fun x4559 o4568=>LWp Γ body (fun e s=>∃ t,Cv Γ s t∧(match (generalizing:=false) o4568 with | .inl rr=>e = .ret∧t.floor=0∧Z2e   Tryz.prog Tryz.f78 t=some (iV .u64 rr)∧([]:List (Nat×Option MObj))=[] | .inr _=>e = .exit 0∧t=⟨[],[],0⟩)) ⟨[(0,.im (.row (a0.map Z0     ))),(1,iV .i64 a1),(5,iV .i64 x4559)],[],0⟩) ?_ _ _ e4569
  clear H e4569 o4568;intro self ih x4559 o4568 H
  subst hbody
  refine LWp.round ?_
  refine AWp.seq ?_
  refine sR hP hn hm [(2,.any (iV .i64 (a0.length:Int)))] [(9,bV (decide (x4559<(a0.length:Int))))] [0,1,5,9] [] [] [((a0.map Z0).length:Int)=(a0.length:Int)] ⟨by rw[Zn],trivial⟩ ?_
  refine AWp.cond (decide (x4559<(a0.length:Int))) (by kernel_rfl) (fun c4560 => ?_) (fun c4560 => ?_)
  ·replace H:=iT c4560 H
   refine AWp.skip ?_
   refine AWp.seq ?_
   refine AWp.block ?_
   obtain⟨b4564,p4565,q4566,H⟩:=Z06 H
   refine sR hP hn hm [(2,.c (Z0 b4564))] [(18,bV (b4564.f0==a1))] [0,1,5,18] [] [] [_,_] ⟨p4565,Zi Z0 q4566,trivial⟩ ?_
   refine AWp.cond (b4564.f0==a1) (by kernel_rfl) (fun c4567 => ?_) (fun c4567 => ?_)
   ·replace H:=iT c4567 H
    refine sR hP hn hm [(2,.c (Z0 b4564))] [(4,iV .u64 b4564.f1)] [4] [] [] [_,_] ⟨p4565,Zi Z0 q4566,trivial⟩ ?_
    refine AWp.conv (inv:=[]) (vk:=[]) (e0:=[]) (t:=⟨[(4,iV .u64 b4564.f1)],[],0⟩) (by kernel_rfl) ?_
    refine AWp.ret ?_
    obtain rfl:=sj H
    exact rl rfl rfl (by kernel_rfl) (by kernel_rfl)
   ·replace H:=iF c4567 H
    refine AWp.skip ?_
    refine rO hP hn hm [] [(5,iV .i64 (i64.wrap (x4559+(1:Int))))] [0,1,5] [] [] ?_
    exact LWp.conv [] [] [] (by kernel_rfl) (ih _ _ H)
  ·replace H:=iF c4560 H
   refine AWp.exit ?_
   obtain rfl:=sj H
   exact lf [] [] [] (by kernel_rfl) ⟨rfl,rfl⟩
 ·rcases o4568 with rr | _
  ·skip
   rintro e s ⟨rfl,hfl,hres⟩
   obtain rfl:=sj H
   exact Exists.intro _ (And.intro (fun _ _ h=>h) (And.intro (.inl rfl) (And.intro hfl hres)))
  ·skip
   rintro e s ⟨rfl,rfl⟩
   refine sO hP hn hm [] [(4,iV .u64 0)] [4] [] [] ?_
   refine AWp.conv (inv:=[]) (vk:=[]) (e0:=[]) (t:=⟨[(4,iV .u64 0)],[],0⟩) (by kernel_rfl) ?_
   refine AWp.ret ?_
   obtain rfl:=sj H
   exact rl (.inl rfl) rfl (by kernel_rfl) (by kernel_rfl)
def Z1f.l0 (a0:List Z2) (a1:List Z2) (x4578:Int):Option (((List Z2)×Bool) ⊕ Unit):=if(decide (x4578<(a1.length:Int)))=true then((at? a1 x4578)>>=fun b4585=>(Z2m.f a0 b4585.f0)>>=fun t4588=>if(decide (t4588<b4585.f1))=true then(some (.inl ([],false))) else(Z1f.l0 a0 a1 (i64.wrap (x4578+(1:Int))))) else(some (.inr ()))
partial_fixpoint
def Z1f.l1 (a0:List Z2) (a1:List Z2) (x4606:List Z2) (x4607:Int):Option (List Z2):=if(decide (x4607<(a0.length:Int)))=true then((at? a0 x4607)>>=fun b4614=>(Z2m.f a1 b4614.f0)>>=fun t4617=>((if(decide ((u64.wrap (b4614.f1-t4617))>(0:Int)))=true then((chk ((x4606.length+[(⟨b4614.f0,u64.wrap (b4614.f1-t4617)⟩:Z2)].length)*16≤140737488355328))>>=fun _=>some (x4606++[(⟨b4614.f0,u64.wrap (b4614.f1-t4617)⟩:Z2)])) else(some x4606)):Option (List Z2))>>=fun x4622=>Z1f.l1 a0 a1 x4622 (i64.wrap (x4607+(1:Int)))) else(some x4606)
partial_fixpoint
def Z1f.f (a0:List Z2) (a1:List Z2):Option ((List Z2)×Bool):=(Z1f.l0 a0 a1 0)>>=fun oo=>match oo with | .inl rr=>(some rr) | .inr _=>((Z1f.l1 a0 a1 [] 0)>>=fun x4623=>some (x4623,true))
theorem Z1f.ok (a0:List Z2) (a1:List Z2) (r:(List Z2)×Bool) (H:Z1f.f a0 a1=some r):Pv.Fn Tryz.prog 83 [.im (.row (a0.map Z0)),.im (.row (a1.map Z0))] [] 0 (fun x o=>x = .tup [.own 0,bV r.2]∧o=[(0,some (.row 2 87 (r.1.map Z0)))]):=by
 unfold Z1f.f at H
 refine Fn.bodyK [0] Tryz.func83 rfl rfl (fun Γ hP hn => ?_)
 have hm:Tryz.prog.follows .mixedOrders=true:=by kernel_rfl
 replace hn:Γ.n=61:=hn
 refine sO hP hn hm [] [] [0,1] [] [] ?_
 refine AWp.seq ?_
 refine sO hP hn hm [] [(6,iV .i64 0)] [0,1,6] [] [] ?_
 refine AWp.block ?_
 obtain⟨o4624,e4625,H⟩:=Z3 H
 refine AWp.loop (LWp.conv (inv:=[]) (vk:=[]) (e0:=[]) (t:=⟨[(0,.im (.row (a0.map Z0))),(1,.im (.row (a1.map Z0))),(6,iV .i64 0)],[],0⟩) (by kernel_rfl) ?_)
 refine LWp.mono (Q:=fun e s=>(match (generalizing:=false) o4624 with | .inl rr=>e = .ret∧s.floor=0∧Z2e Tryz.prog Tryz.f83 s=some (.tup [.own 0,bV rr.2])∧([(0,s.obj 0)]:List (Nat×Option MObj))=[(0,some (.row 2 87 (rr.1.map Z0)))] | .inr _=>e = .exit 0∧s=⟨[(0,.im (.row (a0.map Z0))),(1,.im (.row (a1.map Z0)))],[],0⟩)) (LWp.cv (Zp (fun body hbody => ?_))) ?_
 ·refine       Z1f.l0.partial_correctness a0 a1 (motive:=fun x4578 o4624=>LWp Γ body (fun e s=>∃ t,Cv Γ s t∧(match (generalizing:=false) o4624 with | .inl rr=>e = .ret∧t.floor=0∧Z2e   Tryz.prog Tryz.f83 t=some (.tup [.own 0,bV rr.2])∧([(0,t.obj 0)]:List (Nat×Option MObj))=[(0,some (.row 2 87 (rr.1.map Z0     )))] | .inr _=>e = .exit 0∧t=⟨[(0,.im (.row (a0.map Z0     ))),(1,.im (.row (a1.map Z0     )))],[],0⟩)) ⟨[(0,.im (.row (a0.map Z0     ))),(1,.im (.row (a1.map Z0     ))),(6,iV .i64 x4578)],[],0⟩) ?_ _ _ e4625
  clear H e4625 o4624;intro self ih x4578 o4624 H
  subst hbody
  refine LWp.round ?_
  refine AWp.seq ?_
  refine sR hP hn hm [(2,.any (iV .i64 (a1.length:Int)))] [(13,bV (decide (x4578<(a1.length:Int))))] [0,1,6,13] [] [] [((a1.map Z0).length:Int)=(a1.length:Int)] ⟨by rw[Zn],trivial⟩ ?_
  refine AWp.cond (decide (x4578<(a1.length:Int))) (by kernel_rfl) (fun c4579 => ?_) (fun c4579 => ?_)
  ·replace H:=iT c4579 H
   refine AWp.skip ?_
   refine AWp.seq ?_
   refine AWp.block ?_
   obtain⟨b4585,p4586,q4587,H⟩:=Z06 H
   obtain⟨t4588,e4589,H⟩:=Z3 H
   refine sR hP hn hm [(3,.c (Z0 b4585)),(6,.call [] [] [] [] 0 (iV .u64 t4588) []),(9,.c (Z0 b4585))] [(28,bV (decide (t4588<b4585.f1)))] [0,1,6,28] [] [] [_,_,_,_,_,_] ⟨p4586,Zi Z0 q4587,Tryz.call78,Z2m.ok a0 b4585.f0 t4588 e4589,p4586,Zi Z0 q4587,trivial⟩ ?_
   refine AWp.cond (decide (t4588<b4585.f1)) (by kernel_rfl) (fun c4590 => ?_) (fun c4590 => ?_)
   ·replace H:=iT c4590 H
    refine sO hP hn hm [] [(4,.none0),(5,bV false)] [4,5] [] [] ?_
    refine AWp.conv (inv:=[]) (vk:=[]) (e0:=[0]) (t:=⟨[(4,.own 0),(5,bV false)],[(0,some (.row 2 87 ([].map Z0)))],0⟩) (by kernel_rfl) ?_
    refine AWp.ret ?_
    obtain rfl:=sj H
    exact rl rfl rfl (by kernel_rfl) (by kernel_rfl)
   ·replace H:=iF c4590 H
    refine AWp.skip ?_
    refine rO hP hn hm [] [(6,iV .i64 (i64.wrap (x4578+(1:Int))))] [0,1,6] [] [] ?_
    exact LWp.conv [] [] [] (by kernel_rfl) (ih _ _ H)
  ·replace H:=iF c4579 H
   refine AWp.exit ?_
   obtain rfl:=sj H
   exact lf [] [] [] (by kernel_rfl) ⟨rfl,rfl⟩
 ·rcases o4624 with rr | _
  ·skip
   rintro e s ⟨rfl,hfl,hres⟩
   obtain rfl:=sj H
   exact Exists.intro _ (And.intro (fun _ _ h=>h) (And.intro (.inl rfl) (And.intro hfl hres)))
  ·skip
   rintro e s ⟨rfl,rfl⟩
   refine sO hP hn hm [] [(7,.none0)] [0,1,7] [] [] ?_
   refine AWp.seq ?_
   refine sO hP hn hm [] [(8,iV .i64 0)] [0,1,7,8] [] [] ?_
   refine AWp.block ?_
   obtain⟨o4626,e4627,H⟩:=Z3 H
   refine AWp.loop (LWp.conv (inv:=[]) (vk:=[]) (e0:=[3]) (t:=⟨[(0,.im (.row (a0.map Z0))),(1,.im (.row (a1.map Z0))),(7,.own 3),(8,iV .i64 0)],[(3,some (.row 2 87 ([].map Z0)))],0⟩) (by kernel_rfl) ?_)
   refine LWp.mono (Q:=fun e s=>(match (generalizing:=false) o4626 with | x4623=>e = .exit 2∧s=⟨[(7,.own 7)],[(7,some (.row 2 87 (x4623.map Z0)))],0⟩)) (LWp.cv (Zp (fun body hbody => ?_))) ?_
   ·refine       Z1f.l1.partial_correctness a0 a1 (motive:=fun x4606 x4607 o4626=>LWp Γ body (fun e s=>∃ t,Cv Γ s t∧(match (generalizing:=false) o4626 with | x4623=>e = .exit 2∧t=⟨[(7,.own 7)],[(7,some (.row 2 87 (x4623.map Z0     )))],0⟩)) ⟨[(0,.im (.row (a0.map Z0     ))),(1,.im (.row (a1.map Z0     ))),(7,.own 3),(8,iV .i64 x4607)],[(3,some (.row 2 87 (x4606.map Z0     )))],0⟩) ?_ _ _ _ e4627
    clear H e4627 o4626;intro self ih x4606 x4607 o4626 H
    subst hbody
    refine LWp.round ?_
    refine AWp.seq ?_
    refine sR hP hn hm [(2,.any (iV .i64 (a0.length:Int)))] [(32,bV (decide (x4607<(a0.length:Int))))] [0,1,7,8,32] [] [3] [((a0.map Z0).length:Int)=(a0.length:Int)] ⟨by rw[Zn],trivial⟩ ?_
    refine AWp.cond (decide (x4607<(a0.length:Int))) (by kernel_rfl) (fun c4608 => ?_) (fun c4608 => ?_)
    ·replace H:=iT c4608 H
     refine AWp.skip ?_
     refine AWp.seq ?_
     refine AWp.block ?_
     obtain⟨b4614,p4615,q4616,H⟩:=Z06 H
     obtain⟨t4617,e4618,H⟩:=Z3 H
     refine sR hP hn hm [(2,.c (Z0 b4614)),(8,.c (Z0 b4614)),(11,.call [] [] [] [] 0 (iV .u64 t4617) [])] [(9,iV .u64 (u64.wrap (b4614.f1-t4617)))] [0,1,7,8,9] [] [3] [_,_,_,_,_,_] ⟨p4615,Zi Z0 q4616,p4615,Zi Z0 q4616,Tryz.call78,Z2m.ok a1 b4614.f0 t4617 e4618,trivial⟩ ?_
     refine sO hP hn hm [] [(49,bV (decide ((u64.wrap (b4614.f1-t4617))>(0:Int))))] [0,1,7,8,9,49] [] [3] ?_
     obtain⟨o4628,e4629,H⟩:=Z3 H
     refine AWp.mono (Q:=fun e s=>(match (generalizing:=false) o4628 with | x4622=>e = .normal∧s=⟨[(0,.im (.row (a0.map Z0))),(1,.im (.row (a1.map Z0))),(7,.own 6),(8,iV .i64 x4607)],[(6,some (.row 2 87 (x4622.map Z0)))],0⟩)) (AWp.cv ?_) ?_
     ·replace H:=e4629;clear e4629
      refine AWp.cond (decide ((u64.wrap (b4614.f1-t4617))>(0:Int))) (by kernel_rfl) (fun c4619 => ?_) (fun c4619 => ?_)
      ·replace H:=iT c4619 H
       obtain⟨c4621,H⟩:=Z0f H
       refine rG hP hn hm [(3,.c (Z0 b4614)),(8,.app 4 ([(⟨b4614.f0,u64.wrap (b4614.f1-t4617)⟩:Z2)].map Z0)),(9,.app 5 ((x4606++[(⟨b4614.f0,u64.wrap (b4614.f1-t4617)⟩:Z2)]).map Z0))] [(7,.own 5)] [0,1,7,8] [(5,some (.row 2 87 ((x4606++[(⟨b4614.f0,u64.wrap (b4614.f1-t4617)⟩:Z2)]).map Z0)))] [5] [_,_,[(⟨b4614.f0,u64.wrap (b4614.f1-t4617)⟩:Z2)].map Z0=[[iI .i64 b4614.f0,iI .u64 (u64.wrap (b4614.f1-t4617))]],(x4606++[(⟨b4614.f0,u64.wrap (b4614.f1-t4617)⟩:Z2)]).map Z0=(x4606.map Z0)++([(⟨b4614.f0,u64.wrap (b4614.f1-t4617)⟩:Z2)].map Z0),∀ c∈([(⟨b4614.f0,u64.wrap (b4614.f1-t4617)⟩:Z2)].map Z0),c.length=2,∀ c∈([(⟨b4614.f0,u64.wrap (b4614.f1-t4617)⟩:Z2)].map Z0),Z14 (c.map .im)=true,((x4606.map Z0).length+([(⟨b4614.f0,u64.wrap (b4614.f1-t4617)⟩:Z2)].map Z0).length)*16≤140737488355328] ⟨p4615,Zi Z0 q4616,by exact rfl,by simp,by exact Z0z _ _ _ (fun _=>rfl),by exact Z0s _ _ (fun _=>rfl),by simpa using c4621,trivial⟩ ?_
       obtain rfl:=sj H
       exact lf [(5,6)] [] [] (by kernel_rfl) ⟨rfl,rfl⟩
      ·replace H:=iF c4619 H
       refine AWp.skip ?_
       obtain rfl:=sj H
       exact lf [(3,6)] [] [] (by kernel_rfl) ⟨rfl,rfl⟩
     ·obtain⟨x4622,rfl⟩:∃ z,z=o4628:=⟨_,rfl⟩
      rintro e s ⟨rfl,rfl⟩
      refine rO hP hn hm [] [(8,iV .i64 (i64.wrap (x4607+(1:Int))))] [0,1,7,8] [] [6] ?_
      exact LWp.conv [(6,3)] [] [] (by kernel_rfl) (ih _ _ _ H)
    ·replace H:=iF c4608 H
     refine AWp.exit ?_
     obtain rfl:=sj H
     exact lf [(3,7)] [] [] (by kernel_rfl) ⟨rfl,rfl⟩
   ·obtain⟨x4623,rfl⟩:∃ z,z=o4626:=⟨_,rfl⟩
    rintro e s ⟨rfl,rfl⟩
    refine sO hP hn hm [] [(4,.own 7),(5,bV true)] [4,5] [] [7] ?_
    refine AWp.conv (inv:=[(7,0)]) (vk:=[]) (e0:=[]) (t:=⟨[(4,.own 0),(5,bV true)],[(0,some (.row 2 87 (x4623.map Z0)))],0⟩) (by kernel_rfl) ?_
    refine AWp.ret ?_
    obtain rfl:=sj H
    exact rl (.inl rfl) rfl (by kernel_rfl) (by kernel_rfl)
def Z39.f (a0:Zd) (a1:Zd):Option (Zd×Int):=((if(a1.f5==(-9223372036854775808))=true then(some (i64.wrap (a1.f5+(1:Int)))) else(some a1.f5)):Option (Int))>>=fun x3912=>((if(a1.f5==(-9223372036854775808))=true then((chk (([a0.f5,i64.wrap (0-x3912)].length+[1].length)*8≤140737488355328))>>=fun _=>some ([a0.f5,i64.wrap (0-x3912)]++[1])) else(some [a0.f5,i64.wrap (0-x3912)])):Option (List Int))>>=fun x3916=>(Z1o.f x3916)>>=fun t3954=>(Z1n.f a0 a1)>>=fun t4545=>(Z1f.f ((t4545.1).f6) ((t4545.2).f6))>>=fun t4632=>(Z1f.f ((t4545.1).f7) ((t4545.2).f7))>>=fun t4636=>((if(!t4632.2)=true then(some true) else(if(!t4636.2)=true then(some true) else(some (decide (((t4545.1).f3)<((t4545.2).f3)))))):Option (Bool))>>=fun x4642=>if x4642=true then(some ((⟨0,0,0,0,0,0,[],[]⟩:Zd),21)) else(if(t3954.2 != (0:Int))=true then(some ((⟨0,0,0,0,0,0,[],[]⟩:Zd),5)) else(some ((⟨(t4545.1).f0,(t4545.1).f1,(t4545.1).f2,u64.wrap (((t4545.1).f3)-((t4545.2).f3)),u64.wrap (((t4545.1).f4)-((t4545.2).f4)),t3954.1,t4632.1,t4636.1⟩:Zd),0)))
theorem Z39.ok (a0:Zd) (a1:Zd) (r:Zd×Int) (H:Z39.f a0 a1=some r):Pv.Fn Tryz.prog 49 [.agg (Zl a0),.agg (Zl a1)] [] 0 (fun x o=>x = .tup [.agg [iV .i64 ((r.1).f0),iV .i64 ((r.1).f1),iV .i64 ((r.1).f2),iV .u64 ((r.1).f3),iV .u64 ((r.1).f4),iV .i64 ((r.1).f5),.own 0,.own 1],iV .i64 r.2]∧o=[(0,some (.row 2 87 (((r.1).f6).map Z0))),(1,some (.row 2 87 (((r.1).f7).map Z0)))]):=by
 unfold Z39.f at H
 refine Fn.bodyK [0,1] Tryz.func49 rfl rfl (fun Γ hP hn => ?_)
 have hm:Tryz.prog.follows .mixedOrders=true:=by kernel_rfl
 replace hn:Γ.n=97:=hn
 refine sO hP hn hm [(0,.k 0),(1,.k 1),(2,.k 2)] [(2,.ptr 0 0 0),(3,.ptr 1 0 0),(4,.ptr 2 0 0)] [2,3,4] [(0,some (.box 39 (Zl a0))),(1,some (.box 39 (Zl a1))),(2,some (.box 39 [iV .i64 0,iV .i64 0,iV .i64 0,iV .u64 0,iV .u64 0,iV .i64 0,.none0,.none0]))] [0,1,2] ?_
 refine sO hP hn hm [] [(6,iV .i64 a1.f5)] [2,3,4,6] [] [0,1,2] ?_
 refine sO hP hn hm [] [(7,bV (a1.f5==(-9223372036854775808)))] [2,3,4,6,7] [] [0,1,2] ?_
 refine AWp.seq ?_
 refine sO hP hn hm [] [(20,bV (a1.f5==(-9223372036854775808)))] [2,3,4,6,7,20] [] [0,1,2] ?_
 obtain⟨o4645,e4646,H⟩:=Z3 H
 refine AWp.mono (Q:=fun e s=>(match (generalizing:=false) o4645 with | x3912=>e = .normal∧s=⟨[(2,.ptr 3 0 0),(3,.ptr 4 0 0),(4,.ptr 5 0 0),(6,iV .i64 x3912),(7,bV (a1.f5==(-9223372036854775808)))],[(3,some (.box 39 (Zl a0))),(4,some (.box 39 (Zl a1))),(5,some (.box 39 [iV .i64 0,iV .i64 0,iV .i64 0,iV .u64 0,iV .u64 0,iV .i64 0,.none0,.none0]))],0⟩)) (AWp.cv ?_) ?_
 ·replace H:=e4646;clear e4646
  refine AWp.cond (a1.f5==(-9223372036854775808)) (by kernel_rfl) (fun c3911 => ?_) (fun c3911 => ?_)
  ·replace H:=iT c3911 H
   refine rO hP hn hm [] [(6,iV .i64 (i64.wrap (a1.f5+(1:Int))))] [2,3,4,6,7] [] [0,1,2] ?_
   obtain rfl:=sj H
   exact lf [(0,3),(1,4),(2,5)] [] [] (by kernel_rfl) ⟨rfl,rfl⟩
  ·replace H:=iF c3911 H
   refine AWp.skip ?_
   obtain rfl:=sj H
   exact lf [(0,3),(1,4),(2,5)] [] [] (by kernel_rfl) ⟨rfl,rfl⟩
 ·obtain⟨x3912,rfl⟩:∃ z,z=o4645:=⟨_,rfl⟩
  rintro e s ⟨rfl,rfl⟩
  refine sR hP hn hm [(4,.app 6 ([a0.f5,i64.wrap (0-x3912)].map (Z1 .i64)))] [(8,.own 6)] [2,3,4,7,8] [(6,some (.row 1 2 ([a0.f5,i64.wrap (0-x3912)].map (Z1 .i64))))] [3,4,5,6] [[a0.f5,i64.wrap (0-x3912)].map (Z1 .i64)=[[iI .i64 a0.f5],[iI .i64 (i64.wrap (0-x3912))]]] ⟨by exact rfl,trivial⟩ ?_
  refine AWp.seq ?_
  refine sO hP hn hm [] [(28,bV (a1.f5==(-9223372036854775808)))] [2,3,4,8,28] [] [3,4,5,6] ?_
  obtain⟨o4647,e4648,H⟩:=Z3 H
  refine AWp.mono (Q:=fun e s=>(match (generalizing:=false) o4647 with | x3916=>e = .normal∧s=⟨[(2,.ptr 9 0 0),(3,.ptr 10 0 0),(4,.ptr 11 0 0),(8,.own 12)],[(9,some (.box 39 (Zl a0))),(10,some (.box 39 (Zl a1))),(11,some (.box 39 [iV .i64 0,iV .i64 0,iV .i64 0,iV .u64 0,iV .u64 0,iV .i64 0,.none0,.none0])),(12,some (.row 1 2 (x3916.map (Z1 .i64))))],0⟩)) (AWp.cv ?_) ?_
  ·replace H:=e4648;clear e4648
   refine AWp.cond (a1.f5==(-9223372036854775808)) (by kernel_rfl) (fun c3913 => ?_) (fun c3913 => ?_)
   ·replace H:=iT c3913 H
    obtain⟨c3915,H⟩:=Z0f H
    refine rG hP hn hm [(1,.app 7 ([1].map (Z1 .i64))),(2,.app 8 (([a0.f5,i64.wrap (0-x3912)]++[1]).map (Z1 .i64)))] [(8,.own 8)] [2,3,4,8] [(8,some (.row 1 2 (([a0.f5,i64.wrap (0-x3912)]++[1]).map (Z1 .i64))))] [3,4,5,8] [[1].map (Z1 .i64)=[[iI .i64 1]],([a0.f5,i64.wrap (0-x3912)]++[1]).map (Z1 .i64)=([a0.f5,i64.wrap (0-x3912)].map (Z1 .i64))++([1].map (Z1 .i64)),∀ c∈([1].map (Z1 .i64)),c.length=1,∀ c∈([1].map (Z1 .i64)),Z14 (c.map .im)=true,(([a0.f5,i64.wrap (0-x3912)].map (Z1 .i64)).length+([1].map (Z1 .i64)).length)*8≤140737488355328] ⟨by exact rfl,by simp,by exact Z0z _ _ _ (fun _=>rfl),by exact Z0s _ _ (fun _=>rfl),by simpa using c3915,trivial⟩ ?_
    obtain rfl:=sj H
    exact lf [(3,9),(4,10),(5,11),(8,12)] [] [] (by kernel_rfl) ⟨rfl,rfl⟩
   ·replace H:=iF c3913 H
    refine AWp.skip ?_
    obtain rfl:=sj H
    exact lf [(3,9),(4,10),(5,11),(6,12)] [] [] (by kernel_rfl) ⟨rfl,rfl⟩
  ·obtain⟨x3916,rfl⟩:∃ z,z=o4647:=⟨_,rfl⟩
   rintro e s ⟨rfl,rfl⟩
   obtain⟨t3954,e3955,H⟩:=Z3 H
   refine sR hP hn hm [(1,.call [] [] [12] [] 0 (.tup [iV .i64 t3954.1,iV .i64 t3954.2]) [])] [(9,iV .i64 t3954.1),(10,iV .i64 t3954.2)] [2,3,4,9,10] [] [9,10,11] [_,_] ⟨Tryz.call81,Z1o.ok x3916 t3954 e3955,trivial⟩ ?_
   obtain⟨t4545,e4546,H⟩:=Z3 H
   refine sR hP hn hm [(2,.call [] [] [] [] 0 (.tup [.agg (Zl (t4545.1)),.agg (Zl (t4545.2))]) [])] [] [2,3,4,9,10] [(9,some (.box 39 (Zl (t4545.1)))),(10,some (.box 39 (Zl (t4545.2))))] [9,10,11] [_,_] ⟨Tryz.call82,Z1n.ok a0 a1 t4545 e4546,trivial⟩ ?_
   obtain⟨t4632,e4633,H⟩:=Z3 H
   refine sR hP hn hm [(4,.call [] [(0,13)] [] [13] 0 (.tup [.own 0,bV t4632.2]) [(0,some (.row 2 87 (t4632.1.map Z0)))])] [(11,.own 13),(12,bV t4632.2)] [2,3,4,9,10,11,12] [(13,some (.row 2 87 (t4632.1.map Z0)))] [9,10,11,13] [_,_] ⟨Tryz.call83,Z1f.ok ((t4545.1).f6) ((t4545.2).f6) t4632 e4633,trivial⟩ ?_
   obtain⟨t4636,e4637,H⟩:=Z3 H
   refine sR hP hn hm [(4,.call [] [(0,14)] [] [14] 0 (.tup [.own 0,bV t4636.2]) [(0,some (.row 2 87 (t4636.1.map Z0)))])] [(13,.own 14),(14,bV t4636.2)] [2,3,4,9,10,11,12,13,14] [(14,some (.row 2 87 (t4636.1.map Z0)))] [9,10,11,13,14] [_,_] ⟨Tryz.call83,Z1f.ok ((t4545.1).f7) ((t4545.2).f7) t4636 e4637,trivial⟩ ?_
   refine AWp.seq ?_
   refine AWp.seq ?_
   obtain⟨o4649,e4650,H⟩:=Z3 H
   refine AWp.mono (Q:=fun e s=>(match (generalizing:=false) o4649 with | x4642=>e = .normal∧s=⟨[(2,.ptr 15 0 0),(3,.ptr 16 0 0),(4,.ptr 17 0 0),(9,iV .i64 t3954.1),(10,iV .i64 t3954.2),(11,.own 18),(13,.own 19),(71,bV x4642)],[(15,some (.box 39 (Zl (t4545.1)))),(16,some (.box 39 (Zl (t4545.2)))),(17,some (.box 39 [iV .i64 0,iV .i64 0,iV .i64 0,iV .u64 0,iV .u64 0,iV .i64 0,.none0,.none0])),(18,some (.row 2 87 (t4632.1.map Z0))),(19,some (.row 2 87 (t4636.1.map Z0)))],0⟩)) (AWp.cv ?_) ?_
   ·replace H:=e4650;clear e4650
    rcases Bool.eq_false_or_eq_true (!t4632.2) with c4640 | c4640
    ·replace H:=iT c4640 H
     refine rG hP hn hm [(2,.b true)] [(71,bV true)] [2,3,4,9,10,11,13,71] [] [9,10,11,13,14] [_] ⟨c4640,trivial⟩ ?_
     obtain rfl:=sj H
     exact lf [(9,15),(10,16),(11,17),(13,18),(14,19)] [] [] (by kernel_rfl) ⟨rfl,rfl⟩
    ·replace H:=iF c4640 H
     rcases Bool.eq_false_or_eq_true (!t4636.2) with c4641 | c4641
     ·replace H:=iT c4641 H
      refine rG hP hn hm [(2,.b false),(6,.b true)] [(71,bV true)] [2,3,4,9,10,11,13,71] [] [9,10,11,13,14] [_,_] ⟨c4640,c4641,trivial⟩ ?_
      obtain rfl:=sj H
      exact lf [(9,15),(10,16),(11,17),(13,18),(14,19)] [] [] (by kernel_rfl) ⟨rfl,rfl⟩
     ·replace H:=iF c4641 H
      refine rG hP hn hm [(2,.b false),(6,.b false)] [(71,bV (decide (((t4545.1).f3)<((t4545.2).f3))))] [2,3,4,9,10,11,13,71] [] [9,10,11,13,14] [_,_] ⟨c4640,c4641,trivial⟩ ?_
      obtain rfl:=sj H
      exact lf [(9,15),(10,16),(11,17),(13,18),(14,19)] [] [] (by kernel_rfl) ⟨rfl,rfl⟩
   ·obtain⟨x4642,rfl⟩:∃ z,z=o4649:=⟨_,rfl⟩
    rintro e s ⟨rfl,rfl⟩
    refine AWp.cond x4642 (by kernel_rfl) (fun c4643 => ?_) (fun c4643 => ?_)
    ·replace H:=iT c4643 H
     refine sO hP hn hm [] [(5,iV .i64 21)] [4,5] [] [17] ?_
     refine AWp.conv (inv:=[(17,2)]) (vk:=[]) (e0:=[0,1]) (t:=⟨[(4,.ptr 2 0 0),(5,iV .i64 21)],[(0,some (.row 2 87 ((((⟨0,0,0,0,0,0,[],[]⟩:Zd)).f6).map Z0))),(1,some (.row 2 87 ((((⟨0,0,0,0,0,0,[],[]⟩:Zd)).f7).map Z0))),(2,some (.box 39 [iV .i64 (((⟨0,0,0,0,0,0,[],[]⟩:Zd)).f0),iV .i64 (((⟨0,0,0,0,0,0,[],[]⟩:Zd)).f1),iV .i64 (((⟨0,0,0,0,0,0,[],[]⟩:Zd)).f2),iV .u64 (((⟨0,0,0,0,0,0,[],[]⟩:Zd)).f3),iV .u64 (((⟨0,0,0,0,0,0,[],[]⟩:Zd)).f4),iV .i64 (((⟨0,0,0,0,0,0,[],[]⟩:Zd)).f5),.own 0,.own 1]))],0⟩) (by kernel_rfl) ?_
     refine AWp.ret ?_
     obtain rfl:=sj H
     exact rl (.inl rfl) rfl (by kernel_rfl) (by kernel_rfl)
    ·replace H:=iF c4643 H
     refine AWp.skip ?_
     refine AWp.seq ?_
     refine sO hP hn hm [] [(74,bV (t3954.2 != (0:Int)))] [2,3,4,9,11,13,74] [] [15,16,17,18,19] ?_
     refine AWp.cond (t3954.2 != (0:Int)) (by kernel_rfl) (fun c4644 => ?_) (fun c4644 => ?_)
     ·replace H:=iT c4644 H
      refine sO hP hn hm [] [(5,iV .i64 5)] [4,5] [] [17] ?_
      refine AWp.conv (inv:=[(17,2)]) (vk:=[]) (e0:=[0,1]) (t:=⟨[(4,.ptr 2 0 0),(5,iV .i64 5)],[(0,some (.row 2 87 ((((⟨0,0,0,0,0,0,[],[]⟩:Zd)).f6).map Z0))),(1,some (.row 2 87 ((((⟨0,0,0,0,0,0,[],[]⟩:Zd)).f7).map Z0))),(2,some (.box 39 [iV .i64 (((⟨0,0,0,0,0,0,[],[]⟩:Zd)).f0),iV .i64 (((⟨0,0,0,0,0,0,[],[]⟩:Zd)).f1),iV .i64 (((⟨0,0,0,0,0,0,[],[]⟩:Zd)).f2),iV .u64 (((⟨0,0,0,0,0,0,[],[]⟩:Zd)).f3),iV .u64 (((⟨0,0,0,0,0,0,[],[]⟩:Zd)).f4),iV .i64 (((⟨0,0,0,0,0,0,[],[]⟩:Zd)).f5),.own 0,.own 1]))],0⟩) (by kernel_rfl) ?_
      refine AWp.ret ?_
      obtain rfl:=sj H
      exact rl (.inl rfl) rfl (by kernel_rfl) (by kernel_rfl)
     ·replace H:=iF c4644 H
      refine AWp.skip ?_
      refine sO hP hn hm [(20,.k 20)] [(15,.ptr 20 0 0)] [4,15] [(20,some (.box 39 [iV .i64 ((t4545.1).f0),iV .i64 ((t4545.1).f1),iV .i64 ((t4545.1).f2),iV .u64 (u64.wrap (((t4545.1).f3)-((t4545.2).f3))),iV .u64 (u64.wrap (((t4545.1).f4)-((t4545.2).f4))),iV .i64 t3954.1,.own 18,.own 19]))] [17,18,19,20] ?_
      refine sO hP hn hm [] [(5,iV .i64 0)] [4,5] [(17,some (.box 39 [iV .i64 ((t4545.1).f0),iV .i64 ((t4545.1).f1),iV .i64 ((t4545.1).f2),iV .u64 (u64.wrap (((t4545.1).f3)-((t4545.2).f3))),iV .u64 (u64.wrap (((t4545.1).f4)-((t4545.2).f4))),iV .i64 t3954.1,.own 18,.own 19]))] [17,18,19] ?_
      refine AWp.conv (inv:=[(17,2),(18,0),(19,1)]) (vk:=[]) (e0:=[]) (t:=⟨[(4,.ptr 2 0 0),(5,iV .i64 0)],[(0,some (.row 2 87 ((((⟨(t4545.1).f0,(t4545.1).f1,(t4545.1).f2,u64.wrap (((t4545.1).f3)-((t4545.2).f3)),u64.wrap (((t4545.1).f4)-((t4545.2).f4)),t3954.1,t4632.1,t4636.1⟩:Zd)).f6).map Z0))),(1,some (.row 2 87 ((((⟨(t4545.1).f0,(t4545.1).f1,(t4545.1).f2,u64.wrap (((t4545.1).f3)-((t4545.2).f3)),u64.wrap (((t4545.1).f4)-((t4545.2).f4)),t3954.1,t4632.1,t4636.1⟩:Zd)).f7).map Z0))),(2,some (.box 39 [iV .i64 (((⟨(t4545.1).f0,(t4545.1).f1,(t4545.1).f2,u64.wrap (((t4545.1).f3)-((t4545.2).f3)),u64.wrap (((t4545.1).f4)-((t4545.2).f4)),t3954.1,t4632.1,t4636.1⟩:Zd)).f0),iV .i64 (((⟨(t4545.1).f0,(t4545.1).f1,(t4545.1).f2,u64.wrap (((t4545.1).f3)-((t4545.2).f3)),u64.wrap (((t4545.1).f4)-((t4545.2).f4)),t3954.1,t4632.1,t4636.1⟩:Zd)).f1),iV .i64 (((⟨(t4545.1).f0,(t4545.1).f1,(t4545.1).f2,u64.wrap (((t4545.1).f3)-((t4545.2).f3)),u64.wrap (((t4545.1).f4)-((t4545.2).f4)),t3954.1,t4632.1,t4636.1⟩:Zd)).f2),iV .u64 (((⟨(t4545.1).f0,(t4545.1).f1,(t4545.1).f2,u64.wrap (((t4545.1).f3)-((t4545.2).f3)),u64.wrap (((t4545.1).f4)-((t4545.2).f4)),t3954.1,t4632.1,t4636.1⟩:Zd)).f3),iV .u64 (((⟨(t4545.1).f0,(t4545.1).f1,(t4545.1).f2,u64.wrap (((t4545.1).f3)-((t4545.2).f3)),u64.wrap (((t4545.1).f4)-((t4545.2).f4)),t3954.1,t4632.1,t4636.1⟩:Zd)).f4),iV .i64 (((⟨(t4545.1).f0,(t4545.1).f1,(t4545.1).f2,u64.wrap (((t4545.1).f3)-((t4545.2).f3)),u64.wrap (((t4545.1).f4)-((t4545.2).f4)),t3954.1,t4632.1,t4636.1⟩:Zd)).f5),.own 0,.own 1]))],0⟩) (by kernel_rfl) ?_
      refine AWp.ret ?_
      obtain rfl:=sj H
      exact rl (.inl rfl) rfl (by kernel_rfl) (by kernel_rfl)
def Z4s.f (a0:Zd) (a1:Int):Option (List Z2):=if(a1==(0:Int))=true then(some a0.f6) else(some a0.f7)
theorem Z4s.ok (a0:Zd) (a1:Int) (r:List Z2) (H:Z4s.f a0 a1=some r):Pv.Fn Tryz.prog 74 [.agg (Zl a0),iV .i64 a1] [] 0 (fun x o=>x = .im (.row (r.map Z0))∧o=[]):=by
 unfold Z4s.f at H
 refine Fn.bodyK [] Tryz.func74 rfl rfl (fun Γ hP hn => ?_)
 have hm:Tryz.prog.follows .mixedOrders=true:=by kernel_rfl
 replace hn:Γ.n=11:=hn
 refine sO hP hn hm [(0,.k 0)] [(2,.ptr 0 0 0)] [1,2] [(0,some (.box 39 (Zl a0)))] [0] ?_
 refine AWp.seq ?_
 refine sO hP hn hm [] [(6,bV (a1==(0:Int)))] [2,6] [] [0] ?_
 refine AWp.cond (a1==(0:Int)) (by kernel_rfl) (fun c4664 => ?_) (fun c4664 => ?_)
 ·replace H:=iT c4664 H
  refine sO hP hn hm [] [(4,.im (.row (a0.f6.map Z0)))] [4] [] [] ?_
  refine AWp.conv (inv:=[]) (vk:=[]) (e0:=[]) (t:=⟨[(4,.im (.row (a0.f6.map Z0)))],[],0⟩) (by kernel_rfl) ?_
  refine AWp.ret ?_
  obtain rfl:=sj H
  exact rl (.inl rfl) rfl (by kernel_rfl) (by kernel_rfl)
 ·replace H:=iF c4664 H
  refine AWp.skip ?_
  refine sO hP hn hm [] [(4,.im (.row (a0.f7.map Z0)))] [4] [] [] ?_
  refine AWp.conv (inv:=[]) (vk:=[]) (e0:=[]) (t:=⟨[(4,.im (.row (a0.f7.map Z0)))],[],0⟩) (by kernel_rfl) ?_
  refine AWp.ret ?_
  obtain rfl:=sj H
  exact rl (.inl rfl) rfl (by kernel_rfl) (by kernel_rfl)
def Z0n.l1 (a0:List Zf) (a1:Int) (t4704:List Z2) (x4694:Int) (x4715:List Z2) (x4716:Int):Option (List Z2):=if(decide (x4716<(t4704.length:Int)))=true then((at? t4704 x4716)>>=fun b4722=>(chk ((x4715.length+[(⟨b4722.f0,1⟩:Z2)].length)*16≤140737488355328))>>=fun _=>Z0n.l1 a0 a1 t4704 x4694 (x4715++[(⟨b4722.f0,1⟩:Z2)]) (i64.wrap (x4716+(1:Int)))) else(some x4715)
partial_fixpoint
def Z0n.l0 (a0:List Zf) (a1:Int) (x4693:List Z2) (x4694:Int):Option (List Z2):=if(decide (x4694<(a0.length:Int)))=true then((at? a0 x4694)>>=fun b4701=>(Z4s.f b4701.f1 a1)>>=fun t4704=>(Z0n.l1 a0 a1 t4704 x4694 x4693 0)>>=fun x4726=>Z0n.l0 a0 a1 x4726 (i64.wrap (x4694+(1:Int)))) else(some x4693)
partial_fixpoint
def Z0n.l2 (t4730:(List Z2)×Int) (x4741:List Int) (x4742:Int):Option (List Int):=if(decide (x4742<(t4730.1.length:Int)))=true then((at? t4730.1 x4742)>>=fun b4748=>(chk ((x4741.length+[b4748.f0].length)*8≤140737488355328))>>=fun _=>Z0n.l2 t4730 (x4741++[b4748.f0]) (i64.wrap (x4742+(1:Int)))) else(some x4741)
partial_fixpoint
def Z0n.f (a0:List Zf) (a1:Int):Option (List Int):=(Z0n.l0 a0 a1 [] 0)>>=fun x4727=>(Z19.f x4727)>>=fun t4730=>(Z0n.l2 t4730 [] 0)>>=fun x4752=>some x4752
theorem Z0n.ok (a0:List Zf) (a1:Int) (r:List Int) (H:Z0n.f a0 a1=some r):Pv.Fn Tryz.prog 36 [.im (.row (a0.map Z7)),iV .i64 a1] [] 0 (fun x o=>x = .own 0∧o=[(0,some (.row 1 3 (r.map (Z1 .i64))))]):=by
 unfold Z0n.f at H
 refine Fn.bodyK [0] Tryz.func36 rfl rfl (fun Γ hP hn => ?_)
 have hm:Tryz.prog.follows .mixedOrders=true:=by kernel_rfl
 replace hn:Γ.n=61:=hn
 refine sO hP hn hm [] [] [0,1] [] [] ?_
 refine sO hP hn hm [] [(5,.none0)] [0,1,5] [] [] ?_
 refine AWp.seq ?_
 refine sO hP hn hm [] [(6,iV .i64 0)] [0,1,5,6] [] [] ?_
 refine AWp.block ?_
 obtain⟨o4753,e4754,H⟩:=Z3 H
 refine AWp.loop (LWp.conv (inv:=[]) (vk:=[]) (e0:=[6]) (t:=⟨[(0,.im (.row (a0.map Z7))),(1,iV .i64 a1),(5,.own 6),(6,iV .i64 0)],[(6,some (.row 2 87 ([].map Z0)))],0⟩) (by kernel_rfl) ?_)
 refine LWp.mono (Q:=fun e s=>(match (generalizing:=false) o4753 with | x4727=>e = .exit 0∧s=⟨[(5,.own 13)],[(13,some (.row 2 87 (x4727.map Z0)))],0⟩)) (LWp.cv (Zp (fun body hbody => ?_))) ?_
 ·refine       Z0n.l0.partial_correctness a0 a1 (motive:=fun x4693 x4694 o4753=>LWp Γ body (fun e s=>∃ t,Cv Γ s t∧(match (generalizing:=false) o4753 with | x4727=>e = .exit 0∧t=⟨[(5,.own 13)],[(13,some (.row 2 87 (x4727.map Z0     )))],0⟩)) ⟨[(0,.im (.row (a0.map Z7     ))),(1,iV .i64 a1),(5,.own 6),(6,iV .i64 x4694)],[(6,some (.row 2 87 (x4693.map Z0     )))],0⟩) ?_ _ _ _ e4754
  clear H e4754 o4753;intro self ih x4693 x4694 o4753 H
  subst hbody
  refine LWp.round ?_
  refine AWp.seq ?_
  refine sR hP hn hm [(2,.any (iV .i64 (a0.length:Int)))] [(16,bV (decide (x4694<(a0.length:Int))))] [0,1,5,6,16] [] [6] [((a0.map Z7).length:Int)=(a0.length:Int)] ⟨by rw[Zn],trivial⟩ ?_
  refine AWp.cond (decide (x4694<(a0.length:Int))) (by kernel_rfl) (fun c4695 => ?_) (fun c4695 => ?_)
  ·replace H:=iT c4695 H
   refine AWp.skip ?_
   refine AWp.seq ?_
   refine AWp.block ?_
   obtain⟨b4701,p4702,q4703,H⟩:=Z06 H
   obtain⟨t4704,e4705,H⟩:=Z3 H
   refine sR hP hn hm [(2,.c (Z7 b4701)),(6,.call [] [] [] [] 0 (.im (.row (t4704.map Z0))) [])] [(7,.im (.row (t4704.map Z0)))] [0,1,5,6,7] [] [6] [_,_,_,_] ⟨p4702,Zi Z7 q4703,Tryz.call74,Z4s.ok b4701.f1 a1 t4704 e4705,trivial⟩ ?_
   refine sO hP hn hm [] [(8,iV .i64 0)] [0,1,5,6,7,8] [] [6] ?_
   refine AWp.block ?_
   obtain⟨o4755,e4756,H⟩:=Z3 H
   refine AWp.loop (LWp.conv (inv:=[(6,9)]) (vk:=[]) (e0:=[]) (t:=⟨[(0,.im (.row (a0.map Z7))),(1,iV .i64 a1),(5,.own 9),(6,iV .i64 x4694),(7,.im (.row (t4704.map Z0))),(8,iV .i64 0)],[(9,some (.row 2 87 (x4693.map Z0)))],0⟩) (by kernel_rfl) ?_)
   refine LWp.mono (Q:=fun e s=>(match (generalizing:=false) o4755 with | x4726=>e = .exit 2∧s=⟨[(0,.im (.row (a0.map Z7))),(1,iV .i64 a1),(5,.own 12),(6,iV .i64 x4694)],[(12,some (.row 2 87 (x4726.map Z0)))],0⟩)) (LWp.cv (Zp (fun body hbody => ?_))) ?_
   ·refine       Z0n.l1.partial_correctness a0 a1 t4704 x4694 (motive:=fun x4715 x4716 o4755=>LWp Γ body (fun e s=>∃ t,Cv Γ s t∧(match (generalizing:=false) o4755 with | x4726=>e = .exit 2∧t=⟨[(0,.im (.row (a0.map Z7     ))),(1,iV .i64 a1),(5,.own 12),(6,iV .i64 x4694)],[(12,some (.row 2 87 (x4726.map Z0     )))],0⟩)) ⟨[(0,.im (.row (a0.map Z7     ))),(1,iV .i64 a1),(5,.own 9),(6,iV .i64 x4694),(7,.im (.row (t4704.map Z0     ))),(8,iV .i64 x4716)],[(9,some (.row 2 87 (x4715.map Z0     )))],0⟩) ?_ _ _ _ e4756
    clear H e4756 o4755;intro self ih x4715 x4716 o4755 H
    subst hbody
    refine LWp.round ?_
    refine AWp.seq ?_
    refine sR hP hn hm [(2,.any (iV .i64 (t4704.length:Int)))] [(29,bV (decide (x4716<(t4704.length:Int))))] [0,1,5,6,7,8,29] [] [9] [((t4704.map Z0).length:Int)=(t4704.length:Int)] ⟨by rw[Zn],trivial⟩ ?_
    refine AWp.cond (decide (x4716<(t4704.length:Int))) (by kernel_rfl) (fun c4717 => ?_) (fun c4717 => ?_)
    ·replace H:=iT c4717 H
     refine AWp.skip ?_
     refine AWp.seq ?_
     refine AWp.block ?_
     obtain⟨b4722,p4723,q4724,H⟩:=Z06 H
     obtain⟨c4725,H⟩:=Z0f H
     refine rG hP hn hm [(3,.c (Z0 b4722)),(7,.app 10 ([(⟨b4722.f0,1⟩:Z2)].map Z0)),(8,.app 11 ((x4715++[(⟨b4722.f0,1⟩:Z2)]).map Z0))] [(5,.own 11)] [0,1,5,6,7,8] [(11,some (.row 2 87 ((x4715++[(⟨b4722.f0,1⟩:Z2)]).map Z0)))] [11] [_,_,[(⟨b4722.f0,1⟩:Z2)].map Z0=[[iI .i64 b4722.f0,iI .u64 1]],(x4715++[(⟨b4722.f0,1⟩:Z2)]).map Z0=(x4715.map Z0)++([(⟨b4722.f0,1⟩:Z2)].map Z0),∀ c∈([(⟨b4722.f0,1⟩:Z2)].map Z0),c.length=2,∀ c∈([(⟨b4722.f0,1⟩:Z2)].map Z0),Z14 (c.map .im)=true,((x4715.map Z0).length+([(⟨b4722.f0,1⟩:Z2)].map Z0).length)*16≤140737488355328] ⟨p4723,Zi Z0 q4724,by exact rfl,by simp,by exact Z0z _ _ _ (fun _=>rfl),by exact Z0s _ _ (fun _=>rfl),by simpa using c4725,trivial⟩ ?_
     refine rO hP hn hm [] [(8,iV .i64 (i64.wrap (x4716+(1:Int))))] [0,1,5,6,7,8] [] [11] ?_
     exact LWp.conv [(11,9)] [] [] (by kernel_rfl) (ih _ _ _ H)
    ·replace H:=iF c4717 H
     refine AWp.exit ?_
     obtain rfl:=sj H
     exact lf [(9,12)] [] [] (by kernel_rfl) ⟨rfl,rfl⟩
   ·obtain⟨x4726,rfl⟩:∃ z,z=o4755:=⟨_,rfl⟩
    rintro e s ⟨rfl,rfl⟩
    refine rO hP hn hm [] [(6,iV .i64 (i64.wrap (x4694+(1:Int))))] [0,1,5,6] [] [12] ?_
    exact LWp.conv [(12,6)] [] [] (by kernel_rfl) (ih _ _ _ H)
  ·replace H:=iF c4695 H
   refine AWp.exit ?_
   obtain rfl:=sj H
   exact lf [(6,13)] [] [] (by kernel_rfl) ⟨rfl,rfl⟩
 ·obtain⟨x4727,rfl⟩:∃ z,z=o4753:=⟨_,rfl⟩
  rintro e s ⟨rfl,rfl⟩
  obtain⟨t4730,e4731,H⟩:=Z3 H
  refine sR hP hn hm [(1,.more (Z3j [] [(0,14)] [13] [14] 0 (.tup [.own 0,iV .i64 t4730.2]) [(0,some (.row 2 87 (t4730.1.map Z0)))]))] [(9,.own 14)] [9] [(14,some (.row 2 87 (t4730.1.map Z0)))] [14] [_,_,∀ c∈t4730.1.map Z0,∀ x∈c,∃ v,x=Im.sc v] ⟨Tryz.call75,Z19.ok x4727 t4730 e4731,by exact Z3i _ _ (fun _=>by simp),trivial⟩ ?_
  refine sO hP hn hm [] [(11,.none0)] [9,11] [] [14] ?_
  refine AWp.seq ?_
  refine sO hP hn hm [] [(12,iV .i64 0)] [9,11,12] [] [14] ?_
  refine AWp.block ?_
  obtain⟨o4757,e4758,H⟩:=Z3 H
  refine AWp.loop (LWp.conv (inv:=[(14,17)]) (vk:=[]) (e0:=[18]) (t:=⟨[(9,.own 17),(11,.own 18),(12,iV .i64 0)],[(17,some (.row 2 87 (t4730.1.map Z0))),(18,some (.row 1 3 ([].map (Z1 .i64))))],0⟩) (by kernel_rfl) ?_)
  refine LWp.mono (Q:=fun e s=>(match (generalizing:=false) o4757 with | x4752=>e = .exit 4∧s=⟨[(11,.own 21)],[(21,some (.row 1 3 (x4752.map (Z1 .i64))))],0⟩)) (LWp.cv (Zp (fun body hbody => ?_))) ?_
  ·refine       Z0n.l2.partial_correctness t4730 (motive:=fun x4741 x4742 o4757=>LWp Γ body (fun e s=>∃ t,Cv Γ s t∧(match (generalizing:=false) o4757 with | x4752=>e = .exit 4∧t=⟨[(11,.own 21)],[(21,some (.row 1 3 (x4752.map (Z1     .i64))))],0⟩)) ⟨[(9,.own 17),(11,.own 18),(12,iV .i64 x4742)],[(17,some (.row 2 87 (t4730.1.map Z0     ))),(18,some (.row 1 3 (x4741.map (Z1     .i64))))],0⟩) ?_ _ _ _ e4758
   clear H e4758 o4757;intro self ih x4741 x4742 o4757 H
   subst hbody
   refine LWp.round ?_
   refine AWp.seq ?_
   refine sR hP hn hm [(2,.any (iV .i64 (t4730.1.length:Int)))] [(49,bV (decide (x4742<(t4730.1.length:Int))))] [9,11,12,49] [] [17,18] [((t4730.1.map Z0).length:Int)=(t4730.1.length:Int)] ⟨by rw[Zn],trivial⟩ ?_
   refine AWp.cond (decide (x4742<(t4730.1.length:Int))) (by kernel_rfl) (fun c4743 => ?_) (fun c4743 => ?_)
   ·replace H:=iT c4743 H
    refine AWp.skip ?_
    refine AWp.seq ?_
    refine AWp.block ?_
    obtain⟨b4748,p4749,q4750,H⟩:=Z06 H
    obtain⟨c4751,H⟩:=Z0f H
    refine rG hP hn hm [(5,.c (Z0 b4748)),(6,.app 19 ([b4748.f0].map (Z1 .i64))),(7,.app 20 ((x4741++[b4748.f0]).map (Z1 .i64)))] [(11,.own 20)] [9,11,12] [(20,some (.row 1 3 ((x4741++[b4748.f0]).map (Z1 .i64))))] [17,20] [_,_,_,[b4748.f0].map (Z1 .i64)=[[iI .i64 b4748.f0]],(x4741++[b4748.f0]).map (Z1 .i64)=(x4741.map (Z1 .i64))++([b4748.f0].map (Z1 .i64)),∀ c∈([b4748.f0].map (Z1 .i64)),c.length=1,∀ c∈([b4748.f0].map (Z1 .i64)),Z14 (c.map .im)=true,((x4741.map (Z1 .i64)).length+([b4748.f0].map (Z1 .i64)).length)*8≤140737488355328] ⟨p4749,Z1p Z0 p4749 q4750,Zi Z0 q4750,by exact rfl,by simp,by exact Z0z _ _ _ (fun _=>rfl),by exact Z0s _ _ (fun _=>rfl),by simpa using c4751,trivial⟩ ?_
    refine rO hP hn hm [] [(12,iV .i64 (i64.wrap (x4742+(1:Int))))] [9,11,12] [] [17,20] ?_
    exact LWp.conv [(17,17),(20,18)] [] [] (by kernel_rfl) (ih _ _ _ H)
   ·replace H:=iF c4743 H
    refine AWp.exit ?_
    obtain rfl:=sj H
    exact lf [(18,21)] [] [] (by kernel_rfl) ⟨rfl,rfl⟩
  ·obtain⟨x4752,rfl⟩:∃ z,z=o4757:=⟨_,rfl⟩
   rintro e s ⟨rfl,rfl⟩
   refine sO hP hn hm [] [(4,.own 21)] [4] [] [21] ?_
   refine AWp.conv (inv:=[(21,0)]) (vk:=[]) (e0:=[]) (t:=⟨[(4,.own 0)],[(0,some (.row 1 3 (x4752.map (Z1 .i64))))],0⟩) (by kernel_rfl) ?_
   refine AWp.ret ?_
   obtain rfl:=sj H
   exact rl (.inl rfl) rfl (by kernel_rfl) (by kernel_rfl)
def Z3f.f (a0:List Zf) (a1:Zf):Option (Bool):=if((a0.length:Int)==(0:Int))=true then(some true) else((at? a0 (i64.wrap ((a0.length:Int)-(1:Int))))>>=fun b3897=>((if(decide ((a0.length:Int)>(31:Int)))=true then(some true) else(if(decide (a1.f0≤b3897.f0))=true then(some true) else(if(a1.f1.f0 != b3897.f1.f0)=true then(some true) else(if(a1.f1.f1 != b3897.f1.f1)=true then(some true) else(some (a1.f1.f2 != b3897.f1.f2)))))):Option (Bool))>>=fun x3908=>if x3908=true then(some false) else(((if(a1.f1.f0==(0:Int))=true then((Z39.f a1.f1 b3897.f1)>>=fun t4653=>if(t4653.2==(21:Int))=true then(some (.inl false)) else(some (.inr ()))) else(some (.inr ()))):Option (Bool ⊕ Unit))>>=fun oo=>match oo with | .inl rr=>(some rr) | .inr _=>((chk ((([]:List Zf).length+a0.length)*104≤140737488355328))>>=fun _=>(chk ((a0.length+[a1].length)*104≤140737488355328))>>=fun _=>(((Z0n.f (a0++[a1]) 0)>>=fun t4764=>if(decide ((t4764.length:Int)≤(512:Int)))=true then((Z0n.f (a0++[a1]) 1)>>=fun t4767=>some (decide ((t4767.length:Int)≤(512:Int)))) else(some false)):Option (Bool))>>=fun x4769=>some x4769)))
theorem Z3f.ok (a0:List Zf) (a1:Zf) (r:Bool) (H:Z3f.f a0 a1=some r):Pv.Fn Tryz.prog 16 [.im (.row (a0.map Z7)),.agg [iV .i64 a1.f0,iV .i64 a1.f1.f0,iV .i64 a1.f1.f1,iV .i64 a1.f1.f2,iV .u64 a1.f1.f3,iV .u64 a1.f1.f4,iV .i64 a1.f1.f5,.im (.row (a1.f1.f6.map Z0)),.im (.row (a1.f1.f7.map Z0))]] [] 0 (fun x o=>x=bV r∧o=[]):=by
 unfold Z3f.f at H
 refine Fn.bodyK [] Tryz.func16 rfl rfl (fun Γ hP hn => ?_)
 have hm:Tryz.prog.follows .mixedOrders=true:=by kernel_rfl
 replace hn:Γ.n=86:=hn
 refine sO hP hn hm [(0,.k 0)] [(3,.ptr 0 0 0)] [0,3] [(0,some (.box 41 [iV .i64 a1.f0,iV .i64 a1.f1.f0,iV .i64 a1.f1.f1,iV .i64 a1.f1.f2,iV .u64 a1.f1.f3,iV .u64 a1.f1.f4,iV .i64 a1.f1.f5,.im (.row (a1.f1.f6.map Z0)),.im (.row (a1.f1.f7.map Z0))]))] [0] ?_
 refine AWp.seq ?_
 refine sR hP hn hm [(1,.any (iV .i64 (a0.length:Int)))] [(11,bV ((a0.length:Int)==(0:Int)))] [0,3,11] [] [0] [((a0.map Z7).length:Int)=(a0.length:Int)] ⟨by rw[Zn],trivial⟩ ?_
 refine AWp.cond ((a0.length:Int)==(0:Int)) (by kernel_rfl) (fun c3893 => ?_) (fun c3893 => ?_)
 ·replace H:=iT c3893 H
  refine sO hP hn hm [] [(4,bV true)] [4] [] [] ?_
  refine AWp.conv (inv:=[]) (vk:=[]) (e0:=[]) (t:=⟨[(4,bV true)],[],0⟩) (by kernel_rfl) ?_
  refine AWp.ret ?_
  obtain rfl:=sj H
  exact rl (.inl rfl) rfl (by kernel_rfl) (by kernel_rfl)
 ·replace H:=iF c3893 H
  refine AWp.skip ?_
  obtain⟨b3897,p3898,q3899,H⟩:=Z06 H
  refine sR hP hn hm [(2,.any (iV .i64 (a0.length:Int))),(4,.c (Z7 b3897)),(6,.k 1)] [(5,.ptr 1 0 0)] [0,3,5] [(1,some (.box 41 [iV .i64 b3897.f0,iV .i64 b3897.f1.f0,iV .i64 b3897.f1.f1,iV .i64 b3897.f1.f2,iV .u64 b3897.f1.f3,iV .u64 b3897.f1.f4,iV .i64 b3897.f1.f5,.im (.row (b3897.f1.f6.map Z0)),.im (.row (b3897.f1.f7.map Z0))]))] [0,1] [((a0.map Z7).length:Int)=(a0.length:Int),_,_] ⟨by rw[Zn],p3898,Zi Z7 q3899,trivial⟩ ?_
  refine AWp.seq ?_
  refine AWp.seq ?_
  obtain⟨o4770,e4771,H⟩:=Z3 H
  refine AWp.mono (Q:=fun e s=>(match (generalizing:=false) o4770 with | x3908=>e = .normal∧s=⟨[(0,.im (.row (a0.map Z7))),(3,.ptr 2 0 0),(5,.ptr 3 0 0),(54,bV x3908)],[(2,some (.box 41 [iV .i64 a1.f0,iV .i64 a1.f1.f0,iV .i64 a1.f1.f1,iV .i64 a1.f1.f2,iV .u64 a1.f1.f3,iV .u64 a1.f1.f4,iV .i64 a1.f1.f5,.im (.row (a1.f1.f6.map Z0)),.im (.row (a1.f1.f7.map Z0))])),(3,some (.box 41 [iV .i64 b3897.f0,iV .i64 b3897.f1.f0,iV .i64 b3897.f1.f1,iV .i64 b3897.f1.f2,iV .u64 b3897.f1.f3,iV .u64 b3897.f1.f4,iV .i64 b3897.f1.f5,.im (.row (b3897.f1.f6.map Z0)),.im (.row (b3897.f1.f7.map Z0))]))],0⟩)) (AWp.cv ?_) ?_
  ·replace H:=e4771;clear e4771
   rcases Bool.eq_false_or_eq_true (decide ((a0.length:Int)>(31:Int))) with c3904 | c3904
   ·replace H:=iT c3904 H
    refine rG hP hn hm [(1,.any (iV .i64 (a0.length:Int))),(3,.b true)] [(54,bV true)] [0,3,5,54] [] [0,1] [((a0.map Z7).length:Int)=(a0.length:Int),_] ⟨by rw[Zn],c3904,trivial⟩ ?_
    obtain rfl:=sj H
    exact lf [(0,2),(1,3)] [] [] (by kernel_rfl) ⟨rfl,rfl⟩
   ·replace H:=iF c3904 H
    rcases Bool.eq_false_or_eq_true (decide (a1.f0≤b3897.f0)) with c3905 | c3905
    ·replace H:=iT c3905 H
     refine rG hP hn hm [(1,.any (iV .i64 (a0.length:Int))),(3,.b false),(10,.b true)] [(54,bV true)] [0,3,5,54] [] [0,1] [((a0.map Z7).length:Int)=(a0.length:Int),_,_] ⟨by rw[Zn],c3904,c3905,trivial⟩ ?_
     obtain rfl:=sj H
     exact lf [(0,2),(1,3)] [] [] (by kernel_rfl) ⟨rfl,rfl⟩
    ·replace H:=iF c3905 H
     rcases Bool.eq_false_or_eq_true (a1.f1.f0 != b3897.f1.f0) with c3906 | c3906
     ·replace H:=iT c3906 H
      refine rG hP hn hm [(1,.any (iV .i64 (a0.length:Int))),(3,.b false),(10,.b false),(19,.b true)] [(54,bV true)] [0,3,5,54] [] [0,1] [((a0.map Z7).length:Int)=(a0.length:Int),_,_,_] ⟨by rw[Zn],c3904,c3905,c3906,trivial⟩ ?_
      obtain rfl:=sj H
      exact lf [(0,2),(1,3)] [] [] (by kernel_rfl) ⟨rfl,rfl⟩
     ·replace H:=iF c3906 H
      rcases Bool.eq_false_or_eq_true (a1.f1.f1 != b3897.f1.f1) with c3907 | c3907
      ·replace H:=iT c3907 H
       refine rG hP hn hm [(1,.any (iV .i64 (a0.length:Int))),(3,.b false),(10,.b false),(19,.b false),(28,.b true)] [(54,bV true)] [0,3,5,54] [] [0,1] [((a0.map Z7).length:Int)=(a0.length:Int),_,_,_,_] ⟨by rw[Zn],c3904,c3905,c3906,c3907,trivial⟩ ?_
       obtain rfl:=sj H
       exact lf [(0,2),(1,3)] [] [] (by kernel_rfl) ⟨rfl,rfl⟩
      ·replace H:=iF c3907 H
       refine rG hP hn hm [(1,.any (iV .i64 (a0.length:Int))),(3,.b false),(10,.b false),(19,.b false),(28,.b false)] [(54,bV (a1.f1.f2 != b3897.f1.f2))] [0,3,5,54] [] [0,1] [((a0.map Z7).length:Int)=(a0.length:Int),_,_,_,_] ⟨by rw[Zn],c3904,c3905,c3906,c3907,trivial⟩ ?_
       obtain rfl:=sj H
       exact lf [(0,2),(1,3)] [] [] (by kernel_rfl) ⟨rfl,rfl⟩
  ·obtain⟨x3908,rfl⟩:∃ z,z=o4770:=⟨_,rfl⟩
   rintro e s ⟨rfl,rfl⟩
   refine AWp.cond x3908 (by kernel_rfl) (fun c3909 => ?_) (fun c3909 => ?_)
   ·replace H:=iT c3909 H
    refine sO hP hn hm [] [(4,bV false)] [4] [] [] ?_
    refine AWp.conv (inv:=[]) (vk:=[]) (e0:=[]) (t:=⟨[(4,bV false)],[],0⟩) (by kernel_rfl) ?_
    refine AWp.ret ?_
    obtain rfl:=sj H
    exact rl (.inl rfl) rfl (by kernel_rfl) (by kernel_rfl)
   ·replace H:=iF c3909 H
    refine AWp.skip ?_
    refine AWp.seq ?_
    refine sO hP hn hm [] [(58,bV (a1.f1.f0==(0:Int)))] [0,3,5,58] [] [2,3] ?_
    obtain⟨o4772,e4773,H⟩:=Z3 H
    refine AWp.mono (Q:=fun e s=>(match (generalizing:=false) o4772 with | .inl rr=>e = .ret∧s.floor=0∧Z2e Tryz.prog Tryz.f16 s=some (bV rr)∧([]:List (Nat×Option MObj))=[] | .inr _=>e = .normal∧s=⟨[(0,.im (.row (a0.map Z7))),(3,.ptr 7 0 0)],[(7,some (.box 41 [iV .i64 a1.f0,iV .i64 a1.f1.f0,iV .i64 a1.f1.f1,iV .i64 a1.f1.f2,iV .u64 a1.f1.f3,iV .u64 a1.f1.f4,iV .i64 a1.f1.f5,.im (.row (a1.f1.f6.map Z0)),.im (.row (a1.f1.f7.map Z0))]))],0⟩)) (AWp.cv ?_) ?_
    ·replace H:=e4773;clear e4773
     refine AWp.cond (a1.f1.f0==(0:Int)) (by kernel_rfl) (fun c3910 => ?_) (fun c3910 => ?_)
     ·replace H:=iT c3910 H
      obtain⟨t4653,e4654,H⟩:=Z3 H
      refine sR hP hn hm [(4,.call [] [(0,4),(1,5)] [] [4,5] 0 (.tup [.agg [iV .i64 ((t4653.1).f0),iV .i64 ((t4653.1).f1),iV .i64 ((t4653.1).f2),iV .u64 ((t4653.1).f3),iV .u64 ((t4653.1).f4),iV .i64 ((t4653.1).f5),.own 0,.own 1],iV .i64 t4653.2]) [(0,some (.row 2 87 (((t4653.1).f6).map Z0))),(1,some (.row 2 87 (((t4653.1).f7).map Z0)))]),(8,.k 6)] [(7,iV .i64 t4653.2)] [0,3,7] [] [2] [_,_] ⟨Tryz.call49,Z39.ok a1.f1 b3897.f1 t4653 e4654,trivial⟩ ?_
      refine sO hP hn hm [] [(68,bV (t4653.2==(21:Int)))] [0,3,68] [] [2] ?_
      refine AWp.cond (t4653.2==(21:Int)) (by kernel_rfl) (fun c4655 => ?_) (fun c4655 => ?_)
      ·replace H:=iT c4655 H
       refine sO hP hn hm [] [(4,bV false)] [4] [] [] ?_
       refine AWp.conv (inv:=[]) (vk:=[]) (e0:=[]) (t:=⟨[(4,bV false)],[],0⟩) (by kernel_rfl) ?_
       refine AWp.ret ?_
       obtain rfl:=sj H
       exact rl rfl rfl (by kernel_rfl) (by kernel_rfl)
      ·replace H:=iF c4655 H
       refine AWp.skip ?_
       obtain rfl:=sj H
       exact lf [(2,7)] [] [] (by kernel_rfl) ⟨rfl,rfl⟩
     ·replace H:=iF c3910 H
      refine AWp.skip ?_
      obtain rfl:=sj H
      exact lf [(2,7)] [] [] (by kernel_rfl) ⟨rfl,rfl⟩
    ·rcases o4772 with rr | _
     ·skip
      rintro e s ⟨rfl,hfl,hres⟩
      obtain rfl:=sj H
      exact Exists.intro _ (And.intro (fun _ _ h=>h) (And.intro (.inl rfl) (And.intro hfl hres)))
     ·skip
      rintro e s ⟨rfl,rfl⟩
      refine sO hP hn hm [] [(8,.none0)] [0,3,8] [] [7] ?_
      obtain⟨c4657,H⟩:=Z0f H
      refine sR hP hn hm [(2,.app 8 (a0.map Z7))] [(8,.own 8)] [3,8] [(8,some (.row 9 41 (a0.map Z7)))] [7,8] [a0.map Z7=([]:List (List Im))++(a0.map Z7),∀ c∈(a0.map Z7),c.length=9,∀ c∈(a0.map Z7),Z14 (c.map .im)=true,(([]:List (List Im)).length+(a0.map Z7).length)*104≤140737488355328] ⟨by simp,by exact Z0z _ _ _ (fun _=>rfl),by exact Z0s _ _ (fun _=>rfl),by simpa using c4657,trivial⟩ ?_
      obtain⟨c4659,H⟩:=Z0f H
      refine sR hP hn hm [(2,.app 9 ([a1].map Z7)),(3,.app 10 ((a0++[a1]).map Z7))] [(8,.own 10)] [8] [(10,some (.row 9 41 ((a0++[a1]).map Z7)))] [10] [[a1].map Z7=[[iI .i64 a1.f0,iI .i64 a1.f1.f0,iI .i64 a1.f1.f1,iI .i64 a1.f1.f2,iI .u64 a1.f1.f3,iI .u64 a1.f1.f4,iI .i64 a1.f1.f5,.row (a1.f1.f6.map Z0),.row (a1.f1.f7.map Z0)]],(a0++[a1]).map Z7=(a0.map Z7)++([a1].map Z7),∀ c∈([a1].map Z7),c.length=9,∀ c∈([a1].map Z7),Z14 (c.map .im)=true,((a0.map Z7).length+([a1].map Z7).length)*104≤140737488355328] ⟨by exact rfl,by simp,by exact Z0z _ _ _ (fun _=>rfl),by exact Z0s _ _ (fun _=>rfl),by simpa using c4659,trivial⟩ ?_
      refine AWp.seq ?_
      obtain⟨o4774,e4775,H⟩:=Z3 H
      refine AWp.mono (Q:=fun e s=>(match (generalizing:=false) o4774 with | x4769=>e = .normal∧s=⟨[(4,bV x4769)],[],0⟩)) (AWp.cv ?_) ?_
      ·replace H:=e4775;clear e4775
       obtain⟨t4764,e4765,H⟩:=Z3 H
       rcases Bool.eq_false_or_eq_true (decide ((t4764.length:Int)≤(512:Int))) with c4766 | c4766
       ·replace H:=iT c4766 H
        obtain⟨t4767,e4768,H⟩:=Z3 H
        refine rG hP hn hm [(1,.more (Z3j [] [(0,11)] [10] [11] 0 (.own 0) [(0,some (.row 1 3 (t4764.map (Z1 .i64))))])),(2,.any (iV .i64 (t4764.length:Int))),(4,.b true),(6,.more (Z3j [] [(0,12)] [10] [12] 0 (.own 0) [(0,some (.row 1 3 (t4767.map (Z1 .i64))))])),(7,.any (iV .i64 (t4767.length:Int)))] [(4,bV (decide ((t4767.length:Int)≤(512:Int))))] [4] [] [] [_,_,∀ c∈t4764.map (Z1 .i64),∀ x∈c,∃ v,x=Im.sc v,((t4764.map (Z1 .i64)).length:Int)=(t4764.length:Int),_,_,_,∀ c∈t4767.map (Z1 .i64),∀ x∈c,∃ v,x=Im.sc v,((t4767.map (Z1 .i64)).length:Int)=(t4767.length:Int)] ⟨Tryz.call36,Z0n.ok (a0++[a1]) 0 t4764 e4765,by exact Z3i _ _ (fun _=>by simp),by rw[Zn],c4766,Tryz.call36,Z0n.ok (a0++[a1]) 1 t4767 e4768,by exact Z3i _ _ (fun _=>by simp),by rw[Zn],trivial⟩ ?_
        obtain rfl:=sj H
        exact lf [] [] [] (by kernel_rfl) ⟨rfl,rfl⟩
       ·replace H:=iF c4766 H
        refine rG hP hn hm [(1,.more (Z3j [] [(0,11)] [10] [11] 0 (.own 0) [(0,some (.row 1 3 (t4764.map (Z1 .i64))))])),(2,.any (iV .i64 (t4764.length:Int))),(4,.b false)] [(4,bV false)] [4] [] [] [_,_,∀ c∈t4764.map (Z1 .i64),∀ x∈c,∃ v,x=Im.sc v,((t4764.map (Z1 .i64)).length:Int)=(t4764.length:Int),_] ⟨Tryz.call36,Z0n.ok (a0++[a1]) 0 t4764 e4765,by exact Z3i _ _ (fun _=>by simp),by rw[Zn],c4766,trivial⟩ ?_
        obtain rfl:=sj H
        exact lf [] [] [] (by kernel_rfl) ⟨rfl,rfl⟩
      ·obtain⟨x4769,rfl⟩:∃ z,z=o4774:=⟨_,rfl⟩
       rintro e s ⟨rfl,rfl⟩
       refine AWp.conv (inv:=[]) (vk:=[]) (e0:=[]) (t:=⟨[(4,bV x4769)],[],0⟩) (by kernel_rfl) ?_
       refine AWp.ret ?_
       obtain rfl:=sj H
       exact rl (.inl rfl) rfl (by kernel_rfl) (by kernel_rfl)
def Z1k.l0 (a0:List Zf) (x4782:Int):Option (Int ⊕ Unit):=if(decide (x4782<(a0.length:Int)))=true then((((at? a0 x4782)>>=fun b4788=>if(decide (b4788.f0<(0:Int)))=true then(some true) else(some (decide (b4788.f0>(1099511627776:Int))))):Option (Bool))>>=fun x4792=>if x4792=true then(some (.inl 4)) else((at? a0 x4782)>>=fun b4799=>(Zx.f b4799.f1)>>=fun t4802=>if(t4802 != (0:Int))=true then(some (.inl t4802)) else((chk (0≤(0:Int)∧(0:Int)≤x4782∧x4782≤(a0.length:Int)))>>=fun _=>(Z3f.f ((a0.drop (Int.toNat ((0:Int)))).take ((Int.toNat (x4782))-(Int.toNat ((0:Int))))) b4799)>>=fun t4809=>if(!t4809)=true then(some (.inl 6)) else(Z1k.l0 a0 (i64.wrap (x4782+(1:Int))))))) else(some (.inr ()))
partial_fixpoint
def Z1k.f (a0:List Zf):Option (Int):=if((a0.length:Int)==(0:Int))=true then(some 30) else((Z1k.l0 a0 0)>>=fun oo=>match oo with | .inl rr=>(some rr) | .inr _=>(some 0))
theorem Z1k.ok (a0:List Zf) (r:Int) (H:Z1k.f a0=some r):Pv.Fn Tryz.prog 8 [.im (.row (a0.map Z7))] [] 0 (fun x o=>x=iV .i64 r∧o=[]):=by
 unfold Z1k.f at H
 refine Fn.bodyK [] Tryz.func8 rfl rfl (fun Γ hP hn => ?_)
 have hm:Tryz.prog.follows .mixedOrders=true:=by kernel_rfl
 replace hn:Γ.n=46:=hn
 refine sO hP hn hm [] [] [0] [] [] ?_
 refine AWp.seq ?_
 refine sR hP hn hm [(1,.any (iV .i64 (a0.length:Int)))] [(7,bV ((a0.length:Int)==(0:Int)))] [0,7] [] [] [((a0.map Z7).length:Int)=(a0.length:Int)] ⟨by rw[Zn],trivial⟩ ?_
 refine AWp.cond ((a0.length:Int)==(0:Int)) (by kernel_rfl) (fun c3657 => ?_) (fun c3657 => ?_)
 ·replace H:=iT c3657 H
  refine sO hP hn hm [] [(2,iV .i64 30)] [2] [] [] ?_
  refine AWp.conv (inv:=[]) (vk:=[]) (e0:=[]) (t:=⟨[(2,iV .i64 30)],[],0⟩) (by kernel_rfl) ?_
  refine AWp.ret ?_
  obtain rfl:=sj H
  exact rl (.inl rfl) rfl (by kernel_rfl) (by kernel_rfl)
 ·replace H:=iF c3657 H
  refine AWp.skip ?_
  refine AWp.seq ?_
  refine sO hP hn hm [] [(3,iV .i64 0)] [0,3] [] [] ?_
  refine AWp.block ?_
  obtain⟨o4812,e4813,H⟩:=Z3 H
  refine AWp.loop (LWp.conv (inv:=[]) (vk:=[]) (e0:=[]) (t:=⟨[(0,.im (.row (a0.map Z7))),(3,iV .i64 0)],[],0⟩) (by kernel_rfl) ?_)
  refine LWp.mono (Q:=fun e s=>(match (generalizing:=false) o4812 with | .inl rr=>e = .ret∧s.floor=0∧Z2e Tryz.prog Tryz.f8 s=some (iV .i64 rr)∧([]:List (Nat×Option MObj))=[] | .inr _=>e = .exit 0∧s=⟨[],[],0⟩)) (LWp.cv (Zp (fun body hbody => ?_))) ?_
  ·refine         Z1k.l0.partial_correctness a0 (motive:=fun x4782 o4812=>LWp Γ body (fun e s=>∃ t,Cv Γ s t∧(match (generalizing:=false) o4812 with | .inl rr=>e = .ret∧t.floor=0∧Z2e   Tryz.prog Tryz.f8 t=some (iV .i64 rr)∧([]:List (Nat×Option MObj))=[] | .inr _=>e = .exit 0∧t=⟨[],[],0⟩)) ⟨[(0,.im (.row (a0.map Z7     ))),(3,iV .i64 x4782)],[],0⟩) ?_ _ _ e4813
   clear H e4813 o4812;intro self ih x4782 o4812 H
   subst hbody
   refine LWp.round ?_
   refine AWp.seq ?_
   refine sR hP hn hm [(2,.any (iV .i64 (a0.length:Int)))] [(11,bV (decide (x4782<(a0.length:Int))))] [0,3,11] [] [] [((a0.map Z7).length:Int)=(a0.length:Int)] ⟨by rw[Zn],trivial⟩ ?_
   refine AWp.cond (decide (x4782<(a0.length:Int))) (by kernel_rfl) (fun c4783 => ?_) (fun c4783 => ?_)
   ·replace H:=iT c4783 H
    refine AWp.skip ?_
    refine AWp.seq ?_
    refine AWp.block ?_
    refine AWp.seq ?_
    refine AWp.seq ?_
    obtain⟨o4814,e4815,H⟩:=Z3 H
    refine AWp.mono (Q:=fun e s=>(match (generalizing:=false) o4814 with | x4792=>e = .normal∧s=⟨[(0,.im (.row (a0.map Z7))),(3,iV .i64 x4782),(27,bV x4792)],[],0⟩)) (AWp.cv ?_) ?_
    ·replace H:=e4815;clear e4815
     obtain⟨b4788,p4789,q4790,H⟩:=Z06 H
     rcases Bool.eq_false_or_eq_true (decide (b4788.f0<(0:Int))) with c4791 | c4791
     ·replace H:=iT c4791 H
      refine rG hP hn hm [(2,.c (Z7 b4788)),(6,.b true)] [(27,bV true)] [0,3,27] [] [] [_,_,_] ⟨p4789,Zi Z7 q4790,c4791,trivial⟩ ?_
      obtain rfl:=sj H
      exact lf [] [] [] (by kernel_rfl) ⟨rfl,rfl⟩
     ·replace H:=iF c4791 H
      refine rG hP hn hm [(2,.c (Z7 b4788)),(6,.b false),(9,.c (Z7 b4788))] [(21,.im (.row (a0.map Z7))),(22,iV .i64 x4782),(23,.ip [iI .i64 b4788.f0,iI .i64 b4788.f1.f0,iI .i64 b4788.f1.f1,iI .i64 b4788.f1.f2,iI .u64 b4788.f1.f3,iI .u64 b4788.f1.f4,iI .i64 b4788.f1.f5,.row (b4788.f1.f6.map Z0),.row (b4788.f1.f7.map Z0)]),(24,.ip [iI .i64 b4788.f0,iI .i64 b4788.f1.f0,iI .i64 b4788.f1.f1,iI .i64 b4788.f1.f2,iI .u64 b4788.f1.f3,iI .u64 b4788.f1.f4,iI .i64 b4788.f1.f5,.row (b4788.f1.f6.map Z0),.row (b4788.f1.f7.map Z0)]),(25,iV .i64 b4788.f0),(26,bV (decide (b4788.f0>(1099511627776:Int)))),(27,bV (decide (b4788.f0>(1099511627776:Int))))] [0,3,21,22,23,24,25,26,27] [] [] [_,_,_,_,_] ⟨p4789,Zi Z7 q4790,c4791,p4789,Zi Z7 q4790,trivial⟩ ?_
      obtain rfl:=sj H
      exact lf [] [] [] (by kernel_rfl) ⟨rfl,rfl⟩
    ·obtain⟨x4792,rfl⟩:∃ z,z=o4814:=⟨_,rfl⟩
     rintro e s ⟨rfl,rfl⟩
     refine AWp.cond x4792 (by kernel_rfl) (fun c4793 => ?_) (fun c4793 => ?_)
     ·replace H:=iT c4793 H
      refine sO hP hn hm [] [(2,iV .i64 4)] [2] [] [] ?_
      refine AWp.conv (inv:=[]) (vk:=[]) (e0:=[]) (t:=⟨[(2,iV .i64 4)],[],0⟩) (by kernel_rfl) ?_
      refine AWp.ret ?_
      obtain rfl:=sj H
      exact rl rfl rfl (by kernel_rfl) (by kernel_rfl)
     ·replace H:=iF c4793 H
      refine AWp.skip ?_
      refine AWp.seq ?_
      obtain⟨b4799,p4800,q4801,H⟩:=Z06 H
      obtain⟨t4802,e4803,H⟩:=Z3 H
      refine sR hP hn hm [(2,.c (Z7 b4799)),(5,.call [] [] [] [] 0 (iV .i64 t4802) [])] [(4,iV .i64 t4802)] [0,3,4] [] [] [_,_,_,_] ⟨p4800,Zi Z7 q4801,Tryz.call14,Zx.ok b4799.f1 t4802 e4803,trivial⟩ ?_
      refine sO hP hn hm [] [(35,bV (t4802 != (0:Int)))] [0,3,4,35] [] [] ?_
      refine AWp.cond (t4802 != (0:Int)) (by kernel_rfl) (fun c4804 => ?_) (fun c4804 => ?_)
      ·replace H:=iT c4804 H
       refine sO hP hn hm [] [(2,iV .i64 t4802)] [2] [] [] ?_
       refine AWp.conv (inv:=[]) (vk:=[]) (e0:=[]) (t:=⟨[(2,iV .i64 t4802)],[],0⟩) (by kernel_rfl) ?_
       refine AWp.ret ?_
       obtain rfl:=sj H
       exact rl rfl rfl (by kernel_rfl) (by kernel_rfl)
      ·replace H:=iF c4804 H
       refine AWp.skip ?_
       obtain⟨c4808,H⟩:=Z0f H
       obtain⟨t4809,e4810,H⟩:=Z3 H
       refine sR hP hn hm [(2,.rows (((a0.drop (Int.toNat ((0:Int)))).take ((Int.toNat (x4782))-(Int.toNat ((0:Int))))).map Z7)),(5,.c (Z7 b4799)),(7,.call [] [] [] [] 0 (bV t4809) [])] [(45,bV (!t4809))] [0,3,45] [] [] [0≤(0:Int),(0:Int)≤x4782,x4782≤((a0.map Z7).length:Int),∀ c∈a0.map Z7,c.length=9,((a0.drop (Int.toNat ((0:Int)))).take ((Int.toNat (x4782))-(Int.toNat ((0:Int))))).map Z7=((a0.map Z7).drop (Int.toNat ((0:Int)))).take ((Int.toNat (x4782))-(Int.toNat ((0:Int)))),_,_,_,_] ⟨by exact c4808.1,by simpa using c4808.2.1,by simpa using c4808.2.2,by exact Z0z _ _ _ (fun _=>rfl),by simp[cut1],p4800,Zi Z7 q4801,Tryz.call16,Z3f.ok ((a0.drop (Int.toNat ((0:Int)))).take ((Int.toNat (x4782))-(Int.toNat ((0:Int))))) b4799 t4809 e4810,trivial⟩ ?_
       refine AWp.cond (!t4809) (by kernel_rfl) (fun c4811 => ?_) (fun c4811 => ?_)
       ·replace H:=iT c4811 H
        refine sO hP hn hm [] [(2,iV .i64 6)] [2] [] [] ?_
        refine AWp.conv (inv:=[]) (vk:=[]) (e0:=[]) (t:=⟨[(2,iV .i64 6)],[],0⟩) (by kernel_rfl) ?_
        refine AWp.ret ?_
        obtain rfl:=sj H
        exact rl rfl rfl (by kernel_rfl) (by kernel_rfl)
       ·replace H:=iF c4811 H
        refine AWp.skip ?_
        refine rO hP hn hm [] [(3,iV .i64 (i64.wrap (x4782+(1:Int))))] [0,3] [] [] ?_
        exact LWp.conv [] [] [] (by kernel_rfl) (ih _ _ H)
   ·replace H:=iF c4783 H
    refine AWp.exit ?_
    obtain rfl:=sj H
    exact lf [] [] [] (by kernel_rfl) ⟨rfl,rfl⟩
  ·rcases o4812 with rr | _
   ·skip
    rintro e s ⟨rfl,hfl,hres⟩
    obtain rfl:=sj H
    exact Exists.intro _ (And.intro (fun _ _ h=>h) (And.intro (.inl rfl) (And.intro hfl hres)))
   ·skip
    rintro e s ⟨rfl,rfl⟩
    refine sO hP hn hm [] [(2,iV .i64 0)] [2] [] [] ?_
    refine AWp.conv (inv:=[]) (vk:=[]) (e0:=[]) (t:=⟨[(2,iV .i64 0)],[],0⟩) (by kernel_rfl) ?_
    refine AWp.ret ?_
    obtain rfl:=sj H
    exact rl (.inl rfl) rfl (by kernel_rfl) (by kernel_rfl)
def Z20.l0 (a1:Int) (x4873:Int) (x4874:ByteArray) (x4875:Int):Option (ByteArray):=((if(decide (x4875<a1))=true then(some (decide (x4875<(64:Int)))) else(some false)):Option (Bool))>>=fun x4878=>if x4878=true then(((if((Int.tmod x4873 (2:Int))==(1:Int))=true then((chk ((((⟨#[49]⟩:ByteArray).size+x4874.size:Nat):Int)≤9223372036854775807))>>=fun _=>some ((⟨#[49]⟩:ByteArray)++x4874)) else((chk ((((⟨#[48]⟩:ByteArray).size+x4874.size:Nat):Int)≤9223372036854775807))>>=fun _=>some ((⟨#[48]⟩:ByteArray)++x4874))):Option (ByteArray))>>=fun x4885=>Z20.l0 a1 (u64.wrap (Int.tdiv x4873 (2:Int))) x4885 (i64.wrap (x4875+(1:Int)))) else(some x4874)
partial_fixpoint
def Z20.f (a0:Int) (a1:Int):Option (ByteArray):=(Z20.l0 a1 a0 (⟨#[]⟩:ByteArray) 0)>>=fun x4886=>some x4886
theorem Z20.ok (a0:Int) (a1:Int) (r:ByteArray) (H:Z20.f a0 a1=some r):Pv.Fn Tryz.prog 37 [iV .u64 a0,iV .i64 a1] [] 0 (fun x o=>x=sV r∧o=[]):=by
 unfold Z20.f at H
 refine Fn.bodyK [] Tryz.func37 rfl rfl (fun Γ hP hn => ?_)
 have hm:Tryz.prog.follows .mixedOrders=true:=by kernel_rfl
 replace hn:Γ.n=26:=hn
 refine sO hP hn hm [] [] [0,1] [] [] ?_
 refine sO hP hn hm [] [(5,sV (⟨#[]⟩:ByteArray))] [0,1,5] [] [] ?_
 refine AWp.seq ?_
 refine sO hP hn hm [] [(6,iV .i64 0)] [0,1,5,6] [] [] ?_
 refine AWp.block ?_
 obtain⟨o4887,e4888,H⟩:=Z3 H
 refine AWp.loop (LWp.conv (inv:=[]) (vk:=[]) (e0:=[]) (t:=⟨[(0,iV .u64 a0),(1,iV .i64 a1),(5,sV (⟨#[]⟩:ByteArray)),(6,iV .i64 0)],[],0⟩) (by kernel_rfl) ?_)
 refine LWp.mono (Q:=fun e s=>(match (generalizing:=false) o4887 with | x4886=>e = .exit 0∧s=⟨[(5,sV x4886)],[],0⟩)) (LWp.cv (Zp (fun body hbody => ?_))) ?_
 ·refine       Z20.l0.partial_correctness a1 (motive:=fun x4873 x4874 x4875 o4887=>LWp Γ body (fun e s=>∃ t,Cv Γ s t∧(match (generalizing:=false) o4887 with | x4886=>e = .exit 0∧t=⟨[(5,sV x4886)],[],0⟩)) ⟨[(0,iV .u64 x4873),(1,iV .i64 a1),(5,sV x4874),(6,iV .i64 x4875)],[],0⟩) ?_ _ _ _ _ e4888
  clear H e4888 o4887;intro self ih x4873 x4874 x4875 o4887 H
  subst hbody
  refine LWp.round ?_
  refine AWp.seq ?_
  refine AWp.seq ?_
  obtain⟨o4889,e4890,H⟩:=Z3 H
  refine AWp.mono (Q:=fun e s=>(match (generalizing:=false) o4889 with | x4878=>e = .normal∧s=⟨[(0,iV .u64 x4873),(1,iV .i64 a1),(5,sV x4874),(6,iV .i64 x4875),(13,bV x4878)],[],0⟩)) (AWp.cv ?_) ?_
  ·replace H:=e4890;clear e4890
   rcases Bool.eq_false_or_eq_true (decide (x4875<a1)) with c4877 | c4877
   ·replace H:=iT c4877 H
    refine rG hP hn hm [(3,.b true)] [(11,iV .i64 x4875),(12,bV (decide (x4875<(64:Int)))),(13,bV (decide (x4875<(64:Int))))] [0,1,5,6,11,12,13] [] [] [_] ⟨c4877,trivial⟩ ?_
    obtain rfl:=sj H
    exact lf [] [] [] (by kernel_rfl) ⟨rfl,rfl⟩
   ·replace H:=iF c4877 H
    refine rG hP hn hm [(3,.b false)] [(13,bV false)] [0,1,5,6,13] [] [] [_] ⟨c4877,trivial⟩ ?_
    obtain rfl:=sj H
    exact lf [] [] [] (by kernel_rfl) ⟨rfl,rfl⟩
  ·obtain⟨x4878,rfl⟩:∃ z,z=o4889:=⟨_,rfl⟩
   rintro e s ⟨rfl,rfl⟩
   refine AWp.cond x4878 (by kernel_rfl) (fun c4879 => ?_) (fun c4879 => ?_)
   ·replace H:=iT c4879 H
    refine AWp.skip ?_
    refine AWp.seq ?_
    refine AWp.block ?_
    refine AWp.seq ?_
    refine sR hP hn hm [] [(18,bV ((Int.tmod x4873 (2:Int))==(1:Int)))] [0,1,5,6,18] [] [] [(2:Int)≠0] ⟨by decide,trivial⟩ ?_
    obtain⟨o4891,e4892,H⟩:=Z3 H
    refine AWp.mono (Q:=fun e s=>(match (generalizing:=false) o4891 with | x4885=>e = .normal∧s=⟨[(0,iV .u64 x4873),(1,iV .i64 a1),(5,sV x4885),(6,iV .i64 x4875)],[],0⟩)) (AWp.cv ?_) ?_
    ·replace H:=e4892;clear e4892
     refine AWp.cond ((Int.tmod x4873 (2:Int))==(1:Int)) (by kernel_rfl) (fun c4880 => ?_) (fun c4880 => ?_)
     ·replace H:=iT c4880 H
      obtain⟨c4882,H⟩:=Z0f H
      refine rG hP hn hm [] [(5,sV ((⟨#[49]⟩:ByteArray)++x4874))] [0,1,5,6] [] [] [_] ⟨c4882,trivial⟩ ?_
      obtain rfl:=sj H
      exact lf [] [] [] (by kernel_rfl) ⟨rfl,rfl⟩
     ·replace H:=iF c4880 H
      obtain⟨c4884,H⟩:=Z0f H
      refine rG hP hn hm [] [(5,sV ((⟨#[48]⟩:ByteArray)++x4874))] [0,1,5,6] [] [] [_] ⟨c4884,trivial⟩ ?_
      obtain rfl:=sj H
      exact lf [] [] [] (by kernel_rfl) ⟨rfl,rfl⟩
    ·obtain⟨x4885,rfl⟩:∃ z,z=o4891:=⟨_,rfl⟩
     rintro e s ⟨rfl,rfl⟩
     refine rG hP hn hm [] [(0,iV .u64 (u64.wrap (Int.tdiv x4873 (2:Int))))] [0,1,5,6] [] [] [(2:Int)≠0] ⟨by decide,trivial⟩ ?_
     refine rO hP hn hm [] [(6,iV .i64 (i64.wrap (x4875+(1:Int))))] [0,1,5,6] [] [] ?_
     exact LWp.conv [] [] [] (by kernel_rfl) (ih _ _ _ _ H)
   ·replace H:=iF c4879 H
    refine AWp.exit ?_
    obtain rfl:=sj H
    exact lf [] [] [] (by kernel_rfl) ⟨rfl,rfl⟩
 ·obtain⟨x4886,rfl⟩:∃ z,z=o4887:=⟨_,rfl⟩
  rintro e s ⟨rfl,rfl⟩
  refine sO hP hn hm [] [(4,sV x4886)] [4] [] [] ?_
  refine AWp.conv (inv:=[]) (vk:=[]) (e0:=[]) (t:=⟨[(4,sV x4886)],[],0⟩) (by kernel_rfl) ?_
  refine AWp.ret ?_
  obtain rfl:=sj H
  exact rl (.inl rfl) rfl (by kernel_rfl) (by kernel_rfl)
def Z4y.f (a0:Int):Option (Int):=if(decide (a0≥(0:Int)))=true then(some (u64.wrap ((u64.wrap (a0))*(2:Int)))) else(some (u64.wrap ((u64.wrap ((u64.wrap (i64.wrap (0-(i64.wrap (a0+(1:Int))))))*(2:Int)))+(1:Int))))
theorem Z4y.ok (a0:Int) (r:Int) (H:Z4y.f a0=some r):Pv.Fn Tryz.prog 76 [iV .i64 a0] [] 0 (fun x o=>x=iV .u64 r∧o=[]):=by
 unfold Z4y.f at H
 refine Fn.bodyK [] Tryz.func76 rfl rfl (fun Γ hP hn => ?_)
 have hm:Tryz.prog.follows .mixedOrders=true:=by kernel_rfl
 replace hn:Γ.n=14:=hn
 refine sO hP hn hm [] [] [0] [] [] ?_
 refine AWp.seq ?_
 refine sO hP hn hm [] [(4,bV (decide (a0≥(0:Int))))] [0,4] [] [] ?_
 refine AWp.cond (decide (a0≥(0:Int))) (by kernel_rfl) (fun c4898 => ?_) (fun c4898 => ?_)
 ·replace H:=iT c4898 H
  refine sO hP hn hm [] [(2,iV .u64 (u64.wrap ((u64.wrap (a0))*(2:Int))))] [2] [] [] ?_
  refine AWp.conv (inv:=[]) (vk:=[]) (e0:=[]) (t:=⟨[(2,iV .u64 (u64.wrap ((u64.wrap (a0))*(2:Int))))],[],0⟩) (by kernel_rfl) ?_
  refine AWp.ret ?_
  obtain rfl:=sj H
  exact rl (.inl rfl) rfl (by kernel_rfl) (by kernel_rfl)
 ·replace H:=iF c4898 H
  refine AWp.skip ?_
  refine sO hP hn hm [] [(2,iV .u64 (u64.wrap ((u64.wrap ((u64.wrap (i64.wrap (0-(i64.wrap (a0+(1:Int))))))*(2:Int)))+(1:Int))))] [2] [] [] ?_
  refine AWp.conv (inv:=[]) (vk:=[]) (e0:=[]) (t:=⟨[(2,iV .u64 (u64.wrap ((u64.wrap ((u64.wrap (i64.wrap (0-(i64.wrap (a0+(1:Int))))))*(2:Int)))+(1:Int))))],[],0⟩) (by kernel_rfl) ?_
  refine AWp.ret ?_
  obtain rfl:=sj H
  exact rl (.inl rfl) rfl (by kernel_rfl) (by kernel_rfl)
def Z11.l0 (x4902:Int) (x4903:Int):Option (Int):=if(decide (x4902>(0:Int)))=true then(Z11.l0  (u64.wrap (Int.tdiv x4902 (2:Int))) (i64.wrap (x4903+(1:Int)))) else(some x4903)
partial_fixpoint
def Z11.l1 (x4905:Int) (x4913:Int):Option (Int):=(at? [0,3,7,12,20,32,64] x4913)>>=fun b4917=>if(decide (b4917<x4905))=true then(Z11.l1 x4905 (i64.wrap (x4913+(1:Int)))) else(some x4913)
partial_fixpoint
def Z11.f (a0:Int):Option (Int×Int):=(Z11.l0  a0 0)>>=fun x4905=>(Z11.l1 x4905 0)>>=fun x4921=>(at? [0,3,7,12,20,32,64] x4921)>>=fun b4925=>some (x4921,b4925)
theorem Z11.ok (a0:Int) (r:Int×Int) (H:Z11.f a0=some r):Pv.Fn Tryz.prog 77 [iV .u64 a0] [] 0 (fun x o=>x = .tup [iV .i64 r.1,iV .i64 r.2]∧o=[]):=by
 unfold Z11.f at H
 refine Fn.bodyK [] Tryz.func77 rfl rfl (fun Γ hP hn => ?_)
 have hm:Tryz.prog.follows .mixedOrders=true:=by kernel_rfl
 replace hn:Γ.n=27:=hn
 refine sO hP hn hm [] [] [0] [] [] ?_
 refine sO hP hn hm [] [(4,iV .i64 0)] [0,4] [] [] ?_
 refine AWp.seq ?_
 refine AWp.block ?_
 obtain⟨o4928,e4929,H⟩:=Z3 H
 refine AWp.loop (LWp.conv (inv:=[]) (vk:=[]) (e0:=[]) (t:=⟨[(0,iV .u64 a0),(4,iV .i64 0)],[],0⟩) (by kernel_rfl) ?_)
 refine LWp.mono (Q:=fun e s=>(match (generalizing:=false) o4928 with | x4905=>e = .exit 0∧s=⟨[(4,iV .i64 x4905)],[],0⟩)) (LWp.cv (Zp (fun body hbody => ?_))) ?_
 ·refine         Z11.l0.partial_correctness  (motive:=fun x4902 x4903 o4928=>LWp Γ body (fun e s=>∃ t,Cv Γ s t∧(match (generalizing:=false) o4928 with | x4905=>e = .exit 0∧t=⟨[(4,iV .i64 x4905)],[],0⟩)) ⟨[(0,iV .u64 x4902),(4,iV .i64 x4903)],[],0⟩) ?_ _ _ _ e4929
  clear H e4929 o4928;intro self ih x4902 x4903 o4928 H
  subst hbody
  refine LWp.round ?_
  refine AWp.seq ?_
  refine sO hP hn hm [] [(8,bV (decide (x4902>(0:Int))))] [0,4,8] [] [] ?_
  refine AWp.cond (decide (x4902>(0:Int))) (by kernel_rfl) (fun c4904 => ?_) (fun c4904 => ?_)
  ·replace H:=iT c4904 H
   refine AWp.skip ?_
   refine AWp.block ?_
   refine sR hP hn hm [] [(0,iV .u64 (u64.wrap (Int.tdiv x4902 (2:Int))))] [0,4] [] [] [(2:Int)≠0] ⟨by decide,trivial⟩ ?_
   refine rO hP hn hm [] [(4,iV .i64 (i64.wrap (x4903+(1:Int))))] [0,4] [] [] ?_
   exact LWp.conv [] [] [] (by kernel_rfl) (ih _ _ _ H)
  ·replace H:=iF c4904 H
   refine AWp.exit ?_
   obtain rfl:=sj H
   exact lf [] [] [] (by kernel_rfl) ⟨rfl,rfl⟩
 ·obtain⟨x4905,rfl⟩:∃ z,z=o4928:=⟨_,rfl⟩
  rintro e s ⟨rfl,rfl⟩
  refine sR hP hn hm [(0,.app 0 ([0,3,7,12,20,32,64].map (Z1 .i64)))] [(5,.own 0)] [4,5] [(0,some (.row 1 3 ([0,3,7,12,20,32,64].map (Z1 .i64))))] [0] [[0,3,7,12,20,32,64].map (Z1 .i64)=[[iI .i64 0],[iI .i64 3],[iI .i64 7],[iI .i64 12],[iI .i64 20],[iI .i64 32],[iI .i64 64]]] ⟨by exact rfl,trivial⟩ ?_
  refine sO hP hn hm [] [(6,iV .i64 0)] [4,5,6] [] [0] ?_
  refine AWp.seq ?_
  refine AWp.block ?_
  obtain⟨o4930,e4931,H⟩:=Z3 H
  refine AWp.loop (LWp.conv (inv:=[(0,1)]) (vk:=[]) (e0:=[]) (t:=⟨[(4,iV .i64 x4905),(5,.own 1),(6,iV .i64 0)],[(1,some (.row 1 3 ([0,3,7,12,20,32,64].map (Z1 .i64))))],0⟩) (by kernel_rfl) ?_)
  refine LWp.mono (Q:=fun e s=>(match (generalizing:=false) o4930 with | x4921=>e = .exit 2∧s=⟨[(5,.own 2),(6,iV .i64 x4921)],[(2,some (.row 1 3 ([0,3,7,12,20,32,64].map (Z1 .i64))))],0⟩)) (LWp.cv (Zp (fun body hbody => ?_))) ?_
  ·refine         Z11.l1.partial_correctness x4905 (motive:=fun x4913 o4930=>LWp Γ body (fun e s=>∃ t,Cv Γ s t∧(match (generalizing:=false) o4930 with | x4921=>e = .exit 2∧t=⟨[(5,.own 2),(6,iV .i64 x4921)],[(2,some (.row 1 3 ([0,3,7,12,20,32,64].map (Z1     .i64))))],0⟩)) ⟨[(4,iV .i64 x4905),(5,.own 1),(6,iV .i64 x4913)],[(1,some (.row 1 3 ([0,3,7,12,20,32,64].map (Z1     .i64))))],0⟩) ?_ _ _ e4931
   clear H e4931 o4930;intro self ih x4913 o4930 H
   subst hbody
   refine LWp.round ?_
   refine AWp.seq ?_
   obtain⟨b4917,p4918,q4919,H⟩:=Z06 H
   refine sR hP hn hm [(3,.c ((Z1 .i64) b4917))] [(19,bV (decide (b4917<x4905)))] [4,5,6,19] [] [1] [_,_,_] ⟨p4918,Z1p (Z1 .i64) p4918 q4919,Zi (Z1 .i64) q4919,trivial⟩ ?_
   refine AWp.cond (decide (b4917<x4905)) (by kernel_rfl) (fun c4920 => ?_) (fun c4920 => ?_)
   ·replace H:=iT c4920 H
    refine AWp.skip ?_
    refine AWp.block ?_
    refine rO hP hn hm [] [(6,iV .i64 (i64.wrap (x4913+(1:Int))))] [4,5,6] [] [1] ?_
    exact LWp.conv [(1,1)] [] [] (by kernel_rfl) (ih _ _ H)
   ·replace H:=iF c4920 H
    refine AWp.exit ?_
    obtain rfl:=sj H
    exact lf [(1,2)] [] [] (by kernel_rfl) ⟨rfl,rfl⟩
  ·obtain⟨x4921,rfl⟩:∃ z,z=o4930:=⟨_,rfl⟩
   rintro e s ⟨rfl,rfl⟩
   obtain⟨b4925,p4926,q4927,H⟩:=Z06 H
   refine sR hP hn hm [(4,.c ((Z1 .i64) b4925))] [(2,iV .i64 x4921),(3,iV .i64 b4925)] [2,3] [] [] [_,_,_] ⟨p4926,Z1p (Z1 .i64) p4926 q4927,Zi (Z1 .i64) q4927,trivial⟩ ?_
   refine AWp.conv (inv:=[]) (vk:=[]) (e0:=[]) (t:=⟨[(2,iV .i64 x4921),(3,iV .i64 b4925)],[],0⟩) (by kernel_rfl) ?_
   refine AWp.ret ?_
   obtain rfl:=sj H
   exact rl (.inl rfl) rfl (by kernel_rfl) (by kernel_rfl)
def Z0b.l0 (a0:Int) (t4934:Int×Int) (x4939:ByteArray) (x4940:Int):Option (ByteArray):=if(decide (x4940<t4934.1))=true then((chk (((x4939.size+(⟨#[49]⟩:ByteArray).size:Nat):Int)≤9223372036854775807))>>=fun _=>Z0b.l0 a0 t4934 (x4939++(⟨#[49]⟩:ByteArray)) (i64.wrap (x4940+(1:Int)))) else(some x4939)
partial_fixpoint
def Z0b.f (a0:Int):Option (ByteArray):=(Z11.f a0)>>=fun t4934=>(Z0b.l0 a0 t4934 (⟨#[]⟩:ByteArray) 0)>>=fun x4944=>((if(decide (t4934.1<(6:Int)))=true then((chk (((x4944.size+(⟨#[48]⟩:ByteArray).size:Nat):Int)≤9223372036854775807))>>=fun _=>some (x4944++(⟨#[48]⟩:ByteArray))) else(some x4944)):Option (ByteArray))>>=fun x4948=>(Z20.f a0 t4934.2)>>=fun t4952=>(chk (((x4948.size+t4952.size:Nat):Int)≤9223372036854775807))>>=fun _=>some (x4948++t4952)
theorem Z0b.ok (a0:Int) (r:ByteArray) (H:Z0b.f a0=some r):Pv.Fn Tryz.prog 41 [iV .u64 a0] [] 0 (fun x o=>x=sV r∧o=[]):=by
 unfold Z0b.f at H
 refine Fn.bodyK [] Tryz.func41 rfl rfl (fun Γ hP hn => ?_)
 have hm:Tryz.prog.follows .mixedOrders=true:=by kernel_rfl
 replace hn:Γ.n=28:=hn
 refine sO hP hn hm [] [] [0] [] [] ?_
 obtain⟨t4934,e4935,H⟩:=Z3 H
 refine sR hP hn hm [(1,.call [] [] [] [] 0 (.tup [iV .i64 t4934.1,iV .i64 t4934.2]) [])] [(3,iV .i64 t4934.1),(4,iV .i64 t4934.2)] [0,3,4] [] [] [_,_] ⟨Tryz.call77,Z11.ok a0 t4934 e4935,trivial⟩ ?_
 refine sO hP hn hm [] [(5,sV (⟨#[]⟩:ByteArray))] [0,3,4,5] [] [] ?_
 refine AWp.seq ?_
 refine sO hP hn hm [] [(6,iV .i64 0)] [0,3,4,5,6] [] [] ?_
 refine AWp.block ?_
 obtain⟨o4955,e4956,H⟩:=Z3 H
 refine AWp.loop (LWp.conv (inv:=[]) (vk:=[]) (e0:=[]) (t:=⟨[(0,iV .u64 a0),(3,iV .i64 t4934.1),(4,iV .i64 t4934.2),(5,sV (⟨#[]⟩:ByteArray)),(6,iV .i64 0)],[],0⟩) (by kernel_rfl) ?_)
 refine LWp.mono (Q:=fun e s=>(match (generalizing:=false) o4955 with | x4944=>e = .exit 0∧s=⟨[(0,iV .u64 a0),(3,iV .i64 t4934.1),(4,iV .i64 t4934.2),(5,sV x4944)],[],0⟩)) (LWp.cv (Zp (fun body hbody => ?_))) ?_
 ·refine         Z0b.l0.partial_correctness a0 t4934 (motive:=fun x4939 x4940 o4955=>LWp Γ body (fun e s=>∃ t,Cv Γ s t∧(match (generalizing:=false) o4955 with | x4944=>e = .exit 0∧t=⟨[(0,iV .u64 a0),(3,iV .i64 t4934.1),(4,iV .i64 t4934.2),(5,sV x4944)],[],0⟩)) ⟨[(0,iV .u64 a0),(3,iV .i64 t4934.1),(4,iV .i64 t4934.2),(5,sV x4939),(6,iV .i64 x4940)],[],0⟩) ?_ _ _ _ e4956
  clear H e4956 o4955;intro self ih x4939 x4940 o4955 H
  subst hbody
  refine LWp.round ?_
  refine AWp.seq ?_
  refine sO hP hn hm [] [(14,bV (decide (x4940<t4934.1)))] [0,3,4,5,6,14] [] [] ?_
  refine AWp.cond (decide (x4940<t4934.1)) (by kernel_rfl) (fun c4941 => ?_) (fun c4941 => ?_)
  ·replace H:=iT c4941 H
   refine AWp.skip ?_
   refine AWp.seq ?_
   refine AWp.block ?_
   obtain⟨c4943,H⟩:=Z0f H
   refine rG hP hn hm [] [(5,sV (x4939++(⟨#[49]⟩:ByteArray)))] [0,3,4,5,6] [] [] [_] ⟨c4943,trivial⟩ ?_
   refine rO hP hn hm [] [(6,iV .i64 (i64.wrap (x4940+(1:Int))))] [0,3,4,5,6] [] [] ?_
   exact LWp.conv [] [] [] (by kernel_rfl) (ih _ _ _ H)
  ·replace H:=iF c4941 H
   refine AWp.exit ?_
   obtain rfl:=sj H
   exact lf [] [] [] (by kernel_rfl) ⟨rfl,rfl⟩
 ·obtain⟨x4944,rfl⟩:∃ z,z=o4955:=⟨_,rfl⟩
  rintro e s ⟨rfl,rfl⟩
  refine AWp.seq ?_
  refine sO hP hn hm [] [(20,bV (decide (t4934.1<(6:Int))))] [0,4,5,20] [] [] ?_
  obtain⟨o4957,e4958,H⟩:=Z3 H
  refine AWp.mono (Q:=fun e s=>(match (generalizing:=false) o4957 with | x4948=>e = .normal∧s=⟨[(0,iV .u64 a0),(4,iV .i64 t4934.2),(5,sV x4948)],[],0⟩)) (AWp.cv ?_) ?_
  ·replace H:=e4958;clear e4958
   refine AWp.cond (decide (t4934.1<(6:Int))) (by kernel_rfl) (fun c4945 => ?_) (fun c4945 => ?_)
   ·replace H:=iT c4945 H
    obtain⟨c4947,H⟩:=Z0f H
    refine rG hP hn hm [] [(5,sV (x4944++(⟨#[48]⟩:ByteArray)))] [0,4,5] [] [] [_] ⟨c4947,trivial⟩ ?_
    obtain rfl:=sj H
    exact lf [] [] [] (by kernel_rfl) ⟨rfl,rfl⟩
   ·replace H:=iF c4945 H
    refine AWp.skip ?_
    obtain rfl:=sj H
    exact lf [] [] [] (by kernel_rfl) ⟨rfl,rfl⟩
  ·obtain⟨x4948,rfl⟩:∃ z,z=o4957:=⟨_,rfl⟩
   rintro e s ⟨rfl,rfl⟩
   obtain⟨t4952,e4953,H⟩:=Z3 H
   obtain⟨c4954,H⟩:=Z0f H
   refine sR hP hn hm [(3,.call [] [] [] [] 0 (sV t4952) [])] [(2,sV (x4948++t4952))] [2] [] [] [_,_,_] ⟨Tryz.call37,Z20.ok a0 t4934.2 t4952 e4953,c4954,trivial⟩ ?_
   refine AWp.conv (inv:=[]) (vk:=[]) (e0:=[]) (t:=⟨[(2,sV (x4948++t4952))],[],0⟩) (by kernel_rfl) ?_
   refine AWp.ret ?_
   obtain rfl:=sj H
   exact rl (.inl rfl) rfl (by kernel_rfl) (by kernel_rfl)
def Z30.f (a0:Int):Option (ByteArray):=(Z4y.f a0)>>=fun t4961=>(Z0b.f t4961)>>=fun t4963=>some t4963
theorem Z30.ok (a0:Int) (r:ByteArray) (H:Z30.f a0=some r):Pv.Fn Tryz.prog 38 [iV .i64 a0] [] 0 (fun x o=>x=sV r∧o=[]):=by
 unfold Z30.f at H
 refine Fn.bodyK [] Tryz.func38 rfl rfl (fun Γ hP hn => ?_)
 have hm:Tryz.prog.follows .mixedOrders=true:=by kernel_rfl
 replace hn:Γ.n=6:=hn
 refine sO hP hn hm [] [] [0] [] [] ?_
 obtain⟨t4961,e4962,H⟩:=Z3 H
 obtain⟨t4963,e4964,H⟩:=Z3 H
 refine sR hP hn hm [(1,.call [] [] [] [] 0 (iV .u64 t4961) []),(2,.call [] [] [] [] 0 (sV t4963) [])] [(2,sV t4963)] [2] [] [] [_,_,_,_] ⟨Tryz.call76,Z4y.ok a0 t4961 e4962,Tryz.call41,Z0b.ok t4961 t4963 e4964,trivial⟩ ?_
 refine AWp.conv (inv:=[]) (vk:=[]) (e0:=[]) (t:=⟨[(2,sV t4963)],[],0⟩) (by kernel_rfl) ?_
 refine AWp.ret ?_
 obtain rfl:=sj H
 exact rl (.inl rfl) rfl (by kernel_rfl) (by kernel_rfl)
def Z1w.l1 (a0:List Int) (x5014:List Z15) (x5015:Int) (x5033:Int):Option (Int):=((if(decide ((i64.wrap (x5015+x5033))<(a0.length:Int)))=true then((at? a0 (i64.wrap (x5015+x5033)))>>=fun b5042=>(at? a0 x5015)>>=fun b5045=>some (b5042==(i64.wrap (b5045+x5033)))) else(some false)):Option (Bool))>>=fun x5048=>if x5048=true then(Z1w.l1 a0 x5014 x5015 (i64.wrap (x5033+(1:Int)))) else(some x5033)
partial_fixpoint
def Z1w.l0 (a0:List Int) (x5014:List Z15) (x5015:Int):Option (List Z15):=if(decide (x5015<(a0.length:Int)))=true then((Z1w.l1 a0 x5014 x5015 1)>>=fun x5050=>((if(decide (x5015>(0:Int)))=true then((at? a0 x5015)>>=fun b5058=>(at? a0 (i64.wrap (x5015-(1:Int))))>>=fun b5061=>some (i64.wrap ((i64.wrap (b5058-b5061))-(1:Int)))) else(some 0)):Option (Int))>>=fun x5064=>(chk ((x5014.length+[(⟨x5064,x5050⟩:Z15)].length)*16≤140737488355328))>>=fun _=>Z1w.l0 a0 (x5014++[(⟨x5064,x5050⟩:Z15)]) (i64.wrap (x5015+x5050))) else(some x5014)
partial_fixpoint
def Z1w.f (a0:List Int):Option (Int×(List Z15)):=if((a0.length:Int)==(0:Int))=true then(some (0,[])) else((Z1w.l0 a0 [] 0)>>=fun x5067=>(at? a0 0)>>=fun b5071=>some (b5071,x5067))
theorem Z1w.ok (a0:List Int) (r:Int×(List Z15)) (H:Z1w.f a0=some r):Pv.Fn Tryz.prog 39 [.im (.row (a0.map (Z1 .i64)))] [] 0 (fun x o=>x = .tup [iV .i64 r.1,.own 0]∧o=[(0,some (.row 2 99 (r.2.map Zy)))]):=by
 unfold Z1w.f at H
 refine Fn.bodyK [0] Tryz.func39 rfl rfl (fun Γ hP hn => ?_)
 have hm:Tryz.prog.follows .mixedOrders=true:=by kernel_rfl
 replace hn:Γ.n=64:=hn
 refine sO hP hn hm [] [] [0] [] [] ?_
 refine sO hP hn hm [] [(4,.none0)] [0,4] [] [] ?_
 refine AWp.seq ?_
 refine sR hP hn hm [(1,.any (iV .i64 (a0.length:Int)))] [(10,bV ((a0.length:Int)==(0:Int)))] [0,4,10] [] [] [((a0.map (Z1 .i64)).length:Int)=(a0.length:Int)] ⟨by rw[Zn],trivial⟩ ?_
 refine AWp.cond ((a0.length:Int)==(0:Int)) (by kernel_rfl) (fun c4976 => ?_) (fun c4976 => ?_)
 ·replace H:=iT c4976 H
  refine sO hP hn hm [] [(2,iV .i64 0),(3,.none0)] [2,3] [] [] ?_
  refine AWp.conv (inv:=[]) (vk:=[]) (e0:=[0]) (t:=⟨[(2,iV .i64 0),(3,.own 0)],[(0,some (.row 2 99 ([].map Zy)))],0⟩) (by kernel_rfl) ?_
  refine AWp.ret ?_
  obtain rfl:=sj H
  exact rl (.inl rfl) rfl (by kernel_rfl) (by kernel_rfl)
 ·replace H:=iF c4976 H
  refine AWp.skip ?_
  refine AWp.seq ?_
  refine sO hP hn hm [] [(5,iV .i64 0)] [0,4,5] [] [] ?_
  refine AWp.block ?_
  obtain⟨o5074,e5075,H⟩:=Z3 H
  refine AWp.loop (LWp.conv (inv:=[]) (vk:=[]) (e0:=[2]) (t:=⟨[(0,.im (.row (a0.map (Z1 .i64)))),(4,.own 2),(5,iV .i64 0)],[(2,some (.row 2 99 ([].map Zy)))],0⟩) (by kernel_rfl) ?_)
  refine LWp.mono (Q:=fun e s=>(match (generalizing:=false) o5074 with | x5067=>e = .exit 0∧s=⟨[(0,.im (.row (a0.map (Z1 .i64)))),(4,.own 10)],[(10,some (.row 2 99 (x5067.map Zy)))],0⟩)) (LWp.cv (Zp (fun body hbody => ?_))) ?_
  ·refine      Z1w.l0.partial_correctness a0 (motive:=fun x5014 x5015 o5074=>LWp Γ body (fun e s=>∃ t,Cv Γ s t∧(match (generalizing:=false) o5074 with | x5067=>e = .exit 0∧t=⟨[(0,.im (.row (a0.map (Z1     .i64)))),(4,.own 10)],[(10,some (.row 2 99 (x5067.map Zy   )))],0⟩)) ⟨[(0,.im (.row (a0.map (Z1     .i64)))),(4,.own 2),(5,iV .i64 x5015)],[(2,some (.row 2 99 (x5014.map Zy   )))],0⟩) ?_ _ _ _ e5075
   clear H e5075 o5074;intro self ih x5014 x5015 o5074 H
   subst hbody
   refine LWp.round ?_
   refine AWp.seq ?_
   refine sR hP hn hm [(2,.any (iV .i64 (a0.length:Int)))] [(14,bV (decide (x5015<(a0.length:Int))))] [0,4,5,14] [] [2] [((a0.map (Z1 .i64)).length:Int)=(a0.length:Int)] ⟨by rw[Zn],trivial⟩ ?_
   refine AWp.cond (decide (x5015<(a0.length:Int))) (by kernel_rfl) (fun c5016 => ?_) (fun c5016 => ?_)
   ·replace H:=iT c5016 H
    refine AWp.skip ?_
    refine AWp.block ?_
    refine sO hP hn hm [] [(6,iV .i64 1)] [0,4,5,6] [] [2] ?_
    refine AWp.seq ?_
    refine AWp.block ?_
    obtain⟨o5076,e5077,H⟩:=Z3 H
    refine AWp.loop (LWp.conv (inv:=[(2,4)]) (vk:=[]) (e0:=[]) (t:=⟨[(0,.im (.row (a0.map (Z1 .i64)))),(4,.own 4),(5,iV .i64 x5015),(6,iV .i64 1)],[(4,some (.row 2 99 (x5014.map Zy)))],0⟩) (by kernel_rfl) ?_)
    refine LWp.mono (Q:=fun e s=>(match (generalizing:=false) o5076 with | x5050=>e = .exit 2∧s=⟨[(0,.im (.row (a0.map (Z1 .i64)))),(4,.own 6),(5,iV .i64 x5015),(6,iV .i64 x5050)],[(6,some (.row 2 99 (x5014.map Zy)))],0⟩)) (LWp.cv (Zp (fun body hbody => ?_))) ?_
    ·refine      Z1w.l1.partial_correctness a0 x5014 x5015 (motive:=fun x5033 o5076=>LWp Γ body (fun e s=>∃ t,Cv Γ s t∧(match (generalizing:=false) o5076 with | x5050=>e = .exit 2∧t=⟨[(0,.im (.row (a0.map (Z1     .i64)))),(4,.own 6),(5,iV .i64 x5015),(6,iV .i64 x5050)],[(6,some (.row 2 99 (x5014.map Zy   )))],0⟩)) ⟨[(0,.im (.row (a0.map (Z1     .i64)))),(4,.own 4),(5,iV .i64 x5015),(6,iV .i64 x5033)],[(4,some (.row 2 99 (x5014.map Zy   )))],0⟩) ?_ _ _ e5077
     clear H e5077 o5076;intro self ih x5033 o5076 H
     subst hbody
     refine LWp.round ?_
     refine AWp.seq ?_
     refine AWp.seq ?_
     obtain⟨o5078,e5079,H⟩:=Z3 H
     refine AWp.mono (Q:=fun e s=>(match (generalizing:=false) o5078 with | x5048=>e = .normal∧s=⟨[(0,.im (.row (a0.map (Z1 .i64)))),(4,.own 5),(5,iV .i64 x5015),(6,iV .i64 x5033),(35,bV x5048)],[(5,some (.row 2 99 (x5014.map Zy)))],0⟩)) (AWp.cv ?_) ?_
     ·replace H:=e5079;clear e5079
      rcases Bool.eq_false_or_eq_true (decide ((i64.wrap (x5015+x5033))<(a0.length:Int))) with c5041 | c5041
      ·replace H:=iT c5041 H
       obtain⟨b5042,p5043,q5044,H⟩:=Z06 H
       obtain⟨b5045,p5046,q5047,H⟩:=Z06 H
       refine rG hP hn hm [(4,.any (iV .i64 (a0.length:Int))),(6,.b true),(11,.c ((Z1 .i64) b5042)),(15,.c ((Z1 .i64) b5045))] [(22,.im (.row (a0.map (Z1 .i64)))),(23,iV .i64 x5015),(24,iV .i64 x5033),(25,iV .i64 (i64.wrap (x5015+x5033))),(26,.ip [iI .i64 b5042]),(27,iV .i64 b5042),(28,.im (.row (a0.map (Z1 .i64)))),(29,iV .i64 x5015),(30,.ip [iI .i64 b5045]),(31,iV .i64 b5045),(32,iV .i64 x5033),(33,iV .i64 (i64.wrap (b5045+x5033))),(34,bV (b5042==(i64.wrap (b5045+x5033)))),(35,bV (b5042==(i64.wrap (b5045+x5033))))] [0,4,5,6,22,23,24,25,26,27,28,29,30,31,32,33,34,35] [] [4] [((a0.map (Z1 .i64)).length:Int)=(a0.length:Int),_,_,_,_,_] ⟨by rw[Zn],c5041,p5043,Zi (Z1 .i64) q5044,p5046,Zi (Z1 .i64) q5047,trivial⟩ ?_
       obtain rfl:=sj H
       exact lf [(4,5)] [] [] (by kernel_rfl) ⟨rfl,rfl⟩
      ·replace H:=iF c5041 H
       refine rG hP hn hm [(4,.any (iV .i64 (a0.length:Int))),(6,.b false)] [(35,bV false)] [0,4,5,6,35] [] [4] [((a0.map (Z1 .i64)).length:Int)=(a0.length:Int),_] ⟨by rw[Zn],c5041,trivial⟩ ?_
       obtain rfl:=sj H
       exact lf [(4,5)] [] [] (by kernel_rfl) ⟨rfl,rfl⟩
     ·obtain⟨x5048,rfl⟩:∃ z,z=o5078:=⟨_,rfl⟩
      rintro e s ⟨rfl,rfl⟩
      refine AWp.cond x5048 (by kernel_rfl) (fun c5049 => ?_) (fun c5049 => ?_)
      ·replace H:=iT c5049 H
       refine AWp.skip ?_
       refine AWp.block ?_
       refine rO hP hn hm [] [(6,iV .i64 (i64.wrap (x5033+(1:Int))))] [0,4,5,6] [] [5] ?_
       exact LWp.conv [(5,4)] [] [] (by kernel_rfl) (ih _ _ H)
      ·replace H:=iF c5049 H
       refine AWp.exit ?_
       obtain rfl:=sj H
       exact lf [(5,6)] [] [] (by kernel_rfl) ⟨rfl,rfl⟩
    ·obtain⟨x5050,rfl⟩:∃ z,z=o5076:=⟨_,rfl⟩
     rintro e s ⟨rfl,rfl⟩
     refine sO hP hn hm [] [(7,iV .i64 0)] [0,4,5,6,7] [] [6] ?_
     refine AWp.seq ?_
     refine sO hP hn hm [] [(39,bV (decide (x5015>(0:Int))))] [0,4,5,6,7,39] [] [6] ?_
     obtain⟨o5080,e5081,H⟩:=Z3 H
     refine AWp.mono (Q:=fun e s=>(match (generalizing:=false) o5080 with | x5064=>e = .normal∧s=⟨[(0,.im (.row (a0.map (Z1 .i64)))),(4,.own 7),(5,iV .i64 x5015),(6,iV .i64 x5050),(7,iV .i64 x5064)],[(7,some (.row 2 99 (x5014.map Zy)))],0⟩)) (AWp.cv ?_) ?_
     ·replace H:=e5081;clear e5081
      refine AWp.cond (decide (x5015>(0:Int))) (by kernel_rfl) (fun c5051 => ?_) (fun c5051 => ?_)
      ·replace H:=iT c5051 H
       obtain⟨b5058,p5059,q5060,H⟩:=Z06 H
       obtain⟨b5061,p5062,q5063,H⟩:=Z06 H
       refine rG hP hn hm [(2,.c ((Z1 .i64) b5058)),(7,.c ((Z1 .i64) b5061))] [(7,iV .i64 (i64.wrap ((i64.wrap (b5058-b5061))-(1:Int))))] [0,4,5,6,7] [] [6] [_,_,_,_] ⟨p5059,Zi (Z1 .i64) q5060,p5062,Zi (Z1 .i64) q5063,trivial⟩ ?_
       obtain rfl:=sj H
       exact lf [(6,7)] [] [] (by kernel_rfl) ⟨rfl,rfl⟩
      ·replace H:=iF c5051 H
       refine AWp.skip ?_
       obtain rfl:=sj H
       exact lf [(6,7)] [] [] (by kernel_rfl) ⟨rfl,rfl⟩
     ·obtain⟨x5064,rfl⟩:∃ z,z=o5080:=⟨_,rfl⟩
      rintro e s ⟨rfl,rfl⟩
      obtain⟨c5066,H⟩:=Z0f H
      refine sR hP hn hm [(4,.app 8 ([(⟨x5064,x5050⟩:Z15)].map Zy)),(5,.app 9 ((x5014++[(⟨x5064,x5050⟩:Z15)]).map Zy))] [(4,.own 9)] [0,4,5,6] [(9,some (.row 2 99 ((x5014++[(⟨x5064,x5050⟩:Z15)]).map Zy)))] [9] [[(⟨x5064,x5050⟩:Z15)].map Zy=[[iI .i64 x5064,iI .i64 x5050]],(x5014++[(⟨x5064,x5050⟩:Z15)]).map Zy=(x5014.map Zy)++([(⟨x5064,x5050⟩:Z15)].map Zy),∀ c∈([(⟨x5064,x5050⟩:Z15)].map Zy),c.length=2,∀ c∈([(⟨x5064,x5050⟩:Z15)].map Zy),Z14 (c.map .im)=true,((x5014.map Zy).length+([(⟨x5064,x5050⟩:Z15)].map Zy).length)*16≤140737488355328] ⟨by exact rfl,by simp,by exact Z0z _ _ _ (fun _=>rfl),by exact Z0s _ _ (fun _=>rfl),by simpa using c5066,trivial⟩ ?_
      refine rO hP hn hm [] [(5,iV .i64 (i64.wrap (x5015+x5050)))] [0,4,5] [] [9] ?_
      exact LWp.conv [(9,2)] [] [] (by kernel_rfl) (ih _ _ _ H)
   ·replace H:=iF c5016 H
    refine AWp.exit ?_
    obtain rfl:=sj H
    exact lf [(2,10)] [] [] (by kernel_rfl) ⟨rfl,rfl⟩
  ·obtain⟨x5067,rfl⟩:∃ z,z=o5074:=⟨_,rfl⟩
   rintro e s ⟨rfl,rfl⟩
   obtain⟨b5071,p5072,q5073,H⟩:=Z06 H
   refine sR hP hn hm [(1,.c ((Z1 .i64) b5071))] [(2,iV .i64 b5071),(3,.own 10)] [2,3] [] [10] [_,_] ⟨p5072,Zi (Z1 .i64) q5073,trivial⟩ ?_
   refine AWp.conv (inv:=[(10,0)]) (vk:=[]) (e0:=[]) (t:=⟨[(2,iV .i64 b5071),(3,.own 0)],[(0,some (.row 2 99 (x5067.map Zy)))],0⟩) (by kernel_rfl) ?_
   refine AWp.ret ?_
   obtain rfl:=sj H
   exact rl (.inl rfl) rfl (by kernel_rfl) (by kernel_rfl)
def Z2q.l0 (a1:List Z15) (x5110:ByteArray) (x5111:Int):Option (ByteArray):=if(decide (x5111<(a1.length:Int)))=true then(((if(decide (x5111>(0:Int)))=true then((at? a1 x5111)>>=fun b5120=>(Z0b.f (u64.wrap (i64.wrap (b5120.f0-(1:Int)))))>>=fun t5123=>(chk (((x5110.size+t5123.size:Nat):Int)≤9223372036854775807))>>=fun _=>some (x5110++t5123)) else(some x5110)):Option (ByteArray))>>=fun x5126=>(at? a1 x5111)>>=fun b5133=>(Z0b.f (u64.wrap (i64.wrap (b5133.f1-(1:Int)))))>>=fun t5136=>(chk (((x5126.size+t5136.size:Nat):Int)≤9223372036854775807))>>=fun _=>Z2q.l0 a1 (x5126++t5136) (i64.wrap (x5111+(1:Int)))) else(some x5110)
partial_fixpoint
def Z2q.f (a0:Int) (a1:List Z15):Option (ByteArray):=(Z0b.f (u64.wrap ((a1.length:Int))))>>=fun t5088=>if((a1.length:Int)==(0:Int))=true then(some t5088) else((Z30.f a0)>>=fun t5094=>(chk (((t5088.size+t5094.size:Nat):Int)≤9223372036854775807))>>=fun _=>(Z2q.l0 a1 (t5088++t5094) 0)>>=fun x5139=>some x5139)
theorem Z2q.ok (a0:Int) (a1:List Z15) (r:ByteArray) (H:Z2q.f a0 a1=some r):Pv.Fn Tryz.prog 40 [iV .i64 a0,.im (.row (a1.map Zy))] [] 0 (fun x o=>x=sV r∧o=[]):=by
 unfold Z2q.f at H
 refine Fn.bodyK [] Tryz.func40 rfl rfl (fun Γ hP hn => ?_)
 have hm:Tryz.prog.follows .mixedOrders=true:=by kernel_rfl
 replace hn:Γ.n=48:=hn
 refine sO hP hn hm [] [] [0,1] [] [] ?_
 obtain⟨t5088,e5089,H⟩:=Z3 H
 refine sR hP hn hm [(1,.any (iV .i64 (a1.length:Int))),(3,.call [] [] [] [] 0 (sV t5088) [])] [(5,sV t5088)] [0,1,5] [] [] [((a1.map Zy).length:Int)=(a1.length:Int),_,_] ⟨by rw[Zn],Tryz.call41,Z0b.ok (u64.wrap ((a1.length:Int))) t5088 e5089,trivial⟩ ?_
 refine AWp.seq ?_
 refine sR hP hn hm [(1,.any (iV .i64 (a1.length:Int)))] [(13,bV ((a1.length:Int)==(0:Int)))] [0,1,5,13] [] [] [((a1.map Zy).length:Int)=(a1.length:Int)] ⟨by rw[Zn],trivial⟩ ?_
 refine AWp.cond ((a1.length:Int)==(0:Int)) (by kernel_rfl) (fun c5090 => ?_) (fun c5090 => ?_)
 ·replace H:=iT c5090 H
  refine sO hP hn hm [] [(4,sV t5088)] [4] [] [] ?_
  refine AWp.conv (inv:=[]) (vk:=[]) (e0:=[]) (t:=⟨[(4,sV t5088)],[],0⟩) (by kernel_rfl) ?_
  refine AWp.ret ?_
  obtain rfl:=sj H
  exact rl (.inl rfl) rfl (by kernel_rfl) (by kernel_rfl)
 ·replace H:=iF c5090 H
  refine AWp.skip ?_
  obtain⟨t5094,e5095,H⟩:=Z3 H
  obtain⟨c5096,H⟩:=Z0f H
  refine sR hP hn hm [(2,.call [] [] [] [] 0 (sV t5094) [])] [(5,sV (t5088++t5094))] [1,5] [] [] [_,_,_] ⟨Tryz.call38,Z30.ok a0 t5094 e5095,c5096,trivial⟩ ?_
  refine AWp.seq ?_
  refine sO hP hn hm [] [(6,iV .i64 0)] [1,5,6] [] [] ?_
  refine AWp.block ?_
  obtain⟨o5140,e5141,H⟩:=Z3 H
  refine AWp.loop (LWp.conv (inv:=[]) (vk:=[]) (e0:=[]) (t:=⟨[(1,.im (.row (a1.map Zy))),(5,sV (t5088++t5094)),(6,iV .i64 0)],[],0⟩) (by kernel_rfl) ?_)
  refine LWp.mono (Q:=fun e s=>(match (generalizing:=false) o5140 with | x5139=>e = .exit 0∧s=⟨[(5,sV x5139)],[],0⟩)) (LWp.cv (Zp (fun body hbody => ?_))) ?_
  ·refine       Z2q.l0.partial_correctness a1 (motive:=fun x5110 x5111 o5140=>LWp Γ body (fun e s=>∃ t,Cv Γ s t∧(match (generalizing:=false) o5140 with | x5139=>e = .exit 0∧t=⟨[(5,sV x5139)],[],0⟩)) ⟨[(1,.im (.row (a1.map Zy   ))),(5,sV x5110),(6,iV .i64 x5111)],[],0⟩) ?_ _ _ _ e5141
   clear H e5141 o5140;intro self ih x5110 x5111 o5140 H
   subst hbody
   refine LWp.round ?_
   refine AWp.seq ?_
   refine sR hP hn hm [(2,.any (iV .i64 (a1.length:Int)))] [(22,bV (decide (x5111<(a1.length:Int))))] [1,5,6,22] [] [] [((a1.map Zy).length:Int)=(a1.length:Int)] ⟨by rw[Zn],trivial⟩ ?_
   refine AWp.cond (decide (x5111<(a1.length:Int))) (by kernel_rfl) (fun c5112 => ?_) (fun c5112 => ?_)
   ·replace H:=iT c5112 H
    refine AWp.skip ?_
    refine AWp.seq ?_
    refine AWp.block ?_
    refine AWp.seq ?_
    refine sO hP hn hm [] [(26,bV (decide (x5111>(0:Int))))] [1,5,6,26] [] [] ?_
    obtain⟨o5142,e5143,H⟩:=Z3 H
    refine AWp.mono (Q:=fun e s=>(match (generalizing:=false) o5142 with | x5126=>e = .normal∧s=⟨[(1,.im (.row (a1.map Zy))),(5,sV x5126),(6,iV .i64 x5111)],[],0⟩)) (AWp.cv ?_) ?_
    ·replace H:=e5143;clear e5143
     refine AWp.cond (decide (x5111>(0:Int))) (by kernel_rfl) (fun c5113 => ?_) (fun c5113 => ?_)
     ·replace H:=iT c5113 H
      obtain⟨b5120,p5121,q5122,H⟩:=Z06 H
      obtain⟨t5123,e5124,H⟩:=Z3 H
      obtain⟨c5125,H⟩:=Z0f H
      refine rG hP hn hm [(3,.c (Zy b5120)),(8,.call [] [] [] [] 0 (sV t5123) [])] [(5,sV (x5110++t5123))] [1,5,6] [] [] [_,_,_,_,_] ⟨p5121,Zi Zy q5122,Tryz.call41,Z0b.ok (u64.wrap (i64.wrap (b5120.f0-(1:Int)))) t5123 e5124,c5125,trivial⟩ ?_
      obtain rfl:=sj H
      exact lf [] [] [] (by kernel_rfl) ⟨rfl,rfl⟩
     ·replace H:=iF c5113 H
      refine AWp.skip ?_
      obtain rfl:=sj H
      exact lf [] [] [] (by kernel_rfl) ⟨rfl,rfl⟩
    ·obtain⟨x5126,rfl⟩:∃ z,z=o5142:=⟨_,rfl⟩
     rintro e s ⟨rfl,rfl⟩
     obtain⟨b5133,p5134,q5135,H⟩:=Z06 H
     obtain⟨t5136,e5137,H⟩:=Z3 H
     obtain⟨c5138,H⟩:=Z0f H
     refine rG hP hn hm [(3,.c (Zy b5133)),(8,.call [] [] [] [] 0 (sV t5136) [])] [(5,sV (x5126++t5136))] [1,5,6] [] [] [_,_,_,_,_] ⟨p5134,Zi Zy q5135,Tryz.call41,Z0b.ok (u64.wrap (i64.wrap (b5133.f1-(1:Int)))) t5136 e5137,c5138,trivial⟩ ?_
     refine rO hP hn hm [] [(6,iV .i64 (i64.wrap (x5111+(1:Int))))] [1,5,6] [] [] ?_
     exact LWp.conv [] [] [] (by kernel_rfl) (ih _ _ _ H)
   ·replace H:=iF c5112 H
    refine AWp.exit ?_
    obtain rfl:=sj H
    exact lf [] [] [] (by kernel_rfl) ⟨rfl,rfl⟩
  ·obtain⟨x5139,rfl⟩:∃ z,z=o5140:=⟨_,rfl⟩
   rintro e s ⟨rfl,rfl⟩
   refine sO hP hn hm [] [(4,sV x5139)] [4] [] [] ?_
   refine AWp.conv (inv:=[]) (vk:=[]) (e0:=[]) (t:=⟨[(4,sV x5139)],[],0⟩) (by kernel_rfl) ?_
   refine AWp.ret ?_
   obtain rfl:=sj H
   exact rl (.inl rfl) rfl (by kernel_rfl) (by kernel_rfl)
def Z0a.l0 (a0:Zd) (a1:List Int) (a2:List Int) (x5183:List Int) (x5184:Int):Option (List Int):=if(decide (x5184<(a1.length:Int)))=true then((at? a1 x5184)>>=fun b5192=>(Z2m.f a0.f6 b5192)>>=fun t5195=>(chk ((x5183.length+[t5195].length)*8≤140737488355328))>>=fun _=>Z0a.l0 a0 a1 a2 (x5183++[t5195]) (i64.wrap (x5184+(1:Int)))) else(some x5183)
partial_fixpoint
def Z0a.l1 (a0:Zd) (a2:List Int) (x5212:List Int) (x5213:Int):Option (List Int):=if(decide (x5213<(a2.length:Int)))=true then((at? a2 x5213)>>=fun b5221=>(Z2m.f a0.f7 b5221)>>=fun t5224=>(chk ((x5212.length+[t5224].length)*8≤140737488355328))>>=fun _=>Z0a.l1 a0 a2 (x5212++[t5224]) (i64.wrap (x5213+(1:Int)))) else(some x5212)
partial_fixpoint
def Z0a.f (a0:Zd) (a1:List Int) (a2:List Int):Option (List Int):=(Z0a.l0 a0 a1 a2 [a0.f3,u64.wrap (a0.f5)] 0)>>=fun x5198=>(Z0a.l1 a0 a2 x5198 0)>>=fun x5227=>some x5227
theorem Z0a.ok (a0:Zd) (a1:List Int) (a2:List Int) (r:List Int) (H:Z0a.f a0 a1 a2=some r):Pv.Fn Tryz.prog 42 [.agg (Zl a0),.im (.row (a1.map (Z1 .i64))),.im (.row (a2.map (Z1 .i64)))] [] 0 (fun x o=>x = .own 0∧o=[(0,some (.row 1 36 (r.map (Z1 .u64))))]):=by
 unfold Z0a.f at H
 refine Fn.bodyK [0] Tryz.func42 rfl rfl (fun Γ hP hn => ?_)
 have hm:Tryz.prog.follows .mixedOrders=true:=by kernel_rfl
 replace hn:Γ.n=49:=hn
 refine sO hP hn hm [(0,.k 0)] [(3,.ptr 0 0 0)] [1,2,3] [(0,some (.box 39 (Zl a0)))] [0] ?_
 refine sR hP hn hm [(5,.app 1 ([a0.f3,u64.wrap (a0.f5)].map (Z1 .u64)))] [(7,.own 1)] [1,2,3,7] [(1,some (.row 1 36 ([a0.f3,u64.wrap (a0.f5)].map (Z1 .u64))))] [0,1] [[a0.f3,u64.wrap (a0.f5)].map (Z1 .u64)=[[iI .u64 a0.f3],[iI .u64 (u64.wrap (a0.f5))]]] ⟨by exact rfl,trivial⟩ ?_
 refine AWp.seq ?_
 refine sO hP hn hm [] [(8,iV .i64 0)] [1,2,3,7,8] [] [0,1] ?_
 refine AWp.block ?_
 obtain⟨o5228,e5229,H⟩:=Z3 H
 refine AWp.loop (LWp.conv (inv:=[(0,4),(1,5)]) (vk:=[]) (e0:=[]) (t:=⟨[(1,.im (.row (a1.map (Z1 .i64)))),(2,.im (.row (a2.map (Z1 .i64)))),(3,.ptr 4 0 0),(7,.own 5),(8,iV .i64 0)],[(4,some (.box 39 (Zl a0))),(5,some (.row 1 36 ([a0.f3,u64.wrap (a0.f5)].map (Z1 .u64))))],0⟩) (by kernel_rfl) ?_)
 refine LWp.mono (Q:=fun e s=>(match (generalizing:=false) o5228 with | x5198=>e = .exit 0∧s=⟨[(2,.im (.row (a2.map (Z1 .i64)))),(3,.ptr 8 0 0),(7,.own 9)],[(8,some (.box 39 (Zl a0))),(9,some (.row 1 36 (x5198.map (Z1 .u64))))],0⟩)) (LWp.cv (Zp (fun body hbody => ?_))) ?_
 ·refine           Z0a.l0.partial_correctness a0 a1 a2 (motive:=fun x5183 x5184 o5228=>LWp Γ body (fun e s=>∃ t,Cv Γ s t∧(match (generalizing:=false) o5228 with | x5198=>e = .exit 0∧t=⟨[(2,.im (.row (a2.map (Z1     .i64)))),(3,.ptr 8 0 0),(7,.own 9)],[(8,some (.box 39 (Zl    a0))),(9,some (.row 1 36 (x5198.map (Z1     .u64))))],0⟩)) ⟨[(1,.im (.row (a1.map (Z1     .i64)))),(2,.im (.row (a2.map (Z1     .i64)))),(3,.ptr 4 0 0),(7,.own 5),(8,iV .i64 x5184)],[(4,some (.box 39 (Zl    a0))),(5,some (.row 1 36 (x5183.map (Z1     .u64))))],0⟩) ?_ _ _ _ e5229
  clear H e5229 o5228;intro self ih x5183 x5184 o5228 H
  subst hbody
  refine LWp.round ?_
  refine AWp.seq ?_
  refine sR hP hn hm [(2,.any (iV .i64 (a1.length:Int)))] [(19,bV (decide (x5184<(a1.length:Int))))] [1,2,3,7,8,19] [] [4,5] [((a1.map (Z1 .i64)).length:Int)=(a1.length:Int)] ⟨by rw[Zn],trivial⟩ ?_
  refine AWp.cond (decide (x5184<(a1.length:Int))) (by kernel_rfl) (fun c5185 => ?_) (fun c5185 => ?_)
  ·replace H:=iT c5185 H
   refine AWp.skip ?_
   refine AWp.seq ?_
   refine AWp.block ?_
   obtain⟨b5192,p5193,q5194,H⟩:=Z06 H
   obtain⟨t5195,e5196,H⟩:=Z3 H
   obtain⟨c5197,H⟩:=Z0f H
   refine rG hP hn hm [(5,.c ((Z1 .i64) b5192)),(7,.call [] [] [] [] 0 (iV .u64 t5195) []),(8,.app 6 ([t5195].map (Z1 .u64))),(9,.app 7 ((x5183++[t5195]).map (Z1 .u64)))] [(7,.own 7)] [1,2,3,7,8] [(7,some (.row 1 36 ((x5183++[t5195]).map (Z1 .u64))))] [4,7] [_,_,_,_,[t5195].map (Z1 .u64)=[[iI .u64 t5195]],(x5183++[t5195]).map (Z1 .u64)=(x5183.map (Z1 .u64))++([t5195].map (Z1 .u64)),∀ c∈([t5195].map (Z1 .u64)),c.length=1,∀ c∈([t5195].map (Z1 .u64)),Z14 (c.map .im)=true,((x5183.map (Z1 .u64)).length+([t5195].map (Z1 .u64)).length)*8≤140737488355328] ⟨p5193,Zi (Z1 .i64) q5194,Tryz.call78,Z2m.ok a0.f6 b5192 t5195 e5196,by exact rfl,by simp,by exact Z0z _ _ _ (fun _=>rfl),by exact Z0s _ _ (fun _=>rfl),by simpa using c5197,trivial⟩ ?_
   refine rO hP hn hm [] [(8,iV .i64 (i64.wrap (x5184+(1:Int))))] [1,2,3,7,8] [] [4,7] ?_
   exact LWp.conv [(4,4),(7,5)] [] [] (by kernel_rfl) (ih _ _ _ H)
  ·replace H:=iF c5185 H
   refine AWp.exit ?_
   obtain rfl:=sj H
   exact lf [(4,8),(5,9)] [] [] (by kernel_rfl) ⟨rfl,rfl⟩
 ·obtain⟨x5198,rfl⟩:∃ z,z=o5228:=⟨_,rfl⟩
  rintro e s ⟨rfl,rfl⟩
  refine AWp.seq ?_
  refine sO hP hn hm [] [(9,iV .i64 0)] [2,3,7,9] [] [8,9] ?_
  refine AWp.block ?_
  obtain⟨o5230,e5231,H⟩:=Z3 H
  refine AWp.loop (LWp.conv (inv:=[(8,12),(9,13)]) (vk:=[]) (e0:=[]) (t:=⟨[(2,.im (.row (a2.map (Z1 .i64)))),(3,.ptr 12 0 0),(7,.own 13),(9,iV .i64 0)],[(12,some (.box 39 (Zl a0))),(13,some (.row 1 36 (x5198.map (Z1 .u64))))],0⟩) (by kernel_rfl) ?_)
  refine LWp.mono (Q:=fun e s=>(match (generalizing:=false) o5230 with | x5227=>e = .exit 2∧s=⟨[(7,.own 16)],[(16,some (.row 1 36 (x5227.map (Z1 .u64))))],0⟩)) (LWp.cv (Zp (fun body hbody => ?_))) ?_
  ·refine           Z0a.l1.partial_correctness a0 a2 (motive:=fun x5212 x5213 o5230=>LWp Γ body (fun e s=>∃ t,Cv Γ s t∧(match (generalizing:=false) o5230 with | x5227=>e = .exit 2∧t=⟨[(7,.own 16)],[(16,some (.row 1 36 (x5227.map (Z1     .u64))))],0⟩)) ⟨[(2,.im (.row (a2.map (Z1     .i64)))),(3,.ptr 12 0 0),(7,.own 13),(9,iV .i64 x5213)],[(12,some (.box 39 (Zl    a0))),(13,some (.row 1 36 (x5212.map (Z1     .u64))))],0⟩) ?_ _ _ _ e5231
   clear H e5231 o5230;intro self ih x5212 x5213 o5230 H
   subst hbody
   refine LWp.round ?_
   refine AWp.seq ?_
   refine sR hP hn hm [(2,.any (iV .i64 (a2.length:Int)))] [(35,bV (decide (x5213<(a2.length:Int))))] [2,3,7,9,35] [] [12,13] [((a2.map (Z1 .i64)).length:Int)=(a2.length:Int)] ⟨by rw[Zn],trivial⟩ ?_
   refine AWp.cond (decide (x5213<(a2.length:Int))) (by kernel_rfl) (fun c5214 => ?_) (fun c5214 => ?_)
   ·replace H:=iT c5214 H
    refine AWp.skip ?_
    refine AWp.seq ?_
    refine AWp.block ?_
    obtain⟨b5221,p5222,q5223,H⟩:=Z06 H
    obtain⟨t5224,e5225,H⟩:=Z3 H
    obtain⟨c5226,H⟩:=Z0f H
    refine rG hP hn hm [(5,.c ((Z1 .i64) b5221)),(7,.call [] [] [] [] 0 (iV .u64 t5224) []),(8,.app 14 ([t5224].map (Z1 .u64))),(9,.app 15 ((x5212++[t5224]).map (Z1 .u64)))] [(7,.own 15)] [2,3,7,9] [(15,some (.row 1 36 ((x5212++[t5224]).map (Z1 .u64))))] [12,15] [_,_,_,_,[t5224].map (Z1 .u64)=[[iI .u64 t5224]],(x5212++[t5224]).map (Z1 .u64)=(x5212.map (Z1 .u64))++([t5224].map (Z1 .u64)),∀ c∈([t5224].map (Z1 .u64)),c.length=1,∀ c∈([t5224].map (Z1 .u64)),Z14 (c.map .im)=true,((x5212.map (Z1 .u64)).length+([t5224].map (Z1 .u64)).length)*8≤140737488355328] ⟨p5222,Zi (Z1 .i64) q5223,Tryz.call78,Z2m.ok a0.f7 b5221 t5224 e5225,by exact rfl,by simp,by exact Z0z _ _ _ (fun _=>rfl),by exact Z0s _ _ (fun _=>rfl),by simpa using c5226,trivial⟩ ?_
    refine rO hP hn hm [] [(9,iV .i64 (i64.wrap (x5213+(1:Int))))] [2,3,7,9] [] [12,15] ?_
    exact LWp.conv [(12,12),(15,13)] [] [] (by kernel_rfl) (ih _ _ _ H)
   ·replace H:=iF c5214 H
    refine AWp.exit ?_
    obtain rfl:=sj H
    exact lf [(13,16)] [] [] (by kernel_rfl) ⟨rfl,rfl⟩
  ·obtain⟨x5227,rfl⟩:∃ z,z=o5230:=⟨_,rfl⟩
   rintro e s ⟨rfl,rfl⟩
   refine sO hP hn hm [] [(6,.own 16)] [6] [] [16] ?_
   refine AWp.conv (inv:=[(16,0)]) (vk:=[]) (e0:=[]) (t:=⟨[(6,.own 0)],[(0,some (.row 1 36 (x5227.map (Z1 .u64))))],0⟩) (by kernel_rfl) ?_
   refine AWp.ret ?_
   obtain rfl:=sj H
   exact rl (.inl rfl) rfl (by kernel_rfl) (by kernel_rfl)
def Z18.l1 (a0:ByteArray) (x5491:Int) (x5496:List Int) (x5501:Int) (x5502:Int):Option (Int):=if(decide (x5502<(Int.tmod x5491 (8:Int))))=true then(Z18.l1 a0 x5491 x5496 (i64.wrap (Int.tdiv x5501 (2:Int))) (i64.wrap (x5502+(1:Int)))) else(some x5501)
partial_fixpoint
def Z18.l0 (a0:ByteArray) (x5490:List Int) (x5491:Int):Option (List Int):=if(decide (x5491<(a0.size:Int)))=true then(((if((Int.tmod x5491 (8:Int))==(0:Int))=true then((chk ((x5490.length+[0].length)*1≤140737488355328))>>=fun _=>some (x5490++[0])) else(some x5490)):Option (List Int))>>=fun x5496=>(chk (0≤x5491∧x5491<(a0.size:Int)))>>=fun _=>((if((bt a0 x5491)==(49:Int))=true then((Z18.l1 a0 x5491 x5496 128 0)>>=fun x5504=>(at? x5496 (i64.wrap (Int.tdiv x5491 (8:Int))))>>=fun b5508=>some (x5496.set (Int.toNat (i64.wrap (Int.tdiv x5491 (8:Int)))) (u8.wrap (b5508+(u8.wrap (x5504)))))) else(some x5496)):Option (List Int))>>=fun x5511=>Z18.l0 a0 x5511 (i64.wrap (x5491+(1:Int)))) else(some x5490)
partial_fixpoint
def Z18.f (a0:ByteArray):Option (List Int):=(Z18.l0 a0 [] 0)>>=fun x5512=>some x5512
theorem Z18.ok (a0:ByteArray) (r:List Int) (H:Z18.f a0=some r):Pv.Fn Tryz.prog 43 [sV a0] [] 0 (fun x o=>x = .own 0∧o=[(0,some (.row 1 5 (r.map (Z1 .u8))))]):=by
 unfold Z18.f at H
 refine Fn.bodyK [0] Tryz.func43 rfl rfl (fun Γ hP hn => ?_)
 have hm:Tryz.prog.follows .mixedOrders=true:=by kernel_rfl
 replace hn:Γ.n=44:=hn
 refine sO hP hn hm [] [] [0] [] [] ?_
 refine sO hP hn hm [] [(3,.none0)] [0,3] [] [] ?_
 refine AWp.seq ?_
 refine sO hP hn hm [] [(4,iV .i64 0)] [0,3,4] [] [] ?_
 refine AWp.block ?_
 obtain⟨o5513,e5514,H⟩:=Z3 H
 refine AWp.loop (LWp.conv (inv:=[]) (vk:=[]) (e0:=[6]) (t:=⟨[(0,sV a0),(3,.own 6),(4,iV .i64 0)],[(6,some (.row 1 5 ([].map (Z1 .u8))))],0⟩) (by kernel_rfl) ?_)
 refine LWp.mono (Q:=fun e s=>(match (generalizing:=false) o5513 with | x5512=>e = .exit 0∧s=⟨[(3,.own 13)],[(13,some (.row 1 5 (x5512.map (Z1 .u8))))],0⟩)) (LWp.cv (Zp (fun body hbody => ?_))) ?_
 ·refine         Z18.l0.partial_correctness a0 (motive:=fun x5490 x5491 o5513=>LWp Γ body (fun e s=>∃ t,Cv Γ s t∧(match (generalizing:=false) o5513 with | x5512=>e = .exit 0∧t=⟨[(3,.own 13)],[(13,some (.row 1 5 (x5512.map (Z1     .u8))))],0⟩)) ⟨[(0,sV a0),(3,.own 6),(4,iV .i64 x5491)],[(6,some (.row 1 5 (x5490.map (Z1     .u8))))],0⟩) ?_ _ _ _ e5514
  clear H e5514 o5513;intro self ih x5490 x5491 o5513 H
  subst hbody
  refine LWp.round ?_
  refine AWp.seq ?_
  refine sO hP hn hm [] [(10,bV (decide (x5491<(a0.size:Int))))] [0,3,4,10] [] [6] ?_
  refine AWp.cond (decide (x5491<(a0.size:Int))) (by kernel_rfl) (fun c5492 => ?_) (fun c5492 => ?_)
  ·replace H:=iT c5492 H
   refine AWp.skip ?_
   refine AWp.seq ?_
   refine AWp.block ?_
   refine AWp.seq ?_
   refine sR hP hn hm [] [(15,bV ((Int.tmod x5491 (8:Int))==(0:Int)))] [0,3,4,15] [] [6] [(8:Int)≠0] ⟨by decide,trivial⟩ ?_
   obtain⟨o5515,e5516,H⟩:=Z3 H
   refine AWp.mono (Q:=fun e s=>(match (generalizing:=false) o5515 with | x5496=>e = .normal∧s=⟨[(0,sV a0),(3,.own 9),(4,iV .i64 x5491)],[(9,some (.row 1 5 (x5496.map (Z1 .u8))))],0⟩)) (AWp.cv ?_) ?_
   ·replace H:=e5516;clear e5516
    refine AWp.cond ((Int.tmod x5491 (8:Int))==(0:Int)) (by kernel_rfl) (fun c5493 => ?_) (fun c5493 => ?_)
    ·replace H:=iT c5493 H
     obtain⟨c5495,H⟩:=Z0f H
     refine rG hP hn hm [(1,.app 7 ([0].map (Z1 .u8))),(2,.app 8 ((x5490++[0]).map (Z1 .u8)))] [(3,.own 8)] [0,3,4] [(8,some (.row 1 5 ((x5490++[0]).map (Z1 .u8))))] [8] [[0].map (Z1 .u8)=[[iI .u8 0]],(x5490++[0]).map (Z1 .u8)=(x5490.map (Z1 .u8))++([0].map (Z1 .u8)),∀ c∈([0].map (Z1 .u8)),c.length=1,∀ c∈([0].map (Z1 .u8)),Z14 (c.map .im)=true,((x5490.map (Z1 .u8)).length+([0].map (Z1 .u8)).length)*1≤140737488355328] ⟨by exact rfl,by simp,by exact Z0z _ _ _ (fun _=>rfl),by exact Z0s _ _ (fun _=>rfl),by simpa using c5495,trivial⟩ ?_
     obtain rfl:=sj H
     exact lf [(8,9)] [] [] (by kernel_rfl) ⟨rfl,rfl⟩
    ·replace H:=iF c5493 H
     refine AWp.skip ?_
     obtain rfl:=sj H
     exact lf [(6,9)] [] [] (by kernel_rfl) ⟨rfl,rfl⟩
   ·obtain⟨x5496,rfl⟩:∃ z,z=o5515:=⟨_,rfl⟩
    rintro e s ⟨rfl,rfl⟩
    obtain⟨c5498,H⟩:=Z0f H
    refine sR hP hn hm [] [(22,bV ((bt a0 x5491)==(49:Int)))] [0,3,4,22] [] [9] [0≤x5491,x5491<(a0.size:Int)] ⟨by exact c5498.1,by exact c5498.2,trivial⟩ ?_
    obtain⟨o5517,e5518,H⟩:=Z3 H
    refine AWp.mono (Q:=fun e s=>(match (generalizing:=false) o5517 with | x5511=>e = .normal∧s=⟨[(0,sV a0),(3,.own 12),(4,iV .i64 x5491)],[(12,some (.row 1 5 (x5511.map (Z1 .u8))))],0⟩)) (AWp.cv ?_) ?_
    ·replace H:=e5518;clear e5518
     refine AWp.cond ((bt a0 x5491)==(49:Int)) (by kernel_rfl) (fun c5499 => ?_) (fun c5499 => ?_)
     ·replace H:=iT c5499 H
      refine sO hP hn hm [] [(5,iV .i64 128)] [0,3,4,5] [] [9] ?_
      refine AWp.seq ?_
      refine sO hP hn hm [] [(6,iV .i64 0)] [0,3,4,5,6] [] [9] ?_
      refine AWp.block ?_
      obtain⟨o5519,e5520,H⟩:=Z3 H
      refine AWp.loop (LWp.conv (inv:=[(9,10)]) (vk:=[]) (e0:=[]) (t:=⟨[(0,sV a0),(3,.own 10),(4,iV .i64 x5491),(5,iV .i64 128),(6,iV .i64 0)],[(10,some (.row 1 5 (x5496.map (Z1 .u8))))],0⟩) (by kernel_rfl) ?_)
      refine LWp.mono (Q:=fun e s=>(match (generalizing:=false) o5519 with | x5504=>e = .exit 2∧s=⟨[(0,sV a0),(3,.own 11),(4,iV .i64 x5491),(5,iV .i64 x5504)],[(11,some (.row 1 5 (x5496.map (Z1 .u8))))],0⟩)) (LWp.cv (Zp (fun body hbody => ?_))) ?_
      ·refine         Z18.l1.partial_correctness a0 x5491 x5496 (motive:=fun x5501 x5502 o5519=>LWp Γ body (fun e s=>∃ t,Cv Γ s t∧(match (generalizing:=false) o5519 with | x5504=>e = .exit 2∧t=⟨[(0,sV a0),(3,.own 11),(4,iV .i64 x5491),(5,iV .i64 x5504)],[(11,some (.row 1 5 (x5496.map (Z1     .u8))))],0⟩)) ⟨[(0,sV a0),(3,.own 10),(4,iV .i64 x5491),(5,iV .i64 x5501),(6,iV .i64 x5502)],[(10,some (.row 1 5 (x5496.map (Z1     .u8))))],0⟩) ?_ _ _ _ e5520
       clear H e5520 o5519;intro self ih x5501 x5502 o5519 H
       subst hbody
       refine LWp.round ?_
       refine AWp.seq ?_
       refine sR hP hn hm [] [(26,bV (decide (x5502<(Int.tmod x5491 (8:Int)))))] [0,3,4,5,6,26] [] [10] [(8:Int)≠0] ⟨by decide,trivial⟩ ?_
       refine AWp.cond (decide (x5502<(Int.tmod x5491 (8:Int)))) (by kernel_rfl) (fun c5503 => ?_) (fun c5503 => ?_)
       ·replace H:=iT c5503 H
        refine AWp.skip ?_
        refine AWp.seq ?_
        refine AWp.block ?_
        refine rG hP hn hm [] [(5,iV .i64 (i64.wrap (Int.tdiv x5501 (2:Int))))] [0,3,4,5,6] [] [10] [(2:Int)≠0] ⟨by decide,trivial⟩ ?_
        refine rO hP hn hm [] [(6,iV .i64 (i64.wrap (x5502+(1:Int))))] [0,3,4,5,6] [] [10] ?_
        exact LWp.conv [(10,10)] [] [] (by kernel_rfl) (ih _ _ _ H)
       ·replace H:=iF c5503 H
        refine AWp.exit ?_
        obtain rfl:=sj H
        exact lf [(10,11)] [] [] (by kernel_rfl) ⟨rfl,rfl⟩
      ·obtain⟨x5504,rfl⟩:∃ z,z=o5519:=⟨_,rfl⟩
       rintro e s ⟨rfl,rfl⟩
       obtain⟨b5508,p5509,q5510,H⟩:=Z06 H
       refine rG hP hn hm [(7,.c ((Z1 .u8) b5508)),(12,.put ((Z1 .u8) b5508) ((x5496.set (Int.toNat (i64.wrap (Int.tdiv x5491 (8:Int)))) (u8.wrap (b5508+(u8.wrap (x5504))))).map (Z1 .u8)))] [] [0,3,4] [(11,some (.row 1 5 ((x5496.set (Int.toNat (i64.wrap (Int.tdiv x5491 (8:Int)))) (u8.wrap (b5508+(u8.wrap (x5504))))).map (Z1 .u8))))] [11] [(8:Int)≠0,(8:Int)≠0,_,_,_,_,_,_,(x5496.set (Int.toNat (i64.wrap (Int.tdiv x5491 (8:Int)))) (u8.wrap (b5508+(u8.wrap (x5504))))).map (Z1 .u8)=(x5496.map (Z1 .u8)).set (Int.toNat (i64.wrap (Int.tdiv x5491 (8:Int)))) (Z2d ((Z1 .u8) b5508) 0 [iI .u8 (u8.wrap (b5508+(u8.wrap (x5504))))])] ⟨by decide,by decide,p5509,Z1p (Z1 .u8) p5509 q5510,Zi (Z1 .u8) q5510,p5509,Z1p (Z1 .u8) p5509 q5510,Zi (Z1 .u8) q5510,by exact set1 _ _ _ _,trivial⟩ ?_
       obtain rfl:=sj H
       exact lf [(11,12)] [] [] (by kernel_rfl) ⟨rfl,rfl⟩
     ·replace H:=iF c5499 H
      refine AWp.skip ?_
      obtain rfl:=sj H
      exact lf [(9,12)] [] [] (by kernel_rfl) ⟨rfl,rfl⟩
    ·obtain⟨x5511,rfl⟩:∃ z,z=o5517:=⟨_,rfl⟩
     rintro e s ⟨rfl,rfl⟩
     refine rO hP hn hm [] [(4,iV .i64 (i64.wrap (x5491+(1:Int))))] [0,3,4] [] [12] ?_
     exact LWp.conv [(12,6)] [] [] (by kernel_rfl) (ih _ _ _ H)
  ·replace H:=iF c5492 H
   refine AWp.exit ?_
   obtain rfl:=sj H
   exact lf [(6,13)] [] [] (by kernel_rfl) ⟨rfl,rfl⟩
 ·obtain⟨x5512,rfl⟩:∃ z,z=o5513:=⟨_,rfl⟩
  rintro e s ⟨rfl,rfl⟩
  refine sO hP hn hm [] [(2,.own 13)] [2] [] [13] ?_
  refine AWp.conv (inv:=[(13,0)]) (vk:=[]) (e0:=[]) (t:=⟨[(2,.own 0)],[(0,some (.row 1 5 (x5512.map (Z1 .u8))))],0⟩) (by kernel_rfl) ?_
  refine AWp.ret ?_
  obtain rfl:=sj H
  exact rl (.inl rfl) rfl (by kernel_rfl) (by kernel_rfl)
end Go.Proofs.YtlclecehlekjoaaGreat.PvGK
