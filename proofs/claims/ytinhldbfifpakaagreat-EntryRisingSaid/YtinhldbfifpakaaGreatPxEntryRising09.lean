import Derived.Test.YtinhldbfifpakaaGreatProg
import Derived.Test.YtinhldbfifpakaaGreatPxEntryRising08
set_option linter.unusedVariables false
set_option linter.unnecessarySimpa false
set_option linter.unusedSimpArgs false
set_option maxRecDepth 10000
namespace Go.Proofs.YtinhldbfifpakaaGreat.PvGL
open Go Go.Pv Go.IntKind
def Zc.l1 (a1:Int) (x4163:List Z5) (x4165:Int) (x4186:Int):Option (Int):=((if(decide (x4186≤x4165))=true then((at? x4163 a1)>>=fun b4197=>(at? x4163 x4186)>>=fun b4200=>(Z0l.f b4197 b4200)>>=fun t4203=>some (!(decide (t4203<(0:Int))))) else(some false)):Option (Bool))>>=fun x4205=>if x4205=true then(Zc.l1 a1 x4163 x4165 (i64.wrap (x4186+(1:Int)))) else(some x4186)
partial_fixpoint
def Zc.l2 (a1:Int) (x4163:List Z5) (x4207:Int) (x4228:Int):Option (Int):=((if(decide (x4207≤x4228))=true then((at? x4163 a1)>>=fun b4239=>(at? x4163 x4228)>>=fun b4242=>(Z0l.f b4239 b4242)>>=fun t4245=>some (decide (t4245<(0:Int)))) else(some false)):Option (Bool))>>=fun x4247=>if x4247=true then(Zc.l2 a1 x4163 x4207 (i64.wrap (x4228-(1:Int)))) else(some x4228)
partial_fixpoint
def Zc.l0 (a1:Int) (x4163:List Z5) (x4164:Int) (x4165:Int):Option (Int×(List Z5)):=(Zc.l1 a1 x4163 x4165 x4164)>>=fun x4207=>(Zc.l2 a1 x4163 x4207 x4165)>>=fun x4249=>if(decide (x4207>x4249))=true then(some (x4207,x4163)) else((at? x4163 x4249)>>=fun b4260=>(at? x4163 x4207)>>=fun b4263=>(at? (x4163.set (Int.toNat (x4207)) b4260) x4249)>>=fun b4266=>Zc.l0 a1 ((x4163.set (Int.toNat (x4207)) b4260).set (Int.toNat (x4249)) b4263) (i64.wrap (x4207+(1:Int))) (i64.wrap (x4249-(1:Int))))
partial_fixpoint
def Zc.f (a0:List Z5) (a1:Int) (a2:Int) (a3:Int):Option (Int×(List Z5)):=(at? a0 a3)>>=fun b4051=>(at? a0 a1)>>=fun b4054=>(at? (a0.set (Int.toNat (a1)) b4051) a3)>>=fun b4057=>(Zc.l0 a1 ((a0.set (Int.toNat (a1)) b4051).set (Int.toNat (a3)) b4054) (i64.wrap (a1+(1:Int))) (i64.wrap (a2-(1:Int))))>>=fun oo=>match oo with | (x4269,x4270)=>(some (x4269,x4270))
theorem Zc.ok (a0:List Z5) (a1:Int) (a2:Int) (a3:Int) (r:Int×(List Z5)) (H:Zc.f a0 a1 a2 a3=some r):Pv.Fn Tryz.prog 144 [.own 0,iV .i64 a1,iV .i64 a2,iV .i64 a3,.im (.sc (.func (.func 78) #[] #[]))] [(0,some (.row 2 92 (a0.map Z0)))] 1 (fun x o=>x=iV .i64 r.1∧o=[(0,some (.row 2 92 (r.2.map Z0)))]):=by
 unfold Zc.f at H
 refine Fn.bodyK [0] Tryz.func144 rfl rfl (fun Γ hP hn => ?_)
 have hm:Tryz.prog.follows .mixedOrders=true:=by kernel_rfl
 replace hn:Γ.n=90:=hn
 refine sO hP hn hm [] [] [0,1,2,3,4] [] [0] ?_
 obtain⟨b4051,p4052,q4053,H⟩:=Z02 H
 obtain⟨b4054,p4055,q4056,H⟩:=Z02 H
 obtain⟨b4057,p4058,q4059,H⟩:=Z02 H
 refine sR hP hn hm [(7,.c (Z0 b4051)),(11,.c (Z0 b4054)),(13,.put (Z0 b4054) ((a0.set (Int.toNat (a1)) b4051).map Z0)),(15,.put (Z0 b4057) (((a0.set (Int.toNat (a1)) b4051).set (Int.toNat (a3)) b4054).map Z0))] [] [0,1,2,4] [(0,some (.row 2 92 (((a0.set (Int.toNat (a1)) b4051).set (Int.toNat (a3)) b4054).map Z0)))] [0] [_,_,_,_,_,_,_,_,_,(a0.set (Int.toNat (a1)) b4051).map Z0=(a0.map Z0).set (Int.toNat (a1)) (Z0t (Z0 b4054) 0 [iI .i64 b4051.f0,iI .i64 b4051.f1]),_,_,_,((a0.set (Int.toNat (a1)) b4051).set (Int.toNat (a3)) b4054).map Z0=((a0.set (Int.toNat (a1)) b4051).map Z0).set (Int.toNat (a3)) (Z0t (Z0 b4057) 0 [iI .i64 b4054.f0,iI .i64 b4054.f1])] ⟨p4052,Z09 Z0 p4052 q4053,Zi Z0 q4053,p4055,Z09 Z0 p4055 q4056,Zi Z0 q4056,p4055,Z09 Z0 p4055 q4056,Zi Z0 q4056,by exact set1 _ _ _ _,p4058,Z09 Z0 p4058 q4059,Zi Z0 q4059,by exact set1 _ _ _ _,trivial⟩ ?_
 refine sO hP hn hm [] [(11,iV .i64 (i64.wrap (a1+(1:Int)))),(12,iV .i64 (i64.wrap (a2-(1:Int))))] [0,1,4,11,12] [] [0] ?_
 refine AWp.seq ?_
 refine AWp.block ?_
 obtain⟨o4271,e4272,H⟩:=Z4 H
 refine AWp.loop (LWp.conv (inv:=[(0,0)]) (vk:=[]) (e0:=[]) (t:=⟨[(0,.own 0),(1,iV .i64 a1),(4,.im (.sc (.func (.func 78) #[] #[]))),(11,iV .i64 (i64.wrap (a1+(1:Int)))),(12,iV .i64 (i64.wrap (a2-(1:Int))))],[(0,some (.row 2 92 (((a0.set (Int.toNat (a1)) b4051).set (Int.toNat (a3)) b4054).map Z0)))],1⟩) (by kernel_rfl) ?_)
 refine LWp.mono (Q:=fun e s=>(match (generalizing:=false) o4271 with | (x4269,x4270)=>e = .exit 0∧s=⟨[(11,iV .i64 x4269)],[(0,some (.row 2 92 (x4270.map Z0)))],1⟩)) (LWp.cv (Zs (fun body hbody => ?_))) ?_
 ·refine                                                  Zc.l0.partial_correctness a1 (motive:=fun x4163 x4164 x4165 o4271=>LWp Γ body (fun e s=>∃ t,Cv Γ s t∧(match (generalizing:=false) o4271 with | (x4269,x4270)=>e = .exit 0∧t=⟨[(11,iV .i64 x4269)],[(0,some (.row 2 92 (x4270.map Z0         )))],1⟩)) ⟨[(0,.own 0),(1,iV .i64 a1),(4,.im (.sc (.func (.func 78) #[] #[]))),(11,iV .i64 x4164),(12,iV .i64 x4165)],[(0,some (.row 2 92 (x4163.map Z0         )))],1⟩) ?_ _ _ _ _ e4272
  clear H e4272 o4271;intro self ih x4163 x4164 x4165 o4271 H
  subst hbody
  refine LWp.round ?_
  refine AWp.block ?_
  refine AWp.seq ?_
  refine AWp.block ?_
  obtain⟨o4273,e4274,H⟩:=Z4 H
  refine AWp.loop (LWp.conv (inv:=[(0,0)]) (vk:=[]) (e0:=[]) (t:=⟨[(0,.own 0),(1,iV .i64 a1),(4,.im (.sc (.func (.func 78) #[] #[]))),(11,iV .i64 x4164),(12,iV .i64 x4165)],[(0,some (.row 2 92 (x4163.map Z0)))],1⟩) (by kernel_rfl) ?_)
  refine LWp.mono (Q:=fun e s=>(match (generalizing:=false) o4273 with | x4207=>e = .exit 2∧s=⟨[(0,.own 0),(1,iV .i64 a1),(4,.im (.sc (.func (.func 78) #[] #[]))),(11,iV .i64 x4207),(12,iV .i64 x4165)],[(0,some (.row 2 92 (x4163.map Z0)))],1⟩)) (LWp.cv (Zs (fun body hbody => ?_))) ?_
  ·refine                                                  Zc.l1.partial_correctness a1 x4163 x4165 (motive:=fun x4186 o4273=>LWp Γ body (fun e s=>∃ t,Cv Γ s t∧(match (generalizing:=false) o4273 with | x4207=>e = .exit 2∧t=⟨[(0,.own 0),(1,iV .i64 a1),(4,.im (.sc (.func (.func 78) #[] #[]))),(11,iV .i64 x4207),(12,iV .i64 x4165)],[(0,some (.row 2 92 (x4163.map Z0         )))],1⟩)) ⟨[(0,.own 0),(1,iV .i64 a1),(4,.im (.sc (.func (.func 78) #[] #[]))),(11,iV .i64 x4186),(12,iV .i64 x4165)],[(0,some (.row 2 92 (x4163.map Z0         )))],1⟩) ?_ _ _ e4274
   clear H e4274 o4273;intro self ih x4186 o4273 H
   subst hbody
   refine LWp.round ?_
   refine AWp.seq ?_
   refine AWp.seq ?_
   obtain⟨o4275,e4276,H⟩:=Z4 H
   refine AWp.mono (Q:=fun e s=>(match (generalizing:=false) o4275 with | x4205=>e = .normal∧s=⟨[(0,.own 0),(1,iV .i64 a1),(4,.im (.sc (.func (.func 78) #[] #[]))),(11,iV .i64 x4186),(12,iV .i64 x4165),(47,bV x4205)],[(0,some (.row 2 92 (x4163.map Z0)))],1⟩)) (AWp.cv ?_) ?_
   ·replace H:=e4276;clear e4276
    rcases Bool.eq_false_or_eq_true (decide (x4186≤x4165)) with c4196 | c4196
    ·replace H:=iT c4196 H
     obtain⟨b4197,p4198,q4199,H⟩:=Z02 H
     obtain⟨b4200,p4201,q4202,H⟩:=Z02 H
     obtain⟨t4203,e4204,H⟩:=Z4 H
     refine rG hP hn hm [(3,.b true),(8,.c (Z0 b4197)),(12,.c (Z0 b4200)),(13,.call [] [] [] [] 0 (iV .i64 t4203) [])] [(35,.im (.sc (.func (.func 78) #[] #[]))),(36,.own 0),(37,iV .i64 a1),(38,.ptr 0 (Int.toNat (a1)) 0),(39,.agg [iV .i64 b4197.f0,iV .i64 b4197.f1]),(40,.own 0),(41,iV .i64 x4186),(42,.ptr 0 (Int.toNat (x4186)) 0),(43,.agg [iV .i64 b4200.f0,iV .i64 b4200.f1]),(44,iV .i64 t4203),(45,bV (decide (t4203<(0:Int)))),(46,bV (!(decide (t4203<(0:Int))))),(47,bV (!(decide (t4203<(0:Int)))))] [0,1,4,11,12,35,36,37,38,39,40,41,42,43,44,45,46,47] [] [0] [_,_,_,_,_,_,_,_,_] ⟨c4196,p4198,Z09 Z0 p4198 q4199,Zi Z0 q4199,p4201,Z09 Z0 p4201 q4202,Zi Z0 q4202,Tryz.call78,Z0l.ok b4197 b4200 t4203 e4204,trivial⟩ ?_
     obtain rfl:=sj H
     exact lf [(0,0)] [] [] (by kernel_rfl) ⟨rfl,rfl⟩
    ·replace H:=iF c4196 H
     refine rG hP hn hm [(3,.b false)] [(47,bV false)] [0,1,4,11,12,47] [] [0] [_] ⟨c4196,trivial⟩ ?_
     obtain rfl:=sj H
     exact lf [(0,0)] [] [] (by kernel_rfl) ⟨rfl,rfl⟩
   ·obtain⟨x4205,rfl⟩:∃ z,z=o4275:=⟨_,rfl⟩
    rintro e s ⟨rfl,rfl⟩
    refine AWp.cond x4205 (by kernel_rfl) (fun c4206 => ?_) (fun c4206 => ?_)
    ·replace H:=iT c4206 H
     refine AWp.skip ?_
     refine AWp.block ?_
     refine rO hP hn hm [] [(11,iV .i64 (i64.wrap (x4186+(1:Int))))] [0,1,4,11,12] [] [0] ?_
     exact LWp.conv [(0,0)] [] [] (by kernel_rfl) (ih _ _ H)
    ·replace H:=iF c4206 H
     refine AWp.exit ?_
     obtain rfl:=sj H
     exact lf [(0,0)] [] [] (by kernel_rfl) ⟨rfl,rfl⟩
  ·obtain⟨x4207,rfl⟩:∃ z,z=o4273:=⟨_,rfl⟩
   rintro e s ⟨rfl,rfl⟩
   refine AWp.seq ?_
   refine AWp.block ?_
   obtain⟨o4277,e4278,H⟩:=Z4 H
   refine AWp.loop (LWp.conv (inv:=[(0,0)]) (vk:=[]) (e0:=[]) (t:=⟨[(0,.own 0),(1,iV .i64 a1),(4,.im (.sc (.func (.func 78) #[] #[]))),(11,iV .i64 x4207),(12,iV .i64 x4165)],[(0,some (.row 2 92 (x4163.map Z0)))],1⟩) (by kernel_rfl) ?_)
   refine LWp.mono (Q:=fun e s=>(match (generalizing:=false) o4277 with | x4249=>e = .exit 4∧s=⟨[(0,.own 0),(1,iV .i64 a1),(4,.im (.sc (.func (.func 78) #[] #[]))),(11,iV .i64 x4207),(12,iV .i64 x4249)],[(0,some (.row 2 92 (x4163.map Z0)))],1⟩)) (LWp.cv (Zs (fun body hbody => ?_))) ?_
   ·refine                                                  Zc.l2.partial_correctness a1 x4163 x4207 (motive:=fun x4228 o4277=>LWp Γ body (fun e s=>∃ t,Cv Γ s t∧(match (generalizing:=false) o4277 with | x4249=>e = .exit 4∧t=⟨[(0,.own 0),(1,iV .i64 a1),(4,.im (.sc (.func (.func 78) #[] #[]))),(11,iV .i64 x4207),(12,iV .i64 x4249)],[(0,some (.row 2 92 (x4163.map Z0         )))],1⟩)) ⟨[(0,.own 0),(1,iV .i64 a1),(4,.im (.sc (.func (.func 78) #[] #[]))),(11,iV .i64 x4207),(12,iV .i64 x4228)],[(0,some (.row 2 92 (x4163.map Z0         )))],1⟩) ?_ _ _ e4278
    clear H e4278 o4277;intro self ih x4228 o4277 H
    subst hbody
    refine LWp.round ?_
    refine AWp.seq ?_
    refine AWp.seq ?_
    obtain⟨o4279,e4280,H⟩:=Z4 H
    refine AWp.mono (Q:=fun e s=>(match (generalizing:=false) o4279 with | x4247=>e = .normal∧s=⟨[(0,.own 0),(1,iV .i64 a1),(4,.im (.sc (.func (.func 78) #[] #[]))),(11,iV .i64 x4207),(12,iV .i64 x4228),(65,bV x4247)],[(0,some (.row 2 92 (x4163.map Z0)))],1⟩)) (AWp.cv ?_) ?_
    ·replace H:=e4280;clear e4280
     rcases Bool.eq_false_or_eq_true (decide (x4207≤x4228)) with c4238 | c4238
     ·replace H:=iT c4238 H
      obtain⟨b4239,p4240,q4241,H⟩:=Z02 H
      obtain⟨b4242,p4243,q4244,H⟩:=Z02 H
      obtain⟨t4245,e4246,H⟩:=Z4 H
      refine rG hP hn hm [(3,.b true),(8,.c (Z0 b4239)),(12,.c (Z0 b4242)),(13,.call [] [] [] [] 0 (iV .i64 t4245) [])] [(54,.im (.sc (.func (.func 78) #[] #[]))),(55,.own 0),(56,iV .i64 a1),(57,.ptr 0 (Int.toNat (a1)) 0),(58,.agg [iV .i64 b4239.f0,iV .i64 b4239.f1]),(59,.own 0),(60,iV .i64 x4228),(61,.ptr 0 (Int.toNat (x4228)) 0),(62,.agg [iV .i64 b4242.f0,iV .i64 b4242.f1]),(63,iV .i64 t4245),(64,bV (decide (t4245<(0:Int)))),(65,bV (decide (t4245<(0:Int))))] [0,1,4,11,12,54,55,56,57,58,59,60,61,62,63,64,65] [] [0] [_,_,_,_,_,_,_,_,_] ⟨c4238,p4240,Z09 Z0 p4240 q4241,Zi Z0 q4241,p4243,Z09 Z0 p4243 q4244,Zi Z0 q4244,Tryz.call78,Z0l.ok b4239 b4242 t4245 e4246,trivial⟩ ?_
      obtain rfl:=sj H
      exact lf [(0,0)] [] [] (by kernel_rfl) ⟨rfl,rfl⟩
     ·replace H:=iF c4238 H
      refine rG hP hn hm [(3,.b false)] [(65,bV false)] [0,1,4,11,12,65] [] [0] [_] ⟨c4238,trivial⟩ ?_
      obtain rfl:=sj H
      exact lf [(0,0)] [] [] (by kernel_rfl) ⟨rfl,rfl⟩
    ·obtain⟨x4247,rfl⟩:∃ z,z=o4279:=⟨_,rfl⟩
     rintro e s ⟨rfl,rfl⟩
     refine AWp.cond x4247 (by kernel_rfl) (fun c4248 => ?_) (fun c4248 => ?_)
     ·replace H:=iT c4248 H
      refine AWp.skip ?_
      refine AWp.block ?_
      refine rO hP hn hm [] [(12,iV .i64 (i64.wrap (x4228-(1:Int))))] [0,1,4,11,12] [] [0] ?_
      exact LWp.conv [(0,0)] [] [] (by kernel_rfl) (ih _ _ H)
     ·replace H:=iF c4248 H
      refine AWp.exit ?_
      obtain rfl:=sj H
      exact lf [(0,0)] [] [] (by kernel_rfl) ⟨rfl,rfl⟩
   ·obtain⟨x4249,rfl⟩:∃ z,z=o4277:=⟨_,rfl⟩
    rintro e s ⟨rfl,rfl⟩
    refine AWp.seq ?_
    refine sO hP hn hm [] [(70,bV (decide (x4207>x4249)))] [0,1,4,11,12,70] [] [0] ?_
    refine AWp.cond (decide (x4207>x4249)) (by kernel_rfl) (fun c4250 => ?_) (fun c4250 => ?_)
    ·replace H:=iT c4250 H
     refine AWp.exit ?_
     obtain rfl:=sj H
     exact lf [(0,0)] [] [] (by kernel_rfl) ⟨rfl,rfl⟩
    ·replace H:=iF c4250 H
     refine AWp.skip ?_
     obtain⟨b4260,p4261,q4262,H⟩:=Z02 H
     obtain⟨b4263,p4264,q4265,H⟩:=Z02 H
     obtain⟨b4266,p4267,q4268,H⟩:=Z02 H
     refine sR hP hn hm [(7,.c (Z0 b4260)),(11,.c (Z0 b4263)),(13,.put (Z0 b4263) ((x4163.set (Int.toNat (x4207)) b4260).map Z0)),(15,.put (Z0 b4266) (((x4163.set (Int.toNat (x4207)) b4260).set (Int.toNat (x4249)) b4263).map Z0))] [] [0,1,4,11,12] [(0,some (.row 2 92 (((x4163.set (Int.toNat (x4207)) b4260).set (Int.toNat (x4249)) b4263).map Z0)))] [0] [_,_,_,_,_,_,_,_,_,(x4163.set (Int.toNat (x4207)) b4260).map Z0=(x4163.map Z0).set (Int.toNat (x4207)) (Z0t (Z0 b4263) 0 [iI .i64 b4260.f0,iI .i64 b4260.f1]),_,_,_,((x4163.set (Int.toNat (x4207)) b4260).set (Int.toNat (x4249)) b4263).map Z0=((x4163.set (Int.toNat (x4207)) b4260).map Z0).set (Int.toNat (x4249)) (Z0t (Z0 b4266) 0 [iI .i64 b4263.f0,iI .i64 b4263.f1])] ⟨p4261,Z09 Z0 p4261 q4262,Zi Z0 q4262,p4264,Z09 Z0 p4264 q4265,Zi Z0 q4265,p4264,Z09 Z0 p4264 q4265,Zi Z0 q4265,by exact set1 _ _ _ _,p4267,Z09 Z0 p4267 q4268,Zi Z0 q4268,by exact set1 _ _ _ _,trivial⟩ ?_
     refine sO hP hn hm [] [(11,iV .i64 (i64.wrap (x4207+(1:Int))))] [0,1,4,11,12] [] [0] ?_
     refine rO hP hn hm [] [(12,iV .i64 (i64.wrap (x4249-(1:Int))))] [0,1,4,11,12] [] [0] ?_
     exact LWp.conv [(0,0)] [] [] (by kernel_rfl) (ih _ _ _ _ H)
 ·obtain⟨x4269,x4270⟩:=o4271
  rintro e s ⟨rfl,rfl⟩
  refine sO hP hn hm [] [(10,iV .i64 x4269)] [10] [] [0] ?_
  refine AWp.conv (inv:=[(0,0)]) (vk:=[]) (e0:=[]) (t:=⟨[(10,iV .i64 x4269)],[(0,some (.row 2 92 (x4270.map Z0)))],1⟩) (by kernel_rfl) ?_
  refine AWp.ret ?_
  obtain rfl:=sj H
  exact rl (.inl rfl) rfl (by kernel_rfl) (by kernel_rfl)
def Za.l0 (a0:List Z5) (a1:Int) (a2:Int) (a3:Int) (b4294:Z5) (b4297:Z5) (x4323:Int):Option (Int):=((if(decide (x4323≤(i64.wrap (a2-(1:Int)))))=true then((at? ((a0.set (Int.toNat (a1)) b4294).set (Int.toNat (a3)) b4297) x4323)>>=fun b4334=>(at? ((a0.set (Int.toNat (a1)) b4294).set (Int.toNat (a3)) b4297) a1)>>=fun b4337=>(Z0l.f b4334 b4337)>>=fun t4340=>some (decide (t4340<(0:Int)))) else(some false)):Option (Bool))>>=fun x4342=>if x4342=true then(Za.l0 a0 a1 a2 a3 b4294 b4297 (i64.wrap (x4323+(1:Int)))) else(some x4323)
partial_fixpoint
def Za.l1 (a0:List Z5) (a1:Int) (a3:Int) (b4294:Z5) (b4297:Z5) (x4344:Int) (x4365:Int):Option (Int):=((if(decide (x4344≤x4365))=true then((at? ((a0.set (Int.toNat (a1)) b4294).set (Int.toNat (a3)) b4297) x4365)>>=fun b4376=>(at? ((a0.set (Int.toNat (a1)) b4294).set (Int.toNat (a3)) b4297) a1)>>=fun b4379=>(Z0l.f b4376 b4379)>>=fun t4382=>some (!(decide (t4382<(0:Int))))) else(some false)):Option (Bool))>>=fun x4384=>if x4384=true then(Za.l1 a0 a1 a3 b4294 b4297 x4344 (i64.wrap (x4365-(1:Int)))) else(some x4365)
partial_fixpoint
def Za.l3 (a1:Int) (x4527:List Z5) (x4529:Int) (x4550:Int):Option (Int):=((if(decide (x4550≤x4529))=true then((at? x4527 x4550)>>=fun b4561=>(at? x4527 a1)>>=fun b4564=>(Z0l.f b4561 b4564)>>=fun t4567=>some (decide (t4567<(0:Int)))) else(some false)):Option (Bool))>>=fun x4569=>if x4569=true then(Za.l3 a1 x4527 x4529 (i64.wrap (x4550+(1:Int)))) else(some x4550)
partial_fixpoint
def Za.l4 (a1:Int) (x4527:List Z5) (x4571:Int) (x4592:Int):Option (Int):=((if(decide (x4571≤x4592))=true then((at? x4527 x4592)>>=fun b4603=>(at? x4527 a1)>>=fun b4606=>(Z0l.f b4603 b4606)>>=fun t4609=>some (!(decide (t4609<(0:Int))))) else(some false)):Option (Bool))>>=fun x4611=>if x4611=true then(Za.l4 a1 x4527 x4571 (i64.wrap (x4592-(1:Int)))) else(some x4592)
partial_fixpoint
def Za.l2 (a1:Int) (x4527:List Z5) (x4528:Int) (x4529:Int):Option ((List Z5)×Int):=(Za.l3 a1 x4527 x4529 x4528)>>=fun x4571=>(Za.l4 a1 x4527 x4571 x4529)>>=fun x4613=>if(decide (x4571>x4613))=true then(some (x4527,x4613)) else((at? x4527 x4613)>>=fun b4624=>(at? x4527 x4571)>>=fun b4627=>(at? (x4527.set (Int.toNat (x4571)) b4624) x4613)>>=fun b4630=>Za.l2 a1 ((x4527.set (Int.toNat (x4571)) b4624).set (Int.toNat (x4613)) b4627) (i64.wrap (x4571+(1:Int))) (i64.wrap (x4613-(1:Int))))
partial_fixpoint
def Za.f (a0:List Z5) (a1:Int) (a2:Int) (a3:Int):Option (Int×Bool×(List Z5)):=(at? a0 a3)>>=fun b4294=>(at? a0 a1)>>=fun b4297=>(at? (a0.set (Int.toNat (a1)) b4294) a3)>>=fun b4300=>(Za.l0 a0 a1 a2 a3 b4294 b4297 (i64.wrap (a1+(1:Int))))>>=fun x4344=>(Za.l1 a0 a1 a3 b4294 b4297 x4344 (i64.wrap (a2-(1:Int))))>>=fun x4386=>if(decide (x4344>x4386))=true then((at? ((a0.set (Int.toNat (a1)) b4294).set (Int.toNat (a3)) b4297) a1)>>=fun b4397=>(at? ((a0.set (Int.toNat (a1)) b4294).set (Int.toNat (a3)) b4297) x4386)>>=fun b4400=>(at? (((a0.set (Int.toNat (a1)) b4294).set (Int.toNat (a3)) b4297).set (Int.toNat (x4386)) b4397) a1)>>=fun b4403=>some (x4386,true,(((a0.set (Int.toNat (a1)) b4294).set (Int.toNat (a3)) b4297).set (Int.toNat (x4386)) b4397).set (Int.toNat (a1)) b4400)) else((at? ((a0.set (Int.toNat (a1)) b4294).set (Int.toNat (a3)) b4297) x4386)>>=fun b4415=>(at? ((a0.set (Int.toNat (a1)) b4294).set (Int.toNat (a3)) b4297) x4344)>>=fun b4418=>(at? (((a0.set (Int.toNat (a1)) b4294).set (Int.toNat (a3)) b4297).set (Int.toNat (x4344)) b4415) x4386)>>=fun b4421=>(Za.l2 a1 ((((a0.set (Int.toNat (a1)) b4294).set (Int.toNat (a3)) b4297).set (Int.toNat (x4344)) b4415).set (Int.toNat (x4386)) b4418) (i64.wrap (x4344+(1:Int))) (i64.wrap (x4386-(1:Int))))>>=fun oo=>match oo with | (x4633,x4634)=>((at? x4633 a1)>>=fun b4644=>(at? x4633 x4634)>>=fun b4647=>(at? (x4633.set (Int.toNat (x4634)) b4644) a1)>>=fun b4650=>some (x4634,false,(x4633.set (Int.toNat (x4634)) b4644).set (Int.toNat (a1)) b4647)))
theorem Za.ok (a0:List Z5) (a1:Int) (a2:Int) (a3:Int) (r:Int×Bool×(List Z5)) (H:Za.f a0 a1 a2 a3=some r):Pv.Fn Tryz.prog 145 [.own 0,iV .i64 a1,iV .i64 a2,iV .i64 a3,.im (.sc (.func (.func 78) #[] #[]))] [(0,some (.row 2 92 (a0.map Z0)))] 1 (fun x o=>x = .tup [iV .i64 r.1,bV r.2.1]∧o=[(0,some (.row 2 92 (r.2.2.map Z0)))]):=by
 unfold Za.f at H
 refine Fn.bodyK [0] Tryz.func145 rfl rfl (fun Γ hP hn => ?_)
 have hm:Tryz.prog.follows .mixedOrders=true:=by kernel_rfl
 replace hn:Γ.n=178:=hn
 refine sO hP hn hm [] [] [0,1,2,3,4] [] [0] ?_
 obtain⟨b4294,p4295,q4296,H⟩:=Z02 H
 obtain⟨b4297,p4298,q4299,H⟩:=Z02 H
 obtain⟨b4300,p4301,q4302,H⟩:=Z02 H
 refine sR hP hn hm [(7,.c (Z0 b4294)),(11,.c (Z0 b4297)),(13,.put (Z0 b4297) ((a0.set (Int.toNat (a1)) b4294).map Z0)),(15,.put (Z0 b4300) (((a0.set (Int.toNat (a1)) b4294).set (Int.toNat (a3)) b4297).map Z0))] [] [0,1,2,4] [(0,some (.row 2 92 (((a0.set (Int.toNat (a1)) b4294).set (Int.toNat (a3)) b4297).map Z0)))] [0] [_,_,_,_,_,_,_,_,_,(a0.set (Int.toNat (a1)) b4294).map Z0=(a0.map Z0).set (Int.toNat (a1)) (Z0t (Z0 b4297) 0 [iI .i64 b4294.f0,iI .i64 b4294.f1]),_,_,_,((a0.set (Int.toNat (a1)) b4294).set (Int.toNat (a3)) b4297).map Z0=((a0.set (Int.toNat (a1)) b4294).map Z0).set (Int.toNat (a3)) (Z0t (Z0 b4300) 0 [iI .i64 b4297.f0,iI .i64 b4297.f1])] ⟨p4295,Z09 Z0 p4295 q4296,Zi Z0 q4296,p4298,Z09 Z0 p4298 q4299,Zi Z0 q4299,p4298,Z09 Z0 p4298 q4299,Zi Z0 q4299,by exact set1 _ _ _ _,p4301,Z09 Z0 p4301 q4302,Zi Z0 q4302,by exact set1 _ _ _ _,trivial⟩ ?_
 refine sO hP hn hm [] [(12,iV .i64 (i64.wrap (a1+(1:Int)))),(13,iV .i64 (i64.wrap (a2-(1:Int))))] [0,1,4,12,13] [] [0] ?_
 refine AWp.seq ?_
 refine AWp.block ?_
 obtain⟨o4653,e4654,H⟩:=Z4 H
 refine AWp.loop (LWp.conv (inv:=[(0,0)]) (vk:=[]) (e0:=[]) (t:=⟨[(0,.own 0),(1,iV .i64 a1),(4,.im (.sc (.func (.func 78) #[] #[]))),(12,iV .i64 (i64.wrap (a1+(1:Int)))),(13,iV .i64 (i64.wrap (a2-(1:Int))))],[(0,some (.row 2 92 (((a0.set (Int.toNat (a1)) b4294).set (Int.toNat (a3)) b4297).map Z0)))],1⟩) (by kernel_rfl) ?_)
 refine LWp.mono (Q:=fun e s=>(match (generalizing:=false) o4653 with | x4344=>e = .exit 0∧s=⟨[(0,.own 0),(1,iV .i64 a1),(4,.im (.sc (.func (.func 78) #[] #[]))),(12,iV .i64 x4344),(13,iV .i64 (i64.wrap (a2-(1:Int))))],[(0,some (.row 2 92 (((a0.set (Int.toNat (a1)) b4294).set (Int.toNat (a3)) b4297).map Z0)))],1⟩)) (LWp.cv (Zs (fun body hbody => ?_))) ?_
 ·refine                                             Za.l0.partial_correctness a0 a1 a2 a3 b4294 b4297 (motive:=fun x4323 o4653=>LWp Γ body (fun e s=>∃ t,Cv Γ s t∧(match (generalizing:=false) o4653 with | x4344=>e = .exit 0∧t=⟨[(0,.own 0),(1,iV .i64 a1),(4,.im (.sc (.func (.func 78) #[] #[]))),(12,iV .i64 x4344),(13,iV .i64 (i64.wrap (a2-(1:Int))))],[(0,some (.row 2 92 (((a0.set (Int.toNat (a1)) b4294).set (Int.toNat (a3)) b4297).map Z0         )))],1⟩)) ⟨[(0,.own 0),(1,iV .i64 a1),(4,.im (.sc (.func (.func 78) #[] #[]))),(12,iV .i64 x4323),(13,iV .i64 (i64.wrap (a2-(1:Int))))],[(0,some (.row 2 92 (((a0.set (Int.toNat (a1)) b4294).set (Int.toNat (a3)) b4297).map Z0         )))],1⟩) ?_ _ _ e4654
  clear H e4654 o4653;intro self ih x4323 o4653 H
  subst hbody
  refine LWp.round ?_
  refine AWp.seq ?_
  refine AWp.seq ?_
  obtain⟨o4655,e4656,H⟩:=Z4 H
  refine AWp.mono (Q:=fun e s=>(match (generalizing:=false) o4655 with | x4342=>e = .normal∧s=⟨[(0,.own 0),(1,iV .i64 a1),(4,.im (.sc (.func (.func 78) #[] #[]))),(12,iV .i64 x4323),(13,iV .i64 (i64.wrap (a2-(1:Int)))),(47,bV x4342)],[(0,some (.row 2 92 (((a0.set (Int.toNat (a1)) b4294).set (Int.toNat (a3)) b4297).map Z0)))],1⟩)) (AWp.cv ?_) ?_
  ·replace H:=e4656;clear e4656
   rcases Bool.eq_false_or_eq_true (decide (x4323≤(i64.wrap (a2-(1:Int))))) with c4333 | c4333
   ·replace H:=iT c4333 H
    obtain⟨b4334,p4335,q4336,H⟩:=Z02 H
    obtain⟨b4337,p4338,q4339,H⟩:=Z02 H
    obtain⟨t4340,e4341,H⟩:=Z4 H
    refine rG hP hn hm [(3,.b true),(8,.c (Z0 b4334)),(12,.c (Z0 b4337)),(13,.call [] [] [] [] 0 (iV .i64 t4340) [])] [(36,.im (.sc (.func (.func 78) #[] #[]))),(37,.own 0),(38,iV .i64 x4323),(39,.ptr 0 (Int.toNat (x4323)) 0),(40,.agg [iV .i64 b4334.f0,iV .i64 b4334.f1]),(41,.own 0),(42,iV .i64 a1),(43,.ptr 0 (Int.toNat (a1)) 0),(44,.agg [iV .i64 b4337.f0,iV .i64 b4337.f1]),(45,iV .i64 t4340),(46,bV (decide (t4340<(0:Int)))),(47,bV (decide (t4340<(0:Int))))] [0,1,4,12,13,36,37,38,39,40,41,42,43,44,45,46,47] [] [0] [_,_,_,_,_,_,_,_,_] ⟨c4333,p4335,Z09 Z0 p4335 q4336,Zi Z0 q4336,p4338,Z09 Z0 p4338 q4339,Zi Z0 q4339,Tryz.call78,Z0l.ok b4334 b4337 t4340 e4341,trivial⟩ ?_
    obtain rfl:=sj H
    exact lf [(0,0)] [] [] (by kernel_rfl) ⟨rfl,rfl⟩
   ·replace H:=iF c4333 H
    refine rG hP hn hm [(3,.b false)] [(47,bV false)] [0,1,4,12,13,47] [] [0] [_] ⟨c4333,trivial⟩ ?_
    obtain rfl:=sj H
    exact lf [(0,0)] [] [] (by kernel_rfl) ⟨rfl,rfl⟩
  ·obtain⟨x4342,rfl⟩:∃ z,z=o4655:=⟨_,rfl⟩
   rintro e s ⟨rfl,rfl⟩
   refine AWp.cond x4342 (by kernel_rfl) (fun c4343 => ?_) (fun c4343 => ?_)
   ·replace H:=iT c4343 H
    refine AWp.skip ?_
    refine AWp.block ?_
    refine rO hP hn hm [] [(12,iV .i64 (i64.wrap (x4323+(1:Int))))] [0,1,4,12,13] [] [0] ?_
    exact LWp.conv [(0,0)] [] [] (by kernel_rfl) (ih _ _ H)
   ·replace H:=iF c4343 H
    refine AWp.exit ?_
    obtain rfl:=sj H
    exact lf [(0,0)] [] [] (by kernel_rfl) ⟨rfl,rfl⟩
 ·obtain⟨x4344,rfl⟩:∃ z,z=o4653:=⟨_,rfl⟩
  rintro e s ⟨rfl,rfl⟩
  refine AWp.seq ?_
  refine AWp.block ?_
  obtain⟨o4657,e4658,H⟩:=Z4 H
  refine AWp.loop (LWp.conv (inv:=[(0,0)]) (vk:=[]) (e0:=[]) (t:=⟨[(0,.own 0),(1,iV .i64 a1),(4,.im (.sc (.func (.func 78) #[] #[]))),(12,iV .i64 x4344),(13,iV .i64 (i64.wrap (a2-(1:Int))))],[(0,some (.row 2 92 (((a0.set (Int.toNat (a1)) b4294).set (Int.toNat (a3)) b4297).map Z0)))],1⟩) (by kernel_rfl) ?_)
  refine LWp.mono (Q:=fun e s=>(match (generalizing:=false) o4657 with | x4386=>e = .exit 2∧s=⟨[(0,.own 0),(1,iV .i64 a1),(4,.im (.sc (.func (.func 78) #[] #[]))),(12,iV .i64 x4344),(13,iV .i64 x4386)],[(0,some (.row 2 92 (((a0.set (Int.toNat (a1)) b4294).set (Int.toNat (a3)) b4297).map Z0)))],1⟩)) (LWp.cv (Zs (fun body hbody => ?_))) ?_
  ·refine                                             Za.l1.partial_correctness a0 a1 a3 b4294 b4297 x4344 (motive:=fun x4365 o4657=>LWp Γ body (fun e s=>∃ t,Cv Γ s t∧(match (generalizing:=false) o4657 with | x4386=>e = .exit 2∧t=⟨[(0,.own 0),(1,iV .i64 a1),(4,.im (.sc (.func (.func 78) #[] #[]))),(12,iV .i64 x4344),(13,iV .i64 x4386)],[(0,some (.row 2 92 (((a0.set (Int.toNat (a1)) b4294).set (Int.toNat (a3)) b4297).map Z0         )))],1⟩)) ⟨[(0,.own 0),(1,iV .i64 a1),(4,.im (.sc (.func (.func 78) #[] #[]))),(12,iV .i64 x4344),(13,iV .i64 x4365)],[(0,some (.row 2 92 (((a0.set (Int.toNat (a1)) b4294).set (Int.toNat (a3)) b4297).map Z0         )))],1⟩) ?_ _ _ e4658
   clear H e4658 o4657;intro self ih x4365 o4657 H
   subst hbody
   refine LWp.round ?_
   refine AWp.seq ?_
   refine AWp.seq ?_
   obtain⟨o4659,e4660,H⟩:=Z4 H
   refine AWp.mono (Q:=fun e s=>(match (generalizing:=false) o4659 with | x4384=>e = .normal∧s=⟨[(0,.own 0),(1,iV .i64 a1),(4,.im (.sc (.func (.func 78) #[] #[]))),(12,iV .i64 x4344),(13,iV .i64 x4365),(66,bV x4384)],[(0,some (.row 2 92 (((a0.set (Int.toNat (a1)) b4294).set (Int.toNat (a3)) b4297).map Z0)))],1⟩)) (AWp.cv ?_) ?_
   ·replace H:=e4660;clear e4660
    rcases Bool.eq_false_or_eq_true (decide (x4344≤x4365)) with c4375 | c4375
    ·replace H:=iT c4375 H
     obtain⟨b4376,p4377,q4378,H⟩:=Z02 H
     obtain⟨b4379,p4380,q4381,H⟩:=Z02 H
     obtain⟨t4382,e4383,H⟩:=Z4 H
     refine rG hP hn hm [(3,.b true),(8,.c (Z0 b4376)),(12,.c (Z0 b4379)),(13,.call [] [] [] [] 0 (iV .i64 t4382) [])] [(54,.im (.sc (.func (.func 78) #[] #[]))),(55,.own 0),(56,iV .i64 x4365),(57,.ptr 0 (Int.toNat (x4365)) 0),(58,.agg [iV .i64 b4376.f0,iV .i64 b4376.f1]),(59,.own 0),(60,iV .i64 a1),(61,.ptr 0 (Int.toNat (a1)) 0),(62,.agg [iV .i64 b4379.f0,iV .i64 b4379.f1]),(63,iV .i64 t4382),(64,bV (decide (t4382<(0:Int)))),(65,bV (!(decide (t4382<(0:Int))))),(66,bV (!(decide (t4382<(0:Int)))))] [0,1,4,12,13,54,55,56,57,58,59,60,61,62,63,64,65,66] [] [0] [_,_,_,_,_,_,_,_,_] ⟨c4375,p4377,Z09 Z0 p4377 q4378,Zi Z0 q4378,p4380,Z09 Z0 p4380 q4381,Zi Z0 q4381,Tryz.call78,Z0l.ok b4376 b4379 t4382 e4383,trivial⟩ ?_
     obtain rfl:=sj H
     exact lf [(0,0)] [] [] (by kernel_rfl) ⟨rfl,rfl⟩
    ·replace H:=iF c4375 H
     refine rG hP hn hm [(3,.b false)] [(66,bV false)] [0,1,4,12,13,66] [] [0] [_] ⟨c4375,trivial⟩ ?_
     obtain rfl:=sj H
     exact lf [(0,0)] [] [] (by kernel_rfl) ⟨rfl,rfl⟩
   ·obtain⟨x4384,rfl⟩:∃ z,z=o4659:=⟨_,rfl⟩
    rintro e s ⟨rfl,rfl⟩
    refine AWp.cond x4384 (by kernel_rfl) (fun c4385 => ?_) (fun c4385 => ?_)
    ·replace H:=iT c4385 H
     refine AWp.skip ?_
     refine AWp.block ?_
     refine rO hP hn hm [] [(13,iV .i64 (i64.wrap (x4365-(1:Int))))] [0,1,4,12,13] [] [0] ?_
     exact LWp.conv [(0,0)] [] [] (by kernel_rfl) (ih _ _ H)
    ·replace H:=iF c4385 H
     refine AWp.exit ?_
     obtain rfl:=sj H
     exact lf [(0,0)] [] [] (by kernel_rfl) ⟨rfl,rfl⟩
  ·obtain⟨x4386,rfl⟩:∃ z,z=o4657:=⟨_,rfl⟩
   rintro e s ⟨rfl,rfl⟩
   refine AWp.seq ?_
   refine sO hP hn hm [] [(71,bV (decide (x4344>x4386)))] [0,1,4,12,13,71] [] [0] ?_
   refine AWp.cond (decide (x4344>x4386)) (by kernel_rfl) (fun c4387 => ?_) (fun c4387 => ?_)
   ·replace H:=iT c4387 H
    obtain⟨b4397,p4398,q4399,H⟩:=Z02 H
    obtain⟨b4400,p4401,q4402,H⟩:=Z02 H
    obtain⟨b4403,p4404,q4405,H⟩:=Z02 H
    refine sR hP hn hm [(7,.c (Z0 b4397)),(11,.c (Z0 b4400)),(13,.put (Z0 b4400) ((((a0.set (Int.toNat (a1)) b4294).set (Int.toNat (a3)) b4297).set (Int.toNat (x4386)) b4397).map Z0)),(15,.put (Z0 b4403) (((((a0.set (Int.toNat (a1)) b4294).set (Int.toNat (a3)) b4297).set (Int.toNat (x4386)) b4397).set (Int.toNat (a1)) b4400).map Z0))] [] [13] [(0,some (.row 2 92 (((((a0.set (Int.toNat (a1)) b4294).set (Int.toNat (a3)) b4297).set (Int.toNat (x4386)) b4397).set (Int.toNat (a1)) b4400).map Z0)))] [0] [_,_,_,_,_,_,_,_,_,(((a0.set (Int.toNat (a1)) b4294).set (Int.toNat (a3)) b4297).set (Int.toNat (x4386)) b4397).map Z0=(((a0.set (Int.toNat (a1)) b4294).set (Int.toNat (a3)) b4297).map Z0).set (Int.toNat (x4386)) (Z0t (Z0 b4400) 0 [iI .i64 b4397.f0,iI .i64 b4397.f1]),_,_,_,((((a0.set (Int.toNat (a1)) b4294).set (Int.toNat (a3)) b4297).set (Int.toNat (x4386)) b4397).set (Int.toNat (a1)) b4400).map Z0=((((a0.set (Int.toNat (a1)) b4294).set (Int.toNat (a3)) b4297).set (Int.toNat (x4386)) b4397).map Z0).set (Int.toNat (a1)) (Z0t (Z0 b4403) 0 [iI .i64 b4400.f0,iI .i64 b4400.f1])] ⟨p4398,Z09 Z0 p4398 q4399,Zi Z0 q4399,p4401,Z09 Z0 p4401 q4402,Zi Z0 q4402,p4401,Z09 Z0 p4401 q4402,Zi Z0 q4402,by exact set1 _ _ _ _,p4404,Z09 Z0 p4404 q4405,Zi Z0 q4405,by exact set1 _ _ _ _,trivial⟩ ?_
    refine sO hP hn hm [] [(10,iV .i64 x4386),(11,bV true)] [10,11] [] [0] ?_
    refine AWp.conv (inv:=[(0,0)]) (vk:=[]) (e0:=[]) (t:=⟨[(10,iV .i64 x4386),(11,bV true)],[(0,some (.row 2 92 (((((a0.set (Int.toNat (a1)) b4294).set (Int.toNat (a3)) b4297).set (Int.toNat (x4386)) b4397).set (Int.toNat (a1)) b4400).map Z0)))],1⟩) (by kernel_rfl) ?_
    refine AWp.ret ?_
    obtain rfl:=sj H
    exact rl (.inl rfl) rfl (by kernel_rfl) (by kernel_rfl)
   ·replace H:=iF c4387 H
    refine AWp.skip ?_
    obtain⟨b4415,p4416,q4417,H⟩:=Z02 H
    obtain⟨b4418,p4419,q4420,H⟩:=Z02 H
    obtain⟨b4421,p4422,q4423,H⟩:=Z02 H
    refine sR hP hn hm [(7,.c (Z0 b4415)),(11,.c (Z0 b4418)),(13,.put (Z0 b4418) ((((a0.set (Int.toNat (a1)) b4294).set (Int.toNat (a3)) b4297).set (Int.toNat (x4344)) b4415).map Z0)),(15,.put (Z0 b4421) (((((a0.set (Int.toNat (a1)) b4294).set (Int.toNat (a3)) b4297).set (Int.toNat (x4344)) b4415).set (Int.toNat (x4386)) b4418).map Z0))] [] [0,1,4,12,13] [(0,some (.row 2 92 (((((a0.set (Int.toNat (a1)) b4294).set (Int.toNat (a3)) b4297).set (Int.toNat (x4344)) b4415).set (Int.toNat (x4386)) b4418).map Z0)))] [0] [_,_,_,_,_,_,_,_,_,(((a0.set (Int.toNat (a1)) b4294).set (Int.toNat (a3)) b4297).set (Int.toNat (x4344)) b4415).map Z0=(((a0.set (Int.toNat (a1)) b4294).set (Int.toNat (a3)) b4297).map Z0).set (Int.toNat (x4344)) (Z0t (Z0 b4418) 0 [iI .i64 b4415.f0,iI .i64 b4415.f1]),_,_,_,((((a0.set (Int.toNat (a1)) b4294).set (Int.toNat (a3)) b4297).set (Int.toNat (x4344)) b4415).set (Int.toNat (x4386)) b4418).map Z0=((((a0.set (Int.toNat (a1)) b4294).set (Int.toNat (a3)) b4297).set (Int.toNat (x4344)) b4415).map Z0).set (Int.toNat (x4386)) (Z0t (Z0 b4421) 0 [iI .i64 b4418.f0,iI .i64 b4418.f1])] ⟨p4416,Z09 Z0 p4416 q4417,Zi Z0 q4417,p4419,Z09 Z0 p4419 q4420,Zi Z0 q4420,p4419,Z09 Z0 p4419 q4420,Zi Z0 q4420,by exact set1 _ _ _ _,p4422,Z09 Z0 p4422 q4423,Zi Z0 q4423,by exact set1 _ _ _ _,trivial⟩ ?_
    refine sO hP hn hm [] [(12,iV .i64 (i64.wrap (x4344+(1:Int))))] [0,1,4,12,13] [] [0] ?_
    refine sO hP hn hm [] [(13,iV .i64 (i64.wrap (x4386-(1:Int))))] [0,1,4,12,13] [] [0] ?_
    refine AWp.seq ?_
    refine AWp.block ?_
    obtain⟨o4661,e4662,H⟩:=Z4 H
    refine AWp.loop (LWp.conv (inv:=[(0,0)]) (vk:=[]) (e0:=[]) (t:=⟨[(0,.own 0),(1,iV .i64 a1),(4,.im (.sc (.func (.func 78) #[] #[]))),(12,iV .i64 (i64.wrap (x4344+(1:Int)))),(13,iV .i64 (i64.wrap (x4386-(1:Int))))],[(0,some (.row 2 92 (((((a0.set (Int.toNat (a1)) b4294).set (Int.toNat (a3)) b4297).set (Int.toNat (x4344)) b4415).set (Int.toNat (x4386)) b4418).map Z0)))],1⟩) (by kernel_rfl) ?_)
    refine LWp.mono (Q:=fun e s=>(match (generalizing:=false) o4661 with | (x4633,x4634)=>e = .exit 4∧s=⟨[(0,.own 0),(1,iV .i64 a1),(13,iV .i64 x4634)],[(0,some (.row 2 92 (x4633.map Z0)))],1⟩)) (LWp.cv (Zs (fun body hbody => ?_))) ?_
    ·refine                                             Za.l2.partial_correctness a1 (motive:=fun x4527 x4528 x4529 o4661=>LWp Γ body (fun e s=>∃ t,Cv Γ s t∧(match (generalizing:=false) o4661 with | (x4633,x4634)=>e = .exit 4∧t=⟨[(0,.own 0),(1,iV .i64 a1),(13,iV .i64 x4634)],[(0,some (.row 2 92 (x4633.map Z0         )))],1⟩)) ⟨[(0,.own 0),(1,iV .i64 a1),(4,.im (.sc (.func (.func 78) #[] #[]))),(12,iV .i64 x4528),(13,iV .i64 x4529)],[(0,some (.row 2 92 (x4527.map Z0         )))],1⟩) ?_ _ _ _ _ e4662
     clear H e4662 o4661;intro self ih x4527 x4528 x4529 o4661 H
     subst hbody
     refine LWp.round ?_
     refine AWp.block ?_
     refine AWp.seq ?_
     refine AWp.block ?_
     obtain⟨o4663,e4664,H⟩:=Z4 H
     refine AWp.loop (LWp.conv (inv:=[(0,0)]) (vk:=[]) (e0:=[]) (t:=⟨[(0,.own 0),(1,iV .i64 a1),(4,.im (.sc (.func (.func 78) #[] #[]))),(12,iV .i64 x4528),(13,iV .i64 x4529)],[(0,some (.row 2 92 (x4527.map Z0)))],1⟩) (by kernel_rfl) ?_)
     refine LWp.mono (Q:=fun e s=>(match (generalizing:=false) o4663 with | x4571=>e = .exit 6∧s=⟨[(0,.own 0),(1,iV .i64 a1),(4,.im (.sc (.func (.func 78) #[] #[]))),(12,iV .i64 x4571),(13,iV .i64 x4529)],[(0,some (.row 2 92 (x4527.map Z0)))],1⟩)) (LWp.cv (Zs (fun body hbody => ?_))) ?_
     ·refine                                             Za.l3.partial_correctness a1 x4527 x4529 (motive:=fun x4550 o4663=>LWp Γ body (fun e s=>∃ t,Cv Γ s t∧(match (generalizing:=false) o4663 with | x4571=>e = .exit 6∧t=⟨[(0,.own 0),(1,iV .i64 a1),(4,.im (.sc (.func (.func 78) #[] #[]))),(12,iV .i64 x4571),(13,iV .i64 x4529)],[(0,some (.row 2 92 (x4527.map Z0         )))],1⟩)) ⟨[(0,.own 0),(1,iV .i64 a1),(4,.im (.sc (.func (.func 78) #[] #[]))),(12,iV .i64 x4550),(13,iV .i64 x4529)],[(0,some (.row 2 92 (x4527.map Z0         )))],1⟩) ?_ _ _ e4664
      clear H e4664 o4663;intro self ih x4550 o4663 H
      subst hbody
      refine LWp.round ?_
      refine AWp.seq ?_
      refine AWp.seq ?_
      obtain⟨o4665,e4666,H⟩:=Z4 H
      refine AWp.mono (Q:=fun e s=>(match (generalizing:=false) o4665 with | x4569=>e = .normal∧s=⟨[(0,.own 0),(1,iV .i64 a1),(4,.im (.sc (.func (.func 78) #[] #[]))),(12,iV .i64 x4550),(13,iV .i64 x4529),(120,bV x4569)],[(0,some (.row 2 92 (x4527.map Z0)))],1⟩)) (AWp.cv ?_) ?_
      ·replace H:=e4666;clear e4666
       rcases Bool.eq_false_or_eq_true (decide (x4550≤x4529)) with c4560 | c4560
       ·replace H:=iT c4560 H
        obtain⟨b4561,p4562,q4563,H⟩:=Z02 H
        obtain⟨b4564,p4565,q4566,H⟩:=Z02 H
        obtain⟨t4567,e4568,H⟩:=Z4 H
        refine rG hP hn hm [(3,.b true),(8,.c (Z0 b4561)),(12,.c (Z0 b4564)),(13,.call [] [] [] [] 0 (iV .i64 t4567) [])] [(109,.im (.sc (.func (.func 78) #[] #[]))),(110,.own 0),(111,iV .i64 x4550),(112,.ptr 0 (Int.toNat (x4550)) 0),(113,.agg [iV .i64 b4561.f0,iV .i64 b4561.f1]),(114,.own 0),(115,iV .i64 a1),(116,.ptr 0 (Int.toNat (a1)) 0),(117,.agg [iV .i64 b4564.f0,iV .i64 b4564.f1]),(118,iV .i64 t4567),(119,bV (decide (t4567<(0:Int)))),(120,bV (decide (t4567<(0:Int))))] [0,1,4,12,13,109,110,111,112,113,114,115,116,117,118,119,120] [] [0] [_,_,_,_,_,_,_,_,_] ⟨c4560,p4562,Z09 Z0 p4562 q4563,Zi Z0 q4563,p4565,Z09 Z0 p4565 q4566,Zi Z0 q4566,Tryz.call78,Z0l.ok b4561 b4564 t4567 e4568,trivial⟩ ?_
        obtain rfl:=sj H
        exact lf [(0,0)] [] [] (by kernel_rfl) ⟨rfl,rfl⟩
       ·replace H:=iF c4560 H
        refine rG hP hn hm [(3,.b false)] [(120,bV false)] [0,1,4,12,13,120] [] [0] [_] ⟨c4560,trivial⟩ ?_
        obtain rfl:=sj H
        exact lf [(0,0)] [] [] (by kernel_rfl) ⟨rfl,rfl⟩
      ·obtain⟨x4569,rfl⟩:∃ z,z=o4665:=⟨_,rfl⟩
       rintro e s ⟨rfl,rfl⟩
       refine AWp.cond x4569 (by kernel_rfl) (fun c4570 => ?_) (fun c4570 => ?_)
       ·replace H:=iT c4570 H
        refine AWp.skip ?_
        refine AWp.block ?_
        refine rO hP hn hm [] [(12,iV .i64 (i64.wrap (x4550+(1:Int))))] [0,1,4,12,13] [] [0] ?_
        exact LWp.conv [(0,0)] [] [] (by kernel_rfl) (ih _ _ H)
       ·replace H:=iF c4570 H
        refine AWp.exit ?_
        obtain rfl:=sj H
        exact lf [(0,0)] [] [] (by kernel_rfl) ⟨rfl,rfl⟩
     ·obtain⟨x4571,rfl⟩:∃ z,z=o4663:=⟨_,rfl⟩
      rintro e s ⟨rfl,rfl⟩
      refine AWp.seq ?_
      refine AWp.block ?_
      obtain⟨o4667,e4668,H⟩:=Z4 H
      refine AWp.loop (LWp.conv (inv:=[(0,0)]) (vk:=[]) (e0:=[]) (t:=⟨[(0,.own 0),(1,iV .i64 a1),(4,.im (.sc (.func (.func 78) #[] #[]))),(12,iV .i64 x4571),(13,iV .i64 x4529)],[(0,some (.row 2 92 (x4527.map Z0)))],1⟩) (by kernel_rfl) ?_)
      refine LWp.mono (Q:=fun e s=>(match (generalizing:=false) o4667 with | x4613=>e = .exit 8∧s=⟨[(0,.own 0),(1,iV .i64 a1),(4,.im (.sc (.func (.func 78) #[] #[]))),(12,iV .i64 x4571),(13,iV .i64 x4613)],[(0,some (.row 2 92 (x4527.map Z0)))],1⟩)) (LWp.cv (Zs (fun body hbody => ?_))) ?_
      ·refine                                             Za.l4.partial_correctness a1 x4527 x4571 (motive:=fun x4592 o4667=>LWp Γ body (fun e s=>∃ t,Cv Γ s t∧(match (generalizing:=false) o4667 with | x4613=>e = .exit 8∧t=⟨[(0,.own 0),(1,iV .i64 a1),(4,.im (.sc (.func (.func 78) #[] #[]))),(12,iV .i64 x4571),(13,iV .i64 x4613)],[(0,some (.row 2 92 (x4527.map Z0         )))],1⟩)) ⟨[(0,.own 0),(1,iV .i64 a1),(4,.im (.sc (.func (.func 78) #[] #[]))),(12,iV .i64 x4571),(13,iV .i64 x4592)],[(0,some (.row 2 92 (x4527.map Z0         )))],1⟩) ?_ _ _ e4668
       clear H e4668 o4667;intro self ih x4592 o4667 H
       subst hbody
       refine LWp.round ?_
       refine AWp.seq ?_
       refine AWp.seq ?_
       obtain⟨o4669,e4670,H⟩:=Z4 H
       refine AWp.mono (Q:=fun e s=>(match (generalizing:=false) o4669 with | x4611=>e = .normal∧s=⟨[(0,.own 0),(1,iV .i64 a1),(4,.im (.sc (.func (.func 78) #[] #[]))),(12,iV .i64 x4571),(13,iV .i64 x4592),(139,bV x4611)],[(0,some (.row 2 92 (x4527.map Z0)))],1⟩)) (AWp.cv ?_) ?_
       ·replace H:=e4670;clear e4670
        rcases Bool.eq_false_or_eq_true (decide (x4571≤x4592)) with c4602 | c4602
        ·replace H:=iT c4602 H
         obtain⟨b4603,p4604,q4605,H⟩:=Z02 H
         obtain⟨b4606,p4607,q4608,H⟩:=Z02 H
         obtain⟨t4609,e4610,H⟩:=Z4 H
         refine rG hP hn hm [(3,.b true),(8,.c (Z0 b4603)),(12,.c (Z0 b4606)),(13,.call [] [] [] [] 0 (iV .i64 t4609) [])] [(127,.im (.sc (.func (.func 78) #[] #[]))),(128,.own 0),(129,iV .i64 x4592),(130,.ptr 0 (Int.toNat (x4592)) 0),(131,.agg [iV .i64 b4603.f0,iV .i64 b4603.f1]),(132,.own 0),(133,iV .i64 a1),(134,.ptr 0 (Int.toNat (a1)) 0),(135,.agg [iV .i64 b4606.f0,iV .i64 b4606.f1]),(136,iV .i64 t4609),(137,bV (decide (t4609<(0:Int)))),(138,bV (!(decide (t4609<(0:Int))))),(139,bV (!(decide (t4609<(0:Int)))))] [0,1,4,12,13,127,128,129,130,131,132,133,134,135,136,137,138,139] [] [0] [_,_,_,_,_,_,_,_,_] ⟨c4602,p4604,Z09 Z0 p4604 q4605,Zi Z0 q4605,p4607,Z09 Z0 p4607 q4608,Zi Z0 q4608,Tryz.call78,Z0l.ok b4603 b4606 t4609 e4610,trivial⟩ ?_
         obtain rfl:=sj H
         exact lf [(0,0)] [] [] (by kernel_rfl) ⟨rfl,rfl⟩
        ·replace H:=iF c4602 H
         refine rG hP hn hm [(3,.b false)] [(139,bV false)] [0,1,4,12,13,139] [] [0] [_] ⟨c4602,trivial⟩ ?_
         obtain rfl:=sj H
         exact lf [(0,0)] [] [] (by kernel_rfl) ⟨rfl,rfl⟩
       ·obtain⟨x4611,rfl⟩:∃ z,z=o4669:=⟨_,rfl⟩
        rintro e s ⟨rfl,rfl⟩
        refine AWp.cond x4611 (by kernel_rfl) (fun c4612 => ?_) (fun c4612 => ?_)
        ·replace H:=iT c4612 H
         refine AWp.skip ?_
         refine AWp.block ?_
         refine rO hP hn hm [] [(13,iV .i64 (i64.wrap (x4592-(1:Int))))] [0,1,4,12,13] [] [0] ?_
         exact LWp.conv [(0,0)] [] [] (by kernel_rfl) (ih _ _ H)
        ·replace H:=iF c4612 H
         refine AWp.exit ?_
         obtain rfl:=sj H
         exact lf [(0,0)] [] [] (by kernel_rfl) ⟨rfl,rfl⟩
      ·obtain⟨x4613,rfl⟩:∃ z,z=o4667:=⟨_,rfl⟩
       rintro e s ⟨rfl,rfl⟩
       refine AWp.seq ?_
       refine sO hP hn hm [] [(144,bV (decide (x4571>x4613)))] [0,1,4,12,13,144] [] [0] ?_
       refine AWp.cond (decide (x4571>x4613)) (by kernel_rfl) (fun c4614 => ?_) (fun c4614 => ?_)
       ·replace H:=iT c4614 H
        refine AWp.exit ?_
        obtain rfl:=sj H
        exact lf [(0,0)] [] [] (by kernel_rfl) ⟨rfl,rfl⟩
       ·replace H:=iF c4614 H
        refine AWp.skip ?_
        obtain⟨b4624,p4625,q4626,H⟩:=Z02 H
        obtain⟨b4627,p4628,q4629,H⟩:=Z02 H
        obtain⟨b4630,p4631,q4632,H⟩:=Z02 H
        refine sR hP hn hm [(7,.c (Z0 b4624)),(11,.c (Z0 b4627)),(13,.put (Z0 b4627) ((x4527.set (Int.toNat (x4571)) b4624).map Z0)),(15,.put (Z0 b4630) (((x4527.set (Int.toNat (x4571)) b4624).set (Int.toNat (x4613)) b4627).map Z0))] [] [0,1,4,12,13] [(0,some (.row 2 92 (((x4527.set (Int.toNat (x4571)) b4624).set (Int.toNat (x4613)) b4627).map Z0)))] [0] [_,_,_,_,_,_,_,_,_,(x4527.set (Int.toNat (x4571)) b4624).map Z0=(x4527.map Z0).set (Int.toNat (x4571)) (Z0t (Z0 b4627) 0 [iI .i64 b4624.f0,iI .i64 b4624.f1]),_,_,_,((x4527.set (Int.toNat (x4571)) b4624).set (Int.toNat (x4613)) b4627).map Z0=((x4527.set (Int.toNat (x4571)) b4624).map Z0).set (Int.toNat (x4613)) (Z0t (Z0 b4630) 0 [iI .i64 b4627.f0,iI .i64 b4627.f1])] ⟨p4625,Z09 Z0 p4625 q4626,Zi Z0 q4626,p4628,Z09 Z0 p4628 q4629,Zi Z0 q4629,p4628,Z09 Z0 p4628 q4629,Zi Z0 q4629,by exact set1 _ _ _ _,p4631,Z09 Z0 p4631 q4632,Zi Z0 q4632,by exact set1 _ _ _ _,trivial⟩ ?_
        refine sO hP hn hm [] [(12,iV .i64 (i64.wrap (x4571+(1:Int))))] [0,1,4,12,13] [] [0] ?_
        refine rO hP hn hm [] [(13,iV .i64 (i64.wrap (x4613-(1:Int))))] [0,1,4,12,13] [] [0] ?_
        exact LWp.conv [(0,0)] [] [] (by kernel_rfl) (ih _ _ _ _ H)
    ·obtain⟨x4633,x4634⟩:=o4661
     rintro e s ⟨rfl,rfl⟩
     obtain⟨b4644,p4645,q4646,H⟩:=Z02 H
     obtain⟨b4647,p4648,q4649,H⟩:=Z02 H
     obtain⟨b4650,p4651,q4652,H⟩:=Z02 H
     refine sR hP hn hm [(7,.c (Z0 b4644)),(11,.c (Z0 b4647)),(13,.put (Z0 b4647) ((x4633.set (Int.toNat (x4634)) b4644).map Z0)),(15,.put (Z0 b4650) (((x4633.set (Int.toNat (x4634)) b4644).set (Int.toNat (a1)) b4647).map Z0))] [] [13] [(0,some (.row 2 92 (((x4633.set (Int.toNat (x4634)) b4644).set (Int.toNat (a1)) b4647).map Z0)))] [0] [_,_,_,_,_,_,_,_,_,(x4633.set (Int.toNat (x4634)) b4644).map Z0=(x4633.map Z0).set (Int.toNat (x4634)) (Z0t (Z0 b4647) 0 [iI .i64 b4644.f0,iI .i64 b4644.f1]),_,_,_,((x4633.set (Int.toNat (x4634)) b4644).set (Int.toNat (a1)) b4647).map Z0=((x4633.set (Int.toNat (x4634)) b4644).map Z0).set (Int.toNat (a1)) (Z0t (Z0 b4650) 0 [iI .i64 b4647.f0,iI .i64 b4647.f1])] ⟨p4645,Z09 Z0 p4645 q4646,Zi Z0 q4646,p4648,Z09 Z0 p4648 q4649,Zi Z0 q4649,p4648,Z09 Z0 p4648 q4649,Zi Z0 q4649,by exact set1 _ _ _ _,p4651,Z09 Z0 p4651 q4652,Zi Z0 q4652,by exact set1 _ _ _ _,trivial⟩ ?_
     refine sO hP hn hm [] [(10,iV .i64 x4634),(11,bV false)] [10,11] [] [0] ?_
     refine AWp.conv (inv:=[(0,0)]) (vk:=[]) (e0:=[]) (t:=⟨[(10,iV .i64 x4634),(11,bV false)],[(0,some (.row 2 92 (((x4633.set (Int.toNat (x4634)) b4644).set (Int.toNat (a1)) b4647).map Z0)))],1⟩) (by kernel_rfl) ?_
     refine AWp.ret ?_
     obtain rfl:=sj H
     exact rl (.inl rfl) rfl (by kernel_rfl) (by kernel_rfl)
def Z2d.f (a0:Int):Option (Int):=(Z4f.f (u64.wrap (a0)))>>=fun t4715=>(chk (0≤t4715))>>=fun _=>some (u64.wrap ((1:Int)*2 ^ (min (Int.toNat (t4715)) 64)))
theorem Z2d.ok (a0:Int) (r:Int) (H:Z2d.f a0=some r):Pv.Fn Tryz.prog 167 [iV .i64 a0] [] 0 (fun x o=>x=iV .u64 r∧o=[]):=by
 unfold Z2d.f at H
 refine Fn.bodyK [] Tryz.func167 rfl rfl (fun Γ hP hn => ?_)
 have hm:Tryz.prog.follows .mixedOrders=true:=by kernel_rfl
 replace hn:Γ.n=7:=hn
 refine sO hP hn hm [] [] [0] [] [] ?_
 obtain⟨t4715,e4716,H⟩:=Z4 H
 obtain⟨c4717,H⟩:=Z10 H
 refine sR hP hn hm [(2,.call [] [] [] [] 0 (iV .i64 t4715) [])] [(2,iV .u64 (u64.wrap ((1:Int)*2 ^ (min (Int.toNat (t4715)) 64))))] [2] [] [] [_,_,_] ⟨Tryz.call112,Z4f.ok (u64.wrap (a0)) t4715 e4716,c4717,trivial⟩ ?_
 refine AWp.conv (inv:=[]) (vk:=[]) (e0:=[]) (t:=⟨[(2,iV .u64 (u64.wrap ((1:Int)*2 ^ (min (Int.toNat (t4715)) 64))))],[],0⟩) (by kernel_rfl) ?_
 refine AWp.ret ?_
 obtain rfl:=sj H
 exact rl (.inl rfl) rfl (by kernel_rfl) (by kernel_rfl)
def Z1x.f (a0_c0:Int):Option (Unit):=some ()
theorem Z1x.ok (a0_c0:Int) (r:Unit) (H:Z1x.f a0_c0=some r):Pv.Fn Tryz.prog 168 [.ptr 0 0 0] [(0,some (.box 240 [iV .u64 a0_c0]))] 1 (fun x o=>x=iV .u64 (u64.wrap (((BitVec.toNat (BitVec.ofInt 64 (u64.wrap (((BitVec.toNat (BitVec.ofInt 64 (u64.wrap (((BitVec.toNat (BitVec.ofInt 64 a0_c0 ^^^ BitVec.ofInt 64 (u64.wrap (a0_c0*8192))):Nat):Int))) ^^^ BitVec.ofInt 64 (Int.fdiv (u64.wrap (((BitVec.toNat (BitVec.ofInt 64 a0_c0 ^^^ BitVec.ofInt 64 (u64.wrap (a0_c0*8192))):Nat):Int))) 128)):Nat):Int))) ^^^ BitVec.ofInt 64 (u64.wrap ((u64.wrap (((BitVec.toNat (BitVec.ofInt 64 (u64.wrap (((BitVec.toNat (BitVec.ofInt 64 a0_c0 ^^^ BitVec.ofInt 64 (u64.wrap (a0_c0*8192))):Nat):Int))) ^^^ BitVec.ofInt 64 (Int.fdiv (u64.wrap (((BitVec.toNat (BitVec.ofInt 64 a0_c0 ^^^ BitVec.ofInt 64 (u64.wrap (a0_c0*8192))):Nat):Int))) 128)):Nat):Int)))*131072))):Nat):Int)))∧o=[(0,some (.box 240 [iV .u64 (u64.wrap (((BitVec.toNat (BitVec.ofInt 64 (u64.wrap (((BitVec.toNat (BitVec.ofInt 64 (u64.wrap (((BitVec.toNat (BitVec.ofInt 64 a0_c0 ^^^ BitVec.ofInt 64 (u64.wrap (a0_c0*8192))):Nat):Int))) ^^^ BitVec.ofInt 64 (Int.fdiv (u64.wrap (((BitVec.toNat (BitVec.ofInt 64 a0_c0 ^^^ BitVec.ofInt 64 (u64.wrap (a0_c0*8192))):Nat):Int))) 128)):Nat):Int))) ^^^ BitVec.ofInt 64 (u64.wrap ((u64.wrap (((BitVec.toNat (BitVec.ofInt 64 (u64.wrap (((BitVec.toNat (BitVec.ofInt 64 a0_c0 ^^^ BitVec.ofInt 64 (u64.wrap (a0_c0*8192))):Nat):Int))) ^^^ BitVec.ofInt 64 (Int.fdiv (u64.wrap (((BitVec.toNat (BitVec.ofInt 64 a0_c0 ^^^ BitVec.ofInt 64 (u64.wrap (a0_c0*8192))):Nat):Int))) 128)):Nat):Int)))*131072))):Nat):Int)))]))]):=by
 unfold Z1x.f at H
 refine Fn.bodyK [0] Tryz.func168 rfl rfl (fun Γ hP hn => ?_)
 have hm:Tryz.prog.follows .mixedOrders=true:=by kernel_rfl
 replace hn:Γ.n=33:=hn
 refine sO hP hn hm [] [] [0] [] [0] ?_
 refine sR hP hn hm [] [] [0] [(0,some (.box 240 [iV .u64 (u64.wrap (((BitVec.toNat (BitVec.ofInt 64 a0_c0 ^^^ BitVec.ofInt 64 (u64.wrap (a0_c0*8192))):Nat):Int)))]))] [0] [(0:Int)≤13] ⟨by decide,trivial⟩ ?_
 refine sR hP hn hm [] [] [0] [(0,some (.box 240 [iV .u64 (u64.wrap (((BitVec.toNat (BitVec.ofInt 64 (u64.wrap (((BitVec.toNat (BitVec.ofInt 64 a0_c0 ^^^ BitVec.ofInt 64 (u64.wrap (a0_c0*8192))):Nat):Int))) ^^^ BitVec.ofInt 64 (Int.fdiv (u64.wrap (((BitVec.toNat (BitVec.ofInt 64 a0_c0 ^^^ BitVec.ofInt 64 (u64.wrap (a0_c0*8192))):Nat):Int))) 128)):Nat):Int)))]))] [0] [(0:Int)≤7] ⟨by decide,trivial⟩ ?_
 refine sR hP hn hm [] [] [0] [(0,some (.box 240 [iV .u64 (u64.wrap (((BitVec.toNat (BitVec.ofInt 64 (u64.wrap (((BitVec.toNat (BitVec.ofInt 64 (u64.wrap (((BitVec.toNat (BitVec.ofInt 64 a0_c0 ^^^ BitVec.ofInt 64 (u64.wrap (a0_c0*8192))):Nat):Int))) ^^^ BitVec.ofInt 64 (Int.fdiv (u64.wrap (((BitVec.toNat (BitVec.ofInt 64 a0_c0 ^^^ BitVec.ofInt 64 (u64.wrap (a0_c0*8192))):Nat):Int))) 128)):Nat):Int))) ^^^ BitVec.ofInt 64 (u64.wrap ((u64.wrap (((BitVec.toNat (BitVec.ofInt 64 (u64.wrap (((BitVec.toNat (BitVec.ofInt 64 a0_c0 ^^^ BitVec.ofInt 64 (u64.wrap (a0_c0*8192))):Nat):Int))) ^^^ BitVec.ofInt 64 (Int.fdiv (u64.wrap (((BitVec.toNat (BitVec.ofInt 64 a0_c0 ^^^ BitVec.ofInt 64 (u64.wrap (a0_c0*8192))):Nat):Int))) 128)):Nat):Int)))*131072))):Nat):Int)))]))] [0] [(0:Int)≤17] ⟨by decide,trivial⟩ ?_
 refine sO hP hn hm [] [(2,iV .u64 (u64.wrap (((BitVec.toNat (BitVec.ofInt 64 (u64.wrap (((BitVec.toNat (BitVec.ofInt 64 (u64.wrap (((BitVec.toNat (BitVec.ofInt 64 a0_c0 ^^^ BitVec.ofInt 64 (u64.wrap (a0_c0*8192))):Nat):Int))) ^^^ BitVec.ofInt 64 (Int.fdiv (u64.wrap (((BitVec.toNat (BitVec.ofInt 64 a0_c0 ^^^ BitVec.ofInt 64 (u64.wrap (a0_c0*8192))):Nat):Int))) 128)):Nat):Int))) ^^^ BitVec.ofInt 64 (u64.wrap ((u64.wrap (((BitVec.toNat (BitVec.ofInt 64 (u64.wrap (((BitVec.toNat (BitVec.ofInt 64 a0_c0 ^^^ BitVec.ofInt 64 (u64.wrap (a0_c0*8192))):Nat):Int))) ^^^ BitVec.ofInt 64 (Int.fdiv (u64.wrap (((BitVec.toNat (BitVec.ofInt 64 a0_c0 ^^^ BitVec.ofInt 64 (u64.wrap (a0_c0*8192))):Nat):Int))) 128)):Nat):Int)))*131072))):Nat):Int))))] [2] [] [0] ?_
 refine AWp.conv (inv:=[(0,0)]) (vk:=[]) (e0:=[]) (t:=⟨[(2,iV .u64 (u64.wrap (((BitVec.toNat (BitVec.ofInt 64 (u64.wrap (((BitVec.toNat (BitVec.ofInt 64 (u64.wrap (((BitVec.toNat (BitVec.ofInt 64 a0_c0 ^^^ BitVec.ofInt 64 (u64.wrap (a0_c0*8192))):Nat):Int))) ^^^ BitVec.ofInt 64 (Int.fdiv (u64.wrap (((BitVec.toNat (BitVec.ofInt 64 a0_c0 ^^^ BitVec.ofInt 64 (u64.wrap (a0_c0*8192))):Nat):Int))) 128)):Nat):Int))) ^^^ BitVec.ofInt 64 (u64.wrap ((u64.wrap (((BitVec.toNat (BitVec.ofInt 64 (u64.wrap (((BitVec.toNat (BitVec.ofInt 64 a0_c0 ^^^ BitVec.ofInt 64 (u64.wrap (a0_c0*8192))):Nat):Int))) ^^^ BitVec.ofInt 64 (Int.fdiv (u64.wrap (((BitVec.toNat (BitVec.ofInt 64 a0_c0 ^^^ BitVec.ofInt 64 (u64.wrap (a0_c0*8192))):Nat):Int))) 128)):Nat):Int)))*131072))):Nat):Int))))],[(0,some (.box 240 [iV .u64 (u64.wrap (((BitVec.toNat (BitVec.ofInt 64 (u64.wrap (((BitVec.toNat (BitVec.ofInt 64 (u64.wrap (((BitVec.toNat (BitVec.ofInt 64 a0_c0 ^^^ BitVec.ofInt 64 (u64.wrap (a0_c0*8192))):Nat):Int))) ^^^ BitVec.ofInt 64 (Int.fdiv (u64.wrap (((BitVec.toNat (BitVec.ofInt 64 a0_c0 ^^^ BitVec.ofInt 64 (u64.wrap (a0_c0*8192))):Nat):Int))) 128)):Nat):Int))) ^^^ BitVec.ofInt 64 (u64.wrap ((u64.wrap (((BitVec.toNat (BitVec.ofInt 64 (u64.wrap (((BitVec.toNat (BitVec.ofInt 64 a0_c0 ^^^ BitVec.ofInt 64 (u64.wrap (a0_c0*8192))):Nat):Int))) ^^^ BitVec.ofInt 64 (Int.fdiv (u64.wrap (((BitVec.toNat (BitVec.ofInt 64 a0_c0 ^^^ BitVec.ofInt 64 (u64.wrap (a0_c0*8192))):Nat):Int))) 128)):Nat):Int)))*131072))):Nat):Int)))]))],1⟩) (by kernel_rfl) ?_
 refine AWp.ret ?_
 obtain rfl:=sj H
 exact rl (.inl rfl) rfl (by kernel_rfl) (by kernel_rfl)
def Zu.l0 (a1:Int) (a2:Int) (t4720:Int) (x4747:List Z5) (x4748:Int) (x4749:Int):Option (List Z5):=if(decide (x4749≤(i64.wrap ((i64.wrap (a1+(i64.wrap ((i64.wrap (Int.tdiv (i64.wrap (a2-a1)) (4:Int)))*(2:Int)))))+(1:Int)))))=true then((Z1x.f x4748)>>=fun t4753=>((if(decide ((i64.wrap (u64.wrap (((BitVec.toNat (BitVec.ofInt 64 (u64.wrap (((BitVec.toNat (BitVec.ofInt 64 (u64.wrap (((BitVec.toNat (BitVec.ofInt 64 (u64.wrap (((BitVec.toNat (BitVec.ofInt 64 x4748 ^^^ BitVec.ofInt 64 (u64.wrap (x4748*8192))):Nat):Int))) ^^^ BitVec.ofInt 64 (Int.fdiv (u64.wrap (((BitVec.toNat (BitVec.ofInt 64 x4748 ^^^ BitVec.ofInt 64 (u64.wrap (x4748*8192))):Nat):Int))) 128)):Nat):Int))) ^^^ BitVec.ofInt 64 (u64.wrap ((u64.wrap (((BitVec.toNat (BitVec.ofInt 64 (u64.wrap (((BitVec.toNat (BitVec.ofInt 64 x4748 ^^^ BitVec.ofInt 64 (u64.wrap (x4748*8192))):Nat):Int))) ^^^ BitVec.ofInt 64 (Int.fdiv (u64.wrap (((BitVec.toNat (BitVec.ofInt 64 x4748 ^^^ BitVec.ofInt 64 (u64.wrap (x4748*8192))):Nat):Int))) 128)):Nat):Int)))*131072))):Nat):Int))) &&& BitVec.ofInt 64 (u64.wrap (t4720-(1:Int)))):Nat):Int))))≥(i64.wrap (a2-a1))))=true then(some (i64.wrap ((i64.wrap (u64.wrap (((BitVec.toNat (BitVec.ofInt 64 (u64.wrap (((BitVec.toNat (BitVec.ofInt 64 (u64.wrap (((BitVec.toNat (BitVec.ofInt 64 (u64.wrap (((BitVec.toNat (BitVec.ofInt 64 x4748 ^^^ BitVec.ofInt 64 (u64.wrap (x4748*8192))):Nat):Int))) ^^^ BitVec.ofInt 64 (Int.fdiv (u64.wrap (((BitVec.toNat (BitVec.ofInt 64 x4748 ^^^ BitVec.ofInt 64 (u64.wrap (x4748*8192))):Nat):Int))) 128)):Nat):Int))) ^^^ BitVec.ofInt 64 (u64.wrap ((u64.wrap (((BitVec.toNat (BitVec.ofInt 64 (u64.wrap (((BitVec.toNat (BitVec.ofInt 64 x4748 ^^^ BitVec.ofInt 64 (u64.wrap (x4748*8192))):Nat):Int))) ^^^ BitVec.ofInt 64 (Int.fdiv (u64.wrap (((BitVec.toNat (BitVec.ofInt 64 x4748 ^^^ BitVec.ofInt 64 (u64.wrap (x4748*8192))):Nat):Int))) 128)):Nat):Int)))*131072))):Nat):Int))) &&& BitVec.ofInt 64 (u64.wrap (t4720-(1:Int)))):Nat):Int))))-(i64.wrap (a2-a1))))) else(some (i64.wrap (u64.wrap (((BitVec.toNat (BitVec.ofInt 64 (u64.wrap (((BitVec.toNat (BitVec.ofInt 64 (u64.wrap (((BitVec.toNat (BitVec.ofInt 64 (u64.wrap (((BitVec.toNat (BitVec.ofInt 64 x4748 ^^^ BitVec.ofInt 64 (u64.wrap (x4748*8192))):Nat):Int))) ^^^ BitVec.ofInt 64 (Int.fdiv (u64.wrap (((BitVec.toNat (BitVec.ofInt 64 x4748 ^^^ BitVec.ofInt 64 (u64.wrap (x4748*8192))):Nat):Int))) 128)):Nat):Int))) ^^^ BitVec.ofInt 64 (u64.wrap ((u64.wrap (((BitVec.toNat (BitVec.ofInt 64 (u64.wrap (((BitVec.toNat (BitVec.ofInt 64 x4748 ^^^ BitVec.ofInt 64 (u64.wrap (x4748*8192))):Nat):Int))) ^^^ BitVec.ofInt 64 (Int.fdiv (u64.wrap (((BitVec.toNat (BitVec.ofInt 64 x4748 ^^^ BitVec.ofInt 64 (u64.wrap (x4748*8192))):Nat):Int))) 128)):Nat):Int)))*131072))):Nat):Int))) &&& BitVec.ofInt 64 (u64.wrap (t4720-(1:Int)))):Nat):Int)))))):Option (Int))>>=fun x4756=>(at? x4747 (i64.wrap (a1+x4756)))>>=fun b4766=>(at? x4747 x4749)>>=fun b4769=>(at? (x4747.set (Int.toNat (x4749)) b4766) (i64.wrap (a1+x4756)))>>=fun b4772=>Zu.l0 a1 a2 t4720 ((x4747.set (Int.toNat (x4749)) b4766).set (Int.toNat (i64.wrap (a1+x4756))) b4769) (u64.wrap (((BitVec.toNat (BitVec.ofInt 64 (u64.wrap (((BitVec.toNat (BitVec.ofInt 64 (u64.wrap (((BitVec.toNat (BitVec.ofInt 64 x4748 ^^^ BitVec.ofInt 64 (u64.wrap (x4748*8192))):Nat):Int))) ^^^ BitVec.ofInt 64 (Int.fdiv (u64.wrap (((BitVec.toNat (BitVec.ofInt 64 x4748 ^^^ BitVec.ofInt 64 (u64.wrap (x4748*8192))):Nat):Int))) 128)):Nat):Int))) ^^^ BitVec.ofInt 64 (u64.wrap ((u64.wrap (((BitVec.toNat (BitVec.ofInt 64 (u64.wrap (((BitVec.toNat (BitVec.ofInt 64 x4748 ^^^ BitVec.ofInt 64 (u64.wrap (x4748*8192))):Nat):Int))) ^^^ BitVec.ofInt 64 (Int.fdiv (u64.wrap (((BitVec.toNat (BitVec.ofInt 64 x4748 ^^^ BitVec.ofInt 64 (u64.wrap (x4748*8192))):Nat):Int))) 128)):Nat):Int)))*131072))):Nat):Int))) (i64.wrap (x4749+(1:Int)))) else(some x4747)
partial_fixpoint
def Zu.f (a0:List Z5) (a1:Int) (a2:Int):Option (List Z5):=((if(decide ((i64.wrap (a2-a1))≥(8:Int)))=true then((Z2d.f (i64.wrap (a2-a1)))>>=fun t4720=>(Zu.l0 a1 a2 t4720 a0 (u64.wrap (i64.wrap (a2-a1))) (i64.wrap ((i64.wrap (a1+(i64.wrap ((i64.wrap (Int.tdiv (i64.wrap (a2-a1)) (4:Int)))*(2:Int)))))-(1:Int))))>>=fun x4775=>some x4775) else(some a0)):Option (List Z5))>>=fun x4776=>some x4776
theorem Zu.ok (a0:List Z5) (a1:Int) (a2:Int) (r:List Z5) (H:Zu.f a0 a1 a2=some r):Pv.Fn Tryz.prog 140 [.own 0,iV .i64 a1,iV .i64 a2,.im (.sc (.func (.func 78) #[] #[]))] [(0,some (.row 2 92 (a0.map Z0)))] 1 (fun x o=>x = .tup []∧o=[(0,some (.row 2 92 (r.map Z0)))]):=by
 unfold Zu.f at H
 refine Fn.bodyK [0] Tryz.func140 rfl rfl (fun Γ hP hn => ?_)
 have hm:Tryz.prog.follows .mixedOrders=true:=by kernel_rfl
 replace hn:Γ.n=67:=hn
 refine sO hP hn hm [] [(8,iV .i64 (i64.wrap (a2-a1)))] [0,1,8] [] [0] ?_
 refine sO hP hn hm [] [(17,bV (decide ((i64.wrap (a2-a1))≥(8:Int))))] [0,1,8,17] [] [0] ?_
 obtain⟨o4777,e4778,H⟩:=Z4 H
 refine AWp.mono (Q:=fun e s=>(match (generalizing:=false) o4777 with | x4776=>e = .normal∧s=⟨[],[(0,some (.row 2 92 (x4776.map Z0)))],1⟩)) (AWp.cv ?_) ?_
 ·replace H:=e4778;clear e4778
  refine AWp.cond (decide ((i64.wrap (a2-a1))≥(8:Int))) (by kernel_rfl) (fun c4711 => ?_) (fun c4711 => ?_)
  ·replace H:=iT c4711 H
   refine sO hP hn hm [(2,.k 1)] [(9,.ptr 1 0 0)] [0,1,8,9] [(1,some (.box 240 [iV .u64 (u64.wrap (i64.wrap (a2-a1)))]))] [0,1] ?_
   obtain⟨t4720,e4721,H⟩:=Z4 H
   refine sR hP hn hm [(1,.call [] [] [] [] 0 (iV .u64 t4720) [])] [(10,iV .u64 t4720)] [0,1,8,9,10] [] [0,1] [_,_] ⟨Tryz.call167,Z2d.ok (i64.wrap (a2-a1)) t4720 e4721,trivial⟩ ?_
   refine sR hP hn hm [] [(11,iV .i64 (i64.wrap ((i64.wrap (a1+(i64.wrap ((i64.wrap (Int.tdiv (i64.wrap (a2-a1)) (4:Int)))*(2:Int)))))-(1:Int))))] [0,1,8,9,10,11] [] [0,1] [(4:Int)≠0] ⟨by decide,trivial⟩ ?_
   refine AWp.block ?_
   obtain⟨o4779,e4780,H⟩:=Z4 H
   refine AWp.loop (LWp.conv (inv:=[(0,0),(1,3)]) (vk:=[]) (e0:=[]) (t:=⟨[(0,.own 0),(1,iV .i64 a1),(8,iV .i64 (i64.wrap (a2-a1))),(9,.ptr 3 0 0),(10,iV .u64 t4720),(11,iV .i64 (i64.wrap ((i64.wrap (a1+(i64.wrap ((i64.wrap (Int.tdiv (i64.wrap (a2-a1)) (4:Int)))*(2:Int)))))-(1:Int))))],[(0,some (.row 2 92 (a0.map Z0))),(3,some (.box 240 [iV .u64 (u64.wrap (i64.wrap (a2-a1)))]))],1⟩) (by kernel_rfl) ?_)
   refine LWp.mono (Q:=fun e s=>(match (generalizing:=false) o4779 with | x4775=>e = .exit 0∧s=⟨[],[(0,some (.row 2 92 (x4775.map Z0)))],1⟩)) (LWp.cv (Zs (fun body hbody => ?_))) ?_
   ·refine                                                 Zu.l0.partial_correctness a1 a2 t4720 (motive:=fun x4747 x4748 x4749 o4779=>LWp Γ body (fun e s=>∃ t,Cv Γ s t∧(match (generalizing:=false) o4779 with | x4775=>e = .exit 0∧t=⟨[],[(0,some (.row 2 92 (x4775.map Z0         )))],1⟩)) ⟨[(0,.own 0),(1,iV .i64 a1),(8,iV .i64 (i64.wrap (a2-a1))),(9,.ptr 3 0 0),(10,iV .u64 t4720),(11,iV .i64 x4749)],[(0,some (.row 2 92 (x4747.map Z0         ))),(3,some (.box 240 [iV .u64 x4748]))],1⟩) ?_ _ _ _ _ e4780
    clear H e4780 o4779;intro self ih x4747 x4748 x4749 o4779 H
    subst hbody
    refine LWp.round ?_
    refine AWp.seq ?_
    refine sR hP hn hm [] [(35,bV (decide (x4749≤(i64.wrap ((i64.wrap (a1+(i64.wrap ((i64.wrap (Int.tdiv (i64.wrap (a2-a1)) (4:Int)))*(2:Int)))))+(1:Int))))))] [0,1,8,9,10,11,35] [] [0,3] [(4:Int)≠0] ⟨by decide,trivial⟩ ?_
    refine AWp.cond (decide (x4749≤(i64.wrap ((i64.wrap (a1+(i64.wrap ((i64.wrap (Int.tdiv (i64.wrap (a2-a1)) (4:Int)))*(2:Int)))))+(1:Int))))) (by kernel_rfl) (fun c4750 => ?_) (fun c4750 => ?_)
    ·replace H:=iT c4750 H
     refine AWp.skip ?_
     refine AWp.seq ?_
     refine AWp.block ?_
     obtain⟨t4753,e4754,H⟩:=Z4 H
     refine sR hP hn hm [(0,.call [(3,0)] [(0,3)] [] [] 1 (iV .u64 (u64.wrap (((BitVec.toNat (BitVec.ofInt 64 (u64.wrap (((BitVec.toNat (BitVec.ofInt 64 (u64.wrap (((BitVec.toNat (BitVec.ofInt 64 x4748 ^^^ BitVec.ofInt 64 (u64.wrap (x4748*8192))):Nat):Int))) ^^^ BitVec.ofInt 64 (Int.fdiv (u64.wrap (((BitVec.toNat (BitVec.ofInt 64 x4748 ^^^ BitVec.ofInt 64 (u64.wrap (x4748*8192))):Nat):Int))) 128)):Nat):Int))) ^^^ BitVec.ofInt 64 (u64.wrap ((u64.wrap (((BitVec.toNat (BitVec.ofInt 64 (u64.wrap (((BitVec.toNat (BitVec.ofInt 64 x4748 ^^^ BitVec.ofInt 64 (u64.wrap (x4748*8192))):Nat):Int))) ^^^ BitVec.ofInt 64 (Int.fdiv (u64.wrap (((BitVec.toNat (BitVec.ofInt 64 x4748 ^^^ BitVec.ofInt 64 (u64.wrap (x4748*8192))):Nat):Int))) 128)):Nat):Int)))*131072))):Nat):Int)))) [(0,some (.box 240 [iV .u64 (u64.wrap (((BitVec.toNat (BitVec.ofInt 64 (u64.wrap (((BitVec.toNat (BitVec.ofInt 64 (u64.wrap (((BitVec.toNat (BitVec.ofInt 64 x4748 ^^^ BitVec.ofInt 64 (u64.wrap (x4748*8192))):Nat):Int))) ^^^ BitVec.ofInt 64 (Int.fdiv (u64.wrap (((BitVec.toNat (BitVec.ofInt 64 x4748 ^^^ BitVec.ofInt 64 (u64.wrap (x4748*8192))):Nat):Int))) 128)):Nat):Int))) ^^^ BitVec.ofInt 64 (u64.wrap ((u64.wrap (((BitVec.toNat (BitVec.ofInt 64 (u64.wrap (((BitVec.toNat (BitVec.ofInt 64 x4748 ^^^ BitVec.ofInt 64 (u64.wrap (x4748*8192))):Nat):Int))) ^^^ BitVec.ofInt 64 (Int.fdiv (u64.wrap (((BitVec.toNat (BitVec.ofInt 64 x4748 ^^^ BitVec.ofInt 64 (u64.wrap (x4748*8192))):Nat):Int))) 128)):Nat):Int)))*131072))):Nat):Int)))]))])] [(12,iV .i64 (i64.wrap (u64.wrap (((BitVec.toNat (BitVec.ofInt 64 (u64.wrap (((BitVec.toNat (BitVec.ofInt 64 (u64.wrap (((BitVec.toNat (BitVec.ofInt 64 (u64.wrap (((BitVec.toNat (BitVec.ofInt 64 x4748 ^^^ BitVec.ofInt 64 (u64.wrap (x4748*8192))):Nat):Int))) ^^^ BitVec.ofInt 64 (Int.fdiv (u64.wrap (((BitVec.toNat (BitVec.ofInt 64 x4748 ^^^ BitVec.ofInt 64 (u64.wrap (x4748*8192))):Nat):Int))) 128)):Nat):Int))) ^^^ BitVec.ofInt 64 (u64.wrap ((u64.wrap (((BitVec.toNat (BitVec.ofInt 64 (u64.wrap (((BitVec.toNat (BitVec.ofInt 64 x4748 ^^^ BitVec.ofInt 64 (u64.wrap (x4748*8192))):Nat):Int))) ^^^ BitVec.ofInt 64 (Int.fdiv (u64.wrap (((BitVec.toNat (BitVec.ofInt 64 x4748 ^^^ BitVec.ofInt 64 (u64.wrap (x4748*8192))):Nat):Int))) 128)):Nat):Int)))*131072))):Nat):Int))) &&& BitVec.ofInt 64 (u64.wrap (t4720-(1:Int)))):Nat):Int)))))] [0,1,8,9,10,11,12] [(3,some (.box 240 [iV .u64 (u64.wrap (((BitVec.toNat (BitVec.ofInt 64 (u64.wrap (((BitVec.toNat (BitVec.ofInt 64 (u64.wrap (((BitVec.toNat (BitVec.ofInt 64 x4748 ^^^ BitVec.ofInt 64 (u64.wrap (x4748*8192))):Nat):Int))) ^^^ BitVec.ofInt 64 (Int.fdiv (u64.wrap (((BitVec.toNat (BitVec.ofInt 64 x4748 ^^^ BitVec.ofInt 64 (u64.wrap (x4748*8192))):Nat):Int))) 128)):Nat):Int))) ^^^ BitVec.ofInt 64 (u64.wrap ((u64.wrap (((BitVec.toNat (BitVec.ofInt 64 (u64.wrap (((BitVec.toNat (BitVec.ofInt 64 x4748 ^^^ BitVec.ofInt 64 (u64.wrap (x4748*8192))):Nat):Int))) ^^^ BitVec.ofInt 64 (Int.fdiv (u64.wrap (((BitVec.toNat (BitVec.ofInt 64 x4748 ^^^ BitVec.ofInt 64 (u64.wrap (x4748*8192))):Nat):Int))) 128)):Nat):Int)))*131072))):Nat):Int)))]))] [0,3] [_,_] ⟨Tryz.call168,Z1x.ok x4748 t4753 e4754,trivial⟩ ?_
     refine AWp.seq ?_
     refine sO hP hn hm [] [(45,bV (decide ((i64.wrap (u64.wrap (((BitVec.toNat (BitVec.ofInt 64 (u64.wrap (((BitVec.toNat (BitVec.ofInt 64 (u64.wrap (((BitVec.toNat (BitVec.ofInt 64 (u64.wrap (((BitVec.toNat (BitVec.ofInt 64 x4748 ^^^ BitVec.ofInt 64 (u64.wrap (x4748*8192))):Nat):Int))) ^^^ BitVec.ofInt 64 (Int.fdiv (u64.wrap (((BitVec.toNat (BitVec.ofInt 64 x4748 ^^^ BitVec.ofInt 64 (u64.wrap (x4748*8192))):Nat):Int))) 128)):Nat):Int))) ^^^ BitVec.ofInt 64 (u64.wrap ((u64.wrap (((BitVec.toNat (BitVec.ofInt 64 (u64.wrap (((BitVec.toNat (BitVec.ofInt 64 x4748 ^^^ BitVec.ofInt 64 (u64.wrap (x4748*8192))):Nat):Int))) ^^^ BitVec.ofInt 64 (Int.fdiv (u64.wrap (((BitVec.toNat (BitVec.ofInt 64 x4748 ^^^ BitVec.ofInt 64 (u64.wrap (x4748*8192))):Nat):Int))) 128)):Nat):Int)))*131072))):Nat):Int))) &&& BitVec.ofInt 64 (u64.wrap (t4720-(1:Int)))):Nat):Int))))≥(i64.wrap (a2-a1)))))] [0,1,8,9,10,11,12,45] [] [0,3] ?_
     obtain⟨o4781,e4782,H⟩:=Z4 H
     refine AWp.mono (Q:=fun e s=>(match (generalizing:=false) o4781 with | x4756=>e = .normal∧s=⟨[(0,.own 0),(1,iV .i64 a1),(8,iV .i64 (i64.wrap (a2-a1))),(9,.ptr 4 0 0),(10,iV .u64 t4720),(11,iV .i64 x4749),(12,iV .i64 x4756)],[(0,some (.row 2 92 (x4747.map Z0))),(4,some (.box 240 [iV .u64 (u64.wrap (((BitVec.toNat (BitVec.ofInt 64 (u64.wrap (((BitVec.toNat (BitVec.ofInt 64 (u64.wrap (((BitVec.toNat (BitVec.ofInt 64 x4748 ^^^ BitVec.ofInt 64 (u64.wrap (x4748*8192))):Nat):Int))) ^^^ BitVec.ofInt 64 (Int.fdiv (u64.wrap (((BitVec.toNat (BitVec.ofInt 64 x4748 ^^^ BitVec.ofInt 64 (u64.wrap (x4748*8192))):Nat):Int))) 128)):Nat):Int))) ^^^ BitVec.ofInt 64 (u64.wrap ((u64.wrap (((BitVec.toNat (BitVec.ofInt 64 (u64.wrap (((BitVec.toNat (BitVec.ofInt 64 x4748 ^^^ BitVec.ofInt 64 (u64.wrap (x4748*8192))):Nat):Int))) ^^^ BitVec.ofInt 64 (Int.fdiv (u64.wrap (((BitVec.toNat (BitVec.ofInt 64 x4748 ^^^ BitVec.ofInt 64 (u64.wrap (x4748*8192))):Nat):Int))) 128)):Nat):Int)))*131072))):Nat):Int)))]))],1⟩)) (AWp.cv ?_) ?_
     ·replace H:=e4782;clear e4782
      refine AWp.cond (decide ((i64.wrap (u64.wrap (((BitVec.toNat (BitVec.ofInt 64 (u64.wrap (((BitVec.toNat (BitVec.ofInt 64 (u64.wrap (((BitVec.toNat (BitVec.ofInt 64 (u64.wrap (((BitVec.toNat (BitVec.ofInt 64 x4748 ^^^ BitVec.ofInt 64 (u64.wrap (x4748*8192))):Nat):Int))) ^^^ BitVec.ofInt 64 (Int.fdiv (u64.wrap (((BitVec.toNat (BitVec.ofInt 64 x4748 ^^^ BitVec.ofInt 64 (u64.wrap (x4748*8192))):Nat):Int))) 128)):Nat):Int))) ^^^ BitVec.ofInt 64 (u64.wrap ((u64.wrap (((BitVec.toNat (BitVec.ofInt 64 (u64.wrap (((BitVec.toNat (BitVec.ofInt 64 x4748 ^^^ BitVec.ofInt 64 (u64.wrap (x4748*8192))):Nat):Int))) ^^^ BitVec.ofInt 64 (Int.fdiv (u64.wrap (((BitVec.toNat (BitVec.ofInt 64 x4748 ^^^ BitVec.ofInt 64 (u64.wrap (x4748*8192))):Nat):Int))) 128)):Nat):Int)))*131072))):Nat):Int))) &&& BitVec.ofInt 64 (u64.wrap (t4720-(1:Int)))):Nat):Int))))≥(i64.wrap (a2-a1)))) (by kernel_rfl) (fun c4755 => ?_) (fun c4755 => ?_)
      ·replace H:=iT c4755 H
       refine rO hP hn hm [] [(12,iV .i64 (i64.wrap ((i64.wrap (u64.wrap (((BitVec.toNat (BitVec.ofInt 64 (u64.wrap (((BitVec.toNat (BitVec.ofInt 64 (u64.wrap (((BitVec.toNat (BitVec.ofInt 64 (u64.wrap (((BitVec.toNat (BitVec.ofInt 64 x4748 ^^^ BitVec.ofInt 64 (u64.wrap (x4748*8192))):Nat):Int))) ^^^ BitVec.ofInt 64 (Int.fdiv (u64.wrap (((BitVec.toNat (BitVec.ofInt 64 x4748 ^^^ BitVec.ofInt 64 (u64.wrap (x4748*8192))):Nat):Int))) 128)):Nat):Int))) ^^^ BitVec.ofInt 64 (u64.wrap ((u64.wrap (((BitVec.toNat (BitVec.ofInt 64 (u64.wrap (((BitVec.toNat (BitVec.ofInt 64 x4748 ^^^ BitVec.ofInt 64 (u64.wrap (x4748*8192))):Nat):Int))) ^^^ BitVec.ofInt 64 (Int.fdiv (u64.wrap (((BitVec.toNat (BitVec.ofInt 64 x4748 ^^^ BitVec.ofInt 64 (u64.wrap (x4748*8192))):Nat):Int))) 128)):Nat):Int)))*131072))):Nat):Int))) &&& BitVec.ofInt 64 (u64.wrap (t4720-(1:Int)))):Nat):Int))))-(i64.wrap (a2-a1)))))] [0,1,8,9,10,11,12] [] [0,3] ?_
       obtain rfl:=sj H
       exact lf [(0,0),(3,4)] [] [] (by kernel_rfl) ⟨rfl,rfl⟩
      ·replace H:=iF c4755 H
       refine AWp.skip ?_
       obtain rfl:=sj H
       exact lf [(0,0),(3,4)] [] [] (by kernel_rfl) ⟨rfl,rfl⟩
     ·obtain⟨x4756,rfl⟩:∃ z,z=o4781:=⟨_,rfl⟩
      rintro e s ⟨rfl,rfl⟩
      obtain⟨b4766,p4767,q4768,H⟩:=Z02 H
      obtain⟨b4769,p4770,q4771,H⟩:=Z02 H
      obtain⟨b4772,p4773,q4774,H⟩:=Z02 H
      refine rG hP hn hm [(11,.c (Z0 b4766)),(15,.c (Z0 b4769)),(17,.put (Z0 b4769) ((x4747.set (Int.toNat (x4749)) b4766).map Z0)),(19,.put (Z0 b4772) (((x4747.set (Int.toNat (x4749)) b4766).set (Int.toNat (i64.wrap (a1+x4756))) b4769).map Z0))] [] [0,1,8,9,10,11] [(0,some (.row 2 92 (((x4747.set (Int.toNat (x4749)) b4766).set (Int.toNat (i64.wrap (a1+x4756))) b4769).map Z0)))] [0,4] [_,_,_,_,_,_,_,_,_,(x4747.set (Int.toNat (x4749)) b4766).map Z0=(x4747.map Z0).set (Int.toNat (x4749)) (Z0t (Z0 b4769) 0 [iI .i64 b4766.f0,iI .i64 b4766.f1]),_,_,_,((x4747.set (Int.toNat (x4749)) b4766).set (Int.toNat (i64.wrap (a1+x4756))) b4769).map Z0=((x4747.set (Int.toNat (x4749)) b4766).map Z0).set (Int.toNat (i64.wrap (a1+x4756))) (Z0t (Z0 b4772) 0 [iI .i64 b4769.f0,iI .i64 b4769.f1])] ⟨p4767,Z09 Z0 p4767 q4768,Zi Z0 q4768,p4770,Z09 Z0 p4770 q4771,Zi Z0 q4771,p4770,Z09 Z0 p4770 q4771,Zi Z0 q4771,by exact set1 _ _ _ _,p4773,Z09 Z0 p4773 q4774,Zi Z0 q4774,by exact set1 _ _ _ _,trivial⟩ ?_
      refine rO hP hn hm [] [(11,iV .i64 (i64.wrap (x4749+(1:Int))))] [0,1,8,9,10,11] [] [0,4] ?_
      exact LWp.conv [(0,0),(4,3)] [] [] (by kernel_rfl) (ih _ _ _ _ H)
    ·replace H:=iF c4750 H
     refine AWp.exit ?_
     obtain rfl:=sj H
     exact lf [(0,0)] [] [] (by kernel_rfl) ⟨rfl,rfl⟩
   ·obtain⟨x4775,rfl⟩:∃ z,z=o4779:=⟨_,rfl⟩
    rintro e s ⟨rfl,rfl⟩
    obtain rfl:=sj H
    exact lf [(0,0)] [] [] (by kernel_rfl) ⟨rfl,rfl⟩
  ·replace H:=iF c4711 H
   refine AWp.skip ?_
   obtain rfl:=sj H
   exact lf [(0,0)] [] [] (by kernel_rfl) ⟨rfl,rfl⟩
 ·obtain⟨x4776,rfl⟩:∃ z,z=o4777:=⟨_,rfl⟩
  rintro e s ⟨rfl,rfl⟩
  obtain rfl:=sj H
  exact Exists.intro ⟨[],[(0,some (.row 2 92 (x4776.map Z0)))],1⟩ (And.intro (fun _ _ h=>h.conv (inv:=[(0,0)]) (vk:=[]) (e0:=[]) (t:=⟨[],[(0,some (.row 2 92 (x4776.map Z0)))],1⟩) (by kernel_rfl)) (And.intro (.inr rfl) (And.intro rfl (And.intro (by kernel_rfl) (by kernel_rfl)))))
def Zg.l0 (self:(List Z5)→Int→Int→Int→Option (List Z5)) (x4860:List Z5) (x4861:Int) (x4862:Int) (x4863:Int) (x4864:Bool) (x4865:Bool):Option (List Z5):=((if(decide ((i64.wrap (x4862-x4861))≤(12:Int)))=true then((Zk.f x4860 x4861 x4862)>>=fun t4869=>some (.inl t4869)) else(if(x4863==(0:Int))=true then((Zn.f x4860 x4861 x4862)>>=fun t4874=>some (.inl t4874)) else(((if(!x4864)=true then((Zu.f x4860 x4861 x4862)>>=fun t4879=>some (t4879,i64.wrap (x4863-(1:Int)))) else(some (x4860,x4863))):Option ((List Z5)×Int))>>=fun oo=>match oo with | (x4881,x4882)=>((Z0g.f x4881 x4861 x4862)>>=fun t4885=>((if(t4885.2==(2:Int))=true then((Zw.f x4881 x4861 x4862)>>=fun t4890=>some (t4890,i64.wrap ((i64.wrap (x4862-(1:Int)))-(i64.wrap (t4885.1-x4861))),1)) else(some (x4881,t4885.1,t4885.2))):Option ((List Z5)×Int×Int))>>=fun oo=>match oo with | (x4892,x4893,x4894)=>(((if x4864=true then(if x4865=true then(some (x4894==(1:Int))) else(some false)) else(some false)):Option (Bool))>>=fun x4899=>((if x4899=true then((Z8.f x4892 x4861 x4862)>>=fun t4903=>if t4903.1=true then(some (.inl t4903.2)) else(some (.inr t4903.2))) else(some (.inr x4892))):Option ((List Z5) ⊕ (List Z5)))>>=fun oo=>match oo with | .inl rr=>(some (.inl rr)) | .inr x4906=>(((if(decide (x4861>(0:Int)))=true then((at? x4906 (i64.wrap (x4861-(1:Int))))>>=fun b4917=>(at? x4906 x4893)>>=fun b4920=>(Z0l.f b4917 b4920)>>=fun t4923=>some (!(decide (t4923<(0:Int))))) else(some false)):Option (Bool))>>=fun x4925=>if x4925=true then((Zc.f x4906 x4861 x4862 x4893)>>=fun t4929=>some (.inr (t4929.2,t4929.1,x4862,x4882,x4864,x4865))) else((Za.f x4906 x4861 x4862 x4893)>>=fun t4933=>((if(decide ((i64.wrap (t4933.1-x4861))<(i64.wrap (x4862-t4933.1))))=true then((self t4933.2.2 x4861 t4933.1 x4882)>>=fun t4938=>some (t4938,i64.wrap (t4933.1+(1:Int)),x4862,(decide ((i64.wrap (t4933.1-x4861))≥(i64.wrap (Int.tdiv (i64.wrap (x4862-x4861)) (8:Int))))))) else((self t4933.2.2 (i64.wrap (t4933.1+(1:Int))) x4862 x4882)>>=fun t4942=>some (t4942,x4861,t4933.1,(decide ((i64.wrap (x4862-t4933.1))≥(i64.wrap (Int.tdiv (i64.wrap (x4862-x4861)) (8:Int)))))))):Option ((List Z5)×Int×Int×Bool))>>=fun oo=>match oo with | (x4944,x4945,x4946,x4947)=>(some (.inr (x4944,x4945,x4946,x4882,x4947,t4933.2.1)))))))))):Option ((List Z5) ⊕ ((List Z5)×Int×Int×Int×Bool×Bool)))>>=fun oo=>match oo with | .inl rr=>(some rr) | .inr (x4948,x4949,x4950,x4951,x4952,x4953)=>(Zg.l0 self x4948 x4949 x4950 x4951 x4952 x4953)
partial_fixpoint
def Zg.fu:Nat→(List Z5)→Int→Int→Int→Option (List Z5)
 | 0,_,_,_,_=>none
 | k+1,a0,a1,a2,a3=>(Zg.l0 (Zg.fu k) a0 a1 a2 a3 true true)>>=fun rr=>some rr
def Zg.f (a0:List Z5) (a1:Int) (a2:Int) (a3:Int):Option (List Z5):=Zg.fu 100 a0 a1 a2 a3
theorem Zg.oku (k:Nat) (a0:List Z5) (a1:Int) (a2:Int) (a3:Int) (r:List Z5) (H:Zg.fu k a0 a1 a2 a3=some r):Pv.Fn Tryz.prog 111 [.own 0,iV .i64 a1,iV .i64 a2,iV .i64 a3,.im (.sc (.func (.func 78) #[] #[]))] [(0,some (.row 2 92 (a0.map Z0)))] 1 (fun x o=>x = .tup []∧o=[(0,some (.row 2 92 (r.map Z0)))]):=by
 induction k generalizing a0 a1 a2 a3 r with
 | zero=>simp[Zg.fu] at H
 | succ k ihF =>
 rw[Zg.fu] at H
 refine Fn.bodyK [0] Tryz.func111 rfl rfl (fun Γ hP hn => ?_)
 have hm:Tryz.prog.follows .mixedOrders=true:=by kernel_rfl
 replace hn:Γ.n=148:=hn
 refine sO hP hn hm [] [(10,bV true)] [0,1,2,3,4,10] [] [0] ?_
 refine sO hP hn hm [] [(11,bV true)] [0,1,2,3,4,10,11] [] [0] ?_
 refine AWp.block ?_
 obtain⟨o4954,e4955,H⟩:=Z4 H
 refine AWp.loop (LWp.conv (inv:=[(0,0)]) (vk:=[]) (e0:=[]) (t:=⟨[(0,.own 0),(1,iV .i64 a1),(2,iV .i64 a2),(3,iV .i64 a3),(4,.im (.sc (.func (.func 78) #[] #[]))),(10,bV true),(11,bV true)],[(0,some (.row 2 92 (a0.map Z0)))],1⟩) (by kernel_rfl) ?_)
 refine LWp.mono (Q:=fun e s=>(match (generalizing:=false) o4954 with | rr=>e = .ret∧s.floor=1∧Z1y Tryz.prog Tryz.f111 s=some (.tup [])∧([(0,s.obj 0)]:List (Nat×Option MObj))=[(0,some (.row 2 92 (rr.map Z0)))])) (LWp.cv (Zs (fun body hbody => ?_))) ?_
 ·refine                                           Zg.l0.partial_correctness (                                          Zg.fu k) (motive:=fun x4860 x4861 x4862 x4863 x4864 x4865 o4954=>LWp Γ body (fun e s=>∃ t,Cv Γ s t∧(match (generalizing:=false) o4954 with | rr=>e = .ret∧t.floor=1∧Z1y   Tryz.prog Tryz.f111 t=some (.tup [])∧([(0,t.obj 0)]:List (Nat×Option MObj))=[(0,some (.row 2 92 (rr.map Z0         )))])) ⟨[(0,.own 0),(1,iV .i64 x4861),(2,iV .i64 x4862),(3,iV .i64 x4863),(4,.im (.sc (.func (.func 78) #[] #[]))),(10,bV x4864),(11,bV x4865)],[(0,some (.row 2 92 (x4860.map Z0         )))],1⟩) ?_ _ _ _ _ _ _ _ e4955
  clear H e4955 o4954;intro self ih x4860 x4861 x4862 x4863 x4864 x4865 o4954 H
  subst hbody
  refine LWp.round ?_
  obtain⟨o4956,e4957,H⟩:=Z4 H
  refine AWp.mono (Q:=fun e s=>(match (generalizing:=false) o4956 with | .inl rr=>e = .ret∧s.floor=1∧Z1y Tryz.prog Tryz.f111 s=some (.tup [])∧([(0,s.obj 0)]:List (Nat×Option MObj))=[(0,some (.row 2 92 (rr.map Z0)))] | .inr (x4948,x4949,x4950,x4951,x4952,x4953)=>e = .normal∧s=⟨[(0,.own 0),(1,iV .i64 x4949),(2,iV .i64 x4950),(3,iV .i64 x4951),(4,.im (.sc (.func (.func 78) #[] #[]))),(10,bV x4952),(11,bV x4953)],[(0,some (.row 2 92 (x4948.map Z0)))],1⟩)) (AWp.cv ?_) ?_
  ·replace H:=e4957;clear e4957
   refine AWp.block ?_
   refine sO hP hn hm [] [(12,iV .i64 (i64.wrap (x4862-x4861)))] [0,1,2,3,4,10,11,12] [] [0] ?_
   refine AWp.seq ?_
   refine sO hP hn hm [] [(25,bV (decide ((i64.wrap (x4862-x4861))≤(12:Int))))] [0,1,2,3,4,10,11,12,25] [] [0] ?_
   refine AWp.cond (decide ((i64.wrap (x4862-x4861))≤(12:Int))) (by kernel_rfl) (fun c4866 => ?_) (fun c4866 => ?_)
   ·replace H:=iT c4866 H
    obtain⟨t4869,e4870,H⟩:=Z4 H
    refine sR hP hn hm [(4,.call [(0,0)] [(0,0)] [] [] 1 (.tup []) [(0,some (.row 2 92 (t4869.map Z0)))])] [] [] [(0,some (.row 2 92 (t4869.map Z0)))] [0] [_,_] ⟨Tryz.call138,Zk.ok x4860 x4861 x4862 t4869 e4870,trivial⟩ ?_
    refine AWp.conv (inv:=[(0,0)]) (vk:=[]) (e0:=[]) (t:=⟨[],[(0,some (.row 2 92 (t4869.map Z0)))],1⟩) (by kernel_rfl) ?_
    refine AWp.ret ?_
    obtain rfl:=sj H
    exact rl rfl rfl (by kernel_rfl) (by kernel_rfl)
   ·replace H:=iF c4866 H
    refine AWp.skip ?_
    refine AWp.seq ?_
    refine sO hP hn hm [] [(32,bV (x4863==(0:Int)))] [0,1,2,3,4,10,11,12,32] [] [0] ?_
    refine AWp.cond (x4863==(0:Int)) (by kernel_rfl) (fun c4871 => ?_) (fun c4871 => ?_)
    ·replace H:=iT c4871 H
     obtain⟨t4874,e4875,H⟩:=Z4 H
     refine sR hP hn hm [(4,.call [(0,0)] [(0,0)] [] [] 1 (.tup []) [(0,some (.row 2 92 (t4874.map Z0)))])] [] [] [(0,some (.row 2 92 (t4874.map Z0)))] [0] [_,_] ⟨Tryz.call139,Zn.ok x4860 x4861 x4862 t4874 e4875,trivial⟩ ?_
     refine AWp.conv (inv:=[(0,0)]) (vk:=[]) (e0:=[]) (t:=⟨[],[(0,some (.row 2 92 (t4874.map Z0)))],1⟩) (by kernel_rfl) ?_
     refine AWp.ret ?_
     obtain rfl:=sj H
     exact rl rfl rfl (by kernel_rfl) (by kernel_rfl)
    ·replace H:=iF c4871 H
     refine AWp.skip ?_
     refine AWp.seq ?_
     refine sO hP hn hm [] [(39,bV (!x4864))] [0,1,2,3,4,10,11,12,39] [] [0] ?_
     obtain⟨o4958,e4959,H⟩:=Z4 H
     refine AWp.mono (Q:=fun e s=>(match (generalizing:=false) o4958 with | (x4881,x4882)=>e = .normal∧s=⟨[(0,.own 0),(1,iV .i64 x4861),(2,iV .i64 x4862),(3,iV .i64 x4882),(4,.im (.sc (.func (.func 78) #[] #[]))),(10,bV x4864),(11,bV x4865),(12,iV .i64 (i64.wrap (x4862-x4861)))],[(0,some (.row 2 92 (x4881.map Z0)))],1⟩)) (AWp.cv ?_) ?_
     ·replace H:=e4959;clear e4959
      refine AWp.cond (!x4864) (by kernel_rfl) (fun c4876 => ?_) (fun c4876 => ?_)
      ·replace H:=iT c4876 H
       obtain⟨t4879,e4880,H⟩:=Z4 H
       refine sR hP hn hm [(4,.call [(0,0)] [(0,0)] [] [] 1 (.tup []) [(0,some (.row 2 92 (t4879.map Z0)))])] [] [0,1,2,3,4,10,11,12] [(0,some (.row 2 92 (t4879.map Z0)))] [0] [_,_] ⟨Tryz.call140,Zu.ok x4860 x4861 x4862 t4879 e4880,trivial⟩ ?_
       refine rO hP hn hm [] [(3,iV .i64 (i64.wrap (x4863-(1:Int))))] [0,1,2,3,4,10,11,12] [] [0] ?_
       obtain rfl:=sj H
       exact lf [(0,0)] [] [] (by kernel_rfl) ⟨rfl,rfl⟩
      ·replace H:=iF c4876 H
       refine AWp.skip ?_
       obtain rfl:=sj H
       exact lf [(0,0)] [] [] (by kernel_rfl) ⟨rfl,rfl⟩
     ·obtain⟨x4881,x4882⟩:=o4958
      rintro e s ⟨rfl,rfl⟩
      obtain⟨t4885,e4886,H⟩:=Z4 H
      refine sR hP hn hm [(4,.call [(0,0)] [(0,0)] [] [] 1 (.tup [iV .i64 t4885.1,iV .i64 t4885.2]) [(0,some (.row 2 92 (x4881.map Z0)))])] [(13,iV .i64 t4885.1),(14,iV .i64 t4885.2)] [0,1,2,3,4,10,11,12,13,14] [] [0] [_,_] ⟨Tryz.call141,Z0g.ok x4881 x4861 x4862 t4885 e4886,trivial⟩ ?_
      refine AWp.seq ?_
      refine sO hP hn hm [] [(56,bV (t4885.2==(2:Int)))] [0,1,2,3,4,10,11,12,13,14,56] [] [0] ?_
      obtain⟨o4960,e4961,H⟩:=Z4 H
      refine AWp.mono (Q:=fun e s=>(match (generalizing:=false) o4960 with | (x4892,x4893,x4894)=>e = .normal∧s=⟨[(0,.own 0),(1,iV .i64 x4861),(2,iV .i64 x4862),(3,iV .i64 x4882),(4,.im (.sc (.func (.func 78) #[] #[]))),(10,bV x4864),(11,bV x4865),(12,iV .i64 (i64.wrap (x4862-x4861))),(13,iV .i64 x4893),(14,iV .i64 x4894)],[(0,some (.row 2 92 (x4892.map Z0)))],1⟩)) (AWp.cv ?_) ?_
      ·replace H:=e4961;clear e4961
       refine AWp.cond (t4885.2==(2:Int)) (by kernel_rfl) (fun c4887 => ?_) (fun c4887 => ?_)
       ·replace H:=iT c4887 H
        obtain⟨t4890,e4891,H⟩:=Z4 H
        refine sR hP hn hm [(4,.call [(0,0)] [(0,0)] [] [] 1 (.tup []) [(0,some (.row 2 92 (t4890.map Z0)))])] [] [0,1,2,3,4,10,11,12,13] [(0,some (.row 2 92 (t4890.map Z0)))] [0] [_,_] ⟨Tryz.call142,Zw.ok x4881 x4861 x4862 t4890 e4891,trivial⟩ ?_
        refine sO hP hn hm [] [(13,iV .i64 (i64.wrap ((i64.wrap (x4862-(1:Int)))-(i64.wrap (t4885.1-x4861)))))] [0,1,2,3,4,10,11,12,13] [] [0] ?_
        refine rO hP hn hm [] [(14,iV .i64 1)] [0,1,2,3,4,10,11,12,13,14] [] [0] ?_
        obtain rfl:=sj H
        exact lf [(0,0)] [] [] (by kernel_rfl) ⟨rfl,rfl⟩
       ·replace H:=iF c4887 H
        refine AWp.skip ?_
        obtain rfl:=sj H
        exact lf [(0,0)] [] [] (by kernel_rfl) ⟨rfl,rfl⟩
      ·obtain⟨x4892,x4893,x4894⟩:=o4960
       rintro e s ⟨rfl,rfl⟩
       refine AWp.seq ?_
       refine AWp.seq ?_
       obtain⟨o4962,e4963,H⟩:=Z4 H
       refine AWp.mono (Q:=fun e s=>(match (generalizing:=false) o4962 with | x4899=>e = .normal∧s=⟨[(0,.own 0),(1,iV .i64 x4861),(2,iV .i64 x4862),(3,iV .i64 x4882),(4,.im (.sc (.func (.func 78) #[] #[]))),(10,bV x4864),(11,bV x4865),(12,iV .i64 (i64.wrap (x4862-x4861))),(13,iV .i64 x4893),(75,bV x4899)],[(0,some (.row 2 92 (x4892.map Z0)))],1⟩)) (AWp.cv ?_) ?_
       ·replace H:=e4963;clear e4963
        rcases Bool.eq_false_or_eq_true x4864 with c4897 | c4897
        ·replace H:=iT c4897 H
         rcases Bool.eq_false_or_eq_true x4865 with c4898 | c4898
         ·replace H:=iT c4898 H
          refine rG hP hn hm [(1,.b true),(4,.b true)] [(70,bV x4865),(73,iV .i64 x4894),(74,bV (x4894==(1:Int))),(75,bV (x4894==(1:Int)))] [0,1,2,3,4,10,11,12,13,70,73,74,75] [] [0] [_,_] ⟨c4897,c4898,trivial⟩ ?_
          obtain rfl:=sj H
          exact lf [(0,0)] [] [] (by kernel_rfl) ⟨rfl,rfl⟩
         ·replace H:=iF c4898 H
          refine rG hP hn hm [(1,.b true),(4,.b false)] [(70,bV x4865),(75,bV false)] [0,1,2,3,4,10,11,12,13,70,75] [] [0] [_,_] ⟨c4897,c4898,trivial⟩ ?_
          obtain rfl:=sj H
          exact lf [(0,0)] [] [] (by kernel_rfl) ⟨rfl,rfl⟩
        ·replace H:=iF c4897 H
         refine rG hP hn hm [(1,.b false)] [(75,bV false)] [0,1,2,3,4,10,11,12,13,75] [] [0] [_] ⟨c4897,trivial⟩ ?_
         obtain rfl:=sj H
         exact lf [(0,0)] [] [] (by kernel_rfl) ⟨rfl,rfl⟩
       ·obtain⟨x4899,rfl⟩:∃ z,z=o4962:=⟨_,rfl⟩
        rintro e s ⟨rfl,rfl⟩
        obtain⟨o4964,e4965,H⟩:=Z4 H
        refine AWp.mono (Q:=fun e s=>(match (generalizing:=false) o4964 with | .inl rr=>e = .ret∧s.floor=1∧Z1y Tryz.prog Tryz.f111 s=some (.tup [])∧([(0,s.obj 0)]:List (Nat×Option MObj))=[(0,some (.row 2 92 (rr.map Z0)))] | .inr x4906=>e = .normal∧s=⟨[(0,.own 0),(1,iV .i64 x4861),(2,iV .i64 x4862),(3,iV .i64 x4882),(4,.im (.sc (.func (.func 78) #[] #[]))),(10,bV x4864),(11,bV x4865),(12,iV .i64 (i64.wrap (x4862-x4861))),(13,iV .i64 x4893)],[(0,some (.row 2 92 (x4906.map Z0)))],1⟩)) (AWp.cv ?_) ?_
        ·replace H:=e4965;clear e4965
         refine AWp.cond x4899 (by kernel_rfl) (fun c4900 => ?_) (fun c4900 => ?_)
         ·replace H:=iT c4900 H
          obtain⟨t4903,e4904,H⟩:=Z4 H
          refine sR hP hn hm [(4,.call [(0,0)] [(0,0)] [] [] 1 (bV t4903.1) [(0,some (.row 2 92 (t4903.2.map Z0)))])] [(80,bV t4903.1)] [0,1,2,3,4,10,11,12,13,80] [(0,some (.row 2 92 (t4903.2.map Z0)))] [0] [_,_] ⟨Tryz.call143,Z8.ok x4892 x4861 x4862 t4903 e4904,trivial⟩ ?_
          refine AWp.cond t4903.1 (by kernel_rfl) (fun c4905 => ?_) (fun c4905 => ?_)
          ·replace H:=iT c4905 H
           refine AWp.conv (inv:=[(0,0)]) (vk:=[]) (e0:=[]) (t:=⟨[],[(0,some (.row 2 92 (t4903.2.map Z0)))],1⟩) (by kernel_rfl) ?_
           refine AWp.ret ?_
           obtain rfl:=sj H
           exact rl rfl rfl (by kernel_rfl) (by kernel_rfl)
          ·replace H:=iF c4905 H
           refine AWp.skip ?_
           obtain rfl:=sj H
           exact lf [(0,0)] [] [] (by kernel_rfl) ⟨rfl,rfl⟩
         ·replace H:=iF c4900 H
          refine AWp.skip ?_
          obtain rfl:=sj H
          exact lf [(0,0)] [] [] (by kernel_rfl) ⟨rfl,rfl⟩
        ·rcases o4964 with rr | x4906
         ·skip
          rintro e s ⟨rfl,hfl,hres⟩
          obtain rfl:=sj H
          exact Exists.intro _ (And.intro (fun _ _ h=>h) (And.intro rfl (And.intro hfl hres)))
         ·skip
          rintro e s ⟨rfl,rfl⟩
          refine AWp.seq ?_
          refine AWp.seq ?_
          obtain⟨o4966,e4967,H⟩:=Z4 H
          refine AWp.mono (Q:=fun e s=>(match (generalizing:=false) o4966 with | x4925=>e = .normal∧s=⟨[(0,.own 0),(1,iV .i64 x4861),(2,iV .i64 x4862),(3,iV .i64 x4882),(4,.im (.sc (.func (.func 78) #[] #[]))),(10,bV x4864),(11,bV x4865),(12,iV .i64 (i64.wrap (x4862-x4861))),(13,iV .i64 x4893),(97,bV x4925)],[(0,some (.row 2 92 (x4906.map Z0)))],1⟩)) (AWp.cv ?_) ?_
          ·replace H:=e4967;clear e4967
           rcases Bool.eq_false_or_eq_true (decide (x4861>(0:Int))) with c4916 | c4916
           ·replace H:=iT c4916 H
            obtain⟨b4917,p4918,q4919,H⟩:=Z02 H
            obtain⟨b4920,p4921,q4922,H⟩:=Z02 H
            obtain⟨t4923,e4924,H⟩:=Z4 H
            refine rG hP hn hm [(2,.b true),(8,.c (Z0 b4917)),(12,.c (Z0 b4920)),(13,.call [] [] [] [] 0 (iV .i64 t4923) [])] [(84,.im (.sc (.func (.func 78) #[] #[]))),(85,.own 0),(86,iV .i64 x4861),(87,iV .i64 (i64.wrap (x4861-(1:Int)))),(88,.ptr 0 (Int.toNat (i64.wrap (x4861-(1:Int)))) 0),(89,.agg [iV .i64 b4917.f0,iV .i64 b4917.f1]),(90,.own 0),(91,iV .i64 x4893),(92,.ptr 0 (Int.toNat (x4893)) 0),(93,.agg [iV .i64 b4920.f0,iV .i64 b4920.f1]),(94,iV .i64 t4923),(95,bV (decide (t4923<(0:Int)))),(96,bV (!(decide (t4923<(0:Int))))),(97,bV (!(decide (t4923<(0:Int)))))] [0,1,2,3,4,10,11,12,13,84,85,86,87,88,89,90,91,92,93,94,95,96,97] [] [0] [_,_,_,_,_,_,_,_,_] ⟨c4916,p4918,Z09 Z0 p4918 q4919,Zi Z0 q4919,p4921,Z09 Z0 p4921 q4922,Zi Z0 q4922,Tryz.call78,Z0l.ok b4917 b4920 t4923 e4924,trivial⟩ ?_
            obtain rfl:=sj H
            exact lf [(0,0)] [] [] (by kernel_rfl) ⟨rfl,rfl⟩
           ·replace H:=iF c4916 H
            refine rG hP hn hm [(2,.b false)] [(97,bV false)] [0,1,2,3,4,10,11,12,13,97] [] [0] [_] ⟨c4916,trivial⟩ ?_
            obtain rfl:=sj H
            exact lf [(0,0)] [] [] (by kernel_rfl) ⟨rfl,rfl⟩
          ·obtain⟨x4925,rfl⟩:∃ z,z=o4966:=⟨_,rfl⟩
           rintro e s ⟨rfl,rfl⟩
           refine AWp.cond x4925 (by kernel_rfl) (fun c4926 => ?_) (fun c4926 => ?_)
           ·replace H:=iT c4926 H
            obtain⟨t4929,e4930,H⟩:=Z4 H
            refine sR hP hn hm [(5,.call [(0,0)] [(0,0)] [] [] 1 (iV .i64 t4929.1) [(0,some (.row 2 92 (t4929.2.map Z0)))])] [(15,iV .i64 t4929.1)] [0,2,3,4,10,11,15] [(0,some (.row 2 92 (t4929.2.map Z0)))] [0] [_,_] ⟨Tryz.call144,Zc.ok x4906 x4861 x4862 x4893 t4929 e4930,trivial⟩ ?_
            refine sO hP hn hm [] [(1,iV .i64 t4929.1)] [0,1,2,3,4,10,11] [] [0] ?_
            refine AWp.exit ?_
            obtain rfl:=sj H
            exact lf [(0,0)] [] [] (by kernel_rfl) ⟨rfl,rfl⟩
           ·replace H:=iF c4926 H
            refine AWp.skip ?_
            obtain⟨t4933,e4934,H⟩:=Z4 H
            refine sR hP hn hm [(5,.call [(0,0)] [(0,0)] [] [] 1 (.tup [iV .i64 t4933.1,bV t4933.2.1]) [(0,some (.row 2 92 (t4933.2.2.map Z0)))])] [(16,iV .i64 t4933.1),(17,bV t4933.2.1)] [0,1,2,3,4,12,16,17] [(0,some (.row 2 92 (t4933.2.2.map Z0)))] [0] [_,_] ⟨Tryz.call145,Za.ok x4906 x4861 x4862 x4893 t4933 e4934,trivial⟩ ?_
            refine sO hP hn hm [] [(11,bV t4933.2.1)] [0,1,2,3,4,11,12,16] [] [0] ?_
            refine sO hP hn hm [] [(18,iV .i64 (i64.wrap (t4933.1-x4861))),(19,iV .i64 (i64.wrap (x4862-t4933.1)))] [0,1,2,3,4,11,12,16,18,19] [] [0] ?_
            refine sR hP hn hm [] [(20,iV .i64 (i64.wrap (Int.tdiv (i64.wrap (x4862-x4861)) (8:Int))))] [0,1,2,3,4,11,16,18,19,20] [] [0] [(8:Int)≠0] ⟨by decide,trivial⟩ ?_
            refine sO hP hn hm [] [(125,bV (decide ((i64.wrap (t4933.1-x4861))<(i64.wrap (x4862-t4933.1)))))] [0,1,2,3,4,11,16,18,19,20,125] [] [0] ?_
            obtain⟨o4968,e4969,H⟩:=Z4 H
            refine AWp.mono (Q:=fun e s=>(match (generalizing:=false) o4968 with | (x4944,x4945,x4946,x4947)=>e = .normal∧s=⟨[(0,.own 0),(1,iV .i64 x4945),(2,iV .i64 x4946),(3,iV .i64 x4882),(4,.im (.sc (.func (.func 78) #[] #[]))),(10,bV x4947),(11,bV t4933.2.1)],[(0,some (.row 2 92 (x4944.map Z0)))],1⟩)) (AWp.cv ?_) ?_
            ·replace H:=e4969;clear e4969
             refine AWp.cond (decide ((i64.wrap (t4933.1-x4861))<(i64.wrap (x4862-t4933.1)))) (by kernel_rfl) (fun c4935 => ?_) (fun c4935 => ?_)
             ·replace H:=iT c4935 H
              refine sO hP hn hm [] [(10,bV (decide ((i64.wrap (t4933.1-x4861))≥(i64.wrap (Int.tdiv (i64.wrap (x4862-x4861)) (8:Int))))))] [0,1,2,3,4,10,11,16] [] [0] ?_
              obtain⟨t4938,e4939,H⟩:=Z4 H
              refine sR hP hn hm [(5,.call [(0,0)] [(0,0)] [] [] 1 (.tup []) [(0,some (.row 2 92 (t4938.map Z0)))])] [] [0,2,3,4,10,11,16] [(0,some (.row 2 92 (t4938.map Z0)))] [0] [_,Pv.Fn Tryz.prog 111 [.own 0,iV .i64 x4861,iV .i64 t4933.1,iV .i64 x4882,.im (.sc (.func (.func 78) #[] #[]))] [(0,some (.row 2 92 (t4933.2.2.map Z0)))] 1 (fun r o=>r = .tup []∧o=[(0,some (.row 2 92 (t4938.map Z0)))])] ⟨Tryz.call111,by exact ihF t4933.2.2 x4861 t4933.1 x4882 _ e4939,trivial⟩ ?_
              refine rO hP hn hm [] [(1,iV .i64 (i64.wrap (t4933.1+(1:Int))))] [0,1,2,3,4,10,11] [] [0] ?_
              obtain rfl:=sj H
              exact lf [(0,0)] [] [] (by kernel_rfl) ⟨rfl,rfl⟩
             ·replace H:=iF c4935 H
              refine sO hP hn hm [] [(10,bV (decide ((i64.wrap (x4862-t4933.1))≥(i64.wrap (Int.tdiv (i64.wrap (x4862-x4861)) (8:Int))))))] [0,1,2,3,4,10,11,16] [] [0] ?_
              obtain⟨t4942,e4943,H⟩:=Z4 H
              refine sR hP hn hm [(6,.call [(0,0)] [(0,0)] [] [] 1 (.tup []) [(0,some (.row 2 92 (t4942.map Z0)))])] [] [0,1,3,4,10,11,16] [(0,some (.row 2 92 (t4942.map Z0)))] [0] [_,Pv.Fn Tryz.prog 111 [.own 0,iV .i64 (i64.wrap (t4933.1+(1:Int))),iV .i64 x4862,iV .i64 x4882,.im (.sc (.func (.func 78) #[] #[]))] [(0,some (.row 2 92 (t4933.2.2.map Z0)))] 1 (fun r o=>r = .tup []∧o=[(0,some (.row 2 92 (t4942.map Z0)))])] ⟨Tryz.call111,by exact ihF t4933.2.2 (i64.wrap (t4933.1+(1:Int))) x4862 x4882 _ e4943,trivial⟩ ?_
              refine rO hP hn hm [] [(2,iV .i64 t4933.1)] [0,1,2,3,4,10,11] [] [0] ?_
              obtain rfl:=sj H
              exact lf [(0,0)] [] [] (by kernel_rfl) ⟨rfl,rfl⟩
            ·obtain⟨x4944,x4945,x4946,x4947⟩:=o4968
             rintro e s ⟨rfl,rfl⟩
             obtain rfl:=sj H
             exact lf [(0,0)] [] [] (by kernel_rfl) ⟨rfl,rfl⟩
  ·rcases o4956 with rr | ⟨x4948,x4949,x4950,x4951,x4952,x4953⟩
   ·skip
    rintro e s ⟨rfl,hfl,hres⟩
    obtain rfl:=sj H
    exact Exists.intro _ (And.intro (fun _ _ h=>h) (And.intro rfl (And.intro hfl hres)))
   ·skip
    rintro e s ⟨rfl,rfl⟩
    exact LWp.conv [(0,0)] [] [] (by kernel_rfl) (ih _ _ _ _ _ _ _ H)
 ·obtain⟨rr,rfl⟩:∃ z,z=o4954:=⟨_,rfl⟩
  rintro e s ⟨rfl,hfl,hres⟩
  obtain rfl:=sj H
  exact Exists.intro _ (And.intro (fun _ _ h=>h) (And.intro (.inl rfl) (And.intro hfl hres)))
theorem Zg.ok (a0:List Z5) (a1:Int) (a2:Int) (a3:Int) (r:List Z5) (H:Zg.f a0 a1 a2 a3=some r):Pv.Fn Tryz.prog 111 [.own 0,iV .i64 a1,iV .i64 a2,iV .i64 a3,.im (.sc (.func (.func 78) #[] #[]))] [(0,some (.row 2 92 (a0.map Z0)))] 1 (fun x o=>x = .tup []∧o=[(0,some (.row 2 92 (r.map Z0)))]):=Zg.oku 100 a0 a1 a2 a3 r H
def Z0z.f (a0:List Z5):Option (List Z5):=(Z4f.f (u64.wrap ((a0.length:Int))))>>=fun t4972=>(Zg.f a0 0 (a0.length:Int) t4972)>>=fun t4974=>some t4974
theorem Z0z.ok (a0:List Z5) (r:List Z5) (H:Z0z.f a0=some r):Pv.Fn Tryz.prog 77 [.own 0,.im (.sc (.func (.func 78) #[] #[]))] [(0,some (.row 2 92 (a0.map Z0)))] 1 (fun x o=>x = .tup []∧o=[(0,some (.row 2 92 (r.map Z0)))]):=by
 unfold Z0z.f at H
 refine Fn.bodyK [0] Tryz.func77 rfl rfl (fun Γ hP hn => ?_)
 have hm:Tryz.prog.follows .mixedOrders=true:=by kernel_rfl
 replace hn:Γ.n=14:=hn
 refine sR hP hn hm [(1,.any (iV .i64 (a0.length:Int)))] [(4,iV .i64 (a0.length:Int))] [0,1,4] [] [0] [((a0.map Z0).length:Int)=(a0.length:Int)] ⟨by rw[Zr],trivial⟩ ?_
 obtain⟨t4972,e4973,H⟩:=Z4 H
 obtain⟨t4974,e4975,H⟩:=Z4 H
 refine rG hP hn hm [(4,.call [] [] [] [] 0 (iV .i64 t4972) []),(6,.call [(0,0)] [(0,0)] [] [] 1 (.tup []) [(0,some (.row 2 92 (t4974.map Z0)))])] [] [] [(0,some (.row 2 92 (t4974.map Z0)))] [0] [_,_,_,_] ⟨Tryz.call112,Z4f.ok (u64.wrap ((a0.length:Int))) t4972 e4973,Tryz.call111,Zg.ok a0 0 (a0.length:Int) t4972 t4974 e4975,trivial⟩ ?_
 obtain rfl:=sj H
 exact Exists.intro ⟨[],[(0,some (.row 2 92 (t4974.map Z0)))],1⟩ (And.intro (fun _ _ h=>h.conv (inv:=[(0,0)]) (vk:=[]) (e0:=[]) (t:=⟨[],[(0,some (.row 2 92 (t4974.map Z0)))],1⟩) (by kernel_rfl)) (And.intro (.inr rfl) (And.intro rfl (And.intro (by kernel_rfl) (by kernel_rfl)))))
def Z4a.l0 (t4978:List Z5) (x4989:List Z5) (x4990:Int):Option (List Z5):=if(decide (x4990<(t4978.length:Int)))=true then((((at? t4978 x4990)>>=fun b4995=>((if(decide ((x4989.length:Int)>(0:Int)))=true then((at? x4989 (i64.wrap ((x4989.length:Int)-(1:Int))))>>=fun b5003=>some (decide (b4995.f0≤(i64.wrap (b5003.f1+(1:Int)))))) else(some false)):Option (Bool))>>=fun x5006=>if x5006=true then((at? x4989 (i64.wrap ((x4989.length:Int)-(1:Int))))>>=fun b5011=>some (x4989.set (Int.toNat (i64.wrap ((x4989.length:Int)-(1:Int)))) (⟨b5011.f0,(if b4995.f1>b5011.f1 then b4995.f1 else b5011.f1)⟩:Z5))) else((chk ((x4989.length+[b4995].length)*16≤140737488355328))>>=fun _=>some (x4989++[b4995]))):Option (List Z5))>>=fun x5016=>Z4a.l0 t4978 x5016 (i64.wrap (x4990+(1:Int)))) else(some x4989)
partial_fixpoint
def Z4a.f (a0:List Z5):Option (Z2p):=(Z1b.f a0)>>=fun t3126=>(Z03.f t3126)>>=fun t3128=>(Z0z.f t3128)>>=fun t4978=>(Z4a.l0 t4978 [] 0)>>=fun x5017=>some (⟨x5017⟩:Z2p)
theorem Z4a.ok (a0:List Z5) (r:Z2p) (H:Z4a.f a0=some r):Pv.Fn Tryz.prog 36 [.im (.row (a0.map Z0))] [] 0 (fun x o=>x = .agg [.own 0]∧o=[(0,some (.row 2 92 (((r).f0).map Z0)))]):=by
 unfold Z4a.f at H
 refine Fn.bodyK [0] Tryz.func36 rfl rfl (fun Γ hP hn => ?_)
 have hm:Tryz.prog.follows .mixedOrders=true:=by kernel_rfl
 replace hn:Γ.n=60:=hn
 refine sO hP hn hm [(0,.k 0)] [(2,.ptr 0 0 0)] [0,2] [(0,some (.box 97 [.none0]))] [0] ?_
 obtain⟨t3126,e3127,H⟩:=Z4 H
 obtain⟨t3128,e3129,H⟩:=Z4 H
 refine sR hP hn hm [(1,.call [] [(0,1)] [] [1] 0 (.own 0) [(0,some (.row 2 92 (t3126.map Z0)))]),(2,.call [(1,0)] [(1,2)] [] [2] 1 (.own 1) [(0,none),(1,some (.row 2 92 (t3128.map Z0)))])] [(0,.own 2)] [0,2] [(2,some (.row 2 92 (t3128.map Z0)))] [0,2] [_,_,_,_] ⟨Tryz.call75,Z1b.ok a0 t3126 e3127,Tryz.call74,Z03.ok t3126 t3128 e3129,trivial⟩ ?_
 obtain⟨t4978,e4979,H⟩:=Z4 H
 refine sR hP hn hm [(1,.call [(2,0)] [(0,2)] [] [] 1 (.tup []) [(0,some (.row 2 92 (t4978.map Z0)))])] [] [0,2] [(2,some (.row 2 92 (t4978.map Z0)))] [0,2] [_,_] ⟨Tryz.call77,Z0z.ok t3128 t4978 e4979,trivial⟩ ?_
 refine sO hP hn hm [(0,.k 3)] [(3,.ptr 3 0 0)] [0,2,3] [(3,some (.box 97 [.none0]))] [0,2,3] ?_
 refine AWp.seq ?_
 refine sR hP hn hm [(1,.any (iV .i64 (t4978.length:Int)))] [(12,.own 2),(13,iV .i64 (t4978.length:Int)),(14,iV .i64 0)] [2,3,12,13,14] [] [0,2,3] [((t4978.map Z0).length:Int)=(t4978.length:Int)] ⟨by rw[Zr],trivial⟩ ?_
 refine AWp.block ?_
 obtain⟨o5018,e5019,H⟩:=Z4 H
 refine AWp.loop (LWp.conv (inv:=[(0,7),(2,10),(3,8)]) (vk:=[]) (e0:=[9]) (t:=⟨[(2,.ptr 7 0 0),(3,.ptr 8 0 0),(12,.own 10),(13,iV .i64 (t4978.length:Int)),(14,iV .i64 0)],[(7,some (.box 97 [.none0])),(8,some (.box 97 [.own 9])),(9,some (.row 2 92 ([].map Z0))),(10,some (.row 2 92 (t4978.map Z0)))],0⟩) (by kernel_rfl) ?_)
 refine LWp.mono (Q:=fun e s=>(match (generalizing:=false) o5018 with | x5017=>e = .exit 0∧s=⟨[(2,.ptr 23 0 0),(3,.ptr 24 0 0)],[(23,some (.box 97 [.none0])),(24,some (.box 97 [.own 25])),(25,some (.row 2 92 (x5017.map Z0)))],0⟩)) (LWp.cv (Zs (fun body hbody => ?_))) ?_
 ·refine       Z4a.l0.partial_correctness t4978 (motive:=fun x4989 x4990 o5018=>LWp Γ body (fun e s=>∃ t,Cv Γ s t∧(match (generalizing:=false) o5018 with | x5017=>e = .exit 0∧t=⟨[(2,.ptr 23 0 0),(3,.ptr 24 0 0)],[(23,some (.box 97 [.none0])),(24,some (.box 97 [.own 25])),(25,some (.row 2 92 (x5017.map Z0         )))],0⟩)) ⟨[(2,.ptr 7 0 0),(3,.ptr 8 0 0),(12,.own 10),(13,iV .i64 (t4978.length:Int)),(14,iV .i64 x4990)],[(7,some (.box 97 [.none0])),(8,some (.box 97 [.own 9])),(9,some (.row 2 92 (x4989.map Z0         ))),(10,some (.row 2 92 (t4978.map Z0         )))],0⟩) ?_ _ _ _ e5019
  clear H e5019 o5018;intro self ih x4989 x4990 o5018 H
  subst hbody
  refine LWp.round ?_
  refine sO hP hn hm [] [(15,bV (decide (x4990<(t4978.length:Int))))] [2,3,12,13,14,15] [] [7,8,9,10] ?_
  refine AWp.seq ?_
  refine AWp.cond (decide (x4990<(t4978.length:Int))) (by kernel_rfl) (fun c4991 => ?_) (fun c4991 => ?_)
  ·replace H:=iT c4991 H
   refine AWp.skip ?_
   refine AWp.seq ?_
   obtain⟨o5020,e5021,H⟩:=Z4 H
   refine AWp.mono (Q:=fun e s=>(match (generalizing:=false) o5020 with | x5016=>e = .normal∧s=⟨[(2,.ptr 19 0 0),(3,.ptr 20 0 0),(12,.own 22),(13,iV .i64 (t4978.length:Int)),(14,iV .i64 x4990)],[(19,some (.box 97 [.none0])),(20,some (.box 97 [.own 21])),(21,some (.row 2 92 (x5016.map Z0))),(22,some (.row 2 92 (t4978.map Z0)))],0⟩)) (AWp.cv ?_) ?_
   ·replace H:=e5021;clear e5021
    refine AWp.block ?_
    obtain⟨b4995,p4996,q4997,H⟩:=Z02 H
    refine sR hP hn hm [(1,.c (Z0 b4995)),(2,.k 11)] [(5,.ptr 11 0 0)] [2,3,5,12,13,14] [(11,some (.box 92 (Z3w b4995)))] [7,8,9,10,11] [_,_,_] ⟨p4996,Z09 Z0 p4996 q4997,Zi Z0 q4997,trivial⟩ ?_
    refine sR hP hn hm [(2,.any (iV .i64 (x4989.length:Int)))] [(6,iV .i64 (x4989.length:Int))] [2,3,5,6,12,13,14] [] [7,8,9,10,11] [((x4989.map Z0).length:Int)=(x4989.length:Int)] ⟨by rw[Zr],trivial⟩ ?_
    refine AWp.seq ?_
    refine AWp.seq ?_
    obtain⟨o5022,e5023,H⟩:=Z4 H
    refine AWp.mono (Q:=fun e s=>(match (generalizing:=false) o5022 with | x5006=>e = .normal∧s=⟨[(2,.ptr 12 0 0),(3,.ptr 13 0 0),(5,.ptr 15 0 0),(6,iV .i64 (x4989.length:Int)),(12,.own 16),(13,iV .i64 (t4978.length:Int)),(14,iV .i64 x4990),(35,bV x5006)],[(12,some (.box 97 [.none0])),(13,some (.box 97 [.own 14])),(14,some (.row 2 92 (x4989.map Z0))),(15,some (.box 92 (Z3w b4995))),(16,some (.row 2 92 (t4978.map Z0)))],0⟩)) (AWp.cv ?_) ?_
    ·replace H:=e5023;clear e5023
     rcases Bool.eq_false_or_eq_true (decide ((x4989.length:Int)>(0:Int))) with c5002 | c5002
     ·replace H:=iT c5002 H
      obtain⟨b5003,p5004,q5005,H⟩:=Z02 H
      refine rG hP hn hm [(2,.b true),(11,.c (Z0 b5003))] [(24,.ptr 11 0 0),(25,iV .i64 b4995.f0),(26,.ptr 8 0 0),(27,.own 9),(28,iV .i64 (x4989.length:Int)),(29,iV .i64 (i64.wrap ((x4989.length:Int)-(1:Int)))),(30,.ptr 9 (Int.toNat (i64.wrap ((x4989.length:Int)-(1:Int)))) 0),(31,.ptr 9 (Int.toNat (i64.wrap ((x4989.length:Int)-(1:Int)))) 1),(32,iV .i64 b5003.f1),(33,iV .i64 (i64.wrap (b5003.f1+(1:Int)))),(34,bV (decide (b4995.f0≤(i64.wrap (b5003.f1+(1:Int)))))),(35,bV (decide (b4995.f0≤(i64.wrap (b5003.f1+(1:Int))))))] [2,3,5,6,12,13,14,24,25,26,27,28,29,30,31,32,33,34,35] [] [7,8,9,10,11] [_,_,_,_] ⟨c5002,p5004,Z09 Z0 p5004 q5005,Zi Z0 q5005,trivial⟩ ?_
      obtain rfl:=sj H
      exact lf [(7,12),(8,13),(9,14),(11,15),(10,16)] [] [] (by kernel_rfl) ⟨rfl,rfl⟩
     ·replace H:=iF c5002 H
      refine rG hP hn hm [(2,.b false)] [(35,bV false)] [2,3,5,6,12,13,14,35] [] [7,8,9,10,11] [_] ⟨c5002,trivial⟩ ?_
      obtain rfl:=sj H
      exact lf [(7,12),(8,13),(9,14),(11,15),(10,16)] [] [] (by kernel_rfl) ⟨rfl,rfl⟩
    ·obtain⟨x5006,rfl⟩:∃ z,z=o5022:=⟨_,rfl⟩
     rintro e s ⟨rfl,rfl⟩
     refine AWp.cond x5006 (by kernel_rfl) (fun c5007 => ?_) (fun c5007 => ?_)
     ·replace H:=iT c5007 H
      obtain⟨b5011,p5012,q5013,H⟩:=Z02 H
      refine sR hP hn hm [(10,.c (Z0 b5011)),(13,.more xMax),(16,.put (Z0 b5011) ((x4989.set (Int.toNat (i64.wrap ((x4989.length:Int)-(1:Int)))) (⟨b5011.f0,(if b4995.f1>b5011.f1 then b4995.f1 else b5011.f1)⟩:Z5)).map Z0))] [] [2,3,12,13,14] [(14,some (.row 2 92 ((x4989.set (Int.toNat (i64.wrap ((x4989.length:Int)-(1:Int)))) (⟨b5011.f0,(if b4995.f1>b5011.f1 then b4995.f1 else b5011.f1)⟩:Z5)).map Z0)))] [12,13,14,16] [_,_,_,_,_,_,(x4989.set (Int.toNat (i64.wrap ((x4989.length:Int)-(1:Int)))) (⟨b5011.f0,(if b4995.f1>b5011.f1 then b4995.f1 else b5011.f1)⟩:Z5)).map Z0=(x4989.map Z0).set (Int.toNat (i64.wrap ((x4989.length:Int)-(1:Int)))) (Z0t (Z0 b5011) 1 [iI .i64 (if b4995.f1>b5011.f1 then b4995.f1 else b5011.f1)])] ⟨p5012,Z09 Z0 p5012 q5013,Zi Z0 q5013,p5012,Z09 Z0 p5012 q5013,Zi Z0 q5013,by exact set1 _ _ _ _,trivial⟩ ?_
      refine AWp.exit ?_
      obtain rfl:=sj H
      exact lf [(12,19),(13,20),(14,21),(16,22)] [] [] (by kernel_rfl) ⟨rfl,rfl⟩
     ·replace H:=iF c5007 H
      refine AWp.skip ?_
      obtain⟨c5015,H⟩:=Z10 H
      refine rG hP hn hm [(3,.app 17 ([b4995].map Z0)),(4,.app 18 ((x4989++[b4995]).map Z0))] [] [2,3,12,13,14] [(13,some (.box 97 [.own 18])),(18,some (.row 2 92 ((x4989++[b4995]).map Z0)))] [12,13,16,18] [[b4995].map Z0=[[iI .i64 b4995.f0,iI .i64 b4995.f1]],(x4989++[b4995]).map Z0=(x4989.map Z0)++([b4995].map Z0),∀ c∈([b4995].map Z0),c.length=2,∀ c∈([b4995].map Z0),Z16 (c.map .im)=true,((x4989.map Z0).length+([b4995].map Z0).length)*16≤140737488355328] ⟨by exact rfl,by simp,by exact Z12 _ _ _ (fun _=>rfl),by exact Z14 _ _ (fun _=>rfl),by simpa using c5015,trivial⟩ ?_
      obtain rfl:=sj H
      exact lf [(12,19),(13,20),(18,21),(16,22)] [] [] (by kernel_rfl) ⟨rfl,rfl⟩
   ·obtain⟨x5016,rfl⟩:∃ z,z=o5020:=⟨_,rfl⟩
    rintro e s ⟨rfl,rfl⟩
    refine rO hP hn hm [] [(14,iV .i64 (i64.wrap (x4990+(1:Int))))] [2,3,12,13,14] [] [19,20,21,22] ?_
    exact LWp.conv [(19,7),(20,8),(21,9),(22,10)] [] [] (by kernel_rfl) (ih _ _ _ H)
  ·replace H:=iF c4991 H
   refine AWp.exit ?_
   obtain rfl:=sj H
   exact lf [(7,23),(8,24),(9,25)] [] [] (by kernel_rfl) ⟨rfl,rfl⟩
 ·obtain⟨x5017,rfl⟩:∃ z,z=o5018:=⟨_,rfl⟩
  rintro e s ⟨rfl,rfl⟩
  refine sO hP hn hm [] [] [2] [(23,some (.box 97 [.own 25]))] [23,25] ?_
  refine AWp.conv (inv:=[(23,1),(25,0)]) (vk:=[]) (e0:=[]) (t:=⟨[(2,.ptr 1 0 0)],[(0,some (.row 2 92 ((((⟨x5017⟩:Z2p)).f0).map Z0))),(1,some (.box 97 [.own 0]))],0⟩) (by kernel_rfl) ?_
  refine AWp.ret ?_
  obtain rfl:=sj H
  exact rl (.inl rfl) rfl (by kernel_rfl) (by kernel_rfl)
def Z1p.l0 (a0:Z2p) (x5045:List Int) (x5046:Int) (x5047:Int) (x5048:Int):Option ((List Int)×Int):=if(decide (x5048<(a0.f0.length:Int)))=true then((at? a0.f0 x5048)>>=fun b5053=>(Zd.f x5045 x5046 (u64.wrap (i64.wrap (b5053.f0-x5047))))>>=fun t5058=>(Zd.f t5058.1 t5058.2 (u64.wrap (i64.wrap (b5053.f1-b5053.f0))))>>=fun t5062=>Z1p.l0 a0 t5062.1 t5062.2 (i64.wrap (b5053.f1+(2:Int))) (i64.wrap (x5048+(1:Int)))) else(some (x5045,x5046))
partial_fixpoint
def Z1p.f (a0:Z2p) (a1_c0:List Int) (a1_c1:Int):Option ((List Int)×Int):=(Zd.f a1_c0 a1_c1 (u64.wrap ((a0.f0.length:Int))))>>=fun t5028=>(Z1p.l0 a0 t5028.1 t5028.2 0 0)>>=fun oo=>match oo with | (x5064,x5065)=>(some (x5064,x5065))
theorem Z1p.ok (a0:Z2p) (a1_c0:List Int) (a1_c1:Int) (r:(List Int)×Int) (H:Z1p.f a0 a1_c0 a1_c1=some r):Pv.Fn Tryz.prog 37 [.agg [.im (.row (a0.f0.map Z0))],.ptr 0 0 0] [(0,some (.box 86 [.own 1,iV .u64 a1_c1])),(1,some (.row 1 5 (a1_c0.map (Z2 .u8))))] 2 (fun x o=>x = .tup []∧o=[(0,some (.box 86 [.own 2,iV .u64 r.2])),(1,none),(2,some (.row 1 5 (r.1.map (Z2 .u8))))]):=by
 unfold Z1p.f at H
 refine Fn.bodyK [0,1,2] Tryz.func37 rfl rfl (fun Γ hP hn => ?_)
 have hm:Tryz.prog.follows .mixedOrders=true:=by kernel_rfl
 replace hn:Γ.n=39:=hn
 refine sO hP hn hm [(0,.k 2)] [(2,.ptr 2 0 0)] [1,2] [(2,some (.box 97 [.im (.row (a0.f0.map Z0))]))] [0,1,2] ?_
 obtain⟨t5028,e5029,H⟩:=Z4 H
 refine sR hP hn hm [(3,.any (iV .i64 (a0.f0.length:Int))),(5,.call [(0,0),(1,1)] [(0,0),(2,3)] [] [3] 2 (.tup []) [(0,some (.box 86 [.own 2,iV .u64 t5028.2])),(1,none),(2,some (.row 1 5 (t5028.1.map (Z2 .u8))))])] [] [1,2] [(0,some (.box 86 [.own 3,iV .u64 t5028.2])),(3,some (.row 1 5 (t5028.1.map (Z2 .u8))))] [0,2,3] [((a0.f0.map Z0).length:Int)=(a0.f0.length:Int),_,_] ⟨by rw[Zr],Tryz.call33,Zd.ok a1_c0 a1_c1 (u64.wrap ((a0.f0.length:Int))) t5028 e5029,trivial⟩ ?_
 refine sO hP hn hm [] [(4,iV .i64 0)] [1,2,4] [] [0,2,3] ?_
 refine sR hP hn hm [(2,.any (iV .i64 (a0.f0.length:Int)))] [(14,.im (.row (a0.f0.map Z0))),(15,iV .i64 (a0.f0.length:Int)),(16,iV .i64 0)] [1,4,14,15,16] [] [0,3] [((a0.f0.map Z0).length:Int)=(a0.f0.length:Int)] ⟨by rw[Zr],trivial⟩ ?_
 refine AWp.block ?_
 obtain⟨o5066,e5067,H⟩:=Z4 H
 refine AWp.loop (LWp.conv (inv:=[(0,0),(3,7)]) (vk:=[]) (e0:=[]) (t:=⟨[(1,.ptr 0 0 0),(4,iV .i64 0),(14,.im (.row (a0.f0.map Z0))),(15,iV .i64 (a0.f0.length:Int)),(16,iV .i64 0)],[(0,some (.box 86 [.own 7,iV .u64 t5028.2])),(7,some (.row 1 5 (t5028.1.map (Z2 .u8))))],2⟩) (by kernel_rfl) ?_)
 refine LWp.mono (Q:=fun e s=>(match (generalizing:=false) o5066 with | (x5064,x5065)=>e = .exit 0∧s=⟨[],[(0,some (.box 86 [.own 11,iV .u64 x5065])),(11,some (.row 1 5 (x5064.map (Z2 .u8))))],2⟩)) (LWp.cv (Zs (fun body hbody => ?_))) ?_
 ·refine                Z1p.l0.partial_correctness a0 (motive:=fun x5045 x5046 x5047 x5048 o5066=>LWp Γ body (fun e s=>∃ t,Cv Γ s t∧(match (generalizing:=false) o5066 with | (x5064,x5065)=>e = .exit 0∧t=⟨[],[(0,some (.box 86 [.own 11,iV .u64 x5065])),(11,some (.row 1 5 (x5064.map (Z2     .u8))))],2⟩)) ⟨[(1,.ptr 0 0 0),(4,iV .i64 x5047),(14,.im (.row (a0.f0.map Z0         ))),(15,iV .i64 (a0.f0.length:Int)),(16,iV .i64 x5048)],[(0,some (.box 86 [.own 7,iV .u64 x5046])),(7,some (.row 1 5 (x5045.map (Z2     .u8))))],2⟩) ?_ _ _ _ _ _ e5067
  clear H e5067 o5066;intro self ih x5045 x5046 x5047 x5048 o5066 H
  subst hbody
  refine LWp.round ?_
  refine sO hP hn hm [] [(17,bV (decide (x5048<(a0.f0.length:Int))))] [1,4,14,15,16,17] [] [0,7] ?_
  refine AWp.seq ?_
  refine AWp.cond (decide (x5048<(a0.f0.length:Int))) (by kernel_rfl) (fun c5049 => ?_) (fun c5049 => ?_)
  ·replace H:=iT c5049 H
   refine AWp.skip ?_
   refine AWp.seq ?_
   refine AWp.block ?_
   obtain⟨b5053,p5054,q5055,H⟩:=Z02 H
   refine sR hP hn hm [(0,.c (Z0 b5053)),(2,.k 8)] [(6,.ptr 8 0 0)] [1,4,6,14,15,16] [(8,some (.box 92 (Z3w b5053)))] [0,7,8] [_,_] ⟨p5054,Zi Z0 q5055,trivial⟩ ?_
   obtain⟨t5058,e5059,H⟩:=Z4 H
   refine sR hP hn hm [(6,.call [(0,0),(7,1)] [(0,0),(2,9)] [] [9] 2 (.tup []) [(0,some (.box 86 [.own 2,iV .u64 t5058.2])),(1,none),(2,some (.row 1 5 (t5058.1.map (Z2 .u8))))])] [] [1,6,14,15,16] [(0,some (.box 86 [.own 9,iV .u64 t5058.2])),(9,some (.row 1 5 (t5058.1.map (Z2 .u8))))] [0,8,9] [_,_] ⟨Tryz.call33,Zd.ok x5045 x5046 (u64.wrap (i64.wrap (b5053.f0-x5047))) t5058 e5059,trivial⟩ ?_
   obtain⟨t5062,e5063,H⟩:=Z4 H
   refine sR hP hn hm [(7,.call [(0,0),(9,1)] [(0,0),(2,10)] [] [10] 2 (.tup []) [(0,some (.box 86 [.own 2,iV .u64 t5062.2])),(1,none),(2,some (.row 1 5 (t5062.1.map (Z2 .u8))))])] [] [1,6,14,15,16] [(0,some (.box 86 [.own 10,iV .u64 t5062.2])),(10,some (.row 1 5 (t5062.1.map (Z2 .u8))))] [0,8,10] [_,_] ⟨Tryz.call33,Zd.ok t5058.1 t5058.2 (u64.wrap (i64.wrap (b5053.f1-b5053.f0))) t5062 e5063,trivial⟩ ?_
   refine rO hP hn hm [] [(4,iV .i64 (i64.wrap (b5053.f1+(2:Int))))] [1,4,14,15,16] [] [0,10] ?_
   refine rO hP hn hm [] [(16,iV .i64 (i64.wrap (x5048+(1:Int))))] [1,4,14,15,16] [] [0,10] ?_
   exact LWp.conv [(0,0),(10,7)] [] [] (by kernel_rfl) (ih _ _ _ _ _ H)
  ·replace H:=iF c5049 H
   refine AWp.exit ?_
   obtain rfl:=sj H
   exact lf [(0,0),(7,11)] [] [] (by kernel_rfl) ⟨rfl,rfl⟩
 ·obtain⟨x5064,x5065⟩:=o5066
  rintro e s ⟨rfl,rfl⟩
  obtain rfl:=sj H
  exact Exists.intro ⟨[],[(0,some (.box 86 [.own 2,iV .u64 x5065])),(2,some (.row 1 5 (x5064.map (Z2 .u8))))],2⟩ (And.intro (fun _ _ h=>h.conv (inv:=[(0,0),(11,2)]) (vk:=[]) (e0:=[]) (t:=⟨[],[(0,some (.box 86 [.own 2,iV .u64 x5065])),(2,some (.row 1 5 (x5064.map (Z2 .u8))))],2⟩) (by kernel_rfl)) (And.intro (.inr rfl) (And.intro rfl (And.intro (by kernel_rfl) (by kernel_rfl)))))
def Z1m.l0 (a0:Z0h) (x2997:List Int) (x2998:Int) (x2999:Int):Option ((List Int)×Int):=if(decide (x2999<(a0.f1.length:Int)))=true then((at? a0.f1 x2999)>>=fun b3004=>(Z18.f x2997 x2998 b3004.f0)>>=fun t3009=>(Z1h.f t3009.1 t3009.2 [(⟨b3004.f1,b3004.f2⟩:Zt)])>>=fun t3013=>Z1m.l0 a0 t3013.1 t3013.2 (i64.wrap (x2999+(1:Int)))) else(some (x2997,x2998))
partial_fixpoint
def Z1m.l1 (a0:Z0h) (x5074:List Int) (x5075:Int) (x5076:Int):Option ((List Int)×Int):=if(decide (x5076<(a0.f2.length:Int)))=true then((at? a0.f2 x5076)>>=fun b5081=>(Z18.f x5074 x5075 b5081.f0)>>=fun t5086=>(Z4a.f [b5081.f1])>>=fun t5092=>(Z1p.f (t5092) t5086.1 t5086.2)>>=fun t5094=>Z1m.l1 a0 t5094.1 t5094.2 (i64.wrap (x5076+(1:Int)))) else(some (x5074,x5075))
partial_fixpoint
def Z1m.f (a0:Z0h):Option ((List Int)×Int):=(Z1j.f a0)>>=fun t643=>if(!t643)=true then(some ([],6)) else((Z1a.f 0 (u64.wrap (a0.f0)) 2)>>=fun t707=>((if(a0.f0==(1:Int))=true then((Zd.f t707.1 t707.2 (u64.wrap ((a0.f1.length:Int))))>>=fun t861=>(Z1m.l0 a0 t861.1 t861.2 0)>>=fun oo=>match oo with | (x3015,x3016)=>(some (x3015,x3016))) else(((if(a0.f0==(2:Int))=true then((Zd.f t707.1 t707.2 (u64.wrap ((a0.f2.length:Int))))>>=fun t3020=>(Z1m.l1 a0 t3020.1 t3020.2 0)>>=fun oo=>match oo with | (x5096,x5097)=>(some (x5096,x5097))) else((Zd.f t707.1 t707.2 (u64.wrap (a0.f3)))>>=fun t5100=>some (t5100.1,t5100.2))):Option ((List Int)×Int))>>=fun oo=>match oo with | (x5102,x5103)=>(some (x5102,x5103)))):Option ((List Int)×Int))>>=fun oo=>match oo with | (x5104,x5105)=>((Z1k.f x5104 x5105)>>=fun t5108=>some (t5108,0)))
theorem Z1m.ok (a0:Z0h) (r:(List Int)×Int) (H:Z1m.f a0=some r):Pv.Fn Tryz.prog 11 [.agg (Z1q a0)] [] 0 (fun x o=>x = .tup [.own 0,iV .i64 r.2]∧o=[(0,some (.row 1 5 (r.1.map (Z2 .u8))))]):=by
 unfold Z1m.f at H
 refine Fn.bodyK [0] Tryz.func11 rfl rfl (fun Γ hP hn => ?_)
 have hm:Tryz.prog.follows .mixedOrders=true:=by kernel_rfl
 replace hn:Γ.n=82:=hn
 refine sO hP hn hm [(0,.k 0)] [(1,.ptr 0 0 0)] [1] [(0,some (.box 35 (Z1q a0)))] [0] ?_
 refine AWp.seq ?_
 obtain⟨t643,e644,H⟩:=Z4 H
 refine sR hP hn hm [(1,.call [] [] [] [] 0 (bV t643) [])] [(11,bV (!t643))] [1,11] [] [0] [_,_] ⟨Tryz.call13,Z1j.ok a0 t643 e644,trivial⟩ ?_
 refine AWp.cond (!t643) (by kernel_rfl) (fun c645 => ?_) (fun c645 => ?_)
 ·replace H:=iT c645 H
  refine sO hP hn hm [] [(2,.none0),(3,iV .i64 6)] [2,3] [] [] ?_
  refine AWp.conv (inv:=[]) (vk:=[]) (e0:=[0]) (t:=⟨[(2,.own 0),(3,iV .i64 6)],[(0,some (.row 1 5 ([].map (Z2 .u8))))],0⟩) (by kernel_rfl) ?_
  refine AWp.ret ?_
  obtain rfl:=sj H
  exact rl (.inl rfl) rfl (by kernel_rfl) (by kernel_rfl)
 ·replace H:=iF c645 H
  refine AWp.skip ?_
  refine sO hP hn hm [(1,.k 1)] [(4,.ptr 1 0 0)] [1,4] [(1,some (.box 86 [.none0,iV .u64 0]))] [0,1] ?_
  obtain⟨t707,e708,H⟩:=Z4 H
  refine sR hP hn hm [(4,.call [(1,0)] [(0,1),(1,2)] [] [2] 1 (.tup []) [(0,some (.box 86 [.own 1,iV .u64 t707.2])),(1,some (.row 1 5 (t707.1.map (Z2 .u8))))])] [] [1,4] [(1,some (.box 86 [.own 2,iV .u64 t707.2])),(2,some (.row 1 5 (t707.1.map (Z2 .u8))))] [0,1,2] [_,_] ⟨Tryz.call32,Z1a.ok 0 (u64.wrap (a0.f0)) 2 t707 e708,trivial⟩ ?_
  refine AWp.seq ?_
  refine sO hP hn hm [] [(20,iV .i64 a0.f0)] [1,4,20] [] [0,1,2] ?_
  refine AWp.block ?_
  refine sO hP hn hm [] [(26,bV (a0.f0==(1:Int)))] [1,4,20,26] [] [0,1,2] ?_
  obtain⟨o5110,e5111,H⟩:=Z4 H
  refine AWp.mono (Q:=fun e s=>(match (generalizing:=false) o5110 with | (x5104,x5105)=>e = .normal∧s=⟨[(4,.ptr 34 0 0)],[(34,some (.box 86 [.own 35,iV .u64 x5105])),(35,some (.row 1 5 (x5104.map (Z2 .u8))))],0⟩)) (AWp.cv ?_) ?_
  ·replace H:=e5111;clear e5111
   refine AWp.cond (a0.f0==(1:Int)) (by kernel_rfl) (fun c709 => ?_) (fun c709 => ?_)
   ·replace H:=iT c709 H
    obtain⟨t861,e862,H⟩:=Z4 H
    refine sR hP hn hm [(3,.any (iV .i64 (a0.f1.length:Int))),(5,.call [(1,0),(2,1)] [(0,1),(2,3)] [] [3] 2 (.tup []) [(0,some (.box 86 [.own 2,iV .u64 t861.2])),(1,none),(2,some (.row 1 5 (t861.1.map (Z2 .u8))))])] [] [1,4] [(1,some (.box 86 [.own 3,iV .u64 t861.2])),(3,some (.row 1 5 (t861.1.map (Z2 .u8))))] [0,1,3] [((a0.f1.map Zz).length:Int)=(a0.f1.length:Int),_,_] ⟨by rw[Zr],Tryz.call33,Zd.ok t707.1 t707.2 (u64.wrap ((a0.f1.length:Int))) t861 e862,trivial⟩ ?_
    refine sR hP hn hm [(2,.any (iV .i64 (a0.f1.length:Int)))] [(35,.im (.row (a0.f1.map Zz))),(36,iV .i64 (a0.f1.length:Int)),(37,iV .i64 0)] [4,35,36,37] [] [1,3] [((a0.f1.map Zz).length:Int)=(a0.f1.length:Int)] ⟨by rw[Zr],trivial⟩ ?_
    refine AWp.block ?_
    obtain⟨o5112,e5113,H⟩:=Z4 H
    refine AWp.loop (LWp.conv (inv:=[(1,8),(3,9)]) (vk:=[]) (e0:=[]) (t:=⟨[(4,.ptr 8 0 0),(35,.im (.row (a0.f1.map Zz))),(36,iV .i64 (a0.f1.length:Int)),(37,iV .i64 0)],[(8,some (.box 86 [.own 9,iV .u64 t861.2])),(9,some (.row 1 5 (t861.1.map (Z2 .u8))))],0⟩) (by kernel_rfl) ?_)
    refine LWp.mono (Q:=fun e s=>(match (generalizing:=false) o5112 with | (x3015,x3016)=>e = .exit 1∧s=⟨[(4,.ptr 14 0 0)],[(14,some (.box 86 [.own 15,iV .u64 x3016])),(15,some (.row 1 5 (x3015.map (Z2 .u8))))],0⟩)) (LWp.cv (Zs (fun body hbody => ?_))) ?_
    ·refine            Z1m.l0.partial_correctness a0 (motive:=fun x2997 x2998 x2999 o5112=>LWp Γ body (fun e s=>∃ t,Cv Γ s t∧(match (generalizing:=false) o5112 with | (x3015,x3016)=>e = .exit 1∧t=⟨[(4,.ptr 14 0 0)],[(14,some (.box 86 [.own 15,iV .u64 x3016])),(15,some (.row 1 5 (x3015.map (Z2     .u8))))],0⟩)) ⟨[(4,.ptr 8 0 0),(35,.im (.row (a0.f1.map Zz         ))),(36,iV .i64 (a0.f1.length:Int)),(37,iV .i64 x2999)],[(8,some (.box 86 [.own 9,iV .u64 x2998])),(9,some (.row 1 5 (x2997.map (Z2     .u8))))],0⟩) ?_ _ _ _ _ e5113
     clear H e5113 o5112;intro self ih x2997 x2998 x2999 o5112 H
     subst hbody
     refine LWp.round ?_
     refine sO hP hn hm [] [(38,bV (decide (x2999<(a0.f1.length:Int))))] [4,35,36,37,38] [] [8,9] ?_
     refine AWp.seq ?_
     refine AWp.cond (decide (x2999<(a0.f1.length:Int))) (by kernel_rfl) (fun c3000 => ?_) (fun c3000 => ?_)
     ·replace H:=iT c3000 H
      refine AWp.skip ?_
      refine AWp.seq ?_
      refine AWp.block ?_
      obtain⟨b3004,p3005,q3006,H⟩:=Z02 H
      refine sR hP hn hm [(0,.c (Zz b3004)),(2,.k 10)] [(6,.ptr 10 0 0)] [4,6,35,36,37] [(10,some (.box 89 [sV b3004.f0,iV .i64 b3004.f1,iV .i64 b3004.f2.f0,iV .i64 b3004.f2.f1,iV .i64 b3004.f2.f2,iV .u64 b3004.f2.f3,iV .u64 b3004.f2.f4,iV .i64 b3004.f2.f5,.im (.row (b3004.f2.f6.map Z1)),.im (.row (b3004.f2.f7.map Z1))]))] [8,9,10] [_,_] ⟨p3005,Zi Zz q3006,trivial⟩ ?_
      obtain⟨t3009,e3010,H⟩:=Z4 H
      refine sR hP hn hm [(3,.call [(8,0),(9,1)] [(0,8),(2,11)] [] [11] 2 (.tup []) [(0,some (.box 86 [.own 2,iV .u64 t3009.2])),(1,none),(2,some (.row 1 5 (t3009.1.map (Z2 .u8))))])] [] [4,6,35,36,37] [(8,some (.box 86 [.own 11,iV .u64 t3009.2])),(11,some (.row 1 5 (t3009.1.map (Z2 .u8))))] [8,10,11] [_,_] ⟨Tryz.call34,Z18.ok x2997 x2998 b3004.f0 t3009 e3010,trivial⟩ ?_
      obtain⟨t3013,e3014,H⟩:=Z4 H
      refine rG hP hn hm [(6,.app 12 ([(⟨b3004.f1,b3004.f2⟩:Zt)].map Z6)),(7,.call [(8,0),(11,1)] [(0,8),(2,13)] [12] [13] 2 (.tup []) [(0,some (.box 86 [.own 2,iV .u64 t3013.2])),(1,none),(2,some (.row 1 5 (t3013.1.map (Z2 .u8))))])] [] [4,35,36,37] [(8,some (.box 86 [.own 13,iV .u64 t3013.2])),(13,some (.row 1 5 (t3013.1.map (Z2 .u8))))] [8,13] [[(⟨b3004.f1,b3004.f2⟩:Zt)].map Z6=[[iI .i64 b3004.f1,iI .i64 b3004.f2.f0,iI .i64 b3004.f2.f1,iI .i64 b3004.f2.f2,iI .u64 b3004.f2.f3,iI .u64 b3004.f2.f4,iI .i64 b3004.f2.f5,.row (b3004.f2.f6.map Z1),.row (b3004.f2.f7.map Z1)]],_,_] ⟨by exact rfl,Tryz.call35,Z1h.ok t3009.1 t3009.2 [(⟨b3004.f1,b3004.f2⟩:Zt)] t3013 e3014,trivial⟩ ?_
      refine rO hP hn hm [] [(37,iV .i64 (i64.wrap (x2999+(1:Int))))] [4,35,36,37] [] [8,13] ?_
      exact LWp.conv [(8,8),(13,9)] [] [] (by kernel_rfl) (ih _ _ _ _ H)
     ·replace H:=iF c3000 H
      refine AWp.exit ?_
      obtain rfl:=sj H
      exact lf [(8,14),(9,15)] [] [] (by kernel_rfl) ⟨rfl,rfl⟩
    ·obtain⟨x3015,x3016⟩:=o5112
     rintro e s ⟨rfl,rfl⟩
     obtain rfl:=sj H
     exact lf [(14,34),(15,35)] [] [] (by kernel_rfl) ⟨rfl,rfl⟩
   ·replace H:=iF c709 H
    refine sO hP hn hm [] [(54,bV (a0.f0==(2:Int)))] [1,4,54] [] [0,1,2] ?_
    obtain⟨o5114,e5115,H⟩:=Z4 H
    refine AWp.mono (Q:=fun e s=>(match (generalizing:=false) o5114 with | (x5102,x5103)=>e = .normal∧s=⟨[(4,.ptr 32 0 0)],[(32,some (.box 86 [.own 33,iV .u64 x5103])),(33,some (.row 1 5 (x5102.map (Z2 .u8))))],0⟩)) (AWp.cv ?_) ?_
    ·replace H:=e5115;clear e5115
     refine AWp.cond (a0.f0==(2:Int)) (by kernel_rfl) (fun c3017 => ?_) (fun c3017 => ?_)
     ·replace H:=iT c3017 H
      obtain⟨t3020,e3021,H⟩:=Z4 H
      refine sR hP hn hm [(3,.any (iV .i64 (a0.f2.length:Int))),(5,.call [(1,0),(2,1)] [(0,1),(2,16)] [] [16] 2 (.tup []) [(0,some (.box 86 [.own 2,iV .u64 t3020.2])),(1,none),(2,some (.row 1 5 (t3020.1.map (Z2 .u8))))])] [] [1,4] [(1,some (.box 86 [.own 16,iV .u64 t3020.2])),(16,some (.row 1 5 (t3020.1.map (Z2 .u8))))] [0,1,16] [((a0.f2.map Z06).length:Int)=(a0.f2.length:Int),_,_] ⟨by rw[Zr],Tryz.call33,Zd.ok t707.1 t707.2 (u64.wrap ((a0.f2.length:Int))) t3020 e3021,trivial⟩ ?_
      refine sR hP hn hm [(2,.any (iV .i64 (a0.f2.length:Int)))] [(63,.im (.row (a0.f2.map Z06))),(64,iV .i64 (a0.f2.length:Int)),(65,iV .i64 0)] [4,63,64,65] [] [1,16] [((a0.f2.map Z06).length:Int)=(a0.f2.length:Int)] ⟨by rw[Zr],trivial⟩ ?_
      refine AWp.block ?_
      obtain⟨o5116,e5117,H⟩:=Z4 H
      refine AWp.loop (LWp.conv (inv:=[(1,22),(16,23)]) (vk:=[]) (e0:=[]) (t:=⟨[(4,.ptr 22 0 0),(63,.im (.row (a0.f2.map Z06))),(64,iV .i64 (a0.f2.length:Int)),(65,iV .i64 0)],[(22,some (.box 86 [.own 23,iV .u64 t3020.2])),(23,some (.row 1 5 (t3020.1.map (Z2 .u8))))],0⟩) (by kernel_rfl) ?_)
      refine LWp.mono (Q:=fun e s=>(match (generalizing:=false) o5116 with | (x5096,x5097)=>e = .exit 3∧s=⟨[(4,.ptr 29 0 0)],[(29,some (.box 86 [.own 30,iV .u64 x5097])),(30,some (.row 1 5 (x5096.map (Z2 .u8))))],0⟩)) (LWp.cv (Zs (fun body hbody => ?_))) ?_
      ·refine            Z1m.l1.partial_correctness a0 (motive:=fun x5074 x5075 x5076 o5116=>LWp Γ body (fun e s=>∃ t,Cv Γ s t∧(match (generalizing:=false) o5116 with | (x5096,x5097)=>e = .exit 3∧t=⟨[(4,.ptr 29 0 0)],[(29,some (.box 86 [.own 30,iV .u64 x5097])),(30,some (.row 1 5 (x5096.map (Z2     .u8))))],0⟩)) ⟨[(4,.ptr 22 0 0),(63,.im (.row (a0.f2.map Z06       ))),(64,iV .i64 (a0.f2.length:Int)),(65,iV .i64 x5076)],[(22,some (.box 86 [.own 23,iV .u64 x5075])),(23,some (.row 1 5 (x5074.map (Z2     .u8))))],0⟩) ?_ _ _ _ _ e5117
       clear H e5117 o5116;intro self ih x5074 x5075 x5076 o5116 H
       subst hbody
       refine LWp.round ?_
       refine sO hP hn hm [] [(66,bV (decide (x5076<(a0.f2.length:Int))))] [4,63,64,65,66] [] [22,23] ?_
       refine AWp.seq ?_
       refine AWp.cond (decide (x5076<(a0.f2.length:Int))) (by kernel_rfl) (fun c5077 => ?_) (fun c5077 => ?_)
       ·replace H:=iT c5077 H
        refine AWp.skip ?_
        refine AWp.seq ?_
        refine AWp.block ?_
        obtain⟨b5081,p5082,q5083,H⟩:=Z02 H
        refine sR hP hn hm [(0,.c (Z06 b5081)),(2,.k 24)] [(8,.ptr 24 0 0)] [4,8,63,64,65] [(24,some (.box 94 [sV b5081.f0,iV .i64 b5081.f1.f0,iV .i64 b5081.f1.f1]))] [22,23,24] [_,_] ⟨p5082,Zi Z06 q5083,trivial⟩ ?_
        obtain⟨t5086,e5087,H⟩:=Z4 H
        refine sR hP hn hm [(3,.call [(22,0),(23,1)] [(0,22),(2,25)] [] [25] 2 (.tup []) [(0,some (.box 86 [.own 2,iV .u64 t5086.2])),(1,none),(2,some (.row 1 5 (t5086.1.map (Z2 .u8))))])] [] [4,8,63,64,65] [(22,some (.box 86 [.own 25,iV .u64 t5086.2])),(25,some (.row 1 5 (t5086.1.map (Z2 .u8))))] [22,24,25] [_,_] ⟨Tryz.call34,Z18.ok x5074 x5075 b5081.f0 t5086 e5087,trivial⟩ ?_
        obtain⟨t5092,e5093,H⟩:=Z4 H
        obtain⟨t5094,e5095,H⟩:=Z4 H
        refine rG hP hn hm [(2,.app 26 ([b5081.f1].map Z0)),(3,.more (Z51 [] [(0,27)] [26] [27] 0 (.agg [.own 0]) [(0,some (.row 2 92 (((t5092).f0).map Z0)))])),(5,.call [(22,0),(25,1)] [(0,22),(2,28)] [27] [28] 2 (.tup []) [(0,some (.box 86 [.own 2,iV .u64 t5094.2])),(1,none),(2,some (.row 1 5 (t5094.1.map (Z2 .u8))))])] [] [4,63,64,65] [(22,some (.box 86 [.own 28,iV .u64 t5094.2])),(28,some (.row 1 5 (t5094.1.map (Z2 .u8))))] [22,28] [[b5081.f1].map Z0=[[iI .i64 b5081.f1.f0,iI .i64 b5081.f1.f1]],_,_,∀ c∈((t5092).f0).map Z0,∀ x∈c,∃ v,x=Im.sc v,_,_] ⟨by exact rfl,Tryz.call36,Z4a.ok [b5081.f1] t5092 e5093,by exact Z5n _ _ (fun _=>by simp),Tryz.call37,Z1p.ok (t5092) t5086.1 t5086.2 t5094 e5095,trivial⟩ ?_
        refine rO hP hn hm [] [(65,iV .i64 (i64.wrap (x5076+(1:Int))))] [4,63,64,65] [] [22,28] ?_
        exact LWp.conv [(22,22),(28,23)] [] [] (by kernel_rfl) (ih _ _ _ _ H)
       ·replace H:=iF c5077 H
        refine AWp.exit ?_
        obtain rfl:=sj H
        exact lf [(22,29),(23,30)] [] [] (by kernel_rfl) ⟨rfl,rfl⟩
      ·obtain⟨x5096,x5097⟩:=o5116
       rintro e s ⟨rfl,rfl⟩
       obtain rfl:=sj H
       exact lf [(29,32),(30,33)] [] [] (by kernel_rfl) ⟨rfl,rfl⟩
     ·replace H:=iF c3017 H
      obtain⟨t5100,e5101,H⟩:=Z4 H
      refine rG hP hn hm [(4,.call [(1,0),(2,1)] [(0,1),(2,31)] [] [31] 2 (.tup []) [(0,some (.box 86 [.own 2,iV .u64 t5100.2])),(1,none),(2,some (.row 1 5 (t5100.1.map (Z2 .u8))))])] [] [4] [(1,some (.box 86 [.own 31,iV .u64 t5100.2])),(31,some (.row 1 5 (t5100.1.map (Z2 .u8))))] [1,31] [_,_] ⟨Tryz.call33,Zd.ok t707.1 t707.2 (u64.wrap (a0.f3)) t5100 e5101,trivial⟩ ?_
      obtain rfl:=sj H
      exact lf [(1,32),(31,33)] [] [] (by kernel_rfl) ⟨rfl,rfl⟩
    ·obtain⟨x5102,x5103⟩:=o5114
     rintro e s ⟨rfl,rfl⟩
     obtain rfl:=sj H
     exact lf [(32,34),(33,35)] [] [] (by kernel_rfl) ⟨rfl,rfl⟩
  ·obtain⟨x5104,x5105⟩:=o5110
   rintro e s ⟨rfl,rfl⟩
   obtain⟨t5108,e5109,H⟩:=Z4 H
   refine sR hP hn hm [(1,.call [(34,0),(35,1)] [(0,34),(1,35),(2,36)] [] [36] 2 (.own 2) [(0,some (.box 86 [.own 1,iV .u64 x5105])),(1,some (.row 1 5 (x5104.map (Z2 .u8)))),(2,some (.row 1 5 (t5108.map (Z2 .u8))))])] [(2,.own 36),(3,iV .i64 0)] [2,3] [(36,some (.row 1 5 (t5108.map (Z2 .u8))))] [36] [_,_] ⟨Tryz.call38,Z1k.ok x5104 x5105 t5108 e5109,trivial⟩ ?_
   refine AWp.conv (inv:=[(36,0)]) (vk:=[]) (e0:=[]) (t:=⟨[(2,.own 0),(3,iV .i64 0)],[(0,some (.row 1 5 (t5108.map (Z2 .u8))))],0⟩) (by kernel_rfl) ?_
   refine AWp.ret ?_
   obtain rfl:=sj H
   exact rl (.inl rfl) rfl (by kernel_rfl) (by kernel_rfl)
def Z48.f (a0:List Int):Option (Unit):=some ()
theorem Z48.ok (a0:List Int) (r:Unit) (H:Z48.f a0=some r):Pv.Fn Tryz.prog 41 [.im (.row (a0.map (Z2 .u8)))] [] 0 (fun x o=>x = .ptr 0 0 0∧o=[(0,some (.box 158 (Z3 ⟨a0,0,0⟩)))]):=by
 unfold Z48.f at H
 refine Fn.bodyK [0] Tryz.func41 rfl rfl (fun Γ hP hn => ?_)
 have hm:Tryz.prog.follows .mixedOrders=true:=by kernel_rfl
 replace hn:Γ.n=6:=hn
 refine sO hP hn hm [] [] [0] [] [] ?_
 refine sO hP hn hm [(2,.k 0)] [(2,.ptr 0 0 0)] [2] [(0,some (.box 158 (Z3 ⟨a0,0,0⟩)))] [0] ?_
 refine AWp.conv (inv:=[(0,0)]) (vk:=[]) (e0:=[]) (t:=⟨[(2,.ptr 0 0 0)],[(0,some (.box 158 (Z3 ⟨a0,0,0⟩)))],0⟩) (by kernel_rfl) ?_
 refine AWp.ret ?_
 obtain rfl:=sj H
 exact rl (.inl rfl) rfl (by kernel_rfl) (by kernel_rfl)
def Z0i.f (a0_c0:List Int) (a0_c1:Int) (a0_c2:Int) (a1:Int):Option (Int):=((if(a0_c2==(0:Int))=true then(some a1) else(some a0_c2)):Option (Int))>>=fun x5132=>some x5132
theorem Z0i.ok (a0_c0:List Int) (a0_c1:Int) (a0_c2:Int) (a1:Int) (r:Int) (H:Z0i.f a0_c0 a0_c1 a0_c2 a1=some r):Pv.Fn Tryz.prog 85 [.ptr 0 0 0,iV .i64 a1] [(0,some (.box 158 (Z3 ⟨a0_c0,a0_c1,a0_c2⟩)))] 1 (fun x o=>x = .tup []∧o=[(0,some (.box 158 (Z3 ⟨a0_c0,a0_c1,r⟩)))]):=by
 unfold Z0i.f at H
 refine Fn.bodyK [0] Tryz.func85 rfl rfl (fun Γ hP hn => ?_)
 have hm:Tryz.prog.follows .mixedOrders=true:=by kernel_rfl
 replace hn:Γ.n=13:=hn
 refine sO hP hn hm [] [(8,bV (a0_c2==(0:Int)))] [0,1,8] [] [0] ?_
 obtain⟨o5133,e5134,H⟩:=Z4 H
 refine AWp.mono (Q:=fun e s=>(match (generalizing:=false) o5133 with | x5132=>e = .normal∧s=⟨[],[(0,some (.box 158 (Z3 ⟨a0_c0,a0_c1,x5132⟩)))],1⟩)) (AWp.cv ?_) ?_
 ·replace H:=e5134;clear e5134
  refine AWp.cond (a0_c2==(0:Int)) (by kernel_rfl) (fun c5131 => ?_) (fun c5131 => ?_)
  ·replace H:=iT c5131 H
   refine rO hP hn hm [] [] [] [(0,some (.box 158 (Z3 ⟨a0_c0,a0_c1,a1⟩)))] [0] ?_
   obtain rfl:=sj H
   exact lf [(0,0)] [] [] (by kernel_rfl) ⟨rfl,rfl⟩
  ·replace H:=iF c5131 H
   refine AWp.skip ?_
   obtain rfl:=sj H
   exact lf [(0,0)] [] [] (by kernel_rfl) ⟨rfl,rfl⟩
 ·obtain⟨x5132,rfl⟩:∃ z,z=o5133:=⟨_,rfl⟩
  rintro e s ⟨rfl,rfl⟩
  obtain rfl:=sj H
  exact Exists.intro ⟨[],[(0,some (.box 158 (Z3 ⟨a0_c0,a0_c1,x5132⟩)))],1⟩ (And.intro (fun _ _ h=>h.conv (inv:=[(0,0)]) (vk:=[]) (e0:=[]) (t:=⟨[],[(0,some (.box 158 (Z3 ⟨a0_c0,a0_c1,x5132⟩)))],1⟩) (by kernel_rfl)) (And.intro (.inr rfl) (And.intro rfl (And.intro (by kernel_rfl) (by kernel_rfl)))))
def Z0y.f (a0_c0:List Int) (a0_c1:Int) (a0_c2:Int):Option (Bool×Int×Int):=((if(a0_c2 != (0:Int))=true then(some true) else(some (decide (a0_c1≥(i64.wrap ((8:Int)*(a0_c0.length:Int))))))):Option (Bool))>>=fun x5129=>if x5129=true then((Z0i.f a0_c0 a0_c1 a0_c2 7)>>=fun t5137=>some (false,a0_c1,t5137)) else((at? a0_c0 (i64.wrap (Int.tdiv a0_c1 (8:Int))))>>=fun b5143=>(chk (0≤(u64.wrap ((7:Int)-(u64.wrap (Int.tmod a0_c1 (8:Int)))))))>>=fun _=>some (((u8.wrap (((BitVec.toNat (BitVec.ofInt 8 (Int.fdiv b5143 (2 ^ (min (Int.toNat (u64.wrap ((7:Int)-(u64.wrap (Int.tmod a0_c1 (8:Int)))))) 8))) &&& BitVec.ofInt 8 (1:Int)):Nat):Int)))==(1:Int)),i64.wrap (a0_c1+(1:Int)),a0_c2))
theorem Z0y.ok (a0_c0:List Int) (a0_c1:Int) (a0_c2:Int) (r:Bool×Int×Int) (H:Z0y.f a0_c0 a0_c1 a0_c2=some r):Pv.Fn Tryz.prog 83 [.ptr 0 0 0] [(0,some (.box 158 (Z3 ⟨a0_c0,a0_c1,a0_c2⟩)))] 1 (fun x o=>x=bV r.1∧o=[(0,some (.box 158 (Z3 ⟨a0_c0,r.2.1,r.2.2⟩)))]):=by
 unfold Z0y.f at H
 refine Fn.bodyK [0] Tryz.func83 rfl rfl (fun Γ hP hn => ?_)
 have hm:Tryz.prog.follows .mixedOrders=true:=by kernel_rfl
 replace hn:Γ.n=53:=hn
 refine sO hP hn hm [] [] [0] [] [0] ?_
 refine AWp.seq ?_
 refine AWp.seq ?_
 obtain⟨o5147,e5148,H⟩:=Z4 H
 refine AWp.mono (Q:=fun e s=>(match (generalizing:=false) o5147 with | x5129=>e = .normal∧s=⟨[(0,.ptr 0 0 0),(21,bV x5129)],[(0,some (.box 158 (Z3 ⟨a0_c0,a0_c1,a0_c2⟩)))],1⟩)) (AWp.cv ?_) ?_
 ·replace H:=e5148;clear e5148
  rcases Bool.eq_false_or_eq_true (a0_c2 != (0:Int)) with c5128 | c5128
  ·replace H:=iT c5128 H
   refine rG hP hn hm [(5,.b true)] [(21,bV true)] [0,21] [] [0] [_] ⟨c5128,trivial⟩ ?_
   obtain rfl:=sj H
   exact lf [(0,0)] [] [] (by kernel_rfl) ⟨rfl,rfl⟩
  ·replace H:=iF c5128 H
   refine rG hP hn hm [(5,.b false),(14,.any (iV .i64 (a0_c0.length:Int)))] [(21,bV (decide (a0_c1≥(i64.wrap ((8:Int)*(a0_c0.length:Int))))))] [0,21] [] [0] [_,((a0_c0.map (Z2 .u8)).length:Int)=(a0_c0.length:Int)] ⟨c5128,by rw[Zr],trivial⟩ ?_
   obtain rfl:=sj H
   exact lf [(0,0)] [] [] (by kernel_rfl) ⟨rfl,rfl⟩
 ·obtain⟨x5129,rfl⟩:∃ z,z=o5147:=⟨_,rfl⟩
  rintro e s ⟨rfl,rfl⟩
  refine AWp.cond x5129 (by kernel_rfl) (fun c5130 => ?_) (fun c5130 => ?_)
  ·replace H:=iT c5130 H
   obtain⟨t5137,e5138,H⟩:=Z4 H
   refine sR hP hn hm [(1,.call [(0,0)] [(0,0)] [] [] 1 (.tup []) [(0,some (.box 158 (Z3 ⟨a0_c0,a0_c1,t5137⟩)))])] [] [] [(0,some (.box 158 (Z3 ⟨a0_c0,a0_c1,t5137⟩)))] [0] [_,_] ⟨Tryz.call85,Z0i.ok a0_c0 a0_c1 a0_c2 7 t5137 e5138,trivial⟩ ?_
   refine sO hP hn hm [] [(2,bV false)] [2] [] [0] ?_
   refine AWp.conv (inv:=[(0,0)]) (vk:=[]) (e0:=[]) (t:=⟨[(2,bV false)],[(0,some (.box 158 (Z3 ⟨a0_c0,a0_c1,t5137⟩)))],1⟩) (by kernel_rfl) ?_
   refine AWp.ret ?_
   obtain rfl:=sj H
   exact rl (.inl rfl) rfl (by kernel_rfl) (by kernel_rfl)
  ·replace H:=iF c5130 H
   refine AWp.skip ?_
   obtain⟨b5143,p5144,q5145,H⟩:=Z02 H
   obtain⟨c5146,H⟩:=Z10 H
   refine sR hP hn hm [(9,.c ((Z2 .u8) b5143))] [(3,bV ((u8.wrap (((BitVec.toNat (BitVec.ofInt 8 (Int.fdiv b5143 (2 ^ (min (Int.toNat (u64.wrap ((7:Int)-(u64.wrap (Int.tmod a0_c1 (8:Int)))))) 8))) &&& BitVec.ofInt 8 (1:Int)):Nat):Int)))==(1:Int)))] [0,3] [] [0] [(8:Int)≠0,_,_,(8:Int)≠0,_] ⟨by decide,p5144,Zi (Z2 .u8) q5145,by decide,c5146,trivial⟩ ?_
   refine sO hP hn hm [] [] [3] [(0,some (.box 158 (Z3 ⟨a0_c0,(i64.wrap (a0_c1+(1:Int))),a0_c2⟩)))] [0] ?_
   refine sO hP hn hm [] [(2,bV ((u8.wrap (((BitVec.toNat (BitVec.ofInt 8 (Int.fdiv b5143 (2 ^ (min (Int.toNat (u64.wrap ((7:Int)-(u64.wrap (Int.tmod a0_c1 (8:Int)))))) 8))) &&& BitVec.ofInt 8 (1:Int)):Nat):Int)))==(1:Int)))] [2] [] [0] ?_
   refine AWp.conv (inv:=[(0,0)]) (vk:=[]) (e0:=[]) (t:=⟨[(2,bV ((u8.wrap (((BitVec.toNat (BitVec.ofInt 8 (Int.fdiv b5143 (2 ^ (min (Int.toNat (u64.wrap ((7:Int)-(u64.wrap (Int.tmod a0_c1 (8:Int)))))) 8))) &&& BitVec.ofInt 8 (1:Int)):Nat):Int)))==(1:Int)))],[(0,some (.box 158 (Z3 ⟨a0_c0,(i64.wrap (a0_c1+(1:Int))),a0_c2⟩)))],1⟩) (by kernel_rfl) ?_
   refine AWp.ret ?_
   obtain rfl:=sj H
   exact rl (.inl rfl) rfl (by kernel_rfl) (by kernel_rfl)
def Z0c.l0 (a0_c0:List Int) (a1:Int) (x5155:Int) (x5156:Int) (x5157:Int) (x5158:Int):Option (Int×Int×Int):=if(decide (x5158<(if(if(64:Int)<a1 then(64:Int) else a1)>(0:Int) then(if(64:Int)<a1 then(64:Int) else a1) else(0:Int))))=true then((Z0y.f a0_c0 x5155 x5156)>>=fun t5162=>((if t5162.1=true then(some (u64.wrap (((BitVec.toNat (BitVec.ofInt 64 (u64.wrap (x5157*2)) ||| BitVec.ofInt 64 (1:Int)):Nat):Int)))) else(some (u64.wrap (x5157*2)))):Option (Int))>>=fun x5165=>Z0c.l0 a0_c0 a1 t5162.2.1 t5162.2.2 x5165 (i64.wrap (x5158+(1:Int)))) else(some (x5155,x5156,x5157))
partial_fixpoint
def Z0c.f (a0_c0:List Int) (a0_c1:Int) (a0_c2:Int) (a1:Int):Option (Int×Int×Int):=(Z0c.l0 a0_c0 a1 a0_c1 a0_c2 0 0)>>=fun oo=>match oo with | (x5166,x5167,x5168)=>(if(x5167 != (0:Int))=true then(some (0,x5166,x5167)) else(some (x5168,x5166,x5167)))
theorem Z0c.ok (a0_c0:List Int) (a0_c1:Int) (a0_c2:Int) (a1:Int) (r:Int×Int×Int) (H:Z0c.f a0_c0 a0_c1 a0_c2 a1=some r):Pv.Fn Tryz.prog 42 [.ptr 0 0 0,iV .i64 a1] [(0,some (.box 158 (Z3 ⟨a0_c0,a0_c1,a0_c2⟩)))] 1 (fun x o=>x=iV .u64 r.1∧o=[(0,some (.box 158 (Z3 ⟨a0_c0,r.2.1,r.2.2⟩)))]):=by
 unfold Z0c.f at H
 refine Fn.bodyK [0] Tryz.func42 rfl rfl (fun Γ hP hn => ?_)
 have hm:Tryz.prog.follows .mixedOrders=true:=by kernel_rfl
 replace hn:Γ.n=24:=hn
 refine sO hP hn hm [] [] [0,1] [] [0] ?_
 refine sO hP hn hm [] [(5,iV .u64 0)] [0,1,5] [] [0] ?_
 refine AWp.seq ?_
 refine sO hP hn hm [(1,.more xMin),(2,.more xMax)] [(8,iV .i64 (if(if(64:Int)<a1 then(64:Int) else a1)>(0:Int) then(if(64:Int)<a1 then(64:Int) else a1) else(0:Int))),(9,iV .i64 0)] [0,5,8,9] [] [0] ?_
 refine AWp.block ?_
 obtain⟨o5170,e5171,H⟩:=Z4 H
 refine AWp.loop (LWp.conv (inv:=[(0,0)]) (vk:=[]) (e0:=[]) (t:=⟨[(0,.ptr 0 0 0),(5,iV .u64 0),(8,iV .i64 (if(if(64:Int)<a1 then(64:Int) else a1)>(0:Int) then(if(64:Int)<a1 then(64:Int) else a1) else(0:Int))),(9,iV .i64 0)],[(0,some (.box 158 (Z3 ⟨a0_c0,a0_c1,a0_c2⟩)))],1⟩) (by kernel_rfl) ?_)
 refine LWp.mono (Q:=fun e s=>(match (generalizing:=false) o5170 with | (x5166,x5167,x5168)=>e = .exit 0∧s=⟨[(0,.ptr 0 0 0),(5,iV .u64 x5168)],[(0,some (.box 158 (Z3 ⟨a0_c0,x5166,x5167⟩)))],1⟩)) (LWp.cv (Zs (fun body hbody => ?_))) ?_
 ·refine                   Z0c.l0.partial_correctness a0_c0 a1 (motive:=fun x5155 x5156 x5157 x5158 o5170=>LWp Γ body (fun e s=>∃ t,Cv Γ s t∧(match (generalizing:=false) o5170 with | (x5166,x5167,x5168)=>e = .exit 0∧t=⟨[(0,.ptr 0 0 0),(5,iV .u64 x5168)],[(0,some (.box 158 (Z3           ⟨a0_c0,x5166,x5167⟩)))],1⟩)) ⟨[(0,.ptr 0 0 0),(5,iV .u64 x5157),(8,iV .i64 (if(if(64:Int)<a1 then(64:Int) else a1)>(0:Int) then(if(64:Int)<a1 then(64:Int) else a1) else(0:Int))),(9,iV .i64 x5158)],[(0,some (.box 158 (Z3           ⟨a0_c0,x5155,x5156⟩)))],1⟩) ?_ _ _ _ _ _ e5171
  clear H e5171 o5170;intro self ih x5155 x5156 x5157 x5158 o5170 H
  subst hbody
  refine LWp.round ?_
  refine sO hP hn hm [] [(10,bV (decide (x5158<(if(if(64:Int)<a1 then(64:Int) else a1)>(0:Int) then(if(64:Int)<a1 then(64:Int) else a1) else(0:Int)))))] [0,5,8,9,10] [] [0] ?_
  refine AWp.seq ?_
  refine AWp.cond (decide (x5158<(if(if(64:Int)<a1 then(64:Int) else a1)>(0:Int) then(if(64:Int)<a1 then(64:Int) else a1) else(0:Int)))) (by kernel_rfl) (fun c5159 => ?_) (fun c5159 => ?_)
  ·replace H:=iT c5159 H
   refine AWp.skip ?_
   refine AWp.seq ?_
   refine AWp.block ?_
   refine sR hP hn hm [] [(5,iV .u64 (u64.wrap (x5157*2)))] [0,5,8,9] [] [0] [(0:Int)≤1] ⟨by decide,trivial⟩ ?_
   obtain⟨t5162,e5163,H⟩:=Z4 H
   refine sR hP hn hm [(1,.call [(0,0)] [(0,0)] [] [] 1 (bV t5162.1) [(0,some (.box 158 (Z3 ⟨a0_c0,t5162.2.1,t5162.2.2⟩)))])] [(14,bV t5162.1)] [0,5,8,9,14] [(0,some (.box 158 (Z3 ⟨a0_c0,t5162.2.1,t5162.2.2⟩)))] [0] [_,_] ⟨Tryz.call83,Z0y.ok a0_c0 x5155 x5156 t5162 e5163,trivial⟩ ?_
   obtain⟨o5172,e5173,H⟩:=Z4 H
   refine AWp.mono (Q:=fun e s=>(match (generalizing:=false) o5172 with | x5165=>e = .normal∧s=⟨[(0,.ptr 0 0 0),(5,iV .u64 x5165),(8,iV .i64 (if(if(64:Int)<a1 then(64:Int) else a1)>(0:Int) then(if(64:Int)<a1 then(64:Int) else a1) else(0:Int))),(9,iV .i64 x5158)],[(0,some (.box 158 (Z3 ⟨a0_c0,t5162.2.1,t5162.2.2⟩)))],1⟩)) (AWp.cv ?_) ?_
   ·replace H:=e5173;clear e5173
    refine AWp.cond t5162.1 (by kernel_rfl) (fun c5164 => ?_) (fun c5164 => ?_)
    ·replace H:=iT c5164 H
     refine rO hP hn hm [] [(5,iV .u64 (u64.wrap (((BitVec.toNat (BitVec.ofInt 64 (u64.wrap (x5157*2)) ||| BitVec.ofInt 64 (1:Int)):Nat):Int))))] [0,5,8,9] [] [0] ?_
     obtain rfl:=sj H
     exact lf [(0,0)] [] [] (by kernel_rfl) ⟨rfl,rfl⟩
    ·replace H:=iF c5164 H
     refine AWp.skip ?_
     obtain rfl:=sj H
     exact lf [(0,0)] [] [] (by kernel_rfl) ⟨rfl,rfl⟩
   ·obtain⟨x5165,rfl⟩:∃ z,z=o5172:=⟨_,rfl⟩
    rintro e s ⟨rfl,rfl⟩
    refine rO hP hn hm [] [(9,iV .i64 (i64.wrap (x5158+(1:Int))))] [0,5,8,9] [] [0] ?_
    exact LWp.conv [(0,0)] [] [] (by kernel_rfl) (ih _ _ _ _ _ H)
  ·replace H:=iF c5159 H
   refine AWp.exit ?_
   obtain rfl:=sj H
   exact lf [(0,0)] [] [] (by kernel_rfl) ⟨rfl,rfl⟩
 ·obtain⟨x5166,x5167,x5168⟩:=o5170
  rintro e s ⟨rfl,rfl⟩
  refine AWp.seq ?_
  refine sO hP hn hm [] [(22,bV (x5167 != (0:Int)))] [5,22] [] [0] ?_
  refine AWp.cond (x5167 != (0:Int)) (by kernel_rfl) (fun c5169 => ?_) (fun c5169 => ?_)
  ·replace H:=iT c5169 H
   refine sO hP hn hm [] [(4,iV .u64 0)] [4] [] [0] ?_
   refine AWp.conv (inv:=[(0,0)]) (vk:=[]) (e0:=[]) (t:=⟨[(4,iV .u64 0)],[(0,some (.box 158 (Z3 ⟨a0_c0,x5166,x5167⟩)))],1⟩) (by kernel_rfl) ?_
   refine AWp.ret ?_
   obtain rfl:=sj H
   exact rl (.inl rfl) rfl (by kernel_rfl) (by kernel_rfl)
  ·replace H:=iF c5169 H
   refine AWp.skip ?_
   refine sO hP hn hm [] [(4,iV .u64 x5168)] [4] [] [0] ?_
   refine AWp.conv (inv:=[(0,0)]) (vk:=[]) (e0:=[]) (t:=⟨[(4,iV .u64 x5168)],[(0,some (.box 158 (Z3 ⟨a0_c0,x5166,x5167⟩)))],1⟩) (by kernel_rfl) ?_
   refine AWp.ret ?_
   obtain rfl:=sj H
   exact rl (.inl rfl) rfl (by kernel_rfl) (by kernel_rfl)
def Z0e.l0 (a0_c0:List Int) (t5181:List Int) (x5193:Int) (x5194:Int) (x5195:Int):Option (Int×Int×Int):=((if(decide (x5195<(i64.wrap ((t5181.length:Int)-(1:Int)))))=true then((Z0y.f a0_c0 x5193 x5194)>>=fun t5200=>some (t5200.2.1,t5200.2.2,t5200.1)) else(some (x5193,x5194,false))):Option (Int×Int×Bool))>>=fun oo=>match oo with | (x5202,x5203,x5204)=>(if x5204=true then(Z0e.l0 a0_c0 t5181 x5202 x5203 (i64.wrap (x5195+(1:Int)))) else(some (x5202,x5203,x5195)))
partial_fixpoint
def Z0e.f (a0_c0:List Int) (a0_c1:Int) (a0_c2:Int):Option (Int×Int×Int):=(Z3i.f)>>=fun t5181=>(Z0e.l0 a0_c0 t5181 a0_c1 a0_c2 0)>>=fun oo=>match oo with | (x5206,x5207,x5208)=>((at? t5181 x5208)>>=fun b5214=>(Z0c.f a0_c0 x5206 x5207 b5214)>>=fun t5217=>((if(decide (x5208>(0:Int)))=true then((Z36.f t5217.1)>>=fun t5226=>(at? t5181 (i64.wrap (x5208-(1:Int))))>>=fun b5228=>some (decide (t5226≤b5228))) else(some false)):Option (Bool))>>=fun x5231=>((if x5231=true then((Z0i.f a0_c0 t5217.2.1 t5217.2.2 6)>>=fun t5235=>some t5235) else(some t5217.2.2)):Option (Int))>>=fun x5237=>if(x5237 != (0:Int))=true then(some (0,t5217.2.1,x5237)) else(some (t5217.1,t5217.2.1,x5237)))
theorem Z0e.ok (a0_c0:List Int) (a0_c1:Int) (a0_c2:Int) (r:Int×Int×Int) (H:Z0e.f a0_c0 a0_c1 a0_c2=some r):Pv.Fn Tryz.prog 84 [.ptr 0 0 0] [(0,some (.box 158 (Z3 ⟨a0_c0,a0_c1,a0_c2⟩)))] 1 (fun x o=>x=iV .u64 r.1∧o=[(0,some (.box 158 (Z3 ⟨a0_c0,r.2.1,r.2.2⟩)))]):=by
 unfold Z0e.f at H
 refine Fn.bodyK [0] Tryz.func84 rfl rfl (fun Γ hP hn => ?_)
 have hm:Tryz.prog.follows .mixedOrders=true:=by kernel_rfl
 replace hn:Γ.n=44:=hn
 refine sO hP hn hm [] [] [0] [] [0] ?_
 obtain⟨t5181,e5182,H⟩:=Z4 H
 refine sR hP hn hm [(0,.call [] [(0,1)] [] [1] 0 (.own 0) [(0,some (.row 1 3 (t5181.map (Z2 .i64))))])] [(3,.own 1)] [0,3] [(1,some (.row 1 3 (t5181.map (Z2 .i64))))] [0,1] [_,_] ⟨Tryz.call69,Z3i.ok  t5181 e5182,trivial⟩ ?_
 refine sO hP hn hm [] [(4,iV .i64 0)] [0,3,4] [] [0,1] ?_
 refine AWp.seq ?_
 refine AWp.block ?_
 obtain⟨o5239,e5240,H⟩:=Z4 H
 refine AWp.loop (LWp.conv (inv:=[(0,0),(1,3)]) (vk:=[]) (e0:=[]) (t:=⟨[(0,.ptr 0 0 0),(3,.own 3),(4,iV .i64 0)],[(0,some (.box 158 (Z3 ⟨a0_c0,a0_c1,a0_c2⟩))),(3,some (.row 1 3 (t5181.map (Z2 .i64))))],1⟩) (by kernel_rfl) ?_)
 refine LWp.mono (Q:=fun e s=>(match (generalizing:=false) o5239 with | (x5206,x5207,x5208)=>e = .exit 0∧s=⟨[(0,.ptr 0 0 0),(3,.own 5),(4,iV .i64 x5208)],[(0,some (.box 158 (Z3 ⟨a0_c0,x5206,x5207⟩))),(5,some (.row 1 3 (t5181.map (Z2 .i64))))],1⟩)) (LWp.cv (Zs (fun body hbody => ?_))) ?_
 ·refine                     Z0e.l0.partial_correctness a0_c0 t5181 (motive:=fun x5193 x5194 x5195 o5239=>LWp Γ body (fun e s=>∃ t,Cv Γ s t∧(match (generalizing:=false) o5239 with | (x5206,x5207,x5208)=>e = .exit 0∧t=⟨[(0,.ptr 0 0 0),(3,.own 5),(4,iV .i64 x5208)],[(0,some (.box 158 (Z3           ⟨a0_c0,x5206,x5207⟩))),(5,some (.row 1 3 (t5181.map (Z2     .i64))))],1⟩)) ⟨[(0,.ptr 0 0 0),(3,.own 3),(4,iV .i64 x5195)],[(0,some (.box 158 (Z3           ⟨a0_c0,x5193,x5194⟩))),(3,some (.row 1 3 (t5181.map (Z2     .i64))))],1⟩) ?_ _ _ _ _ e5240
  clear H e5240 o5239;intro self ih x5193 x5194 x5195 o5239 H
  subst hbody
  refine LWp.round ?_
  refine AWp.seq ?_
  refine AWp.seq ?_
  obtain⟨o5241,e5242,H⟩:=Z4 H
  refine AWp.mono (Q:=fun e s=>(match (generalizing:=false) o5241 with | (x5202,x5203,x5204)=>e = .normal∧s=⟨[(0,.ptr 0 0 0),(3,.own 4),(4,iV .i64 x5195),(15,bV x5204)],[(0,some (.box 158 (Z3 ⟨a0_c0,x5202,x5203⟩))),(4,some (.row 1 3 (t5181.map (Z2 .i64))))],1⟩)) (AWp.cv ?_) ?_
  ·replace H:=e5242;clear e5242
   rcases Bool.eq_false_or_eq_true (decide (x5195<(i64.wrap ((t5181.length:Int)-(1:Int))))) with c5199 | c5199
   ·replace H:=iT c5199 H
    obtain⟨t5200,e5201,H⟩:=Z4 H
    refine rG hP hn hm [(2,.any (iV .i64 (t5181.length:Int))),(5,.b true),(7,.call [(0,0)] [(0,0)] [] [] 1 (bV t5200.1) [(0,some (.box 158 (Z3 ⟨a0_c0,t5200.2.1,t5200.2.2⟩)))])] [(13,.ptr 0 0 0),(14,bV t5200.1),(15,bV t5200.1)] [0,3,4,13,14,15] [(0,some (.box 158 (Z3 ⟨a0_c0,t5200.2.1,t5200.2.2⟩)))] [0,3] [((t5181.map (Z2 .i64)).length:Int)=(t5181.length:Int),_,_,_] ⟨by rw[Zr],c5199,Tryz.call83,Z0y.ok a0_c0 x5193 x5194 t5200 e5201,trivial⟩ ?_
    obtain rfl:=sj H
    exact lf [(0,0),(3,4)] [] [] (by kernel_rfl) ⟨rfl,rfl⟩
   ·replace H:=iF c5199 H
    refine rG hP hn hm [(2,.any (iV .i64 (t5181.length:Int))),(5,.b false)] [(15,bV false)] [0,3,4,15] [] [0,3] [((t5181.map (Z2 .i64)).length:Int)=(t5181.length:Int),_] ⟨by rw[Zr],c5199,trivial⟩ ?_
    obtain rfl:=sj H
    exact lf [(0,0),(3,4)] [] [] (by kernel_rfl) ⟨rfl,rfl⟩
  ·obtain⟨x5202,x5203,x5204⟩:=o5241
   rintro e s ⟨rfl,rfl⟩
   refine AWp.cond x5204 (by kernel_rfl) (fun c5205 => ?_) (fun c5205 => ?_)
   ·replace H:=iT c5205 H
    refine AWp.skip ?_
    refine AWp.block ?_
    refine rO hP hn hm [] [(4,iV .i64 (i64.wrap (x5195+(1:Int))))] [0,3,4] [] [0,4] ?_
    exact LWp.conv [(0,0),(4,3)] [] [] (by kernel_rfl) (ih _ _ _ _ H)
   ·replace H:=iF c5205 H
    refine AWp.exit ?_
    obtain rfl:=sj H
    exact lf [(0,0),(4,5)] [] [] (by kernel_rfl) ⟨rfl,rfl⟩
 ·obtain⟨x5206,x5207,x5208⟩:=o5239
  rintro e s ⟨rfl,rfl⟩
  obtain⟨b5214,p5215,q5216,H⟩:=Z02 H
  obtain⟨t5217,e5218,H⟩:=Z4 H
  refine sR hP hn hm [(4,.c ((Z2 .i64) b5214)),(5,.call [(0,0)] [(0,0)] [] [] 1 (iV .u64 t5217.1) [(0,some (.box 158 (Z3 ⟨a0_c0,t5217.2.1,t5217.2.2⟩)))])] [(5,iV .u64 t5217.1)] [0,3,4,5] [(0,some (.box 158 (Z3 ⟨a0_c0,t5217.2.1,t5217.2.2⟩)))] [0,5] [_,_,_,_,_] ⟨p5215,Z09 (Z2 .i64) p5215 q5216,Zi (Z2 .i64) q5216,Tryz.call42,Z0c.ok a0_c0 x5206 x5207 b5214 t5217 e5218,trivial⟩ ?_
  refine AWp.seq ?_
  refine AWp.seq ?_
  obtain⟨o5243,e5244,H⟩:=Z4 H
  refine AWp.mono (Q:=fun e s=>(match (generalizing:=false) o5243 with | x5231=>e = .normal∧s=⟨[(0,.ptr 0 0 0),(5,iV .u64 t5217.1),(35,bV x5231)],[(0,some (.box 158 (Z3 ⟨a0_c0,t5217.2.1,t5217.2.2⟩)))],1⟩)) (AWp.cv ?_) ?_
  ·replace H:=e5244;clear e5244
   rcases Bool.eq_false_or_eq_true (decide (x5208>(0:Int))) with c5225 | c5225
   ·replace H:=iT c5225 H
    obtain⟨t5226,e5227,H⟩:=Z4 H
    obtain⟨b5228,p5229,q5230,H⟩:=Z02 H
    refine rG hP hn hm [(2,.b true),(4,.call [] [] [] [] 0 (iV .i64 t5226) []),(9,.c ((Z2 .i64) b5228))] [(35,bV (decide (t5226≤b5228)))] [0,5,35] [] [0] [_,_,_,_,_,_] ⟨c5225,Tryz.call71,Z36.ok t5217.1 t5226 e5227,p5229,Z09 (Z2 .i64) p5229 q5230,Zi (Z2 .i64) q5230,trivial⟩ ?_
    obtain rfl:=sj H
    exact lf [(0,0)] [] [] (by kernel_rfl) ⟨rfl,rfl⟩
   ·replace H:=iF c5225 H
    refine rG hP hn hm [(2,.b false)] [(35,bV false)] [0,5,35] [] [0] [_] ⟨c5225,trivial⟩ ?_
    obtain rfl:=sj H
    exact lf [(0,0)] [] [] (by kernel_rfl) ⟨rfl,rfl⟩
  ·obtain⟨x5231,rfl⟩:∃ z,z=o5243:=⟨_,rfl⟩
   rintro e s ⟨rfl,rfl⟩
   obtain⟨o5245,e5246,H⟩:=Z4 H
   refine AWp.mono (Q:=fun e s=>(match (generalizing:=false) o5245 with | x5237=>e = .normal∧s=⟨[(0,.ptr 0 0 0),(5,iV .u64 t5217.1)],[(0,some (.box 158 (Z3 ⟨a0_c0,t5217.2.1,x5237⟩)))],1⟩)) (AWp.cv ?_) ?_
   ·replace H:=e5246;clear e5246
    refine AWp.cond x5231 (by kernel_rfl) (fun c5232 => ?_) (fun c5232 => ?_)
    ·replace H:=iT c5232 H
     obtain⟨t5235,e5236,H⟩:=Z4 H
     refine rG hP hn hm [(1,.call [(0,0)] [(0,0)] [] [] 1 (.tup []) [(0,some (.box 158 (Z3 ⟨a0_c0,t5217.2.1,t5235⟩)))])] [] [0,5] [(0,some (.box 158 (Z3 ⟨a0_c0,t5217.2.1,t5235⟩)))] [0] [_,_] ⟨Tryz.call85,Z0i.ok a0_c0 t5217.2.1 t5217.2.2 6 t5235 e5236,trivial⟩ ?_
     obtain rfl:=sj H
     exact lf [(0,0)] [] [] (by kernel_rfl) ⟨rfl,rfl⟩
    ·replace H:=iF c5232 H
     refine AWp.skip ?_
     obtain rfl:=sj H
     exact lf [(0,0)] [] [] (by kernel_rfl) ⟨rfl,rfl⟩
   ·obtain⟨x5237,rfl⟩:∃ z,z=o5245:=⟨_,rfl⟩
    rintro e s ⟨rfl,rfl⟩
    refine AWp.seq ?_
    refine sO hP hn hm [] [(42,bV (x5237 != (0:Int)))] [5,42] [] [0] ?_
    refine AWp.cond (x5237 != (0:Int)) (by kernel_rfl) (fun c5238 => ?_) (fun c5238 => ?_)
    ·replace H:=iT c5238 H
     refine sO hP hn hm [] [(2,iV .u64 0)] [2] [] [0] ?_
     refine AWp.conv (inv:=[(0,0)]) (vk:=[]) (e0:=[]) (t:=⟨[(2,iV .u64 0)],[(0,some (.box 158 (Z3 ⟨a0_c0,t5217.2.1,x5237⟩)))],1⟩) (by kernel_rfl) ?_
     refine AWp.ret ?_
     obtain rfl:=sj H
     exact rl (.inl rfl) rfl (by kernel_rfl) (by kernel_rfl)
    ·replace H:=iF c5238 H
     refine AWp.skip ?_
     refine sO hP hn hm [] [(2,iV .u64 t5217.1)] [2] [] [0] ?_
     refine AWp.conv (inv:=[(0,0)]) (vk:=[]) (e0:=[]) (t:=⟨[(2,iV .u64 t5217.1)],[(0,some (.box 158 (Z3 ⟨a0_c0,t5217.2.1,x5237⟩)))],1⟩) (by kernel_rfl) ?_
     refine AWp.ret ?_
     obtain rfl:=sj H
     exact rl (.inl rfl) rfl (by kernel_rfl) (by kernel_rfl)
def Zh.f (a0_c0:List Int) (a0_c1:Int) (a0_c2:Int) (a1:Int):Option (Int×Int×Int):=(Z0e.f a0_c0 a0_c1 a0_c2)>>=fun t5249=>((if(decide (a1<(0:Int)))=true then(some true) else(some (decide (t5249.1>(u64.wrap (a1)))))):Option (Bool))>>=fun x5253=>if x5253=true then((Z0i.f a0_c0 t5249.2.1 t5249.2.2 9)>>=fun t5257=>some (0,t5249.2.1,t5257)) else(some (i64.wrap (t5249.1),t5249.2.1,t5249.2.2))
theorem Zh.ok (a0_c0:List Int) (a0_c1:Int) (a0_c2:Int) (a1:Int) (r:Int×Int×Int) (H:Zh.f a0_c0 a0_c1 a0_c2 a1=some r):Pv.Fn Tryz.prog 43 [.ptr 0 0 0,iV .i64 a1] [(0,some (.box 158 (Z3 ⟨a0_c0,a0_c1,a0_c2⟩)))] 1 (fun x o=>x=iV .i64 r.1∧o=[(0,some (.box 158 (Z3 ⟨a0_c0,r.2.1,r.2.2⟩)))]):=by
 unfold Zh.f at H
 refine Fn.bodyK [0] Tryz.func43 rfl rfl (fun Γ hP hn => ?_)
 have hm:Tryz.prog.follows .mixedOrders=true:=by kernel_rfl
 replace hn:Γ.n=20:=hn
 refine sO hP hn hm [] [] [0,1] [] [0] ?_
 obtain⟨t5249,e5250,H⟩:=Z4 H
 refine sR hP hn hm [(1,.call [(0,0)] [(0,0)] [] [] 1 (iV .u64 t5249.1) [(0,some (.box 158 (Z3 ⟨a0_c0,t5249.2.1,t5249.2.2⟩)))])] [(5,iV .u64 t5249.1)] [0,1,5] [(0,some (.box 158 (Z3 ⟨a0_c0,t5249.2.1,t5249.2.2⟩)))] [0] [_,_] ⟨Tryz.call84,Z0e.ok a0_c0 a0_c1 a0_c2 t5249 e5250,trivial⟩ ?_
 refine AWp.seq ?_
 refine AWp.seq ?_
 obtain⟨o5259,e5260,H⟩:=Z4 H
 refine AWp.mono (Q:=fun e s=>(match (generalizing:=false) o5259 with | x5253=>e = .normal∧s=⟨[(0,.ptr 0 0 0),(5,iV .u64 t5249.1),(15,bV x5253)],[(0,some (.box 158 (Z3 ⟨a0_c0,t5249.2.1,t5249.2.2⟩)))],1⟩)) (AWp.cv ?_) ?_
 ·replace H:=e5260;clear e5260
  rcases Bool.eq_false_or_eq_true (decide (a1<(0:Int))) with c5252 | c5252
  ·replace H:=iT c5252 H
   refine rG hP hn hm [(2,.b true)] [(15,bV true)] [0,5,15] [] [0] [_] ⟨c5252,trivial⟩ ?_
   obtain rfl:=sj H
   exact lf [(0,0)] [] [] (by kernel_rfl) ⟨rfl,rfl⟩
  ·replace H:=iF c5252 H
   refine rG hP hn hm [(2,.b false)] [(15,bV (decide (t5249.1>(u64.wrap (a1)))))] [0,5,15] [] [0] [_] ⟨c5252,trivial⟩ ?_
   obtain rfl:=sj H
   exact lf [(0,0)] [] [] (by kernel_rfl) ⟨rfl,rfl⟩
 ·obtain⟨x5253,rfl⟩:∃ z,z=o5259:=⟨_,rfl⟩
  rintro e s ⟨rfl,rfl⟩
  refine AWp.cond x5253 (by kernel_rfl) (fun c5254 => ?_) (fun c5254 => ?_)
  ·replace H:=iT c5254 H
   obtain⟨t5257,e5258,H⟩:=Z4 H
   refine sR hP hn hm [(1,.call [(0,0)] [(0,0)] [] [] 1 (.tup []) [(0,some (.box 158 (Z3 ⟨a0_c0,t5249.2.1,t5257⟩)))])] [] [] [(0,some (.box 158 (Z3 ⟨a0_c0,t5249.2.1,t5257⟩)))] [0] [_,_] ⟨Tryz.call85,Z0i.ok a0_c0 t5249.2.1 t5249.2.2 9 t5257 e5258,trivial⟩ ?_
   refine sO hP hn hm [] [(4,iV .i64 0)] [4] [] [0] ?_
   refine AWp.conv (inv:=[(0,0)]) (vk:=[]) (e0:=[]) (t:=⟨[(4,iV .i64 0)],[(0,some (.box 158 (Z3 ⟨a0_c0,t5249.2.1,t5257⟩)))],1⟩) (by kernel_rfl) ?_
   refine AWp.ret ?_
   obtain rfl:=sj H
   exact rl (.inl rfl) rfl (by kernel_rfl) (by kernel_rfl)
  ·replace H:=iF c5254 H
   refine AWp.skip ?_
   refine sO hP hn hm [] [(4,iV .i64 (i64.wrap (t5249.1)))] [4] [] [0] ?_
   refine AWp.conv (inv:=[(0,0)]) (vk:=[]) (e0:=[]) (t:=⟨[(4,iV .i64 (i64.wrap (t5249.1)))],[(0,some (.box 158 (Z3 ⟨a0_c0,t5249.2.1,t5249.2.2⟩)))],1⟩) (by kernel_rfl) ?_
   refine AWp.ret ?_
   obtain rfl:=sj H
   exact rl (.inl rfl) rfl (by kernel_rfl) (by kernel_rfl)
def Z00.f (a0_c0:List Int) (a0_c1:Int) (a0_c2:Int):Option (Unit):=some ()
theorem Z00.ok (a0_c0:List Int) (a0_c1:Int) (a0_c2:Int) (r:Unit) (H:Z00.f a0_c0 a0_c1 a0_c2=some r):Pv.Fn Tryz.prog 44 [.ptr 0 0 0] [(0,some (.box 158 (Z3 ⟨a0_c0,a0_c1,a0_c2⟩)))] 1 (fun x o=>x=iV .i64 a0_c2∧o=[(0,some (.box 158 (Z3 ⟨a0_c0,a0_c1,a0_c2⟩)))]):=by
 unfold Z00.f at H
 refine Fn.bodyK [0] Tryz.func44 rfl rfl (fun Γ hP hn => ?_)
 have hm:Tryz.prog.follows .mixedOrders=true:=by kernel_rfl
 replace hn:Γ.n=7:=hn
 refine sO hP hn hm [] [] [0] [] [0] ?_
 refine sO hP hn hm [] [(2,iV .i64 a0_c2)] [2] [] [0] ?_
 refine AWp.conv (inv:=[(0,0)]) (vk:=[]) (e0:=[]) (t:=⟨[(2,iV .i64 a0_c2)],[(0,some (.box 158 (Z3 ⟨a0_c0,a0_c1,a0_c2⟩)))],1⟩) (by kernel_rfl) ?_
 refine AWp.ret ?_
 obtain rfl:=sj H
 exact rl (.inl rfl) rfl (by kernel_rfl) (by kernel_rfl)
def Z17.f (a0_c0:List Int) (a0_c1:Int) (a0_c2:Int):Option (Unit):=some ()
theorem Z17.ok (a0_c0:List Int) (a0_c1:Int) (a0_c2:Int) (r:Unit) (H:Z17.f a0_c0 a0_c1 a0_c2=some r):Pv.Fn Tryz.prog 86 [.ptr 0 0 0] [(0,some (.box 158 (Z3 ⟨a0_c0,a0_c1,a0_c2⟩)))] 1 (fun x o=>x=iV .i64 (i64.wrap ((i64.wrap ((8:Int)*(a0_c0.length:Int)))-a0_c1))∧o=[(0,some (.box 158 (Z3 ⟨a0_c0,a0_c1,a0_c2⟩)))]):=by
 unfold Z17.f at H
 refine Fn.bodyK [0] Tryz.func86 rfl rfl (fun Γ hP hn => ?_)
 have hm:Tryz.prog.follows .mixedOrders=true:=by kernel_rfl
 replace hn:Γ.n=14:=hn
 refine sO hP hn hm [] [] [0] [] [0] ?_
 refine sR hP hn hm [(4,.any (iV .i64 (a0_c0.length:Int)))] [(2,iV .i64 (i64.wrap ((i64.wrap ((8:Int)*(a0_c0.length:Int)))-a0_c1)))] [2] [] [0] [((a0_c0.map (Z2 .u8)).length:Int)=(a0_c0.length:Int)] ⟨by rw[Zr],trivial⟩ ?_
 refine AWp.conv (inv:=[(0,0)]) (vk:=[]) (e0:=[]) (t:=⟨[(2,iV .i64 (i64.wrap ((i64.wrap ((8:Int)*(a0_c0.length:Int)))-a0_c1)))],[(0,some (.box 158 (Z3 ⟨a0_c0,a0_c1,a0_c2⟩)))],1⟩) (by kernel_rfl) ?_
 refine AWp.ret ?_
 obtain rfl:=sj H
 exact rl (.inl rfl) rfl (by kernel_rfl) (by kernel_rfl)
def Z13.l0 (a0_c0:List Int) (t5275:Int×Int×Int) (x5299:Int) (x5300:Int) (x5301:List Int) (x5302:Int):Option ((List Int)×Int×Int):=if(decide (x5302<((List.replicate (Int.toNat t5275.1) (0:Int)).length:Int)))=true then((Z0c.f a0_c0 x5299 x5300 8)>>=fun t5309=>(at? x5301 x5302)>>=fun b5311=>Z13.l0 a0_c0 t5275 t5309.2.1 t5309.2.2 (x5301.set (Int.toNat (x5302)) (u8.wrap (t5309.1))) (i64.wrap (x5302+(1:Int)))) else(some (x5301,x5299,x5300))
partial_fixpoint
def Z13.f (a0_c0:List Int) (a0_c1:Int) (a0_c2:Int):Option (ByteArray×Int×Int):=(Zh.f a0_c0 a0_c1 a0_c2 1048576)>>=fun t5275=>(Z17.f a0_c0 t5275.2.1 t5275.2.2)>>=fun t5279=>if(decide (t5275.1>(i64.wrap (Int.tdiv (i64.wrap ((i64.wrap ((8:Int)*(a0_c0.length:Int)))-t5275.2.1)) (8:Int)))))=true then((Zh.f a0_c0 t5275.2.1 t5275.2.2 (-1))>>=fun t5284=>some ((⟨#[]⟩:ByteArray),t5284.2.1,t5284.2.2)) else((chk (0≤t5275.1∧t5275.1≤t5275.1∧((1:Nat):Int)*t5275.1≤281474976710656∧t5275.1≤9223372036854775807))>>=fun _=>(Z13.l0 a0_c0 t5275 t5275.2.1 t5275.2.2 (List.replicate (Int.toNat t5275.1) (0:Int)) 0)>>=fun oo=>match oo with | (x5314,x5315,x5316)=>(some (strOf x5314,x5315,x5316)))
theorem Z13.ok (a0_c0:List Int) (a0_c1:Int) (a0_c2:Int) (r:ByteArray×Int×Int) (H:Z13.f a0_c0 a0_c1 a0_c2=some r):Pv.Fn Tryz.prog 45 [.ptr 0 0 0] [(0,some (.box 158 (Z3 ⟨a0_c0,a0_c1,a0_c2⟩)))] 1 (fun x o=>x=sV r.1∧o=[(0,some (.box 158 (Z3 ⟨a0_c0,r.2.1,r.2.2⟩)))]):=by
 unfold Z13.f at H
 refine Fn.bodyK [0] Tryz.func45 rfl rfl (fun Γ hP hn => ?_)
 have hm:Tryz.prog.follows .mixedOrders=true:=by kernel_rfl
 replace hn:Γ.n=31:=hn
 refine sO hP hn hm [] [] [0] [] [0] ?_
 obtain⟨t5275,e5276,H⟩:=Z4 H
 refine sR hP hn hm [(1,.call [(0,0)] [(0,0)] [] [] 1 (iV .i64 t5275.1) [(0,some (.box 158 (Z3 ⟨a0_c0,t5275.2.1,t5275.2.2⟩)))])] [(3,iV .i64 t5275.1)] [0,3] [(0,some (.box 158 (Z3 ⟨a0_c0,t5275.2.1,t5275.2.2⟩)))] [0] [_,_] ⟨Tryz.call43,Zh.ok a0_c0 a0_c1 a0_c2 1048576 t5275 e5276,trivial⟩ ?_
 refine AWp.seq ?_
 obtain⟨t5279,e5280,H⟩:=Z4 H
 refine sR hP hn hm [(2,.call [(0,0)] [(0,0)] [] [] 1 (iV .i64 (i64.wrap ((i64.wrap ((8:Int)*(a0_c0.length:Int)))-t5275.2.1))) [(0,some (.box 158 (Z3 ⟨a0_c0,t5275.2.1,t5275.2.2⟩)))])] [(12,bV (decide (t5275.1>(i64.wrap (Int.tdiv (i64.wrap ((i64.wrap ((8:Int)*(a0_c0.length:Int)))-t5275.2.1)) (8:Int))))))] [0,3,12] [] [0] [_,_,(8:Int)≠0] ⟨Tryz.call86,Z17.ok a0_c0 t5275.2.1 t5275.2.2 t5279 e5280,by decide,trivial⟩ ?_
 refine AWp.cond (decide (t5275.1>(i64.wrap (Int.tdiv (i64.wrap ((i64.wrap ((8:Int)*(a0_c0.length:Int)))-t5275.2.1)) (8:Int))))) (by kernel_rfl) (fun c5281 => ?_) (fun c5281 => ?_)
 ·replace H:=iT c5281 H
  obtain⟨t5284,e5285,H⟩:=Z4 H
  refine sR hP hn hm [(1,.call [(0,0)] [(0,0)] [] [] 1 (iV .i64 t5284.1) [(0,some (.box 158 (Z3 ⟨a0_c0,t5284.2.1,t5284.2.2⟩)))])] [] [] [(0,some (.box 158 (Z3 ⟨a0_c0,t5284.2.1,t5284.2.2⟩)))] [0] [_,_] ⟨Tryz.call43,Zh.ok a0_c0 t5275.2.1 t5275.2.2 (-1) t5284 e5285,trivial⟩ ?_
  refine sO hP hn hm [] [(2,sV (⟨#[]⟩:ByteArray))] [2] [] [0] ?_
  refine AWp.conv (inv:=[(0,0)]) (vk:=[]) (e0:=[]) (t:=⟨[(2,sV (⟨#[]⟩:ByteArray))],[(0,some (.box 158 (Z3 ⟨a0_c0,t5284.2.1,t5284.2.2⟩)))],1⟩) (by kernel_rfl) ?_
  refine AWp.ret ?_
  obtain rfl:=sj H
  exact rl (.inl rfl) rfl (by kernel_rfl) (by kernel_rfl)
 ·replace H:=iF c5281 H
  refine AWp.skip ?_
  obtain⟨c5287,H⟩:=Z10 H
  refine sR hP hn hm [(1,.more (xMake 1 ((List.replicate (Int.toNat t5275.1) (0:Int)).map (Z2 .u8))))] [(4,.own 1)] [0,4] [(1,some (.row 1 5 ((List.replicate (Int.toNat t5275.1) (0:Int)).map (Z2 .u8))))] [0,1] [(List.replicate (Int.toNat t5275.1) (0:Int)).map (Z2 .u8)=List.replicate (Int.toNat t5275.1) [iI .u8 0],0≤t5275.1,t5275.1≤t5275.1,((1:Nat):Int)*t5275.1≤281474976710656,t5275.1≤9223372036854775807] ⟨by simp,by exact c5287.1,by exact c5287.2.1,by exact c5287.2.2.1,by exact c5287.2.2.2,trivial⟩ ?_
  refine AWp.seq ?_
  refine sR hP hn hm [(1,.any (iV .i64 ((List.replicate (Int.toNat t5275.1) (0:Int)).length:Int)))] [(18,iV .i64 ((List.replicate (Int.toNat t5275.1) (0:Int)).length:Int)),(19,iV .i64 0)] [0,4,18,19] [] [0,1] [(((List.replicate (Int.toNat t5275.1) (0:Int)).map (Z2 .u8)).length:Int)=((List.replicate (Int.toNat t5275.1) (0:Int)).length:Int)] ⟨by rw[Zr],trivial⟩ ?_
  refine AWp.block ?_
  obtain⟨o5317,e5318,H⟩:=Z4 H
  refine AWp.loop (LWp.conv (inv:=[(0,0),(1,2)]) (vk:=[]) (e0:=[]) (t:=⟨[(0,.ptr 0 0 0),(4,.own 2),(18,iV .i64 ((List.replicate (Int.toNat t5275.1) (0:Int)).length:Int)),(19,iV .i64 0)],[(0,some (.box 158 (Z3 ⟨a0_c0,t5275.2.1,t5275.2.2⟩))),(2,some (.row 1 5 ((List.replicate (Int.toNat t5275.1) (0:Int)).map (Z2 .u8))))],1⟩) (by kernel_rfl) ?_)
  refine LWp.mono (Q:=fun e s=>(match (generalizing:=false) o5317 with | (x5314,x5315,x5316)=>e = .exit 0∧s=⟨[(4,.own 3)],[(0,some (.box 158 (Z3 ⟨a0_c0,x5315,x5316⟩))),(3,some (.row 1 5 (x5314.map (Z2 .u8))))],1⟩)) (LWp.cv (Zs (fun body hbody => ?_))) ?_
  ·refine               Z13.l0.partial_correctness a0_c0 t5275 (motive:=fun x5299 x5300 x5301 x5302 o5317=>LWp Γ body (fun e s=>∃ t,Cv Γ s t∧(match (generalizing:=false) o5317 with | (x5314,x5315,x5316)=>e = .exit 0∧t=⟨[(4,.own 3)],[(0,some (.box 158 (Z3           ⟨a0_c0,x5315,x5316⟩))),(3,some (.row 1 5 (x5314.map (Z2     .u8))))],1⟩)) ⟨[(0,.ptr 0 0 0),(4,.own 2),(18,iV .i64 ((List.replicate (Int.toNat t5275.1) (0:Int)).length:Int)),(19,iV .i64 x5302)],[(0,some (.box 158 (Z3           ⟨a0_c0,x5299,x5300⟩))),(2,some (.row 1 5 (x5301.map (Z2     .u8))))],1⟩) ?_ _ _ _ _ _ e5318
   clear H e5318 o5317;intro self ih x5299 x5300 x5301 x5302 o5317 H
   subst hbody
   refine LWp.round ?_
   refine sO hP hn hm [] [(20,bV (decide (x5302<((List.replicate (Int.toNat t5275.1) (0:Int)).length:Int))))] [0,4,18,19,20] [] [0,2] ?_
   refine AWp.seq ?_
   refine AWp.cond (decide (x5302<((List.replicate (Int.toNat t5275.1) (0:Int)).length:Int))) (by kernel_rfl) (fun c5303 => ?_) (fun c5303 => ?_)
   ·replace H:=iT c5303 H
    refine AWp.skip ?_
    refine AWp.seq ?_
    refine AWp.block ?_
    refine sO hP hn hm [] [(5,iV .i64 x5302)] [0,4,5,18,19] [] [0,2] ?_
    obtain⟨t5309,e5310,H⟩:=Z4 H
    obtain⟨b5311,p5312,q5313,H⟩:=Z02 H
    refine rG hP hn hm [(3,.call [(0,0)] [(0,0)] [] [] 1 (iV .u64 t5309.1) [(0,some (.box 158 (Z3 ⟨a0_c0,t5309.2.1,t5309.2.2⟩)))]),(6,.put ((Z2 .u8) b5311) ((x5301.set (Int.toNat (x5302)) (u8.wrap (t5309.1))).map (Z2 .u8)))] [] [0,4,18,19] [(0,some (.box 158 (Z3 ⟨a0_c0,t5309.2.1,t5309.2.2⟩))),(2,some (.row 1 5 ((x5301.set (Int.toNat (x5302)) (u8.wrap (t5309.1))).map (Z2 .u8))))] [0,2] [_,_,_,_,_,(x5301.set (Int.toNat (x5302)) (u8.wrap (t5309.1))).map (Z2 .u8)=(x5301.map (Z2 .u8)).set (Int.toNat (x5302)) (Z0t ((Z2 .u8) b5311) 0 [iI .u8 (u8.wrap (t5309.1))])] ⟨Tryz.call42,Z0c.ok a0_c0 x5299 x5300 8 t5309 e5310,p5312,Z09 (Z2 .u8) p5312 q5313,Zi (Z2 .u8) q5313,by exact set1 _ _ _ _,trivial⟩ ?_
    refine rO hP hn hm [] [(19,iV .i64 (i64.wrap (x5302+(1:Int))))] [0,4,18,19] [] [0,2] ?_
    exact LWp.conv [(0,0),(2,2)] [] [] (by kernel_rfl) (ih _ _ _ _ _ H)
   ·replace H:=iF c5303 H
    refine AWp.exit ?_
    obtain rfl:=sj H
    exact lf [(2,3),(0,0)] [] [] (by kernel_rfl) ⟨rfl,rfl⟩
  ·obtain⟨x5314,x5315,x5316⟩:=o5317
   rintro e s ⟨rfl,rfl⟩
   refine sR hP hn hm [(1,.more (xStr x5314))] [(2,sV (strOf x5314))] [2] [] [0] [x5314.map (Z2 .u8)=x5314.map (Z2 .u8)] ⟨by exact rfl,trivial⟩ ?_
   refine AWp.conv (inv:=[(0,0)]) (vk:=[]) (e0:=[]) (t:=⟨[(2,sV (strOf x5314))],[(0,some (.box 158 (Z3 ⟨a0_c0,x5315,x5316⟩)))],1⟩) (by kernel_rfl) ?_
   refine AWp.ret ?_
   obtain rfl:=sj H
   exact rl (.inl rfl) rfl (by kernel_rfl) (by kernel_rfl)
def Z5t.f (a0:Int):Option (Unit):=some ()
theorem Z5t.ok (a0:Int) (r:Unit) (H:Z5t.f a0=some r):Pv.Fn Tryz.prog 150 [iV .u64 a0] [] 0 (fun x o=>x=iV .i64 (i64.wrap (((BitVec.toNat (BitVec.ofInt 64 (i64.wrap (Int.fdiv a0 2)) ^^^ BitVec.ofInt 64 (i64.wrap (0-(i64.wrap (u64.wrap (((BitVec.toNat (BitVec.ofInt 64 a0 &&& BitVec.ofInt 64 (1:Int)):Nat):Int))))))):Nat):Int)))∧o=[]):=by
 unfold Z5t.f at H
 refine Fn.bodyK [] Tryz.func150 rfl rfl (fun Γ hP hn => ?_)
 have hm:Tryz.prog.follows .mixedOrders=true:=by kernel_rfl
 replace hn:Γ.n=11:=hn
 refine sO hP hn hm [] [] [0] [] [] ?_
 refine sR hP hn hm [] [(2,iV .i64 (i64.wrap (((BitVec.toNat (BitVec.ofInt 64 (i64.wrap (Int.fdiv a0 2)) ^^^ BitVec.ofInt 64 (i64.wrap (0-(i64.wrap (u64.wrap (((BitVec.toNat (BitVec.ofInt 64 a0 &&& BitVec.ofInt 64 (1:Int)):Nat):Int))))))):Nat):Int))))] [2] [] [] [(0:Int)≤1] ⟨by decide,trivial⟩ ?_
 refine AWp.conv (inv:=[]) (vk:=[]) (e0:=[]) (t:=⟨[(2,iV .i64 (i64.wrap (((BitVec.toNat (BitVec.ofInt 64 (i64.wrap (Int.fdiv a0 2)) ^^^ BitVec.ofInt 64 (i64.wrap (0-(i64.wrap (u64.wrap (((BitVec.toNat (BitVec.ofInt 64 a0 &&& BitVec.ofInt 64 (1:Int)):Nat):Int))))))):Nat):Int))))],[],0⟩) (by kernel_rfl) ?_
 refine AWp.ret ?_
 obtain rfl:=sj H
 exact rl (.inl rfl) rfl (by kernel_rfl) (by kernel_rfl)
def Z0p.f (a0_c0:List Int) (a0_c1:Int) (a0_c2:Int):Option (Int×Int×Int):=(Z0e.f a0_c0 a0_c1 a0_c2)>>=fun t5355=>(Z5t.f t5355.1)>>=fun t5357=>some (i64.wrap (((BitVec.toNat (BitVec.ofInt 64 (i64.wrap (Int.fdiv t5355.1 2)) ^^^ BitVec.ofInt 64 (i64.wrap (0-(i64.wrap (u64.wrap (((BitVec.toNat (BitVec.ofInt 64 t5355.1 &&& BitVec.ofInt 64 (1:Int)):Nat):Int))))))):Nat):Int)),t5355.2.1,t5355.2.2)
theorem Z0p.ok (a0_c0:List Int) (a0_c1:Int) (a0_c2:Int) (r:Int×Int×Int) (H:Z0p.f a0_c0 a0_c1 a0_c2=some r):Pv.Fn Tryz.prog 115 [.ptr 0 0 0] [(0,some (.box 158 (Z3 ⟨a0_c0,a0_c1,a0_c2⟩)))] 1 (fun x o=>x=iV .i64 r.1∧o=[(0,some (.box 158 (Z3 ⟨a0_c0,r.2.1,r.2.2⟩)))]):=by
 unfold Z0p.f at H
 refine Fn.bodyK [0] Tryz.func115 rfl rfl (fun Γ hP hn => ?_)
 have hm:Tryz.prog.follows .mixedOrders=true:=by kernel_rfl
 replace hn:Γ.n=6:=hn
 refine sO hP hn hm [] [] [0] [] [0] ?_
 obtain⟨t5355,e5356,H⟩:=Z4 H
 obtain⟨t5357,e5358,H⟩:=Z4 H
 refine sR hP hn hm [(1,.call [(0,0)] [(0,0)] [] [] 1 (iV .u64 t5355.1) [(0,some (.box 158 (Z3 ⟨a0_c0,t5355.2.1,t5355.2.2⟩)))]),(2,.call [] [] [] [] 0 (iV .i64 (i64.wrap (((BitVec.toNat (BitVec.ofInt 64 (i64.wrap (Int.fdiv t5355.1 2)) ^^^ BitVec.ofInt 64 (i64.wrap (0-(i64.wrap (u64.wrap (((BitVec.toNat (BitVec.ofInt 64 t5355.1 &&& BitVec.ofInt 64 (1:Int)):Nat):Int))))))):Nat):Int)))) [])] [(2,iV .i64 (i64.wrap (((BitVec.toNat (BitVec.ofInt 64 (i64.wrap (Int.fdiv t5355.1 2)) ^^^ BitVec.ofInt 64 (i64.wrap (0-(i64.wrap (u64.wrap (((BitVec.toNat (BitVec.ofInt 64 t5355.1 &&& BitVec.ofInt 64 (1:Int)):Nat):Int))))))):Nat):Int))))] [2] [(0,some (.box 158 (Z3 ⟨a0_c0,t5355.2.1,t5355.2.2⟩)))] [0] [_,_,_,_] ⟨Tryz.call84,Z0e.ok a0_c0 a0_c1 a0_c2 t5355 e5356,Tryz.call150,Z5t.ok t5355.1 t5357 e5358,trivial⟩ ?_
 refine AWp.conv (inv:=[(0,0)]) (vk:=[]) (e0:=[]) (t:=⟨[(2,iV .i64 (i64.wrap (((BitVec.toNat (BitVec.ofInt 64 (i64.wrap (Int.fdiv t5355.1 2)) ^^^ BitVec.ofInt 64 (i64.wrap (0-(i64.wrap (u64.wrap (((BitVec.toNat (BitVec.ofInt 64 t5355.1 &&& BitVec.ofInt 64 (1:Int)):Nat):Int))))))):Nat):Int))))],[(0,some (.box 158 (Z3 ⟨a0_c0,t5355.2.1,t5355.2.2⟩)))],1⟩) (by kernel_rfl) ?_
 refine AWp.ret ?_
 obtain rfl:=sj H
 exact rl (.inl rfl) rfl (by kernel_rfl) (by kernel_rfl)
def Z3a.l0 (a0:Zm) (a1:Int) (x5451:Int) (x5452:Int):Option (Bool ⊕ Unit):=if(decide (x5452<(a0.f1.length:Int)))=true then((at? a0.f1 x5452)>>=fun b5457=>((if(decide (b5457.f1<(1:Int)))=true then(some true) else(if(decide (b5457.f1>(i64.wrap (a1-x5451))))=true then(some true) else(if(decide (b5457.f0<(0:Int)))=true then(some true) else(if(decide (b5457.f0>(524288:Int)))=true then(some true) else(some (!((x5452==(0:Int))==(b5457.f0==(0:Int))))))))):Option (Bool))>>=fun x5468=>if x5468=true then(some (.inl false)) else(Z3a.l0 a0 a1 (i64.wrap (x5451+b5457.f1)) (i64.wrap (x5452+(1:Int))))) else(some (.inr ()))
partial_fixpoint
def Z3a.f (a0:Zm) (a1:Int):Option (Bool):=if((a0.f1.length:Int)==(0:Int))=true then(some (a0.f0==(0:Int))) else((Z3a.l0 a0 a1 0 0)>>=fun oo=>match oo with | .inl rr=>(some rr) | .inr _=>(((if(decide (a0.f0≥(-262144)))=true then(some (decide (a0.f0≤(262144:Int)))) else(some false)):Option (Bool))>>=fun x5472=>some x5472))
theorem Z3a.ok (a0:Zm) (a1:Int) (r:Bool) (H:Z3a.f a0 a1=some r):Pv.Fn Tryz.prog 151 [.agg (Zj a0),iV .i64 a1] [] 0 (fun x o=>x=bV r∧o=[]):=by
 unfold Z3a.f at H
 refine Fn.bodyK [] Tryz.func151 rfl rfl (fun Γ hP hn => ?_)
 have hm:Tryz.prog.follows .mixedOrders=true:=by kernel_rfl
 replace hn:Γ.n=65:=hn
 refine sO hP hn hm [(0,.k 0)] [(2,.ptr 0 0 0)] [1,2] [(0,some (.box 179 (Zj a0)))] [0] ?_
 refine AWp.seq ?_
 refine sR hP hn hm [(2,.any (iV .i64 (a0.f1.length:Int)))] [(11,bV ((a0.f1.length:Int)==(0:Int)))] [1,2,11] [] [0] [((a0.f1.map Z0q).length:Int)=(a0.f1.length:Int)] ⟨by rw[Zr],trivial⟩ ?_
 refine AWp.cond ((a0.f1.length:Int)==(0:Int)) (by kernel_rfl) (fun c5433 => ?_) (fun c5433 => ?_)
 ·replace H:=iT c5433 H
  refine sO hP hn hm [] [(4,bV (a0.f0==(0:Int)))] [4] [] [] ?_
  refine AWp.conv (inv:=[]) (vk:=[]) (e0:=[]) (t:=⟨[(4,bV (a0.f0==(0:Int)))],[],0⟩) (by kernel_rfl) ?_
  refine AWp.ret ?_
  obtain rfl:=sj H
  exact rl (.inl rfl) rfl (by kernel_rfl) (by kernel_rfl)
 ·replace H:=iF c5433 H
  refine AWp.skip ?_
  refine sO hP hn hm [] [(5,iV .i64 0)] [1,2,5] [] [0] ?_
  refine AWp.seq ?_
  refine sR hP hn hm [(2,.any (iV .i64 (a0.f1.length:Int)))] [(16,.im (.row (a0.f1.map Z0q))),(17,iV .i64 (a0.f1.length:Int)),(18,iV .i64 0)] [1,2,5,16,17,18] [] [0] [((a0.f1.map Z0q).length:Int)=(a0.f1.length:Int)] ⟨by rw[Zr],trivial⟩ ?_
  refine AWp.block ?_
  obtain⟨o5473,e5474,H⟩:=Z4 H
  refine AWp.loop (LWp.conv (inv:=[(0,4)]) (vk:=[]) (e0:=[]) (t:=⟨[(1,iV .i64 a1),(2,.ptr 4 0 0),(5,iV .i64 0),(16,.im (.row (a0.f1.map Z0q))),(17,iV .i64 (a0.f1.length:Int)),(18,iV .i64 0)],[(4,some (.box 179 (Zj a0)))],0⟩) (by kernel_rfl) ?_)
  refine LWp.mono (Q:=fun e s=>(match (generalizing:=false) o5473 with | .inl rr=>e = .ret∧s.floor=0∧Z1y Tryz.prog Tryz.f151 s=some (bV rr)∧([]:List (Nat×Option MObj))=[] | .inr _=>e = .exit 0∧s=⟨[(2,.ptr 8 0 0)],[(8,some (.box 179 (Zj a0)))],0⟩)) (LWp.cv (Zs (fun body hbody => ?_))) ?_
  ·refine          Z3a.l0.partial_correctness a0 a1 (motive:=fun x5451 x5452 o5473=>LWp Γ body (fun e s=>∃ t,Cv Γ s t∧(match (generalizing:=false) o5473 with | .inl rr=>e = .ret∧t.floor=0∧Z1y   Tryz.prog Tryz.f151 t=some (bV rr)∧([]:List (Nat×Option MObj))=[] | .inr _=>e = .exit 0∧t=⟨[(2,.ptr 8 0 0)],[(8,some (.box 179 (Zj           a0)))],0⟩)) ⟨[(1,iV .i64 a1),(2,.ptr 4 0 0),(5,iV .i64 x5451),(16,.im (.row (a0.f1.map Z0q  ))),(17,iV .i64 (a0.f1.length:Int)),(18,iV .i64 x5452)],[(4,some (.box 179 (Zj           a0)))],0⟩) ?_ _ _ _ e5474
   clear H e5474 o5473;intro self ih x5451 x5452 o5473 H
   subst hbody
   refine LWp.round ?_
   refine sO hP hn hm [] [(19,bV (decide (x5452<(a0.f1.length:Int))))] [1,2,5,16,17,18,19] [] [4] ?_
   refine AWp.seq ?_
   refine AWp.cond (decide (x5452<(a0.f1.length:Int))) (by kernel_rfl) (fun c5453 => ?_) (fun c5453 => ?_)
   ·replace H:=iT c5453 H
    refine AWp.skip ?_
    refine AWp.seq ?_
    refine AWp.block ?_
    obtain⟨b5457,p5458,q5459,H⟩:=Z02 H
    refine sR hP hn hm [(1,.c (Z0q b5457)),(3,.k 5)] [(6,iV .i64 x5452),(7,.ptr 5 0 0)] [1,2,5,6,7,16,17,18] [(5,some (.box 210 (aSpan b5457)))] [4,5] [_,_] ⟨p5458,Zi Z0q q5459,trivial⟩ ?_
    refine AWp.seq ?_
    refine AWp.seq ?_
    obtain⟨o5475,e5476,H⟩:=Z4 H
    refine AWp.mono (Q:=fun e s=>(match (generalizing:=false) o5475 with | x5468=>e = .normal∧s=⟨[(1,iV .i64 a1),(2,.ptr 6 0 0),(5,iV .i64 x5451),(7,.ptr 7 0 0),(16,.im (.row (a0.f1.map Z0q))),(17,iV .i64 (a0.f1.length:Int)),(18,iV .i64 x5452),(51,bV x5468)],[(6,some (.box 179 (Zj a0))),(7,some (.box 210 (aSpan b5457)))],0⟩)) (AWp.cv ?_) ?_
    ·replace H:=e5476;clear e5476
     rcases Bool.eq_false_or_eq_true (decide (b5457.f1<(1:Int))) with c5464 | c5464
     ·replace H:=iT c5464 H
      refine rG hP hn hm [(3,.b true)] [(51,bV true)] [1,2,5,7,16,17,18,51] [] [4,5] [_] ⟨c5464,trivial⟩ ?_
      obtain rfl:=sj H
      exact lf [(4,6),(5,7)] [] [] (by kernel_rfl) ⟨rfl,rfl⟩
     ·replace H:=iF c5464 H
      rcases Bool.eq_false_or_eq_true (decide (b5457.f1>(i64.wrap (a1-x5451)))) with c5465 | c5465
      ·replace H:=iT c5465 H
       refine rG hP hn hm [(3,.b false),(11,.b true)] [(27,.ptr 5 0 1),(28,iV .i64 b5457.f1),(29,iV .i64 a1),(30,iV .i64 x5451),(31,iV .i64 (i64.wrap (a1-x5451))),(32,bV (decide (b5457.f1>(i64.wrap (a1-x5451))))),(51,bV true)] [1,2,5,7,16,17,18,27,28,29,30,31,32,51] [] [4,5] [_,_] ⟨c5464,c5465,trivial⟩ ?_
       obtain rfl:=sj H
       exact lf [(4,6),(5,7)] [] [] (by kernel_rfl) ⟨rfl,rfl⟩
      ·replace H:=iF c5465 H
       rcases Bool.eq_false_or_eq_true (decide (b5457.f0<(0:Int))) with c5466 | c5466
       ·replace H:=iT c5466 H
        refine rG hP hn hm [(3,.b false),(11,.b false),(16,.b true)] [(27,.ptr 5 0 1),(28,iV .i64 b5457.f1),(29,iV .i64 a1),(30,iV .i64 x5451),(31,iV .i64 (i64.wrap (a1-x5451))),(32,bV (decide (b5457.f1>(i64.wrap (a1-x5451))))),(35,.ptr 5 0 0),(36,iV .i64 b5457.f0),(37,bV (decide (b5457.f0<(0:Int)))),(51,bV true)] [1,2,5,7,16,17,18,27,28,29,30,31,32,35,36,37,51] [] [4,5] [_,_,_] ⟨c5464,c5465,c5466,trivial⟩ ?_
        obtain rfl:=sj H
        exact lf [(4,6),(5,7)] [] [] (by kernel_rfl) ⟨rfl,rfl⟩
       ·replace H:=iF c5466 H
        rcases Bool.eq_false_or_eq_true (decide (b5457.f0>(524288:Int))) with c5467 | c5467
        ·replace H:=iT c5467 H
         refine rG hP hn hm [(3,.b false),(11,.b false),(16,.b false),(21,.b true)] [(27,.ptr 5 0 1),(28,iV .i64 b5457.f1),(29,iV .i64 a1),(30,iV .i64 x5451),(31,iV .i64 (i64.wrap (a1-x5451))),(32,bV (decide (b5457.f1>(i64.wrap (a1-x5451))))),(35,.ptr 5 0 0),(36,iV .i64 b5457.f0),(37,bV (decide (b5457.f0<(0:Int)))),(40,.ptr 5 0 0),(41,iV .i64 b5457.f0),(42,bV (decide (b5457.f0>(524288:Int)))),(51,bV true)] [1,2,5,7,16,17,18,27,28,29,30,31,32,35,36,37,40,41,42,51] [] [4,5] [_,_,_,_] ⟨c5464,c5465,c5466,c5467,trivial⟩ ?_
         obtain rfl:=sj H
         exact lf [(4,6),(5,7)] [] [] (by kernel_rfl) ⟨rfl,rfl⟩
        ·replace H:=iF c5467 H
         refine rG hP hn hm [(3,.b false),(11,.b false),(16,.b false),(21,.b false)] [(27,.ptr 5 0 1),(28,iV .i64 b5457.f1),(29,iV .i64 a1),(30,iV .i64 x5451),(31,iV .i64 (i64.wrap (a1-x5451))),(32,bV (decide (b5457.f1>(i64.wrap (a1-x5451))))),(35,.ptr 5 0 0),(36,iV .i64 b5457.f0),(37,bV (decide (b5457.f0<(0:Int)))),(40,.ptr 5 0 0),(41,iV .i64 b5457.f0),(42,bV (decide (b5457.f0>(524288:Int)))),(45,iV .i64 x5452),(46,bV (x5452==(0:Int))),(47,.ptr 5 0 0),(48,iV .i64 b5457.f0),(49,bV (b5457.f0==(0:Int))),(50,bV (!((x5452==(0:Int))==(b5457.f0==(0:Int))))),(51,bV (!((x5452==(0:Int))==(b5457.f0==(0:Int)))))] [1,2,5,7,16,17,18,27,28,29,30,31,32,35,36,37,40,41,42,45,46,47,48,49,50,51] [] [4,5] [_,_,_,_] ⟨c5464,c5465,c5466,c5467,trivial⟩ ?_
         obtain rfl:=sj H
         exact lf [(4,6),(5,7)] [] [] (by kernel_rfl) ⟨rfl,rfl⟩
    ·obtain⟨x5468,rfl⟩:∃ z,z=o5475:=⟨_,rfl⟩
     rintro e s ⟨rfl,rfl⟩
     refine AWp.cond x5468 (by kernel_rfl) (fun c5469 => ?_) (fun c5469 => ?_)
     ·replace H:=iT c5469 H
      refine sO hP hn hm [] [(4,bV false)] [4] [] [] ?_
      refine AWp.conv (inv:=[]) (vk:=[]) (e0:=[]) (t:=⟨[(4,bV false)],[],0⟩) (by kernel_rfl) ?_
      refine AWp.ret ?_
      obtain rfl:=sj H
      exact rl rfl rfl (by kernel_rfl) (by kernel_rfl)
     ·replace H:=iF c5469 H
      refine AWp.skip ?_
      refine rO hP hn hm [] [(5,iV .i64 (i64.wrap (x5451+b5457.f1)))] [1,2,5,16,17,18] [] [6] ?_
      refine rO hP hn hm [] [(18,iV .i64 (i64.wrap (x5452+(1:Int))))] [1,2,5,16,17,18] [] [6] ?_
      exact LWp.conv [(6,4)] [] [] (by kernel_rfl) (ih _ _ _ H)
   ·replace H:=iF c5453 H
    refine AWp.exit ?_
    obtain rfl:=sj H
    exact lf [(4,8)] [] [] (by kernel_rfl) ⟨rfl,rfl⟩
  ·rcases o5473 with rr | _
   ·skip
    rintro e s ⟨rfl,hfl,hres⟩
    obtain rfl:=sj H
    exact Exists.intro _ (And.intro (fun _ _ h=>h) (And.intro (.inl rfl) (And.intro hfl hres)))
   ·skip
    rintro e s ⟨rfl,rfl⟩
    refine AWp.seq ?_
    obtain⟨o5477,e5478,H⟩:=Z4 H
    refine AWp.mono (Q:=fun e s=>(match (generalizing:=false) o5477 with | x5472=>e = .normal∧s=⟨[(4,bV x5472)],[],0⟩)) (AWp.cv ?_) ?_
    ·replace H:=e5478;clear e5478
     rcases Bool.eq_false_or_eq_true (decide (a0.f0≥(-262144))) with c5471 | c5471
     ·replace H:=iT c5471 H
      refine rG hP hn hm [(3,.b true)] [(4,bV (decide (a0.f0≤(262144:Int))))] [4] [] [] [_] ⟨c5471,trivial⟩ ?_
      obtain rfl:=sj H
      exact lf [] [] [] (by kernel_rfl) ⟨rfl,rfl⟩
     ·replace H:=iF c5471 H
      refine rG hP hn hm [(3,.b false)] [(4,bV false)] [4] [] [] [_] ⟨c5471,trivial⟩ ?_
      obtain rfl:=sj H
      exact lf [] [] [] (by kernel_rfl) ⟨rfl,rfl⟩
    ·obtain⟨x5472,rfl⟩:∃ z,z=o5477:=⟨_,rfl⟩
     rintro e s ⟨rfl,rfl⟩
     refine AWp.conv (inv:=[]) (vk:=[]) (e0:=[]) (t:=⟨[(4,bV x5472)],[],0⟩) (by kernel_rfl) ?_
     refine AWp.ret ?_
     obtain rfl:=sj H
     exact rl (.inl rfl) rfl (by kernel_rfl) (by kernel_rfl)
def Z1s.l0 (a0_c0:List Int) (a1:Int) (x5384:Int) (x5385:Int) (x5400:Int) (x5401:Int) (x5402:List Z38) (x5403:Int):Option (Int×Int×(List Z38)):=((if(decide (x5403<x5385))=true then((Z00.f a0_c0 x5400 x5401)>>=fun t5408=>some (x5401==(0:Int))) else(some false)):Option (Bool))>>=fun x5410=>if x5410=true then(((if(decide (x5403>(0:Int)))=true then((Zh.f a0_c0 x5400 x5401 524287)>>=fun t5415=>some (t5415.2.1,t5415.2.2,i64.wrap ((1:Int)+t5415.1))) else(some (x5400,x5401,0))):Option (Int×Int×Int))>>=fun oo=>match oo with | (x5417,x5418,x5419)=>((Zh.f a0_c0 x5417 x5418 (i64.wrap (a1-(1:Int))))>>=fun t5422=>(chk ((x5402.length+[(⟨x5419,i64.wrap ((1:Int)+t5422.1)⟩:Z38)].length)*16≤140737488355328))>>=fun _=>Z1s.l0 a0_c0 a1 x5384 x5385 t5422.2.1 t5422.2.2 (x5402++[(⟨x5419,i64.wrap ((1:Int)+t5422.1)⟩:Z38)]) (i64.wrap (x5403+(1:Int))))) else(some (x5400,x5401,x5402))
partial_fixpoint
def Z1s.f (a0_c0:List Int) (a0_c1:Int) (a0_c2:Int) (a1:Int):Option (Zm×Int×Int):=(Zh.f a0_c0 a0_c1 a0_c2 a1)>>=fun t5369=>((if(decide (t5369.1>(0:Int)))=true then((Z0p.f a0_c0 t5369.2.1 t5369.2.2)>>=fun t5374=>((if(decide (t5374.1≥(-262144)))=true then(some (decide (t5374.1≤(262144:Int)))) else(some false)):Option (Bool))>>=fun x5378=>((if x5378=true then(some (t5374.1,t5369.1)) else(some (0,(-1)))):Option (Int×Int))>>=fun oo=>match oo with | (x5380,x5381)=>(some (t5374.2.1,t5374.2.2,x5380,x5381))) else(some (t5369.2.1,t5369.2.2,0,t5369.1))):Option (Int×Int×Int×Int))>>=fun oo=>match oo with | (x5382,x5383,x5384,x5385)=>((Z1s.l0 a0_c0 a1 x5384 x5385 x5382 x5383 [] 0)>>=fun oo=>match oo with | (x5426,x5427,x5428)=>((((Z00.f a0_c0 x5426 x5427)>>=fun t5481=>if(x5427 != (0:Int))=true then(some true) else(if(decide (x5385<(0:Int)))=true then(some true) else((Z3a.f (⟨x5384,x5428⟩:Zm) a1)>>=fun t5485=>some (!t5485)))):Option (Bool))>>=fun x5487=>if x5487=true then(some ((⟨0,[]⟩:Zm),x5426,x5427)) else(some ((⟨x5384,x5428⟩:Zm),x5426,x5427))))
theorem Z1s.ok (a0_c0:List Int) (a0_c1:Int) (a0_c2:Int) (a1:Int) (r:Zm×Int×Int) (H:Z1s.f a0_c0 a0_c1 a0_c2 a1=some r):Pv.Fn Tryz.prog 116 [.ptr 0 0 0,iV .i64 a1] [(0,some (.box 158 (Z3 ⟨a0_c0,a0_c1,a0_c2⟩)))] 1 (fun x o=>x = .agg [iV .i64 ((r.1).f0),.own 1]∧o=[(0,some (.box 158 (Z3 ⟨a0_c0,r.2.1,r.2.2⟩))),(1,some (.row 2 210 (((r.1).f1).map Z0q)))]):=by
 unfold Z1s.f at H
 refine Fn.bodyK [0,1] Tryz.func116 rfl rfl (fun Γ hP hn => ?_)
 have hm:Tryz.prog.follows .mixedOrders=true:=by kernel_rfl
 replace hn:Γ.n=69:=hn
 refine sO hP hn hm [(0,.k 1)] [(4,.ptr 1 0 0)] [0,1,4] [(1,some (.box 179 [iV .i64 0,.none0]))] [0,1] ?_
 refine sO hP hn hm [(0,.k 2)] [(5,.ptr 2 0 0)] [0,1,4,5] [(2,some (.box 179 [iV .i64 0,.none0]))] [0,1,2] ?_
 obtain⟨t5369,e5370,H⟩:=Z4 H
 refine sR hP hn hm [(2,.call [(0,0)] [(0,0)] [] [] 1 (iV .i64 t5369.1) [(0,some (.box 158 (Z3 ⟨a0_c0,t5369.2.1,t5369.2.2⟩)))])] [(6,iV .i64 t5369.1)] [0,1,4,5,6] [(0,some (.box 158 (Z3 ⟨a0_c0,t5369.2.1,t5369.2.2⟩)))] [0,1,2] [_,_] ⟨Tryz.call43,Zh.ok a0_c0 a0_c1 a0_c2 a1 t5369 e5370,trivial⟩ ?_
 refine AWp.seq ?_
 refine sO hP hn hm [] [(14,bV (decide (t5369.1>(0:Int))))] [0,1,4,5,6,14] [] [0,1,2] ?_
 obtain⟨o5489,e5490,H⟩:=Z4 H
 refine AWp.mono (Q:=fun e s=>(match (generalizing:=false) o5489 with | (x5382,x5383,x5384,x5385)=>e = .normal∧s=⟨[(0,.ptr 0 0 0),(1,iV .i64 a1),(4,.ptr 7 0 0),(5,.ptr 8 0 0),(6,iV .i64 x5385)],[(0,some (.box 158 (Z3 ⟨a0_c0,x5382,x5383⟩))),(7,some (.box 179 [iV .i64 0,.none0])),(8,some (.box 179 [iV .i64 x5384,.none0]))],1⟩)) (AWp.cv ?_) ?_
 ·replace H:=e5490;clear e5490
  refine AWp.cond (decide (t5369.1>(0:Int))) (by kernel_rfl) (fun c5371 => ?_) (fun c5371 => ?_)
  ·replace H:=iT c5371 H
   obtain⟨t5374,e5375,H⟩:=Z4 H
   refine sR hP hn hm [(1,.call [(0,0)] [(0,0)] [] [] 1 (iV .i64 t5374.1) [(0,some (.box 158 (Z3 ⟨a0_c0,t5374.2.1,t5374.2.2⟩)))])] [(7,iV .i64 t5374.1)] [0,1,4,5,6,7] [(0,some (.box 158 (Z3 ⟨a0_c0,t5374.2.1,t5374.2.2⟩)))] [0,1,2] [_,_] ⟨Tryz.call115,Z0p.ok a0_c0 t5369.2.1 t5369.2.2 t5374 e5375,trivial⟩ ?_
   refine AWp.seq ?_
   obtain⟨o5491,e5492,H⟩:=Z4 H
   refine AWp.mono (Q:=fun e s=>(match (generalizing:=false) o5491 with | x5378=>e = .normal∧s=⟨[(0,.ptr 0 0 0),(1,iV .i64 a1),(4,.ptr 3 0 0),(5,.ptr 4 0 0),(6,iV .i64 t5369.1),(7,iV .i64 t5374.1),(22,bV x5378)],[(0,some (.box 158 (Z3 ⟨a0_c0,t5374.2.1,t5374.2.2⟩))),(3,some (.box 179 [iV .i64 0,.none0])),(4,some (.box 179 [iV .i64 0,.none0]))],1⟩)) (AWp.cv ?_) ?_
   ·replace H:=e5492;clear e5492
    rcases Bool.eq_false_or_eq_true (decide (t5374.1≥(-262144))) with c5377 | c5377
    ·replace H:=iT c5377 H
     refine rG hP hn hm [(2,.b true)] [(22,bV (decide (t5374.1≤(262144:Int))))] [0,1,4,5,6,7,22] [] [0,1,2] [_] ⟨c5377,trivial⟩ ?_
     obtain rfl:=sj H
     exact lf [(0,0),(1,3),(2,4)] [] [] (by kernel_rfl) ⟨rfl,rfl⟩
    ·replace H:=iF c5377 H
     refine rG hP hn hm [(2,.b false)] [(22,bV false)] [0,1,4,5,6,7,22] [] [0,1,2] [_] ⟨c5377,trivial⟩ ?_
     obtain rfl:=sj H
     exact lf [(0,0),(1,3),(2,4)] [] [] (by kernel_rfl) ⟨rfl,rfl⟩
   ·obtain⟨x5378,rfl⟩:∃ z,z=o5491:=⟨_,rfl⟩
    rintro e s ⟨rfl,rfl⟩
    obtain⟨o5493,e5494,H⟩:=Z4 H
    refine AWp.mono (Q:=fun e s=>(match (generalizing:=false) o5493 with | (x5380,x5381)=>e = .normal∧s=⟨[(0,.ptr 0 0 0),(1,iV .i64 a1),(4,.ptr 5 0 0),(5,.ptr 6 0 0),(6,iV .i64 x5381)],[(0,some (.box 158 (Z3 ⟨a0_c0,t5374.2.1,t5374.2.2⟩))),(5,some (.box 179 [iV .i64 0,.none0])),(6,some (.box 179 [iV .i64 x5380,.none0]))],1⟩)) (AWp.cv ?_) ?_
    ·replace H:=e5494;clear e5494
     refine AWp.cond x5378 (by kernel_rfl) (fun c5379 => ?_) (fun c5379 => ?_)
     ·replace H:=iT c5379 H
      refine rO hP hn hm [] [] [0,1,4,5,6] [(4,some (.box 179 [iV .i64 t5374.1,.none0]))] [0,3,4] ?_
      obtain rfl:=sj H
      exact lf [(0,0),(3,5),(4,6)] [] [] (by kernel_rfl) ⟨rfl,rfl⟩
     ·replace H:=iF c5379 H
      refine rO hP hn hm [] [(6,iV .i64 (-1))] [0,1,4,5,6] [] [0,3,4] ?_
      obtain rfl:=sj H
      exact lf [(0,0),(3,5),(4,6)] [] [] (by kernel_rfl) ⟨rfl,rfl⟩
    ·obtain⟨x5380,x5381⟩:=o5493
     rintro e s ⟨rfl,rfl⟩
     obtain rfl:=sj H
     exact lf [(0,0),(5,7),(6,8)] [] [] (by kernel_rfl) ⟨rfl,rfl⟩
  ·replace H:=iF c5371 H
   refine AWp.skip ?_
   obtain rfl:=sj H
   exact lf [(0,0),(1,7),(2,8)] [] [] (by kernel_rfl) ⟨rfl,rfl⟩
 ·obtain⟨x5382,x5383,x5384,x5385⟩:=o5489
  rintro e s ⟨rfl,rfl⟩
  refine AWp.seq ?_
  refine sO hP hn hm [] [(8,iV .i64 0)] [0,1,4,5,6,8] [] [0,7,8] ?_
  refine AWp.block ?_
  obtain⟨o5495,e5496,H⟩:=Z4 H
  refine AWp.loop (LWp.conv (inv:=[(0,0),(7,14),(8,15)]) (vk:=[]) (e0:=[16]) (t:=⟨[(0,.ptr 0 0 0),(1,iV .i64 a1),(4,.ptr 14 0 0),(5,.ptr 15 0 0),(6,iV .i64 x5385),(8,iV .i64 0)],[(0,some (.box 158 (Z3 ⟨a0_c0,x5382,x5383⟩))),(14,some (.box 179 [iV .i64 0,.none0])),(15,some (.box 179 [iV .i64 x5384,.own 16])),(16,some (.row 2 210 ([].map Z0q)))],1⟩) (by kernel_rfl) ?_)
  refine LWp.mono (Q:=fun e s=>(match (generalizing:=false) o5495 with | (x5426,x5427,x5428)=>e = .exit 0∧s=⟨[(0,.ptr 0 0 0),(1,iV .i64 a1),(4,.ptr 27 0 0),(5,.ptr 28 0 0),(6,iV .i64 x5385)],[(0,some (.box 158 (Z3 ⟨a0_c0,x5426,x5427⟩))),(27,some (.box 179 [iV .i64 0,.none0])),(28,some (.box 179 [iV .i64 x5384,.own 29])),(29,some (.row 2 210 (x5428.map Z0q)))],1⟩)) (LWp.cv (Zs (fun body hbody => ?_))) ?_
  ·refine             Z1s.l0.partial_correctness a0_c0 a1 x5384 x5385 (motive:=fun x5400 x5401 x5402 x5403 o5495=>LWp Γ body (fun e s=>∃ t,Cv Γ s t∧(match (generalizing:=false) o5495 with | (x5426,x5427,x5428)=>e = .exit 0∧t=⟨[(0,.ptr 0 0 0),(1,iV .i64 a1),(4,.ptr 27 0 0),(5,.ptr 28 0 0),(6,iV .i64 x5385)],[(0,some (.box 158 (Z3           ⟨a0_c0,x5426,x5427⟩))),(27,some (.box 179 [iV .i64 0,.none0])),(28,some (.box 179 [iV .i64 x5384,.own 29])),(29,some (.row 2 210 (x5428.map Z0q  )))],1⟩)) ⟨[(0,.ptr 0 0 0),(1,iV .i64 a1),(4,.ptr 14 0 0),(5,.ptr 15 0 0),(6,iV .i64 x5385),(8,iV .i64 x5403)],[(0,some (.box 158 (Z3           ⟨a0_c0,x5400,x5401⟩))),(14,some (.box 179 [iV .i64 0,.none0])),(15,some (.box 179 [iV .i64 x5384,.own 16])),(16,some (.row 2 210 (x5402.map Z0q  )))],1⟩) ?_ _ _ _ _ _ e5496
   clear H e5496 o5495;intro self ih x5400 x5401 x5402 x5403 o5495 H
   subst hbody
   refine LWp.round ?_
   refine AWp.seq ?_
   refine AWp.seq ?_
   obtain⟨o5497,e5498,H⟩:=Z4 H
   refine AWp.mono (Q:=fun e s=>(match (generalizing:=false) o5497 with | x5410=>e = .normal∧s=⟨[(0,.ptr 0 0 0),(1,iV .i64 a1),(4,.ptr 17 0 0),(5,.ptr 18 0 0),(6,iV .i64 x5385),(8,iV .i64 x5403),(32,bV x5410)],[(0,some (.box 158 (Z3 ⟨a0_c0,x5400,x5401⟩))),(17,some (.box 179 [iV .i64 0,.none0])),(18,some (.box 179 [iV .i64 x5384,.own 19])),(19,some (.row 2 210 (x5402.map Z0q)))],1⟩)) (AWp.cv ?_) ?_
   ·replace H:=e5498;clear e5498
    rcases Bool.eq_false_or_eq_true (decide (x5403<x5385)) with c5407 | c5407
    ·replace H:=iT c5407 H
     obtain⟨t5408,e5409,H⟩:=Z4 H
     refine rG hP hn hm [(3,.b true),(5,.call [(0,0)] [(0,0)] [] [] 1 (iV .i64 x5401) [(0,some (.box 158 (Z3 ⟨a0_c0,x5400,x5401⟩)))])] [(29,.ptr 0 0 0),(30,iV .i64 x5401),(31,bV (x5401==(0:Int))),(32,bV (x5401==(0:Int)))] [0,1,4,5,6,8,29,30,31,32] [] [0,14,15,16] [_,_,_] ⟨c5407,Tryz.call44,Z00.ok a0_c0 x5400 x5401 t5408 e5409,trivial⟩ ?_
     obtain rfl:=sj H
     exact lf [(0,0),(14,17),(15,18),(16,19)] [] [] (by kernel_rfl) ⟨rfl,rfl⟩
    ·replace H:=iF c5407 H
     refine rG hP hn hm [(3,.b false)] [(32,bV false)] [0,1,4,5,6,8,32] [] [0,14,15,16] [_] ⟨c5407,trivial⟩ ?_
     obtain rfl:=sj H
     exact lf [(0,0),(14,17),(15,18),(16,19)] [] [] (by kernel_rfl) ⟨rfl,rfl⟩
   ·obtain⟨x5410,rfl⟩:∃ z,z=o5497:=⟨_,rfl⟩
    rintro e s ⟨rfl,rfl⟩
    refine AWp.cond x5410 (by kernel_rfl) (fun c5411 => ?_) (fun c5411 => ?_)
    ·replace H:=iT c5411 H
     refine AWp.skip ?_
     refine AWp.seq ?_
     refine AWp.block ?_
     refine sO hP hn hm [(1,.k 20)] [(9,.ptr 20 0 0)] [0,1,4,5,6,8,9] [(20,some (.box 210 (aSpan ⟨0,0⟩)))] [0,17,18,19,20] ?_
     refine AWp.seq ?_
     refine sO hP hn hm [] [(37,bV (decide (x5403>(0:Int))))] [0,1,4,5,6,8,9,37] [] [0,17,18,19,20] ?_
     obtain⟨o5499,e5500,H⟩:=Z4 H
     refine AWp.mono (Q:=fun e s=>(match (generalizing:=false) o5499 with | (x5417,x5418,x5419)=>e = .normal∧s=⟨[(0,.ptr 0 0 0),(1,iV .i64 a1),(4,.ptr 21 0 0),(5,.ptr 22 0 0),(6,iV .i64 x5385),(8,iV .i64 x5403),(9,.ptr 24 0 0)],[(0,some (.box 158 (Z3 ⟨a0_c0,x5417,x5418⟩))),(21,some (.box 179 [iV .i64 0,.none0])),(22,some (.box 179 [iV .i64 x5384,.own 23])),(23,some (.row 2 210 (x5402.map Z0q))),(24,some (.box 210 (aSpan ⟨x5419,0⟩)))],1⟩)) (AWp.cv ?_) ?_
     ·replace H:=e5500;clear e5500
      refine AWp.cond (decide (x5403>(0:Int))) (by kernel_rfl) (fun c5412 => ?_) (fun c5412 => ?_)
      ·replace H:=iT c5412 H
       obtain⟨t5415,e5416,H⟩:=Z4 H
       refine rG hP hn hm [(1,.call [(0,0)] [(0,0)] [] [] 1 (iV .i64 t5415.1) [(0,some (.box 158 (Z3 ⟨a0_c0,t5415.2.1,t5415.2.2⟩)))])] [] [0,1,4,5,6,8,9] [(0,some (.box 158 (Z3 ⟨a0_c0,t5415.2.1,t5415.2.2⟩))),(20,some (.box 210 (aSpan ⟨(i64.wrap ((1:Int)+t5415.1)),0⟩)))] [0,17,18,19,20] [_,_] ⟨Tryz.call43,Zh.ok a0_c0 x5400 x5401 524287 t5415 e5416,trivial⟩ ?_
       obtain rfl:=sj H
       exact lf [(0,0),(17,21),(18,22),(19,23),(20,24)] [] [] (by kernel_rfl) ⟨rfl,rfl⟩
      ·replace H:=iF c5412 H
       refine AWp.skip ?_
       obtain rfl:=sj H
       exact lf [(0,0),(17,21),(18,22),(19,23),(20,24)] [] [] (by kernel_rfl) ⟨rfl,rfl⟩
     ·obtain⟨x5417,x5418,x5419⟩:=o5499
      rintro e s ⟨rfl,rfl⟩
      obtain⟨t5422,e5423,H⟩:=Z4 H
      refine sR hP hn hm [(3,.call [(0,0)] [(0,0)] [] [] 1 (iV .i64 t5422.1) [(0,some (.box 158 (Z3 ⟨a0_c0,t5422.2.1,t5422.2.2⟩)))])] [] [0,1,4,5,6,8,9] [(0,some (.box 158 (Z3 ⟨a0_c0,t5422.2.1,t5422.2.2⟩))),(24,some (.box 210 (aSpan ⟨x5419,(i64.wrap ((1:Int)+t5422.1))⟩)))] [0,21,22,23,24] [_,_] ⟨Tryz.call43,Zh.ok a0_c0 x5417 x5418 (i64.wrap (a1-(1:Int))) t5422 e5423,trivial⟩ ?_
      obtain⟨c5425,H⟩:=Z10 H
      refine rG hP hn hm [(3,.app 25 ([(⟨x5419,i64.wrap ((1:Int)+t5422.1)⟩:Z38)].map Z0q)),(4,.app 26 ((x5402++[(⟨x5419,i64.wrap ((1:Int)+t5422.1)⟩:Z38)]).map Z0q))] [] [0,1,4,5,6,8] [(22,some (.box 179 [iV .i64 x5384,.own 26])),(26,some (.row 2 210 ((x5402++[(⟨x5419,i64.wrap ((1:Int)+t5422.1)⟩:Z38)]).map Z0q)))] [0,21,22,26] [[(⟨x5419,i64.wrap ((1:Int)+t5422.1)⟩:Z38)].map Z0q=[[iI .i64 x5419,iI .i64 (i64.wrap ((1:Int)+t5422.1))]],(x5402++[(⟨x5419,i64.wrap ((1:Int)+t5422.1)⟩:Z38)]).map Z0q=(x5402.map Z0q)++([(⟨x5419,i64.wrap ((1:Int)+t5422.1)⟩:Z38)].map Z0q),∀ c∈([(⟨x5419,i64.wrap ((1:Int)+t5422.1)⟩:Z38)].map Z0q),c.length=2,∀ c∈([(⟨x5419,i64.wrap ((1:Int)+t5422.1)⟩:Z38)].map Z0q),Z16 (c.map .im)=true,((x5402.map Z0q).length+([(⟨x5419,i64.wrap ((1:Int)+t5422.1)⟩:Z38)].map Z0q).length)*16≤140737488355328] ⟨by exact rfl,by simp,by exact Z12 _ _ _ (fun _=>rfl),by exact Z14 _ _ (fun _=>rfl),by simpa using c5425,trivial⟩ ?_
      refine rO hP hn hm [] [(8,iV .i64 (i64.wrap (x5403+(1:Int))))] [0,1,4,5,6,8] [] [0,21,22,26] ?_
      exact LWp.conv [(0,0),(21,14),(22,15),(26,16)] [] [] (by kernel_rfl) (ih _ _ _ _ _ H)
    ·replace H:=iF c5411 H
     refine AWp.exit ?_
     obtain rfl:=sj H
     exact lf [(0,0),(17,27),(18,28),(19,29)] [] [] (by kernel_rfl) ⟨rfl,rfl⟩
  ·obtain⟨x5426,x5427,x5428⟩:=o5495
   rintro e s ⟨rfl,rfl⟩
   refine AWp.seq ?_
   refine AWp.seq ?_
   obtain⟨o5501,e5502,H⟩:=Z4 H
   refine AWp.mono (Q:=fun e s=>(match (generalizing:=false) o5501 with | x5487=>e = .normal∧s=⟨[(4,.ptr 30 0 0),(5,.ptr 31 0 0),(66,bV x5487)],[(0,some (.box 158 (Z3 ⟨a0_c0,x5426,x5427⟩))),(30,some (.box 179 [iV .i64 0,.none0])),(31,some (.box 179 [iV .i64 x5384,.own 32])),(32,some (.row 2 210 (x5428.map Z0q)))],1⟩)) (AWp.cv ?_) ?_
   ·replace H:=e5502;clear e5502
    obtain⟨t5481,e5482,H⟩:=Z4 H
    rcases Bool.eq_false_or_eq_true (x5427 != (0:Int)) with c5483 | c5483
    ·replace H:=iT c5483 H
     refine rG hP hn hm [(1,.call [(0,0)] [(0,0)] [] [] 1 (iV .i64 x5427) [(0,some (.box 158 (Z3 ⟨a0_c0,x5426,x5427⟩)))]),(3,.b true)] [(66,bV true)] [4,5,66] [] [0,27,28,29] [_,_,_] ⟨Tryz.call44,Z00.ok a0_c0 x5426 x5427 t5481 e5482,c5483,trivial⟩ ?_
     obtain rfl:=sj H
     exact lf [(27,30),(28,31),(29,32),(0,0)] [] [] (by kernel_rfl) ⟨rfl,rfl⟩
    ·replace H:=iF c5483 H
     rcases Bool.eq_false_or_eq_true (decide (x5385<(0:Int))) with c5484 | c5484
     ·replace H:=iT c5484 H
      refine rG hP hn hm [(1,.call [(0,0)] [(0,0)] [] [] 1 (iV .i64 x5427) [(0,some (.box 158 (Z3 ⟨a0_c0,x5426,x5427⟩)))]),(3,.b false),(7,.b true)] [(66,bV true)] [4,5,66] [] [0,27,28,29] [_,_,_,_] ⟨Tryz.call44,Z00.ok a0_c0 x5426 x5427 t5481 e5482,c5483,c5484,trivial⟩ ?_
      obtain rfl:=sj H
      exact lf [(27,30),(28,31),(29,32),(0,0)] [] [] (by kernel_rfl) ⟨rfl,rfl⟩
     ·replace H:=iF c5484 H
      obtain⟨t5485,e5486,H⟩:=Z4 H
      refine rG hP hn hm [(1,.call [(0,0)] [(0,0)] [] [] 1 (iV .i64 x5427) [(0,some (.box 158 (Z3 ⟨a0_c0,x5426,x5427⟩)))]),(3,.b false),(7,.b false),(10,.call [] [] [29] [] 0 (bV t5485) [])] [(66,bV (!t5485))] [4,5,66] [] [0,27,28,29] [_,_,_,_,_,_] ⟨Tryz.call44,Z00.ok a0_c0 x5426 x5427 t5481 e5482,c5483,c5484,Tryz.call151,Z3a.ok (⟨x5384,x5428⟩:Zm) a1 t5485 e5486,trivial⟩ ?_
      obtain rfl:=sj H
      exact lf [(27,30),(28,31),(29,32),(0,0)] [] [] (by kernel_rfl) ⟨rfl,rfl⟩
   ·obtain⟨x5487,rfl⟩:∃ z,z=o5501:=⟨_,rfl⟩
    rintro e s ⟨rfl,rfl⟩
    refine AWp.cond x5487 (by kernel_rfl) (fun c5488 => ?_) (fun c5488 => ?_)
    ·replace H:=iT c5488 H
     refine sO hP hn hm [] [] [4] [] [0,30] ?_
     refine AWp.conv (inv:=[(0,0),(30,2)]) (vk:=[]) (e0:=[1]) (t:=⟨[(4,.ptr 2 0 0)],[(0,some (.box 158 (Z3 ⟨a0_c0,x5426,x5427⟩))),(1,some (.row 2 210 ((((⟨0,[]⟩:Zm)).f1).map Z0q))),(2,some (.box 179 [iV .i64 (((⟨0,[]⟩:Zm)).f0),.own 1]))],1⟩) (by kernel_rfl) ?_
     refine AWp.ret ?_
     obtain rfl:=sj H
     exact rl (.inl rfl) rfl (by kernel_rfl) (by kernel_rfl)
    ·replace H:=iF c5488 H
     refine AWp.skip ?_
     refine sO hP hn hm [] [] [4] [(30,some (.box 179 [iV .i64 x5384,.own 32]))] [0,30,32] ?_
     refine AWp.conv (inv:=[(0,0),(30,2),(32,1)]) (vk:=[]) (e0:=[]) (t:=⟨[(4,.ptr 2 0 0)],[(0,some (.box 158 (Z3 ⟨a0_c0,x5426,x5427⟩))),(1,some (.row 2 210 ((((⟨x5384,x5428⟩:Zm)).f1).map Z0q))),(2,some (.box 179 [iV .i64 (((⟨x5384,x5428⟩:Zm)).f0),.own 1]))],1⟩) (by kernel_rfl) ?_
     refine AWp.ret ?_
     obtain rfl:=sj H
     exact rl (.inl rfl) rfl (by kernel_rfl) (by kernel_rfl)
end Go.Proofs.YtinhldbfifpakaaGreat.PvGL
