import Derived.Test.YtlclecehlekjoaaGreatProg
import Derived.Test.YtlclecehlekjoaaGreatPxChunkDecodes09
set_option linter.unusedVariables false
set_option linter.unnecessarySimpa false
set_option linter.unusedSimpArgs false
set_option maxRecDepth 10000
namespace Go.Proofs.YtlclecehlekjoaaGreat.PvGK
open Go Go.Pv Go.IntKind
def Zz.l1 (a0:List Zf) (t4859:List Int) (t4861:List Int) (t5285:List Int) (x5275:Int) (x5313:ByteArray) (x5314:Int):Option (ByteArray):=if(decide (x5314<(t5285.length:Int)))=true then((at? t5285 x5314)>>=fun b5322=>(Z0b.f b5322)>>=fun t5325=>(chk (((x5313.size+t5325.size:Nat):Int)≤9223372036854775807))>>=fun _=>Zz.l1 a0 t4859 t4861 t5285 x5275 (x5313++t5325) (i64.wrap (x5314+(1:Int)))) else(some x5313)
partial_fixpoint
def Zz.l2 (a0:List Zf) (t4859:List Int) (t4861:List Int) (t5285:List Int) (t5337:List Int) (x5275:Int) (x5377:ByteArray) (x5378:Int):Option (ByteArray):=if(decide (x5378<(t5285.length:Int)))=true then((at? t5285 x5378)>>=fun b5389=>(at? t5337 x5378)>>=fun b5392=>(Z30.f (i64.wrap (u64.wrap (b5389-b5392))))>>=fun t5395=>(chk (((x5377.size+t5395.size:Nat):Int)≤9223372036854775807))>>=fun _=>Zz.l2 a0 t4859 t4861 t5285 t5337 x5275 (x5377++t5395) (i64.wrap (x5378+(1:Int)))) else(some x5377)
partial_fixpoint
def Zz.l3 (a0:List Zf) (t4859:List Int) (t4861:List Int) (t5285:List Int) (t5337:List Int) (t5407:List Int) (x5275:Int) (x5440:ByteArray) (x5441:Int):Option (ByteArray):=if(decide (x5441<(t5285.length:Int)))=true then((at? t5285 x5441)>>=fun b5455=>(at? t5337 x5441)>>=fun b5458=>(at? t5407 x5441)>>=fun b5461=>(Z30.f (i64.wrap (u64.wrap ((u64.wrap (b5455-(u64.wrap ((2:Int)*b5458))))+b5461))))>>=fun t5464=>(chk (((x5440.size+t5464.size:Nat):Int)≤9223372036854775807))>>=fun _=>Zz.l3 a0 t4859 t4861 t5285 t5337 t5407 x5275 (x5440++t5464) (i64.wrap (x5441+(1:Int)))) else(some x5440)
partial_fixpoint
def Zz.l0 (a0:List Zf) (t4859:List Int) (t4861:List Int) (x5274:ByteArray) (x5275:Int):Option (ByteArray):=if(decide (x5275<(a0.length:Int)))=true then((((at? a0 x5275)>>=fun b5282=>(Z0a.f b5282.f1 t4859 t4861)>>=fun t5285=>if(x5275==(0:Int))=true then((at? a0 0)>>=fun b5294=>(Z0b.f (u64.wrap (b5294.f0)))>>=fun t5297=>(chk (((x5274.size+t5297.size:Nat):Int)≤9223372036854775807))>>=fun _=>(Zz.l1 a0 t4859 t4861 t5285 x5275 (x5274++t5297) 0)>>=fun x5328=>some x5328) else((at? a0 (i64.wrap (x5275-(1:Int))))>>=fun b5334=>(Z0a.f b5334.f1 t4859 t4861)>>=fun t5337=>if(x5275==(1:Int))=true then((at? a0 1)>>=fun b5349=>(at? a0 0)>>=fun b5352=>(Z0b.f (u64.wrap (i64.wrap ((i64.wrap (b5349.f0-b5352.f0))-(1:Int)))))>>=fun t5355=>(chk (((x5274.size+t5355.size:Nat):Int)≤9223372036854775807))>>=fun _=>(Zz.l2 a0 t4859 t4861 t5285 t5337 x5275 (x5274++t5355) 0)>>=fun x5398=>some x5398) else((at? a0 (i64.wrap (x5275-(2:Int))))>>=fun b5404=>(Z0a.f b5404.f1 t4859 t4861)>>=fun t5407=>(Z30.f (i64.wrap ((i64.wrap (b5282.f0-(i64.wrap ((2:Int)*b5334.f0))))+b5404.f0)))>>=fun t5412=>(chk (((x5274.size+t5412.size:Nat):Int)≤9223372036854775807))>>=fun _=>(Zz.l3 a0 t4859 t4861 t5285 t5337 t5407 x5275 (x5274++t5412) 0)>>=fun x5467=>some x5467))):Option (ByteArray))>>=fun x5468=>Zz.l0 a0 t4859 t4861 x5468 (i64.wrap (x5275+(1:Int)))) else(some x5274)
partial_fixpoint
def Zz.f (a0:List Zf):Option (List Int):=(at? a0 0)>>=fun b4852=>(Z0n.f a0 0)>>=fun t4859=>(Z0n.f a0 1)>>=fun t4861=>(Z20.f (u64.wrap (b4852.f1.f0)) 1)>>=fun t4968=>(Z20.f (u64.wrap (i64.wrap (b4852.f1.f1+(4:Int)))) 4)>>=fun t4970=>(chk (((t4968.size+t4970.size:Nat):Int)≤9223372036854775807))>>=fun _=>(Z30.f b4852.f1.f2)>>=fun t4973=>(chk ((((t4968++t4970).size+t4973.size:Nat):Int)≤9223372036854775807))>>=fun _=>(Z1w.f t4859)>>=fun t5084=>(Z2q.f t5084.1 t5084.2)>>=fun t5147=>(chk (((((t4968++t4970)++t4973).size+t5147.size:Nat):Int)≤9223372036854775807))>>=fun _=>(Z1w.f t4861)>>=fun t5152=>(Z2q.f t5152.1 t5152.2)>>=fun t5160=>(chk ((((((t4968++t4970)++t4973)++t5147).size+t5160.size:Nat):Int)≤9223372036854775807))>>=fun _=>(Z0b.f (u64.wrap (i64.wrap ((a0.length:Int)-(1:Int)))))>>=fun t5163=>(chk (((((((t4968++t4970)++t4973)++t5147)++t5160).size+t5163.size:Nat):Int)≤9223372036854775807))>>=fun _=>(Zz.l0 a0 t4859 t4861 (((((t4968++t4970)++t4973)++t5147)++t5160)++t5163) 0)>>=fun x5469=>(Z18.f x5469)>>=fun t5523=>some t5523
theorem Zz.ok (a0:List Zf) (r:List Int) (H:Zz.f a0=some r):Pv.Fn Tryz.prog 12 [.im (.row (a0.map Z7))] [] 0 (fun x o=>x = .own 0∧o=[(0,some (.row 1 5 (r.map (Z1 .u8))))]):=by
 unfold Zz.f at H
 refine Fn.bodyK [0] Tryz.func12 rfl rfl (fun Γ hP hn => ?_)
 have hm:Tryz.prog.follows .mixedOrders=true:=by kernel_rfl
 replace hn:Γ.n=204:=hn
 refine sO hP hn hm [] [] [0] [] [] ?_
 obtain⟨b4852,p4853,q4854,H⟩:=Z06 H
 refine sR hP hn hm [(1,.c (Z7 b4852)),(4,.k 0)] [(3,.ptr 0 0 0)] [0,3] [(0,some (.box 39 (Zl b4852.f1)))] [0] [_,_] ⟨p4853,Zi Z7 q4854,trivial⟩ ?_
 obtain⟨t4859,e4860,H⟩:=Z3 H
 obtain⟨t4861,e4862,H⟩:=Z3 H
 refine sR hP hn hm [(1,.call [] [(0,1)] [] [1] 0 (.own 0) [(0,some (.row 1 3 (t4859.map (Z1 .i64))))]),(3,.call [] [(0,2)] [] [2] 0 (.own 0) [(0,some (.row 1 3 (t4861.map (Z1 .i64))))])] [(4,.own 1),(5,.own 2)] [0,3,4,5] [(1,some (.row 1 3 (t4859.map (Z1 .i64)))),(2,some (.row 1 3 (t4861.map (Z1 .i64))))] [0,1,2] [_,_,_,_] ⟨Tryz.call36,Z0n.ok a0 0 t4859 e4860,Tryz.call36,Z0n.ok a0 1 t4861 e4862,trivial⟩ ?_
 obtain⟨t4968,e4969,H⟩:=Z3 H
 obtain⟨t4970,e4971,H⟩:=Z3 H
 obtain⟨c4972,H⟩:=Z0f H
 obtain⟨t4973,e4974,H⟩:=Z3 H
 obtain⟨c4975,H⟩:=Z0f H
 refine sR hP hn hm [(3,.call [] [] [] [] 0 (sV t4968) []),(8,.call [] [] [] [] 0 (sV t4970) []),(12,.call [] [] [] [] 0 (sV t4973) [])] [(6,sV ((t4968++t4970)++t4973))] [0,4,5,6] [] [1,2] [_,_,_,_,_,_,_,_] ⟨Tryz.call37,Z20.ok (u64.wrap (b4852.f1.f0)) 1 t4968 e4969,Tryz.call37,Z20.ok (u64.wrap (i64.wrap (b4852.f1.f1+(4:Int)))) 4 t4970 e4971,c4972,Tryz.call38,Z30.ok b4852.f1.f2 t4973 e4974,c4975,trivial⟩ ?_
 obtain⟨t5084,e5085,H⟩:=Z3 H
 refine sR hP hn hm [(1,.more (Z3j [] [(0,3)] [1] [3] 0 (.tup [iV .i64 t5084.1,.own 0]) [(0,some (.row 2 99 (t5084.2.map Zy)))]))] [(7,iV .i64 t5084.1),(8,.own 3)] [0,4,5,6,7,8] [(3,some (.row 2 99 (t5084.2.map Zy)))] [1,2,3] [_,_,∀ c∈t5084.2.map Zy,∀ x∈c,∃ v,x=Im.sc v] ⟨Tryz.call39,Z1w.ok t4859 t5084 e5085,by exact Z3i _ _ (fun _=>by simp),trivial⟩ ?_
 obtain⟨t5147,e5148,H⟩:=Z3 H
 obtain⟨c5149,H⟩:=Z0f H
 refine sR hP hn hm [(3,.call [] [] [3] [] 0 (sV t5147) [])] [(6,sV (((t4968++t4970)++t4973)++t5147))] [0,4,5,6] [] [1,2] [_,_,_] ⟨Tryz.call40,Z2q.ok t5084.1 t5084.2 t5147 e5148,c5149,trivial⟩ ?_
 obtain⟨t5152,e5153,H⟩:=Z3 H
 refine sR hP hn hm [(1,.more (Z3j [] [(0,4)] [2] [4] 0 (.tup [iV .i64 t5152.1,.own 0]) [(0,some (.row 2 99 (t5152.2.map Zy)))]))] [(7,iV .i64 t5152.1),(8,.own 4)] [0,4,5,6,7,8] [(4,some (.row 2 99 (t5152.2.map Zy)))] [1,2,4] [_,_,∀ c∈t5152.2.map Zy,∀ x∈c,∃ v,x=Im.sc v] ⟨Tryz.call39,Z1w.ok t4861 t5152 e5153,by exact Z3i _ _ (fun _=>by simp),trivial⟩ ?_
 obtain⟨t5160,e5161,H⟩:=Z3 H
 obtain⟨c5162,H⟩:=Z0f H
 obtain⟨t5163,e5164,H⟩:=Z3 H
 obtain⟨c5165,H⟩:=Z0f H
 refine sR hP hn hm [(3,.call [] [] [4] [] 0 (sV t5160) []),(6,.any (iV .i64 (a0.length:Int))),(9,.call [] [] [] [] 0 (sV t5163) [])] [(6,sV (((((t4968++t4970)++t4973)++t5147)++t5160)++t5163))] [0,4,5,6] [] [1,2] [_,_,_,((a0.map Z7).length:Int)=(a0.length:Int),_,_,_] ⟨Tryz.call40,Z2q.ok t5152.1 t5152.2 t5160 e5161,c5162,by rw[Zn],Tryz.call41,Z0b.ok (u64.wrap (i64.wrap ((a0.length:Int)-(1:Int)))) t5163 e5164,c5165,trivial⟩ ?_
 refine AWp.seq ?_
 refine sO hP hn hm [] [(9,iV .i64 0)] [0,4,5,6,9] [] [1,2] ?_
 refine AWp.block ?_
 obtain⟨o5525,e5526,H⟩:=Z3 H
 refine AWp.loop (LWp.conv (inv:=[(1,11),(2,12)]) (vk:=[]) (e0:=[]) (t:=⟨[(0,.im (.row (a0.map Z7))),(4,.own 11),(5,.own 12),(6,sV (((((t4968++t4970)++t4973)++t5147)++t5160)++t5163)),(9,iV .i64 0)],[(11,some (.row 1 3 (t4859.map (Z1 .i64)))),(12,some (.row 1 3 (t4861.map (Z1 .i64))))],0⟩) (by kernel_rfl) ?_)
 refine LWp.mono (Q:=fun e s=>(match (generalizing:=false) o5525 with | x5469=>e = .exit 0∧s=⟨[(6,sV x5469)],[],0⟩)) (LWp.cv (Zp (fun body hbody => ?_))) ?_
 ·refine           Zz.l0.partial_correctness a0 t4859 t4861 (motive:=fun x5274 x5275 o5525=>LWp Γ body (fun e s=>∃ t,Cv Γ s t∧(match (generalizing:=false) o5525 with | x5469=>e = .exit 0∧t=⟨[(6,sV x5469)],[],0⟩)) ⟨[(0,.im (.row (a0.map Z7     ))),(4,.own 11),(5,.own 12),(6,sV x5274),(9,iV .i64 x5275)],[(11,some (.row 1 3 (t4859.map (Z1     .i64)))),(12,some (.row 1 3 (t4861.map (Z1     .i64))))],0⟩) ?_ _ _ _ e5526
  clear H e5526 o5525;intro self ih x5274 x5275 o5525 H
  subst hbody
  refine LWp.round ?_
  refine AWp.seq ?_
  refine sR hP hn hm [(2,.any (iV .i64 (a0.length:Int)))] [(67,bV (decide (x5275<(a0.length:Int))))] [0,4,5,6,9,67] [] [11,12] [((a0.map Z7).length:Int)=(a0.length:Int)] ⟨by rw[Zn],trivial⟩ ?_
  refine AWp.cond (decide (x5275<(a0.length:Int))) (by kernel_rfl) (fun c5276 => ?_) (fun c5276 => ?_)
  ·replace H:=iT c5276 H
   refine AWp.skip ?_
   refine AWp.seq ?_
   obtain⟨o5527,e5528,H⟩:=Z3 H
   refine AWp.mono (Q:=fun e s=>(match (generalizing:=false) o5527 with | x5468=>e = .normal∧s=⟨[(0,.im (.row (a0.map Z7))),(4,.own 34),(5,.own 35),(6,sV x5468),(9,iV .i64 x5275)],[(34,some (.row 1 3 (t4859.map (Z1 .i64)))),(35,some (.row 1 3 (t4861.map (Z1 .i64))))],0⟩)) (AWp.cv ?_) ?_
   ·replace H:=e5528;clear e5528
    refine AWp.block ?_
    obtain⟨b5282,p5283,q5284,H⟩:=Z06 H
    obtain⟨t5285,e5286,H⟩:=Z3 H
    refine sR hP hn hm [(2,.c (Z7 b5282)),(7,.more (Z3j [] [(0,13)] [11,12] [13] 0 (.own 0) [(0,some (.row 1 36 (t5285.map (Z1 .u64))))]))] [(10,.own 13)] [0,4,5,6,9,10] [(13,some (.row 1 36 (t5285.map (Z1 .u64))))] [11,12,13] [_,_,_,_,∀ c∈t5285.map (Z1 .u64),∀ x∈c,∃ v,x=Im.sc v] ⟨p5283,Zi Z7 q5284,Tryz.call42,Z0a.ok b5282.f1 t4859 t4861 t5285 e5286,by exact Z3i _ _ (fun _=>by simp),trivial⟩ ?_
    refine AWp.seq ?_
    refine sO hP hn hm [] [(79,bV (x5275==(0:Int)))] [0,4,5,6,9,10,79] [] [11,12,13] ?_
    refine AWp.cond (x5275==(0:Int)) (by kernel_rfl) (fun c5287 => ?_) (fun c5287 => ?_)
    ·replace H:=iT c5287 H
     obtain⟨b5294,p5295,q5296,H⟩:=Z06 H
     obtain⟨t5297,e5298,H⟩:=Z3 H
     obtain⟨c5299,H⟩:=Z0f H
     refine sR hP hn hm [(2,.c (Z7 b5294)),(6,.call [] [] [] [] 0 (sV t5297) [])] [(6,sV (x5274++t5297))] [0,4,5,6,9,10] [] [11,12,13] [_,_,_,_,_] ⟨p5295,Zi Z7 q5296,Tryz.call41,Z0b.ok (u64.wrap (b5294.f0)) t5297 e5298,c5299,trivial⟩ ?_
     refine AWp.seq ?_
     refine sO hP hn hm [] [(11,iV .i64 0)] [0,4,5,6,9,10,11] [] [11,12,13] ?_
     refine AWp.block ?_
     obtain⟨o5529,e5530,H⟩:=Z3 H
     refine AWp.loop (LWp.conv (inv:=[(11,14),(12,15),(13,16)]) (vk:=[]) (e0:=[]) (t:=⟨[(0,.im (.row (a0.map Z7))),(4,.own 14),(5,.own 15),(6,sV (x5274++t5297)),(9,iV .i64 x5275),(10,.own 16),(11,iV .i64 0)],[(14,some (.row 1 3 (t4859.map (Z1 .i64)))),(15,some (.row 1 3 (t4861.map (Z1 .i64)))),(16,some (.row 1 36 (t5285.map (Z1 .u64))))],0⟩) (by kernel_rfl) ?_)
     refine LWp.mono (Q:=fun e s=>(match (generalizing:=false) o5529 with | x5328=>e = .exit 2∧s=⟨[(0,.im (.row (a0.map Z7))),(4,.own 17),(5,.own 18),(6,sV x5328),(9,iV .i64 x5275)],[(17,some (.row 1 3 (t4859.map (Z1 .i64)))),(18,some (.row 1 3 (t4861.map (Z1 .i64))))],0⟩)) (LWp.cv (Zp (fun body hbody => ?_))) ?_
     ·refine           Zz.l1.partial_correctness a0 t4859 t4861 t5285 x5275 (motive:=fun x5313 x5314 o5529=>LWp Γ body (fun e s=>∃ t,Cv Γ s t∧(match (generalizing:=false) o5529 with | x5328=>e = .exit 2∧t=⟨[(0,.im (.row (a0.map Z7     ))),(4,.own 17),(5,.own 18),(6,sV x5328),(9,iV .i64 x5275)],[(17,some (.row 1 3 (t4859.map (Z1     .i64)))),(18,some (.row 1 3 (t4861.map (Z1     .i64))))],0⟩)) ⟨[(0,.im (.row (a0.map Z7     ))),(4,.own 14),(5,.own 15),(6,sV x5313),(9,iV .i64 x5275),(10,.own 16),(11,iV .i64 x5314)],[(14,some (.row 1 3 (t4859.map (Z1     .i64)))),(15,some (.row 1 3 (t4861.map (Z1     .i64)))),(16,some (.row 1 36 (t5285.map (Z1     .u64))))],0⟩) ?_ _ _ _ e5530
      clear H e5530 o5529;intro self ih x5313 x5314 o5529 H
      subst hbody
      refine LWp.round ?_
      refine AWp.seq ?_
      refine sR hP hn hm [(2,.any (iV .i64 (t5285.length:Int)))] [(91,bV (decide (x5314<(t5285.length:Int))))] [0,4,5,6,9,10,11,91] [] [14,15,16] [((t5285.map (Z1 .u64)).length:Int)=(t5285.length:Int)] ⟨by rw[Zn],trivial⟩ ?_
      refine AWp.cond (decide (x5314<(t5285.length:Int))) (by kernel_rfl) (fun c5315 => ?_) (fun c5315 => ?_)
      ·replace H:=iT c5315 H
       refine AWp.skip ?_
       refine AWp.seq ?_
       refine AWp.block ?_
       obtain⟨b5322,p5323,q5324,H⟩:=Z06 H
       obtain⟨t5325,e5326,H⟩:=Z3 H
       obtain⟨c5327,H⟩:=Z0f H
       refine rG hP hn hm [(4,.c ((Z1 .u64) b5322)),(5,.call [] [] [] [] 0 (sV t5325) [])] [(6,sV (x5313++t5325))] [0,4,5,6,9,10,11] [] [14,15,16] [_,_,_,_,_,_] ⟨p5323,Z1p (Z1 .u64) p5323 q5324,Zi (Z1 .u64) q5324,Tryz.call41,Z0b.ok b5322 t5325 e5326,c5327,trivial⟩ ?_
       refine rO hP hn hm [] [(11,iV .i64 (i64.wrap (x5314+(1:Int))))] [0,4,5,6,9,10,11] [] [14,15,16] ?_
       exact LWp.conv [(14,14),(15,15),(16,16)] [] [] (by kernel_rfl) (ih _ _ _ H)
      ·replace H:=iF c5315 H
       refine AWp.exit ?_
       obtain rfl:=sj H
       exact lf [(14,17),(15,18)] [] [] (by kernel_rfl) ⟨rfl,rfl⟩
     ·obtain⟨x5328,rfl⟩:∃ z,z=o5529:=⟨_,rfl⟩
      rintro e s ⟨rfl,rfl⟩
      refine AWp.exit ?_
      obtain rfl:=sj H
      exact lf [(17,34),(18,35)] [] [] (by kernel_rfl) ⟨rfl,rfl⟩
    ·replace H:=iF c5287 H
     refine AWp.skip ?_
     obtain⟨b5334,p5335,q5336,H⟩:=Z06 H
     obtain⟨t5337,e5338,H⟩:=Z3 H
     refine sR hP hn hm [(3,.c (Z7 b5334)),(8,.more (Z3j [] [(0,19)] [11,12] [19] 0 (.own 0) [(0,some (.row 1 36 (t5337.map (Z1 .u64))))]))] [(12,.own 19)] [0,4,5,6,9,10,12] [(19,some (.row 1 36 (t5337.map (Z1 .u64))))] [11,12,13,19] [_,_,_,_,∀ c∈t5337.map (Z1 .u64),∀ x∈c,∃ v,x=Im.sc v] ⟨p5335,Zi Z7 q5336,Tryz.call42,Z0a.ok b5334.f1 t4859 t4861 t5337 e5338,by exact Z3i _ _ (fun _=>by simp),trivial⟩ ?_
     refine AWp.seq ?_
     refine sO hP hn hm [] [(111,bV (x5275==(1:Int)))] [0,4,5,6,9,10,12,111] [] [11,12,13,19] ?_
     refine AWp.cond (x5275==(1:Int)) (by kernel_rfl) (fun c5339 => ?_) (fun c5339 => ?_)
     ·replace H:=iT c5339 H
      obtain⟨b5349,p5350,q5351,H⟩:=Z06 H
      obtain⟨b5352,p5353,q5354,H⟩:=Z06 H
      obtain⟨t5355,e5356,H⟩:=Z3 H
      obtain⟨c5357,H⟩:=Z0f H
      refine sR hP hn hm [(2,.c (Z7 b5349)),(6,.c (Z7 b5352)),(12,.call [] [] [] [] 0 (sV t5355) [])] [(6,sV (x5274++t5355))] [0,4,5,6,9,10,12] [] [11,12,13,19] [_,_,_,_,_,_,_] ⟨p5350,Zi Z7 q5351,p5353,Zi Z7 q5354,Tryz.call41,Z0b.ok (u64.wrap (i64.wrap ((i64.wrap (b5349.f0-b5352.f0))-(1:Int)))) t5355 e5356,c5357,trivial⟩ ?_
      refine AWp.seq ?_
      refine sO hP hn hm [] [(13,iV .i64 0)] [0,4,5,6,9,10,12,13] [] [11,12,13,19] ?_
      refine AWp.block ?_
      obtain⟨o5531,e5532,H⟩:=Z3 H
      refine AWp.loop (LWp.conv (inv:=[(11,20),(12,21),(13,22),(19,23)]) (vk:=[]) (e0:=[]) (t:=⟨[(0,.im (.row (a0.map Z7))),(4,.own 20),(5,.own 21),(6,sV (x5274++t5355)),(9,iV .i64 x5275),(10,.own 22),(12,.own 23),(13,iV .i64 0)],[(20,some (.row 1 3 (t4859.map (Z1 .i64)))),(21,some (.row 1 3 (t4861.map (Z1 .i64)))),(22,some (.row 1 36 (t5285.map (Z1 .u64)))),(23,some (.row 1 36 (t5337.map (Z1 .u64))))],0⟩) (by kernel_rfl) ?_)
      refine LWp.mono (Q:=fun e s=>(match (generalizing:=false) o5531 with | x5398=>e = .exit 4∧s=⟨[(0,.im (.row (a0.map Z7))),(4,.own 24),(5,.own 25),(6,sV x5398),(9,iV .i64 x5275)],[(24,some (.row 1 3 (t4859.map (Z1 .i64)))),(25,some (.row 1 3 (t4861.map (Z1 .i64))))],0⟩)) (LWp.cv (Zp (fun body hbody => ?_))) ?_
      ·refine           Zz.l2.partial_correctness a0 t4859 t4861 t5285 t5337 x5275 (motive:=fun x5377 x5378 o5531=>LWp Γ body (fun e s=>∃ t,Cv Γ s t∧(match (generalizing:=false) o5531 with | x5398=>e = .exit 4∧t=⟨[(0,.im (.row (a0.map Z7     ))),(4,.own 24),(5,.own 25),(6,sV x5398),(9,iV .i64 x5275)],[(24,some (.row 1 3 (t4859.map (Z1     .i64)))),(25,some (.row 1 3 (t4861.map (Z1     .i64))))],0⟩)) ⟨[(0,.im (.row (a0.map Z7     ))),(4,.own 20),(5,.own 21),(6,sV x5377),(9,iV .i64 x5275),(10,.own 22),(12,.own 23),(13,iV .i64 x5378)],[(20,some (.row 1 3 (t4859.map (Z1     .i64)))),(21,some (.row 1 3 (t4861.map (Z1     .i64)))),(22,some (.row 1 36 (t5285.map (Z1     .u64)))),(23,some (.row 1 36 (t5337.map (Z1     .u64))))],0⟩) ?_ _ _ _ e5532
       clear H e5532 o5531;intro self ih x5377 x5378 o5531 H
       subst hbody
       refine LWp.round ?_
       refine AWp.seq ?_
       refine sR hP hn hm [(2,.any (iV .i64 (t5285.length:Int)))] [(129,bV (decide (x5378<(t5285.length:Int))))] [0,4,5,6,9,10,12,13,129] [] [20,21,22,23] [((t5285.map (Z1 .u64)).length:Int)=(t5285.length:Int)] ⟨by rw[Zn],trivial⟩ ?_
       refine AWp.cond (decide (x5378<(t5285.length:Int))) (by kernel_rfl) (fun c5379 => ?_) (fun c5379 => ?_)
       ·replace H:=iT c5379 H
        refine AWp.skip ?_
        refine AWp.seq ?_
        refine AWp.block ?_
        obtain⟨b5389,p5390,q5391,H⟩:=Z06 H
        obtain⟨b5392,p5393,q5394,H⟩:=Z06 H
        obtain⟨t5395,e5396,H⟩:=Z3 H
        obtain⟨c5397,H⟩:=Z0f H
        refine rG hP hn hm [(4,.c ((Z1 .u64) b5389)),(8,.c ((Z1 .u64) b5392)),(11,.call [] [] [] [] 0 (sV t5395) [])] [(6,sV (x5377++t5395))] [0,4,5,6,9,10,12,13] [] [20,21,22,23] [_,_,_,_,_,_,_,_,_] ⟨p5390,Z1p (Z1 .u64) p5390 q5391,Zi (Z1 .u64) q5391,p5393,Z1p (Z1 .u64) p5393 q5394,Zi (Z1 .u64) q5394,Tryz.call38,Z30.ok (i64.wrap (u64.wrap (b5389-b5392))) t5395 e5396,c5397,trivial⟩ ?_
        refine rO hP hn hm [] [(13,iV .i64 (i64.wrap (x5378+(1:Int))))] [0,4,5,6,9,10,12,13] [] [20,21,22,23] ?_
        exact LWp.conv [(20,20),(21,21),(22,22),(23,23)] [] [] (by kernel_rfl) (ih _ _ _ H)
       ·replace H:=iF c5379 H
        refine AWp.exit ?_
        obtain rfl:=sj H
        exact lf [(20,24),(21,25)] [] [] (by kernel_rfl) ⟨rfl,rfl⟩
      ·obtain⟨x5398,rfl⟩:∃ z,z=o5531:=⟨_,rfl⟩
       rintro e s ⟨rfl,rfl⟩
       refine AWp.exit ?_
       obtain rfl:=sj H
       exact lf [(24,34),(25,35)] [] [] (by kernel_rfl) ⟨rfl,rfl⟩
     ·replace H:=iF c5339 H
      refine AWp.skip ?_
      obtain⟨b5404,p5405,q5406,H⟩:=Z06 H
      obtain⟨t5407,e5408,H⟩:=Z3 H
      refine sR hP hn hm [(3,.c (Z7 b5404)),(8,.more (Z3j [] [(0,26)] [11,12] [26] 0 (.own 0) [(0,some (.row 1 36 (t5407.map (Z1 .u64))))]))] [(14,.own 26)] [0,4,5,6,9,10,12,14] [(26,some (.row 1 36 (t5407.map (Z1 .u64))))] [11,12,13,19,26] [_,_,_,_,∀ c∈t5407.map (Z1 .u64),∀ x∈c,∃ v,x=Im.sc v] ⟨p5405,Zi Z7 q5406,Tryz.call42,Z0a.ok b5404.f1 t4859 t4861 t5407 e5408,by exact Z3i _ _ (fun _=>by simp),trivial⟩ ?_
      obtain⟨t5412,e5413,H⟩:=Z3 H
      obtain⟨c5414,H⟩:=Z0f H
      refine sR hP hn hm [(3,.c (Z7 b5282)),(9,.c (Z7 b5334)),(17,.c (Z7 b5404)),(21,.call [] [] [] [] 0 (sV t5412) [])] [(6,sV (x5274++t5412))] [0,4,5,6,9,10,12,14] [] [11,12,13,19,26] [_,_,_,_,_,_,_,_,_] ⟨p5283,Zi Z7 q5284,p5335,Zi Z7 q5336,p5405,Zi Z7 q5406,Tryz.call38,Z30.ok (i64.wrap ((i64.wrap (b5282.f0-(i64.wrap ((2:Int)*b5334.f0))))+b5404.f0)) t5412 e5413,c5414,trivial⟩ ?_
      refine sO hP hn hm [] [(15,iV .i64 0)] [0,4,5,6,9,10,12,14,15] [] [11,12,13,19,26] ?_
      refine AWp.block ?_
      obtain⟨o5533,e5534,H⟩:=Z3 H
      refine AWp.loop (LWp.conv (inv:=[(11,27),(12,28),(13,29),(19,30),(26,31)]) (vk:=[]) (e0:=[]) (t:=⟨[(0,.im (.row (a0.map Z7))),(4,.own 27),(5,.own 28),(6,sV (x5274++t5412)),(9,iV .i64 x5275),(10,.own 29),(12,.own 30),(14,.own 31),(15,iV .i64 0)],[(27,some (.row 1 3 (t4859.map (Z1 .i64)))),(28,some (.row 1 3 (t4861.map (Z1 .i64)))),(29,some (.row 1 36 (t5285.map (Z1 .u64)))),(30,some (.row 1 36 (t5337.map (Z1 .u64)))),(31,some (.row 1 36 (t5407.map (Z1 .u64))))],0⟩) (by kernel_rfl) ?_)
      refine LWp.mono (Q:=fun e s=>(match (generalizing:=false) o5533 with | x5467=>e = .exit 6∧s=⟨[(0,.im (.row (a0.map Z7))),(4,.own 32),(5,.own 33),(6,sV x5467),(9,iV .i64 x5275)],[(32,some (.row 1 3 (t4859.map (Z1 .i64)))),(33,some (.row 1 3 (t4861.map (Z1 .i64))))],0⟩)) (LWp.cv (Zp (fun body hbody => ?_))) ?_
      ·refine           Zz.l3.partial_correctness a0 t4859 t4861 t5285 t5337 t5407 x5275 (motive:=fun x5440 x5441 o5533=>LWp Γ body (fun e s=>∃ t,Cv Γ s t∧(match (generalizing:=false) o5533 with | x5467=>e = .exit 6∧t=⟨[(0,.im (.row (a0.map Z7     ))),(4,.own 32),(5,.own 33),(6,sV x5467),(9,iV .i64 x5275)],[(32,some (.row 1 3 (t4859.map (Z1     .i64)))),(33,some (.row 1 3 (t4861.map (Z1     .i64))))],0⟩)) ⟨[(0,.im (.row (a0.map Z7     ))),(4,.own 27),(5,.own 28),(6,sV x5440),(9,iV .i64 x5275),(10,.own 29),(12,.own 30),(14,.own 31),(15,iV .i64 x5441)],[(27,some (.row 1 3 (t4859.map (Z1     .i64)))),(28,some (.row 1 3 (t4861.map (Z1     .i64)))),(29,some (.row 1 36 (t5285.map (Z1     .u64)))),(30,some (.row 1 36 (t5337.map (Z1     .u64)))),(31,some (.row 1 36 (t5407.map (Z1     .u64))))],0⟩) ?_ _ _ _ e5534
       clear H e5534 o5533;intro self ih x5440 x5441 o5533 H
       subst hbody
       refine LWp.round ?_
       refine AWp.seq ?_
       refine sR hP hn hm [(2,.any (iV .i64 (t5285.length:Int)))] [(180,bV (decide (x5441<(t5285.length:Int))))] [0,4,5,6,9,10,12,14,15,180] [] [27,28,29,30,31] [((t5285.map (Z1 .u64)).length:Int)=(t5285.length:Int)] ⟨by rw[Zn],trivial⟩ ?_
       refine AWp.cond (decide (x5441<(t5285.length:Int))) (by kernel_rfl) (fun c5442 => ?_) (fun c5442 => ?_)
       ·replace H:=iT c5442 H
        refine AWp.skip ?_
        refine AWp.seq ?_
        refine AWp.block ?_
        obtain⟨b5455,p5456,q5457,H⟩:=Z06 H
        obtain⟨b5458,p5459,q5460,H⟩:=Z06 H
        obtain⟨b5461,p5462,q5463,H⟩:=Z06 H
        obtain⟨t5464,e5465,H⟩:=Z3 H
        obtain⟨c5466,H⟩:=Z0f H
        refine rG hP hn hm [(4,.c ((Z1 .u64) b5455)),(8,.c ((Z1 .u64) b5458)),(14,.c ((Z1 .u64) b5461)),(17,.call [] [] [] [] 0 (sV t5464) [])] [(6,sV (x5440++t5464))] [0,4,5,6,9,10,12,14,15] [] [27,28,29,30,31] [_,_,_,_,_,_,_,_,_,_,_,_] ⟨p5456,Z1p (Z1 .u64) p5456 q5457,Zi (Z1 .u64) q5457,p5459,Z1p (Z1 .u64) p5459 q5460,Zi (Z1 .u64) q5460,p5462,Z1p (Z1 .u64) p5462 q5463,Zi (Z1 .u64) q5463,Tryz.call38,Z30.ok (i64.wrap (u64.wrap ((u64.wrap (b5455-(u64.wrap ((2:Int)*b5458))))+b5461))) t5464 e5465,c5466,trivial⟩ ?_
        refine rO hP hn hm [] [(15,iV .i64 (i64.wrap (x5441+(1:Int))))] [0,4,5,6,9,10,12,14,15] [] [27,28,29,30,31] ?_
        exact LWp.conv [(27,27),(28,28),(29,29),(30,30),(31,31)] [] [] (by kernel_rfl) (ih _ _ _ H)
       ·replace H:=iF c5442 H
        refine AWp.exit ?_
        obtain rfl:=sj H
        exact lf [(27,32),(28,33)] [] [] (by kernel_rfl) ⟨rfl,rfl⟩
      ·obtain⟨x5467,rfl⟩:∃ z,z=o5533:=⟨_,rfl⟩
       rintro e s ⟨rfl,rfl⟩
       obtain rfl:=sj H
       exact lf [(32,34),(33,35)] [] [] (by kernel_rfl) ⟨rfl,rfl⟩
   ·obtain⟨x5468,rfl⟩:∃ z,z=o5527:=⟨_,rfl⟩
    rintro e s ⟨rfl,rfl⟩
    refine rO hP hn hm [] [(9,iV .i64 (i64.wrap (x5275+(1:Int))))] [0,4,5,6,9] [] [34,35] ?_
    exact LWp.conv [(34,11),(35,12)] [] [] (by kernel_rfl) (ih _ _ _ H)
  ·replace H:=iF c5276 H
   refine AWp.exit ?_
   obtain rfl:=sj H
   exact lf [] [] [] (by kernel_rfl) ⟨rfl,rfl⟩
 ·obtain⟨x5469,rfl⟩:∃ z,z=o5525:=⟨_,rfl⟩
  rintro e s ⟨rfl,rfl⟩
  obtain⟨t5523,e5524,H⟩:=Z3 H
  refine sR hP hn hm [(1,.call [] [(0,36)] [] [36] 0 (.own 0) [(0,some (.row 1 5 (t5523.map (Z1 .u8))))])] [(2,.own 36)] [2] [(36,some (.row 1 5 (t5523.map (Z1 .u8))))] [36] [_,_] ⟨Tryz.call43,Z18.ok x5469 t5523 e5524,trivial⟩ ?_
  refine AWp.conv (inv:=[(36,0)]) (vk:=[]) (e0:=[]) (t:=⟨[(2,.own 0)],[(0,some (.row 1 5 (t5523.map (Z1 .u8))))],0⟩) (by kernel_rfl) ?_
  refine AWp.ret ?_
  obtain rfl:=sj H
  exact rl (.inl rfl) rfl (by kernel_rfl) (by kernel_rfl)
def Z2n.f (a0:List Int):Option (Bool):=if(decide ((a0.length:Int)>(2000:Int)))=true then((Z27.f)>>=fun t5560=>some t5560) else((Z2h.f a0)>>=fun t5564=>if(t5564.2 != (0:Int))=true then((((Z27.f)>>=fun t5571=>if t5571=true then(if(t5564.2==(6:Int))=true then(some ((t5564.1.length:Int)==(0:Int))) else(some false)) else(some false)):Option (Bool))>>=fun x5575=>some x5575) else((((Z27.f)>>=fun t5584=>if t5584=true then((Z1k.f t5564.1)>>=fun t5587=>if(t5587==(0:Int))=true then((Zz.f t5564.1)>>=fun t5590=>some ((strOf t5590).toList==(strOf a0).toList)) else(some false)) else(some false)):Option (Bool))>>=fun x5592=>some x5592))
theorem Z2n.ok (a0:List Int) (r:Bool) (H:Z2n.f a0=some r):Pv.Fn Tryz.prog 4 [.im (.row (a0.map (Z1 .u8)))] [] 0 (fun x o=>x=bV r∧o=[]):=by
 unfold Z2n.f at H
 refine Fn.bodyK [] Tryz.func4 rfl rfl (fun Γ hP hn => ?_)
 have hm:Tryz.prog.follows .mixedOrders=true:=by kernel_rfl
 replace hn:Γ.n=40:=hn
 refine sO hP hn hm [] [] [0] [] [] ?_
 refine AWp.seq ?_
 refine sR hP hn hm [(1,.any (iV .i64 (a0.length:Int)))] [(7,bV (decide ((a0.length:Int)>(2000:Int))))] [0,7] [] [] [((a0.map (Z1 .u8)).length:Int)=(a0.length:Int)] ⟨by rw[Zn],trivial⟩ ?_
 refine AWp.cond (decide ((a0.length:Int)>(2000:Int))) (by kernel_rfl) (fun c5557 => ?_) (fun c5557 => ?_)
 ·replace H:=iT c5557 H
  obtain⟨t5560,e5561,H⟩:=Z3 H
  refine sR hP hn hm [(0,.call [] [] [] [] 0 (bV t5560) [])] [(2,bV t5560)] [2] [] [] [_,_] ⟨Tryz.call7,Z27.ok  t5560 e5561,trivial⟩ ?_
  refine AWp.conv (inv:=[]) (vk:=[]) (e0:=[]) (t:=⟨[(2,bV t5560)],[],0⟩) (by kernel_rfl) ?_
  refine AWp.ret ?_
  obtain rfl:=sj H
  exact rl (.inl rfl) rfl (by kernel_rfl) (by kernel_rfl)
 ·replace H:=iF c5557 H
  refine AWp.skip ?_
  obtain⟨t5564,e5565,H⟩:=Z3 H
  refine sR hP hn hm [(1,.call [] [(0,0)] [] [0] 0 (.tup [.own 0,iV .i64 t5564.2]) [(0,some (.row 9 41 (t5564.1.map Z7)))])] [(3,.own 0),(4,iV .i64 t5564.2)] [0,3,4] [(0,some (.row 9 41 (t5564.1.map Z7)))] [0] [_,_] ⟨Tryz.call11,Z2h.ok a0 t5564 e5565,trivial⟩ ?_
  refine AWp.seq ?_
  refine sO hP hn hm [] [(15,bV (t5564.2 != (0:Int)))] [0,3,4,15] [] [0] ?_
  refine AWp.cond (t5564.2 != (0:Int)) (by kernel_rfl) (fun c5566 => ?_) (fun c5566 => ?_)
  ·replace H:=iT c5566 H
   refine AWp.seq ?_
   obtain⟨o5593,e5594,H⟩:=Z3 H
   refine AWp.mono (Q:=fun e s=>(match (generalizing:=false) o5593 with | x5575=>e = .normal∧s=⟨[(2,bV x5575)],[],0⟩)) (AWp.cv ?_) ?_
   ·replace H:=e5594;clear e5594
    obtain⟨t5571,e5572,H⟩:=Z3 H
    rcases Bool.eq_false_or_eq_true t5571 with c5573 | c5573
    ·replace H:=iT c5573 H
     rcases Bool.eq_false_or_eq_true (t5564.2==(6:Int)) with c5574 | c5574
     ·replace H:=iT c5574 H
      refine rG hP hn hm [(0,.call [] [] [] [] 0 (bV t5571) []),(1,.b true),(5,.b true),(7,.any (iV .i64 (t5564.1.length:Int)))] [(2,bV ((t5564.1.length:Int)==(0:Int)))] [2] [] [] [_,_,_,_,((t5564.1.map Z7).length:Int)=(t5564.1.length:Int)] ⟨Tryz.call7,Z27.ok  t5571 e5572,c5573,c5574,by rw[Zn],trivial⟩ ?_
      obtain rfl:=sj H
      exact lf [] [] [] (by kernel_rfl) ⟨rfl,rfl⟩
     ·replace H:=iF c5574 H
      refine rG hP hn hm [(0,.call [] [] [] [] 0 (bV t5571) []),(1,.b true),(5,.b false)] [(2,bV false)] [2] [] [] [_,_,_,_] ⟨Tryz.call7,Z27.ok  t5571 e5572,c5573,c5574,trivial⟩ ?_
      obtain rfl:=sj H
      exact lf [] [] [] (by kernel_rfl) ⟨rfl,rfl⟩
    ·replace H:=iF c5573 H
     refine rG hP hn hm [(0,.call [] [] [] [] 0 (bV t5571) []),(1,.b false)] [(2,bV false)] [2] [] [] [_,_,_] ⟨Tryz.call7,Z27.ok  t5571 e5572,c5573,trivial⟩ ?_
     obtain rfl:=sj H
     exact lf [] [] [] (by kernel_rfl) ⟨rfl,rfl⟩
   ·obtain⟨x5575,rfl⟩:∃ z,z=o5593:=⟨_,rfl⟩
    rintro e s ⟨rfl,rfl⟩
    refine AWp.conv (inv:=[]) (vk:=[]) (e0:=[]) (t:=⟨[(2,bV x5575)],[],0⟩) (by kernel_rfl) ?_
    refine AWp.ret ?_
    obtain rfl:=sj H
    exact rl (.inl rfl) rfl (by kernel_rfl) (by kernel_rfl)
  ·replace H:=iF c5566 H
   refine AWp.skip ?_
   refine AWp.seq ?_
   obtain⟨o5595,e5596,H⟩:=Z3 H
   refine AWp.mono (Q:=fun e s=>(match (generalizing:=false) o5595 with | x5592=>e = .normal∧s=⟨[(2,bV x5592)],[],0⟩)) (AWp.cv ?_) ?_
   ·replace H:=e5596;clear e5596
    obtain⟨t5584,e5585,H⟩:=Z3 H
    rcases Bool.eq_false_or_eq_true t5584 with c5586 | c5586
    ·replace H:=iT c5586 H
     obtain⟨t5587,e5588,H⟩:=Z3 H
     rcases Bool.eq_false_or_eq_true (t5587==(0:Int)) with c5589 | c5589
     ·replace H:=iT c5589 H
      obtain⟨t5590,e5591,H⟩:=Z3 H
      refine rG hP hn hm [(0,.call [] [] [] [] 0 (bV t5584) []),(1,.b true),(3,.call [] [] [0] [] 0 (iV .i64 t5587) []),(6,.b true),(8,.more (Z3j [] [(0,1)] [0] [1] 0 (.own 0) [(0,some (.row 1 5 (t5590.map (Z1 .u8))))])),(9,.more (xStr t5590)),(11,.more (xStr a0))] [(2,bV ((strOf t5590).toList==(strOf a0).toList))] [2] [] [] [_,_,_,_,_,_,_,_,∀ c∈t5590.map (Z1 .u8),∀ x∈c,∃ v,x=Im.sc v,t5590.map (Z1 .u8)=t5590.map (Z1 .u8),a0.map (Z1 .u8)=a0.map (Z1 .u8)] ⟨Tryz.call7,Z27.ok  t5584 e5585,c5586,Tryz.call8,Z1k.ok t5564.1 t5587 e5588,c5589,Tryz.call12,Zz.ok t5564.1 t5590 e5591,by exact Z3i _ _ (fun _=>by simp),by exact rfl,by exact rfl,trivial⟩ ?_
      obtain rfl:=sj H
      exact lf [] [] [] (by kernel_rfl) ⟨rfl,rfl⟩
     ·replace H:=iF c5589 H
      refine rG hP hn hm [(0,.call [] [] [] [] 0 (bV t5584) []),(1,.b true),(3,.call [] [] [0] [] 0 (iV .i64 t5587) []),(6,.b false)] [(2,bV false)] [2] [] [] [_,_,_,_,_,_] ⟨Tryz.call7,Z27.ok  t5584 e5585,c5586,Tryz.call8,Z1k.ok t5564.1 t5587 e5588,c5589,trivial⟩ ?_
      obtain rfl:=sj H
      exact lf [] [] [] (by kernel_rfl) ⟨rfl,rfl⟩
    ·replace H:=iF c5586 H
     refine rG hP hn hm [(0,.call [] [] [] [] 0 (bV t5584) []),(1,.b false)] [(2,bV false)] [2] [] [] [_,_,_] ⟨Tryz.call7,Z27.ok  t5584 e5585,c5586,trivial⟩ ?_
     obtain rfl:=sj H
     exact lf [] [] [] (by kernel_rfl) ⟨rfl,rfl⟩
   ·obtain⟨x5592,rfl⟩:∃ z,z=o5595:=⟨_,rfl⟩
    rintro e s ⟨rfl,rfl⟩
    refine AWp.conv (inv:=[]) (vk:=[]) (e0:=[]) (t:=⟨[(2,bV x5592)],[],0⟩) (by kernel_rfl) ?_
    refine AWp.ret ?_
    obtain rfl:=sj H
    exact rl (.inl rfl) rfl (by kernel_rfl) (by kernel_rfl)
end Go.Proofs.YtlclecehlekjoaaGreat.PvGK
