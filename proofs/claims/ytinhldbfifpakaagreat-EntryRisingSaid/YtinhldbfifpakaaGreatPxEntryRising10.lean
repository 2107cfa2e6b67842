import Derived.Test.YtinhldbfifpakaaGreatProg
import Derived.Test.YtinhldbfifpakaaGreatPxEntryRising09
set_option linter.unusedVariables false
set_option linter.unnecessarySimpa false
set_option linter.unusedSimpArgs false
set_option maxRecDepth 10000
namespace Go.Proofs.YtinhldbfifpakaaGreat.PvGL
open Go Go.Pv Go.IntKind
def Z23.l0 (a1:List Int) (t5581:List Int) (x5609:List Z9) (x5610:Int):Option (List Z9):=if(decide (x5610<(t5581.length:Int)))=true then((at? t5581 x5610)>>=fun b5615=>((if(decide (x5610<(a1.length:Int)))=true then((at? a1 x5610)>>=fun b5623=>some (decide (b5623>(0:Int)))) else(some false)):Option (Bool))>>=fun x5626=>((if x5626=true then((at? a1 x5610)>>=fun b5632=>(chk ((x5609.length+[(⟨b5615,b5632⟩:Z9)].length)*16≤140737488355328))>>=fun _=>some (x5609++[(⟨b5615,b5632⟩:Z9)])) else(some x5609)):Option (List Z9))>>=fun x5636=>Z23.l0 a1 t5581 x5636 (i64.wrap (x5610+(1:Int)))) else(some x5609)
partial_fixpoint
def Z23.f (a0:Zm) (a1:List Int):Option (List Z9):=(Z0a.f a0)>>=fun t5581=>(Z23.l0 a1 t5581 [] 0)>>=fun x5637=>some x5637
theorem Z23.ok (a0:Zm) (a1:List Int) (r:List Z9) (H:Z23.f a0 a1=some r):Pv.Fn Tryz.prog 152 [.agg (Zj a0),.im (.row (a1.map (Z2 .u64)))] [] 0 (fun x o=>x = .own 0∧o=[(0,some (.row 2 136 (r.map Z1)))]):=by
 unfold Z23.f at H
 refine Fn.bodyK [0] Tryz.func152 rfl rfl (fun Γ hP hn => ?_)
 have hm:Tryz.prog.follows .mixedOrders=true:=by kernel_rfl
 replace hn:Γ.n=38:=hn
 refine sO hP hn hm [(0,.k 0)] [(2,.ptr 0 0 0)] [1,2] [(0,some (.box 179 (Zj a0)))] [0] ?_
 refine sO hP hn hm [] [(5,.none0)] [1,2,5] [] [0] ?_
 refine AWp.seq ?_
 obtain⟨t5581,e5582,H⟩:=Z4 H
 refine sR hP hn hm [(1,.call [] [(0,1)] [] [1] 0 (.own 0) [(0,some (.row 1 3 (t5581.map (Z2 .i64))))]),(2,.any (iV .i64 (t5581.length:Int)))] [(9,.own 1),(10,iV .i64 (t5581.length:Int)),(11,iV .i64 0)] [1,5,9,10,11] [(1,some (.row 1 3 (t5581.map (Z2 .i64))))] [1] [_,_,((t5581.map (Z2 .i64)).length:Int)=(t5581.length:Int)] ⟨Tryz.call133,Z0a.ok a0 t5581 e5582,by rw[Zr],trivial⟩ ?_
 refine AWp.block ?_
 obtain⟨o5638,e5639,H⟩:=Z4 H
 refine AWp.loop (LWp.conv (inv:=[(1,8)]) (vk:=[]) (e0:=[7]) (t:=⟨[(1,.im (.row (a1.map (Z2 .u64)))),(5,.own 7),(9,.own 8),(10,iV .i64 (t5581.length:Int)),(11,iV .i64 0)],[(7,some (.row 2 136 ([].map Z1))),(8,some (.row 1 3 (t5581.map (Z2 .i64))))],0⟩) (by kernel_rfl) ?_)
 refine LWp.mono (Q:=fun e s=>(match (generalizing:=false) o5638 with | x5637=>e = .exit 0∧s=⟨[(5,.own 15)],[(15,some (.row 2 136 (x5637.map Z1)))],0⟩)) (LWp.cv (Zs (fun body hbody => ?_))) ?_
 ·refine            Z23.l0.partial_correctness a1 t5581 (motive:=fun x5609 x5610 o5638=>LWp Γ body (fun e s=>∃ t,Cv Γ s t∧(match (generalizing:=false) o5638 with | x5637=>e = .exit 0∧t=⟨[(5,.own 15)],[(15,some (.row 2 136 (x5637.map Z1     )))],0⟩)) ⟨[(1,.im (.row (a1.map (Z2     .u64)))),(5,.own 7),(9,.own 8),(10,iV .i64 (t5581.length:Int)),(11,iV .i64 x5610)],[(7,some (.row 2 136 (x5609.map Z1     ))),(8,some (.row 1 3 (t5581.map (Z2     .i64))))],0⟩) ?_ _ _ _ e5639
  clear H e5639 o5638;intro self ih x5609 x5610 o5638 H
  subst hbody
  refine LWp.round ?_
  refine sO hP hn hm [] [(12,bV (decide (x5610<(t5581.length:Int))))] [1,5,9,10,11,12] [] [7,8] ?_
  refine AWp.seq ?_
  refine AWp.cond (decide (x5610<(t5581.length:Int))) (by kernel_rfl) (fun c5611 => ?_) (fun c5611 => ?_)
  ·replace H:=iT c5611 H
   refine AWp.skip ?_
   refine AWp.seq ?_
   refine AWp.block ?_
   obtain⟨b5615,p5616,q5617,H⟩:=Z02 H
   refine sR hP hn hm [(2,.c ((Z2 .i64) b5615))] [(6,iV .i64 x5610),(7,iV .i64 b5615)] [1,5,6,7,9,10,11] [] [7,8] [_,_,_] ⟨p5616,Z09 (Z2 .i64) p5616 q5617,Zi (Z2 .i64) q5617,trivial⟩ ?_
   refine AWp.seq ?_
   obtain⟨o5640,e5641,H⟩:=Z4 H
   refine AWp.mono (Q:=fun e s=>(match (generalizing:=false) o5640 with | x5626=>e = .normal∧s=⟨[(1,.im (.row (a1.map (Z2 .u64)))),(5,.own 9),(6,iV .i64 x5610),(7,iV .i64 b5615),(9,.own 10),(10,iV .i64 (t5581.length:Int)),(11,iV .i64 x5610),(26,bV x5626)],[(9,some (.row 2 136 (x5609.map Z1))),(10,some (.row 1 3 (t5581.map (Z2 .i64))))],0⟩)) (AWp.cv ?_) ?_
   ·replace H:=e5641;clear e5641
    rcases Bool.eq_false_or_eq_true (decide (x5610<(a1.length:Int))) with c5622 | c5622
    ·replace H:=iT c5622 H
     obtain⟨b5623,p5624,q5625,H⟩:=Z02 H
     refine rG hP hn hm [(2,.any (iV .i64 (a1.length:Int))),(4,.b true),(7,.c ((Z2 .u64) b5623))] [(21,.im (.row (a1.map (Z2 .u64)))),(22,iV .i64 x5610),(23,.ip [iI .u64 b5623]),(24,iV .u64 b5623),(25,bV (decide (b5623>(0:Int)))),(26,bV (decide (b5623>(0:Int))))] [1,5,6,7,9,10,11,21,22,23,24,25,26] [] [7,8] [((a1.map (Z2 .u64)).length:Int)=(a1.length:Int),_,_,_] ⟨by rw[Zr],c5622,p5624,Zi (Z2 .u64) q5625,trivial⟩ ?_
     obtain rfl:=sj H
     exact lf [(7,9),(8,10)] [] [] (by kernel_rfl) ⟨rfl,rfl⟩
    ·replace H:=iF c5622 H
     refine rG hP hn hm [(2,.any (iV .i64 (a1.length:Int))),(4,.b false)] [(26,bV false)] [1,5,6,7,9,10,11,26] [] [7,8] [((a1.map (Z2 .u64)).length:Int)=(a1.length:Int),_] ⟨by rw[Zr],c5622,trivial⟩ ?_
     obtain rfl:=sj H
     exact lf [(7,9),(8,10)] [] [] (by kernel_rfl) ⟨rfl,rfl⟩
   ·obtain⟨x5626,rfl⟩:∃ z,z=o5640:=⟨_,rfl⟩
    rintro e s ⟨rfl,rfl⟩
    obtain⟨o5642,e5643,H⟩:=Z4 H
    refine AWp.mono (Q:=fun e s=>(match (generalizing:=false) o5642 with | x5636=>e = .normal∧s=⟨[(1,.im (.row (a1.map (Z2 .u64)))),(5,.own 13),(9,.own 14),(10,iV .i64 (t5581.length:Int)),(11,iV .i64 x5610)],[(13,some (.row 2 136 (x5636.map Z1))),(14,some (.row 1 3 (t5581.map (Z2 .i64))))],0⟩)) (AWp.cv ?_) ?_
    ·replace H:=e5643;clear e5643
     refine AWp.cond x5626 (by kernel_rfl) (fun c5627 => ?_) (fun c5627 => ?_)
     ·replace H:=iT c5627 H
      obtain⟨b5632,p5633,q5634,H⟩:=Z02 H
      obtain⟨c5635,H⟩:=Z10 H
      refine rG hP hn hm [(4,.c ((Z2 .u64) b5632)),(7,.app 11 ([(⟨b5615,b5632⟩:Z9)].map Z1)),(8,.app 12 ((x5609++[(⟨b5615,b5632⟩:Z9)]).map Z1))] [(5,.own 12)] [1,5,9,10,11] [(12,some (.row 2 136 ((x5609++[(⟨b5615,b5632⟩:Z9)]).map Z1)))] [10,12] [_,_,[(⟨b5615,b5632⟩:Z9)].map Z1=[[iI .i64 b5615,iI .u64 b5632]],(x5609++[(⟨b5615,b5632⟩:Z9)]).map Z1=(x5609.map Z1)++([(⟨b5615,b5632⟩:Z9)].map Z1),∀ c∈([(⟨b5615,b5632⟩:Z9)].map Z1),c.length=2,∀ c∈([(⟨b5615,b5632⟩:Z9)].map Z1),Z16 (c.map .im)=true,((x5609.map Z1).length+([(⟨b5615,b5632⟩:Z9)].map Z1).length)*16≤140737488355328] ⟨p5633,Zi (Z2 .u64) q5634,by exact rfl,by simp,by exact Z12 _ _ _ (fun _=>rfl),by exact Z14 _ _ (fun _=>rfl),by simpa using c5635,trivial⟩ ?_
      obtain rfl:=sj H
      exact lf [(12,13),(10,14)] [] [] (by kernel_rfl) ⟨rfl,rfl⟩
     ·replace H:=iF c5627 H
      refine AWp.skip ?_
      obtain rfl:=sj H
      exact lf [(9,13),(10,14)] [] [] (by kernel_rfl) ⟨rfl,rfl⟩
    ·obtain⟨x5636,rfl⟩:∃ z,z=o5642:=⟨_,rfl⟩
     rintro e s ⟨rfl,rfl⟩
     refine rO hP hn hm [] [(11,iV .i64 (i64.wrap (x5610+(1:Int))))] [1,5,9,10,11] [] [13,14] ?_
     exact LWp.conv [(13,7),(14,8)] [] [] (by kernel_rfl) (ih _ _ _ H)
  ·replace H:=iF c5611 H
   refine AWp.exit ?_
   obtain rfl:=sj H
   exact lf [(7,15)] [] [] (by kernel_rfl) ⟨rfl,rfl⟩
 ·obtain⟨x5637,rfl⟩:∃ z,z=o5638:=⟨_,rfl⟩
  rintro e s ⟨rfl,rfl⟩
  refine sO hP hn hm [] [(4,.own 15)] [4] [] [15] ?_
  refine AWp.conv (inv:=[(15,0)]) (vk:=[]) (e0:=[]) (t:=⟨[(4,.own 0)],[(0,some (.row 2 136 (x5637.map Z1)))],0⟩) (by kernel_rfl) ?_
  refine AWp.ret ?_
  obtain rfl:=sj H
  exact rl (.inl rfl) rfl (by kernel_rfl) (by kernel_rfl)
def Z0s.l1 (a0_c0:List Int) (a1:Z0f) (a2:Zm) (a3:Zm) (t5513:Int×Int×Int) (t5517:List Int) (t5521:List Int) (x5873:Int) (x5875:List Zt) (x5876:Int) (x5904:Int) (x5970:Int) (x5971:Int) (x5972:List Int) (x5973:List Int) (x5974:Int):Option (Int×Int×(List Int)×(List Int)):=if(decide (x5974<(i64.wrap ((i64.wrap ((2:Int)+(t5517.length:Int)))+(t5521.length:Int)))))=true then(((if(x5876==(0:Int))=true then((Z0e.f a0_c0 x5970 x5971)>>=fun t5982=>(at? x5972 x5974)>>=fun b5984=>some (t5982.2.1,t5982.2.2,x5972.set (Int.toNat (x5974)) t5982.1,x5973)) else(((if(x5876==(1:Int))=true then((Z0p.f a0_c0 x5970 x5971)>>=fun t5993=>(at? x5973 x5974)>>=fun b5995=>(at? x5972 x5974)>>=fun b6004=>(at? (x5973.set (Int.toNat (x5974)) (u64.wrap (t5993.1))) x5974)>>=fun b6007=>some (t5993.2.1,t5993.2.2,x5972.set (Int.toNat (x5974)) (u64.wrap (b6004+b6007)),x5973.set (Int.toNat (x5974)) (u64.wrap (t5993.1)))) else((at? x5973 x5974)>>=fun b6015=>(Z0p.f a0_c0 x5970 x5971)>>=fun t6018=>(at? x5972 x5974)>>=fun b6026=>(at? (x5973.set (Int.toNat (x5974)) (u64.wrap (b6015+(u64.wrap (t6018.1))))) x5974)>>=fun b6029=>some (t6018.2.1,t6018.2.2,x5972.set (Int.toNat (x5974)) (u64.wrap (b6026+b6029)),x5973.set (Int.toNat (x5974)) (u64.wrap (b6015+(u64.wrap (t6018.1))))))):Option (Int×Int×(List Int)×(List Int)))>>=fun oo=>match oo with | (x6032,x6033,x6034,x6035)=>(some (x6032,x6033,x6034,x6035)))):Option (Int×Int×(List Int)×(List Int)))>>=fun oo=>match oo with | (x6036,x6037,x6038,x6039)=>(Z0s.l1 a0_c0 a1 a2 a3 t5513 t5517 t5521 x5873 x5875 x5876 x5904 x6036 x6037 x6038 x6039 (i64.wrap (x5974+(1:Int))))) else(some (x5970,x5971,x5972,x5973))
partial_fixpoint
def Z0s.l0 (a0_c0:List Int) (a1:Z0f) (a2:Zm) (a3:Zm) (t5513:Int×Int×Int) (t5517:List Int) (t5521:List Int) (v:Int×Int×(List Int)×(List Int)×Int×Int×(List Zt)×Int):Option ((List Zt)×Int×Int):=match v with
 | (x5869,x5870,x5871,x5872,x5873,x5874,x5875,x5876)=>((if(decide (x5876<(i64.wrap ((1:Int)+t5513.1))))=true then((Z00.f a0_c0 x5869 x5870)>>=fun t5881=>some (x5870==(0:Int))) else(some false)):Option (Bool))>>=fun x5883=>if x5883=true then(((if(x5876==(0:Int))=true then((Zh.f a0_c0 x5869 x5870 1099511627776)>>=fun t5888=>some (t5888.2.1,t5888.2.2,t5888.1)) else(((if(x5876==(1:Int))=true then((Zh.f a0_c0 x5869 x5870 1099511627776)>>=fun t5893=>some (t5893.2.1,t5893.2.2,i64.wrap ((i64.wrap (x5873+(1:Int)))+t5893.1))) else((Z0p.f a0_c0 x5869 x5870)>>=fun t5897=>some (t5897.2.1,t5897.2.2,i64.wrap ((i64.wrap (x5873+x5874))+t5897.1)))):Option (Int×Int×Int))>>=fun oo=>match oo with | (x5899,x5900,x5901)=>(some (x5899,x5900,x5901)))):Option (Int×Int×Int))>>=fun oo=>match oo with | (x5902,x5903,x5904)=>((Z0s.l1 a0_c0 a1 a2 a3 t5513 t5517 t5521 x5873 x5875 x5876 x5904 x5902 x5903 x5871 x5872 0)>>=fun oo=>match oo with | (x6040,x6041,x6042,x6043)=>((at? x6042 0)>>=fun b6050=>(at? x6042 1)>>=fun b6053=>(chk (0≤(2:Int)∧(2:Int)≤(i64.wrap ((2:Int)+(t5517.length:Int)))∧(i64.wrap ((2:Int)+(t5517.length:Int)))≤(x6042.length:Int)))>>=fun _=>(Z23.f a2 ((x6042.drop (Int.toNat (2:Int))).take (Int.toNat (i64.wrap ((2:Int)+(t5517.length:Int)))-Int.toNat (2:Int))))>>=fun t6063=>(chk (0≤(i64.wrap ((2:Int)+(t5517.length:Int)))∧(i64.wrap ((2:Int)+(t5517.length:Int)))≤(x6042.length:Int)∧(x6042.length:Int)≤(x6042.length:Int)))>>=fun _=>(Z23.f a3 ((x6042.drop (Int.toNat (i64.wrap ((2:Int)+(t5517.length:Int))))).take (Int.toNat (x6042.length:Int)-Int.toNat (i64.wrap ((2:Int)+(t5517.length:Int))))))>>=fun t6066=>(Z3q.f (⟨a1.f0,a1.f1,a1.f2,b6050,a1.f4,i64.wrap (b6053),t6063,t6066⟩:Z0f) t6063 t6066)>>=fun t6072=>(chk ((x5875.length+[(⟨x5904,(t6072.1)⟩:Zt)].length)*104≤140737488355328))>>=fun _=>Z0s.l0 a0_c0 a1 a2 a3 t5513 t5517 t5521 (x6040,x6041,x6042,x6043,x5904,i64.wrap (x5904-x5873),x5875++[(⟨x5904,(t6072.1)⟩:Zt)],i64.wrap (x5876+(1:Int)))))) else(some (x5875,x5869,x5870))
partial_fixpoint
def Z0s.f (a0_c0:List Int) (a0_c1:Int) (a0_c2:Int) (a1:Z0f) (a2:Zm) (a3:Zm):Option ((List Zt)×Int×Int):=(Zh.f a0_c0 a0_c1 a0_c2 31)>>=fun t5513=>(Z0a.f a2)>>=fun t5517=>(Z0a.f a3)>>=fun t5521=>(chk (0≤(i64.wrap ((i64.wrap ((2:Int)+(t5517.length:Int)))+(t5521.length:Int)))∧(i64.wrap ((i64.wrap ((2:Int)+(t5517.length:Int)))+(t5521.length:Int)))≤(i64.wrap ((i64.wrap ((2:Int)+(t5517.length:Int)))+(t5521.length:Int)))∧((8:Nat):Int)*(i64.wrap ((i64.wrap ((2:Int)+(t5517.length:Int)))+(t5521.length:Int)))≤281474976710656∧(i64.wrap ((i64.wrap ((2:Int)+(t5517.length:Int)))+(t5521.length:Int)))≤9223372036854775807))>>=fun _=>(Z0s.l0 a0_c0 a1 a2 a3 t5513 t5517 t5521 (t5513.2.1,t5513.2.2,List.replicate (Int.toNat (i64.wrap ((i64.wrap ((2:Int)+(t5517.length:Int)))+(t5521.length:Int)))) (0:Int),List.replicate (Int.toNat (i64.wrap ((i64.wrap ((2:Int)+(t5517.length:Int)))+(t5521.length:Int)))) (0:Int),0,0,[],0))>>=fun oo=>match oo with | (x6076,x6077,x6078)=>(some (x6076,x6077,x6078))
theorem Z0s.ok (a0_c0:List Int) (a0_c1:Int) (a0_c2:Int) (a1:Z0f) (a2:Zm) (a3:Zm) (r:(List Zt)×Int×Int) (H:Z0s.f a0_c0 a0_c1 a0_c2 a1 a2 a3=some r):Pv.Fn Tryz.prog 117 [.ptr 0 0 0,.agg (Z08 a1),.agg (Zj a2),.agg (Zj a3)] [(0,some (.box 158 (Z3 ⟨a0_c0,a0_c1,a0_c2⟩)))] 1 (fun x o=>x = .own 1∧o=[(0,some (.box 158 (Z3 ⟨a0_c0,r.2.1,r.2.2⟩))),(1,some (.row 9 50 (r.1.map Z6)))]):=by
 unfold Z0s.f at H
 refine Fn.bodyK [0,1] Tryz.func117 rfl rfl (fun Γ hP hn => ?_)
 have hm:Tryz.prog.follows .mixedOrders=true:=by kernel_rfl
 replace hn:Γ.n=167:=hn
 refine sO hP hn hm [(0,.k 1),(1,.k 2),(2,.k 3)] [(5,.ptr 1 0 0),(6,.ptr 2 0 0),(7,.ptr 3 0 0)] [0,5,6,7] [(1,some (.box 48 (Z08 a1))),(2,some (.box 179 (Zj a2))),(3,some (.box 179 (Zj a3)))] [0,1,2,3] ?_
 obtain⟨t5513,e5514,H⟩:=Z4 H
 refine sR hP hn hm [(1,.call [(0,0)] [(0,0)] [] [] 1 (iV .i64 t5513.1) [(0,some (.box 158 (Z3 ⟨a0_c0,t5513.2.1,t5513.2.2⟩)))])] [(9,iV .i64 (i64.wrap ((1:Int)+t5513.1)))] [0,5,6,7,9] [(0,some (.box 158 (Z3 ⟨a0_c0,t5513.2.1,t5513.2.2⟩)))] [0,1,2,3] [_,_] ⟨Tryz.call43,Zh.ok a0_c0 a0_c1 a0_c2 31 t5513 e5514,trivial⟩ ?_
 obtain⟨t5517,e5518,H⟩:=Z4 H
 refine sR hP hn hm [(1,.call [] [(0,4)] [] [4] 0 (.own 0) [(0,some (.row 1 3 (t5517.map (Z2 .i64))))]),(2,.any (iV .i64 (t5517.length:Int)))] [(10,iV .i64 (t5517.length:Int))] [0,5,6,7,9,10] [] [0,1,2,3] [_,_,((t5517.map (Z2 .i64)).length:Int)=(t5517.length:Int)] ⟨Tryz.call133,Z0a.ok a2 t5517 e5518,by rw[Zr],trivial⟩ ?_
 obtain⟨t5521,e5522,H⟩:=Z4 H
 refine sR hP hn hm [(3,.call [] [(0,5)] [] [5] 0 (.own 0) [(0,some (.row 1 3 (t5521.map (Z2 .i64))))]),(4,.any (iV .i64 (t5521.length:Int)))] [(11,iV .i64 (i64.wrap ((i64.wrap ((2:Int)+(t5517.length:Int)))+(t5521.length:Int))))] [0,5,6,7,9,10,11] [] [0,1,2,3] [_,_,((t5521.map (Z2 .i64)).length:Int)=(t5521.length:Int)] ⟨Tryz.call133,Z0a.ok a3 t5521 e5522,by rw[Zr],trivial⟩ ?_
 obtain⟨c5524,H⟩:=Z10 H
 refine sR hP hn hm [(1,.more (xMake 6 ((List.replicate (Int.toNat (i64.wrap ((i64.wrap ((2:Int)+(t5517.length:Int)))+(t5521.length:Int)))) (0:Int)).map (Z2 .u64)))),(3,.more (xMake 7 ((List.replicate (Int.toNat (i64.wrap ((i64.wrap ((2:Int)+(t5517.length:Int)))+(t5521.length:Int)))) (0:Int)).map (Z2 .u64))))] [(12,.own 6),(13,.own 7)] [0,5,6,7,9,10,11,12,13] [(6,some (.row 1 45 ((List.replicate (Int.toNat (i64.wrap ((i64.wrap ((2:Int)+(t5517.length:Int)))+(t5521.length:Int)))) (0:Int)).map (Z2 .u64)))),(7,some (.row 1 45 ((List.replicate (Int.toNat (i64.wrap ((i64.wrap ((2:Int)+(t5517.length:Int)))+(t5521.length:Int)))) (0:Int)).map (Z2 .u64))))] [0,1,2,3,6,7] [(List.replicate (Int.toNat (i64.wrap ((i64.wrap ((2:Int)+(t5517.length:Int)))+(t5521.length:Int)))) (0:Int)).map (Z2 .u64)=List.replicate (Int.toNat (i64.wrap ((i64.wrap ((2:Int)+(t5517.length:Int)))+(t5521.length:Int)))) [iI .u64 0],0≤(i64.wrap ((i64.wrap ((2:Int)+(t5517.length:Int)))+(t5521.length:Int))),(i64.wrap ((i64.wrap ((2:Int)+(t5517.length:Int)))+(t5521.length:Int)))≤(i64.wrap ((i64.wrap ((2:Int)+(t5517.length:Int)))+(t5521.length:Int))),((8:Nat):Int)*(i64.wrap ((i64.wrap ((2:Int)+(t5517.length:Int)))+(t5521.length:Int)))≤281474976710656,(i64.wrap ((i64.wrap ((2:Int)+(t5517.length:Int)))+(t5521.length:Int)))≤9223372036854775807,(List.replicate (Int.toNat (i64.wrap ((i64.wrap ((2:Int)+(t5517.length:Int)))+(t5521.length:Int)))) (0:Int)).map (Z2 .u64)=List.replicate (Int.toNat (i64.wrap ((i64.wrap ((2:Int)+(t5517.length:Int)))+(t5521.length:Int)))) [iI .u64 0],0≤(i64.wrap ((i64.wrap ((2:Int)+(t5517.length:Int)))+(t5521.length:Int))),(i64.wrap ((i64.wrap ((2:Int)+(t5517.length:Int)))+(t5521.length:Int)))≤(i64.wrap ((i64.wrap ((2:Int)+(t5517.length:Int)))+(t5521.length:Int))),((8:Nat):Int)*(i64.wrap ((i64.wrap ((2:Int)+(t5517.length:Int)))+(t5521.length:Int)))≤281474976710656,(i64.wrap ((i64.wrap ((2:Int)+(t5517.length:Int)))+(t5521.length:Int)))≤9223372036854775807] ⟨by simp,by exact c5524.1,by exact c5524.2.1,by exact c5524.2.2.1,by exact c5524.2.2.2,by simp,by exact c5524.1,by exact c5524.2.1,by exact c5524.2.2.1,by exact c5524.2.2.2,trivial⟩ ?_
 refine sO hP hn hm [] [(14,iV .i64 0),(15,iV .i64 0)] [0,5,6,7,9,10,11,12,13,14,15] [] [0,1,2,3,6,7] ?_
 refine sO hP hn hm [] [(16,.none0)] [0,5,6,7,9,10,11,12,13,14,15,16] [] [0,1,2,3,6,7] ?_
 refine AWp.seq ?_
 refine sO hP hn hm [] [(17,iV .i64 0)] [0,5,6,7,9,10,11,12,13,14,15,16,17] [] [0,1,2,3,6,7] ?_
 refine AWp.block ?_
 obtain⟨o6079,e6080,H⟩:=Z4 H
 refine AWp.loop (LWp.conv (inv:=[(0,0),(1,93),(2,94),(3,95),(6,96),(7,97)]) (vk:=[]) (e0:=[98]) (t:=⟨[(0,.ptr 0 0 0),(5,.ptr 93 0 0),(6,.ptr 94 0 0),(7,.ptr 95 0 0),(9,iV .i64 (i64.wrap ((1:Int)+t5513.1))),(10,iV .i64 (t5517.length:Int)),(11,iV .i64 (i64.wrap ((i64.wrap ((2:Int)+(t5517.length:Int)))+(t5521.length:Int)))),(12,.own 96),(13,.own 97),(14,iV .i64 0),(15,iV .i64 0),(16,.own 98),(17,iV .i64 0)],[(0,some (.box 158 (Z3 ⟨a0_c0,t5513.2.1,t5513.2.2⟩))),(93,some (.box 48 (Z08 a1))),(94,some (.box 179 (Zj a2))),(95,some (.box 179 (Zj a3))),(96,some (.row 1 45 ((List.replicate (Int.toNat (i64.wrap ((i64.wrap ((2:Int)+(t5517.length:Int)))+(t5521.length:Int)))) (0:Int)).map (Z2 .u64)))),(97,some (.row 1 45 ((List.replicate (Int.toNat (i64.wrap ((i64.wrap ((2:Int)+(t5517.length:Int)))+(t5521.length:Int)))) (0:Int)).map (Z2 .u64)))),(98,some (.row 9 50 ([].map Z6)))],1⟩) (by kernel_rfl) ?_)
 refine LWp.mono (Q:=fun e s=>(match (generalizing:=false) o6079 with | (x6076,x6077,x6078)=>e = .exit 0∧s=⟨[(16,.own 158)],[(0,some (.box 158 (Z3 ⟨a0_c0,x6077,x6078⟩))),(158,some (.row 9 50 (x6076.map Z6)))],1⟩)) (LWp.cv (Zs (fun body hbody => ?_))) ?_
 ·refine                 Z0s.l0.partial_correctness a0_c0 a1 a2 a3 t5513 t5517 t5521 (motive:=fun v o6079=>(match (generalizing:=false) v with | (x5869,x5870,x5871,x5872,x5873,x5874,x5875,x5876)=>LWp Γ body (fun e s=>∃ t,Cv Γ s t∧(match (generalizing:=false) o6079 with | (x6076,x6077,x6078)=>e = .exit 0∧t=⟨[(16,.own 158)],[(0,some (.box 158 (Z3           ⟨a0_c0,x6077,x6078⟩))),(158,some (.row 9 50 (x6076.map Z6     )))],1⟩)) ⟨[(0,.ptr 0 0 0),(5,.ptr 93 0 0),(6,.ptr 94 0 0),(7,.ptr 95 0 0),(9,iV .i64 (i64.wrap ((1:Int)+t5513.1))),(10,iV .i64 (t5517.length:Int)),(11,iV .i64 (i64.wrap ((i64.wrap ((2:Int)+(t5517.length:Int)))+(t5521.length:Int)))),(12,.own 96),(13,.own 97),(14,iV .i64 x5873),(15,iV .i64 x5874),(16,.own 98),(17,iV .i64 x5876)],[(0,some (.box 158 (Z3           ⟨a0_c0,x5869,x5870⟩))),(93,some (.box 48 (Z08   a1))),(94,some (.box 179 (Zj           a2))),(95,some (.box 179 (Zj           a3))),(96,some (.row 1 45 (x5871.map (Z2     .u64)))),(97,some (.row 1 45 (x5872.map (Z2     .u64)))),(98,some (.row 9 50 (x5875.map Z6     )))],1⟩)) ?_ _ _ e6080
  clear H e6080 o6079;intro self ih v o6079 H
  obtain⟨x5869,x5870,x5871,x5872,x5873,x5874,x5875,x5876⟩:=v
  dsimp only at H
  subst hbody
  refine LWp.round ?_
  refine AWp.seq ?_
  refine AWp.seq ?_
  obtain⟨o6081,e6082,H⟩:=Z4 H
  refine AWp.mono (Q:=fun e s=>(match (generalizing:=false) o6081 with | x5883=>e = .normal∧s=⟨[(0,.ptr 0 0 0),(5,.ptr 99 0 0),(6,.ptr 100 0 0),(7,.ptr 101 0 0),(9,iV .i64 (i64.wrap ((1:Int)+t5513.1))),(10,iV .i64 (t5517.length:Int)),(11,iV .i64 (i64.wrap ((i64.wrap ((2:Int)+(t5517.length:Int)))+(t5521.length:Int)))),(12,.own 102),(13,.own 103),(14,iV .i64 x5873),(15,iV .i64 x5874),(16,.own 104),(17,iV .i64 x5876),(44,bV x5883)],[(0,some (.box 158 (Z3 ⟨a0_c0,x5869,x5870⟩))),(99,some (.box 48 (Z08 a1))),(100,some (.box 179 (Zj a2))),(101,some (.box 179 (Zj a3))),(102,some (.row 1 45 (x5871.map (Z2 .u64)))),(103,some (.row 1 45 (x5872.map (Z2 .u64)))),(104,some (.row 9 50 (x5875.map Z6)))],1⟩)) (AWp.cv ?_) ?_
  ·replace H:=e6082;clear e6082
   rcases Bool.eq_false_or_eq_true (decide (x5876<(i64.wrap ((1:Int)+t5513.1)))) with c5880 | c5880
   ·replace H:=iT c5880 H
    obtain⟨t5881,e5882,H⟩:=Z4 H
    refine rG hP hn hm [(3,.b true),(5,.call [(0,0)] [(0,0)] [] [] 1 (iV .i64 x5870) [(0,some (.box 158 (Z3 ⟨a0_c0,x5869,x5870⟩)))])] [(41,.ptr 0 0 0),(42,iV .i64 x5870),(43,bV (x5870==(0:Int))),(44,bV (x5870==(0:Int)))] [0,5,6,7,9,10,11,12,13,14,15,16,17,41,42,43,44] [] [0,93,94,95,96,97,98] [_,_,_] ⟨c5880,Tryz.call44,Z00.ok a0_c0 x5869 x5870 t5881 e5882,trivial⟩ ?_
    obtain rfl:=sj H
    exact lf [(0,0),(93,99),(94,100),(95,101),(96,102),(97,103),(98,104)] [] [] (by kernel_rfl) ⟨rfl,rfl⟩
   ·replace H:=iF c5880 H
    refine rG hP hn hm [(3,.b false)] [(44,bV false)] [0,5,6,7,9,10,11,12,13,14,15,16,17,44] [] [0,93,94,95,96,97,98] [_] ⟨c5880,trivial⟩ ?_
    obtain rfl:=sj H
    exact lf [(0,0),(93,99),(94,100),(95,101),(96,102),(97,103),(98,104)] [] [] (by kernel_rfl) ⟨rfl,rfl⟩
  ·obtain⟨x5883,rfl⟩:∃ z,z=o6081:=⟨_,rfl⟩
   rintro e s ⟨rfl,rfl⟩
   refine AWp.cond x5883 (by kernel_rfl) (fun c5884 => ?_) (fun c5884 => ?_)
   ·replace H:=iT c5884 H
    refine AWp.skip ?_
    refine AWp.seq ?_
    refine AWp.block ?_
    refine sO hP hn hm [] [] [0,5,6,7,9,10,11,12,13,14,15,16,17] [] [0,99,100,101,102,103,104] ?_
    refine AWp.seq ?_
    refine sO hP hn hm [] [(47,iV .i64 x5876)] [0,5,6,7,9,10,11,12,13,14,15,16,17,47] [] [0,99,100,101,102,103,104] ?_
    refine AWp.block ?_
    refine sO hP hn hm [] [(54,bV (x5876==(0:Int)))] [0,5,6,7,9,10,11,12,13,14,15,16,17,47,54] [] [0,99,100,101,102,103,104] ?_
    obtain⟨o6083,e6084,H⟩:=Z4 H
    refine AWp.mono (Q:=fun e s=>(match (generalizing:=false) o6083 with | (x5902,x5903,x5904)=>e = .normal∧s=⟨[(0,.ptr 0 0 0),(5,.ptr 111 0 0),(6,.ptr 112 0 0),(7,.ptr 113 0 0),(9,iV .i64 (i64.wrap ((1:Int)+t5513.1))),(10,iV .i64 (t5517.length:Int)),(11,iV .i64 (i64.wrap ((i64.wrap ((2:Int)+(t5517.length:Int)))+(t5521.length:Int)))),(12,.own 114),(13,.own 115),(14,iV .i64 x5873),(16,.own 116),(17,iV .i64 x5876),(18,iV .i64 x5904)],[(0,some (.box 158 (Z3 ⟨a0_c0,x5902,x5903⟩))),(111,some (.box 48 (Z08 a1))),(112,some (.box 179 (Zj a2))),(113,some (.box 179 (Zj a3))),(114,some (.row 1 45 (x5871.map (Z2 .u64)))),(115,some (.row 1 45 (x5872.map (Z2 .u64)))),(116,some (.row 9 50 (x5875.map Z6)))],1⟩)) (AWp.cv ?_) ?_
    ·replace H:=e6084;clear e6084
     refine AWp.cond (x5876==(0:Int)) (by kernel_rfl) (fun c5885 => ?_) (fun c5885 => ?_)
     ·replace H:=iT c5885 H
      obtain⟨t5888,e5889,H⟩:=Z4 H
      refine rG hP hn hm [(1,.call [(0,0)] [(0,0)] [] [] 1 (iV .i64 t5888.1) [(0,some (.box 158 (Z3 ⟨a0_c0,t5888.2.1,t5888.2.2⟩)))])] [(18,iV .i64 t5888.1)] [0,5,6,7,9,10,11,12,13,14,16,17,18] [(0,some (.box 158 (Z3 ⟨a0_c0,t5888.2.1,t5888.2.2⟩)))] [0,99,100,101,102,103,104] [_,_] ⟨Tryz.call43,Zh.ok a0_c0 x5869 x5870 1099511627776 t5888 e5889,trivial⟩ ?_
      obtain rfl:=sj H
      exact lf [(0,0),(99,111),(100,112),(101,113),(102,114),(103,115),(104,116)] [] [] (by kernel_rfl) ⟨rfl,rfl⟩
     ·replace H:=iF c5885 H
      refine sO hP hn hm [] [(58,bV (x5876==(1:Int)))] [0,5,6,7,9,10,11,12,13,14,15,16,17,58] [] [0,99,100,101,102,103,104] ?_
      obtain⟨o6085,e6086,H⟩:=Z4 H
      refine AWp.mono (Q:=fun e s=>(match (generalizing:=false) o6085 with | (x5899,x5900,x5901)=>e = .normal∧s=⟨[(0,.ptr 0 0 0),(5,.ptr 105 0 0),(6,.ptr 106 0 0),(7,.ptr 107 0 0),(9,iV .i64 (i64.wrap ((1:Int)+t5513.1))),(10,iV .i64 (t5517.length:Int)),(11,iV .i64 (i64.wrap ((i64.wrap ((2:Int)+(t5517.length:Int)))+(t5521.length:Int)))),(12,.own 108),(13,.own 109),(14,iV .i64 x5873),(16,.own 110),(17,iV .i64 x5876),(18,iV .i64 x5901)],[(0,some (.box 158 (Z3 ⟨a0_c0,x5899,x5900⟩))),(105,some (.box 48 (Z08 a1))),(106,some (.box 179 (Zj a2))),(107,some (.box 179 (Zj a3))),(108,some (.row 1 45 (x5871.map (Z2 .u64)))),(109,some (.row 1 45 (x5872.map (Z2 .u64)))),(110,some (.row 9 50 (x5875.map Z6)))],1⟩)) (AWp.cv ?_) ?_
      ·replace H:=e6086;clear e6086
       refine AWp.cond (x5876==(1:Int)) (by kernel_rfl) (fun c5890 => ?_) (fun c5890 => ?_)
       ·replace H:=iT c5890 H
        obtain⟨t5893,e5894,H⟩:=Z4 H
        refine rG hP hn hm [(3,.call [(0,0)] [(0,0)] [] [] 1 (iV .i64 t5893.1) [(0,some (.box 158 (Z3 ⟨a0_c0,t5893.2.1,t5893.2.2⟩)))])] [(18,iV .i64 (i64.wrap ((i64.wrap (x5873+(1:Int)))+t5893.1)))] [0,5,6,7,9,10,11,12,13,14,16,17,18] [(0,some (.box 158 (Z3 ⟨a0_c0,t5893.2.1,t5893.2.2⟩)))] [0,99,100,101,102,103,104] [_,_] ⟨Tryz.call43,Zh.ok a0_c0 x5869 x5870 1099511627776 t5893 e5894,trivial⟩ ?_
        obtain rfl:=sj H
        exact lf [(0,0),(99,105),(100,106),(101,107),(102,108),(103,109),(104,110)] [] [] (by kernel_rfl) ⟨rfl,rfl⟩
       ·replace H:=iF c5890 H
        obtain⟨t5897,e5898,H⟩:=Z4 H
        refine rG hP hn hm [(4,.call [(0,0)] [(0,0)] [] [] 1 (iV .i64 t5897.1) [(0,some (.box 158 (Z3 ⟨a0_c0,t5897.2.1,t5897.2.2⟩)))])] [(18,iV .i64 (i64.wrap ((i64.wrap (x5873+x5874))+t5897.1)))] [0,5,6,7,9,10,11,12,13,14,16,17,18] [(0,some (.box 158 (Z3 ⟨a0_c0,t5897.2.1,t5897.2.2⟩)))] [0,99,100,101,102,103,104] [_,_] ⟨Tryz.call115,Z0p.ok a0_c0 x5869 x5870 t5897 e5898,trivial⟩ ?_
        obtain rfl:=sj H
        exact lf [(0,0),(99,105),(100,106),(101,107),(102,108),(103,109),(104,110)] [] [] (by kernel_rfl) ⟨rfl,rfl⟩
      ·obtain⟨x5899,x5900,x5901⟩:=o6085
       rintro e s ⟨rfl,rfl⟩
       obtain rfl:=sj H
       exact lf [(0,0),(105,111),(106,112),(107,113),(108,114),(109,115),(110,116)] [] [] (by kernel_rfl) ⟨rfl,rfl⟩
    ·obtain⟨x5902,x5903,x5904⟩:=o6083
     rintro e s ⟨rfl,rfl⟩
     refine sO hP hn hm [] [(14,iV .i64 x5904),(15,iV .i64 (i64.wrap (x5904-x5873)))] [0,5,6,7,9,10,11,12,13,14,15,16,17,18] [] [0,111,112,113,114,115,116] ?_
     refine AWp.seq ?_
     refine sO hP hn hm [] [(69,iV .i64 (i64.wrap ((i64.wrap ((2:Int)+(t5517.length:Int)))+(t5521.length:Int)))),(70,iV .i64 0)] [0,5,6,7,9,10,11,12,13,14,15,16,17,18,69,70] [] [0,111,112,113,114,115,116] ?_
     refine AWp.block ?_
     obtain⟨o6087,e6088,H⟩:=Z4 H
     refine AWp.loop (LWp.conv (inv:=[(0,0),(111,129),(112,130),(113,131),(114,132),(115,133),(116,134)]) (vk:=[]) (e0:=[]) (t:=⟨[(0,.ptr 0 0 0),(5,.ptr 129 0 0),(6,.ptr 130 0 0),(7,.ptr 131 0 0),(9,iV .i64 (i64.wrap ((1:Int)+t5513.1))),(10,iV .i64 (t5517.length:Int)),(11,iV .i64 (i64.wrap ((i64.wrap ((2:Int)+(t5517.length:Int)))+(t5521.length:Int)))),(12,.own 132),(13,.own 133),(14,iV .i64 x5904),(15,iV .i64 (i64.wrap (x5904-x5873))),(16,.own 134),(17,iV .i64 x5876),(18,iV .i64 x5904),(69,iV .i64 (i64.wrap ((i64.wrap ((2:Int)+(t5517.length:Int)))+(t5521.length:Int)))),(70,iV .i64 0)],[(0,some (.box 158 (Z3 ⟨a0_c0,x5902,x5903⟩))),(129,some (.box 48 (Z08 a1))),(130,some (.box 179 (Zj a2))),(131,some (.box 179 (Zj a3))),(132,some (.row 1 45 (x5871.map (Z2 .u64)))),(133,some (.row 1 45 (x5872.map (Z2 .u64)))),(134,some (.row 9 50 (x5875.map Z6)))],1⟩) (by kernel_rfl) ?_)
     refine LWp.mono (Q:=fun e s=>(match (generalizing:=false) o6087 with | (x6040,x6041,x6042,x6043)=>e = .exit 3∧s=⟨[(0,.ptr 0 0 0),(5,.ptr 147 0 0),(6,.ptr 148 0 0),(7,.ptr 149 0 0),(9,iV .i64 (i64.wrap ((1:Int)+t5513.1))),(10,iV .i64 (t5517.length:Int)),(11,iV .i64 (i64.wrap ((i64.wrap ((2:Int)+(t5517.length:Int)))+(t5521.length:Int)))),(12,.own 150),(13,.own 151),(14,iV .i64 x5904),(15,iV .i64 (i64.wrap (x5904-x5873))),(16,.own 152),(17,iV .i64 x5876),(18,iV .i64 x5904)],[(0,some (.box 158 (Z3 ⟨a0_c0,x6040,x6041⟩))),(147,some (.box 48 (Z08 a1))),(148,some (.box 179 (Zj a2))),(149,some (.box 179 (Zj a3))),(150,some (.row 1 45 (x6042.map (Z2 .u64)))),(151,some (.row 1 45 (x6043.map (Z2 .u64)))),(152,some (.row 9 50 (x5875.map Z6)))],1⟩)) (LWp.cv (Zs (fun body hbody => ?_))) ?_
     ·refine                 Z0s.l1.partial_correctness a0_c0 a1 a2 a3 t5513 t5517 t5521 x5873 x5875 x5876 x5904 (motive:=fun x5970 x5971 x5972 x5973 x5974 o6087=>LWp Γ body (fun e s=>∃ t,Cv Γ s t∧(match (generalizing:=false) o6087 with | (x6040,x6041,x6042,x6043)=>e = .exit 3∧t=⟨[(0,.ptr 0 0 0),(5,.ptr 147 0 0),(6,.ptr 148 0 0),(7,.ptr 149 0 0),(9,iV .i64 (i64.wrap ((1:Int)+t5513.1))),(10,iV .i64 (t5517.length:Int)),(11,iV .i64 (i64.wrap ((i64.wrap ((2:Int)+(t5517.length:Int)))+(t5521.length:Int)))),(12,.own 150),(13,.own 151),(14,iV .i64 x5904),(15,iV .i64 (i64.wrap (x5904-x5873))),(16,.own 152),(17,iV .i64 x5876),(18,iV .i64 x5904)],[(0,some (.box 158 (Z3           ⟨a0_c0,x6040,x6041⟩))),(147,some (.box 48 (Z08   a1))),(148,some (.box 179 (Zj           a2))),(149,some (.box 179 (Zj           a3))),(150,some (.row 1 45 (x6042.map (Z2     .u64)))),(151,some (.row 1 45 (x6043.map (Z2     .u64)))),(152,some (.row 9 50 (x5875.map Z6     )))],1⟩)) ⟨[(0,.ptr 0 0 0),(5,.ptr 129 0 0),(6,.ptr 130 0 0),(7,.ptr 131 0 0),(9,iV .i64 (i64.wrap ((1:Int)+t5513.1))),(10,iV .i64 (t5517.length:Int)),(11,iV .i64 (i64.wrap ((i64.wrap ((2:Int)+(t5517.length:Int)))+(t5521.length:Int)))),(12,.own 132),(13,.own 133),(14,iV .i64 x5904),(15,iV .i64 (i64.wrap (x5904-x5873))),(16,.own 134),(17,iV .i64 x5876),(18,iV .i64 x5904),(69,iV .i64 (i64.wrap ((i64.wrap ((2:Int)+(t5517.length:Int)))+(t5521.length:Int)))),(70,iV .i64 x5974)],[(0,some (.box 158 (Z3           ⟨a0_c0,x5970,x5971⟩))),(129,some (.box 48 (Z08   a1))),(130,some (.box 179 (Zj           a2))),(131,some (.box 179 (Zj           a3))),(132,some (.row 1 45 (x5972.map (Z2     .u64)))),(133,some (.row 1 45 (x5973.map (Z2     .u64)))),(134,some (.row 9 50 (x5875.map Z6     )))],1⟩) ?_ _ _ _ _ _ _ e6088
      clear H e6088 o6087;intro self ih x5970 x5971 x5972 x5973 x5974 o6087 H
      subst hbody
      refine LWp.round ?_
      refine sO hP hn hm [] [(71,bV (decide (x5974<(i64.wrap ((i64.wrap ((2:Int)+(t5517.length:Int)))+(t5521.length:Int))))))] [0,5,6,7,9,10,11,12,13,14,15,16,17,18,69,70,71] [] [0,129,130,131,132,133,134] ?_
      refine AWp.seq ?_
      refine AWp.cond (decide (x5974<(i64.wrap ((i64.wrap ((2:Int)+(t5517.length:Int)))+(t5521.length:Int))))) (by kernel_rfl) (fun c5975 => ?_) (fun c5975 => ?_)
      ·replace H:=iT c5975 H
       refine AWp.skip ?_
       refine AWp.seq ?_
       refine AWp.block ?_
       refine sO hP hn hm [] [(19,iV .i64 x5974)] [0,5,6,7,9,10,11,12,13,14,15,16,17,18,19,69,70] [] [0,129,130,131,132,133,134] ?_
       refine sO hP hn hm [] [(73,iV .i64 x5876)] [0,5,6,7,9,10,11,12,13,14,15,16,17,18,19,69,70,73] [] [0,129,130,131,132,133,134] ?_
       refine AWp.block ?_
       refine sO hP hn hm [] [(93,bV (x5876==(0:Int)))] [0,5,6,7,9,10,11,12,13,14,15,16,17,18,19,69,70,73,93] [] [0,129,130,131,132,133,134] ?_
       obtain⟨o6089,e6090,H⟩:=Z4 H
       refine AWp.mono (Q:=fun e s=>(match (generalizing:=false) o6089 with | (x6036,x6037,x6038,x6039)=>e = .normal∧s=⟨[(0,.ptr 0 0 0),(5,.ptr 141 0 0),(6,.ptr 142 0 0),(7,.ptr 143 0 0),(9,iV .i64 (i64.wrap ((1:Int)+t5513.1))),(10,iV .i64 (t5517.length:Int)),(11,iV .i64 (i64.wrap ((i64.wrap ((2:Int)+(t5517.length:Int)))+(t5521.length:Int)))),(12,.own 144),(13,.own 145),(14,iV .i64 x5904),(15,iV .i64 (i64.wrap (x5904-x5873))),(16,.own 146),(17,iV .i64 x5876),(18,iV .i64 x5904),(69,iV .i64 (i64.wrap ((i64.wrap ((2:Int)+(t5517.length:Int)))+(t5521.length:Int)))),(70,iV .i64 x5974)],[(0,some (.box 158 (Z3 ⟨a0_c0,x6036,x6037⟩))),(141,some (.box 48 (Z08 a1))),(142,some (.box 179 (Zj a2))),(143,some (.box 179 (Zj a3))),(144,some (.row 1 45 (x6038.map (Z2 .u64)))),(145,some (.row 1 45 (x6039.map (Z2 .u64)))),(146,some (.row 9 50 (x5875.map Z6)))],1⟩)) (AWp.cv ?_) ?_
       ·replace H:=e6090;clear e6090
        refine AWp.cond (x5876==(0:Int)) (by kernel_rfl) (fun c5976 => ?_) (fun c5976 => ?_)
        ·replace H:=iT c5976 H
         obtain⟨t5982,e5983,H⟩:=Z4 H
         obtain⟨b5984,p5985,q5986,H⟩:=Z02 H
         refine rG hP hn hm [(3,.call [(0,0)] [(0,0)] [] [] 1 (iV .u64 t5982.1) [(0,some (.box 158 (Z3 ⟨a0_c0,t5982.2.1,t5982.2.2⟩)))]),(5,.put ((Z2 .u64) b5984) ((x5972.set (Int.toNat (x5974)) t5982.1).map (Z2 .u64)))] [] [0,5,6,7,9,10,11,12,13,14,15,16,17,18,69,70] [(0,some (.box 158 (Z3 ⟨a0_c0,t5982.2.1,t5982.2.2⟩))),(132,some (.row 1 45 ((x5972.set (Int.toNat (x5974)) t5982.1).map (Z2 .u64))))] [0,129,130,131,132,133,134] [_,_,_,_,_,(x5972.set (Int.toNat (x5974)) t5982.1).map (Z2 .u64)=(x5972.map (Z2 .u64)).set (Int.toNat (x5974)) (Z0t ((Z2 .u64) b5984) 0 [iI .u64 t5982.1])] ⟨Tryz.call84,Z0e.ok a0_c0 x5970 x5971 t5982 e5983,p5985,Z09 (Z2 .u64) p5985 q5986,Zi (Z2 .u64) q5986,by exact set1 _ _ _ _,trivial⟩ ?_
         obtain rfl:=sj H
         exact lf [(0,0),(129,141),(130,142),(131,143),(132,144),(133,145),(134,146)] [] [] (by kernel_rfl) ⟨rfl,rfl⟩
        ·replace H:=iF c5976 H
         refine sO hP hn hm [] [(100,bV (x5876==(1:Int)))] [0,5,6,7,9,10,11,12,13,14,15,16,17,18,19,69,70,100] [] [0,129,130,131,132,133,134] ?_
         obtain⟨o6091,e6092,H⟩:=Z4 H
         refine AWp.mono (Q:=fun e s=>(match (generalizing:=false) o6091 with | (x6032,x6033,x6034,x6035)=>e = .normal∧s=⟨[(0,.ptr 0 0 0),(5,.ptr 135 0 0),(6,.ptr 136 0 0),(7,.ptr 137 0 0),(9,iV .i64 (i64.wrap ((1:Int)+t5513.1))),(10,iV .i64 (t5517.length:Int)),(11,iV .i64 (i64.wrap ((i64.wrap ((2:Int)+(t5517.length:Int)))+(t5521.length:Int)))),(12,.own 138),(13,.own 139),(14,iV .i64 x5904),(15,iV .i64 (i64.wrap (x5904-x5873))),(16,.own 140),(17,iV .i64 x5876),(18,iV .i64 x5904),(69,iV .i64 (i64.wrap ((i64.wrap ((2:Int)+(t5517.length:Int)))+(t5521.length:Int)))),(70,iV .i64 x5974)],[(0,some (.box 158 (Z3 ⟨a0_c0,x6032,x6033⟩))),(135,some (.box 48 (Z08 a1))),(136,some (.box 179 (Zj a2))),(137,some (.box 179 (Zj a3))),(138,some (.row 1 45 (x6034.map (Z2 .u64)))),(139,some (.row 1 45 (x6035.map (Z2 .u64)))),(140,some (.row 9 50 (x5875.map Z6)))],1⟩)) (AWp.cv ?_) ?_
         ·replace H:=e6092;clear e6092
          refine AWp.cond (x5876==(1:Int)) (by kernel_rfl) (fun c5987 => ?_) (fun c5987 => ?_)
          ·replace H:=iT c5987 H
           obtain⟨t5993,e5994,H⟩:=Z4 H
           obtain⟨b5995,p5996,q5997,H⟩:=Z02 H
           refine sR hP hn hm [(3,.call [(0,0)] [(0,0)] [] [] 1 (iV .i64 t5993.1) [(0,some (.box 158 (Z3 ⟨a0_c0,t5993.2.1,t5993.2.2⟩)))]),(6,.put ((Z2 .u64) b5995) ((x5973.set (Int.toNat (x5974)) (u64.wrap (t5993.1))).map (Z2 .u64)))] [] [0,5,6,7,9,10,11,12,13,14,15,16,17,18,19,69,70] [(0,some (.box 158 (Z3 ⟨a0_c0,t5993.2.1,t5993.2.2⟩))),(133,some (.row 1 45 ((x5973.set (Int.toNat (x5974)) (u64.wrap (t5993.1))).map (Z2 .u64))))] [0,129,130,131,132,133,134] [_,_,_,_,_,(x5973.set (Int.toNat (x5974)) (u64.wrap (t5993.1))).map (Z2 .u64)=(x5973.map (Z2 .u64)).set (Int.toNat (x5974)) (Z0t ((Z2 .u64) b5995) 0 [iI .u64 (u64.wrap (t5993.1))])] ⟨Tryz.call115,Z0p.ok a0_c0 x5970 x5971 t5993 e5994,p5996,Z09 (Z2 .u64) p5996 q5997,Zi (Z2 .u64) q5997,by exact set1 _ _ _ _,trivial⟩ ?_
           obtain⟨b6004,p6005,q6006,H⟩:=Z02 H
           obtain⟨b6007,p6008,q6009,H⟩:=Z02 H
           refine rG hP hn hm [(3,.c ((Z2 .u64) b6004)),(7,.c ((Z2 .u64) b6007)),(10,.put ((Z2 .u64) b6004) ((x5972.set (Int.toNat (x5974)) (u64.wrap (b6004+b6007))).map (Z2 .u64)))] [] [0,5,6,7,9,10,11,12,13,14,15,16,17,18,69,70] [(132,some (.row 1 45 ((x5972.set (Int.toNat (x5974)) (u64.wrap (b6004+b6007))).map (Z2 .u64))))] [0,129,130,131,132,133,134] [_,_,_,_,_,_,_,_,_,(x5972.set (Int.toNat (x5974)) (u64.wrap (b6004+b6007))).map (Z2 .u64)=(x5972.map (Z2 .u64)).set (Int.toNat (x5974)) (Z0t ((Z2 .u64) b6004) 0 [iI .u64 (u64.wrap (b6004+b6007))])] ⟨p6005,Z09 (Z2 .u64) p6005 q6006,Zi (Z2 .u64) q6006,p6008,Z09 (Z2 .u64) p6008 q6009,Zi (Z2 .u64) q6009,p6005,Z09 (Z2 .u64) p6005 q6006,Zi (Z2 .u64) q6006,by exact set1 _ _ _ _,trivial⟩ ?_
           obtain rfl:=sj H
           exact lf [(0,0),(129,135),(130,136),(131,137),(132,138),(133,139),(134,140)] [] [] (by kernel_rfl) ⟨rfl,rfl⟩
          ·replace H:=iF c5987 H
           obtain⟨b6015,p6016,q6017,H⟩:=Z02 H
           obtain⟨t6018,e6019,H⟩:=Z4 H
           refine sR hP hn hm [(3,.c ((Z2 .u64) b6015)),(5,.call [(0,0)] [(0,0)] [] [] 1 (iV .i64 t6018.1) [(0,some (.box 158 (Z3 ⟨a0_c0,t6018.2.1,t6018.2.2⟩)))]),(9,.put ((Z2 .u64) b6015) ((x5973.set (Int.toNat (x5974)) (u64.wrap (b6015+(u64.wrap (t6018.1))))).map (Z2 .u64)))] [] [0,5,6,7,9,10,11,12,13,14,15,16,17,18,19,69,70] [(0,some (.box 158 (Z3 ⟨a0_c0,t6018.2.1,t6018.2.2⟩))),(133,some (.row 1 45 ((x5973.set (Int.toNat (x5974)) (u64.wrap (b6015+(u64.wrap (t6018.1))))).map (Z2 .u64))))] [0,129,130,131,132,133,134] [_,_,_,_,_,_,_,_,(x5973.set (Int.toNat (x5974)) (u64.wrap (b6015+(u64.wrap (t6018.1))))).map (Z2 .u64)=(x5973.map (Z2 .u64)).set (Int.toNat (x5974)) (Z0t ((Z2 .u64) b6015) 0 [iI .u64 (u64.wrap (b6015+(u64.wrap (t6018.1))))])] ⟨p6016,Z09 (Z2 .u64) p6016 q6017,Zi (Z2 .u64) q6017,Tryz.call115,Z0p.ok a0_c0 x5970 x5971 t6018 e6019,p6016,Z09 (Z2 .u64) p6016 q6017,Zi (Z2 .u64) q6017,by exact set1 _ _ _ _,trivial⟩ ?_
           obtain⟨b6026,p6027,q6028,H⟩:=Z02 H
           obtain⟨b6029,p6030,q6031,H⟩:=Z02 H
           refine rG hP hn hm [(3,.c ((Z2 .u64) b6026)),(7,.c ((Z2 .u64) b6029)),(10,.put ((Z2 .u64) b6026) ((x5972.set (Int.toNat (x5974)) (u64.wrap (b6026+b6029))).map (Z2 .u64)))] [] [0,5,6,7,9,10,11,12,13,14,15,16,17,18,69,70] [(132,some (.row 1 45 ((x5972.set (Int.toNat (x5974)) (u64.wrap (b6026+b6029))).map (Z2 .u64))))] [0,129,130,131,132,133,134] [_,_,_,_,_,_,_,_,_,(x5972.set (Int.toNat (x5974)) (u64.wrap (b6026+b6029))).map (Z2 .u64)=(x5972.map (Z2 .u64)).set (Int.toNat (x5974)) (Z0t ((Z2 .u64) b6026) 0 [iI .u64 (u64.wrap (b6026+b6029))])] ⟨p6027,Z09 (Z2 .u64) p6027 q6028,Zi (Z2 .u64) q6028,p6030,Z09 (Z2 .u64) p6030 q6031,Zi (Z2 .u64) q6031,p6027,Z09 (Z2 .u64) p6027 q6028,Zi (Z2 .u64) q6028,by exact set1 _ _ _ _,trivial⟩ ?_
           obtain rfl:=sj H
           exact lf [(0,0),(129,135),(130,136),(131,137),(132,138),(133,139),(134,140)] [] [] (by kernel_rfl) ⟨rfl,rfl⟩
         ·obtain⟨x6032,x6033,x6034,x6035⟩:=o6091
          rintro e s ⟨rfl,rfl⟩
          obtain rfl:=sj H
          exact lf [(0,0),(135,141),(136,142),(137,143),(138,144),(139,145),(140,146)] [] [] (by kernel_rfl) ⟨rfl,rfl⟩
       ·obtain⟨x6036,x6037,x6038,x6039⟩:=o6089
        rintro e s ⟨rfl,rfl⟩
        refine rO hP hn hm [] [(70,iV .i64 (i64.wrap (x5974+(1:Int))))] [0,5,6,7,9,10,11,12,13,14,15,16,17,18,69,70] [] [0,141,142,143,144,145,146] ?_
        exact LWp.conv [(0,0),(141,129),(142,130),(143,131),(144,132),(145,133),(146,134)] [] [] (by kernel_rfl) (ih _ _ _ _ _ _ H)
      ·replace H:=iF c5975 H
       refine AWp.exit ?_
       obtain rfl:=sj H
       exact lf [(0,0),(129,147),(130,148),(131,149),(132,150),(133,151),(134,152)] [] [] (by kernel_rfl) ⟨rfl,rfl⟩
     ·obtain⟨x6040,x6041,x6042,x6043⟩:=o6087
      rintro e s ⟨rfl,rfl⟩
      refine sO hP hn hm [(3,.k 153)] [(20,.ptr 153 0 0)] [0,5,6,7,9,10,11,12,13,14,15,16,17,20] [(153,some (.box 50 [iV .i64 x5904,iV .i64 a1.f0,iV .i64 a1.f1,iV .i64 a1.f2,iV .u64 a1.f3,iV .u64 a1.f4,iV .i64 a1.f5,.im (.row (a1.f6.map Z1)),.im (.row (a1.f7.map Z1))]))] [0,147,148,149,150,151,152,153] ?_
      obtain⟨b6050,p6051,q6052,H⟩:=Z02 H
      obtain⟨b6053,p6054,q6055,H⟩:=Z02 H
      refine sR hP hn hm [(2,.c ((Z2 .u64) b6050)),(5,.c ((Z2 .u64) b6053))] [] [0,5,6,7,9,10,11,12,13,14,15,16,17,20] [(153,some (.box 50 [iV .i64 x5904,iV .i64 a1.f0,iV .i64 a1.f1,iV .i64 a1.f2,iV .u64 b6050,iV .u64 a1.f4,iV .i64 (i64.wrap (b6053)),.im (.row (a1.f6.map Z1)),.im (.row (a1.f7.map Z1))]))] [0,147,148,149,150,151,152,153] [_,_,_,_,_,_] ⟨p6051,Z09 (Z2 .u64) p6051 q6052,Zi (Z2 .u64) q6052,p6054,Z09 (Z2 .u64) p6054 q6055,Zi (Z2 .u64) q6055,trivial⟩ ?_
      obtain⟨c6062,H⟩:=Z10 H
      obtain⟨t6063,e6064,H⟩:=Z4 H
      obtain⟨c6065,H⟩:=Z10 H
      obtain⟨t6066,e6067,H⟩:=Z4 H
      refine sR hP hn hm [(4,.more (xSub (Int.toNat (2:Int)) (Int.toNat (i64.wrap ((2:Int)+(t5517.length:Int)))-Int.toNat (2:Int)))),(5,.more (Z51 [] [(0,154)] [150] [154] 0 (.own 0) [(0,some (.row 2 136 (t6063.map Z1)))])),(10,.more (xSub (Int.toNat (i64.wrap ((2:Int)+(t5517.length:Int)))) (Int.toNat (x6042.length:Int)-Int.toNat (i64.wrap ((2:Int)+(t5517.length:Int)))))),(11,.more (Z51 [] [(0,155)] [150] [155] 0 (.own 0) [(0,some (.row 2 136 (t6066.map Z1)))]))] [] [0,5,6,7,9,10,11,12,13,14,15,16,17,20] [(153,some (.box 50 [iV .i64 x5904,iV .i64 a1.f0,iV .i64 a1.f1,iV .i64 a1.f2,iV .u64 b6050,iV .u64 a1.f4,iV .i64 (i64.wrap (b6053)),.own 154,.own 155])),(154,some (.row 2 136 (t6063.map Z1))),(155,some (.row 2 136 (t6066.map Z1)))] [0,147,148,149,150,151,152,153,154,155] [(2:Int)=((Int.toNat (2:Int):Nat):Int),(i64.wrap ((2:Int)+(t5517.length:Int)))=((Int.toNat (2:Int)+(Int.toNat (i64.wrap ((2:Int)+(t5517.length:Int)))-Int.toNat (2:Int)):Nat):Int),Int.toNat (2:Int)+(Int.toNat (i64.wrap ((2:Int)+(t5517.length:Int)))-Int.toNat (2:Int))≤(x6042.map (Z2 .u64)).length,_,Pv.Fn Tryz.prog 152 [.agg (Zj a2),.im (.row (((x6042.map (Z2 .u64)).drop (Int.toNat (2:Int))).take (Int.toNat (i64.wrap ((2:Int)+(t5517.length:Int)))-Int.toNat (2:Int))))] [] 0 (fun r o=>r = .own 0∧o=[(0,some (.row 2 136 (t6063.map Z1)))]),∀ c∈t6063.map Z1,∀ x∈c,∃ v,x=Im.sc v,(i64.wrap ((2:Int)+(t5517.length:Int)))=((Int.toNat (i64.wrap ((2:Int)+(t5517.length:Int))):Nat):Int),((x6042.map (Z2 .u64)).length:Int)=((Int.toNat (i64.wrap ((2:Int)+(t5517.length:Int)))+(Int.toNat (x6042.length:Int)-Int.toNat (i64.wrap ((2:Int)+(t5517.length:Int)))):Nat):Int),Int.toNat (i64.wrap ((2:Int)+(t5517.length:Int)))+(Int.toNat (x6042.length:Int)-Int.toNat (i64.wrap ((2:Int)+(t5517.length:Int))))≤(x6042.map (Z2 .u64)).length,_,Pv.Fn Tryz.prog 152 [.agg (Zj a3),.im (.row (((x6042.map (Z2 .u64)).drop (Int.toNat (i64.wrap ((2:Int)+(t5517.length:Int))))).take (Int.toNat (x6042.length:Int)-Int.toNat (i64.wrap ((2:Int)+(t5517.length:Int))))))] [] 0 (fun r o=>r = .own 0∧o=[(0,some (.row 2 136 (t6066.map Z1)))]),∀ c∈t6066.map Z1,∀ x∈c,∃ v,x=Im.sc v] ⟨by exact(Int.toNat_of_nonneg c6062.1).symm,by have h:=c6062;(try simp only[List.length_map] at h ⊢);omega,by have h:=c6062;simp only[List.length_map] at h ⊢;omega,Tryz.call152,by exact(by have hh:=Z23.ok a2 ((x6042.drop (Int.toNat (2:Int))).take (Int.toNat (i64.wrap ((2:Int)+(t5517.length:Int)))-Int.toNat (2:Int))) t6063 e6064;rw[cut1 x6042 (Int.toNat (2:Int)) (Int.toNat (i64.wrap ((2:Int)+(t5517.length:Int)))-Int.toNat (2:Int)) (Z2 .u64)] at hh;exact hh),by exact Z5n _ _ (fun _=>by simp),by exact(Int.toNat_of_nonneg c6065.1).symm,by have h:=c6065;(try simp only[List.length_map] at h ⊢);omega,by have h:=c6065;simp only[List.length_map] at h ⊢;omega,Tryz.call152,by exact(by have hh:=Z23.ok a3 ((x6042.drop (Int.toNat (i64.wrap ((2:Int)+(t5517.length:Int))))).take (Int.toNat (x6042.length:Int)-Int.toNat (i64.wrap ((2:Int)+(t5517.length:Int))))) t6066 e6067;rw[cut1 x6042 (Int.toNat (i64.wrap ((2:Int)+(t5517.length:Int)))) (Int.toNat (x6042.length:Int)-Int.toNat (i64.wrap ((2:Int)+(t5517.length:Int)))) (Z2 .u64)] at hh;exact hh),by exact Z5n _ _ (fun _=>by simp),trivial⟩ ?_
      refine AWp.seq ?_
      refine AWp.conv (inv:=[(0,0),(147,147),(148,148),(149,149),(150,150),(151,151),(152,152),(153,153)]) (vk:=[154,155]) (e0:=[]) (t:=⟨[(0,.ptr 0 0 0),(5,.ptr 147 0 0),(6,.ptr 148 0 0),(7,.ptr 149 0 0),(9,iV .i64 (i64.wrap ((1:Int)+t5513.1))),(10,iV .i64 (t5517.length:Int)),(11,iV .i64 (i64.wrap ((i64.wrap ((2:Int)+(t5517.length:Int)))+(t5521.length:Int)))),(12,.own 150),(13,.own 151),(14,iV .i64 x5904),(15,iV .i64 (i64.wrap (x5904-x5873))),(16,.own 152),(17,iV .i64 x5876),(20,.ptr 153 0 0)],[(0,some (.box 158 (Z3 ⟨a0_c0,x6040,x6041⟩))),(147,some (.box 48 (Z08 a1))),(148,some (.box 179 (Zj a2))),(149,some (.box 179 (Zj a3))),(150,some (.row 1 45 (x6042.map (Z2 .u64)))),(151,some (.row 1 45 (x6043.map (Z2 .u64)))),(152,some (.row 9 50 (x5875.map Z6))),(153,some (.box 50 [iV .i64 x5904,iV .i64 a1.f0,iV .i64 a1.f1,iV .i64 a1.f2,iV .u64 b6050,iV .u64 a1.f4,iV .i64 (i64.wrap (b6053)),.im (.row (t6063.map Z1)),.im (.row (t6066.map Z1))]))],1⟩) (by kernel_rfl) ?_
      obtain⟨t6072,e6073,H⟩:=Z4 H
      refine rG hP hn hm [(8,.call [] [] [] [] 0 (.tup [.agg (Z08 (t6072.1)),iV .i64 t6072.2]) [])] [] [0,5,6,7,9,10,11,12,13,14,15,16,17,20] [(153,some (.box 50 [iV .i64 x5904,iV .i64 ((t6072.1).f0),iV .i64 ((t6072.1).f1),iV .i64 ((t6072.1).f2),iV .u64 ((t6072.1).f3),iV .u64 ((t6072.1).f4),iV .i64 ((t6072.1).f5),.im (.row (((t6072.1).f6).map Z1)),.im (.row (((t6072.1).f7).map Z1))]))] [0,147,148,149,150,151,152,153] [_,_] ⟨Tryz.call153,Z3q.ok (⟨a1.f0,a1.f1,a1.f2,b6050,a1.f4,i64.wrap (b6053),t6063,t6066⟩:Z0f) t6063 t6066 t6072 e6073,trivial⟩ ?_
      obtain⟨c6075,H⟩:=Z10 H
      refine rG hP hn hm [(2,.app 156 ([(⟨x5904,(t6072.1)⟩:Zt)].map Z6)),(3,.app 157 ((x5875++[(⟨x5904,(t6072.1)⟩:Zt)]).map Z6))] [(16,.own 157)] [0,5,6,7,9,10,11,12,13,14,15,16,17] [(157,some (.row 9 50 ((x5875++[(⟨x5904,(t6072.1)⟩:Zt)]).map Z6)))] [0,147,148,149,150,151,157] [[(⟨x5904,(t6072.1)⟩:Zt)].map Z6=[[iI .i64 x5904,iI .i64 ((t6072.1).f0),iI .i64 ((t6072.1).f1),iI .i64 ((t6072.1).f2),iI .u64 ((t6072.1).f3),iI .u64 ((t6072.1).f4),iI .i64 ((t6072.1).f5),.row (((t6072.1).f6).map Z1),.row (((t6072.1).f7).map Z1)]],(x5875++[(⟨x5904,(t6072.1)⟩:Zt)]).map Z6=(x5875.map Z6)++([(⟨x5904,(t6072.1)⟩:Zt)].map Z6),∀ c∈([(⟨x5904,(t6072.1)⟩:Zt)].map Z6),c.length=9,∀ c∈([(⟨x5904,(t6072.1)⟩:Zt)].map Z6),Z16 (c.map .im)=true,((x5875.map Z6).length+([(⟨x5904,(t6072.1)⟩:Zt)].map Z6).length)*104≤140737488355328] ⟨by exact rfl,by simp,by exact Z12 _ _ _ (fun _=>rfl),by exact Z14 _ _ (fun _=>rfl),by simpa using c6075,trivial⟩ ?_
      refine rO hP hn hm [] [(17,iV .i64 (i64.wrap (x5876+(1:Int))))] [0,5,6,7,9,10,11,12,13,14,15,16,17] [] [0,147,148,149,150,151,157] ?_
      exact LWp.conv [(0,0),(147,93),(148,94),(149,95),(150,96),(151,97),(157,98)] [] [] (by kernel_rfl) (ih _ _ H)
   ·replace H:=iF c5884 H
    refine AWp.exit ?_
    obtain rfl:=sj H
    exact lf [(104,158),(0,0)] [] [] (by kernel_rfl) ⟨rfl,rfl⟩
 ·obtain⟨x6076,x6077,x6078⟩:=o6079
  rintro e s ⟨rfl,rfl⟩
  refine sO hP hn hm [] [(8,.own 158)] [8] [] [0,158] ?_
  refine AWp.conv (inv:=[(0,0),(158,1)]) (vk:=[]) (e0:=[]) (t:=⟨[(8,.own 1)],[(0,some (.box 158 (Z3 ⟨a0_c0,x6077,x6078⟩))),(1,some (.row 9 50 (x6076.map Z6)))],1⟩) (by kernel_rfl) ?_
  refine AWp.ret ?_
  obtain rfl:=sj H
  exact rl (.inl rfl) rfl (by kernel_rfl) (by kernel_rfl)
def Z0r.l0 (a0_c0:List Int) (x6130:Int) (x6131:Int):Option (Int×Int):=((if(x6131==(0:Int))=true then((Z17.f a0_c0 x6130 x6131)>>=fun t6136=>some (decide ((i64.wrap ((i64.wrap ((8:Int)*(a0_c0.length:Int)))-x6130))>(0:Int)))) else(some false)):Option (Bool))>>=fun x6138=>if x6138=true then((Z0y.f a0_c0 x6130 x6131)>>=fun t6142=>((if t6142.1=true then((Z0i.f a0_c0 t6142.2.1 t6142.2.2 6)>>=fun t6147=>some t6147) else(some t6142.2.2)):Option (Int))>>=fun x6149=>Z0r.l0 a0_c0 t6142.2.1 x6149) else(some (x6130,x6131))
partial_fixpoint
def Z0r.f (a0_c0:List Int) (a0_c1:Int) (a0_c2:Int):Option (Int×Int×Int):=((if(a0_c2==(0:Int))=true then((Z17.f a0_c0 a0_c1 a0_c2)>>=fun t6103=>some (decide ((i64.wrap ((i64.wrap ((8:Int)*(a0_c0.length:Int)))-a0_c1))≥(8:Int)))) else(some false)):Option (Bool))>>=fun x6105=>((if x6105=true then((Z0i.f a0_c0 a0_c1 a0_c2 6)>>=fun t6109=>some t6109) else(some a0_c2)):Option (Int))>>=fun x6111=>(Z0r.l0 a0_c0 a0_c1 x6111)>>=fun oo=>match oo with | (x6150,x6151)=>(some (x6151,x6150,x6151))
theorem Z0r.ok (a0_c0:List Int) (a0_c1:Int) (a0_c2:Int) (r:Int×Int×Int) (H:Z0r.f a0_c0 a0_c1 a0_c2=some r):Pv.Fn Tryz.prog 49 [.ptr 0 0 0] [(0,some (.box 158 (Z3 ⟨a0_c0,a0_c1,a0_c2⟩)))] 1 (fun x o=>x=iV .i64 r.1∧o=[(0,some (.box 158 (Z3 ⟨a0_c0,r.2.1,r.2.2⟩)))]):=by
 unfold Z0r.f at H
 refine Fn.bodyK [0] Tryz.func49 rfl rfl (fun Γ hP hn => ?_)
 have hm:Tryz.prog.follows .mixedOrders=true:=by kernel_rfl
 replace hn:Γ.n=33:=hn
 refine sO hP hn hm [] [] [0] [] [0] ?_
 refine AWp.seq ?_
 refine AWp.seq ?_
 obtain⟨o6152,e6153,H⟩:=Z4 H
 refine AWp.mono (Q:=fun e s=>(match (generalizing:=false) o6152 with | x6105=>e = .normal∧s=⟨[(0,.ptr 0 0 0),(12,bV x6105)],[(0,some (.box 158 (Z3 ⟨a0_c0,a0_c1,a0_c2⟩)))],1⟩)) (AWp.cv ?_) ?_
 ·replace H:=e6153;clear e6153
  rcases Bool.eq_false_or_eq_true (a0_c2==(0:Int)) with c6102 | c6102
  ·replace H:=iT c6102 H
   obtain⟨t6103,e6104,H⟩:=Z4 H
   refine rG hP hn hm [(5,.b true),(7,.call [(0,0)] [(0,0)] [] [] 1 (iV .i64 (i64.wrap ((i64.wrap ((8:Int)*(a0_c0.length:Int)))-a0_c1))) [(0,some (.box 158 (Z3 ⟨a0_c0,a0_c1,a0_c2⟩)))])] [(12,bV (decide ((i64.wrap ((i64.wrap ((8:Int)*(a0_c0.length:Int)))-a0_c1))≥(8:Int))))] [0,12] [] [0] [_,_,_] ⟨c6102,Tryz.call86,Z17.ok a0_c0 a0_c1 a0_c2 t6103 e6104,trivial⟩ ?_
   obtain rfl:=sj H
   exact lf [(0,0)] [] [] (by kernel_rfl) ⟨rfl,rfl⟩
  ·replace H:=iF c6102 H
   refine rG hP hn hm [(5,.b false)] [(12,bV false)] [0,12] [] [0] [_] ⟨c6102,trivial⟩ ?_
   obtain rfl:=sj H
   exact lf [(0,0)] [] [] (by kernel_rfl) ⟨rfl,rfl⟩
 ·obtain⟨x6105,rfl⟩:∃ z,z=o6152:=⟨_,rfl⟩
  rintro e s ⟨rfl,rfl⟩
  obtain⟨o6154,e6155,H⟩:=Z4 H
  refine AWp.mono (Q:=fun e s=>(match (generalizing:=false) o6154 with | x6111=>e = .normal∧s=⟨[(0,.ptr 0 0 0)],[(0,some (.box 158 (Z3 ⟨a0_c0,a0_c1,x6111⟩)))],1⟩)) (AWp.cv ?_) ?_
  ·replace H:=e6155;clear e6155
   refine AWp.cond x6105 (by kernel_rfl) (fun c6106 => ?_) (fun c6106 => ?_)
   ·replace H:=iT c6106 H
    obtain⟨t6109,e6110,H⟩:=Z4 H
    refine rG hP hn hm [(1,.call [(0,0)] [(0,0)] [] [] 1 (.tup []) [(0,some (.box 158 (Z3 ⟨a0_c0,a0_c1,t6109⟩)))])] [] [0] [(0,some (.box 158 (Z3 ⟨a0_c0,a0_c1,t6109⟩)))] [0] [_,_] ⟨Tryz.call85,Z0i.ok a0_c0 a0_c1 a0_c2 6 t6109 e6110,trivial⟩ ?_
    obtain rfl:=sj H
    exact lf [(0,0)] [] [] (by kernel_rfl) ⟨rfl,rfl⟩
   ·replace H:=iF c6106 H
    refine AWp.skip ?_
    obtain rfl:=sj H
    exact lf [(0,0)] [] [] (by kernel_rfl) ⟨rfl,rfl⟩
  ·obtain⟨x6111,rfl⟩:∃ z,z=o6154:=⟨_,rfl⟩
   rintro e s ⟨rfl,rfl⟩
   refine AWp.seq ?_
   refine AWp.block ?_
   obtain⟨o6156,e6157,H⟩:=Z4 H
   refine AWp.loop (LWp.conv (inv:=[(0,0)]) (vk:=[]) (e0:=[]) (t:=⟨[(0,.ptr 0 0 0)],[(0,some (.box 158 (Z3 ⟨a0_c0,a0_c1,x6111⟩)))],1⟩) (by kernel_rfl) ?_)
   refine LWp.mono (Q:=fun e s=>(match (generalizing:=false) o6156 with | (x6150,x6151)=>e = .exit 0∧s=⟨[(0,.ptr 0 0 0)],[(0,some (.box 158 (Z3 ⟨a0_c0,x6150,x6151⟩)))],1⟩)) (LWp.cv (Zs (fun body hbody => ?_))) ?_
   ·refine                   Z0r.l0.partial_correctness a0_c0 (motive:=fun x6130 x6131 o6156=>LWp Γ body (fun e s=>∃ t,Cv Γ s t∧(match (generalizing:=false) o6156 with | (x6150,x6151)=>e = .exit 0∧t=⟨[(0,.ptr 0 0 0)],[(0,some (.box 158 (Z3           ⟨a0_c0,x6150,x6151⟩)))],1⟩)) ⟨[(0,.ptr 0 0 0)],[(0,some (.box 158 (Z3           ⟨a0_c0,x6130,x6131⟩)))],1⟩) ?_ _ _ _ e6157
    clear H e6157 o6156;intro self ih x6130 x6131 o6156 H
    subst hbody
    refine LWp.round ?_
    refine AWp.seq ?_
    refine AWp.seq ?_
    obtain⟨o6158,e6159,H⟩:=Z4 H
    refine AWp.mono (Q:=fun e s=>(match (generalizing:=false) o6158 with | x6138=>e = .normal∧s=⟨[(0,.ptr 0 0 0),(24,bV x6138)],[(0,some (.box 158 (Z3 ⟨a0_c0,x6130,x6131⟩)))],1⟩)) (AWp.cv ?_) ?_
    ·replace H:=e6159;clear e6159
     rcases Bool.eq_false_or_eq_true (x6131==(0:Int)) with c6135 | c6135
     ·replace H:=iT c6135 H
      obtain⟨t6136,e6137,H⟩:=Z4 H
      refine rG hP hn hm [(5,.b true),(7,.call [(0,0)] [(0,0)] [] [] 1 (iV .i64 (i64.wrap ((i64.wrap ((8:Int)*(a0_c0.length:Int)))-x6130))) [(0,some (.box 158 (Z3 ⟨a0_c0,x6130,x6131⟩)))])] [(21,.ptr 0 0 0),(22,iV .i64 (i64.wrap ((i64.wrap ((8:Int)*(a0_c0.length:Int)))-x6130))),(23,bV (decide ((i64.wrap ((i64.wrap ((8:Int)*(a0_c0.length:Int)))-x6130))>(0:Int)))),(24,bV (decide ((i64.wrap ((i64.wrap ((8:Int)*(a0_c0.length:Int)))-x6130))>(0:Int))))] [0,21,22,23,24] [] [0] [_,_,_] ⟨c6135,Tryz.call86,Z17.ok a0_c0 x6130 x6131 t6136 e6137,trivial⟩ ?_
      obtain rfl:=sj H
      exact lf [(0,0)] [] [] (by kernel_rfl) ⟨rfl,rfl⟩
     ·replace H:=iF c6135 H
      refine rG hP hn hm [(5,.b false)] [(24,bV false)] [0,24] [] [0] [_] ⟨c6135,trivial⟩ ?_
      obtain rfl:=sj H
      exact lf [(0,0)] [] [] (by kernel_rfl) ⟨rfl,rfl⟩
    ·obtain⟨x6138,rfl⟩:∃ z,z=o6158:=⟨_,rfl⟩
     rintro e s ⟨rfl,rfl⟩
     refine AWp.cond x6138 (by kernel_rfl) (fun c6139 => ?_) (fun c6139 => ?_)
     ·replace H:=iT c6139 H
      refine AWp.skip ?_
      refine AWp.block ?_
      obtain⟨t6142,e6143,H⟩:=Z4 H
      refine sR hP hn hm [(1,.call [(0,0)] [(0,0)] [] [] 1 (bV t6142.1) [(0,some (.box 158 (Z3 ⟨a0_c0,t6142.2.1,t6142.2.2⟩)))])] [(26,bV t6142.1)] [0,26] [(0,some (.box 158 (Z3 ⟨a0_c0,t6142.2.1,t6142.2.2⟩)))] [0] [_,_] ⟨Tryz.call83,Z0y.ok a0_c0 x6130 x6131 t6142 e6143,trivial⟩ ?_
      obtain⟨o6160,e6161,H⟩:=Z4 H
      refine AWp.mono (Q:=fun e s=>(match (generalizing:=false) o6160 with | x6149=>e = .normal∧s=⟨[(0,.ptr 0 0 0)],[(0,some (.box 158 (Z3 ⟨a0_c0,t6142.2.1,x6149⟩)))],1⟩)) (AWp.cv ?_) ?_
      ·replace H:=e6161;clear e6161
       refine AWp.cond t6142.1 (by kernel_rfl) (fun c6144 => ?_) (fun c6144 => ?_)
       ·replace H:=iT c6144 H
        obtain⟨t6147,e6148,H⟩:=Z4 H
        refine rG hP hn hm [(1,.call [(0,0)] [(0,0)] [] [] 1 (.tup []) [(0,some (.box 158 (Z3 ⟨a0_c0,t6142.2.1,t6147⟩)))])] [] [0] [(0,some (.box 158 (Z3 ⟨a0_c0,t6142.2.1,t6147⟩)))] [0] [_,_] ⟨Tryz.call85,Z0i.ok a0_c0 t6142.2.1 t6142.2.2 6 t6147 e6148,trivial⟩ ?_
        obtain rfl:=sj H
        exact lf [(0,0)] [] [] (by kernel_rfl) ⟨rfl,rfl⟩
       ·replace H:=iF c6144 H
        refine AWp.skip ?_
        obtain rfl:=sj H
        exact lf [(0,0)] [] [] (by kernel_rfl) ⟨rfl,rfl⟩
      ·obtain⟨x6149,rfl⟩:∃ z,z=o6160:=⟨_,rfl⟩
       rintro e s ⟨rfl,rfl⟩
       exact LWp.conv [(0,0)] [] [] (by kernel_rfl) (ih _ _ _ H)
     ·replace H:=iF c6139 H
      refine AWp.exit ?_
      obtain rfl:=sj H
      exact lf [(0,0)] [] [] (by kernel_rfl) ⟨rfl,rfl⟩
   ·obtain⟨x6150,x6151⟩:=o6156
    rintro e s ⟨rfl,rfl⟩
    refine sO hP hn hm [] [(2,iV .i64 x6151)] [2] [] [0] ?_
    refine AWp.conv (inv:=[(0,0)]) (vk:=[]) (e0:=[]) (t:=⟨[(2,iV .i64 x6151)],[(0,some (.box 158 (Z3 ⟨a0_c0,x6150,x6151⟩)))],1⟩) (by kernel_rfl) ?_
    refine AWp.ret ?_
    obtain rfl:=sj H
    exact rl (.inl rfl) rfl (by kernel_rfl) (by kernel_rfl)
def Z1g.l0 (a0:List Int) (a1:List Int) (x6187:Int):Option (Bool ⊕ Unit):=if(decide (x6187<(a0.length:Int)))=true then((at? a0 x6187)>>=fun b6195=>(at? a1 x6187)>>=fun b6198=>if(b6195 != b6198)=true then(some (.inl false)) else(Z1g.l0 a0 a1 (i64.wrap (x6187+(1:Int))))) else(some (.inr ()))
partial_fixpoint
def Z1g.f (a0:List Int) (a1:List Int):Option (Bool):=if((a0.length:Int) != (a1.length:Int))=true then(some false) else((Z1g.l0 a0 a1 0)>>=fun oo=>match oo with | .inl rr=>(some rr) | .inr _=>(some true))
theorem Z1g.ok (a0:List Int) (a1:List Int) (r:Bool) (H:Z1g.f a0 a1=some r):Pv.Fn Tryz.prog 61 [.im (.row (a0.map (Z2 .u8))),.im (.row (a1.map (Z2 .u8)))] [] 0 (fun x o=>x=bV r∧o=[]):=by
 unfold Z1g.f at H
 refine Fn.bodyK [] Tryz.func61 rfl rfl (fun Γ hP hn => ?_)
 have hm:Tryz.prog.follows .mixedOrders=true:=by kernel_rfl
 replace hn:Γ.n=26:=hn
 refine sO hP hn hm [] [] [0,1] [] [] ?_
 refine AWp.seq ?_
 refine sR hP hn hm [(1,.any (iV .i64 (a0.length:Int))),(3,.any (iV .i64 (a1.length:Int)))] [(10,bV ((a0.length:Int) != (a1.length:Int)))] [0,1,10] [] [] [((a0.map (Z2 .u8)).length:Int)=(a0.length:Int),((a1.map (Z2 .u8)).length:Int)=(a1.length:Int)] ⟨by rw[Zr],by rw[Zr],trivial⟩ ?_
 refine AWp.cond ((a0.length:Int) != (a1.length:Int)) (by kernel_rfl) (fun c6172 => ?_) (fun c6172 => ?_)
 ·replace H:=iT c6172 H
  refine sO hP hn hm [] [(4,bV false)] [4] [] [] ?_
  refine AWp.conv (inv:=[]) (vk:=[]) (e0:=[]) (t:=⟨[(4,bV false)],[],0⟩) (by kernel_rfl) ?_
  refine AWp.ret ?_
  obtain rfl:=sj H
  exact rl (.inl rfl) rfl (by kernel_rfl) (by kernel_rfl)
 ·replace H:=iF c6172 H
  refine AWp.skip ?_
  refine AWp.seq ?_
  refine sR hP hn hm [(1,.any (iV .i64 (a0.length:Int)))] [(12,iV .i64 (a0.length:Int)),(13,iV .i64 0)] [0,1,12,13] [] [] [((a0.map (Z2 .u8)).length:Int)=(a0.length:Int)] ⟨by rw[Zr],trivial⟩ ?_
  refine AWp.block ?_
  obtain⟨o6202,e6203,H⟩:=Z4 H
  refine AWp.loop (LWp.conv (inv:=[]) (vk:=[]) (e0:=[]) (t:=⟨[(0,.im (.row (a0.map (Z2 .u8)))),(1,.im (.row (a1.map (Z2 .u8)))),(12,iV .i64 (a0.length:Int)),(13,iV .i64 0)],[],0⟩) (by kernel_rfl) ?_)
  refine LWp.mono (Q:=fun e s=>(match (generalizing:=false) o6202 with | .inl rr=>e = .ret∧s.floor=0∧Z1y Tryz.prog Tryz.f61 s=some (bV rr)∧([]:List (Nat×Option MObj))=[] | .inr _=>e = .exit 0∧s=⟨[],[],0⟩)) (LWp.cv (Zs (fun body hbody => ?_))) ?_
  ·refine                 Z1g.l0.partial_correctness a0 a1 (motive:=fun x6187 o6202=>LWp Γ body (fun e s=>∃ t,Cv Γ s t∧(match (generalizing:=false) o6202 with | .inl rr=>e = .ret∧t.floor=0∧Z1y   Tryz.prog Tryz.f61 t=some (bV rr)∧([]:List (Nat×Option MObj))=[] | .inr _=>e = .exit 0∧t=⟨[],[],0⟩)) ⟨[(0,.im (.row (a0.map (Z2     .u8)))),(1,.im (.row (a1.map (Z2     .u8)))),(12,iV .i64 (a0.length:Int)),(13,iV .i64 x6187)],[],0⟩) ?_ _ _ e6203
   clear H e6203 o6202;intro self ih x6187 o6202 H
   subst hbody
   refine LWp.round ?_
   refine sO hP hn hm [] [(14,bV (decide (x6187<(a0.length:Int))))] [0,1,12,13,14] [] [] ?_
   refine AWp.seq ?_
   refine AWp.cond (decide (x6187<(a0.length:Int))) (by kernel_rfl) (fun c6188 => ?_) (fun c6188 => ?_)
   ·replace H:=iT c6188 H
    refine AWp.skip ?_
    refine AWp.seq ?_
    refine AWp.block ?_
    refine sO hP hn hm [] [(5,iV .i64 x6187)] [0,1,5,12,13] [] [] ?_
    obtain⟨b6195,p6196,q6197,H⟩:=Z02 H
    obtain⟨b6198,p6199,q6200,H⟩:=Z02 H
    refine sR hP hn hm [(2,.c ((Z2 .u8) b6195)),(6,.c ((Z2 .u8) b6198))] [(24,bV (b6195 != b6198))] [0,1,12,13,24] [] [] [_,_,_,_] ⟨p6196,Zi (Z2 .u8) q6197,p6199,Zi (Z2 .u8) q6200,trivial⟩ ?_
    refine AWp.cond (b6195 != b6198) (by kernel_rfl) (fun c6201 => ?_) (fun c6201 => ?_)
    ·replace H:=iT c6201 H
     refine sO hP hn hm [] [(4,bV false)] [4] [] [] ?_
     refine AWp.conv (inv:=[]) (vk:=[]) (e0:=[]) (t:=⟨[(4,bV false)],[],0⟩) (by kernel_rfl) ?_
     refine AWp.ret ?_
     obtain rfl:=sj H
     exact rl rfl rfl (by kernel_rfl) (by kernel_rfl)
    ·replace H:=iF c6201 H
     refine AWp.skip ?_
     refine rO hP hn hm [] [(13,iV .i64 (i64.wrap (x6187+(1:Int))))] [0,1,12,13] [] [] ?_
     exact LWp.conv [] [] [] (by kernel_rfl) (ih _ _ H)
   ·replace H:=iF c6188 H
    refine AWp.exit ?_
    obtain rfl:=sj H
    exact lf [] [] [] (by kernel_rfl) ⟨rfl,rfl⟩
  ·rcases o6202 with rr | _
   ·skip
    rintro e s ⟨rfl,hfl,hres⟩
    obtain rfl:=sj H
    exact Exists.intro _ (And.intro (fun _ _ h=>h) (And.intro (.inl rfl) (And.intro hfl hres)))
   ·skip
    rintro e s ⟨rfl,rfl⟩
    refine sO hP hn hm [] [(4,bV true)] [4] [] [] ?_
    refine AWp.conv (inv:=[]) (vk:=[]) (e0:=[]) (t:=⟨[(4,bV true)],[],0⟩) (by kernel_rfl) ?_
    refine AWp.ret ?_
    obtain rfl:=sj H
    exact rl (.inl rfl) rfl (by kernel_rfl) (by kernel_rfl)
def Z43.f (a0:List Int):Option ((List Zt)×Int):=(Z48.f a0)>>=fun t5339=>(Z0y.f a0 0 0)>>=fun t5343=>((if t5343.1=true then(some 1) else(some 0)):Option (Int))>>=fun x5346=>(Z0c.f a0 t5343.2.1 t5343.2.2 4)>>=fun t5349=>(Z0p.f a0 t5349.2.1 t5349.2.2)>>=fun t5361=>((if(decide (t5361.1<(-524288)))=true then(some true) else(some (decide (t5361.1>(262144:Int))))):Option (Bool))>>=fun x5365=>if x5365=true then(some ([],6)) else((Z1s.f a0 t5361.2.1 t5361.2.2 512)>>=fun t5505=>(Z1s.f a0 t5505.2.1 t5505.2.2 512)>>=fun t5509=>(Z0s.f a0 t5509.2.1 t5509.2.2 (⟨x5346,i64.wrap ((i64.wrap (t5349.1))+(-4)),t5361.1,0,0,0,[],[]⟩:Z0f) (t5505.1) (t5509.1))>>=fun t6097=>(Z0r.f a0 t6097.2.1 t6097.2.2)>>=fun t6164=>if(t6164.1 != (0:Int))=true then(some ([],6)) else((Z1c.f t6097.1)>>=fun t6169=>((if(t6169.2 != (0:Int))=true then(some true) else((Z1g.f t6169.1 a0)>>=fun t6207=>some (!t6207))):Option (Bool))>>=fun x6209=>if x6209=true then(some ([],6)) else(some (t6097.1,0))))
theorem Z43.ok (a0:List Int) (r:(List Zt)×Int) (H:Z43.f a0=some r):Pv.Fn Tryz.prog 87 [.im (.row (a0.map (Z2 .u8)))] [] 0 (fun x o=>x = .tup [.own 0,iV .i64 r.2]∧o=[(0,some (.row 9 50 (r.1.map Z6)))]):=by
 unfold Z43.f at H
 refine Fn.bodyK [0] Tryz.func87 rfl rfl (fun Γ hP hn => ?_)
 have hm:Tryz.prog.follows .mixedOrders=true:=by kernel_rfl
 replace hn:Γ.n=59:=hn
 refine sO hP hn hm [] [] [0] [] [] ?_
 obtain⟨t5339,e5340,H⟩:=Z4 H
 refine sR hP hn hm [(1,.call [] [(0,0)] [] [0] 0 (.ptr 0 0 0) [(0,some (.box 158 (Z3 ⟨a0,0,0⟩)))])] [(4,.ptr 0 0 0)] [0,4] [(0,some (.box 158 (Z3 ⟨a0,0,0⟩)))] [0] [_,_] ⟨Tryz.call41,Z48.ok a0 t5339 e5340,trivial⟩ ?_
 refine sO hP hn hm [(1,.k 1)] [(5,.ptr 1 0 0)] [0,4,5] [(1,some (.box 48 [iV .i64 0,iV .i64 0,iV .i64 0,iV .u64 0,iV .u64 0,iV .i64 0,.none0,.none0]))] [0,1] ?_
 refine AWp.seq ?_
 obtain⟨t5343,e5344,H⟩:=Z4 H
 refine sR hP hn hm [(1,.call [(0,0)] [(0,0)] [] [] 1 (bV t5343.1) [(0,some (.box 158 (Z3 ⟨a0,t5343.2.1,t5343.2.2⟩)))])] [(16,bV t5343.1)] [0,4,5,16] [(0,some (.box 158 (Z3 ⟨a0,t5343.2.1,t5343.2.2⟩)))] [0,1] [_,_] ⟨Tryz.call83,Z0y.ok a0 0 0 t5343 e5344,trivial⟩ ?_
 obtain⟨o6211,e6212,H⟩:=Z4 H
 refine AWp.mono (Q:=fun e s=>(match (generalizing:=false) o6211 with | x5346=>e = .normal∧s=⟨[(0,.im (.row (a0.map (Z2 .u8)))),(4,.ptr 2 0 0),(5,.ptr 3 0 0)],[(2,some (.box 158 (Z3 ⟨a0,t5343.2.1,t5343.2.2⟩))),(3,some (.box 48 [iV .i64 x5346,iV .i64 0,iV .i64 0,iV .u64 0,iV .u64 0,iV .i64 0,.none0,.none0]))],0⟩)) (AWp.cv ?_) ?_
 ·replace H:=e6212;clear e6212
  refine AWp.cond t5343.1 (by kernel_rfl) (fun c5345 => ?_) (fun c5345 => ?_)
  ·replace H:=iT c5345 H
   refine rO hP hn hm [] [] [0,4,5] [(1,some (.box 48 [iV .i64 1,iV .i64 0,iV .i64 0,iV .u64 0,iV .u64 0,iV .i64 0,.none0,.none0]))] [0,1] ?_
   obtain rfl:=sj H
   exact lf [(0,2),(1,3)] [] [] (by kernel_rfl) ⟨rfl,rfl⟩
  ·replace H:=iF c5345 H
   refine AWp.skip ?_
   obtain rfl:=sj H
   exact lf [(0,2),(1,3)] [] [] (by kernel_rfl) ⟨rfl,rfl⟩
 ·obtain⟨x5346,rfl⟩:∃ z,z=o6211:=⟨_,rfl⟩
  rintro e s ⟨rfl,rfl⟩
  obtain⟨t5349,e5350,H⟩:=Z4 H
  refine sR hP hn hm [(1,.call [(2,0)] [(0,2)] [] [] 1 (iV .u64 t5349.1) [(0,some (.box 158 (Z3 ⟨a0,t5349.2.1,t5349.2.2⟩)))])] [] [0,4,5] [(2,some (.box 158 (Z3 ⟨a0,t5349.2.1,t5349.2.2⟩))),(3,some (.box 48 [iV .i64 x5346,iV .i64 (i64.wrap ((i64.wrap (t5349.1))+(-4))),iV .i64 0,iV .u64 0,iV .u64 0,iV .i64 0,.none0,.none0]))] [2,3] [_,_] ⟨Tryz.call42,Z0c.ok a0 t5343.2.1 t5343.2.2 4 t5349 e5350,trivial⟩ ?_
  obtain⟨t5361,e5362,H⟩:=Z4 H
  refine sR hP hn hm [(1,.call [(2,0)] [(0,2)] [] [] 1 (iV .i64 t5361.1) [(0,some (.box 158 (Z3 ⟨a0,t5361.2.1,t5361.2.2⟩)))])] [(6,iV .i64 t5361.1)] [0,4,5,6] [(2,some (.box 158 (Z3 ⟨a0,t5361.2.1,t5361.2.2⟩)))] [2,3] [_,_] ⟨Tryz.call115,Z0p.ok a0 t5349.2.1 t5349.2.2 t5361 e5362,trivial⟩ ?_
  refine AWp.seq ?_
  refine AWp.seq ?_
  obtain⟨o6213,e6214,H⟩:=Z4 H
  refine AWp.mono (Q:=fun e s=>(match (generalizing:=false) o6213 with | x5365=>e = .normal∧s=⟨[(0,.im (.row (a0.map (Z2 .u8)))),(4,.ptr 4 0 0),(5,.ptr 5 0 0),(6,iV .i64 t5361.1),(30,bV x5365)],[(4,some (.box 158 (Z3 ⟨a0,t5361.2.1,t5361.2.2⟩))),(5,some (.box 48 [iV .i64 x5346,iV .i64 (i64.wrap ((i64.wrap (t5349.1))+(-4))),iV .i64 0,iV .u64 0,iV .u64 0,iV .i64 0,.none0,.none0]))],0⟩)) (AWp.cv ?_) ?_
  ·replace H:=e6214;clear e6214
   rcases Bool.eq_false_or_eq_true (decide (t5361.1<(-524288))) with c5364 | c5364
   ·replace H:=iT c5364 H
    refine rG hP hn hm [(2,.b true)] [(30,bV true)] [0,4,5,6,30] [] [2,3] [_] ⟨c5364,trivial⟩ ?_
    obtain rfl:=sj H
    exact lf [(2,4),(3,5)] [] [] (by kernel_rfl) ⟨rfl,rfl⟩
   ·replace H:=iF c5364 H
    refine rG hP hn hm [(2,.b false)] [(30,bV (decide (t5361.1>(262144:Int))))] [0,4,5,6,30] [] [2,3] [_] ⟨c5364,trivial⟩ ?_
    obtain rfl:=sj H
    exact lf [(2,4),(3,5)] [] [] (by kernel_rfl) ⟨rfl,rfl⟩
  ·obtain⟨x5365,rfl⟩:∃ z,z=o6213:=⟨_,rfl⟩
   rintro e s ⟨rfl,rfl⟩
   refine AWp.cond x5365 (by kernel_rfl) (fun c5366 => ?_) (fun c5366 => ?_)
   ·replace H:=iT c5366 H
    refine sO hP hn hm [] [(2,.none0),(3,iV .i64 6)] [2,3] [] [] ?_
    refine AWp.conv (inv:=[]) (vk:=[]) (e0:=[0]) (t:=⟨[(2,.own 0),(3,iV .i64 6)],[(0,some (.row 9 50 ([].map Z6)))],0⟩) (by kernel_rfl) ?_
    refine AWp.ret ?_
    obtain rfl:=sj H
    exact rl (.inl rfl) rfl (by kernel_rfl) (by kernel_rfl)
   ·replace H:=iF c5366 H
    refine AWp.skip ?_
    refine sO hP hn hm [] [] [0,4,5] [(5,some (.box 48 [iV .i64 x5346,iV .i64 (i64.wrap ((i64.wrap (t5349.1))+(-4))),iV .i64 t5361.1,iV .u64 0,iV .u64 0,iV .i64 0,.none0,.none0]))] [4,5] ?_
    obtain⟨t5505,e5506,H⟩:=Z4 H
    refine sR hP hn hm [(1,.call [(4,0)] [(0,4),(1,6)] [] [6] 1 (.agg [iV .i64 ((t5505.1).f0),.own 1]) [(0,some (.box 158 (Z3 ⟨a0,t5505.2.1,t5505.2.2⟩))),(1,some (.row 2 210 (((t5505.1).f1).map Z0q)))]),(2,.k 7)] [(7,.ptr 7 0 0)] [0,4,5,7] [(4,some (.box 158 (Z3 ⟨a0,t5505.2.1,t5505.2.2⟩))),(6,some (.row 2 210 (((t5505.1).f1).map Z0q))),(7,some (.box 179 [iV .i64 ((t5505.1).f0),.own 6]))] [4,5,6,7] [_,_] ⟨Tryz.call116,Z1s.ok a0 t5361.2.1 t5361.2.2 512 t5505 e5506,trivial⟩ ?_
    obtain⟨t5509,e5510,H⟩:=Z4 H
    refine sR hP hn hm [(1,.call [(4,0)] [(0,4),(1,8)] [] [8] 1 (.agg [iV .i64 ((t5509.1).f0),.own 1]) [(0,some (.box 158 (Z3 ⟨a0,t5509.2.1,t5509.2.2⟩))),(1,some (.row 2 210 (((t5509.1).f1).map Z0q)))]),(2,.k 9)] [(8,.ptr 9 0 0)] [0,4,5,7,8] [(4,some (.box 158 (Z3 ⟨a0,t5509.2.1,t5509.2.2⟩))),(8,some (.row 2 210 (((t5509.1).f1).map Z0q))),(9,some (.box 179 [iV .i64 ((t5509.1).f0),.own 8]))] [4,5,6,7,8,9] [_,_] ⟨Tryz.call116,Z1s.ok a0 t5505.2.1 t5505.2.2 512 t5509 e5510,trivial⟩ ?_
    refine AWp.seq ?_
    refine AWp.conv (inv:=[(5,5),(7,7),(4,4),(9,9)]) (vk:=[6,8]) (e0:=[]) (t:=⟨[(0,.im (.row (a0.map (Z2 .u8)))),(4,.ptr 4 0 0),(5,.ptr 5 0 0),(7,.ptr 7 0 0),(8,.ptr 9 0 0)],[(4,some (.box 158 (Z3 ⟨a0,t5509.2.1,t5509.2.2⟩))),(5,some (.box 48 [iV .i64 x5346,iV .i64 (i64.wrap ((i64.wrap (t5349.1))+(-4))),iV .i64 t5361.1,iV .u64 0,iV .u64 0,iV .i64 0,.none0,.none0])),(7,some (.box 179 (Zj (t5505.1)))),(9,some (.box 179 (Zj (t5509.1))))],0⟩) (by kernel_rfl) ?_
    obtain⟨t6097,e6098,H⟩:=Z4 H
    refine rG hP hn hm [(4,.call [(4,0)] [(0,4),(1,10)] [] [10] 1 (.own 1) [(0,some (.box 158 (Z3 ⟨a0,t6097.2.1,t6097.2.2⟩))),(1,some (.row 9 50 (t6097.1.map Z6)))])] [(9,.own 10)] [0,4,9] [(4,some (.box 158 (Z3 ⟨a0,t6097.2.1,t6097.2.2⟩))),(10,some (.row 9 50 (t6097.1.map Z6)))] [4,10] [_,_] ⟨Tryz.call117,Z0s.ok a0 t5509.2.1 t5509.2.2 (⟨x5346,i64.wrap ((i64.wrap (t5349.1))+(-4)),t5361.1,0,0,0,[],[]⟩:Z0f) (t5505.1) (t5509.1) t6097 e6098,trivial⟩ ?_
    refine AWp.seq ?_
    obtain⟨t6164,e6165,H⟩:=Z4 H
    refine sR hP hn hm [(1,.call [(4,0)] [(0,4)] [] [] 1 (iV .i64 t6164.1) [(0,some (.box 158 (Z3 ⟨a0,t6164.2.1,t6164.2.2⟩)))])] [(44,bV (t6164.1 != (0:Int)))] [0,9,44] [] [10] [_,_] ⟨Tryz.call49,Z0r.ok a0 t6097.2.1 t6097.2.2 t6164 e6165,trivial⟩ ?_
    refine AWp.cond (t6164.1 != (0:Int)) (by kernel_rfl) (fun c6166 => ?_) (fun c6166 => ?_)
    ·replace H:=iT c6166 H
     refine sO hP hn hm [] [(2,.none0),(3,iV .i64 6)] [2,3] [] [] ?_
     refine AWp.conv (inv:=[]) (vk:=[]) (e0:=[0]) (t:=⟨[(2,.own 0),(3,iV .i64 6)],[(0,some (.row 9 50 ([].map Z6)))],0⟩) (by kernel_rfl) ?_
     refine AWp.ret ?_
     obtain rfl:=sj H
     exact rl (.inl rfl) rfl (by kernel_rfl) (by kernel_rfl)
    ·replace H:=iF c6166 H
     refine AWp.skip ?_
     obtain⟨t6169,e6170,H⟩:=Z4 H
     refine sR hP hn hm [(1,.more (Z51 [] [(0,11)] [10] [11] 0 (.tup [.own 0,iV .i64 t6169.2]) [(0,some (.row 1 5 (t6169.1.map (Z2 .u8))))]))] [(10,.own 11),(11,iV .i64 t6169.2)] [0,9,10,11] [(11,some (.row 1 5 (t6169.1.map (Z2 .u8))))] [10,11] [_,_,∀ c∈t6169.1.map (Z2 .u8),∀ x∈c,∃ v,x=Im.sc v] ⟨Tryz.call73,Z1c.ok t6097.1 t6169 e6170,by exact Z5n _ _ (fun _=>by simp),trivial⟩ ?_
     refine AWp.seq ?_
     refine AWp.seq ?_
     obtain⟨o6215,e6216,H⟩:=Z4 H
     refine AWp.mono (Q:=fun e s=>(match (generalizing:=false) o6215 with | x6209=>e = .normal∧s=⟨[(9,.own 12),(57,bV x6209)],[(12,some (.row 9 50 (t6097.1.map Z6)))],0⟩)) (AWp.cv ?_) ?_
     ·replace H:=e6216;clear e6216
      rcases Bool.eq_false_or_eq_true (t6169.2 != (0:Int)) with c6206 | c6206
      ·replace H:=iT c6206 H
       refine rG hP hn hm [(2,.b true)] [(57,bV true)] [9,57] [] [10] [_] ⟨c6206,trivial⟩ ?_
       obtain rfl:=sj H
       exact lf [(10,12)] [] [] (by kernel_rfl) ⟨rfl,rfl⟩
      ·replace H:=iF c6206 H
       obtain⟨t6207,e6208,H⟩:=Z4 H
       refine rG hP hn hm [(2,.b false),(5,.call [] [] [11] [] 0 (bV t6207) [])] [(57,bV (!t6207))] [9,57] [] [10] [_,_,_] ⟨c6206,Tryz.call61,Z1g.ok t6169.1 a0 t6207 e6208,trivial⟩ ?_
       obtain rfl:=sj H
       exact lf [(10,12)] [] [] (by kernel_rfl) ⟨rfl,rfl⟩
     ·obtain⟨x6209,rfl⟩:∃ z,z=o6215:=⟨_,rfl⟩
      rintro e s ⟨rfl,rfl⟩
      refine AWp.cond x6209 (by kernel_rfl) (fun c6210 => ?_) (fun c6210 => ?_)
      ·replace H:=iT c6210 H
       refine sO hP hn hm [] [(2,.none0),(3,iV .i64 6)] [2,3] [] [] ?_
       refine AWp.conv (inv:=[]) (vk:=[]) (e0:=[0]) (t:=⟨[(2,.own 0),(3,iV .i64 6)],[(0,some (.row 9 50 ([].map Z6)))],0⟩) (by kernel_rfl) ?_
       refine AWp.ret ?_
       obtain rfl:=sj H
       exact rl (.inl rfl) rfl (by kernel_rfl) (by kernel_rfl)
      ·replace H:=iF c6210 H
       refine AWp.skip ?_
       refine sO hP hn hm [] [(2,.own 12),(3,iV .i64 0)] [2,3] [] [12] ?_
       refine AWp.conv (inv:=[(12,0)]) (vk:=[]) (e0:=[]) (t:=⟨[(2,.own 0),(3,iV .i64 0)],[(0,some (.row 9 50 (t6097.1.map Z6)))],0⟩) (by kernel_rfl) ?_
       refine AWp.ret ?_
       obtain rfl:=sj H
       exact rl (.inl rfl) rfl (by kernel_rfl) (by kernel_rfl)
def Z1i.l0 (a0_c0:List Int) (t5325:Int×Int×Int) (x6226:Int) (x6227:Int) (x6228:List Zt) (x6229:Int):Option (((List Zt)×Bool×Int×Int) ⊕ ((List Zt)×Int×Int)):=((if(decide (x6229<t5325.1))=true then((Z00.f a0_c0 x6226 x6227)>>=fun t6234=>some (x6227==(0:Int))) else(some false)):Option (Bool))>>=fun x6236=>if x6236=true then((Z13.f a0_c0 x6226 x6227)>>=fun t6242=>(Z43.f (Z6x t6242.1))>>=fun t6244=>if(t6244.2 != (0:Int))=true then(some (.inl ([],false,t6242.2.1,t6242.2.2))) else((chk ((x6228.length+t6244.1.length)*104≤140737488355328))>>=fun _=>Z1i.l0 a0_c0 t5325 t6242.2.1 t6242.2.2 (x6228++t6244.1) (i64.wrap (x6229+(1:Int))))) else(some (.inr (x6228,x6226,x6227)))
partial_fixpoint
def Z1i.f (a0_c0:List Int) (a0_c1:Int) (a0_c2:Int):Option ((List Zt)×Bool×Int×Int):=(Zh.f a0_c0 a0_c1 a0_c2 65536)>>=fun t5325=>(Z1i.l0 a0_c0 t5325 t5325.2.1 t5325.2.2 [] 0)>>=fun oo=>match oo with | .inl rr=>(some rr) | .inr (x6249,x6250,x6251)=>((Zv.f x6249)>>=fun t6254=>some (x6249,t6254,x6250,x6251))
theorem Z1i.ok (a0_c0:List Int) (a0_c1:Int) (a0_c2:Int) (r:(List Zt)×Bool×Int×Int) (H:Z1i.f a0_c0 a0_c1 a0_c2=some r):Pv.Fn Tryz.prog 46 [.ptr 0 0 0] [(0,some (.box 158 (Z3 ⟨a0_c0,a0_c1,a0_c2⟩)))] 1 (fun x o=>x = .tup [.own 1,bV r.2.1]∧o=[(0,some (.box 158 (Z3 ⟨a0_c0,r.2.2.1,r.2.2.2⟩))),(1,some (.row 9 50 (r.1.map Z6)))]):=by
 unfold Z1i.f at H
 refine Fn.bodyK [0,1] Tryz.func46 rfl rfl (fun Γ hP hn => ?_)
 have hm:Tryz.prog.follows .mixedOrders=true:=by kernel_rfl
 replace hn:Γ.n=36:=hn
 refine sO hP hn hm [] [] [0] [] [0] ?_
 refine sO hP hn hm [] [(4,.none0)] [0,4] [] [0] ?_
 obtain⟨t5325,e5326,H⟩:=Z4 H
 refine sR hP hn hm [(1,.call [(0,0)] [(0,0)] [] [] 1 (iV .i64 t5325.1) [(0,some (.box 158 (Z3 ⟨a0_c0,t5325.2.1,t5325.2.2⟩)))])] [(5,iV .i64 t5325.1)] [0,4,5] [(0,some (.box 158 (Z3 ⟨a0_c0,t5325.2.1,t5325.2.2⟩)))] [0] [_,_] ⟨Tryz.call43,Zh.ok a0_c0 a0_c1 a0_c2 65536 t5325 e5326,trivial⟩ ?_
 refine AWp.seq ?_
 refine sO hP hn hm [] [(6,iV .i64 0)] [0,4,5,6] [] [0] ?_
 refine AWp.block ?_
 obtain⟨o6256,e6257,H⟩:=Z4 H
 refine AWp.loop (LWp.conv (inv:=[(0,0)]) (vk:=[]) (e0:=[3]) (t:=⟨[(0,.ptr 0 0 0),(4,.own 3),(5,iV .i64 t5325.1),(6,iV .i64 0)],[(0,some (.box 158 (Z3 ⟨a0_c0,t5325.2.1,t5325.2.2⟩))),(3,some (.row 9 50 ([].map Z6)))],1⟩) (by kernel_rfl) ?_)
 refine LWp.mono (Q:=fun e s=>(match (generalizing:=false) o6256 with | .inl rr=>e = .ret∧s.floor=1∧Z1y Tryz.prog Tryz.f46 s=some (.tup [.own 1,bV rr.2.1])∧([(0,s.obj 0),(1,s.obj 1)]:List (Nat×Option MObj))=[(0,some (.box 158 (Z3 ⟨a0_c0,rr.2.2.1,rr.2.2.2⟩))),(1,some (.row 9 50 (rr.1.map Z6)))] | .inr (x6249,x6250,x6251)=>e = .exit 0∧s=⟨[(4,.own 7)],[(0,some (.box 158 (Z3 ⟨a0_c0,x6250,x6251⟩))),(7,some (.row 9 50 (x6249.map Z6)))],1⟩)) (LWp.cv (Zs (fun body hbody => ?_))) ?_
 ·refine                 Z1i.l0.partial_correctness a0_c0 t5325 (motive:=fun x6226 x6227 x6228 x6229 o6256=>LWp Γ body (fun e s=>∃ t,Cv Γ s t∧(match (generalizing:=false) o6256 with | .inl rr=>e = .ret∧t.floor=1∧Z1y   Tryz.prog Tryz.f46 t=some (.tup [.own 1,bV rr.2.1])∧([(0,t.obj 0),(1,t.obj 1)]:List (Nat×Option MObj))=[(0,some (.box 158 (Z3           ⟨a0_c0,rr.2.2.1,rr.2.2.2⟩))),(1,some (.row 9 50 (rr.1.map Z6     )))] | .inr (x6249,x6250,x6251)=>e = .exit 0∧t=⟨[(4,.own 7)],[(0,some (.box 158 (Z3           ⟨a0_c0,x6250,x6251⟩))),(7,some (.row 9 50 (x6249.map Z6     )))],1⟩)) ⟨[(0,.ptr 0 0 0),(4,.own 3),(5,iV .i64 t5325.1),(6,iV .i64 x6229)],[(0,some (.box 158 (Z3           ⟨a0_c0,x6226,x6227⟩))),(3,some (.row 9 50 (x6228.map Z6     )))],1⟩) ?_ _ _ _ _ _ e6257
  clear H e6257 o6256;intro self ih x6226 x6227 x6228 x6229 o6256 H
  subst hbody
  refine LWp.round ?_
  refine AWp.seq ?_
  refine AWp.seq ?_
  obtain⟨o6258,e6259,H⟩:=Z4 H
  refine AWp.mono (Q:=fun e s=>(match (generalizing:=false) o6258 with | x6236=>e = .normal∧s=⟨[(0,.ptr 0 0 0),(4,.own 4),(5,iV .i64 t5325.1),(6,iV .i64 x6229),(18,bV x6236)],[(0,some (.box 158 (Z3 ⟨a0_c0,x6226,x6227⟩))),(4,some (.row 9 50 (x6228.map Z6)))],1⟩)) (AWp.cv ?_) ?_
  ·replace H:=e6259;clear e6259
   rcases Bool.eq_false_or_eq_true (decide (x6229<t5325.1)) with c6233 | c6233
   ·replace H:=iT c6233 H
    obtain⟨t6234,e6235,H⟩:=Z4 H
    refine rG hP hn hm [(3,.b true),(5,.call [(0,0)] [(0,0)] [] [] 1 (iV .i64 x6227) [(0,some (.box 158 (Z3 ⟨a0_c0,x6226,x6227⟩)))])] [(15,.ptr 0 0 0),(16,iV .i64 x6227),(17,bV (x6227==(0:Int))),(18,bV (x6227==(0:Int)))] [0,4,5,6,15,16,17,18] [] [0,3] [_,_,_] ⟨c6233,Tryz.call44,Z00.ok a0_c0 x6226 x6227 t6234 e6235,trivial⟩ ?_
    obtain rfl:=sj H
    exact lf [(0,0),(3,4)] [] [] (by kernel_rfl) ⟨rfl,rfl⟩
   ·replace H:=iF c6233 H
    refine rG hP hn hm [(3,.b false)] [(18,bV false)] [0,4,5,6,18] [] [0,3] [_] ⟨c6233,trivial⟩ ?_
    obtain rfl:=sj H
    exact lf [(0,0),(3,4)] [] [] (by kernel_rfl) ⟨rfl,rfl⟩
  ·obtain⟨x6236,rfl⟩:∃ z,z=o6258:=⟨_,rfl⟩
   rintro e s ⟨rfl,rfl⟩
   refine AWp.cond x6236 (by kernel_rfl) (fun c6237 => ?_) (fun c6237 => ?_)
   ·replace H:=iT c6237 H
    refine AWp.skip ?_
    refine AWp.seq ?_
    refine AWp.block ?_
    obtain⟨t6242,e6243,H⟩:=Z4 H
    obtain⟨t6244,e6245,H⟩:=Z4 H
    refine sR hP hn hm [(1,.call [(0,0)] [(0,0)] [] [] 1 (sV t6242.1) [(0,some (.box 158 (Z3 ⟨a0_c0,t6242.2.1,t6242.2.2⟩)))]),(2,.more xBytes),(3,.call [] [(0,5)] [] [5] 0 (.tup [.own 0,iV .i64 t6244.2]) [(0,some (.row 9 50 (t6244.1.map Z6)))])] [(7,.own 5),(8,iV .i64 t6244.2)] [0,4,5,6,7,8] [(0,some (.box 158 (Z3 ⟨a0_c0,t6242.2.1,t6242.2.2⟩))),(5,some (.row 9 50 (t6244.1.map Z6)))] [0,4,5] [_,_,_,_] ⟨Tryz.call45,Z13.ok a0_c0 x6226 x6227 t6242 e6243,Tryz.call87,Z43.ok (Z6x t6242.1) t6244 e6245,trivial⟩ ?_
    refine AWp.seq ?_
    refine sO hP hn hm [] [(29,bV (t6244.2 != (0:Int)))] [0,4,5,6,7,29] [] [0,4,5] ?_
    refine AWp.cond (t6244.2 != (0:Int)) (by kernel_rfl) (fun c6246 => ?_) (fun c6246 => ?_)
    ·replace H:=iT c6246 H
     refine sO hP hn hm [] [(2,.none0),(3,bV false)] [2,3] [] [0] ?_
     refine AWp.conv (inv:=[(0,0)]) (vk:=[]) (e0:=[1]) (t:=⟨[(2,.own 1),(3,bV false)],[(0,some (.box 158 (Z3 ⟨a0_c0,t6242.2.1,t6242.2.2⟩))),(1,some (.row 9 50 ([].map Z6)))],1⟩) (by kernel_rfl) ?_
     refine AWp.ret ?_
     obtain rfl:=sj H
     exact rl rfl rfl (by kernel_rfl) (by kernel_rfl)
    ·replace H:=iF c6246 H
     refine AWp.skip ?_
     obtain⟨c6248,H⟩:=Z10 H
     refine rG hP hn hm [(2,.app 6 ((x6228++t6244.1).map Z6))] [(4,.own 6)] [0,4,5,6] [(6,some (.row 9 50 ((x6228++t6244.1).map Z6)))] [0,6] [(x6228++t6244.1).map Z6=(x6228.map Z6)++(t6244.1.map Z6),∀ c∈(t6244.1.map Z6),c.length=9,∀ c∈(t6244.1.map Z6),Z16 (c.map .im)=true,((x6228.map Z6).length+(t6244.1.map Z6).length)*104≤140737488355328] ⟨by simp,by exact Z12 _ _ _ (fun _=>rfl),by exact Z14 _ _ (fun _=>rfl),by simpa using c6248,trivial⟩ ?_
     refine rO hP hn hm [] [(6,iV .i64 (i64.wrap (x6229+(1:Int))))] [0,4,5,6] [] [0,6] ?_
     exact LWp.conv [(0,0),(6,3)] [] [] (by kernel_rfl) (ih _ _ _ _ _ H)
   ·replace H:=iF c6237 H
    refine AWp.exit ?_
    obtain rfl:=sj H
    exact lf [(4,7),(0,0)] [] [] (by kernel_rfl) ⟨rfl,rfl⟩
 ·rcases o6256 with rr | ⟨x6249,x6250,x6251⟩
  ·skip
   rintro e s ⟨rfl,hfl,hres⟩
   obtain rfl:=sj H
   exact Exists.intro _ (And.intro (fun _ _ h=>h) (And.intro (.inl rfl) (And.intro hfl hres)))
  ·skip
   rintro e s ⟨rfl,rfl⟩
   obtain⟨t6254,e6255,H⟩:=Z4 H
   refine sR hP hn hm [(2,.call [] [] [7] [] 0 (bV t6254) [])] [(2,.own 7),(3,bV t6254)] [2,3] [] [0,7] [_,_] ⟨Tryz.call18,Zv.ok x6249 t6254 e6255,trivial⟩ ?_
   refine AWp.conv (inv:=[(0,0),(7,1)]) (vk:=[]) (e0:=[]) (t:=⟨[(2,.own 1),(3,bV t6254)],[(0,some (.box 158 (Z3 ⟨a0_c0,x6250,x6251⟩))),(1,some (.row 9 50 (x6249.map Z6)))],1⟩) (by kernel_rfl) ?_
   refine AWp.ret ?_
   obtain rfl:=sj H
   exact rl (.inl rfl) rfl (by kernel_rfl) (by kernel_rfl)
def Z2c.l0 (a0_c0:List Int) (t6336:Int×Int×Int) (x6363:Int) (x6364:Int) (x6365:List Z5) (x6366:Int) (x6367:Int):Option (Int×Int×(List Z5)):=((if(decide (x6367<t6336.1))=true then((Z00.f a0_c0 x6363 x6364)>>=fun t6372=>some (x6364==(0:Int))) else(some false)):Option (Bool))>>=fun x6374=>if x6374=true then((Zh.f a0_c0 x6363 x6364 1099511627776)>>=fun t6378=>(Zh.f a0_c0 t6378.2.1 t6378.2.2 1099511627776)>>=fun t6382=>((if(decide ((i64.wrap ((i64.wrap (x6366+t6378.1))+t6382.1))>(1099511627776:Int)))=true then((Zh.f a0_c0 t6382.2.1 t6382.2.2 (-1))>>=fun t6387=>some (t6387.2.1,t6387.2.2)) else(some (t6382.2.1,t6382.2.2))):Option (Int×Int))>>=fun oo=>match oo with | (x6389,x6390)=>((chk ((x6365.length+[(⟨i64.wrap (x6366+t6378.1),i64.wrap ((i64.wrap (x6366+t6378.1))+t6382.1)⟩:Z5)].length)*16≤140737488355328))>>=fun _=>Z2c.l0 a0_c0 t6336 x6389 x6390 (x6365++[(⟨i64.wrap (x6366+t6378.1),i64.wrap ((i64.wrap (x6366+t6378.1))+t6382.1)⟩:Z5)]) (i64.wrap ((i64.wrap ((i64.wrap (x6366+t6378.1))+t6382.1))+(2:Int))) (i64.wrap (x6367+(1:Int))))) else(some (x6363,x6364,x6365))
partial_fixpoint
def Z2c.f (a0_c0:List Int) (a0_c1:Int) (a0_c2:Int) (a1:Int):Option (Z2p×Int×Int):=(Zh.f a0_c0 a0_c1 a0_c2 a1)>>=fun t6336=>(Z2c.l0 a0_c0 t6336 t6336.2.1 t6336.2.2 [] 0 0)>>=fun oo=>match oo with | (x6393,x6394,x6395)=>((Z00.f a0_c0 x6393 x6394)>>=fun t6398=>if(x6394 != (0:Int))=true then(some ((⟨[]⟩:Z2p),x6393,x6394)) else(some ((⟨x6395⟩:Z2p),x6393,x6394)))
theorem Z2c.ok (a0_c0:List Int) (a0_c1:Int) (a0_c2:Int) (a1:Int) (r:Z2p×Int×Int) (H:Z2c.f a0_c0 a0_c1 a0_c2 a1=some r):Pv.Fn Tryz.prog 47 [.ptr 0 0 0,iV .i64 a1] [(0,some (.box 158 (Z3 ⟨a0_c0,a0_c1,a0_c2⟩)))] 1 (fun x o=>x = .agg [.own 1]∧o=[(0,some (.box 158 (Z3 ⟨a0_c0,r.2.1,r.2.2⟩))),(1,some (.row 2 92 (((r.1).f0).map Z0)))]):=by
 unfold Z2c.f at H
 refine Fn.bodyK [0,1] Tryz.func47 rfl rfl (fun Γ hP hn => ?_)
 have hm:Tryz.prog.follows .mixedOrders=true:=by kernel_rfl
 replace hn:Γ.n=50:=hn
 refine sO hP hn hm [(0,.k 1)] [(4,.ptr 1 0 0)] [0,1,4] [(1,some (.box 97 [.none0]))] [0,1] ?_
 refine sO hP hn hm [] [(5,.none0)] [0,1,4,5] [] [0,1] ?_
 refine sO hP hn hm [] [(6,iV .i64 0)] [0,1,4,5,6] [] [0,1] ?_
 obtain⟨t6336,e6337,H⟩:=Z4 H
 refine sR hP hn hm [(2,.call [(0,0)] [(0,0)] [] [] 1 (iV .i64 t6336.1) [(0,some (.box 158 (Z3 ⟨a0_c0,t6336.2.1,t6336.2.2⟩)))])] [(7,iV .i64 t6336.1)] [0,4,5,6,7] [(0,some (.box 158 (Z3 ⟨a0_c0,t6336.2.1,t6336.2.2⟩)))] [0,1] [_,_] ⟨Tryz.call43,Zh.ok a0_c0 a0_c1 a0_c2 a1 t6336 e6337,trivial⟩ ?_
 refine AWp.seq ?_
 refine sO hP hn hm [] [(8,iV .i64 0)] [0,4,5,6,7,8] [] [0,1] ?_
 refine AWp.block ?_
 obtain⟨o6401,e6402,H⟩:=Z4 H
 refine AWp.loop (LWp.conv (inv:=[(0,0),(1,6)]) (vk:=[]) (e0:=[7]) (t:=⟨[(0,.ptr 0 0 0),(4,.ptr 6 0 0),(5,.own 7),(6,iV .i64 0),(7,iV .i64 t6336.1),(8,iV .i64 0)],[(0,some (.box 158 (Z3 ⟨a0_c0,t6336.2.1,t6336.2.2⟩))),(6,some (.box 97 [.none0])),(7,some (.row 2 92 ([].map Z0)))],1⟩) (by kernel_rfl) ?_)
 refine LWp.mono (Q:=fun e s=>(match (generalizing:=false) o6401 with | (x6393,x6394,x6395)=>e = .exit 0∧s=⟨[(0,.ptr 0 0 0),(4,.ptr 14 0 0),(5,.own 15)],[(0,some (.box 158 (Z3 ⟨a0_c0,x6393,x6394⟩))),(14,some (.box 97 [.none0])),(15,some (.row 2 92 (x6395.map Z0)))],1⟩)) (LWp.cv (Zs (fun body hbody => ?_))) ?_
 ·refine             Z2c.l0.partial_correctness a0_c0 t6336 (motive:=fun x6363 x6364 x6365 x6366 x6367 o6401=>LWp Γ body (fun e s=>∃ t,Cv Γ s t∧(match (generalizing:=false) o6401 with | (x6393,x6394,x6395)=>e = .exit 0∧t=⟨[(0,.ptr 0 0 0),(4,.ptr 14 0 0),(5,.own 15)],[(0,some (.box 158 (Z3           ⟨a0_c0,x6393,x6394⟩))),(14,some (.box 97 [.none0])),(15,some (.row 2 92 (x6395.map Z0         )))],1⟩)) ⟨[(0,.ptr 0 0 0),(4,.ptr 6 0 0),(5,.own 7),(6,iV .i64 x6366),(7,iV .i64 t6336.1),(8,iV .i64 x6367)],[(0,some (.box 158 (Z3           ⟨a0_c0,x6363,x6364⟩))),(6,some (.box 97 [.none0])),(7,some (.row 2 92 (x6365.map Z0         )))],1⟩) ?_ _ _ _ _ _ _ e6402
  clear H e6402 o6401;intro self ih x6363 x6364 x6365 x6366 x6367 o6401 H
  subst hbody
  refine LWp.round ?_
  refine AWp.seq ?_
  refine AWp.seq ?_
  obtain⟨o6403,e6404,H⟩:=Z4 H
  refine AWp.mono (Q:=fun e s=>(match (generalizing:=false) o6403 with | x6374=>e = .normal∧s=⟨[(0,.ptr 0 0 0),(4,.ptr 8 0 0),(5,.own 9),(6,iV .i64 x6366),(7,iV .i64 t6336.1),(8,iV .i64 x6367),(21,bV x6374)],[(0,some (.box 158 (Z3 ⟨a0_c0,x6363,x6364⟩))),(8,some (.box 97 [.none0])),(9,some (.row 2 92 (x6365.map Z0)))],1⟩)) (AWp.cv ?_) ?_
  ·replace H:=e6404;clear e6404
   rcases Bool.eq_false_or_eq_true (decide (x6367<t6336.1)) with c6371 | c6371
   ·replace H:=iT c6371 H
    obtain⟨t6372,e6373,H⟩:=Z4 H
    refine rG hP hn hm [(3,.b true),(5,.call [(0,0)] [(0,0)] [] [] 1 (iV .i64 x6364) [(0,some (.box 158 (Z3 ⟨a0_c0,x6363,x6364⟩)))])] [(18,.ptr 0 0 0),(19,iV .i64 x6364),(20,bV (x6364==(0:Int))),(21,bV (x6364==(0:Int)))] [0,4,5,6,7,8,18,19,20,21] [] [0,6,7] [_,_,_] ⟨c6371,Tryz.call44,Z00.ok a0_c0 x6363 x6364 t6372 e6373,trivial⟩ ?_
    obtain rfl:=sj H
    exact lf [(0,0),(6,8),(7,9)] [] [] (by kernel_rfl) ⟨rfl,rfl⟩
   ·replace H:=iF c6371 H
    refine rG hP hn hm [(3,.b false)] [(21,bV false)] [0,4,5,6,7,8,21] [] [0,6,7] [_] ⟨c6371,trivial⟩ ?_
    obtain rfl:=sj H
    exact lf [(0,0),(6,8),(7,9)] [] [] (by kernel_rfl) ⟨rfl,rfl⟩
  ·obtain⟨x6374,rfl⟩:∃ z,z=o6403:=⟨_,rfl⟩
   rintro e s ⟨rfl,rfl⟩
   refine AWp.cond x6374 (by kernel_rfl) (fun c6375 => ?_) (fun c6375 => ?_)
   ·replace H:=iT c6375 H
    refine AWp.skip ?_
    refine AWp.seq ?_
    refine AWp.block ?_
    obtain⟨t6378,e6379,H⟩:=Z4 H
    refine sR hP hn hm [(2,.call [(0,0)] [(0,0)] [] [] 1 (iV .i64 t6378.1) [(0,some (.box 158 (Z3 ⟨a0_c0,t6378.2.1,t6378.2.2⟩)))])] [(9,iV .i64 (i64.wrap (x6366+t6378.1)))] [0,4,5,7,8,9] [(0,some (.box 158 (Z3 ⟨a0_c0,t6378.2.1,t6378.2.2⟩)))] [0,8,9] [_,_] ⟨Tryz.call43,Zh.ok a0_c0 x6363 x6364 1099511627776 t6378 e6379,trivial⟩ ?_
    obtain⟨t6382,e6383,H⟩:=Z4 H
    refine sR hP hn hm [(2,.call [(0,0)] [(0,0)] [] [] 1 (iV .i64 t6382.1) [(0,some (.box 158 (Z3 ⟨a0_c0,t6382.2.1,t6382.2.2⟩)))])] [(10,iV .i64 (i64.wrap ((i64.wrap (x6366+t6378.1))+t6382.1)))] [0,4,5,7,8,9,10] [(0,some (.box 158 (Z3 ⟨a0_c0,t6382.2.1,t6382.2.2⟩)))] [0,8,9] [_,_] ⟨Tryz.call43,Zh.ok a0_c0 t6378.2.1 t6378.2.2 1099511627776 t6382 e6383,trivial⟩ ?_
    refine AWp.seq ?_
    refine sO hP hn hm [] [(33,bV (decide ((i64.wrap ((i64.wrap (x6366+t6378.1))+t6382.1))>(1099511627776:Int))))] [0,4,5,7,8,9,10,33] [] [0,8,9] ?_
    obtain⟨o6405,e6406,H⟩:=Z4 H
    refine AWp.mono (Q:=fun e s=>(match (generalizing:=false) o6405 with | (x6389,x6390)=>e = .normal∧s=⟨[(0,.ptr 0 0 0),(4,.ptr 10 0 0),(5,.own 11),(7,iV .i64 t6336.1),(8,iV .i64 x6367),(9,iV .i64 (i64.wrap (x6366+t6378.1))),(10,iV .i64 (i64.wrap ((i64.wrap (x6366+t6378.1))+t6382.1)))],[(0,some (.box 158 (Z3 ⟨a0_c0,x6389,x6390⟩))),(10,some (.box 97 [.none0])),(11,some (.row 2 92 (x6365.map Z0)))],1⟩)) (AWp.cv ?_) ?_
    ·replace H:=e6406;clear e6406
     refine AWp.cond (decide ((i64.wrap ((i64.wrap (x6366+t6378.1))+t6382.1))>(1099511627776:Int))) (by kernel_rfl) (fun c6384 => ?_) (fun c6384 => ?_)
     ·replace H:=iT c6384 H
      obtain⟨t6387,e6388,H⟩:=Z4 H
      refine rG hP hn hm [(1,.call [(0,0)] [(0,0)] [] [] 1 (iV .i64 t6387.1) [(0,some (.box 158 (Z3 ⟨a0_c0,t6387.2.1,t6387.2.2⟩)))])] [] [0,4,5,7,8,9,10] [(0,some (.box 158 (Z3 ⟨a0_c0,t6387.2.1,t6387.2.2⟩)))] [0,8,9] [_,_] ⟨Tryz.call43,Zh.ok a0_c0 t6382.2.1 t6382.2.2 (-1) t6387 e6388,trivial⟩ ?_
      obtain rfl:=sj H
      exact lf [(0,0),(8,10),(9,11)] [] [] (by kernel_rfl) ⟨rfl,rfl⟩
     ·replace H:=iF c6384 H
      refine AWp.skip ?_
      obtain rfl:=sj H
      exact lf [(0,0),(8,10),(9,11)] [] [] (by kernel_rfl) ⟨rfl,rfl⟩
    ·obtain⟨x6389,x6390⟩:=o6405
     rintro e s ⟨rfl,rfl⟩
     obtain⟨c6392,H⟩:=Z10 H
     refine sR hP hn hm [(4,.app 12 ([(⟨i64.wrap (x6366+t6378.1),i64.wrap ((i64.wrap (x6366+t6378.1))+t6382.1)⟩:Z5)].map Z0)),(5,.app 13 ((x6365++[(⟨i64.wrap (x6366+t6378.1),i64.wrap ((i64.wrap (x6366+t6378.1))+t6382.1)⟩:Z5)]).map Z0))] [(5,.own 13)] [0,4,5,7,8,10] [(13,some (.row 2 92 ((x6365++[(⟨i64.wrap (x6366+t6378.1),i64.wrap ((i64.wrap (x6366+t6378.1))+t6382.1)⟩:Z5)]).map Z0)))] [0,10,13] [[(⟨i64.wrap (x6366+t6378.1),i64.wrap ((i64.wrap (x6366+t6378.1))+t6382.1)⟩:Z5)].map Z0=[[iI .i64 (i64.wrap (x6366+t6378.1)),iI .i64 (i64.wrap ((i64.wrap (x6366+t6378.1))+t6382.1))]],(x6365++[(⟨i64.wrap (x6366+t6378.1),i64.wrap ((i64.wrap (x6366+t6378.1))+t6382.1)⟩:Z5)]).map Z0=(x6365.map Z0)++([(⟨i64.wrap (x6366+t6378.1),i64.wrap ((i64.wrap (x6366+t6378.1))+t6382.1)⟩:Z5)].map Z0),∀ c∈([(⟨i64.wrap (x6366+t6378.1),i64.wrap ((i64.wrap (x6366+t6378.1))+t6382.1)⟩:Z5)].map Z0),c.length=2,∀ c∈([(⟨i64.wrap (x6366+t6378.1),i64.wrap ((i64.wrap (x6366+t6378.1))+t6382.1)⟩:Z5)].map Z0),Z16 (c.map .im)=true,((x6365.map Z0).length+([(⟨i64.wrap (x6366+t6378.1),i64.wrap ((i64.wrap (x6366+t6378.1))+t6382.1)⟩:Z5)].map Z0).length)*16≤140737488355328] ⟨by exact rfl,by simp,by exact Z12 _ _ _ (fun _=>rfl),by exact Z14 _ _ (fun _=>rfl),by simpa using c6392,trivial⟩ ?_
     refine rO hP hn hm [] [(6,iV .i64 (i64.wrap ((i64.wrap ((i64.wrap (x6366+t6378.1))+t6382.1))+(2:Int))))] [0,4,5,6,7,8] [] [0,10,13] ?_
     refine rO hP hn hm [] [(8,iV .i64 (i64.wrap (x6367+(1:Int))))] [0,4,5,6,7,8] [] [0,10,13] ?_
     exact LWp.conv [(0,0),(10,6),(13,7)] [] [] (by kernel_rfl) (ih _ _ _ _ _ _ H)
   ·replace H:=iF c6375 H
    refine AWp.exit ?_
    obtain rfl:=sj H
    exact lf [(0,0),(8,14),(9,15)] [] [] (by kernel_rfl) ⟨rfl,rfl⟩
 ·obtain⟨x6393,x6394,x6395⟩:=o6401
  rintro e s ⟨rfl,rfl⟩
  refine AWp.seq ?_
  obtain⟨t6398,e6399,H⟩:=Z4 H
  refine sR hP hn hm [(1,.call [(0,0)] [(0,0)] [] [] 1 (iV .i64 x6394) [(0,some (.box 158 (Z3 ⟨a0_c0,x6393,x6394⟩)))])] [(46,bV (x6394 != (0:Int)))] [4,5,46] [] [0,14,15] [_,_] ⟨Tryz.call44,Z00.ok a0_c0 x6393 x6394 t6398 e6399,trivial⟩ ?_
  refine AWp.cond (x6394 != (0:Int)) (by kernel_rfl) (fun c6400 => ?_) (fun c6400 => ?_)
  ·replace H:=iT c6400 H
   refine sO hP hn hm [] [] [4] [] [0,14] ?_
   refine AWp.conv (inv:=[(0,0),(14,2)]) (vk:=[]) (e0:=[1]) (t:=⟨[(4,.ptr 2 0 0)],[(0,some (.box 158 (Z3 ⟨a0_c0,x6393,x6394⟩))),(1,some (.row 2 92 ((((⟨[]⟩:Z2p)).f0).map Z0))),(2,some (.box 97 [.own 1]))],1⟩) (by kernel_rfl) ?_
   refine AWp.ret ?_
   obtain rfl:=sj H
   exact rl (.inl rfl) rfl (by kernel_rfl) (by kernel_rfl)
  ·replace H:=iF c6400 H
   refine AWp.skip ?_
   refine sO hP hn hm [] [] [4] [(14,some (.box 97 [.own 15]))] [0,14,15] ?_
   refine AWp.conv (inv:=[(0,0),(14,2),(15,1)]) (vk:=[]) (e0:=[]) (t:=⟨[(4,.ptr 2 0 0)],[(0,some (.box 158 (Z3 ⟨a0_c0,x6393,x6394⟩))),(1,some (.row 2 92 ((((⟨x6395⟩:Z2p)).f0).map Z0))),(2,some (.box 97 [.own 1]))],1⟩) (by kernel_rfl) ?_
   refine AWp.ret ?_
   obtain rfl:=sj H
   exact rl (.inl rfl) rfl (by kernel_rfl) (by kernel_rfl)
def Z3k.f (a0:Z2p):Option (List Z5):=(Z1b.f a0.f0)>>=fun t6411=>some t6411
theorem Z3k.ok (a0:Z2p) (r:List Z5) (H:Z3k.f a0=some r):Pv.Fn Tryz.prog 48 [.agg [.im (.row (a0.f0.map Z0))]] [] 0 (fun x o=>x = .own 0∧o=[(0,some (.row 2 92 (r.map Z0)))]):=by
 unfold Z3k.f at H
 refine Fn.bodyK [0] Tryz.func48 rfl rfl (fun Γ hP hn => ?_)
 have hm:Tryz.prog.follows .mixedOrders=true:=by kernel_rfl
 replace hn:Γ.n=6:=hn
 refine sO hP hn hm [(0,.k 0)] [(1,.ptr 0 0 0)] [1] [(0,some (.box 97 [.im (.row (a0.f0.map Z0))]))] [0] ?_
 obtain⟨t6411,e6412,H⟩:=Z4 H
 refine sR hP hn hm [(2,.call [] [(0,1)] [] [1] 0 (.own 0) [(0,some (.row 2 92 (t6411.map Z0)))])] [(2,.own 1)] [2] [(1,some (.row 2 92 (t6411.map Z0)))] [1] [_,_] ⟨Tryz.call75,Z1b.ok a0.f0 t6411 e6412,trivial⟩ ?_
 refine AWp.conv (inv:=[(1,0)]) (vk:=[]) (e0:=[]) (t:=⟨[(2,.own 0)],[(0,some (.row 2 92 (t6411.map Z0)))],0⟩) (by kernel_rfl) ?_
 refine AWp.ret ?_
 obtain rfl:=sj H
 exact rl (.inl rfl) rfl (by kernel_rfl) (by kernel_rfl)
def Z1n.l0 (a0:List Int) (t5176:Int×Int×Int) (t5263:Int×Int×Int) (x6277:Int) (x6278:Int) (x6279:List Z1o) (x6280:Bool) (x6281:Int):Option (Int×Int×(List Z1o)×Bool):=((if(decide (x6281<t5263.1))=true then(if x6280=true then((Z00.f a0 x6277 x6278)>>=fun t6288=>some (x6278==(0:Int))) else(some false)) else(some false)):Option (Bool))>>=fun x6290=>if x6290=true then((Z13.f a0 x6277 x6278)>>=fun t6294=>(Z1i.f a0 t6294.2.1 t6294.2.2)>>=fun t6298=>((if t6298.2.1=true then(some ((t6298.1.length:Int)==(1:Int))) else(some false)):Option (Bool))>>=fun x6302=>((if x6302=true then((at? t6298.1 0)>>=fun b6308=>(chk ((x6279.length+[(⟨t6294.1,b6308.f0,b6308.f1⟩:Z1o)].length)*120≤140737488355328))>>=fun _=>some (x6279++[(⟨t6294.1,b6308.f0,b6308.f1⟩:Z1o)])) else(some x6279)):Option (List Z1o))>>=fun x6312=>Z1n.l0 a0 t5176 t5263 t6298.2.2.1 t6298.2.2.2 x6312 x6302 (i64.wrap (x6281+(1:Int)))) else(some (x6277,x6278,x6279,x6280))
partial_fixpoint
def Z1n.l1 (a0:List Int) (t5176:Int×Int×Int) (t6320:Int×Int×Int) (x6429:Int) (x6430:Int) (x6431:List Z1w) (x6432:Bool) (x6433:Int):Option (Int×Int×(List Z1w)×Bool):=((if(decide (x6433<t6320.1))=true then(if x6432=true then((Z00.f a0 x6429 x6430)>>=fun t6440=>some (x6430==(0:Int))) else(some false)) else(some false)):Option (Bool))>>=fun x6442=>if x6442=true then((Z13.f a0 x6429 x6430)>>=fun t6446=>(Z2c.f a0 t6446.2.1 t6446.2.2 1)>>=fun t6452=>(Z3k.f (t6452.1))>>=fun t6454=>((if((t6454.length:Int)==(1:Int))=true then((at? t6454 0)>>=fun b6461=>(chk ((x6431.length+[(⟨t6446.1,b6461⟩:Z1w)].length)*32≤140737488355328))>>=fun _=>some (x6431++[(⟨t6446.1,b6461⟩:Z1w)])) else(some x6431)):Option (List Z1w))>>=fun x6465=>Z1n.l1 a0 t5176 t6320 t6452.2.1 t6452.2.2 x6465 ((t6454.length:Int)==(1:Int)) (i64.wrap (x6433+(1:Int)))) else(some (x6429,x6430,x6431,x6432))
partial_fixpoint
def Z1n.f (a0:List Int):Option (Z0h×Int):=(Z48.f a0)>>=fun t5124=>(Z0c.f a0 0 0 2)>>=fun t5176=>((if((i64.wrap (t5176.1))==(1:Int))=true then((Zh.f a0 t5176.2.1 t5176.2.2 64)>>=fun t5263=>(Z1n.l0 a0 t5176 t5263 t5263.2.1 t5263.2.2 [] true 0)>>=fun oo=>match oo with | (x6313,x6314,x6315,x6316)=>(some (x6313,x6314,x6315,[],0,x6316))) else(((if((i64.wrap (t5176.1))==(2:Int))=true then((Zh.f a0 t5176.2.1 t5176.2.2 64)>>=fun t6320=>(Z1n.l1 a0 t5176 t6320 t6320.2.1 t6320.2.2 [] true 0)>>=fun oo=>match oo with | (x6466,x6467,x6468,x6469)=>(some (x6466,x6467,x6468,0,x6469))) else(((if((i64.wrap (t5176.1))==(3:Int))=true then((Zh.f a0 t5176.2.1 t5176.2.2 1099511627776)>>=fun t6473=>some (t6473.2.1,t6473.2.2,t6473.1)) else(some (t5176.2.1,t5176.2.2,0))):Option (Int×Int×Int))>>=fun oo=>match oo with | (x6475,x6476,x6477)=>(some (x6475,x6476,[],x6477,true)))):Option (Int×Int×(List Z1w)×Int×Bool))>>=fun oo=>match oo with | (x6478,x6479,x6480,x6481,x6482)=>(some (x6478,x6479,[],x6480,x6481,x6482)))):Option (Int×Int×(List Z1o)×(List Z1w)×Int×Bool))>>=fun oo=>match oo with | (x6483,x6484,x6485,x6486,x6487,x6488)=>(((if(!x6488)=true then(some true) else((Z0r.f a0 x6483 x6484)>>=fun t6496=>if(t6496.1 != (0:Int))=true then(some true) else((Z1j.f (⟨i64.wrap (t5176.1),x6485,x6486,x6487⟩:Z0h))>>=fun t6499=>some (!t6499)))):Option (Bool))>>=fun x6501=>if x6501=true then(some ((⟨0,[],[],0⟩:Z0h),6)) else(some ((⟨i64.wrap (t5176.1),x6485,x6486,x6487⟩:Z0h),0)))
theorem Z1n.ok (a0:List Int) (r:Z0h×Int) (H:Z1n.f a0=some r):Pv.Fn Tryz.prog 14 [.im (.row (a0.map (Z2 .u8)))] [] 0 (fun x o=>x = .tup [.agg [iV .i64 ((r.1).f0),.own 0,.own 1,iV .i64 ((r.1).f3)],iV .i64 r.2]∧o=[(0,some (.row 10 89 (((r.1).f1).map Zz))),(1,some (.row 3 94 (((r.1).f2).map Z06)))]):=by
 unfold Z1n.f at H
 refine Fn.bodyK [0,1] Tryz.func14 rfl rfl (fun Γ hP hn => ?_)
 have hm:Tryz.prog.follows .mixedOrders=true:=by kernel_rfl
 replace hn:Γ.n=125:=hn
 refine sO hP hn hm [(0,.k 0)] [(2,.ptr 0 0 0)] [0,2] [(0,some (.box 35 [iV .i64 0,.none0,.none0,iV .i64 0]))] [0] ?_
 obtain⟨t5124,e5125,H⟩:=Z4 H
 refine sR hP hn hm [(1,.call [] [(0,1)] [] [1] 0 (.ptr 0 0 0) [(0,some (.box 158 (Z3 ⟨a0,0,0⟩)))])] [(4,.ptr 1 0 0)] [2,4] [(1,some (.box 158 (Z3 ⟨a0,0,0⟩)))] [0,1] [_,_] ⟨Tryz.call41,Z48.ok a0 t5124 e5125,trivial⟩ ?_
 obtain⟨t5176,e5177,H⟩:=Z4 H
 refine sR hP hn hm [(1,.call [(1,0)] [(0,1)] [] [] 1 (iV .u64 t5176.1) [(0,some (.box 158 (Z3 ⟨a0,t5176.2.1,t5176.2.2⟩)))]),(4,.k 2)] [(5,.ptr 2 0 0)] [2,4,5] [(1,some (.box 158 (Z3 ⟨a0,t5176.2.1,t5176.2.2⟩))),(2,some (.box 35 [iV .i64 (i64.wrap (t5176.1)),.none0,.none0,iV .i64 0]))] [0,1,2] [_,_] ⟨Tryz.call42,Z0c.ok a0 0 0 2 t5176 e5177,trivial⟩ ?_
 refine sO hP hn hm [] [(6,bV true)] [2,4,5,6] [] [0,1,2] ?_
 refine AWp.seq ?_
 refine sO hP hn hm [] [(23,iV .i64 (i64.wrap (t5176.1)))] [2,4,5,6,23] [] [0,1,2] ?_
 refine AWp.block ?_
 refine sO hP hn hm [] [(24,bV ((i64.wrap (t5176.1))==(1:Int)))] [2,4,5,6,23,24] [] [0,1,2] ?_
 obtain⟨o6503,e6504,H⟩:=Z4 H
 refine AWp.mono (Q:=fun e s=>(match (generalizing:=false) o6503 with | (x6483,x6484,x6485,x6486,x6487,x6488)=>e = .normal∧s=⟨[(2,.ptr 79 0 0),(4,.ptr 80 0 0),(5,.ptr 81 0 0),(6,bV x6488)],[(79,some (.box 35 [iV .i64 0,.none0,.none0,iV .i64 0])),(80,some (.box 158 (Z3 ⟨a0,x6483,x6484⟩))),(81,some (.box 35 [iV .i64 (i64.wrap (t5176.1)),.own 82,.own 83,iV .i64 x6487])),(82,some (.row 10 89 (x6485.map Zz))),(83,some (.row 3 94 (x6486.map Z06)))],0⟩)) (AWp.cv ?_) ?_
 ·replace H:=e6504;clear e6504
  refine AWp.cond ((i64.wrap (t5176.1))==(1:Int)) (by kernel_rfl) (fun c5178 => ?_) (fun c5178 => ?_)
  ·replace H:=iT c5178 H
   obtain⟨t5263,e5264,H⟩:=Z4 H
   refine sR hP hn hm [(1,.call [(1,0)] [(0,1)] [] [] 1 (iV .i64 t5263.1) [(0,some (.box 158 (Z3 ⟨a0,t5263.2.1,t5263.2.2⟩)))])] [(7,iV .i64 t5263.1)] [2,4,5,6,7] [(1,some (.box 158 (Z3 ⟨a0,t5263.2.1,t5263.2.2⟩)))] [0,1,2] [_,_] ⟨Tryz.call43,Zh.ok a0 t5176.2.1 t5176.2.2 64 t5263 e5264,trivial⟩ ?_
   refine sO hP hn hm [] [(8,iV .i64 0)] [2,4,5,6,7,8] [] [0,1,2] ?_
   refine AWp.block ?_
   obtain⟨o6505,e6506,H⟩:=Z4 H
   refine AWp.loop (LWp.conv (inv:=[(0,17),(1,18),(2,19)]) (vk:=[]) (e0:=[20]) (t:=⟨[(2,.ptr 17 0 0),(4,.ptr 18 0 0),(5,.ptr 19 0 0),(6,bV true),(7,iV .i64 t5263.1),(8,iV .i64 0)],[(17,some (.box 35 [iV .i64 0,.none0,.none0,iV .i64 0])),(18,some (.box 158 (Z3 ⟨a0,t5263.2.1,t5263.2.2⟩))),(19,some (.box 35 [iV .i64 (i64.wrap (t5176.1)),.own 20,.none0,iV .i64 0])),(20,some (.row 10 89 ([].map Zz)))],0⟩) (by kernel_rfl) ?_)
   refine LWp.mono (Q:=fun e s=>(match (generalizing:=false) o6505 with | (x6313,x6314,x6315,x6316)=>e = .exit 1∧s=⟨[(2,.ptr 37 0 0),(4,.ptr 38 0 0),(5,.ptr 39 0 0),(6,bV x6316)],[(37,some (.box 35 [iV .i64 0,.none0,.none0,iV .i64 0])),(38,some (.box 158 (Z3 ⟨a0,x6313,x6314⟩))),(39,some (.box 35 [iV .i64 (i64.wrap (t5176.1)),.own 40,.none0,iV .i64 0])),(40,some (.row 10 89 (x6315.map Zz)))],0⟩)) (LWp.cv (Zs (fun body hbody => ?_))) ?_
   ·refine            Z1n.l0.partial_correctness a0 t5176 t5263 (motive:=fun x6277 x6278 x6279 x6280 x6281 o6505=>LWp Γ body (fun e s=>∃ t,Cv Γ s t∧(match (generalizing:=false) o6505 with | (x6313,x6314,x6315,x6316)=>e = .exit 1∧t=⟨[(2,.ptr 37 0 0),(4,.ptr 38 0 0),(5,.ptr 39 0 0),(6,bV x6316)],[(37,some (.box 35 [iV .i64 0,.none0,.none0,iV .i64 0])),(38,some (.box 158 (Z3           ⟨a0,x6313,x6314⟩))),(39,some (.box 35 [iV .i64 (i64.wrap (t5176.1)),.own 40,.none0,iV .i64 0])),(40,some (.row 10 89 (x6315.map Zz         )))],0⟩)) ⟨[(2,.ptr 17 0 0),(4,.ptr 18 0 0),(5,.ptr 19 0 0),(6,bV x6280),(7,iV .i64 t5263.1),(8,iV .i64 x6281)],[(17,some (.box 35 [iV .i64 0,.none0,.none0,iV .i64 0])),(18,some (.box 158 (Z3           ⟨a0,x6277,x6278⟩))),(19,some (.box 35 [iV .i64 (i64.wrap (t5176.1)),.own 20,.none0,iV .i64 0])),(20,some (.row 10 89 (x6279.map Zz         )))],0⟩) ?_ _ _ _ _ _ _ e6506
    clear H e6506 o6505;intro self ih x6277 x6278 x6279 x6280 x6281 o6505 H
    subst hbody
    refine LWp.round ?_
    refine AWp.seq ?_
    refine AWp.seq ?_
    obtain⟨o6507,e6508,H⟩:=Z4 H
    refine AWp.mono (Q:=fun e s=>(match (generalizing:=false) o6507 with | x6290=>e = .normal∧s=⟨[(2,.ptr 21 0 0),(4,.ptr 22 0 0),(5,.ptr 23 0 0),(6,bV x6280),(7,iV .i64 t5263.1),(8,iV .i64 x6281),(38,bV x6290)],[(21,some (.box 35 [iV .i64 0,.none0,.none0,iV .i64 0])),(22,some (.box 158 (Z3 ⟨a0,x6277,x6278⟩))),(23,some (.box 35 [iV .i64 (i64.wrap (t5176.1)),.own 24,.none0,iV .i64 0])),(24,some (.row 10 89 (x6279.map Zz)))],0⟩)) (AWp.cv ?_) ?_
    ·replace H:=e6508;clear e6508
     rcases Bool.eq_false_or_eq_true (decide (x6281<t5263.1)) with c6286 | c6286
     ·replace H:=iT c6286 H
      rcases Bool.eq_false_or_eq_true x6280 with c6287 | c6287
      ·replace H:=iT c6287 H
       obtain⟨t6288,e6289,H⟩:=Z4 H
       refine rG hP hn hm [(3,.b true),(6,.b true),(8,.call [(18,0)] [(0,18)] [] [] 1 (iV .i64 x6278) [(0,some (.box 158 (Z3 ⟨a0,x6277,x6278⟩)))])] [(32,bV x6280),(35,.ptr 18 0 0),(36,iV .i64 x6278),(37,bV (x6278==(0:Int))),(38,bV (x6278==(0:Int)))] [2,4,5,6,7,8,32,35,36,37,38] [] [17,18,19,20] [_,_,_,_] ⟨c6286,c6287,Tryz.call44,Z00.ok a0 x6277 x6278 t6288 e6289,trivial⟩ ?_
       obtain rfl:=sj H
       exact lf [(17,21),(18,22),(19,23),(20,24)] [] [] (by kernel_rfl) ⟨rfl,rfl⟩
      ·replace H:=iF c6287 H
       refine rG hP hn hm [(3,.b true),(6,.b false)] [(32,bV x6280),(38,bV false)] [2,4,5,6,7,8,32,38] [] [17,18,19,20] [_,_] ⟨c6286,c6287,trivial⟩ ?_
       obtain rfl:=sj H
       exact lf [(17,21),(18,22),(19,23),(20,24)] [] [] (by kernel_rfl) ⟨rfl,rfl⟩
     ·replace H:=iF c6286 H
      refine rG hP hn hm [(3,.b false)] [(38,bV false)] [2,4,5,6,7,8,38] [] [17,18,19,20] [_] ⟨c6286,trivial⟩ ?_
      obtain rfl:=sj H
      exact lf [(17,21),(18,22),(19,23),(20,24)] [] [] (by kernel_rfl) ⟨rfl,rfl⟩
    ·obtain⟨x6290,rfl⟩:∃ z,z=o6507:=⟨_,rfl⟩
     rintro e s ⟨rfl,rfl⟩
     refine AWp.cond x6290 (by kernel_rfl) (fun c6291 => ?_) (fun c6291 => ?_)
     ·replace H:=iT c6291 H
      refine AWp.skip ?_
      refine AWp.seq ?_
      refine AWp.block ?_
      obtain⟨t6294,e6295,H⟩:=Z4 H
      refine sR hP hn hm [(1,.call [(22,0)] [(0,22)] [] [] 1 (sV t6294.1) [(0,some (.box 158 (Z3 ⟨a0,t6294.2.1,t6294.2.2⟩)))])] [(9,sV t6294.1)] [2,4,5,7,8,9] [(22,some (.box 158 (Z3 ⟨a0,t6294.2.1,t6294.2.2⟩)))] [21,22,23,24] [_,_] ⟨Tryz.call45,Z13.ok a0 x6277 x6278 t6294 e6295,trivial⟩ ?_
      obtain⟨t6298,e6299,H⟩:=Z4 H
      refine sR hP hn hm [(1,.call [(22,0)] [(0,22),(1,25)] [] [25] 1 (.tup [.own 1,bV t6298.2.1]) [(0,some (.box 158 (Z3 ⟨a0,t6298.2.2.1,t6298.2.2.2⟩))),(1,some (.row 9 50 (t6298.1.map Z6)))])] [(10,.own 25),(11,bV t6298.2.1)] [2,4,5,7,8,9,10,11] [(22,some (.box 158 (Z3 ⟨a0,t6298.2.2.1,t6298.2.2.2⟩))),(25,some (.row 9 50 (t6298.1.map Z6)))] [21,22,23,24,25] [_,_] ⟨Tryz.call46,Z1i.ok a0 t6294.2.1 t6294.2.2 t6298 e6299,trivial⟩ ?_
      refine AWp.seq ?_
      obtain⟨o6509,e6510,H⟩:=Z4 H
      refine AWp.mono (Q:=fun e s=>(match (generalizing:=false) o6509 with | x6302=>e = .normal∧s=⟨[(2,.ptr 26 0 0),(4,.ptr 27 0 0),(5,.ptr 28 0 0),(6,bV x6302),(7,iV .i64 t5263.1),(8,iV .i64 x6281),(9,sV t6294.1),(10,.own 30)],[(26,some (.box 35 [iV .i64 0,.none0,.none0,iV .i64 0])),(27,some (.box 158 (Z3 ⟨a0,t6298.2.2.1,t6298.2.2.2⟩))),(28,some (.box 35 [iV .i64 (i64.wrap (t5176.1)),.own 29,.none0,iV .i64 0])),(29,some (.row 10 89 (x6279.map Zz))),(30,some (.row 9 50 (t6298.1.map Z6)))],0⟩)) (AWp.cv ?_) ?_
      ·replace H:=e6510;clear e6510
       rcases Bool.eq_false_or_eq_true t6298.2.1 with c6301 | c6301
       ·replace H:=iT c6301 H
        refine rG hP hn hm [(1,.b true),(3,.any (iV .i64 (t6298.1.length:Int)))] [(6,bV ((t6298.1.length:Int)==(1:Int))),(50,.own 25),(51,iV .i64 (t6298.1.length:Int)),(52,bV ((t6298.1.length:Int)==(1:Int)))] [2,4,5,6,7,8,9,10,50,51,52] [] [21,22,23,24,25] [_,((t6298.1.map Z6).length:Int)=(t6298.1.length:Int)] ⟨c6301,by rw[Zr],trivial⟩ ?_
        obtain rfl:=sj H
        exact lf [(21,26),(22,27),(23,28),(24,29),(25,30)] [] [] (by kernel_rfl) ⟨rfl,rfl⟩
       ·replace H:=iF c6301 H
        refine rG hP hn hm [(1,.b false)] [(6,bV false)] [2,4,5,6,7,8,9,10] [] [21,22,23,24,25] [_] ⟨c6301,trivial⟩ ?_
        obtain rfl:=sj H
        exact lf [(21,26),(22,27),(23,28),(24,29),(25,30)] [] [] (by kernel_rfl) ⟨rfl,rfl⟩
      ·obtain⟨x6302,rfl⟩:∃ z,z=o6509:=⟨_,rfl⟩
       rintro e s ⟨rfl,rfl⟩
       refine sO hP hn hm [] [(54,bV x6302)] [2,4,5,6,7,8,9,10,54] [] [26,27,28,29,30] ?_
       obtain⟨o6511,e6512,H⟩:=Z4 H
       refine AWp.mono (Q:=fun e s=>(match (generalizing:=false) o6511 with | x6312=>e = .normal∧s=⟨[(2,.ptr 33 0 0),(4,.ptr 34 0 0),(5,.ptr 35 0 0),(6,bV x6302),(7,iV .i64 t5263.1),(8,iV .i64 x6281)],[(33,some (.box 35 [iV .i64 0,.none0,.none0,iV .i64 0])),(34,some (.box 158 (Z3 ⟨a0,t6298.2.2.1,t6298.2.2.2⟩))),(35,some (.box 35 [iV .i64 (i64.wrap (t5176.1)),.own 36,.none0,iV .i64 0])),(36,some (.row 10 89 (x6312.map Zz)))],0⟩)) (AWp.cv ?_) ?_
       ·replace H:=e6512;clear e6512
        refine AWp.cond x6302 (by kernel_rfl) (fun c6303 => ?_) (fun c6303 => ?_)
        ·replace H:=iT c6303 H
         obtain⟨b6308,p6309,q6310,H⟩:=Z02 H
         obtain⟨c6311,H⟩:=Z10 H
         refine rG hP hn hm [(6,.c (Z6 b6308)),(10,.c (Z6 b6308)),(12,.app 31 ([(⟨t6294.1,b6308.f0,b6308.f1⟩:Z1o)].map Zz)),(13,.app 32 ((x6279++[(⟨t6294.1,b6308.f0,b6308.f1⟩:Z1o)]).map Zz))] [] [2,4,5,6,7,8] [(28,some (.box 35 [iV .i64 (i64.wrap (t5176.1)),.own 32,.none0,iV .i64 0])),(32,some (.row 10 89 ((x6279++[(⟨t6294.1,b6308.f0,b6308.f1⟩:Z1o)]).map Zz)))] [26,27,28,32] [_,_,_,_,_,_,[(⟨t6294.1,b6308.f0,b6308.f1⟩:Z1o)].map Zz=[[sI t6294.1,iI .i64 b6308.f0,iI .i64 b6308.f1.f0,iI .i64 b6308.f1.f1,iI .i64 b6308.f1.f2,iI .u64 b6308.f1.f3,iI .u64 b6308.f1.f4,iI .i64 b6308.f1.f5,.row (b6308.f1.f6.map Z1),.row (b6308.f1.f7.map Z1)]],(x6279++[(⟨t6294.1,b6308.f0,b6308.f1⟩:Z1o)]).map Zz=(x6279.map Zz)++([(⟨t6294.1,b6308.f0,b6308.f1⟩:Z1o)].map Zz),∀ c∈([(⟨t6294.1,b6308.f0,b6308.f1⟩:Z1o)].map Zz),c.length=10,∀ c∈([(⟨t6294.1,b6308.f0,b6308.f1⟩:Z1o)].map Zz),Z16 (c.map .im)=true,((x6279.map Zz).length+([(⟨t6294.1,b6308.f0,b6308.f1⟩:Z1o)].map Zz).length)*120≤140737488355328] ⟨p6309,Z09 Z6 p6309 q6310,Zi Z6 q6310,p6309,Z09 Z6 p6309 q6310,Zi Z6 q6310,by exact rfl,by simp,by exact Z12 _ _ _ (fun _=>rfl),by exact Z14 _ _ (fun _=>rfl),by simpa using c6311,trivial⟩ ?_
         obtain rfl:=sj H
         exact lf [(26,33),(27,34),(28,35),(32,36)] [] [] (by kernel_rfl) ⟨rfl,rfl⟩
        ·replace H:=iF c6303 H
         refine AWp.skip ?_
         obtain rfl:=sj H
         exact lf [(26,33),(27,34),(28,35),(29,36)] [] [] (by kernel_rfl) ⟨rfl,rfl⟩
       ·obtain⟨x6312,rfl⟩:∃ z,z=o6511:=⟨_,rfl⟩
        rintro e s ⟨rfl,rfl⟩
        refine rO hP hn hm [] [(8,iV .i64 (i64.wrap (x6281+(1:Int))))] [2,4,5,6,7,8] [] [33,34,35,36] ?_
        exact LWp.conv [(33,17),(34,18),(35,19),(36,20)] [] [] (by kernel_rfl) (ih _ _ _ _ _ _ H)
     ·replace H:=iF c6291 H
      refine AWp.exit ?_
      obtain rfl:=sj H
      exact lf [(21,37),(22,38),(23,39),(24,40)] [] [] (by kernel_rfl) ⟨rfl,rfl⟩
   ·obtain⟨x6313,x6314,x6315,x6316⟩:=o6505
    rintro e s ⟨rfl,rfl⟩
    obtain rfl:=sj H
    exact lf [(37,79),(38,80),(39,81),(40,82)] [] [83] (by kernel_rfl) ⟨rfl,rfl⟩
  ·replace H:=iF c5178 H
   refine sO hP hn hm [] [(70,bV ((i64.wrap (t5176.1))==(2:Int)))] [2,4,5,6,23,70] [] [0,1,2] ?_
   obtain⟨o6513,e6514,H⟩:=Z4 H
   refine AWp.mono (Q:=fun e s=>(match (generalizing:=false) o6513 with | (x6478,x6479,x6480,x6481,x6482)=>e = .normal∧s=⟨[(2,.ptr 75 0 0),(4,.ptr 76 0 0),(5,.ptr 77 0 0),(6,bV x6482)],[(75,some (.box 35 [iV .i64 0,.none0,.none0,iV .i64 0])),(76,some (.box 158 (Z3 ⟨a0,x6478,x6479⟩))),(77,some (.box 35 [iV .i64 (i64.wrap (t5176.1)),.none0,.own 78,iV .i64 x6481])),(78,some (.row 3 94 (x6480.map Z06)))],0⟩)) (AWp.cv ?_) ?_
   ·replace H:=e6514;clear e6514
    refine AWp.cond ((i64.wrap (t5176.1))==(2:Int)) (by kernel_rfl) (fun c6317 => ?_) (fun c6317 => ?_)
    ·replace H:=iT c6317 H
     obtain⟨t6320,e6321,H⟩:=Z4 H
     refine sR hP hn hm [(1,.call [(1,0)] [(0,1)] [] [] 1 (iV .i64 t6320.1) [(0,some (.box 158 (Z3 ⟨a0,t6320.2.1,t6320.2.2⟩)))])] [(12,iV .i64 t6320.1)] [2,4,5,6,12] [(1,some (.box 158 (Z3 ⟨a0,t6320.2.1,t6320.2.2⟩)))] [0,1,2] [_,_] ⟨Tryz.call43,Zh.ok a0 t5176.2.1 t5176.2.2 64 t6320 e6321,trivial⟩ ?_
     refine sO hP hn hm [] [(13,iV .i64 0)] [2,4,5,6,12,13] [] [0,1,2] ?_
     refine AWp.block ?_
     obtain⟨o6515,e6516,H⟩:=Z4 H
     refine AWp.loop (LWp.conv (inv:=[(0,52),(1,53),(2,54)]) (vk:=[]) (e0:=[55]) (t:=⟨[(2,.ptr 52 0 0),(4,.ptr 53 0 0),(5,.ptr 54 0 0),(6,bV true),(12,iV .i64 t6320.1),(13,iV .i64 0)],[(52,some (.box 35 [iV .i64 0,.none0,.none0,iV .i64 0])),(53,some (.box 158 (Z3 ⟨a0,t6320.2.1,t6320.2.2⟩))),(54,some (.box 35 [iV .i64 (i64.wrap (t5176.1)),.none0,.own 55,iV .i64 0])),(55,some (.row 3 94 ([].map Z06)))],0⟩) (by kernel_rfl) ?_)
     refine LWp.mono (Q:=fun e s=>(match (generalizing:=false) o6515 with | (x6466,x6467,x6468,x6469)=>e = .exit 3∧s=⟨[(2,.ptr 68 0 0),(4,.ptr 69 0 0),(5,.ptr 70 0 0),(6,bV x6469)],[(68,some (.box 35 [iV .i64 0,.none0,.none0,iV .i64 0])),(69,some (.box 158 (Z3 ⟨a0,x6466,x6467⟩))),(70,some (.box 35 [iV .i64 (i64.wrap (t5176.1)),.none0,.own 71,iV .i64 0])),(71,some (.row 3 94 (x6468.map Z06)))],0⟩)) (LWp.cv (Zs (fun body hbody => ?_))) ?_
     ·refine            Z1n.l1.partial_correctness a0 t5176 t6320 (motive:=fun x6429 x6430 x6431 x6432 x6433 o6515=>LWp Γ body (fun e s=>∃ t,Cv Γ s t∧(match (generalizing:=false) o6515 with | (x6466,x6467,x6468,x6469)=>e = .exit 3∧t=⟨[(2,.ptr 68 0 0),(4,.ptr 69 0 0),(5,.ptr 70 0 0),(6,bV x6469)],[(68,some (.box 35 [iV .i64 0,.none0,.none0,iV .i64 0])),(69,some (.box 158 (Z3           ⟨a0,x6466,x6467⟩))),(70,some (.box 35 [iV .i64 (i64.wrap (t5176.1)),.none0,.own 71,iV .i64 0])),(71,some (.row 3 94 (x6468.map Z06       )))],0⟩)) ⟨[(2,.ptr 52 0 0),(4,.ptr 53 0 0),(5,.ptr 54 0 0),(6,bV x6432),(12,iV .i64 t6320.1),(13,iV .i64 x6433)],[(52,some (.box 35 [iV .i64 0,.none0,.none0,iV .i64 0])),(53,some (.box 158 (Z3           ⟨a0,x6429,x6430⟩))),(54,some (.box 35 [iV .i64 (i64.wrap (t5176.1)),.none0,.own 55,iV .i64 0])),(55,some (.row 3 94 (x6431.map Z06       )))],0⟩) ?_ _ _ _ _ _ _ e6516
      clear H e6516 o6515;intro self ih x6429 x6430 x6431 x6432 x6433 o6515 H
      subst hbody
      refine LWp.round ?_
      refine AWp.seq ?_
      refine AWp.seq ?_
      obtain⟨o6517,e6518,H⟩:=Z4 H
      refine AWp.mono (Q:=fun e s=>(match (generalizing:=false) o6517 with | x6442=>e = .normal∧s=⟨[(2,.ptr 56 0 0),(4,.ptr 57 0 0),(5,.ptr 58 0 0),(6,bV x6432),(12,iV .i64 t6320.1),(13,iV .i64 x6433),(84,bV x6442)],[(56,some (.box 35 [iV .i64 0,.none0,.none0,iV .i64 0])),(57,some (.box 158 (Z3 ⟨a0,x6429,x6430⟩))),(58,some (.box 35 [iV .i64 (i64.wrap (t5176.1)),.none0,.own 59,iV .i64 0])),(59,some (.row 3 94 (x6431.map Z06)))],0⟩)) (AWp.cv ?_) ?_
      ·replace H:=e6518;clear e6518
       rcases Bool.eq_false_or_eq_true (decide (x6433<t6320.1)) with c6438 | c6438
       ·replace H:=iT c6438 H
        rcases Bool.eq_false_or_eq_true x6432 with c6439 | c6439
        ·replace H:=iT c6439 H
         obtain⟨t6440,e6441,H⟩:=Z4 H
         refine rG hP hn hm [(3,.b true),(6,.b true),(8,.call [(53,0)] [(0,53)] [] [] 1 (iV .i64 x6430) [(0,some (.box 158 (Z3 ⟨a0,x6429,x6430⟩)))])] [(78,bV x6432),(81,.ptr 53 0 0),(82,iV .i64 x6430),(83,bV (x6430==(0:Int))),(84,bV (x6430==(0:Int)))] [2,4,5,6,12,13,78,81,82,83,84] [] [52,53,54,55] [_,_,_,_] ⟨c6438,c6439,Tryz.call44,Z00.ok a0 x6429 x6430 t6440 e6441,trivial⟩ ?_
         obtain rfl:=sj H
         exact lf [(52,56),(53,57),(54,58),(55,59)] [] [] (by kernel_rfl) ⟨rfl,rfl⟩
        ·replace H:=iF c6439 H
         refine rG hP hn hm [(3,.b true),(6,.b false)] [(78,bV x6432),(84,bV false)] [2,4,5,6,12,13,78,84] [] [52,53,54,55] [_,_] ⟨c6438,c6439,trivial⟩ ?_
         obtain rfl:=sj H
         exact lf [(52,56),(53,57),(54,58),(55,59)] [] [] (by kernel_rfl) ⟨rfl,rfl⟩
       ·replace H:=iF c6438 H
        refine rG hP hn hm [(3,.b false)] [(84,bV false)] [2,4,5,6,12,13,84] [] [52,53,54,55] [_] ⟨c6438,trivial⟩ ?_
        obtain rfl:=sj H
        exact lf [(52,56),(53,57),(54,58),(55,59)] [] [] (by kernel_rfl) ⟨rfl,rfl⟩
      ·obtain⟨x6442,rfl⟩:∃ z,z=o6517:=⟨_,rfl⟩
       rintro e s ⟨rfl,rfl⟩
       refine AWp.cond x6442 (by kernel_rfl) (fun c6443 => ?_) (fun c6443 => ?_)
       ·replace H:=iT c6443 H
        refine AWp.skip ?_
        refine AWp.seq ?_
        refine AWp.block ?_
        obtain⟨t6446,e6447,H⟩:=Z4 H
        refine sR hP hn hm [(1,.call [(57,0)] [(0,57)] [] [] 1 (sV t6446.1) [(0,some (.box 158 (Z3 ⟨a0,t6446.2.1,t6446.2.2⟩)))])] [(14,sV t6446.1)] [2,4,5,12,13,14] [(57,some (.box 158 (Z3 ⟨a0,t6446.2.1,t6446.2.2⟩)))] [56,57,58,59] [_,_] ⟨Tryz.call45,Z13.ok a0 x6429 x6430 t6446 e6447,trivial⟩ ?_
        obtain⟨t6452,e6453,H⟩:=Z4 H
        obtain⟨t6454,e6455,H⟩:=Z4 H
        refine sR hP hn hm [(1,.call [(57,0)] [(0,57),(1,60)] [] [60] 1 (.agg [.own 1]) [(0,some (.box 158 (Z3 ⟨a0,t6452.2.1,t6452.2.2⟩))),(1,some (.row 2 92 (((t6452.1).f0).map Z0)))]),(2,.more (Z51 [] [(0,61)] [60] [61] 0 (.own 0) [(0,some (.row 2 92 (t6454.map Z0)))]))] [(15,.own 61)] [2,4,5,12,13,14,15] [(57,some (.box 158 (Z3 ⟨a0,t6452.2.1,t6452.2.2⟩))),(61,some (.row 2 92 (t6454.map Z0)))] [56,57,58,59,61] [_,_,_,_,∀ c∈t6454.map Z0,∀ x∈c,∃ v,x=Im.sc v] ⟨Tryz.call47,Z2c.ok a0 t6446.2.1 t6446.2.2 1 t6452 e6453,Tryz.call48,Z3k.ok (t6452.1) t6454 e6455,by exact Z5n _ _ (fun _=>by simp),trivial⟩ ?_
        refine sR hP hn hm [(1,.any (iV .i64 (t6454.length:Int)))] [(6,bV ((t6454.length:Int)==(1:Int)))] [2,4,5,6,12,13,14,15] [] [56,57,58,59,61] [((t6454.map Z0).length:Int)=(t6454.length:Int)] ⟨by rw[Zr],trivial⟩ ?_
        refine sO hP hn hm [] [(95,bV ((t6454.length:Int)==(1:Int)))] [2,4,5,6,12,13,14,15,95] [] [56,57,58,59,61] ?_
        obtain⟨o6519,e6520,H⟩:=Z4 H
        refine AWp.mono (Q:=fun e s=>(match (generalizing:=false) o6519 with | x6465=>e = .normal∧s=⟨[(2,.ptr 64 0 0),(4,.ptr 65 0 0),(5,.ptr 66 0 0),(6,bV ((t6454.length:Int)==(1:Int))),(12,iV .i64 t6320.1),(13,iV .i64 x6433)],[(64,some (.box 35 [iV .i64 0,.none0,.none0,iV .i64 0])),(65,some (.box 158 (Z3 ⟨a0,t6452.2.1,t6452.2.2⟩))),(66,some (.box 35 [iV .i64 (i64.wrap (t5176.1)),.none0,.own 67,iV .i64 0])),(67,some (.row 3 94 (x6465.map Z06)))],0⟩)) (AWp.cv ?_) ?_
        ·replace H:=e6520;clear e6520
         refine AWp.cond ((t6454.length:Int)==(1:Int)) (by kernel_rfl) (fun c6456 => ?_) (fun c6456 => ?_)
         ·replace H:=iT c6456 H
          obtain⟨b6461,p6462,q6463,H⟩:=Z02 H
          obtain⟨c6464,H⟩:=Z10 H
          refine rG hP hn hm [(5,.c (Z0 b6461)),(7,.app 62 ([(⟨t6446.1,b6461⟩:Z1w)].map Z06)),(8,.app 63 ((x6431++[(⟨t6446.1,b6461⟩:Z1w)]).map Z06))] [] [2,4,5,6,12,13] [(58,some (.box 35 [iV .i64 (i64.wrap (t5176.1)),.none0,.own 63,iV .i64 0])),(63,some (.row 3 94 ((x6431++[(⟨t6446.1,b6461⟩:Z1w)]).map Z06)))] [56,57,58,63] [_,_,_,[(⟨t6446.1,b6461⟩:Z1w)].map Z06=[[sI t6446.1,iI .i64 b6461.f0,iI .i64 b6461.f1]],(x6431++[(⟨t6446.1,b6461⟩:Z1w)]).map Z06=(x6431.map Z06)++([(⟨t6446.1,b6461⟩:Z1w)].map Z06),∀ c∈([(⟨t6446.1,b6461⟩:Z1w)].map Z06),c.length=3,∀ c∈([(⟨t6446.1,b6461⟩:Z1w)].map Z06),Z16 (c.map .im)=true,((x6431.map Z06).length+([(⟨t6446.1,b6461⟩:Z1w)].map Z06).length)*32≤140737488355328] ⟨p6462,Z09 Z0 p6462 q6463,Zi Z0 q6463,by exact rfl,by simp,by exact Z12 _ _ _ (fun _=>rfl),by exact Z14 _ _ (fun _=>rfl),by simpa using c6464,trivial⟩ ?_
          obtain rfl:=sj H
          exact lf [(56,64),(57,65),(58,66),(63,67)] [] [] (by kernel_rfl) ⟨rfl,rfl⟩
         ·replace H:=iF c6456 H
          refine AWp.skip ?_
          obtain rfl:=sj H
          exact lf [(56,64),(57,65),(58,66),(59,67)] [] [] (by kernel_rfl) ⟨rfl,rfl⟩
        ·obtain⟨x6465,rfl⟩:∃ z,z=o6519:=⟨_,rfl⟩
         rintro e s ⟨rfl,rfl⟩
         refine rO hP hn hm [] [(13,iV .i64 (i64.wrap (x6433+(1:Int))))] [2,4,5,6,12,13] [] [64,65,66,67] ?_
         exact LWp.conv [(64,52),(65,53),(66,54),(67,55)] [] [] (by kernel_rfl) (ih _ _ _ _ _ _ H)
       ·replace H:=iF c6443 H
        refine AWp.exit ?_
        obtain rfl:=sj H
        exact lf [(56,68),(57,69),(58,70),(59,71)] [] [] (by kernel_rfl) ⟨rfl,rfl⟩
     ·obtain⟨x6466,x6467,x6468,x6469⟩:=o6515
      rintro e s ⟨rfl,rfl⟩
      obtain rfl:=sj H
      exact lf [(68,75),(69,76),(70,77),(71,78)] [] [] (by kernel_rfl) ⟨rfl,rfl⟩
    ·replace H:=iF c6317 H
     refine sO hP hn hm [] [(106,bV ((i64.wrap (t5176.1))==(3:Int)))] [2,4,5,6,106] [] [0,1,2] ?_
     obtain⟨o6521,e6522,H⟩:=Z4 H
     refine AWp.mono (Q:=fun e s=>(match (generalizing:=false) o6521 with | (x6475,x6476,x6477)=>e = .normal∧s=⟨[(2,.ptr 72 0 0),(4,.ptr 73 0 0),(5,.ptr 74 0 0),(6,bV true)],[(72,some (.box 35 [iV .i64 0,.none0,.none0,iV .i64 0])),(73,some (.box 158 (Z3 ⟨a0,x6475,x6476⟩))),(74,some (.box 35 [iV .i64 (i64.wrap (t5176.1)),.none0,.none0,iV .i64 x6477]))],0⟩)) (AWp.cv ?_) ?_
     ·replace H:=e6522;clear e6522
      refine AWp.cond ((i64.wrap (t5176.1))==(3:Int)) (by kernel_rfl) (fun c6470 => ?_) (fun c6470 => ?_)
      ·replace H:=iT c6470 H
       obtain⟨t6473,e6474,H⟩:=Z4 H
       refine rG hP hn hm [(1,.call [(1,0)] [(0,1)] [] [] 1 (iV .i64 t6473.1) [(0,some (.box 158 (Z3 ⟨a0,t6473.2.1,t6473.2.2⟩)))])] [] [2,4,5,6] [(1,some (.box 158 (Z3 ⟨a0,t6473.2.1,t6473.2.2⟩))),(2,some (.box 35 [iV .i64 (i64.wrap (t5176.1)),.none0,.none0,iV .i64 t6473.1]))] [0,1,2] [_,_] ⟨Tryz.call43,Zh.ok a0 t5176.2.1 t5176.2.2 1099511627776 t6473 e6474,trivial⟩ ?_
       obtain rfl:=sj H
       exact lf [(0,72),(1,73),(2,74)] [] [] (by kernel_rfl) ⟨rfl,rfl⟩
      ·replace H:=iF c6470 H
       refine AWp.skip ?_
       obtain rfl:=sj H
       exact lf [(0,72),(1,73),(2,74)] [] [] (by kernel_rfl) ⟨rfl,rfl⟩
     ·obtain⟨x6475,x6476,x6477⟩:=o6521
      rintro e s ⟨rfl,rfl⟩
      obtain rfl:=sj H
      exact lf [(72,75),(73,76),(74,77)] [] [78] (by kernel_rfl) ⟨rfl,rfl⟩
   ·obtain⟨x6478,x6479,x6480,x6481,x6482⟩:=o6513
    rintro e s ⟨rfl,rfl⟩
    obtain rfl:=sj H
    exact lf [(75,79),(76,80),(77,81),(78,83)] [] [82] (by kernel_rfl) ⟨rfl,rfl⟩
 ·obtain⟨x6483,x6484,x6485,x6486,x6487,x6488⟩:=o6503
  rintro e s ⟨rfl,rfl⟩
  refine AWp.seq ?_
  refine AWp.seq ?_
  obtain⟨o6523,e6524,H⟩:=Z4 H
  refine AWp.mono (Q:=fun e s=>(match (generalizing:=false) o6523 with | x6501=>e = .normal∧s=⟨[(2,.ptr 84 0 0),(5,.ptr 85 0 0),(122,bV x6501)],[(84,some (.box 35 [iV .i64 0,.none0,.none0,iV .i64 0])),(85,some (.box 35 [iV .i64 (i64.wrap (t5176.1)),.own 86,.own 87,iV .i64 x6487])),(86,some (.row 10 89 (x6485.map Zz))),(87,some (.row 3 94 (x6486.map Z06)))],0⟩)) (AWp.cv ?_) ?_
  ·replace H:=e6524;clear e6524
   rcases Bool.eq_false_or_eq_true (!x6488) with c6495 | c6495
   ·replace H:=iT c6495 H
    refine rG hP hn hm [(2,.b true)] [(122,bV true)] [2,5,122] [] [79,81,82,83] [_] ⟨c6495,trivial⟩ ?_
    obtain rfl:=sj H
    exact lf [(79,84),(81,85),(82,86),(83,87)] [] [] (by kernel_rfl) ⟨rfl,rfl⟩
   ·replace H:=iF c6495 H
    obtain⟨t6496,e6497,H⟩:=Z4 H
    rcases Bool.eq_false_or_eq_true (t6496.1 != (0:Int)) with c6498 | c6498
    ·replace H:=iT c6498 H
     refine rG hP hn hm [(2,.b false),(4,.call [(80,0)] [(0,80)] [] [] 1 (iV .i64 t6496.1) [(0,some (.box 158 (Z3 ⟨a0,t6496.2.1,t6496.2.2⟩)))]),(7,.b true)] [(122,bV true)] [2,5,122] [] [79,81,82,83] [_,_,_,_] ⟨c6495,Tryz.call49,Z0r.ok a0 x6483 x6484 t6496 e6497,c6498,trivial⟩ ?_
     obtain rfl:=sj H
     exact lf [(79,84),(81,85),(82,86),(83,87)] [] [] (by kernel_rfl) ⟨rfl,rfl⟩
    ·replace H:=iF c6498 H
     obtain⟨t6499,e6500,H⟩:=Z4 H
     refine rG hP hn hm [(2,.b false),(4,.call [(80,0)] [(0,80)] [] [] 1 (iV .i64 t6496.1) [(0,some (.box 158 (Z3 ⟨a0,t6496.2.1,t6496.2.2⟩)))]),(7,.b false),(9,.call [] [] [82,83] [] 0 (bV t6499) [])] [(122,bV (!t6499))] [2,5,122] [] [79,81,82,83] [_,_,_,_,_,_] ⟨c6495,Tryz.call49,Z0r.ok a0 x6483 x6484 t6496 e6497,c6498,Tryz.call13,Z1j.ok (⟨i64.wrap (t5176.1),x6485,x6486,x6487⟩:Z0h) t6499 e6500,trivial⟩ ?_
     obtain rfl:=sj H
     exact lf [(79,84),(81,85),(82,86),(83,87)] [] [] (by kernel_rfl) ⟨rfl,rfl⟩
  ·obtain⟨x6501,rfl⟩:∃ z,z=o6523:=⟨_,rfl⟩
   rintro e s ⟨rfl,rfl⟩
   refine AWp.cond x6501 (by kernel_rfl) (fun c6502 => ?_) (fun c6502 => ?_)
   ·replace H:=iT c6502 H
    refine sO hP hn hm [] [(3,iV .i64 6)] [2,3] [] [84] ?_
    refine AWp.conv (inv:=[(84,2)]) (vk:=[]) (e0:=[0,1]) (t:=⟨[(2,.ptr 2 0 0),(3,iV .i64 6)],[(0,some (.row 10 89 ((((⟨0,[],[],0⟩:Z0h)).f1).map Zz))),(1,some (.row 3 94 ((((⟨0,[],[],0⟩:Z0h)).f2).map Z06))),(2,some (.box 35 [iV .i64 (((⟨0,[],[],0⟩:Z0h)).f0),.own 0,.own 1,iV .i64 (((⟨0,[],[],0⟩:Z0h)).f3)]))],0⟩) (by kernel_rfl) ?_
    refine AWp.ret ?_
    obtain rfl:=sj H
    exact rl (.inl rfl) rfl (by kernel_rfl) (by kernel_rfl)
   ·replace H:=iF c6502 H
    refine AWp.skip ?_
    refine sO hP hn hm [] [(3,iV .i64 0)] [2,3] [(84,some (.box 35 [iV .i64 (i64.wrap (t5176.1)),.own 86,.own 87,iV .i64 x6487]))] [84,86,87] ?_
    refine AWp.conv (inv:=[(84,2),(86,0),(87,1)]) (vk:=[]) (e0:=[]) (t:=⟨[(2,.ptr 2 0 0),(3,iV .i64 0)],[(0,some (.row 10 89 ((((⟨i64.wrap (t5176.1),x6485,x6486,x6487⟩:Z0h)).f1).map Zz))),(1,some (.row 3 94 ((((⟨i64.wrap (t5176.1),x6485,x6486,x6487⟩:Z0h)).f2).map Z06))),(2,some (.box 35 [iV .i64 (((⟨i64.wrap (t5176.1),x6485,x6486,x6487⟩:Z0h)).f0),.own 0,.own 1,iV .i64 (((⟨i64.wrap (t5176.1),x6485,x6486,x6487⟩:Z0h)).f3)]))],0⟩) (by kernel_rfl) ?_
    refine AWp.ret ?_
    obtain rfl:=sj H
    exact rl (.inl rfl) rfl (by kernel_rfl) (by kernel_rfl)
def Z2f.f  : Option (Bool):=(Z1m.f (⟨3,[],[],5⟩:Z0h))>>=fun t5120=>(Z1n.f t5120.1)>>=fun t6529=>((if(t5120.2==(0:Int))=true then(if(t6529.2==(0:Int))=true then(if(((t6529.1).f0)==(3:Int))=true then(if(((t6529.1).f3)==(5:Int))=true then(some ((i64.wrap ((((t6529.1).f1).length:Int)+(((t6529.1).f2).length:Int)))==(0:Int))) else(some false)) else(some false)) else(some false)) else(some false)):Option (Bool))>>=fun x6539=>some x6539
theorem Z2f.ok  (r:Bool) (H:Z2f.f  = some r):Pv.Fn Tryz.prog 9 [] [] 0 (fun x o=>x=bV r∧o=[]):=by
 unfold Z2f.f at H
 refine Fn.bodyK [] Tryz.func9 rfl rfl (fun Γ hP hn => ?_)
 have hm:Tryz.prog.follows .mixedOrders=true:=by kernel_rfl
 replace hn:Γ.n=41:=hn
 refine sO hP hn hm [] [] [] [] [] ?_
 obtain⟨t5120,e5121,H⟩:=Z4 H
 refine sR hP hn hm [(1,.call [] [(0,0)] [] [0] 0 (.tup [.own 0,iV .i64 t5120.2]) [(0,some (.row 1 5 (t5120.1.map (Z2 .u8))))])] [(1,.own 0),(2,iV .i64 t5120.2)] [1,2] [(0,some (.row 1 5 (t5120.1.map (Z2 .u8))))] [0] [_,_] ⟨Tryz.call11,Z1m.ok (⟨3,[],[],5⟩:Z0h) t5120 e5121,trivial⟩ ?_
 refine AWp.seq ?_
 refine AWp.conv (inv:=[]) (vk:=[0]) (e0:=[]) (t:=⟨[(1,.im (.row (t5120.1.map (Z2 .u8)))),(2,iV .i64 t5120.2)],[],0⟩) (by kernel_rfl) ?_
 obtain⟨t6529,e6530,H⟩:=Z4 H
 refine rG hP hn hm [(1,.call [] [(0,1),(1,2)] [] [1,2] 0 (.tup [.agg [iV .i64 ((t6529.1).f0),.own 0,.own 1,iV .i64 ((t6529.1).f3)],iV .i64 t6529.2]) [(0,some (.row 10 89 (((t6529.1).f1).map Zz))),(1,some (.row 3 94 (((t6529.1).f2).map Z06)))]),(5,.k 3)] [(3,.ptr 3 0 0),(4,iV .i64 t6529.2)] [2,3,4] [(1,some (.row 10 89 (((t6529.1).f1).map Zz))),(2,some (.row 3 94 (((t6529.1).f2).map Z06))),(3,some (.box 35 [iV .i64 ((t6529.1).f0),.own 1,.own 2,iV .i64 ((t6529.1).f3)]))] [1,2,3] [_,_] ⟨Tryz.call14,Z1n.ok t5120.1 t6529 e6530,trivial⟩ ?_
 refine AWp.seq ?_
 obtain⟨o6540,e6541,H⟩:=Z4 H
 refine AWp.mono (Q:=fun e s=>(match (generalizing:=false) o6540 with | x6539=>e = .normal∧s=⟨[(0,bV x6539)],[],0⟩)) (AWp.cv ?_) ?_
 ·replace H:=e6541;clear e6541
  rcases Bool.eq_false_or_eq_true (t5120.2==(0:Int)) with c6535 | c6535
  ·replace H:=iT c6535 H
   rcases Bool.eq_false_or_eq_true (t6529.2==(0:Int)) with c6536 | c6536
   ·replace H:=iT c6536 H
    rcases Bool.eq_false_or_eq_true (((t6529.1).f0)==(3:Int)) with c6537 | c6537
    ·replace H:=iT c6537 H
     rcases Bool.eq_false_or_eq_true (((t6529.1).f3)==(5:Int)) with c6538 | c6538
     ·replace H:=iT c6538 H
      refine rG hP hn hm [(2,.b true),(6,.b true),(11,.b true),(16,.b true),(19,.any (iV .i64 (((t6529.1).f1).length:Int))),(22,.any (iV .i64 (((t6529.1).f2).length:Int)))] [(0,bV ((i64.wrap ((((t6529.1).f1).length:Int)+(((t6529.1).f2).length:Int)))==(0:Int)))] [0] [] [] [_,_,_,_,((((t6529.1).f1).map Zz).length:Int)=(((t6529.1).f1).length:Int),((((t6529.1).f2).map Z06).length:Int)=(((t6529.1).f2).length:Int)] ⟨c6535,c6536,c6537,c6538,by rw[Zr],by rw[Zr],trivial⟩ ?_
      obtain rfl:=sj H
      exact lf [] [] [] (by kernel_rfl) ⟨rfl,rfl⟩
     ·replace H:=iF c6538 H
      refine rG hP hn hm [(2,.b true),(6,.b true),(11,.b true),(16,.b false)] [(0,bV false)] [0] [] [] [_,_,_,_] ⟨c6535,c6536,c6537,c6538,trivial⟩ ?_
      obtain rfl:=sj H
      exact lf [] [] [] (by kernel_rfl) ⟨rfl,rfl⟩
    ·replace H:=iF c6537 H
     refine rG hP hn hm [(2,.b true),(6,.b true),(11,.b false)] [(0,bV false)] [0] [] [] [_,_,_] ⟨c6535,c6536,c6537,trivial⟩ ?_
     obtain rfl:=sj H
     exact lf [] [] [] (by kernel_rfl) ⟨rfl,rfl⟩
   ·replace H:=iF c6536 H
    refine rG hP hn hm [(2,.b true),(6,.b false)] [(0,bV false)] [0] [] [] [_,_] ⟨c6535,c6536,trivial⟩ ?_
    obtain rfl:=sj H
    exact lf [] [] [] (by kernel_rfl) ⟨rfl,rfl⟩
  ·replace H:=iF c6535 H
   refine rG hP hn hm [(2,.b false)] [(0,bV false)] [0] [] [] [_] ⟨c6535,trivial⟩ ?_
   obtain rfl:=sj H
   exact lf [] [] [] (by kernel_rfl) ⟨rfl,rfl⟩
 ·obtain⟨x6539,rfl⟩:∃ z,z=o6540:=⟨_,rfl⟩
  rintro e s ⟨rfl,rfl⟩
  refine AWp.conv (inv:=[]) (vk:=[]) (e0:=[]) (t:=⟨[(0,bV x6539)],[],0⟩) (by kernel_rfl) ?_
  refine AWp.ret ?_
  obtain rfl:=sj H
  exact rl (.inl rfl) rfl (by kernel_rfl) (by kernel_rfl)
def Z3m.f (a0:Int):Option (Bool):=((if(decide (a0≥(0:Int)))=true then(some (decide (a0≤(1099511627776:Int)))) else(some false)):Option (Bool))>>=fun x6600=>some x6600
theorem Z3m.ok (a0:Int) (r:Bool) (H:Z3m.f a0=some r):Pv.Fn Tryz.prog 29 [iV .i64 a0] [] 0 (fun x o=>x=bV r∧o=[]):=by
 unfold Z3m.f at H
 refine Fn.bodyK [] Tryz.func29 rfl rfl (fun Γ hP hn => ?_)
 have hm:Tryz.prog.follows .mixedOrders=true:=by kernel_rfl
 replace hn:Γ.n=9:=hn
 refine sO hP hn hm [] [] [0] [] [] ?_
 refine AWp.seq ?_
 obtain⟨o6601,e6602,H⟩:=Z4 H
 refine AWp.mono (Q:=fun e s=>(match (generalizing:=false) o6601 with | x6600=>e = .normal∧s=⟨[(2,bV x6600)],[],0⟩)) (AWp.cv ?_) ?_
 ·replace H:=e6602;clear e6602
  rcases Bool.eq_false_or_eq_true (decide (a0≥(0:Int))) with c6599 | c6599
  ·replace H:=iT c6599 H
   refine rG hP hn hm [(2,.b true)] [(2,bV (decide (a0≤(1099511627776:Int))))] [2] [] [] [_] ⟨c6599,trivial⟩ ?_
   obtain rfl:=sj H
   exact lf [] [] [] (by kernel_rfl) ⟨rfl,rfl⟩
  ·replace H:=iF c6599 H
   refine rG hP hn hm [(2,.b false)] [(2,bV false)] [2] [] [] [_] ⟨c6599,trivial⟩ ?_
   obtain rfl:=sj H
   exact lf [] [] [] (by kernel_rfl) ⟨rfl,rfl⟩
 ·obtain⟨x6600,rfl⟩:∃ z,z=o6601:=⟨_,rfl⟩
  rintro e s ⟨rfl,rfl⟩
  refine AWp.conv (inv:=[]) (vk:=[]) (e0:=[]) (t:=⟨[(2,bV x6600)],[],0⟩) (by kernel_rfl) ?_
  refine AWp.ret ?_
  obtain rfl:=sj H
  exact rl (.inl rfl) rfl (by kernel_rfl) (by kernel_rfl)
def Z25.f (a0:Int):Option (Bool):=((if(decide (a0≥(-4)))=true then(some (decide (a0≤(8:Int)))) else(some false)):Option (Bool))>>=fun x6612=>some x6612
theorem Z25.ok (a0:Int) (r:Bool) (H:Z25.f a0=some r):Pv.Fn Tryz.prog 64 [iV .i64 a0] [] 0 (fun x o=>x=bV r∧o=[]):=by
 unfold Z25.f at H
 refine Fn.bodyK [] Tryz.func64 rfl rfl (fun Γ hP hn => ?_)
 have hm:Tryz.prog.follows .mixedOrders=true:=by kernel_rfl
 replace hn:Γ.n=9:=hn
 refine sO hP hn hm [] [] [0] [] [] ?_
 refine AWp.seq ?_
 obtain⟨o6613,e6614,H⟩:=Z4 H
 refine AWp.mono (Q:=fun e s=>(match (generalizing:=false) o6613 with | x6612=>e = .normal∧s=⟨[(2,bV x6612)],[],0⟩)) (AWp.cv ?_) ?_
 ·replace H:=e6614;clear e6614
  rcases Bool.eq_false_or_eq_true (decide (a0≥(-4))) with c6611 | c6611
  ·replace H:=iT c6611 H
   refine rG hP hn hm [(2,.b true)] [(2,bV (decide (a0≤(8:Int))))] [2] [] [] [_] ⟨c6611,trivial⟩ ?_
   obtain rfl:=sj H
   exact lf [] [] [] (by kernel_rfl) ⟨rfl,rfl⟩
  ·replace H:=iF c6611 H
   refine rG hP hn hm [(2,.b false)] [(2,bV false)] [2] [] [] [_] ⟨c6611,trivial⟩ ?_
   obtain rfl:=sj H
   exact lf [] [] [] (by kernel_rfl) ⟨rfl,rfl⟩
 ·obtain⟨x6612,rfl⟩:∃ z,z=o6613:=⟨_,rfl⟩
  rintro e s ⟨rfl,rfl⟩
  refine AWp.conv (inv:=[]) (vk:=[]) (e0:=[]) (t:=⟨[(2,bV x6612)],[],0⟩) (by kernel_rfl) ?_
  refine AWp.ret ?_
  obtain rfl:=sj H
  exact rl (.inl rfl) rfl (by kernel_rfl) (by kernel_rfl)
def Z2n.l0 (x6642:Int) (x6643:Int):Option (Int):=if(decide (x6643<(8:Int)))=true then(Z2n.l0  (i64.wrap (x6642*(2:Int))) (i64.wrap (x6643+(1:Int)))) else(some x6642)
partial_fixpoint
def Z2n.f (a0:Int):Option (Int):=(Z2n.l0  1 a0)>>=fun x6645=>some x6645
theorem Z2n.ok (a0:Int) (r:Int) (H:Z2n.f a0=some r):Pv.Fn Tryz.prog 101 [iV .i64 a0] [] 0 (fun x o=>x=iV .i64 r∧o=[]):=by
 unfold Z2n.f at H
 refine Fn.bodyK [] Tryz.func101 rfl rfl (fun Γ hP hn => ?_)
 have hm:Tryz.prog.follows .mixedOrders=true:=by kernel_rfl
 replace hn:Γ.n=13:=hn
 refine sO hP hn hm [] [] [0] [] [] ?_
 refine sO hP hn hm [] [(3,iV .i64 1)] [0,3] [] [] ?_
 refine AWp.seq ?_
 refine sO hP hn hm [] [(4,iV .i64 a0)] [3,4] [] [] ?_
 refine AWp.block ?_
 obtain⟨o6646,e6647,H⟩:=Z4 H
 refine AWp.loop (LWp.conv (inv:=[]) (vk:=[]) (e0:=[]) (t:=⟨[(3,iV .i64 1),(4,iV .i64 a0)],[],0⟩) (by kernel_rfl) ?_)
 refine LWp.mono (Q:=fun e s=>(match (generalizing:=false) o6646 with | x6645=>e = .exit 0∧s=⟨[(3,iV .i64 x6645)],[],0⟩)) (LWp.cv (Zs (fun body hbody => ?_))) ?_
 ·refine        Z2n.l0.partial_correctness  (motive:=fun x6642 x6643 o6646=>LWp Γ body (fun e s=>∃ t,Cv Γ s t∧(match (generalizing:=false) o6646 with | x6645=>e = .exit 0∧t=⟨[(3,iV .i64 x6645)],[],0⟩)) ⟨[(3,iV .i64 x6642),(4,iV .i64 x6643)],[],0⟩) ?_ _ _ _ e6647
  clear H e6647 o6646;intro self ih x6642 x6643 o6646 H
  subst hbody
  refine LWp.round ?_
  refine AWp.seq ?_
  refine sO hP hn hm [] [(7,bV (decide (x6643<(8:Int))))] [3,4,7] [] [] ?_
  refine AWp.cond (decide (x6643<(8:Int))) (by kernel_rfl) (fun c6644 => ?_) (fun c6644 => ?_)
  ·replace H:=iT c6644 H
   refine AWp.skip ?_
   refine AWp.seq ?_
   refine AWp.block ?_
   refine rO hP hn hm [] [(3,iV .i64 (i64.wrap (x6642*(2:Int))))] [3,4] [] [] ?_
   refine rO hP hn hm [] [(4,iV .i64 (i64.wrap (x6643+(1:Int))))] [3,4] [] [] ?_
   exact LWp.conv [] [] [] (by kernel_rfl) (ih _ _ _ H)
  ·replace H:=iF c6644 H
   refine AWp.exit ?_
   obtain rfl:=sj H
   exact lf [] [] [] (by kernel_rfl) ⟨rfl,rfl⟩
 ·obtain⟨x6645,rfl⟩:∃ z,z=o6646:=⟨_,rfl⟩
  rintro e s ⟨rfl,rfl⟩
  refine sO hP hn hm [] [(2,iV .i64 x6645)] [2] [] [] ?_
  refine AWp.conv (inv:=[]) (vk:=[]) (e0:=[]) (t:=⟨[(2,iV .i64 x6645)],[],0⟩) (by kernel_rfl) ?_
  refine AWp.ret ?_
  obtain rfl:=sj H
  exact rl (.inl rfl) rfl (by kernel_rfl) (by kernel_rfl)
def Z2o.f (a0:Int) (a1:Int):Option (Int):=(Z25.f a0)>>=fun t6638=>if(!t6638)=true then(some 0) else((Z2n.f a0)>>=fun t6650=>some (i64.wrap (a1*t6650)))
theorem Z2o.ok (a0:Int) (a1:Int) (r:Int) (H:Z2o.f a0 a1=some r):Pv.Fn Tryz.prog 66 [iV .i64 a0,iV .i64 a1] [] 0 (fun x o=>x=iV .i64 r∧o=[]):=by
 unfold Z2o.f at H
 refine Fn.bodyK [] Tryz.func66 rfl rfl (fun Γ hP hn => ?_)
 have hm:Tryz.prog.follows .mixedOrders=true:=by kernel_rfl
 replace hn:Γ.n=12:=hn
 refine sO hP hn hm [] [] [0,1] [] [] ?_
 refine AWp.seq ?_
 obtain⟨t6638,e6639,H⟩:=Z4 H
 refine sR hP hn hm [(1,.call [] [] [] [] 0 (bV t6638) [])] [(7,bV (!t6638))] [0,1,7] [] [] [_,_] ⟨Tryz.call64,Z25.ok a0 t6638 e6639,trivial⟩ ?_
 refine AWp.cond (!t6638) (by kernel_rfl) (fun c6640 => ?_) (fun c6640 => ?_)
 ·replace H:=iT c6640 H
  refine sO hP hn hm [] [(4,iV .i64 0)] [4] [] [] ?_
  refine AWp.conv (inv:=[]) (vk:=[]) (e0:=[]) (t:=⟨[(4,iV .i64 0)],[],0⟩) (by kernel_rfl) ?_
  refine AWp.ret ?_
  obtain rfl:=sj H
  exact rl (.inl rfl) rfl (by kernel_rfl) (by kernel_rfl)
 ·replace H:=iF c6640 H
  refine AWp.skip ?_
  obtain⟨t6650,e6651,H⟩:=Z4 H
  refine sR hP hn hm [(2,.call [] [] [] [] 0 (iV .i64 t6650) [])] [(4,iV .i64 (i64.wrap (a1*t6650)))] [4] [] [] [_,_] ⟨Tryz.call101,Z2n.ok a0 t6650 e6651,trivial⟩ ?_
  refine AWp.conv (inv:=[]) (vk:=[]) (e0:=[]) (t:=⟨[(4,iV .i64 (i64.wrap (a1*t6650)))],[],0⟩) (by kernel_rfl) ?_
  refine AWp.ret ?_
  obtain rfl:=sj H
  exact rl (.inl rfl) rfl (by kernel_rfl) (by kernel_rfl)
def Z5j.f (a0:Int) (a1:Int):Option (Bool):=(((Z25.f a0)>>=fun t6657=>if t6657=true then(if(decide (a1>(-262144)))=true then(if(decide (a1≤(262144:Int)))=true then((Z2o.f a0 a1)>>=fun t6662=>if(decide (t6662>(-262144)))=true then((Z2o.f a0 a1)>>=fun t6665=>some (decide (t6665≤(262144:Int)))) else(some false)) else(some false)) else(some false)) else(some false)):Option (Bool))>>=fun x6667=>some x6667
theorem Z5j.ok (a0:Int) (a1:Int) (r:Bool) (H:Z5j.f a0 a1=some r):Pv.Fn Tryz.prog 65 [iV .i64 a0,iV .i64 a1] [] 0 (fun x o=>x=bV r∧o=[]):=by
 unfold Z5j.f at H
 refine Fn.bodyK [] Tryz.func65 rfl rfl (fun Γ hP hn => ?_)
 have hm:Tryz.prog.follows .mixedOrders=true:=by kernel_rfl
 replace hn:Γ.n=27:=hn
 refine sO hP hn hm [] [] [0,1] [] [] ?_
 refine AWp.seq ?_
 obtain⟨o6668,e6669,H⟩:=Z4 H
 refine AWp.mono (Q:=fun e s=>(match (generalizing:=false) o6668 with | x6667=>e = .normal∧s=⟨[(4,bV x6667)],[],0⟩)) (AWp.cv ?_) ?_
 ·replace H:=e6669;clear e6669
  obtain⟨t6657,e6658,H⟩:=Z4 H
  rcases Bool.eq_false_or_eq_true t6657 with c6659 | c6659
  ·replace H:=iT c6659 H
   rcases Bool.eq_false_or_eq_true (decide (a1>(-262144))) with c6660 | c6660
   ·replace H:=iT c6660 H
    rcases Bool.eq_false_or_eq_true (decide (a1≤(262144:Int))) with c6661 | c6661
    ·replace H:=iT c6661 H
     obtain⟨t6662,e6663,H⟩:=Z4 H
     rcases Bool.eq_false_or_eq_true (decide (t6662>(-262144))) with c6664 | c6664
     ·replace H:=iT c6664 H
      obtain⟨t6665,e6666,H⟩:=Z4 H
      refine rG hP hn hm [(1,.call [] [] [] [] 0 (bV t6657) []),(2,.b true),(6,.b true),(10,.b true),(13,.call [] [] [] [] 0 (iV .i64 t6662) []),(16,.b true),(19,.call [] [] [] [] 0 (iV .i64 t6665) [])] [(4,bV (decide (t6665≤(262144:Int))))] [4] [] [] [_,_,_,_,_,_,_,_,_,_] ⟨Tryz.call64,Z25.ok a0 t6657 e6658,c6659,c6660,c6661,Tryz.call66,Z2o.ok a0 a1 t6662 e6663,c6664,Tryz.call66,Z2o.ok a0 a1 t6665 e6666,trivial⟩ ?_
      obtain rfl:=sj H
      exact lf [] [] [] (by kernel_rfl) ⟨rfl,rfl⟩
     ·replace H:=iF c6664 H
      refine rG hP hn hm [(1,.call [] [] [] [] 0 (bV t6657) []),(2,.b true),(6,.b true),(10,.b true),(13,.call [] [] [] [] 0 (iV .i64 t6662) []),(16,.b false)] [(4,bV false)] [4] [] [] [_,_,_,_,_,_,_,_] ⟨Tryz.call64,Z25.ok a0 t6657 e6658,c6659,c6660,c6661,Tryz.call66,Z2o.ok a0 a1 t6662 e6663,c6664,trivial⟩ ?_
      obtain rfl:=sj H
      exact lf [] [] [] (by kernel_rfl) ⟨rfl,rfl⟩
    ·replace H:=iF c6661 H
     refine rG hP hn hm [(1,.call [] [] [] [] 0 (bV t6657) []),(2,.b true),(6,.b true),(10,.b false)] [(4,bV false)] [4] [] [] [_,_,_,_,_] ⟨Tryz.call64,Z25.ok a0 t6657 e6658,c6659,c6660,c6661,trivial⟩ ?_
     obtain rfl:=sj H
     exact lf [] [] [] (by kernel_rfl) ⟨rfl,rfl⟩
   ·replace H:=iF c6660 H
    refine rG hP hn hm [(1,.call [] [] [] [] 0 (bV t6657) []),(2,.b true),(6,.b false)] [(4,bV false)] [4] [] [] [_,_,_,_] ⟨Tryz.call64,Z25.ok a0 t6657 e6658,c6659,c6660,trivial⟩ ?_
    obtain rfl:=sj H
    exact lf [] [] [] (by kernel_rfl) ⟨rfl,rfl⟩
  ·replace H:=iF c6659 H
   refine rG hP hn hm [(1,.call [] [] [] [] 0 (bV t6657) []),(2,.b false)] [(4,bV false)] [4] [] [] [_,_,_] ⟨Tryz.call64,Z25.ok a0 t6657 e6658,c6659,trivial⟩ ?_
   obtain rfl:=sj H
   exact lf [] [] [] (by kernel_rfl) ⟨rfl,rfl⟩
 ·obtain⟨x6667,rfl⟩:∃ z,z=o6668:=⟨_,rfl⟩
  rintro e s ⟨rfl,rfl⟩
  refine AWp.conv (inv:=[]) (vk:=[]) (e0:=[]) (t:=⟨[(4,bV x6667)],[],0⟩) (by kernel_rfl) ?_
  refine AWp.ret ?_
  obtain rfl:=sj H
  exact rl (.inl rfl) rfl (by kernel_rfl) (by kernel_rfl)
def Z3b.l0 (a0:List Int) (x6787:Int) (x6788:Int):Option ((Int×Int) ⊕ Int):=if(decide (x6788<(a0.length:Int)))=true then((at? a0 x6788)>>=fun b6793=>if(decide (b6793>(u64.wrap ((18446744073709551615:Int)-x6787))))=true then(some (.inl (0,5))) else(Z3b.l0 a0 (u64.wrap (x6787+b6793)) (i64.wrap (x6788+(1:Int))))) else(some (.inr x6787))
partial_fixpoint
def Z3b.f (a0:List Int):Option (Int×Int):=(Z3b.l0 a0 0 0)>>=fun oo=>match oo with | .inl rr=>(some rr) | .inr x6797=>(some (x6797,0))
theorem Z3b.ok (a0:List Int) (r:Int×Int) (H:Z3b.f a0=some r):Pv.Fn Tryz.prog 67 [.im (.row (a0.map (Z2 .u64)))] [] 0 (fun x o=>x = .tup [iV .u64 r.1,iV .i64 r.2]∧o=[]):=by
 unfold Z3b.f at H
 refine Fn.bodyK [] Tryz.func67 rfl rfl (fun Γ hP hn => ?_)
 have hm:Tryz.prog.follows .mixedOrders=true:=by kernel_rfl
 replace hn:Γ.n=26:=hn
 refine sO hP hn hm [] [] [0] [] [] ?_
 refine sO hP hn hm [] [(4,iV .u64 0)] [0,4] [] [] ?_
 refine AWp.seq ?_
 refine sO hP hn hm [] [(5,iV .i64 0)] [0,4,5] [] [] ?_
 refine AWp.block ?_
 obtain⟨o6798,e6799,H⟩:=Z4 H
 refine AWp.loop (LWp.conv (inv:=[]) (vk:=[]) (e0:=[]) (t:=⟨[(0,.im (.row (a0.map (Z2 .u64)))),(4,iV .u64 0),(5,iV .i64 0)],[],0⟩) (by kernel_rfl) ?_)
 refine LWp.mono (Q:=fun e s=>(match (generalizing:=false) o6798 with | .inl rr=>e = .ret∧s.floor=0∧Z1y Tryz.prog Tryz.f67 s=some (.tup [iV .u64 rr.1,iV .i64 rr.2])∧([]:List (Nat×Option MObj))=[] | .inr x6797=>e = .exit 0∧s=⟨[(4,iV .u64 x6797)],[],0⟩)) (LWp.cv (Zs (fun body hbody => ?_))) ?_
 ·refine       Z3b.l0.partial_correctness a0 (motive:=fun x6787 x6788 o6798=>LWp Γ body (fun e s=>∃ t,Cv Γ s t∧(match (generalizing:=false) o6798 with | .inl rr=>e = .ret∧t.floor=0∧Z1y   Tryz.prog Tryz.f67 t=some (.tup [iV .u64 rr.1,iV .i64 rr.2])∧([]:List (Nat×Option MObj))=[] | .inr x6797=>e = .exit 0∧t=⟨[(4,iV .u64 x6797)],[],0⟩)) ⟨[(0,.im (.row (a0.map (Z2     .u64)))),(4,iV .u64 x6787),(5,iV .i64 x6788)],[],0⟩) ?_ _ _ _ e6799
  clear H e6799 o6798;intro self ih x6787 x6788 o6798 H
  subst hbody
  refine LWp.round ?_
  refine AWp.seq ?_
  refine sR hP hn hm [(2,.any (iV .i64 (a0.length:Int)))] [(9,bV (decide (x6788<(a0.length:Int))))] [0,4,5,9] [] [] [((a0.map (Z2 .u64)).length:Int)=(a0.length:Int)] ⟨by rw[Zr],trivial⟩ ?_
  refine AWp.cond (decide (x6788<(a0.length:Int))) (by kernel_rfl) (fun c6789 => ?_) (fun c6789 => ?_)
  ·replace H:=iT c6789 H
   refine AWp.skip ?_
   refine AWp.seq ?_
   refine AWp.block ?_
   refine AWp.seq ?_
   obtain⟨b6793,p6794,q6795,H⟩:=Z02 H
   refine sR hP hn hm [(2,.c ((Z2 .u64) b6793))] [(18,bV (decide (b6793>(u64.wrap ((18446744073709551615:Int)-x6787)))))] [0,4,5,18] [] [] [_,_] ⟨p6794,Zi (Z2 .u64) q6795,trivial⟩ ?_
   refine AWp.cond (decide (b6793>(u64.wrap ((18446744073709551615:Int)-x6787)))) (by kernel_rfl) (fun c6796 => ?_) (fun c6796 => ?_)
   ·replace H:=iT c6796 H
    refine sO hP hn hm [] [(2,iV .u64 0),(3,iV .i64 5)] [2,3] [] [] ?_
    refine AWp.conv (inv:=[]) (vk:=[]) (e0:=[]) (t:=⟨[(2,iV .u64 0),(3,iV .i64 5)],[],0⟩) (by kernel_rfl) ?_
    refine AWp.ret ?_
    obtain rfl:=sj H
    exact rl rfl rfl (by kernel_rfl) (by kernel_rfl)
   ·replace H:=iF c6796 H
    refine AWp.skip ?_
    refine rG hP hn hm [(3,.c ((Z2 .u64) b6793))] [(4,iV .u64 (u64.wrap (x6787+b6793)))] [0,4,5] [] [] [_,_] ⟨p6794,Zi (Z2 .u64) q6795,trivial⟩ ?_
    refine rO hP hn hm [] [(5,iV .i64 (i64.wrap (x6788+(1:Int))))] [0,4,5] [] [] ?_
    exact LWp.conv [] [] [] (by kernel_rfl) (ih _ _ _ H)
  ·replace H:=iF c6789 H
   refine AWp.exit ?_
   obtain rfl:=sj H
   exact lf [] [] [] (by kernel_rfl) ⟨rfl,rfl⟩
 ·rcases o6798 with rr | x6797
  ·skip
   rintro e s ⟨rfl,hfl,hres⟩
   obtain rfl:=sj H
   exact Exists.intro _ (And.intro (fun _ _ h=>h) (And.intro (.inl rfl) (And.intro hfl hres)))
  ·skip
   rintro e s ⟨rfl,rfl⟩
   refine sO hP hn hm [] [(2,iV .u64 x6797),(3,iV .i64 0)] [2,3] [] [] ?_
   refine AWp.conv (inv:=[]) (vk:=[]) (e0:=[]) (t:=⟨[(2,iV .u64 x6797),(3,iV .i64 0)],[],0⟩) (by kernel_rfl) ?_
   refine AWp.ret ?_
   obtain rfl:=sj H
   exact rl (.inl rfl) rfl (by kernel_rfl) (by kernel_rfl)
def Z05.l1 (a0:Z0f) (x6720:Int) (x6723:List Z9) (x6745:List Int) (x6746:Int):Option (Int ⊕ (List Int)):=if(decide (x6746<(x6723.length:Int)))=true then((at? x6723 x6746)>>=fun b6753=>(Z5j.f a0.f1 b6753.f0)>>=fun t6756=>if(!t6756)=true then(some (.inl 4)) else(((if(decide (x6746>(0:Int)))=true then((at? x6723 (i64.wrap (x6746-(1:Int))))>>=fun b6764=>some (decide (b6753.f0≤b6764.f0))) else(some false)):Option (Bool))>>=fun x6767=>if x6767=true then(some (.inl 32)) else(if(b6753.f1==(0:Int))=true then(some (.inl 21)) else((Z2o.f a0.f1 (i64.wrap (b6753.f0-(1:Int))))>>=fun t6772=>if(decide (t6772<a0.f2))=true then(some (.inl 31)) else((chk ((x6745.length+[b6753.f1].length)*8≤140737488355328))>>=fun _=>Z05.l1 a0 x6720 x6723 (x6745++[b6753.f1]) (i64.wrap (x6746+(1:Int)))))))) else(some (.inr x6745))
partial_fixpoint
def Z05.l0 (a0:Z0f) (x6719:List Int) (x6720:Int):Option (Int ⊕ (List Int)):=if(decide (x6720<(2:Int)))=true then(((if(x6720==(1:Int))=true then(some a0.f7) else(some a0.f6)):Option (List Z9))>>=fun x6723=>if(decide ((x6723.length:Int)>(512:Int)))=true then(some (.inl 9)) else((Z05.l1 a0 x6720 x6723 x6719 0)>>=fun oo=>match oo with | .inl rr=>(some (.inl rr)) | .inr x6777=>(Z05.l0 a0 x6777 (i64.wrap (x6720+(1:Int)))))) else(some (.inr x6719))
partial_fixpoint
def Z05.f (a0:Z0f):Option (Int):=((if(a0.f0 != (0:Int))=true then(some (a0.f0 != (1:Int))) else(some false)):Option (Bool))>>=fun x6608=>if x6608=true then(some 25) else((Z25.f a0.f1)>>=fun t6617=>if(!t6617)=true then(some 20) else(((if(a0.f2 != (-524288))=true then(if(decide (a0.f2≤(-262144)))=true then(some true) else(some (decide (a0.f2>(262144:Int))))) else(some false)):Option (Bool))>>=fun x6624=>if x6624=true then(some 31) else((Z05.l0 a0 [a0.f3] 0)>>=fun oo=>match oo with | .inl rr=>(some rr) | .inr x6778=>((Z3b.f x6778)>>=fun t6802=>if(t6802.2 != (0:Int))=true then(some 5) else(if(t6802.1 != a0.f4)=true then(some 21) else(some 0))))))
theorem Z05.ok (a0:Z0f) (r:Int) (H:Z05.f a0=some r):Pv.Fn Tryz.prog 30 [.agg (Z08 a0)] [] 0 (fun x o=>x=iV .i64 r∧o=[]):=by
 unfold Z05.f at H
 refine Fn.bodyK [] Tryz.func30 rfl rfl (fun Γ hP hn => ?_)
 have hm:Tryz.prog.follows .mixedOrders=true:=by kernel_rfl
 replace hn:Γ.n=118:=hn
 refine sO hP hn hm [(0,.k 0)] [(1,.ptr 0 0 0)] [1] [(0,some (.box 48 (Z08 a0)))] [0] ?_
 refine AWp.seq ?_
 refine AWp.seq ?_
 obtain⟨o6806,e6807,H⟩:=Z4 H
 refine AWp.mono (Q:=fun e s=>(match (generalizing:=false) o6806 with | x6608=>e = .normal∧s=⟨[(1,.ptr 1 0 0),(16,bV x6608)],[(1,some (.box 48 (Z08 a0)))],0⟩)) (AWp.cv ?_) ?_
 ·replace H:=e6807;clear e6807
  rcases Bool.eq_false_or_eq_true (a0.f0 != (0:Int)) with c6607 | c6607
  ·replace H:=iT c6607 H
   refine rG hP hn hm [(3,.b true)] [(16,bV (a0.f0 != (1:Int)))] [1,16] [] [0] [_] ⟨c6607,trivial⟩ ?_
   obtain rfl:=sj H
   exact lf [(0,1)] [] [] (by kernel_rfl) ⟨rfl,rfl⟩
  ·replace H:=iF c6607 H
   refine rG hP hn hm [(3,.b false)] [(16,bV false)] [1,16] [] [0] [_] ⟨c6607,trivial⟩ ?_
   obtain rfl:=sj H
   exact lf [(0,1)] [] [] (by kernel_rfl) ⟨rfl,rfl⟩
 ·obtain⟨x6608,rfl⟩:∃ z,z=o6806:=⟨_,rfl⟩
  rintro e s ⟨rfl,rfl⟩
  refine AWp.cond x6608 (by kernel_rfl) (fun c6609 => ?_) (fun c6609 => ?_)
  ·replace H:=iT c6609 H
   refine sO hP hn hm [] [(2,iV .i64 25)] [2] [] [] ?_
   refine AWp.conv (inv:=[]) (vk:=[]) (e0:=[]) (t:=⟨[(2,iV .i64 25)],[],0⟩) (by kernel_rfl) ?_
   refine AWp.ret ?_
   obtain rfl:=sj H
   exact rl (.inl rfl) rfl (by kernel_rfl) (by kernel_rfl)
  ·replace H:=iF c6609 H
   refine AWp.skip ?_
   refine AWp.seq ?_
   obtain⟨t6617,e6618,H⟩:=Z4 H
   refine sR hP hn hm [(2,.call [] [] [] [] 0 (bV t6617) [])] [(20,bV (!t6617))] [1,20] [] [1] [_,_] ⟨Tryz.call64,Z25.ok a0.f1 t6617 e6618,trivial⟩ ?_
   refine AWp.cond (!t6617) (by kernel_rfl) (fun c6619 => ?_) (fun c6619 => ?_)
   ·replace H:=iT c6619 H
    refine sO hP hn hm [] [(2,iV .i64 20)] [2] [] [] ?_
    refine AWp.conv (inv:=[]) (vk:=[]) (e0:=[]) (t:=⟨[(2,iV .i64 20)],[],0⟩) (by kernel_rfl) ?_
    refine AWp.ret ?_
    obtain rfl:=sj H
    exact rl (.inl rfl) rfl (by kernel_rfl) (by kernel_rfl)
   ·replace H:=iF c6619 H
    refine AWp.skip ?_
    refine AWp.seq ?_
    refine AWp.seq ?_
    obtain⟨o6808,e6809,H⟩:=Z4 H
    refine AWp.mono (Q:=fun e s=>(match (generalizing:=false) o6808 with | x6624=>e = .normal∧s=⟨[(1,.ptr 2 0 0),(33,bV x6624)],[(2,some (.box 48 (Z08 a0)))],0⟩)) (AWp.cv ?_) ?_
    ·replace H:=e6809;clear e6809
     rcases Bool.eq_false_or_eq_true (a0.f2 != (-524288)) with c6622 | c6622
     ·replace H:=iT c6622 H
      rcases Bool.eq_false_or_eq_true (decide (a0.f2≤(-262144))) with c6623 | c6623
      ·replace H:=iT c6623 H
       refine rG hP hn hm [(3,.b true),(7,.b true)] [(33,bV true)] [1,33] [] [1] [_,_] ⟨c6622,c6623,trivial⟩ ?_
       obtain rfl:=sj H
       exact lf [(1,2)] [] [] (by kernel_rfl) ⟨rfl,rfl⟩
      ·replace H:=iF c6623 H
       refine rG hP hn hm [(3,.b true),(7,.b false)] [(33,bV (decide (a0.f2>(262144:Int))))] [1,33] [] [1] [_,_] ⟨c6622,c6623,trivial⟩ ?_
       obtain rfl:=sj H
       exact lf [(1,2)] [] [] (by kernel_rfl) ⟨rfl,rfl⟩
     ·replace H:=iF c6622 H
      refine rG hP hn hm [(3,.b false)] [(33,bV false)] [1,33] [] [1] [_] ⟨c6622,trivial⟩ ?_
      obtain rfl:=sj H
      exact lf [(1,2)] [] [] (by kernel_rfl) ⟨rfl,rfl⟩
    ·obtain⟨x6624,rfl⟩:∃ z,z=o6808:=⟨_,rfl⟩
     rintro e s ⟨rfl,rfl⟩
     refine AWp.cond x6624 (by kernel_rfl) (fun c6625 => ?_) (fun c6625 => ?_)
     ·replace H:=iT c6625 H
      refine sO hP hn hm [] [(2,iV .i64 31)] [2] [] [] ?_
      refine AWp.conv (inv:=[]) (vk:=[]) (e0:=[]) (t:=⟨[(2,iV .i64 31)],[],0⟩) (by kernel_rfl) ?_
      refine AWp.ret ?_
      obtain rfl:=sj H
      exact rl (.inl rfl) rfl (by kernel_rfl) (by kernel_rfl)
     ·replace H:=iF c6625 H
      refine AWp.skip ?_
      refine sR hP hn hm [(2,.app 3 ([a0.f3].map (Z2 .u64)))] [(3,.own 3)] [1,3] [(3,some (.row 1 45 ([a0.f3].map (Z2 .u64))))] [2,3] [[a0.f3].map (Z2 .u64)=[[iI .u64 a0.f3]]] ⟨by exact rfl,trivial⟩ ?_
      refine AWp.seq ?_
      refine sO hP hn hm [] [(4,iV .i64 0)] [1,3,4] [] [2,3] ?_
      refine AWp.block ?_
      obtain⟨o6810,e6811,H⟩:=Z4 H
      refine AWp.loop (LWp.conv (inv:=[(2,14),(3,15)]) (vk:=[]) (e0:=[]) (t:=⟨[(1,.ptr 14 0 0),(3,.own 15),(4,iV .i64 0)],[(14,some (.box 48 (Z08 a0))),(15,some (.row 1 45 ([a0.f3].map (Z2 .u64))))],0⟩) (by kernel_rfl) ?_)
      refine LWp.mono (Q:=fun e s=>(match (generalizing:=false) o6810 with | .inl rr=>e = .ret∧s.floor=0∧Z1y Tryz.prog Tryz.f30 s=some (iV .i64 rr)∧([]:List (Nat×Option MObj))=[] | .inr x6778=>e = .exit 0∧s=⟨[(1,.ptr 28 0 0),(3,.own 29)],[(28,some (.box 48 (Z08 a0))),(29,some (.row 1 45 (x6778.map (Z2 .u64))))],0⟩)) (LWp.cv (Zs (fun body hbody => ?_))) ?_
      ·refine         Z05.l0.partial_correctness a0 (motive:=fun x6719 x6720 o6810=>LWp Γ body (fun e s=>∃ t,Cv Γ s t∧(match (generalizing:=false) o6810 with | .inl rr=>e = .ret∧t.floor=0∧Z1y   Tryz.prog Tryz.f30 t=some (iV .i64 rr)∧([]:List (Nat×Option MObj))=[] | .inr x6778=>e = .exit 0∧t=⟨[(1,.ptr 28 0 0),(3,.own 29)],[(28,some (.box 48 (Z08   a0))),(29,some (.row 1 45 (x6778.map (Z2     .u64))))],0⟩)) ⟨[(1,.ptr 14 0 0),(3,.own 15),(4,iV .i64 x6720)],[(14,some (.box 48 (Z08   a0))),(15,some (.row 1 45 (x6719.map (Z2     .u64))))],0⟩) ?_ _ _ _ e6811
       clear H e6811 o6810;intro self ih x6719 x6720 o6810 H
       subst hbody
       refine LWp.round ?_
       refine AWp.seq ?_
       refine sO hP hn hm [] [(38,bV (decide (x6720<(2:Int))))] [1,3,4,38] [] [14,15] ?_
       refine AWp.cond (decide (x6720<(2:Int))) (by kernel_rfl) (fun c6721 => ?_) (fun c6721 => ?_)
       ·replace H:=iT c6721 H
        refine AWp.skip ?_
        refine AWp.seq ?_
        refine AWp.block ?_
        refine sO hP hn hm [] [(5,.im (.row (a0.f6.map Z1)))] [1,3,4,5] [] [14,15] ?_
        refine AWp.seq ?_
        refine sO hP hn hm [] [(44,bV (x6720==(1:Int)))] [1,3,4,5,44] [] [14,15] ?_
        obtain⟨o6812,e6813,H⟩:=Z4 H
        refine AWp.mono (Q:=fun e s=>(match (generalizing:=false) o6812 with | x6723=>e = .normal∧s=⟨[(1,.ptr 16 0 0),(3,.own 17),(4,iV .i64 x6720),(5,.im (.row (x6723.map Z1)))],[(16,some (.box 48 (Z08 a0))),(17,some (.row 1 45 (x6719.map (Z2 .u64))))],0⟩)) (AWp.cv ?_) ?_
        ·replace H:=e6813;clear e6813
         refine AWp.cond (x6720==(1:Int)) (by kernel_rfl) (fun c6722 => ?_) (fun c6722 => ?_)
         ·replace H:=iT c6722 H
          refine rO hP hn hm [] [(5,.im (.row (a0.f7.map Z1)))] [1,3,4,5] [] [14,15] ?_
          obtain rfl:=sj H
          exact lf [(14,16),(15,17)] [] [] (by kernel_rfl) ⟨rfl,rfl⟩
         ·replace H:=iF c6722 H
          refine AWp.skip ?_
          obtain rfl:=sj H
          exact lf [(14,16),(15,17)] [] [] (by kernel_rfl) ⟨rfl,rfl⟩
        ·obtain⟨x6723,rfl⟩:∃ z,z=o6812:=⟨_,rfl⟩
         rintro e s ⟨rfl,rfl⟩
         refine AWp.seq ?_
         refine sR hP hn hm [(1,.any (iV .i64 (x6723.length:Int)))] [(49,bV (decide ((x6723.length:Int)>(512:Int))))] [1,3,4,5,49] [] [16,17] [((x6723.map Z1).length:Int)=(x6723.length:Int)] ⟨by rw[Zr],trivial⟩ ?_
         refine AWp.cond (decide ((x6723.length:Int)>(512:Int))) (by kernel_rfl) (fun c6724 => ?_) (fun c6724 => ?_)
         ·replace H:=iT c6724 H
          refine sO hP hn hm [] [(2,iV .i64 9)] [2] [] [] ?_
          refine AWp.conv (inv:=[]) (vk:=[]) (e0:=[]) (t:=⟨[(2,iV .i64 9)],[],0⟩) (by kernel_rfl) ?_
          refine AWp.ret ?_
          obtain rfl:=sj H
          exact rl rfl rfl (by kernel_rfl) (by kernel_rfl)
         ·replace H:=iF c6724 H
          refine AWp.skip ?_
          refine sO hP hn hm [] [(6,iV .i64 0)] [1,3,4,5,6] [] [16,17] ?_
          refine AWp.block ?_
          obtain⟨o6814,e6815,H⟩:=Z4 H
          refine AWp.loop (LWp.conv (inv:=[(16,20),(17,21)]) (vk:=[]) (e0:=[]) (t:=⟨[(1,.ptr 20 0 0),(3,.own 21),(4,iV .i64 x6720),(5,.im (.row (x6723.map Z1))),(6,iV .i64 0)],[(20,some (.box 48 (Z08 a0))),(21,some (.row 1 45 (x6719.map (Z2 .u64))))],0⟩) (by kernel_rfl) ?_)
          refine LWp.mono (Q:=fun e s=>(match (generalizing:=false) o6814 with | .inl rr=>e = .ret∧s.floor=0∧Z1y Tryz.prog Tryz.f30 s=some (iV .i64 rr)∧([]:List (Nat×Option MObj))=[] | .inr x6777=>e = .exit 2∧s=⟨[(1,.ptr 26 0 0),(3,.own 27),(4,iV .i64 x6720)],[(26,some (.box 48 (Z08 a0))),(27,some (.row 1 45 (x6777.map (Z2 .u64))))],0⟩)) (LWp.cv (Zs (fun body hbody => ?_))) ?_
          ·refine         Z05.l1.partial_correctness a0 x6720 x6723 (motive:=fun x6745 x6746 o6814=>LWp Γ body (fun e s=>∃ t,Cv Γ s t∧(match (generalizing:=false) o6814 with | .inl rr=>e = .ret∧t.floor=0∧Z1y   Tryz.prog Tryz.f30 t=some (iV .i64 rr)∧([]:List (Nat×Option MObj))=[] | .inr x6777=>e = .exit 2∧t=⟨[(1,.ptr 26 0 0),(3,.own 27),(4,iV .i64 x6720)],[(26,some (.box 48 (Z08   a0))),(27,some (.row 1 45 (x6777.map (Z2     .u64))))],0⟩)) ⟨[(1,.ptr 20 0 0),(3,.own 21),(4,iV .i64 x6720),(5,.im (.row (x6723.map Z1     ))),(6,iV .i64 x6746)],[(20,some (.box 48 (Z08   a0))),(21,some (.row 1 45 (x6745.map (Z2     .u64))))],0⟩) ?_ _ _ _ e6815
           clear H e6815 o6814;intro self ih x6745 x6746 o6814 H
           subst hbody
           refine LWp.round ?_
           refine AWp.seq ?_
           refine sR hP hn hm [(2,.any (iV .i64 (x6723.length:Int)))] [(53,bV (decide (x6746<(x6723.length:Int))))] [1,3,4,5,6,53] [] [20,21] [((x6723.map Z1).length:Int)=(x6723.length:Int)] ⟨by rw[Zr],trivial⟩ ?_
           refine AWp.cond (decide (x6746<(x6723.length:Int))) (by kernel_rfl) (fun c6747 => ?_) (fun c6747 => ?_)
           ·replace H:=iT c6747 H
            refine AWp.skip ?_
            refine AWp.seq ?_
            refine AWp.block ?_
            refine AWp.seq ?_
            obtain⟨b6753,p6754,q6755,H⟩:=Z02 H
            obtain⟨t6756,e6757,H⟩:=Z4 H
            refine sR hP hn hm [(4,.c (Z1 b6753)),(7,.call [] [] [] [] 0 (bV t6756) [])] [(64,bV (!t6756))] [1,3,4,5,6,64] [] [20,21] [_,_,_,_] ⟨p6754,Zi Z1 q6755,Tryz.call65,Z5j.ok a0.f1 b6753.f0 t6756 e6757,trivial⟩ ?_
            refine AWp.cond (!t6756) (by kernel_rfl) (fun c6758 => ?_) (fun c6758 => ?_)
            ·replace H:=iT c6758 H
             refine sO hP hn hm [] [(2,iV .i64 4)] [2] [] [] ?_
             refine AWp.conv (inv:=[]) (vk:=[]) (e0:=[]) (t:=⟨[(2,iV .i64 4)],[],0⟩) (by kernel_rfl) ?_
             refine AWp.ret ?_
             obtain rfl:=sj H
             exact rl rfl rfl (by kernel_rfl) (by kernel_rfl)
            ·replace H:=iF c6758 H
             refine AWp.skip ?_
             refine AWp.seq ?_
             refine AWp.seq ?_
             obtain⟨o6816,e6817,H⟩:=Z4 H
             refine AWp.mono (Q:=fun e s=>(match (generalizing:=false) o6816 with | x6767=>e = .normal∧s=⟨[(1,.ptr 22 0 0),(3,.own 23),(4,iV .i64 x6720),(5,.im (.row (x6723.map Z1))),(6,iV .i64 x6746),(80,bV x6767)],[(22,some (.box 48 (Z08 a0))),(23,some (.row 1 45 (x6745.map (Z2 .u64))))],0⟩)) (AWp.cv ?_) ?_
             ·replace H:=e6817;clear e6817
              rcases Bool.eq_false_or_eq_true (decide (x6746>(0:Int))) with c6763 | c6763
              ·replace H:=iT c6763 H
               obtain⟨b6764,p6765,q6766,H⟩:=Z02 H
               refine rG hP hn hm [(2,.b true),(5,.c (Z1 b6753)),(11,.c (Z1 b6764))] [(68,.im (.row (x6723.map Z1))),(69,iV .i64 x6746),(70,.ip [iI .i64 b6753.f0,iI .u64 b6753.f1]),(71,.ip [iI .i64 b6753.f0,iI .u64 b6753.f1]),(72,iV .i64 b6753.f0),(73,.im (.row (x6723.map Z1))),(74,iV .i64 x6746),(75,iV .i64 (i64.wrap (x6746-(1:Int)))),(76,.ip [iI .i64 b6764.f0,iI .u64 b6764.f1]),(77,.ip [iI .i64 b6764.f0,iI .u64 b6764.f1]),(78,iV .i64 b6764.f0),(79,bV (decide (b6753.f0≤b6764.f0))),(80,bV (decide (b6753.f0≤b6764.f0)))] [1,3,4,5,6,68,69,70,71,72,73,74,75,76,77,78,79,80] [] [20,21] [_,_,_,_,_] ⟨c6763,p6754,Zi Z1 q6755,p6765,Zi Z1 q6766,trivial⟩ ?_
               obtain rfl:=sj H
               exact lf [(20,22),(21,23)] [] [] (by kernel_rfl) ⟨rfl,rfl⟩
              ·replace H:=iF c6763 H
               refine rG hP hn hm [(2,.b false)] [(80,bV false)] [1,3,4,5,6,80] [] [20,21] [_] ⟨c6763,trivial⟩ ?_
               obtain rfl:=sj H
               exact lf [(20,22),(21,23)] [] [] (by kernel_rfl) ⟨rfl,rfl⟩
             ·obtain⟨x6767,rfl⟩:∃ z,z=o6816:=⟨_,rfl⟩
              rintro e s ⟨rfl,rfl⟩
              refine AWp.cond x6767 (by kernel_rfl) (fun c6768 => ?_) (fun c6768 => ?_)
              ·replace H:=iT c6768 H
               refine sO hP hn hm [] [(2,iV .i64 32)] [2] [] [] ?_
               refine AWp.conv (inv:=[]) (vk:=[]) (e0:=[]) (t:=⟨[(2,iV .i64 32)],[],0⟩) (by kernel_rfl) ?_
               refine AWp.ret ?_
               obtain rfl:=sj H
               exact rl rfl rfl (by kernel_rfl) (by kernel_rfl)
              ·replace H:=iF c6768 H
               refine AWp.skip ?_
               refine AWp.seq ?_
               refine sR hP hn hm [(2,.c (Z1 b6753))] [(86,bV (b6753.f1==(0:Int)))] [1,3,4,5,6,86] [] [22,23] [_,_] ⟨p6754,Zi Z1 q6755,trivial⟩ ?_
               refine AWp.cond (b6753.f1==(0:Int)) (by kernel_rfl) (fun c6769 => ?_) (fun c6769 => ?_)
               ·replace H:=iT c6769 H
                refine sO hP hn hm [] [(2,iV .i64 21)] [2] [] [] ?_
                refine AWp.conv (inv:=[]) (vk:=[]) (e0:=[]) (t:=⟨[(2,iV .i64 21)],[],0⟩) (by kernel_rfl) ?_
                refine AWp.ret ?_
                obtain rfl:=sj H
                exact rl rfl rfl (by kernel_rfl) (by kernel_rfl)
               ·replace H:=iF c6769 H
                refine AWp.skip ?_
                refine AWp.seq ?_
                obtain⟨t6772,e6773,H⟩:=Z4 H
                refine sR hP hn hm [(4,.c (Z1 b6753)),(8,.call [] [] [] [] 0 (iV .i64 t6772) [])] [(98,bV (decide (t6772<a0.f2)))] [1,3,4,5,6,98] [] [22,23] [_,_,_,_] ⟨p6754,Zi Z1 q6755,Tryz.call66,Z2o.ok a0.f1 (i64.wrap (b6753.f0-(1:Int))) t6772 e6773,trivial⟩ ?_
                refine AWp.cond (decide (t6772<a0.f2)) (by kernel_rfl) (fun c6774 => ?_) (fun c6774 => ?_)
                ·replace H:=iT c6774 H
                 refine sO hP hn hm [] [(2,iV .i64 31)] [2] [] [] ?_
                 refine AWp.conv (inv:=[]) (vk:=[]) (e0:=[]) (t:=⟨[(2,iV .i64 31)],[],0⟩) (by kernel_rfl) ?_
                 refine AWp.ret ?_
                 obtain rfl:=sj H
                 exact rl rfl rfl (by kernel_rfl) (by kernel_rfl)
                ·replace H:=iF c6774 H
                 refine AWp.skip ?_
                 obtain⟨c6776,H⟩:=Z10 H
                 refine rG hP hn hm [(3,.c (Z1 b6753)),(6,.app 24 ([b6753.f1].map (Z2 .u64))),(7,.app 25 ((x6745++[b6753.f1]).map (Z2 .u64)))] [(3,.own 25)] [1,3,4,5,6] [(25,some (.row 1 45 ((x6745++[b6753.f1]).map (Z2 .u64))))] [22,25] [_,_,[b6753.f1].map (Z2 .u64)=[[iI .u64 b6753.f1]],(x6745++[b6753.f1]).map (Z2 .u64)=(x6745.map (Z2 .u64))++([b6753.f1].map (Z2 .u64)),∀ c∈([b6753.f1].map (Z2 .u64)),c.length=1,∀ c∈([b6753.f1].map (Z2 .u64)),Z16 (c.map .im)=true,((x6745.map (Z2 .u64)).length+([b6753.f1].map (Z2 .u64)).length)*8≤140737488355328] ⟨p6754,Zi Z1 q6755,by exact rfl,by simp,by exact Z12 _ _ _ (fun _=>rfl),by exact Z14 _ _ (fun _=>rfl),by simpa using c6776,trivial⟩ ?_
                 refine rO hP hn hm [] [(6,iV .i64 (i64.wrap (x6746+(1:Int))))] [1,3,4,5,6] [] [22,25] ?_
                 exact LWp.conv [(22,20),(25,21)] [] [] (by kernel_rfl) (ih _ _ _ H)
           ·replace H:=iF c6747 H
            refine AWp.exit ?_
            obtain rfl:=sj H
            exact lf [(20,26),(21,27)] [] [] (by kernel_rfl) ⟨rfl,rfl⟩
          ·rcases o6814 with rr | x6777
           ·skip
            rintro e s ⟨rfl,hfl,hres⟩
            obtain rfl:=sj H
            exact Exists.intro _ (And.intro (fun _ _ h=>h) (And.intro rfl (And.intro hfl hres)))
           ·skip
            rintro e s ⟨rfl,rfl⟩
            refine rO hP hn hm [] [(4,iV .i64 (i64.wrap (x6720+(1:Int))))] [1,3,4] [] [26,27] ?_
            exact LWp.conv [(26,14),(27,15)] [] [] (by kernel_rfl) (ih _ _ _ H)
       ·replace H:=iF c6721 H
        refine AWp.exit ?_
        obtain rfl:=sj H
        exact lf [(14,28),(15,29)] [] [] (by kernel_rfl) ⟨rfl,rfl⟩
      ·rcases o6810 with rr | x6778
       ·skip
        rintro e s ⟨rfl,hfl,hres⟩
        obtain rfl:=sj H
        exact Exists.intro _ (And.intro (fun _ _ h=>h) (And.intro (.inl rfl) (And.intro hfl hres)))
       ·skip
        rintro e s ⟨rfl,rfl⟩
        obtain⟨t6802,e6803,H⟩:=Z4 H
        refine sR hP hn hm [(1,.call [] [] [29] [] 0 (.tup [iV .u64 t6802.1,iV .i64 t6802.2]) [])] [(7,iV .u64 t6802.1),(8,iV .i64 t6802.2)] [1,7,8] [] [28] [_,_] ⟨Tryz.call67,Z3b.ok x6778 t6802 e6803,trivial⟩ ?_
        refine AWp.seq ?_
        refine sO hP hn hm [] [(113,bV (t6802.2 != (0:Int)))] [1,7,113] [] [28] ?_
        refine AWp.cond (t6802.2 != (0:Int)) (by kernel_rfl) (fun c6804 => ?_) (fun c6804 => ?_)
        ·replace H:=iT c6804 H
         refine sO hP hn hm [] [(2,iV .i64 5)] [2] [] [] ?_
         refine AWp.conv (inv:=[]) (vk:=[]) (e0:=[]) (t:=⟨[(2,iV .i64 5)],[],0⟩) (by kernel_rfl) ?_
         refine AWp.ret ?_
         obtain rfl:=sj H
         exact rl (.inl rfl) rfl (by kernel_rfl) (by kernel_rfl)
        ·replace H:=iF c6804 H
         refine AWp.skip ?_
         refine AWp.seq ?_
         refine sO hP hn hm [] [(117,bV (t6802.1 != a0.f4))] [117] [] [] ?_
         refine AWp.cond (t6802.1 != a0.f4) (by kernel_rfl) (fun c6805 => ?_) (fun c6805 => ?_)
         ·replace H:=iT c6805 H
          refine sO hP hn hm [] [(2,iV .i64 21)] [2] [] [] ?_
          refine AWp.conv (inv:=[]) (vk:=[]) (e0:=[]) (t:=⟨[(2,iV .i64 21)],[],0⟩) (by kernel_rfl) ?_
          refine AWp.ret ?_
          obtain rfl:=sj H
          exact rl (.inl rfl) rfl (by kernel_rfl) (by kernel_rfl)
         ·replace H:=iF c6805 H
          refine AWp.skip ?_
          refine sO hP hn hm [] [(2,iV .i64 0)] [2] [] [] ?_
          refine AWp.conv (inv:=[]) (vk:=[]) (e0:=[]) (t:=⟨[(2,iV .i64 0)],[],0⟩) (by kernel_rfl) ?_
          refine AWp.ret ?_
          obtain rfl:=sj H
          exact rl (.inl rfl) rfl (by kernel_rfl) (by kernel_rfl)
def Z1d.l0 (a0:List Zt) (x6832:Int):Option (Bool ⊕ Unit):=if(decide (x6832<(a0.length:Int)))=true then((((at? a0 x6832)>>=fun b6847=>(Z3m.f b6847.f0)>>=fun t6850=>if(!t6850)=true then(some true) else((Z05.f b6847.f1)>>=fun t6853=>if(t6853 != (0:Int))=true then(some true) else(if(decide (x6832>(0:Int)))=true then((at? a0 (i64.wrap (x6832-(1:Int))))>>=fun b6857=>some (decide (b6847.f0≤b6857.f0))) else(some false)))):Option (Bool))>>=fun x6860=>if x6860=true then(some (.inl false)) else(Z1d.l0 a0 (i64.wrap (x6832+(1:Int))))) else(some (.inr ()))
partial_fixpoint
def Z1d.f (a0:List Zt):Option (Bool):=(Z1d.l0 a0 0)>>=fun oo=>match oo with | .inl rr=>(some rr) | .inr _=>(some true)
theorem Z1d.ok (a0:List Zt) (r:Bool) (H:Z1d.f a0=some r):Pv.Fn Tryz.prog 19 [.im (.row (a0.map Z6))] [] 0 (fun x o=>x=bV r∧o=[]):=by
 unfold Z1d.f at H
 refine Fn.bodyK [] Tryz.func19 rfl rfl (fun Γ hP hn => ?_)
 have hm:Tryz.prog.follows .mixedOrders=true:=by kernel_rfl
 replace hn:Γ.n=44:=hn
 refine sO hP hn hm [] [] [0] [] [] ?_
 refine AWp.seq ?_
 refine sO hP hn hm [] [(3,iV .i64 0)] [0,3] [] [] ?_
 refine AWp.block ?_
 obtain⟨o6862,e6863,H⟩:=Z4 H
 refine AWp.loop (LWp.conv (inv:=[]) (vk:=[]) (e0:=[]) (t:=⟨[(0,.im (.row (a0.map Z6))),(3,iV .i64 0)],[],0⟩) (by kernel_rfl) ?_)
 refine LWp.mono (Q:=fun e s=>(match (generalizing:=false) o6862 with | .inl rr=>e = .ret∧s.floor=0∧Z1y Tryz.prog Tryz.f19 s=some (bV rr)∧([]:List (Nat×Option MObj))=[] | .inr _=>e = .exit 0∧s=⟨[],[],0⟩)) (LWp.cv (Zs (fun body hbody => ?_))) ?_
 ·refine          Z1d.l0.partial_correctness a0 (motive:=fun x6832 o6862=>LWp Γ body (fun e s=>∃ t,Cv Γ s t∧(match (generalizing:=false) o6862 with | .inl rr=>e = .ret∧t.floor=0∧Z1y   Tryz.prog Tryz.f19 t=some (bV rr)∧([]:List (Nat×Option MObj))=[] | .inr _=>e = .exit 0∧t=⟨[],[],0⟩)) ⟨[(0,.im (.row (a0.map Z6     ))),(3,iV .i64 x6832)],[],0⟩) ?_ _ _ e6863
  clear H e6863 o6862;intro self ih x6832 o6862 H
  subst hbody
  refine LWp.round ?_
  refine AWp.seq ?_
  refine sR hP hn hm [(2,.any (iV .i64 (a0.length:Int)))] [(7,bV (decide (x6832<(a0.length:Int))))] [0,3,7] [] [] [((a0.map Z6).length:Int)=(a0.length:Int)] ⟨by rw[Zr],trivial⟩ ?_
  refine AWp.cond (decide (x6832<(a0.length:Int))) (by kernel_rfl) (fun c6833 => ?_) (fun c6833 => ?_)
  ·replace H:=iT c6833 H
   refine AWp.skip ?_
   refine AWp.seq ?_
   refine AWp.block ?_
   refine AWp.seq ?_
   obtain⟨o6864,e6865,H⟩:=Z4 H
   refine AWp.mono (Q:=fun e s=>(match (generalizing:=false) o6864 with | x6860=>e = .normal∧s=⟨[(0,.im (.row (a0.map Z6))),(3,iV .i64 x6832),(43,bV x6860)],[],0⟩)) (AWp.cv ?_) ?_
   ·replace H:=e6865;clear e6865
    obtain⟨b6847,p6848,q6849,H⟩:=Z02 H
    obtain⟨t6850,e6851,H⟩:=Z4 H
    rcases Bool.eq_false_or_eq_true (!t6850) with c6852 | c6852
    ·replace H:=iT c6852 H
     refine rG hP hn hm [(2,.c (Z6 b6847)),(5,.call [] [] [] [] 0 (bV t6850) []),(7,.b true)] [(43,bV true)] [0,3,43] [] [] [_,_,_,_,_] ⟨p6848,Zi Z6 q6849,Tryz.call29,Z3m.ok b6847.f0 t6850 e6851,c6852,trivial⟩ ?_
     obtain rfl:=sj H
     exact lf [] [] [] (by kernel_rfl) ⟨rfl,rfl⟩
    ·replace H:=iF c6852 H
     obtain⟨t6853,e6854,H⟩:=Z4 H
     rcases Bool.eq_false_or_eq_true (t6853 != (0:Int)) with c6855 | c6855
     ·replace H:=iT c6855 H
      refine rG hP hn hm [(2,.c (Z6 b6847)),(5,.call [] [] [] [] 0 (bV t6850) []),(7,.b false),(10,.c (Z6 b6847)),(13,.call [] [] [] [] 0 (iV .i64 t6853) []),(16,.b true)] [(18,.im (.row (a0.map Z6))),(19,iV .i64 x6832),(20,.ip [iI .i64 b6847.f0,iI .i64 b6847.f1.f0,iI .i64 b6847.f1.f1,iI .i64 b6847.f1.f2,iI .u64 b6847.f1.f3,iI .u64 b6847.f1.f4,iI .i64 b6847.f1.f5,.row (b6847.f1.f6.map Z1),.row (b6847.f1.f7.map Z1)]),(21,.ip [iI .i64 b6847.f1.f0,iI .i64 b6847.f1.f1,iI .i64 b6847.f1.f2,iI .u64 b6847.f1.f3,iI .u64 b6847.f1.f4,iI .i64 b6847.f1.f5,.row (b6847.f1.f6.map Z1),.row (b6847.f1.f7.map Z1)]),(22,.agg (Z08 b6847.f1)),(23,iV .i64 t6853),(24,bV (t6853 != (0:Int))),(43,bV true)] [0,3,18,19,20,21,22,23,24,43] [] [] [_,_,_,_,_,_,_,_,_,_] ⟨p6848,Zi Z6 q6849,Tryz.call29,Z3m.ok b6847.f0 t6850 e6851,c6852,p6848,Zi Z6 q6849,Tryz.call30,Z05.ok b6847.f1 t6853 e6854,c6855,trivial⟩ ?_
      obtain rfl:=sj H
      exact lf [] [] [] (by kernel_rfl) ⟨rfl,rfl⟩
     ·replace H:=iF c6855 H
      rcases Bool.eq_false_or_eq_true (decide (x6832>(0:Int))) with c6856 | c6856
      ·replace H:=iT c6856 H
       obtain⟨b6857,p6858,q6859,H⟩:=Z02 H
       refine rG hP hn hm [(2,.c (Z6 b6847)),(5,.call [] [] [] [] 0 (bV t6850) []),(7,.b false),(10,.c (Z6 b6847)),(13,.call [] [] [] [] 0 (iV .i64 t6853) []),(16,.b false),(19,.b true),(22,.c (Z6 b6847)),(28,.c (Z6 b6857))] [(18,.im (.row (a0.map Z6))),(19,iV .i64 x6832),(20,.ip [iI .i64 b6847.f0,iI .i64 b6847.f1.f0,iI .i64 b6847.f1.f1,iI .i64 b6847.f1.f2,iI .u64 b6847.f1.f3,iI .u64 b6847.f1.f4,iI .i64 b6847.f1.f5,.row (b6847.f1.f6.map Z1),.row (b6847.f1.f7.map Z1)]),(21,.ip [iI .i64 b6847.f1.f0,iI .i64 b6847.f1.f1,iI .i64 b6847.f1.f2,iI .u64 b6847.f1.f3,iI .u64 b6847.f1.f4,iI .i64 b6847.f1.f5,.row (b6847.f1.f6.map Z1),.row (b6847.f1.f7.map Z1)]),(22,.agg (Z08 b6847.f1)),(23,iV .i64 t6853),(24,bV (t6853 != (0:Int))),(27,iV .i64 x6832),(28,bV (decide (x6832>(0:Int)))),(29,bV true),(30,.im (.row (a0.map Z6))),(31,iV .i64 x6832),(32,.ip [iI .i64 b6847.f0,iI .i64 b6847.f1.f0,iI .i64 b6847.f1.f1,iI .i64 b6847.f1.f2,iI .u64 b6847.f1.f3,iI .u64 b6847.f1.f4,iI .i64 b6847.f1.f5,.row (b6847.f1.f6.map Z1),.row (b6847.f1.f7.map Z1)]),(33,.ip [iI .i64 b6847.f0,iI .i64 b6847.f1.f0,iI .i64 b6847.f1.f1,iI .i64 b6847.f1.f2,iI .u64 b6847.f1.f3,iI .u64 b6847.f1.f4,iI .i64 b6847.f1.f5,.row (b6847.f1.f6.map Z1),.row (b6847.f1.f7.map Z1)]),(34,iV .i64 b6847.f0),(35,.im (.row (a0.map Z6))),(36,iV .i64 x6832),(37,iV .i64 (i64.wrap (x6832-(1:Int)))),(38,.ip [iI .i64 b6857.f0,iI .i64 b6857.f1.f0,iI .i64 b6857.f1.f1,iI .i64 b6857.f1.f2,iI .u64 b6857.f1.f3,iI .u64 b6857.f1.f4,iI .i64 b6857.f1.f5,.row (b6857.f1.f6.map Z1),.row (b6857.f1.f7.map Z1)]),(39,.ip [iI .i64 b6857.f0,iI .i64 b6857.f1.f0,iI .i64 b6857.f1.f1,iI .i64 b6857.f1.f2,iI .u64 b6857.f1.f3,iI .u64 b6857.f1.f4,iI .i64 b6857.f1.f5,.row (b6857.f1.f6.map Z1),.row (b6857.f1.f7.map Z1)]),(40,iV .i64 b6857.f0),(41,bV (decide (b6847.f0≤b6857.f0))),(42,bV (decide (b6847.f0≤b6857.f0))),(43,bV (decide (b6847.f0≤b6857.f0)))] [0,3,18,19,20,21,22,23,24,27,28,29,30,31,32,33,34,35,36,37,38,39,40,41,42,43] [] [] [_,_,_,_,_,_,_,_,_,_,_,_,_,_,_] ⟨p6848,Zi Z6 q6849,Tryz.call29,Z3m.ok b6847.f0 t6850 e6851,c6852,p6848,Zi Z6 q6849,Tryz.call30,Z05.ok b6847.f1 t6853 e6854,c6855,c6856,p6848,Zi Z6 q6849,p6858,Zi Z6 q6859,trivial⟩ ?_
       obtain rfl:=sj H
       exact lf [] [] [] (by kernel_rfl) ⟨rfl,rfl⟩
      ·replace H:=iF c6856 H
       refine rG hP hn hm [(2,.c (Z6 b6847)),(5,.call [] [] [] [] 0 (bV t6850) []),(7,.b false),(10,.c (Z6 b6847)),(13,.call [] [] [] [] 0 (iV .i64 t6853) []),(16,.b false),(19,.b false)] [(18,.im (.row (a0.map Z6))),(19,iV .i64 x6832),(20,.ip [iI .i64 b6847.f0,iI .i64 b6847.f1.f0,iI .i64 b6847.f1.f1,iI .i64 b6847.f1.f2,iI .u64 b6847.f1.f3,iI .u64 b6847.f1.f4,iI .i64 b6847.f1.f5,.row (b6847.f1.f6.map Z1),.row (b6847.f1.f7.map Z1)]),(21,.ip [iI .i64 b6847.f1.f0,iI .i64 b6847.f1.f1,iI .i64 b6847.f1.f2,iI .u64 b6847.f1.f3,iI .u64 b6847.f1.f4,iI .i64 b6847.f1.f5,.row (b6847.f1.f6.map Z1),.row (b6847.f1.f7.map Z1)]),(22,.agg (Z08 b6847.f1)),(23,iV .i64 t6853),(24,bV (t6853 != (0:Int))),(27,iV .i64 x6832),(28,bV (decide (x6832>(0:Int)))),(29,bV false),(42,bV false),(43,bV false)] [0,3,18,19,20,21,22,23,24,27,28,29,42,43] [] [] [_,_,_,_,_,_,_,_,_,_,_] ⟨p6848,Zi Z6 q6849,Tryz.call29,Z3m.ok b6847.f0 t6850 e6851,c6852,p6848,Zi Z6 q6849,Tryz.call30,Z05.ok b6847.f1 t6853 e6854,c6855,c6856,trivial⟩ ?_
       obtain rfl:=sj H
       exact lf [] [] [] (by kernel_rfl) ⟨rfl,rfl⟩
   ·obtain⟨x6860,rfl⟩:∃ z,z=o6864:=⟨_,rfl⟩
    rintro e s ⟨rfl,rfl⟩
    refine AWp.cond x6860 (by kernel_rfl) (fun c6861 => ?_) (fun c6861 => ?_)
    ·replace H:=iT c6861 H
     refine sO hP hn hm [] [(2,bV false)] [2] [] [] ?_
     refine AWp.conv (inv:=[]) (vk:=[]) (e0:=[]) (t:=⟨[(2,bV false)],[],0⟩) (by kernel_rfl) ?_
     refine AWp.ret ?_
     obtain rfl:=sj H
     exact rl rfl rfl (by kernel_rfl) (by kernel_rfl)
    ·replace H:=iF c6861 H
     refine AWp.skip ?_
     refine rO hP hn hm [] [(3,iV .i64 (i64.wrap (x6832+(1:Int))))] [0,3] [] [] ?_
     exact LWp.conv [] [] [] (by kernel_rfl) (ih _ _ H)
  ·replace H:=iF c6833 H
   refine AWp.exit ?_
   obtain rfl:=sj H
   exact lf [] [] [] (by kernel_rfl) ⟨rfl,rfl⟩
 ·rcases o6862 with rr | _
  ·skip
   rintro e s ⟨rfl,hfl,hres⟩
   obtain rfl:=sj H
   exact Exists.intro _ (And.intro (fun _ _ h=>h) (And.intro (.inl rfl) (And.intro hfl hres)))
  ·skip
   rintro e s ⟨rfl,rfl⟩
   refine sO hP hn hm [] [(2,bV true)] [2] [] [] ?_
   refine AWp.conv (inv:=[]) (vk:=[]) (e0:=[]) (t:=⟨[(2,bV true)],[],0⟩) (by kernel_rfl) ?_
   refine AWp.ret ?_
   obtain rfl:=sj H
   exact rl (.inl rfl) rfl (by kernel_rfl) (by kernel_rfl)
def Z0b.l0 (a0:List Zt) (a1:Int) (x8:Int) (x9:Int):Option (Int):=if(decide (x9<(a0.length:Int)))=true then((at? a0 x9)>>=fun b14=>Z0b.l0 a0 a1 (i64.wrap (x8+(i64.wrap ((i64.wrap ((1:Int)+(b14.f1.f6.length:Int)))+(b14.f1.f7.length:Int))))) (i64.wrap (x9+(1:Int)))) else(some x8)
partial_fixpoint
def Z0b.l1 (a0:List Zt) (a1:Int) (x6557:Bool) (x6558:Int):Option (Bool):=if(decide (x6558<(a0.length:Int)))=true then(((if x6557=true then((chk (0≤x6558∧x6558≤(i64.wrap (x6558+(1:Int)))∧(i64.wrap (x6558+(1:Int)))≤(a0.length:Int)))>>=fun _=>(Zv.f ((a0.drop (Int.toNat (x6558))).take ((Int.toNat ((i64.wrap (x6558+(1:Int)))))-(Int.toNat (x6558)))))>>=fun t6571=>if t6571=true then(if(x6558==(0:Int))=true then(some true) else((chk (0≤(i64.wrap (x6558-(1:Int)))∧(i64.wrap (x6558-(1:Int)))≤(i64.wrap (x6558+(1:Int)))∧(i64.wrap (x6558+(1:Int)))≤(a0.length:Int)))>>=fun _=>(Zv.f ((a0.drop (Int.toNat ((i64.wrap (x6558-(1:Int)))))).take ((Int.toNat ((i64.wrap (x6558+(1:Int)))))-(Int.toNat ((i64.wrap (x6558-(1:Int))))))))>>=fun t6576=>some t6576)) else(some false)) else(some false)):Option (Bool))>>=fun x6578=>Z0b.l1 a0 a1 x6578 (i64.wrap (x6558+(1:Int)))) else(some x6557)
partial_fixpoint
def Z0b.f (a0:List Zt) (a1:Int):Option (Bool):=(Z0b.l0 a0 a1 0 0)>>=fun x17=>if(decide (x17>(600:Int)))=true then((Z2f.f)>>=fun t6544=>some t6544) else((Z0b.l1 a0 a1 true 0)>>=fun x6579=>(chk ((i64.wrap ((a0.length:Int)+(1:Int)))≠0))>>=fun _=>(chk (0≤(0:Int)∧(0:Int)≤(Int.tmod (i64.wrap (a1)) (i64.wrap ((a0.length:Int)+(1:Int))))∧(Int.tmod (i64.wrap (a1)) (i64.wrap ((a0.length:Int)+(1:Int))))≤(a0.length:Int)))>>=fun _=>(((Z2f.f)>>=fun t6876=>if t6876=true then((Zv.f a0)>>=fun t6879=>if(t6879==x6579)=true then(if(!x6579)=true then((Zv.f ([]:List Zt))>>=fun t6883=>if t6883=true then((Z1d.f a0)>>=fun t6886=>some (t6886==x6579)) else(some false)) else((Zv.f ((a0.drop (Int.toNat ((0:Int)))).take ((Int.toNat ((Int.tmod (i64.wrap (a1)) (i64.wrap ((a0.length:Int)+(1:Int))))))-(Int.toNat ((0:Int))))))>>=fun t6888=>if t6888=true then((Zv.f ([]:List Zt))>>=fun t6891=>if t6891=true then((Z1d.f a0)>>=fun t6894=>some (t6894==x6579)) else(some false)) else(some false))) else(some false)) else(some false)):Option (Bool))>>=fun x6896=>some x6896)
theorem Z0b.ok (a0:List Zt) (a1:Int) (r:Bool) (H:Z0b.f a0 a1=some r):Pv.Fn Tryz.prog 5 [.im (.row (a0.map Z6)),iV .u8 a1] [] 0 (fun x o=>x=bV r∧o=[]):=by
 unfold Z0b.f at H
 refine Fn.bodyK [] Tryz.func5 rfl rfl (fun Γ hP hn => ?_)
 have hm:Tryz.prog.follows .mixedOrders=true:=by kernel_rfl
 replace hn:Γ.n=93:=hn
 refine sO hP hn hm [] [] [0,1] [] [] ?_
 refine sO hP hn hm [] [(5,iV .i64 0)] [0,1,5] [] [] ?_
 refine AWp.seq ?_
 refine sR hP hn hm [(1,.any (iV .i64 (a0.length:Int)))] [(11,.im (.row (a0.map Z6))),(12,iV .i64 (a0.length:Int)),(13,iV .i64 0)] [0,1,5,11,12,13] [] [] [((a0.map Z6).length:Int)=(a0.length:Int)] ⟨by rw[Zr],trivial⟩ ?_
 refine AWp.block ?_
 obtain⟨o6897,e6898,H⟩:=Z4 H
 refine AWp.loop (LWp.conv (inv:=[]) (vk:=[]) (e0:=[]) (t:=⟨[(0,.im (.row (a0.map Z6))),(1,iV .u8 a1),(5,iV .i64 0),(11,.im (.row (a0.map Z6))),(12,iV .i64 (a0.length:Int)),(13,iV .i64 0)],[],0⟩) (by kernel_rfl) ?_)
 refine LWp.mono (Q:=fun e s=>(match (generalizing:=false) o6897 with | x17=>e = .exit 0∧s=⟨[(0,.im (.row (a0.map Z6))),(1,iV .u8 a1),(5,iV .i64 x17)],[],0⟩)) (LWp.cv (Zs (fun body hbody => ?_))) ?_
 ·refine               Z0b.l0.partial_correctness a0 a1 (motive:=fun x8 x9 o6897=>LWp Γ body (fun e s=>∃ t,Cv Γ s t∧(match (generalizing:=false) o6897 with | x17=>e = .exit 0∧t=⟨[(0,.im (.row (a0.map Z6     ))),(1,iV .u8 a1),(5,iV .i64 x17)],[],0⟩)) ⟨[(0,.im (.row (a0.map Z6     ))),(1,iV .u8 a1),(5,iV .i64 x8),(11,.im (.row (a0.map Z6     ))),(12,iV .i64 (a0.length:Int)),(13,iV .i64 x9)],[],0⟩) ?_ _ _ _ e6898
  clear H e6898 o6897;intro self ih x8 x9 o6897 H
  subst hbody
  refine LWp.round ?_
  refine sO hP hn hm [] [(14,bV (decide (x9<(a0.length:Int))))] [0,1,5,11,12,13,14] [] [] ?_
  refine AWp.seq ?_
  refine AWp.cond (decide (x9<(a0.length:Int))) (by kernel_rfl) (fun c10 => ?_) (fun c10 => ?_)
  ·replace H:=iT c10 H
   refine AWp.skip ?_
   refine AWp.seq ?_
   refine AWp.block ?_
   obtain⟨b14,p15,q16,H⟩:=Z02 H
   refine sR hP hn hm [(0,.c (Z6 b14)),(2,.k 1)] [(7,.ptr 1 0 0)] [0,1,5,7,11,12,13] [(1,some (.box 50 [iV .i64 b14.f0,iV .i64 b14.f1.f0,iV .i64 b14.f1.f1,iV .i64 b14.f1.f2,iV .u64 b14.f1.f3,iV .u64 b14.f1.f4,iV .i64 b14.f1.f5,.im (.row (b14.f1.f6.map Z1)),.im (.row (b14.f1.f7.map Z1))]))] [1] [_,_] ⟨p15,Zi Z6 q16,trivial⟩ ?_
   refine rG hP hn hm [(4,.any (iV .i64 (b14.f1.f6.length:Int))),(9,.any (iV .i64 (b14.f1.f7.length:Int)))] [(5,iV .i64 (i64.wrap (x8+(i64.wrap ((i64.wrap ((1:Int)+(b14.f1.f6.length:Int)))+(b14.f1.f7.length:Int))))))] [0,1,5,11,12,13] [] [] [((b14.f1.f6.map Z1).length:Int)=(b14.f1.f6.length:Int),((b14.f1.f7.map Z1).length:Int)=(b14.f1.f7.length:Int)] ⟨by rw[Zr],by rw[Zr],trivial⟩ ?_
   refine rO hP hn hm [] [(13,iV .i64 (i64.wrap (x9+(1:Int))))] [0,1,5,11,12,13] [] [] ?_
   exact LWp.conv [] [] [] (by kernel_rfl) (ih _ _ _ H)
  ·replace H:=iF c10 H
   refine AWp.exit ?_
   obtain rfl:=sj H
   exact lf [] [] [] (by kernel_rfl) ⟨rfl,rfl⟩
 ·obtain⟨x17,rfl⟩:∃ z,z=o6897:=⟨_,rfl⟩
  rintro e s ⟨rfl,rfl⟩
  refine AWp.seq ?_
  refine sO hP hn hm [] [(31,bV (decide (x17>(600:Int))))] [0,1,31] [] [] ?_
  refine AWp.cond (decide (x17>(600:Int))) (by kernel_rfl) (fun c18 => ?_) (fun c18 => ?_)
  ·replace H:=iT c18 H
   obtain⟨t6544,e6545,H⟩:=Z4 H
   refine sR hP hn hm [(0,.call [] [] [] [] 0 (bV t6544) [])] [(4,bV t6544)] [4] [] [] [_,_] ⟨Tryz.call9,Z2f.ok  t6544 e6545,trivial⟩ ?_
   refine AWp.conv (inv:=[]) (vk:=[]) (e0:=[]) (t:=⟨[(4,bV t6544)],[],0⟩) (by kernel_rfl) ?_
   refine AWp.ret ?_
   obtain rfl:=sj H
   exact rl (.inl rfl) rfl (by kernel_rfl) (by kernel_rfl)
  ·replace H:=iF c18 H
   refine AWp.skip ?_
   refine sO hP hn hm [] [(8,bV true)] [0,1,8] [] [] ?_
   refine AWp.seq ?_
   refine sR hP hn hm [(1,.any (iV .i64 (a0.length:Int)))] [(34,iV .i64 (a0.length:Int)),(35,iV .i64 0)] [0,1,8,34,35] [] [] [((a0.map Z6).length:Int)=(a0.length:Int)] ⟨by rw[Zr],trivial⟩ ?_
   refine AWp.block ?_
   obtain⟨o6899,e6900,H⟩:=Z4 H
   refine AWp.loop (LWp.conv (inv:=[]) (vk:=[]) (e0:=[]) (t:=⟨[(0,.im (.row (a0.map Z6))),(1,iV .u8 a1),(8,bV true),(34,iV .i64 (a0.length:Int)),(35,iV .i64 0)],[],0⟩) (by kernel_rfl) ?_)
   refine LWp.mono (Q:=fun e s=>(match (generalizing:=false) o6899 with | x6579=>e = .exit 2∧s=⟨[(0,.im (.row (a0.map Z6))),(1,iV .u8 a1),(8,bV x6579)],[],0⟩)) (LWp.cv (Zs (fun body hbody => ?_))) ?_
   ·refine               Z0b.l1.partial_correctness a0 a1 (motive:=fun x6557 x6558 o6899=>LWp Γ body (fun e s=>∃ t,Cv Γ s t∧(match (generalizing:=false) o6899 with | x6579=>e = .exit 2∧t=⟨[(0,.im (.row (a0.map Z6     ))),(1,iV .u8 a1),(8,bV x6579)],[],0⟩)) ⟨[(0,.im (.row (a0.map Z6     ))),(1,iV .u8 a1),(8,bV x6557),(34,iV .i64 (a0.length:Int)),(35,iV .i64 x6558)],[],0⟩) ?_ _ _ _ e6900
    clear H e6900 o6899;intro self ih x6557 x6558 o6899 H
    subst hbody
    refine LWp.round ?_
    refine sO hP hn hm [] [(36,bV (decide (x6558<(a0.length:Int))))] [0,1,8,34,35,36] [] [] ?_
    refine AWp.seq ?_
    refine AWp.cond (decide (x6558<(a0.length:Int))) (by kernel_rfl) (fun c6559 => ?_) (fun c6559 => ?_)
    ·replace H:=iT c6559 H
     refine AWp.skip ?_
     refine AWp.seq ?_
     refine AWp.block ?_
     refine sO hP hn hm [] [(9,iV .i64 x6558)] [0,1,8,9,34,35] [] [] ?_
     obtain⟨o6901,e6902,H⟩:=Z4 H
     refine AWp.mono (Q:=fun e s=>(match (generalizing:=false) o6901 with | x6578=>e = .normal∧s=⟨[(0,.im (.row (a0.map Z6))),(1,iV .u8 a1),(8,bV x6578),(34,iV .i64 (a0.length:Int)),(35,iV .i64 x6558)],[],0⟩)) (AWp.cv ?_) ?_
     ·replace H:=e6902;clear e6902
      rcases Bool.eq_false_or_eq_true x6557 with c6569 | c6569
      ·replace H:=iT c6569 H
       obtain⟨c6570,H⟩:=Z10 H
       obtain⟨t6571,e6572,H⟩:=Z4 H
       rcases Bool.eq_false_or_eq_true t6571 with c6573 | c6573
       ·replace H:=iT c6573 H
        rcases Bool.eq_false_or_eq_true (x6558==(0:Int)) with c6574 | c6574
        ·replace H:=iT c6574 H
         refine rG hP hn hm [(1,.b true),(6,.rows (((a0.drop (Int.toNat (x6558))).take ((Int.toNat ((i64.wrap (x6558+(1:Int)))))-(Int.toNat (x6558)))).map Z6)),(7,.call [] [] [] [] 0 (bV t6571) []),(9,.b true),(12,.b true)] [(8,bV true),(40,.im (.row (a0.map Z6))),(41,iV .i64 x6558),(42,iV .i64 x6558),(43,iV .i64 (i64.wrap (x6558+(1:Int)))),(44,.im (.row (((a0.drop (Int.toNat (x6558))).take ((Int.toNat ((i64.wrap (x6558+(1:Int)))))-(Int.toNat (x6558)))).map Z6))),(45,bV t6571),(48,iV .i64 x6558),(49,bV (x6558==(0:Int))),(50,bV true),(58,bV true)] [0,1,8,34,35,40,41,42,43,44,45,48,49,50,58] [] [] [_,0≤x6558,x6558≤(i64.wrap (x6558+(1:Int))),(i64.wrap (x6558+(1:Int)))≤((a0.map Z6).length:Int),∀ c∈a0.map Z6,c.length=9,((a0.drop (Int.toNat (x6558))).take ((Int.toNat ((i64.wrap (x6558+(1:Int)))))-(Int.toNat (x6558)))).map Z6=((a0.map Z6).drop (Int.toNat (x6558))).take ((Int.toNat ((i64.wrap (x6558+(1:Int)))))-(Int.toNat (x6558))),_,_,_,_] ⟨c6569,by exact c6570.1,by simpa using c6570.2.1,by simpa using c6570.2.2,by exact Z12 _ _ _ (fun _=>rfl),by simp[cut1],Tryz.call18,Zv.ok ((a0.drop (Int.toNat (x6558))).take ((Int.toNat ((i64.wrap (x6558+(1:Int)))))-(Int.toNat (x6558)))) t6571 e6572,c6573,c6574,trivial⟩ ?_
         obtain rfl:=sj H
         exact lf [] [] [] (by kernel_rfl) ⟨rfl,rfl⟩
        ·replace H:=iF c6574 H
         obtain⟨c6575,H⟩:=Z10 H
         obtain⟨t6576,e6577,H⟩:=Z4 H
         refine rG hP hn hm [(1,.b true),(6,.rows (((a0.drop (Int.toNat (x6558))).take ((Int.toNat ((i64.wrap (x6558+(1:Int)))))-(Int.toNat (x6558)))).map Z6)),(7,.call [] [] [] [] 0 (bV t6571) []),(9,.b true),(12,.b false),(18,.rows (((a0.drop (Int.toNat ((i64.wrap (x6558-(1:Int)))))).take ((Int.toNat ((i64.wrap (x6558+(1:Int)))))-(Int.toNat ((i64.wrap (x6558-(1:Int))))))).map Z6)),(19,.call [] [] [] [] 0 (bV t6576) [])] [(8,bV t6576),(40,.im (.row (a0.map Z6))),(41,iV .i64 x6558),(42,iV .i64 x6558),(43,iV .i64 (i64.wrap (x6558+(1:Int)))),(44,.im (.row (((a0.drop (Int.toNat (x6558))).take ((Int.toNat ((i64.wrap (x6558+(1:Int)))))-(Int.toNat (x6558)))).map Z6))),(45,bV t6571),(48,iV .i64 x6558),(49,bV (x6558==(0:Int))),(50,bV false),(51,.im (.row (a0.map Z6))),(52,iV .i64 x6558),(53,iV .i64 (i64.wrap (x6558-(1:Int)))),(54,iV .i64 x6558),(55,iV .i64 (i64.wrap (x6558+(1:Int)))),(56,.im (.row (((a0.drop (Int.toNat ((i64.wrap (x6558-(1:Int)))))).take ((Int.toNat ((i64.wrap (x6558+(1:Int)))))-(Int.toNat ((i64.wrap (x6558-(1:Int))))))).map Z6))),(57,bV t6576),(58,bV t6576)] [0,1,8,34,35,40,41,42,43,44,45,48,49,50,51,52,53,54,55,56,57,58] [] [] [_,0≤x6558,x6558≤(i64.wrap (x6558+(1:Int))),(i64.wrap (x6558+(1:Int)))≤((a0.map Z6).length:Int),∀ c∈a0.map Z6,c.length=9,((a0.drop (Int.toNat (x6558))).take ((Int.toNat ((i64.wrap (x6558+(1:Int)))))-(Int.toNat (x6558)))).map Z6=((a0.map Z6).drop (Int.toNat (x6558))).take ((Int.toNat ((i64.wrap (x6558+(1:Int)))))-(Int.toNat (x6558))),_,_,_,_,0≤(i64.wrap (x6558-(1:Int))),(i64.wrap (x6558-(1:Int)))≤(i64.wrap (x6558+(1:Int))),(i64.wrap (x6558+(1:Int)))≤((a0.map Z6).length:Int),∀ c∈a0.map Z6,c.length=9,((a0.drop (Int.toNat ((i64.wrap (x6558-(1:Int)))))).take ((Int.toNat ((i64.wrap (x6558+(1:Int)))))-(Int.toNat ((i64.wrap (x6558-(1:Int))))))).map Z6=((a0.map Z6).drop (Int.toNat ((i64.wrap (x6558-(1:Int)))))).take ((Int.toNat ((i64.wrap (x6558+(1:Int)))))-(Int.toNat ((i64.wrap (x6558-(1:Int)))))),_,_] ⟨c6569,by exact c6570.1,by simpa using c6570.2.1,by simpa using c6570.2.2,by exact Z12 _ _ _ (fun _=>rfl),by simp[cut1],Tryz.call18,Zv.ok ((a0.drop (Int.toNat (x6558))).take ((Int.toNat ((i64.wrap (x6558+(1:Int)))))-(Int.toNat (x6558)))) t6571 e6572,c6573,c6574,by exact c6575.1,by simpa using c6575.2.1,by simpa using c6575.2.2,by exact Z12 _ _ _ (fun _=>rfl),by simp[cut1],Tryz.call18,Zv.ok ((a0.drop (Int.toNat ((i64.wrap (x6558-(1:Int)))))).take ((Int.toNat ((i64.wrap (x6558+(1:Int)))))-(Int.toNat ((i64.wrap (x6558-(1:Int))))))) t6576 e6577,trivial⟩ ?_
         obtain rfl:=sj H
         exact lf [] [] [] (by kernel_rfl) ⟨rfl,rfl⟩
       ·replace H:=iF c6573 H
        refine rG hP hn hm [(1,.b true),(6,.rows (((a0.drop (Int.toNat (x6558))).take ((Int.toNat ((i64.wrap (x6558+(1:Int)))))-(Int.toNat (x6558)))).map Z6)),(7,.call [] [] [] [] 0 (bV t6571) []),(9,.b false)] [(8,bV false),(40,.im (.row (a0.map Z6))),(41,iV .i64 x6558),(42,iV .i64 x6558),(43,iV .i64 (i64.wrap (x6558+(1:Int)))),(44,.im (.row (((a0.drop (Int.toNat (x6558))).take ((Int.toNat ((i64.wrap (x6558+(1:Int)))))-(Int.toNat (x6558)))).map Z6))),(45,bV t6571)] [0,1,8,34,35,40,41,42,43,44,45] [] [] [_,0≤x6558,x6558≤(i64.wrap (x6558+(1:Int))),(i64.wrap (x6558+(1:Int)))≤((a0.map Z6).length:Int),∀ c∈a0.map Z6,c.length=9,((a0.drop (Int.toNat (x6558))).take ((Int.toNat ((i64.wrap (x6558+(1:Int)))))-(Int.toNat (x6558)))).map Z6=((a0.map Z6).drop (Int.toNat (x6558))).take ((Int.toNat ((i64.wrap (x6558+(1:Int)))))-(Int.toNat (x6558))),_,_,_] ⟨c6569,by exact c6570.1,by simpa using c6570.2.1,by simpa using c6570.2.2,by exact Z12 _ _ _ (fun _=>rfl),by simp[cut1],Tryz.call18,Zv.ok ((a0.drop (Int.toNat (x6558))).take ((Int.toNat ((i64.wrap (x6558+(1:Int)))))-(Int.toNat (x6558)))) t6571 e6572,c6573,trivial⟩ ?_
        obtain rfl:=sj H
        exact lf [] [] [] (by kernel_rfl) ⟨rfl,rfl⟩
      ·replace H:=iF c6569 H
       refine rG hP hn hm [(1,.b false)] [(8,bV false)] [0,1,8,34,35] [] [] [_] ⟨c6569,trivial⟩ ?_
       obtain rfl:=sj H
       exact lf [] [] [] (by kernel_rfl) ⟨rfl,rfl⟩
     ·obtain⟨x6578,rfl⟩:∃ z,z=o6901:=⟨_,rfl⟩
      rintro e s ⟨rfl,rfl⟩
      refine rO hP hn hm [] [(35,iV .i64 (i64.wrap (x6558+(1:Int))))] [0,1,8,34,35] [] [] ?_
      exact LWp.conv [] [] [] (by kernel_rfl) (ih _ _ _ H)
    ·replace H:=iF c6559 H
     refine AWp.exit ?_
     obtain rfl:=sj H
     exact lf [] [] [] (by kernel_rfl) ⟨rfl,rfl⟩
   ·obtain⟨x6579,rfl⟩:∃ z,z=o6899:=⟨_,rfl⟩
    rintro e s ⟨rfl,rfl⟩
    obtain⟨c6582,H⟩:=Z10 H
    obtain⟨c6583,H⟩:=Z10 H
    refine sR hP hn hm [(4,.any (iV .i64 (a0.length:Int))),(7,.rows (((a0.drop (Int.toNat ((0:Int)))).take ((Int.toNat ((Int.tmod (i64.wrap (a1)) (i64.wrap ((a0.length:Int)+(1:Int))))))-(Int.toNat ((0:Int))))).map Z6))] [(10,.im (.row (((a0.drop (Int.toNat ((0:Int)))).take ((Int.toNat ((Int.tmod (i64.wrap (a1)) (i64.wrap ((a0.length:Int)+(1:Int))))))-(Int.toNat ((0:Int))))).map Z6)))] [0,8,10] [] [] [((a0.map Z6).length:Int)=(a0.length:Int),_,0≤(0:Int),(0:Int)≤(Int.tmod (i64.wrap (a1)) (i64.wrap ((a0.length:Int)+(1:Int)))),(Int.tmod (i64.wrap (a1)) (i64.wrap ((a0.length:Int)+(1:Int))))≤((a0.map Z6).length:Int),∀ c∈a0.map Z6,c.length=9,((a0.drop (Int.toNat ((0:Int)))).take ((Int.toNat ((Int.tmod (i64.wrap (a1)) (i64.wrap ((a0.length:Int)+(1:Int))))))-(Int.toNat ((0:Int))))).map Z6=((a0.map Z6).drop (Int.toNat ((0:Int)))).take ((Int.toNat ((Int.tmod (i64.wrap (a1)) (i64.wrap ((a0.length:Int)+(1:Int))))))-(Int.toNat ((0:Int))))] ⟨by rw[Zr],c6582,by exact c6583.1,by simpa using c6583.2.1,by simpa using c6583.2.2,by exact Z12 _ _ _ (fun _=>rfl),by simp[cut1],trivial⟩ ?_
    refine AWp.seq ?_
    obtain⟨o6903,e6904,H⟩:=Z4 H
    refine AWp.mono (Q:=fun e s=>(match (generalizing:=false) o6903 with | x6896=>e = .normal∧s=⟨[(4,bV x6896)],[],0⟩)) (AWp.cv ?_) ?_
    ·replace H:=e6904;clear e6904
     obtain⟨t6876,e6877,H⟩:=Z4 H
     rcases Bool.eq_false_or_eq_true t6876 with c6878 | c6878
     ·replace H:=iT c6878 H
      obtain⟨t6879,e6880,H⟩:=Z4 H
      rcases Bool.eq_false_or_eq_true (t6879==x6579) with c6881 | c6881
      ·replace H:=iT c6881 H
       rcases Bool.eq_false_or_eq_true (!x6579) with c6882 | c6882
       ·replace H:=iT c6882 H
        obtain⟨t6883,e6884,H⟩:=Z4 H
        rcases Bool.eq_false_or_eq_true t6883 with c6885 | c6885
        ·replace H:=iT c6885 H
         obtain⟨t6886,e6887,H⟩:=Z4 H
         refine rG hP hn hm [(0,.call [] [] [] [] 0 (bV t6876) []),(1,.b true),(3,.call [] [] [] [] 0 (bV t6879) []),(7,.b true),(10,.b true),(16,.call [] [] [] [] 0 (bV t6883) []),(18,.b true),(20,.call [] [] [] [] 0 (bV t6886) [])] [(4,bV (t6886==x6579))] [4] [] [] [_,_,_,_,_,_,_,_,_,_,_,_] ⟨Tryz.call9,Z2f.ok  t6876 e6877,c6878,Tryz.call18,Zv.ok a0 t6879 e6880,c6881,c6882,Tryz.call18,Zv.ok ([]:List Zt) t6883 e6884,c6885,Tryz.call19,Z1d.ok a0 t6886 e6887,trivial⟩ ?_
         obtain rfl:=sj H
         exact lf [] [] [] (by kernel_rfl) ⟨rfl,rfl⟩
        ·replace H:=iF c6885 H
         refine rG hP hn hm [(0,.call [] [] [] [] 0 (bV t6876) []),(1,.b true),(3,.call [] [] [] [] 0 (bV t6879) []),(7,.b true),(10,.b true),(16,.call [] [] [] [] 0 (bV t6883) []),(18,.b false)] [(4,bV false)] [4] [] [] [_,_,_,_,_,_,_,_,_,_] ⟨Tryz.call9,Z2f.ok  t6876 e6877,c6878,Tryz.call18,Zv.ok a0 t6879 e6880,c6881,c6882,Tryz.call18,Zv.ok ([]:List Zt) t6883 e6884,c6885,trivial⟩ ?_
         obtain rfl:=sj H
         exact lf [] [] [] (by kernel_rfl) ⟨rfl,rfl⟩
       ·replace H:=iF c6882 H
        obtain⟨t6888,e6889,H⟩:=Z4 H
        rcases Bool.eq_false_or_eq_true t6888 with c6890 | c6890
        ·replace H:=iT c6890 H
         obtain⟨t6891,e6892,H⟩:=Z4 H
         rcases Bool.eq_false_or_eq_true t6891 with c6893 | c6893
         ·replace H:=iT c6893 H
          obtain⟨t6894,e6895,H⟩:=Z4 H
          refine rG hP hn hm [(0,.call [] [] [] [] 0 (bV t6876) []),(1,.b true),(3,.call [] [] [] [] 0 (bV t6879) []),(7,.b true),(10,.b false),(12,.call [] [] [] [] 0 (bV t6888) []),(15,.b true),(16,.call [] [] [] [] 0 (bV t6891) []),(18,.b true),(20,.call [] [] [] [] 0 (bV t6894) [])] [(4,bV (t6894==x6579))] [4] [] [] [_,_,_,_,_,_,_,_,_,_,_,_,_,_,_] ⟨Tryz.call9,Z2f.ok  t6876 e6877,c6878,Tryz.call18,Zv.ok a0 t6879 e6880,c6881,c6882,Tryz.call18,Zv.ok ((a0.drop (Int.toNat ((0:Int)))).take ((Int.toNat ((Int.tmod (i64.wrap (a1)) (i64.wrap ((a0.length:Int)+(1:Int))))))-(Int.toNat ((0:Int))))) t6888 e6889,c6890,Tryz.call18,Zv.ok ([]:List Zt) t6891 e6892,c6893,Tryz.call19,Z1d.ok a0 t6894 e6895,trivial⟩ ?_
          obtain rfl:=sj H
          exact lf [] [] [] (by kernel_rfl) ⟨rfl,rfl⟩
         ·replace H:=iF c6893 H
          refine rG hP hn hm [(0,.call [] [] [] [] 0 (bV t6876) []),(1,.b true),(3,.call [] [] [] [] 0 (bV t6879) []),(7,.b true),(10,.b false),(12,.call [] [] [] [] 0 (bV t6888) []),(15,.b true),(16,.call [] [] [] [] 0 (bV t6891) []),(18,.b false)] [(4,bV false)] [4] [] [] [_,_,_,_,_,_,_,_,_,_,_,_,_] ⟨Tryz.call9,Z2f.ok  t6876 e6877,c6878,Tryz.call18,Zv.ok a0 t6879 e6880,c6881,c6882,Tryz.call18,Zv.ok ((a0.drop (Int.toNat ((0:Int)))).take ((Int.toNat ((Int.tmod (i64.wrap (a1)) (i64.wrap ((a0.length:Int)+(1:Int))))))-(Int.toNat ((0:Int))))) t6888 e6889,c6890,Tryz.call18,Zv.ok ([]:List Zt) t6891 e6892,c6893,trivial⟩ ?_
          obtain rfl:=sj H
          exact lf [] [] [] (by kernel_rfl) ⟨rfl,rfl⟩
        ·replace H:=iF c6890 H
         refine rG hP hn hm [(0,.call [] [] [] [] 0 (bV t6876) []),(1,.b true),(3,.call [] [] [] [] 0 (bV t6879) []),(7,.b true),(10,.b false),(12,.call [] [] [] [] 0 (bV t6888) []),(15,.b false)] [(4,bV false)] [4] [] [] [_,_,_,_,_,_,_,_,_,_] ⟨Tryz.call9,Z2f.ok  t6876 e6877,c6878,Tryz.call18,Zv.ok a0 t6879 e6880,c6881,c6882,Tryz.call18,Zv.ok ((a0.drop (Int.toNat ((0:Int)))).take ((Int.toNat ((Int.tmod (i64.wrap (a1)) (i64.wrap ((a0.length:Int)+(1:Int))))))-(Int.toNat ((0:Int))))) t6888 e6889,c6890,trivial⟩ ?_
         obtain rfl:=sj H
         exact lf [] [] [] (by kernel_rfl) ⟨rfl,rfl⟩
      ·replace H:=iF c6881 H
       refine rG hP hn hm [(0,.call [] [] [] [] 0 (bV t6876) []),(1,.b true),(3,.call [] [] [] [] 0 (bV t6879) []),(7,.b false)] [(4,bV false)] [4] [] [] [_,_,_,_,_,_] ⟨Tryz.call9,Z2f.ok  t6876 e6877,c6878,Tryz.call18,Zv.ok a0 t6879 e6880,c6881,trivial⟩ ?_
       obtain rfl:=sj H
       exact lf [] [] [] (by kernel_rfl) ⟨rfl,rfl⟩
     ·replace H:=iF c6878 H
      refine rG hP hn hm [(0,.call [] [] [] [] 0 (bV t6876) []),(1,.b false)] [(4,bV false)] [4] [] [] [_,_,_] ⟨Tryz.call9,Z2f.ok  t6876 e6877,c6878,trivial⟩ ?_
      obtain rfl:=sj H
      exact lf [] [] [] (by kernel_rfl) ⟨rfl,rfl⟩
    ·obtain⟨x6896,rfl⟩:∃ z,z=o6903:=⟨_,rfl⟩
     rintro e s ⟨rfl,rfl⟩
     refine AWp.conv (inv:=[]) (vk:=[]) (e0:=[]) (t:=⟨[(4,bV x6896)],[],0⟩) (by kernel_rfl) ?_
     refine AWp.ret ?_
     obtain rfl:=sj H
     exact rl (.inl rfl) rfl (by kernel_rfl) (by kernel_rfl)
end Go.Proofs.YtinhldbfifpakaaGreat.PvGL
