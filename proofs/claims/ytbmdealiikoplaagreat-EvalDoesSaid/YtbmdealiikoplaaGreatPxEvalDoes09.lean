import Derived.Test.YtbmdealiikoplaaGreatProg
import Derived.Test.YtbmdealiikoplaaGreatPxEvalDoes08
set_option linter.unusedVariables false
set_option linter.unnecessarySimpa false
set_option linter.unusedSimpArgs false
set_option maxRecDepth 10000
namespace Go.Proofs.YtbmdealiikoplaaGreat.PvGJ
open Go Go.Pv Go.IntKind
def f_r07_within.l0 (a0:Int) (a1:List TBucket) (a2:Int) (x3010:Int):Option (Int ⊕ Unit):=if(decide (x3010<(a1.length:Int)))=true then((((at? a1 x3010)>>=fun b3020=>(f_r04_Units.f a0 (i64.wrap (b3020.f0-(1:Int))))>>=fun t3023=>if(decide (t3023<a2))=true then((f_r04_Units.f a0 b3020.f0)>>=fun t3026=>some (decide (t3026>a2))) else(some false)):Option (Bool))>>=fun x3028=>if x3028=true then((at? a1 x3010)>>=fun b3035=>(f_r04_Units.f a0 b3035.f0)>>=fun t3038=>some (.inl t3038)) else(f_r07_within.l0 a0 a1 a2 (i64.wrap (x3010+(1:Int))))) else(some (.inr ()))
partial_fixpoint
def f_r07_within.f (a0:Int) (a1:List TBucket) (a2:Int):Option (Int):=(f_r07_within.l0 a0 a1 a2 0)>>=fun oo=>match oo with | .inl rr=>(some rr) | .inr _=>(some a2)
theorem f_r07_within.ok (a0:Int) (a1:List TBucket) (a2:Int) (r:Int) (H:f_r07_within.f a0 a1 a2=some r):Pv.Fn Tryz.prog 102 [iV .i64 a0,.im (.row (a1.map eBucket)),iV .i64 a2] [] 0 (fun x o=>x=iV .i64 r∧o=[]):=by
 unfold f_r07_within.f at H
 refine Fn.bodyK [] Tryz.func102 rfl rfl (fun Γ hP hn => ?_)
 have hm:Tryz.prog.follows .mixedOrders=true:=by kernel_rfl
 replace hn:Γ.n=43:=hn
 refine sr hP hn hm [] [] [0,1,2] [] [] [] (by kernel_rfl) trivial ?_
 refine AWp.seq ?_
 refine sr hP hn hm [] [(7,iV .i64 0)] [0,1,2,7] [] [] [] (by kernel_rfl) trivial ?_
 refine AWp.block ?_
 obtain⟨o3040,e3041,H⟩:=bind_of H
 refine AWp.loop (LWp.conv (inv:=[]) (vk:=[]) (e0:=[]) (t:=⟨[(0,iV .i64 a0),(1,.im (.row (a1.map eBucket))),(2,iV .i64 a2),(7,iV .i64 0)],[],0⟩) (by kernel_rfl) ?_)
 refine LWp.mono (Q:=fun e s=>(match (generalizing:=false) o3040 with | .inl rr=>e = .ret∧s.floor=0∧resOf Tryz.prog Tryz.f102 s=some (iV .i64 rr)∧([]:List (Nat×Option MObj))=[] | .inr _=>e = .exit 0∧s=⟨[(2,iV .i64 a2)],[],0⟩)) (LWp.cv (withBody (fun body hbody => ?_))) ?_
 ·refine f_r07_within.l0.partial_correctness a0 a1 a2 (motive:=fun x3010 o3040=>LWp Γ body (fun e s=>∃ t,Cv Γ s t∧(match (generalizing:=false) o3040 with | .inl rr=>e = .ret∧t.floor=0∧resOf Tryz.prog Tryz.f102 t=some (iV .i64 rr)∧([]:List (Nat×Option MObj))=[] | .inr _=>e = .exit 0∧t=⟨[(2,iV .i64 a2)],[],0⟩)) ⟨[(0,iV .i64 a0),(1,.im (.row (a1.map eBucket))),(2,iV .i64 a2),(7,iV .i64 x3010)],[],0⟩) ?_ _ _ e3041
  clear H e3041 o3040;intro self ih x3010 o3040 H
  subst hbody
  refine LWp.round ?_
  refine AWp.seq ?_
  refine sr hP hn hm [(2,.any (iV .i64 (a1.length:Int)))] [(11,bV (decide (x3010<(a1.length:Int))))] [0,1,2,7,11] [] [] [((a1.map eBucket).length:Int)=(a1.length:Int)] (by kernel_rfl) ⟨by rw[len_map],trivial⟩ ?_
  refine AWp.cond (decide (x3010<(a1.length:Int))) (by kernel_rfl) (fun c3011 => ?_) (fun c3011 => ?_)
  ·replace H:=iT c3011 H
   refine AWp.skip ?_
   refine AWp.seq ?_
   refine AWp.block ?_
   refine AWp.seq ?_
   obtain⟨o3042,e3043,H⟩:=bind_of H
   refine AWp.mono (Q:=fun e s=>(match (generalizing:=false) o3042 with | x3028=>e = .normal∧s=⟨[(0,iV .i64 a0),(1,.im (.row (a1.map eBucket))),(2,iV .i64 a2),(7,iV .i64 x3010),(34,bV x3028)],[],0⟩)) (AWp.cv ?_) ?_
   ·replace H:=e3043;clear e3043
    obtain⟨b3020,p3021,q3022,H⟩:=at_of H
    obtain⟨t3023,e3024,H⟩:=bind_of H
    rcases Bool.eq_false_or_eq_true (decide (t3023<a2)) with c3025 | c3025
    ·replace H:=iT c3025 H
     obtain⟨t3026,e3027,H⟩:=bind_of H
     refine rg hP hn hm [(3,.c (eBucket b3020)),(7,.call [] [] [] [] 0 (iV .i64 t3023) []),(10,.b true),(14,.c (eBucket b3020)),(17,.call [] [] [] [] 0 (iV .i64 t3026) [])] [(25,iV .i64 a0),(26,.im (.row (a1.map eBucket))),(27,iV .i64 x3010),(28,.ip [iI .i64 b3020.f0,iI .u64 b3020.f1]),(29,.ip [iI .i64 b3020.f0,iI .u64 b3020.f1]),(30,iV .i64 b3020.f0),(31,iV .i64 t3026),(32,iV .i64 a2),(33,bV (decide (t3026>a2))),(34,bV (decide (t3026>a2)))] [0,1,2,7,25,26,27,28,29,30,31,32,33,34] [] [] [_,_,_,_,_,_,_,_,_] (by kernel_rfl) ⟨p3021,el_map eBucket q3022,Tryz.call55,f_r04_Units.ok a0 (i64.wrap (b3020.f0-(1:Int))) t3023 e3024,c3025,p3021,el_map eBucket q3022,Tryz.call55,f_r04_Units.ok a0 b3020.f0 t3026 e3027,trivial⟩ ?_
     obtain rfl:=Option.some.inj H
     exact lf [] [] [] (by kernel_rfl) ⟨rfl,rfl⟩
    ·replace H:=iF c3025 H
     refine rg hP hn hm [(3,.c (eBucket b3020)),(7,.call [] [] [] [] 0 (iV .i64 t3023) []),(10,.b false)] [(34,bV false)] [0,1,2,7,34] [] [] [_,_,_,_,_] (by kernel_rfl) ⟨p3021,el_map eBucket q3022,Tryz.call55,f_r04_Units.ok a0 (i64.wrap (b3020.f0-(1:Int))) t3023 e3024,c3025,trivial⟩ ?_
     obtain rfl:=Option.some.inj H
     exact lf [] [] [] (by kernel_rfl) ⟨rfl,rfl⟩
   ·obtain⟨x3028,rfl⟩:∃ z,z=o3042:=⟨_,rfl⟩
    rintro e s ⟨rfl,rfl⟩
    refine AWp.cond x3028 (by kernel_rfl) (fun c3029 => ?_) (fun c3029 => ?_)
    ·replace H:=iT c3029 H
     obtain⟨b3035,p3036,q3037,H⟩:=at_of H
     obtain⟨t3038,e3039,H⟩:=bind_of H
     refine sr hP hn hm [(3,.c (eBucket b3035)),(6,.call [] [] [] [] 0 (iV .i64 t3038) [])] [(6,iV .i64 t3038)] [6] [] [] [_,_,_,_] (by kernel_rfl) ⟨p3036,el_map eBucket q3037,Tryz.call55,f_r04_Units.ok a0 b3035.f0 t3038 e3039,trivial⟩ ?_
     refine AWp.conv (inv:=[]) (vk:=[]) (e0:=[]) (t:=⟨[(6,iV .i64 t3038)],[],0⟩) (by kernel_rfl) ?_
     refine AWp.ret ?_
     obtain rfl:=Option.some.inj H
     exact rl rfl rfl (by kernel_rfl) (by kernel_rfl)
    ·replace H:=iF c3029 H
     refine AWp.skip ?_
     refine rg hP hn hm [] [(7,iV .i64 (i64.wrap (x3010+(1:Int))))] [0,1,2,7] [] [] [] (by kernel_rfl) trivial ?_
     exact LWp.conv [] [] [] (by kernel_rfl) (ih _ _ H)
  ·replace H:=iF c3011 H
   refine AWp.exit ?_
   obtain rfl:=Option.some.inj H
   exact lf [] [] [] (by kernel_rfl) ⟨rfl,rfl⟩
 ·rcases o3040 with rr | _
  ·skip
   rintro e s ⟨rfl,hfl,hres⟩
   obtain rfl:=Option.some.inj H
   exact Exists.intro _ (And.intro (fun _ _ h=>h) (And.intro (.inl rfl) (And.intro hfl hres)))
  ·skip
   rintro e s ⟨rfl,rfl⟩
   refine sr hP hn hm [] [(6,iV .i64 a2)] [6] [] [] [] (by kernel_rfl) trivial ?_
   refine AWp.conv (inv:=[]) (vk:=[]) (e0:=[]) (t:=⟨[(6,iV .i64 a2)],[],0⟩) (by kernel_rfl) ?_
   refine AWp.ret ?_
   obtain rfl:=Option.some.inj H
   exact rl (.inl rfl) rfl (by kernel_rfl) (by kernel_rfl)
def f_r07_swallow.l0 (a0:THist) (x3053:Int) (x3070:Int) (x3071:List TBucket) (x3072:Int):Option (Int×(List TBucket)):=if(decide (x3072<(a0.f6.length:Int)))=true then((at? a0.f6 x3072)>>=fun b3079=>(f_r04_Units.f a0.f1 b3079.f0)>>=fun t3082=>((if(decide (t3082≤x3053))=true then(some (u64.wrap (x3070+b3079.f1),x3071)) else((chk ((x3071.length+[b3079].length)*16≤140737488355328))>>=fun _=>some (x3070,x3071++[b3079]))):Option (Int×(List TBucket)))>>=fun oo=>match oo with | (x3087,x3088)=>(f_r07_swallow.l0 a0 x3053 x3087 x3088 (i64.wrap (x3072+(1:Int))))) else(some (x3070,x3071))
partial_fixpoint
def f_r07_swallow.l1 (a0:THist) (x3053:Int) (x3090:List TBucket) (x3107:Int) (x3108:List TBucket) (x3109:Int):Option (Int×(List TBucket)):=if(decide (x3109<(a0.f7.length:Int)))=true then((at? a0.f7 x3109)>>=fun b3116=>(f_r04_Units.f a0.f1 b3116.f0)>>=fun t3119=>((if(decide (t3119≤x3053))=true then(some (u64.wrap (x3107+b3116.f1),x3108)) else((chk ((x3108.length+[b3116].length)*16≤140737488355328))>>=fun _=>some (x3107,x3108++[b3116]))):Option (Int×(List TBucket)))>>=fun oo=>match oo with | (x3124,x3125)=>(f_r07_swallow.l1 a0 x3053 x3090 x3124 x3125 (i64.wrap (x3109+(1:Int))))) else(some (x3107,x3108))
partial_fixpoint
def f_r07_swallow.f (a0:THist) (a1:Int):Option (THist):=(f_r07_within.f a0.f1 a0.f6 a1)>>=fun t3048=>(f_r07_within.f a0.f1 a0.f7 a1)>>=fun t3050=>((if(decide (t3050>t3048))=true then(some t3050) else(some t3048)):Option (Int))>>=fun x3053=>(f_r07_swallow.l0 a0 x3053 a0.f3 [] 0)>>=fun oo=>match oo with | (x3089,x3090)=>((f_r07_swallow.l1 a0 x3053 x3090 x3089 [] 0)>>=fun oo=>match oo with | (x3126,x3127)=>(some (⟨a0.f0,a0.f1,x3053,x3126,a0.f4,a0.f5,x3090,x3127⟩:THist)))
theorem f_r07_swallow.ok (a0:THist) (a1:Int) (r:THist) (H:f_r07_swallow.f a0 a1=some r):Pv.Fn Tryz.prog 93 [.agg (aHist a0),iV .i64 a1] [] 0 (fun x o=>x = .agg [iV .i64 ((r).f0),iV .i64 ((r).f1),iV .i64 ((r).f2),iV .u64 ((r).f3),iV .u64 ((r).f4),iV .i64 ((r).f5),.own 0,.own 1]∧o=[(0,some (.row 2 89 (((r).f6).map eBucket))),(1,some (.row 2 89 (((r).f7).map eBucket)))]):=by
 unfold f_r07_swallow.f at H
 refine Fn.bodyK [0,1] Tryz.func93 rfl rfl (fun Γ hP hn => ?_)
 have hm:Tryz.prog.follows .mixedOrders=true:=by kernel_rfl
 replace hn:Γ.n=108:=hn
 refine sr hP hn hm [(0,.k 0),(1,.k 1)] [(2,.ptr 0 0 0),(4,.ptr 1 0 0)] [1,2,4] [(0,some (.box 32 (aHist a0))),(1,some (.box 32 [iV .i64 0,iV .i64 0,iV .i64 0,iV .u64 0,iV .u64 0,iV .i64 0,.none0,.none0]))] [0,1] [] (by kernel_rfl) trivial ?_
 obtain⟨t3048,e3049,H⟩:=bind_of H
 obtain⟨t3050,e3051,H⟩:=bind_of H
 refine sr hP hn hm [(5,.call [] [] [] [] 0 (iV .i64 t3048) []),(11,.call [] [] [] [] 0 (iV .i64 t3050) [])] [(5,iV .i64 t3048),(6,iV .i64 t3050)] [2,4,5,6] [] [0,1] [_,_,_,_] (by kernel_rfl) ⟨Tryz.call102,f_r07_within.ok a0.f1 a0.f6 a1 t3048 e3049,Tryz.call102,f_r07_within.ok a0.f1 a0.f7 a1 t3050 e3051,trivial⟩ ?_
 refine AWp.seq ?_
 refine sr hP hn hm [] [(24,bV (decide (t3050>t3048)))] [2,4,5,6,24] [] [0,1] [] (by kernel_rfl) trivial ?_
 obtain⟨o3128,e3129,H⟩:=bind_of H
 refine AWp.mono (Q:=fun e s=>(match (generalizing:=false) o3128 with | x3053=>e = .normal∧s=⟨[(2,.ptr 2 0 0),(4,.ptr 3 0 0),(5,iV .i64 x3053)],[(2,some (.box 32 (aHist a0))),(3,some (.box 32 [iV .i64 0,iV .i64 0,iV .i64 0,iV .u64 0,iV .u64 0,iV .i64 0,.none0,.none0]))],0⟩)) (AWp.cv ?_) ?_
 ·replace H:=e3129;clear e3129
  refine AWp.cond (decide (t3050>t3048)) (by kernel_rfl) (fun c3052 => ?_) (fun c3052 => ?_)
  ·replace H:=iT c3052 H
   refine rg hP hn hm [] [(5,iV .i64 t3050)] [2,4,5] [] [0,1] [] (by kernel_rfl) trivial ?_
   obtain rfl:=Option.some.inj H
   exact lf [(0,2),(1,3)] [] [] (by kernel_rfl) ⟨rfl,rfl⟩
  ·replace H:=iF c3052 H
   refine AWp.skip ?_
   obtain rfl:=Option.some.inj H
   exact lf [(0,2),(1,3)] [] [] (by kernel_rfl) ⟨rfl,rfl⟩
 ·obtain⟨x3053,rfl⟩:∃ z,z=o3128:=⟨_,rfl⟩
  rintro e s ⟨rfl,rfl⟩
  refine sr hP hn hm [(1,.k 4)] [(7,.ptr 4 0 0)] [2,4,5,7] [(4,some (.box 32 (aHist a0)))] [2,3,4] [] (by kernel_rfl) trivial ?_
  refine sr hP hn hm [] [] [2,4,5,7] [(4,some (.box 32 (aHist ⟨a0.f0,a0.f1,x3053,a0.f3,a0.f4,a0.f5,a0.f6,a0.f7⟩)))] [2,3,4] [] (by kernel_rfl) trivial ?_
  refine sr hP hn hm [] [] [2,4,5,7] [(4,some (.box 32 [iV .i64 a0.f0,iV .i64 a0.f1,iV .i64 x3053,iV .u64 a0.f3,iV .u64 a0.f4,iV .i64 a0.f5,.none0,.im (.row (a0.f7.map eBucket))]))] [2,3,4] [] (by kernel_rfl) trivial ?_
  refine sr hP hn hm [] [] [2,4,5,7] [(4,some (.box 32 [iV .i64 a0.f0,iV .i64 a0.f1,iV .i64 x3053,iV .u64 a0.f3,iV .u64 a0.f4,iV .i64 a0.f5,.none0,.none0]))] [2,3,4] [] (by kernel_rfl) trivial ?_
  refine AWp.seq ?_
  refine sr hP hn hm [] [(8,iV .i64 0)] [2,4,5,7,8] [] [2,3,4] [] (by kernel_rfl) trivial ?_
  refine AWp.block ?_
  obtain⟨o3130,e3131,H⟩:=bind_of H
  refine AWp.loop (LWp.conv (inv:=[(2,11),(3,12),(4,13)]) (vk:=[]) (e0:=[14]) (t:=⟨[(2,.ptr 11 0 0),(4,.ptr 12 0 0),(5,iV .i64 x3053),(7,.ptr 13 0 0),(8,iV .i64 0)],[(11,some (.box 32 (aHist a0))),(12,some (.box 32 [iV .i64 0,iV .i64 0,iV .i64 0,iV .u64 0,iV .u64 0,iV .i64 0,.none0,.none0])),(13,some (.box 32 [iV .i64 a0.f0,iV .i64 a0.f1,iV .i64 x3053,iV .u64 a0.f3,iV .u64 a0.f4,iV .i64 a0.f5,.own 14,.none0])),(14,some (.row 2 89 ([].map eBucket)))],0⟩) (by kernel_rfl) ?_)
  refine LWp.mono (Q:=fun e s=>(match (generalizing:=false) o3130 with | (x3089,x3090)=>e = .exit 0∧s=⟨[(2,.ptr 21 0 0),(4,.ptr 22 0 0),(5,iV .i64 x3053),(7,.ptr 23 0 0)],[(21,some (.box 32 (aHist a0))),(22,some (.box 32 [iV .i64 0,iV .i64 0,iV .i64 0,iV .u64 0,iV .u64 0,iV .i64 0,.none0,.none0])),(23,some (.box 32 [iV .i64 a0.f0,iV .i64 a0.f1,iV .i64 x3053,iV .u64 x3089,iV .u64 a0.f4,iV .i64 a0.f5,.own 24,.none0])),(24,some (.row 2 89 (x3090.map eBucket)))],0⟩)) (LWp.cv (withBody (fun body hbody => ?_))) ?_
  ·refine f_r07_swallow.l0.partial_correctness a0 x3053 (motive:=fun x3070 x3071 x3072 o3130=>LWp Γ body (fun e s=>∃ t,Cv Γ s t∧(match (generalizing:=false) o3130 with | (x3089,x3090)=>e = .exit 0∧t=⟨[(2,.ptr 21 0 0),(4,.ptr 22 0 0),(5,iV .i64 x3053),(7,.ptr 23 0 0)],[(21,some (.box 32 (aHist a0))),(22,some (.box 32 [iV .i64 0,iV .i64 0,iV .i64 0,iV .u64 0,iV .u64 0,iV .i64 0,.none0,.none0])),(23,some (.box 32 [iV .i64 a0.f0,iV .i64 a0.f1,iV .i64 x3053,iV .u64 x3089,iV .u64 a0.f4,iV .i64 a0.f5,.own 24,.none0])),(24,some (.row 2 89 (x3090.map eBucket)))],0⟩)) ⟨[(2,.ptr 11 0 0),(4,.ptr 12 0 0),(5,iV .i64 x3053),(7,.ptr 13 0 0),(8,iV .i64 x3072)],[(11,some (.box 32 (aHist a0))),(12,some (.box 32 [iV .i64 0,iV .i64 0,iV .i64 0,iV .u64 0,iV .u64 0,iV .i64 0,.none0,.none0])),(13,some (.box 32 [iV .i64 a0.f0,iV .i64 a0.f1,iV .i64 x3053,iV .u64 x3070,iV .u64 a0.f4,iV .i64 a0.f5,.own 14,.none0])),(14,some (.row 2 89 (x3071.map eBucket)))],0⟩) ?_ _ _ _ _ e3131
   clear H e3131 o3130;intro self ih x3070 x3071 x3072 o3130 H
   subst hbody
   refine LWp.round ?_
   refine AWp.seq ?_
   refine sr hP hn hm [(3,.any (iV .i64 (a0.f6.length:Int)))] [(35,bV (decide (x3072<(a0.f6.length:Int))))] [2,4,5,7,8,35] [] [11,12,13,14] [((a0.f6.map eBucket).length:Int)=(a0.f6.length:Int)] (by kernel_rfl) ⟨by rw[len_map],trivial⟩ ?_
   refine AWp.cond (decide (x3072<(a0.f6.length:Int))) (by kernel_rfl) (fun c3073 => ?_) (fun c3073 => ?_)
   ·replace H:=iT c3073 H
    refine AWp.skip ?_
    refine AWp.seq ?_
    refine AWp.block ?_
    obtain⟨b3079,p3080,q3081,H⟩:=at_of H
    obtain⟨t3082,e3083,H⟩:=bind_of H
    refine sr hP hn hm [(5,.c (eBucket b3079)),(8,.call [] [] [] [] 0 (iV .i64 t3082) [])] [(48,bV (decide (t3082≤x3053)))] [2,4,5,7,8,48] [] [11,12,13,14] [_,_,_,_] (by kernel_rfl) ⟨p3080,el_map eBucket q3081,Tryz.call55,f_r04_Units.ok a0.f1 b3079.f0 t3082 e3083,trivial⟩ ?_
    obtain⟨o3132,e3133,H⟩:=bind_of H
    refine AWp.mono (Q:=fun e s=>(match (generalizing:=false) o3132 with | (x3087,x3088)=>e = .normal∧s=⟨[(2,.ptr 17 0 0),(4,.ptr 18 0 0),(5,iV .i64 x3053),(7,.ptr 19 0 0),(8,iV .i64 x3072)],[(17,some (.box 32 (aHist a0))),(18,some (.box 32 [iV .i64 0,iV .i64 0,iV .i64 0,iV .u64 0,iV .u64 0,iV .i64 0,.none0,.none0])),(19,some (.box 32 [iV .i64 a0.f0,iV .i64 a0.f1,iV .i64 x3053,iV .u64 x3087,iV .u64 a0.f4,iV .i64 a0.f5,.own 20,.none0])),(20,some (.row 2 89 (x3088.map eBucket)))],0⟩)) (AWp.cv ?_) ?_
    ·replace H:=e3133;clear e3133
     refine AWp.cond (decide (t3082≤x3053)) (by kernel_rfl) (fun c3084 => ?_) (fun c3084 => ?_)
     ·replace H:=iT c3084 H
      refine rg hP hn hm [(5,.c (eBucket b3079))] [] [2,4,5,7,8] [(13,some (.box 32 [iV .i64 a0.f0,iV .i64 a0.f1,iV .i64 x3053,iV .u64 (u64.wrap (x3070+b3079.f1)),iV .u64 a0.f4,iV .i64 a0.f5,.own 14,.none0]))] [11,12,13,14] [_,_] (by kernel_rfl) ⟨p3080,el_map eBucket q3081,trivial⟩ ?_
      obtain rfl:=Option.some.inj H
      exact lf [(11,17),(12,18),(13,19),(14,20)] [] [] (by kernel_rfl) ⟨rfl,rfl⟩
     ·replace H:=iF c3084 H
      obtain⟨c3086,H⟩:=chk_of H
      refine rg hP hn hm [(5,.c (eBucket b3079)),(7,.app 15 ([b3079].map eBucket)),(8,.app 16 ((x3071++[b3079]).map eBucket))] [] [2,4,5,7,8] [(13,some (.box 32 [iV .i64 a0.f0,iV .i64 a0.f1,iV .i64 x3053,iV .u64 x3070,iV .u64 a0.f4,iV .i64 a0.f5,.own 16,.none0])),(16,some (.row 2 89 ((x3071++[b3079]).map eBucket)))] [11,12,13,16] [_,_,[b3079].map eBucket=[[iI .i64 b3079.f0,iI .u64 b3079.f1]],(x3071++[b3079]).map eBucket=(x3071.map eBucket)++([b3079].map eBucket),∀ c∈([b3079].map eBucket),c.length=2,∀ c∈([b3079].map eBucket),leaves (c.map .im)=true,((x3071.map eBucket).length+([b3079].map eBucket).length)*16≤140737488355328] (by kernel_rfl) ⟨p3080,el_map eBucket q3081,by exact rfl,by simp,by exact all_len _ _ _ (fun _=>rfl),by exact all_leaf _ _ (fun _=>rfl),by simpa using c3086,trivial⟩ ?_
      obtain rfl:=Option.some.inj H
      exact lf [(11,17),(12,18),(13,19),(16,20)] [] [] (by kernel_rfl) ⟨rfl,rfl⟩
    ·obtain⟨x3087,x3088⟩:=o3132
     rintro e s ⟨rfl,rfl⟩
     refine rg hP hn hm [] [(8,iV .i64 (i64.wrap (x3072+(1:Int))))] [2,4,5,7,8] [] [17,18,19,20] [] (by kernel_rfl) trivial ?_
     exact LWp.conv [(17,11),(18,12),(19,13),(20,14)] [] [] (by kernel_rfl) (ih _ _ _ _ H)
   ·replace H:=iF c3073 H
    refine AWp.exit ?_
    obtain rfl:=Option.some.inj H
    exact lf [(11,21),(12,22),(13,23),(14,24)] [] [] (by kernel_rfl) ⟨rfl,rfl⟩
  ·obtain⟨x3089,x3090⟩:=o3130
   rintro e s ⟨rfl,rfl⟩
   refine AWp.seq ?_
   refine sr hP hn hm [] [(9,iV .i64 0)] [2,4,5,7,9] [] [21,22,23,24] [] (by kernel_rfl) trivial ?_
   refine AWp.block ?_
   obtain⟨o3134,e3135,H⟩:=bind_of H
   refine AWp.loop (LWp.conv (inv:=[(21,32),(22,33),(23,34),(24,35)]) (vk:=[]) (e0:=[36]) (t:=⟨[(2,.ptr 32 0 0),(4,.ptr 33 0 0),(5,iV .i64 x3053),(7,.ptr 34 0 0),(9,iV .i64 0)],[(32,some (.box 32 (aHist a0))),(33,some (.box 32 [iV .i64 0,iV .i64 0,iV .i64 0,iV .u64 0,iV .u64 0,iV .i64 0,.none0,.none0])),(34,some (.box 32 [iV .i64 a0.f0,iV .i64 a0.f1,iV .i64 x3053,iV .u64 x3089,iV .u64 a0.f4,iV .i64 a0.f5,.own 35,.own 36])),(35,some (.row 2 89 (x3090.map eBucket))),(36,some (.row 2 89 ([].map eBucket)))],0⟩) (by kernel_rfl) ?_)
   refine LWp.mono (Q:=fun e s=>(match (generalizing:=false) o3134 with | (x3126,x3127)=>e = .exit 2∧s=⟨[(4,.ptr 44 0 0),(7,.ptr 45 0 0)],[(44,some (.box 32 [iV .i64 0,iV .i64 0,iV .i64 0,iV .u64 0,iV .u64 0,iV .i64 0,.none0,.none0])),(45,some (.box 32 [iV .i64 a0.f0,iV .i64 a0.f1,iV .i64 x3053,iV .u64 x3126,iV .u64 a0.f4,iV .i64 a0.f5,.own 46,.own 47])),(46,some (.row 2 89 (x3090.map eBucket))),(47,some (.row 2 89 (x3127.map eBucket)))],0⟩)) (LWp.cv (withBody (fun body hbody => ?_))) ?_
   ·refine f_r07_swallow.l1.partial_correctness a0 x3053 x3090 (motive:=fun x3107 x3108 x3109 o3134=>LWp Γ body (fun e s=>∃ t,Cv Γ s t∧(match (generalizing:=false) o3134 with | (x3126,x3127)=>e = .exit 2∧t=⟨[(4,.ptr 44 0 0),(7,.ptr 45 0 0)],[(44,some (.box 32 [iV .i64 0,iV .i64 0,iV .i64 0,iV .u64 0,iV .u64 0,iV .i64 0,.none0,.none0])),(45,some (.box 32 [iV .i64 a0.f0,iV .i64 a0.f1,iV .i64 x3053,iV .u64 x3126,iV .u64 a0.f4,iV .i64 a0.f5,.own 46,.own 47])),(46,some (.row 2 89 (x3090.map eBucket))),(47,some (.row 2 89 (x3127.map eBucket)))],0⟩)) ⟨[(2,.ptr 32 0 0),(4,.ptr 33 0 0),(5,iV .i64 x3053),(7,.ptr 34 0 0),(9,iV .i64 x3109)],[(32,some (.box 32 (aHist a0))),(33,some (.box 32 [iV .i64 0,iV .i64 0,iV .i64 0,iV .u64 0,iV .u64 0,iV .i64 0,.none0,.none0])),(34,some (.box 32 [iV .i64 a0.f0,iV .i64 a0.f1,iV .i64 x3053,iV .u64 x3107,iV .u64 a0.f4,iV .i64 a0.f5,.own 35,.own 36])),(35,some (.row 2 89 (x3090.map eBucket))),(36,some (.row 2 89 (x3108.map eBucket)))],0⟩) ?_ _ _ _ _ e3135
    clear H e3135 o3134;intro self ih x3107 x3108 x3109 o3134 H
    subst hbody
    refine LWp.round ?_
    refine AWp.seq ?_
    refine sr hP hn hm [(3,.any (iV .i64 (a0.f7.length:Int)))] [(73,bV (decide (x3109<(a0.f7.length:Int))))] [2,4,5,7,9,73] [] [32,33,34,35,36] [((a0.f7.map eBucket).length:Int)=(a0.f7.length:Int)] (by kernel_rfl) ⟨by rw[len_map],trivial⟩ ?_
    refine AWp.cond (decide (x3109<(a0.f7.length:Int))) (by kernel_rfl) (fun c3110 => ?_) (fun c3110 => ?_)
    ·replace H:=iT c3110 H
     refine AWp.skip ?_
     refine AWp.seq ?_
     refine AWp.block ?_
     obtain⟨b3116,p3117,q3118,H⟩:=at_of H
     obtain⟨t3119,e3120,H⟩:=bind_of H
     refine sr hP hn hm [(5,.c (eBucket b3116)),(8,.call [] [] [] [] 0 (iV .i64 t3119) [])] [(86,bV (decide (t3119≤x3053)))] [2,4,5,7,9,86] [] [32,33,34,35,36] [_,_,_,_] (by kernel_rfl) ⟨p3117,el_map eBucket q3118,Tryz.call55,f_r04_Units.ok a0.f1 b3116.f0 t3119 e3120,trivial⟩ ?_
     obtain⟨o3136,e3137,H⟩:=bind_of H
     refine AWp.mono (Q:=fun e s=>(match (generalizing:=false) o3136 with | (x3124,x3125)=>e = .normal∧s=⟨[(2,.ptr 39 0 0),(4,.ptr 40 0 0),(5,iV .i64 x3053),(7,.ptr 41 0 0),(9,iV .i64 x3109)],[(39,some (.box 32 (aHist a0))),(40,some (.box 32 [iV .i64 0,iV .i64 0,iV .i64 0,iV .u64 0,iV .u64 0,iV .i64 0,.none0,.none0])),(41,some (.box 32 [iV .i64 a0.f0,iV .i64 a0.f1,iV .i64 x3053,iV .u64 x3124,iV .u64 a0.f4,iV .i64 a0.f5,.own 42,.own 43])),(42,some (.row 2 89 (x3090.map eBucket))),(43,some (.row 2 89 (x3125.map eBucket)))],0⟩)) (AWp.cv ?_) ?_
     ·replace H:=e3137;clear e3137
      refine AWp.cond (decide (t3119≤x3053)) (by kernel_rfl) (fun c3121 => ?_) (fun c3121 => ?_)
      ·replace H:=iT c3121 H
       refine rg hP hn hm [(5,.c (eBucket b3116))] [] [2,4,5,7,9] [(34,some (.box 32 [iV .i64 a0.f0,iV .i64 a0.f1,iV .i64 x3053,iV .u64 (u64.wrap (x3107+b3116.f1)),iV .u64 a0.f4,iV .i64 a0.f5,.own 35,.own 36]))] [32,33,34,35,36] [_,_] (by kernel_rfl) ⟨p3117,el_map eBucket q3118,trivial⟩ ?_
       obtain rfl:=Option.some.inj H
       exact lf [(32,39),(33,40),(34,41),(35,42),(36,43)] [] [] (by kernel_rfl) ⟨rfl,rfl⟩
      ·replace H:=iF c3121 H
       obtain⟨c3123,H⟩:=chk_of H
       refine rg hP hn hm [(5,.c (eBucket b3116)),(7,.app 37 ([b3116].map eBucket)),(8,.app 38 ((x3108++[b3116]).map eBucket))] [] [2,4,5,7,9] [(34,some (.box 32 [iV .i64 a0.f0,iV .i64 a0.f1,iV .i64 x3053,iV .u64 x3107,iV .u64 a0.f4,iV .i64 a0.f5,.own 35,.own 38])),(38,some (.row 2 89 ((x3108++[b3116]).map eBucket)))] [32,33,34,35,38] [_,_,[b3116].map eBucket=[[iI .i64 b3116.f0,iI .u64 b3116.f1]],(x3108++[b3116]).map eBucket=(x3108.map eBucket)++([b3116].map eBucket),∀ c∈([b3116].map eBucket),c.length=2,∀ c∈([b3116].map eBucket),leaves (c.map .im)=true,((x3108.map eBucket).length+([b3116].map eBucket).length)*16≤140737488355328] (by kernel_rfl) ⟨p3117,el_map eBucket q3118,by exact rfl,by simp,by exact all_len _ _ _ (fun _=>rfl),by exact all_leaf _ _ (fun _=>rfl),by simpa using c3123,trivial⟩ ?_
       obtain rfl:=Option.some.inj H
       exact lf [(32,39),(33,40),(34,41),(35,42),(38,43)] [] [] (by kernel_rfl) ⟨rfl,rfl⟩
     ·obtain⟨x3124,x3125⟩:=o3136
      rintro e s ⟨rfl,rfl⟩
      refine rg hP hn hm [] [(9,iV .i64 (i64.wrap (x3109+(1:Int))))] [2,4,5,7,9] [] [39,40,41,42,43] [] (by kernel_rfl) trivial ?_
      exact LWp.conv [(39,32),(40,33),(41,34),(42,35),(43,36)] [] [] (by kernel_rfl) (ih _ _ _ _ H)
    ·replace H:=iF c3110 H
     refine AWp.exit ?_
     obtain rfl:=Option.some.inj H
     exact lf [(33,44),(34,45),(35,46),(36,47)] [] [] (by kernel_rfl) ⟨rfl,rfl⟩
   ·obtain⟨x3126,x3127⟩:=o3134
    rintro e s ⟨rfl,rfl⟩
    refine sr hP hn hm [] [] [4] [(44,some (.box 32 [iV .i64 a0.f0,iV .i64 a0.f1,iV .i64 x3053,iV .u64 x3126,iV .u64 a0.f4,iV .i64 a0.f5,.own 46,.own 47]))] [44,46,47] [] (by kernel_rfl) trivial ?_
    refine AWp.conv (inv:=[(44,2),(46,0),(47,1)]) (vk:=[]) (e0:=[]) (t:=⟨[(4,.ptr 2 0 0)],[(0,some (.row 2 89 ((((⟨a0.f0,a0.f1,x3053,x3126,a0.f4,a0.f5,x3090,x3127⟩:THist)).f6).map eBucket))),(1,some (.row 2 89 ((((⟨a0.f0,a0.f1,x3053,x3126,a0.f4,a0.f5,x3090,x3127⟩:THist)).f7).map eBucket))),(2,some (.box 32 [iV .i64 (((⟨a0.f0,a0.f1,x3053,x3126,a0.f4,a0.f5,x3090,x3127⟩:THist)).f0),iV .i64 (((⟨a0.f0,a0.f1,x3053,x3126,a0.f4,a0.f5,x3090,x3127⟩:THist)).f1),iV .i64 (((⟨a0.f0,a0.f1,x3053,x3126,a0.f4,a0.f5,x3090,x3127⟩:THist)).f2),iV .u64 (((⟨a0.f0,a0.f1,x3053,x3126,a0.f4,a0.f5,x3090,x3127⟩:THist)).f3),iV .u64 (((⟨a0.f0,a0.f1,x3053,x3126,a0.f4,a0.f5,x3090,x3127⟩:THist)).f4),iV .i64 (((⟨a0.f0,a0.f1,x3053,x3126,a0.f4,a0.f5,x3090,x3127⟩:THist)).f5),.own 0,.own 1]))],0⟩) (by kernel_rfl) ?_
    refine AWp.ret ?_
    obtain rfl:=Option.some.inj H
    exact rl (.inl rfl) rfl (by kernel_rfl) (by kernel_rfl)
def f_r07_Down.f (a0:THist) (a1:Int):Option (THist×Int):=(((f_r04_Right.f a1)>>=fun t2700=>if(!t2700)=true then(some true) else(some (decide (a1>a0.f1)))):Option (Bool))>>=fun x2703=>if x2703=true then(some ((⟨0,0,0,0,0,0,[],[]⟩:THist),20)) else((f_r07_coarse.f a0.f6 a0.f1 a1)>>=fun t2975=>(f_r07_coarse.f a0.f7 a0.f1 a1)>>=fun t2979=>(f_r07_swallow.f (⟨a0.f0,a1,a0.f2,a0.f3,a0.f4,a0.f5,t2975,t2979⟩:THist) a0.f2)>>=fun t3142=>some ((t3142),0))
theorem f_r07_Down.ok (a0:THist) (a1:Int) (r:THist×Int) (H:f_r07_Down.f a0 a1=some r):Pv.Fn Tryz.prog 79 [.agg (aHist a0),iV .i64 a1] [] 0 (fun x o=>x = .tup [.agg [iV .i64 ((r.1).f0),iV .i64 ((r.1).f1),iV .i64 ((r.1).f2),iV .u64 ((r.1).f3),iV .u64 ((r.1).f4),iV .i64 ((r.1).f5),.own 0,.own 1],iV .i64 r.2]∧o=[(0,some (.row 2 89 (((r.1).f6).map eBucket))),(1,some (.row 2 89 (((r.1).f7).map eBucket)))]):=by
 unfold f_r07_Down.f at H
 refine Fn.bodyK [0,1] Tryz.func79 rfl rfl (fun Γ hP hn => ?_)
 have hm:Tryz.prog.follows .mixedOrders=true:=by kernel_rfl
 replace hn:Γ.n=38:=hn
 refine sr hP hn hm [(0,.k 0),(1,.k 1)] [(2,.ptr 0 0 0),(4,.ptr 1 0 0)] [1,2,4] [(0,some (.box 32 (aHist a0))),(1,some (.box 32 [iV .i64 0,iV .i64 0,iV .i64 0,iV .u64 0,iV .u64 0,iV .i64 0,.none0,.none0]))] [0,1] [] (by kernel_rfl) trivial ?_
 refine AWp.seq ?_
 refine AWp.seq ?_
 obtain⟨o3144,e3145,H⟩:=bind_of H
 refine AWp.mono (Q:=fun e s=>(match (generalizing:=false) o3144 with | x2703=>e = .normal∧s=⟨[(1,iV .i64 a1),(2,.ptr 2 0 0),(4,.ptr 3 0 0),(15,bV x2703)],[(2,some (.box 32 (aHist a0))),(3,some (.box 32 [iV .i64 0,iV .i64 0,iV .i64 0,iV .u64 0,iV .u64 0,iV .i64 0,.none0,.none0]))],0⟩)) (AWp.cv ?_) ?_
 ·replace H:=e3145;clear e3145
  obtain⟨t2700,e2701,H⟩:=bind_of H
  rcases Bool.eq_false_or_eq_true (!t2700) with c2702 | c2702
  ·replace H:=iT c2702 H
   refine rg hP hn hm [(1,.call [] [] [] [] 0 (bV t2700) []),(3,.b true)] [(15,bV true)] [1,2,4,15] [] [0,1] [_,_,_] (by kernel_rfl) ⟨Tryz.call53,f_r04_Right.ok a1 t2700 e2701,c2702,trivial⟩ ?_
   obtain rfl:=Option.some.inj H
   exact lf [(0,2),(1,3)] [] [] (by kernel_rfl) ⟨rfl,rfl⟩
  ·replace H:=iF c2702 H
   refine rg hP hn hm [(1,.call [] [] [] [] 0 (bV t2700) []),(3,.b false)] [(15,bV (decide (a1>a0.f1)))] [1,2,4,15] [] [0,1] [_,_,_] (by kernel_rfl) ⟨Tryz.call53,f_r04_Right.ok a1 t2700 e2701,c2702,trivial⟩ ?_
   obtain rfl:=Option.some.inj H
   exact lf [(0,2),(1,3)] [] [] (by kernel_rfl) ⟨rfl,rfl⟩
 ·obtain⟨x2703,rfl⟩:∃ z,z=o3144:=⟨_,rfl⟩
  rintro e s ⟨rfl,rfl⟩
  refine AWp.cond x2703 (by kernel_rfl) (fun c2704 => ?_) (fun c2704 => ?_)
  ·replace H:=iT c2704 H
   refine sr hP hn hm [] [(5,iV .i64 20)] [4,5] [] [3] [] (by kernel_rfl) trivial ?_
   refine AWp.conv (inv:=[(3,2)]) (vk:=[]) (e0:=[0,1]) (t:=⟨[(4,.ptr 2 0 0),(5,iV .i64 20)],[(0,some (.row 2 89 ((((⟨0,0,0,0,0,0,[],[]⟩:THist)).f6).map eBucket))),(1,some (.row 2 89 ((((⟨0,0,0,0,0,0,[],[]⟩:THist)).f7).map eBucket))),(2,some (.box 32 [iV .i64 (((⟨0,0,0,0,0,0,[],[]⟩:THist)).f0),iV .i64 (((⟨0,0,0,0,0,0,[],[]⟩:THist)).f1),iV .i64 (((⟨0,0,0,0,0,0,[],[]⟩:THist)).f2),iV .u64 (((⟨0,0,0,0,0,0,[],[]⟩:THist)).f3),iV .u64 (((⟨0,0,0,0,0,0,[],[]⟩:THist)).f4),iV .i64 (((⟨0,0,0,0,0,0,[],[]⟩:THist)).f5),.own 0,.own 1]))],0⟩) (by kernel_rfl) ?_
   refine AWp.ret ?_
   obtain rfl:=Option.some.inj H
   exact rl (.inl rfl) rfl (by kernel_rfl) (by kernel_rfl)
  ·replace H:=iF c2704 H
   refine AWp.skip ?_
   refine sr hP hn hm [(1,.k 4)] [(6,.ptr 4 0 0)] [1,2,4,6] [(4,some (.box 32 (aHist a0)))] [2,3,4] [] (by kernel_rfl) trivial ?_
   refine sr hP hn hm [] [] [1,2,4,6] [(4,some (.box 32 (aHist ⟨a0.f0,a1,a0.f2,a0.f3,a0.f4,a0.f5,a0.f6,a0.f7⟩)))] [2,3,4] [] (by kernel_rfl) trivial ?_
   obtain⟨t2975,e2976,H⟩:=bind_of H
   refine sr hP hn hm [(5,.call [] [(0,5)] [] [5] 0 (.own 0) [(0,some (.row 2 89 (t2975.map eBucket)))])] [] [1,2,4,6] [(4,some (.box 32 [iV .i64 a0.f0,iV .i64 a1,iV .i64 a0.f2,iV .u64 a0.f3,iV .u64 a0.f4,iV .i64 a0.f5,.own 5,.im (.row (a0.f7.map eBucket))])),(5,some (.row 2 89 (t2975.map eBucket)))] [2,3,4,5] [_,_] (by kernel_rfl) ⟨Tryz.call92,f_r07_coarse.ok a0.f6 a0.f1 a1 t2975 e2976,trivial⟩ ?_
   obtain⟨t2979,e2980,H⟩:=bind_of H
   refine sr hP hn hm [(5,.call [] [(0,6)] [] [6] 0 (.own 0) [(0,some (.row 2 89 (t2979.map eBucket)))])] [] [2,4,6] [(4,some (.box 32 [iV .i64 a0.f0,iV .i64 a1,iV .i64 a0.f2,iV .u64 a0.f3,iV .u64 a0.f4,iV .i64 a0.f5,.own 5,.own 6])),(6,some (.row 2 89 (t2979.map eBucket)))] [2,3,4,5,6] [_,_] (by kernel_rfl) ⟨Tryz.call92,f_r07_coarse.ok a0.f7 a0.f1 a1 t2979 e2980,trivial⟩ ?_
   refine AWp.seq ?_
   refine AWp.conv (inv:=[(2,2),(3,3),(4,4)]) (vk:=[5,6]) (e0:=[]) (t:=⟨[(2,.ptr 2 0 0),(4,.ptr 3 0 0),(6,.ptr 4 0 0)],[(2,some (.box 32 (aHist a0))),(3,some (.box 32 [iV .i64 0,iV .i64 0,iV .i64 0,iV .u64 0,iV .u64 0,iV .i64 0,.none0,.none0])),(4,some (.box 32 (aHist ⟨a0.f0,a1,a0.f2,a0.f3,a0.f4,a0.f5,t2975,t2979⟩)))],0⟩) (by kernel_rfl) ?_
   obtain⟨t3142,e3143,H⟩:=bind_of H
   refine rg hP hn hm [(3,.call [] [(0,7),(1,8)] [] [7,8] 0 (.agg [iV .i64 ((t3142).f0),iV .i64 ((t3142).f1),iV .i64 ((t3142).f2),iV .u64 ((t3142).f3),iV .u64 ((t3142).f4),iV .i64 ((t3142).f5),.own 0,.own 1]) [(0,some (.row 2 89 (((t3142).f6).map eBucket))),(1,some (.row 2 89 (((t3142).f7).map eBucket)))])] [(5,iV .i64 0)] [4,5] [(3,some (.box 32 [iV .i64 ((t3142).f0),iV .i64 ((t3142).f1),iV .i64 ((t3142).f2),iV .u64 ((t3142).f3),iV .u64 ((t3142).f4),iV .i64 ((t3142).f5),.own 7,.own 8])),(7,some (.row 2 89 (((t3142).f6).map eBucket))),(8,some (.row 2 89 (((t3142).f7).map eBucket)))] [3,7,8] [_,_] (by kernel_rfl) ⟨Tryz.call93,f_r07_swallow.ok (⟨a0.f0,a1,a0.f2,a0.f3,a0.f4,a0.f5,t2975,t2979⟩:THist) a0.f2 t3142 e3143,trivial⟩ ?_
   refine AWp.conv (inv:=[(3,2),(7,0),(8,1)]) (vk:=[]) (e0:=[]) (t:=⟨[(4,.ptr 2 0 0),(5,iV .i64 0)],[(0,some (.row 2 89 ((((t3142)).f6).map eBucket))),(1,some (.row 2 89 ((((t3142)).f7).map eBucket))),(2,some (.box 32 [iV .i64 (((t3142)).f0),iV .i64 (((t3142)).f1),iV .i64 (((t3142)).f2),iV .u64 (((t3142)).f3),iV .u64 (((t3142)).f4),iV .i64 (((t3142)).f5),.own 0,.own 1]))],0⟩) (by kernel_rfl) ?_
   refine AWp.ret ?_
   obtain rfl:=Option.some.inj H
   exact rl (.inl rfl) rfl (by kernel_rfl) (by kernel_rfl)
def f_r07_Widen.f (a0:THist) (a1:Int):Option (THist×Int):=((if(decide (a1<a0.f2))=true then(some true) else(if(a1 != a0.f2)=true then(if(decide (a1≤(-262144)))=true then(some true) else(some (decide (a1>(262144:Int))))) else(some false))):Option (Bool))>>=fun x3186=>if x3186=true then(some ((⟨0,0,0,0,0,0,[],[]⟩:THist),31)) else(if(a1==a0.f2)=true then(some (a0,0)) else((f_r07_swallow.f a0 a1)>>=fun t3191=>some ((t3191),0)))
theorem f_r07_Widen.ok (a0:THist) (a1:Int) (r:THist×Int) (H:f_r07_Widen.f a0 a1=some r):Pv.Fn Tryz.prog 80 [.agg (aHist a0),iV .i64 a1] [] 0 (fun x o=>x = .tup [.agg (aHist (r.1)),iV .i64 r.2]∧o=[]):=by
 unfold f_r07_Widen.f at H
 refine Fn.bodyK [] Tryz.func80 rfl rfl (fun Γ hP hn => ?_)
 have hm:Tryz.prog.follows .mixedOrders=true:=by kernel_rfl
 replace hn:Γ.n=33:=hn
 refine sr hP hn hm [(0,.k 0),(1,.k 1)] [(2,.ptr 0 0 0),(4,.ptr 1 0 0)] [1,2,4] [(0,some (.box 32 (aHist a0))),(1,some (.box 32 [iV .i64 0,iV .i64 0,iV .i64 0,iV .u64 0,iV .u64 0,iV .i64 0,.none0,.none0]))] [0,1] [] (by kernel_rfl) trivial ?_
 refine AWp.seq ?_
 refine AWp.seq ?_
 obtain⟨o3193,e3194,H⟩:=bind_of H
 refine AWp.mono (Q:=fun e s=>(match (generalizing:=false) o3193 with | x3186=>e = .normal∧s=⟨[(1,iV .i64 a1),(2,.ptr 2 0 0),(4,.ptr 3 0 0),(23,bV x3186)],[(2,some (.box 32 (aHist a0))),(3,some (.box 32 [iV .i64 0,iV .i64 0,iV .i64 0,iV .u64 0,iV .u64 0,iV .i64 0,.none0,.none0]))],0⟩)) (AWp.cv ?_) ?_
 ·replace H:=e3194;clear e3194
  rcases Bool.eq_false_or_eq_true (decide (a1<a0.f2)) with c3183 | c3183
  ·replace H:=iT c3183 H
   refine rg hP hn hm [(4,.b true)] [(23,bV true)] [1,2,4,23] [] [0,1] [_] (by kernel_rfl) ⟨c3183,trivial⟩ ?_
   obtain rfl:=Option.some.inj H
   exact lf [(0,2),(1,3)] [] [] (by kernel_rfl) ⟨rfl,rfl⟩
  ·replace H:=iF c3183 H
   rcases Bool.eq_false_or_eq_true (a1 != a0.f2) with c3184 | c3184
   ·replace H:=iT c3184 H
    rcases Bool.eq_false_or_eq_true (decide (a1≤(-262144))) with c3185 | c3185
    ·replace H:=iT c3185 H
     refine rg hP hn hm [(4,.b false),(9,.b true),(12,.b true)] [(23,bV true)] [1,2,4,23] [] [0,1] [_,_,_] (by kernel_rfl) ⟨c3183,c3184,c3185,trivial⟩ ?_
     obtain rfl:=Option.some.inj H
     exact lf [(0,2),(1,3)] [] [] (by kernel_rfl) ⟨rfl,rfl⟩
    ·replace H:=iF c3185 H
     refine rg hP hn hm [(4,.b false),(9,.b true),(12,.b false)] [(23,bV (decide (a1>(262144:Int))))] [1,2,4,23] [] [0,1] [_,_,_] (by kernel_rfl) ⟨c3183,c3184,c3185,trivial⟩ ?_
     obtain rfl:=Option.some.inj H
     exact lf [(0,2),(1,3)] [] [] (by kernel_rfl) ⟨rfl,rfl⟩
   ·replace H:=iF c3184 H
    refine rg hP hn hm [(4,.b false),(9,.b false)] [(23,bV false)] [1,2,4,23] [] [0,1] [_,_] (by kernel_rfl) ⟨c3183,c3184,trivial⟩ ?_
    obtain rfl:=Option.some.inj H
    exact lf [(0,2),(1,3)] [] [] (by kernel_rfl) ⟨rfl,rfl⟩
 ·obtain⟨x3186,rfl⟩:∃ z,z=o3193:=⟨_,rfl⟩
  rintro e s ⟨rfl,rfl⟩
  refine AWp.cond x3186 (by kernel_rfl) (fun c3187 => ?_) (fun c3187 => ?_)
  ·replace H:=iT c3187 H
   refine sr hP hn hm [] [(5,iV .i64 31)] [4,5] [] [3] [] (by kernel_rfl) trivial ?_
   refine AWp.conv (inv:=[(3,0)]) (vk:=[]) (e0:=[]) (t:=⟨[(4,.ptr 0 0 0),(5,iV .i64 31)],[(0,some (.box 32 (aHist ((⟨0,0,0,0,0,0,[],[]⟩:THist)))))],0⟩) (by kernel_rfl) ?_
   refine AWp.ret ?_
   obtain rfl:=Option.some.inj H
   exact rl (.inl rfl) rfl (by kernel_rfl) (by kernel_rfl)
  ·replace H:=iF c3187 H
   refine AWp.skip ?_
   refine AWp.seq ?_
   refine sr hP hn hm [] [(28,bV (a1==a0.f2))] [1,2,4,28] [] [2,3] [] (by kernel_rfl) trivial ?_
   refine AWp.cond (a1==a0.f2) (by kernel_rfl) (fun c3188 => ?_) (fun c3188 => ?_)
   ·replace H:=iT c3188 H
    refine sr hP hn hm [] [(5,iV .i64 0)] [4,5] [(3,some (.box 32 (aHist a0)))] [3] [] (by kernel_rfl) trivial ?_
    refine AWp.conv (inv:=[(3,0)]) (vk:=[]) (e0:=[]) (t:=⟨[(4,.ptr 0 0 0),(5,iV .i64 0)],[(0,some (.box 32 (aHist (a0))))],0⟩) (by kernel_rfl) ?_
    refine AWp.ret ?_
    obtain rfl:=Option.some.inj H
    exact rl (.inl rfl) rfl (by kernel_rfl) (by kernel_rfl)
   ·replace H:=iF c3188 H
    refine AWp.skip ?_
    obtain⟨t3191,e3192,H⟩:=bind_of H
    refine sr hP hn hm [(2,.call [] [(0,4),(1,5)] [] [4,5] 0 (.agg [iV .i64 ((t3191).f0),iV .i64 ((t3191).f1),iV .i64 ((t3191).f2),iV .u64 ((t3191).f3),iV .u64 ((t3191).f4),iV .i64 ((t3191).f5),.own 0,.own 1]) [(0,some (.row 2 89 (((t3191).f6).map eBucket))),(1,some (.row 2 89 (((t3191).f7).map eBucket)))])] [(5,iV .i64 0)] [4,5] [(3,some (.box 32 [iV .i64 ((t3191).f0),iV .i64 ((t3191).f1),iV .i64 ((t3191).f2),iV .u64 ((t3191).f3),iV .u64 ((t3191).f4),iV .i64 ((t3191).f5),.own 4,.own 5])),(4,some (.row 2 89 (((t3191).f6).map eBucket))),(5,some (.row 2 89 (((t3191).f7).map eBucket)))] [3,4,5] [_,_] (by kernel_rfl) ⟨Tryz.call93,f_r07_swallow.ok a0 a1 t3191 e3192,trivial⟩ ?_
    refine AWp.conv (inv:=[(3,0)]) (vk:=[4,5]) (e0:=[]) (t:=⟨[(4,.ptr 0 0 0),(5,iV .i64 0)],[(0,some (.box 32 (aHist ((t3191)))))],0⟩) (by kernel_rfl) ?_
    refine AWp.ret ?_
    obtain rfl:=Option.some.inj H
    exact rl (.inl rfl) rfl (by kernel_rfl) (by kernel_rfl)
def f_r07_Alike.l0  (v:Int×Int×Int×Int×Int×Int×(List TBucket)×(List TBucket)×Int×Int×Int×Int×Int×Int×(List TBucket)×(List TBucket)):Option (Int×Int×Int×Int×Int×Int×(List TBucket)×(List TBucket)×Int×Int×Int×Int×Int×Int×(List TBucket)×(List TBucket)):=match v with
 | (x3223,x3224,x3225,x3226,x3227,x3228,x3229,x3230,x3231,x3232,x3233,x3234,x3235,x3236,x3237,x3238)=>if(x3225 != x3233)=true then(((if(decide (x3225<x3233))=true then((f_r07_Widen.f (⟨x3223,x3224,x3225,x3226,x3227,x3228,x3229,x3230⟩:THist) x3233)>>=fun t3243=>some ((t3243.1).f0,(t3243.1).f1,(t3243.1).f2,(t3243.1).f3,(t3243.1).f4,(t3243.1).f5,(t3243.1).f6,(t3243.1).f7,x3231,x3232,x3233,x3234,x3235,x3236,x3237,x3238)) else((f_r07_Widen.f (⟨x3231,x3232,x3233,x3234,x3235,x3236,x3237,x3238⟩:THist) x3225)>>=fun t3247=>some (x3223,x3224,x3225,x3226,x3227,x3228,x3229,x3230,(t3247.1).f0,(t3247.1).f1,(t3247.1).f2,(t3247.1).f3,(t3247.1).f4,(t3247.1).f5,(t3247.1).f6,(t3247.1).f7))):Option (Int×Int×Int×Int×Int×Int×(List TBucket)×(List TBucket)×Int×Int×Int×Int×Int×Int×(List TBucket)×(List TBucket)))>>=fun oo=>match oo with | (x3249,x3250,x3251,x3252,x3253,x3254,x3255,x3256,x3257,x3258,x3259,x3260,x3261,x3262,x3263,x3264)=>(f_r07_Alike.l0  (x3249,x3250,x3251,x3252,x3253,x3254,x3255,x3256,x3257,x3258,x3259,x3260,x3261,x3262,x3263,x3264))) else(some (x3223,x3224,x3225,x3226,x3227,x3228,x3229,x3230,x3231,x3232,x3233,x3234,x3235,x3236,x3237,x3238))
partial_fixpoint
def f_r07_Alike.f (a0:THist) (a1:THist):Option (THist×THist):=((if(decide (a0.f1<a1.f1))=true then((f_r07_Down.f a1 a0.f1)>>=fun t3148=>(f_r07_Down.f a0 a0.f1)>>=fun t3152=>some ((t3152.1).f0,(t3152.1).f1,(t3152.1).f2,(t3152.1).f3,(t3152.1).f4,(t3152.1).f5,(t3152.1).f6,(t3152.1).f7,(t3148.1).f0,(t3148.1).f1,(t3148.1).f2,(t3148.1).f3,(t3148.1).f4,(t3148.1).f5,(t3148.1).f6,(t3148.1).f7)) else((f_r07_Down.f a0 a1.f1)>>=fun t3156=>(f_r07_Down.f a1 a1.f1)>>=fun t3160=>some ((t3156.1).f0,(t3156.1).f1,(t3156.1).f2,(t3156.1).f3,(t3156.1).f4,(t3156.1).f5,(t3156.1).f6,(t3156.1).f7,(t3160.1).f0,(t3160.1).f1,(t3160.1).f2,(t3160.1).f3,(t3160.1).f4,(t3160.1).f5,(t3160.1).f6,(t3160.1).f7))):Option (Int×Int×Int×Int×Int×Int×(List TBucket)×(List TBucket)×Int×Int×Int×Int×Int×Int×(List TBucket)×(List TBucket)))>>=fun oo=>match oo with | (x3162,x3163,x3164,x3165,x3166,x3167,x3168,x3169,x3170,x3171,x3172,x3173,x3174,x3175,x3176,x3177)=>((f_r07_Alike.l0  (x3162,x3163,x3164,x3165,x3166,x3167,x3168,x3169,x3170,x3171,x3172,x3173,x3174,x3175,x3176,x3177))>>=fun oo=>match oo with | (x3265,x3266,x3267,x3268,x3269,x3270,x3271,x3272,x3273,x3274,x3275,x3276,x3277,x3278,x3279,x3280)=>(some ((⟨x3265,x3266,x3267,x3268,x3269,x3270,x3271,x3272⟩:THist),(⟨x3273,x3274,x3275,x3276,x3277,x3278,x3279,x3280⟩:THist))))
theorem f_r07_Alike.ok (a0:THist) (a1:THist) (r:THist×THist) (H:f_r07_Alike.f a0 a1=some r):Pv.Fn Tryz.prog 65 [.agg (aHist a0),.agg (aHist a1)] [] 0 (fun x o=>x = .tup [.agg (aHist (r.1)),.agg (aHist (r.2))]∧o=[]):=by
 unfold f_r07_Alike.f at H
 refine Fn.bodyK [] Tryz.func65 rfl rfl (fun Γ hP hn => ?_)
 have hm:Tryz.prog.follows .mixedOrders=true:=by kernel_rfl
 replace hn:Γ.n=65:=hn
 refine sr hP hn hm [(0,.k 0),(1,.k 1),(2,.k 2),(3,.k 3)] [(2,.ptr 0 0 0),(3,.ptr 1 0 0),(4,.ptr 2 0 0),(5,.ptr 3 0 0)] [2,3,4,5] [(0,some (.box 32 (aHist a0))),(1,some (.box 32 (aHist a1))),(2,some (.box 32 [iV .i64 0,iV .i64 0,iV .i64 0,iV .u64 0,iV .u64 0,iV .i64 0,.none0,.none0])),(3,some (.box 32 [iV .i64 0,iV .i64 0,iV .i64 0,iV .u64 0,iV .u64 0,iV .i64 0,.none0,.none0]))] [0,1,2,3] [] (by kernel_rfl) trivial ?_
 refine AWp.seq ?_
 refine sr hP hn hm [] [(10,bV (decide (a0.f1<a1.f1)))] [2,3,4,5,10] [] [0,1,2,3] [] (by kernel_rfl) trivial ?_
 obtain⟨o3281,e3282,H⟩:=bind_of H
 refine AWp.mono (Q:=fun e s=>(match (generalizing:=false) o3281 with | (x3162,x3163,x3164,x3165,x3166,x3167,x3168,x3169,x3170,x3171,x3172,x3173,x3174,x3175,x3176,x3177)=>e = .normal∧s=⟨[(2,.ptr 12 0 0),(3,.ptr 15 0 0),(4,.ptr 18 0 0),(5,.ptr 19 0 0)],[(12,some (.box 32 [iV .i64 x3162,iV .i64 x3163,iV .i64 x3164,iV .u64 x3165,iV .u64 x3166,iV .i64 x3167,.own 13,.own 14])),(13,some (.row 2 89 (x3168.map eBucket))),(14,some (.row 2 89 (x3169.map eBucket))),(15,some (.box 32 [iV .i64 x3170,iV .i64 x3171,iV .i64 x3172,iV .u64 x3173,iV .u64 x3174,iV .i64 x3175,.own 16,.own 17])),(16,some (.row 2 89 (x3176.map eBucket))),(17,some (.row 2 89 (x3177.map eBucket))),(18,some (.box 32 [iV .i64 0,iV .i64 0,iV .i64 0,iV .u64 0,iV .u64 0,iV .i64 0,.none0,.none0])),(19,some (.box 32 [iV .i64 0,iV .i64 0,iV .i64 0,iV .u64 0,iV .u64 0,iV .i64 0,.none0,.none0]))],0⟩)) (AWp.cv ?_) ?_
 ·replace H:=e3282;clear e3282
  refine AWp.cond (decide (a0.f1<a1.f1)) (by kernel_rfl) (fun c2696 => ?_) (fun c2696 => ?_)
  ·replace H:=iT c2696 H
   obtain⟨t3148,e3149,H⟩:=bind_of H
   refine sr hP hn hm [(3,.call [] [(0,4),(1,5)] [] [4,5] 0 (.tup [.agg [iV .i64 ((t3148.1).f0),iV .i64 ((t3148.1).f1),iV .i64 ((t3148.1).f2),iV .u64 ((t3148.1).f3),iV .u64 ((t3148.1).f4),iV .i64 ((t3148.1).f5),.own 0,.own 1],iV .i64 t3148.2]) [(0,some (.row 2 89 (((t3148.1).f6).map eBucket))),(1,some (.row 2 89 (((t3148.1).f7).map eBucket)))])] [] [2,3,4,5] [(1,some (.box 32 [iV .i64 ((t3148.1).f0),iV .i64 ((t3148.1).f1),iV .i64 ((t3148.1).f2),iV .u64 ((t3148.1).f3),iV .u64 ((t3148.1).f4),iV .i64 ((t3148.1).f5),.own 4,.own 5])),(4,some (.row 2 89 (((t3148.1).f6).map eBucket))),(5,some (.row 2 89 (((t3148.1).f7).map eBucket)))] [0,1,2,3,4,5] [_,_] (by kernel_rfl) ⟨Tryz.call79,f_r07_Down.ok a1 a0.f1 t3148 e3149,trivial⟩ ?_
   obtain⟨t3152,e3153,H⟩:=bind_of H
   refine rg hP hn hm [(3,.call [] [(0,6),(1,7)] [] [6,7] 0 (.tup [.agg [iV .i64 ((t3152.1).f0),iV .i64 ((t3152.1).f1),iV .i64 ((t3152.1).f2),iV .u64 ((t3152.1).f3),iV .u64 ((t3152.1).f4),iV .i64 ((t3152.1).f5),.own 0,.own 1],iV .i64 t3152.2]) [(0,some (.row 2 89 (((t3152.1).f6).map eBucket))),(1,some (.row 2 89 (((t3152.1).f7).map eBucket)))])] [] [2,3,4,5] [(0,some (.box 32 [iV .i64 ((t3152.1).f0),iV .i64 ((t3152.1).f1),iV .i64 ((t3152.1).f2),iV .u64 ((t3152.1).f3),iV .u64 ((t3152.1).f4),iV .i64 ((t3152.1).f5),.own 6,.own 7])),(6,some (.row 2 89 (((t3152.1).f6).map eBucket))),(7,some (.row 2 89 (((t3152.1).f7).map eBucket)))] [0,1,2,3,4,5,6,7] [_,_] (by kernel_rfl) ⟨Tryz.call79,f_r07_Down.ok a0 a0.f1 t3152 e3153,trivial⟩ ?_
   obtain rfl:=Option.some.inj H
   exact lf [(0,12),(6,13),(7,14),(1,15),(4,16),(5,17),(2,18),(3,19)] [] [] (by kernel_rfl) ⟨rfl,rfl⟩
  ·replace H:=iF c2696 H
   obtain⟨t3156,e3157,H⟩:=bind_of H
   refine sr hP hn hm [(3,.call [] [(0,8),(1,9)] [] [8,9] 0 (.tup [.agg [iV .i64 ((t3156.1).f0),iV .i64 ((t3156.1).f1),iV .i64 ((t3156.1).f2),iV .u64 ((t3156.1).f3),iV .u64 ((t3156.1).f4),iV .i64 ((t3156.1).f5),.own 0,.own 1],iV .i64 t3156.2]) [(0,some (.row 2 89 (((t3156.1).f6).map eBucket))),(1,some (.row 2 89 (((t3156.1).f7).map eBucket)))])] [] [2,3,4,5] [(0,some (.box 32 [iV .i64 ((t3156.1).f0),iV .i64 ((t3156.1).f1),iV .i64 ((t3156.1).f2),iV .u64 ((t3156.1).f3),iV .u64 ((t3156.1).f4),iV .i64 ((t3156.1).f5),.own 8,.own 9])),(8,some (.row 2 89 (((t3156.1).f6).map eBucket))),(9,some (.row 2 89 (((t3156.1).f7).map eBucket)))] [0,1,2,3,8,9] [_,_] (by kernel_rfl) ⟨Tryz.call79,f_r07_Down.ok a0 a1.f1 t3156 e3157,trivial⟩ ?_
   obtain⟨t3160,e3161,H⟩:=bind_of H
   refine rg hP hn hm [(3,.call [] [(0,10),(1,11)] [] [10,11] 0 (.tup [.agg [iV .i64 ((t3160.1).f0),iV .i64 ((t3160.1).f1),iV .i64 ((t3160.1).f2),iV .u64 ((t3160.1).f3),iV .u64 ((t3160.1).f4),iV .i64 ((t3160.1).f5),.own 0,.own 1],iV .i64 t3160.2]) [(0,some (.row 2 89 (((t3160.1).f6).map eBucket))),(1,some (.row 2 89 (((t3160.1).f7).map eBucket)))])] [] [2,3,4,5] [(1,some (.box 32 [iV .i64 ((t3160.1).f0),iV .i64 ((t3160.1).f1),iV .i64 ((t3160.1).f2),iV .u64 ((t3160.1).f3),iV .u64 ((t3160.1).f4),iV .i64 ((t3160.1).f5),.own 10,.own 11])),(10,some (.row 2 89 (((t3160.1).f6).map eBucket))),(11,some (.row 2 89 (((t3160.1).f7).map eBucket)))] [0,1,2,3,8,9,10,11] [_,_] (by kernel_rfl) ⟨Tryz.call79,f_r07_Down.ok a1 a1.f1 t3160 e3161,trivial⟩ ?_
   obtain rfl:=Option.some.inj H
   exact lf [(0,12),(8,13),(9,14),(1,15),(10,16),(11,17),(2,18),(3,19)] [] [] (by kernel_rfl) ⟨rfl,rfl⟩
 ·obtain⟨x3162,x3163,x3164,x3165,x3166,x3167,x3168,x3169,x3170,x3171,x3172,x3173,x3174,x3175,x3176,x3177⟩:=o3281
  rintro e s ⟨rfl,rfl⟩
  refine AWp.seq ?_
  refine AWp.block ?_
  obtain⟨o3283,e3284,H⟩:=bind_of H
  refine AWp.loop (LWp.conv (inv:=[(12,24),(15,25),(18,26),(19,27)]) (vk:=[13,14,16,17]) (e0:=[]) (t:=⟨[(2,.ptr 24 0 0),(3,.ptr 25 0 0),(4,.ptr 26 0 0),(5,.ptr 27 0 0)],[(24,some (.box 32 (aHist ⟨x3162,x3163,x3164,x3165,x3166,x3167,x3168,x3169⟩))),(25,some (.box 32 (aHist ⟨x3170,x3171,x3172,x3173,x3174,x3175,x3176,x3177⟩))),(26,some (.box 32 [iV .i64 0,iV .i64 0,iV .i64 0,iV .u64 0,iV .u64 0,iV .i64 0,.none0,.none0])),(27,some (.box 32 [iV .i64 0,iV .i64 0,iV .i64 0,iV .u64 0,iV .u64 0,iV .i64 0,.none0,.none0]))],0⟩) (by kernel_rfl) ?_)
  refine LWp.mono (Q:=fun e s=>(match (generalizing:=false) o3283 with | (x3265,x3266,x3267,x3268,x3269,x3270,x3271,x3272,x3273,x3274,x3275,x3276,x3277,x3278,x3279,x3280)=>e = .exit 0∧s=⟨[(2,.ptr 32 0 0),(3,.ptr 33 0 0),(4,.ptr 34 0 0),(5,.ptr 35 0 0)],[(32,some (.box 32 (aHist ⟨x3265,x3266,x3267,x3268,x3269,x3270,x3271,x3272⟩))),(33,some (.box 32 (aHist ⟨x3273,x3274,x3275,x3276,x3277,x3278,x3279,x3280⟩))),(34,some (.box 32 [iV .i64 0,iV .i64 0,iV .i64 0,iV .u64 0,iV .u64 0,iV .i64 0,.none0,.none0])),(35,some (.box 32 [iV .i64 0,iV .i64 0,iV .i64 0,iV .u64 0,iV .u64 0,iV .i64 0,.none0,.none0]))],0⟩)) (LWp.cv (withBody (fun body hbody => ?_))) ?_
  ·refine f_r07_Alike.l0.partial_correctness  (motive:=fun v o3283=>(match (generalizing:=false) v with | (x3223,x3224,x3225,x3226,x3227,x3228,x3229,x3230,x3231,x3232,x3233,x3234,x3235,x3236,x3237,x3238)=>LWp Γ body (fun e s=>∃ t,Cv Γ s t∧(match (generalizing:=false) o3283 with | (x3265,x3266,x3267,x3268,x3269,x3270,x3271,x3272,x3273,x3274,x3275,x3276,x3277,x3278,x3279,x3280)=>e = .exit 0∧t=⟨[(2,.ptr 32 0 0),(3,.ptr 33 0 0),(4,.ptr 34 0 0),(5,.ptr 35 0 0)],[(32,some (.box 32 (aHist ⟨x3265,x3266,x3267,x3268,x3269,x3270,x3271,x3272⟩))),(33,some (.box 32 (aHist ⟨x3273,x3274,x3275,x3276,x3277,x3278,x3279,x3280⟩))),(34,some (.box 32 [iV .i64 0,iV .i64 0,iV .i64 0,iV .u64 0,iV .u64 0,iV .i64 0,.none0,.none0])),(35,some (.box 32 [iV .i64 0,iV .i64 0,iV .i64 0,iV .u64 0,iV .u64 0,iV .i64 0,.none0,.none0]))],0⟩)) ⟨[(2,.ptr 24 0 0),(3,.ptr 25 0 0),(4,.ptr 26 0 0),(5,.ptr 27 0 0)],[(24,some (.box 32 (aHist ⟨x3223,x3224,x3225,x3226,x3227,x3228,x3229,x3230⟩))),(25,some (.box 32 (aHist ⟨x3231,x3232,x3233,x3234,x3235,x3236,x3237,x3238⟩))),(26,some (.box 32 [iV .i64 0,iV .i64 0,iV .i64 0,iV .u64 0,iV .u64 0,iV .i64 0,.none0,.none0])),(27,some (.box 32 [iV .i64 0,iV .i64 0,iV .i64 0,iV .u64 0,iV .u64 0,iV .i64 0,.none0,.none0]))],0⟩)) ?_ _ _ e3284
   clear H e3284 o3283;intro self ih v o3283 H
   obtain⟨x3223,x3224,x3225,x3226,x3227,x3228,x3229,x3230,x3231,x3232,x3233,x3234,x3235,x3236,x3237,x3238⟩:=v
   dsimp only at H
   subst hbody
   refine LWp.round ?_
   refine AWp.seq ?_
   refine sr hP hn hm [] [(43,bV (x3225 != x3233))] [2,3,4,5,43] [] [24,25,26,27] [] (by kernel_rfl) trivial ?_
   refine AWp.cond (x3225 != x3233) (by kernel_rfl) (fun c3239 => ?_) (fun c3239 => ?_)
   ·replace H:=iT c3239 H
    refine AWp.skip ?_
    refine AWp.block ?_
    refine sr hP hn hm [] [(48,bV (decide (x3225<x3233)))] [2,3,4,5,48] [] [24,25,26,27] [] (by kernel_rfl) trivial ?_
    obtain⟨o3285,e3286,H⟩:=bind_of H
    refine AWp.mono (Q:=fun e s=>(match (generalizing:=false) o3285 with | (x3249,x3250,x3251,x3252,x3253,x3254,x3255,x3256,x3257,x3258,x3259,x3260,x3261,x3262,x3263,x3264)=>e = .normal∧s=⟨[(2,.ptr 28 0 0),(3,.ptr 29 0 0),(4,.ptr 30 0 0),(5,.ptr 31 0 0)],[(28,some (.box 32 (aHist ⟨x3249,x3250,x3251,x3252,x3253,x3254,x3255,x3256⟩))),(29,some (.box 32 (aHist ⟨x3257,x3258,x3259,x3260,x3261,x3262,x3263,x3264⟩))),(30,some (.box 32 [iV .i64 0,iV .i64 0,iV .i64 0,iV .u64 0,iV .u64 0,iV .i64 0,.none0,.none0])),(31,some (.box 32 [iV .i64 0,iV .i64 0,iV .i64 0,iV .u64 0,iV .u64 0,iV .i64 0,.none0,.none0]))],0⟩)) (AWp.cv ?_) ?_
    ·replace H:=e3286;clear e3286
     refine AWp.cond (decide (x3225<x3233)) (by kernel_rfl) (fun c3240 => ?_) (fun c3240 => ?_)
     ·replace H:=iT c3240 H
      obtain⟨t3243,e3244,H⟩:=bind_of H
      refine rg hP hn hm [(3,.call [] [] [] [] 0 (.tup [.agg (aHist (t3243.1)),iV .i64 t3243.2]) [])] [] [2,3,4,5] [(24,some (.box 32 (aHist (t3243.1))))] [24,25,26,27] [_,_] (by kernel_rfl) ⟨Tryz.call80,f_r07_Widen.ok (⟨x3223,x3224,x3225,x3226,x3227,x3228,x3229,x3230⟩:THist) x3233 t3243 e3244,trivial⟩ ?_
      obtain rfl:=Option.some.inj H
      exact lf [(24,28),(25,29),(26,30),(27,31)] [] [] (by kernel_rfl) ⟨rfl,rfl⟩
     ·replace H:=iF c3240 H
      obtain⟨t3247,e3248,H⟩:=bind_of H
      refine rg hP hn hm [(3,.call [] [] [] [] 0 (.tup [.agg (aHist (t3247.1)),iV .i64 t3247.2]) [])] [] [2,3,4,5] [(25,some (.box 32 (aHist (t3247.1))))] [24,25,26,27] [_,_] (by kernel_rfl) ⟨Tryz.call80,f_r07_Widen.ok (⟨x3231,x3232,x3233,x3234,x3235,x3236,x3237,x3238⟩:THist) x3225 t3247 e3248,trivial⟩ ?_
      obtain rfl:=Option.some.inj H
      exact lf [(24,28),(25,29),(26,30),(27,31)] [] [] (by kernel_rfl) ⟨rfl,rfl⟩
    ·obtain⟨x3249,x3250,x3251,x3252,x3253,x3254,x3255,x3256,x3257,x3258,x3259,x3260,x3261,x3262,x3263,x3264⟩:=o3285
     rintro e s ⟨rfl,rfl⟩
     exact LWp.conv [(28,24),(29,25),(30,26),(31,27)] [] [] (by kernel_rfl) (ih _ _ H)
   ·replace H:=iF c3239 H
    refine AWp.exit ?_
    obtain rfl:=Option.some.inj H
    exact lf [(24,32),(25,33),(26,34),(27,35)] [] [] (by kernel_rfl) ⟨rfl,rfl⟩
  ·obtain⟨x3265,x3266,x3267,x3268,x3269,x3270,x3271,x3272,x3273,x3274,x3275,x3276,x3277,x3278,x3279,x3280⟩:=o3283
   rintro e s ⟨rfl,rfl⟩
   refine sr hP hn hm [] [] [4,5] [(34,some (.box 32 (aHist ⟨x3265,x3266,x3267,x3268,x3269,x3270,x3271,x3272⟩))),(35,some (.box 32 (aHist ⟨x3273,x3274,x3275,x3276,x3277,x3278,x3279,x3280⟩)))] [34,35] [] (by kernel_rfl) trivial ?_
   refine AWp.conv (inv:=[(34,0),(35,1)]) (vk:=[]) (e0:=[]) (t:=⟨[(4,.ptr 0 0 0),(5,.ptr 1 0 0)],[(0,some (.box 32 (aHist ((⟨x3265,x3266,x3267,x3268,x3269,x3270,x3271,x3272⟩:THist))))),(1,some (.box 32 (aHist ((⟨x3273,x3274,x3275,x3276,x3277,x3278,x3279,x3280⟩:THist)))))],0⟩) (by kernel_rfl) ?_
   refine AWp.ret ?_
   obtain rfl:=Option.some.inj H
   exact rl (.inl rfl) rfl (by kernel_rfl) (by kernel_rfl)
def f_r07_At.l0 (a0:List TBucket) (a1:Int) (x3303:Int):Option (Int ⊕ Unit):=if(decide (x3303<(a0.length:Int)))=true then((at? a0 x3303)>>=fun b3308=>if(b3308.f0==a1)=true then(some (.inl b3308.f1)) else(f_r07_At.l0 a0 a1 (i64.wrap (x3303+(1:Int))))) else(some (.inr ()))
partial_fixpoint
def f_r07_At.f (a0:List TBucket) (a1:Int):Option (Int):=(f_r07_At.l0 a0 a1 0)>>=fun oo=>match oo with | .inl rr=>(some rr) | .inr _=>(some 0)
theorem f_r07_At.ok (a0:List TBucket) (a1:Int) (r:Int) (H:f_r07_At.f a0 a1=some r):Pv.Fn Tryz.prog 81 [.im (.row (a0.map eBucket)),iV .i64 a1] [] 0 (fun x o=>x=iV .u64 r∧o=[]):=by
 unfold f_r07_At.f at H
 refine Fn.bodyK [] Tryz.func81 rfl rfl (fun Γ hP hn => ?_)
 have hm:Tryz.prog.follows .mixedOrders=true:=by kernel_rfl
 replace hn:Γ.n=24:=hn
 refine sr hP hn hm [] [] [0,1] [] [] [] (by kernel_rfl) trivial ?_
 refine AWp.seq ?_
 refine sr hP hn hm [] [(5,iV .i64 0)] [0,1,5] [] [] [] (by kernel_rfl) trivial ?_
 refine AWp.block ?_
 obtain⟨o3312,e3313,H⟩:=bind_of H
 refine AWp.loop (LWp.conv (inv:=[]) (vk:=[]) (e0:=[]) (t:=⟨[(0,.im (.row (a0.map eBucket))),(1,iV .i64 a1),(5,iV .i64 0)],[],0⟩) (by kernel_rfl) ?_)
 refine LWp.mono (Q:=fun e s=>(match (generalizing:=false) o3312 with | .inl rr=>e = .ret∧s.floor=0∧resOf Tryz.prog Tryz.f81 s=some (iV .u64 rr)∧([]:List (Nat×Option MObj))=[] | .inr _=>e = .exit 0∧s=⟨[],[],0⟩)) (LWp.cv (withBody (fun body hbody => ?_))) ?_
 ·refine f_r07_At.l0.partial_correctness a0 a1 (motive:=fun x3303 o3312=>LWp Γ body (fun e s=>∃ t,Cv Γ s t∧(match (generalizing:=false) o3312 with | .inl rr=>e = .ret∧t.floor=0∧resOf Tryz.prog Tryz.f81 t=some (iV .u64 rr)∧([]:List (Nat×Option MObj))=[] | .inr _=>e = .exit 0∧t=⟨[],[],0⟩)) ⟨[(0,.im (.row (a0.map eBucket))),(1,iV .i64 a1),(5,iV .i64 x3303)],[],0⟩) ?_ _ _ e3313
  clear H e3313 o3312;intro self ih x3303 o3312 H
  subst hbody
  refine LWp.round ?_
  refine AWp.seq ?_
  refine sr hP hn hm [(2,.any (iV .i64 (a0.length:Int)))] [(9,bV (decide (x3303<(a0.length:Int))))] [0,1,5,9] [] [] [((a0.map eBucket).length:Int)=(a0.length:Int)] (by kernel_rfl) ⟨by rw[len_map],trivial⟩ ?_
  refine AWp.cond (decide (x3303<(a0.length:Int))) (by kernel_rfl) (fun c3304 => ?_) (fun c3304 => ?_)
  ·replace H:=iT c3304 H
   refine AWp.skip ?_
   refine AWp.seq ?_
   refine AWp.block ?_
   obtain⟨b3308,p3309,q3310,H⟩:=at_of H
   refine sr hP hn hm [(2,.c (eBucket b3308))] [(18,bV (b3308.f0==a1))] [0,1,5,18] [] [] [_,_] (by kernel_rfl) ⟨p3309,el_map eBucket q3310,trivial⟩ ?_
   refine AWp.cond (b3308.f0==a1) (by kernel_rfl) (fun c3311 => ?_) (fun c3311 => ?_)
   ·replace H:=iT c3311 H
    refine sr hP hn hm [(2,.c (eBucket b3308))] [(4,iV .u64 b3308.f1)] [4] [] [] [_,_] (by kernel_rfl) ⟨p3309,el_map eBucket q3310,trivial⟩ ?_
    refine AWp.conv (inv:=[]) (vk:=[]) (e0:=[]) (t:=⟨[(4,iV .u64 b3308.f1)],[],0⟩) (by kernel_rfl) ?_
    refine AWp.ret ?_
    obtain rfl:=Option.some.inj H
    exact rl rfl rfl (by kernel_rfl) (by kernel_rfl)
   ·replace H:=iF c3311 H
    refine AWp.skip ?_
    refine rg hP hn hm [] [(5,iV .i64 (i64.wrap (x3303+(1:Int))))] [0,1,5] [] [] [] (by kernel_rfl) trivial ?_
    exact LWp.conv [] [] [] (by kernel_rfl) (ih _ _ H)
  ·replace H:=iF c3304 H
   refine AWp.exit ?_
   obtain rfl:=Option.some.inj H
   exact lf [] [] [] (by kernel_rfl) ⟨rfl,rfl⟩
 ·rcases o3312 with rr | _
  ·skip
   rintro e s ⟨rfl,hfl,hres⟩
   obtain rfl:=Option.some.inj H
   exact Exists.intro _ (And.intro (fun _ _ h=>h) (And.intro (.inl rfl) (And.intro hfl hres)))
  ·skip
   rintro e s ⟨rfl,rfl⟩
   refine sr hP hn hm [] [(4,iV .u64 0)] [4] [] [] [] (by kernel_rfl) trivial ?_
   refine AWp.conv (inv:=[]) (vk:=[]) (e0:=[]) (t:=⟨[(4,iV .u64 0)],[],0⟩) (by kernel_rfl) ?_
   refine AWp.ret ?_
   obtain rfl:=Option.some.inj H
   exact rl (.inl rfl) rfl (by kernel_rfl) (by kernel_rfl)
def f_r07_off.l0 (a0:List TBucket) (a1:List TBucket) (x3322:Int):Option (((List TBucket)×Bool) ⊕ Unit):=if(decide (x3322<(a1.length:Int)))=true then((at? a1 x3322)>>=fun b3329=>(f_r07_At.f a0 b3329.f0)>>=fun t3332=>if(decide (t3332<b3329.f1))=true then(some (.inl ([],false))) else(f_r07_off.l0 a0 a1 (i64.wrap (x3322+(1:Int))))) else(some (.inr ()))
partial_fixpoint
def f_r07_off.l1 (a0:List TBucket) (a1:List TBucket) (x3350:List TBucket) (x3351:Int):Option (List TBucket):=if(decide (x3351<(a0.length:Int)))=true then((at? a0 x3351)>>=fun b3358=>(f_r07_At.f a1 b3358.f0)>>=fun t3361=>((if(decide ((u64.wrap (b3358.f1-t3361))>(0:Int)))=true then((chk ((x3350.length+[(⟨b3358.f0,u64.wrap (b3358.f1-t3361)⟩:TBucket)].length)*16≤140737488355328))>>=fun _=>some (x3350++[(⟨b3358.f0,u64.wrap (b3358.f1-t3361)⟩:TBucket)])) else(some x3350)):Option (List TBucket))>>=fun x3366=>f_r07_off.l1 a0 a1 x3366 (i64.wrap (x3351+(1:Int)))) else(some x3350)
partial_fixpoint
def f_r07_off.f (a0:List TBucket) (a1:List TBucket):Option ((List TBucket)×Bool):=(f_r07_off.l0 a0 a1 0)>>=fun oo=>match oo with | .inl rr=>(some rr) | .inr _=>((f_r07_off.l1 a0 a1 [] 0)>>=fun x3367=>some (x3367,true))
theorem f_r07_off.ok (a0:List TBucket) (a1:List TBucket) (r:(List TBucket)×Bool) (H:f_r07_off.f a0 a1=some r):Pv.Fn Tryz.prog 66 [.im (.row (a0.map eBucket)),.im (.row (a1.map eBucket))] [] 0 (fun x o=>x = .tup [.own 0,bV r.2]∧o=[(0,some (.row 2 89 (r.1.map eBucket)))]):=by
 unfold f_r07_off.f at H
 refine Fn.bodyK [0] Tryz.func66 rfl rfl (fun Γ hP hn => ?_)
 have hm:Tryz.prog.follows .mixedOrders=true:=by kernel_rfl
 replace hn:Γ.n=61:=hn
 refine sr hP hn hm [] [] [0,1] [] [] [] (by kernel_rfl) trivial ?_
 refine AWp.seq ?_
 refine sr hP hn hm [] [(6,iV .i64 0)] [0,1,6] [] [] [] (by kernel_rfl) trivial ?_
 refine AWp.block ?_
 obtain⟨o3368,e3369,H⟩:=bind_of H
 refine AWp.loop (LWp.conv (inv:=[]) (vk:=[]) (e0:=[]) (t:=⟨[(0,.im (.row (a0.map eBucket))),(1,.im (.row (a1.map eBucket))),(6,iV .i64 0)],[],0⟩) (by kernel_rfl) ?_)
 refine LWp.mono (Q:=fun e s=>(match (generalizing:=false) o3368 with | .inl rr=>e = .ret∧s.floor=0∧resOf Tryz.prog Tryz.f66 s=some (.tup [.own 0,bV rr.2])∧([(0,s.obj 0)]:List (Nat×Option MObj))=[(0,some (.row 2 89 (rr.1.map eBucket)))] | .inr _=>e = .exit 0∧s=⟨[(0,.im (.row (a0.map eBucket))),(1,.im (.row (a1.map eBucket)))],[],0⟩)) (LWp.cv (withBody (fun body hbody => ?_))) ?_
 ·refine f_r07_off.l0.partial_correctness a0 a1 (motive:=fun x3322 o3368=>LWp Γ body (fun e s=>∃ t,Cv Γ s t∧(match (generalizing:=false) o3368 with | .inl rr=>e = .ret∧t.floor=0∧resOf Tryz.prog Tryz.f66 t=some (.tup [.own 0,bV rr.2])∧([(0,t.obj 0)]:List (Nat×Option MObj))=[(0,some (.row 2 89 (rr.1.map eBucket)))] | .inr _=>e = .exit 0∧t=⟨[(0,.im (.row (a0.map eBucket))),(1,.im (.row (a1.map eBucket)))],[],0⟩)) ⟨[(0,.im (.row (a0.map eBucket))),(1,.im (.row (a1.map eBucket))),(6,iV .i64 x3322)],[],0⟩) ?_ _ _ e3369
  clear H e3369 o3368;intro self ih x3322 o3368 H
  subst hbody
  refine LWp.round ?_
  refine AWp.seq ?_
  refine sr hP hn hm [(2,.any (iV .i64 (a1.length:Int)))] [(13,bV (decide (x3322<(a1.length:Int))))] [0,1,6,13] [] [] [((a1.map eBucket).length:Int)=(a1.length:Int)] (by kernel_rfl) ⟨by rw[len_map],trivial⟩ ?_
  refine AWp.cond (decide (x3322<(a1.length:Int))) (by kernel_rfl) (fun c3323 => ?_) (fun c3323 => ?_)
  ·replace H:=iT c3323 H
   refine AWp.skip ?_
   refine AWp.seq ?_
   refine AWp.block ?_
   obtain⟨b3329,p3330,q3331,H⟩:=at_of H
   obtain⟨t3332,e3333,H⟩:=bind_of H
   refine sr hP hn hm [(3,.c (eBucket b3329)),(6,.call [] [] [] [] 0 (iV .u64 t3332) []),(9,.c (eBucket b3329))] [(28,bV (decide (t3332<b3329.f1)))] [0,1,6,28] [] [] [_,_,_,_,_,_] (by kernel_rfl) ⟨p3330,el_map eBucket q3331,Tryz.call81,f_r07_At.ok a0 b3329.f0 t3332 e3333,p3330,el_map eBucket q3331,trivial⟩ ?_
   refine AWp.cond (decide (t3332<b3329.f1)) (by kernel_rfl) (fun c3334 => ?_) (fun c3334 => ?_)
   ·replace H:=iT c3334 H
    refine sr hP hn hm [] [(4,.none0),(5,bV false)] [4,5] [] [] [] (by kernel_rfl) trivial ?_
    refine AWp.conv (inv:=[]) (vk:=[]) (e0:=[0]) (t:=⟨[(4,.own 0),(5,bV false)],[(0,some (.row 2 89 ([].map eBucket)))],0⟩) (by kernel_rfl) ?_
    refine AWp.ret ?_
    obtain rfl:=Option.some.inj H
    exact rl rfl rfl (by kernel_rfl) (by kernel_rfl)
   ·replace H:=iF c3334 H
    refine AWp.skip ?_
    refine rg hP hn hm [] [(6,iV .i64 (i64.wrap (x3322+(1:Int))))] [0,1,6] [] [] [] (by kernel_rfl) trivial ?_
    exact LWp.conv [] [] [] (by kernel_rfl) (ih _ _ H)
  ·replace H:=iF c3323 H
   refine AWp.exit ?_
   obtain rfl:=Option.some.inj H
   exact lf [] [] [] (by kernel_rfl) ⟨rfl,rfl⟩
 ·rcases o3368 with rr | _
  ·skip
   rintro e s ⟨rfl,hfl,hres⟩
   obtain rfl:=Option.some.inj H
   exact Exists.intro _ (And.intro (fun _ _ h=>h) (And.intro (.inl rfl) (And.intro hfl hres)))
  ·skip
   rintro e s ⟨rfl,rfl⟩
   refine sr hP hn hm [] [(7,.none0)] [0,1,7] [] [] [] (by kernel_rfl) trivial ?_
   refine AWp.seq ?_
   refine sr hP hn hm [] [(8,iV .i64 0)] [0,1,7,8] [] [] [] (by kernel_rfl) trivial ?_
   refine AWp.block ?_
   obtain⟨o3370,e3371,H⟩:=bind_of H
   refine AWp.loop (LWp.conv (inv:=[]) (vk:=[]) (e0:=[3]) (t:=⟨[(0,.im (.row (a0.map eBucket))),(1,.im (.row (a1.map eBucket))),(7,.own 3),(8,iV .i64 0)],[(3,some (.row 2 89 ([].map eBucket)))],0⟩) (by kernel_rfl) ?_)
   refine LWp.mono (Q:=fun e s=>(match (generalizing:=false) o3370 with | x3367=>e = .exit 2∧s=⟨[(7,.own 7)],[(7,some (.row 2 89 (x3367.map eBucket)))],0⟩)) (LWp.cv (withBody (fun body hbody => ?_))) ?_
   ·refine f_r07_off.l1.partial_correctness a0 a1 (motive:=fun x3350 x3351 o3370=>LWp Γ body (fun e s=>∃ t,Cv Γ s t∧(match (generalizing:=false) o3370 with | x3367=>e = .exit 2∧t=⟨[(7,.own 7)],[(7,some (.row 2 89 (x3367.map eBucket)))],0⟩)) ⟨[(0,.im (.row (a0.map eBucket))),(1,.im (.row (a1.map eBucket))),(7,.own 3),(8,iV .i64 x3351)],[(3,some (.row 2 89 (x3350.map eBucket)))],0⟩) ?_ _ _ _ e3371
    clear H e3371 o3370;intro self ih x3350 x3351 o3370 H
    subst hbody
    refine LWp.round ?_
    refine AWp.seq ?_
    refine sr hP hn hm [(2,.any (iV .i64 (a0.length:Int)))] [(32,bV (decide (x3351<(a0.length:Int))))] [0,1,7,8,32] [] [3] [((a0.map eBucket).length:Int)=(a0.length:Int)] (by kernel_rfl) ⟨by rw[len_map],trivial⟩ ?_
    refine AWp.cond (decide (x3351<(a0.length:Int))) (by kernel_rfl) (fun c3352 => ?_) (fun c3352 => ?_)
    ·replace H:=iT c3352 H
     refine AWp.skip ?_
     refine AWp.seq ?_
     refine AWp.block ?_
     obtain⟨b3358,p3359,q3360,H⟩:=at_of H
     obtain⟨t3361,e3362,H⟩:=bind_of H
     refine sr hP hn hm [(2,.c (eBucket b3358)),(8,.c (eBucket b3358)),(11,.call [] [] [] [] 0 (iV .u64 t3361) [])] [(9,iV .u64 (u64.wrap (b3358.f1-t3361)))] [0,1,7,8,9] [] [3] [_,_,_,_,_,_] (by kernel_rfl) ⟨p3359,el_map eBucket q3360,p3359,el_map eBucket q3360,Tryz.call81,f_r07_At.ok a1 b3358.f0 t3361 e3362,trivial⟩ ?_
     refine sr hP hn hm [] [(49,bV (decide ((u64.wrap (b3358.f1-t3361))>(0:Int))))] [0,1,7,8,9,49] [] [3] [] (by kernel_rfl) trivial ?_
     obtain⟨o3372,e3373,H⟩:=bind_of H
     refine AWp.mono (Q:=fun e s=>(match (generalizing:=false) o3372 with | x3366=>e = .normal∧s=⟨[(0,.im (.row (a0.map eBucket))),(1,.im (.row (a1.map eBucket))),(7,.own 6),(8,iV .i64 x3351)],[(6,some (.row 2 89 (x3366.map eBucket)))],0⟩)) (AWp.cv ?_) ?_
     ·replace H:=e3373;clear e3373
      refine AWp.cond (decide ((u64.wrap (b3358.f1-t3361))>(0:Int))) (by kernel_rfl) (fun c3363 => ?_) (fun c3363 => ?_)
      ·replace H:=iT c3363 H
       obtain⟨c3365,H⟩:=chk_of H
       refine rg hP hn hm [(3,.c (eBucket b3358)),(8,.app 4 ([(⟨b3358.f0,u64.wrap (b3358.f1-t3361)⟩:TBucket)].map eBucket)),(9,.app 5 ((x3350++[(⟨b3358.f0,u64.wrap (b3358.f1-t3361)⟩:TBucket)]).map eBucket))] [(7,.own 5)] [0,1,7,8] [(5,some (.row 2 89 ((x3350++[(⟨b3358.f0,u64.wrap (b3358.f1-t3361)⟩:TBucket)]).map eBucket)))] [5] [_,_,[(⟨b3358.f0,u64.wrap (b3358.f1-t3361)⟩:TBucket)].map eBucket=[[iI .i64 b3358.f0,iI .u64 (u64.wrap (b3358.f1-t3361))]],(x3350++[(⟨b3358.f0,u64.wrap (b3358.f1-t3361)⟩:TBucket)]).map eBucket=(x3350.map eBucket)++([(⟨b3358.f0,u64.wrap (b3358.f1-t3361)⟩:TBucket)].map eBucket),∀ c∈([(⟨b3358.f0,u64.wrap (b3358.f1-t3361)⟩:TBucket)].map eBucket),c.length=2,∀ c∈([(⟨b3358.f0,u64.wrap (b3358.f1-t3361)⟩:TBucket)].map eBucket),leaves (c.map .im)=true,((x3350.map eBucket).length+([(⟨b3358.f0,u64.wrap (b3358.f1-t3361)⟩:TBucket)].map eBucket).length)*16≤140737488355328] (by kernel_rfl) ⟨p3359,el_map eBucket q3360,by exact rfl,by simp,by exact all_len _ _ _ (fun _=>rfl),by exact all_leaf _ _ (fun _=>rfl),by simpa using c3365,trivial⟩ ?_
       obtain rfl:=Option.some.inj H
       exact lf [(5,6)] [] [] (by kernel_rfl) ⟨rfl,rfl⟩
      ·replace H:=iF c3363 H
       refine AWp.skip ?_
       obtain rfl:=Option.some.inj H
       exact lf [(3,6)] [] [] (by kernel_rfl) ⟨rfl,rfl⟩
     ·obtain⟨x3366,rfl⟩:∃ z,z=o3372:=⟨_,rfl⟩
      rintro e s ⟨rfl,rfl⟩
      refine rg hP hn hm [] [(8,iV .i64 (i64.wrap (x3351+(1:Int))))] [0,1,7,8] [] [6] [] (by kernel_rfl) trivial ?_
      exact LWp.conv [(6,3)] [] [] (by kernel_rfl) (ih _ _ _ H)
    ·replace H:=iF c3352 H
     refine AWp.exit ?_
     obtain rfl:=Option.some.inj H
     exact lf [(3,7)] [] [] (by kernel_rfl) ⟨rfl,rfl⟩
   ·obtain⟨x3367,rfl⟩:∃ z,z=o3370:=⟨_,rfl⟩
    rintro e s ⟨rfl,rfl⟩
    refine sr hP hn hm [] [(4,.own 7),(5,bV true)] [4,5] [] [7] [] (by kernel_rfl) trivial ?_
    refine AWp.conv (inv:=[(7,0)]) (vk:=[]) (e0:=[]) (t:=⟨[(4,.own 0),(5,bV true)],[(0,some (.row 2 89 (x3367.map eBucket)))],0⟩) (by kernel_rfl) ?_
    refine AWp.ret ?_
    obtain rfl:=Option.some.inj H
    exact rl (.inl rfl) rfl (by kernel_rfl) (by kernel_rfl)
def f_r07_Sub.f (a0:THist) (a1:THist):Option (THist×Int):=((if(a1.f5==(-9223372036854775808))=true then(some (i64.wrap (a1.f5+(1:Int)))) else(some a1.f5)):Option (Int))>>=fun x2652=>((if(a1.f5==(-9223372036854775808))=true then((chk (([a0.f5,i64.wrap (0-x2652)].length+[1].length)*8≤140737488355328))>>=fun _=>some ([a0.f5,i64.wrap (0-x2652)]++[1])) else(some [a0.f5,i64.wrap (0-x2652)])):Option (List Int))>>=fun x2656=>(f_r01_AddInt.f x2656)>>=fun t2694=>(f_r07_Alike.f a0 a1)>>=fun t3289=>(f_r07_off.f ((t3289.1).f6) ((t3289.2).f6))>>=fun t3376=>(f_r07_off.f ((t3289.1).f7) ((t3289.2).f7))>>=fun t3380=>((if(!t3376.2)=true then(some true) else(if(!t3380.2)=true then(some true) else(some (decide (((t3289.1).f3)<((t3289.2).f3)))))):Option (Bool))>>=fun x3386=>if x3386=true then(some ((⟨0,0,0,0,0,0,[],[]⟩:THist),21)) else(if(t2694.2 != (0:Int))=true then(some ((⟨0,0,0,0,0,0,[],[]⟩:THist),5)) else(some ((⟨(t3289.1).f0,(t3289.1).f1,(t3289.1).f2,u64.wrap (((t3289.1).f3)-((t3289.2).f3)),u64.wrap (((t3289.1).f4)-((t3289.2).f4)),t2694.1,t3376.1,t3380.1⟩:THist),0)))
theorem f_r07_Sub.ok (a0:THist) (a1:THist) (r:THist×Int) (H:f_r07_Sub.f a0 a1=some r):Pv.Fn Tryz.prog 39 [.agg (aHist a0),.agg (aHist a1)] [] 0 (fun x o=>x = .tup [.agg [iV .i64 ((r.1).f0),iV .i64 ((r.1).f1),iV .i64 ((r.1).f2),iV .u64 ((r.1).f3),iV .u64 ((r.1).f4),iV .i64 ((r.1).f5),.own 0,.own 1],iV .i64 r.2]∧o=[(0,some (.row 2 89 (((r.1).f6).map eBucket))),(1,some (.row 2 89 (((r.1).f7).map eBucket)))]):=by
 unfold f_r07_Sub.f at H
 refine Fn.bodyK [0,1] Tryz.func39 rfl rfl (fun Γ hP hn => ?_)
 have hm:Tryz.prog.follows .mixedOrders=true:=by kernel_rfl
 replace hn:Γ.n=97:=hn
 refine sr hP hn hm [(0,.k 0),(1,.k 1),(2,.k 2)] [(2,.ptr 0 0 0),(3,.ptr 1 0 0),(4,.ptr 2 0 0)] [2,3,4] [(0,some (.box 32 (aHist a0))),(1,some (.box 32 (aHist a1))),(2,some (.box 32 [iV .i64 0,iV .i64 0,iV .i64 0,iV .u64 0,iV .u64 0,iV .i64 0,.none0,.none0]))] [0,1,2] [] (by kernel_rfl) trivial ?_
 refine sr hP hn hm [] [(6,iV .i64 a1.f5)] [2,3,4,6] [] [0,1,2] [] (by kernel_rfl) trivial ?_
 refine sr hP hn hm [] [(7,bV (a1.f5==(-9223372036854775808)))] [2,3,4,6,7] [] [0,1,2] [] (by kernel_rfl) trivial ?_
 refine AWp.seq ?_
 refine sr hP hn hm [] [(20,bV (a1.f5==(-9223372036854775808)))] [2,3,4,6,7,20] [] [0,1,2] [] (by kernel_rfl) trivial ?_
 obtain⟨o3389,e3390,H⟩:=bind_of H
 refine AWp.mono (Q:=fun e s=>(match (generalizing:=false) o3389 with | x2652=>e = .normal∧s=⟨[(2,.ptr 3 0 0),(3,.ptr 4 0 0),(4,.ptr 5 0 0),(6,iV .i64 x2652),(7,bV (a1.f5==(-9223372036854775808)))],[(3,some (.box 32 (aHist a0))),(4,some (.box 32 (aHist a1))),(5,some (.box 32 [iV .i64 0,iV .i64 0,iV .i64 0,iV .u64 0,iV .u64 0,iV .i64 0,.none0,.none0]))],0⟩)) (AWp.cv ?_) ?_
 ·replace H:=e3390;clear e3390
  refine AWp.cond (a1.f5==(-9223372036854775808)) (by kernel_rfl) (fun c2651 => ?_) (fun c2651 => ?_)
  ·replace H:=iT c2651 H
   refine rg hP hn hm [] [(6,iV .i64 (i64.wrap (a1.f5+(1:Int))))] [2,3,4,6,7] [] [0,1,2] [] (by kernel_rfl) trivial ?_
   obtain rfl:=Option.some.inj H
   exact lf [(0,3),(1,4),(2,5)] [] [] (by kernel_rfl) ⟨rfl,rfl⟩
  ·replace H:=iF c2651 H
   refine AWp.skip ?_
   obtain rfl:=Option.some.inj H
   exact lf [(0,3),(1,4),(2,5)] [] [] (by kernel_rfl) ⟨rfl,rfl⟩
 ·obtain⟨x2652,rfl⟩:∃ z,z=o3389:=⟨_,rfl⟩
  rintro e s ⟨rfl,rfl⟩
  refine sr hP hn hm [(4,.app 6 ([a0.f5,i64.wrap (0-x2652)].map (encInt .i64)))] [(8,.own 6)] [2,3,4,7,8] [(6,some (.row 1 2 ([a0.f5,i64.wrap (0-x2652)].map (encInt .i64))))] [3,4,5,6] [[a0.f5,i64.wrap (0-x2652)].map (encInt .i64)=[[iI .i64 a0.f5],[iI .i64 (i64.wrap (0-x2652))]]] (by kernel_rfl) ⟨by exact rfl,trivial⟩ ?_
  refine AWp.seq ?_
  refine sr hP hn hm [] [(28,bV (a1.f5==(-9223372036854775808)))] [2,3,4,8,28] [] [3,4,5,6] [] (by kernel_rfl) trivial ?_
  obtain⟨o3391,e3392,H⟩:=bind_of H
  refine AWp.mono (Q:=fun e s=>(match (generalizing:=false) o3391 with | x2656=>e = .normal∧s=⟨[(2,.ptr 9 0 0),(3,.ptr 10 0 0),(4,.ptr 11 0 0),(8,.own 12)],[(9,some (.box 32 (aHist a0))),(10,some (.box 32 (aHist a1))),(11,some (.box 32 [iV .i64 0,iV .i64 0,iV .i64 0,iV .u64 0,iV .u64 0,iV .i64 0,.none0,.none0])),(12,some (.row 1 2 (x2656.map (encInt .i64))))],0⟩)) (AWp.cv ?_) ?_
  ·replace H:=e3392;clear e3392
   refine AWp.cond (a1.f5==(-9223372036854775808)) (by kernel_rfl) (fun c2653 => ?_) (fun c2653 => ?_)
   ·replace H:=iT c2653 H
    obtain⟨c2655,H⟩:=chk_of H
    refine rg hP hn hm [(1,.app 7 ([1].map (encInt .i64))),(2,.app 8 (([a0.f5,i64.wrap (0-x2652)]++[1]).map (encInt .i64)))] [(8,.own 8)] [2,3,4,8] [(8,some (.row 1 2 (([a0.f5,i64.wrap (0-x2652)]++[1]).map (encInt .i64))))] [3,4,5,8] [[1].map (encInt .i64)=[[iI .i64 1]],([a0.f5,i64.wrap (0-x2652)]++[1]).map (encInt .i64)=([a0.f5,i64.wrap (0-x2652)].map (encInt .i64))++([1].map (encInt .i64)),∀ c∈([1].map (encInt .i64)),c.length=1,∀ c∈([1].map (encInt .i64)),leaves (c.map .im)=true,(([a0.f5,i64.wrap (0-x2652)].map (encInt .i64)).length+([1].map (encInt .i64)).length)*8≤140737488355328] (by kernel_rfl) ⟨by exact rfl,by simp,by exact all_len _ _ _ (fun _=>rfl),by exact all_leaf _ _ (fun _=>rfl),by simpa using c2655,trivial⟩ ?_
    obtain rfl:=Option.some.inj H
    exact lf [(3,9),(4,10),(5,11),(8,12)] [] [] (by kernel_rfl) ⟨rfl,rfl⟩
   ·replace H:=iF c2653 H
    refine AWp.skip ?_
    obtain rfl:=Option.some.inj H
    exact lf [(3,9),(4,10),(5,11),(6,12)] [] [] (by kernel_rfl) ⟨rfl,rfl⟩
  ·obtain⟨x2656,rfl⟩:∃ z,z=o3391:=⟨_,rfl⟩
   rintro e s ⟨rfl,rfl⟩
   obtain⟨t2694,e2695,H⟩:=bind_of H
   refine sr hP hn hm [(1,.call [] [] [12] [] 0 (.tup [iV .i64 t2694.1,iV .i64 t2694.2]) [])] [(9,iV .i64 t2694.1),(10,iV .i64 t2694.2)] [2,3,4,9,10] [] [9,10,11] [_,_] (by kernel_rfl) ⟨Tryz.call64,f_r01_AddInt.ok x2656 t2694 e2695,trivial⟩ ?_
   obtain⟨t3289,e3290,H⟩:=bind_of H
   refine sr hP hn hm [(2,.call [] [] [] [] 0 (.tup [.agg (aHist (t3289.1)),.agg (aHist (t3289.2))]) [])] [] [2,3,4,9,10] [(9,some (.box 32 (aHist (t3289.1)))),(10,some (.box 32 (aHist (t3289.2))))] [9,10,11] [_,_] (by kernel_rfl) ⟨Tryz.call65,f_r07_Alike.ok a0 a1 t3289 e3290,trivial⟩ ?_
   obtain⟨t3376,e3377,H⟩:=bind_of H
   refine sr hP hn hm [(4,.call [] [(0,13)] [] [13] 0 (.tup [.own 0,bV t3376.2]) [(0,some (.row 2 89 (t3376.1.map eBucket)))])] [(11,.own 13),(12,bV t3376.2)] [2,3,4,9,10,11,12] [(13,some (.row 2 89 (t3376.1.map eBucket)))] [9,10,11,13] [_,_] (by kernel_rfl) ⟨Tryz.call66,f_r07_off.ok ((t3289.1).f6) ((t3289.2).f6) t3376 e3377,trivial⟩ ?_
   obtain⟨t3380,e3381,H⟩:=bind_of H
   refine sr hP hn hm [(4,.call [] [(0,14)] [] [14] 0 (.tup [.own 0,bV t3380.2]) [(0,some (.row 2 89 (t3380.1.map eBucket)))])] [(13,.own 14),(14,bV t3380.2)] [2,3,4,9,10,11,12,13,14] [(14,some (.row 2 89 (t3380.1.map eBucket)))] [9,10,11,13,14] [_,_] (by kernel_rfl) ⟨Tryz.call66,f_r07_off.ok ((t3289.1).f7) ((t3289.2).f7) t3380 e3381,trivial⟩ ?_
   refine AWp.seq ?_
   refine AWp.seq ?_
   obtain⟨o3393,e3394,H⟩:=bind_of H
   refine AWp.mono (Q:=fun e s=>(match (generalizing:=false) o3393 with | x3386=>e = .normal∧s=⟨[(2,.ptr 15 0 0),(3,.ptr 16 0 0),(4,.ptr 17 0 0),(9,iV .i64 t2694.1),(10,iV .i64 t2694.2),(11,.own 18),(13,.own 19),(71,bV x3386)],[(15,some (.box 32 (aHist (t3289.1)))),(16,some (.box 32 (aHist (t3289.2)))),(17,some (.box 32 [iV .i64 0,iV .i64 0,iV .i64 0,iV .u64 0,iV .u64 0,iV .i64 0,.none0,.none0])),(18,some (.row 2 89 (t3376.1.map eBucket))),(19,some (.row 2 89 (t3380.1.map eBucket)))],0⟩)) (AWp.cv ?_) ?_
   ·replace H:=e3394;clear e3394
    rcases Bool.eq_false_or_eq_true (!t3376.2) with c3384 | c3384
    ·replace H:=iT c3384 H
     refine rg hP hn hm [(2,.b true)] [(71,bV true)] [2,3,4,9,10,11,13,71] [] [9,10,11,13,14] [_] (by kernel_rfl) ⟨c3384,trivial⟩ ?_
     obtain rfl:=Option.some.inj H
     exact lf [(9,15),(10,16),(11,17),(13,18),(14,19)] [] [] (by kernel_rfl) ⟨rfl,rfl⟩
    ·replace H:=iF c3384 H
     rcases Bool.eq_false_or_eq_true (!t3380.2) with c3385 | c3385
     ·replace H:=iT c3385 H
      refine rg hP hn hm [(2,.b false),(6,.b true)] [(71,bV true)] [2,3,4,9,10,11,13,71] [] [9,10,11,13,14] [_,_] (by kernel_rfl) ⟨c3384,c3385,trivial⟩ ?_
      obtain rfl:=Option.some.inj H
      exact lf [(9,15),(10,16),(11,17),(13,18),(14,19)] [] [] (by kernel_rfl) ⟨rfl,rfl⟩
     ·replace H:=iF c3385 H
      refine rg hP hn hm [(2,.b false),(6,.b false)] [(71,bV (decide (((t3289.1).f3)<((t3289.2).f3))))] [2,3,4,9,10,11,13,71] [] [9,10,11,13,14] [_,_] (by kernel_rfl) ⟨c3384,c3385,trivial⟩ ?_
      obtain rfl:=Option.some.inj H
      exact lf [(9,15),(10,16),(11,17),(13,18),(14,19)] [] [] (by kernel_rfl) ⟨rfl,rfl⟩
   ·obtain⟨x3386,rfl⟩:∃ z,z=o3393:=⟨_,rfl⟩
    rintro e s ⟨rfl,rfl⟩
    refine AWp.cond x3386 (by kernel_rfl) (fun c3387 => ?_) (fun c3387 => ?_)
    ·replace H:=iT c3387 H
     refine sr hP hn hm [] [(5,iV .i64 21)] [4,5] [] [17] [] (by kernel_rfl) trivial ?_
     refine AWp.conv (inv:=[(17,2)]) (vk:=[]) (e0:=[0,1]) (t:=⟨[(4,.ptr 2 0 0),(5,iV .i64 21)],[(0,some (.row 2 89 ((((⟨0,0,0,0,0,0,[],[]⟩:THist)).f6).map eBucket))),(1,some (.row 2 89 ((((⟨0,0,0,0,0,0,[],[]⟩:THist)).f7).map eBucket))),(2,some (.box 32 [iV .i64 (((⟨0,0,0,0,0,0,[],[]⟩:THist)).f0),iV .i64 (((⟨0,0,0,0,0,0,[],[]⟩:THist)).f1),iV .i64 (((⟨0,0,0,0,0,0,[],[]⟩:THist)).f2),iV .u64 (((⟨0,0,0,0,0,0,[],[]⟩:THist)).f3),iV .u64 (((⟨0,0,0,0,0,0,[],[]⟩:THist)).f4),iV .i64 (((⟨0,0,0,0,0,0,[],[]⟩:THist)).f5),.own 0,.own 1]))],0⟩) (by kernel_rfl) ?_
     refine AWp.ret ?_
     obtain rfl:=Option.some.inj H
     exact rl (.inl rfl) rfl (by kernel_rfl) (by kernel_rfl)
    ·replace H:=iF c3387 H
     refine AWp.skip ?_
     refine AWp.seq ?_
     refine sr hP hn hm [] [(74,bV (t2694.2 != (0:Int)))] [2,3,4,9,11,13,74] [] [15,16,17,18,19] [] (by kernel_rfl) trivial ?_
     refine AWp.cond (t2694.2 != (0:Int)) (by kernel_rfl) (fun c3388 => ?_) (fun c3388 => ?_)
     ·replace H:=iT c3388 H
      refine sr hP hn hm [] [(5,iV .i64 5)] [4,5] [] [17] [] (by kernel_rfl) trivial ?_
      refine AWp.conv (inv:=[(17,2)]) (vk:=[]) (e0:=[0,1]) (t:=⟨[(4,.ptr 2 0 0),(5,iV .i64 5)],[(0,some (.row 2 89 ((((⟨0,0,0,0,0,0,[],[]⟩:THist)).f6).map eBucket))),(1,some (.row 2 89 ((((⟨0,0,0,0,0,0,[],[]⟩:THist)).f7).map eBucket))),(2,some (.box 32 [iV .i64 (((⟨0,0,0,0,0,0,[],[]⟩:THist)).f0),iV .i64 (((⟨0,0,0,0,0,0,[],[]⟩:THist)).f1),iV .i64 (((⟨0,0,0,0,0,0,[],[]⟩:THist)).f2),iV .u64 (((⟨0,0,0,0,0,0,[],[]⟩:THist)).f3),iV .u64 (((⟨0,0,0,0,0,0,[],[]⟩:THist)).f4),iV .i64 (((⟨0,0,0,0,0,0,[],[]⟩:THist)).f5),.own 0,.own 1]))],0⟩) (by kernel_rfl) ?_
      refine AWp.ret ?_
      obtain rfl:=Option.some.inj H
      exact rl (.inl rfl) rfl (by kernel_rfl) (by kernel_rfl)
     ·replace H:=iF c3388 H
      refine AWp.skip ?_
      refine sr hP hn hm [(20,.k 20)] [(15,.ptr 20 0 0)] [4,15] [(20,some (.box 32 [iV .i64 ((t3289.1).f0),iV .i64 ((t3289.1).f1),iV .i64 ((t3289.1).f2),iV .u64 (u64.wrap (((t3289.1).f3)-((t3289.2).f3))),iV .u64 (u64.wrap (((t3289.1).f4)-((t3289.2).f4))),iV .i64 t2694.1,.own 18,.own 19]))] [17,18,19,20] [] (by kernel_rfl) trivial ?_
      refine sr hP hn hm [] [(5,iV .i64 0)] [4,5] [(17,some (.box 32 [iV .i64 ((t3289.1).f0),iV .i64 ((t3289.1).f1),iV .i64 ((t3289.1).f2),iV .u64 (u64.wrap (((t3289.1).f3)-((t3289.2).f3))),iV .u64 (u64.wrap (((t3289.1).f4)-((t3289.2).f4))),iV .i64 t2694.1,.own 18,.own 19]))] [17,18,19] [] (by kernel_rfl) trivial ?_
      refine AWp.conv (inv:=[(17,2),(18,0),(19,1)]) (vk:=[]) (e0:=[]) (t:=⟨[(4,.ptr 2 0 0),(5,iV .i64 0)],[(0,some (.row 2 89 ((((⟨(t3289.1).f0,(t3289.1).f1,(t3289.1).f2,u64.wrap (((t3289.1).f3)-((t3289.2).f3)),u64.wrap (((t3289.1).f4)-((t3289.2).f4)),t2694.1,t3376.1,t3380.1⟩:THist)).f6).map eBucket))),(1,some (.row 2 89 ((((⟨(t3289.1).f0,(t3289.1).f1,(t3289.1).f2,u64.wrap (((t3289.1).f3)-((t3289.2).f3)),u64.wrap (((t3289.1).f4)-((t3289.2).f4)),t2694.1,t3376.1,t3380.1⟩:THist)).f7).map eBucket))),(2,some (.box 32 [iV .i64 (((⟨(t3289.1).f0,(t3289.1).f1,(t3289.1).f2,u64.wrap (((t3289.1).f3)-((t3289.2).f3)),u64.wrap (((t3289.1).f4)-((t3289.2).f4)),t2694.1,t3376.1,t3380.1⟩:THist)).f0),iV .i64 (((⟨(t3289.1).f0,(t3289.1).f1,(t3289.1).f2,u64.wrap (((t3289.1).f3)-((t3289.2).f3)),u64.wrap (((t3289.1).f4)-((t3289.2).f4)),t2694.1,t3376.1,t3380.1⟩:THist)).f1),iV .i64 (((⟨(t3289.1).f0,(t3289.1).f1,(t3289.1).f2,u64.wrap (((t3289.1).f3)-((t3289.2).f3)),u64.wrap (((t3289.1).f4)-((t3289.2).f4)),t2694.1,t3376.1,t3380.1⟩:THist)).f2),iV .u64 (((⟨(t3289.1).f0,(t3289.1).f1,(t3289.1).f2,u64.wrap (((t3289.1).f3)-((t3289.2).f3)),u64.wrap (((t3289.1).f4)-((t3289.2).f4)),t2694.1,t3376.1,t3380.1⟩:THist)).f3),iV .u64 (((⟨(t3289.1).f0,(t3289.1).f1,(t3289.1).f2,u64.wrap (((t3289.1).f3)-((t3289.2).f3)),u64.wrap (((t3289.1).f4)-((t3289.2).f4)),t2694.1,t3376.1,t3380.1⟩:THist)).f4),iV .i64 (((⟨(t3289.1).f0,(t3289.1).f1,(t3289.1).f2,u64.wrap (((t3289.1).f3)-((t3289.2).f3)),u64.wrap (((t3289.1).f4)-((t3289.2).f4)),t2694.1,t3376.1,t3380.1⟩:THist)).f5),.own 0,.own 1]))],0⟩) (by kernel_rfl) ?_
      refine AWp.ret ?_
      obtain rfl:=Option.some.inj H
      exact rl (.inl rfl) rfl (by kernel_rfl) (by kernel_rfl)
def f_r07_Add.f (a0:THist) (a1:THist):Option (THist×Int):=(f_r01_AddInt.f [a0.f5,a1.f5])>>=fun t3417=>(f_r07_Alike.f a0 a1)>>=fun t3421=>(f_r01_Add.f [(t3421.1).f3,(t3421.2).f3])>>=fun t3425=>(f_r01_Add.f [(t3421.1).f4,(t3421.2).f4])>>=fun t3429=>((if(t3417.2 != (0:Int))=true then(some true) else(if(t3425.2 != (0:Int))=true then(some true) else(some (t3429.2 != (0:Int))))):Option (Bool))>>=fun x3435=>if x3435=true then(some ((⟨0,0,0,0,0,0,[],[]⟩:THist),5)) else(((if(decide (((t3421.2).f0)>((t3421.1).f0)))=true then(some ((t3421.2).f0)) else(some ((t3421.1).f0))):Option (Int))>>=fun x3438=>(chk ((([]:List TBucket).length+((t3421.1).f6).length)*16≤140737488355328))>>=fun _=>(chk (((([]:List TBucket)++((t3421.1).f6)).length+((t3421.2).f6).length)*16≤140737488355328))>>=fun _=>(f_r05_Tidy.f ((([]:List TBucket)++((t3421.1).f6))++((t3421.2).f6)))>>=fun t3445=>(chk ((([]:List TBucket).length+((t3421.1).f7).length)*16≤140737488355328))>>=fun _=>(chk (((([]:List TBucket)++((t3421.1).f7)).length+((t3421.2).f7).length)*16≤140737488355328))>>=fun _=>(f_r05_Tidy.f ((([]:List TBucket)++((t3421.1).f7))++((t3421.2).f7)))>>=fun t3453=>((if(decide ((t3445.1.length:Int)>(512:Int)))=true then(some true) else(some (decide ((t3453.1.length:Int)>(512:Int))))):Option (Bool))>>=fun x3457=>if x3457=true then(some ((⟨0,0,0,0,0,0,[],[]⟩:THist),9)) else(some ((⟨x3438,(t3421.1).f1,(t3421.1).f2,t3425.1,t3429.1,t3417.1,t3445.1,t3453.1⟩:THist),0)))
theorem f_r07_Add.ok (a0:THist) (a1:THist) (r:THist×Int) (H:f_r07_Add.f a0 a1=some r):Pv.Fn Tryz.prog 40 [.agg (aHist a0),.agg (aHist a1)] [] 0 (fun x o=>x = .tup [.agg [iV .i64 ((r.1).f0),iV .i64 ((r.1).f1),iV .i64 ((r.1).f2),iV .u64 ((r.1).f3),iV .u64 ((r.1).f4),iV .i64 ((r.1).f5),.own 0,.own 1],iV .i64 r.2]∧o=[(0,some (.row 2 89 (((r.1).f6).map eBucket))),(1,some (.row 2 89 (((r.1).f7).map eBucket)))]):=by
 unfold f_r07_Add.f at H
 refine Fn.bodyK [0,1] Tryz.func40 rfl rfl (fun Γ hP hn => ?_)
 have hm:Tryz.prog.follows .mixedOrders=true:=by kernel_rfl
 replace hn:Γ.n=111:=hn
 refine sr hP hn hm [(0,.k 0),(1,.k 1),(2,.k 2)] [(2,.ptr 0 0 0),(3,.ptr 1 0 0),(4,.ptr 2 0 0)] [2,3,4] [(0,some (.box 32 (aHist a0))),(1,some (.box 32 (aHist a1))),(2,some (.box 32 [iV .i64 0,iV .i64 0,iV .i64 0,iV .u64 0,iV .u64 0,iV .i64 0,.none0,.none0]))] [0,1,2] [] (by kernel_rfl) trivial ?_
 obtain⟨t3417,e3418,H⟩:=bind_of H
 refine sr hP hn hm [(4,.app 3 ([a0.f5,a1.f5].map (encInt .i64))),(5,.call [] [] [3] [] 0 (.tup [iV .i64 t3417.1,iV .i64 t3417.2]) [])] [(6,iV .i64 t3417.1),(7,iV .i64 t3417.2)] [2,3,4,6,7] [] [0,1,2] [[a0.f5,a1.f5].map (encInt .i64)=[[iI .i64 a0.f5],[iI .i64 a1.f5]],_,_] (by kernel_rfl) ⟨by exact rfl,Tryz.call64,f_r01_AddInt.ok [a0.f5,a1.f5] t3417 e3418,trivial⟩ ?_
 obtain⟨t3421,e3422,H⟩:=bind_of H
 refine sr hP hn hm [(2,.call [] [] [] [] 0 (.tup [.agg (aHist (t3421.1)),.agg (aHist (t3421.2))]) [])] [] [2,3,4,6,7] [(0,some (.box 32 (aHist (t3421.1)))),(1,some (.box 32 (aHist (t3421.2))))] [0,1,2] [_,_] (by kernel_rfl) ⟨Tryz.call65,f_r07_Alike.ok a0 a1 t3421 e3422,trivial⟩ ?_
 obtain⟨t3425,e3426,H⟩:=bind_of H
 refine sr hP hn hm [(4,.app 4 ([(t3421.1).f3,(t3421.2).f3].map (encInt .u64))),(5,.call [] [] [4] [] 0 (.tup [iV .u64 t3425.1,iV .i64 t3425.2]) [])] [(8,iV .u64 t3425.1),(9,iV .i64 t3425.2)] [2,3,4,6,7,8,9] [] [0,1,2] [[(t3421.1).f3,(t3421.2).f3].map (encInt .u64)=[[iI .u64 ((t3421.1).f3)],[iI .u64 ((t3421.2).f3)]],_,_] (by kernel_rfl) ⟨by exact rfl,Tryz.call56,f_r01_Add.ok [(t3421.1).f3,(t3421.2).f3] t3425 e3426,trivial⟩ ?_
 obtain⟨t3429,e3430,H⟩:=bind_of H
 refine sr hP hn hm [(4,.app 5 ([(t3421.1).f4,(t3421.2).f4].map (encInt .u64))),(5,.call [] [] [5] [] 0 (.tup [iV .u64 t3429.1,iV .i64 t3429.2]) [])] [(10,iV .u64 t3429.1),(11,iV .i64 t3429.2)] [2,3,4,6,7,8,9,10,11] [] [0,1,2] [[(t3421.1).f4,(t3421.2).f4].map (encInt .u64)=[[iI .u64 ((t3421.1).f4)],[iI .u64 ((t3421.2).f4)]],_,_] (by kernel_rfl) ⟨by exact rfl,Tryz.call56,f_r01_Add.ok [(t3421.1).f4,(t3421.2).f4] t3429 e3430,trivial⟩ ?_
 refine AWp.seq ?_
 refine AWp.seq ?_
 obtain⟨o3459,e3460,H⟩:=bind_of H
 refine AWp.mono (Q:=fun e s=>(match (generalizing:=false) o3459 with | x3435=>e = .normal∧s=⟨[(2,.ptr 6 0 0),(3,.ptr 7 0 0),(4,.ptr 8 0 0),(6,iV .i64 t3417.1),(8,iV .u64 t3425.1),(10,iV .u64 t3429.1),(55,bV x3435)],[(6,some (.box 32 (aHist (t3421.1)))),(7,some (.box 32 (aHist (t3421.2)))),(8,some (.box 32 [iV .i64 0,iV .i64 0,iV .i64 0,iV .u64 0,iV .u64 0,iV .i64 0,.none0,.none0]))],0⟩)) (AWp.cv ?_) ?_
 ·replace H:=e3460;clear e3460
  rcases Bool.eq_false_or_eq_true (t3417.2 != (0:Int)) with c3433 | c3433
  ·replace H:=iT c3433 H
   refine rg hP hn hm [(2,.b true)] [(55,bV true)] [2,3,4,6,8,10,55] [] [0,1,2] [_] (by kernel_rfl) ⟨c3433,trivial⟩ ?_
   obtain rfl:=Option.some.inj H
   exact lf [(0,6),(1,7),(2,8)] [] [] (by kernel_rfl) ⟨rfl,rfl⟩
  ·replace H:=iF c3433 H
   rcases Bool.eq_false_or_eq_true (t3425.2 != (0:Int)) with c3434 | c3434
   ·replace H:=iT c3434 H
    refine rg hP hn hm [(2,.b false),(6,.b true)] [(55,bV true)] [2,3,4,6,8,10,55] [] [0,1,2] [_,_] (by kernel_rfl) ⟨c3433,c3434,trivial⟩ ?_
    obtain rfl:=Option.some.inj H
    exact lf [(0,6),(1,7),(2,8)] [] [] (by kernel_rfl) ⟨rfl,rfl⟩
   ·replace H:=iF c3434 H
    refine rg hP hn hm [(2,.b false),(6,.b false)] [(55,bV (t3429.2 != (0:Int)))] [2,3,4,6,8,10,55] [] [0,1,2] [_,_] (by kernel_rfl) ⟨c3433,c3434,trivial⟩ ?_
    obtain rfl:=Option.some.inj H
    exact lf [(0,6),(1,7),(2,8)] [] [] (by kernel_rfl) ⟨rfl,rfl⟩
 ·obtain⟨x3435,rfl⟩:∃ z,z=o3459:=⟨_,rfl⟩
  rintro e s ⟨rfl,rfl⟩
  refine AWp.cond x3435 (by kernel_rfl) (fun c3436 => ?_) (fun c3436 => ?_)
  ·replace H:=iT c3436 H
   refine sr hP hn hm [] [(5,iV .i64 5)] [4,5] [] [8] [] (by kernel_rfl) trivial ?_
   refine AWp.conv (inv:=[(8,2)]) (vk:=[]) (e0:=[0,1]) (t:=⟨[(4,.ptr 2 0 0),(5,iV .i64 5)],[(0,some (.row 2 89 ((((⟨0,0,0,0,0,0,[],[]⟩:THist)).f6).map eBucket))),(1,some (.row 2 89 ((((⟨0,0,0,0,0,0,[],[]⟩:THist)).f7).map eBucket))),(2,some (.box 32 [iV .i64 (((⟨0,0,0,0,0,0,[],[]⟩:THist)).f0),iV .i64 (((⟨0,0,0,0,0,0,[],[]⟩:THist)).f1),iV .i64 (((⟨0,0,0,0,0,0,[],[]⟩:THist)).f2),iV .u64 (((⟨0,0,0,0,0,0,[],[]⟩:THist)).f3),iV .u64 (((⟨0,0,0,0,0,0,[],[]⟩:THist)).f4),iV .i64 (((⟨0,0,0,0,0,0,[],[]⟩:THist)).f5),.own 0,.own 1]))],0⟩) (by kernel_rfl) ?_
   refine AWp.ret ?_
   obtain rfl:=Option.some.inj H
   exact rl (.inl rfl) rfl (by kernel_rfl) (by kernel_rfl)
  ·replace H:=iF c3436 H
   refine AWp.skip ?_
   refine sr hP hn hm [(10,.k 9)] [(12,.ptr 9 0 0)] [2,3,4,12] [(9,some (.box 32 [iV .i64 ((t3421.1).f0),iV .i64 ((t3421.1).f1),iV .i64 ((t3421.1).f2),iV .u64 t3425.1,iV .u64 t3429.1,iV .i64 t3417.1,.none0,.none0]))] [6,7,8,9] [] (by kernel_rfl) trivial ?_
   refine AWp.seq ?_
   refine sr hP hn hm [] [(71,bV (decide (((t3421.2).f0)>((t3421.1).f0))))] [2,3,4,12,71] [] [6,7,8,9] [] (by kernel_rfl) trivial ?_
   obtain⟨o3461,e3462,H⟩:=bind_of H
   refine AWp.mono (Q:=fun e s=>(match (generalizing:=false) o3461 with | x3438=>e = .normal∧s=⟨[(2,.ptr 10 0 0),(3,.ptr 11 0 0),(4,.ptr 12 0 0),(12,.ptr 13 0 0)],[(10,some (.box 32 (aHist (t3421.1)))),(11,some (.box 32 (aHist (t3421.2)))),(12,some (.box 32 [iV .i64 0,iV .i64 0,iV .i64 0,iV .u64 0,iV .u64 0,iV .i64 0,.none0,.none0])),(13,some (.box 32 [iV .i64 x3438,iV .i64 ((t3421.1).f1),iV .i64 ((t3421.1).f2),iV .u64 t3425.1,iV .u64 t3429.1,iV .i64 t3417.1,.none0,.none0]))],0⟩)) (AWp.cv ?_) ?_
   ·replace H:=e3462;clear e3462
    refine AWp.cond (decide (((t3421.2).f0)>((t3421.1).f0))) (by kernel_rfl) (fun c3437 => ?_) (fun c3437 => ?_)
    ·replace H:=iT c3437 H
     refine rg hP hn hm [] [] [2,3,4,12] [(9,some (.box 32 [iV .i64 ((t3421.2).f0),iV .i64 ((t3421.1).f1),iV .i64 ((t3421.1).f2),iV .u64 t3425.1,iV .u64 t3429.1,iV .i64 t3417.1,.none0,.none0]))] [6,7,8,9] [] (by kernel_rfl) trivial ?_
     obtain rfl:=Option.some.inj H
     exact lf [(6,10),(7,11),(8,12),(9,13)] [] [] (by kernel_rfl) ⟨rfl,rfl⟩
    ·replace H:=iF c3437 H
     refine AWp.skip ?_
     obtain rfl:=Option.some.inj H
     exact lf [(6,10),(7,11),(8,12),(9,13)] [] [] (by kernel_rfl) ⟨rfl,rfl⟩
   ·obtain⟨x3438,rfl⟩:∃ z,z=o3461:=⟨_,rfl⟩
    rintro e s ⟨rfl,rfl⟩
    obtain⟨c3443,H⟩:=chk_of H
    obtain⟨c3444,H⟩:=chk_of H
    obtain⟨t3445,e3446,H⟩:=bind_of H
    refine sr hP hn hm [(0,.app 14 ([].map eBucket)),(3,.app 15 ((([]:List TBucket)++((t3421.1).f6)).map eBucket)),(6,.app 16 (((([]:List TBucket)++((t3421.1).f6))++((t3421.2).f6)).map eBucket)),(7,.call [] [(0,17)] [16] [17] 0 (.tup [.own 0,iV .i64 t3445.2]) [(0,some (.row 2 89 (t3445.1.map eBucket)))])] [] [2,3,4,12] [(13,some (.box 32 [iV .i64 x3438,iV .i64 ((t3421.1).f1),iV .i64 ((t3421.1).f2),iV .u64 t3425.1,iV .u64 t3429.1,iV .i64 t3417.1,.own 17,.none0])),(17,some (.row 2 89 (t3445.1.map eBucket)))] [10,11,12,13,17] [[].map eBucket=[],(([]:List TBucket)++((t3421.1).f6)).map eBucket=(([]:List TBucket).map eBucket)++(((t3421.1).f6).map eBucket),∀ c∈(((t3421.1).f6).map eBucket),c.length=2,∀ c∈(((t3421.1).f6).map eBucket),leaves (c.map .im)=true,((([]:List TBucket).map eBucket).length+(((t3421.1).f6).map eBucket).length)*16≤140737488355328,((([]:List TBucket)++((t3421.1).f6))++((t3421.2).f6)).map eBucket=((([]:List TBucket)++((t3421.1).f6)).map eBucket)++(((t3421.2).f6).map eBucket),∀ c∈(((t3421.2).f6).map eBucket),c.length=2,∀ c∈(((t3421.2).f6).map eBucket),leaves (c.map .im)=true,(((([]:List TBucket)++((t3421.1).f6)).map eBucket).length+(((t3421.2).f6).map eBucket).length)*16≤140737488355328,_,_] (by kernel_rfl) ⟨by exact rfl,by simp,by exact all_len _ _ _ (fun _=>rfl),by exact all_leaf _ _ (fun _=>rfl),by simpa using c3443,by simp,by exact all_len _ _ _ (fun _=>rfl),by exact all_leaf _ _ (fun _=>rfl),by simpa using c3444,Tryz.call67,f_r05_Tidy.ok ((([]:List TBucket)++((t3421.1).f6))++((t3421.2).f6)) t3445 e3446,trivial⟩ ?_
    obtain⟨c3451,H⟩:=chk_of H
    obtain⟨c3452,H⟩:=chk_of H
    obtain⟨t3453,e3454,H⟩:=bind_of H
    refine sr hP hn hm [(0,.app 18 ([].map eBucket)),(3,.app 19 ((([]:List TBucket)++((t3421.1).f7)).map eBucket)),(6,.app 20 (((([]:List TBucket)++((t3421.1).f7))++((t3421.2).f7)).map eBucket)),(7,.call [] [(0,21)] [20] [21] 0 (.tup [.own 0,iV .i64 t3453.2]) [(0,some (.row 2 89 (t3453.1.map eBucket)))])] [] [4,12] [(13,some (.box 32 [iV .i64 x3438,iV .i64 ((t3421.1).f1),iV .i64 ((t3421.1).f2),iV .u64 t3425.1,iV .u64 t3429.1,iV .i64 t3417.1,.own 17,.own 21])),(21,some (.row 2 89 (t3453.1.map eBucket)))] [12,13,17,21] [[].map eBucket=[],(([]:List TBucket)++((t3421.1).f7)).map eBucket=(([]:List TBucket).map eBucket)++(((t3421.1).f7).map eBucket),∀ c∈(((t3421.1).f7).map eBucket),c.length=2,∀ c∈(((t3421.1).f7).map eBucket),leaves (c.map .im)=true,((([]:List TBucket).map eBucket).length+(((t3421.1).f7).map eBucket).length)*16≤140737488355328,((([]:List TBucket)++((t3421.1).f7))++((t3421.2).f7)).map eBucket=((([]:List TBucket)++((t3421.1).f7)).map eBucket)++(((t3421.2).f7).map eBucket),∀ c∈(((t3421.2).f7).map eBucket),c.length=2,∀ c∈(((t3421.2).f7).map eBucket),leaves (c.map .im)=true,(((([]:List TBucket)++((t3421.1).f7)).map eBucket).length+(((t3421.2).f7).map eBucket).length)*16≤140737488355328,_,_] (by kernel_rfl) ⟨by exact rfl,by simp,by exact all_len _ _ _ (fun _=>rfl),by exact all_leaf _ _ (fun _=>rfl),by simpa using c3451,by simp,by exact all_len _ _ _ (fun _=>rfl),by exact all_leaf _ _ (fun _=>rfl),by simpa using c3452,Tryz.call67,f_r05_Tidy.ok ((([]:List TBucket)++((t3421.1).f7))++((t3421.2).f7)) t3453 e3454,trivial⟩ ?_
    refine AWp.seq ?_
    refine AWp.seq ?_
    obtain⟨o3463,e3464,H⟩:=bind_of H
    refine AWp.mono (Q:=fun e s=>(match (generalizing:=false) o3463 with | x3457=>e = .normal∧s=⟨[(4,.ptr 22 0 0),(12,.ptr 23 0 0),(108,bV x3457)],[(22,some (.box 32 [iV .i64 0,iV .i64 0,iV .i64 0,iV .u64 0,iV .u64 0,iV .i64 0,.none0,.none0])),(23,some (.box 32 [iV .i64 x3438,iV .i64 ((t3421.1).f1),iV .i64 ((t3421.1).f2),iV .u64 t3425.1,iV .u64 t3429.1,iV .i64 t3417.1,.own 24,.own 25])),(24,some (.row 2 89 (t3445.1.map eBucket))),(25,some (.row 2 89 (t3453.1.map eBucket)))],0⟩)) (AWp.cv ?_) ?_
    ·replace H:=e3464;clear e3464
     rcases Bool.eq_false_or_eq_true (decide ((t3445.1.length:Int)>(512:Int))) with c3456 | c3456
     ·replace H:=iT c3456 H
      refine rg hP hn hm [(2,.any (iV .i64 (t3445.1.length:Int))),(4,.b true)] [(108,bV true)] [4,12,108] [] [12,13,17,21] [((t3445.1.map eBucket).length:Int)=(t3445.1.length:Int),_] (by kernel_rfl) ⟨by rw[len_map],c3456,trivial⟩ ?_
      obtain rfl:=Option.some.inj H
      exact lf [(12,22),(13,23),(17,24),(21,25)] [] [] (by kernel_rfl) ⟨rfl,rfl⟩
     ·replace H:=iF c3456 H
      refine rg hP hn hm [(2,.any (iV .i64 (t3445.1.length:Int))),(4,.b false),(7,.any (iV .i64 (t3453.1.length:Int)))] [(108,bV (decide ((t3453.1.length:Int)>(512:Int))))] [4,12,108] [] [12,13,17,21] [((t3445.1.map eBucket).length:Int)=(t3445.1.length:Int),_,((t3453.1.map eBucket).length:Int)=(t3453.1.length:Int)] (by kernel_rfl) ⟨by rw[len_map],c3456,by rw[len_map],trivial⟩ ?_
      obtain rfl:=Option.some.inj H
      exact lf [(12,22),(13,23),(17,24),(21,25)] [] [] (by kernel_rfl) ⟨rfl,rfl⟩
    ·obtain⟨x3457,rfl⟩:∃ z,z=o3463:=⟨_,rfl⟩
     rintro e s ⟨rfl,rfl⟩
     refine AWp.cond x3457 (by kernel_rfl) (fun c3458 => ?_) (fun c3458 => ?_)
     ·replace H:=iT c3458 H
      refine sr hP hn hm [] [(5,iV .i64 9)] [4,5] [] [22] [] (by kernel_rfl) trivial ?_
      refine AWp.conv (inv:=[(22,2)]) (vk:=[]) (e0:=[0,1]) (t:=⟨[(4,.ptr 2 0 0),(5,iV .i64 9)],[(0,some (.row 2 89 ((((⟨0,0,0,0,0,0,[],[]⟩:THist)).f6).map eBucket))),(1,some (.row 2 89 ((((⟨0,0,0,0,0,0,[],[]⟩:THist)).f7).map eBucket))),(2,some (.box 32 [iV .i64 (((⟨0,0,0,0,0,0,[],[]⟩:THist)).f0),iV .i64 (((⟨0,0,0,0,0,0,[],[]⟩:THist)).f1),iV .i64 (((⟨0,0,0,0,0,0,[],[]⟩:THist)).f2),iV .u64 (((⟨0,0,0,0,0,0,[],[]⟩:THist)).f3),iV .u64 (((⟨0,0,0,0,0,0,[],[]⟩:THist)).f4),iV .i64 (((⟨0,0,0,0,0,0,[],[]⟩:THist)).f5),.own 0,.own 1]))],0⟩) (by kernel_rfl) ?_
      refine AWp.ret ?_
      obtain rfl:=Option.some.inj H
      exact rl (.inl rfl) rfl (by kernel_rfl) (by kernel_rfl)
     ·replace H:=iF c3458 H
      refine AWp.skip ?_
      refine sr hP hn hm [] [(5,iV .i64 0)] [4,5] [(22,some (.box 32 [iV .i64 x3438,iV .i64 ((t3421.1).f1),iV .i64 ((t3421.1).f2),iV .u64 t3425.1,iV .u64 t3429.1,iV .i64 t3417.1,.own 24,.own 25]))] [22,24,25] [] (by kernel_rfl) trivial ?_
      refine AWp.conv (inv:=[(22,2),(24,0),(25,1)]) (vk:=[]) (e0:=[]) (t:=⟨[(4,.ptr 2 0 0),(5,iV .i64 0)],[(0,some (.row 2 89 ((((⟨x3438,(t3421.1).f1,(t3421.1).f2,t3425.1,t3429.1,t3417.1,t3445.1,t3453.1⟩:THist)).f6).map eBucket))),(1,some (.row 2 89 ((((⟨x3438,(t3421.1).f1,(t3421.1).f2,t3425.1,t3429.1,t3417.1,t3445.1,t3453.1⟩:THist)).f7).map eBucket))),(2,some (.box 32 [iV .i64 (((⟨x3438,(t3421.1).f1,(t3421.1).f2,t3425.1,t3429.1,t3417.1,t3445.1,t3453.1⟩:THist)).f0),iV .i64 (((⟨x3438,(t3421.1).f1,(t3421.1).f2,t3425.1,t3429.1,t3417.1,t3445.1,t3453.1⟩:THist)).f1),iV .i64 (((⟨x3438,(t3421.1).f1,(t3421.1).f2,t3425.1,t3429.1,t3417.1,t3445.1,t3453.1⟩:THist)).f2),iV .u64 (((⟨x3438,(t3421.1).f1,(t3421.1).f2,t3425.1,t3429.1,t3417.1,t3445.1,t3453.1⟩:THist)).f3),iV .u64 (((⟨x3438,(t3421.1).f1,(t3421.1).f2,t3425.1,t3429.1,t3417.1,t3445.1,t3453.1⟩:THist)).f4),iV .i64 (((⟨x3438,(t3421.1).f1,(t3421.1).f2,t3425.1,t3429.1,t3417.1,t3445.1,t3453.1⟩:THist)).f5),.own 0,.own 1]))],0⟩) (by kernel_rfl) ?_
      refine AWp.ret ?_
      obtain rfl:=Option.some.inj H
      exact rl (.inl rfl) rfl (by kernel_rfl) (by kernel_rfl)
def f_r07_Rise.l0 (a0:List THist) (x2629:Int):Option ((THist×Int) ⊕ Unit):=if(decide (x2629<(a0.length:Int)))=true then((at? a0 x2629)>>=fun b2634=>if(b2634.f0 != (0:Int))=true then(some (.inl ((⟨0,0,0,0,0,0,[],[]⟩:THist),25))) else(f_r07_Rise.l0 a0 (i64.wrap (x2629+(1:Int))))) else(some (.inr ()))
partial_fixpoint
def f_r07_Rise.l1 (a0:List THist) (v:Int×Int×Int×Int×Int×Int×(List TBucket)×(List TBucket)×Int):Option ((THist×Int) ⊕ (Int×Int×Int×Int×Int×Int×(List TBucket)×(List TBucket))):=match v with
 | (x3470,x3471,x3472,x3473,x3474,x3475,x3476,x3477,x3478)=>if(decide (x3478<(a0.length:Int)))=true then((at? a0 x3478)>>=fun b3488=>(at? a0 (i64.wrap (x3478-(1:Int))))>>=fun b3491=>(f_r07_Sub.f b3488 b3491)>>=fun t3494=>((if(t3494.2==(21:Int))=true then(some (.inr (b3488.f0,b3488.f1,b3488.f2,b3488.f3,b3488.f4,b3488.f5,b3488.f6,b3488.f7))) else(if(t3494.2 != (0:Int))=true then(some (.inl ((⟨0,0,0,0,0,0,[],[]⟩:THist),t3494.2))) else(some (.inr ((t3494.1).f0,(t3494.1).f1,(t3494.1).f2,(t3494.1).f3,(t3494.1).f4,(t3494.1).f5,(t3494.1).f6,(t3494.1).f7))))):Option ((THist×Int) ⊕ (Int×Int×Int×Int×Int×Int×(List TBucket)×(List TBucket))))>>=fun oo=>match oo with | .inl rr=>(some (.inl rr)) | .inr (x3498,x3499,x3500,x3501,x3502,x3503,x3504,x3505)=>((f_r07_Add.f (⟨x3470,x3471,x3472,x3473,x3474,x3475,x3476,x3477⟩:THist) (⟨x3498,x3499,x3500,x3501,x3502,x3503,x3504,x3505⟩:THist))>>=fun t3510=>if(t3510.2 != (0:Int))=true then(some (.inl ((⟨0,0,0,0,0,0,[],[]⟩:THist),t3510.2))) else(f_r07_Rise.l1 a0 ((t3510.1).f0,(t3510.1).f1,(t3510.1).f2,(t3510.1).f3,(t3510.1).f4,(t3510.1).f5,(t3510.1).f6,(t3510.1).f7,i64.wrap (x3478+(1:Int)))))) else(some (.inr (x3470,x3471,x3472,x3473,x3474,x3475,x3476,x3477)))
partial_fixpoint
def f_r07_Rise.f (a0:List THist):Option (THist×Int):=if(decide ((a0.length:Int)<(2:Int)))=true then(some ((⟨0,0,0,0,0,0,[],[]⟩:THist),30)) else((f_r07_Rise.l0 a0 0)>>=fun oo=>match oo with | .inl rr=>(some rr) | .inr _=>((at? a0 0)>>=fun b2641=>(f_r07_Rise.l1 a0 (0,b2641.f1,(-524288),0,0,0,[],[],1))>>=fun oo=>match oo with | .inl rr=>(some rr) | .inr (x3513,x3514,x3515,x3516,x3517,x3518,x3519,x3520)=>(some ((⟨x3513,x3514,x3515,x3516,x3517,x3518,x3519,x3520⟩:THist),0))))
theorem f_r07_Rise.ok (a0:List THist) (r:THist×Int) (H:f_r07_Rise.f a0=some r):Pv.Fn Tryz.prog 25 [.im (.row (a0.map eHist))] [] 0 (fun x o=>x = .tup [.agg [iV .i64 ((r.1).f0),iV .i64 ((r.1).f1),iV .i64 ((r.1).f2),iV .u64 ((r.1).f3),iV .u64 ((r.1).f4),iV .i64 ((r.1).f5),.own 0,.own 1],iV .i64 r.2]∧o=[(0,some (.row 2 89 (((r.1).f6).map eBucket))),(1,some (.row 2 89 (((r.1).f7).map eBucket)))]):=by
 unfold f_r07_Rise.f at H
 refine Fn.bodyK [0,1] Tryz.func25 rfl rfl (fun Γ hP hn => ?_)
 have hm:Tryz.prog.follows .mixedOrders=true:=by kernel_rfl
 replace hn:Γ.n=74:=hn
 refine sr hP hn hm [(0,.k 0)] [(2,.ptr 0 0 0)] [0,2] [(0,some (.box 32 [iV .i64 0,iV .i64 0,iV .i64 0,iV .u64 0,iV .u64 0,iV .i64 0,.none0,.none0]))] [0] [] (by kernel_rfl) trivial ?_
 refine AWp.seq ?_
 refine sr hP hn hm [(1,.any (iV .i64 (a0.length:Int)))] [(13,bV (decide ((a0.length:Int)<(2:Int))))] [0,2,13] [] [0] [((a0.map eHist).length:Int)=(a0.length:Int)] (by kernel_rfl) ⟨by rw[len_map],trivial⟩ ?_
 refine AWp.cond (decide ((a0.length:Int)<(2:Int))) (by kernel_rfl) (fun c2620 => ?_) (fun c2620 => ?_)
 ·replace H:=iT c2620 H
  refine sr hP hn hm [] [(3,iV .i64 30)] [2,3] [] [0] [] (by kernel_rfl) trivial ?_
  refine AWp.conv (inv:=[(0,2)]) (vk:=[]) (e0:=[0,1]) (t:=⟨[(2,.ptr 2 0 0),(3,iV .i64 30)],[(0,some (.row 2 89 ((((⟨0,0,0,0,0,0,[],[]⟩:THist)).f6).map eBucket))),(1,some (.row 2 89 ((((⟨0,0,0,0,0,0,[],[]⟩:THist)).f7).map eBucket))),(2,some (.box 32 [iV .i64 (((⟨0,0,0,0,0,0,[],[]⟩:THist)).f0),iV .i64 (((⟨0,0,0,0,0,0,[],[]⟩:THist)).f1),iV .i64 (((⟨0,0,0,0,0,0,[],[]⟩:THist)).f2),iV .u64 (((⟨0,0,0,0,0,0,[],[]⟩:THist)).f3),iV .u64 (((⟨0,0,0,0,0,0,[],[]⟩:THist)).f4),iV .i64 (((⟨0,0,0,0,0,0,[],[]⟩:THist)).f5),.own 0,.own 1]))],0⟩) (by kernel_rfl) ?_
  refine AWp.ret ?_
  obtain rfl:=Option.some.inj H
  exact rl (.inl rfl) rfl (by kernel_rfl) (by kernel_rfl)
 ·replace H:=iF c2620 H
  refine AWp.skip ?_
  refine AWp.seq ?_
  refine sr hP hn hm [] [(4,iV .i64 0)] [0,2,4] [] [0] [] (by kernel_rfl) trivial ?_
  refine AWp.block ?_
  obtain⟨o3521,e3522,H⟩:=bind_of H
  refine AWp.loop (LWp.conv (inv:=[(0,1)]) (vk:=[]) (e0:=[]) (t:=⟨[(0,.im (.row (a0.map eHist))),(2,.ptr 1 0 0),(4,iV .i64 0)],[(1,some (.box 32 [iV .i64 0,iV .i64 0,iV .i64 0,iV .u64 0,iV .u64 0,iV .i64 0,.none0,.none0]))],0⟩) (by kernel_rfl) ?_)
  refine LWp.mono (Q:=fun e s=>(match (generalizing:=false) o3521 with | .inl rr=>e = .ret∧s.floor=0∧resOf Tryz.prog Tryz.f25 s=some (.tup [.agg [iV .i64 ((rr.1).f0),iV .i64 ((rr.1).f1),iV .i64 ((rr.1).f2),iV .u64 ((rr.1).f3),iV .u64 ((rr.1).f4),iV .i64 ((rr.1).f5),.own 0,.own 1],iV .i64 rr.2])∧([(0,s.obj 0),(1,s.obj 1)]:List (Nat×Option MObj))=[(0,some (.row 2 89 (((rr.1).f6).map eBucket))),(1,some (.row 2 89 (((rr.1).f7).map eBucket)))] | .inr _=>e = .exit 0∧s=⟨[(0,.im (.row (a0.map eHist))),(2,.ptr 2 0 0)],[(2,some (.box 32 [iV .i64 0,iV .i64 0,iV .i64 0,iV .u64 0,iV .u64 0,iV .i64 0,.none0,.none0]))],0⟩)) (LWp.cv (withBody (fun body hbody => ?_))) ?_
  ·refine f_r07_Rise.l0.partial_correctness a0 (motive:=fun x2629 o3521=>LWp Γ body (fun e s=>∃ t,Cv Γ s t∧(match (generalizing:=false) o3521 with | .inl rr=>e = .ret∧t.floor=0∧resOf Tryz.prog Tryz.f25 t=some (.tup [.agg [iV .i64 ((rr.1).f0),iV .i64 ((rr.1).f1),iV .i64 ((rr.1).f2),iV .u64 ((rr.1).f3),iV .u64 ((rr.1).f4),iV .i64 ((rr.1).f5),.own 0,.own 1],iV .i64 rr.2])∧([(0,t.obj 0),(1,t.obj 1)]:List (Nat×Option MObj))=[(0,some (.row 2 89 (((rr.1).f6).map eBucket))),(1,some (.row 2 89 (((rr.1).f7).map eBucket)))] | .inr _=>e = .exit 0∧t=⟨[(0,.im (.row (a0.map eHist))),(2,.ptr 2 0 0)],[(2,some (.box 32 [iV .i64 0,iV .i64 0,iV .i64 0,iV .u64 0,iV .u64 0,iV .i64 0,.none0,.none0]))],0⟩)) ⟨[(0,.im (.row (a0.map eHist))),(2,.ptr 1 0 0),(4,iV .i64 x2629)],[(1,some (.box 32 [iV .i64 0,iV .i64 0,iV .i64 0,iV .u64 0,iV .u64 0,iV .i64 0,.none0,.none0]))],0⟩) ?_ _ _ e3522
   clear H e3522 o3521;intro self ih x2629 o3521 H
   subst hbody
   refine LWp.round ?_
   refine AWp.seq ?_
   refine sr hP hn hm [(2,.any (iV .i64 (a0.length:Int)))] [(18,bV (decide (x2629<(a0.length:Int))))] [0,2,4,18] [] [1] [((a0.map eHist).length:Int)=(a0.length:Int)] (by kernel_rfl) ⟨by rw[len_map],trivial⟩ ?_
   refine AWp.cond (decide (x2629<(a0.length:Int))) (by kernel_rfl) (fun c2630 => ?_) (fun c2630 => ?_)
   ·replace H:=iT c2630 H
    refine AWp.skip ?_
    refine AWp.seq ?_
    refine AWp.block ?_
    obtain⟨b2634,p2635,q2636,H⟩:=at_of H
    refine sr hP hn hm [(2,.c (eHist b2634))] [(26,bV (b2634.f0 != (0:Int)))] [0,2,4,26] [] [1] [_,_] (by kernel_rfl) ⟨p2635,el_map eHist q2636,trivial⟩ ?_
    refine AWp.cond (b2634.f0 != (0:Int)) (by kernel_rfl) (fun c2637 => ?_) (fun c2637 => ?_)
    ·replace H:=iT c2637 H
     refine sr hP hn hm [] [(3,iV .i64 25)] [2,3] [] [1] [] (by kernel_rfl) trivial ?_
     refine AWp.conv (inv:=[(1,2)]) (vk:=[]) (e0:=[0,1]) (t:=⟨[(2,.ptr 2 0 0),(3,iV .i64 25)],[(0,some (.row 2 89 ((((⟨0,0,0,0,0,0,[],[]⟩:THist)).f6).map eBucket))),(1,some (.row 2 89 ((((⟨0,0,0,0,0,0,[],[]⟩:THist)).f7).map eBucket))),(2,some (.box 32 [iV .i64 (((⟨0,0,0,0,0,0,[],[]⟩:THist)).f0),iV .i64 (((⟨0,0,0,0,0,0,[],[]⟩:THist)).f1),iV .i64 (((⟨0,0,0,0,0,0,[],[]⟩:THist)).f2),iV .u64 (((⟨0,0,0,0,0,0,[],[]⟩:THist)).f3),iV .u64 (((⟨0,0,0,0,0,0,[],[]⟩:THist)).f4),iV .i64 (((⟨0,0,0,0,0,0,[],[]⟩:THist)).f5),.own 0,.own 1]))],0⟩) (by kernel_rfl) ?_
     refine AWp.ret ?_
     obtain rfl:=Option.some.inj H
     exact rl rfl rfl (by kernel_rfl) (by kernel_rfl)
    ·replace H:=iF c2637 H
     refine AWp.skip ?_
     refine rg hP hn hm [] [(4,iV .i64 (i64.wrap (x2629+(1:Int))))] [0,2,4] [] [1] [] (by kernel_rfl) trivial ?_
     exact LWp.conv [(1,1)] [] [] (by kernel_rfl) (ih _ _ H)
   ·replace H:=iF c2630 H
    refine AWp.exit ?_
    obtain rfl:=Option.some.inj H
    exact lf [(1,2)] [] [] (by kernel_rfl) ⟨rfl,rfl⟩
  ·rcases o3521 with rr | _
   ·skip
    rintro e s ⟨rfl,hfl,hres⟩
    obtain rfl:=Option.some.inj H
    exact Exists.intro _ (And.intro (fun _ _ h=>h) (And.intro (.inl rfl) (And.intro hfl hres)))
   ·skip
    rintro e s ⟨rfl,rfl⟩
    obtain⟨b2641,p2642,q2643,H⟩:=at_of H
    refine sr hP hn hm [(1,.c (eHist b2641)),(5,.k 3)] [(5,.ptr 3 0 0)] [0,2,5] [(3,some (.box 32 [iV .i64 0,iV .i64 b2641.f1,iV .i64 (-524288),iV .u64 0,iV .u64 0,iV .i64 0,.none0,.none0]))] [2,3] [_,_] (by kernel_rfl) ⟨p2642,el_map eHist q2643,trivial⟩ ?_
    refine AWp.seq ?_
    refine sr hP hn hm [] [(6,iV .i64 1)] [0,2,5,6] [] [2,3] [] (by kernel_rfl) trivial ?_
    refine AWp.block ?_
    obtain⟨o3523,e3524,H⟩:=bind_of H
    refine AWp.loop (LWp.conv (inv:=[(2,13),(3,14)]) (vk:=[]) (e0:=[15,16]) (t:=⟨[(0,.im (.row (a0.map eHist))),(2,.ptr 13 0 0),(5,.ptr 14 0 0),(6,iV .i64 1)],[(13,some (.box 32 [iV .i64 0,iV .i64 0,iV .i64 0,iV .u64 0,iV .u64 0,iV .i64 0,.none0,.none0])),(14,some (.box 32 [iV .i64 0,iV .i64 b2641.f1,iV .i64 (-524288),iV .u64 0,iV .u64 0,iV .i64 0,.own 15,.own 16])),(15,some (.row 2 89 ([].map eBucket))),(16,some (.row 2 89 ([].map eBucket)))],0⟩) (by kernel_rfl) ?_)
    refine LWp.mono (Q:=fun e s=>(match (generalizing:=false) o3523 with | .inl rr=>e = .ret∧s.floor=0∧resOf Tryz.prog Tryz.f25 s=some (.tup [.agg [iV .i64 ((rr.1).f0),iV .i64 ((rr.1).f1),iV .i64 ((rr.1).f2),iV .u64 ((rr.1).f3),iV .u64 ((rr.1).f4),iV .i64 ((rr.1).f5),.own 0,.own 1],iV .i64 rr.2])∧([(0,s.obj 0),(1,s.obj 1)]:List (Nat×Option MObj))=[(0,some (.row 2 89 (((rr.1).f6).map eBucket))),(1,some (.row 2 89 (((rr.1).f7).map eBucket)))] | .inr (x3513,x3514,x3515,x3516,x3517,x3518,x3519,x3520)=>e = .exit 2∧s=⟨[(2,.ptr 28 0 0),(5,.ptr 29 0 0)],[(28,some (.box 32 [iV .i64 0,iV .i64 0,iV .i64 0,iV .u64 0,iV .u64 0,iV .i64 0,.none0,.none0])),(29,some (.box 32 [iV .i64 x3513,iV .i64 x3514,iV .i64 x3515,iV .u64 x3516,iV .u64 x3517,iV .i64 x3518,.own 30,.own 31])),(30,some (.row 2 89 (x3519.map eBucket))),(31,some (.row 2 89 (x3520.map eBucket)))],0⟩)) (LWp.cv (withBody (fun body hbody => ?_))) ?_
    ·refine f_r07_Rise.l1.partial_correctness a0 (motive:=fun v o3523=>(match (generalizing:=false) v with | (x3470,x3471,x3472,x3473,x3474,x3475,x3476,x3477,x3478)=>LWp Γ body (fun e s=>∃ t,Cv Γ s t∧(match (generalizing:=false) o3523 with | .inl rr=>e = .ret∧t.floor=0∧resOf Tryz.prog Tryz.f25 t=some (.tup [.agg [iV .i64 ((rr.1).f0),iV .i64 ((rr.1).f1),iV .i64 ((rr.1).f2),iV .u64 ((rr.1).f3),iV .u64 ((rr.1).f4),iV .i64 ((rr.1).f5),.own 0,.own 1],iV .i64 rr.2])∧([(0,t.obj 0),(1,t.obj 1)]:List (Nat×Option MObj))=[(0,some (.row 2 89 (((rr.1).f6).map eBucket))),(1,some (.row 2 89 (((rr.1).f7).map eBucket)))] | .inr (x3513,x3514,x3515,x3516,x3517,x3518,x3519,x3520)=>e = .exit 2∧t=⟨[(2,.ptr 28 0 0),(5,.ptr 29 0 0)],[(28,some (.box 32 [iV .i64 0,iV .i64 0,iV .i64 0,iV .u64 0,iV .u64 0,iV .i64 0,.none0,.none0])),(29,some (.box 32 [iV .i64 x3513,iV .i64 x3514,iV .i64 x3515,iV .u64 x3516,iV .u64 x3517,iV .i64 x3518,.own 30,.own 31])),(30,some (.row 2 89 (x3519.map eBucket))),(31,some (.row 2 89 (x3520.map eBucket)))],0⟩)) ⟨[(0,.im (.row (a0.map eHist))),(2,.ptr 13 0 0),(5,.ptr 14 0 0),(6,iV .i64 x3478)],[(13,some (.box 32 [iV .i64 0,iV .i64 0,iV .i64 0,iV .u64 0,iV .u64 0,iV .i64 0,.none0,.none0])),(14,some (.box 32 [iV .i64 x3470,iV .i64 x3471,iV .i64 x3472,iV .u64 x3473,iV .u64 x3474,iV .i64 x3475,.own 15,.own 16])),(15,some (.row 2 89 (x3476.map eBucket))),(16,some (.row 2 89 (x3477.map eBucket)))],0⟩)) ?_ _ _ e3524
     clear H e3524 o3523;intro self ih v o3523 H
     obtain⟨x3470,x3471,x3472,x3473,x3474,x3475,x3476,x3477,x3478⟩:=v
     dsimp only at H
     subst hbody
     refine LWp.round ?_
     refine AWp.seq ?_
     refine sr hP hn hm [(2,.any (iV .i64 (a0.length:Int)))] [(36,bV (decide (x3478<(a0.length:Int))))] [0,2,5,6,36] [] [13,14,15,16] [((a0.map eHist).length:Int)=(a0.length:Int)] (by kernel_rfl) ⟨by rw[len_map],trivial⟩ ?_
     refine AWp.cond (decide (x3478<(a0.length:Int))) (by kernel_rfl) (fun c3479 => ?_) (fun c3479 => ?_)
     ·replace H:=iT c3479 H
      refine AWp.skip ?_
      refine AWp.seq ?_
      refine AWp.block ?_
      obtain⟨b3488,p3489,q3490,H⟩:=at_of H
      obtain⟨b3491,p3492,q3493,H⟩:=at_of H
      obtain⟨t3494,e3495,H⟩:=bind_of H
      refine sr hP hn hm [(2,.c (eHist b3488)),(7,.c (eHist b3491)),(9,.call [] [(0,17),(1,18)] [] [17,18] 0 (.tup [.agg [iV .i64 ((t3494.1).f0),iV .i64 ((t3494.1).f1),iV .i64 ((t3494.1).f2),iV .u64 ((t3494.1).f3),iV .u64 ((t3494.1).f4),iV .i64 ((t3494.1).f5),.own 0,.own 1],iV .i64 t3494.2]) [(0,some (.row 2 89 (((t3494.1).f6).map eBucket))),(1,some (.row 2 89 (((t3494.1).f7).map eBucket)))]),(13,.k 19)] [(7,.ptr 19 0 0),(8,iV .i64 t3494.2)] [0,2,5,6,7,8] [(17,some (.row 2 89 (((t3494.1).f6).map eBucket))),(18,some (.row 2 89 (((t3494.1).f7).map eBucket))),(19,some (.box 32 [iV .i64 ((t3494.1).f0),iV .i64 ((t3494.1).f1),iV .i64 ((t3494.1).f2),iV .u64 ((t3494.1).f3),iV .u64 ((t3494.1).f4),iV .i64 ((t3494.1).f5),.own 17,.own 18]))] [13,14,15,16,17,18,19] [_,_,_,_,_,_] (by kernel_rfl) ⟨p3489,el_map eHist q3490,p3492,el_map eHist q3493,Tryz.call39,f_r07_Sub.ok b3488 b3491 t3494 e3495,trivial⟩ ?_
      refine AWp.seq ?_
      refine sr hP hn hm [] [(53,bV (t3494.2==(21:Int)))] [0,2,5,6,7,8,53] [] [13,14,15,16,17,18,19] [] (by kernel_rfl) trivial ?_
      obtain⟨o3525,e3526,H⟩:=bind_of H
      refine AWp.mono (Q:=fun e s=>(match (generalizing:=false) o3525 with | .inl rr=>e = .ret∧s.floor=0∧resOf Tryz.prog Tryz.f25 s=some (.tup [.agg [iV .i64 ((rr.1).f0),iV .i64 ((rr.1).f1),iV .i64 ((rr.1).f2),iV .u64 ((rr.1).f3),iV .u64 ((rr.1).f4),iV .i64 ((rr.1).f5),.own 0,.own 1],iV .i64 rr.2])∧([(0,s.obj 0),(1,s.obj 1)]:List (Nat×Option MObj))=[(0,some (.row 2 89 (((rr.1).f6).map eBucket))),(1,some (.row 2 89 (((rr.1).f7).map eBucket)))] | .inr (x3498,x3499,x3500,x3501,x3502,x3503,x3504,x3505)=>e = .normal∧s=⟨[(0,.im (.row (a0.map eHist))),(2,.ptr 20 0 0),(5,.ptr 21 0 0),(6,iV .i64 x3478),(7,.ptr 24 0 0)],[(20,some (.box 32 [iV .i64 0,iV .i64 0,iV .i64 0,iV .u64 0,iV .u64 0,iV .i64 0,.none0,.none0])),(21,some (.box 32 [iV .i64 x3470,iV .i64 x3471,iV .i64 x3472,iV .u64 x3473,iV .u64 x3474,iV .i64 x3475,.own 22,.own 23])),(22,some (.row 2 89 (x3476.map eBucket))),(23,some (.row 2 89 (x3477.map eBucket))),(24,some (.box 32 (aHist ⟨x3498,x3499,x3500,x3501,x3502,x3503,x3504,x3505⟩)))],0⟩)) (AWp.cv ?_) ?_
      ·replace H:=e3526;clear e3526
       refine AWp.cond (t3494.2==(21:Int)) (by kernel_rfl) (fun c3496 => ?_) (fun c3496 => ?_)
       ·replace H:=iT c3496 H
        refine rg hP hn hm [(2,.c (eHist b3488))] [] [0,2,5,6,7] [(19,some (.box 32 (aHist b3488)))] [13,14,15,16,19] [_,_] (by kernel_rfl) ⟨p3489,el_map eHist q3490,trivial⟩ ?_
        obtain rfl:=Option.some.inj H
        exact lf [(13,20),(14,21),(15,22),(16,23),(19,24)] [] [] (by kernel_rfl) ⟨rfl,rfl⟩
       ·replace H:=iF c3496 H
        refine sr hP hn hm [] [(59,bV (t3494.2 != (0:Int)))] [0,2,5,6,7,8,59] [] [13,14,15,16,17,18,19] [] (by kernel_rfl) trivial ?_
        refine AWp.cond (t3494.2 != (0:Int)) (by kernel_rfl) (fun c3497 => ?_) (fun c3497 => ?_)
        ·replace H:=iT c3497 H
         refine sr hP hn hm [] [(3,iV .i64 t3494.2)] [2,3] [] [13] [] (by kernel_rfl) trivial ?_
         refine AWp.conv (inv:=[(13,2)]) (vk:=[]) (e0:=[0,1]) (t:=⟨[(2,.ptr 2 0 0),(3,iV .i64 t3494.2)],[(0,some (.row 2 89 ((((⟨0,0,0,0,0,0,[],[]⟩:THist)).f6).map eBucket))),(1,some (.row 2 89 ((((⟨0,0,0,0,0,0,[],[]⟩:THist)).f7).map eBucket))),(2,some (.box 32 [iV .i64 (((⟨0,0,0,0,0,0,[],[]⟩:THist)).f0),iV .i64 (((⟨0,0,0,0,0,0,[],[]⟩:THist)).f1),iV .i64 (((⟨0,0,0,0,0,0,[],[]⟩:THist)).f2),iV .u64 (((⟨0,0,0,0,0,0,[],[]⟩:THist)).f3),iV .u64 (((⟨0,0,0,0,0,0,[],[]⟩:THist)).f4),iV .i64 (((⟨0,0,0,0,0,0,[],[]⟩:THist)).f5),.own 0,.own 1]))],0⟩) (by kernel_rfl) ?_
         refine AWp.ret ?_
         obtain rfl:=Option.some.inj H
         exact rl rfl rfl (by kernel_rfl) (by kernel_rfl)
        ·replace H:=iF c3497 H
         refine AWp.skip ?_
         obtain rfl:=Option.some.inj H
         exact lf [(13,20),(14,21),(15,22),(16,23),(19,24)] [17,18] [] (by kernel_rfl) ⟨rfl,rfl⟩
      ·rcases o3525 with rr | ⟨x3498,x3499,x3500,x3501,x3502,x3503,x3504,x3505⟩
       ·skip
        rintro e s ⟨rfl,hfl,hres⟩
        obtain rfl:=Option.some.inj H
        exact Exists.intro _ (And.intro (fun _ _ h=>h) (And.intro rfl (And.intro hfl hres)))
       ·skip
        rintro e s ⟨rfl,rfl⟩
        refine AWp.seq ?_
        refine AWp.conv (inv:=[(20,20),(21,21),(24,24)]) (vk:=[22,23]) (e0:=[]) (t:=⟨[(0,.im (.row (a0.map eHist))),(2,.ptr 20 0 0),(5,.ptr 21 0 0),(6,iV .i64 x3478),(7,.ptr 24 0 0)],[(20,some (.box 32 [iV .i64 0,iV .i64 0,iV .i64 0,iV .u64 0,iV .u64 0,iV .i64 0,.none0,.none0])),(21,some (.box 32 (aHist ⟨x3470,x3471,x3472,x3473,x3474,x3475,x3476,x3477⟩))),(24,some (.box 32 (aHist ⟨x3498,x3499,x3500,x3501,x3502,x3503,x3504,x3505⟩)))],0⟩) (by kernel_rfl) ?_
        obtain⟨t3510,e3511,H⟩:=bind_of H
        refine rg hP hn hm [(2,.call [] [(0,25),(1,26)] [] [25,26] 0 (.tup [.agg [iV .i64 ((t3510.1).f0),iV .i64 ((t3510.1).f1),iV .i64 ((t3510.1).f2),iV .u64 ((t3510.1).f3),iV .u64 ((t3510.1).f4),iV .i64 ((t3510.1).f5),.own 0,.own 1],iV .i64 t3510.2]) [(0,some (.row 2 89 (((t3510.1).f6).map eBucket))),(1,some (.row 2 89 (((t3510.1).f7).map eBucket)))]),(6,.k 27)] [(9,.ptr 27 0 0),(10,iV .i64 t3510.2)] [0,2,5,6,9,10] [(25,some (.row 2 89 (((t3510.1).f6).map eBucket))),(26,some (.row 2 89 (((t3510.1).f7).map eBucket))),(27,some (.box 32 [iV .i64 ((t3510.1).f0),iV .i64 ((t3510.1).f1),iV .i64 ((t3510.1).f2),iV .u64 ((t3510.1).f3),iV .u64 ((t3510.1).f4),iV .i64 ((t3510.1).f5),.own 25,.own 26]))] [20,21,25,26,27] [_,_] (by kernel_rfl) ⟨Tryz.call40,f_r07_Add.ok (⟨x3470,x3471,x3472,x3473,x3474,x3475,x3476,x3477⟩:THist) (⟨x3498,x3499,x3500,x3501,x3502,x3503,x3504,x3505⟩:THist) t3510 e3511,trivial⟩ ?_
        refine AWp.seq ?_
        refine sr hP hn hm [] [(69,bV (t3510.2 != (0:Int)))] [0,2,5,6,9,10,69] [] [20,21,25,26,27] [] (by kernel_rfl) trivial ?_
        refine AWp.cond (t3510.2 != (0:Int)) (by kernel_rfl) (fun c3512 => ?_) (fun c3512 => ?_)
        ·replace H:=iT c3512 H
         refine sr hP hn hm [] [(3,iV .i64 t3510.2)] [2,3] [] [20] [] (by kernel_rfl) trivial ?_
         refine AWp.conv (inv:=[(20,2)]) (vk:=[]) (e0:=[0,1]) (t:=⟨[(2,.ptr 2 0 0),(3,iV .i64 t3510.2)],[(0,some (.row 2 89 ((((⟨0,0,0,0,0,0,[],[]⟩:THist)).f6).map eBucket))),(1,some (.row 2 89 ((((⟨0,0,0,0,0,0,[],[]⟩:THist)).f7).map eBucket))),(2,some (.box 32 [iV .i64 (((⟨0,0,0,0,0,0,[],[]⟩:THist)).f0),iV .i64 (((⟨0,0,0,0,0,0,[],[]⟩:THist)).f1),iV .i64 (((⟨0,0,0,0,0,0,[],[]⟩:THist)).f2),iV .u64 (((⟨0,0,0,0,0,0,[],[]⟩:THist)).f3),iV .u64 (((⟨0,0,0,0,0,0,[],[]⟩:THist)).f4),iV .i64 (((⟨0,0,0,0,0,0,[],[]⟩:THist)).f5),.own 0,.own 1]))],0⟩) (by kernel_rfl) ?_
         refine AWp.ret ?_
         obtain rfl:=Option.some.inj H
         exact rl rfl rfl (by kernel_rfl) (by kernel_rfl)
        ·replace H:=iF c3512 H
         refine AWp.skip ?_
         refine rg hP hn hm [] [] [0,2,5,6] [(21,some (.box 32 [iV .i64 ((t3510.1).f0),iV .i64 ((t3510.1).f1),iV .i64 ((t3510.1).f2),iV .u64 ((t3510.1).f3),iV .u64 ((t3510.1).f4),iV .i64 ((t3510.1).f5),.own 25,.own 26]))] [20,21,25,26] [] (by kernel_rfl) trivial ?_
         refine rg hP hn hm [] [(6,iV .i64 (i64.wrap (x3478+(1:Int))))] [0,2,5,6] [] [20,21,25,26] [] (by kernel_rfl) trivial ?_
         exact LWp.conv [(20,13),(21,14),(25,15),(26,16)] [] [] (by kernel_rfl) (ih _ _ H)
     ·replace H:=iF c3479 H
      refine AWp.exit ?_
      obtain rfl:=Option.some.inj H
      exact lf [(13,28),(14,29),(15,30),(16,31)] [] [] (by kernel_rfl) ⟨rfl,rfl⟩
    ·rcases o3523 with rr | ⟨x3513,x3514,x3515,x3516,x3517,x3518,x3519,x3520⟩
     ·skip
      rintro e s ⟨rfl,hfl,hres⟩
      obtain rfl:=Option.some.inj H
      exact Exists.intro _ (And.intro (fun _ _ h=>h) (And.intro (.inl rfl) (And.intro hfl hres)))
     ·skip
      rintro e s ⟨rfl,rfl⟩
      refine sr hP hn hm [] [(3,iV .i64 0)] [2,3] [(28,some (.box 32 [iV .i64 x3513,iV .i64 x3514,iV .i64 x3515,iV .u64 x3516,iV .u64 x3517,iV .i64 x3518,.own 30,.own 31]))] [28,30,31] [] (by kernel_rfl) trivial ?_
      refine AWp.conv (inv:=[(28,2),(30,0),(31,1)]) (vk:=[]) (e0:=[]) (t:=⟨[(2,.ptr 2 0 0),(3,iV .i64 0)],[(0,some (.row 2 89 ((((⟨x3513,x3514,x3515,x3516,x3517,x3518,x3519,x3520⟩:THist)).f6).map eBucket))),(1,some (.row 2 89 ((((⟨x3513,x3514,x3515,x3516,x3517,x3518,x3519,x3520⟩:THist)).f7).map eBucket))),(2,some (.box 32 [iV .i64 (((⟨x3513,x3514,x3515,x3516,x3517,x3518,x3519,x3520⟩:THist)).f0),iV .i64 (((⟨x3513,x3514,x3515,x3516,x3517,x3518,x3519,x3520⟩:THist)).f1),iV .i64 (((⟨x3513,x3514,x3515,x3516,x3517,x3518,x3519,x3520⟩:THist)).f2),iV .u64 (((⟨x3513,x3514,x3515,x3516,x3517,x3518,x3519,x3520⟩:THist)).f3),iV .u64 (((⟨x3513,x3514,x3515,x3516,x3517,x3518,x3519,x3520⟩:THist)).f4),iV .i64 (((⟨x3513,x3514,x3515,x3516,x3517,x3518,x3519,x3520⟩:THist)).f5),.own 0,.own 1]))],0⟩) (by kernel_rfl) ?_
      refine AWp.ret ?_
      obtain rfl:=Option.some.inj H
      exact rl (.inl rfl) rfl (by kernel_rfl) (by kernel_rfl)
def f_r19_Of.l0 (t2596:List TSample) (x2608:List THist) (x2609:Int):Option (List THist):=if(decide (x2609<(t2596.length:Int)))=true then((at? t2596 x2609)>>=fun b2615=>(chk ((x2608.length+[b2615.f1].length)*96≤140737488355328))>>=fun _=>f_r19_Of.l0 t2596 (x2608++[b2615.f1]) (i64.wrap (x2609+(1:Int)))) else(some x2608)
partial_fixpoint
def f_r19_Of.f (a0:Tr19_Ask) (a1:List TSample):Option (THist×Int):=(f_r19_Window.f a1 a0.f5 a0.f6)>>=fun t2596=>if(a0.f0==(5:Int))=true then((f_r19_Of.l0 t2596 [] 0)>>=fun x2619=>(f_r07_Rise.f x2619)>>=fun t3531=>some ((t3531.1),t3531.2)) else(if((t2596.length:Int)==(0:Int))=true then(some ((⟨0,0,0,0,0,0,[],[]⟩:THist),30)) else((at? t2596 (i64.wrap ((t2596.length:Int)-(1:Int))))>>=fun b3537=>some (b3537.f1,0)))
theorem f_r19_Of.ok (a0:Tr19_Ask) (a1:List TSample) (r:THist×Int) (H:f_r19_Of.f a0 a1=some r):Pv.Fn Tryz.prog 11 [.agg (ar19_Ask a0),.im (.row (a1.map eSample))] [] 0 (fun x o=>x = .tup [.agg (aHist (r.1)),iV .i64 r.2]∧o=[]):=by
 unfold f_r19_Of.f at H
 refine Fn.bodyK [] Tryz.func11 rfl rfl (fun Γ hP hn => ?_)
 have hm:Tryz.prog.follows .mixedOrders=true:=by kernel_rfl
 replace hn:Γ.n=47:=hn
 refine sr hP hn hm [(0,.k 0),(1,.k 1)] [(2,.ptr 0 0 0),(4,.ptr 1 0 0)] [1,2,4] [(0,some (.box 24 (ar19_Ask a0))),(1,some (.box 32 [iV .i64 0,iV .i64 0,iV .i64 0,iV .u64 0,iV .u64 0,iV .i64 0,.none0,.none0]))] [0,1] [] (by kernel_rfl) trivial ?_
 obtain⟨t2596,e2597,H⟩:=bind_of H
 refine sr hP hn hm [(5,.call [] [(0,2)] [] [2] 0 (.own 0) [(0,some (.row 9 65 (t2596.map eSample)))])] [(6,.own 2)] [2,4,6] [(2,some (.row 9 65 (t2596.map eSample)))] [0,1,2] [_,_] (by kernel_rfl) ⟨Tryz.call8,f_r19_Window.ok a1 a0.f5 a0.f6 t2596 e2597,trivial⟩ ?_
 refine AWp.seq ?_
 refine sr hP hn hm [] [(17,bV (a0.f0==(5:Int)))] [4,6,17] [] [1,2] [] (by kernel_rfl) trivial ?_
 refine AWp.cond (a0.f0==(5:Int)) (by kernel_rfl) (fun c2598 => ?_) (fun c2598 => ?_)
 ·replace H:=iT c2598 H
  refine sr hP hn hm [] [(7,.none0)] [4,6,7] [] [1,2] [] (by kernel_rfl) trivial ?_
  refine AWp.seq ?_
  refine sr hP hn hm [] [(8,iV .i64 0)] [4,6,7,8] [] [1,2] [] (by kernel_rfl) trivial ?_
  refine AWp.block ?_
  obtain⟨o3540,e3541,H⟩:=bind_of H
  refine AWp.loop (LWp.conv (inv:=[(1,5),(2,6)]) (vk:=[]) (e0:=[7]) (t:=⟨[(4,.ptr 5 0 0),(6,.own 6),(7,.own 7),(8,iV .i64 0)],[(5,some (.box 32 [iV .i64 0,iV .i64 0,iV .i64 0,iV .u64 0,iV .u64 0,iV .i64 0,.none0,.none0])),(6,some (.row 9 65 (t2596.map eSample))),(7,some (.row 8 32 ([].map eHist)))],0⟩) (by kernel_rfl) ?_)
  refine LWp.mono (Q:=fun e s=>(match (generalizing:=false) o3540 with | x2619=>e = .exit 0∧s=⟨[(4,.ptr 10 0 0),(7,.own 11)],[(10,some (.box 32 [iV .i64 0,iV .i64 0,iV .i64 0,iV .u64 0,iV .u64 0,iV .i64 0,.none0,.none0])),(11,some (.row 8 32 (x2619.map eHist)))],0⟩)) (LWp.cv (withBody (fun body hbody => ?_))) ?_
  ·refine f_r19_Of.l0.partial_correctness t2596 (motive:=fun x2608 x2609 o3540=>LWp Γ body (fun e s=>∃ t,Cv Γ s t∧(match (generalizing:=false) o3540 with | x2619=>e = .exit 0∧t=⟨[(4,.ptr 10 0 0),(7,.own 11)],[(10,some (.box 32 [iV .i64 0,iV .i64 0,iV .i64 0,iV .u64 0,iV .u64 0,iV .i64 0,.none0,.none0])),(11,some (.row 8 32 (x2619.map eHist)))],0⟩)) ⟨[(4,.ptr 5 0 0),(6,.own 6),(7,.own 7),(8,iV .i64 x2609)],[(5,some (.box 32 [iV .i64 0,iV .i64 0,iV .i64 0,iV .u64 0,iV .u64 0,iV .i64 0,.none0,.none0])),(6,some (.row 9 65 (t2596.map eSample))),(7,some (.row 8 32 (x2608.map eHist)))],0⟩) ?_ _ _ _ e3541
   clear H e3541 o3540;intro self ih x2608 x2609 o3540 H
   subst hbody
   refine LWp.round ?_
   refine AWp.seq ?_
   refine sr hP hn hm [(2,.any (iV .i64 (t2596.length:Int)))] [(21,bV (decide (x2609<(t2596.length:Int))))] [4,6,7,8,21] [] [5,6,7] [((t2596.map eSample).length:Int)=(t2596.length:Int)] (by kernel_rfl) ⟨by rw[len_map],trivial⟩ ?_
   refine AWp.cond (decide (x2609<(t2596.length:Int))) (by kernel_rfl) (fun c2610 => ?_) (fun c2610 => ?_)
   ·replace H:=iT c2610 H
    refine AWp.skip ?_
    refine AWp.seq ?_
    refine AWp.block ?_
    obtain⟨b2615,p2616,q2617,H⟩:=at_of H
    obtain⟨c2618,H⟩:=chk_of H
    refine rg hP hn hm [(5,.c (eSample b2615)),(6,.app 8 ([b2615.f1].map eHist)),(7,.app 9 ((x2608++[b2615.f1]).map eHist))] [(7,.own 9)] [4,6,7,8] [(9,some (.row 8 32 ((x2608++[b2615.f1]).map eHist)))] [5,6,9] [_,_,_,[b2615.f1].map eHist=[[iI .i64 b2615.f1.f0,iI .i64 b2615.f1.f1,iI .i64 b2615.f1.f2,iI .u64 b2615.f1.f3,iI .u64 b2615.f1.f4,iI .i64 b2615.f1.f5,.row (b2615.f1.f6.map eBucket),.row (b2615.f1.f7.map eBucket)]],(x2608++[b2615.f1]).map eHist=(x2608.map eHist)++([b2615.f1].map eHist),∀ c∈([b2615.f1].map eHist),c.length=8,∀ c∈([b2615.f1].map eHist),leaves (c.map .im)=true,((x2608.map eHist).length+([b2615.f1].map eHist).length)*96≤140737488355328] (by kernel_rfl) ⟨p2616,el_lt eSample p2616 q2617,el_map eSample q2617,by exact rfl,by simp,by exact all_len _ _ _ (fun _=>rfl),by exact all_leaf _ _ (fun _=>rfl),by simpa using c2618,trivial⟩ ?_
    refine rg hP hn hm [] [(8,iV .i64 (i64.wrap (x2609+(1:Int))))] [4,6,7,8] [] [5,6,9] [] (by kernel_rfl) trivial ?_
    exact LWp.conv [(5,5),(6,6),(9,7)] [] [] (by kernel_rfl) (ih _ _ _ H)
   ·replace H:=iF c2610 H
    refine AWp.exit ?_
    obtain rfl:=Option.some.inj H
    exact lf [(5,10),(7,11)] [] [] (by kernel_rfl) ⟨rfl,rfl⟩
  ·obtain⟨x2619,rfl⟩:∃ z,z=o3540:=⟨_,rfl⟩
   rintro e s ⟨rfl,rfl⟩
   refine AWp.seq ?_
   refine AWp.conv (inv:=[(10,10)]) (vk:=[11]) (e0:=[]) (t:=⟨[(4,.ptr 10 0 0),(7,.im (.row (x2619.map eHist)))],[(10,some (.box 32 [iV .i64 0,iV .i64 0,iV .i64 0,iV .u64 0,iV .u64 0,iV .i64 0,.none0,.none0]))],0⟩) (by kernel_rfl) ?_
   obtain⟨t3531,e3532,H⟩:=bind_of H
   refine rg hP hn hm [(1,.call [] [(0,12),(1,13)] [] [12,13] 0 (.tup [.agg [iV .i64 ((t3531.1).f0),iV .i64 ((t3531.1).f1),iV .i64 ((t3531.1).f2),iV .u64 ((t3531.1).f3),iV .u64 ((t3531.1).f4),iV .i64 ((t3531.1).f5),.own 0,.own 1],iV .i64 t3531.2]) [(0,some (.row 2 89 (((t3531.1).f6).map eBucket))),(1,some (.row 2 89 (((t3531.1).f7).map eBucket)))])] [(5,iV .i64 t3531.2)] [4,5] [(10,some (.box 32 [iV .i64 ((t3531.1).f0),iV .i64 ((t3531.1).f1),iV .i64 ((t3531.1).f2),iV .u64 ((t3531.1).f3),iV .u64 ((t3531.1).f4),iV .i64 ((t3531.1).f5),.own 12,.own 13])),(12,some (.row 2 89 (((t3531.1).f6).map eBucket))),(13,some (.row 2 89 (((t3531.1).f7).map eBucket)))] [10,12,13] [_,_] (by kernel_rfl) ⟨Tryz.call25,f_r07_Rise.ok x2619 t3531 e3532,trivial⟩ ?_
   refine AWp.conv (inv:=[(10,0)]) (vk:=[12,13]) (e0:=[]) (t:=⟨[(4,.ptr 0 0 0),(5,iV .i64 t3531.2)],[(0,some (.box 32 (aHist ((t3531.1)))))],0⟩) (by kernel_rfl) ?_
   refine AWp.ret ?_
   obtain rfl:=Option.some.inj H
   exact rl (.inl rfl) rfl (by kernel_rfl) (by kernel_rfl)
 ·replace H:=iF c2598 H
  refine AWp.skip ?_
  refine AWp.seq ?_
  refine sr hP hn hm [(1,.any (iV .i64 (t2596.length:Int)))] [(38,bV ((t2596.length:Int)==(0:Int)))] [4,6,38] [] [1,2] [((t2596.map eSample).length:Int)=(t2596.length:Int)] (by kernel_rfl) ⟨by rw[len_map],trivial⟩ ?_
  refine AWp.cond ((t2596.length:Int)==(0:Int)) (by kernel_rfl) (fun c3533 => ?_) (fun c3533 => ?_)
  ·replace H:=iT c3533 H
   refine sr hP hn hm [] [(5,iV .i64 30)] [4,5] [] [1] [] (by kernel_rfl) trivial ?_
   refine AWp.conv (inv:=[(1,0)]) (vk:=[]) (e0:=[]) (t:=⟨[(4,.ptr 0 0 0),(5,iV .i64 30)],[(0,some (.box 32 (aHist ((⟨0,0,0,0,0,0,[],[]⟩:THist)))))],0⟩) (by kernel_rfl) ?_
   refine AWp.ret ?_
   obtain rfl:=Option.some.inj H
   exact rl (.inl rfl) rfl (by kernel_rfl) (by kernel_rfl)
  ·replace H:=iF c3533 H
   refine AWp.skip ?_
   obtain⟨b3537,p3538,q3539,H⟩:=at_of H
   refine sr hP hn hm [(2,.any (iV .i64 (t2596.length:Int))),(6,.c (eSample b3537))] [(5,iV .i64 0)] [4,5] [(1,some (.box 32 (aHist b3537.f1)))] [1] [((t2596.map eSample).length:Int)=(t2596.length:Int),_,_,_] (by kernel_rfl) ⟨by rw[len_map],p3538,el_lt eSample p3538 q3539,el_map eSample q3539,trivial⟩ ?_
   refine AWp.conv (inv:=[(1,0)]) (vk:=[]) (e0:=[]) (t:=⟨[(4,.ptr 0 0 0),(5,iV .i64 0)],[(0,some (.box 32 (aHist (b3537.f1))))],0⟩) (by kernel_rfl) ?_
   refine AWp.ret ?_
   obtain rfl:=Option.some.inj H
   exact rl (.inl rfl) rfl (by kernel_rfl) (by kernel_rfl)
def f_r01_Mul.l1 (a0:Int) (a1:Int) (x3623:Int) (x3643:List Int) (x3644:Int) (x3645:Int):Option ((List Int)×Int):=if(decide (x3645<(2:Int)))=true then((at? x3643 (i64.wrap (x3623+x3645)))>>=fun b3656=>(at? [Int.tmod a0 (4294967296:Int),u64.wrap (Int.tdiv a0 (4294967296:Int))] x3623)>>=fun b3659=>(at? [Int.tmod a1 (4294967296:Int),u64.wrap (Int.tdiv a1 (4294967296:Int))] x3645)>>=fun b3662=>f_r01_Mul.l1 a0 a1 x3623 (x3643.set (Int.toNat (i64.wrap (x3623+x3645))) (Int.tmod (u64.wrap ((u64.wrap (b3656+(u64.wrap (b3659*b3662))))+x3644)) (4294967296:Int))) (u64.wrap (Int.tdiv (u64.wrap ((u64.wrap (b3656+(u64.wrap (b3659*b3662))))+x3644)) (4294967296:Int))) (i64.wrap (x3645+(1:Int)))) else(some (x3643,x3644))
partial_fixpoint
def f_r01_Mul.l0 (a0:Int) (a1:Int) (x3622:List Int) (x3623:Int):Option (List Int):=if(decide (x3623<(2:Int)))=true then((f_r01_Mul.l1 a0 a1 x3623 x3622 0 0)>>=fun oo=>match oo with | (x3665,x3666)=>((at? x3665 (i64.wrap (x3623+(2:Int))))>>=fun b3670=>f_r01_Mul.l0 a0 a1 (x3665.set (Int.toNat (i64.wrap (x3623+(2:Int)))) (u64.wrap (b3670+x3666))) (i64.wrap (x3623+(1:Int))))) else(some x3622)
partial_fixpoint
def f_r01_Mul.f (a0:Int) (a1:Int):Option (Int×Int):=(f_r01_Mul.l0 a0 a1 [0,0,0,0] 0)>>=fun x3673=>(at? x3673 3)>>=fun b3686=>(at? x3673 2)>>=fun b3689=>(at? x3673 1)>>=fun b3692=>(at? x3673 0)>>=fun b3695=>some (u64.wrap ((u64.wrap (b3686*(4294967296:Int)))+b3689),u64.wrap ((u64.wrap (b3692*(4294967296:Int)))+b3695))
theorem f_r01_Mul.ok (a0:Int) (a1:Int) (r:Int×Int) (H:f_r01_Mul.f a0 a1=some r):Pv.Fn Tryz.prog 47 [iV .u64 a0,iV .u64 a1] [] 0 (fun x o=>x = .tup [iV .u64 r.1,iV .u64 r.2]∧o=[]):=by
 unfold f_r01_Mul.f at H
 refine Fn.bodyK [] Tryz.func47 rfl rfl (fun Γ hP hn => ?_)
 have hm:Tryz.prog.follows .mixedOrders=true:=by kernel_rfl
 replace hn:Γ.n=86:=hn
 refine sr hP hn hm [] [] [0,1] [] [] [] (by kernel_rfl) trivial ?_
 refine sr hP hn hm [(4,.app 0 ([Int.tmod a0 (4294967296:Int),u64.wrap (Int.tdiv a0 (4294967296:Int))].map (encInt .u64)))] [(6,.own 0)] [1,6] [(0,some (.row 1 22 ([Int.tmod a0 (4294967296:Int),u64.wrap (Int.tdiv a0 (4294967296:Int))].map (encInt .u64))))] [0] [(4294967296:Int)≠0,(4294967296:Int)≠0,[Int.tmod a0 (4294967296:Int),u64.wrap (Int.tdiv a0 (4294967296:Int))].map (encInt .u64)=[[iI .u64 (Int.tmod a0 (4294967296:Int))],[iI .u64 (u64.wrap (Int.tdiv a0 (4294967296:Int)))]]] (by kernel_rfl) ⟨by decide,by decide,by exact rfl,trivial⟩ ?_
 refine sr hP hn hm [(4,.app 1 ([Int.tmod a1 (4294967296:Int),u64.wrap (Int.tdiv a1 (4294967296:Int))].map (encInt .u64)))] [(7,.own 1)] [6,7] [(1,some (.row 1 22 ([Int.tmod a1 (4294967296:Int),u64.wrap (Int.tdiv a1 (4294967296:Int))].map (encInt .u64))))] [0,1] [(4294967296:Int)≠0,(4294967296:Int)≠0,[Int.tmod a1 (4294967296:Int),u64.wrap (Int.tdiv a1 (4294967296:Int))].map (encInt .u64)=[[iI .u64 (Int.tmod a1 (4294967296:Int))],[iI .u64 (u64.wrap (Int.tdiv a1 (4294967296:Int)))]]] (by kernel_rfl) ⟨by decide,by decide,by exact rfl,trivial⟩ ?_
 refine sr hP hn hm [(0,.app 2 ([0,0,0,0].map (encInt .u64)))] [(8,.own 2)] [6,7,8] [(2,some (.row 1 22 ([0,0,0,0].map (encInt .u64))))] [0,1,2] [[0,0,0,0].map (encInt .u64)=[[iI .u64 0],[iI .u64 0],[iI .u64 0],[iI .u64 0]]] (by kernel_rfl) ⟨by exact rfl,trivial⟩ ?_
 refine AWp.seq ?_
 refine sr hP hn hm [] [(9,iV .i64 0)] [6,7,8,9] [] [0,1,2] [] (by kernel_rfl) trivial ?_
 refine AWp.block ?_
 obtain⟨o3698,e3699,H⟩:=bind_of H
 refine AWp.loop (LWp.conv (inv:=[(0,9),(1,10),(2,11)]) (vk:=[]) (e0:=[]) (t:=⟨[(6,.own 9),(7,.own 10),(8,.own 11),(9,iV .i64 0)],[(9,some (.row 1 22 ([Int.tmod a0 (4294967296:Int),u64.wrap (Int.tdiv a0 (4294967296:Int))].map (encInt .u64)))),(10,some (.row 1 22 ([Int.tmod a1 (4294967296:Int),u64.wrap (Int.tdiv a1 (4294967296:Int))].map (encInt .u64)))),(11,some (.row 1 22 ([0,0,0,0].map (encInt .u64))))],0⟩) (by kernel_rfl) ?_)
 refine LWp.mono (Q:=fun e s=>(match (generalizing:=false) o3698 with | x3673=>e = .exit 0∧s=⟨[(8,.own 18)],[(18,some (.row 1 22 (x3673.map (encInt .u64))))],0⟩)) (LWp.cv (withBody (fun body hbody => ?_))) ?_
 ·refine f_r01_Mul.l0.partial_correctness a0 a1 (motive:=fun x3622 x3623 o3698=>LWp Γ body (fun e s=>∃ t,Cv Γ s t∧(match (generalizing:=false) o3698 with | x3673=>e = .exit 0∧t=⟨[(8,.own 18)],[(18,some (.row 1 22 (x3673.map (encInt .u64))))],0⟩)) ⟨[(6,.own 9),(7,.own 10),(8,.own 11),(9,iV .i64 x3623)],[(9,some (.row 1 22 ([Int.tmod a0 (4294967296:Int),u64.wrap (Int.tdiv a0 (4294967296:Int))].map (encInt .u64)))),(10,some (.row 1 22 ([Int.tmod a1 (4294967296:Int),u64.wrap (Int.tdiv a1 (4294967296:Int))].map (encInt .u64)))),(11,some (.row 1 22 (x3622.map (encInt .u64))))],0⟩) ?_ _ _ _ e3699
  clear H e3699 o3698;intro self ih x3622 x3623 o3698 H
  subst hbody
  refine LWp.round ?_
  refine AWp.seq ?_
  refine sr hP hn hm [] [(25,bV (decide (x3623<(2:Int))))] [6,7,8,9,25] [] [9,10,11] [] (by kernel_rfl) trivial ?_
  refine AWp.cond (decide (x3623<(2:Int))) (by kernel_rfl) (fun c3624 => ?_) (fun c3624 => ?_)
  ·replace H:=iT c3624 H
   refine AWp.skip ?_
   refine AWp.seq ?_
   refine AWp.block ?_
   refine sr hP hn hm [] [(10,iV .u64 0)] [6,7,8,9,10] [] [9,10,11] [] (by kernel_rfl) trivial ?_
   refine AWp.seq ?_
   refine sr hP hn hm [] [(11,iV .i64 0)] [6,7,8,9,10,11] [] [9,10,11] [] (by kernel_rfl) trivial ?_
   refine AWp.block ?_
   obtain⟨o3700,e3701,H⟩:=bind_of H
   refine AWp.loop (LWp.conv (inv:=[(9,12),(10,13),(11,14)]) (vk:=[]) (e0:=[]) (t:=⟨[(6,.own 12),(7,.own 13),(8,.own 14),(9,iV .i64 x3623),(10,iV .u64 0),(11,iV .i64 0)],[(12,some (.row 1 22 ([Int.tmod a0 (4294967296:Int),u64.wrap (Int.tdiv a0 (4294967296:Int))].map (encInt .u64)))),(13,some (.row 1 22 ([Int.tmod a1 (4294967296:Int),u64.wrap (Int.tdiv a1 (4294967296:Int))].map (encInt .u64)))),(14,some (.row 1 22 (x3622.map (encInt .u64))))],0⟩) (by kernel_rfl) ?_)
   refine LWp.mono (Q:=fun e s=>(match (generalizing:=false) o3700 with | (x3665,x3666)=>e = .exit 2∧s=⟨[(6,.own 15),(7,.own 16),(8,.own 17),(9,iV .i64 x3623),(10,iV .u64 x3666)],[(15,some (.row 1 22 ([Int.tmod a0 (4294967296:Int),u64.wrap (Int.tdiv a0 (4294967296:Int))].map (encInt .u64)))),(16,some (.row 1 22 ([Int.tmod a1 (4294967296:Int),u64.wrap (Int.tdiv a1 (4294967296:Int))].map (encInt .u64)))),(17,some (.row 1 22 (x3665.map (encInt .u64))))],0⟩)) (LWp.cv (withBody (fun body hbody => ?_))) ?_
   ·refine f_r01_Mul.l1.partial_correctness a0 a1 x3623 (motive:=fun x3643 x3644 x3645 o3700=>LWp Γ body (fun e s=>∃ t,Cv Γ s t∧(match (generalizing:=false) o3700 with | (x3665,x3666)=>e = .exit 2∧t=⟨[(6,.own 15),(7,.own 16),(8,.own 17),(9,iV .i64 x3623),(10,iV .u64 x3666)],[(15,some (.row 1 22 ([Int.tmod a0 (4294967296:Int),u64.wrap (Int.tdiv a0 (4294967296:Int))].map (encInt .u64)))),(16,some (.row 1 22 ([Int.tmod a1 (4294967296:Int),u64.wrap (Int.tdiv a1 (4294967296:Int))].map (encInt .u64)))),(17,some (.row 1 22 (x3665.map (encInt .u64))))],0⟩)) ⟨[(6,.own 12),(7,.own 13),(8,.own 14),(9,iV .i64 x3623),(10,iV .u64 x3644),(11,iV .i64 x3645)],[(12,some (.row 1 22 ([Int.tmod a0 (4294967296:Int),u64.wrap (Int.tdiv a0 (4294967296:Int))].map (encInt .u64)))),(13,some (.row 1 22 ([Int.tmod a1 (4294967296:Int),u64.wrap (Int.tdiv a1 (4294967296:Int))].map (encInt .u64)))),(14,some (.row 1 22 (x3643.map (encInt .u64))))],0⟩) ?_ _ _ _ _ e3701
    clear H e3701 o3700;intro self ih x3643 x3644 x3645 o3700 H
    subst hbody
    refine LWp.round ?_
    refine AWp.seq ?_
    refine sr hP hn hm [] [(29,bV (decide (x3645<(2:Int))))] [6,7,8,9,10,11,29] [] [12,13,14] [] (by kernel_rfl) trivial ?_
    refine AWp.cond (decide (x3645<(2:Int))) (by kernel_rfl) (fun c3646 => ?_) (fun c3646 => ?_)
    ·replace H:=iT c3646 H
     refine AWp.skip ?_
     refine AWp.seq ?_
     refine AWp.block ?_
     obtain⟨b3656,p3657,q3658,H⟩:=at_of H
     obtain⟨b3659,p3660,q3661,H⟩:=at_of H
     obtain⟨b3662,p3663,q3664,H⟩:=at_of H
     refine sr hP hn hm [(5,.c ((encInt .u64) b3656)),(9,.c ((encInt .u64) b3659)),(13,.c ((encInt .u64) b3662))] [(12,iV .u64 (u64.wrap ((u64.wrap (b3656+(u64.wrap (b3659*b3662))))+x3644)))] [6,7,8,9,11,12] [] [12,13,14] [_,_,_,_,_,_,_,_,_] (by kernel_rfl) ⟨p3657,el_lt (encInt .u64) p3657 q3658,el_map (encInt .u64) q3658,p3660,el_lt (encInt .u64) p3660 q3661,el_map (encInt .u64) q3661,p3663,el_lt (encInt .u64) p3663 q3664,el_map (encInt .u64) q3664,trivial⟩ ?_
     refine sr hP hn hm [(7,.put ((encInt .u64) b3656) ((x3643.set (Int.toNat (i64.wrap (x3623+x3645))) (Int.tmod (u64.wrap ((u64.wrap (b3656+(u64.wrap (b3659*b3662))))+x3644)) (4294967296:Int))).map (encInt .u64)))] [] [6,7,8,9,11,12] [(14,some (.row 1 22 ((x3643.set (Int.toNat (i64.wrap (x3623+x3645))) (Int.tmod (u64.wrap ((u64.wrap (b3656+(u64.wrap (b3659*b3662))))+x3644)) (4294967296:Int))).map (encInt .u64))))] [12,13,14] [(4294967296:Int)≠0,_,_,_,(x3643.set (Int.toNat (i64.wrap (x3623+x3645))) (Int.tmod (u64.wrap ((u64.wrap (b3656+(u64.wrap (b3659*b3662))))+x3644)) (4294967296:Int))).map (encInt .u64)=(x3643.map (encInt .u64)).set (Int.toNat (i64.wrap (x3623+x3645))) (splice ((encInt .u64) b3656) 0 [iI .u64 (Int.tmod (u64.wrap ((u64.wrap (b3656+(u64.wrap (b3659*b3662))))+x3644)) (4294967296:Int))])] (by kernel_rfl) ⟨by decide,p3657,el_lt (encInt .u64) p3657 q3658,el_map (encInt .u64) q3658,by exact set1 _ _ _ _,trivial⟩ ?_
     refine rg hP hn hm [] [(10,iV .u64 (u64.wrap (Int.tdiv (u64.wrap ((u64.wrap (b3656+(u64.wrap (b3659*b3662))))+x3644)) (4294967296:Int))))] [6,7,8,9,10,11] [] [12,13,14] [(4294967296:Int)≠0] (by kernel_rfl) ⟨by decide,trivial⟩ ?_
     refine rg hP hn hm [] [(11,iV .i64 (i64.wrap (x3645+(1:Int))))] [6,7,8,9,10,11] [] [12,13,14] [] (by kernel_rfl) trivial ?_
     exact LWp.conv [(12,12),(13,13),(14,14)] [] [] (by kernel_rfl) (ih _ _ _ _ H)
    ·replace H:=iF c3646 H
     refine AWp.exit ?_
     obtain rfl:=Option.some.inj H
     exact lf [(12,15),(13,16),(14,17)] [] [] (by kernel_rfl) ⟨rfl,rfl⟩
   ·obtain⟨x3665,x3666⟩:=o3700
    rintro e s ⟨rfl,rfl⟩
    obtain⟨b3670,p3671,q3672,H⟩:=at_of H
    refine rg hP hn hm [(7,.c ((encInt .u64) b3670)),(11,.put ((encInt .u64) b3670) ((x3665.set (Int.toNat (i64.wrap (x3623+(2:Int)))) (u64.wrap (b3670+x3666))).map (encInt .u64)))] [] [6,7,8,9] [(17,some (.row 1 22 ((x3665.set (Int.toNat (i64.wrap (x3623+(2:Int)))) (u64.wrap (b3670+x3666))).map (encInt .u64))))] [15,16,17] [_,_,_,_,_,_,(x3665.set (Int.toNat (i64.wrap (x3623+(2:Int)))) (u64.wrap (b3670+x3666))).map (encInt .u64)=(x3665.map (encInt .u64)).set (Int.toNat (i64.wrap (x3623+(2:Int)))) (splice ((encInt .u64) b3670) 0 [iI .u64 (u64.wrap (b3670+x3666))])] (by kernel_rfl) ⟨p3671,el_lt (encInt .u64) p3671 q3672,el_map (encInt .u64) q3672,p3671,el_lt (encInt .u64) p3671 q3672,el_map (encInt .u64) q3672,by exact set1 _ _ _ _,trivial⟩ ?_
    refine rg hP hn hm [] [(9,iV .i64 (i64.wrap (x3623+(1:Int))))] [6,7,8,9] [] [15,16,17] [] (by kernel_rfl) trivial ?_
    exact LWp.conv [(15,9),(16,10),(17,11)] [] [] (by kernel_rfl) (ih _ _ _ H)
  ·replace H:=iF c3624 H
   refine AWp.exit ?_
   obtain rfl:=Option.some.inj H
   exact lf [(11,18)] [] [] (by kernel_rfl) ⟨rfl,rfl⟩
 ·obtain⟨x3673,rfl⟩:∃ z,z=o3698:=⟨_,rfl⟩
  rintro e s ⟨rfl,rfl⟩
  obtain⟨b3686,p3687,q3688,H⟩:=at_of H
  obtain⟨b3689,p3690,q3691,H⟩:=at_of H
  obtain⟨b3692,p3693,q3694,H⟩:=at_of H
  obtain⟨b3695,p3696,q3697,H⟩:=at_of H
  refine sr hP hn hm [(2,.c ((encInt .u64) b3686)),(6,.c ((encInt .u64) b3689)),(10,.c ((encInt .u64) b3692)),(14,.c ((encInt .u64) b3695))] [(4,iV .u64 (u64.wrap ((u64.wrap (b3686*(4294967296:Int)))+b3689))),(5,iV .u64 (u64.wrap ((u64.wrap (b3692*(4294967296:Int)))+b3695)))] [4,5] [] [] [_,_,_,_,_,_,_,_,_,_,_,_] (by kernel_rfl) ⟨p3687,el_lt (encInt .u64) p3687 q3688,el_map (encInt .u64) q3688,p3690,el_lt (encInt .u64) p3690 q3691,el_map (encInt .u64) q3691,p3693,el_lt (encInt .u64) p3693 q3694,el_map (encInt .u64) q3694,p3696,el_lt (encInt .u64) p3696 q3697,el_map (encInt .u64) q3697,trivial⟩ ?_
  refine AWp.conv (inv:=[]) (vk:=[]) (e0:=[]) (t:=⟨[(4,iV .u64 (u64.wrap ((u64.wrap (b3686*(4294967296:Int)))+b3689))),(5,iV .u64 (u64.wrap ((u64.wrap (b3692*(4294967296:Int)))+b3695)))],[],0⟩) (by kernel_rfl) ?_
  refine AWp.ret ?_
  obtain rfl:=Option.some.inj H
  exact rl (.inl rfl) rfl (by kernel_rfl) (by kernel_rfl)
def f_r08_Order.l0 (a0:THist) (x3715:List Tr08_Cell) (x3716:Int):Option (List Tr08_Cell):=if(decide (x3716<(a0.f7.length:Int)))=true then((at? a0.f7 (i64.wrap ((i64.wrap ((a0.f7.length:Int)-(1:Int)))-x3716)))>>=fun b3721=>(chk ((x3715.length+[(⟨(-1),a0.f1,b3721.f0,b3721.f1⟩:Tr08_Cell)].length)*32≤140737488355328))>>=fun _=>f_r08_Order.l0 a0 (x3715++[(⟨(-1),a0.f1,b3721.f0,b3721.f1⟩:Tr08_Cell)]) (i64.wrap (x3716+(1:Int)))) else(some x3715)
partial_fixpoint
def f_r08_Order.l1 (a0:THist) (x3740:List Tr08_Cell) (x3741:Int):Option (List Tr08_Cell):=if(decide (x3741<(a0.f6.length:Int)))=true then((at? a0.f6 x3741)>>=fun b3747=>(chk ((x3740.length+[(⟨1,a0.f1,b3747.f0,b3747.f1⟩:Tr08_Cell)].length)*32≤140737488355328))>>=fun _=>f_r08_Order.l1 a0 (x3740++[(⟨1,a0.f1,b3747.f0,b3747.f1⟩:Tr08_Cell)]) (i64.wrap (x3741+(1:Int)))) else(some x3740)
partial_fixpoint
def f_r08_Order.f (a0:THist):Option (List Tr08_Cell):=(f_r08_Order.l0 a0 [] 0)>>=fun x3726=>((if(decide (a0.f3>(0:Int)))=true then((chk ((x3726.length+[(⟨0,0,0,a0.f3⟩:Tr08_Cell)].length)*32≤140737488355328))>>=fun _=>some (x3726++[(⟨0,0,0,a0.f3⟩:Tr08_Cell)])) else(some x3726)):Option (List Tr08_Cell))>>=fun x3730=>(f_r08_Order.l1 a0 x3730 0)>>=fun x3751=>some x3751
theorem f_r08_Order.ok (a0:THist) (r:List Tr08_Cell) (H:f_r08_Order.f a0=some r):Pv.Fn Tryz.prog 48 [.agg (aHist a0)] [] 0 (fun x o=>x = .own 0∧o=[(0,some (.row 4 53 (r.map er08_Cell)))]):=by
 unfold f_r08_Order.f at H
 refine Fn.bodyK [0] Tryz.func48 rfl rfl (fun Γ hP hn => ?_)
 have hm:Tryz.prog.follows .mixedOrders=true:=by kernel_rfl
 replace hn:Γ.n=69:=hn
 refine sr hP hn hm [(0,.k 0)] [(1,.ptr 0 0 0)] [1] [(0,some (.box 32 (aHist a0)))] [0] [] (by kernel_rfl) trivial ?_
 refine sr hP hn hm [] [(3,.none0)] [1,3] [] [0] [] (by kernel_rfl) trivial ?_
 refine AWp.seq ?_
 refine sr hP hn hm [] [(4,iV .i64 0)] [1,3,4] [] [0] [] (by kernel_rfl) trivial ?_
 refine AWp.block ?_
 obtain⟨o3752,e3753,H⟩:=bind_of H
 refine AWp.loop (LWp.conv (inv:=[(0,4)]) (vk:=[]) (e0:=[5]) (t:=⟨[(1,.ptr 4 0 0),(3,.own 5),(4,iV .i64 0)],[(4,some (.box 32 (aHist a0))),(5,some (.row 4 53 ([].map er08_Cell)))],0⟩) (by kernel_rfl) ?_)
 refine LWp.mono (Q:=fun e s=>(match (generalizing:=false) o3752 with | x3726=>e = .exit 0∧s=⟨[(1,.ptr 9 0 0),(3,.own 10)],[(9,some (.box 32 (aHist a0))),(10,some (.row 4 53 (x3726.map er08_Cell)))],0⟩)) (LWp.cv (withBody (fun body hbody => ?_))) ?_
 ·refine f_r08_Order.l0.partial_correctness a0 (motive:=fun x3715 x3716 o3752=>LWp Γ body (fun e s=>∃ t,Cv Γ s t∧(match (generalizing:=false) o3752 with | x3726=>e = .exit 0∧t=⟨[(1,.ptr 9 0 0),(3,.own 10)],[(9,some (.box 32 (aHist a0))),(10,some (.row 4 53 (x3726.map er08_Cell)))],0⟩)) ⟨[(1,.ptr 4 0 0),(3,.own 5),(4,iV .i64 x3716)],[(4,some (.box 32 (aHist a0))),(5,some (.row 4 53 (x3715.map er08_Cell)))],0⟩) ?_ _ _ _ e3753
  clear H e3753 o3752;intro self ih x3715 x3716 o3752 H
  subst hbody
  refine LWp.round ?_
  refine AWp.seq ?_
  refine sr hP hn hm [(3,.any (iV .i64 (a0.f7.length:Int)))] [(11,bV (decide (x3716<(a0.f7.length:Int))))] [1,3,4,11] [] [4,5] [((a0.f7.map eBucket).length:Int)=(a0.f7.length:Int)] (by kernel_rfl) ⟨by rw[len_map],trivial⟩ ?_
  refine AWp.cond (decide (x3716<(a0.f7.length:Int))) (by kernel_rfl) (fun c3717 => ?_) (fun c3717 => ?_)
  ·replace H:=iT c3717 H
   refine AWp.skip ?_
   refine AWp.seq ?_
   refine AWp.block ?_
   obtain⟨b3721,p3722,q3723,H⟩:=at_of H
   refine sr hP hn hm [(4,.any (iV .i64 (a0.f7.length:Int))),(8,.c (eBucket b3721)),(10,.k 6)] [(5,.ptr 6 0 0)] [1,3,4,5] [(6,some (.box 89 (aBucket b3721)))] [4,5,6] [((a0.f7.map eBucket).length:Int)=(a0.f7.length:Int),_,_] (by kernel_rfl) ⟨by rw[len_map],p3722,el_map eBucket q3723,trivial⟩ ?_
   obtain⟨c3725,H⟩:=chk_of H
   refine rg hP hn hm [(8,.app 7 ([(⟨(-1),a0.f1,b3721.f0,b3721.f1⟩:Tr08_Cell)].map er08_Cell)),(9,.app 8 ((x3715++[(⟨(-1),a0.f1,b3721.f0,b3721.f1⟩:Tr08_Cell)]).map er08_Cell))] [(3,.own 8)] [1,3,4] [(8,some (.row 4 53 ((x3715++[(⟨(-1),a0.f1,b3721.f0,b3721.f1⟩:Tr08_Cell)]).map er08_Cell)))] [4,8] [[(⟨(-1),a0.f1,b3721.f0,b3721.f1⟩:Tr08_Cell)].map er08_Cell=[[iI .i64 (-1),iI .i64 a0.f1,iI .i64 b3721.f0,iI .u64 b3721.f1]],(x3715++[(⟨(-1),a0.f1,b3721.f0,b3721.f1⟩:Tr08_Cell)]).map er08_Cell=(x3715.map er08_Cell)++([(⟨(-1),a0.f1,b3721.f0,b3721.f1⟩:Tr08_Cell)].map er08_Cell),∀ c∈([(⟨(-1),a0.f1,b3721.f0,b3721.f1⟩:Tr08_Cell)].map er08_Cell),c.length=4,∀ c∈([(⟨(-1),a0.f1,b3721.f0,b3721.f1⟩:Tr08_Cell)].map er08_Cell),leaves (c.map .im)=true,((x3715.map er08_Cell).length+([(⟨(-1),a0.f1,b3721.f0,b3721.f1⟩:Tr08_Cell)].map er08_Cell).length)*32≤140737488355328] (by kernel_rfl) ⟨by exact rfl,by simp,by exact all_len _ _ _ (fun _=>rfl),by exact all_leaf _ _ (fun _=>rfl),by simpa using c3725,trivial⟩ ?_
   refine rg hP hn hm [] [(4,iV .i64 (i64.wrap (x3716+(1:Int))))] [1,3,4] [] [4,8] [] (by kernel_rfl) trivial ?_
   exact LWp.conv [(4,4),(8,5)] [] [] (by kernel_rfl) (ih _ _ _ H)
  ·replace H:=iF c3717 H
   refine AWp.exit ?_
   obtain rfl:=Option.some.inj H
   exact lf [(4,9),(5,10)] [] [] (by kernel_rfl) ⟨rfl,rfl⟩
 ·obtain⟨x3726,rfl⟩:∃ z,z=o3752:=⟨_,rfl⟩
  rintro e s ⟨rfl,rfl⟩
  refine AWp.seq ?_
  refine sr hP hn hm [] [(36,bV (decide (a0.f3>(0:Int))))] [1,3,36] [] [9,10] [] (by kernel_rfl) trivial ?_
  obtain⟨o3754,e3755,H⟩:=bind_of H
  refine AWp.mono (Q:=fun e s=>(match (generalizing:=false) o3754 with | x3730=>e = .normal∧s=⟨[(1,.ptr 13 0 0),(3,.own 14)],[(13,some (.box 32 (aHist a0))),(14,some (.row 4 53 (x3730.map er08_Cell)))],0⟩)) (AWp.cv ?_) ?_
  ·replace H:=e3755;clear e3755
   refine AWp.cond (decide (a0.f3>(0:Int))) (by kernel_rfl) (fun c3727 => ?_) (fun c3727 => ?_)
   ·replace H:=iT c3727 H
    obtain⟨c3729,H⟩:=chk_of H
    refine rg hP hn hm [(4,.app 11 ([(⟨0,0,0,a0.f3⟩:Tr08_Cell)].map er08_Cell)),(5,.app 12 ((x3726++[(⟨0,0,0,a0.f3⟩:Tr08_Cell)]).map er08_Cell))] [(3,.own 12)] [1,3] [(12,some (.row 4 53 ((x3726++[(⟨0,0,0,a0.f3⟩:Tr08_Cell)]).map er08_Cell)))] [9,12] [[(⟨0,0,0,a0.f3⟩:Tr08_Cell)].map er08_Cell=[[iI .i64 0,iI .i64 0,iI .i64 0,iI .u64 a0.f3]],(x3726++[(⟨0,0,0,a0.f3⟩:Tr08_Cell)]).map er08_Cell=(x3726.map er08_Cell)++([(⟨0,0,0,a0.f3⟩:Tr08_Cell)].map er08_Cell),∀ c∈([(⟨0,0,0,a0.f3⟩:Tr08_Cell)].map er08_Cell),c.length=4,∀ c∈([(⟨0,0,0,a0.f3⟩:Tr08_Cell)].map er08_Cell),leaves (c.map .im)=true,((x3726.map er08_Cell).length+([(⟨0,0,0,a0.f3⟩:Tr08_Cell)].map er08_Cell).length)*32≤140737488355328] (by kernel_rfl) ⟨by exact rfl,by simp,by exact all_len _ _ _ (fun _=>rfl),by exact all_leaf _ _ (fun _=>rfl),by simpa using c3729,trivial⟩ ?_
    obtain rfl:=Option.some.inj H
    exact lf [(9,13),(12,14)] [] [] (by kernel_rfl) ⟨rfl,rfl⟩
   ·replace H:=iF c3727 H
    refine AWp.skip ?_
    obtain rfl:=Option.some.inj H
    exact lf [(9,13),(10,14)] [] [] (by kernel_rfl) ⟨rfl,rfl⟩
  ·obtain⟨x3730,rfl⟩:∃ z,z=o3754:=⟨_,rfl⟩
   rintro e s ⟨rfl,rfl⟩
   refine AWp.seq ?_
   refine sr hP hn hm [] [(6,iV .i64 0)] [1,3,6] [] [13,14] [] (by kernel_rfl) trivial ?_
   refine AWp.block ?_
   obtain⟨o3756,e3757,H⟩:=bind_of H
   refine AWp.loop (LWp.conv (inv:=[(13,17),(14,18)]) (vk:=[]) (e0:=[]) (t:=⟨[(1,.ptr 17 0 0),(3,.own 18),(6,iV .i64 0)],[(17,some (.box 32 (aHist a0))),(18,some (.row 4 53 (x3730.map er08_Cell)))],0⟩) (by kernel_rfl) ?_)
   refine LWp.mono (Q:=fun e s=>(match (generalizing:=false) o3756 with | x3751=>e = .exit 2∧s=⟨[(3,.own 21)],[(21,some (.row 4 53 (x3751.map er08_Cell)))],0⟩)) (LWp.cv (withBody (fun body hbody => ?_))) ?_
   ·refine f_r08_Order.l1.partial_correctness a0 (motive:=fun x3740 x3741 o3756=>LWp Γ body (fun e s=>∃ t,Cv Γ s t∧(match (generalizing:=false) o3756 with | x3751=>e = .exit 2∧t=⟨[(3,.own 21)],[(21,some (.row 4 53 (x3751.map er08_Cell)))],0⟩)) ⟨[(1,.ptr 17 0 0),(3,.own 18),(6,iV .i64 x3741)],[(17,some (.box 32 (aHist a0))),(18,some (.row 4 53 (x3740.map er08_Cell)))],0⟩) ?_ _ _ _ e3757
    clear H e3757 o3756;intro self ih x3740 x3741 o3756 H
    subst hbody
    refine LWp.round ?_
    refine AWp.seq ?_
    refine sr hP hn hm [(3,.any (iV .i64 (a0.f6.length:Int)))] [(47,bV (decide (x3741<(a0.f6.length:Int))))] [1,3,6,47] [] [17,18] [((a0.f6.map eBucket).length:Int)=(a0.f6.length:Int)] (by kernel_rfl) ⟨by rw[len_map],trivial⟩ ?_
    refine AWp.cond (decide (x3741<(a0.f6.length:Int))) (by kernel_rfl) (fun c3742 => ?_) (fun c3742 => ?_)
    ·replace H:=iT c3742 H
     refine AWp.skip ?_
     refine AWp.seq ?_
     refine AWp.block ?_
     obtain⟨b3747,p3748,q3749,H⟩:=at_of H
     obtain⟨c3750,H⟩:=chk_of H
     refine rg hP hn hm [(6,.c (eBucket b3747)),(12,.c (eBucket b3747)),(16,.app 19 ([(⟨1,a0.f1,b3747.f0,b3747.f1⟩:Tr08_Cell)].map er08_Cell)),(17,.app 20 ((x3740++[(⟨1,a0.f1,b3747.f0,b3747.f1⟩:Tr08_Cell)]).map er08_Cell))] [(3,.own 20)] [1,3,6] [(20,some (.row 4 53 ((x3740++[(⟨1,a0.f1,b3747.f0,b3747.f1⟩:Tr08_Cell)]).map er08_Cell)))] [17,20] [_,_,_,_,[(⟨1,a0.f1,b3747.f0,b3747.f1⟩:Tr08_Cell)].map er08_Cell=[[iI .i64 1,iI .i64 a0.f1,iI .i64 b3747.f0,iI .u64 b3747.f1]],(x3740++[(⟨1,a0.f1,b3747.f0,b3747.f1⟩:Tr08_Cell)]).map er08_Cell=(x3740.map er08_Cell)++([(⟨1,a0.f1,b3747.f0,b3747.f1⟩:Tr08_Cell)].map er08_Cell),∀ c∈([(⟨1,a0.f1,b3747.f0,b3747.f1⟩:Tr08_Cell)].map er08_Cell),c.length=4,∀ c∈([(⟨1,a0.f1,b3747.f0,b3747.f1⟩:Tr08_Cell)].map er08_Cell),leaves (c.map .im)=true,((x3740.map er08_Cell).length+([(⟨1,a0.f1,b3747.f0,b3747.f1⟩:Tr08_Cell)].map er08_Cell).length)*32≤140737488355328] (by kernel_rfl) ⟨p3748,el_map eBucket q3749,p3748,el_map eBucket q3749,by exact rfl,by simp,by exact all_len _ _ _ (fun _=>rfl),by exact all_leaf _ _ (fun _=>rfl),by simpa using c3750,trivial⟩ ?_
     refine rg hP hn hm [] [(6,iV .i64 (i64.wrap (x3741+(1:Int))))] [1,3,6] [] [17,20] [] (by kernel_rfl) trivial ?_
     exact LWp.conv [(17,17),(20,18)] [] [] (by kernel_rfl) (ih _ _ _ H)
    ·replace H:=iF c3742 H
     refine AWp.exit ?_
     obtain rfl:=Option.some.inj H
     exact lf [(18,21)] [] [] (by kernel_rfl) ⟨rfl,rfl⟩
   ·obtain⟨x3751,rfl⟩:∃ z,z=o3756:=⟨_,rfl⟩
    rintro e s ⟨rfl,rfl⟩
    refine sr hP hn hm [] [(2,.own 21)] [2] [] [21] [] (by kernel_rfl) trivial ?_
    refine AWp.conv (inv:=[(21,0)]) (vk:=[]) (e0:=[]) (t:=⟨[(2,.own 0)],[(0,some (.row 4 53 (x3751.map er08_Cell)))],0⟩) (by kernel_rfl) ?_
    refine AWp.ret ?_
    obtain rfl:=Option.some.inj H
    exact rl (.inl rfl) rfl (by kernel_rfl) (by kernel_rfl)
def f_r01_Less.f (a0:Int) (a1:Int) (a2:Int) (a3:Int):Option (Bool):=if(a0 != a2)=true then(some (decide (a0<a2))) else(some (decide (a1<a3)))
theorem f_r01_Less.ok (a0:Int) (a1:Int) (a2:Int) (a3:Int) (r:Bool) (H:f_r01_Less.f a0 a1 a2 a3=some r):Pv.Fn Tryz.prog 49 [iV .u64 a0,iV .u64 a1,iV .u64 a2,iV .u64 a3] [] 0 (fun x o=>x=bV r∧o=[]):=by
 unfold f_r01_Less.f at H
 refine Fn.bodyK [] Tryz.func49 rfl rfl (fun Γ hP hn => ?_)
 have hm:Tryz.prog.follows .mixedOrders=true:=by kernel_rfl
 replace hn:Γ.n=18:=hn
 refine sr hP hn hm [] [] [0,1,2,3] [] [] [] (by kernel_rfl) trivial ?_
 refine AWp.seq ?_
 refine sr hP hn hm [] [(11,bV (a0 != a2))] [0,1,2,3,11] [] [] [] (by kernel_rfl) trivial ?_
 refine AWp.cond (a0 != a2) (by kernel_rfl) (fun c3773 => ?_) (fun c3773 => ?_)
 ·replace H:=iT c3773 H
  refine sr hP hn hm [] [(8,bV (decide (a0<a2)))] [8] [] [] [] (by kernel_rfl) trivial ?_
  refine AWp.conv (inv:=[]) (vk:=[]) (e0:=[]) (t:=⟨[(8,bV (decide (a0<a2)))],[],0⟩) (by kernel_rfl) ?_
  refine AWp.ret ?_
  obtain rfl:=Option.some.inj H
  exact rl (.inl rfl) rfl (by kernel_rfl) (by kernel_rfl)
 ·replace H:=iF c3773 H
  refine AWp.skip ?_
  refine sr hP hn hm [] [(8,bV (decide (a1<a3)))] [8] [] [] [] (by kernel_rfl) trivial ?_
  refine AWp.conv (inv:=[]) (vk:=[]) (e0:=[]) (t:=⟨[(8,bV (decide (a1<a3)))],[],0⟩) (by kernel_rfl) ?_
  refine AWp.ret ?_
  obtain rfl:=Option.some.inj H
  exact rl (.inl rfl) rfl (by kernel_rfl) (by kernel_rfl)
def f_r08_Quantile.l0 (a2:Int) (t3704:Int×Int) (t3760:List Tr08_Cell) (x3779:Int) (x3780:Int):Option ((Tr08_Cell×Int) ⊕ Unit):=if(decide (x3780<(t3760.length:Int)))=true then((at? t3760 x3780)>>=fun b3785=>(f_r01_Mul.f a2 (u64.wrap (x3779+b3785.f3)))>>=fun t3790=>(f_r01_Less.f t3790.1 t3790.2 t3704.1 t3704.2)>>=fun t3794=>if(!t3794)=true then(some (.inl (b3785,0))) else(f_r08_Quantile.l0 a2 t3704 t3760 (u64.wrap (x3779+b3785.f3)) (i64.wrap (x3780+(1:Int))))) else(some (.inr ()))
partial_fixpoint
def f_r08_Quantile.f (a0:THist) (a1:Int) (a2:Int):Option (Tr08_Cell×Int):=((if(a2==(0:Int))=true then(some true) else(some (decide (a1>a2)))):Option (Bool))>>=fun x3571=>if x3571=true then(some ((⟨0,0,0,0⟩:Tr08_Cell),1)) else(if(a0.f4==(0:Int))=true then(some ((⟨0,0,0,0⟩:Tr08_Cell),30)) else((f_r01_Mul.f a1 a0.f4)>>=fun t3704=>(f_r08_Order.f a0)>>=fun t3760=>(f_r08_Quantile.l0 a2 t3704 t3760 0 0)>>=fun oo=>match oo with | .inl rr=>(some rr) | .inr _=>((at? t3760 (i64.wrap ((t3760.length:Int)-(1:Int))))>>=fun b3800=>some (b3800,0))))
theorem f_r08_Quantile.ok (a0:THist) (a1:Int) (a2:Int) (r:Tr08_Cell×Int) (H:f_r08_Quantile.f a0 a1 a2=some r):Pv.Fn Tryz.prog 29 [.agg (aHist a0),iV .u64 a1,iV .u64 a2] [] 0 (fun x o=>x = .tup [.agg (ar08_Cell (r.1)),iV .i64 r.2]∧o=[]):=by
 unfold f_r08_Quantile.f at H
 refine Fn.bodyK [] Tryz.func29 rfl rfl (fun Γ hP hn => ?_)
 have hm:Tryz.prog.follows .mixedOrders=true:=by kernel_rfl
 replace hn:Γ.n=71:=hn
 refine sr hP hn hm [(0,.k 0),(1,.k 1)] [(3,.ptr 0 0 0),(6,.ptr 1 0 0)] [1,2,3,6] [(0,some (.box 32 (aHist a0))),(1,some (.box 53 (ar08_Cell ⟨0,0,0,0⟩)))] [0,1] [] (by kernel_rfl) trivial ?_
 refine AWp.seq ?_
 refine AWp.seq ?_
 obtain⟨o3803,e3804,H⟩:=bind_of H
 refine AWp.mono (Q:=fun e s=>(match (generalizing:=false) o3803 with | x3571=>e = .normal∧s=⟨[(1,iV .u64 a1),(2,iV .u64 a2),(3,.ptr 2 0 0),(6,.ptr 3 0 0),(21,bV x3571)],[(2,some (.box 32 (aHist a0))),(3,some (.box 53 (ar08_Cell ⟨0,0,0,0⟩)))],0⟩)) (AWp.cv ?_) ?_
 ·replace H:=e3804;clear e3804
  rcases Bool.eq_false_or_eq_true (a2==(0:Int)) with c3570 | c3570
  ·replace H:=iT c3570 H
   refine rg hP hn hm [(2,.b true)] [(21,bV true)] [1,2,3,6,21] [] [0,1] [_] (by kernel_rfl) ⟨c3570,trivial⟩ ?_
   obtain rfl:=Option.some.inj H
   exact lf [(0,2),(1,3)] [] [] (by kernel_rfl) ⟨rfl,rfl⟩
  ·replace H:=iF c3570 H
   refine rg hP hn hm [(2,.b false)] [(21,bV (decide (a1>a2)))] [1,2,3,6,21] [] [0,1] [_] (by kernel_rfl) ⟨c3570,trivial⟩ ?_
   obtain rfl:=Option.some.inj H
   exact lf [(0,2),(1,3)] [] [] (by kernel_rfl) ⟨rfl,rfl⟩
 ·obtain⟨x3571,rfl⟩:∃ z,z=o3803:=⟨_,rfl⟩
  rintro e s ⟨rfl,rfl⟩
  refine AWp.cond x3571 (by kernel_rfl) (fun c3572 => ?_) (fun c3572 => ?_)
  ·replace H:=iT c3572 H
   refine sr hP hn hm [] [(7,iV .i64 1)] [6,7] [] [3] [] (by kernel_rfl) trivial ?_
   refine AWp.conv (inv:=[(3,0)]) (vk:=[]) (e0:=[]) (t:=⟨[(6,.ptr 0 0 0),(7,iV .i64 1)],[(0,some (.box 53 (ar08_Cell ((⟨0,0,0,0⟩:Tr08_Cell)))))],0⟩) (by kernel_rfl) ?_
   refine AWp.ret ?_
   obtain rfl:=Option.some.inj H
   exact rl (.inl rfl) rfl (by kernel_rfl) (by kernel_rfl)
  ·replace H:=iF c3572 H
   refine AWp.skip ?_
   refine AWp.seq ?_
   refine sr hP hn hm [] [(25,bV (a0.f4==(0:Int)))] [1,2,3,6,25] [] [2,3] [] (by kernel_rfl) trivial ?_
   refine AWp.cond (a0.f4==(0:Int)) (by kernel_rfl) (fun c3573 => ?_) (fun c3573 => ?_)
   ·replace H:=iT c3573 H
    refine sr hP hn hm [] [(7,iV .i64 30)] [6,7] [] [3] [] (by kernel_rfl) trivial ?_
    refine AWp.conv (inv:=[(3,0)]) (vk:=[]) (e0:=[]) (t:=⟨[(6,.ptr 0 0 0),(7,iV .i64 30)],[(0,some (.box 53 (ar08_Cell ((⟨0,0,0,0⟩:Tr08_Cell)))))],0⟩) (by kernel_rfl) ?_
    refine AWp.ret ?_
    obtain rfl:=Option.some.inj H
    exact rl (.inl rfl) rfl (by kernel_rfl) (by kernel_rfl)
   ·replace H:=iF c3573 H
    refine AWp.skip ?_
    obtain⟨t3704,e3705,H⟩:=bind_of H
    refine sr hP hn hm [(3,.call [] [] [] [] 0 (.tup [iV .u64 t3704.1,iV .u64 t3704.2]) [])] [(8,iV .u64 t3704.1),(9,iV .u64 t3704.2)] [2,3,6,8,9] [] [2,3] [_,_] (by kernel_rfl) ⟨Tryz.call47,f_r01_Mul.ok a1 a0.f4 t3704 e3705,trivial⟩ ?_
    obtain⟨t3760,e3761,H⟩:=bind_of H
    refine sr hP hn hm [(1,.call [] [(0,4)] [] [4] 0 (.own 0) [(0,some (.row 4 53 (t3760.map er08_Cell)))])] [(10,.own 4)] [2,6,8,9,10] [(4,some (.row 4 53 (t3760.map er08_Cell)))] [3,4] [_,_] (by kernel_rfl) ⟨Tryz.call48,f_r08_Order.ok a0 t3760 e3761,trivial⟩ ?_
    refine sr hP hn hm [] [(11,iV .u64 0)] [2,6,8,9,10,11] [] [3,4] [] (by kernel_rfl) trivial ?_
    refine AWp.seq ?_
    refine sr hP hn hm [] [(12,iV .i64 0)] [2,6,8,9,10,11,12] [] [3,4] [] (by kernel_rfl) trivial ?_
    refine AWp.block ?_
    obtain⟨o3805,e3806,H⟩:=bind_of H
    refine AWp.loop (LWp.conv (inv:=[(3,5),(4,6)]) (vk:=[]) (e0:=[]) (t:=⟨[(2,iV .u64 a2),(6,.ptr 5 0 0),(8,iV .u64 t3704.1),(9,iV .u64 t3704.2),(10,.own 6),(11,iV .u64 0),(12,iV .i64 0)],[(5,some (.box 53 (ar08_Cell ⟨0,0,0,0⟩))),(6,some (.row 4 53 (t3760.map er08_Cell)))],0⟩) (by kernel_rfl) ?_)
    refine LWp.mono (Q:=fun e s=>(match (generalizing:=false) o3805 with | .inl rr=>e = .ret∧s.floor=0∧resOf Tryz.prog Tryz.f29 s=some (.tup [.agg (ar08_Cell (rr.1)),iV .i64 rr.2])∧([]:List (Nat×Option MObj))=[] | .inr _=>e = .exit 0∧s=⟨[(6,.ptr 7 0 0),(10,.own 8)],[(7,some (.box 53 (ar08_Cell ⟨0,0,0,0⟩))),(8,some (.row 4 53 (t3760.map er08_Cell)))],0⟩)) (LWp.cv (withBody (fun body hbody => ?_))) ?_
    ·refine f_r08_Quantile.l0.partial_correctness a2 t3704 t3760 (motive:=fun x3779 x3780 o3805=>LWp Γ body (fun e s=>∃ t,Cv Γ s t∧(match (generalizing:=false) o3805 with | .inl rr=>e = .ret∧t.floor=0∧resOf Tryz.prog Tryz.f29 t=some (.tup [.agg (ar08_Cell (rr.1)),iV .i64 rr.2])∧([]:List (Nat×Option MObj))=[] | .inr _=>e = .exit 0∧t=⟨[(6,.ptr 7 0 0),(10,.own 8)],[(7,some (.box 53 (ar08_Cell ⟨0,0,0,0⟩))),(8,some (.row 4 53 (t3760.map er08_Cell)))],0⟩)) ⟨[(2,iV .u64 a2),(6,.ptr 5 0 0),(8,iV .u64 t3704.1),(9,iV .u64 t3704.2),(10,.own 6),(11,iV .u64 x3779),(12,iV .i64 x3780)],[(5,some (.box 53 (ar08_Cell ⟨0,0,0,0⟩))),(6,some (.row 4 53 (t3760.map er08_Cell)))],0⟩) ?_ _ _ _ e3806
     clear H e3806 o3805;intro self ih x3779 x3780 o3805 H
     subst hbody
     refine LWp.round ?_
     refine AWp.seq ?_
     refine sr hP hn hm [(2,.any (iV .i64 (t3760.length:Int)))] [(39,bV (decide (x3780<(t3760.length:Int))))] [2,6,8,9,10,11,12,39] [] [5,6] [((t3760.map er08_Cell).length:Int)=(t3760.length:Int)] (by kernel_rfl) ⟨by rw[len_map],trivial⟩ ?_
     refine AWp.cond (decide (x3780<(t3760.length:Int))) (by kernel_rfl) (fun c3781 => ?_) (fun c3781 => ?_)
     ·replace H:=iT c3781 H
      refine AWp.skip ?_
      refine AWp.seq ?_
      refine AWp.block ?_
      obtain⟨b3785,p3786,q3787,H⟩:=at_of H
      refine sr hP hn hm [(5,.c (er08_Cell b3785))] [(11,iV .u64 (u64.wrap (x3779+b3785.f3)))] [2,6,8,9,10,11,12] [] [5,6] [_,_,_] (by kernel_rfl) ⟨p3786,el_lt er08_Cell p3786 q3787,el_map er08_Cell q3787,trivial⟩ ?_
      obtain⟨t3790,e3791,H⟩:=bind_of H
      refine sr hP hn hm [(2,.call [] [] [] [] 0 (.tup [iV .u64 t3790.1,iV .u64 t3790.2]) [])] [(13,iV .u64 t3790.1),(14,iV .u64 t3790.2)] [2,6,8,9,10,11,12,13,14] [] [5,6] [_,_] (by kernel_rfl) ⟨Tryz.call47,f_r01_Mul.ok a2 (u64.wrap (x3779+b3785.f3)) t3790 e3791,trivial⟩ ?_
      obtain⟨t3794,e3795,H⟩:=bind_of H
      refine sr hP hn hm [(4,.call [] [] [] [] 0 (bV t3794) [])] [(60,bV (!t3794))] [2,6,8,9,10,11,12,60] [] [5,6] [_,_] (by kernel_rfl) ⟨Tryz.call49,f_r01_Less.ok t3790.1 t3790.2 t3704.1 t3704.2 t3794 e3795,trivial⟩ ?_
      refine AWp.cond (!t3794) (by kernel_rfl) (fun c3796 => ?_) (fun c3796 => ?_)
      ·replace H:=iT c3796 H
       refine sr hP hn hm [(3,.c (er08_Cell b3785))] [(7,iV .i64 0)] [6,7] [(5,some (.box 53 (ar08_Cell b3785)))] [5] [_,_,_] (by kernel_rfl) ⟨p3786,el_lt er08_Cell p3786 q3787,el_map er08_Cell q3787,trivial⟩ ?_
       refine AWp.conv (inv:=[(5,0)]) (vk:=[]) (e0:=[]) (t:=⟨[(6,.ptr 0 0 0),(7,iV .i64 0)],[(0,some (.box 53 (ar08_Cell (b3785))))],0⟩) (by kernel_rfl) ?_
       refine AWp.ret ?_
       obtain rfl:=Option.some.inj H
       exact rl rfl rfl (by kernel_rfl) (by kernel_rfl)
      ·replace H:=iF c3796 H
       refine AWp.skip ?_
       refine rg hP hn hm [] [(12,iV .i64 (i64.wrap (x3780+(1:Int))))] [2,6,8,9,10,11,12] [] [5,6] [] (by kernel_rfl) trivial ?_
       exact LWp.conv [(5,5),(6,6)] [] [] (by kernel_rfl) (ih _ _ _ H)
     ·replace H:=iF c3781 H
      refine AWp.exit ?_
      obtain rfl:=Option.some.inj H
      exact lf [(5,7),(6,8)] [] [] (by kernel_rfl) ⟨rfl,rfl⟩
    ·rcases o3805 with rr | _
     ·skip
      rintro e s ⟨rfl,hfl,hres⟩
      obtain rfl:=Option.some.inj H
      exact Exists.intro _ (And.intro (fun _ _ h=>h) (And.intro (.inl rfl) (And.intro hfl hres)))
     ·skip
      rintro e s ⟨rfl,rfl⟩
      obtain⟨b3800,p3801,q3802,H⟩:=at_of H
      refine sr hP hn hm [(2,.any (iV .i64 (t3760.length:Int))),(5,.c (er08_Cell b3800))] [(7,iV .i64 0)] [6,7] [(7,some (.box 53 (ar08_Cell b3800)))] [7] [((t3760.map er08_Cell).length:Int)=(t3760.length:Int),_,_,_] (by kernel_rfl) ⟨by rw[len_map],p3801,el_lt er08_Cell p3801 q3802,el_map er08_Cell q3802,trivial⟩ ?_
      refine AWp.conv (inv:=[(7,0)]) (vk:=[]) (e0:=[]) (t:=⟨[(6,.ptr 0 0 0),(7,iV .i64 0)],[(0,some (.box 53 (ar08_Cell (b3800))))],0⟩) (by kernel_rfl) ?_
      refine AWp.ret ?_
      obtain rfl:=Option.some.inj H
      exact rl (.inl rfl) rfl (by kernel_rfl) (by kernel_rfl)
def f_r08_ends.f (a0:THist) (a1:Tr08_Cell):Option (Int×Int×Int×Int):=if(a1.f0==(0:Int))=true then(if(a0.f2==(-524288))=true then(some (0,0,0,0)) else(some ((-1),a0.f2,1,a0.f2))) else((f_r04_Units.f a1.f1 (i64.wrap (a1.f2-(1:Int))))>>=fun t3850=>(f_r04_Units.f a1.f1 a1.f2)>>=fun t3852=>if(decide (a1.f0>(0:Int)))=true then(some (1,t3850,1,t3852)) else(some ((-1),t3852,(-1),t3850)))
theorem f_r08_ends.ok (a0:THist) (a1:Tr08_Cell) (r:Int×Int×Int×Int) (H:f_r08_ends.f a0 a1=some r):Pv.Fn Tryz.prog 50 [.agg (aHist a0),.agg (ar08_Cell a1)] [] 0 (fun x o=>x = .tup [iV .i64 r.1,iV .i64 r.2.1,iV .i64 r.2.2.1,iV .i64 r.2.2.2]∧o=[]):=by
 unfold f_r08_ends.f at H
 refine Fn.bodyK [] Tryz.func50 rfl rfl (fun Γ hP hn => ?_)
 have hm:Tryz.prog.follows .mixedOrders=true:=by kernel_rfl
 replace hn:Γ.n=38:=hn
 refine sr hP hn hm [(0,.k 0),(1,.k 1)] [(2,.ptr 0 0 0),(3,.ptr 1 0 0)] [2,3] [(0,some (.box 32 (aHist a0))),(1,some (.box 53 (ar08_Cell a1)))] [0,1] [] (by kernel_rfl) trivial ?_
 refine AWp.seq ?_
 refine sr hP hn hm [] [(12,bV (a1.f0==(0:Int)))] [2,3,12] [] [0,1] [] (by kernel_rfl) trivial ?_
 refine AWp.cond (a1.f0==(0:Int)) (by kernel_rfl) (fun c3844 => ?_) (fun c3844 => ?_)
 ·replace H:=iT c3844 H
  refine AWp.seq ?_
  refine sr hP hn hm [] [(15,bV (a0.f2==(-524288)))] [2,15] [] [0] [] (by kernel_rfl) trivial ?_
  refine AWp.cond (a0.f2==(-524288)) (by kernel_rfl) (fun c3845 => ?_) (fun c3845 => ?_)
  ·replace H:=iT c3845 H
   refine sr hP hn hm [] [(4,iV .i64 0),(5,iV .i64 0),(6,iV .i64 0),(7,iV .i64 0)] [4,5,6,7] [] [] [] (by kernel_rfl) trivial ?_
   refine AWp.conv (inv:=[]) (vk:=[]) (e0:=[]) (t:=⟨[(4,iV .i64 0),(5,iV .i64 0),(6,iV .i64 0),(7,iV .i64 0)],[],0⟩) (by kernel_rfl) ?_
   refine AWp.ret ?_
   obtain rfl:=Option.some.inj H
   exact rl (.inl rfl) rfl (by kernel_rfl) (by kernel_rfl)
  ·replace H:=iF c3845 H
   refine AWp.skip ?_
   refine sr hP hn hm [] [(4,iV .i64 (-1)),(5,iV .i64 a0.f2),(6,iV .i64 1),(7,iV .i64 a0.f2)] [4,5,6,7] [] [] [] (by kernel_rfl) trivial ?_
   refine AWp.conv (inv:=[]) (vk:=[]) (e0:=[]) (t:=⟨[(4,iV .i64 (-1)),(5,iV .i64 a0.f2),(6,iV .i64 1),(7,iV .i64 a0.f2)],[],0⟩) (by kernel_rfl) ?_
   refine AWp.ret ?_
   obtain rfl:=Option.some.inj H
   exact rl (.inl rfl) rfl (by kernel_rfl) (by kernel_rfl)
 ·replace H:=iF c3844 H
  refine AWp.skip ?_
  obtain⟨t3850,e3851,H⟩:=bind_of H
  obtain⟨t3852,e3853,H⟩:=bind_of H
  refine sr hP hn hm [(5,.call [] [] [] [] 0 (iV .i64 t3850) []),(10,.call [] [] [] [] 0 (iV .i64 t3852) [])] [(8,iV .i64 t3850),(9,iV .i64 t3852)] [3,8,9] [] [1] [_,_,_,_] (by kernel_rfl) ⟨Tryz.call55,f_r04_Units.ok a1.f1 (i64.wrap (a1.f2-(1:Int))) t3850 e3851,Tryz.call55,f_r04_Units.ok a1.f1 a1.f2 t3852 e3853,trivial⟩ ?_
  refine AWp.seq ?_
  refine sr hP hn hm [] [(33,bV (decide (a1.f0>(0:Int))))] [8,9,33] [] [] [] (by kernel_rfl) trivial ?_
  refine AWp.cond (decide (a1.f0>(0:Int))) (by kernel_rfl) (fun c3854 => ?_) (fun c3854 => ?_)
  ·replace H:=iT c3854 H
   refine sr hP hn hm [] [(4,iV .i64 1),(5,iV .i64 t3850),(6,iV .i64 1),(7,iV .i64 t3852)] [4,5,6,7] [] [] [] (by kernel_rfl) trivial ?_
   refine AWp.conv (inv:=[]) (vk:=[]) (e0:=[]) (t:=⟨[(4,iV .i64 1),(5,iV .i64 t3850),(6,iV .i64 1),(7,iV .i64 t3852)],[],0⟩) (by kernel_rfl) ?_
   refine AWp.ret ?_
   obtain rfl:=Option.some.inj H
   exact rl (.inl rfl) rfl (by kernel_rfl) (by kernel_rfl)
  ·replace H:=iF c3854 H
   refine AWp.skip ?_
   refine sr hP hn hm [] [(4,iV .i64 (-1)),(5,iV .i64 t3852),(6,iV .i64 (-1)),(7,iV .i64 t3850)] [4,5,6,7] [] [] [] (by kernel_rfl) trivial ?_
   refine AWp.conv (inv:=[]) (vk:=[]) (e0:=[]) (t:=⟨[(4,iV .i64 (-1)),(5,iV .i64 t3852),(6,iV .i64 (-1)),(7,iV .i64 t3850)],[],0⟩) (by kernel_rfl) ?_
   refine AWp.ret ?_
   obtain rfl:=Option.some.inj H
   exact rl (.inl rfl) rfl (by kernel_rfl) (by kernel_rfl)
def f_r08_above.f (a0:Int) (a1:Int) (a2:Int) (a3:Int):Option (Bool):=if(a0 != a2)=true then(some (decide (a0>a2))) else(if(decide (a0>(0:Int)))=true then(some (decide (a1>a3))) else(((if(decide (a0<(0:Int)))=true then(some (decide (a1<a3))) else(some false)):Option (Bool))>>=fun x3866=>some x3866))
theorem f_r08_above.ok (a0:Int) (a1:Int) (a2:Int) (a3:Int) (r:Bool) (H:f_r08_above.f a0 a1 a2 a3=some r):Pv.Fn Tryz.prog 51 [iV .i64 a0,iV .i64 a1,iV .i64 a2,iV .i64 a3] [] 0 (fun x o=>x=bV r∧o=[]):=by
 unfold f_r08_above.f at H
 refine Fn.bodyK [] Tryz.func51 rfl rfl (fun Γ hP hn => ?_)
 have hm:Tryz.prog.follows .mixedOrders=true:=by kernel_rfl
 replace hn:Γ.n=27:=hn
 refine sr hP hn hm [] [] [0,1,2,3] [] [] [] (by kernel_rfl) trivial ?_
 refine AWp.seq ?_
 refine sr hP hn hm [] [(11,bV (a0 != a2))] [0,1,2,3,11] [] [] [] (by kernel_rfl) trivial ?_
 refine AWp.cond (a0 != a2) (by kernel_rfl) (fun c3862 => ?_) (fun c3862 => ?_)
 ·replace H:=iT c3862 H
  refine sr hP hn hm [] [(8,bV (decide (a0>a2)))] [8] [] [] [] (by kernel_rfl) trivial ?_
  refine AWp.conv (inv:=[]) (vk:=[]) (e0:=[]) (t:=⟨[(8,bV (decide (a0>a2)))],[],0⟩) (by kernel_rfl) ?_
  refine AWp.ret ?_
  obtain rfl:=Option.some.inj H
  exact rl (.inl rfl) rfl (by kernel_rfl) (by kernel_rfl)
 ·replace H:=iF c3862 H
  refine AWp.skip ?_
  refine AWp.seq ?_
  refine sr hP hn hm [] [(16,bV (decide (a0>(0:Int))))] [0,1,3,16] [] [] [] (by kernel_rfl) trivial ?_
  refine AWp.cond (decide (a0>(0:Int))) (by kernel_rfl) (fun c3863 => ?_) (fun c3863 => ?_)
  ·replace H:=iT c3863 H
   refine sr hP hn hm [] [(8,bV (decide (a1>a3)))] [8] [] [] [] (by kernel_rfl) trivial ?_
   refine AWp.conv (inv:=[]) (vk:=[]) (e0:=[]) (t:=⟨[(8,bV (decide (a1>a3)))],[],0⟩) (by kernel_rfl) ?_
   refine AWp.ret ?_
   obtain rfl:=Option.some.inj H
   exact rl (.inl rfl) rfl (by kernel_rfl) (by kernel_rfl)
  ·replace H:=iF c3863 H
   refine AWp.skip ?_
   refine AWp.seq ?_
   obtain⟨o3867,e3868,H⟩:=bind_of H
   refine AWp.mono (Q:=fun e s=>(match (generalizing:=false) o3867 with | x3866=>e = .normal∧s=⟨[(8,bV x3866)],[],0⟩)) (AWp.cv ?_) ?_
   ·replace H:=e3868;clear e3868
    rcases Bool.eq_false_or_eq_true (decide (a0<(0:Int))) with c3865 | c3865
    ·replace H:=iT c3865 H
     refine rg hP hn hm [(2,.b true)] [(8,bV (decide (a1<a3)))] [8] [] [] [_] (by kernel_rfl) ⟨c3865,trivial⟩ ?_
     obtain rfl:=Option.some.inj H
     exact lf [] [] [] (by kernel_rfl) ⟨rfl,rfl⟩
    ·replace H:=iF c3865 H
     refine rg hP hn hm [(2,.b false)] [(8,bV false)] [8] [] [] [_] (by kernel_rfl) ⟨c3865,trivial⟩ ?_
     obtain rfl:=Option.some.inj H
     exact lf [] [] [] (by kernel_rfl) ⟨rfl,rfl⟩
   ·obtain⟨x3866,rfl⟩:∃ z,z=o3867:=⟨_,rfl⟩
    rintro e s ⟨rfl,rfl⟩
    refine AWp.conv (inv:=[]) (vk:=[]) (e0:=[]) (t:=⟨[(8,bV x3866)],[],0⟩) (by kernel_rfl) ?_
    refine AWp.ret ?_
    obtain rfl:=Option.some.inj H
    exact rl (.inl rfl) rfl (by kernel_rfl) (by kernel_rfl)
def f_r08_Below.l0 (a0:THist) (a1:Int) (a2:Int) (t3838:List Tr08_Cell) (x3882:Int) (x3883:Int) (x3884:Int):Option (Int×Int):=if(decide (x3884<(t3838.length:Int)))=true then((at? t3838 x3884)>>=fun b3891=>(f_r08_ends.f a0 b3891)>>=fun t3894=>(f_r08_above.f t3894.2.2.1 t3894.2.2.2 a1 a2)>>=fun t3898=>((if(!t3898)=true then(some (u64.wrap (x3882+b3891.f3),x3883)) else((f_r08_above.f a1 a2 t3894.1 t3894.2.1)>>=fun t3903=>((if t3903=true then(some (u64.wrap (x3883+b3891.f3))) else(some x3883)):Option (Int))>>=fun x3906=>some (x3882,x3906))):Option (Int×Int))>>=fun oo=>match oo with | (x3907,x3908)=>(f_r08_Below.l0 a0 a1 a2 t3838 x3907 x3908 (i64.wrap (x3884+(1:Int))))) else(some (x3882,x3883))
partial_fixpoint
def f_r08_Below.f (a0:THist) (a1:Int) (a2:Int):Option (Int×Int×Int×Int):=((if(a1==(0:Int))=true then(if(a2 != (0:Int))=true then(some true) else(if(decide (a1<(-1)))=true then(some true) else(if(decide (a1>(1:Int)))=true then(some true) else(if(a1 != (0:Int))=true then(if(decide (a2≤(-262144)))=true then(some true) else(some (decide (a2>(262144:Int))))) else(some false))))) else(if(decide (a1<(-1)))=true then(some true) else(if(decide (a1>(1:Int)))=true then(some true) else(if(a1 != (0:Int))=true then(if(decide (a2≤(-262144)))=true then(some true) else(some (decide (a2>(262144:Int))))) else(some false))))):Option (Bool))>>=fun x3833=>if x3833=true then(some (0,0,0,1)) else(if(a0.f4==(0:Int))=true then(some (0,0,0,30)) else((f_r08_Order.f a0)>>=fun t3838=>(f_r08_Below.l0 a0 a1 a2 t3838 0 0 0)>>=fun oo=>match oo with | (x3909,x3910)=>(some (x3909,x3910,a0.f4,0))))
theorem f_r08_Below.ok (a0:THist) (a1:Int) (a2:Int) (r:Int×Int×Int×Int) (H:f_r08_Below.f a0 a1 a2=some r):Pv.Fn Tryz.prog 30 [.agg (aHist a0),iV .i64 a1,iV .i64 a2] [] 0 (fun x o=>x = .tup [.agg [iV .u64 r.1,iV .u64 r.2.1,iV .u64 r.2.2.1],iV .i64 r.2.2.2]∧o=[]):=by
 unfold f_r08_Below.f at H
 refine Fn.bodyK [] Tryz.func30 rfl rfl (fun Γ hP hn => ?_)
 have hm:Tryz.prog.follows .mixedOrders=true:=by kernel_rfl
 replace hn:Γ.n=98:=hn
 refine sr hP hn hm [(0,.k 0),(1,.k 1)] [(3,.ptr 0 0 0),(6,.ptr 1 0 0)] [1,2,3,6] [(0,some (.box 32 (aHist a0))),(1,some (.box 54 [iV .u64 0,iV .u64 0,iV .u64 0]))] [0,1] [] (by kernel_rfl) trivial ?_
 refine AWp.seq ?_
 refine AWp.seq ?_
 obtain⟨o3911,e3912,H⟩:=bind_of H
 refine AWp.mono (Q:=fun e s=>(match (generalizing:=false) o3911 with | x3833=>e = .normal∧s=⟨[(1,iV .i64 a1),(2,iV .i64 a2),(3,.ptr 2 0 0),(6,.ptr 3 0 0),(40,bV x3833)],[(2,some (.box 32 (aHist a0))),(3,some (.box 54 [iV .u64 0,iV .u64 0,iV .u64 0]))],0⟩)) (AWp.cv ?_) ?_
 ·replace H:=e3912;clear e3912
  rcases Bool.eq_false_or_eq_true (a1==(0:Int)) with c3823 | c3823
  ·replace H:=iT c3823 H
   rcases Bool.eq_false_or_eq_true (a2 != (0:Int)) with c3824 | c3824
   ·replace H:=iT c3824 H
    refine rg hP hn hm [(2,.b true),(6,.b true)] [(40,bV true)] [1,2,3,6,40] [] [0,1] [_,_] (by kernel_rfl) ⟨c3823,c3824,trivial⟩ ?_
    obtain rfl:=Option.some.inj H
    exact lf [(0,2),(1,3)] [] [] (by kernel_rfl) ⟨rfl,rfl⟩
   ·replace H:=iF c3824 H
    rcases Bool.eq_false_or_eq_true (decide (a1<(-1))) with c3825 | c3825
    ·replace H:=iT c3825 H
     refine rg hP hn hm [(2,.b true),(6,.b false),(10,.b true)] [(40,bV true)] [1,2,3,6,40] [] [0,1] [_,_,_] (by kernel_rfl) ⟨c3823,c3824,c3825,trivial⟩ ?_
     obtain rfl:=Option.some.inj H
     exact lf [(0,2),(1,3)] [] [] (by kernel_rfl) ⟨rfl,rfl⟩
    ·replace H:=iF c3825 H
     rcases Bool.eq_false_or_eq_true (decide (a1>(1:Int))) with c3826 | c3826
     ·replace H:=iT c3826 H
      refine rg hP hn hm [(2,.b true),(6,.b false),(10,.b false),(14,.b true)] [(40,bV true)] [1,2,3,6,40] [] [0,1] [_,_,_,_] (by kernel_rfl) ⟨c3823,c3824,c3825,c3826,trivial⟩ ?_
      obtain rfl:=Option.some.inj H
      exact lf [(0,2),(1,3)] [] [] (by kernel_rfl) ⟨rfl,rfl⟩
     ·replace H:=iF c3826 H
      rcases Bool.eq_false_or_eq_true (a1 != (0:Int)) with c3827 | c3827
      ·replace H:=iT c3827 H
       rcases Bool.eq_false_or_eq_true (decide (a2≤(-262144))) with c3828 | c3828
       ·replace H:=iT c3828 H
        refine rg hP hn hm [(2,.b true),(6,.b false),(10,.b false),(14,.b false),(17,.b true),(20,.b true)] [(40,bV true)] [1,2,3,6,40] [] [0,1] [_,_,_,_,_,_] (by kernel_rfl) ⟨c3823,c3824,c3825,c3826,c3827,c3828,trivial⟩ ?_
        obtain rfl:=Option.some.inj H
        exact lf [(0,2),(1,3)] [] [] (by kernel_rfl) ⟨rfl,rfl⟩
       ·replace H:=iF c3828 H
        refine rg hP hn hm [(2,.b true),(6,.b false),(10,.b false),(14,.b false),(17,.b true),(20,.b false)] [(40,bV (decide (a2>(262144:Int))))] [1,2,3,6,40] [] [0,1] [_,_,_,_,_,_] (by kernel_rfl) ⟨c3823,c3824,c3825,c3826,c3827,c3828,trivial⟩ ?_
        obtain rfl:=Option.some.inj H
        exact lf [(0,2),(1,3)] [] [] (by kernel_rfl) ⟨rfl,rfl⟩
      ·replace H:=iF c3827 H
       refine rg hP hn hm [(2,.b true),(6,.b false),(10,.b false),(14,.b false),(17,.b false)] [(40,bV false)] [1,2,3,6,40] [] [0,1] [_,_,_,_,_] (by kernel_rfl) ⟨c3823,c3824,c3825,c3826,c3827,trivial⟩ ?_
       obtain rfl:=Option.some.inj H
       exact lf [(0,2),(1,3)] [] [] (by kernel_rfl) ⟨rfl,rfl⟩
  ·replace H:=iF c3823 H
   rcases Bool.eq_false_or_eq_true (decide (a1<(-1))) with c3829 | c3829
   ·replace H:=iT c3829 H
    refine rg hP hn hm [(2,.b false),(10,.b true)] [(40,bV true)] [1,2,3,6,40] [] [0,1] [_,_] (by kernel_rfl) ⟨c3823,c3829,trivial⟩ ?_
    obtain rfl:=Option.some.inj H
    exact lf [(0,2),(1,3)] [] [] (by kernel_rfl) ⟨rfl,rfl⟩
   ·replace H:=iF c3829 H
    rcases Bool.eq_false_or_eq_true (decide (a1>(1:Int))) with c3830 | c3830
    ·replace H:=iT c3830 H
     refine rg hP hn hm [(2,.b false),(10,.b false),(14,.b true)] [(40,bV true)] [1,2,3,6,40] [] [0,1] [_,_,_] (by kernel_rfl) ⟨c3823,c3829,c3830,trivial⟩ ?_
     obtain rfl:=Option.some.inj H
     exact lf [(0,2),(1,3)] [] [] (by kernel_rfl) ⟨rfl,rfl⟩
    ·replace H:=iF c3830 H
     rcases Bool.eq_false_or_eq_true (a1 != (0:Int)) with c3831 | c3831
     ·replace H:=iT c3831 H
      rcases Bool.eq_false_or_eq_true (decide (a2≤(-262144))) with c3832 | c3832
      ·replace H:=iT c3832 H
       refine rg hP hn hm [(2,.b false),(10,.b false),(14,.b false),(17,.b true),(20,.b true)] [(40,bV true)] [1,2,3,6,40] [] [0,1] [_,_,_,_,_] (by kernel_rfl) ⟨c3823,c3829,c3830,c3831,c3832,trivial⟩ ?_
       obtain rfl:=Option.some.inj H
       exact lf [(0,2),(1,3)] [] [] (by kernel_rfl) ⟨rfl,rfl⟩
      ·replace H:=iF c3832 H
       refine rg hP hn hm [(2,.b false),(10,.b false),(14,.b false),(17,.b true),(20,.b false)] [(40,bV (decide (a2>(262144:Int))))] [1,2,3,6,40] [] [0,1] [_,_,_,_,_] (by kernel_rfl) ⟨c3823,c3829,c3830,c3831,c3832,trivial⟩ ?_
       obtain rfl:=Option.some.inj H
       exact lf [(0,2),(1,3)] [] [] (by kernel_rfl) ⟨rfl,rfl⟩
     ·replace H:=iF c3831 H
      refine rg hP hn hm [(2,.b false),(10,.b false),(14,.b false),(17,.b false)] [(40,bV false)] [1,2,3,6,40] [] [0,1] [_,_,_,_] (by kernel_rfl) ⟨c3823,c3829,c3830,c3831,trivial⟩ ?_
      obtain rfl:=Option.some.inj H
      exact lf [(0,2),(1,3)] [] [] (by kernel_rfl) ⟨rfl,rfl⟩
 ·obtain⟨x3833,rfl⟩:∃ z,z=o3911:=⟨_,rfl⟩
  rintro e s ⟨rfl,rfl⟩
  refine AWp.cond x3833 (by kernel_rfl) (fun c3834 => ?_) (fun c3834 => ?_)
  ·replace H:=iT c3834 H
   refine sr hP hn hm [] [(7,iV .i64 1)] [6,7] [] [3] [] (by kernel_rfl) trivial ?_
   refine AWp.conv (inv:=[(3,0)]) (vk:=[]) (e0:=[]) (t:=⟨[(6,.ptr 0 0 0),(7,iV .i64 1)],[(0,some (.box 54 [iV .u64 0,iV .u64 0,iV .u64 0]))],0⟩) (by kernel_rfl) ?_
   refine AWp.ret ?_
   obtain rfl:=Option.some.inj H
   exact rl (.inl rfl) rfl (by kernel_rfl) (by kernel_rfl)
  ·replace H:=iF c3834 H
   refine AWp.skip ?_
   refine AWp.seq ?_
   refine sr hP hn hm [] [(44,bV (a0.f4==(0:Int)))] [1,2,3,6,44] [] [2,3] [] (by kernel_rfl) trivial ?_
   refine AWp.cond (a0.f4==(0:Int)) (by kernel_rfl) (fun c3835 => ?_) (fun c3835 => ?_)
   ·replace H:=iT c3835 H
    refine sr hP hn hm [] [(7,iV .i64 30)] [6,7] [] [3] [] (by kernel_rfl) trivial ?_
    refine AWp.conv (inv:=[(3,0)]) (vk:=[]) (e0:=[]) (t:=⟨[(6,.ptr 0 0 0),(7,iV .i64 30)],[(0,some (.box 54 [iV .u64 0,iV .u64 0,iV .u64 0]))],0⟩) (by kernel_rfl) ?_
    refine AWp.ret ?_
    obtain rfl:=Option.some.inj H
    exact rl (.inl rfl) rfl (by kernel_rfl) (by kernel_rfl)
   ·replace H:=iF c3835 H
    refine AWp.skip ?_
    refine sr hP hn hm [(3,.k 4)] [(8,.ptr 4 0 0)] [1,2,3,6,8] [(4,some (.box 54 [iV .u64 0,iV .u64 0,iV .u64 a0.f4]))] [2,3,4] [] (by kernel_rfl) trivial ?_
    obtain⟨t3838,e3839,H⟩:=bind_of H
    refine sr hP hn hm [(1,.call [] [(0,5)] [] [5] 0 (.own 0) [(0,some (.row 4 53 (t3838.map er08_Cell)))])] [(9,.own 5)] [1,2,3,6,8,9] [(5,some (.row 4 53 (t3838.map er08_Cell)))] [2,3,4,5] [_,_] (by kernel_rfl) ⟨Tryz.call48,f_r08_Order.ok a0 t3838 e3839,trivial⟩ ?_
    refine AWp.seq ?_
    refine sr hP hn hm [] [(10,iV .i64 0)] [1,2,3,6,8,9,10] [] [2,3,4,5] [] (by kernel_rfl) trivial ?_
    refine AWp.block ?_
    obtain⟨o3913,e3914,H⟩:=bind_of H
    refine AWp.loop (LWp.conv (inv:=[(2,14),(3,15),(4,16),(5,17)]) (vk:=[]) (e0:=[]) (t:=⟨[(1,iV .i64 a1),(2,iV .i64 a2),(3,.ptr 14 0 0),(6,.ptr 15 0 0),(8,.ptr 16 0 0),(9,.own 17),(10,iV .i64 0)],[(14,some (.box 32 (aHist a0))),(15,some (.box 54 [iV .u64 0,iV .u64 0,iV .u64 0])),(16,some (.box 54 [iV .u64 0,iV .u64 0,iV .u64 a0.f4])),(17,some (.row 4 53 (t3838.map er08_Cell)))],0⟩) (by kernel_rfl) ?_)
    refine LWp.mono (Q:=fun e s=>(match (generalizing:=false) o3913 with | (x3909,x3910)=>e = .exit 0∧s=⟨[(6,.ptr 26 0 0),(8,.ptr 27 0 0)],[(26,some (.box 54 [iV .u64 0,iV .u64 0,iV .u64 0])),(27,some (.box 54 [iV .u64 x3909,iV .u64 x3910,iV .u64 a0.f4]))],0⟩)) (LWp.cv (withBody (fun body hbody => ?_))) ?_
    ·refine f_r08_Below.l0.partial_correctness a0 a1 a2 t3838 (motive:=fun x3882 x3883 x3884 o3913=>LWp Γ body (fun e s=>∃ t,Cv Γ s t∧(match (generalizing:=false) o3913 with | (x3909,x3910)=>e = .exit 0∧t=⟨[(6,.ptr 26 0 0),(8,.ptr 27 0 0)],[(26,some (.box 54 [iV .u64 0,iV .u64 0,iV .u64 0])),(27,some (.box 54 [iV .u64 x3909,iV .u64 x3910,iV .u64 a0.f4]))],0⟩)) ⟨[(1,iV .i64 a1),(2,iV .i64 a2),(3,.ptr 14 0 0),(6,.ptr 15 0 0),(8,.ptr 16 0 0),(9,.own 17),(10,iV .i64 x3884)],[(14,some (.box 32 (aHist a0))),(15,some (.box 54 [iV .u64 0,iV .u64 0,iV .u64 0])),(16,some (.box 54 [iV .u64 x3882,iV .u64 x3883,iV .u64 a0.f4])),(17,some (.row 4 53 (t3838.map er08_Cell)))],0⟩) ?_ _ _ _ _ e3914
     clear H e3914 o3913;intro self ih x3882 x3883 x3884 o3913 H
     subst hbody
     refine LWp.round ?_
     refine AWp.seq ?_
     refine sr hP hn hm [(2,.any (iV .i64 (t3838.length:Int)))] [(54,bV (decide (x3884<(t3838.length:Int))))] [1,2,3,6,8,9,10,54] [] [14,15,16,17] [((t3838.map er08_Cell).length:Int)=(t3838.length:Int)] (by kernel_rfl) ⟨by rw[len_map],trivial⟩ ?_
     refine AWp.cond (decide (x3884<(t3838.length:Int))) (by kernel_rfl) (fun c3885 => ?_) (fun c3885 => ?_)
     ·replace H:=iT c3885 H
      refine AWp.skip ?_
      refine AWp.seq ?_
      refine AWp.block ?_
      obtain⟨b3891,p3892,q3893,H⟩:=at_of H
      obtain⟨t3894,e3895,H⟩:=bind_of H
      refine sr hP hn hm [(4,.c (er08_Cell b3891)),(5,.call [] [] [] [] 0 (.tup [iV .i64 t3894.1,iV .i64 t3894.2.1,iV .i64 t3894.2.2.1,iV .i64 t3894.2.2.2]) [])] [(11,iV .i64 t3894.1),(12,iV .i64 t3894.2.1),(13,iV .i64 t3894.2.2.1),(14,iV .i64 t3894.2.2.2)] [1,2,3,6,8,9,10,11,12,13,14] [] [14,15,16,17] [_,_,_,_,_] (by kernel_rfl) ⟨p3892,el_lt er08_Cell p3892 q3893,el_map er08_Cell q3893,Tryz.call50,f_r08_ends.ok a0 b3891 t3894 e3895,trivial⟩ ?_
      obtain⟨t3898,e3899,H⟩:=bind_of H
      refine sr hP hn hm [(4,.call [] [] [] [] 0 (bV t3898) [])] [(73,bV (!t3898))] [1,2,3,6,8,9,10,11,12,73] [] [14,15,16,17] [_,_] (by kernel_rfl) ⟨Tryz.call51,f_r08_above.ok t3894.2.2.1 t3894.2.2.2 a1 a2 t3898 e3899,trivial⟩ ?_
      obtain⟨o3915,e3916,H⟩:=bind_of H
      refine AWp.mono (Q:=fun e s=>(match (generalizing:=false) o3915 with | (x3907,x3908)=>e = .normal∧s=⟨[(1,iV .i64 a1),(2,iV .i64 a2),(3,.ptr 22 0 0),(6,.ptr 23 0 0),(8,.ptr 24 0 0),(9,.own 25),(10,iV .i64 x3884)],[(22,some (.box 32 (aHist a0))),(23,some (.box 54 [iV .u64 0,iV .u64 0,iV .u64 0])),(24,some (.box 54 [iV .u64 x3907,iV .u64 x3908,iV .u64 a0.f4])),(25,some (.row 4 53 (t3838.map er08_Cell)))],0⟩)) (AWp.cv ?_) ?_
      ·replace H:=e3916;clear e3916
       refine AWp.cond (!t3898) (by kernel_rfl) (fun c3900 => ?_) (fun c3900 => ?_)
       ·replace H:=iT c3900 H
        refine rg hP hn hm [(0,.more (xIdxA 0)),(6,.c (er08_Cell b3891)),(8,.more (xIdxA 0))] [] [1,2,3,6,8,9,10] [(16,some (.box 54 [iV .u64 (u64.wrap (x3882+b3891.f3)),iV .u64 x3883,iV .u64 a0.f4]))] [14,15,16,17] [(0:Int)=((0:Nat):Int),_,_,_,(0:Int)=((0:Nat):Int)] (by kernel_rfl) ⟨by exact rfl,p3892,el_lt er08_Cell p3892 q3893,el_map er08_Cell q3893,by exact rfl,trivial⟩ ?_
        obtain rfl:=Option.some.inj H
        exact lf [(14,22),(15,23),(16,24),(17,25)] [] [] (by kernel_rfl) ⟨rfl,rfl⟩
       ·replace H:=iF c3900 H
        obtain⟨t3903,e3904,H⟩:=bind_of H
        refine sr hP hn hm [(4,.call [] [] [] [] 0 (bV t3903) [])] [(87,bV t3903)] [1,2,3,6,8,9,10,87] [] [14,15,16,17] [_,_] (by kernel_rfl) ⟨Tryz.call51,f_r08_above.ok a1 a2 t3894.1 t3894.2.1 t3903 e3904,trivial⟩ ?_
        obtain⟨o3917,e3918,H⟩:=bind_of H
        refine AWp.mono (Q:=fun e s=>(match (generalizing:=false) o3917 with | x3906=>e = .normal∧s=⟨[(1,iV .i64 a1),(2,iV .i64 a2),(3,.ptr 18 0 0),(6,.ptr 19 0 0),(8,.ptr 20 0 0),(9,.own 21),(10,iV .i64 x3884)],[(18,some (.box 32 (aHist a0))),(19,some (.box 54 [iV .u64 0,iV .u64 0,iV .u64 0])),(20,some (.box 54 [iV .u64 x3882,iV .u64 x3906,iV .u64 a0.f4])),(21,some (.row 4 53 (t3838.map er08_Cell)))],0⟩)) (AWp.cv ?_) ?_
        ·replace H:=e3918;clear e3918
         refine AWp.cond t3903 (by kernel_rfl) (fun c3905 => ?_) (fun c3905 => ?_)
         ·replace H:=iT c3905 H
          refine rg hP hn hm [(0,.more (xIdxA 1)),(6,.c (er08_Cell b3891)),(8,.more (xIdxA 1))] [] [1,2,3,6,8,9,10] [(16,some (.box 54 [iV .u64 x3882,iV .u64 (u64.wrap (x3883+b3891.f3)),iV .u64 a0.f4]))] [14,15,16,17] [(1:Int)=((1:Nat):Int),_,_,_,(1:Int)=((1:Nat):Int)] (by kernel_rfl) ⟨by exact rfl,p3892,el_lt er08_Cell p3892 q3893,el_map er08_Cell q3893,by exact rfl,trivial⟩ ?_
          obtain rfl:=Option.some.inj H
          exact lf [(14,18),(15,19),(16,20),(17,21)] [] [] (by kernel_rfl) ⟨rfl,rfl⟩
         ·replace H:=iF c3905 H
          refine AWp.skip ?_
          obtain rfl:=Option.some.inj H
          exact lf [(14,18),(15,19),(16,20),(17,21)] [] [] (by kernel_rfl) ⟨rfl,rfl⟩
        ·obtain⟨x3906,rfl⟩:∃ z,z=o3917:=⟨_,rfl⟩
         rintro e s ⟨rfl,rfl⟩
         obtain rfl:=Option.some.inj H
         exact lf [(18,22),(19,23),(20,24),(21,25)] [] [] (by kernel_rfl) ⟨rfl,rfl⟩
      ·obtain⟨x3907,x3908⟩:=o3915
       rintro e s ⟨rfl,rfl⟩
       refine rg hP hn hm [] [(10,iV .i64 (i64.wrap (x3884+(1:Int))))] [1,2,3,6,8,9,10] [] [22,23,24,25] [] (by kernel_rfl) trivial ?_
       exact LWp.conv [(22,14),(23,15),(24,16),(25,17)] [] [] (by kernel_rfl) (ih _ _ _ _ H)
     ·replace H:=iF c3885 H
      refine AWp.exit ?_
      obtain rfl:=Option.some.inj H
      exact lf [(15,26),(16,27)] [] [] (by kernel_rfl) ⟨rfl,rfl⟩
    ·obtain⟨x3909,x3910⟩:=o3913
     rintro e s ⟨rfl,rfl⟩
     refine sr hP hn hm [] [(7,iV .i64 0)] [6,7] [(26,some (.box 54 [iV .u64 x3909,iV .u64 x3910,iV .u64 a0.f4]))] [26] [] (by kernel_rfl) trivial ?_
     refine AWp.conv (inv:=[(26,0)]) (vk:=[]) (e0:=[]) (t:=⟨[(6,.ptr 0 0 0),(7,iV .i64 0)],[(0,some (.box 54 [iV .u64 x3909,iV .u64 x3910,iV .u64 a0.f4]))],0⟩) (by kernel_rfl) ?_
     refine AWp.ret ?_
     obtain rfl:=Option.some.inj H
     exact rl (.inl rfl) rfl (by kernel_rfl) (by kernel_rfl)
end Go.Proofs.YtbmdealiikoplaaGreat.PvGJ
