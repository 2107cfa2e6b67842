import Derived.Test.YtfkppdcfgmgllaaProg
import Derived.Test.YtfkppdcfgmgllaaPxEvalSteps06
set_option linter.unusedVariables false
set_option linter.unnecessarySimpa false
set_option linter.unusedSimpArgs false
set_option maxRecDepth 10000
namespace Go.Proofs.Ytfkppdcfgmgllaa.PvGD3
open Go Go.Pv
def f_slices_rotateCmpFunc_api_Bucket_hist_tidy_1.l0 (a2:Int) (x1230:List TBucket) (x1231:Int) (x1232:Int):Option ((List TBucket)×Int):=if(x1231 != x1232)=true then(((if(decide (x1231>x1232))=true then((f_slices_swapRangeCmpFunc_api_Bucket_hist_tidy_1.f x1230 (IntKind.i64.wrap (a2-x1231)) a2 x1232)>>=fun t1237=>some (t1237,IntKind.i64.wrap (x1231-x1232),x1232)) else((f_slices_swapRangeCmpFunc_api_Bucket_hist_tidy_1.f x1230 (IntKind.i64.wrap (a2-x1231)) (IntKind.i64.wrap ((IntKind.i64.wrap (a2+x1232))-x1231)) x1231)>>=fun t1241=>some (t1241,x1231,IntKind.i64.wrap (x1232-x1231)))):Option ((List TBucket)×Int×Int))>>=fun oo=>match oo with | (x1243,x1244,x1245)=>(f_slices_rotateCmpFunc_api_Bucket_hist_tidy_1.l0 a2 x1243 x1244 x1245)) else(some (x1230,x1231))
partial_fixpoint
def f_slices_rotateCmpFunc_api_Bucket_hist_tidy_1.f (a0:List TBucket) (a1:Int) (a2:Int) (a3:Int):Option (List TBucket):=(f_slices_rotateCmpFunc_api_Bucket_hist_tidy_1.l0 a2 a0 (IntKind.i64.wrap (a2-a1)) (IntKind.i64.wrap (a3-a2)))>>=fun oo=>match oo with | (x1246,x1247)=>((f_slices_swapRangeCmpFunc_api_Bucket_hist_tidy_1.f x1246 (IntKind.i64.wrap (a2-x1247)) a2 x1247)>>=fun t1250=>some t1250)
theorem f_slices_rotateCmpFunc_api_Bucket_hist_tidy_1.ok (a0:List TBucket) (a1:Int) (a2:Int) (a3:Int) (r:List TBucket) (H:f_slices_rotateCmpFunc_api_Bucket_hist_tidy_1.f a0 a1 a2 a3=some r):Pv.Fn Try.prog 146 [.own 0,iV .i64 a1,iV .i64 a2,iV .i64 a3,.im (.sc (.func (.func 133) #[] #[]))] [(0,some (.row 2 116 (a0.map eBucket)))] 1 (fun x o=>x = .tup []∧o=[(0,some (.row 2 116 (r.map eBucket)))]):=by
 unfold f_slices_rotateCmpFunc_api_Bucket_hist_tidy_1.f at H
 refine Fn.bodyK [0] Try.func146 rfl rfl (fun Γ hP hn => ?_)
 have hm:Try.prog.follows .mixedOrders=true:=by kernel_rfl
 replace hn:Γ.n=58:=hn
 refine AWp.seq ?_
 refine reg hP hn hm [] [0,2,3,4,10] [0] ⟨[(0,.own 0),(2,iV .i64 a2),(3,iV .i64 a3),(4,.im (.sc (.func (.func 133) #[] #[]))),(10,iV .i64 (IntKind.i64.wrap (a2-a1)))],[(0,some (.row 2 116 (a0.map eBucket)))],1⟩ [] (by kernel_rfl) trivial ?_
 refine AWp.seq ?_
 refine reg hP hn hm [] [0,2,4,10,11] [0] ⟨[(0,.own 0),(2,iV .i64 a2),(4,.im (.sc (.func (.func 133) #[] #[]))),(10,iV .i64 (IntKind.i64.wrap (a2-a1))),(11,iV .i64 (IntKind.i64.wrap (a3-a2)))],[(0,some (.row 2 116 (a0.map eBucket)))],1⟩ [] (by kernel_rfl) trivial ?_
 refine AWp.seq ?_
 refine AWp.block ?_
 obtain⟨o1252,e1253,H⟩:=bind_of H
 refine AWp.loop (LWp.conv (inv:=[(0,0)]) (vk:=[]) (e0:=[]) (t:=⟨[(0,.own 0),(2,iV .i64 a2),(4,.im (.sc (.func (.func 133) #[] #[]))),(10,iV .i64 (IntKind.i64.wrap (a2-a1))),(11,iV .i64 (IntKind.i64.wrap (a3-a2)))],[(0,some (.row 2 116 (a0.map eBucket)))],1⟩) (by kernel_rfl) ?_)
 refine LWp.mono (Q:=fun e s=>(match (generalizing:=false) o1252 with | (x1246,x1247)=>e = .exit 0∧s=⟨[(0,.own 0),(2,iV .i64 a2),(4,.im (.sc (.func (.func 133) #[] #[]))),(10,iV .i64 x1247)],[(0,some (.row 2 116 (x1246.map eBucket)))],1⟩)) (LWp.cv (withBody (fun body hbody => ?_))) ?_
 ·refine f_slices_rotateCmpFunc_api_Bucket_hist_tidy_1.l0.partial_correctness a2 (motive:=fun x1230 x1231 x1232 o1252=>LWp Γ body (fun e s=>∃ t,Cv Γ s t∧(match (generalizing:=false) o1252 with | (x1246,x1247)=>e = .exit 0∧t=⟨[(0,.own 0),(2,iV .i64 a2),(4,.im (.sc (.func (.func 133) #[] #[]))),(10,iV .i64 x1247)],[(0,some (.row 2 116 (x1246.map eBucket)))],1⟩)) ⟨[(0,.own 0),(2,iV .i64 a2),(4,.im (.sc (.func (.func 133) #[] #[]))),(10,iV .i64 x1231),(11,iV .i64 x1232)],[(0,some (.row 2 116 (x1230.map eBucket)))],1⟩) ?_ _ _ _ _ e1253
  clear H e1253 o1252;intro self ih x1230 x1231 x1232 o1252 H
  subst hbody
  refine LWp.round ?_
  refine AWp.seq ?_
  refine AWp.seq ?_
  refine reg hP hn hm [] [0,2,4,10,11,20] [0] ⟨[(0,.own 0),(2,iV .i64 a2),(4,.im (.sc (.func (.func 133) #[] #[]))),(10,iV .i64 x1231),(11,iV .i64 x1232),(20,bV (x1231 != x1232))],[(0,some (.row 2 116 (x1230.map eBucket)))],1⟩ [] (by kernel_rfl) trivial ?_
  refine AWp.cond (x1231 != x1232) rfl (fun c1233 => ?_) (fun c1233 => ?_)
  ·replace H:=(ifT c1233).symm.trans H
   refine AWp.skip ?_
   refine AWp.block ?_
   refine AWp.seq ?_
   refine reg hP hn hm [] [0,2,4,10,11,23] [0] ⟨[(0,.own 0),(2,iV .i64 a2),(4,.im (.sc (.func (.func 133) #[] #[]))),(10,iV .i64 x1231),(11,iV .i64 x1232),(23,bV (decide (x1231>x1232)))],[(0,some (.row 2 116 (x1230.map eBucket)))],1⟩ [] (by kernel_rfl) trivial ?_
   obtain⟨o1254,e1255,H⟩:=bind_of H
   refine AWp.mono (Q:=fun e s=>(match (generalizing:=false) o1254 with | (x1243,x1244,x1245)=>e = .normal∧s=⟨[(0,.own 0),(2,iV .i64 a2),(4,.im (.sc (.func (.func 133) #[] #[]))),(10,iV .i64 x1244),(11,iV .i64 x1245)],[(0,some (.row 2 116 (x1243.map eBucket)))],1⟩)) (AWp.cv ?_) ?_
   ·replace H:=e1255;clear e1255
    refine AWp.cond (decide (x1231>x1232)) rfl (fun c1234 => ?_) (fun c1234 => ?_)
    ·replace H:=(ifT c1234).symm.trans H
     refine AWp.seq ?_
     obtain⟨t1237,e1238,H⟩:=bind_of H
     refine reg hP hn hm [(7,.call [(0,0)] [(0,0)] [] [] 1 (.tup []) [(0,some (.row 2 116 (t1237.map eBucket)))])] [0,2,4,10,11] [0] ⟨[(0,.own 0),(2,iV .i64 a2),(4,.im (.sc (.func (.func 133) #[] #[]))),(10,iV .i64 x1231),(11,iV .i64 x1232)],[(0,some (.row 2 116 (t1237.map eBucket)))],1⟩ [Enters Try.prog 147,Pv.Fn Try.prog 147 [.own 0,iV .i64 (IntKind.i64.wrap (a2-x1231)),iV .i64 a2,iV .i64 x1232,.im (.sc (.func (.func 133) #[] #[]))] [(0,some (.row 2 116 (x1230.map eBucket)))] 1 (fun r o=>r = .tup []∧o=[(0,some (.row 2 116 (t1237.map eBucket)))])] (by kernel_rfl) ⟨by exact Try.call147,by exact f_slices_swapRangeCmpFunc_api_Bucket_hist_tidy_1.ok x1230 (IntKind.i64.wrap (a2-x1231)) a2 x1232 t1237 e1238,trivial⟩ ?_
     refine reg hP hn hm [] [0,2,4,10,11] [0] ⟨[(0,.own 0),(2,iV .i64 a2),(4,.im (.sc (.func (.func 133) #[] #[]))),(10,iV .i64 (IntKind.i64.wrap (x1231-x1232))),(11,iV .i64 x1232)],[(0,some (.row 2 116 (t1237.map eBucket)))],1⟩ [] (by kernel_rfl) trivial ?_
     obtain rfl:=Option.some.inj H
     exact Exists.intro _ (And.intro (fun _ _ h=>h.conv (inv:=[(0,0)]) (vk:=[]) (e0:=[]) (t:=⟨[(0,.own 0),(2,iV .i64 a2),(4,.im (.sc (.func (.func 133) #[] #[]))),(10,iV .i64 (IntKind.i64.wrap (x1231-x1232))),(11,iV .i64 x1232)],[(0,some (.row 2 116 (t1237.map eBucket)))],1⟩) (by kernel_rfl)) (And.intro rfl rfl))
    ·replace H:=(ifF c1234).symm.trans H
     refine AWp.seq ?_
     obtain⟨t1241,e1242,H⟩:=bind_of H
     refine reg hP hn hm [(11,.call [(0,0)] [(0,0)] [] [] 1 (.tup []) [(0,some (.row 2 116 (t1241.map eBucket)))])] [0,2,4,10,11] [0] ⟨[(0,.own 0),(2,iV .i64 a2),(4,.im (.sc (.func (.func 133) #[] #[]))),(10,iV .i64 x1231),(11,iV .i64 x1232)],[(0,some (.row 2 116 (t1241.map eBucket)))],1⟩ [Enters Try.prog 147,Pv.Fn Try.prog 147 [.own 0,iV .i64 (IntKind.i64.wrap (a2-x1231)),iV .i64 (IntKind.i64.wrap ((IntKind.i64.wrap (a2+x1232))-x1231)),iV .i64 x1231,.im (.sc (.func (.func 133) #[] #[]))] [(0,some (.row 2 116 (x1230.map eBucket)))] 1 (fun r o=>r = .tup []∧o=[(0,some (.row 2 116 (t1241.map eBucket)))])] (by kernel_rfl) ⟨by exact Try.call147,by exact f_slices_swapRangeCmpFunc_api_Bucket_hist_tidy_1.ok x1230 (IntKind.i64.wrap (a2-x1231)) (IntKind.i64.wrap ((IntKind.i64.wrap (a2+x1232))-x1231)) x1231 t1241 e1242,trivial⟩ ?_
     refine reg hP hn hm [] [0,2,4,10,11] [0] ⟨[(0,.own 0),(2,iV .i64 a2),(4,.im (.sc (.func (.func 133) #[] #[]))),(10,iV .i64 x1231),(11,iV .i64 (IntKind.i64.wrap (x1232-x1231)))],[(0,some (.row 2 116 (t1241.map eBucket)))],1⟩ [] (by kernel_rfl) trivial ?_
     obtain rfl:=Option.some.inj H
     exact Exists.intro _ (And.intro (fun _ _ h=>h.conv (inv:=[(0,0)]) (vk:=[]) (e0:=[]) (t:=⟨[(0,.own 0),(2,iV .i64 a2),(4,.im (.sc (.func (.func 133) #[] #[]))),(10,iV .i64 x1231),(11,iV .i64 (IntKind.i64.wrap (x1232-x1231)))],[(0,some (.row 2 116 (t1241.map eBucket)))],1⟩) (by kernel_rfl)) (And.intro rfl rfl))
   ·obtain⟨x1243,x1244,x1245⟩:=o1254
    rintro e s ⟨rfl,rfl⟩
    exact LWp.conv (inv:=[(0,0)]) (vk:=[]) (e0:=[]) (t:=⟨[(0,.own 0),(2,iV .i64 a2),(4,.im (.sc (.func (.func 133) #[] #[]))),(10,iV .i64 x1244),(11,iV .i64 x1245)],[(0,some (.row 2 116 (x1243.map eBucket)))],1⟩) (by kernel_rfl) (ih _ _ _ _ H)
  ·replace H:=(ifF c1233).symm.trans H
   refine AWp.exit ?_
   obtain rfl:=Option.some.inj H
   exact Exists.intro _ (And.intro (fun _ _ h=>h.conv (inv:=[(0,0)]) (vk:=[]) (e0:=[]) (t:=⟨[(0,.own 0),(2,iV .i64 a2),(4,.im (.sc (.func (.func 133) #[] #[]))),(10,iV .i64 x1231)],[(0,some (.row 2 116 (x1230.map eBucket)))],1⟩) (by kernel_rfl)) (And.intro rfl rfl))
 ·obtain⟨x1246,x1247⟩:=o1252
  rintro e s ⟨rfl,rfl⟩
  obtain⟨t1250,e1251,H⟩:=bind_of H
  refine reg hP hn hm [(7,.call [(0,0)] [(0,0)] [] [] 1 (.tup []) [(0,some (.row 2 116 (t1250.map eBucket)))])] [] [0] ⟨[],[(0,some (.row 2 116 (t1250.map eBucket)))],1⟩ [Enters Try.prog 147,Pv.Fn Try.prog 147 [.own 0,iV .i64 (IntKind.i64.wrap (a2-x1247)),iV .i64 a2,iV .i64 x1247,.im (.sc (.func (.func 133) #[] #[]))] [(0,some (.row 2 116 (x1246.map eBucket)))] 1 (fun r o=>r = .tup []∧o=[(0,some (.row 2 116 (t1250.map eBucket)))])] (by kernel_rfl) ⟨by exact Try.call147,by exact f_slices_swapRangeCmpFunc_api_Bucket_hist_tidy_1.ok x1246 (IntKind.i64.wrap (a2-x1247)) a2 x1247 t1250 e1251,trivial⟩ ?_
  obtain rfl:=Option.some.inj H
  exact Exists.intro ⟨[],[(0,some (.row 2 116 (t1250.map eBucket)))],1⟩ (And.intro (fun _ _ h=>h.conv (inv:=[(0,0)]) (vk:=[]) (e0:=[]) (t:=⟨[],[(0,some (.row 2 116 (t1250.map eBucket)))],1⟩) (by kernel_rfl)) (And.intro (.inr rfl) (And.intro rfl (And.intro (by kernel_rfl) (by kernel_rfl)))))
def f_slices_symMergeCmpFunc_api_Bucket_hist_tidy_1.l0 (a0:List TBucket) (a1:Int) (x975:Int) (x976:Int):Option (Int):=if(decide (x975<x976))=true then((at? a0 (IntKind.i64.wrap (Int.fdiv (IntKind.u64.wrap (IntKind.i64.wrap (x975+x976))) 2)))>>=fun b986=>(at? a0 a1)>>=fun b989=>(f_hist_tidy_1.f b986 b989)>>=fun t992=>((if(decide (t992<(0:Int)))=true then(some (IntKind.i64.wrap ((IntKind.i64.wrap (Int.fdiv (IntKind.u64.wrap (IntKind.i64.wrap (x975+x976))) 2))+(1:Int)),x976)) else(some (x975,IntKind.i64.wrap (Int.fdiv (IntKind.u64.wrap (IntKind.i64.wrap (x975+x976))) 2)))):Option (Int×Int))>>=fun oo=>match oo with | (x995,x996)=>(f_slices_symMergeCmpFunc_api_Bucket_hist_tidy_1.l0 a0 a1 x995 x996)) else(some x975)
partial_fixpoint
def f_slices_symMergeCmpFunc_api_Bucket_hist_tidy_1.l1 (x997:Int) (x1017:List TBucket) (x1018:Int):Option (List TBucket):=if(decide (x1018<(IntKind.i64.wrap (x997-(1:Int)))))=true then((at? x1017 (IntKind.i64.wrap (x1018+(1:Int))))>>=fun b1029=>(at? x1017 x1018)>>=fun b1032=>(at? (x1017.set (Int.toNat (x1018)) b1029) (IntKind.i64.wrap (x1018+(1:Int))))>>=fun b1035=>f_slices_symMergeCmpFunc_api_Bucket_hist_tidy_1.l1 x997 ((x1017.set (Int.toNat (x1018)) b1029).set (Int.toNat (IntKind.i64.wrap (x1018+(1:Int)))) b1032) (IntKind.i64.wrap (x1018+(1:Int)))) else(some x1017)
partial_fixpoint
def f_slices_symMergeCmpFunc_api_Bucket_hist_tidy_1.l2 (a0:List TBucket) (a2:Int) (x1060:Int) (x1061:Int):Option (Int):=if(decide (x1060<x1061))=true then((at? a0 a2)>>=fun b1071=>(at? a0 (IntKind.i64.wrap (Int.fdiv (IntKind.u64.wrap (IntKind.i64.wrap (x1060+x1061))) 2)))>>=fun b1074=>(f_hist_tidy_1.f b1071 b1074)>>=fun t1077=>((if(!(decide (t1077<(0:Int))))=true then(some (IntKind.i64.wrap ((IntKind.i64.wrap (Int.fdiv (IntKind.u64.wrap (IntKind.i64.wrap (x1060+x1061))) 2))+(1:Int)),x1061)) else(some (x1060,IntKind.i64.wrap (Int.fdiv (IntKind.u64.wrap (IntKind.i64.wrap (x1060+x1061))) 2)))):Option (Int×Int))>>=fun oo=>match oo with | (x1080,x1081)=>(f_slices_symMergeCmpFunc_api_Bucket_hist_tidy_1.l2 a0 a2 x1080 x1081)) else(some x1060)
partial_fixpoint
def f_slices_symMergeCmpFunc_api_Bucket_hist_tidy_1.l3 (x1082:Int) (x1102:List TBucket) (x1103:Int):Option (List TBucket):=if(decide (x1103>x1082))=true then((at? x1102 (IntKind.i64.wrap (x1103-(1:Int))))>>=fun b1114=>(at? x1102 x1103)>>=fun b1117=>(at? (x1102.set (Int.toNat (x1103)) b1114) (IntKind.i64.wrap (x1103-(1:Int))))>>=fun b1120=>f_slices_symMergeCmpFunc_api_Bucket_hist_tidy_1.l3 x1082 ((x1102.set (Int.toNat (x1103)) b1114).set (Int.toNat (IntKind.i64.wrap (x1103-(1:Int)))) b1117) (IntKind.i64.wrap (x1103-(1:Int)))) else(some x1102)
partial_fixpoint
def f_slices_symMergeCmpFunc_api_Bucket_hist_tidy_1.l4 (a0:List TBucket) (a1:Int) (a2:Int) (a3:Int) (x1147:Int) (x1148:Int):Option (Int):=if(decide (x1147<x1148))=true then((at? a0 (IntKind.i64.wrap ((IntKind.i64.wrap ((IntKind.i64.wrap ((IntKind.i64.wrap (Int.fdiv (IntKind.u64.wrap (IntKind.i64.wrap (a1+a3))) 2))+a2))-(1:Int)))-(IntKind.i64.wrap (Int.fdiv (IntKind.u64.wrap (IntKind.i64.wrap (x1147+x1148))) 2)))))>>=fun b1158=>(at? a0 (IntKind.i64.wrap (Int.fdiv (IntKind.u64.wrap (IntKind.i64.wrap (x1147+x1148))) 2)))>>=fun b1161=>(f_hist_tidy_1.f b1158 b1161)>>=fun t1164=>((if(!(decide (t1164<(0:Int))))=true then(some (IntKind.i64.wrap ((IntKind.i64.wrap (Int.fdiv (IntKind.u64.wrap (IntKind.i64.wrap (x1147+x1148))) 2))+(1:Int)),x1148)) else(some (x1147,IntKind.i64.wrap (Int.fdiv (IntKind.u64.wrap (IntKind.i64.wrap (x1147+x1148))) 2)))):Option (Int×Int))>>=fun oo=>match oo with | (x1167,x1168)=>(f_slices_symMergeCmpFunc_api_Bucket_hist_tidy_1.l4 a0 a1 a2 a3 x1167 x1168)) else(some x1147)
partial_fixpoint
def f_slices_symMergeCmpFunc_api_Bucket_hist_tidy_1.f (a0:List TBucket) (a1:Int) (a2:Int) (a3:Int):Option (List TBucket):=if((IntKind.i64.wrap (a2-a1))==(1:Int))=true then((f_slices_symMergeCmpFunc_api_Bucket_hist_tidy_1.l0 a0 a1 a2 a3)>>=fun x997=>(f_slices_symMergeCmpFunc_api_Bucket_hist_tidy_1.l1 x997 a0 a1)>>=fun x1038=>some x1038) else(if((IntKind.i64.wrap (a3-a2))==(1:Int))=true then((f_slices_symMergeCmpFunc_api_Bucket_hist_tidy_1.l2 a0 a2 a1 a2)>>=fun x1082=>(f_slices_symMergeCmpFunc_api_Bucket_hist_tidy_1.l3 x1082 a0 a2)>>=fun x1123=>some x1123) else(((if(decide (a2>(IntKind.i64.wrap (Int.fdiv (IntKind.u64.wrap (IntKind.i64.wrap (a1+a3))) 2))))=true then(some (IntKind.i64.wrap ((IntKind.i64.wrap ((IntKind.i64.wrap (Int.fdiv (IntKind.u64.wrap (IntKind.i64.wrap (a1+a3))) 2))+a2))-a3),IntKind.i64.wrap (Int.fdiv (IntKind.u64.wrap (IntKind.i64.wrap (a1+a3))) 2))) else(some (a1,a2))):Option (Int×Int))>>=fun oo=>match oo with | (x1125,x1126)=>((f_slices_symMergeCmpFunc_api_Bucket_hist_tidy_1.l4 a0 a1 a2 a3 x1125 x1126)>>=fun x1169=>((if(decide (x1169<a2))=true then(some (decide (a2<(IntKind.i64.wrap ((IntKind.i64.wrap ((IntKind.i64.wrap (Int.fdiv (IntKind.u64.wrap (IntKind.i64.wrap (a1+a3))) 2))+a2))-x1169))))) else(some false)):Option (Bool))>>=fun x1172=>((if x1172=true then((f_slices_rotateCmpFunc_api_Bucket_hist_tidy_1.f a0 x1169 a2 (IntKind.i64.wrap ((IntKind.i64.wrap ((IntKind.i64.wrap (Int.fdiv (IntKind.u64.wrap (IntKind.i64.wrap (a1+a3))) 2))+a2))-x1169)))>>=fun t1258=>some t1258) else(some a0)):Option (List TBucket))>>=fun x1260=>((if(decide (a1<x1169))=true then(some (decide (x1169<(IntKind.i64.wrap (Int.fdiv (IntKind.u64.wrap (IntKind.i64.wrap (a1+a3))) 2))))) else(some false)):Option (Bool))>>=fun x1263=>((if x1263=true then((f_slices_symMergeCmpFunc_api_Bucket_hist_tidy_1.f x1260 a1 x1169 (IntKind.i64.wrap (Int.fdiv (IntKind.u64.wrap (IntKind.i64.wrap (a1+a3))) 2)))>>=fun t1267=>some t1267) else(some x1260)):Option (List TBucket))>>=fun x1269=>((if(decide ((IntKind.i64.wrap (Int.fdiv (IntKind.u64.wrap (IntKind.i64.wrap (a1+a3))) 2))<(IntKind.i64.wrap ((IntKind.i64.wrap ((IntKind.i64.wrap (Int.fdiv (IntKind.u64.wrap (IntKind.i64.wrap (a1+a3))) 2))+a2))-x1169))))=true then(some (decide ((IntKind.i64.wrap ((IntKind.i64.wrap ((IntKind.i64.wrap (Int.fdiv (IntKind.u64.wrap (IntKind.i64.wrap (a1+a3))) 2))+a2))-x1169))<a3))) else(some false)):Option (Bool))>>=fun x1272=>((if x1272=true then((f_slices_symMergeCmpFunc_api_Bucket_hist_tidy_1.f x1269 (IntKind.i64.wrap (Int.fdiv (IntKind.u64.wrap (IntKind.i64.wrap (a1+a3))) 2)) (IntKind.i64.wrap ((IntKind.i64.wrap ((IntKind.i64.wrap (Int.fdiv (IntKind.u64.wrap (IntKind.i64.wrap (a1+a3))) 2))+a2))-x1169)) a3)>>=fun t1276=>some t1276) else(some x1269)):Option (List TBucket))>>=fun x1278=>some x1278)))
partial_fixpoint
theorem f_slices_symMergeCmpFunc_api_Bucket_hist_tidy_1.ok (a0:List TBucket) (a1:Int) (a2:Int) (a3:Int) (r:List TBucket) (H:f_slices_symMergeCmpFunc_api_Bucket_hist_tidy_1.f a0 a1 a2 a3=some r):Pv.Fn Try.prog 143 [.own 0,iV .i64 a1,iV .i64 a2,iV .i64 a3,.im (.sc (.func (.func 133) #[] #[]))] [(0,some (.row 2 116 (a0.map eBucket)))] 1 (fun x o=>x = .tup []∧o=[(0,some (.row 2 116 (r.map eBucket)))]):=by
 refine f_slices_symMergeCmpFunc_api_Bucket_hist_tidy_1.f.partial_correctness (motive:=fun a0 a1 a2 a3 r=>Pv.Fn Try.prog 143 [.own 0,iV .i64 a1,iV .i64 a2,iV .i64 a3,.im (.sc (.func (.func 133) #[] #[]))] [(0,some (.row 2 116 (a0.map eBucket)))] 1 (fun x o=>x = .tup []∧o=[(0,some (.row 2 116 (r.map eBucket)))])) ?_ a0 a1 a2 a3 r H
 clear H a0 a1 a2 a3 r;intro self ihF a0 a1 a2 a3 r H
 refine Fn.bodyK [0] Try.func143 rfl rfl (fun Γ hP hn => ?_)
 have hm:Try.prog.follows .mixedOrders=true:=by kernel_rfl
 replace hn:Γ.n=220:=hn
 refine AWp.seq ?_
 refine AWp.seq ?_
 refine reg hP hn hm [] [0,1,2,3,4,28] [0] ⟨[(0,.own 0),(1,iV .i64 a1),(2,iV .i64 a2),(3,iV .i64 a3),(4,.im (.sc (.func (.func 133) #[] #[]))),(28,bV ((IntKind.i64.wrap (a2-a1))==(1:Int)))],[(0,some (.row 2 116 (a0.map eBucket)))],1⟩ [] (by kernel_rfl) trivial ?_
 refine AWp.cond ((IntKind.i64.wrap (a2-a1))==(1:Int)) rfl (fun c954 => ?_) (fun c954 => ?_)
 ·replace H:=(ifT c954).symm.trans H
  refine AWp.seq ?_
  refine reg hP hn hm [] [0,1,3,4,10] [0] ⟨[(0,.own 0),(1,iV .i64 a1),(3,iV .i64 a3),(4,.im (.sc (.func (.func 133) #[] #[]))),(10,iV .i64 a2)],[(0,some (.row 2 116 (a0.map eBucket)))],1⟩ [] (by kernel_rfl) trivial ?_
  refine AWp.seq ?_
  refine reg hP hn hm [] [0,1,4,10,11] [0] ⟨[(0,.own 0),(1,iV .i64 a1),(4,.im (.sc (.func (.func 133) #[] #[]))),(10,iV .i64 a2),(11,iV .i64 a3)],[(0,some (.row 2 116 (a0.map eBucket)))],1⟩ [] (by kernel_rfl) trivial ?_
  refine AWp.seq ?_
  refine AWp.block ?_
  obtain⟨o1279,e1280,H⟩:=bind_of H
  refine AWp.loop (LWp.conv (inv:=[(0,0)]) (vk:=[]) (e0:=[]) (t:=⟨[(0,.own 0),(1,iV .i64 a1),(4,.im (.sc (.func (.func 133) #[] #[]))),(10,iV .i64 a2),(11,iV .i64 a3)],[(0,some (.row 2 116 (a0.map eBucket)))],1⟩) (by kernel_rfl) ?_)
  refine LWp.mono (Q:=fun e s=>(match (generalizing:=false) o1279 with | x997=>e = .exit 0∧s=⟨[(0,.own 0),(1,iV .i64 a1),(10,iV .i64 x997)],[(0,some (.row 2 116 (a0.map eBucket)))],1⟩)) (LWp.cv (withBody (fun body hbody => ?_))) ?_
  ·refine f_slices_symMergeCmpFunc_api_Bucket_hist_tidy_1.l0.partial_correctness a0 a1 (motive:=fun x975 x976 o1279=>LWp Γ body (fun e s=>∃ t,Cv Γ s t∧(match (generalizing:=false) o1279 with | x997=>e = .exit 0∧t=⟨[(0,.own 0),(1,iV .i64 a1),(10,iV .i64 x997)],[(0,some (.row 2 116 (a0.map eBucket)))],1⟩)) ⟨[(0,.own 0),(1,iV .i64 a1),(4,.im (.sc (.func (.func 133) #[] #[]))),(10,iV .i64 x975),(11,iV .i64 x976)],[(0,some (.row 2 116 (a0.map eBucket)))],1⟩) ?_ _ _ _ e1280
   clear H e1280 o1279;intro self ih x975 x976 o1279 H
   subst hbody
   refine LWp.round ?_
   refine AWp.seq ?_
   refine AWp.seq ?_
   refine reg hP hn hm [] [0,1,4,10,11,33] [0] ⟨[(0,.own 0),(1,iV .i64 a1),(4,.im (.sc (.func (.func 133) #[] #[]))),(10,iV .i64 x975),(11,iV .i64 x976),(33,bV (decide (x975<x976)))],[(0,some (.row 2 116 (a0.map eBucket)))],1⟩ [] (by kernel_rfl) trivial ?_
   refine AWp.cond (decide (x975<x976)) rfl (fun c977 => ?_) (fun c977 => ?_)
   ·replace H:=(ifT c977).symm.trans H
    refine AWp.skip ?_
    refine AWp.block ?_
    refine AWp.seq ?_
    refine reg hP hn hm [] [0,1,4,10,11,12] [0] ⟨[(0,.own 0),(1,iV .i64 a1),(4,.im (.sc (.func (.func 133) #[] #[]))),(10,iV .i64 x975),(11,iV .i64 x976),(12,iV .i64 (IntKind.i64.wrap (Int.fdiv (IntKind.u64.wrap (IntKind.i64.wrap (x975+x976))) 2)))],[(0,some (.row 2 116 (a0.map eBucket)))],1⟩ [(0:Int)≤1] (by kernel_rfl) ⟨by decide,trivial⟩ ?_
    refine AWp.seq ?_
    obtain⟨b986,p987,q988,H⟩:=at_of H
    obtain⟨b989,p990,q991,H⟩:=at_of H
    obtain⟨t992,e993,H⟩:=bind_of H
    refine reg hP hn hm [(4,.c (eBucket b986)),(8,.c (eBucket b989)),(9,.call [] [] [] [] 0 (iV .i64 t992) [])] [0,1,4,10,11,12,50] [0] ⟨[(0,.own 0),(1,iV .i64 a1),(4,.im (.sc (.func (.func 133) #[] #[]))),(10,iV .i64 x975),(11,iV .i64 x976),(12,iV .i64 (IntKind.i64.wrap (Int.fdiv (IntKind.u64.wrap (IntKind.i64.wrap (x975+x976))) 2))),(50,bV (decide (t992<(0:Int))))],[(0,some (.row 2 116 (a0.map eBucket)))],1⟩ [0≤(IntKind.i64.wrap (Int.fdiv (IntKind.u64.wrap (IntKind.i64.wrap (x975+x976))) 2)),IntKind.i64.wrap (Int.fdiv (IntKind.u64.wrap (IntKind.i64.wrap (x975+x976))) 2)<(((a0.map eBucket).length:Nat):Int),(a0.map eBucket)[(Int.toNat (IntKind.i64.wrap (Int.fdiv (IntKind.u64.wrap (IntKind.i64.wrap (x975+x976))) 2)))]? = some (eBucket b986),0≤a1,a1<(((a0.map eBucket).length:Nat):Int),(a0.map eBucket)[(Int.toNat (a1))]? = some (eBucket b989),Enters Try.prog 133,Pv.Fn Try.prog 133 [.agg (aBucket b986),.agg (aBucket b989)] [] 0 (fun r o=>r=iV .i64 t992∧o=[])] (by kernel_rfl) ⟨by exact p987,by exact el_lt eBucket p987 q988,by exact el_map eBucket q988,by exact p990,by exact el_lt eBucket p990 q991,by exact el_map eBucket q991,by exact Try.call133,by exact f_hist_tidy_1.ok b986 b989 t992 e993,trivial⟩ ?_
    obtain⟨o1281,e1282,H⟩:=bind_of H
    refine AWp.mono (Q:=fun e s=>(match (generalizing:=false) o1281 with | (x995,x996)=>e = .normal∧s=⟨[(0,.own 0),(1,iV .i64 a1),(4,.im (.sc (.func (.func 133) #[] #[]))),(10,iV .i64 x995),(11,iV .i64 x996)],[(0,some (.row 2 116 (a0.map eBucket)))],1⟩)) (AWp.cv ?_) ?_
    ·replace H:=e1282;clear e1282
     refine AWp.cond (decide (t992<(0:Int))) rfl (fun c994 => ?_) (fun c994 => ?_)
     ·replace H:=(ifT c994).symm.trans H
      refine reg hP hn hm [] [0,1,4,10,11] [0] ⟨[(0,.own 0),(1,iV .i64 a1),(4,.im (.sc (.func (.func 133) #[] #[]))),(10,iV .i64 (IntKind.i64.wrap ((IntKind.i64.wrap (Int.fdiv (IntKind.u64.wrap (IntKind.i64.wrap (x975+x976))) 2))+(1:Int)))),(11,iV .i64 x976)],[(0,some (.row 2 116 (a0.map eBucket)))],1⟩ [] (by kernel_rfl) trivial ?_
      obtain rfl:=Option.some.inj H
      exact Exists.intro _ (And.intro (fun _ _ h=>h.conv (inv:=[(0,0)]) (vk:=[]) (e0:=[]) (t:=⟨[(0,.own 0),(1,iV .i64 a1),(4,.im (.sc (.func (.func 133) #[] #[]))),(10,iV .i64 (IntKind.i64.wrap ((IntKind.i64.wrap (Int.fdiv (IntKind.u64.wrap (IntKind.i64.wrap (x975+x976))) 2))+(1:Int)))),(11,iV .i64 x976)],[(0,some (.row 2 116 (a0.map eBucket)))],1⟩) (by kernel_rfl)) (And.intro rfl rfl))
     ·replace H:=(ifF c994).symm.trans H
      refine reg hP hn hm [] [0,1,4,10,11] [0] ⟨[(0,.own 0),(1,iV .i64 a1),(4,.im (.sc (.func (.func 133) #[] #[]))),(10,iV .i64 x975),(11,iV .i64 (IntKind.i64.wrap (Int.fdiv (IntKind.u64.wrap (IntKind.i64.wrap (x975+x976))) 2)))],[(0,some (.row 2 116 (a0.map eBucket)))],1⟩ [] (by kernel_rfl) trivial ?_
      obtain rfl:=Option.some.inj H
      exact Exists.intro _ (And.intro (fun _ _ h=>h.conv (inv:=[(0,0)]) (vk:=[]) (e0:=[]) (t:=⟨[(0,.own 0),(1,iV .i64 a1),(4,.im (.sc (.func (.func 133) #[] #[]))),(10,iV .i64 x975),(11,iV .i64 (IntKind.i64.wrap (Int.fdiv (IntKind.u64.wrap (IntKind.i64.wrap (x975+x976))) 2)))],[(0,some (.row 2 116 (a0.map eBucket)))],1⟩) (by kernel_rfl)) (And.intro rfl rfl))
    ·obtain⟨x995,x996⟩:=o1281
     rintro e s ⟨rfl,rfl⟩
     exact LWp.conv (inv:=[(0,0)]) (vk:=[]) (e0:=[]) (t:=⟨[(0,.own 0),(1,iV .i64 a1),(4,.im (.sc (.func (.func 133) #[] #[]))),(10,iV .i64 x995),(11,iV .i64 x996)],[(0,some (.row 2 116 (a0.map eBucket)))],1⟩) (by kernel_rfl) (ih _ _ _ H)
   ·replace H:=(ifF c977).symm.trans H
    refine AWp.exit ?_
    obtain rfl:=Option.some.inj H
    exact Exists.intro _ (And.intro (fun _ _ h=>h.conv (inv:=[(0,0)]) (vk:=[]) (e0:=[]) (t:=⟨[(0,.own 0),(1,iV .i64 a1),(10,iV .i64 x975)],[(0,some (.row 2 116 (a0.map eBucket)))],1⟩) (by kernel_rfl)) (And.intro rfl rfl))
  ·obtain⟨x997,rfl⟩:∃ z,z=o1279:=⟨_,rfl⟩
   rintro e s ⟨rfl,rfl⟩
   refine AWp.seq ?_
   refine AWp.seq ?_
   refine reg hP hn hm [] [0,10,13] [0] ⟨[(0,.own 0),(10,iV .i64 x997),(13,iV .i64 a1)],[(0,some (.row 2 116 (a0.map eBucket)))],1⟩ [] (by kernel_rfl) trivial ?_
   refine AWp.block ?_
   obtain⟨o1283,e1284,H⟩:=bind_of H
   refine AWp.loop (LWp.conv (inv:=[(0,0)]) (vk:=[]) (e0:=[]) (t:=⟨[(0,.own 0),(10,iV .i64 x997),(13,iV .i64 a1)],[(0,some (.row 2 116 (a0.map eBucket)))],1⟩) (by kernel_rfl) ?_)
   refine LWp.mono (Q:=fun e s=>(match (generalizing:=false) o1283 with | x1038=>e = .exit 2∧s=⟨[],[(0,some (.row 2 116 (x1038.map eBucket)))],1⟩)) (LWp.cv (withBody (fun body hbody => ?_))) ?_
   ·refine f_slices_symMergeCmpFunc_api_Bucket_hist_tidy_1.l1.partial_correctness x997 (motive:=fun x1017 x1018 o1283=>LWp Γ body (fun e s=>∃ t,Cv Γ s t∧(match (generalizing:=false) o1283 with | x1038=>e = .exit 2∧t=⟨[],[(0,some (.row 2 116 (x1038.map eBucket)))],1⟩)) ⟨[(0,.own 0),(10,iV .i64 x997),(13,iV .i64 x1018)],[(0,some (.row 2 116 (x1017.map eBucket)))],1⟩) ?_ _ _ _ e1284
    clear H e1284 o1283;intro self ih x1017 x1018 o1283 H
    subst hbody
    refine LWp.round ?_
    refine AWp.seq ?_
    refine AWp.seq ?_
    refine reg hP hn hm [] [0,10,13,58] [0] ⟨[(0,.own 0),(10,iV .i64 x997),(13,iV .i64 x1018),(58,bV (decide (x1018<(IntKind.i64.wrap (x997-(1:Int))))))],[(0,some (.row 2 116 (x1017.map eBucket)))],1⟩ [] (by kernel_rfl) trivial ?_
    refine AWp.cond (decide (x1018<(IntKind.i64.wrap (x997-(1:Int))))) rfl (fun c1019 => ?_) (fun c1019 => ?_)
    ·replace H:=(ifT c1019).symm.trans H
     refine AWp.skip ?_
     refine AWp.seq ?_
     refine AWp.block ?_
     obtain⟨b1029,p1030,q1031,H⟩:=at_of H
     obtain⟨b1032,p1033,q1034,H⟩:=at_of H
     obtain⟨b1035,p1036,q1037,H⟩:=at_of H
     refine reg hP hn hm [(9,.c (eBucket b1029)),(13,.c (eBucket b1032)),(15,.put (eBucket b1032) ((x1017.set (Int.toNat (x1018)) b1029).map eBucket)),(17,.put (eBucket b1035) (((x1017.set (Int.toNat (x1018)) b1029).set (Int.toNat (IntKind.i64.wrap (x1018+(1:Int)))) b1032).map eBucket))] [0,10,13] [0] ⟨[(0,.own 0),(10,iV .i64 x997),(13,iV .i64 x1018)],[(0,some (.row 2 116 (((x1017.set (Int.toNat (x1018)) b1029).set (Int.toNat (IntKind.i64.wrap (x1018+(1:Int)))) b1032).map eBucket)))],1⟩ [0≤(IntKind.i64.wrap (x1018+(1:Int))),IntKind.i64.wrap (x1018+(1:Int))<(((x1017.map eBucket).length:Nat):Int),(x1017.map eBucket)[(Int.toNat (IntKind.i64.wrap (x1018+(1:Int))))]? = some (eBucket b1029),0≤x1018,x1018<(((x1017.map eBucket).length:Nat):Int),(x1017.map eBucket)[(Int.toNat (x1018))]? = some (eBucket b1032),0≤x1018,x1018<(((x1017.map eBucket).length:Nat):Int),(x1017.map eBucket)[(Int.toNat (x1018))]? = some (eBucket b1032),(x1017.set (Int.toNat (x1018)) b1029).map eBucket=(x1017.map eBucket).set (Int.toNat (x1018)) (splice (eBucket b1032) 0 [iI .i64 b1029.f0,iI .u64 b1029.f1]),0≤(IntKind.i64.wrap (x1018+(1:Int))),IntKind.i64.wrap (x1018+(1:Int))<((((x1017.set (Int.toNat (x1018)) b1029).map eBucket).length:Nat):Int),((x1017.set (Int.toNat (x1018)) b1029).map eBucket)[(Int.toNat (IntKind.i64.wrap (x1018+(1:Int))))]? = some (eBucket b1035),((x1017.set (Int.toNat (x1018)) b1029).set (Int.toNat (IntKind.i64.wrap (x1018+(1:Int)))) b1032).map eBucket=((x1017.set (Int.toNat (x1018)) b1029).map eBucket).set (Int.toNat (IntKind.i64.wrap (x1018+(1:Int)))) (splice (eBucket b1035) 0 [iI .i64 b1032.f0,iI .u64 b1032.f1])] (by kernel_rfl) ⟨by exact p1030,by exact el_lt eBucket p1030 q1031,by exact el_map eBucket q1031,by exact p1033,by exact el_lt eBucket p1033 q1034,by exact el_map eBucket q1034,by exact p1033,by exact el_lt eBucket p1033 q1034,by exact el_map eBucket q1034,by exact set1 _ _ _ _,by exact p1036,by exact el_lt eBucket p1036 q1037,by exact el_map eBucket q1037,by exact set1 _ _ _ _,trivial⟩ ?_
     refine reg hP hn hm [] [0,10,13] [0] ⟨[(0,.own 0),(10,iV .i64 x997),(13,iV .i64 (IntKind.i64.wrap (x1018+(1:Int))))],[(0,some (.row 2 116 (((x1017.set (Int.toNat (x1018)) b1029).set (Int.toNat (IntKind.i64.wrap (x1018+(1:Int)))) b1032).map eBucket)))],1⟩ [] (by kernel_rfl) trivial ?_
     exact LWp.conv (inv:=[(0,0)]) (vk:=[]) (e0:=[]) (t:=⟨[(0,.own 0),(10,iV .i64 x997),(13,iV .i64 (IntKind.i64.wrap (x1018+(1:Int))))],[(0,some (.row 2 116 (((x1017.set (Int.toNat (x1018)) b1029).set (Int.toNat (IntKind.i64.wrap (x1018+(1:Int)))) b1032).map eBucket)))],1⟩) (by kernel_rfl) (ih _ _ _ H)
    ·replace H:=(ifF c1019).symm.trans H
     refine AWp.exit ?_
     obtain rfl:=Option.some.inj H
     exact Exists.intro _ (And.intro (fun _ _ h=>h.conv (inv:=[(0,0)]) (vk:=[]) (e0:=[]) (t:=⟨[],[(0,some (.row 2 116 (x1017.map eBucket)))],1⟩) (by kernel_rfl)) (And.intro rfl rfl))
   ·obtain⟨x1038,rfl⟩:∃ z,z=o1283:=⟨_,rfl⟩
    rintro e s ⟨rfl,rfl⟩
    refine AWp.conv (inv:=[(0,0)]) (vk:=[]) (e0:=[]) (t:=⟨[],[(0,some (.row 2 116 (x1038.map eBucket)))],1⟩) (by kernel_rfl) ?_
    refine AWp.ret ?_
    obtain rfl:=Option.some.inj H
    exact Exists.intro _ (And.intro (fun _ _ h=>h) (And.intro (.inl rfl) (And.intro rfl (And.intro (by kernel_rfl) (by kernel_rfl)))))
 ·replace H:=(ifF c954).symm.trans H
  refine AWp.skip ?_
  refine AWp.seq ?_
  refine AWp.seq ?_
  refine reg hP hn hm [] [0,1,2,3,4,80] [0] ⟨[(0,.own 0),(1,iV .i64 a1),(2,iV .i64 a2),(3,iV .i64 a3),(4,.im (.sc (.func (.func 133) #[] #[]))),(80,bV ((IntKind.i64.wrap (a3-a2))==(1:Int)))],[(0,some (.row 2 116 (a0.map eBucket)))],1⟩ [] (by kernel_rfl) trivial ?_
  refine AWp.cond ((IntKind.i64.wrap (a3-a2))==(1:Int)) rfl (fun c1039 => ?_) (fun c1039 => ?_)
  ·replace H:=(ifT c1039).symm.trans H
   refine AWp.seq ?_
   refine reg hP hn hm [] [0,2,4,14] [0] ⟨[(0,.own 0),(2,iV .i64 a2),(4,.im (.sc (.func (.func 133) #[] #[]))),(14,iV .i64 a1)],[(0,some (.row 2 116 (a0.map eBucket)))],1⟩ [] (by kernel_rfl) trivial ?_
   refine AWp.seq ?_
   refine reg hP hn hm [] [0,2,4,14,15] [0] ⟨[(0,.own 0),(2,iV .i64 a2),(4,.im (.sc (.func (.func 133) #[] #[]))),(14,iV .i64 a1),(15,iV .i64 a2)],[(0,some (.row 2 116 (a0.map eBucket)))],1⟩ [] (by kernel_rfl) trivial ?_
   refine AWp.seq ?_
   refine AWp.block ?_
   obtain⟨o1285,e1286,H⟩:=bind_of H
   refine AWp.loop (LWp.conv (inv:=[(0,0)]) (vk:=[]) (e0:=[]) (t:=⟨[(0,.own 0),(2,iV .i64 a2),(4,.im (.sc (.func (.func 133) #[] #[]))),(14,iV .i64 a1),(15,iV .i64 a2)],[(0,some (.row 2 116 (a0.map eBucket)))],1⟩) (by kernel_rfl) ?_)
   refine LWp.mono (Q:=fun e s=>(match (generalizing:=false) o1285 with | x1082=>e = .exit 4∧s=⟨[(0,.own 0),(2,iV .i64 a2),(14,iV .i64 x1082)],[(0,some (.row 2 116 (a0.map eBucket)))],1⟩)) (LWp.cv (withBody (fun body hbody => ?_))) ?_
   ·refine f_slices_symMergeCmpFunc_api_Bucket_hist_tidy_1.l2.partial_correctness a0 a2 (motive:=fun x1060 x1061 o1285=>LWp Γ body (fun e s=>∃ t,Cv Γ s t∧(match (generalizing:=false) o1285 with | x1082=>e = .exit 4∧t=⟨[(0,.own 0),(2,iV .i64 a2),(14,iV .i64 x1082)],[(0,some (.row 2 116 (a0.map eBucket)))],1⟩)) ⟨[(0,.own 0),(2,iV .i64 a2),(4,.im (.sc (.func (.func 133) #[] #[]))),(14,iV .i64 x1060),(15,iV .i64 x1061)],[(0,some (.row 2 116 (a0.map eBucket)))],1⟩) ?_ _ _ _ e1286
    clear H e1286 o1285;intro self ih x1060 x1061 o1285 H
    subst hbody
    refine LWp.round ?_
    refine AWp.seq ?_
    refine AWp.seq ?_
    refine reg hP hn hm [] [0,2,4,14,15,85] [0] ⟨[(0,.own 0),(2,iV .i64 a2),(4,.im (.sc (.func (.func 133) #[] #[]))),(14,iV .i64 x1060),(15,iV .i64 x1061),(85,bV (decide (x1060<x1061)))],[(0,some (.row 2 116 (a0.map eBucket)))],1⟩ [] (by kernel_rfl) trivial ?_
    refine AWp.cond (decide (x1060<x1061)) rfl (fun c1062 => ?_) (fun c1062 => ?_)
    ·replace H:=(ifT c1062).symm.trans H
     refine AWp.skip ?_
     refine AWp.block ?_
     refine AWp.seq ?_
     refine reg hP hn hm [] [0,2,4,14,15,16] [0] ⟨[(0,.own 0),(2,iV .i64 a2),(4,.im (.sc (.func (.func 133) #[] #[]))),(14,iV .i64 x1060),(15,iV .i64 x1061),(16,iV .i64 (IntKind.i64.wrap (Int.fdiv (IntKind.u64.wrap (IntKind.i64.wrap (x1060+x1061))) 2)))],[(0,some (.row 2 116 (a0.map eBucket)))],1⟩ [(0:Int)≤1] (by kernel_rfl) ⟨by decide,trivial⟩ ?_
     refine AWp.seq ?_
     obtain⟨b1071,p1072,q1073,H⟩:=at_of H
     obtain⟨b1074,p1075,q1076,H⟩:=at_of H
     obtain⟨t1077,e1078,H⟩:=bind_of H
     refine reg hP hn hm [(4,.c (eBucket b1071)),(8,.c (eBucket b1074)),(9,.call [] [] [] [] 0 (iV .i64 t1077) [])] [0,2,4,14,15,16,103] [0] ⟨[(0,.own 0),(2,iV .i64 a2),(4,.im (.sc (.func (.func 133) #[] #[]))),(14,iV .i64 x1060),(15,iV .i64 x1061),(16,iV .i64 (IntKind.i64.wrap (Int.fdiv (IntKind.u64.wrap (IntKind.i64.wrap (x1060+x1061))) 2))),(103,bV (!(decide (t1077<(0:Int)))))],[(0,some (.row 2 116 (a0.map eBucket)))],1⟩ [0≤a2,a2<(((a0.map eBucket).length:Nat):Int),(a0.map eBucket)[(Int.toNat (a2))]? = some (eBucket b1071),0≤(IntKind.i64.wrap (Int.fdiv (IntKind.u64.wrap (IntKind.i64.wrap (x1060+x1061))) 2)),IntKind.i64.wrap (Int.fdiv (IntKind.u64.wrap (IntKind.i64.wrap (x1060+x1061))) 2)<(((a0.map eBucket).length:Nat):Int),(a0.map eBucket)[(Int.toNat (IntKind.i64.wrap (Int.fdiv (IntKind.u64.wrap (IntKind.i64.wrap (x1060+x1061))) 2)))]? = some (eBucket b1074),Enters Try.prog 133,Pv.Fn Try.prog 133 [.agg (aBucket b1071),.agg (aBucket b1074)] [] 0 (fun r o=>r=iV .i64 t1077∧o=[])] (by kernel_rfl) ⟨by exact p1072,by exact el_lt eBucket p1072 q1073,by exact el_map eBucket q1073,by exact p1075,by exact el_lt eBucket p1075 q1076,by exact el_map eBucket q1076,by exact Try.call133,by exact f_hist_tidy_1.ok b1071 b1074 t1077 e1078,trivial⟩ ?_
     obtain⟨o1287,e1288,H⟩:=bind_of H
     refine AWp.mono (Q:=fun e s=>(match (generalizing:=false) o1287 with | (x1080,x1081)=>e = .normal∧s=⟨[(0,.own 0),(2,iV .i64 a2),(4,.im (.sc (.func (.func 133) #[] #[]))),(14,iV .i64 x1080),(15,iV .i64 x1081)],[(0,some (.row 2 116 (a0.map eBucket)))],1⟩)) (AWp.cv ?_) ?_
     ·replace H:=e1288;clear e1288
      refine AWp.cond (!(decide (t1077<(0:Int)))) rfl (fun c1079 => ?_) (fun c1079 => ?_)
      ·replace H:=(ifT c1079).symm.trans H
       refine reg hP hn hm [] [0,2,4,14,15] [0] ⟨[(0,.own 0),(2,iV .i64 a2),(4,.im (.sc (.func (.func 133) #[] #[]))),(14,iV .i64 (IntKind.i64.wrap ((IntKind.i64.wrap (Int.fdiv (IntKind.u64.wrap (IntKind.i64.wrap (x1060+x1061))) 2))+(1:Int)))),(15,iV .i64 x1061)],[(0,some (.row 2 116 (a0.map eBucket)))],1⟩ [] (by kernel_rfl) trivial ?_
       obtain rfl:=Option.some.inj H
       exact Exists.intro _ (And.intro (fun _ _ h=>h.conv (inv:=[(0,0)]) (vk:=[]) (e0:=[]) (t:=⟨[(0,.own 0),(2,iV .i64 a2),(4,.im (.sc (.func (.func 133) #[] #[]))),(14,iV .i64 (IntKind.i64.wrap ((IntKind.i64.wrap (Int.fdiv (IntKind.u64.wrap (IntKind.i64.wrap (x1060+x1061))) 2))+(1:Int)))),(15,iV .i64 x1061)],[(0,some (.row 2 116 (a0.map eBucket)))],1⟩) (by kernel_rfl)) (And.intro rfl rfl))
      ·replace H:=(ifF c1079).symm.trans H
       refine reg hP hn hm [] [0,2,4,14,15] [0] ⟨[(0,.own 0),(2,iV .i64 a2),(4,.im (.sc (.func (.func 133) #[] #[]))),(14,iV .i64 x1060),(15,iV .i64 (IntKind.i64.wrap (Int.fdiv (IntKind.u64.wrap (IntKind.i64.wrap (x1060+x1061))) 2)))],[(0,some (.row 2 116 (a0.map eBucket)))],1⟩ [] (by kernel_rfl) trivial ?_
       obtain rfl:=Option.some.inj H
       exact Exists.intro _ (And.intro (fun _ _ h=>h.conv (inv:=[(0,0)]) (vk:=[]) (e0:=[]) (t:=⟨[(0,.own 0),(2,iV .i64 a2),(4,.im (.sc (.func (.func 133) #[] #[]))),(14,iV .i64 x1060),(15,iV .i64 (IntKind.i64.wrap (Int.fdiv (IntKind.u64.wrap (IntKind.i64.wrap (x1060+x1061))) 2)))],[(0,some (.row 2 116 (a0.map eBucket)))],1⟩) (by kernel_rfl)) (And.intro rfl rfl))
     ·obtain⟨x1080,x1081⟩:=o1287
      rintro e s ⟨rfl,rfl⟩
      exact LWp.conv (inv:=[(0,0)]) (vk:=[]) (e0:=[]) (t:=⟨[(0,.own 0),(2,iV .i64 a2),(4,.im (.sc (.func (.func 133) #[] #[]))),(14,iV .i64 x1080),(15,iV .i64 x1081)],[(0,some (.row 2 116 (a0.map eBucket)))],1⟩) (by kernel_rfl) (ih _ _ _ H)
    ·replace H:=(ifF c1062).symm.trans H
     refine AWp.exit ?_
     obtain rfl:=Option.some.inj H
     exact Exists.intro _ (And.intro (fun _ _ h=>h.conv (inv:=[(0,0)]) (vk:=[]) (e0:=[]) (t:=⟨[(0,.own 0),(2,iV .i64 a2),(14,iV .i64 x1060)],[(0,some (.row 2 116 (a0.map eBucket)))],1⟩) (by kernel_rfl)) (And.intro rfl rfl))
   ·obtain⟨x1082,rfl⟩:∃ z,z=o1285:=⟨_,rfl⟩
    rintro e s ⟨rfl,rfl⟩
    refine AWp.seq ?_
    refine AWp.seq ?_
    refine reg hP hn hm [] [0,14,17] [0] ⟨[(0,.own 0),(14,iV .i64 x1082),(17,iV .i64 a2)],[(0,some (.row 2 116 (a0.map eBucket)))],1⟩ [] (by kernel_rfl) trivial ?_
    refine AWp.block ?_
    obtain⟨o1289,e1290,H⟩:=bind_of H
    refine AWp.loop (LWp.conv (inv:=[(0,0)]) (vk:=[]) (e0:=[]) (t:=⟨[(0,.own 0),(14,iV .i64 x1082),(17,iV .i64 a2)],[(0,some (.row 2 116 (a0.map eBucket)))],1⟩) (by kernel_rfl) ?_)
    refine LWp.mono (Q:=fun e s=>(match (generalizing:=false) o1289 with | x1123=>e = .exit 6∧s=⟨[],[(0,some (.row 2 116 (x1123.map eBucket)))],1⟩)) (LWp.cv (withBody (fun body hbody => ?_))) ?_
    ·refine f_slices_symMergeCmpFunc_api_Bucket_hist_tidy_1.l3.partial_correctness x1082 (motive:=fun x1102 x1103 o1289=>LWp Γ body (fun e s=>∃ t,Cv Γ s t∧(match (generalizing:=false) o1289 with | x1123=>e = .exit 6∧t=⟨[],[(0,some (.row 2 116 (x1123.map eBucket)))],1⟩)) ⟨[(0,.own 0),(14,iV .i64 x1082),(17,iV .i64 x1103)],[(0,some (.row 2 116 (x1102.map eBucket)))],1⟩) ?_ _ _ _ e1290
     clear H e1290 o1289;intro self ih x1102 x1103 o1289 H
     subst hbody
     refine LWp.round ?_
     refine AWp.seq ?_
     refine AWp.seq ?_
     refine reg hP hn hm [] [0,14,17,110] [0] ⟨[(0,.own 0),(14,iV .i64 x1082),(17,iV .i64 x1103),(110,bV (decide (x1103>x1082)))],[(0,some (.row 2 116 (x1102.map eBucket)))],1⟩ [] (by kernel_rfl) trivial ?_
     refine AWp.cond (decide (x1103>x1082)) rfl (fun c1104 => ?_) (fun c1104 => ?_)
     ·replace H:=(ifT c1104).symm.trans H
      refine AWp.skip ?_
      refine AWp.seq ?_
      refine AWp.block ?_
      obtain⟨b1114,p1115,q1116,H⟩:=at_of H
      obtain⟨b1117,p1118,q1119,H⟩:=at_of H
      obtain⟨b1120,p1121,q1122,H⟩:=at_of H
      refine reg hP hn hm [(9,.c (eBucket b1114)),(13,.c (eBucket b1117)),(15,.put (eBucket b1117) ((x1102.set (Int.toNat (x1103)) b1114).map eBucket)),(17,.put (eBucket b1120) (((x1102.set (Int.toNat (x1103)) b1114).set (Int.toNat (IntKind.i64.wrap (x1103-(1:Int)))) b1117).map eBucket))] [0,14,17] [0] ⟨[(0,.own 0),(14,iV .i64 x1082),(17,iV .i64 x1103)],[(0,some (.row 2 116 (((x1102.set (Int.toNat (x1103)) b1114).set (Int.toNat (IntKind.i64.wrap (x1103-(1:Int)))) b1117).map eBucket)))],1⟩ [0≤(IntKind.i64.wrap (x1103-(1:Int))),IntKind.i64.wrap (x1103-(1:Int))<(((x1102.map eBucket).length:Nat):Int),(x1102.map eBucket)[(Int.toNat (IntKind.i64.wrap (x1103-(1:Int))))]? = some (eBucket b1114),0≤x1103,x1103<(((x1102.map eBucket).length:Nat):Int),(x1102.map eBucket)[(Int.toNat (x1103))]? = some (eBucket b1117),0≤x1103,x1103<(((x1102.map eBucket).length:Nat):Int),(x1102.map eBucket)[(Int.toNat (x1103))]? = some (eBucket b1117),(x1102.set (Int.toNat (x1103)) b1114).map eBucket=(x1102.map eBucket).set (Int.toNat (x1103)) (splice (eBucket b1117) 0 [iI .i64 b1114.f0,iI .u64 b1114.f1]),0≤(IntKind.i64.wrap (x1103-(1:Int))),IntKind.i64.wrap (x1103-(1:Int))<((((x1102.set (Int.toNat (x1103)) b1114).map eBucket).length:Nat):Int),((x1102.set (Int.toNat (x1103)) b1114).map eBucket)[(Int.toNat (IntKind.i64.wrap (x1103-(1:Int))))]? = some (eBucket b1120),((x1102.set (Int.toNat (x1103)) b1114).set (Int.toNat (IntKind.i64.wrap (x1103-(1:Int)))) b1117).map eBucket=((x1102.set (Int.toNat (x1103)) b1114).map eBucket).set (Int.toNat (IntKind.i64.wrap (x1103-(1:Int)))) (splice (eBucket b1120) 0 [iI .i64 b1117.f0,iI .u64 b1117.f1])] (by kernel_rfl) ⟨by exact p1115,by exact el_lt eBucket p1115 q1116,by exact el_map eBucket q1116,by exact p1118,by exact el_lt eBucket p1118 q1119,by exact el_map eBucket q1119,by exact p1118,by exact el_lt eBucket p1118 q1119,by exact el_map eBucket q1119,by exact set1 _ _ _ _,by exact p1121,by exact el_lt eBucket p1121 q1122,by exact el_map eBucket q1122,by exact set1 _ _ _ _,trivial⟩ ?_
      refine reg hP hn hm [] [0,14,17] [0] ⟨[(0,.own 0),(14,iV .i64 x1082),(17,iV .i64 (IntKind.i64.wrap (x1103-(1:Int))))],[(0,some (.row 2 116 (((x1102.set (Int.toNat (x1103)) b1114).set (Int.toNat (IntKind.i64.wrap (x1103-(1:Int)))) b1117).map eBucket)))],1⟩ [] (by kernel_rfl) trivial ?_
      exact LWp.conv (inv:=[(0,0)]) (vk:=[]) (e0:=[]) (t:=⟨[(0,.own 0),(14,iV .i64 x1082),(17,iV .i64 (IntKind.i64.wrap (x1103-(1:Int))))],[(0,some (.row 2 116 (((x1102.set (Int.toNat (x1103)) b1114).set (Int.toNat (IntKind.i64.wrap (x1103-(1:Int)))) b1117).map eBucket)))],1⟩) (by kernel_rfl) (ih _ _ _ H)
     ·replace H:=(ifF c1104).symm.trans H
      refine AWp.exit ?_
      obtain rfl:=Option.some.inj H
      exact Exists.intro _ (And.intro (fun _ _ h=>h.conv (inv:=[(0,0)]) (vk:=[]) (e0:=[]) (t:=⟨[],[(0,some (.row 2 116 (x1102.map eBucket)))],1⟩) (by kernel_rfl)) (And.intro rfl rfl))
    ·obtain⟨x1123,rfl⟩:∃ z,z=o1289:=⟨_,rfl⟩
     rintro e s ⟨rfl,rfl⟩
     refine AWp.conv (inv:=[(0,0)]) (vk:=[]) (e0:=[]) (t:=⟨[],[(0,some (.row 2 116 (x1123.map eBucket)))],1⟩) (by kernel_rfl) ?_
     refine AWp.ret ?_
     obtain rfl:=Option.some.inj H
     exact Exists.intro _ (And.intro (fun _ _ h=>h) (And.intro (.inl rfl) (And.intro rfl (And.intro (by kernel_rfl) (by kernel_rfl)))))
  ·replace H:=(ifF c1039).symm.trans H
   refine AWp.skip ?_
   refine AWp.seq ?_
   refine reg hP hn hm [] [0,1,2,3,4,18] [0] ⟨[(0,.own 0),(1,iV .i64 a1),(2,iV .i64 a2),(3,iV .i64 a3),(4,.im (.sc (.func (.func 133) #[] #[]))),(18,iV .i64 (IntKind.i64.wrap (Int.fdiv (IntKind.u64.wrap (IntKind.i64.wrap (a1+a3))) 2)))],[(0,some (.row 2 116 (a0.map eBucket)))],1⟩ [(0:Int)≤1] (by kernel_rfl) ⟨by decide,trivial⟩ ?_
   refine AWp.seq ?_
   refine reg hP hn hm [] [0,1,2,3,4,18,19] [0] ⟨[(0,.own 0),(1,iV .i64 a1),(2,iV .i64 a2),(3,iV .i64 a3),(4,.im (.sc (.func (.func 133) #[] #[]))),(18,iV .i64 (IntKind.i64.wrap (Int.fdiv (IntKind.u64.wrap (IntKind.i64.wrap (a1+a3))) 2))),(19,iV .i64 (IntKind.i64.wrap ((IntKind.i64.wrap (Int.fdiv (IntKind.u64.wrap (IntKind.i64.wrap (a1+a3))) 2))+a2)))],[(0,some (.row 2 116 (a0.map eBucket)))],1⟩ [] (by kernel_rfl) trivial ?_
   refine AWp.seq ?_
   refine reg hP hn hm [] [0,1,2,3,4,18,19] [0] ⟨[(0,.own 0),(1,iV .i64 a1),(2,iV .i64 a2),(3,iV .i64 a3),(4,.im (.sc (.func (.func 133) #[] #[]))),(18,iV .i64 (IntKind.i64.wrap (Int.fdiv (IntKind.u64.wrap (IntKind.i64.wrap (a1+a3))) 2))),(19,iV .i64 (IntKind.i64.wrap ((IntKind.i64.wrap (Int.fdiv (IntKind.u64.wrap (IntKind.i64.wrap (a1+a3))) 2))+a2)))],[(0,some (.row 2 116 (a0.map eBucket)))],1⟩ [] (by kernel_rfl) trivial ?_
   refine AWp.seq ?_
   refine AWp.seq ?_
   refine reg hP hn hm [] [0,1,2,3,4,18,19,140] [0] ⟨[(0,.own 0),(1,iV .i64 a1),(2,iV .i64 a2),(3,iV .i64 a3),(4,.im (.sc (.func (.func 133) #[] #[]))),(18,iV .i64 (IntKind.i64.wrap (Int.fdiv (IntKind.u64.wrap (IntKind.i64.wrap (a1+a3))) 2))),(19,iV .i64 (IntKind.i64.wrap ((IntKind.i64.wrap (Int.fdiv (IntKind.u64.wrap (IntKind.i64.wrap (a1+a3))) 2))+a2))),(140,bV (decide (a2>(IntKind.i64.wrap (Int.fdiv (IntKind.u64.wrap (IntKind.i64.wrap (a1+a3))) 2)))))],[(0,some (.row 2 116 (a0.map eBucket)))],1⟩ [] (by kernel_rfl) trivial ?_
   obtain⟨o1291,e1292,H⟩:=bind_of H
   refine AWp.mono (Q:=fun e s=>(match (generalizing:=false) o1291 with | (x1125,x1126)=>e = .normal∧s=⟨[(0,.own 0),(1,iV .i64 a1),(2,iV .i64 a2),(3,iV .i64 a3),(4,.im (.sc (.func (.func 133) #[] #[]))),(18,iV .i64 (IntKind.i64.wrap (Int.fdiv (IntKind.u64.wrap (IntKind.i64.wrap (a1+a3))) 2))),(19,iV .i64 (IntKind.i64.wrap ((IntKind.i64.wrap (Int.fdiv (IntKind.u64.wrap (IntKind.i64.wrap (a1+a3))) 2))+a2))),(20,iV .i64 x1125),(21,iV .i64 x1126)],[(0,some (.row 2 116 (a0.map eBucket)))],1⟩)) (AWp.cv ?_) ?_
   ·replace H:=e1292;clear e1292
    refine AWp.cond (decide (a2>(IntKind.i64.wrap (Int.fdiv (IntKind.u64.wrap (IntKind.i64.wrap (a1+a3))) 2)))) rfl (fun c1124 => ?_) (fun c1124 => ?_)
    ·replace H:=(ifT c1124).symm.trans H
     refine AWp.seq ?_
     refine reg hP hn hm [] [0,1,2,3,4,18,19,20] [0] ⟨[(0,.own 0),(1,iV .i64 a1),(2,iV .i64 a2),(3,iV .i64 a3),(4,.im (.sc (.func (.func 133) #[] #[]))),(18,iV .i64 (IntKind.i64.wrap (Int.fdiv (IntKind.u64.wrap (IntKind.i64.wrap (a1+a3))) 2))),(19,iV .i64 (IntKind.i64.wrap ((IntKind.i64.wrap (Int.fdiv (IntKind.u64.wrap (IntKind.i64.wrap (a1+a3))) 2))+a2))),(20,iV .i64 (IntKind.i64.wrap ((IntKind.i64.wrap ((IntKind.i64.wrap (Int.fdiv (IntKind.u64.wrap (IntKind.i64.wrap (a1+a3))) 2))+a2))-a3)))],[(0,some (.row 2 116 (a0.map eBucket)))],1⟩ [] (by kernel_rfl) trivial ?_
     refine reg hP hn hm [] [0,1,2,3,4,18,19,20,21] [0] ⟨[(0,.own 0),(1,iV .i64 a1),(2,iV .i64 a2),(3,iV .i64 a3),(4,.im (.sc (.func (.func 133) #[] #[]))),(18,iV .i64 (IntKind.i64.wrap (Int.fdiv (IntKind.u64.wrap (IntKind.i64.wrap (a1+a3))) 2))),(19,iV .i64 (IntKind.i64.wrap ((IntKind.i64.wrap (Int.fdiv (IntKind.u64.wrap (IntKind.i64.wrap (a1+a3))) 2))+a2))),(20,iV .i64 (IntKind.i64.wrap ((IntKind.i64.wrap ((IntKind.i64.wrap (Int.fdiv (IntKind.u64.wrap (IntKind.i64.wrap (a1+a3))) 2))+a2))-a3))),(21,iV .i64 (IntKind.i64.wrap (Int.fdiv (IntKind.u64.wrap (IntKind.i64.wrap (a1+a3))) 2)))],[(0,some (.row 2 116 (a0.map eBucket)))],1⟩ [] (by kernel_rfl) trivial ?_
     obtain rfl:=Option.some.inj H
     exact Exists.intro _ (And.intro (fun _ _ h=>h.conv (inv:=[(0,0)]) (vk:=[]) (e0:=[]) (t:=⟨[(0,.own 0),(1,iV .i64 a1),(2,iV .i64 a2),(3,iV .i64 a3),(4,.im (.sc (.func (.func 133) #[] #[]))),(18,iV .i64 (IntKind.i64.wrap (Int.fdiv (IntKind.u64.wrap (IntKind.i64.wrap (a1+a3))) 2))),(19,iV .i64 (IntKind.i64.wrap ((IntKind.i64.wrap (Int.fdiv (IntKind.u64.wrap (IntKind.i64.wrap (a1+a3))) 2))+a2))),(20,iV .i64 (IntKind.i64.wrap ((IntKind.i64.wrap ((IntKind.i64.wrap (Int.fdiv (IntKind.u64.wrap (IntKind.i64.wrap (a1+a3))) 2))+a2))-a3))),(21,iV .i64 (IntKind.i64.wrap (Int.fdiv (IntKind.u64.wrap (IntKind.i64.wrap (a1+a3))) 2)))],[(0,some (.row 2 116 (a0.map eBucket)))],1⟩) (by kernel_rfl)) (And.intro rfl rfl))
    ·replace H:=(ifF c1124).symm.trans H
     refine AWp.seq ?_
     refine reg hP hn hm [] [0,1,2,3,4,18,19,20] [0] ⟨[(0,.own 0),(1,iV .i64 a1),(2,iV .i64 a2),(3,iV .i64 a3),(4,.im (.sc (.func (.func 133) #[] #[]))),(18,iV .i64 (IntKind.i64.wrap (Int.fdiv (IntKind.u64.wrap (IntKind.i64.wrap (a1+a3))) 2))),(19,iV .i64 (IntKind.i64.wrap ((IntKind.i64.wrap (Int.fdiv (IntKind.u64.wrap (IntKind.i64.wrap (a1+a3))) 2))+a2))),(20,iV .i64 a1)],[(0,some (.row 2 116 (a0.map eBucket)))],1⟩ [] (by kernel_rfl) trivial ?_
     refine reg hP hn hm [] [0,1,2,3,4,18,19,20,21] [0] ⟨[(0,.own 0),(1,iV .i64 a1),(2,iV .i64 a2),(3,iV .i64 a3),(4,.im (.sc (.func (.func 133) #[] #[]))),(18,iV .i64 (IntKind.i64.wrap (Int.fdiv (IntKind.u64.wrap (IntKind.i64.wrap (a1+a3))) 2))),(19,iV .i64 (IntKind.i64.wrap ((IntKind.i64.wrap (Int.fdiv (IntKind.u64.wrap (IntKind.i64.wrap (a1+a3))) 2))+a2))),(20,iV .i64 a1),(21,iV .i64 a2)],[(0,some (.row 2 116 (a0.map eBucket)))],1⟩ [] (by kernel_rfl) trivial ?_
     obtain rfl:=Option.some.inj H
     exact Exists.intro _ (And.intro (fun _ _ h=>h.conv (inv:=[(0,0)]) (vk:=[]) (e0:=[]) (t:=⟨[(0,.own 0),(1,iV .i64 a1),(2,iV .i64 a2),(3,iV .i64 a3),(4,.im (.sc (.func (.func 133) #[] #[]))),(18,iV .i64 (IntKind.i64.wrap (Int.fdiv (IntKind.u64.wrap (IntKind.i64.wrap (a1+a3))) 2))),(19,iV .i64 (IntKind.i64.wrap ((IntKind.i64.wrap (Int.fdiv (IntKind.u64.wrap (IntKind.i64.wrap (a1+a3))) 2))+a2))),(20,iV .i64 a1),(21,iV .i64 a2)],[(0,some (.row 2 116 (a0.map eBucket)))],1⟩) (by kernel_rfl)) (And.intro rfl rfl))
   ·obtain⟨x1125,x1126⟩:=o1291
    rintro e s ⟨rfl,rfl⟩
    refine AWp.seq ?_
    refine reg hP hn hm [] [0,1,2,3,4,18,19,20,21,22] [0] ⟨[(0,.own 0),(1,iV .i64 a1),(2,iV .i64 a2),(3,iV .i64 a3),(4,.im (.sc (.func (.func 133) #[] #[]))),(18,iV .i64 (IntKind.i64.wrap (Int.fdiv (IntKind.u64.wrap (IntKind.i64.wrap (a1+a3))) 2))),(19,iV .i64 (IntKind.i64.wrap ((IntKind.i64.wrap (Int.fdiv (IntKind.u64.wrap (IntKind.i64.wrap (a1+a3))) 2))+a2))),(20,iV .i64 x1125),(21,iV .i64 x1126),(22,iV .i64 (IntKind.i64.wrap ((IntKind.i64.wrap ((IntKind.i64.wrap (Int.fdiv (IntKind.u64.wrap (IntKind.i64.wrap (a1+a3))) 2))+a2))-(1:Int))))],[(0,some (.row 2 116 (a0.map eBucket)))],1⟩ [] (by kernel_rfl) trivial ?_
    refine AWp.seq ?_
    refine AWp.block ?_
    obtain⟨o1293,e1294,H⟩:=bind_of H
    refine AWp.loop (LWp.conv (inv:=[(0,0)]) (vk:=[]) (e0:=[]) (t:=⟨[(0,.own 0),(1,iV .i64 a1),(2,iV .i64 a2),(3,iV .i64 a3),(4,.im (.sc (.func (.func 133) #[] #[]))),(18,iV .i64 (IntKind.i64.wrap (Int.fdiv (IntKind.u64.wrap (IntKind.i64.wrap (a1+a3))) 2))),(19,iV .i64 (IntKind.i64.wrap ((IntKind.i64.wrap (Int.fdiv (IntKind.u64.wrap (IntKind.i64.wrap (a1+a3))) 2))+a2))),(20,iV .i64 x1125),(21,iV .i64 x1126),(22,iV .i64 (IntKind.i64.wrap ((IntKind.i64.wrap ((IntKind.i64.wrap (Int.fdiv (IntKind.u64.wrap (IntKind.i64.wrap (a1+a3))) 2))+a2))-(1:Int))))],[(0,some (.row 2 116 (a0.map eBucket)))],1⟩) (by kernel_rfl) ?_)
    refine LWp.mono (Q:=fun e s=>(match (generalizing:=false) o1293 with | x1169=>e = .exit 8∧s=⟨[(0,.own 0),(1,iV .i64 a1),(2,iV .i64 a2),(3,iV .i64 a3),(4,.im (.sc (.func (.func 133) #[] #[]))),(18,iV .i64 (IntKind.i64.wrap (Int.fdiv (IntKind.u64.wrap (IntKind.i64.wrap (a1+a3))) 2))),(19,iV .i64 (IntKind.i64.wrap ((IntKind.i64.wrap (Int.fdiv (IntKind.u64.wrap (IntKind.i64.wrap (a1+a3))) 2))+a2))),(20,iV .i64 x1169)],[(0,some (.row 2 116 (a0.map eBucket)))],1⟩)) (LWp.cv (withBody (fun body hbody => ?_))) ?_
    ·refine f_slices_symMergeCmpFunc_api_Bucket_hist_tidy_1.l4.partial_correctness a0 a1 a2 a3 (motive:=fun x1147 x1148 o1293=>LWp Γ body (fun e s=>∃ t,Cv Γ s t∧(match (generalizing:=false) o1293 with | x1169=>e = .exit 8∧t=⟨[(0,.own 0),(1,iV .i64 a1),(2,iV .i64 a2),(3,iV .i64 a3),(4,.im (.sc (.func (.func 133) #[] #[]))),(18,iV .i64 (IntKind.i64.wrap (Int.fdiv (IntKind.u64.wrap (IntKind.i64.wrap (a1+a3))) 2))),(19,iV .i64 (IntKind.i64.wrap ((IntKind.i64.wrap (Int.fdiv (IntKind.u64.wrap (IntKind.i64.wrap (a1+a3))) 2))+a2))),(20,iV .i64 x1169)],[(0,some (.row 2 116 (a0.map eBucket)))],1⟩)) ⟨[(0,.own 0),(1,iV .i64 a1),(2,iV .i64 a2),(3,iV .i64 a3),(4,.im (.sc (.func (.func 133) #[] #[]))),(18,iV .i64 (IntKind.i64.wrap (Int.fdiv (IntKind.u64.wrap (IntKind.i64.wrap (a1+a3))) 2))),(19,iV .i64 (IntKind.i64.wrap ((IntKind.i64.wrap (Int.fdiv (IntKind.u64.wrap (IntKind.i64.wrap (a1+a3))) 2))+a2))),(20,iV .i64 x1147),(21,iV .i64 x1148),(22,iV .i64 (IntKind.i64.wrap ((IntKind.i64.wrap ((IntKind.i64.wrap (Int.fdiv (IntKind.u64.wrap (IntKind.i64.wrap (a1+a3))) 2))+a2))-(1:Int))))],[(0,some (.row 2 116 (a0.map eBucket)))],1⟩) ?_ _ _ _ e1294
     clear H e1294 o1293;intro self ih x1147 x1148 o1293 H
     subst hbody
     refine LWp.round ?_
     refine AWp.seq ?_
     refine AWp.seq ?_
     refine reg hP hn hm [] [0,1,2,3,4,18,19,20,21,22,151] [0] ⟨[(0,.own 0),(1,iV .i64 a1),(2,iV .i64 a2),(3,iV .i64 a3),(4,.im (.sc (.func (.func 133) #[] #[]))),(18,iV .i64 (IntKind.i64.wrap (Int.fdiv (IntKind.u64.wrap (IntKind.i64.wrap (a1+a3))) 2))),(19,iV .i64 (IntKind.i64.wrap ((IntKind.i64.wrap (Int.fdiv (IntKind.u64.wrap (IntKind.i64.wrap (a1+a3))) 2))+a2))),(20,iV .i64 x1147),(21,iV .i64 x1148),(22,iV .i64 (IntKind.i64.wrap ((IntKind.i64.wrap ((IntKind.i64.wrap (Int.fdiv (IntKind.u64.wrap (IntKind.i64.wrap (a1+a3))) 2))+a2))-(1:Int)))),(151,bV (decide (x1147<x1148)))],[(0,some (.row 2 116 (a0.map eBucket)))],1⟩ [] (by kernel_rfl) trivial ?_
     refine AWp.cond (decide (x1147<x1148)) rfl (fun c1149 => ?_) (fun c1149 => ?_)
     ·replace H:=(ifT c1149).symm.trans H
      refine AWp.skip ?_
      refine AWp.block ?_
      refine AWp.seq ?_
      refine reg hP hn hm [] [0,1,2,3,4,18,19,20,21,22,23] [0] ⟨[(0,.own 0),(1,iV .i64 a1),(2,iV .i64 a2),(3,iV .i64 a3),(4,.im (.sc (.func (.func 133) #[] #[]))),(18,iV .i64 (IntKind.i64.wrap (Int.fdiv (IntKind.u64.wrap (IntKind.i64.wrap (a1+a3))) 2))),(19,iV .i64 (IntKind.i64.wrap ((IntKind.i64.wrap (Int.fdiv (IntKind.u64.wrap (IntKind.i64.wrap (a1+a3))) 2))+a2))),(20,iV .i64 x1147),(21,iV .i64 x1148),(22,iV .i64 (IntKind.i64.wrap ((IntKind.i64.wrap ((IntKind.i64.wrap (Int.fdiv (IntKind.u64.wrap (IntKind.i64.wrap (a1+a3))) 2))+a2))-(1:Int)))),(23,iV .i64 (IntKind.i64.wrap (Int.fdiv (IntKind.u64.wrap (IntKind.i64.wrap (x1147+x1148))) 2)))],[(0,some (.row 2 116 (a0.map eBucket)))],1⟩ [(0:Int)≤1] (by kernel_rfl) ⟨by decide,trivial⟩ ?_
      refine AWp.seq ?_
      obtain⟨b1158,p1159,q1160,H⟩:=at_of H
      obtain⟨b1161,p1162,q1163,H⟩:=at_of H
      obtain⟨t1164,e1165,H⟩:=bind_of H
      refine reg hP hn hm [(6,.c (eBucket b1158)),(10,.c (eBucket b1161)),(11,.call [] [] [] [] 0 (iV .i64 t1164) [])] [0,1,2,3,4,18,19,20,21,22,23,171] [0] ⟨[(0,.own 0),(1,iV .i64 a1),(2,iV .i64 a2),(3,iV .i64 a3),(4,.im (.sc (.func (.func 133) #[] #[]))),(18,iV .i64 (IntKind.i64.wrap (Int.fdiv (IntKind.u64.wrap (IntKind.i64.wrap (a1+a3))) 2))),(19,iV .i64 (IntKind.i64.wrap ((IntKind.i64.wrap (Int.fdiv (IntKind.u64.wrap (IntKind.i64.wrap (a1+a3))) 2))+a2))),(20,iV .i64 x1147),(21,iV .i64 x1148),(22,iV .i64 (IntKind.i64.wrap ((IntKind.i64.wrap ((IntKind.i64.wrap (Int.fdiv (IntKind.u64.wrap (IntKind.i64.wrap (a1+a3))) 2))+a2))-(1:Int)))),(23,iV .i64 (IntKind.i64.wrap (Int.fdiv (IntKind.u64.wrap (IntKind.i64.wrap (x1147+x1148))) 2))),(171,bV (!(decide (t1164<(0:Int)))))],[(0,some (.row 2 116 (a0.map eBucket)))],1⟩ [0≤(IntKind.i64.wrap ((IntKind.i64.wrap ((IntKind.i64.wrap ((IntKind.i64.wrap (Int.fdiv (IntKind.u64.wrap (IntKind.i64.wrap (a1+a3))) 2))+a2))-(1:Int)))-(IntKind.i64.wrap (Int.fdiv (IntKind.u64.wrap (IntKind.i64.wrap (x1147+x1148))) 2)))),IntKind.i64.wrap ((IntKind.i64.wrap ((IntKind.i64.wrap ((IntKind.i64.wrap (Int.fdiv (IntKind.u64.wrap (IntKind.i64.wrap (a1+a3))) 2))+a2))-(1:Int)))-(IntKind.i64.wrap (Int.fdiv (IntKind.u64.wrap (IntKind.i64.wrap (x1147+x1148))) 2)))<(((a0.map eBucket).length:Nat):Int),(a0.map eBucket)[(Int.toNat (IntKind.i64.wrap ((IntKind.i64.wrap ((IntKind.i64.wrap ((IntKind.i64.wrap (Int.fdiv (IntKind.u64.wrap (IntKind.i64.wrap (a1+a3))) 2))+a2))-(1:Int)))-(IntKind.i64.wrap (Int.fdiv (IntKind.u64.wrap (IntKind.i64.wrap (x1147+x1148))) 2)))))]? = some (eBucket b1158),0≤(IntKind.i64.wrap (Int.fdiv (IntKind.u64.wrap (IntKind.i64.wrap (x1147+x1148))) 2)),IntKind.i64.wrap (Int.fdiv (IntKind.u64.wrap (IntKind.i64.wrap (x1147+x1148))) 2)<(((a0.map eBucket).length:Nat):Int),(a0.map eBucket)[(Int.toNat (IntKind.i64.wrap (Int.fdiv (IntKind.u64.wrap (IntKind.i64.wrap (x1147+x1148))) 2)))]? = some (eBucket b1161),Enters Try.prog 133,Pv.Fn Try.prog 133 [.agg (aBucket b1158),.agg (aBucket b1161)] [] 0 (fun r o=>r=iV .i64 t1164∧o=[])] (by kernel_rfl) ⟨by exact p1159,by exact el_lt eBucket p1159 q1160,by exact el_map eBucket q1160,by exact p1162,by exact el_lt eBucket p1162 q1163,by exact el_map eBucket q1163,by exact Try.call133,by exact f_hist_tidy_1.ok b1158 b1161 t1164 e1165,trivial⟩ ?_
      obtain⟨o1295,e1296,H⟩:=bind_of H
      refine AWp.mono (Q:=fun e s=>(match (generalizing:=false) o1295 with | (x1167,x1168)=>e = .normal∧s=⟨[(0,.own 0),(1,iV .i64 a1),(2,iV .i64 a2),(3,iV .i64 a3),(4,.im (.sc (.func (.func 133) #[] #[]))),(18,iV .i64 (IntKind.i64.wrap (Int.fdiv (IntKind.u64.wrap (IntKind.i64.wrap (a1+a3))) 2))),(19,iV .i64 (IntKind.i64.wrap ((IntKind.i64.wrap (Int.fdiv (IntKind.u64.wrap (IntKind.i64.wrap (a1+a3))) 2))+a2))),(20,iV .i64 x1167),(21,iV .i64 x1168),(22,iV .i64 (IntKind.i64.wrap ((IntKind.i64.wrap ((IntKind.i64.wrap (Int.fdiv (IntKind.u64.wrap (IntKind.i64.wrap (a1+a3))) 2))+a2))-(1:Int))))],[(0,some (.row 2 116 (a0.map eBucket)))],1⟩)) (AWp.cv ?_) ?_
      ·replace H:=e1296;clear e1296
       refine AWp.cond (!(decide (t1164<(0:Int)))) rfl (fun c1166 => ?_) (fun c1166 => ?_)
       ·replace H:=(ifT c1166).symm.trans H
        refine reg hP hn hm [] [0,1,2,3,4,18,19,20,21,22] [0] ⟨[(0,.own 0),(1,iV .i64 a1),(2,iV .i64 a2),(3,iV .i64 a3),(4,.im (.sc (.func (.func 133) #[] #[]))),(18,iV .i64 (IntKind.i64.wrap (Int.fdiv (IntKind.u64.wrap (IntKind.i64.wrap (a1+a3))) 2))),(19,iV .i64 (IntKind.i64.wrap ((IntKind.i64.wrap (Int.fdiv (IntKind.u64.wrap (IntKind.i64.wrap (a1+a3))) 2))+a2))),(20,iV .i64 (IntKind.i64.wrap ((IntKind.i64.wrap (Int.fdiv (IntKind.u64.wrap (IntKind.i64.wrap (x1147+x1148))) 2))+(1:Int)))),(21,iV .i64 x1148),(22,iV .i64 (IntKind.i64.wrap ((IntKind.i64.wrap ((IntKind.i64.wrap (Int.fdiv (IntKind.u64.wrap (IntKind.i64.wrap (a1+a3))) 2))+a2))-(1:Int))))],[(0,some (.row 2 116 (a0.map eBucket)))],1⟩ [] (by kernel_rfl) trivial ?_
        obtain rfl:=Option.some.inj H
        exact Exists.intro _ (And.intro (fun _ _ h=>h.conv (inv:=[(0,0)]) (vk:=[]) (e0:=[]) (t:=⟨[(0,.own 0),(1,iV .i64 a1),(2,iV .i64 a2),(3,iV .i64 a3),(4,.im (.sc (.func (.func 133) #[] #[]))),(18,iV .i64 (IntKind.i64.wrap (Int.fdiv (IntKind.u64.wrap (IntKind.i64.wrap (a1+a3))) 2))),(19,iV .i64 (IntKind.i64.wrap ((IntKind.i64.wrap (Int.fdiv (IntKind.u64.wrap (IntKind.i64.wrap (a1+a3))) 2))+a2))),(20,iV .i64 (IntKind.i64.wrap ((IntKind.i64.wrap (Int.fdiv (IntKind.u64.wrap (IntKind.i64.wrap (x1147+x1148))) 2))+(1:Int)))),(21,iV .i64 x1148),(22,iV .i64 (IntKind.i64.wrap ((IntKind.i64.wrap ((IntKind.i64.wrap (Int.fdiv (IntKind.u64.wrap (IntKind.i64.wrap (a1+a3))) 2))+a2))-(1:Int))))],[(0,some (.row 2 116 (a0.map eBucket)))],1⟩) (by kernel_rfl)) (And.intro rfl rfl))
       ·replace H:=(ifF c1166).symm.trans H
        refine reg hP hn hm [] [0,1,2,3,4,18,19,20,21,22] [0] ⟨[(0,.own 0),(1,iV .i64 a1),(2,iV .i64 a2),(3,iV .i64 a3),(4,.im (.sc (.func (.func 133) #[] #[]))),(18,iV .i64 (IntKind.i64.wrap (Int.fdiv (IntKind.u64.wrap (IntKind.i64.wrap (a1+a3))) 2))),(19,iV .i64 (IntKind.i64.wrap ((IntKind.i64.wrap (Int.fdiv (IntKind.u64.wrap (IntKind.i64.wrap (a1+a3))) 2))+a2))),(20,iV .i64 x1147),(21,iV .i64 (IntKind.i64.wrap (Int.fdiv (IntKind.u64.wrap (IntKind.i64.wrap (x1147+x1148))) 2))),(22,iV .i64 (IntKind.i64.wrap ((IntKind.i64.wrap ((IntKind.i64.wrap (Int.fdiv (IntKind.u64.wrap (IntKind.i64.wrap (a1+a3))) 2))+a2))-(1:Int))))],[(0,some (.row 2 116 (a0.map eBucket)))],1⟩ [] (by kernel_rfl) trivial ?_
        obtain rfl:=Option.some.inj H
        exact Exists.intro _ (And.intro (fun _ _ h=>h.conv (inv:=[(0,0)]) (vk:=[]) (e0:=[]) (t:=⟨[(0,.own 0),(1,iV .i64 a1),(2,iV .i64 a2),(3,iV .i64 a3),(4,.im (.sc (.func (.func 133) #[] #[]))),(18,iV .i64 (IntKind.i64.wrap (Int.fdiv (IntKind.u64.wrap (IntKind.i64.wrap (a1+a3))) 2))),(19,iV .i64 (IntKind.i64.wrap ((IntKind.i64.wrap (Int.fdiv (IntKind.u64.wrap (IntKind.i64.wrap (a1+a3))) 2))+a2))),(20,iV .i64 x1147),(21,iV .i64 (IntKind.i64.wrap (Int.fdiv (IntKind.u64.wrap (IntKind.i64.wrap (x1147+x1148))) 2))),(22,iV .i64 (IntKind.i64.wrap ((IntKind.i64.wrap ((IntKind.i64.wrap (Int.fdiv (IntKind.u64.wrap (IntKind.i64.wrap (a1+a3))) 2))+a2))-(1:Int))))],[(0,some (.row 2 116 (a0.map eBucket)))],1⟩) (by kernel_rfl)) (And.intro rfl rfl))
      ·obtain⟨x1167,x1168⟩:=o1295
       rintro e s ⟨rfl,rfl⟩
       exact LWp.conv (inv:=[(0,0)]) (vk:=[]) (e0:=[]) (t:=⟨[(0,.own 0),(1,iV .i64 a1),(2,iV .i64 a2),(3,iV .i64 a3),(4,.im (.sc (.func (.func 133) #[] #[]))),(18,iV .i64 (IntKind.i64.wrap (Int.fdiv (IntKind.u64.wrap (IntKind.i64.wrap (a1+a3))) 2))),(19,iV .i64 (IntKind.i64.wrap ((IntKind.i64.wrap (Int.fdiv (IntKind.u64.wrap (IntKind.i64.wrap (a1+a3))) 2))+a2))),(20,iV .i64 x1167),(21,iV .i64 x1168),(22,iV .i64 (IntKind.i64.wrap ((IntKind.i64.wrap ((IntKind.i64.wrap (Int.fdiv (IntKind.u64.wrap (IntKind.i64.wrap (a1+a3))) 2))+a2))-(1:Int))))],[(0,some (.row 2 116 (a0.map eBucket)))],1⟩) (by kernel_rfl) (ih _ _ _ H)
     ·replace H:=(ifF c1149).symm.trans H
      refine AWp.exit ?_
      obtain rfl:=Option.some.inj H
      exact Exists.intro _ (And.intro (fun _ _ h=>h.conv (inv:=[(0,0)]) (vk:=[]) (e0:=[]) (t:=⟨[(0,.own 0),(1,iV .i64 a1),(2,iV .i64 a2),(3,iV .i64 a3),(4,.im (.sc (.func (.func 133) #[] #[]))),(18,iV .i64 (IntKind.i64.wrap (Int.fdiv (IntKind.u64.wrap (IntKind.i64.wrap (a1+a3))) 2))),(19,iV .i64 (IntKind.i64.wrap ((IntKind.i64.wrap (Int.fdiv (IntKind.u64.wrap (IntKind.i64.wrap (a1+a3))) 2))+a2))),(20,iV .i64 x1147)],[(0,some (.row 2 116 (a0.map eBucket)))],1⟩) (by kernel_rfl)) (And.intro rfl rfl))
    ·obtain⟨x1169,rfl⟩:∃ z,z=o1293:=⟨_,rfl⟩
     rintro e s ⟨rfl,rfl⟩
     refine AWp.seq ?_
     refine reg hP hn hm [] [0,1,2,3,4,18,20,24] [0] ⟨[(0,.own 0),(1,iV .i64 a1),(2,iV .i64 a2),(3,iV .i64 a3),(4,.im (.sc (.func (.func 133) #[] #[]))),(18,iV .i64 (IntKind.i64.wrap (Int.fdiv (IntKind.u64.wrap (IntKind.i64.wrap (a1+a3))) 2))),(20,iV .i64 x1169),(24,iV .i64 (IntKind.i64.wrap ((IntKind.i64.wrap ((IntKind.i64.wrap (Int.fdiv (IntKind.u64.wrap (IntKind.i64.wrap (a1+a3))) 2))+a2))-x1169)))],[(0,some (.row 2 116 (a0.map eBucket)))],1⟩ [] (by kernel_rfl) trivial ?_
     refine AWp.seq ?_
     refine AWp.seq ?_
     obtain⟨o1297,e1298,H⟩:=bind_of H
     refine AWp.mono (Q:=fun e s=>(match (generalizing:=false) o1297 with | x1172=>e = .normal∧s=⟨[(0,.own 0),(1,iV .i64 a1),(2,iV .i64 a2),(3,iV .i64 a3),(4,.im (.sc (.func (.func 133) #[] #[]))),(18,iV .i64 (IntKind.i64.wrap (Int.fdiv (IntKind.u64.wrap (IntKind.i64.wrap (a1+a3))) 2))),(20,iV .i64 x1169),(24,iV .i64 (IntKind.i64.wrap ((IntKind.i64.wrap ((IntKind.i64.wrap (Int.fdiv (IntKind.u64.wrap (IntKind.i64.wrap (a1+a3))) 2))+a2))-x1169))),(185,bV x1172)],[(0,some (.row 2 116 (a0.map eBucket)))],1⟩)) (AWp.cv ?_) ?_
     ·replace H:=e1298;clear e1298
      rcases Bool.eq_false_or_eq_true (decide (x1169<a2)) with c1171 | c1171
      ·replace H:=(ifT c1171).symm.trans H
       refine reg hP hn hm [(3,.b true)] [0,1,2,3,4,18,20,24,185] [0] ⟨[(0,.own 0),(1,iV .i64 a1),(2,iV .i64 a2),(3,iV .i64 a3),(4,.im (.sc (.func (.func 133) #[] #[]))),(18,iV .i64 (IntKind.i64.wrap (Int.fdiv (IntKind.u64.wrap (IntKind.i64.wrap (a1+a3))) 2))),(20,iV .i64 x1169),(24,iV .i64 (IntKind.i64.wrap ((IntKind.i64.wrap ((IntKind.i64.wrap (Int.fdiv (IntKind.u64.wrap (IntKind.i64.wrap (a1+a3))) 2))+a2))-x1169))),(185,bV (decide (a2<(IntKind.i64.wrap ((IntKind.i64.wrap ((IntKind.i64.wrap (Int.fdiv (IntKind.u64.wrap (IntKind.i64.wrap (a1+a3))) 2))+a2))-x1169)))))],[(0,some (.row 2 116 (a0.map eBucket)))],1⟩ [(decide (x1169<a2))=true] (by kernel_rfl) ⟨by exact c1171,trivial⟩ ?_
       obtain rfl:=Option.some.inj H
       exact Exists.intro _ (And.intro (fun _ _ h=>h.conv (inv:=[(0,0)]) (vk:=[]) (e0:=[]) (t:=⟨[(0,.own 0),(1,iV .i64 a1),(2,iV .i64 a2),(3,iV .i64 a3),(4,.im (.sc (.func (.func 133) #[] #[]))),(18,iV .i64 (IntKind.i64.wrap (Int.fdiv (IntKind.u64.wrap (IntKind.i64.wrap (a1+a3))) 2))),(20,iV .i64 x1169),(24,iV .i64 (IntKind.i64.wrap ((IntKind.i64.wrap ((IntKind.i64.wrap (Int.fdiv (IntKind.u64.wrap (IntKind.i64.wrap (a1+a3))) 2))+a2))-x1169))),(185,bV (decide (a2<(IntKind.i64.wrap ((IntKind.i64.wrap ((IntKind.i64.wrap (Int.fdiv (IntKind.u64.wrap (IntKind.i64.wrap (a1+a3))) 2))+a2))-x1169)))))],[(0,some (.row 2 116 (a0.map eBucket)))],1⟩) (by kernel_rfl)) (And.intro rfl rfl))
      ·replace H:=(ifF c1171).symm.trans H
       refine reg hP hn hm [(3,.b false)] [0,1,2,3,4,18,20,24,185] [0] ⟨[(0,.own 0),(1,iV .i64 a1),(2,iV .i64 a2),(3,iV .i64 a3),(4,.im (.sc (.func (.func 133) #[] #[]))),(18,iV .i64 (IntKind.i64.wrap (Int.fdiv (IntKind.u64.wrap (IntKind.i64.wrap (a1+a3))) 2))),(20,iV .i64 x1169),(24,iV .i64 (IntKind.i64.wrap ((IntKind.i64.wrap ((IntKind.i64.wrap (Int.fdiv (IntKind.u64.wrap (IntKind.i64.wrap (a1+a3))) 2))+a2))-x1169))),(185,bV false)],[(0,some (.row 2 116 (a0.map eBucket)))],1⟩ [(decide (x1169<a2))=false] (by kernel_rfl) ⟨by exact c1171,trivial⟩ ?_
       obtain rfl:=Option.some.inj H
       exact Exists.intro _ (And.intro (fun _ _ h=>h.conv (inv:=[(0,0)]) (vk:=[]) (e0:=[]) (t:=⟨[(0,.own 0),(1,iV .i64 a1),(2,iV .i64 a2),(3,iV .i64 a3),(4,.im (.sc (.func (.func 133) #[] #[]))),(18,iV .i64 (IntKind.i64.wrap (Int.fdiv (IntKind.u64.wrap (IntKind.i64.wrap (a1+a3))) 2))),(20,iV .i64 x1169),(24,iV .i64 (IntKind.i64.wrap ((IntKind.i64.wrap ((IntKind.i64.wrap (Int.fdiv (IntKind.u64.wrap (IntKind.i64.wrap (a1+a3))) 2))+a2))-x1169))),(185,bV false)],[(0,some (.row 2 116 (a0.map eBucket)))],1⟩) (by kernel_rfl)) (And.intro rfl rfl))
     ·obtain⟨x1172,rfl⟩:∃ z,z=o1297:=⟨_,rfl⟩
      rintro e s ⟨rfl,rfl⟩
      obtain⟨o1299,e1300,H⟩:=bind_of H
      refine AWp.mono (Q:=fun e s=>(match (generalizing:=false) o1299 with | x1260=>e = .normal∧s=⟨[(0,.own 0),(1,iV .i64 a1),(3,iV .i64 a3),(4,.im (.sc (.func (.func 133) #[] #[]))),(18,iV .i64 (IntKind.i64.wrap (Int.fdiv (IntKind.u64.wrap (IntKind.i64.wrap (a1+a3))) 2))),(20,iV .i64 x1169),(24,iV .i64 (IntKind.i64.wrap ((IntKind.i64.wrap ((IntKind.i64.wrap (Int.fdiv (IntKind.u64.wrap (IntKind.i64.wrap (a1+a3))) 2))+a2))-x1169)))],[(0,some (.row 2 116 (x1260.map eBucket)))],1⟩)) (AWp.cv ?_) ?_
      ·replace H:=e1300;clear e1300
       refine AWp.cond x1172 rfl (fun c1173 => ?_) (fun c1173 => ?_)
       ·replace H:=(ifT c1173).symm.trans H
        obtain⟨t1258,e1259,H⟩:=bind_of H
        refine reg hP hn hm [(5,.call [(0,0)] [(0,0)] [] [] 1 (.tup []) [(0,some (.row 2 116 (t1258.map eBucket)))])] [0,1,3,4,18,20,24] [0] ⟨[(0,.own 0),(1,iV .i64 a1),(3,iV .i64 a3),(4,.im (.sc (.func (.func 133) #[] #[]))),(18,iV .i64 (IntKind.i64.wrap (Int.fdiv (IntKind.u64.wrap (IntKind.i64.wrap (a1+a3))) 2))),(20,iV .i64 x1169),(24,iV .i64 (IntKind.i64.wrap ((IntKind.i64.wrap ((IntKind.i64.wrap (Int.fdiv (IntKind.u64.wrap (IntKind.i64.wrap (a1+a3))) 2))+a2))-x1169)))],[(0,some (.row 2 116 (t1258.map eBucket)))],1⟩ [Enters Try.prog 146,Pv.Fn Try.prog 146 [.own 0,iV .i64 x1169,iV .i64 a2,iV .i64 (IntKind.i64.wrap ((IntKind.i64.wrap ((IntKind.i64.wrap (Int.fdiv (IntKind.u64.wrap (IntKind.i64.wrap (a1+a3))) 2))+a2))-x1169)),.im (.sc (.func (.func 133) #[] #[]))] [(0,some (.row 2 116 (a0.map eBucket)))] 1 (fun r o=>r = .tup []∧o=[(0,some (.row 2 116 (t1258.map eBucket)))])] (by kernel_rfl) ⟨by exact Try.call146,by exact f_slices_rotateCmpFunc_api_Bucket_hist_tidy_1.ok a0 x1169 a2 (IntKind.i64.wrap ((IntKind.i64.wrap ((IntKind.i64.wrap (Int.fdiv (IntKind.u64.wrap (IntKind.i64.wrap (a1+a3))) 2))+a2))-x1169)) t1258 e1259,trivial⟩ ?_
        obtain rfl:=Option.some.inj H
        exact Exists.intro _ (And.intro (fun _ _ h=>h.conv (inv:=[(0,0)]) (vk:=[]) (e0:=[]) (t:=⟨[(0,.own 0),(1,iV .i64 a1),(3,iV .i64 a3),(4,.im (.sc (.func (.func 133) #[] #[]))),(18,iV .i64 (IntKind.i64.wrap (Int.fdiv (IntKind.u64.wrap (IntKind.i64.wrap (a1+a3))) 2))),(20,iV .i64 x1169),(24,iV .i64 (IntKind.i64.wrap ((IntKind.i64.wrap ((IntKind.i64.wrap (Int.fdiv (IntKind.u64.wrap (IntKind.i64.wrap (a1+a3))) 2))+a2))-x1169)))],[(0,some (.row 2 116 (t1258.map eBucket)))],1⟩) (by kernel_rfl)) (And.intro rfl rfl))
       ·replace H:=(ifF c1173).symm.trans H
        refine AWp.skip ?_
        obtain rfl:=Option.some.inj H
        exact Exists.intro _ (And.intro (fun _ _ h=>h.conv (inv:=[(0,0)]) (vk:=[]) (e0:=[]) (t:=⟨[(0,.own 0),(1,iV .i64 a1),(3,iV .i64 a3),(4,.im (.sc (.func (.func 133) #[] #[]))),(18,iV .i64 (IntKind.i64.wrap (Int.fdiv (IntKind.u64.wrap (IntKind.i64.wrap (a1+a3))) 2))),(20,iV .i64 x1169),(24,iV .i64 (IntKind.i64.wrap ((IntKind.i64.wrap ((IntKind.i64.wrap (Int.fdiv (IntKind.u64.wrap (IntKind.i64.wrap (a1+a3))) 2))+a2))-x1169)))],[(0,some (.row 2 116 (a0.map eBucket)))],1⟩) (by kernel_rfl)) (And.intro rfl rfl))
      ·obtain⟨x1260,rfl⟩:∃ z,z=o1299:=⟨_,rfl⟩
       rintro e s ⟨rfl,rfl⟩
       refine AWp.seq ?_
       refine AWp.seq ?_
       obtain⟨o1301,e1302,H⟩:=bind_of H
       refine AWp.mono (Q:=fun e s=>(match (generalizing:=false) o1301 with | x1263=>e = .normal∧s=⟨[(0,.own 0),(1,iV .i64 a1),(3,iV .i64 a3),(4,.im (.sc (.func (.func 133) #[] #[]))),(18,iV .i64 (IntKind.i64.wrap (Int.fdiv (IntKind.u64.wrap (IntKind.i64.wrap (a1+a3))) 2))),(20,iV .i64 x1169),(24,iV .i64 (IntKind.i64.wrap ((IntKind.i64.wrap ((IntKind.i64.wrap (Int.fdiv (IntKind.u64.wrap (IntKind.i64.wrap (a1+a3))) 2))+a2))-x1169))),(199,bV x1263)],[(0,some (.row 2 116 (x1260.map eBucket)))],1⟩)) (AWp.cv ?_) ?_
       ·replace H:=e1302;clear e1302
        rcases Bool.eq_false_or_eq_true (decide (a1<x1169)) with c1262 | c1262
        ·replace H:=(ifT c1262).symm.trans H
         refine reg hP hn hm [(3,.b true)] [0,1,3,4,18,20,24,199] [0] ⟨[(0,.own 0),(1,iV .i64 a1),(3,iV .i64 a3),(4,.im (.sc (.func (.func 133) #[] #[]))),(18,iV .i64 (IntKind.i64.wrap (Int.fdiv (IntKind.u64.wrap (IntKind.i64.wrap (a1+a3))) 2))),(20,iV .i64 x1169),(24,iV .i64 (IntKind.i64.wrap ((IntKind.i64.wrap ((IntKind.i64.wrap (Int.fdiv (IntKind.u64.wrap (IntKind.i64.wrap (a1+a3))) 2))+a2))-x1169))),(199,bV (decide (x1169<(IntKind.i64.wrap (Int.fdiv (IntKind.u64.wrap (IntKind.i64.wrap (a1+a3))) 2)))))],[(0,some (.row 2 116 (x1260.map eBucket)))],1⟩ [(decide (a1<x1169))=true] (by kernel_rfl) ⟨by exact c1262,trivial⟩ ?_
         obtain rfl:=Option.some.inj H
         exact Exists.intro _ (And.intro (fun _ _ h=>h.conv (inv:=[(0,0)]) (vk:=[]) (e0:=[]) (t:=⟨[(0,.own 0),(1,iV .i64 a1),(3,iV .i64 a3),(4,.im (.sc (.func (.func 133) #[] #[]))),(18,iV .i64 (IntKind.i64.wrap (Int.fdiv (IntKind.u64.wrap (IntKind.i64.wrap (a1+a3))) 2))),(20,iV .i64 x1169),(24,iV .i64 (IntKind.i64.wrap ((IntKind.i64.wrap ((IntKind.i64.wrap (Int.fdiv (IntKind.u64.wrap (IntKind.i64.wrap (a1+a3))) 2))+a2))-x1169))),(199,bV (decide (x1169<(IntKind.i64.wrap (Int.fdiv (IntKind.u64.wrap (IntKind.i64.wrap (a1+a3))) 2)))))],[(0,some (.row 2 116 (x1260.map eBucket)))],1⟩) (by kernel_rfl)) (And.intro rfl rfl))
        ·replace H:=(ifF c1262).symm.trans H
         refine reg hP hn hm [(3,.b false)] [0,1,3,4,18,20,24,199] [0] ⟨[(0,.own 0),(1,iV .i64 a1),(3,iV .i64 a3),(4,.im (.sc (.func (.func 133) #[] #[]))),(18,iV .i64 (IntKind.i64.wrap (Int.fdiv (IntKind.u64.wrap (IntKind.i64.wrap (a1+a3))) 2))),(20,iV .i64 x1169),(24,iV .i64 (IntKind.i64.wrap ((IntKind.i64.wrap ((IntKind.i64.wrap (Int.fdiv (IntKind.u64.wrap (IntKind.i64.wrap (a1+a3))) 2))+a2))-x1169))),(199,bV false)],[(0,some (.row 2 116 (x1260.map eBucket)))],1⟩ [(decide (a1<x1169))=false] (by kernel_rfl) ⟨by exact c1262,trivial⟩ ?_
         obtain rfl:=Option.some.inj H
         exact Exists.intro _ (And.intro (fun _ _ h=>h.conv (inv:=[(0,0)]) (vk:=[]) (e0:=[]) (t:=⟨[(0,.own 0),(1,iV .i64 a1),(3,iV .i64 a3),(4,.im (.sc (.func (.func 133) #[] #[]))),(18,iV .i64 (IntKind.i64.wrap (Int.fdiv (IntKind.u64.wrap (IntKind.i64.wrap (a1+a3))) 2))),(20,iV .i64 x1169),(24,iV .i64 (IntKind.i64.wrap ((IntKind.i64.wrap ((IntKind.i64.wrap (Int.fdiv (IntKind.u64.wrap (IntKind.i64.wrap (a1+a3))) 2))+a2))-x1169))),(199,bV false)],[(0,some (.row 2 116 (x1260.map eBucket)))],1⟩) (by kernel_rfl)) (And.intro rfl rfl))
       ·obtain⟨x1263,rfl⟩:∃ z,z=o1301:=⟨_,rfl⟩
        rintro e s ⟨rfl,rfl⟩
        obtain⟨o1303,e1304,H⟩:=bind_of H
        refine AWp.mono (Q:=fun e s=>(match (generalizing:=false) o1303 with | x1269=>e = .normal∧s=⟨[(0,.own 0),(3,iV .i64 a3),(4,.im (.sc (.func (.func 133) #[] #[]))),(18,iV .i64 (IntKind.i64.wrap (Int.fdiv (IntKind.u64.wrap (IntKind.i64.wrap (a1+a3))) 2))),(24,iV .i64 (IntKind.i64.wrap ((IntKind.i64.wrap ((IntKind.i64.wrap (Int.fdiv (IntKind.u64.wrap (IntKind.i64.wrap (a1+a3))) 2))+a2))-x1169)))],[(0,some (.row 2 116 (x1269.map eBucket)))],1⟩)) (AWp.cv ?_) ?_
        ·replace H:=e1304;clear e1304
         refine AWp.cond x1263 rfl (fun c1264 => ?_) (fun c1264 => ?_)
         ·replace H:=(ifT c1264).symm.trans H
          obtain⟨t1267,e1268,H⟩:=bind_of H
          refine reg hP hn hm [(5,.call [(0,0)] [(0,0)] [] [] 1 (.tup []) [(0,some (.row 2 116 (t1267.map eBucket)))])] [0,3,4,18,24] [0] ⟨[(0,.own 0),(3,iV .i64 a3),(4,.im (.sc (.func (.func 133) #[] #[]))),(18,iV .i64 (IntKind.i64.wrap (Int.fdiv (IntKind.u64.wrap (IntKind.i64.wrap (a1+a3))) 2))),(24,iV .i64 (IntKind.i64.wrap ((IntKind.i64.wrap ((IntKind.i64.wrap (Int.fdiv (IntKind.u64.wrap (IntKind.i64.wrap (a1+a3))) 2))+a2))-x1169)))],[(0,some (.row 2 116 (t1267.map eBucket)))],1⟩ [Enters Try.prog 143,Pv.Fn Try.prog 143 [.own 0,iV .i64 a1,iV .i64 x1169,iV .i64 (IntKind.i64.wrap (Int.fdiv (IntKind.u64.wrap (IntKind.i64.wrap (a1+a3))) 2)),.im (.sc (.func (.func 133) #[] #[]))] [(0,some (.row 2 116 (x1260.map eBucket)))] 1 (fun r o=>r = .tup []∧o=[(0,some (.row 2 116 (t1267.map eBucket)))])] (by kernel_rfl) ⟨by exact Try.call143,by exact ihF x1260 a1 x1169 (IntKind.i64.wrap (Int.fdiv (IntKind.u64.wrap (IntKind.i64.wrap (a1+a3))) 2)) _ e1268,trivial⟩ ?_
          obtain rfl:=Option.some.inj H
          exact Exists.intro _ (And.intro (fun _ _ h=>h.conv (inv:=[(0,0)]) (vk:=[]) (e0:=[]) (t:=⟨[(0,.own 0),(3,iV .i64 a3),(4,.im (.sc (.func (.func 133) #[] #[]))),(18,iV .i64 (IntKind.i64.wrap (Int.fdiv (IntKind.u64.wrap (IntKind.i64.wrap (a1+a3))) 2))),(24,iV .i64 (IntKind.i64.wrap ((IntKind.i64.wrap ((IntKind.i64.wrap (Int.fdiv (IntKind.u64.wrap (IntKind.i64.wrap (a1+a3))) 2))+a2))-x1169)))],[(0,some (.row 2 116 (t1267.map eBucket)))],1⟩) (by kernel_rfl)) (And.intro rfl rfl))
         ·replace H:=(ifF c1264).symm.trans H
          refine AWp.skip ?_
          obtain rfl:=Option.some.inj H
          exact Exists.intro _ (And.intro (fun _ _ h=>h.conv (inv:=[(0,0)]) (vk:=[]) (e0:=[]) (t:=⟨[(0,.own 0),(3,iV .i64 a3),(4,.im (.sc (.func (.func 133) #[] #[]))),(18,iV .i64 (IntKind.i64.wrap (Int.fdiv (IntKind.u64.wrap (IntKind.i64.wrap (a1+a3))) 2))),(24,iV .i64 (IntKind.i64.wrap ((IntKind.i64.wrap ((IntKind.i64.wrap (Int.fdiv (IntKind.u64.wrap (IntKind.i64.wrap (a1+a3))) 2))+a2))-x1169)))],[(0,some (.row 2 116 (x1260.map eBucket)))],1⟩) (by kernel_rfl)) (And.intro rfl rfl))
        ·obtain⟨x1269,rfl⟩:∃ z,z=o1303:=⟨_,rfl⟩
         rintro e s ⟨rfl,rfl⟩
         refine AWp.seq ?_
         obtain⟨o1305,e1306,H⟩:=bind_of H
         refine AWp.mono (Q:=fun e s=>(match (generalizing:=false) o1305 with | x1272=>e = .normal∧s=⟨[(0,.own 0),(3,iV .i64 a3),(4,.im (.sc (.func (.func 133) #[] #[]))),(18,iV .i64 (IntKind.i64.wrap (Int.fdiv (IntKind.u64.wrap (IntKind.i64.wrap (a1+a3))) 2))),(24,iV .i64 (IntKind.i64.wrap ((IntKind.i64.wrap ((IntKind.i64.wrap (Int.fdiv (IntKind.u64.wrap (IntKind.i64.wrap (a1+a3))) 2))+a2))-x1169))),(213,bV x1272)],[(0,some (.row 2 116 (x1269.map eBucket)))],1⟩)) (AWp.cv ?_) ?_
         ·replace H:=e1306;clear e1306
          rcases Bool.eq_false_or_eq_true (decide ((IntKind.i64.wrap (Int.fdiv (IntKind.u64.wrap (IntKind.i64.wrap (a1+a3))) 2))<(IntKind.i64.wrap ((IntKind.i64.wrap ((IntKind.i64.wrap (Int.fdiv (IntKind.u64.wrap (IntKind.i64.wrap (a1+a3))) 2))+a2))-x1169)))) with c1271 | c1271
          ·replace H:=(ifT c1271).symm.trans H
           refine reg hP hn hm [(3,.b true)] [0,3,4,18,24,213] [0] ⟨[(0,.own 0),(3,iV .i64 a3),(4,.im (.sc (.func (.func 133) #[] #[]))),(18,iV .i64 (IntKind.i64.wrap (Int.fdiv (IntKind.u64.wrap (IntKind.i64.wrap (a1+a3))) 2))),(24,iV .i64 (IntKind.i64.wrap ((IntKind.i64.wrap ((IntKind.i64.wrap (Int.fdiv (IntKind.u64.wrap (IntKind.i64.wrap (a1+a3))) 2))+a2))-x1169))),(213,bV (decide ((IntKind.i64.wrap ((IntKind.i64.wrap ((IntKind.i64.wrap (Int.fdiv (IntKind.u64.wrap (IntKind.i64.wrap (a1+a3))) 2))+a2))-x1169))<a3)))],[(0,some (.row 2 116 (x1269.map eBucket)))],1⟩ [(decide ((IntKind.i64.wrap (Int.fdiv (IntKind.u64.wrap (IntKind.i64.wrap (a1+a3))) 2))<(IntKind.i64.wrap ((IntKind.i64.wrap ((IntKind.i64.wrap (Int.fdiv (IntKind.u64.wrap (IntKind.i64.wrap (a1+a3))) 2))+a2))-x1169))))=true] (by kernel_rfl) ⟨by exact c1271,trivial⟩ ?_
           obtain rfl:=Option.some.inj H
           exact Exists.intro _ (And.intro (fun _ _ h=>h.conv (inv:=[(0,0)]) (vk:=[]) (e0:=[]) (t:=⟨[(0,.own 0),(3,iV .i64 a3),(4,.im (.sc (.func (.func 133) #[] #[]))),(18,iV .i64 (IntKind.i64.wrap (Int.fdiv (IntKind.u64.wrap (IntKind.i64.wrap (a1+a3))) 2))),(24,iV .i64 (IntKind.i64.wrap ((IntKind.i64.wrap ((IntKind.i64.wrap (Int.fdiv (IntKind.u64.wrap (IntKind.i64.wrap (a1+a3))) 2))+a2))-x1169))),(213,bV (decide ((IntKind.i64.wrap ((IntKind.i64.wrap ((IntKind.i64.wrap (Int.fdiv (IntKind.u64.wrap (IntKind.i64.wrap (a1+a3))) 2))+a2))-x1169))<a3)))],[(0,some (.row 2 116 (x1269.map eBucket)))],1⟩) (by kernel_rfl)) (And.intro rfl rfl))
          ·replace H:=(ifF c1271).symm.trans H
           refine reg hP hn hm [(3,.b false)] [0,3,4,18,24,213] [0] ⟨[(0,.own 0),(3,iV .i64 a3),(4,.im (.sc (.func (.func 133) #[] #[]))),(18,iV .i64 (IntKind.i64.wrap (Int.fdiv (IntKind.u64.wrap (IntKind.i64.wrap (a1+a3))) 2))),(24,iV .i64 (IntKind.i64.wrap ((IntKind.i64.wrap ((IntKind.i64.wrap (Int.fdiv (IntKind.u64.wrap (IntKind.i64.wrap (a1+a3))) 2))+a2))-x1169))),(213,bV false)],[(0,some (.row 2 116 (x1269.map eBucket)))],1⟩ [(decide ((IntKind.i64.wrap (Int.fdiv (IntKind.u64.wrap (IntKind.i64.wrap (a1+a3))) 2))<(IntKind.i64.wrap ((IntKind.i64.wrap ((IntKind.i64.wrap (Int.fdiv (IntKind.u64.wrap (IntKind.i64.wrap (a1+a3))) 2))+a2))-x1169))))=false] (by kernel_rfl) ⟨by exact c1271,trivial⟩ ?_
           obtain rfl:=Option.some.inj H
           exact Exists.intro _ (And.intro (fun _ _ h=>h.conv (inv:=[(0,0)]) (vk:=[]) (e0:=[]) (t:=⟨[(0,.own 0),(3,iV .i64 a3),(4,.im (.sc (.func (.func 133) #[] #[]))),(18,iV .i64 (IntKind.i64.wrap (Int.fdiv (IntKind.u64.wrap (IntKind.i64.wrap (a1+a3))) 2))),(24,iV .i64 (IntKind.i64.wrap ((IntKind.i64.wrap ((IntKind.i64.wrap (Int.fdiv (IntKind.u64.wrap (IntKind.i64.wrap (a1+a3))) 2))+a2))-x1169))),(213,bV false)],[(0,some (.row 2 116 (x1269.map eBucket)))],1⟩) (by kernel_rfl)) (And.intro rfl rfl))
         ·obtain⟨x1272,rfl⟩:∃ z,z=o1305:=⟨_,rfl⟩
          rintro e s ⟨rfl,rfl⟩
          obtain⟨o1307,e1308,H⟩:=bind_of H
          refine AWp.mono (Q:=fun e s=>(match (generalizing:=false) o1307 with | x1278=>e = .normal∧s=⟨[],[(0,some (.row 2 116 (x1278.map eBucket)))],1⟩)) (AWp.cv ?_) ?_
          ·replace H:=e1308;clear e1308
           refine AWp.cond x1272 rfl (fun c1273 => ?_) (fun c1273 => ?_)
           ·replace H:=(ifT c1273).symm.trans H
            obtain⟨t1276,e1277,H⟩:=bind_of H
            refine reg hP hn hm [(5,.call [(0,0)] [(0,0)] [] [] 1 (.tup []) [(0,some (.row 2 116 (t1276.map eBucket)))])] [] [0] ⟨[],[(0,some (.row 2 116 (t1276.map eBucket)))],1⟩ [Enters Try.prog 143,Pv.Fn Try.prog 143 [.own 0,iV .i64 (IntKind.i64.wrap (Int.fdiv (IntKind.u64.wrap (IntKind.i64.wrap (a1+a3))) 2)),iV .i64 (IntKind.i64.wrap ((IntKind.i64.wrap ((IntKind.i64.wrap (Int.fdiv (IntKind.u64.wrap (IntKind.i64.wrap (a1+a3))) 2))+a2))-x1169)),iV .i64 a3,.im (.sc (.func (.func 133) #[] #[]))] [(0,some (.row 2 116 (x1269.map eBucket)))] 1 (fun r o=>r = .tup []∧o=[(0,some (.row 2 116 (t1276.map eBucket)))])] (by kernel_rfl) ⟨by exact Try.call143,by exact ihF x1269 (IntKind.i64.wrap (Int.fdiv (IntKind.u64.wrap (IntKind.i64.wrap (a1+a3))) 2)) (IntKind.i64.wrap ((IntKind.i64.wrap ((IntKind.i64.wrap (Int.fdiv (IntKind.u64.wrap (IntKind.i64.wrap (a1+a3))) 2))+a2))-x1169)) a3 _ e1277,trivial⟩ ?_
            obtain rfl:=Option.some.inj H
            exact Exists.intro _ (And.intro (fun _ _ h=>h.conv (inv:=[(0,0)]) (vk:=[]) (e0:=[]) (t:=⟨[],[(0,some (.row 2 116 (t1276.map eBucket)))],1⟩) (by kernel_rfl)) (And.intro rfl rfl))
           ·replace H:=(ifF c1273).symm.trans H
            refine AWp.skip ?_
            obtain rfl:=Option.some.inj H
            exact Exists.intro _ (And.intro (fun _ _ h=>h.conv (inv:=[(0,0)]) (vk:=[]) (e0:=[]) (t:=⟨[],[(0,some (.row 2 116 (x1269.map eBucket)))],1⟩) (by kernel_rfl)) (And.intro rfl rfl))
          ·obtain⟨x1278,rfl⟩:∃ z,z=o1307:=⟨_,rfl⟩
           rintro e s ⟨rfl,rfl⟩
           obtain rfl:=Option.some.inj H
           exact Exists.intro ⟨[],[(0,some (.row 2 116 (x1278.map eBucket)))],1⟩ (And.intro (fun _ _ h=>h.conv (inv:=[(0,0)]) (vk:=[]) (e0:=[]) (t:=⟨[],[(0,some (.row 2 116 (x1278.map eBucket)))],1⟩) (by kernel_rfl)) (And.intro (.inr rfl) (And.intro rfl (And.intro (by kernel_rfl) (by kernel_rfl)))))
def f_slices_stableCmpFunc_api_Bucket_hist_tidy_1.l0 (a1:Int) (x938:List TBucket) (x939:Int) (x940:Int):Option ((List TBucket)×Int):=if(decide (x940≤a1))=true then((f_slices_insertionSortCmpFunc_api_Bucket_hist_tidy_1.f x938 x939 x940)>>=fun t944=>f_slices_stableCmpFunc_api_Bucket_hist_tidy_1.l0 a1 t944 x940 (IntKind.i64.wrap (x940+(20:Int)))) else(some (x938,x939))
partial_fixpoint
def f_slices_stableCmpFunc_api_Bucket_hist_tidy_1.l2 (a1:Int) (x1330:Int) (x1337:List TBucket) (x1338:Int) (x1339:Int):Option ((List TBucket)×Int):=if(decide (x1339≤a1))=true then((f_slices_symMergeCmpFunc_api_Bucket_hist_tidy_1.f x1337 x1338 (IntKind.i64.wrap (x1338+x1330)) x1339)>>=fun t1343=>f_slices_stableCmpFunc_api_Bucket_hist_tidy_1.l2 a1 x1330 t1343 x1339 (IntKind.i64.wrap (x1339+(IntKind.i64.wrap ((2:Int)*x1330))))) else(some (x1337,x1338))
partial_fixpoint
def f_slices_stableCmpFunc_api_Bucket_hist_tidy_1.l1 (a1:Int) (x1329:List TBucket) (x1330:Int):Option (List TBucket):=if(decide (x1330<a1))=true then((f_slices_stableCmpFunc_api_Bucket_hist_tidy_1.l2 a1 x1330 x1329 0 (IntKind.i64.wrap ((2:Int)*x1330)))>>=fun oo=>match oo with | (x1345,x1346)=>(((if(decide ((IntKind.i64.wrap (x1346+x1330))<a1))=true then((f_slices_symMergeCmpFunc_api_Bucket_hist_tidy_1.f x1345 x1346 (IntKind.i64.wrap (x1346+x1330)) a1)>>=fun t1350=>some t1350) else(some x1345)):Option (List TBucket))>>=fun x1352=>f_slices_stableCmpFunc_api_Bucket_hist_tidy_1.l1 a1 x1352 (IntKind.i64.wrap (x1330*(2:Int))))) else(some x1329)
partial_fixpoint
def f_slices_stableCmpFunc_api_Bucket_hist_tidy_1.f (a0:List TBucket) (a1:Int):Option (List TBucket):=(f_slices_stableCmpFunc_api_Bucket_hist_tidy_1.l0 a1 a0 0 20)>>=fun oo=>match oo with | (x946,x947)=>((f_slices_insertionSortCmpFunc_api_Bucket_hist_tidy_1.f x946 x947 a1)>>=fun t950=>(f_slices_stableCmpFunc_api_Bucket_hist_tidy_1.l1 a1 t950 20)>>=fun x1353=>some x1353)
theorem f_slices_stableCmpFunc_api_Bucket_hist_tidy_1.ok (a0:List TBucket) (a1:Int) (r:List TBucket) (H:f_slices_stableCmpFunc_api_Bucket_hist_tidy_1.f a0 a1=some r):Pv.Fn Try.prog 139 [.own 0,iV .i64 a1,.im (.sc (.func (.func 133) #[] #[]))] [(0,some (.row 2 116 (a0.map eBucket)))] 1 (fun x o=>x = .tup []∧o=[(0,some (.row 2 116 (r.map eBucket)))]):=by
 unfold f_slices_stableCmpFunc_api_Bucket_hist_tidy_1.f at H
 refine Fn.bodyK [0] Try.func139 rfl rfl (fun Γ hP hn => ?_)
 have hm:Try.prog.follows .mixedOrders=true:=by kernel_rfl
 replace hn:Γ.n=63:=hn
 refine AWp.seq ?_
 refine reg hP hn hm [] [0,1,2,6] [0] ⟨[(0,.own 0),(1,iV .i64 a1),(2,.im (.sc (.func (.func 133) #[] #[]))),(6,iV .i64 20)],[(0,some (.row 2 116 (a0.map eBucket)))],1⟩ [] (by kernel_rfl) trivial ?_
 refine AWp.seq ?_
 refine reg hP hn hm [] [0,1,2,6,7,8] [0] ⟨[(0,.own 0),(1,iV .i64 a1),(2,.im (.sc (.func (.func 133) #[] #[]))),(6,iV .i64 20),(7,iV .i64 0),(8,iV .i64 20)],[(0,some (.row 2 116 (a0.map eBucket)))],1⟩ [] (by kernel_rfl) trivial ?_
 refine AWp.seq ?_
 refine AWp.block ?_
 obtain⟨o1354,e1355,H⟩:=bind_of H
 refine AWp.loop (LWp.conv (inv:=[(0,0)]) (vk:=[]) (e0:=[]) (t:=⟨[(0,.own 0),(1,iV .i64 a1),(2,.im (.sc (.func (.func 133) #[] #[]))),(6,iV .i64 20),(7,iV .i64 0),(8,iV .i64 20)],[(0,some (.row 2 116 (a0.map eBucket)))],1⟩) (by kernel_rfl) ?_)
 refine LWp.mono (Q:=fun e s=>(match (generalizing:=false) o1354 with | (x946,x947)=>e = .exit 0∧s=⟨[(0,.own 0),(1,iV .i64 a1),(2,.im (.sc (.func (.func 133) #[] #[]))),(6,iV .i64 20),(7,iV .i64 x947)],[(0,some (.row 2 116 (x946.map eBucket)))],1⟩)) (LWp.cv (withBody (fun body hbody => ?_))) ?_
 ·refine f_slices_stableCmpFunc_api_Bucket_hist_tidy_1.l0.partial_correctness a1 (motive:=fun x938 x939 x940 o1354=>LWp Γ body (fun e s=>∃ t,Cv Γ s t∧(match (generalizing:=false) o1354 with | (x946,x947)=>e = .exit 0∧t=⟨[(0,.own 0),(1,iV .i64 a1),(2,.im (.sc (.func (.func 133) #[] #[]))),(6,iV .i64 20),(7,iV .i64 x947)],[(0,some (.row 2 116 (x946.map eBucket)))],1⟩)) ⟨[(0,.own 0),(1,iV .i64 a1),(2,.im (.sc (.func (.func 133) #[] #[]))),(6,iV .i64 20),(7,iV .i64 x939),(8,iV .i64 x940)],[(0,some (.row 2 116 (x938.map eBucket)))],1⟩) ?_ _ _ _ _ e1355
  clear H e1355 o1354;intro self ih x938 x939 x940 o1354 H
  subst hbody
  refine LWp.round ?_
  refine AWp.seq ?_
  refine AWp.seq ?_
  refine reg hP hn hm [] [0,1,2,6,7,8,13] [0] ⟨[(0,.own 0),(1,iV .i64 a1),(2,.im (.sc (.func (.func 133) #[] #[]))),(6,iV .i64 20),(7,iV .i64 x939),(8,iV .i64 x940),(13,bV (decide (x940≤a1)))],[(0,some (.row 2 116 (x938.map eBucket)))],1⟩ [] (by kernel_rfl) trivial ?_
  refine AWp.cond (decide (x940≤a1)) rfl (fun c941 => ?_) (fun c941 => ?_)
  ·replace H:=(ifT c941).symm.trans H
   refine AWp.skip ?_
   refine AWp.block ?_
   refine AWp.seq ?_
   obtain⟨t944,e945,H⟩:=bind_of H
   refine reg hP hn hm [(4,.call [(0,0)] [(0,0)] [] [] 1 (.tup []) [(0,some (.row 2 116 (t944.map eBucket)))])] [0,1,2,6,8] [0] ⟨[(0,.own 0),(1,iV .i64 a1),(2,.im (.sc (.func (.func 133) #[] #[]))),(6,iV .i64 20),(8,iV .i64 x940)],[(0,some (.row 2 116 (t944.map eBucket)))],1⟩ [Enters Try.prog 142,Pv.Fn Try.prog 142 [.own 0,iV .i64 x939,iV .i64 x940,.im (.sc (.func (.func 133) #[] #[]))] [(0,some (.row 2 116 (x938.map eBucket)))] 1 (fun r o=>r = .tup []∧o=[(0,some (.row 2 116 (t944.map eBucket)))])] (by kernel_rfl) ⟨by exact Try.call142,by exact f_slices_insertionSortCmpFunc_api_Bucket_hist_tidy_1.ok x938 x939 x940 t944 e945,trivial⟩ ?_
   refine AWp.seq ?_
   refine reg hP hn hm [] [0,1,2,6,7,8] [0] ⟨[(0,.own 0),(1,iV .i64 a1),(2,.im (.sc (.func (.func 133) #[] #[]))),(6,iV .i64 20),(7,iV .i64 x940),(8,iV .i64 x940)],[(0,some (.row 2 116 (t944.map eBucket)))],1⟩ [] (by kernel_rfl) trivial ?_
   refine reg hP hn hm [] [0,1,2,6,7,8] [0] ⟨[(0,.own 0),(1,iV .i64 a1),(2,.im (.sc (.func (.func 133) #[] #[]))),(6,iV .i64 20),(7,iV .i64 x940),(8,iV .i64 (IntKind.i64.wrap (x940+(20:Int))))],[(0,some (.row 2 116 (t944.map eBucket)))],1⟩ [] (by kernel_rfl) trivial ?_
   exact LWp.conv (inv:=[(0,0)]) (vk:=[]) (e0:=[]) (t:=⟨[(0,.own 0),(1,iV .i64 a1),(2,.im (.sc (.func (.func 133) #[] #[]))),(6,iV .i64 20),(7,iV .i64 x940),(8,iV .i64 (IntKind.i64.wrap (x940+(20:Int))))],[(0,some (.row 2 116 (t944.map eBucket)))],1⟩) (by kernel_rfl) (ih _ _ _ _ H)
  ·replace H:=(ifF c941).symm.trans H
   refine AWp.exit ?_
   obtain rfl:=Option.some.inj H
   exact Exists.intro _ (And.intro (fun _ _ h=>h.conv (inv:=[(0,0)]) (vk:=[]) (e0:=[]) (t:=⟨[(0,.own 0),(1,iV .i64 a1),(2,.im (.sc (.func (.func 133) #[] #[]))),(6,iV .i64 20),(7,iV .i64 x939)],[(0,some (.row 2 116 (x938.map eBucket)))],1⟩) (by kernel_rfl)) (And.intro rfl rfl))
 ·obtain⟨x946,x947⟩:=o1354
  rintro e s ⟨rfl,rfl⟩
  refine AWp.seq ?_
  obtain⟨t950,e951,H⟩:=bind_of H
  refine reg hP hn hm [(4,.call [(0,0)] [(0,0)] [] [] 1 (.tup []) [(0,some (.row 2 116 (t950.map eBucket)))])] [0,1,2,6] [0] ⟨[(0,.own 0),(1,iV .i64 a1),(2,.im (.sc (.func (.func 133) #[] #[]))),(6,iV .i64 20)],[(0,some (.row 2 116 (t950.map eBucket)))],1⟩ [Enters Try.prog 142,Pv.Fn Try.prog 142 [.own 0,iV .i64 x947,iV .i64 a1,.im (.sc (.func (.func 133) #[] #[]))] [(0,some (.row 2 116 (x946.map eBucket)))] 1 (fun r o=>r = .tup []∧o=[(0,some (.row 2 116 (t950.map eBucket)))])] (by kernel_rfl) ⟨by exact Try.call142,by exact f_slices_insertionSortCmpFunc_api_Bucket_hist_tidy_1.ok x946 x947 a1 t950 e951,trivial⟩ ?_
  refine AWp.block ?_
  obtain⟨o1356,e1357,H⟩:=bind_of H
  refine AWp.loop (LWp.conv (inv:=[(0,0)]) (vk:=[]) (e0:=[]) (t:=⟨[(0,.own 0),(1,iV .i64 a1),(2,.im (.sc (.func (.func 133) #[] #[]))),(6,iV .i64 20)],[(0,some (.row 2 116 (t950.map eBucket)))],1⟩) (by kernel_rfl) ?_)
  refine LWp.mono (Q:=fun e s=>(match (generalizing:=false) o1356 with | x1353=>e = .exit 2∧s=⟨[],[(0,some (.row 2 116 (x1353.map eBucket)))],1⟩)) (LWp.cv (withBody (fun body hbody => ?_))) ?_
  ·refine f_slices_stableCmpFunc_api_Bucket_hist_tidy_1.l1.partial_correctness a1 (motive:=fun x1329 x1330 o1356=>LWp Γ body (fun e s=>∃ t,Cv Γ s t∧(match (generalizing:=false) o1356 with | x1353=>e = .exit 2∧t=⟨[],[(0,some (.row 2 116 (x1353.map eBucket)))],1⟩)) ⟨[(0,.own 0),(1,iV .i64 a1),(2,.im (.sc (.func (.func 133) #[] #[]))),(6,iV .i64 x1330)],[(0,some (.row 2 116 (x1329.map eBucket)))],1⟩) ?_ _ _ _ e1357
   clear H e1357 o1356;intro self ih x1329 x1330 o1356 H
   subst hbody
   refine LWp.round ?_
   refine AWp.seq ?_
   refine AWp.seq ?_
   refine reg hP hn hm [] [0,1,2,6,30] [0] ⟨[(0,.own 0),(1,iV .i64 a1),(2,.im (.sc (.func (.func 133) #[] #[]))),(6,iV .i64 x1330),(30,bV (decide (x1330<a1)))],[(0,some (.row 2 116 (x1329.map eBucket)))],1⟩ [] (by kernel_rfl) trivial ?_
   refine AWp.cond (decide (x1330<a1)) rfl (fun c1331 => ?_) (fun c1331 => ?_)
   ·replace H:=(ifT c1331).symm.trans H
    refine AWp.skip ?_
    refine AWp.block ?_
    refine AWp.seq ?_
    refine reg hP hn hm [] [0,1,2,6,7,8] [0] ⟨[(0,.own 0),(1,iV .i64 a1),(2,.im (.sc (.func (.func 133) #[] #[]))),(6,iV .i64 x1330),(7,iV .i64 0),(8,iV .i64 (IntKind.i64.wrap ((2:Int)*x1330)))],[(0,some (.row 2 116 (x1329.map eBucket)))],1⟩ [] (by kernel_rfl) trivial ?_
    refine AWp.seq ?_
    refine AWp.block ?_
    obtain⟨o1358,e1359,H⟩:=bind_of H
    refine AWp.loop (LWp.conv (inv:=[(0,0)]) (vk:=[]) (e0:=[]) (t:=⟨[(0,.own 0),(1,iV .i64 a1),(2,.im (.sc (.func (.func 133) #[] #[]))),(6,iV .i64 x1330),(7,iV .i64 0),(8,iV .i64 (IntKind.i64.wrap ((2:Int)*x1330)))],[(0,some (.row 2 116 (x1329.map eBucket)))],1⟩) (by kernel_rfl) ?_)
    refine LWp.mono (Q:=fun e s=>(match (generalizing:=false) o1358 with | (x1345,x1346)=>e = .exit 4∧s=⟨[(0,.own 0),(1,iV .i64 a1),(2,.im (.sc (.func (.func 133) #[] #[]))),(6,iV .i64 x1330),(7,iV .i64 x1346)],[(0,some (.row 2 116 (x1345.map eBucket)))],1⟩)) (LWp.cv (withBody (fun body hbody => ?_))) ?_
    ·refine f_slices_stableCmpFunc_api_Bucket_hist_tidy_1.l2.partial_correctness a1 x1330 (motive:=fun x1337 x1338 x1339 o1358=>LWp Γ body (fun e s=>∃ t,Cv Γ s t∧(match (generalizing:=false) o1358 with | (x1345,x1346)=>e = .exit 4∧t=⟨[(0,.own 0),(1,iV .i64 a1),(2,.im (.sc (.func (.func 133) #[] #[]))),(6,iV .i64 x1330),(7,iV .i64 x1346)],[(0,some (.row 2 116 (x1345.map eBucket)))],1⟩)) ⟨[(0,.own 0),(1,iV .i64 a1),(2,.im (.sc (.func (.func 133) #[] #[]))),(6,iV .i64 x1330),(7,iV .i64 x1338),(8,iV .i64 x1339)],[(0,some (.row 2 116 (x1337.map eBucket)))],1⟩) ?_ _ _ _ _ e1359
     clear H e1359 o1358;intro self ih x1337 x1338 x1339 o1358 H
     subst hbody
     refine LWp.round ?_
     refine AWp.seq ?_
     refine AWp.seq ?_
     refine reg hP hn hm [] [0,1,2,6,7,8,35] [0] ⟨[(0,.own 0),(1,iV .i64 a1),(2,.im (.sc (.func (.func 133) #[] #[]))),(6,iV .i64 x1330),(7,iV .i64 x1338),(8,iV .i64 x1339),(35,bV (decide (x1339≤a1)))],[(0,some (.row 2 116 (x1337.map eBucket)))],1⟩ [] (by kernel_rfl) trivial ?_
     refine AWp.cond (decide (x1339≤a1)) rfl (fun c1340 => ?_) (fun c1340 => ?_)
     ·replace H:=(ifT c1340).symm.trans H
      refine AWp.skip ?_
      refine AWp.block ?_
      refine AWp.seq ?_
      obtain⟨t1343,e1344,H⟩:=bind_of H
      refine reg hP hn hm [(7,.call [(0,0)] [(0,0)] [] [] 1 (.tup []) [(0,some (.row 2 116 (t1343.map eBucket)))])] [0,1,2,6,8] [0] ⟨[(0,.own 0),(1,iV .i64 a1),(2,.im (.sc (.func (.func 133) #[] #[]))),(6,iV .i64 x1330),(8,iV .i64 x1339)],[(0,some (.row 2 116 (t1343.map eBucket)))],1⟩ [Enters Try.prog 143,Pv.Fn Try.prog 143 [.own 0,iV .i64 x1338,iV .i64 (IntKind.i64.wrap (x1338+x1330)),iV .i64 x1339,.im (.sc (.func (.func 133) #[] #[]))] [(0,some (.row 2 116 (x1337.map eBucket)))] 1 (fun r o=>r = .tup []∧o=[(0,some (.row 2 116 (t1343.map eBucket)))])] (by kernel_rfl) ⟨by exact Try.call143,by exact f_slices_symMergeCmpFunc_api_Bucket_hist_tidy_1.ok x1337 x1338 (IntKind.i64.wrap (x1338+x1330)) x1339 t1343 e1344,trivial⟩ ?_
      refine AWp.seq ?_
      refine reg hP hn hm [] [0,1,2,6,7,8] [0] ⟨[(0,.own 0),(1,iV .i64 a1),(2,.im (.sc (.func (.func 133) #[] #[]))),(6,iV .i64 x1330),(7,iV .i64 x1339),(8,iV .i64 x1339)],[(0,some (.row 2 116 (t1343.map eBucket)))],1⟩ [] (by kernel_rfl) trivial ?_
      refine reg hP hn hm [] [0,1,2,6,7,8] [0] ⟨[(0,.own 0),(1,iV .i64 a1),(2,.im (.sc (.func (.func 133) #[] #[]))),(6,iV .i64 x1330),(7,iV .i64 x1339),(8,iV .i64 (IntKind.i64.wrap (x1339+(IntKind.i64.wrap ((2:Int)*x1330)))))],[(0,some (.row 2 116 (t1343.map eBucket)))],1⟩ [] (by kernel_rfl) trivial ?_
      exact LWp.conv (inv:=[(0,0)]) (vk:=[]) (e0:=[]) (t:=⟨[(0,.own 0),(1,iV .i64 a1),(2,.im (.sc (.func (.func 133) #[] #[]))),(6,iV .i64 x1330),(7,iV .i64 x1339),(8,iV .i64 (IntKind.i64.wrap (x1339+(IntKind.i64.wrap ((2:Int)*x1330)))))],[(0,some (.row 2 116 (t1343.map eBucket)))],1⟩) (by kernel_rfl) (ih _ _ _ _ H)
     ·replace H:=(ifF c1340).symm.trans H
      refine AWp.exit ?_
      obtain rfl:=Option.some.inj H
      exact Exists.intro _ (And.intro (fun _ _ h=>h.conv (inv:=[(0,0)]) (vk:=[]) (e0:=[]) (t:=⟨[(0,.own 0),(1,iV .i64 a1),(2,.im (.sc (.func (.func 133) #[] #[]))),(6,iV .i64 x1330),(7,iV .i64 x1338)],[(0,some (.row 2 116 (x1337.map eBucket)))],1⟩) (by kernel_rfl)) (And.intro rfl rfl))
    ·obtain⟨x1345,x1346⟩:=o1358
     rintro e s ⟨rfl,rfl⟩
     refine AWp.seq ?_
     refine AWp.seq ?_
     refine reg hP hn hm [] [0,1,2,6,7,9] [0] ⟨[(0,.own 0),(1,iV .i64 a1),(2,.im (.sc (.func (.func 133) #[] #[]))),(6,iV .i64 x1330),(7,iV .i64 x1346),(9,iV .i64 (IntKind.i64.wrap (x1346+x1330)))],[(0,some (.row 2 116 (x1345.map eBucket)))],1⟩ [] (by kernel_rfl) trivial ?_
     refine AWp.seq ?_
     refine reg hP hn hm [] [0,1,2,6,7,9,54] [0] ⟨[(0,.own 0),(1,iV .i64 a1),(2,.im (.sc (.func (.func 133) #[] #[]))),(6,iV .i64 x1330),(7,iV .i64 x1346),(9,iV .i64 (IntKind.i64.wrap (x1346+x1330))),(54,bV (decide ((IntKind.i64.wrap (x1346+x1330))<a1)))],[(0,some (.row 2 116 (x1345.map eBucket)))],1⟩ [] (by kernel_rfl) trivial ?_
     obtain⟨o1360,e1361,H⟩:=bind_of H
     refine AWp.mono (Q:=fun e s=>(match (generalizing:=false) o1360 with | x1352=>e = .normal∧s=⟨[(0,.own 0),(1,iV .i64 a1),(2,.im (.sc (.func (.func 133) #[] #[]))),(6,iV .i64 x1330)],[(0,some (.row 2 116 (x1352.map eBucket)))],1⟩)) (AWp.cv ?_) ?_
     ·replace H:=e1361;clear e1361
      refine AWp.cond (decide ((IntKind.i64.wrap (x1346+x1330))<a1)) rfl (fun c1347 => ?_) (fun c1347 => ?_)
      ·replace H:=(ifT c1347).symm.trans H
       obtain⟨t1350,e1351,H⟩:=bind_of H
       refine reg hP hn hm [(5,.call [(0,0)] [(0,0)] [] [] 1 (.tup []) [(0,some (.row 2 116 (t1350.map eBucket)))])] [0,1,2,6] [0] ⟨[(0,.own 0),(1,iV .i64 a1),(2,.im (.sc (.func (.func 133) #[] #[]))),(6,iV .i64 x1330)],[(0,some (.row 2 116 (t1350.map eBucket)))],1⟩ [Enters Try.prog 143,Pv.Fn Try.prog 143 [.own 0,iV .i64 x1346,iV .i64 (IntKind.i64.wrap (x1346+x1330)),iV .i64 a1,.im (.sc (.func (.func 133) #[] #[]))] [(0,some (.row 2 116 (x1345.map eBucket)))] 1 (fun r o=>r = .tup []∧o=[(0,some (.row 2 116 (t1350.map eBucket)))])] (by kernel_rfl) ⟨by exact Try.call143,by exact f_slices_symMergeCmpFunc_api_Bucket_hist_tidy_1.ok x1345 x1346 (IntKind.i64.wrap (x1346+x1330)) a1 t1350 e1351,trivial⟩ ?_
       obtain rfl:=Option.some.inj H
       exact Exists.intro _ (And.intro (fun _ _ h=>h.conv (inv:=[(0,0)]) (vk:=[]) (e0:=[]) (t:=⟨[(0,.own 0),(1,iV .i64 a1),(2,.im (.sc (.func (.func 133) #[] #[]))),(6,iV .i64 x1330)],[(0,some (.row 2 116 (t1350.map eBucket)))],1⟩) (by kernel_rfl)) (And.intro rfl rfl))
      ·replace H:=(ifF c1347).symm.trans H
       refine AWp.skip ?_
       obtain rfl:=Option.some.inj H
       exact Exists.intro _ (And.intro (fun _ _ h=>h.conv (inv:=[(0,0)]) (vk:=[]) (e0:=[]) (t:=⟨[(0,.own 0),(1,iV .i64 a1),(2,.im (.sc (.func (.func 133) #[] #[]))),(6,iV .i64 x1330)],[(0,some (.row 2 116 (x1345.map eBucket)))],1⟩) (by kernel_rfl)) (And.intro rfl rfl))
     ·obtain⟨x1352,rfl⟩:∃ z,z=o1360:=⟨_,rfl⟩
      rintro e s ⟨rfl,rfl⟩
      refine reg hP hn hm [] [0,1,2,6] [0] ⟨[(0,.own 0),(1,iV .i64 a1),(2,.im (.sc (.func (.func 133) #[] #[]))),(6,iV .i64 (IntKind.i64.wrap (x1330*(2:Int))))],[(0,some (.row 2 116 (x1352.map eBucket)))],1⟩ [] (by kernel_rfl) trivial ?_
      exact LWp.conv (inv:=[(0,0)]) (vk:=[]) (e0:=[]) (t:=⟨[(0,.own 0),(1,iV .i64 a1),(2,.im (.sc (.func (.func 133) #[] #[]))),(6,iV .i64 (IntKind.i64.wrap (x1330*(2:Int))))],[(0,some (.row 2 116 (x1352.map eBucket)))],1⟩) (by kernel_rfl) (ih _ _ _ H)
   ·replace H:=(ifF c1331).symm.trans H
    refine AWp.exit ?_
    obtain rfl:=Option.some.inj H
    exact Exists.intro _ (And.intro (fun _ _ h=>h.conv (inv:=[(0,0)]) (vk:=[]) (e0:=[]) (t:=⟨[],[(0,some (.row 2 116 (x1329.map eBucket)))],1⟩) (by kernel_rfl)) (And.intro rfl rfl))
  ·obtain⟨x1353,rfl⟩:∃ z,z=o1356:=⟨_,rfl⟩
   rintro e s ⟨rfl,rfl⟩
   obtain rfl:=Option.some.inj H
   exact Exists.intro ⟨[],[(0,some (.row 2 116 (x1353.map eBucket)))],1⟩ (And.intro (fun _ _ h=>h.conv (inv:=[(0,0)]) (vk:=[]) (e0:=[]) (t:=⟨[],[(0,some (.row 2 116 (x1353.map eBucket)))],1⟩) (by kernel_rfl)) (And.intro (.inr rfl) (And.intro rfl (And.intro (by kernel_rfl) (by kernel_rfl)))))
def f_slices_SortStableFunc_api_Bucket_hist_tidy_1.f (a0:List TBucket):Option (List TBucket):=(f_slices_stableCmpFunc_api_Bucket_hist_tidy_1.f a0 (a0.length:Int))>>=fun t1364=>some t1364
theorem f_slices_SortStableFunc_api_Bucket_hist_tidy_1.ok (a0:List TBucket) (r:List TBucket) (H:f_slices_SortStableFunc_api_Bucket_hist_tidy_1.f a0=some r):Pv.Fn Try.prog 132 [.own 0,.im (.sc (.func (.func 133) #[] #[]))] [(0,some (.row 2 116 (a0.map eBucket)))] 1 (fun x o=>x = .tup []∧o=[(0,some (.row 2 116 (r.map eBucket)))]):=by
 unfold f_slices_SortStableFunc_api_Bucket_hist_tidy_1.f at H
 refine Fn.bodyK [0] Try.func132 rfl rfl (fun Γ hP hn => ?_)
 have hm:Try.prog.follows .mixedOrders=true:=by kernel_rfl
 replace hn:Γ.n=9:=hn
 obtain⟨t1364,e1365,H⟩:=bind_of H
 refine reg hP hn hm [(2,.any (iV .i64 (a0.length:Int))),(4,.call [(0,0)] [(0,0)] [] [] 1 (.tup []) [(0,some (.row 2 116 (t1364.map eBucket)))])] [] [0] ⟨[],[(0,some (.row 2 116 (t1364.map eBucket)))],1⟩ [((a0.map eBucket).length:Int)=(a0.length:Int),Enters Try.prog 139,Pv.Fn Try.prog 139 [.own 0,iV .i64 (a0.length:Int),.im (.sc (.func (.func 133) #[] #[]))] [(0,some (.row 2 116 (a0.map eBucket)))] 1 (fun r o=>r = .tup []∧o=[(0,some (.row 2 116 (t1364.map eBucket)))])] (by kernel_rfl) ⟨by rw[len_map],by exact Try.call139,by exact f_slices_stableCmpFunc_api_Bucket_hist_tidy_1.ok a0 (a0.length:Int) t1364 e1365,trivial⟩ ?_
 obtain rfl:=Option.some.inj H
 exact Exists.intro ⟨[],[(0,some (.row 2 116 (t1364.map eBucket)))],1⟩ (And.intro (fun _ _ h=>h.conv (inv:=[(0,0)]) (vk:=[]) (e0:=[]) (t:=⟨[],[(0,some (.row 2 116 (t1364.map eBucket)))],1⟩) (by kernel_rfl)) (And.intro (.inr rfl) (And.intro rfl (And.intro (by kernel_rfl) (by kernel_rfl)))))
def f_hist_tidy.l0 (t1368:List TBucket) (x1381:List TBucket) (x1382:Int):Option (((List TBucket)×Int) ⊕ (List TBucket)):=if(decide (x1382<(t1368.length:Int)))=true then((at? t1368 x1382)>>=fun b1387=>((if(b1387.f1==(0:Int))=true then(some (.inr x1381)) else(((if(decide ((x1381.length:Int)>(0:Int)))=true then((at? x1381 (IntKind.i64.wrap ((x1381.length:Int)-(1:Int))))>>=fun b1396=>some (b1396.f0==b1387.f0)) else(some false)):Option (Bool))>>=fun x1399=>((if x1399=true then((at? x1381 (IntKind.i64.wrap ((x1381.length:Int)-(1:Int))))>>=fun b1406=>(f_num_Add.f [b1406.f1,b1387.f1])>>=fun t1409=>if(t1409.2 != (0:Int))=true then(some (.inl ([],t1409.2))) else(some (.inr (x1381.set (Int.toNat (IntKind.i64.wrap ((x1381.length:Int)-(1:Int)))) (⟨b1406.f0,t1409.1⟩:TBucket))))) else((chk ((x1381.length+[b1387].length)*16≤140737488355328))>>=fun _=>some (.inr (x1381++[b1387])))):Option (((List TBucket)×Int) ⊕ (List TBucket)))>>=fun oo=>match oo with | .inl rr=>(some (.inl rr)) | .inr x1414=>(some (.inr x1414)))):Option (((List TBucket)×Int) ⊕ (List TBucket)))>>=fun oo=>match oo with | .inl rr=>(some (.inl rr)) | .inr x1415=>(f_hist_tidy.l0 t1368 x1415 (IntKind.i64.wrap (x1382+(1:Int))))) else(some (.inr x1381))
partial_fixpoint
def f_hist_tidy.f (a0:List TBucket):Option ((List TBucket)×Int):=(f_slices_Clone_api_Bucket.f a0)>>=fun t745=>(f_slices_SortStableFunc_api_Bucket_hist_tidy_1.f t745)>>=fun t1368=>(f_hist_tidy.l0 t1368 [] 0)>>=fun oo=>match oo with | .inl rr=>(some rr) | .inr x1416=>(some (x1416,0))
theorem f_hist_tidy.ok (a0:List TBucket) (r:(List TBucket)×Int) (H:f_hist_tidy.f a0=some r):Pv.Fn Try.prog 119 [.im (.row (a0.map eBucket))] [] 0 (fun x o=>x = .tup [.own 0,iV .i64 r.2]∧o=[(0,some (.row 2 116 (r.1.map eBucket)))]):=by
 unfold f_hist_tidy.f at H
 refine Fn.bodyK [0] Try.func119 rfl rfl (fun Γ hP hn => ?_)
 have hm:Try.prog.follows .mixedOrders=true:=by kernel_rfl
 replace hn:Γ.n=68:=hn
 refine AWp.seq ?_
 refine reg hP hn hm [] [0] [] ⟨[(0,.im (.row (a0.map eBucket)))],[],0⟩ [] (by kernel_rfl) trivial ?_
 refine AWp.seq ?_
 refine reg hP hn hm [] [0,4] [] ⟨[(0,.im (.row (a0.map eBucket))),(4,.none0)],[],0⟩ [] (by kernel_rfl) trivial ?_
 refine AWp.seq ?_
 obtain⟨t745,e746,H⟩:=bind_of H
 refine reg hP hn hm [(1,.call [] [(0,0)] [] [0] 0 (.own 0) [(0,some (.row 2 116 (t745.map eBucket)))])] [0,4] [0] ⟨[(0,.own 0),(4,.none0)],[(0,some (.row 2 116 (t745.map eBucket)))],0⟩ [Enters Try.prog 65,Pv.Fn Try.prog 65 [.im (.row (a0.map eBucket))] [] 0 (fun r o=>r = .own 0∧o=[(0,some (.row 2 116 (t745.map eBucket)))])] (by kernel_rfl) ⟨by exact Try.call65,by exact f_slices_Clone_api_Bucket.ok a0 t745 e746,trivial⟩ ?_
 refine AWp.seq ?_
 obtain⟨t1368,e1369,H⟩:=bind_of H
 refine reg hP hn hm [(1,.call [(0,0)] [(0,0)] [] [] 1 (.tup []) [(0,some (.row 2 116 (t1368.map eBucket)))])] [0,4] [0] ⟨[(0,.own 0),(4,.none0)],[(0,some (.row 2 116 (t1368.map eBucket)))],0⟩ [Enters Try.prog 132,Pv.Fn Try.prog 132 [.own 0,.im (.sc (.func (.func 133) #[] #[]))] [(0,some (.row 2 116 (t745.map eBucket)))] 1 (fun r o=>r = .tup []∧o=[(0,some (.row 2 116 (t1368.map eBucket)))])] (by kernel_rfl) ⟨by exact Try.call132,by exact f_slices_SortStableFunc_api_Bucket_hist_tidy_1.ok t745 t1368 e1369,trivial⟩ ?_
 refine AWp.seq ?_
 refine AWp.seq ?_
 refine reg hP hn hm [(1,.any (iV .i64 (t1368.length:Int)))] [4,14,15,16] [0] ⟨[(4,.none0),(14,.own 0),(15,iV .i64 (t1368.length:Int)),(16,iV .i64 0)],[(0,some (.row 2 116 (t1368.map eBucket)))],0⟩ [((t1368.map eBucket).length:Int)=(t1368.length:Int)] (by kernel_rfl) ⟨by rw[len_map],trivial⟩ ?_
 refine AWp.block ?_
 obtain⟨o1417,e1418,H⟩:=bind_of H
 refine AWp.loop (LWp.conv (inv:=[(0,7)]) (vk:=[]) (e0:=[6]) (t:=⟨[(4,.own 6),(14,.own 7),(15,iV .i64 (t1368.length:Int)),(16,iV .i64 0)],[(6,some (.row 2 116 ([].map eBucket))),(7,some (.row 2 116 (t1368.map eBucket)))],0⟩) (by kernel_rfl) ?_)
 refine LWp.mono (Q:=fun e s=>(match (generalizing:=false) o1417 with | .inl rr=>e = .ret∧s.floor=0∧resOf Try.prog Try.f119 s=some (.tup [.own 0,iV .i64 rr.2])∧([(0,s.obj 0)]:List (Nat×Option MObj))=[(0,some (.row 2 116 (rr.1.map eBucket)))] | .inr x1416=>e = .exit 0∧s=⟨[(4,.own 19)],[(19,some (.row 2 116 (x1416.map eBucket)))],0⟩)) (LWp.cv (withBody (fun body hbody => ?_))) ?_
 ·refine f_hist_tidy.l0.partial_correctness t1368 (motive:=fun x1381 x1382 o1417=>LWp Γ body (fun e s=>∃ t,Cv Γ s t∧(match (generalizing:=false) o1417 with | .inl rr=>e = .ret∧t.floor=0∧resOf Try.prog Try.f119 t=some (.tup [.own 0,iV .i64 rr.2])∧([(0,t.obj 0)]:List (Nat×Option MObj))=[(0,some (.row 2 116 (rr.1.map eBucket)))] | .inr x1416=>e = .exit 0∧t=⟨[(4,.own 19)],[(19,some (.row 2 116 (x1416.map eBucket)))],0⟩)) ⟨[(4,.own 6),(14,.own 7),(15,iV .i64 (t1368.length:Int)),(16,iV .i64 x1382)],[(6,some (.row 2 116 (x1381.map eBucket))),(7,some (.row 2 116 (t1368.map eBucket)))],0⟩) ?_ _ _ _ e1418
  clear H e1418 o1417;intro self ih x1381 x1382 o1417 H
  subst hbody
  refine LWp.round ?_
  refine AWp.seq ?_
  refine reg hP hn hm [] [4,14,15,16,17] [6,7] ⟨[(4,.own 6),(14,.own 7),(15,iV .i64 (t1368.length:Int)),(16,iV .i64 x1382),(17,bV (decide (x1382<(t1368.length:Int))))],[(6,some (.row 2 116 (x1381.map eBucket))),(7,some (.row 2 116 (t1368.map eBucket)))],0⟩ [] (by kernel_rfl) trivial ?_
  refine AWp.seq ?_
  refine AWp.cond (decide (x1382<(t1368.length:Int))) rfl (fun c1383 => ?_) (fun c1383 => ?_)
  ·replace H:=(ifT c1383).symm.trans H
   refine AWp.skip ?_
   refine AWp.seq ?_
   refine AWp.block ?_
   refine AWp.seq ?_
   obtain⟨b1387,p1388,q1389,H⟩:=at_of H
   refine reg hP hn hm [(1,.c (eBucket b1387)),(2,.k 8)] [4,6,14,15,16] [6,7,8] ⟨[(4,.own 6),(6,.ptr 8 0 0),(14,.own 7),(15,iV .i64 (t1368.length:Int)),(16,iV .i64 x1382)],[(6,some (.row 2 116 (x1381.map eBucket))),(7,some (.row 2 116 (t1368.map eBucket))),(8,some (.box 116 (aBucket b1387)))],0⟩ [0≤x1382,x1382<(((t1368.map eBucket).length:Nat):Int),(t1368.map eBucket)[(Int.toNat (x1382))]? = some (eBucket b1387)] (by kernel_rfl) ⟨by exact p1388,by exact el_lt eBucket p1388 q1389,by exact el_map eBucket q1389,trivial⟩ ?_
   refine AWp.seq ?_
   refine reg hP hn hm [(1,.any (iV .i64 (x1381.length:Int)))] [4,6,7,14,15,16] [6,7,8] ⟨[(4,.own 6),(6,.ptr 8 0 0),(7,iV .i64 (x1381.length:Int)),(14,.own 7),(15,iV .i64 (t1368.length:Int)),(16,iV .i64 x1382)],[(6,some (.row 2 116 (x1381.map eBucket))),(7,some (.row 2 116 (t1368.map eBucket))),(8,some (.box 116 (aBucket b1387)))],0⟩ [((x1381.map eBucket).length:Int)=(x1381.length:Int)] (by kernel_rfl) ⟨by rw[len_map],trivial⟩ ?_
   refine AWp.block ?_
   refine AWp.seq ?_
   refine reg hP hn hm [] [4,6,7,14,15,16,26] [6,7,8] ⟨[(4,.own 6),(6,.ptr 8 0 0),(7,iV .i64 (x1381.length:Int)),(14,.own 7),(15,iV .i64 (t1368.length:Int)),(16,iV .i64 x1382),(26,bV (b1387.f1==(0:Int)))],[(6,some (.row 2 116 (x1381.map eBucket))),(7,some (.row 2 116 (t1368.map eBucket))),(8,some (.box 116 (aBucket b1387)))],0⟩ [] (by kernel_rfl) trivial ?_
   obtain⟨o1419,e1420,H⟩:=bind_of H
   refine AWp.mono (Q:=fun e s=>(match (generalizing:=false) o1419 with | .inl rr=>e = .ret∧s.floor=0∧resOf Try.prog Try.f119 s=some (.tup [.own 0,iV .i64 rr.2])∧([(0,s.obj 0)]:List (Nat×Option MObj))=[(0,some (.row 2 116 (rr.1.map eBucket)))] | .inr x1415=>e = .normal∧s=⟨[(4,.own 17),(14,.own 18),(15,iV .i64 (t1368.length:Int)),(16,iV .i64 x1382)],[(17,some (.row 2 116 (x1415.map eBucket))),(18,some (.row 2 116 (t1368.map eBucket)))],0⟩)) (AWp.cv ?_) ?_
   ·replace H:=e1420;clear e1420
    refine AWp.cond (b1387.f1==(0:Int)) rfl (fun c1390 => ?_) (fun c1390 => ?_)
    ·replace H:=(ifT c1390).symm.trans H
     refine AWp.skip ?_
     obtain rfl:=Option.some.inj H
     exact Exists.intro _ (And.intro (fun _ _ h=>h.conv (inv:=[(6,17),(7,18)]) (vk:=[]) (e0:=[]) (t:=⟨[(4,.own 17),(14,.own 18),(15,iV .i64 (t1368.length:Int)),(16,iV .i64 x1382)],[(17,some (.row 2 116 (x1381.map eBucket))),(18,some (.row 2 116 (t1368.map eBucket)))],0⟩) (by kernel_rfl)) (And.intro rfl rfl))
    ·replace H:=(ifF c1390).symm.trans H
     refine AWp.seq ?_
     obtain⟨o1421,e1422,H⟩:=bind_of H
     refine AWp.mono (Q:=fun e s=>(match (generalizing:=false) o1421 with | x1399=>e = .normal∧s=⟨[(4,.own 9),(6,.ptr 10 0 0),(7,iV .i64 (x1381.length:Int)),(14,.own 11),(15,iV .i64 (t1368.length:Int)),(16,iV .i64 x1382),(30,bV x1399)],[(9,some (.row 2 116 (x1381.map eBucket))),(10,some (.box 116 (aBucket b1387))),(11,some (.row 2 116 (t1368.map eBucket)))],0⟩)) (AWp.cv ?_) ?_
     ·replace H:=e1422;clear e1422
      rcases Bool.eq_false_or_eq_true (decide ((x1381.length:Int)>(0:Int))) with c1395 | c1395
      ·replace H:=(ifT c1395).symm.trans H
       obtain⟨b1396,p1397,q1398,H⟩:=at_of H
       refine reg hP hn hm [(2,.b true),(8,.c (eBucket b1396))] [4,6,7,14,15,16,30,34,35,36,37,38,39,40,41,42] [6,7,8] ⟨[(4,.own 6),(6,.ptr 8 0 0),(7,iV .i64 (x1381.length:Int)),(14,.own 7),(15,iV .i64 (t1368.length:Int)),(16,iV .i64 x1382),(30,bV (b1396.f0==b1387.f0)),(34,.own 6),(35,iV .i64 (x1381.length:Int)),(36,iV .i64 (IntKind.i64.wrap ((x1381.length:Int)-(1:Int)))),(37,.ptr 6 (Int.toNat (IntKind.i64.wrap ((x1381.length:Int)-(1:Int)))) 0),(38,.ptr 6 (Int.toNat (IntKind.i64.wrap ((x1381.length:Int)-(1:Int)))) 0),(39,iV .i64 b1396.f0),(40,.ptr 8 0 0),(41,iV .i64 b1387.f0),(42,bV (b1396.f0==b1387.f0))],[(6,some (.row 2 116 (x1381.map eBucket))),(7,some (.row 2 116 (t1368.map eBucket))),(8,some (.box 116 (aBucket b1387)))],0⟩ [(decide ((x1381.length:Int)>(0:Int)))=true,0≤(IntKind.i64.wrap ((x1381.length:Int)-(1:Int))),IntKind.i64.wrap ((x1381.length:Int)-(1:Int))<(((x1381.map eBucket).length:Nat):Int),(x1381.map eBucket)[(Int.toNat (IntKind.i64.wrap ((x1381.length:Int)-(1:Int))))]? = some (eBucket b1396)] (by kernel_rfl) ⟨by exact c1395,by exact p1397,by exact el_lt eBucket p1397 q1398,by exact el_map eBucket q1398,trivial⟩ ?_
       obtain rfl:=Option.some.inj H
       exact Exists.intro _ (And.intro (fun _ _ h=>h.conv (inv:=[(6,9),(8,10),(7,11)]) (vk:=[]) (e0:=[]) (t:=⟨[(4,.own 9),(6,.ptr 10 0 0),(7,iV .i64 (x1381.length:Int)),(14,.own 11),(15,iV .i64 (t1368.length:Int)),(16,iV .i64 x1382),(30,bV (b1396.f0==b1387.f0))],[(9,some (.row 2 116 (x1381.map eBucket))),(10,some (.box 116 (aBucket b1387))),(11,some (.row 2 116 (t1368.map eBucket)))],0⟩) (by kernel_rfl)) (And.intro rfl rfl))
      ·replace H:=(ifF c1395).symm.trans H
       refine reg hP hn hm [(2,.b false)] [4,6,7,14,15,16,30] [6,7,8] ⟨[(4,.own 6),(6,.ptr 8 0 0),(7,iV .i64 (x1381.length:Int)),(14,.own 7),(15,iV .i64 (t1368.length:Int)),(16,iV .i64 x1382),(30,bV false)],[(6,some (.row 2 116 (x1381.map eBucket))),(7,some (.row 2 116 (t1368.map eBucket))),(8,some (.box 116 (aBucket b1387)))],0⟩ [(decide ((x1381.length:Int)>(0:Int)))=false] (by kernel_rfl) ⟨by exact c1395,trivial⟩ ?_
       obtain rfl:=Option.some.inj H
       exact Exists.intro _ (And.intro (fun _ _ h=>h.conv (inv:=[(6,9),(8,10),(7,11)]) (vk:=[]) (e0:=[]) (t:=⟨[(4,.own 9),(6,.ptr 10 0 0),(7,iV .i64 (x1381.length:Int)),(14,.own 11),(15,iV .i64 (t1368.length:Int)),(16,iV .i64 x1382),(30,bV false)],[(9,some (.row 2 116 (x1381.map eBucket))),(10,some (.box 116 (aBucket b1387))),(11,some (.row 2 116 (t1368.map eBucket)))],0⟩) (by kernel_rfl)) (And.intro rfl rfl))
     ·obtain⟨x1399,rfl⟩:∃ z,z=o1421:=⟨_,rfl⟩
      rintro e s ⟨rfl,rfl⟩
      obtain⟨o1423,e1424,H⟩:=bind_of H
      refine AWp.mono (Q:=fun e s=>(match (generalizing:=false) o1423 with | .inl rr=>e = .ret∧s.floor=0∧resOf Try.prog Try.f119 s=some (.tup [.own 0,iV .i64 rr.2])∧([(0,s.obj 0)]:List (Nat×Option MObj))=[(0,some (.row 2 116 (rr.1.map eBucket)))] | .inr x1414=>e = .normal∧s=⟨[(4,.own 15),(14,.own 16),(15,iV .i64 (t1368.length:Int)),(16,iV .i64 x1382)],[(15,some (.row 2 116 (x1414.map eBucket))),(16,some (.row 2 116 (t1368.map eBucket)))],0⟩)) (AWp.cv ?_) ?_
      ·replace H:=e1424;clear e1424
       refine AWp.cond x1399 rfl (fun c1400 => ?_) (fun c1400 => ?_)
       ·replace H:=(ifT c1400).symm.trans H
        refine AWp.seq ?_
        obtain⟨b1406,p1407,q1408,H⟩:=at_of H
        obtain⟨t1409,e1410,H⟩:=bind_of H
        refine reg hP hn hm [(5,.c (eBucket b1406)),(8,.app 12 ([b1406.f1,b1387.f1].map (encInt .u64))),(9,.call [] [] [12] [] 0 (.tup [iV .u64 t1409.1,iV .i64 t1409.2]) [])] [4,7,8,9,14,15,16] [9,11] ⟨[(4,.own 9),(7,iV .i64 (x1381.length:Int)),(8,iV .u64 t1409.1),(9,iV .i64 t1409.2),(14,.own 11),(15,iV .i64 (t1368.length:Int)),(16,iV .i64 x1382)],[(9,some (.row 2 116 (x1381.map eBucket))),(11,some (.row 2 116 (t1368.map eBucket)))],0⟩ [0≤(IntKind.i64.wrap ((x1381.length:Int)-(1:Int))),IntKind.i64.wrap ((x1381.length:Int)-(1:Int))<(((x1381.map eBucket).length:Nat):Int),(x1381.map eBucket)[(Int.toNat (IntKind.i64.wrap ((x1381.length:Int)-(1:Int))))]? = some (eBucket b1406),[b1406.f1,b1387.f1].map (encInt .u64)=[[iI .u64 b1406.f1],[iI .u64 b1387.f1]],Enters Try.prog 98,Pv.Fn Try.prog 98 [.im (.row ([b1406.f1,b1387.f1].map (encInt .u64)))] [] 0 (fun r o=>r = .tup [iV .u64 t1409.1,iV .i64 t1409.2]∧o=[])] (by kernel_rfl) ⟨by exact p1407,by exact el_lt eBucket p1407 q1408,by exact el_map eBucket q1408,by exact rfl,by exact Try.call98,by exact f_num_Add.ok [b1406.f1,b1387.f1] t1409 e1410,trivial⟩ ?_
        refine AWp.seq ?_
        refine AWp.seq ?_
        refine reg hP hn hm [] [4,7,8,9,14,15,16,58] [9,11] ⟨[(4,.own 9),(7,iV .i64 (x1381.length:Int)),(8,iV .u64 t1409.1),(9,iV .i64 t1409.2),(14,.own 11),(15,iV .i64 (t1368.length:Int)),(16,iV .i64 x1382),(58,bV (t1409.2 != (0:Int)))],[(9,some (.row 2 116 (x1381.map eBucket))),(11,some (.row 2 116 (t1368.map eBucket)))],0⟩ [] (by kernel_rfl) trivial ?_
        refine AWp.cond (t1409.2 != (0:Int)) rfl (fun c1411 => ?_) (fun c1411 => ?_)
        ·replace H:=(ifT c1411).symm.trans H
         refine AWp.seq ?_
         refine reg hP hn hm [] [2,3] [] ⟨[(2,.none0),(3,iV .i64 t1409.2)],[],0⟩ [] (by kernel_rfl) trivial ?_
         refine AWp.conv (inv:=[]) (vk:=[]) (e0:=[0]) (t:=⟨[(2,.own 0),(3,iV .i64 t1409.2)],[(0,some (.row 2 116 ([].map eBucket)))],0⟩) (by kernel_rfl) ?_
         refine AWp.ret ?_
         obtain rfl:=Option.some.inj H
         exact Exists.intro _ (And.intro (fun _ _ h=>h) (And.intro rfl (And.intro rfl (And.intro (by kernel_rfl) (by kernel_rfl)))))
        ·replace H:=(ifF c1411).symm.trans H
         refine AWp.skip ?_
         refine reg hP hn hm [(6,.put (eBucket b1406) ((x1381.set (Int.toNat (IntKind.i64.wrap ((x1381.length:Int)-(1:Int)))) (⟨b1406.f0,t1409.1⟩:TBucket)).map eBucket))] [4,14,15,16] [9,11] ⟨[(4,.own 9),(14,.own 11),(15,iV .i64 (t1368.length:Int)),(16,iV .i64 x1382)],[(9,some (.row 2 116 ((x1381.set (Int.toNat (IntKind.i64.wrap ((x1381.length:Int)-(1:Int)))) (⟨b1406.f0,t1409.1⟩:TBucket)).map eBucket))),(11,some (.row 2 116 (t1368.map eBucket)))],0⟩ [0≤(IntKind.i64.wrap ((x1381.length:Int)-(1:Int))),IntKind.i64.wrap ((x1381.length:Int)-(1:Int))<(((x1381.map eBucket).length:Nat):Int),(x1381.map eBucket)[(Int.toNat (IntKind.i64.wrap ((x1381.length:Int)-(1:Int))))]? = some (eBucket b1406),(x1381.set (Int.toNat (IntKind.i64.wrap ((x1381.length:Int)-(1:Int)))) (⟨b1406.f0,t1409.1⟩:TBucket)).map eBucket=(x1381.map eBucket).set (Int.toNat (IntKind.i64.wrap ((x1381.length:Int)-(1:Int)))) (splice (eBucket b1406) 1 [iI .u64 t1409.1])] (by kernel_rfl) ⟨by exact p1407,by exact el_lt eBucket p1407 q1408,by exact el_map eBucket q1408,by exact set1 _ _ _ _,trivial⟩ ?_
         obtain rfl:=Option.some.inj H
         exact Exists.intro _ (And.intro (fun _ _ h=>h.conv (inv:=[(9,15),(11,16)]) (vk:=[]) (e0:=[]) (t:=⟨[(4,.own 15),(14,.own 16),(15,iV .i64 (t1368.length:Int)),(16,iV .i64 x1382)],[(15,some (.row 2 116 ((x1381.set (Int.toNat (IntKind.i64.wrap ((x1381.length:Int)-(1:Int)))) (⟨b1406.f0,t1409.1⟩:TBucket)).map eBucket))),(16,some (.row 2 116 (t1368.map eBucket)))],0⟩) (by kernel_rfl)) (And.intro rfl rfl))
       ·replace H:=(ifF c1400).symm.trans H
        obtain⟨c1413,H⟩:=chk_of H
        refine reg hP hn hm [(2,.app 13 ([b1387].map eBucket)),(3,.app 14 ((x1381++[b1387]).map eBucket))] [4,14,15,16] [11,14] ⟨[(4,.own 14),(14,.own 11),(15,iV .i64 (t1368.length:Int)),(16,iV .i64 x1382)],[(11,some (.row 2 116 (t1368.map eBucket))),(14,some (.row 2 116 ((x1381++[b1387]).map eBucket)))],0⟩ [[b1387].map eBucket=[[iI .i64 b1387.f0,iI .u64 b1387.f1]],(x1381++[b1387]).map eBucket=(x1381.map eBucket)++([b1387].map eBucket),∀ c∈([b1387].map eBucket),c.length=2,∀ c∈([b1387].map eBucket),leaves (c.map .im)=true,((x1381.map eBucket).length+([b1387].map eBucket).length)*16≤140737488355328] (by kernel_rfl) ⟨by exact rfl,by simp,by exact all_len _ _ _ (fun _=>rfl),by exact all_leaf _ _ (fun _=>rfl),by simpa using c1413,trivial⟩ ?_
        obtain rfl:=Option.some.inj H
        exact Exists.intro _ (And.intro (fun _ _ h=>h.conv (inv:=[(14,15),(11,16)]) (vk:=[]) (e0:=[]) (t:=⟨[(4,.own 15),(14,.own 16),(15,iV .i64 (t1368.length:Int)),(16,iV .i64 x1382)],[(15,some (.row 2 116 ((x1381++[b1387]).map eBucket))),(16,some (.row 2 116 (t1368.map eBucket)))],0⟩) (by kernel_rfl)) (And.intro rfl rfl))
      ·rcases o1423 with rr | x1414
       ·skip
        rintro e s ⟨rfl,hfl,hres⟩
        obtain rfl:=Option.some.inj H
        exact Exists.intro _ (And.intro (fun _ _ h=>h) (And.intro rfl (And.intro hfl hres)))
       ·skip
        rintro e s ⟨rfl,rfl⟩
        obtain rfl:=Option.some.inj H
        exact Exists.intro _ (And.intro (fun _ _ h=>h.conv (inv:=[(15,17),(16,18)]) (vk:=[]) (e0:=[]) (t:=⟨[(4,.own 17),(14,.own 18),(15,iV .i64 (t1368.length:Int)),(16,iV .i64 x1382)],[(17,some (.row 2 116 (x1414.map eBucket))),(18,some (.row 2 116 (t1368.map eBucket)))],0⟩) (by kernel_rfl)) (And.intro rfl rfl))
   ·rcases o1419 with rr | x1415
    ·skip
     rintro e s ⟨rfl,hfl,hres⟩
     obtain rfl:=Option.some.inj H
     exact Exists.intro _ (And.intro (fun _ _ h=>h) (And.intro rfl (And.intro hfl hres)))
    ·skip
     rintro e s ⟨rfl,rfl⟩
     refine reg hP hn hm [] [4,14,15,16] [17,18] ⟨[(4,.own 17),(14,.own 18),(15,iV .i64 (t1368.length:Int)),(16,iV .i64 (IntKind.i64.wrap (x1382+(1:Int))))],[(17,some (.row 2 116 (x1415.map eBucket))),(18,some (.row 2 116 (t1368.map eBucket)))],0⟩ [] (by kernel_rfl) trivial ?_
     exact LWp.conv (inv:=[(17,6),(18,7)]) (vk:=[]) (e0:=[]) (t:=⟨[(4,.own 6),(14,.own 7),(15,iV .i64 (t1368.length:Int)),(16,iV .i64 (IntKind.i64.wrap (x1382+(1:Int))))],[(6,some (.row 2 116 (x1415.map eBucket))),(7,some (.row 2 116 (t1368.map eBucket)))],0⟩) (by kernel_rfl) (ih _ _ _ H)
  ·replace H:=(ifF c1383).symm.trans H
   refine AWp.exit ?_
   obtain rfl:=Option.some.inj H
   exact Exists.intro _ (And.intro (fun _ _ h=>h.conv (inv:=[(6,19)]) (vk:=[]) (e0:=[]) (t:=⟨[(4,.own 19)],[(19,some (.row 2 116 (x1381.map eBucket)))],0⟩) (by kernel_rfl)) (And.intro rfl rfl))
 ·rcases o1417 with rr | x1416
  ·skip
   rintro e s ⟨rfl,hfl,hres⟩
   obtain rfl:=Option.some.inj H
   exact Exists.intro _ (And.intro (fun _ _ h=>h) (And.intro (.inl rfl) (And.intro hfl hres)))
  ·skip
   rintro e s ⟨rfl,rfl⟩
   refine AWp.seq ?_
   refine reg hP hn hm [] [2,3] [19] ⟨[(2,.own 19),(3,iV .i64 0)],[(19,some (.row 2 116 (x1416.map eBucket)))],0⟩ [] (by kernel_rfl) trivial ?_
   refine AWp.conv (inv:=[(19,0)]) (vk:=[]) (e0:=[]) (t:=⟨[(2,.own 0),(3,iV .i64 0)],[(0,some (.row 2 116 (x1416.map eBucket)))],0⟩) (by kernel_rfl) ?_
   refine AWp.ret ?_
   obtain rfl:=Option.some.inj H
   exact Exists.intro _ (And.intro (fun _ _ h=>h) (And.intro (.inl rfl) (And.intro rfl (And.intro (by kernel_rfl) (by kernel_rfl)))))
def f_hist_total.l1 (a0:List (List TBucket)) (b1474:List TBucket) (x1469:Int) (x1489:Int) (x1490:Int):Option ((Int×Int) ⊕ Int):=if(decide (x1490<(b1474.length:Int)))=true then((at? b1474 x1490)>>=fun b1495=>(f_num_Add.f [x1489,b1495.f1])>>=fun t1500=>if(t1500.2 != (0:Int))=true then(some (.inl (0,t1500.2))) else(f_hist_total.l1 a0 b1474 x1469 t1500.1 (IntKind.i64.wrap (x1490+(1:Int))))) else(some (.inr x1489))
partial_fixpoint
def f_hist_total.l0 (a0:List (List TBucket)) (x1468:Int) (x1469:Int):Option ((Int×Int) ⊕ Int):=if(decide (x1469<(a0.length:Int)))=true then((at? a0 x1469)>>=fun b1474=>(f_hist_total.l1 a0 b1474 x1469 x1468 0)>>=fun oo=>match oo with | .inl rr=>(some (.inl rr)) | .inr x1503=>(f_hist_total.l0 a0 x1503 (IntKind.i64.wrap (x1469+(1:Int))))) else(some (.inr x1468))
partial_fixpoint
def f_hist_total.f (a0:List (List TBucket)):Option (Int×Int):=(f_hist_total.l0 a0 0 0)>>=fun oo=>match oo with | .inl rr=>(some rr) | .inr x1504=>(some (x1504,0))
theorem f_hist_total.ok (a0:List (List TBucket)) (r:Int×Int) (H:f_hist_total.f a0=some r):Pv.Fn Try.prog 120 [.im (.row (a0.map (encRow eBucket)))] [] 0 (fun x o=>x = .tup [iV .u64 r.1,iV .i64 r.2]∧o=[]):=by
 unfold f_hist_total.f at H
 refine Fn.bodyK [] Try.func120 rfl rfl (fun Γ hP hn => ?_)
 have hm:Try.prog.follows .mixedOrders=true:=by kernel_rfl
 replace hn:Γ.n=36:=hn
 refine AWp.seq ?_
 refine reg hP hn hm [] [0] [] ⟨[(0,.im (.row (a0.map (encRow eBucket))))],[],0⟩ [] (by kernel_rfl) trivial ?_
 refine AWp.seq ?_
 refine reg hP hn hm [] [0,4] [] ⟨[(0,.im (.row (a0.map (encRow eBucket)))),(4,iV .u64 0)],[],0⟩ [] (by kernel_rfl) trivial ?_
 refine AWp.seq ?_
 refine AWp.seq ?_
 refine reg hP hn hm [(1,.any (iV .i64 (a0.length:Int)))] [4,10,11,12] [] ⟨[(4,iV .u64 0),(10,.im (.row (a0.map (encRow eBucket)))),(11,iV .i64 (a0.length:Int)),(12,iV .i64 0)],[],0⟩ [((a0.map (encRow eBucket)).length:Int)=(a0.length:Int)] (by kernel_rfl) ⟨by rw[len_map],trivial⟩ ?_
 refine AWp.block ?_
 obtain⟨o1505,e1506,H⟩:=bind_of H
 refine AWp.loop (LWp.conv (inv:=[]) (vk:=[]) (e0:=[]) (t:=⟨[(4,iV .u64 0),(10,.im (.row (a0.map (encRow eBucket)))),(11,iV .i64 (a0.length:Int)),(12,iV .i64 0)],[],0⟩) (by kernel_rfl) ?_)
 refine LWp.mono (Q:=fun e s=>(match (generalizing:=false) o1505 with | .inl rr=>e = .ret∧s.floor=0∧resOf Try.prog Try.f120 s=some (.tup [iV .u64 rr.1,iV .i64 rr.2])∧([]:List (Nat×Option MObj))=[] | .inr x1504=>e = .exit 0∧s=⟨[(4,iV .u64 x1504)],[],0⟩)) (LWp.cv (withBody (fun body hbody => ?_))) ?_
 ·refine f_hist_total.l0.partial_correctness a0 (motive:=fun x1468 x1469 o1505=>LWp Γ body (fun e s=>∃ t,Cv Γ s t∧(match (generalizing:=false) o1505 with | .inl rr=>e = .ret∧t.floor=0∧resOf Try.prog Try.f120 t=some (.tup [iV .u64 rr.1,iV .i64 rr.2])∧([]:List (Nat×Option MObj))=[] | .inr x1504=>e = .exit 0∧t=⟨[(4,iV .u64 x1504)],[],0⟩)) ⟨[(4,iV .u64 x1468),(10,.im (.row (a0.map (encRow eBucket)))),(11,iV .i64 (a0.length:Int)),(12,iV .i64 x1469)],[],0⟩) ?_ _ _ _ e1506
  clear H e1506 o1505;intro self ih x1468 x1469 o1505 H
  subst hbody
  refine LWp.round ?_
  refine AWp.seq ?_
  refine reg hP hn hm [] [4,10,11,12,13] [] ⟨[(4,iV .u64 x1468),(10,.im (.row (a0.map (encRow eBucket)))),(11,iV .i64 (a0.length:Int)),(12,iV .i64 x1469),(13,bV (decide (x1469<(a0.length:Int))))],[],0⟩ [] (by kernel_rfl) trivial ?_
  refine AWp.seq ?_
  refine AWp.cond (decide (x1469<(a0.length:Int))) rfl (fun c1470 => ?_) (fun c1470 => ?_)
  ·replace H:=(ifT c1470).symm.trans H
   refine AWp.skip ?_
   refine AWp.seq ?_
   refine AWp.block ?_
   refine AWp.seq ?_
   obtain⟨b1474,p1475,q1476,H⟩:=at_of H
   refine reg hP hn hm [(0,.c ((encRow eBucket) b1474))] [4,6,10,11,12] [] ⟨[(4,iV .u64 x1468),(6,.im (.row (b1474.map eBucket))),(10,.im (.row (a0.map (encRow eBucket)))),(11,iV .i64 (a0.length:Int)),(12,iV .i64 x1469)],[],0⟩ [0≤x1469,(a0.map (encRow eBucket))[(Int.toNat (x1469))]? = some ((encRow eBucket) b1474)] (by kernel_rfl) ⟨by exact p1475,by exact el_map (encRow eBucket) q1476,trivial⟩ ?_
   refine AWp.seq ?_
   refine reg hP hn hm [(1,.any (iV .i64 (b1474.length:Int)))] [4,10,11,12,16,17,18] [] ⟨[(4,iV .u64 x1468),(10,.im (.row (a0.map (encRow eBucket)))),(11,iV .i64 (a0.length:Int)),(12,iV .i64 x1469),(16,.im (.row (b1474.map eBucket))),(17,iV .i64 (b1474.length:Int)),(18,iV .i64 0)],[],0⟩ [((b1474.map eBucket).length:Int)=(b1474.length:Int)] (by kernel_rfl) ⟨by rw[len_map],trivial⟩ ?_
   refine AWp.block ?_
   obtain⟨o1507,e1508,H⟩:=bind_of H
   refine AWp.loop (LWp.conv (inv:=[]) (vk:=[]) (e0:=[]) (t:=⟨[(4,iV .u64 x1468),(10,.im (.row (a0.map (encRow eBucket)))),(11,iV .i64 (a0.length:Int)),(12,iV .i64 x1469),(16,.im (.row (b1474.map eBucket))),(17,iV .i64 (b1474.length:Int)),(18,iV .i64 0)],[],0⟩) (by kernel_rfl) ?_)
   refine LWp.mono (Q:=fun e s=>(match (generalizing:=false) o1507 with | .inl rr=>e = .ret∧s.floor=0∧resOf Try.prog Try.f120 s=some (.tup [iV .u64 rr.1,iV .i64 rr.2])∧([]:List (Nat×Option MObj))=[] | .inr x1503=>e = .exit 2∧s=⟨[(4,iV .u64 x1503),(10,.im (.row (a0.map (encRow eBucket)))),(11,iV .i64 (a0.length:Int)),(12,iV .i64 x1469)],[],0⟩)) (LWp.cv (withBody (fun body hbody => ?_))) ?_
   ·refine f_hist_total.l1.partial_correctness a0 b1474 x1469 (motive:=fun x1489 x1490 o1507=>LWp Γ body (fun e s=>∃ t,Cv Γ s t∧(match (generalizing:=false) o1507 with | .inl rr=>e = .ret∧t.floor=0∧resOf Try.prog Try.f120 t=some (.tup [iV .u64 rr.1,iV .i64 rr.2])∧([]:List (Nat×Option MObj))=[] | .inr x1503=>e = .exit 2∧t=⟨[(4,iV .u64 x1503),(10,.im (.row (a0.map (encRow eBucket)))),(11,iV .i64 (a0.length:Int)),(12,iV .i64 x1469)],[],0⟩)) ⟨[(4,iV .u64 x1489),(10,.im (.row (a0.map (encRow eBucket)))),(11,iV .i64 (a0.length:Int)),(12,iV .i64 x1469),(16,.im (.row (b1474.map eBucket))),(17,iV .i64 (b1474.length:Int)),(18,iV .i64 x1490)],[],0⟩) ?_ _ _ _ e1508
    clear H e1508 o1507;intro self ih x1489 x1490 o1507 H
    subst hbody
    refine LWp.round ?_
    refine AWp.seq ?_
    refine reg hP hn hm [] [4,10,11,12,16,17,18,19] [] ⟨[(4,iV .u64 x1489),(10,.im (.row (a0.map (encRow eBucket)))),(11,iV .i64 (a0.length:Int)),(12,iV .i64 x1469),(16,.im (.row (b1474.map eBucket))),(17,iV .i64 (b1474.length:Int)),(18,iV .i64 x1490),(19,bV (decide (x1490<(b1474.length:Int))))],[],0⟩ [] (by kernel_rfl) trivial ?_
    refine AWp.seq ?_
    refine AWp.cond (decide (x1490<(b1474.length:Int))) rfl (fun c1491 => ?_) (fun c1491 => ?_)
    ·replace H:=(ifT c1491).symm.trans H
     refine AWp.skip ?_
     refine AWp.seq ?_
     refine AWp.block ?_
     refine AWp.seq ?_
     obtain⟨b1495,p1496,q1497,H⟩:=at_of H
     refine reg hP hn hm [(0,.c (eBucket b1495)),(2,.k 6)] [4,8,10,11,12,16,17,18] [6] ⟨[(4,iV .u64 x1489),(8,.ptr 6 0 0),(10,.im (.row (a0.map (encRow eBucket)))),(11,iV .i64 (a0.length:Int)),(12,iV .i64 x1469),(16,.im (.row (b1474.map eBucket))),(17,iV .i64 (b1474.length:Int)),(18,iV .i64 x1490)],[(6,some (.box 116 (aBucket b1495)))],0⟩ [0≤x1490,(b1474.map eBucket)[(Int.toNat (x1490))]? = some (eBucket b1495)] (by kernel_rfl) ⟨by exact p1496,by exact el_map eBucket q1497,trivial⟩ ?_
     refine AWp.seq ?_
     refine reg hP hn hm [] [4,8,10,11,12,16,17,18] [6] ⟨[(4,iV .u64 x1489),(8,.ptr 6 0 0),(10,.im (.row (a0.map (encRow eBucket)))),(11,iV .i64 (a0.length:Int)),(12,iV .i64 x1469),(16,.im (.row (b1474.map eBucket))),(17,iV .i64 (b1474.length:Int)),(18,iV .i64 x1490)],[(6,some (.box 116 (aBucket b1495)))],0⟩ [] (by kernel_rfl) trivial ?_
     refine AWp.seq ?_
     obtain⟨t1500,e1501,H⟩:=bind_of H
     refine reg hP hn hm [(3,.app 7 ([x1489,b1495.f1].map (encInt .u64))),(4,.call [] [] [7] [] 0 (.tup [iV .u64 t1500.1,iV .i64 t1500.2]) [])] [4,9,10,11,12,16,17,18] [] ⟨[(4,iV .u64 t1500.1),(9,iV .i64 t1500.2),(10,.im (.row (a0.map (encRow eBucket)))),(11,iV .i64 (a0.length:Int)),(12,iV .i64 x1469),(16,.im (.row (b1474.map eBucket))),(17,iV .i64 (b1474.length:Int)),(18,iV .i64 x1490)],[],0⟩ [[x1489,b1495.f1].map (encInt .u64)=[[iI .u64 x1489],[iI .u64 b1495.f1]],Enters Try.prog 98,Pv.Fn Try.prog 98 [.im (.row ([x1489,b1495.f1].map (encInt .u64)))] [] 0 (fun r o=>r = .tup [iV .u64 t1500.1,iV .i64 t1500.2]∧o=[])] (by kernel_rfl) ⟨by exact rfl,by exact Try.call98,by exact f_num_Add.ok [x1489,b1495.f1] t1500 e1501,trivial⟩ ?_
     refine AWp.seq ?_
     refine reg hP hn hm [] [4,9,10,11,12,16,17,18,31] [] ⟨[(4,iV .u64 t1500.1),(9,iV .i64 t1500.2),(10,.im (.row (a0.map (encRow eBucket)))),(11,iV .i64 (a0.length:Int)),(12,iV .i64 x1469),(16,.im (.row (b1474.map eBucket))),(17,iV .i64 (b1474.length:Int)),(18,iV .i64 x1490),(31,bV (t1500.2 != (0:Int)))],[],0⟩ [] (by kernel_rfl) trivial ?_
     refine AWp.cond (t1500.2 != (0:Int)) rfl (fun c1502 => ?_) (fun c1502 => ?_)
     ·replace H:=(ifT c1502).symm.trans H
      refine AWp.seq ?_
      refine reg hP hn hm [] [2,3] [] ⟨[(2,iV .u64 0),(3,iV .i64 t1500.2)],[],0⟩ [] (by kernel_rfl) trivial ?_
      refine AWp.conv (inv:=[]) (vk:=[]) (e0:=[]) (t:=⟨[(2,iV .u64 0),(3,iV .i64 t1500.2)],[],0⟩) (by kernel_rfl) ?_
      refine AWp.ret ?_
      obtain rfl:=Option.some.inj H
      exact Exists.intro _ (And.intro (fun _ _ h=>h) (And.intro rfl (And.intro rfl (And.intro (by kernel_rfl) (by kernel_rfl)))))
     ·replace H:=(ifF c1502).symm.trans H
      refine AWp.skip ?_
      refine reg hP hn hm [] [4,10,11,12,16,17,18] [] ⟨[(4,iV .u64 t1500.1),(10,.im (.row (a0.map (encRow eBucket)))),(11,iV .i64 (a0.length:Int)),(12,iV .i64 x1469),(16,.im (.row (b1474.map eBucket))),(17,iV .i64 (b1474.length:Int)),(18,iV .i64 (IntKind.i64.wrap (x1490+(1:Int))))],[],0⟩ [] (by kernel_rfl) trivial ?_
      exact LWp.conv (inv:=[]) (vk:=[]) (e0:=[]) (t:=⟨[(4,iV .u64 t1500.1),(10,.im (.row (a0.map (encRow eBucket)))),(11,iV .i64 (a0.length:Int)),(12,iV .i64 x1469),(16,.im (.row (b1474.map eBucket))),(17,iV .i64 (b1474.length:Int)),(18,iV .i64 (IntKind.i64.wrap (x1490+(1:Int))))],[],0⟩) (by kernel_rfl) (ih _ _ _ H)
    ·replace H:=(ifF c1491).symm.trans H
     refine AWp.exit ?_
     obtain rfl:=Option.some.inj H
     exact Exists.intro _ (And.intro (fun _ _ h=>h.conv (inv:=[]) (vk:=[]) (e0:=[]) (t:=⟨[(4,iV .u64 x1489),(10,.im (.row (a0.map (encRow eBucket)))),(11,iV .i64 (a0.length:Int)),(12,iV .i64 x1469)],[],0⟩) (by kernel_rfl)) (And.intro rfl rfl))
   ·rcases o1507 with rr | x1503
    ·skip
     rintro e s ⟨rfl,hfl,hres⟩
     obtain rfl:=Option.some.inj H
     exact Exists.intro _ (And.intro (fun _ _ h=>h) (And.intro rfl (And.intro hfl hres)))
    ·skip
     rintro e s ⟨rfl,rfl⟩
     refine reg hP hn hm [] [4,10,11,12] [] ⟨[(4,iV .u64 x1503),(10,.im (.row (a0.map (encRow eBucket)))),(11,iV .i64 (a0.length:Int)),(12,iV .i64 (IntKind.i64.wrap (x1469+(1:Int))))],[],0⟩ [] (by kernel_rfl) trivial ?_
     exact LWp.conv (inv:=[]) (vk:=[]) (e0:=[]) (t:=⟨[(4,iV .u64 x1503),(10,.im (.row (a0.map (encRow eBucket)))),(11,iV .i64 (a0.length:Int)),(12,iV .i64 (IntKind.i64.wrap (x1469+(1:Int))))],[],0⟩) (by kernel_rfl) (ih _ _ _ H)
  ·replace H:=(ifF c1470).symm.trans H
   refine AWp.exit ?_
   obtain rfl:=Option.some.inj H
   exact Exists.intro _ (And.intro (fun _ _ h=>h.conv (inv:=[]) (vk:=[]) (e0:=[]) (t:=⟨[(4,iV .u64 x1468)],[],0⟩) (by kernel_rfl)) (And.intro rfl rfl))
 ·rcases o1505 with rr | x1504
  ·skip
   rintro e s ⟨rfl,hfl,hres⟩
   obtain rfl:=Option.some.inj H
   exact Exists.intro _ (And.intro (fun _ _ h=>h) (And.intro (.inl rfl) (And.intro hfl hres)))
  ·skip
   rintro e s ⟨rfl,rfl⟩
   refine AWp.seq ?_
   refine reg hP hn hm [] [2,3] [] ⟨[(2,iV .u64 x1504),(3,iV .i64 0)],[],0⟩ [] (by kernel_rfl) trivial ?_
   refine AWp.conv (inv:=[]) (vk:=[]) (e0:=[]) (t:=⟨[(2,iV .u64 x1504),(3,iV .i64 0)],[],0⟩) (by kernel_rfl) ?_
   refine AWp.ret ?_
   obtain rfl:=Option.some.inj H
   exact Exists.intro _ (And.intro (fun _ _ h=>h) (And.intro (.inl rfl) (And.intro rfl (And.intro (by kernel_rfl) (by kernel_rfl)))))
def f_hist_buckets.l0 (a0:THist) (a1:List TBucket) (x1550:Int):Option (Int ⊕ Unit):=if(decide (x1550<(a1.length:Int)))=true then((at? a1 x1550)>>=fun b1555=>(f_bound_In.f a0.f1 b1555.f0)>>=fun t1560=>if(!t1560)=true then(some (.inl 4)) else(((if(decide (x1550>(0:Int)))=true then((at? a1 (IntKind.i64.wrap (x1550-(1:Int))))>>=fun b1568=>some (decide (b1568.f0≥b1555.f0))) else(some false)):Option (Bool))>>=fun x1571=>if x1571=true then(some (.inl 32)) else(if(b1555.f1==(0:Int))=true then(some (.inl 21)) else((f_bound_Low.f a0.f1 b1555.f0)>>=fun t1576=>if(decide (t1576<a0.f2))=true then(some (.inl 31)) else(f_hist_buckets.l0 a0 a1 (IntKind.i64.wrap (x1550+(1:Int)))))))) else(some (.inr ()))
partial_fixpoint
def f_hist_buckets.f (a0:THist) (a1:List TBucket):Option (Int):=if(decide ((a1.length:Int)>(512:Int)))=true then(some 9) else((f_hist_buckets.l0 a0 a1 0)>>=fun oo=>match oo with | .inl rr=>(some rr) | .inr _=>(some 0))
theorem f_hist_buckets.ok (a0:THist) (a1:List TBucket) (r:Int) (H:f_hist_buckets.f a0 a1=some r):Pv.Fn Try.prog 134 [.agg (aHist a0),.im (.row (a1.map eBucket))] [] 0 (fun x o=>x=iV .i64 r∧o=[]):=by
 unfold f_hist_buckets.f at H
 refine Fn.bodyK [] Try.func134 rfl rfl (fun Γ hP hn => ?_)
 have hm:Try.prog.follows .mixedOrders=true:=by kernel_rfl
 replace hn:Γ.n=52:=hn
 refine AWp.seq ?_
 refine reg hP hn hm [(0,.k 0)] [1,2] [0] ⟨[(1,.im (.row (a1.map eBucket))),(2,.ptr 0 0 0)],[(0,some (.box 52 (aHist a0)))],0⟩ [] (by kernel_rfl) trivial ?_
 refine AWp.seq ?_
 refine AWp.seq ?_
 refine reg hP hn hm [(1,.any (iV .i64 (a1.length:Int)))] [1,2,9] [0] ⟨[(1,.im (.row (a1.map eBucket))),(2,.ptr 0 0 0),(9,bV (decide ((a1.length:Int)>(512:Int))))],[(0,some (.box 52 (aHist a0)))],0⟩ [((a1.map eBucket).length:Int)=(a1.length:Int)] (by kernel_rfl) ⟨by rw[len_map],trivial⟩ ?_
 refine AWp.cond (decide ((a1.length:Int)>(512:Int))) rfl (fun c1531 => ?_) (fun c1531 => ?_)
 ·replace H:=(ifT c1531).symm.trans H
  refine AWp.seq ?_
  refine reg hP hn hm [] [4] [] ⟨[(4,iV .i64 9)],[],0⟩ [] (by kernel_rfl) trivial ?_
  refine AWp.conv (inv:=[]) (vk:=[]) (e0:=[]) (t:=⟨[(4,iV .i64 9)],[],0⟩) (by kernel_rfl) ?_
  refine AWp.ret ?_
  obtain rfl:=Option.some.inj H
  exact Exists.intro _ (And.intro (fun _ _ h=>h) (And.intro (.inl rfl) (And.intro rfl (And.intro (by kernel_rfl) (by kernel_rfl)))))
 ·replace H:=(ifF c1531).symm.trans H
  refine AWp.skip ?_
  refine AWp.seq ?_
  refine AWp.seq ?_
  refine reg hP hn hm [(1,.any (iV .i64 (a1.length:Int)))] [1,2,10,11,12] [0] ⟨[(1,.im (.row (a1.map eBucket))),(2,.ptr 0 0 0),(10,.im (.row (a1.map eBucket))),(11,iV .i64 (a1.length:Int)),(12,iV .i64 0)],[(0,some (.box 52 (aHist a0)))],0⟩ [((a1.map eBucket).length:Int)=(a1.length:Int)] (by kernel_rfl) ⟨by rw[len_map],trivial⟩ ?_
  refine AWp.block ?_
  obtain⟨o1579,e1580,H⟩:=bind_of H
  refine AWp.loop (LWp.conv (inv:=[(0,2)]) (vk:=[]) (e0:=[]) (t:=⟨[(1,.im (.row (a1.map eBucket))),(2,.ptr 2 0 0),(10,.im (.row (a1.map eBucket))),(11,iV .i64 (a1.length:Int)),(12,iV .i64 0)],[(2,some (.box 52 (aHist a0)))],0⟩) (by kernel_rfl) ?_)
  refine LWp.mono (Q:=fun e s=>(match (generalizing:=false) o1579 with | .inl rr=>e = .ret∧s.floor=0∧resOf Try.prog Try.f134 s=some (iV .i64 rr)∧([]:List (Nat×Option MObj))=[] | .inr _=>e = .exit 0∧s=⟨[],[],0⟩)) (LWp.cv (withBody (fun body hbody => ?_))) ?_
  ·refine f_hist_buckets.l0.partial_correctness a0 a1 (motive:=fun x1550 o1579=>LWp Γ body (fun e s=>∃ t,Cv Γ s t∧(match (generalizing:=false) o1579 with | .inl rr=>e = .ret∧t.floor=0∧resOf Try.prog Try.f134 t=some (iV .i64 rr)∧([]:List (Nat×Option MObj))=[] | .inr _=>e = .exit 0∧t=⟨[],[],0⟩)) ⟨[(1,.im (.row (a1.map eBucket))),(2,.ptr 2 0 0),(10,.im (.row (a1.map eBucket))),(11,iV .i64 (a1.length:Int)),(12,iV .i64 x1550)],[(2,some (.box 52 (aHist a0)))],0⟩) ?_ _ _ e1580
   clear H e1580 o1579;intro self ih x1550 o1579 H
   subst hbody
   refine LWp.round ?_
   refine AWp.seq ?_
   refine reg hP hn hm [] [1,2,10,11,12,13] [2] ⟨[(1,.im (.row (a1.map eBucket))),(2,.ptr 2 0 0),(10,.im (.row (a1.map eBucket))),(11,iV .i64 (a1.length:Int)),(12,iV .i64 x1550),(13,bV (decide (x1550<(a1.length:Int))))],[(2,some (.box 52 (aHist a0)))],0⟩ [] (by kernel_rfl) trivial ?_
   refine AWp.seq ?_
   refine AWp.cond (decide (x1550<(a1.length:Int))) rfl (fun c1551 => ?_) (fun c1551 => ?_)
   ·replace H:=(ifT c1551).symm.trans H
    refine AWp.skip ?_
    refine AWp.seq ?_
    refine AWp.block ?_
    refine AWp.seq ?_
    obtain⟨b1555,p1556,q1557,H⟩:=at_of H
    refine reg hP hn hm [(1,.c (eBucket b1555)),(3,.k 3)] [1,2,5,6,10,11,12] [2,3] ⟨[(1,.im (.row (a1.map eBucket))),(2,.ptr 2 0 0),(5,iV .i64 x1550),(6,.ptr 3 0 0),(10,.im (.row (a1.map eBucket))),(11,iV .i64 (a1.length:Int)),(12,iV .i64 x1550)],[(2,some (.box 52 (aHist a0))),(3,some (.box 116 (aBucket b1555)))],0⟩ [0≤x1550,(a1.map eBucket)[(Int.toNat (x1550))]? = some (eBucket b1555)] (by kernel_rfl) ⟨by exact p1556,by exact el_map eBucket q1557,trivial⟩ ?_
    refine AWp.block ?_
    refine AWp.seq ?_
    obtain⟨t1560,e1561,H⟩:=bind_of H
    refine reg hP hn hm [(4,.call [] [] [] [] 0 (bV t1560) [])] [1,2,5,6,10,11,12,17] [2,3] ⟨[(1,.im (.row (a1.map eBucket))),(2,.ptr 2 0 0),(5,iV .i64 x1550),(6,.ptr 3 0 0),(10,.im (.row (a1.map eBucket))),(11,iV .i64 (a1.length:Int)),(12,iV .i64 x1550),(17,bV (!t1560))],[(2,some (.box 52 (aHist a0))),(3,some (.box 116 (aBucket b1555)))],0⟩ [Enters Try.prog 140,Pv.Fn Try.prog 140 [iV .i64 a0.f1,iV .i64 b1555.f0] [] 0 (fun r o=>r=bV t1560∧o=[])] (by kernel_rfl) ⟨by exact Try.call140,by exact f_bound_In.ok a0.f1 b1555.f0 t1560 e1561,trivial⟩ ?_
    refine AWp.cond (!t1560) rfl (fun c1562 => ?_) (fun c1562 => ?_)
    ·replace H:=(ifT c1562).symm.trans H
     refine AWp.seq ?_
     refine reg hP hn hm [] [4] [] ⟨[(4,iV .i64 4)],[],0⟩ [] (by kernel_rfl) trivial ?_
     refine AWp.conv (inv:=[]) (vk:=[]) (e0:=[]) (t:=⟨[(4,iV .i64 4)],[],0⟩) (by kernel_rfl) ?_
     refine AWp.ret ?_
     obtain rfl:=Option.some.inj H
     exact Exists.intro _ (And.intro (fun _ _ h=>h) (And.intro rfl (And.intro rfl (And.intro (by kernel_rfl) (by kernel_rfl)))))
    ·replace H:=(ifF c1562).symm.trans H
     refine AWp.seq ?_
     obtain⟨o1581,e1582,H⟩:=bind_of H
     refine AWp.mono (Q:=fun e s=>(match (generalizing:=false) o1581 with | x1571=>e = .normal∧s=⟨[(1,.im (.row (a1.map eBucket))),(2,.ptr 4 0 0),(6,.ptr 5 0 0),(10,.im (.row (a1.map eBucket))),(11,iV .i64 (a1.length:Int)),(12,iV .i64 x1550),(24,bV x1571)],[(4,some (.box 52 (aHist a0))),(5,some (.box 116 (aBucket b1555)))],0⟩)) (AWp.cv ?_) ?_
     ·replace H:=e1582;clear e1582
      rcases Bool.eq_false_or_eq_true (decide (x1550>(0:Int))) with c1567 | c1567
      ·replace H:=(ifT c1567).symm.trans H
       obtain⟨b1568,p1569,q1570,H⟩:=at_of H
       refine reg hP hn hm [(2,.b true),(6,.c (eBucket b1568))] [1,2,6,10,11,12,24,28,29,30,31,32,33,34,35,36] [2,3] ⟨[(1,.im (.row (a1.map eBucket))),(2,.ptr 2 0 0),(6,.ptr 3 0 0),(10,.im (.row (a1.map eBucket))),(11,iV .i64 (a1.length:Int)),(12,iV .i64 x1550),(24,bV (decide (b1568.f0≥b1555.f0))),(28,.im (.row (a1.map eBucket))),(29,iV .i64 x1550),(30,iV .i64 (IntKind.i64.wrap (x1550-(1:Int)))),(31,.ip [iI .i64 b1568.f0,iI .u64 b1568.f1]),(32,.ip [iI .i64 b1568.f0,iI .u64 b1568.f1]),(33,iV .i64 b1568.f0),(34,.ptr 3 0 0),(35,iV .i64 b1555.f0),(36,bV (decide (b1568.f0≥b1555.f0)))],[(2,some (.box 52 (aHist a0))),(3,some (.box 116 (aBucket b1555)))],0⟩ [(decide (x1550>(0:Int)))=true,0≤(IntKind.i64.wrap (x1550-(1:Int))),(a1.map eBucket)[(Int.toNat (IntKind.i64.wrap (x1550-(1:Int))))]? = some (eBucket b1568)] (by kernel_rfl) ⟨by exact c1567,by exact p1569,by exact el_map eBucket q1570,trivial⟩ ?_
       obtain rfl:=Option.some.inj H
       exact Exists.intro _ (And.intro (fun _ _ h=>h.conv (inv:=[(2,4),(3,5)]) (vk:=[]) (e0:=[]) (t:=⟨[(1,.im (.row (a1.map eBucket))),(2,.ptr 4 0 0),(6,.ptr 5 0 0),(10,.im (.row (a1.map eBucket))),(11,iV .i64 (a1.length:Int)),(12,iV .i64 x1550),(24,bV (decide (b1568.f0≥b1555.f0)))],[(4,some (.box 52 (aHist a0))),(5,some (.box 116 (aBucket b1555)))],0⟩) (by kernel_rfl)) (And.intro rfl rfl))
      ·replace H:=(ifF c1567).symm.trans H
       refine reg hP hn hm [(2,.b false)] [1,2,6,10,11,12,24] [2,3] ⟨[(1,.im (.row (a1.map eBucket))),(2,.ptr 2 0 0),(6,.ptr 3 0 0),(10,.im (.row (a1.map eBucket))),(11,iV .i64 (a1.length:Int)),(12,iV .i64 x1550),(24,bV false)],[(2,some (.box 52 (aHist a0))),(3,some (.box 116 (aBucket b1555)))],0⟩ [(decide (x1550>(0:Int)))=false] (by kernel_rfl) ⟨by exact c1567,trivial⟩ ?_
       obtain rfl:=Option.some.inj H
       exact Exists.intro _ (And.intro (fun _ _ h=>h.conv (inv:=[(2,4),(3,5)]) (vk:=[]) (e0:=[]) (t:=⟨[(1,.im (.row (a1.map eBucket))),(2,.ptr 4 0 0),(6,.ptr 5 0 0),(10,.im (.row (a1.map eBucket))),(11,iV .i64 (a1.length:Int)),(12,iV .i64 x1550),(24,bV false)],[(4,some (.box 52 (aHist a0))),(5,some (.box 116 (aBucket b1555)))],0⟩) (by kernel_rfl)) (And.intro rfl rfl))
     ·obtain⟨x1571,rfl⟩:∃ z,z=o1581:=⟨_,rfl⟩
      rintro e s ⟨rfl,rfl⟩
      refine AWp.cond x1571 rfl (fun c1572 => ?_) (fun c1572 => ?_)
      ·replace H:=(ifT c1572).symm.trans H
       refine AWp.seq ?_
       refine reg hP hn hm [] [4] [] ⟨[(4,iV .i64 32)],[],0⟩ [] (by kernel_rfl) trivial ?_
       refine AWp.conv (inv:=[]) (vk:=[]) (e0:=[]) (t:=⟨[(4,iV .i64 32)],[],0⟩) (by kernel_rfl) ?_
       refine AWp.ret ?_
       obtain rfl:=Option.some.inj H
       exact Exists.intro _ (And.intro (fun _ _ h=>h) (And.intro rfl (And.intro rfl (And.intro (by kernel_rfl) (by kernel_rfl)))))
      ·replace H:=(ifF c1572).symm.trans H
       refine AWp.seq ?_
       refine reg hP hn hm [] [1,2,6,10,11,12,38] [4,5] ⟨[(1,.im (.row (a1.map eBucket))),(2,.ptr 4 0 0),(6,.ptr 5 0 0),(10,.im (.row (a1.map eBucket))),(11,iV .i64 (a1.length:Int)),(12,iV .i64 x1550),(38,bV (b1555.f1==(0:Int)))],[(4,some (.box 52 (aHist a0))),(5,some (.box 116 (aBucket b1555)))],0⟩ [] (by kernel_rfl) trivial ?_
       refine AWp.cond (b1555.f1==(0:Int)) rfl (fun c1573 => ?_) (fun c1573 => ?_)
       ·replace H:=(ifT c1573).symm.trans H
        refine AWp.seq ?_
        refine reg hP hn hm [] [4] [] ⟨[(4,iV .i64 21)],[],0⟩ [] (by kernel_rfl) trivial ?_
        refine AWp.conv (inv:=[]) (vk:=[]) (e0:=[]) (t:=⟨[(4,iV .i64 21)],[],0⟩) (by kernel_rfl) ?_
        refine AWp.ret ?_
        obtain rfl:=Option.some.inj H
        exact Exists.intro _ (And.intro (fun _ _ h=>h) (And.intro rfl (And.intro rfl (And.intro (by kernel_rfl) (by kernel_rfl)))))
       ·replace H:=(ifF c1573).symm.trans H
        refine AWp.seq ?_
        obtain⟨t1576,e1577,H⟩:=bind_of H
        refine reg hP hn hm [(4,.call [] [] [] [] 0 (iV .i64 t1576) [])] [1,2,10,11,12,42] [4] ⟨[(1,.im (.row (a1.map eBucket))),(2,.ptr 4 0 0),(10,.im (.row (a1.map eBucket))),(11,iV .i64 (a1.length:Int)),(12,iV .i64 x1550),(42,bV (decide (t1576<a0.f2)))],[(4,some (.box 52 (aHist a0)))],0⟩ [Enters Try.prog 115,Pv.Fn Try.prog 115 [iV .i64 a0.f1,iV .i64 b1555.f0] [] 0 (fun r o=>r=iV .i64 t1576∧o=[])] (by kernel_rfl) ⟨by exact Try.call115,by exact f_bound_Low.ok a0.f1 b1555.f0 t1576 e1577,trivial⟩ ?_
        refine AWp.cond (decide (t1576<a0.f2)) rfl (fun c1578 => ?_) (fun c1578 => ?_)
        ·replace H:=(ifT c1578).symm.trans H
         refine AWp.seq ?_
         refine reg hP hn hm [] [4] [] ⟨[(4,iV .i64 31)],[],0⟩ [] (by kernel_rfl) trivial ?_
         refine AWp.conv (inv:=[]) (vk:=[]) (e0:=[]) (t:=⟨[(4,iV .i64 31)],[],0⟩) (by kernel_rfl) ?_
         refine AWp.ret ?_
         obtain rfl:=Option.some.inj H
         exact Exists.intro _ (And.intro (fun _ _ h=>h) (And.intro rfl (And.intro rfl (And.intro (by kernel_rfl) (by kernel_rfl)))))
        ·replace H:=(ifF c1578).symm.trans H
         refine AWp.skip ?_
         refine reg hP hn hm [] [1,2,10,11,12] [4] ⟨[(1,.im (.row (a1.map eBucket))),(2,.ptr 4 0 0),(10,.im (.row (a1.map eBucket))),(11,iV .i64 (a1.length:Int)),(12,iV .i64 (IntKind.i64.wrap (x1550+(1:Int))))],[(4,some (.box 52 (aHist a0)))],0⟩ [] (by kernel_rfl) trivial ?_
         exact LWp.conv (inv:=[(4,2)]) (vk:=[]) (e0:=[]) (t:=⟨[(1,.im (.row (a1.map eBucket))),(2,.ptr 2 0 0),(10,.im (.row (a1.map eBucket))),(11,iV .i64 (a1.length:Int)),(12,iV .i64 (IntKind.i64.wrap (x1550+(1:Int))))],[(2,some (.box 52 (aHist a0)))],0⟩) (by kernel_rfl) (ih _ _ H)
   ·replace H:=(ifF c1551).symm.trans H
    refine AWp.exit ?_
    obtain rfl:=Option.some.inj H
    exact Exists.intro _ (And.intro (fun _ _ h=>h.conv (inv:=[]) (vk:=[]) (e0:=[]) (t:=⟨[],[],0⟩) (by kernel_rfl)) (And.intro rfl rfl))
  ·rcases o1579 with rr | _
   ·skip
    rintro e s ⟨rfl,hfl,hres⟩
    obtain rfl:=Option.some.inj H
    exact Exists.intro _ (And.intro (fun _ _ h=>h) (And.intro (.inl rfl) (And.intro hfl hres)))
   ·skip
    rintro e s ⟨rfl,rfl⟩
    refine AWp.seq ?_
    refine reg hP hn hm [] [4] [] ⟨[(4,iV .i64 0)],[],0⟩ [] (by kernel_rfl) trivial ?_
    refine AWp.conv (inv:=[]) (vk:=[]) (e0:=[]) (t:=⟨[(4,iV .i64 0)],[],0⟩) (by kernel_rfl) ?_
    refine AWp.ret ?_
    obtain rfl:=Option.some.inj H
    exact Exists.intro _ (And.intro (fun _ _ h=>h) (And.intro (.inl rfl) (And.intro rfl (And.intro (by kernel_rfl) (by kernel_rfl)))))
def f_hist_Check.l0 (a0:THist) (x1588:Int):Option (Int ⊕ Unit):=if(decide (x1588<(2:Int)))=true then((((chk (0≤x1588∧x1588<(2:Int)))>>=fun _=>if(x1588==(0:Int))=true then(some a0.f6) else(some a0.f7)):Option (List TBucket))>>=fun x1594=>(f_hist_buckets.f a0 x1594)>>=fun t1597=>if(t1597 != (0:Int))=true then(some (.inl t1597)) else(f_hist_Check.l0 a0 (IntKind.i64.wrap (x1588+(1:Int))))) else(some (.inr ()))
partial_fixpoint
def f_hist_Check.f (a0:THist):Option (Int):=((if(a0.f0 != (0:Int))=true then(some (a0.f0 != (1:Int))) else(some false)):Option (Bool))>>=fun x1518=>if x1518=true then(some 25) else((f_bound_Right.f a0.f1)>>=fun t1522=>if(!t1522)=true then(some 20) else(((if(a0.f2 != (-524288))=true then(if(decide (a0.f2≤(-262144)))=true then(some true) else(some (decide (a0.f2>(262144:Int))))) else(some false)):Option (Bool))>>=fun x1529=>if x1529=true then(some 31) else((f_hist_Check.l0 a0 0)>>=fun oo=>match oo with | .inl rr=>(some rr) | .inr _=>((f_hist_total.f [a0.f6,a0.f7,[(⟨0,a0.f3⟩:TBucket)]])>>=fun t1602=>if(t1602.2 != (0:Int))=true then(some t1602.2) else(if(t1602.1 != a0.f4)=true then(some 21) else(some 0))))))
theorem f_hist_Check.ok (a0:THist) (r:Int) (H:f_hist_Check.f a0=some r):Pv.Fn Try.prog 121 [.agg (aHist a0)] [] 0 (fun x o=>x=iV .i64 r∧o=[]):=by
 unfold f_hist_Check.f at H
 refine Fn.bodyK [] Try.func121 rfl rfl (fun Γ hP hn => ?_)
 have hm:Try.prog.follows .mixedOrders=true:=by kernel_rfl
 replace hn:Γ.n=73:=hn
 refine AWp.seq ?_
 refine reg hP hn hm [(0,.k 0)] [1] [0] ⟨[(1,.ptr 0 0 0)],[(0,some (.box 52 (aHist a0)))],0⟩ [] (by kernel_rfl) trivial ?_
 refine AWp.seq ?_
 refine AWp.block ?_
 refine AWp.seq ?_
 obtain⟨o1606,e1607,H⟩:=bind_of H
 refine AWp.mono (Q:=fun e s=>(match (generalizing:=false) o1606 with | x1518=>e = .normal∧s=⟨[(1,.ptr 1 0 0),(8,bV x1518)],[(1,some (.box 52 (aHist a0)))],0⟩)) (AWp.cv ?_) ?_
 ·replace H:=e1607;clear e1607
  rcases Bool.eq_false_or_eq_true (a0.f0 != (0:Int)) with c1517 | c1517
  ·replace H:=(ifT c1517).symm.trans H
   refine reg hP hn hm [(3,.b true)] [1,8] [0] ⟨[(1,.ptr 0 0 0),(8,bV (a0.f0 != (1:Int)))],[(0,some (.box 52 (aHist a0)))],0⟩ [(a0.f0 != (0:Int))=true] (by kernel_rfl) ⟨by exact c1517,trivial⟩ ?_
   obtain rfl:=Option.some.inj H
   exact Exists.intro _ (And.intro (fun _ _ h=>h.conv (inv:=[(0,1)]) (vk:=[]) (e0:=[]) (t:=⟨[(1,.ptr 1 0 0),(8,bV (a0.f0 != (1:Int)))],[(1,some (.box 52 (aHist a0)))],0⟩) (by kernel_rfl)) (And.intro rfl rfl))
  ·replace H:=(ifF c1517).symm.trans H
   refine reg hP hn hm [(3,.b false)] [1,8] [0] ⟨[(1,.ptr 0 0 0),(8,bV false)],[(0,some (.box 52 (aHist a0)))],0⟩ [(a0.f0 != (0:Int))=false] (by kernel_rfl) ⟨by exact c1517,trivial⟩ ?_
   obtain rfl:=Option.some.inj H
   exact Exists.intro _ (And.intro (fun _ _ h=>h.conv (inv:=[(0,1)]) (vk:=[]) (e0:=[]) (t:=⟨[(1,.ptr 1 0 0),(8,bV false)],[(1,some (.box 52 (aHist a0)))],0⟩) (by kernel_rfl)) (And.intro rfl rfl))
 ·obtain⟨x1518,rfl⟩:∃ z,z=o1606:=⟨_,rfl⟩
  rintro e s ⟨rfl,rfl⟩
  refine AWp.cond x1518 rfl (fun c1519 => ?_) (fun c1519 => ?_)
  ·replace H:=(ifT c1519).symm.trans H
   refine AWp.seq ?_
   refine reg hP hn hm [] [2] [] ⟨[(2,iV .i64 25)],[],0⟩ [] (by kernel_rfl) trivial ?_
   refine AWp.conv (inv:=[]) (vk:=[]) (e0:=[]) (t:=⟨[(2,iV .i64 25)],[],0⟩) (by kernel_rfl) ?_
   refine AWp.ret ?_
   obtain rfl:=Option.some.inj H
   exact Exists.intro _ (And.intro (fun _ _ h=>h) (And.intro (.inl rfl) (And.intro rfl (And.intro (by kernel_rfl) (by kernel_rfl)))))
  ·replace H:=(ifF c1519).symm.trans H
   refine AWp.seq ?_
   obtain⟨t1522,e1523,H⟩:=bind_of H
   refine reg hP hn hm [(2,.call [] [] [] [] 0 (bV t1522) [])] [1,17] [1] ⟨[(1,.ptr 1 0 0),(17,bV (!t1522))],[(1,some (.box 52 (aHist a0)))],0⟩ [Enters Try.prog 128,Pv.Fn Try.prog 128 [iV .i64 a0.f1] [] 0 (fun r o=>r=bV t1522∧o=[])] (by kernel_rfl) ⟨by exact Try.call128,by exact f_bound_Right.ok a0.f1 t1522 e1523,trivial⟩ ?_
   refine AWp.cond (!t1522) rfl (fun c1524 => ?_) (fun c1524 => ?_)
   ·replace H:=(ifT c1524).symm.trans H
    refine AWp.seq ?_
    refine reg hP hn hm [] [2] [] ⟨[(2,iV .i64 20)],[],0⟩ [] (by kernel_rfl) trivial ?_
    refine AWp.conv (inv:=[]) (vk:=[]) (e0:=[]) (t:=⟨[(2,iV .i64 20)],[],0⟩) (by kernel_rfl) ?_
    refine AWp.ret ?_
    obtain rfl:=Option.some.inj H
    exact Exists.intro _ (And.intro (fun _ _ h=>h) (And.intro (.inl rfl) (And.intro rfl (And.intro (by kernel_rfl) (by kernel_rfl)))))
   ·replace H:=(ifF c1524).symm.trans H
    refine AWp.seq ?_
    obtain⟨o1608,e1609,H⟩:=bind_of H
    refine AWp.mono (Q:=fun e s=>(match (generalizing:=false) o1608 with | x1529=>e = .normal∧s=⟨[(1,.ptr 2 0 0),(22,bV x1529)],[(2,some (.box 52 (aHist a0)))],0⟩)) (AWp.cv ?_) ?_
    ·replace H:=e1609;clear e1609
     rcases Bool.eq_false_or_eq_true (a0.f2 != (-524288)) with c1527 | c1527
     ·replace H:=(ifT c1527).symm.trans H
      rcases Bool.eq_false_or_eq_true (decide (a0.f2≤(-262144))) with c1528 | c1528
      ·replace H:=(ifT c1528).symm.trans H
       refine reg hP hn hm [(3,.b true),(7,.b true)] [1,22] [1] ⟨[(1,.ptr 1 0 0),(22,bV true)],[(1,some (.box 52 (aHist a0)))],0⟩ [(a0.f2 != (-524288))=true,(decide (a0.f2≤(-262144)))=true] (by kernel_rfl) ⟨by exact c1527,by exact c1528,trivial⟩ ?_
       obtain rfl:=Option.some.inj H
       exact Exists.intro _ (And.intro (fun _ _ h=>h.conv (inv:=[(1,2)]) (vk:=[]) (e0:=[]) (t:=⟨[(1,.ptr 2 0 0),(22,bV true)],[(2,some (.box 52 (aHist a0)))],0⟩) (by kernel_rfl)) (And.intro rfl rfl))
      ·replace H:=(ifF c1528).symm.trans H
       refine reg hP hn hm [(3,.b true),(7,.b false)] [1,22] [1] ⟨[(1,.ptr 1 0 0),(22,bV (decide (a0.f2>(262144:Int))))],[(1,some (.box 52 (aHist a0)))],0⟩ [(a0.f2 != (-524288))=true,(decide (a0.f2≤(-262144)))=false] (by kernel_rfl) ⟨by exact c1527,by exact c1528,trivial⟩ ?_
       obtain rfl:=Option.some.inj H
       exact Exists.intro _ (And.intro (fun _ _ h=>h.conv (inv:=[(1,2)]) (vk:=[]) (e0:=[]) (t:=⟨[(1,.ptr 2 0 0),(22,bV (decide (a0.f2>(262144:Int))))],[(2,some (.box 52 (aHist a0)))],0⟩) (by kernel_rfl)) (And.intro rfl rfl))
     ·replace H:=(ifF c1527).symm.trans H
      refine reg hP hn hm [(3,.b false)] [1,22] [1] ⟨[(1,.ptr 1 0 0),(22,bV false)],[(1,some (.box 52 (aHist a0)))],0⟩ [(a0.f2 != (-524288))=false] (by kernel_rfl) ⟨by exact c1527,trivial⟩ ?_
      obtain rfl:=Option.some.inj H
      exact Exists.intro _ (And.intro (fun _ _ h=>h.conv (inv:=[(1,2)]) (vk:=[]) (e0:=[]) (t:=⟨[(1,.ptr 2 0 0),(22,bV false)],[(2,some (.box 52 (aHist a0)))],0⟩) (by kernel_rfl)) (And.intro rfl rfl))
    ·obtain⟨x1529,rfl⟩:∃ z,z=o1608:=⟨_,rfl⟩
     rintro e s ⟨rfl,rfl⟩
     refine AWp.cond x1529 rfl (fun c1530 => ?_) (fun c1530 => ?_)
     ·replace H:=(ifT c1530).symm.trans H
      refine AWp.seq ?_
      refine reg hP hn hm [] [2] [] ⟨[(2,iV .i64 31)],[],0⟩ [] (by kernel_rfl) trivial ?_
      refine AWp.conv (inv:=[]) (vk:=[]) (e0:=[]) (t:=⟨[(2,iV .i64 31)],[],0⟩) (by kernel_rfl) ?_
      refine AWp.ret ?_
      obtain rfl:=Option.some.inj H
      exact Exists.intro _ (And.intro (fun _ _ h=>h) (And.intro (.inl rfl) (And.intro rfl (And.intro (by kernel_rfl) (by kernel_rfl)))))
     ·replace H:=(ifF c1530).symm.trans H
      refine AWp.skip ?_
      refine AWp.seq ?_
      refine AWp.seq ?_
      refine reg hP hn hm [] [1,40,41] [2] ⟨[(1,.ptr 2 0 0),(40,.agg [.im (.row (a0.f6.map eBucket)),.im (.row (a0.f7.map eBucket))]),(41,iV .i64 0)],[(2,some (.box 52 (aHist a0)))],0⟩ [] (by kernel_rfl) trivial ?_
      refine AWp.block ?_
      obtain⟨o1610,e1611,H⟩:=bind_of H
      refine AWp.loop (LWp.conv (inv:=[(2,3)]) (vk:=[]) (e0:=[]) (t:=⟨[(1,.ptr 3 0 0),(40,.agg [.im (.row (a0.f6.map eBucket)),.im (.row (a0.f7.map eBucket))]),(41,iV .i64 0)],[(3,some (.box 52 (aHist a0)))],0⟩) (by kernel_rfl) ?_)
      refine LWp.mono (Q:=fun e s=>(match (generalizing:=false) o1610 with | .inl rr=>e = .ret∧s.floor=0∧resOf Try.prog Try.f121 s=some (iV .i64 rr)∧([]:List (Nat×Option MObj))=[] | .inr _=>e = .exit 1∧s=⟨[(1,.ptr 5 0 0)],[(5,some (.box 52 (aHist a0)))],0⟩)) (LWp.cv (withBody (fun body hbody => ?_))) ?_
      ·refine f_hist_Check.l0.partial_correctness a0 (motive:=fun x1588 o1610=>LWp Γ body (fun e s=>∃ t,Cv Γ s t∧(match (generalizing:=false) o1610 with | .inl rr=>e = .ret∧t.floor=0∧resOf Try.prog Try.f121 t=some (iV .i64 rr)∧([]:List (Nat×Option MObj))=[] | .inr _=>e = .exit 1∧t=⟨[(1,.ptr 5 0 0)],[(5,some (.box 52 (aHist a0)))],0⟩)) ⟨[(1,.ptr 3 0 0),(40,.agg [.im (.row (a0.f6.map eBucket)),.im (.row (a0.f7.map eBucket))]),(41,iV .i64 x1588)],[(3,some (.box 52 (aHist a0)))],0⟩) ?_ _ _ e1611
       clear H e1611 o1610;intro self ih x1588 o1610 H
       subst hbody
       refine LWp.round ?_
       refine AWp.seq ?_
       refine reg hP hn hm [] [1,40,41,42] [3] ⟨[(1,.ptr 3 0 0),(40,.agg [.im (.row (a0.f6.map eBucket)),.im (.row (a0.f7.map eBucket))]),(41,iV .i64 x1588),(42,bV (decide (x1588<(2:Int))))],[(3,some (.box 52 (aHist a0)))],0⟩ [] (by kernel_rfl) trivial ?_
       refine AWp.seq ?_
       refine AWp.cond (decide (x1588<(2:Int))) rfl (fun c1589 => ?_) (fun c1589 => ?_)
       ·replace H:=(ifT c1589).symm.trans H
        refine AWp.skip ?_
        refine AWp.seq ?_
        refine AWp.block ?_
        refine AWp.seq ?_
        obtain⟨o1612,e1613,H⟩:=bind_of H
        refine AWp.mono (Q:=fun e s=>(match (generalizing:=false) o1612 with | x1594=>e = .normal∧s=⟨[(1,.ptr 4 0 0),(4,.im (.row (x1594.map eBucket))),(40,.agg [.im (.row (a0.f6.map eBucket)),.im (.row (a0.f7.map eBucket))]),(41,iV .i64 x1588)],[(4,some (.box 52 (aHist a0)))],0⟩)) (AWp.cv ?_) ?_
        ·replace H:=e1613;clear e1613
         obtain⟨c1592,H⟩:=chk_of H
         rcases Bool.eq_false_or_eq_true (x1588==(0:Int)) with c1593 | c1593
         ·replace H:=(ifT c1593).symm.trans H
          refine reg hP hn hm [(0,.more (xIdx 0))] [1,4,40,41] [3] ⟨[(1,.ptr 3 0 0),(4,.im (.row (a0.f6.map eBucket))),(40,.agg [.im (.row (a0.f6.map eBucket)),.im (.row (a0.f7.map eBucket))]),(41,iV .i64 x1588)],[(3,some (.box 52 (aHist a0)))],0⟩ [x1588=((0:Nat):Int)] (by kernel_rfl) ⟨by exact(by simpa using c1593),trivial⟩ ?_
          obtain rfl:=Option.some.inj H
          exact Exists.intro _ (And.intro (fun _ _ h=>h.conv (inv:=[(3,4)]) (vk:=[]) (e0:=[]) (t:=⟨[(1,.ptr 4 0 0),(4,.im (.row (a0.f6.map eBucket))),(40,.agg [.im (.row (a0.f6.map eBucket)),.im (.row (a0.f7.map eBucket))]),(41,iV .i64 x1588)],[(4,some (.box 52 (aHist a0)))],0⟩) (by kernel_rfl)) (And.intro rfl rfl))
         ·replace H:=(ifF c1593).symm.trans H
          refine reg hP hn hm [(0,.more (xIdx 1))] [1,4,40,41] [3] ⟨[(1,.ptr 3 0 0),(4,.im (.row (a0.f7.map eBucket))),(40,.agg [.im (.row (a0.f6.map eBucket)),.im (.row (a0.f7.map eBucket))]),(41,iV .i64 x1588)],[(3,some (.box 52 (aHist a0)))],0⟩ [x1588=((1:Nat):Int)] (by kernel_rfl) ⟨by have:=c1592;simp only[beq_eq_false_iff_ne] at *;omega,trivial⟩ ?_
          obtain rfl:=Option.some.inj H
          exact Exists.intro _ (And.intro (fun _ _ h=>h.conv (inv:=[(3,4)]) (vk:=[]) (e0:=[]) (t:=⟨[(1,.ptr 4 0 0),(4,.im (.row (a0.f7.map eBucket))),(40,.agg [.im (.row (a0.f6.map eBucket)),.im (.row (a0.f7.map eBucket))]),(41,iV .i64 x1588)],[(4,some (.box 52 (aHist a0)))],0⟩) (by kernel_rfl)) (And.intro rfl rfl))
        ·obtain⟨x1594,rfl⟩:∃ z,z=o1612:=⟨_,rfl⟩
         rintro e s ⟨rfl,rfl⟩
         refine AWp.seq ?_
         obtain⟨t1597,e1598,H⟩:=bind_of H
         refine reg hP hn hm [(2,.call [] [] [] [] 0 (iV .i64 t1597) [])] [1,5,40,41] [4] ⟨[(1,.ptr 4 0 0),(5,iV .i64 t1597),(40,.agg [.im (.row (a0.f6.map eBucket)),.im (.row (a0.f7.map eBucket))]),(41,iV .i64 x1588)],[(4,some (.box 52 (aHist a0)))],0⟩ [Enters Try.prog 134,Pv.Fn Try.prog 134 [.agg (aHist a0),.im (.row (x1594.map eBucket))] [] 0 (fun r o=>r=iV .i64 t1597∧o=[])] (by kernel_rfl) ⟨by exact Try.call134,by exact f_hist_buckets.ok a0 x1594 t1597 e1598,trivial⟩ ?_
         refine AWp.seq ?_
         refine reg hP hn hm [] [1,5,40,41,48] [4] ⟨[(1,.ptr 4 0 0),(5,iV .i64 t1597),(40,.agg [.im (.row (a0.f6.map eBucket)),.im (.row (a0.f7.map eBucket))]),(41,iV .i64 x1588),(48,bV (t1597 != (0:Int)))],[(4,some (.box 52 (aHist a0)))],0⟩ [] (by kernel_rfl) trivial ?_
         refine AWp.cond (t1597 != (0:Int)) rfl (fun c1599 => ?_) (fun c1599 => ?_)
         ·replace H:=(ifT c1599).symm.trans H
          refine AWp.seq ?_
          refine reg hP hn hm [] [2] [] ⟨[(2,iV .i64 t1597)],[],0⟩ [] (by kernel_rfl) trivial ?_
          refine AWp.conv (inv:=[]) (vk:=[]) (e0:=[]) (t:=⟨[(2,iV .i64 t1597)],[],0⟩) (by kernel_rfl) ?_
          refine AWp.ret ?_
          obtain rfl:=Option.some.inj H
          exact Exists.intro _ (And.intro (fun _ _ h=>h) (And.intro rfl (And.intro rfl (And.intro (by kernel_rfl) (by kernel_rfl)))))
         ·replace H:=(ifF c1599).symm.trans H
          refine AWp.skip ?_
          refine reg hP hn hm [] [1,40,41] [4] ⟨[(1,.ptr 4 0 0),(40,.agg [.im (.row (a0.f6.map eBucket)),.im (.row (a0.f7.map eBucket))]),(41,iV .i64 (IntKind.i64.wrap (x1588+(1:Int))))],[(4,some (.box 52 (aHist a0)))],0⟩ [] (by kernel_rfl) trivial ?_
          exact LWp.conv (inv:=[(4,3)]) (vk:=[]) (e0:=[]) (t:=⟨[(1,.ptr 3 0 0),(40,.agg [.im (.row (a0.f6.map eBucket)),.im (.row (a0.f7.map eBucket))]),(41,iV .i64 (IntKind.i64.wrap (x1588+(1:Int))))],[(3,some (.box 52 (aHist a0)))],0⟩) (by kernel_rfl) (ih _ _ H)
       ·replace H:=(ifF c1589).symm.trans H
        refine AWp.exit ?_
        obtain rfl:=Option.some.inj H
        exact Exists.intro _ (And.intro (fun _ _ h=>h.conv (inv:=[(3,5)]) (vk:=[]) (e0:=[]) (t:=⟨[(1,.ptr 5 0 0)],[(5,some (.box 52 (aHist a0)))],0⟩) (by kernel_rfl)) (And.intro rfl rfl))
      ·rcases o1610 with rr | _
       ·skip
        rintro e s ⟨rfl,hfl,hres⟩
        obtain rfl:=Option.some.inj H
        exact Exists.intro _ (And.intro (fun _ _ h=>h) (And.intro (.inl rfl) (And.intro hfl hres)))
       ·skip
        rintro e s ⟨rfl,rfl⟩
        refine AWp.seq ?_
        obtain⟨t1602,e1603,H⟩:=bind_of H
        refine reg hP hn hm [(7,.more (xFz (.app 6 ([(⟨0,a0.f3⟩:TBucket)].map eBucket)))),(8,.app 7 ([a0.f6,a0.f7,[(⟨0,a0.f3⟩:TBucket)]].map (encRow eBucket))),(9,.call [] [] [7] [] 0 (.tup [iV .u64 t1602.1,iV .i64 t1602.2]) [])] [1,6,7] [5] ⟨[(1,.ptr 5 0 0),(6,iV .u64 t1602.1),(7,iV .i64 t1602.2)],[(5,some (.box 52 (aHist a0)))],0⟩ [[(⟨0,a0.f3⟩:TBucket)].map eBucket=[[iI .i64 0,iI .u64 a0.f3]],[a0.f6,a0.f7,[(⟨0,a0.f3⟩:TBucket)]].map (encRow eBucket)=[[.row (a0.f6.map eBucket)],[.row (a0.f7.map eBucket)],[.row ([(⟨0,a0.f3⟩:TBucket)].map eBucket)]],Enters Try.prog 120,Pv.Fn Try.prog 120 [.im (.row ([a0.f6,a0.f7,[(⟨0,a0.f3⟩:TBucket)]].map (encRow eBucket)))] [] 0 (fun r o=>r = .tup [iV .u64 t1602.1,iV .i64 t1602.2]∧o=[])] (by kernel_rfl) ⟨by exact rfl,by exact rfl,by exact Try.call120,by exact f_hist_total.ok [a0.f6,a0.f7,[(⟨0,a0.f3⟩:TBucket)]] t1602 e1603,trivial⟩ ?_
        refine AWp.seq ?_
        refine AWp.block ?_
        refine AWp.seq ?_
        refine reg hP hn hm [] [1,6,7,64] [5] ⟨[(1,.ptr 5 0 0),(6,iV .u64 t1602.1),(7,iV .i64 t1602.2),(64,bV (t1602.2 != (0:Int)))],[(5,some (.box 52 (aHist a0)))],0⟩ [] (by kernel_rfl) trivial ?_
        refine AWp.cond (t1602.2 != (0:Int)) rfl (fun c1604 => ?_) (fun c1604 => ?_)
        ·replace H:=(ifT c1604).symm.trans H
         refine AWp.seq ?_
         refine reg hP hn hm [] [2] [] ⟨[(2,iV .i64 t1602.2)],[],0⟩ [] (by kernel_rfl) trivial ?_
         refine AWp.conv (inv:=[]) (vk:=[]) (e0:=[]) (t:=⟨[(2,iV .i64 t1602.2)],[],0⟩) (by kernel_rfl) ?_
         refine AWp.ret ?_
         obtain rfl:=Option.some.inj H
         exact Exists.intro _ (And.intro (fun _ _ h=>h) (And.intro (.inl rfl) (And.intro rfl (And.intro (by kernel_rfl) (by kernel_rfl)))))
        ·replace H:=(ifF c1604).symm.trans H
         refine AWp.seq ?_
         refine reg hP hn hm [] [68] [] ⟨[(68,bV (t1602.1 != a0.f4))],[],0⟩ [] (by kernel_rfl) trivial ?_
         refine AWp.cond (t1602.1 != a0.f4) rfl (fun c1605 => ?_) (fun c1605 => ?_)
         ·replace H:=(ifT c1605).symm.trans H
          refine AWp.seq ?_
          refine reg hP hn hm [] [2] [] ⟨[(2,iV .i64 21)],[],0⟩ [] (by kernel_rfl) trivial ?_
          refine AWp.conv (inv:=[]) (vk:=[]) (e0:=[]) (t:=⟨[(2,iV .i64 21)],[],0⟩) (by kernel_rfl) ?_
          refine AWp.ret ?_
          obtain rfl:=Option.some.inj H
          exact Exists.intro _ (And.intro (fun _ _ h=>h) (And.intro (.inl rfl) (And.intro rfl (And.intro (by kernel_rfl) (by kernel_rfl)))))
         ·replace H:=(ifF c1605).symm.trans H
          refine AWp.skip ?_
          refine AWp.seq ?_
          refine reg hP hn hm [] [2] [] ⟨[(2,iV .i64 0)],[],0⟩ [] (by kernel_rfl) trivial ?_
          refine AWp.conv (inv:=[]) (vk:=[]) (e0:=[]) (t:=⟨[(2,iV .i64 0)],[],0⟩) (by kernel_rfl) ?_
          refine AWp.ret ?_
          obtain rfl:=Option.some.inj H
          exact Exists.intro _ (And.intro (fun _ _ h=>h) (And.intro (.inl rfl) (And.intro rfl (And.intro (by kernel_rfl) (by kernel_rfl)))))
def f_hist_Make.f (a0:THist) (a1:List TBucket) (a2:List TBucket):Option (THist×Int):=(f_hist_tidy.f a1)>>=fun t1427=>(f_hist_tidy.f a2)>>=fun t1431=>if((if t1431.2>t1427.2 then t1431.2 else t1427.2) != (0:Int))=true then(some ((⟨0,0,0,0,0,0,[],[]⟩:THist),(if t1431.2>t1427.2 then t1431.2 else t1427.2))) else((f_hist_total.f [t1427.1,t1431.1,[(⟨0,a0.f3⟩:TBucket)]])>>=fun t1513=>if(t1513.2 != (0:Int))=true then(some ((⟨0,0,0,0,0,0,[],[]⟩:THist),t1513.2)) else((f_hist_Check.f (⟨a0.f0,a0.f1,a0.f2,a0.f3,t1513.1,a0.f5,t1427.1,t1431.1⟩:THist))>>=fun t1616=>if(t1616 != (0:Int))=true then(some ((⟨0,0,0,0,0,0,[],[]⟩:THist),t1616)) else(some ((⟨a0.f0,a0.f1,a0.f2,a0.f3,t1513.1,a0.f5,t1427.1,t1431.1⟩:THist),0))))
theorem f_hist_Make.ok (a0:THist) (a1:List TBucket) (a2:List TBucket) (r:THist×Int) (H:f_hist_Make.f a0 a1 a2=some r):Pv.Fn Try.prog 96 [.agg (aHist a0),.im (.row (a1.map eBucket)),.im (.row (a2.map eBucket))] [] 0 (fun x o=>x = .tup [.agg (aHist (r.1)),iV .i64 r.2]∧o=[]):=by
 unfold f_hist_Make.f at H
 refine Fn.bodyK [] Try.func96 rfl rfl (fun Γ hP hn => ?_)
 have hm:Try.prog.follows .mixedOrders=true:=by kernel_rfl
 replace hn:Γ.n=55:=hn
 refine AWp.seq ?_
 refine reg hP hn hm [(0,.k 0),(1,.k 1)] [1,2,3,6] [0,1] ⟨[(1,.im (.row (a1.map eBucket))),(2,.im (.row (a2.map eBucket))),(3,.ptr 0 0 0),(6,.ptr 1 0 0)],[(0,some (.box 52 (aHist a0))),(1,some (.box 52 [iV .i64 0,iV .i64 0,iV .i64 0,iV .u64 0,iV .u64 0,iV .i64 0,.none0,.none0]))],0⟩ [] (by kernel_rfl) trivial ?_
 refine AWp.seq ?_
 refine reg hP hn hm [] [1,2,3,6] [0,1] ⟨[(1,.im (.row (a1.map eBucket))),(2,.im (.row (a2.map eBucket))),(3,.ptr 0 0 0),(6,.ptr 1 0 0)],[(0,some (.box 52 (aHist a0))),(1,some (.box 52 [iV .i64 0,iV .i64 0,iV .i64 0,iV .u64 0,iV .u64 0,iV .i64 0,.none0,.none0]))],0⟩ [] (by kernel_rfl) trivial ?_
 refine AWp.seq ?_
 obtain⟨t1427,e1428,H⟩:=bind_of H
 refine reg hP hn hm [(1,.call [] [(0,2)] [] [2] 0 (.tup [.own 0,iV .i64 t1427.2]) [(0,some (.row 2 116 (t1427.1.map eBucket)))])] [2,3,6,8] [0,1,2] ⟨[(2,.im (.row (a2.map eBucket))),(3,.ptr 0 0 0),(6,.ptr 1 0 0),(8,iV .i64 t1427.2)],[(0,some (.box 52 [iV .i64 a0.f0,iV .i64 a0.f1,iV .i64 a0.f2,iV .u64 a0.f3,iV .u64 a0.f4,iV .i64 a0.f5,.own 2,.im (.row (a0.f7.map eBucket))])),(1,some (.box 52 [iV .i64 0,iV .i64 0,iV .i64 0,iV .u64 0,iV .u64 0,iV .i64 0,.none0,.none0])),(2,some (.row 2 116 (t1427.1.map eBucket)))],0⟩ [Enters Try.prog 119,Pv.Fn Try.prog 119 [.im (.row (a1.map eBucket))] [] 0 (fun r o=>r = .tup [.own 0,iV .i64 t1427.2]∧o=[(0,some (.row 2 116 (t1427.1.map eBucket)))])] (by kernel_rfl) ⟨by exact Try.call119,by exact f_hist_tidy.ok a1 t1427 e1428,trivial⟩ ?_
 refine AWp.seq ?_
 obtain⟨t1431,e1432,H⟩:=bind_of H
 refine reg hP hn hm [(1,.call [] [(0,3)] [] [3] 0 (.tup [.own 0,iV .i64 t1431.2]) [(0,some (.row 2 116 (t1431.1.map eBucket)))])] [3,6,8,9] [0,1,2,3] ⟨[(3,.ptr 0 0 0),(6,.ptr 1 0 0),(8,iV .i64 t1427.2),(9,iV .i64 t1431.2)],[(0,some (.box 52 [iV .i64 a0.f0,iV .i64 a0.f1,iV .i64 a0.f2,iV .u64 a0.f3,iV .u64 a0.f4,iV .i64 a0.f5,.own 2,.own 3])),(1,some (.box 52 [iV .i64 0,iV .i64 0,iV .i64 0,iV .u64 0,iV .u64 0,iV .i64 0,.none0,.none0])),(2,some (.row 2 116 (t1427.1.map eBucket))),(3,some (.row 2 116 (t1431.1.map eBucket)))],0⟩ [Enters Try.prog 119,Pv.Fn Try.prog 119 [.im (.row (a2.map eBucket))] [] 0 (fun r o=>r = .tup [.own 0,iV .i64 t1431.2]∧o=[(0,some (.row 2 116 (t1431.1.map eBucket)))])] (by kernel_rfl) ⟨by exact Try.call119,by exact f_hist_tidy.ok a2 t1431 e1432,trivial⟩ ?_
 refine AWp.seq ?_
 refine AWp.seq ?_
 refine reg hP hn hm [(2,.more xMax)] [3,6,8] [0,1,2,3] ⟨[(3,.ptr 0 0 0),(6,.ptr 1 0 0),(8,iV .i64 (if t1431.2>t1427.2 then t1431.2 else t1427.2))],[(0,some (.box 52 [iV .i64 a0.f0,iV .i64 a0.f1,iV .i64 a0.f2,iV .u64 a0.f3,iV .u64 a0.f4,iV .i64 a0.f5,.own 2,.own 3])),(1,some (.box 52 [iV .i64 0,iV .i64 0,iV .i64 0,iV .u64 0,iV .u64 0,iV .i64 0,.none0,.none0])),(2,some (.row 2 116 (t1427.1.map eBucket))),(3,some (.row 2 116 (t1431.1.map eBucket)))],0⟩ [] (by kernel_rfl) trivial ?_
 refine AWp.seq ?_
 refine reg hP hn hm [] [3,6,8,27] [0,1,2,3] ⟨[(3,.ptr 0 0 0),(6,.ptr 1 0 0),(8,iV .i64 (if t1431.2>t1427.2 then t1431.2 else t1427.2)),(27,bV ((if t1431.2>t1427.2 then t1431.2 else t1427.2) != (0:Int)))],[(0,some (.box 52 [iV .i64 a0.f0,iV .i64 a0.f1,iV .i64 a0.f2,iV .u64 a0.f3,iV .u64 a0.f4,iV .i64 a0.f5,.own 2,.own 3])),(1,some (.box 52 [iV .i64 0,iV .i64 0,iV .i64 0,iV .u64 0,iV .u64 0,iV .i64 0,.none0,.none0])),(2,some (.row 2 116 (t1427.1.map eBucket))),(3,some (.row 2 116 (t1431.1.map eBucket)))],0⟩ [] (by kernel_rfl) trivial ?_
 refine AWp.cond ((if t1431.2>t1427.2 then t1431.2 else t1427.2) != (0:Int)) rfl (fun c1433 => ?_) (fun c1433 => ?_)
 ·replace H:=(ifT c1433).symm.trans H
  refine AWp.seq ?_
  refine reg hP hn hm [] [6,7] [1] ⟨[(6,.ptr 1 0 0),(7,iV .i64 (if t1431.2>t1427.2 then t1431.2 else t1427.2))],[(1,some (.box 52 [iV .i64 0,iV .i64 0,iV .i64 0,iV .u64 0,iV .u64 0,iV .i64 0,.none0,.none0]))],0⟩ [] (by kernel_rfl) trivial ?_
  refine AWp.conv (inv:=[(1,0)]) (vk:=[]) (e0:=[]) (t:=⟨[(6,.ptr 0 0 0),(7,iV .i64 (if t1431.2>t1427.2 then t1431.2 else t1427.2))],[(0,some (.box 52 (aHist ((⟨0,0,0,0,0,0,[],[]⟩:THist)))))],0⟩) (by kernel_rfl) ?_
  refine AWp.ret ?_
  obtain rfl:=Option.some.inj H
  exact Exists.intro _ (And.intro (fun _ _ h=>h) (And.intro (.inl rfl) (And.intro rfl (And.intro (by kernel_rfl) (by kernel_rfl)))))
 ·replace H:=(ifF c1433).symm.trans H
  refine AWp.skip ?_
  refine AWp.seq ?_
  refine AWp.seq ?_
  refine AWp.conv (inv:=[(0,0),(1,1)]) (vk:=[2,3]) (e0:=[]) (t:=⟨[(3,.ptr 0 0 0),(6,.ptr 1 0 0),(8,iV .i64 (if t1431.2>t1427.2 then t1431.2 else t1427.2)),(27,bV ((if t1431.2>t1427.2 then t1431.2 else t1427.2) != (0:Int)))],[(0,some (.box 52 (aHist ⟨a0.f0,a0.f1,a0.f2,a0.f3,a0.f4,a0.f5,t1427.1,t1431.1⟩))),(1,some (.box 52 [iV .i64 0,iV .i64 0,iV .i64 0,iV .u64 0,iV .u64 0,iV .i64 0,.none0,.none0]))],0⟩) (by kernel_rfl) ?_
  obtain⟨t1513,e1514,H⟩:=bind_of H
  refine reg hP hn hm [(7,.more (xFz (.app 4 ([(⟨0,a0.f3⟩:TBucket)].map eBucket)))),(8,.app 5 ([t1427.1,t1431.1,[(⟨0,a0.f3⟩:TBucket)]].map (encRow eBucket))),(9,.call [] [] [5] [] 0 (.tup [iV .u64 t1513.1,iV .i64 t1513.2]) [])] [3,6,8] [0,1] ⟨[(3,.ptr 0 0 0),(6,.ptr 1 0 0),(8,iV .i64 t1513.2)],[(0,some (.box 52 (aHist ⟨a0.f0,a0.f1,a0.f2,a0.f3,t1513.1,a0.f5,t1427.1,t1431.1⟩))),(1,some (.box 52 [iV .i64 0,iV .i64 0,iV .i64 0,iV .u64 0,iV .u64 0,iV .i64 0,.none0,.none0]))],0⟩ [[(⟨0,a0.f3⟩:TBucket)].map eBucket=[[iI .i64 0,iI .u64 a0.f3]],[t1427.1,t1431.1,[(⟨0,a0.f3⟩:TBucket)]].map (encRow eBucket)=[[.row (t1427.1.map eBucket)],[.row (t1431.1.map eBucket)],[.row ([(⟨0,a0.f3⟩:TBucket)].map eBucket)]],Enters Try.prog 120,Pv.Fn Try.prog 120 [.im (.row ([t1427.1,t1431.1,[(⟨0,a0.f3⟩:TBucket)]].map (encRow eBucket)))] [] 0 (fun r o=>r = .tup [iV .u64 t1513.1,iV .i64 t1513.2]∧o=[])] (by kernel_rfl) ⟨by exact rfl,by exact rfl,by exact Try.call120,by exact f_hist_total.ok [t1427.1,t1431.1,[(⟨0,a0.f3⟩:TBucket)]] t1513 e1514,trivial⟩ ?_
  refine AWp.seq ?_
  refine reg hP hn hm [] [3,6,8,45] [0,1] ⟨[(3,.ptr 0 0 0),(6,.ptr 1 0 0),(8,iV .i64 t1513.2),(45,bV (t1513.2 != (0:Int)))],[(0,some (.box 52 (aHist ⟨a0.f0,a0.f1,a0.f2,a0.f3,t1513.1,a0.f5,t1427.1,t1431.1⟩))),(1,some (.box 52 [iV .i64 0,iV .i64 0,iV .i64 0,iV .u64 0,iV .u64 0,iV .i64 0,.none0,.none0]))],0⟩ [] (by kernel_rfl) trivial ?_
  refine AWp.cond (t1513.2 != (0:Int)) rfl (fun c1515 => ?_) (fun c1515 => ?_)
  ·replace H:=(ifT c1515).symm.trans H
   refine AWp.seq ?_
   refine reg hP hn hm [] [6,7] [1] ⟨[(6,.ptr 1 0 0),(7,iV .i64 t1513.2)],[(1,some (.box 52 [iV .i64 0,iV .i64 0,iV .i64 0,iV .u64 0,iV .u64 0,iV .i64 0,.none0,.none0]))],0⟩ [] (by kernel_rfl) trivial ?_
   refine AWp.conv (inv:=[(1,0)]) (vk:=[]) (e0:=[]) (t:=⟨[(6,.ptr 0 0 0),(7,iV .i64 t1513.2)],[(0,some (.box 52 (aHist ((⟨0,0,0,0,0,0,[],[]⟩:THist)))))],0⟩) (by kernel_rfl) ?_
   refine AWp.ret ?_
   obtain rfl:=Option.some.inj H
   exact Exists.intro _ (And.intro (fun _ _ h=>h) (And.intro (.inl rfl) (And.intro rfl (And.intro (by kernel_rfl) (by kernel_rfl)))))
  ·replace H:=(ifF c1515).symm.trans H
   refine AWp.skip ?_
   refine AWp.seq ?_
   refine AWp.seq ?_
   obtain⟨t1616,e1617,H⟩:=bind_of H
   refine reg hP hn hm [(1,.call [] [] [] [] 0 (iV .i64 t1616) [])] [3,6,10] [0,1] ⟨[(3,.ptr 0 0 0),(6,.ptr 1 0 0),(10,iV .i64 t1616)],[(0,some (.box 52 (aHist ⟨a0.f0,a0.f1,a0.f2,a0.f3,t1513.1,a0.f5,t1427.1,t1431.1⟩))),(1,some (.box 52 [iV .i64 0,iV .i64 0,iV .i64 0,iV .u64 0,iV .u64 0,iV .i64 0,.none0,.none0]))],0⟩ [Enters Try.prog 121,Pv.Fn Try.prog 121 [.agg (aHist ⟨a0.f0,a0.f1,a0.f2,a0.f3,t1513.1,a0.f5,t1427.1,t1431.1⟩)] [] 0 (fun r o=>r=iV .i64 t1616∧o=[])] (by kernel_rfl) ⟨by exact Try.call121,by exact f_hist_Check.ok (⟨a0.f0,a0.f1,a0.f2,a0.f3,t1513.1,a0.f5,t1427.1,t1431.1⟩:THist) t1616 e1617,trivial⟩ ?_
   refine AWp.seq ?_
   refine reg hP hn hm [] [3,6,10,51] [0,1] ⟨[(3,.ptr 0 0 0),(6,.ptr 1 0 0),(10,iV .i64 t1616),(51,bV (t1616 != (0:Int)))],[(0,some (.box 52 (aHist ⟨a0.f0,a0.f1,a0.f2,a0.f3,t1513.1,a0.f5,t1427.1,t1431.1⟩))),(1,some (.box 52 [iV .i64 0,iV .i64 0,iV .i64 0,iV .u64 0,iV .u64 0,iV .i64 0,.none0,.none0]))],0⟩ [] (by kernel_rfl) trivial ?_
   refine AWp.cond (t1616 != (0:Int)) rfl (fun c1618 => ?_) (fun c1618 => ?_)
   ·replace H:=(ifT c1618).symm.trans H
    refine AWp.seq ?_
    refine reg hP hn hm [] [6,7] [1] ⟨[(6,.ptr 1 0 0),(7,iV .i64 t1616)],[(1,some (.box 52 [iV .i64 0,iV .i64 0,iV .i64 0,iV .u64 0,iV .u64 0,iV .i64 0,.none0,.none0]))],0⟩ [] (by kernel_rfl) trivial ?_
    refine AWp.conv (inv:=[(1,0)]) (vk:=[]) (e0:=[]) (t:=⟨[(6,.ptr 0 0 0),(7,iV .i64 t1616)],[(0,some (.box 52 (aHist ((⟨0,0,0,0,0,0,[],[]⟩:THist)))))],0⟩) (by kernel_rfl) ?_
    refine AWp.ret ?_
    obtain rfl:=Option.some.inj H
    exact Exists.intro _ (And.intro (fun _ _ h=>h) (And.intro (.inl rfl) (And.intro rfl (And.intro (by kernel_rfl) (by kernel_rfl)))))
   ·replace H:=(ifF c1618).symm.trans H
    refine AWp.skip ?_
    refine AWp.seq ?_
    refine reg hP hn hm [] [6,7] [1] ⟨[(6,.ptr 1 0 0),(7,iV .i64 0)],[(1,some (.box 52 (aHist ⟨a0.f0,a0.f1,a0.f2,a0.f3,t1513.1,a0.f5,t1427.1,t1431.1⟩)))],0⟩ [] (by kernel_rfl) trivial ?_
    refine AWp.conv (inv:=[(1,0)]) (vk:=[]) (e0:=[]) (t:=⟨[(6,.ptr 0 0 0),(7,iV .i64 0)],[(0,some (.box 52 (aHist ((⟨a0.f0,a0.f1,a0.f2,a0.f3,t1513.1,a0.f5,t1427.1,t1431.1⟩:THist)))))],0⟩) (by kernel_rfl) ?_
    refine AWp.ret ?_
    obtain rfl:=Option.some.inj H
    exact Exists.intro _ (And.intro (fun _ _ h=>h) (And.intro (.inl rfl) (And.intro rfl (And.intro (by kernel_rfl) (by kernel_rfl)))))
def f_meld_swallow.f (a0:THist) (a1:List TBucket) (a2:List TBucket) (a3:Int):Option (THist×Int):=(f_meld_edge.f a0 a1 a3)>>=fun t657=>(f_meld_edge.f a0 a2 a3)>>=fun t659=>(f_meld_swallow_1_8ce.f a1 a0.f0 a0.f1 a0.f2 a0.f3 a0.f4 a0.f5 a0.f6 a0.f7 (if t659>t657 then t659 else t657))>>=fun t739=>(f_meld_swallow_1_8ce.f a2 a0.f0 a0.f1 a0.f2 t739.2 a0.f4 a0.f5 a0.f6 a0.f7 (if t659>t657 then t659 else t657))>>=fun t741=>(f_hist_Make.f (⟨a0.f0,a0.f1,(if t659>t657 then t659 else t657),t741.2,a0.f4,a0.f5,a0.f6,a0.f7⟩:THist) t739.1 t741.1)>>=fun t1623=>some ((t1623.1),t1623.2)
theorem f_meld_swallow.ok (a0:THist) (a1:List TBucket) (a2:List TBucket) (a3:Int) (r:THist×Int) (H:f_meld_swallow.f a0 a1 a2 a3=some r):Pv.Fn Try.prog 131 [.agg (aHist a0),.im (.row (a1.map eBucket)),.im (.row (a2.map eBucket)),iV .i64 a3] [] 0 (fun x o=>x = .tup [.agg (aHist (r.1)),iV .i64 r.2]∧o=[]):=by
 unfold f_meld_swallow.f at H
 refine Fn.bodyK [] Try.func131 rfl rfl (fun Γ hP hn => ?_)
 have hm:Try.prog.follows .mixedOrders=true:=by kernel_rfl
 replace hn:Γ.n=35:=hn
 refine AWp.seq ?_
 refine reg hP hn hm [(0,.k 0),(1,.k 1),(2,.k 2)] [1,2,4,7,8] [0,1,2] ⟨[(1,.im (.row (a1.map eBucket))),(2,.im (.row (a2.map eBucket))),(4,.ptr 0 0 0),(7,.ptr 1 0 0),(8,.ptr 2 0 0)],[(0,some (.box 52 (aHist a0))),(1,some (.box 3 [iV .i64 a3])),(2,some (.box 52 [iV .i64 0,iV .i64 0,iV .i64 0,iV .u64 0,iV .u64 0,iV .i64 0,.none0,.none0]))],0⟩ [] (by kernel_rfl) trivial ?_
 refine AWp.seq ?_
 obtain⟨t657,e658,H⟩:=bind_of H
 obtain⟨t659,e660,H⟩:=bind_of H
 refine reg hP hn hm [(3,.call [] [] [] [] 0 (iV .i64 t657) []),(7,.call [] [] [] [] 0 (iV .i64 t659) []),(8,.more xMax)] [1,2,4,7,8] [0,1,2] ⟨[(1,.im (.row (a1.map eBucket))),(2,.im (.row (a2.map eBucket))),(4,.ptr 0 0 0),(7,.ptr 1 0 0),(8,.ptr 2 0 0)],[(0,some (.box 52 (aHist a0))),(1,some (.box 3 [iV .i64 (if t659>t657 then t659 else t657)])),(2,some (.box 52 [iV .i64 0,iV .i64 0,iV .i64 0,iV .u64 0,iV .u64 0,iV .i64 0,.none0,.none0]))],0⟩ [Enters Try.prog 137,Pv.Fn Try.prog 137 [.agg (aHist a0),.im (.row (a1.map eBucket)),iV .i64 a3] [] 0 (fun r o=>r=iV .i64 t657∧o=[]),Enters Try.prog 137,Pv.Fn Try.prog 137 [.agg (aHist a0),.im (.row (a2.map eBucket)),iV .i64 a3] [] 0 (fun r o=>r=iV .i64 t659∧o=[])] (by kernel_rfl) ⟨by exact Try.call137,by exact f_meld_edge.ok a0 a1 a3 t657 e658,by exact Try.call137,by exact f_meld_edge.ok a0 a2 a3 t659 e660,trivial⟩ ?_
 refine AWp.seq ?_
 refine reg hP hn hm [(0,.more xFunc)] [1,2,4,7,8,10] [0,1,2] ⟨[(1,.im (.row (a1.map eBucket))),(2,.im (.row (a2.map eBucket))),(4,.ptr 0 0 0),(7,.ptr 1 0 0),(8,.ptr 2 0 0),(10,.fn 138 [.ptr 0 0 0,.ptr 1 0 0])],[(0,some (.box 52 (aHist a0))),(1,some (.box 3 [iV .i64 (if t659>t657 then t659 else t657)])),(2,some (.box 52 [iV .i64 0,iV .i64 0,iV .i64 0,iV .u64 0,iV .u64 0,iV .i64 0,.none0,.none0]))],0⟩ [] (by kernel_rfl) trivial ?_
 refine AWp.seq ?_
 obtain⟨t739,e740,H⟩:=bind_of H
 obtain⟨t741,e742,H⟩:=bind_of H
 refine reg hP hn hm [(2,.call [(0,0),(1,1)] [(0,0),(1,1),(2,3)] [] [3] 2 (.own 2) [(0,some (.box 52 (aHist ⟨a0.f0,a0.f1,a0.f2,t739.2,a0.f4,a0.f5,a0.f6,a0.f7⟩))),(1,some (.box 3 [iV .i64 (if t659>t657 then t659 else t657)])),(2,some (.row 2 116 (t739.1.map eBucket)))]),(5,.call [(0,0),(1,1)] [(0,0),(1,1),(2,4)] [] [4] 2 (.own 2) [(0,some (.box 52 (aHist ⟨a0.f0,a0.f1,a0.f2,t741.2,a0.f4,a0.f5,a0.f6,a0.f7⟩))),(1,some (.box 3 [iV .i64 (if t659>t657 then t659 else t657)])),(2,some (.row 2 116 (t741.1.map eBucket)))])] [1,2,4,7,8] [0,1,2,3,4] ⟨[(1,.own 3),(2,.own 4),(4,.ptr 0 0 0),(7,.ptr 1 0 0),(8,.ptr 2 0 0)],[(0,some (.box 52 (aHist ⟨a0.f0,a0.f1,a0.f2,t741.2,a0.f4,a0.f5,a0.f6,a0.f7⟩))),(1,some (.box 3 [iV .i64 (if t659>t657 then t659 else t657)])),(2,some (.box 52 [iV .i64 0,iV .i64 0,iV .i64 0,iV .u64 0,iV .u64 0,iV .i64 0,.none0,.none0])),(3,some (.row 2 116 (t739.1.map eBucket))),(4,some (.row 2 116 (t741.1.map eBucket)))],0⟩ [Enters Try.prog 138,Pv.Fn Try.prog 138 [.im (.row (a1.map eBucket)),.ptr 0 0 0,.ptr 1 0 0] [(0,some (.box 52 (aHist a0))),(1,some (.box 3 [iV .i64 (if t659>t657 then t659 else t657)]))] 2 (fun r o=>r = .own 2∧o=[(0,some (.box 52 (aHist ⟨a0.f0,a0.f1,a0.f2,t739.2,a0.f4,a0.f5,a0.f6,a0.f7⟩))),(1,some (.box 3 [iV .i64 (if t659>t657 then t659 else t657)])),(2,some (.row 2 116 (t739.1.map eBucket)))]),Enters Try.prog 138,Pv.Fn Try.prog 138 [.im (.row (a2.map eBucket)),.ptr 0 0 0,.ptr 1 0 0] [(0,some (.box 52 (aHist ⟨a0.f0,a0.f1,a0.f2,t739.2,a0.f4,a0.f5,a0.f6,a0.f7⟩))),(1,some (.box 3 [iV .i64 (if t659>t657 then t659 else t657)]))] 2 (fun r o=>r = .own 2∧o=[(0,some (.box 52 (aHist ⟨a0.f0,a0.f1,a0.f2,t741.2,a0.f4,a0.f5,a0.f6,a0.f7⟩))),(1,some (.box 3 [iV .i64 (if t659>t657 then t659 else t657)])),(2,some (.row 2 116 (t741.1.map eBucket)))])] (by kernel_rfl) ⟨by exact Try.call138,by exact f_meld_swallow_1_8ce.ok a1 a0.f0 a0.f1 a0.f2 a0.f3 a0.f4 a0.f5 a0.f6 a0.f7 (if t659>t657 then t659 else t657) t739 e740,by exact Try.call138,by exact f_meld_swallow_1_8ce.ok a2 a0.f0 a0.f1 a0.f2 t739.2 a0.f4 a0.f5 a0.f6 a0.f7 (if t659>t657 then t659 else t657) t741 e742,trivial⟩ ?_
 refine AWp.seq ?_
 refine reg hP hn hm [] [1,2,4,8] [0,2,3,4] ⟨[(1,.own 3),(2,.own 4),(4,.ptr 0 0 0),(8,.ptr 2 0 0)],[(0,some (.box 52 (aHist ⟨a0.f0,a0.f1,(if t659>t657 then t659 else t657),t741.2,a0.f4,a0.f5,a0.f6,a0.f7⟩))),(2,some (.box 52 [iV .i64 0,iV .i64 0,iV .i64 0,iV .u64 0,iV .u64 0,iV .i64 0,.none0,.none0])),(3,some (.row 2 116 (t739.1.map eBucket))),(4,some (.row 2 116 (t741.1.map eBucket)))],0⟩ [] (by kernel_rfl) trivial ?_
 refine AWp.seq ?_
 refine AWp.conv (inv:=[(2,2),(0,0)]) (vk:=[3,4]) (e0:=[]) (t:=⟨[(1,.im (.row (t739.1.map eBucket))),(2,.im (.row (t741.1.map eBucket))),(4,.ptr 0 0 0),(8,.ptr 2 0 0)],[(0,some (.box 52 (aHist ⟨a0.f0,a0.f1,(if t659>t657 then t659 else t657),t741.2,a0.f4,a0.f5,a0.f6,a0.f7⟩))),(2,some (.box 52 [iV .i64 0,iV .i64 0,iV .i64 0,iV .u64 0,iV .u64 0,iV .i64 0,.none0,.none0]))],0⟩) (by kernel_rfl) ?_
 obtain⟨t1623,e1624,H⟩:=bind_of H
 refine reg hP hn hm [(3,.call [] [] [] [] 0 (.tup [.agg (aHist (t1623.1)),iV .i64 t1623.2]) [])] [8,9] [2] ⟨[(8,.ptr 2 0 0),(9,iV .i64 t1623.2)],[(2,some (.box 52 (aHist (t1623.1))))],0⟩ [Enters Try.prog 96,Pv.Fn Try.prog 96 [.agg (aHist ⟨a0.f0,a0.f1,(if t659>t657 then t659 else t657),t741.2,a0.f4,a0.f5,a0.f6,a0.f7⟩),.im (.row (t739.1.map eBucket)),.im (.row (t741.1.map eBucket))] [] 0 (fun r o=>r = .tup [.agg (aHist (t1623.1)),iV .i64 t1623.2]∧o=[])] (by kernel_rfl) ⟨by exact Try.call96,by exact f_hist_Make.ok (⟨a0.f0,a0.f1,(if t659>t657 then t659 else t657),t741.2,a0.f4,a0.f5,a0.f6,a0.f7⟩:THist) t739.1 t741.1 t1623 e1624,trivial⟩ ?_
 refine AWp.conv (inv:=[(2,0)]) (vk:=[]) (e0:=[]) (t:=⟨[(8,.ptr 0 0 0),(9,iV .i64 t1623.2)],[(0,some (.box 52 (aHist ((t1623.1)))))],0⟩) (by kernel_rfl) ?_
 refine AWp.ret ?_
 obtain rfl:=Option.some.inj H
 exact Exists.intro _ (And.intro (fun _ _ h=>h) (And.intro (.inl rfl) (And.intro rfl (And.intro (by kernel_rfl) (by kernel_rfl)))))
def f_meld_Down.f (a0:THist) (a1:Int):Option (THist×Int):=(((f_bound_Right.f a1)>>=fun t482=>if(!t482)=true then(some true) else(some (decide (a1>a0.f1)))):Option (Bool))>>=fun x485=>if x485=true then(some ((⟨0,0,0,0,0,0,[],[]⟩:THist),20)) else((f_meld_down.f a0.f6 a0.f1 a1)>>=fun t583=>(f_meld_down.f a0.f7 a0.f1 a1)>>=fun t585=>(f_meld_swallow.f (⟨a0.f0,a1,a0.f2,a0.f3,a0.f4,a0.f5,a0.f6,a0.f7⟩:THist) t583 t585 a0.f2)>>=fun t1629=>some ((t1629.1),t1629.2))
theorem f_meld_Down.ok (a0:THist) (a1:Int) (r:THist×Int) (H:f_meld_Down.f a0 a1=some r):Pv.Fn Try.prog 117 [.agg (aHist a0),iV .i64 a1] [] 0 (fun x o=>x = .tup [.agg (aHist (r.1)),iV .i64 r.2]∧o=[]):=by
 unfold f_meld_Down.f at H
 refine Fn.bodyK [] Try.func117 rfl rfl (fun Γ hP hn => ?_)
 have hm:Try.prog.follows .mixedOrders=true:=by kernel_rfl
 replace hn:Γ.n=41:=hn
 refine AWp.seq ?_
 refine reg hP hn hm [(0,.k 0),(1,.k 1)] [1,2,4] [0,1] ⟨[(1,iV .i64 a1),(2,.ptr 0 0 0),(4,.ptr 1 0 0)],[(0,some (.box 52 (aHist a0))),(1,some (.box 52 [iV .i64 0,iV .i64 0,iV .i64 0,iV .u64 0,iV .u64 0,iV .i64 0,.none0,.none0]))],0⟩ [] (by kernel_rfl) trivial ?_
 refine AWp.seq ?_
 refine AWp.seq ?_
 obtain⟨o1631,e1632,H⟩:=bind_of H
 refine AWp.mono (Q:=fun e s=>(match (generalizing:=false) o1631 with | x485=>e = .normal∧s=⟨[(1,iV .i64 a1),(2,.ptr 2 0 0),(4,.ptr 3 0 0),(17,bV x485)],[(2,some (.box 52 (aHist a0))),(3,some (.box 52 [iV .i64 0,iV .i64 0,iV .i64 0,iV .u64 0,iV .u64 0,iV .i64 0,.none0,.none0]))],0⟩)) (AWp.cv ?_) ?_
 ·replace H:=e1632;clear e1632
  obtain⟨t482,e483,H⟩:=bind_of H
  rcases Bool.eq_false_or_eq_true (!t482) with c484 | c484
  ·replace H:=(ifT c484).symm.trans H
   refine reg hP hn hm [(1,.call [] [] [] [] 0 (bV t482) []),(3,.b true)] [1,2,4,17] [0,1] ⟨[(1,iV .i64 a1),(2,.ptr 0 0 0),(4,.ptr 1 0 0),(17,bV true)],[(0,some (.box 52 (aHist a0))),(1,some (.box 52 [iV .i64 0,iV .i64 0,iV .i64 0,iV .u64 0,iV .u64 0,iV .i64 0,.none0,.none0]))],0⟩ [Enters Try.prog 128,Pv.Fn Try.prog 128 [iV .i64 a1] [] 0 (fun r o=>r=bV t482∧o=[]),(!t482)=true] (by kernel_rfl) ⟨by exact Try.call128,by exact f_bound_Right.ok a1 t482 e483,by exact c484,trivial⟩ ?_
   obtain rfl:=Option.some.inj H
   exact Exists.intro _ (And.intro (fun _ _ h=>h.conv (inv:=[(0,2),(1,3)]) (vk:=[]) (e0:=[]) (t:=⟨[(1,iV .i64 a1),(2,.ptr 2 0 0),(4,.ptr 3 0 0),(17,bV true)],[(2,some (.box 52 (aHist a0))),(3,some (.box 52 [iV .i64 0,iV .i64 0,iV .i64 0,iV .u64 0,iV .u64 0,iV .i64 0,.none0,.none0]))],0⟩) (by kernel_rfl)) (And.intro rfl rfl))
  ·replace H:=(ifF c484).symm.trans H
   refine reg hP hn hm [(1,.call [] [] [] [] 0 (bV t482) []),(3,.b false)] [1,2,4,17] [0,1] ⟨[(1,iV .i64 a1),(2,.ptr 0 0 0),(4,.ptr 1 0 0),(17,bV (decide (a1>a0.f1)))],[(0,some (.box 52 (aHist a0))),(1,some (.box 52 [iV .i64 0,iV .i64 0,iV .i64 0,iV .u64 0,iV .u64 0,iV .i64 0,.none0,.none0]))],0⟩ [Enters Try.prog 128,Pv.Fn Try.prog 128 [iV .i64 a1] [] 0 (fun r o=>r=bV t482∧o=[]),(!t482)=false] (by kernel_rfl) ⟨by exact Try.call128,by exact f_bound_Right.ok a1 t482 e483,by exact c484,trivial⟩ ?_
   obtain rfl:=Option.some.inj H
   exact Exists.intro _ (And.intro (fun _ _ h=>h.conv (inv:=[(0,2),(1,3)]) (vk:=[]) (e0:=[]) (t:=⟨[(1,iV .i64 a1),(2,.ptr 2 0 0),(4,.ptr 3 0 0),(17,bV (decide (a1>a0.f1)))],[(2,some (.box 52 (aHist a0))),(3,some (.box 52 [iV .i64 0,iV .i64 0,iV .i64 0,iV .u64 0,iV .u64 0,iV .i64 0,.none0,.none0]))],0⟩) (by kernel_rfl)) (And.intro rfl rfl))
 ·obtain⟨x485,rfl⟩:∃ z,z=o1631:=⟨_,rfl⟩
  rintro e s ⟨rfl,rfl⟩
  refine AWp.cond x485 rfl (fun c486 => ?_) (fun c486 => ?_)
  ·replace H:=(ifT c486).symm.trans H
   refine AWp.seq ?_
   refine reg hP hn hm [] [4,5] [3] ⟨[(4,.ptr 3 0 0),(5,iV .i64 20)],[(3,some (.box 52 [iV .i64 0,iV .i64 0,iV .i64 0,iV .u64 0,iV .u64 0,iV .i64 0,.none0,.none0]))],0⟩ [] (by kernel_rfl) trivial ?_
   refine AWp.conv (inv:=[(3,0)]) (vk:=[]) (e0:=[]) (t:=⟨[(4,.ptr 0 0 0),(5,iV .i64 20)],[(0,some (.box 52 (aHist ((⟨0,0,0,0,0,0,[],[]⟩:THist)))))],0⟩) (by kernel_rfl) ?_
   refine AWp.ret ?_
   obtain rfl:=Option.some.inj H
   exact Exists.intro _ (And.intro (fun _ _ h=>h) (And.intro (.inl rfl) (And.intro rfl (And.intro (by kernel_rfl) (by kernel_rfl)))))
  ·replace H:=(ifF c486).symm.trans H
   refine AWp.skip ?_
   refine AWp.seq ?_
   refine reg hP hn hm [] [1,2,4,6] [2,3] ⟨[(1,iV .i64 a1),(2,.ptr 2 0 0),(4,.ptr 3 0 0),(6,iV .i64 a0.f1)],[(2,some (.box 52 (aHist a0))),(3,some (.box 52 [iV .i64 0,iV .i64 0,iV .i64 0,iV .u64 0,iV .u64 0,iV .i64 0,.none0,.none0]))],0⟩ [] (by kernel_rfl) trivial ?_
   refine AWp.seq ?_
   refine reg hP hn hm [] [1,2,4,6] [2,3] ⟨[(1,iV .i64 a1),(2,.ptr 2 0 0),(4,.ptr 3 0 0),(6,iV .i64 a0.f1)],[(2,some (.box 52 (aHist ⟨a0.f0,a1,a0.f2,a0.f3,a0.f4,a0.f5,a0.f6,a0.f7⟩))),(3,some (.box 52 [iV .i64 0,iV .i64 0,iV .i64 0,iV .u64 0,iV .u64 0,iV .i64 0,.none0,.none0]))],0⟩ [] (by kernel_rfl) trivial ?_
   refine AWp.seq ?_
   obtain⟨t583,e584,H⟩:=bind_of H
   obtain⟨t585,e586,H⟩:=bind_of H
   refine reg hP hn hm [(4,.call [] [(0,4)] [] [4] 0 (.own 0) [(0,some (.row 2 116 (t583.map eBucket)))]),(9,.call [] [(0,5)] [] [5] 0 (.own 0) [(0,some (.row 2 116 (t585.map eBucket)))])] [2,4,7,8] [2,3,4,5] ⟨[(2,.ptr 2 0 0),(4,.ptr 3 0 0),(7,.own 4),(8,.own 5)],[(2,some (.box 52 (aHist ⟨a0.f0,a1,a0.f2,a0.f3,a0.f4,a0.f5,a0.f6,a0.f7⟩))),(3,some (.box 52 [iV .i64 0,iV .i64 0,iV .i64 0,iV .u64 0,iV .u64 0,iV .i64 0,.none0,.none0])),(4,some (.row 2 116 (t583.map eBucket))),(5,some (.row 2 116 (t585.map eBucket)))],0⟩ [Enters Try.prog 130,Pv.Fn Try.prog 130 [.im (.row (a0.f6.map eBucket)),iV .i64 a0.f1,iV .i64 a1] [] 0 (fun r o=>r = .own 0∧o=[(0,some (.row 2 116 (t583.map eBucket)))]),Enters Try.prog 130,Pv.Fn Try.prog 130 [.im (.row (a0.f7.map eBucket)),iV .i64 a0.f1,iV .i64 a1] [] 0 (fun r o=>r = .own 0∧o=[(0,some (.row 2 116 (t585.map eBucket)))])] (by kernel_rfl) ⟨by exact Try.call130,by exact f_meld_down.ok a0.f6 a0.f1 a1 t583 e584,by exact Try.call130,by exact f_meld_down.ok a0.f7 a0.f1 a1 t585 e586,trivial⟩ ?_
   refine AWp.seq ?_
   refine AWp.conv (inv:=[(2,2),(3,3)]) (vk:=[4,5]) (e0:=[]) (t:=⟨[(2,.ptr 2 0 0),(4,.ptr 3 0 0),(7,.im (.row (t583.map eBucket))),(8,.im (.row (t585.map eBucket)))],[(2,some (.box 52 (aHist ⟨a0.f0,a1,a0.f2,a0.f3,a0.f4,a0.f5,a0.f6,a0.f7⟩))),(3,some (.box 52 [iV .i64 0,iV .i64 0,iV .i64 0,iV .u64 0,iV .u64 0,iV .i64 0,.none0,.none0]))],0⟩) (by kernel_rfl) ?_
   obtain⟨t1629,e1630,H⟩:=bind_of H
   refine reg hP hn hm [(5,.call [] [] [] [] 0 (.tup [.agg (aHist (t1629.1)),iV .i64 t1629.2]) [])] [4,5] [3] ⟨[(4,.ptr 3 0 0),(5,iV .i64 t1629.2)],[(3,some (.box 52 (aHist (t1629.1))))],0⟩ [Enters Try.prog 131,Pv.Fn Try.prog 131 [.agg (aHist ⟨a0.f0,a1,a0.f2,a0.f3,a0.f4,a0.f5,a0.f6,a0.f7⟩),.im (.row (t583.map eBucket)),.im (.row (t585.map eBucket)),iV .i64 a0.f2] [] 0 (fun r o=>r = .tup [.agg (aHist (t1629.1)),iV .i64 t1629.2]∧o=[])] (by kernel_rfl) ⟨by exact Try.call131,by exact f_meld_swallow.ok (⟨a0.f0,a1,a0.f2,a0.f3,a0.f4,a0.f5,a0.f6,a0.f7⟩:THist) t583 t585 a0.f2 t1629 e1630,trivial⟩ ?_
   refine AWp.conv (inv:=[(3,0)]) (vk:=[]) (e0:=[]) (t:=⟨[(4,.ptr 0 0 0),(5,iV .i64 t1629.2)],[(0,some (.box 52 (aHist ((t1629.1)))))],0⟩) (by kernel_rfl) ?_
   refine AWp.ret ?_
   obtain rfl:=Option.some.inj H
   exact Exists.intro _ (And.intro (fun _ _ h=>h) (And.intro (.inl rfl) (And.intro rfl (And.intro (by kernel_rfl) (by kernel_rfl)))))
def f_hist_Clone.f (a0:THist):Option (THist):=(f_slices_Clone_api_Bucket.f a0.f6)>>=fun t1649=>(f_slices_Clone_api_Bucket.f a0.f7)>>=fun t1651=>some (⟨a0.f0,a0.f1,a0.f2,a0.f3,a0.f4,a0.f5,t1649,t1651⟩:THist)
theorem f_hist_Clone.ok (a0:THist) (r:THist) (H:f_hist_Clone.f a0=some r):Pv.Fn Try.prog 44 [.agg (aHist a0)] [] 0 (fun x o=>x = .agg [iV .i64 ((r).f0),iV .i64 ((r).f1),iV .i64 ((r).f2),iV .u64 ((r).f3),iV .u64 ((r).f4),iV .i64 ((r).f5),.own 0,.own 1]∧o=[(0,some (.row 2 116 (((r).f6).map eBucket))),(1,some (.row 2 116 (((r).f7).map eBucket)))]):=by
 unfold f_hist_Clone.f at H
 refine Fn.bodyK [0,1] Try.func44 rfl rfl (fun Γ hP hn => ?_)
 have hm:Try.prog.follows .mixedOrders=true:=by kernel_rfl
 replace hn:Γ.n=12:=hn
 refine AWp.seq ?_
 refine reg hP hn hm [(0,.k 0),(1,.k 1)] [1,2] [0,1] ⟨[(1,.ptr 0 0 0),(2,.ptr 1 0 0)],[(0,some (.box 52 (aHist a0))),(1,some (.box 52 [iV .i64 0,iV .i64 0,iV .i64 0,iV .u64 0,iV .u64 0,iV .i64 0,.none0,.none0]))],0⟩ [] (by kernel_rfl) trivial ?_
 refine AWp.seq ?_
 obtain⟨t1649,e1650,H⟩:=bind_of H
 obtain⟨t1651,e1652,H⟩:=bind_of H
 refine reg hP hn hm [(2,.call [] [(0,2)] [] [2] 0 (.own 0) [(0,some (.row 2 116 (t1649.map eBucket)))]),(5,.call [] [(0,3)] [] [3] 0 (.own 0) [(0,some (.row 2 116 (t1651.map eBucket)))])] [1,2] [0,1,2,3] ⟨[(1,.ptr 0 0 0),(2,.ptr 1 0 0)],[(0,some (.box 52 [iV .i64 a0.f0,iV .i64 a0.f1,iV .i64 a0.f2,iV .u64 a0.f3,iV .u64 a0.f4,iV .i64 a0.f5,.own 2,.own 3])),(1,some (.box 52 [iV .i64 0,iV .i64 0,iV .i64 0,iV .u64 0,iV .u64 0,iV .i64 0,.none0,.none0])),(2,some (.row 2 116 (t1649.map eBucket))),(3,some (.row 2 116 (t1651.map eBucket)))],0⟩ [Enters Try.prog 65,Pv.Fn Try.prog 65 [.im (.row (a0.f6.map eBucket))] [] 0 (fun r o=>r = .own 0∧o=[(0,some (.row 2 116 (t1649.map eBucket)))]),Enters Try.prog 65,Pv.Fn Try.prog 65 [.im (.row (a0.f7.map eBucket))] [] 0 (fun r o=>r = .own 0∧o=[(0,some (.row 2 116 (t1651.map eBucket)))])] (by kernel_rfl) ⟨by exact Try.call65,by exact f_slices_Clone_api_Bucket.ok a0.f6 t1649 e1650,by exact Try.call65,by exact f_slices_Clone_api_Bucket.ok a0.f7 t1651 e1652,trivial⟩ ?_
 refine AWp.seq ?_
 refine reg hP hn hm [] [2] [1,2,3] ⟨[(2,.ptr 1 0 0)],[(1,some (.box 52 [iV .i64 a0.f0,iV .i64 a0.f1,iV .i64 a0.f2,iV .u64 a0.f3,iV .u64 a0.f4,iV .i64 a0.f5,.own 2,.own 3])),(2,some (.row 2 116 (t1649.map eBucket))),(3,some (.row 2 116 (t1651.map eBucket)))],0⟩ [] (by kernel_rfl) trivial ?_
 refine AWp.conv (inv:=[(1,2),(2,0),(3,1)]) (vk:=[]) (e0:=[]) (t:=⟨[(2,.ptr 2 0 0)],[(0,some (.row 2 116 ((((⟨a0.f0,a0.f1,a0.f2,a0.f3,a0.f4,a0.f5,t1649,t1651⟩:THist)).f6).map eBucket))),(1,some (.row 2 116 ((((⟨a0.f0,a0.f1,a0.f2,a0.f3,a0.f4,a0.f5,t1649,t1651⟩:THist)).f7).map eBucket))),(2,some (.box 52 [iV .i64 (((⟨a0.f0,a0.f1,a0.f2,a0.f3,a0.f4,a0.f5,t1649,t1651⟩:THist)).f0),iV .i64 (((⟨a0.f0,a0.f1,a0.f2,a0.f3,a0.f4,a0.f5,t1649,t1651⟩:THist)).f1),iV .i64 (((⟨a0.f0,a0.f1,a0.f2,a0.f3,a0.f4,a0.f5,t1649,t1651⟩:THist)).f2),iV .u64 (((⟨a0.f0,a0.f1,a0.f2,a0.f3,a0.f4,a0.f5,t1649,t1651⟩:THist)).f3),iV .u64 (((⟨a0.f0,a0.f1,a0.f2,a0.f3,a0.f4,a0.f5,t1649,t1651⟩:THist)).f4),iV .i64 (((⟨a0.f0,a0.f1,a0.f2,a0.f3,a0.f4,a0.f5,t1649,t1651⟩:THist)).f5),.own 0,.own 1]))],0⟩) (by kernel_rfl) ?_
 refine AWp.ret ?_
 obtain rfl:=Option.some.inj H
 exact Exists.intro _ (And.intro (fun _ _ h=>h) (And.intro (.inl rfl) (And.intro rfl (And.intro (by kernel_rfl) (by kernel_rfl)))))
def f_meld_Widen.f (a0:THist) (a1:Int):Option (THist×Int):=if(decide (a1<a0.f2))=true then(some ((⟨0,0,0,0,0,0,[],[]⟩:THist),31)) else(if(a1==a0.f2)=true then((f_hist_Clone.f a0)>>=fun t1655=>some ((t1655),0)) else(((if(decide (a1≤(-262144)))=true then(some true) else(some (decide (a1>(262144:Int))))):Option (Bool))>>=fun x1659=>if x1659=true then(some ((⟨0,0,0,0,0,0,[],[]⟩:THist),31)) else((f_meld_swallow.f a0 a0.f6 a0.f7 a1)>>=fun t1663=>some ((t1663.1),t1663.2))))
theorem f_meld_Widen.ok (a0:THist) (a1:Int) (r:THist×Int) (H:f_meld_Widen.f a0 a1=some r):Pv.Fn Try.prog 118 [.agg (aHist a0),iV .i64 a1] [] 0 (fun x o=>x = .tup [.agg (aHist (r.1)),iV .i64 r.2]∧o=[]):=by
 unfold f_meld_Widen.f at H
 refine Fn.bodyK [] Try.func118 rfl rfl (fun Γ hP hn => ?_)
 have hm:Try.prog.follows .mixedOrders=true:=by kernel_rfl
 replace hn:Γ.n=36:=hn
 refine AWp.seq ?_
 refine reg hP hn hm [(0,.k 0),(1,.k 1)] [1,2,4] [0,1] ⟨[(1,iV .i64 a1),(2,.ptr 0 0 0),(4,.ptr 1 0 0)],[(0,some (.box 52 (aHist a0))),(1,some (.box 52 [iV .i64 0,iV .i64 0,iV .i64 0,iV .u64 0,iV .u64 0,iV .i64 0,.none0,.none0]))],0⟩ [] (by kernel_rfl) trivial ?_
 refine AWp.seq ?_
 refine AWp.block ?_
 refine AWp.seq ?_
 refine reg hP hn hm [] [1,2,4,6] [0,1] ⟨[(1,iV .i64 a1),(2,.ptr 0 0 0),(4,.ptr 1 0 0),(6,bV (decide (a1<a0.f2)))],[(0,some (.box 52 (aHist a0))),(1,some (.box 52 [iV .i64 0,iV .i64 0,iV .i64 0,iV .u64 0,iV .u64 0,iV .i64 0,.none0,.none0]))],0⟩ [] (by kernel_rfl) trivial ?_
 refine AWp.cond (decide (a1<a0.f2)) rfl (fun c1643 => ?_) (fun c1643 => ?_)
 ·replace H:=(ifT c1643).symm.trans H
  refine AWp.seq ?_
  refine reg hP hn hm [] [4,5] [1] ⟨[(4,.ptr 1 0 0),(5,iV .i64 31)],[(1,some (.box 52 [iV .i64 0,iV .i64 0,iV .i64 0,iV .u64 0,iV .u64 0,iV .i64 0,.none0,.none0]))],0⟩ [] (by kernel_rfl) trivial ?_
  refine AWp.conv (inv:=[(1,0)]) (vk:=[]) (e0:=[]) (t:=⟨[(4,.ptr 0 0 0),(5,iV .i64 31)],[(0,some (.box 52 (aHist ((⟨0,0,0,0,0,0,[],[]⟩:THist)))))],0⟩) (by kernel_rfl) ?_
  refine AWp.ret ?_
  obtain rfl:=Option.some.inj H
  exact Exists.intro _ (And.intro (fun _ _ h=>h) (And.intro (.inl rfl) (And.intro rfl (And.intro (by kernel_rfl) (by kernel_rfl)))))
 ·replace H:=(ifF c1643).symm.trans H
  refine AWp.seq ?_
  refine reg hP hn hm [] [1,2,4,12] [0,1] ⟨[(1,iV .i64 a1),(2,.ptr 0 0 0),(4,.ptr 1 0 0),(12,bV (a1==a0.f2))],[(0,some (.box 52 (aHist a0))),(1,some (.box 52 [iV .i64 0,iV .i64 0,iV .i64 0,iV .u64 0,iV .u64 0,iV .i64 0,.none0,.none0]))],0⟩ [] (by kernel_rfl) trivial ?_
  refine AWp.cond (a1==a0.f2) rfl (fun c1644 => ?_) (fun c1644 => ?_)
  ·replace H:=(ifT c1644).symm.trans H
   refine AWp.seq ?_
   obtain⟨t1655,e1656,H⟩:=bind_of H
   refine reg hP hn hm [(1,.call [] [(0,2),(1,3)] [] [2,3] 0 (.agg [iV .i64 ((t1655).f0),iV .i64 ((t1655).f1),iV .i64 ((t1655).f2),iV .u64 ((t1655).f3),iV .u64 ((t1655).f4),iV .i64 ((t1655).f5),.own 0,.own 1]) [(0,some (.row 2 116 (((t1655).f6).map eBucket))),(1,some (.row 2 116 (((t1655).f7).map eBucket)))])] [4,5] [1,2,3] ⟨[(4,.ptr 1 0 0),(5,iV .i64 0)],[(1,some (.box 52 [iV .i64 ((t1655).f0),iV .i64 ((t1655).f1),iV .i64 ((t1655).f2),iV .u64 ((t1655).f3),iV .u64 ((t1655).f4),iV .i64 ((t1655).f5),.own 2,.own 3])),(2,some (.row 2 116 (((t1655).f6).map eBucket))),(3,some (.row 2 116 (((t1655).f7).map eBucket)))],0⟩ [Enters Try.prog 44,Pv.Fn Try.prog 44 [.agg (aHist a0)] [] 0 (fun r o=>r = .agg [iV .i64 ((t1655).f0),iV .i64 ((t1655).f1),iV .i64 ((t1655).f2),iV .u64 ((t1655).f3),iV .u64 ((t1655).f4),iV .i64 ((t1655).f5),.own 0,.own 1]∧o=[(0,some (.row 2 116 (((t1655).f6).map eBucket))),(1,some (.row 2 116 (((t1655).f7).map eBucket)))])] (by kernel_rfl) ⟨by exact Try.call44,by exact f_hist_Clone.ok a0 t1655 e1656,trivial⟩ ?_
   refine AWp.conv (inv:=[(1,0)]) (vk:=[2,3]) (e0:=[]) (t:=⟨[(4,.ptr 0 0 0),(5,iV .i64 0)],[(0,some (.box 52 (aHist ((t1655)))))],0⟩) (by kernel_rfl) ?_
   refine AWp.ret ?_
   obtain rfl:=Option.some.inj H
   exact Exists.intro _ (And.intro (fun _ _ h=>h) (And.intro (.inl rfl) (And.intro rfl (And.intro (by kernel_rfl) (by kernel_rfl)))))
  ·replace H:=(ifF c1644).symm.trans H
   refine AWp.seq ?_
   obtain⟨o1665,e1666,H⟩:=bind_of H
   refine AWp.mono (Q:=fun e s=>(match (generalizing:=false) o1665 with | x1659=>e = .normal∧s=⟨[(1,iV .i64 a1),(2,.ptr 4 0 0),(4,.ptr 5 0 0),(19,bV x1659)],[(4,some (.box 52 (aHist a0))),(5,some (.box 52 [iV .i64 0,iV .i64 0,iV .i64 0,iV .u64 0,iV .u64 0,iV .i64 0,.none0,.none0]))],0⟩)) (AWp.cv ?_) ?_
   ·replace H:=e1666;clear e1666
    rcases Bool.eq_false_or_eq_true (decide (a1≤(-262144))) with c1658 | c1658
    ·replace H:=(ifT c1658).symm.trans H
     refine reg hP hn hm [(2,.b true)] [1,2,4,19] [0,1] ⟨[(1,iV .i64 a1),(2,.ptr 0 0 0),(4,.ptr 1 0 0),(19,bV true)],[(0,some (.box 52 (aHist a0))),(1,some (.box 52 [iV .i64 0,iV .i64 0,iV .i64 0,iV .u64 0,iV .u64 0,iV .i64 0,.none0,.none0]))],0⟩ [(decide (a1≤(-262144)))=true] (by kernel_rfl) ⟨by exact c1658,trivial⟩ ?_
     obtain rfl:=Option.some.inj H
     exact Exists.intro _ (And.intro (fun _ _ h=>h.conv (inv:=[(0,4),(1,5)]) (vk:=[]) (e0:=[]) (t:=⟨[(1,iV .i64 a1),(2,.ptr 4 0 0),(4,.ptr 5 0 0),(19,bV true)],[(4,some (.box 52 (aHist a0))),(5,some (.box 52 [iV .i64 0,iV .i64 0,iV .i64 0,iV .u64 0,iV .u64 0,iV .i64 0,.none0,.none0]))],0⟩) (by kernel_rfl)) (And.intro rfl rfl))
    ·replace H:=(ifF c1658).symm.trans H
     refine reg hP hn hm [(2,.b false)] [1,2,4,19] [0,1] ⟨[(1,iV .i64 a1),(2,.ptr 0 0 0),(4,.ptr 1 0 0),(19,bV (decide (a1>(262144:Int))))],[(0,some (.box 52 (aHist a0))),(1,some (.box 52 [iV .i64 0,iV .i64 0,iV .i64 0,iV .u64 0,iV .u64 0,iV .i64 0,.none0,.none0]))],0⟩ [(decide (a1≤(-262144)))=false] (by kernel_rfl) ⟨by exact c1658,trivial⟩ ?_
     obtain rfl:=Option.some.inj H
     exact Exists.intro _ (And.intro (fun _ _ h=>h.conv (inv:=[(0,4),(1,5)]) (vk:=[]) (e0:=[]) (t:=⟨[(1,iV .i64 a1),(2,.ptr 4 0 0),(4,.ptr 5 0 0),(19,bV (decide (a1>(262144:Int))))],[(4,some (.box 52 (aHist a0))),(5,some (.box 52 [iV .i64 0,iV .i64 0,iV .i64 0,iV .u64 0,iV .u64 0,iV .i64 0,.none0,.none0]))],0⟩) (by kernel_rfl)) (And.intro rfl rfl))
   ·obtain⟨x1659,rfl⟩:∃ z,z=o1665:=⟨_,rfl⟩
    rintro e s ⟨rfl,rfl⟩
    refine AWp.cond x1659 rfl (fun c1660 => ?_) (fun c1660 => ?_)
    ·replace H:=(ifT c1660).symm.trans H
     refine AWp.seq ?_
     refine reg hP hn hm [] [4,5] [5] ⟨[(4,.ptr 5 0 0),(5,iV .i64 31)],[(5,some (.box 52 [iV .i64 0,iV .i64 0,iV .i64 0,iV .u64 0,iV .u64 0,iV .i64 0,.none0,.none0]))],0⟩ [] (by kernel_rfl) trivial ?_
     refine AWp.conv (inv:=[(5,0)]) (vk:=[]) (e0:=[]) (t:=⟨[(4,.ptr 0 0 0),(5,iV .i64 31)],[(0,some (.box 52 (aHist ((⟨0,0,0,0,0,0,[],[]⟩:THist)))))],0⟩) (by kernel_rfl) ?_
     refine AWp.ret ?_
     obtain rfl:=Option.some.inj H
     exact Exists.intro _ (And.intro (fun _ _ h=>h) (And.intro (.inl rfl) (And.intro rfl (And.intro (by kernel_rfl) (by kernel_rfl)))))
    ·replace H:=(ifF c1660).symm.trans H
     refine AWp.skip ?_
     refine AWp.seq ?_
     obtain⟨t1663,e1664,H⟩:=bind_of H
     refine reg hP hn hm [(6,.call [] [] [] [] 0 (.tup [.agg (aHist (t1663.1)),iV .i64 t1663.2]) [])] [4,5] [5] ⟨[(4,.ptr 5 0 0),(5,iV .i64 t1663.2)],[(5,some (.box 52 (aHist (t1663.1))))],0⟩ [Enters Try.prog 131,Pv.Fn Try.prog 131 [.agg (aHist a0),.im (.row (a0.f6.map eBucket)),.im (.row (a0.f7.map eBucket)),iV .i64 a1] [] 0 (fun r o=>r = .tup [.agg (aHist (t1663.1)),iV .i64 t1663.2]∧o=[])] (by kernel_rfl) ⟨by exact Try.call131,by exact f_meld_swallow.ok a0 a0.f6 a0.f7 a1 t1663 e1664,trivial⟩ ?_
     refine AWp.conv (inv:=[(5,0)]) (vk:=[]) (e0:=[]) (t:=⟨[(4,.ptr 0 0 0),(5,iV .i64 t1663.2)],[(0,some (.box 52 (aHist ((t1663.1)))))],0⟩) (by kernel_rfl) ?_
     refine AWp.ret ?_
     obtain rfl:=Option.some.inj H
     exact Exists.intro _ (And.intro (fun _ _ h=>h) (And.intro (.inl rfl) (And.intro rfl (And.intro (by kernel_rfl) (by kernel_rfl)))))
end Go.Proofs.Ytfkppdcfgmgllaa.PvGD3
