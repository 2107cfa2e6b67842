import Derived.Test.YtbmdealiikoplaaGreatProg
import Derived.Test.YtbmdealiikoplaaGreatPxEvalDoes06
set_option linter.unusedVariables false
set_option linter.unnecessarySimpa false
set_option linter.unusedSimpArgs false
set_option maxRecDepth 10000
namespace Go.Proofs.YtbmdealiikoplaaGreat.PvGJ
open Go Go.Pv Go.IntKind
def f_slices_stableCmpFunc_api_Bucket_hist_tidy_1.l0 (a1:Int) (x938:List TBucket) (x939:Int) (x940:Int):Option ((List TBucket)×Int):=if(decide (x940≤a1))=true then((f_slices_insertionSortCmpFunc_api_Bucket_hist_tidy_1.f x938 x939 x940)>>=fun t944=>f_slices_stableCmpFunc_api_Bucket_hist_tidy_1.l0 a1 t944 x940 (i64.wrap (x940+(20:Int)))) else(some (x938,x939))
partial_fixpoint
def f_slices_stableCmpFunc_api_Bucket_hist_tidy_1.l2 (a1:Int) (x1330:Int) (x1337:List TBucket) (x1338:Int) (x1339:Int):Option ((List TBucket)×Int):=if(decide (x1339≤a1))=true then((f_slices_symMergeCmpFunc_api_Bucket_hist_tidy_1.f x1337 x1338 (i64.wrap (x1338+x1330)) x1339)>>=fun t1343=>f_slices_stableCmpFunc_api_Bucket_hist_tidy_1.l2 a1 x1330 t1343 x1339 (i64.wrap (x1339+(i64.wrap ((2:Int)*x1330))))) else(some (x1337,x1338))
partial_fixpoint
def f_slices_stableCmpFunc_api_Bucket_hist_tidy_1.l1 (a1:Int) (x1329:List TBucket) (x1330:Int):Option (List TBucket):=if(decide (x1330<a1))=true then((f_slices_stableCmpFunc_api_Bucket_hist_tidy_1.l2 a1 x1330 x1329 0 (i64.wrap ((2:Int)*x1330)))>>=fun oo=>match oo with | (x1345,x1346)=>(((if(decide ((i64.wrap (x1346+x1330))<a1))=true then((f_slices_symMergeCmpFunc_api_Bucket_hist_tidy_1.f x1345 x1346 (i64.wrap (x1346+x1330)) a1)>>=fun t1350=>some t1350) else(some x1345)):Option (List TBucket))>>=fun x1352=>f_slices_stableCmpFunc_api_Bucket_hist_tidy_1.l1 a1 x1352 (i64.wrap (x1330*(2:Int))))) else(some x1329)
partial_fixpoint
def f_slices_stableCmpFunc_api_Bucket_hist_tidy_1.f (a0:List TBucket) (a1:Int):Option (List TBucket):=(f_slices_stableCmpFunc_api_Bucket_hist_tidy_1.l0 a1 a0 0 20)>>=fun oo=>match oo with | (x946,x947)=>((f_slices_insertionSortCmpFunc_api_Bucket_hist_tidy_1.f x946 x947 a1)>>=fun t950=>(f_slices_stableCmpFunc_api_Bucket_hist_tidy_1.l1 a1 t950 20)>>=fun x1353=>some x1353)
theorem f_slices_stableCmpFunc_api_Bucket_hist_tidy_1.ok (a0:List TBucket) (a1:Int) (r:List TBucket) (H:f_slices_stableCmpFunc_api_Bucket_hist_tidy_1.f a0 a1=some r):Pv.Fn Tryz.prog 98 [.own 0,iV .i64 a1,.im (.sc (.func (.func 89) #[] #[]))] [(0,some (.row 2 89 (a0.map eBucket)))] 1 (fun x o=>x = .tup []∧o=[(0,some (.row 2 89 (r.map eBucket)))]):=by
 unfold f_slices_stableCmpFunc_api_Bucket_hist_tidy_1.f at H
 refine Fn.bodyK [0] Tryz.func98 rfl rfl (fun Γ hP hn => ?_)
 have hm:Tryz.prog.follows .mixedOrders=true:=by kernel_rfl
 replace hn:Γ.n=63:=hn
 refine sr hP hn hm [] [(6,iV .i64 20)] [0,1,2,6] [] [0] [] (by kernel_rfl) trivial ?_
 refine sr hP hn hm [] [(7,iV .i64 0),(8,iV .i64 20)] [0,1,2,6,7,8] [] [0] [] (by kernel_rfl) trivial ?_
 refine AWp.seq ?_
 refine AWp.block ?_
 obtain⟨o1354,e1355,H⟩:=bind_of H
 refine AWp.loop (LWp.conv (inv:=[(0,0)]) (vk:=[]) (e0:=[]) (t:=⟨[(0,.own 0),(1,iV .i64 a1),(2,.im (.sc (.func (.func 89) #[] #[]))),(6,iV .i64 20),(7,iV .i64 0),(8,iV .i64 20)],[(0,some (.row 2 89 (a0.map eBucket)))],1⟩) (by kernel_rfl) ?_)
 refine LWp.mono (Q:=fun e s=>(match (generalizing:=false) o1354 with | (x946,x947)=>e = .exit 0∧s=⟨[(0,.own 0),(1,iV .i64 a1),(2,.im (.sc (.func (.func 89) #[] #[]))),(6,iV .i64 20),(7,iV .i64 x947)],[(0,some (.row 2 89 (x946.map eBucket)))],1⟩)) (LWp.cv (withBody (fun body hbody => ?_))) ?_
 ·refine f_slices_stableCmpFunc_api_Bucket_hist_tidy_1.l0.partial_correctness a1 (motive:=fun x938 x939 x940 o1354=>LWp Γ body (fun e s=>∃ t,Cv Γ s t∧(match (generalizing:=false) o1354 with | (x946,x947)=>e = .exit 0∧t=⟨[(0,.own 0),(1,iV .i64 a1),(2,.im (.sc (.func (.func 89) #[] #[]))),(6,iV .i64 20),(7,iV .i64 x947)],[(0,some (.row 2 89 (x946.map eBucket)))],1⟩)) ⟨[(0,.own 0),(1,iV .i64 a1),(2,.im (.sc (.func (.func 89) #[] #[]))),(6,iV .i64 20),(7,iV .i64 x939),(8,iV .i64 x940)],[(0,some (.row 2 89 (x938.map eBucket)))],1⟩) ?_ _ _ _ _ e1355
  clear H e1355 o1354;intro self ih x938 x939 x940 o1354 H
  subst hbody
  refine LWp.round ?_
  refine AWp.seq ?_
  refine sr hP hn hm [] [(13,bV (decide (x940≤a1)))] [0,1,2,6,7,8,13] [] [0] [] (by kernel_rfl) trivial ?_
  refine AWp.cond (decide (x940≤a1)) (by kernel_rfl) (fun c941 => ?_) (fun c941 => ?_)
  ·replace H:=iT c941 H
   refine AWp.skip ?_
   refine AWp.block ?_
   obtain⟨t944,e945,H⟩:=bind_of H
   refine sr hP hn hm [(4,.call [(0,0)] [(0,0)] [] [] 1 (.tup []) [(0,some (.row 2 89 (t944.map eBucket)))])] [] [0,1,2,6,8] [(0,some (.row 2 89 (t944.map eBucket)))] [0] [_,_] (by kernel_rfl) ⟨Tryz.call104,f_slices_insertionSortCmpFunc_api_Bucket_hist_tidy_1.ok x938 x939 x940 t944 e945,trivial⟩ ?_
   refine sr hP hn hm [] [(7,iV .i64 x940)] [0,1,2,6,7,8] [] [0] [] (by kernel_rfl) trivial ?_
   refine rg hP hn hm [] [(8,iV .i64 (i64.wrap (x940+(20:Int))))] [0,1,2,6,7,8] [] [0] [] (by kernel_rfl) trivial ?_
   exact LWp.conv [(0,0)] [] [] (by kernel_rfl) (ih _ _ _ _ H)
  ·replace H:=iF c941 H
   refine AWp.exit ?_
   obtain rfl:=Option.some.inj H
   exact lf [(0,0)] [] [] (by kernel_rfl) ⟨rfl,rfl⟩
 ·obtain⟨x946,x947⟩:=o1354
  rintro e s ⟨rfl,rfl⟩
  obtain⟨t950,e951,H⟩:=bind_of H
  refine sr hP hn hm [(4,.call [(0,0)] [(0,0)] [] [] 1 (.tup []) [(0,some (.row 2 89 (t950.map eBucket)))])] [] [0,1,2,6] [(0,some (.row 2 89 (t950.map eBucket)))] [0] [_,_] (by kernel_rfl) ⟨Tryz.call104,f_slices_insertionSortCmpFunc_api_Bucket_hist_tidy_1.ok x946 x947 a1 t950 e951,trivial⟩ ?_
  refine AWp.block ?_
  obtain⟨o1356,e1357,H⟩:=bind_of H
  refine AWp.loop (LWp.conv (inv:=[(0,0)]) (vk:=[]) (e0:=[]) (t:=⟨[(0,.own 0),(1,iV .i64 a1),(2,.im (.sc (.func (.func 89) #[] #[]))),(6,iV .i64 20)],[(0,some (.row 2 89 (t950.map eBucket)))],1⟩) (by kernel_rfl) ?_)
  refine LWp.mono (Q:=fun e s=>(match (generalizing:=false) o1356 with | x1353=>e = .exit 2∧s=⟨[],[(0,some (.row 2 89 (x1353.map eBucket)))],1⟩)) (LWp.cv (withBody (fun body hbody => ?_))) ?_
  ·refine f_slices_stableCmpFunc_api_Bucket_hist_tidy_1.l1.partial_correctness a1 (motive:=fun x1329 x1330 o1356=>LWp Γ body (fun e s=>∃ t,Cv Γ s t∧(match (generalizing:=false) o1356 with | x1353=>e = .exit 2∧t=⟨[],[(0,some (.row 2 89 (x1353.map eBucket)))],1⟩)) ⟨[(0,.own 0),(1,iV .i64 a1),(2,.im (.sc (.func (.func 89) #[] #[]))),(6,iV .i64 x1330)],[(0,some (.row 2 89 (x1329.map eBucket)))],1⟩) ?_ _ _ _ e1357
   clear H e1357 o1356;intro self ih x1329 x1330 o1356 H
   subst hbody
   refine LWp.round ?_
   refine AWp.seq ?_
   refine sr hP hn hm [] [(30,bV (decide (x1330<a1)))] [0,1,2,6,30] [] [0] [] (by kernel_rfl) trivial ?_
   refine AWp.cond (decide (x1330<a1)) (by kernel_rfl) (fun c1331 => ?_) (fun c1331 => ?_)
   ·replace H:=iT c1331 H
    refine AWp.skip ?_
    refine AWp.block ?_
    refine sr hP hn hm [] [(7,iV .i64 0),(8,iV .i64 (i64.wrap ((2:Int)*x1330)))] [0,1,2,6,7,8] [] [0] [] (by kernel_rfl) trivial ?_
    refine AWp.seq ?_
    refine AWp.block ?_
    obtain⟨o1358,e1359,H⟩:=bind_of H
    refine AWp.loop (LWp.conv (inv:=[(0,0)]) (vk:=[]) (e0:=[]) (t:=⟨[(0,.own 0),(1,iV .i64 a1),(2,.im (.sc (.func (.func 89) #[] #[]))),(6,iV .i64 x1330),(7,iV .i64 0),(8,iV .i64 (i64.wrap ((2:Int)*x1330)))],[(0,some (.row 2 89 (x1329.map eBucket)))],1⟩) (by kernel_rfl) ?_)
    refine LWp.mono (Q:=fun e s=>(match (generalizing:=false) o1358 with | (x1345,x1346)=>e = .exit 4∧s=⟨[(0,.own 0),(1,iV .i64 a1),(2,.im (.sc (.func (.func 89) #[] #[]))),(6,iV .i64 x1330),(7,iV .i64 x1346)],[(0,some (.row 2 89 (x1345.map eBucket)))],1⟩)) (LWp.cv (withBody (fun body hbody => ?_))) ?_
    ·refine f_slices_stableCmpFunc_api_Bucket_hist_tidy_1.l2.partial_correctness a1 x1330 (motive:=fun x1337 x1338 x1339 o1358=>LWp Γ body (fun e s=>∃ t,Cv Γ s t∧(match (generalizing:=false) o1358 with | (x1345,x1346)=>e = .exit 4∧t=⟨[(0,.own 0),(1,iV .i64 a1),(2,.im (.sc (.func (.func 89) #[] #[]))),(6,iV .i64 x1330),(7,iV .i64 x1346)],[(0,some (.row 2 89 (x1345.map eBucket)))],1⟩)) ⟨[(0,.own 0),(1,iV .i64 a1),(2,.im (.sc (.func (.func 89) #[] #[]))),(6,iV .i64 x1330),(7,iV .i64 x1338),(8,iV .i64 x1339)],[(0,some (.row 2 89 (x1337.map eBucket)))],1⟩) ?_ _ _ _ _ e1359
     clear H e1359 o1358;intro self ih x1337 x1338 x1339 o1358 H
     subst hbody
     refine LWp.round ?_
     refine AWp.seq ?_
     refine sr hP hn hm [] [(35,bV (decide (x1339≤a1)))] [0,1,2,6,7,8,35] [] [0] [] (by kernel_rfl) trivial ?_
     refine AWp.cond (decide (x1339≤a1)) (by kernel_rfl) (fun c1340 => ?_) (fun c1340 => ?_)
     ·replace H:=iT c1340 H
      refine AWp.skip ?_
      refine AWp.block ?_
      obtain⟨t1343,e1344,H⟩:=bind_of H
      refine sr hP hn hm [(7,.call [(0,0)] [(0,0)] [] [] 1 (.tup []) [(0,some (.row 2 89 (t1343.map eBucket)))])] [] [0,1,2,6,8] [(0,some (.row 2 89 (t1343.map eBucket)))] [0] [_,_] (by kernel_rfl) ⟨Tryz.call105,f_slices_symMergeCmpFunc_api_Bucket_hist_tidy_1.ok x1337 x1338 (i64.wrap (x1338+x1330)) x1339 t1343 e1344,trivial⟩ ?_
      refine sr hP hn hm [] [(7,iV .i64 x1339)] [0,1,2,6,7,8] [] [0] [] (by kernel_rfl) trivial ?_
      refine rg hP hn hm [] [(8,iV .i64 (i64.wrap (x1339+(i64.wrap ((2:Int)*x1330)))))] [0,1,2,6,7,8] [] [0] [] (by kernel_rfl) trivial ?_
      exact LWp.conv [(0,0)] [] [] (by kernel_rfl) (ih _ _ _ _ H)
     ·replace H:=iF c1340 H
      refine AWp.exit ?_
      obtain rfl:=Option.some.inj H
      exact lf [(0,0)] [] [] (by kernel_rfl) ⟨rfl,rfl⟩
    ·obtain⟨x1345,x1346⟩:=o1358
     rintro e s ⟨rfl,rfl⟩
     refine AWp.seq ?_
     refine sr hP hn hm [] [(9,iV .i64 (i64.wrap (x1346+x1330)))] [0,1,2,6,7,9] [] [0] [] (by kernel_rfl) trivial ?_
     refine sr hP hn hm [] [(54,bV (decide ((i64.wrap (x1346+x1330))<a1)))] [0,1,2,6,7,9,54] [] [0] [] (by kernel_rfl) trivial ?_
     obtain⟨o1360,e1361,H⟩:=bind_of H
     refine AWp.mono (Q:=fun e s=>(match (generalizing:=false) o1360 with | x1352=>e = .normal∧s=⟨[(0,.own 0),(1,iV .i64 a1),(2,.im (.sc (.func (.func 89) #[] #[]))),(6,iV .i64 x1330)],[(0,some (.row 2 89 (x1352.map eBucket)))],1⟩)) (AWp.cv ?_) ?_
     ·replace H:=e1361;clear e1361
      refine AWp.cond (decide ((i64.wrap (x1346+x1330))<a1)) (by kernel_rfl) (fun c1347 => ?_) (fun c1347 => ?_)
      ·replace H:=iT c1347 H
       obtain⟨t1350,e1351,H⟩:=bind_of H
       refine rg hP hn hm [(5,.call [(0,0)] [(0,0)] [] [] 1 (.tup []) [(0,some (.row 2 89 (t1350.map eBucket)))])] [] [0,1,2,6] [(0,some (.row 2 89 (t1350.map eBucket)))] [0] [_,_] (by kernel_rfl) ⟨Tryz.call105,f_slices_symMergeCmpFunc_api_Bucket_hist_tidy_1.ok x1345 x1346 (i64.wrap (x1346+x1330)) a1 t1350 e1351,trivial⟩ ?_
       obtain rfl:=Option.some.inj H
       exact lf [(0,0)] [] [] (by kernel_rfl) ⟨rfl,rfl⟩
      ·replace H:=iF c1347 H
       refine AWp.skip ?_
       obtain rfl:=Option.some.inj H
       exact lf [(0,0)] [] [] (by kernel_rfl) ⟨rfl,rfl⟩
     ·obtain⟨x1352,rfl⟩:∃ z,z=o1360:=⟨_,rfl⟩
      rintro e s ⟨rfl,rfl⟩
      refine rg hP hn hm [] [(6,iV .i64 (i64.wrap (x1330*(2:Int))))] [0,1,2,6] [] [0] [] (by kernel_rfl) trivial ?_
      exact LWp.conv [(0,0)] [] [] (by kernel_rfl) (ih _ _ _ H)
   ·replace H:=iF c1331 H
    refine AWp.exit ?_
    obtain rfl:=Option.some.inj H
    exact lf [(0,0)] [] [] (by kernel_rfl) ⟨rfl,rfl⟩
  ·obtain⟨x1353,rfl⟩:∃ z,z=o1356:=⟨_,rfl⟩
   rintro e s ⟨rfl,rfl⟩
   obtain rfl:=Option.some.inj H
   exact Exists.intro ⟨[],[(0,some (.row 2 89 (x1353.map eBucket)))],1⟩ (And.intro (fun _ _ h=>h.conv (inv:=[(0,0)]) (vk:=[]) (e0:=[]) (t:=⟨[],[(0,some (.row 2 89 (x1353.map eBucket)))],1⟩) (by kernel_rfl)) (And.intro (.inr rfl) (And.intro rfl (And.intro (by kernel_rfl) (by kernel_rfl)))))
def f_slices_SortStableFunc_api_Bucket_hist_tidy_1.f (a0:List TBucket):Option (List TBucket):=(f_slices_stableCmpFunc_api_Bucket_hist_tidy_1.f a0 (a0.length:Int))>>=fun t1364=>some t1364
theorem f_slices_SortStableFunc_api_Bucket_hist_tidy_1.ok (a0:List TBucket) (r:List TBucket) (H:f_slices_SortStableFunc_api_Bucket_hist_tidy_1.f a0=some r):Pv.Fn Tryz.prog 88 [.own 0,.im (.sc (.func (.func 89) #[] #[]))] [(0,some (.row 2 89 (a0.map eBucket)))] 1 (fun x o=>x = .tup []∧o=[(0,some (.row 2 89 (r.map eBucket)))]):=by
 unfold f_slices_SortStableFunc_api_Bucket_hist_tidy_1.f at H
 refine Fn.bodyK [0] Tryz.func88 rfl rfl (fun Γ hP hn => ?_)
 have hm:Tryz.prog.follows .mixedOrders=true:=by kernel_rfl
 replace hn:Γ.n=9:=hn
 obtain⟨t1364,e1365,H⟩:=bind_of H
 refine rg hP hn hm [(2,.any (iV .i64 (a0.length:Int))),(4,.call [(0,0)] [(0,0)] [] [] 1 (.tup []) [(0,some (.row 2 89 (t1364.map eBucket)))])] [] [] [(0,some (.row 2 89 (t1364.map eBucket)))] [0] [((a0.map eBucket).length:Int)=(a0.length:Int),_,_] (by kernel_rfl) ⟨by rw[len_map],Tryz.call98,f_slices_stableCmpFunc_api_Bucket_hist_tidy_1.ok a0 (a0.length:Int) t1364 e1365,trivial⟩ ?_
 obtain rfl:=Option.some.inj H
 exact Exists.intro ⟨[],[(0,some (.row 2 89 (t1364.map eBucket)))],1⟩ (And.intro (fun _ _ h=>h.conv (inv:=[(0,0)]) (vk:=[]) (e0:=[]) (t:=⟨[],[(0,some (.row 2 89 (t1364.map eBucket)))],1⟩) (by kernel_rfl)) (And.intro (.inr rfl) (And.intro rfl (And.intro (by kernel_rfl) (by kernel_rfl)))))
def f_hist_tidy.l0 (t1368:List TBucket) (x1381:List TBucket) (x1382:Int):Option (((List TBucket)×Int) ⊕ (List TBucket)):=if(decide (x1382<(t1368.length:Int)))=true then((at? t1368 x1382)>>=fun b1387=>((if(b1387.f1==(0:Int))=true then(some (.inr x1381)) else(((if(decide ((x1381.length:Int)>(0:Int)))=true then((at? x1381 (i64.wrap ((x1381.length:Int)-(1:Int))))>>=fun b1396=>some (b1396.f0==b1387.f0)) else(some false)):Option (Bool))>>=fun x1399=>((if x1399=true then((at? x1381 (i64.wrap ((x1381.length:Int)-(1:Int))))>>=fun b1406=>(f_num_Add.f [b1406.f1,b1387.f1])>>=fun t1409=>if(t1409.2 != (0:Int))=true then(some (.inl ([],t1409.2))) else(some (.inr (x1381.set (Int.toNat (i64.wrap ((x1381.length:Int)-(1:Int)))) (⟨b1406.f0,t1409.1⟩:TBucket))))) else((chk ((x1381.length+[b1387].length)*16≤140737488355328))>>=fun _=>some (.inr (x1381++[b1387])))):Option (((List TBucket)×Int) ⊕ (List TBucket)))>>=fun oo=>match oo with | .inl rr=>(some (.inl rr)) | .inr x1414=>(some (.inr x1414)))):Option (((List TBucket)×Int) ⊕ (List TBucket)))>>=fun oo=>match oo with | .inl rr=>(some (.inl rr)) | .inr x1415=>(f_hist_tidy.l0 t1368 x1415 (i64.wrap (x1382+(1:Int))))) else(some (.inr x1381))
partial_fixpoint
def f_hist_tidy.f (a0:List TBucket):Option ((List TBucket)×Int):=(f_slices_Clone_api_Bucket.f a0)>>=fun t745=>(f_slices_SortStableFunc_api_Bucket_hist_tidy_1.f t745)>>=fun t1368=>(f_hist_tidy.l0 t1368 [] 0)>>=fun oo=>match oo with | .inl rr=>(some rr) | .inr x1416=>(some (x1416,0))
theorem f_hist_tidy.ok (a0:List TBucket) (r:(List TBucket)×Int) (H:f_hist_tidy.f a0=some r):Pv.Fn Tryz.prog 75 [.im (.row (a0.map eBucket))] [] 0 (fun x o=>x = .tup [.own 0,iV .i64 r.2]∧o=[(0,some (.row 2 89 (r.1.map eBucket)))]):=by
 unfold f_hist_tidy.f at H
 refine Fn.bodyK [0] Tryz.func75 rfl rfl (fun Γ hP hn => ?_)
 have hm:Tryz.prog.follows .mixedOrders=true:=by kernel_rfl
 replace hn:Γ.n=68:=hn
 refine sr hP hn hm [] [] [0] [] [] [] (by kernel_rfl) trivial ?_
 refine sr hP hn hm [] [(4,.none0)] [0,4] [] [] [] (by kernel_rfl) trivial ?_
 obtain⟨t745,e746,H⟩:=bind_of H
 refine sr hP hn hm [(1,.call [] [(0,0)] [] [0] 0 (.own 0) [(0,some (.row 2 89 (t745.map eBucket)))])] [(0,.own 0)] [0,4] [(0,some (.row 2 89 (t745.map eBucket)))] [0] [_,_] (by kernel_rfl) ⟨Tryz.call38,f_slices_Clone_api_Bucket.ok a0 t745 e746,trivial⟩ ?_
 obtain⟨t1368,e1369,H⟩:=bind_of H
 refine sr hP hn hm [(1,.call [(0,0)] [(0,0)] [] [] 1 (.tup []) [(0,some (.row 2 89 (t1368.map eBucket)))])] [] [0,4] [(0,some (.row 2 89 (t1368.map eBucket)))] [0] [_,_] (by kernel_rfl) ⟨Tryz.call88,f_slices_SortStableFunc_api_Bucket_hist_tidy_1.ok t745 t1368 e1369,trivial⟩ ?_
 refine AWp.seq ?_
 refine sr hP hn hm [(1,.any (iV .i64 (t1368.length:Int)))] [(14,.own 0),(15,iV .i64 (t1368.length:Int)),(16,iV .i64 0)] [4,14,15,16] [] [0] [((t1368.map eBucket).length:Int)=(t1368.length:Int)] (by kernel_rfl) ⟨by rw[len_map],trivial⟩ ?_
 refine AWp.block ?_
 obtain⟨o1417,e1418,H⟩:=bind_of H
 refine AWp.loop (LWp.conv (inv:=[(0,7)]) (vk:=[]) (e0:=[6]) (t:=⟨[(4,.own 6),(14,.own 7),(15,iV .i64 (t1368.length:Int)),(16,iV .i64 0)],[(6,some (.row 2 89 ([].map eBucket))),(7,some (.row 2 89 (t1368.map eBucket)))],0⟩) (by kernel_rfl) ?_)
 refine LWp.mono (Q:=fun e s=>(match (generalizing:=false) o1417 with | .inl rr=>e = .ret∧s.floor=0∧resOf Tryz.prog Tryz.f75 s=some (.tup [.own 0,iV .i64 rr.2])∧([(0,s.obj 0)]:List (Nat×Option MObj))=[(0,some (.row 2 89 (rr.1.map eBucket)))] | .inr x1416=>e = .exit 0∧s=⟨[(4,.own 19)],[(19,some (.row 2 89 (x1416.map eBucket)))],0⟩)) (LWp.cv (withBody (fun body hbody => ?_))) ?_
 ·refine f_hist_tidy.l0.partial_correctness t1368 (motive:=fun x1381 x1382 o1417=>LWp Γ body (fun e s=>∃ t,Cv Γ s t∧(match (generalizing:=false) o1417 with | .inl rr=>e = .ret∧t.floor=0∧resOf Tryz.prog Tryz.f75 t=some (.tup [.own 0,iV .i64 rr.2])∧([(0,t.obj 0)]:List (Nat×Option MObj))=[(0,some (.row 2 89 (rr.1.map eBucket)))] | .inr x1416=>e = .exit 0∧t=⟨[(4,.own 19)],[(19,some (.row 2 89 (x1416.map eBucket)))],0⟩)) ⟨[(4,.own 6),(14,.own 7),(15,iV .i64 (t1368.length:Int)),(16,iV .i64 x1382)],[(6,some (.row 2 89 (x1381.map eBucket))),(7,some (.row 2 89 (t1368.map eBucket)))],0⟩) ?_ _ _ _ e1418
  clear H e1418 o1417;intro self ih x1381 x1382 o1417 H
  subst hbody
  refine LWp.round ?_
  refine sr hP hn hm [] [(17,bV (decide (x1382<(t1368.length:Int))))] [4,14,15,16,17] [] [6,7] [] (by kernel_rfl) trivial ?_
  refine AWp.seq ?_
  refine AWp.cond (decide (x1382<(t1368.length:Int))) (by kernel_rfl) (fun c1383 => ?_) (fun c1383 => ?_)
  ·replace H:=iT c1383 H
   refine AWp.skip ?_
   refine AWp.seq ?_
   refine AWp.block ?_
   obtain⟨b1387,p1388,q1389,H⟩:=at_of H
   refine sr hP hn hm [(1,.c (eBucket b1387)),(2,.k 8)] [(6,.ptr 8 0 0)] [4,6,14,15,16] [(8,some (.box 89 (aBucket b1387)))] [6,7,8] [_,_,_] (by kernel_rfl) ⟨p1388,el_lt eBucket p1388 q1389,el_map eBucket q1389,trivial⟩ ?_
   refine sr hP hn hm [(1,.any (iV .i64 (x1381.length:Int)))] [(7,iV .i64 (x1381.length:Int))] [4,6,7,14,15,16] [] [6,7,8] [((x1381.map eBucket).length:Int)=(x1381.length:Int)] (by kernel_rfl) ⟨by rw[len_map],trivial⟩ ?_
   refine AWp.block ?_
   refine sr hP hn hm [] [(26,bV (b1387.f1==(0:Int)))] [4,6,7,14,15,16,26] [] [6,7,8] [] (by kernel_rfl) trivial ?_
   obtain⟨o1419,e1420,H⟩:=bind_of H
   refine AWp.mono (Q:=fun e s=>(match (generalizing:=false) o1419 with | .inl rr=>e = .ret∧s.floor=0∧resOf Tryz.prog Tryz.f75 s=some (.tup [.own 0,iV .i64 rr.2])∧([(0,s.obj 0)]:List (Nat×Option MObj))=[(0,some (.row 2 89 (rr.1.map eBucket)))] | .inr x1415=>e = .normal∧s=⟨[(4,.own 17),(14,.own 18),(15,iV .i64 (t1368.length:Int)),(16,iV .i64 x1382)],[(17,some (.row 2 89 (x1415.map eBucket))),(18,some (.row 2 89 (t1368.map eBucket)))],0⟩)) (AWp.cv ?_) ?_
   ·replace H:=e1420;clear e1420
    refine AWp.cond (b1387.f1==(0:Int)) (by kernel_rfl) (fun c1390 => ?_) (fun c1390 => ?_)
    ·replace H:=iT c1390 H
     refine AWp.skip ?_
     obtain rfl:=Option.some.inj H
     exact lf [(6,17),(7,18)] [] [] (by kernel_rfl) ⟨rfl,rfl⟩
    ·replace H:=iF c1390 H
     refine AWp.seq ?_
     obtain⟨o1421,e1422,H⟩:=bind_of H
     refine AWp.mono (Q:=fun e s=>(match (generalizing:=false) o1421 with | x1399=>e = .normal∧s=⟨[(4,.own 9),(6,.ptr 10 0 0),(7,iV .i64 (x1381.length:Int)),(14,.own 11),(15,iV .i64 (t1368.length:Int)),(16,iV .i64 x1382),(30,bV x1399)],[(9,some (.row 2 89 (x1381.map eBucket))),(10,some (.box 89 (aBucket b1387))),(11,some (.row 2 89 (t1368.map eBucket)))],0⟩)) (AWp.cv ?_) ?_
     ·replace H:=e1422;clear e1422
      rcases Bool.eq_false_or_eq_true (decide ((x1381.length:Int)>(0:Int))) with c1395 | c1395
      ·replace H:=iT c1395 H
       obtain⟨b1396,p1397,q1398,H⟩:=at_of H
       refine rg hP hn hm [(2,.b true),(8,.c (eBucket b1396))] [(30,bV (b1396.f0==b1387.f0)),(34,.own 6),(35,iV .i64 (x1381.length:Int)),(36,iV .i64 (i64.wrap ((x1381.length:Int)-(1:Int)))),(37,.ptr 6 (Int.toNat (i64.wrap ((x1381.length:Int)-(1:Int)))) 0),(38,.ptr 6 (Int.toNat (i64.wrap ((x1381.length:Int)-(1:Int)))) 0),(39,iV .i64 b1396.f0),(40,.ptr 8 0 0),(41,iV .i64 b1387.f0),(42,bV (b1396.f0==b1387.f0))] [4,6,7,14,15,16,30,34,35,36,37,38,39,40,41,42] [] [6,7,8] [_,_,_,_] (by kernel_rfl) ⟨c1395,p1397,el_lt eBucket p1397 q1398,el_map eBucket q1398,trivial⟩ ?_
       obtain rfl:=Option.some.inj H
       exact lf [(6,9),(8,10),(7,11)] [] [] (by kernel_rfl) ⟨rfl,rfl⟩
      ·replace H:=iF c1395 H
       refine rg hP hn hm [(2,.b false)] [(30,bV false)] [4,6,7,14,15,16,30] [] [6,7,8] [_] (by kernel_rfl) ⟨c1395,trivial⟩ ?_
       obtain rfl:=Option.some.inj H
       exact lf [(6,9),(8,10),(7,11)] [] [] (by kernel_rfl) ⟨rfl,rfl⟩
     ·obtain⟨x1399,rfl⟩:∃ z,z=o1421:=⟨_,rfl⟩
      rintro e s ⟨rfl,rfl⟩
      obtain⟨o1423,e1424,H⟩:=bind_of H
      refine AWp.mono (Q:=fun e s=>(match (generalizing:=false) o1423 with | .inl rr=>e = .ret∧s.floor=0∧resOf Tryz.prog Tryz.f75 s=some (.tup [.own 0,iV .i64 rr.2])∧([(0,s.obj 0)]:List (Nat×Option MObj))=[(0,some (.row 2 89 (rr.1.map eBucket)))] | .inr x1414=>e = .normal∧s=⟨[(4,.own 15),(14,.own 16),(15,iV .i64 (t1368.length:Int)),(16,iV .i64 x1382)],[(15,some (.row 2 89 (x1414.map eBucket))),(16,some (.row 2 89 (t1368.map eBucket)))],0⟩)) (AWp.cv ?_) ?_
      ·replace H:=e1424;clear e1424
       refine AWp.cond x1399 (by kernel_rfl) (fun c1400 => ?_) (fun c1400 => ?_)
       ·replace H:=iT c1400 H
        obtain⟨b1406,p1407,q1408,H⟩:=at_of H
        obtain⟨t1409,e1410,H⟩:=bind_of H
        refine sr hP hn hm [(5,.c (eBucket b1406)),(8,.app 12 ([b1406.f1,b1387.f1].map (encInt .u64))),(9,.call [] [] [12] [] 0 (.tup [iV .u64 t1409.1,iV .i64 t1409.2]) [])] [(8,iV .u64 t1409.1),(9,iV .i64 t1409.2)] [4,7,8,9,14,15,16] [] [9,11] [_,_,_,[b1406.f1,b1387.f1].map (encInt .u64)=[[iI .u64 b1406.f1],[iI .u64 b1387.f1]],_,_] (by kernel_rfl) ⟨p1407,el_lt eBucket p1407 q1408,el_map eBucket q1408,by exact rfl,Tryz.call63,f_num_Add.ok [b1406.f1,b1387.f1] t1409 e1410,trivial⟩ ?_
        refine AWp.seq ?_
        refine sr hP hn hm [] [(58,bV (t1409.2 != (0:Int)))] [4,7,8,9,14,15,16,58] [] [9,11] [] (by kernel_rfl) trivial ?_
        refine AWp.cond (t1409.2 != (0:Int)) (by kernel_rfl) (fun c1411 => ?_) (fun c1411 => ?_)
        ·replace H:=iT c1411 H
         refine sr hP hn hm [] [(2,.none0),(3,iV .i64 t1409.2)] [2,3] [] [] [] (by kernel_rfl) trivial ?_
         refine AWp.conv (inv:=[]) (vk:=[]) (e0:=[0]) (t:=⟨[(2,.own 0),(3,iV .i64 t1409.2)],[(0,some (.row 2 89 ([].map eBucket)))],0⟩) (by kernel_rfl) ?_
         refine AWp.ret ?_
         obtain rfl:=Option.some.inj H
         exact rl rfl rfl (by kernel_rfl) (by kernel_rfl)
        ·replace H:=iF c1411 H
         refine AWp.skip ?_
         refine rg hP hn hm [(6,.put (eBucket b1406) ((x1381.set (Int.toNat (i64.wrap ((x1381.length:Int)-(1:Int)))) (⟨b1406.f0,t1409.1⟩:TBucket)).map eBucket))] [] [4,14,15,16] [(9,some (.row 2 89 ((x1381.set (Int.toNat (i64.wrap ((x1381.length:Int)-(1:Int)))) (⟨b1406.f0,t1409.1⟩:TBucket)).map eBucket)))] [9,11] [_,_,_,(x1381.set (Int.toNat (i64.wrap ((x1381.length:Int)-(1:Int)))) (⟨b1406.f0,t1409.1⟩:TBucket)).map eBucket=(x1381.map eBucket).set (Int.toNat (i64.wrap ((x1381.length:Int)-(1:Int)))) (splice (eBucket b1406) 1 [iI .u64 t1409.1])] (by kernel_rfl) ⟨p1407,el_lt eBucket p1407 q1408,el_map eBucket q1408,by exact set1 _ _ _ _,trivial⟩ ?_
         obtain rfl:=Option.some.inj H
         exact lf [(9,15),(11,16)] [] [] (by kernel_rfl) ⟨rfl,rfl⟩
       ·replace H:=iF c1400 H
        obtain⟨c1413,H⟩:=chk_of H
        refine rg hP hn hm [(2,.app 13 ([b1387].map eBucket)),(3,.app 14 ((x1381++[b1387]).map eBucket))] [(4,.own 14)] [4,14,15,16] [(14,some (.row 2 89 ((x1381++[b1387]).map eBucket)))] [11,14] [[b1387].map eBucket=[[iI .i64 b1387.f0,iI .u64 b1387.f1]],(x1381++[b1387]).map eBucket=(x1381.map eBucket)++([b1387].map eBucket),∀ c∈([b1387].map eBucket),c.length=2,∀ c∈([b1387].map eBucket),leaves (c.map .im)=true,((x1381.map eBucket).length+([b1387].map eBucket).length)*16≤140737488355328] (by kernel_rfl) ⟨by exact rfl,by simp,by exact all_len _ _ _ (fun _=>rfl),by exact all_leaf _ _ (fun _=>rfl),by simpa using c1413,trivial⟩ ?_
        obtain rfl:=Option.some.inj H
        exact lf [(14,15),(11,16)] [] [] (by kernel_rfl) ⟨rfl,rfl⟩
      ·rcases o1423 with rr | x1414
       ·skip
        rintro e s ⟨rfl,hfl,hres⟩
        obtain rfl:=Option.some.inj H
        exact Exists.intro _ (And.intro (fun _ _ h=>h) (And.intro rfl (And.intro hfl hres)))
       ·skip
        rintro e s ⟨rfl,rfl⟩
        obtain rfl:=Option.some.inj H
        exact lf [(15,17),(16,18)] [] [] (by kernel_rfl) ⟨rfl,rfl⟩
   ·rcases o1419 with rr | x1415
    ·skip
     rintro e s ⟨rfl,hfl,hres⟩
     obtain rfl:=Option.some.inj H
     exact Exists.intro _ (And.intro (fun _ _ h=>h) (And.intro rfl (And.intro hfl hres)))
    ·skip
     rintro e s ⟨rfl,rfl⟩
     refine rg hP hn hm [] [(16,iV .i64 (i64.wrap (x1382+(1:Int))))] [4,14,15,16] [] [17,18] [] (by kernel_rfl) trivial ?_
     exact LWp.conv [(17,6),(18,7)] [] [] (by kernel_rfl) (ih _ _ _ H)
  ·replace H:=iF c1383 H
   refine AWp.exit ?_
   obtain rfl:=Option.some.inj H
   exact lf [(6,19)] [] [] (by kernel_rfl) ⟨rfl,rfl⟩
 ·rcases o1417 with rr | x1416
  ·skip
   rintro e s ⟨rfl,hfl,hres⟩
   obtain rfl:=Option.some.inj H
   exact Exists.intro _ (And.intro (fun _ _ h=>h) (And.intro (.inl rfl) (And.intro hfl hres)))
  ·skip
   rintro e s ⟨rfl,rfl⟩
   refine sr hP hn hm [] [(2,.own 19),(3,iV .i64 0)] [2,3] [] [19] [] (by kernel_rfl) trivial ?_
   refine AWp.conv (inv:=[(19,0)]) (vk:=[]) (e0:=[]) (t:=⟨[(2,.own 0),(3,iV .i64 0)],[(0,some (.row 2 89 (x1416.map eBucket)))],0⟩) (by kernel_rfl) ?_
   refine AWp.ret ?_
   obtain rfl:=Option.some.inj H
   exact rl (.inl rfl) rfl (by kernel_rfl) (by kernel_rfl)
def f_hist_total.l1 (a0:List (List TBucket)) (b1474:List TBucket) (x1469:Int) (x1489:Int) (x1490:Int):Option ((Int×Int) ⊕ Int):=if(decide (x1490<(b1474.length:Int)))=true then((at? b1474 x1490)>>=fun b1495=>(f_num_Add.f [x1489,b1495.f1])>>=fun t1500=>if(t1500.2 != (0:Int))=true then(some (.inl (0,t1500.2))) else(f_hist_total.l1 a0 b1474 x1469 t1500.1 (i64.wrap (x1490+(1:Int))))) else(some (.inr x1489))
partial_fixpoint
def f_hist_total.l0 (a0:List (List TBucket)) (x1468:Int) (x1469:Int):Option ((Int×Int) ⊕ Int):=if(decide (x1469<(a0.length:Int)))=true then((at? a0 x1469)>>=fun b1474=>(f_hist_total.l1 a0 b1474 x1469 x1468 0)>>=fun oo=>match oo with | .inl rr=>(some (.inl rr)) | .inr x1503=>(f_hist_total.l0 a0 x1503 (i64.wrap (x1469+(1:Int))))) else(some (.inr x1468))
partial_fixpoint
def f_hist_total.f (a0:List (List TBucket)):Option (Int×Int):=(f_hist_total.l0 a0 0 0)>>=fun oo=>match oo with | .inl rr=>(some rr) | .inr x1504=>(some (x1504,0))
theorem f_hist_total.ok (a0:List (List TBucket)) (r:Int×Int) (H:f_hist_total.f a0=some r):Pv.Fn Tryz.prog 76 [.im (.row (a0.map (encRow eBucket)))] [] 0 (fun x o=>x = .tup [iV .u64 r.1,iV .i64 r.2]∧o=[]):=by
 unfold f_hist_total.f at H
 refine Fn.bodyK [] Tryz.func76 rfl rfl (fun Γ hP hn => ?_)
 have hm:Tryz.prog.follows .mixedOrders=true:=by kernel_rfl
 replace hn:Γ.n=36:=hn
 refine sr hP hn hm [] [] [0] [] [] [] (by kernel_rfl) trivial ?_
 refine sr hP hn hm [] [(4,iV .u64 0)] [0,4] [] [] [] (by kernel_rfl) trivial ?_
 refine AWp.seq ?_
 refine sr hP hn hm [(1,.any (iV .i64 (a0.length:Int)))] [(10,.im (.row (a0.map (encRow eBucket)))),(11,iV .i64 (a0.length:Int)),(12,iV .i64 0)] [4,10,11,12] [] [] [((a0.map (encRow eBucket)).length:Int)=(a0.length:Int)] (by kernel_rfl) ⟨by rw[len_map],trivial⟩ ?_
 refine AWp.block ?_
 obtain⟨o1505,e1506,H⟩:=bind_of H
 refine AWp.loop (LWp.conv (inv:=[]) (vk:=[]) (e0:=[]) (t:=⟨[(4,iV .u64 0),(10,.im (.row (a0.map (encRow eBucket)))),(11,iV .i64 (a0.length:Int)),(12,iV .i64 0)],[],0⟩) (by kernel_rfl) ?_)
 refine LWp.mono (Q:=fun e s=>(match (generalizing:=false) o1505 with | .inl rr=>e = .ret∧s.floor=0∧resOf Tryz.prog Tryz.f76 s=some (.tup [iV .u64 rr.1,iV .i64 rr.2])∧([]:List (Nat×Option MObj))=[] | .inr x1504=>e = .exit 0∧s=⟨[(4,iV .u64 x1504)],[],0⟩)) (LWp.cv (withBody (fun body hbody => ?_))) ?_
 ·refine f_hist_total.l0.partial_correctness a0 (motive:=fun x1468 x1469 o1505=>LWp Γ body (fun e s=>∃ t,Cv Γ s t∧(match (generalizing:=false) o1505 with | .inl rr=>e = .ret∧t.floor=0∧resOf Tryz.prog Tryz.f76 t=some (.tup [iV .u64 rr.1,iV .i64 rr.2])∧([]:List (Nat×Option MObj))=[] | .inr x1504=>e = .exit 0∧t=⟨[(4,iV .u64 x1504)],[],0⟩)) ⟨[(4,iV .u64 x1468),(10,.im (.row (a0.map (encRow eBucket)))),(11,iV .i64 (a0.length:Int)),(12,iV .i64 x1469)],[],0⟩) ?_ _ _ _ e1506
  clear H e1506 o1505;intro self ih x1468 x1469 o1505 H
  subst hbody
  refine LWp.round ?_
  refine sr hP hn hm [] [(13,bV (decide (x1469<(a0.length:Int))))] [4,10,11,12,13] [] [] [] (by kernel_rfl) trivial ?_
  refine AWp.seq ?_
  refine AWp.cond (decide (x1469<(a0.length:Int))) (by kernel_rfl) (fun c1470 => ?_) (fun c1470 => ?_)
  ·replace H:=iT c1470 H
   refine AWp.skip ?_
   refine AWp.seq ?_
   refine AWp.block ?_
   obtain⟨b1474,p1475,q1476,H⟩:=at_of H
   refine sr hP hn hm [(0,.c ((encRow eBucket) b1474))] [(6,.im (.row (b1474.map eBucket)))] [4,6,10,11,12] [] [] [_,_] (by kernel_rfl) ⟨p1475,el_map (encRow eBucket) q1476,trivial⟩ ?_
   refine sr hP hn hm [(1,.any (iV .i64 (b1474.length:Int)))] [(16,.im (.row (b1474.map eBucket))),(17,iV .i64 (b1474.length:Int)),(18,iV .i64 0)] [4,10,11,12,16,17,18] [] [] [((b1474.map eBucket).length:Int)=(b1474.length:Int)] (by kernel_rfl) ⟨by rw[len_map],trivial⟩ ?_
   refine AWp.block ?_
   obtain⟨o1507,e1508,H⟩:=bind_of H
   refine AWp.loop (LWp.conv (inv:=[]) (vk:=[]) (e0:=[]) (t:=⟨[(4,iV .u64 x1468),(10,.im (.row (a0.map (encRow eBucket)))),(11,iV .i64 (a0.length:Int)),(12,iV .i64 x1469),(16,.im (.row (b1474.map eBucket))),(17,iV .i64 (b1474.length:Int)),(18,iV .i64 0)],[],0⟩) (by kernel_rfl) ?_)
   refine LWp.mono (Q:=fun e s=>(match (generalizing:=false) o1507 with | .inl rr=>e = .ret∧s.floor=0∧resOf Tryz.prog Tryz.f76 s=some (.tup [iV .u64 rr.1,iV .i64 rr.2])∧([]:List (Nat×Option MObj))=[] | .inr x1503=>e = .exit 2∧s=⟨[(4,iV .u64 x1503),(10,.im (.row (a0.map (encRow eBucket)))),(11,iV .i64 (a0.length:Int)),(12,iV .i64 x1469)],[],0⟩)) (LWp.cv (withBody (fun body hbody => ?_))) ?_
   ·refine f_hist_total.l1.partial_correctness a0 b1474 x1469 (motive:=fun x1489 x1490 o1507=>LWp Γ body (fun e s=>∃ t,Cv Γ s t∧(match (generalizing:=false) o1507 with | .inl rr=>e = .ret∧t.floor=0∧resOf Tryz.prog Tryz.f76 t=some (.tup [iV .u64 rr.1,iV .i64 rr.2])∧([]:List (Nat×Option MObj))=[] | .inr x1503=>e = .exit 2∧t=⟨[(4,iV .u64 x1503),(10,.im (.row (a0.map (encRow eBucket)))),(11,iV .i64 (a0.length:Int)),(12,iV .i64 x1469)],[],0⟩)) ⟨[(4,iV .u64 x1489),(10,.im (.row (a0.map (encRow eBucket)))),(11,iV .i64 (a0.length:Int)),(12,iV .i64 x1469),(16,.im (.row (b1474.map eBucket))),(17,iV .i64 (b1474.length:Int)),(18,iV .i64 x1490)],[],0⟩) ?_ _ _ _ e1508
    clear H e1508 o1507;intro self ih x1489 x1490 o1507 H
    subst hbody
    refine LWp.round ?_
    refine sr hP hn hm [] [(19,bV (decide (x1490<(b1474.length:Int))))] [4,10,11,12,16,17,18,19] [] [] [] (by kernel_rfl) trivial ?_
    refine AWp.seq ?_
    refine AWp.cond (decide (x1490<(b1474.length:Int))) (by kernel_rfl) (fun c1491 => ?_) (fun c1491 => ?_)
    ·replace H:=iT c1491 H
     refine AWp.skip ?_
     refine AWp.seq ?_
     refine AWp.block ?_
     obtain⟨b1495,p1496,q1497,H⟩:=at_of H
     refine sr hP hn hm [(0,.c (eBucket b1495)),(2,.k 6)] [(8,.ptr 6 0 0)] [4,8,10,11,12,16,17,18] [(6,some (.box 89 (aBucket b1495)))] [6] [_,_] (by kernel_rfl) ⟨p1496,el_map eBucket q1497,trivial⟩ ?_
     refine sr hP hn hm [] [] [4,8,10,11,12,16,17,18] [] [6] [] (by kernel_rfl) trivial ?_
     obtain⟨t1500,e1501,H⟩:=bind_of H
     refine sr hP hn hm [(3,.app 7 ([x1489,b1495.f1].map (encInt .u64))),(4,.call [] [] [7] [] 0 (.tup [iV .u64 t1500.1,iV .i64 t1500.2]) [])] [(4,iV .u64 t1500.1),(9,iV .i64 t1500.2)] [4,9,10,11,12,16,17,18] [] [] [[x1489,b1495.f1].map (encInt .u64)=[[iI .u64 x1489],[iI .u64 b1495.f1]],_,_] (by kernel_rfl) ⟨by exact rfl,Tryz.call63,f_num_Add.ok [x1489,b1495.f1] t1500 e1501,trivial⟩ ?_
     refine sr hP hn hm [] [(31,bV (t1500.2 != (0:Int)))] [4,9,10,11,12,16,17,18,31] [] [] [] (by kernel_rfl) trivial ?_
     refine AWp.cond (t1500.2 != (0:Int)) (by kernel_rfl) (fun c1502 => ?_) (fun c1502 => ?_)
     ·replace H:=iT c1502 H
      refine sr hP hn hm [] [(2,iV .u64 0),(3,iV .i64 t1500.2)] [2,3] [] [] [] (by kernel_rfl) trivial ?_
      refine AWp.conv (inv:=[]) (vk:=[]) (e0:=[]) (t:=⟨[(2,iV .u64 0),(3,iV .i64 t1500.2)],[],0⟩) (by kernel_rfl) ?_
      refine AWp.ret ?_
      obtain rfl:=Option.some.inj H
      exact rl rfl rfl (by kernel_rfl) (by kernel_rfl)
     ·replace H:=iF c1502 H
      refine AWp.skip ?_
      refine rg hP hn hm [] [(18,iV .i64 (i64.wrap (x1490+(1:Int))))] [4,10,11,12,16,17,18] [] [] [] (by kernel_rfl) trivial ?_
      exact LWp.conv [] [] [] (by kernel_rfl) (ih _ _ _ H)
    ·replace H:=iF c1491 H
     refine AWp.exit ?_
     obtain rfl:=Option.some.inj H
     exact lf [] [] [] (by kernel_rfl) ⟨rfl,rfl⟩
   ·rcases o1507 with rr | x1503
    ·skip
     rintro e s ⟨rfl,hfl,hres⟩
     obtain rfl:=Option.some.inj H
     exact Exists.intro _ (And.intro (fun _ _ h=>h) (And.intro rfl (And.intro hfl hres)))
    ·skip
     rintro e s ⟨rfl,rfl⟩
     refine rg hP hn hm [] [(12,iV .i64 (i64.wrap (x1469+(1:Int))))] [4,10,11,12] [] [] [] (by kernel_rfl) trivial ?_
     exact LWp.conv [] [] [] (by kernel_rfl) (ih _ _ _ H)
  ·replace H:=iF c1470 H
   refine AWp.exit ?_
   obtain rfl:=Option.some.inj H
   exact lf [] [] [] (by kernel_rfl) ⟨rfl,rfl⟩
 ·rcases o1505 with rr | x1504
  ·skip
   rintro e s ⟨rfl,hfl,hres⟩
   obtain rfl:=Option.some.inj H
   exact Exists.intro _ (And.intro (fun _ _ h=>h) (And.intro (.inl rfl) (And.intro hfl hres)))
  ·skip
   rintro e s ⟨rfl,rfl⟩
   refine sr hP hn hm [] [(2,iV .u64 x1504),(3,iV .i64 0)] [2,3] [] [] [] (by kernel_rfl) trivial ?_
   refine AWp.conv (inv:=[]) (vk:=[]) (e0:=[]) (t:=⟨[(2,iV .u64 x1504),(3,iV .i64 0)],[],0⟩) (by kernel_rfl) ?_
   refine AWp.ret ?_
   obtain rfl:=Option.some.inj H
   exact rl (.inl rfl) rfl (by kernel_rfl) (by kernel_rfl)
def f_hist_buckets.l0 (a0:THist) (a1:List TBucket) (x1550:Int):Option (Int ⊕ Unit):=if(decide (x1550<(a1.length:Int)))=true then((at? a1 x1550)>>=fun b1555=>(f_bound_In.f a0.f1 b1555.f0)>>=fun t1560=>if(!t1560)=true then(some (.inl 4)) else(((if(decide (x1550>(0:Int)))=true then((at? a1 (i64.wrap (x1550-(1:Int))))>>=fun b1568=>some (decide (b1568.f0≥b1555.f0))) else(some false)):Option (Bool))>>=fun x1571=>if x1571=true then(some (.inl 32)) else(if(b1555.f1==(0:Int))=true then(some (.inl 21)) else((f_bound_Low.f a0.f1 b1555.f0)>>=fun t1576=>if(decide (t1576<a0.f2))=true then(some (.inl 31)) else(f_hist_buckets.l0 a0 a1 (i64.wrap (x1550+(1:Int)))))))) else(some (.inr ()))
partial_fixpoint
def f_hist_buckets.f (a0:THist) (a1:List TBucket):Option (Int):=if(decide ((a1.length:Int)>(512:Int)))=true then(some 9) else((f_hist_buckets.l0 a0 a1 0)>>=fun oo=>match oo with | .inl rr=>(some rr) | .inr _=>(some 0))
theorem f_hist_buckets.ok (a0:THist) (a1:List TBucket) (r:Int) (H:f_hist_buckets.f a0 a1=some r):Pv.Fn Tryz.prog 91 [.agg (aHist a0),.im (.row (a1.map eBucket))] [] 0 (fun x o=>x=iV .i64 r∧o=[]):=by
 unfold f_hist_buckets.f at H
 refine Fn.bodyK [] Tryz.func91 rfl rfl (fun Γ hP hn => ?_)
 have hm:Tryz.prog.follows .mixedOrders=true:=by kernel_rfl
 replace hn:Γ.n=52:=hn
 refine sr hP hn hm [(0,.k 0)] [(2,.ptr 0 0 0)] [1,2] [(0,some (.box 32 (aHist a0)))] [0] [] (by kernel_rfl) trivial ?_
 refine AWp.seq ?_
 refine sr hP hn hm [(1,.any (iV .i64 (a1.length:Int)))] [(9,bV (decide ((a1.length:Int)>(512:Int))))] [1,2,9] [] [0] [((a1.map eBucket).length:Int)=(a1.length:Int)] (by kernel_rfl) ⟨by rw[len_map],trivial⟩ ?_
 refine AWp.cond (decide ((a1.length:Int)>(512:Int))) (by kernel_rfl) (fun c1531 => ?_) (fun c1531 => ?_)
 ·replace H:=iT c1531 H
  refine sr hP hn hm [] [(4,iV .i64 9)] [4] [] [] [] (by kernel_rfl) trivial ?_
  refine AWp.conv (inv:=[]) (vk:=[]) (e0:=[]) (t:=⟨[(4,iV .i64 9)],[],0⟩) (by kernel_rfl) ?_
  refine AWp.ret ?_
  obtain rfl:=Option.some.inj H
  exact rl (.inl rfl) rfl (by kernel_rfl) (by kernel_rfl)
 ·replace H:=iF c1531 H
  refine AWp.skip ?_
  refine AWp.seq ?_
  refine sr hP hn hm [(1,.any (iV .i64 (a1.length:Int)))] [(10,.im (.row (a1.map eBucket))),(11,iV .i64 (a1.length:Int)),(12,iV .i64 0)] [1,2,10,11,12] [] [0] [((a1.map eBucket).length:Int)=(a1.length:Int)] (by kernel_rfl) ⟨by rw[len_map],trivial⟩ ?_
  refine AWp.block ?_
  obtain⟨o1579,e1580,H⟩:=bind_of H
  refine AWp.loop (LWp.conv (inv:=[(0,2)]) (vk:=[]) (e0:=[]) (t:=⟨[(1,.im (.row (a1.map eBucket))),(2,.ptr 2 0 0),(10,.im (.row (a1.map eBucket))),(11,iV .i64 (a1.length:Int)),(12,iV .i64 0)],[(2,some (.box 32 (aHist a0)))],0⟩) (by kernel_rfl) ?_)
  refine LWp.mono (Q:=fun e s=>(match (generalizing:=false) o1579 with | .inl rr=>e = .ret∧s.floor=0∧resOf Tryz.prog Tryz.f91 s=some (iV .i64 rr)∧([]:List (Nat×Option MObj))=[] | .inr _=>e = .exit 0∧s=⟨[],[],0⟩)) (LWp.cv (withBody (fun body hbody => ?_))) ?_
  ·refine f_hist_buckets.l0.partial_correctness a0 a1 (motive:=fun x1550 o1579=>LWp Γ body (fun e s=>∃ t,Cv Γ s t∧(match (generalizing:=false) o1579 with | .inl rr=>e = .ret∧t.floor=0∧resOf Tryz.prog Tryz.f91 t=some (iV .i64 rr)∧([]:List (Nat×Option MObj))=[] | .inr _=>e = .exit 0∧t=⟨[],[],0⟩)) ⟨[(1,.im (.row (a1.map eBucket))),(2,.ptr 2 0 0),(10,.im (.row (a1.map eBucket))),(11,iV .i64 (a1.length:Int)),(12,iV .i64 x1550)],[(2,some (.box 32 (aHist a0)))],0⟩) ?_ _ _ e1580
   clear H e1580 o1579;intro self ih x1550 o1579 H
   subst hbody
   refine LWp.round ?_
   refine sr hP hn hm [] [(13,bV (decide (x1550<(a1.length:Int))))] [1,2,10,11,12,13] [] [2] [] (by kernel_rfl) trivial ?_
   refine AWp.seq ?_
   refine AWp.cond (decide (x1550<(a1.length:Int))) (by kernel_rfl) (fun c1551 => ?_) (fun c1551 => ?_)
   ·replace H:=iT c1551 H
    refine AWp.skip ?_
    refine AWp.seq ?_
    refine AWp.block ?_
    obtain⟨b1555,p1556,q1557,H⟩:=at_of H
    refine sr hP hn hm [(1,.c (eBucket b1555)),(3,.k 3)] [(5,iV .i64 x1550),(6,.ptr 3 0 0)] [1,2,5,6,10,11,12] [(3,some (.box 89 (aBucket b1555)))] [2,3] [_,_] (by kernel_rfl) ⟨p1556,el_map eBucket q1557,trivial⟩ ?_
    refine AWp.block ?_
    obtain⟨t1560,e1561,H⟩:=bind_of H
    refine sr hP hn hm [(4,.call [] [] [] [] 0 (bV t1560) [])] [(17,bV (!t1560))] [1,2,5,6,10,11,12,17] [] [2,3] [_,_] (by kernel_rfl) ⟨Tryz.call100,f_bound_In.ok a0.f1 b1555.f0 t1560 e1561,trivial⟩ ?_
    refine AWp.cond (!t1560) (by kernel_rfl) (fun c1562 => ?_) (fun c1562 => ?_)
    ·replace H:=iT c1562 H
     refine sr hP hn hm [] [(4,iV .i64 4)] [4] [] [] [] (by kernel_rfl) trivial ?_
     refine AWp.conv (inv:=[]) (vk:=[]) (e0:=[]) (t:=⟨[(4,iV .i64 4)],[],0⟩) (by kernel_rfl) ?_
     refine AWp.ret ?_
     obtain rfl:=Option.some.inj H
     exact rl rfl rfl (by kernel_rfl) (by kernel_rfl)
    ·replace H:=iF c1562 H
     refine AWp.seq ?_
     obtain⟨o1581,e1582,H⟩:=bind_of H
     refine AWp.mono (Q:=fun e s=>(match (generalizing:=false) o1581 with | x1571=>e = .normal∧s=⟨[(1,.im (.row (a1.map eBucket))),(2,.ptr 4 0 0),(6,.ptr 5 0 0),(10,.im (.row (a1.map eBucket))),(11,iV .i64 (a1.length:Int)),(12,iV .i64 x1550),(24,bV x1571)],[(4,some (.box 32 (aHist a0))),(5,some (.box 89 (aBucket b1555)))],0⟩)) (AWp.cv ?_) ?_
     ·replace H:=e1582;clear e1582
      rcases Bool.eq_false_or_eq_true (decide (x1550>(0:Int))) with c1567 | c1567
      ·replace H:=iT c1567 H
       obtain⟨b1568,p1569,q1570,H⟩:=at_of H
       refine rg hP hn hm [(2,.b true),(6,.c (eBucket b1568))] [(24,bV (decide (b1568.f0≥b1555.f0))),(28,.im (.row (a1.map eBucket))),(29,iV .i64 x1550),(30,iV .i64 (i64.wrap (x1550-(1:Int)))),(31,.ip [iI .i64 b1568.f0,iI .u64 b1568.f1]),(32,.ip [iI .i64 b1568.f0,iI .u64 b1568.f1]),(33,iV .i64 b1568.f0),(34,.ptr 3 0 0),(35,iV .i64 b1555.f0),(36,bV (decide (b1568.f0≥b1555.f0)))] [1,2,6,10,11,12,24,28,29,30,31,32,33,34,35,36] [] [2,3] [_,_,_] (by kernel_rfl) ⟨c1567,p1569,el_map eBucket q1570,trivial⟩ ?_
       obtain rfl:=Option.some.inj H
       exact lf [(2,4),(3,5)] [] [] (by kernel_rfl) ⟨rfl,rfl⟩
      ·replace H:=iF c1567 H
       refine rg hP hn hm [(2,.b false)] [(24,bV false)] [1,2,6,10,11,12,24] [] [2,3] [_] (by kernel_rfl) ⟨c1567,trivial⟩ ?_
       obtain rfl:=Option.some.inj H
       exact lf [(2,4),(3,5)] [] [] (by kernel_rfl) ⟨rfl,rfl⟩
     ·obtain⟨x1571,rfl⟩:∃ z,z=o1581:=⟨_,rfl⟩
      rintro e s ⟨rfl,rfl⟩
      refine AWp.cond x1571 (by kernel_rfl) (fun c1572 => ?_) (fun c1572 => ?_)
      ·replace H:=iT c1572 H
       refine sr hP hn hm [] [(4,iV .i64 32)] [4] [] [] [] (by kernel_rfl) trivial ?_
       refine AWp.conv (inv:=[]) (vk:=[]) (e0:=[]) (t:=⟨[(4,iV .i64 32)],[],0⟩) (by kernel_rfl) ?_
       refine AWp.ret ?_
       obtain rfl:=Option.some.inj H
       exact rl rfl rfl (by kernel_rfl) (by kernel_rfl)
      ·replace H:=iF c1572 H
       refine sr hP hn hm [] [(38,bV (b1555.f1==(0:Int)))] [1,2,6,10,11,12,38] [] [4,5] [] (by kernel_rfl) trivial ?_
       refine AWp.cond (b1555.f1==(0:Int)) (by kernel_rfl) (fun c1573 => ?_) (fun c1573 => ?_)
       ·replace H:=iT c1573 H
        refine sr hP hn hm [] [(4,iV .i64 21)] [4] [] [] [] (by kernel_rfl) trivial ?_
        refine AWp.conv (inv:=[]) (vk:=[]) (e0:=[]) (t:=⟨[(4,iV .i64 21)],[],0⟩) (by kernel_rfl) ?_
        refine AWp.ret ?_
        obtain rfl:=Option.some.inj H
        exact rl rfl rfl (by kernel_rfl) (by kernel_rfl)
       ·replace H:=iF c1573 H
        obtain⟨t1576,e1577,H⟩:=bind_of H
        refine sr hP hn hm [(4,.call [] [] [] [] 0 (iV .i64 t1576) [])] [(42,bV (decide (t1576<a0.f2)))] [1,2,10,11,12,42] [] [4] [_,_] (by kernel_rfl) ⟨Tryz.call70,f_bound_Low.ok a0.f1 b1555.f0 t1576 e1577,trivial⟩ ?_
        refine AWp.cond (decide (t1576<a0.f2)) (by kernel_rfl) (fun c1578 => ?_) (fun c1578 => ?_)
        ·replace H:=iT c1578 H
         refine sr hP hn hm [] [(4,iV .i64 31)] [4] [] [] [] (by kernel_rfl) trivial ?_
         refine AWp.conv (inv:=[]) (vk:=[]) (e0:=[]) (t:=⟨[(4,iV .i64 31)],[],0⟩) (by kernel_rfl) ?_
         refine AWp.ret ?_
         obtain rfl:=Option.some.inj H
         exact rl rfl rfl (by kernel_rfl) (by kernel_rfl)
        ·replace H:=iF c1578 H
         refine AWp.skip ?_
         refine rg hP hn hm [] [(12,iV .i64 (i64.wrap (x1550+(1:Int))))] [1,2,10,11,12] [] [4] [] (by kernel_rfl) trivial ?_
         exact LWp.conv [(4,2)] [] [] (by kernel_rfl) (ih _ _ H)
   ·replace H:=iF c1551 H
    refine AWp.exit ?_
    obtain rfl:=Option.some.inj H
    exact lf [] [] [] (by kernel_rfl) ⟨rfl,rfl⟩
  ·rcases o1579 with rr | _
   ·skip
    rintro e s ⟨rfl,hfl,hres⟩
    obtain rfl:=Option.some.inj H
    exact Exists.intro _ (And.intro (fun _ _ h=>h) (And.intro (.inl rfl) (And.intro hfl hres)))
   ·skip
    rintro e s ⟨rfl,rfl⟩
    refine sr hP hn hm [] [(4,iV .i64 0)] [4] [] [] [] (by kernel_rfl) trivial ?_
    refine AWp.conv (inv:=[]) (vk:=[]) (e0:=[]) (t:=⟨[(4,iV .i64 0)],[],0⟩) (by kernel_rfl) ?_
    refine AWp.ret ?_
    obtain rfl:=Option.some.inj H
    exact rl (.inl rfl) rfl (by kernel_rfl) (by kernel_rfl)
def f_hist_Check.l0 (a0:THist) (x1588:Int):Option (Int ⊕ Unit):=if(decide (x1588<(2:Int)))=true then((((chk (0≤x1588∧x1588<(2:Int)))>>=fun _=>if(x1588==(0:Int))=true then(some a0.f6) else(some a0.f7)):Option (List TBucket))>>=fun x1594=>(f_hist_buckets.f a0 x1594)>>=fun t1597=>if(t1597 != (0:Int))=true then(some (.inl t1597)) else(f_hist_Check.l0 a0 (i64.wrap (x1588+(1:Int))))) else(some (.inr ()))
partial_fixpoint
def f_hist_Check.f (a0:THist):Option (Int):=((if(a0.f0 != (0:Int))=true then(some (a0.f0 != (1:Int))) else(some false)):Option (Bool))>>=fun x1518=>if x1518=true then(some 25) else((f_bound_Right.f a0.f1)>>=fun t1522=>if(!t1522)=true then(some 20) else(((if(a0.f2 != (-524288))=true then(if(decide (a0.f2≤(-262144)))=true then(some true) else(some (decide (a0.f2>(262144:Int))))) else(some false)):Option (Bool))>>=fun x1529=>if x1529=true then(some 31) else((f_hist_Check.l0 a0 0)>>=fun oo=>match oo with | .inl rr=>(some rr) | .inr _=>((f_hist_total.f [a0.f6,a0.f7,[(⟨0,a0.f3⟩:TBucket)]])>>=fun t1602=>if(t1602.2 != (0:Int))=true then(some t1602.2) else(if(t1602.1 != a0.f4)=true then(some 21) else(some 0))))))
theorem f_hist_Check.ok (a0:THist) (r:Int) (H:f_hist_Check.f a0=some r):Pv.Fn Tryz.prog 77 [.agg (aHist a0)] [] 0 (fun x o=>x=iV .i64 r∧o=[]):=by
 unfold f_hist_Check.f at H
 refine Fn.bodyK [] Tryz.func77 rfl rfl (fun Γ hP hn => ?_)
 have hm:Tryz.prog.follows .mixedOrders=true:=by kernel_rfl
 replace hn:Γ.n=73:=hn
 refine sr hP hn hm [(0,.k 0)] [(1,.ptr 0 0 0)] [1] [(0,some (.box 32 (aHist a0)))] [0] [] (by kernel_rfl) trivial ?_
 refine AWp.seq ?_
 refine AWp.block ?_
 refine AWp.seq ?_
 obtain⟨o1606,e1607,H⟩:=bind_of H
 refine AWp.mono (Q:=fun e s=>(match (generalizing:=false) o1606 with | x1518=>e = .normal∧s=⟨[(1,.ptr 1 0 0),(8,bV x1518)],[(1,some (.box 32 (aHist a0)))],0⟩)) (AWp.cv ?_) ?_
 ·replace H:=e1607;clear e1607
  rcases Bool.eq_false_or_eq_true (a0.f0 != (0:Int)) with c1517 | c1517
  ·replace H:=iT c1517 H
   refine rg hP hn hm [(3,.b true)] [(8,bV (a0.f0 != (1:Int)))] [1,8] [] [0] [_] (by kernel_rfl) ⟨c1517,trivial⟩ ?_
   obtain rfl:=Option.some.inj H
   exact lf [(0,1)] [] [] (by kernel_rfl) ⟨rfl,rfl⟩
  ·replace H:=iF c1517 H
   refine rg hP hn hm [(3,.b false)] [(8,bV false)] [1,8] [] [0] [_] (by kernel_rfl) ⟨c1517,trivial⟩ ?_
   obtain rfl:=Option.some.inj H
   exact lf [(0,1)] [] [] (by kernel_rfl) ⟨rfl,rfl⟩
 ·obtain⟨x1518,rfl⟩:∃ z,z=o1606:=⟨_,rfl⟩
  rintro e s ⟨rfl,rfl⟩
  refine AWp.cond x1518 (by kernel_rfl) (fun c1519 => ?_) (fun c1519 => ?_)
  ·replace H:=iT c1519 H
   refine sr hP hn hm [] [(2,iV .i64 25)] [2] [] [] [] (by kernel_rfl) trivial ?_
   refine AWp.conv (inv:=[]) (vk:=[]) (e0:=[]) (t:=⟨[(2,iV .i64 25)],[],0⟩) (by kernel_rfl) ?_
   refine AWp.ret ?_
   obtain rfl:=Option.some.inj H
   exact rl (.inl rfl) rfl (by kernel_rfl) (by kernel_rfl)
  ·replace H:=iF c1519 H
   obtain⟨t1522,e1523,H⟩:=bind_of H
   refine sr hP hn hm [(2,.call [] [] [] [] 0 (bV t1522) [])] [(17,bV (!t1522))] [1,17] [] [1] [_,_] (by kernel_rfl) ⟨Tryz.call84,f_bound_Right.ok a0.f1 t1522 e1523,trivial⟩ ?_
   refine AWp.cond (!t1522) (by kernel_rfl) (fun c1524 => ?_) (fun c1524 => ?_)
   ·replace H:=iT c1524 H
    refine sr hP hn hm [] [(2,iV .i64 20)] [2] [] [] [] (by kernel_rfl) trivial ?_
    refine AWp.conv (inv:=[]) (vk:=[]) (e0:=[]) (t:=⟨[(2,iV .i64 20)],[],0⟩) (by kernel_rfl) ?_
    refine AWp.ret ?_
    obtain rfl:=Option.some.inj H
    exact rl (.inl rfl) rfl (by kernel_rfl) (by kernel_rfl)
   ·replace H:=iF c1524 H
    refine AWp.seq ?_
    obtain⟨o1608,e1609,H⟩:=bind_of H
    refine AWp.mono (Q:=fun e s=>(match (generalizing:=false) o1608 with | x1529=>e = .normal∧s=⟨[(1,.ptr 2 0 0),(22,bV x1529)],[(2,some (.box 32 (aHist a0)))],0⟩)) (AWp.cv ?_) ?_
    ·replace H:=e1609;clear e1609
     rcases Bool.eq_false_or_eq_true (a0.f2 != (-524288)) with c1527 | c1527
     ·replace H:=iT c1527 H
      rcases Bool.eq_false_or_eq_true (decide (a0.f2≤(-262144))) with c1528 | c1528
      ·replace H:=iT c1528 H
       refine rg hP hn hm [(3,.b true),(7,.b true)] [(22,bV true)] [1,22] [] [1] [_,_] (by kernel_rfl) ⟨c1527,c1528,trivial⟩ ?_
       obtain rfl:=Option.some.inj H
       exact lf [(1,2)] [] [] (by kernel_rfl) ⟨rfl,rfl⟩
      ·replace H:=iF c1528 H
       refine rg hP hn hm [(3,.b true),(7,.b false)] [(22,bV (decide (a0.f2>(262144:Int))))] [1,22] [] [1] [_,_] (by kernel_rfl) ⟨c1527,c1528,trivial⟩ ?_
       obtain rfl:=Option.some.inj H
       exact lf [(1,2)] [] [] (by kernel_rfl) ⟨rfl,rfl⟩
     ·replace H:=iF c1527 H
      refine rg hP hn hm [(3,.b false)] [(22,bV false)] [1,22] [] [1] [_] (by kernel_rfl) ⟨c1527,trivial⟩ ?_
      obtain rfl:=Option.some.inj H
      exact lf [(1,2)] [] [] (by kernel_rfl) ⟨rfl,rfl⟩
    ·obtain⟨x1529,rfl⟩:∃ z,z=o1608:=⟨_,rfl⟩
     rintro e s ⟨rfl,rfl⟩
     refine AWp.cond x1529 (by kernel_rfl) (fun c1530 => ?_) (fun c1530 => ?_)
     ·replace H:=iT c1530 H
      refine sr hP hn hm [] [(2,iV .i64 31)] [2] [] [] [] (by kernel_rfl) trivial ?_
      refine AWp.conv (inv:=[]) (vk:=[]) (e0:=[]) (t:=⟨[(2,iV .i64 31)],[],0⟩) (by kernel_rfl) ?_
      refine AWp.ret ?_
      obtain rfl:=Option.some.inj H
      exact rl (.inl rfl) rfl (by kernel_rfl) (by kernel_rfl)
     ·replace H:=iF c1530 H
      refine AWp.skip ?_
      refine AWp.seq ?_
      refine sr hP hn hm [] [(40,.agg [.im (.row (a0.f6.map eBucket)),.im (.row (a0.f7.map eBucket))]),(41,iV .i64 0)] [1,40,41] [] [2] [] (by kernel_rfl) trivial ?_
      refine AWp.block ?_
      obtain⟨o1610,e1611,H⟩:=bind_of H
      refine AWp.loop (LWp.conv (inv:=[(2,3)]) (vk:=[]) (e0:=[]) (t:=⟨[(1,.ptr 3 0 0),(40,.agg [.im (.row (a0.f6.map eBucket)),.im (.row (a0.f7.map eBucket))]),(41,iV .i64 0)],[(3,some (.box 32 (aHist a0)))],0⟩) (by kernel_rfl) ?_)
      refine LWp.mono (Q:=fun e s=>(match (generalizing:=false) o1610 with | .inl rr=>e = .ret∧s.floor=0∧resOf Tryz.prog Tryz.f77 s=some (iV .i64 rr)∧([]:List (Nat×Option MObj))=[] | .inr _=>e = .exit 1∧s=⟨[(1,.ptr 5 0 0)],[(5,some (.box 32 (aHist a0)))],0⟩)) (LWp.cv (withBody (fun body hbody => ?_))) ?_
      ·refine f_hist_Check.l0.partial_correctness a0 (motive:=fun x1588 o1610=>LWp Γ body (fun e s=>∃ t,Cv Γ s t∧(match (generalizing:=false) o1610 with | .inl rr=>e = .ret∧t.floor=0∧resOf Tryz.prog Tryz.f77 t=some (iV .i64 rr)∧([]:List (Nat×Option MObj))=[] | .inr _=>e = .exit 1∧t=⟨[(1,.ptr 5 0 0)],[(5,some (.box 32 (aHist a0)))],0⟩)) ⟨[(1,.ptr 3 0 0),(40,.agg [.im (.row (a0.f6.map eBucket)),.im (.row (a0.f7.map eBucket))]),(41,iV .i64 x1588)],[(3,some (.box 32 (aHist a0)))],0⟩) ?_ _ _ e1611
       clear H e1611 o1610;intro self ih x1588 o1610 H
       subst hbody
       refine LWp.round ?_
       refine sr hP hn hm [] [(42,bV (decide (x1588<(2:Int))))] [1,40,41,42] [] [3] [] (by kernel_rfl) trivial ?_
       refine AWp.seq ?_
       refine AWp.cond (decide (x1588<(2:Int))) (by kernel_rfl) (fun c1589 => ?_) (fun c1589 => ?_)
       ·replace H:=iT c1589 H
        refine AWp.skip ?_
        refine AWp.seq ?_
        refine AWp.block ?_
        refine AWp.seq ?_
        obtain⟨o1612,e1613,H⟩:=bind_of H
        refine AWp.mono (Q:=fun e s=>(match (generalizing:=false) o1612 with | x1594=>e = .normal∧s=⟨[(1,.ptr 4 0 0),(4,.im (.row (x1594.map eBucket))),(40,.agg [.im (.row (a0.f6.map eBucket)),.im (.row (a0.f7.map eBucket))]),(41,iV .i64 x1588)],[(4,some (.box 32 (aHist a0)))],0⟩)) (AWp.cv ?_) ?_
        ·replace H:=e1613;clear e1613
         obtain⟨c1592,H⟩:=chk_of H
         rcases Bool.eq_false_or_eq_true (x1588==(0:Int)) with c1593 | c1593
         ·replace H:=iT c1593 H
          refine rg hP hn hm [(0,.more (xIdx 0))] [(4,.im (.row (a0.f6.map eBucket)))] [1,4,40,41] [] [3] [x1588=((0:Nat):Int)] (by kernel_rfl) ⟨by exact(by simpa using c1593),trivial⟩ ?_
          obtain rfl:=Option.some.inj H
          exact lf [(3,4)] [] [] (by kernel_rfl) ⟨rfl,rfl⟩
         ·replace H:=iF c1593 H
          refine rg hP hn hm [(0,.more (xIdx 1))] [(4,.im (.row (a0.f7.map eBucket)))] [1,4,40,41] [] [3] [x1588=((1:Nat):Int)] (by kernel_rfl) ⟨by have:=c1592;simp only[beq_eq_false_iff_ne] at *;omega,trivial⟩ ?_
          obtain rfl:=Option.some.inj H
          exact lf [(3,4)] [] [] (by kernel_rfl) ⟨rfl,rfl⟩
        ·obtain⟨x1594,rfl⟩:∃ z,z=o1612:=⟨_,rfl⟩
         rintro e s ⟨rfl,rfl⟩
         obtain⟨t1597,e1598,H⟩:=bind_of H
         refine sr hP hn hm [(2,.call [] [] [] [] 0 (iV .i64 t1597) [])] [(5,iV .i64 t1597)] [1,5,40,41] [] [4] [_,_] (by kernel_rfl) ⟨Tryz.call91,f_hist_buckets.ok a0 x1594 t1597 e1598,trivial⟩ ?_
         refine sr hP hn hm [] [(48,bV (t1597 != (0:Int)))] [1,5,40,41,48] [] [4] [] (by kernel_rfl) trivial ?_
         refine AWp.cond (t1597 != (0:Int)) (by kernel_rfl) (fun c1599 => ?_) (fun c1599 => ?_)
         ·replace H:=iT c1599 H
          refine sr hP hn hm [] [(2,iV .i64 t1597)] [2] [] [] [] (by kernel_rfl) trivial ?_
          refine AWp.conv (inv:=[]) (vk:=[]) (e0:=[]) (t:=⟨[(2,iV .i64 t1597)],[],0⟩) (by kernel_rfl) ?_
          refine AWp.ret ?_
          obtain rfl:=Option.some.inj H
          exact rl rfl rfl (by kernel_rfl) (by kernel_rfl)
         ·replace H:=iF c1599 H
          refine AWp.skip ?_
          refine rg hP hn hm [] [(41,iV .i64 (i64.wrap (x1588+(1:Int))))] [1,40,41] [] [4] [] (by kernel_rfl) trivial ?_
          exact LWp.conv [(4,3)] [] [] (by kernel_rfl) (ih _ _ H)
       ·replace H:=iF c1589 H
        refine AWp.exit ?_
        obtain rfl:=Option.some.inj H
        exact lf [(3,5)] [] [] (by kernel_rfl) ⟨rfl,rfl⟩
      ·rcases o1610 with rr | _
       ·skip
        rintro e s ⟨rfl,hfl,hres⟩
        obtain rfl:=Option.some.inj H
        exact Exists.intro _ (And.intro (fun _ _ h=>h) (And.intro (.inl rfl) (And.intro hfl hres)))
       ·skip
        rintro e s ⟨rfl,rfl⟩
        obtain⟨t1602,e1603,H⟩:=bind_of H
        refine sr hP hn hm [(7,.more (xFz (.app 6 ([(⟨0,a0.f3⟩:TBucket)].map eBucket)))),(8,.app 7 ([a0.f6,a0.f7,[(⟨0,a0.f3⟩:TBucket)]].map (encRow eBucket))),(9,.call [] [] [7] [] 0 (.tup [iV .u64 t1602.1,iV .i64 t1602.2]) [])] [(6,iV .u64 t1602.1),(7,iV .i64 t1602.2)] [1,6,7] [] [5] [[(⟨0,a0.f3⟩:TBucket)].map eBucket=[[iI .i64 0,iI .u64 a0.f3]],[a0.f6,a0.f7,[(⟨0,a0.f3⟩:TBucket)]].map (encRow eBucket)=[[.row (a0.f6.map eBucket)],[.row (a0.f7.map eBucket)],[.row ([(⟨0,a0.f3⟩:TBucket)].map eBucket)]],_,_] (by kernel_rfl) ⟨by exact rfl,by exact rfl,Tryz.call76,f_hist_total.ok [a0.f6,a0.f7,[(⟨0,a0.f3⟩:TBucket)]] t1602 e1603,trivial⟩ ?_
        refine AWp.seq ?_
        refine AWp.block ?_
        refine sr hP hn hm [] [(64,bV (t1602.2 != (0:Int)))] [1,6,7,64] [] [5] [] (by kernel_rfl) trivial ?_
        refine AWp.cond (t1602.2 != (0:Int)) (by kernel_rfl) (fun c1604 => ?_) (fun c1604 => ?_)
        ·replace H:=iT c1604 H
         refine sr hP hn hm [] [(2,iV .i64 t1602.2)] [2] [] [] [] (by kernel_rfl) trivial ?_
         refine AWp.conv (inv:=[]) (vk:=[]) (e0:=[]) (t:=⟨[(2,iV .i64 t1602.2)],[],0⟩) (by kernel_rfl) ?_
         refine AWp.ret ?_
         obtain rfl:=Option.some.inj H
         exact rl (.inl rfl) rfl (by kernel_rfl) (by kernel_rfl)
        ·replace H:=iF c1604 H
         refine sr hP hn hm [] [(68,bV (t1602.1 != a0.f4))] [68] [] [] [] (by kernel_rfl) trivial ?_
         refine AWp.cond (t1602.1 != a0.f4) (by kernel_rfl) (fun c1605 => ?_) (fun c1605 => ?_)
         ·replace H:=iT c1605 H
          refine sr hP hn hm [] [(2,iV .i64 21)] [2] [] [] [] (by kernel_rfl) trivial ?_
          refine AWp.conv (inv:=[]) (vk:=[]) (e0:=[]) (t:=⟨[(2,iV .i64 21)],[],0⟩) (by kernel_rfl) ?_
          refine AWp.ret ?_
          obtain rfl:=Option.some.inj H
          exact rl (.inl rfl) rfl (by kernel_rfl) (by kernel_rfl)
         ·replace H:=iF c1605 H
          refine AWp.skip ?_
          refine sr hP hn hm [] [(2,iV .i64 0)] [2] [] [] [] (by kernel_rfl) trivial ?_
          refine AWp.conv (inv:=[]) (vk:=[]) (e0:=[]) (t:=⟨[(2,iV .i64 0)],[],0⟩) (by kernel_rfl) ?_
          refine AWp.ret ?_
          obtain rfl:=Option.some.inj H
          exact rl (.inl rfl) rfl (by kernel_rfl) (by kernel_rfl)
def f_hist_Make.f (a0:THist) (a1:List TBucket) (a2:List TBucket):Option (THist×Int):=(f_hist_tidy.f a1)>>=fun t1427=>(f_hist_tidy.f a2)>>=fun t1431=>if((if t1431.2>t1427.2 then t1431.2 else t1427.2) != (0:Int))=true then(some ((⟨0,0,0,0,0,0,[],[]⟩:THist),(if t1431.2>t1427.2 then t1431.2 else t1427.2))) else((f_hist_total.f [t1427.1,t1431.1,[(⟨0,a0.f3⟩:TBucket)]])>>=fun t1513=>if(t1513.2 != (0:Int))=true then(some ((⟨0,0,0,0,0,0,[],[]⟩:THist),t1513.2)) else((f_hist_Check.f (⟨a0.f0,a0.f1,a0.f2,a0.f3,t1513.1,a0.f5,t1427.1,t1431.1⟩:THist))>>=fun t1616=>if(t1616 != (0:Int))=true then(some ((⟨0,0,0,0,0,0,[],[]⟩:THist),t1616)) else(some ((⟨a0.f0,a0.f1,a0.f2,a0.f3,t1513.1,a0.f5,t1427.1,t1431.1⟩:THist),0))))
theorem f_hist_Make.ok (a0:THist) (a1:List TBucket) (a2:List TBucket) (r:THist×Int) (H:f_hist_Make.f a0 a1 a2=some r):Pv.Fn Tryz.prog 61 [.agg (aHist a0),.im (.row (a1.map eBucket)),.im (.row (a2.map eBucket))] [] 0 (fun x o=>x = .tup [.agg (aHist (r.1)),iV .i64 r.2]∧o=[]):=by
 unfold f_hist_Make.f at H
 refine Fn.bodyK [] Tryz.func61 rfl rfl (fun Γ hP hn => ?_)
 have hm:Tryz.prog.follows .mixedOrders=true:=by kernel_rfl
 replace hn:Γ.n=55:=hn
 refine sr hP hn hm [(0,.k 0),(1,.k 1)] [(3,.ptr 0 0 0),(6,.ptr 1 0 0)] [1,2,3,6] [(0,some (.box 32 (aHist a0))),(1,some (.box 32 [iV .i64 0,iV .i64 0,iV .i64 0,iV .u64 0,iV .u64 0,iV .i64 0,.none0,.none0]))] [0,1] [] (by kernel_rfl) trivial ?_
 refine sr hP hn hm [] [] [1,2,3,6] [] [0,1] [] (by kernel_rfl) trivial ?_
 obtain⟨t1427,e1428,H⟩:=bind_of H
 refine sr hP hn hm [(1,.call [] [(0,2)] [] [2] 0 (.tup [.own 0,iV .i64 t1427.2]) [(0,some (.row 2 89 (t1427.1.map eBucket)))])] [(8,iV .i64 t1427.2)] [2,3,6,8] [(0,some (.box 32 [iV .i64 a0.f0,iV .i64 a0.f1,iV .i64 a0.f2,iV .u64 a0.f3,iV .u64 a0.f4,iV .i64 a0.f5,.own 2,.im (.row (a0.f7.map eBucket))])),(2,some (.row 2 89 (t1427.1.map eBucket)))] [0,1,2] [_,_] (by kernel_rfl) ⟨Tryz.call75,f_hist_tidy.ok a1 t1427 e1428,trivial⟩ ?_
 obtain⟨t1431,e1432,H⟩:=bind_of H
 refine sr hP hn hm [(1,.call [] [(0,3)] [] [3] 0 (.tup [.own 0,iV .i64 t1431.2]) [(0,some (.row 2 89 (t1431.1.map eBucket)))])] [(9,iV .i64 t1431.2)] [3,6,8,9] [(0,some (.box 32 [iV .i64 a0.f0,iV .i64 a0.f1,iV .i64 a0.f2,iV .u64 a0.f3,iV .u64 a0.f4,iV .i64 a0.f5,.own 2,.own 3])),(3,some (.row 2 89 (t1431.1.map eBucket)))] [0,1,2,3] [_,_] (by kernel_rfl) ⟨Tryz.call75,f_hist_tidy.ok a2 t1431 e1432,trivial⟩ ?_
 refine AWp.seq ?_
 refine sr hP hn hm [(2,.more xMax)] [(8,iV .i64 (if t1431.2>t1427.2 then t1431.2 else t1427.2))] [3,6,8] [] [0,1,2,3] [] (by kernel_rfl) trivial ?_
 refine sr hP hn hm [] [(27,bV ((if t1431.2>t1427.2 then t1431.2 else t1427.2) != (0:Int)))] [3,6,8,27] [] [0,1,2,3] [] (by kernel_rfl) trivial ?_
 refine AWp.cond ((if t1431.2>t1427.2 then t1431.2 else t1427.2) != (0:Int)) (by kernel_rfl) (fun c1433 => ?_) (fun c1433 => ?_)
 ·replace H:=iT c1433 H
  refine sr hP hn hm [] [(7,iV .i64 (if t1431.2>t1427.2 then t1431.2 else t1427.2))] [6,7] [] [1] [] (by kernel_rfl) trivial ?_
  refine AWp.conv (inv:=[(1,0)]) (vk:=[]) (e0:=[]) (t:=⟨[(6,.ptr 0 0 0),(7,iV .i64 (if t1431.2>t1427.2 then t1431.2 else t1427.2))],[(0,some (.box 32 (aHist ((⟨0,0,0,0,0,0,[],[]⟩:THist)))))],0⟩) (by kernel_rfl) ?_
  refine AWp.ret ?_
  obtain rfl:=Option.some.inj H
  exact rl (.inl rfl) rfl (by kernel_rfl) (by kernel_rfl)
 ·replace H:=iF c1433 H
  refine AWp.skip ?_
  refine AWp.seq ?_
  refine AWp.seq ?_
  refine AWp.conv (inv:=[(0,0),(1,1)]) (vk:=[2,3]) (e0:=[]) (t:=⟨[(3,.ptr 0 0 0),(6,.ptr 1 0 0),(8,iV .i64 (if t1431.2>t1427.2 then t1431.2 else t1427.2)),(27,bV ((if t1431.2>t1427.2 then t1431.2 else t1427.2) != (0:Int)))],[(0,some (.box 32 (aHist ⟨a0.f0,a0.f1,a0.f2,a0.f3,a0.f4,a0.f5,t1427.1,t1431.1⟩))),(1,some (.box 32 [iV .i64 0,iV .i64 0,iV .i64 0,iV .u64 0,iV .u64 0,iV .i64 0,.none0,.none0]))],0⟩) (by kernel_rfl) ?_
  obtain⟨t1513,e1514,H⟩:=bind_of H
  refine rg hP hn hm [(7,.more (xFz (.app 4 ([(⟨0,a0.f3⟩:TBucket)].map eBucket)))),(8,.app 5 ([t1427.1,t1431.1,[(⟨0,a0.f3⟩:TBucket)]].map (encRow eBucket))),(9,.call [] [] [5] [] 0 (.tup [iV .u64 t1513.1,iV .i64 t1513.2]) [])] [(8,iV .i64 t1513.2)] [3,6,8] [(0,some (.box 32 (aHist ⟨a0.f0,a0.f1,a0.f2,a0.f3,t1513.1,a0.f5,t1427.1,t1431.1⟩)))] [0,1] [[(⟨0,a0.f3⟩:TBucket)].map eBucket=[[iI .i64 0,iI .u64 a0.f3]],[t1427.1,t1431.1,[(⟨0,a0.f3⟩:TBucket)]].map (encRow eBucket)=[[.row (t1427.1.map eBucket)],[.row (t1431.1.map eBucket)],[.row ([(⟨0,a0.f3⟩:TBucket)].map eBucket)]],_,_] (by kernel_rfl) ⟨by exact rfl,by exact rfl,Tryz.call76,f_hist_total.ok [t1427.1,t1431.1,[(⟨0,a0.f3⟩:TBucket)]] t1513 e1514,trivial⟩ ?_
  refine sr hP hn hm [] [(45,bV (t1513.2 != (0:Int)))] [3,6,8,45] [] [0,1] [] (by kernel_rfl) trivial ?_
  refine AWp.cond (t1513.2 != (0:Int)) (by kernel_rfl) (fun c1515 => ?_) (fun c1515 => ?_)
  ·replace H:=iT c1515 H
   refine sr hP hn hm [] [(7,iV .i64 t1513.2)] [6,7] [] [1] [] (by kernel_rfl) trivial ?_
   refine AWp.conv (inv:=[(1,0)]) (vk:=[]) (e0:=[]) (t:=⟨[(6,.ptr 0 0 0),(7,iV .i64 t1513.2)],[(0,some (.box 32 (aHist ((⟨0,0,0,0,0,0,[],[]⟩:THist)))))],0⟩) (by kernel_rfl) ?_
   refine AWp.ret ?_
   obtain rfl:=Option.some.inj H
   exact rl (.inl rfl) rfl (by kernel_rfl) (by kernel_rfl)
  ·replace H:=iF c1515 H
   refine AWp.skip ?_
   refine AWp.seq ?_
   obtain⟨t1616,e1617,H⟩:=bind_of H
   refine sr hP hn hm [(1,.call [] [] [] [] 0 (iV .i64 t1616) [])] [(10,iV .i64 t1616)] [3,6,10] [] [0,1] [_,_] (by kernel_rfl) ⟨Tryz.call77,f_hist_Check.ok (⟨a0.f0,a0.f1,a0.f2,a0.f3,t1513.1,a0.f5,t1427.1,t1431.1⟩:THist) t1616 e1617,trivial⟩ ?_
   refine sr hP hn hm [] [(51,bV (t1616 != (0:Int)))] [3,6,10,51] [] [0,1] [] (by kernel_rfl) trivial ?_
   refine AWp.cond (t1616 != (0:Int)) (by kernel_rfl) (fun c1618 => ?_) (fun c1618 => ?_)
   ·replace H:=iT c1618 H
    refine sr hP hn hm [] [(7,iV .i64 t1616)] [6,7] [] [1] [] (by kernel_rfl) trivial ?_
    refine AWp.conv (inv:=[(1,0)]) (vk:=[]) (e0:=[]) (t:=⟨[(6,.ptr 0 0 0),(7,iV .i64 t1616)],[(0,some (.box 32 (aHist ((⟨0,0,0,0,0,0,[],[]⟩:THist)))))],0⟩) (by kernel_rfl) ?_
    refine AWp.ret ?_
    obtain rfl:=Option.some.inj H
    exact rl (.inl rfl) rfl (by kernel_rfl) (by kernel_rfl)
   ·replace H:=iF c1618 H
    refine AWp.skip ?_
    refine sr hP hn hm [] [(7,iV .i64 0)] [6,7] [(1,some (.box 32 (aHist ⟨a0.f0,a0.f1,a0.f2,a0.f3,t1513.1,a0.f5,t1427.1,t1431.1⟩)))] [1] [] (by kernel_rfl) trivial ?_
    refine AWp.conv (inv:=[(1,0)]) (vk:=[]) (e0:=[]) (t:=⟨[(6,.ptr 0 0 0),(7,iV .i64 0)],[(0,some (.box 32 (aHist ((⟨a0.f0,a0.f1,a0.f2,a0.f3,t1513.1,a0.f5,t1427.1,t1431.1⟩:THist)))))],0⟩) (by kernel_rfl) ?_
    refine AWp.ret ?_
    obtain rfl:=Option.some.inj H
    exact rl (.inl rfl) rfl (by kernel_rfl) (by kernel_rfl)
def f_meld_swallow.f (a0:THist) (a1:List TBucket) (a2:List TBucket) (a3:Int):Option (THist×Int):=(f_meld_edge.f a0 a1 a3)>>=fun t657=>(f_meld_edge.f a0 a2 a3)>>=fun t659=>(f_meld_swallow_1_8ce.f a1 a0.f0 a0.f1 a0.f2 a0.f3 a0.f4 a0.f5 a0.f6 a0.f7 (if t659>t657 then t659 else t657))>>=fun t739=>(f_meld_swallow_1_8ce.f a2 a0.f0 a0.f1 a0.f2 t739.2 a0.f4 a0.f5 a0.f6 a0.f7 (if t659>t657 then t659 else t657))>>=fun t741=>(f_hist_Make.f (⟨a0.f0,a0.f1,(if t659>t657 then t659 else t657),t741.2,a0.f4,a0.f5,a0.f6,a0.f7⟩:THist) t739.1 t741.1)>>=fun t1623=>some ((t1623.1),t1623.2)
theorem f_meld_swallow.ok (a0:THist) (a1:List TBucket) (a2:List TBucket) (a3:Int) (r:THist×Int) (H:f_meld_swallow.f a0 a1 a2 a3=some r):Pv.Fn Tryz.prog 87 [.agg (aHist a0),.im (.row (a1.map eBucket)),.im (.row (a2.map eBucket)),iV .i64 a3] [] 0 (fun x o=>x = .tup [.agg (aHist (r.1)),iV .i64 r.2]∧o=[]):=by
 unfold f_meld_swallow.f at H
 refine Fn.bodyK [] Tryz.func87 rfl rfl (fun Γ hP hn => ?_)
 have hm:Tryz.prog.follows .mixedOrders=true:=by kernel_rfl
 replace hn:Γ.n=35:=hn
 refine sr hP hn hm [(0,.k 0),(1,.k 1),(2,.k 2)] [(4,.ptr 0 0 0),(7,.ptr 1 0 0),(8,.ptr 2 0 0)] [1,2,4,7,8] [(0,some (.box 32 (aHist a0))),(1,some (.box 3 [iV .i64 a3])),(2,some (.box 32 [iV .i64 0,iV .i64 0,iV .i64 0,iV .u64 0,iV .u64 0,iV .i64 0,.none0,.none0]))] [0,1,2] [] (by kernel_rfl) trivial ?_
 obtain⟨t657,e658,H⟩:=bind_of H
 obtain⟨t659,e660,H⟩:=bind_of H
 refine sr hP hn hm [(3,.call [] [] [] [] 0 (iV .i64 t657) []),(7,.call [] [] [] [] 0 (iV .i64 t659) []),(8,.more xMax)] [] [1,2,4,7,8] [(1,some (.box 3 [iV .i64 (if t659>t657 then t659 else t657)]))] [0,1,2] [_,_,_,_] (by kernel_rfl) ⟨Tryz.call96,f_meld_edge.ok a0 a1 a3 t657 e658,Tryz.call96,f_meld_edge.ok a0 a2 a3 t659 e660,trivial⟩ ?_
 refine sr hP hn hm [(0,.more xFunc)] [(10,.fn 97 [.ptr 0 0 0,.ptr 1 0 0])] [1,2,4,7,8,10] [] [0,1,2] [] (by kernel_rfl) trivial ?_
 obtain⟨t739,e740,H⟩:=bind_of H
 obtain⟨t741,e742,H⟩:=bind_of H
 refine sr hP hn hm [(2,.call [(0,0),(1,1)] [(0,0),(1,1),(2,3)] [] [3] 2 (.own 2) [(0,some (.box 32 (aHist ⟨a0.f0,a0.f1,a0.f2,t739.2,a0.f4,a0.f5,a0.f6,a0.f7⟩))),(1,some (.box 3 [iV .i64 (if t659>t657 then t659 else t657)])),(2,some (.row 2 89 (t739.1.map eBucket)))]),(5,.call [(0,0),(1,1)] [(0,0),(1,1),(2,4)] [] [4] 2 (.own 2) [(0,some (.box 32 (aHist ⟨a0.f0,a0.f1,a0.f2,t741.2,a0.f4,a0.f5,a0.f6,a0.f7⟩))),(1,some (.box 3 [iV .i64 (if t659>t657 then t659 else t657)])),(2,some (.row 2 89 (t741.1.map eBucket)))])] [(1,.own 3),(2,.own 4)] [1,2,4,7,8] [(0,some (.box 32 (aHist ⟨a0.f0,a0.f1,a0.f2,t741.2,a0.f4,a0.f5,a0.f6,a0.f7⟩))),(3,some (.row 2 89 (t739.1.map eBucket))),(4,some (.row 2 89 (t741.1.map eBucket)))] [0,1,2,3,4] [_,_,_,_] (by kernel_rfl) ⟨Tryz.call97,f_meld_swallow_1_8ce.ok a1 a0.f0 a0.f1 a0.f2 a0.f3 a0.f4 a0.f5 a0.f6 a0.f7 (if t659>t657 then t659 else t657) t739 e740,Tryz.call97,f_meld_swallow_1_8ce.ok a2 a0.f0 a0.f1 a0.f2 t739.2 a0.f4 a0.f5 a0.f6 a0.f7 (if t659>t657 then t659 else t657) t741 e742,trivial⟩ ?_
 refine sr hP hn hm [] [] [1,2,4,8] [(0,some (.box 32 (aHist ⟨a0.f0,a0.f1,(if t659>t657 then t659 else t657),t741.2,a0.f4,a0.f5,a0.f6,a0.f7⟩)))] [0,2,3,4] [] (by kernel_rfl) trivial ?_
 refine AWp.seq ?_
 refine AWp.conv (inv:=[(2,2),(0,0)]) (vk:=[3,4]) (e0:=[]) (t:=⟨[(1,.im (.row (t739.1.map eBucket))),(2,.im (.row (t741.1.map eBucket))),(4,.ptr 0 0 0),(8,.ptr 2 0 0)],[(0,some (.box 32 (aHist ⟨a0.f0,a0.f1,(if t659>t657 then t659 else t657),t741.2,a0.f4,a0.f5,a0.f6,a0.f7⟩))),(2,some (.box 32 [iV .i64 0,iV .i64 0,iV .i64 0,iV .u64 0,iV .u64 0,iV .i64 0,.none0,.none0]))],0⟩) (by kernel_rfl) ?_
 obtain⟨t1623,e1624,H⟩:=bind_of H
 refine rg hP hn hm [(3,.call [] [] [] [] 0 (.tup [.agg (aHist (t1623.1)),iV .i64 t1623.2]) [])] [(9,iV .i64 t1623.2)] [8,9] [(2,some (.box 32 (aHist (t1623.1))))] [2] [_,_] (by kernel_rfl) ⟨Tryz.call61,f_hist_Make.ok (⟨a0.f0,a0.f1,(if t659>t657 then t659 else t657),t741.2,a0.f4,a0.f5,a0.f6,a0.f7⟩:THist) t739.1 t741.1 t1623 e1624,trivial⟩ ?_
 refine AWp.conv (inv:=[(2,0)]) (vk:=[]) (e0:=[]) (t:=⟨[(8,.ptr 0 0 0),(9,iV .i64 t1623.2)],[(0,some (.box 32 (aHist ((t1623.1)))))],0⟩) (by kernel_rfl) ?_
 refine AWp.ret ?_
 obtain rfl:=Option.some.inj H
 exact rl (.inl rfl) rfl (by kernel_rfl) (by kernel_rfl)
def f_meld_Down.f (a0:THist) (a1:Int):Option (THist×Int):=(((f_bound_Right.f a1)>>=fun t482=>if(!t482)=true then(some true) else(some (decide (a1>a0.f1)))):Option (Bool))>>=fun x485=>if x485=true then(some ((⟨0,0,0,0,0,0,[],[]⟩:THist),20)) else((f_meld_down.f a0.f6 a0.f1 a1)>>=fun t583=>(f_meld_down.f a0.f7 a0.f1 a1)>>=fun t585=>(f_meld_swallow.f (⟨a0.f0,a1,a0.f2,a0.f3,a0.f4,a0.f5,a0.f6,a0.f7⟩:THist) t583 t585 a0.f2)>>=fun t1629=>some ((t1629.1),t1629.2))
theorem f_meld_Down.ok (a0:THist) (a1:Int) (r:THist×Int) (H:f_meld_Down.f a0 a1=some r):Pv.Fn Tryz.prog 73 [.agg (aHist a0),iV .i64 a1] [] 0 (fun x o=>x = .tup [.agg (aHist (r.1)),iV .i64 r.2]∧o=[]):=by
 unfold f_meld_Down.f at H
 refine Fn.bodyK [] Tryz.func73 rfl rfl (fun Γ hP hn => ?_)
 have hm:Tryz.prog.follows .mixedOrders=true:=by kernel_rfl
 replace hn:Γ.n=41:=hn
 refine sr hP hn hm [(0,.k 0),(1,.k 1)] [(2,.ptr 0 0 0),(4,.ptr 1 0 0)] [1,2,4] [(0,some (.box 32 (aHist a0))),(1,some (.box 32 [iV .i64 0,iV .i64 0,iV .i64 0,iV .u64 0,iV .u64 0,iV .i64 0,.none0,.none0]))] [0,1] [] (by kernel_rfl) trivial ?_
 refine AWp.seq ?_
 refine AWp.seq ?_
 obtain⟨o1631,e1632,H⟩:=bind_of H
 refine AWp.mono (Q:=fun e s=>(match (generalizing:=false) o1631 with | x485=>e = .normal∧s=⟨[(1,iV .i64 a1),(2,.ptr 2 0 0),(4,.ptr 3 0 0),(17,bV x485)],[(2,some (.box 32 (aHist a0))),(3,some (.box 32 [iV .i64 0,iV .i64 0,iV .i64 0,iV .u64 0,iV .u64 0,iV .i64 0,.none0,.none0]))],0⟩)) (AWp.cv ?_) ?_
 ·replace H:=e1632;clear e1632
  obtain⟨t482,e483,H⟩:=bind_of H
  rcases Bool.eq_false_or_eq_true (!t482) with c484 | c484
  ·replace H:=iT c484 H
   refine rg hP hn hm [(1,.call [] [] [] [] 0 (bV t482) []),(3,.b true)] [(17,bV true)] [1,2,4,17] [] [0,1] [_,_,_] (by kernel_rfl) ⟨Tryz.call84,f_bound_Right.ok a1 t482 e483,c484,trivial⟩ ?_
   obtain rfl:=Option.some.inj H
   exact lf [(0,2),(1,3)] [] [] (by kernel_rfl) ⟨rfl,rfl⟩
  ·replace H:=iF c484 H
   refine rg hP hn hm [(1,.call [] [] [] [] 0 (bV t482) []),(3,.b false)] [(17,bV (decide (a1>a0.f1)))] [1,2,4,17] [] [0,1] [_,_,_] (by kernel_rfl) ⟨Tryz.call84,f_bound_Right.ok a1 t482 e483,c484,trivial⟩ ?_
   obtain rfl:=Option.some.inj H
   exact lf [(0,2),(1,3)] [] [] (by kernel_rfl) ⟨rfl,rfl⟩
 ·obtain⟨x485,rfl⟩:∃ z,z=o1631:=⟨_,rfl⟩
  rintro e s ⟨rfl,rfl⟩
  refine AWp.cond x485 (by kernel_rfl) (fun c486 => ?_) (fun c486 => ?_)
  ·replace H:=iT c486 H
   refine sr hP hn hm [] [(5,iV .i64 20)] [4,5] [] [3] [] (by kernel_rfl) trivial ?_
   refine AWp.conv (inv:=[(3,0)]) (vk:=[]) (e0:=[]) (t:=⟨[(4,.ptr 0 0 0),(5,iV .i64 20)],[(0,some (.box 32 (aHist ((⟨0,0,0,0,0,0,[],[]⟩:THist)))))],0⟩) (by kernel_rfl) ?_
   refine AWp.ret ?_
   obtain rfl:=Option.some.inj H
   exact rl (.inl rfl) rfl (by kernel_rfl) (by kernel_rfl)
  ·replace H:=iF c486 H
   refine AWp.skip ?_
   refine sr hP hn hm [] [(6,iV .i64 a0.f1)] [1,2,4,6] [] [2,3] [] (by kernel_rfl) trivial ?_
   refine sr hP hn hm [] [] [1,2,4,6] [(2,some (.box 32 (aHist ⟨a0.f0,a1,a0.f2,a0.f3,a0.f4,a0.f5,a0.f6,a0.f7⟩)))] [2,3] [] (by kernel_rfl) trivial ?_
   obtain⟨t583,e584,H⟩:=bind_of H
   obtain⟨t585,e586,H⟩:=bind_of H
   refine sr hP hn hm [(4,.call [] [(0,4)] [] [4] 0 (.own 0) [(0,some (.row 2 89 (t583.map eBucket)))]),(9,.call [] [(0,5)] [] [5] 0 (.own 0) [(0,some (.row 2 89 (t585.map eBucket)))])] [(7,.own 4),(8,.own 5)] [2,4,7,8] [(4,some (.row 2 89 (t583.map eBucket))),(5,some (.row 2 89 (t585.map eBucket)))] [2,3,4,5] [_,_,_,_] (by kernel_rfl) ⟨Tryz.call86,f_meld_down.ok a0.f6 a0.f1 a1 t583 e584,Tryz.call86,f_meld_down.ok a0.f7 a0.f1 a1 t585 e586,trivial⟩ ?_
   refine AWp.seq ?_
   refine AWp.conv (inv:=[(2,2),(3,3)]) (vk:=[4,5]) (e0:=[]) (t:=⟨[(2,.ptr 2 0 0),(4,.ptr 3 0 0),(7,.im (.row (t583.map eBucket))),(8,.im (.row (t585.map eBucket)))],[(2,some (.box 32 (aHist ⟨a0.f0,a1,a0.f2,a0.f3,a0.f4,a0.f5,a0.f6,a0.f7⟩))),(3,some (.box 32 [iV .i64 0,iV .i64 0,iV .i64 0,iV .u64 0,iV .u64 0,iV .i64 0,.none0,.none0]))],0⟩) (by kernel_rfl) ?_
   obtain⟨t1629,e1630,H⟩:=bind_of H
   refine rg hP hn hm [(5,.call [] [] [] [] 0 (.tup [.agg (aHist (t1629.1)),iV .i64 t1629.2]) [])] [(5,iV .i64 t1629.2)] [4,5] [(3,some (.box 32 (aHist (t1629.1))))] [3] [_,_] (by kernel_rfl) ⟨Tryz.call87,f_meld_swallow.ok (⟨a0.f0,a1,a0.f2,a0.f3,a0.f4,a0.f5,a0.f6,a0.f7⟩:THist) t583 t585 a0.f2 t1629 e1630,trivial⟩ ?_
   refine AWp.conv (inv:=[(3,0)]) (vk:=[]) (e0:=[]) (t:=⟨[(4,.ptr 0 0 0),(5,iV .i64 t1629.2)],[(0,some (.box 32 (aHist ((t1629.1)))))],0⟩) (by kernel_rfl) ?_
   refine AWp.ret ?_
   obtain rfl:=Option.some.inj H
   exact rl (.inl rfl) rfl (by kernel_rfl) (by kernel_rfl)
def f_hist_Clone.f (a0:THist):Option (THist):=(f_slices_Clone_api_Bucket.f a0.f6)>>=fun t1649=>(f_slices_Clone_api_Bucket.f a0.f7)>>=fun t1651=>some (⟨a0.f0,a0.f1,a0.f2,a0.f3,a0.f4,a0.f5,t1649,t1651⟩:THist)
theorem f_hist_Clone.ok (a0:THist) (r:THist) (H:f_hist_Clone.f a0=some r):Pv.Fn Tryz.prog 24 [.agg (aHist a0)] [] 0 (fun x o=>x = .agg [iV .i64 ((r).f0),iV .i64 ((r).f1),iV .i64 ((r).f2),iV .u64 ((r).f3),iV .u64 ((r).f4),iV .i64 ((r).f5),.own 0,.own 1]∧o=[(0,some (.row 2 89 (((r).f6).map eBucket))),(1,some (.row 2 89 (((r).f7).map eBucket)))]):=by
 unfold f_hist_Clone.f at H
 refine Fn.bodyK [0,1] Tryz.func24 rfl rfl (fun Γ hP hn => ?_)
 have hm:Tryz.prog.follows .mixedOrders=true:=by kernel_rfl
 replace hn:Γ.n=12:=hn
 refine sr hP hn hm [(0,.k 0),(1,.k 1)] [(1,.ptr 0 0 0),(2,.ptr 1 0 0)] [1,2] [(0,some (.box 32 (aHist a0))),(1,some (.box 32 [iV .i64 0,iV .i64 0,iV .i64 0,iV .u64 0,iV .u64 0,iV .i64 0,.none0,.none0]))] [0,1] [] (by kernel_rfl) trivial ?_
 obtain⟨t1649,e1650,H⟩:=bind_of H
 obtain⟨t1651,e1652,H⟩:=bind_of H
 refine sr hP hn hm [(2,.call [] [(0,2)] [] [2] 0 (.own 0) [(0,some (.row 2 89 (t1649.map eBucket)))]),(5,.call [] [(0,3)] [] [3] 0 (.own 0) [(0,some (.row 2 89 (t1651.map eBucket)))])] [] [1,2] [(0,some (.box 32 [iV .i64 a0.f0,iV .i64 a0.f1,iV .i64 a0.f2,iV .u64 a0.f3,iV .u64 a0.f4,iV .i64 a0.f5,.own 2,.own 3])),(2,some (.row 2 89 (t1649.map eBucket))),(3,some (.row 2 89 (t1651.map eBucket)))] [0,1,2,3] [_,_,_,_] (by kernel_rfl) ⟨Tryz.call38,f_slices_Clone_api_Bucket.ok a0.f6 t1649 e1650,Tryz.call38,f_slices_Clone_api_Bucket.ok a0.f7 t1651 e1652,trivial⟩ ?_
 refine sr hP hn hm [] [] [2] [(1,some (.box 32 [iV .i64 a0.f0,iV .i64 a0.f1,iV .i64 a0.f2,iV .u64 a0.f3,iV .u64 a0.f4,iV .i64 a0.f5,.own 2,.own 3]))] [1,2,3] [] (by kernel_rfl) trivial ?_
 refine AWp.conv (inv:=[(1,2),(2,0),(3,1)]) (vk:=[]) (e0:=[]) (t:=⟨[(2,.ptr 2 0 0)],[(0,some (.row 2 89 ((((⟨a0.f0,a0.f1,a0.f2,a0.f3,a0.f4,a0.f5,t1649,t1651⟩:THist)).f6).map eBucket))),(1,some (.row 2 89 ((((⟨a0.f0,a0.f1,a0.f2,a0.f3,a0.f4,a0.f5,t1649,t1651⟩:THist)).f7).map eBucket))),(2,some (.box 32 [iV .i64 (((⟨a0.f0,a0.f1,a0.f2,a0.f3,a0.f4,a0.f5,t1649,t1651⟩:THist)).f0),iV .i64 (((⟨a0.f0,a0.f1,a0.f2,a0.f3,a0.f4,a0.f5,t1649,t1651⟩:THist)).f1),iV .i64 (((⟨a0.f0,a0.f1,a0.f2,a0.f3,a0.f4,a0.f5,t1649,t1651⟩:THist)).f2),iV .u64 (((⟨a0.f0,a0.f1,a0.f2,a0.f3,a0.f4,a0.f5,t1649,t1651⟩:THist)).f3),iV .u64 (((⟨a0.f0,a0.f1,a0.f2,a0.f3,a0.f4,a0.f5,t1649,t1651⟩:THist)).f4),iV .i64 (((⟨a0.f0,a0.f1,a0.f2,a0.f3,a0.f4,a0.f5,t1649,t1651⟩:THist)).f5),.own 0,.own 1]))],0⟩) (by kernel_rfl) ?_
 refine AWp.ret ?_
 obtain rfl:=Option.some.inj H
 exact rl (.inl rfl) rfl (by kernel_rfl) (by kernel_rfl)
def f_meld_Widen.f (a0:THist) (a1:Int):Option (THist×Int):=if(decide (a1<a0.f2))=true then(some ((⟨0,0,0,0,0,0,[],[]⟩:THist),31)) else(if(a1==a0.f2)=true then((f_hist_Clone.f a0)>>=fun t1655=>some ((t1655),0)) else(((if(decide (a1≤(-262144)))=true then(some true) else(some (decide (a1>(262144:Int))))):Option (Bool))>>=fun x1659=>if x1659=true then(some ((⟨0,0,0,0,0,0,[],[]⟩:THist),31)) else((f_meld_swallow.f a0 a0.f6 a0.f7 a1)>>=fun t1663=>some ((t1663.1),t1663.2))))
theorem f_meld_Widen.ok (a0:THist) (a1:Int) (r:THist×Int) (H:f_meld_Widen.f a0 a1=some r):Pv.Fn Tryz.prog 74 [.agg (aHist a0),iV .i64 a1] [] 0 (fun x o=>x = .tup [.agg (aHist (r.1)),iV .i64 r.2]∧o=[]):=by
 unfold f_meld_Widen.f at H
 refine Fn.bodyK [] Tryz.func74 rfl rfl (fun Γ hP hn => ?_)
 have hm:Tryz.prog.follows .mixedOrders=true:=by kernel_rfl
 replace hn:Γ.n=36:=hn
 refine sr hP hn hm [(0,.k 0),(1,.k 1)] [(2,.ptr 0 0 0),(4,.ptr 1 0 0)] [1,2,4] [(0,some (.box 32 (aHist a0))),(1,some (.box 32 [iV .i64 0,iV .i64 0,iV .i64 0,iV .u64 0,iV .u64 0,iV .i64 0,.none0,.none0]))] [0,1] [] (by kernel_rfl) trivial ?_
 refine AWp.seq ?_
 refine AWp.block ?_
 refine sr hP hn hm [] [(6,bV (decide (a1<a0.f2)))] [1,2,4,6] [] [0,1] [] (by kernel_rfl) trivial ?_
 refine AWp.cond (decide (a1<a0.f2)) (by kernel_rfl) (fun c1643 => ?_) (fun c1643 => ?_)
 ·replace H:=iT c1643 H
  refine sr hP hn hm [] [(5,iV .i64 31)] [4,5] [] [1] [] (by kernel_rfl) trivial ?_
  refine AWp.conv (inv:=[(1,0)]) (vk:=[]) (e0:=[]) (t:=⟨[(4,.ptr 0 0 0),(5,iV .i64 31)],[(0,some (.box 32 (aHist ((⟨0,0,0,0,0,0,[],[]⟩:THist)))))],0⟩) (by kernel_rfl) ?_
  refine AWp.ret ?_
  obtain rfl:=Option.some.inj H
  exact rl (.inl rfl) rfl (by kernel_rfl) (by kernel_rfl)
 ·replace H:=iF c1643 H
  refine sr hP hn hm [] [(12,bV (a1==a0.f2))] [1,2,4,12] [] [0,1] [] (by kernel_rfl) trivial ?_
  refine AWp.cond (a1==a0.f2) (by kernel_rfl) (fun c1644 => ?_) (fun c1644 => ?_)
  ·replace H:=iT c1644 H
   obtain⟨t1655,e1656,H⟩:=bind_of H
   refine sr hP hn hm [(1,.call [] [(0,2),(1,3)] [] [2,3] 0 (.agg [iV .i64 ((t1655).f0),iV .i64 ((t1655).f1),iV .i64 ((t1655).f2),iV .u64 ((t1655).f3),iV .u64 ((t1655).f4),iV .i64 ((t1655).f5),.own 0,.own 1]) [(0,some (.row 2 89 (((t1655).f6).map eBucket))),(1,some (.row 2 89 (((t1655).f7).map eBucket)))])] [(5,iV .i64 0)] [4,5] [(1,some (.box 32 [iV .i64 ((t1655).f0),iV .i64 ((t1655).f1),iV .i64 ((t1655).f2),iV .u64 ((t1655).f3),iV .u64 ((t1655).f4),iV .i64 ((t1655).f5),.own 2,.own 3])),(2,some (.row 2 89 (((t1655).f6).map eBucket))),(3,some (.row 2 89 (((t1655).f7).map eBucket)))] [1,2,3] [_,_] (by kernel_rfl) ⟨Tryz.call24,f_hist_Clone.ok a0 t1655 e1656,trivial⟩ ?_
   refine AWp.conv (inv:=[(1,0)]) (vk:=[2,3]) (e0:=[]) (t:=⟨[(4,.ptr 0 0 0),(5,iV .i64 0)],[(0,some (.box 32 (aHist ((t1655)))))],0⟩) (by kernel_rfl) ?_
   refine AWp.ret ?_
   obtain rfl:=Option.some.inj H
   exact rl (.inl rfl) rfl (by kernel_rfl) (by kernel_rfl)
  ·replace H:=iF c1644 H
   refine AWp.seq ?_
   obtain⟨o1665,e1666,H⟩:=bind_of H
   refine AWp.mono (Q:=fun e s=>(match (generalizing:=false) o1665 with | x1659=>e = .normal∧s=⟨[(1,iV .i64 a1),(2,.ptr 4 0 0),(4,.ptr 5 0 0),(19,bV x1659)],[(4,some (.box 32 (aHist a0))),(5,some (.box 32 [iV .i64 0,iV .i64 0,iV .i64 0,iV .u64 0,iV .u64 0,iV .i64 0,.none0,.none0]))],0⟩)) (AWp.cv ?_) ?_
   ·replace H:=e1666;clear e1666
    rcases Bool.eq_false_or_eq_true (decide (a1≤(-262144))) with c1658 | c1658
    ·replace H:=iT c1658 H
     refine rg hP hn hm [(2,.b true)] [(19,bV true)] [1,2,4,19] [] [0,1] [_] (by kernel_rfl) ⟨c1658,trivial⟩ ?_
     obtain rfl:=Option.some.inj H
     exact lf [(0,4),(1,5)] [] [] (by kernel_rfl) ⟨rfl,rfl⟩
    ·replace H:=iF c1658 H
     refine rg hP hn hm [(2,.b false)] [(19,bV (decide (a1>(262144:Int))))] [1,2,4,19] [] [0,1] [_] (by kernel_rfl) ⟨c1658,trivial⟩ ?_
     obtain rfl:=Option.some.inj H
     exact lf [(0,4),(1,5)] [] [] (by kernel_rfl) ⟨rfl,rfl⟩
   ·obtain⟨x1659,rfl⟩:∃ z,z=o1665:=⟨_,rfl⟩
    rintro e s ⟨rfl,rfl⟩
    refine AWp.cond x1659 (by kernel_rfl) (fun c1660 => ?_) (fun c1660 => ?_)
    ·replace H:=iT c1660 H
     refine sr hP hn hm [] [(5,iV .i64 31)] [4,5] [] [5] [] (by kernel_rfl) trivial ?_
     refine AWp.conv (inv:=[(5,0)]) (vk:=[]) (e0:=[]) (t:=⟨[(4,.ptr 0 0 0),(5,iV .i64 31)],[(0,some (.box 32 (aHist ((⟨0,0,0,0,0,0,[],[]⟩:THist)))))],0⟩) (by kernel_rfl) ?_
     refine AWp.ret ?_
     obtain rfl:=Option.some.inj H
     exact rl (.inl rfl) rfl (by kernel_rfl) (by kernel_rfl)
    ·replace H:=iF c1660 H
     refine AWp.skip ?_
     obtain⟨t1663,e1664,H⟩:=bind_of H
     refine sr hP hn hm [(6,.call [] [] [] [] 0 (.tup [.agg (aHist (t1663.1)),iV .i64 t1663.2]) [])] [(5,iV .i64 t1663.2)] [4,5] [(5,some (.box 32 (aHist (t1663.1))))] [5] [_,_] (by kernel_rfl) ⟨Tryz.call87,f_meld_swallow.ok a0 a0.f6 a0.f7 a1 t1663 e1664,trivial⟩ ?_
     refine AWp.conv (inv:=[(5,0)]) (vk:=[]) (e0:=[]) (t:=⟨[(4,.ptr 0 0 0),(5,iV .i64 t1663.2)],[(0,some (.box 32 (aHist ((t1663.1)))))],0⟩) (by kernel_rfl) ?_
     refine AWp.ret ?_
     obtain rfl:=Option.some.inj H
     exact rl (.inl rfl) rfl (by kernel_rfl) (by kernel_rfl)
def f_meld_Alike.l0  (v:Int×Int×Int×Int×Int×Int×(List TBucket)×(List TBucket)×Int×Int×Int×Int×Int×Int×(List TBucket)×(List TBucket)):Option ((THist×THist×Int) ⊕ (Int×Int×Int×Int×Int×Int×(List TBucket)×(List TBucket)×Int×Int×Int×Int×Int×Int×(List TBucket)×(List TBucket))):=match v with
 | (x1676,x1677,x1678,x1679,x1680,x1681,x1682,x1683,x1684,x1685,x1686,x1687,x1688,x1689,x1690,x1691)=>if(x1678 != x1686)=true then((f_meld_Widen.f (⟨x1676,x1677,x1678,x1679,x1680,x1681,x1682,x1683⟩:THist) (if x1686>x1678 then x1686 else x1678))>>=fun t1695=>(f_meld_Widen.f (⟨x1684,x1685,x1686,x1687,x1688,x1689,x1690,x1691⟩:THist) (if x1686>x1678 then x1686 else x1678))>>=fun t1699=>if((if t1699.2>t1695.2 then t1699.2 else t1695.2) != (0:Int))=true then(some (.inl ((⟨0,0,0,0,0,0,[],[]⟩:THist),(⟨0,0,0,0,0,0,[],[]⟩:THist),(if t1699.2>t1695.2 then t1699.2 else t1695.2)))) else(f_meld_Alike.l0  ((t1695.1).f0,(t1695.1).f1,(t1695.1).f2,(t1695.1).f3,(t1695.1).f4,(t1695.1).f5,(t1695.1).f6,(t1695.1).f7,(t1699.1).f0,(t1699.1).f1,(t1699.1).f2,(t1699.1).f3,(t1699.1).f4,(t1699.1).f5,(t1699.1).f6,(t1699.1).f7))) else(some (.inr (x1676,x1677,x1678,x1679,x1680,x1681,x1682,x1683,x1684,x1685,x1686,x1687,x1688,x1689,x1690,x1691)))
partial_fixpoint
def f_meld_Alike.f (a0:THist) (a1:THist):Option (THist×THist×Int):=(f_meld_Down.f a0 (if a1.f1<a0.f1 then a1.f1 else a0.f1))>>=fun t1635=>(f_meld_Down.f a1 (if a1.f1<a0.f1 then a1.f1 else a0.f1))>>=fun t1639=>if((if t1639.2>t1635.2 then t1639.2 else t1635.2) != (0:Int))=true then(some ((⟨0,0,0,0,0,0,[],[]⟩:THist),(⟨0,0,0,0,0,0,[],[]⟩:THist),(if t1639.2>t1635.2 then t1639.2 else t1635.2))) else((f_meld_Alike.l0  ((t1635.1).f0,(t1635.1).f1,(t1635.1).f2,(t1635.1).f3,(t1635.1).f4,(t1635.1).f5,(t1635.1).f6,(t1635.1).f7,(t1639.1).f0,(t1639.1).f1,(t1639.1).f2,(t1639.1).f3,(t1639.1).f4,(t1639.1).f5,(t1639.1).f6,(t1639.1).f7))>>=fun oo=>match oo with | .inl rr=>(some rr) | .inr (x1702,x1703,x1704,x1705,x1706,x1707,x1708,x1709,x1710,x1711,x1712,x1713,x1714,x1715,x1716,x1717)=>(some ((⟨x1702,x1703,x1704,x1705,x1706,x1707,x1708,x1709⟩:THist),(⟨x1710,x1711,x1712,x1713,x1714,x1715,x1716,x1717⟩:THist),0)))
theorem f_meld_Alike.ok (a0:THist) (a1:THist) (r:THist×THist×Int) (H:f_meld_Alike.f a0 a1=some r):Pv.Fn Tryz.prog 58 [.agg (aHist a0),.agg (aHist a1)] [] 0 (fun x o=>x = .tup [.agg (aHist (r.1)),.agg (aHist (r.2.1)),iV .i64 r.2.2]∧o=[]):=by
 unfold f_meld_Alike.f at H
 refine Fn.bodyK [] Tryz.func58 rfl rfl (fun Γ hP hn => ?_)
 have hm:Tryz.prog.follows .mixedOrders=true:=by kernel_rfl
 replace hn:Γ.n=68:=hn
 refine sr hP hn hm [(0,.k 0),(1,.k 1),(2,.k 2),(3,.k 3)] [(2,.ptr 0 0 0),(3,.ptr 1 0 0),(4,.ptr 2 0 0),(5,.ptr 3 0 0)] [2,3,4,5] [(0,some (.box 32 (aHist a0))),(1,some (.box 32 (aHist a1))),(2,some (.box 32 [iV .i64 0,iV .i64 0,iV .i64 0,iV .u64 0,iV .u64 0,iV .i64 0,.none0,.none0])),(3,some (.box 32 [iV .i64 0,iV .i64 0,iV .i64 0,iV .u64 0,iV .u64 0,iV .i64 0,.none0,.none0]))] [0,1,2,3] [] (by kernel_rfl) trivial ?_
 refine sr hP hn hm [(4,.more xMin)] [(7,iV .i64 (if a1.f1<a0.f1 then a1.f1 else a0.f1))] [2,3,4,5,7] [] [0,1,2,3] [] (by kernel_rfl) trivial ?_
 obtain⟨t1635,e1636,H⟩:=bind_of H
 refine sr hP hn hm [(2,.call [] [] [] [] 0 (.tup [.agg (aHist (t1635.1)),iV .i64 t1635.2]) [])] [(8,iV .i64 t1635.2)] [2,3,4,5,7,8] [(0,some (.box 32 (aHist (t1635.1))))] [0,1,2,3] [_,_] (by kernel_rfl) ⟨Tryz.call73,f_meld_Down.ok a0 (if a1.f1<a0.f1 then a1.f1 else a0.f1) t1635 e1636,trivial⟩ ?_
 obtain⟨t1639,e1640,H⟩:=bind_of H
 refine sr hP hn hm [(2,.call [] [] [] [] 0 (.tup [.agg (aHist (t1639.1)),iV .i64 t1639.2]) [])] [(9,iV .i64 t1639.2)] [2,3,4,5,8,9] [(1,some (.box 32 (aHist (t1639.1))))] [0,1,2,3] [_,_] (by kernel_rfl) ⟨Tryz.call73,f_meld_Down.ok a1 (if a1.f1<a0.f1 then a1.f1 else a0.f1) t1639 e1640,trivial⟩ ?_
 refine AWp.seq ?_
 refine sr hP hn hm [(2,.more xMax)] [(8,iV .i64 (if t1639.2>t1635.2 then t1639.2 else t1635.2))] [2,3,4,5,8] [] [0,1,2,3] [] (by kernel_rfl) trivial ?_
 refine sr hP hn hm [] [(32,bV ((if t1639.2>t1635.2 then t1639.2 else t1635.2) != (0:Int)))] [2,3,4,5,8,32] [] [0,1,2,3] [] (by kernel_rfl) trivial ?_
 refine AWp.cond ((if t1639.2>t1635.2 then t1639.2 else t1635.2) != (0:Int)) (by kernel_rfl) (fun c1641 => ?_) (fun c1641 => ?_)
 ·replace H:=iT c1641 H
  refine sr hP hn hm [] [(6,iV .i64 (if t1639.2>t1635.2 then t1639.2 else t1635.2))] [4,5,6] [] [2,3] [] (by kernel_rfl) trivial ?_
  refine AWp.conv (inv:=[(2,0),(3,1)]) (vk:=[]) (e0:=[]) (t:=⟨[(4,.ptr 0 0 0),(5,.ptr 1 0 0),(6,iV .i64 (if t1639.2>t1635.2 then t1639.2 else t1635.2))],[(0,some (.box 32 (aHist ((⟨0,0,0,0,0,0,[],[]⟩:THist))))),(1,some (.box 32 (aHist ((⟨0,0,0,0,0,0,[],[]⟩:THist)))))],0⟩) (by kernel_rfl) ?_
  refine AWp.ret ?_
  obtain rfl:=Option.some.inj H
  exact rl (.inl rfl) rfl (by kernel_rfl) (by kernel_rfl)
 ·replace H:=iF c1641 H
  refine AWp.skip ?_
  refine AWp.seq ?_
  refine AWp.block ?_
  obtain⟨o1718,e1719,H⟩:=bind_of H
  refine AWp.loop (LWp.conv (inv:=[(0,4),(1,5),(2,6),(3,7)]) (vk:=[]) (e0:=[]) (t:=⟨[(2,.ptr 4 0 0),(3,.ptr 5 0 0),(4,.ptr 6 0 0),(5,.ptr 7 0 0)],[(4,some (.box 32 (aHist (t1635.1)))),(5,some (.box 32 (aHist (t1639.1)))),(6,some (.box 32 [iV .i64 0,iV .i64 0,iV .i64 0,iV .u64 0,iV .u64 0,iV .i64 0,.none0,.none0])),(7,some (.box 32 [iV .i64 0,iV .i64 0,iV .i64 0,iV .u64 0,iV .u64 0,iV .i64 0,.none0,.none0]))],0⟩) (by kernel_rfl) ?_)
  refine LWp.mono (Q:=fun e s=>(match (generalizing:=false) o1718 with | .inl rr=>e = .ret∧s.floor=0∧resOf Tryz.prog Tryz.f58 s=some (.tup [.agg (aHist (rr.1)),.agg (aHist (rr.2.1)),iV .i64 rr.2.2])∧([]:List (Nat×Option MObj))=[] | .inr (x1702,x1703,x1704,x1705,x1706,x1707,x1708,x1709,x1710,x1711,x1712,x1713,x1714,x1715,x1716,x1717)=>e = .exit 0∧s=⟨[(2,.ptr 8 0 0),(3,.ptr 9 0 0),(4,.ptr 10 0 0),(5,.ptr 11 0 0)],[(8,some (.box 32 (aHist ⟨x1702,x1703,x1704,x1705,x1706,x1707,x1708,x1709⟩))),(9,some (.box 32 (aHist ⟨x1710,x1711,x1712,x1713,x1714,x1715,x1716,x1717⟩))),(10,some (.box 32 [iV .i64 0,iV .i64 0,iV .i64 0,iV .u64 0,iV .u64 0,iV .i64 0,.none0,.none0])),(11,some (.box 32 [iV .i64 0,iV .i64 0,iV .i64 0,iV .u64 0,iV .u64 0,iV .i64 0,.none0,.none0]))],0⟩)) (LWp.cv (withBody (fun body hbody => ?_))) ?_
  ·refine f_meld_Alike.l0.partial_correctness  (motive:=fun v o1718=>(match (generalizing:=false) v with | (x1676,x1677,x1678,x1679,x1680,x1681,x1682,x1683,x1684,x1685,x1686,x1687,x1688,x1689,x1690,x1691)=>LWp Γ body (fun e s=>∃ t,Cv Γ s t∧(match (generalizing:=false) o1718 with | .inl rr=>e = .ret∧t.floor=0∧resOf Tryz.prog Tryz.f58 t=some (.tup [.agg (aHist (rr.1)),.agg (aHist (rr.2.1)),iV .i64 rr.2.2])∧([]:List (Nat×Option MObj))=[] | .inr (x1702,x1703,x1704,x1705,x1706,x1707,x1708,x1709,x1710,x1711,x1712,x1713,x1714,x1715,x1716,x1717)=>e = .exit 0∧t=⟨[(2,.ptr 8 0 0),(3,.ptr 9 0 0),(4,.ptr 10 0 0),(5,.ptr 11 0 0)],[(8,some (.box 32 (aHist ⟨x1702,x1703,x1704,x1705,x1706,x1707,x1708,x1709⟩))),(9,some (.box 32 (aHist ⟨x1710,x1711,x1712,x1713,x1714,x1715,x1716,x1717⟩))),(10,some (.box 32 [iV .i64 0,iV .i64 0,iV .i64 0,iV .u64 0,iV .u64 0,iV .i64 0,.none0,.none0])),(11,some (.box 32 [iV .i64 0,iV .i64 0,iV .i64 0,iV .u64 0,iV .u64 0,iV .i64 0,.none0,.none0]))],0⟩)) ⟨[(2,.ptr 4 0 0),(3,.ptr 5 0 0),(4,.ptr 6 0 0),(5,.ptr 7 0 0)],[(4,some (.box 32 (aHist ⟨x1676,x1677,x1678,x1679,x1680,x1681,x1682,x1683⟩))),(5,some (.box 32 (aHist ⟨x1684,x1685,x1686,x1687,x1688,x1689,x1690,x1691⟩))),(6,some (.box 32 [iV .i64 0,iV .i64 0,iV .i64 0,iV .u64 0,iV .u64 0,iV .i64 0,.none0,.none0])),(7,some (.box 32 [iV .i64 0,iV .i64 0,iV .i64 0,iV .u64 0,iV .u64 0,iV .i64 0,.none0,.none0]))],0⟩)) ?_ _ _ e1719
   clear H e1719 o1718;intro self ih v o1718 H
   obtain⟨x1676,x1677,x1678,x1679,x1680,x1681,x1682,x1683,x1684,x1685,x1686,x1687,x1688,x1689,x1690,x1691⟩:=v
   dsimp only at H
   subst hbody
   refine LWp.round ?_
   refine AWp.seq ?_
   refine sr hP hn hm [] [(40,bV (x1678 != x1686))] [2,3,4,5,40] [] [4,5,6,7] [] (by kernel_rfl) trivial ?_
   refine AWp.cond (x1678 != x1686) (by kernel_rfl) (fun c1692 => ?_) (fun c1692 => ?_)
   ·replace H:=iT c1692 H
    refine AWp.skip ?_
    refine AWp.block ?_
    refine sr hP hn hm [(4,.more xMax)] [(10,iV .i64 (if x1686>x1678 then x1686 else x1678))] [2,3,4,5,10] [] [4,5,6,7] [] (by kernel_rfl) trivial ?_
    obtain⟨t1695,e1696,H⟩:=bind_of H
    refine sr hP hn hm [(2,.call [] [] [] [] 0 (.tup [.agg (aHist (t1695.1)),iV .i64 t1695.2]) [])] [(8,iV .i64 t1695.2)] [2,3,4,5,8,10] [(4,some (.box 32 (aHist (t1695.1))))] [4,5,6,7] [_,_] (by kernel_rfl) ⟨Tryz.call74,f_meld_Widen.ok (⟨x1676,x1677,x1678,x1679,x1680,x1681,x1682,x1683⟩:THist) (if x1686>x1678 then x1686 else x1678) t1695 e1696,trivial⟩ ?_
    obtain⟨t1699,e1700,H⟩:=bind_of H
    refine sr hP hn hm [(2,.call [] [] [] [] 0 (.tup [.agg (aHist (t1699.1)),iV .i64 t1699.2]) [])] [(9,iV .i64 t1699.2)] [2,3,4,5,8,9] [(5,some (.box 32 (aHist (t1699.1))))] [4,5,6,7] [_,_] (by kernel_rfl) ⟨Tryz.call74,f_meld_Widen.ok (⟨x1684,x1685,x1686,x1687,x1688,x1689,x1690,x1691⟩:THist) (if x1686>x1678 then x1686 else x1678) t1699 e1700,trivial⟩ ?_
    refine sr hP hn hm [(2,.more xMax)] [(8,iV .i64 (if t1699.2>t1695.2 then t1699.2 else t1695.2))] [2,3,4,5,8] [] [4,5,6,7] [] (by kernel_rfl) trivial ?_
    refine sr hP hn hm [] [(62,bV ((if t1699.2>t1695.2 then t1699.2 else t1695.2) != (0:Int)))] [2,3,4,5,8,62] [] [4,5,6,7] [] (by kernel_rfl) trivial ?_
    refine AWp.cond ((if t1699.2>t1695.2 then t1699.2 else t1695.2) != (0:Int)) (by kernel_rfl) (fun c1701 => ?_) (fun c1701 => ?_)
    ·replace H:=iT c1701 H
     refine sr hP hn hm [] [(6,iV .i64 (if t1699.2>t1695.2 then t1699.2 else t1695.2))] [4,5,6] [] [6,7] [] (by kernel_rfl) trivial ?_
     refine AWp.conv (inv:=[(6,0),(7,1)]) (vk:=[]) (e0:=[]) (t:=⟨[(4,.ptr 0 0 0),(5,.ptr 1 0 0),(6,iV .i64 (if t1699.2>t1695.2 then t1699.2 else t1695.2))],[(0,some (.box 32 (aHist ((⟨0,0,0,0,0,0,[],[]⟩:THist))))),(1,some (.box 32 (aHist ((⟨0,0,0,0,0,0,[],[]⟩:THist)))))],0⟩) (by kernel_rfl) ?_
     refine AWp.ret ?_
     obtain rfl:=Option.some.inj H
     exact rl rfl rfl (by kernel_rfl) (by kernel_rfl)
    ·replace H:=iF c1701 H
     refine AWp.skip ?_
     exact LWp.conv [(4,4),(5,5),(6,6),(7,7)] [] [] (by kernel_rfl) (ih _ _ H)
   ·replace H:=iF c1692 H
    refine AWp.exit ?_
    obtain rfl:=Option.some.inj H
    exact lf [(4,8),(5,9),(6,10),(7,11)] [] [] (by kernel_rfl) ⟨rfl,rfl⟩
  ·rcases o1718 with rr | ⟨x1702,x1703,x1704,x1705,x1706,x1707,x1708,x1709,x1710,x1711,x1712,x1713,x1714,x1715,x1716,x1717⟩
   ·skip
    rintro e s ⟨rfl,hfl,hres⟩
    obtain rfl:=Option.some.inj H
    exact Exists.intro _ (And.intro (fun _ _ h=>h) (And.intro (.inl rfl) (And.intro hfl hres)))
   ·skip
    rintro e s ⟨rfl,rfl⟩
    refine sr hP hn hm [] [(6,iV .i64 0)] [4,5,6] [(10,some (.box 32 (aHist ⟨x1702,x1703,x1704,x1705,x1706,x1707,x1708,x1709⟩))),(11,some (.box 32 (aHist ⟨x1710,x1711,x1712,x1713,x1714,x1715,x1716,x1717⟩)))] [10,11] [] (by kernel_rfl) trivial ?_
    refine AWp.conv (inv:=[(10,0),(11,1)]) (vk:=[]) (e0:=[]) (t:=⟨[(4,.ptr 0 0 0),(5,.ptr 1 0 0),(6,iV .i64 0)],[(0,some (.box 32 (aHist ((⟨x1702,x1703,x1704,x1705,x1706,x1707,x1708,x1709⟩:THist))))),(1,some (.box 32 (aHist ((⟨x1710,x1711,x1712,x1713,x1714,x1715,x1716,x1717⟩:THist)))))],0⟩) (by kernel_rfl) ?_
    refine AWp.ret ?_
    obtain rfl:=Option.some.inj H
    exact rl (.inl rfl) rfl (by kernel_rfl) (by kernel_rfl)
def f_meld_less.l1 (a0:List TBucket) (b1773:TBucket) (x1766:List TBucket) (x1767:List TBucket) (x1768:Int) (x1786:Unit):Option (((List TBucket)×Bool) ⊕ Unit):=((if(decide ((x1766.length:Int)>(0:Int)))=true then((at? x1766 0)>>=fun b1781=>some (decide (b1781.f0<b1773.f0))) else(some false)):Option (Bool))>>=fun x1784=>if x1784=true then(some (.inl ([],false))) else(some (.inr ()))
def f_meld_less.l0 (a0:List TBucket) (x1766:List TBucket) (x1767:List TBucket) (x1768:Int):Option (((List TBucket)×Bool) ⊕ ((List TBucket)×(List TBucket))):=if(decide (x1768<(a0.length:Int)))=true then((at? a0 x1768)>>=fun b1773=>(f_meld_less.l1 a0 b1773 x1766 x1767 x1768 ())>>=fun oo=>match oo with | .inl rr=>(some (.inl rr)) | .inr _=>(((if(decide ((x1766.length:Int)>(0:Int)))=true then((at? x1766 0)>>=fun b1792=>some (b1792.f0==b1773.f0)) else(some false)):Option (Bool))>>=fun x1795=>((if x1795=true then((at? x1766 0)>>=fun b1800=>if(decide (b1800.f1>b1773.f1))=true then(some (.inl ([],false))) else((chk (0≤(1:Int)∧(1:Int)≤(x1766.length:Int)∧(x1766.length:Int)≤(x1766.length:Int)))>>=fun _=>some (.inr ((x1766.drop (Int.toNat ((1:Int)))).take ((Int.toNat ((x1766.length:Int)))-(Int.toNat ((1:Int)))),u64.wrap (b1773.f1-b1800.f1))))) else(some (.inr (x1766,b1773.f1)))):Option (((List TBucket)×Bool) ⊕ ((List TBucket)×Int)))>>=fun oo=>match oo with | .inl rr=>(some (.inl rr)) | .inr (x1806,x1807)=>((chk ((x1767.length+[(⟨b1773.f0,x1807⟩:TBucket)].length)*16≤140737488355328))>>=fun _=>f_meld_less.l0 a0 x1806 (x1767++[(⟨b1773.f0,x1807⟩:TBucket)]) (i64.wrap (x1768+(1:Int)))))) else(some (.inr (x1766,x1767)))
partial_fixpoint
def f_meld_less.f (a0:List TBucket) (a1:List TBucket):Option ((List TBucket)×Bool):=(f_meld_less.l0 a0 a1 [] 0)>>=fun oo=>match oo with | .inl rr=>(some rr) | .inr (x1810,x1811)=>(some (x1811,((x1810.length:Int)==(0:Int))))
theorem f_meld_less.ok (a0:List TBucket) (a1:List TBucket) (r:(List TBucket)×Bool) (H:f_meld_less.f a0 a1=some r):Pv.Fn Tryz.prog 59 [.im (.row (a0.map eBucket)),.im (.row (a1.map eBucket))] [] 0 (fun x o=>x = .tup [.own 0,bV r.2]∧o=[(0,some (.row 2 89 (r.1.map eBucket)))]):=by
 unfold f_meld_less.f at H
 refine Fn.bodyK [0] Tryz.func59 rfl rfl (fun Γ hP hn => ?_)
 have hm:Tryz.prog.follows .mixedOrders=true:=by kernel_rfl
 replace hn:Γ.n=65:=hn
 refine sr hP hn hm [] [] [0,1] [] [] [] (by kernel_rfl) trivial ?_
 refine sr hP hn hm [] [(6,.none0)] [0,1,6] [] [] [] (by kernel_rfl) trivial ?_
 refine AWp.seq ?_
 refine sr hP hn hm [(1,.any (iV .i64 (a0.length:Int)))] [(9,.im (.row (a0.map eBucket))),(10,iV .i64 (a0.length:Int)),(11,iV .i64 0)] [1,6,9,10,11] [] [] [((a0.map eBucket).length:Int)=(a0.length:Int)] (by kernel_rfl) ⟨by rw[len_map],trivial⟩ ?_
 refine AWp.block ?_
 obtain⟨o1812,e1813,H⟩:=bind_of H
 refine AWp.loop (LWp.conv (inv:=[]) (vk:=[]) (e0:=[7]) (t:=⟨[(1,.im (.row (a1.map eBucket))),(6,.own 7),(9,.im (.row (a0.map eBucket))),(10,iV .i64 (a0.length:Int)),(11,iV .i64 0)],[(7,some (.row 2 89 ([].map eBucket)))],0⟩) (by kernel_rfl) ?_)
 refine LWp.mono (Q:=fun e s=>(match (generalizing:=false) o1812 with | .inl rr=>e = .ret∧s.floor=0∧resOf Tryz.prog Tryz.f59 s=some (.tup [.own 0,bV rr.2])∧([(0,s.obj 0)]:List (Nat×Option MObj))=[(0,some (.row 2 89 (rr.1.map eBucket)))] | .inr (x1810,x1811)=>e = .exit 0∧s=⟨[(1,.im (.row (x1810.map eBucket))),(6,.own 19)],[(19,some (.row 2 89 (x1811.map eBucket)))],0⟩)) (LWp.cv (withBody (fun body hbody => ?_))) ?_
 ·refine f_meld_less.l0.partial_correctness a0 (motive:=fun x1766 x1767 x1768 o1812=>LWp Γ body (fun e s=>∃ t,Cv Γ s t∧(match (generalizing:=false) o1812 with | .inl rr=>e = .ret∧t.floor=0∧resOf Tryz.prog Tryz.f59 t=some (.tup [.own 0,bV rr.2])∧([(0,t.obj 0)]:List (Nat×Option MObj))=[(0,some (.row 2 89 (rr.1.map eBucket)))] | .inr (x1810,x1811)=>e = .exit 0∧t=⟨[(1,.im (.row (x1810.map eBucket))),(6,.own 19)],[(19,some (.row 2 89 (x1811.map eBucket)))],0⟩)) ⟨[(1,.im (.row (x1766.map eBucket))),(6,.own 7),(9,.im (.row (a0.map eBucket))),(10,iV .i64 (a0.length:Int)),(11,iV .i64 x1768)],[(7,some (.row 2 89 (x1767.map eBucket)))],0⟩) ?_ _ _ _ _ e1813
  clear H e1813 o1812;intro self ih x1766 x1767 x1768 o1812 H
  subst hbody
  refine LWp.round ?_
  refine sr hP hn hm [] [(12,bV (decide (x1768<(a0.length:Int))))] [1,6,9,10,11,12] [] [7] [] (by kernel_rfl) trivial ?_
  refine AWp.seq ?_
  refine AWp.cond (decide (x1768<(a0.length:Int))) (by kernel_rfl) (fun c1769 => ?_) (fun c1769 => ?_)
  ·replace H:=iT c1769 H
   refine AWp.skip ?_
   refine AWp.seq ?_
   refine AWp.block ?_
   obtain⟨b1773,p1774,q1775,H⟩:=at_of H
   refine sr hP hn hm [(0,.c (eBucket b1773)),(2,.k 8)] [(8,.ptr 8 0 0)] [1,6,8,9,10,11] [(8,some (.box 89 (aBucket b1773)))] [7,8] [_,_] (by kernel_rfl) ⟨p1774,el_map eBucket q1775,trivial⟩ ?_
   refine AWp.seq ?_
   refine AWp.block ?_
   obtain⟨o1814,e1815,H⟩:=bind_of H
   refine AWp.loop (LWp.conv (inv:=[(7,7),(8,8)]) (vk:=[]) (e0:=[]) (t:=⟨[(1,.im (.row (x1766.map eBucket))),(6,.own 7),(8,.ptr 8 0 0),(9,.im (.row (a0.map eBucket))),(10,iV .i64 (a0.length:Int)),(11,iV .i64 x1768)],[(7,some (.row 2 89 (x1767.map eBucket))),(8,some (.box 89 (aBucket b1773)))],0⟩) (by kernel_rfl) ?_)
   refine LWp.mono (Q:=fun e s=>(match (generalizing:=false) o1814 with | .inl rr=>e = .ret∧s.floor=0∧resOf Tryz.prog Tryz.f59 s=some (.tup [.own 0,bV rr.2])∧([(0,s.obj 0)]:List (Nat×Option MObj))=[(0,some (.row 2 89 (rr.1.map eBucket)))] | .inr _=>e = .exit 2∧s=⟨[(1,.im (.row (x1766.map eBucket))),(6,.own 11),(8,.ptr 12 0 0),(9,.im (.row (a0.map eBucket))),(10,iV .i64 (a0.length:Int)),(11,iV .i64 x1768)],[(11,some (.row 2 89 (x1767.map eBucket))),(12,some (.box 89 (aBucket b1773)))],0⟩)) (LWp.cv (withBody (fun body hbody => ?_))) ?_
   ·refine(show ∀ x1786 o1814,f_meld_less.l1 a0 b1773 x1766 x1767 x1768 x1786=some o1814→LWp Γ body (fun e s=>∃ t,Cv Γ s t∧(match (generalizing:=false) o1814 with | .inl rr=>e = .ret∧t.floor=0∧resOf Tryz.prog Tryz.f59 t=some (.tup [.own 0,bV rr.2])∧([(0,t.obj 0)]:List (Nat×Option MObj))=[(0,some (.row 2 89 (rr.1.map eBucket)))] | .inr _=>e = .exit 2∧t=⟨[(1,.im (.row (x1766.map eBucket))),(6,.own 11),(8,.ptr 12 0 0),(9,.im (.row (a0.map eBucket))),(10,iV .i64 (a0.length:Int)),(11,iV .i64 x1768)],[(11,some (.row 2 89 (x1767.map eBucket))),(12,some (.box 89 (aBucket b1773)))],0⟩)) ⟨[(1,.im (.row (x1766.map eBucket))),(6,.own 7),(8,.ptr 8 0 0),(9,.im (.row (a0.map eBucket))),(10,iV .i64 (a0.length:Int)),(11,iV .i64 x1768)],[(7,some (.row 2 89 (x1767.map eBucket))),(8,some (.box 89 (aBucket b1773)))],0⟩ from ?_) _ _ e1815
    clear H e1815 o1814;intro x1786 o1814 H
    unfold f_meld_less.l1 at H
    subst hbody
    refine LWp.round ?_
    refine AWp.seq ?_
    refine AWp.seq ?_
    obtain⟨o1816,e1817,H⟩:=bind_of H
    refine AWp.mono (Q:=fun e s=>(match (generalizing:=false) o1816 with | x1784=>e = .normal∧s=⟨[(1,.im (.row (x1766.map eBucket))),(6,.own 9),(8,.ptr 10 0 0),(9,.im (.row (a0.map eBucket))),(10,iV .i64 (a0.length:Int)),(11,iV .i64 x1768),(26,bV x1784)],[(9,some (.row 2 89 (x1767.map eBucket))),(10,some (.box 89 (aBucket b1773)))],0⟩)) (AWp.cv ?_) ?_
    ·replace H:=e1817;clear e1817
     rcases Bool.eq_false_or_eq_true (decide ((x1766.length:Int)>(0:Int))) with c1780 | c1780
     ·replace H:=iT c1780 H
      obtain⟨b1781,p1782,q1783,H⟩:=at_of H
      refine rg hP hn hm [(1,.any (iV .i64 (x1766.length:Int))),(3,.b true),(5,.c (eBucket b1781))] [(19,.im (.row (x1766.map eBucket))),(20,.ip [iI .i64 b1781.f0,iI .u64 b1781.f1]),(21,.ip [iI .i64 b1781.f0,iI .u64 b1781.f1]),(22,iV .i64 b1781.f0),(23,.ptr 8 0 0),(24,iV .i64 b1773.f0),(25,bV (decide (b1781.f0<b1773.f0))),(26,bV (decide (b1781.f0<b1773.f0)))] [1,6,8,9,10,11,19,20,21,22,23,24,25,26] [] [7,8] [((x1766.map eBucket).length:Int)=(x1766.length:Int),_,_,_] (by kernel_rfl) ⟨by rw[len_map],c1780,p1782,el_map eBucket q1783,trivial⟩ ?_
      obtain rfl:=Option.some.inj H
      exact lf [(7,9),(8,10)] [] [] (by kernel_rfl) ⟨rfl,rfl⟩
     ·replace H:=iF c1780 H
      refine rg hP hn hm [(1,.any (iV .i64 (x1766.length:Int))),(3,.b false)] [(26,bV false)] [1,6,8,9,10,11,26] [] [7,8] [((x1766.map eBucket).length:Int)=(x1766.length:Int),_] (by kernel_rfl) ⟨by rw[len_map],c1780,trivial⟩ ?_
      obtain rfl:=Option.some.inj H
      exact lf [(7,9),(8,10)] [] [] (by kernel_rfl) ⟨rfl,rfl⟩
    ·obtain⟨x1784,rfl⟩:∃ z,z=o1816:=⟨_,rfl⟩
     rintro e s ⟨rfl,rfl⟩
     refine AWp.cond x1784 (by kernel_rfl) (fun c1785 => ?_) (fun c1785 => ?_)
     ·replace H:=iT c1785 H
      refine AWp.skip ?_
      refine AWp.block ?_
      refine sr hP hn hm [] [(4,.none0),(5,bV false)] [4,5] [] [] [] (by kernel_rfl) trivial ?_
      refine AWp.conv (inv:=[]) (vk:=[]) (e0:=[0]) (t:=⟨[(4,.own 0),(5,bV false)],[(0,some (.row 2 89 ([].map eBucket)))],0⟩) (by kernel_rfl) ?_
      refine AWp.ret ?_
      obtain rfl:=Option.some.inj H
      exact rl rfl rfl (by kernel_rfl) (by kernel_rfl)
     ·replace H:=iF c1785 H
      refine AWp.exit ?_
      obtain rfl:=Option.some.inj H
      exact lf [(9,11),(10,12)] [] [] (by kernel_rfl) ⟨rfl,rfl⟩
   ·rcases o1814 with rr | _
    ·skip
     rintro e s ⟨rfl,hfl,hres⟩
     obtain rfl:=Option.some.inj H
     exact Exists.intro _ (And.intro (fun _ _ h=>h) (And.intro rfl (And.intro hfl hres)))
    ·skip
     rintro e s ⟨rfl,rfl⟩
     refine AWp.seq ?_
     refine AWp.seq ?_
     obtain⟨o1818,e1819,H⟩:=bind_of H
     refine AWp.mono (Q:=fun e s=>(match (generalizing:=false) o1818 with | x1795=>e = .normal∧s=⟨[(1,.im (.row (x1766.map eBucket))),(6,.own 13),(8,.ptr 14 0 0),(9,.im (.row (a0.map eBucket))),(10,iV .i64 (a0.length:Int)),(11,iV .i64 x1768),(38,bV x1795)],[(13,some (.row 2 89 (x1767.map eBucket))),(14,some (.box 89 (aBucket b1773)))],0⟩)) (AWp.cv ?_) ?_
     ·replace H:=e1819;clear e1819
      rcases Bool.eq_false_or_eq_true (decide ((x1766.length:Int)>(0:Int))) with c1791 | c1791
      ·replace H:=iT c1791 H
       obtain⟨b1792,p1793,q1794,H⟩:=at_of H
       refine rg hP hn hm [(1,.any (iV .i64 (x1766.length:Int))),(3,.b true),(5,.c (eBucket b1792))] [(31,.im (.row (x1766.map eBucket))),(32,.ip [iI .i64 b1792.f0,iI .u64 b1792.f1]),(33,.ip [iI .i64 b1792.f0,iI .u64 b1792.f1]),(34,iV .i64 b1792.f0),(35,.ptr 12 0 0),(36,iV .i64 b1773.f0),(37,bV (b1792.f0==b1773.f0)),(38,bV (b1792.f0==b1773.f0))] [1,6,8,9,10,11,31,32,33,34,35,36,37,38] [] [11,12] [((x1766.map eBucket).length:Int)=(x1766.length:Int),_,_,_] (by kernel_rfl) ⟨by rw[len_map],c1791,p1793,el_map eBucket q1794,trivial⟩ ?_
       obtain rfl:=Option.some.inj H
       exact lf [(11,13),(12,14)] [] [] (by kernel_rfl) ⟨rfl,rfl⟩
      ·replace H:=iF c1791 H
       refine rg hP hn hm [(1,.any (iV .i64 (x1766.length:Int))),(3,.b false)] [(38,bV false)] [1,6,8,9,10,11,38] [] [11,12] [((x1766.map eBucket).length:Int)=(x1766.length:Int),_] (by kernel_rfl) ⟨by rw[len_map],c1791,trivial⟩ ?_
       obtain rfl:=Option.some.inj H
       exact lf [(11,13),(12,14)] [] [] (by kernel_rfl) ⟨rfl,rfl⟩
     ·obtain⟨x1795,rfl⟩:∃ z,z=o1818:=⟨_,rfl⟩
      rintro e s ⟨rfl,rfl⟩
      obtain⟨o1820,e1821,H⟩:=bind_of H
      refine AWp.mono (Q:=fun e s=>(match (generalizing:=false) o1820 with | .inl rr=>e = .ret∧s.floor=0∧resOf Tryz.prog Tryz.f59 s=some (.tup [.own 0,bV rr.2])∧([(0,s.obj 0)]:List (Nat×Option MObj))=[(0,some (.row 2 89 (rr.1.map eBucket)))] | .inr (x1806,x1807)=>e = .normal∧s=⟨[(1,.im (.row (x1806.map eBucket))),(6,.own 15),(8,.ptr 16 0 0),(9,.im (.row (a0.map eBucket))),(10,iV .i64 (a0.length:Int)),(11,iV .i64 x1768)],[(15,some (.row 2 89 (x1767.map eBucket))),(16,some (.box 89 (aBucket ⟨b1773.f0,x1807⟩)))],0⟩)) (AWp.cv ?_) ?_
      ·replace H:=e1821;clear e1821
       refine AWp.cond x1795 (by kernel_rfl) (fun c1796 => ?_) (fun c1796 => ?_)
       ·replace H:=iT c1796 H
        refine AWp.seq ?_
        obtain⟨b1800,p1801,q1802,H⟩:=at_of H
        refine sr hP hn hm [(1,.c (eBucket b1800))] [(45,bV (decide (b1800.f1>b1773.f1)))] [1,6,8,9,10,11,45] [] [13,14] [_,_] (by kernel_rfl) ⟨p1801,el_map eBucket q1802,trivial⟩ ?_
        refine AWp.cond (decide (b1800.f1>b1773.f1)) (by kernel_rfl) (fun c1803 => ?_) (fun c1803 => ?_)
        ·replace H:=iT c1803 H
         refine sr hP hn hm [] [(4,.none0),(5,bV false)] [4,5] [] [] [] (by kernel_rfl) trivial ?_
         refine AWp.conv (inv:=[]) (vk:=[]) (e0:=[0]) (t:=⟨[(4,.own 0),(5,bV false)],[(0,some (.row 2 89 ([].map eBucket)))],0⟩) (by kernel_rfl) ?_
         refine AWp.ret ?_
         obtain rfl:=Option.some.inj H
         exact rl rfl rfl (by kernel_rfl) (by kernel_rfl)
        ·replace H:=iF c1803 H
         refine AWp.skip ?_
         refine sr hP hn hm [(3,.c (eBucket b1800))] [] [1,6,8,9,10,11] [(14,some (.box 89 (aBucket ⟨b1773.f0,(u64.wrap (b1773.f1-b1800.f1))⟩)))] [13,14] [_,_] (by kernel_rfl) ⟨p1801,el_map eBucket q1802,trivial⟩ ?_
         obtain⟨c1805,H⟩:=chk_of H
         refine rg hP hn hm [(1,.rows (((x1766.drop (Int.toNat ((1:Int)))).take ((Int.toNat ((x1766.length:Int)))-(Int.toNat ((1:Int))))).map eBucket))] [(1,.im (.row (((x1766.drop (Int.toNat ((1:Int)))).take ((Int.toNat ((x1766.length:Int)))-(Int.toNat ((1:Int))))).map eBucket)))] [1,6,8,9,10,11] [] [13,14] [0≤(1:Int),(1:Int)≤((x1766.map eBucket).length:Int),((x1766.map eBucket).length:Int)≤((x1766.map eBucket).length:Int),∀ c∈x1766.map eBucket,c.length=2,((x1766.drop (Int.toNat ((1:Int)))).take ((Int.toNat ((x1766.length:Int)))-(Int.toNat ((1:Int))))).map eBucket=((x1766.map eBucket).drop (Int.toNat ((1:Int)))).take ((Int.toNat (((x1766.map eBucket).length:Int)))-(Int.toNat ((1:Int))))] (by kernel_rfl) ⟨by exact c1805.1,by simpa using c1805.2.1,by simpa using c1805.2.2,by exact all_len _ _ _ (fun _=>rfl),by simp[cut1],trivial⟩ ?_
         obtain rfl:=Option.some.inj H
         exact lf [(13,15),(14,16)] [] [] (by kernel_rfl) ⟨rfl,rfl⟩
       ·replace H:=iF c1796 H
        refine AWp.skip ?_
        obtain rfl:=Option.some.inj H
        exact lf [(13,15),(14,16)] [] [] (by kernel_rfl) ⟨rfl,rfl⟩
      ·rcases o1820 with rr | ⟨x1806,x1807⟩
       ·skip
        rintro e s ⟨rfl,hfl,hres⟩
        obtain rfl:=Option.some.inj H
        exact Exists.intro _ (And.intro (fun _ _ h=>h) (And.intro rfl (And.intro hfl hres)))
       ·skip
        rintro e s ⟨rfl,rfl⟩
        obtain⟨c1809,H⟩:=chk_of H
        refine rg hP hn hm [(2,.app 17 ([(⟨b1773.f0,x1807⟩:TBucket)].map eBucket)),(3,.app 18 ((x1767++[(⟨b1773.f0,x1807⟩:TBucket)]).map eBucket))] [(6,.own 18)] [1,6,9,10,11] [(18,some (.row 2 89 ((x1767++[(⟨b1773.f0,x1807⟩:TBucket)]).map eBucket)))] [18] [[(⟨b1773.f0,x1807⟩:TBucket)].map eBucket=[[iI .i64 b1773.f0,iI .u64 x1807]],(x1767++[(⟨b1773.f0,x1807⟩:TBucket)]).map eBucket=(x1767.map eBucket)++([(⟨b1773.f0,x1807⟩:TBucket)].map eBucket),∀ c∈([(⟨b1773.f0,x1807⟩:TBucket)].map eBucket),c.length=2,∀ c∈([(⟨b1773.f0,x1807⟩:TBucket)].map eBucket),leaves (c.map .im)=true,((x1767.map eBucket).length+([(⟨b1773.f0,x1807⟩:TBucket)].map eBucket).length)*16≤140737488355328] (by kernel_rfl) ⟨by exact rfl,by simp,by exact all_len _ _ _ (fun _=>rfl),by exact all_leaf _ _ (fun _=>rfl),by simpa using c1809,trivial⟩ ?_
        refine rg hP hn hm [] [(11,iV .i64 (i64.wrap (x1768+(1:Int))))] [1,6,9,10,11] [] [18] [] (by kernel_rfl) trivial ?_
        exact LWp.conv [(18,7)] [] [] (by kernel_rfl) (ih _ _ _ _ H)
  ·replace H:=iF c1769 H
   refine AWp.exit ?_
   obtain rfl:=Option.some.inj H
   exact lf [(7,19)] [] [] (by kernel_rfl) ⟨rfl,rfl⟩
 ·rcases o1812 with rr | ⟨x1810,x1811⟩
  ·skip
   rintro e s ⟨rfl,hfl,hres⟩
   obtain rfl:=Option.some.inj H
   exact Exists.intro _ (And.intro (fun _ _ h=>h) (And.intro (.inl rfl) (And.intro hfl hres)))
  ·skip
   rintro e s ⟨rfl,rfl⟩
   refine sr hP hn hm [(2,.any (iV .i64 (x1810.length:Int)))] [(4,.own 19),(5,bV ((x1810.length:Int)==(0:Int)))] [4,5] [] [19] [((x1810.map eBucket).length:Int)=(x1810.length:Int)] (by kernel_rfl) ⟨by rw[len_map],trivial⟩ ?_
   refine AWp.conv (inv:=[(19,0)]) (vk:=[]) (e0:=[]) (t:=⟨[(4,.own 0),(5,bV ((x1810.length:Int)==(0:Int)))],[(0,some (.row 2 89 (x1811.map eBucket)))],0⟩) (by kernel_rfl) ?_
   refine AWp.ret ?_
   obtain rfl:=Option.some.inj H
   exact rl (.inl rfl) rfl (by kernel_rfl) (by kernel_rfl)
def f_num_Sub.f (a0:Int) (a1:Int):Option (Int×Int):=if(decide (a1>a0))=true then(some (0,5)) else(some (u64.wrap (a0-a1),0))
theorem f_num_Sub.ok (a0:Int) (a1:Int) (r:Int×Int) (H:f_num_Sub.f a0 a1=some r):Pv.Fn Tryz.prog 60 [iV .u64 a0,iV .u64 a1] [] 0 (fun x o=>x = .tup [iV .u64 r.1,iV .i64 r.2]∧o=[]):=by
 unfold f_num_Sub.f at H
 refine Fn.bodyK [] Tryz.func60 rfl rfl (fun Γ hP hn => ?_)
 have hm:Tryz.prog.follows .mixedOrders=true:=by kernel_rfl
 replace hn:Γ.n=12:=hn
 refine sr hP hn hm [] [] [0,1] [] [] [] (by kernel_rfl) trivial ?_
 refine AWp.seq ?_
 refine sr hP hn hm [] [(8,bV (decide (a1>a0)))] [0,1,8] [] [] [] (by kernel_rfl) trivial ?_
 refine AWp.cond (decide (a1>a0)) (by kernel_rfl) (fun c1830 => ?_) (fun c1830 => ?_)
 ·replace H:=iT c1830 H
  refine sr hP hn hm [] [(4,iV .u64 0),(5,iV .i64 5)] [4,5] [] [] [] (by kernel_rfl) trivial ?_
  refine AWp.conv (inv:=[]) (vk:=[]) (e0:=[]) (t:=⟨[(4,iV .u64 0),(5,iV .i64 5)],[],0⟩) (by kernel_rfl) ?_
  refine AWp.ret ?_
  obtain rfl:=Option.some.inj H
  exact rl (.inl rfl) rfl (by kernel_rfl) (by kernel_rfl)
 ·replace H:=iF c1830 H
  refine AWp.skip ?_
  refine sr hP hn hm [] [(4,iV .u64 (u64.wrap (a0-a1))),(5,iV .i64 0)] [4,5] [] [] [] (by kernel_rfl) trivial ?_
  refine AWp.conv (inv:=[]) (vk:=[]) (e0:=[]) (t:=⟨[(4,iV .u64 (u64.wrap (a0-a1))),(5,iV .i64 0)],[],0⟩) (by kernel_rfl) ?_
  refine AWp.ret ?_
  obtain rfl:=Option.some.inj H
  exact rl (.inl rfl) rfl (by kernel_rfl) (by kernel_rfl)
def f_meld_Sub.f (a0:THist) (a1:THist):Option (THist×Int):=(f_num_SubInt.f a0.f5 a1.f5)>>=fun t472=>(f_meld_Alike.f a0 a1)>>=fun t1722=>if(t1722.2.2 != (0:Int))=true then(some ((⟨0,0,0,0,0,0,[],[]⟩:THist),t1722.2.2)) else((f_meld_less.f ((t1722.1).f6) ((t1722.2.1).f6))>>=fun t1824=>(f_meld_less.f ((t1722.1).f7) ((t1722.2.1).f7))>>=fun t1828=>(f_num_Sub.f ((t1722.1).f3) ((t1722.2.1).f3))>>=fun t1833=>((if(!t1824.2)=true then(some true) else(if(!t1828.2)=true then(some true) else(some (t1833.2 != (0:Int))))):Option (Bool))>>=fun x1839=>if x1839=true then(some ((⟨0,0,0,0,0,0,[],[]⟩:THist),21)) else(if(t472.2 != (0:Int))=true then(some ((⟨0,0,0,0,0,0,[],[]⟩:THist),t472.2)) else((f_hist_Make.f (⟨(t1722.1).f0,(t1722.1).f1,(t1722.1).f2,t1833.1,(t1722.1).f4,t472.1,(t1722.1).f6,(t1722.1).f7⟩:THist) t1824.1 t1828.1)>>=fun t1846=>some ((t1846.1),t1846.2))))
theorem f_meld_Sub.ok (a0:THist) (a1:THist) (r:THist×Int) (H:f_meld_Sub.f a0 a1=some r):Pv.Fn Tryz.prog 36 [.agg (aHist a0),.agg (aHist a1)] [] 0 (fun x o=>x = .tup [.agg (aHist (r.1)),iV .i64 r.2]∧o=[]):=by
 unfold f_meld_Sub.f at H
 refine Fn.bodyK [] Tryz.func36 rfl rfl (fun Γ hP hn => ?_)
 have hm:Tryz.prog.follows .mixedOrders=true:=by kernel_rfl
 replace hn:Γ.n=85:=hn
 refine sr hP hn hm [(0,.k 0),(1,.k 1),(2,.k 2)] [(2,.ptr 0 0 0),(3,.ptr 1 0 0),(4,.ptr 2 0 0)] [2,3,4] [(0,some (.box 32 (aHist a0))),(1,some (.box 32 (aHist a1))),(2,some (.box 32 [iV .i64 0,iV .i64 0,iV .i64 0,iV .u64 0,iV .u64 0,iV .i64 0,.none0,.none0]))] [0,1,2] [] (by kernel_rfl) trivial ?_
 obtain⟨t472,e473,H⟩:=bind_of H
 refine sr hP hn hm [(4,.call [] [] [] [] 0 (.tup [iV .i64 t472.1,iV .i64 t472.2]) [])] [(6,iV .i64 t472.1),(7,iV .i64 t472.2)] [2,3,4,6,7] [] [0,1,2] [_,_] (by kernel_rfl) ⟨Tryz.call57,f_num_SubInt.ok a0.f5 a1.f5 t472 e473,trivial⟩ ?_
 obtain⟨t1722,e1723,H⟩:=bind_of H
 refine sr hP hn hm [(2,.call [] [] [] [] 0 (.tup [.agg (aHist (t1722.1)),.agg (aHist (t1722.2.1)),iV .i64 t1722.2.2]) [])] [(8,iV .i64 t1722.2.2)] [2,3,4,6,7,8] [(0,some (.box 32 (aHist (t1722.1)))),(1,some (.box 32 (aHist (t1722.2.1))))] [0,1,2] [_,_] (by kernel_rfl) ⟨Tryz.call58,f_meld_Alike.ok a0 a1 t1722 e1723,trivial⟩ ?_
 refine AWp.seq ?_
 refine sr hP hn hm [] [(31,bV (t1722.2.2 != (0:Int)))] [2,3,4,6,7,8,31] [] [0,1,2] [] (by kernel_rfl) trivial ?_
 refine AWp.cond (t1722.2.2 != (0:Int)) (by kernel_rfl) (fun c1724 => ?_) (fun c1724 => ?_)
 ·replace H:=iT c1724 H
  refine sr hP hn hm [] [(5,iV .i64 t1722.2.2)] [4,5] [] [2] [] (by kernel_rfl) trivial ?_
  refine AWp.conv (inv:=[(2,0)]) (vk:=[]) (e0:=[]) (t:=⟨[(4,.ptr 0 0 0),(5,iV .i64 t1722.2.2)],[(0,some (.box 32 (aHist ((⟨0,0,0,0,0,0,[],[]⟩:THist)))))],0⟩) (by kernel_rfl) ?_
  refine AWp.ret ?_
  obtain rfl:=Option.some.inj H
  exact rl (.inl rfl) rfl (by kernel_rfl) (by kernel_rfl)
 ·replace H:=iF c1724 H
  refine AWp.skip ?_
  obtain⟨t1824,e1825,H⟩:=bind_of H
  refine sr hP hn hm [(4,.call [] [(0,3)] [] [3] 0 (.tup [.own 0,bV t1824.2]) [(0,some (.row 2 89 (t1824.1.map eBucket)))])] [(9,.own 3),(10,bV t1824.2)] [2,3,4,6,7,9,10] [(3,some (.row 2 89 (t1824.1.map eBucket)))] [0,1,2,3] [_,_] (by kernel_rfl) ⟨Tryz.call59,f_meld_less.ok ((t1722.1).f6) ((t1722.2.1).f6) t1824 e1825,trivial⟩ ?_
  obtain⟨t1828,e1829,H⟩:=bind_of H
  refine sr hP hn hm [(4,.call [] [(0,4)] [] [4] 0 (.tup [.own 0,bV t1828.2]) [(0,some (.row 2 89 (t1828.1.map eBucket)))])] [(11,.own 4),(12,bV t1828.2)] [2,3,4,6,7,9,10,11,12] [(4,some (.row 2 89 (t1828.1.map eBucket)))] [0,1,2,3,4] [_,_] (by kernel_rfl) ⟨Tryz.call59,f_meld_less.ok ((t1722.1).f7) ((t1722.2.1).f7) t1828 e1829,trivial⟩ ?_
  obtain⟨t1833,e1834,H⟩:=bind_of H
  refine sr hP hn hm [(4,.call [] [] [] [] 0 (.tup [iV .u64 t1833.1,iV .i64 t1833.2]) [])] [(13,iV .u64 t1833.1),(14,iV .i64 t1833.2)] [2,4,6,7,9,10,11,12,13,14] [] [0,2,3,4] [_,_] (by kernel_rfl) ⟨Tryz.call60,f_num_Sub.ok ((t1722.1).f3) ((t1722.2.1).f3) t1833 e1834,trivial⟩ ?_
  refine AWp.seq ?_
  refine AWp.block ?_
  refine AWp.seq ?_
  obtain⟨o1848,e1849,H⟩:=bind_of H
  refine AWp.mono (Q:=fun e s=>(match (generalizing:=false) o1848 with | x1839=>e = .normal∧s=⟨[(2,.ptr 5 0 0),(4,.ptr 6 0 0),(6,iV .i64 t472.1),(7,iV .i64 t472.2),(9,.own 7),(11,.own 8),(13,iV .u64 t1833.1),(58,bV x1839)],[(5,some (.box 32 (aHist (t1722.1)))),(6,some (.box 32 [iV .i64 0,iV .i64 0,iV .i64 0,iV .u64 0,iV .u64 0,iV .i64 0,.none0,.none0])),(7,some (.row 2 89 (t1824.1.map eBucket))),(8,some (.row 2 89 (t1828.1.map eBucket)))],0⟩)) (AWp.cv ?_) ?_
  ·replace H:=e1849;clear e1849
   rcases Bool.eq_false_or_eq_true (!t1824.2) with c1837 | c1837
   ·replace H:=iT c1837 H
    refine rg hP hn hm [(2,.b true)] [(58,bV true)] [2,4,6,7,9,11,13,58] [] [0,2,3,4] [_] (by kernel_rfl) ⟨c1837,trivial⟩ ?_
    obtain rfl:=Option.some.inj H
    exact lf [(0,5),(2,6),(3,7),(4,8)] [] [] (by kernel_rfl) ⟨rfl,rfl⟩
   ·replace H:=iF c1837 H
    rcases Bool.eq_false_or_eq_true (!t1828.2) with c1838 | c1838
    ·replace H:=iT c1838 H
     refine rg hP hn hm [(2,.b false),(6,.b true)] [(58,bV true)] [2,4,6,7,9,11,13,58] [] [0,2,3,4] [_,_] (by kernel_rfl) ⟨c1837,c1838,trivial⟩ ?_
     obtain rfl:=Option.some.inj H
     exact lf [(0,5),(2,6),(3,7),(4,8)] [] [] (by kernel_rfl) ⟨rfl,rfl⟩
    ·replace H:=iF c1838 H
     refine rg hP hn hm [(2,.b false),(6,.b false)] [(58,bV (t1833.2 != (0:Int)))] [2,4,6,7,9,11,13,58] [] [0,2,3,4] [_,_] (by kernel_rfl) ⟨c1837,c1838,trivial⟩ ?_
     obtain rfl:=Option.some.inj H
     exact lf [(0,5),(2,6),(3,7),(4,8)] [] [] (by kernel_rfl) ⟨rfl,rfl⟩
  ·obtain⟨x1839,rfl⟩:∃ z,z=o1848:=⟨_,rfl⟩
   rintro e s ⟨rfl,rfl⟩
   refine AWp.cond x1839 (by kernel_rfl) (fun c1840 => ?_) (fun c1840 => ?_)
   ·replace H:=iT c1840 H
    refine sr hP hn hm [] [(5,iV .i64 21)] [4,5] [] [6] [] (by kernel_rfl) trivial ?_
    refine AWp.conv (inv:=[(6,0)]) (vk:=[]) (e0:=[]) (t:=⟨[(4,.ptr 0 0 0),(5,iV .i64 21)],[(0,some (.box 32 (aHist ((⟨0,0,0,0,0,0,[],[]⟩:THist)))))],0⟩) (by kernel_rfl) ?_
    refine AWp.ret ?_
    obtain rfl:=Option.some.inj H
    exact rl (.inl rfl) rfl (by kernel_rfl) (by kernel_rfl)
   ·replace H:=iF c1840 H
    refine sr hP hn hm [] [(70,bV (t472.2 != (0:Int)))] [2,4,6,7,9,11,13,70] [] [5,6,7,8] [] (by kernel_rfl) trivial ?_
    refine AWp.cond (t472.2 != (0:Int)) (by kernel_rfl) (fun c1841 => ?_) (fun c1841 => ?_)
    ·replace H:=iT c1841 H
     refine sr hP hn hm [] [(5,iV .i64 t472.2)] [4,5] [] [6] [] (by kernel_rfl) trivial ?_
     refine AWp.conv (inv:=[(6,0)]) (vk:=[]) (e0:=[]) (t:=⟨[(4,.ptr 0 0 0),(5,iV .i64 t472.2)],[(0,some (.box 32 (aHist ((⟨0,0,0,0,0,0,[],[]⟩:THist)))))],0⟩) (by kernel_rfl) ?_
     refine AWp.ret ?_
     obtain rfl:=Option.some.inj H
     exact rl (.inl rfl) rfl (by kernel_rfl) (by kernel_rfl)
    ·replace H:=iF c1841 H
     refine AWp.skip ?_
     refine sr hP hn hm [] [] [2,4,9,11] [(5,some (.box 32 (aHist ⟨((t1722.1).f0),((t1722.1).f1),((t1722.1).f2),t1833.1,((t1722.1).f4),t472.1,((t1722.1).f6),((t1722.1).f7)⟩)))] [5,6,7,8] [] (by kernel_rfl) trivial ?_
     refine AWp.seq ?_
     refine AWp.conv (inv:=[(5,5),(6,6)]) (vk:=[7,8]) (e0:=[]) (t:=⟨[(2,.ptr 5 0 0),(4,.ptr 6 0 0),(9,.im (.row (t1824.1.map eBucket))),(11,.im (.row (t1828.1.map eBucket)))],[(5,some (.box 32 (aHist ⟨((t1722.1).f0),((t1722.1).f1),((t1722.1).f2),t1833.1,((t1722.1).f4),t472.1,((t1722.1).f6),((t1722.1).f7)⟩))),(6,some (.box 32 [iV .i64 0,iV .i64 0,iV .i64 0,iV .u64 0,iV .u64 0,iV .i64 0,.none0,.none0]))],0⟩) (by kernel_rfl) ?_
     obtain⟨t1846,e1847,H⟩:=bind_of H
     refine rg hP hn hm [(3,.call [] [] [] [] 0 (.tup [.agg (aHist (t1846.1)),iV .i64 t1846.2]) [])] [(5,iV .i64 t1846.2)] [4,5] [(6,some (.box 32 (aHist (t1846.1))))] [6] [_,_] (by kernel_rfl) ⟨Tryz.call61,f_hist_Make.ok (⟨(t1722.1).f0,(t1722.1).f1,(t1722.1).f2,t1833.1,(t1722.1).f4,t472.1,(t1722.1).f6,(t1722.1).f7⟩:THist) t1824.1 t1828.1 t1846 e1847,trivial⟩ ?_
     refine AWp.conv (inv:=[(6,0)]) (vk:=[]) (e0:=[]) (t:=⟨[(4,.ptr 0 0 0),(5,iV .i64 t1846.2)],[(0,some (.box 32 (aHist ((t1846.1)))))],0⟩) (by kernel_rfl) ?_
     refine AWp.ret ?_
     obtain rfl:=Option.some.inj H
     exact rl (.inl rfl) rfl (by kernel_rfl) (by kernel_rfl)
def f_num_AddInt.l0 (a0:List Int) (x1884:Int) (x1885:Int) (x1886:Int):Option (Int×Int):=if(decide (x1886<(a0.length:Int)))=true then((at? a0 x1886)>>=fun b1891=>(chk (0≤x1885∧0≤(u64.wrap (b1891))∧0≤(0:Int)∧(0:Int)≤(1:Int)))>>=fun _=>f_num_AddInt.l0 a0 (i64.wrap (x1884+(i64.wrap ((Int.fdiv b1891 9223372036854775808)+(i64.wrap ((x1885+(u64.wrap (b1891))+(0:Int)) / 18446744073709551616)))))) ((x1885+(u64.wrap (b1891))+(0:Int)) % 18446744073709551616) (i64.wrap (x1886+(1:Int)))) else(some (x1884,x1885))
partial_fixpoint
def f_num_AddInt.f (a0:List Int):Option (Int×Int):=(f_num_AddInt.l0 a0 0 0 0)>>=fun oo=>match oo with | (x1896,x1897)=>(if(x1896 != (Int.fdiv (i64.wrap (x1897)) 9223372036854775808))=true then(some (0,5)) else(some (i64.wrap (x1897),0)))
theorem f_num_AddInt.ok (a0:List Int) (r:Int×Int) (H:f_num_AddInt.f a0=some r):Pv.Fn Tryz.prog 62 [.im (.row (a0.map (encInt .i64)))] [] 0 (fun x o=>x = .tup [iV .i64 r.1,iV .i64 r.2]∧o=[]):=by
 unfold f_num_AddInt.f at H
 refine Fn.bodyK [] Tryz.func62 rfl rfl (fun Γ hP hn => ?_)
 have hm:Tryz.prog.follows .mixedOrders=true:=by kernel_rfl
 replace hn:Γ.n=39:=hn
 refine sr hP hn hm [] [] [0] [] [] [] (by kernel_rfl) trivial ?_
 refine sr hP hn hm [] [(4,iV .i64 0),(5,iV .u64 0)] [0,4,5] [] [] [] (by kernel_rfl) trivial ?_
 refine AWp.seq ?_
 refine sr hP hn hm [(1,.any (iV .i64 (a0.length:Int)))] [(10,.im (.row (a0.map (encInt .i64)))),(11,iV .i64 (a0.length:Int)),(12,iV .i64 0)] [4,5,10,11,12] [] [] [((a0.map (encInt .i64)).length:Int)=(a0.length:Int)] (by kernel_rfl) ⟨by rw[len_map],trivial⟩ ?_
 refine AWp.block ?_
 obtain⟨o1899,e1900,H⟩:=bind_of H
 refine AWp.loop (LWp.conv (inv:=[]) (vk:=[]) (e0:=[]) (t:=⟨[(4,iV .i64 0),(5,iV .u64 0),(10,.im (.row (a0.map (encInt .i64)))),(11,iV .i64 (a0.length:Int)),(12,iV .i64 0)],[],0⟩) (by kernel_rfl) ?_)
 refine LWp.mono (Q:=fun e s=>(match (generalizing:=false) o1899 with | (x1896,x1897)=>e = .exit 0∧s=⟨[(4,iV .i64 x1896),(5,iV .u64 x1897)],[],0⟩)) (LWp.cv (withBody (fun body hbody => ?_))) ?_
 ·refine f_num_AddInt.l0.partial_correctness a0 (motive:=fun x1884 x1885 x1886 o1899=>LWp Γ body (fun e s=>∃ t,Cv Γ s t∧(match (generalizing:=false) o1899 with | (x1896,x1897)=>e = .exit 0∧t=⟨[(4,iV .i64 x1896),(5,iV .u64 x1897)],[],0⟩)) ⟨[(4,iV .i64 x1884),(5,iV .u64 x1885),(10,.im (.row (a0.map (encInt .i64)))),(11,iV .i64 (a0.length:Int)),(12,iV .i64 x1886)],[],0⟩) ?_ _ _ _ _ e1900
  clear H e1900 o1899;intro self ih x1884 x1885 x1886 o1899 H
  subst hbody
  refine LWp.round ?_
  refine sr hP hn hm [] [(13,bV (decide (x1886<(a0.length:Int))))] [4,5,10,11,12,13] [] [] [] (by kernel_rfl) trivial ?_
  refine AWp.seq ?_
  refine AWp.cond (decide (x1886<(a0.length:Int))) (by kernel_rfl) (fun c1887 => ?_) (fun c1887 => ?_)
  ·replace H:=iT c1887 H
   refine AWp.skip ?_
   refine AWp.seq ?_
   refine AWp.block ?_
   obtain⟨b1891,p1892,q1893,H⟩:=at_of H
   refine sr hP hn hm [(0,.c ((encInt .i64) b1891))] [(7,iV .i64 b1891)] [4,5,7,10,11,12] [] [] [_,_] (by kernel_rfl) ⟨p1892,el_map (encInt .i64) q1893,trivial⟩ ?_
   obtain⟨c1895,H⟩:=chk_of H
   refine sr hP hn hm [(3,.ext (.tup [iV .u64 ((x1885+(u64.wrap (b1891))+(0:Int)) % 18446744073709551616),iV .u64 ((x1885+(u64.wrap (b1891))+(0:Int)) / 18446744073709551616)]))] [(8,iV .u64 ((x1885+(u64.wrap (b1891))+(0:Int)) % 18446744073709551616)),(9,iV .u64 ((x1885+(u64.wrap (b1891))+(0:Int)) / 18446744073709551616))] [4,7,8,9,10,11,12] [] [] [∀ w,(callFunc 78 ([.int .u64 x1885,.int .u64 (u64.wrap (b1891)),.int .u64 (0:Int)]:List Value).toArray).run Tryz.prog w = .ok (.value (.tuple #[.int .u64 ((x1885+(u64.wrap (b1891))+(0:Int)) % 18446744073709551616),.int .u64 ((x1885+(u64.wrap (b1891))+(0:Int)) / 18446744073709551616)])) w] (by kernel_rfl) ⟨by exact fun w=>x_add64 (fn:=Tryz.f78) Tryz.func78 (by kernel_rfl) rfl (by kernel_rfl) (by kernel_rfl) c1895 w,trivial⟩ ?_
   refine sr hP hn hm [] [(5,iV .u64 ((x1885+(u64.wrap (b1891))+(0:Int)) % 18446744073709551616))] [4,5,7,9,10,11,12] [] [] [] (by kernel_rfl) trivial ?_
   refine rg hP hn hm [] [(4,iV .i64 (i64.wrap (x1884+(i64.wrap ((Int.fdiv b1891 9223372036854775808)+(i64.wrap ((x1885+(u64.wrap (b1891))+(0:Int)) / 18446744073709551616)))))))] [4,5,10,11,12] [] [] [(0:Int)≤63] (by kernel_rfl) ⟨by decide,trivial⟩ ?_
   refine rg hP hn hm [] [(12,iV .i64 (i64.wrap (x1886+(1:Int))))] [4,5,10,11,12] [] [] [] (by kernel_rfl) trivial ?_
   exact LWp.conv [] [] [] (by kernel_rfl) (ih _ _ _ _ H)
  ·replace H:=iF c1887 H
   refine AWp.exit ?_
   obtain rfl:=Option.some.inj H
   exact lf [] [] [] (by kernel_rfl) ⟨rfl,rfl⟩
 ·obtain⟨x1896,x1897⟩:=o1899
  rintro e s ⟨rfl,rfl⟩
  refine AWp.seq ?_
  refine sr hP hn hm [] [(36,bV (x1896 != (Int.fdiv (i64.wrap (x1897)) 9223372036854775808)))] [5,36] [] [] [(0:Int)≤63] (by kernel_rfl) ⟨by decide,trivial⟩ ?_
  refine AWp.cond (x1896 != (Int.fdiv (i64.wrap (x1897)) 9223372036854775808)) (by kernel_rfl) (fun c1898 => ?_) (fun c1898 => ?_)
  ·replace H:=iT c1898 H
   refine sr hP hn hm [] [(2,iV .i64 0),(3,iV .i64 5)] [2,3] [] [] [] (by kernel_rfl) trivial ?_
   refine AWp.conv (inv:=[]) (vk:=[]) (e0:=[]) (t:=⟨[(2,iV .i64 0),(3,iV .i64 5)],[],0⟩) (by kernel_rfl) ?_
   refine AWp.ret ?_
   obtain rfl:=Option.some.inj H
   exact rl (.inl rfl) rfl (by kernel_rfl) (by kernel_rfl)
  ·replace H:=iF c1898 H
   refine AWp.skip ?_
   refine sr hP hn hm [] [(2,iV .i64 (i64.wrap (x1897))),(3,iV .i64 0)] [2,3] [] [] [] (by kernel_rfl) trivial ?_
   refine AWp.conv (inv:=[]) (vk:=[]) (e0:=[]) (t:=⟨[(2,iV .i64 (i64.wrap (x1897))),(3,iV .i64 0)],[],0⟩) (by kernel_rfl) ?_
   refine AWp.ret ?_
   obtain rfl:=Option.some.inj H
   exact rl (.inl rfl) rfl (by kernel_rfl) (by kernel_rfl)
def f_meld_Add.f (a0:THist) (a1:THist):Option (THist×Int):=(f_num_AddInt.f [a0.f5,a1.f5])>>=fun t1903=>(f_meld_Alike.f a0 a1)>>=fun t1907=>if((if t1907.2.2>t1903.2 then t1907.2.2 else t1903.2) != (0:Int))=true then(some ((⟨0,0,0,0,0,0,[],[]⟩:THist),(if t1907.2.2>t1903.2 then t1907.2.2 else t1903.2))) else((f_num_Add.f [(t1907.1).f3,(t1907.2.1).f3])>>=fun t1912=>if(t1912.2 != (0:Int))=true then(some ((⟨0,0,0,0,0,0,[],[]⟩:THist),t1912.2)) else((chk ((([]:List TBucket).length+((t1907.1).f6).length)*16≤140737488355328))>>=fun _=>(chk ((((t1907.1).f6).length+((t1907.2.1).f6).length)*16≤140737488355328))>>=fun _=>(chk ((([]:List TBucket).length+((t1907.1).f7).length)*16≤140737488355328))>>=fun _=>(chk ((((t1907.1).f7).length+((t1907.2.1).f7).length)*16≤140737488355328))>>=fun _=>(f_hist_Make.f (⟨(if a1.f0>a0.f0 then a1.f0 else a0.f0),(t1907.1).f1,(t1907.1).f2,t1912.1,0,t1903.1,[],[]⟩:THist) (((t1907.1).f6)++((t1907.2.1).f6)) (((t1907.1).f7)++((t1907.2.1).f7)))>>=fun t1925=>some ((t1925.1),t1925.2)))
theorem f_meld_Add.ok (a0:THist) (a1:THist) (r:THist×Int) (H:f_meld_Add.f a0 a1=some r):Pv.Fn Tryz.prog 37 [.agg (aHist a0),.agg (aHist a1)] [] 0 (fun x o=>x = .tup [.agg (aHist (r.1)),iV .i64 r.2]∧o=[]):=by
 unfold f_meld_Add.f at H
 refine Fn.bodyK [] Tryz.func37 rfl rfl (fun Γ hP hn => ?_)
 have hm:Tryz.prog.follows .mixedOrders=true:=by kernel_rfl
 replace hn:Γ.n=77:=hn
 refine sr hP hn hm [(0,.k 0),(1,.k 1),(2,.k 2)] [(2,.ptr 0 0 0),(3,.ptr 1 0 0),(4,.ptr 2 0 0)] [2,3,4] [(0,some (.box 32 (aHist a0))),(1,some (.box 32 (aHist a1))),(2,some (.box 32 [iV .i64 0,iV .i64 0,iV .i64 0,iV .u64 0,iV .u64 0,iV .i64 0,.none0,.none0]))] [0,1,2] [] (by kernel_rfl) trivial ?_
 refine sr hP hn hm [(4,.more xMax)] [(6,iV .i64 (if a1.f0>a0.f0 then a1.f0 else a0.f0))] [2,3,4,6] [] [0,1,2] [] (by kernel_rfl) trivial ?_
 obtain⟨t1903,e1904,H⟩:=bind_of H
 refine sr hP hn hm [(4,.app 3 ([a0.f5,a1.f5].map (encInt .i64))),(5,.call [] [] [3] [] 0 (.tup [iV .i64 t1903.1,iV .i64 t1903.2]) [])] [(7,iV .i64 t1903.1),(8,iV .i64 t1903.2)] [2,3,4,6,7,8] [] [0,1,2] [[a0.f5,a1.f5].map (encInt .i64)=[[iI .i64 a0.f5],[iI .i64 a1.f5]],_,_] (by kernel_rfl) ⟨by exact rfl,Tryz.call62,f_num_AddInt.ok [a0.f5,a1.f5] t1903 e1904,trivial⟩ ?_
 obtain⟨t1907,e1908,H⟩:=bind_of H
 refine sr hP hn hm [(2,.call [] [] [] [] 0 (.tup [.agg (aHist (t1907.1)),.agg (aHist (t1907.2.1)),iV .i64 t1907.2.2]) [])] [(9,iV .i64 t1907.2.2)] [2,3,4,6,7,8,9] [(0,some (.box 32 (aHist (t1907.1)))),(1,some (.box 32 (aHist (t1907.2.1))))] [0,1,2] [_,_] (by kernel_rfl) ⟨Tryz.call58,f_meld_Alike.ok a0 a1 t1907 e1908,trivial⟩ ?_
 refine AWp.seq ?_
 refine sr hP hn hm [(2,.more xMax)] [(8,iV .i64 (if t1907.2.2>t1903.2 then t1907.2.2 else t1903.2))] [2,3,4,6,7,8] [] [0,1,2] [] (by kernel_rfl) trivial ?_
 refine sr hP hn hm [] [(37,bV ((if t1907.2.2>t1903.2 then t1907.2.2 else t1903.2) != (0:Int)))] [2,3,4,6,7,8,37] [] [0,1,2] [] (by kernel_rfl) trivial ?_
 refine AWp.cond ((if t1907.2.2>t1903.2 then t1907.2.2 else t1903.2) != (0:Int)) (by kernel_rfl) (fun c1909 => ?_) (fun c1909 => ?_)
 ·replace H:=iT c1909 H
  refine sr hP hn hm [] [(5,iV .i64 (if t1907.2.2>t1903.2 then t1907.2.2 else t1903.2))] [4,5] [] [2] [] (by kernel_rfl) trivial ?_
  refine AWp.conv (inv:=[(2,0)]) (vk:=[]) (e0:=[]) (t:=⟨[(4,.ptr 0 0 0),(5,iV .i64 (if t1907.2.2>t1903.2 then t1907.2.2 else t1903.2))],[(0,some (.box 32 (aHist ((⟨0,0,0,0,0,0,[],[]⟩:THist)))))],0⟩) (by kernel_rfl) ?_
  refine AWp.ret ?_
  obtain rfl:=Option.some.inj H
  exact rl (.inl rfl) rfl (by kernel_rfl) (by kernel_rfl)
 ·replace H:=iF c1909 H
  refine AWp.skip ?_
  obtain⟨t1912,e1913,H⟩:=bind_of H
  refine sr hP hn hm [(4,.app 4 ([(t1907.1).f3,(t1907.2.1).f3].map (encInt .u64))),(5,.call [] [] [4] [] 0 (.tup [iV .u64 t1912.1,iV .i64 t1912.2]) [])] [(8,iV .i64 t1912.2),(10,iV .u64 t1912.1)] [2,3,4,6,7,8,10] [] [0,1,2] [[(t1907.1).f3,(t1907.2.1).f3].map (encInt .u64)=[[iI .u64 ((t1907.1).f3)],[iI .u64 ((t1907.2.1).f3)]],_,_] (by kernel_rfl) ⟨by exact rfl,Tryz.call63,f_num_Add.ok [(t1907.1).f3,(t1907.2.1).f3] t1912 e1913,trivial⟩ ?_
  refine AWp.seq ?_
  refine sr hP hn hm [] [(50,bV (t1912.2 != (0:Int)))] [2,3,4,6,7,8,10,50] [] [0,1,2] [] (by kernel_rfl) trivial ?_
  refine AWp.cond (t1912.2 != (0:Int)) (by kernel_rfl) (fun c1914 => ?_) (fun c1914 => ?_)
  ·replace H:=iT c1914 H
   refine sr hP hn hm [] [(5,iV .i64 t1912.2)] [4,5] [] [2] [] (by kernel_rfl) trivial ?_
   refine AWp.conv (inv:=[(2,0)]) (vk:=[]) (e0:=[]) (t:=⟨[(4,.ptr 0 0 0),(5,iV .i64 t1912.2)],[(0,some (.box 32 (aHist ((⟨0,0,0,0,0,0,[],[]⟩:THist)))))],0⟩) (by kernel_rfl) ?_
   refine AWp.ret ?_
   obtain rfl:=Option.some.inj H
   exact rl (.inl rfl) rfl (by kernel_rfl) (by kernel_rfl)
  ·replace H:=iF c1914 H
   refine AWp.skip ?_
   refine sr hP hn hm [(8,.k 5)] [(11,.ptr 5 0 0)] [2,3,4,11] [(5,some (.box 32 [iV .i64 (if a1.f0>a0.f0 then a1.f0 else a0.f0),iV .i64 ((t1907.1).f1),iV .i64 ((t1907.1).f2),iV .u64 t1912.1,iV .u64 0,iV .i64 t1903.1,.none0,.none0]))] [0,1,2,5] [] (by kernel_rfl) trivial ?_
   obtain⟨c1921,H⟩:=chk_of H
   obtain⟨c1922,H⟩:=chk_of H
   obtain⟨c1923,H⟩:=chk_of H
   obtain⟨c1924,H⟩:=chk_of H
   obtain⟨t1925,e1926,H⟩:=bind_of H
   refine sr hP hn hm [(3,.app 6 (((t1907.1).f6).map eBucket)),(6,.app 7 ((((t1907.1).f6)++((t1907.2.1).f6)).map eBucket)),(9,.app 8 (((t1907.1).f7).map eBucket)),(12,.app 9 ((((t1907.1).f7)++((t1907.2.1).f7)).map eBucket)),(13,.call [] [] [7,9] [] 0 (.tup [.agg (aHist (t1925.1)),iV .i64 t1925.2]) [])] [(5,iV .i64 t1925.2)] [4,5] [(2,some (.box 32 (aHist (t1925.1))))] [2] [((t1907.1).f6).map eBucket=([]:List (List Im))++(((t1907.1).f6).map eBucket),∀ c∈(((t1907.1).f6).map eBucket),c.length=2,∀ c∈(((t1907.1).f6).map eBucket),leaves (c.map .im)=true,(([]:List (List Im)).length+(((t1907.1).f6).map eBucket).length)*16≤140737488355328,(((t1907.1).f6)++((t1907.2.1).f6)).map eBucket=(((t1907.1).f6).map eBucket)++(((t1907.2.1).f6).map eBucket),∀ c∈(((t1907.2.1).f6).map eBucket),c.length=2,∀ c∈(((t1907.2.1).f6).map eBucket),leaves (c.map .im)=true,((((t1907.1).f6).map eBucket).length+(((t1907.2.1).f6).map eBucket).length)*16≤140737488355328,((t1907.1).f7).map eBucket=([]:List (List Im))++(((t1907.1).f7).map eBucket),∀ c∈(((t1907.1).f7).map eBucket),c.length=2,∀ c∈(((t1907.1).f7).map eBucket),leaves (c.map .im)=true,(([]:List (List Im)).length+(((t1907.1).f7).map eBucket).length)*16≤140737488355328,(((t1907.1).f7)++((t1907.2.1).f7)).map eBucket=(((t1907.1).f7).map eBucket)++(((t1907.2.1).f7).map eBucket),∀ c∈(((t1907.2.1).f7).map eBucket),c.length=2,∀ c∈(((t1907.2.1).f7).map eBucket),leaves (c.map .im)=true,((((t1907.1).f7).map eBucket).length+(((t1907.2.1).f7).map eBucket).length)*16≤140737488355328,_,_] (by kernel_rfl) ⟨by simp,by exact all_len _ _ _ (fun _=>rfl),by exact all_leaf _ _ (fun _=>rfl),by simpa using c1921,by simp,by exact all_len _ _ _ (fun _=>rfl),by exact all_leaf _ _ (fun _=>rfl),by simpa using c1922,by simp,by exact all_len _ _ _ (fun _=>rfl),by exact all_leaf _ _ (fun _=>rfl),by simpa using c1923,by simp,by exact all_len _ _ _ (fun _=>rfl),by exact all_leaf _ _ (fun _=>rfl),by simpa using c1924,Tryz.call61,f_hist_Make.ok (⟨(if a1.f0>a0.f0 then a1.f0 else a0.f0),(t1907.1).f1,(t1907.1).f2,t1912.1,0,t1903.1,[],[]⟩:THist) (((t1907.1).f6)++((t1907.2.1).f6)) (((t1907.1).f7)++((t1907.2.1).f7)) t1925 e1926,trivial⟩ ?_
   refine AWp.conv (inv:=[(2,0)]) (vk:=[]) (e0:=[]) (t:=⟨[(4,.ptr 0 0 0),(5,iV .i64 t1925.2)],[(0,some (.box 32 (aHist ((t1925.1)))))],0⟩) (by kernel_rfl) ?_
   refine AWp.ret ?_
   obtain rfl:=Option.some.inj H
   exact rl (.inl rfl) rfl (by kernel_rfl) (by kernel_rfl)
def f_meld_Rise.l0 (a0:List THist) (x443:Int):Option ((THist×Int) ⊕ Unit):=if(decide (x443<(a0.length:Int)))=true then((at? a0 x443)>>=fun b448=>if(b448.f0 != (0:Int))=true then(some (.inl ((⟨0,0,0,0,0,0,[],[]⟩:THist),25))) else(f_meld_Rise.l0 a0 (i64.wrap (x443+(1:Int))))) else(some (.inr ()))
partial_fixpoint
def f_meld_Rise.l1 (a0:List THist) (v:Int×Int×Int×Int×Int×Int×(List TBucket)×(List TBucket)×Int):Option ((THist×Int) ⊕ (Int×Int×Int×Int×Int×Int×(List TBucket)×(List TBucket))):=match v with
 | (x1941,x1942,x1943,x1944,x1945,x1946,x1947,x1948,x1949)=>if(decide (x1949<(a0.length:Int)))=true then((at? a0 x1949)>>=fun b1959=>(at? a0 (i64.wrap (x1949-(1:Int))))>>=fun b1962=>(f_meld_Sub.f b1959 b1962)>>=fun t1965=>((if(t1965.2==(21:Int))=true then((f_hist_Clone.f b1959)>>=fun t1970=>some ((t1970).f0,(t1970).f1,(t1970).f2,(t1970).f3,(t1970).f4,(t1970).f5,(t1970).f6,(t1970).f7,0)) else(some ((t1965.1).f0,(t1965.1).f1,(t1965.1).f2,(t1965.1).f3,(t1965.1).f4,(t1965.1).f5,(t1965.1).f6,(t1965.1).f7,t1965.2))):Option (Int×Int×Int×Int×Int×Int×(List TBucket)×(List TBucket)×Int))>>=fun oo=>match oo with | (x1972,x1973,x1974,x1975,x1976,x1977,x1978,x1979,x1980)=>(((if(x1980==(0:Int))=true then((f_meld_Add.f (⟨x1941,x1942,x1943,x1944,x1945,x1946,x1947,x1948⟩:THist) (⟨x1972,x1973,x1974,x1975,x1976,x1977,x1978,x1979⟩:THist))>>=fun t1984=>some ((t1984.1).f0,(t1984.1).f1,(t1984.1).f2,(t1984.1).f3,(t1984.1).f4,(t1984.1).f5,(t1984.1).f6,(t1984.1).f7,t1984.2)) else(some (x1941,x1942,x1943,x1944,x1945,x1946,x1947,x1948,x1980))):Option (Int×Int×Int×Int×Int×Int×(List TBucket)×(List TBucket)×Int))>>=fun oo=>match oo with | (x1986,x1987,x1988,x1989,x1990,x1991,x1992,x1993,x1994)=>(if(x1994 != (0:Int))=true then(some (.inl ((⟨0,0,0,0,0,0,[],[]⟩:THist),x1994))) else(f_meld_Rise.l1 a0 (x1986,x1987,x1988,x1989,x1990,x1991,x1992,x1993,i64.wrap (x1949+(1:Int))))))) else(some (.inr (x1941,x1942,x1943,x1944,x1945,x1946,x1947,x1948)))
partial_fixpoint
def f_meld_Rise.f (a0:List THist):Option (THist×Int):=if(decide ((a0.length:Int)<(2:Int)))=true then(some ((⟨0,0,0,0,0,0,[],[]⟩:THist),30)) else((f_meld_Rise.l0 a0 0)>>=fun oo=>match oo with | .inl rr=>(some rr) | .inr _=>((at? a0 0)>>=fun b457=>(f_hist_Empty.f 0 b457.f1)>>=fun t460=>(f_meld_Rise.l1 a0 ((t460).f0,(t460).f1,(t460).f2,(t460).f3,(t460).f4,(t460).f5,(t460).f6,(t460).f7,1))>>=fun oo=>match oo with | .inl rr=>(some rr) | .inr (x1996,x1997,x1998,x1999,x2000,x2001,x2002,x2003)=>(some ((⟨x1996,x1997,x1998,x1999,x2000,x2001,x2002,x2003⟩:THist),0))))
theorem f_meld_Rise.ok (a0:List THist) (r:THist×Int) (H:f_meld_Rise.f a0=some r):Pv.Fn Tryz.prog 23 [.im (.row (a0.map eHist))] [] 0 (fun x o=>x = .tup [.agg (aHist (r.1)),iV .i64 r.2]∧o=[]):=by
 unfold f_meld_Rise.f at H
 refine Fn.bodyK [] Tryz.func23 rfl rfl (fun Γ hP hn => ?_)
 have hm:Tryz.prog.follows .mixedOrders=true:=by kernel_rfl
 replace hn:Γ.n=69:=hn
 refine sr hP hn hm [(0,.k 0)] [(2,.ptr 0 0 0)] [0,2] [(0,some (.box 32 [iV .i64 0,iV .i64 0,iV .i64 0,iV .u64 0,iV .u64 0,iV .i64 0,.none0,.none0]))] [0] [] (by kernel_rfl) trivial ?_
 refine AWp.seq ?_
 refine sr hP hn hm [(1,.any (iV .i64 (a0.length:Int)))] [(12,bV (decide ((a0.length:Int)<(2:Int))))] [0,2,12] [] [0] [((a0.map eHist).length:Int)=(a0.length:Int)] (by kernel_rfl) ⟨by rw[len_map],trivial⟩ ?_
 refine AWp.cond (decide ((a0.length:Int)<(2:Int))) (by kernel_rfl) (fun c434 => ?_) (fun c434 => ?_)
 ·replace H:=iT c434 H
  refine sr hP hn hm [] [(3,iV .i64 30)] [2,3] [] [0] [] (by kernel_rfl) trivial ?_
  refine AWp.conv (inv:=[(0,0)]) (vk:=[]) (e0:=[]) (t:=⟨[(2,.ptr 0 0 0),(3,iV .i64 30)],[(0,some (.box 32 (aHist ((⟨0,0,0,0,0,0,[],[]⟩:THist)))))],0⟩) (by kernel_rfl) ?_
  refine AWp.ret ?_
  obtain rfl:=Option.some.inj H
  exact rl (.inl rfl) rfl (by kernel_rfl) (by kernel_rfl)
 ·replace H:=iF c434 H
  refine AWp.skip ?_
  refine AWp.seq ?_
  refine sr hP hn hm [(1,.any (iV .i64 (a0.length:Int)))] [(14,.im (.row (a0.map eHist))),(15,iV .i64 (a0.length:Int)),(16,iV .i64 0)] [0,2,14,15,16] [] [0] [((a0.map eHist).length:Int)=(a0.length:Int)] (by kernel_rfl) ⟨by rw[len_map],trivial⟩ ?_
  refine AWp.block ?_
  obtain⟨o2004,e2005,H⟩:=bind_of H
  refine AWp.loop (LWp.conv (inv:=[(0,2)]) (vk:=[]) (e0:=[]) (t:=⟨[(0,.im (.row (a0.map eHist))),(2,.ptr 2 0 0),(14,.im (.row (a0.map eHist))),(15,iV .i64 (a0.length:Int)),(16,iV .i64 0)],[(2,some (.box 32 [iV .i64 0,iV .i64 0,iV .i64 0,iV .u64 0,iV .u64 0,iV .i64 0,.none0,.none0]))],0⟩) (by kernel_rfl) ?_)
  refine LWp.mono (Q:=fun e s=>(match (generalizing:=false) o2004 with | .inl rr=>e = .ret∧s.floor=0∧resOf Tryz.prog Tryz.f23 s=some (.tup [.agg (aHist (rr.1)),iV .i64 rr.2])∧([]:List (Nat×Option MObj))=[] | .inr _=>e = .exit 0∧s=⟨[(0,.im (.row (a0.map eHist))),(2,.ptr 4 0 0)],[(4,some (.box 32 [iV .i64 0,iV .i64 0,iV .i64 0,iV .u64 0,iV .u64 0,iV .i64 0,.none0,.none0]))],0⟩)) (LWp.cv (withBody (fun body hbody => ?_))) ?_
  ·refine f_meld_Rise.l0.partial_correctness a0 (motive:=fun x443 o2004=>LWp Γ body (fun e s=>∃ t,Cv Γ s t∧(match (generalizing:=false) o2004 with | .inl rr=>e = .ret∧t.floor=0∧resOf Tryz.prog Tryz.f23 t=some (.tup [.agg (aHist (rr.1)),iV .i64 rr.2])∧([]:List (Nat×Option MObj))=[] | .inr _=>e = .exit 0∧t=⟨[(0,.im (.row (a0.map eHist))),(2,.ptr 4 0 0)],[(4,some (.box 32 [iV .i64 0,iV .i64 0,iV .i64 0,iV .u64 0,iV .u64 0,iV .i64 0,.none0,.none0]))],0⟩)) ⟨[(0,.im (.row (a0.map eHist))),(2,.ptr 2 0 0),(14,.im (.row (a0.map eHist))),(15,iV .i64 (a0.length:Int)),(16,iV .i64 x443)],[(2,some (.box 32 [iV .i64 0,iV .i64 0,iV .i64 0,iV .u64 0,iV .u64 0,iV .i64 0,.none0,.none0]))],0⟩) ?_ _ _ e2005
   clear H e2005 o2004;intro self ih x443 o2004 H
   subst hbody
   refine LWp.round ?_
   refine sr hP hn hm [] [(17,bV (decide (x443<(a0.length:Int))))] [0,2,14,15,16,17] [] [2] [] (by kernel_rfl) trivial ?_
   refine AWp.seq ?_
   refine AWp.cond (decide (x443<(a0.length:Int))) (by kernel_rfl) (fun c444 => ?_) (fun c444 => ?_)
   ·replace H:=iT c444 H
    refine AWp.skip ?_
    refine AWp.seq ?_
    refine AWp.block ?_
    obtain⟨b448,p449,q450,H⟩:=at_of H
    refine sr hP hn hm [(0,.c (eHist b448)),(2,.k 3)] [(5,.ptr 3 0 0)] [0,2,5,14,15,16] [(3,some (.box 32 (aHist b448)))] [2,3] [_,_] (by kernel_rfl) ⟨p449,el_map eHist q450,trivial⟩ ?_
    refine sr hP hn hm [] [(22,bV (b448.f0 != (0:Int)))] [0,2,14,15,16,22] [] [2] [] (by kernel_rfl) trivial ?_
    refine AWp.cond (b448.f0 != (0:Int)) (by kernel_rfl) (fun c451 => ?_) (fun c451 => ?_)
    ·replace H:=iT c451 H
     refine sr hP hn hm [] [(3,iV .i64 25)] [2,3] [] [2] [] (by kernel_rfl) trivial ?_
     refine AWp.conv (inv:=[(2,0)]) (vk:=[]) (e0:=[]) (t:=⟨[(2,.ptr 0 0 0),(3,iV .i64 25)],[(0,some (.box 32 (aHist ((⟨0,0,0,0,0,0,[],[]⟩:THist)))))],0⟩) (by kernel_rfl) ?_
     refine AWp.ret ?_
     obtain rfl:=Option.some.inj H
     exact rl rfl rfl (by kernel_rfl) (by kernel_rfl)
    ·replace H:=iF c451 H
     refine AWp.skip ?_
     refine rg hP hn hm [] [(16,iV .i64 (i64.wrap (x443+(1:Int))))] [0,2,14,15,16] [] [2] [] (by kernel_rfl) trivial ?_
     exact LWp.conv [(2,2)] [] [] (by kernel_rfl) (ih _ _ H)
   ·replace H:=iF c444 H
    refine AWp.exit ?_
    obtain rfl:=Option.some.inj H
    exact lf [(2,4)] [] [] (by kernel_rfl) ⟨rfl,rfl⟩
  ·rcases o2004 with rr | _
   ·skip
    rintro e s ⟨rfl,hfl,hres⟩
    obtain rfl:=Option.some.inj H
    exact Exists.intro _ (And.intro (fun _ _ h=>h) (And.intro (.inl rfl) (And.intro hfl hres)))
   ·skip
    rintro e s ⟨rfl,rfl⟩
    obtain⟨b457,p458,q459,H⟩:=at_of H
    obtain⟨t460,e461,H⟩:=bind_of H
    refine sr hP hn hm [(1,.c (eHist b457)),(4,.call [] [] [] [] 0 (.agg (aHist (t460))) []),(5,.k 5)] [(6,.ptr 5 0 0)] [0,2,6] [(5,some (.box 32 (aHist (t460))))] [4,5] [_,_,_,_] (by kernel_rfl) ⟨p458,el_map eHist q459,Tryz.call35,f_hist_Empty.ok 0 b457.f1 t460 e461,trivial⟩ ?_
    refine AWp.seq ?_
    refine sr hP hn hm [] [(7,iV .i64 1)] [0,2,6,7] [] [4,5] [] (by kernel_rfl) trivial ?_
    refine AWp.block ?_
    obtain⟨o2006,e2007,H⟩:=bind_of H
    refine AWp.loop (LWp.conv (inv:=[(4,14),(5,15)]) (vk:=[]) (e0:=[]) (t:=⟨[(0,.im (.row (a0.map eHist))),(2,.ptr 14 0 0),(6,.ptr 15 0 0),(7,iV .i64 1)],[(14,some (.box 32 [iV .i64 0,iV .i64 0,iV .i64 0,iV .u64 0,iV .u64 0,iV .i64 0,.none0,.none0])),(15,some (.box 32 (aHist (t460))))],0⟩) (by kernel_rfl) ?_)
    refine LWp.mono (Q:=fun e s=>(match (generalizing:=false) o2006 with | .inl rr=>e = .ret∧s.floor=0∧resOf Tryz.prog Tryz.f23 s=some (.tup [.agg (aHist (rr.1)),iV .i64 rr.2])∧([]:List (Nat×Option MObj))=[] | .inr (x1996,x1997,x1998,x1999,x2000,x2001,x2002,x2003)=>e = .exit 2∧s=⟨[(2,.ptr 24 0 0),(6,.ptr 25 0 0)],[(24,some (.box 32 [iV .i64 0,iV .i64 0,iV .i64 0,iV .u64 0,iV .u64 0,iV .i64 0,.none0,.none0])),(25,some (.box 32 (aHist ⟨x1996,x1997,x1998,x1999,x2000,x2001,x2002,x2003⟩)))],0⟩)) (LWp.cv (withBody (fun body hbody => ?_))) ?_
    ·refine f_meld_Rise.l1.partial_correctness a0 (motive:=fun v o2006=>(match (generalizing:=false) v with | (x1941,x1942,x1943,x1944,x1945,x1946,x1947,x1948,x1949)=>LWp Γ body (fun e s=>∃ t,Cv Γ s t∧(match (generalizing:=false) o2006 with | .inl rr=>e = .ret∧t.floor=0∧resOf Tryz.prog Tryz.f23 t=some (.tup [.agg (aHist (rr.1)),iV .i64 rr.2])∧([]:List (Nat×Option MObj))=[] | .inr (x1996,x1997,x1998,x1999,x2000,x2001,x2002,x2003)=>e = .exit 2∧t=⟨[(2,.ptr 24 0 0),(6,.ptr 25 0 0)],[(24,some (.box 32 [iV .i64 0,iV .i64 0,iV .i64 0,iV .u64 0,iV .u64 0,iV .i64 0,.none0,.none0])),(25,some (.box 32 (aHist ⟨x1996,x1997,x1998,x1999,x2000,x2001,x2002,x2003⟩)))],0⟩)) ⟨[(0,.im (.row (a0.map eHist))),(2,.ptr 14 0 0),(6,.ptr 15 0 0),(7,iV .i64 x1949)],[(14,some (.box 32 [iV .i64 0,iV .i64 0,iV .i64 0,iV .u64 0,iV .u64 0,iV .i64 0,.none0,.none0])),(15,some (.box 32 (aHist ⟨x1941,x1942,x1943,x1944,x1945,x1946,x1947,x1948⟩)))],0⟩)) ?_ _ _ e2007
     clear H e2007 o2006;intro self ih v o2006 H
     obtain⟨x1941,x1942,x1943,x1944,x1945,x1946,x1947,x1948,x1949⟩:=v
     dsimp only at H
     subst hbody
     refine LWp.round ?_
     refine AWp.seq ?_
     refine sr hP hn hm [(2,.any (iV .i64 (a0.length:Int)))] [(33,bV (decide (x1949<(a0.length:Int))))] [0,2,6,7,33] [] [14,15] [((a0.map eHist).length:Int)=(a0.length:Int)] (by kernel_rfl) ⟨by rw[len_map],trivial⟩ ?_
     refine AWp.cond (decide (x1949<(a0.length:Int))) (by kernel_rfl) (fun c1950 => ?_) (fun c1950 => ?_)
     ·replace H:=iT c1950 H
      refine AWp.skip ?_
      refine AWp.seq ?_
      refine AWp.block ?_
      obtain⟨b1959,p1960,q1961,H⟩:=at_of H
      obtain⟨b1962,p1963,q1964,H⟩:=at_of H
      obtain⟨t1965,e1966,H⟩:=bind_of H
      refine sr hP hn hm [(2,.c (eHist b1959)),(7,.c (eHist b1962)),(9,.call [] [] [] [] 0 (.tup [.agg (aHist (t1965.1)),iV .i64 t1965.2]) []),(13,.k 16)] [(8,.ptr 16 0 0),(9,iV .i64 t1965.2)] [0,2,6,7,8,9] [(16,some (.box 32 (aHist (t1965.1))))] [14,15,16] [_,_,_,_,_,_] (by kernel_rfl) ⟨p1960,el_map eHist q1961,p1963,el_map eHist q1964,Tryz.call36,f_meld_Sub.ok b1959 b1962 t1965 e1966,trivial⟩ ?_
      refine AWp.seq ?_
      refine sr hP hn hm [] [(50,bV (t1965.2==(21:Int)))] [0,2,6,7,8,9,50] [] [14,15,16] [] (by kernel_rfl) trivial ?_
      obtain⟨o2008,e2009,H⟩:=bind_of H
      refine AWp.mono (Q:=fun e s=>(match (generalizing:=false) o2008 with | (x1972,x1973,x1974,x1975,x1976,x1977,x1978,x1979,x1980)=>e = .normal∧s=⟨[(0,.im (.row (a0.map eHist))),(2,.ptr 19 0 0),(6,.ptr 20 0 0),(7,iV .i64 x1949),(8,.ptr 21 0 0),(9,iV .i64 x1980)],[(19,some (.box 32 [iV .i64 0,iV .i64 0,iV .i64 0,iV .u64 0,iV .u64 0,iV .i64 0,.none0,.none0])),(20,some (.box 32 (aHist ⟨x1941,x1942,x1943,x1944,x1945,x1946,x1947,x1948⟩))),(21,some (.box 32 (aHist ⟨x1972,x1973,x1974,x1975,x1976,x1977,x1978,x1979⟩)))],0⟩)) (AWp.cv ?_) ?_
      ·replace H:=e2009;clear e2009
       refine AWp.cond (t1965.2==(21:Int)) (by kernel_rfl) (fun c1967 => ?_) (fun c1967 => ?_)
       ·replace H:=iT c1967 H
        obtain⟨t1970,e1971,H⟩:=bind_of H
        refine rg hP hn hm [(2,.c (eHist b1959)),(4,.call [] [(0,17),(1,18)] [] [17,18] 0 (.agg [iV .i64 ((t1970).f0),iV .i64 ((t1970).f1),iV .i64 ((t1970).f2),iV .u64 ((t1970).f3),iV .u64 ((t1970).f4),iV .i64 ((t1970).f5),.own 0,.own 1]) [(0,some (.row 2 89 (((t1970).f6).map eBucket))),(1,some (.row 2 89 (((t1970).f7).map eBucket)))])] [(9,iV .i64 0)] [0,2,6,7,8,9] [(16,some (.box 32 [iV .i64 ((t1970).f0),iV .i64 ((t1970).f1),iV .i64 ((t1970).f2),iV .u64 ((t1970).f3),iV .u64 ((t1970).f4),iV .i64 ((t1970).f5),.own 17,.own 18])),(17,some (.row 2 89 (((t1970).f6).map eBucket))),(18,some (.row 2 89 (((t1970).f7).map eBucket)))] [14,15,16,17,18] [_,_,_,_] (by kernel_rfl) ⟨p1960,el_map eHist q1961,Tryz.call24,f_hist_Clone.ok b1959 t1970 e1971,trivial⟩ ?_
        obtain rfl:=Option.some.inj H
        exact lf [(14,19),(15,20),(16,21)] [17,18] [] (by kernel_rfl) ⟨rfl,rfl⟩
       ·replace H:=iF c1967 H
        refine AWp.skip ?_
        obtain rfl:=Option.some.inj H
        exact lf [(14,19),(15,20),(16,21)] [] [] (by kernel_rfl) ⟨rfl,rfl⟩
      ·obtain⟨x1972,x1973,x1974,x1975,x1976,x1977,x1978,x1979,x1980⟩:=o2008
       rintro e s ⟨rfl,rfl⟩
       refine AWp.seq ?_
       refine sr hP hn hm [] [(57,bV (x1980==(0:Int)))] [0,2,6,7,8,9,57] [] [19,20,21] [] (by kernel_rfl) trivial ?_
       obtain⟨o2010,e2011,H⟩:=bind_of H
       refine AWp.mono (Q:=fun e s=>(match (generalizing:=false) o2010 with | (x1986,x1987,x1988,x1989,x1990,x1991,x1992,x1993,x1994)=>e = .normal∧s=⟨[(0,.im (.row (a0.map eHist))),(2,.ptr 22 0 0),(6,.ptr 23 0 0),(7,iV .i64 x1949),(9,iV .i64 x1994)],[(22,some (.box 32 [iV .i64 0,iV .i64 0,iV .i64 0,iV .u64 0,iV .u64 0,iV .i64 0,.none0,.none0])),(23,some (.box 32 (aHist ⟨x1986,x1987,x1988,x1989,x1990,x1991,x1992,x1993⟩)))],0⟩)) (AWp.cv ?_) ?_
       ·replace H:=e2011;clear e2011
        refine AWp.cond (x1980==(0:Int)) (by kernel_rfl) (fun c1981 => ?_) (fun c1981 => ?_)
        ·replace H:=iT c1981 H
         obtain⟨t1984,e1985,H⟩:=bind_of H
         refine rg hP hn hm [(2,.call [] [] [] [] 0 (.tup [.agg (aHist (t1984.1)),iV .i64 t1984.2]) [])] [(9,iV .i64 t1984.2)] [0,2,6,7,9] [(20,some (.box 32 (aHist (t1984.1))))] [19,20] [_,_] (by kernel_rfl) ⟨Tryz.call37,f_meld_Add.ok (⟨x1941,x1942,x1943,x1944,x1945,x1946,x1947,x1948⟩:THist) (⟨x1972,x1973,x1974,x1975,x1976,x1977,x1978,x1979⟩:THist) t1984 e1985,trivial⟩ ?_
         obtain rfl:=Option.some.inj H
         exact lf [(19,22),(20,23)] [] [] (by kernel_rfl) ⟨rfl,rfl⟩
        ·replace H:=iF c1981 H
         refine AWp.skip ?_
         obtain rfl:=Option.some.inj H
         exact lf [(19,22),(20,23)] [] [] (by kernel_rfl) ⟨rfl,rfl⟩
       ·obtain⟨x1986,x1987,x1988,x1989,x1990,x1991,x1992,x1993,x1994⟩:=o2010
        rintro e s ⟨rfl,rfl⟩
        refine sr hP hn hm [] [(65,bV (x1994 != (0:Int)))] [0,2,6,7,9,65] [] [22,23] [] (by kernel_rfl) trivial ?_
        refine AWp.cond (x1994 != (0:Int)) (by kernel_rfl) (fun c1995 => ?_) (fun c1995 => ?_)
        ·replace H:=iT c1995 H
         refine sr hP hn hm [] [(3,iV .i64 x1994)] [2,3] [] [22] [] (by kernel_rfl) trivial ?_
         refine AWp.conv (inv:=[(22,0)]) (vk:=[]) (e0:=[]) (t:=⟨[(2,.ptr 0 0 0),(3,iV .i64 x1994)],[(0,some (.box 32 (aHist ((⟨0,0,0,0,0,0,[],[]⟩:THist)))))],0⟩) (by kernel_rfl) ?_
         refine AWp.ret ?_
         obtain rfl:=Option.some.inj H
         exact rl rfl rfl (by kernel_rfl) (by kernel_rfl)
        ·replace H:=iF c1995 H
         refine AWp.skip ?_
         refine rg hP hn hm [] [(7,iV .i64 (i64.wrap (x1949+(1:Int))))] [0,2,6,7] [] [22,23] [] (by kernel_rfl) trivial ?_
         exact LWp.conv [(22,14),(23,15)] [] [] (by kernel_rfl) (ih _ _ H)
     ·replace H:=iF c1950 H
      refine AWp.exit ?_
      obtain rfl:=Option.some.inj H
      exact lf [(14,24),(15,25)] [] [] (by kernel_rfl) ⟨rfl,rfl⟩
    ·rcases o2006 with rr | ⟨x1996,x1997,x1998,x1999,x2000,x2001,x2002,x2003⟩
     ·skip
      rintro e s ⟨rfl,hfl,hres⟩
      obtain rfl:=Option.some.inj H
      exact Exists.intro _ (And.intro (fun _ _ h=>h) (And.intro (.inl rfl) (And.intro hfl hres)))
     ·skip
      rintro e s ⟨rfl,rfl⟩
      refine sr hP hn hm [] [(3,iV .i64 0)] [2,3] [(24,some (.box 32 (aHist ⟨x1996,x1997,x1998,x1999,x2000,x2001,x2002,x2003⟩)))] [24] [] (by kernel_rfl) trivial ?_
      refine AWp.conv (inv:=[(24,0)]) (vk:=[]) (e0:=[]) (t:=⟨[(2,.ptr 0 0 0),(3,iV .i64 0)],[(0,some (.box 32 (aHist ((⟨x1996,x1997,x1998,x1999,x2000,x2001,x2002,x2003⟩:THist)))))],0⟩) (by kernel_rfl) ?_
      refine AWp.ret ?_
      obtain rfl:=Option.some.inj H
      exact rl (.inl rfl) rfl (by kernel_rfl) (by kernel_rfl)
def f_eval_Of.l0 (t410:List TSample) (x422:List THist) (x423:Int):Option (List THist):=if(decide (x423<(t410.length:Int)))=true then((at? t410 x423)>>=fun b428=>(chk ((x422.length+[b428.f1].length)*96≤140737488355328))>>=fun _=>f_eval_Of.l0 t410 (x422++[b428.f1]) (i64.wrap (x423+(1:Int)))) else(some x422)
partial_fixpoint
def f_eval_Of.f (a0:Teval_Ask) (a1:List TSample):Option (THist×Int):=(f_eval_Window.f a1 a0.f4 a0.f5)>>=fun t410=>if(a0.f0==(5:Int))=true then((f_eval_Of.l0 t410 [] 0)>>=fun x433=>(f_meld_Rise.f x433)>>=fun t2016=>some ((t2016.1),t2016.2)) else(if((t410.length:Int)==(0:Int))=true then(some ((⟨0,0,0,0,0,0,[],[]⟩:THist),30)) else((at? t410 (i64.wrap ((t410.length:Int)-(1:Int))))>>=fun b2024=>(f_hist_Clone.f b2024.f1)>>=fun t2027=>some ((t2027),0)))
theorem f_eval_Of.ok (a0:Teval_Ask) (a1:List TSample) (r:THist×Int) (H:f_eval_Of.f a0 a1=some r):Pv.Fn Tryz.prog 9 [.agg (ar19_Ask ⟨a0.f0,a0.f1,a0.f2,a0.f3.f0,a0.f3.f1,a0.f4,a0.f5⟩),.im (.row (a1.map eSample))] [] 0 (fun x o=>x = .tup [.agg (aHist (r.1)),iV .i64 r.2]∧o=[]):=by
 unfold f_eval_Of.f at H
 refine Fn.bodyK [] Tryz.func9 rfl rfl (fun Γ hP hn => ?_)
 have hm:Tryz.prog.follows .mixedOrders=true:=by kernel_rfl
 replace hn:Γ.n=46:=hn
 refine sr hP hn hm [(0,.k 0),(1,.k 1)] [(2,.ptr 0 0 0),(4,.ptr 1 0 0)] [1,2,4] [(0,some (.box 39 [iV .i64 a0.f0,iV .u64 a0.f1,iV .u64 a0.f2,iV .i64 a0.f3.f0,iV .i64 a0.f3.f1,iV .i64 a0.f4,iV .i64 a0.f5])),(1,some (.box 32 [iV .i64 0,iV .i64 0,iV .i64 0,iV .u64 0,iV .u64 0,iV .i64 0,.none0,.none0]))] [0,1] [] (by kernel_rfl) trivial ?_
 obtain⟨t410,e411,H⟩:=bind_of H
 refine sr hP hn hm [(5,.call [] [(0,2)] [] [2] 0 (.own 0) [(0,some (.row 9 65 (t410.map eSample)))])] [(1,.own 2)] [1,2,4] [(2,some (.row 9 65 (t410.map eSample)))] [0,1,2] [_,_] (by kernel_rfl) ⟨Tryz.call7,f_eval_Window.ok a1 a0.f4 a0.f5 t410 e411,trivial⟩ ?_
 refine AWp.seq ?_
 refine sr hP hn hm [] [(17,bV (a0.f0==(5:Int)))] [1,4,17] [] [1,2] [] (by kernel_rfl) trivial ?_
 refine AWp.cond (a0.f0==(5:Int)) (by kernel_rfl) (fun c412 => ?_) (fun c412 => ?_)
 ·replace H:=iT c412 H
  refine sr hP hn hm [] [(6,.none0)] [1,4,6] [] [1,2] [] (by kernel_rfl) trivial ?_
  refine AWp.seq ?_
  refine sr hP hn hm [(1,.any (iV .i64 (t410.length:Int)))] [(18,.own 2),(19,iV .i64 (t410.length:Int)),(20,iV .i64 0)] [4,6,18,19,20] [] [1,2] [((t410.map eSample).length:Int)=(t410.length:Int)] (by kernel_rfl) ⟨by rw[len_map],trivial⟩ ?_
  refine AWp.block ?_
  obtain⟨o2029,e2030,H⟩:=bind_of H
  refine AWp.loop (LWp.conv (inv:=[(1,6),(2,8)]) (vk:=[]) (e0:=[7]) (t:=⟨[(4,.ptr 6 0 0),(6,.own 7),(18,.own 8),(19,iV .i64 (t410.length:Int)),(20,iV .i64 0)],[(6,some (.box 32 [iV .i64 0,iV .i64 0,iV .i64 0,iV .u64 0,iV .u64 0,iV .i64 0,.none0,.none0])),(7,some (.row 8 32 ([].map eHist))),(8,some (.row 9 65 (t410.map eSample)))],0⟩) (by kernel_rfl) ?_)
  refine LWp.mono (Q:=fun e s=>(match (generalizing:=false) o2029 with | x433=>e = .exit 0∧s=⟨[(4,.ptr 12 0 0),(6,.own 13)],[(12,some (.box 32 [iV .i64 0,iV .i64 0,iV .i64 0,iV .u64 0,iV .u64 0,iV .i64 0,.none0,.none0])),(13,some (.row 8 32 (x433.map eHist)))],0⟩)) (LWp.cv (withBody (fun body hbody => ?_))) ?_
  ·refine f_eval_Of.l0.partial_correctness t410 (motive:=fun x422 x423 o2029=>LWp Γ body (fun e s=>∃ t,Cv Γ s t∧(match (generalizing:=false) o2029 with | x433=>e = .exit 0∧t=⟨[(4,.ptr 12 0 0),(6,.own 13)],[(12,some (.box 32 [iV .i64 0,iV .i64 0,iV .i64 0,iV .u64 0,iV .u64 0,iV .i64 0,.none0,.none0])),(13,some (.row 8 32 (x433.map eHist)))],0⟩)) ⟨[(4,.ptr 6 0 0),(6,.own 7),(18,.own 8),(19,iV .i64 (t410.length:Int)),(20,iV .i64 x423)],[(6,some (.box 32 [iV .i64 0,iV .i64 0,iV .i64 0,iV .u64 0,iV .u64 0,iV .i64 0,.none0,.none0])),(7,some (.row 8 32 (x422.map eHist))),(8,some (.row 9 65 (t410.map eSample)))],0⟩) ?_ _ _ _ e2030
   clear H e2030 o2029;intro self ih x422 x423 o2029 H
   subst hbody
   refine LWp.round ?_
   refine sr hP hn hm [] [(21,bV (decide (x423<(t410.length:Int))))] [4,6,18,19,20,21] [] [6,7,8] [] (by kernel_rfl) trivial ?_
   refine AWp.seq ?_
   refine AWp.cond (decide (x423<(t410.length:Int))) (by kernel_rfl) (fun c424 => ?_) (fun c424 => ?_)
   ·replace H:=iT c424 H
    refine AWp.skip ?_
    refine AWp.seq ?_
    refine AWp.block ?_
    obtain⟨b428,p429,q430,H⟩:=at_of H
    refine sr hP hn hm [(1,.c (eSample b428)),(2,.k 9)] [(8,.ptr 9 0 0)] [4,6,8,18,19,20] [(9,some (.box 65 [iV .i64 b428.f0,iV .i64 b428.f1.f0,iV .i64 b428.f1.f1,iV .i64 b428.f1.f2,iV .u64 b428.f1.f3,iV .u64 b428.f1.f4,iV .i64 b428.f1.f5,.im (.row (b428.f1.f6.map eBucket)),.im (.row (b428.f1.f7.map eBucket))]))] [6,7,8,9] [_,_,_] (by kernel_rfl) ⟨p429,el_lt eSample p429 q430,el_map eSample q430,trivial⟩ ?_
    obtain⟨c432,H⟩:=chk_of H
    refine rg hP hn hm [(3,.app 10 ([b428.f1].map eHist)),(4,.app 11 ((x422++[b428.f1]).map eHist))] [(6,.own 11)] [4,6,18,19,20] [(11,some (.row 8 32 ((x422++[b428.f1]).map eHist)))] [6,8,11] [[b428.f1].map eHist=[[iI .i64 b428.f1.f0,iI .i64 b428.f1.f1,iI .i64 b428.f1.f2,iI .u64 b428.f1.f3,iI .u64 b428.f1.f4,iI .i64 b428.f1.f5,.row (b428.f1.f6.map eBucket),.row (b428.f1.f7.map eBucket)]],(x422++[b428.f1]).map eHist=(x422.map eHist)++([b428.f1].map eHist),∀ c∈([b428.f1].map eHist),c.length=8,∀ c∈([b428.f1].map eHist),leaves (c.map .im)=true,((x422.map eHist).length+([b428.f1].map eHist).length)*96≤140737488355328] (by kernel_rfl) ⟨by exact rfl,by simp,by exact all_len _ _ _ (fun _=>rfl),by exact all_leaf _ _ (fun _=>rfl),by simpa using c432,trivial⟩ ?_
    refine rg hP hn hm [] [(20,iV .i64 (i64.wrap (x423+(1:Int))))] [4,6,18,19,20] [] [6,8,11] [] (by kernel_rfl) trivial ?_
    exact LWp.conv [(6,6),(8,8),(11,7)] [] [] (by kernel_rfl) (ih _ _ _ H)
   ·replace H:=iF c424 H
    refine AWp.exit ?_
    obtain rfl:=Option.some.inj H
    exact lf [(6,12),(7,13)] [] [] (by kernel_rfl) ⟨rfl,rfl⟩
  ·obtain⟨x433,rfl⟩:∃ z,z=o2029:=⟨_,rfl⟩
   rintro e s ⟨rfl,rfl⟩
   refine AWp.seq ?_
   refine AWp.conv (inv:=[(12,12)]) (vk:=[13]) (e0:=[]) (t:=⟨[(4,.ptr 12 0 0),(6,.im (.row (x433.map eHist)))],[(12,some (.box 32 [iV .i64 0,iV .i64 0,iV .i64 0,iV .u64 0,iV .u64 0,iV .i64 0,.none0,.none0]))],0⟩) (by kernel_rfl) ?_
   obtain⟨t2016,e2017,H⟩:=bind_of H
   refine rg hP hn hm [(1,.call [] [] [] [] 0 (.tup [.agg (aHist (t2016.1)),iV .i64 t2016.2]) [])] [(5,iV .i64 t2016.2)] [4,5] [(12,some (.box 32 (aHist (t2016.1))))] [12] [_,_] (by kernel_rfl) ⟨Tryz.call23,f_meld_Rise.ok x433 t2016 e2017,trivial⟩ ?_
   refine AWp.conv (inv:=[(12,0)]) (vk:=[]) (e0:=[]) (t:=⟨[(4,.ptr 0 0 0),(5,iV .i64 t2016.2)],[(0,some (.box 32 (aHist ((t2016.1)))))],0⟩) (by kernel_rfl) ?_
   refine AWp.ret ?_
   obtain rfl:=Option.some.inj H
   exact rl (.inl rfl) rfl (by kernel_rfl) (by kernel_rfl)
 ·replace H:=iF c412 H
  refine AWp.skip ?_
  refine AWp.seq ?_
  refine sr hP hn hm [(1,.any (iV .i64 (t410.length:Int)))] [(36,bV ((t410.length:Int)==(0:Int)))] [1,4,36] [] [1,2] [((t410.map eSample).length:Int)=(t410.length:Int)] (by kernel_rfl) ⟨by rw[len_map],trivial⟩ ?_
  refine AWp.cond ((t410.length:Int)==(0:Int)) (by kernel_rfl) (fun c2018 => ?_) (fun c2018 => ?_)
  ·replace H:=iT c2018 H
   refine sr hP hn hm [] [(5,iV .i64 30)] [4,5] [] [1] [] (by kernel_rfl) trivial ?_
   refine AWp.conv (inv:=[(1,0)]) (vk:=[]) (e0:=[]) (t:=⟨[(4,.ptr 0 0 0),(5,iV .i64 30)],[(0,some (.box 32 (aHist ((⟨0,0,0,0,0,0,[],[]⟩:THist)))))],0⟩) (by kernel_rfl) ?_
   refine AWp.ret ?_
   obtain rfl:=Option.some.inj H
   exact rl (.inl rfl) rfl (by kernel_rfl) (by kernel_rfl)
  ·replace H:=iF c2018 H
   refine AWp.skip ?_
   obtain⟨b2024,p2025,q2026,H⟩:=at_of H
   obtain⟨t2027,e2028,H⟩:=bind_of H
   refine sr hP hn hm [(2,.any (iV .i64 (t410.length:Int))),(6,.c (eSample b2024)),(7,.call [] [(0,14),(1,15)] [] [14,15] 0 (.agg [iV .i64 ((t2027).f0),iV .i64 ((t2027).f1),iV .i64 ((t2027).f2),iV .u64 ((t2027).f3),iV .u64 ((t2027).f4),iV .i64 ((t2027).f5),.own 0,.own 1]) [(0,some (.row 2 89 (((t2027).f6).map eBucket))),(1,some (.row 2 89 (((t2027).f7).map eBucket)))])] [(5,iV .i64 0)] [4,5] [(1,some (.box 32 [iV .i64 ((t2027).f0),iV .i64 ((t2027).f1),iV .i64 ((t2027).f2),iV .u64 ((t2027).f3),iV .u64 ((t2027).f4),iV .i64 ((t2027).f5),.own 14,.own 15])),(14,some (.row 2 89 (((t2027).f6).map eBucket))),(15,some (.row 2 89 (((t2027).f7).map eBucket)))] [1,14,15] [((t410.map eSample).length:Int)=(t410.length:Int),_,_,_,_,_] (by kernel_rfl) ⟨by rw[len_map],p2025,el_lt eSample p2025 q2026,el_map eSample q2026,Tryz.call24,f_hist_Clone.ok b2024.f1 t2027 e2028,trivial⟩ ?_
   refine AWp.conv (inv:=[(1,0)]) (vk:=[14,15]) (e0:=[]) (t:=⟨[(4,.ptr 0 0 0),(5,iV .i64 0)],[(0,some (.box 32 (aHist ((t2027)))))],0⟩) (by kernel_rfl) ?_
   refine AWp.ret ?_
   obtain rfl:=Option.some.inj H
   exact rl (.inl rfl) rfl (by kernel_rfl) (by kernel_rfl)
def f_bits_Mul64.f (a0:Int) (a1:Int):Option (Unit):=some ()
theorem f_bits_Mul64.ok (a0:Int) (a1:Int) (r:Unit) (H:f_bits_Mul64.f a0 a1=some r):Pv.Fn Tryz.prog 68 [iV .u64 a0,iV .u64 a1] [] 0 (fun x o=>x = .tup [iV .u64 (u64.wrap ((u64.wrap ((u64.wrap ((Int.fdiv a0 4294967296)*(Int.fdiv a1 4294967296)))+(Int.fdiv (u64.wrap ((u64.wrap ((Int.fdiv a0 4294967296)*(u64.wrap (((BitVec.toNat (BitVec.ofInt 64 a1 &&& BitVec.ofInt 64 (4294967295:Int)):Nat):Int)))))+(Int.fdiv (u64.wrap ((u64.wrap (((BitVec.toNat (BitVec.ofInt 64 a0 &&& BitVec.ofInt 64 (4294967295:Int)):Nat):Int)))*(u64.wrap (((BitVec.toNat (BitVec.ofInt 64 a1 &&& BitVec.ofInt 64 (4294967295:Int)):Nat):Int))))) 4294967296))) 4294967296)))+(Int.fdiv (u64.wrap ((u64.wrap (((BitVec.toNat (BitVec.ofInt 64 (u64.wrap ((u64.wrap ((Int.fdiv a0 4294967296)*(u64.wrap (((BitVec.toNat (BitVec.ofInt 64 a1 &&& BitVec.ofInt 64 (4294967295:Int)):Nat):Int)))))+(Int.fdiv (u64.wrap ((u64.wrap (((BitVec.toNat (BitVec.ofInt 64 a0 &&& BitVec.ofInt 64 (4294967295:Int)):Nat):Int)))*(u64.wrap (((BitVec.toNat (BitVec.ofInt 64 a1 &&& BitVec.ofInt 64 (4294967295:Int)):Nat):Int))))) 4294967296))) &&& BitVec.ofInt 64 (4294967295:Int)):Nat):Int)))+(u64.wrap ((u64.wrap (((BitVec.toNat (BitVec.ofInt 64 a0 &&& BitVec.ofInt 64 (4294967295:Int)):Nat):Int)))*(Int.fdiv a1 4294967296))))) 4294967296))),iV .u64 (u64.wrap (a0*a1))]∧o=[]):=by
 unfold f_bits_Mul64.f at H
 refine Fn.bodyK [] Tryz.func68 rfl rfl (fun Γ hP hn => ?_)
 have hm:Tryz.prog.follows .mixedOrders=true:=by kernel_rfl
 replace hn:Γ.n=51:=hn
 refine sr hP hn hm [] [] [0,1] [] [] [] (by kernel_rfl) trivial ?_
 refine sr hP hn hm [] [(6,iV .u64 (u64.wrap (((BitVec.toNat (BitVec.ofInt 64 a0 &&& BitVec.ofInt 64 (4294967295:Int)):Nat):Int))))] [0,1,6] [] [] [] (by kernel_rfl) trivial ?_
 refine sr hP hn hm [] [(7,iV .u64 (Int.fdiv a0 4294967296))] [0,1,6,7] [] [] [(0:Int)≤32] (by kernel_rfl) ⟨by decide,trivial⟩ ?_
 refine sr hP hn hm [] [(8,iV .u64 (u64.wrap (((BitVec.toNat (BitVec.ofInt 64 a1 &&& BitVec.ofInt 64 (4294967295:Int)):Nat):Int))))] [0,1,6,7,8] [] [] [] (by kernel_rfl) trivial ?_
 refine sr hP hn hm [] [(9,iV .u64 (Int.fdiv a1 4294967296))] [0,1,6,7,8,9] [] [] [(0:Int)≤32] (by kernel_rfl) ⟨by decide,trivial⟩ ?_
 refine sr hP hn hm [] [(10,iV .u64 (u64.wrap ((u64.wrap (((BitVec.toNat (BitVec.ofInt 64 a0 &&& BitVec.ofInt 64 (4294967295:Int)):Nat):Int)))*(u64.wrap (((BitVec.toNat (BitVec.ofInt 64 a1 &&& BitVec.ofInt 64 (4294967295:Int)):Nat):Int))))))] [0,1,6,7,8,9,10] [] [] [] (by kernel_rfl) trivial ?_
 refine sr hP hn hm [] [(11,iV .u64 (u64.wrap ((u64.wrap ((Int.fdiv a0 4294967296)*(u64.wrap (((BitVec.toNat (BitVec.ofInt 64 a1 &&& BitVec.ofInt 64 (4294967295:Int)):Nat):Int)))))+(Int.fdiv (u64.wrap ((u64.wrap (((BitVec.toNat (BitVec.ofInt 64 a0 &&& BitVec.ofInt 64 (4294967295:Int)):Nat):Int)))*(u64.wrap (((BitVec.toNat (BitVec.ofInt 64 a1 &&& BitVec.ofInt 64 (4294967295:Int)):Nat):Int))))) 4294967296))))] [0,1,6,7,9,11] [] [] [(0:Int)≤32] (by kernel_rfl) ⟨by decide,trivial⟩ ?_
 refine sr hP hn hm [] [(12,iV .u64 (u64.wrap (((BitVec.toNat (BitVec.ofInt 64 (u64.wrap ((u64.wrap ((Int.fdiv a0 4294967296)*(u64.wrap (((BitVec.toNat (BitVec.ofInt 64 a1 &&& BitVec.ofInt 64 (4294967295:Int)):Nat):Int)))))+(Int.fdiv (u64.wrap ((u64.wrap (((BitVec.toNat (BitVec.ofInt 64 a0 &&& BitVec.ofInt 64 (4294967295:Int)):Nat):Int)))*(u64.wrap (((BitVec.toNat (BitVec.ofInt 64 a1 &&& BitVec.ofInt 64 (4294967295:Int)):Nat):Int))))) 4294967296))) &&& BitVec.ofInt 64 (4294967295:Int)):Nat):Int))))] [0,1,6,7,9,11,12] [] [] [] (by kernel_rfl) trivial ?_
 refine sr hP hn hm [] [(13,iV .u64 (Int.fdiv (u64.wrap ((u64.wrap ((Int.fdiv a0 4294967296)*(u64.wrap (((BitVec.toNat (BitVec.ofInt 64 a1 &&& BitVec.ofInt 64 (4294967295:Int)):Nat):Int)))))+(Int.fdiv (u64.wrap ((u64.wrap (((BitVec.toNat (BitVec.ofInt 64 a0 &&& BitVec.ofInt 64 (4294967295:Int)):Nat):Int)))*(u64.wrap (((BitVec.toNat (BitVec.ofInt 64 a1 &&& BitVec.ofInt 64 (4294967295:Int)):Nat):Int))))) 4294967296))) 4294967296))] [0,1,6,7,9,12,13] [] [] [(0:Int)≤32] (by kernel_rfl) ⟨by decide,trivial⟩ ?_
 refine sr hP hn hm [] [(12,iV .u64 (u64.wrap ((u64.wrap (((BitVec.toNat (BitVec.ofInt 64 (u64.wrap ((u64.wrap ((Int.fdiv a0 4294967296)*(u64.wrap (((BitVec.toNat (BitVec.ofInt 64 a1 &&& BitVec.ofInt 64 (4294967295:Int)):Nat):Int)))))+(Int.fdiv (u64.wrap ((u64.wrap (((BitVec.toNat (BitVec.ofInt 64 a0 &&& BitVec.ofInt 64 (4294967295:Int)):Nat):Int)))*(u64.wrap (((BitVec.toNat (BitVec.ofInt 64 a1 &&& BitVec.ofInt 64 (4294967295:Int)):Nat):Int))))) 4294967296))) &&& BitVec.ofInt 64 (4294967295:Int)):Nat):Int)))+(u64.wrap ((u64.wrap (((BitVec.toNat (BitVec.ofInt 64 a0 &&& BitVec.ofInt 64 (4294967295:Int)):Nat):Int)))*(Int.fdiv a1 4294967296))))))] [0,1,7,9,12,13] [] [] [] (by kernel_rfl) trivial ?_
 refine sr hP hn hm [] [(4,iV .u64 (u64.wrap ((u64.wrap ((u64.wrap ((Int.fdiv a0 4294967296)*(Int.fdiv a1 4294967296)))+(Int.fdiv (u64.wrap ((u64.wrap ((Int.fdiv a0 4294967296)*(u64.wrap (((BitVec.toNat (BitVec.ofInt 64 a1 &&& BitVec.ofInt 64 (4294967295:Int)):Nat):Int)))))+(Int.fdiv (u64.wrap ((u64.wrap (((BitVec.toNat (BitVec.ofInt 64 a0 &&& BitVec.ofInt 64 (4294967295:Int)):Nat):Int)))*(u64.wrap (((BitVec.toNat (BitVec.ofInt 64 a1 &&& BitVec.ofInt 64 (4294967295:Int)):Nat):Int))))) 4294967296))) 4294967296)))+(Int.fdiv (u64.wrap ((u64.wrap (((BitVec.toNat (BitVec.ofInt 64 (u64.wrap ((u64.wrap ((Int.fdiv a0 4294967296)*(u64.wrap (((BitVec.toNat (BitVec.ofInt 64 a1 &&& BitVec.ofInt 64 (4294967295:Int)):Nat):Int)))))+(Int.fdiv (u64.wrap ((u64.wrap (((BitVec.toNat (BitVec.ofInt 64 a0 &&& BitVec.ofInt 64 (4294967295:Int)):Nat):Int)))*(u64.wrap (((BitVec.toNat (BitVec.ofInt 64 a1 &&& BitVec.ofInt 64 (4294967295:Int)):Nat):Int))))) 4294967296))) &&& BitVec.ofInt 64 (4294967295:Int)):Nat):Int)))+(u64.wrap ((u64.wrap (((BitVec.toNat (BitVec.ofInt 64 a0 &&& BitVec.ofInt 64 (4294967295:Int)):Nat):Int)))*(Int.fdiv a1 4294967296))))) 4294967296))))] [0,1,4] [] [] [(0:Int)≤32] (by kernel_rfl) ⟨by decide,trivial⟩ ?_
 refine sr hP hn hm [] [(5,iV .u64 (u64.wrap (a0*a1)))] [4,5] [] [] [] (by kernel_rfl) trivial ?_
 refine AWp.conv (inv:=[]) (vk:=[]) (e0:=[]) (t:=⟨[(4,iV .u64 (u64.wrap ((u64.wrap ((u64.wrap ((Int.fdiv a0 4294967296)*(Int.fdiv a1 4294967296)))+(Int.fdiv (u64.wrap ((u64.wrap ((Int.fdiv a0 4294967296)*(u64.wrap (((BitVec.toNat (BitVec.ofInt 64 a1 &&& BitVec.ofInt 64 (4294967295:Int)):Nat):Int)))))+(Int.fdiv (u64.wrap ((u64.wrap (((BitVec.toNat (BitVec.ofInt 64 a0 &&& BitVec.ofInt 64 (4294967295:Int)):Nat):Int)))*(u64.wrap (((BitVec.toNat (BitVec.ofInt 64 a1 &&& BitVec.ofInt 64 (4294967295:Int)):Nat):Int))))) 4294967296))) 4294967296)))+(Int.fdiv (u64.wrap ((u64.wrap (((BitVec.toNat (BitVec.ofInt 64 (u64.wrap ((u64.wrap ((Int.fdiv a0 4294967296)*(u64.wrap (((BitVec.toNat (BitVec.ofInt 64 a1 &&& BitVec.ofInt 64 (4294967295:Int)):Nat):Int)))))+(Int.fdiv (u64.wrap ((u64.wrap (((BitVec.toNat (BitVec.ofInt 64 a0 &&& BitVec.ofInt 64 (4294967295:Int)):Nat):Int)))*(u64.wrap (((BitVec.toNat (BitVec.ofInt 64 a1 &&& BitVec.ofInt 64 (4294967295:Int)):Nat):Int))))) 4294967296))) &&& BitVec.ofInt 64 (4294967295:Int)):Nat):Int)))+(u64.wrap ((u64.wrap (((BitVec.toNat (BitVec.ofInt 64 a0 &&& BitVec.ofInt 64 (4294967295:Int)):Nat):Int)))*(Int.fdiv a1 4294967296))))) 4294967296)))),(5,iV .u64 (u64.wrap (a0*a1)))],[],0⟩) (by kernel_rfl) ?_
 refine AWp.ret ?_
 obtain rfl:=Option.some.inj H
 exact rl (.inl rfl) rfl (by kernel_rfl) (by kernel_rfl)
def f_num_Mul.f (a0:Int) (a1:Int):Option (Tnum_Wide):=(f_bits_Mul64.f a0 a1)>>=fun t2053=>some (⟨u64.wrap ((u64.wrap ((u64.wrap ((Int.fdiv a0 4294967296)*(Int.fdiv a1 4294967296)))+(Int.fdiv (u64.wrap ((u64.wrap ((Int.fdiv a0 4294967296)*(u64.wrap (((BitVec.toNat (BitVec.ofInt 64 a1 &&& BitVec.ofInt 64 (4294967295:Int)):Nat):Int)))))+(Int.fdiv (u64.wrap ((u64.wrap (((BitVec.toNat (BitVec.ofInt 64 a0 &&& BitVec.ofInt 64 (4294967295:Int)):Nat):Int)))*(u64.wrap (((BitVec.toNat (BitVec.ofInt 64 a1 &&& BitVec.ofInt 64 (4294967295:Int)):Nat):Int))))) 4294967296))) 4294967296)))+(Int.fdiv (u64.wrap ((u64.wrap (((BitVec.toNat (BitVec.ofInt 64 (u64.wrap ((u64.wrap ((Int.fdiv a0 4294967296)*(u64.wrap (((BitVec.toNat (BitVec.ofInt 64 a1 &&& BitVec.ofInt 64 (4294967295:Int)):Nat):Int)))))+(Int.fdiv (u64.wrap ((u64.wrap (((BitVec.toNat (BitVec.ofInt 64 a0 &&& BitVec.ofInt 64 (4294967295:Int)):Nat):Int)))*(u64.wrap (((BitVec.toNat (BitVec.ofInt 64 a1 &&& BitVec.ofInt 64 (4294967295:Int)):Nat):Int))))) 4294967296))) &&& BitVec.ofInt 64 (4294967295:Int)):Nat):Int)))+(u64.wrap ((u64.wrap (((BitVec.toNat (BitVec.ofInt 64 a0 &&& BitVec.ofInt 64 (4294967295:Int)):Nat):Int)))*(Int.fdiv a1 4294967296))))) 4294967296)),u64.wrap (a0*a1)⟩:Tnum_Wide)
theorem f_num_Mul.ok (a0:Int) (a1:Int) (r:Tnum_Wide) (H:f_num_Mul.f a0 a1=some r):Pv.Fn Tryz.prog 41 [iV .u64 a0,iV .u64 a1] [] 0 (fun x o=>x = .agg (anum_Wide (r))∧o=[]):=by
 unfold f_num_Mul.f at H
 refine Fn.bodyK [] Tryz.func41 rfl rfl (fun Γ hP hn => ?_)
 have hm:Tryz.prog.follows .mixedOrders=true:=by kernel_rfl
 replace hn:Γ.n=16:=hn
 refine sr hP hn hm [(0,.k 0)] [(4,.ptr 0 0 0)] [0,1,4] [(0,some (.box 93 (anum_Wide ⟨0,0⟩)))] [0] [] (by kernel_rfl) trivial ?_
 obtain⟨t2053,e2054,H⟩:=bind_of H
 refine sr hP hn hm [(2,.call [] [] [] [] 0 (.tup [iV .u64 (u64.wrap ((u64.wrap ((u64.wrap ((Int.fdiv a0 4294967296)*(Int.fdiv a1 4294967296)))+(Int.fdiv (u64.wrap ((u64.wrap ((Int.fdiv a0 4294967296)*(u64.wrap (((BitVec.toNat (BitVec.ofInt 64 a1 &&& BitVec.ofInt 64 (4294967295:Int)):Nat):Int)))))+(Int.fdiv (u64.wrap ((u64.wrap (((BitVec.toNat (BitVec.ofInt 64 a0 &&& BitVec.ofInt 64 (4294967295:Int)):Nat):Int)))*(u64.wrap (((BitVec.toNat (BitVec.ofInt 64 a1 &&& BitVec.ofInt 64 (4294967295:Int)):Nat):Int))))) 4294967296))) 4294967296)))+(Int.fdiv (u64.wrap ((u64.wrap (((BitVec.toNat (BitVec.ofInt 64 (u64.wrap ((u64.wrap ((Int.fdiv a0 4294967296)*(u64.wrap (((BitVec.toNat (BitVec.ofInt 64 a1 &&& BitVec.ofInt 64 (4294967295:Int)):Nat):Int)))))+(Int.fdiv (u64.wrap ((u64.wrap (((BitVec.toNat (BitVec.ofInt 64 a0 &&& BitVec.ofInt 64 (4294967295:Int)):Nat):Int)))*(u64.wrap (((BitVec.toNat (BitVec.ofInt 64 a1 &&& BitVec.ofInt 64 (4294967295:Int)):Nat):Int))))) 4294967296))) &&& BitVec.ofInt 64 (4294967295:Int)):Nat):Int)))+(u64.wrap ((u64.wrap (((BitVec.toNat (BitVec.ofInt 64 a0 &&& BitVec.ofInt 64 (4294967295:Int)):Nat):Int)))*(Int.fdiv a1 4294967296))))) 4294967296))),iV .u64 (u64.wrap (a0*a1))]) [])] [(5,iV .u64 (u64.wrap ((u64.wrap ((u64.wrap ((Int.fdiv a0 4294967296)*(Int.fdiv a1 4294967296)))+(Int.fdiv (u64.wrap ((u64.wrap ((Int.fdiv a0 4294967296)*(u64.wrap (((BitVec.toNat (BitVec.ofInt 64 a1 &&& BitVec.ofInt 64 (4294967295:Int)):Nat):Int)))))+(Int.fdiv (u64.wrap ((u64.wrap (((BitVec.toNat (BitVec.ofInt 64 a0 &&& BitVec.ofInt 64 (4294967295:Int)):Nat):Int)))*(u64.wrap (((BitVec.toNat (BitVec.ofInt 64 a1 &&& BitVec.ofInt 64 (4294967295:Int)):Nat):Int))))) 4294967296))) 4294967296)))+(Int.fdiv (u64.wrap ((u64.wrap (((BitVec.toNat (BitVec.ofInt 64 (u64.wrap ((u64.wrap ((Int.fdiv a0 4294967296)*(u64.wrap (((BitVec.toNat (BitVec.ofInt 64 a1 &&& BitVec.ofInt 64 (4294967295:Int)):Nat):Int)))))+(Int.fdiv (u64.wrap ((u64.wrap (((BitVec.toNat (BitVec.ofInt 64 a0 &&& BitVec.ofInt 64 (4294967295:Int)):Nat):Int)))*(u64.wrap (((BitVec.toNat (BitVec.ofInt 64 a1 &&& BitVec.ofInt 64 (4294967295:Int)):Nat):Int))))) 4294967296))) &&& BitVec.ofInt 64 (4294967295:Int)):Nat):Int)))+(u64.wrap ((u64.wrap (((BitVec.toNat (BitVec.ofInt 64 a0 &&& BitVec.ofInt 64 (4294967295:Int)):Nat):Int)))*(Int.fdiv a1 4294967296))))) 4294967296)))),(6,iV .u64 (u64.wrap (a0*a1)))] [4,5,6] [] [0] [_,_] (by kernel_rfl) ⟨Tryz.call68,f_bits_Mul64.ok a0 a1 t2053 e2054,trivial⟩ ?_
 refine sr hP hn hm [] [] [4] [(0,some (.box 93 (anum_Wide ⟨(u64.wrap ((u64.wrap ((u64.wrap ((Int.fdiv a0 4294967296)*(Int.fdiv a1 4294967296)))+(Int.fdiv (u64.wrap ((u64.wrap ((Int.fdiv a0 4294967296)*(u64.wrap (((BitVec.toNat (BitVec.ofInt 64 a1 &&& BitVec.ofInt 64 (4294967295:Int)):Nat):Int)))))+(Int.fdiv (u64.wrap ((u64.wrap (((BitVec.toNat (BitVec.ofInt 64 a0 &&& BitVec.ofInt 64 (4294967295:Int)):Nat):Int)))*(u64.wrap (((BitVec.toNat (BitVec.ofInt 64 a1 &&& BitVec.ofInt 64 (4294967295:Int)):Nat):Int))))) 4294967296))) 4294967296)))+(Int.fdiv (u64.wrap ((u64.wrap (((BitVec.toNat (BitVec.ofInt 64 (u64.wrap ((u64.wrap ((Int.fdiv a0 4294967296)*(u64.wrap (((BitVec.toNat (BitVec.ofInt 64 a1 &&& BitVec.ofInt 64 (4294967295:Int)):Nat):Int)))))+(Int.fdiv (u64.wrap ((u64.wrap (((BitVec.toNat (BitVec.ofInt 64 a0 &&& BitVec.ofInt 64 (4294967295:Int)):Nat):Int)))*(u64.wrap (((BitVec.toNat (BitVec.ofInt 64 a1 &&& BitVec.ofInt 64 (4294967295:Int)):Nat):Int))))) 4294967296))) &&& BitVec.ofInt 64 (4294967295:Int)):Nat):Int)))+(u64.wrap ((u64.wrap (((BitVec.toNat (BitVec.ofInt 64 a0 &&& BitVec.ofInt 64 (4294967295:Int)):Nat):Int)))*(Int.fdiv a1 4294967296))))) 4294967296))),(u64.wrap (a0*a1))⟩)))] [0] [] (by kernel_rfl) trivial ?_
 refine AWp.conv (inv:=[(0,0)]) (vk:=[]) (e0:=[]) (t:=⟨[(4,.ptr 0 0 0)],[(0,some (.box 93 (anum_Wide ((⟨u64.wrap ((u64.wrap ((u64.wrap ((Int.fdiv a0 4294967296)*(Int.fdiv a1 4294967296)))+(Int.fdiv (u64.wrap ((u64.wrap ((Int.fdiv a0 4294967296)*(u64.wrap (((BitVec.toNat (BitVec.ofInt 64 a1 &&& BitVec.ofInt 64 (4294967295:Int)):Nat):Int)))))+(Int.fdiv (u64.wrap ((u64.wrap (((BitVec.toNat (BitVec.ofInt 64 a0 &&& BitVec.ofInt 64 (4294967295:Int)):Nat):Int)))*(u64.wrap (((BitVec.toNat (BitVec.ofInt 64 a1 &&& BitVec.ofInt 64 (4294967295:Int)):Nat):Int))))) 4294967296))) 4294967296)))+(Int.fdiv (u64.wrap ((u64.wrap (((BitVec.toNat (BitVec.ofInt 64 (u64.wrap ((u64.wrap ((Int.fdiv a0 4294967296)*(u64.wrap (((BitVec.toNat (BitVec.ofInt 64 a1 &&& BitVec.ofInt 64 (4294967295:Int)):Nat):Int)))))+(Int.fdiv (u64.wrap ((u64.wrap (((BitVec.toNat (BitVec.ofInt 64 a0 &&& BitVec.ofInt 64 (4294967295:Int)):Nat):Int)))*(u64.wrap (((BitVec.toNat (BitVec.ofInt 64 a1 &&& BitVec.ofInt 64 (4294967295:Int)):Nat):Int))))) 4294967296))) &&& BitVec.ofInt 64 (4294967295:Int)):Nat):Int)))+(u64.wrap ((u64.wrap (((BitVec.toNat (BitVec.ofInt 64 a0 &&& BitVec.ofInt 64 (4294967295:Int)):Nat):Int)))*(Int.fdiv a1 4294967296))))) 4294967296)),u64.wrap (a0*a1)⟩:Tnum_Wide)))))],0⟩) (by kernel_rfl) ?_
 refine AWp.ret ?_
 obtain rfl:=Option.some.inj H
 exact rl (.inl rfl) rfl (by kernel_rfl) (by kernel_rfl)
def f_bits_Len64.f (a0:Int):Option (Int):=((if(decide (a0≥(4294967296:Int)))=true then(some (Int.fdiv a0 4294967296,32)) else(some (a0,0))):Option (Int×Int))>>=fun oo=>match oo with | (x2067,x2068)=>(((if(decide (x2067≥(65536:Int)))=true then(some (Int.fdiv x2067 65536,i64.wrap (x2068+(16:Int)))) else(some (x2067,x2068))):Option (Int×Int))>>=fun oo=>match oo with | (x2070,x2071)=>(((if(decide (x2070≥(256:Int)))=true then(some (Int.fdiv x2070 256,i64.wrap (x2071+(8:Int)))) else(some (x2070,x2071))):Option (Int×Int))>>=fun oo=>match oo with | (x2073,x2074)=>((chk (0≤(u8.wrap (x2073))∧(u8.wrap (x2073))<((⟨#[0,1,2,2,3,3,3,3,4,4,4,4,4,4,4,4,5,5,5,5,5,5,5,5,5,5,5,5,5,5,5,5,6,6,6,6,6,6,6,6,6,6,6,6,6,6,6,6,6,6,6,6,6,6,6,6,6,6,6,6,6,6,6,6,7,7,7,7,7,7,7,7,7,7,7,7,7,7,7,7,7,7,7,7,7,7,7,7,7,7,7,7,7,7,7,7,7,7,7,7,7,7,7,7,7,7,7,7,7,7,7,7,7,7,7,7,7,7,7,7,7,7,7,7,7,7,7,7,8,8,8,8,8,8,8,8,8,8,8,8,8,8,8,8,8,8,8,8,8,8,8,8,8,8,8,8,8,8,8,8,8,8,8,8,8,8,8,8,8,8,8,8,8,8,8,8,8,8,8,8,8,8,8,8,8,8,8,8,8,8,8,8,8,8,8,8,8,8,8,8,8,8,8,8,8,8,8,8,8,8,8,8,8,8,8,8,8,8,8,8,8,8,8,8,8,8,8,8,8,8,8,8,8,8,8,8,8,8,8,8,8,8,8,8,8,8,8,8,8,8,8,8,8,8,8,8]⟩:ByteArray).size:Int)))>>=fun _=>some (i64.wrap (x2074+(i64.wrap (bt (⟨#[0,1,2,2,3,3,3,3,4,4,4,4,4,4,4,4,5,5,5,5,5,5,5,5,5,5,5,5,5,5,5,5,6,6,6,6,6,6,6,6,6,6,6,6,6,6,6,6,6,6,6,6,6,6,6,6,6,6,6,6,6,6,6,6,7,7,7,7,7,7,7,7,7,7,7,7,7,7,7,7,7,7,7,7,7,7,7,7,7,7,7,7,7,7,7,7,7,7,7,7,7,7,7,7,7,7,7,7,7,7,7,7,7,7,7,7,7,7,7,7,7,7,7,7,7,7,7,7,8,8,8,8,8,8,8,8,8,8,8,8,8,8,8,8,8,8,8,8,8,8,8,8,8,8,8,8,8,8,8,8,8,8,8,8,8,8,8,8,8,8,8,8,8,8,8,8,8,8,8,8,8,8,8,8,8,8,8,8,8,8,8,8,8,8,8,8,8,8,8,8,8,8,8,8,8,8,8,8,8,8,8,8,8,8,8,8,8,8,8,8,8,8,8,8,8,8,8,8,8,8,8,8,8,8,8,8,8,8,8,8,8,8,8,8,8,8,8,8,8,8,8,8,8,8,8,8]⟩:ByteArray) (u8.wrap (x2073)))))))))
theorem f_bits_Len64.ok (a0:Int) (r:Int) (H:f_bits_Len64.f a0=some r):Pv.Fn Tryz.prog 94 [iV .u64 a0] [] 0 (fun x o=>x=iV .i64 r∧o=[]):=by
 unfold f_bits_Len64.f at H
 refine Fn.bodyK [] Tryz.func94 rfl rfl (fun Γ hP hn => ?_)
 have hm:Tryz.prog.follows .mixedOrders=true:=by kernel_rfl
 replace hn:Γ.n=25:=hn
 refine sr hP hn hm [] [(2,iV .i64 0)] [0,2] [] [] [] (by kernel_rfl) trivial ?_
 refine AWp.seq ?_
 refine sr hP hn hm [] [(4,bV (decide (a0≥(4294967296:Int))))] [0,2,4] [] [] [] (by kernel_rfl) trivial ?_
 obtain⟨o2077,e2078,H⟩:=bind_of H
 refine AWp.mono (Q:=fun e s=>(match (generalizing:=false) o2077 with | (x2067,x2068)=>e = .normal∧s=⟨[(0,iV .u64 x2067),(2,iV .i64 x2068)],[],0⟩)) (AWp.cv ?_) ?_
 ·replace H:=e2078;clear e2078
  refine AWp.cond (decide (a0≥(4294967296:Int))) (by kernel_rfl) (fun c2066 => ?_) (fun c2066 => ?_)
  ·replace H:=iT c2066 H
   refine sr hP hn hm [] [(0,iV .u64 (Int.fdiv a0 4294967296))] [0] [] [] [(0:Int)≤32] (by kernel_rfl) ⟨by decide,trivial⟩ ?_
   refine rg hP hn hm [] [(2,iV .i64 32)] [0,2] [] [] [] (by kernel_rfl) trivial ?_
   obtain rfl:=Option.some.inj H
   exact lf [] [] [] (by kernel_rfl) ⟨rfl,rfl⟩
  ·replace H:=iF c2066 H
   refine AWp.skip ?_
   obtain rfl:=Option.some.inj H
   exact lf [] [] [] (by kernel_rfl) ⟨rfl,rfl⟩
 ·obtain⟨x2067,x2068⟩:=o2077
  rintro e s ⟨rfl,rfl⟩
  refine AWp.seq ?_
  refine sr hP hn hm [] [(8,bV (decide (x2067≥(65536:Int))))] [0,2,8] [] [] [] (by kernel_rfl) trivial ?_
  obtain⟨o2079,e2080,H⟩:=bind_of H
  refine AWp.mono (Q:=fun e s=>(match (generalizing:=false) o2079 with | (x2070,x2071)=>e = .normal∧s=⟨[(0,iV .u64 x2070),(2,iV .i64 x2071)],[],0⟩)) (AWp.cv ?_) ?_
  ·replace H:=e2080;clear e2080
   refine AWp.cond (decide (x2067≥(65536:Int))) (by kernel_rfl) (fun c2069 => ?_) (fun c2069 => ?_)
   ·replace H:=iT c2069 H
    refine sr hP hn hm [] [(0,iV .u64 (Int.fdiv x2067 65536))] [0,2] [] [] [(0:Int)≤16] (by kernel_rfl) ⟨by decide,trivial⟩ ?_
    refine rg hP hn hm [] [(2,iV .i64 (i64.wrap (x2068+(16:Int))))] [0,2] [] [] [] (by kernel_rfl) trivial ?_
    obtain rfl:=Option.some.inj H
    exact lf [] [] [] (by kernel_rfl) ⟨rfl,rfl⟩
   ·replace H:=iF c2069 H
    refine AWp.skip ?_
    obtain rfl:=Option.some.inj H
    exact lf [] [] [] (by kernel_rfl) ⟨rfl,rfl⟩
  ·obtain⟨x2070,x2071⟩:=o2079
   rintro e s ⟨rfl,rfl⟩
   refine AWp.seq ?_
   refine sr hP hn hm [] [(14,bV (decide (x2070≥(256:Int))))] [0,2,14] [] [] [] (by kernel_rfl) trivial ?_
   obtain⟨o2081,e2082,H⟩:=bind_of H
   refine AWp.mono (Q:=fun e s=>(match (generalizing:=false) o2081 with | (x2073,x2074)=>e = .normal∧s=⟨[(0,iV .u64 x2073),(2,iV .i64 x2074)],[],0⟩)) (AWp.cv ?_) ?_
   ·replace H:=e2082;clear e2082
    refine AWp.cond (decide (x2070≥(256:Int))) (by kernel_rfl) (fun c2072 => ?_) (fun c2072 => ?_)
    ·replace H:=iT c2072 H
     refine sr hP hn hm [] [(0,iV .u64 (Int.fdiv x2070 256))] [0,2] [] [] [(0:Int)≤8] (by kernel_rfl) ⟨by decide,trivial⟩ ?_
     refine rg hP hn hm [] [(2,iV .i64 (i64.wrap (x2071+(8:Int))))] [0,2] [] [] [] (by kernel_rfl) trivial ?_
     obtain rfl:=Option.some.inj H
     exact lf [] [] [] (by kernel_rfl) ⟨rfl,rfl⟩
    ·replace H:=iF c2072 H
     refine AWp.skip ?_
     obtain rfl:=Option.some.inj H
     exact lf [] [] [] (by kernel_rfl) ⟨rfl,rfl⟩
   ·obtain⟨x2073,x2074⟩:=o2081
    rintro e s ⟨rfl,rfl⟩
    obtain⟨c2076,H⟩:=chk_of H
    refine sr hP hn hm [] [(2,iV .i64 (i64.wrap (x2074+(i64.wrap (bt (⟨#[0,1,2,2,3,3,3,3,4,4,4,4,4,4,4,4,5,5,5,5,5,5,5,5,5,5,5,5,5,5,5,5,6,6,6,6,6,6,6,6,6,6,6,6,6,6,6,6,6,6,6,6,6,6,6,6,6,6,6,6,6,6,6,6,7,7,7,7,7,7,7,7,7,7,7,7,7,7,7,7,7,7,7,7,7,7,7,7,7,7,7,7,7,7,7,7,7,7,7,7,7,7,7,7,7,7,7,7,7,7,7,7,7,7,7,7,7,7,7,7,7,7,7,7,7,7,7,7,8,8,8,8,8,8,8,8,8,8,8,8,8,8,8,8,8,8,8,8,8,8,8,8,8,8,8,8,8,8,8,8,8,8,8,8,8,8,8,8,8,8,8,8,8,8,8,8,8,8,8,8,8,8,8,8,8,8,8,8,8,8,8,8,8,8,8,8,8,8,8,8,8,8,8,8,8,8,8,8,8,8,8,8,8,8,8,8,8,8,8,8,8,8,8,8,8,8,8,8,8,8,8,8,8,8,8,8,8,8,8,8,8,8,8,8,8,8,8,8,8,8,8,8,8,8,8,8]⟩:ByteArray) (u8.wrap (x2073)))))))] [2] [] [] [0≤(u8.wrap (x2073)),(u8.wrap (x2073))<((⟨#[0,1,2,2,3,3,3,3,4,4,4,4,4,4,4,4,5,5,5,5,5,5,5,5,5,5,5,5,5,5,5,5,6,6,6,6,6,6,6,6,6,6,6,6,6,6,6,6,6,6,6,6,6,6,6,6,6,6,6,6,6,6,6,6,7,7,7,7,7,7,7,7,7,7,7,7,7,7,7,7,7,7,7,7,7,7,7,7,7,7,7,7,7,7,7,7,7,7,7,7,7,7,7,7,7,7,7,7,7,7,7,7,7,7,7,7,7,7,7,7,7,7,7,7,7,7,7,7,8,8,8,8,8,8,8,8,8,8,8,8,8,8,8,8,8,8,8,8,8,8,8,8,8,8,8,8,8,8,8,8,8,8,8,8,8,8,8,8,8,8,8,8,8,8,8,8,8,8,8,8,8,8,8,8,8,8,8,8,8,8,8,8,8,8,8,8,8,8,8,8,8,8,8,8,8,8,8,8,8,8,8,8,8,8,8,8,8,8,8,8,8,8,8,8,8,8,8,8,8,8,8,8,8,8,8,8,8,8,8,8,8,8,8,8,8,8,8,8,8,8,8,8,8,8,8,8]⟩:ByteArray).size:Int)] (by kernel_rfl) ⟨by exact c2076.1,by exact c2076.2,trivial⟩ ?_
    refine AWp.conv (inv:=[]) (vk:=[]) (e0:=[]) (t:=⟨[(2,iV .i64 (i64.wrap (x2074+(i64.wrap (bt (⟨#[0,1,2,2,3,3,3,3,4,4,4,4,4,4,4,4,5,5,5,5,5,5,5,5,5,5,5,5,5,5,5,5,6,6,6,6,6,6,6,6,6,6,6,6,6,6,6,6,6,6,6,6,6,6,6,6,6,6,6,6,6,6,6,6,7,7,7,7,7,7,7,7,7,7,7,7,7,7,7,7,7,7,7,7,7,7,7,7,7,7,7,7,7,7,7,7,7,7,7,7,7,7,7,7,7,7,7,7,7,7,7,7,7,7,7,7,7,7,7,7,7,7,7,7,7,7,7,7,8,8,8,8,8,8,8,8,8,8,8,8,8,8,8,8,8,8,8,8,8,8,8,8,8,8,8,8,8,8,8,8,8,8,8,8,8,8,8,8,8,8,8,8,8,8,8,8,8,8,8,8,8,8,8,8,8,8,8,8,8,8,8,8,8,8,8,8,8,8,8,8,8,8,8,8,8,8,8,8,8,8,8,8,8,8,8,8,8,8,8,8,8,8,8,8,8,8,8,8,8,8,8,8,8,8,8,8,8,8,8,8,8,8,8,8,8,8,8,8,8,8,8,8,8,8,8,8]⟩:ByteArray) (u8.wrap (x2073)))))))],[],0⟩) (by kernel_rfl) ?_
    refine AWp.ret ?_
    obtain rfl:=Option.some.inj H
    exact rl (.inl rfl) rfl (by kernel_rfl) (by kernel_rfl)
def f_bits_LeadingZeros64.f (a0:Int):Option (Int):=(f_bits_Len64.f a0)>>=fun t2085=>some (i64.wrap ((64:Int)-t2085))
theorem f_bits_LeadingZeros64.ok (a0:Int) (r:Int) (H:f_bits_LeadingZeros64.f a0=some r):Pv.Fn Tryz.prog 83 [iV .u64 a0] [] 0 (fun x o=>x=iV .i64 r∧o=[]):=by
 unfold f_bits_LeadingZeros64.f at H
 refine Fn.bodyK [] Tryz.func83 rfl rfl (fun Γ hP hn => ?_)
 have hm:Tryz.prog.follows .mixedOrders=true:=by kernel_rfl
 replace hn:Γ.n=6:=hn
 refine sr hP hn hm [] [] [0] [] [] [] (by kernel_rfl) trivial ?_
 obtain⟨t2085,e2086,H⟩:=bind_of H
 refine sr hP hn hm [(1,.call [] [] [] [] 0 (iV .i64 t2085) [])] [(2,iV .i64 (i64.wrap ((64:Int)-t2085)))] [2] [] [] [_,_] (by kernel_rfl) ⟨Tryz.call94,f_bits_Len64.ok a0 t2085 e2086,trivial⟩ ?_
 refine AWp.conv (inv:=[]) (vk:=[]) (e0:=[]) (t:=⟨[(2,iV .i64 (i64.wrap ((64:Int)-t2085)))],[],0⟩) (by kernel_rfl) ?_
 refine AWp.ret ?_
 obtain rfl:=Option.some.inj H
 exact rl (.inl rfl) rfl (by kernel_rfl) (by kernel_rfl)
end Go.Proofs.YtbmdealiikoplaaGreat.PvGJ
