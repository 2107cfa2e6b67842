import Derived.Test.YtlclecehlekjoaaProg
import Derived.Test.YtlclecehlekjoaaPxChunkTurns06
set_option linter.unusedVariables false
set_option linter.unnecessarySimpa false
set_option linter.unusedSimpArgs false
set_option maxRecDepth 10000
namespace Go.Proofs.Ytlclecehlekjoaa.PvGE
open Go Go.Pv Go.IntKind
def Z0f.l1 (a0:List Z2) (b1383:Z2) (x1376:List Z2) (x1377:List Z2) (x1378:Int) (x1396:Unit):Option (((List Z2)×Bool) ⊕ Unit):=((if(decide ((x1376.length:Int)>(0:Int)))=true then((at? x1376 0)>>=fun b1391=>some (decide (b1391.f0<b1383.f0))) else(some false)):Option (Bool))>>=fun x1394=>if x1394=true then(some (.inl ([],false))) else(some (.inr ()))
def Z0f.l0 (a0:List Z2) (x1376:List Z2) (x1377:List Z2) (x1378:Int):Option (((List Z2)×Bool) ⊕ ((List Z2)×(List Z2))):=if(decide (x1378<(a0.length:Int)))=true then((at? a0 x1378)>>=fun b1383=>(Z0f.l1 a0 b1383 x1376 x1377 x1378 ())>>=fun oo=>match oo with | .inl rr=>(some (.inl rr)) | .inr _=>(((if(decide ((x1376.length:Int)>(0:Int)))=true then((at? x1376 0)>>=fun b1402=>some (b1402.f0==b1383.f0)) else(some false)):Option (Bool))>>=fun x1405=>((if x1405=true then((at? x1376 0)>>=fun b1410=>if(decide (b1410.f1>b1383.f1))=true then(some (.inl ([],false))) else((chk (0≤(1:Int)∧(1:Int)≤(x1376.length:Int)∧(x1376.length:Int)≤(x1376.length:Int)))>>=fun _=>some (.inr ((x1376.drop (Int.toNat ((1:Int)))).take ((Int.toNat ((x1376.length:Int)))-(Int.toNat ((1:Int)))),u64.wrap (b1383.f1-b1410.f1))))) else(some (.inr (x1376,b1383.f1)))):Option (((List Z2)×Bool) ⊕ ((List Z2)×Int)))>>=fun oo=>match oo with | .inl rr=>(some (.inl rr)) | .inr (x1416,x1417)=>((chk ((x1377.length+[(⟨b1383.f0,x1417⟩:Z2)].length)*16≤140737488355328))>>=fun _=>Z0f.l0 a0 x1416 (x1377++[(⟨b1383.f0,x1417⟩:Z2)]) (i64.wrap (x1378+(1:Int)))))) else(some (.inr (x1376,x1377)))
partial_fixpoint
def Z0f.f (a0:List Z2) (a1:List Z2):Option ((List Z2)×Bool):=(Z0f.l0 a0 a1 [] 0)>>=fun oo=>match oo with | .inl rr=>(some rr) | .inr (x1420,x1421)=>(some (x1421,((x1420.length:Int)==(0:Int))))
theorem Z0f.ok (a0:List Z2) (a1:List Z2) (r:(List Z2)×Bool) (H:Z0f.f a0 a1=some r):Pv.Fn Try.prog 70 [.im (.row (a0.map Z0)),.im (.row (a1.map Z0))] [] 0 (fun x o=>x = .tup [.own 0,bV r.2]∧o=[(0,some (.row 2 78 (r.1.map Z0)))]):=by
 unfold Z0f.f at H
 refine Fn.bodyK [0] Try.func70 rfl rfl (fun Γ hP hn => ?_)
 have hm:Try.prog.follows .mixedOrders=true:=by kernel_rfl
 replace hn:Γ.n=65:=hn
 refine sO hP hn hm [] [] [0,1] [] [] ?_
 refine sO hP hn hm [] [(6,.none0)] [0,1,6] [] [] ?_
 refine AWp.seq ?_
 refine sR hP hn hm [(1,.any (iV .i64 (a0.length:Int)))] [(9,.im (.row (a0.map Z0))),(10,iV .i64 (a0.length:Int)),(11,iV .i64 0)] [1,6,9,10,11] [] [] [((a0.map Z0).length:Int)=(a0.length:Int)] ⟨by rw[Zv],trivial⟩ ?_
 refine AWp.block ?_
 obtain⟨o1422,e1423,H⟩:=Z4 H
 refine AWp.loop (LWp.conv (inv:=[]) (vk:=[]) (e0:=[7]) (t:=⟨[(1,.im (.row (a1.map Z0))),(6,.own 7),(9,.im (.row (a0.map Z0))),(10,iV .i64 (a0.length:Int)),(11,iV .i64 0)],[(7,some (.row 2 78 ([].map Z0)))],0⟩) (by kernel_rfl) ?_)
 refine LWp.mono (Q:=fun e s=>(match (generalizing:=false) o1422 with | .inl rr=>e = .ret∧s.floor=0∧Z2f Try.prog Try.f70 s=some (.tup [.own 0,bV rr.2])∧([(0,s.obj 0)]:List (Nat×Option MObj))=[(0,some (.row 2 78 (rr.1.map Z0)))] | .inr (x1420,x1421)=>e = .exit 0∧s=⟨[(1,.im (.row (x1420.map Z0))),(6,.own 19)],[(19,some (.row 2 78 (x1421.map Z0)))],0⟩)) (LWp.cv (Z07 (fun body hbody => ?_))) ?_
 ·refine         Z0f.l0.partial_correctness a0 (motive:=fun x1376 x1377 x1378 o1422=>LWp Γ body (fun e s=>∃ t,Cv Γ s t∧(match (generalizing:=false) o1422 with | .inl rr=>e = .ret∧t.floor=0∧Z2f   Try.prog Try.f70 t=some (.tup [.own 0,bV rr.2])∧([(0,t.obj 0)]:List (Nat×Option MObj))=[(0,some (.row 2 78 (rr.1.map Z0     )))] | .inr (x1420,x1421)=>e = .exit 0∧t=⟨[(1,.im (.row (x1420.map Z0     ))),(6,.own 19)],[(19,some (.row 2 78 (x1421.map Z0     )))],0⟩)) ⟨[(1,.im (.row (x1376.map Z0     ))),(6,.own 7),(9,.im (.row (a0.map Z0     ))),(10,iV .i64 (a0.length:Int)),(11,iV .i64 x1378)],[(7,some (.row 2 78 (x1377.map Z0     )))],0⟩) ?_ _ _ _ _ e1423
  clear H e1423 o1422;intro self ih x1376 x1377 x1378 o1422 H
  subst hbody
  refine LWp.round ?_
  refine sO hP hn hm [] [(12,bV (decide (x1378<(a0.length:Int))))] [1,6,9,10,11,12] [] [7] ?_
  refine AWp.seq ?_
  refine AWp.cond (decide (x1378<(a0.length:Int))) (by kernel_rfl) (fun c1379 => ?_) (fun c1379 => ?_)
  ·replace H:=iT c1379 H
   refine AWp.skip ?_
   refine AWp.seq ?_
   refine AWp.block ?_
   obtain⟨b1383,p1384,q1385,H⟩:=Z0q H
   refine sR hP hn hm [(0,.c (Z0 b1383)),(2,.k 8)] [(8,.ptr 8 0 0)] [1,6,8,9,10,11] [(8,some (.box 78 (Z1v b1383)))] [7,8] [_,_] ⟨p1384,Zu Z0 q1385,trivial⟩ ?_
   refine AWp.seq ?_
   refine AWp.block ?_
   obtain⟨o1424,e1425,H⟩:=Z4 H
   refine AWp.loop (LWp.conv (inv:=[(7,7),(8,8)]) (vk:=[]) (e0:=[]) (t:=⟨[(1,.im (.row (x1376.map Z0))),(6,.own 7),(8,.ptr 8 0 0),(9,.im (.row (a0.map Z0))),(10,iV .i64 (a0.length:Int)),(11,iV .i64 x1378)],[(7,some (.row 2 78 (x1377.map Z0))),(8,some (.box 78 (Z1v b1383)))],0⟩) (by kernel_rfl) ?_)
   refine LWp.mono (Q:=fun e s=>(match (generalizing:=false) o1424 with | .inl rr=>e = .ret∧s.floor=0∧Z2f Try.prog Try.f70 s=some (.tup [.own 0,bV rr.2])∧([(0,s.obj 0)]:List (Nat×Option MObj))=[(0,some (.row 2 78 (rr.1.map Z0)))] | .inr _=>e = .exit 2∧s=⟨[(1,.im (.row (x1376.map Z0))),(6,.own 11),(8,.ptr 12 0 0),(9,.im (.row (a0.map Z0))),(10,iV .i64 (a0.length:Int)),(11,iV .i64 x1378)],[(11,some (.row 2 78 (x1377.map Z0))),(12,some (.box 78 (Z1v b1383)))],0⟩)) (LWp.cv (Z07 (fun body hbody => ?_))) ?_
   ·refine(show ∀ x1396 o1424,        Z0f.l1 a0 b1383 x1376 x1377 x1378 x1396=some o1424→LWp Γ body (fun e s=>∃ t,Cv Γ s t∧(match (generalizing:=false) o1424 with | .inl rr=>e = .ret∧t.floor=0∧Z2f   Try.prog Try.f70 t=some (.tup [.own 0,bV rr.2])∧([(0,t.obj 0)]:List (Nat×Option MObj))=[(0,some (.row 2 78 (rr.1.map Z0     )))] | .inr _=>e = .exit 2∧t=⟨[(1,.im (.row (x1376.map Z0     ))),(6,.own 11),(8,.ptr 12 0 0),(9,.im (.row (a0.map Z0     ))),(10,iV .i64 (a0.length:Int)),(11,iV .i64 x1378)],[(11,some (.row 2 78 (x1377.map Z0     ))),(12,some (.box 78 (Z1v     b1383)))],0⟩)) ⟨[(1,.im (.row (x1376.map Z0     ))),(6,.own 7),(8,.ptr 8 0 0),(9,.im (.row (a0.map Z0     ))),(10,iV .i64 (a0.length:Int)),(11,iV .i64 x1378)],[(7,some (.row 2 78 (x1377.map Z0     ))),(8,some (.box 78 (Z1v     b1383)))],0⟩ from ?_) _ _ e1425
    clear H e1425 o1424;intro x1396 o1424 H
    unfold Z0f.l1 at H
    subst hbody
    refine LWp.round ?_
    refine AWp.seq ?_
    refine AWp.seq ?_
    obtain⟨o1426,e1427,H⟩:=Z4 H
    refine AWp.mono (Q:=fun e s=>(match (generalizing:=false) o1426 with | x1394=>e = .normal∧s=⟨[(1,.im (.row (x1376.map Z0))),(6,.own 9),(8,.ptr 10 0 0),(9,.im (.row (a0.map Z0))),(10,iV .i64 (a0.length:Int)),(11,iV .i64 x1378),(26,bV x1394)],[(9,some (.row 2 78 (x1377.map Z0))),(10,some (.box 78 (Z1v b1383)))],0⟩)) (AWp.cv ?_) ?_
    ·replace H:=e1427;clear e1427
     rcases Bool.eq_false_or_eq_true (decide ((x1376.length:Int)>(0:Int))) with c1390 | c1390
     ·replace H:=iT c1390 H
      obtain⟨b1391,p1392,q1393,H⟩:=Z0q H
      refine rG hP hn hm [(1,.any (iV .i64 (x1376.length:Int))),(3,.b true),(5,.c (Z0 b1391))] [(19,.im (.row (x1376.map Z0))),(20,.ip [iI .i64 b1391.f0,iI .u64 b1391.f1]),(21,.ip [iI .i64 b1391.f0,iI .u64 b1391.f1]),(22,iV .i64 b1391.f0),(23,.ptr 8 0 0),(24,iV .i64 b1383.f0),(25,bV (decide (b1391.f0<b1383.f0))),(26,bV (decide (b1391.f0<b1383.f0)))] [1,6,8,9,10,11,19,20,21,22,23,24,25,26] [] [7,8] [((x1376.map Z0).length:Int)=(x1376.length:Int),_,_,_] ⟨by rw[Zv],c1390,p1392,Zu Z0 q1393,trivial⟩ ?_
      obtain rfl:=sj H
      exact lf [(7,9),(8,10)] [] [] (by kernel_rfl) ⟨rfl,rfl⟩
     ·replace H:=iF c1390 H
      refine rG hP hn hm [(1,.any (iV .i64 (x1376.length:Int))),(3,.b false)] [(26,bV false)] [1,6,8,9,10,11,26] [] [7,8] [((x1376.map Z0).length:Int)=(x1376.length:Int),_] ⟨by rw[Zv],c1390,trivial⟩ ?_
      obtain rfl:=sj H
      exact lf [(7,9),(8,10)] [] [] (by kernel_rfl) ⟨rfl,rfl⟩
    ·obtain⟨x1394,rfl⟩:∃ z,z=o1426:=⟨_,rfl⟩
     rintro e s ⟨rfl,rfl⟩
     refine AWp.cond x1394 (by kernel_rfl) (fun c1395 => ?_) (fun c1395 => ?_)
     ·replace H:=iT c1395 H
      refine AWp.skip ?_
      refine AWp.block ?_
      refine sO hP hn hm [] [(4,.none0),(5,bV false)] [4,5] [] [] ?_
      refine AWp.conv (inv:=[]) (vk:=[]) (e0:=[0]) (t:=⟨[(4,.own 0),(5,bV false)],[(0,some (.row 2 78 ([].map Z0)))],0⟩) (by kernel_rfl) ?_
      refine AWp.ret ?_
      obtain rfl:=sj H
      exact rl rfl rfl (by kernel_rfl) (by kernel_rfl)
     ·replace H:=iF c1395 H
      refine AWp.exit ?_
      obtain rfl:=sj H
      exact lf [(9,11),(10,12)] [] [] (by kernel_rfl) ⟨rfl,rfl⟩
   ·rcases o1424 with rr | _
    ·skip
     rintro e s ⟨rfl,hfl,hres⟩
     obtain rfl:=sj H
     exact Exists.intro _ (And.intro (fun _ _ h=>h) (And.intro rfl (And.intro hfl hres)))
    ·skip
     rintro e s ⟨rfl,rfl⟩
     refine AWp.seq ?_
     refine AWp.seq ?_
     obtain⟨o1428,e1429,H⟩:=Z4 H
     refine AWp.mono (Q:=fun e s=>(match (generalizing:=false) o1428 with | x1405=>e = .normal∧s=⟨[(1,.im (.row (x1376.map Z0))),(6,.own 13),(8,.ptr 14 0 0),(9,.im (.row (a0.map Z0))),(10,iV .i64 (a0.length:Int)),(11,iV .i64 x1378),(38,bV x1405)],[(13,some (.row 2 78 (x1377.map Z0))),(14,some (.box 78 (Z1v b1383)))],0⟩)) (AWp.cv ?_) ?_
     ·replace H:=e1429;clear e1429
      rcases Bool.eq_false_or_eq_true (decide ((x1376.length:Int)>(0:Int))) with c1401 | c1401
      ·replace H:=iT c1401 H
       obtain⟨b1402,p1403,q1404,H⟩:=Z0q H
       refine rG hP hn hm [(1,.any (iV .i64 (x1376.length:Int))),(3,.b true),(5,.c (Z0 b1402))] [(31,.im (.row (x1376.map Z0))),(32,.ip [iI .i64 b1402.f0,iI .u64 b1402.f1]),(33,.ip [iI .i64 b1402.f0,iI .u64 b1402.f1]),(34,iV .i64 b1402.f0),(35,.ptr 12 0 0),(36,iV .i64 b1383.f0),(37,bV (b1402.f0==b1383.f0)),(38,bV (b1402.f0==b1383.f0))] [1,6,8,9,10,11,31,32,33,34,35,36,37,38] [] [11,12] [((x1376.map Z0).length:Int)=(x1376.length:Int),_,_,_] ⟨by rw[Zv],c1401,p1403,Zu Z0 q1404,trivial⟩ ?_
       obtain rfl:=sj H
       exact lf [(11,13),(12,14)] [] [] (by kernel_rfl) ⟨rfl,rfl⟩
      ·replace H:=iF c1401 H
       refine rG hP hn hm [(1,.any (iV .i64 (x1376.length:Int))),(3,.b false)] [(38,bV false)] [1,6,8,9,10,11,38] [] [11,12] [((x1376.map Z0).length:Int)=(x1376.length:Int),_] ⟨by rw[Zv],c1401,trivial⟩ ?_
       obtain rfl:=sj H
       exact lf [(11,13),(12,14)] [] [] (by kernel_rfl) ⟨rfl,rfl⟩
     ·obtain⟨x1405,rfl⟩:∃ z,z=o1428:=⟨_,rfl⟩
      rintro e s ⟨rfl,rfl⟩
      obtain⟨o1430,e1431,H⟩:=Z4 H
      refine AWp.mono (Q:=fun e s=>(match (generalizing:=false) o1430 with | .inl rr=>e = .ret∧s.floor=0∧Z2f Try.prog Try.f70 s=some (.tup [.own 0,bV rr.2])∧([(0,s.obj 0)]:List (Nat×Option MObj))=[(0,some (.row 2 78 (rr.1.map Z0)))] | .inr (x1416,x1417)=>e = .normal∧s=⟨[(1,.im (.row (x1416.map Z0))),(6,.own 15),(8,.ptr 16 0 0),(9,.im (.row (a0.map Z0))),(10,iV .i64 (a0.length:Int)),(11,iV .i64 x1378)],[(15,some (.row 2 78 (x1377.map Z0))),(16,some (.box 78 (Z1v ⟨b1383.f0,x1417⟩)))],0⟩)) (AWp.cv ?_) ?_
      ·replace H:=e1431;clear e1431
       refine AWp.cond x1405 (by kernel_rfl) (fun c1406 => ?_) (fun c1406 => ?_)
       ·replace H:=iT c1406 H
        refine AWp.seq ?_
        obtain⟨b1410,p1411,q1412,H⟩:=Z0q H
        refine sR hP hn hm [(1,.c (Z0 b1410))] [(45,bV (decide (b1410.f1>b1383.f1)))] [1,6,8,9,10,11,45] [] [13,14] [_,_] ⟨p1411,Zu Z0 q1412,trivial⟩ ?_
        refine AWp.cond (decide (b1410.f1>b1383.f1)) (by kernel_rfl) (fun c1413 => ?_) (fun c1413 => ?_)
        ·replace H:=iT c1413 H
         refine sO hP hn hm [] [(4,.none0),(5,bV false)] [4,5] [] [] ?_
         refine AWp.conv (inv:=[]) (vk:=[]) (e0:=[0]) (t:=⟨[(4,.own 0),(5,bV false)],[(0,some (.row 2 78 ([].map Z0)))],0⟩) (by kernel_rfl) ?_
         refine AWp.ret ?_
         obtain rfl:=sj H
         exact rl rfl rfl (by kernel_rfl) (by kernel_rfl)
        ·replace H:=iF c1413 H
         refine AWp.skip ?_
         refine sR hP hn hm [(3,.c (Z0 b1410))] [] [1,6,8,9,10,11] [(14,some (.box 78 (Z1v ⟨b1383.f0,(u64.wrap (b1383.f1-b1410.f1))⟩)))] [13,14] [_,_] ⟨p1411,Zu Z0 q1412,trivial⟩ ?_
         obtain⟨c1415,H⟩:=Z17 H
         refine rG hP hn hm [(1,.rows (((x1376.drop (Int.toNat ((1:Int)))).take ((Int.toNat ((x1376.length:Int)))-(Int.toNat ((1:Int))))).map Z0))] [(1,.im (.row (((x1376.drop (Int.toNat ((1:Int)))).take ((Int.toNat ((x1376.length:Int)))-(Int.toNat ((1:Int))))).map Z0)))] [1,6,8,9,10,11] [] [13,14] [0≤(1:Int),(1:Int)≤((x1376.map Z0).length:Int),((x1376.map Z0).length:Int)≤((x1376.map Z0).length:Int),∀ c∈x1376.map Z0,c.length=2,((x1376.drop (Int.toNat ((1:Int)))).take ((Int.toNat ((x1376.length:Int)))-(Int.toNat ((1:Int))))).map Z0=((x1376.map Z0).drop (Int.toNat ((1:Int)))).take ((Int.toNat (((x1376.map Z0).length:Int)))-(Int.toNat ((1:Int))))] ⟨by exact c1415.1,by simpa using c1415.2.1,by simpa using c1415.2.2,by exact Z13 _ _ _ (fun _=>rfl),by simp[cut1],trivial⟩ ?_
         obtain rfl:=sj H
         exact lf [(13,15),(14,16)] [] [] (by kernel_rfl) ⟨rfl,rfl⟩
       ·replace H:=iF c1406 H
        refine AWp.skip ?_
        obtain rfl:=sj H
        exact lf [(13,15),(14,16)] [] [] (by kernel_rfl) ⟨rfl,rfl⟩
      ·rcases o1430 with rr | ⟨x1416,x1417⟩
       ·skip
        rintro e s ⟨rfl,hfl,hres⟩
        obtain rfl:=sj H
        exact Exists.intro _ (And.intro (fun _ _ h=>h) (And.intro rfl (And.intro hfl hres)))
       ·skip
        rintro e s ⟨rfl,rfl⟩
        obtain⟨c1419,H⟩:=Z17 H
        refine rG hP hn hm [(2,.app 17 ([(⟨b1383.f0,x1417⟩:Z2)].map Z0)),(3,.app 18 ((x1377++[(⟨b1383.f0,x1417⟩:Z2)]).map Z0))] [(6,.own 18)] [1,6,9,10,11] [(18,some (.row 2 78 ((x1377++[(⟨b1383.f0,x1417⟩:Z2)]).map Z0)))] [18] [[(⟨b1383.f0,x1417⟩:Z2)].map Z0=[[iI .i64 b1383.f0,iI .u64 x1417]],(x1377++[(⟨b1383.f0,x1417⟩:Z2)]).map Z0=(x1377.map Z0)++([(⟨b1383.f0,x1417⟩:Z2)].map Z0),∀ c∈([(⟨b1383.f0,x1417⟩:Z2)].map Z0),c.length=2,∀ c∈([(⟨b1383.f0,x1417⟩:Z2)].map Z0),Z12 (c.map .im)=true,((x1377.map Z0).length+([(⟨b1383.f0,x1417⟩:Z2)].map Z0).length)*16≤140737488355328] ⟨by exact rfl,by simp,by exact Z13 _ _ _ (fun _=>rfl),by exact Z16 _ _ (fun _=>rfl),by simpa using c1419,trivial⟩ ?_
        refine rO hP hn hm [] [(11,iV .i64 (i64.wrap (x1378+(1:Int))))] [1,6,9,10,11] [] [18] ?_
        exact LWp.conv [(18,7)] [] [] (by kernel_rfl) (ih _ _ _ _ H)
  ·replace H:=iF c1379 H
   refine AWp.exit ?_
   obtain rfl:=sj H
   exact lf [(7,19)] [] [] (by kernel_rfl) ⟨rfl,rfl⟩
 ·rcases o1422 with rr | ⟨x1420,x1421⟩
  ·skip
   rintro e s ⟨rfl,hfl,hres⟩
   obtain rfl:=sj H
   exact Exists.intro _ (And.intro (fun _ _ h=>h) (And.intro (.inl rfl) (And.intro hfl hres)))
  ·skip
   rintro e s ⟨rfl,rfl⟩
   refine sR hP hn hm [(2,.any (iV .i64 (x1420.length:Int)))] [(4,.own 19),(5,bV ((x1420.length:Int)==(0:Int)))] [4,5] [] [19] [((x1420.map Z0).length:Int)=(x1420.length:Int)] ⟨by rw[Zv],trivial⟩ ?_
   refine AWp.conv (inv:=[(19,0)]) (vk:=[]) (e0:=[]) (t:=⟨[(4,.own 0),(5,bV ((x1420.length:Int)==(0:Int)))],[(0,some (.row 2 78 (x1421.map Z0)))],0⟩) (by kernel_rfl) ?_
   refine AWp.ret ?_
   obtain rfl:=sj H
   exact rl (.inl rfl) rfl (by kernel_rfl) (by kernel_rfl)
def Z3o.f (a0:Int) (a1:Int):Option (Int×Int):=if(decide (a1>a0))=true then(some (0,5)) else(some (u64.wrap (a0-a1),0))
theorem Z3o.ok (a0:Int) (a1:Int) (r:Int×Int) (H:Z3o.f a0 a1=some r):Pv.Fn Try.prog 71 [iV .u64 a0,iV .u64 a1] [] 0 (fun x o=>x = .tup [iV .u64 r.1,iV .i64 r.2]∧o=[]):=by
 unfold Z3o.f at H
 refine Fn.bodyK [] Try.func71 rfl rfl (fun Γ hP hn => ?_)
 have hm:Try.prog.follows .mixedOrders=true:=by kernel_rfl
 replace hn:Γ.n=12:=hn
 refine sO hP hn hm [] [] [0,1] [] [] ?_
 refine AWp.seq ?_
 refine sO hP hn hm [] [(8,bV (decide (a1>a0)))] [0,1,8] [] [] ?_
 refine AWp.cond (decide (a1>a0)) (by kernel_rfl) (fun c1440 => ?_) (fun c1440 => ?_)
 ·replace H:=iT c1440 H
  refine sO hP hn hm [] [(4,iV .u64 0),(5,iV .i64 5)] [4,5] [] [] ?_
  refine AWp.conv (inv:=[]) (vk:=[]) (e0:=[]) (t:=⟨[(4,iV .u64 0),(5,iV .i64 5)],[],0⟩) (by kernel_rfl) ?_
  refine AWp.ret ?_
  obtain rfl:=sj H
  exact rl (.inl rfl) rfl (by kernel_rfl) (by kernel_rfl)
 ·replace H:=iF c1440 H
  refine AWp.skip ?_
  refine sO hP hn hm [] [(4,iV .u64 (u64.wrap (a0-a1))),(5,iV .i64 0)] [4,5] [] [] ?_
  refine AWp.conv (inv:=[]) (vk:=[]) (e0:=[]) (t:=⟨[(4,iV .u64 (u64.wrap (a0-a1))),(5,iV .i64 0)],[],0⟩) (by kernel_rfl) ?_
  refine AWp.ret ?_
  obtain rfl:=sj H
  exact rl (.inl rfl) rfl (by kernel_rfl) (by kernel_rfl)
def Z22.f (a0:Zp) (a1:Zp):Option (Zp×Int):=(Z2k.f a0.f5 a1.f5)>>=fun t334=>(Z0s.f a0 a1)>>=fun t1332=>if(t1332.2.2 != (0:Int))=true then(some ((⟨0,0,0,0,0,0,[],[]⟩:Zp),t1332.2.2)) else((Z0f.f ((t1332.1).f6) ((t1332.2.1).f6))>>=fun t1434=>(Z0f.f ((t1332.1).f7) ((t1332.2.1).f7))>>=fun t1438=>(Z3o.f ((t1332.1).f3) ((t1332.2.1).f3))>>=fun t1443=>((if(!t1434.2)=true then(some true) else(if(!t1438.2)=true then(some true) else(some (t1443.2 != (0:Int))))):Option (Bool))>>=fun x1449=>if x1449=true then(some ((⟨0,0,0,0,0,0,[],[]⟩:Zp),21)) else(if(t334.2 != (0:Int))=true then(some ((⟨0,0,0,0,0,0,[],[]⟩:Zp),t334.2)) else((Z0r.f (⟨(t1332.1).f0,(t1332.1).f1,(t1332.1).f2,t1443.1,(t1332.1).f4,t334.1,(t1332.1).f6,(t1332.1).f7⟩:Zp) t1434.1 t1438.1)>>=fun t1456=>some ((t1456.1),t1456.2))))
theorem Z22.ok (a0:Zp) (a1:Zp) (r:Zp×Int) (H:Z22.f a0 a1=some r):Pv.Fn Try.prog 60 [.agg (Zx a0),.agg (Zx a1)] [] 0 (fun x o=>x = .tup [.agg (Zx (r.1)),iV .i64 r.2]∧o=[]):=by
 unfold Z22.f at H
 refine Fn.bodyK [] Try.func60 rfl rfl (fun Γ hP hn => ?_)
 have hm:Try.prog.follows .mixedOrders=true:=by kernel_rfl
 replace hn:Γ.n=85:=hn
 refine sO hP hn hm [(0,.k 0),(1,.k 1),(2,.k 2)] [(2,.ptr 0 0 0),(3,.ptr 1 0 0),(4,.ptr 2 0 0)] [2,3,4] [(0,some (.box 36 (Zx a0))),(1,some (.box 36 (Zx a1))),(2,some (.box 36 [iV .i64 0,iV .i64 0,iV .i64 0,iV .u64 0,iV .u64 0,iV .i64 0,.none0,.none0]))] [0,1,2] ?_
 obtain⟨t334,e335,H⟩:=Z4 H
 refine sR hP hn hm [(4,.call [] [] [] [] 0 (.tup [iV .i64 t334.1,iV .i64 t334.2]) [])] [(6,iV .i64 t334.1),(7,iV .i64 t334.2)] [2,3,4,6,7] [] [0,1,2] [_,_] ⟨Try.call68,Z2k.ok a0.f5 a1.f5 t334 e335,trivial⟩ ?_
 obtain⟨t1332,e1333,H⟩:=Z4 H
 refine sR hP hn hm [(2,.call [] [] [] [] 0 (.tup [.agg (Zx (t1332.1)),.agg (Zx (t1332.2.1)),iV .i64 t1332.2.2]) [])] [(8,iV .i64 t1332.2.2)] [2,3,4,6,7,8] [(0,some (.box 36 (Zx (t1332.1)))),(1,some (.box 36 (Zx (t1332.2.1))))] [0,1,2] [_,_] ⟨Try.call69,Z0s.ok a0 a1 t1332 e1333,trivial⟩ ?_
 refine AWp.seq ?_
 refine sO hP hn hm [] [(31,bV (t1332.2.2 != (0:Int)))] [2,3,4,6,7,8,31] [] [0,1,2] ?_
 refine AWp.cond (t1332.2.2 != (0:Int)) (by kernel_rfl) (fun c1334 => ?_) (fun c1334 => ?_)
 ·replace H:=iT c1334 H
  refine sO hP hn hm [] [(5,iV .i64 t1332.2.2)] [4,5] [] [2] ?_
  refine AWp.conv (inv:=[(2,0)]) (vk:=[]) (e0:=[]) (t:=⟨[(4,.ptr 0 0 0),(5,iV .i64 t1332.2.2)],[(0,some (.box 36 (Zx ((⟨0,0,0,0,0,0,[],[]⟩:Zp)))))],0⟩) (by kernel_rfl) ?_
  refine AWp.ret ?_
  obtain rfl:=sj H
  exact rl (.inl rfl) rfl (by kernel_rfl) (by kernel_rfl)
 ·replace H:=iF c1334 H
  refine AWp.skip ?_
  obtain⟨t1434,e1435,H⟩:=Z4 H
  refine sR hP hn hm [(4,.call [] [(0,3)] [] [3] 0 (.tup [.own 0,bV t1434.2]) [(0,some (.row 2 78 (t1434.1.map Z0)))])] [(9,.own 3),(10,bV t1434.2)] [2,3,4,6,7,9,10] [(3,some (.row 2 78 (t1434.1.map Z0)))] [0,1,2,3] [_,_] ⟨Try.call70,Z0f.ok ((t1332.1).f6) ((t1332.2.1).f6) t1434 e1435,trivial⟩ ?_
  obtain⟨t1438,e1439,H⟩:=Z4 H
  refine sR hP hn hm [(4,.call [] [(0,4)] [] [4] 0 (.tup [.own 0,bV t1438.2]) [(0,some (.row 2 78 (t1438.1.map Z0)))])] [(11,.own 4),(12,bV t1438.2)] [2,3,4,6,7,9,10,11,12] [(4,some (.row 2 78 (t1438.1.map Z0)))] [0,1,2,3,4] [_,_] ⟨Try.call70,Z0f.ok ((t1332.1).f7) ((t1332.2.1).f7) t1438 e1439,trivial⟩ ?_
  obtain⟨t1443,e1444,H⟩:=Z4 H
  refine sR hP hn hm [(4,.call [] [] [] [] 0 (.tup [iV .u64 t1443.1,iV .i64 t1443.2]) [])] [(13,iV .u64 t1443.1),(14,iV .i64 t1443.2)] [2,4,6,7,9,10,11,12,13,14] [] [0,2,3,4] [_,_] ⟨Try.call71,Z3o.ok ((t1332.1).f3) ((t1332.2.1).f3) t1443 e1444,trivial⟩ ?_
  refine AWp.seq ?_
  refine AWp.block ?_
  refine AWp.seq ?_
  obtain⟨o1458,e1459,H⟩:=Z4 H
  refine AWp.mono (Q:=fun e s=>(match (generalizing:=false) o1458 with | x1449=>e = .normal∧s=⟨[(2,.ptr 5 0 0),(4,.ptr 6 0 0),(6,iV .i64 t334.1),(7,iV .i64 t334.2),(9,.own 7),(11,.own 8),(13,iV .u64 t1443.1),(58,bV x1449)],[(5,some (.box 36 (Zx (t1332.1)))),(6,some (.box 36 [iV .i64 0,iV .i64 0,iV .i64 0,iV .u64 0,iV .u64 0,iV .i64 0,.none0,.none0])),(7,some (.row 2 78 (t1434.1.map Z0))),(8,some (.row 2 78 (t1438.1.map Z0)))],0⟩)) (AWp.cv ?_) ?_
  ·replace H:=e1459;clear e1459
   rcases Bool.eq_false_or_eq_true (!t1434.2) with c1447 | c1447
   ·replace H:=iT c1447 H
    refine rG hP hn hm [(2,.b true)] [(58,bV true)] [2,4,6,7,9,11,13,58] [] [0,2,3,4] [_] ⟨c1447,trivial⟩ ?_
    obtain rfl:=sj H
    exact lf [(0,5),(2,6),(3,7),(4,8)] [] [] (by kernel_rfl) ⟨rfl,rfl⟩
   ·replace H:=iF c1447 H
    rcases Bool.eq_false_or_eq_true (!t1438.2) with c1448 | c1448
    ·replace H:=iT c1448 H
     refine rG hP hn hm [(2,.b false),(6,.b true)] [(58,bV true)] [2,4,6,7,9,11,13,58] [] [0,2,3,4] [_,_] ⟨c1447,c1448,trivial⟩ ?_
     obtain rfl:=sj H
     exact lf [(0,5),(2,6),(3,7),(4,8)] [] [] (by kernel_rfl) ⟨rfl,rfl⟩
    ·replace H:=iF c1448 H
     refine rG hP hn hm [(2,.b false),(6,.b false)] [(58,bV (t1443.2 != (0:Int)))] [2,4,6,7,9,11,13,58] [] [0,2,3,4] [_,_] ⟨c1447,c1448,trivial⟩ ?_
     obtain rfl:=sj H
     exact lf [(0,5),(2,6),(3,7),(4,8)] [] [] (by kernel_rfl) ⟨rfl,rfl⟩
  ·obtain⟨x1449,rfl⟩:∃ z,z=o1458:=⟨_,rfl⟩
   rintro e s ⟨rfl,rfl⟩
   refine AWp.cond x1449 (by kernel_rfl) (fun c1450 => ?_) (fun c1450 => ?_)
   ·replace H:=iT c1450 H
    refine sO hP hn hm [] [(5,iV .i64 21)] [4,5] [] [6] ?_
    refine AWp.conv (inv:=[(6,0)]) (vk:=[]) (e0:=[]) (t:=⟨[(4,.ptr 0 0 0),(5,iV .i64 21)],[(0,some (.box 36 (Zx ((⟨0,0,0,0,0,0,[],[]⟩:Zp)))))],0⟩) (by kernel_rfl) ?_
    refine AWp.ret ?_
    obtain rfl:=sj H
    exact rl (.inl rfl) rfl (by kernel_rfl) (by kernel_rfl)
   ·replace H:=iF c1450 H
    refine sO hP hn hm [] [(70,bV (t334.2 != (0:Int)))] [2,4,6,7,9,11,13,70] [] [5,6,7,8] ?_
    refine AWp.cond (t334.2 != (0:Int)) (by kernel_rfl) (fun c1451 => ?_) (fun c1451 => ?_)
    ·replace H:=iT c1451 H
     refine sO hP hn hm [] [(5,iV .i64 t334.2)] [4,5] [] [6] ?_
     refine AWp.conv (inv:=[(6,0)]) (vk:=[]) (e0:=[]) (t:=⟨[(4,.ptr 0 0 0),(5,iV .i64 t334.2)],[(0,some (.box 36 (Zx ((⟨0,0,0,0,0,0,[],[]⟩:Zp)))))],0⟩) (by kernel_rfl) ?_
     refine AWp.ret ?_
     obtain rfl:=sj H
     exact rl (.inl rfl) rfl (by kernel_rfl) (by kernel_rfl)
    ·replace H:=iF c1451 H
     refine AWp.skip ?_
     refine sO hP hn hm [] [] [2,4,9,11] [(5,some (.box 36 (Zx ⟨((t1332.1).f0),((t1332.1).f1),((t1332.1).f2),t1443.1,((t1332.1).f4),t334.1,((t1332.1).f6),((t1332.1).f7)⟩)))] [5,6,7,8] ?_
     refine AWp.seq ?_
     refine AWp.conv (inv:=[(5,5),(6,6)]) (vk:=[7,8]) (e0:=[]) (t:=⟨[(2,.ptr 5 0 0),(4,.ptr 6 0 0),(9,.im (.row (t1434.1.map Z0))),(11,.im (.row (t1438.1.map Z0)))],[(5,some (.box 36 (Zx ⟨((t1332.1).f0),((t1332.1).f1),((t1332.1).f2),t1443.1,((t1332.1).f4),t334.1,((t1332.1).f6),((t1332.1).f7)⟩))),(6,some (.box 36 [iV .i64 0,iV .i64 0,iV .i64 0,iV .u64 0,iV .u64 0,iV .i64 0,.none0,.none0]))],0⟩) (by kernel_rfl) ?_
     obtain⟨t1456,e1457,H⟩:=Z4 H
     refine rG hP hn hm [(3,.call [] [] [] [] 0 (.tup [.agg (Zx (t1456.1)),iV .i64 t1456.2]) [])] [(5,iV .i64 t1456.2)] [4,5] [(6,some (.box 36 (Zx (t1456.1))))] [6] [_,_] ⟨Try.call54,Z0r.ok (⟨(t1332.1).f0,(t1332.1).f1,(t1332.1).f2,t1443.1,(t1332.1).f4,t334.1,(t1332.1).f6,(t1332.1).f7⟩:Zp) t1434.1 t1438.1 t1456 e1457,trivial⟩ ?_
     refine AWp.conv (inv:=[(6,0)]) (vk:=[]) (e0:=[]) (t:=⟨[(4,.ptr 0 0 0),(5,iV .i64 t1456.2)],[(0,some (.box 36 (Zx ((t1456.1)))))],0⟩) (by kernel_rfl) ?_
     refine AWp.ret ?_
     obtain rfl:=sj H
     exact rl (.inl rfl) rfl (by kernel_rfl) (by kernel_rfl)
def Z2l.f (a0:Zp) (a1:Zp):Option (Bool):=(Z22.f a1 a0)>>=fun t1462=>some (t1462.2==(21:Int))
theorem Z2l.ok (a0:Zp) (a1:Zp) (r:Bool) (H:Z2l.f a0 a1=some r):Pv.Fn Try.prog 36 [.agg (Zx a0),.agg (Zx a1)] [] 0 (fun x o=>x=bV r∧o=[]):=by
 unfold Z2l.f at H
 refine Fn.bodyK [] Try.func36 rfl rfl (fun Γ hP hn => ?_)
 have hm:Try.prog.follows .mixedOrders=true:=by kernel_rfl
 replace hn:Γ.n=15:=hn
 refine sO hP hn hm [(0,.k 0),(1,.k 1)] [(2,.ptr 0 0 0),(3,.ptr 1 0 0)] [2,3] [(0,some (.box 36 (Zx a0))),(1,some (.box 36 (Zx a1)))] [0,1] ?_
 obtain⟨t1462,e1463,H⟩:=Z4 H
 refine sR hP hn hm [(2,.call [] [] [] [] 0 (.tup [.agg (Zx (t1462.1)),iV .i64 t1462.2]) []),(6,.k 2)] [(6,iV .i64 t1462.2)] [6] [] [] [_,_] ⟨Try.call60,Z22.ok a1 a0 t1462 e1463,trivial⟩ ?_
 refine sO hP hn hm [] [(4,bV (t1462.2==(21:Int)))] [4] [] [] ?_
 refine AWp.conv (inv:=[]) (vk:=[]) (e0:=[]) (t:=⟨[(4,bV (t1462.2==(21:Int)))],[],0⟩) (by kernel_rfl) ?_
 refine AWp.ret ?_
 obtain rfl:=sj H
 exact rl (.inl rfl) rfl (by kernel_rfl) (by kernel_rfl)
def Z0t.f (a0:List Zh):Option (List Zh):=(chk ((([]:List Zh).length+a0.length)*104≤140737488355328))>>=fun _=>some a0
theorem Z0t.ok (a0 r:List Zh) (H:Z0t.f a0=some r):Pv.Fn Try.prog 37 [.im (.row (a0.map Zc))] [] 0 (fun x o=>x = .own 0∧o=[(0,some (.row 9 38 (r.map Zc)))]):=by
 unfold Z0t.f at H
 obtain⟨c1,H⟩:=Z17 H
 obtain rfl:=sj H
 refine Fn.bodyK [0] Try.func37 rfl rfl (fun Γ hP hn => ?_)
 have hm:Try.prog.follows .mixedOrders=true:=by kernel_rfl
 replace hn:Γ.n=8:=hn
 refine AWp.seq ?_
 refine reg hP hn hm [] [0,2] [] ⟨[(0,.im (.row (a0.map Zc))),(2,.none0)],[],0⟩ [] (by kernel_rfl) trivial ?_
 refine AWp.seq ?_
 cases a0 with
 | nil =>
  refine AWp.nilSplit 0 rfl (fun b m => ?_)
  refine AWp.seq ?_
  cases b with
  | none =>
   refine reg hP hn hm [(1,.more xNil)] [2,4] [] ⟨[(2,.none0),(4,bV true)],[],0⟩ [] (by kernel_rfl) trivial ?_
   refine AWp.cond true rfl (fun _ => ?_) (fun h=>nomatch h)
   refine AWp.seq ?_
   refine reg hP hn hm [] [2] [] ⟨[(2,.none0)],[],0⟩ [] (by kernel_rfl) trivial ?_
   refine AWp.conv (inv:=[]) (vk:=[]) (e0:=[0]) (t:=⟨[(2,.own 0)],[(0,some (.row 9 38 []))],0⟩) (by kernel_rfl) ?_
   refine AWp.ret ?_
   exact Exists.intro _ (And.intro (fun _ _ h=>h) (And.intro (.inl rfl) (And.intro rfl (And.intro (by kernel_rfl) (by kernel_rfl)))))
  | some b =>
   refine reg hP hn hm [(1,.more xNil)] [0,2,4] [] ⟨[(0,.im (.sc (.slice (some b) 0 m))),(2,.none0),(4,bV false)],[],0⟩ [] (by kernel_rfl) trivial ?_
   refine AWp.cond false rfl (fun h=>nomatch h) (fun _ => ?_)
   refine AWp.skip ?_
   refine AWp.unsplit 0 rfl ?_
   refine AWp.seq ?_
   refine reg hP hn hm [(0,.app 0 ([]:List (List Im))),(2,.app 1 (([]:List Zh).map Zc))] [2] [1] ⟨[(2,.own 1)],[(1,some (.row 9 38 (([]:List Zh).map Zc)))],0⟩ [([]:List (List Im))=[],([]:List Zh).map Zc=([]:List (List Im))++([]:List Zh).map Zc,∀ c∈([]:List Zh).map Zc,c.length=9,∀ c∈([]:List Zh).map Zc,Z12 (c.map .im)=true,(([]:List (List Im)).length+(([]:List Zh).map Zc).length)*104≤140737488355328] (by kernel_rfl) ⟨rfl,by simp,by exact Z13 _ _ _ (fun _=>rfl),by exact Z16 _ _ (fun _=>rfl),by simpa using c1,trivial⟩ ?_
   refine AWp.conv (inv:=[(1,0)]) (vk:=[]) (e0:=[]) (t:=⟨[(2,.own 0)],[(0,some (.row 9 38 (([]:List Zh).map Zc)))],0⟩) (by kernel_rfl) ?_
   refine AWp.ret ?_
   exact Exists.intro _ (And.intro (fun _ _ h=>h) (And.intro (.inl rfl) (And.intro rfl (And.intro (by kernel_rfl) (by kernel_rfl)))))
 | cons y l =>
  refine AWp.seq ?_
  refine reg hP hn hm [(1,.more xNil)] [0,2,4] [] ⟨[(0,.im (.row ((y::l).map Zc))),(2,.none0),(4,bV false)],[],0⟩ [] (by kernel_rfl) trivial ?_
  refine AWp.cond false rfl (fun h=>nomatch h) (fun _ => ?_)
  refine AWp.skip ?_
  refine AWp.seq ?_
  refine reg hP hn hm [(0,.app 0 ([]:List (List Im))),(2,.app 1 ((y::l).map Zc))] [2] [1] ⟨[(2,.own 1)],[(1,some (.row 9 38 ((y::l).map Zc)))],0⟩ [([]:List (List Im))=[],(y::l).map Zc=([]:List (List Im))++(y::l).map Zc,∀ c∈(y::l).map Zc,c.length=9,∀ c∈(y::l).map Zc,Z12 (c.map .im)=true,(([]:List (List Im)).length+((y::l).map Zc).length)*104≤140737488355328] (by kernel_rfl) ⟨rfl,by simp,by exact Z13 _ _ _ (fun _=>rfl),by exact Z16 _ _ (fun _=>rfl),by simpa using c1,trivial⟩ ?_
  refine AWp.conv (inv:=[(1,0)]) (vk:=[]) (e0:=[]) (t:=⟨[(2,.own 0)],[(0,some (.row 9 38 ((y::l).map Zc)))],0⟩) (by kernel_rfl) ?_
  refine AWp.ret ?_
  exact Exists.intro _ (And.intro (fun _ _ h=>h) (And.intro (.inl rfl) (And.intro rfl (And.intro (by kernel_rfl) (by kernel_rfl)))))
def Z1f.l0 (a0:List Z2) (x1488:Int) (x1489:List Z0y) (x1490:Int):Option (Int×(List Z0y)):=if(decide (x1490<(a0.length:Int)))=true then((at? a0 x1490)>>=fun b1495=>((if(x1490==(0:Int))=true then(some (b1495.f0,[(⟨0,1⟩:Z0y)])) else((at? a0 (i64.wrap (x1490-(1:Int))))>>=fun b1502=>((if((i64.wrap (b1502.f0+(1:Int)))==b1495.f0)=true then((at? x1489 (i64.wrap ((x1489.length:Int)-(1:Int))))>>=fun b1509=>some (x1489.set (Int.toNat (i64.wrap ((x1489.length:Int)-(1:Int)))) (⟨b1509.f0,i64.wrap (b1509.f1+(1:Int))⟩:Z0y))) else((chk ((x1489.length+[(⟨i64.wrap ((i64.wrap (b1495.f0-b1502.f0))-(1:Int)),1⟩:Z0y)].length)*16≤140737488355328))>>=fun _=>some (x1489++[(⟨i64.wrap ((i64.wrap (b1495.f0-b1502.f0))-(1:Int)),1⟩:Z0y)]))):Option (List Z0y))>>=fun x1514=>some (x1488,x1514))):Option (Int×(List Z0y)))>>=fun oo=>match oo with | (x1515,x1516)=>(Z1f.l0 a0 x1515 x1516 (i64.wrap (x1490+(1:Int))))) else(some (x1488,x1489))
partial_fixpoint
def Z1f.f (a0:List Z2):Option (Z7):=(Z1f.l0 a0 0 [] 0)>>=fun oo=>match oo with | (x1517,x1518)=>(some (⟨x1517,x1518⟩:Z7))
theorem Z1f.ok (a0:List Z2) (r:Z7) (H:Z1f.f a0=some r):Pv.Fn Try.prog 40 [.im (.row (a0.map Z0))] [] 0 (fun x o=>x = .agg [iV .i64 ((r).f0),.own 0]∧o=[(0,some (.row 2 86 (((r).f1).map Z0a)))]):=by
 unfold Z1f.f at H
 refine Fn.bodyK [0] Try.func40 rfl rfl (fun Γ hP hn => ?_)
 have hm:Try.prog.follows .mixedOrders=true:=by kernel_rfl
 replace hn:Γ.n=65:=hn
 refine sO hP hn hm [(0,.k 0)] [(2,.ptr 0 0 0)] [0,2] [(0,some (.box 52 [iV .i64 0,.none0]))] [0] ?_
 refine sO hP hn hm [(0,.k 1)] [(3,.ptr 1 0 0)] [0,2,3] [(1,some (.box 52 [iV .i64 0,.none0]))] [0,1] ?_
 refine AWp.seq ?_
 refine sR hP hn hm [(1,.any (iV .i64 (a0.length:Int)))] [(7,.im (.row (a0.map Z0))),(8,iV .i64 (a0.length:Int)),(9,iV .i64 0)] [0,2,3,7,8,9] [] [0,1] [((a0.map Z0).length:Int)=(a0.length:Int)] ⟨by rw[Zv],trivial⟩ ?_
 refine AWp.block ?_
 obtain⟨o1519,e1520,H⟩:=Z4 H
 refine AWp.loop (LWp.conv (inv:=[(0,4),(1,5)]) (vk:=[]) (e0:=[6]) (t:=⟨[(0,.im (.row (a0.map Z0))),(2,.ptr 4 0 0),(3,.ptr 5 0 0),(7,.im (.row (a0.map Z0))),(8,iV .i64 (a0.length:Int)),(9,iV .i64 0)],[(4,some (.box 52 [iV .i64 0,.none0])),(5,some (.box 52 [iV .i64 0,.own 6])),(6,some (.row 2 86 ([].map Z0a)))],0⟩) (by kernel_rfl) ?_)
 refine LWp.mono (Q:=fun e s=>(match (generalizing:=false) o1519 with | (x1517,x1518)=>e = .exit 0∧s=⟨[(2,.ptr 17 0 0),(3,.ptr 18 0 0)],[(17,some (.box 52 [iV .i64 0,.none0])),(18,some (.box 52 [iV .i64 x1517,.own 19])),(19,some (.row 2 86 (x1518.map Z0a)))],0⟩)) (LWp.cv (Z07 (fun body hbody => ?_))) ?_
 ·refine       Z1f.l0.partial_correctness a0 (motive:=fun x1488 x1489 x1490 o1519=>LWp Γ body (fun e s=>∃ t,Cv Γ s t∧(match (generalizing:=false) o1519 with | (x1517,x1518)=>e = .exit 0∧t=⟨[(2,.ptr 17 0 0),(3,.ptr 18 0 0)],[(17,some (.box 52 [iV .i64 0,.none0])),(18,some (.box 52 [iV .i64 x1517,.own 19])),(19,some (.row 2 86 (x1518.map Z0a  )))],0⟩)) ⟨[(0,.im (.row (a0.map Z0     ))),(2,.ptr 4 0 0),(3,.ptr 5 0 0),(7,.im (.row (a0.map Z0     ))),(8,iV .i64 (a0.length:Int)),(9,iV .i64 x1490)],[(4,some (.box 52 [iV .i64 0,.none0])),(5,some (.box 52 [iV .i64 x1488,.own 6])),(6,some (.row 2 86 (x1489.map Z0a  )))],0⟩) ?_ _ _ _ _ e1520
  clear H e1520 o1519;intro self ih x1488 x1489 x1490 o1519 H
  subst hbody
  refine LWp.round ?_
  refine sO hP hn hm [] [(10,bV (decide (x1490<(a0.length:Int))))] [0,2,3,7,8,9,10] [] [4,5,6] ?_
  refine AWp.seq ?_
  refine AWp.cond (decide (x1490<(a0.length:Int))) (by kernel_rfl) (fun c1491 => ?_) (fun c1491 => ?_)
  ·replace H:=iT c1491 H
   refine AWp.skip ?_
   refine AWp.seq ?_
   refine AWp.block ?_
   obtain⟨b1495,p1496,q1497,H⟩:=Z0q H
   refine sR hP hn hm [(1,.c (Z0 b1495)),(3,.k 7)] [(4,iV .i64 x1490),(5,.ptr 7 0 0)] [0,2,3,4,5,7,8,9] [(7,some (.box 78 (Z1v b1495)))] [4,5,6,7] [_,_] ⟨p1496,Zu Z0 q1497,trivial⟩ ?_
   refine sR hP hn hm [(2,.any (iV .i64 (x1489.length:Int)))] [(6,iV .i64 (x1489.length:Int))] [0,2,3,4,5,6,7,8,9] [] [4,5,6,7] [((x1489.map Z0a).length:Int)=(x1489.length:Int)] ⟨by rw[Zv],trivial⟩ ?_
   refine AWp.block ?_
   refine sO hP hn hm [] [(33,bV (x1490==(0:Int)))] [0,2,3,4,5,6,7,8,9,33] [] [4,5,6,7] ?_
   obtain⟨o1521,e1522,H⟩:=Z4 H
   refine AWp.mono (Q:=fun e s=>(match (generalizing:=false) o1521 with | (x1515,x1516)=>e = .normal∧s=⟨[(0,.im (.row (a0.map Z0))),(2,.ptr 14 0 0),(3,.ptr 15 0 0),(7,.im (.row (a0.map Z0))),(8,iV .i64 (a0.length:Int)),(9,iV .i64 x1490)],[(14,some (.box 52 [iV .i64 0,.none0])),(15,some (.box 52 [iV .i64 x1515,.own 16])),(16,some (.row 2 86 (x1516.map Z0a)))],0⟩)) (AWp.cv ?_) ?_
   ·replace H:=e1522;clear e1522
    refine AWp.cond (x1490==(0:Int)) (by kernel_rfl) (fun c1498 => ?_) (fun c1498 => ?_)
    ·replace H:=iT c1498 H
     refine sO hP hn hm [] [] [0,2,3,7,8,9] [(5,some (.box 52 [iV .i64 b1495.f0,.own 6]))] [4,5,6] ?_
     refine rG hP hn hm [(1,.app 8 ([(⟨0,1⟩:Z0y)].map Z0a))] [] [0,2,3,7,8,9] [(5,some (.box 52 [iV .i64 b1495.f0,.own 8])),(8,some (.row 2 86 ([(⟨0,1⟩:Z0y)].map Z0a)))] [4,5,8] [[(⟨0,1⟩:Z0y)].map Z0a=[[iI .i64 0,iI .i64 1]]] ⟨by exact rfl,trivial⟩ ?_
     obtain rfl:=sj H
     exact lf [(4,14),(5,15),(8,16)] [] [] (by kernel_rfl) ⟨rfl,rfl⟩
    ·replace H:=iF c1498 H
     obtain⟨b1502,p1503,q1504,H⟩:=Z0q H
     refine sR hP hn hm [(3,.c (Z0 b1502))] [(42,bV ((i64.wrap (b1502.f0+(1:Int)))==b1495.f0))] [0,2,3,4,5,6,7,8,9,42] [] [4,5,6,7] [_,_] ⟨p1503,Zu Z0 q1504,trivial⟩ ?_
     obtain⟨o1523,e1524,H⟩:=Z4 H
     refine AWp.mono (Q:=fun e s=>(match (generalizing:=false) o1523 with | x1514=>e = .normal∧s=⟨[(0,.im (.row (a0.map Z0))),(2,.ptr 11 0 0),(3,.ptr 12 0 0),(7,.im (.row (a0.map Z0))),(8,iV .i64 (a0.length:Int)),(9,iV .i64 x1490)],[(11,some (.box 52 [iV .i64 0,.none0])),(12,some (.box 52 [iV .i64 x1488,.own 13])),(13,some (.row 2 86 (x1514.map Z0a)))],0⟩)) (AWp.cv ?_) ?_
     ·replace H:=e1524;clear e1524
      refine AWp.cond ((i64.wrap (b1502.f0+(1:Int)))==b1495.f0) (by kernel_rfl) (fun c1505 => ?_) (fun c1505 => ?_)
      ·replace H:=iT c1505 H
       obtain⟨b1509,p1510,q1511,H⟩:=Z0q H
       refine rG hP hn hm [(6,.c (Z0a b1509)),(10,.put (Z0a b1509) ((x1489.set (Int.toNat (i64.wrap ((x1489.length:Int)-(1:Int)))) (⟨b1509.f0,i64.wrap (b1509.f1+(1:Int))⟩:Z0y)).map Z0a))] [] [0,2,3,7,8,9] [(6,some (.row 2 86 ((x1489.set (Int.toNat (i64.wrap ((x1489.length:Int)-(1:Int)))) (⟨b1509.f0,i64.wrap (b1509.f1+(1:Int))⟩:Z0y)).map Z0a)))] [4,5,6] [_,_,_,_,_,_,(x1489.set (Int.toNat (i64.wrap ((x1489.length:Int)-(1:Int)))) (⟨b1509.f0,i64.wrap (b1509.f1+(1:Int))⟩:Z0y)).map Z0a=(x1489.map Z0a).set (Int.toNat (i64.wrap ((x1489.length:Int)-(1:Int)))) (Z1u (Z0a b1509) 1 [iI .i64 (i64.wrap (b1509.f1+(1:Int)))])] ⟨p1510,Z1m Z0a p1510 q1511,Zu Z0a q1511,p1510,Z1m Z0a p1510 q1511,Zu Z0a q1511,by exact set1 _ _ _ _,trivial⟩ ?_
       obtain rfl:=sj H
       exact lf [(4,11),(5,12),(6,13)] [] [] (by kernel_rfl) ⟨rfl,rfl⟩
      ·replace H:=iF c1505 H
       obtain⟨c1513,H⟩:=Z17 H
       refine rG hP hn hm [(7,.c (Z0 b1502)),(13,.app 9 ([(⟨i64.wrap ((i64.wrap (b1495.f0-b1502.f0))-(1:Int)),1⟩:Z0y)].map Z0a)),(14,.app 10 ((x1489++[(⟨i64.wrap ((i64.wrap (b1495.f0-b1502.f0))-(1:Int)),1⟩:Z0y)]).map Z0a))] [] [0,2,3,7,8,9] [(5,some (.box 52 [iV .i64 x1488,.own 10])),(10,some (.row 2 86 ((x1489++[(⟨i64.wrap ((i64.wrap (b1495.f0-b1502.f0))-(1:Int)),1⟩:Z0y)]).map Z0a)))] [4,5,10] [_,_,[(⟨i64.wrap ((i64.wrap (b1495.f0-b1502.f0))-(1:Int)),1⟩:Z0y)].map Z0a=[[iI .i64 (i64.wrap ((i64.wrap (b1495.f0-b1502.f0))-(1:Int))),iI .i64 1]],(x1489++[(⟨i64.wrap ((i64.wrap (b1495.f0-b1502.f0))-(1:Int)),1⟩:Z0y)]).map Z0a=(x1489.map Z0a)++([(⟨i64.wrap ((i64.wrap (b1495.f0-b1502.f0))-(1:Int)),1⟩:Z0y)].map Z0a),∀ c∈([(⟨i64.wrap ((i64.wrap (b1495.f0-b1502.f0))-(1:Int)),1⟩:Z0y)].map Z0a),c.length=2,∀ c∈([(⟨i64.wrap ((i64.wrap (b1495.f0-b1502.f0))-(1:Int)),1⟩:Z0y)].map Z0a),Z12 (c.map .im)=true,((x1489.map Z0a).length+([(⟨i64.wrap ((i64.wrap (b1495.f0-b1502.f0))-(1:Int)),1⟩:Z0y)].map Z0a).length)*16≤140737488355328] ⟨p1503,Zu Z0 q1504,by exact rfl,by simp,by exact Z13 _ _ _ (fun _=>rfl),by exact Z16 _ _ (fun _=>rfl),by simpa using c1513,trivial⟩ ?_
       obtain rfl:=sj H
       exact lf [(4,11),(5,12),(10,13)] [] [] (by kernel_rfl) ⟨rfl,rfl⟩
     ·obtain⟨x1514,rfl⟩:∃ z,z=o1523:=⟨_,rfl⟩
      rintro e s ⟨rfl,rfl⟩
      obtain rfl:=sj H
      exact lf [(11,14),(12,15),(13,16)] [] [] (by kernel_rfl) ⟨rfl,rfl⟩
   ·obtain⟨x1515,x1516⟩:=o1521
    rintro e s ⟨rfl,rfl⟩
    refine rO hP hn hm [] [(9,iV .i64 (i64.wrap (x1490+(1:Int))))] [0,2,3,7,8,9] [] [14,15,16] ?_
    exact LWp.conv [(14,4),(15,5),(16,6)] [] [] (by kernel_rfl) (ih _ _ _ _ H)
  ·replace H:=iF c1491 H
   refine AWp.exit ?_
   obtain rfl:=sj H
   exact lf [(4,17),(5,18),(6,19)] [] [] (by kernel_rfl) ⟨rfl,rfl⟩
 ·obtain⟨x1517,x1518⟩:=o1519
  rintro e s ⟨rfl,rfl⟩
  refine sO hP hn hm [] [] [2] [(17,some (.box 52 [iV .i64 x1517,.own 19]))] [17,19] ?_
  refine AWp.conv (inv:=[(17,1),(19,0)]) (vk:=[]) (e0:=[]) (t:=⟨[(2,.ptr 1 0 0)],[(0,some (.row 2 86 ((((⟨x1517,x1518⟩:Z7)).f1).map Z0a))),(1,some (.box 52 [iV .i64 (((⟨x1517,x1518⟩:Z7)).f0),.own 0]))],0⟩) (by kernel_rfl) ?_
  refine AWp.ret ?_
  obtain rfl:=sj H
  exact rl (.inl rfl) rfl (by kernel_rfl) (by kernel_rfl)
def Zl.l1 (a0:Z7) (b1552:Z0y) (x1547:Int) (x1558:List Int) (x1559:Int) (x1560:Int):Option ((List Int)×Int):=if(decide (x1560<b1552.f1))=true then((chk ((x1558.length+[x1559].length)*8≤140737488355328))>>=fun _=>Zl.l1 a0 b1552 x1547 (x1558++[x1559]) (i64.wrap (x1559+(1:Int))) (i64.wrap (x1560+(1:Int)))) else(some (x1558,x1559))
partial_fixpoint
def Zl.l0 (a0:Z7) (x1545:List Int) (x1546:Int) (x1547:Int):Option (List Int):=if(decide (x1547<(a0.f1.length:Int)))=true then((at? a0.f1 x1547)>>=fun b1552=>(Zl.l1 a0 b1552 x1547 x1545 (i64.wrap (x1546+b1552.f0)) 0)>>=fun oo=>match oo with | (x1564,x1565)=>(Zl.l0 a0 x1564 x1565 (i64.wrap (x1547+(1:Int))))) else(some x1545)
partial_fixpoint
def Zl.f (a0:Z7):Option (List Int):=(Zl.l0 a0 [] a0.f0 0)>>=fun x1566=>some x1566
theorem Zl.ok (a0:Z7) (r:List Int) (H:Zl.f a0=some r):Pv.Fn Try.prog 38 [.agg (Zb a0)] [] 0 (fun x o=>x = .own 0∧o=[(0,some (.row 1 3 (r.map (Z1 .i64))))]):=by
 unfold Zl.f at H
 refine Fn.bodyK [0] Try.func38 rfl rfl (fun Γ hP hn => ?_)
 have hm:Try.prog.follows .mixedOrders=true:=by kernel_rfl
 replace hn:Γ.n=33:=hn
 refine sO hP hn hm [(0,.k 0)] [(1,.ptr 0 0 0)] [1] [(0,some (.box 52 (Zb a0)))] [0] ?_
 refine sO hP hn hm [] [(3,.none0)] [1,3] [] [0] ?_
 refine sO hP hn hm [] [(4,iV .i64 a0.f0)] [1,3,4] [] [0] ?_
 refine AWp.seq ?_
 refine sR hP hn hm [(2,.any (iV .i64 (a0.f1.length:Int)))] [(10,.im (.row (a0.f1.map Z0a))),(11,iV .i64 (a0.f1.length:Int)),(12,iV .i64 0)] [3,4,10,11,12] [] [] [((a0.f1.map Z0a).length:Int)=(a0.f1.length:Int)] ⟨by rw[Zv],trivial⟩ ?_
 refine AWp.block ?_
 obtain⟨o1567,e1568,H⟩:=Z4 H
 refine AWp.loop (LWp.conv (inv:=[]) (vk:=[]) (e0:=[8]) (t:=⟨[(3,.own 8),(4,iV .i64 a0.f0),(10,.im (.row (a0.f1.map Z0a))),(11,iV .i64 (a0.f1.length:Int)),(12,iV .i64 0)],[(8,some (.row 1 3 ([].map (Z1 .i64))))],0⟩) (by kernel_rfl) ?_)
 refine LWp.mono (Q:=fun e s=>(match (generalizing:=false) o1567 with | x1566=>e = .exit 0∧s=⟨[(3,.own 16)],[(16,some (.row 1 3 (x1566.map (Z1 .i64))))],0⟩)) (LWp.cv (Z07 (fun body hbody => ?_))) ?_
 ·refine             Zl.l0.partial_correctness a0 (motive:=fun x1545 x1546 x1547 o1567=>LWp Γ body (fun e s=>∃ t,Cv Γ s t∧(match (generalizing:=false) o1567 with | x1566=>e = .exit 0∧t=⟨[(3,.own 16)],[(16,some (.row 1 3 (x1566.map (Z1     .i64))))],0⟩)) ⟨[(3,.own 8),(4,iV .i64 x1546),(10,.im (.row (a0.f1.map Z0a  ))),(11,iV .i64 (a0.f1.length:Int)),(12,iV .i64 x1547)],[(8,some (.row 1 3 (x1545.map (Z1     .i64))))],0⟩) ?_ _ _ _ _ e1568
  clear H e1568 o1567;intro self ih x1545 x1546 x1547 o1567 H
  subst hbody
  refine LWp.round ?_
  refine sO hP hn hm [] [(13,bV (decide (x1547<(a0.f1.length:Int))))] [3,4,10,11,12,13] [] [8] ?_
  refine AWp.seq ?_
  refine AWp.cond (decide (x1547<(a0.f1.length:Int))) (by kernel_rfl) (fun c1548 => ?_) (fun c1548 => ?_)
  ·replace H:=iT c1548 H
   refine AWp.skip ?_
   refine AWp.seq ?_
   refine AWp.block ?_
   obtain⟨b1552,p1553,q1554,H⟩:=Z0q H
   refine sR hP hn hm [(0,.c (Z0a b1552)),(2,.k 9)] [(6,.ptr 9 0 0)] [3,4,6,10,11,12] [(9,some (.box 86 (aSpan b1552)))] [8,9] [_,_] ⟨p1553,Zu Z0a q1554,trivial⟩ ?_
   refine sO hP hn hm [] [(4,iV .i64 (i64.wrap (x1546+b1552.f0)))] [3,4,6,10,11,12] [] [8,9] ?_
   refine sO hP hn hm [] [(21,iV .i64 b1552.f1),(22,iV .i64 0)] [3,4,10,11,12,21,22] [] [8] ?_
   refine AWp.block ?_
   obtain⟨o1569,e1570,H⟩:=Z4 H
   refine AWp.loop (LWp.conv (inv:=[(8,12)]) (vk:=[]) (e0:=[]) (t:=⟨[(3,.own 12),(4,iV .i64 (i64.wrap (x1546+b1552.f0))),(10,.im (.row (a0.f1.map Z0a))),(11,iV .i64 (a0.f1.length:Int)),(12,iV .i64 x1547),(21,iV .i64 b1552.f1),(22,iV .i64 0)],[(12,some (.row 1 3 (x1545.map (Z1 .i64))))],0⟩) (by kernel_rfl) ?_)
   refine LWp.mono (Q:=fun e s=>(match (generalizing:=false) o1569 with | (x1564,x1565)=>e = .exit 2∧s=⟨[(3,.own 15),(4,iV .i64 x1565),(10,.im (.row (a0.f1.map Z0a))),(11,iV .i64 (a0.f1.length:Int)),(12,iV .i64 x1547)],[(15,some (.row 1 3 (x1564.map (Z1 .i64))))],0⟩)) (LWp.cv (Z07 (fun body hbody => ?_))) ?_
   ·refine             Zl.l1.partial_correctness a0 b1552 x1547 (motive:=fun x1558 x1559 x1560 o1569=>LWp Γ body (fun e s=>∃ t,Cv Γ s t∧(match (generalizing:=false) o1569 with | (x1564,x1565)=>e = .exit 2∧t=⟨[(3,.own 15),(4,iV .i64 x1565),(10,.im (.row (a0.f1.map Z0a  ))),(11,iV .i64 (a0.f1.length:Int)),(12,iV .i64 x1547)],[(15,some (.row 1 3 (x1564.map (Z1     .i64))))],0⟩)) ⟨[(3,.own 12),(4,iV .i64 x1559),(10,.im (.row (a0.f1.map Z0a  ))),(11,iV .i64 (a0.f1.length:Int)),(12,iV .i64 x1547),(21,iV .i64 b1552.f1),(22,iV .i64 x1560)],[(12,some (.row 1 3 (x1558.map (Z1     .i64))))],0⟩) ?_ _ _ _ _ e1570
    clear H e1570 o1569;intro self ih x1558 x1559 x1560 o1569 H
    subst hbody
    refine LWp.round ?_
    refine sO hP hn hm [] [(23,bV (decide (x1560<b1552.f1)))] [3,4,10,11,12,21,22,23] [] [12] ?_
    refine AWp.seq ?_
    refine AWp.cond (decide (x1560<b1552.f1)) (by kernel_rfl) (fun c1561 => ?_) (fun c1561 => ?_)
    ·replace H:=iT c1561 H
     refine AWp.skip ?_
     refine AWp.seq ?_
     refine AWp.block ?_
     obtain⟨c1563,H⟩:=Z17 H
     refine sR hP hn hm [(2,.app 13 ([x1559].map (Z1 .i64))),(3,.app 14 ((x1558++[x1559]).map (Z1 .i64)))] [(3,.own 14)] [3,4,10,11,12,21,22] [(14,some (.row 1 3 ((x1558++[x1559]).map (Z1 .i64))))] [14] [[x1559].map (Z1 .i64)=[[iI .i64 x1559]],(x1558++[x1559]).map (Z1 .i64)=(x1558.map (Z1 .i64))++([x1559].map (Z1 .i64)),∀ c∈([x1559].map (Z1 .i64)),c.length=1,∀ c∈([x1559].map (Z1 .i64)),Z12 (c.map .im)=true,((x1558.map (Z1 .i64)).length+([x1559].map (Z1 .i64)).length)*8≤140737488355328] ⟨by exact rfl,by simp,by exact Z13 _ _ _ (fun _=>rfl),by exact Z16 _ _ (fun _=>rfl),by simpa using c1563,trivial⟩ ?_
     refine rO hP hn hm [] [(4,iV .i64 (i64.wrap (x1559+(1:Int))))] [3,4,10,11,12,21,22] [] [14] ?_
     refine rO hP hn hm [] [(22,iV .i64 (i64.wrap (x1560+(1:Int))))] [3,4,10,11,12,21,22] [] [14] ?_
     exact LWp.conv [(14,12)] [] [] (by kernel_rfl) (ih _ _ _ _ H)
    ·replace H:=iF c1561 H
     refine AWp.exit ?_
     obtain rfl:=sj H
     exact lf [(12,15)] [] [] (by kernel_rfl) ⟨rfl,rfl⟩
   ·obtain⟨x1564,x1565⟩:=o1569
    rintro e s ⟨rfl,rfl⟩
    refine rO hP hn hm [] [(12,iV .i64 (i64.wrap (x1547+(1:Int))))] [3,4,10,11,12] [] [15] ?_
    exact LWp.conv [(15,8)] [] [] (by kernel_rfl) (ih _ _ _ _ H)
  ·replace H:=iF c1548 H
   refine AWp.exit ?_
   obtain rfl:=sj H
   exact lf [(8,16)] [] [] (by kernel_rfl) ⟨rfl,rfl⟩
 ·obtain⟨x1566,rfl⟩:∃ z,z=o1567:=⟨_,rfl⟩
  rintro e s ⟨rfl,rfl⟩
  refine sO hP hn hm [] [(2,.own 16)] [2] [] [16] ?_
  refine AWp.conv (inv:=[(16,0)]) (vk:=[]) (e0:=[]) (t:=⟨[(2,.own 0)],[(0,some (.row 1 3 (x1566.map (Z1 .i64))))],0⟩) (by kernel_rfl) ?_
  refine AWp.ret ?_
  obtain rfl:=sj H
  exact rl (.inl rfl) rfl (by kernel_rfl) (by kernel_rfl)
def Z0x.l0 (x1656:List Int) (x1657:List Int) (x1658:List Z2):Option (List Z2):=if(decide ((i64.wrap ((x1656.length:Int)+(x1657.length:Int)))>(0:Int)))=true then(((if((x1657.length:Int)==(0:Int))=true then(some true) else(if(decide ((x1656.length:Int)>(0:Int)))=true then((at? x1656 0)>>=fun b1670=>(at? x1657 0)>>=fun b1673=>some (decide (b1670<b1673))) else(some false))):Option (Bool))>>=fun x1676=>((if x1676=true then((at? x1656 0)>>=fun b1682=>(chk ((x1658.length+[(⟨b1682,0⟩:Z2)].length)*16≤140737488355328))>>=fun _=>(chk (0≤(1:Int)∧(1:Int)≤(x1656.length:Int)∧(x1656.length:Int)≤(x1656.length:Int)))>>=fun _=>some ((x1656.drop (Int.toNat ((1:Int)))).take ((Int.toNat ((x1656.length:Int)))-(Int.toNat ((1:Int)))),x1657,x1658++[(⟨b1682,0⟩:Z2)])) else(((if((x1656.length:Int)==(0:Int))=true then(some true) else((at? x1657 0)>>=fun b1696=>(at? x1656 0)>>=fun b1699=>some (decide (b1696<b1699)))):Option (Bool))>>=fun x1702=>((if x1702=true then((at? x1657 0)>>=fun b1708=>(chk ((x1658.length+[(⟨b1708,0⟩:Z2)].length)*16≤140737488355328))>>=fun _=>(chk (0≤(1:Int)∧(1:Int)≤(x1657.length:Int)∧(x1657.length:Int)≤(x1657.length:Int)))>>=fun _=>some (x1656,x1658++[(⟨b1708,0⟩:Z2)])) else((at? x1656 0)>>=fun b1718=>(chk ((x1658.length+[(⟨b1718,0⟩:Z2)].length)*16≤140737488355328))>>=fun _=>(chk (0≤(1:Int)∧(1:Int)≤(x1656.length:Int)∧(x1656.length:Int)≤(x1656.length:Int)))>>=fun _=>(chk (0≤(1:Int)∧(1:Int)≤(x1657.length:Int)∧(x1657.length:Int)≤(x1657.length:Int)))>>=fun _=>some ((x1656.drop (Int.toNat ((1:Int)))).take ((Int.toNat ((x1656.length:Int)))-(Int.toNat ((1:Int)))),x1658++[(⟨b1718,0⟩:Z2)]))):Option ((List Int)×(List Z2)))>>=fun oo=>match oo with | (x1726,x1727)=>(some (x1726,(x1657.drop (Int.toNat ((1:Int)))).take ((Int.toNat ((x1657.length:Int)))-(Int.toNat ((1:Int)))),x1727)))):Option ((List Int)×(List Int)×(List Z2)))>>=fun oo=>match oo with | (x1728,x1729,x1730)=>(Z0x.l0  x1728 x1729 x1730)) else(some x1658)
partial_fixpoint
def Z0x.f (a0:Z7) (a1:Z7):Option (Z7):=(Zl.f a0)>>=fun t1575=>(Zl.f a1)>>=fun t1577=>(Z0x.l0  t1575 t1577 [])>>=fun x1731=>(Z1f.f x1731)>>=fun t1734=>some (t1734)
theorem Z0x.ok (a0:Z7) (a1:Z7) (r:Z7) (H:Z0x.f a0 a1=some r):Pv.Fn Try.prog 39 [.agg (Zb a0),.agg (Zb a1)] [] 0 (fun x o=>x = .agg [iV .i64 ((r).f0),.own 0]∧o=[(0,some (.row 2 86 (((r).f1).map Z0a)))]):=by
 unfold Z0x.f at H
 refine Fn.bodyK [0] Try.func39 rfl rfl (fun Γ hP hn => ?_)
 have hm:Try.prog.follows .mixedOrders=true:=by kernel_rfl
 replace hn:Γ.n=80:=hn
 refine sO hP hn hm [(0,.k 0),(1,.k 1),(2,.k 2)] [(2,.ptr 0 0 0),(3,.ptr 1 0 0),(4,.ptr 2 0 0)] [2,3,4] [(0,some (.box 52 (Zb a0))),(1,some (.box 52 (Zb a1))),(2,some (.box 52 [iV .i64 0,.none0]))] [0,1,2] ?_
 obtain⟨t1575,e1576,H⟩:=Z4 H
 obtain⟨t1577,e1578,H⟩:=Z4 H
 refine sR hP hn hm [(1,.call [] [(0,3)] [] [3] 0 (.own 0) [(0,some (.row 1 3 (t1575.map (Z1 .i64))))]),(3,.call [] [(0,4)] [] [4] 0 (.own 0) [(0,some (.row 1 3 (t1577.map (Z1 .i64))))])] [(5,.own 3),(6,.own 4)] [4,5,6] [(3,some (.row 1 3 (t1575.map (Z1 .i64)))),(4,some (.row 1 3 (t1577.map (Z1 .i64))))] [2,3,4] [_,_,_,_] ⟨Try.call38,Zl.ok a0 t1575 e1576,Try.call38,Zl.ok a1 t1577 e1578,trivial⟩ ?_
 refine sO hP hn hm [] [(7,.none0)] [4,5,6,7] [] [2,3,4] ?_
 refine AWp.seq ?_
 refine AWp.block ?_
 obtain⟨o1736,e1737,H⟩:=Z4 H
 refine AWp.loop (LWp.conv (inv:=[(2,21)]) (vk:=[3,4]) (e0:=[22]) (t:=⟨[(4,.ptr 21 0 0),(5,.im (.row (t1575.map (Z1 .i64)))),(6,.im (.row (t1577.map (Z1 .i64)))),(7,.own 22)],[(21,some (.box 52 [iV .i64 0,.none0])),(22,some (.row 2 78 ([].map Z0)))],0⟩) (by kernel_rfl) ?_)
 refine LWp.mono (Q:=fun e s=>(match (generalizing:=false) o1736 with | x1731=>e = .exit 0∧s=⟨[(4,.ptr 37 0 0),(7,.own 38)],[(37,some (.box 52 [iV .i64 0,.none0])),(38,some (.row 2 78 (x1731.map Z0)))],0⟩)) (LWp.cv (Z07 (fun body hbody => ?_))) ?_
 ·refine         Z0x.l0.partial_correctness  (motive:=fun x1656 x1657 x1658 o1736=>LWp Γ body (fun e s=>∃ t,Cv Γ s t∧(match (generalizing:=false) o1736 with | x1731=>e = .exit 0∧t=⟨[(4,.ptr 37 0 0),(7,.own 38)],[(37,some (.box 52 [iV .i64 0,.none0])),(38,some (.row 2 78 (x1731.map Z0     )))],0⟩)) ⟨[(4,.ptr 21 0 0),(5,.im (.row (x1656.map (Z1     .i64)))),(6,.im (.row (x1657.map (Z1     .i64)))),(7,.own 22)],[(21,some (.box 52 [iV .i64 0,.none0])),(22,some (.row 2 78 (x1658.map Z0     )))],0⟩) ?_ _ _ _ _ e1737
  clear H e1737 o1736;intro self ih x1656 x1657 x1658 o1736 H
  subst hbody
  refine LWp.round ?_
  refine AWp.seq ?_
  refine sR hP hn hm [(1,.any (iV .i64 (x1656.length:Int))),(3,.any (iV .i64 (x1657.length:Int)))] [(17,bV (decide ((i64.wrap ((x1656.length:Int)+(x1657.length:Int)))>(0:Int))))] [4,5,6,7,17] [] [21,22] [((x1656.map (Z1 .i64)).length:Int)=(x1656.length:Int),((x1657.map (Z1 .i64)).length:Int)=(x1657.length:Int)] ⟨by rw[Zv],by rw[Zv],trivial⟩ ?_
  refine AWp.cond (decide ((i64.wrap ((x1656.length:Int)+(x1657.length:Int)))>(0:Int))) (by kernel_rfl) (fun c1659 => ?_) (fun c1659 => ?_)
  ·replace H:=iT c1659 H
   refine AWp.skip ?_
   refine AWp.block ?_
   refine AWp.block ?_
   refine AWp.seq ?_
   obtain⟨o1738,e1739,H⟩:=Z4 H
   refine AWp.mono (Q:=fun e s=>(match (generalizing:=false) o1738 with | x1676=>e = .normal∧s=⟨[(4,.ptr 23 0 0),(5,.im (.row (x1656.map (Z1 .i64)))),(6,.im (.row (x1657.map (Z1 .i64)))),(7,.own 24),(29,bV x1676)],[(23,some (.box 52 [iV .i64 0,.none0])),(24,some (.row 2 78 (x1658.map Z0)))],0⟩)) (AWp.cv ?_) ?_
   ·replace H:=e1739;clear e1739
    rcases Bool.eq_false_or_eq_true ((x1657.length:Int)==(0:Int)) with c1668 | c1668
    ·replace H:=iT c1668 H
     refine rG hP hn hm [(1,.any (iV .i64 (x1657.length:Int))),(3,.b true)] [(29,bV true)] [4,5,6,7,29] [] [21,22] [((x1657.map (Z1 .i64)).length:Int)=(x1657.length:Int),_] ⟨by rw[Zv],c1668,trivial⟩ ?_
     obtain rfl:=sj H
     exact lf [(21,23),(22,24)] [] [] (by kernel_rfl) ⟨rfl,rfl⟩
    ·replace H:=iF c1668 H
     rcases Bool.eq_false_or_eq_true (decide ((x1656.length:Int)>(0:Int))) with c1669 | c1669
     ·replace H:=iT c1669 H
      obtain⟨b1670,p1671,q1672,H⟩:=Z0q H
      obtain⟨b1673,p1674,q1675,H⟩:=Z0q H
      refine rG hP hn hm [(1,.any (iV .i64 (x1657.length:Int))),(3,.b false),(5,.any (iV .i64 (x1656.length:Int))),(7,.b true),(9,.c ((Z1 .i64) b1670)),(12,.c ((Z1 .i64) b1673))] [(29,bV (decide (b1670<b1673))),(34,.im (.row (x1656.map (Z1 .i64)))),(35,iV .i64 (x1656.length:Int)),(36,bV (decide ((x1656.length:Int)>(0:Int)))),(37,bV true),(38,.im (.row (x1656.map (Z1 .i64)))),(39,.ip [iI .i64 b1670]),(40,iV .i64 b1670),(41,.im (.row (x1657.map (Z1 .i64)))),(42,.ip [iI .i64 b1673]),(43,iV .i64 b1673),(44,bV (decide (b1670<b1673))),(45,bV (decide (b1670<b1673)))] [4,5,6,7,29,34,35,36,37,38,39,40,41,42,43,44,45] [] [21,22] [((x1657.map (Z1 .i64)).length:Int)=(x1657.length:Int),_,((x1656.map (Z1 .i64)).length:Int)=(x1656.length:Int),_,_,_,_,_] ⟨by rw[Zv],c1668,by rw[Zv],c1669,p1671,Zu (Z1 .i64) q1672,p1674,Zu (Z1 .i64) q1675,trivial⟩ ?_
      obtain rfl:=sj H
      exact lf [(21,23),(22,24)] [] [] (by kernel_rfl) ⟨rfl,rfl⟩
     ·replace H:=iF c1669 H
      refine rG hP hn hm [(1,.any (iV .i64 (x1657.length:Int))),(3,.b false),(5,.any (iV .i64 (x1656.length:Int))),(7,.b false)] [(29,bV false),(34,.im (.row (x1656.map (Z1 .i64)))),(35,iV .i64 (x1656.length:Int)),(36,bV (decide ((x1656.length:Int)>(0:Int)))),(37,bV false),(45,bV false)] [4,5,6,7,29,34,35,36,37,45] [] [21,22] [((x1657.map (Z1 .i64)).length:Int)=(x1657.length:Int),_,((x1656.map (Z1 .i64)).length:Int)=(x1656.length:Int),_] ⟨by rw[Zv],c1668,by rw[Zv],c1669,trivial⟩ ?_
      obtain rfl:=sj H
      exact lf [(21,23),(22,24)] [] [] (by kernel_rfl) ⟨rfl,rfl⟩
   ·obtain⟨x1676,rfl⟩:∃ z,z=o1738:=⟨_,rfl⟩
    rintro e s ⟨rfl,rfl⟩
    obtain⟨o1740,e1741,H⟩:=Z4 H
    refine AWp.mono (Q:=fun e s=>(match (generalizing:=false) o1740 with | (x1728,x1729,x1730)=>e = .normal∧s=⟨[(4,.ptr 35 0 0),(5,.im (.row (x1728.map (Z1 .i64)))),(6,.im (.row (x1729.map (Z1 .i64)))),(7,.own 36)],[(35,some (.box 52 [iV .i64 0,.none0])),(36,some (.row 2 78 (x1730.map Z0)))],0⟩)) (AWp.cv ?_) ?_
    ·replace H:=e1741;clear e1741
     refine AWp.cond x1676 (by kernel_rfl) (fun c1677 => ?_) (fun c1677 => ?_)
     ·replace H:=iT c1677 H
      obtain⟨b1682,p1683,q1684,H⟩:=Z0q H
      obtain⟨c1685,H⟩:=Z17 H
      refine sR hP hn hm [(2,.c ((Z1 .i64) b1682)),(5,.app 25 ([(⟨b1682,0⟩:Z2)].map Z0)),(6,.app 26 ((x1658++[(⟨b1682,0⟩:Z2)]).map Z0))] [(7,.own 26)] [4,5,6,7] [(26,some (.row 2 78 ((x1658++[(⟨b1682,0⟩:Z2)]).map Z0)))] [23,26] [_,_,[(⟨b1682,0⟩:Z2)].map Z0=[[iI .i64 b1682,iI .u64 0]],(x1658++[(⟨b1682,0⟩:Z2)]).map Z0=(x1658.map Z0)++([(⟨b1682,0⟩:Z2)].map Z0),∀ c∈([(⟨b1682,0⟩:Z2)].map Z0),c.length=2,∀ c∈([(⟨b1682,0⟩:Z2)].map Z0),Z12 (c.map .im)=true,((x1658.map Z0).length+([(⟨b1682,0⟩:Z2)].map Z0).length)*16≤140737488355328] ⟨p1683,Zu (Z1 .i64) q1684,by exact rfl,by simp,by exact Z13 _ _ _ (fun _=>rfl),by exact Z16 _ _ (fun _=>rfl),by simpa using c1685,trivial⟩ ?_
      obtain⟨c1687,H⟩:=Z17 H
      refine rG hP hn hm [(1,.rows (((x1656.drop (Int.toNat ((1:Int)))).take ((Int.toNat ((x1656.length:Int)))-(Int.toNat ((1:Int))))).map (Z1 .i64)))] [(5,.im (.row (((x1656.drop (Int.toNat ((1:Int)))).take ((Int.toNat ((x1656.length:Int)))-(Int.toNat ((1:Int))))).map (Z1 .i64))))] [4,5,6,7] [] [23,26] [0≤(1:Int),(1:Int)≤((x1656.map (Z1 .i64)).length:Int),((x1656.map (Z1 .i64)).length:Int)≤((x1656.map (Z1 .i64)).length:Int),∀ c∈x1656.map (Z1 .i64),c.length=1,((x1656.drop (Int.toNat ((1:Int)))).take ((Int.toNat ((x1656.length:Int)))-(Int.toNat ((1:Int))))).map (Z1 .i64)=((x1656.map (Z1 .i64)).drop (Int.toNat ((1:Int)))).take ((Int.toNat (((x1656.map (Z1 .i64)).length:Int)))-(Int.toNat ((1:Int))))] ⟨by exact c1687.1,by simpa using c1687.2.1,by simpa using c1687.2.2,by exact Z13 _ _ _ (fun _=>rfl),by simp[cut1],trivial⟩ ?_
      obtain rfl:=sj H
      exact lf [(23,35),(26,36)] [] [] (by kernel_rfl) ⟨rfl,rfl⟩
     ·replace H:=iF c1677 H
      refine AWp.seq ?_
      obtain⟨o1742,e1743,H⟩:=Z4 H
      refine AWp.mono (Q:=fun e s=>(match (generalizing:=false) o1742 with | x1702=>e = .normal∧s=⟨[(4,.ptr 27 0 0),(5,.im (.row (x1656.map (Z1 .i64)))),(6,.im (.row (x1657.map (Z1 .i64)))),(7,.own 28),(56,bV x1702)],[(27,some (.box 52 [iV .i64 0,.none0])),(28,some (.row 2 78 (x1658.map Z0)))],0⟩)) (AWp.cv ?_) ?_
      ·replace H:=e1743;clear e1743
       rcases Bool.eq_false_or_eq_true ((x1656.length:Int)==(0:Int)) with c1695 | c1695
       ·replace H:=iT c1695 H
        refine rG hP hn hm [(1,.any (iV .i64 (x1656.length:Int))),(3,.b true)] [(56,bV true)] [4,5,6,7,56] [] [23,24] [((x1656.map (Z1 .i64)).length:Int)=(x1656.length:Int),_] ⟨by rw[Zv],c1695,trivial⟩ ?_
        obtain rfl:=sj H
        exact lf [(23,27),(24,28)] [] [] (by kernel_rfl) ⟨rfl,rfl⟩
       ·replace H:=iF c1695 H
        obtain⟨b1696,p1697,q1698,H⟩:=Z0q H
        obtain⟨b1699,p1700,q1701,H⟩:=Z0q H
        refine rG hP hn hm [(1,.any (iV .i64 (x1656.length:Int))),(3,.b false),(5,.c ((Z1 .i64) b1696)),(8,.c ((Z1 .i64) b1699))] [(56,bV (decide (b1696<b1699))),(61,.im (.row (x1657.map (Z1 .i64)))),(62,.ip [iI .i64 b1696]),(63,iV .i64 b1696),(64,.im (.row (x1656.map (Z1 .i64)))),(65,.ip [iI .i64 b1699]),(66,iV .i64 b1699),(67,bV (decide (b1696<b1699)))] [4,5,6,7,56,61,62,63,64,65,66,67] [] [23,24] [((x1656.map (Z1 .i64)).length:Int)=(x1656.length:Int),_,_,_,_,_] ⟨by rw[Zv],c1695,p1697,Zu (Z1 .i64) q1698,p1700,Zu (Z1 .i64) q1701,trivial⟩ ?_
        obtain rfl:=sj H
        exact lf [(23,27),(24,28)] [] [] (by kernel_rfl) ⟨rfl,rfl⟩
      ·obtain⟨x1702,rfl⟩:∃ z,z=o1742:=⟨_,rfl⟩
       rintro e s ⟨rfl,rfl⟩
       obtain⟨o1744,e1745,H⟩:=Z4 H
       refine AWp.mono (Q:=fun e s=>(match (generalizing:=false) o1744 with | (x1726,x1727)=>e = .normal∧s=⟨[(4,.ptr 33 0 0),(5,.im (.row (x1726.map (Z1 .i64)))),(6,.im (.row (((x1657.drop (Int.toNat ((1:Int)))).take ((Int.toNat ((x1657.length:Int)))-(Int.toNat ((1:Int))))).map (Z1 .i64)))),(7,.own 34)],[(33,some (.box 52 [iV .i64 0,.none0])),(34,some (.row 2 78 (x1727.map Z0)))],0⟩)) (AWp.cv ?_) ?_
       ·replace H:=e1745;clear e1745
        refine AWp.cond x1702 (by kernel_rfl) (fun c1703 => ?_) (fun c1703 => ?_)
        ·replace H:=iT c1703 H
         obtain⟨b1708,p1709,q1710,H⟩:=Z0q H
         obtain⟨c1711,H⟩:=Z17 H
         refine sR hP hn hm [(2,.c ((Z1 .i64) b1708)),(5,.app 29 ([(⟨b1708,0⟩:Z2)].map Z0)),(6,.app 30 ((x1658++[(⟨b1708,0⟩:Z2)]).map Z0))] [(7,.own 30)] [4,5,6,7] [(30,some (.row 2 78 ((x1658++[(⟨b1708,0⟩:Z2)]).map Z0)))] [27,30] [_,_,[(⟨b1708,0⟩:Z2)].map Z0=[[iI .i64 b1708,iI .u64 0]],(x1658++[(⟨b1708,0⟩:Z2)]).map Z0=(x1658.map Z0)++([(⟨b1708,0⟩:Z2)].map Z0),∀ c∈([(⟨b1708,0⟩:Z2)].map Z0),c.length=2,∀ c∈([(⟨b1708,0⟩:Z2)].map Z0),Z12 (c.map .im)=true,((x1658.map Z0).length+([(⟨b1708,0⟩:Z2)].map Z0).length)*16≤140737488355328] ⟨p1709,Zu (Z1 .i64) q1710,by exact rfl,by simp,by exact Z13 _ _ _ (fun _=>rfl),by exact Z16 _ _ (fun _=>rfl),by simpa using c1711,trivial⟩ ?_
         obtain⟨c1713,H⟩:=Z17 H
         refine rG hP hn hm [(1,.rows (((x1657.drop (Int.toNat ((1:Int)))).take ((Int.toNat ((x1657.length:Int)))-(Int.toNat ((1:Int))))).map (Z1 .i64)))] [(6,.im (.row (((x1657.drop (Int.toNat ((1:Int)))).take ((Int.toNat ((x1657.length:Int)))-(Int.toNat ((1:Int))))).map (Z1 .i64))))] [4,5,6,7] [] [27,30] [0≤(1:Int),(1:Int)≤((x1657.map (Z1 .i64)).length:Int),((x1657.map (Z1 .i64)).length:Int)≤((x1657.map (Z1 .i64)).length:Int),∀ c∈x1657.map (Z1 .i64),c.length=1,((x1657.drop (Int.toNat ((1:Int)))).take ((Int.toNat ((x1657.length:Int)))-(Int.toNat ((1:Int))))).map (Z1 .i64)=((x1657.map (Z1 .i64)).drop (Int.toNat ((1:Int)))).take ((Int.toNat (((x1657.map (Z1 .i64)).length:Int)))-(Int.toNat ((1:Int))))] ⟨by exact c1713.1,by simpa using c1713.2.1,by simpa using c1713.2.2,by exact Z13 _ _ _ (fun _=>rfl),by simp[cut1],trivial⟩ ?_
         obtain rfl:=sj H
         exact lf [(27,33),(30,34)] [] [] (by kernel_rfl) ⟨rfl,rfl⟩
        ·replace H:=iF c1703 H
         obtain⟨b1718,p1719,q1720,H⟩:=Z0q H
         obtain⟨c1721,H⟩:=Z17 H
         refine sR hP hn hm [(2,.c ((Z1 .i64) b1718)),(5,.app 31 ([(⟨b1718,0⟩:Z2)].map Z0)),(6,.app 32 ((x1658++[(⟨b1718,0⟩:Z2)]).map Z0))] [(7,.own 32)] [4,5,6,7] [(32,some (.row 2 78 ((x1658++[(⟨b1718,0⟩:Z2)]).map Z0)))] [27,32] [_,_,[(⟨b1718,0⟩:Z2)].map Z0=[[iI .i64 b1718,iI .u64 0]],(x1658++[(⟨b1718,0⟩:Z2)]).map Z0=(x1658.map Z0)++([(⟨b1718,0⟩:Z2)].map Z0),∀ c∈([(⟨b1718,0⟩:Z2)].map Z0),c.length=2,∀ c∈([(⟨b1718,0⟩:Z2)].map Z0),Z12 (c.map .im)=true,((x1658.map Z0).length+([(⟨b1718,0⟩:Z2)].map Z0).length)*16≤140737488355328] ⟨p1719,Zu (Z1 .i64) q1720,by exact rfl,by simp,by exact Z13 _ _ _ (fun _=>rfl),by exact Z16 _ _ (fun _=>rfl),by simpa using c1721,trivial⟩ ?_
         obtain⟨c1724,H⟩:=Z17 H
         obtain⟨c1725,H⟩:=Z17 H
         refine rG hP hn hm [(1,.rows (((x1656.drop (Int.toNat ((1:Int)))).take ((Int.toNat ((x1656.length:Int)))-(Int.toNat ((1:Int))))).map (Z1 .i64))),(3,.rows (((x1657.drop (Int.toNat ((1:Int)))).take ((Int.toNat ((x1657.length:Int)))-(Int.toNat ((1:Int))))).map (Z1 .i64)))] [(5,.im (.row (((x1656.drop (Int.toNat ((1:Int)))).take ((Int.toNat ((x1656.length:Int)))-(Int.toNat ((1:Int))))).map (Z1 .i64)))),(6,.im (.row (((x1657.drop (Int.toNat ((1:Int)))).take ((Int.toNat ((x1657.length:Int)))-(Int.toNat ((1:Int))))).map (Z1 .i64))))] [4,5,6,7] [] [27,32] [0≤(1:Int),(1:Int)≤((x1656.map (Z1 .i64)).length:Int),((x1656.map (Z1 .i64)).length:Int)≤((x1656.map (Z1 .i64)).length:Int),∀ c∈x1656.map (Z1 .i64),c.length=1,((x1656.drop (Int.toNat ((1:Int)))).take ((Int.toNat ((x1656.length:Int)))-(Int.toNat ((1:Int))))).map (Z1 .i64)=((x1656.map (Z1 .i64)).drop (Int.toNat ((1:Int)))).take ((Int.toNat (((x1656.map (Z1 .i64)).length:Int)))-(Int.toNat ((1:Int)))),0≤(1:Int),(1:Int)≤((x1657.map (Z1 .i64)).length:Int),((x1657.map (Z1 .i64)).length:Int)≤((x1657.map (Z1 .i64)).length:Int),∀ c∈x1657.map (Z1 .i64),c.length=1,((x1657.drop (Int.toNat ((1:Int)))).take ((Int.toNat ((x1657.length:Int)))-(Int.toNat ((1:Int))))).map (Z1 .i64)=((x1657.map (Z1 .i64)).drop (Int.toNat ((1:Int)))).take ((Int.toNat (((x1657.map (Z1 .i64)).length:Int)))-(Int.toNat ((1:Int))))] ⟨by exact c1724.1,by simpa using c1724.2.1,by simpa using c1724.2.2,by exact Z13 _ _ _ (fun _=>rfl),by simp[cut1],by exact c1725.1,by simpa using c1725.2.1,by simpa using c1725.2.2,by exact Z13 _ _ _ (fun _=>rfl),by simp[cut1],trivial⟩ ?_
         obtain rfl:=sj H
         exact lf [(27,33),(32,34)] [] [] (by kernel_rfl) ⟨rfl,rfl⟩
       ·obtain⟨x1726,x1727⟩:=o1744
        rintro e s ⟨rfl,rfl⟩
        obtain rfl:=sj H
        exact lf [(33,35),(34,36)] [] [] (by kernel_rfl) ⟨rfl,rfl⟩
    ·obtain⟨x1728,x1729,x1730⟩:=o1740
     rintro e s ⟨rfl,rfl⟩
     exact LWp.conv [(35,21),(36,22)] [] [] (by kernel_rfl) (ih _ _ _ _ H)
  ·replace H:=iF c1659 H
   refine AWp.exit ?_
   obtain rfl:=sj H
   exact lf [(21,37),(22,38)] [] [] (by kernel_rfl) ⟨rfl,rfl⟩
 ·obtain⟨x1731,rfl⟩:∃ z,z=o1736:=⟨_,rfl⟩
  rintro e s ⟨rfl,rfl⟩
  obtain⟨t1734,e1735,H⟩:=Z4 H
  refine sR hP hn hm [(1,.more (Z4p [] [(0,39)] [38] [39] 0 (.agg [iV .i64 ((t1734).f0),.own 0]) [(0,some (.row 2 86 (((t1734).f1).map Z0a)))]))] [] [4] [(37,some (.box 52 [iV .i64 ((t1734).f0),.own 39])),(39,some (.row 2 86 (((t1734).f1).map Z0a)))] [37,39] [_,_,∀ c∈((t1734).f1).map Z0a,∀ x∈c,∃ v,x=Im.sc v] ⟨Try.call40,Z1f.ok x1731 t1734 e1735,by exact Z4y _ _ (fun _=>by simp),trivial⟩ ?_
  refine AWp.conv (inv:=[(37,1),(39,0)]) (vk:=[]) (e0:=[]) (t:=⟨[(4,.ptr 1 0 0)],[(0,some (.row 2 86 ((((t1734)).f1).map Z0a))),(1,some (.box 52 [iV .i64 (((t1734)).f0),.own 0]))],0⟩) (by kernel_rfl) ?_
  refine AWp.ret ?_
  obtain rfl:=sj H
  exact rl (.inl rfl) rfl (by kernel_rfl) (by kernel_rfl)
def Z0h.l0 (a0:List Zh) (x1760:Int) (x1761:List Z0y) (x1762:Int) (x1763:List Z0y) (x1764:Int):Option (Int×(List Z0y)×Int×(List Z0y)):=if(decide (x1764<(a0.length:Int)))=true then((at? a0 x1764)>>=fun b1769=>(Z1f.f b1769.f1.f6)>>=fun t1776=>(Z0x.f (⟨x1760,x1761⟩:Z7) (t1776))>>=fun t1778=>(Z1f.f b1769.f1.f7)>>=fun t1784=>(Z0x.f (⟨x1762,x1763⟩:Z7) (t1784))>>=fun t1786=>Z0h.l0 a0 ((t1778).f0) ((t1778).f1) ((t1786).f0) ((t1786).f1) (i64.wrap (x1764+(1:Int)))) else(some (x1760,x1761,x1762,x1763))
partial_fixpoint
def Z0h.f (a0:List Zh):Option (Z7×Z7):=(Z0h.l0 a0 0 [] 0 [] 0)>>=fun oo=>match oo with | (x1788,x1789,x1790,x1791)=>(some ((⟨x1788,x1789⟩:Z7),(⟨x1790,x1791⟩:Z7)))
theorem Z0h.ok (a0:List Zh) (r:Z7×Z7) (H:Z0h.f a0=some r):Pv.Fn Try.prog 15 [.im (.row (a0.map Zc))] [] 0 (fun x o=>x = .tup [.agg [iV .i64 ((r.1).f0),.own 0],.agg [iV .i64 ((r.2).f0),.own 1]]∧o=[(0,some (.row 2 86 (((r.1).f1).map Z0a))),(1,some (.row 2 86 (((r.2).f1).map Z0a)))]):=by
 unfold Z0h.f at H
 refine Fn.bodyK [0,1] Try.func15 rfl rfl (fun Γ hP hn => ?_)
 have hm:Try.prog.follows .mixedOrders=true:=by kernel_rfl
 replace hn:Γ.n=27:=hn
 refine sO hP hn hm [(0,.k 0),(1,.k 1)] [(2,.ptr 0 0 0),(3,.ptr 1 0 0)] [0,2,3] [(0,some (.box 52 [iV .i64 0,.none0])),(1,some (.box 52 [iV .i64 0,.none0]))] [0,1] ?_
 refine AWp.seq ?_
 refine sR hP hn hm [(1,.any (iV .i64 (a0.length:Int)))] [(6,.im (.row (a0.map Zc))),(7,iV .i64 (a0.length:Int)),(8,iV .i64 0)] [2,3,6,7,8] [] [0,1] [((a0.map Zc).length:Int)=(a0.length:Int)] ⟨by rw[Zv],trivial⟩ ?_
 refine AWp.block ?_
 obtain⟨o1792,e1793,H⟩:=Z4 H
 refine AWp.loop (LWp.conv (inv:=[(0,7),(1,9)]) (vk:=[]) (e0:=[8,10]) (t:=⟨[(2,.ptr 7 0 0),(3,.ptr 9 0 0),(6,.im (.row (a0.map Zc))),(7,iV .i64 (a0.length:Int)),(8,iV .i64 0)],[(7,some (.box 52 [iV .i64 0,.own 8])),(8,some (.row 2 86 ([].map Z0a))),(9,some (.box 52 [iV .i64 0,.own 10])),(10,some (.row 2 86 ([].map Z0a)))],0⟩) (by kernel_rfl) ?_)
 refine LWp.mono (Q:=fun e s=>(match (generalizing:=false) o1792 with | (x1788,x1789,x1790,x1791)=>e = .exit 0∧s=⟨[(2,.ptr 16 0 0),(3,.ptr 18 0 0)],[(16,some (.box 52 [iV .i64 x1788,.own 17])),(17,some (.row 2 86 (x1789.map Z0a))),(18,some (.box 52 [iV .i64 x1790,.own 19])),(19,some (.row 2 86 (x1791.map Z0a)))],0⟩)) (LWp.cv (Z07 (fun body hbody => ?_))) ?_
 ·refine             Z0h.l0.partial_correctness a0 (motive:=fun x1760 x1761 x1762 x1763 x1764 o1792=>LWp Γ body (fun e s=>∃ t,Cv Γ s t∧(match (generalizing:=false) o1792 with | (x1788,x1789,x1790,x1791)=>e = .exit 0∧t=⟨[(2,.ptr 16 0 0),(3,.ptr 18 0 0)],[(16,some (.box 52 [iV .i64 x1788,.own 17])),(17,some (.row 2 86 (x1789.map Z0a  ))),(18,some (.box 52 [iV .i64 x1790,.own 19])),(19,some (.row 2 86 (x1791.map Z0a  )))],0⟩)) ⟨[(2,.ptr 7 0 0),(3,.ptr 9 0 0),(6,.im (.row (a0.map Zc     ))),(7,iV .i64 (a0.length:Int)),(8,iV .i64 x1764)],[(7,some (.box 52 [iV .i64 x1760,.own 8])),(8,some (.row 2 86 (x1761.map Z0a  ))),(9,some (.box 52 [iV .i64 x1762,.own 10])),(10,some (.row 2 86 (x1763.map Z0a  )))],0⟩) ?_ _ _ _ _ _ _ e1793
  clear H e1793 o1792;intro self ih x1760 x1761 x1762 x1763 x1764 o1792 H
  subst hbody
  refine LWp.round ?_
  refine sO hP hn hm [] [(9,bV (decide (x1764<(a0.length:Int))))] [2,3,6,7,8,9] [] [7,8,9,10] ?_
  refine AWp.seq ?_
  refine AWp.cond (decide (x1764<(a0.length:Int))) (by kernel_rfl) (fun c1765 => ?_) (fun c1765 => ?_)
  ·replace H:=iT c1765 H
   refine AWp.skip ?_
   refine AWp.seq ?_
   refine AWp.block ?_
   obtain⟨b1769,p1770,q1771,H⟩:=Z0q H
   refine sR hP hn hm [(0,.c (Zc b1769)),(2,.k 11)] [(5,.ptr 11 0 0)] [2,3,5,6,7,8] [(11,some (.box 38 [iV .i64 b1769.f0,iV .i64 b1769.f1.f0,iV .i64 b1769.f1.f1,iV .i64 b1769.f1.f2,iV .u64 b1769.f1.f3,iV .u64 b1769.f1.f4,iV .i64 b1769.f1.f5,.im (.row (b1769.f1.f6.map Z0)),.im (.row (b1769.f1.f7.map Z0))]))] [7,8,9,10,11] [_,_] ⟨p1770,Zu Zc q1771,trivial⟩ ?_
   obtain⟨t1776,e1777,H⟩:=Z4 H
   obtain⟨t1778,e1779,H⟩:=Z4 H
   refine sR hP hn hm [(4,.call [] [(0,12)] [] [12] 0 (.agg [iV .i64 ((t1776).f0),.own 0]) [(0,some (.row 2 86 (((t1776).f1).map Z0a)))]),(5,.more (Z4p [] [(0,13)] [8,12] [13] 0 (.agg [iV .i64 ((t1778).f0),.own 0]) [(0,some (.row 2 86 (((t1778).f1).map Z0a)))]))] [] [2,3,5,6,7,8] [(7,some (.box 52 [iV .i64 ((t1778).f0),.own 13])),(13,some (.row 2 86 (((t1778).f1).map Z0a)))] [7,9,10,11,13] [_,_,_,_,∀ c∈((t1778).f1).map Z0a,∀ x∈c,∃ v,x=Im.sc v] ⟨Try.call40,Z1f.ok b1769.f1.f6 t1776 e1777,Try.call39,Z0x.ok (⟨x1760,x1761⟩:Z7) (t1776) t1778 e1779,by exact Z4y _ _ (fun _=>by simp),trivial⟩ ?_
   obtain⟨t1784,e1785,H⟩:=Z4 H
   obtain⟨t1786,e1787,H⟩:=Z4 H
   refine rG hP hn hm [(4,.call [] [(0,14)] [] [14] 0 (.agg [iV .i64 ((t1784).f0),.own 0]) [(0,some (.row 2 86 (((t1784).f1).map Z0a)))]),(5,.more (Z4p [] [(0,15)] [10,14] [15] 0 (.agg [iV .i64 ((t1786).f0),.own 0]) [(0,some (.row 2 86 (((t1786).f1).map Z0a)))]))] [] [2,3,6,7,8] [(9,some (.box 52 [iV .i64 ((t1786).f0),.own 15])),(15,some (.row 2 86 (((t1786).f1).map Z0a)))] [7,9,13,15] [_,_,_,_,∀ c∈((t1786).f1).map Z0a,∀ x∈c,∃ v,x=Im.sc v] ⟨Try.call40,Z1f.ok b1769.f1.f7 t1784 e1785,Try.call39,Z0x.ok (⟨x1762,x1763⟩:Z7) (t1784) t1786 e1787,by exact Z4y _ _ (fun _=>by simp),trivial⟩ ?_
   refine rO hP hn hm [] [(8,iV .i64 (i64.wrap (x1764+(1:Int))))] [2,3,6,7,8] [] [7,9,13,15] ?_
   exact LWp.conv [(7,7),(9,9),(13,8),(15,10)] [] [] (by kernel_rfl) (ih _ _ _ _ _ _ H)
  ·replace H:=iF c1765 H
   refine AWp.exit ?_
   obtain rfl:=sj H
   exact lf [(7,16),(8,17),(9,18),(10,19)] [] [] (by kernel_rfl) ⟨rfl,rfl⟩
 ·obtain⟨x1788,x1789,x1790,x1791⟩:=o1792
  rintro e s ⟨rfl,rfl⟩
  refine sO hP hn hm [] [] [2,3] [] [16,17,18,19] ?_
  refine AWp.conv (inv:=[(16,2),(17,0),(18,3),(19,1)]) (vk:=[]) (e0:=[]) (t:=⟨[(2,.ptr 2 0 0),(3,.ptr 3 0 0)],[(0,some (.row 2 86 ((((⟨x1788,x1789⟩:Z7)).f1).map Z0a))),(1,some (.row 2 86 ((((⟨x1790,x1791⟩:Z7)).f1).map Z0a))),(2,some (.box 52 [iV .i64 (((⟨x1788,x1789⟩:Z7)).f0),.own 0])),(3,some (.box 52 [iV .i64 (((⟨x1790,x1791⟩:Z7)).f0),.own 1]))],0⟩) (by kernel_rfl) ?_
  refine AWp.ret ?_
  obtain rfl:=sj H
  exact rl (.inl rfl) rfl (by kernel_rfl) (by kernel_rfl)
def Z21.f (a0:List Zh) (a1:Zh):Option (Bool):=if((a0.length:Int)==(0:Int))=true then(some true) else((at? a0 (i64.wrap ((a0.length:Int)-(1:Int))))>>=fun b310=>((if(decide ((a0.length:Int)≥(32:Int)))=true then(some true) else(if(decide (a1.f0≤b310.f0))=true then(some true) else((Z29.f b310.f1 a1.f1)>>=fun t326=>some (!t326)))):Option (Bool))>>=fun x328=>if x328=true then(some false) else(((if(a1.f1.f0==(0:Int))=true then((Z2l.f b310.f1 a1.f1)>>=fun t1467=>some t1467) else(some false)):Option (Bool))>>=fun x1469=>if x1469=true then(some false) else((Z0t.f a0)>>=fun t1796=>(chk ((t1796.length+[a1].length)*104≤140737488355328))>>=fun _=>(Z0h.f (t1796++[a1]))>>=fun t1799=>(((Zl.f (t1799.1))>>=fun t1806=>if(decide ((t1806.length:Int)≤(512:Int)))=true then((Zl.f (t1799.2))>>=fun t1809=>some (decide ((t1809.length:Int)≤(512:Int)))) else(some false)):Option (Bool))>>=fun x1811=>some x1811)))
theorem Z21.ok (a0:List Zh) (a1:Zh) (r:Bool) (H:Z21.f a0 a1=some r):Pv.Fn Try.prog 12 [.im (.row (a0.map Zc)),.agg [iV .i64 a1.f0,iV .i64 a1.f1.f0,iV .i64 a1.f1.f1,iV .i64 a1.f1.f2,iV .u64 a1.f1.f3,iV .u64 a1.f1.f4,iV .i64 a1.f1.f5,.im (.row (a1.f1.f6.map Z0)),.im (.row (a1.f1.f7.map Z0))]] [] 0 (fun x o=>x=bV r∧o=[]):=by
 unfold Z21.f at H
 refine Fn.bodyK [] Try.func12 rfl rfl (fun Γ hP hn => ?_)
 have hm:Try.prog.follows .mixedOrders=true:=by kernel_rfl
 replace hn:Γ.n=65:=hn
 refine sO hP hn hm [(0,.k 0)] [(3,.ptr 0 0 0)] [0,3] [(0,some (.box 38 [iV .i64 a1.f0,iV .i64 a1.f1.f0,iV .i64 a1.f1.f1,iV .i64 a1.f1.f2,iV .u64 a1.f1.f3,iV .u64 a1.f1.f4,iV .i64 a1.f1.f5,.im (.row (a1.f1.f6.map Z0)),.im (.row (a1.f1.f7.map Z0))]))] [0] ?_
 refine AWp.seq ?_
 refine sR hP hn hm [(1,.any (iV .i64 (a0.length:Int)))] [(10,bV ((a0.length:Int)==(0:Int)))] [0,3,10] [] [0] [((a0.map Zc).length:Int)=(a0.length:Int)] ⟨by rw[Zv],trivial⟩ ?_
 refine AWp.cond ((a0.length:Int)==(0:Int)) (by kernel_rfl) (fun c306 => ?_) (fun c306 => ?_)
 ·replace H:=iT c306 H
  refine sO hP hn hm [] [(4,bV true)] [4] [] [] ?_
  refine AWp.conv (inv:=[]) (vk:=[]) (e0:=[]) (t:=⟨[(4,bV true)],[],0⟩) (by kernel_rfl) ?_
  refine AWp.ret ?_
  obtain rfl:=sj H
  exact rl (.inl rfl) rfl (by kernel_rfl) (by kernel_rfl)
 ·replace H:=iF c306 H
  refine AWp.skip ?_
  obtain⟨b310,p311,q312,H⟩:=Z0q H
  refine sR hP hn hm [(2,.any (iV .i64 (a0.length:Int))),(4,.c (Zc b310)),(6,.k 1)] [(5,.ptr 1 0 0)] [0,3,5] [(1,some (.box 38 [iV .i64 b310.f0,iV .i64 b310.f1.f0,iV .i64 b310.f1.f1,iV .i64 b310.f1.f2,iV .u64 b310.f1.f3,iV .u64 b310.f1.f4,iV .i64 b310.f1.f5,.im (.row (b310.f1.f6.map Z0)),.im (.row (b310.f1.f7.map Z0))]))] [0,1] [((a0.map Zc).length:Int)=(a0.length:Int),_,_] ⟨by rw[Zv],p311,Zu Zc q312,trivial⟩ ?_
  refine AWp.seq ?_
  refine AWp.seq ?_
  obtain⟨o1812,e1813,H⟩:=Z4 H
  refine AWp.mono (Q:=fun e s=>(match (generalizing:=false) o1812 with | x328=>e = .normal∧s=⟨[(0,.im (.row (a0.map Zc))),(3,.ptr 2 0 0),(5,.ptr 3 0 0),(34,bV x328)],[(2,some (.box 38 [iV .i64 a1.f0,iV .i64 a1.f1.f0,iV .i64 a1.f1.f1,iV .i64 a1.f1.f2,iV .u64 a1.f1.f3,iV .u64 a1.f1.f4,iV .i64 a1.f1.f5,.im (.row (a1.f1.f6.map Z0)),.im (.row (a1.f1.f7.map Z0))])),(3,some (.box 38 [iV .i64 b310.f0,iV .i64 b310.f1.f0,iV .i64 b310.f1.f1,iV .i64 b310.f1.f2,iV .u64 b310.f1.f3,iV .u64 b310.f1.f4,iV .i64 b310.f1.f5,.im (.row (b310.f1.f6.map Z0)),.im (.row (b310.f1.f7.map Z0))]))],0⟩)) (AWp.cv ?_) ?_
  ·replace H:=e1813;clear e1813
   rcases Bool.eq_false_or_eq_true (decide ((a0.length:Int)≥(32:Int))) with c324 | c324
   ·replace H:=iT c324 H
    refine rG hP hn hm [(1,.any (iV .i64 (a0.length:Int))),(3,.b true)] [(34,bV true)] [0,3,5,34] [] [0,1] [((a0.map Zc).length:Int)=(a0.length:Int),_] ⟨by rw[Zv],c324,trivial⟩ ?_
    obtain rfl:=sj H
    exact lf [(0,2),(1,3)] [] [] (by kernel_rfl) ⟨rfl,rfl⟩
   ·replace H:=iF c324 H
    rcases Bool.eq_false_or_eq_true (decide (a1.f0≤b310.f0)) with c325 | c325
    ·replace H:=iT c325 H
     refine rG hP hn hm [(1,.any (iV .i64 (a0.length:Int))),(3,.b false),(10,.b true)] [(34,bV true)] [0,3,5,34] [] [0,1] [((a0.map Zc).length:Int)=(a0.length:Int),_,_] ⟨by rw[Zv],c324,c325,trivial⟩ ?_
     obtain rfl:=sj H
     exact lf [(0,2),(1,3)] [] [] (by kernel_rfl) ⟨rfl,rfl⟩
    ·replace H:=iF c325 H
     obtain⟨t326,e327,H⟩:=Z4 H
     refine rG hP hn hm [(1,.any (iV .i64 (a0.length:Int))),(3,.b false),(10,.b false),(15,.call [] [] [] [] 0 (bV t326) [])] [(34,bV (!t326))] [0,3,5,34] [] [0,1] [((a0.map Zc).length:Int)=(a0.length:Int),_,_,_,_] ⟨by rw[Zv],c324,c325,Try.call35,Z29.ok b310.f1 a1.f1 t326 e327,trivial⟩ ?_
     obtain rfl:=sj H
     exact lf [(0,2),(1,3)] [] [] (by kernel_rfl) ⟨rfl,rfl⟩
  ·obtain⟨x328,rfl⟩:∃ z,z=o1812:=⟨_,rfl⟩
   rintro e s ⟨rfl,rfl⟩
   refine AWp.cond x328 (by kernel_rfl) (fun c329 => ?_) (fun c329 => ?_)
   ·replace H:=iT c329 H
    refine sO hP hn hm [] [(4,bV false)] [4] [] [] ?_
    refine AWp.conv (inv:=[]) (vk:=[]) (e0:=[]) (t:=⟨[(4,bV false)],[],0⟩) (by kernel_rfl) ?_
    refine AWp.ret ?_
    obtain rfl:=sj H
    exact rl (.inl rfl) rfl (by kernel_rfl) (by kernel_rfl)
   ·replace H:=iF c329 H
    refine AWp.skip ?_
    refine AWp.seq ?_
    refine AWp.seq ?_
    obtain⟨o1814,e1815,H⟩:=Z4 H
    refine AWp.mono (Q:=fun e s=>(match (generalizing:=false) o1814 with | x1469=>e = .normal∧s=⟨[(0,.im (.row (a0.map Zc))),(3,.ptr 4 0 0),(45,bV x1469)],[(4,some (.box 38 [iV .i64 a1.f0,iV .i64 a1.f1.f0,iV .i64 a1.f1.f1,iV .i64 a1.f1.f2,iV .u64 a1.f1.f3,iV .u64 a1.f1.f4,iV .i64 a1.f1.f5,.im (.row (a1.f1.f6.map Z0)),.im (.row (a1.f1.f7.map Z0))]))],0⟩)) (AWp.cv ?_) ?_
    ·replace H:=e1815;clear e1815
     rcases Bool.eq_false_or_eq_true (a1.f1.f0==(0:Int)) with c1466 | c1466
     ·replace H:=iT c1466 H
      obtain⟨t1467,e1468,H⟩:=Z4 H
      refine rG hP hn hm [(4,.b true),(9,.call [] [] [] [] 0 (bV t1467) [])] [(45,bV t1467)] [0,3,45] [] [2] [_,_,_] ⟨c1466,Try.call36,Z2l.ok b310.f1 a1.f1 t1467 e1468,trivial⟩ ?_
      obtain rfl:=sj H
      exact lf [(2,4)] [] [] (by kernel_rfl) ⟨rfl,rfl⟩
     ·replace H:=iF c1466 H
      refine rG hP hn hm [(4,.b false)] [(45,bV false)] [0,3,45] [] [2] [_] ⟨c1466,trivial⟩ ?_
      obtain rfl:=sj H
      exact lf [(2,4)] [] [] (by kernel_rfl) ⟨rfl,rfl⟩
    ·obtain⟨x1469,rfl⟩:∃ z,z=o1814:=⟨_,rfl⟩
     rintro e s ⟨rfl,rfl⟩
     refine AWp.cond x1469 (by kernel_rfl) (fun c1470 => ?_) (fun c1470 => ?_)
     ·replace H:=iT c1470 H
      refine sO hP hn hm [] [(4,bV false)] [4] [] [] ?_
      refine AWp.conv (inv:=[]) (vk:=[]) (e0:=[]) (t:=⟨[(4,bV false)],[],0⟩) (by kernel_rfl) ?_
      refine AWp.ret ?_
      obtain rfl:=sj H
      exact rl (.inl rfl) rfl (by kernel_rfl) (by kernel_rfl)
     ·replace H:=iF c1470 H
      refine AWp.skip ?_
      obtain⟨t1796,e1797,H⟩:=Z4 H
      obtain⟨c1798,H⟩:=Z17 H
      obtain⟨t1799,e1800,H⟩:=Z4 H
      refine sR hP hn hm [(1,.call [] [(0,5)] [] [5] 0 (.own 0) [(0,some (.row 9 38 (t1796.map Zc)))]),(3,.app 6 ([a1].map Zc)),(4,.app 7 ((t1796++[a1]).map Zc)),(5,.call [] [(0,8),(1,9)] [7] [8,9] 0 (.tup [.agg [iV .i64 ((t1799.1).f0),.own 0],.agg [iV .i64 ((t1799.2).f0),.own 1]]) [(0,some (.row 2 86 (((t1799.1).f1).map Z0a))),(1,some (.row 2 86 (((t1799.2).f1).map Z0a)))]),(9,.k 10),(10,.k 11)] [(6,.ptr 10 0 0),(7,.ptr 11 0 0)] [6,7] [(8,some (.row 2 86 (((t1799.1).f1).map Z0a))),(9,some (.row 2 86 (((t1799.2).f1).map Z0a))),(10,some (.box 52 [iV .i64 ((t1799.1).f0),.own 8])),(11,some (.box 52 [iV .i64 ((t1799.2).f0),.own 9]))] [8,9,10,11] [_,_,[a1].map Zc=[[iI .i64 a1.f0,iI .i64 a1.f1.f0,iI .i64 a1.f1.f1,iI .i64 a1.f1.f2,iI .u64 a1.f1.f3,iI .u64 a1.f1.f4,iI .i64 a1.f1.f5,.row (a1.f1.f6.map Z0),.row (a1.f1.f7.map Z0)]],(t1796++[a1]).map Zc=(t1796.map Zc)++([a1].map Zc),∀ c∈([a1].map Zc),c.length=9,∀ c∈([a1].map Zc),Z12 (c.map .im)=true,((t1796.map Zc).length+([a1].map Zc).length)*104≤140737488355328,_,_] ⟨Try.call37,Z0t.ok a0 t1796 e1797,by exact rfl,by simp,by exact Z13 _ _ _ (fun _=>rfl),by exact Z16 _ _ (fun _=>rfl),by simpa using c1798,Try.call15,Z0h.ok (t1796++[a1]) t1799 e1800,trivial⟩ ?_
      refine AWp.seq ?_
      obtain⟨o1816,e1817,H⟩:=Z4 H
      refine AWp.mono (Q:=fun e s=>(match (generalizing:=false) o1816 with | x1811=>e = .normal∧s=⟨[(4,bV x1811)],[],0⟩)) (AWp.cv ?_) ?_
      ·replace H:=e1817;clear e1817
       obtain⟨t1806,e1807,H⟩:=Z4 H
       rcases Bool.eq_false_or_eq_true (decide ((t1806.length:Int)≤(512:Int))) with c1808 | c1808
       ·replace H:=iT c1808 H
        obtain⟨t1809,e1810,H⟩:=Z4 H
        refine rG hP hn hm [(1,.more (Z4p [] [(0,12)] [8] [12] 0 (.own 0) [(0,some (.row 1 3 (t1806.map (Z1 .i64))))])),(2,.any (iV .i64 (t1806.length:Int))),(4,.b true),(6,.more (Z4p [] [(0,13)] [9] [13] 0 (.own 0) [(0,some (.row 1 3 (t1809.map (Z1 .i64))))])),(7,.any (iV .i64 (t1809.length:Int)))] [(4,bV (decide ((t1809.length:Int)≤(512:Int))))] [4] [] [] [_,_,∀ c∈t1806.map (Z1 .i64),∀ x∈c,∃ v,x=Im.sc v,((t1806.map (Z1 .i64)).length:Int)=(t1806.length:Int),_,_,_,∀ c∈t1809.map (Z1 .i64),∀ x∈c,∃ v,x=Im.sc v,((t1809.map (Z1 .i64)).length:Int)=(t1809.length:Int)] ⟨Try.call38,Zl.ok (t1799.1) t1806 e1807,by exact Z4y _ _ (fun _=>by simp),by rw[Zv],c1808,Try.call38,Zl.ok (t1799.2) t1809 e1810,by exact Z4y _ _ (fun _=>by simp),by rw[Zv],trivial⟩ ?_
        obtain rfl:=sj H
        exact lf [] [] [] (by kernel_rfl) ⟨rfl,rfl⟩
       ·replace H:=iF c1808 H
        refine rG hP hn hm [(1,.more (Z4p [] [(0,12)] [8] [12] 0 (.own 0) [(0,some (.row 1 3 (t1806.map (Z1 .i64))))])),(2,.any (iV .i64 (t1806.length:Int))),(4,.b false)] [(4,bV false)] [4] [] [] [_,_,∀ c∈t1806.map (Z1 .i64),∀ x∈c,∃ v,x=Im.sc v,((t1806.map (Z1 .i64)).length:Int)=(t1806.length:Int),_] ⟨Try.call38,Zl.ok (t1799.1) t1806 e1807,by exact Z4y _ _ (fun _=>by simp),by rw[Zv],c1808,trivial⟩ ?_
        obtain rfl:=sj H
        exact lf [] [] [] (by kernel_rfl) ⟨rfl,rfl⟩
      ·obtain⟨x1811,rfl⟩:∃ z,z=o1816:=⟨_,rfl⟩
       rintro e s ⟨rfl,rfl⟩
       refine AWp.conv (inv:=[]) (vk:=[]) (e0:=[]) (t:=⟨[(4,bV x1811)],[],0⟩) (by kernel_rfl) ?_
       refine AWp.ret ?_
       obtain rfl:=sj H
       exact rl (.inl rfl) rfl (by kernel_rfl) (by kernel_rfl)
def Z0e.l0 (a0:List Zh) (x1824:Int):Option (Int ⊕ Unit):=if(decide (x1824<(a0.length:Int)))=true then((at? a0 x1824)>>=fun b1829=>((if(decide (b1829.f0<(0:Int)))=true then(some true) else(some (decide (b1829.f0>(1099511627776:Int))))):Option (Bool))>>=fun x1834=>if x1834=true then(some (.inl 4)) else((Z0c.f b1829.f1)>>=fun t1838=>if(t1838 != (0:Int))=true then(some (.inl t1838)) else((chk (0≤(0:Int)∧(0:Int)≤x1824∧x1824≤(a0.length:Int)))>>=fun _=>(Z21.f ((a0.drop (Int.toNat ((0:Int)))).take ((Int.toNat (x1824))-(Int.toNat ((0:Int))))) b1829)>>=fun t1845=>if(!t1845)=true then(some (.inl 6)) else(Z0e.l0 a0 (i64.wrap (x1824+(1:Int))))))) else(some (.inr ()))
partial_fixpoint
def Z0e.f (a0:List Zh):Option (Int):=if((a0.length:Int)==(0:Int))=true then(some 30) else((Z0e.l0 a0 0)>>=fun oo=>match oo with | .inl rr=>(some rr) | .inr _=>(some 0))
theorem Z0e.ok (a0:List Zh) (r:Int) (H:Z0e.f a0=some r):Pv.Fn Try.prog 10 [.im (.row (a0.map Zc))] [] 0 (fun x o=>x=iV .i64 r∧o=[]):=by
 unfold Z0e.f at H
 refine Fn.bodyK [] Try.func10 rfl rfl (fun Γ hP hn => ?_)
 have hm:Try.prog.follows .mixedOrders=true:=by kernel_rfl
 replace hn:Γ.n=37:=hn
 refine sO hP hn hm [] [] [0] [] [] ?_
 refine AWp.seq ?_
 refine sR hP hn hm [(1,.any (iV .i64 (a0.length:Int)))] [(8,bV ((a0.length:Int)==(0:Int)))] [0,8] [] [] [((a0.map Zc).length:Int)=(a0.length:Int)] ⟨by rw[Zv],trivial⟩ ?_
 refine AWp.cond ((a0.length:Int)==(0:Int)) (by kernel_rfl) (fun c36 => ?_) (fun c36 => ?_)
 ·replace H:=iT c36 H
  refine sO hP hn hm [] [(2,iV .i64 30)] [2] [] [] ?_
  refine AWp.conv (inv:=[]) (vk:=[]) (e0:=[]) (t:=⟨[(2,iV .i64 30)],[],0⟩) (by kernel_rfl) ?_
  refine AWp.ret ?_
  obtain rfl:=sj H
  exact rl (.inl rfl) rfl (by kernel_rfl) (by kernel_rfl)
 ·replace H:=iF c36 H
  refine AWp.skip ?_
  refine AWp.seq ?_
  refine sR hP hn hm [(1,.any (iV .i64 (a0.length:Int)))] [(9,.im (.row (a0.map Zc))),(10,iV .i64 (a0.length:Int)),(11,iV .i64 0)] [0,9,10,11] [] [] [((a0.map Zc).length:Int)=(a0.length:Int)] ⟨by rw[Zv],trivial⟩ ?_
  refine AWp.block ?_
  obtain⟨o1848,e1849,H⟩:=Z4 H
  refine AWp.loop (LWp.conv (inv:=[]) (vk:=[]) (e0:=[]) (t:=⟨[(0,.im (.row (a0.map Zc))),(9,.im (.row (a0.map Zc))),(10,iV .i64 (a0.length:Int)),(11,iV .i64 0)],[],0⟩) (by kernel_rfl) ?_)
  refine LWp.mono (Q:=fun e s=>(match (generalizing:=false) o1848 with | .inl rr=>e = .ret∧s.floor=0∧Z2f Try.prog Try.f10 s=some (iV .i64 rr)∧([]:List (Nat×Option MObj))=[] | .inr _=>e = .exit 0∧s=⟨[],[],0⟩)) (LWp.cv (Z07 (fun body hbody => ?_))) ?_
  ·refine           Z0e.l0.partial_correctness a0 (motive:=fun x1824 o1848=>LWp Γ body (fun e s=>∃ t,Cv Γ s t∧(match (generalizing:=false) o1848 with | .inl rr=>e = .ret∧t.floor=0∧Z2f   Try.prog Try.f10 t=some (iV .i64 rr)∧([]:List (Nat×Option MObj))=[] | .inr _=>e = .exit 0∧t=⟨[],[],0⟩)) ⟨[(0,.im (.row (a0.map Zc     ))),(9,.im (.row (a0.map Zc     ))),(10,iV .i64 (a0.length:Int)),(11,iV .i64 x1824)],[],0⟩) ?_ _ _ e1849
   clear H e1849 o1848;intro self ih x1824 o1848 H
   subst hbody
   refine LWp.round ?_
   refine sO hP hn hm [] [(12,bV (decide (x1824<(a0.length:Int))))] [0,9,10,11,12] [] [] ?_
   refine AWp.seq ?_
   refine AWp.cond (decide (x1824<(a0.length:Int))) (by kernel_rfl) (fun c1825 => ?_) (fun c1825 => ?_)
   ·replace H:=iT c1825 H
    refine AWp.skip ?_
    refine AWp.seq ?_
    refine AWp.block ?_
    obtain⟨b1829,p1830,q1831,H⟩:=Z0q H
    refine sR hP hn hm [(1,.c (Zc b1829)),(3,.k 2)] [(3,iV .i64 x1824),(4,.ptr 2 0 0)] [0,3,4,9,10,11] [(2,some (.box 38 [iV .i64 b1829.f0,iV .i64 b1829.f1.f0,iV .i64 b1829.f1.f1,iV .i64 b1829.f1.f2,iV .u64 b1829.f1.f3,iV .u64 b1829.f1.f4,iV .i64 b1829.f1.f5,.im (.row (b1829.f1.f6.map Z0)),.im (.row (b1829.f1.f7.map Z0))]))] [2] [_,_] ⟨p1830,Zu Zc q1831,trivial⟩ ?_
    refine AWp.seq ?_
    refine AWp.seq ?_
    obtain⟨o1850,e1851,H⟩:=Z4 H
    refine AWp.mono (Q:=fun e s=>(match (generalizing:=false) o1850 with | x1834=>e = .normal∧s=⟨[(0,.im (.row (a0.map Zc))),(3,iV .i64 x1824),(4,.ptr 3 0 0),(9,.im (.row (a0.map Zc))),(10,iV .i64 (a0.length:Int)),(11,iV .i64 x1824),(23,bV x1834)],[(3,some (.box 38 [iV .i64 b1829.f0,iV .i64 b1829.f1.f0,iV .i64 b1829.f1.f1,iV .i64 b1829.f1.f2,iV .u64 b1829.f1.f3,iV .u64 b1829.f1.f4,iV .i64 b1829.f1.f5,.im (.row (b1829.f1.f6.map Z0)),.im (.row (b1829.f1.f7.map Z0))]))],0⟩)) (AWp.cv ?_) ?_
    ·replace H:=e1851;clear e1851
     rcases Bool.eq_false_or_eq_true (decide (b1829.f0<(0:Int))) with c1833 | c1833
     ·replace H:=iT c1833 H
      refine rG hP hn hm [(3,.b true)] [(23,bV true)] [0,3,4,9,10,11,23] [] [2] [_] ⟨c1833,trivial⟩ ?_
      obtain rfl:=sj H
      exact lf [(2,3)] [] [] (by kernel_rfl) ⟨rfl,rfl⟩
     ·replace H:=iF c1833 H
      refine rG hP hn hm [(3,.b false)] [(20,.ptr 2 0 0),(21,iV .i64 b1829.f0),(22,bV (decide (b1829.f0>(1099511627776:Int)))),(23,bV (decide (b1829.f0>(1099511627776:Int))))] [0,3,4,9,10,11,20,21,22,23] [] [2] [_] ⟨c1833,trivial⟩ ?_
      obtain rfl:=sj H
      exact lf [(2,3)] [] [] (by kernel_rfl) ⟨rfl,rfl⟩
    ·obtain⟨x1834,rfl⟩:∃ z,z=o1850:=⟨_,rfl⟩
     rintro e s ⟨rfl,rfl⟩
     refine AWp.cond x1834 (by kernel_rfl) (fun c1835 => ?_) (fun c1835 => ?_)
     ·replace H:=iT c1835 H
      refine sO hP hn hm [] [(2,iV .i64 4)] [2] [] [] ?_
      refine AWp.conv (inv:=[]) (vk:=[]) (e0:=[]) (t:=⟨[(2,iV .i64 4)],[],0⟩) (by kernel_rfl) ?_
      refine AWp.ret ?_
      obtain rfl:=sj H
      exact rl rfl rfl (by kernel_rfl) (by kernel_rfl)
     ·replace H:=iF c1835 H
      refine AWp.skip ?_
      refine AWp.seq ?_
      obtain⟨t1838,e1839,H⟩:=Z4 H
      refine sR hP hn hm [(2,.call [] [] [] [] 0 (iV .i64 t1838) [])] [(5,iV .i64 t1838)] [0,3,4,5,9,10,11] [] [3] [_,_] ⟨Try.call11,Z0c.ok b1829.f1 t1838 e1839,trivial⟩ ?_
      refine sO hP hn hm [] [(28,bV (t1838 != (0:Int)))] [0,3,4,5,9,10,11,28] [] [3] ?_
      refine AWp.cond (t1838 != (0:Int)) (by kernel_rfl) (fun c1840 => ?_) (fun c1840 => ?_)
      ·replace H:=iT c1840 H
       refine sO hP hn hm [] [(2,iV .i64 t1838)] [2] [] [] ?_
       refine AWp.conv (inv:=[]) (vk:=[]) (e0:=[]) (t:=⟨[(2,iV .i64 t1838)],[],0⟩) (by kernel_rfl) ?_
       refine AWp.ret ?_
       obtain rfl:=sj H
       exact rl rfl rfl (by kernel_rfl) (by kernel_rfl)
      ·replace H:=iF c1840 H
       refine AWp.skip ?_
       obtain⟨c1844,H⟩:=Z17 H
       obtain⟨t1845,e1846,H⟩:=Z4 H
       refine sR hP hn hm [(2,.rows (((a0.drop (Int.toNat ((0:Int)))).take ((Int.toNat (x1824))-(Int.toNat ((0:Int))))).map Zc)),(4,.call [] [] [] [] 0 (bV t1845) [])] [(35,bV (!t1845))] [0,9,10,11,35] [] [] [0≤(0:Int),(0:Int)≤x1824,x1824≤((a0.map Zc).length:Int),∀ c∈a0.map Zc,c.length=9,((a0.drop (Int.toNat ((0:Int)))).take ((Int.toNat (x1824))-(Int.toNat ((0:Int))))).map Zc=((a0.map Zc).drop (Int.toNat ((0:Int)))).take ((Int.toNat (x1824))-(Int.toNat ((0:Int)))),_,_] ⟨by exact c1844.1,by simpa using c1844.2.1,by simpa using c1844.2.2,by exact Z13 _ _ _ (fun _=>rfl),by simp[cut1],Try.call12,Z21.ok ((a0.drop (Int.toNat ((0:Int)))).take ((Int.toNat (x1824))-(Int.toNat ((0:Int))))) b1829 t1845 e1846,trivial⟩ ?_
       refine AWp.cond (!t1845) (by kernel_rfl) (fun c1847 => ?_) (fun c1847 => ?_)
       ·replace H:=iT c1847 H
        refine sO hP hn hm [] [(2,iV .i64 6)] [2] [] [] ?_
        refine AWp.conv (inv:=[]) (vk:=[]) (e0:=[]) (t:=⟨[(2,iV .i64 6)],[],0⟩) (by kernel_rfl) ?_
        refine AWp.ret ?_
        obtain rfl:=sj H
        exact rl rfl rfl (by kernel_rfl) (by kernel_rfl)
       ·replace H:=iF c1847 H
        refine AWp.skip ?_
        refine rO hP hn hm [] [(11,iV .i64 (i64.wrap (x1824+(1:Int))))] [0,9,10,11] [] [] ?_
        exact LWp.conv [] [] [] (by kernel_rfl) (ih _ _ H)
   ·replace H:=iF c1825 H
    refine AWp.exit ?_
    obtain rfl:=sj H
    exact lf [] [] [] (by kernel_rfl) ⟨rfl,rfl⟩
  ·rcases o1848 with rr | _
   ·skip
    rintro e s ⟨rfl,hfl,hres⟩
    obtain rfl:=sj H
    exact Exists.intro _ (And.intro (fun _ _ h=>h) (And.intro (.inl rfl) (And.intro hfl hres)))
   ·skip
    rintro e s ⟨rfl,rfl⟩
    refine sO hP hn hm [] [(2,iV .i64 0)] [2] [] [] ?_
    refine AWp.conv (inv:=[]) (vk:=[]) (e0:=[]) (t:=⟨[(2,iV .i64 0)],[],0⟩) (by kernel_rfl) ?_
    refine AWp.ret ?_
    obtain rfl:=sj H
    exact rl (.inl rfl) rfl (by kernel_rfl) (by kernel_rfl)
def Z1h.f (a0_c1:Int) (a1:Bool):Option ((List Int)×Int):=((if(a0_c1==(0:Int))=true then((chk ((([]:List Int).length+[0].length)*1≤140737488355328))>>=fun _=>some ([0],8)) else(some ([],a0_c1))):Option ((List Int)×Int))>>=fun oo=>match oo with | (x1870,x1871)=>(((if a1=true then((at? x1870 (i64.wrap ((x1870.length:Int)-(1:Int))))>>=fun b1877=>(chk (0≤(u64.wrap (x1871-(1:Int)))))>>=fun _=>some (x1870.set (Int.toNat (i64.wrap ((x1870.length:Int)-(1:Int)))) (u8.wrap (((BitVec.toNat (BitVec.ofInt 8 b1877 ||| BitVec.ofInt 8 (u8.wrap ((1:Int)*2 ^ (min (Int.toNat (u64.wrap (x1871-(1:Int)))) 8)))):Nat):Int))))) else(some x1870)):Option (List Int))>>=fun x1881=>some (x1881,u64.wrap (x1871-(1:Int))))
theorem Z1h.ok (a0_c1:Int) (a1:Bool) (r:(List Int)×Int) (H:Z1h.f a0_c1 a1=some r):Pv.Fn Try.prog 16 [.ptr 0 0 0,bV a1] [(0,some (.box 49 [.none0,iV .u64 a0_c1]))] 1 (fun x o=>x = .tup []∧o=[(0,some (.box 49 [.own 1,iV .u64 r.2])),(1,some (.row 1 5 (r.1.map (Z1 .u8))))]):=by
 unfold Z1h.f at H
 refine Fn.bodyK [0,1] Try.func16 rfl rfl (fun Γ hP hn => ?_)
 have hm:Try.prog.follows .mixedOrders=true:=by kernel_rfl
 replace hn:Γ.n=48:=hn
 refine AWp.seq ?_
 refine sO hP hn hm [] [(8,bV (a0_c1==(0:Int)))] [0,1,8] [] [0] ?_
 obtain⟨o1882,e1883,H⟩:=Z4 H
 refine AWp.mono (Q:=fun e s=>(match (generalizing:=false) o1882 with | (x1870,x1871)=>e = .normal∧s=⟨[(0,.ptr 0 0 0),(1,bV a1)],[(0,some (.box 49 [.own 3,iV .u64 x1871])),(3,some (.row 1 5 (x1870.map (Z1 .u8))))],1⟩)) (AWp.cv ?_) ?_
 ·replace H:=e1883;clear e1883
  refine AWp.cond (a0_c1==(0:Int)) (by kernel_rfl) (fun c1867 => ?_) (fun c1867 => ?_)
  ·replace H:=iT c1867 H
   obtain⟨c1869,H⟩:=Z17 H
   refine sR hP hn hm [(5,.app 1 ([0].map (Z1 .u8))),(6,.app 2 ([0].map (Z1 .u8)))] [] [0,1] [(0,some (.box 49 [.own 2,iV .u64 a0_c1])),(2,some (.row 1 5 ([0].map (Z1 .u8))))] [0,2] [[0].map (Z1 .u8)=[[iI .u8 0]],[0].map (Z1 .u8)=([]:List (List Im))++([0].map (Z1 .u8)),∀ c∈([0].map (Z1 .u8)),c.length=1,∀ c∈([0].map (Z1 .u8)),Z12 (c.map .im)=true,(([]:List (List Im)).length+([0].map (Z1 .u8)).length)*1≤140737488355328] ⟨by exact rfl,by simp,by exact Z13 _ _ _ (fun _=>rfl),by exact Z16 _ _ (fun _=>rfl),by simpa using c1869,trivial⟩ ?_
   refine rO hP hn hm [] [] [0,1] [(0,some (.box 49 [.own 2,iV .u64 8]))] [0,2] ?_
   obtain rfl:=sj H
   exact lf [(0,0),(2,3)] [] [] (by kernel_rfl) ⟨rfl,rfl⟩
  ·replace H:=iF c1867 H
   refine AWp.skip ?_
   obtain rfl:=sj H
   exact lf [(0,0)] [] [3] (by kernel_rfl) ⟨rfl,rfl⟩
 ·obtain⟨x1870,x1871⟩:=o1882
  rintro e s ⟨rfl,rfl⟩
  refine sO hP hn hm [] [] [0,1] [(0,some (.box 49 [.own 3,iV .u64 (u64.wrap (x1871-(1:Int)))]))] [0,3] ?_
  refine sO hP hn hm [] [(28,bV a1)] [0,28] [] [0,3] ?_
  obtain⟨o1884,e1885,H⟩:=Z4 H
  refine AWp.mono (Q:=fun e s=>(match (generalizing:=false) o1884 with | x1881=>e = .normal∧s=⟨[],[(0,some (.box 49 [.own 4,iV .u64 (u64.wrap (x1871-(1:Int)))])),(4,some (.row 1 5 (x1881.map (Z1 .u8))))],1⟩)) (AWp.cv ?_) ?_
  ·replace H:=e1885;clear e1885
   refine AWp.cond a1 (by kernel_rfl) (fun c1872 => ?_) (fun c1872 => ?_)
   ·replace H:=iT c1872 H
    obtain⟨b1877,p1878,q1879,H⟩:=Z0q H
    obtain⟨c1880,H⟩:=Z17 H
    refine rG hP hn hm [(8,.any (iV .i64 (x1870.length:Int))),(11,.c ((Z1 .u8) b1877)),(19,.put ((Z1 .u8) b1877) ((x1870.set (Int.toNat (i64.wrap ((x1870.length:Int)-(1:Int)))) (u8.wrap (((BitVec.toNat (BitVec.ofInt 8 b1877 ||| BitVec.ofInt 8 (u8.wrap ((1:Int)*2 ^ (min (Int.toNat (u64.wrap (x1871-(1:Int)))) 8)))):Nat):Int)))).map (Z1 .u8)))] [] [] [(3,some (.row 1 5 ((x1870.set (Int.toNat (i64.wrap ((x1870.length:Int)-(1:Int)))) (u8.wrap (((BitVec.toNat (BitVec.ofInt 8 b1877 ||| BitVec.ofInt 8 (u8.wrap ((1:Int)*2 ^ (min (Int.toNat (u64.wrap (x1871-(1:Int)))) 8)))):Nat):Int)))).map (Z1 .u8))))] [0,3] [((x1870.map (Z1 .u8)).length:Int)=(x1870.length:Int),_,_,_,_,_,_,_,(x1870.set (Int.toNat (i64.wrap ((x1870.length:Int)-(1:Int)))) (u8.wrap (((BitVec.toNat (BitVec.ofInt 8 b1877 ||| BitVec.ofInt 8 (u8.wrap ((1:Int)*2 ^ (min (Int.toNat (u64.wrap (x1871-(1:Int)))) 8)))):Nat):Int)))).map (Z1 .u8)=(x1870.map (Z1 .u8)).set (Int.toNat (i64.wrap ((x1870.length:Int)-(1:Int)))) (Z1u ((Z1 .u8) b1877) 0 [iI .u8 (u8.wrap (((BitVec.toNat (BitVec.ofInt 8 b1877 ||| BitVec.ofInt 8 (u8.wrap ((1:Int)*2 ^ (min (Int.toNat (u64.wrap (x1871-(1:Int)))) 8)))):Nat):Int)))])] ⟨by rw[Zv],p1878,Z1m (Z1 .u8) p1878 q1879,Zu (Z1 .u8) q1879,c1880,p1878,Z1m (Z1 .u8) p1878 q1879,Zu (Z1 .u8) q1879,by exact set1 _ _ _ _,trivial⟩ ?_
    obtain rfl:=sj H
    exact lf [(0,0),(3,4)] [] [] (by kernel_rfl) ⟨rfl,rfl⟩
   ·replace H:=iF c1872 H
    refine AWp.skip ?_
    obtain rfl:=sj H
    exact lf [(0,0),(3,4)] [] [] (by kernel_rfl) ⟨rfl,rfl⟩
  ·obtain⟨x1881,rfl⟩:∃ z,z=o1884:=⟨_,rfl⟩
   rintro e s ⟨rfl,rfl⟩
   obtain rfl:=sj H
   exact Exists.intro ⟨[],[(0,some (.box 49 [.own 1,iV .u64 (u64.wrap (x1871-(1:Int)))])),(1,some (.row 1 5 (x1881.map (Z1 .u8))))],1⟩ (And.intro (fun _ _ h=>h.conv (inv:=[(0,0),(4,1)]) (vk:=[]) (e0:=[]) (t:=⟨[],[(0,some (.box 49 [.own 1,iV .u64 (u64.wrap (x1871-(1:Int)))])),(1,some (.row 1 5 (x1881.map (Z1 .u8))))],1⟩) (by kernel_rfl)) (And.intro (.inr rfl) (And.intro rfl (And.intro (by kernel_rfl) (by kernel_rfl)))))
def Z08.f (a0_c0:List Int) (a0_c1:Int) (a1:Bool):Option ((List Int)×Int):=((if(a0_c1==(0:Int))=true then((chk ((a0_c0.length+[0].length)*1≤140737488355328))>>=fun _=>some (a0_c0++[0],8)) else(some (a0_c0,a0_c1))):Option ((List Int)×Int))>>=fun oo=>match oo with | (x1895,x1896)=>(((if a1=true then((at? x1895 (i64.wrap ((x1895.length:Int)-(1:Int))))>>=fun b1902=>(chk (0≤(u64.wrap (x1896-(1:Int)))))>>=fun _=>some (x1895.set (Int.toNat (i64.wrap ((x1895.length:Int)-(1:Int)))) (u8.wrap (((BitVec.toNat (BitVec.ofInt 8 b1902 ||| BitVec.ofInt 8 (u8.wrap ((1:Int)*2 ^ (min (Int.toNat (u64.wrap (x1896-(1:Int)))) 8)))):Nat):Int))))) else(some x1895)):Option (List Int))>>=fun x1906=>some (x1906,u64.wrap (x1896-(1:Int))))
theorem Z08.ok (a0_c0:List Int) (a0_c1:Int) (a1:Bool) (r:(List Int)×Int) (H:Z08.f a0_c0 a0_c1 a1=some r):Pv.Fn Try.prog 16 [.ptr 0 0 0,bV a1] [(0,some (.box 49 [.own 1,iV .u64 a0_c1])),(1,some (.row 1 5 (a0_c0.map (Z1 .u8))))] 2 (fun x o=>x = .tup []∧o=[(0,some (.box 49 [.own 2,iV .u64 r.2])),(1,none),(2,some (.row 1 5 (r.1.map (Z1 .u8))))]):=by
 unfold Z08.f at H
 refine Fn.bodyK [0,1,2] Try.func16 rfl rfl (fun Γ hP hn => ?_)
 have hm:Try.prog.follows .mixedOrders=true:=by kernel_rfl
 replace hn:Γ.n=48:=hn
 refine AWp.seq ?_
 refine sO hP hn hm [] [(8,bV (a0_c1==(0:Int)))] [0,1,8] [] [0,1] ?_
 obtain⟨o1907,e1908,H⟩:=Z4 H
 refine AWp.mono (Q:=fun e s=>(match (generalizing:=false) o1907 with | (x1895,x1896)=>e = .normal∧s=⟨[(0,.ptr 0 0 0),(1,bV a1)],[(0,some (.box 49 [.own 4,iV .u64 x1896])),(4,some (.row 1 5 (x1895.map (Z1 .u8))))],2⟩)) (AWp.cv ?_) ?_
 ·replace H:=e1908;clear e1908
  refine AWp.cond (a0_c1==(0:Int)) (by kernel_rfl) (fun c1892 => ?_) (fun c1892 => ?_)
  ·replace H:=iT c1892 H
   obtain⟨c1894,H⟩:=Z17 H
   refine sR hP hn hm [(5,.app 2 ([0].map (Z1 .u8))),(6,.app 3 ((a0_c0++[0]).map (Z1 .u8)))] [] [0,1] [(0,some (.box 49 [.own 3,iV .u64 a0_c1])),(3,some (.row 1 5 ((a0_c0++[0]).map (Z1 .u8))))] [0,3] [[0].map (Z1 .u8)=[[iI .u8 0]],(a0_c0++[0]).map (Z1 .u8)=(a0_c0.map (Z1 .u8))++([0].map (Z1 .u8)),∀ c∈([0].map (Z1 .u8)),c.length=1,∀ c∈([0].map (Z1 .u8)),Z12 (c.map .im)=true,((a0_c0.map (Z1 .u8)).length+([0].map (Z1 .u8)).length)*1≤140737488355328] ⟨by exact rfl,by simp,by exact Z13 _ _ _ (fun _=>rfl),by exact Z16 _ _ (fun _=>rfl),by simpa using c1894,trivial⟩ ?_
   refine rO hP hn hm [] [] [0,1] [(0,some (.box 49 [.own 3,iV .u64 8]))] [0,3] ?_
   obtain rfl:=sj H
   exact lf [(0,0),(3,4)] [] [] (by kernel_rfl) ⟨rfl,rfl⟩
  ·replace H:=iF c1892 H
   refine AWp.skip ?_
   obtain rfl:=sj H
   exact lf [(0,0),(1,4)] [] [] (by kernel_rfl) ⟨rfl,rfl⟩
 ·obtain⟨x1895,x1896⟩:=o1907
  rintro e s ⟨rfl,rfl⟩
  refine sO hP hn hm [] [] [0,1] [(0,some (.box 49 [.own 4,iV .u64 (u64.wrap (x1896-(1:Int)))]))] [0,4] ?_
  refine sO hP hn hm [] [(28,bV a1)] [0,28] [] [0,4] ?_
  obtain⟨o1909,e1910,H⟩:=Z4 H
  refine AWp.mono (Q:=fun e s=>(match (generalizing:=false) o1909 with | x1906=>e = .normal∧s=⟨[],[(0,some (.box 49 [.own 5,iV .u64 (u64.wrap (x1896-(1:Int)))])),(5,some (.row 1 5 (x1906.map (Z1 .u8))))],2⟩)) (AWp.cv ?_) ?_
  ·replace H:=e1910;clear e1910
   refine AWp.cond a1 (by kernel_rfl) (fun c1897 => ?_) (fun c1897 => ?_)
   ·replace H:=iT c1897 H
    obtain⟨b1902,p1903,q1904,H⟩:=Z0q H
    obtain⟨c1905,H⟩:=Z17 H
    refine rG hP hn hm [(8,.any (iV .i64 (x1895.length:Int))),(11,.c ((Z1 .u8) b1902)),(19,.put ((Z1 .u8) b1902) ((x1895.set (Int.toNat (i64.wrap ((x1895.length:Int)-(1:Int)))) (u8.wrap (((BitVec.toNat (BitVec.ofInt 8 b1902 ||| BitVec.ofInt 8 (u8.wrap ((1:Int)*2 ^ (min (Int.toNat (u64.wrap (x1896-(1:Int)))) 8)))):Nat):Int)))).map (Z1 .u8)))] [] [] [(4,some (.row 1 5 ((x1895.set (Int.toNat (i64.wrap ((x1895.length:Int)-(1:Int)))) (u8.wrap (((BitVec.toNat (BitVec.ofInt 8 b1902 ||| BitVec.ofInt 8 (u8.wrap ((1:Int)*2 ^ (min (Int.toNat (u64.wrap (x1896-(1:Int)))) 8)))):Nat):Int)))).map (Z1 .u8))))] [0,4] [((x1895.map (Z1 .u8)).length:Int)=(x1895.length:Int),_,_,_,_,_,_,_,(x1895.set (Int.toNat (i64.wrap ((x1895.length:Int)-(1:Int)))) (u8.wrap (((BitVec.toNat (BitVec.ofInt 8 b1902 ||| BitVec.ofInt 8 (u8.wrap ((1:Int)*2 ^ (min (Int.toNat (u64.wrap (x1896-(1:Int)))) 8)))):Nat):Int)))).map (Z1 .u8)=(x1895.map (Z1 .u8)).set (Int.toNat (i64.wrap ((x1895.length:Int)-(1:Int)))) (Z1u ((Z1 .u8) b1902) 0 [iI .u8 (u8.wrap (((BitVec.toNat (BitVec.ofInt 8 b1902 ||| BitVec.ofInt 8 (u8.wrap ((1:Int)*2 ^ (min (Int.toNat (u64.wrap (x1896-(1:Int)))) 8)))):Nat):Int)))])] ⟨by rw[Zv],p1903,Z1m (Z1 .u8) p1903 q1904,Zu (Z1 .u8) q1904,c1905,p1903,Z1m (Z1 .u8) p1903 q1904,Zu (Z1 .u8) q1904,by exact set1 _ _ _ _,trivial⟩ ?_
    obtain rfl:=sj H
    exact lf [(0,0),(4,5)] [] [] (by kernel_rfl) ⟨rfl,rfl⟩
   ·replace H:=iF c1897 H
    refine AWp.skip ?_
    obtain rfl:=sj H
    exact lf [(0,0),(4,5)] [] [] (by kernel_rfl) ⟨rfl,rfl⟩
  ·obtain⟨x1906,rfl⟩:∃ z,z=o1909:=⟨_,rfl⟩
   rintro e s ⟨rfl,rfl⟩
   obtain rfl:=sj H
   exact Exists.intro ⟨[],[(0,some (.box 49 [.own 2,iV .u64 (u64.wrap (x1896-(1:Int)))])),(2,some (.row 1 5 (x1906.map (Z1 .u8))))],2⟩ (And.intro (fun _ _ h=>h.conv (inv:=[(0,0),(5,2)]) (vk:=[]) (e0:=[]) (t:=⟨[],[(0,some (.box 49 [.own 2,iV .u64 (u64.wrap (x1896-(1:Int)))])),(2,some (.row 1 5 (x1906.map (Z1 .u8))))],2⟩) (by kernel_rfl)) (And.intro (.inr rfl) (And.intro rfl (And.intro (by kernel_rfl) (by kernel_rfl)))))
def Zw.l0 (a1:Int) (x1916:List Int) (x1917:Int) (x1918:Int):Option ((List Int)×Int):=if(decide (x1918≥(0:Int)))=true then((chk (0≤(u64.wrap (x1918))))>>=fun _=>(Z08.f x1916 x1917 ((u64.wrap (((BitVec.toNat (BitVec.ofInt 64 (Int.fdiv a1 (2 ^ (min (Int.toNat (u64.wrap (x1918))) 64))) &&& BitVec.ofInt 64 (1:Int)):Nat):Int)))==(1:Int)))>>=fun t1924=>Zw.l0 a1 t1924.1 t1924.2 (i64.wrap (x1918-(1:Int)))) else(some (x1916,x1917))
partial_fixpoint
def Zw.f (a0_c0:List Int) (a0_c1:Int) (a1:Int) (a2:Int):Option ((List Int)×Int):=(Zw.l0 a1 a0_c0 a0_c1 (i64.wrap ((if(if(64:Int)<a2 then(64:Int) else a2)>(0:Int) then(if(64:Int)<a2 then(64:Int) else a2) else(0:Int))-(1:Int))))>>=fun oo=>match oo with | (x1926,x1927)=>(some (x1926,x1927))
theorem Zw.ok (a0_c0:List Int) (a0_c1:Int) (a1:Int) (a2:Int) (r:(List Int)×Int) (H:Zw.f a0_c0 a0_c1 a1 a2=some r):Pv.Fn Try.prog 17 [.ptr 0 0 0,iV .u64 a1,iV .i64 a2] [(0,some (.box 49 [.own 1,iV .u64 a0_c1])),(1,some (.row 1 5 (a0_c0.map (Z1 .u8))))] 2 (fun x o=>x = .tup []∧o=[(0,some (.box 49 [.own 2,iV .u64 r.2])),(1,none),(2,some (.row 1 5 (r.1.map (Z1 .u8))))]):=by
 unfold Zw.f at H
 refine Fn.bodyK [0,1,2] Try.func17 rfl rfl (fun Γ hP hn => ?_)
 have hm:Try.prog.follows .mixedOrders=true:=by kernel_rfl
 replace hn:Γ.n=23:=hn
 refine sO hP hn hm [(1,.more xMin),(2,.more xMax)] [(6,iV .i64 (i64.wrap ((if(if(64:Int)<a2 then(64:Int) else a2)>(0:Int) then(if(64:Int)<a2 then(64:Int) else a2) else(0:Int))-(1:Int))))] [0,1,6] [] [0,1] ?_
 refine AWp.block ?_
 obtain⟨o1928,e1929,H⟩:=Z4 H
 refine AWp.loop (LWp.conv (inv:=[(0,0),(1,3)]) (vk:=[]) (e0:=[]) (t:=⟨[(0,.ptr 0 0 0),(1,iV .u64 a1),(6,iV .i64 (i64.wrap ((if(if(64:Int)<a2 then(64:Int) else a2)>(0:Int) then(if(64:Int)<a2 then(64:Int) else a2) else(0:Int))-(1:Int))))],[(0,some (.box 49 [.own 3,iV .u64 a0_c1])),(3,some (.row 1 5 (a0_c0.map (Z1 .u8))))],2⟩) (by kernel_rfl) ?_)
 refine LWp.mono (Q:=fun e s=>(match (generalizing:=false) o1928 with | (x1926,x1927)=>e = .exit 0∧s=⟨[],[(0,some (.box 49 [.own 5,iV .u64 x1927])),(5,some (.row 1 5 (x1926.map (Z1 .u8))))],2⟩)) (LWp.cv (Z07 (fun body hbody => ?_))) ?_
 ·refine                    Zw.l0.partial_correctness a1 (motive:=fun x1916 x1917 x1918 o1928=>LWp Γ body (fun e s=>∃ t,Cv Γ s t∧(match (generalizing:=false) o1928 with | (x1926,x1927)=>e = .exit 0∧t=⟨[],[(0,some (.box 49 [.own 5,iV .u64 x1927])),(5,some (.row 1 5 (x1926.map (Z1     .u8))))],2⟩)) ⟨[(0,.ptr 0 0 0),(1,iV .u64 a1),(6,iV .i64 x1918)],[(0,some (.box 49 [.own 3,iV .u64 x1917])),(3,some (.row 1 5 (x1916.map (Z1     .u8))))],2⟩) ?_ _ _ _ _ e1929
  clear H e1929 o1928;intro self ih x1916 x1917 x1918 o1928 H
  subst hbody
  refine LWp.round ?_
  refine AWp.seq ?_
  refine sO hP hn hm [] [(12,bV (decide (x1918≥(0:Int))))] [0,1,6,12] [] [0,3] ?_
  refine AWp.cond (decide (x1918≥(0:Int))) (by kernel_rfl) (fun c1919 => ?_) (fun c1919 => ?_)
  ·replace H:=iT c1919 H
   refine AWp.skip ?_
   refine AWp.seq ?_
   refine AWp.block ?_
   obtain⟨c1923,H⟩:=Z17 H
   obtain⟨t1924,e1925,H⟩:=Z4 H
   refine rG hP hn hm [(7,.call [(0,0),(3,1)] [(0,0),(2,4)] [] [4] 2 (.tup []) [(0,some (.box 49 [.own 2,iV .u64 t1924.2])),(1,none),(2,some (.row 1 5 (t1924.1.map (Z1 .u8))))])] [] [0,1,6] [(0,some (.box 49 [.own 4,iV .u64 t1924.2])),(4,some (.row 1 5 (t1924.1.map (Z1 .u8))))] [0,4] [_,_,_] ⟨c1923,Try.call16,Z08.ok x1916 x1917 ((u64.wrap (((BitVec.toNat (BitVec.ofInt 64 (Int.fdiv a1 (2 ^ (min (Int.toNat (u64.wrap (x1918))) 64))) &&& BitVec.ofInt 64 (1:Int)):Nat):Int)))==(1:Int)) t1924 e1925,trivial⟩ ?_
   refine rO hP hn hm [] [(6,iV .i64 (i64.wrap (x1918-(1:Int))))] [0,1,6] [] [0,4] ?_
   exact LWp.conv [(0,0),(4,3)] [] [] (by kernel_rfl) (ih _ _ _ _ H)
  ·replace H:=iF c1919 H
   refine AWp.exit ?_
   obtain rfl:=sj H
   exact lf [(0,0),(3,5)] [] [] (by kernel_rfl) ⟨rfl,rfl⟩
 ·obtain⟨x1926,x1927⟩:=o1928
  rintro e s ⟨rfl,rfl⟩
  obtain rfl:=sj H
  exact Exists.intro ⟨[],[(0,some (.box 49 [.own 2,iV .u64 x1927])),(2,some (.row 1 5 (x1926.map (Z1 .u8))))],2⟩ (And.intro (fun _ _ h=>h.conv (inv:=[(0,0),(5,2)]) (vk:=[]) (e0:=[]) (t:=⟨[],[(0,some (.box 49 [.own 2,iV .u64 x1927])),(2,some (.row 1 5 (x1926.map (Z1 .u8))))],2⟩) (by kernel_rfl)) (And.intro (.inr rfl) (And.intro rfl (And.intro (by kernel_rfl) (by kernel_rfl)))))
def Z49.f (a0:Int):Option (Unit):=some ()
theorem Z49.ok (a0:Int) (r:Unit) (H:Z49.f a0=some r):Pv.Fn Try.prog 41 [iV .i64 a0] [] 0 (fun x o=>x=iV .u64 (u64.wrap (((BitVec.toNat (BitVec.ofInt 64 (u64.wrap (i64.wrap (a0*2))) ^^^ BitVec.ofInt 64 (u64.wrap (Int.fdiv a0 9223372036854775808))):Nat):Int)))∧o=[]):=by
 unfold Z49.f at H
 refine Fn.bodyK [] Try.func41 rfl rfl (fun Γ hP hn => ?_)
 have hm:Try.prog.follows .mixedOrders=true:=by kernel_rfl
 replace hn:Γ.n=10:=hn
 refine sO hP hn hm [] [] [0] [] [] ?_
 refine sR hP hn hm [] [(2,iV .u64 (u64.wrap (((BitVec.toNat (BitVec.ofInt 64 (u64.wrap (i64.wrap (a0*2))) ^^^ BitVec.ofInt 64 (u64.wrap (Int.fdiv a0 9223372036854775808))):Nat):Int))))] [2] [] [] [(0:Int)≤1,(0:Int)≤63] ⟨by decide,by decide,trivial⟩ ?_
 refine AWp.conv (inv:=[]) (vk:=[]) (e0:=[]) (t:=⟨[(2,iV .u64 (u64.wrap (((BitVec.toNat (BitVec.ofInt 64 (u64.wrap (i64.wrap (a0*2))) ^^^ BitVec.ofInt 64 (u64.wrap (Int.fdiv a0 9223372036854775808))):Nat):Int))))],[],0⟩) (by kernel_rfl) ?_
 refine AWp.ret ?_
 obtain rfl:=sj H
 exact rl (.inl rfl) rfl (by kernel_rfl) (by kernel_rfl)
def Z1c.f  : Option (List Int):=some [0,3,7,12,20,32,64]
theorem Z1c.ok  (r:List Int) (H:Z1c.f  = some r):Pv.Fn Try.prog 42 [] [] 0 (fun x o=>x = .own 0∧o=[(0,some (.row 1 3 (r.map (Z1 .i64))))]):=by
 unfold Z1c.f at H
 refine Fn.bodyK [0] Try.func42 rfl rfl (fun Γ hP hn => ?_)
 have hm:Try.prog.follows .mixedOrders=true:=by kernel_rfl
 replace hn:Γ.n=2:=hn
 refine sO hP hn hm [] [] [] [] [] ?_
 refine sR hP hn hm [(0,.app 0 ([0,3,7,12,20,32,64].map (Z1 .i64)))] [(0,.own 0)] [0] [(0,some (.row 1 3 ([0,3,7,12,20,32,64].map (Z1 .i64))))] [0] [[0,3,7,12,20,32,64].map (Z1 .i64)=[[iI .i64 0],[iI .i64 3],[iI .i64 7],[iI .i64 12],[iI .i64 20],[iI .i64 32],[iI .i64 64]]] ⟨by exact rfl,trivial⟩ ?_
 refine AWp.conv (inv:=[(0,0)]) (vk:=[]) (e0:=[]) (t:=⟨[(0,.own 0)],[(0,some (.row 1 3 ([0,3,7,12,20,32,64].map (Z1 .i64))))],0⟩) (by kernel_rfl) ?_
 refine AWp.ret ?_
 obtain rfl:=sj H
 exact rl (.inl rfl) rfl (by kernel_rfl) (by kernel_rfl)
def Z0w.l0 (x1941:Int) (x1942:Int):Option (Int):=if(decide (x1941>(0:Int)))=true then(Z0w.l0  (Int.fdiv x1941 2) (i64.wrap (x1942+(1:Int)))) else(some x1942)
partial_fixpoint
def Z0w.f (a0:Int):Option (Int):=(Z0w.l0  a0 0)>>=fun x1944=>some x1944
theorem Z0w.ok (a0:Int) (r:Int) (H:Z0w.f a0=some r):Pv.Fn Try.prog 44 [iV .u64 a0] [] 0 (fun x o=>x=iV .i64 r∧o=[]):=by
 unfold Z0w.f at H
 refine Fn.bodyK [] Try.func44 rfl rfl (fun Γ hP hn => ?_)
 have hm:Try.prog.follows .mixedOrders=true:=by kernel_rfl
 replace hn:Γ.n=11:=hn
 refine sO hP hn hm [] [] [0] [] [] ?_
 refine sO hP hn hm [] [(3,iV .i64 0)] [0,3] [] [] ?_
 refine AWp.seq ?_
 refine AWp.block ?_
 obtain⟨o1945,e1946,H⟩:=Z4 H
 refine AWp.loop (LWp.conv (inv:=[]) (vk:=[]) (e0:=[]) (t:=⟨[(0,iV .u64 a0),(3,iV .i64 0)],[],0⟩) (by kernel_rfl) ?_)
 refine LWp.mono (Q:=fun e s=>(match (generalizing:=false) o1945 with | x1944=>e = .exit 0∧s=⟨[(3,iV .i64 x1944)],[],0⟩)) (LWp.cv (Z07 (fun body hbody => ?_))) ?_
 ·refine         Z0w.l0.partial_correctness  (motive:=fun x1941 x1942 o1945=>LWp Γ body (fun e s=>∃ t,Cv Γ s t∧(match (generalizing:=false) o1945 with | x1944=>e = .exit 0∧t=⟨[(3,iV .i64 x1944)],[],0⟩)) ⟨[(0,iV .u64 x1941),(3,iV .i64 x1942)],[],0⟩) ?_ _ _ _ e1946
  clear H e1946 o1945;intro self ih x1941 x1942 o1945 H
  subst hbody
  refine LWp.round ?_
  refine AWp.seq ?_
  refine sO hP hn hm [] [(5,bV (decide (x1941>(0:Int))))] [0,3,5] [] [] ?_
  refine AWp.cond (decide (x1941>(0:Int))) (by kernel_rfl) (fun c1943 => ?_) (fun c1943 => ?_)
  ·replace H:=iT c1943 H
   refine AWp.skip ?_
   refine AWp.seq ?_
   refine AWp.block ?_
   refine rO hP hn hm [] [(3,iV .i64 (i64.wrap (x1942+(1:Int))))] [0,3] [] [] ?_
   refine rG hP hn hm [] [(0,iV .u64 (Int.fdiv x1941 2))] [0,3] [] [] [(0:Int)≤1] ⟨by decide,trivial⟩ ?_
   exact LWp.conv [] [] [] (by kernel_rfl) (ih _ _ _ H)
  ·replace H:=iF c1943 H
   refine AWp.exit ?_
   obtain rfl:=sj H
   exact lf [] [] [] (by kernel_rfl) ⟨rfl,rfl⟩
 ·obtain⟨x1944,rfl⟩:∃ z,z=o1945:=⟨_,rfl⟩
  rintro e s ⟨rfl,rfl⟩
  refine sO hP hn hm [] [(2,iV .i64 x1944)] [2] [] [] ?_
  refine AWp.conv (inv:=[]) (vk:=[]) (e0:=[]) (t:=⟨[(2,iV .i64 x1944)],[],0⟩) (by kernel_rfl) ?_
  refine AWp.ret ?_
  obtain rfl:=sj H
  exact rl (.inl rfl) rfl (by kernel_rfl) (by kernel_rfl)
def Z2b.f (a0:Int) (a1:Int):Option (Bool):=(((Z0k.f a0)>>=fun t1959=>if(a0 != a0)=true then((Z0k.f a1)>>=fun t1962=>if(!(a1 != a1))=true then(some true) else(some (decide (a0<a1)))) else(some (decide (a0<a1)))):Option (Bool))>>=fun x1965=>some x1965
theorem Z2b.ok (a0:Int) (a1:Int) (r:Bool) (H:Z2b.f a0 a1=some r):Pv.Fn Try.prog 61 [iV .i64 a0,iV .i64 a1] [] 0 (fun x o=>x=bV r∧o=[]):=by
 unfold Z2b.f at H
 refine Fn.bodyK [] Try.func61 rfl rfl (fun Γ hP hn => ?_)
 have hm:Try.prog.follows .mixedOrders=true:=by kernel_rfl
 replace hn:Γ.n=17:=hn
 refine sO hP hn hm [] [] [0,1] [] [] ?_
 refine AWp.seq ?_
 obtain⟨o1966,e1967,H⟩:=Z4 H
 refine AWp.mono (Q:=fun e s=>(match (generalizing:=false) o1966 with | x1965=>e = .normal∧s=⟨[(4,bV x1965)],[],0⟩)) (AWp.cv ?_) ?_
 ·replace H:=e1967;clear e1967
  obtain⟨t1959,e1960,H⟩:=Z4 H
  rcases Bool.eq_false_or_eq_true (a0 != a0) with c1961 | c1961
  ·replace H:=iT c1961 H
   obtain⟨t1962,e1963,H⟩:=Z4 H
   rcases Bool.eq_false_or_eq_true (!(a1 != a1)) with c1964 | c1964
   ·replace H:=iT c1964 H
    refine rG hP hn hm [(1,.call [] [] [] [] 0 (bV (a0 != a0)) []),(2,.b true),(4,.call [] [] [] [] 0 (bV (a1 != a1)) []),(7,.b true)] [(4,bV true)] [4] [] [] [_,_,_,_,_,_] ⟨Try.call72,Z0k.ok a0 t1959 e1960,c1961,Try.call72,Z0k.ok a1 t1962 e1963,c1964,trivial⟩ ?_
    obtain rfl:=sj H
    exact lf [] [] [] (by kernel_rfl) ⟨rfl,rfl⟩
   ·replace H:=iF c1964 H
    refine rG hP hn hm [(1,.call [] [] [] [] 0 (bV (a0 != a0)) []),(2,.b true),(4,.call [] [] [] [] 0 (bV (a1 != a1)) []),(7,.b false)] [(4,bV (decide (a0<a1)))] [4] [] [] [_,_,_,_,_,_] ⟨Try.call72,Z0k.ok a0 t1959 e1960,c1961,Try.call72,Z0k.ok a1 t1962 e1963,c1964,trivial⟩ ?_
    obtain rfl:=sj H
    exact lf [] [] [] (by kernel_rfl) ⟨rfl,rfl⟩
  ·replace H:=iF c1961 H
   refine rG hP hn hm [(1,.call [] [] [] [] 0 (bV (a0 != a0)) []),(2,.b false)] [(4,bV (decide (a0<a1)))] [4] [] [] [_,_,_] ⟨Try.call72,Z0k.ok a0 t1959 e1960,c1961,trivial⟩ ?_
   obtain rfl:=sj H
   exact lf [] [] [] (by kernel_rfl) ⟨rfl,rfl⟩
 ·obtain⟨x1965,rfl⟩:∃ z,z=o1966:=⟨_,rfl⟩
  rintro e s ⟨rfl,rfl⟩
  refine AWp.conv (inv:=[]) (vk:=[]) (e0:=[]) (t:=⟨[(4,bV x1965)],[],0⟩) (by kernel_rfl) ?_
  refine AWp.ret ?_
  obtain rfl:=sj H
  exact rl (.inl rfl) rfl (by kernel_rfl) (by kernel_rfl)
def Z0z.f (a0:Int):Option (Unit):=some ()
theorem Z0z.ok (a0:Int) (r:Unit) (H:Z0z.f a0=some r):Pv.Fn Try.prog 62 [iV .i64 a0] [] 0 (fun x o=>x=bV (a0 != a0)∧o=[]):=by
 unfold Z0z.f at H
 refine Fn.bodyK [] Try.func62 rfl rfl (fun Γ hP hn => ?_)
 have hm:Try.prog.follows .mixedOrders=true:=by kernel_rfl
 replace hn:Γ.n=6:=hn
 refine sO hP hn hm [] [] [0] [] [] ?_
 refine sO hP hn hm [] [(2,bV (a0 != a0))] [2] [] [] ?_
 refine AWp.conv (inv:=[]) (vk:=[]) (e0:=[]) (t:=⟨[(2,bV (a0 != a0))],[],0⟩) (by kernel_rfl) ?_
 refine AWp.ret ?_
 obtain rfl:=sj H
 exact rl (.inl rfl) rfl (by kernel_rfl) (by kernel_rfl)
def Zt.l0 (a0:List Int) (a1:Int) (x1978:Int) (x1979:Int):Option (Int):=if(decide (x1978<x1979))=true then((at? a0 (i64.wrap (Int.fdiv (u64.wrap (i64.wrap (x1978+x1979))) 2)))>>=fun b1986=>(Z2b.f b1986 a1)>>=fun t1989=>((if t1989=true then(some (i64.wrap ((i64.wrap (Int.fdiv (u64.wrap (i64.wrap (x1978+x1979))) 2))+(1:Int)),x1979)) else(some (x1978,i64.wrap (Int.fdiv (u64.wrap (i64.wrap (x1978+x1979))) 2)))):Option (Int×Int))>>=fun oo=>match oo with | (x1992,x1993)=>(Zt.l0 a0 a1 x1992 x1993)) else(some x1978)
partial_fixpoint
def Zt.f (a0:List Int) (a1:Int):Option (Int×Bool):=(Zt.l0 a0 a1 0 (a0.length:Int))>>=fun x1994=>((if(decide (x1994<(a0.length:Int)))=true then((at? a0 x1994)>>=fun b2006=>if(b2006==a1)=true then(some true) else((Z0z.f b2006)>>=fun t2010=>if(b2006 != b2006)=true then((Z0z.f a1)>>=fun t2013=>some (a1 != a1)) else(some false))) else(some false)):Option (Bool))>>=fun x2015=>some (x1994,x2015)
theorem Zt.ok (a0:List Int) (a1:Int) (r:Int×Bool) (H:Zt.f a0 a1=some r):Pv.Fn Try.prog 43 [.im (.row (a0.map (Z1 .i64))),iV .i64 a1] [] 0 (fun x o=>x = .tup [iV .i64 r.1,bV r.2]∧o=[]):=by
 unfold Zt.f at H
 refine Fn.bodyK [] Try.func43 rfl rfl (fun Γ hP hn => ?_)
 have hm:Try.prog.follows .mixedOrders=true:=by kernel_rfl
 replace hn:Γ.n=54:=hn
 refine sO hP hn hm [] [] [0,1] [] [] ?_
 refine sR hP hn hm [(1,.any (iV .i64 (a0.length:Int)))] [(6,iV .i64 (a0.length:Int))] [0,1,6] [] [] [((a0.map (Z1 .i64)).length:Int)=(a0.length:Int)] ⟨by rw[Zv],trivial⟩ ?_
 refine sO hP hn hm [] [(7,iV .i64 0),(8,iV .i64 (a0.length:Int))] [0,1,6,7,8] [] [] ?_
 refine AWp.seq ?_
 refine AWp.block ?_
 obtain⟨o2016,e2017,H⟩:=Z4 H
 refine AWp.loop (LWp.conv (inv:=[]) (vk:=[]) (e0:=[]) (t:=⟨[(0,.im (.row (a0.map (Z1 .i64)))),(1,iV .i64 a1),(6,iV .i64 (a0.length:Int)),(7,iV .i64 0),(8,iV .i64 (a0.length:Int))],[],0⟩) (by kernel_rfl) ?_)
 refine LWp.mono (Q:=fun e s=>(match (generalizing:=false) o2016 with | x1994=>e = .exit 0∧s=⟨[(0,.im (.row (a0.map (Z1 .i64)))),(1,iV .i64 a1),(6,iV .i64 (a0.length:Int)),(7,iV .i64 x1994)],[],0⟩)) (LWp.cv (Z07 (fun body hbody => ?_))) ?_
 ·refine                        Zt.l0.partial_correctness a0 a1 (motive:=fun x1978 x1979 o2016=>LWp Γ body (fun e s=>∃ t,Cv Γ s t∧(match (generalizing:=false) o2016 with | x1994=>e = .exit 0∧t=⟨[(0,.im (.row (a0.map (Z1     .i64)))),(1,iV .i64 a1),(6,iV .i64 (a0.length:Int)),(7,iV .i64 x1994)],[],0⟩)) ⟨[(0,.im (.row (a0.map (Z1     .i64)))),(1,iV .i64 a1),(6,iV .i64 (a0.length:Int)),(7,iV .i64 x1978),(8,iV .i64 x1979)],[],0⟩) ?_ _ _ _ e2017
  clear H e2017 o2016;intro self ih x1978 x1979 o2016 H
  subst hbody
  refine LWp.round ?_
  refine AWp.seq ?_
  refine sO hP hn hm [] [(15,bV (decide (x1978<x1979)))] [0,1,6,7,8,15] [] [] ?_
  refine AWp.cond (decide (x1978<x1979)) (by kernel_rfl) (fun c1980 => ?_) (fun c1980 => ?_)
  ·replace H:=iT c1980 H
   refine AWp.skip ?_
   refine AWp.block ?_
   refine sR hP hn hm [] [(9,iV .i64 (i64.wrap (Int.fdiv (u64.wrap (i64.wrap (x1978+x1979))) 2)))] [0,1,6,7,8,9] [] [] [(0:Int)≤1] ⟨by decide,trivial⟩ ?_
   obtain⟨b1986,p1987,q1988,H⟩:=Z0q H
   obtain⟨t1989,e1990,H⟩:=Z4 H
   refine sR hP hn hm [(2,.c ((Z1 .i64) b1986)),(5,.call [] [] [] [] 0 (bV t1989) [])] [(27,bV t1989)] [0,1,6,7,8,9,27] [] [] [_,_,_,_] ⟨p1987,Zu (Z1 .i64) q1988,Try.call61,Z2b.ok b1986 a1 t1989 e1990,trivial⟩ ?_
   obtain⟨o2018,e2019,H⟩:=Z4 H
   refine AWp.mono (Q:=fun e s=>(match (generalizing:=false) o2018 with | (x1992,x1993)=>e = .normal∧s=⟨[(0,.im (.row (a0.map (Z1 .i64)))),(1,iV .i64 a1),(6,iV .i64 (a0.length:Int)),(7,iV .i64 x1992),(8,iV .i64 x1993)],[],0⟩)) (AWp.cv ?_) ?_
   ·replace H:=e2019;clear e2019
    refine AWp.cond t1989 (by kernel_rfl) (fun c1991 => ?_) (fun c1991 => ?_)
    ·replace H:=iT c1991 H
     refine rO hP hn hm [] [(7,iV .i64 (i64.wrap ((i64.wrap (Int.fdiv (u64.wrap (i64.wrap (x1978+x1979))) 2))+(1:Int))))] [0,1,6,7,8] [] [] ?_
     obtain rfl:=sj H
     exact lf [] [] [] (by kernel_rfl) ⟨rfl,rfl⟩
    ·replace H:=iF c1991 H
     refine rO hP hn hm [] [(8,iV .i64 (i64.wrap (Int.fdiv (u64.wrap (i64.wrap (x1978+x1979))) 2)))] [0,1,6,7,8] [] [] ?_
     obtain rfl:=sj H
     exact lf [] [] [] (by kernel_rfl) ⟨rfl,rfl⟩
   ·obtain⟨x1992,x1993⟩:=o2018
    rintro e s ⟨rfl,rfl⟩
    exact LWp.conv [] [] [] (by kernel_rfl) (ih _ _ _ H)
  ·replace H:=iF c1980 H
   refine AWp.exit ?_
   obtain rfl:=sj H
   exact lf [] [] [] (by kernel_rfl) ⟨rfl,rfl⟩
 ·obtain⟨x1994,rfl⟩:∃ z,z=o2016:=⟨_,rfl⟩
  rintro e s ⟨rfl,rfl⟩
  refine AWp.seq ?_
  obtain⟨o2020,e2021,H⟩:=Z4 H
  refine AWp.mono (Q:=fun e s=>(match (generalizing:=false) o2020 with | x2015=>e = .normal∧s=⟨[(4,iV .i64 x1994),(5,bV x2015)],[],0⟩)) (AWp.cv ?_) ?_
  ·replace H:=e2021;clear e2021
   rcases Bool.eq_false_or_eq_true (decide (x1994<(a0.length:Int))) with c2005 | c2005
   ·replace H:=iT c2005 H
    obtain⟨b2006,p2007,q2008,H⟩:=Z0q H
    rcases Bool.eq_false_or_eq_true (b2006==a1) with c2009 | c2009
    ·replace H:=iT c2009 H
     refine rG hP hn hm [(4,.b true),(7,.c ((Z1 .i64) b2006)),(11,.b true)] [(4,iV .i64 x1994),(5,bV true)] [4,5] [] [] [_,_,_,_] ⟨c2005,p2007,Zu (Z1 .i64) q2008,c2009,trivial⟩ ?_
     obtain rfl:=sj H
     exact lf [] [] [] (by kernel_rfl) ⟨rfl,rfl⟩
    ·replace H:=iF c2009 H
     obtain⟨t2010,e2011,H⟩:=Z4 H
     rcases Bool.eq_false_or_eq_true (b2006 != b2006) with c2012 | c2012
     ·replace H:=iT c2012 H
      obtain⟨t2013,e2014,H⟩:=Z4 H
      refine rG hP hn hm [(4,.b true),(7,.c ((Z1 .i64) b2006)),(11,.b false),(14,.c ((Z1 .i64) b2006)),(16,.call [] [] [] [] 0 (bV (b2006 != b2006)) []),(17,.b true),(19,.call [] [] [] [] 0 (bV (a1 != a1)) [])] [(4,iV .i64 x1994),(5,bV (a1 != a1))] [4,5] [] [] [_,_,_,_,_,_,_,_,_,_,_] ⟨c2005,p2007,Zu (Z1 .i64) q2008,c2009,p2007,Zu (Z1 .i64) q2008,Try.call62,Z0z.ok b2006 t2010 e2011,c2012,Try.call62,Z0z.ok a1 t2013 e2014,trivial⟩ ?_
      obtain rfl:=sj H
      exact lf [] [] [] (by kernel_rfl) ⟨rfl,rfl⟩
     ·replace H:=iF c2012 H
      refine rG hP hn hm [(4,.b true),(7,.c ((Z1 .i64) b2006)),(11,.b false),(14,.c ((Z1 .i64) b2006)),(16,.call [] [] [] [] 0 (bV (b2006 != b2006)) []),(17,.b false)] [(4,iV .i64 x1994),(5,bV false)] [4,5] [] [] [_,_,_,_,_,_,_,_,_] ⟨c2005,p2007,Zu (Z1 .i64) q2008,c2009,p2007,Zu (Z1 .i64) q2008,Try.call62,Z0z.ok b2006 t2010 e2011,c2012,trivial⟩ ?_
      obtain rfl:=sj H
      exact lf [] [] [] (by kernel_rfl) ⟨rfl,rfl⟩
   ·replace H:=iF c2005 H
    refine rG hP hn hm [(4,.b false)] [(4,iV .i64 x1994),(5,bV false)] [4,5] [] [] [_] ⟨c2005,trivial⟩ ?_
    obtain rfl:=sj H
    exact lf [] [] [] (by kernel_rfl) ⟨rfl,rfl⟩
  ·obtain⟨x2015,rfl⟩:∃ z,z=o2020:=⟨_,rfl⟩
   rintro e s ⟨rfl,rfl⟩
   refine AWp.conv (inv:=[]) (vk:=[]) (e0:=[]) (t:=⟨[(4,iV .i64 x1994),(5,bV x2015)],[],0⟩) (by kernel_rfl) ?_
   refine AWp.ret ?_
   obtain rfl:=sj H
   exact rl (.inl rfl) rfl (by kernel_rfl) (by kernel_rfl)
def Zg.l0 (a1:Int) (t1938:List Int) (t2026:Int×Bool) (x2033:List Int) (x2034:Int) (x2035:Int):Option ((List Int)×Int):=if(decide (x2035<t2026.1))=true then((Z08.f x2033 x2034 true)>>=fun t2039=>Zg.l0 a1 t1938 t2026 t2039.1 t2039.2 (i64.wrap (x2035+(1:Int)))) else(some (x2033,x2034))
partial_fixpoint
def Zg.f (a0_c0:List Int) (a0_c1:Int) (a1:Int):Option ((List Int)×Int):=(Z1c.f)>>=fun t1938=>(Z0w.f a1)>>=fun t2024=>(Zt.f t1938 t2024)>>=fun t2026=>(Zg.l0 a1 t1938 t2026 a0_c0 a0_c1 0)>>=fun oo=>match oo with | (x2041,x2042)=>(((if(decide (t2026.1<(i64.wrap ((t1938.length:Int)-(1:Int)))))=true then((Z08.f x2041 x2042 false)>>=fun t2046=>some (t2046.1,t2046.2)) else(some (x2041,x2042))):Option ((List Int)×Int))>>=fun oo=>match oo with | (x2048,x2049)=>((at? t1938 t2026.1)>>=fun b2055=>(Zw.f x2048 x2049 a1 b2055)>>=fun t2058=>some (t2058.1,t2058.2)))
theorem Zg.ok (a0_c0:List Int) (a0_c1:Int) (a1:Int) (r:(List Int)×Int) (H:Zg.f a0_c0 a0_c1 a1=some r):Pv.Fn Try.prog 20 [.ptr 0 0 0,iV .u64 a1] [(0,some (.box 49 [.own 1,iV .u64 a0_c1])),(1,some (.row 1 5 (a0_c0.map (Z1 .u8))))] 2 (fun x o=>x = .tup []∧o=[(0,some (.box 49 [.own 2,iV .u64 r.2])),(1,none),(2,some (.row 1 5 (r.1.map (Z1 .u8))))]):=by
 unfold Zg.f at H
 refine Fn.bodyK [0,1,2] Try.func20 rfl rfl (fun Γ hP hn => ?_)
 have hm:Try.prog.follows .mixedOrders=true:=by kernel_rfl
 replace hn:Γ.n=35:=hn
 obtain⟨t1938,e1939,H⟩:=Z4 H
 refine sR hP hn hm [(0,.call [] [(0,2)] [] [2] 0 (.own 0) [(0,some (.row 1 3 (t1938.map (Z1 .i64))))])] [(4,.own 2)] [0,1,4] [(2,some (.row 1 3 (t1938.map (Z1 .i64))))] [0,1,2] [_,_] ⟨Try.call42,Z1c.ok  t1938 e1939,trivial⟩ ?_
 obtain⟨t2024,e2025,H⟩:=Z4 H
 obtain⟨t2026,e2027,H⟩:=Z4 H
 refine sR hP hn hm [(2,.call [] [] [] [] 0 (iV .i64 t2024) []),(3,.call [] [] [2] [] 0 (.tup [iV .i64 t2026.1,bV t2026.2]) [])] [(5,iV .i64 t2026.1)] [0,1,4,5] [] [0,1,2] [_,_,_,_] ⟨Try.call44,Z0w.ok a1 t2024 e2025,Try.call43,Zt.ok t1938 t2024 t2026 e2027,trivial⟩ ?_
 refine AWp.seq ?_
 refine sO hP hn hm [] [(15,iV .i64 t2026.1),(16,iV .i64 0)] [0,1,4,5,15,16] [] [0,1,2] ?_
 refine AWp.block ?_
 obtain⟨o2060,e2061,H⟩:=Z4 H
 refine AWp.loop (LWp.conv (inv:=[(0,0),(1,4),(2,5)]) (vk:=[]) (e0:=[]) (t:=⟨[(0,.ptr 0 0 0),(1,iV .u64 a1),(4,.own 5),(5,iV .i64 t2026.1),(15,iV .i64 t2026.1),(16,iV .i64 0)],[(0,some (.box 49 [.own 4,iV .u64 a0_c1])),(4,some (.row 1 5 (a0_c0.map (Z1 .u8)))),(5,some (.row 1 3 (t1938.map (Z1 .i64))))],2⟩) (by kernel_rfl) ?_)
 refine LWp.mono (Q:=fun e s=>(match (generalizing:=false) o2060 with | (x2041,x2042)=>e = .exit 0∧s=⟨[(0,.ptr 0 0 0),(1,iV .u64 a1),(4,.own 8),(5,iV .i64 t2026.1)],[(0,some (.box 49 [.own 7,iV .u64 x2042])),(7,some (.row 1 5 (x2041.map (Z1 .u8)))),(8,some (.row 1 3 (t1938.map (Z1 .i64))))],2⟩)) (LWp.cv (Z07 (fun body hbody => ?_))) ?_
 ·refine                      Zg.l0.partial_correctness a1 t1938 t2026 (motive:=fun x2033 x2034 x2035 o2060=>LWp Γ body (fun e s=>∃ t,Cv Γ s t∧(match (generalizing:=false) o2060 with | (x2041,x2042)=>e = .exit 0∧t=⟨[(0,.ptr 0 0 0),(1,iV .u64 a1),(4,.own 8),(5,iV .i64 t2026.1)],[(0,some (.box 49 [.own 7,iV .u64 x2042])),(7,some (.row 1 5 (x2041.map (Z1     .u8)))),(8,some (.row 1 3 (t1938.map (Z1     .i64))))],2⟩)) ⟨[(0,.ptr 0 0 0),(1,iV .u64 a1),(4,.own 5),(5,iV .i64 t2026.1),(15,iV .i64 t2026.1),(16,iV .i64 x2035)],[(0,some (.box 49 [.own 4,iV .u64 x2034])),(4,some (.row 1 5 (x2033.map (Z1     .u8)))),(5,some (.row 1 3 (t1938.map (Z1     .i64))))],2⟩) ?_ _ _ _ _ e2061
  clear H e2061 o2060;intro self ih x2033 x2034 x2035 o2060 H
  subst hbody
  refine LWp.round ?_
  refine sO hP hn hm [] [(17,bV (decide (x2035<t2026.1)))] [0,1,4,5,15,16,17] [] [0,4,5] ?_
  refine AWp.seq ?_
  refine AWp.cond (decide (x2035<t2026.1)) (by kernel_rfl) (fun c2036 => ?_) (fun c2036 => ?_)
  ·replace H:=iT c2036 H
   refine AWp.skip ?_
   refine AWp.seq ?_
   refine AWp.block ?_
   obtain⟨t2039,e2040,H⟩:=Z4 H
   refine rG hP hn hm [(1,.call [(0,0),(4,1)] [(0,0),(2,6)] [] [6] 2 (.tup []) [(0,some (.box 49 [.own 2,iV .u64 t2039.2])),(1,none),(2,some (.row 1 5 (t2039.1.map (Z1 .u8))))])] [] [0,1,4,5,15,16] [(0,some (.box 49 [.own 6,iV .u64 t2039.2])),(6,some (.row 1 5 (t2039.1.map (Z1 .u8))))] [0,5,6] [_,_] ⟨Try.call16,Z08.ok x2033 x2034 true t2039 e2040,trivial⟩ ?_
   refine rO hP hn hm [] [(16,iV .i64 (i64.wrap (x2035+(1:Int))))] [0,1,4,5,15,16] [] [0,5,6] ?_
   exact LWp.conv [(0,0),(5,5),(6,4)] [] [] (by kernel_rfl) (ih _ _ _ _ H)
  ·replace H:=iF c2036 H
   refine AWp.exit ?_
   obtain rfl:=sj H
   exact lf [(0,0),(4,7),(5,8)] [] [] (by kernel_rfl) ⟨rfl,rfl⟩
 ·obtain⟨x2041,x2042⟩:=o2060
  rintro e s ⟨rfl,rfl⟩
  refine AWp.seq ?_
  refine sR hP hn hm [(2,.any (iV .i64 (t1938.length:Int)))] [(25,bV (decide (t2026.1<(i64.wrap ((t1938.length:Int)-(1:Int))))))] [0,1,4,5,25] [] [0,7,8] [((t1938.map (Z1 .i64)).length:Int)=(t1938.length:Int)] ⟨by rw[Zv],trivial⟩ ?_
  obtain⟨o2062,e2063,H⟩:=Z4 H
  refine AWp.mono (Q:=fun e s=>(match (generalizing:=false) o2062 with | (x2048,x2049)=>e = .normal∧s=⟨[(0,.ptr 0 0 0),(1,iV .u64 a1),(4,.own 11),(5,iV .i64 t2026.1)],[(0,some (.box 49 [.own 10,iV .u64 x2049])),(10,some (.row 1 5 (x2048.map (Z1 .u8)))),(11,some (.row 1 3 (t1938.map (Z1 .i64))))],2⟩)) (AWp.cv ?_) ?_
  ·replace H:=e2063;clear e2063
   refine AWp.cond (decide (t2026.1<(i64.wrap ((t1938.length:Int)-(1:Int))))) (by kernel_rfl) (fun c2043 => ?_) (fun c2043 => ?_)
   ·replace H:=iT c2043 H
    obtain⟨t2046,e2047,H⟩:=Z4 H
    refine rG hP hn hm [(1,.call [(0,0),(7,1)] [(0,0),(2,9)] [] [9] 2 (.tup []) [(0,some (.box 49 [.own 2,iV .u64 t2046.2])),(1,none),(2,some (.row 1 5 (t2046.1.map (Z1 .u8))))])] [] [0,1,4,5] [(0,some (.box 49 [.own 9,iV .u64 t2046.2])),(9,some (.row 1 5 (t2046.1.map (Z1 .u8))))] [0,8,9] [_,_] ⟨Try.call16,Z08.ok x2041 x2042 false t2046 e2047,trivial⟩ ?_
    obtain rfl:=sj H
    exact lf [(0,0),(9,10),(8,11)] [] [] (by kernel_rfl) ⟨rfl,rfl⟩
   ·replace H:=iF c2043 H
    refine AWp.skip ?_
    obtain rfl:=sj H
    exact lf [(0,0),(7,10),(8,11)] [] [] (by kernel_rfl) ⟨rfl,rfl⟩
  ·obtain⟨x2048,x2049⟩:=o2062
   rintro e s ⟨rfl,rfl⟩
   obtain⟨b2055,p2056,q2057,H⟩:=Z0q H
   obtain⟨t2058,e2059,H⟩:=Z4 H
   refine rG hP hn hm [(5,.c ((Z1 .i64) b2055)),(6,.call [(0,0),(10,1)] [(0,0),(2,12)] [] [12] 2 (.tup []) [(0,some (.box 49 [.own 2,iV .u64 t2058.2])),(1,none),(2,some (.row 1 5 (t2058.1.map (Z1 .u8))))])] [] [] [(0,some (.box 49 [.own 12,iV .u64 t2058.2])),(12,some (.row 1 5 (t2058.1.map (Z1 .u8))))] [0,12] [_,_,_,_,_] ⟨p2056,Z1m (Z1 .i64) p2056 q2057,Zu (Z1 .i64) q2057,Try.call17,Zw.ok x2048 x2049 a1 b2055 t2058 e2059,trivial⟩ ?_
   obtain rfl:=sj H
   exact Exists.intro ⟨[],[(0,some (.box 49 [.own 2,iV .u64 t2058.2])),(2,some (.row 1 5 (t2058.1.map (Z1 .u8))))],2⟩ (And.intro (fun _ _ h=>h.conv (inv:=[(0,0),(12,2)]) (vk:=[]) (e0:=[]) (t:=⟨[],[(0,some (.box 49 [.own 2,iV .u64 t2058.2])),(2,some (.row 1 5 (t2058.1.map (Z1 .u8))))],2⟩) (by kernel_rfl)) (And.intro (.inr rfl) (And.intro rfl (And.intro (by kernel_rfl) (by kernel_rfl)))))
def Z00.f (a0_c0:List Int) (a0_c1:Int) (a1:Int):Option ((List Int)×Int):=(Z49.f a1)>>=fun t2066=>(Zg.f a0_c0 a0_c1 (u64.wrap (((BitVec.toNat (BitVec.ofInt 64 (u64.wrap (i64.wrap (a1*2))) ^^^ BitVec.ofInt 64 (u64.wrap (Int.fdiv a1 9223372036854775808))):Nat):Int))))>>=fun t2068=>some (t2068.1,t2068.2)
theorem Z00.ok (a0_c0:List Int) (a0_c1:Int) (a1:Int) (r:(List Int)×Int) (H:Z00.f a0_c0 a0_c1 a1=some r):Pv.Fn Try.prog 18 [.ptr 0 0 0,iV .i64 a1] [(0,some (.box 49 [.own 1,iV .u64 a0_c1])),(1,some (.row 1 5 (a0_c0.map (Z1 .u8))))] 2 (fun x o=>x = .tup []∧o=[(0,some (.box 49 [.own 2,iV .u64 r.2])),(1,none),(2,some (.row 1 5 (r.1.map (Z1 .u8))))]):=by
 unfold Z00.f at H
 refine Fn.bodyK [0,1,2] Try.func18 rfl rfl (fun Γ hP hn => ?_)
 have hm:Try.prog.follows .mixedOrders=true:=by kernel_rfl
 replace hn:Γ.n=8:=hn
 obtain⟨t2066,e2067,H⟩:=Z4 H
 obtain⟨t2068,e2069,H⟩:=Z4 H
 refine rG hP hn hm [(2,.call [] [] [] [] 0 (iV .u64 (u64.wrap (((BitVec.toNat (BitVec.ofInt 64 (u64.wrap (i64.wrap (a1*2))) ^^^ BitVec.ofInt 64 (u64.wrap (Int.fdiv a1 9223372036854775808))):Nat):Int)))) []),(3,.call [(0,0),(1,1)] [(0,0),(2,2)] [] [2] 2 (.tup []) [(0,some (.box 49 [.own 2,iV .u64 t2068.2])),(1,none),(2,some (.row 1 5 (t2068.1.map (Z1 .u8))))])] [] [] [(0,some (.box 49 [.own 2,iV .u64 t2068.2])),(2,some (.row 1 5 (t2068.1.map (Z1 .u8))))] [0,2] [_,_,_,_] ⟨Try.call41,Z49.ok a1 t2066 e2067,Try.call20,Zg.ok a0_c0 a0_c1 (u64.wrap (((BitVec.toNat (BitVec.ofInt 64 (u64.wrap (i64.wrap (a1*2))) ^^^ BitVec.ofInt 64 (u64.wrap (Int.fdiv a1 9223372036854775808))):Nat):Int))) t2068 e2069,trivial⟩ ?_
 obtain rfl:=sj H
 exact Exists.intro ⟨[],[(0,some (.box 49 [.own 2,iV .u64 t2068.2])),(2,some (.row 1 5 (t2068.1.map (Z1 .u8))))],2⟩ (And.intro (fun _ _ h=>h.conv (inv:=[(0,0),(2,2)]) (vk:=[]) (e0:=[]) (t:=⟨[],[(0,some (.box 49 [.own 2,iV .u64 t2068.2])),(2,some (.row 1 5 (t2068.1.map (Z1 .u8))))],2⟩) (by kernel_rfl)) (And.intro (.inr rfl) (And.intro rfl (And.intro (by kernel_rfl) (by kernel_rfl)))))
def Z0o.l0 (a1:Z7) (x2094:List Int) (x2095:Int) (x2096:Int):Option ((List Int)×Int):=if(decide (x2096<(a1.f1.length:Int)))=true then((at? a1.f1 x2096)>>=fun b2101=>((if(decide (x2096>(0:Int)))=true then((Zg.f x2094 x2095 (u64.wrap (i64.wrap (b2101.f0-(1:Int)))))>>=fun t2107=>some (t2107.1,t2107.2)) else(some (x2094,x2095))):Option ((List Int)×Int))>>=fun oo=>match oo with | (x2109,x2110)=>((Zg.f x2109 x2110 (u64.wrap (i64.wrap (b2101.f1-(1:Int)))))>>=fun t2113=>Z0o.l0 a1 t2113.1 t2113.2 (i64.wrap (x2096+(1:Int))))) else(some (x2094,x2095))
partial_fixpoint
def Z0o.f (a0_c0:List Int) (a0_c1:Int) (a1:Z7):Option ((List Int)×Int):=(Zg.f a0_c0 a0_c1 (u64.wrap ((a1.f1.length:Int))))>>=fun t2076=>if((a1.f1.length:Int)==(0:Int))=true then(some (t2076.1,t2076.2)) else((Z00.f t2076.1 t2076.2 a1.f0)>>=fun t2081=>(Z0o.l0 a1 t2081.1 t2081.2 0)>>=fun oo=>match oo with | (x2115,x2116)=>(some (x2115,x2116)))
theorem Z0o.ok (a0_c0:List Int) (a0_c1:Int) (a1:Z7) (r:(List Int)×Int) (H:Z0o.f a0_c0 a0_c1 a1=some r):Pv.Fn Try.prog 19 [.ptr 0 0 0,.agg (Zb a1)] [(0,some (.box 49 [.own 1,iV .u64 a0_c1])),(1,some (.row 1 5 (a0_c0.map (Z1 .u8))))] 2 (fun x o=>x = .tup []∧o=[(0,some (.box 49 [.own 2,iV .u64 r.2])),(1,none),(2,some (.row 1 5 (r.1.map (Z1 .u8))))]):=by
 unfold Z0o.f at H
 refine Fn.bodyK [0,1,2] Try.func19 rfl rfl (fun Γ hP hn => ?_)
 have hm:Try.prog.follows .mixedOrders=true:=by kernel_rfl
 replace hn:Γ.n=43:=hn
 refine sO hP hn hm [(0,.k 2)] [(3,.ptr 2 0 0)] [0,3] [(2,some (.box 52 (Zb a1)))] [0,1,2] ?_
 obtain⟨t2076,e2077,H⟩:=Z4 H
 refine sR hP hn hm [(3,.any (iV .i64 (a1.f1.length:Int))),(5,.call [(0,0),(1,1)] [(0,0),(2,3)] [] [3] 2 (.tup []) [(0,some (.box 49 [.own 2,iV .u64 t2076.2])),(1,none),(2,some (.row 1 5 (t2076.1.map (Z1 .u8))))])] [] [0,3] [(0,some (.box 49 [.own 3,iV .u64 t2076.2])),(3,some (.row 1 5 (t2076.1.map (Z1 .u8))))] [0,2,3] [((a1.f1.map Z0a).length:Int)=(a1.f1.length:Int),_,_] ⟨by rw[Zv],Try.call20,Zg.ok a0_c0 a0_c1 (u64.wrap ((a1.f1.length:Int))) t2076 e2077,trivial⟩ ?_
 refine AWp.seq ?_
 refine sR hP hn hm [(2,.any (iV .i64 (a1.f1.length:Int)))] [(15,bV ((a1.f1.length:Int)==(0:Int)))] [0,3,15] [] [0,2,3] [((a1.f1.map Z0a).length:Int)=(a1.f1.length:Int)] ⟨by rw[Zv],trivial⟩ ?_
 refine AWp.cond ((a1.f1.length:Int)==(0:Int)) (by kernel_rfl) (fun c2078 => ?_) (fun c2078 => ?_)
 ·replace H:=iT c2078 H
  refine AWp.conv (inv:=[(0,0),(3,2)]) (vk:=[]) (e0:=[]) (t:=⟨[],[(0,some (.box 49 [.own 2,iV .u64 t2076.2])),(2,some (.row 1 5 (t2076.1.map (Z1 .u8))))],2⟩) (by kernel_rfl) ?_
  refine AWp.ret ?_
  obtain rfl:=sj H
  exact rl (.inl rfl) rfl (by kernel_rfl) (by kernel_rfl)
 ·replace H:=iF c2078 H
  refine AWp.skip ?_
  obtain⟨t2081,e2082,H⟩:=Z4 H
  refine sR hP hn hm [(3,.call [(0,0),(3,1)] [(0,0),(2,4)] [] [4] 2 (.tup []) [(0,some (.box 49 [.own 2,iV .u64 t2081.2])),(1,none),(2,some (.row 1 5 (t2081.1.map (Z1 .u8))))])] [] [0,3] [(0,some (.box 49 [.own 4,iV .u64 t2081.2])),(4,some (.row 1 5 (t2081.1.map (Z1 .u8))))] [0,2,4] [_,_] ⟨Try.call18,Z00.ok t2076.1 t2076.2 a1.f0 t2081 e2082,trivial⟩ ?_
  refine sR hP hn hm [(2,.any (iV .i64 (a1.f1.length:Int)))] [(21,.im (.row (a1.f1.map Z0a))),(22,iV .i64 (a1.f1.length:Int)),(23,iV .i64 0)] [0,21,22,23] [] [0,4] [((a1.f1.map Z0a).length:Int)=(a1.f1.length:Int)] ⟨by rw[Zv],trivial⟩ ?_
  refine AWp.block ?_
  obtain⟨o2117,e2118,H⟩:=Z4 H
  refine AWp.loop (LWp.conv (inv:=[(0,0),(4,7)]) (vk:=[]) (e0:=[]) (t:=⟨[(0,.ptr 0 0 0),(21,.im (.row (a1.f1.map Z0a))),(22,iV .i64 (a1.f1.length:Int)),(23,iV .i64 0)],[(0,some (.box 49 [.own 7,iV .u64 t2081.2])),(7,some (.row 1 5 (t2081.1.map (Z1 .u8))))],2⟩) (by kernel_rfl) ?_)
  refine LWp.mono (Q:=fun e s=>(match (generalizing:=false) o2117 with | (x2115,x2116)=>e = .exit 0∧s=⟨[],[(0,some (.box 49 [.own 13,iV .u64 x2116])),(13,some (.row 1 5 (x2115.map (Z1 .u8))))],2⟩)) (LWp.cv (Z07 (fun body hbody => ?_))) ?_
  ·refine            Z0o.l0.partial_correctness a1 (motive:=fun x2094 x2095 x2096 o2117=>LWp Γ body (fun e s=>∃ t,Cv Γ s t∧(match (generalizing:=false) o2117 with | (x2115,x2116)=>e = .exit 0∧t=⟨[],[(0,some (.box 49 [.own 13,iV .u64 x2116])),(13,some (.row 1 5 (x2115.map (Z1     .u8))))],2⟩)) ⟨[(0,.ptr 0 0 0),(21,.im (.row (a1.f1.map Z0a  ))),(22,iV .i64 (a1.f1.length:Int)),(23,iV .i64 x2096)],[(0,some (.box 49 [.own 7,iV .u64 x2095])),(7,some (.row 1 5 (x2094.map (Z1     .u8))))],2⟩) ?_ _ _ _ _ e2118
   clear H e2118 o2117;intro self ih x2094 x2095 x2096 o2117 H
   subst hbody
   refine LWp.round ?_
   refine sO hP hn hm [] [(24,bV (decide (x2096<(a1.f1.length:Int))))] [0,21,22,23,24] [] [0,7] ?_
   refine AWp.seq ?_
   refine AWp.cond (decide (x2096<(a1.f1.length:Int))) (by kernel_rfl) (fun c2097 => ?_) (fun c2097 => ?_)
   ·replace H:=iT c2097 H
    refine AWp.skip ?_
    refine AWp.seq ?_
    refine AWp.block ?_
    obtain⟨b2101,p2102,q2103,H⟩:=Z0q H
    refine sR hP hn hm [(1,.c (Z0a b2101)),(3,.k 8)] [(4,iV .i64 x2096),(5,.ptr 8 0 0)] [0,4,5,21,22,23] [(8,some (.box 86 (aSpan b2101)))] [0,7,8] [_,_] ⟨p2102,Zu Z0a q2103,trivial⟩ ?_
    refine AWp.seq ?_
    refine sO hP hn hm [] [(29,bV (decide (x2096>(0:Int))))] [0,5,21,22,23,29] [] [0,7,8] ?_
    obtain⟨o2119,e2120,H⟩:=Z4 H
    refine AWp.mono (Q:=fun e s=>(match (generalizing:=false) o2119 with | (x2109,x2110)=>e = .normal∧s=⟨[(0,.ptr 0 0 0),(5,.ptr 11 0 0),(21,.im (.row (a1.f1.map Z0a))),(22,iV .i64 (a1.f1.length:Int)),(23,iV .i64 x2096)],[(0,some (.box 49 [.own 10,iV .u64 x2110])),(10,some (.row 1 5 (x2109.map (Z1 .u8)))),(11,some (.box 86 (aSpan b2101)))],2⟩)) (AWp.cv ?_) ?_
    ·replace H:=e2120;clear e2120
     refine AWp.cond (decide (x2096>(0:Int))) (by kernel_rfl) (fun c2104 => ?_) (fun c2104 => ?_)
     ·replace H:=iT c2104 H
      obtain⟨t2107,e2108,H⟩:=Z4 H
      refine rG hP hn hm [(5,.call [(0,0),(7,1)] [(0,0),(2,9)] [] [9] 2 (.tup []) [(0,some (.box 49 [.own 2,iV .u64 t2107.2])),(1,none),(2,some (.row 1 5 (t2107.1.map (Z1 .u8))))])] [] [0,5,21,22,23] [(0,some (.box 49 [.own 9,iV .u64 t2107.2])),(9,some (.row 1 5 (t2107.1.map (Z1 .u8))))] [0,8,9] [_,_] ⟨Try.call20,Zg.ok x2094 x2095 (u64.wrap (i64.wrap (b2101.f0-(1:Int)))) t2107 e2108,trivial⟩ ?_
      obtain rfl:=sj H
      exact lf [(0,0),(9,10),(8,11)] [] [] (by kernel_rfl) ⟨rfl,rfl⟩
     ·replace H:=iF c2104 H
      refine AWp.skip ?_
      obtain rfl:=sj H
      exact lf [(0,0),(7,10),(8,11)] [] [] (by kernel_rfl) ⟨rfl,rfl⟩
    ·obtain⟨x2109,x2110⟩:=o2119
     rintro e s ⟨rfl,rfl⟩
     obtain⟨t2113,e2114,H⟩:=Z4 H
     refine rG hP hn hm [(5,.call [(0,0),(10,1)] [(0,0),(2,12)] [] [12] 2 (.tup []) [(0,some (.box 49 [.own 2,iV .u64 t2113.2])),(1,none),(2,some (.row 1 5 (t2113.1.map (Z1 .u8))))])] [] [0,21,22,23] [(0,some (.box 49 [.own 12,iV .u64 t2113.2])),(12,some (.row 1 5 (t2113.1.map (Z1 .u8))))] [0,12] [_,_] ⟨Try.call20,Zg.ok x2109 x2110 (u64.wrap (i64.wrap (b2101.f1-(1:Int)))) t2113 e2114,trivial⟩ ?_
     refine rO hP hn hm [] [(23,iV .i64 (i64.wrap (x2096+(1:Int))))] [0,21,22,23] [] [0,12] ?_
     exact LWp.conv [(0,0),(12,7)] [] [] (by kernel_rfl) (ih _ _ _ _ H)
   ·replace H:=iF c2097 H
    refine AWp.exit ?_
    obtain rfl:=sj H
    exact lf [(0,0),(7,13)] [] [] (by kernel_rfl) ⟨rfl,rfl⟩
  ·obtain⟨x2115,x2116⟩:=o2117
   rintro e s ⟨rfl,rfl⟩
   obtain rfl:=sj H
   exact Exists.intro ⟨[],[(0,some (.box 49 [.own 2,iV .u64 x2116])),(2,some (.row 1 5 (x2115.map (Z1 .u8))))],2⟩ (And.intro (fun _ _ h=>h.conv (inv:=[(0,0),(13,2)]) (vk:=[]) (e0:=[]) (t:=⟨[],[(0,some (.box 49 [.own 2,iV .u64 x2116])),(2,some (.row 1 5 (x2115.map (Z1 .u8))))],2⟩) (by kernel_rfl)) (And.intro (.inr rfl) (And.intro rfl (And.intro (by kernel_rfl) (by kernel_rfl)))))
def Z09.l1 (b2209:Int) (t2146:List Int) (x2203:List Int) (x2204:Int) (x2224:List Z2):Option (List Z2):=((if(decide ((x2224.length:Int)>(0:Int)))=true then((at? x2224 0)>>=fun b2230=>some (decide (b2230.f0<b2209))) else(some false)):Option (Bool))>>=fun x2233=>if x2233=true then((chk (0≤(1:Int)∧(1:Int)≤(x2224.length:Int)∧(x2224.length:Int)≤(x2224.length:Int)))>>=fun _=>Z09.l1 b2209 t2146 x2203 x2204 ((x2224.drop (Int.toNat ((1:Int)))).take ((Int.toNat ((x2224.length:Int)))-(Int.toNat ((1:Int)))))) else(some x2224)
partial_fixpoint
def Z09.l0 (t2146:List Int) (x2202:List Z2) (x2203:List Int) (x2204:Int):Option (List Int):=if(decide (x2204<(t2146.length:Int)))=true then((at? t2146 x2204)>>=fun b2209=>(Z09.l1 b2209 t2146 x2203 x2204 x2202)>>=fun x2237=>((if(decide ((x2237.length:Int)>(0:Int)))=true then((at? x2237 0)>>=fun b2243=>some (b2243.f0==b2209)) else(some false)):Option (Bool))>>=fun x2246=>((if x2246=true then((at? x2237 0)>>=fun b2252=>(chk ((x2203.length+[b2252.f1].length)*8≤140737488355328))>>=fun _=>some (x2203++[b2252.f1])) else((chk ((x2203.length+[0].length)*8≤140737488355328))>>=fun _=>some (x2203++[0]))):Option (List Int))>>=fun x2258=>Z09.l0 t2146 x2237 x2258 (i64.wrap (x2204+(1:Int)))) else(some x2203)
partial_fixpoint
def Z09.f (a0:Z7) (a1:List Z2):Option (List Int):=(Zl.f a0)>>=fun t2146=>(Z09.l0 t2146 a1 [] 0)>>=fun x2259=>some x2259
theorem Z09.ok (a0:Z7) (a1:List Z2) (r:List Int) (H:Z09.f a0 a1=some r):Pv.Fn Try.prog 45 [.agg (Zb a0),.im (.row (a1.map Z0))] [] 0 (fun x o=>x = .own 0∧o=[(0,some (.row 1 33 (r.map (Z1 .u64))))]):=by
 unfold Z09.f at H
 refine Fn.bodyK [0] Try.func45 rfl rfl (fun Γ hP hn => ?_)
 have hm:Try.prog.follows .mixedOrders=true:=by kernel_rfl
 replace hn:Γ.n=51:=hn
 refine sO hP hn hm [(0,.k 0)] [(2,.ptr 0 0 0)] [1,2] [(0,some (.box 52 (Zb a0)))] [0] ?_
 refine sO hP hn hm [] [(5,.none0)] [1,2,5] [] [0] ?_
 refine AWp.seq ?_
 obtain⟨t2146,e2147,H⟩:=Z4 H
 refine sR hP hn hm [(1,.call [] [(0,1)] [] [1] 0 (.own 0) [(0,some (.row 1 3 (t2146.map (Z1 .i64))))]),(2,.any (iV .i64 (t2146.length:Int)))] [(9,.own 1),(10,iV .i64 (t2146.length:Int)),(11,iV .i64 0)] [1,5,9,10,11] [(1,some (.row 1 3 (t2146.map (Z1 .i64))))] [1] [_,_,((t2146.map (Z1 .i64)).length:Int)=(t2146.length:Int)] ⟨Try.call38,Zl.ok a0 t2146 e2147,by rw[Zv],trivial⟩ ?_
 refine AWp.block ?_
 obtain⟨o2260,e2261,H⟩:=Z4 H
 refine AWp.loop (LWp.conv (inv:=[(1,14)]) (vk:=[]) (e0:=[13]) (t:=⟨[(1,.im (.row (a1.map Z0))),(5,.own 13),(9,.own 14),(10,iV .i64 (t2146.length:Int)),(11,iV .i64 0)],[(13,some (.row 1 33 ([].map (Z1 .u64)))),(14,some (.row 1 3 (t2146.map (Z1 .i64))))],0⟩) (by kernel_rfl) ?_)
 refine LWp.mono (Q:=fun e s=>(match (generalizing:=false) o2260 with | x2259=>e = .exit 0∧s=⟨[(5,.own 31)],[(31,some (.row 1 33 (x2259.map (Z1 .u64))))],0⟩)) (LWp.cv (Z07 (fun body hbody => ?_))) ?_
 ·refine           Z09.l0.partial_correctness t2146 (motive:=fun x2202 x2203 x2204 o2260=>LWp Γ body (fun e s=>∃ t,Cv Γ s t∧(match (generalizing:=false) o2260 with | x2259=>e = .exit 0∧t=⟨[(5,.own 31)],[(31,some (.row 1 33 (x2259.map (Z1     .u64))))],0⟩)) ⟨[(1,.im (.row (x2202.map Z0     ))),(5,.own 13),(9,.own 14),(10,iV .i64 (t2146.length:Int)),(11,iV .i64 x2204)],[(13,some (.row 1 33 (x2203.map (Z1     .u64)))),(14,some (.row 1 3 (t2146.map (Z1     .i64))))],0⟩) ?_ _ _ _ _ e2261
  clear H e2261 o2260;intro self ih x2202 x2203 x2204 o2260 H
  subst hbody
  refine LWp.round ?_
  refine sO hP hn hm [] [(12,bV (decide (x2204<(t2146.length:Int))))] [1,5,9,10,11,12] [] [13,14] ?_
  refine AWp.seq ?_
  refine AWp.cond (decide (x2204<(t2146.length:Int))) (by kernel_rfl) (fun c2205 => ?_) (fun c2205 => ?_)
  ·replace H:=iT c2205 H
   refine AWp.skip ?_
   refine AWp.seq ?_
   refine AWp.block ?_
   obtain⟨b2209,p2210,q2211,H⟩:=Z0q H
   refine sR hP hn hm [(1,.c ((Z1 .i64) b2209))] [(7,iV .i64 b2209)] [1,5,7,9,10,11] [] [13,14] [_,_,_] ⟨p2210,Z1m (Z1 .i64) p2210 q2211,Zu (Z1 .i64) q2211,trivial⟩ ?_
   refine AWp.seq ?_
   refine AWp.block ?_
   obtain⟨o2262,e2263,H⟩:=Z4 H
   refine AWp.loop (LWp.conv (inv:=[(13,17),(14,18)]) (vk:=[]) (e0:=[]) (t:=⟨[(1,.im (.row (x2202.map Z0))),(5,.own 17),(7,iV .i64 b2209),(9,.own 18),(10,iV .i64 (t2146.length:Int)),(11,iV .i64 x2204)],[(17,some (.row 1 33 (x2203.map (Z1 .u64)))),(18,some (.row 1 3 (t2146.map (Z1 .i64))))],0⟩) (by kernel_rfl) ?_)
   refine LWp.mono (Q:=fun e s=>(match (generalizing:=false) o2262 with | x2237=>e = .exit 2∧s=⟨[(1,.im (.row (x2237.map Z0))),(5,.own 21),(7,iV .i64 b2209),(9,.own 22),(10,iV .i64 (t2146.length:Int)),(11,iV .i64 x2204)],[(21,some (.row 1 33 (x2203.map (Z1 .u64)))),(22,some (.row 1 3 (t2146.map (Z1 .i64))))],0⟩)) (LWp.cv (Z07 (fun body hbody => ?_))) ?_
   ·refine           Z09.l1.partial_correctness b2209 t2146 x2203 x2204 (motive:=fun x2224 o2262=>LWp Γ body (fun e s=>∃ t,Cv Γ s t∧(match (generalizing:=false) o2262 with | x2237=>e = .exit 2∧t=⟨[(1,.im (.row (x2237.map Z0     ))),(5,.own 21),(7,iV .i64 b2209),(9,.own 22),(10,iV .i64 (t2146.length:Int)),(11,iV .i64 x2204)],[(21,some (.row 1 33 (x2203.map (Z1     .u64)))),(22,some (.row 1 3 (t2146.map (Z1     .i64))))],0⟩)) ⟨[(1,.im (.row (x2224.map Z0     ))),(5,.own 17),(7,iV .i64 b2209),(9,.own 18),(10,iV .i64 (t2146.length:Int)),(11,iV .i64 x2204)],[(17,some (.row 1 33 (x2203.map (Z1     .u64)))),(18,some (.row 1 3 (t2146.map (Z1     .i64))))],0⟩) ?_ _ _ e2263
    clear H e2263 o2262;intro self ih x2224 o2262 H
    subst hbody
    refine LWp.round ?_
    refine AWp.seq ?_
    refine AWp.seq ?_
    obtain⟨o2264,e2265,H⟩:=Z4 H
    refine AWp.mono (Q:=fun e s=>(match (generalizing:=false) o2264 with | x2233=>e = .normal∧s=⟨[(1,.im (.row (x2224.map Z0))),(5,.own 19),(7,iV .i64 b2209),(9,.own 20),(10,iV .i64 (t2146.length:Int)),(11,iV .i64 x2204),(25,bV x2233)],[(19,some (.row 1 33 (x2203.map (Z1 .u64)))),(20,some (.row 1 3 (t2146.map (Z1 .i64))))],0⟩)) (AWp.cv ?_) ?_
    ·replace H:=e2265;clear e2265
     rcases Bool.eq_false_or_eq_true (decide ((x2224.length:Int)>(0:Int))) with c2229 | c2229
     ·replace H:=iT c2229 H
      obtain⟨b2230,p2231,q2232,H⟩:=Z0q H
      refine rG hP hn hm [(1,.any (iV .i64 (x2224.length:Int))),(3,.b true),(5,.c (Z0 b2230))] [(19,.im (.row (x2224.map Z0))),(20,.ip [iI .i64 b2230.f0,iI .u64 b2230.f1]),(21,.ip [iI .i64 b2230.f0,iI .u64 b2230.f1]),(22,iV .i64 b2230.f0),(23,iV .i64 b2209),(24,bV (decide (b2230.f0<b2209))),(25,bV (decide (b2230.f0<b2209)))] [1,5,7,9,10,11,19,20,21,22,23,24,25] [] [17,18] [((x2224.map Z0).length:Int)=(x2224.length:Int),_,_,_] ⟨by rw[Zv],c2229,p2231,Zu Z0 q2232,trivial⟩ ?_
      obtain rfl:=sj H
      exact lf [(17,19),(18,20)] [] [] (by kernel_rfl) ⟨rfl,rfl⟩
     ·replace H:=iF c2229 H
      refine rG hP hn hm [(1,.any (iV .i64 (x2224.length:Int))),(3,.b false)] [(25,bV false)] [1,5,7,9,10,11,25] [] [17,18] [((x2224.map Z0).length:Int)=(x2224.length:Int),_] ⟨by rw[Zv],c2229,trivial⟩ ?_
      obtain rfl:=sj H
      exact lf [(17,19),(18,20)] [] [] (by kernel_rfl) ⟨rfl,rfl⟩
    ·obtain⟨x2233,rfl⟩:∃ z,z=o2264:=⟨_,rfl⟩
     rintro e s ⟨rfl,rfl⟩
     refine AWp.cond x2233 (by kernel_rfl) (fun c2234 => ?_) (fun c2234 => ?_)
     ·replace H:=iT c2234 H
      refine AWp.skip ?_
      refine AWp.block ?_
      obtain⟨c2236,H⟩:=Z17 H
      refine rG hP hn hm [(1,.rows (((x2224.drop (Int.toNat ((1:Int)))).take ((Int.toNat ((x2224.length:Int)))-(Int.toNat ((1:Int))))).map Z0))] [(1,.im (.row (((x2224.drop (Int.toNat ((1:Int)))).take ((Int.toNat ((x2224.length:Int)))-(Int.toNat ((1:Int))))).map Z0)))] [1,5,7,9,10,11] [] [19,20] [0≤(1:Int),(1:Int)≤((x2224.map Z0).length:Int),((x2224.map Z0).length:Int)≤((x2224.map Z0).length:Int),∀ c∈x2224.map Z0,c.length=2,((x2224.drop (Int.toNat ((1:Int)))).take ((Int.toNat ((x2224.length:Int)))-(Int.toNat ((1:Int))))).map Z0=((x2224.map Z0).drop (Int.toNat ((1:Int)))).take ((Int.toNat (((x2224.map Z0).length:Int)))-(Int.toNat ((1:Int))))] ⟨by exact c2236.1,by simpa using c2236.2.1,by simpa using c2236.2.2,by exact Z13 _ _ _ (fun _=>rfl),by simp[cut1],trivial⟩ ?_
      exact LWp.conv [(19,17),(20,18)] [] [] (by kernel_rfl) (ih _ _ H)
     ·replace H:=iF c2234 H
      refine AWp.exit ?_
      obtain rfl:=sj H
      exact lf [(19,21),(20,22)] [] [] (by kernel_rfl) ⟨rfl,rfl⟩
   ·obtain⟨x2237,rfl⟩:∃ z,z=o2262:=⟨_,rfl⟩
    rintro e s ⟨rfl,rfl⟩
    refine AWp.seq ?_
    obtain⟨o2266,e2267,H⟩:=Z4 H
    refine AWp.mono (Q:=fun e s=>(match (generalizing:=false) o2266 with | x2246=>e = .normal∧s=⟨[(1,.im (.row (x2237.map Z0))),(5,.own 23),(9,.own 24),(10,iV .i64 (t2146.length:Int)),(11,iV .i64 x2204),(38,bV x2246)],[(23,some (.row 1 33 (x2203.map (Z1 .u64)))),(24,some (.row 1 3 (t2146.map (Z1 .i64))))],0⟩)) (AWp.cv ?_) ?_
    ·replace H:=e2267;clear e2267
     rcases Bool.eq_false_or_eq_true (decide ((x2237.length:Int)>(0:Int))) with c2242 | c2242
     ·replace H:=iT c2242 H
      obtain⟨b2243,p2244,q2245,H⟩:=Z0q H
      refine rG hP hn hm [(1,.any (iV .i64 (x2237.length:Int))),(3,.b true),(5,.c (Z0 b2243))] [(32,.im (.row (x2237.map Z0))),(33,.ip [iI .i64 b2243.f0,iI .u64 b2243.f1]),(34,.ip [iI .i64 b2243.f0,iI .u64 b2243.f1]),(35,iV .i64 b2243.f0),(36,iV .i64 b2209),(37,bV (b2243.f0==b2209)),(38,bV (b2243.f0==b2209))] [1,5,9,10,11,32,33,34,35,36,37,38] [] [21,22] [((x2237.map Z0).length:Int)=(x2237.length:Int),_,_,_] ⟨by rw[Zv],c2242,p2244,Zu Z0 q2245,trivial⟩ ?_
      obtain rfl:=sj H
      exact lf [(21,23),(22,24)] [] [] (by kernel_rfl) ⟨rfl,rfl⟩
     ·replace H:=iF c2242 H
      refine rG hP hn hm [(1,.any (iV .i64 (x2237.length:Int))),(3,.b false)] [(38,bV false)] [1,5,9,10,11,38] [] [21,22] [((x2237.map Z0).length:Int)=(x2237.length:Int),_] ⟨by rw[Zv],c2242,trivial⟩ ?_
      obtain rfl:=sj H
      exact lf [(21,23),(22,24)] [] [] (by kernel_rfl) ⟨rfl,rfl⟩
    ·obtain⟨x2246,rfl⟩:∃ z,z=o2266:=⟨_,rfl⟩
     rintro e s ⟨rfl,rfl⟩
     obtain⟨o2268,e2269,H⟩:=Z4 H
     refine AWp.mono (Q:=fun e s=>(match (generalizing:=false) o2268 with | x2258=>e = .normal∧s=⟨[(1,.im (.row (x2237.map Z0))),(5,.own 29),(9,.own 30),(10,iV .i64 (t2146.length:Int)),(11,iV .i64 x2204)],[(29,some (.row 1 33 (x2258.map (Z1 .u64)))),(30,some (.row 1 3 (t2146.map (Z1 .i64))))],0⟩)) (AWp.cv ?_) ?_
     ·replace H:=e2269;clear e2269
      refine AWp.cond x2246 (by kernel_rfl) (fun c2247 => ?_) (fun c2247 => ?_)
      ·replace H:=iT c2247 H
       obtain⟨b2252,p2253,q2254,H⟩:=Z0q H
       obtain⟨c2255,H⟩:=Z17 H
       refine rG hP hn hm [(2,.c (Z0 b2252)),(5,.app 25 ([b2252.f1].map (Z1 .u64))),(6,.app 26 ((x2203++[b2252.f1]).map (Z1 .u64)))] [(5,.own 26)] [1,5,9,10,11] [(26,some (.row 1 33 ((x2203++[b2252.f1]).map (Z1 .u64))))] [24,26] [_,_,[b2252.f1].map (Z1 .u64)=[[iI .u64 b2252.f1]],(x2203++[b2252.f1]).map (Z1 .u64)=(x2203.map (Z1 .u64))++([b2252.f1].map (Z1 .u64)),∀ c∈([b2252.f1].map (Z1 .u64)),c.length=1,∀ c∈([b2252.f1].map (Z1 .u64)),Z12 (c.map .im)=true,((x2203.map (Z1 .u64)).length+([b2252.f1].map (Z1 .u64)).length)*8≤140737488355328] ⟨p2253,Zu Z0 q2254,by exact rfl,by simp,by exact Z13 _ _ _ (fun _=>rfl),by exact Z16 _ _ (fun _=>rfl),by simpa using c2255,trivial⟩ ?_
       obtain rfl:=sj H
       exact lf [(26,29),(24,30)] [] [] (by kernel_rfl) ⟨rfl,rfl⟩
      ·replace H:=iF c2247 H
       obtain⟨c2257,H⟩:=Z17 H
       refine rG hP hn hm [(1,.app 27 ([0].map (Z1 .u64))),(2,.app 28 ((x2203++[0]).map (Z1 .u64)))] [(5,.own 28)] [1,5,9,10,11] [(28,some (.row 1 33 ((x2203++[0]).map (Z1 .u64))))] [24,28] [[0].map (Z1 .u64)=[[iI .u64 0]],(x2203++[0]).map (Z1 .u64)=(x2203.map (Z1 .u64))++([0].map (Z1 .u64)),∀ c∈([0].map (Z1 .u64)),c.length=1,∀ c∈([0].map (Z1 .u64)),Z12 (c.map .im)=true,((x2203.map (Z1 .u64)).length+([0].map (Z1 .u64)).length)*8≤140737488355328] ⟨by exact rfl,by simp,by exact Z13 _ _ _ (fun _=>rfl),by exact Z16 _ _ (fun _=>rfl),by simpa using c2257,trivial⟩ ?_
       obtain rfl:=sj H
       exact lf [(28,29),(24,30)] [] [] (by kernel_rfl) ⟨rfl,rfl⟩
     ·obtain⟨x2258,rfl⟩:∃ z,z=o2268:=⟨_,rfl⟩
      rintro e s ⟨rfl,rfl⟩
      refine rO hP hn hm [] [(11,iV .i64 (i64.wrap (x2204+(1:Int))))] [1,5,9,10,11] [] [29,30] ?_
      exact LWp.conv [(29,13),(30,14)] [] [] (by kernel_rfl) (ih _ _ _ _ H)
  ·replace H:=iF c2205 H
   refine AWp.exit ?_
   obtain rfl:=sj H
   exact lf [(13,31)] [] [] (by kernel_rfl) ⟨rfl,rfl⟩
 ·obtain⟨x2259,rfl⟩:∃ z,z=o2260:=⟨_,rfl⟩
  rintro e s ⟨rfl,rfl⟩
  refine sO hP hn hm [] [(4,.own 31)] [4] [] [31] ?_
  refine AWp.conv (inv:=[(31,0)]) (vk:=[]) (e0:=[]) (t:=⟨[(4,.own 0)],[(0,some (.row 1 33 (x2259.map (Z1 .u64))))],0⟩) (by kernel_rfl) ?_
  refine AWp.ret ?_
  obtain rfl:=sj H
  exact rl (.inl rfl) rfl (by kernel_rfl) (by kernel_rfl)
def Z2n.f (a0:Zp) (a1:Z7) (a2:Z7):Option (List Int):=(Z09.f a1 a0.f6)>>=fun t2273=>(chk (([a0.f3,u64.wrap (a0.f5)].length+t2273.length)*8≤140737488355328))>>=fun _=>(Z09.f a2 a0.f7)>>=fun t2279=>(chk ((([a0.f3,u64.wrap (a0.f5)]++t2273).length+t2279.length)*8≤140737488355328))>>=fun _=>some (([a0.f3,u64.wrap (a0.f5)]++t2273)++t2279)
theorem Z2n.ok (a0:Zp) (a1:Z7) (a2:Z7) (r:List Int) (H:Z2n.f a0 a1 a2=some r):Pv.Fn Try.prog 21 [.agg (Zx a0),.agg (Zb a1),.agg (Zb a2)] [] 0 (fun x o=>x = .own 0∧o=[(0,some (.row 1 33 (r.map (Z1 .u64))))]):=by
 unfold Z2n.f at H
 refine Fn.bodyK [0] Try.func21 rfl rfl (fun Γ hP hn => ?_)
 have hm:Try.prog.follows .mixedOrders=true:=by kernel_rfl
 replace hn:Γ.n=26:=hn
 refine sO hP hn hm [(0,.k 0),(1,.k 1),(2,.k 2)] [(3,.ptr 0 0 0),(4,.ptr 1 0 0),(5,.ptr 2 0 0)] [3,4,5] [(0,some (.box 36 (Zx a0))),(1,some (.box 52 (Zb a1))),(2,some (.box 52 (Zb a2)))] [0,1,2] ?_
 refine sR hP hn hm [(5,.app 3 ([a0.f3,u64.wrap (a0.f5)].map (Z1 .u64)))] [(7,.own 3)] [3,4,5,7] [(3,some (.row 1 33 ([a0.f3,u64.wrap (a0.f5)].map (Z1 .u64))))] [0,1,2,3] [[a0.f3,u64.wrap (a0.f5)].map (Z1 .u64)=[[iI .u64 a0.f3],[iI .u64 (u64.wrap (a0.f5))]]] ⟨by exact rfl,trivial⟩ ?_
 obtain⟨t2273,e2274,H⟩:=Z4 H
 obtain⟨c2275,H⟩:=Z17 H
 refine sR hP hn hm [(4,.call [] [(0,4)] [] [4] 0 (.own 0) [(0,some (.row 1 33 (t2273.map (Z1 .u64))))]),(5,.app 5 (([a0.f3,u64.wrap (a0.f5)]++t2273).map (Z1 .u64)))] [(7,.own 5)] [3,5,7] [(5,some (.row 1 33 (([a0.f3,u64.wrap (a0.f5)]++t2273).map (Z1 .u64))))] [0,2,5] [_,_,([a0.f3,u64.wrap (a0.f5)]++t2273).map (Z1 .u64)=([a0.f3,u64.wrap (a0.f5)].map (Z1 .u64))++(t2273.map (Z1 .u64)),∀ c∈(t2273.map (Z1 .u64)),c.length=1,∀ c∈(t2273.map (Z1 .u64)),Z12 (c.map .im)=true,(([a0.f3,u64.wrap (a0.f5)].map (Z1 .u64)).length+(t2273.map (Z1 .u64)).length)*8≤140737488355328] ⟨Try.call45,Z09.ok a1 a0.f6 t2273 e2274,by simp,by exact Z13 _ _ _ (fun _=>rfl),by exact Z16 _ _ (fun _=>rfl),by simpa using c2275,trivial⟩ ?_
 obtain⟨t2279,e2280,H⟩:=Z4 H
 obtain⟨c2281,H⟩:=Z17 H
 refine sR hP hn hm [(4,.call [] [(0,6)] [] [6] 0 (.own 0) [(0,some (.row 1 33 (t2279.map (Z1 .u64))))]),(5,.app 7 ((([a0.f3,u64.wrap (a0.f5)]++t2273)++t2279).map (Z1 .u64)))] [(6,.own 7)] [6] [(7,some (.row 1 33 ((([a0.f3,u64.wrap (a0.f5)]++t2273)++t2279).map (Z1 .u64))))] [7] [_,_,(([a0.f3,u64.wrap (a0.f5)]++t2273)++t2279).map (Z1 .u64)=(([a0.f3,u64.wrap (a0.f5)]++t2273).map (Z1 .u64))++(t2279.map (Z1 .u64)),∀ c∈(t2279.map (Z1 .u64)),c.length=1,∀ c∈(t2279.map (Z1 .u64)),Z12 (c.map .im)=true,((([a0.f3,u64.wrap (a0.f5)]++t2273).map (Z1 .u64)).length+(t2279.map (Z1 .u64)).length)*8≤140737488355328] ⟨Try.call45,Z09.ok a2 a0.f7 t2279 e2280,by simp,by exact Z13 _ _ _ (fun _=>rfl),by exact Z16 _ _ (fun _=>rfl),by simpa using c2281,trivial⟩ ?_
 refine AWp.conv (inv:=[(7,0)]) (vk:=[]) (e0:=[]) (t:=⟨[(6,.own 0)],[(0,some (.row 1 33 ((([a0.f3,u64.wrap (a0.f5)]++t2273)++t2279).map (Z1 .u64))))],0⟩) (by kernel_rfl) ?_
 refine AWp.ret ?_
 obtain rfl:=sj H
 exact rl (.inl rfl) rfl (by kernel_rfl) (by kernel_rfl)
def Z1q.f (a0:List Int):Option (List Int):=(chk ((([]:List Int).length+a0.length)*1≤140737488355328))>>=fun _=>some a0
theorem Z1q.ok (a0 r:List Int) (H:Z1q.f a0=some r):Pv.Fn Try.prog 46 [.im (.row (a0.map (Z1 .u8)))] [] 0 (fun x o=>x = .own 0∧o=[(0,some (.row 1 5 (r.map (Z1 .u8))))]):=by
 unfold Z1q.f at H
 obtain⟨c1,H⟩:=Z17 H
 obtain rfl:=sj H
 refine Fn.bodyK [0] Try.func46 rfl rfl (fun Γ hP hn => ?_)
 have hm:Try.prog.follows .mixedOrders=true:=by kernel_rfl
 replace hn:Γ.n=8:=hn
 refine AWp.seq ?_
 refine reg hP hn hm [] [0,2] [] ⟨[(0,.im (.row (a0.map (Z1 .u8)))),(2,.none0)],[],0⟩ [] (by kernel_rfl) trivial ?_
 refine AWp.seq ?_
 cases a0 with
 | nil =>
  refine AWp.nilSplit 0 rfl (fun b m => ?_)
  refine AWp.seq ?_
  cases b with
  | none =>
   refine reg hP hn hm [(1,.more xNil)] [2,4] [] ⟨[(2,.none0),(4,bV true)],[],0⟩ [] (by kernel_rfl) trivial ?_
   refine AWp.cond true rfl (fun _ => ?_) (fun h=>nomatch h)
   refine AWp.seq ?_
   refine reg hP hn hm [] [2] [] ⟨[(2,.none0)],[],0⟩ [] (by kernel_rfl) trivial ?_
   refine AWp.conv (inv:=[]) (vk:=[]) (e0:=[0]) (t:=⟨[(2,.own 0)],[(0,some (.row 1 5 []))],0⟩) (by kernel_rfl) ?_
   refine AWp.ret ?_
   exact Exists.intro _ (And.intro (fun _ _ h=>h) (And.intro (.inl rfl) (And.intro rfl (And.intro (by kernel_rfl) (by kernel_rfl)))))
  | some b =>
   refine reg hP hn hm [(1,.more xNil)] [0,2,4] [] ⟨[(0,.im (.sc (.slice (some b) 0 m))),(2,.none0),(4,bV false)],[],0⟩ [] (by kernel_rfl) trivial ?_
   refine AWp.cond false rfl (fun h=>nomatch h) (fun _ => ?_)
   refine AWp.skip ?_
   refine AWp.unsplit 0 rfl ?_
   refine AWp.seq ?_
   refine reg hP hn hm [(0,.app 0 ([]:List (List Im))),(2,.app 1 (([]:List Int).map (Z1 .u8)))] [2] [1] ⟨[(2,.own 1)],[(1,some (.row 1 5 (([]:List Int).map (Z1 .u8))))],0⟩ [([]:List (List Im))=[],([]:List Int).map (Z1 .u8)=([]:List (List Im))++([]:List Int).map (Z1 .u8),∀ c∈([]:List Int).map (Z1 .u8),c.length=1,∀ c∈([]:List Int).map (Z1 .u8),Z12 (c.map .im)=true,(([]:List (List Im)).length+(([]:List Int).map (Z1 .u8)).length)*1≤140737488355328] (by kernel_rfl) ⟨rfl,by simp,by exact Z13 _ _ _ (fun _=>rfl),by exact Z16 _ _ (fun _=>rfl),by simpa using c1,trivial⟩ ?_
   refine AWp.conv (inv:=[(1,0)]) (vk:=[]) (e0:=[]) (t:=⟨[(2,.own 0)],[(0,some (.row 1 5 (([]:List Int).map (Z1 .u8))))],0⟩) (by kernel_rfl) ?_
   refine AWp.ret ?_
   exact Exists.intro _ (And.intro (fun _ _ h=>h) (And.intro (.inl rfl) (And.intro rfl (And.intro (by kernel_rfl) (by kernel_rfl)))))
 | cons y l =>
  refine AWp.seq ?_
  refine reg hP hn hm [(1,.more xNil)] [0,2,4] [] ⟨[(0,.im (.row ((y::l).map (Z1 .u8)))),(2,.none0),(4,bV false)],[],0⟩ [] (by kernel_rfl) trivial ?_
  refine AWp.cond false rfl (fun h=>nomatch h) (fun _ => ?_)
  refine AWp.skip ?_
  refine AWp.seq ?_
  refine reg hP hn hm [(0,.app 0 ([]:List (List Im))),(2,.app 1 ((y::l).map (Z1 .u8)))] [2] [1] ⟨[(2,.own 1)],[(1,some (.row 1 5 ((y::l).map (Z1 .u8))))],0⟩ [([]:List (List Im))=[],(y::l).map (Z1 .u8)=([]:List (List Im))++(y::l).map (Z1 .u8),∀ c∈(y::l).map (Z1 .u8),c.length=1,∀ c∈(y::l).map (Z1 .u8),Z12 (c.map .im)=true,(([]:List (List Im)).length+((y::l).map (Z1 .u8)).length)*1≤140737488355328] (by kernel_rfl) ⟨rfl,by simp,by exact Z13 _ _ _ (fun _=>rfl),by exact Z16 _ _ (fun _=>rfl),by simpa using c1,trivial⟩ ?_
  refine AWp.conv (inv:=[(1,0)]) (vk:=[]) (e0:=[]) (t:=⟨[(2,.own 0)],[(0,some (.row 1 5 ((y::l).map (Z1 .u8))))],0⟩) (by kernel_rfl) ?_
  refine AWp.ret ?_
  exact Exists.intro _ (And.intro (fun _ _ h=>h) (And.intro (.inl rfl) (And.intro rfl (And.intro (by kernel_rfl) (by kernel_rfl)))))
def Z14.f (a0_c0:List Int) (a0_c1:Int):Option (List Int):=(Z1q.f a0_c0)>>=fun t2506=>some t2506
theorem Z14.ok (a0_c0:List Int) (a0_c1:Int) (r:List Int) (H:Z14.f a0_c0 a0_c1=some r):Pv.Fn Try.prog 22 [.ptr 0 0 0] [(0,some (.box 49 [.own 1,iV .u64 a0_c1])),(1,some (.row 1 5 (a0_c0.map (Z1 .u8))))] 2 (fun x o=>x = .own 2∧o=[(0,some (.box 49 [.own 1,iV .u64 a0_c1])),(1,some (.row 1 5 (a0_c0.map (Z1 .u8)))),(2,some (.row 1 5 (r.map (Z1 .u8))))]):=by
 unfold Z14.f at H
 refine Fn.bodyK [0,1,2] Try.func22 rfl rfl (fun Γ hP hn => ?_)
 have hm:Try.prog.follows .mixedOrders=true:=by kernel_rfl
 replace hn:Γ.n=8:=hn
 refine sO hP hn hm [] [] [0] [] [0,1] ?_
 obtain⟨t2506,e2507,H⟩:=Z4 H
 refine sR hP hn hm [(4,.more (Z4p [] [(0,2)] [1] [2] 0 (.own 0) [(0,some (.row 1 5 (t2506.map (Z1 .u8))))]))] [(2,.own 2)] [2] [(2,some (.row 1 5 (t2506.map (Z1 .u8))))] [0,1,2] [_,_,∀ c∈t2506.map (Z1 .u8),∀ x∈c,∃ v,x=Im.sc v] ⟨Try.call46,Z1q.ok a0_c0 t2506 e2507,by exact Z4y _ _ (fun _=>by simp),trivial⟩ ?_
 refine AWp.conv (inv:=[(0,0),(1,1),(2,2)]) (vk:=[]) (e0:=[]) (t:=⟨[(2,.own 2)],[(0,some (.box 49 [.own 1,iV .u64 a0_c1])),(1,some (.row 1 5 (a0_c0.map (Z1 .u8)))),(2,some (.row 1 5 (t2506.map (Z1 .u8))))],2⟩) (by kernel_rfl) ?_
 refine AWp.ret ?_
 obtain rfl:=sj H
 exact rl (.inl rfl) rfl (by kernel_rfl) (by kernel_rfl)
def Zm.l1 (a0:List Zh) (b2330:Zh) (t1865:Z7×Z7) (t2335:List Int) (x2321:List Int) (x2322:List Int) (x2323:Int) (x2325:Int) (x2426:List Int) (x2427:Int) (x2428:List Int) (x2429:Int):Option ((List Int)×Int×(List Int)):=if(decide (x2429<(t2335.length:Int)))=true then((at? t2335 x2429)>>=fun b2434=>((if(x2325==(0:Int))=true then((Zg.f x2426 x2427 b2434)>>=fun t2440=>some (t2440.1,t2440.2,x2428)) else(((if(x2325==(1:Int))=true then((at? x2321 x2429)>>=fun b2449=>(at? x2428 x2429)>>=fun b2452=>(at? (x2428.set (Int.toNat (x2429)) (u64.wrap (b2434-b2449))) x2429)>>=fun b2460=>(Z00.f x2426 x2427 (i64.wrap (b2460)))>>=fun t2463=>some (t2463.1,t2463.2,x2428.set (Int.toNat (x2429)) (u64.wrap (b2434-b2449)))) else((at? x2321 x2429)>>=fun b2471=>(at? x2428 x2429)>>=fun b2474=>(at? (x2428.set (Int.toNat (x2429)) (u64.wrap (b2434-b2471))) x2429)>>=fun b2485=>(at? x2322 x2429)>>=fun b2488=>(Z00.f x2426 x2427 (i64.wrap (u64.wrap (b2485-b2488))))>>=fun t2491=>some (t2491.1,t2491.2,x2428.set (Int.toNat (x2429)) (u64.wrap (b2434-b2471))))):Option ((List Int)×Int×(List Int)))>>=fun oo=>match oo with | (x2493,x2494,x2495)=>(some (x2493,x2494,x2495)))):Option ((List Int)×Int×(List Int)))>>=fun oo=>match oo with | (x2496,x2497,x2498)=>(Zm.l1 a0 b2330 t1865 t2335 x2321 x2322 x2323 x2325 x2496 x2497 x2498 (i64.wrap (x2429+(1:Int))))) else(some (x2426,x2427,x2428))
partial_fixpoint
def Zm.l0 (a0:List Zh) (t1865:Z7×Z7) (x2319:List Int) (x2320:Int) (x2321:List Int) (x2322:List Int) (x2323:Int) (x2324:Int) (x2325:Int):Option ((List Int)×Int):=if(decide (x2325<(a0.length:Int)))=true then((at? a0 x2325)>>=fun b2330=>(Z2n.f b2330.f1 (t1865.1) (t1865.2))>>=fun t2335=>((if(x2325==(0:Int))=true then((Zg.f x2319 x2320 (u64.wrap (b2330.f0)))>>=fun t2340=>some (t2340.1,t2340.2)) else(((if(x2325==(1:Int))=true then((Zg.f x2319 x2320 (u64.wrap (i64.wrap ((i64.wrap (b2330.f0-x2323))-(1:Int)))))>>=fun t2345=>some (t2345.1,t2345.2)) else((Z00.f x2319 x2320 (i64.wrap ((i64.wrap (b2330.f0-x2323))-x2324)))>>=fun t2349=>some (t2349.1,t2349.2))):Option ((List Int)×Int))>>=fun oo=>match oo with | (x2351,x2352)=>(some (x2351,x2352)))):Option ((List Int)×Int))>>=fun oo=>match oo with | (x2353,x2354)=>((chk (0≤(t2335.length:Int)∧(t2335.length:Int)≤(t2335.length:Int)∧((8:Nat):Int)*(t2335.length:Int)≤281474976710656∧(t2335.length:Int)≤9223372036854775807))>>=fun _=>(Zm.l1 a0 b2330 t1865 t2335 x2321 x2322 x2323 x2325 x2353 x2354 (List.replicate (Int.toNat (t2335.length:Int)) 0) 0)>>=fun oo=>match oo with | (x2499,x2500,x2501)=>(Zm.l0 a0 t1865 x2499 x2500 t2335 x2501 b2330.f0 (i64.wrap (b2330.f0-x2323)) (i64.wrap (x2325+(1:Int)))))) else(some (x2319,x2320))
partial_fixpoint
def Zm.f (a0:List Zh):Option ((List Int)×Int):=(Z0e.f a0)>>=fun t1854=>if(t1854 != (0:Int))=true then(some ([],t1854)) else((at? a0 0)>>=fun b1860=>(Z0h.f a0)>>=fun t1865=>(Z1h.f 0 (b1860.f1.f0==(1:Int)))>>=fun t1888=>(Zw.f t1888.1 t1888.2 (u64.wrap (i64.wrap (b1860.f1.f1-(-4)))) 4)>>=fun t1932=>(Z00.f t1932.1 t1932.2 b1860.f1.f2)>>=fun t2072=>(Z0o.f t2072.1 t2072.2 (t1865.1))>>=fun t2125=>(Z0o.f t2125.1 t2125.2 (t1865.2))>>=fun t2131=>(Zg.f t2131.1 t2131.2 (u64.wrap (i64.wrap ((a0.length:Int)-(1:Int)))))>>=fun t2135=>(Zm.l0 a0 t1865 t2135.1 t2135.2 [] [] 0 0 0)>>=fun oo=>match oo with | (x2502,x2503)=>((Z14.f x2502 x2503)>>=fun t2510=>some (t2510,0)))
theorem Zm.ok (a0:List Zh) (r:(List Int)×Int) (H:Zm.f a0=some r):Pv.Fn Try.prog 7 [.im (.row (a0.map Zc))] [] 0 (fun x o=>x = .tup [.own 0,iV .i64 r.2]∧o=[(0,some (.row 1 5 (r.1.map (Z1 .u8))))]):=by
 unfold Zm.f at H
 refine Fn.bodyK [0] Try.func7 rfl rfl (fun Γ hP hn => ?_)
 have hm:Try.prog.follows .mixedOrders=true:=by kernel_rfl
 replace hn:Γ.n=167:=hn
 refine sO hP hn hm [] [] [0] [] [] ?_
 refine AWp.seq ?_
 obtain⟨t1854,e1855,H⟩:=Z4 H
 refine sR hP hn hm [(1,.call [] [] [] [] 0 (iV .i64 t1854) [])] [(4,iV .i64 t1854)] [0,4] [] [] [_,_] ⟨Try.call10,Z0e.ok a0 t1854 e1855,trivial⟩ ?_
 refine sO hP hn hm [] [(22,bV (t1854 != (0:Int)))] [0,4,22] [] [] ?_
 refine AWp.cond (t1854 != (0:Int)) (by kernel_rfl) (fun c1856 => ?_) (fun c1856 => ?_)
 ·replace H:=iT c1856 H
  refine sO hP hn hm [] [(2,.none0),(3,iV .i64 t1854)] [2,3] [] [] ?_
  refine AWp.conv (inv:=[]) (vk:=[]) (e0:=[0]) (t:=⟨[(2,.own 0),(3,iV .i64 t1854)],[(0,some (.row 1 5 ([].map (Z1 .u8))))],0⟩) (by kernel_rfl) ?_
  refine AWp.ret ?_
  obtain rfl:=sj H
  exact rl (.inl rfl) rfl (by kernel_rfl) (by kernel_rfl)
 ·replace H:=iF c1856 H
  refine AWp.skip ?_
  refine sO hP hn hm [(1,.k 0)] [(5,.ptr 0 0 0)] [0,5] [(0,some (.box 49 [.none0,iV .u64 0]))] [0] ?_
  obtain⟨b1860,p1861,q1862,H⟩:=Z0q H
  refine sR hP hn hm [(1,.c (Zc b1860)),(4,.k 1)] [(6,.ptr 1 0 0)] [0,5,6] [(1,some (.box 36 (Zx b1860.f1)))] [0,1] [_,_] ⟨p1861,Zu Zc q1862,trivial⟩ ?_
  obtain⟨t1865,e1866,H⟩:=Z4 H
  refine sR hP hn hm [(1,.call [] [(0,2),(1,3)] [] [2,3] 0 (.tup [.agg [iV .i64 ((t1865.1).f0),.own 0],.agg [iV .i64 ((t1865.2).f0),.own 1]]) [(0,some (.row 2 86 (((t1865.1).f1).map Z0a))),(1,some (.row 2 86 (((t1865.2).f1).map Z0a)))]),(5,.k 4),(6,.k 5)] [(7,.ptr 4 0 0),(8,.ptr 5 0 0)] [0,5,6,7,8] [(2,some (.row 2 86 (((t1865.1).f1).map Z0a))),(3,some (.row 2 86 (((t1865.2).f1).map Z0a))),(4,some (.box 52 [iV .i64 ((t1865.1).f0),.own 2])),(5,some (.box 52 [iV .i64 ((t1865.2).f0),.own 3]))] [0,1,2,3,4,5] [_,_] ⟨Try.call15,Z0h.ok a0 t1865 e1866,trivial⟩ ?_
  obtain⟨t1888,e1889,H⟩:=Z4 H
  refine sR hP hn hm [(4,.call [(0,0)] [(0,0),(1,6)] [] [6] 1 (.tup []) [(0,some (.box 49 [.own 1,iV .u64 t1888.2])),(1,some (.row 1 5 (t1888.1.map (Z1 .u8))))])] [] [0,5,6,7,8] [(0,some (.box 49 [.own 6,iV .u64 t1888.2])),(6,some (.row 1 5 (t1888.1.map (Z1 .u8))))] [0,1,2,3,4,5,6] [_,_] ⟨Try.call16,Z1h.ok 0 (b1860.f1.f0==(1:Int)) t1888 e1889,trivial⟩ ?_
  obtain⟨t1932,e1933,H⟩:=Z4 H
  refine sR hP hn hm [(5,.call [(0,0),(6,1)] [(0,0),(2,7)] [] [7] 2 (.tup []) [(0,some (.box 49 [.own 2,iV .u64 t1932.2])),(1,none),(2,some (.row 1 5 (t1932.1.map (Z1 .u8))))])] [] [0,5,6,7,8] [(0,some (.box 49 [.own 7,iV .u64 t1932.2])),(7,some (.row 1 5 (t1932.1.map (Z1 .u8))))] [0,1,2,3,4,5,7] [_,_] ⟨Try.call17,Zw.ok t1888.1 t1888.2 (u64.wrap (i64.wrap (b1860.f1.f1-(-4)))) 4 t1932 e1933,trivial⟩ ?_
  obtain⟨t2072,e2073,H⟩:=Z4 H
  refine sR hP hn hm [(3,.call [(0,0),(7,1)] [(0,0),(2,8)] [] [8] 2 (.tup []) [(0,some (.box 49 [.own 2,iV .u64 t2072.2])),(1,none),(2,some (.row 1 5 (t2072.1.map (Z1 .u8))))])] [] [0,5,7,8] [(0,some (.box 49 [.own 8,iV .u64 t2072.2])),(8,some (.row 1 5 (t2072.1.map (Z1 .u8))))] [0,2,3,4,5,8] [_,_] ⟨Try.call18,Z00.ok t1932.1 t1932.2 b1860.f1.f2 t2072 e2073,trivial⟩ ?_
  refine AWp.seq ?_
  refine AWp.conv (inv:=[(3,3),(4,4),(5,5),(0,0),(8,8)]) (vk:=[2]) (e0:=[]) (t:=⟨[(0,.im (.row (a0.map Zc))),(5,.ptr 0 0 0),(7,.ptr 4 0 0),(8,.ptr 5 0 0)],[(0,some (.box 49 [.own 8,iV .u64 t2072.2])),(3,some (.row 2 86 (((t1865.2).f1).map Z0a))),(4,some (.box 52 (Zb (t1865.1)))),(5,some (.box 52 [iV .i64 ((t1865.2).f0),.own 3])),(8,some (.row 1 5 (t2072.1.map (Z1 .u8))))],0⟩) (by kernel_rfl) ?_
  obtain⟨t2125,e2126,H⟩:=Z4 H
  refine rG hP hn hm [(2,.call [(0,0),(8,1)] [(0,0),(2,9)] [] [9] 2 (.tup []) [(0,some (.box 49 [.own 2,iV .u64 t2125.2])),(1,none),(2,some (.row 1 5 (t2125.1.map (Z1 .u8))))])] [] [0,5,7,8] [(0,some (.box 49 [.own 9,iV .u64 t2125.2])),(9,some (.row 1 5 (t2125.1.map (Z1 .u8))))] [0,3,4,5,9] [_,_] ⟨Try.call19,Z0o.ok t2072.1 t2072.2 (t1865.1) t2125 e2126,trivial⟩ ?_
  refine AWp.seq ?_
  refine AWp.conv (inv:=[(4,4),(5,5),(0,0),(9,9)]) (vk:=[3]) (e0:=[]) (t:=⟨[(0,.im (.row (a0.map Zc))),(5,.ptr 0 0 0),(7,.ptr 4 0 0),(8,.ptr 5 0 0)],[(0,some (.box 49 [.own 9,iV .u64 t2125.2])),(4,some (.box 52 (Zb (t1865.1)))),(5,some (.box 52 (Zb (t1865.2)))),(9,some (.row 1 5 (t2125.1.map (Z1 .u8))))],0⟩) (by kernel_rfl) ?_
  obtain⟨t2131,e2132,H⟩:=Z4 H
  refine rG hP hn hm [(2,.call [(0,0),(9,1)] [(0,0),(2,10)] [] [10] 2 (.tup []) [(0,some (.box 49 [.own 2,iV .u64 t2131.2])),(1,none),(2,some (.row 1 5 (t2131.1.map (Z1 .u8))))])] [] [0,5,7,8] [(0,some (.box 49 [.own 10,iV .u64 t2131.2])),(10,some (.row 1 5 (t2131.1.map (Z1 .u8))))] [0,4,5,10] [_,_] ⟨Try.call19,Z0o.ok t2125.1 t2125.2 (t1865.2) t2131 e2132,trivial⟩ ?_
  obtain⟨t2135,e2136,H⟩:=Z4 H
  refine sR hP hn hm [(2,.any (iV .i64 (a0.length:Int))),(5,.call [(0,0),(10,1)] [(0,0),(2,11)] [] [11] 2 (.tup []) [(0,some (.box 49 [.own 2,iV .u64 t2135.2])),(1,none),(2,some (.row 1 5 (t2135.1.map (Z1 .u8))))])] [] [0,5,7,8] [(0,some (.box 49 [.own 11,iV .u64 t2135.2])),(11,some (.row 1 5 (t2135.1.map (Z1 .u8))))] [0,4,5,11] [((a0.map Zc).length:Int)=(a0.length:Int),_,_] ⟨by rw[Zv],Try.call20,Zg.ok t2131.1 t2131.2 (u64.wrap (i64.wrap ((a0.length:Int)-(1:Int)))) t2135 e2136,trivial⟩ ?_
  refine sO hP hn hm [] [(9,.none0),(10,.none0)] [0,5,7,8,9,10] [] [0,4,5,11] ?_
  refine sO hP hn hm [] [(11,iV .i64 0),(12,iV .i64 0)] [0,5,7,8,9,10,11,12] [] [0,4,5,11] ?_
  refine AWp.seq ?_
  refine sR hP hn hm [(1,.any (iV .i64 (a0.length:Int)))] [(62,.im (.row (a0.map Zc))),(63,iV .i64 (a0.length:Int)),(64,iV .i64 0)] [5,7,8,9,10,11,12,62,63,64] [] [0,4,5,11] [((a0.map Zc).length:Int)=(a0.length:Int)] ⟨by rw[Zv],trivial⟩ ?_
  refine AWp.block ?_
  obtain⟨o2512,e2513,H⟩:=Z4 H
  refine AWp.loop (LWp.conv (inv:=[(0,30),(4,32),(5,33),(11,31)]) (vk:=[]) (e0:=[34,35]) (t:=⟨[(5,.ptr 30 0 0),(7,.ptr 32 0 0),(8,.ptr 33 0 0),(9,.own 34),(10,.own 35),(11,iV .i64 0),(12,iV .i64 0),(62,.im (.row (a0.map Zc))),(63,iV .i64 (a0.length:Int)),(64,iV .i64 0)],[(30,some (.box 49 [.own 31,iV .u64 t2135.2])),(31,some (.row 1 5 (t2135.1.map (Z1 .u8)))),(32,some (.box 52 (Zb (t1865.1)))),(33,some (.box 52 (Zb (t1865.2)))),(34,some (.row 1 33 ([].map (Z1 .u64)))),(35,some (.row 1 33 ([].map (Z1 .u64))))],0⟩) (by kernel_rfl) ?_)
  refine LWp.mono (Q:=fun e s=>(match (generalizing:=false) o2512 with | (x2502,x2503)=>e = .exit 0∧s=⟨[(5,.ptr 110 0 0)],[(110,some (.box 49 [.own 111,iV .u64 x2503])),(111,some (.row 1 5 (x2502.map (Z1 .u8))))],0⟩)) (LWp.cv (Z07 (fun body hbody => ?_))) ?_
  ·refine             Zm.l0.partial_correctness a0 t1865 (motive:=fun x2319 x2320 x2321 x2322 x2323 x2324 x2325 o2512=>LWp Γ body (fun e s=>∃ t,Cv Γ s t∧(match (generalizing:=false) o2512 with | (x2502,x2503)=>e = .exit 0∧t=⟨[(5,.ptr 110 0 0)],[(110,some (.box 49 [.own 111,iV .u64 x2503])),(111,some (.row 1 5 (x2502.map (Z1     .u8))))],0⟩)) ⟨[(5,.ptr 30 0 0),(7,.ptr 32 0 0),(8,.ptr 33 0 0),(9,.own 34),(10,.own 35),(11,iV .i64 x2323),(12,iV .i64 x2324),(62,.im (.row (a0.map Zc     ))),(63,iV .i64 (a0.length:Int)),(64,iV .i64 x2325)],[(30,some (.box 49 [.own 31,iV .u64 x2320])),(31,some (.row 1 5 (x2319.map (Z1     .u8)))),(32,some (.box 52 (Zb           (t1865.1)))),(33,some (.box 52 (Zb           (t1865.2)))),(34,some (.row 1 33 (x2321.map (Z1     .u64)))),(35,some (.row 1 33 (x2322.map (Z1     .u64))))],0⟩) ?_ _ _ _ _ _ _ _ _ e2513
   clear H e2513 o2512;intro self ih x2319 x2320 x2321 x2322 x2323 x2324 x2325 o2512 H
   subst hbody
   refine LWp.round ?_
   refine sO hP hn hm [] [(65,bV (decide (x2325<(a0.length:Int))))] [5,7,8,9,10,11,12,62,63,64,65] [] [30,31,32,33,34,35] ?_
   refine AWp.seq ?_
   refine AWp.cond (decide (x2325<(a0.length:Int))) (by kernel_rfl) (fun c2326 => ?_) (fun c2326 => ?_)
   ·replace H:=iT c2326 H
    refine AWp.skip ?_
    refine AWp.seq ?_
    refine AWp.block ?_
    obtain⟨b2330,p2331,q2332,H⟩:=Z0q H
    refine sR hP hn hm [(1,.c (Zc b2330)),(3,.k 36)] [(13,iV .i64 x2325),(14,.ptr 36 0 0)] [5,7,8,9,10,11,12,13,14,62,63,64] [(36,some (.box 38 [iV .i64 b2330.f0,iV .i64 b2330.f1.f0,iV .i64 b2330.f1.f1,iV .i64 b2330.f1.f2,iV .u64 b2330.f1.f3,iV .u64 b2330.f1.f4,iV .i64 b2330.f1.f5,.im (.row (b2330.f1.f6.map Z0)),.im (.row (b2330.f1.f7.map Z0))]))] [30,31,32,33,34,35,36] [_,_] ⟨p2331,Zu Zc q2332,trivial⟩ ?_
    obtain⟨t2335,e2336,H⟩:=Z4 H
    refine sR hP hn hm [(4,.call [] [(0,37)] [] [37] 0 (.own 0) [(0,some (.row 1 33 (t2335.map (Z1 .u64))))])] [(15,.own 37)] [5,7,8,9,10,11,12,13,14,15,62,63,64] [(37,some (.row 1 33 (t2335.map (Z1 .u64))))] [30,31,32,33,34,35,36,37] [_,_] ⟨Try.call21,Z2n.ok b2330.f1 (t1865.1) (t1865.2) t2335 e2336,trivial⟩ ?_
    refine AWp.seq ?_
    refine sO hP hn hm [] [(74,iV .i64 x2325)] [5,7,8,9,10,11,12,13,14,15,62,63,64,74] [] [30,31,32,33,34,35,36,37] ?_
    refine AWp.block ?_
    refine sO hP hn hm [] [(83,bV (x2325==(0:Int)))] [5,7,8,9,10,11,12,13,14,15,62,63,64,74,83] [] [30,31,32,33,34,35,36,37] ?_
    obtain⟨o2514,e2515,H⟩:=Z4 H
    refine AWp.mono (Q:=fun e s=>(match (generalizing:=false) o2514 with | (x2353,x2354)=>e = .normal∧s=⟨[(5,.ptr 49 0 0),(7,.ptr 51 0 0),(8,.ptr 52 0 0),(9,.own 53),(10,.own 54),(11,iV .i64 x2323),(13,iV .i64 x2325),(14,.ptr 55 0 0),(15,.own 56),(62,.im (.row (a0.map Zc))),(63,iV .i64 (a0.length:Int)),(64,iV .i64 x2325)],[(49,some (.box 49 [.own 50,iV .u64 x2354])),(50,some (.row 1 5 (x2353.map (Z1 .u8)))),(51,some (.box 52 (Zb (t1865.1)))),(52,some (.box 52 (Zb (t1865.2)))),(53,some (.row 1 33 (x2321.map (Z1 .u64)))),(54,some (.row 1 33 (x2322.map (Z1 .u64)))),(55,some (.box 38 [iV .i64 b2330.f0,iV .i64 b2330.f1.f0,iV .i64 b2330.f1.f1,iV .i64 b2330.f1.f2,iV .u64 b2330.f1.f3,iV .u64 b2330.f1.f4,iV .i64 b2330.f1.f5,.im (.row (b2330.f1.f6.map Z0)),.im (.row (b2330.f1.f7.map Z0))])),(56,some (.row 1 33 (t2335.map (Z1 .u64))))],0⟩)) (AWp.cv ?_) ?_
    ·replace H:=e2515;clear e2515
     refine AWp.cond (x2325==(0:Int)) (by kernel_rfl) (fun c2337 => ?_) (fun c2337 => ?_)
     ·replace H:=iT c2337 H
      obtain⟨t2340,e2341,H⟩:=Z4 H
      refine rG hP hn hm [(4,.call [(30,0),(31,1)] [(0,30),(2,38)] [] [38] 2 (.tup []) [(0,some (.box 49 [.own 2,iV .u64 t2340.2])),(1,none),(2,some (.row 1 5 (t2340.1.map (Z1 .u8))))])] [] [5,7,8,9,10,11,13,14,15,62,63,64] [(30,some (.box 49 [.own 38,iV .u64 t2340.2])),(38,some (.row 1 5 (t2340.1.map (Z1 .u8))))] [30,32,33,34,35,36,37,38] [_,_] ⟨Try.call20,Zg.ok x2319 x2320 (u64.wrap (b2330.f0)) t2340 e2341,trivial⟩ ?_
      obtain rfl:=sj H
      exact lf [(30,49),(38,50),(32,51),(33,52),(34,53),(35,54),(36,55),(37,56)] [] [] (by kernel_rfl) ⟨rfl,rfl⟩
     ·replace H:=iF c2337 H
      refine sO hP hn hm [] [(90,bV (x2325==(1:Int)))] [5,7,8,9,10,11,12,13,14,15,62,63,64,90] [] [30,31,32,33,34,35,36,37] ?_
      obtain⟨o2516,e2517,H⟩:=Z4 H
      refine AWp.mono (Q:=fun e s=>(match (generalizing:=false) o2516 with | (x2351,x2352)=>e = .normal∧s=⟨[(5,.ptr 41 0 0),(7,.ptr 43 0 0),(8,.ptr 44 0 0),(9,.own 45),(10,.own 46),(11,iV .i64 x2323),(13,iV .i64 x2325),(14,.ptr 47 0 0),(15,.own 48),(62,.im (.row (a0.map Zc))),(63,iV .i64 (a0.length:Int)),(64,iV .i64 x2325)],[(41,some (.box 49 [.own 42,iV .u64 x2352])),(42,some (.row 1 5 (x2351.map (Z1 .u8)))),(43,some (.box 52 (Zb (t1865.1)))),(44,some (.box 52 (Zb (t1865.2)))),(45,some (.row 1 33 (x2321.map (Z1 .u64)))),(46,some (.row 1 33 (x2322.map (Z1 .u64)))),(47,some (.box 38 [iV .i64 b2330.f0,iV .i64 b2330.f1.f0,iV .i64 b2330.f1.f1,iV .i64 b2330.f1.f2,iV .u64 b2330.f1.f3,iV .u64 b2330.f1.f4,iV .i64 b2330.f1.f5,.im (.row (b2330.f1.f6.map Z0)),.im (.row (b2330.f1.f7.map Z0))])),(48,some (.row 1 33 (t2335.map (Z1 .u64))))],0⟩)) (AWp.cv ?_) ?_
      ·replace H:=e2517;clear e2517
       refine AWp.cond (x2325==(1:Int)) (by kernel_rfl) (fun c2342 => ?_) (fun c2342 => ?_)
       ·replace H:=iT c2342 H
        obtain⟨t2345,e2346,H⟩:=Z4 H
        refine rG hP hn hm [(7,.call [(30,0),(31,1)] [(0,30),(2,39)] [] [39] 2 (.tup []) [(0,some (.box 49 [.own 2,iV .u64 t2345.2])),(1,none),(2,some (.row 1 5 (t2345.1.map (Z1 .u8))))])] [] [5,7,8,9,10,11,13,14,15,62,63,64] [(30,some (.box 49 [.own 39,iV .u64 t2345.2])),(39,some (.row 1 5 (t2345.1.map (Z1 .u8))))] [30,32,33,34,35,36,37,39] [_,_] ⟨Try.call20,Zg.ok x2319 x2320 (u64.wrap (i64.wrap ((i64.wrap (b2330.f0-x2323))-(1:Int)))) t2345 e2346,trivial⟩ ?_
        obtain rfl:=sj H
        exact lf [(30,41),(39,42),(32,43),(33,44),(34,45),(35,46),(36,47),(37,48)] [] [] (by kernel_rfl) ⟨rfl,rfl⟩
       ·replace H:=iF c2342 H
        obtain⟨t2349,e2350,H⟩:=Z4 H
        refine rG hP hn hm [(7,.call [(30,0),(31,1)] [(0,30),(2,40)] [] [40] 2 (.tup []) [(0,some (.box 49 [.own 2,iV .u64 t2349.2])),(1,none),(2,some (.row 1 5 (t2349.1.map (Z1 .u8))))])] [] [5,7,8,9,10,11,13,14,15,62,63,64] [(30,some (.box 49 [.own 40,iV .u64 t2349.2])),(40,some (.row 1 5 (t2349.1.map (Z1 .u8))))] [30,32,33,34,35,36,37,40] [_,_] ⟨Try.call18,Z00.ok x2319 x2320 (i64.wrap ((i64.wrap (b2330.f0-x2323))-x2324)) t2349 e2350,trivial⟩ ?_
        obtain rfl:=sj H
        exact lf [(30,41),(40,42),(32,43),(33,44),(34,45),(35,46),(36,47),(37,48)] [] [] (by kernel_rfl) ⟨rfl,rfl⟩
      ·obtain⟨x2351,x2352⟩:=o2516
       rintro e s ⟨rfl,rfl⟩
       obtain rfl:=sj H
       exact lf [(41,49),(42,50),(43,51),(44,52),(45,53),(46,54),(47,55),(48,56)] [] [] (by kernel_rfl) ⟨rfl,rfl⟩
    ·obtain⟨x2353,x2354⟩:=o2514
     rintro e s ⟨rfl,rfl⟩
     refine sO hP hn hm [] [(11,iV .i64 b2330.f0),(12,iV .i64 (i64.wrap (b2330.f0-x2323)))] [5,7,8,9,10,11,12,13,15,62,63,64] [] [49,50,51,52,53,54,56] ?_
     obtain⟨c2356,H⟩:=Z17 H
     refine sR hP hn hm [(1,.any (iV .i64 (t2335.length:Int))),(2,.more (xMake 57 ((List.replicate (Int.toNat (t2335.length:Int)) 0).map (Z1 .u64))))] [(16,.own 57)] [5,7,8,9,10,11,12,13,15,16,62,63,64] [(57,some (.row 1 33 ((List.replicate (Int.toNat (t2335.length:Int)) 0).map (Z1 .u64))))] [49,50,51,52,53,54,56,57] [((t2335.map (Z1 .u64)).length:Int)=(t2335.length:Int),(List.replicate (Int.toNat (t2335.length:Int)) 0).map (Z1 .u64)=List.replicate (Int.toNat (t2335.length:Int)) [iI .u64 0],0≤(t2335.length:Int),(t2335.length:Int)≤(t2335.length:Int),((8:Nat):Int)*(t2335.length:Int)≤281474976710656,(t2335.length:Int)≤9223372036854775807] ⟨by rw[Zv],by simp,by exact c2356.1,by exact c2356.2.1,by exact c2356.2.2.1,by exact c2356.2.2.2,trivial⟩ ?_
     refine AWp.seq ?_
     refine sR hP hn hm [(1,.any (iV .i64 (t2335.length:Int)))] [(109,.own 56),(110,iV .i64 (t2335.length:Int)),(111,iV .i64 0)] [5,7,8,9,10,11,12,13,15,16,62,63,64,109,110,111] [] [49,50,51,52,53,54,56,57] [((t2335.map (Z1 .u64)).length:Int)=(t2335.length:Int)] ⟨by rw[Zv],trivial⟩ ?_
     refine AWp.block ?_
     obtain⟨o2518,e2519,H⟩:=Z4 H
     refine AWp.loop (LWp.conv (inv:=[(49,77),(50,78),(51,79),(52,80),(53,81),(54,82),(56,83),(57,84)]) (vk:=[]) (e0:=[]) (t:=⟨[(5,.ptr 77 0 0),(7,.ptr 79 0 0),(8,.ptr 80 0 0),(9,.own 81),(10,.own 82),(11,iV .i64 b2330.f0),(12,iV .i64 (i64.wrap (b2330.f0-x2323))),(13,iV .i64 x2325),(15,.own 83),(16,.own 84),(62,.im (.row (a0.map Zc))),(63,iV .i64 (a0.length:Int)),(64,iV .i64 x2325),(109,.own 83),(110,iV .i64 (t2335.length:Int)),(111,iV .i64 0)],[(77,some (.box 49 [.own 78,iV .u64 x2354])),(78,some (.row 1 5 (x2353.map (Z1 .u8)))),(79,some (.box 52 (Zb (t1865.1)))),(80,some (.box 52 (Zb (t1865.2)))),(81,some (.row 1 33 (x2321.map (Z1 .u64)))),(82,some (.row 1 33 (x2322.map (Z1 .u64)))),(83,some (.row 1 33 (t2335.map (Z1 .u64)))),(84,some (.row 1 33 ((List.replicate (Int.toNat (t2335.length:Int)) 0).map (Z1 .u64))))],0⟩) (by kernel_rfl) ?_)
     refine LWp.mono (Q:=fun e s=>(match (generalizing:=false) o2518 with | (x2499,x2500,x2501)=>e = .exit 3∧s=⟨[(5,.ptr 104 0 0),(7,.ptr 106 0 0),(8,.ptr 107 0 0),(11,iV .i64 b2330.f0),(12,iV .i64 (i64.wrap (b2330.f0-x2323))),(15,.own 108),(16,.own 109),(62,.im (.row (a0.map Zc))),(63,iV .i64 (a0.length:Int)),(64,iV .i64 x2325)],[(104,some (.box 49 [.own 105,iV .u64 x2500])),(105,some (.row 1 5 (x2499.map (Z1 .u8)))),(106,some (.box 52 (Zb (t1865.1)))),(107,some (.box 52 (Zb (t1865.2)))),(108,some (.row 1 33 (t2335.map (Z1 .u64)))),(109,some (.row 1 33 (x2501.map (Z1 .u64))))],0⟩)) (LWp.cv (Z07 (fun body hbody => ?_))) ?_
     ·refine             Zm.l1.partial_correctness a0 b2330 t1865 t2335 x2321 x2322 x2323 x2325 (motive:=fun x2426 x2427 x2428 x2429 o2518=>LWp Γ body (fun e s=>∃ t,Cv Γ s t∧(match (generalizing:=false) o2518 with | (x2499,x2500,x2501)=>e = .exit 3∧t=⟨[(5,.ptr 104 0 0),(7,.ptr 106 0 0),(8,.ptr 107 0 0),(11,iV .i64 b2330.f0),(12,iV .i64 (i64.wrap (b2330.f0-x2323))),(15,.own 108),(16,.own 109),(62,.im (.row (a0.map Zc     ))),(63,iV .i64 (a0.length:Int)),(64,iV .i64 x2325)],[(104,some (.box 49 [.own 105,iV .u64 x2500])),(105,some (.row 1 5 (x2499.map (Z1     .u8)))),(106,some (.box 52 (Zb           (t1865.1)))),(107,some (.box 52 (Zb           (t1865.2)))),(108,some (.row 1 33 (t2335.map (Z1     .u64)))),(109,some (.row 1 33 (x2501.map (Z1     .u64))))],0⟩)) ⟨[(5,.ptr 77 0 0),(7,.ptr 79 0 0),(8,.ptr 80 0 0),(9,.own 81),(10,.own 82),(11,iV .i64 b2330.f0),(12,iV .i64 (i64.wrap (b2330.f0-x2323))),(13,iV .i64 x2325),(15,.own 83),(16,.own 84),(62,.im (.row (a0.map Zc     ))),(63,iV .i64 (a0.length:Int)),(64,iV .i64 x2325),(109,.own 83),(110,iV .i64 (t2335.length:Int)),(111,iV .i64 x2429)],[(77,some (.box 49 [.own 78,iV .u64 x2427])),(78,some (.row 1 5 (x2426.map (Z1     .u8)))),(79,some (.box 52 (Zb           (t1865.1)))),(80,some (.box 52 (Zb           (t1865.2)))),(81,some (.row 1 33 (x2321.map (Z1     .u64)))),(82,some (.row 1 33 (x2322.map (Z1     .u64)))),(83,some (.row 1 33 (t2335.map (Z1     .u64)))),(84,some (.row 1 33 (x2428.map (Z1     .u64))))],0⟩) ?_ _ _ _ _ _ e2519
      clear H e2519 o2518;intro self ih x2426 x2427 x2428 x2429 o2518 H
      subst hbody
      refine LWp.round ?_
      refine sO hP hn hm [] [(112,bV (decide (x2429<(t2335.length:Int))))] [5,7,8,9,10,11,12,13,15,16,62,63,64,109,110,111,112] [] [77,78,79,80,81,82,83,84] ?_
      refine AWp.seq ?_
      refine AWp.cond (decide (x2429<(t2335.length:Int))) (by kernel_rfl) (fun c2430 => ?_) (fun c2430 => ?_)
      ·replace H:=iT c2430 H
       refine AWp.skip ?_
       refine AWp.seq ?_
       refine AWp.block ?_
       obtain⟨b2434,p2435,q2436,H⟩:=Z0q H
       refine sR hP hn hm [(2,.c ((Z1 .u64) b2434))] [(17,iV .i64 x2429),(18,iV .u64 b2434)] [5,7,8,9,10,11,12,13,15,16,17,18,62,63,64,109,110,111] [] [77,78,79,80,81,82,83,84] [_,_,_] ⟨p2435,Z1m (Z1 .u64) p2435 q2436,Zu (Z1 .u64) q2436,trivial⟩ ?_
       refine sO hP hn hm [] [(116,iV .i64 x2325)] [5,7,8,9,10,11,12,13,15,16,17,18,62,63,64,109,110,111,116] [] [77,78,79,80,81,82,83,84] ?_
       refine AWp.block ?_
       refine sO hP hn hm [] [(138,bV (x2325==(0:Int)))] [5,7,8,9,10,11,12,13,15,16,17,18,62,63,64,109,110,111,116,138] [] [77,78,79,80,81,82,83,84] ?_
       obtain⟨o2520,e2521,H⟩:=Z4 H
       refine AWp.mono (Q:=fun e s=>(match (generalizing:=false) o2520 with | (x2496,x2497,x2498)=>e = .normal∧s=⟨[(5,.ptr 96 0 0),(7,.ptr 98 0 0),(8,.ptr 99 0 0),(9,.own 100),(10,.own 101),(11,iV .i64 b2330.f0),(12,iV .i64 (i64.wrap (b2330.f0-x2323))),(13,iV .i64 x2325),(15,.own 102),(16,.own 103),(62,.im (.row (a0.map Zc))),(63,iV .i64 (a0.length:Int)),(64,iV .i64 x2325),(109,.own 102),(110,iV .i64 (t2335.length:Int)),(111,iV .i64 x2429)],[(96,some (.box 49 [.own 97,iV .u64 x2497])),(97,some (.row 1 5 (x2496.map (Z1 .u8)))),(98,some (.box 52 (Zb (t1865.1)))),(99,some (.box 52 (Zb (t1865.2)))),(100,some (.row 1 33 (x2321.map (Z1 .u64)))),(101,some (.row 1 33 (x2322.map (Z1 .u64)))),(102,some (.row 1 33 (t2335.map (Z1 .u64)))),(103,some (.row 1 33 (x2498.map (Z1 .u64))))],0⟩)) (AWp.cv ?_) ?_
       ·replace H:=e2521;clear e2521
        refine AWp.cond (x2325==(0:Int)) (by kernel_rfl) (fun c2437 => ?_) (fun c2437 => ?_)
        ·replace H:=iT c2437 H
         obtain⟨t2440,e2441,H⟩:=Z4 H
         refine rG hP hn hm [(2,.call [(77,0),(78,1)] [(0,77),(2,85)] [] [85] 2 (.tup []) [(0,some (.box 49 [.own 2,iV .u64 t2440.2])),(1,none),(2,some (.row 1 5 (t2440.1.map (Z1 .u8))))])] [] [5,7,8,9,10,11,12,13,15,16,62,63,64,109,110,111] [(77,some (.box 49 [.own 85,iV .u64 t2440.2])),(85,some (.row 1 5 (t2440.1.map (Z1 .u8))))] [77,79,80,81,82,83,84,85] [_,_] ⟨Try.call20,Zg.ok x2426 x2427 b2434 t2440 e2441,trivial⟩ ?_
         obtain rfl:=sj H
         exact lf [(77,96),(85,97),(79,98),(80,99),(81,100),(82,101),(83,102),(84,103)] [] [] (by kernel_rfl) ⟨rfl,rfl⟩
        ·replace H:=iF c2437 H
         refine sO hP hn hm [] [(143,bV (x2325==(1:Int)))] [5,7,8,9,10,11,12,13,15,16,17,18,62,63,64,109,110,111,143] [] [77,78,79,80,81,82,83,84] ?_
         obtain⟨o2522,e2523,H⟩:=Z4 H
         refine AWp.mono (Q:=fun e s=>(match (generalizing:=false) o2522 with | (x2493,x2494,x2495)=>e = .normal∧s=⟨[(5,.ptr 88 0 0),(7,.ptr 90 0 0),(8,.ptr 91 0 0),(9,.own 92),(10,.own 93),(11,iV .i64 b2330.f0),(12,iV .i64 (i64.wrap (b2330.f0-x2323))),(13,iV .i64 x2325),(15,.own 94),(16,.own 95),(62,.im (.row (a0.map Zc))),(63,iV .i64 (a0.length:Int)),(64,iV .i64 x2325),(109,.own 94),(110,iV .i64 (t2335.length:Int)),(111,iV .i64 x2429)],[(88,some (.box 49 [.own 89,iV .u64 x2494])),(89,some (.row 1 5 (x2493.map (Z1 .u8)))),(90,some (.box 52 (Zb (t1865.1)))),(91,some (.box 52 (Zb (t1865.2)))),(92,some (.row 1 33 (x2321.map (Z1 .u64)))),(93,some (.row 1 33 (x2322.map (Z1 .u64)))),(94,some (.row 1 33 (t2335.map (Z1 .u64)))),(95,some (.row 1 33 (x2495.map (Z1 .u64))))],0⟩)) (AWp.cv ?_) ?_
         ·replace H:=e2523;clear e2523
          refine AWp.cond (x2325==(1:Int)) (by kernel_rfl) (fun c2442 => ?_) (fun c2442 => ?_)
          ·replace H:=iT c2442 H
           obtain⟨b2449,p2450,q2451,H⟩:=Z0q H
           obtain⟨b2452,p2453,q2454,H⟩:=Z0q H
           refine sR hP hn hm [(6,.c ((Z1 .u64) b2449)),(9,.put ((Z1 .u64) b2452) ((x2428.set (Int.toNat (x2429)) (u64.wrap (b2434-b2449))).map (Z1 .u64)))] [] [5,7,8,9,10,11,12,13,15,16,17,62,63,64,109,110,111] [(84,some (.row 1 33 ((x2428.set (Int.toNat (x2429)) (u64.wrap (b2434-b2449))).map (Z1 .u64))))] [77,78,79,80,81,82,83,84] [_,_,_,_,_,_,(x2428.set (Int.toNat (x2429)) (u64.wrap (b2434-b2449))).map (Z1 .u64)=(x2428.map (Z1 .u64)).set (Int.toNat (x2429)) (Z1u ((Z1 .u64) b2452) 0 [iI .u64 (u64.wrap (b2434-b2449))])] ⟨p2450,Z1m (Z1 .u64) p2450 q2451,Zu (Z1 .u64) q2451,p2453,Z1m (Z1 .u64) p2453 q2454,Zu (Z1 .u64) q2454,by exact set1 _ _ _ _,trivial⟩ ?_
           obtain⟨b2460,p2461,q2462,H⟩:=Z0q H
           obtain⟨t2463,e2464,H⟩:=Z4 H
           refine rG hP hn hm [(4,.c ((Z1 .u64) b2460)),(6,.call [(77,0),(78,1)] [(0,77),(2,86)] [] [86] 2 (.tup []) [(0,some (.box 49 [.own 2,iV .u64 t2463.2])),(1,none),(2,some (.row 1 5 (t2463.1.map (Z1 .u8))))])] [] [5,7,8,9,10,11,12,13,15,16,62,63,64,109,110,111] [(77,some (.box 49 [.own 86,iV .u64 t2463.2])),(86,some (.row 1 5 (t2463.1.map (Z1 .u8))))] [77,79,80,81,82,83,84,86] [_,_,_,_,_] ⟨p2461,Z1m (Z1 .u64) p2461 q2462,Zu (Z1 .u64) q2462,Try.call18,Z00.ok x2426 x2427 (i64.wrap (b2460)) t2463 e2464,trivial⟩ ?_
           obtain rfl:=sj H
           exact lf [(77,88),(86,89),(79,90),(80,91),(81,92),(82,93),(83,94),(84,95)] [] [] (by kernel_rfl) ⟨rfl,rfl⟩
          ·replace H:=iF c2442 H
           obtain⟨b2471,p2472,q2473,H⟩:=Z0q H
           obtain⟨b2474,p2475,q2476,H⟩:=Z0q H
           refine sR hP hn hm [(6,.c ((Z1 .u64) b2471)),(9,.put ((Z1 .u64) b2474) ((x2428.set (Int.toNat (x2429)) (u64.wrap (b2434-b2471))).map (Z1 .u64)))] [] [5,7,8,9,10,11,12,13,15,16,17,62,63,64,109,110,111] [(84,some (.row 1 33 ((x2428.set (Int.toNat (x2429)) (u64.wrap (b2434-b2471))).map (Z1 .u64))))] [77,78,79,80,81,82,83,84] [_,_,_,_,_,_,(x2428.set (Int.toNat (x2429)) (u64.wrap (b2434-b2471))).map (Z1 .u64)=(x2428.map (Z1 .u64)).set (Int.toNat (x2429)) (Z1u ((Z1 .u64) b2474) 0 [iI .u64 (u64.wrap (b2434-b2471))])] ⟨p2472,Z1m (Z1 .u64) p2472 q2473,Zu (Z1 .u64) q2473,p2475,Z1m (Z1 .u64) p2475 q2476,Zu (Z1 .u64) q2476,by exact set1 _ _ _ _,trivial⟩ ?_
           obtain⟨b2485,p2486,q2487,H⟩:=Z0q H
           obtain⟨b2488,p2489,q2490,H⟩:=Z0q H
           obtain⟨t2491,e2492,H⟩:=Z4 H
           refine rG hP hn hm [(4,.c ((Z1 .u64) b2485)),(8,.c ((Z1 .u64) b2488)),(11,.call [(77,0),(78,1)] [(0,77),(2,87)] [] [87] 2 (.tup []) [(0,some (.box 49 [.own 2,iV .u64 t2491.2])),(1,none),(2,some (.row 1 5 (t2491.1.map (Z1 .u8))))])] [] [5,7,8,9,10,11,12,13,15,16,62,63,64,109,110,111] [(77,some (.box 49 [.own 87,iV .u64 t2491.2])),(87,some (.row 1 5 (t2491.1.map (Z1 .u8))))] [77,79,80,81,82,83,84,87] [_,_,_,_,_,_,_,_] ⟨p2486,Z1m (Z1 .u64) p2486 q2487,Zu (Z1 .u64) q2487,p2489,Z1m (Z1 .u64) p2489 q2490,Zu (Z1 .u64) q2490,Try.call18,Z00.ok x2426 x2427 (i64.wrap (u64.wrap (b2485-b2488))) t2491 e2492,trivial⟩ ?_
           obtain rfl:=sj H
           exact lf [(77,88),(87,89),(79,90),(80,91),(81,92),(82,93),(83,94),(84,95)] [] [] (by kernel_rfl) ⟨rfl,rfl⟩
         ·obtain⟨x2493,x2494,x2495⟩:=o2522
          rintro e s ⟨rfl,rfl⟩
          obtain rfl:=sj H
          exact lf [(88,96),(89,97),(90,98),(91,99),(92,100),(93,101),(94,102),(95,103)] [] [] (by kernel_rfl) ⟨rfl,rfl⟩
       ·obtain⟨x2496,x2497,x2498⟩:=o2520
        rintro e s ⟨rfl,rfl⟩
        refine rO hP hn hm [] [(111,iV .i64 (i64.wrap (x2429+(1:Int))))] [5,7,8,9,10,11,12,13,15,16,62,63,64,109,110,111] [] [96,97,98,99,100,101,102,103] ?_
        exact LWp.conv [(96,77),(97,78),(98,79),(99,80),(100,81),(101,82),(102,83),(103,84)] [] [] (by kernel_rfl) (ih _ _ _ _ _ H)
      ·replace H:=iF c2430 H
       refine AWp.exit ?_
       obtain rfl:=sj H
       exact lf [(77,104),(78,105),(79,106),(80,107),(83,108),(84,109)] [] [] (by kernel_rfl) ⟨rfl,rfl⟩
     ·obtain⟨x2499,x2500,x2501⟩:=o2518
      rintro e s ⟨rfl,rfl⟩
      refine rO hP hn hm [] [(9,.own 108),(10,.own 109)] [5,7,8,9,10,11,12,62,63,64] [] [104,105,106,107,108,109] ?_
      refine rO hP hn hm [] [(64,iV .i64 (i64.wrap (x2325+(1:Int))))] [5,7,8,9,10,11,12,62,63,64] [] [104,105,106,107,108,109] ?_
      exact LWp.conv [(104,30),(105,31),(106,32),(107,33),(108,34),(109,35)] [] [] (by kernel_rfl) (ih _ _ _ _ _ _ _ _ H)
   ·replace H:=iF c2326 H
    refine AWp.exit ?_
    obtain rfl:=sj H
    exact lf [(30,110),(31,111)] [] [] (by kernel_rfl) ⟨rfl,rfl⟩
  ·obtain⟨x2502,x2503⟩:=o2512
   rintro e s ⟨rfl,rfl⟩
   obtain⟨t2510,e2511,H⟩:=Z4 H
   refine sR hP hn hm [(1,.call [(110,0),(111,1)] [(0,110),(1,111),(2,112)] [] [112] 2 (.own 2) [(0,some (.box 49 [.own 1,iV .u64 x2503])),(1,some (.row 1 5 (x2502.map (Z1 .u8)))),(2,some (.row 1 5 (t2510.map (Z1 .u8))))])] [(2,.own 112),(3,iV .i64 0)] [2,3] [(112,some (.row 1 5 (t2510.map (Z1 .u8))))] [112] [_,_] ⟨Try.call22,Z14.ok x2502 x2503 t2510 e2511,trivial⟩ ?_
   refine AWp.conv (inv:=[(112,0)]) (vk:=[]) (e0:=[]) (t:=⟨[(2,.own 0),(3,iV .i64 0)],[(0,some (.row 1 5 (t2510.map (Z1 .u8))))],0⟩) (by kernel_rfl) ?_
   refine AWp.ret ?_
   obtain rfl:=sj H
   exact rl (.inl rfl) rfl (by kernel_rfl) (by kernel_rfl)
def Z2q.f (a0:List Int):Option (Unit):=some ()
theorem Z2q.ok (a0:List Int) (r:Unit) (H:Z2q.f a0=some r):Pv.Fn Try.prog 23 [.im (.row (a0.map (Z1 .u8)))] [] 0 (fun x o=>x = .ptr 0 0 0∧o=[(0,some (.box 94 (Z3 ⟨a0,0,0⟩)))]):=by
 unfold Z2q.f at H
 refine Fn.bodyK [0] Try.func23 rfl rfl (fun Γ hP hn => ?_)
 have hm:Try.prog.follows .mixedOrders=true:=by kernel_rfl
 replace hn:Γ.n=6:=hn
 refine sO hP hn hm [] [] [0] [] [] ?_
 refine sO hP hn hm [(2,.k 0)] [(2,.ptr 0 0 0)] [2] [(0,some (.box 94 (Z3 ⟨a0,0,0⟩)))] [0] ?_
 refine AWp.conv (inv:=[(0,0)]) (vk:=[]) (e0:=[]) (t:=⟨[(2,.ptr 0 0 0)],[(0,some (.box 94 (Z3 ⟨a0,0,0⟩)))],0⟩) (by kernel_rfl) ?_
 refine AWp.ret ?_
 obtain rfl:=sj H
 exact rl (.inl rfl) rfl (by kernel_rfl) (by kernel_rfl)
def Zk.f (a0_c0:List Int) (a0_c1:Int) (a0_c2:Int) (a1:Int):Option (Int):=((if(a0_c2==(0:Int))=true then(some a1) else(some a0_c2)):Option (Int))>>=fun x2537=>some x2537
theorem Zk.ok (a0_c0:List Int) (a0_c1:Int) (a0_c2:Int) (a1:Int) (r:Int) (H:Zk.f a0_c0 a0_c1 a0_c2 a1=some r):Pv.Fn Try.prog 47 [.ptr 0 0 0,iV .i64 a1] [(0,some (.box 94 (Z3 ⟨a0_c0,a0_c1,a0_c2⟩)))] 1 (fun x o=>x = .tup []∧o=[(0,some (.box 94 (Z3 ⟨a0_c0,a0_c1,r⟩)))]):=by
 unfold Zk.f at H
 refine Fn.bodyK [0] Try.func47 rfl rfl (fun Γ hP hn => ?_)
 have hm:Try.prog.follows .mixedOrders=true:=by kernel_rfl
 replace hn:Γ.n=13:=hn
 refine sO hP hn hm [] [(8,bV (a0_c2==(0:Int)))] [0,1,8] [] [0] ?_
 obtain⟨o2538,e2539,H⟩:=Z4 H
 refine AWp.mono (Q:=fun e s=>(match (generalizing:=false) o2538 with | x2537=>e = .normal∧s=⟨[],[(0,some (.box 94 (Z3 ⟨a0_c0,a0_c1,x2537⟩)))],1⟩)) (AWp.cv ?_) ?_
 ·replace H:=e2539;clear e2539
  refine AWp.cond (a0_c2==(0:Int)) (by kernel_rfl) (fun c2536 => ?_) (fun c2536 => ?_)
  ·replace H:=iT c2536 H
   refine rO hP hn hm [] [] [] [(0,some (.box 94 (Z3 ⟨a0_c0,a0_c1,a1⟩)))] [0] ?_
   obtain rfl:=sj H
   exact lf [(0,0)] [] [] (by kernel_rfl) ⟨rfl,rfl⟩
  ·replace H:=iF c2536 H
   refine AWp.skip ?_
   obtain rfl:=sj H
   exact lf [(0,0)] [] [] (by kernel_rfl) ⟨rfl,rfl⟩
 ·obtain⟨x2537,rfl⟩:∃ z,z=o2538:=⟨_,rfl⟩
  rintro e s ⟨rfl,rfl⟩
  obtain rfl:=sj H
  exact Exists.intro ⟨[],[(0,some (.box 94 (Z3 ⟨a0_c0,a0_c1,x2537⟩)))],1⟩ (And.intro (fun _ _ h=>h.conv (inv:=[(0,0)]) (vk:=[]) (e0:=[]) (t:=⟨[],[(0,some (.box 94 (Z3 ⟨a0_c0,a0_c1,x2537⟩)))],1⟩) (by kernel_rfl)) (And.intro (.inr rfl) (And.intro rfl (And.intro (by kernel_rfl) (by kernel_rfl)))))
def Zr.f (a0_c0:List Int) (a0_c1:Int) (a0_c2:Int):Option (Bool×Int×Int):=((if(a0_c2 != (0:Int))=true then(some true) else(some (decide (a0_c1≥(i64.wrap ((8:Int)*(a0_c0.length:Int))))))):Option (Bool))>>=fun x2534=>if x2534=true then((Zk.f a0_c0 a0_c1 a0_c2 7)>>=fun t2542=>some (false,a0_c1,t2542)) else((at? a0_c0 (i64.wrap (Int.tdiv a0_c1 (8:Int))))>>=fun b2548=>(chk (0≤(u64.wrap ((7:Int)-(u64.wrap (Int.tmod a0_c1 (8:Int)))))))>>=fun _=>some (((u8.wrap (((BitVec.toNat (BitVec.ofInt 8 (Int.fdiv b2548 (2 ^ (min (Int.toNat (u64.wrap ((7:Int)-(u64.wrap (Int.tmod a0_c1 (8:Int)))))) 8))) &&& BitVec.ofInt 8 (1:Int)):Nat):Int)))==(1:Int)),i64.wrap (a0_c1+(1:Int)),a0_c2))
theorem Zr.ok (a0_c0:List Int) (a0_c1:Int) (a0_c2:Int) (r:Bool×Int×Int) (H:Zr.f a0_c0 a0_c1 a0_c2=some r):Pv.Fn Try.prog 24 [.ptr 0 0 0] [(0,some (.box 94 (Z3 ⟨a0_c0,a0_c1,a0_c2⟩)))] 1 (fun x o=>x=bV r.1∧o=[(0,some (.box 94 (Z3 ⟨a0_c0,r.2.1,r.2.2⟩)))]):=by
 unfold Zr.f at H
 refine Fn.bodyK [0] Try.func24 rfl rfl (fun Γ hP hn => ?_)
 have hm:Try.prog.follows .mixedOrders=true:=by kernel_rfl
 replace hn:Γ.n=53:=hn
 refine sO hP hn hm [] [] [0] [] [0] ?_
 refine AWp.seq ?_
 refine AWp.seq ?_
 obtain⟨o2552,e2553,H⟩:=Z4 H
 refine AWp.mono (Q:=fun e s=>(match (generalizing:=false) o2552 with | x2534=>e = .normal∧s=⟨[(0,.ptr 0 0 0),(21,bV x2534)],[(0,some (.box 94 (Z3 ⟨a0_c0,a0_c1,a0_c2⟩)))],1⟩)) (AWp.cv ?_) ?_
 ·replace H:=e2553;clear e2553
  rcases Bool.eq_false_or_eq_true (a0_c2 != (0:Int)) with c2533 | c2533
  ·replace H:=iT c2533 H
   refine rG hP hn hm [(5,.b true)] [(21,bV true)] [0,21] [] [0] [_] ⟨c2533,trivial⟩ ?_
   obtain rfl:=sj H
   exact lf [(0,0)] [] [] (by kernel_rfl) ⟨rfl,rfl⟩
  ·replace H:=iF c2533 H
   refine rG hP hn hm [(5,.b false),(14,.any (iV .i64 (a0_c0.length:Int)))] [(21,bV (decide (a0_c1≥(i64.wrap ((8:Int)*(a0_c0.length:Int))))))] [0,21] [] [0] [_,((a0_c0.map (Z1 .u8)).length:Int)=(a0_c0.length:Int)] ⟨c2533,by rw[Zv],trivial⟩ ?_
   obtain rfl:=sj H
   exact lf [(0,0)] [] [] (by kernel_rfl) ⟨rfl,rfl⟩
 ·obtain⟨x2534,rfl⟩:∃ z,z=o2552:=⟨_,rfl⟩
  rintro e s ⟨rfl,rfl⟩
  refine AWp.cond x2534 (by kernel_rfl) (fun c2535 => ?_) (fun c2535 => ?_)
  ·replace H:=iT c2535 H
   obtain⟨t2542,e2543,H⟩:=Z4 H
   refine sR hP hn hm [(1,.call [(0,0)] [(0,0)] [] [] 1 (.tup []) [(0,some (.box 94 (Z3 ⟨a0_c0,a0_c1,t2542⟩)))])] [] [] [(0,some (.box 94 (Z3 ⟨a0_c0,a0_c1,t2542⟩)))] [0] [_,_] ⟨Try.call47,Zk.ok a0_c0 a0_c1 a0_c2 7 t2542 e2543,trivial⟩ ?_
   refine sO hP hn hm [] [(2,bV false)] [2] [] [0] ?_
   refine AWp.conv (inv:=[(0,0)]) (vk:=[]) (e0:=[]) (t:=⟨[(2,bV false)],[(0,some (.box 94 (Z3 ⟨a0_c0,a0_c1,t2542⟩)))],1⟩) (by kernel_rfl) ?_
   refine AWp.ret ?_
   obtain rfl:=sj H
   exact rl (.inl rfl) rfl (by kernel_rfl) (by kernel_rfl)
  ·replace H:=iF c2535 H
   refine AWp.skip ?_
   obtain⟨b2548,p2549,q2550,H⟩:=Z0q H
   obtain⟨c2551,H⟩:=Z17 H
   refine sR hP hn hm [(9,.c ((Z1 .u8) b2548))] [(3,bV ((u8.wrap (((BitVec.toNat (BitVec.ofInt 8 (Int.fdiv b2548 (2 ^ (min (Int.toNat (u64.wrap ((7:Int)-(u64.wrap (Int.tmod a0_c1 (8:Int)))))) 8))) &&& BitVec.ofInt 8 (1:Int)):Nat):Int)))==(1:Int)))] [0,3] [] [0] [(8:Int)≠0,_,_,(8:Int)≠0,_] ⟨by decide,p2549,Zu (Z1 .u8) q2550,by decide,c2551,trivial⟩ ?_
   refine sO hP hn hm [] [] [3] [(0,some (.box 94 (Z3 ⟨a0_c0,(i64.wrap (a0_c1+(1:Int))),a0_c2⟩)))] [0] ?_
   refine sO hP hn hm [] [(2,bV ((u8.wrap (((BitVec.toNat (BitVec.ofInt 8 (Int.fdiv b2548 (2 ^ (min (Int.toNat (u64.wrap ((7:Int)-(u64.wrap (Int.tmod a0_c1 (8:Int)))))) 8))) &&& BitVec.ofInt 8 (1:Int)):Nat):Int)))==(1:Int)))] [2] [] [0] ?_
   refine AWp.conv (inv:=[(0,0)]) (vk:=[]) (e0:=[]) (t:=⟨[(2,bV ((u8.wrap (((BitVec.toNat (BitVec.ofInt 8 (Int.fdiv b2548 (2 ^ (min (Int.toNat (u64.wrap ((7:Int)-(u64.wrap (Int.tmod a0_c1 (8:Int)))))) 8))) &&& BitVec.ofInt 8 (1:Int)):Nat):Int)))==(1:Int)))],[(0,some (.box 94 (Z3 ⟨a0_c0,(i64.wrap (a0_c1+(1:Int))),a0_c2⟩)))],1⟩) (by kernel_rfl) ?_
   refine AWp.ret ?_
   obtain rfl:=sj H
   exact rl (.inl rfl) rfl (by kernel_rfl) (by kernel_rfl)
end Go.Proofs.Ytlclecehlekjoaa.PvGE
