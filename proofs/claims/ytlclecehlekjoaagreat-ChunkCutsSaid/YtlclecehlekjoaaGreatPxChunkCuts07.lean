import Derived.Test.YtlclecehlekjoaaGreatProg
import Derived.Test.YtlclecehlekjoaaGreatPxChunkCuts06
set_option linter.unusedVariables false
set_option linter.unnecessarySimpa false
set_option linter.unusedSimpArgs false
set_option maxRecDepth 10000
namespace Go.Proofs.YtlclecehlekjoaaGreat.PvGK
open Go Go.Pv Go.IntKind
def Z09.l1 (a0:List Z2) (b1376:Z2) (x1369:List Z2) (x1370:List Z2) (x1371:Int) (x1389:Unit):Option (((List Z2)×Bool) ⊕ Unit):=((if(decide ((x1369.length:Int)>(0:Int)))=true then((at? x1369 0)>>=fun b1384=>some (decide (b1384.f0<b1376.f0))) else(some false)):Option (Bool))>>=fun x1387=>if x1387=true then(some (.inl ([],false))) else(some (.inr ()))
def Z09.l0 (a0:List Z2) (x1369:List Z2) (x1370:List Z2) (x1371:Int):Option (((List Z2)×Bool) ⊕ ((List Z2)×(List Z2))):=if(decide (x1371<(a0.length:Int)))=true then((at? a0 x1371)>>=fun b1376=>(Z09.l1 a0 b1376 x1369 x1370 x1371 ())>>=fun oo=>match oo with | .inl rr=>(some (.inl rr)) | .inr _=>(((if(decide ((x1369.length:Int)>(0:Int)))=true then((at? x1369 0)>>=fun b1395=>some (b1395.f0==b1376.f0)) else(some false)):Option (Bool))>>=fun x1398=>((if x1398=true then((at? x1369 0)>>=fun b1403=>if(decide (b1403.f1>b1376.f1))=true then(some (.inl ([],false))) else((chk (0≤(1:Int)∧(1:Int)≤(x1369.length:Int)∧(x1369.length:Int)≤(x1369.length:Int)))>>=fun _=>some (.inr ((x1369.drop (Int.toNat ((1:Int)))).take ((Int.toNat ((x1369.length:Int)))-(Int.toNat ((1:Int)))),u64.wrap (b1376.f1-b1403.f1))))) else(some (.inr (x1369,b1376.f1)))):Option (((List Z2)×Bool) ⊕ ((List Z2)×Int)))>>=fun oo=>match oo with | .inl rr=>(some (.inl rr)) | .inr (x1409,x1410)=>((chk ((x1370.length+[(⟨b1376.f0,x1410⟩:Z2)].length)*16≤140737488355328))>>=fun _=>Z09.l0 a0 x1409 (x1370++[(⟨b1376.f0,x1410⟩:Z2)]) (i64.wrap (x1371+(1:Int)))))) else(some (.inr (x1369,x1370)))
partial_fixpoint
def Z09.f (a0:List Z2) (a1:List Z2):Option ((List Z2)×Bool):=(Z09.l0 a0 a1 [] 0)>>=fun oo=>match oo with | .inl rr=>(some rr) | .inr (x1413,x1414)=>(some (x1414,((x1413.length:Int)==(0:Int))))
theorem Z09.ok (a0:List Z2) (a1:List Z2) (r:(List Z2)×Bool) (H:Z09.f a0 a1=some r):Pv.Fn Tryz.prog 96 [.im (.row (a0.map Z0)),.im (.row (a1.map Z0))] [] 0 (fun x o=>x = .tup [.own 0,bV r.2]∧o=[(0,some (.row 2 87 (r.1.map Z0)))]):=by
 unfold Z09.f at H
 refine Fn.bodyK [0] Tryz.func96 rfl rfl (fun Γ hP hn => ?_)
 have hm:Tryz.prog.follows .mixedOrders=true:=by kernel_rfl
 replace hn:Γ.n=65:=hn
 refine sO hP hn hm [] [] [0,1] [] [] ?_
 refine sO hP hn hm [] [(6,.none0)] [0,1,6] [] [] ?_
 refine AWp.seq ?_
 refine sR hP hn hm [(1,.any (iV .i64 (a0.length:Int)))] [(9,.im (.row (a0.map Z0))),(10,iV .i64 (a0.length:Int)),(11,iV .i64 0)] [1,6,9,10,11] [] [] [((a0.map Z0).length:Int)=(a0.length:Int)] ⟨by rw[Zi],trivial⟩ ?_
 refine AWp.block ?_
 obtain⟨o1415,e1416,H⟩:=Z3 H
 refine AWp.loop (LWp.conv (inv:=[]) (vk:=[]) (e0:=[7]) (t:=⟨[(1,.im (.row (a1.map Z0))),(6,.own 7),(9,.im (.row (a0.map Z0))),(10,iV .i64 (a0.length:Int)),(11,iV .i64 0)],[(7,some (.row 2 87 ([].map Z0)))],0⟩) (by kernel_rfl) ?_)
 refine LWp.mono (Q:=fun e s=>(match (generalizing:=false) o1415 with | .inl rr=>e = .ret∧s.floor=0∧Z1x Tryz.prog Tryz.f96 s=some (.tup [.own 0,bV rr.2])∧([(0,s.obj 0)]:List (Nat×Option MObj))=[(0,some (.row 2 87 (rr.1.map Z0)))] | .inr (x1413,x1414)=>e = .exit 0∧s=⟨[(1,.im (.row (x1413.map Z0))),(6,.own 19)],[(19,some (.row 2 87 (x1414.map Z0)))],0⟩)) (LWp.cv (Zn (fun body hbody => ?_))) ?_
 ·refine         Z09.l0.partial_correctness a0 (motive:=fun x1369 x1370 x1371 o1415=>LWp Γ body (fun e s=>∃ t,Cv Γ s t∧(match (generalizing:=false) o1415 with | .inl rr=>e = .ret∧t.floor=0∧Z1x   Tryz.prog Tryz.f96 t=some (.tup [.own 0,bV rr.2])∧([(0,t.obj 0)]:List (Nat×Option MObj))=[(0,some (.row 2 87 (rr.1.map Z0     )))] | .inr (x1413,x1414)=>e = .exit 0∧t=⟨[(1,.im (.row (x1413.map Z0     ))),(6,.own 19)],[(19,some (.row 2 87 (x1414.map Z0     )))],0⟩)) ⟨[(1,.im (.row (x1369.map Z0     ))),(6,.own 7),(9,.im (.row (a0.map Z0     ))),(10,iV .i64 (a0.length:Int)),(11,iV .i64 x1371)],[(7,some (.row 2 87 (x1370.map Z0     )))],0⟩) ?_ _ _ _ _ e1416
  clear H e1416 o1415;intro self ih x1369 x1370 x1371 o1415 H
  subst hbody
  refine LWp.round ?_
  refine sO hP hn hm [] [(12,bV (decide (x1371<(a0.length:Int))))] [1,6,9,10,11,12] [] [7] ?_
  refine AWp.seq ?_
  refine AWp.cond (decide (x1371<(a0.length:Int))) (by kernel_rfl) (fun c1372 => ?_) (fun c1372 => ?_)
  ·replace H:=iT c1372 H
   refine AWp.skip ?_
   refine AWp.seq ?_
   refine AWp.block ?_
   obtain⟨b1376,p1377,q1378,H⟩:=Z03 H
   refine sR hP hn hm [(0,.c (Z0 b1376)),(2,.k 8)] [(8,.ptr 8 0 0)] [1,6,8,9,10,11] [(8,some (.box 87 (Z2b b1376)))] [7,8] [_,_] ⟨p1377,Zf Z0 q1378,trivial⟩ ?_
   refine AWp.seq ?_
   refine AWp.block ?_
   obtain⟨o1417,e1418,H⟩:=Z3 H
   refine AWp.loop (LWp.conv (inv:=[(7,7),(8,8)]) (vk:=[]) (e0:=[]) (t:=⟨[(1,.im (.row (x1369.map Z0))),(6,.own 7),(8,.ptr 8 0 0),(9,.im (.row (a0.map Z0))),(10,iV .i64 (a0.length:Int)),(11,iV .i64 x1371)],[(7,some (.row 2 87 (x1370.map Z0))),(8,some (.box 87 (Z2b b1376)))],0⟩) (by kernel_rfl) ?_)
   refine LWp.mono (Q:=fun e s=>(match (generalizing:=false) o1417 with | .inl rr=>e = .ret∧s.floor=0∧Z1x Tryz.prog Tryz.f96 s=some (.tup [.own 0,bV rr.2])∧([(0,s.obj 0)]:List (Nat×Option MObj))=[(0,some (.row 2 87 (rr.1.map Z0)))] | .inr _=>e = .exit 2∧s=⟨[(1,.im (.row (x1369.map Z0))),(6,.own 11),(8,.ptr 12 0 0),(9,.im (.row (a0.map Z0))),(10,iV .i64 (a0.length:Int)),(11,iV .i64 x1371)],[(11,some (.row 2 87 (x1370.map Z0))),(12,some (.box 87 (Z2b b1376)))],0⟩)) (LWp.cv (Zn (fun body hbody => ?_))) ?_
   ·refine(show ∀ x1389 o1417,        Z09.l1 a0 b1376 x1369 x1370 x1371 x1389=some o1417→LWp Γ body (fun e s=>∃ t,Cv Γ s t∧(match (generalizing:=false) o1417 with | .inl rr=>e = .ret∧t.floor=0∧Z1x   Tryz.prog Tryz.f96 t=some (.tup [.own 0,bV rr.2])∧([(0,t.obj 0)]:List (Nat×Option MObj))=[(0,some (.row 2 87 (rr.1.map Z0     )))] | .inr _=>e = .exit 2∧t=⟨[(1,.im (.row (x1369.map Z0     ))),(6,.own 11),(8,.ptr 12 0 0),(9,.im (.row (a0.map Z0     ))),(10,iV .i64 (a0.length:Int)),(11,iV .i64 x1371)],[(11,some (.row 2 87 (x1370.map Z0     ))),(12,some (.box 87 (Z2b     b1376)))],0⟩)) ⟨[(1,.im (.row (x1369.map Z0     ))),(6,.own 7),(8,.ptr 8 0 0),(9,.im (.row (a0.map Z0     ))),(10,iV .i64 (a0.length:Int)),(11,iV .i64 x1371)],[(7,some (.row 2 87 (x1370.map Z0     ))),(8,some (.box 87 (Z2b     b1376)))],0⟩ from ?_) _ _ e1418
    clear H e1418 o1417;intro x1389 o1417 H
    unfold Z09.l1 at H
    subst hbody
    refine LWp.round ?_
    refine AWp.seq ?_
    refine AWp.seq ?_
    obtain⟨o1419,e1420,H⟩:=Z3 H
    refine AWp.mono (Q:=fun e s=>(match (generalizing:=false) o1419 with | x1387=>e = .normal∧s=⟨[(1,.im (.row (x1369.map Z0))),(6,.own 9),(8,.ptr 10 0 0),(9,.im (.row (a0.map Z0))),(10,iV .i64 (a0.length:Int)),(11,iV .i64 x1371),(26,bV x1387)],[(9,some (.row 2 87 (x1370.map Z0))),(10,some (.box 87 (Z2b b1376)))],0⟩)) (AWp.cv ?_) ?_
    ·replace H:=e1420;clear e1420
     rcases Bool.eq_false_or_eq_true (decide ((x1369.length:Int)>(0:Int))) with c1383 | c1383
     ·replace H:=iT c1383 H
      obtain⟨b1384,p1385,q1386,H⟩:=Z03 H
      refine rG hP hn hm [(1,.any (iV .i64 (x1369.length:Int))),(3,.b true),(5,.c (Z0 b1384))] [(19,.im (.row (x1369.map Z0))),(20,.ip [iI .i64 b1384.f0,iI .u64 b1384.f1]),(21,.ip [iI .i64 b1384.f0,iI .u64 b1384.f1]),(22,iV .i64 b1384.f0),(23,.ptr 8 0 0),(24,iV .i64 b1376.f0),(25,bV (decide (b1384.f0<b1376.f0))),(26,bV (decide (b1384.f0<b1376.f0)))] [1,6,8,9,10,11,19,20,21,22,23,24,25,26] [] [7,8] [((x1369.map Z0).length:Int)=(x1369.length:Int),_,_,_] ⟨by rw[Zi],c1383,p1385,Zf Z0 q1386,trivial⟩ ?_
      obtain rfl:=sj H
      exact lf [(7,9),(8,10)] [] [] (by kernel_rfl) ⟨rfl,rfl⟩
     ·replace H:=iF c1383 H
      refine rG hP hn hm [(1,.any (iV .i64 (x1369.length:Int))),(3,.b false)] [(26,bV false)] [1,6,8,9,10,11,26] [] [7,8] [((x1369.map Z0).length:Int)=(x1369.length:Int),_] ⟨by rw[Zi],c1383,trivial⟩ ?_
      obtain rfl:=sj H
      exact lf [(7,9),(8,10)] [] [] (by kernel_rfl) ⟨rfl,rfl⟩
    ·obtain⟨x1387,rfl⟩:∃ z,z=o1419:=⟨_,rfl⟩
     rintro e s ⟨rfl,rfl⟩
     refine AWp.cond x1387 (by kernel_rfl) (fun c1388 => ?_) (fun c1388 => ?_)
     ·replace H:=iT c1388 H
      refine AWp.skip ?_
      refine AWp.block ?_
      refine sO hP hn hm [] [(4,.none0),(5,bV false)] [4,5] [] [] ?_
      refine AWp.conv (inv:=[]) (vk:=[]) (e0:=[0]) (t:=⟨[(4,.own 0),(5,bV false)],[(0,some (.row 2 87 ([].map Z0)))],0⟩) (by kernel_rfl) ?_
      refine AWp.ret ?_
      obtain rfl:=sj H
      exact rl rfl rfl (by kernel_rfl) (by kernel_rfl)
     ·replace H:=iF c1388 H
      refine AWp.exit ?_
      obtain rfl:=sj H
      exact lf [(9,11),(10,12)] [] [] (by kernel_rfl) ⟨rfl,rfl⟩
   ·rcases o1417 with rr | _
    ·skip
     rintro e s ⟨rfl,hfl,hres⟩
     obtain rfl:=sj H
     exact Exists.intro _ (And.intro (fun _ _ h=>h) (And.intro rfl (And.intro hfl hres)))
    ·skip
     rintro e s ⟨rfl,rfl⟩
     refine AWp.seq ?_
     refine AWp.seq ?_
     obtain⟨o1421,e1422,H⟩:=Z3 H
     refine AWp.mono (Q:=fun e s=>(match (generalizing:=false) o1421 with | x1398=>e = .normal∧s=⟨[(1,.im (.row (x1369.map Z0))),(6,.own 13),(8,.ptr 14 0 0),(9,.im (.row (a0.map Z0))),(10,iV .i64 (a0.length:Int)),(11,iV .i64 x1371),(38,bV x1398)],[(13,some (.row 2 87 (x1370.map Z0))),(14,some (.box 87 (Z2b b1376)))],0⟩)) (AWp.cv ?_) ?_
     ·replace H:=e1422;clear e1422
      rcases Bool.eq_false_or_eq_true (decide ((x1369.length:Int)>(0:Int))) with c1394 | c1394
      ·replace H:=iT c1394 H
       obtain⟨b1395,p1396,q1397,H⟩:=Z03 H
       refine rG hP hn hm [(1,.any (iV .i64 (x1369.length:Int))),(3,.b true),(5,.c (Z0 b1395))] [(31,.im (.row (x1369.map Z0))),(32,.ip [iI .i64 b1395.f0,iI .u64 b1395.f1]),(33,.ip [iI .i64 b1395.f0,iI .u64 b1395.f1]),(34,iV .i64 b1395.f0),(35,.ptr 12 0 0),(36,iV .i64 b1376.f0),(37,bV (b1395.f0==b1376.f0)),(38,bV (b1395.f0==b1376.f0))] [1,6,8,9,10,11,31,32,33,34,35,36,37,38] [] [11,12] [((x1369.map Z0).length:Int)=(x1369.length:Int),_,_,_] ⟨by rw[Zi],c1394,p1396,Zf Z0 q1397,trivial⟩ ?_
       obtain rfl:=sj H
       exact lf [(11,13),(12,14)] [] [] (by kernel_rfl) ⟨rfl,rfl⟩
      ·replace H:=iF c1394 H
       refine rG hP hn hm [(1,.any (iV .i64 (x1369.length:Int))),(3,.b false)] [(38,bV false)] [1,6,8,9,10,11,38] [] [11,12] [((x1369.map Z0).length:Int)=(x1369.length:Int),_] ⟨by rw[Zi],c1394,trivial⟩ ?_
       obtain rfl:=sj H
       exact lf [(11,13),(12,14)] [] [] (by kernel_rfl) ⟨rfl,rfl⟩
     ·obtain⟨x1398,rfl⟩:∃ z,z=o1421:=⟨_,rfl⟩
      rintro e s ⟨rfl,rfl⟩
      obtain⟨o1423,e1424,H⟩:=Z3 H
      refine AWp.mono (Q:=fun e s=>(match (generalizing:=false) o1423 with | .inl rr=>e = .ret∧s.floor=0∧Z1x Tryz.prog Tryz.f96 s=some (.tup [.own 0,bV rr.2])∧([(0,s.obj 0)]:List (Nat×Option MObj))=[(0,some (.row 2 87 (rr.1.map Z0)))] | .inr (x1409,x1410)=>e = .normal∧s=⟨[(1,.im (.row (x1409.map Z0))),(6,.own 15),(8,.ptr 16 0 0),(9,.im (.row (a0.map Z0))),(10,iV .i64 (a0.length:Int)),(11,iV .i64 x1371)],[(15,some (.row 2 87 (x1370.map Z0))),(16,some (.box 87 (Z2b ⟨b1376.f0,x1410⟩)))],0⟩)) (AWp.cv ?_) ?_
      ·replace H:=e1424;clear e1424
       refine AWp.cond x1398 (by kernel_rfl) (fun c1399 => ?_) (fun c1399 => ?_)
       ·replace H:=iT c1399 H
        refine AWp.seq ?_
        obtain⟨b1403,p1404,q1405,H⟩:=Z03 H
        refine sR hP hn hm [(1,.c (Z0 b1403))] [(45,bV (decide (b1403.f1>b1376.f1)))] [1,6,8,9,10,11,45] [] [13,14] [_,_] ⟨p1404,Zf Z0 q1405,trivial⟩ ?_
        refine AWp.cond (decide (b1403.f1>b1376.f1)) (by kernel_rfl) (fun c1406 => ?_) (fun c1406 => ?_)
        ·replace H:=iT c1406 H
         refine sO hP hn hm [] [(4,.none0),(5,bV false)] [4,5] [] [] ?_
         refine AWp.conv (inv:=[]) (vk:=[]) (e0:=[0]) (t:=⟨[(4,.own 0),(5,bV false)],[(0,some (.row 2 87 ([].map Z0)))],0⟩) (by kernel_rfl) ?_
         refine AWp.ret ?_
         obtain rfl:=sj H
         exact rl rfl rfl (by kernel_rfl) (by kernel_rfl)
        ·replace H:=iF c1406 H
         refine AWp.skip ?_
         refine sR hP hn hm [(3,.c (Z0 b1403))] [] [1,6,8,9,10,11] [(14,some (.box 87 (Z2b ⟨b1376.f0,(u64.wrap (b1376.f1-b1403.f1))⟩)))] [13,14] [_,_] ⟨p1404,Zf Z0 q1405,trivial⟩ ?_
         obtain⟨c1408,H⟩:=Z0q H
         refine rG hP hn hm [(1,.rows (((x1369.drop (Int.toNat ((1:Int)))).take ((Int.toNat ((x1369.length:Int)))-(Int.toNat ((1:Int))))).map Z0))] [(1,.im (.row (((x1369.drop (Int.toNat ((1:Int)))).take ((Int.toNat ((x1369.length:Int)))-(Int.toNat ((1:Int))))).map Z0)))] [1,6,8,9,10,11] [] [13,14] [0≤(1:Int),(1:Int)≤((x1369.map Z0).length:Int),((x1369.map Z0).length:Int)≤((x1369.map Z0).length:Int),∀ c∈x1369.map Z0,c.length=2,((x1369.drop (Int.toNat ((1:Int)))).take ((Int.toNat ((x1369.length:Int)))-(Int.toNat ((1:Int))))).map Z0=((x1369.map Z0).drop (Int.toNat ((1:Int)))).take ((Int.toNat (((x1369.map Z0).length:Int)))-(Int.toNat ((1:Int))))] ⟨by exact c1408.1,by simpa using c1408.2.1,by simpa using c1408.2.2,by exact Z0k _ _ _ (fun _=>rfl),by simp[cut1],trivial⟩ ?_
         obtain rfl:=sj H
         exact lf [(13,15),(14,16)] [] [] (by kernel_rfl) ⟨rfl,rfl⟩
       ·replace H:=iF c1399 H
        refine AWp.skip ?_
        obtain rfl:=sj H
        exact lf [(13,15),(14,16)] [] [] (by kernel_rfl) ⟨rfl,rfl⟩
      ·rcases o1423 with rr | ⟨x1409,x1410⟩
       ·skip
        rintro e s ⟨rfl,hfl,hres⟩
        obtain rfl:=sj H
        exact Exists.intro _ (And.intro (fun _ _ h=>h) (And.intro rfl (And.intro hfl hres)))
       ·skip
        rintro e s ⟨rfl,rfl⟩
        obtain⟨c1412,H⟩:=Z0q H
        refine rG hP hn hm [(2,.app 17 ([(⟨b1376.f0,x1410⟩:Z2)].map Z0)),(3,.app 18 ((x1370++[(⟨b1376.f0,x1410⟩:Z2)]).map Z0))] [(6,.own 18)] [1,6,9,10,11] [(18,some (.row 2 87 ((x1370++[(⟨b1376.f0,x1410⟩:Z2)]).map Z0)))] [18] [[(⟨b1376.f0,x1410⟩:Z2)].map Z0=[[iI .i64 b1376.f0,iI .u64 x1410]],(x1370++[(⟨b1376.f0,x1410⟩:Z2)]).map Z0=(x1370.map Z0)++([(⟨b1376.f0,x1410⟩:Z2)].map Z0),∀ c∈([(⟨b1376.f0,x1410⟩:Z2)].map Z0),c.length=2,∀ c∈([(⟨b1376.f0,x1410⟩:Z2)].map Z0),Z0m (c.map .im)=true,((x1370.map Z0).length+([(⟨b1376.f0,x1410⟩:Z2)].map Z0).length)*16≤140737488355328] ⟨by exact rfl,by simp,by exact Z0k _ _ _ (fun _=>rfl),by exact Z0j _ _ (fun _=>rfl),by simpa using c1412,trivial⟩ ?_
        refine rO hP hn hm [] [(11,iV .i64 (i64.wrap (x1371+(1:Int))))] [1,6,9,10,11] [] [18] ?_
        exact LWp.conv [(18,7)] [] [] (by kernel_rfl) (ih _ _ _ _ H)
  ·replace H:=iF c1372 H
   refine AWp.exit ?_
   obtain rfl:=sj H
   exact lf [(7,19)] [] [] (by kernel_rfl) ⟨rfl,rfl⟩
 ·rcases o1415 with rr | ⟨x1413,x1414⟩
  ·skip
   rintro e s ⟨rfl,hfl,hres⟩
   obtain rfl:=sj H
   exact Exists.intro _ (And.intro (fun _ _ h=>h) (And.intro (.inl rfl) (And.intro hfl hres)))
  ·skip
   rintro e s ⟨rfl,rfl⟩
   refine sR hP hn hm [(2,.any (iV .i64 (x1413.length:Int)))] [(4,.own 19),(5,bV ((x1413.length:Int)==(0:Int)))] [4,5] [] [19] [((x1413.map Z0).length:Int)=(x1413.length:Int)] ⟨by rw[Zi],trivial⟩ ?_
   refine AWp.conv (inv:=[(19,0)]) (vk:=[]) (e0:=[]) (t:=⟨[(4,.own 0),(5,bV ((x1413.length:Int)==(0:Int)))],[(0,some (.row 2 87 (x1414.map Z0)))],0⟩) (by kernel_rfl) ?_
   refine AWp.ret ?_
   obtain rfl:=sj H
   exact rl (.inl rfl) rfl (by kernel_rfl) (by kernel_rfl)
def Z4j.f (a0:Int) (a1:Int):Option (Int×Int):=if(decide (a1>a0))=true then(some (0,5)) else(some (u64.wrap (a0-a1),0))
theorem Z4j.ok (a0:Int) (a1:Int) (r:Int×Int) (H:Z4j.f a0 a1=some r):Pv.Fn Tryz.prog 97 [iV .u64 a0,iV .u64 a1] [] 0 (fun x o=>x = .tup [iV .u64 r.1,iV .i64 r.2]∧o=[]):=by
 unfold Z4j.f at H
 refine Fn.bodyK [] Tryz.func97 rfl rfl (fun Γ hP hn => ?_)
 have hm:Tryz.prog.follows .mixedOrders=true:=by kernel_rfl
 replace hn:Γ.n=12:=hn
 refine sO hP hn hm [] [] [0,1] [] [] ?_
 refine AWp.seq ?_
 refine sO hP hn hm [] [(8,bV (decide (a1>a0)))] [0,1,8] [] [] ?_
 refine AWp.cond (decide (a1>a0)) (by kernel_rfl) (fun c1433 => ?_) (fun c1433 => ?_)
 ·replace H:=iT c1433 H
  refine sO hP hn hm [] [(4,iV .u64 0),(5,iV .i64 5)] [4,5] [] [] ?_
  refine AWp.conv (inv:=[]) (vk:=[]) (e0:=[]) (t:=⟨[(4,iV .u64 0),(5,iV .i64 5)],[],0⟩) (by kernel_rfl) ?_
  refine AWp.ret ?_
  obtain rfl:=sj H
  exact rl (.inl rfl) rfl (by kernel_rfl) (by kernel_rfl)
 ·replace H:=iF c1433 H
  refine AWp.skip ?_
  refine sO hP hn hm [] [(4,iV .u64 (u64.wrap (a0-a1))),(5,iV .i64 0)] [4,5] [] [] ?_
  refine AWp.conv (inv:=[]) (vk:=[]) (e0:=[]) (t:=⟨[(4,iV .u64 (u64.wrap (a0-a1))),(5,iV .i64 0)],[],0⟩) (by kernel_rfl) ?_
  refine AWp.ret ?_
  obtain rfl:=sj H
  exact rl (.inl rfl) rfl (by kernel_rfl) (by kernel_rfl)
def Z1d.f (a0:Ze) (a1:Ze):Option (Ze×Int):=(Z37.f a0.f5 a1.f5)>>=fun t327=>(Z07.f a0 a1)>>=fun t1325=>if(t1325.2.2 != (0:Int))=true then(some ((⟨0,0,0,0,0,0,[],[]⟩:Ze),t1325.2.2)) else((Z09.f ((t1325.1).f6) ((t1325.2.1).f6))>>=fun t1427=>(Z09.f ((t1325.1).f7) ((t1325.2.1).f7))>>=fun t1431=>(Z4j.f ((t1325.1).f3) ((t1325.2.1).f3))>>=fun t1436=>((if(!t1427.2)=true then(some true) else(if(!t1431.2)=true then(some true) else(some (t1436.2 != (0:Int))))):Option (Bool))>>=fun x1442=>if x1442=true then(some ((⟨0,0,0,0,0,0,[],[]⟩:Ze),21)) else(if(t327.2 != (0:Int))=true then(some ((⟨0,0,0,0,0,0,[],[]⟩:Ze),t327.2)) else((Z2n.f (⟨(t1325.1).f0,(t1325.1).f1,(t1325.1).f2,t1436.1,(t1325.1).f4,t327.1,(t1325.1).f6,(t1325.1).f7⟩:Ze) t1427.1 t1431.1)>>=fun t1449=>some ((t1449.1),t1449.2))))
theorem Z1d.ok (a0:Ze) (a1:Ze) (r:Ze×Int) (H:Z1d.f a0 a1=some r):Pv.Fn Tryz.prog 84 [.agg (Zh a0),.agg (Zh a1)] [] 0 (fun x o=>x = .tup [.agg (Zh (r.1)),iV .i64 r.2]∧o=[]):=by
 unfold Z1d.f at H
 refine Fn.bodyK [] Tryz.func84 rfl rfl (fun Γ hP hn => ?_)
 have hm:Tryz.prog.follows .mixedOrders=true:=by kernel_rfl
 replace hn:Γ.n=85:=hn
 refine sO hP hn hm [(0,.k 0),(1,.k 1),(2,.k 2)] [(2,.ptr 0 0 0),(3,.ptr 1 0 0),(4,.ptr 2 0 0)] [2,3,4] [(0,some (.box 39 (Zh a0))),(1,some (.box 39 (Zh a1))),(2,some (.box 39 [iV .i64 0,iV .i64 0,iV .i64 0,iV .u64 0,iV .u64 0,iV .i64 0,.none0,.none0]))] [0,1,2] ?_
 obtain⟨t327,e328,H⟩:=Z3 H
 refine sR hP hn hm [(4,.call [] [] [] [] 0 (.tup [iV .i64 t327.1,iV .i64 t327.2]) [])] [(6,iV .i64 t327.1),(7,iV .i64 t327.2)] [2,3,4,6,7] [] [0,1,2] [_,_] ⟨Tryz.call94,Z37.ok a0.f5 a1.f5 t327 e328,trivial⟩ ?_
 obtain⟨t1325,e1326,H⟩:=Z3 H
 refine sR hP hn hm [(2,.call [] [] [] [] 0 (.tup [.agg (Zh (t1325.1)),.agg (Zh (t1325.2.1)),iV .i64 t1325.2.2]) [])] [(8,iV .i64 t1325.2.2)] [2,3,4,6,7,8] [(0,some (.box 39 (Zh (t1325.1)))),(1,some (.box 39 (Zh (t1325.2.1))))] [0,1,2] [_,_] ⟨Tryz.call95,Z07.ok a0 a1 t1325 e1326,trivial⟩ ?_
 refine AWp.seq ?_
 refine sO hP hn hm [] [(31,bV (t1325.2.2 != (0:Int)))] [2,3,4,6,7,8,31] [] [0,1,2] ?_
 refine AWp.cond (t1325.2.2 != (0:Int)) (by kernel_rfl) (fun c1327 => ?_) (fun c1327 => ?_)
 ·replace H:=iT c1327 H
  refine sO hP hn hm [] [(5,iV .i64 t1325.2.2)] [4,5] [] [2] ?_
  refine AWp.conv (inv:=[(2,0)]) (vk:=[]) (e0:=[]) (t:=⟨[(4,.ptr 0 0 0),(5,iV .i64 t1325.2.2)],[(0,some (.box 39 (Zh ((⟨0,0,0,0,0,0,[],[]⟩:Ze)))))],0⟩) (by kernel_rfl) ?_
  refine AWp.ret ?_
  obtain rfl:=sj H
  exact rl (.inl rfl) rfl (by kernel_rfl) (by kernel_rfl)
 ·replace H:=iF c1327 H
  refine AWp.skip ?_
  obtain⟨t1427,e1428,H⟩:=Z3 H
  refine sR hP hn hm [(4,.call [] [(0,3)] [] [3] 0 (.tup [.own 0,bV t1427.2]) [(0,some (.row 2 87 (t1427.1.map Z0)))])] [(9,.own 3),(10,bV t1427.2)] [2,3,4,6,7,9,10] [(3,some (.row 2 87 (t1427.1.map Z0)))] [0,1,2,3] [_,_] ⟨Tryz.call96,Z09.ok ((t1325.1).f6) ((t1325.2.1).f6) t1427 e1428,trivial⟩ ?_
  obtain⟨t1431,e1432,H⟩:=Z3 H
  refine sR hP hn hm [(4,.call [] [(0,4)] [] [4] 0 (.tup [.own 0,bV t1431.2]) [(0,some (.row 2 87 (t1431.1.map Z0)))])] [(11,.own 4),(12,bV t1431.2)] [2,3,4,6,7,9,10,11,12] [(4,some (.row 2 87 (t1431.1.map Z0)))] [0,1,2,3,4] [_,_] ⟨Tryz.call96,Z09.ok ((t1325.1).f7) ((t1325.2.1).f7) t1431 e1432,trivial⟩ ?_
  obtain⟨t1436,e1437,H⟩:=Z3 H
  refine sR hP hn hm [(4,.call [] [] [] [] 0 (.tup [iV .u64 t1436.1,iV .i64 t1436.2]) [])] [(13,iV .u64 t1436.1),(14,iV .i64 t1436.2)] [2,4,6,7,9,10,11,12,13,14] [] [0,2,3,4] [_,_] ⟨Tryz.call97,Z4j.ok ((t1325.1).f3) ((t1325.2.1).f3) t1436 e1437,trivial⟩ ?_
  refine AWp.seq ?_
  refine AWp.block ?_
  refine AWp.seq ?_
  obtain⟨o1451,e1452,H⟩:=Z3 H
  refine AWp.mono (Q:=fun e s=>(match (generalizing:=false) o1451 with | x1442=>e = .normal∧s=⟨[(2,.ptr 5 0 0),(4,.ptr 6 0 0),(6,iV .i64 t327.1),(7,iV .i64 t327.2),(9,.own 7),(11,.own 8),(13,iV .u64 t1436.1),(58,bV x1442)],[(5,some (.box 39 (Zh (t1325.1)))),(6,some (.box 39 [iV .i64 0,iV .i64 0,iV .i64 0,iV .u64 0,iV .u64 0,iV .i64 0,.none0,.none0])),(7,some (.row 2 87 (t1427.1.map Z0))),(8,some (.row 2 87 (t1431.1.map Z0)))],0⟩)) (AWp.cv ?_) ?_
  ·replace H:=e1452;clear e1452
   rcases Bool.eq_false_or_eq_true (!t1427.2) with c1440 | c1440
   ·replace H:=iT c1440 H
    refine rG hP hn hm [(2,.b true)] [(58,bV true)] [2,4,6,7,9,11,13,58] [] [0,2,3,4] [_] ⟨c1440,trivial⟩ ?_
    obtain rfl:=sj H
    exact lf [(0,5),(2,6),(3,7),(4,8)] [] [] (by kernel_rfl) ⟨rfl,rfl⟩
   ·replace H:=iF c1440 H
    rcases Bool.eq_false_or_eq_true (!t1431.2) with c1441 | c1441
    ·replace H:=iT c1441 H
     refine rG hP hn hm [(2,.b false),(6,.b true)] [(58,bV true)] [2,4,6,7,9,11,13,58] [] [0,2,3,4] [_,_] ⟨c1440,c1441,trivial⟩ ?_
     obtain rfl:=sj H
     exact lf [(0,5),(2,6),(3,7),(4,8)] [] [] (by kernel_rfl) ⟨rfl,rfl⟩
    ·replace H:=iF c1441 H
     refine rG hP hn hm [(2,.b false),(6,.b false)] [(58,bV (t1436.2 != (0:Int)))] [2,4,6,7,9,11,13,58] [] [0,2,3,4] [_,_] ⟨c1440,c1441,trivial⟩ ?_
     obtain rfl:=sj H
     exact lf [(0,5),(2,6),(3,7),(4,8)] [] [] (by kernel_rfl) ⟨rfl,rfl⟩
  ·obtain⟨x1442,rfl⟩:∃ z,z=o1451:=⟨_,rfl⟩
   rintro e s ⟨rfl,rfl⟩
   refine AWp.cond x1442 (by kernel_rfl) (fun c1443 => ?_) (fun c1443 => ?_)
   ·replace H:=iT c1443 H
    refine sO hP hn hm [] [(5,iV .i64 21)] [4,5] [] [6] ?_
    refine AWp.conv (inv:=[(6,0)]) (vk:=[]) (e0:=[]) (t:=⟨[(4,.ptr 0 0 0),(5,iV .i64 21)],[(0,some (.box 39 (Zh ((⟨0,0,0,0,0,0,[],[]⟩:Ze)))))],0⟩) (by kernel_rfl) ?_
    refine AWp.ret ?_
    obtain rfl:=sj H
    exact rl (.inl rfl) rfl (by kernel_rfl) (by kernel_rfl)
   ·replace H:=iF c1443 H
    refine sO hP hn hm [] [(70,bV (t327.2 != (0:Int)))] [2,4,6,7,9,11,13,70] [] [5,6,7,8] ?_
    refine AWp.cond (t327.2 != (0:Int)) (by kernel_rfl) (fun c1444 => ?_) (fun c1444 => ?_)
    ·replace H:=iT c1444 H
     refine sO hP hn hm [] [(5,iV .i64 t327.2)] [4,5] [] [6] ?_
     refine AWp.conv (inv:=[(6,0)]) (vk:=[]) (e0:=[]) (t:=⟨[(4,.ptr 0 0 0),(5,iV .i64 t327.2)],[(0,some (.box 39 (Zh ((⟨0,0,0,0,0,0,[],[]⟩:Ze)))))],0⟩) (by kernel_rfl) ?_
     refine AWp.ret ?_
     obtain rfl:=sj H
     exact rl (.inl rfl) rfl (by kernel_rfl) (by kernel_rfl)
    ·replace H:=iF c1444 H
     refine AWp.skip ?_
     refine sO hP hn hm [] [] [2,4,9,11] [(5,some (.box 39 (Zh ⟨((t1325.1).f0),((t1325.1).f1),((t1325.1).f2),t1436.1,((t1325.1).f4),t327.1,((t1325.1).f6),((t1325.1).f7)⟩)))] [5,6,7,8] ?_
     refine AWp.seq ?_
     refine AWp.conv (inv:=[(5,5),(6,6)]) (vk:=[7,8]) (e0:=[]) (t:=⟨[(2,.ptr 5 0 0),(4,.ptr 6 0 0),(9,.im (.row (t1427.1.map Z0))),(11,.im (.row (t1431.1.map Z0)))],[(5,some (.box 39 (Zh ⟨((t1325.1).f0),((t1325.1).f1),((t1325.1).f2),t1436.1,((t1325.1).f4),t327.1,((t1325.1).f6),((t1325.1).f7)⟩))),(6,some (.box 39 [iV .i64 0,iV .i64 0,iV .i64 0,iV .u64 0,iV .u64 0,iV .i64 0,.none0,.none0]))],0⟩) (by kernel_rfl) ?_
     obtain⟨t1449,e1450,H⟩:=Z3 H
     refine rG hP hn hm [(3,.call [] [] [] [] 0 (.tup [.agg (Zh (t1449.1)),iV .i64 t1449.2]) [])] [(5,iV .i64 t1449.2)] [4,5] [(6,some (.box 39 (Zh (t1449.1))))] [6] [_,_] ⟨Tryz.call72,Z2n.ok (⟨(t1325.1).f0,(t1325.1).f1,(t1325.1).f2,t1436.1,(t1325.1).f4,t327.1,(t1325.1).f6,(t1325.1).f7⟩:Ze) t1427.1 t1431.1 t1449 e1450,trivial⟩ ?_
     refine AWp.conv (inv:=[(6,0)]) (vk:=[]) (e0:=[]) (t:=⟨[(4,.ptr 0 0 0),(5,iV .i64 t1449.2)],[(0,some (.box 39 (Zh ((t1449.1)))))],0⟩) (by kernel_rfl) ?_
     refine AWp.ret ?_
     obtain rfl:=sj H
     exact rl (.inl rfl) rfl (by kernel_rfl) (by kernel_rfl)
def Z2u.f (a0:Ze) (a1:Ze):Option (Bool):=(Z1d.f a1 a0)>>=fun t1455=>some (t1455.2==(21:Int))
theorem Z2u.ok (a0:Ze) (a1:Ze) (r:Bool) (H:Z2u.f a0 a1=some r):Pv.Fn Tryz.prog 51 [.agg (Zh a0),.agg (Zh a1)] [] 0 (fun x o=>x=bV r∧o=[]):=by
 unfold Z2u.f at H
 refine Fn.bodyK [] Tryz.func51 rfl rfl (fun Γ hP hn => ?_)
 have hm:Tryz.prog.follows .mixedOrders=true:=by kernel_rfl
 replace hn:Γ.n=15:=hn
 refine sO hP hn hm [(0,.k 0),(1,.k 1)] [(2,.ptr 0 0 0),(3,.ptr 1 0 0)] [2,3] [(0,some (.box 39 (Zh a0))),(1,some (.box 39 (Zh a1)))] [0,1] ?_
 obtain⟨t1455,e1456,H⟩:=Z3 H
 refine sR hP hn hm [(2,.call [] [] [] [] 0 (.tup [.agg (Zh (t1455.1)),iV .i64 t1455.2]) []),(6,.k 2)] [(6,iV .i64 t1455.2)] [6] [] [] [_,_] ⟨Tryz.call84,Z1d.ok a1 a0 t1455 e1456,trivial⟩ ?_
 refine sO hP hn hm [] [(4,bV (t1455.2==(21:Int)))] [4] [] [] ?_
 refine AWp.conv (inv:=[]) (vk:=[]) (e0:=[]) (t:=⟨[(4,bV (t1455.2==(21:Int)))],[],0⟩) (by kernel_rfl) ?_
 refine AWp.ret ?_
 obtain rfl:=sj H
 exact rl (.inl rfl) rfl (by kernel_rfl) (by kernel_rfl)
def Z0t.f (a0:List Za):Option (List Za):=(chk ((([]:List Za).length+a0.length)*104≤140737488355328))>>=fun _=>some a0
theorem Z0t.ok (a0 r:List Za) (H:Z0t.f a0=some r):Pv.Fn Tryz.prog 52 [.im (.row (a0.map Z4))] [] 0 (fun x o=>x = .own 0∧o=[(0,some (.row 9 41 (r.map Z4)))]):=by
 unfold Z0t.f at H
 obtain⟨c1,H⟩:=Z0q H
 obtain rfl:=sj H
 refine Fn.bodyK [0] Tryz.func52 rfl rfl (fun Γ hP hn => ?_)
 have hm:Tryz.prog.follows .mixedOrders=true:=by kernel_rfl
 replace hn:Γ.n=8:=hn
 refine AWp.seq ?_
 refine reg hP hn hm [] [0,2] [] ⟨[(0,.im (.row (a0.map Z4))),(2,.none0)],[],0⟩ [] (by kernel_rfl) trivial ?_
 refine AWp.seq ?_
 cases a0 with
 | nil =>
  refine AWp.nilSplit 0 rfl (fun b m => ?_)
  refine AWp.seq ?_
  cases b with
  | none =>
   refine reg hP hn hm [(1,.more xNil)] [2,4] [] ⟨[(2,.none0),(4,bV true)],[],0⟩ [] (by kernel_rfl) trivial ?_
   refine AWp.cond true rfl (fun _ => ?_) (fun h=>nomatch h)
   refine AWp.seq ?_
   refine reg hP hn hm [] [2] [] ⟨[(2,.none0)],[],0⟩ [] (by kernel_rfl) trivial ?_
   refine AWp.conv (inv:=[]) (vk:=[]) (e0:=[0]) (t:=⟨[(2,.own 0)],[(0,some (.row 9 41 []))],0⟩) (by kernel_rfl) ?_
   refine AWp.ret ?_
   exact Exists.intro _ (And.intro (fun _ _ h=>h) (And.intro (.inl rfl) (And.intro rfl (And.intro (by kernel_rfl) (by kernel_rfl)))))
  | some b =>
   refine reg hP hn hm [(1,.more xNil)] [0,2,4] [] ⟨[(0,.im (.sc (.slice (some b) 0 m))),(2,.none0),(4,bV false)],[],0⟩ [] (by kernel_rfl) trivial ?_
   refine AWp.cond false rfl (fun h=>nomatch h) (fun _ => ?_)
   refine AWp.skip ?_
   refine AWp.unsplit 0 rfl ?_
   refine AWp.seq ?_
   refine reg hP hn hm [(0,.app 0 ([]:List (List Im))),(2,.app 1 (([]:List Za).map Z4))] [2] [1] ⟨[(2,.own 1)],[(1,some (.row 9 41 (([]:List Za).map Z4)))],0⟩ [([]:List (List Im))=[],([]:List Za).map Z4=([]:List (List Im))++([]:List Za).map Z4,∀ c∈([]:List Za).map Z4,c.length=9,∀ c∈([]:List Za).map Z4,Z0m (c.map .im)=true,(([]:List (List Im)).length+(([]:List Za).map Z4).length)*104≤140737488355328] (by kernel_rfl) ⟨rfl,by simp,by exact Z0k _ _ _ (fun _=>rfl),by exact Z0j _ _ (fun _=>rfl),by simpa using c1,trivial⟩ ?_
   refine AWp.conv (inv:=[(1,0)]) (vk:=[]) (e0:=[]) (t:=⟨[(2,.own 0)],[(0,some (.row 9 41 (([]:List Za).map Z4)))],0⟩) (by kernel_rfl) ?_
   refine AWp.ret ?_
   exact Exists.intro _ (And.intro (fun _ _ h=>h) (And.intro (.inl rfl) (And.intro rfl (And.intro (by kernel_rfl) (by kernel_rfl)))))
 | cons y l =>
  refine AWp.seq ?_
  refine reg hP hn hm [(1,.more xNil)] [0,2,4] [] ⟨[(0,.im (.row ((y::l).map Z4))),(2,.none0),(4,bV false)],[],0⟩ [] (by kernel_rfl) trivial ?_
  refine AWp.cond false rfl (fun h=>nomatch h) (fun _ => ?_)
  refine AWp.skip ?_
  refine AWp.seq ?_
  refine reg hP hn hm [(0,.app 0 ([]:List (List Im))),(2,.app 1 ((y::l).map Z4))] [2] [1] ⟨[(2,.own 1)],[(1,some (.row 9 41 ((y::l).map Z4)))],0⟩ [([]:List (List Im))=[],(y::l).map Z4=([]:List (List Im))++(y::l).map Z4,∀ c∈(y::l).map Z4,c.length=9,∀ c∈(y::l).map Z4,Z0m (c.map .im)=true,(([]:List (List Im)).length+((y::l).map Z4).length)*104≤140737488355328] (by kernel_rfl) ⟨rfl,by simp,by exact Z0k _ _ _ (fun _=>rfl),by exact Z0j _ _ (fun _=>rfl),by simpa using c1,trivial⟩ ?_
  refine AWp.conv (inv:=[(1,0)]) (vk:=[]) (e0:=[]) (t:=⟨[(2,.own 0)],[(0,some (.row 9 41 ((y::l).map Z4)))],0⟩) (by kernel_rfl) ?_
  refine AWp.ret ?_
  exact Exists.intro _ (And.intro (fun _ _ h=>h) (And.intro (.inl rfl) (And.intro rfl (And.intro (by kernel_rfl) (by kernel_rfl)))))
def Z1t.l0 (a0:List Z2) (x1481:Int) (x1482:List Z24) (x1483:Int):Option (Int×(List Z24)):=if(decide (x1483<(a0.length:Int)))=true then((at? a0 x1483)>>=fun b1488=>((if(x1483==(0:Int))=true then(some (b1488.f0,[(⟨0,1⟩:Z24)])) else((at? a0 (i64.wrap (x1483-(1:Int))))>>=fun b1495=>((if((i64.wrap (b1495.f0+(1:Int)))==b1488.f0)=true then((at? x1482 (i64.wrap ((x1482.length:Int)-(1:Int))))>>=fun b1502=>some (x1482.set (Int.toNat (i64.wrap ((x1482.length:Int)-(1:Int)))) (⟨b1502.f0,i64.wrap (b1502.f1+(1:Int))⟩:Z24))) else((chk ((x1482.length+[(⟨i64.wrap ((i64.wrap (b1488.f0-b1495.f0))-(1:Int)),1⟩:Z24)].length)*16≤140737488355328))>>=fun _=>some (x1482++[(⟨i64.wrap ((i64.wrap (b1488.f0-b1495.f0))-(1:Int)),1⟩:Z24)]))):Option (List Z24))>>=fun x1507=>some (x1481,x1507))):Option (Int×(List Z24)))>>=fun oo=>match oo with | (x1508,x1509)=>(Z1t.l0 a0 x1508 x1509 (i64.wrap (x1483+(1:Int))))) else(some (x1481,x1482))
partial_fixpoint
def Z1t.f (a0:List Z2):Option (Zc):=(Z1t.l0 a0 0 [] 0)>>=fun oo=>match oo with | (x1510,x1511)=>(some (⟨x1510,x1511⟩:Zc))
theorem Z1t.ok (a0:List Z2) (r:Zc) (H:Z1t.f a0=some r):Pv.Fn Tryz.prog 55 [.im (.row (a0.map Z0))] [] 0 (fun x o=>x = .agg [iV .i64 ((r).f0),.own 0]∧o=[(0,some (.row 2 99 (((r).f1).map Z02)))]):=by
 unfold Z1t.f at H
 refine Fn.bodyK [0] Tryz.func55 rfl rfl (fun Γ hP hn => ?_)
 have hm:Tryz.prog.follows .mixedOrders=true:=by kernel_rfl
 replace hn:Γ.n=65:=hn
 refine sO hP hn hm [(0,.k 0)] [(2,.ptr 0 0 0)] [0,2] [(0,some (.box 53 [iV .i64 0,.none0]))] [0] ?_
 refine sO hP hn hm [(0,.k 1)] [(3,.ptr 1 0 0)] [0,2,3] [(1,some (.box 53 [iV .i64 0,.none0]))] [0,1] ?_
 refine AWp.seq ?_
 refine sR hP hn hm [(1,.any (iV .i64 (a0.length:Int)))] [(7,.im (.row (a0.map Z0))),(8,iV .i64 (a0.length:Int)),(9,iV .i64 0)] [0,2,3,7,8,9] [] [0,1] [((a0.map Z0).length:Int)=(a0.length:Int)] ⟨by rw[Zi],trivial⟩ ?_
 refine AWp.block ?_
 obtain⟨o1512,e1513,H⟩:=Z3 H
 refine AWp.loop (LWp.conv (inv:=[(0,4),(1,5)]) (vk:=[]) (e0:=[6]) (t:=⟨[(0,.im (.row (a0.map Z0))),(2,.ptr 4 0 0),(3,.ptr 5 0 0),(7,.im (.row (a0.map Z0))),(8,iV .i64 (a0.length:Int)),(9,iV .i64 0)],[(4,some (.box 53 [iV .i64 0,.none0])),(5,some (.box 53 [iV .i64 0,.own 6])),(6,some (.row 2 99 ([].map Z02)))],0⟩) (by kernel_rfl) ?_)
 refine LWp.mono (Q:=fun e s=>(match (generalizing:=false) o1512 with | (x1510,x1511)=>e = .exit 0∧s=⟨[(2,.ptr 17 0 0),(3,.ptr 18 0 0)],[(17,some (.box 53 [iV .i64 0,.none0])),(18,some (.box 53 [iV .i64 x1510,.own 19])),(19,some (.row 2 99 (x1511.map Z02)))],0⟩)) (LWp.cv (Zn (fun body hbody => ?_))) ?_
 ·refine       Z1t.l0.partial_correctness a0 (motive:=fun x1481 x1482 x1483 o1512=>LWp Γ body (fun e s=>∃ t,Cv Γ s t∧(match (generalizing:=false) o1512 with | (x1510,x1511)=>e = .exit 0∧t=⟨[(2,.ptr 17 0 0),(3,.ptr 18 0 0)],[(17,some (.box 53 [iV .i64 0,.none0])),(18,some (.box 53 [iV .i64 x1510,.own 19])),(19,some (.row 2 99 (x1511.map Z02  )))],0⟩)) ⟨[(0,.im (.row (a0.map Z0     ))),(2,.ptr 4 0 0),(3,.ptr 5 0 0),(7,.im (.row (a0.map Z0     ))),(8,iV .i64 (a0.length:Int)),(9,iV .i64 x1483)],[(4,some (.box 53 [iV .i64 0,.none0])),(5,some (.box 53 [iV .i64 x1481,.own 6])),(6,some (.row 2 99 (x1482.map Z02  )))],0⟩) ?_ _ _ _ _ e1513
  clear H e1513 o1512;intro self ih x1481 x1482 x1483 o1512 H
  subst hbody
  refine LWp.round ?_
  refine sO hP hn hm [] [(10,bV (decide (x1483<(a0.length:Int))))] [0,2,3,7,8,9,10] [] [4,5,6] ?_
  refine AWp.seq ?_
  refine AWp.cond (decide (x1483<(a0.length:Int))) (by kernel_rfl) (fun c1484 => ?_) (fun c1484 => ?_)
  ·replace H:=iT c1484 H
   refine AWp.skip ?_
   refine AWp.seq ?_
   refine AWp.block ?_
   obtain⟨b1488,p1489,q1490,H⟩:=Z03 H
   refine sR hP hn hm [(1,.c (Z0 b1488)),(3,.k 7)] [(4,iV .i64 x1483),(5,.ptr 7 0 0)] [0,2,3,4,5,7,8,9] [(7,some (.box 87 (Z2b b1488)))] [4,5,6,7] [_,_] ⟨p1489,Zf Z0 q1490,trivial⟩ ?_
   refine sR hP hn hm [(2,.any (iV .i64 (x1482.length:Int)))] [(6,iV .i64 (x1482.length:Int))] [0,2,3,4,5,6,7,8,9] [] [4,5,6,7] [((x1482.map Z02).length:Int)=(x1482.length:Int)] ⟨by rw[Zi],trivial⟩ ?_
   refine AWp.block ?_
   refine sO hP hn hm [] [(33,bV (x1483==(0:Int)))] [0,2,3,4,5,6,7,8,9,33] [] [4,5,6,7] ?_
   obtain⟨o1514,e1515,H⟩:=Z3 H
   refine AWp.mono (Q:=fun e s=>(match (generalizing:=false) o1514 with | (x1508,x1509)=>e = .normal∧s=⟨[(0,.im (.row (a0.map Z0))),(2,.ptr 14 0 0),(3,.ptr 15 0 0),(7,.im (.row (a0.map Z0))),(8,iV .i64 (a0.length:Int)),(9,iV .i64 x1483)],[(14,some (.box 53 [iV .i64 0,.none0])),(15,some (.box 53 [iV .i64 x1508,.own 16])),(16,some (.row 2 99 (x1509.map Z02)))],0⟩)) (AWp.cv ?_) ?_
   ·replace H:=e1515;clear e1515
    refine AWp.cond (x1483==(0:Int)) (by kernel_rfl) (fun c1491 => ?_) (fun c1491 => ?_)
    ·replace H:=iT c1491 H
     refine sO hP hn hm [] [] [0,2,3,7,8,9] [(5,some (.box 53 [iV .i64 b1488.f0,.own 6]))] [4,5,6] ?_
     refine rG hP hn hm [(1,.app 8 ([(⟨0,1⟩:Z24)].map Z02))] [] [0,2,3,7,8,9] [(5,some (.box 53 [iV .i64 b1488.f0,.own 8])),(8,some (.row 2 99 ([(⟨0,1⟩:Z24)].map Z02)))] [4,5,8] [[(⟨0,1⟩:Z24)].map Z02=[[iI .i64 0,iI .i64 1]]] ⟨by exact rfl,trivial⟩ ?_
     obtain rfl:=sj H
     exact lf [(4,14),(5,15),(8,16)] [] [] (by kernel_rfl) ⟨rfl,rfl⟩
    ·replace H:=iF c1491 H
     obtain⟨b1495,p1496,q1497,H⟩:=Z03 H
     refine sR hP hn hm [(3,.c (Z0 b1495))] [(42,bV ((i64.wrap (b1495.f0+(1:Int)))==b1488.f0))] [0,2,3,4,5,6,7,8,9,42] [] [4,5,6,7] [_,_] ⟨p1496,Zf Z0 q1497,trivial⟩ ?_
     obtain⟨o1516,e1517,H⟩:=Z3 H
     refine AWp.mono (Q:=fun e s=>(match (generalizing:=false) o1516 with | x1507=>e = .normal∧s=⟨[(0,.im (.row (a0.map Z0))),(2,.ptr 11 0 0),(3,.ptr 12 0 0),(7,.im (.row (a0.map Z0))),(8,iV .i64 (a0.length:Int)),(9,iV .i64 x1483)],[(11,some (.box 53 [iV .i64 0,.none0])),(12,some (.box 53 [iV .i64 x1481,.own 13])),(13,some (.row 2 99 (x1507.map Z02)))],0⟩)) (AWp.cv ?_) ?_
     ·replace H:=e1517;clear e1517
      refine AWp.cond ((i64.wrap (b1495.f0+(1:Int)))==b1488.f0) (by kernel_rfl) (fun c1498 => ?_) (fun c1498 => ?_)
      ·replace H:=iT c1498 H
       obtain⟨b1502,p1503,q1504,H⟩:=Z03 H
       refine rG hP hn hm [(6,.c (Z02 b1502)),(10,.put (Z02 b1502) ((x1482.set (Int.toNat (i64.wrap ((x1482.length:Int)-(1:Int)))) (⟨b1502.f0,i64.wrap (b1502.f1+(1:Int))⟩:Z24)).map Z02))] [] [0,2,3,7,8,9] [(6,some (.row 2 99 ((x1482.set (Int.toNat (i64.wrap ((x1482.length:Int)-(1:Int)))) (⟨b1502.f0,i64.wrap (b1502.f1+(1:Int))⟩:Z24)).map Z02)))] [4,5,6] [_,_,_,_,_,_,(x1482.set (Int.toNat (i64.wrap ((x1482.length:Int)-(1:Int)))) (⟨b1502.f0,i64.wrap (b1502.f1+(1:Int))⟩:Z24)).map Z02=(x1482.map Z02).set (Int.toNat (i64.wrap ((x1482.length:Int)-(1:Int)))) (Z1w (Z02 b1502) 1 [iI .i64 (i64.wrap (b1502.f1+(1:Int)))])] ⟨p1503,Z1u Z02 p1503 q1504,Zf Z02 q1504,p1503,Z1u Z02 p1503 q1504,Zf Z02 q1504,by exact set1 _ _ _ _,trivial⟩ ?_
       obtain rfl:=sj H
       exact lf [(4,11),(5,12),(6,13)] [] [] (by kernel_rfl) ⟨rfl,rfl⟩
      ·replace H:=iF c1498 H
       obtain⟨c1506,H⟩:=Z0q H
       refine rG hP hn hm [(7,.c (Z0 b1495)),(13,.app 9 ([(⟨i64.wrap ((i64.wrap (b1488.f0-b1495.f0))-(1:Int)),1⟩:Z24)].map Z02)),(14,.app 10 ((x1482++[(⟨i64.wrap ((i64.wrap (b1488.f0-b1495.f0))-(1:Int)),1⟩:Z24)]).map Z02))] [] [0,2,3,7,8,9] [(5,some (.box 53 [iV .i64 x1481,.own 10])),(10,some (.row 2 99 ((x1482++[(⟨i64.wrap ((i64.wrap (b1488.f0-b1495.f0))-(1:Int)),1⟩:Z24)]).map Z02)))] [4,5,10] [_,_,[(⟨i64.wrap ((i64.wrap (b1488.f0-b1495.f0))-(1:Int)),1⟩:Z24)].map Z02=[[iI .i64 (i64.wrap ((i64.wrap (b1488.f0-b1495.f0))-(1:Int))),iI .i64 1]],(x1482++[(⟨i64.wrap ((i64.wrap (b1488.f0-b1495.f0))-(1:Int)),1⟩:Z24)]).map Z02=(x1482.map Z02)++([(⟨i64.wrap ((i64.wrap (b1488.f0-b1495.f0))-(1:Int)),1⟩:Z24)].map Z02),∀ c∈([(⟨i64.wrap ((i64.wrap (b1488.f0-b1495.f0))-(1:Int)),1⟩:Z24)].map Z02),c.length=2,∀ c∈([(⟨i64.wrap ((i64.wrap (b1488.f0-b1495.f0))-(1:Int)),1⟩:Z24)].map Z02),Z0m (c.map .im)=true,((x1482.map Z02).length+([(⟨i64.wrap ((i64.wrap (b1488.f0-b1495.f0))-(1:Int)),1⟩:Z24)].map Z02).length)*16≤140737488355328] ⟨p1496,Zf Z0 q1497,by exact rfl,by simp,by exact Z0k _ _ _ (fun _=>rfl),by exact Z0j _ _ (fun _=>rfl),by simpa using c1506,trivial⟩ ?_
       obtain rfl:=sj H
       exact lf [(4,11),(5,12),(10,13)] [] [] (by kernel_rfl) ⟨rfl,rfl⟩
     ·obtain⟨x1507,rfl⟩:∃ z,z=o1516:=⟨_,rfl⟩
      rintro e s ⟨rfl,rfl⟩
      obtain rfl:=sj H
      exact lf [(11,14),(12,15),(13,16)] [] [] (by kernel_rfl) ⟨rfl,rfl⟩
   ·obtain⟨x1508,x1509⟩:=o1514
    rintro e s ⟨rfl,rfl⟩
    refine rO hP hn hm [] [(9,iV .i64 (i64.wrap (x1483+(1:Int))))] [0,2,3,7,8,9] [] [14,15,16] ?_
    exact LWp.conv [(14,4),(15,5),(16,6)] [] [] (by kernel_rfl) (ih _ _ _ _ H)
  ·replace H:=iF c1484 H
   refine AWp.exit ?_
   obtain rfl:=sj H
   exact lf [(4,17),(5,18),(6,19)] [] [] (by kernel_rfl) ⟨rfl,rfl⟩
 ·obtain⟨x1510,x1511⟩:=o1512
  rintro e s ⟨rfl,rfl⟩
  refine sO hP hn hm [] [] [2] [(17,some (.box 53 [iV .i64 x1510,.own 19]))] [17,19] ?_
  refine AWp.conv (inv:=[(17,1),(19,0)]) (vk:=[]) (e0:=[]) (t:=⟨[(2,.ptr 1 0 0)],[(0,some (.row 2 99 ((((⟨x1510,x1511⟩:Zc)).f1).map Z02))),(1,some (.box 53 [iV .i64 (((⟨x1510,x1511⟩:Zc)).f0),.own 0]))],0⟩) (by kernel_rfl) ?_
  refine AWp.ret ?_
  obtain rfl:=sj H
  exact rl (.inl rfl) rfl (by kernel_rfl) (by kernel_rfl)
def Zk.l1 (a0:Zc) (b1545:Z24) (x1540:Int) (x1551:List Int) (x1552:Int) (x1553:Int):Option ((List Int)×Int):=if(decide (x1553<b1545.f1))=true then((chk ((x1551.length+[x1552].length)*8≤140737488355328))>>=fun _=>Zk.l1 a0 b1545 x1540 (x1551++[x1552]) (i64.wrap (x1552+(1:Int))) (i64.wrap (x1553+(1:Int)))) else(some (x1551,x1552))
partial_fixpoint
def Zk.l0 (a0:Zc) (x1538:List Int) (x1539:Int) (x1540:Int):Option (List Int):=if(decide (x1540<(a0.f1.length:Int)))=true then((at? a0.f1 x1540)>>=fun b1545=>(Zk.l1 a0 b1545 x1540 x1538 (i64.wrap (x1539+b1545.f0)) 0)>>=fun oo=>match oo with | (x1557,x1558)=>(Zk.l0 a0 x1557 x1558 (i64.wrap (x1540+(1:Int))))) else(some x1538)
partial_fixpoint
def Zk.f (a0:Zc):Option (List Int):=(Zk.l0 a0 [] a0.f0 0)>>=fun x1559=>some x1559
theorem Zk.ok (a0:Zc) (r:List Int) (H:Zk.f a0=some r):Pv.Fn Tryz.prog 53 [.agg (Zb a0)] [] 0 (fun x o=>x = .own 0∧o=[(0,some (.row 1 3 (r.map (Z1 .i64))))]):=by
 unfold Zk.f at H
 refine Fn.bodyK [0] Tryz.func53 rfl rfl (fun Γ hP hn => ?_)
 have hm:Tryz.prog.follows .mixedOrders=true:=by kernel_rfl
 replace hn:Γ.n=33:=hn
 refine sO hP hn hm [(0,.k 0)] [(1,.ptr 0 0 0)] [1] [(0,some (.box 53 (Zb a0)))] [0] ?_
 refine sO hP hn hm [] [(3,.none0)] [1,3] [] [0] ?_
 refine sO hP hn hm [] [(4,iV .i64 a0.f0)] [1,3,4] [] [0] ?_
 refine AWp.seq ?_
 refine sR hP hn hm [(2,.any (iV .i64 (a0.f1.length:Int)))] [(10,.im (.row (a0.f1.map Z02))),(11,iV .i64 (a0.f1.length:Int)),(12,iV .i64 0)] [3,4,10,11,12] [] [] [((a0.f1.map Z02).length:Int)=(a0.f1.length:Int)] ⟨by rw[Zi],trivial⟩ ?_
 refine AWp.block ?_
 obtain⟨o1560,e1561,H⟩:=Z3 H
 refine AWp.loop (LWp.conv (inv:=[]) (vk:=[]) (e0:=[8]) (t:=⟨[(3,.own 8),(4,iV .i64 a0.f0),(10,.im (.row (a0.f1.map Z02))),(11,iV .i64 (a0.f1.length:Int)),(12,iV .i64 0)],[(8,some (.row 1 3 ([].map (Z1 .i64))))],0⟩) (by kernel_rfl) ?_)
 refine LWp.mono (Q:=fun e s=>(match (generalizing:=false) o1560 with | x1559=>e = .exit 0∧s=⟨[(3,.own 16)],[(16,some (.row 1 3 (x1559.map (Z1 .i64))))],0⟩)) (LWp.cv (Zn (fun body hbody => ?_))) ?_
 ·refine             Zk.l0.partial_correctness a0 (motive:=fun x1538 x1539 x1540 o1560=>LWp Γ body (fun e s=>∃ t,Cv Γ s t∧(match (generalizing:=false) o1560 with | x1559=>e = .exit 0∧t=⟨[(3,.own 16)],[(16,some (.row 1 3 (x1559.map (Z1     .i64))))],0⟩)) ⟨[(3,.own 8),(4,iV .i64 x1539),(10,.im (.row (a0.f1.map Z02  ))),(11,iV .i64 (a0.f1.length:Int)),(12,iV .i64 x1540)],[(8,some (.row 1 3 (x1538.map (Z1     .i64))))],0⟩) ?_ _ _ _ _ e1561
  clear H e1561 o1560;intro self ih x1538 x1539 x1540 o1560 H
  subst hbody
  refine LWp.round ?_
  refine sO hP hn hm [] [(13,bV (decide (x1540<(a0.f1.length:Int))))] [3,4,10,11,12,13] [] [8] ?_
  refine AWp.seq ?_
  refine AWp.cond (decide (x1540<(a0.f1.length:Int))) (by kernel_rfl) (fun c1541 => ?_) (fun c1541 => ?_)
  ·replace H:=iT c1541 H
   refine AWp.skip ?_
   refine AWp.seq ?_
   refine AWp.block ?_
   obtain⟨b1545,p1546,q1547,H⟩:=Z03 H
   refine sR hP hn hm [(0,.c (Z02 b1545)),(2,.k 9)] [(6,.ptr 9 0 0)] [3,4,6,10,11,12] [(9,some (.box 99 (aSpan b1545)))] [8,9] [_,_] ⟨p1546,Zf Z02 q1547,trivial⟩ ?_
   refine sO hP hn hm [] [(4,iV .i64 (i64.wrap (x1539+b1545.f0)))] [3,4,6,10,11,12] [] [8,9] ?_
   refine sO hP hn hm [] [(21,iV .i64 b1545.f1),(22,iV .i64 0)] [3,4,10,11,12,21,22] [] [8] ?_
   refine AWp.block ?_
   obtain⟨o1562,e1563,H⟩:=Z3 H
   refine AWp.loop (LWp.conv (inv:=[(8,12)]) (vk:=[]) (e0:=[]) (t:=⟨[(3,.own 12),(4,iV .i64 (i64.wrap (x1539+b1545.f0))),(10,.im (.row (a0.f1.map Z02))),(11,iV .i64 (a0.f1.length:Int)),(12,iV .i64 x1540),(21,iV .i64 b1545.f1),(22,iV .i64 0)],[(12,some (.row 1 3 (x1538.map (Z1 .i64))))],0⟩) (by kernel_rfl) ?_)
   refine LWp.mono (Q:=fun e s=>(match (generalizing:=false) o1562 with | (x1557,x1558)=>e = .exit 2∧s=⟨[(3,.own 15),(4,iV .i64 x1558),(10,.im (.row (a0.f1.map Z02))),(11,iV .i64 (a0.f1.length:Int)),(12,iV .i64 x1540)],[(15,some (.row 1 3 (x1557.map (Z1 .i64))))],0⟩)) (LWp.cv (Zn (fun body hbody => ?_))) ?_
   ·refine             Zk.l1.partial_correctness a0 b1545 x1540 (motive:=fun x1551 x1552 x1553 o1562=>LWp Γ body (fun e s=>∃ t,Cv Γ s t∧(match (generalizing:=false) o1562 with | (x1557,x1558)=>e = .exit 2∧t=⟨[(3,.own 15),(4,iV .i64 x1558),(10,.im (.row (a0.f1.map Z02  ))),(11,iV .i64 (a0.f1.length:Int)),(12,iV .i64 x1540)],[(15,some (.row 1 3 (x1557.map (Z1     .i64))))],0⟩)) ⟨[(3,.own 12),(4,iV .i64 x1552),(10,.im (.row (a0.f1.map Z02  ))),(11,iV .i64 (a0.f1.length:Int)),(12,iV .i64 x1540),(21,iV .i64 b1545.f1),(22,iV .i64 x1553)],[(12,some (.row 1 3 (x1551.map (Z1     .i64))))],0⟩) ?_ _ _ _ _ e1563
    clear H e1563 o1562;intro self ih x1551 x1552 x1553 o1562 H
    subst hbody
    refine LWp.round ?_
    refine sO hP hn hm [] [(23,bV (decide (x1553<b1545.f1)))] [3,4,10,11,12,21,22,23] [] [12] ?_
    refine AWp.seq ?_
    refine AWp.cond (decide (x1553<b1545.f1)) (by kernel_rfl) (fun c1554 => ?_) (fun c1554 => ?_)
    ·replace H:=iT c1554 H
     refine AWp.skip ?_
     refine AWp.seq ?_
     refine AWp.block ?_
     obtain⟨c1556,H⟩:=Z0q H
     refine sR hP hn hm [(2,.app 13 ([x1552].map (Z1 .i64))),(3,.app 14 ((x1551++[x1552]).map (Z1 .i64)))] [(3,.own 14)] [3,4,10,11,12,21,22] [(14,some (.row 1 3 ((x1551++[x1552]).map (Z1 .i64))))] [14] [[x1552].map (Z1 .i64)=[[iI .i64 x1552]],(x1551++[x1552]).map (Z1 .i64)=(x1551.map (Z1 .i64))++([x1552].map (Z1 .i64)),∀ c∈([x1552].map (Z1 .i64)),c.length=1,∀ c∈([x1552].map (Z1 .i64)),Z0m (c.map .im)=true,((x1551.map (Z1 .i64)).length+([x1552].map (Z1 .i64)).length)*8≤140737488355328] ⟨by exact rfl,by simp,by exact Z0k _ _ _ (fun _=>rfl),by exact Z0j _ _ (fun _=>rfl),by simpa using c1556,trivial⟩ ?_
     refine rO hP hn hm [] [(4,iV .i64 (i64.wrap (x1552+(1:Int))))] [3,4,10,11,12,21,22] [] [14] ?_
     refine rO hP hn hm [] [(22,iV .i64 (i64.wrap (x1553+(1:Int))))] [3,4,10,11,12,21,22] [] [14] ?_
     exact LWp.conv [(14,12)] [] [] (by kernel_rfl) (ih _ _ _ _ H)
    ·replace H:=iF c1554 H
     refine AWp.exit ?_
     obtain rfl:=sj H
     exact lf [(12,15)] [] [] (by kernel_rfl) ⟨rfl,rfl⟩
   ·obtain⟨x1557,x1558⟩:=o1562
    rintro e s ⟨rfl,rfl⟩
    refine rO hP hn hm [] [(12,iV .i64 (i64.wrap (x1540+(1:Int))))] [3,4,10,11,12] [] [15] ?_
    exact LWp.conv [(15,8)] [] [] (by kernel_rfl) (ih _ _ _ _ H)
  ·replace H:=iF c1541 H
   refine AWp.exit ?_
   obtain rfl:=sj H
   exact lf [(8,16)] [] [] (by kernel_rfl) ⟨rfl,rfl⟩
 ·obtain⟨x1559,rfl⟩:∃ z,z=o1560:=⟨_,rfl⟩
  rintro e s ⟨rfl,rfl⟩
  refine sO hP hn hm [] [(2,.own 16)] [2] [] [16] ?_
  refine AWp.conv (inv:=[(16,0)]) (vk:=[]) (e0:=[]) (t:=⟨[(2,.own 0)],[(0,some (.row 1 3 (x1559.map (Z1 .i64))))],0⟩) (by kernel_rfl) ?_
  refine AWp.ret ?_
  obtain rfl:=sj H
  exact rl (.inl rfl) rfl (by kernel_rfl) (by kernel_rfl)
def Z18.l0 (x1649:List Int) (x1650:List Int) (x1651:List Z2):Option (List Z2):=if(decide ((i64.wrap ((x1649.length:Int)+(x1650.length:Int)))>(0:Int)))=true then(((if((x1650.length:Int)==(0:Int))=true then(some true) else(if(decide ((x1649.length:Int)>(0:Int)))=true then((at? x1649 0)>>=fun b1663=>(at? x1650 0)>>=fun b1666=>some (decide (b1663<b1666))) else(some false))):Option (Bool))>>=fun x1669=>((if x1669=true then((at? x1649 0)>>=fun b1675=>(chk ((x1651.length+[(⟨b1675,0⟩:Z2)].length)*16≤140737488355328))>>=fun _=>(chk (0≤(1:Int)∧(1:Int)≤(x1649.length:Int)∧(x1649.length:Int)≤(x1649.length:Int)))>>=fun _=>some ((x1649.drop (Int.toNat ((1:Int)))).take ((Int.toNat ((x1649.length:Int)))-(Int.toNat ((1:Int)))),x1650,x1651++[(⟨b1675,0⟩:Z2)])) else(((if((x1649.length:Int)==(0:Int))=true then(some true) else((at? x1650 0)>>=fun b1689=>(at? x1649 0)>>=fun b1692=>some (decide (b1689<b1692)))):Option (Bool))>>=fun x1695=>((if x1695=true then((at? x1650 0)>>=fun b1701=>(chk ((x1651.length+[(⟨b1701,0⟩:Z2)].length)*16≤140737488355328))>>=fun _=>(chk (0≤(1:Int)∧(1:Int)≤(x1650.length:Int)∧(x1650.length:Int)≤(x1650.length:Int)))>>=fun _=>some (x1649,x1651++[(⟨b1701,0⟩:Z2)])) else((at? x1649 0)>>=fun b1711=>(chk ((x1651.length+[(⟨b1711,0⟩:Z2)].length)*16≤140737488355328))>>=fun _=>(chk (0≤(1:Int)∧(1:Int)≤(x1649.length:Int)∧(x1649.length:Int)≤(x1649.length:Int)))>>=fun _=>(chk (0≤(1:Int)∧(1:Int)≤(x1650.length:Int)∧(x1650.length:Int)≤(x1650.length:Int)))>>=fun _=>some ((x1649.drop (Int.toNat ((1:Int)))).take ((Int.toNat ((x1649.length:Int)))-(Int.toNat ((1:Int)))),x1651++[(⟨b1711,0⟩:Z2)]))):Option ((List Int)×(List Z2)))>>=fun oo=>match oo with | (x1719,x1720)=>(some (x1719,(x1650.drop (Int.toNat ((1:Int)))).take ((Int.toNat ((x1650.length:Int)))-(Int.toNat ((1:Int)))),x1720)))):Option ((List Int)×(List Int)×(List Z2)))>>=fun oo=>match oo with | (x1721,x1722,x1723)=>(Z18.l0  x1721 x1722 x1723)) else(some x1651)
partial_fixpoint
def Z18.f (a0:Zc) (a1:Zc):Option (Zc):=(Zk.f a0)>>=fun t1568=>(Zk.f a1)>>=fun t1570=>(Z18.l0  t1568 t1570 [])>>=fun x1724=>(Z1t.f x1724)>>=fun t1727=>some (t1727)
theorem Z18.ok (a0:Zc) (a1:Zc) (r:Zc) (H:Z18.f a0 a1=some r):Pv.Fn Tryz.prog 54 [.agg (Zb a0),.agg (Zb a1)] [] 0 (fun x o=>x = .agg [iV .i64 ((r).f0),.own 0]∧o=[(0,some (.row 2 99 (((r).f1).map Z02)))]):=by
 unfold Z18.f at H
 refine Fn.bodyK [0] Tryz.func54 rfl rfl (fun Γ hP hn => ?_)
 have hm:Tryz.prog.follows .mixedOrders=true:=by kernel_rfl
 replace hn:Γ.n=80:=hn
 refine sO hP hn hm [(0,.k 0),(1,.k 1),(2,.k 2)] [(2,.ptr 0 0 0),(3,.ptr 1 0 0),(4,.ptr 2 0 0)] [2,3,4] [(0,some (.box 53 (Zb a0))),(1,some (.box 53 (Zb a1))),(2,some (.box 53 [iV .i64 0,.none0]))] [0,1,2] ?_
 obtain⟨t1568,e1569,H⟩:=Z3 H
 obtain⟨t1570,e1571,H⟩:=Z3 H
 refine sR hP hn hm [(1,.call [] [(0,3)] [] [3] 0 (.own 0) [(0,some (.row 1 3 (t1568.map (Z1 .i64))))]),(3,.call [] [(0,4)] [] [4] 0 (.own 0) [(0,some (.row 1 3 (t1570.map (Z1 .i64))))])] [(5,.own 3),(6,.own 4)] [4,5,6] [(3,some (.row 1 3 (t1568.map (Z1 .i64)))),(4,some (.row 1 3 (t1570.map (Z1 .i64))))] [2,3,4] [_,_,_,_] ⟨Tryz.call53,Zk.ok a0 t1568 e1569,Tryz.call53,Zk.ok a1 t1570 e1571,trivial⟩ ?_
 refine sO hP hn hm [] [(7,.none0)] [4,5,6,7] [] [2,3,4] ?_
 refine AWp.seq ?_
 refine AWp.block ?_
 obtain⟨o1729,e1730,H⟩:=Z3 H
 refine AWp.loop (LWp.conv (inv:=[(2,21)]) (vk:=[3,4]) (e0:=[22]) (t:=⟨[(4,.ptr 21 0 0),(5,.im (.row (t1568.map (Z1 .i64)))),(6,.im (.row (t1570.map (Z1 .i64)))),(7,.own 22)],[(21,some (.box 53 [iV .i64 0,.none0])),(22,some (.row 2 87 ([].map Z0)))],0⟩) (by kernel_rfl) ?_)
 refine LWp.mono (Q:=fun e s=>(match (generalizing:=false) o1729 with | x1724=>e = .exit 0∧s=⟨[(4,.ptr 37 0 0),(7,.own 38)],[(37,some (.box 53 [iV .i64 0,.none0])),(38,some (.row 2 87 (x1724.map Z0)))],0⟩)) (LWp.cv (Zn (fun body hbody => ?_))) ?_
 ·refine         Z18.l0.partial_correctness  (motive:=fun x1649 x1650 x1651 o1729=>LWp Γ body (fun e s=>∃ t,Cv Γ s t∧(match (generalizing:=false) o1729 with | x1724=>e = .exit 0∧t=⟨[(4,.ptr 37 0 0),(7,.own 38)],[(37,some (.box 53 [iV .i64 0,.none0])),(38,some (.row 2 87 (x1724.map Z0     )))],0⟩)) ⟨[(4,.ptr 21 0 0),(5,.im (.row (x1649.map (Z1     .i64)))),(6,.im (.row (x1650.map (Z1     .i64)))),(7,.own 22)],[(21,some (.box 53 [iV .i64 0,.none0])),(22,some (.row 2 87 (x1651.map Z0     )))],0⟩) ?_ _ _ _ _ e1730
  clear H e1730 o1729;intro self ih x1649 x1650 x1651 o1729 H
  subst hbody
  refine LWp.round ?_
  refine AWp.seq ?_
  refine sR hP hn hm [(1,.any (iV .i64 (x1649.length:Int))),(3,.any (iV .i64 (x1650.length:Int)))] [(17,bV (decide ((i64.wrap ((x1649.length:Int)+(x1650.length:Int)))>(0:Int))))] [4,5,6,7,17] [] [21,22] [((x1649.map (Z1 .i64)).length:Int)=(x1649.length:Int),((x1650.map (Z1 .i64)).length:Int)=(x1650.length:Int)] ⟨by rw[Zi],by rw[Zi],trivial⟩ ?_
  refine AWp.cond (decide ((i64.wrap ((x1649.length:Int)+(x1650.length:Int)))>(0:Int))) (by kernel_rfl) (fun c1652 => ?_) (fun c1652 => ?_)
  ·replace H:=iT c1652 H
   refine AWp.skip ?_
   refine AWp.block ?_
   refine AWp.block ?_
   refine AWp.seq ?_
   obtain⟨o1731,e1732,H⟩:=Z3 H
   refine AWp.mono (Q:=fun e s=>(match (generalizing:=false) o1731 with | x1669=>e = .normal∧s=⟨[(4,.ptr 23 0 0),(5,.im (.row (x1649.map (Z1 .i64)))),(6,.im (.row (x1650.map (Z1 .i64)))),(7,.own 24),(29,bV x1669)],[(23,some (.box 53 [iV .i64 0,.none0])),(24,some (.row 2 87 (x1651.map Z0)))],0⟩)) (AWp.cv ?_) ?_
   ·replace H:=e1732;clear e1732
    rcases Bool.eq_false_or_eq_true ((x1650.length:Int)==(0:Int)) with c1661 | c1661
    ·replace H:=iT c1661 H
     refine rG hP hn hm [(1,.any (iV .i64 (x1650.length:Int))),(3,.b true)] [(29,bV true)] [4,5,6,7,29] [] [21,22] [((x1650.map (Z1 .i64)).length:Int)=(x1650.length:Int),_] ⟨by rw[Zi],c1661,trivial⟩ ?_
     obtain rfl:=sj H
     exact lf [(21,23),(22,24)] [] [] (by kernel_rfl) ⟨rfl,rfl⟩
    ·replace H:=iF c1661 H
     rcases Bool.eq_false_or_eq_true (decide ((x1649.length:Int)>(0:Int))) with c1662 | c1662
     ·replace H:=iT c1662 H
      obtain⟨b1663,p1664,q1665,H⟩:=Z03 H
      obtain⟨b1666,p1667,q1668,H⟩:=Z03 H
      refine rG hP hn hm [(1,.any (iV .i64 (x1650.length:Int))),(3,.b false),(5,.any (iV .i64 (x1649.length:Int))),(7,.b true),(9,.c ((Z1 .i64) b1663)),(12,.c ((Z1 .i64) b1666))] [(29,bV (decide (b1663<b1666))),(34,.im (.row (x1649.map (Z1 .i64)))),(35,iV .i64 (x1649.length:Int)),(36,bV (decide ((x1649.length:Int)>(0:Int)))),(37,bV true),(38,.im (.row (x1649.map (Z1 .i64)))),(39,.ip [iI .i64 b1663]),(40,iV .i64 b1663),(41,.im (.row (x1650.map (Z1 .i64)))),(42,.ip [iI .i64 b1666]),(43,iV .i64 b1666),(44,bV (decide (b1663<b1666))),(45,bV (decide (b1663<b1666)))] [4,5,6,7,29,34,35,36,37,38,39,40,41,42,43,44,45] [] [21,22] [((x1650.map (Z1 .i64)).length:Int)=(x1650.length:Int),_,((x1649.map (Z1 .i64)).length:Int)=(x1649.length:Int),_,_,_,_,_] ⟨by rw[Zi],c1661,by rw[Zi],c1662,p1664,Zf (Z1 .i64) q1665,p1667,Zf (Z1 .i64) q1668,trivial⟩ ?_
      obtain rfl:=sj H
      exact lf [(21,23),(22,24)] [] [] (by kernel_rfl) ⟨rfl,rfl⟩
     ·replace H:=iF c1662 H
      refine rG hP hn hm [(1,.any (iV .i64 (x1650.length:Int))),(3,.b false),(5,.any (iV .i64 (x1649.length:Int))),(7,.b false)] [(29,bV false),(34,.im (.row (x1649.map (Z1 .i64)))),(35,iV .i64 (x1649.length:Int)),(36,bV (decide ((x1649.length:Int)>(0:Int)))),(37,bV false),(45,bV false)] [4,5,6,7,29,34,35,36,37,45] [] [21,22] [((x1650.map (Z1 .i64)).length:Int)=(x1650.length:Int),_,((x1649.map (Z1 .i64)).length:Int)=(x1649.length:Int),_] ⟨by rw[Zi],c1661,by rw[Zi],c1662,trivial⟩ ?_
      obtain rfl:=sj H
      exact lf [(21,23),(22,24)] [] [] (by kernel_rfl) ⟨rfl,rfl⟩
   ·obtain⟨x1669,rfl⟩:∃ z,z=o1731:=⟨_,rfl⟩
    rintro e s ⟨rfl,rfl⟩
    obtain⟨o1733,e1734,H⟩:=Z3 H
    refine AWp.mono (Q:=fun e s=>(match (generalizing:=false) o1733 with | (x1721,x1722,x1723)=>e = .normal∧s=⟨[(4,.ptr 35 0 0),(5,.im (.row (x1721.map (Z1 .i64)))),(6,.im (.row (x1722.map (Z1 .i64)))),(7,.own 36)],[(35,some (.box 53 [iV .i64 0,.none0])),(36,some (.row 2 87 (x1723.map Z0)))],0⟩)) (AWp.cv ?_) ?_
    ·replace H:=e1734;clear e1734
     refine AWp.cond x1669 (by kernel_rfl) (fun c1670 => ?_) (fun c1670 => ?_)
     ·replace H:=iT c1670 H
      obtain⟨b1675,p1676,q1677,H⟩:=Z03 H
      obtain⟨c1678,H⟩:=Z0q H
      refine sR hP hn hm [(2,.c ((Z1 .i64) b1675)),(5,.app 25 ([(⟨b1675,0⟩:Z2)].map Z0)),(6,.app 26 ((x1651++[(⟨b1675,0⟩:Z2)]).map Z0))] [(7,.own 26)] [4,5,6,7] [(26,some (.row 2 87 ((x1651++[(⟨b1675,0⟩:Z2)]).map Z0)))] [23,26] [_,_,[(⟨b1675,0⟩:Z2)].map Z0=[[iI .i64 b1675,iI .u64 0]],(x1651++[(⟨b1675,0⟩:Z2)]).map Z0=(x1651.map Z0)++([(⟨b1675,0⟩:Z2)].map Z0),∀ c∈([(⟨b1675,0⟩:Z2)].map Z0),c.length=2,∀ c∈([(⟨b1675,0⟩:Z2)].map Z0),Z0m (c.map .im)=true,((x1651.map Z0).length+([(⟨b1675,0⟩:Z2)].map Z0).length)*16≤140737488355328] ⟨p1676,Zf (Z1 .i64) q1677,by exact rfl,by simp,by exact Z0k _ _ _ (fun _=>rfl),by exact Z0j _ _ (fun _=>rfl),by simpa using c1678,trivial⟩ ?_
      obtain⟨c1680,H⟩:=Z0q H
      refine rG hP hn hm [(1,.rows (((x1649.drop (Int.toNat ((1:Int)))).take ((Int.toNat ((x1649.length:Int)))-(Int.toNat ((1:Int))))).map (Z1 .i64)))] [(5,.im (.row (((x1649.drop (Int.toNat ((1:Int)))).take ((Int.toNat ((x1649.length:Int)))-(Int.toNat ((1:Int))))).map (Z1 .i64))))] [4,5,6,7] [] [23,26] [0≤(1:Int),(1:Int)≤((x1649.map (Z1 .i64)).length:Int),((x1649.map (Z1 .i64)).length:Int)≤((x1649.map (Z1 .i64)).length:Int),∀ c∈x1649.map (Z1 .i64),c.length=1,((x1649.drop (Int.toNat ((1:Int)))).take ((Int.toNat ((x1649.length:Int)))-(Int.toNat ((1:Int))))).map (Z1 .i64)=((x1649.map (Z1 .i64)).drop (Int.toNat ((1:Int)))).take ((Int.toNat (((x1649.map (Z1 .i64)).length:Int)))-(Int.toNat ((1:Int))))] ⟨by exact c1680.1,by simpa using c1680.2.1,by simpa using c1680.2.2,by exact Z0k _ _ _ (fun _=>rfl),by simp[cut1],trivial⟩ ?_
      obtain rfl:=sj H
      exact lf [(23,35),(26,36)] [] [] (by kernel_rfl) ⟨rfl,rfl⟩
     ·replace H:=iF c1670 H
      refine AWp.seq ?_
      obtain⟨o1735,e1736,H⟩:=Z3 H
      refine AWp.mono (Q:=fun e s=>(match (generalizing:=false) o1735 with | x1695=>e = .normal∧s=⟨[(4,.ptr 27 0 0),(5,.im (.row (x1649.map (Z1 .i64)))),(6,.im (.row (x1650.map (Z1 .i64)))),(7,.own 28),(56,bV x1695)],[(27,some (.box 53 [iV .i64 0,.none0])),(28,some (.row 2 87 (x1651.map Z0)))],0⟩)) (AWp.cv ?_) ?_
      ·replace H:=e1736;clear e1736
       rcases Bool.eq_false_or_eq_true ((x1649.length:Int)==(0:Int)) with c1688 | c1688
       ·replace H:=iT c1688 H
        refine rG hP hn hm [(1,.any (iV .i64 (x1649.length:Int))),(3,.b true)] [(56,bV true)] [4,5,6,7,56] [] [23,24] [((x1649.map (Z1 .i64)).length:Int)=(x1649.length:Int),_] ⟨by rw[Zi],c1688,trivial⟩ ?_
        obtain rfl:=sj H
        exact lf [(23,27),(24,28)] [] [] (by kernel_rfl) ⟨rfl,rfl⟩
       ·replace H:=iF c1688 H
        obtain⟨b1689,p1690,q1691,H⟩:=Z03 H
        obtain⟨b1692,p1693,q1694,H⟩:=Z03 H
        refine rG hP hn hm [(1,.any (iV .i64 (x1649.length:Int))),(3,.b false),(5,.c ((Z1 .i64) b1689)),(8,.c ((Z1 .i64) b1692))] [(56,bV (decide (b1689<b1692))),(61,.im (.row (x1650.map (Z1 .i64)))),(62,.ip [iI .i64 b1689]),(63,iV .i64 b1689),(64,.im (.row (x1649.map (Z1 .i64)))),(65,.ip [iI .i64 b1692]),(66,iV .i64 b1692),(67,bV (decide (b1689<b1692)))] [4,5,6,7,56,61,62,63,64,65,66,67] [] [23,24] [((x1649.map (Z1 .i64)).length:Int)=(x1649.length:Int),_,_,_,_,_] ⟨by rw[Zi],c1688,p1690,Zf (Z1 .i64) q1691,p1693,Zf (Z1 .i64) q1694,trivial⟩ ?_
        obtain rfl:=sj H
        exact lf [(23,27),(24,28)] [] [] (by kernel_rfl) ⟨rfl,rfl⟩
      ·obtain⟨x1695,rfl⟩:∃ z,z=o1735:=⟨_,rfl⟩
       rintro e s ⟨rfl,rfl⟩
       obtain⟨o1737,e1738,H⟩:=Z3 H
       refine AWp.mono (Q:=fun e s=>(match (generalizing:=false) o1737 with | (x1719,x1720)=>e = .normal∧s=⟨[(4,.ptr 33 0 0),(5,.im (.row (x1719.map (Z1 .i64)))),(6,.im (.row (((x1650.drop (Int.toNat ((1:Int)))).take ((Int.toNat ((x1650.length:Int)))-(Int.toNat ((1:Int))))).map (Z1 .i64)))),(7,.own 34)],[(33,some (.box 53 [iV .i64 0,.none0])),(34,some (.row 2 87 (x1720.map Z0)))],0⟩)) (AWp.cv ?_) ?_
       ·replace H:=e1738;clear e1738
        refine AWp.cond x1695 (by kernel_rfl) (fun c1696 => ?_) (fun c1696 => ?_)
        ·replace H:=iT c1696 H
         obtain⟨b1701,p1702,q1703,H⟩:=Z03 H
         obtain⟨c1704,H⟩:=Z0q H
         refine sR hP hn hm [(2,.c ((Z1 .i64) b1701)),(5,.app 29 ([(⟨b1701,0⟩:Z2)].map Z0)),(6,.app 30 ((x1651++[(⟨b1701,0⟩:Z2)]).map Z0))] [(7,.own 30)] [4,5,6,7] [(30,some (.row 2 87 ((x1651++[(⟨b1701,0⟩:Z2)]).map Z0)))] [27,30] [_,_,[(⟨b1701,0⟩:Z2)].map Z0=[[iI .i64 b1701,iI .u64 0]],(x1651++[(⟨b1701,0⟩:Z2)]).map Z0=(x1651.map Z0)++([(⟨b1701,0⟩:Z2)].map Z0),∀ c∈([(⟨b1701,0⟩:Z2)].map Z0),c.length=2,∀ c∈([(⟨b1701,0⟩:Z2)].map Z0),Z0m (c.map .im)=true,((x1651.map Z0).length+([(⟨b1701,0⟩:Z2)].map Z0).length)*16≤140737488355328] ⟨p1702,Zf (Z1 .i64) q1703,by exact rfl,by simp,by exact Z0k _ _ _ (fun _=>rfl),by exact Z0j _ _ (fun _=>rfl),by simpa using c1704,trivial⟩ ?_
         obtain⟨c1706,H⟩:=Z0q H
         refine rG hP hn hm [(1,.rows (((x1650.drop (Int.toNat ((1:Int)))).take ((Int.toNat ((x1650.length:Int)))-(Int.toNat ((1:Int))))).map (Z1 .i64)))] [(6,.im (.row (((x1650.drop (Int.toNat ((1:Int)))).take ((Int.toNat ((x1650.length:Int)))-(Int.toNat ((1:Int))))).map (Z1 .i64))))] [4,5,6,7] [] [27,30] [0≤(1:Int),(1:Int)≤((x1650.map (Z1 .i64)).length:Int),((x1650.map (Z1 .i64)).length:Int)≤((x1650.map (Z1 .i64)).length:Int),∀ c∈x1650.map (Z1 .i64),c.length=1,((x1650.drop (Int.toNat ((1:Int)))).take ((Int.toNat ((x1650.length:Int)))-(Int.toNat ((1:Int))))).map (Z1 .i64)=((x1650.map (Z1 .i64)).drop (Int.toNat ((1:Int)))).take ((Int.toNat (((x1650.map (Z1 .i64)).length:Int)))-(Int.toNat ((1:Int))))] ⟨by exact c1706.1,by simpa using c1706.2.1,by simpa using c1706.2.2,by exact Z0k _ _ _ (fun _=>rfl),by simp[cut1],trivial⟩ ?_
         obtain rfl:=sj H
         exact lf [(27,33),(30,34)] [] [] (by kernel_rfl) ⟨rfl,rfl⟩
        ·replace H:=iF c1696 H
         obtain⟨b1711,p1712,q1713,H⟩:=Z03 H
         obtain⟨c1714,H⟩:=Z0q H
         refine sR hP hn hm [(2,.c ((Z1 .i64) b1711)),(5,.app 31 ([(⟨b1711,0⟩:Z2)].map Z0)),(6,.app 32 ((x1651++[(⟨b1711,0⟩:Z2)]).map Z0))] [(7,.own 32)] [4,5,6,7] [(32,some (.row 2 87 ((x1651++[(⟨b1711,0⟩:Z2)]).map Z0)))] [27,32] [_,_,[(⟨b1711,0⟩:Z2)].map Z0=[[iI .i64 b1711,iI .u64 0]],(x1651++[(⟨b1711,0⟩:Z2)]).map Z0=(x1651.map Z0)++([(⟨b1711,0⟩:Z2)].map Z0),∀ c∈([(⟨b1711,0⟩:Z2)].map Z0),c.length=2,∀ c∈([(⟨b1711,0⟩:Z2)].map Z0),Z0m (c.map .im)=true,((x1651.map Z0).length+([(⟨b1711,0⟩:Z2)].map Z0).length)*16≤140737488355328] ⟨p1712,Zf (Z1 .i64) q1713,by exact rfl,by simp,by exact Z0k _ _ _ (fun _=>rfl),by exact Z0j _ _ (fun _=>rfl),by simpa using c1714,trivial⟩ ?_
         obtain⟨c1717,H⟩:=Z0q H
         obtain⟨c1718,H⟩:=Z0q H
         refine rG hP hn hm [(1,.rows (((x1649.drop (Int.toNat ((1:Int)))).take ((Int.toNat ((x1649.length:Int)))-(Int.toNat ((1:Int))))).map (Z1 .i64))),(3,.rows (((x1650.drop (Int.toNat ((1:Int)))).take ((Int.toNat ((x1650.length:Int)))-(Int.toNat ((1:Int))))).map (Z1 .i64)))] [(5,.im (.row (((x1649.drop (Int.toNat ((1:Int)))).take ((Int.toNat ((x1649.length:Int)))-(Int.toNat ((1:Int))))).map (Z1 .i64)))),(6,.im (.row (((x1650.drop (Int.toNat ((1:Int)))).take ((Int.toNat ((x1650.length:Int)))-(Int.toNat ((1:Int))))).map (Z1 .i64))))] [4,5,6,7] [] [27,32] [0≤(1:Int),(1:Int)≤((x1649.map (Z1 .i64)).length:Int),((x1649.map (Z1 .i64)).length:Int)≤((x1649.map (Z1 .i64)).length:Int),∀ c∈x1649.map (Z1 .i64),c.length=1,((x1649.drop (Int.toNat ((1:Int)))).take ((Int.toNat ((x1649.length:Int)))-(Int.toNat ((1:Int))))).map (Z1 .i64)=((x1649.map (Z1 .i64)).drop (Int.toNat ((1:Int)))).take ((Int.toNat (((x1649.map (Z1 .i64)).length:Int)))-(Int.toNat ((1:Int)))),0≤(1:Int),(1:Int)≤((x1650.map (Z1 .i64)).length:Int),((x1650.map (Z1 .i64)).length:Int)≤((x1650.map (Z1 .i64)).length:Int),∀ c∈x1650.map (Z1 .i64),c.length=1,((x1650.drop (Int.toNat ((1:Int)))).take ((Int.toNat ((x1650.length:Int)))-(Int.toNat ((1:Int))))).map (Z1 .i64)=((x1650.map (Z1 .i64)).drop (Int.toNat ((1:Int)))).take ((Int.toNat (((x1650.map (Z1 .i64)).length:Int)))-(Int.toNat ((1:Int))))] ⟨by exact c1717.1,by simpa using c1717.2.1,by simpa using c1717.2.2,by exact Z0k _ _ _ (fun _=>rfl),by simp[cut1],by exact c1718.1,by simpa using c1718.2.1,by simpa using c1718.2.2,by exact Z0k _ _ _ (fun _=>rfl),by simp[cut1],trivial⟩ ?_
         obtain rfl:=sj H
         exact lf [(27,33),(32,34)] [] [] (by kernel_rfl) ⟨rfl,rfl⟩
       ·obtain⟨x1719,x1720⟩:=o1737
        rintro e s ⟨rfl,rfl⟩
        obtain rfl:=sj H
        exact lf [(33,35),(34,36)] [] [] (by kernel_rfl) ⟨rfl,rfl⟩
    ·obtain⟨x1721,x1722,x1723⟩:=o1733
     rintro e s ⟨rfl,rfl⟩
     exact LWp.conv [(35,21),(36,22)] [] [] (by kernel_rfl) (ih _ _ _ _ H)
  ·replace H:=iF c1652 H
   refine AWp.exit ?_
   obtain rfl:=sj H
   exact lf [(21,37),(22,38)] [] [] (by kernel_rfl) ⟨rfl,rfl⟩
 ·obtain⟨x1724,rfl⟩:∃ z,z=o1729:=⟨_,rfl⟩
  rintro e s ⟨rfl,rfl⟩
  obtain⟨t1727,e1728,H⟩:=Z3 H
  refine sR hP hn hm [(1,.more (Z3q [] [(0,39)] [38] [39] 0 (.agg [iV .i64 ((t1727).f0),.own 0]) [(0,some (.row 2 99 (((t1727).f1).map Z02)))]))] [] [4] [(37,some (.box 53 [iV .i64 ((t1727).f0),.own 39])),(39,some (.row 2 99 (((t1727).f1).map Z02)))] [37,39] [_,_,∀ c∈((t1727).f1).map Z02,∀ x∈c,∃ v,x=Im.sc v] ⟨Tryz.call55,Z1t.ok x1724 t1727 e1728,by exact Z3s _ _ (fun _=>by simp),trivial⟩ ?_
  refine AWp.conv (inv:=[(37,1),(39,0)]) (vk:=[]) (e0:=[]) (t:=⟨[(4,.ptr 1 0 0)],[(0,some (.row 2 99 ((((t1727)).f1).map Z02))),(1,some (.box 53 [iV .i64 (((t1727)).f0),.own 0]))],0⟩) (by kernel_rfl) ?_
  refine AWp.ret ?_
  obtain rfl:=sj H
  exact rl (.inl rfl) rfl (by kernel_rfl) (by kernel_rfl)
def Z0d.l0 (a0:List Za) (x1753:Int) (x1754:List Z24) (x1755:Int) (x1756:List Z24) (x1757:Int):Option (Int×(List Z24)×Int×(List Z24)):=if(decide (x1757<(a0.length:Int)))=true then((at? a0 x1757)>>=fun b1762=>(Z1t.f b1762.f1.f6)>>=fun t1769=>(Z18.f (⟨x1753,x1754⟩:Zc) (t1769))>>=fun t1771=>(Z1t.f b1762.f1.f7)>>=fun t1777=>(Z18.f (⟨x1755,x1756⟩:Zc) (t1777))>>=fun t1779=>Z0d.l0 a0 ((t1771).f0) ((t1771).f1) ((t1779).f0) ((t1779).f1) (i64.wrap (x1757+(1:Int)))) else(some (x1753,x1754,x1755,x1756))
partial_fixpoint
def Z0d.f (a0:List Za):Option (Zc×Zc):=(Z0d.l0 a0 0 [] 0 [] 0)>>=fun oo=>match oo with | (x1781,x1782,x1783,x1784)=>(some ((⟨x1781,x1782⟩:Zc),(⟨x1783,x1784⟩:Zc)))
theorem Z0d.ok (a0:List Za) (r:Zc×Zc) (H:Z0d.f a0=some r):Pv.Fn Tryz.prog 19 [.im (.row (a0.map Z4))] [] 0 (fun x o=>x = .tup [.agg [iV .i64 ((r.1).f0),.own 0],.agg [iV .i64 ((r.2).f0),.own 1]]∧o=[(0,some (.row 2 99 (((r.1).f1).map Z02))),(1,some (.row 2 99 (((r.2).f1).map Z02)))]):=by
 unfold Z0d.f at H
 refine Fn.bodyK [0,1] Tryz.func19 rfl rfl (fun Γ hP hn => ?_)
 have hm:Tryz.prog.follows .mixedOrders=true:=by kernel_rfl
 replace hn:Γ.n=27:=hn
 refine sO hP hn hm [(0,.k 0),(1,.k 1)] [(2,.ptr 0 0 0),(3,.ptr 1 0 0)] [0,2,3] [(0,some (.box 53 [iV .i64 0,.none0])),(1,some (.box 53 [iV .i64 0,.none0]))] [0,1] ?_
 refine AWp.seq ?_
 refine sR hP hn hm [(1,.any (iV .i64 (a0.length:Int)))] [(6,.im (.row (a0.map Z4))),(7,iV .i64 (a0.length:Int)),(8,iV .i64 0)] [2,3,6,7,8] [] [0,1] [((a0.map Z4).length:Int)=(a0.length:Int)] ⟨by rw[Zi],trivial⟩ ?_
 refine AWp.block ?_
 obtain⟨o1785,e1786,H⟩:=Z3 H
 refine AWp.loop (LWp.conv (inv:=[(0,7),(1,9)]) (vk:=[]) (e0:=[8,10]) (t:=⟨[(2,.ptr 7 0 0),(3,.ptr 9 0 0),(6,.im (.row (a0.map Z4))),(7,iV .i64 (a0.length:Int)),(8,iV .i64 0)],[(7,some (.box 53 [iV .i64 0,.own 8])),(8,some (.row 2 99 ([].map Z02))),(9,some (.box 53 [iV .i64 0,.own 10])),(10,some (.row 2 99 ([].map Z02)))],0⟩) (by kernel_rfl) ?_)
 refine LWp.mono (Q:=fun e s=>(match (generalizing:=false) o1785 with | (x1781,x1782,x1783,x1784)=>e = .exit 0∧s=⟨[(2,.ptr 16 0 0),(3,.ptr 18 0 0)],[(16,some (.box 53 [iV .i64 x1781,.own 17])),(17,some (.row 2 99 (x1782.map Z02))),(18,some (.box 53 [iV .i64 x1783,.own 19])),(19,some (.row 2 99 (x1784.map Z02)))],0⟩)) (LWp.cv (Zn (fun body hbody => ?_))) ?_
 ·refine             Z0d.l0.partial_correctness a0 (motive:=fun x1753 x1754 x1755 x1756 x1757 o1785=>LWp Γ body (fun e s=>∃ t,Cv Γ s t∧(match (generalizing:=false) o1785 with | (x1781,x1782,x1783,x1784)=>e = .exit 0∧t=⟨[(2,.ptr 16 0 0),(3,.ptr 18 0 0)],[(16,some (.box 53 [iV .i64 x1781,.own 17])),(17,some (.row 2 99 (x1782.map Z02  ))),(18,some (.box 53 [iV .i64 x1783,.own 19])),(19,some (.row 2 99 (x1784.map Z02  )))],0⟩)) ⟨[(2,.ptr 7 0 0),(3,.ptr 9 0 0),(6,.im (.row (a0.map Z4     ))),(7,iV .i64 (a0.length:Int)),(8,iV .i64 x1757)],[(7,some (.box 53 [iV .i64 x1753,.own 8])),(8,some (.row 2 99 (x1754.map Z02  ))),(9,some (.box 53 [iV .i64 x1755,.own 10])),(10,some (.row 2 99 (x1756.map Z02  )))],0⟩) ?_ _ _ _ _ _ _ e1786
  clear H e1786 o1785;intro self ih x1753 x1754 x1755 x1756 x1757 o1785 H
  subst hbody
  refine LWp.round ?_
  refine sO hP hn hm [] [(9,bV (decide (x1757<(a0.length:Int))))] [2,3,6,7,8,9] [] [7,8,9,10] ?_
  refine AWp.seq ?_
  refine AWp.cond (decide (x1757<(a0.length:Int))) (by kernel_rfl) (fun c1758 => ?_) (fun c1758 => ?_)
  ·replace H:=iT c1758 H
   refine AWp.skip ?_
   refine AWp.seq ?_
   refine AWp.block ?_
   obtain⟨b1762,p1763,q1764,H⟩:=Z03 H
   refine sR hP hn hm [(0,.c (Z4 b1762)),(2,.k 11)] [(5,.ptr 11 0 0)] [2,3,5,6,7,8] [(11,some (.box 41 [iV .i64 b1762.f0,iV .i64 b1762.f1.f0,iV .i64 b1762.f1.f1,iV .i64 b1762.f1.f2,iV .u64 b1762.f1.f3,iV .u64 b1762.f1.f4,iV .i64 b1762.f1.f5,.im (.row (b1762.f1.f6.map Z0)),.im (.row (b1762.f1.f7.map Z0))]))] [7,8,9,10,11] [_,_] ⟨p1763,Zf Z4 q1764,trivial⟩ ?_
   obtain⟨t1769,e1770,H⟩:=Z3 H
   obtain⟨t1771,e1772,H⟩:=Z3 H
   refine sR hP hn hm [(4,.call [] [(0,12)] [] [12] 0 (.agg [iV .i64 ((t1769).f0),.own 0]) [(0,some (.row 2 99 (((t1769).f1).map Z02)))]),(5,.more (Z3q [] [(0,13)] [8,12] [13] 0 (.agg [iV .i64 ((t1771).f0),.own 0]) [(0,some (.row 2 99 (((t1771).f1).map Z02)))]))] [] [2,3,5,6,7,8] [(7,some (.box 53 [iV .i64 ((t1771).f0),.own 13])),(13,some (.row 2 99 (((t1771).f1).map Z02)))] [7,9,10,11,13] [_,_,_,_,∀ c∈((t1771).f1).map Z02,∀ x∈c,∃ v,x=Im.sc v] ⟨Tryz.call55,Z1t.ok b1762.f1.f6 t1769 e1770,Tryz.call54,Z18.ok (⟨x1753,x1754⟩:Zc) (t1769) t1771 e1772,by exact Z3s _ _ (fun _=>by simp),trivial⟩ ?_
   obtain⟨t1777,e1778,H⟩:=Z3 H
   obtain⟨t1779,e1780,H⟩:=Z3 H
   refine rG hP hn hm [(4,.call [] [(0,14)] [] [14] 0 (.agg [iV .i64 ((t1777).f0),.own 0]) [(0,some (.row 2 99 (((t1777).f1).map Z02)))]),(5,.more (Z3q [] [(0,15)] [10,14] [15] 0 (.agg [iV .i64 ((t1779).f0),.own 0]) [(0,some (.row 2 99 (((t1779).f1).map Z02)))]))] [] [2,3,6,7,8] [(9,some (.box 53 [iV .i64 ((t1779).f0),.own 15])),(15,some (.row 2 99 (((t1779).f1).map Z02)))] [7,9,13,15] [_,_,_,_,∀ c∈((t1779).f1).map Z02,∀ x∈c,∃ v,x=Im.sc v] ⟨Tryz.call55,Z1t.ok b1762.f1.f7 t1777 e1778,Tryz.call54,Z18.ok (⟨x1755,x1756⟩:Zc) (t1777) t1779 e1780,by exact Z3s _ _ (fun _=>by simp),trivial⟩ ?_
   refine rO hP hn hm [] [(8,iV .i64 (i64.wrap (x1757+(1:Int))))] [2,3,6,7,8] [] [7,9,13,15] ?_
   exact LWp.conv [(7,7),(9,9),(13,8),(15,10)] [] [] (by kernel_rfl) (ih _ _ _ _ _ _ H)
  ·replace H:=iF c1758 H
   refine AWp.exit ?_
   obtain rfl:=sj H
   exact lf [(7,16),(8,17),(9,18),(10,19)] [] [] (by kernel_rfl) ⟨rfl,rfl⟩
 ·obtain⟨x1781,x1782,x1783,x1784⟩:=o1785
  rintro e s ⟨rfl,rfl⟩
  refine sO hP hn hm [] [] [2,3] [] [16,17,18,19] ?_
  refine AWp.conv (inv:=[(16,2),(17,0),(18,3),(19,1)]) (vk:=[]) (e0:=[]) (t:=⟨[(2,.ptr 2 0 0),(3,.ptr 3 0 0)],[(0,some (.row 2 99 ((((⟨x1781,x1782⟩:Zc)).f1).map Z02))),(1,some (.row 2 99 ((((⟨x1783,x1784⟩:Zc)).f1).map Z02))),(2,some (.box 53 [iV .i64 (((⟨x1781,x1782⟩:Zc)).f0),.own 0])),(3,some (.box 53 [iV .i64 (((⟨x1783,x1784⟩:Zc)).f0),.own 1]))],0⟩) (by kernel_rfl) ?_
  refine AWp.ret ?_
  obtain rfl:=sj H
  exact rl (.inl rfl) rfl (by kernel_rfl) (by kernel_rfl)
def Z04.f (a0:List Za) (a1:Za):Option (Bool):=if((a0.length:Int)==(0:Int))=true then(some true) else((at? a0 (i64.wrap ((a0.length:Int)-(1:Int))))>>=fun b303=>((if(decide ((a0.length:Int)≥(32:Int)))=true then(some true) else(if(decide (a1.f0≤b303.f0))=true then(some true) else((Z2v.f b303.f1 a1.f1)>>=fun t319=>some (!t319)))):Option (Bool))>>=fun x321=>if x321=true then(some false) else(((if(a1.f1.f0==(0:Int))=true then((Z2u.f b303.f1 a1.f1)>>=fun t1460=>some t1460) else(some false)):Option (Bool))>>=fun x1462=>if x1462=true then(some false) else((Z0t.f a0)>>=fun t1789=>(chk ((t1789.length+[a1].length)*104≤140737488355328))>>=fun _=>(Z0d.f (t1789++[a1]))>>=fun t1792=>(((Zk.f (t1792.1))>>=fun t1799=>if(decide ((t1799.length:Int)≤(512:Int)))=true then((Zk.f (t1792.2))>>=fun t1802=>some (decide ((t1802.length:Int)≤(512:Int)))) else(some false)):Option (Bool))>>=fun x1804=>some x1804)))
theorem Z04.ok (a0:List Za) (a1:Za) (r:Bool) (H:Z04.f a0 a1=some r):Pv.Fn Tryz.prog 17 [.im (.row (a0.map Z4)),.agg [iV .i64 a1.f0,iV .i64 a1.f1.f0,iV .i64 a1.f1.f1,iV .i64 a1.f1.f2,iV .u64 a1.f1.f3,iV .u64 a1.f1.f4,iV .i64 a1.f1.f5,.im (.row (a1.f1.f6.map Z0)),.im (.row (a1.f1.f7.map Z0))]] [] 0 (fun x o=>x=bV r∧o=[]):=by
 unfold Z04.f at H
 refine Fn.bodyK [] Tryz.func17 rfl rfl (fun Γ hP hn => ?_)
 have hm:Tryz.prog.follows .mixedOrders=true:=by kernel_rfl
 replace hn:Γ.n=65:=hn
 refine sO hP hn hm [(0,.k 0)] [(3,.ptr 0 0 0)] [0,3] [(0,some (.box 41 [iV .i64 a1.f0,iV .i64 a1.f1.f0,iV .i64 a1.f1.f1,iV .i64 a1.f1.f2,iV .u64 a1.f1.f3,iV .u64 a1.f1.f4,iV .i64 a1.f1.f5,.im (.row (a1.f1.f6.map Z0)),.im (.row (a1.f1.f7.map Z0))]))] [0] ?_
 refine AWp.seq ?_
 refine sR hP hn hm [(1,.any (iV .i64 (a0.length:Int)))] [(10,bV ((a0.length:Int)==(0:Int)))] [0,3,10] [] [0] [((a0.map Z4).length:Int)=(a0.length:Int)] ⟨by rw[Zi],trivial⟩ ?_
 refine AWp.cond ((a0.length:Int)==(0:Int)) (by kernel_rfl) (fun c299 => ?_) (fun c299 => ?_)
 ·replace H:=iT c299 H
  refine sO hP hn hm [] [(4,bV true)] [4] [] [] ?_
  refine AWp.conv (inv:=[]) (vk:=[]) (e0:=[]) (t:=⟨[(4,bV true)],[],0⟩) (by kernel_rfl) ?_
  refine AWp.ret ?_
  obtain rfl:=sj H
  exact rl (.inl rfl) rfl (by kernel_rfl) (by kernel_rfl)
 ·replace H:=iF c299 H
  refine AWp.skip ?_
  obtain⟨b303,p304,q305,H⟩:=Z03 H
  refine sR hP hn hm [(2,.any (iV .i64 (a0.length:Int))),(4,.c (Z4 b303)),(6,.k 1)] [(5,.ptr 1 0 0)] [0,3,5] [(1,some (.box 41 [iV .i64 b303.f0,iV .i64 b303.f1.f0,iV .i64 b303.f1.f1,iV .i64 b303.f1.f2,iV .u64 b303.f1.f3,iV .u64 b303.f1.f4,iV .i64 b303.f1.f5,.im (.row (b303.f1.f6.map Z0)),.im (.row (b303.f1.f7.map Z0))]))] [0,1] [((a0.map Z4).length:Int)=(a0.length:Int),_,_] ⟨by rw[Zi],p304,Zf Z4 q305,trivial⟩ ?_
  refine AWp.seq ?_
  refine AWp.seq ?_
  obtain⟨o1805,e1806,H⟩:=Z3 H
  refine AWp.mono (Q:=fun e s=>(match (generalizing:=false) o1805 with | x321=>e = .normal∧s=⟨[(0,.im (.row (a0.map Z4))),(3,.ptr 2 0 0),(5,.ptr 3 0 0),(34,bV x321)],[(2,some (.box 41 [iV .i64 a1.f0,iV .i64 a1.f1.f0,iV .i64 a1.f1.f1,iV .i64 a1.f1.f2,iV .u64 a1.f1.f3,iV .u64 a1.f1.f4,iV .i64 a1.f1.f5,.im (.row (a1.f1.f6.map Z0)),.im (.row (a1.f1.f7.map Z0))])),(3,some (.box 41 [iV .i64 b303.f0,iV .i64 b303.f1.f0,iV .i64 b303.f1.f1,iV .i64 b303.f1.f2,iV .u64 b303.f1.f3,iV .u64 b303.f1.f4,iV .i64 b303.f1.f5,.im (.row (b303.f1.f6.map Z0)),.im (.row (b303.f1.f7.map Z0))]))],0⟩)) (AWp.cv ?_) ?_
  ·replace H:=e1806;clear e1806
   rcases Bool.eq_false_or_eq_true (decide ((a0.length:Int)≥(32:Int))) with c317 | c317
   ·replace H:=iT c317 H
    refine rG hP hn hm [(1,.any (iV .i64 (a0.length:Int))),(3,.b true)] [(34,bV true)] [0,3,5,34] [] [0,1] [((a0.map Z4).length:Int)=(a0.length:Int),_] ⟨by rw[Zi],c317,trivial⟩ ?_
    obtain rfl:=sj H
    exact lf [(0,2),(1,3)] [] [] (by kernel_rfl) ⟨rfl,rfl⟩
   ·replace H:=iF c317 H
    rcases Bool.eq_false_or_eq_true (decide (a1.f0≤b303.f0)) with c318 | c318
    ·replace H:=iT c318 H
     refine rG hP hn hm [(1,.any (iV .i64 (a0.length:Int))),(3,.b false),(10,.b true)] [(34,bV true)] [0,3,5,34] [] [0,1] [((a0.map Z4).length:Int)=(a0.length:Int),_,_] ⟨by rw[Zi],c317,c318,trivial⟩ ?_
     obtain rfl:=sj H
     exact lf [(0,2),(1,3)] [] [] (by kernel_rfl) ⟨rfl,rfl⟩
    ·replace H:=iF c318 H
     obtain⟨t319,e320,H⟩:=Z3 H
     refine rG hP hn hm [(1,.any (iV .i64 (a0.length:Int))),(3,.b false),(10,.b false),(15,.call [] [] [] [] 0 (bV t319) [])] [(34,bV (!t319))] [0,3,5,34] [] [0,1] [((a0.map Z4).length:Int)=(a0.length:Int),_,_,_,_] ⟨by rw[Zi],c317,c318,Tryz.call50,Z2v.ok b303.f1 a1.f1 t319 e320,trivial⟩ ?_
     obtain rfl:=sj H
     exact lf [(0,2),(1,3)] [] [] (by kernel_rfl) ⟨rfl,rfl⟩
  ·obtain⟨x321,rfl⟩:∃ z,z=o1805:=⟨_,rfl⟩
   rintro e s ⟨rfl,rfl⟩
   refine AWp.cond x321 (by kernel_rfl) (fun c322 => ?_) (fun c322 => ?_)
   ·replace H:=iT c322 H
    refine sO hP hn hm [] [(4,bV false)] [4] [] [] ?_
    refine AWp.conv (inv:=[]) (vk:=[]) (e0:=[]) (t:=⟨[(4,bV false)],[],0⟩) (by kernel_rfl) ?_
    refine AWp.ret ?_
    obtain rfl:=sj H
    exact rl (.inl rfl) rfl (by kernel_rfl) (by kernel_rfl)
   ·replace H:=iF c322 H
    refine AWp.skip ?_
    refine AWp.seq ?_
    refine AWp.seq ?_
    obtain⟨o1807,e1808,H⟩:=Z3 H
    refine AWp.mono (Q:=fun e s=>(match (generalizing:=false) o1807 with | x1462=>e = .normal∧s=⟨[(0,.im (.row (a0.map Z4))),(3,.ptr 4 0 0),(45,bV x1462)],[(4,some (.box 41 [iV .i64 a1.f0,iV .i64 a1.f1.f0,iV .i64 a1.f1.f1,iV .i64 a1.f1.f2,iV .u64 a1.f1.f3,iV .u64 a1.f1.f4,iV .i64 a1.f1.f5,.im (.row (a1.f1.f6.map Z0)),.im (.row (a1.f1.f7.map Z0))]))],0⟩)) (AWp.cv ?_) ?_
    ·replace H:=e1808;clear e1808
     rcases Bool.eq_false_or_eq_true (a1.f1.f0==(0:Int)) with c1459 | c1459
     ·replace H:=iT c1459 H
      obtain⟨t1460,e1461,H⟩:=Z3 H
      refine rG hP hn hm [(4,.b true),(9,.call [] [] [] [] 0 (bV t1460) [])] [(45,bV t1460)] [0,3,45] [] [2] [_,_,_] ⟨c1459,Tryz.call51,Z2u.ok b303.f1 a1.f1 t1460 e1461,trivial⟩ ?_
      obtain rfl:=sj H
      exact lf [(2,4)] [] [] (by kernel_rfl) ⟨rfl,rfl⟩
     ·replace H:=iF c1459 H
      refine rG hP hn hm [(4,.b false)] [(45,bV false)] [0,3,45] [] [2] [_] ⟨c1459,trivial⟩ ?_
      obtain rfl:=sj H
      exact lf [(2,4)] [] [] (by kernel_rfl) ⟨rfl,rfl⟩
    ·obtain⟨x1462,rfl⟩:∃ z,z=o1807:=⟨_,rfl⟩
     rintro e s ⟨rfl,rfl⟩
     refine AWp.cond x1462 (by kernel_rfl) (fun c1463 => ?_) (fun c1463 => ?_)
     ·replace H:=iT c1463 H
      refine sO hP hn hm [] [(4,bV false)] [4] [] [] ?_
      refine AWp.conv (inv:=[]) (vk:=[]) (e0:=[]) (t:=⟨[(4,bV false)],[],0⟩) (by kernel_rfl) ?_
      refine AWp.ret ?_
      obtain rfl:=sj H
      exact rl (.inl rfl) rfl (by kernel_rfl) (by kernel_rfl)
     ·replace H:=iF c1463 H
      refine AWp.skip ?_
      obtain⟨t1789,e1790,H⟩:=Z3 H
      obtain⟨c1791,H⟩:=Z0q H
      obtain⟨t1792,e1793,H⟩:=Z3 H
      refine sR hP hn hm [(1,.call [] [(0,5)] [] [5] 0 (.own 0) [(0,some (.row 9 41 (t1789.map Z4)))]),(3,.app 6 ([a1].map Z4)),(4,.app 7 ((t1789++[a1]).map Z4)),(5,.call [] [(0,8),(1,9)] [7] [8,9] 0 (.tup [.agg [iV .i64 ((t1792.1).f0),.own 0],.agg [iV .i64 ((t1792.2).f0),.own 1]]) [(0,some (.row 2 99 (((t1792.1).f1).map Z02))),(1,some (.row 2 99 (((t1792.2).f1).map Z02)))]),(9,.k 10),(10,.k 11)] [(6,.ptr 10 0 0),(7,.ptr 11 0 0)] [6,7] [(8,some (.row 2 99 (((t1792.1).f1).map Z02))),(9,some (.row 2 99 (((t1792.2).f1).map Z02))),(10,some (.box 53 [iV .i64 ((t1792.1).f0),.own 8])),(11,some (.box 53 [iV .i64 ((t1792.2).f0),.own 9]))] [8,9,10,11] [_,_,[a1].map Z4=[[iI .i64 a1.f0,iI .i64 a1.f1.f0,iI .i64 a1.f1.f1,iI .i64 a1.f1.f2,iI .u64 a1.f1.f3,iI .u64 a1.f1.f4,iI .i64 a1.f1.f5,.row (a1.f1.f6.map Z0),.row (a1.f1.f7.map Z0)]],(t1789++[a1]).map Z4=(t1789.map Z4)++([a1].map Z4),∀ c∈([a1].map Z4),c.length=9,∀ c∈([a1].map Z4),Z0m (c.map .im)=true,((t1789.map Z4).length+([a1].map Z4).length)*104≤140737488355328,_,_] ⟨Tryz.call52,Z0t.ok a0 t1789 e1790,by exact rfl,by simp,by exact Z0k _ _ _ (fun _=>rfl),by exact Z0j _ _ (fun _=>rfl),by simpa using c1791,Tryz.call19,Z0d.ok (t1789++[a1]) t1792 e1793,trivial⟩ ?_
      refine AWp.seq ?_
      obtain⟨o1809,e1810,H⟩:=Z3 H
      refine AWp.mono (Q:=fun e s=>(match (generalizing:=false) o1809 with | x1804=>e = .normal∧s=⟨[(4,bV x1804)],[],0⟩)) (AWp.cv ?_) ?_
      ·replace H:=e1810;clear e1810
       obtain⟨t1799,e1800,H⟩:=Z3 H
       rcases Bool.eq_false_or_eq_true (decide ((t1799.length:Int)≤(512:Int))) with c1801 | c1801
       ·replace H:=iT c1801 H
        obtain⟨t1802,e1803,H⟩:=Z3 H
        refine rG hP hn hm [(1,.more (Z3q [] [(0,12)] [8] [12] 0 (.own 0) [(0,some (.row 1 3 (t1799.map (Z1 .i64))))])),(2,.any (iV .i64 (t1799.length:Int))),(4,.b true),(6,.more (Z3q [] [(0,13)] [9] [13] 0 (.own 0) [(0,some (.row 1 3 (t1802.map (Z1 .i64))))])),(7,.any (iV .i64 (t1802.length:Int)))] [(4,bV (decide ((t1802.length:Int)≤(512:Int))))] [4] [] [] [_,_,∀ c∈t1799.map (Z1 .i64),∀ x∈c,∃ v,x=Im.sc v,((t1799.map (Z1 .i64)).length:Int)=(t1799.length:Int),_,_,_,∀ c∈t1802.map (Z1 .i64),∀ x∈c,∃ v,x=Im.sc v,((t1802.map (Z1 .i64)).length:Int)=(t1802.length:Int)] ⟨Tryz.call53,Zk.ok (t1792.1) t1799 e1800,by exact Z3s _ _ (fun _=>by simp),by rw[Zi],c1801,Tryz.call53,Zk.ok (t1792.2) t1802 e1803,by exact Z3s _ _ (fun _=>by simp),by rw[Zi],trivial⟩ ?_
        obtain rfl:=sj H
        exact lf [] [] [] (by kernel_rfl) ⟨rfl,rfl⟩
       ·replace H:=iF c1801 H
        refine rG hP hn hm [(1,.more (Z3q [] [(0,12)] [8] [12] 0 (.own 0) [(0,some (.row 1 3 (t1799.map (Z1 .i64))))])),(2,.any (iV .i64 (t1799.length:Int))),(4,.b false)] [(4,bV false)] [4] [] [] [_,_,∀ c∈t1799.map (Z1 .i64),∀ x∈c,∃ v,x=Im.sc v,((t1799.map (Z1 .i64)).length:Int)=(t1799.length:Int),_] ⟨Tryz.call53,Zk.ok (t1792.1) t1799 e1800,by exact Z3s _ _ (fun _=>by simp),by rw[Zi],c1801,trivial⟩ ?_
        obtain rfl:=sj H
        exact lf [] [] [] (by kernel_rfl) ⟨rfl,rfl⟩
      ·obtain⟨x1804,rfl⟩:∃ z,z=o1809:=⟨_,rfl⟩
       rintro e s ⟨rfl,rfl⟩
       refine AWp.conv (inv:=[]) (vk:=[]) (e0:=[]) (t:=⟨[(4,bV x1804)],[],0⟩) (by kernel_rfl) ?_
       refine AWp.ret ?_
       obtain rfl:=sj H
       exact rl (.inl rfl) rfl (by kernel_rfl) (by kernel_rfl)
def Z08.l0 (a0:List Za) (x1817:Int):Option (Int ⊕ Unit):=if(decide (x1817<(a0.length:Int)))=true then((at? a0 x1817)>>=fun b1822=>((if(decide (b1822.f0<(0:Int)))=true then(some true) else(some (decide (b1822.f0>(1099511627776:Int))))):Option (Bool))>>=fun x1827=>if x1827=true then(some (.inl 4)) else((Z0l.f b1822.f1)>>=fun t1831=>if(t1831 != (0:Int))=true then(some (.inl t1831)) else((chk (0≤(0:Int)∧(0:Int)≤x1817∧x1817≤(a0.length:Int)))>>=fun _=>(Z04.f ((a0.drop (Int.toNat ((0:Int)))).take ((Int.toNat (x1817))-(Int.toNat ((0:Int))))) b1822)>>=fun t1838=>if(!t1838)=true then(some (.inl 6)) else(Z08.l0 a0 (i64.wrap (x1817+(1:Int))))))) else(some (.inr ()))
partial_fixpoint
def Z08.f (a0:List Za):Option (Int):=if((a0.length:Int)==(0:Int))=true then(some 30) else((Z08.l0 a0 0)>>=fun oo=>match oo with | .inl rr=>(some rr) | .inr _=>(some 0))
theorem Z08.ok (a0:List Za) (r:Int) (H:Z08.f a0=some r):Pv.Fn Tryz.prog 10 [.im (.row (a0.map Z4))] [] 0 (fun x o=>x=iV .i64 r∧o=[]):=by
 unfold Z08.f at H
 refine Fn.bodyK [] Tryz.func10 rfl rfl (fun Γ hP hn => ?_)
 have hm:Tryz.prog.follows .mixedOrders=true:=by kernel_rfl
 replace hn:Γ.n=37:=hn
 refine sO hP hn hm [] [] [0] [] [] ?_
 refine AWp.seq ?_
 refine sR hP hn hm [(1,.any (iV .i64 (a0.length:Int)))] [(8,bV ((a0.length:Int)==(0:Int)))] [0,8] [] [] [((a0.map Z4).length:Int)=(a0.length:Int)] ⟨by rw[Zi],trivial⟩ ?_
 refine AWp.cond ((a0.length:Int)==(0:Int)) (by kernel_rfl) (fun c29 => ?_) (fun c29 => ?_)
 ·replace H:=iT c29 H
  refine sO hP hn hm [] [(2,iV .i64 30)] [2] [] [] ?_
  refine AWp.conv (inv:=[]) (vk:=[]) (e0:=[]) (t:=⟨[(2,iV .i64 30)],[],0⟩) (by kernel_rfl) ?_
  refine AWp.ret ?_
  obtain rfl:=sj H
  exact rl (.inl rfl) rfl (by kernel_rfl) (by kernel_rfl)
 ·replace H:=iF c29 H
  refine AWp.skip ?_
  refine AWp.seq ?_
  refine sR hP hn hm [(1,.any (iV .i64 (a0.length:Int)))] [(9,.im (.row (a0.map Z4))),(10,iV .i64 (a0.length:Int)),(11,iV .i64 0)] [0,9,10,11] [] [] [((a0.map Z4).length:Int)=(a0.length:Int)] ⟨by rw[Zi],trivial⟩ ?_
  refine AWp.block ?_
  obtain⟨o1841,e1842,H⟩:=Z3 H
  refine AWp.loop (LWp.conv (inv:=[]) (vk:=[]) (e0:=[]) (t:=⟨[(0,.im (.row (a0.map Z4))),(9,.im (.row (a0.map Z4))),(10,iV .i64 (a0.length:Int)),(11,iV .i64 0)],[],0⟩) (by kernel_rfl) ?_)
  refine LWp.mono (Q:=fun e s=>(match (generalizing:=false) o1841 with | .inl rr=>e = .ret∧s.floor=0∧Z1x Tryz.prog Tryz.f10 s=some (iV .i64 rr)∧([]:List (Nat×Option MObj))=[] | .inr _=>e = .exit 0∧s=⟨[],[],0⟩)) (LWp.cv (Zn (fun body hbody => ?_))) ?_
  ·refine           Z08.l0.partial_correctness a0 (motive:=fun x1817 o1841=>LWp Γ body (fun e s=>∃ t,Cv Γ s t∧(match (generalizing:=false) o1841 with | .inl rr=>e = .ret∧t.floor=0∧Z1x   Tryz.prog Tryz.f10 t=some (iV .i64 rr)∧([]:List (Nat×Option MObj))=[] | .inr _=>e = .exit 0∧t=⟨[],[],0⟩)) ⟨[(0,.im (.row (a0.map Z4     ))),(9,.im (.row (a0.map Z4     ))),(10,iV .i64 (a0.length:Int)),(11,iV .i64 x1817)],[],0⟩) ?_ _ _ e1842
   clear H e1842 o1841;intro self ih x1817 o1841 H
   subst hbody
   refine LWp.round ?_
   refine sO hP hn hm [] [(12,bV (decide (x1817<(a0.length:Int))))] [0,9,10,11,12] [] [] ?_
   refine AWp.seq ?_
   refine AWp.cond (decide (x1817<(a0.length:Int))) (by kernel_rfl) (fun c1818 => ?_) (fun c1818 => ?_)
   ·replace H:=iT c1818 H
    refine AWp.skip ?_
    refine AWp.seq ?_
    refine AWp.block ?_
    obtain⟨b1822,p1823,q1824,H⟩:=Z03 H
    refine sR hP hn hm [(1,.c (Z4 b1822)),(3,.k 2)] [(3,iV .i64 x1817),(4,.ptr 2 0 0)] [0,3,4,9,10,11] [(2,some (.box 41 [iV .i64 b1822.f0,iV .i64 b1822.f1.f0,iV .i64 b1822.f1.f1,iV .i64 b1822.f1.f2,iV .u64 b1822.f1.f3,iV .u64 b1822.f1.f4,iV .i64 b1822.f1.f5,.im (.row (b1822.f1.f6.map Z0)),.im (.row (b1822.f1.f7.map Z0))]))] [2] [_,_] ⟨p1823,Zf Z4 q1824,trivial⟩ ?_
    refine AWp.seq ?_
    refine AWp.seq ?_
    obtain⟨o1843,e1844,H⟩:=Z3 H
    refine AWp.mono (Q:=fun e s=>(match (generalizing:=false) o1843 with | x1827=>e = .normal∧s=⟨[(0,.im (.row (a0.map Z4))),(3,iV .i64 x1817),(4,.ptr 3 0 0),(9,.im (.row (a0.map Z4))),(10,iV .i64 (a0.length:Int)),(11,iV .i64 x1817),(23,bV x1827)],[(3,some (.box 41 [iV .i64 b1822.f0,iV .i64 b1822.f1.f0,iV .i64 b1822.f1.f1,iV .i64 b1822.f1.f2,iV .u64 b1822.f1.f3,iV .u64 b1822.f1.f4,iV .i64 b1822.f1.f5,.im (.row (b1822.f1.f6.map Z0)),.im (.row (b1822.f1.f7.map Z0))]))],0⟩)) (AWp.cv ?_) ?_
    ·replace H:=e1844;clear e1844
     rcases Bool.eq_false_or_eq_true (decide (b1822.f0<(0:Int))) with c1826 | c1826
     ·replace H:=iT c1826 H
      refine rG hP hn hm [(3,.b true)] [(23,bV true)] [0,3,4,9,10,11,23] [] [2] [_] ⟨c1826,trivial⟩ ?_
      obtain rfl:=sj H
      exact lf [(2,3)] [] [] (by kernel_rfl) ⟨rfl,rfl⟩
     ·replace H:=iF c1826 H
      refine rG hP hn hm [(3,.b false)] [(20,.ptr 2 0 0),(21,iV .i64 b1822.f0),(22,bV (decide (b1822.f0>(1099511627776:Int)))),(23,bV (decide (b1822.f0>(1099511627776:Int))))] [0,3,4,9,10,11,20,21,22,23] [] [2] [_] ⟨c1826,trivial⟩ ?_
      obtain rfl:=sj H
      exact lf [(2,3)] [] [] (by kernel_rfl) ⟨rfl,rfl⟩
    ·obtain⟨x1827,rfl⟩:∃ z,z=o1843:=⟨_,rfl⟩
     rintro e s ⟨rfl,rfl⟩
     refine AWp.cond x1827 (by kernel_rfl) (fun c1828 => ?_) (fun c1828 => ?_)
     ·replace H:=iT c1828 H
      refine sO hP hn hm [] [(2,iV .i64 4)] [2] [] [] ?_
      refine AWp.conv (inv:=[]) (vk:=[]) (e0:=[]) (t:=⟨[(2,iV .i64 4)],[],0⟩) (by kernel_rfl) ?_
      refine AWp.ret ?_
      obtain rfl:=sj H
      exact rl rfl rfl (by kernel_rfl) (by kernel_rfl)
     ·replace H:=iF c1828 H
      refine AWp.skip ?_
      refine AWp.seq ?_
      obtain⟨t1831,e1832,H⟩:=Z3 H
      refine sR hP hn hm [(2,.call [] [] [] [] 0 (iV .i64 t1831) [])] [(5,iV .i64 t1831)] [0,3,4,5,9,10,11] [] [3] [_,_] ⟨Tryz.call27,Z0l.ok b1822.f1 t1831 e1832,trivial⟩ ?_
      refine sO hP hn hm [] [(28,bV (t1831 != (0:Int)))] [0,3,4,5,9,10,11,28] [] [3] ?_
      refine AWp.cond (t1831 != (0:Int)) (by kernel_rfl) (fun c1833 => ?_) (fun c1833 => ?_)
      ·replace H:=iT c1833 H
       refine sO hP hn hm [] [(2,iV .i64 t1831)] [2] [] [] ?_
       refine AWp.conv (inv:=[]) (vk:=[]) (e0:=[]) (t:=⟨[(2,iV .i64 t1831)],[],0⟩) (by kernel_rfl) ?_
       refine AWp.ret ?_
       obtain rfl:=sj H
       exact rl rfl rfl (by kernel_rfl) (by kernel_rfl)
      ·replace H:=iF c1833 H
       refine AWp.skip ?_
       obtain⟨c1837,H⟩:=Z0q H
       obtain⟨t1838,e1839,H⟩:=Z3 H
       refine sR hP hn hm [(2,.rows (((a0.drop (Int.toNat ((0:Int)))).take ((Int.toNat (x1817))-(Int.toNat ((0:Int))))).map Z4)),(4,.call [] [] [] [] 0 (bV t1838) [])] [(35,bV (!t1838))] [0,9,10,11,35] [] [] [0≤(0:Int),(0:Int)≤x1817,x1817≤((a0.map Z4).length:Int),∀ c∈a0.map Z4,c.length=9,((a0.drop (Int.toNat ((0:Int)))).take ((Int.toNat (x1817))-(Int.toNat ((0:Int))))).map Z4=((a0.map Z4).drop (Int.toNat ((0:Int)))).take ((Int.toNat (x1817))-(Int.toNat ((0:Int)))),_,_] ⟨by exact c1837.1,by simpa using c1837.2.1,by simpa using c1837.2.2,by exact Z0k _ _ _ (fun _=>rfl),by simp[cut1],Tryz.call17,Z04.ok ((a0.drop (Int.toNat ((0:Int)))).take ((Int.toNat (x1817))-(Int.toNat ((0:Int))))) b1822 t1838 e1839,trivial⟩ ?_
       refine AWp.cond (!t1838) (by kernel_rfl) (fun c1840 => ?_) (fun c1840 => ?_)
       ·replace H:=iT c1840 H
        refine sO hP hn hm [] [(2,iV .i64 6)] [2] [] [] ?_
        refine AWp.conv (inv:=[]) (vk:=[]) (e0:=[]) (t:=⟨[(2,iV .i64 6)],[],0⟩) (by kernel_rfl) ?_
        refine AWp.ret ?_
        obtain rfl:=sj H
        exact rl rfl rfl (by kernel_rfl) (by kernel_rfl)
       ·replace H:=iF c1840 H
        refine AWp.skip ?_
        refine rO hP hn hm [] [(11,iV .i64 (i64.wrap (x1817+(1:Int))))] [0,9,10,11] [] [] ?_
        exact LWp.conv [] [] [] (by kernel_rfl) (ih _ _ H)
   ·replace H:=iF c1818 H
    refine AWp.exit ?_
    obtain rfl:=sj H
    exact lf [] [] [] (by kernel_rfl) ⟨rfl,rfl⟩
  ·rcases o1841 with rr | _
   ·skip
    rintro e s ⟨rfl,hfl,hres⟩
    obtain rfl:=sj H
    exact Exists.intro _ (And.intro (fun _ _ h=>h) (And.intro (.inl rfl) (And.intro hfl hres)))
   ·skip
    rintro e s ⟨rfl,rfl⟩
    refine sO hP hn hm [] [(2,iV .i64 0)] [2] [] [] ?_
    refine AWp.conv (inv:=[]) (vk:=[]) (e0:=[]) (t:=⟨[(2,iV .i64 0)],[],0⟩) (by kernel_rfl) ?_
    refine AWp.ret ?_
    obtain rfl:=sj H
    exact rl (.inl rfl) rfl (by kernel_rfl) (by kernel_rfl)
def Z2a.f (a0_c1:Int) (a1:Bool):Option ((List Int)×Int):=((if(a0_c1==(0:Int))=true then((chk ((([]:List Int).length+[0].length)*1≤140737488355328))>>=fun _=>some ([0],8)) else(some ([],a0_c1))):Option ((List Int)×Int))>>=fun oo=>match oo with | (x1863,x1864)=>(((if a1=true then((at? x1863 (i64.wrap ((x1863.length:Int)-(1:Int))))>>=fun b1870=>(chk (0≤(u64.wrap (x1864-(1:Int)))))>>=fun _=>some (x1863.set (Int.toNat (i64.wrap ((x1863.length:Int)-(1:Int)))) (u8.wrap (((BitVec.toNat (BitVec.ofInt 8 b1870 ||| BitVec.ofInt 8 (u8.wrap ((1:Int)*2 ^ (min (Int.toNat (u64.wrap (x1864-(1:Int)))) 8)))):Nat):Int))))) else(some x1863)):Option (List Int))>>=fun x1874=>some (x1874,u64.wrap (x1864-(1:Int))))
theorem Z2a.ok (a0_c1:Int) (a1:Bool) (r:(List Int)×Int) (H:Z2a.f a0_c1 a1=some r):Pv.Fn Tryz.prog 20 [.ptr 0 0 0,bV a1] [(0,some (.box 50 [.none0,iV .u64 a0_c1]))] 1 (fun x o=>x = .tup []∧o=[(0,some (.box 50 [.own 1,iV .u64 r.2])),(1,some (.row 1 5 (r.1.map (Z1 .u8))))]):=by
 unfold Z2a.f at H
 refine Fn.bodyK [0,1] Tryz.func20 rfl rfl (fun Γ hP hn => ?_)
 have hm:Tryz.prog.follows .mixedOrders=true:=by kernel_rfl
 replace hn:Γ.n=48:=hn
 refine AWp.seq ?_
 refine sO hP hn hm [] [(8,bV (a0_c1==(0:Int)))] [0,1,8] [] [0] ?_
 obtain⟨o1875,e1876,H⟩:=Z3 H
 refine AWp.mono (Q:=fun e s=>(match (generalizing:=false) o1875 with | (x1863,x1864)=>e = .normal∧s=⟨[(0,.ptr 0 0 0),(1,bV a1)],[(0,some (.box 50 [.own 3,iV .u64 x1864])),(3,some (.row 1 5 (x1863.map (Z1 .u8))))],1⟩)) (AWp.cv ?_) ?_
 ·replace H:=e1876;clear e1876
  refine AWp.cond (a0_c1==(0:Int)) (by kernel_rfl) (fun c1860 => ?_) (fun c1860 => ?_)
  ·replace H:=iT c1860 H
   obtain⟨c1862,H⟩:=Z0q H
   refine sR hP hn hm [(5,.app 1 ([0].map (Z1 .u8))),(6,.app 2 ([0].map (Z1 .u8)))] [] [0,1] [(0,some (.box 50 [.own 2,iV .u64 a0_c1])),(2,some (.row 1 5 ([0].map (Z1 .u8))))] [0,2] [[0].map (Z1 .u8)=[[iI .u8 0]],[0].map (Z1 .u8)=([]:List (List Im))++([0].map (Z1 .u8)),∀ c∈([0].map (Z1 .u8)),c.length=1,∀ c∈([0].map (Z1 .u8)),Z0m (c.map .im)=true,(([]:List (List Im)).length+([0].map (Z1 .u8)).length)*1≤140737488355328] ⟨by exact rfl,by simp,by exact Z0k _ _ _ (fun _=>rfl),by exact Z0j _ _ (fun _=>rfl),by simpa using c1862,trivial⟩ ?_
   refine rO hP hn hm [] [] [0,1] [(0,some (.box 50 [.own 2,iV .u64 8]))] [0,2] ?_
   obtain rfl:=sj H
   exact lf [(0,0),(2,3)] [] [] (by kernel_rfl) ⟨rfl,rfl⟩
  ·replace H:=iF c1860 H
   refine AWp.skip ?_
   obtain rfl:=sj H
   exact lf [(0,0)] [] [3] (by kernel_rfl) ⟨rfl,rfl⟩
 ·obtain⟨x1863,x1864⟩:=o1875
  rintro e s ⟨rfl,rfl⟩
  refine sO hP hn hm [] [] [0,1] [(0,some (.box 50 [.own 3,iV .u64 (u64.wrap (x1864-(1:Int)))]))] [0,3] ?_
  refine sO hP hn hm [] [(28,bV a1)] [0,28] [] [0,3] ?_
  obtain⟨o1877,e1878,H⟩:=Z3 H
  refine AWp.mono (Q:=fun e s=>(match (generalizing:=false) o1877 with | x1874=>e = .normal∧s=⟨[],[(0,some (.box 50 [.own 4,iV .u64 (u64.wrap (x1864-(1:Int)))])),(4,some (.row 1 5 (x1874.map (Z1 .u8))))],1⟩)) (AWp.cv ?_) ?_
  ·replace H:=e1878;clear e1878
   refine AWp.cond a1 (by kernel_rfl) (fun c1865 => ?_) (fun c1865 => ?_)
   ·replace H:=iT c1865 H
    obtain⟨b1870,p1871,q1872,H⟩:=Z03 H
    obtain⟨c1873,H⟩:=Z0q H
    refine rG hP hn hm [(8,.any (iV .i64 (x1863.length:Int))),(11,.c ((Z1 .u8) b1870)),(19,.put ((Z1 .u8) b1870) ((x1863.set (Int.toNat (i64.wrap ((x1863.length:Int)-(1:Int)))) (u8.wrap (((BitVec.toNat (BitVec.ofInt 8 b1870 ||| BitVec.ofInt 8 (u8.wrap ((1:Int)*2 ^ (min (Int.toNat (u64.wrap (x1864-(1:Int)))) 8)))):Nat):Int)))).map (Z1 .u8)))] [] [] [(3,some (.row 1 5 ((x1863.set (Int.toNat (i64.wrap ((x1863.length:Int)-(1:Int)))) (u8.wrap (((BitVec.toNat (BitVec.ofInt 8 b1870 ||| BitVec.ofInt 8 (u8.wrap ((1:Int)*2 ^ (min (Int.toNat (u64.wrap (x1864-(1:Int)))) 8)))):Nat):Int)))).map (Z1 .u8))))] [0,3] [((x1863.map (Z1 .u8)).length:Int)=(x1863.length:Int),_,_,_,_,_,_,_,(x1863.set (Int.toNat (i64.wrap ((x1863.length:Int)-(1:Int)))) (u8.wrap (((BitVec.toNat (BitVec.ofInt 8 b1870 ||| BitVec.ofInt 8 (u8.wrap ((1:Int)*2 ^ (min (Int.toNat (u64.wrap (x1864-(1:Int)))) 8)))):Nat):Int)))).map (Z1 .u8)=(x1863.map (Z1 .u8)).set (Int.toNat (i64.wrap ((x1863.length:Int)-(1:Int)))) (Z1w ((Z1 .u8) b1870) 0 [iI .u8 (u8.wrap (((BitVec.toNat (BitVec.ofInt 8 b1870 ||| BitVec.ofInt 8 (u8.wrap ((1:Int)*2 ^ (min (Int.toNat (u64.wrap (x1864-(1:Int)))) 8)))):Nat):Int)))])] ⟨by rw[Zi],p1871,Z1u (Z1 .u8) p1871 q1872,Zf (Z1 .u8) q1872,c1873,p1871,Z1u (Z1 .u8) p1871 q1872,Zf (Z1 .u8) q1872,by exact set1 _ _ _ _,trivial⟩ ?_
    obtain rfl:=sj H
    exact lf [(0,0),(3,4)] [] [] (by kernel_rfl) ⟨rfl,rfl⟩
   ·replace H:=iF c1865 H
    refine AWp.skip ?_
    obtain rfl:=sj H
    exact lf [(0,0),(3,4)] [] [] (by kernel_rfl) ⟨rfl,rfl⟩
  ·obtain⟨x1874,rfl⟩:∃ z,z=o1877:=⟨_,rfl⟩
   rintro e s ⟨rfl,rfl⟩
   obtain rfl:=sj H
   exact Exists.intro ⟨[],[(0,some (.box 50 [.own 1,iV .u64 (u64.wrap (x1864-(1:Int)))])),(1,some (.row 1 5 (x1874.map (Z1 .u8))))],1⟩ (And.intro (fun _ _ h=>h.conv (inv:=[(0,0),(4,1)]) (vk:=[]) (e0:=[]) (t:=⟨[],[(0,some (.box 50 [.own 1,iV .u64 (u64.wrap (x1864-(1:Int)))])),(1,some (.row 1 5 (x1874.map (Z1 .u8))))],1⟩) (by kernel_rfl)) (And.intro (.inr rfl) (And.intro rfl (And.intro (by kernel_rfl) (by kernel_rfl)))))
def Z0r.f (a0_c0:List Int) (a0_c1:Int) (a1:Bool):Option ((List Int)×Int):=((if(a0_c1==(0:Int))=true then((chk ((a0_c0.length+[0].length)*1≤140737488355328))>>=fun _=>some (a0_c0++[0],8)) else(some (a0_c0,a0_c1))):Option ((List Int)×Int))>>=fun oo=>match oo with | (x1888,x1889)=>(((if a1=true then((at? x1888 (i64.wrap ((x1888.length:Int)-(1:Int))))>>=fun b1895=>(chk (0≤(u64.wrap (x1889-(1:Int)))))>>=fun _=>some (x1888.set (Int.toNat (i64.wrap ((x1888.length:Int)-(1:Int)))) (u8.wrap (((BitVec.toNat (BitVec.ofInt 8 b1895 ||| BitVec.ofInt 8 (u8.wrap ((1:Int)*2 ^ (min (Int.toNat (u64.wrap (x1889-(1:Int)))) 8)))):Nat):Int))))) else(some x1888)):Option (List Int))>>=fun x1899=>some (x1899,u64.wrap (x1889-(1:Int))))
theorem Z0r.ok (a0_c0:List Int) (a0_c1:Int) (a1:Bool) (r:(List Int)×Int) (H:Z0r.f a0_c0 a0_c1 a1=some r):Pv.Fn Tryz.prog 20 [.ptr 0 0 0,bV a1] [(0,some (.box 50 [.own 1,iV .u64 a0_c1])),(1,some (.row 1 5 (a0_c0.map (Z1 .u8))))] 2 (fun x o=>x = .tup []∧o=[(0,some (.box 50 [.own 2,iV .u64 r.2])),(1,none),(2,some (.row 1 5 (r.1.map (Z1 .u8))))]):=by
 unfold Z0r.f at H
 refine Fn.bodyK [0,1,2] Tryz.func20 rfl rfl (fun Γ hP hn => ?_)
 have hm:Tryz.prog.follows .mixedOrders=true:=by kernel_rfl
 replace hn:Γ.n=48:=hn
 refine AWp.seq ?_
 refine sO hP hn hm [] [(8,bV (a0_c1==(0:Int)))] [0,1,8] [] [0,1] ?_
 obtain⟨o1900,e1901,H⟩:=Z3 H
 refine AWp.mono (Q:=fun e s=>(match (generalizing:=false) o1900 with | (x1888,x1889)=>e = .normal∧s=⟨[(0,.ptr 0 0 0),(1,bV a1)],[(0,some (.box 50 [.own 4,iV .u64 x1889])),(4,some (.row 1 5 (x1888.map (Z1 .u8))))],2⟩)) (AWp.cv ?_) ?_
 ·replace H:=e1901;clear e1901
  refine AWp.cond (a0_c1==(0:Int)) (by kernel_rfl) (fun c1885 => ?_) (fun c1885 => ?_)
  ·replace H:=iT c1885 H
   obtain⟨c1887,H⟩:=Z0q H
   refine sR hP hn hm [(5,.app 2 ([0].map (Z1 .u8))),(6,.app 3 ((a0_c0++[0]).map (Z1 .u8)))] [] [0,1] [(0,some (.box 50 [.own 3,iV .u64 a0_c1])),(3,some (.row 1 5 ((a0_c0++[0]).map (Z1 .u8))))] [0,3] [[0].map (Z1 .u8)=[[iI .u8 0]],(a0_c0++[0]).map (Z1 .u8)=(a0_c0.map (Z1 .u8))++([0].map (Z1 .u8)),∀ c∈([0].map (Z1 .u8)),c.length=1,∀ c∈([0].map (Z1 .u8)),Z0m (c.map .im)=true,((a0_c0.map (Z1 .u8)).length+([0].map (Z1 .u8)).length)*1≤140737488355328] ⟨by exact rfl,by simp,by exact Z0k _ _ _ (fun _=>rfl),by exact Z0j _ _ (fun _=>rfl),by simpa using c1887,trivial⟩ ?_
   refine rO hP hn hm [] [] [0,1] [(0,some (.box 50 [.own 3,iV .u64 8]))] [0,3] ?_
   obtain rfl:=sj H
   exact lf [(0,0),(3,4)] [] [] (by kernel_rfl) ⟨rfl,rfl⟩
  ·replace H:=iF c1885 H
   refine AWp.skip ?_
   obtain rfl:=sj H
   exact lf [(0,0),(1,4)] [] [] (by kernel_rfl) ⟨rfl,rfl⟩
 ·obtain⟨x1888,x1889⟩:=o1900
  rintro e s ⟨rfl,rfl⟩
  refine sO hP hn hm [] [] [0,1] [(0,some (.box 50 [.own 4,iV .u64 (u64.wrap (x1889-(1:Int)))]))] [0,4] ?_
  refine sO hP hn hm [] [(28,bV a1)] [0,28] [] [0,4] ?_
  obtain⟨o1902,e1903,H⟩:=Z3 H
  refine AWp.mono (Q:=fun e s=>(match (generalizing:=false) o1902 with | x1899=>e = .normal∧s=⟨[],[(0,some (.box 50 [.own 5,iV .u64 (u64.wrap (x1889-(1:Int)))])),(5,some (.row 1 5 (x1899.map (Z1 .u8))))],2⟩)) (AWp.cv ?_) ?_
  ·replace H:=e1903;clear e1903
   refine AWp.cond a1 (by kernel_rfl) (fun c1890 => ?_) (fun c1890 => ?_)
   ·replace H:=iT c1890 H
    obtain⟨b1895,p1896,q1897,H⟩:=Z03 H
    obtain⟨c1898,H⟩:=Z0q H
    refine rG hP hn hm [(8,.any (iV .i64 (x1888.length:Int))),(11,.c ((Z1 .u8) b1895)),(19,.put ((Z1 .u8) b1895) ((x1888.set (Int.toNat (i64.wrap ((x1888.length:Int)-(1:Int)))) (u8.wrap (((BitVec.toNat (BitVec.ofInt 8 b1895 ||| BitVec.ofInt 8 (u8.wrap ((1:Int)*2 ^ (min (Int.toNat (u64.wrap (x1889-(1:Int)))) 8)))):Nat):Int)))).map (Z1 .u8)))] [] [] [(4,some (.row 1 5 ((x1888.set (Int.toNat (i64.wrap ((x1888.length:Int)-(1:Int)))) (u8.wrap (((BitVec.toNat (BitVec.ofInt 8 b1895 ||| BitVec.ofInt 8 (u8.wrap ((1:Int)*2 ^ (min (Int.toNat (u64.wrap (x1889-(1:Int)))) 8)))):Nat):Int)))).map (Z1 .u8))))] [0,4] [((x1888.map (Z1 .u8)).length:Int)=(x1888.length:Int),_,_,_,_,_,_,_,(x1888.set (Int.toNat (i64.wrap ((x1888.length:Int)-(1:Int)))) (u8.wrap (((BitVec.toNat (BitVec.ofInt 8 b1895 ||| BitVec.ofInt 8 (u8.wrap ((1:Int)*2 ^ (min (Int.toNat (u64.wrap (x1889-(1:Int)))) 8)))):Nat):Int)))).map (Z1 .u8)=(x1888.map (Z1 .u8)).set (Int.toNat (i64.wrap ((x1888.length:Int)-(1:Int)))) (Z1w ((Z1 .u8) b1895) 0 [iI .u8 (u8.wrap (((BitVec.toNat (BitVec.ofInt 8 b1895 ||| BitVec.ofInt 8 (u8.wrap ((1:Int)*2 ^ (min (Int.toNat (u64.wrap (x1889-(1:Int)))) 8)))):Nat):Int)))])] ⟨by rw[Zi],p1896,Z1u (Z1 .u8) p1896 q1897,Zf (Z1 .u8) q1897,c1898,p1896,Z1u (Z1 .u8) p1896 q1897,Zf (Z1 .u8) q1897,by exact set1 _ _ _ _,trivial⟩ ?_
    obtain rfl:=sj H
    exact lf [(0,0),(4,5)] [] [] (by kernel_rfl) ⟨rfl,rfl⟩
   ·replace H:=iF c1890 H
    refine AWp.skip ?_
    obtain rfl:=sj H
    exact lf [(0,0),(4,5)] [] [] (by kernel_rfl) ⟨rfl,rfl⟩
  ·obtain⟨x1899,rfl⟩:∃ z,z=o1902:=⟨_,rfl⟩
   rintro e s ⟨rfl,rfl⟩
   obtain rfl:=sj H
   exact Exists.intro ⟨[],[(0,some (.box 50 [.own 2,iV .u64 (u64.wrap (x1889-(1:Int)))])),(2,some (.row 1 5 (x1899.map (Z1 .u8))))],2⟩ (And.intro (fun _ _ h=>h.conv (inv:=[(0,0),(5,2)]) (vk:=[]) (e0:=[]) (t:=⟨[],[(0,some (.box 50 [.own 2,iV .u64 (u64.wrap (x1889-(1:Int)))])),(2,some (.row 1 5 (x1899.map (Z1 .u8))))],2⟩) (by kernel_rfl)) (And.intro (.inr rfl) (And.intro rfl (And.intro (by kernel_rfl) (by kernel_rfl)))))
def Z0e.l0 (a1:Int) (x1909:List Int) (x1910:Int) (x1911:Int):Option ((List Int)×Int):=if(decide (x1911≥(0:Int)))=true then((chk (0≤(u64.wrap (x1911))))>>=fun _=>(Z0r.f x1909 x1910 ((u64.wrap (((BitVec.toNat (BitVec.ofInt 64 (Int.fdiv a1 (2 ^ (min (Int.toNat (u64.wrap (x1911))) 64))) &&& BitVec.ofInt 64 (1:Int)):Nat):Int)))==(1:Int)))>>=fun t1917=>Z0e.l0 a1 t1917.1 t1917.2 (i64.wrap (x1911-(1:Int)))) else(some (x1909,x1910))
partial_fixpoint
def Z0e.f (a0_c0:List Int) (a0_c1:Int) (a1:Int) (a2:Int):Option ((List Int)×Int):=(Z0e.l0 a1 a0_c0 a0_c1 (i64.wrap ((if(if(64:Int)<a2 then(64:Int) else a2)>(0:Int) then(if(64:Int)<a2 then(64:Int) else a2) else(0:Int))-(1:Int))))>>=fun oo=>match oo with | (x1919,x1920)=>(some (x1919,x1920))
theorem Z0e.ok (a0_c0:List Int) (a0_c1:Int) (a1:Int) (a2:Int) (r:(List Int)×Int) (H:Z0e.f a0_c0 a0_c1 a1 a2=some r):Pv.Fn Tryz.prog 21 [.ptr 0 0 0,iV .u64 a1,iV .i64 a2] [(0,some (.box 50 [.own 1,iV .u64 a0_c1])),(1,some (.row 1 5 (a0_c0.map (Z1 .u8))))] 2 (fun x o=>x = .tup []∧o=[(0,some (.box 50 [.own 2,iV .u64 r.2])),(1,none),(2,some (.row 1 5 (r.1.map (Z1 .u8))))]):=by
 unfold Z0e.f at H
 refine Fn.bodyK [0,1,2] Tryz.func21 rfl rfl (fun Γ hP hn => ?_)
 have hm:Tryz.prog.follows .mixedOrders=true:=by kernel_rfl
 replace hn:Γ.n=23:=hn
 refine sO hP hn hm [(1,.more xMin),(2,.more xMax)] [(6,iV .i64 (i64.wrap ((if(if(64:Int)<a2 then(64:Int) else a2)>(0:Int) then(if(64:Int)<a2 then(64:Int) else a2) else(0:Int))-(1:Int))))] [0,1,6] [] [0,1] ?_
 refine AWp.block ?_
 obtain⟨o1921,e1922,H⟩:=Z3 H
 refine AWp.loop (LWp.conv (inv:=[(0,0),(1,3)]) (vk:=[]) (e0:=[]) (t:=⟨[(0,.ptr 0 0 0),(1,iV .u64 a1),(6,iV .i64 (i64.wrap ((if(if(64:Int)<a2 then(64:Int) else a2)>(0:Int) then(if(64:Int)<a2 then(64:Int) else a2) else(0:Int))-(1:Int))))],[(0,some (.box 50 [.own 3,iV .u64 a0_c1])),(3,some (.row 1 5 (a0_c0.map (Z1 .u8))))],2⟩) (by kernel_rfl) ?_)
 refine LWp.mono (Q:=fun e s=>(match (generalizing:=false) o1921 with | (x1919,x1920)=>e = .exit 0∧s=⟨[],[(0,some (.box 50 [.own 5,iV .u64 x1920])),(5,some (.row 1 5 (x1919.map (Z1 .u8))))],2⟩)) (LWp.cv (Zn (fun body hbody => ?_))) ?_
 ·refine                   Z0e.l0.partial_correctness a1 (motive:=fun x1909 x1910 x1911 o1921=>LWp Γ body (fun e s=>∃ t,Cv Γ s t∧(match (generalizing:=false) o1921 with | (x1919,x1920)=>e = .exit 0∧t=⟨[],[(0,some (.box 50 [.own 5,iV .u64 x1920])),(5,some (.row 1 5 (x1919.map (Z1     .u8))))],2⟩)) ⟨[(0,.ptr 0 0 0),(1,iV .u64 a1),(6,iV .i64 x1911)],[(0,some (.box 50 [.own 3,iV .u64 x1910])),(3,some (.row 1 5 (x1909.map (Z1     .u8))))],2⟩) ?_ _ _ _ _ e1922
  clear H e1922 o1921;intro self ih x1909 x1910 x1911 o1921 H
  subst hbody
  refine LWp.round ?_
  refine AWp.seq ?_
  refine sO hP hn hm [] [(12,bV (decide (x1911≥(0:Int))))] [0,1,6,12] [] [0,3] ?_
  refine AWp.cond (decide (x1911≥(0:Int))) (by kernel_rfl) (fun c1912 => ?_) (fun c1912 => ?_)
  ·replace H:=iT c1912 H
   refine AWp.skip ?_
   refine AWp.seq ?_
   refine AWp.block ?_
   obtain⟨c1916,H⟩:=Z0q H
   obtain⟨t1917,e1918,H⟩:=Z3 H
   refine rG hP hn hm [(7,.call [(0,0),(3,1)] [(0,0),(2,4)] [] [4] 2 (.tup []) [(0,some (.box 50 [.own 2,iV .u64 t1917.2])),(1,none),(2,some (.row 1 5 (t1917.1.map (Z1 .u8))))])] [] [0,1,6] [(0,some (.box 50 [.own 4,iV .u64 t1917.2])),(4,some (.row 1 5 (t1917.1.map (Z1 .u8))))] [0,4] [_,_,_] ⟨c1916,Tryz.call20,Z0r.ok x1909 x1910 ((u64.wrap (((BitVec.toNat (BitVec.ofInt 64 (Int.fdiv a1 (2 ^ (min (Int.toNat (u64.wrap (x1911))) 64))) &&& BitVec.ofInt 64 (1:Int)):Nat):Int)))==(1:Int)) t1917 e1918,trivial⟩ ?_
   refine rO hP hn hm [] [(6,iV .i64 (i64.wrap (x1911-(1:Int))))] [0,1,6] [] [0,4] ?_
   exact LWp.conv [(0,0),(4,3)] [] [] (by kernel_rfl) (ih _ _ _ _ H)
  ·replace H:=iF c1912 H
   refine AWp.exit ?_
   obtain rfl:=sj H
   exact lf [(0,0),(3,5)] [] [] (by kernel_rfl) ⟨rfl,rfl⟩
 ·obtain⟨x1919,x1920⟩:=o1921
  rintro e s ⟨rfl,rfl⟩
  obtain rfl:=sj H
  exact Exists.intro ⟨[],[(0,some (.box 50 [.own 2,iV .u64 x1920])),(2,some (.row 1 5 (x1919.map (Z1 .u8))))],2⟩ (And.intro (fun _ _ h=>h.conv (inv:=[(0,0),(5,2)]) (vk:=[]) (e0:=[]) (t:=⟨[],[(0,some (.box 50 [.own 2,iV .u64 x1920])),(2,some (.row 1 5 (x1919.map (Z1 .u8))))],2⟩) (by kernel_rfl)) (And.intro (.inr rfl) (And.intro rfl (And.intro (by kernel_rfl) (by kernel_rfl)))))
def Z5l.f (a0:Int):Option (Unit):=some ()
theorem Z5l.ok (a0:Int) (r:Unit) (H:Z5l.f a0=some r):Pv.Fn Tryz.prog 56 [iV .i64 a0] [] 0 (fun x o=>x=iV .u64 (u64.wrap (((BitVec.toNat (BitVec.ofInt 64 (u64.wrap (i64.wrap (a0*2))) ^^^ BitVec.ofInt 64 (u64.wrap (Int.fdiv a0 9223372036854775808))):Nat):Int)))∧o=[]):=by
 unfold Z5l.f at H
 refine Fn.bodyK [] Tryz.func56 rfl rfl (fun Γ hP hn => ?_)
 have hm:Tryz.prog.follows .mixedOrders=true:=by kernel_rfl
 replace hn:Γ.n=10:=hn
 refine sO hP hn hm [] [] [0] [] [] ?_
 refine sR hP hn hm [] [(2,iV .u64 (u64.wrap (((BitVec.toNat (BitVec.ofInt 64 (u64.wrap (i64.wrap (a0*2))) ^^^ BitVec.ofInt 64 (u64.wrap (Int.fdiv a0 9223372036854775808))):Nat):Int))))] [2] [] [] [(0:Int)≤1,(0:Int)≤63] ⟨by decide,by decide,trivial⟩ ?_
 refine AWp.conv (inv:=[]) (vk:=[]) (e0:=[]) (t:=⟨[(2,iV .u64 (u64.wrap (((BitVec.toNat (BitVec.ofInt 64 (u64.wrap (i64.wrap (a0*2))) ^^^ BitVec.ofInt 64 (u64.wrap (Int.fdiv a0 9223372036854775808))):Nat):Int))))],[],0⟩) (by kernel_rfl) ?_
 refine AWp.ret ?_
 obtain rfl:=sj H
 exact rl (.inl rfl) rfl (by kernel_rfl) (by kernel_rfl)
def Z2z.f  : Option (List Int):=some [0,3,7,12,20,32,64]
theorem Z2z.ok  (r:List Int) (H:Z2z.f  = some r):Pv.Fn Tryz.prog 57 [] [] 0 (fun x o=>x = .own 0∧o=[(0,some (.row 1 3 (r.map (Z1 .i64))))]):=by
 unfold Z2z.f at H
 refine Fn.bodyK [0] Tryz.func57 rfl rfl (fun Γ hP hn => ?_)
 have hm:Tryz.prog.follows .mixedOrders=true:=by kernel_rfl
 replace hn:Γ.n=2:=hn
 refine sO hP hn hm [] [] [] [] [] ?_
 refine sR hP hn hm [(0,.app 0 ([0,3,7,12,20,32,64].map (Z1 .i64)))] [(0,.own 0)] [0] [(0,some (.row 1 3 ([0,3,7,12,20,32,64].map (Z1 .i64))))] [0] [[0,3,7,12,20,32,64].map (Z1 .i64)=[[iI .i64 0],[iI .i64 3],[iI .i64 7],[iI .i64 12],[iI .i64 20],[iI .i64 32],[iI .i64 64]]] ⟨by exact rfl,trivial⟩ ?_
 refine AWp.conv (inv:=[(0,0)]) (vk:=[]) (e0:=[]) (t:=⟨[(0,.own 0)],[(0,some (.row 1 3 ([0,3,7,12,20,32,64].map (Z1 .i64))))],0⟩) (by kernel_rfl) ?_
 refine AWp.ret ?_
 obtain rfl:=sj H
 exact rl (.inl rfl) rfl (by kernel_rfl) (by kernel_rfl)
def Z2o.l0 (x1934:Int) (x1935:Int):Option (Int):=if(decide (x1934>(0:Int)))=true then(Z2o.l0  (Int.fdiv x1934 2) (i64.wrap (x1935+(1:Int)))) else(some x1935)
partial_fixpoint
def Z2o.f (a0:Int):Option (Int):=(Z2o.l0  a0 0)>>=fun x1937=>some x1937
theorem Z2o.ok (a0:Int) (r:Int) (H:Z2o.f a0=some r):Pv.Fn Tryz.prog 59 [iV .u64 a0] [] 0 (fun x o=>x=iV .i64 r∧o=[]):=by
 unfold Z2o.f at H
 refine Fn.bodyK [] Tryz.func59 rfl rfl (fun Γ hP hn => ?_)
 have hm:Tryz.prog.follows .mixedOrders=true:=by kernel_rfl
 replace hn:Γ.n=11:=hn
 refine sO hP hn hm [] [] [0] [] [] ?_
 refine sO hP hn hm [] [(3,iV .i64 0)] [0,3] [] [] ?_
 refine AWp.seq ?_
 refine AWp.block ?_
 obtain⟨o1938,e1939,H⟩:=Z3 H
 refine AWp.loop (LWp.conv (inv:=[]) (vk:=[]) (e0:=[]) (t:=⟨[(0,iV .u64 a0),(3,iV .i64 0)],[],0⟩) (by kernel_rfl) ?_)
 refine LWp.mono (Q:=fun e s=>(match (generalizing:=false) o1938 with | x1937=>e = .exit 0∧s=⟨[(3,iV .i64 x1937)],[],0⟩)) (LWp.cv (Zn (fun body hbody => ?_))) ?_
 ·refine         Z2o.l0.partial_correctness  (motive:=fun x1934 x1935 o1938=>LWp Γ body (fun e s=>∃ t,Cv Γ s t∧(match (generalizing:=false) o1938 with | x1937=>e = .exit 0∧t=⟨[(3,iV .i64 x1937)],[],0⟩)) ⟨[(0,iV .u64 x1934),(3,iV .i64 x1935)],[],0⟩) ?_ _ _ _ e1939
  clear H e1939 o1938;intro self ih x1934 x1935 o1938 H
  subst hbody
  refine LWp.round ?_
  refine AWp.seq ?_
  refine sO hP hn hm [] [(5,bV (decide (x1934>(0:Int))))] [0,3,5] [] [] ?_
  refine AWp.cond (decide (x1934>(0:Int))) (by kernel_rfl) (fun c1936 => ?_) (fun c1936 => ?_)
  ·replace H:=iT c1936 H
   refine AWp.skip ?_
   refine AWp.seq ?_
   refine AWp.block ?_
   refine rO hP hn hm [] [(3,iV .i64 (i64.wrap (x1935+(1:Int))))] [0,3] [] [] ?_
   refine rG hP hn hm [] [(0,iV .u64 (Int.fdiv x1934 2))] [0,3] [] [] [(0:Int)≤1] ⟨by decide,trivial⟩ ?_
   exact LWp.conv [] [] [] (by kernel_rfl) (ih _ _ _ H)
  ·replace H:=iF c1936 H
   refine AWp.exit ?_
   obtain rfl:=sj H
   exact lf [] [] [] (by kernel_rfl) ⟨rfl,rfl⟩
 ·obtain⟨x1937,rfl⟩:∃ z,z=o1938:=⟨_,rfl⟩
  rintro e s ⟨rfl,rfl⟩
  refine sO hP hn hm [] [(2,iV .i64 x1937)] [2] [] [] ?_
  refine AWp.conv (inv:=[]) (vk:=[]) (e0:=[]) (t:=⟨[(2,iV .i64 x1937)],[],0⟩) (by kernel_rfl) ?_
  refine AWp.ret ?_
  obtain rfl:=sj H
  exact rl (.inl rfl) rfl (by kernel_rfl) (by kernel_rfl)
def Z3h.f (a0:Int) (a1:Int):Option (Bool):=(((Z0o.f a0)>>=fun t1952=>if(a0 != a0)=true then((Z0o.f a1)>>=fun t1955=>if(!(a1 != a1))=true then(some true) else(some (decide (a0<a1)))) else(some (decide (a0<a1)))):Option (Bool))>>=fun x1958=>some x1958
theorem Z3h.ok (a0:Int) (a1:Int) (r:Bool) (H:Z3h.f a0 a1=some r):Pv.Fn Tryz.prog 85 [iV .i64 a0,iV .i64 a1] [] 0 (fun x o=>x=bV r∧o=[]):=by
 unfold Z3h.f at H
 refine Fn.bodyK [] Tryz.func85 rfl rfl (fun Γ hP hn => ?_)
 have hm:Tryz.prog.follows .mixedOrders=true:=by kernel_rfl
 replace hn:Γ.n=17:=hn
 refine sO hP hn hm [] [] [0,1] [] [] ?_
 refine AWp.seq ?_
 obtain⟨o1959,e1960,H⟩:=Z3 H
 refine AWp.mono (Q:=fun e s=>(match (generalizing:=false) o1959 with | x1958=>e = .normal∧s=⟨[(4,bV x1958)],[],0⟩)) (AWp.cv ?_) ?_
 ·replace H:=e1960;clear e1960
  obtain⟨t1952,e1953,H⟩:=Z3 H
  rcases Bool.eq_false_or_eq_true (a0 != a0) with c1954 | c1954
  ·replace H:=iT c1954 H
   obtain⟨t1955,e1956,H⟩:=Z3 H
   rcases Bool.eq_false_or_eq_true (!(a1 != a1)) with c1957 | c1957
   ·replace H:=iT c1957 H
    refine rG hP hn hm [(1,.call [] [] [] [] 0 (bV (a0 != a0)) []),(2,.b true),(4,.call [] [] [] [] 0 (bV (a1 != a1)) []),(7,.b true)] [(4,bV true)] [4] [] [] [_,_,_,_,_,_] ⟨Tryz.call98,Z0o.ok a0 t1952 e1953,c1954,Tryz.call98,Z0o.ok a1 t1955 e1956,c1957,trivial⟩ ?_
    obtain rfl:=sj H
    exact lf [] [] [] (by kernel_rfl) ⟨rfl,rfl⟩
   ·replace H:=iF c1957 H
    refine rG hP hn hm [(1,.call [] [] [] [] 0 (bV (a0 != a0)) []),(2,.b true),(4,.call [] [] [] [] 0 (bV (a1 != a1)) []),(7,.b false)] [(4,bV (decide (a0<a1)))] [4] [] [] [_,_,_,_,_,_] ⟨Tryz.call98,Z0o.ok a0 t1952 e1953,c1954,Tryz.call98,Z0o.ok a1 t1955 e1956,c1957,trivial⟩ ?_
    obtain rfl:=sj H
    exact lf [] [] [] (by kernel_rfl) ⟨rfl,rfl⟩
  ·replace H:=iF c1954 H
   refine rG hP hn hm [(1,.call [] [] [] [] 0 (bV (a0 != a0)) []),(2,.b false)] [(4,bV (decide (a0<a1)))] [4] [] [] [_,_,_] ⟨Tryz.call98,Z0o.ok a0 t1952 e1953,c1954,trivial⟩ ?_
   obtain rfl:=sj H
   exact lf [] [] [] (by kernel_rfl) ⟨rfl,rfl⟩
 ·obtain⟨x1958,rfl⟩:∃ z,z=o1959:=⟨_,rfl⟩
  rintro e s ⟨rfl,rfl⟩
  refine AWp.conv (inv:=[]) (vk:=[]) (e0:=[]) (t:=⟨[(4,bV x1958)],[],0⟩) (by kernel_rfl) ?_
  refine AWp.ret ?_
  obtain rfl:=sj H
  exact rl (.inl rfl) rfl (by kernel_rfl) (by kernel_rfl)
def Z1l.f (a0:Int):Option (Unit):=some ()
theorem Z1l.ok (a0:Int) (r:Unit) (H:Z1l.f a0=some r):Pv.Fn Tryz.prog 86 [iV .i64 a0] [] 0 (fun x o=>x=bV (a0 != a0)∧o=[]):=by
 unfold Z1l.f at H
 refine Fn.bodyK [] Tryz.func86 rfl rfl (fun Γ hP hn => ?_)
 have hm:Tryz.prog.follows .mixedOrders=true:=by kernel_rfl
 replace hn:Γ.n=6:=hn
 refine sO hP hn hm [] [] [0] [] [] ?_
 refine sO hP hn hm [] [(2,bV (a0 != a0))] [2] [] [] ?_
 refine AWp.conv (inv:=[]) (vk:=[]) (e0:=[]) (t:=⟨[(2,bV (a0 != a0))],[],0⟩) (by kernel_rfl) ?_
 refine AWp.ret ?_
 obtain rfl:=sj H
 exact rl (.inl rfl) rfl (by kernel_rfl) (by kernel_rfl)
def Z0b.l0 (a0:List Int) (a1:Int) (x1971:Int) (x1972:Int):Option (Int):=if(decide (x1971<x1972))=true then((at? a0 (i64.wrap (Int.fdiv (u64.wrap (i64.wrap (x1971+x1972))) 2)))>>=fun b1979=>(Z3h.f b1979 a1)>>=fun t1982=>((if t1982=true then(some (i64.wrap ((i64.wrap (Int.fdiv (u64.wrap (i64.wrap (x1971+x1972))) 2))+(1:Int)),x1972)) else(some (x1971,i64.wrap (Int.fdiv (u64.wrap (i64.wrap (x1971+x1972))) 2)))):Option (Int×Int))>>=fun oo=>match oo with | (x1985,x1986)=>(Z0b.l0 a0 a1 x1985 x1986)) else(some x1971)
partial_fixpoint
def Z0b.f (a0:List Int) (a1:Int):Option (Int×Bool):=(Z0b.l0 a0 a1 0 (a0.length:Int))>>=fun x1987=>((if(decide (x1987<(a0.length:Int)))=true then((at? a0 x1987)>>=fun b1999=>if(b1999==a1)=true then(some true) else((Z1l.f b1999)>>=fun t2003=>if(b1999 != b1999)=true then((Z1l.f a1)>>=fun t2006=>some (a1 != a1)) else(some false))) else(some false)):Option (Bool))>>=fun x2008=>some (x1987,x2008)
theorem Z0b.ok (a0:List Int) (a1:Int) (r:Int×Bool) (H:Z0b.f a0 a1=some r):Pv.Fn Tryz.prog 58 [.im (.row (a0.map (Z1 .i64))),iV .i64 a1] [] 0 (fun x o=>x = .tup [iV .i64 r.1,bV r.2]∧o=[]):=by
 unfold Z0b.f at H
 refine Fn.bodyK [] Tryz.func58 rfl rfl (fun Γ hP hn => ?_)
 have hm:Tryz.prog.follows .mixedOrders=true:=by kernel_rfl
 replace hn:Γ.n=54:=hn
 refine sO hP hn hm [] [] [0,1] [] [] ?_
 refine sR hP hn hm [(1,.any (iV .i64 (a0.length:Int)))] [(6,iV .i64 (a0.length:Int))] [0,1,6] [] [] [((a0.map (Z1 .i64)).length:Int)=(a0.length:Int)] ⟨by rw[Zi],trivial⟩ ?_
 refine sO hP hn hm [] [(7,iV .i64 0),(8,iV .i64 (a0.length:Int))] [0,1,6,7,8] [] [] ?_
 refine AWp.seq ?_
 refine AWp.block ?_
 obtain⟨o2009,e2010,H⟩:=Z3 H
 refine AWp.loop (LWp.conv (inv:=[]) (vk:=[]) (e0:=[]) (t:=⟨[(0,.im (.row (a0.map (Z1 .i64)))),(1,iV .i64 a1),(6,iV .i64 (a0.length:Int)),(7,iV .i64 0),(8,iV .i64 (a0.length:Int))],[],0⟩) (by kernel_rfl) ?_)
 refine LWp.mono (Q:=fun e s=>(match (generalizing:=false) o2009 with | x1987=>e = .exit 0∧s=⟨[(0,.im (.row (a0.map (Z1 .i64)))),(1,iV .i64 a1),(6,iV .i64 (a0.length:Int)),(7,iV .i64 x1987)],[],0⟩)) (LWp.cv (Zn (fun body hbody => ?_))) ?_
 ·refine                       Z0b.l0.partial_correctness a0 a1 (motive:=fun x1971 x1972 o2009=>LWp Γ body (fun e s=>∃ t,Cv Γ s t∧(match (generalizing:=false) o2009 with | x1987=>e = .exit 0∧t=⟨[(0,.im (.row (a0.map (Z1     .i64)))),(1,iV .i64 a1),(6,iV .i64 (a0.length:Int)),(7,iV .i64 x1987)],[],0⟩)) ⟨[(0,.im (.row (a0.map (Z1     .i64)))),(1,iV .i64 a1),(6,iV .i64 (a0.length:Int)),(7,iV .i64 x1971),(8,iV .i64 x1972)],[],0⟩) ?_ _ _ _ e2010
  clear H e2010 o2009;intro self ih x1971 x1972 o2009 H
  subst hbody
  refine LWp.round ?_
  refine AWp.seq ?_
  refine sO hP hn hm [] [(15,bV (decide (x1971<x1972)))] [0,1,6,7,8,15] [] [] ?_
  refine AWp.cond (decide (x1971<x1972)) (by kernel_rfl) (fun c1973 => ?_) (fun c1973 => ?_)
  ·replace H:=iT c1973 H
   refine AWp.skip ?_
   refine AWp.block ?_
   refine sR hP hn hm [] [(9,iV .i64 (i64.wrap (Int.fdiv (u64.wrap (i64.wrap (x1971+x1972))) 2)))] [0,1,6,7,8,9] [] [] [(0:Int)≤1] ⟨by decide,trivial⟩ ?_
   obtain⟨b1979,p1980,q1981,H⟩:=Z03 H
   obtain⟨t1982,e1983,H⟩:=Z3 H
   refine sR hP hn hm [(2,.c ((Z1 .i64) b1979)),(5,.call [] [] [] [] 0 (bV t1982) [])] [(27,bV t1982)] [0,1,6,7,8,9,27] [] [] [_,_,_,_] ⟨p1980,Zf (Z1 .i64) q1981,Tryz.call85,Z3h.ok b1979 a1 t1982 e1983,trivial⟩ ?_
   obtain⟨o2011,e2012,H⟩:=Z3 H
   refine AWp.mono (Q:=fun e s=>(match (generalizing:=false) o2011 with | (x1985,x1986)=>e = .normal∧s=⟨[(0,.im (.row (a0.map (Z1 .i64)))),(1,iV .i64 a1),(6,iV .i64 (a0.length:Int)),(7,iV .i64 x1985),(8,iV .i64 x1986)],[],0⟩)) (AWp.cv ?_) ?_
   ·replace H:=e2012;clear e2012
    refine AWp.cond t1982 (by kernel_rfl) (fun c1984 => ?_) (fun c1984 => ?_)
    ·replace H:=iT c1984 H
     refine rO hP hn hm [] [(7,iV .i64 (i64.wrap ((i64.wrap (Int.fdiv (u64.wrap (i64.wrap (x1971+x1972))) 2))+(1:Int))))] [0,1,6,7,8] [] [] ?_
     obtain rfl:=sj H
     exact lf [] [] [] (by kernel_rfl) ⟨rfl,rfl⟩
    ·replace H:=iF c1984 H
     refine rO hP hn hm [] [(8,iV .i64 (i64.wrap (Int.fdiv (u64.wrap (i64.wrap (x1971+x1972))) 2)))] [0,1,6,7,8] [] [] ?_
     obtain rfl:=sj H
     exact lf [] [] [] (by kernel_rfl) ⟨rfl,rfl⟩
   ·obtain⟨x1985,x1986⟩:=o2011
    rintro e s ⟨rfl,rfl⟩
    exact LWp.conv [] [] [] (by kernel_rfl) (ih _ _ _ H)
  ·replace H:=iF c1973 H
   refine AWp.exit ?_
   obtain rfl:=sj H
   exact lf [] [] [] (by kernel_rfl) ⟨rfl,rfl⟩
 ·obtain⟨x1987,rfl⟩:∃ z,z=o2009:=⟨_,rfl⟩
  rintro e s ⟨rfl,rfl⟩
  refine AWp.seq ?_
  obtain⟨o2013,e2014,H⟩:=Z3 H
  refine AWp.mono (Q:=fun e s=>(match (generalizing:=false) o2013 with | x2008=>e = .normal∧s=⟨[(4,iV .i64 x1987),(5,bV x2008)],[],0⟩)) (AWp.cv ?_) ?_
  ·replace H:=e2014;clear e2014
   rcases Bool.eq_false_or_eq_true (decide (x1987<(a0.length:Int))) with c1998 | c1998
   ·replace H:=iT c1998 H
    obtain⟨b1999,p2000,q2001,H⟩:=Z03 H
    rcases Bool.eq_false_or_eq_true (b1999==a1) with c2002 | c2002
    ·replace H:=iT c2002 H
     refine rG hP hn hm [(4,.b true),(7,.c ((Z1 .i64) b1999)),(11,.b true)] [(4,iV .i64 x1987),(5,bV true)] [4,5] [] [] [_,_,_,_] ⟨c1998,p2000,Zf (Z1 .i64) q2001,c2002,trivial⟩ ?_
     obtain rfl:=sj H
     exact lf [] [] [] (by kernel_rfl) ⟨rfl,rfl⟩
    ·replace H:=iF c2002 H
     obtain⟨t2003,e2004,H⟩:=Z3 H
     rcases Bool.eq_false_or_eq_true (b1999 != b1999) with c2005 | c2005
     ·replace H:=iT c2005 H
      obtain⟨t2006,e2007,H⟩:=Z3 H
      refine rG hP hn hm [(4,.b true),(7,.c ((Z1 .i64) b1999)),(11,.b false),(14,.c ((Z1 .i64) b1999)),(16,.call [] [] [] [] 0 (bV (b1999 != b1999)) []),(17,.b true),(19,.call [] [] [] [] 0 (bV (a1 != a1)) [])] [(4,iV .i64 x1987),(5,bV (a1 != a1))] [4,5] [] [] [_,_,_,_,_,_,_,_,_,_,_] ⟨c1998,p2000,Zf (Z1 .i64) q2001,c2002,p2000,Zf (Z1 .i64) q2001,Tryz.call86,Z1l.ok b1999 t2003 e2004,c2005,Tryz.call86,Z1l.ok a1 t2006 e2007,trivial⟩ ?_
      obtain rfl:=sj H
      exact lf [] [] [] (by kernel_rfl) ⟨rfl,rfl⟩
     ·replace H:=iF c2005 H
      refine rG hP hn hm [(4,.b true),(7,.c ((Z1 .i64) b1999)),(11,.b false),(14,.c ((Z1 .i64) b1999)),(16,.call [] [] [] [] 0 (bV (b1999 != b1999)) []),(17,.b false)] [(4,iV .i64 x1987),(5,bV false)] [4,5] [] [] [_,_,_,_,_,_,_,_,_] ⟨c1998,p2000,Zf (Z1 .i64) q2001,c2002,p2000,Zf (Z1 .i64) q2001,Tryz.call86,Z1l.ok b1999 t2003 e2004,c2005,trivial⟩ ?_
      obtain rfl:=sj H
      exact lf [] [] [] (by kernel_rfl) ⟨rfl,rfl⟩
   ·replace H:=iF c1998 H
    refine rG hP hn hm [(4,.b false)] [(4,iV .i64 x1987),(5,bV false)] [4,5] [] [] [_] ⟨c1998,trivial⟩ ?_
    obtain rfl:=sj H
    exact lf [] [] [] (by kernel_rfl) ⟨rfl,rfl⟩
  ·obtain⟨x2008,rfl⟩:∃ z,z=o2013:=⟨_,rfl⟩
   rintro e s ⟨rfl,rfl⟩
   refine AWp.conv (inv:=[]) (vk:=[]) (e0:=[]) (t:=⟨[(4,iV .i64 x1987),(5,bV x2008)],[],0⟩) (by kernel_rfl) ?_
   refine AWp.ret ?_
   obtain rfl:=sj H
   exact rl (.inl rfl) rfl (by kernel_rfl) (by kernel_rfl)
def Zg.l0 (a1:Int) (t1931:List Int) (t2019:Int×Bool) (x2026:List Int) (x2027:Int) (x2028:Int):Option ((List Int)×Int):=if(decide (x2028<t2019.1))=true then((Z0r.f x2026 x2027 true)>>=fun t2032=>Zg.l0 a1 t1931 t2019 t2032.1 t2032.2 (i64.wrap (x2028+(1:Int)))) else(some (x2026,x2027))
partial_fixpoint
def Zg.f (a0_c0:List Int) (a0_c1:Int) (a1:Int):Option ((List Int)×Int):=(Z2z.f)>>=fun t1931=>(Z2o.f a1)>>=fun t2017=>(Z0b.f t1931 t2017)>>=fun t2019=>(Zg.l0 a1 t1931 t2019 a0_c0 a0_c1 0)>>=fun oo=>match oo with | (x2034,x2035)=>(((if(decide (t2019.1<(i64.wrap ((t1931.length:Int)-(1:Int)))))=true then((Z0r.f x2034 x2035 false)>>=fun t2039=>some (t2039.1,t2039.2)) else(some (x2034,x2035))):Option ((List Int)×Int))>>=fun oo=>match oo with | (x2041,x2042)=>((at? t1931 t2019.1)>>=fun b2048=>(Z0e.f x2041 x2042 a1 b2048)>>=fun t2051=>some (t2051.1,t2051.2)))
theorem Zg.ok (a0_c0:List Int) (a0_c1:Int) (a1:Int) (r:(List Int)×Int) (H:Zg.f a0_c0 a0_c1 a1=some r):Pv.Fn Tryz.prog 24 [.ptr 0 0 0,iV .u64 a1] [(0,some (.box 50 [.own 1,iV .u64 a0_c1])),(1,some (.row 1 5 (a0_c0.map (Z1 .u8))))] 2 (fun x o=>x = .tup []∧o=[(0,some (.box 50 [.own 2,iV .u64 r.2])),(1,none),(2,some (.row 1 5 (r.1.map (Z1 .u8))))]):=by
 unfold Zg.f at H
 refine Fn.bodyK [0,1,2] Tryz.func24 rfl rfl (fun Γ hP hn => ?_)
 have hm:Tryz.prog.follows .mixedOrders=true:=by kernel_rfl
 replace hn:Γ.n=35:=hn
 obtain⟨t1931,e1932,H⟩:=Z3 H
 refine sR hP hn hm [(0,.call [] [(0,2)] [] [2] 0 (.own 0) [(0,some (.row 1 3 (t1931.map (Z1 .i64))))])] [(4,.own 2)] [0,1,4] [(2,some (.row 1 3 (t1931.map (Z1 .i64))))] [0,1,2] [_,_] ⟨Tryz.call57,Z2z.ok  t1931 e1932,trivial⟩ ?_
 obtain⟨t2017,e2018,H⟩:=Z3 H
 obtain⟨t2019,e2020,H⟩:=Z3 H
 refine sR hP hn hm [(2,.call [] [] [] [] 0 (iV .i64 t2017) []),(3,.call [] [] [2] [] 0 (.tup [iV .i64 t2019.1,bV t2019.2]) [])] [(5,iV .i64 t2019.1)] [0,1,4,5] [] [0,1,2] [_,_,_,_] ⟨Tryz.call59,Z2o.ok a1 t2017 e2018,Tryz.call58,Z0b.ok t1931 t2017 t2019 e2020,trivial⟩ ?_
 refine AWp.seq ?_
 refine sO hP hn hm [] [(15,iV .i64 t2019.1),(16,iV .i64 0)] [0,1,4,5,15,16] [] [0,1,2] ?_
 refine AWp.block ?_
 obtain⟨o2053,e2054,H⟩:=Z3 H
 refine AWp.loop (LWp.conv (inv:=[(0,0),(1,4),(2,5)]) (vk:=[]) (e0:=[]) (t:=⟨[(0,.ptr 0 0 0),(1,iV .u64 a1),(4,.own 5),(5,iV .i64 t2019.1),(15,iV .i64 t2019.1),(16,iV .i64 0)],[(0,some (.box 50 [.own 4,iV .u64 a0_c1])),(4,some (.row 1 5 (a0_c0.map (Z1 .u8)))),(5,some (.row 1 3 (t1931.map (Z1 .i64))))],2⟩) (by kernel_rfl) ?_)
 refine LWp.mono (Q:=fun e s=>(match (generalizing:=false) o2053 with | (x2034,x2035)=>e = .exit 0∧s=⟨[(0,.ptr 0 0 0),(1,iV .u64 a1),(4,.own 8),(5,iV .i64 t2019.1)],[(0,some (.box 50 [.own 7,iV .u64 x2035])),(7,some (.row 1 5 (x2034.map (Z1 .u8)))),(8,some (.row 1 3 (t1931.map (Z1 .i64))))],2⟩)) (LWp.cv (Zn (fun body hbody => ?_))) ?_
 ·refine                      Zg.l0.partial_correctness a1 t1931 t2019 (motive:=fun x2026 x2027 x2028 o2053=>LWp Γ body (fun e s=>∃ t,Cv Γ s t∧(match (generalizing:=false) o2053 with | (x2034,x2035)=>e = .exit 0∧t=⟨[(0,.ptr 0 0 0),(1,iV .u64 a1),(4,.own 8),(5,iV .i64 t2019.1)],[(0,some (.box 50 [.own 7,iV .u64 x2035])),(7,some (.row 1 5 (x2034.map (Z1     .u8)))),(8,some (.row 1 3 (t1931.map (Z1     .i64))))],2⟩)) ⟨[(0,.ptr 0 0 0),(1,iV .u64 a1),(4,.own 5),(5,iV .i64 t2019.1),(15,iV .i64 t2019.1),(16,iV .i64 x2028)],[(0,some (.box 50 [.own 4,iV .u64 x2027])),(4,some (.row 1 5 (x2026.map (Z1     .u8)))),(5,some (.row 1 3 (t1931.map (Z1     .i64))))],2⟩) ?_ _ _ _ _ e2054
  clear H e2054 o2053;intro self ih x2026 x2027 x2028 o2053 H
  subst hbody
  refine LWp.round ?_
  refine sO hP hn hm [] [(17,bV (decide (x2028<t2019.1)))] [0,1,4,5,15,16,17] [] [0,4,5] ?_
  refine AWp.seq ?_
  refine AWp.cond (decide (x2028<t2019.1)) (by kernel_rfl) (fun c2029 => ?_) (fun c2029 => ?_)
  ·replace H:=iT c2029 H
   refine AWp.skip ?_
   refine AWp.seq ?_
   refine AWp.block ?_
   obtain⟨t2032,e2033,H⟩:=Z3 H
   refine rG hP hn hm [(1,.call [(0,0),(4,1)] [(0,0),(2,6)] [] [6] 2 (.tup []) [(0,some (.box 50 [.own 2,iV .u64 t2032.2])),(1,none),(2,some (.row 1 5 (t2032.1.map (Z1 .u8))))])] [] [0,1,4,5,15,16] [(0,some (.box 50 [.own 6,iV .u64 t2032.2])),(6,some (.row 1 5 (t2032.1.map (Z1 .u8))))] [0,5,6] [_,_] ⟨Tryz.call20,Z0r.ok x2026 x2027 true t2032 e2033,trivial⟩ ?_
   refine rO hP hn hm [] [(16,iV .i64 (i64.wrap (x2028+(1:Int))))] [0,1,4,5,15,16] [] [0,5,6] ?_
   exact LWp.conv [(0,0),(5,5),(6,4)] [] [] (by kernel_rfl) (ih _ _ _ _ H)
  ·replace H:=iF c2029 H
   refine AWp.exit ?_
   obtain rfl:=sj H
   exact lf [(0,0),(4,7),(5,8)] [] [] (by kernel_rfl) ⟨rfl,rfl⟩
 ·obtain⟨x2034,x2035⟩:=o2053
  rintro e s ⟨rfl,rfl⟩
  refine AWp.seq ?_
  refine sR hP hn hm [(2,.any (iV .i64 (t1931.length:Int)))] [(25,bV (decide (t2019.1<(i64.wrap ((t1931.length:Int)-(1:Int))))))] [0,1,4,5,25] [] [0,7,8] [((t1931.map (Z1 .i64)).length:Int)=(t1931.length:Int)] ⟨by rw[Zi],trivial⟩ ?_
  obtain⟨o2055,e2056,H⟩:=Z3 H
  refine AWp.mono (Q:=fun e s=>(match (generalizing:=false) o2055 with | (x2041,x2042)=>e = .normal∧s=⟨[(0,.ptr 0 0 0),(1,iV .u64 a1),(4,.own 11),(5,iV .i64 t2019.1)],[(0,some (.box 50 [.own 10,iV .u64 x2042])),(10,some (.row 1 5 (x2041.map (Z1 .u8)))),(11,some (.row 1 3 (t1931.map (Z1 .i64))))],2⟩)) (AWp.cv ?_) ?_
  ·replace H:=e2056;clear e2056
   refine AWp.cond (decide (t2019.1<(i64.wrap ((t1931.length:Int)-(1:Int))))) (by kernel_rfl) (fun c2036 => ?_) (fun c2036 => ?_)
   ·replace H:=iT c2036 H
    obtain⟨t2039,e2040,H⟩:=Z3 H
    refine rG hP hn hm [(1,.call [(0,0),(7,1)] [(0,0),(2,9)] [] [9] 2 (.tup []) [(0,some (.box 50 [.own 2,iV .u64 t2039.2])),(1,none),(2,some (.row 1 5 (t2039.1.map (Z1 .u8))))])] [] [0,1,4,5] [(0,some (.box 50 [.own 9,iV .u64 t2039.2])),(9,some (.row 1 5 (t2039.1.map (Z1 .u8))))] [0,8,9] [_,_] ⟨Tryz.call20,Z0r.ok x2034 x2035 false t2039 e2040,trivial⟩ ?_
    obtain rfl:=sj H
    exact lf [(0,0),(9,10),(8,11)] [] [] (by kernel_rfl) ⟨rfl,rfl⟩
   ·replace H:=iF c2036 H
    refine AWp.skip ?_
    obtain rfl:=sj H
    exact lf [(0,0),(7,10),(8,11)] [] [] (by kernel_rfl) ⟨rfl,rfl⟩
  ·obtain⟨x2041,x2042⟩:=o2055
   rintro e s ⟨rfl,rfl⟩
   obtain⟨b2048,p2049,q2050,H⟩:=Z03 H
   obtain⟨t2051,e2052,H⟩:=Z3 H
   refine rG hP hn hm [(5,.c ((Z1 .i64) b2048)),(6,.call [(0,0),(10,1)] [(0,0),(2,12)] [] [12] 2 (.tup []) [(0,some (.box 50 [.own 2,iV .u64 t2051.2])),(1,none),(2,some (.row 1 5 (t2051.1.map (Z1 .u8))))])] [] [] [(0,some (.box 50 [.own 12,iV .u64 t2051.2])),(12,some (.row 1 5 (t2051.1.map (Z1 .u8))))] [0,12] [_,_,_,_,_] ⟨p2049,Z1u (Z1 .i64) p2049 q2050,Zf (Z1 .i64) q2050,Tryz.call21,Z0e.ok x2041 x2042 a1 b2048 t2051 e2052,trivial⟩ ?_
   obtain rfl:=sj H
   exact Exists.intro ⟨[],[(0,some (.box 50 [.own 2,iV .u64 t2051.2])),(2,some (.row 1 5 (t2051.1.map (Z1 .u8))))],2⟩ (And.intro (fun _ _ h=>h.conv (inv:=[(0,0),(12,2)]) (vk:=[]) (e0:=[]) (t:=⟨[],[(0,some (.box 50 [.own 2,iV .u64 t2051.2])),(2,some (.row 1 5 (t2051.1.map (Z1 .u8))))],2⟩) (by kernel_rfl)) (And.intro (.inr rfl) (And.intro rfl (And.intro (by kernel_rfl) (by kernel_rfl)))))
def Zy.f (a0_c0:List Int) (a0_c1:Int) (a1:Int):Option ((List Int)×Int):=(Z5l.f a1)>>=fun t2059=>(Zg.f a0_c0 a0_c1 (u64.wrap (((BitVec.toNat (BitVec.ofInt 64 (u64.wrap (i64.wrap (a1*2))) ^^^ BitVec.ofInt 64 (u64.wrap (Int.fdiv a1 9223372036854775808))):Nat):Int))))>>=fun t2061=>some (t2061.1,t2061.2)
theorem Zy.ok (a0_c0:List Int) (a0_c1:Int) (a1:Int) (r:(List Int)×Int) (H:Zy.f a0_c0 a0_c1 a1=some r):Pv.Fn Tryz.prog 22 [.ptr 0 0 0,iV .i64 a1] [(0,some (.box 50 [.own 1,iV .u64 a0_c1])),(1,some (.row 1 5 (a0_c0.map (Z1 .u8))))] 2 (fun x o=>x = .tup []∧o=[(0,some (.box 50 [.own 2,iV .u64 r.2])),(1,none),(2,some (.row 1 5 (r.1.map (Z1 .u8))))]):=by
 unfold Zy.f at H
 refine Fn.bodyK [0,1,2] Tryz.func22 rfl rfl (fun Γ hP hn => ?_)
 have hm:Tryz.prog.follows .mixedOrders=true:=by kernel_rfl
 replace hn:Γ.n=8:=hn
 obtain⟨t2059,e2060,H⟩:=Z3 H
 obtain⟨t2061,e2062,H⟩:=Z3 H
 refine rG hP hn hm [(2,.call [] [] [] [] 0 (iV .u64 (u64.wrap (((BitVec.toNat (BitVec.ofInt 64 (u64.wrap (i64.wrap (a1*2))) ^^^ BitVec.ofInt 64 (u64.wrap (Int.fdiv a1 9223372036854775808))):Nat):Int)))) []),(3,.call [(0,0),(1,1)] [(0,0),(2,2)] [] [2] 2 (.tup []) [(0,some (.box 50 [.own 2,iV .u64 t2061.2])),(1,none),(2,some (.row 1 5 (t2061.1.map (Z1 .u8))))])] [] [] [(0,some (.box 50 [.own 2,iV .u64 t2061.2])),(2,some (.row 1 5 (t2061.1.map (Z1 .u8))))] [0,2] [_,_,_,_] ⟨Tryz.call56,Z5l.ok a1 t2059 e2060,Tryz.call24,Zg.ok a0_c0 a0_c1 (u64.wrap (((BitVec.toNat (BitVec.ofInt 64 (u64.wrap (i64.wrap (a1*2))) ^^^ BitVec.ofInt 64 (u64.wrap (Int.fdiv a1 9223372036854775808))):Nat):Int))) t2061 e2062,trivial⟩ ?_
 obtain rfl:=sj H
 exact Exists.intro ⟨[],[(0,some (.box 50 [.own 2,iV .u64 t2061.2])),(2,some (.row 1 5 (t2061.1.map (Z1 .u8))))],2⟩ (And.intro (fun _ _ h=>h.conv (inv:=[(0,0),(2,2)]) (vk:=[]) (e0:=[]) (t:=⟨[],[(0,some (.box 50 [.own 2,iV .u64 t2061.2])),(2,some (.row 1 5 (t2061.1.map (Z1 .u8))))],2⟩) (by kernel_rfl)) (And.intro (.inr rfl) (And.intro rfl (And.intro (by kernel_rfl) (by kernel_rfl)))))
def Z1m.l0 (a1:Zc) (x2087:List Int) (x2088:Int) (x2089:Int):Option ((List Int)×Int):=if(decide (x2089<(a1.f1.length:Int)))=true then((at? a1.f1 x2089)>>=fun b2094=>((if(decide (x2089>(0:Int)))=true then((Zg.f x2087 x2088 (u64.wrap (i64.wrap (b2094.f0-(1:Int)))))>>=fun t2100=>some (t2100.1,t2100.2)) else(some (x2087,x2088))):Option ((List Int)×Int))>>=fun oo=>match oo with | (x2102,x2103)=>((Zg.f x2102 x2103 (u64.wrap (i64.wrap (b2094.f1-(1:Int)))))>>=fun t2106=>Z1m.l0 a1 t2106.1 t2106.2 (i64.wrap (x2089+(1:Int))))) else(some (x2087,x2088))
partial_fixpoint
def Z1m.f (a0_c0:List Int) (a0_c1:Int) (a1:Zc):Option ((List Int)×Int):=(Zg.f a0_c0 a0_c1 (u64.wrap ((a1.f1.length:Int))))>>=fun t2069=>if((a1.f1.length:Int)==(0:Int))=true then(some (t2069.1,t2069.2)) else((Zy.f t2069.1 t2069.2 a1.f0)>>=fun t2074=>(Z1m.l0 a1 t2074.1 t2074.2 0)>>=fun oo=>match oo with | (x2108,x2109)=>(some (x2108,x2109)))
theorem Z1m.ok (a0_c0:List Int) (a0_c1:Int) (a1:Zc) (r:(List Int)×Int) (H:Z1m.f a0_c0 a0_c1 a1=some r):Pv.Fn Tryz.prog 23 [.ptr 0 0 0,.agg (Zb a1)] [(0,some (.box 50 [.own 1,iV .u64 a0_c1])),(1,some (.row 1 5 (a0_c0.map (Z1 .u8))))] 2 (fun x o=>x = .tup []∧o=[(0,some (.box 50 [.own 2,iV .u64 r.2])),(1,none),(2,some (.row 1 5 (r.1.map (Z1 .u8))))]):=by
 unfold Z1m.f at H
 refine Fn.bodyK [0,1,2] Tryz.func23 rfl rfl (fun Γ hP hn => ?_)
 have hm:Tryz.prog.follows .mixedOrders=true:=by kernel_rfl
 replace hn:Γ.n=43:=hn
 refine sO hP hn hm [(0,.k 2)] [(3,.ptr 2 0 0)] [0,3] [(2,some (.box 53 (Zb a1)))] [0,1,2] ?_
 obtain⟨t2069,e2070,H⟩:=Z3 H
 refine sR hP hn hm [(3,.any (iV .i64 (a1.f1.length:Int))),(5,.call [(0,0),(1,1)] [(0,0),(2,3)] [] [3] 2 (.tup []) [(0,some (.box 50 [.own 2,iV .u64 t2069.2])),(1,none),(2,some (.row 1 5 (t2069.1.map (Z1 .u8))))])] [] [0,3] [(0,some (.box 50 [.own 3,iV .u64 t2069.2])),(3,some (.row 1 5 (t2069.1.map (Z1 .u8))))] [0,2,3] [((a1.f1.map Z02).length:Int)=(a1.f1.length:Int),_,_] ⟨by rw[Zi],Tryz.call24,Zg.ok a0_c0 a0_c1 (u64.wrap ((a1.f1.length:Int))) t2069 e2070,trivial⟩ ?_
 refine AWp.seq ?_
 refine sR hP hn hm [(2,.any (iV .i64 (a1.f1.length:Int)))] [(15,bV ((a1.f1.length:Int)==(0:Int)))] [0,3,15] [] [0,2,3] [((a1.f1.map Z02).length:Int)=(a1.f1.length:Int)] ⟨by rw[Zi],trivial⟩ ?_
 refine AWp.cond ((a1.f1.length:Int)==(0:Int)) (by kernel_rfl) (fun c2071 => ?_) (fun c2071 => ?_)
 ·replace H:=iT c2071 H
  refine AWp.conv (inv:=[(0,0),(3,2)]) (vk:=[]) (e0:=[]) (t:=⟨[],[(0,some (.box 50 [.own 2,iV .u64 t2069.2])),(2,some (.row 1 5 (t2069.1.map (Z1 .u8))))],2⟩) (by kernel_rfl) ?_
  refine AWp.ret ?_
  obtain rfl:=sj H
  exact rl (.inl rfl) rfl (by kernel_rfl) (by kernel_rfl)
 ·replace H:=iF c2071 H
  refine AWp.skip ?_
  obtain⟨t2074,e2075,H⟩:=Z3 H
  refine sR hP hn hm [(3,.call [(0,0),(3,1)] [(0,0),(2,4)] [] [4] 2 (.tup []) [(0,some (.box 50 [.own 2,iV .u64 t2074.2])),(1,none),(2,some (.row 1 5 (t2074.1.map (Z1 .u8))))])] [] [0,3] [(0,some (.box 50 [.own 4,iV .u64 t2074.2])),(4,some (.row 1 5 (t2074.1.map (Z1 .u8))))] [0,2,4] [_,_] ⟨Tryz.call22,Zy.ok t2069.1 t2069.2 a1.f0 t2074 e2075,trivial⟩ ?_
  refine sR hP hn hm [(2,.any (iV .i64 (a1.f1.length:Int)))] [(21,.im (.row (a1.f1.map Z02))),(22,iV .i64 (a1.f1.length:Int)),(23,iV .i64 0)] [0,21,22,23] [] [0,4] [((a1.f1.map Z02).length:Int)=(a1.f1.length:Int)] ⟨by rw[Zi],trivial⟩ ?_
  refine AWp.block ?_
  obtain⟨o2110,e2111,H⟩:=Z3 H
  refine AWp.loop (LWp.conv (inv:=[(0,0),(4,7)]) (vk:=[]) (e0:=[]) (t:=⟨[(0,.ptr 0 0 0),(21,.im (.row (a1.f1.map Z02))),(22,iV .i64 (a1.f1.length:Int)),(23,iV .i64 0)],[(0,some (.box 50 [.own 7,iV .u64 t2074.2])),(7,some (.row 1 5 (t2074.1.map (Z1 .u8))))],2⟩) (by kernel_rfl) ?_)
  refine LWp.mono (Q:=fun e s=>(match (generalizing:=false) o2110 with | (x2108,x2109)=>e = .exit 0∧s=⟨[],[(0,some (.box 50 [.own 13,iV .u64 x2109])),(13,some (.row 1 5 (x2108.map (Z1 .u8))))],2⟩)) (LWp.cv (Zn (fun body hbody => ?_))) ?_
  ·refine            Z1m.l0.partial_correctness a1 (motive:=fun x2087 x2088 x2089 o2110=>LWp Γ body (fun e s=>∃ t,Cv Γ s t∧(match (generalizing:=false) o2110 with | (x2108,x2109)=>e = .exit 0∧t=⟨[],[(0,some (.box 50 [.own 13,iV .u64 x2109])),(13,some (.row 1 5 (x2108.map (Z1     .u8))))],2⟩)) ⟨[(0,.ptr 0 0 0),(21,.im (.row (a1.f1.map Z02  ))),(22,iV .i64 (a1.f1.length:Int)),(23,iV .i64 x2089)],[(0,some (.box 50 [.own 7,iV .u64 x2088])),(7,some (.row 1 5 (x2087.map (Z1     .u8))))],2⟩) ?_ _ _ _ _ e2111
   clear H e2111 o2110;intro self ih x2087 x2088 x2089 o2110 H
   subst hbody
   refine LWp.round ?_
   refine sO hP hn hm [] [(24,bV (decide (x2089<(a1.f1.length:Int))))] [0,21,22,23,24] [] [0,7] ?_
   refine AWp.seq ?_
   refine AWp.cond (decide (x2089<(a1.f1.length:Int))) (by kernel_rfl) (fun c2090 => ?_) (fun c2090 => ?_)
   ·replace H:=iT c2090 H
    refine AWp.skip ?_
    refine AWp.seq ?_
    refine AWp.block ?_
    obtain⟨b2094,p2095,q2096,H⟩:=Z03 H
    refine sR hP hn hm [(1,.c (Z02 b2094)),(3,.k 8)] [(4,iV .i64 x2089),(5,.ptr 8 0 0)] [0,4,5,21,22,23] [(8,some (.box 99 (aSpan b2094)))] [0,7,8] [_,_] ⟨p2095,Zf Z02 q2096,trivial⟩ ?_
    refine AWp.seq ?_
    refine sO hP hn hm [] [(29,bV (decide (x2089>(0:Int))))] [0,5,21,22,23,29] [] [0,7,8] ?_
    obtain⟨o2112,e2113,H⟩:=Z3 H
    refine AWp.mono (Q:=fun e s=>(match (generalizing:=false) o2112 with | (x2102,x2103)=>e = .normal∧s=⟨[(0,.ptr 0 0 0),(5,.ptr 11 0 0),(21,.im (.row (a1.f1.map Z02))),(22,iV .i64 (a1.f1.length:Int)),(23,iV .i64 x2089)],[(0,some (.box 50 [.own 10,iV .u64 x2103])),(10,some (.row 1 5 (x2102.map (Z1 .u8)))),(11,some (.box 99 (aSpan b2094)))],2⟩)) (AWp.cv ?_) ?_
    ·replace H:=e2113;clear e2113
     refine AWp.cond (decide (x2089>(0:Int))) (by kernel_rfl) (fun c2097 => ?_) (fun c2097 => ?_)
     ·replace H:=iT c2097 H
      obtain⟨t2100,e2101,H⟩:=Z3 H
      refine rG hP hn hm [(5,.call [(0,0),(7,1)] [(0,0),(2,9)] [] [9] 2 (.tup []) [(0,some (.box 50 [.own 2,iV .u64 t2100.2])),(1,none),(2,some (.row 1 5 (t2100.1.map (Z1 .u8))))])] [] [0,5,21,22,23] [(0,some (.box 50 [.own 9,iV .u64 t2100.2])),(9,some (.row 1 5 (t2100.1.map (Z1 .u8))))] [0,8,9] [_,_] ⟨Tryz.call24,Zg.ok x2087 x2088 (u64.wrap (i64.wrap (b2094.f0-(1:Int)))) t2100 e2101,trivial⟩ ?_
      obtain rfl:=sj H
      exact lf [(0,0),(9,10),(8,11)] [] [] (by kernel_rfl) ⟨rfl,rfl⟩
     ·replace H:=iF c2097 H
      refine AWp.skip ?_
      obtain rfl:=sj H
      exact lf [(0,0),(7,10),(8,11)] [] [] (by kernel_rfl) ⟨rfl,rfl⟩
    ·obtain⟨x2102,x2103⟩:=o2112
     rintro e s ⟨rfl,rfl⟩
     obtain⟨t2106,e2107,H⟩:=Z3 H
     refine rG hP hn hm [(5,.call [(0,0),(10,1)] [(0,0),(2,12)] [] [12] 2 (.tup []) [(0,some (.box 50 [.own 2,iV .u64 t2106.2])),(1,none),(2,some (.row 1 5 (t2106.1.map (Z1 .u8))))])] [] [0,21,22,23] [(0,some (.box 50 [.own 12,iV .u64 t2106.2])),(12,some (.row 1 5 (t2106.1.map (Z1 .u8))))] [0,12] [_,_] ⟨Tryz.call24,Zg.ok x2102 x2103 (u64.wrap (i64.wrap (b2094.f1-(1:Int)))) t2106 e2107,trivial⟩ ?_
     refine rO hP hn hm [] [(23,iV .i64 (i64.wrap (x2089+(1:Int))))] [0,21,22,23] [] [0,12] ?_
     exact LWp.conv [(0,0),(12,7)] [] [] (by kernel_rfl) (ih _ _ _ _ H)
   ·replace H:=iF c2090 H
    refine AWp.exit ?_
    obtain rfl:=sj H
    exact lf [(0,0),(7,13)] [] [] (by kernel_rfl) ⟨rfl,rfl⟩
  ·obtain⟨x2108,x2109⟩:=o2110
   rintro e s ⟨rfl,rfl⟩
   obtain rfl:=sj H
   exact Exists.intro ⟨[],[(0,some (.box 50 [.own 2,iV .u64 x2109])),(2,some (.row 1 5 (x2108.map (Z1 .u8))))],2⟩ (And.intro (fun _ _ h=>h.conv (inv:=[(0,0),(13,2)]) (vk:=[]) (e0:=[]) (t:=⟨[],[(0,some (.box 50 [.own 2,iV .u64 x2109])),(2,some (.row 1 5 (x2108.map (Z1 .u8))))],2⟩) (by kernel_rfl)) (And.intro (.inr rfl) (And.intro rfl (And.intro (by kernel_rfl) (by kernel_rfl)))))
def Z11.l1 (b2202:Int) (t2139:List Int) (x2196:List Int) (x2197:Int) (x2217:List Z2):Option (List Z2):=((if(decide ((x2217.length:Int)>(0:Int)))=true then((at? x2217 0)>>=fun b2223=>some (decide (b2223.f0<b2202))) else(some false)):Option (Bool))>>=fun x2226=>if x2226=true then((chk (0≤(1:Int)∧(1:Int)≤(x2217.length:Int)∧(x2217.length:Int)≤(x2217.length:Int)))>>=fun _=>Z11.l1 b2202 t2139 x2196 x2197 ((x2217.drop (Int.toNat ((1:Int)))).take ((Int.toNat ((x2217.length:Int)))-(Int.toNat ((1:Int)))))) else(some x2217)
partial_fixpoint
def Z11.l0 (t2139:List Int) (x2195:List Z2) (x2196:List Int) (x2197:Int):Option (List Int):=if(decide (x2197<(t2139.length:Int)))=true then((at? t2139 x2197)>>=fun b2202=>(Z11.l1 b2202 t2139 x2196 x2197 x2195)>>=fun x2230=>((if(decide ((x2230.length:Int)>(0:Int)))=true then((at? x2230 0)>>=fun b2236=>some (b2236.f0==b2202)) else(some false)):Option (Bool))>>=fun x2239=>((if x2239=true then((at? x2230 0)>>=fun b2245=>(chk ((x2196.length+[b2245.f1].length)*8≤140737488355328))>>=fun _=>some (x2196++[b2245.f1])) else((chk ((x2196.length+[0].length)*8≤140737488355328))>>=fun _=>some (x2196++[0]))):Option (List Int))>>=fun x2251=>Z11.l0 t2139 x2230 x2251 (i64.wrap (x2197+(1:Int)))) else(some x2196)
partial_fixpoint
def Z11.f (a0:Zc) (a1:List Z2):Option (List Int):=(Zk.f a0)>>=fun t2139=>(Z11.l0 t2139 a1 [] 0)>>=fun x2252=>some x2252
theorem Z11.ok (a0:Zc) (a1:List Z2) (r:List Int) (H:Z11.f a0 a1=some r):Pv.Fn Tryz.prog 60 [.agg (Zb a0),.im (.row (a1.map Z0))] [] 0 (fun x o=>x = .own 0∧o=[(0,some (.row 1 36 (r.map (Z1 .u64))))]):=by
 unfold Z11.f at H
 refine Fn.bodyK [0] Tryz.func60 rfl rfl (fun Γ hP hn => ?_)
 have hm:Tryz.prog.follows .mixedOrders=true:=by kernel_rfl
 replace hn:Γ.n=51:=hn
 refine sO hP hn hm [(0,.k 0)] [(2,.ptr 0 0 0)] [1,2] [(0,some (.box 53 (Zb a0)))] [0] ?_
 refine sO hP hn hm [] [(5,.none0)] [1,2,5] [] [0] ?_
 refine AWp.seq ?_
 obtain⟨t2139,e2140,H⟩:=Z3 H
 refine sR hP hn hm [(1,.call [] [(0,1)] [] [1] 0 (.own 0) [(0,some (.row 1 3 (t2139.map (Z1 .i64))))]),(2,.any (iV .i64 (t2139.length:Int)))] [(9,.own 1),(10,iV .i64 (t2139.length:Int)),(11,iV .i64 0)] [1,5,9,10,11] [(1,some (.row 1 3 (t2139.map (Z1 .i64))))] [1] [_,_,((t2139.map (Z1 .i64)).length:Int)=(t2139.length:Int)] ⟨Tryz.call53,Zk.ok a0 t2139 e2140,by rw[Zi],trivial⟩ ?_
 refine AWp.block ?_
 obtain⟨o2253,e2254,H⟩:=Z3 H
 refine AWp.loop (LWp.conv (inv:=[(1,14)]) (vk:=[]) (e0:=[13]) (t:=⟨[(1,.im (.row (a1.map Z0))),(5,.own 13),(9,.own 14),(10,iV .i64 (t2139.length:Int)),(11,iV .i64 0)],[(13,some (.row 1 36 ([].map (Z1 .u64)))),(14,some (.row 1 3 (t2139.map (Z1 .i64))))],0⟩) (by kernel_rfl) ?_)
 refine LWp.mono (Q:=fun e s=>(match (generalizing:=false) o2253 with | x2252=>e = .exit 0∧s=⟨[(5,.own 31)],[(31,some (.row 1 36 (x2252.map (Z1 .u64))))],0⟩)) (LWp.cv (Zn (fun body hbody => ?_))) ?_
 ·refine           Z11.l0.partial_correctness t2139 (motive:=fun x2195 x2196 x2197 o2253=>LWp Γ body (fun e s=>∃ t,Cv Γ s t∧(match (generalizing:=false) o2253 with | x2252=>e = .exit 0∧t=⟨[(5,.own 31)],[(31,some (.row 1 36 (x2252.map (Z1     .u64))))],0⟩)) ⟨[(1,.im (.row (x2195.map Z0     ))),(5,.own 13),(9,.own 14),(10,iV .i64 (t2139.length:Int)),(11,iV .i64 x2197)],[(13,some (.row 1 36 (x2196.map (Z1     .u64)))),(14,some (.row 1 3 (t2139.map (Z1     .i64))))],0⟩) ?_ _ _ _ _ e2254
  clear H e2254 o2253;intro self ih x2195 x2196 x2197 o2253 H
  subst hbody
  refine LWp.round ?_
  refine sO hP hn hm [] [(12,bV (decide (x2197<(t2139.length:Int))))] [1,5,9,10,11,12] [] [13,14] ?_
  refine AWp.seq ?_
  refine AWp.cond (decide (x2197<(t2139.length:Int))) (by kernel_rfl) (fun c2198 => ?_) (fun c2198 => ?_)
  ·replace H:=iT c2198 H
   refine AWp.skip ?_
   refine AWp.seq ?_
   refine AWp.block ?_
   obtain⟨b2202,p2203,q2204,H⟩:=Z03 H
   refine sR hP hn hm [(1,.c ((Z1 .i64) b2202))] [(7,iV .i64 b2202)] [1,5,7,9,10,11] [] [13,14] [_,_,_] ⟨p2203,Z1u (Z1 .i64) p2203 q2204,Zf (Z1 .i64) q2204,trivial⟩ ?_
   refine AWp.seq ?_
   refine AWp.block ?_
   obtain⟨o2255,e2256,H⟩:=Z3 H
   refine AWp.loop (LWp.conv (inv:=[(13,17),(14,18)]) (vk:=[]) (e0:=[]) (t:=⟨[(1,.im (.row (x2195.map Z0))),(5,.own 17),(7,iV .i64 b2202),(9,.own 18),(10,iV .i64 (t2139.length:Int)),(11,iV .i64 x2197)],[(17,some (.row 1 36 (x2196.map (Z1 .u64)))),(18,some (.row 1 3 (t2139.map (Z1 .i64))))],0⟩) (by kernel_rfl) ?_)
   refine LWp.mono (Q:=fun e s=>(match (generalizing:=false) o2255 with | x2230=>e = .exit 2∧s=⟨[(1,.im (.row (x2230.map Z0))),(5,.own 21),(7,iV .i64 b2202),(9,.own 22),(10,iV .i64 (t2139.length:Int)),(11,iV .i64 x2197)],[(21,some (.row 1 36 (x2196.map (Z1 .u64)))),(22,some (.row 1 3 (t2139.map (Z1 .i64))))],0⟩)) (LWp.cv (Zn (fun body hbody => ?_))) ?_
   ·refine           Z11.l1.partial_correctness b2202 t2139 x2196 x2197 (motive:=fun x2217 o2255=>LWp Γ body (fun e s=>∃ t,Cv Γ s t∧(match (generalizing:=false) o2255 with | x2230=>e = .exit 2∧t=⟨[(1,.im (.row (x2230.map Z0     ))),(5,.own 21),(7,iV .i64 b2202),(9,.own 22),(10,iV .i64 (t2139.length:Int)),(11,iV .i64 x2197)],[(21,some (.row 1 36 (x2196.map (Z1     .u64)))),(22,some (.row 1 3 (t2139.map (Z1     .i64))))],0⟩)) ⟨[(1,.im (.row (x2217.map Z0     ))),(5,.own 17),(7,iV .i64 b2202),(9,.own 18),(10,iV .i64 (t2139.length:Int)),(11,iV .i64 x2197)],[(17,some (.row 1 36 (x2196.map (Z1     .u64)))),(18,some (.row 1 3 (t2139.map (Z1     .i64))))],0⟩) ?_ _ _ e2256
    clear H e2256 o2255;intro self ih x2217 o2255 H
    subst hbody
    refine LWp.round ?_
    refine AWp.seq ?_
    refine AWp.seq ?_
    obtain⟨o2257,e2258,H⟩:=Z3 H
    refine AWp.mono (Q:=fun e s=>(match (generalizing:=false) o2257 with | x2226=>e = .normal∧s=⟨[(1,.im (.row (x2217.map Z0))),(5,.own 19),(7,iV .i64 b2202),(9,.own 20),(10,iV .i64 (t2139.length:Int)),(11,iV .i64 x2197),(25,bV x2226)],[(19,some (.row 1 36 (x2196.map (Z1 .u64)))),(20,some (.row 1 3 (t2139.map (Z1 .i64))))],0⟩)) (AWp.cv ?_) ?_
    ·replace H:=e2258;clear e2258
     rcases Bool.eq_false_or_eq_true (decide ((x2217.length:Int)>(0:Int))) with c2222 | c2222
     ·replace H:=iT c2222 H
      obtain⟨b2223,p2224,q2225,H⟩:=Z03 H
      refine rG hP hn hm [(1,.any (iV .i64 (x2217.length:Int))),(3,.b true),(5,.c (Z0 b2223))] [(19,.im (.row (x2217.map Z0))),(20,.ip [iI .i64 b2223.f0,iI .u64 b2223.f1]),(21,.ip [iI .i64 b2223.f0,iI .u64 b2223.f1]),(22,iV .i64 b2223.f0),(23,iV .i64 b2202),(24,bV (decide (b2223.f0<b2202))),(25,bV (decide (b2223.f0<b2202)))] [1,5,7,9,10,11,19,20,21,22,23,24,25] [] [17,18] [((x2217.map Z0).length:Int)=(x2217.length:Int),_,_,_] ⟨by rw[Zi],c2222,p2224,Zf Z0 q2225,trivial⟩ ?_
      obtain rfl:=sj H
      exact lf [(17,19),(18,20)] [] [] (by kernel_rfl) ⟨rfl,rfl⟩
     ·replace H:=iF c2222 H
      refine rG hP hn hm [(1,.any (iV .i64 (x2217.length:Int))),(3,.b false)] [(25,bV false)] [1,5,7,9,10,11,25] [] [17,18] [((x2217.map Z0).length:Int)=(x2217.length:Int),_] ⟨by rw[Zi],c2222,trivial⟩ ?_
      obtain rfl:=sj H
      exact lf [(17,19),(18,20)] [] [] (by kernel_rfl) ⟨rfl,rfl⟩
    ·obtain⟨x2226,rfl⟩:∃ z,z=o2257:=⟨_,rfl⟩
     rintro e s ⟨rfl,rfl⟩
     refine AWp.cond x2226 (by kernel_rfl) (fun c2227 => ?_) (fun c2227 => ?_)
     ·replace H:=iT c2227 H
      refine AWp.skip ?_
      refine AWp.block ?_
      obtain⟨c2229,H⟩:=Z0q H
      refine rG hP hn hm [(1,.rows (((x2217.drop (Int.toNat ((1:Int)))).take ((Int.toNat ((x2217.length:Int)))-(Int.toNat ((1:Int))))).map Z0))] [(1,.im (.row (((x2217.drop (Int.toNat ((1:Int)))).take ((Int.toNat ((x2217.length:Int)))-(Int.toNat ((1:Int))))).map Z0)))] [1,5,7,9,10,11] [] [19,20] [0≤(1:Int),(1:Int)≤((x2217.map Z0).length:Int),((x2217.map Z0).length:Int)≤((x2217.map Z0).length:Int),∀ c∈x2217.map Z0,c.length=2,((x2217.drop (Int.toNat ((1:Int)))).take ((Int.toNat ((x2217.length:Int)))-(Int.toNat ((1:Int))))).map Z0=((x2217.map Z0).drop (Int.toNat ((1:Int)))).take ((Int.toNat (((x2217.map Z0).length:Int)))-(Int.toNat ((1:Int))))] ⟨by exact c2229.1,by simpa using c2229.2.1,by simpa using c2229.2.2,by exact Z0k _ _ _ (fun _=>rfl),by simp[cut1],trivial⟩ ?_
      exact LWp.conv [(19,17),(20,18)] [] [] (by kernel_rfl) (ih _ _ H)
     ·replace H:=iF c2227 H
      refine AWp.exit ?_
      obtain rfl:=sj H
      exact lf [(19,21),(20,22)] [] [] (by kernel_rfl) ⟨rfl,rfl⟩
   ·obtain⟨x2230,rfl⟩:∃ z,z=o2255:=⟨_,rfl⟩
    rintro e s ⟨rfl,rfl⟩
    refine AWp.seq ?_
    obtain⟨o2259,e2260,H⟩:=Z3 H
    refine AWp.mono (Q:=fun e s=>(match (generalizing:=false) o2259 with | x2239=>e = .normal∧s=⟨[(1,.im (.row (x2230.map Z0))),(5,.own 23),(9,.own 24),(10,iV .i64 (t2139.length:Int)),(11,iV .i64 x2197),(38,bV x2239)],[(23,some (.row 1 36 (x2196.map (Z1 .u64)))),(24,some (.row 1 3 (t2139.map (Z1 .i64))))],0⟩)) (AWp.cv ?_) ?_
    ·replace H:=e2260;clear e2260
     rcases Bool.eq_false_or_eq_true (decide ((x2230.length:Int)>(0:Int))) with c2235 | c2235
     ·replace H:=iT c2235 H
      obtain⟨b2236,p2237,q2238,H⟩:=Z03 H
      refine rG hP hn hm [(1,.any (iV .i64 (x2230.length:Int))),(3,.b true),(5,.c (Z0 b2236))] [(32,.im (.row (x2230.map Z0))),(33,.ip [iI .i64 b2236.f0,iI .u64 b2236.f1]),(34,.ip [iI .i64 b2236.f0,iI .u64 b2236.f1]),(35,iV .i64 b2236.f0),(36,iV .i64 b2202),(37,bV (b2236.f0==b2202)),(38,bV (b2236.f0==b2202))] [1,5,9,10,11,32,33,34,35,36,37,38] [] [21,22] [((x2230.map Z0).length:Int)=(x2230.length:Int),_,_,_] ⟨by rw[Zi],c2235,p2237,Zf Z0 q2238,trivial⟩ ?_
      obtain rfl:=sj H
      exact lf [(21,23),(22,24)] [] [] (by kernel_rfl) ⟨rfl,rfl⟩
     ·replace H:=iF c2235 H
      refine rG hP hn hm [(1,.any (iV .i64 (x2230.length:Int))),(3,.b false)] [(38,bV false)] [1,5,9,10,11,38] [] [21,22] [((x2230.map Z0).length:Int)=(x2230.length:Int),_] ⟨by rw[Zi],c2235,trivial⟩ ?_
      obtain rfl:=sj H
      exact lf [(21,23),(22,24)] [] [] (by kernel_rfl) ⟨rfl,rfl⟩
    ·obtain⟨x2239,rfl⟩:∃ z,z=o2259:=⟨_,rfl⟩
     rintro e s ⟨rfl,rfl⟩
     obtain⟨o2261,e2262,H⟩:=Z3 H
     refine AWp.mono (Q:=fun e s=>(match (generalizing:=false) o2261 with | x2251=>e = .normal∧s=⟨[(1,.im (.row (x2230.map Z0))),(5,.own 29),(9,.own 30),(10,iV .i64 (t2139.length:Int)),(11,iV .i64 x2197)],[(29,some (.row 1 36 (x2251.map (Z1 .u64)))),(30,some (.row 1 3 (t2139.map (Z1 .i64))))],0⟩)) (AWp.cv ?_) ?_
     ·replace H:=e2262;clear e2262
      refine AWp.cond x2239 (by kernel_rfl) (fun c2240 => ?_) (fun c2240 => ?_)
      ·replace H:=iT c2240 H
       obtain⟨b2245,p2246,q2247,H⟩:=Z03 H
       obtain⟨c2248,H⟩:=Z0q H
       refine rG hP hn hm [(2,.c (Z0 b2245)),(5,.app 25 ([b2245.f1].map (Z1 .u64))),(6,.app 26 ((x2196++[b2245.f1]).map (Z1 .u64)))] [(5,.own 26)] [1,5,9,10,11] [(26,some (.row 1 36 ((x2196++[b2245.f1]).map (Z1 .u64))))] [24,26] [_,_,[b2245.f1].map (Z1 .u64)=[[iI .u64 b2245.f1]],(x2196++[b2245.f1]).map (Z1 .u64)=(x2196.map (Z1 .u64))++([b2245.f1].map (Z1 .u64)),∀ c∈([b2245.f1].map (Z1 .u64)),c.length=1,∀ c∈([b2245.f1].map (Z1 .u64)),Z0m (c.map .im)=true,((x2196.map (Z1 .u64)).length+([b2245.f1].map (Z1 .u64)).length)*8≤140737488355328] ⟨p2246,Zf Z0 q2247,by exact rfl,by simp,by exact Z0k _ _ _ (fun _=>rfl),by exact Z0j _ _ (fun _=>rfl),by simpa using c2248,trivial⟩ ?_
       obtain rfl:=sj H
       exact lf [(26,29),(24,30)] [] [] (by kernel_rfl) ⟨rfl,rfl⟩
      ·replace H:=iF c2240 H
       obtain⟨c2250,H⟩:=Z0q H
       refine rG hP hn hm [(1,.app 27 ([0].map (Z1 .u64))),(2,.app 28 ((x2196++[0]).map (Z1 .u64)))] [(5,.own 28)] [1,5,9,10,11] [(28,some (.row 1 36 ((x2196++[0]).map (Z1 .u64))))] [24,28] [[0].map (Z1 .u64)=[[iI .u64 0]],(x2196++[0]).map (Z1 .u64)=(x2196.map (Z1 .u64))++([0].map (Z1 .u64)),∀ c∈([0].map (Z1 .u64)),c.length=1,∀ c∈([0].map (Z1 .u64)),Z0m (c.map .im)=true,((x2196.map (Z1 .u64)).length+([0].map (Z1 .u64)).length)*8≤140737488355328] ⟨by exact rfl,by simp,by exact Z0k _ _ _ (fun _=>rfl),by exact Z0j _ _ (fun _=>rfl),by simpa using c2250,trivial⟩ ?_
       obtain rfl:=sj H
       exact lf [(28,29),(24,30)] [] [] (by kernel_rfl) ⟨rfl,rfl⟩
     ·obtain⟨x2251,rfl⟩:∃ z,z=o2261:=⟨_,rfl⟩
      rintro e s ⟨rfl,rfl⟩
      refine rO hP hn hm [] [(11,iV .i64 (i64.wrap (x2197+(1:Int))))] [1,5,9,10,11] [] [29,30] ?_
      exact LWp.conv [(29,13),(30,14)] [] [] (by kernel_rfl) (ih _ _ _ _ H)
  ·replace H:=iF c2198 H
   refine AWp.exit ?_
   obtain rfl:=sj H
   exact lf [(13,31)] [] [] (by kernel_rfl) ⟨rfl,rfl⟩
 ·obtain⟨x2252,rfl⟩:∃ z,z=o2253:=⟨_,rfl⟩
  rintro e s ⟨rfl,rfl⟩
  refine sO hP hn hm [] [(4,.own 31)] [4] [] [31] ?_
  refine AWp.conv (inv:=[(31,0)]) (vk:=[]) (e0:=[]) (t:=⟨[(4,.own 0)],[(0,some (.row 1 36 (x2252.map (Z1 .u64))))],0⟩) (by kernel_rfl) ?_
  refine AWp.ret ?_
  obtain rfl:=sj H
  exact rl (.inl rfl) rfl (by kernel_rfl) (by kernel_rfl)
def Z46.f (a0:Ze) (a1:Zc) (a2:Zc):Option (List Int):=(Z11.f a1 a0.f6)>>=fun t2266=>(chk (([a0.f3,u64.wrap (a0.f5)].length+t2266.length)*8≤140737488355328))>>=fun _=>(Z11.f a2 a0.f7)>>=fun t2272=>(chk ((([a0.f3,u64.wrap (a0.f5)]++t2266).length+t2272.length)*8≤140737488355328))>>=fun _=>some (([a0.f3,u64.wrap (a0.f5)]++t2266)++t2272)
theorem Z46.ok (a0:Ze) (a1:Zc) (a2:Zc) (r:List Int) (H:Z46.f a0 a1 a2=some r):Pv.Fn Tryz.prog 25 [.agg (Zh a0),.agg (Zb a1),.agg (Zb a2)] [] 0 (fun x o=>x = .own 0∧o=[(0,some (.row 1 36 (r.map (Z1 .u64))))]):=by
 unfold Z46.f at H
 refine Fn.bodyK [0] Tryz.func25 rfl rfl (fun Γ hP hn => ?_)
 have hm:Tryz.prog.follows .mixedOrders=true:=by kernel_rfl
 replace hn:Γ.n=26:=hn
 refine sO hP hn hm [(0,.k 0),(1,.k 1),(2,.k 2)] [(3,.ptr 0 0 0),(4,.ptr 1 0 0),(5,.ptr 2 0 0)] [3,4,5] [(0,some (.box 39 (Zh a0))),(1,some (.box 53 (Zb a1))),(2,some (.box 53 (Zb a2)))] [0,1,2] ?_
 refine sR hP hn hm [(5,.app 3 ([a0.f3,u64.wrap (a0.f5)].map (Z1 .u64)))] [(7,.own 3)] [3,4,5,7] [(3,some (.row 1 36 ([a0.f3,u64.wrap (a0.f5)].map (Z1 .u64))))] [0,1,2,3] [[a0.f3,u64.wrap (a0.f5)].map (Z1 .u64)=[[iI .u64 a0.f3],[iI .u64 (u64.wrap (a0.f5))]]] ⟨by exact rfl,trivial⟩ ?_
 obtain⟨t2266,e2267,H⟩:=Z3 H
 obtain⟨c2268,H⟩:=Z0q H
 refine sR hP hn hm [(4,.call [] [(0,4)] [] [4] 0 (.own 0) [(0,some (.row 1 36 (t2266.map (Z1 .u64))))]),(5,.app 5 (([a0.f3,u64.wrap (a0.f5)]++t2266).map (Z1 .u64)))] [(7,.own 5)] [3,5,7] [(5,some (.row 1 36 (([a0.f3,u64.wrap (a0.f5)]++t2266).map (Z1 .u64))))] [0,2,5] [_,_,([a0.f3,u64.wrap (a0.f5)]++t2266).map (Z1 .u64)=([a0.f3,u64.wrap (a0.f5)].map (Z1 .u64))++(t2266.map (Z1 .u64)),∀ c∈(t2266.map (Z1 .u64)),c.length=1,∀ c∈(t2266.map (Z1 .u64)),Z0m (c.map .im)=true,(([a0.f3,u64.wrap (a0.f5)].map (Z1 .u64)).length+(t2266.map (Z1 .u64)).length)*8≤140737488355328] ⟨Tryz.call60,Z11.ok a1 a0.f6 t2266 e2267,by simp,by exact Z0k _ _ _ (fun _=>rfl),by exact Z0j _ _ (fun _=>rfl),by simpa using c2268,trivial⟩ ?_
 obtain⟨t2272,e2273,H⟩:=Z3 H
 obtain⟨c2274,H⟩:=Z0q H
 refine sR hP hn hm [(4,.call [] [(0,6)] [] [6] 0 (.own 0) [(0,some (.row 1 36 (t2272.map (Z1 .u64))))]),(5,.app 7 ((([a0.f3,u64.wrap (a0.f5)]++t2266)++t2272).map (Z1 .u64)))] [(6,.own 7)] [6] [(7,some (.row 1 36 ((([a0.f3,u64.wrap (a0.f5)]++t2266)++t2272).map (Z1 .u64))))] [7] [_,_,(([a0.f3,u64.wrap (a0.f5)]++t2266)++t2272).map (Z1 .u64)=(([a0.f3,u64.wrap (a0.f5)]++t2266).map (Z1 .u64))++(t2272.map (Z1 .u64)),∀ c∈(t2272.map (Z1 .u64)),c.length=1,∀ c∈(t2272.map (Z1 .u64)),Z0m (c.map .im)=true,((([a0.f3,u64.wrap (a0.f5)]++t2266).map (Z1 .u64)).length+(t2272.map (Z1 .u64)).length)*8≤140737488355328] ⟨Tryz.call60,Z11.ok a2 a0.f7 t2272 e2273,by simp,by exact Z0k _ _ _ (fun _=>rfl),by exact Z0j _ _ (fun _=>rfl),by simpa using c2274,trivial⟩ ?_
 refine AWp.conv (inv:=[(7,0)]) (vk:=[]) (e0:=[]) (t:=⟨[(6,.own 0)],[(0,some (.row 1 36 ((([a0.f3,u64.wrap (a0.f5)]++t2266)++t2272).map (Z1 .u64))))],0⟩) (by kernel_rfl) ?_
 refine AWp.ret ?_
 obtain rfl:=sj H
 exact rl (.inl rfl) rfl (by kernel_rfl) (by kernel_rfl)
def Z2k.f (a0:List Int):Option (List Int):=(chk ((([]:List Int).length+a0.length)*1≤140737488355328))>>=fun _=>some a0
theorem Z2k.ok (a0 r:List Int) (H:Z2k.f a0=some r):Pv.Fn Tryz.prog 61 [.im (.row (a0.map (Z1 .u8)))] [] 0 (fun x o=>x = .own 0∧o=[(0,some (.row 1 5 (r.map (Z1 .u8))))]):=by
 unfold Z2k.f at H
 obtain⟨c1,H⟩:=Z0q H
 obtain rfl:=sj H
 refine Fn.bodyK [0] Tryz.func61 rfl rfl (fun Γ hP hn => ?_)
 have hm:Tryz.prog.follows .mixedOrders=true:=by kernel_rfl
 replace hn:Γ.n=8:=hn
 refine AWp.seq ?_
 refine reg hP hn hm [] [0,2] [] ⟨[(0,.im (.row (a0.map (Z1 .u8)))),(2,.none0)],[],0⟩ [] (by kernel_rfl) trivial ?_
 refine AWp.seq ?_
 cases a0 with
 | nil =>
  refine AWp.nilSplit 0 rfl (fun b m => ?_)
  refine AWp.seq ?_
  cases b with
  | none =>
   refine reg hP hn hm [(1,.more xNil)] [2,4] [] ⟨[(2,.none0),(4,bV true)],[],0⟩ [] (by kernel_rfl) trivial ?_
   refine AWp.cond true rfl (fun _ => ?_) (fun h=>nomatch h)
   refine AWp.seq ?_
   refine reg hP hn hm [] [2] [] ⟨[(2,.none0)],[],0⟩ [] (by kernel_rfl) trivial ?_
   refine AWp.conv (inv:=[]) (vk:=[]) (e0:=[0]) (t:=⟨[(2,.own 0)],[(0,some (.row 1 5 []))],0⟩) (by kernel_rfl) ?_
   refine AWp.ret ?_
   exact Exists.intro _ (And.intro (fun _ _ h=>h) (And.intro (.inl rfl) (And.intro rfl (And.intro (by kernel_rfl) (by kernel_rfl)))))
  | some b =>
   refine reg hP hn hm [(1,.more xNil)] [0,2,4] [] ⟨[(0,.im (.sc (.slice (some b) 0 m))),(2,.none0),(4,bV false)],[],0⟩ [] (by kernel_rfl) trivial ?_
   refine AWp.cond false rfl (fun h=>nomatch h) (fun _ => ?_)
   refine AWp.skip ?_
   refine AWp.unsplit 0 rfl ?_
   refine AWp.seq ?_
   refine reg hP hn hm [(0,.app 0 ([]:List (List Im))),(2,.app 1 (([]:List Int).map (Z1 .u8)))] [2] [1] ⟨[(2,.own 1)],[(1,some (.row 1 5 (([]:List Int).map (Z1 .u8))))],0⟩ [([]:List (List Im))=[],([]:List Int).map (Z1 .u8)=([]:List (List Im))++([]:List Int).map (Z1 .u8),∀ c∈([]:List Int).map (Z1 .u8),c.length=1,∀ c∈([]:List Int).map (Z1 .u8),Z0m (c.map .im)=true,(([]:List (List Im)).length+(([]:List Int).map (Z1 .u8)).length)*1≤140737488355328] (by kernel_rfl) ⟨rfl,by simp,by exact Z0k _ _ _ (fun _=>rfl),by exact Z0j _ _ (fun _=>rfl),by simpa using c1,trivial⟩ ?_
   refine AWp.conv (inv:=[(1,0)]) (vk:=[]) (e0:=[]) (t:=⟨[(2,.own 0)],[(0,some (.row 1 5 (([]:List Int).map (Z1 .u8))))],0⟩) (by kernel_rfl) ?_
   refine AWp.ret ?_
   exact Exists.intro _ (And.intro (fun _ _ h=>h) (And.intro (.inl rfl) (And.intro rfl (And.intro (by kernel_rfl) (by kernel_rfl)))))
 | cons y l =>
  refine AWp.seq ?_
  refine reg hP hn hm [(1,.more xNil)] [0,2,4] [] ⟨[(0,.im (.row ((y::l).map (Z1 .u8)))),(2,.none0),(4,bV false)],[],0⟩ [] (by kernel_rfl) trivial ?_
  refine AWp.cond false rfl (fun h=>nomatch h) (fun _ => ?_)
  refine AWp.skip ?_
  refine AWp.seq ?_
  refine reg hP hn hm [(0,.app 0 ([]:List (List Im))),(2,.app 1 ((y::l).map (Z1 .u8)))] [2] [1] ⟨[(2,.own 1)],[(1,some (.row 1 5 ((y::l).map (Z1 .u8))))],0⟩ [([]:List (List Im))=[],(y::l).map (Z1 .u8)=([]:List (List Im))++(y::l).map (Z1 .u8),∀ c∈(y::l).map (Z1 .u8),c.length=1,∀ c∈(y::l).map (Z1 .u8),Z0m (c.map .im)=true,(([]:List (List Im)).length+((y::l).map (Z1 .u8)).length)*1≤140737488355328] (by kernel_rfl) ⟨rfl,by simp,by exact Z0k _ _ _ (fun _=>rfl),by exact Z0j _ _ (fun _=>rfl),by simpa using c1,trivial⟩ ?_
  refine AWp.conv (inv:=[(1,0)]) (vk:=[]) (e0:=[]) (t:=⟨[(2,.own 0)],[(0,some (.row 1 5 ((y::l).map (Z1 .u8))))],0⟩) (by kernel_rfl) ?_
  refine AWp.ret ?_
  exact Exists.intro _ (And.intro (fun _ _ h=>h) (And.intro (.inl rfl) (And.intro rfl (And.intro (by kernel_rfl) (by kernel_rfl)))))
def Z20.f (a0_c0:List Int) (a0_c1:Int):Option (List Int):=(Z2k.f a0_c0)>>=fun t2499=>some t2499
theorem Z20.ok (a0_c0:List Int) (a0_c1:Int) (r:List Int) (H:Z20.f a0_c0 a0_c1=some r):Pv.Fn Tryz.prog 26 [.ptr 0 0 0] [(0,some (.box 50 [.own 1,iV .u64 a0_c1])),(1,some (.row 1 5 (a0_c0.map (Z1 .u8))))] 2 (fun x o=>x = .own 2∧o=[(0,some (.box 50 [.own 1,iV .u64 a0_c1])),(1,some (.row 1 5 (a0_c0.map (Z1 .u8)))),(2,some (.row 1 5 (r.map (Z1 .u8))))]):=by
 unfold Z20.f at H
 refine Fn.bodyK [0,1,2] Tryz.func26 rfl rfl (fun Γ hP hn => ?_)
 have hm:Tryz.prog.follows .mixedOrders=true:=by kernel_rfl
 replace hn:Γ.n=8:=hn
 refine sO hP hn hm [] [] [0] [] [0,1] ?_
 obtain⟨t2499,e2500,H⟩:=Z3 H
 refine sR hP hn hm [(4,.more (Z3q [] [(0,2)] [1] [2] 0 (.own 0) [(0,some (.row 1 5 (t2499.map (Z1 .u8))))]))] [(2,.own 2)] [2] [(2,some (.row 1 5 (t2499.map (Z1 .u8))))] [0,1,2] [_,_,∀ c∈t2499.map (Z1 .u8),∀ x∈c,∃ v,x=Im.sc v] ⟨Tryz.call61,Z2k.ok a0_c0 t2499 e2500,by exact Z3s _ _ (fun _=>by simp),trivial⟩ ?_
 refine AWp.conv (inv:=[(0,0),(1,1),(2,2)]) (vk:=[]) (e0:=[]) (t:=⟨[(2,.own 2)],[(0,some (.box 50 [.own 1,iV .u64 a0_c1])),(1,some (.row 1 5 (a0_c0.map (Z1 .u8)))),(2,some (.row 1 5 (t2499.map (Z1 .u8))))],2⟩) (by kernel_rfl) ?_
 refine AWp.ret ?_
 obtain rfl:=sj H
 exact rl (.inl rfl) rfl (by kernel_rfl) (by kernel_rfl)
def Z0v.l1 (a0:List Za) (b2323:Za) (t1858:Zc×Zc) (t2328:List Int) (x2314:List Int) (x2315:List Int) (x2316:Int) (x2318:Int) (x2419:List Int) (x2420:Int) (x2421:List Int) (x2422:Int):Option ((List Int)×Int×(List Int)):=if(decide (x2422<(t2328.length:Int)))=true then((at? t2328 x2422)>>=fun b2427=>((if(x2318==(0:Int))=true then((Zg.f x2419 x2420 b2427)>>=fun t2433=>some (t2433.1,t2433.2,x2421)) else(((if(x2318==(1:Int))=true then((at? x2314 x2422)>>=fun b2442=>(at? x2421 x2422)>>=fun b2445=>(at? (x2421.set (Int.toNat (x2422)) (u64.wrap (b2427-b2442))) x2422)>>=fun b2453=>(Zy.f x2419 x2420 (i64.wrap (b2453)))>>=fun t2456=>some (t2456.1,t2456.2,x2421.set (Int.toNat (x2422)) (u64.wrap (b2427-b2442)))) else((at? x2314 x2422)>>=fun b2464=>(at? x2421 x2422)>>=fun b2467=>(at? (x2421.set (Int.toNat (x2422)) (u64.wrap (b2427-b2464))) x2422)>>=fun b2478=>(at? x2315 x2422)>>=fun b2481=>(Zy.f x2419 x2420 (i64.wrap (u64.wrap (b2478-b2481))))>>=fun t2484=>some (t2484.1,t2484.2,x2421.set (Int.toNat (x2422)) (u64.wrap (b2427-b2464))))):Option ((List Int)×Int×(List Int)))>>=fun oo=>match oo with | (x2486,x2487,x2488)=>(some (x2486,x2487,x2488)))):Option ((List Int)×Int×(List Int)))>>=fun oo=>match oo with | (x2489,x2490,x2491)=>(Z0v.l1 a0 b2323 t1858 t2328 x2314 x2315 x2316 x2318 x2489 x2490 x2491 (i64.wrap (x2422+(1:Int))))) else(some (x2419,x2420,x2421))
partial_fixpoint
def Z0v.l0 (a0:List Za) (t1858:Zc×Zc) (x2312:List Int) (x2313:Int) (x2314:List Int) (x2315:List Int) (x2316:Int) (x2317:Int) (x2318:Int):Option ((List Int)×Int):=if(decide (x2318<(a0.length:Int)))=true then((at? a0 x2318)>>=fun b2323=>(Z46.f b2323.f1 (t1858.1) (t1858.2))>>=fun t2328=>((if(x2318==(0:Int))=true then((Zg.f x2312 x2313 (u64.wrap (b2323.f0)))>>=fun t2333=>some (t2333.1,t2333.2)) else(((if(x2318==(1:Int))=true then((Zg.f x2312 x2313 (u64.wrap (i64.wrap ((i64.wrap (b2323.f0-x2316))-(1:Int)))))>>=fun t2338=>some (t2338.1,t2338.2)) else((Zy.f x2312 x2313 (i64.wrap ((i64.wrap (b2323.f0-x2316))-x2317)))>>=fun t2342=>some (t2342.1,t2342.2))):Option ((List Int)×Int))>>=fun oo=>match oo with | (x2344,x2345)=>(some (x2344,x2345)))):Option ((List Int)×Int))>>=fun oo=>match oo with | (x2346,x2347)=>((chk (0≤(t2328.length:Int)∧(t2328.length:Int)≤(t2328.length:Int)∧((8:Nat):Int)*(t2328.length:Int)≤281474976710656∧(t2328.length:Int)≤9223372036854775807))>>=fun _=>(Z0v.l1 a0 b2323 t1858 t2328 x2314 x2315 x2316 x2318 x2346 x2347 (List.replicate (Int.toNat (t2328.length:Int)) 0) 0)>>=fun oo=>match oo with | (x2492,x2493,x2494)=>(Z0v.l0 a0 t1858 x2492 x2493 t2328 x2494 b2323.f0 (i64.wrap (b2323.f0-x2316)) (i64.wrap (x2318+(1:Int)))))) else(some (x2312,x2313))
partial_fixpoint
def Z0v.f (a0:List Za):Option ((List Int)×Int):=(Z08.f a0)>>=fun t1847=>if(t1847 != (0:Int))=true then(some ([],t1847)) else((at? a0 0)>>=fun b1853=>(Z0d.f a0)>>=fun t1858=>(Z2a.f 0 (b1853.f1.f0==(1:Int)))>>=fun t1881=>(Z0e.f t1881.1 t1881.2 (u64.wrap (i64.wrap (b1853.f1.f1-(-4)))) 4)>>=fun t1925=>(Zy.f t1925.1 t1925.2 b1853.f1.f2)>>=fun t2065=>(Z1m.f t2065.1 t2065.2 (t1858.1))>>=fun t2118=>(Z1m.f t2118.1 t2118.2 (t1858.2))>>=fun t2124=>(Zg.f t2124.1 t2124.2 (u64.wrap (i64.wrap ((a0.length:Int)-(1:Int)))))>>=fun t2128=>(Z0v.l0 a0 t1858 t2128.1 t2128.2 [] [] 0 0 0)>>=fun oo=>match oo with | (x2495,x2496)=>((Z20.f x2495 x2496)>>=fun t2503=>some (t2503,0)))
theorem Z0v.ok (a0:List Za) (r:(List Int)×Int) (H:Z0v.f a0=some r):Pv.Fn Tryz.prog 9 [.im (.row (a0.map Z4))] [] 0 (fun x o=>x = .tup [.own 0,iV .i64 r.2]∧o=[(0,some (.row 1 5 (r.1.map (Z1 .u8))))]):=by
 unfold Z0v.f at H
 refine Fn.bodyK [0] Tryz.func9 rfl rfl (fun Γ hP hn => ?_)
 have hm:Tryz.prog.follows .mixedOrders=true:=by kernel_rfl
 replace hn:Γ.n=167:=hn
 refine sO hP hn hm [] [] [0] [] [] ?_
 refine AWp.seq ?_
 obtain⟨t1847,e1848,H⟩:=Z3 H
 refine sR hP hn hm [(1,.call [] [] [] [] 0 (iV .i64 t1847) [])] [(4,iV .i64 t1847)] [0,4] [] [] [_,_] ⟨Tryz.call10,Z08.ok a0 t1847 e1848,trivial⟩ ?_
 refine sO hP hn hm [] [(22,bV (t1847 != (0:Int)))] [0,4,22] [] [] ?_
 refine AWp.cond (t1847 != (0:Int)) (by kernel_rfl) (fun c1849 => ?_) (fun c1849 => ?_)
 ·replace H:=iT c1849 H
  refine sO hP hn hm [] [(2,.none0),(3,iV .i64 t1847)] [2,3] [] [] ?_
  refine AWp.conv (inv:=[]) (vk:=[]) (e0:=[0]) (t:=⟨[(2,.own 0),(3,iV .i64 t1847)],[(0,some (.row 1 5 ([].map (Z1 .u8))))],0⟩) (by kernel_rfl) ?_
  refine AWp.ret ?_
  obtain rfl:=sj H
  exact rl (.inl rfl) rfl (by kernel_rfl) (by kernel_rfl)
 ·replace H:=iF c1849 H
  refine AWp.skip ?_
  refine sO hP hn hm [(1,.k 0)] [(5,.ptr 0 0 0)] [0,5] [(0,some (.box 50 [.none0,iV .u64 0]))] [0] ?_
  obtain⟨b1853,p1854,q1855,H⟩:=Z03 H
  refine sR hP hn hm [(1,.c (Z4 b1853)),(4,.k 1)] [(6,.ptr 1 0 0)] [0,5,6] [(1,some (.box 39 (Zh b1853.f1)))] [0,1] [_,_] ⟨p1854,Zf Z4 q1855,trivial⟩ ?_
  obtain⟨t1858,e1859,H⟩:=Z3 H
  refine sR hP hn hm [(1,.call [] [(0,2),(1,3)] [] [2,3] 0 (.tup [.agg [iV .i64 ((t1858.1).f0),.own 0],.agg [iV .i64 ((t1858.2).f0),.own 1]]) [(0,some (.row 2 99 (((t1858.1).f1).map Z02))),(1,some (.row 2 99 (((t1858.2).f1).map Z02)))]),(5,.k 4),(6,.k 5)] [(7,.ptr 4 0 0),(8,.ptr 5 0 0)] [0,5,6,7,8] [(2,some (.row 2 99 (((t1858.1).f1).map Z02))),(3,some (.row 2 99 (((t1858.2).f1).map Z02))),(4,some (.box 53 [iV .i64 ((t1858.1).f0),.own 2])),(5,some (.box 53 [iV .i64 ((t1858.2).f0),.own 3]))] [0,1,2,3,4,5] [_,_] ⟨Tryz.call19,Z0d.ok a0 t1858 e1859,trivial⟩ ?_
  obtain⟨t1881,e1882,H⟩:=Z3 H
  refine sR hP hn hm [(4,.call [(0,0)] [(0,0),(1,6)] [] [6] 1 (.tup []) [(0,some (.box 50 [.own 1,iV .u64 t1881.2])),(1,some (.row 1 5 (t1881.1.map (Z1 .u8))))])] [] [0,5,6,7,8] [(0,some (.box 50 [.own 6,iV .u64 t1881.2])),(6,some (.row 1 5 (t1881.1.map (Z1 .u8))))] [0,1,2,3,4,5,6] [_,_] ⟨Tryz.call20,Z2a.ok 0 (b1853.f1.f0==(1:Int)) t1881 e1882,trivial⟩ ?_
  obtain⟨t1925,e1926,H⟩:=Z3 H
  refine sR hP hn hm [(5,.call [(0,0),(6,1)] [(0,0),(2,7)] [] [7] 2 (.tup []) [(0,some (.box 50 [.own 2,iV .u64 t1925.2])),(1,none),(2,some (.row 1 5 (t1925.1.map (Z1 .u8))))])] [] [0,5,6,7,8] [(0,some (.box 50 [.own 7,iV .u64 t1925.2])),(7,some (.row 1 5 (t1925.1.map (Z1 .u8))))] [0,1,2,3,4,5,7] [_,_] ⟨Tryz.call21,Z0e.ok t1881.1 t1881.2 (u64.wrap (i64.wrap (b1853.f1.f1-(-4)))) 4 t1925 e1926,trivial⟩ ?_
  obtain⟨t2065,e2066,H⟩:=Z3 H
  refine sR hP hn hm [(3,.call [(0,0),(7,1)] [(0,0),(2,8)] [] [8] 2 (.tup []) [(0,some (.box 50 [.own 2,iV .u64 t2065.2])),(1,none),(2,some (.row 1 5 (t2065.1.map (Z1 .u8))))])] [] [0,5,7,8] [(0,some (.box 50 [.own 8,iV .u64 t2065.2])),(8,some (.row 1 5 (t2065.1.map (Z1 .u8))))] [0,2,3,4,5,8] [_,_] ⟨Tryz.call22,Zy.ok t1925.1 t1925.2 b1853.f1.f2 t2065 e2066,trivial⟩ ?_
  refine AWp.seq ?_
  refine AWp.conv (inv:=[(3,3),(4,4),(5,5),(0,0),(8,8)]) (vk:=[2]) (e0:=[]) (t:=⟨[(0,.im (.row (a0.map Z4))),(5,.ptr 0 0 0),(7,.ptr 4 0 0),(8,.ptr 5 0 0)],[(0,some (.box 50 [.own 8,iV .u64 t2065.2])),(3,some (.row 2 99 (((t1858.2).f1).map Z02))),(4,some (.box 53 (Zb (t1858.1)))),(5,some (.box 53 [iV .i64 ((t1858.2).f0),.own 3])),(8,some (.row 1 5 (t2065.1.map (Z1 .u8))))],0⟩) (by kernel_rfl) ?_
  obtain⟨t2118,e2119,H⟩:=Z3 H
  refine rG hP hn hm [(2,.call [(0,0),(8,1)] [(0,0),(2,9)] [] [9] 2 (.tup []) [(0,some (.box 50 [.own 2,iV .u64 t2118.2])),(1,none),(2,some (.row 1 5 (t2118.1.map (Z1 .u8))))])] [] [0,5,7,8] [(0,some (.box 50 [.own 9,iV .u64 t2118.2])),(9,some (.row 1 5 (t2118.1.map (Z1 .u8))))] [0,3,4,5,9] [_,_] ⟨Tryz.call23,Z1m.ok t2065.1 t2065.2 (t1858.1) t2118 e2119,trivial⟩ ?_
  refine AWp.seq ?_
  refine AWp.conv (inv:=[(4,4),(5,5),(0,0),(9,9)]) (vk:=[3]) (e0:=[]) (t:=⟨[(0,.im (.row (a0.map Z4))),(5,.ptr 0 0 0),(7,.ptr 4 0 0),(8,.ptr 5 0 0)],[(0,some (.box 50 [.own 9,iV .u64 t2118.2])),(4,some (.box 53 (Zb (t1858.1)))),(5,some (.box 53 (Zb (t1858.2)))),(9,some (.row 1 5 (t2118.1.map (Z1 .u8))))],0⟩) (by kernel_rfl) ?_
  obtain⟨t2124,e2125,H⟩:=Z3 H
  refine rG hP hn hm [(2,.call [(0,0),(9,1)] [(0,0),(2,10)] [] [10] 2 (.tup []) [(0,some (.box 50 [.own 2,iV .u64 t2124.2])),(1,none),(2,some (.row 1 5 (t2124.1.map (Z1 .u8))))])] [] [0,5,7,8] [(0,some (.box 50 [.own 10,iV .u64 t2124.2])),(10,some (.row 1 5 (t2124.1.map (Z1 .u8))))] [0,4,5,10] [_,_] ⟨Tryz.call23,Z1m.ok t2118.1 t2118.2 (t1858.2) t2124 e2125,trivial⟩ ?_
  obtain⟨t2128,e2129,H⟩:=Z3 H
  refine sR hP hn hm [(2,.any (iV .i64 (a0.length:Int))),(5,.call [(0,0),(10,1)] [(0,0),(2,11)] [] [11] 2 (.tup []) [(0,some (.box 50 [.own 2,iV .u64 t2128.2])),(1,none),(2,some (.row 1 5 (t2128.1.map (Z1 .u8))))])] [] [0,5,7,8] [(0,some (.box 50 [.own 11,iV .u64 t2128.2])),(11,some (.row 1 5 (t2128.1.map (Z1 .u8))))] [0,4,5,11] [((a0.map Z4).length:Int)=(a0.length:Int),_,_] ⟨by rw[Zi],Tryz.call24,Zg.ok t2124.1 t2124.2 (u64.wrap (i64.wrap ((a0.length:Int)-(1:Int)))) t2128 e2129,trivial⟩ ?_
  refine sO hP hn hm [] [(9,.none0),(10,.none0)] [0,5,7,8,9,10] [] [0,4,5,11] ?_
  refine sO hP hn hm [] [(11,iV .i64 0),(12,iV .i64 0)] [0,5,7,8,9,10,11,12] [] [0,4,5,11] ?_
  refine AWp.seq ?_
  refine sR hP hn hm [(1,.any (iV .i64 (a0.length:Int)))] [(62,.im (.row (a0.map Z4))),(63,iV .i64 (a0.length:Int)),(64,iV .i64 0)] [5,7,8,9,10,11,12,62,63,64] [] [0,4,5,11] [((a0.map Z4).length:Int)=(a0.length:Int)] ⟨by rw[Zi],trivial⟩ ?_
  refine AWp.block ?_
  obtain⟨o2505,e2506,H⟩:=Z3 H
  refine AWp.loop (LWp.conv (inv:=[(0,30),(4,32),(5,33),(11,31)]) (vk:=[]) (e0:=[34,35]) (t:=⟨[(5,.ptr 30 0 0),(7,.ptr 32 0 0),(8,.ptr 33 0 0),(9,.own 34),(10,.own 35),(11,iV .i64 0),(12,iV .i64 0),(62,.im (.row (a0.map Z4))),(63,iV .i64 (a0.length:Int)),(64,iV .i64 0)],[(30,some (.box 50 [.own 31,iV .u64 t2128.2])),(31,some (.row 1 5 (t2128.1.map (Z1 .u8)))),(32,some (.box 53 (Zb (t1858.1)))),(33,some (.box 53 (Zb (t1858.2)))),(34,some (.row 1 36 ([].map (Z1 .u64)))),(35,some (.row 1 36 ([].map (Z1 .u64))))],0⟩) (by kernel_rfl) ?_)
  refine LWp.mono (Q:=fun e s=>(match (generalizing:=false) o2505 with | (x2495,x2496)=>e = .exit 0∧s=⟨[(5,.ptr 110 0 0)],[(110,some (.box 50 [.own 111,iV .u64 x2496])),(111,some (.row 1 5 (x2495.map (Z1 .u8))))],0⟩)) (LWp.cv (Zn (fun body hbody => ?_))) ?_
  ·refine            Z0v.l0.partial_correctness a0 t1858 (motive:=fun x2312 x2313 x2314 x2315 x2316 x2317 x2318 o2505=>LWp Γ body (fun e s=>∃ t,Cv Γ s t∧(match (generalizing:=false) o2505 with | (x2495,x2496)=>e = .exit 0∧t=⟨[(5,.ptr 110 0 0)],[(110,some (.box 50 [.own 111,iV .u64 x2496])),(111,some (.row 1 5 (x2495.map (Z1     .u8))))],0⟩)) ⟨[(5,.ptr 30 0 0),(7,.ptr 32 0 0),(8,.ptr 33 0 0),(9,.own 34),(10,.own 35),(11,iV .i64 x2316),(12,iV .i64 x2317),(62,.im (.row (a0.map Z4     ))),(63,iV .i64 (a0.length:Int)),(64,iV .i64 x2318)],[(30,some (.box 50 [.own 31,iV .u64 x2313])),(31,some (.row 1 5 (x2312.map (Z1     .u8)))),(32,some (.box 53 (Zb           (t1858.1)))),(33,some (.box 53 (Zb           (t1858.2)))),(34,some (.row 1 36 (x2314.map (Z1     .u64)))),(35,some (.row 1 36 (x2315.map (Z1     .u64))))],0⟩) ?_ _ _ _ _ _ _ _ _ e2506
   clear H e2506 o2505;intro self ih x2312 x2313 x2314 x2315 x2316 x2317 x2318 o2505 H
   subst hbody
   refine LWp.round ?_
   refine sO hP hn hm [] [(65,bV (decide (x2318<(a0.length:Int))))] [5,7,8,9,10,11,12,62,63,64,65] [] [30,31,32,33,34,35] ?_
   refine AWp.seq ?_
   refine AWp.cond (decide (x2318<(a0.length:Int))) (by kernel_rfl) (fun c2319 => ?_) (fun c2319 => ?_)
   ·replace H:=iT c2319 H
    refine AWp.skip ?_
    refine AWp.seq ?_
    refine AWp.block ?_
    obtain⟨b2323,p2324,q2325,H⟩:=Z03 H
    refine sR hP hn hm [(1,.c (Z4 b2323)),(3,.k 36)] [(13,iV .i64 x2318),(14,.ptr 36 0 0)] [5,7,8,9,10,11,12,13,14,62,63,64] [(36,some (.box 41 [iV .i64 b2323.f0,iV .i64 b2323.f1.f0,iV .i64 b2323.f1.f1,iV .i64 b2323.f1.f2,iV .u64 b2323.f1.f3,iV .u64 b2323.f1.f4,iV .i64 b2323.f1.f5,.im (.row (b2323.f1.f6.map Z0)),.im (.row (b2323.f1.f7.map Z0))]))] [30,31,32,33,34,35,36] [_,_] ⟨p2324,Zf Z4 q2325,trivial⟩ ?_
    obtain⟨t2328,e2329,H⟩:=Z3 H
    refine sR hP hn hm [(4,.call [] [(0,37)] [] [37] 0 (.own 0) [(0,some (.row 1 36 (t2328.map (Z1 .u64))))])] [(15,.own 37)] [5,7,8,9,10,11,12,13,14,15,62,63,64] [(37,some (.row 1 36 (t2328.map (Z1 .u64))))] [30,31,32,33,34,35,36,37] [_,_] ⟨Tryz.call25,Z46.ok b2323.f1 (t1858.1) (t1858.2) t2328 e2329,trivial⟩ ?_
    refine AWp.seq ?_
    refine sO hP hn hm [] [(74,iV .i64 x2318)] [5,7,8,9,10,11,12,13,14,15,62,63,64,74] [] [30,31,32,33,34,35,36,37] ?_
    refine AWp.block ?_
    refine sO hP hn hm [] [(83,bV (x2318==(0:Int)))] [5,7,8,9,10,11,12,13,14,15,62,63,64,74,83] [] [30,31,32,33,34,35,36,37] ?_
    obtain⟨o2507,e2508,H⟩:=Z3 H
    refine AWp.mono (Q:=fun e s=>(match (generalizing:=false) o2507 with | (x2346,x2347)=>e = .normal∧s=⟨[(5,.ptr 49 0 0),(7,.ptr 51 0 0),(8,.ptr 52 0 0),(9,.own 53),(10,.own 54),(11,iV .i64 x2316),(13,iV .i64 x2318),(14,.ptr 55 0 0),(15,.own 56),(62,.im (.row (a0.map Z4))),(63,iV .i64 (a0.length:Int)),(64,iV .i64 x2318)],[(49,some (.box 50 [.own 50,iV .u64 x2347])),(50,some (.row 1 5 (x2346.map (Z1 .u8)))),(51,some (.box 53 (Zb (t1858.1)))),(52,some (.box 53 (Zb (t1858.2)))),(53,some (.row 1 36 (x2314.map (Z1 .u64)))),(54,some (.row 1 36 (x2315.map (Z1 .u64)))),(55,some (.box 41 [iV .i64 b2323.f0,iV .i64 b2323.f1.f0,iV .i64 b2323.f1.f1,iV .i64 b2323.f1.f2,iV .u64 b2323.f1.f3,iV .u64 b2323.f1.f4,iV .i64 b2323.f1.f5,.im (.row (b2323.f1.f6.map Z0)),.im (.row (b2323.f1.f7.map Z0))])),(56,some (.row 1 36 (t2328.map (Z1 .u64))))],0⟩)) (AWp.cv ?_) ?_
    ·replace H:=e2508;clear e2508
     refine AWp.cond (x2318==(0:Int)) (by kernel_rfl) (fun c2330 => ?_) (fun c2330 => ?_)
     ·replace H:=iT c2330 H
      obtain⟨t2333,e2334,H⟩:=Z3 H
      refine rG hP hn hm [(4,.call [(30,0),(31,1)] [(0,30),(2,38)] [] [38] 2 (.tup []) [(0,some (.box 50 [.own 2,iV .u64 t2333.2])),(1,none),(2,some (.row 1 5 (t2333.1.map (Z1 .u8))))])] [] [5,7,8,9,10,11,13,14,15,62,63,64] [(30,some (.box 50 [.own 38,iV .u64 t2333.2])),(38,some (.row 1 5 (t2333.1.map (Z1 .u8))))] [30,32,33,34,35,36,37,38] [_,_] ⟨Tryz.call24,Zg.ok x2312 x2313 (u64.wrap (b2323.f0)) t2333 e2334,trivial⟩ ?_
      obtain rfl:=sj H
      exact lf [(30,49),(38,50),(32,51),(33,52),(34,53),(35,54),(36,55),(37,56)] [] [] (by kernel_rfl) ⟨rfl,rfl⟩
     ·replace H:=iF c2330 H
      refine sO hP hn hm [] [(90,bV (x2318==(1:Int)))] [5,7,8,9,10,11,12,13,14,15,62,63,64,90] [] [30,31,32,33,34,35,36,37] ?_
      obtain⟨o2509,e2510,H⟩:=Z3 H
      refine AWp.mono (Q:=fun e s=>(match (generalizing:=false) o2509 with | (x2344,x2345)=>e = .normal∧s=⟨[(5,.ptr 41 0 0),(7,.ptr 43 0 0),(8,.ptr 44 0 0),(9,.own 45),(10,.own 46),(11,iV .i64 x2316),(13,iV .i64 x2318),(14,.ptr 47 0 0),(15,.own 48),(62,.im (.row (a0.map Z4))),(63,iV .i64 (a0.length:Int)),(64,iV .i64 x2318)],[(41,some (.box 50 [.own 42,iV .u64 x2345])),(42,some (.row 1 5 (x2344.map (Z1 .u8)))),(43,some (.box 53 (Zb (t1858.1)))),(44,some (.box 53 (Zb (t1858.2)))),(45,some (.row 1 36 (x2314.map (Z1 .u64)))),(46,some (.row 1 36 (x2315.map (Z1 .u64)))),(47,some (.box 41 [iV .i64 b2323.f0,iV .i64 b2323.f1.f0,iV .i64 b2323.f1.f1,iV .i64 b2323.f1.f2,iV .u64 b2323.f1.f3,iV .u64 b2323.f1.f4,iV .i64 b2323.f1.f5,.im (.row (b2323.f1.f6.map Z0)),.im (.row (b2323.f1.f7.map Z0))])),(48,some (.row 1 36 (t2328.map (Z1 .u64))))],0⟩)) (AWp.cv ?_) ?_
      ·replace H:=e2510;clear e2510
       refine AWp.cond (x2318==(1:Int)) (by kernel_rfl) (fun c2335 => ?_) (fun c2335 => ?_)
       ·replace H:=iT c2335 H
        obtain⟨t2338,e2339,H⟩:=Z3 H
        refine rG hP hn hm [(7,.call [(30,0),(31,1)] [(0,30),(2,39)] [] [39] 2 (.tup []) [(0,some (.box 50 [.own 2,iV .u64 t2338.2])),(1,none),(2,some (.row 1 5 (t2338.1.map (Z1 .u8))))])] [] [5,7,8,9,10,11,13,14,15,62,63,64] [(30,some (.box 50 [.own 39,iV .u64 t2338.2])),(39,some (.row 1 5 (t2338.1.map (Z1 .u8))))] [30,32,33,34,35,36,37,39] [_,_] ⟨Tryz.call24,Zg.ok x2312 x2313 (u64.wrap (i64.wrap ((i64.wrap (b2323.f0-x2316))-(1:Int)))) t2338 e2339,trivial⟩ ?_
        obtain rfl:=sj H
        exact lf [(30,41),(39,42),(32,43),(33,44),(34,45),(35,46),(36,47),(37,48)] [] [] (by kernel_rfl) ⟨rfl,rfl⟩
       ·replace H:=iF c2335 H
        obtain⟨t2342,e2343,H⟩:=Z3 H
        refine rG hP hn hm [(7,.call [(30,0),(31,1)] [(0,30),(2,40)] [] [40] 2 (.tup []) [(0,some (.box 50 [.own 2,iV .u64 t2342.2])),(1,none),(2,some (.row 1 5 (t2342.1.map (Z1 .u8))))])] [] [5,7,8,9,10,11,13,14,15,62,63,64] [(30,some (.box 50 [.own 40,iV .u64 t2342.2])),(40,some (.row 1 5 (t2342.1.map (Z1 .u8))))] [30,32,33,34,35,36,37,40] [_,_] ⟨Tryz.call22,Zy.ok x2312 x2313 (i64.wrap ((i64.wrap (b2323.f0-x2316))-x2317)) t2342 e2343,trivial⟩ ?_
        obtain rfl:=sj H
        exact lf [(30,41),(40,42),(32,43),(33,44),(34,45),(35,46),(36,47),(37,48)] [] [] (by kernel_rfl) ⟨rfl,rfl⟩
      ·obtain⟨x2344,x2345⟩:=o2509
       rintro e s ⟨rfl,rfl⟩
       obtain rfl:=sj H
       exact lf [(41,49),(42,50),(43,51),(44,52),(45,53),(46,54),(47,55),(48,56)] [] [] (by kernel_rfl) ⟨rfl,rfl⟩
    ·obtain⟨x2346,x2347⟩:=o2507
     rintro e s ⟨rfl,rfl⟩
     refine sO hP hn hm [] [(11,iV .i64 b2323.f0),(12,iV .i64 (i64.wrap (b2323.f0-x2316)))] [5,7,8,9,10,11,12,13,15,62,63,64] [] [49,50,51,52,53,54,56] ?_
     obtain⟨c2349,H⟩:=Z0q H
     refine sR hP hn hm [(1,.any (iV .i64 (t2328.length:Int))),(2,.more (xMake 57 ((List.replicate (Int.toNat (t2328.length:Int)) 0).map (Z1 .u64))))] [(16,.own 57)] [5,7,8,9,10,11,12,13,15,16,62,63,64] [(57,some (.row 1 36 ((List.replicate (Int.toNat (t2328.length:Int)) 0).map (Z1 .u64))))] [49,50,51,52,53,54,56,57] [((t2328.map (Z1 .u64)).length:Int)=(t2328.length:Int),(List.replicate (Int.toNat (t2328.length:Int)) 0).map (Z1 .u64)=List.replicate (Int.toNat (t2328.length:Int)) [iI .u64 0],0≤(t2328.length:Int),(t2328.length:Int)≤(t2328.length:Int),((8:Nat):Int)*(t2328.length:Int)≤281474976710656,(t2328.length:Int)≤9223372036854775807] ⟨by rw[Zi],by simp,by exact c2349.1,by exact c2349.2.1,by exact c2349.2.2.1,by exact c2349.2.2.2,trivial⟩ ?_
     refine AWp.seq ?_
     refine sR hP hn hm [(1,.any (iV .i64 (t2328.length:Int)))] [(109,.own 56),(110,iV .i64 (t2328.length:Int)),(111,iV .i64 0)] [5,7,8,9,10,11,12,13,15,16,62,63,64,109,110,111] [] [49,50,51,52,53,54,56,57] [((t2328.map (Z1 .u64)).length:Int)=(t2328.length:Int)] ⟨by rw[Zi],trivial⟩ ?_
     refine AWp.block ?_
     obtain⟨o2511,e2512,H⟩:=Z3 H
     refine AWp.loop (LWp.conv (inv:=[(49,77),(50,78),(51,79),(52,80),(53,81),(54,82),(56,83),(57,84)]) (vk:=[]) (e0:=[]) (t:=⟨[(5,.ptr 77 0 0),(7,.ptr 79 0 0),(8,.ptr 80 0 0),(9,.own 81),(10,.own 82),(11,iV .i64 b2323.f0),(12,iV .i64 (i64.wrap (b2323.f0-x2316))),(13,iV .i64 x2318),(15,.own 83),(16,.own 84),(62,.im (.row (a0.map Z4))),(63,iV .i64 (a0.length:Int)),(64,iV .i64 x2318),(109,.own 83),(110,iV .i64 (t2328.length:Int)),(111,iV .i64 0)],[(77,some (.box 50 [.own 78,iV .u64 x2347])),(78,some (.row 1 5 (x2346.map (Z1 .u8)))),(79,some (.box 53 (Zb (t1858.1)))),(80,some (.box 53 (Zb (t1858.2)))),(81,some (.row 1 36 (x2314.map (Z1 .u64)))),(82,some (.row 1 36 (x2315.map (Z1 .u64)))),(83,some (.row 1 36 (t2328.map (Z1 .u64)))),(84,some (.row 1 36 ((List.replicate (Int.toNat (t2328.length:Int)) 0).map (Z1 .u64))))],0⟩) (by kernel_rfl) ?_)
     refine LWp.mono (Q:=fun e s=>(match (generalizing:=false) o2511 with | (x2492,x2493,x2494)=>e = .exit 3∧s=⟨[(5,.ptr 104 0 0),(7,.ptr 106 0 0),(8,.ptr 107 0 0),(11,iV .i64 b2323.f0),(12,iV .i64 (i64.wrap (b2323.f0-x2316))),(15,.own 108),(16,.own 109),(62,.im (.row (a0.map Z4))),(63,iV .i64 (a0.length:Int)),(64,iV .i64 x2318)],[(104,some (.box 50 [.own 105,iV .u64 x2493])),(105,some (.row 1 5 (x2492.map (Z1 .u8)))),(106,some (.box 53 (Zb (t1858.1)))),(107,some (.box 53 (Zb (t1858.2)))),(108,some (.row 1 36 (t2328.map (Z1 .u64)))),(109,some (.row 1 36 (x2494.map (Z1 .u64))))],0⟩)) (LWp.cv (Zn (fun body hbody => ?_))) ?_
     ·refine            Z0v.l1.partial_correctness a0 b2323 t1858 t2328 x2314 x2315 x2316 x2318 (motive:=fun x2419 x2420 x2421 x2422 o2511=>LWp Γ body (fun e s=>∃ t,Cv Γ s t∧(match (generalizing:=false) o2511 with | (x2492,x2493,x2494)=>e = .exit 3∧t=⟨[(5,.ptr 104 0 0),(7,.ptr 106 0 0),(8,.ptr 107 0 0),(11,iV .i64 b2323.f0),(12,iV .i64 (i64.wrap (b2323.f0-x2316))),(15,.own 108),(16,.own 109),(62,.im (.row (a0.map Z4     ))),(63,iV .i64 (a0.length:Int)),(64,iV .i64 x2318)],[(104,some (.box 50 [.own 105,iV .u64 x2493])),(105,some (.row 1 5 (x2492.map (Z1     .u8)))),(106,some (.box 53 (Zb           (t1858.1)))),(107,some (.box 53 (Zb           (t1858.2)))),(108,some (.row 1 36 (t2328.map (Z1     .u64)))),(109,some (.row 1 36 (x2494.map (Z1     .u64))))],0⟩)) ⟨[(5,.ptr 77 0 0),(7,.ptr 79 0 0),(8,.ptr 80 0 0),(9,.own 81),(10,.own 82),(11,iV .i64 b2323.f0),(12,iV .i64 (i64.wrap (b2323.f0-x2316))),(13,iV .i64 x2318),(15,.own 83),(16,.own 84),(62,.im (.row (a0.map Z4     ))),(63,iV .i64 (a0.length:Int)),(64,iV .i64 x2318),(109,.own 83),(110,iV .i64 (t2328.length:Int)),(111,iV .i64 x2422)],[(77,some (.box 50 [.own 78,iV .u64 x2420])),(78,some (.row 1 5 (x2419.map (Z1     .u8)))),(79,some (.box 53 (Zb           (t1858.1)))),(80,some (.box 53 (Zb           (t1858.2)))),(81,some (.row 1 36 (x2314.map (Z1     .u64)))),(82,some (.row 1 36 (x2315.map (Z1     .u64)))),(83,some (.row 1 36 (t2328.map (Z1     .u64)))),(84,some (.row 1 36 (x2421.map (Z1     .u64))))],0⟩) ?_ _ _ _ _ _ e2512
      clear H e2512 o2511;intro self ih x2419 x2420 x2421 x2422 o2511 H
      subst hbody
      refine LWp.round ?_
      refine sO hP hn hm [] [(112,bV (decide (x2422<(t2328.length:Int))))] [5,7,8,9,10,11,12,13,15,16,62,63,64,109,110,111,112] [] [77,78,79,80,81,82,83,84] ?_
      refine AWp.seq ?_
      refine AWp.cond (decide (x2422<(t2328.length:Int))) (by kernel_rfl) (fun c2423 => ?_) (fun c2423 => ?_)
      ·replace H:=iT c2423 H
       refine AWp.skip ?_
       refine AWp.seq ?_
       refine AWp.block ?_
       obtain⟨b2427,p2428,q2429,H⟩:=Z03 H
       refine sR hP hn hm [(2,.c ((Z1 .u64) b2427))] [(17,iV .i64 x2422),(18,iV .u64 b2427)] [5,7,8,9,10,11,12,13,15,16,17,18,62,63,64,109,110,111] [] [77,78,79,80,81,82,83,84] [_,_,_] ⟨p2428,Z1u (Z1 .u64) p2428 q2429,Zf (Z1 .u64) q2429,trivial⟩ ?_
       refine sO hP hn hm [] [(116,iV .i64 x2318)] [5,7,8,9,10,11,12,13,15,16,17,18,62,63,64,109,110,111,116] [] [77,78,79,80,81,82,83,84] ?_
       refine AWp.block ?_
       refine sO hP hn hm [] [(138,bV (x2318==(0:Int)))] [5,7,8,9,10,11,12,13,15,16,17,18,62,63,64,109,110,111,116,138] [] [77,78,79,80,81,82,83,84] ?_
       obtain⟨o2513,e2514,H⟩:=Z3 H
       refine AWp.mono (Q:=fun e s=>(match (generalizing:=false) o2513 with | (x2489,x2490,x2491)=>e = .normal∧s=⟨[(5,.ptr 96 0 0),(7,.ptr 98 0 0),(8,.ptr 99 0 0),(9,.own 100),(10,.own 101),(11,iV .i64 b2323.f0),(12,iV .i64 (i64.wrap (b2323.f0-x2316))),(13,iV .i64 x2318),(15,.own 102),(16,.own 103),(62,.im (.row (a0.map Z4))),(63,iV .i64 (a0.length:Int)),(64,iV .i64 x2318),(109,.own 102),(110,iV .i64 (t2328.length:Int)),(111,iV .i64 x2422)],[(96,some (.box 50 [.own 97,iV .u64 x2490])),(97,some (.row 1 5 (x2489.map (Z1 .u8)))),(98,some (.box 53 (Zb (t1858.1)))),(99,some (.box 53 (Zb (t1858.2)))),(100,some (.row 1 36 (x2314.map (Z1 .u64)))),(101,some (.row 1 36 (x2315.map (Z1 .u64)))),(102,some (.row 1 36 (t2328.map (Z1 .u64)))),(103,some (.row 1 36 (x2491.map (Z1 .u64))))],0⟩)) (AWp.cv ?_) ?_
       ·replace H:=e2514;clear e2514
        refine AWp.cond (x2318==(0:Int)) (by kernel_rfl) (fun c2430 => ?_) (fun c2430 => ?_)
        ·replace H:=iT c2430 H
         obtain⟨t2433,e2434,H⟩:=Z3 H
         refine rG hP hn hm [(2,.call [(77,0),(78,1)] [(0,77),(2,85)] [] [85] 2 (.tup []) [(0,some (.box 50 [.own 2,iV .u64 t2433.2])),(1,none),(2,some (.row 1 5 (t2433.1.map (Z1 .u8))))])] [] [5,7,8,9,10,11,12,13,15,16,62,63,64,109,110,111] [(77,some (.box 50 [.own 85,iV .u64 t2433.2])),(85,some (.row 1 5 (t2433.1.map (Z1 .u8))))] [77,79,80,81,82,83,84,85] [_,_] ⟨Tryz.call24,Zg.ok x2419 x2420 b2427 t2433 e2434,trivial⟩ ?_
         obtain rfl:=sj H
         exact lf [(77,96),(85,97),(79,98),(80,99),(81,100),(82,101),(83,102),(84,103)] [] [] (by kernel_rfl) ⟨rfl,rfl⟩
        ·replace H:=iF c2430 H
         refine sO hP hn hm [] [(143,bV (x2318==(1:Int)))] [5,7,8,9,10,11,12,13,15,16,17,18,62,63,64,109,110,111,143] [] [77,78,79,80,81,82,83,84] ?_
         obtain⟨o2515,e2516,H⟩:=Z3 H
         refine AWp.mono (Q:=fun e s=>(match (generalizing:=false) o2515 with | (x2486,x2487,x2488)=>e = .normal∧s=⟨[(5,.ptr 88 0 0),(7,.ptr 90 0 0),(8,.ptr 91 0 0),(9,.own 92),(10,.own 93),(11,iV .i64 b2323.f0),(12,iV .i64 (i64.wrap (b2323.f0-x2316))),(13,iV .i64 x2318),(15,.own 94),(16,.own 95),(62,.im (.row (a0.map Z4))),(63,iV .i64 (a0.length:Int)),(64,iV .i64 x2318),(109,.own 94),(110,iV .i64 (t2328.length:Int)),(111,iV .i64 x2422)],[(88,some (.box 50 [.own 89,iV .u64 x2487])),(89,some (.row 1 5 (x2486.map (Z1 .u8)))),(90,some (.box 53 (Zb (t1858.1)))),(91,some (.box 53 (Zb (t1858.2)))),(92,some (.row 1 36 (x2314.map (Z1 .u64)))),(93,some (.row 1 36 (x2315.map (Z1 .u64)))),(94,some (.row 1 36 (t2328.map (Z1 .u64)))),(95,some (.row 1 36 (x2488.map (Z1 .u64))))],0⟩)) (AWp.cv ?_) ?_
         ·replace H:=e2516;clear e2516
          refine AWp.cond (x2318==(1:Int)) (by kernel_rfl) (fun c2435 => ?_) (fun c2435 => ?_)
          ·replace H:=iT c2435 H
           obtain⟨b2442,p2443,q2444,H⟩:=Z03 H
           obtain⟨b2445,p2446,q2447,H⟩:=Z03 H
           refine sR hP hn hm [(6,.c ((Z1 .u64) b2442)),(9,.put ((Z1 .u64) b2445) ((x2421.set (Int.toNat (x2422)) (u64.wrap (b2427-b2442))).map (Z1 .u64)))] [] [5,7,8,9,10,11,12,13,15,16,17,62,63,64,109,110,111] [(84,some (.row 1 36 ((x2421.set (Int.toNat (x2422)) (u64.wrap (b2427-b2442))).map (Z1 .u64))))] [77,78,79,80,81,82,83,84] [_,_,_,_,_,_,(x2421.set (Int.toNat (x2422)) (u64.wrap (b2427-b2442))).map (Z1 .u64)=(x2421.map (Z1 .u64)).set (Int.toNat (x2422)) (Z1w ((Z1 .u64) b2445) 0 [iI .u64 (u64.wrap (b2427-b2442))])] ⟨p2443,Z1u (Z1 .u64) p2443 q2444,Zf (Z1 .u64) q2444,p2446,Z1u (Z1 .u64) p2446 q2447,Zf (Z1 .u64) q2447,by exact set1 _ _ _ _,trivial⟩ ?_
           obtain⟨b2453,p2454,q2455,H⟩:=Z03 H
           obtain⟨t2456,e2457,H⟩:=Z3 H
           refine rG hP hn hm [(4,.c ((Z1 .u64) b2453)),(6,.call [(77,0),(78,1)] [(0,77),(2,86)] [] [86] 2 (.tup []) [(0,some (.box 50 [.own 2,iV .u64 t2456.2])),(1,none),(2,some (.row 1 5 (t2456.1.map (Z1 .u8))))])] [] [5,7,8,9,10,11,12,13,15,16,62,63,64,109,110,111] [(77,some (.box 50 [.own 86,iV .u64 t2456.2])),(86,some (.row 1 5 (t2456.1.map (Z1 .u8))))] [77,79,80,81,82,83,84,86] [_,_,_,_,_] ⟨p2454,Z1u (Z1 .u64) p2454 q2455,Zf (Z1 .u64) q2455,Tryz.call22,Zy.ok x2419 x2420 (i64.wrap (b2453)) t2456 e2457,trivial⟩ ?_
           obtain rfl:=sj H
           exact lf [(77,88),(86,89),(79,90),(80,91),(81,92),(82,93),(83,94),(84,95)] [] [] (by kernel_rfl) ⟨rfl,rfl⟩
          ·replace H:=iF c2435 H
           obtain⟨b2464,p2465,q2466,H⟩:=Z03 H
           obtain⟨b2467,p2468,q2469,H⟩:=Z03 H
           refine sR hP hn hm [(6,.c ((Z1 .u64) b2464)),(9,.put ((Z1 .u64) b2467) ((x2421.set (Int.toNat (x2422)) (u64.wrap (b2427-b2464))).map (Z1 .u64)))] [] [5,7,8,9,10,11,12,13,15,16,17,62,63,64,109,110,111] [(84,some (.row 1 36 ((x2421.set (Int.toNat (x2422)) (u64.wrap (b2427-b2464))).map (Z1 .u64))))] [77,78,79,80,81,82,83,84] [_,_,_,_,_,_,(x2421.set (Int.toNat (x2422)) (u64.wrap (b2427-b2464))).map (Z1 .u64)=(x2421.map (Z1 .u64)).set (Int.toNat (x2422)) (Z1w ((Z1 .u64) b2467) 0 [iI .u64 (u64.wrap (b2427-b2464))])] ⟨p2465,Z1u (Z1 .u64) p2465 q2466,Zf (Z1 .u64) q2466,p2468,Z1u (Z1 .u64) p2468 q2469,Zf (Z1 .u64) q2469,by exact set1 _ _ _ _,trivial⟩ ?_
           obtain⟨b2478,p2479,q2480,H⟩:=Z03 H
           obtain⟨b2481,p2482,q2483,H⟩:=Z03 H
           obtain⟨t2484,e2485,H⟩:=Z3 H
           refine rG hP hn hm [(4,.c ((Z1 .u64) b2478)),(8,.c ((Z1 .u64) b2481)),(11,.call [(77,0),(78,1)] [(0,77),(2,87)] [] [87] 2 (.tup []) [(0,some (.box 50 [.own 2,iV .u64 t2484.2])),(1,none),(2,some (.row 1 5 (t2484.1.map (Z1 .u8))))])] [] [5,7,8,9,10,11,12,13,15,16,62,63,64,109,110,111] [(77,some (.box 50 [.own 87,iV .u64 t2484.2])),(87,some (.row 1 5 (t2484.1.map (Z1 .u8))))] [77,79,80,81,82,83,84,87] [_,_,_,_,_,_,_,_] ⟨p2479,Z1u (Z1 .u64) p2479 q2480,Zf (Z1 .u64) q2480,p2482,Z1u (Z1 .u64) p2482 q2483,Zf (Z1 .u64) q2483,Tryz.call22,Zy.ok x2419 x2420 (i64.wrap (u64.wrap (b2478-b2481))) t2484 e2485,trivial⟩ ?_
           obtain rfl:=sj H
           exact lf [(77,88),(87,89),(79,90),(80,91),(81,92),(82,93),(83,94),(84,95)] [] [] (by kernel_rfl) ⟨rfl,rfl⟩
         ·obtain⟨x2486,x2487,x2488⟩:=o2515
          rintro e s ⟨rfl,rfl⟩
          obtain rfl:=sj H
          exact lf [(88,96),(89,97),(90,98),(91,99),(92,100),(93,101),(94,102),(95,103)] [] [] (by kernel_rfl) ⟨rfl,rfl⟩
       ·obtain⟨x2489,x2490,x2491⟩:=o2513
        rintro e s ⟨rfl,rfl⟩
        refine rO hP hn hm [] [(111,iV .i64 (i64.wrap (x2422+(1:Int))))] [5,7,8,9,10,11,12,13,15,16,62,63,64,109,110,111] [] [96,97,98,99,100,101,102,103] ?_
        exact LWp.conv [(96,77),(97,78),(98,79),(99,80),(100,81),(101,82),(102,83),(103,84)] [] [] (by kernel_rfl) (ih _ _ _ _ _ H)
      ·replace H:=iF c2423 H
       refine AWp.exit ?_
       obtain rfl:=sj H
       exact lf [(77,104),(78,105),(79,106),(80,107),(83,108),(84,109)] [] [] (by kernel_rfl) ⟨rfl,rfl⟩
     ·obtain⟨x2492,x2493,x2494⟩:=o2511
      rintro e s ⟨rfl,rfl⟩
      refine rO hP hn hm [] [(9,.own 108),(10,.own 109)] [5,7,8,9,10,11,12,62,63,64] [] [104,105,106,107,108,109] ?_
      refine rO hP hn hm [] [(64,iV .i64 (i64.wrap (x2318+(1:Int))))] [5,7,8,9,10,11,12,62,63,64] [] [104,105,106,107,108,109] ?_
      exact LWp.conv [(104,30),(105,31),(106,32),(107,33),(108,34),(109,35)] [] [] (by kernel_rfl) (ih _ _ _ _ _ _ _ _ H)
   ·replace H:=iF c2319 H
    refine AWp.exit ?_
    obtain rfl:=sj H
    exact lf [(30,110),(31,111)] [] [] (by kernel_rfl) ⟨rfl,rfl⟩
  ·obtain⟨x2495,x2496⟩:=o2505
   rintro e s ⟨rfl,rfl⟩
   obtain⟨t2503,e2504,H⟩:=Z3 H
   refine sR hP hn hm [(1,.call [(110,0),(111,1)] [(0,110),(1,111),(2,112)] [] [112] 2 (.own 2) [(0,some (.box 50 [.own 1,iV .u64 x2496])),(1,some (.row 1 5 (x2495.map (Z1 .u8)))),(2,some (.row 1 5 (t2503.map (Z1 .u8))))])] [(2,.own 112),(3,iV .i64 0)] [2,3] [(112,some (.row 1 5 (t2503.map (Z1 .u8))))] [112] [_,_] ⟨Tryz.call26,Z20.ok x2495 x2496 t2503 e2504,trivial⟩ ?_
   refine AWp.conv (inv:=[(112,0)]) (vk:=[]) (e0:=[]) (t:=⟨[(2,.own 0),(3,iV .i64 0)],[(0,some (.row 1 5 (t2503.map (Z1 .u8))))],0⟩) (by kernel_rfl) ?_
   refine AWp.ret ?_
   obtain rfl:=sj H
   exact rl (.inl rfl) rfl (by kernel_rfl) (by kernel_rfl)
def Z4k.f (a0:List Int):Option (Unit):=some ()
theorem Z4k.ok (a0:List Int) (r:Unit) (H:Z4k.f a0=some r):Pv.Fn Tryz.prog 28 [.im (.row (a0.map (Z1 .u8)))] [] 0 (fun x o=>x = .ptr 0 0 0∧o=[(0,some (.box 111 (Z5 ⟨a0,0,0⟩)))]):=by
 unfold Z4k.f at H
 refine Fn.bodyK [0] Tryz.func28 rfl rfl (fun Γ hP hn => ?_)
 have hm:Tryz.prog.follows .mixedOrders=true:=by kernel_rfl
 replace hn:Γ.n=6:=hn
 refine sO hP hn hm [] [] [0] [] [] ?_
 refine sO hP hn hm [(2,.k 0)] [(2,.ptr 0 0 0)] [2] [(0,some (.box 111 (Z5 ⟨a0,0,0⟩)))] [0] ?_
 refine AWp.conv (inv:=[(0,0)]) (vk:=[]) (e0:=[]) (t:=⟨[(2,.ptr 0 0 0)],[(0,some (.box 111 (Z5 ⟨a0,0,0⟩)))],0⟩) (by kernel_rfl) ?_
 refine AWp.ret ?_
 obtain rfl:=sj H
 exact rl (.inl rfl) rfl (by kernel_rfl) (by kernel_rfl)
def Zw.f (a0_c0:List Int) (a0_c1:Int) (a0_c2:Int) (a1:Int):Option (Int):=((if(a0_c2==(0:Int))=true then(some a1) else(some a0_c2)):Option (Int))>>=fun x2530=>some x2530
theorem Zw.ok (a0_c0:List Int) (a0_c1:Int) (a0_c2:Int) (a1:Int) (r:Int) (H:Zw.f a0_c0 a0_c1 a0_c2 a1=some r):Pv.Fn Tryz.prog 65 [.ptr 0 0 0,iV .i64 a1] [(0,some (.box 111 (Z5 ⟨a0_c0,a0_c1,a0_c2⟩)))] 1 (fun x o=>x = .tup []∧o=[(0,some (.box 111 (Z5 ⟨a0_c0,a0_c1,r⟩)))]):=by
 unfold Zw.f at H
 refine Fn.bodyK [0] Tryz.func65 rfl rfl (fun Γ hP hn => ?_)
 have hm:Tryz.prog.follows .mixedOrders=true:=by kernel_rfl
 replace hn:Γ.n=13:=hn
 refine sO hP hn hm [] [(8,bV (a0_c2==(0:Int)))] [0,1,8] [] [0] ?_
 obtain⟨o2531,e2532,H⟩:=Z3 H
 refine AWp.mono (Q:=fun e s=>(match (generalizing:=false) o2531 with | x2530=>e = .normal∧s=⟨[],[(0,some (.box 111 (Z5 ⟨a0_c0,a0_c1,x2530⟩)))],1⟩)) (AWp.cv ?_) ?_
 ·replace H:=e2532;clear e2532
  refine AWp.cond (a0_c2==(0:Int)) (by kernel_rfl) (fun c2529 => ?_) (fun c2529 => ?_)
  ·replace H:=iT c2529 H
   refine rO hP hn hm [] [] [] [(0,some (.box 111 (Z5 ⟨a0_c0,a0_c1,a1⟩)))] [0] ?_
   obtain rfl:=sj H
   exact lf [(0,0)] [] [] (by kernel_rfl) ⟨rfl,rfl⟩
  ·replace H:=iF c2529 H
   refine AWp.skip ?_
   obtain rfl:=sj H
   exact lf [(0,0)] [] [] (by kernel_rfl) ⟨rfl,rfl⟩
 ·obtain⟨x2530,rfl⟩:∃ z,z=o2531:=⟨_,rfl⟩
  rintro e s ⟨rfl,rfl⟩
  obtain rfl:=sj H
  exact Exists.intro ⟨[],[(0,some (.box 111 (Z5 ⟨a0_c0,a0_c1,x2530⟩)))],1⟩ (And.intro (fun _ _ h=>h.conv (inv:=[(0,0)]) (vk:=[]) (e0:=[]) (t:=⟨[],[(0,some (.box 111 (Z5 ⟨a0_c0,a0_c1,x2530⟩)))],1⟩) (by kernel_rfl)) (And.intro (.inr rfl) (And.intro rfl (And.intro (by kernel_rfl) (by kernel_rfl)))))
def Z0h.f (a0_c0:List Int) (a0_c1:Int) (a0_c2:Int):Option (Bool×Int×Int):=((if(a0_c2 != (0:Int))=true then(some true) else(some (decide (a0_c1≥(i64.wrap ((8:Int)*(a0_c0.length:Int))))))):Option (Bool))>>=fun x2527=>if x2527=true then((Zw.f a0_c0 a0_c1 a0_c2 7)>>=fun t2535=>some (false,a0_c1,t2535)) else((at? a0_c0 (i64.wrap (Int.tdiv a0_c1 (8:Int))))>>=fun b2541=>(chk (0≤(u64.wrap ((7:Int)-(u64.wrap (Int.tmod a0_c1 (8:Int)))))))>>=fun _=>some (((u8.wrap (((BitVec.toNat (BitVec.ofInt 8 (Int.fdiv b2541 (2 ^ (min (Int.toNat (u64.wrap ((7:Int)-(u64.wrap (Int.tmod a0_c1 (8:Int)))))) 8))) &&& BitVec.ofInt 8 (1:Int)):Nat):Int)))==(1:Int)),i64.wrap (a0_c1+(1:Int)),a0_c2))
theorem Z0h.ok (a0_c0:List Int) (a0_c1:Int) (a0_c2:Int) (r:Bool×Int×Int) (H:Z0h.f a0_c0 a0_c1 a0_c2=some r):Pv.Fn Tryz.prog 29 [.ptr 0 0 0] [(0,some (.box 111 (Z5 ⟨a0_c0,a0_c1,a0_c2⟩)))] 1 (fun x o=>x=bV r.1∧o=[(0,some (.box 111 (Z5 ⟨a0_c0,r.2.1,r.2.2⟩)))]):=by
 unfold Z0h.f at H
 refine Fn.bodyK [0] Tryz.func29 rfl rfl (fun Γ hP hn => ?_)
 have hm:Tryz.prog.follows .mixedOrders=true:=by kernel_rfl
 replace hn:Γ.n=53:=hn
 refine sO hP hn hm [] [] [0] [] [0] ?_
 refine AWp.seq ?_
 refine AWp.seq ?_
 obtain⟨o2545,e2546,H⟩:=Z3 H
 refine AWp.mono (Q:=fun e s=>(match (generalizing:=false) o2545 with | x2527=>e = .normal∧s=⟨[(0,.ptr 0 0 0),(21,bV x2527)],[(0,some (.box 111 (Z5 ⟨a0_c0,a0_c1,a0_c2⟩)))],1⟩)) (AWp.cv ?_) ?_
 ·replace H:=e2546;clear e2546
  rcases Bool.eq_false_or_eq_true (a0_c2 != (0:Int)) with c2526 | c2526
  ·replace H:=iT c2526 H
   refine rG hP hn hm [(5,.b true)] [(21,bV true)] [0,21] [] [0] [_] ⟨c2526,trivial⟩ ?_
   obtain rfl:=sj H
   exact lf [(0,0)] [] [] (by kernel_rfl) ⟨rfl,rfl⟩
  ·replace H:=iF c2526 H
   refine rG hP hn hm [(5,.b false),(14,.any (iV .i64 (a0_c0.length:Int)))] [(21,bV (decide (a0_c1≥(i64.wrap ((8:Int)*(a0_c0.length:Int))))))] [0,21] [] [0] [_,((a0_c0.map (Z1 .u8)).length:Int)=(a0_c0.length:Int)] ⟨c2526,by rw[Zi],trivial⟩ ?_
   obtain rfl:=sj H
   exact lf [(0,0)] [] [] (by kernel_rfl) ⟨rfl,rfl⟩
 ·obtain⟨x2527,rfl⟩:∃ z,z=o2545:=⟨_,rfl⟩
  rintro e s ⟨rfl,rfl⟩
  refine AWp.cond x2527 (by kernel_rfl) (fun c2528 => ?_) (fun c2528 => ?_)
  ·replace H:=iT c2528 H
   obtain⟨t2535,e2536,H⟩:=Z3 H
   refine sR hP hn hm [(1,.call [(0,0)] [(0,0)] [] [] 1 (.tup []) [(0,some (.box 111 (Z5 ⟨a0_c0,a0_c1,t2535⟩)))])] [] [] [(0,some (.box 111 (Z5 ⟨a0_c0,a0_c1,t2535⟩)))] [0] [_,_] ⟨Tryz.call65,Zw.ok a0_c0 a0_c1 a0_c2 7 t2535 e2536,trivial⟩ ?_
   refine sO hP hn hm [] [(2,bV false)] [2] [] [0] ?_
   refine AWp.conv (inv:=[(0,0)]) (vk:=[]) (e0:=[]) (t:=⟨[(2,bV false)],[(0,some (.box 111 (Z5 ⟨a0_c0,a0_c1,t2535⟩)))],1⟩) (by kernel_rfl) ?_
   refine AWp.ret ?_
   obtain rfl:=sj H
   exact rl (.inl rfl) rfl (by kernel_rfl) (by kernel_rfl)
  ·replace H:=iF c2528 H
   refine AWp.skip ?_
   obtain⟨b2541,p2542,q2543,H⟩:=Z03 H
   obtain⟨c2544,H⟩:=Z0q H
   refine sR hP hn hm [(9,.c ((Z1 .u8) b2541))] [(3,bV ((u8.wrap (((BitVec.toNat (BitVec.ofInt 8 (Int.fdiv b2541 (2 ^ (min (Int.toNat (u64.wrap ((7:Int)-(u64.wrap (Int.tmod a0_c1 (8:Int)))))) 8))) &&& BitVec.ofInt 8 (1:Int)):Nat):Int)))==(1:Int)))] [0,3] [] [0] [(8:Int)≠0,_,_,(8:Int)≠0,_] ⟨by decide,p2542,Zf (Z1 .u8) q2543,by decide,c2544,trivial⟩ ?_
   refine sO hP hn hm [] [] [3] [(0,some (.box 111 (Z5 ⟨a0_c0,(i64.wrap (a0_c1+(1:Int))),a0_c2⟩)))] [0] ?_
   refine sO hP hn hm [] [(2,bV ((u8.wrap (((BitVec.toNat (BitVec.ofInt 8 (Int.fdiv b2541 (2 ^ (min (Int.toNat (u64.wrap ((7:Int)-(u64.wrap (Int.tmod a0_c1 (8:Int)))))) 8))) &&& BitVec.ofInt 8 (1:Int)):Nat):Int)))==(1:Int)))] [2] [] [0] ?_
   refine AWp.conv (inv:=[(0,0)]) (vk:=[]) (e0:=[]) (t:=⟨[(2,bV ((u8.wrap (((BitVec.toNat (BitVec.ofInt 8 (Int.fdiv b2541 (2 ^ (min (Int.toNat (u64.wrap ((7:Int)-(u64.wrap (Int.tmod a0_c1 (8:Int)))))) 8))) &&& BitVec.ofInt 8 (1:Int)):Nat):Int)))==(1:Int)))],[(0,some (.box 111 (Z5 ⟨a0_c0,(i64.wrap (a0_c1+(1:Int))),a0_c2⟩)))],1⟩) (by kernel_rfl) ?_
   refine AWp.ret ?_
   obtain rfl:=sj H
   exact rl (.inl rfl) rfl (by kernel_rfl) (by kernel_rfl)
end Go.Proofs.YtlclecehlekjoaaGreat.PvGK
