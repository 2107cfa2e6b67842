import Derived.Test.YtlclecehlekjoaaProg
import Derived.Test.YtlclecehlekjoaaPxChunkParts06
set_option linter.unusedVariables false
set_option linter.unnecessarySimpa false
set_option linter.unusedSimpArgs false
set_option maxRecDepth 10000
namespace Go.Proofs.Ytlclecehlekjoaa.PvGE
open Go Go.Pv Go.IntKind
def Z03.l1 (a0:List Z2) (b1371:Z2) (x1364:List Z2) (x1365:List Z2) (x1366:Int) (x1384:Unit):Option (((List Z2)×Bool) ⊕ Unit):=((if(decide ((x1364.length:Int)>(0:Int)))=true then((at? x1364 0)>>=fun b1379=>some (decide (b1379.f0<b1371.f0))) else(some false)):Option (Bool))>>=fun x1382=>if x1382=true then(some (.inl ([],false))) else(some (.inr ()))
def Z03.l0 (a0:List Z2) (x1364:List Z2) (x1365:List Z2) (x1366:Int):Option (((List Z2)×Bool) ⊕ ((List Z2)×(List Z2))):=if(decide (x1366<(a0.length:Int)))=true then((at? a0 x1366)>>=fun b1371=>(Z03.l1 a0 b1371 x1364 x1365 x1366 ())>>=fun oo=>match oo with | .inl rr=>(some (.inl rr)) | .inr _=>(((if(decide ((x1364.length:Int)>(0:Int)))=true then((at? x1364 0)>>=fun b1390=>some (b1390.f0==b1371.f0)) else(some false)):Option (Bool))>>=fun x1393=>((if x1393=true then((at? x1364 0)>>=fun b1398=>if(decide (b1398.f1>b1371.f1))=true then(some (.inl ([],false))) else((chk (0≤(1:Int)∧(1:Int)≤(x1364.length:Int)∧(x1364.length:Int)≤(x1364.length:Int)))>>=fun _=>some (.inr ((x1364.drop (Int.toNat ((1:Int)))).take ((Int.toNat ((x1364.length:Int)))-(Int.toNat ((1:Int)))),u64.wrap (b1371.f1-b1398.f1))))) else(some (.inr (x1364,b1371.f1)))):Option (((List Z2)×Bool) ⊕ ((List Z2)×Int)))>>=fun oo=>match oo with | .inl rr=>(some (.inl rr)) | .inr (x1404,x1405)=>((chk ((x1365.length+[(⟨b1371.f0,x1405⟩:Z2)].length)*16≤140737488355328))>>=fun _=>Z03.l0 a0 x1404 (x1365++[(⟨b1371.f0,x1405⟩:Z2)]) (i64.wrap (x1366+(1:Int)))))) else(some (.inr (x1364,x1365)))
partial_fixpoint
def Z03.f (a0:List Z2) (a1:List Z2):Option ((List Z2)×Bool):=(Z03.l0 a0 a1 [] 0)>>=fun oo=>match oo with | .inl rr=>(some rr) | .inr (x1408,x1409)=>(some (x1409,((x1408.length:Int)==(0:Int))))
theorem Z03.ok (a0:List Z2) (a1:List Z2) (r:(List Z2)×Bool) (H:Z03.f a0 a1=some r):Pv.Fn Try.prog 70 [.im (.row (a0.map Z0)),.im (.row (a1.map Z0))] [] 0 (fun x o=>x = .tup [.own 0,bV r.2]∧o=[(0,some (.row 2 78 (r.1.map Z0)))]):=by
 unfold Z03.f at H
 refine Fn.bodyK [0] Try.func70 rfl rfl (fun Γ hP hn => ?_)
 have hm:Try.prog.follows .mixedOrders=true:=by kernel_rfl
 replace hn:Γ.n=65:=hn
 refine sO hP hn hm [] [] [0,1] [] [] ?_
 refine sO hP hn hm [] [(6,.none0)] [0,1,6] [] [] ?_
 refine AWp.seq ?_
 refine sR hP hn hm [(1,.any (iV .i64 (a0.length:Int)))] [(9,.im (.row (a0.map Z0))),(10,iV .i64 (a0.length:Int)),(11,iV .i64 0)] [1,6,9,10,11] [] [] [((a0.map Z0).length:Int)=(a0.length:Int)] ⟨by rw[Zi],trivial⟩ ?_
 refine AWp.block ?_
 obtain⟨o1410,e1411,H⟩:=Z4 H
 refine AWp.loop (LWp.conv (inv:=[]) (vk:=[]) (e0:=[7]) (t:=⟨[(1,.im (.row (a1.map Z0))),(6,.own 7),(9,.im (.row (a0.map Z0))),(10,iV .i64 (a0.length:Int)),(11,iV .i64 0)],[(7,some (.row 2 78 ([].map Z0)))],0⟩) (by kernel_rfl) ?_)
 refine LWp.mono (Q:=fun e s=>(match (generalizing:=false) o1410 with | .inl rr=>e = .ret∧s.floor=0∧Z2c Try.prog Try.f70 s=some (.tup [.own 0,bV rr.2])∧([(0,s.obj 0)]:List (Nat×Option MObj))=[(0,some (.row 2 78 (rr.1.map Z0)))] | .inr (x1408,x1409)=>e = .exit 0∧s=⟨[(1,.im (.row (x1408.map Z0))),(6,.own 19)],[(19,some (.row 2 78 (x1409.map Z0)))],0⟩)) (LWp.cv (Zt (fun body hbody => ?_))) ?_
 ·refine         Z03.l0.partial_correctness a0 (motive:=fun x1364 x1365 x1366 o1410=>LWp Γ body (fun e s=>∃ t,Cv Γ s t∧(match (generalizing:=false) o1410 with | .inl rr=>e = .ret∧t.floor=0∧Z2c   Try.prog Try.f70 t=some (.tup [.own 0,bV rr.2])∧([(0,t.obj 0)]:List (Nat×Option MObj))=[(0,some (.row 2 78 (rr.1.map Z0     )))] | .inr (x1408,x1409)=>e = .exit 0∧t=⟨[(1,.im (.row (x1408.map Z0     ))),(6,.own 19)],[(19,some (.row 2 78 (x1409.map Z0     )))],0⟩)) ⟨[(1,.im (.row (x1364.map Z0     ))),(6,.own 7),(9,.im (.row (a0.map Z0     ))),(10,iV .i64 (a0.length:Int)),(11,iV .i64 x1366)],[(7,some (.row 2 78 (x1365.map Z0     )))],0⟩) ?_ _ _ _ _ e1411
  clear H e1411 o1410;intro self ih x1364 x1365 x1366 o1410 H
  subst hbody
  refine LWp.round ?_
  refine sO hP hn hm [] [(12,bV (decide (x1366<(a0.length:Int))))] [1,6,9,10,11,12] [] [7] ?_
  refine AWp.seq ?_
  refine AWp.cond (decide (x1366<(a0.length:Int))) (by kernel_rfl) (fun c1367 => ?_) (fun c1367 => ?_)
  ·replace H:=iT c1367 H
   refine AWp.skip ?_
   refine AWp.seq ?_
   refine AWp.block ?_
   obtain⟨b1371,p1372,q1373,H⟩:=Z0d H
   refine sR hP hn hm [(0,.c (Z0 b1371)),(2,.k 8)] [(8,.ptr 8 0 0)] [1,6,8,9,10,11] [(8,some (.box 78 (Z1o b1371)))] [7,8] [_,_] ⟨p1372,Zk Z0 q1373,trivial⟩ ?_
   refine AWp.seq ?_
   refine AWp.block ?_
   obtain⟨o1412,e1413,H⟩:=Z4 H
   refine AWp.loop (LWp.conv (inv:=[(7,7),(8,8)]) (vk:=[]) (e0:=[]) (t:=⟨[(1,.im (.row (x1364.map Z0))),(6,.own 7),(8,.ptr 8 0 0),(9,.im (.row (a0.map Z0))),(10,iV .i64 (a0.length:Int)),(11,iV .i64 x1366)],[(7,some (.row 2 78 (x1365.map Z0))),(8,some (.box 78 (Z1o b1371)))],0⟩) (by kernel_rfl) ?_)
   refine LWp.mono (Q:=fun e s=>(match (generalizing:=false) o1412 with | .inl rr=>e = .ret∧s.floor=0∧Z2c Try.prog Try.f70 s=some (.tup [.own 0,bV rr.2])∧([(0,s.obj 0)]:List (Nat×Option MObj))=[(0,some (.row 2 78 (rr.1.map Z0)))] | .inr _=>e = .exit 2∧s=⟨[(1,.im (.row (x1364.map Z0))),(6,.own 11),(8,.ptr 12 0 0),(9,.im (.row (a0.map Z0))),(10,iV .i64 (a0.length:Int)),(11,iV .i64 x1366)],[(11,some (.row 2 78 (x1365.map Z0))),(12,some (.box 78 (Z1o b1371)))],0⟩)) (LWp.cv (Zt (fun body hbody => ?_))) ?_
   ·refine(show ∀ x1384 o1412,        Z03.l1 a0 b1371 x1364 x1365 x1366 x1384=some o1412→LWp Γ body (fun e s=>∃ t,Cv Γ s t∧(match (generalizing:=false) o1412 with | .inl rr=>e = .ret∧t.floor=0∧Z2c   Try.prog Try.f70 t=some (.tup [.own 0,bV rr.2])∧([(0,t.obj 0)]:List (Nat×Option MObj))=[(0,some (.row 2 78 (rr.1.map Z0     )))] | .inr _=>e = .exit 2∧t=⟨[(1,.im (.row (x1364.map Z0     ))),(6,.own 11),(8,.ptr 12 0 0),(9,.im (.row (a0.map Z0     ))),(10,iV .i64 (a0.length:Int)),(11,iV .i64 x1366)],[(11,some (.row 2 78 (x1365.map Z0     ))),(12,some (.box 78 (Z1o     b1371)))],0⟩)) ⟨[(1,.im (.row (x1364.map Z0     ))),(6,.own 7),(8,.ptr 8 0 0),(9,.im (.row (a0.map Z0     ))),(10,iV .i64 (a0.length:Int)),(11,iV .i64 x1366)],[(7,some (.row 2 78 (x1365.map Z0     ))),(8,some (.box 78 (Z1o     b1371)))],0⟩ from ?_) _ _ e1413
    clear H e1413 o1412;intro x1384 o1412 H
    unfold Z03.l1 at H
    subst hbody
    refine LWp.round ?_
    refine AWp.seq ?_
    refine AWp.seq ?_
    obtain⟨o1414,e1415,H⟩:=Z4 H
    refine AWp.mono (Q:=fun e s=>(match (generalizing:=false) o1414 with | x1382=>e = .normal∧s=⟨[(1,.im (.row (x1364.map Z0))),(6,.own 9),(8,.ptr 10 0 0),(9,.im (.row (a0.map Z0))),(10,iV .i64 (a0.length:Int)),(11,iV .i64 x1366),(26,bV x1382)],[(9,some (.row 2 78 (x1365.map Z0))),(10,some (.box 78 (Z1o b1371)))],0⟩)) (AWp.cv ?_) ?_
    ·replace H:=e1415;clear e1415
     rcases Bool.eq_false_or_eq_true (decide ((x1364.length:Int)>(0:Int))) with c1378 | c1378
     ·replace H:=iT c1378 H
      obtain⟨b1379,p1380,q1381,H⟩:=Z0d H
      refine rG hP hn hm [(1,.any (iV .i64 (x1364.length:Int))),(3,.b true),(5,.c (Z0 b1379))] [(19,.im (.row (x1364.map Z0))),(20,.ip [iI .i64 b1379.f0,iI .u64 b1379.f1]),(21,.ip [iI .i64 b1379.f0,iI .u64 b1379.f1]),(22,iV .i64 b1379.f0),(23,.ptr 8 0 0),(24,iV .i64 b1371.f0),(25,bV (decide (b1379.f0<b1371.f0))),(26,bV (decide (b1379.f0<b1371.f0)))] [1,6,8,9,10,11,19,20,21,22,23,24,25,26] [] [7,8] [((x1364.map Z0).length:Int)=(x1364.length:Int),_,_,_] ⟨by rw[Zi],c1378,p1380,Zk Z0 q1381,trivial⟩ ?_
      obtain rfl:=sj H
      exact lf [(7,9),(8,10)] [] [] (by kernel_rfl) ⟨rfl,rfl⟩
     ·replace H:=iF c1378 H
      refine rG hP hn hm [(1,.any (iV .i64 (x1364.length:Int))),(3,.b false)] [(26,bV false)] [1,6,8,9,10,11,26] [] [7,8] [((x1364.map Z0).length:Int)=(x1364.length:Int),_] ⟨by rw[Zi],c1378,trivial⟩ ?_
      obtain rfl:=sj H
      exact lf [(7,9),(8,10)] [] [] (by kernel_rfl) ⟨rfl,rfl⟩
    ·obtain⟨x1382,rfl⟩:∃ z,z=o1414:=⟨_,rfl⟩
     rintro e s ⟨rfl,rfl⟩
     refine AWp.cond x1382 (by kernel_rfl) (fun c1383 => ?_) (fun c1383 => ?_)
     ·replace H:=iT c1383 H
      refine AWp.skip ?_
      refine AWp.block ?_
      refine sO hP hn hm [] [(4,.none0),(5,bV false)] [4,5] [] [] ?_
      refine AWp.conv (inv:=[]) (vk:=[]) (e0:=[0]) (t:=⟨[(4,.own 0),(5,bV false)],[(0,some (.row 2 78 ([].map Z0)))],0⟩) (by kernel_rfl) ?_
      refine AWp.ret ?_
      obtain rfl:=sj H
      exact rl rfl rfl (by kernel_rfl) (by kernel_rfl)
     ·replace H:=iF c1383 H
      refine AWp.exit ?_
      obtain rfl:=sj H
      exact lf [(9,11),(10,12)] [] [] (by kernel_rfl) ⟨rfl,rfl⟩
   ·rcases o1412 with rr | _
    ·skip
     rintro e s ⟨rfl,hfl,hres⟩
     obtain rfl:=sj H
     exact Exists.intro _ (And.intro (fun _ _ h=>h) (And.intro rfl (And.intro hfl hres)))
    ·skip
     rintro e s ⟨rfl,rfl⟩
     refine AWp.seq ?_
     refine AWp.seq ?_
     obtain⟨o1416,e1417,H⟩:=Z4 H
     refine AWp.mono (Q:=fun e s=>(match (generalizing:=false) o1416 with | x1393=>e = .normal∧s=⟨[(1,.im (.row (x1364.map Z0))),(6,.own 13),(8,.ptr 14 0 0),(9,.im (.row (a0.map Z0))),(10,iV .i64 (a0.length:Int)),(11,iV .i64 x1366),(38,bV x1393)],[(13,some (.row 2 78 (x1365.map Z0))),(14,some (.box 78 (Z1o b1371)))],0⟩)) (AWp.cv ?_) ?_
     ·replace H:=e1417;clear e1417
      rcases Bool.eq_false_or_eq_true (decide ((x1364.length:Int)>(0:Int))) with c1389 | c1389
      ·replace H:=iT c1389 H
       obtain⟨b1390,p1391,q1392,H⟩:=Z0d H
       refine rG hP hn hm [(1,.any (iV .i64 (x1364.length:Int))),(3,.b true),(5,.c (Z0 b1390))] [(31,.im (.row (x1364.map Z0))),(32,.ip [iI .i64 b1390.f0,iI .u64 b1390.f1]),(33,.ip [iI .i64 b1390.f0,iI .u64 b1390.f1]),(34,iV .i64 b1390.f0),(35,.ptr 12 0 0),(36,iV .i64 b1371.f0),(37,bV (b1390.f0==b1371.f0)),(38,bV (b1390.f0==b1371.f0))] [1,6,8,9,10,11,31,32,33,34,35,36,37,38] [] [11,12] [((x1364.map Z0).length:Int)=(x1364.length:Int),_,_,_] ⟨by rw[Zi],c1389,p1391,Zk Z0 q1392,trivial⟩ ?_
       obtain rfl:=sj H
       exact lf [(11,13),(12,14)] [] [] (by kernel_rfl) ⟨rfl,rfl⟩
      ·replace H:=iF c1389 H
       refine rG hP hn hm [(1,.any (iV .i64 (x1364.length:Int))),(3,.b false)] [(38,bV false)] [1,6,8,9,10,11,38] [] [11,12] [((x1364.map Z0).length:Int)=(x1364.length:Int),_] ⟨by rw[Zi],c1389,trivial⟩ ?_
       obtain rfl:=sj H
       exact lf [(11,13),(12,14)] [] [] (by kernel_rfl) ⟨rfl,rfl⟩
     ·obtain⟨x1393,rfl⟩:∃ z,z=o1416:=⟨_,rfl⟩
      rintro e s ⟨rfl,rfl⟩
      obtain⟨o1418,e1419,H⟩:=Z4 H
      refine AWp.mono (Q:=fun e s=>(match (generalizing:=false) o1418 with | .inl rr=>e = .ret∧s.floor=0∧Z2c Try.prog Try.f70 s=some (.tup [.own 0,bV rr.2])∧([(0,s.obj 0)]:List (Nat×Option MObj))=[(0,some (.row 2 78 (rr.1.map Z0)))] | .inr (x1404,x1405)=>e = .normal∧s=⟨[(1,.im (.row (x1404.map Z0))),(6,.own 15),(8,.ptr 16 0 0),(9,.im (.row (a0.map Z0))),(10,iV .i64 (a0.length:Int)),(11,iV .i64 x1366)],[(15,some (.row 2 78 (x1365.map Z0))),(16,some (.box 78 (Z1o ⟨b1371.f0,x1405⟩)))],0⟩)) (AWp.cv ?_) ?_
      ·replace H:=e1419;clear e1419
       refine AWp.cond x1393 (by kernel_rfl) (fun c1394 => ?_) (fun c1394 => ?_)
       ·replace H:=iT c1394 H
        refine AWp.seq ?_
        obtain⟨b1398,p1399,q1400,H⟩:=Z0d H
        refine sR hP hn hm [(1,.c (Z0 b1398))] [(45,bV (decide (b1398.f1>b1371.f1)))] [1,6,8,9,10,11,45] [] [13,14] [_,_] ⟨p1399,Zk Z0 q1400,trivial⟩ ?_
        refine AWp.cond (decide (b1398.f1>b1371.f1)) (by kernel_rfl) (fun c1401 => ?_) (fun c1401 => ?_)
        ·replace H:=iT c1401 H
         refine sO hP hn hm [] [(4,.none0),(5,bV false)] [4,5] [] [] ?_
         refine AWp.conv (inv:=[]) (vk:=[]) (e0:=[0]) (t:=⟨[(4,.own 0),(5,bV false)],[(0,some (.row 2 78 ([].map Z0)))],0⟩) (by kernel_rfl) ?_
         refine AWp.ret ?_
         obtain rfl:=sj H
         exact rl rfl rfl (by kernel_rfl) (by kernel_rfl)
        ·replace H:=iF c1401 H
         refine AWp.skip ?_
         refine sR hP hn hm [(3,.c (Z0 b1398))] [] [1,6,8,9,10,11] [(14,some (.box 78 (Z1o ⟨b1371.f0,(u64.wrap (b1371.f1-b1398.f1))⟩)))] [13,14] [_,_] ⟨p1399,Zk Z0 q1400,trivial⟩ ?_
         obtain⟨c1403,H⟩:=Z0x H
         refine rG hP hn hm [(1,.rows (((x1364.drop (Int.toNat ((1:Int)))).take ((Int.toNat ((x1364.length:Int)))-(Int.toNat ((1:Int))))).map Z0))] [(1,.im (.row (((x1364.drop (Int.toNat ((1:Int)))).take ((Int.toNat ((x1364.length:Int)))-(Int.toNat ((1:Int))))).map Z0)))] [1,6,8,9,10,11] [] [13,14] [0≤(1:Int),(1:Int)≤((x1364.map Z0).length:Int),((x1364.map Z0).length:Int)≤((x1364.map Z0).length:Int),∀ c∈x1364.map Z0,c.length=2,((x1364.drop (Int.toNat ((1:Int)))).take ((Int.toNat ((x1364.length:Int)))-(Int.toNat ((1:Int))))).map Z0=((x1364.map Z0).drop (Int.toNat ((1:Int)))).take ((Int.toNat (((x1364.map Z0).length:Int)))-(Int.toNat ((1:Int))))] ⟨by exact c1403.1,by simpa using c1403.2.1,by simpa using c1403.2.2,by exact Z0o _ _ _ (fun _=>rfl),by simp[cut1],trivial⟩ ?_
         obtain rfl:=sj H
         exact lf [(13,15),(14,16)] [] [] (by kernel_rfl) ⟨rfl,rfl⟩
       ·replace H:=iF c1394 H
        refine AWp.skip ?_
        obtain rfl:=sj H
        exact lf [(13,15),(14,16)] [] [] (by kernel_rfl) ⟨rfl,rfl⟩
      ·rcases o1418 with rr | ⟨x1404,x1405⟩
       ·skip
        rintro e s ⟨rfl,hfl,hres⟩
        obtain rfl:=sj H
        exact Exists.intro _ (And.intro (fun _ _ h=>h) (And.intro rfl (And.intro hfl hres)))
       ·skip
        rintro e s ⟨rfl,rfl⟩
        obtain⟨c1407,H⟩:=Z0x H
        refine rG hP hn hm [(2,.app 17 ([(⟨b1371.f0,x1405⟩:Z2)].map Z0)),(3,.app 18 ((x1365++[(⟨b1371.f0,x1405⟩:Z2)]).map Z0))] [(6,.own 18)] [1,6,9,10,11] [(18,some (.row 2 78 ((x1365++[(⟨b1371.f0,x1405⟩:Z2)]).map Z0)))] [18] [[(⟨b1371.f0,x1405⟩:Z2)].map Z0=[[iI .i64 b1371.f0,iI .u64 x1405]],(x1365++[(⟨b1371.f0,x1405⟩:Z2)]).map Z0=(x1365.map Z0)++([(⟨b1371.f0,x1405⟩:Z2)].map Z0),∀ c∈([(⟨b1371.f0,x1405⟩:Z2)].map Z0),c.length=2,∀ c∈([(⟨b1371.f0,x1405⟩:Z2)].map Z0),Z0k (c.map .im)=true,((x1365.map Z0).length+([(⟨b1371.f0,x1405⟩:Z2)].map Z0).length)*16≤140737488355328] ⟨by exact rfl,by simp,by exact Z0o _ _ _ (fun _=>rfl),by exact Z0p _ _ (fun _=>rfl),by simpa using c1407,trivial⟩ ?_
        refine rO hP hn hm [] [(11,iV .i64 (i64.wrap (x1366+(1:Int))))] [1,6,9,10,11] [] [18] ?_
        exact LWp.conv [(18,7)] [] [] (by kernel_rfl) (ih _ _ _ _ H)
  ·replace H:=iF c1367 H
   refine AWp.exit ?_
   obtain rfl:=sj H
   exact lf [(7,19)] [] [] (by kernel_rfl) ⟨rfl,rfl⟩
 ·rcases o1410 with rr | ⟨x1408,x1409⟩
  ·skip
   rintro e s ⟨rfl,hfl,hres⟩
   obtain rfl:=sj H
   exact Exists.intro _ (And.intro (fun _ _ h=>h) (And.intro (.inl rfl) (And.intro hfl hres)))
  ·skip
   rintro e s ⟨rfl,rfl⟩
   refine sR hP hn hm [(2,.any (iV .i64 (x1408.length:Int)))] [(4,.own 19),(5,bV ((x1408.length:Int)==(0:Int)))] [4,5] [] [19] [((x1408.map Z0).length:Int)=(x1408.length:Int)] ⟨by rw[Zi],trivial⟩ ?_
   refine AWp.conv (inv:=[(19,0)]) (vk:=[]) (e0:=[]) (t:=⟨[(4,.own 0),(5,bV ((x1408.length:Int)==(0:Int)))],[(0,some (.row 2 78 (x1409.map Z0)))],0⟩) (by kernel_rfl) ?_
   refine AWp.ret ?_
   obtain rfl:=sj H
   exact rl (.inl rfl) rfl (by kernel_rfl) (by kernel_rfl)
def Z3b.f (a0:Int) (a1:Int):Option (Int×Int):=if(decide (a1>a0))=true then(some (0,5)) else(some (u64.wrap (a0-a1),0))
theorem Z3b.ok (a0:Int) (a1:Int) (r:Int×Int) (H:Z3b.f a0 a1=some r):Pv.Fn Try.prog 71 [iV .u64 a0,iV .u64 a1] [] 0 (fun x o=>x = .tup [iV .u64 r.1,iV .i64 r.2]∧o=[]):=by
 unfold Z3b.f at H
 refine Fn.bodyK [] Try.func71 rfl rfl (fun Γ hP hn => ?_)
 have hm:Try.prog.follows .mixedOrders=true:=by kernel_rfl
 replace hn:Γ.n=12:=hn
 refine sO hP hn hm [] [] [0,1] [] [] ?_
 refine AWp.seq ?_
 refine sO hP hn hm [] [(8,bV (decide (a1>a0)))] [0,1,8] [] [] ?_
 refine AWp.cond (decide (a1>a0)) (by kernel_rfl) (fun c1428 => ?_) (fun c1428 => ?_)
 ·replace H:=iT c1428 H
  refine sO hP hn hm [] [(4,iV .u64 0),(5,iV .i64 5)] [4,5] [] [] ?_
  refine AWp.conv (inv:=[]) (vk:=[]) (e0:=[]) (t:=⟨[(4,iV .u64 0),(5,iV .i64 5)],[],0⟩) (by kernel_rfl) ?_
  refine AWp.ret ?_
  obtain rfl:=sj H
  exact rl (.inl rfl) rfl (by kernel_rfl) (by kernel_rfl)
 ·replace H:=iF c1428 H
  refine AWp.skip ?_
  refine sO hP hn hm [] [(4,iV .u64 (u64.wrap (a0-a1))),(5,iV .i64 0)] [4,5] [] [] ?_
  refine AWp.conv (inv:=[]) (vk:=[]) (e0:=[]) (t:=⟨[(4,iV .u64 (u64.wrap (a0-a1))),(5,iV .i64 0)],[],0⟩) (by kernel_rfl) ?_
  refine AWp.ret ?_
  obtain rfl:=sj H
  exact rl (.inl rfl) rfl (by kernel_rfl) (by kernel_rfl)
def Z1u.f (a0:Zj) (a1:Zj):Option (Zj×Int):=(Z2g.f a0.f5 a1.f5)>>=fun t322=>(Z0e.f a0 a1)>>=fun t1320=>if(t1320.2.2 != (0:Int))=true then(some ((⟨0,0,0,0,0,0,[],[]⟩:Zj),t1320.2.2)) else((Z03.f ((t1320.1).f6) ((t1320.2.1).f6))>>=fun t1422=>(Z03.f ((t1320.1).f7) ((t1320.2.1).f7))>>=fun t1426=>(Z3b.f ((t1320.1).f3) ((t1320.2.1).f3))>>=fun t1431=>((if(!t1422.2)=true then(some true) else(if(!t1426.2)=true then(some true) else(some (t1431.2 != (0:Int))))):Option (Bool))>>=fun x1437=>if x1437=true then(some ((⟨0,0,0,0,0,0,[],[]⟩:Zj),21)) else(if(t322.2 != (0:Int))=true then(some ((⟨0,0,0,0,0,0,[],[]⟩:Zj),t322.2)) else((Z1x.f (⟨(t1320.1).f0,(t1320.1).f1,(t1320.1).f2,t1431.1,(t1320.1).f4,t322.1,(t1320.1).f6,(t1320.1).f7⟩:Zj) t1422.1 t1426.1)>>=fun t1444=>some ((t1444.1),t1444.2))))
theorem Z1u.ok (a0:Zj) (a1:Zj) (r:Zj×Int) (H:Z1u.f a0 a1=some r):Pv.Fn Try.prog 60 [.agg (Zn a0),.agg (Zn a1)] [] 0 (fun x o=>x = .tup [.agg (Zn (r.1)),iV .i64 r.2]∧o=[]):=by
 unfold Z1u.f at H
 refine Fn.bodyK [] Try.func60 rfl rfl (fun Γ hP hn => ?_)
 have hm:Try.prog.follows .mixedOrders=true:=by kernel_rfl
 replace hn:Γ.n=85:=hn
 refine sO hP hn hm [(0,.k 0),(1,.k 1),(2,.k 2)] [(2,.ptr 0 0 0),(3,.ptr 1 0 0),(4,.ptr 2 0 0)] [2,3,4] [(0,some (.box 36 (Zn a0))),(1,some (.box 36 (Zn a1))),(2,some (.box 36 [iV .i64 0,iV .i64 0,iV .i64 0,iV .u64 0,iV .u64 0,iV .i64 0,.none0,.none0]))] [0,1,2] ?_
 obtain⟨t322,e323,H⟩:=Z4 H
 refine sR hP hn hm [(4,.call [] [] [] [] 0 (.tup [iV .i64 t322.1,iV .i64 t322.2]) [])] [(6,iV .i64 t322.1),(7,iV .i64 t322.2)] [2,3,4,6,7] [] [0,1,2] [_,_] ⟨Try.call68,Z2g.ok a0.f5 a1.f5 t322 e323,trivial⟩ ?_
 obtain⟨t1320,e1321,H⟩:=Z4 H
 refine sR hP hn hm [(2,.call [] [] [] [] 0 (.tup [.agg (Zn (t1320.1)),.agg (Zn (t1320.2.1)),iV .i64 t1320.2.2]) [])] [(8,iV .i64 t1320.2.2)] [2,3,4,6,7,8] [(0,some (.box 36 (Zn (t1320.1)))),(1,some (.box 36 (Zn (t1320.2.1))))] [0,1,2] [_,_] ⟨Try.call69,Z0e.ok a0 a1 t1320 e1321,trivial⟩ ?_
 refine AWp.seq ?_
 refine sO hP hn hm [] [(31,bV (t1320.2.2 != (0:Int)))] [2,3,4,6,7,8,31] [] [0,1,2] ?_
 refine AWp.cond (t1320.2.2 != (0:Int)) (by kernel_rfl) (fun c1322 => ?_) (fun c1322 => ?_)
 ·replace H:=iT c1322 H
  refine sO hP hn hm [] [(5,iV .i64 t1320.2.2)] [4,5] [] [2] ?_
  refine AWp.conv (inv:=[(2,0)]) (vk:=[]) (e0:=[]) (t:=⟨[(4,.ptr 0 0 0),(5,iV .i64 t1320.2.2)],[(0,some (.box 36 (Zn ((⟨0,0,0,0,0,0,[],[]⟩:Zj)))))],0⟩) (by kernel_rfl) ?_
  refine AWp.ret ?_
  obtain rfl:=sj H
  exact rl (.inl rfl) rfl (by kernel_rfl) (by kernel_rfl)
 ·replace H:=iF c1322 H
  refine AWp.skip ?_
  obtain⟨t1422,e1423,H⟩:=Z4 H
  refine sR hP hn hm [(4,.call [] [(0,3)] [] [3] 0 (.tup [.own 0,bV t1422.2]) [(0,some (.row 2 78 (t1422.1.map Z0)))])] [(9,.own 3),(10,bV t1422.2)] [2,3,4,6,7,9,10] [(3,some (.row 2 78 (t1422.1.map Z0)))] [0,1,2,3] [_,_] ⟨Try.call70,Z03.ok ((t1320.1).f6) ((t1320.2.1).f6) t1422 e1423,trivial⟩ ?_
  obtain⟨t1426,e1427,H⟩:=Z4 H
  refine sR hP hn hm [(4,.call [] [(0,4)] [] [4] 0 (.tup [.own 0,bV t1426.2]) [(0,some (.row 2 78 (t1426.1.map Z0)))])] [(11,.own 4),(12,bV t1426.2)] [2,3,4,6,7,9,10,11,12] [(4,some (.row 2 78 (t1426.1.map Z0)))] [0,1,2,3,4] [_,_] ⟨Try.call70,Z03.ok ((t1320.1).f7) ((t1320.2.1).f7) t1426 e1427,trivial⟩ ?_
  obtain⟨t1431,e1432,H⟩:=Z4 H
  refine sR hP hn hm [(4,.call [] [] [] [] 0 (.tup [iV .u64 t1431.1,iV .i64 t1431.2]) [])] [(13,iV .u64 t1431.1),(14,iV .i64 t1431.2)] [2,4,6,7,9,10,11,12,13,14] [] [0,2,3,4] [_,_] ⟨Try.call71,Z3b.ok ((t1320.1).f3) ((t1320.2.1).f3) t1431 e1432,trivial⟩ ?_
  refine AWp.seq ?_
  refine AWp.block ?_
  refine AWp.seq ?_
  obtain⟨o1446,e1447,H⟩:=Z4 H
  refine AWp.mono (Q:=fun e s=>(match (generalizing:=false) o1446 with | x1437=>e = .normal∧s=⟨[(2,.ptr 5 0 0),(4,.ptr 6 0 0),(6,iV .i64 t322.1),(7,iV .i64 t322.2),(9,.own 7),(11,.own 8),(13,iV .u64 t1431.1),(58,bV x1437)],[(5,some (.box 36 (Zn (t1320.1)))),(6,some (.box 36 [iV .i64 0,iV .i64 0,iV .i64 0,iV .u64 0,iV .u64 0,iV .i64 0,.none0,.none0])),(7,some (.row 2 78 (t1422.1.map Z0))),(8,some (.row 2 78 (t1426.1.map Z0)))],0⟩)) (AWp.cv ?_) ?_
  ·replace H:=e1447;clear e1447
   rcases Bool.eq_false_or_eq_true (!t1422.2) with c1435 | c1435
   ·replace H:=iT c1435 H
    refine rG hP hn hm [(2,.b true)] [(58,bV true)] [2,4,6,7,9,11,13,58] [] [0,2,3,4] [_] ⟨c1435,trivial⟩ ?_
    obtain rfl:=sj H
    exact lf [(0,5),(2,6),(3,7),(4,8)] [] [] (by kernel_rfl) ⟨rfl,rfl⟩
   ·replace H:=iF c1435 H
    rcases Bool.eq_false_or_eq_true (!t1426.2) with c1436 | c1436
    ·replace H:=iT c1436 H
     refine rG hP hn hm [(2,.b false),(6,.b true)] [(58,bV true)] [2,4,6,7,9,11,13,58] [] [0,2,3,4] [_,_] ⟨c1435,c1436,trivial⟩ ?_
     obtain rfl:=sj H
     exact lf [(0,5),(2,6),(3,7),(4,8)] [] [] (by kernel_rfl) ⟨rfl,rfl⟩
    ·replace H:=iF c1436 H
     refine rG hP hn hm [(2,.b false),(6,.b false)] [(58,bV (t1431.2 != (0:Int)))] [2,4,6,7,9,11,13,58] [] [0,2,3,4] [_,_] ⟨c1435,c1436,trivial⟩ ?_
     obtain rfl:=sj H
     exact lf [(0,5),(2,6),(3,7),(4,8)] [] [] (by kernel_rfl) ⟨rfl,rfl⟩
  ·obtain⟨x1437,rfl⟩:∃ z,z=o1446:=⟨_,rfl⟩
   rintro e s ⟨rfl,rfl⟩
   refine AWp.cond x1437 (by kernel_rfl) (fun c1438 => ?_) (fun c1438 => ?_)
   ·replace H:=iT c1438 H
    refine sO hP hn hm [] [(5,iV .i64 21)] [4,5] [] [6] ?_
    refine AWp.conv (inv:=[(6,0)]) (vk:=[]) (e0:=[]) (t:=⟨[(4,.ptr 0 0 0),(5,iV .i64 21)],[(0,some (.box 36 (Zn ((⟨0,0,0,0,0,0,[],[]⟩:Zj)))))],0⟩) (by kernel_rfl) ?_
    refine AWp.ret ?_
    obtain rfl:=sj H
    exact rl (.inl rfl) rfl (by kernel_rfl) (by kernel_rfl)
   ·replace H:=iF c1438 H
    refine sO hP hn hm [] [(70,bV (t322.2 != (0:Int)))] [2,4,6,7,9,11,13,70] [] [5,6,7,8] ?_
    refine AWp.cond (t322.2 != (0:Int)) (by kernel_rfl) (fun c1439 => ?_) (fun c1439 => ?_)
    ·replace H:=iT c1439 H
     refine sO hP hn hm [] [(5,iV .i64 t322.2)] [4,5] [] [6] ?_
     refine AWp.conv (inv:=[(6,0)]) (vk:=[]) (e0:=[]) (t:=⟨[(4,.ptr 0 0 0),(5,iV .i64 t322.2)],[(0,some (.box 36 (Zn ((⟨0,0,0,0,0,0,[],[]⟩:Zj)))))],0⟩) (by kernel_rfl) ?_
     refine AWp.ret ?_
     obtain rfl:=sj H
     exact rl (.inl rfl) rfl (by kernel_rfl) (by kernel_rfl)
    ·replace H:=iF c1439 H
     refine AWp.skip ?_
     refine sO hP hn hm [] [] [2,4,9,11] [(5,some (.box 36 (Zn ⟨((t1320.1).f0),((t1320.1).f1),((t1320.1).f2),t1431.1,((t1320.1).f4),t322.1,((t1320.1).f6),((t1320.1).f7)⟩)))] [5,6,7,8] ?_
     refine AWp.seq ?_
     refine AWp.conv (inv:=[(5,5),(6,6)]) (vk:=[7,8]) (e0:=[]) (t:=⟨[(2,.ptr 5 0 0),(4,.ptr 6 0 0),(9,.im (.row (t1422.1.map Z0))),(11,.im (.row (t1426.1.map Z0)))],[(5,some (.box 36 (Zn ⟨((t1320.1).f0),((t1320.1).f1),((t1320.1).f2),t1431.1,((t1320.1).f4),t322.1,((t1320.1).f6),((t1320.1).f7)⟩))),(6,some (.box 36 [iV .i64 0,iV .i64 0,iV .i64 0,iV .u64 0,iV .u64 0,iV .i64 0,.none0,.none0]))],0⟩) (by kernel_rfl) ?_
     obtain⟨t1444,e1445,H⟩:=Z4 H
     refine rG hP hn hm [(3,.call [] [] [] [] 0 (.tup [.agg (Zn (t1444.1)),iV .i64 t1444.2]) [])] [(5,iV .i64 t1444.2)] [4,5] [(6,some (.box 36 (Zn (t1444.1))))] [6] [_,_] ⟨Try.call54,Z1x.ok (⟨(t1320.1).f0,(t1320.1).f1,(t1320.1).f2,t1431.1,(t1320.1).f4,t322.1,(t1320.1).f6,(t1320.1).f7⟩:Zj) t1422.1 t1426.1 t1444 e1445,trivial⟩ ?_
     refine AWp.conv (inv:=[(6,0)]) (vk:=[]) (e0:=[]) (t:=⟨[(4,.ptr 0 0 0),(5,iV .i64 t1444.2)],[(0,some (.box 36 (Zn ((t1444.1)))))],0⟩) (by kernel_rfl) ?_
     refine AWp.ret ?_
     obtain rfl:=sj H
     exact rl (.inl rfl) rfl (by kernel_rfl) (by kernel_rfl)
def Z2h.f (a0:Zj) (a1:Zj):Option (Bool):=(Z1u.f a1 a0)>>=fun t1450=>some (t1450.2==(21:Int))
theorem Z2h.ok (a0:Zj) (a1:Zj) (r:Bool) (H:Z2h.f a0 a1=some r):Pv.Fn Try.prog 36 [.agg (Zn a0),.agg (Zn a1)] [] 0 (fun x o=>x=bV r∧o=[]):=by
 unfold Z2h.f at H
 refine Fn.bodyK [] Try.func36 rfl rfl (fun Γ hP hn => ?_)
 have hm:Try.prog.follows .mixedOrders=true:=by kernel_rfl
 replace hn:Γ.n=15:=hn
 refine sO hP hn hm [(0,.k 0),(1,.k 1)] [(2,.ptr 0 0 0),(3,.ptr 1 0 0)] [2,3] [(0,some (.box 36 (Zn a0))),(1,some (.box 36 (Zn a1)))] [0,1] ?_
 obtain⟨t1450,e1451,H⟩:=Z4 H
 refine sR hP hn hm [(2,.call [] [] [] [] 0 (.tup [.agg (Zn (t1450.1)),iV .i64 t1450.2]) []),(6,.k 2)] [(6,iV .i64 t1450.2)] [6] [] [] [_,_] ⟨Try.call60,Z1u.ok a1 a0 t1450 e1451,trivial⟩ ?_
 refine sO hP hn hm [] [(4,bV (t1450.2==(21:Int)))] [4] [] [] ?_
 refine AWp.conv (inv:=[]) (vk:=[]) (e0:=[]) (t:=⟨[(4,bV (t1450.2==(21:Int)))],[],0⟩) (by kernel_rfl) ?_
 refine AWp.ret ?_
 obtain rfl:=sj H
 exact rl (.inl rfl) rfl (by kernel_rfl) (by kernel_rfl)
def Z0h.f (a0:List Zd):Option (List Zd):=(chk ((([]:List Zd).length+a0.length)*104≤140737488355328))>>=fun _=>some a0
theorem Z0h.ok (a0 r:List Zd) (H:Z0h.f a0=some r):Pv.Fn Try.prog 37 [.im (.row (a0.map Z7))] [] 0 (fun x o=>x = .own 0∧o=[(0,some (.row 9 38 (r.map Z7)))]):=by
 unfold Z0h.f at H
 obtain⟨c1,H⟩:=Z0x H
 obtain rfl:=sj H
 refine Fn.bodyK [0] Try.func37 rfl rfl (fun Γ hP hn => ?_)
 have hm:Try.prog.follows .mixedOrders=true:=by kernel_rfl
 replace hn:Γ.n=8:=hn
 refine AWp.seq ?_
 refine reg hP hn hm [] [0,2] [] ⟨[(0,.im (.row (a0.map Z7))),(2,.none0)],[],0⟩ [] (by kernel_rfl) trivial ?_
 refine AWp.seq ?_
 cases a0 with
 | nil =>
  refine AWp.nilSplit 0 rfl (fun b m => ?_)
  refine AWp.seq ?_
  cases b with
  | none =>
   refine reg hP hn hm [(1,.more xNil)] [2,4] [] ⟨[(2,.none0),(4,bV true)],[],0⟩ [] (by kernel_rfl) trivial ?_
   refine AWp.cond true rfl (fun _ => ?_) (fun h=>nomatch h)
   refine AWp.seq ?_
   refine reg hP hn hm [] [2] [] ⟨[(2,.none0)],[],0⟩ [] (by kernel_rfl) trivial ?_
   refine AWp.conv (inv:=[]) (vk:=[]) (e0:=[0]) (t:=⟨[(2,.own 0)],[(0,some (.row 9 38 []))],0⟩) (by kernel_rfl) ?_
   refine AWp.ret ?_
   exact Exists.intro _ (And.intro (fun _ _ h=>h) (And.intro (.inl rfl) (And.intro rfl (And.intro (by kernel_rfl) (by kernel_rfl)))))
  | some b =>
   refine reg hP hn hm [(1,.more xNil)] [0,2,4] [] ⟨[(0,.im (.sc (.slice (some b) 0 m))),(2,.none0),(4,bV false)],[],0⟩ [] (by kernel_rfl) trivial ?_
   refine AWp.cond false rfl (fun h=>nomatch h) (fun _ => ?_)
   refine AWp.skip ?_
   refine AWp.unsplit 0 rfl ?_
   refine AWp.seq ?_
   refine reg hP hn hm [(0,.app 0 ([]:List (List Im))),(2,.app 1 (([]:List Zd).map Z7))] [2] [1] ⟨[(2,.own 1)],[(1,some (.row 9 38 (([]:List Zd).map Z7)))],0⟩ [([]:List (List Im))=[],([]:List Zd).map Z7=([]:List (List Im))++([]:List Zd).map Z7,∀ c∈([]:List Zd).map Z7,c.length=9,∀ c∈([]:List Zd).map Z7,Z0k (c.map .im)=true,(([]:List (List Im)).length+(([]:List Zd).map Z7).length)*104≤140737488355328] (by kernel_rfl) ⟨rfl,by simp,by exact Z0o _ _ _ (fun _=>rfl),by exact Z0p _ _ (fun _=>rfl),by simpa using c1,trivial⟩ ?_
   refine AWp.conv (inv:=[(1,0)]) (vk:=[]) (e0:=[]) (t:=⟨[(2,.own 0)],[(0,some (.row 9 38 (([]:List Zd).map Z7)))],0⟩) (by kernel_rfl) ?_
   refine AWp.ret ?_
   exact Exists.intro _ (And.intro (fun _ _ h=>h) (And.intro (.inl rfl) (And.intro rfl (And.intro (by kernel_rfl) (by kernel_rfl)))))
 | cons y l =>
  refine AWp.seq ?_
  refine reg hP hn hm [(1,.more xNil)] [0,2,4] [] ⟨[(0,.im (.row ((y::l).map Z7))),(2,.none0),(4,bV false)],[],0⟩ [] (by kernel_rfl) trivial ?_
  refine AWp.cond false rfl (fun h=>nomatch h) (fun _ => ?_)
  refine AWp.skip ?_
  refine AWp.seq ?_
  refine reg hP hn hm [(0,.app 0 ([]:List (List Im))),(2,.app 1 ((y::l).map Z7))] [2] [1] ⟨[(2,.own 1)],[(1,some (.row 9 38 ((y::l).map Z7)))],0⟩ [([]:List (List Im))=[],(y::l).map Z7=([]:List (List Im))++(y::l).map Z7,∀ c∈(y::l).map Z7,c.length=9,∀ c∈(y::l).map Z7,Z0k (c.map .im)=true,(([]:List (List Im)).length+((y::l).map Z7).length)*104≤140737488355328] (by kernel_rfl) ⟨rfl,by simp,by exact Z0o _ _ _ (fun _=>rfl),by exact Z0p _ _ (fun _=>rfl),by simpa using c1,trivial⟩ ?_
  refine AWp.conv (inv:=[(1,0)]) (vk:=[]) (e0:=[]) (t:=⟨[(2,.own 0)],[(0,some (.row 9 38 ((y::l).map Z7)))],0⟩) (by kernel_rfl) ?_
  refine AWp.ret ?_
  exact Exists.intro _ (And.intro (fun _ _ h=>h) (And.intro (.inl rfl) (And.intro rfl (And.intro (by kernel_rfl) (by kernel_rfl)))))
def Z18.l0 (a0:List Z2) (x1476:Int) (x1477:List Z1h) (x1478:Int):Option (Int×(List Z1h)):=if(decide (x1478<(a0.length:Int)))=true then((at? a0 x1478)>>=fun b1483=>((if(x1478==(0:Int))=true then(some (b1483.f0,[(⟨0,1⟩:Z1h)])) else((at? a0 (i64.wrap (x1478-(1:Int))))>>=fun b1490=>((if((i64.wrap (b1490.f0+(1:Int)))==b1483.f0)=true then((at? x1477 (i64.wrap ((x1477.length:Int)-(1:Int))))>>=fun b1497=>some (x1477.set (Int.toNat (i64.wrap ((x1477.length:Int)-(1:Int)))) (⟨b1497.f0,i64.wrap (b1497.f1+(1:Int))⟩:Z1h))) else((chk ((x1477.length+[(⟨i64.wrap ((i64.wrap (b1483.f0-b1490.f0))-(1:Int)),1⟩:Z1h)].length)*16≤140737488355328))>>=fun _=>some (x1477++[(⟨i64.wrap ((i64.wrap (b1483.f0-b1490.f0))-(1:Int)),1⟩:Z1h)]))):Option (List Z1h))>>=fun x1502=>some (x1476,x1502))):Option (Int×(List Z1h)))>>=fun oo=>match oo with | (x1503,x1504)=>(Z18.l0 a0 x1503 x1504 (i64.wrap (x1478+(1:Int))))) else(some (x1476,x1477))
partial_fixpoint
def Z18.f (a0:List Z2):Option (Zb):=(Z18.l0 a0 0 [] 0)>>=fun oo=>match oo with | (x1505,x1506)=>(some (⟨x1505,x1506⟩:Zb))
theorem Z18.ok (a0:List Z2) (r:Zb) (H:Z18.f a0=some r):Pv.Fn Try.prog 40 [.im (.row (a0.map Z0))] [] 0 (fun x o=>x = .agg [iV .i64 ((r).f0),.own 0]∧o=[(0,some (.row 2 86 (((r).f1).map Z00)))]):=by
 unfold Z18.f at H
 refine Fn.bodyK [0] Try.func40 rfl rfl (fun Γ hP hn => ?_)
 have hm:Try.prog.follows .mixedOrders=true:=by kernel_rfl
 replace hn:Γ.n=65:=hn
 refine sO hP hn hm [(0,.k 0)] [(2,.ptr 0 0 0)] [0,2] [(0,some (.box 52 [iV .i64 0,.none0]))] [0] ?_
 refine sO hP hn hm [(0,.k 1)] [(3,.ptr 1 0 0)] [0,2,3] [(1,some (.box 52 [iV .i64 0,.none0]))] [0,1] ?_
 refine AWp.seq ?_
 refine sR hP hn hm [(1,.any (iV .i64 (a0.length:Int)))] [(7,.im (.row (a0.map Z0))),(8,iV .i64 (a0.length:Int)),(9,iV .i64 0)] [0,2,3,7,8,9] [] [0,1] [((a0.map Z0).length:Int)=(a0.length:Int)] ⟨by rw[Zi],trivial⟩ ?_
 refine AWp.block ?_
 obtain⟨o1507,e1508,H⟩:=Z4 H
 refine AWp.loop (LWp.conv (inv:=[(0,4),(1,5)]) (vk:=[]) (e0:=[6]) (t:=⟨[(0,.im (.row (a0.map Z0))),(2,.ptr 4 0 0),(3,.ptr 5 0 0),(7,.im (.row (a0.map Z0))),(8,iV .i64 (a0.length:Int)),(9,iV .i64 0)],[(4,some (.box 52 [iV .i64 0,.none0])),(5,some (.box 52 [iV .i64 0,.own 6])),(6,some (.row 2 86 ([].map Z00)))],0⟩) (by kernel_rfl) ?_)
 refine LWp.mono (Q:=fun e s=>(match (generalizing:=false) o1507 with | (x1505,x1506)=>e = .exit 0∧s=⟨[(2,.ptr 17 0 0),(3,.ptr 18 0 0)],[(17,some (.box 52 [iV .i64 0,.none0])),(18,some (.box 52 [iV .i64 x1505,.own 19])),(19,some (.row 2 86 (x1506.map Z00)))],0⟩)) (LWp.cv (Zt (fun body hbody => ?_))) ?_
 ·refine       Z18.l0.partial_correctness a0 (motive:=fun x1476 x1477 x1478 o1507=>LWp Γ body (fun e s=>∃ t,Cv Γ s t∧(match (generalizing:=false) o1507 with | (x1505,x1506)=>e = .exit 0∧t=⟨[(2,.ptr 17 0 0),(3,.ptr 18 0 0)],[(17,some (.box 52 [iV .i64 0,.none0])),(18,some (.box 52 [iV .i64 x1505,.own 19])),(19,some (.row 2 86 (x1506.map Z00  )))],0⟩)) ⟨[(0,.im (.row (a0.map Z0     ))),(2,.ptr 4 0 0),(3,.ptr 5 0 0),(7,.im (.row (a0.map Z0     ))),(8,iV .i64 (a0.length:Int)),(9,iV .i64 x1478)],[(4,some (.box 52 [iV .i64 0,.none0])),(5,some (.box 52 [iV .i64 x1476,.own 6])),(6,some (.row 2 86 (x1477.map Z00  )))],0⟩) ?_ _ _ _ _ e1508
  clear H e1508 o1507;intro self ih x1476 x1477 x1478 o1507 H
  subst hbody
  refine LWp.round ?_
  refine sO hP hn hm [] [(10,bV (decide (x1478<(a0.length:Int))))] [0,2,3,7,8,9,10] [] [4,5,6] ?_
  refine AWp.seq ?_
  refine AWp.cond (decide (x1478<(a0.length:Int))) (by kernel_rfl) (fun c1479 => ?_) (fun c1479 => ?_)
  ·replace H:=iT c1479 H
   refine AWp.skip ?_
   refine AWp.seq ?_
   refine AWp.block ?_
   obtain⟨b1483,p1484,q1485,H⟩:=Z0d H
   refine sR hP hn hm [(1,.c (Z0 b1483)),(3,.k 7)] [(4,iV .i64 x1478),(5,.ptr 7 0 0)] [0,2,3,4,5,7,8,9] [(7,some (.box 78 (Z1o b1483)))] [4,5,6,7] [_,_] ⟨p1484,Zk Z0 q1485,trivial⟩ ?_
   refine sR hP hn hm [(2,.any (iV .i64 (x1477.length:Int)))] [(6,iV .i64 (x1477.length:Int))] [0,2,3,4,5,6,7,8,9] [] [4,5,6,7] [((x1477.map Z00).length:Int)=(x1477.length:Int)] ⟨by rw[Zi],trivial⟩ ?_
   refine AWp.block ?_
   refine sO hP hn hm [] [(33,bV (x1478==(0:Int)))] [0,2,3,4,5,6,7,8,9,33] [] [4,5,6,7] ?_
   obtain⟨o1509,e1510,H⟩:=Z4 H
   refine AWp.mono (Q:=fun e s=>(match (generalizing:=false) o1509 with | (x1503,x1504)=>e = .normal∧s=⟨[(0,.im (.row (a0.map Z0))),(2,.ptr 14 0 0),(3,.ptr 15 0 0),(7,.im (.row (a0.map Z0))),(8,iV .i64 (a0.length:Int)),(9,iV .i64 x1478)],[(14,some (.box 52 [iV .i64 0,.none0])),(15,some (.box 52 [iV .i64 x1503,.own 16])),(16,some (.row 2 86 (x1504.map Z00)))],0⟩)) (AWp.cv ?_) ?_
   ·replace H:=e1510;clear e1510
    refine AWp.cond (x1478==(0:Int)) (by kernel_rfl) (fun c1486 => ?_) (fun c1486 => ?_)
    ·replace H:=iT c1486 H
     refine sO hP hn hm [] [] [0,2,3,7,8,9] [(5,some (.box 52 [iV .i64 b1483.f0,.own 6]))] [4,5,6] ?_
     refine rG hP hn hm [(1,.app 8 ([(⟨0,1⟩:Z1h)].map Z00))] [] [0,2,3,7,8,9] [(5,some (.box 52 [iV .i64 b1483.f0,.own 8])),(8,some (.row 2 86 ([(⟨0,1⟩:Z1h)].map Z00)))] [4,5,8] [[(⟨0,1⟩:Z1h)].map Z00=[[iI .i64 0,iI .i64 1]]] ⟨by exact rfl,trivial⟩ ?_
     obtain rfl:=sj H
     exact lf [(4,14),(5,15),(8,16)] [] [] (by kernel_rfl) ⟨rfl,rfl⟩
    ·replace H:=iF c1486 H
     obtain⟨b1490,p1491,q1492,H⟩:=Z0d H
     refine sR hP hn hm [(3,.c (Z0 b1490))] [(42,bV ((i64.wrap (b1490.f0+(1:Int)))==b1483.f0))] [0,2,3,4,5,6,7,8,9,42] [] [4,5,6,7] [_,_] ⟨p1491,Zk Z0 q1492,trivial⟩ ?_
     obtain⟨o1511,e1512,H⟩:=Z4 H
     refine AWp.mono (Q:=fun e s=>(match (generalizing:=false) o1511 with | x1502=>e = .normal∧s=⟨[(0,.im (.row (a0.map Z0))),(2,.ptr 11 0 0),(3,.ptr 12 0 0),(7,.im (.row (a0.map Z0))),(8,iV .i64 (a0.length:Int)),(9,iV .i64 x1478)],[(11,some (.box 52 [iV .i64 0,.none0])),(12,some (.box 52 [iV .i64 x1476,.own 13])),(13,some (.row 2 86 (x1502.map Z00)))],0⟩)) (AWp.cv ?_) ?_
     ·replace H:=e1512;clear e1512
      refine AWp.cond ((i64.wrap (b1490.f0+(1:Int)))==b1483.f0) (by kernel_rfl) (fun c1493 => ?_) (fun c1493 => ?_)
      ·replace H:=iT c1493 H
       obtain⟨b1497,p1498,q1499,H⟩:=Z0d H
       refine rG hP hn hm [(6,.c (Z00 b1497)),(10,.put (Z00 b1497) ((x1477.set (Int.toNat (i64.wrap ((x1477.length:Int)-(1:Int)))) (⟨b1497.f0,i64.wrap (b1497.f1+(1:Int))⟩:Z1h)).map Z00))] [] [0,2,3,7,8,9] [(6,some (.row 2 86 ((x1477.set (Int.toNat (i64.wrap ((x1477.length:Int)-(1:Int)))) (⟨b1497.f0,i64.wrap (b1497.f1+(1:Int))⟩:Z1h)).map Z00)))] [4,5,6] [_,_,_,_,_,_,(x1477.set (Int.toNat (i64.wrap ((x1477.length:Int)-(1:Int)))) (⟨b1497.f0,i64.wrap (b1497.f1+(1:Int))⟩:Z1h)).map Z00=(x1477.map Z00).set (Int.toNat (i64.wrap ((x1477.length:Int)-(1:Int)))) (Z1c (Z00 b1497) 1 [iI .i64 (i64.wrap (b1497.f1+(1:Int)))])] ⟨p1498,Z1g Z00 p1498 q1499,Zk Z00 q1499,p1498,Z1g Z00 p1498 q1499,Zk Z00 q1499,by exact set1 _ _ _ _,trivial⟩ ?_
       obtain rfl:=sj H
       exact lf [(4,11),(5,12),(6,13)] [] [] (by kernel_rfl) ⟨rfl,rfl⟩
      ·replace H:=iF c1493 H
       obtain⟨c1501,H⟩:=Z0x H
       refine rG hP hn hm [(7,.c (Z0 b1490)),(13,.app 9 ([(⟨i64.wrap ((i64.wrap (b1483.f0-b1490.f0))-(1:Int)),1⟩:Z1h)].map Z00)),(14,.app 10 ((x1477++[(⟨i64.wrap ((i64.wrap (b1483.f0-b1490.f0))-(1:Int)),1⟩:Z1h)]).map Z00))] [] [0,2,3,7,8,9] [(5,some (.box 52 [iV .i64 x1476,.own 10])),(10,some (.row 2 86 ((x1477++[(⟨i64.wrap ((i64.wrap (b1483.f0-b1490.f0))-(1:Int)),1⟩:Z1h)]).map Z00)))] [4,5,10] [_,_,[(⟨i64.wrap ((i64.wrap (b1483.f0-b1490.f0))-(1:Int)),1⟩:Z1h)].map Z00=[[iI .i64 (i64.wrap ((i64.wrap (b1483.f0-b1490.f0))-(1:Int))),iI .i64 1]],(x1477++[(⟨i64.wrap ((i64.wrap (b1483.f0-b1490.f0))-(1:Int)),1⟩:Z1h)]).map Z00=(x1477.map Z00)++([(⟨i64.wrap ((i64.wrap (b1483.f0-b1490.f0))-(1:Int)),1⟩:Z1h)].map Z00),∀ c∈([(⟨i64.wrap ((i64.wrap (b1483.f0-b1490.f0))-(1:Int)),1⟩:Z1h)].map Z00),c.length=2,∀ c∈([(⟨i64.wrap ((i64.wrap (b1483.f0-b1490.f0))-(1:Int)),1⟩:Z1h)].map Z00),Z0k (c.map .im)=true,((x1477.map Z00).length+([(⟨i64.wrap ((i64.wrap (b1483.f0-b1490.f0))-(1:Int)),1⟩:Z1h)].map Z00).length)*16≤140737488355328] ⟨p1491,Zk Z0 q1492,by exact rfl,by simp,by exact Z0o _ _ _ (fun _=>rfl),by exact Z0p _ _ (fun _=>rfl),by simpa using c1501,trivial⟩ ?_
       obtain rfl:=sj H
       exact lf [(4,11),(5,12),(10,13)] [] [] (by kernel_rfl) ⟨rfl,rfl⟩
     ·obtain⟨x1502,rfl⟩:∃ z,z=o1511:=⟨_,rfl⟩
      rintro e s ⟨rfl,rfl⟩
      obtain rfl:=sj H
      exact lf [(11,14),(12,15),(13,16)] [] [] (by kernel_rfl) ⟨rfl,rfl⟩
   ·obtain⟨x1503,x1504⟩:=o1509
    rintro e s ⟨rfl,rfl⟩
    refine rO hP hn hm [] [(9,iV .i64 (i64.wrap (x1478+(1:Int))))] [0,2,3,7,8,9] [] [14,15,16] ?_
    exact LWp.conv [(14,4),(15,5),(16,6)] [] [] (by kernel_rfl) (ih _ _ _ _ H)
  ·replace H:=iF c1479 H
   refine AWp.exit ?_
   obtain rfl:=sj H
   exact lf [(4,17),(5,18),(6,19)] [] [] (by kernel_rfl) ⟨rfl,rfl⟩
 ·obtain⟨x1505,x1506⟩:=o1507
  rintro e s ⟨rfl,rfl⟩
  refine sO hP hn hm [] [] [2] [(17,some (.box 52 [iV .i64 x1505,.own 19]))] [17,19] ?_
  refine AWp.conv (inv:=[(17,1),(19,0)]) (vk:=[]) (e0:=[]) (t:=⟨[(2,.ptr 1 0 0)],[(0,some (.row 2 86 ((((⟨x1505,x1506⟩:Zb)).f1).map Z00))),(1,some (.box 52 [iV .i64 (((⟨x1505,x1506⟩:Zb)).f0),.own 0]))],0⟩) (by kernel_rfl) ?_
  refine AWp.ret ?_
  obtain rfl:=sj H
  exact rl (.inl rfl) rfl (by kernel_rfl) (by kernel_rfl)
def Zg.l1 (a0:Zb) (b1540:Z1h) (x1535:Int) (x1546:List Int) (x1547:Int) (x1548:Int):Option ((List Int)×Int):=if(decide (x1548<b1540.f1))=true then((chk ((x1546.length+[x1547].length)*8≤140737488355328))>>=fun _=>Zg.l1 a0 b1540 x1535 (x1546++[x1547]) (i64.wrap (x1547+(1:Int))) (i64.wrap (x1548+(1:Int)))) else(some (x1546,x1547))
partial_fixpoint
def Zg.l0 (a0:Zb) (x1533:List Int) (x1534:Int) (x1535:Int):Option (List Int):=if(decide (x1535<(a0.f1.length:Int)))=true then((at? a0.f1 x1535)>>=fun b1540=>(Zg.l1 a0 b1540 x1535 x1533 (i64.wrap (x1534+b1540.f0)) 0)>>=fun oo=>match oo with | (x1552,x1553)=>(Zg.l0 a0 x1552 x1553 (i64.wrap (x1535+(1:Int))))) else(some x1533)
partial_fixpoint
def Zg.f (a0:Zb):Option (List Int):=(Zg.l0 a0 [] a0.f0 0)>>=fun x1554=>some x1554
theorem Zg.ok (a0:Zb) (r:List Int) (H:Zg.f a0=some r):Pv.Fn Try.prog 38 [.agg (Za a0)] [] 0 (fun x o=>x = .own 0∧o=[(0,some (.row 1 3 (r.map (Z1 .i64))))]):=by
 unfold Zg.f at H
 refine Fn.bodyK [0] Try.func38 rfl rfl (fun Γ hP hn => ?_)
 have hm:Try.prog.follows .mixedOrders=true:=by kernel_rfl
 replace hn:Γ.n=33:=hn
 refine sO hP hn hm [(0,.k 0)] [(1,.ptr 0 0 0)] [1] [(0,some (.box 52 (Za a0)))] [0] ?_
 refine sO hP hn hm [] [(3,.none0)] [1,3] [] [0] ?_
 refine sO hP hn hm [] [(4,iV .i64 a0.f0)] [1,3,4] [] [0] ?_
 refine AWp.seq ?_
 refine sR hP hn hm [(2,.any (iV .i64 (a0.f1.length:Int)))] [(10,.im (.row (a0.f1.map Z00))),(11,iV .i64 (a0.f1.length:Int)),(12,iV .i64 0)] [3,4,10,11,12] [] [] [((a0.f1.map Z00).length:Int)=(a0.f1.length:Int)] ⟨by rw[Zi],trivial⟩ ?_
 refine AWp.block ?_
 obtain⟨o1555,e1556,H⟩:=Z4 H
 refine AWp.loop (LWp.conv (inv:=[]) (vk:=[]) (e0:=[8]) (t:=⟨[(3,.own 8),(4,iV .i64 a0.f0),(10,.im (.row (a0.f1.map Z00))),(11,iV .i64 (a0.f1.length:Int)),(12,iV .i64 0)],[(8,some (.row 1 3 ([].map (Z1 .i64))))],0⟩) (by kernel_rfl) ?_)
 refine LWp.mono (Q:=fun e s=>(match (generalizing:=false) o1555 with | x1554=>e = .exit 0∧s=⟨[(3,.own 16)],[(16,some (.row 1 3 (x1554.map (Z1 .i64))))],0⟩)) (LWp.cv (Zt (fun body hbody => ?_))) ?_
 ·refine             Zg.l0.partial_correctness a0 (motive:=fun x1533 x1534 x1535 o1555=>LWp Γ body (fun e s=>∃ t,Cv Γ s t∧(match (generalizing:=false) o1555 with | x1554=>e = .exit 0∧t=⟨[(3,.own 16)],[(16,some (.row 1 3 (x1554.map (Z1     .i64))))],0⟩)) ⟨[(3,.own 8),(4,iV .i64 x1534),(10,.im (.row (a0.f1.map Z00  ))),(11,iV .i64 (a0.f1.length:Int)),(12,iV .i64 x1535)],[(8,some (.row 1 3 (x1533.map (Z1     .i64))))],0⟩) ?_ _ _ _ _ e1556
  clear H e1556 o1555;intro self ih x1533 x1534 x1535 o1555 H
  subst hbody
  refine LWp.round ?_
  refine sO hP hn hm [] [(13,bV (decide (x1535<(a0.f1.length:Int))))] [3,4,10,11,12,13] [] [8] ?_
  refine AWp.seq ?_
  refine AWp.cond (decide (x1535<(a0.f1.length:Int))) (by kernel_rfl) (fun c1536 => ?_) (fun c1536 => ?_)
  ·replace H:=iT c1536 H
   refine AWp.skip ?_
   refine AWp.seq ?_
   refine AWp.block ?_
   obtain⟨b1540,p1541,q1542,H⟩:=Z0d H
   refine sR hP hn hm [(0,.c (Z00 b1540)),(2,.k 9)] [(6,.ptr 9 0 0)] [3,4,6,10,11,12] [(9,some (.box 86 (aSpan b1540)))] [8,9] [_,_] ⟨p1541,Zk Z00 q1542,trivial⟩ ?_
   refine sO hP hn hm [] [(4,iV .i64 (i64.wrap (x1534+b1540.f0)))] [3,4,6,10,11,12] [] [8,9] ?_
   refine sO hP hn hm [] [(21,iV .i64 b1540.f1),(22,iV .i64 0)] [3,4,10,11,12,21,22] [] [8] ?_
   refine AWp.block ?_
   obtain⟨o1557,e1558,H⟩:=Z4 H
   refine AWp.loop (LWp.conv (inv:=[(8,12)]) (vk:=[]) (e0:=[]) (t:=⟨[(3,.own 12),(4,iV .i64 (i64.wrap (x1534+b1540.f0))),(10,.im (.row (a0.f1.map Z00))),(11,iV .i64 (a0.f1.length:Int)),(12,iV .i64 x1535),(21,iV .i64 b1540.f1),(22,iV .i64 0)],[(12,some (.row 1 3 (x1533.map (Z1 .i64))))],0⟩) (by kernel_rfl) ?_)
   refine LWp.mono (Q:=fun e s=>(match (generalizing:=false) o1557 with | (x1552,x1553)=>e = .exit 2∧s=⟨[(3,.own 15),(4,iV .i64 x1553),(10,.im (.row (a0.f1.map Z00))),(11,iV .i64 (a0.f1.length:Int)),(12,iV .i64 x1535)],[(15,some (.row 1 3 (x1552.map (Z1 .i64))))],0⟩)) (LWp.cv (Zt (fun body hbody => ?_))) ?_
   ·refine             Zg.l1.partial_correctness a0 b1540 x1535 (motive:=fun x1546 x1547 x1548 o1557=>LWp Γ body (fun e s=>∃ t,Cv Γ s t∧(match (generalizing:=false) o1557 with | (x1552,x1553)=>e = .exit 2∧t=⟨[(3,.own 15),(4,iV .i64 x1553),(10,.im (.row (a0.f1.map Z00  ))),(11,iV .i64 (a0.f1.length:Int)),(12,iV .i64 x1535)],[(15,some (.row 1 3 (x1552.map (Z1     .i64))))],0⟩)) ⟨[(3,.own 12),(4,iV .i64 x1547),(10,.im (.row (a0.f1.map Z00  ))),(11,iV .i64 (a0.f1.length:Int)),(12,iV .i64 x1535),(21,iV .i64 b1540.f1),(22,iV .i64 x1548)],[(12,some (.row 1 3 (x1546.map (Z1     .i64))))],0⟩) ?_ _ _ _ _ e1558
    clear H e1558 o1557;intro self ih x1546 x1547 x1548 o1557 H
    subst hbody
    refine LWp.round ?_
    refine sO hP hn hm [] [(23,bV (decide (x1548<b1540.f1)))] [3,4,10,11,12,21,22,23] [] [12] ?_
    refine AWp.seq ?_
    refine AWp.cond (decide (x1548<b1540.f1)) (by kernel_rfl) (fun c1549 => ?_) (fun c1549 => ?_)
    ·replace H:=iT c1549 H
     refine AWp.skip ?_
     refine AWp.seq ?_
     refine AWp.block ?_
     obtain⟨c1551,H⟩:=Z0x H
     refine sR hP hn hm [(2,.app 13 ([x1547].map (Z1 .i64))),(3,.app 14 ((x1546++[x1547]).map (Z1 .i64)))] [(3,.own 14)] [3,4,10,11,12,21,22] [(14,some (.row 1 3 ((x1546++[x1547]).map (Z1 .i64))))] [14] [[x1547].map (Z1 .i64)=[[iI .i64 x1547]],(x1546++[x1547]).map (Z1 .i64)=(x1546.map (Z1 .i64))++([x1547].map (Z1 .i64)),∀ c∈([x1547].map (Z1 .i64)),c.length=1,∀ c∈([x1547].map (Z1 .i64)),Z0k (c.map .im)=true,((x1546.map (Z1 .i64)).length+([x1547].map (Z1 .i64)).length)*8≤140737488355328] ⟨by exact rfl,by simp,by exact Z0o _ _ _ (fun _=>rfl),by exact Z0p _ _ (fun _=>rfl),by simpa using c1551,trivial⟩ ?_
     refine rO hP hn hm [] [(4,iV .i64 (i64.wrap (x1547+(1:Int))))] [3,4,10,11,12,21,22] [] [14] ?_
     refine rO hP hn hm [] [(22,iV .i64 (i64.wrap (x1548+(1:Int))))] [3,4,10,11,12,21,22] [] [14] ?_
     exact LWp.conv [(14,12)] [] [] (by kernel_rfl) (ih _ _ _ _ H)
    ·replace H:=iF c1549 H
     refine AWp.exit ?_
     obtain rfl:=sj H
     exact lf [(12,15)] [] [] (by kernel_rfl) ⟨rfl,rfl⟩
   ·obtain⟨x1552,x1553⟩:=o1557
    rintro e s ⟨rfl,rfl⟩
    refine rO hP hn hm [] [(12,iV .i64 (i64.wrap (x1535+(1:Int))))] [3,4,10,11,12] [] [15] ?_
    exact LWp.conv [(15,8)] [] [] (by kernel_rfl) (ih _ _ _ _ H)
  ·replace H:=iF c1536 H
   refine AWp.exit ?_
   obtain rfl:=sj H
   exact lf [(8,16)] [] [] (by kernel_rfl) ⟨rfl,rfl⟩
 ·obtain⟨x1554,rfl⟩:∃ z,z=o1555:=⟨_,rfl⟩
  rintro e s ⟨rfl,rfl⟩
  refine sO hP hn hm [] [(2,.own 16)] [2] [] [16] ?_
  refine AWp.conv (inv:=[(16,0)]) (vk:=[]) (e0:=[]) (t:=⟨[(2,.own 0)],[(0,some (.row 1 3 (x1554.map (Z1 .i64))))],0⟩) (by kernel_rfl) ?_
  refine AWp.ret ?_
  obtain rfl:=sj H
  exact rl (.inl rfl) rfl (by kernel_rfl) (by kernel_rfl)
def Z0r.l0 (x1644:List Int) (x1645:List Int) (x1646:List Z2):Option (List Z2):=if(decide ((i64.wrap ((x1644.length:Int)+(x1645.length:Int)))>(0:Int)))=true then(((if((x1645.length:Int)==(0:Int))=true then(some true) else(if(decide ((x1644.length:Int)>(0:Int)))=true then((at? x1644 0)>>=fun b1658=>(at? x1645 0)>>=fun b1661=>some (decide (b1658<b1661))) else(some false))):Option (Bool))>>=fun x1664=>((if x1664=true then((at? x1644 0)>>=fun b1670=>(chk ((x1646.length+[(⟨b1670,0⟩:Z2)].length)*16≤140737488355328))>>=fun _=>(chk (0≤(1:Int)∧(1:Int)≤(x1644.length:Int)∧(x1644.length:Int)≤(x1644.length:Int)))>>=fun _=>some ((x1644.drop (Int.toNat ((1:Int)))).take ((Int.toNat ((x1644.length:Int)))-(Int.toNat ((1:Int)))),x1645,x1646++[(⟨b1670,0⟩:Z2)])) else(((if((x1644.length:Int)==(0:Int))=true then(some true) else((at? x1645 0)>>=fun b1684=>(at? x1644 0)>>=fun b1687=>some (decide (b1684<b1687)))):Option (Bool))>>=fun x1690=>((if x1690=true then((at? x1645 0)>>=fun b1696=>(chk ((x1646.length+[(⟨b1696,0⟩:Z2)].length)*16≤140737488355328))>>=fun _=>(chk (0≤(1:Int)∧(1:Int)≤(x1645.length:Int)∧(x1645.length:Int)≤(x1645.length:Int)))>>=fun _=>some (x1644,x1646++[(⟨b1696,0⟩:Z2)])) else((at? x1644 0)>>=fun b1706=>(chk ((x1646.length+[(⟨b1706,0⟩:Z2)].length)*16≤140737488355328))>>=fun _=>(chk (0≤(1:Int)∧(1:Int)≤(x1644.length:Int)∧(x1644.length:Int)≤(x1644.length:Int)))>>=fun _=>(chk (0≤(1:Int)∧(1:Int)≤(x1645.length:Int)∧(x1645.length:Int)≤(x1645.length:Int)))>>=fun _=>some ((x1644.drop (Int.toNat ((1:Int)))).take ((Int.toNat ((x1644.length:Int)))-(Int.toNat ((1:Int)))),x1646++[(⟨b1706,0⟩:Z2)]))):Option ((List Int)×(List Z2)))>>=fun oo=>match oo with | (x1714,x1715)=>(some (x1714,(x1645.drop (Int.toNat ((1:Int)))).take ((Int.toNat ((x1645.length:Int)))-(Int.toNat ((1:Int)))),x1715)))):Option ((List Int)×(List Int)×(List Z2)))>>=fun oo=>match oo with | (x1716,x1717,x1718)=>(Z0r.l0  x1716 x1717 x1718)) else(some x1646)
partial_fixpoint
def Z0r.f (a0:Zb) (a1:Zb):Option (Zb):=(Zg.f a0)>>=fun t1563=>(Zg.f a1)>>=fun t1565=>(Z0r.l0  t1563 t1565 [])>>=fun x1719=>(Z18.f x1719)>>=fun t1722=>some (t1722)
theorem Z0r.ok (a0:Zb) (a1:Zb) (r:Zb) (H:Z0r.f a0 a1=some r):Pv.Fn Try.prog 39 [.agg (Za a0),.agg (Za a1)] [] 0 (fun x o=>x = .agg [iV .i64 ((r).f0),.own 0]∧o=[(0,some (.row 2 86 (((r).f1).map Z00)))]):=by
 unfold Z0r.f at H
 refine Fn.bodyK [0] Try.func39 rfl rfl (fun Γ hP hn => ?_)
 have hm:Try.prog.follows .mixedOrders=true:=by kernel_rfl
 replace hn:Γ.n=80:=hn
 refine sO hP hn hm [(0,.k 0),(1,.k 1),(2,.k 2)] [(2,.ptr 0 0 0),(3,.ptr 1 0 0),(4,.ptr 2 0 0)] [2,3,4] [(0,some (.box 52 (Za a0))),(1,some (.box 52 (Za a1))),(2,some (.box 52 [iV .i64 0,.none0]))] [0,1,2] ?_
 obtain⟨t1563,e1564,H⟩:=Z4 H
 obtain⟨t1565,e1566,H⟩:=Z4 H
 refine sR hP hn hm [(1,.call [] [(0,3)] [] [3] 0 (.own 0) [(0,some (.row 1 3 (t1563.map (Z1 .i64))))]),(3,.call [] [(0,4)] [] [4] 0 (.own 0) [(0,some (.row 1 3 (t1565.map (Z1 .i64))))])] [(5,.own 3),(6,.own 4)] [4,5,6] [(3,some (.row 1 3 (t1563.map (Z1 .i64)))),(4,some (.row 1 3 (t1565.map (Z1 .i64))))] [2,3,4] [_,_,_,_] ⟨Try.call38,Zg.ok a0 t1563 e1564,Try.call38,Zg.ok a1 t1565 e1566,trivial⟩ ?_
 refine sO hP hn hm [] [(7,.none0)] [4,5,6,7] [] [2,3,4] ?_
 refine AWp.seq ?_
 refine AWp.block ?_
 obtain⟨o1724,e1725,H⟩:=Z4 H
 refine AWp.loop (LWp.conv (inv:=[(2,21)]) (vk:=[3,4]) (e0:=[22]) (t:=⟨[(4,.ptr 21 0 0),(5,.im (.row (t1563.map (Z1 .i64)))),(6,.im (.row (t1565.map (Z1 .i64)))),(7,.own 22)],[(21,some (.box 52 [iV .i64 0,.none0])),(22,some (.row 2 78 ([].map Z0)))],0⟩) (by kernel_rfl) ?_)
 refine LWp.mono (Q:=fun e s=>(match (generalizing:=false) o1724 with | x1719=>e = .exit 0∧s=⟨[(4,.ptr 37 0 0),(7,.own 38)],[(37,some (.box 52 [iV .i64 0,.none0])),(38,some (.row 2 78 (x1719.map Z0)))],0⟩)) (LWp.cv (Zt (fun body hbody => ?_))) ?_
 ·refine         Z0r.l0.partial_correctness  (motive:=fun x1644 x1645 x1646 o1724=>LWp Γ body (fun e s=>∃ t,Cv Γ s t∧(match (generalizing:=false) o1724 with | x1719=>e = .exit 0∧t=⟨[(4,.ptr 37 0 0),(7,.own 38)],[(37,some (.box 52 [iV .i64 0,.none0])),(38,some (.row 2 78 (x1719.map Z0     )))],0⟩)) ⟨[(4,.ptr 21 0 0),(5,.im (.row (x1644.map (Z1     .i64)))),(6,.im (.row (x1645.map (Z1     .i64)))),(7,.own 22)],[(21,some (.box 52 [iV .i64 0,.none0])),(22,some (.row 2 78 (x1646.map Z0     )))],0⟩) ?_ _ _ _ _ e1725
  clear H e1725 o1724;intro self ih x1644 x1645 x1646 o1724 H
  subst hbody
  refine LWp.round ?_
  refine AWp.seq ?_
  refine sR hP hn hm [(1,.any (iV .i64 (x1644.length:Int))),(3,.any (iV .i64 (x1645.length:Int)))] [(17,bV (decide ((i64.wrap ((x1644.length:Int)+(x1645.length:Int)))>(0:Int))))] [4,5,6,7,17] [] [21,22] [((x1644.map (Z1 .i64)).length:Int)=(x1644.length:Int),((x1645.map (Z1 .i64)).length:Int)=(x1645.length:Int)] ⟨by rw[Zi],by rw[Zi],trivial⟩ ?_
  refine AWp.cond (decide ((i64.wrap ((x1644.length:Int)+(x1645.length:Int)))>(0:Int))) (by kernel_rfl) (fun c1647 => ?_) (fun c1647 => ?_)
  ·replace H:=iT c1647 H
   refine AWp.skip ?_
   refine AWp.block ?_
   refine AWp.block ?_
   refine AWp.seq ?_
   obtain⟨o1726,e1727,H⟩:=Z4 H
   refine AWp.mono (Q:=fun e s=>(match (generalizing:=false) o1726 with | x1664=>e = .normal∧s=⟨[(4,.ptr 23 0 0),(5,.im (.row (x1644.map (Z1 .i64)))),(6,.im (.row (x1645.map (Z1 .i64)))),(7,.own 24),(29,bV x1664)],[(23,some (.box 52 [iV .i64 0,.none0])),(24,some (.row 2 78 (x1646.map Z0)))],0⟩)) (AWp.cv ?_) ?_
   ·replace H:=e1727;clear e1727
    rcases Bool.eq_false_or_eq_true ((x1645.length:Int)==(0:Int)) with c1656 | c1656
    ·replace H:=iT c1656 H
     refine rG hP hn hm [(1,.any (iV .i64 (x1645.length:Int))),(3,.b true)] [(29,bV true)] [4,5,6,7,29] [] [21,22] [((x1645.map (Z1 .i64)).length:Int)=(x1645.length:Int),_] ⟨by rw[Zi],c1656,trivial⟩ ?_
     obtain rfl:=sj H
     exact lf [(21,23),(22,24)] [] [] (by kernel_rfl) ⟨rfl,rfl⟩
    ·replace H:=iF c1656 H
     rcases Bool.eq_false_or_eq_true (decide ((x1644.length:Int)>(0:Int))) with c1657 | c1657
     ·replace H:=iT c1657 H
      obtain⟨b1658,p1659,q1660,H⟩:=Z0d H
      obtain⟨b1661,p1662,q1663,H⟩:=Z0d H
      refine rG hP hn hm [(1,.any (iV .i64 (x1645.length:Int))),(3,.b false),(5,.any (iV .i64 (x1644.length:Int))),(7,.b true),(9,.c ((Z1 .i64) b1658)),(12,.c ((Z1 .i64) b1661))] [(29,bV (decide (b1658<b1661))),(34,.im (.row (x1644.map (Z1 .i64)))),(35,iV .i64 (x1644.length:Int)),(36,bV (decide ((x1644.length:Int)>(0:Int)))),(37,bV true),(38,.im (.row (x1644.map (Z1 .i64)))),(39,.ip [iI .i64 b1658]),(40,iV .i64 b1658),(41,.im (.row (x1645.map (Z1 .i64)))),(42,.ip [iI .i64 b1661]),(43,iV .i64 b1661),(44,bV (decide (b1658<b1661))),(45,bV (decide (b1658<b1661)))] [4,5,6,7,29,34,35,36,37,38,39,40,41,42,43,44,45] [] [21,22] [((x1645.map (Z1 .i64)).length:Int)=(x1645.length:Int),_,((x1644.map (Z1 .i64)).length:Int)=(x1644.length:Int),_,_,_,_,_] ⟨by rw[Zi],c1656,by rw[Zi],c1657,p1659,Zk (Z1 .i64) q1660,p1662,Zk (Z1 .i64) q1663,trivial⟩ ?_
      obtain rfl:=sj H
      exact lf [(21,23),(22,24)] [] [] (by kernel_rfl) ⟨rfl,rfl⟩
     ·replace H:=iF c1657 H
      refine rG hP hn hm [(1,.any (iV .i64 (x1645.length:Int))),(3,.b false),(5,.any (iV .i64 (x1644.length:Int))),(7,.b false)] [(29,bV false),(34,.im (.row (x1644.map (Z1 .i64)))),(35,iV .i64 (x1644.length:Int)),(36,bV (decide ((x1644.length:Int)>(0:Int)))),(37,bV false),(45,bV false)] [4,5,6,7,29,34,35,36,37,45] [] [21,22] [((x1645.map (Z1 .i64)).length:Int)=(x1645.length:Int),_,((x1644.map (Z1 .i64)).length:Int)=(x1644.length:Int),_] ⟨by rw[Zi],c1656,by rw[Zi],c1657,trivial⟩ ?_
      obtain rfl:=sj H
      exact lf [(21,23),(22,24)] [] [] (by kernel_rfl) ⟨rfl,rfl⟩
   ·obtain⟨x1664,rfl⟩:∃ z,z=o1726:=⟨_,rfl⟩
    rintro e s ⟨rfl,rfl⟩
    obtain⟨o1728,e1729,H⟩:=Z4 H
    refine AWp.mono (Q:=fun e s=>(match (generalizing:=false) o1728 with | (x1716,x1717,x1718)=>e = .normal∧s=⟨[(4,.ptr 35 0 0),(5,.im (.row (x1716.map (Z1 .i64)))),(6,.im (.row (x1717.map (Z1 .i64)))),(7,.own 36)],[(35,some (.box 52 [iV .i64 0,.none0])),(36,some (.row 2 78 (x1718.map Z0)))],0⟩)) (AWp.cv ?_) ?_
    ·replace H:=e1729;clear e1729
     refine AWp.cond x1664 (by kernel_rfl) (fun c1665 => ?_) (fun c1665 => ?_)
     ·replace H:=iT c1665 H
      obtain⟨b1670,p1671,q1672,H⟩:=Z0d H
      obtain⟨c1673,H⟩:=Z0x H
      refine sR hP hn hm [(2,.c ((Z1 .i64) b1670)),(5,.app 25 ([(⟨b1670,0⟩:Z2)].map Z0)),(6,.app 26 ((x1646++[(⟨b1670,0⟩:Z2)]).map Z0))] [(7,.own 26)] [4,5,6,7] [(26,some (.row 2 78 ((x1646++[(⟨b1670,0⟩:Z2)]).map Z0)))] [23,26] [_,_,[(⟨b1670,0⟩:Z2)].map Z0=[[iI .i64 b1670,iI .u64 0]],(x1646++[(⟨b1670,0⟩:Z2)]).map Z0=(x1646.map Z0)++([(⟨b1670,0⟩:Z2)].map Z0),∀ c∈([(⟨b1670,0⟩:Z2)].map Z0),c.length=2,∀ c∈([(⟨b1670,0⟩:Z2)].map Z0),Z0k (c.map .im)=true,((x1646.map Z0).length+([(⟨b1670,0⟩:Z2)].map Z0).length)*16≤140737488355328] ⟨p1671,Zk (Z1 .i64) q1672,by exact rfl,by simp,by exact Z0o _ _ _ (fun _=>rfl),by exact Z0p _ _ (fun _=>rfl),by simpa using c1673,trivial⟩ ?_
      obtain⟨c1675,H⟩:=Z0x H
      refine rG hP hn hm [(1,.rows (((x1644.drop (Int.toNat ((1:Int)))).take ((Int.toNat ((x1644.length:Int)))-(Int.toNat ((1:Int))))).map (Z1 .i64)))] [(5,.im (.row (((x1644.drop (Int.toNat ((1:Int)))).take ((Int.toNat ((x1644.length:Int)))-(Int.toNat ((1:Int))))).map (Z1 .i64))))] [4,5,6,7] [] [23,26] [0≤(1:Int),(1:Int)≤((x1644.map (Z1 .i64)).length:Int),((x1644.map (Z1 .i64)).length:Int)≤((x1644.map (Z1 .i64)).length:Int),∀ c∈x1644.map (Z1 .i64),c.length=1,((x1644.drop (Int.toNat ((1:Int)))).take ((Int.toNat ((x1644.length:Int)))-(Int.toNat ((1:Int))))).map (Z1 .i64)=((x1644.map (Z1 .i64)).drop (Int.toNat ((1:Int)))).take ((Int.toNat (((x1644.map (Z1 .i64)).length:Int)))-(Int.toNat ((1:Int))))] ⟨by exact c1675.1,by simpa using c1675.2.1,by simpa using c1675.2.2,by exact Z0o _ _ _ (fun _=>rfl),by simp[cut1],trivial⟩ ?_
      obtain rfl:=sj H
      exact lf [(23,35),(26,36)] [] [] (by kernel_rfl) ⟨rfl,rfl⟩
     ·replace H:=iF c1665 H
      refine AWp.seq ?_
      obtain⟨o1730,e1731,H⟩:=Z4 H
      refine AWp.mono (Q:=fun e s=>(match (generalizing:=false) o1730 with | x1690=>e = .normal∧s=⟨[(4,.ptr 27 0 0),(5,.im (.row (x1644.map (Z1 .i64)))),(6,.im (.row (x1645.map (Z1 .i64)))),(7,.own 28),(56,bV x1690)],[(27,some (.box 52 [iV .i64 0,.none0])),(28,some (.row 2 78 (x1646.map Z0)))],0⟩)) (AWp.cv ?_) ?_
      ·replace H:=e1731;clear e1731
       rcases Bool.eq_false_or_eq_true ((x1644.length:Int)==(0:Int)) with c1683 | c1683
       ·replace H:=iT c1683 H
        refine rG hP hn hm [(1,.any (iV .i64 (x1644.length:Int))),(3,.b true)] [(56,bV true)] [4,5,6,7,56] [] [23,24] [((x1644.map (Z1 .i64)).length:Int)=(x1644.length:Int),_] ⟨by rw[Zi],c1683,trivial⟩ ?_
        obtain rfl:=sj H
        exact lf [(23,27),(24,28)] [] [] (by kernel_rfl) ⟨rfl,rfl⟩
       ·replace H:=iF c1683 H
        obtain⟨b1684,p1685,q1686,H⟩:=Z0d H
        obtain⟨b1687,p1688,q1689,H⟩:=Z0d H
        refine rG hP hn hm [(1,.any (iV .i64 (x1644.length:Int))),(3,.b false),(5,.c ((Z1 .i64) b1684)),(8,.c ((Z1 .i64) b1687))] [(56,bV (decide (b1684<b1687))),(61,.im (.row (x1645.map (Z1 .i64)))),(62,.ip [iI .i64 b1684]),(63,iV .i64 b1684),(64,.im (.row (x1644.map (Z1 .i64)))),(65,.ip [iI .i64 b1687]),(66,iV .i64 b1687),(67,bV (decide (b1684<b1687)))] [4,5,6,7,56,61,62,63,64,65,66,67] [] [23,24] [((x1644.map (Z1 .i64)).length:Int)=(x1644.length:Int),_,_,_,_,_] ⟨by rw[Zi],c1683,p1685,Zk (Z1 .i64) q1686,p1688,Zk (Z1 .i64) q1689,trivial⟩ ?_
        obtain rfl:=sj H
        exact lf [(23,27),(24,28)] [] [] (by kernel_rfl) ⟨rfl,rfl⟩
      ·obtain⟨x1690,rfl⟩:∃ z,z=o1730:=⟨_,rfl⟩
       rintro e s ⟨rfl,rfl⟩
       obtain⟨o1732,e1733,H⟩:=Z4 H
       refine AWp.mono (Q:=fun e s=>(match (generalizing:=false) o1732 with | (x1714,x1715)=>e = .normal∧s=⟨[(4,.ptr 33 0 0),(5,.im (.row (x1714.map (Z1 .i64)))),(6,.im (.row (((x1645.drop (Int.toNat ((1:Int)))).take ((Int.toNat ((x1645.length:Int)))-(Int.toNat ((1:Int))))).map (Z1 .i64)))),(7,.own 34)],[(33,some (.box 52 [iV .i64 0,.none0])),(34,some (.row 2 78 (x1715.map Z0)))],0⟩)) (AWp.cv ?_) ?_
       ·replace H:=e1733;clear e1733
        refine AWp.cond x1690 (by kernel_rfl) (fun c1691 => ?_) (fun c1691 => ?_)
        ·replace H:=iT c1691 H
         obtain⟨b1696,p1697,q1698,H⟩:=Z0d H
         obtain⟨c1699,H⟩:=Z0x H
         refine sR hP hn hm [(2,.c ((Z1 .i64) b1696)),(5,.app 29 ([(⟨b1696,0⟩:Z2)].map Z0)),(6,.app 30 ((x1646++[(⟨b1696,0⟩:Z2)]).map Z0))] [(7,.own 30)] [4,5,6,7] [(30,some (.row 2 78 ((x1646++[(⟨b1696,0⟩:Z2)]).map Z0)))] [27,30] [_,_,[(⟨b1696,0⟩:Z2)].map Z0=[[iI .i64 b1696,iI .u64 0]],(x1646++[(⟨b1696,0⟩:Z2)]).map Z0=(x1646.map Z0)++([(⟨b1696,0⟩:Z2)].map Z0),∀ c∈([(⟨b1696,0⟩:Z2)].map Z0),c.length=2,∀ c∈([(⟨b1696,0⟩:Z2)].map Z0),Z0k (c.map .im)=true,((x1646.map Z0).length+([(⟨b1696,0⟩:Z2)].map Z0).length)*16≤140737488355328] ⟨p1697,Zk (Z1 .i64) q1698,by exact rfl,by simp,by exact Z0o _ _ _ (fun _=>rfl),by exact Z0p _ _ (fun _=>rfl),by simpa using c1699,trivial⟩ ?_
         obtain⟨c1701,H⟩:=Z0x H
         refine rG hP hn hm [(1,.rows (((x1645.drop (Int.toNat ((1:Int)))).take ((Int.toNat ((x1645.length:Int)))-(Int.toNat ((1:Int))))).map (Z1 .i64)))] [(6,.im (.row (((x1645.drop (Int.toNat ((1:Int)))).take ((Int.toNat ((x1645.length:Int)))-(Int.toNat ((1:Int))))).map (Z1 .i64))))] [4,5,6,7] [] [27,30] [0≤(1:Int),(1:Int)≤((x1645.map (Z1 .i64)).length:Int),((x1645.map (Z1 .i64)).length:Int)≤((x1645.map (Z1 .i64)).length:Int),∀ c∈x1645.map (Z1 .i64),c.length=1,((x1645.drop (Int.toNat ((1:Int)))).take ((Int.toNat ((x1645.length:Int)))-(Int.toNat ((1:Int))))).map (Z1 .i64)=((x1645.map (Z1 .i64)).drop (Int.toNat ((1:Int)))).take ((Int.toNat (((x1645.map (Z1 .i64)).length:Int)))-(Int.toNat ((1:Int))))] ⟨by exact c1701.1,by simpa using c1701.2.1,by simpa using c1701.2.2,by exact Z0o _ _ _ (fun _=>rfl),by simp[cut1],trivial⟩ ?_
         obtain rfl:=sj H
         exact lf [(27,33),(30,34)] [] [] (by kernel_rfl) ⟨rfl,rfl⟩
        ·replace H:=iF c1691 H
         obtain⟨b1706,p1707,q1708,H⟩:=Z0d H
         obtain⟨c1709,H⟩:=Z0x H
         refine sR hP hn hm [(2,.c ((Z1 .i64) b1706)),(5,.app 31 ([(⟨b1706,0⟩:Z2)].map Z0)),(6,.app 32 ((x1646++[(⟨b1706,0⟩:Z2)]).map Z0))] [(7,.own 32)] [4,5,6,7] [(32,some (.row 2 78 ((x1646++[(⟨b1706,0⟩:Z2)]).map Z0)))] [27,32] [_,_,[(⟨b1706,0⟩:Z2)].map Z0=[[iI .i64 b1706,iI .u64 0]],(x1646++[(⟨b1706,0⟩:Z2)]).map Z0=(x1646.map Z0)++([(⟨b1706,0⟩:Z2)].map Z0),∀ c∈([(⟨b1706,0⟩:Z2)].map Z0),c.length=2,∀ c∈([(⟨b1706,0⟩:Z2)].map Z0),Z0k (c.map .im)=true,((x1646.map Z0).length+([(⟨b1706,0⟩:Z2)].map Z0).length)*16≤140737488355328] ⟨p1707,Zk (Z1 .i64) q1708,by exact rfl,by simp,by exact Z0o _ _ _ (fun _=>rfl),by exact Z0p _ _ (fun _=>rfl),by simpa using c1709,trivial⟩ ?_
         obtain⟨c1712,H⟩:=Z0x H
         obtain⟨c1713,H⟩:=Z0x H
         refine rG hP hn hm [(1,.rows (((x1644.drop (Int.toNat ((1:Int)))).take ((Int.toNat ((x1644.length:Int)))-(Int.toNat ((1:Int))))).map (Z1 .i64))),(3,.rows (((x1645.drop (Int.toNat ((1:Int)))).take ((Int.toNat ((x1645.length:Int)))-(Int.toNat ((1:Int))))).map (Z1 .i64)))] [(5,.im (.row (((x1644.drop (Int.toNat ((1:Int)))).take ((Int.toNat ((x1644.length:Int)))-(Int.toNat ((1:Int))))).map (Z1 .i64)))),(6,.im (.row (((x1645.drop (Int.toNat ((1:Int)))).take ((Int.toNat ((x1645.length:Int)))-(Int.toNat ((1:Int))))).map (Z1 .i64))))] [4,5,6,7] [] [27,32] [0≤(1:Int),(1:Int)≤((x1644.map (Z1 .i64)).length:Int),((x1644.map (Z1 .i64)).length:Int)≤((x1644.map (Z1 .i64)).length:Int),∀ c∈x1644.map (Z1 .i64),c.length=1,((x1644.drop (Int.toNat ((1:Int)))).take ((Int.toNat ((x1644.length:Int)))-(Int.toNat ((1:Int))))).map (Z1 .i64)=((x1644.map (Z1 .i64)).drop (Int.toNat ((1:Int)))).take ((Int.toNat (((x1644.map (Z1 .i64)).length:Int)))-(Int.toNat ((1:Int)))),0≤(1:Int),(1:Int)≤((x1645.map (Z1 .i64)).length:Int),((x1645.map (Z1 .i64)).length:Int)≤((x1645.map (Z1 .i64)).length:Int),∀ c∈x1645.map (Z1 .i64),c.length=1,((x1645.drop (Int.toNat ((1:Int)))).take ((Int.toNat ((x1645.length:Int)))-(Int.toNat ((1:Int))))).map (Z1 .i64)=((x1645.map (Z1 .i64)).drop (Int.toNat ((1:Int)))).take ((Int.toNat (((x1645.map (Z1 .i64)).length:Int)))-(Int.toNat ((1:Int))))] ⟨by exact c1712.1,by simpa using c1712.2.1,by simpa using c1712.2.2,by exact Z0o _ _ _ (fun _=>rfl),by simp[cut1],by exact c1713.1,by simpa using c1713.2.1,by simpa using c1713.2.2,by exact Z0o _ _ _ (fun _=>rfl),by simp[cut1],trivial⟩ ?_
         obtain rfl:=sj H
         exact lf [(27,33),(32,34)] [] [] (by kernel_rfl) ⟨rfl,rfl⟩
       ·obtain⟨x1714,x1715⟩:=o1732
        rintro e s ⟨rfl,rfl⟩
        obtain rfl:=sj H
        exact lf [(33,35),(34,36)] [] [] (by kernel_rfl) ⟨rfl,rfl⟩
    ·obtain⟨x1716,x1717,x1718⟩:=o1728
     rintro e s ⟨rfl,rfl⟩
     exact LWp.conv [(35,21),(36,22)] [] [] (by kernel_rfl) (ih _ _ _ _ H)
  ·replace H:=iF c1647 H
   refine AWp.exit ?_
   obtain rfl:=sj H
   exact lf [(21,37),(22,38)] [] [] (by kernel_rfl) ⟨rfl,rfl⟩
 ·obtain⟨x1719,rfl⟩:∃ z,z=o1724:=⟨_,rfl⟩
  rintro e s ⟨rfl,rfl⟩
  obtain⟨t1722,e1723,H⟩:=Z4 H
  refine sR hP hn hm [(1,.more (Z47 [] [(0,39)] [38] [39] 0 (.agg [iV .i64 ((t1722).f0),.own 0]) [(0,some (.row 2 86 (((t1722).f1).map Z00)))]))] [] [4] [(37,some (.box 52 [iV .i64 ((t1722).f0),.own 39])),(39,some (.row 2 86 (((t1722).f1).map Z00)))] [37,39] [_,_,∀ c∈((t1722).f1).map Z00,∀ x∈c,∃ v,x=Im.sc v] ⟨Try.call40,Z18.ok x1719 t1722 e1723,by exact Z4i _ _ (fun _=>by simp),trivial⟩ ?_
  refine AWp.conv (inv:=[(37,1),(39,0)]) (vk:=[]) (e0:=[]) (t:=⟨[(4,.ptr 1 0 0)],[(0,some (.row 2 86 ((((t1722)).f1).map Z00))),(1,some (.box 52 [iV .i64 (((t1722)).f0),.own 0]))],0⟩) (by kernel_rfl) ?_
  refine AWp.ret ?_
  obtain rfl:=sj H
  exact rl (.inl rfl) rfl (by kernel_rfl) (by kernel_rfl)
def Z07.l0 (a0:List Zd) (x1748:Int) (x1749:List Z1h) (x1750:Int) (x1751:List Z1h) (x1752:Int):Option (Int×(List Z1h)×Int×(List Z1h)):=if(decide (x1752<(a0.length:Int)))=true then((at? a0 x1752)>>=fun b1757=>(Z18.f b1757.f1.f6)>>=fun t1764=>(Z0r.f (⟨x1748,x1749⟩:Zb) (t1764))>>=fun t1766=>(Z18.f b1757.f1.f7)>>=fun t1772=>(Z0r.f (⟨x1750,x1751⟩:Zb) (t1772))>>=fun t1774=>Z07.l0 a0 ((t1766).f0) ((t1766).f1) ((t1774).f0) ((t1774).f1) (i64.wrap (x1752+(1:Int)))) else(some (x1748,x1749,x1750,x1751))
partial_fixpoint
def Z07.f (a0:List Zd):Option (Zb×Zb):=(Z07.l0 a0 0 [] 0 [] 0)>>=fun oo=>match oo with | (x1776,x1777,x1778,x1779)=>(some ((⟨x1776,x1777⟩:Zb),(⟨x1778,x1779⟩:Zb)))
theorem Z07.ok (a0:List Zd) (r:Zb×Zb) (H:Z07.f a0=some r):Pv.Fn Try.prog 15 [.im (.row (a0.map Z7))] [] 0 (fun x o=>x = .tup [.agg [iV .i64 ((r.1).f0),.own 0],.agg [iV .i64 ((r.2).f0),.own 1]]∧o=[(0,some (.row 2 86 (((r.1).f1).map Z00))),(1,some (.row 2 86 (((r.2).f1).map Z00)))]):=by
 unfold Z07.f at H
 refine Fn.bodyK [0,1] Try.func15 rfl rfl (fun Γ hP hn => ?_)
 have hm:Try.prog.follows .mixedOrders=true:=by kernel_rfl
 replace hn:Γ.n=27:=hn
 refine sO hP hn hm [(0,.k 0),(1,.k 1)] [(2,.ptr 0 0 0),(3,.ptr 1 0 0)] [0,2,3] [(0,some (.box 52 [iV .i64 0,.none0])),(1,some (.box 52 [iV .i64 0,.none0]))] [0,1] ?_
 refine AWp.seq ?_
 refine sR hP hn hm [(1,.any (iV .i64 (a0.length:Int)))] [(6,.im (.row (a0.map Z7))),(7,iV .i64 (a0.length:Int)),(8,iV .i64 0)] [2,3,6,7,8] [] [0,1] [((a0.map Z7).length:Int)=(a0.length:Int)] ⟨by rw[Zi],trivial⟩ ?_
 refine AWp.block ?_
 obtain⟨o1780,e1781,H⟩:=Z4 H
 refine AWp.loop (LWp.conv (inv:=[(0,7),(1,9)]) (vk:=[]) (e0:=[8,10]) (t:=⟨[(2,.ptr 7 0 0),(3,.ptr 9 0 0),(6,.im (.row (a0.map Z7))),(7,iV .i64 (a0.length:Int)),(8,iV .i64 0)],[(7,some (.box 52 [iV .i64 0,.own 8])),(8,some (.row 2 86 ([].map Z00))),(9,some (.box 52 [iV .i64 0,.own 10])),(10,some (.row 2 86 ([].map Z00)))],0⟩) (by kernel_rfl) ?_)
 refine LWp.mono (Q:=fun e s=>(match (generalizing:=false) o1780 with | (x1776,x1777,x1778,x1779)=>e = .exit 0∧s=⟨[(2,.ptr 16 0 0),(3,.ptr 18 0 0)],[(16,some (.box 52 [iV .i64 x1776,.own 17])),(17,some (.row 2 86 (x1777.map Z00))),(18,some (.box 52 [iV .i64 x1778,.own 19])),(19,some (.row 2 86 (x1779.map Z00)))],0⟩)) (LWp.cv (Zt (fun body hbody => ?_))) ?_
 ·refine             Z07.l0.partial_correctness a0 (motive:=fun x1748 x1749 x1750 x1751 x1752 o1780=>LWp Γ body (fun e s=>∃ t,Cv Γ s t∧(match (generalizing:=false) o1780 with | (x1776,x1777,x1778,x1779)=>e = .exit 0∧t=⟨[(2,.ptr 16 0 0),(3,.ptr 18 0 0)],[(16,some (.box 52 [iV .i64 x1776,.own 17])),(17,some (.row 2 86 (x1777.map Z00  ))),(18,some (.box 52 [iV .i64 x1778,.own 19])),(19,some (.row 2 86 (x1779.map Z00  )))],0⟩)) ⟨[(2,.ptr 7 0 0),(3,.ptr 9 0 0),(6,.im (.row (a0.map Z7     ))),(7,iV .i64 (a0.length:Int)),(8,iV .i64 x1752)],[(7,some (.box 52 [iV .i64 x1748,.own 8])),(8,some (.row 2 86 (x1749.map Z00  ))),(9,some (.box 52 [iV .i64 x1750,.own 10])),(10,some (.row 2 86 (x1751.map Z00  )))],0⟩) ?_ _ _ _ _ _ _ e1781
  clear H e1781 o1780;intro self ih x1748 x1749 x1750 x1751 x1752 o1780 H
  subst hbody
  refine LWp.round ?_
  refine sO hP hn hm [] [(9,bV (decide (x1752<(a0.length:Int))))] [2,3,6,7,8,9] [] [7,8,9,10] ?_
  refine AWp.seq ?_
  refine AWp.cond (decide (x1752<(a0.length:Int))) (by kernel_rfl) (fun c1753 => ?_) (fun c1753 => ?_)
  ·replace H:=iT c1753 H
   refine AWp.skip ?_
   refine AWp.seq ?_
   refine AWp.block ?_
   obtain⟨b1757,p1758,q1759,H⟩:=Z0d H
   refine sR hP hn hm [(0,.c (Z7 b1757)),(2,.k 11)] [(5,.ptr 11 0 0)] [2,3,5,6,7,8] [(11,some (.box 38 [iV .i64 b1757.f0,iV .i64 b1757.f1.f0,iV .i64 b1757.f1.f1,iV .i64 b1757.f1.f2,iV .u64 b1757.f1.f3,iV .u64 b1757.f1.f4,iV .i64 b1757.f1.f5,.im (.row (b1757.f1.f6.map Z0)),.im (.row (b1757.f1.f7.map Z0))]))] [7,8,9,10,11] [_,_] ⟨p1758,Zk Z7 q1759,trivial⟩ ?_
   obtain⟨t1764,e1765,H⟩:=Z4 H
   obtain⟨t1766,e1767,H⟩:=Z4 H
   refine sR hP hn hm [(4,.call [] [(0,12)] [] [12] 0 (.agg [iV .i64 ((t1764).f0),.own 0]) [(0,some (.row 2 86 (((t1764).f1).map Z00)))]),(5,.more (Z47 [] [(0,13)] [8,12] [13] 0 (.agg [iV .i64 ((t1766).f0),.own 0]) [(0,some (.row 2 86 (((t1766).f1).map Z00)))]))] [] [2,3,5,6,7,8] [(7,some (.box 52 [iV .i64 ((t1766).f0),.own 13])),(13,some (.row 2 86 (((t1766).f1).map Z00)))] [7,9,10,11,13] [_,_,_,_,∀ c∈((t1766).f1).map Z00,∀ x∈c,∃ v,x=Im.sc v] ⟨Try.call40,Z18.ok b1757.f1.f6 t1764 e1765,Try.call39,Z0r.ok (⟨x1748,x1749⟩:Zb) (t1764) t1766 e1767,by exact Z4i _ _ (fun _=>by simp),trivial⟩ ?_
   obtain⟨t1772,e1773,H⟩:=Z4 H
   obtain⟨t1774,e1775,H⟩:=Z4 H
   refine rG hP hn hm [(4,.call [] [(0,14)] [] [14] 0 (.agg [iV .i64 ((t1772).f0),.own 0]) [(0,some (.row 2 86 (((t1772).f1).map Z00)))]),(5,.more (Z47 [] [(0,15)] [10,14] [15] 0 (.agg [iV .i64 ((t1774).f0),.own 0]) [(0,some (.row 2 86 (((t1774).f1).map Z00)))]))] [] [2,3,6,7,8] [(9,some (.box 52 [iV .i64 ((t1774).f0),.own 15])),(15,some (.row 2 86 (((t1774).f1).map Z00)))] [7,9,13,15] [_,_,_,_,∀ c∈((t1774).f1).map Z00,∀ x∈c,∃ v,x=Im.sc v] ⟨Try.call40,Z18.ok b1757.f1.f7 t1772 e1773,Try.call39,Z0r.ok (⟨x1750,x1751⟩:Zb) (t1772) t1774 e1775,by exact Z4i _ _ (fun _=>by simp),trivial⟩ ?_
   refine rO hP hn hm [] [(8,iV .i64 (i64.wrap (x1752+(1:Int))))] [2,3,6,7,8] [] [7,9,13,15] ?_
   exact LWp.conv [(7,7),(9,9),(13,8),(15,10)] [] [] (by kernel_rfl) (ih _ _ _ _ _ _ H)
  ·replace H:=iF c1753 H
   refine AWp.exit ?_
   obtain rfl:=sj H
   exact lf [(7,16),(8,17),(9,18),(10,19)] [] [] (by kernel_rfl) ⟨rfl,rfl⟩
 ·obtain⟨x1776,x1777,x1778,x1779⟩:=o1780
  rintro e s ⟨rfl,rfl⟩
  refine sO hP hn hm [] [] [2,3] [] [16,17,18,19] ?_
  refine AWp.conv (inv:=[(16,2),(17,0),(18,3),(19,1)]) (vk:=[]) (e0:=[]) (t:=⟨[(2,.ptr 2 0 0),(3,.ptr 3 0 0)],[(0,some (.row 2 86 ((((⟨x1776,x1777⟩:Zb)).f1).map Z00))),(1,some (.row 2 86 ((((⟨x1778,x1779⟩:Zb)).f1).map Z00))),(2,some (.box 52 [iV .i64 (((⟨x1776,x1777⟩:Zb)).f0),.own 0])),(3,some (.box 52 [iV .i64 (((⟨x1778,x1779⟩:Zb)).f0),.own 1]))],0⟩) (by kernel_rfl) ?_
  refine AWp.ret ?_
  obtain rfl:=sj H
  exact rl (.inl rfl) rfl (by kernel_rfl) (by kernel_rfl)
def Zw.f (a0:List Zd) (a1:Zd):Option (Bool):=if((a0.length:Int)==(0:Int))=true then(some true) else((at? a0 (i64.wrap ((a0.length:Int)-(1:Int))))>>=fun b298=>((if(decide ((a0.length:Int)≥(32:Int)))=true then(some true) else(if(decide (a1.f0≤b298.f0))=true then(some true) else((Z24.f b298.f1 a1.f1)>>=fun t314=>some (!t314)))):Option (Bool))>>=fun x316=>if x316=true then(some false) else(((if(a1.f1.f0==(0:Int))=true then((Z2h.f b298.f1 a1.f1)>>=fun t1455=>some t1455) else(some false)):Option (Bool))>>=fun x1457=>if x1457=true then(some false) else((Z0h.f a0)>>=fun t1784=>(chk ((t1784.length+[a1].length)*104≤140737488355328))>>=fun _=>(Z07.f (t1784++[a1]))>>=fun t1787=>(((Zg.f (t1787.1))>>=fun t1794=>if(decide ((t1794.length:Int)≤(512:Int)))=true then((Zg.f (t1787.2))>>=fun t1797=>some (decide ((t1797.length:Int)≤(512:Int)))) else(some false)):Option (Bool))>>=fun x1799=>some x1799)))
theorem Zw.ok (a0:List Zd) (a1:Zd) (r:Bool) (H:Zw.f a0 a1=some r):Pv.Fn Try.prog 12 [.im (.row (a0.map Z7)),.agg [iV .i64 a1.f0,iV .i64 a1.f1.f0,iV .i64 a1.f1.f1,iV .i64 a1.f1.f2,iV .u64 a1.f1.f3,iV .u64 a1.f1.f4,iV .i64 a1.f1.f5,.im (.row (a1.f1.f6.map Z0)),.im (.row (a1.f1.f7.map Z0))]] [] 0 (fun x o=>x=bV r∧o=[]):=by
 unfold Zw.f at H
 refine Fn.bodyK [] Try.func12 rfl rfl (fun Γ hP hn => ?_)
 have hm:Try.prog.follows .mixedOrders=true:=by kernel_rfl
 replace hn:Γ.n=65:=hn
 refine sO hP hn hm [(0,.k 0)] [(3,.ptr 0 0 0)] [0,3] [(0,some (.box 38 [iV .i64 a1.f0,iV .i64 a1.f1.f0,iV .i64 a1.f1.f1,iV .i64 a1.f1.f2,iV .u64 a1.f1.f3,iV .u64 a1.f1.f4,iV .i64 a1.f1.f5,.im (.row (a1.f1.f6.map Z0)),.im (.row (a1.f1.f7.map Z0))]))] [0] ?_
 refine AWp.seq ?_
 refine sR hP hn hm [(1,.any (iV .i64 (a0.length:Int)))] [(10,bV ((a0.length:Int)==(0:Int)))] [0,3,10] [] [0] [((a0.map Z7).length:Int)=(a0.length:Int)] ⟨by rw[Zi],trivial⟩ ?_
 refine AWp.cond ((a0.length:Int)==(0:Int)) (by kernel_rfl) (fun c294 => ?_) (fun c294 => ?_)
 ·replace H:=iT c294 H
  refine sO hP hn hm [] [(4,bV true)] [4] [] [] ?_
  refine AWp.conv (inv:=[]) (vk:=[]) (e0:=[]) (t:=⟨[(4,bV true)],[],0⟩) (by kernel_rfl) ?_
  refine AWp.ret ?_
  obtain rfl:=sj H
  exact rl (.inl rfl) rfl (by kernel_rfl) (by kernel_rfl)
 ·replace H:=iF c294 H
  refine AWp.skip ?_
  obtain⟨b298,p299,q300,H⟩:=Z0d H
  refine sR hP hn hm [(2,.any (iV .i64 (a0.length:Int))),(4,.c (Z7 b298)),(6,.k 1)] [(5,.ptr 1 0 0)] [0,3,5] [(1,some (.box 38 [iV .i64 b298.f0,iV .i64 b298.f1.f0,iV .i64 b298.f1.f1,iV .i64 b298.f1.f2,iV .u64 b298.f1.f3,iV .u64 b298.f1.f4,iV .i64 b298.f1.f5,.im (.row (b298.f1.f6.map Z0)),.im (.row (b298.f1.f7.map Z0))]))] [0,1] [((a0.map Z7).length:Int)=(a0.length:Int),_,_] ⟨by rw[Zi],p299,Zk Z7 q300,trivial⟩ ?_
  refine AWp.seq ?_
  refine AWp.seq ?_
  obtain⟨o1800,e1801,H⟩:=Z4 H
  refine AWp.mono (Q:=fun e s=>(match (generalizing:=false) o1800 with | x316=>e = .normal∧s=⟨[(0,.im (.row (a0.map Z7))),(3,.ptr 2 0 0),(5,.ptr 3 0 0),(34,bV x316)],[(2,some (.box 38 [iV .i64 a1.f0,iV .i64 a1.f1.f0,iV .i64 a1.f1.f1,iV .i64 a1.f1.f2,iV .u64 a1.f1.f3,iV .u64 a1.f1.f4,iV .i64 a1.f1.f5,.im (.row (a1.f1.f6.map Z0)),.im (.row (a1.f1.f7.map Z0))])),(3,some (.box 38 [iV .i64 b298.f0,iV .i64 b298.f1.f0,iV .i64 b298.f1.f1,iV .i64 b298.f1.f2,iV .u64 b298.f1.f3,iV .u64 b298.f1.f4,iV .i64 b298.f1.f5,.im (.row (b298.f1.f6.map Z0)),.im (.row (b298.f1.f7.map Z0))]))],0⟩)) (AWp.cv ?_) ?_
  ·replace H:=e1801;clear e1801
   rcases Bool.eq_false_or_eq_true (decide ((a0.length:Int)≥(32:Int))) with c312 | c312
   ·replace H:=iT c312 H
    refine rG hP hn hm [(1,.any (iV .i64 (a0.length:Int))),(3,.b true)] [(34,bV true)] [0,3,5,34] [] [0,1] [((a0.map Z7).length:Int)=(a0.length:Int),_] ⟨by rw[Zi],c312,trivial⟩ ?_
    obtain rfl:=sj H
    exact lf [(0,2),(1,3)] [] [] (by kernel_rfl) ⟨rfl,rfl⟩
   ·replace H:=iF c312 H
    rcases Bool.eq_false_or_eq_true (decide (a1.f0≤b298.f0)) with c313 | c313
    ·replace H:=iT c313 H
     refine rG hP hn hm [(1,.any (iV .i64 (a0.length:Int))),(3,.b false),(10,.b true)] [(34,bV true)] [0,3,5,34] [] [0,1] [((a0.map Z7).length:Int)=(a0.length:Int),_,_] ⟨by rw[Zi],c312,c313,trivial⟩ ?_
     obtain rfl:=sj H
     exact lf [(0,2),(1,3)] [] [] (by kernel_rfl) ⟨rfl,rfl⟩
    ·replace H:=iF c313 H
     obtain⟨t314,e315,H⟩:=Z4 H
     refine rG hP hn hm [(1,.any (iV .i64 (a0.length:Int))),(3,.b false),(10,.b false),(15,.call [] [] [] [] 0 (bV t314) [])] [(34,bV (!t314))] [0,3,5,34] [] [0,1] [((a0.map Z7).length:Int)=(a0.length:Int),_,_,_,_] ⟨by rw[Zi],c312,c313,Try.call35,Z24.ok b298.f1 a1.f1 t314 e315,trivial⟩ ?_
     obtain rfl:=sj H
     exact lf [(0,2),(1,3)] [] [] (by kernel_rfl) ⟨rfl,rfl⟩
  ·obtain⟨x316,rfl⟩:∃ z,z=o1800:=⟨_,rfl⟩
   rintro e s ⟨rfl,rfl⟩
   refine AWp.cond x316 (by kernel_rfl) (fun c317 => ?_) (fun c317 => ?_)
   ·replace H:=iT c317 H
    refine sO hP hn hm [] [(4,bV false)] [4] [] [] ?_
    refine AWp.conv (inv:=[]) (vk:=[]) (e0:=[]) (t:=⟨[(4,bV false)],[],0⟩) (by kernel_rfl) ?_
    refine AWp.ret ?_
    obtain rfl:=sj H
    exact rl (.inl rfl) rfl (by kernel_rfl) (by kernel_rfl)
   ·replace H:=iF c317 H
    refine AWp.skip ?_
    refine AWp.seq ?_
    refine AWp.seq ?_
    obtain⟨o1802,e1803,H⟩:=Z4 H
    refine AWp.mono (Q:=fun e s=>(match (generalizing:=false) o1802 with | x1457=>e = .normal∧s=⟨[(0,.im (.row (a0.map Z7))),(3,.ptr 4 0 0),(45,bV x1457)],[(4,some (.box 38 [iV .i64 a1.f0,iV .i64 a1.f1.f0,iV .i64 a1.f1.f1,iV .i64 a1.f1.f2,iV .u64 a1.f1.f3,iV .u64 a1.f1.f4,iV .i64 a1.f1.f5,.im (.row (a1.f1.f6.map Z0)),.im (.row (a1.f1.f7.map Z0))]))],0⟩)) (AWp.cv ?_) ?_
    ·replace H:=e1803;clear e1803
     rcases Bool.eq_false_or_eq_true (a1.f1.f0==(0:Int)) with c1454 | c1454
     ·replace H:=iT c1454 H
      obtain⟨t1455,e1456,H⟩:=Z4 H
      refine rG hP hn hm [(4,.b true),(9,.call [] [] [] [] 0 (bV t1455) [])] [(45,bV t1455)] [0,3,45] [] [2] [_,_,_] ⟨c1454,Try.call36,Z2h.ok b298.f1 a1.f1 t1455 e1456,trivial⟩ ?_
      obtain rfl:=sj H
      exact lf [(2,4)] [] [] (by kernel_rfl) ⟨rfl,rfl⟩
     ·replace H:=iF c1454 H
      refine rG hP hn hm [(4,.b false)] [(45,bV false)] [0,3,45] [] [2] [_] ⟨c1454,trivial⟩ ?_
      obtain rfl:=sj H
      exact lf [(2,4)] [] [] (by kernel_rfl) ⟨rfl,rfl⟩
    ·obtain⟨x1457,rfl⟩:∃ z,z=o1802:=⟨_,rfl⟩
     rintro e s ⟨rfl,rfl⟩
     refine AWp.cond x1457 (by kernel_rfl) (fun c1458 => ?_) (fun c1458 => ?_)
     ·replace H:=iT c1458 H
      refine sO hP hn hm [] [(4,bV false)] [4] [] [] ?_
      refine AWp.conv (inv:=[]) (vk:=[]) (e0:=[]) (t:=⟨[(4,bV false)],[],0⟩) (by kernel_rfl) ?_
      refine AWp.ret ?_
      obtain rfl:=sj H
      exact rl (.inl rfl) rfl (by kernel_rfl) (by kernel_rfl)
     ·replace H:=iF c1458 H
      refine AWp.skip ?_
      obtain⟨t1784,e1785,H⟩:=Z4 H
      obtain⟨c1786,H⟩:=Z0x H
      obtain⟨t1787,e1788,H⟩:=Z4 H
      refine sR hP hn hm [(1,.call [] [(0,5)] [] [5] 0 (.own 0) [(0,some (.row 9 38 (t1784.map Z7)))]),(3,.app 6 ([a1].map Z7)),(4,.app 7 ((t1784++[a1]).map Z7)),(5,.call [] [(0,8),(1,9)] [7] [8,9] 0 (.tup [.agg [iV .i64 ((t1787.1).f0),.own 0],.agg [iV .i64 ((t1787.2).f0),.own 1]]) [(0,some (.row 2 86 (((t1787.1).f1).map Z00))),(1,some (.row 2 86 (((t1787.2).f1).map Z00)))]),(9,.k 10),(10,.k 11)] [(6,.ptr 10 0 0),(7,.ptr 11 0 0)] [6,7] [(8,some (.row 2 86 (((t1787.1).f1).map Z00))),(9,some (.row 2 86 (((t1787.2).f1).map Z00))),(10,some (.box 52 [iV .i64 ((t1787.1).f0),.own 8])),(11,some (.box 52 [iV .i64 ((t1787.2).f0),.own 9]))] [8,9,10,11] [_,_,[a1].map Z7=[[iI .i64 a1.f0,iI .i64 a1.f1.f0,iI .i64 a1.f1.f1,iI .i64 a1.f1.f2,iI .u64 a1.f1.f3,iI .u64 a1.f1.f4,iI .i64 a1.f1.f5,.row (a1.f1.f6.map Z0),.row (a1.f1.f7.map Z0)]],(t1784++[a1]).map Z7=(t1784.map Z7)++([a1].map Z7),∀ c∈([a1].map Z7),c.length=9,∀ c∈([a1].map Z7),Z0k (c.map .im)=true,((t1784.map Z7).length+([a1].map Z7).length)*104≤140737488355328,_,_] ⟨Try.call37,Z0h.ok a0 t1784 e1785,by exact rfl,by simp,by exact Z0o _ _ _ (fun _=>rfl),by exact Z0p _ _ (fun _=>rfl),by simpa using c1786,Try.call15,Z07.ok (t1784++[a1]) t1787 e1788,trivial⟩ ?_
      refine AWp.seq ?_
      obtain⟨o1804,e1805,H⟩:=Z4 H
      refine AWp.mono (Q:=fun e s=>(match (generalizing:=false) o1804 with | x1799=>e = .normal∧s=⟨[(4,bV x1799)],[],0⟩)) (AWp.cv ?_) ?_
      ·replace H:=e1805;clear e1805
       obtain⟨t1794,e1795,H⟩:=Z4 H
       rcases Bool.eq_false_or_eq_true (decide ((t1794.length:Int)≤(512:Int))) with c1796 | c1796
       ·replace H:=iT c1796 H
        obtain⟨t1797,e1798,H⟩:=Z4 H
        refine rG hP hn hm [(1,.more (Z47 [] [(0,12)] [8] [12] 0 (.own 0) [(0,some (.row 1 3 (t1794.map (Z1 .i64))))])),(2,.any (iV .i64 (t1794.length:Int))),(4,.b true),(6,.more (Z47 [] [(0,13)] [9] [13] 0 (.own 0) [(0,some (.row 1 3 (t1797.map (Z1 .i64))))])),(7,.any (iV .i64 (t1797.length:Int)))] [(4,bV (decide ((t1797.length:Int)≤(512:Int))))] [4] [] [] [_,_,∀ c∈t1794.map (Z1 .i64),∀ x∈c,∃ v,x=Im.sc v,((t1794.map (Z1 .i64)).length:Int)=(t1794.length:Int),_,_,_,∀ c∈t1797.map (Z1 .i64),∀ x∈c,∃ v,x=Im.sc v,((t1797.map (Z1 .i64)).length:Int)=(t1797.length:Int)] ⟨Try.call38,Zg.ok (t1787.1) t1794 e1795,by exact Z4i _ _ (fun _=>by simp),by rw[Zi],c1796,Try.call38,Zg.ok (t1787.2) t1797 e1798,by exact Z4i _ _ (fun _=>by simp),by rw[Zi],trivial⟩ ?_
        obtain rfl:=sj H
        exact lf [] [] [] (by kernel_rfl) ⟨rfl,rfl⟩
       ·replace H:=iF c1796 H
        refine rG hP hn hm [(1,.more (Z47 [] [(0,12)] [8] [12] 0 (.own 0) [(0,some (.row 1 3 (t1794.map (Z1 .i64))))])),(2,.any (iV .i64 (t1794.length:Int))),(4,.b false)] [(4,bV false)] [4] [] [] [_,_,∀ c∈t1794.map (Z1 .i64),∀ x∈c,∃ v,x=Im.sc v,((t1794.map (Z1 .i64)).length:Int)=(t1794.length:Int),_] ⟨Try.call38,Zg.ok (t1787.1) t1794 e1795,by exact Z4i _ _ (fun _=>by simp),by rw[Zi],c1796,trivial⟩ ?_
        obtain rfl:=sj H
        exact lf [] [] [] (by kernel_rfl) ⟨rfl,rfl⟩
      ·obtain⟨x1799,rfl⟩:∃ z,z=o1804:=⟨_,rfl⟩
       rintro e s ⟨rfl,rfl⟩
       refine AWp.conv (inv:=[]) (vk:=[]) (e0:=[]) (t:=⟨[(4,bV x1799)],[],0⟩) (by kernel_rfl) ?_
       refine AWp.ret ?_
       obtain rfl:=sj H
       exact rl (.inl rfl) rfl (by kernel_rfl) (by kernel_rfl)
def Zl.l0 (a0:List Zd) (x1812:Int):Option (Int ⊕ Unit):=if(decide (x1812<(a0.length:Int)))=true then((at? a0 x1812)>>=fun b1817=>((if(decide (b1817.f0<(0:Int)))=true then(some true) else(some (decide (b1817.f0>(1099511627776:Int))))):Option (Bool))>>=fun x1822=>if x1822=true then(some (.inl 4)) else((Z02.f b1817.f1)>>=fun t1826=>if(t1826 != (0:Int))=true then(some (.inl t1826)) else((chk (0≤(0:Int)∧(0:Int)≤x1812∧x1812≤(a0.length:Int)))>>=fun _=>(Zw.f ((a0.drop (Int.toNat ((0:Int)))).take ((Int.toNat (x1812))-(Int.toNat ((0:Int))))) b1817)>>=fun t1833=>if(!t1833)=true then(some (.inl 6)) else(Zl.l0 a0 (i64.wrap (x1812+(1:Int))))))) else(some (.inr ()))
partial_fixpoint
def Zl.f (a0:List Zd):Option (Int):=if((a0.length:Int)==(0:Int))=true then(some 30) else((Zl.l0 a0 0)>>=fun oo=>match oo with | .inl rr=>(some rr) | .inr _=>(some 0))
theorem Zl.ok (a0:List Zd) (r:Int) (H:Zl.f a0=some r):Pv.Fn Try.prog 10 [.im (.row (a0.map Z7))] [] 0 (fun x o=>x=iV .i64 r∧o=[]):=by
 unfold Zl.f at H
 refine Fn.bodyK [] Try.func10 rfl rfl (fun Γ hP hn => ?_)
 have hm:Try.prog.follows .mixedOrders=true:=by kernel_rfl
 replace hn:Γ.n=37:=hn
 refine sO hP hn hm [] [] [0] [] [] ?_
 refine AWp.seq ?_
 refine sR hP hn hm [(1,.any (iV .i64 (a0.length:Int)))] [(8,bV ((a0.length:Int)==(0:Int)))] [0,8] [] [] [((a0.map Z7).length:Int)=(a0.length:Int)] ⟨by rw[Zi],trivial⟩ ?_
 refine AWp.cond ((a0.length:Int)==(0:Int)) (by kernel_rfl) (fun c24 => ?_) (fun c24 => ?_)
 ·replace H:=iT c24 H
  refine sO hP hn hm [] [(2,iV .i64 30)] [2] [] [] ?_
  refine AWp.conv (inv:=[]) (vk:=[]) (e0:=[]) (t:=⟨[(2,iV .i64 30)],[],0⟩) (by kernel_rfl) ?_
  refine AWp.ret ?_
  obtain rfl:=sj H
  exact rl (.inl rfl) rfl (by kernel_rfl) (by kernel_rfl)
 ·replace H:=iF c24 H
  refine AWp.skip ?_
  refine AWp.seq ?_
  refine sR hP hn hm [(1,.any (iV .i64 (a0.length:Int)))] [(9,.im (.row (a0.map Z7))),(10,iV .i64 (a0.length:Int)),(11,iV .i64 0)] [0,9,10,11] [] [] [((a0.map Z7).length:Int)=(a0.length:Int)] ⟨by rw[Zi],trivial⟩ ?_
  refine AWp.block ?_
  obtain⟨o1836,e1837,H⟩:=Z4 H
  refine AWp.loop (LWp.conv (inv:=[]) (vk:=[]) (e0:=[]) (t:=⟨[(0,.im (.row (a0.map Z7))),(9,.im (.row (a0.map Z7))),(10,iV .i64 (a0.length:Int)),(11,iV .i64 0)],[],0⟩) (by kernel_rfl) ?_)
  refine LWp.mono (Q:=fun e s=>(match (generalizing:=false) o1836 with | .inl rr=>e = .ret∧s.floor=0∧Z2c Try.prog Try.f10 s=some (iV .i64 rr)∧([]:List (Nat×Option MObj))=[] | .inr _=>e = .exit 0∧s=⟨[],[],0⟩)) (LWp.cv (Zt (fun body hbody => ?_))) ?_
  ·refine            Zl.l0.partial_correctness a0 (motive:=fun x1812 o1836=>LWp Γ body (fun e s=>∃ t,Cv Γ s t∧(match (generalizing:=false) o1836 with | .inl rr=>e = .ret∧t.floor=0∧Z2c   Try.prog Try.f10 t=some (iV .i64 rr)∧([]:List (Nat×Option MObj))=[] | .inr _=>e = .exit 0∧t=⟨[],[],0⟩)) ⟨[(0,.im (.row (a0.map Z7     ))),(9,.im (.row (a0.map Z7     ))),(10,iV .i64 (a0.length:Int)),(11,iV .i64 x1812)],[],0⟩) ?_ _ _ e1837
   clear H e1837 o1836;intro self ih x1812 o1836 H
   subst hbody
   refine LWp.round ?_
   refine sO hP hn hm [] [(12,bV (decide (x1812<(a0.length:Int))))] [0,9,10,11,12] [] [] ?_
   refine AWp.seq ?_
   refine AWp.cond (decide (x1812<(a0.length:Int))) (by kernel_rfl) (fun c1813 => ?_) (fun c1813 => ?_)
   ·replace H:=iT c1813 H
    refine AWp.skip ?_
    refine AWp.seq ?_
    refine AWp.block ?_
    obtain⟨b1817,p1818,q1819,H⟩:=Z0d H
    refine sR hP hn hm [(1,.c (Z7 b1817)),(3,.k 2)] [(3,iV .i64 x1812),(4,.ptr 2 0 0)] [0,3,4,9,10,11] [(2,some (.box 38 [iV .i64 b1817.f0,iV .i64 b1817.f1.f0,iV .i64 b1817.f1.f1,iV .i64 b1817.f1.f2,iV .u64 b1817.f1.f3,iV .u64 b1817.f1.f4,iV .i64 b1817.f1.f5,.im (.row (b1817.f1.f6.map Z0)),.im (.row (b1817.f1.f7.map Z0))]))] [2] [_,_] ⟨p1818,Zk Z7 q1819,trivial⟩ ?_
    refine AWp.seq ?_
    refine AWp.seq ?_
    obtain⟨o1838,e1839,H⟩:=Z4 H
    refine AWp.mono (Q:=fun e s=>(match (generalizing:=false) o1838 with | x1822=>e = .normal∧s=⟨[(0,.im (.row (a0.map Z7))),(3,iV .i64 x1812),(4,.ptr 3 0 0),(9,.im (.row (a0.map Z7))),(10,iV .i64 (a0.length:Int)),(11,iV .i64 x1812),(23,bV x1822)],[(3,some (.box 38 [iV .i64 b1817.f0,iV .i64 b1817.f1.f0,iV .i64 b1817.f1.f1,iV .i64 b1817.f1.f2,iV .u64 b1817.f1.f3,iV .u64 b1817.f1.f4,iV .i64 b1817.f1.f5,.im (.row (b1817.f1.f6.map Z0)),.im (.row (b1817.f1.f7.map Z0))]))],0⟩)) (AWp.cv ?_) ?_
    ·replace H:=e1839;clear e1839
     rcases Bool.eq_false_or_eq_true (decide (b1817.f0<(0:Int))) with c1821 | c1821
     ·replace H:=iT c1821 H
      refine rG hP hn hm [(3,.b true)] [(23,bV true)] [0,3,4,9,10,11,23] [] [2] [_] ⟨c1821,trivial⟩ ?_
      obtain rfl:=sj H
      exact lf [(2,3)] [] [] (by kernel_rfl) ⟨rfl,rfl⟩
     ·replace H:=iF c1821 H
      refine rG hP hn hm [(3,.b false)] [(20,.ptr 2 0 0),(21,iV .i64 b1817.f0),(22,bV (decide (b1817.f0>(1099511627776:Int)))),(23,bV (decide (b1817.f0>(1099511627776:Int))))] [0,3,4,9,10,11,20,21,22,23] [] [2] [_] ⟨c1821,trivial⟩ ?_
      obtain rfl:=sj H
      exact lf [(2,3)] [] [] (by kernel_rfl) ⟨rfl,rfl⟩
    ·obtain⟨x1822,rfl⟩:∃ z,z=o1838:=⟨_,rfl⟩
     rintro e s ⟨rfl,rfl⟩
     refine AWp.cond x1822 (by kernel_rfl) (fun c1823 => ?_) (fun c1823 => ?_)
     ·replace H:=iT c1823 H
      refine sO hP hn hm [] [(2,iV .i64 4)] [2] [] [] ?_
      refine AWp.conv (inv:=[]) (vk:=[]) (e0:=[]) (t:=⟨[(2,iV .i64 4)],[],0⟩) (by kernel_rfl) ?_
      refine AWp.ret ?_
      obtain rfl:=sj H
      exact rl rfl rfl (by kernel_rfl) (by kernel_rfl)
     ·replace H:=iF c1823 H
      refine AWp.skip ?_
      refine AWp.seq ?_
      obtain⟨t1826,e1827,H⟩:=Z4 H
      refine sR hP hn hm [(2,.call [] [] [] [] 0 (iV .i64 t1826) [])] [(5,iV .i64 t1826)] [0,3,4,5,9,10,11] [] [3] [_,_] ⟨Try.call11,Z02.ok b1817.f1 t1826 e1827,trivial⟩ ?_
      refine sO hP hn hm [] [(28,bV (t1826 != (0:Int)))] [0,3,4,5,9,10,11,28] [] [3] ?_
      refine AWp.cond (t1826 != (0:Int)) (by kernel_rfl) (fun c1828 => ?_) (fun c1828 => ?_)
      ·replace H:=iT c1828 H
       refine sO hP hn hm [] [(2,iV .i64 t1826)] [2] [] [] ?_
       refine AWp.conv (inv:=[]) (vk:=[]) (e0:=[]) (t:=⟨[(2,iV .i64 t1826)],[],0⟩) (by kernel_rfl) ?_
       refine AWp.ret ?_
       obtain rfl:=sj H
       exact rl rfl rfl (by kernel_rfl) (by kernel_rfl)
      ·replace H:=iF c1828 H
       refine AWp.skip ?_
       obtain⟨c1832,H⟩:=Z0x H
       obtain⟨t1833,e1834,H⟩:=Z4 H
       refine sR hP hn hm [(2,.rows (((a0.drop (Int.toNat ((0:Int)))).take ((Int.toNat (x1812))-(Int.toNat ((0:Int))))).map Z7)),(4,.call [] [] [] [] 0 (bV t1833) [])] [(35,bV (!t1833))] [0,9,10,11,35] [] [] [0≤(0:Int),(0:Int)≤x1812,x1812≤((a0.map Z7).length:Int),∀ c∈a0.map Z7,c.length=9,((a0.drop (Int.toNat ((0:Int)))).take ((Int.toNat (x1812))-(Int.toNat ((0:Int))))).map Z7=((a0.map Z7).drop (Int.toNat ((0:Int)))).take ((Int.toNat (x1812))-(Int.toNat ((0:Int)))),_,_] ⟨by exact c1832.1,by simpa using c1832.2.1,by simpa using c1832.2.2,by exact Z0o _ _ _ (fun _=>rfl),by simp[cut1],Try.call12,Zw.ok ((a0.drop (Int.toNat ((0:Int)))).take ((Int.toNat (x1812))-(Int.toNat ((0:Int))))) b1817 t1833 e1834,trivial⟩ ?_
       refine AWp.cond (!t1833) (by kernel_rfl) (fun c1835 => ?_) (fun c1835 => ?_)
       ·replace H:=iT c1835 H
        refine sO hP hn hm [] [(2,iV .i64 6)] [2] [] [] ?_
        refine AWp.conv (inv:=[]) (vk:=[]) (e0:=[]) (t:=⟨[(2,iV .i64 6)],[],0⟩) (by kernel_rfl) ?_
        refine AWp.ret ?_
        obtain rfl:=sj H
        exact rl rfl rfl (by kernel_rfl) (by kernel_rfl)
       ·replace H:=iF c1835 H
        refine AWp.skip ?_
        refine rO hP hn hm [] [(11,iV .i64 (i64.wrap (x1812+(1:Int))))] [0,9,10,11] [] [] ?_
        exact LWp.conv [] [] [] (by kernel_rfl) (ih _ _ H)
   ·replace H:=iF c1813 H
    refine AWp.exit ?_
    obtain rfl:=sj H
    exact lf [] [] [] (by kernel_rfl) ⟨rfl,rfl⟩
  ·rcases o1836 with rr | _
   ·skip
    rintro e s ⟨rfl,hfl,hres⟩
    obtain rfl:=sj H
    exact Exists.intro _ (And.intro (fun _ _ h=>h) (And.intro (.inl rfl) (And.intro hfl hres)))
   ·skip
    rintro e s ⟨rfl,rfl⟩
    refine sO hP hn hm [] [(2,iV .i64 0)] [2] [] [] ?_
    refine AWp.conv (inv:=[]) (vk:=[]) (e0:=[]) (t:=⟨[(2,iV .i64 0)],[],0⟩) (by kernel_rfl) ?_
    refine AWp.ret ?_
    obtain rfl:=sj H
    exact rl (.inl rfl) rfl (by kernel_rfl) (by kernel_rfl)
def Z33.f (a0:Int) (a1:Int):Option (Zj):=some (⟨a0,a1,(-524288),0,0,0,[],[]⟩:Zj)
theorem Z33.ok (a0:Int) (a1:Int) (r:Zj) (H:Z33.f a0 a1=some r):Pv.Fn Try.prog 14 [iV .i64 a0,iV .i64 a1] [] 0 (fun x o=>x = .agg (Zn (r))∧o=[]):=by
 unfold Z33.f at H
 refine Fn.bodyK [] Try.func14 rfl rfl (fun Γ hP hn => ?_)
 have hm:Try.prog.follows .mixedOrders=true:=by kernel_rfl
 replace hn:Γ.n=8:=hn
 refine sO hP hn hm [(0,.k 0)] [(4,.ptr 0 0 0)] [0,1,4] [(0,some (.box 36 [iV .i64 0,iV .i64 0,iV .i64 0,iV .u64 0,iV .u64 0,iV .i64 0,.none0,.none0]))] [0] ?_
 refine sO hP hn hm [] [] [4] [(0,some (.box 36 [iV .i64 a0,iV .i64 a1,iV .i64 (-524288),iV .u64 0,iV .u64 0,iV .i64 0,.none0,.none0]))] [0] ?_
 refine AWp.conv (inv:=[(0,0)]) (vk:=[]) (e0:=[]) (t:=⟨[(4,.ptr 0 0 0)],[(0,some (.box 36 (Zn ((⟨a0,a1,(-524288),0,0,0,[],[]⟩:Zj)))))],0⟩) (by kernel_rfl) ?_
 refine AWp.ret ?_
 obtain rfl:=sj H
 exact rl (.inl rfl) rfl (by kernel_rfl) (by kernel_rfl)
def Z1n.f (a0_c1:Int) (a1:Bool):Option ((List Int)×Int):=((if(a0_c1==(0:Int))=true then((chk ((([]:List Int).length+[0].length)*1≤140737488355328))>>=fun _=>some ([0],8)) else(some ([],a0_c1))):Option ((List Int)×Int))>>=fun oo=>match oo with | (x1882,x1883)=>(((if a1=true then((at? x1882 (i64.wrap ((x1882.length:Int)-(1:Int))))>>=fun b1889=>(chk (0≤(u64.wrap (x1883-(1:Int)))))>>=fun _=>some (x1882.set (Int.toNat (i64.wrap ((x1882.length:Int)-(1:Int)))) (u8.wrap (((BitVec.toNat (BitVec.ofInt 8 b1889 ||| BitVec.ofInt 8 (u8.wrap ((1:Int)*2 ^ (min (Int.toNat (u64.wrap (x1883-(1:Int)))) 8)))):Nat):Int))))) else(some x1882)):Option (List Int))>>=fun x1893=>some (x1893,u64.wrap (x1883-(1:Int))))
theorem Z1n.ok (a0_c1:Int) (a1:Bool) (r:(List Int)×Int) (H:Z1n.f a0_c1 a1=some r):Pv.Fn Try.prog 16 [.ptr 0 0 0,bV a1] [(0,some (.box 49 [.none0,iV .u64 a0_c1]))] 1 (fun x o=>x = .tup []∧o=[(0,some (.box 49 [.own 1,iV .u64 r.2])),(1,some (.row 1 5 (r.1.map (Z1 .u8))))]):=by
 unfold Z1n.f at H
 refine Fn.bodyK [0,1] Try.func16 rfl rfl (fun Γ hP hn => ?_)
 have hm:Try.prog.follows .mixedOrders=true:=by kernel_rfl
 replace hn:Γ.n=48:=hn
 refine AWp.seq ?_
 refine sO hP hn hm [] [(8,bV (a0_c1==(0:Int)))] [0,1,8] [] [0] ?_
 obtain⟨o1894,e1895,H⟩:=Z4 H
 refine AWp.mono (Q:=fun e s=>(match (generalizing:=false) o1894 with | (x1882,x1883)=>e = .normal∧s=⟨[(0,.ptr 0 0 0),(1,bV a1)],[(0,some (.box 49 [.own 3,iV .u64 x1883])),(3,some (.row 1 5 (x1882.map (Z1 .u8))))],1⟩)) (AWp.cv ?_) ?_
 ·replace H:=e1895;clear e1895
  refine AWp.cond (a0_c1==(0:Int)) (by kernel_rfl) (fun c1879 => ?_) (fun c1879 => ?_)
  ·replace H:=iT c1879 H
   obtain⟨c1881,H⟩:=Z0x H
   refine sR hP hn hm [(5,.app 1 ([0].map (Z1 .u8))),(6,.app 2 ([0].map (Z1 .u8)))] [] [0,1] [(0,some (.box 49 [.own 2,iV .u64 a0_c1])),(2,some (.row 1 5 ([0].map (Z1 .u8))))] [0,2] [[0].map (Z1 .u8)=[[iI .u8 0]],[0].map (Z1 .u8)=([]:List (List Im))++([0].map (Z1 .u8)),∀ c∈([0].map (Z1 .u8)),c.length=1,∀ c∈([0].map (Z1 .u8)),Z0k (c.map .im)=true,(([]:List (List Im)).length+([0].map (Z1 .u8)).length)*1≤140737488355328] ⟨by exact rfl,by simp,by exact Z0o _ _ _ (fun _=>rfl),by exact Z0p _ _ (fun _=>rfl),by simpa using c1881,trivial⟩ ?_
   refine rO hP hn hm [] [] [0,1] [(0,some (.box 49 [.own 2,iV .u64 8]))] [0,2] ?_
   obtain rfl:=sj H
   exact lf [(0,0),(2,3)] [] [] (by kernel_rfl) ⟨rfl,rfl⟩
  ·replace H:=iF c1879 H
   refine AWp.skip ?_
   obtain rfl:=sj H
   exact lf [(0,0)] [] [3] (by kernel_rfl) ⟨rfl,rfl⟩
 ·obtain⟨x1882,x1883⟩:=o1894
  rintro e s ⟨rfl,rfl⟩
  refine sO hP hn hm [] [] [0,1] [(0,some (.box 49 [.own 3,iV .u64 (u64.wrap (x1883-(1:Int)))]))] [0,3] ?_
  refine sO hP hn hm [] [(28,bV a1)] [0,28] [] [0,3] ?_
  obtain⟨o1896,e1897,H⟩:=Z4 H
  refine AWp.mono (Q:=fun e s=>(match (generalizing:=false) o1896 with | x1893=>e = .normal∧s=⟨[],[(0,some (.box 49 [.own 4,iV .u64 (u64.wrap (x1883-(1:Int)))])),(4,some (.row 1 5 (x1893.map (Z1 .u8))))],1⟩)) (AWp.cv ?_) ?_
  ·replace H:=e1897;clear e1897
   refine AWp.cond a1 (by kernel_rfl) (fun c1884 => ?_) (fun c1884 => ?_)
   ·replace H:=iT c1884 H
    obtain⟨b1889,p1890,q1891,H⟩:=Z0d H
    obtain⟨c1892,H⟩:=Z0x H
    refine rG hP hn hm [(8,.any (iV .i64 (x1882.length:Int))),(11,.c ((Z1 .u8) b1889)),(19,.put ((Z1 .u8) b1889) ((x1882.set (Int.toNat (i64.wrap ((x1882.length:Int)-(1:Int)))) (u8.wrap (((BitVec.toNat (BitVec.ofInt 8 b1889 ||| BitVec.ofInt 8 (u8.wrap ((1:Int)*2 ^ (min (Int.toNat (u64.wrap (x1883-(1:Int)))) 8)))):Nat):Int)))).map (Z1 .u8)))] [] [] [(3,some (.row 1 5 ((x1882.set (Int.toNat (i64.wrap ((x1882.length:Int)-(1:Int)))) (u8.wrap (((BitVec.toNat (BitVec.ofInt 8 b1889 ||| BitVec.ofInt 8 (u8.wrap ((1:Int)*2 ^ (min (Int.toNat (u64.wrap (x1883-(1:Int)))) 8)))):Nat):Int)))).map (Z1 .u8))))] [0,3] [((x1882.map (Z1 .u8)).length:Int)=(x1882.length:Int),_,_,_,_,_,_,_,(x1882.set (Int.toNat (i64.wrap ((x1882.length:Int)-(1:Int)))) (u8.wrap (((BitVec.toNat (BitVec.ofInt 8 b1889 ||| BitVec.ofInt 8 (u8.wrap ((1:Int)*2 ^ (min (Int.toNat (u64.wrap (x1883-(1:Int)))) 8)))):Nat):Int)))).map (Z1 .u8)=(x1882.map (Z1 .u8)).set (Int.toNat (i64.wrap ((x1882.length:Int)-(1:Int)))) (Z1c ((Z1 .u8) b1889) 0 [iI .u8 (u8.wrap (((BitVec.toNat (BitVec.ofInt 8 b1889 ||| BitVec.ofInt 8 (u8.wrap ((1:Int)*2 ^ (min (Int.toNat (u64.wrap (x1883-(1:Int)))) 8)))):Nat):Int)))])] ⟨by rw[Zi],p1890,Z1g (Z1 .u8) p1890 q1891,Zk (Z1 .u8) q1891,c1892,p1890,Z1g (Z1 .u8) p1890 q1891,Zk (Z1 .u8) q1891,by exact set1 _ _ _ _,trivial⟩ ?_
    obtain rfl:=sj H
    exact lf [(0,0),(3,4)] [] [] (by kernel_rfl) ⟨rfl,rfl⟩
   ·replace H:=iF c1884 H
    refine AWp.skip ?_
    obtain rfl:=sj H
    exact lf [(0,0),(3,4)] [] [] (by kernel_rfl) ⟨rfl,rfl⟩
  ·obtain⟨x1893,rfl⟩:∃ z,z=o1896:=⟨_,rfl⟩
   rintro e s ⟨rfl,rfl⟩
   obtain rfl:=sj H
   exact Exists.intro ⟨[],[(0,some (.box 49 [.own 1,iV .u64 (u64.wrap (x1883-(1:Int)))])),(1,some (.row 1 5 (x1893.map (Z1 .u8))))],1⟩ (And.intro (fun _ _ h=>h.conv (inv:=[(0,0),(4,1)]) (vk:=[]) (e0:=[]) (t:=⟨[],[(0,some (.box 49 [.own 1,iV .u64 (u64.wrap (x1883-(1:Int)))])),(1,some (.row 1 5 (x1893.map (Z1 .u8))))],1⟩) (by kernel_rfl)) (And.intro (.inr rfl) (And.intro rfl (And.intro (by kernel_rfl) (by kernel_rfl)))))
def Z0f.f (a0_c0:List Int) (a0_c1:Int) (a1:Bool):Option ((List Int)×Int):=((if(a0_c1==(0:Int))=true then((chk ((a0_c0.length+[0].length)*1≤140737488355328))>>=fun _=>some (a0_c0++[0],8)) else(some (a0_c0,a0_c1))):Option ((List Int)×Int))>>=fun oo=>match oo with | (x1907,x1908)=>(((if a1=true then((at? x1907 (i64.wrap ((x1907.length:Int)-(1:Int))))>>=fun b1914=>(chk (0≤(u64.wrap (x1908-(1:Int)))))>>=fun _=>some (x1907.set (Int.toNat (i64.wrap ((x1907.length:Int)-(1:Int)))) (u8.wrap (((BitVec.toNat (BitVec.ofInt 8 b1914 ||| BitVec.ofInt 8 (u8.wrap ((1:Int)*2 ^ (min (Int.toNat (u64.wrap (x1908-(1:Int)))) 8)))):Nat):Int))))) else(some x1907)):Option (List Int))>>=fun x1918=>some (x1918,u64.wrap (x1908-(1:Int))))
theorem Z0f.ok (a0_c0:List Int) (a0_c1:Int) (a1:Bool) (r:(List Int)×Int) (H:Z0f.f a0_c0 a0_c1 a1=some r):Pv.Fn Try.prog 16 [.ptr 0 0 0,bV a1] [(0,some (.box 49 [.own 1,iV .u64 a0_c1])),(1,some (.row 1 5 (a0_c0.map (Z1 .u8))))] 2 (fun x o=>x = .tup []∧o=[(0,some (.box 49 [.own 2,iV .u64 r.2])),(1,none),(2,some (.row 1 5 (r.1.map (Z1 .u8))))]):=by
 unfold Z0f.f at H
 refine Fn.bodyK [0,1,2] Try.func16 rfl rfl (fun Γ hP hn => ?_)
 have hm:Try.prog.follows .mixedOrders=true:=by kernel_rfl
 replace hn:Γ.n=48:=hn
 refine AWp.seq ?_
 refine sO hP hn hm [] [(8,bV (a0_c1==(0:Int)))] [0,1,8] [] [0,1] ?_
 obtain⟨o1919,e1920,H⟩:=Z4 H
 refine AWp.mono (Q:=fun e s=>(match (generalizing:=false) o1919 with | (x1907,x1908)=>e = .normal∧s=⟨[(0,.ptr 0 0 0),(1,bV a1)],[(0,some (.box 49 [.own 4,iV .u64 x1908])),(4,some (.row 1 5 (x1907.map (Z1 .u8))))],2⟩)) (AWp.cv ?_) ?_
 ·replace H:=e1920;clear e1920
  refine AWp.cond (a0_c1==(0:Int)) (by kernel_rfl) (fun c1904 => ?_) (fun c1904 => ?_)
  ·replace H:=iT c1904 H
   obtain⟨c1906,H⟩:=Z0x H
   refine sR hP hn hm [(5,.app 2 ([0].map (Z1 .u8))),(6,.app 3 ((a0_c0++[0]).map (Z1 .u8)))] [] [0,1] [(0,some (.box 49 [.own 3,iV .u64 a0_c1])),(3,some (.row 1 5 ((a0_c0++[0]).map (Z1 .u8))))] [0,3] [[0].map (Z1 .u8)=[[iI .u8 0]],(a0_c0++[0]).map (Z1 .u8)=(a0_c0.map (Z1 .u8))++([0].map (Z1 .u8)),∀ c∈([0].map (Z1 .u8)),c.length=1,∀ c∈([0].map (Z1 .u8)),Z0k (c.map .im)=true,((a0_c0.map (Z1 .u8)).length+([0].map (Z1 .u8)).length)*1≤140737488355328] ⟨by exact rfl,by simp,by exact Z0o _ _ _ (fun _=>rfl),by exact Z0p _ _ (fun _=>rfl),by simpa using c1906,trivial⟩ ?_
   refine rO hP hn hm [] [] [0,1] [(0,some (.box 49 [.own 3,iV .u64 8]))] [0,3] ?_
   obtain rfl:=sj H
   exact lf [(0,0),(3,4)] [] [] (by kernel_rfl) ⟨rfl,rfl⟩
  ·replace H:=iF c1904 H
   refine AWp.skip ?_
   obtain rfl:=sj H
   exact lf [(0,0),(1,4)] [] [] (by kernel_rfl) ⟨rfl,rfl⟩
 ·obtain⟨x1907,x1908⟩:=o1919
  rintro e s ⟨rfl,rfl⟩
  refine sO hP hn hm [] [] [0,1] [(0,some (.box 49 [.own 4,iV .u64 (u64.wrap (x1908-(1:Int)))]))] [0,4] ?_
  refine sO hP hn hm [] [(28,bV a1)] [0,28] [] [0,4] ?_
  obtain⟨o1921,e1922,H⟩:=Z4 H
  refine AWp.mono (Q:=fun e s=>(match (generalizing:=false) o1921 with | x1918=>e = .normal∧s=⟨[],[(0,some (.box 49 [.own 5,iV .u64 (u64.wrap (x1908-(1:Int)))])),(5,some (.row 1 5 (x1918.map (Z1 .u8))))],2⟩)) (AWp.cv ?_) ?_
  ·replace H:=e1922;clear e1922
   refine AWp.cond a1 (by kernel_rfl) (fun c1909 => ?_) (fun c1909 => ?_)
   ·replace H:=iT c1909 H
    obtain⟨b1914,p1915,q1916,H⟩:=Z0d H
    obtain⟨c1917,H⟩:=Z0x H
    refine rG hP hn hm [(8,.any (iV .i64 (x1907.length:Int))),(11,.c ((Z1 .u8) b1914)),(19,.put ((Z1 .u8) b1914) ((x1907.set (Int.toNat (i64.wrap ((x1907.length:Int)-(1:Int)))) (u8.wrap (((BitVec.toNat (BitVec.ofInt 8 b1914 ||| BitVec.ofInt 8 (u8.wrap ((1:Int)*2 ^ (min (Int.toNat (u64.wrap (x1908-(1:Int)))) 8)))):Nat):Int)))).map (Z1 .u8)))] [] [] [(4,some (.row 1 5 ((x1907.set (Int.toNat (i64.wrap ((x1907.length:Int)-(1:Int)))) (u8.wrap (((BitVec.toNat (BitVec.ofInt 8 b1914 ||| BitVec.ofInt 8 (u8.wrap ((1:Int)*2 ^ (min (Int.toNat (u64.wrap (x1908-(1:Int)))) 8)))):Nat):Int)))).map (Z1 .u8))))] [0,4] [((x1907.map (Z1 .u8)).length:Int)=(x1907.length:Int),_,_,_,_,_,_,_,(x1907.set (Int.toNat (i64.wrap ((x1907.length:Int)-(1:Int)))) (u8.wrap (((BitVec.toNat (BitVec.ofInt 8 b1914 ||| BitVec.ofInt 8 (u8.wrap ((1:Int)*2 ^ (min (Int.toNat (u64.wrap (x1908-(1:Int)))) 8)))):Nat):Int)))).map (Z1 .u8)=(x1907.map (Z1 .u8)).set (Int.toNat (i64.wrap ((x1907.length:Int)-(1:Int)))) (Z1c ((Z1 .u8) b1914) 0 [iI .u8 (u8.wrap (((BitVec.toNat (BitVec.ofInt 8 b1914 ||| BitVec.ofInt 8 (u8.wrap ((1:Int)*2 ^ (min (Int.toNat (u64.wrap (x1908-(1:Int)))) 8)))):Nat):Int)))])] ⟨by rw[Zi],p1915,Z1g (Z1 .u8) p1915 q1916,Zk (Z1 .u8) q1916,c1917,p1915,Z1g (Z1 .u8) p1915 q1916,Zk (Z1 .u8) q1916,by exact set1 _ _ _ _,trivial⟩ ?_
    obtain rfl:=sj H
    exact lf [(0,0),(4,5)] [] [] (by kernel_rfl) ⟨rfl,rfl⟩
   ·replace H:=iF c1909 H
    refine AWp.skip ?_
    obtain rfl:=sj H
    exact lf [(0,0),(4,5)] [] [] (by kernel_rfl) ⟨rfl,rfl⟩
  ·obtain⟨x1918,rfl⟩:∃ z,z=o1921:=⟨_,rfl⟩
   rintro e s ⟨rfl,rfl⟩
   obtain rfl:=sj H
   exact Exists.intro ⟨[],[(0,some (.box 49 [.own 2,iV .u64 (u64.wrap (x1908-(1:Int)))])),(2,some (.row 1 5 (x1918.map (Z1 .u8))))],2⟩ (And.intro (fun _ _ h=>h.conv (inv:=[(0,0),(5,2)]) (vk:=[]) (e0:=[]) (t:=⟨[],[(0,some (.box 49 [.own 2,iV .u64 (u64.wrap (x1908-(1:Int)))])),(2,some (.row 1 5 (x1918.map (Z1 .u8))))],2⟩) (by kernel_rfl)) (And.intro (.inr rfl) (And.intro rfl (And.intro (by kernel_rfl) (by kernel_rfl)))))
def Z08.l0 (a1:Int) (x1928:List Int) (x1929:Int) (x1930:Int):Option ((List Int)×Int):=if(decide (x1930≥(0:Int)))=true then((chk (0≤(u64.wrap (x1930))))>>=fun _=>(Z0f.f x1928 x1929 ((u64.wrap (((BitVec.toNat (BitVec.ofInt 64 (Int.fdiv a1 (2 ^ (min (Int.toNat (u64.wrap (x1930))) 64))) &&& BitVec.ofInt 64 (1:Int)):Nat):Int)))==(1:Int)))>>=fun t1936=>Z08.l0 a1 t1936.1 t1936.2 (i64.wrap (x1930-(1:Int)))) else(some (x1928,x1929))
partial_fixpoint
def Z08.f (a0_c0:List Int) (a0_c1:Int) (a1:Int) (a2:Int):Option ((List Int)×Int):=(Z08.l0 a1 a0_c0 a0_c1 (i64.wrap ((if(if(64:Int)<a2 then(64:Int) else a2)>(0:Int) then(if(64:Int)<a2 then(64:Int) else a2) else(0:Int))-(1:Int))))>>=fun oo=>match oo with | (x1938,x1939)=>(some (x1938,x1939))
theorem Z08.ok (a0_c0:List Int) (a0_c1:Int) (a1:Int) (a2:Int) (r:(List Int)×Int) (H:Z08.f a0_c0 a0_c1 a1 a2=some r):Pv.Fn Try.prog 17 [.ptr 0 0 0,iV .u64 a1,iV .i64 a2] [(0,some (.box 49 [.own 1,iV .u64 a0_c1])),(1,some (.row 1 5 (a0_c0.map (Z1 .u8))))] 2 (fun x o=>x = .tup []∧o=[(0,some (.box 49 [.own 2,iV .u64 r.2])),(1,none),(2,some (.row 1 5 (r.1.map (Z1 .u8))))]):=by
 unfold Z08.f at H
 refine Fn.bodyK [0,1,2] Try.func17 rfl rfl (fun Γ hP hn => ?_)
 have hm:Try.prog.follows .mixedOrders=true:=by kernel_rfl
 replace hn:Γ.n=23:=hn
 refine sO hP hn hm [(1,.more xMin),(2,.more xMax)] [(6,iV .i64 (i64.wrap ((if(if(64:Int)<a2 then(64:Int) else a2)>(0:Int) then(if(64:Int)<a2 then(64:Int) else a2) else(0:Int))-(1:Int))))] [0,1,6] [] [0,1] ?_
 refine AWp.block ?_
 obtain⟨o1940,e1941,H⟩:=Z4 H
 refine AWp.loop (LWp.conv (inv:=[(0,0),(1,3)]) (vk:=[]) (e0:=[]) (t:=⟨[(0,.ptr 0 0 0),(1,iV .u64 a1),(6,iV .i64 (i64.wrap ((if(if(64:Int)<a2 then(64:Int) else a2)>(0:Int) then(if(64:Int)<a2 then(64:Int) else a2) else(0:Int))-(1:Int))))],[(0,some (.box 49 [.own 3,iV .u64 a0_c1])),(3,some (.row 1 5 (a0_c0.map (Z1 .u8))))],2⟩) (by kernel_rfl) ?_)
 refine LWp.mono (Q:=fun e s=>(match (generalizing:=false) o1940 with | (x1938,x1939)=>e = .exit 0∧s=⟨[],[(0,some (.box 49 [.own 5,iV .u64 x1939])),(5,some (.row 1 5 (x1938.map (Z1 .u8))))],2⟩)) (LWp.cv (Zt (fun body hbody => ?_))) ?_
 ·refine                   Z08.l0.partial_correctness a1 (motive:=fun x1928 x1929 x1930 o1940=>LWp Γ body (fun e s=>∃ t,Cv Γ s t∧(match (generalizing:=false) o1940 with | (x1938,x1939)=>e = .exit 0∧t=⟨[],[(0,some (.box 49 [.own 5,iV .u64 x1939])),(5,some (.row 1 5 (x1938.map (Z1     .u8))))],2⟩)) ⟨[(0,.ptr 0 0 0),(1,iV .u64 a1),(6,iV .i64 x1930)],[(0,some (.box 49 [.own 3,iV .u64 x1929])),(3,some (.row 1 5 (x1928.map (Z1     .u8))))],2⟩) ?_ _ _ _ _ e1941
  clear H e1941 o1940;intro self ih x1928 x1929 x1930 o1940 H
  subst hbody
  refine LWp.round ?_
  refine AWp.seq ?_
  refine sO hP hn hm [] [(12,bV (decide (x1930≥(0:Int))))] [0,1,6,12] [] [0,3] ?_
  refine AWp.cond (decide (x1930≥(0:Int))) (by kernel_rfl) (fun c1931 => ?_) (fun c1931 => ?_)
  ·replace H:=iT c1931 H
   refine AWp.skip ?_
   refine AWp.seq ?_
   refine AWp.block ?_
   obtain⟨c1935,H⟩:=Z0x H
   obtain⟨t1936,e1937,H⟩:=Z4 H
   refine rG hP hn hm [(7,.call [(0,0),(3,1)] [(0,0),(2,4)] [] [4] 2 (.tup []) [(0,some (.box 49 [.own 2,iV .u64 t1936.2])),(1,none),(2,some (.row 1 5 (t1936.1.map (Z1 .u8))))])] [] [0,1,6] [(0,some (.box 49 [.own 4,iV .u64 t1936.2])),(4,some (.row 1 5 (t1936.1.map (Z1 .u8))))] [0,4] [_,_,_] ⟨c1935,Try.call16,Z0f.ok x1928 x1929 ((u64.wrap (((BitVec.toNat (BitVec.ofInt 64 (Int.fdiv a1 (2 ^ (min (Int.toNat (u64.wrap (x1930))) 64))) &&& BitVec.ofInt 64 (1:Int)):Nat):Int)))==(1:Int)) t1936 e1937,trivial⟩ ?_
   refine rO hP hn hm [] [(6,iV .i64 (i64.wrap (x1930-(1:Int))))] [0,1,6] [] [0,4] ?_
   exact LWp.conv [(0,0),(4,3)] [] [] (by kernel_rfl) (ih _ _ _ _ H)
  ·replace H:=iF c1931 H
   refine AWp.exit ?_
   obtain rfl:=sj H
   exact lf [(0,0),(3,5)] [] [] (by kernel_rfl) ⟨rfl,rfl⟩
 ·obtain⟨x1938,x1939⟩:=o1940
  rintro e s ⟨rfl,rfl⟩
  obtain rfl:=sj H
  exact Exists.intro ⟨[],[(0,some (.box 49 [.own 2,iV .u64 x1939])),(2,some (.row 1 5 (x1938.map (Z1 .u8))))],2⟩ (And.intro (fun _ _ h=>h.conv (inv:=[(0,0),(5,2)]) (vk:=[]) (e0:=[]) (t:=⟨[],[(0,some (.box 49 [.own 2,iV .u64 x1939])),(2,some (.row 1 5 (x1938.map (Z1 .u8))))],2⟩) (by kernel_rfl)) (And.intro (.inr rfl) (And.intro rfl (And.intro (by kernel_rfl) (by kernel_rfl)))))
def Z4g.f (a0:Int):Option (Unit):=some ()
theorem Z4g.ok (a0:Int) (r:Unit) (H:Z4g.f a0=some r):Pv.Fn Try.prog 41 [iV .i64 a0] [] 0 (fun x o=>x=iV .u64 (u64.wrap (((BitVec.toNat (BitVec.ofInt 64 (u64.wrap (i64.wrap (a0*2))) ^^^ BitVec.ofInt 64 (u64.wrap (Int.fdiv a0 9223372036854775808))):Nat):Int)))∧o=[]):=by
 unfold Z4g.f at H
 refine Fn.bodyK [] Try.func41 rfl rfl (fun Γ hP hn => ?_)
 have hm:Try.prog.follows .mixedOrders=true:=by kernel_rfl
 replace hn:Γ.n=10:=hn
 refine sO hP hn hm [] [] [0] [] [] ?_
 refine sR hP hn hm [] [(2,iV .u64 (u64.wrap (((BitVec.toNat (BitVec.ofInt 64 (u64.wrap (i64.wrap (a0*2))) ^^^ BitVec.ofInt 64 (u64.wrap (Int.fdiv a0 9223372036854775808))):Nat):Int))))] [2] [] [] [(0:Int)≤1,(0:Int)≤63] ⟨by decide,by decide,trivial⟩ ?_
 refine AWp.conv (inv:=[]) (vk:=[]) (e0:=[]) (t:=⟨[(2,iV .u64 (u64.wrap (((BitVec.toNat (BitVec.ofInt 64 (u64.wrap (i64.wrap (a0*2))) ^^^ BitVec.ofInt 64 (u64.wrap (Int.fdiv a0 9223372036854775808))):Nat):Int))))],[],0⟩) (by kernel_rfl) ?_
 refine AWp.ret ?_
 obtain rfl:=sj H
 exact rl (.inl rfl) rfl (by kernel_rfl) (by kernel_rfl)
def Z28.f  : Option (List Int):=some [0,3,7,12,20,32,64]
theorem Z28.ok  (r:List Int) (H:Z28.f  = some r):Pv.Fn Try.prog 42 [] [] 0 (fun x o=>x = .own 0∧o=[(0,some (.row 1 3 (r.map (Z1 .i64))))]):=by
 unfold Z28.f at H
 refine Fn.bodyK [0] Try.func42 rfl rfl (fun Γ hP hn => ?_)
 have hm:Try.prog.follows .mixedOrders=true:=by kernel_rfl
 replace hn:Γ.n=2:=hn
 refine sO hP hn hm [] [] [] [] [] ?_
 refine sR hP hn hm [(0,.app 0 ([0,3,7,12,20,32,64].map (Z1 .i64)))] [(0,.own 0)] [0] [(0,some (.row 1 3 ([0,3,7,12,20,32,64].map (Z1 .i64))))] [0] [[0,3,7,12,20,32,64].map (Z1 .i64)=[[iI .i64 0],[iI .i64 3],[iI .i64 7],[iI .i64 12],[iI .i64 20],[iI .i64 32],[iI .i64 64]]] ⟨by exact rfl,trivial⟩ ?_
 refine AWp.conv (inv:=[(0,0)]) (vk:=[]) (e0:=[]) (t:=⟨[(0,.own 0)],[(0,some (.row 1 3 ([0,3,7,12,20,32,64].map (Z1 .i64))))],0⟩) (by kernel_rfl) ?_
 refine AWp.ret ?_
 obtain rfl:=sj H
 exact rl (.inl rfl) rfl (by kernel_rfl) (by kernel_rfl)
def Z1y.l0 (x1953:Int) (x1954:Int):Option (Int):=if(decide (x1953>(0:Int)))=true then(Z1y.l0  (Int.fdiv x1953 2) (i64.wrap (x1954+(1:Int)))) else(some x1954)
partial_fixpoint
def Z1y.f (a0:Int):Option (Int):=(Z1y.l0  a0 0)>>=fun x1956=>some x1956
theorem Z1y.ok (a0:Int) (r:Int) (H:Z1y.f a0=some r):Pv.Fn Try.prog 44 [iV .u64 a0] [] 0 (fun x o=>x=iV .i64 r∧o=[]):=by
 unfold Z1y.f at H
 refine Fn.bodyK [] Try.func44 rfl rfl (fun Γ hP hn => ?_)
 have hm:Try.prog.follows .mixedOrders=true:=by kernel_rfl
 replace hn:Γ.n=11:=hn
 refine sO hP hn hm [] [] [0] [] [] ?_
 refine sO hP hn hm [] [(3,iV .i64 0)] [0,3] [] [] ?_
 refine AWp.seq ?_
 refine AWp.block ?_
 obtain⟨o1957,e1958,H⟩:=Z4 H
 refine AWp.loop (LWp.conv (inv:=[]) (vk:=[]) (e0:=[]) (t:=⟨[(0,iV .u64 a0),(3,iV .i64 0)],[],0⟩) (by kernel_rfl) ?_)
 refine LWp.mono (Q:=fun e s=>(match (generalizing:=false) o1957 with | x1956=>e = .exit 0∧s=⟨[(3,iV .i64 x1956)],[],0⟩)) (LWp.cv (Zt (fun body hbody => ?_))) ?_
 ·refine         Z1y.l0.partial_correctness  (motive:=fun x1953 x1954 o1957=>LWp Γ body (fun e s=>∃ t,Cv Γ s t∧(match (generalizing:=false) o1957 with | x1956=>e = .exit 0∧t=⟨[(3,iV .i64 x1956)],[],0⟩)) ⟨[(0,iV .u64 x1953),(3,iV .i64 x1954)],[],0⟩) ?_ _ _ _ e1958
  clear H e1958 o1957;intro self ih x1953 x1954 o1957 H
  subst hbody
  refine LWp.round ?_
  refine AWp.seq ?_
  refine sO hP hn hm [] [(5,bV (decide (x1953>(0:Int))))] [0,3,5] [] [] ?_
  refine AWp.cond (decide (x1953>(0:Int))) (by kernel_rfl) (fun c1955 => ?_) (fun c1955 => ?_)
  ·replace H:=iT c1955 H
   refine AWp.skip ?_
   refine AWp.seq ?_
   refine AWp.block ?_
   refine rO hP hn hm [] [(3,iV .i64 (i64.wrap (x1954+(1:Int))))] [0,3] [] [] ?_
   refine rG hP hn hm [] [(0,iV .u64 (Int.fdiv x1953 2))] [0,3] [] [] [(0:Int)≤1] ⟨by decide,trivial⟩ ?_
   exact LWp.conv [] [] [] (by kernel_rfl) (ih _ _ _ H)
  ·replace H:=iF c1955 H
   refine AWp.exit ?_
   obtain rfl:=sj H
   exact lf [] [] [] (by kernel_rfl) ⟨rfl,rfl⟩
 ·obtain⟨x1956,rfl⟩:∃ z,z=o1957:=⟨_,rfl⟩
  rintro e s ⟨rfl,rfl⟩
  refine sO hP hn hm [] [(2,iV .i64 x1956)] [2] [] [] ?_
  refine AWp.conv (inv:=[]) (vk:=[]) (e0:=[]) (t:=⟨[(2,iV .i64 x1956)],[],0⟩) (by kernel_rfl) ?_
  refine AWp.ret ?_
  obtain rfl:=sj H
  exact rl (.inl rfl) rfl (by kernel_rfl) (by kernel_rfl)
def Z2o.f (a0:Int) (a1:Int):Option (Bool):=(((Z0c.f a0)>>=fun t1971=>if(a0 != a0)=true then((Z0c.f a1)>>=fun t1974=>if(!(a1 != a1))=true then(some true) else(some (decide (a0<a1)))) else(some (decide (a0<a1)))):Option (Bool))>>=fun x1977=>some x1977
theorem Z2o.ok (a0:Int) (a1:Int) (r:Bool) (H:Z2o.f a0 a1=some r):Pv.Fn Try.prog 61 [iV .i64 a0,iV .i64 a1] [] 0 (fun x o=>x=bV r∧o=[]):=by
 unfold Z2o.f at H
 refine Fn.bodyK [] Try.func61 rfl rfl (fun Γ hP hn => ?_)
 have hm:Try.prog.follows .mixedOrders=true:=by kernel_rfl
 replace hn:Γ.n=17:=hn
 refine sO hP hn hm [] [] [0,1] [] [] ?_
 refine AWp.seq ?_
 obtain⟨o1978,e1979,H⟩:=Z4 H
 refine AWp.mono (Q:=fun e s=>(match (generalizing:=false) o1978 with | x1977=>e = .normal∧s=⟨[(4,bV x1977)],[],0⟩)) (AWp.cv ?_) ?_
 ·replace H:=e1979;clear e1979
  obtain⟨t1971,e1972,H⟩:=Z4 H
  rcases Bool.eq_false_or_eq_true (a0 != a0) with c1973 | c1973
  ·replace H:=iT c1973 H
   obtain⟨t1974,e1975,H⟩:=Z4 H
   rcases Bool.eq_false_or_eq_true (!(a1 != a1)) with c1976 | c1976
   ·replace H:=iT c1976 H
    refine rG hP hn hm [(1,.call [] [] [] [] 0 (bV (a0 != a0)) []),(2,.b true),(4,.call [] [] [] [] 0 (bV (a1 != a1)) []),(7,.b true)] [(4,bV true)] [4] [] [] [_,_,_,_,_,_] ⟨Try.call72,Z0c.ok a0 t1971 e1972,c1973,Try.call72,Z0c.ok a1 t1974 e1975,c1976,trivial⟩ ?_
    obtain rfl:=sj H
    exact lf [] [] [] (by kernel_rfl) ⟨rfl,rfl⟩
   ·replace H:=iF c1976 H
    refine rG hP hn hm [(1,.call [] [] [] [] 0 (bV (a0 != a0)) []),(2,.b true),(4,.call [] [] [] [] 0 (bV (a1 != a1)) []),(7,.b false)] [(4,bV (decide (a0<a1)))] [4] [] [] [_,_,_,_,_,_] ⟨Try.call72,Z0c.ok a0 t1971 e1972,c1973,Try.call72,Z0c.ok a1 t1974 e1975,c1976,trivial⟩ ?_
    obtain rfl:=sj H
    exact lf [] [] [] (by kernel_rfl) ⟨rfl,rfl⟩
  ·replace H:=iF c1973 H
   refine rG hP hn hm [(1,.call [] [] [] [] 0 (bV (a0 != a0)) []),(2,.b false)] [(4,bV (decide (a0<a1)))] [4] [] [] [_,_,_] ⟨Try.call72,Z0c.ok a0 t1971 e1972,c1973,trivial⟩ ?_
   obtain rfl:=sj H
   exact lf [] [] [] (by kernel_rfl) ⟨rfl,rfl⟩
 ·obtain⟨x1977,rfl⟩:∃ z,z=o1978:=⟨_,rfl⟩
  rintro e s ⟨rfl,rfl⟩
  refine AWp.conv (inv:=[]) (vk:=[]) (e0:=[]) (t:=⟨[(4,bV x1977)],[],0⟩) (by kernel_rfl) ?_
  refine AWp.ret ?_
  obtain rfl:=sj H
  exact rl (.inl rfl) rfl (by kernel_rfl) (by kernel_rfl)
def Z12.f (a0:Int):Option (Unit):=some ()
theorem Z12.ok (a0:Int) (r:Unit) (H:Z12.f a0=some r):Pv.Fn Try.prog 62 [iV .i64 a0] [] 0 (fun x o=>x=bV (a0 != a0)∧o=[]):=by
 unfold Z12.f at H
 refine Fn.bodyK [] Try.func62 rfl rfl (fun Γ hP hn => ?_)
 have hm:Try.prog.follows .mixedOrders=true:=by kernel_rfl
 replace hn:Γ.n=6:=hn
 refine sO hP hn hm [] [] [0] [] [] ?_
 refine sO hP hn hm [] [(2,bV (a0 != a0))] [2] [] [] ?_
 refine AWp.conv (inv:=[]) (vk:=[]) (e0:=[]) (t:=⟨[(2,bV (a0 != a0))],[],0⟩) (by kernel_rfl) ?_
 refine AWp.ret ?_
 obtain rfl:=sj H
 exact rl (.inl rfl) rfl (by kernel_rfl) (by kernel_rfl)
def Z05.l0 (a0:List Int) (a1:Int) (x1990:Int) (x1991:Int):Option (Int):=if(decide (x1990<x1991))=true then((at? a0 (i64.wrap (Int.fdiv (u64.wrap (i64.wrap (x1990+x1991))) 2)))>>=fun b1998=>(Z2o.f b1998 a1)>>=fun t2001=>((if t2001=true then(some (i64.wrap ((i64.wrap (Int.fdiv (u64.wrap (i64.wrap (x1990+x1991))) 2))+(1:Int)),x1991)) else(some (x1990,i64.wrap (Int.fdiv (u64.wrap (i64.wrap (x1990+x1991))) 2)))):Option (Int×Int))>>=fun oo=>match oo with | (x2004,x2005)=>(Z05.l0 a0 a1 x2004 x2005)) else(some x1990)
partial_fixpoint
def Z05.f (a0:List Int) (a1:Int):Option (Int×Bool):=(Z05.l0 a0 a1 0 (a0.length:Int))>>=fun x2006=>((if(decide (x2006<(a0.length:Int)))=true then((at? a0 x2006)>>=fun b2018=>if(b2018==a1)=true then(some true) else((Z12.f b2018)>>=fun t2022=>if(b2018 != b2018)=true then((Z12.f a1)>>=fun t2025=>some (a1 != a1)) else(some false))) else(some false)):Option (Bool))>>=fun x2027=>some (x2006,x2027)
theorem Z05.ok (a0:List Int) (a1:Int) (r:Int×Bool) (H:Z05.f a0 a1=some r):Pv.Fn Try.prog 43 [.im (.row (a0.map (Z1 .i64))),iV .i64 a1] [] 0 (fun x o=>x = .tup [iV .i64 r.1,bV r.2]∧o=[]):=by
 unfold Z05.f at H
 refine Fn.bodyK [] Try.func43 rfl rfl (fun Γ hP hn => ?_)
 have hm:Try.prog.follows .mixedOrders=true:=by kernel_rfl
 replace hn:Γ.n=54:=hn
 refine sO hP hn hm [] [] [0,1] [] [] ?_
 refine sR hP hn hm [(1,.any (iV .i64 (a0.length:Int)))] [(6,iV .i64 (a0.length:Int))] [0,1,6] [] [] [((a0.map (Z1 .i64)).length:Int)=(a0.length:Int)] ⟨by rw[Zi],trivial⟩ ?_
 refine sO hP hn hm [] [(7,iV .i64 0),(8,iV .i64 (a0.length:Int))] [0,1,6,7,8] [] [] ?_
 refine AWp.seq ?_
 refine AWp.block ?_
 obtain⟨o2028,e2029,H⟩:=Z4 H
 refine AWp.loop (LWp.conv (inv:=[]) (vk:=[]) (e0:=[]) (t:=⟨[(0,.im (.row (a0.map (Z1 .i64)))),(1,iV .i64 a1),(6,iV .i64 (a0.length:Int)),(7,iV .i64 0),(8,iV .i64 (a0.length:Int))],[],0⟩) (by kernel_rfl) ?_)
 refine LWp.mono (Q:=fun e s=>(match (generalizing:=false) o2028 with | x2006=>e = .exit 0∧s=⟨[(0,.im (.row (a0.map (Z1 .i64)))),(1,iV .i64 a1),(6,iV .i64 (a0.length:Int)),(7,iV .i64 x2006)],[],0⟩)) (LWp.cv (Zt (fun body hbody => ?_))) ?_
 ·refine                       Z05.l0.partial_correctness a0 a1 (motive:=fun x1990 x1991 o2028=>LWp Γ body (fun e s=>∃ t,Cv Γ s t∧(match (generalizing:=false) o2028 with | x2006=>e = .exit 0∧t=⟨[(0,.im (.row (a0.map (Z1     .i64)))),(1,iV .i64 a1),(6,iV .i64 (a0.length:Int)),(7,iV .i64 x2006)],[],0⟩)) ⟨[(0,.im (.row (a0.map (Z1     .i64)))),(1,iV .i64 a1),(6,iV .i64 (a0.length:Int)),(7,iV .i64 x1990),(8,iV .i64 x1991)],[],0⟩) ?_ _ _ _ e2029
  clear H e2029 o2028;intro self ih x1990 x1991 o2028 H
  subst hbody
  refine LWp.round ?_
  refine AWp.seq ?_
  refine sO hP hn hm [] [(15,bV (decide (x1990<x1991)))] [0,1,6,7,8,15] [] [] ?_
  refine AWp.cond (decide (x1990<x1991)) (by kernel_rfl) (fun c1992 => ?_) (fun c1992 => ?_)
  ·replace H:=iT c1992 H
   refine AWp.skip ?_
   refine AWp.block ?_
   refine sR hP hn hm [] [(9,iV .i64 (i64.wrap (Int.fdiv (u64.wrap (i64.wrap (x1990+x1991))) 2)))] [0,1,6,7,8,9] [] [] [(0:Int)≤1] ⟨by decide,trivial⟩ ?_
   obtain⟨b1998,p1999,q2000,H⟩:=Z0d H
   obtain⟨t2001,e2002,H⟩:=Z4 H
   refine sR hP hn hm [(2,.c ((Z1 .i64) b1998)),(5,.call [] [] [] [] 0 (bV t2001) [])] [(27,bV t2001)] [0,1,6,7,8,9,27] [] [] [_,_,_,_] ⟨p1999,Zk (Z1 .i64) q2000,Try.call61,Z2o.ok b1998 a1 t2001 e2002,trivial⟩ ?_
   obtain⟨o2030,e2031,H⟩:=Z4 H
   refine AWp.mono (Q:=fun e s=>(match (generalizing:=false) o2030 with | (x2004,x2005)=>e = .normal∧s=⟨[(0,.im (.row (a0.map (Z1 .i64)))),(1,iV .i64 a1),(6,iV .i64 (a0.length:Int)),(7,iV .i64 x2004),(8,iV .i64 x2005)],[],0⟩)) (AWp.cv ?_) ?_
   ·replace H:=e2031;clear e2031
    refine AWp.cond t2001 (by kernel_rfl) (fun c2003 => ?_) (fun c2003 => ?_)
    ·replace H:=iT c2003 H
     refine rO hP hn hm [] [(7,iV .i64 (i64.wrap ((i64.wrap (Int.fdiv (u64.wrap (i64.wrap (x1990+x1991))) 2))+(1:Int))))] [0,1,6,7,8] [] [] ?_
     obtain rfl:=sj H
     exact lf [] [] [] (by kernel_rfl) ⟨rfl,rfl⟩
    ·replace H:=iF c2003 H
     refine rO hP hn hm [] [(8,iV .i64 (i64.wrap (Int.fdiv (u64.wrap (i64.wrap (x1990+x1991))) 2)))] [0,1,6,7,8] [] [] ?_
     obtain rfl:=sj H
     exact lf [] [] [] (by kernel_rfl) ⟨rfl,rfl⟩
   ·obtain⟨x2004,x2005⟩:=o2030
    rintro e s ⟨rfl,rfl⟩
    exact LWp.conv [] [] [] (by kernel_rfl) (ih _ _ _ H)
  ·replace H:=iF c1992 H
   refine AWp.exit ?_
   obtain rfl:=sj H
   exact lf [] [] [] (by kernel_rfl) ⟨rfl,rfl⟩
 ·obtain⟨x2006,rfl⟩:∃ z,z=o2028:=⟨_,rfl⟩
  rintro e s ⟨rfl,rfl⟩
  refine AWp.seq ?_
  obtain⟨o2032,e2033,H⟩:=Z4 H
  refine AWp.mono (Q:=fun e s=>(match (generalizing:=false) o2032 with | x2027=>e = .normal∧s=⟨[(4,iV .i64 x2006),(5,bV x2027)],[],0⟩)) (AWp.cv ?_) ?_
  ·replace H:=e2033;clear e2033
   rcases Bool.eq_false_or_eq_true (decide (x2006<(a0.length:Int))) with c2017 | c2017
   ·replace H:=iT c2017 H
    obtain⟨b2018,p2019,q2020,H⟩:=Z0d H
    rcases Bool.eq_false_or_eq_true (b2018==a1) with c2021 | c2021
    ·replace H:=iT c2021 H
     refine rG hP hn hm [(4,.b true),(7,.c ((Z1 .i64) b2018)),(11,.b true)] [(4,iV .i64 x2006),(5,bV true)] [4,5] [] [] [_,_,_,_] ⟨c2017,p2019,Zk (Z1 .i64) q2020,c2021,trivial⟩ ?_
     obtain rfl:=sj H
     exact lf [] [] [] (by kernel_rfl) ⟨rfl,rfl⟩
    ·replace H:=iF c2021 H
     obtain⟨t2022,e2023,H⟩:=Z4 H
     rcases Bool.eq_false_or_eq_true (b2018 != b2018) with c2024 | c2024
     ·replace H:=iT c2024 H
      obtain⟨t2025,e2026,H⟩:=Z4 H
      refine rG hP hn hm [(4,.b true),(7,.c ((Z1 .i64) b2018)),(11,.b false),(14,.c ((Z1 .i64) b2018)),(16,.call [] [] [] [] 0 (bV (b2018 != b2018)) []),(17,.b true),(19,.call [] [] [] [] 0 (bV (a1 != a1)) [])] [(4,iV .i64 x2006),(5,bV (a1 != a1))] [4,5] [] [] [_,_,_,_,_,_,_,_,_,_,_] ⟨c2017,p2019,Zk (Z1 .i64) q2020,c2021,p2019,Zk (Z1 .i64) q2020,Try.call62,Z12.ok b2018 t2022 e2023,c2024,Try.call62,Z12.ok a1 t2025 e2026,trivial⟩ ?_
      obtain rfl:=sj H
      exact lf [] [] [] (by kernel_rfl) ⟨rfl,rfl⟩
     ·replace H:=iF c2024 H
      refine rG hP hn hm [(4,.b true),(7,.c ((Z1 .i64) b2018)),(11,.b false),(14,.c ((Z1 .i64) b2018)),(16,.call [] [] [] [] 0 (bV (b2018 != b2018)) []),(17,.b false)] [(4,iV .i64 x2006),(5,bV false)] [4,5] [] [] [_,_,_,_,_,_,_,_,_] ⟨c2017,p2019,Zk (Z1 .i64) q2020,c2021,p2019,Zk (Z1 .i64) q2020,Try.call62,Z12.ok b2018 t2022 e2023,c2024,trivial⟩ ?_
      obtain rfl:=sj H
      exact lf [] [] [] (by kernel_rfl) ⟨rfl,rfl⟩
   ·replace H:=iF c2017 H
    refine rG hP hn hm [(4,.b false)] [(4,iV .i64 x2006),(5,bV false)] [4,5] [] [] [_] ⟨c2017,trivial⟩ ?_
    obtain rfl:=sj H
    exact lf [] [] [] (by kernel_rfl) ⟨rfl,rfl⟩
  ·obtain⟨x2027,rfl⟩:∃ z,z=o2032:=⟨_,rfl⟩
   rintro e s ⟨rfl,rfl⟩
   refine AWp.conv (inv:=[]) (vk:=[]) (e0:=[]) (t:=⟨[(4,iV .i64 x2006),(5,bV x2027)],[],0⟩) (by kernel_rfl) ?_
   refine AWp.ret ?_
   obtain rfl:=sj H
   exact rl (.inl rfl) rfl (by kernel_rfl) (by kernel_rfl)
def Ze.l0 (a1:Int) (t1950:List Int) (t2038:Int×Bool) (x2045:List Int) (x2046:Int) (x2047:Int):Option ((List Int)×Int):=if(decide (x2047<t2038.1))=true then((Z0f.f x2045 x2046 true)>>=fun t2051=>Ze.l0 a1 t1950 t2038 t2051.1 t2051.2 (i64.wrap (x2047+(1:Int)))) else(some (x2045,x2046))
partial_fixpoint
def Ze.f (a0_c0:List Int) (a0_c1:Int) (a1:Int):Option ((List Int)×Int):=(Z28.f)>>=fun t1950=>(Z1y.f a1)>>=fun t2036=>(Z05.f t1950 t2036)>>=fun t2038=>(Ze.l0 a1 t1950 t2038 a0_c0 a0_c1 0)>>=fun oo=>match oo with | (x2053,x2054)=>(((if(decide (t2038.1<(i64.wrap ((t1950.length:Int)-(1:Int)))))=true then((Z0f.f x2053 x2054 false)>>=fun t2058=>some (t2058.1,t2058.2)) else(some (x2053,x2054))):Option ((List Int)×Int))>>=fun oo=>match oo with | (x2060,x2061)=>((at? t1950 t2038.1)>>=fun b2067=>(Z08.f x2060 x2061 a1 b2067)>>=fun t2070=>some (t2070.1,t2070.2)))
theorem Ze.ok (a0_c0:List Int) (a0_c1:Int) (a1:Int) (r:(List Int)×Int) (H:Ze.f a0_c0 a0_c1 a1=some r):Pv.Fn Try.prog 20 [.ptr 0 0 0,iV .u64 a1] [(0,some (.box 49 [.own 1,iV .u64 a0_c1])),(1,some (.row 1 5 (a0_c0.map (Z1 .u8))))] 2 (fun x o=>x = .tup []∧o=[(0,some (.box 49 [.own 2,iV .u64 r.2])),(1,none),(2,some (.row 1 5 (r.1.map (Z1 .u8))))]):=by
 unfold Ze.f at H
 refine Fn.bodyK [0,1,2] Try.func20 rfl rfl (fun Γ hP hn => ?_)
 have hm:Try.prog.follows .mixedOrders=true:=by kernel_rfl
 replace hn:Γ.n=35:=hn
 obtain⟨t1950,e1951,H⟩:=Z4 H
 refine sR hP hn hm [(0,.call [] [(0,2)] [] [2] 0 (.own 0) [(0,some (.row 1 3 (t1950.map (Z1 .i64))))])] [(4,.own 2)] [0,1,4] [(2,some (.row 1 3 (t1950.map (Z1 .i64))))] [0,1,2] [_,_] ⟨Try.call42,Z28.ok  t1950 e1951,trivial⟩ ?_
 obtain⟨t2036,e2037,H⟩:=Z4 H
 obtain⟨t2038,e2039,H⟩:=Z4 H
 refine sR hP hn hm [(2,.call [] [] [] [] 0 (iV .i64 t2036) []),(3,.call [] [] [2] [] 0 (.tup [iV .i64 t2038.1,bV t2038.2]) [])] [(5,iV .i64 t2038.1)] [0,1,4,5] [] [0,1,2] [_,_,_,_] ⟨Try.call44,Z1y.ok a1 t2036 e2037,Try.call43,Z05.ok t1950 t2036 t2038 e2039,trivial⟩ ?_
 refine AWp.seq ?_
 refine sO hP hn hm [] [(15,iV .i64 t2038.1),(16,iV .i64 0)] [0,1,4,5,15,16] [] [0,1,2] ?_
 refine AWp.block ?_
 obtain⟨o2072,e2073,H⟩:=Z4 H
 refine AWp.loop (LWp.conv (inv:=[(0,0),(1,4),(2,5)]) (vk:=[]) (e0:=[]) (t:=⟨[(0,.ptr 0 0 0),(1,iV .u64 a1),(4,.own 5),(5,iV .i64 t2038.1),(15,iV .i64 t2038.1),(16,iV .i64 0)],[(0,some (.box 49 [.own 4,iV .u64 a0_c1])),(4,some (.row 1 5 (a0_c0.map (Z1 .u8)))),(5,some (.row 1 3 (t1950.map (Z1 .i64))))],2⟩) (by kernel_rfl) ?_)
 refine LWp.mono (Q:=fun e s=>(match (generalizing:=false) o2072 with | (x2053,x2054)=>e = .exit 0∧s=⟨[(0,.ptr 0 0 0),(1,iV .u64 a1),(4,.own 8),(5,iV .i64 t2038.1)],[(0,some (.box 49 [.own 7,iV .u64 x2054])),(7,some (.row 1 5 (x2053.map (Z1 .u8)))),(8,some (.row 1 3 (t1950.map (Z1 .i64))))],2⟩)) (LWp.cv (Zt (fun body hbody => ?_))) ?_
 ·refine                      Ze.l0.partial_correctness a1 t1950 t2038 (motive:=fun x2045 x2046 x2047 o2072=>LWp Γ body (fun e s=>∃ t,Cv Γ s t∧(match (generalizing:=false) o2072 with | (x2053,x2054)=>e = .exit 0∧t=⟨[(0,.ptr 0 0 0),(1,iV .u64 a1),(4,.own 8),(5,iV .i64 t2038.1)],[(0,some (.box 49 [.own 7,iV .u64 x2054])),(7,some (.row 1 5 (x2053.map (Z1     .u8)))),(8,some (.row 1 3 (t1950.map (Z1     .i64))))],2⟩)) ⟨[(0,.ptr 0 0 0),(1,iV .u64 a1),(4,.own 5),(5,iV .i64 t2038.1),(15,iV .i64 t2038.1),(16,iV .i64 x2047)],[(0,some (.box 49 [.own 4,iV .u64 x2046])),(4,some (.row 1 5 (x2045.map (Z1     .u8)))),(5,some (.row 1 3 (t1950.map (Z1     .i64))))],2⟩) ?_ _ _ _ _ e2073
  clear H e2073 o2072;intro self ih x2045 x2046 x2047 o2072 H
  subst hbody
  refine LWp.round ?_
  refine sO hP hn hm [] [(17,bV (decide (x2047<t2038.1)))] [0,1,4,5,15,16,17] [] [0,4,5] ?_
  refine AWp.seq ?_
  refine AWp.cond (decide (x2047<t2038.1)) (by kernel_rfl) (fun c2048 => ?_) (fun c2048 => ?_)
  ·replace H:=iT c2048 H
   refine AWp.skip ?_
   refine AWp.seq ?_
   refine AWp.block ?_
   obtain⟨t2051,e2052,H⟩:=Z4 H
   refine rG hP hn hm [(1,.call [(0,0),(4,1)] [(0,0),(2,6)] [] [6] 2 (.tup []) [(0,some (.box 49 [.own 2,iV .u64 t2051.2])),(1,none),(2,some (.row 1 5 (t2051.1.map (Z1 .u8))))])] [] [0,1,4,5,15,16] [(0,some (.box 49 [.own 6,iV .u64 t2051.2])),(6,some (.row 1 5 (t2051.1.map (Z1 .u8))))] [0,5,6] [_,_] ⟨Try.call16,Z0f.ok x2045 x2046 true t2051 e2052,trivial⟩ ?_
   refine rO hP hn hm [] [(16,iV .i64 (i64.wrap (x2047+(1:Int))))] [0,1,4,5,15,16] [] [0,5,6] ?_
   exact LWp.conv [(0,0),(5,5),(6,4)] [] [] (by kernel_rfl) (ih _ _ _ _ H)
  ·replace H:=iF c2048 H
   refine AWp.exit ?_
   obtain rfl:=sj H
   exact lf [(0,0),(4,7),(5,8)] [] [] (by kernel_rfl) ⟨rfl,rfl⟩
 ·obtain⟨x2053,x2054⟩:=o2072
  rintro e s ⟨rfl,rfl⟩
  refine AWp.seq ?_
  refine sR hP hn hm [(2,.any (iV .i64 (t1950.length:Int)))] [(25,bV (decide (t2038.1<(i64.wrap ((t1950.length:Int)-(1:Int))))))] [0,1,4,5,25] [] [0,7,8] [((t1950.map (Z1 .i64)).length:Int)=(t1950.length:Int)] ⟨by rw[Zi],trivial⟩ ?_
  obtain⟨o2074,e2075,H⟩:=Z4 H
  refine AWp.mono (Q:=fun e s=>(match (generalizing:=false) o2074 with | (x2060,x2061)=>e = .normal∧s=⟨[(0,.ptr 0 0 0),(1,iV .u64 a1),(4,.own 11),(5,iV .i64 t2038.1)],[(0,some (.box 49 [.own 10,iV .u64 x2061])),(10,some (.row 1 5 (x2060.map (Z1 .u8)))),(11,some (.row 1 3 (t1950.map (Z1 .i64))))],2⟩)) (AWp.cv ?_) ?_
  ·replace H:=e2075;clear e2075
   refine AWp.cond (decide (t2038.1<(i64.wrap ((t1950.length:Int)-(1:Int))))) (by kernel_rfl) (fun c2055 => ?_) (fun c2055 => ?_)
   ·replace H:=iT c2055 H
    obtain⟨t2058,e2059,H⟩:=Z4 H
    refine rG hP hn hm [(1,.call [(0,0),(7,1)] [(0,0),(2,9)] [] [9] 2 (.tup []) [(0,some (.box 49 [.own 2,iV .u64 t2058.2])),(1,none),(2,some (.row 1 5 (t2058.1.map (Z1 .u8))))])] [] [0,1,4,5] [(0,some (.box 49 [.own 9,iV .u64 t2058.2])),(9,some (.row 1 5 (t2058.1.map (Z1 .u8))))] [0,8,9] [_,_] ⟨Try.call16,Z0f.ok x2053 x2054 false t2058 e2059,trivial⟩ ?_
    obtain rfl:=sj H
    exact lf [(0,0),(9,10),(8,11)] [] [] (by kernel_rfl) ⟨rfl,rfl⟩
   ·replace H:=iF c2055 H
    refine AWp.skip ?_
    obtain rfl:=sj H
    exact lf [(0,0),(7,10),(8,11)] [] [] (by kernel_rfl) ⟨rfl,rfl⟩
  ·obtain⟨x2060,x2061⟩:=o2074
   rintro e s ⟨rfl,rfl⟩
   obtain⟨b2067,p2068,q2069,H⟩:=Z0d H
   obtain⟨t2070,e2071,H⟩:=Z4 H
   refine rG hP hn hm [(5,.c ((Z1 .i64) b2067)),(6,.call [(0,0),(10,1)] [(0,0),(2,12)] [] [12] 2 (.tup []) [(0,some (.box 49 [.own 2,iV .u64 t2070.2])),(1,none),(2,some (.row 1 5 (t2070.1.map (Z1 .u8))))])] [] [] [(0,some (.box 49 [.own 12,iV .u64 t2070.2])),(12,some (.row 1 5 (t2070.1.map (Z1 .u8))))] [0,12] [_,_,_,_,_] ⟨p2068,Z1g (Z1 .i64) p2068 q2069,Zk (Z1 .i64) q2069,Try.call17,Z08.ok x2060 x2061 a1 b2067 t2070 e2071,trivial⟩ ?_
   obtain rfl:=sj H
   exact Exists.intro ⟨[],[(0,some (.box 49 [.own 2,iV .u64 t2070.2])),(2,some (.row 1 5 (t2070.1.map (Z1 .u8))))],2⟩ (And.intro (fun _ _ h=>h.conv (inv:=[(0,0),(12,2)]) (vk:=[]) (e0:=[]) (t:=⟨[],[(0,some (.box 49 [.own 2,iV .u64 t2070.2])),(2,some (.row 1 5 (t2070.1.map (Z1 .u8))))],2⟩) (by kernel_rfl)) (And.intro (.inr rfl) (And.intro rfl (And.intro (by kernel_rfl) (by kernel_rfl)))))
def Zx.f (a0_c0:List Int) (a0_c1:Int) (a1:Int):Option ((List Int)×Int):=(Z4g.f a1)>>=fun t2078=>(Ze.f a0_c0 a0_c1 (u64.wrap (((BitVec.toNat (BitVec.ofInt 64 (u64.wrap (i64.wrap (a1*2))) ^^^ BitVec.ofInt 64 (u64.wrap (Int.fdiv a1 9223372036854775808))):Nat):Int))))>>=fun t2080=>some (t2080.1,t2080.2)
theorem Zx.ok (a0_c0:List Int) (a0_c1:Int) (a1:Int) (r:(List Int)×Int) (H:Zx.f a0_c0 a0_c1 a1=some r):Pv.Fn Try.prog 18 [.ptr 0 0 0,iV .i64 a1] [(0,some (.box 49 [.own 1,iV .u64 a0_c1])),(1,some (.row 1 5 (a0_c0.map (Z1 .u8))))] 2 (fun x o=>x = .tup []∧o=[(0,some (.box 49 [.own 2,iV .u64 r.2])),(1,none),(2,some (.row 1 5 (r.1.map (Z1 .u8))))]):=by
 unfold Zx.f at H
 refine Fn.bodyK [0,1,2] Try.func18 rfl rfl (fun Γ hP hn => ?_)
 have hm:Try.prog.follows .mixedOrders=true:=by kernel_rfl
 replace hn:Γ.n=8:=hn
 obtain⟨t2078,e2079,H⟩:=Z4 H
 obtain⟨t2080,e2081,H⟩:=Z4 H
 refine rG hP hn hm [(2,.call [] [] [] [] 0 (iV .u64 (u64.wrap (((BitVec.toNat (BitVec.ofInt 64 (u64.wrap (i64.wrap (a1*2))) ^^^ BitVec.ofInt 64 (u64.wrap (Int.fdiv a1 9223372036854775808))):Nat):Int)))) []),(3,.call [(0,0),(1,1)] [(0,0),(2,2)] [] [2] 2 (.tup []) [(0,some (.box 49 [.own 2,iV .u64 t2080.2])),(1,none),(2,some (.row 1 5 (t2080.1.map (Z1 .u8))))])] [] [] [(0,some (.box 49 [.own 2,iV .u64 t2080.2])),(2,some (.row 1 5 (t2080.1.map (Z1 .u8))))] [0,2] [_,_,_,_] ⟨Try.call41,Z4g.ok a1 t2078 e2079,Try.call20,Ze.ok a0_c0 a0_c1 (u64.wrap (((BitVec.toNat (BitVec.ofInt 64 (u64.wrap (i64.wrap (a1*2))) ^^^ BitVec.ofInt 64 (u64.wrap (Int.fdiv a1 9223372036854775808))):Nat):Int))) t2080 e2081,trivial⟩ ?_
 obtain rfl:=sj H
 exact Exists.intro ⟨[],[(0,some (.box 49 [.own 2,iV .u64 t2080.2])),(2,some (.row 1 5 (t2080.1.map (Z1 .u8))))],2⟩ (And.intro (fun _ _ h=>h.conv (inv:=[(0,0),(2,2)]) (vk:=[]) (e0:=[]) (t:=⟨[],[(0,some (.box 49 [.own 2,iV .u64 t2080.2])),(2,some (.row 1 5 (t2080.1.map (Z1 .u8))))],2⟩) (by kernel_rfl)) (And.intro (.inr rfl) (And.intro rfl (And.intro (by kernel_rfl) (by kernel_rfl)))))
def Z13.l0 (a1:Zb) (x2106:List Int) (x2107:Int) (x2108:Int):Option ((List Int)×Int):=if(decide (x2108<(a1.f1.length:Int)))=true then((at? a1.f1 x2108)>>=fun b2113=>((if(decide (x2108>(0:Int)))=true then((Ze.f x2106 x2107 (u64.wrap (i64.wrap (b2113.f0-(1:Int)))))>>=fun t2119=>some (t2119.1,t2119.2)) else(some (x2106,x2107))):Option ((List Int)×Int))>>=fun oo=>match oo with | (x2121,x2122)=>((Ze.f x2121 x2122 (u64.wrap (i64.wrap (b2113.f1-(1:Int)))))>>=fun t2125=>Z13.l0 a1 t2125.1 t2125.2 (i64.wrap (x2108+(1:Int))))) else(some (x2106,x2107))
partial_fixpoint
def Z13.f (a0_c0:List Int) (a0_c1:Int) (a1:Zb):Option ((List Int)×Int):=(Ze.f a0_c0 a0_c1 (u64.wrap ((a1.f1.length:Int))))>>=fun t2088=>if((a1.f1.length:Int)==(0:Int))=true then(some (t2088.1,t2088.2)) else((Zx.f t2088.1 t2088.2 a1.f0)>>=fun t2093=>(Z13.l0 a1 t2093.1 t2093.2 0)>>=fun oo=>match oo with | (x2127,x2128)=>(some (x2127,x2128)))
theorem Z13.ok (a0_c0:List Int) (a0_c1:Int) (a1:Zb) (r:(List Int)×Int) (H:Z13.f a0_c0 a0_c1 a1=some r):Pv.Fn Try.prog 19 [.ptr 0 0 0,.agg (Za a1)] [(0,some (.box 49 [.own 1,iV .u64 a0_c1])),(1,some (.row 1 5 (a0_c0.map (Z1 .u8))))] 2 (fun x o=>x = .tup []∧o=[(0,some (.box 49 [.own 2,iV .u64 r.2])),(1,none),(2,some (.row 1 5 (r.1.map (Z1 .u8))))]):=by
 unfold Z13.f at H
 refine Fn.bodyK [0,1,2] Try.func19 rfl rfl (fun Γ hP hn => ?_)
 have hm:Try.prog.follows .mixedOrders=true:=by kernel_rfl
 replace hn:Γ.n=43:=hn
 refine sO hP hn hm [(0,.k 2)] [(3,.ptr 2 0 0)] [0,3] [(2,some (.box 52 (Za a1)))] [0,1,2] ?_
 obtain⟨t2088,e2089,H⟩:=Z4 H
 refine sR hP hn hm [(3,.any (iV .i64 (a1.f1.length:Int))),(5,.call [(0,0),(1,1)] [(0,0),(2,3)] [] [3] 2 (.tup []) [(0,some (.box 49 [.own 2,iV .u64 t2088.2])),(1,none),(2,some (.row 1 5 (t2088.1.map (Z1 .u8))))])] [] [0,3] [(0,some (.box 49 [.own 3,iV .u64 t2088.2])),(3,some (.row 1 5 (t2088.1.map (Z1 .u8))))] [0,2,3] [((a1.f1.map Z00).length:Int)=(a1.f1.length:Int),_,_] ⟨by rw[Zi],Try.call20,Ze.ok a0_c0 a0_c1 (u64.wrap ((a1.f1.length:Int))) t2088 e2089,trivial⟩ ?_
 refine AWp.seq ?_
 refine sR hP hn hm [(2,.any (iV .i64 (a1.f1.length:Int)))] [(15,bV ((a1.f1.length:Int)==(0:Int)))] [0,3,15] [] [0,2,3] [((a1.f1.map Z00).length:Int)=(a1.f1.length:Int)] ⟨by rw[Zi],trivial⟩ ?_
 refine AWp.cond ((a1.f1.length:Int)==(0:Int)) (by kernel_rfl) (fun c2090 => ?_) (fun c2090 => ?_)
 ·replace H:=iT c2090 H
  refine AWp.conv (inv:=[(0,0),(3,2)]) (vk:=[]) (e0:=[]) (t:=⟨[],[(0,some (.box 49 [.own 2,iV .u64 t2088.2])),(2,some (.row 1 5 (t2088.1.map (Z1 .u8))))],2⟩) (by kernel_rfl) ?_
  refine AWp.ret ?_
  obtain rfl:=sj H
  exact rl (.inl rfl) rfl (by kernel_rfl) (by kernel_rfl)
 ·replace H:=iF c2090 H
  refine AWp.skip ?_
  obtain⟨t2093,e2094,H⟩:=Z4 H
  refine sR hP hn hm [(3,.call [(0,0),(3,1)] [(0,0),(2,4)] [] [4] 2 (.tup []) [(0,some (.box 49 [.own 2,iV .u64 t2093.2])),(1,none),(2,some (.row 1 5 (t2093.1.map (Z1 .u8))))])] [] [0,3] [(0,some (.box 49 [.own 4,iV .u64 t2093.2])),(4,some (.row 1 5 (t2093.1.map (Z1 .u8))))] [0,2,4] [_,_] ⟨Try.call18,Zx.ok t2088.1 t2088.2 a1.f0 t2093 e2094,trivial⟩ ?_
  refine sR hP hn hm [(2,.any (iV .i64 (a1.f1.length:Int)))] [(21,.im (.row (a1.f1.map Z00))),(22,iV .i64 (a1.f1.length:Int)),(23,iV .i64 0)] [0,21,22,23] [] [0,4] [((a1.f1.map Z00).length:Int)=(a1.f1.length:Int)] ⟨by rw[Zi],trivial⟩ ?_
  refine AWp.block ?_
  obtain⟨o2129,e2130,H⟩:=Z4 H
  refine AWp.loop (LWp.conv (inv:=[(0,0),(4,7)]) (vk:=[]) (e0:=[]) (t:=⟨[(0,.ptr 0 0 0),(21,.im (.row (a1.f1.map Z00))),(22,iV .i64 (a1.f1.length:Int)),(23,iV .i64 0)],[(0,some (.box 49 [.own 7,iV .u64 t2093.2])),(7,some (.row 1 5 (t2093.1.map (Z1 .u8))))],2⟩) (by kernel_rfl) ?_)
  refine LWp.mono (Q:=fun e s=>(match (generalizing:=false) o2129 with | (x2127,x2128)=>e = .exit 0∧s=⟨[],[(0,some (.box 49 [.own 13,iV .u64 x2128])),(13,some (.row 1 5 (x2127.map (Z1 .u8))))],2⟩)) (LWp.cv (Zt (fun body hbody => ?_))) ?_
  ·refine            Z13.l0.partial_correctness a1 (motive:=fun x2106 x2107 x2108 o2129=>LWp Γ body (fun e s=>∃ t,Cv Γ s t∧(match (generalizing:=false) o2129 with | (x2127,x2128)=>e = .exit 0∧t=⟨[],[(0,some (.box 49 [.own 13,iV .u64 x2128])),(13,some (.row 1 5 (x2127.map (Z1     .u8))))],2⟩)) ⟨[(0,.ptr 0 0 0),(21,.im (.row (a1.f1.map Z00  ))),(22,iV .i64 (a1.f1.length:Int)),(23,iV .i64 x2108)],[(0,some (.box 49 [.own 7,iV .u64 x2107])),(7,some (.row 1 5 (x2106.map (Z1     .u8))))],2⟩) ?_ _ _ _ _ e2130
   clear H e2130 o2129;intro self ih x2106 x2107 x2108 o2129 H
   subst hbody
   refine LWp.round ?_
   refine sO hP hn hm [] [(24,bV (decide (x2108<(a1.f1.length:Int))))] [0,21,22,23,24] [] [0,7] ?_
   refine AWp.seq ?_
   refine AWp.cond (decide (x2108<(a1.f1.length:Int))) (by kernel_rfl) (fun c2109 => ?_) (fun c2109 => ?_)
   ·replace H:=iT c2109 H
    refine AWp.skip ?_
    refine AWp.seq ?_
    refine AWp.block ?_
    obtain⟨b2113,p2114,q2115,H⟩:=Z0d H
    refine sR hP hn hm [(1,.c (Z00 b2113)),(3,.k 8)] [(4,iV .i64 x2108),(5,.ptr 8 0 0)] [0,4,5,21,22,23] [(8,some (.box 86 (aSpan b2113)))] [0,7,8] [_,_] ⟨p2114,Zk Z00 q2115,trivial⟩ ?_
    refine AWp.seq ?_
    refine sO hP hn hm [] [(29,bV (decide (x2108>(0:Int))))] [0,5,21,22,23,29] [] [0,7,8] ?_
    obtain⟨o2131,e2132,H⟩:=Z4 H
    refine AWp.mono (Q:=fun e s=>(match (generalizing:=false) o2131 with | (x2121,x2122)=>e = .normal∧s=⟨[(0,.ptr 0 0 0),(5,.ptr 11 0 0),(21,.im (.row (a1.f1.map Z00))),(22,iV .i64 (a1.f1.length:Int)),(23,iV .i64 x2108)],[(0,some (.box 49 [.own 10,iV .u64 x2122])),(10,some (.row 1 5 (x2121.map (Z1 .u8)))),(11,some (.box 86 (aSpan b2113)))],2⟩)) (AWp.cv ?_) ?_
    ·replace H:=e2132;clear e2132
     refine AWp.cond (decide (x2108>(0:Int))) (by kernel_rfl) (fun c2116 => ?_) (fun c2116 => ?_)
     ·replace H:=iT c2116 H
      obtain⟨t2119,e2120,H⟩:=Z4 H
      refine rG hP hn hm [(5,.call [(0,0),(7,1)] [(0,0),(2,9)] [] [9] 2 (.tup []) [(0,some (.box 49 [.own 2,iV .u64 t2119.2])),(1,none),(2,some (.row 1 5 (t2119.1.map (Z1 .u8))))])] [] [0,5,21,22,23] [(0,some (.box 49 [.own 9,iV .u64 t2119.2])),(9,some (.row 1 5 (t2119.1.map (Z1 .u8))))] [0,8,9] [_,_] ⟨Try.call20,Ze.ok x2106 x2107 (u64.wrap (i64.wrap (b2113.f0-(1:Int)))) t2119 e2120,trivial⟩ ?_
      obtain rfl:=sj H
      exact lf [(0,0),(9,10),(8,11)] [] [] (by kernel_rfl) ⟨rfl,rfl⟩
     ·replace H:=iF c2116 H
      refine AWp.skip ?_
      obtain rfl:=sj H
      exact lf [(0,0),(7,10),(8,11)] [] [] (by kernel_rfl) ⟨rfl,rfl⟩
    ·obtain⟨x2121,x2122⟩:=o2131
     rintro e s ⟨rfl,rfl⟩
     obtain⟨t2125,e2126,H⟩:=Z4 H
     refine rG hP hn hm [(5,.call [(0,0),(10,1)] [(0,0),(2,12)] [] [12] 2 (.tup []) [(0,some (.box 49 [.own 2,iV .u64 t2125.2])),(1,none),(2,some (.row 1 5 (t2125.1.map (Z1 .u8))))])] [] [0,21,22,23] [(0,some (.box 49 [.own 12,iV .u64 t2125.2])),(12,some (.row 1 5 (t2125.1.map (Z1 .u8))))] [0,12] [_,_] ⟨Try.call20,Ze.ok x2121 x2122 (u64.wrap (i64.wrap (b2113.f1-(1:Int)))) t2125 e2126,trivial⟩ ?_
     refine rO hP hn hm [] [(23,iV .i64 (i64.wrap (x2108+(1:Int))))] [0,21,22,23] [] [0,12] ?_
     exact LWp.conv [(0,0),(12,7)] [] [] (by kernel_rfl) (ih _ _ _ _ H)
   ·replace H:=iF c2109 H
    refine AWp.exit ?_
    obtain rfl:=sj H
    exact lf [(0,0),(7,13)] [] [] (by kernel_rfl) ⟨rfl,rfl⟩
  ·obtain⟨x2127,x2128⟩:=o2129
   rintro e s ⟨rfl,rfl⟩
   obtain rfl:=sj H
   exact Exists.intro ⟨[],[(0,some (.box 49 [.own 2,iV .u64 x2128])),(2,some (.row 1 5 (x2127.map (Z1 .u8))))],2⟩ (And.intro (fun _ _ h=>h.conv (inv:=[(0,0),(13,2)]) (vk:=[]) (e0:=[]) (t:=⟨[],[(0,some (.box 49 [.own 2,iV .u64 x2128])),(2,some (.row 1 5 (x2127.map (Z1 .u8))))],2⟩) (by kernel_rfl)) (And.intro (.inr rfl) (And.intro rfl (And.intro (by kernel_rfl) (by kernel_rfl)))))
def Z0l.l1 (b2221:Int) (t2158:List Int) (x2215:List Int) (x2216:Int) (x2236:List Z2):Option (List Z2):=((if(decide ((x2236.length:Int)>(0:Int)))=true then((at? x2236 0)>>=fun b2242=>some (decide (b2242.f0<b2221))) else(some false)):Option (Bool))>>=fun x2245=>if x2245=true then((chk (0≤(1:Int)∧(1:Int)≤(x2236.length:Int)∧(x2236.length:Int)≤(x2236.length:Int)))>>=fun _=>Z0l.l1 b2221 t2158 x2215 x2216 ((x2236.drop (Int.toNat ((1:Int)))).take ((Int.toNat ((x2236.length:Int)))-(Int.toNat ((1:Int)))))) else(some x2236)
partial_fixpoint
def Z0l.l0 (t2158:List Int) (x2214:List Z2) (x2215:List Int) (x2216:Int):Option (List Int):=if(decide (x2216<(t2158.length:Int)))=true then((at? t2158 x2216)>>=fun b2221=>(Z0l.l1 b2221 t2158 x2215 x2216 x2214)>>=fun x2249=>((if(decide ((x2249.length:Int)>(0:Int)))=true then((at? x2249 0)>>=fun b2255=>some (b2255.f0==b2221)) else(some false)):Option (Bool))>>=fun x2258=>((if x2258=true then((at? x2249 0)>>=fun b2264=>(chk ((x2215.length+[b2264.f1].length)*8≤140737488355328))>>=fun _=>some (x2215++[b2264.f1])) else((chk ((x2215.length+[0].length)*8≤140737488355328))>>=fun _=>some (x2215++[0]))):Option (List Int))>>=fun x2270=>Z0l.l0 t2158 x2249 x2270 (i64.wrap (x2216+(1:Int)))) else(some x2215)
partial_fixpoint
def Z0l.f (a0:Zb) (a1:List Z2):Option (List Int):=(Zg.f a0)>>=fun t2158=>(Z0l.l0 t2158 a1 [] 0)>>=fun x2271=>some x2271
theorem Z0l.ok (a0:Zb) (a1:List Z2) (r:List Int) (H:Z0l.f a0 a1=some r):Pv.Fn Try.prog 45 [.agg (Za a0),.im (.row (a1.map Z0))] [] 0 (fun x o=>x = .own 0∧o=[(0,some (.row 1 33 (r.map (Z1 .u64))))]):=by
 unfold Z0l.f at H
 refine Fn.bodyK [0] Try.func45 rfl rfl (fun Γ hP hn => ?_)
 have hm:Try.prog.follows .mixedOrders=true:=by kernel_rfl
 replace hn:Γ.n=51:=hn
 refine sO hP hn hm [(0,.k 0)] [(2,.ptr 0 0 0)] [1,2] [(0,some (.box 52 (Za a0)))] [0] ?_
 refine sO hP hn hm [] [(5,.none0)] [1,2,5] [] [0] ?_
 refine AWp.seq ?_
 obtain⟨t2158,e2159,H⟩:=Z4 H
 refine sR hP hn hm [(1,.call [] [(0,1)] [] [1] 0 (.own 0) [(0,some (.row 1 3 (t2158.map (Z1 .i64))))]),(2,.any (iV .i64 (t2158.length:Int)))] [(9,.own 1),(10,iV .i64 (t2158.length:Int)),(11,iV .i64 0)] [1,5,9,10,11] [(1,some (.row 1 3 (t2158.map (Z1 .i64))))] [1] [_,_,((t2158.map (Z1 .i64)).length:Int)=(t2158.length:Int)] ⟨Try.call38,Zg.ok a0 t2158 e2159,by rw[Zi],trivial⟩ ?_
 refine AWp.block ?_
 obtain⟨o2272,e2273,H⟩:=Z4 H
 refine AWp.loop (LWp.conv (inv:=[(1,14)]) (vk:=[]) (e0:=[13]) (t:=⟨[(1,.im (.row (a1.map Z0))),(5,.own 13),(9,.own 14),(10,iV .i64 (t2158.length:Int)),(11,iV .i64 0)],[(13,some (.row 1 33 ([].map (Z1 .u64)))),(14,some (.row 1 3 (t2158.map (Z1 .i64))))],0⟩) (by kernel_rfl) ?_)
 refine LWp.mono (Q:=fun e s=>(match (generalizing:=false) o2272 with | x2271=>e = .exit 0∧s=⟨[(5,.own 31)],[(31,some (.row 1 33 (x2271.map (Z1 .u64))))],0⟩)) (LWp.cv (Zt (fun body hbody => ?_))) ?_
 ·refine           Z0l.l0.partial_correctness t2158 (motive:=fun x2214 x2215 x2216 o2272=>LWp Γ body (fun e s=>∃ t,Cv Γ s t∧(match (generalizing:=false) o2272 with | x2271=>e = .exit 0∧t=⟨[(5,.own 31)],[(31,some (.row 1 33 (x2271.map (Z1     .u64))))],0⟩)) ⟨[(1,.im (.row (x2214.map Z0     ))),(5,.own 13),(9,.own 14),(10,iV .i64 (t2158.length:Int)),(11,iV .i64 x2216)],[(13,some (.row 1 33 (x2215.map (Z1     .u64)))),(14,some (.row 1 3 (t2158.map (Z1     .i64))))],0⟩) ?_ _ _ _ _ e2273
  clear H e2273 o2272;intro self ih x2214 x2215 x2216 o2272 H
  subst hbody
  refine LWp.round ?_
  refine sO hP hn hm [] [(12,bV (decide (x2216<(t2158.length:Int))))] [1,5,9,10,11,12] [] [13,14] ?_
  refine AWp.seq ?_
  refine AWp.cond (decide (x2216<(t2158.length:Int))) (by kernel_rfl) (fun c2217 => ?_) (fun c2217 => ?_)
  ·replace H:=iT c2217 H
   refine AWp.skip ?_
   refine AWp.seq ?_
   refine AWp.block ?_
   obtain⟨b2221,p2222,q2223,H⟩:=Z0d H
   refine sR hP hn hm [(1,.c ((Z1 .i64) b2221))] [(7,iV .i64 b2221)] [1,5,7,9,10,11] [] [13,14] [_,_,_] ⟨p2222,Z1g (Z1 .i64) p2222 q2223,Zk (Z1 .i64) q2223,trivial⟩ ?_
   refine AWp.seq ?_
   refine AWp.block ?_
   obtain⟨o2274,e2275,H⟩:=Z4 H
   refine AWp.loop (LWp.conv (inv:=[(13,17),(14,18)]) (vk:=[]) (e0:=[]) (t:=⟨[(1,.im (.row (x2214.map Z0))),(5,.own 17),(7,iV .i64 b2221),(9,.own 18),(10,iV .i64 (t2158.length:Int)),(11,iV .i64 x2216)],[(17,some (.row 1 33 (x2215.map (Z1 .u64)))),(18,some (.row 1 3 (t2158.map (Z1 .i64))))],0⟩) (by kernel_rfl) ?_)
   refine LWp.mono (Q:=fun e s=>(match (generalizing:=false) o2274 with | x2249=>e = .exit 2∧s=⟨[(1,.im (.row (x2249.map Z0))),(5,.own 21),(7,iV .i64 b2221),(9,.own 22),(10,iV .i64 (t2158.length:Int)),(11,iV .i64 x2216)],[(21,some (.row 1 33 (x2215.map (Z1 .u64)))),(22,some (.row 1 3 (t2158.map (Z1 .i64))))],0⟩)) (LWp.cv (Zt (fun body hbody => ?_))) ?_
   ·refine           Z0l.l1.partial_correctness b2221 t2158 x2215 x2216 (motive:=fun x2236 o2274=>LWp Γ body (fun e s=>∃ t,Cv Γ s t∧(match (generalizing:=false) o2274 with | x2249=>e = .exit 2∧t=⟨[(1,.im (.row (x2249.map Z0     ))),(5,.own 21),(7,iV .i64 b2221),(9,.own 22),(10,iV .i64 (t2158.length:Int)),(11,iV .i64 x2216)],[(21,some (.row 1 33 (x2215.map (Z1     .u64)))),(22,some (.row 1 3 (t2158.map (Z1     .i64))))],0⟩)) ⟨[(1,.im (.row (x2236.map Z0     ))),(5,.own 17),(7,iV .i64 b2221),(9,.own 18),(10,iV .i64 (t2158.length:Int)),(11,iV .i64 x2216)],[(17,some (.row 1 33 (x2215.map (Z1     .u64)))),(18,some (.row 1 3 (t2158.map (Z1     .i64))))],0⟩) ?_ _ _ e2275
    clear H e2275 o2274;intro self ih x2236 o2274 H
    subst hbody
    refine LWp.round ?_
    refine AWp.seq ?_
    refine AWp.seq ?_
    obtain⟨o2276,e2277,H⟩:=Z4 H
    refine AWp.mono (Q:=fun e s=>(match (generalizing:=false) o2276 with | x2245=>e = .normal∧s=⟨[(1,.im (.row (x2236.map Z0))),(5,.own 19),(7,iV .i64 b2221),(9,.own 20),(10,iV .i64 (t2158.length:Int)),(11,iV .i64 x2216),(25,bV x2245)],[(19,some (.row 1 33 (x2215.map (Z1 .u64)))),(20,some (.row 1 3 (t2158.map (Z1 .i64))))],0⟩)) (AWp.cv ?_) ?_
    ·replace H:=e2277;clear e2277
     rcases Bool.eq_false_or_eq_true (decide ((x2236.length:Int)>(0:Int))) with c2241 | c2241
     ·replace H:=iT c2241 H
      obtain⟨b2242,p2243,q2244,H⟩:=Z0d H
      refine rG hP hn hm [(1,.any (iV .i64 (x2236.length:Int))),(3,.b true),(5,.c (Z0 b2242))] [(19,.im (.row (x2236.map Z0))),(20,.ip [iI .i64 b2242.f0,iI .u64 b2242.f1]),(21,.ip [iI .i64 b2242.f0,iI .u64 b2242.f1]),(22,iV .i64 b2242.f0),(23,iV .i64 b2221),(24,bV (decide (b2242.f0<b2221))),(25,bV (decide (b2242.f0<b2221)))] [1,5,7,9,10,11,19,20,21,22,23,24,25] [] [17,18] [((x2236.map Z0).length:Int)=(x2236.length:Int),_,_,_] ⟨by rw[Zi],c2241,p2243,Zk Z0 q2244,trivial⟩ ?_
      obtain rfl:=sj H
      exact lf [(17,19),(18,20)] [] [] (by kernel_rfl) ⟨rfl,rfl⟩
     ·replace H:=iF c2241 H
      refine rG hP hn hm [(1,.any (iV .i64 (x2236.length:Int))),(3,.b false)] [(25,bV false)] [1,5,7,9,10,11,25] [] [17,18] [((x2236.map Z0).length:Int)=(x2236.length:Int),_] ⟨by rw[Zi],c2241,trivial⟩ ?_
      obtain rfl:=sj H
      exact lf [(17,19),(18,20)] [] [] (by kernel_rfl) ⟨rfl,rfl⟩
    ·obtain⟨x2245,rfl⟩:∃ z,z=o2276:=⟨_,rfl⟩
     rintro e s ⟨rfl,rfl⟩
     refine AWp.cond x2245 (by kernel_rfl) (fun c2246 => ?_) (fun c2246 => ?_)
     ·replace H:=iT c2246 H
      refine AWp.skip ?_
      refine AWp.block ?_
      obtain⟨c2248,H⟩:=Z0x H
      refine rG hP hn hm [(1,.rows (((x2236.drop (Int.toNat ((1:Int)))).take ((Int.toNat ((x2236.length:Int)))-(Int.toNat ((1:Int))))).map Z0))] [(1,.im (.row (((x2236.drop (Int.toNat ((1:Int)))).take ((Int.toNat ((x2236.length:Int)))-(Int.toNat ((1:Int))))).map Z0)))] [1,5,7,9,10,11] [] [19,20] [0≤(1:Int),(1:Int)≤((x2236.map Z0).length:Int),((x2236.map Z0).length:Int)≤((x2236.map Z0).length:Int),∀ c∈x2236.map Z0,c.length=2,((x2236.drop (Int.toNat ((1:Int)))).take ((Int.toNat ((x2236.length:Int)))-(Int.toNat ((1:Int))))).map Z0=((x2236.map Z0).drop (Int.toNat ((1:Int)))).take ((Int.toNat (((x2236.map Z0).length:Int)))-(Int.toNat ((1:Int))))] ⟨by exact c2248.1,by simpa using c2248.2.1,by simpa using c2248.2.2,by exact Z0o _ _ _ (fun _=>rfl),by simp[cut1],trivial⟩ ?_
      exact LWp.conv [(19,17),(20,18)] [] [] (by kernel_rfl) (ih _ _ H)
     ·replace H:=iF c2246 H
      refine AWp.exit ?_
      obtain rfl:=sj H
      exact lf [(19,21),(20,22)] [] [] (by kernel_rfl) ⟨rfl,rfl⟩
   ·obtain⟨x2249,rfl⟩:∃ z,z=o2274:=⟨_,rfl⟩
    rintro e s ⟨rfl,rfl⟩
    refine AWp.seq ?_
    obtain⟨o2278,e2279,H⟩:=Z4 H
    refine AWp.mono (Q:=fun e s=>(match (generalizing:=false) o2278 with | x2258=>e = .normal∧s=⟨[(1,.im (.row (x2249.map Z0))),(5,.own 23),(9,.own 24),(10,iV .i64 (t2158.length:Int)),(11,iV .i64 x2216),(38,bV x2258)],[(23,some (.row 1 33 (x2215.map (Z1 .u64)))),(24,some (.row 1 3 (t2158.map (Z1 .i64))))],0⟩)) (AWp.cv ?_) ?_
    ·replace H:=e2279;clear e2279
     rcases Bool.eq_false_or_eq_true (decide ((x2249.length:Int)>(0:Int))) with c2254 | c2254
     ·replace H:=iT c2254 H
      obtain⟨b2255,p2256,q2257,H⟩:=Z0d H
      refine rG hP hn hm [(1,.any (iV .i64 (x2249.length:Int))),(3,.b true),(5,.c (Z0 b2255))] [(32,.im (.row (x2249.map Z0))),(33,.ip [iI .i64 b2255.f0,iI .u64 b2255.f1]),(34,.ip [iI .i64 b2255.f0,iI .u64 b2255.f1]),(35,iV .i64 b2255.f0),(36,iV .i64 b2221),(37,bV (b2255.f0==b2221)),(38,bV (b2255.f0==b2221))] [1,5,9,10,11,32,33,34,35,36,37,38] [] [21,22] [((x2249.map Z0).length:Int)=(x2249.length:Int),_,_,_] ⟨by rw[Zi],c2254,p2256,Zk Z0 q2257,trivial⟩ ?_
      obtain rfl:=sj H
      exact lf [(21,23),(22,24)] [] [] (by kernel_rfl) ⟨rfl,rfl⟩
     ·replace H:=iF c2254 H
      refine rG hP hn hm [(1,.any (iV .i64 (x2249.length:Int))),(3,.b false)] [(38,bV false)] [1,5,9,10,11,38] [] [21,22] [((x2249.map Z0).length:Int)=(x2249.length:Int),_] ⟨by rw[Zi],c2254,trivial⟩ ?_
      obtain rfl:=sj H
      exact lf [(21,23),(22,24)] [] [] (by kernel_rfl) ⟨rfl,rfl⟩
    ·obtain⟨x2258,rfl⟩:∃ z,z=o2278:=⟨_,rfl⟩
     rintro e s ⟨rfl,rfl⟩
     obtain⟨o2280,e2281,H⟩:=Z4 H
     refine AWp.mono (Q:=fun e s=>(match (generalizing:=false) o2280 with | x2270=>e = .normal∧s=⟨[(1,.im (.row (x2249.map Z0))),(5,.own 29),(9,.own 30),(10,iV .i64 (t2158.length:Int)),(11,iV .i64 x2216)],[(29,some (.row 1 33 (x2270.map (Z1 .u64)))),(30,some (.row 1 3 (t2158.map (Z1 .i64))))],0⟩)) (AWp.cv ?_) ?_
     ·replace H:=e2281;clear e2281
      refine AWp.cond x2258 (by kernel_rfl) (fun c2259 => ?_) (fun c2259 => ?_)
      ·replace H:=iT c2259 H
       obtain⟨b2264,p2265,q2266,H⟩:=Z0d H
       obtain⟨c2267,H⟩:=Z0x H
       refine rG hP hn hm [(2,.c (Z0 b2264)),(5,.app 25 ([b2264.f1].map (Z1 .u64))),(6,.app 26 ((x2215++[b2264.f1]).map (Z1 .u64)))] [(5,.own 26)] [1,5,9,10,11] [(26,some (.row 1 33 ((x2215++[b2264.f1]).map (Z1 .u64))))] [24,26] [_,_,[b2264.f1].map (Z1 .u64)=[[iI .u64 b2264.f1]],(x2215++[b2264.f1]).map (Z1 .u64)=(x2215.map (Z1 .u64))++([b2264.f1].map (Z1 .u64)),∀ c∈([b2264.f1].map (Z1 .u64)),c.length=1,∀ c∈([b2264.f1].map (Z1 .u64)),Z0k (c.map .im)=true,((x2215.map (Z1 .u64)).length+([b2264.f1].map (Z1 .u64)).length)*8≤140737488355328] ⟨p2265,Zk Z0 q2266,by exact rfl,by simp,by exact Z0o _ _ _ (fun _=>rfl),by exact Z0p _ _ (fun _=>rfl),by simpa using c2267,trivial⟩ ?_
       obtain rfl:=sj H
       exact lf [(26,29),(24,30)] [] [] (by kernel_rfl) ⟨rfl,rfl⟩
      ·replace H:=iF c2259 H
       obtain⟨c2269,H⟩:=Z0x H
       refine rG hP hn hm [(1,.app 27 ([0].map (Z1 .u64))),(2,.app 28 ((x2215++[0]).map (Z1 .u64)))] [(5,.own 28)] [1,5,9,10,11] [(28,some (.row 1 33 ((x2215++[0]).map (Z1 .u64))))] [24,28] [[0].map (Z1 .u64)=[[iI .u64 0]],(x2215++[0]).map (Z1 .u64)=(x2215.map (Z1 .u64))++([0].map (Z1 .u64)),∀ c∈([0].map (Z1 .u64)),c.length=1,∀ c∈([0].map (Z1 .u64)),Z0k (c.map .im)=true,((x2215.map (Z1 .u64)).length+([0].map (Z1 .u64)).length)*8≤140737488355328] ⟨by exact rfl,by simp,by exact Z0o _ _ _ (fun _=>rfl),by exact Z0p _ _ (fun _=>rfl),by simpa using c2269,trivial⟩ ?_
       obtain rfl:=sj H
       exact lf [(28,29),(24,30)] [] [] (by kernel_rfl) ⟨rfl,rfl⟩
     ·obtain⟨x2270,rfl⟩:∃ z,z=o2280:=⟨_,rfl⟩
      rintro e s ⟨rfl,rfl⟩
      refine rO hP hn hm [] [(11,iV .i64 (i64.wrap (x2216+(1:Int))))] [1,5,9,10,11] [] [29,30] ?_
      exact LWp.conv [(29,13),(30,14)] [] [] (by kernel_rfl) (ih _ _ _ _ H)
  ·replace H:=iF c2217 H
   refine AWp.exit ?_
   obtain rfl:=sj H
   exact lf [(13,31)] [] [] (by kernel_rfl) ⟨rfl,rfl⟩
 ·obtain⟨x2271,rfl⟩:∃ z,z=o2272:=⟨_,rfl⟩
  rintro e s ⟨rfl,rfl⟩
  refine sO hP hn hm [] [(4,.own 31)] [4] [] [31] ?_
  refine AWp.conv (inv:=[(31,0)]) (vk:=[]) (e0:=[]) (t:=⟨[(4,.own 0)],[(0,some (.row 1 33 (x2271.map (Z1 .u64))))],0⟩) (by kernel_rfl) ?_
  refine AWp.ret ?_
  obtain rfl:=sj H
  exact rl (.inl rfl) rfl (by kernel_rfl) (by kernel_rfl)
def Z34.f (a0:Zj) (a1:Zb) (a2:Zb):Option (List Int):=(Z0l.f a1 a0.f6)>>=fun t2285=>(chk (([a0.f3,u64.wrap (a0.f5)].length+t2285.length)*8≤140737488355328))>>=fun _=>(Z0l.f a2 a0.f7)>>=fun t2291=>(chk ((([a0.f3,u64.wrap (a0.f5)]++t2285).length+t2291.length)*8≤140737488355328))>>=fun _=>some (([a0.f3,u64.wrap (a0.f5)]++t2285)++t2291)
theorem Z34.ok (a0:Zj) (a1:Zb) (a2:Zb) (r:List Int) (H:Z34.f a0 a1 a2=some r):Pv.Fn Try.prog 21 [.agg (Zn a0),.agg (Za a1),.agg (Za a2)] [] 0 (fun x o=>x = .own 0∧o=[(0,some (.row 1 33 (r.map (Z1 .u64))))]):=by
 unfold Z34.f at H
 refine Fn.bodyK [0] Try.func21 rfl rfl (fun Γ hP hn => ?_)
 have hm:Try.prog.follows .mixedOrders=true:=by kernel_rfl
 replace hn:Γ.n=26:=hn
 refine sO hP hn hm [(0,.k 0),(1,.k 1),(2,.k 2)] [(3,.ptr 0 0 0),(4,.ptr 1 0 0),(5,.ptr 2 0 0)] [3,4,5] [(0,some (.box 36 (Zn a0))),(1,some (.box 52 (Za a1))),(2,some (.box 52 (Za a2)))] [0,1,2] ?_
 refine sR hP hn hm [(5,.app 3 ([a0.f3,u64.wrap (a0.f5)].map (Z1 .u64)))] [(7,.own 3)] [3,4,5,7] [(3,some (.row 1 33 ([a0.f3,u64.wrap (a0.f5)].map (Z1 .u64))))] [0,1,2,3] [[a0.f3,u64.wrap (a0.f5)].map (Z1 .u64)=[[iI .u64 a0.f3],[iI .u64 (u64.wrap (a0.f5))]]] ⟨by exact rfl,trivial⟩ ?_
 obtain⟨t2285,e2286,H⟩:=Z4 H
 obtain⟨c2287,H⟩:=Z0x H
 refine sR hP hn hm [(4,.call [] [(0,4)] [] [4] 0 (.own 0) [(0,some (.row 1 33 (t2285.map (Z1 .u64))))]),(5,.app 5 (([a0.f3,u64.wrap (a0.f5)]++t2285).map (Z1 .u64)))] [(7,.own 5)] [3,5,7] [(5,some (.row 1 33 (([a0.f3,u64.wrap (a0.f5)]++t2285).map (Z1 .u64))))] [0,2,5] [_,_,([a0.f3,u64.wrap (a0.f5)]++t2285).map (Z1 .u64)=([a0.f3,u64.wrap (a0.f5)].map (Z1 .u64))++(t2285.map (Z1 .u64)),∀ c∈(t2285.map (Z1 .u64)),c.length=1,∀ c∈(t2285.map (Z1 .u64)),Z0k (c.map .im)=true,(([a0.f3,u64.wrap (a0.f5)].map (Z1 .u64)).length+(t2285.map (Z1 .u64)).length)*8≤140737488355328] ⟨Try.call45,Z0l.ok a1 a0.f6 t2285 e2286,by simp,by exact Z0o _ _ _ (fun _=>rfl),by exact Z0p _ _ (fun _=>rfl),by simpa using c2287,trivial⟩ ?_
 obtain⟨t2291,e2292,H⟩:=Z4 H
 obtain⟨c2293,H⟩:=Z0x H
 refine sR hP hn hm [(4,.call [] [(0,6)] [] [6] 0 (.own 0) [(0,some (.row 1 33 (t2291.map (Z1 .u64))))]),(5,.app 7 ((([a0.f3,u64.wrap (a0.f5)]++t2285)++t2291).map (Z1 .u64)))] [(6,.own 7)] [6] [(7,some (.row 1 33 ((([a0.f3,u64.wrap (a0.f5)]++t2285)++t2291).map (Z1 .u64))))] [7] [_,_,(([a0.f3,u64.wrap (a0.f5)]++t2285)++t2291).map (Z1 .u64)=(([a0.f3,u64.wrap (a0.f5)]++t2285).map (Z1 .u64))++(t2291.map (Z1 .u64)),∀ c∈(t2291.map (Z1 .u64)),c.length=1,∀ c∈(t2291.map (Z1 .u64)),Z0k (c.map .im)=true,((([a0.f3,u64.wrap (a0.f5)]++t2285).map (Z1 .u64)).length+(t2291.map (Z1 .u64)).length)*8≤140737488355328] ⟨Try.call45,Z0l.ok a2 a0.f7 t2291 e2292,by simp,by exact Z0o _ _ _ (fun _=>rfl),by exact Z0p _ _ (fun _=>rfl),by simpa using c2293,trivial⟩ ?_
 refine AWp.conv (inv:=[(7,0)]) (vk:=[]) (e0:=[]) (t:=⟨[(6,.own 0)],[(0,some (.row 1 33 ((([a0.f3,u64.wrap (a0.f5)]++t2285)++t2291).map (Z1 .u64))))],0⟩) (by kernel_rfl) ?_
 refine AWp.ret ?_
 obtain rfl:=sj H
 exact rl (.inl rfl) rfl (by kernel_rfl) (by kernel_rfl)
def Z1v.f (a0:List Int):Option (List Int):=(chk ((([]:List Int).length+a0.length)*1≤140737488355328))>>=fun _=>some a0
theorem Z1v.ok (a0 r:List Int) (H:Z1v.f a0=some r):Pv.Fn Try.prog 46 [.im (.row (a0.map (Z1 .u8)))] [] 0 (fun x o=>x = .own 0∧o=[(0,some (.row 1 5 (r.map (Z1 .u8))))]):=by
 unfold Z1v.f at H
 obtain⟨c1,H⟩:=Z0x H
 obtain rfl:=sj H
 refine Fn.bodyK [0] Try.func46 rfl rfl (fun Γ hP hn => ?_)
 have hm:Try.prog.follows .mixedOrders=true:=by kernel_rfl
 replace hn:Γ.n=8:=hn
 refine AWp.seq ?_
 refine reg hP hn hm [] [0,2] [] ⟨[(0,.im (.row (a0.map (Z1 .u8)))),(2,.none0)],[],0⟩ [] (by kernel_rfl) trivial ?_
 refine AWp.seq ?_
 cases a0 with
 | nil =>
  refine AWp.nilSplit 0 rfl (fun b m => ?_)
  refine AWp.seq ?_
  cases b with
  | none =>
   refine reg hP hn hm [(1,.more xNil)] [2,4] [] ⟨[(2,.none0),(4,bV true)],[],0⟩ [] (by kernel_rfl) trivial ?_
   refine AWp.cond true rfl (fun _ => ?_) (fun h=>nomatch h)
   refine AWp.seq ?_
   refine reg hP hn hm [] [2] [] ⟨[(2,.none0)],[],0⟩ [] (by kernel_rfl) trivial ?_
   refine AWp.conv (inv:=[]) (vk:=[]) (e0:=[0]) (t:=⟨[(2,.own 0)],[(0,some (.row 1 5 []))],0⟩) (by kernel_rfl) ?_
   refine AWp.ret ?_
   exact Exists.intro _ (And.intro (fun _ _ h=>h) (And.intro (.inl rfl) (And.intro rfl (And.intro (by kernel_rfl) (by kernel_rfl)))))
  | some b =>
   refine reg hP hn hm [(1,.more xNil)] [0,2,4] [] ⟨[(0,.im (.sc (.slice (some b) 0 m))),(2,.none0),(4,bV false)],[],0⟩ [] (by kernel_rfl) trivial ?_
   refine AWp.cond false rfl (fun h=>nomatch h) (fun _ => ?_)
   refine AWp.skip ?_
   refine AWp.unsplit 0 rfl ?_
   refine AWp.seq ?_
   refine reg hP hn hm [(0,.app 0 ([]:List (List Im))),(2,.app 1 (([]:List Int).map (Z1 .u8)))] [2] [1] ⟨[(2,.own 1)],[(1,some (.row 1 5 (([]:List Int).map (Z1 .u8))))],0⟩ [([]:List (List Im))=[],([]:List Int).map (Z1 .u8)=([]:List (List Im))++([]:List Int).map (Z1 .u8),∀ c∈([]:List Int).map (Z1 .u8),c.length=1,∀ c∈([]:List Int).map (Z1 .u8),Z0k (c.map .im)=true,(([]:List (List Im)).length+(([]:List Int).map (Z1 .u8)).length)*1≤140737488355328] (by kernel_rfl) ⟨rfl,by simp,by exact Z0o _ _ _ (fun _=>rfl),by exact Z0p _ _ (fun _=>rfl),by simpa using c1,trivial⟩ ?_
   refine AWp.conv (inv:=[(1,0)]) (vk:=[]) (e0:=[]) (t:=⟨[(2,.own 0)],[(0,some (.row 1 5 (([]:List Int).map (Z1 .u8))))],0⟩) (by kernel_rfl) ?_
   refine AWp.ret ?_
   exact Exists.intro _ (And.intro (fun _ _ h=>h) (And.intro (.inl rfl) (And.intro rfl (And.intro (by kernel_rfl) (by kernel_rfl)))))
 | cons y l =>
  refine AWp.seq ?_
  refine reg hP hn hm [(1,.more xNil)] [0,2,4] [] ⟨[(0,.im (.row ((y::l).map (Z1 .u8)))),(2,.none0),(4,bV false)],[],0⟩ [] (by kernel_rfl) trivial ?_
  refine AWp.cond false rfl (fun h=>nomatch h) (fun _ => ?_)
  refine AWp.skip ?_
  refine AWp.seq ?_
  refine reg hP hn hm [(0,.app 0 ([]:List (List Im))),(2,.app 1 ((y::l).map (Z1 .u8)))] [2] [1] ⟨[(2,.own 1)],[(1,some (.row 1 5 ((y::l).map (Z1 .u8))))],0⟩ [([]:List (List Im))=[],(y::l).map (Z1 .u8)=([]:List (List Im))++(y::l).map (Z1 .u8),∀ c∈(y::l).map (Z1 .u8),c.length=1,∀ c∈(y::l).map (Z1 .u8),Z0k (c.map .im)=true,(([]:List (List Im)).length+((y::l).map (Z1 .u8)).length)*1≤140737488355328] (by kernel_rfl) ⟨rfl,by simp,by exact Z0o _ _ _ (fun _=>rfl),by exact Z0p _ _ (fun _=>rfl),by simpa using c1,trivial⟩ ?_
  refine AWp.conv (inv:=[(1,0)]) (vk:=[]) (e0:=[]) (t:=⟨[(2,.own 0)],[(0,some (.row 1 5 ((y::l).map (Z1 .u8))))],0⟩) (by kernel_rfl) ?_
  refine AWp.ret ?_
  exact Exists.intro _ (And.intro (fun _ _ h=>h) (And.intro (.inl rfl) (And.intro rfl (And.intro (by kernel_rfl) (by kernel_rfl)))))
def Z1f.f (a0_c0:List Int) (a0_c1:Int):Option (List Int):=(Z1v.f a0_c0)>>=fun t2518=>some t2518
theorem Z1f.ok (a0_c0:List Int) (a0_c1:Int) (r:List Int) (H:Z1f.f a0_c0 a0_c1=some r):Pv.Fn Try.prog 22 [.ptr 0 0 0] [(0,some (.box 49 [.own 1,iV .u64 a0_c1])),(1,some (.row 1 5 (a0_c0.map (Z1 .u8))))] 2 (fun x o=>x = .own 2∧o=[(0,some (.box 49 [.own 1,iV .u64 a0_c1])),(1,some (.row 1 5 (a0_c0.map (Z1 .u8)))),(2,some (.row 1 5 (r.map (Z1 .u8))))]):=by
 unfold Z1f.f at H
 refine Fn.bodyK [0,1,2] Try.func22 rfl rfl (fun Γ hP hn => ?_)
 have hm:Try.prog.follows .mixedOrders=true:=by kernel_rfl
 replace hn:Γ.n=8:=hn
 refine sO hP hn hm [] [] [0] [] [0,1] ?_
 obtain⟨t2518,e2519,H⟩:=Z4 H
 refine sR hP hn hm [(4,.more (Z47 [] [(0,2)] [1] [2] 0 (.own 0) [(0,some (.row 1 5 (t2518.map (Z1 .u8))))]))] [(2,.own 2)] [2] [(2,some (.row 1 5 (t2518.map (Z1 .u8))))] [0,1,2] [_,_,∀ c∈t2518.map (Z1 .u8),∀ x∈c,∃ v,x=Im.sc v] ⟨Try.call46,Z1v.ok a0_c0 t2518 e2519,by exact Z4i _ _ (fun _=>by simp),trivial⟩ ?_
 refine AWp.conv (inv:=[(0,0),(1,1),(2,2)]) (vk:=[]) (e0:=[]) (t:=⟨[(2,.own 2)],[(0,some (.box 49 [.own 1,iV .u64 a0_c1])),(1,some (.row 1 5 (a0_c0.map (Z1 .u8)))),(2,some (.row 1 5 (t2518.map (Z1 .u8))))],2⟩) (by kernel_rfl) ?_
 refine AWp.ret ?_
 obtain rfl:=sj H
 exact rl (.inl rfl) rfl (by kernel_rfl) (by kernel_rfl)
def Z0j.l1 (a0:List Zd) (b2342:Zd) (t1877:Zb×Zb) (t2347:List Int) (x2333:List Int) (x2334:List Int) (x2335:Int) (x2337:Int) (x2438:List Int) (x2439:Int) (x2440:List Int) (x2441:Int):Option ((List Int)×Int×(List Int)):=if(decide (x2441<(t2347.length:Int)))=true then((at? t2347 x2441)>>=fun b2446=>((if(x2337==(0:Int))=true then((Ze.f x2438 x2439 b2446)>>=fun t2452=>some (t2452.1,t2452.2,x2440)) else(((if(x2337==(1:Int))=true then((at? x2333 x2441)>>=fun b2461=>(at? x2440 x2441)>>=fun b2464=>(at? (x2440.set (Int.toNat (x2441)) (u64.wrap (b2446-b2461))) x2441)>>=fun b2472=>(Zx.f x2438 x2439 (i64.wrap (b2472)))>>=fun t2475=>some (t2475.1,t2475.2,x2440.set (Int.toNat (x2441)) (u64.wrap (b2446-b2461)))) else((at? x2333 x2441)>>=fun b2483=>(at? x2440 x2441)>>=fun b2486=>(at? (x2440.set (Int.toNat (x2441)) (u64.wrap (b2446-b2483))) x2441)>>=fun b2497=>(at? x2334 x2441)>>=fun b2500=>(Zx.f x2438 x2439 (i64.wrap (u64.wrap (b2497-b2500))))>>=fun t2503=>some (t2503.1,t2503.2,x2440.set (Int.toNat (x2441)) (u64.wrap (b2446-b2483))))):Option ((List Int)×Int×(List Int)))>>=fun oo=>match oo with | (x2505,x2506,x2507)=>(some (x2505,x2506,x2507)))):Option ((List Int)×Int×(List Int)))>>=fun oo=>match oo with | (x2508,x2509,x2510)=>(Z0j.l1 a0 b2342 t1877 t2347 x2333 x2334 x2335 x2337 x2508 x2509 x2510 (i64.wrap (x2441+(1:Int))))) else(some (x2438,x2439,x2440))
partial_fixpoint
def Z0j.l0 (a0:List Zd) (t1877:Zb×Zb) (x2331:List Int) (x2332:Int) (x2333:List Int) (x2334:List Int) (x2335:Int) (x2336:Int) (x2337:Int):Option ((List Int)×Int):=if(decide (x2337<(a0.length:Int)))=true then((at? a0 x2337)>>=fun b2342=>(Z34.f b2342.f1 (t1877.1) (t1877.2))>>=fun t2347=>((if(x2337==(0:Int))=true then((Ze.f x2331 x2332 (u64.wrap (b2342.f0)))>>=fun t2352=>some (t2352.1,t2352.2)) else(((if(x2337==(1:Int))=true then((Ze.f x2331 x2332 (u64.wrap (i64.wrap ((i64.wrap (b2342.f0-x2335))-(1:Int)))))>>=fun t2357=>some (t2357.1,t2357.2)) else((Zx.f x2331 x2332 (i64.wrap ((i64.wrap (b2342.f0-x2335))-x2336)))>>=fun t2361=>some (t2361.1,t2361.2))):Option ((List Int)×Int))>>=fun oo=>match oo with | (x2363,x2364)=>(some (x2363,x2364)))):Option ((List Int)×Int))>>=fun oo=>match oo with | (x2365,x2366)=>((chk (0≤(t2347.length:Int)∧(t2347.length:Int)≤(t2347.length:Int)∧((8:Nat):Int)*(t2347.length:Int)≤281474976710656∧(t2347.length:Int)≤9223372036854775807))>>=fun _=>(Z0j.l1 a0 b2342 t1877 t2347 x2333 x2334 x2335 x2337 x2365 x2366 (List.replicate (Int.toNat (t2347.length:Int)) 0) 0)>>=fun oo=>match oo with | (x2511,x2512,x2513)=>(Z0j.l0 a0 t1877 x2511 x2512 t2347 x2513 b2342.f0 (i64.wrap (b2342.f0-x2335)) (i64.wrap (x2337+(1:Int)))))) else(some (x2331,x2332))
partial_fixpoint
def Z0j.f (a0:List Zd):Option ((List Int)×Int):=(Zl.f a0)>>=fun t1866=>if(t1866 != (0:Int))=true then(some ([],t1866)) else((at? a0 0)>>=fun b1872=>(Z07.f a0)>>=fun t1877=>(Z1n.f 0 (b1872.f1.f0==(1:Int)))>>=fun t1900=>(Z08.f t1900.1 t1900.2 (u64.wrap (i64.wrap (b1872.f1.f1-(-4)))) 4)>>=fun t1944=>(Zx.f t1944.1 t1944.2 b1872.f1.f2)>>=fun t2084=>(Z13.f t2084.1 t2084.2 (t1877.1))>>=fun t2137=>(Z13.f t2137.1 t2137.2 (t1877.2))>>=fun t2143=>(Ze.f t2143.1 t2143.2 (u64.wrap (i64.wrap ((a0.length:Int)-(1:Int)))))>>=fun t2147=>(Z0j.l0 a0 t1877 t2147.1 t2147.2 [] [] 0 0 0)>>=fun oo=>match oo with | (x2514,x2515)=>((Z1f.f x2514 x2515)>>=fun t2522=>some (t2522,0)))
theorem Z0j.ok (a0:List Zd) (r:(List Int)×Int) (H:Z0j.f a0=some r):Pv.Fn Try.prog 7 [.im (.row (a0.map Z7))] [] 0 (fun x o=>x = .tup [.own 0,iV .i64 r.2]∧o=[(0,some (.row 1 5 (r.1.map (Z1 .u8))))]):=by
 unfold Z0j.f at H
 refine Fn.bodyK [0] Try.func7 rfl rfl (fun Γ hP hn => ?_)
 have hm:Try.prog.follows .mixedOrders=true:=by kernel_rfl
 replace hn:Γ.n=167:=hn
 refine sO hP hn hm [] [] [0] [] [] ?_
 refine AWp.seq ?_
 obtain⟨t1866,e1867,H⟩:=Z4 H
 refine sR hP hn hm [(1,.call [] [] [] [] 0 (iV .i64 t1866) [])] [(4,iV .i64 t1866)] [0,4] [] [] [_,_] ⟨Try.call10,Zl.ok a0 t1866 e1867,trivial⟩ ?_
 refine sO hP hn hm [] [(22,bV (t1866 != (0:Int)))] [0,4,22] [] [] ?_
 refine AWp.cond (t1866 != (0:Int)) (by kernel_rfl) (fun c1868 => ?_) (fun c1868 => ?_)
 ·replace H:=iT c1868 H
  refine sO hP hn hm [] [(2,.none0),(3,iV .i64 t1866)] [2,3] [] [] ?_
  refine AWp.conv (inv:=[]) (vk:=[]) (e0:=[0]) (t:=⟨[(2,.own 0),(3,iV .i64 t1866)],[(0,some (.row 1 5 ([].map (Z1 .u8))))],0⟩) (by kernel_rfl) ?_
  refine AWp.ret ?_
  obtain rfl:=sj H
  exact rl (.inl rfl) rfl (by kernel_rfl) (by kernel_rfl)
 ·replace H:=iF c1868 H
  refine AWp.skip ?_
  refine sO hP hn hm [(1,.k 0)] [(5,.ptr 0 0 0)] [0,5] [(0,some (.box 49 [.none0,iV .u64 0]))] [0] ?_
  obtain⟨b1872,p1873,q1874,H⟩:=Z0d H
  refine sR hP hn hm [(1,.c (Z7 b1872)),(4,.k 1)] [(6,.ptr 1 0 0)] [0,5,6] [(1,some (.box 36 (Zn b1872.f1)))] [0,1] [_,_] ⟨p1873,Zk Z7 q1874,trivial⟩ ?_
  obtain⟨t1877,e1878,H⟩:=Z4 H
  refine sR hP hn hm [(1,.call [] [(0,2),(1,3)] [] [2,3] 0 (.tup [.agg [iV .i64 ((t1877.1).f0),.own 0],.agg [iV .i64 ((t1877.2).f0),.own 1]]) [(0,some (.row 2 86 (((t1877.1).f1).map Z00))),(1,some (.row 2 86 (((t1877.2).f1).map Z00)))]),(5,.k 4),(6,.k 5)] [(7,.ptr 4 0 0),(8,.ptr 5 0 0)] [0,5,6,7,8] [(2,some (.row 2 86 (((t1877.1).f1).map Z00))),(3,some (.row 2 86 (((t1877.2).f1).map Z00))),(4,some (.box 52 [iV .i64 ((t1877.1).f0),.own 2])),(5,some (.box 52 [iV .i64 ((t1877.2).f0),.own 3]))] [0,1,2,3,4,5] [_,_] ⟨Try.call15,Z07.ok a0 t1877 e1878,trivial⟩ ?_
  obtain⟨t1900,e1901,H⟩:=Z4 H
  refine sR hP hn hm [(4,.call [(0,0)] [(0,0),(1,6)] [] [6] 1 (.tup []) [(0,some (.box 49 [.own 1,iV .u64 t1900.2])),(1,some (.row 1 5 (t1900.1.map (Z1 .u8))))])] [] [0,5,6,7,8] [(0,some (.box 49 [.own 6,iV .u64 t1900.2])),(6,some (.row 1 5 (t1900.1.map (Z1 .u8))))] [0,1,2,3,4,5,6] [_,_] ⟨Try.call16,Z1n.ok 0 (b1872.f1.f0==(1:Int)) t1900 e1901,trivial⟩ ?_
  obtain⟨t1944,e1945,H⟩:=Z4 H
  refine sR hP hn hm [(5,.call [(0,0),(6,1)] [(0,0),(2,7)] [] [7] 2 (.tup []) [(0,some (.box 49 [.own 2,iV .u64 t1944.2])),(1,none),(2,some (.row 1 5 (t1944.1.map (Z1 .u8))))])] [] [0,5,6,7,8] [(0,some (.box 49 [.own 7,iV .u64 t1944.2])),(7,some (.row 1 5 (t1944.1.map (Z1 .u8))))] [0,1,2,3,4,5,7] [_,_] ⟨Try.call17,Z08.ok t1900.1 t1900.2 (u64.wrap (i64.wrap (b1872.f1.f1-(-4)))) 4 t1944 e1945,trivial⟩ ?_
  obtain⟨t2084,e2085,H⟩:=Z4 H
  refine sR hP hn hm [(3,.call [(0,0),(7,1)] [(0,0),(2,8)] [] [8] 2 (.tup []) [(0,some (.box 49 [.own 2,iV .u64 t2084.2])),(1,none),(2,some (.row 1 5 (t2084.1.map (Z1 .u8))))])] [] [0,5,7,8] [(0,some (.box 49 [.own 8,iV .u64 t2084.2])),(8,some (.row 1 5 (t2084.1.map (Z1 .u8))))] [0,2,3,4,5,8] [_,_] ⟨Try.call18,Zx.ok t1944.1 t1944.2 b1872.f1.f2 t2084 e2085,trivial⟩ ?_
  refine AWp.seq ?_
  refine AWp.conv (inv:=[(3,3),(4,4),(5,5),(0,0),(8,8)]) (vk:=[2]) (e0:=[]) (t:=⟨[(0,.im (.row (a0.map Z7))),(5,.ptr 0 0 0),(7,.ptr 4 0 0),(8,.ptr 5 0 0)],[(0,some (.box 49 [.own 8,iV .u64 t2084.2])),(3,some (.row 2 86 (((t1877.2).f1).map Z00))),(4,some (.box 52 (Za (t1877.1)))),(5,some (.box 52 [iV .i64 ((t1877.2).f0),.own 3])),(8,some (.row 1 5 (t2084.1.map (Z1 .u8))))],0⟩) (by kernel_rfl) ?_
  obtain⟨t2137,e2138,H⟩:=Z4 H
  refine rG hP hn hm [(2,.call [(0,0),(8,1)] [(0,0),(2,9)] [] [9] 2 (.tup []) [(0,some (.box 49 [.own 2,iV .u64 t2137.2])),(1,none),(2,some (.row 1 5 (t2137.1.map (Z1 .u8))))])] [] [0,5,7,8] [(0,some (.box 49 [.own 9,iV .u64 t2137.2])),(9,some (.row 1 5 (t2137.1.map (Z1 .u8))))] [0,3,4,5,9] [_,_] ⟨Try.call19,Z13.ok t2084.1 t2084.2 (t1877.1) t2137 e2138,trivial⟩ ?_
  refine AWp.seq ?_
  refine AWp.conv (inv:=[(4,4),(5,5),(0,0),(9,9)]) (vk:=[3]) (e0:=[]) (t:=⟨[(0,.im (.row (a0.map Z7))),(5,.ptr 0 0 0),(7,.ptr 4 0 0),(8,.ptr 5 0 0)],[(0,some (.box 49 [.own 9,iV .u64 t2137.2])),(4,some (.box 52 (Za (t1877.1)))),(5,some (.box 52 (Za (t1877.2)))),(9,some (.row 1 5 (t2137.1.map (Z1 .u8))))],0⟩) (by kernel_rfl) ?_
  obtain⟨t2143,e2144,H⟩:=Z4 H
  refine rG hP hn hm [(2,.call [(0,0),(9,1)] [(0,0),(2,10)] [] [10] 2 (.tup []) [(0,some (.box 49 [.own 2,iV .u64 t2143.2])),(1,none),(2,some (.row 1 5 (t2143.1.map (Z1 .u8))))])] [] [0,5,7,8] [(0,some (.box 49 [.own 10,iV .u64 t2143.2])),(10,some (.row 1 5 (t2143.1.map (Z1 .u8))))] [0,4,5,10] [_,_] ⟨Try.call19,Z13.ok t2137.1 t2137.2 (t1877.2) t2143 e2144,trivial⟩ ?_
  obtain⟨t2147,e2148,H⟩:=Z4 H
  refine sR hP hn hm [(2,.any (iV .i64 (a0.length:Int))),(5,.call [(0,0),(10,1)] [(0,0),(2,11)] [] [11] 2 (.tup []) [(0,some (.box 49 [.own 2,iV .u64 t2147.2])),(1,none),(2,some (.row 1 5 (t2147.1.map (Z1 .u8))))])] [] [0,5,7,8] [(0,some (.box 49 [.own 11,iV .u64 t2147.2])),(11,some (.row 1 5 (t2147.1.map (Z1 .u8))))] [0,4,5,11] [((a0.map Z7).length:Int)=(a0.length:Int),_,_] ⟨by rw[Zi],Try.call20,Ze.ok t2143.1 t2143.2 (u64.wrap (i64.wrap ((a0.length:Int)-(1:Int)))) t2147 e2148,trivial⟩ ?_
  refine sO hP hn hm [] [(9,.none0),(10,.none0)] [0,5,7,8,9,10] [] [0,4,5,11] ?_
  refine sO hP hn hm [] [(11,iV .i64 0),(12,iV .i64 0)] [0,5,7,8,9,10,11,12] [] [0,4,5,11] ?_
  refine AWp.seq ?_
  refine sR hP hn hm [(1,.any (iV .i64 (a0.length:Int)))] [(62,.im (.row (a0.map Z7))),(63,iV .i64 (a0.length:Int)),(64,iV .i64 0)] [5,7,8,9,10,11,12,62,63,64] [] [0,4,5,11] [((a0.map Z7).length:Int)=(a0.length:Int)] ⟨by rw[Zi],trivial⟩ ?_
  refine AWp.block ?_
  obtain⟨o2524,e2525,H⟩:=Z4 H
  refine AWp.loop (LWp.conv (inv:=[(0,30),(4,32),(5,33),(11,31)]) (vk:=[]) (e0:=[34,35]) (t:=⟨[(5,.ptr 30 0 0),(7,.ptr 32 0 0),(8,.ptr 33 0 0),(9,.own 34),(10,.own 35),(11,iV .i64 0),(12,iV .i64 0),(62,.im (.row (a0.map Z7))),(63,iV .i64 (a0.length:Int)),(64,iV .i64 0)],[(30,some (.box 49 [.own 31,iV .u64 t2147.2])),(31,some (.row 1 5 (t2147.1.map (Z1 .u8)))),(32,some (.box 52 (Za (t1877.1)))),(33,some (.box 52 (Za (t1877.2)))),(34,some (.row 1 33 ([].map (Z1 .u64)))),(35,some (.row 1 33 ([].map (Z1 .u64))))],0⟩) (by kernel_rfl) ?_)
  refine LWp.mono (Q:=fun e s=>(match (generalizing:=false) o2524 with | (x2514,x2515)=>e = .exit 0∧s=⟨[(5,.ptr 110 0 0)],[(110,some (.box 49 [.own 111,iV .u64 x2515])),(111,some (.row 1 5 (x2514.map (Z1 .u8))))],0⟩)) (LWp.cv (Zt (fun body hbody => ?_))) ?_
  ·refine            Z0j.l0.partial_correctness a0 t1877 (motive:=fun x2331 x2332 x2333 x2334 x2335 x2336 x2337 o2524=>LWp Γ body (fun e s=>∃ t,Cv Γ s t∧(match (generalizing:=false) o2524 with | (x2514,x2515)=>e = .exit 0∧t=⟨[(5,.ptr 110 0 0)],[(110,some (.box 49 [.own 111,iV .u64 x2515])),(111,some (.row 1 5 (x2514.map (Z1     .u8))))],0⟩)) ⟨[(5,.ptr 30 0 0),(7,.ptr 32 0 0),(8,.ptr 33 0 0),(9,.own 34),(10,.own 35),(11,iV .i64 x2335),(12,iV .i64 x2336),(62,.im (.row (a0.map Z7     ))),(63,iV .i64 (a0.length:Int)),(64,iV .i64 x2337)],[(30,some (.box 49 [.own 31,iV .u64 x2332])),(31,some (.row 1 5 (x2331.map (Z1     .u8)))),(32,some (.box 52 (Za           (t1877.1)))),(33,some (.box 52 (Za           (t1877.2)))),(34,some (.row 1 33 (x2333.map (Z1     .u64)))),(35,some (.row 1 33 (x2334.map (Z1     .u64))))],0⟩) ?_ _ _ _ _ _ _ _ _ e2525
   clear H e2525 o2524;intro self ih x2331 x2332 x2333 x2334 x2335 x2336 x2337 o2524 H
   subst hbody
   refine LWp.round ?_
   refine sO hP hn hm [] [(65,bV (decide (x2337<(a0.length:Int))))] [5,7,8,9,10,11,12,62,63,64,65] [] [30,31,32,33,34,35] ?_
   refine AWp.seq ?_
   refine AWp.cond (decide (x2337<(a0.length:Int))) (by kernel_rfl) (fun c2338 => ?_) (fun c2338 => ?_)
   ·replace H:=iT c2338 H
    refine AWp.skip ?_
    refine AWp.seq ?_
    refine AWp.block ?_
    obtain⟨b2342,p2343,q2344,H⟩:=Z0d H
    refine sR hP hn hm [(1,.c (Z7 b2342)),(3,.k 36)] [(13,iV .i64 x2337),(14,.ptr 36 0 0)] [5,7,8,9,10,11,12,13,14,62,63,64] [(36,some (.box 38 [iV .i64 b2342.f0,iV .i64 b2342.f1.f0,iV .i64 b2342.f1.f1,iV .i64 b2342.f1.f2,iV .u64 b2342.f1.f3,iV .u64 b2342.f1.f4,iV .i64 b2342.f1.f5,.im (.row (b2342.f1.f6.map Z0)),.im (.row (b2342.f1.f7.map Z0))]))] [30,31,32,33,34,35,36] [_,_] ⟨p2343,Zk Z7 q2344,trivial⟩ ?_
    obtain⟨t2347,e2348,H⟩:=Z4 H
    refine sR hP hn hm [(4,.call [] [(0,37)] [] [37] 0 (.own 0) [(0,some (.row 1 33 (t2347.map (Z1 .u64))))])] [(15,.own 37)] [5,7,8,9,10,11,12,13,14,15,62,63,64] [(37,some (.row 1 33 (t2347.map (Z1 .u64))))] [30,31,32,33,34,35,36,37] [_,_] ⟨Try.call21,Z34.ok b2342.f1 (t1877.1) (t1877.2) t2347 e2348,trivial⟩ ?_
    refine AWp.seq ?_
    refine sO hP hn hm [] [(74,iV .i64 x2337)] [5,7,8,9,10,11,12,13,14,15,62,63,64,74] [] [30,31,32,33,34,35,36,37] ?_
    refine AWp.block ?_
    refine sO hP hn hm [] [(83,bV (x2337==(0:Int)))] [5,7,8,9,10,11,12,13,14,15,62,63,64,74,83] [] [30,31,32,33,34,35,36,37] ?_
    obtain⟨o2526,e2527,H⟩:=Z4 H
    refine AWp.mono (Q:=fun e s=>(match (generalizing:=false) o2526 with | (x2365,x2366)=>e = .normal∧s=⟨[(5,.ptr 49 0 0),(7,.ptr 51 0 0),(8,.ptr 52 0 0),(9,.own 53),(10,.own 54),(11,iV .i64 x2335),(13,iV .i64 x2337),(14,.ptr 55 0 0),(15,.own 56),(62,.im (.row (a0.map Z7))),(63,iV .i64 (a0.length:Int)),(64,iV .i64 x2337)],[(49,some (.box 49 [.own 50,iV .u64 x2366])),(50,some (.row 1 5 (x2365.map (Z1 .u8)))),(51,some (.box 52 (Za (t1877.1)))),(52,some (.box 52 (Za (t1877.2)))),(53,some (.row 1 33 (x2333.map (Z1 .u64)))),(54,some (.row 1 33 (x2334.map (Z1 .u64)))),(55,some (.box 38 [iV .i64 b2342.f0,iV .i64 b2342.f1.f0,iV .i64 b2342.f1.f1,iV .i64 b2342.f1.f2,iV .u64 b2342.f1.f3,iV .u64 b2342.f1.f4,iV .i64 b2342.f1.f5,.im (.row (b2342.f1.f6.map Z0)),.im (.row (b2342.f1.f7.map Z0))])),(56,some (.row 1 33 (t2347.map (Z1 .u64))))],0⟩)) (AWp.cv ?_) ?_
    ·replace H:=e2527;clear e2527
     refine AWp.cond (x2337==(0:Int)) (by kernel_rfl) (fun c2349 => ?_) (fun c2349 => ?_)
     ·replace H:=iT c2349 H
      obtain⟨t2352,e2353,H⟩:=Z4 H
      refine rG hP hn hm [(4,.call [(30,0),(31,1)] [(0,30),(2,38)] [] [38] 2 (.tup []) [(0,some (.box 49 [.own 2,iV .u64 t2352.2])),(1,none),(2,some (.row 1 5 (t2352.1.map (Z1 .u8))))])] [] [5,7,8,9,10,11,13,14,15,62,63,64] [(30,some (.box 49 [.own 38,iV .u64 t2352.2])),(38,some (.row 1 5 (t2352.1.map (Z1 .u8))))] [30,32,33,34,35,36,37,38] [_,_] ⟨Try.call20,Ze.ok x2331 x2332 (u64.wrap (b2342.f0)) t2352 e2353,trivial⟩ ?_
      obtain rfl:=sj H
      exact lf [(30,49),(38,50),(32,51),(33,52),(34,53),(35,54),(36,55),(37,56)] [] [] (by kernel_rfl) ⟨rfl,rfl⟩
     ·replace H:=iF c2349 H
      refine sO hP hn hm [] [(90,bV (x2337==(1:Int)))] [5,7,8,9,10,11,12,13,14,15,62,63,64,90] [] [30,31,32,33,34,35,36,37] ?_
      obtain⟨o2528,e2529,H⟩:=Z4 H
      refine AWp.mono (Q:=fun e s=>(match (generalizing:=false) o2528 with | (x2363,x2364)=>e = .normal∧s=⟨[(5,.ptr 41 0 0),(7,.ptr 43 0 0),(8,.ptr 44 0 0),(9,.own 45),(10,.own 46),(11,iV .i64 x2335),(13,iV .i64 x2337),(14,.ptr 47 0 0),(15,.own 48),(62,.im (.row (a0.map Z7))),(63,iV .i64 (a0.length:Int)),(64,iV .i64 x2337)],[(41,some (.box 49 [.own 42,iV .u64 x2364])),(42,some (.row 1 5 (x2363.map (Z1 .u8)))),(43,some (.box 52 (Za (t1877.1)))),(44,some (.box 52 (Za (t1877.2)))),(45,some (.row 1 33 (x2333.map (Z1 .u64)))),(46,some (.row 1 33 (x2334.map (Z1 .u64)))),(47,some (.box 38 [iV .i64 b2342.f0,iV .i64 b2342.f1.f0,iV .i64 b2342.f1.f1,iV .i64 b2342.f1.f2,iV .u64 b2342.f1.f3,iV .u64 b2342.f1.f4,iV .i64 b2342.f1.f5,.im (.row (b2342.f1.f6.map Z0)),.im (.row (b2342.f1.f7.map Z0))])),(48,some (.row 1 33 (t2347.map (Z1 .u64))))],0⟩)) (AWp.cv ?_) ?_
      ·replace H:=e2529;clear e2529
       refine AWp.cond (x2337==(1:Int)) (by kernel_rfl) (fun c2354 => ?_) (fun c2354 => ?_)
       ·replace H:=iT c2354 H
        obtain⟨t2357,e2358,H⟩:=Z4 H
        refine rG hP hn hm [(7,.call [(30,0),(31,1)] [(0,30),(2,39)] [] [39] 2 (.tup []) [(0,some (.box 49 [.own 2,iV .u64 t2357.2])),(1,none),(2,some (.row 1 5 (t2357.1.map (Z1 .u8))))])] [] [5,7,8,9,10,11,13,14,15,62,63,64] [(30,some (.box 49 [.own 39,iV .u64 t2357.2])),(39,some (.row 1 5 (t2357.1.map (Z1 .u8))))] [30,32,33,34,35,36,37,39] [_,_] ⟨Try.call20,Ze.ok x2331 x2332 (u64.wrap (i64.wrap ((i64.wrap (b2342.f0-x2335))-(1:Int)))) t2357 e2358,trivial⟩ ?_
        obtain rfl:=sj H
        exact lf [(30,41),(39,42),(32,43),(33,44),(34,45),(35,46),(36,47),(37,48)] [] [] (by kernel_rfl) ⟨rfl,rfl⟩
       ·replace H:=iF c2354 H
        obtain⟨t2361,e2362,H⟩:=Z4 H
        refine rG hP hn hm [(7,.call [(30,0),(31,1)] [(0,30),(2,40)] [] [40] 2 (.tup []) [(0,some (.box 49 [.own 2,iV .u64 t2361.2])),(1,none),(2,some (.row 1 5 (t2361.1.map (Z1 .u8))))])] [] [5,7,8,9,10,11,13,14,15,62,63,64] [(30,some (.box 49 [.own 40,iV .u64 t2361.2])),(40,some (.row 1 5 (t2361.1.map (Z1 .u8))))] [30,32,33,34,35,36,37,40] [_,_] ⟨Try.call18,Zx.ok x2331 x2332 (i64.wrap ((i64.wrap (b2342.f0-x2335))-x2336)) t2361 e2362,trivial⟩ ?_
        obtain rfl:=sj H
        exact lf [(30,41),(40,42),(32,43),(33,44),(34,45),(35,46),(36,47),(37,48)] [] [] (by kernel_rfl) ⟨rfl,rfl⟩
      ·obtain⟨x2363,x2364⟩:=o2528
       rintro e s ⟨rfl,rfl⟩
       obtain rfl:=sj H
       exact lf [(41,49),(42,50),(43,51),(44,52),(45,53),(46,54),(47,55),(48,56)] [] [] (by kernel_rfl) ⟨rfl,rfl⟩
    ·obtain⟨x2365,x2366⟩:=o2526
     rintro e s ⟨rfl,rfl⟩
     refine sO hP hn hm [] [(11,iV .i64 b2342.f0),(12,iV .i64 (i64.wrap (b2342.f0-x2335)))] [5,7,8,9,10,11,12,13,15,62,63,64] [] [49,50,51,52,53,54,56] ?_
     obtain⟨c2368,H⟩:=Z0x H
     refine sR hP hn hm [(1,.any (iV .i64 (t2347.length:Int))),(2,.more (xMake 57 ((List.replicate (Int.toNat (t2347.length:Int)) 0).map (Z1 .u64))))] [(16,.own 57)] [5,7,8,9,10,11,12,13,15,16,62,63,64] [(57,some (.row 1 33 ((List.replicate (Int.toNat (t2347.length:Int)) 0).map (Z1 .u64))))] [49,50,51,52,53,54,56,57] [((t2347.map (Z1 .u64)).length:Int)=(t2347.length:Int),(List.replicate (Int.toNat (t2347.length:Int)) 0).map (Z1 .u64)=List.replicate (Int.toNat (t2347.length:Int)) [iI .u64 0],0≤(t2347.length:Int),(t2347.length:Int)≤(t2347.length:Int),((8:Nat):Int)*(t2347.length:Int)≤281474976710656,(t2347.length:Int)≤9223372036854775807] ⟨by rw[Zi],by simp,by exact c2368.1,by exact c2368.2.1,by exact c2368.2.2.1,by exact c2368.2.2.2,trivial⟩ ?_
     refine AWp.seq ?_
     refine sR hP hn hm [(1,.any (iV .i64 (t2347.length:Int)))] [(109,.own 56),(110,iV .i64 (t2347.length:Int)),(111,iV .i64 0)] [5,7,8,9,10,11,12,13,15,16,62,63,64,109,110,111] [] [49,50,51,52,53,54,56,57] [((t2347.map (Z1 .u64)).length:Int)=(t2347.length:Int)] ⟨by rw[Zi],trivial⟩ ?_
     refine AWp.block ?_
     obtain⟨o2530,e2531,H⟩:=Z4 H
     refine AWp.loop (LWp.conv (inv:=[(49,77),(50,78),(51,79),(52,80),(53,81),(54,82),(56,83),(57,84)]) (vk:=[]) (e0:=[]) (t:=⟨[(5,.ptr 77 0 0),(7,.ptr 79 0 0),(8,.ptr 80 0 0),(9,.own 81),(10,.own 82),(11,iV .i64 b2342.f0),(12,iV .i64 (i64.wrap (b2342.f0-x2335))),(13,iV .i64 x2337),(15,.own 83),(16,.own 84),(62,.im (.row (a0.map Z7))),(63,iV .i64 (a0.length:Int)),(64,iV .i64 x2337),(109,.own 83),(110,iV .i64 (t2347.length:Int)),(111,iV .i64 0)],[(77,some (.box 49 [.own 78,iV .u64 x2366])),(78,some (.row 1 5 (x2365.map (Z1 .u8)))),(79,some (.box 52 (Za (t1877.1)))),(80,some (.box 52 (Za (t1877.2)))),(81,some (.row 1 33 (x2333.map (Z1 .u64)))),(82,some (.row 1 33 (x2334.map (Z1 .u64)))),(83,some (.row 1 33 (t2347.map (Z1 .u64)))),(84,some (.row 1 33 ((List.replicate (Int.toNat (t2347.length:Int)) 0).map (Z1 .u64))))],0⟩) (by kernel_rfl) ?_)
     refine LWp.mono (Q:=fun e s=>(match (generalizing:=false) o2530 with | (x2511,x2512,x2513)=>e = .exit 3∧s=⟨[(5,.ptr 104 0 0),(7,.ptr 106 0 0),(8,.ptr 107 0 0),(11,iV .i64 b2342.f0),(12,iV .i64 (i64.wrap (b2342.f0-x2335))),(15,.own 108),(16,.own 109),(62,.im (.row (a0.map Z7))),(63,iV .i64 (a0.length:Int)),(64,iV .i64 x2337)],[(104,some (.box 49 [.own 105,iV .u64 x2512])),(105,some (.row 1 5 (x2511.map (Z1 .u8)))),(106,some (.box 52 (Za (t1877.1)))),(107,some (.box 52 (Za (t1877.2)))),(108,some (.row 1 33 (t2347.map (Z1 .u64)))),(109,some (.row 1 33 (x2513.map (Z1 .u64))))],0⟩)) (LWp.cv (Zt (fun body hbody => ?_))) ?_
     ·refine            Z0j.l1.partial_correctness a0 b2342 t1877 t2347 x2333 x2334 x2335 x2337 (motive:=fun x2438 x2439 x2440 x2441 o2530=>LWp Γ body (fun e s=>∃ t,Cv Γ s t∧(match (generalizing:=false) o2530 with | (x2511,x2512,x2513)=>e = .exit 3∧t=⟨[(5,.ptr 104 0 0),(7,.ptr 106 0 0),(8,.ptr 107 0 0),(11,iV .i64 b2342.f0),(12,iV .i64 (i64.wrap (b2342.f0-x2335))),(15,.own 108),(16,.own 109),(62,.im (.row (a0.map Z7     ))),(63,iV .i64 (a0.length:Int)),(64,iV .i64 x2337)],[(104,some (.box 49 [.own 105,iV .u64 x2512])),(105,some (.row 1 5 (x2511.map (Z1     .u8)))),(106,some (.box 52 (Za           (t1877.1)))),(107,some (.box 52 (Za           (t1877.2)))),(108,some (.row 1 33 (t2347.map (Z1     .u64)))),(109,some (.row 1 33 (x2513.map (Z1     .u64))))],0⟩)) ⟨[(5,.ptr 77 0 0),(7,.ptr 79 0 0),(8,.ptr 80 0 0),(9,.own 81),(10,.own 82),(11,iV .i64 b2342.f0),(12,iV .i64 (i64.wrap (b2342.f0-x2335))),(13,iV .i64 x2337),(15,.own 83),(16,.own 84),(62,.im (.row (a0.map Z7     ))),(63,iV .i64 (a0.length:Int)),(64,iV .i64 x2337),(109,.own 83),(110,iV .i64 (t2347.length:Int)),(111,iV .i64 x2441)],[(77,some (.box 49 [.own 78,iV .u64 x2439])),(78,some (.row 1 5 (x2438.map (Z1     .u8)))),(79,some (.box 52 (Za           (t1877.1)))),(80,some (.box 52 (Za           (t1877.2)))),(81,some (.row 1 33 (x2333.map (Z1     .u64)))),(82,some (.row 1 33 (x2334.map (Z1     .u64)))),(83,some (.row 1 33 (t2347.map (Z1     .u64)))),(84,some (.row 1 33 (x2440.map (Z1     .u64))))],0⟩) ?_ _ _ _ _ _ e2531
      clear H e2531 o2530;intro self ih x2438 x2439 x2440 x2441 o2530 H
      subst hbody
      refine LWp.round ?_
      refine sO hP hn hm [] [(112,bV (decide (x2441<(t2347.length:Int))))] [5,7,8,9,10,11,12,13,15,16,62,63,64,109,110,111,112] [] [77,78,79,80,81,82,83,84] ?_
      refine AWp.seq ?_
      refine AWp.cond (decide (x2441<(t2347.length:Int))) (by kernel_rfl) (fun c2442 => ?_) (fun c2442 => ?_)
      ·replace H:=iT c2442 H
       refine AWp.skip ?_
       refine AWp.seq ?_
       refine AWp.block ?_
       obtain⟨b2446,p2447,q2448,H⟩:=Z0d H
       refine sR hP hn hm [(2,.c ((Z1 .u64) b2446))] [(17,iV .i64 x2441),(18,iV .u64 b2446)] [5,7,8,9,10,11,12,13,15,16,17,18,62,63,64,109,110,111] [] [77,78,79,80,81,82,83,84] [_,_,_] ⟨p2447,Z1g (Z1 .u64) p2447 q2448,Zk (Z1 .u64) q2448,trivial⟩ ?_
       refine sO hP hn hm [] [(116,iV .i64 x2337)] [5,7,8,9,10,11,12,13,15,16,17,18,62,63,64,109,110,111,116] [] [77,78,79,80,81,82,83,84] ?_
       refine AWp.block ?_
       refine sO hP hn hm [] [(138,bV (x2337==(0:Int)))] [5,7,8,9,10,11,12,13,15,16,17,18,62,63,64,109,110,111,116,138] [] [77,78,79,80,81,82,83,84] ?_
       obtain⟨o2532,e2533,H⟩:=Z4 H
       refine AWp.mono (Q:=fun e s=>(match (generalizing:=false) o2532 with | (x2508,x2509,x2510)=>e = .normal∧s=⟨[(5,.ptr 96 0 0),(7,.ptr 98 0 0),(8,.ptr 99 0 0),(9,.own 100),(10,.own 101),(11,iV .i64 b2342.f0),(12,iV .i64 (i64.wrap (b2342.f0-x2335))),(13,iV .i64 x2337),(15,.own 102),(16,.own 103),(62,.im (.row (a0.map Z7))),(63,iV .i64 (a0.length:Int)),(64,iV .i64 x2337),(109,.own 102),(110,iV .i64 (t2347.length:Int)),(111,iV .i64 x2441)],[(96,some (.box 49 [.own 97,iV .u64 x2509])),(97,some (.row 1 5 (x2508.map (Z1 .u8)))),(98,some (.box 52 (Za (t1877.1)))),(99,some (.box 52 (Za (t1877.2)))),(100,some (.row 1 33 (x2333.map (Z1 .u64)))),(101,some (.row 1 33 (x2334.map (Z1 .u64)))),(102,some (.row 1 33 (t2347.map (Z1 .u64)))),(103,some (.row 1 33 (x2510.map (Z1 .u64))))],0⟩)) (AWp.cv ?_) ?_
       ·replace H:=e2533;clear e2533
        refine AWp.cond (x2337==(0:Int)) (by kernel_rfl) (fun c2449 => ?_) (fun c2449 => ?_)
        ·replace H:=iT c2449 H
         obtain⟨t2452,e2453,H⟩:=Z4 H
         refine rG hP hn hm [(2,.call [(77,0),(78,1)] [(0,77),(2,85)] [] [85] 2 (.tup []) [(0,some (.box 49 [.own 2,iV .u64 t2452.2])),(1,none),(2,some (.row 1 5 (t2452.1.map (Z1 .u8))))])] [] [5,7,8,9,10,11,12,13,15,16,62,63,64,109,110,111] [(77,some (.box 49 [.own 85,iV .u64 t2452.2])),(85,some (.row 1 5 (t2452.1.map (Z1 .u8))))] [77,79,80,81,82,83,84,85] [_,_] ⟨Try.call20,Ze.ok x2438 x2439 b2446 t2452 e2453,trivial⟩ ?_
         obtain rfl:=sj H
         exact lf [(77,96),(85,97),(79,98),(80,99),(81,100),(82,101),(83,102),(84,103)] [] [] (by kernel_rfl) ⟨rfl,rfl⟩
        ·replace H:=iF c2449 H
         refine sO hP hn hm [] [(143,bV (x2337==(1:Int)))] [5,7,8,9,10,11,12,13,15,16,17,18,62,63,64,109,110,111,143] [] [77,78,79,80,81,82,83,84] ?_
         obtain⟨o2534,e2535,H⟩:=Z4 H
         refine AWp.mono (Q:=fun e s=>(match (generalizing:=false) o2534 with | (x2505,x2506,x2507)=>e = .normal∧s=⟨[(5,.ptr 88 0 0),(7,.ptr 90 0 0),(8,.ptr 91 0 0),(9,.own 92),(10,.own 93),(11,iV .i64 b2342.f0),(12,iV .i64 (i64.wrap (b2342.f0-x2335))),(13,iV .i64 x2337),(15,.own 94),(16,.own 95),(62,.im (.row (a0.map Z7))),(63,iV .i64 (a0.length:Int)),(64,iV .i64 x2337),(109,.own 94),(110,iV .i64 (t2347.length:Int)),(111,iV .i64 x2441)],[(88,some (.box 49 [.own 89,iV .u64 x2506])),(89,some (.row 1 5 (x2505.map (Z1 .u8)))),(90,some (.box 52 (Za (t1877.1)))),(91,some (.box 52 (Za (t1877.2)))),(92,some (.row 1 33 (x2333.map (Z1 .u64)))),(93,some (.row 1 33 (x2334.map (Z1 .u64)))),(94,some (.row 1 33 (t2347.map (Z1 .u64)))),(95,some (.row 1 33 (x2507.map (Z1 .u64))))],0⟩)) (AWp.cv ?_) ?_
         ·replace H:=e2535;clear e2535
          refine AWp.cond (x2337==(1:Int)) (by kernel_rfl) (fun c2454 => ?_) (fun c2454 => ?_)
          ·replace H:=iT c2454 H
           obtain⟨b2461,p2462,q2463,H⟩:=Z0d H
           obtain⟨b2464,p2465,q2466,H⟩:=Z0d H
           refine sR hP hn hm [(6,.c ((Z1 .u64) b2461)),(9,.put ((Z1 .u64) b2464) ((x2440.set (Int.toNat (x2441)) (u64.wrap (b2446-b2461))).map (Z1 .u64)))] [] [5,7,8,9,10,11,12,13,15,16,17,62,63,64,109,110,111] [(84,some (.row 1 33 ((x2440.set (Int.toNat (x2441)) (u64.wrap (b2446-b2461))).map (Z1 .u64))))] [77,78,79,80,81,82,83,84] [_,_,_,_,_,_,(x2440.set (Int.toNat (x2441)) (u64.wrap (b2446-b2461))).map (Z1 .u64)=(x2440.map (Z1 .u64)).set (Int.toNat (x2441)) (Z1c ((Z1 .u64) b2464) 0 [iI .u64 (u64.wrap (b2446-b2461))])] ⟨p2462,Z1g (Z1 .u64) p2462 q2463,Zk (Z1 .u64) q2463,p2465,Z1g (Z1 .u64) p2465 q2466,Zk (Z1 .u64) q2466,by exact set1 _ _ _ _,trivial⟩ ?_
           obtain⟨b2472,p2473,q2474,H⟩:=Z0d H
           obtain⟨t2475,e2476,H⟩:=Z4 H
           refine rG hP hn hm [(4,.c ((Z1 .u64) b2472)),(6,.call [(77,0),(78,1)] [(0,77),(2,86)] [] [86] 2 (.tup []) [(0,some (.box 49 [.own 2,iV .u64 t2475.2])),(1,none),(2,some (.row 1 5 (t2475.1.map (Z1 .u8))))])] [] [5,7,8,9,10,11,12,13,15,16,62,63,64,109,110,111] [(77,some (.box 49 [.own 86,iV .u64 t2475.2])),(86,some (.row 1 5 (t2475.1.map (Z1 .u8))))] [77,79,80,81,82,83,84,86] [_,_,_,_,_] ⟨p2473,Z1g (Z1 .u64) p2473 q2474,Zk (Z1 .u64) q2474,Try.call18,Zx.ok x2438 x2439 (i64.wrap (b2472)) t2475 e2476,trivial⟩ ?_
           obtain rfl:=sj H
           exact lf [(77,88),(86,89),(79,90),(80,91),(81,92),(82,93),(83,94),(84,95)] [] [] (by kernel_rfl) ⟨rfl,rfl⟩
          ·replace H:=iF c2454 H
           obtain⟨b2483,p2484,q2485,H⟩:=Z0d H
           obtain⟨b2486,p2487,q2488,H⟩:=Z0d H
           refine sR hP hn hm [(6,.c ((Z1 .u64) b2483)),(9,.put ((Z1 .u64) b2486) ((x2440.set (Int.toNat (x2441)) (u64.wrap (b2446-b2483))).map (Z1 .u64)))] [] [5,7,8,9,10,11,12,13,15,16,17,62,63,64,109,110,111] [(84,some (.row 1 33 ((x2440.set (Int.toNat (x2441)) (u64.wrap (b2446-b2483))).map (Z1 .u64))))] [77,78,79,80,81,82,83,84] [_,_,_,_,_,_,(x2440.set (Int.toNat (x2441)) (u64.wrap (b2446-b2483))).map (Z1 .u64)=(x2440.map (Z1 .u64)).set (Int.toNat (x2441)) (Z1c ((Z1 .u64) b2486) 0 [iI .u64 (u64.wrap (b2446-b2483))])] ⟨p2484,Z1g (Z1 .u64) p2484 q2485,Zk (Z1 .u64) q2485,p2487,Z1g (Z1 .u64) p2487 q2488,Zk (Z1 .u64) q2488,by exact set1 _ _ _ _,trivial⟩ ?_
           obtain⟨b2497,p2498,q2499,H⟩:=Z0d H
           obtain⟨b2500,p2501,q2502,H⟩:=Z0d H
           obtain⟨t2503,e2504,H⟩:=Z4 H
           refine rG hP hn hm [(4,.c ((Z1 .u64) b2497)),(8,.c ((Z1 .u64) b2500)),(11,.call [(77,0),(78,1)] [(0,77),(2,87)] [] [87] 2 (.tup []) [(0,some (.box 49 [.own 2,iV .u64 t2503.2])),(1,none),(2,some (.row 1 5 (t2503.1.map (Z1 .u8))))])] [] [5,7,8,9,10,11,12,13,15,16,62,63,64,109,110,111] [(77,some (.box 49 [.own 87,iV .u64 t2503.2])),(87,some (.row 1 5 (t2503.1.map (Z1 .u8))))] [77,79,80,81,82,83,84,87] [_,_,_,_,_,_,_,_] ⟨p2498,Z1g (Z1 .u64) p2498 q2499,Zk (Z1 .u64) q2499,p2501,Z1g (Z1 .u64) p2501 q2502,Zk (Z1 .u64) q2502,Try.call18,Zx.ok x2438 x2439 (i64.wrap (u64.wrap (b2497-b2500))) t2503 e2504,trivial⟩ ?_
           obtain rfl:=sj H
           exact lf [(77,88),(87,89),(79,90),(80,91),(81,92),(82,93),(83,94),(84,95)] [] [] (by kernel_rfl) ⟨rfl,rfl⟩
         ·obtain⟨x2505,x2506,x2507⟩:=o2534
          rintro e s ⟨rfl,rfl⟩
          obtain rfl:=sj H
          exact lf [(88,96),(89,97),(90,98),(91,99),(92,100),(93,101),(94,102),(95,103)] [] [] (by kernel_rfl) ⟨rfl,rfl⟩
       ·obtain⟨x2508,x2509,x2510⟩:=o2532
        rintro e s ⟨rfl,rfl⟩
        refine rO hP hn hm [] [(111,iV .i64 (i64.wrap (x2441+(1:Int))))] [5,7,8,9,10,11,12,13,15,16,62,63,64,109,110,111] [] [96,97,98,99,100,101,102,103] ?_
        exact LWp.conv [(96,77),(97,78),(98,79),(99,80),(100,81),(101,82),(102,83),(103,84)] [] [] (by kernel_rfl) (ih _ _ _ _ _ H)
      ·replace H:=iF c2442 H
       refine AWp.exit ?_
       obtain rfl:=sj H
       exact lf [(77,104),(78,105),(79,106),(80,107),(83,108),(84,109)] [] [] (by kernel_rfl) ⟨rfl,rfl⟩
     ·obtain⟨x2511,x2512,x2513⟩:=o2530
      rintro e s ⟨rfl,rfl⟩
      refine rO hP hn hm [] [(9,.own 108),(10,.own 109)] [5,7,8,9,10,11,12,62,63,64] [] [104,105,106,107,108,109] ?_
      refine rO hP hn hm [] [(64,iV .i64 (i64.wrap (x2337+(1:Int))))] [5,7,8,9,10,11,12,62,63,64] [] [104,105,106,107,108,109] ?_
      exact LWp.conv [(104,30),(105,31),(106,32),(107,33),(108,34),(109,35)] [] [] (by kernel_rfl) (ih _ _ _ _ _ _ _ _ H)
   ·replace H:=iF c2338 H
    refine AWp.exit ?_
    obtain rfl:=sj H
    exact lf [(30,110),(31,111)] [] [] (by kernel_rfl) ⟨rfl,rfl⟩
  ·obtain⟨x2514,x2515⟩:=o2524
   rintro e s ⟨rfl,rfl⟩
   obtain⟨t2522,e2523,H⟩:=Z4 H
   refine sR hP hn hm [(1,.call [(110,0),(111,1)] [(0,110),(1,111),(2,112)] [] [112] 2 (.own 2) [(0,some (.box 49 [.own 1,iV .u64 x2515])),(1,some (.row 1 5 (x2514.map (Z1 .u8)))),(2,some (.row 1 5 (t2522.map (Z1 .u8))))])] [(2,.own 112),(3,iV .i64 0)] [2,3] [(112,some (.row 1 5 (t2522.map (Z1 .u8))))] [112] [_,_] ⟨Try.call22,Z1f.ok x2514 x2515 t2522 e2523,trivial⟩ ?_
   refine AWp.conv (inv:=[(112,0)]) (vk:=[]) (e0:=[]) (t:=⟨[(2,.own 0),(3,iV .i64 0)],[(0,some (.row 1 5 (t2522.map (Z1 .u8))))],0⟩) (by kernel_rfl) ?_
   refine AWp.ret ?_
   obtain rfl:=sj H
   exact rl (.inl rfl) rfl (by kernel_rfl) (by kernel_rfl)
def Z3c.f (a0:List Int):Option (Unit):=some ()
theorem Z3c.ok (a0:List Int) (r:Unit) (H:Z3c.f a0=some r):Pv.Fn Try.prog 23 [.im (.row (a0.map (Z1 .u8)))] [] 0 (fun x o=>x = .ptr 0 0 0∧o=[(0,some (.box 94 (Z3 ⟨a0,0,0⟩)))]):=by
 unfold Z3c.f at H
 refine Fn.bodyK [0] Try.func23 rfl rfl (fun Γ hP hn => ?_)
 have hm:Try.prog.follows .mixedOrders=true:=by kernel_rfl
 replace hn:Γ.n=6:=hn
 refine sO hP hn hm [] [] [0] [] [] ?_
 refine sO hP hn hm [(2,.k 0)] [(2,.ptr 0 0 0)] [2] [(0,some (.box 94 (Z3 ⟨a0,0,0⟩)))] [0] ?_
 refine AWp.conv (inv:=[(0,0)]) (vk:=[]) (e0:=[]) (t:=⟨[(2,.ptr 0 0 0)],[(0,some (.box 94 (Z3 ⟨a0,0,0⟩)))],0⟩) (by kernel_rfl) ?_
 refine AWp.ret ?_
 obtain rfl:=sj H
 exact rl (.inl rfl) rfl (by kernel_rfl) (by kernel_rfl)
def Zs.f (a0_c0:List Int) (a0_c1:Int) (a0_c2:Int) (a1:Int):Option (Int):=((if(a0_c2==(0:Int))=true then(some a1) else(some a0_c2)):Option (Int))>>=fun x2549=>some x2549
theorem Zs.ok (a0_c0:List Int) (a0_c1:Int) (a0_c2:Int) (a1:Int) (r:Int) (H:Zs.f a0_c0 a0_c1 a0_c2 a1=some r):Pv.Fn Try.prog 47 [.ptr 0 0 0,iV .i64 a1] [(0,some (.box 94 (Z3 ⟨a0_c0,a0_c1,a0_c2⟩)))] 1 (fun x o=>x = .tup []∧o=[(0,some (.box 94 (Z3 ⟨a0_c0,a0_c1,r⟩)))]):=by
 unfold Zs.f at H
 refine Fn.bodyK [0] Try.func47 rfl rfl (fun Γ hP hn => ?_)
 have hm:Try.prog.follows .mixedOrders=true:=by kernel_rfl
 replace hn:Γ.n=13:=hn
 refine sO hP hn hm [] [(8,bV (a0_c2==(0:Int)))] [0,1,8] [] [0] ?_
 obtain⟨o2550,e2551,H⟩:=Z4 H
 refine AWp.mono (Q:=fun e s=>(match (generalizing:=false) o2550 with | x2549=>e = .normal∧s=⟨[],[(0,some (.box 94 (Z3 ⟨a0_c0,a0_c1,x2549⟩)))],1⟩)) (AWp.cv ?_) ?_
 ·replace H:=e2551;clear e2551
  refine AWp.cond (a0_c2==(0:Int)) (by kernel_rfl) (fun c2548 => ?_) (fun c2548 => ?_)
  ·replace H:=iT c2548 H
   refine rO hP hn hm [] [] [] [(0,some (.box 94 (Z3 ⟨a0_c0,a0_c1,a1⟩)))] [0] ?_
   obtain rfl:=sj H
   exact lf [(0,0)] [] [] (by kernel_rfl) ⟨rfl,rfl⟩
  ·replace H:=iF c2548 H
   refine AWp.skip ?_
   obtain rfl:=sj H
   exact lf [(0,0)] [] [] (by kernel_rfl) ⟨rfl,rfl⟩
 ·obtain⟨x2549,rfl⟩:∃ z,z=o2550:=⟨_,rfl⟩
  rintro e s ⟨rfl,rfl⟩
  obtain rfl:=sj H
  exact Exists.intro ⟨[],[(0,some (.box 94 (Z3 ⟨a0_c0,a0_c1,x2549⟩)))],1⟩ (And.intro (fun _ _ h=>h.conv (inv:=[(0,0)]) (vk:=[]) (e0:=[]) (t:=⟨[],[(0,some (.box 94 (Z3 ⟨a0_c0,a0_c1,x2549⟩)))],1⟩) (by kernel_rfl)) (And.intro (.inr rfl) (And.intro rfl (And.intro (by kernel_rfl) (by kernel_rfl)))))
def Z0b.f (a0_c0:List Int) (a0_c1:Int) (a0_c2:Int):Option (Bool×Int×Int):=((if(a0_c2 != (0:Int))=true then(some true) else(some (decide (a0_c1≥(i64.wrap ((8:Int)*(a0_c0.length:Int))))))):Option (Bool))>>=fun x2546=>if x2546=true then((Zs.f a0_c0 a0_c1 a0_c2 7)>>=fun t2554=>some (false,a0_c1,t2554)) else((at? a0_c0 (i64.wrap (Int.tdiv a0_c1 (8:Int))))>>=fun b2560=>(chk (0≤(u64.wrap ((7:Int)-(u64.wrap (Int.tmod a0_c1 (8:Int)))))))>>=fun _=>some (((u8.wrap (((BitVec.toNat (BitVec.ofInt 8 (Int.fdiv b2560 (2 ^ (min (Int.toNat (u64.wrap ((7:Int)-(u64.wrap (Int.tmod a0_c1 (8:Int)))))) 8))) &&& BitVec.ofInt 8 (1:Int)):Nat):Int)))==(1:Int)),i64.wrap (a0_c1+(1:Int)),a0_c2))
theorem Z0b.ok (a0_c0:List Int) (a0_c1:Int) (a0_c2:Int) (r:Bool×Int×Int) (H:Z0b.f a0_c0 a0_c1 a0_c2=some r):Pv.Fn Try.prog 24 [.ptr 0 0 0] [(0,some (.box 94 (Z3 ⟨a0_c0,a0_c1,a0_c2⟩)))] 1 (fun x o=>x=bV r.1∧o=[(0,some (.box 94 (Z3 ⟨a0_c0,r.2.1,r.2.2⟩)))]):=by
 unfold Z0b.f at H
 refine Fn.bodyK [0] Try.func24 rfl rfl (fun Γ hP hn => ?_)
 have hm:Try.prog.follows .mixedOrders=true:=by kernel_rfl
 replace hn:Γ.n=53:=hn
 refine sO hP hn hm [] [] [0] [] [0] ?_
 refine AWp.seq ?_
 refine AWp.seq ?_
 obtain⟨o2564,e2565,H⟩:=Z4 H
 refine AWp.mono (Q:=fun e s=>(match (generalizing:=false) o2564 with | x2546=>e = .normal∧s=⟨[(0,.ptr 0 0 0),(21,bV x2546)],[(0,some (.box 94 (Z3 ⟨a0_c0,a0_c1,a0_c2⟩)))],1⟩)) (AWp.cv ?_) ?_
 ·replace H:=e2565;clear e2565
  rcases Bool.eq_false_or_eq_true (a0_c2 != (0:Int)) with c2545 | c2545
  ·replace H:=iT c2545 H
   refine rG hP hn hm [(5,.b true)] [(21,bV true)] [0,21] [] [0] [_] ⟨c2545,trivial⟩ ?_
   obtain rfl:=sj H
   exact lf [(0,0)] [] [] (by kernel_rfl) ⟨rfl,rfl⟩
  ·replace H:=iF c2545 H
   refine rG hP hn hm [(5,.b false),(14,.any (iV .i64 (a0_c0.length:Int)))] [(21,bV (decide (a0_c1≥(i64.wrap ((8:Int)*(a0_c0.length:Int))))))] [0,21] [] [0] [_,((a0_c0.map (Z1 .u8)).length:Int)=(a0_c0.length:Int)] ⟨c2545,by rw[Zi],trivial⟩ ?_
   obtain rfl:=sj H
   exact lf [(0,0)] [] [] (by kernel_rfl) ⟨rfl,rfl⟩
 ·obtain⟨x2546,rfl⟩:∃ z,z=o2564:=⟨_,rfl⟩
  rintro e s ⟨rfl,rfl⟩
  refine AWp.cond x2546 (by kernel_rfl) (fun c2547 => ?_) (fun c2547 => ?_)
  ·replace H:=iT c2547 H
   obtain⟨t2554,e2555,H⟩:=Z4 H
   refine sR hP hn hm [(1,.call [(0,0)] [(0,0)] [] [] 1 (.tup []) [(0,some (.box 94 (Z3 ⟨a0_c0,a0_c1,t2554⟩)))])] [] [] [(0,some (.box 94 (Z3 ⟨a0_c0,a0_c1,t2554⟩)))] [0] [_,_] ⟨Try.call47,Zs.ok a0_c0 a0_c1 a0_c2 7 t2554 e2555,trivial⟩ ?_
   refine sO hP hn hm [] [(2,bV false)] [2] [] [0] ?_
   refine AWp.conv (inv:=[(0,0)]) (vk:=[]) (e0:=[]) (t:=⟨[(2,bV false)],[(0,some (.box 94 (Z3 ⟨a0_c0,a0_c1,t2554⟩)))],1⟩) (by kernel_rfl) ?_
   refine AWp.ret ?_
   obtain rfl:=sj H
   exact rl (.inl rfl) rfl (by kernel_rfl) (by kernel_rfl)
  ·replace H:=iF c2547 H
   refine AWp.skip ?_
   obtain⟨b2560,p2561,q2562,H⟩:=Z0d H
   obtain⟨c2563,H⟩:=Z0x H
   refine sR hP hn hm [(9,.c ((Z1 .u8) b2560))] [(3,bV ((u8.wrap (((BitVec.toNat (BitVec.ofInt 8 (Int.fdiv b2560 (2 ^ (min (Int.toNat (u64.wrap ((7:Int)-(u64.wrap (Int.tmod a0_c1 (8:Int)))))) 8))) &&& BitVec.ofInt 8 (1:Int)):Nat):Int)))==(1:Int)))] [0,3] [] [0] [(8:Int)≠0,_,_,(8:Int)≠0,_] ⟨by decide,p2561,Zk (Z1 .u8) q2562,by decide,c2563,trivial⟩ ?_
   refine sO hP hn hm [] [] [3] [(0,some (.box 94 (Z3 ⟨a0_c0,(i64.wrap (a0_c1+(1:Int))),a0_c2⟩)))] [0] ?_
   refine sO hP hn hm [] [(2,bV ((u8.wrap (((BitVec.toNat (BitVec.ofInt 8 (Int.fdiv b2560 (2 ^ (min (Int.toNat (u64.wrap ((7:Int)-(u64.wrap (Int.tmod a0_c1 (8:Int)))))) 8))) &&& BitVec.ofInt 8 (1:Int)):Nat):Int)))==(1:Int)))] [2] [] [0] ?_
   refine AWp.conv (inv:=[(0,0)]) (vk:=[]) (e0:=[]) (t:=⟨[(2,bV ((u8.wrap (((BitVec.toNat (BitVec.ofInt 8 (Int.fdiv b2560 (2 ^ (min (Int.toNat (u64.wrap ((7:Int)-(u64.wrap (Int.tmod a0_c1 (8:Int)))))) 8))) &&& BitVec.ofInt 8 (1:Int)):Nat):Int)))==(1:Int)))],[(0,some (.box 94 (Z3 ⟨a0_c0,(i64.wrap (a0_c1+(1:Int))),a0_c2⟩)))],1⟩) (by kernel_rfl) ?_
   refine AWp.ret ?_
   obtain rfl:=sj H
   exact rl (.inl rfl) rfl (by kernel_rfl) (by kernel_rfl)
end Go.Proofs.Ytlclecehlekjoaa.PvGE
