import Derived.Test.YtinhldbfifpakaaGreatProg
import Derived.Test.YtinhldbfifpakaaGreatPxEntryRising06
set_option linter.unusedVariables false
set_option linter.unnecessarySimpa false
set_option linter.unusedSimpArgs false
set_option maxRecDepth 10000
namespace Go.Proofs.YtinhldbfifpakaaGreat.PvGL
open Go Go.Pv Go.IntKind
def Ze.l1 (a1:Int) (a2:Int) (x1222:Int) (x1262:List Z9) (x1263:Int):Option (List Z9):=((if(decide (x1263>a1))=true then((at? x1262 x1263)>>=fun b1274=>(at? x1262 (i64.wrap (x1263-(1:Int))))>>=fun b1277=>(Z2g.f b1274 b1277)>>=fun t1280=>some (decide (t1280<(0:Int)))) else(some false)):Option (Bool))>>=fun x1282=>if x1282=true then((at? x1262 (i64.wrap (x1263-(1:Int))))>>=fun b1293=>(at? x1262 x1263)>>=fun b1296=>(at? (x1262.set (Int.toNat (x1263)) b1293) (i64.wrap (x1263-(1:Int))))>>=fun b1299=>Ze.l1 a1 a2 x1222 ((x1262.set (Int.toNat (x1263)) b1293).set (Int.toNat (i64.wrap (x1263-(1:Int)))) b1296) (i64.wrap (x1263-(1:Int)))) else(some x1262)
partial_fixpoint
def Ze.l0 (a1:Int) (a2:Int) (x1221:List Z9) (x1222:Int):Option (List Z9):=if(decide (x1222<a2))=true then((Ze.l1 a1 a2 x1222 x1221 x1222)>>=fun x1302=>Ze.l0 a1 a2 x1302 (i64.wrap (x1222+(1:Int)))) else(some x1221)
partial_fixpoint
def Ze.f (a0:List Z9) (a1:Int) (a2:Int):Option (List Z9):=(Ze.l0 a1 a2 a0 (i64.wrap (a1+(1:Int))))>>=fun x1303=>some x1303
theorem Ze.ok (a0:List Z9) (a1:Int) (a2:Int) (r:List Z9) (H:Ze.f a0 a1 a2=some r):Pv.Fn Tryz.prog 195 [.own 0,iV .i64 a1,iV .i64 a2,.im (.sc (.func (.func 183) #[] #[]))] [(0,some (.row 2 136 (a0.map Z1)))] 1 (fun x o=>x = .tup []∧o=[(0,some (.row 2 136 (r.map Z1)))]):=by
 unfold Ze.f at H
 refine Fn.bodyK [0] Tryz.func195 rfl rfl (fun Γ hP hn => ?_)
 have hm:Tryz.prog.follows .mixedOrders=true:=by kernel_rfl
 replace hn:Γ.n=53:=hn
 refine sO hP hn hm [] [(8,iV .i64 (i64.wrap (a1+(1:Int))))] [0,1,2,3,8] [] [0] ?_
 refine AWp.block ?_
 obtain⟨o1304,e1305,H⟩:=Z4 H
 refine AWp.loop (LWp.conv (inv:=[(0,0)]) (vk:=[]) (e0:=[]) (t:=⟨[(0,.own 0),(1,iV .i64 a1),(2,iV .i64 a2),(3,.im (.sc (.func (.func 183) #[] #[]))),(8,iV .i64 (i64.wrap (a1+(1:Int))))],[(0,some (.row 2 136 (a0.map Z1)))],1⟩) (by kernel_rfl) ?_)
 refine LWp.mono (Q:=fun e s=>(match (generalizing:=false) o1304 with | x1303=>e = .exit 0∧s=⟨[],[(0,some (.row 2 136 (x1303.map Z1)))],1⟩)) (LWp.cv (Zs (fun body hbody => ?_))) ?_
 ·refine                                                   Ze.l0.partial_correctness a1 a2 (motive:=fun x1221 x1222 o1304=>LWp Γ body (fun e s=>∃ t,Cv Γ s t∧(match (generalizing:=false) o1304 with | x1303=>e = .exit 0∧t=⟨[],[(0,some (.row 2 136 (x1303.map Z1     )))],1⟩)) ⟨[(0,.own 0),(1,iV .i64 a1),(2,iV .i64 a2),(3,.im (.sc (.func (.func 183) #[] #[]))),(8,iV .i64 x1222)],[(0,some (.row 2 136 (x1221.map Z1     )))],1⟩) ?_ _ _ _ e1305
  clear H e1305 o1304;intro self ih x1221 x1222 o1304 H
  subst hbody
  refine LWp.round ?_
  refine AWp.seq ?_
  refine sO hP hn hm [] [(14,bV (decide (x1222<a2)))] [0,1,2,3,8,14] [] [0] ?_
  refine AWp.cond (decide (x1222<a2)) (by kernel_rfl) (fun c1223 => ?_) (fun c1223 => ?_)
  ·replace H:=iT c1223 H
   refine AWp.skip ?_
   refine AWp.seq ?_
   refine AWp.block ?_
   refine sO hP hn hm [] [(9,iV .i64 x1222)] [0,1,2,3,8,9] [] [0] ?_
   refine AWp.block ?_
   obtain⟨o1306,e1307,H⟩:=Z4 H
   refine AWp.loop (LWp.conv (inv:=[(0,0)]) (vk:=[]) (e0:=[]) (t:=⟨[(0,.own 0),(1,iV .i64 a1),(2,iV .i64 a2),(3,.im (.sc (.func (.func 183) #[] #[]))),(8,iV .i64 x1222),(9,iV .i64 x1222)],[(0,some (.row 2 136 (x1221.map Z1)))],1⟩) (by kernel_rfl) ?_)
   refine LWp.mono (Q:=fun e s=>(match (generalizing:=false) o1306 with | x1302=>e = .exit 2∧s=⟨[(0,.own 0),(1,iV .i64 a1),(2,iV .i64 a2),(3,.im (.sc (.func (.func 183) #[] #[]))),(8,iV .i64 x1222)],[(0,some (.row 2 136 (x1302.map Z1)))],1⟩)) (LWp.cv (Zs (fun body hbody => ?_))) ?_
   ·refine                                                   Ze.l1.partial_correctness a1 a2 x1222 (motive:=fun x1262 x1263 o1306=>LWp Γ body (fun e s=>∃ t,Cv Γ s t∧(match (generalizing:=false) o1306 with | x1302=>e = .exit 2∧t=⟨[(0,.own 0),(1,iV .i64 a1),(2,iV .i64 a2),(3,.im (.sc (.func (.func 183) #[] #[]))),(8,iV .i64 x1222)],[(0,some (.row 2 136 (x1302.map Z1     )))],1⟩)) ⟨[(0,.own 0),(1,iV .i64 a1),(2,iV .i64 a2),(3,.im (.sc (.func (.func 183) #[] #[]))),(8,iV .i64 x1222),(9,iV .i64 x1263)],[(0,some (.row 2 136 (x1262.map Z1     )))],1⟩) ?_ _ _ _ e1307
    clear H e1307 o1306;intro self ih x1262 x1263 o1306 H
    subst hbody
    refine LWp.round ?_
    refine AWp.seq ?_
    refine AWp.seq ?_
    obtain⟨o1308,e1309,H⟩:=Z4 H
    refine AWp.mono (Q:=fun e s=>(match (generalizing:=false) o1308 with | x1282=>e = .normal∧s=⟨[(0,.own 0),(1,iV .i64 a1),(2,iV .i64 a2),(3,.im (.sc (.func (.func 183) #[] #[]))),(8,iV .i64 x1222),(9,iV .i64 x1263),(34,bV x1282)],[(0,some (.row 2 136 (x1262.map Z1)))],1⟩)) (AWp.cv ?_) ?_
    ·replace H:=e1309;clear e1309
     rcases Bool.eq_false_or_eq_true (decide (x1263>a1)) with c1273 | c1273
     ·replace H:=iT c1273 H
      obtain⟨b1274,p1275,q1276,H⟩:=Z02 H
      obtain⟨b1277,p1278,q1279,H⟩:=Z02 H
      obtain⟨t1280,e1281,H⟩:=Z4 H
      refine rG hP hn hm [(3,.b true),(8,.c (Z1 b1274)),(13,.c (Z1 b1277)),(14,.call [] [] [] [] 0 (iV .i64 t1280) [])] [(22,.im (.sc (.func (.func 183) #[] #[]))),(23,.own 0),(24,iV .i64 x1263),(25,.ptr 0 (Int.toNat (x1263)) 0),(26,.agg (Z2m b1274)),(27,.own 0),(28,iV .i64 x1263),(29,iV .i64 (i64.wrap (x1263-(1:Int)))),(30,.ptr 0 (Int.toNat (i64.wrap (x1263-(1:Int)))) 0),(31,.agg (Z2m b1277)),(32,iV .i64 t1280),(33,bV (decide (t1280<(0:Int)))),(34,bV (decide (t1280<(0:Int))))] [0,1,2,3,8,9,22,23,24,25,26,27,28,29,30,31,32,33,34] [] [0] [_,_,_,_,_,_,_,_,_] ⟨c1273,p1275,Z09 Z1 p1275 q1276,Zi Z1 q1276,p1278,Z09 Z1 p1278 q1279,Zi Z1 q1279,Tryz.call183,Z2g.ok b1274 b1277 t1280 e1281,trivial⟩ ?_
      obtain rfl:=sj H
      exact lf [(0,0)] [] [] (by kernel_rfl) ⟨rfl,rfl⟩
     ·replace H:=iF c1273 H
      refine rG hP hn hm [(3,.b false)] [(34,bV false)] [0,1,2,3,8,9,34] [] [0] [_] ⟨c1273,trivial⟩ ?_
      obtain rfl:=sj H
      exact lf [(0,0)] [] [] (by kernel_rfl) ⟨rfl,rfl⟩
    ·obtain⟨x1282,rfl⟩:∃ z,z=o1308:=⟨_,rfl⟩
     rintro e s ⟨rfl,rfl⟩
     refine AWp.cond x1282 (by kernel_rfl) (fun c1283 => ?_) (fun c1283 => ?_)
     ·replace H:=iT c1283 H
      refine AWp.skip ?_
      refine AWp.seq ?_
      refine AWp.block ?_
      obtain⟨b1293,p1294,q1295,H⟩:=Z02 H
      obtain⟨b1296,p1297,q1298,H⟩:=Z02 H
      obtain⟨b1299,p1300,q1301,H⟩:=Z02 H
      refine rG hP hn hm [(9,.c (Z1 b1293)),(13,.c (Z1 b1296)),(15,.put (Z1 b1296) ((x1262.set (Int.toNat (x1263)) b1293).map Z1)),(17,.put (Z1 b1299) (((x1262.set (Int.toNat (x1263)) b1293).set (Int.toNat (i64.wrap (x1263-(1:Int)))) b1296).map Z1))] [] [0,1,2,3,8,9] [(0,some (.row 2 136 (((x1262.set (Int.toNat (x1263)) b1293).set (Int.toNat (i64.wrap (x1263-(1:Int)))) b1296).map Z1)))] [0] [_,_,_,_,_,_,_,_,_,(x1262.set (Int.toNat (x1263)) b1293).map Z1=(x1262.map Z1).set (Int.toNat (x1263)) (Z0t (Z1 b1296) 0 [iI .i64 b1293.f0,iI .u64 b1293.f1]),_,_,_,((x1262.set (Int.toNat (x1263)) b1293).set (Int.toNat (i64.wrap (x1263-(1:Int)))) b1296).map Z1=((x1262.set (Int.toNat (x1263)) b1293).map Z1).set (Int.toNat (i64.wrap (x1263-(1:Int)))) (Z0t (Z1 b1299) 0 [iI .i64 b1296.f0,iI .u64 b1296.f1])] ⟨p1294,Z09 Z1 p1294 q1295,Zi Z1 q1295,p1297,Z09 Z1 p1297 q1298,Zi Z1 q1298,p1297,Z09 Z1 p1297 q1298,Zi Z1 q1298,by exact set1 _ _ _ _,p1300,Z09 Z1 p1300 q1301,Zi Z1 q1301,by exact set1 _ _ _ _,trivial⟩ ?_
      refine rO hP hn hm [] [(9,iV .i64 (i64.wrap (x1263-(1:Int))))] [0,1,2,3,8,9] [] [0] ?_
      exact LWp.conv [(0,0)] [] [] (by kernel_rfl) (ih _ _ _ H)
     ·replace H:=iF c1283 H
      refine AWp.exit ?_
      obtain rfl:=sj H
      exact lf [(0,0)] [] [] (by kernel_rfl) ⟨rfl,rfl⟩
   ·obtain⟨x1302,rfl⟩:∃ z,z=o1306:=⟨_,rfl⟩
    rintro e s ⟨rfl,rfl⟩
    refine rO hP hn hm [] [(8,iV .i64 (i64.wrap (x1222+(1:Int))))] [0,1,2,3,8] [] [0] ?_
    exact LWp.conv [(0,0)] [] [] (by kernel_rfl) (ih _ _ _ H)
  ·replace H:=iF c1223 H
   refine AWp.exit ?_
   obtain rfl:=sj H
   exact lf [(0,0)] [] [] (by kernel_rfl) ⟨rfl,rfl⟩
 ·obtain⟨x1303,rfl⟩:∃ z,z=o1304:=⟨_,rfl⟩
  rintro e s ⟨rfl,rfl⟩
  obtain rfl:=sj H
  exact Exists.intro ⟨[],[(0,some (.row 2 136 (x1303.map Z1)))],1⟩ (And.intro (fun _ _ h=>h.conv (inv:=[(0,0)]) (vk:=[]) (e0:=[]) (t:=⟨[],[(0,some (.row 2 136 (x1303.map Z1)))],1⟩) (by kernel_rfl)) (And.intro (.inr rfl) (And.intro rfl (And.intro (by kernel_rfl) (by kernel_rfl)))))
def Zl.l0 (a1:Int) (a2:Int) (a3:Int) (x1571:List Z9) (x1572:Int):Option (List Z9):=if(decide (x1572<a3))=true then((at? x1571 (i64.wrap (a2+x1572)))>>=fun b1583=>(at? x1571 (i64.wrap (a1+x1572)))>>=fun b1586=>(at? (x1571.set (Int.toNat (i64.wrap (a1+x1572))) b1583) (i64.wrap (a2+x1572)))>>=fun b1589=>Zl.l0 a1 a2 a3 ((x1571.set (Int.toNat (i64.wrap (a1+x1572))) b1583).set (Int.toNat (i64.wrap (a2+x1572))) b1586) (i64.wrap (x1572+(1:Int)))) else(some x1571)
partial_fixpoint
def Zl.f (a0:List Z9) (a1:Int) (a2:Int) (a3:Int):Option (List Z9):=(Zl.l0 a1 a2 a3 a0 0)>>=fun x1592=>some x1592
theorem Zl.ok (a0:List Z9) (a1:Int) (a2:Int) (a3:Int) (r:List Z9) (H:Zl.f a0 a1 a2 a3=some r):Pv.Fn Tryz.prog 203 [.own 0,iV .i64 a1,iV .i64 a2,iV .i64 a3,.im (.sc (.func (.func 183) #[] #[]))] [(0,some (.row 2 136 (a0.map Z1)))] 1 (fun x o=>x = .tup []∧o=[(0,some (.row 2 136 (r.map Z1)))]):=by
 unfold Zl.f at H
 refine Fn.bodyK [0] Tryz.func203 rfl rfl (fun Γ hP hn => ?_)
 have hm:Tryz.prog.follows .mixedOrders=true:=by kernel_rfl
 replace hn:Γ.n=38:=hn
 refine sO hP hn hm [] [(10,iV .i64 0)] [0,1,2,3,10] [] [0] ?_
 refine AWp.block ?_
 obtain⟨o1593,e1594,H⟩:=Z4 H
 refine AWp.loop (LWp.conv (inv:=[(0,0)]) (vk:=[]) (e0:=[]) (t:=⟨[(0,.own 0),(1,iV .i64 a1),(2,iV .i64 a2),(3,iV .i64 a3),(10,iV .i64 0)],[(0,some (.row 2 136 (a0.map Z1)))],1⟩) (by kernel_rfl) ?_)
 refine LWp.mono (Q:=fun e s=>(match (generalizing:=false) o1593 with | x1592=>e = .exit 0∧s=⟨[],[(0,some (.row 2 136 (x1592.map Z1)))],1⟩)) (LWp.cv (Zs (fun body hbody => ?_))) ?_
 ·refine                                               Zl.l0.partial_correctness a1 a2 a3 (motive:=fun x1571 x1572 o1593=>LWp Γ body (fun e s=>∃ t,Cv Γ s t∧(match (generalizing:=false) o1593 with | x1592=>e = .exit 0∧t=⟨[],[(0,some (.row 2 136 (x1592.map Z1     )))],1⟩)) ⟨[(0,.own 0),(1,iV .i64 a1),(2,iV .i64 a2),(3,iV .i64 a3),(10,iV .i64 x1572)],[(0,some (.row 2 136 (x1571.map Z1     )))],1⟩) ?_ _ _ _ e1594
  clear H e1594 o1593;intro self ih x1571 x1572 o1593 H
  subst hbody
  refine LWp.round ?_
  refine AWp.seq ?_
  refine sO hP hn hm [] [(13,bV (decide (x1572<a3)))] [0,1,2,3,10,13] [] [0] ?_
  refine AWp.cond (decide (x1572<a3)) (by kernel_rfl) (fun c1573 => ?_) (fun c1573 => ?_)
  ·replace H:=iT c1573 H
   refine AWp.skip ?_
   refine AWp.seq ?_
   refine AWp.block ?_
   obtain⟨b1583,p1584,q1585,H⟩:=Z02 H
   obtain⟨b1586,p1587,q1588,H⟩:=Z02 H
   obtain⟨b1589,p1590,q1591,H⟩:=Z02 H
   refine rG hP hn hm [(13,.c (Z1 b1583)),(19,.c (Z1 b1586)),(21,.put (Z1 b1586) ((x1571.set (Int.toNat (i64.wrap (a1+x1572))) b1583).map Z1)),(23,.put (Z1 b1589) (((x1571.set (Int.toNat (i64.wrap (a1+x1572))) b1583).set (Int.toNat (i64.wrap (a2+x1572))) b1586).map Z1))] [] [0,1,2,3,10] [(0,some (.row 2 136 (((x1571.set (Int.toNat (i64.wrap (a1+x1572))) b1583).set (Int.toNat (i64.wrap (a2+x1572))) b1586).map Z1)))] [0] [_,_,_,_,_,_,_,_,_,(x1571.set (Int.toNat (i64.wrap (a1+x1572))) b1583).map Z1=(x1571.map Z1).set (Int.toNat (i64.wrap (a1+x1572))) (Z0t (Z1 b1586) 0 [iI .i64 b1583.f0,iI .u64 b1583.f1]),_,_,_,((x1571.set (Int.toNat (i64.wrap (a1+x1572))) b1583).set (Int.toNat (i64.wrap (a2+x1572))) b1586).map Z1=((x1571.set (Int.toNat (i64.wrap (a1+x1572))) b1583).map Z1).set (Int.toNat (i64.wrap (a2+x1572))) (Z0t (Z1 b1589) 0 [iI .i64 b1586.f0,iI .u64 b1586.f1])] ⟨p1584,Z09 Z1 p1584 q1585,Zi Z1 q1585,p1587,Z09 Z1 p1587 q1588,Zi Z1 q1588,p1587,Z09 Z1 p1587 q1588,Zi Z1 q1588,by exact set1 _ _ _ _,p1590,Z09 Z1 p1590 q1591,Zi Z1 q1591,by exact set1 _ _ _ _,trivial⟩ ?_
   refine rO hP hn hm [] [(10,iV .i64 (i64.wrap (x1572+(1:Int))))] [0,1,2,3,10] [] [0] ?_
   exact LWp.conv [(0,0)] [] [] (by kernel_rfl) (ih _ _ _ H)
  ·replace H:=iF c1573 H
   refine AWp.exit ?_
   obtain rfl:=sj H
   exact lf [(0,0)] [] [] (by kernel_rfl) ⟨rfl,rfl⟩
 ·obtain⟨x1592,rfl⟩:∃ z,z=o1593:=⟨_,rfl⟩
  rintro e s ⟨rfl,rfl⟩
  obtain rfl:=sj H
  exact Exists.intro ⟨[],[(0,some (.row 2 136 (x1592.map Z1)))],1⟩ (And.intro (fun _ _ h=>h.conv (inv:=[(0,0)]) (vk:=[]) (e0:=[]) (t:=⟨[],[(0,some (.row 2 136 (x1592.map Z1)))],1⟩) (by kernel_rfl)) (And.intro (.inr rfl) (And.intro rfl (And.intro (by kernel_rfl) (by kernel_rfl)))))
def Zy.l0 (a2:Int) (x1606:List Z9) (x1607:Int) (x1608:Int):Option ((List Z9)×Int):=if(x1607 != x1608)=true then(((if(decide (x1607>x1608))=true then((Zl.f x1606 (i64.wrap (a2-x1607)) a2 x1608)>>=fun t1613=>some (t1613,i64.wrap (x1607-x1608),x1608)) else((Zl.f x1606 (i64.wrap (a2-x1607)) (i64.wrap ((i64.wrap (a2+x1608))-x1607)) x1607)>>=fun t1617=>some (t1617,x1607,i64.wrap (x1608-x1607)))):Option ((List Z9)×Int×Int))>>=fun oo=>match oo with | (x1619,x1620,x1621)=>(Zy.l0 a2 x1619 x1620 x1621)) else(some (x1606,x1607))
partial_fixpoint
def Zy.f (a0:List Z9) (a1:Int) (a2:Int) (a3:Int):Option (List Z9):=(Zy.l0 a2 a0 (i64.wrap (a2-a1)) (i64.wrap (a3-a2)))>>=fun oo=>match oo with | (x1622,x1623)=>((Zl.f x1622 (i64.wrap (a2-x1623)) a2 x1623)>>=fun t1626=>some t1626)
theorem Zy.ok (a0:List Z9) (a1:Int) (a2:Int) (a3:Int) (r:List Z9) (H:Zy.f a0 a1 a2 a3=some r):Pv.Fn Tryz.prog 201 [.own 0,iV .i64 a1,iV .i64 a2,iV .i64 a3,.im (.sc (.func (.func 183) #[] #[]))] [(0,some (.row 2 136 (a0.map Z1)))] 1 (fun x o=>x = .tup []∧o=[(0,some (.row 2 136 (r.map Z1)))]):=by
 unfold Zy.f at H
 refine Fn.bodyK [0] Tryz.func201 rfl rfl (fun Γ hP hn => ?_)
 have hm:Tryz.prog.follows .mixedOrders=true:=by kernel_rfl
 replace hn:Γ.n=58:=hn
 refine sO hP hn hm [] [(10,iV .i64 (i64.wrap (a2-a1)))] [0,2,3,4,10] [] [0] ?_
 refine sO hP hn hm [] [(11,iV .i64 (i64.wrap (a3-a2)))] [0,2,4,10,11] [] [0] ?_
 refine AWp.seq ?_
 refine AWp.block ?_
 obtain⟨o1628,e1629,H⟩:=Z4 H
 refine AWp.loop (LWp.conv (inv:=[(0,0)]) (vk:=[]) (e0:=[]) (t:=⟨[(0,.own 0),(2,iV .i64 a2),(4,.im (.sc (.func (.func 183) #[] #[]))),(10,iV .i64 (i64.wrap (a2-a1))),(11,iV .i64 (i64.wrap (a3-a2)))],[(0,some (.row 2 136 (a0.map Z1)))],1⟩) (by kernel_rfl) ?_)
 refine LWp.mono (Q:=fun e s=>(match (generalizing:=false) o1628 with | (x1622,x1623)=>e = .exit 0∧s=⟨[(0,.own 0),(2,iV .i64 a2),(4,.im (.sc (.func (.func 183) #[] #[]))),(10,iV .i64 x1623)],[(0,some (.row 2 136 (x1622.map Z1)))],1⟩)) (LWp.cv (Zs (fun body hbody => ?_))) ?_
 ·refine                                            Zy.l0.partial_correctness a2 (motive:=fun x1606 x1607 x1608 o1628=>LWp Γ body (fun e s=>∃ t,Cv Γ s t∧(match (generalizing:=false) o1628 with | (x1622,x1623)=>e = .exit 0∧t=⟨[(0,.own 0),(2,iV .i64 a2),(4,.im (.sc (.func (.func 183) #[] #[]))),(10,iV .i64 x1623)],[(0,some (.row 2 136 (x1622.map Z1     )))],1⟩)) ⟨[(0,.own 0),(2,iV .i64 a2),(4,.im (.sc (.func (.func 183) #[] #[]))),(10,iV .i64 x1607),(11,iV .i64 x1608)],[(0,some (.row 2 136 (x1606.map Z1     )))],1⟩) ?_ _ _ _ _ e1629
  clear H e1629 o1628;intro self ih x1606 x1607 x1608 o1628 H
  subst hbody
  refine LWp.round ?_
  refine AWp.seq ?_
  refine sO hP hn hm [] [(20,bV (x1607 != x1608))] [0,2,4,10,11,20] [] [0] ?_
  refine AWp.cond (x1607 != x1608) (by kernel_rfl) (fun c1609 => ?_) (fun c1609 => ?_)
  ·replace H:=iT c1609 H
   refine AWp.skip ?_
   refine AWp.block ?_
   refine sO hP hn hm [] [(23,bV (decide (x1607>x1608)))] [0,2,4,10,11,23] [] [0] ?_
   obtain⟨o1630,e1631,H⟩:=Z4 H
   refine AWp.mono (Q:=fun e s=>(match (generalizing:=false) o1630 with | (x1619,x1620,x1621)=>e = .normal∧s=⟨[(0,.own 0),(2,iV .i64 a2),(4,.im (.sc (.func (.func 183) #[] #[]))),(10,iV .i64 x1620),(11,iV .i64 x1621)],[(0,some (.row 2 136 (x1619.map Z1)))],1⟩)) (AWp.cv ?_) ?_
   ·replace H:=e1631;clear e1631
    refine AWp.cond (decide (x1607>x1608)) (by kernel_rfl) (fun c1610 => ?_) (fun c1610 => ?_)
    ·replace H:=iT c1610 H
     obtain⟨t1613,e1614,H⟩:=Z4 H
     refine sR hP hn hm [(7,.call [(0,0)] [(0,0)] [] [] 1 (.tup []) [(0,some (.row 2 136 (t1613.map Z1)))])] [] [0,2,4,10,11] [(0,some (.row 2 136 (t1613.map Z1)))] [0] [_,_] ⟨Tryz.call203,Zl.ok x1606 (i64.wrap (a2-x1607)) a2 x1608 t1613 e1614,trivial⟩ ?_
     refine rO hP hn hm [] [(10,iV .i64 (i64.wrap (x1607-x1608)))] [0,2,4,10,11] [] [0] ?_
     obtain rfl:=sj H
     exact lf [(0,0)] [] [] (by kernel_rfl) ⟨rfl,rfl⟩
    ·replace H:=iF c1610 H
     obtain⟨t1617,e1618,H⟩:=Z4 H
     refine sR hP hn hm [(11,.call [(0,0)] [(0,0)] [] [] 1 (.tup []) [(0,some (.row 2 136 (t1617.map Z1)))])] [] [0,2,4,10,11] [(0,some (.row 2 136 (t1617.map Z1)))] [0] [_,_] ⟨Tryz.call203,Zl.ok x1606 (i64.wrap (a2-x1607)) (i64.wrap ((i64.wrap (a2+x1608))-x1607)) x1607 t1617 e1618,trivial⟩ ?_
     refine rO hP hn hm [] [(11,iV .i64 (i64.wrap (x1608-x1607)))] [0,2,4,10,11] [] [0] ?_
     obtain rfl:=sj H
     exact lf [(0,0)] [] [] (by kernel_rfl) ⟨rfl,rfl⟩
   ·obtain⟨x1619,x1620,x1621⟩:=o1630
    rintro e s ⟨rfl,rfl⟩
    exact LWp.conv [(0,0)] [] [] (by kernel_rfl) (ih _ _ _ _ H)
  ·replace H:=iF c1609 H
   refine AWp.exit ?_
   obtain rfl:=sj H
   exact lf [(0,0)] [] [] (by kernel_rfl) ⟨rfl,rfl⟩
 ·obtain⟨x1622,x1623⟩:=o1628
  rintro e s ⟨rfl,rfl⟩
  obtain⟨t1626,e1627,H⟩:=Z4 H
  refine rG hP hn hm [(7,.call [(0,0)] [(0,0)] [] [] 1 (.tup []) [(0,some (.row 2 136 (t1626.map Z1)))])] [] [] [(0,some (.row 2 136 (t1626.map Z1)))] [0] [_,_] ⟨Tryz.call203,Zl.ok x1622 (i64.wrap (a2-x1623)) a2 x1623 t1626 e1627,trivial⟩ ?_
  obtain rfl:=sj H
  exact Exists.intro ⟨[],[(0,some (.row 2 136 (t1626.map Z1)))],1⟩ (And.intro (fun _ _ h=>h.conv (inv:=[(0,0)]) (vk:=[]) (e0:=[]) (t:=⟨[],[(0,some (.row 2 136 (t1626.map Z1)))],1⟩) (by kernel_rfl)) (And.intro (.inr rfl) (And.intro rfl (And.intro (by kernel_rfl) (by kernel_rfl)))))
def Z7.l0 (a0:List Z9) (a1:Int) (x1351:Int) (x1352:Int):Option (Int):=if(decide (x1351<x1352))=true then((at? a0 (i64.wrap (Int.fdiv (u64.wrap (i64.wrap (x1351+x1352))) 2)))>>=fun b1362=>(at? a0 a1)>>=fun b1365=>(Z2g.f b1362 b1365)>>=fun t1368=>((if(decide (t1368<(0:Int)))=true then(some (i64.wrap ((i64.wrap (Int.fdiv (u64.wrap (i64.wrap (x1351+x1352))) 2))+(1:Int)),x1352)) else(some (x1351,i64.wrap (Int.fdiv (u64.wrap (i64.wrap (x1351+x1352))) 2)))):Option (Int×Int))>>=fun oo=>match oo with | (x1371,x1372)=>(Z7.l0 a0 a1 x1371 x1372)) else(some x1351)
partial_fixpoint
def Z7.l1 (x1373:Int) (x1393:List Z9) (x1394:Int):Option (List Z9):=if(decide (x1394<(i64.wrap (x1373-(1:Int)))))=true then((at? x1393 (i64.wrap (x1394+(1:Int))))>>=fun b1405=>(at? x1393 x1394)>>=fun b1408=>(at? (x1393.set (Int.toNat (x1394)) b1405) (i64.wrap (x1394+(1:Int))))>>=fun b1411=>Z7.l1 x1373 ((x1393.set (Int.toNat (x1394)) b1405).set (Int.toNat (i64.wrap (x1394+(1:Int)))) b1408) (i64.wrap (x1394+(1:Int)))) else(some x1393)
partial_fixpoint
def Z7.l2 (a0:List Z9) (a2:Int) (x1436:Int) (x1437:Int):Option (Int):=if(decide (x1436<x1437))=true then((at? a0 a2)>>=fun b1447=>(at? a0 (i64.wrap (Int.fdiv (u64.wrap (i64.wrap (x1436+x1437))) 2)))>>=fun b1450=>(Z2g.f b1447 b1450)>>=fun t1453=>((if(!(decide (t1453<(0:Int))))=true then(some (i64.wrap ((i64.wrap (Int.fdiv (u64.wrap (i64.wrap (x1436+x1437))) 2))+(1:Int)),x1437)) else(some (x1436,i64.wrap (Int.fdiv (u64.wrap (i64.wrap (x1436+x1437))) 2)))):Option (Int×Int))>>=fun oo=>match oo with | (x1456,x1457)=>(Z7.l2 a0 a2 x1456 x1457)) else(some x1436)
partial_fixpoint
def Z7.l3 (x1458:Int) (x1478:List Z9) (x1479:Int):Option (List Z9):=if(decide (x1479>x1458))=true then((at? x1478 (i64.wrap (x1479-(1:Int))))>>=fun b1490=>(at? x1478 x1479)>>=fun b1493=>(at? (x1478.set (Int.toNat (x1479)) b1490) (i64.wrap (x1479-(1:Int))))>>=fun b1496=>Z7.l3 x1458 ((x1478.set (Int.toNat (x1479)) b1490).set (Int.toNat (i64.wrap (x1479-(1:Int)))) b1493) (i64.wrap (x1479-(1:Int)))) else(some x1478)
partial_fixpoint
def Z7.l4 (a0:List Z9) (a1:Int) (a2:Int) (a3:Int) (x1523:Int) (x1524:Int):Option (Int):=if(decide (x1523<x1524))=true then((at? a0 (i64.wrap ((i64.wrap ((i64.wrap ((i64.wrap (Int.fdiv (u64.wrap (i64.wrap (a1+a3))) 2))+a2))-(1:Int)))-(i64.wrap (Int.fdiv (u64.wrap (i64.wrap (x1523+x1524))) 2)))))>>=fun b1534=>(at? a0 (i64.wrap (Int.fdiv (u64.wrap (i64.wrap (x1523+x1524))) 2)))>>=fun b1537=>(Z2g.f b1534 b1537)>>=fun t1540=>((if(!(decide (t1540<(0:Int))))=true then(some (i64.wrap ((i64.wrap (Int.fdiv (u64.wrap (i64.wrap (x1523+x1524))) 2))+(1:Int)),x1524)) else(some (x1523,i64.wrap (Int.fdiv (u64.wrap (i64.wrap (x1523+x1524))) 2)))):Option (Int×Int))>>=fun oo=>match oo with | (x1543,x1544)=>(Z7.l4 a0 a1 a2 a3 x1543 x1544)) else(some x1523)
partial_fixpoint
def Z7.f (a0:List Z9) (a1:Int) (a2:Int) (a3:Int):Option (List Z9):=if((i64.wrap (a2-a1))==(1:Int))=true then((Z7.l0 a0 a1 a2 a3)>>=fun x1373=>(Z7.l1 x1373 a0 a1)>>=fun x1414=>some x1414) else(if((i64.wrap (a3-a2))==(1:Int))=true then((Z7.l2 a0 a2 a1 a2)>>=fun x1458=>(Z7.l3 x1458 a0 a2)>>=fun x1499=>some x1499) else(((if(decide (a2>(i64.wrap (Int.fdiv (u64.wrap (i64.wrap (a1+a3))) 2))))=true then(some (i64.wrap ((i64.wrap ((i64.wrap (Int.fdiv (u64.wrap (i64.wrap (a1+a3))) 2))+a2))-a3),i64.wrap (Int.fdiv (u64.wrap (i64.wrap (a1+a3))) 2))) else(some (a1,a2))):Option (Int×Int))>>=fun oo=>match oo with | (x1501,x1502)=>((Z7.l4 a0 a1 a2 a3 x1501 x1502)>>=fun x1545=>((if(decide (x1545<a2))=true then(some (decide (a2<(i64.wrap ((i64.wrap ((i64.wrap (Int.fdiv (u64.wrap (i64.wrap (a1+a3))) 2))+a2))-x1545))))) else(some false)):Option (Bool))>>=fun x1548=>((if x1548=true then((Zy.f a0 x1545 a2 (i64.wrap ((i64.wrap ((i64.wrap (Int.fdiv (u64.wrap (i64.wrap (a1+a3))) 2))+a2))-x1545)))>>=fun t1634=>some t1634) else(some a0)):Option (List Z9))>>=fun x1636=>((if(decide (a1<x1545))=true then(some (decide (x1545<(i64.wrap (Int.fdiv (u64.wrap (i64.wrap (a1+a3))) 2))))) else(some false)):Option (Bool))>>=fun x1639=>((if x1639=true then((Z7.f x1636 a1 x1545 (i64.wrap (Int.fdiv (u64.wrap (i64.wrap (a1+a3))) 2)))>>=fun t1643=>some t1643) else(some x1636)):Option (List Z9))>>=fun x1645=>((if(decide ((i64.wrap (Int.fdiv (u64.wrap (i64.wrap (a1+a3))) 2))<(i64.wrap ((i64.wrap ((i64.wrap (Int.fdiv (u64.wrap (i64.wrap (a1+a3))) 2))+a2))-x1545))))=true then(some (decide ((i64.wrap ((i64.wrap ((i64.wrap (Int.fdiv (u64.wrap (i64.wrap (a1+a3))) 2))+a2))-x1545))<a3))) else(some false)):Option (Bool))>>=fun x1648=>((if x1648=true then((Z7.f x1645 (i64.wrap (Int.fdiv (u64.wrap (i64.wrap (a1+a3))) 2)) (i64.wrap ((i64.wrap ((i64.wrap (Int.fdiv (u64.wrap (i64.wrap (a1+a3))) 2))+a2))-x1545)) a3)>>=fun t1652=>some t1652) else(some x1645)):Option (List Z9))>>=fun x1654=>some x1654)))
partial_fixpoint
theorem Z7.ok (a0:List Z9) (a1:Int) (a2:Int) (a3:Int) (r:List Z9) (H:Z7.f a0 a1 a2 a3=some r):Pv.Fn Tryz.prog 196 [.own 0,iV .i64 a1,iV .i64 a2,iV .i64 a3,.im (.sc (.func (.func 183) #[] #[]))] [(0,some (.row 2 136 (a0.map Z1)))] 1 (fun x o=>x = .tup []∧o=[(0,some (.row 2 136 (r.map Z1)))]):=by
 refine Z7.f.partial_correctness (motive:=fun a0 a1 a2 a3 r=>Pv.Fn Tryz.prog 196 [.own 0,iV .i64 a1,iV .i64 a2,iV .i64 a3,.im (.sc (.func (.func 183) #[] #[]))] [(0,some (.row 2 136 (a0.map Z1)))] 1 (fun x o=>x = .tup []∧o=[(0,some (.row 2 136 (r.map Z1)))])) ?_ a0 a1 a2 a3 r H
 clear H a0 a1 a2 a3 r;intro self ihF a0 a1 a2 a3 r H
 refine Fn.bodyK [0] Tryz.func196 rfl rfl (fun Γ hP hn => ?_)
 have hm:Tryz.prog.follows .mixedOrders=true:=by kernel_rfl
 replace hn:Γ.n=220:=hn
 refine AWp.seq ?_
 refine sO hP hn hm [] [(28,bV ((i64.wrap (a2-a1))==(1:Int)))] [0,1,2,3,4,28] [] [0] ?_
 refine AWp.cond ((i64.wrap (a2-a1))==(1:Int)) (by kernel_rfl) (fun c1330 => ?_) (fun c1330 => ?_)
 ·replace H:=iT c1330 H
  refine sO hP hn hm [] [(10,iV .i64 a2)] [0,1,3,4,10] [] [0] ?_
  refine sO hP hn hm [] [(11,iV .i64 a3)] [0,1,4,10,11] [] [0] ?_
  refine AWp.seq ?_
  refine AWp.block ?_
  obtain⟨o1655,e1656,H⟩:=Z4 H
  refine AWp.loop (LWp.conv (inv:=[(0,0)]) (vk:=[]) (e0:=[]) (t:=⟨[(0,.own 0),(1,iV .i64 a1),(4,.im (.sc (.func (.func 183) #[] #[]))),(10,iV .i64 a2),(11,iV .i64 a3)],[(0,some (.row 2 136 (a0.map Z1)))],1⟩) (by kernel_rfl) ?_)
  refine LWp.mono (Q:=fun e s=>(match (generalizing:=false) o1655 with | x1373=>e = .exit 0∧s=⟨[(0,.own 0),(1,iV .i64 a1),(10,iV .i64 x1373)],[(0,some (.row 2 136 (a0.map Z1)))],1⟩)) (LWp.cv (Zs (fun body hbody => ?_))) ?_
  ·refine                                              Z7.l0.partial_correctness a0 a1 (motive:=fun x1351 x1352 o1655=>LWp Γ body (fun e s=>∃ t,Cv Γ s t∧(match (generalizing:=false) o1655 with | x1373=>e = .exit 0∧t=⟨[(0,.own 0),(1,iV .i64 a1),(10,iV .i64 x1373)],[(0,some (.row 2 136 (a0.map Z1     )))],1⟩)) ⟨[(0,.own 0),(1,iV .i64 a1),(4,.im (.sc (.func (.func 183) #[] #[]))),(10,iV .i64 x1351),(11,iV .i64 x1352)],[(0,some (.row 2 136 (a0.map Z1     )))],1⟩) ?_ _ _ _ e1656
   clear H e1656 o1655;intro self ih x1351 x1352 o1655 H
   subst hbody
   refine LWp.round ?_
   refine AWp.seq ?_
   refine sO hP hn hm [] [(33,bV (decide (x1351<x1352)))] [0,1,4,10,11,33] [] [0] ?_
   refine AWp.cond (decide (x1351<x1352)) (by kernel_rfl) (fun c1353 => ?_) (fun c1353 => ?_)
   ·replace H:=iT c1353 H
    refine AWp.skip ?_
    refine AWp.block ?_
    refine sR hP hn hm [] [(12,iV .i64 (i64.wrap (Int.fdiv (u64.wrap (i64.wrap (x1351+x1352))) 2)))] [0,1,4,10,11,12] [] [0] [(0:Int)≤1] ⟨by decide,trivial⟩ ?_
    obtain⟨b1362,p1363,q1364,H⟩:=Z02 H
    obtain⟨b1365,p1366,q1367,H⟩:=Z02 H
    obtain⟨t1368,e1369,H⟩:=Z4 H
    refine sR hP hn hm [(4,.c (Z1 b1362)),(8,.c (Z1 b1365)),(9,.call [] [] [] [] 0 (iV .i64 t1368) [])] [(50,bV (decide (t1368<(0:Int))))] [0,1,4,10,11,12,50] [] [0] [_,_,_,_,_,_,_,_] ⟨p1363,Z09 Z1 p1363 q1364,Zi Z1 q1364,p1366,Z09 Z1 p1366 q1367,Zi Z1 q1367,Tryz.call183,Z2g.ok b1362 b1365 t1368 e1369,trivial⟩ ?_
    obtain⟨o1657,e1658,H⟩:=Z4 H
    refine AWp.mono (Q:=fun e s=>(match (generalizing:=false) o1657 with | (x1371,x1372)=>e = .normal∧s=⟨[(0,.own 0),(1,iV .i64 a1),(4,.im (.sc (.func (.func 183) #[] #[]))),(10,iV .i64 x1371),(11,iV .i64 x1372)],[(0,some (.row 2 136 (a0.map Z1)))],1⟩)) (AWp.cv ?_) ?_
    ·replace H:=e1658;clear e1658
     refine AWp.cond (decide (t1368<(0:Int))) (by kernel_rfl) (fun c1370 => ?_) (fun c1370 => ?_)
     ·replace H:=iT c1370 H
      refine rO hP hn hm [] [(10,iV .i64 (i64.wrap ((i64.wrap (Int.fdiv (u64.wrap (i64.wrap (x1351+x1352))) 2))+(1:Int))))] [0,1,4,10,11] [] [0] ?_
      obtain rfl:=sj H
      exact lf [(0,0)] [] [] (by kernel_rfl) ⟨rfl,rfl⟩
     ·replace H:=iF c1370 H
      refine rO hP hn hm [] [(11,iV .i64 (i64.wrap (Int.fdiv (u64.wrap (i64.wrap (x1351+x1352))) 2)))] [0,1,4,10,11] [] [0] ?_
      obtain rfl:=sj H
      exact lf [(0,0)] [] [] (by kernel_rfl) ⟨rfl,rfl⟩
    ·obtain⟨x1371,x1372⟩:=o1657
     rintro e s ⟨rfl,rfl⟩
     exact LWp.conv [(0,0)] [] [] (by kernel_rfl) (ih _ _ _ H)
   ·replace H:=iF c1353 H
    refine AWp.exit ?_
    obtain rfl:=sj H
    exact lf [(0,0)] [] [] (by kernel_rfl) ⟨rfl,rfl⟩
  ·obtain⟨x1373,rfl⟩:∃ z,z=o1655:=⟨_,rfl⟩
   rintro e s ⟨rfl,rfl⟩
   refine AWp.seq ?_
   refine sO hP hn hm [] [(13,iV .i64 a1)] [0,10,13] [] [0] ?_
   refine AWp.block ?_
   obtain⟨o1659,e1660,H⟩:=Z4 H
   refine AWp.loop (LWp.conv (inv:=[(0,0)]) (vk:=[]) (e0:=[]) (t:=⟨[(0,.own 0),(10,iV .i64 x1373),(13,iV .i64 a1)],[(0,some (.row 2 136 (a0.map Z1)))],1⟩) (by kernel_rfl) ?_)
   refine LWp.mono (Q:=fun e s=>(match (generalizing:=false) o1659 with | x1414=>e = .exit 2∧s=⟨[],[(0,some (.row 2 136 (x1414.map Z1)))],1⟩)) (LWp.cv (Zs (fun body hbody => ?_))) ?_
   ·refine                                              Z7.l1.partial_correctness x1373 (motive:=fun x1393 x1394 o1659=>LWp Γ body (fun e s=>∃ t,Cv Γ s t∧(match (generalizing:=false) o1659 with | x1414=>e = .exit 2∧t=⟨[],[(0,some (.row 2 136 (x1414.map Z1     )))],1⟩)) ⟨[(0,.own 0),(10,iV .i64 x1373),(13,iV .i64 x1394)],[(0,some (.row 2 136 (x1393.map Z1     )))],1⟩) ?_ _ _ _ e1660
    clear H e1660 o1659;intro self ih x1393 x1394 o1659 H
    subst hbody
    refine LWp.round ?_
    refine AWp.seq ?_
    refine sO hP hn hm [] [(58,bV (decide (x1394<(i64.wrap (x1373-(1:Int))))))] [0,10,13,58] [] [0] ?_
    refine AWp.cond (decide (x1394<(i64.wrap (x1373-(1:Int))))) (by kernel_rfl) (fun c1395 => ?_) (fun c1395 => ?_)
    ·replace H:=iT c1395 H
     refine AWp.skip ?_
     refine AWp.seq ?_
     refine AWp.block ?_
     obtain⟨b1405,p1406,q1407,H⟩:=Z02 H
     obtain⟨b1408,p1409,q1410,H⟩:=Z02 H
     obtain⟨b1411,p1412,q1413,H⟩:=Z02 H
     refine rG hP hn hm [(9,.c (Z1 b1405)),(13,.c (Z1 b1408)),(15,.put (Z1 b1408) ((x1393.set (Int.toNat (x1394)) b1405).map Z1)),(17,.put (Z1 b1411) (((x1393.set (Int.toNat (x1394)) b1405).set (Int.toNat (i64.wrap (x1394+(1:Int)))) b1408).map Z1))] [] [0,10,13] [(0,some (.row 2 136 (((x1393.set (Int.toNat (x1394)) b1405).set (Int.toNat (i64.wrap (x1394+(1:Int)))) b1408).map Z1)))] [0] [_,_,_,_,_,_,_,_,_,(x1393.set (Int.toNat (x1394)) b1405).map Z1=(x1393.map Z1).set (Int.toNat (x1394)) (Z0t (Z1 b1408) 0 [iI .i64 b1405.f0,iI .u64 b1405.f1]),_,_,_,((x1393.set (Int.toNat (x1394)) b1405).set (Int.toNat (i64.wrap (x1394+(1:Int)))) b1408).map Z1=((x1393.set (Int.toNat (x1394)) b1405).map Z1).set (Int.toNat (i64.wrap (x1394+(1:Int)))) (Z0t (Z1 b1411) 0 [iI .i64 b1408.f0,iI .u64 b1408.f1])] ⟨p1406,Z09 Z1 p1406 q1407,Zi Z1 q1407,p1409,Z09 Z1 p1409 q1410,Zi Z1 q1410,p1409,Z09 Z1 p1409 q1410,Zi Z1 q1410,by exact set1 _ _ _ _,p1412,Z09 Z1 p1412 q1413,Zi Z1 q1413,by exact set1 _ _ _ _,trivial⟩ ?_
     refine rO hP hn hm [] [(13,iV .i64 (i64.wrap (x1394+(1:Int))))] [0,10,13] [] [0] ?_
     exact LWp.conv [(0,0)] [] [] (by kernel_rfl) (ih _ _ _ H)
    ·replace H:=iF c1395 H
     refine AWp.exit ?_
     obtain rfl:=sj H
     exact lf [(0,0)] [] [] (by kernel_rfl) ⟨rfl,rfl⟩
   ·obtain⟨x1414,rfl⟩:∃ z,z=o1659:=⟨_,rfl⟩
    rintro e s ⟨rfl,rfl⟩
    refine AWp.conv (inv:=[(0,0)]) (vk:=[]) (e0:=[]) (t:=⟨[],[(0,some (.row 2 136 (x1414.map Z1)))],1⟩) (by kernel_rfl) ?_
    refine AWp.ret ?_
    obtain rfl:=sj H
    exact rl (.inl rfl) rfl (by kernel_rfl) (by kernel_rfl)
 ·replace H:=iF c1330 H
  refine AWp.skip ?_
  refine AWp.seq ?_
  refine sO hP hn hm [] [(80,bV ((i64.wrap (a3-a2))==(1:Int)))] [0,1,2,3,4,80] [] [0] ?_
  refine AWp.cond ((i64.wrap (a3-a2))==(1:Int)) (by kernel_rfl) (fun c1415 => ?_) (fun c1415 => ?_)
  ·replace H:=iT c1415 H
   refine sO hP hn hm [] [(14,iV .i64 a1)] [0,2,4,14] [] [0] ?_
   refine sO hP hn hm [] [(15,iV .i64 a2)] [0,2,4,14,15] [] [0] ?_
   refine AWp.seq ?_
   refine AWp.block ?_
   obtain⟨o1661,e1662,H⟩:=Z4 H
   refine AWp.loop (LWp.conv (inv:=[(0,0)]) (vk:=[]) (e0:=[]) (t:=⟨[(0,.own 0),(2,iV .i64 a2),(4,.im (.sc (.func (.func 183) #[] #[]))),(14,iV .i64 a1),(15,iV .i64 a2)],[(0,some (.row 2 136 (a0.map Z1)))],1⟩) (by kernel_rfl) ?_)
   refine LWp.mono (Q:=fun e s=>(match (generalizing:=false) o1661 with | x1458=>e = .exit 4∧s=⟨[(0,.own 0),(2,iV .i64 a2),(14,iV .i64 x1458)],[(0,some (.row 2 136 (a0.map Z1)))],1⟩)) (LWp.cv (Zs (fun body hbody => ?_))) ?_
   ·refine                                              Z7.l2.partial_correctness a0 a2 (motive:=fun x1436 x1437 o1661=>LWp Γ body (fun e s=>∃ t,Cv Γ s t∧(match (generalizing:=false) o1661 with | x1458=>e = .exit 4∧t=⟨[(0,.own 0),(2,iV .i64 a2),(14,iV .i64 x1458)],[(0,some (.row 2 136 (a0.map Z1     )))],1⟩)) ⟨[(0,.own 0),(2,iV .i64 a2),(4,.im (.sc (.func (.func 183) #[] #[]))),(14,iV .i64 x1436),(15,iV .i64 x1437)],[(0,some (.row 2 136 (a0.map Z1     )))],1⟩) ?_ _ _ _ e1662
    clear H e1662 o1661;intro self ih x1436 x1437 o1661 H
    subst hbody
    refine LWp.round ?_
    refine AWp.seq ?_
    refine sO hP hn hm [] [(85,bV (decide (x1436<x1437)))] [0,2,4,14,15,85] [] [0] ?_
    refine AWp.cond (decide (x1436<x1437)) (by kernel_rfl) (fun c1438 => ?_) (fun c1438 => ?_)
    ·replace H:=iT c1438 H
     refine AWp.skip ?_
     refine AWp.block ?_
     refine sR hP hn hm [] [(16,iV .i64 (i64.wrap (Int.fdiv (u64.wrap (i64.wrap (x1436+x1437))) 2)))] [0,2,4,14,15,16] [] [0] [(0:Int)≤1] ⟨by decide,trivial⟩ ?_
     obtain⟨b1447,p1448,q1449,H⟩:=Z02 H
     obtain⟨b1450,p1451,q1452,H⟩:=Z02 H
     obtain⟨t1453,e1454,H⟩:=Z4 H
     refine sR hP hn hm [(4,.c (Z1 b1447)),(8,.c (Z1 b1450)),(9,.call [] [] [] [] 0 (iV .i64 t1453) [])] [(103,bV (!(decide (t1453<(0:Int)))))] [0,2,4,14,15,16,103] [] [0] [_,_,_,_,_,_,_,_] ⟨p1448,Z09 Z1 p1448 q1449,Zi Z1 q1449,p1451,Z09 Z1 p1451 q1452,Zi Z1 q1452,Tryz.call183,Z2g.ok b1447 b1450 t1453 e1454,trivial⟩ ?_
     obtain⟨o1663,e1664,H⟩:=Z4 H
     refine AWp.mono (Q:=fun e s=>(match (generalizing:=false) o1663 with | (x1456,x1457)=>e = .normal∧s=⟨[(0,.own 0),(2,iV .i64 a2),(4,.im (.sc (.func (.func 183) #[] #[]))),(14,iV .i64 x1456),(15,iV .i64 x1457)],[(0,some (.row 2 136 (a0.map Z1)))],1⟩)) (AWp.cv ?_) ?_
     ·replace H:=e1664;clear e1664
      refine AWp.cond (!(decide (t1453<(0:Int)))) (by kernel_rfl) (fun c1455 => ?_) (fun c1455 => ?_)
      ·replace H:=iT c1455 H
       refine rO hP hn hm [] [(14,iV .i64 (i64.wrap ((i64.wrap (Int.fdiv (u64.wrap (i64.wrap (x1436+x1437))) 2))+(1:Int))))] [0,2,4,14,15] [] [0] ?_
       obtain rfl:=sj H
       exact lf [(0,0)] [] [] (by kernel_rfl) ⟨rfl,rfl⟩
      ·replace H:=iF c1455 H
       refine rO hP hn hm [] [(15,iV .i64 (i64.wrap (Int.fdiv (u64.wrap (i64.wrap (x1436+x1437))) 2)))] [0,2,4,14,15] [] [0] ?_
       obtain rfl:=sj H
       exact lf [(0,0)] [] [] (by kernel_rfl) ⟨rfl,rfl⟩
     ·obtain⟨x1456,x1457⟩:=o1663
      rintro e s ⟨rfl,rfl⟩
      exact LWp.conv [(0,0)] [] [] (by kernel_rfl) (ih _ _ _ H)
    ·replace H:=iF c1438 H
     refine AWp.exit ?_
     obtain rfl:=sj H
     exact lf [(0,0)] [] [] (by kernel_rfl) ⟨rfl,rfl⟩
   ·obtain⟨x1458,rfl⟩:∃ z,z=o1661:=⟨_,rfl⟩
    rintro e s ⟨rfl,rfl⟩
    refine AWp.seq ?_
    refine sO hP hn hm [] [(17,iV .i64 a2)] [0,14,17] [] [0] ?_
    refine AWp.block ?_
    obtain⟨o1665,e1666,H⟩:=Z4 H
    refine AWp.loop (LWp.conv (inv:=[(0,0)]) (vk:=[]) (e0:=[]) (t:=⟨[(0,.own 0),(14,iV .i64 x1458),(17,iV .i64 a2)],[(0,some (.row 2 136 (a0.map Z1)))],1⟩) (by kernel_rfl) ?_)
    refine LWp.mono (Q:=fun e s=>(match (generalizing:=false) o1665 with | x1499=>e = .exit 6∧s=⟨[],[(0,some (.row 2 136 (x1499.map Z1)))],1⟩)) (LWp.cv (Zs (fun body hbody => ?_))) ?_
    ·refine                                              Z7.l3.partial_correctness x1458 (motive:=fun x1478 x1479 o1665=>LWp Γ body (fun e s=>∃ t,Cv Γ s t∧(match (generalizing:=false) o1665 with | x1499=>e = .exit 6∧t=⟨[],[(0,some (.row 2 136 (x1499.map Z1     )))],1⟩)) ⟨[(0,.own 0),(14,iV .i64 x1458),(17,iV .i64 x1479)],[(0,some (.row 2 136 (x1478.map Z1     )))],1⟩) ?_ _ _ _ e1666
     clear H e1666 o1665;intro self ih x1478 x1479 o1665 H
     subst hbody
     refine LWp.round ?_
     refine AWp.seq ?_
     refine sO hP hn hm [] [(110,bV (decide (x1479>x1458)))] [0,14,17,110] [] [0] ?_
     refine AWp.cond (decide (x1479>x1458)) (by kernel_rfl) (fun c1480 => ?_) (fun c1480 => ?_)
     ·replace H:=iT c1480 H
      refine AWp.skip ?_
      refine AWp.seq ?_
      refine AWp.block ?_
      obtain⟨b1490,p1491,q1492,H⟩:=Z02 H
      obtain⟨b1493,p1494,q1495,H⟩:=Z02 H
      obtain⟨b1496,p1497,q1498,H⟩:=Z02 H
      refine rG hP hn hm [(9,.c (Z1 b1490)),(13,.c (Z1 b1493)),(15,.put (Z1 b1493) ((x1478.set (Int.toNat (x1479)) b1490).map Z1)),(17,.put (Z1 b1496) (((x1478.set (Int.toNat (x1479)) b1490).set (Int.toNat (i64.wrap (x1479-(1:Int)))) b1493).map Z1))] [] [0,14,17] [(0,some (.row 2 136 (((x1478.set (Int.toNat (x1479)) b1490).set (Int.toNat (i64.wrap (x1479-(1:Int)))) b1493).map Z1)))] [0] [_,_,_,_,_,_,_,_,_,(x1478.set (Int.toNat (x1479)) b1490).map Z1=(x1478.map Z1).set (Int.toNat (x1479)) (Z0t (Z1 b1493) 0 [iI .i64 b1490.f0,iI .u64 b1490.f1]),_,_,_,((x1478.set (Int.toNat (x1479)) b1490).set (Int.toNat (i64.wrap (x1479-(1:Int)))) b1493).map Z1=((x1478.set (Int.toNat (x1479)) b1490).map Z1).set (Int.toNat (i64.wrap (x1479-(1:Int)))) (Z0t (Z1 b1496) 0 [iI .i64 b1493.f0,iI .u64 b1493.f1])] ⟨p1491,Z09 Z1 p1491 q1492,Zi Z1 q1492,p1494,Z09 Z1 p1494 q1495,Zi Z1 q1495,p1494,Z09 Z1 p1494 q1495,Zi Z1 q1495,by exact set1 _ _ _ _,p1497,Z09 Z1 p1497 q1498,Zi Z1 q1498,by exact set1 _ _ _ _,trivial⟩ ?_
      refine rO hP hn hm [] [(17,iV .i64 (i64.wrap (x1479-(1:Int))))] [0,14,17] [] [0] ?_
      exact LWp.conv [(0,0)] [] [] (by kernel_rfl) (ih _ _ _ H)
     ·replace H:=iF c1480 H
      refine AWp.exit ?_
      obtain rfl:=sj H
      exact lf [(0,0)] [] [] (by kernel_rfl) ⟨rfl,rfl⟩
    ·obtain⟨x1499,rfl⟩:∃ z,z=o1665:=⟨_,rfl⟩
     rintro e s ⟨rfl,rfl⟩
     refine AWp.conv (inv:=[(0,0)]) (vk:=[]) (e0:=[]) (t:=⟨[],[(0,some (.row 2 136 (x1499.map Z1)))],1⟩) (by kernel_rfl) ?_
     refine AWp.ret ?_
     obtain rfl:=sj H
     exact rl (.inl rfl) rfl (by kernel_rfl) (by kernel_rfl)
  ·replace H:=iF c1415 H
   refine AWp.skip ?_
   refine sR hP hn hm [] [(18,iV .i64 (i64.wrap (Int.fdiv (u64.wrap (i64.wrap (a1+a3))) 2)))] [0,1,2,3,4,18] [] [0] [(0:Int)≤1] ⟨by decide,trivial⟩ ?_
   refine sO hP hn hm [] [(19,iV .i64 (i64.wrap ((i64.wrap (Int.fdiv (u64.wrap (i64.wrap (a1+a3))) 2))+a2)))] [0,1,2,3,4,18,19] [] [0] ?_
   refine sO hP hn hm [] [] [0,1,2,3,4,18,19] [] [0] ?_
   refine AWp.seq ?_
   refine sO hP hn hm [] [(140,bV (decide (a2>(i64.wrap (Int.fdiv (u64.wrap (i64.wrap (a1+a3))) 2)))))] [0,1,2,3,4,18,19,140] [] [0] ?_
   obtain⟨o1667,e1668,H⟩:=Z4 H
   refine AWp.mono (Q:=fun e s=>(match (generalizing:=false) o1667 with | (x1501,x1502)=>e = .normal∧s=⟨[(0,.own 0),(1,iV .i64 a1),(2,iV .i64 a2),(3,iV .i64 a3),(4,.im (.sc (.func (.func 183) #[] #[]))),(18,iV .i64 (i64.wrap (Int.fdiv (u64.wrap (i64.wrap (a1+a3))) 2))),(19,iV .i64 (i64.wrap ((i64.wrap (Int.fdiv (u64.wrap (i64.wrap (a1+a3))) 2))+a2))),(20,iV .i64 x1501),(21,iV .i64 x1502)],[(0,some (.row 2 136 (a0.map Z1)))],1⟩)) (AWp.cv ?_) ?_
   ·replace H:=e1668;clear e1668
    refine AWp.cond (decide (a2>(i64.wrap (Int.fdiv (u64.wrap (i64.wrap (a1+a3))) 2)))) (by kernel_rfl) (fun c1500 => ?_) (fun c1500 => ?_)
    ·replace H:=iT c1500 H
     refine sO hP hn hm [] [(20,iV .i64 (i64.wrap ((i64.wrap ((i64.wrap (Int.fdiv (u64.wrap (i64.wrap (a1+a3))) 2))+a2))-a3)))] [0,1,2,3,4,18,19,20] [] [0] ?_
     refine rO hP hn hm [] [(21,iV .i64 (i64.wrap (Int.fdiv (u64.wrap (i64.wrap (a1+a3))) 2)))] [0,1,2,3,4,18,19,20,21] [] [0] ?_
     obtain rfl:=sj H
     exact lf [(0,0)] [] [] (by kernel_rfl) ⟨rfl,rfl⟩
    ·replace H:=iF c1500 H
     refine sO hP hn hm [] [(20,iV .i64 a1)] [0,1,2,3,4,18,19,20] [] [0] ?_
     refine rO hP hn hm [] [(21,iV .i64 a2)] [0,1,2,3,4,18,19,20,21] [] [0] ?_
     obtain rfl:=sj H
     exact lf [(0,0)] [] [] (by kernel_rfl) ⟨rfl,rfl⟩
   ·obtain⟨x1501,x1502⟩:=o1667
    rintro e s ⟨rfl,rfl⟩
    refine sO hP hn hm [] [(22,iV .i64 (i64.wrap ((i64.wrap ((i64.wrap (Int.fdiv (u64.wrap (i64.wrap (a1+a3))) 2))+a2))-(1:Int))))] [0,1,2,3,4,18,19,20,21,22] [] [0] ?_
    refine AWp.seq ?_
    refine AWp.block ?_
    obtain⟨o1669,e1670,H⟩:=Z4 H
    refine AWp.loop (LWp.conv (inv:=[(0,0)]) (vk:=[]) (e0:=[]) (t:=⟨[(0,.own 0),(1,iV .i64 a1),(2,iV .i64 a2),(3,iV .i64 a3),(4,.im (.sc (.func (.func 183) #[] #[]))),(18,iV .i64 (i64.wrap (Int.fdiv (u64.wrap (i64.wrap (a1+a3))) 2))),(19,iV .i64 (i64.wrap ((i64.wrap (Int.fdiv (u64.wrap (i64.wrap (a1+a3))) 2))+a2))),(20,iV .i64 x1501),(21,iV .i64 x1502),(22,iV .i64 (i64.wrap ((i64.wrap ((i64.wrap (Int.fdiv (u64.wrap (i64.wrap (a1+a3))) 2))+a2))-(1:Int))))],[(0,some (.row 2 136 (a0.map Z1)))],1⟩) (by kernel_rfl) ?_)
    refine LWp.mono (Q:=fun e s=>(match (generalizing:=false) o1669 with | x1545=>e = .exit 8∧s=⟨[(0,.own 0),(1,iV .i64 a1),(2,iV .i64 a2),(3,iV .i64 a3),(4,.im (.sc (.func (.func 183) #[] #[]))),(18,iV .i64 (i64.wrap (Int.fdiv (u64.wrap (i64.wrap (a1+a3))) 2))),(19,iV .i64 (i64.wrap ((i64.wrap (Int.fdiv (u64.wrap (i64.wrap (a1+a3))) 2))+a2))),(20,iV .i64 x1545)],[(0,some (.row 2 136 (a0.map Z1)))],1⟩)) (LWp.cv (Zs (fun body hbody => ?_))) ?_
    ·refine                                              Z7.l4.partial_correctness a0 a1 a2 a3 (motive:=fun x1523 x1524 o1669=>LWp Γ body (fun e s=>∃ t,Cv Γ s t∧(match (generalizing:=false) o1669 with | x1545=>e = .exit 8∧t=⟨[(0,.own 0),(1,iV .i64 a1),(2,iV .i64 a2),(3,iV .i64 a3),(4,.im (.sc (.func (.func 183) #[] #[]))),(18,iV .i64 (i64.wrap (Int.fdiv (u64.wrap (i64.wrap (a1+a3))) 2))),(19,iV .i64 (i64.wrap ((i64.wrap (Int.fdiv (u64.wrap (i64.wrap (a1+a3))) 2))+a2))),(20,iV .i64 x1545)],[(0,some (.row 2 136 (a0.map Z1     )))],1⟩)) ⟨[(0,.own 0),(1,iV .i64 a1),(2,iV .i64 a2),(3,iV .i64 a3),(4,.im (.sc (.func (.func 183) #[] #[]))),(18,iV .i64 (i64.wrap (Int.fdiv (u64.wrap (i64.wrap (a1+a3))) 2))),(19,iV .i64 (i64.wrap ((i64.wrap (Int.fdiv (u64.wrap (i64.wrap (a1+a3))) 2))+a2))),(20,iV .i64 x1523),(21,iV .i64 x1524),(22,iV .i64 (i64.wrap ((i64.wrap ((i64.wrap (Int.fdiv (u64.wrap (i64.wrap (a1+a3))) 2))+a2))-(1:Int))))],[(0,some (.row 2 136 (a0.map Z1     )))],1⟩) ?_ _ _ _ e1670
     clear H e1670 o1669;intro self ih x1523 x1524 o1669 H
     subst hbody
     refine LWp.round ?_
     refine AWp.seq ?_
     refine sO hP hn hm [] [(151,bV (decide (x1523<x1524)))] [0,1,2,3,4,18,19,20,21,22,151] [] [0] ?_
     refine AWp.cond (decide (x1523<x1524)) (by kernel_rfl) (fun c1525 => ?_) (fun c1525 => ?_)
     ·replace H:=iT c1525 H
      refine AWp.skip ?_
      refine AWp.block ?_
      refine sR hP hn hm [] [(23,iV .i64 (i64.wrap (Int.fdiv (u64.wrap (i64.wrap (x1523+x1524))) 2)))] [0,1,2,3,4,18,19,20,21,22,23] [] [0] [(0:Int)≤1] ⟨by decide,trivial⟩ ?_
      obtain⟨b1534,p1535,q1536,H⟩:=Z02 H
      obtain⟨b1537,p1538,q1539,H⟩:=Z02 H
      obtain⟨t1540,e1541,H⟩:=Z4 H
      refine sR hP hn hm [(6,.c (Z1 b1534)),(10,.c (Z1 b1537)),(11,.call [] [] [] [] 0 (iV .i64 t1540) [])] [(171,bV (!(decide (t1540<(0:Int)))))] [0,1,2,3,4,18,19,20,21,22,23,171] [] [0] [_,_,_,_,_,_,_,_] ⟨p1535,Z09 Z1 p1535 q1536,Zi Z1 q1536,p1538,Z09 Z1 p1538 q1539,Zi Z1 q1539,Tryz.call183,Z2g.ok b1534 b1537 t1540 e1541,trivial⟩ ?_
      obtain⟨o1671,e1672,H⟩:=Z4 H
      refine AWp.mono (Q:=fun e s=>(match (generalizing:=false) o1671 with | (x1543,x1544)=>e = .normal∧s=⟨[(0,.own 0),(1,iV .i64 a1),(2,iV .i64 a2),(3,iV .i64 a3),(4,.im (.sc (.func (.func 183) #[] #[]))),(18,iV .i64 (i64.wrap (Int.fdiv (u64.wrap (i64.wrap (a1+a3))) 2))),(19,iV .i64 (i64.wrap ((i64.wrap (Int.fdiv (u64.wrap (i64.wrap (a1+a3))) 2))+a2))),(20,iV .i64 x1543),(21,iV .i64 x1544),(22,iV .i64 (i64.wrap ((i64.wrap ((i64.wrap (Int.fdiv (u64.wrap (i64.wrap (a1+a3))) 2))+a2))-(1:Int))))],[(0,some (.row 2 136 (a0.map Z1)))],1⟩)) (AWp.cv ?_) ?_
      ·replace H:=e1672;clear e1672
       refine AWp.cond (!(decide (t1540<(0:Int)))) (by kernel_rfl) (fun c1542 => ?_) (fun c1542 => ?_)
       ·replace H:=iT c1542 H
        refine rO hP hn hm [] [(20,iV .i64 (i64.wrap ((i64.wrap (Int.fdiv (u64.wrap (i64.wrap (x1523+x1524))) 2))+(1:Int))))] [0,1,2,3,4,18,19,20,21,22] [] [0] ?_
        obtain rfl:=sj H
        exact lf [(0,0)] [] [] (by kernel_rfl) ⟨rfl,rfl⟩
       ·replace H:=iF c1542 H
        refine rO hP hn hm [] [(21,iV .i64 (i64.wrap (Int.fdiv (u64.wrap (i64.wrap (x1523+x1524))) 2)))] [0,1,2,3,4,18,19,20,21,22] [] [0] ?_
        obtain rfl:=sj H
        exact lf [(0,0)] [] [] (by kernel_rfl) ⟨rfl,rfl⟩
      ·obtain⟨x1543,x1544⟩:=o1671
       rintro e s ⟨rfl,rfl⟩
       exact LWp.conv [(0,0)] [] [] (by kernel_rfl) (ih _ _ _ H)
     ·replace H:=iF c1525 H
      refine AWp.exit ?_
      obtain rfl:=sj H
      exact lf [(0,0)] [] [] (by kernel_rfl) ⟨rfl,rfl⟩
    ·obtain⟨x1545,rfl⟩:∃ z,z=o1669:=⟨_,rfl⟩
     rintro e s ⟨rfl,rfl⟩
     refine sO hP hn hm [] [(24,iV .i64 (i64.wrap ((i64.wrap ((i64.wrap (Int.fdiv (u64.wrap (i64.wrap (a1+a3))) 2))+a2))-x1545)))] [0,1,2,3,4,18,20,24] [] [0] ?_
     refine AWp.seq ?_
     refine AWp.seq ?_
     obtain⟨o1673,e1674,H⟩:=Z4 H
     refine AWp.mono (Q:=fun e s=>(match (generalizing:=false) o1673 with | x1548=>e = .normal∧s=⟨[(0,.own 0),(1,iV .i64 a1),(2,iV .i64 a2),(3,iV .i64 a3),(4,.im (.sc (.func (.func 183) #[] #[]))),(18,iV .i64 (i64.wrap (Int.fdiv (u64.wrap (i64.wrap (a1+a3))) 2))),(20,iV .i64 x1545),(24,iV .i64 (i64.wrap ((i64.wrap ((i64.wrap (Int.fdiv (u64.wrap (i64.wrap (a1+a3))) 2))+a2))-x1545))),(185,bV x1548)],[(0,some (.row 2 136 (a0.map Z1)))],1⟩)) (AWp.cv ?_) ?_
     ·replace H:=e1674;clear e1674
      rcases Bool.eq_false_or_eq_true (decide (x1545<a2)) with c1547 | c1547
      ·replace H:=iT c1547 H
       refine rG hP hn hm [(3,.b true)] [(185,bV (decide (a2<(i64.wrap ((i64.wrap ((i64.wrap (Int.fdiv (u64.wrap (i64.wrap (a1+a3))) 2))+a2))-x1545)))))] [0,1,2,3,4,18,20,24,185] [] [0] [_] ⟨c1547,trivial⟩ ?_
       obtain rfl:=sj H
       exact lf [(0,0)] [] [] (by kernel_rfl) ⟨rfl,rfl⟩
      ·replace H:=iF c1547 H
       refine rG hP hn hm [(3,.b false)] [(185,bV false)] [0,1,2,3,4,18,20,24,185] [] [0] [_] ⟨c1547,trivial⟩ ?_
       obtain rfl:=sj H
       exact lf [(0,0)] [] [] (by kernel_rfl) ⟨rfl,rfl⟩
     ·obtain⟨x1548,rfl⟩:∃ z,z=o1673:=⟨_,rfl⟩
      rintro e s ⟨rfl,rfl⟩
      obtain⟨o1675,e1676,H⟩:=Z4 H
      refine AWp.mono (Q:=fun e s=>(match (generalizing:=false) o1675 with | x1636=>e = .normal∧s=⟨[(0,.own 0),(1,iV .i64 a1),(3,iV .i64 a3),(4,.im (.sc (.func (.func 183) #[] #[]))),(18,iV .i64 (i64.wrap (Int.fdiv (u64.wrap (i64.wrap (a1+a3))) 2))),(20,iV .i64 x1545),(24,iV .i64 (i64.wrap ((i64.wrap ((i64.wrap (Int.fdiv (u64.wrap (i64.wrap (a1+a3))) 2))+a2))-x1545)))],[(0,some (.row 2 136 (x1636.map Z1)))],1⟩)) (AWp.cv ?_) ?_
      ·replace H:=e1676;clear e1676
       refine AWp.cond x1548 (by kernel_rfl) (fun c1549 => ?_) (fun c1549 => ?_)
       ·replace H:=iT c1549 H
        obtain⟨t1634,e1635,H⟩:=Z4 H
        refine rG hP hn hm [(5,.call [(0,0)] [(0,0)] [] [] 1 (.tup []) [(0,some (.row 2 136 (t1634.map Z1)))])] [] [0,1,3,4,18,20,24] [(0,some (.row 2 136 (t1634.map Z1)))] [0] [_,_] ⟨Tryz.call201,Zy.ok a0 x1545 a2 (i64.wrap ((i64.wrap ((i64.wrap (Int.fdiv (u64.wrap (i64.wrap (a1+a3))) 2))+a2))-x1545)) t1634 e1635,trivial⟩ ?_
        obtain rfl:=sj H
        exact lf [(0,0)] [] [] (by kernel_rfl) ⟨rfl,rfl⟩
       ·replace H:=iF c1549 H
        refine AWp.skip ?_
        obtain rfl:=sj H
        exact lf [(0,0)] [] [] (by kernel_rfl) ⟨rfl,rfl⟩
      ·obtain⟨x1636,rfl⟩:∃ z,z=o1675:=⟨_,rfl⟩
       rintro e s ⟨rfl,rfl⟩
       refine AWp.seq ?_
       refine AWp.seq ?_
       obtain⟨o1677,e1678,H⟩:=Z4 H
       refine AWp.mono (Q:=fun e s=>(match (generalizing:=false) o1677 with | x1639=>e = .normal∧s=⟨[(0,.own 0),(1,iV .i64 a1),(3,iV .i64 a3),(4,.im (.sc (.func (.func 183) #[] #[]))),(18,iV .i64 (i64.wrap (Int.fdiv (u64.wrap (i64.wrap (a1+a3))) 2))),(20,iV .i64 x1545),(24,iV .i64 (i64.wrap ((i64.wrap ((i64.wrap (Int.fdiv (u64.wrap (i64.wrap (a1+a3))) 2))+a2))-x1545))),(199,bV x1639)],[(0,some (.row 2 136 (x1636.map Z1)))],1⟩)) (AWp.cv ?_) ?_
       ·replace H:=e1678;clear e1678
        rcases Bool.eq_false_or_eq_true (decide (a1<x1545)) with c1638 | c1638
        ·replace H:=iT c1638 H
         refine rG hP hn hm [(3,.b true)] [(199,bV (decide (x1545<(i64.wrap (Int.fdiv (u64.wrap (i64.wrap (a1+a3))) 2)))))] [0,1,3,4,18,20,24,199] [] [0] [_] ⟨c1638,trivial⟩ ?_
         obtain rfl:=sj H
         exact lf [(0,0)] [] [] (by kernel_rfl) ⟨rfl,rfl⟩
        ·replace H:=iF c1638 H
         refine rG hP hn hm [(3,.b false)] [(199,bV false)] [0,1,3,4,18,20,24,199] [] [0] [_] ⟨c1638,trivial⟩ ?_
         obtain rfl:=sj H
         exact lf [(0,0)] [] [] (by kernel_rfl) ⟨rfl,rfl⟩
       ·obtain⟨x1639,rfl⟩:∃ z,z=o1677:=⟨_,rfl⟩
        rintro e s ⟨rfl,rfl⟩
        obtain⟨o1679,e1680,H⟩:=Z4 H
        refine AWp.mono (Q:=fun e s=>(match (generalizing:=false) o1679 with | x1645=>e = .normal∧s=⟨[(0,.own 0),(3,iV .i64 a3),(4,.im (.sc (.func (.func 183) #[] #[]))),(18,iV .i64 (i64.wrap (Int.fdiv (u64.wrap (i64.wrap (a1+a3))) 2))),(24,iV .i64 (i64.wrap ((i64.wrap ((i64.wrap (Int.fdiv (u64.wrap (i64.wrap (a1+a3))) 2))+a2))-x1545)))],[(0,some (.row 2 136 (x1645.map Z1)))],1⟩)) (AWp.cv ?_) ?_
        ·replace H:=e1680;clear e1680
         refine AWp.cond x1639 (by kernel_rfl) (fun c1640 => ?_) (fun c1640 => ?_)
         ·replace H:=iT c1640 H
          obtain⟨t1643,e1644,H⟩:=Z4 H
          refine rG hP hn hm [(5,.call [(0,0)] [(0,0)] [] [] 1 (.tup []) [(0,some (.row 2 136 (t1643.map Z1)))])] [] [0,3,4,18,24] [(0,some (.row 2 136 (t1643.map Z1)))] [0] [_,Pv.Fn Tryz.prog 196 [.own 0,iV .i64 a1,iV .i64 x1545,iV .i64 (i64.wrap (Int.fdiv (u64.wrap (i64.wrap (a1+a3))) 2)),.im (.sc (.func (.func 183) #[] #[]))] [(0,some (.row 2 136 (x1636.map Z1)))] 1 (fun r o=>r = .tup []∧o=[(0,some (.row 2 136 (t1643.map Z1)))])] ⟨Tryz.call196,by exact ihF x1636 a1 x1545 (i64.wrap (Int.fdiv (u64.wrap (i64.wrap (a1+a3))) 2)) _ e1644,trivial⟩ ?_
          obtain rfl:=sj H
          exact lf [(0,0)] [] [] (by kernel_rfl) ⟨rfl,rfl⟩
         ·replace H:=iF c1640 H
          refine AWp.skip ?_
          obtain rfl:=sj H
          exact lf [(0,0)] [] [] (by kernel_rfl) ⟨rfl,rfl⟩
        ·obtain⟨x1645,rfl⟩:∃ z,z=o1679:=⟨_,rfl⟩
         rintro e s ⟨rfl,rfl⟩
         refine AWp.seq ?_
         obtain⟨o1681,e1682,H⟩:=Z4 H
         refine AWp.mono (Q:=fun e s=>(match (generalizing:=false) o1681 with | x1648=>e = .normal∧s=⟨[(0,.own 0),(3,iV .i64 a3),(4,.im (.sc (.func (.func 183) #[] #[]))),(18,iV .i64 (i64.wrap (Int.fdiv (u64.wrap (i64.wrap (a1+a3))) 2))),(24,iV .i64 (i64.wrap ((i64.wrap ((i64.wrap (Int.fdiv (u64.wrap (i64.wrap (a1+a3))) 2))+a2))-x1545))),(213,bV x1648)],[(0,some (.row 2 136 (x1645.map Z1)))],1⟩)) (AWp.cv ?_) ?_
         ·replace H:=e1682;clear e1682
          rcases Bool.eq_false_or_eq_true (decide ((i64.wrap (Int.fdiv (u64.wrap (i64.wrap (a1+a3))) 2))<(i64.wrap ((i64.wrap ((i64.wrap (Int.fdiv (u64.wrap (i64.wrap (a1+a3))) 2))+a2))-x1545)))) with c1647 | c1647
          ·replace H:=iT c1647 H
           refine rG hP hn hm [(3,.b true)] [(213,bV (decide ((i64.wrap ((i64.wrap ((i64.wrap (Int.fdiv (u64.wrap (i64.wrap (a1+a3))) 2))+a2))-x1545))<a3)))] [0,3,4,18,24,213] [] [0] [_] ⟨c1647,trivial⟩ ?_
           obtain rfl:=sj H
           exact lf [(0,0)] [] [] (by kernel_rfl) ⟨rfl,rfl⟩
          ·replace H:=iF c1647 H
           refine rG hP hn hm [(3,.b false)] [(213,bV false)] [0,3,4,18,24,213] [] [0] [_] ⟨c1647,trivial⟩ ?_
           obtain rfl:=sj H
           exact lf [(0,0)] [] [] (by kernel_rfl) ⟨rfl,rfl⟩
         ·obtain⟨x1648,rfl⟩:∃ z,z=o1681:=⟨_,rfl⟩
          rintro e s ⟨rfl,rfl⟩
          obtain⟨o1683,e1684,H⟩:=Z4 H
          refine AWp.mono (Q:=fun e s=>(match (generalizing:=false) o1683 with | x1654=>e = .normal∧s=⟨[],[(0,some (.row 2 136 (x1654.map Z1)))],1⟩)) (AWp.cv ?_) ?_
          ·replace H:=e1684;clear e1684
           refine AWp.cond x1648 (by kernel_rfl) (fun c1649 => ?_) (fun c1649 => ?_)
           ·replace H:=iT c1649 H
            obtain⟨t1652,e1653,H⟩:=Z4 H
            refine rG hP hn hm [(5,.call [(0,0)] [(0,0)] [] [] 1 (.tup []) [(0,some (.row 2 136 (t1652.map Z1)))])] [] [] [(0,some (.row 2 136 (t1652.map Z1)))] [0] [_,Pv.Fn Tryz.prog 196 [.own 0,iV .i64 (i64.wrap (Int.fdiv (u64.wrap (i64.wrap (a1+a3))) 2)),iV .i64 (i64.wrap ((i64.wrap ((i64.wrap (Int.fdiv (u64.wrap (i64.wrap (a1+a3))) 2))+a2))-x1545)),iV .i64 a3,.im (.sc (.func (.func 183) #[] #[]))] [(0,some (.row 2 136 (x1645.map Z1)))] 1 (fun r o=>r = .tup []∧o=[(0,some (.row 2 136 (t1652.map Z1)))])] ⟨Tryz.call196,by exact ihF x1645 (i64.wrap (Int.fdiv (u64.wrap (i64.wrap (a1+a3))) 2)) (i64.wrap ((i64.wrap ((i64.wrap (Int.fdiv (u64.wrap (i64.wrap (a1+a3))) 2))+a2))-x1545)) a3 _ e1653,trivial⟩ ?_
            obtain rfl:=sj H
            exact lf [(0,0)] [] [] (by kernel_rfl) ⟨rfl,rfl⟩
           ·replace H:=iF c1649 H
            refine AWp.skip ?_
            obtain rfl:=sj H
            exact lf [(0,0)] [] [] (by kernel_rfl) ⟨rfl,rfl⟩
          ·obtain⟨x1654,rfl⟩:∃ z,z=o1683:=⟨_,rfl⟩
           rintro e s ⟨rfl,rfl⟩
           obtain rfl:=sj H
           exact Exists.intro ⟨[],[(0,some (.row 2 136 (x1654.map Z1)))],1⟩ (And.intro (fun _ _ h=>h.conv (inv:=[(0,0)]) (vk:=[]) (e0:=[]) (t:=⟨[],[(0,some (.row 2 136 (x1654.map Z1)))],1⟩) (by kernel_rfl)) (And.intro (.inr rfl) (And.intro rfl (And.intro (by kernel_rfl) (by kernel_rfl)))))
def Zf.l0 (a1:Int) (x1314:List Z9) (x1315:Int) (x1316:Int):Option ((List Z9)×Int):=if(decide (x1316≤a1))=true then((Ze.f x1314 x1315 x1316)>>=fun t1320=>Zf.l0 a1 t1320 x1316 (i64.wrap (x1316+(20:Int)))) else(some (x1314,x1315))
partial_fixpoint
def Zf.l2 (a1:Int) (x1706:Int) (x1713:List Z9) (x1714:Int) (x1715:Int):Option ((List Z9)×Int):=if(decide (x1715≤a1))=true then((Z7.f x1713 x1714 (i64.wrap (x1714+x1706)) x1715)>>=fun t1719=>Zf.l2 a1 x1706 t1719 x1715 (i64.wrap (x1715+(i64.wrap ((2:Int)*x1706))))) else(some (x1713,x1714))
partial_fixpoint
def Zf.l1 (a1:Int) (x1705:List Z9) (x1706:Int):Option (List Z9):=if(decide (x1706<a1))=true then((Zf.l2 a1 x1706 x1705 0 (i64.wrap ((2:Int)*x1706)))>>=fun oo=>match oo with | (x1721,x1722)=>(((if(decide ((i64.wrap (x1722+x1706))<a1))=true then((Z7.f x1721 x1722 (i64.wrap (x1722+x1706)) a1)>>=fun t1726=>some t1726) else(some x1721)):Option (List Z9))>>=fun x1728=>Zf.l1 a1 x1728 (i64.wrap (x1706*(2:Int))))) else(some x1705)
partial_fixpoint
def Zf.f (a0:List Z9) (a1:Int):Option (List Z9):=(Zf.l0 a1 a0 0 20)>>=fun oo=>match oo with | (x1322,x1323)=>((Ze.f x1322 x1323 a1)>>=fun t1326=>(Zf.l1 a1 t1326 20)>>=fun x1729=>some x1729)
theorem Zf.ok (a0:List Z9) (a1:Int) (r:List Z9) (H:Zf.f a0 a1=some r):Pv.Fn Tryz.prog 189 [.own 0,iV .i64 a1,.im (.sc (.func (.func 183) #[] #[]))] [(0,some (.row 2 136 (a0.map Z1)))] 1 (fun x o=>x = .tup []∧o=[(0,some (.row 2 136 (r.map Z1)))]):=by
 unfold Zf.f at H
 refine Fn.bodyK [0] Tryz.func189 rfl rfl (fun Γ hP hn => ?_)
 have hm:Tryz.prog.follows .mixedOrders=true:=by kernel_rfl
 replace hn:Γ.n=63:=hn
 refine sO hP hn hm [] [(6,iV .i64 20)] [0,1,2,6] [] [0] ?_
 refine sO hP hn hm [] [(7,iV .i64 0),(8,iV .i64 20)] [0,1,2,6,7,8] [] [0] ?_
 refine AWp.seq ?_
 refine AWp.block ?_
 obtain⟨o1730,e1731,H⟩:=Z4 H
 refine AWp.loop (LWp.conv (inv:=[(0,0)]) (vk:=[]) (e0:=[]) (t:=⟨[(0,.own 0),(1,iV .i64 a1),(2,.im (.sc (.func (.func 183) #[] #[]))),(6,iV .i64 20),(7,iV .i64 0),(8,iV .i64 20)],[(0,some (.row 2 136 (a0.map Z1)))],1⟩) (by kernel_rfl) ?_)
 refine LWp.mono (Q:=fun e s=>(match (generalizing:=false) o1730 with | (x1322,x1323)=>e = .exit 0∧s=⟨[(0,.own 0),(1,iV .i64 a1),(2,.im (.sc (.func (.func 183) #[] #[]))),(6,iV .i64 20),(7,iV .i64 x1323)],[(0,some (.row 2 136 (x1322.map Z1)))],1⟩)) (LWp.cv (Zs (fun body hbody => ?_))) ?_
 ·refine                                            Zf.l0.partial_correctness a1 (motive:=fun x1314 x1315 x1316 o1730=>LWp Γ body (fun e s=>∃ t,Cv Γ s t∧(match (generalizing:=false) o1730 with | (x1322,x1323)=>e = .exit 0∧t=⟨[(0,.own 0),(1,iV .i64 a1),(2,.im (.sc (.func (.func 183) #[] #[]))),(6,iV .i64 20),(7,iV .i64 x1323)],[(0,some (.row 2 136 (x1322.map Z1     )))],1⟩)) ⟨[(0,.own 0),(1,iV .i64 a1),(2,.im (.sc (.func (.func 183) #[] #[]))),(6,iV .i64 20),(7,iV .i64 x1315),(8,iV .i64 x1316)],[(0,some (.row 2 136 (x1314.map Z1     )))],1⟩) ?_ _ _ _ _ e1731
  clear H e1731 o1730;intro self ih x1314 x1315 x1316 o1730 H
  subst hbody
  refine LWp.round ?_
  refine AWp.seq ?_
  refine sO hP hn hm [] [(13,bV (decide (x1316≤a1)))] [0,1,2,6,7,8,13] [] [0] ?_
  refine AWp.cond (decide (x1316≤a1)) (by kernel_rfl) (fun c1317 => ?_) (fun c1317 => ?_)
  ·replace H:=iT c1317 H
   refine AWp.skip ?_
   refine AWp.block ?_
   obtain⟨t1320,e1321,H⟩:=Z4 H
   refine sR hP hn hm [(4,.call [(0,0)] [(0,0)] [] [] 1 (.tup []) [(0,some (.row 2 136 (t1320.map Z1)))])] [] [0,1,2,6,8] [(0,some (.row 2 136 (t1320.map Z1)))] [0] [_,_] ⟨Tryz.call195,Ze.ok x1314 x1315 x1316 t1320 e1321,trivial⟩ ?_
   refine sO hP hn hm [] [(7,iV .i64 x1316)] [0,1,2,6,7,8] [] [0] ?_
   refine rO hP hn hm [] [(8,iV .i64 (i64.wrap (x1316+(20:Int))))] [0,1,2,6,7,8] [] [0] ?_
   exact LWp.conv [(0,0)] [] [] (by kernel_rfl) (ih _ _ _ _ H)
  ·replace H:=iF c1317 H
   refine AWp.exit ?_
   obtain rfl:=sj H
   exact lf [(0,0)] [] [] (by kernel_rfl) ⟨rfl,rfl⟩
 ·obtain⟨x1322,x1323⟩:=o1730
  rintro e s ⟨rfl,rfl⟩
  obtain⟨t1326,e1327,H⟩:=Z4 H
  refine sR hP hn hm [(4,.call [(0,0)] [(0,0)] [] [] 1 (.tup []) [(0,some (.row 2 136 (t1326.map Z1)))])] [] [0,1,2,6] [(0,some (.row 2 136 (t1326.map Z1)))] [0] [_,_] ⟨Tryz.call195,Ze.ok x1322 x1323 a1 t1326 e1327,trivial⟩ ?_
  refine AWp.block ?_
  obtain⟨o1732,e1733,H⟩:=Z4 H
  refine AWp.loop (LWp.conv (inv:=[(0,0)]) (vk:=[]) (e0:=[]) (t:=⟨[(0,.own 0),(1,iV .i64 a1),(2,.im (.sc (.func (.func 183) #[] #[]))),(6,iV .i64 20)],[(0,some (.row 2 136 (t1326.map Z1)))],1⟩) (by kernel_rfl) ?_)
  refine LWp.mono (Q:=fun e s=>(match (generalizing:=false) o1732 with | x1729=>e = .exit 2∧s=⟨[],[(0,some (.row 2 136 (x1729.map Z1)))],1⟩)) (LWp.cv (Zs (fun body hbody => ?_))) ?_
  ·refine                                            Zf.l1.partial_correctness a1 (motive:=fun x1705 x1706 o1732=>LWp Γ body (fun e s=>∃ t,Cv Γ s t∧(match (generalizing:=false) o1732 with | x1729=>e = .exit 2∧t=⟨[],[(0,some (.row 2 136 (x1729.map Z1     )))],1⟩)) ⟨[(0,.own 0),(1,iV .i64 a1),(2,.im (.sc (.func (.func 183) #[] #[]))),(6,iV .i64 x1706)],[(0,some (.row 2 136 (x1705.map Z1     )))],1⟩) ?_ _ _ _ e1733
   clear H e1733 o1732;intro self ih x1705 x1706 o1732 H
   subst hbody
   refine LWp.round ?_
   refine AWp.seq ?_
   refine sO hP hn hm [] [(30,bV (decide (x1706<a1)))] [0,1,2,6,30] [] [0] ?_
   refine AWp.cond (decide (x1706<a1)) (by kernel_rfl) (fun c1707 => ?_) (fun c1707 => ?_)
   ·replace H:=iT c1707 H
    refine AWp.skip ?_
    refine AWp.block ?_
    refine sO hP hn hm [] [(7,iV .i64 0),(8,iV .i64 (i64.wrap ((2:Int)*x1706)))] [0,1,2,6,7,8] [] [0] ?_
    refine AWp.seq ?_
    refine AWp.block ?_
    obtain⟨o1734,e1735,H⟩:=Z4 H
    refine AWp.loop (LWp.conv (inv:=[(0,0)]) (vk:=[]) (e0:=[]) (t:=⟨[(0,.own 0),(1,iV .i64 a1),(2,.im (.sc (.func (.func 183) #[] #[]))),(6,iV .i64 x1706),(7,iV .i64 0),(8,iV .i64 (i64.wrap ((2:Int)*x1706)))],[(0,some (.row 2 136 (x1705.map Z1)))],1⟩) (by kernel_rfl) ?_)
    refine LWp.mono (Q:=fun e s=>(match (generalizing:=false) o1734 with | (x1721,x1722)=>e = .exit 4∧s=⟨[(0,.own 0),(1,iV .i64 a1),(2,.im (.sc (.func (.func 183) #[] #[]))),(6,iV .i64 x1706),(7,iV .i64 x1722)],[(0,some (.row 2 136 (x1721.map Z1)))],1⟩)) (LWp.cv (Zs (fun body hbody => ?_))) ?_
    ·refine                                            Zf.l2.partial_correctness a1 x1706 (motive:=fun x1713 x1714 x1715 o1734=>LWp Γ body (fun e s=>∃ t,Cv Γ s t∧(match (generalizing:=false) o1734 with | (x1721,x1722)=>e = .exit 4∧t=⟨[(0,.own 0),(1,iV .i64 a1),(2,.im (.sc (.func (.func 183) #[] #[]))),(6,iV .i64 x1706),(7,iV .i64 x1722)],[(0,some (.row 2 136 (x1721.map Z1     )))],1⟩)) ⟨[(0,.own 0),(1,iV .i64 a1),(2,.im (.sc (.func (.func 183) #[] #[]))),(6,iV .i64 x1706),(7,iV .i64 x1714),(8,iV .i64 x1715)],[(0,some (.row 2 136 (x1713.map Z1     )))],1⟩) ?_ _ _ _ _ e1735
     clear H e1735 o1734;intro self ih x1713 x1714 x1715 o1734 H
     subst hbody
     refine LWp.round ?_
     refine AWp.seq ?_
     refine sO hP hn hm [] [(35,bV (decide (x1715≤a1)))] [0,1,2,6,7,8,35] [] [0] ?_
     refine AWp.cond (decide (x1715≤a1)) (by kernel_rfl) (fun c1716 => ?_) (fun c1716 => ?_)
     ·replace H:=iT c1716 H
      refine AWp.skip ?_
      refine AWp.block ?_
      obtain⟨t1719,e1720,H⟩:=Z4 H
      refine sR hP hn hm [(7,.call [(0,0)] [(0,0)] [] [] 1 (.tup []) [(0,some (.row 2 136 (t1719.map Z1)))])] [] [0,1,2,6,8] [(0,some (.row 2 136 (t1719.map Z1)))] [0] [_,_] ⟨Tryz.call196,Z7.ok x1713 x1714 (i64.wrap (x1714+x1706)) x1715 t1719 e1720,trivial⟩ ?_
      refine sO hP hn hm [] [(7,iV .i64 x1715)] [0,1,2,6,7,8] [] [0] ?_
      refine rO hP hn hm [] [(8,iV .i64 (i64.wrap (x1715+(i64.wrap ((2:Int)*x1706)))))] [0,1,2,6,7,8] [] [0] ?_
      exact LWp.conv [(0,0)] [] [] (by kernel_rfl) (ih _ _ _ _ H)
     ·replace H:=iF c1716 H
      refine AWp.exit ?_
      obtain rfl:=sj H
      exact lf [(0,0)] [] [] (by kernel_rfl) ⟨rfl,rfl⟩
    ·obtain⟨x1721,x1722⟩:=o1734
     rintro e s ⟨rfl,rfl⟩
     refine AWp.seq ?_
     refine sO hP hn hm [] [(9,iV .i64 (i64.wrap (x1722+x1706)))] [0,1,2,6,7,9] [] [0] ?_
     refine sO hP hn hm [] [(54,bV (decide ((i64.wrap (x1722+x1706))<a1)))] [0,1,2,6,7,9,54] [] [0] ?_
     obtain⟨o1736,e1737,H⟩:=Z4 H
     refine AWp.mono (Q:=fun e s=>(match (generalizing:=false) o1736 with | x1728=>e = .normal∧s=⟨[(0,.own 0),(1,iV .i64 a1),(2,.im (.sc (.func (.func 183) #[] #[]))),(6,iV .i64 x1706)],[(0,some (.row 2 136 (x1728.map Z1)))],1⟩)) (AWp.cv ?_) ?_
     ·replace H:=e1737;clear e1737
      refine AWp.cond (decide ((i64.wrap (x1722+x1706))<a1)) (by kernel_rfl) (fun c1723 => ?_) (fun c1723 => ?_)
      ·replace H:=iT c1723 H
       obtain⟨t1726,e1727,H⟩:=Z4 H
       refine rG hP hn hm [(5,.call [(0,0)] [(0,0)] [] [] 1 (.tup []) [(0,some (.row 2 136 (t1726.map Z1)))])] [] [0,1,2,6] [(0,some (.row 2 136 (t1726.map Z1)))] [0] [_,_] ⟨Tryz.call196,Z7.ok x1721 x1722 (i64.wrap (x1722+x1706)) a1 t1726 e1727,trivial⟩ ?_
       obtain rfl:=sj H
       exact lf [(0,0)] [] [] (by kernel_rfl) ⟨rfl,rfl⟩
      ·replace H:=iF c1723 H
       refine AWp.skip ?_
       obtain rfl:=sj H
       exact lf [(0,0)] [] [] (by kernel_rfl) ⟨rfl,rfl⟩
     ·obtain⟨x1728,rfl⟩:∃ z,z=o1736:=⟨_,rfl⟩
      rintro e s ⟨rfl,rfl⟩
      refine rO hP hn hm [] [(6,iV .i64 (i64.wrap (x1706*(2:Int))))] [0,1,2,6] [] [0] ?_
      exact LWp.conv [(0,0)] [] [] (by kernel_rfl) (ih _ _ _ H)
   ·replace H:=iF c1707 H
    refine AWp.exit ?_
    obtain rfl:=sj H
    exact lf [(0,0)] [] [] (by kernel_rfl) ⟨rfl,rfl⟩
  ·obtain⟨x1729,rfl⟩:∃ z,z=o1732:=⟨_,rfl⟩
   rintro e s ⟨rfl,rfl⟩
   obtain rfl:=sj H
   exact Exists.intro ⟨[],[(0,some (.row 2 136 (x1729.map Z1)))],1⟩ (And.intro (fun _ _ h=>h.conv (inv:=[(0,0)]) (vk:=[]) (e0:=[]) (t:=⟨[],[(0,some (.row 2 136 (x1729.map Z1)))],1⟩) (by kernel_rfl)) (And.intro (.inr rfl) (And.intro rfl (And.intro (by kernel_rfl) (by kernel_rfl)))))
def Z0k.f (a0:List Z9):Option (List Z9):=(Zf.f a0 (a0.length:Int))>>=fun t1740=>some t1740
theorem Z0k.ok (a0:List Z9) (r:List Z9) (H:Z0k.f a0=some r):Pv.Fn Tryz.prog 182 [.own 0,.im (.sc (.func (.func 183) #[] #[]))] [(0,some (.row 2 136 (a0.map Z1)))] 1 (fun x o=>x = .tup []∧o=[(0,some (.row 2 136 (r.map Z1)))]):=by
 unfold Z0k.f at H
 refine Fn.bodyK [0] Tryz.func182 rfl rfl (fun Γ hP hn => ?_)
 have hm:Tryz.prog.follows .mixedOrders=true:=by kernel_rfl
 replace hn:Γ.n=9:=hn
 obtain⟨t1740,e1741,H⟩:=Z4 H
 refine rG hP hn hm [(2,.any (iV .i64 (a0.length:Int))),(4,.call [(0,0)] [(0,0)] [] [] 1 (.tup []) [(0,some (.row 2 136 (t1740.map Z1)))])] [] [] [(0,some (.row 2 136 (t1740.map Z1)))] [0] [((a0.map Z1).length:Int)=(a0.length:Int),_,_] ⟨by rw[Zr],Tryz.call189,Zf.ok a0 (a0.length:Int) t1740 e1741,trivial⟩ ?_
 obtain rfl:=sj H
 exact Exists.intro ⟨[],[(0,some (.row 2 136 (t1740.map Z1)))],1⟩ (And.intro (fun _ _ h=>h.conv (inv:=[(0,0)]) (vk:=[]) (e0:=[]) (t:=⟨[],[(0,some (.row 2 136 (t1740.map Z1)))],1⟩) (by kernel_rfl)) (And.intro (.inr rfl) (And.intro rfl (And.intro (by kernel_rfl) (by kernel_rfl)))))
def Z33.l0 (t1744:List Z9) (x1757:List Z9) (x1758:Int):Option (((List Z9)×Int) ⊕ (List Z9)):=if(decide (x1758<(t1744.length:Int)))=true then((at? t1744 x1758)>>=fun b1763=>((if(b1763.f1==(0:Int))=true then(some (.inr x1757)) else(((if(decide ((x1757.length:Int)>(0:Int)))=true then((at? x1757 (i64.wrap ((x1757.length:Int)-(1:Int))))>>=fun b1772=>some (b1772.f0==b1763.f0)) else(some false)):Option (Bool))>>=fun x1775=>((if x1775=true then((at? x1757 (i64.wrap ((x1757.length:Int)-(1:Int))))>>=fun b1782=>(Z2e.f [b1782.f1,b1763.f1])>>=fun t1785=>if(t1785.2 != (0:Int))=true then(some (.inl ([],t1785.2))) else(some (.inr (x1757.set (Int.toNat (i64.wrap ((x1757.length:Int)-(1:Int)))) (⟨b1782.f0,t1785.1⟩:Z9))))) else((chk ((x1757.length+[b1763].length)*16≤140737488355328))>>=fun _=>some (.inr (x1757++[b1763])))):Option (((List Z9)×Int) ⊕ (List Z9)))>>=fun oo=>match oo with | .inl rr=>(some (.inl rr)) | .inr x1790=>(some (.inr x1790)))):Option (((List Z9)×Int) ⊕ (List Z9)))>>=fun oo=>match oo with | .inl rr=>(some (.inl rr)) | .inr x1791=>(Z33.l0 t1744 x1791 (i64.wrap (x1758+(1:Int))))) else(some (.inr x1757))
partial_fixpoint
def Z33.f (a0:List Z9):Option ((List Z9)×Int):=(Z0u.f a0)>>=fun t1121=>(Z0k.f t1121)>>=fun t1744=>(Z33.l0 t1744 [] 0)>>=fun oo=>match oo with | .inl rr=>(some rr) | .inr x1792=>(some (x1792,0))
theorem Z33.ok (a0:List Z9) (r:(List Z9)×Int) (H:Z33.f a0=some r):Pv.Fn Tryz.prog 171 [.im (.row (a0.map Z1))] [] 0 (fun x o=>x = .tup [.own 0,iV .i64 r.2]∧o=[(0,some (.row 2 136 (r.1.map Z1)))]):=by
 unfold Z33.f at H
 refine Fn.bodyK [0] Tryz.func171 rfl rfl (fun Γ hP hn => ?_)
 have hm:Tryz.prog.follows .mixedOrders=true:=by kernel_rfl
 replace hn:Γ.n=68:=hn
 refine sO hP hn hm [] [] [0] [] [] ?_
 refine sO hP hn hm [] [(4,.none0)] [0,4] [] [] ?_
 obtain⟨t1121,e1122,H⟩:=Z4 H
 refine sR hP hn hm [(1,.call [] [(0,0)] [] [0] 0 (.own 0) [(0,some (.row 2 136 (t1121.map Z1)))])] [(0,.own 0)] [0,4] [(0,some (.row 2 136 (t1121.map Z1)))] [0] [_,_] ⟨Tryz.call181,Z0u.ok a0 t1121 e1122,trivial⟩ ?_
 obtain⟨t1744,e1745,H⟩:=Z4 H
 refine sR hP hn hm [(1,.call [(0,0)] [(0,0)] [] [] 1 (.tup []) [(0,some (.row 2 136 (t1744.map Z1)))])] [] [0,4] [(0,some (.row 2 136 (t1744.map Z1)))] [0] [_,_] ⟨Tryz.call182,Z0k.ok t1121 t1744 e1745,trivial⟩ ?_
 refine AWp.seq ?_
 refine sR hP hn hm [(1,.any (iV .i64 (t1744.length:Int)))] [(14,.own 0),(15,iV .i64 (t1744.length:Int)),(16,iV .i64 0)] [4,14,15,16] [] [0] [((t1744.map Z1).length:Int)=(t1744.length:Int)] ⟨by rw[Zr],trivial⟩ ?_
 refine AWp.block ?_
 obtain⟨o1793,e1794,H⟩:=Z4 H
 refine AWp.loop (LWp.conv (inv:=[(0,7)]) (vk:=[]) (e0:=[6]) (t:=⟨[(4,.own 6),(14,.own 7),(15,iV .i64 (t1744.length:Int)),(16,iV .i64 0)],[(6,some (.row 2 136 ([].map Z1))),(7,some (.row 2 136 (t1744.map Z1)))],0⟩) (by kernel_rfl) ?_)
 refine LWp.mono (Q:=fun e s=>(match (generalizing:=false) o1793 with | .inl rr=>e = .ret∧s.floor=0∧Z1y Tryz.prog Tryz.f171 s=some (.tup [.own 0,iV .i64 rr.2])∧([(0,s.obj 0)]:List (Nat×Option MObj))=[(0,some (.row 2 136 (rr.1.map Z1)))] | .inr x1792=>e = .exit 0∧s=⟨[(4,.own 19)],[(19,some (.row 2 136 (x1792.map Z1)))],0⟩)) (LWp.cv (Zs (fun body hbody => ?_))) ?_
 ·refine         Z33.l0.partial_correctness t1744 (motive:=fun x1757 x1758 o1793=>LWp Γ body (fun e s=>∃ t,Cv Γ s t∧(match (generalizing:=false) o1793 with | .inl rr=>e = .ret∧t.floor=0∧Z1y   Tryz.prog Tryz.f171 t=some (.tup [.own 0,iV .i64 rr.2])∧([(0,t.obj 0)]:List (Nat×Option MObj))=[(0,some (.row 2 136 (rr.1.map Z1     )))] | .inr x1792=>e = .exit 0∧t=⟨[(4,.own 19)],[(19,some (.row 2 136 (x1792.map Z1     )))],0⟩)) ⟨[(4,.own 6),(14,.own 7),(15,iV .i64 (t1744.length:Int)),(16,iV .i64 x1758)],[(6,some (.row 2 136 (x1757.map Z1     ))),(7,some (.row 2 136 (t1744.map Z1     )))],0⟩) ?_ _ _ _ e1794
  clear H e1794 o1793;intro self ih x1757 x1758 o1793 H
  subst hbody
  refine LWp.round ?_
  refine sO hP hn hm [] [(17,bV (decide (x1758<(t1744.length:Int))))] [4,14,15,16,17] [] [6,7] ?_
  refine AWp.seq ?_
  refine AWp.cond (decide (x1758<(t1744.length:Int))) (by kernel_rfl) (fun c1759 => ?_) (fun c1759 => ?_)
  ·replace H:=iT c1759 H
   refine AWp.skip ?_
   refine AWp.seq ?_
   refine AWp.block ?_
   obtain⟨b1763,p1764,q1765,H⟩:=Z02 H
   refine sR hP hn hm [(1,.c (Z1 b1763)),(2,.k 8)] [(6,.ptr 8 0 0)] [4,6,14,15,16] [(8,some (.box 136 (Z2m b1763)))] [6,7,8] [_,_,_] ⟨p1764,Z09 Z1 p1764 q1765,Zi Z1 q1765,trivial⟩ ?_
   refine sR hP hn hm [(1,.any (iV .i64 (x1757.length:Int)))] [(7,iV .i64 (x1757.length:Int))] [4,6,7,14,15,16] [] [6,7,8] [((x1757.map Z1).length:Int)=(x1757.length:Int)] ⟨by rw[Zr],trivial⟩ ?_
   refine AWp.block ?_
   refine sO hP hn hm [] [(26,bV (b1763.f1==(0:Int)))] [4,6,7,14,15,16,26] [] [6,7,8] ?_
   obtain⟨o1795,e1796,H⟩:=Z4 H
   refine AWp.mono (Q:=fun e s=>(match (generalizing:=false) o1795 with | .inl rr=>e = .ret∧s.floor=0∧Z1y Tryz.prog Tryz.f171 s=some (.tup [.own 0,iV .i64 rr.2])∧([(0,s.obj 0)]:List (Nat×Option MObj))=[(0,some (.row 2 136 (rr.1.map Z1)))] | .inr x1791=>e = .normal∧s=⟨[(4,.own 17),(14,.own 18),(15,iV .i64 (t1744.length:Int)),(16,iV .i64 x1758)],[(17,some (.row 2 136 (x1791.map Z1))),(18,some (.row 2 136 (t1744.map Z1)))],0⟩)) (AWp.cv ?_) ?_
   ·replace H:=e1796;clear e1796
    refine AWp.cond (b1763.f1==(0:Int)) (by kernel_rfl) (fun c1766 => ?_) (fun c1766 => ?_)
    ·replace H:=iT c1766 H
     refine AWp.skip ?_
     obtain rfl:=sj H
     exact lf [(6,17),(7,18)] [] [] (by kernel_rfl) ⟨rfl,rfl⟩
    ·replace H:=iF c1766 H
     refine AWp.seq ?_
     obtain⟨o1797,e1798,H⟩:=Z4 H
     refine AWp.mono (Q:=fun e s=>(match (generalizing:=false) o1797 with | x1775=>e = .normal∧s=⟨[(4,.own 9),(6,.ptr 10 0 0),(7,iV .i64 (x1757.length:Int)),(14,.own 11),(15,iV .i64 (t1744.length:Int)),(16,iV .i64 x1758),(30,bV x1775)],[(9,some (.row 2 136 (x1757.map Z1))),(10,some (.box 136 (Z2m b1763))),(11,some (.row 2 136 (t1744.map Z1)))],0⟩)) (AWp.cv ?_) ?_
     ·replace H:=e1798;clear e1798
      rcases Bool.eq_false_or_eq_true (decide ((x1757.length:Int)>(0:Int))) with c1771 | c1771
      ·replace H:=iT c1771 H
       obtain⟨b1772,p1773,q1774,H⟩:=Z02 H
       refine rG hP hn hm [(2,.b true),(8,.c (Z1 b1772))] [(30,bV (b1772.f0==b1763.f0)),(34,.own 6),(35,iV .i64 (x1757.length:Int)),(36,iV .i64 (i64.wrap ((x1757.length:Int)-(1:Int)))),(37,.ptr 6 (Int.toNat (i64.wrap ((x1757.length:Int)-(1:Int)))) 0),(38,.ptr 6 (Int.toNat (i64.wrap ((x1757.length:Int)-(1:Int)))) 0),(39,iV .i64 b1772.f0),(40,.ptr 8 0 0),(41,iV .i64 b1763.f0),(42,bV (b1772.f0==b1763.f0))] [4,6,7,14,15,16,30,34,35,36,37,38,39,40,41,42] [] [6,7,8] [_,_,_,_] ⟨c1771,p1773,Z09 Z1 p1773 q1774,Zi Z1 q1774,trivial⟩ ?_
       obtain rfl:=sj H
       exact lf [(6,9),(8,10),(7,11)] [] [] (by kernel_rfl) ⟨rfl,rfl⟩
      ·replace H:=iF c1771 H
       refine rG hP hn hm [(2,.b false)] [(30,bV false)] [4,6,7,14,15,16,30] [] [6,7,8] [_] ⟨c1771,trivial⟩ ?_
       obtain rfl:=sj H
       exact lf [(6,9),(8,10),(7,11)] [] [] (by kernel_rfl) ⟨rfl,rfl⟩
     ·obtain⟨x1775,rfl⟩:∃ z,z=o1797:=⟨_,rfl⟩
      rintro e s ⟨rfl,rfl⟩
      obtain⟨o1799,e1800,H⟩:=Z4 H
      refine AWp.mono (Q:=fun e s=>(match (generalizing:=false) o1799 with | .inl rr=>e = .ret∧s.floor=0∧Z1y Tryz.prog Tryz.f171 s=some (.tup [.own 0,iV .i64 rr.2])∧([(0,s.obj 0)]:List (Nat×Option MObj))=[(0,some (.row 2 136 (rr.1.map Z1)))] | .inr x1790=>e = .normal∧s=⟨[(4,.own 15),(14,.own 16),(15,iV .i64 (t1744.length:Int)),(16,iV .i64 x1758)],[(15,some (.row 2 136 (x1790.map Z1))),(16,some (.row 2 136 (t1744.map Z1)))],0⟩)) (AWp.cv ?_) ?_
      ·replace H:=e1800;clear e1800
       refine AWp.cond x1775 (by kernel_rfl) (fun c1776 => ?_) (fun c1776 => ?_)
       ·replace H:=iT c1776 H
        obtain⟨b1782,p1783,q1784,H⟩:=Z02 H
        obtain⟨t1785,e1786,H⟩:=Z4 H
        refine sR hP hn hm [(5,.c (Z1 b1782)),(8,.app 12 ([b1782.f1,b1763.f1].map (Z2 .u64))),(9,.call [] [] [12] [] 0 (.tup [iV .u64 t1785.1,iV .i64 t1785.2]) [])] [(8,iV .u64 t1785.1),(9,iV .i64 t1785.2)] [4,7,8,9,14,15,16] [] [9,11] [_,_,_,[b1782.f1,b1763.f1].map (Z2 .u64)=[[iI .u64 b1782.f1],[iI .u64 b1763.f1]],_,_] ⟨p1783,Z09 Z1 p1783 q1784,Zi Z1 q1784,by exact rfl,Tryz.call126,Z2e.ok [b1782.f1,b1763.f1] t1785 e1786,trivial⟩ ?_
        refine AWp.seq ?_
        refine sO hP hn hm [] [(58,bV (t1785.2 != (0:Int)))] [4,7,8,9,14,15,16,58] [] [9,11] ?_
        refine AWp.cond (t1785.2 != (0:Int)) (by kernel_rfl) (fun c1787 => ?_) (fun c1787 => ?_)
        ·replace H:=iT c1787 H
         refine sO hP hn hm [] [(2,.none0),(3,iV .i64 t1785.2)] [2,3] [] [] ?_
         refine AWp.conv (inv:=[]) (vk:=[]) (e0:=[0]) (t:=⟨[(2,.own 0),(3,iV .i64 t1785.2)],[(0,some (.row 2 136 ([].map Z1)))],0⟩) (by kernel_rfl) ?_
         refine AWp.ret ?_
         obtain rfl:=sj H
         exact rl rfl rfl (by kernel_rfl) (by kernel_rfl)
        ·replace H:=iF c1787 H
         refine AWp.skip ?_
         refine rG hP hn hm [(6,.put (Z1 b1782) ((x1757.set (Int.toNat (i64.wrap ((x1757.length:Int)-(1:Int)))) (⟨b1782.f0,t1785.1⟩:Z9)).map Z1))] [] [4,14,15,16] [(9,some (.row 2 136 ((x1757.set (Int.toNat (i64.wrap ((x1757.length:Int)-(1:Int)))) (⟨b1782.f0,t1785.1⟩:Z9)).map Z1)))] [9,11] [_,_,_,(x1757.set (Int.toNat (i64.wrap ((x1757.length:Int)-(1:Int)))) (⟨b1782.f0,t1785.1⟩:Z9)).map Z1=(x1757.map Z1).set (Int.toNat (i64.wrap ((x1757.length:Int)-(1:Int)))) (Z0t (Z1 b1782) 1 [iI .u64 t1785.1])] ⟨p1783,Z09 Z1 p1783 q1784,Zi Z1 q1784,by exact set1 _ _ _ _,trivial⟩ ?_
         obtain rfl:=sj H
         exact lf [(9,15),(11,16)] [] [] (by kernel_rfl) ⟨rfl,rfl⟩
       ·replace H:=iF c1776 H
        obtain⟨c1789,H⟩:=Z10 H
        refine rG hP hn hm [(2,.app 13 ([b1763].map Z1)),(3,.app 14 ((x1757++[b1763]).map Z1))] [(4,.own 14)] [4,14,15,16] [(14,some (.row 2 136 ((x1757++[b1763]).map Z1)))] [11,14] [[b1763].map Z1=[[iI .i64 b1763.f0,iI .u64 b1763.f1]],(x1757++[b1763]).map Z1=(x1757.map Z1)++([b1763].map Z1),∀ c∈([b1763].map Z1),c.length=2,∀ c∈([b1763].map Z1),Z16 (c.map .im)=true,((x1757.map Z1).length+([b1763].map Z1).length)*16≤140737488355328] ⟨by exact rfl,by simp,by exact Z12 _ _ _ (fun _=>rfl),by exact Z14 _ _ (fun _=>rfl),by simpa using c1789,trivial⟩ ?_
        obtain rfl:=sj H
        exact lf [(14,15),(11,16)] [] [] (by kernel_rfl) ⟨rfl,rfl⟩
      ·rcases o1799 with rr | x1790
       ·skip
        rintro e s ⟨rfl,hfl,hres⟩
        obtain rfl:=sj H
        exact Exists.intro _ (And.intro (fun _ _ h=>h) (And.intro rfl (And.intro hfl hres)))
       ·skip
        rintro e s ⟨rfl,rfl⟩
        obtain rfl:=sj H
        exact lf [(15,17),(16,18)] [] [] (by kernel_rfl) ⟨rfl,rfl⟩
   ·rcases o1795 with rr | x1791
    ·skip
     rintro e s ⟨rfl,hfl,hres⟩
     obtain rfl:=sj H
     exact Exists.intro _ (And.intro (fun _ _ h=>h) (And.intro rfl (And.intro hfl hres)))
    ·skip
     rintro e s ⟨rfl,rfl⟩
     refine rO hP hn hm [] [(16,iV .i64 (i64.wrap (x1758+(1:Int))))] [4,14,15,16] [] [17,18] ?_
     exact LWp.conv [(17,6),(18,7)] [] [] (by kernel_rfl) (ih _ _ _ H)
  ·replace H:=iF c1759 H
   refine AWp.exit ?_
   obtain rfl:=sj H
   exact lf [(6,19)] [] [] (by kernel_rfl) ⟨rfl,rfl⟩
 ·rcases o1793 with rr | x1792
  ·skip
   rintro e s ⟨rfl,hfl,hres⟩
   obtain rfl:=sj H
   exact Exists.intro _ (And.intro (fun _ _ h=>h) (And.intro (.inl rfl) (And.intro hfl hres)))
  ·skip
   rintro e s ⟨rfl,rfl⟩
   refine sO hP hn hm [] [(2,.own 19),(3,iV .i64 0)] [2,3] [] [19] ?_
   refine AWp.conv (inv:=[(19,0)]) (vk:=[]) (e0:=[]) (t:=⟨[(2,.own 0),(3,iV .i64 0)],[(0,some (.row 2 136 (x1792.map Z1)))],0⟩) (by kernel_rfl) ?_
   refine AWp.ret ?_
   obtain rfl:=sj H
   exact rl (.inl rfl) rfl (by kernel_rfl) (by kernel_rfl)
def Z3q.f (a0:Z0f) (a1:List Z9) (a2:List Z9):Option (Z0f×Int):=(Z33.f a1)>>=fun t1803=>(Z33.f a2)>>=fun t1807=>if((if t1807.2>t1803.2 then t1807.2 else t1803.2) != (0:Int))=true then(some ((⟨0,0,0,0,0,0,[],[]⟩:Z0f),(if t1807.2>t1803.2 then t1807.2 else t1803.2))) else((Z0w.f [t1803.1,t1807.1,[(⟨0,a0.f3⟩:Z9)]])>>=fun t1814=>if(t1814.2 != (0:Int))=true then(some ((⟨0,0,0,0,0,0,[],[]⟩:Z0f),t1814.2)) else((Z0j.f (⟨a0.f0,a0.f1,a0.f2,a0.f3,t1814.1,a0.f5,t1803.1,t1807.1⟩:Z0f))>>=fun t1819=>if(t1819 != (0:Int))=true then(some ((⟨0,0,0,0,0,0,[],[]⟩:Z0f),t1819)) else(some ((⟨a0.f0,a0.f1,a0.f2,a0.f3,t1814.1,a0.f5,t1803.1,t1807.1⟩:Z0f),0))))
theorem Z3q.ok (a0:Z0f) (a1:List Z9) (a2:List Z9) (r:Z0f×Int) (H:Z3q.f a0 a1 a2=some r):Pv.Fn Tryz.prog 153 [.agg (Z08 a0),.im (.row (a1.map Z1)),.im (.row (a2.map Z1))] [] 0 (fun x o=>x = .tup [.agg (Z08 (r.1)),iV .i64 r.2]∧o=[]):=by
 unfold Z3q.f at H
 refine Fn.bodyK [] Tryz.func153 rfl rfl (fun Γ hP hn => ?_)
 have hm:Tryz.prog.follows .mixedOrders=true:=by kernel_rfl
 replace hn:Γ.n=55:=hn
 refine sO hP hn hm [(0,.k 0),(1,.k 1)] [(3,.ptr 0 0 0),(6,.ptr 1 0 0)] [1,2,3,6] [(0,some (.box 48 (Z08 a0))),(1,some (.box 48 [iV .i64 0,iV .i64 0,iV .i64 0,iV .u64 0,iV .u64 0,iV .i64 0,.none0,.none0]))] [0,1] ?_
 refine sO hP hn hm [] [] [1,2,3,6] [] [0,1] ?_
 obtain⟨t1803,e1804,H⟩:=Z4 H
 refine sR hP hn hm [(1,.call [] [(0,2)] [] [2] 0 (.tup [.own 0,iV .i64 t1803.2]) [(0,some (.row 2 136 (t1803.1.map Z1)))])] [(8,iV .i64 t1803.2)] [2,3,6,8] [(0,some (.box 48 [iV .i64 a0.f0,iV .i64 a0.f1,iV .i64 a0.f2,iV .u64 a0.f3,iV .u64 a0.f4,iV .i64 a0.f5,.own 2,.im (.row (a0.f7.map Z1))])),(2,some (.row 2 136 (t1803.1.map Z1)))] [0,1,2] [_,_] ⟨Tryz.call171,Z33.ok a1 t1803 e1804,trivial⟩ ?_
 obtain⟨t1807,e1808,H⟩:=Z4 H
 refine sR hP hn hm [(1,.call [] [(0,3)] [] [3] 0 (.tup [.own 0,iV .i64 t1807.2]) [(0,some (.row 2 136 (t1807.1.map Z1)))])] [(9,iV .i64 t1807.2)] [3,6,8,9] [(0,some (.box 48 [iV .i64 a0.f0,iV .i64 a0.f1,iV .i64 a0.f2,iV .u64 a0.f3,iV .u64 a0.f4,iV .i64 a0.f5,.own 2,.own 3])),(3,some (.row 2 136 (t1807.1.map Z1)))] [0,1,2,3] [_,_] ⟨Tryz.call171,Z33.ok a2 t1807 e1808,trivial⟩ ?_
 refine AWp.seq ?_
 refine sO hP hn hm [(2,.more xMax)] [(8,iV .i64 (if t1807.2>t1803.2 then t1807.2 else t1803.2))] [3,6,8] [] [0,1,2,3] ?_
 refine sO hP hn hm [] [(27,bV ((if t1807.2>t1803.2 then t1807.2 else t1803.2) != (0:Int)))] [3,6,8,27] [] [0,1,2,3] ?_
 refine AWp.cond ((if t1807.2>t1803.2 then t1807.2 else t1803.2) != (0:Int)) (by kernel_rfl) (fun c1809 => ?_) (fun c1809 => ?_)
 ·replace H:=iT c1809 H
  refine sO hP hn hm [] [(7,iV .i64 (if t1807.2>t1803.2 then t1807.2 else t1803.2))] [6,7] [] [1] ?_
  refine AWp.conv (inv:=[(1,0)]) (vk:=[]) (e0:=[]) (t:=⟨[(6,.ptr 0 0 0),(7,iV .i64 (if t1807.2>t1803.2 then t1807.2 else t1803.2))],[(0,some (.box 48 (Z08 ((⟨0,0,0,0,0,0,[],[]⟩:Z0f)))))],0⟩) (by kernel_rfl) ?_
  refine AWp.ret ?_
  obtain rfl:=sj H
  exact rl (.inl rfl) rfl (by kernel_rfl) (by kernel_rfl)
 ·replace H:=iF c1809 H
  refine AWp.skip ?_
  refine AWp.seq ?_
  refine AWp.seq ?_
  refine AWp.conv (inv:=[(0,0),(1,1)]) (vk:=[2,3]) (e0:=[]) (t:=⟨[(3,.ptr 0 0 0),(6,.ptr 1 0 0),(8,iV .i64 (if t1807.2>t1803.2 then t1807.2 else t1803.2)),(27,bV ((if t1807.2>t1803.2 then t1807.2 else t1803.2) != (0:Int)))],[(0,some (.box 48 (Z08 ⟨a0.f0,a0.f1,a0.f2,a0.f3,a0.f4,a0.f5,t1803.1,t1807.1⟩))),(1,some (.box 48 [iV .i64 0,iV .i64 0,iV .i64 0,iV .u64 0,iV .u64 0,iV .i64 0,.none0,.none0]))],0⟩) (by kernel_rfl) ?_
  obtain⟨t1814,e1815,H⟩:=Z4 H
  refine rG hP hn hm [(7,.more (xFz (.app 4 ([(⟨0,a0.f3⟩:Z9)].map Z1)))),(8,.app 5 ([t1803.1,t1807.1,[(⟨0,a0.f3⟩:Z9)]].map (Z1e Z1))),(9,.call [] [] [5] [] 0 (.tup [iV .u64 t1814.1,iV .i64 t1814.2]) [])] [(8,iV .i64 t1814.2)] [3,6,8] [(0,some (.box 48 (Z08 ⟨a0.f0,a0.f1,a0.f2,a0.f3,t1814.1,a0.f5,t1803.1,t1807.1⟩)))] [0,1] [[(⟨0,a0.f3⟩:Z9)].map Z1=[[iI .i64 0,iI .u64 a0.f3]],[t1803.1,t1807.1,[(⟨0,a0.f3⟩:Z9)]].map (Z1e Z1)=[[.row (t1803.1.map Z1)],[.row (t1807.1.map Z1)],[.row ([(⟨0,a0.f3⟩:Z9)].map Z1)]],_,_] ⟨by exact rfl,by exact rfl,Tryz.call95,Z0w.ok [t1803.1,t1807.1,[(⟨0,a0.f3⟩:Z9)]] t1814 e1815,trivial⟩ ?_
  refine sO hP hn hm [] [(45,bV (t1814.2 != (0:Int)))] [3,6,8,45] [] [0,1] ?_
  refine AWp.cond (t1814.2 != (0:Int)) (by kernel_rfl) (fun c1816 => ?_) (fun c1816 => ?_)
  ·replace H:=iT c1816 H
   refine sO hP hn hm [] [(7,iV .i64 t1814.2)] [6,7] [] [1] ?_
   refine AWp.conv (inv:=[(1,0)]) (vk:=[]) (e0:=[]) (t:=⟨[(6,.ptr 0 0 0),(7,iV .i64 t1814.2)],[(0,some (.box 48 (Z08 ((⟨0,0,0,0,0,0,[],[]⟩:Z0f)))))],0⟩) (by kernel_rfl) ?_
   refine AWp.ret ?_
   obtain rfl:=sj H
   exact rl (.inl rfl) rfl (by kernel_rfl) (by kernel_rfl)
  ·replace H:=iF c1816 H
   refine AWp.skip ?_
   refine AWp.seq ?_
   obtain⟨t1819,e1820,H⟩:=Z4 H
   refine sR hP hn hm [(1,.call [] [] [] [] 0 (iV .i64 t1819) [])] [(10,iV .i64 t1819)] [3,6,10] [] [0,1] [_,_] ⟨Tryz.call57,Z0j.ok (⟨a0.f0,a0.f1,a0.f2,a0.f3,t1814.1,a0.f5,t1803.1,t1807.1⟩:Z0f) t1819 e1820,trivial⟩ ?_
   refine sO hP hn hm [] [(51,bV (t1819 != (0:Int)))] [3,6,10,51] [] [0,1] ?_
   refine AWp.cond (t1819 != (0:Int)) (by kernel_rfl) (fun c1821 => ?_) (fun c1821 => ?_)
   ·replace H:=iT c1821 H
    refine sO hP hn hm [] [(7,iV .i64 t1819)] [6,7] [] [1] ?_
    refine AWp.conv (inv:=[(1,0)]) (vk:=[]) (e0:=[]) (t:=⟨[(6,.ptr 0 0 0),(7,iV .i64 t1819)],[(0,some (.box 48 (Z08 ((⟨0,0,0,0,0,0,[],[]⟩:Z0f)))))],0⟩) (by kernel_rfl) ?_
    refine AWp.ret ?_
    obtain rfl:=sj H
    exact rl (.inl rfl) rfl (by kernel_rfl) (by kernel_rfl)
   ·replace H:=iF c1821 H
    refine AWp.skip ?_
    refine sO hP hn hm [] [(7,iV .i64 0)] [6,7] [(1,some (.box 48 (Z08 ⟨a0.f0,a0.f1,a0.f2,a0.f3,t1814.1,a0.f5,t1803.1,t1807.1⟩)))] [1] ?_
    refine AWp.conv (inv:=[(1,0)]) (vk:=[]) (e0:=[]) (t:=⟨[(6,.ptr 0 0 0),(7,iV .i64 0)],[(0,some (.box 48 (Z08 ((⟨a0.f0,a0.f1,a0.f2,a0.f3,t1814.1,a0.f5,t1803.1,t1807.1⟩:Z0f)))))],0⟩) (by kernel_rfl) ?_
    refine AWp.ret ?_
    obtain rfl:=sj H
    exact rl (.inl rfl) rfl (by kernel_rfl) (by kernel_rfl)
def Z3g.f (a0:Z0f) (a1:List Z9) (a2:List Z9) (a3:Int):Option (Z0f×Int):=(Z31.f a0 a1 a3)>>=fun t1058=>(Z31.f a0 a2 a3)>>=fun t1060=>(Z11.f a1 a0.f0 a0.f1 a0.f2 a0.f3 a0.f4 a0.f5 a0.f6 a0.f7 (if t1060>t1058 then t1060 else t1058))>>=fun t1115=>(Z11.f a2 a0.f0 a0.f1 a0.f2 t1115.2 a0.f4 a0.f5 a0.f6 a0.f7 (if t1060>t1058 then t1060 else t1058))>>=fun t1117=>(Z3q.f (⟨a0.f0,a0.f1,(if t1060>t1058 then t1060 else t1058),t1117.2,a0.f4,a0.f5,a0.f6,a0.f7⟩:Z0f) t1115.1 t1117.1)>>=fun t1826=>some ((t1826.1),t1826.2)
theorem Z3g.ok (a0:Z0f) (a1:List Z9) (a2:List Z9) (a3:Int) (r:Z0f×Int) (H:Z3g.f a0 a1 a2 a3=some r):Pv.Fn Tryz.prog 193 [.agg (Z08 a0),.im (.row (a1.map Z1)),.im (.row (a2.map Z1)),iV .i64 a3] [] 0 (fun x o=>x = .tup [.agg (Z08 (r.1)),iV .i64 r.2]∧o=[]):=by
 unfold Z3g.f at H
 refine Fn.bodyK [] Tryz.func193 rfl rfl (fun Γ hP hn => ?_)
 have hm:Tryz.prog.follows .mixedOrders=true:=by kernel_rfl
 replace hn:Γ.n=35:=hn
 refine sO hP hn hm [(0,.k 0),(1,.k 1),(2,.k 2)] [(4,.ptr 0 0 0),(7,.ptr 1 0 0),(8,.ptr 2 0 0)] [1,2,4,7,8] [(0,some (.box 48 (Z08 a0))),(1,some (.box 3 [iV .i64 a3])),(2,some (.box 48 [iV .i64 0,iV .i64 0,iV .i64 0,iV .u64 0,iV .u64 0,iV .i64 0,.none0,.none0]))] [0,1,2] ?_
 obtain⟨t1058,e1059,H⟩:=Z4 H
 obtain⟨t1060,e1061,H⟩:=Z4 H
 refine sR hP hn hm [(3,.call [] [] [] [] 0 (iV .i64 t1058) []),(7,.call [] [] [] [] 0 (iV .i64 t1060) []),(8,.more xMax)] [] [1,2,4,7,8] [(1,some (.box 3 [iV .i64 (if t1060>t1058 then t1060 else t1058)]))] [0,1,2] [_,_,_,_] ⟨Tryz.call199,Z31.ok a0 a1 a3 t1058 e1059,Tryz.call199,Z31.ok a0 a2 a3 t1060 e1061,trivial⟩ ?_
 refine sO hP hn hm [(0,.more xFunc)] [(10,.fn 200 [.ptr 0 0 0,.ptr 1 0 0])] [1,2,4,7,8,10] [] [0,1,2] ?_
 obtain⟨t1115,e1116,H⟩:=Z4 H
 obtain⟨t1117,e1118,H⟩:=Z4 H
 refine sR hP hn hm [(2,.call [(0,0),(1,1)] [(0,0),(1,1),(2,3)] [] [3] 2 (.own 2) [(0,some (.box 48 (Z08 ⟨a0.f0,a0.f1,a0.f2,t1115.2,a0.f4,a0.f5,a0.f6,a0.f7⟩))),(1,some (.box 3 [iV .i64 (if t1060>t1058 then t1060 else t1058)])),(2,some (.row 2 136 (t1115.1.map Z1)))]),(5,.call [(0,0),(1,1)] [(0,0),(1,1),(2,4)] [] [4] 2 (.own 2) [(0,some (.box 48 (Z08 ⟨a0.f0,a0.f1,a0.f2,t1117.2,a0.f4,a0.f5,a0.f6,a0.f7⟩))),(1,some (.box 3 [iV .i64 (if t1060>t1058 then t1060 else t1058)])),(2,some (.row 2 136 (t1117.1.map Z1)))])] [(1,.own 3),(2,.own 4)] [1,2,4,7,8] [(0,some (.box 48 (Z08 ⟨a0.f0,a0.f1,a0.f2,t1117.2,a0.f4,a0.f5,a0.f6,a0.f7⟩))),(3,some (.row 2 136 (t1115.1.map Z1))),(4,some (.row 2 136 (t1117.1.map Z1)))] [0,1,2,3,4] [_,_,_,_] ⟨Tryz.call200,Z11.ok a1 a0.f0 a0.f1 a0.f2 a0.f3 a0.f4 a0.f5 a0.f6 a0.f7 (if t1060>t1058 then t1060 else t1058) t1115 e1116,Tryz.call200,Z11.ok a2 a0.f0 a0.f1 a0.f2 t1115.2 a0.f4 a0.f5 a0.f6 a0.f7 (if t1060>t1058 then t1060 else t1058) t1117 e1118,trivial⟩ ?_
 refine sO hP hn hm [] [] [1,2,4,8] [(0,some (.box 48 (Z08 ⟨a0.f0,a0.f1,(if t1060>t1058 then t1060 else t1058),t1117.2,a0.f4,a0.f5,a0.f6,a0.f7⟩)))] [0,2,3,4] ?_
 refine AWp.seq ?_
 refine AWp.conv (inv:=[(2,2),(0,0)]) (vk:=[3,4]) (e0:=[]) (t:=⟨[(1,.im (.row (t1115.1.map Z1))),(2,.im (.row (t1117.1.map Z1))),(4,.ptr 0 0 0),(8,.ptr 2 0 0)],[(0,some (.box 48 (Z08 ⟨a0.f0,a0.f1,(if t1060>t1058 then t1060 else t1058),t1117.2,a0.f4,a0.f5,a0.f6,a0.f7⟩))),(2,some (.box 48 [iV .i64 0,iV .i64 0,iV .i64 0,iV .u64 0,iV .u64 0,iV .i64 0,.none0,.none0]))],0⟩) (by kernel_rfl) ?_
 obtain⟨t1826,e1827,H⟩:=Z4 H
 refine rG hP hn hm [(3,.call [] [] [] [] 0 (.tup [.agg (Z08 (t1826.1)),iV .i64 t1826.2]) [])] [(9,iV .i64 t1826.2)] [8,9] [(2,some (.box 48 (Z08 (t1826.1))))] [2] [_,_] ⟨Tryz.call153,Z3q.ok (⟨a0.f0,a0.f1,(if t1060>t1058 then t1060 else t1058),t1117.2,a0.f4,a0.f5,a0.f6,a0.f7⟩:Z0f) t1115.1 t1117.1 t1826 e1827,trivial⟩ ?_
 refine AWp.conv (inv:=[(2,0)]) (vk:=[]) (e0:=[]) (t:=⟨[(8,.ptr 0 0 0),(9,iV .i64 t1826.2)],[(0,some (.box 48 (Z08 ((t1826.1)))))],0⟩) (by kernel_rfl) ?_
 refine AWp.ret ?_
 obtain rfl:=sj H
 exact rl (.inl rfl) rfl (by kernel_rfl) (by kernel_rfl)
def Z47.f (a0:Z0f) (a1:Int):Option (Z0f×Int):=(((Z0d.f a1)>>=fun t932=>if(!t932)=true then(some true) else(some (decide (a1>a0.f1)))):Option (Bool))>>=fun x935=>if x935=true then(some ((⟨0,0,0,0,0,0,[],[]⟩:Z0f),20)) else((Z32.f a0.f6 a0.f1 a1)>>=fun t999=>(Z32.f a0.f7 a0.f1 a1)>>=fun t1001=>(Z3g.f (⟨a0.f0,a1,a0.f2,a0.f3,a0.f4,a0.f5,a0.f6,a0.f7⟩:Z0f) t999 t1001 a0.f2)>>=fun t1832=>some ((t1832.1),t1832.2))
theorem Z47.ok (a0:Z0f) (a1:Int) (r:Z0f×Int) (H:Z47.f a0 a1=some r):Pv.Fn Tryz.prog 187 [.agg (Z08 a0),iV .i64 a1] [] 0 (fun x o=>x = .tup [.agg (Z08 (r.1)),iV .i64 r.2]∧o=[]):=by
 unfold Z47.f at H
 refine Fn.bodyK [] Tryz.func187 rfl rfl (fun Γ hP hn => ?_)
 have hm:Tryz.prog.follows .mixedOrders=true:=by kernel_rfl
 replace hn:Γ.n=41:=hn
 refine sO hP hn hm [(0,.k 0),(1,.k 1)] [(2,.ptr 0 0 0),(4,.ptr 1 0 0)] [1,2,4] [(0,some (.box 48 (Z08 a0))),(1,some (.box 48 [iV .i64 0,iV .i64 0,iV .i64 0,iV .u64 0,iV .u64 0,iV .i64 0,.none0,.none0]))] [0,1] ?_
 refine AWp.seq ?_
 refine AWp.seq ?_
 obtain⟨o1834,e1835,H⟩:=Z4 H
 refine AWp.mono (Q:=fun e s=>(match (generalizing:=false) o1834 with | x935=>e = .normal∧s=⟨[(1,iV .i64 a1),(2,.ptr 2 0 0),(4,.ptr 3 0 0),(17,bV x935)],[(2,some (.box 48 (Z08 a0))),(3,some (.box 48 [iV .i64 0,iV .i64 0,iV .i64 0,iV .u64 0,iV .u64 0,iV .i64 0,.none0,.none0]))],0⟩)) (AWp.cv ?_) ?_
 ·replace H:=e1835;clear e1835
  obtain⟨t932,e933,H⟩:=Z4 H
  rcases Bool.eq_false_or_eq_true (!t932) with c934 | c934
  ·replace H:=iT c934 H
   refine rG hP hn hm [(1,.call [] [] [] [] 0 (bV t932) []),(3,.b true)] [(17,bV true)] [1,2,4,17] [] [0,1] [_,_,_] ⟨Tryz.call93,Z0d.ok a1 t932 e933,c934,trivial⟩ ?_
   obtain rfl:=sj H
   exact lf [(0,2),(1,3)] [] [] (by kernel_rfl) ⟨rfl,rfl⟩
  ·replace H:=iF c934 H
   refine rG hP hn hm [(1,.call [] [] [] [] 0 (bV t932) []),(3,.b false)] [(17,bV (decide (a1>a0.f1)))] [1,2,4,17] [] [0,1] [_,_,_] ⟨Tryz.call93,Z0d.ok a1 t932 e933,c934,trivial⟩ ?_
   obtain rfl:=sj H
   exact lf [(0,2),(1,3)] [] [] (by kernel_rfl) ⟨rfl,rfl⟩
 ·obtain⟨x935,rfl⟩:∃ z,z=o1834:=⟨_,rfl⟩
  rintro e s ⟨rfl,rfl⟩
  refine AWp.cond x935 (by kernel_rfl) (fun c936 => ?_) (fun c936 => ?_)
  ·replace H:=iT c936 H
   refine sO hP hn hm [] [(5,iV .i64 20)] [4,5] [] [3] ?_
   refine AWp.conv (inv:=[(3,0)]) (vk:=[]) (e0:=[]) (t:=⟨[(4,.ptr 0 0 0),(5,iV .i64 20)],[(0,some (.box 48 (Z08 ((⟨0,0,0,0,0,0,[],[]⟩:Z0f)))))],0⟩) (by kernel_rfl) ?_
   refine AWp.ret ?_
   obtain rfl:=sj H
   exact rl (.inl rfl) rfl (by kernel_rfl) (by kernel_rfl)
  ·replace H:=iF c936 H
   refine AWp.skip ?_
   refine sO hP hn hm [] [(6,iV .i64 a0.f1)] [1,2,4,6] [] [2,3] ?_
   refine sO hP hn hm [] [] [1,2,4,6] [(2,some (.box 48 (Z08 ⟨a0.f0,a1,a0.f2,a0.f3,a0.f4,a0.f5,a0.f6,a0.f7⟩)))] [2,3] ?_
   obtain⟨t999,e1000,H⟩:=Z4 H
   obtain⟨t1001,e1002,H⟩:=Z4 H
   refine sR hP hn hm [(4,.call [] [(0,4)] [] [4] 0 (.own 0) [(0,some (.row 2 136 (t999.map Z1)))]),(9,.call [] [(0,5)] [] [5] 0 (.own 0) [(0,some (.row 2 136 (t1001.map Z1)))])] [(7,.own 4),(8,.own 5)] [2,4,7,8] [(4,some (.row 2 136 (t999.map Z1))),(5,some (.row 2 136 (t1001.map Z1)))] [2,3,4,5] [_,_,_,_] ⟨Tryz.call192,Z32.ok a0.f6 a0.f1 a1 t999 e1000,Tryz.call192,Z32.ok a0.f7 a0.f1 a1 t1001 e1002,trivial⟩ ?_
   refine AWp.seq ?_
   refine AWp.conv (inv:=[(2,2),(3,3)]) (vk:=[4,5]) (e0:=[]) (t:=⟨[(2,.ptr 2 0 0),(4,.ptr 3 0 0),(7,.im (.row (t999.map Z1))),(8,.im (.row (t1001.map Z1)))],[(2,some (.box 48 (Z08 ⟨a0.f0,a1,a0.f2,a0.f3,a0.f4,a0.f5,a0.f6,a0.f7⟩))),(3,some (.box 48 [iV .i64 0,iV .i64 0,iV .i64 0,iV .u64 0,iV .u64 0,iV .i64 0,.none0,.none0]))],0⟩) (by kernel_rfl) ?_
   obtain⟨t1832,e1833,H⟩:=Z4 H
   refine rG hP hn hm [(5,.call [] [] [] [] 0 (.tup [.agg (Z08 (t1832.1)),iV .i64 t1832.2]) [])] [(5,iV .i64 t1832.2)] [4,5] [(3,some (.box 48 (Z08 (t1832.1))))] [3] [_,_] ⟨Tryz.call193,Z3g.ok (⟨a0.f0,a1,a0.f2,a0.f3,a0.f4,a0.f5,a0.f6,a0.f7⟩:Z0f) t999 t1001 a0.f2 t1832 e1833,trivial⟩ ?_
   refine AWp.conv (inv:=[(3,0)]) (vk:=[]) (e0:=[]) (t:=⟨[(4,.ptr 0 0 0),(5,iV .i64 t1832.2)],[(0,some (.box 48 (Z08 ((t1832.1)))))],0⟩) (by kernel_rfl) ?_
   refine AWp.ret ?_
   obtain rfl:=sj H
   exact rl (.inl rfl) rfl (by kernel_rfl) (by kernel_rfl)
def Z4n.f (a0:Z0f):Option (Z0f):=(Z0u.f a0.f6)>>=fun t1852=>(Z0u.f a0.f7)>>=fun t1854=>some (⟨a0.f0,a0.f1,a0.f2,a0.f3,a0.f4,a0.f5,t1852,t1854⟩:Z0f)
theorem Z4n.ok (a0:Z0f) (r:Z0f) (H:Z4n.f a0=some r):Pv.Fn Tryz.prog 194 [.agg (Z08 a0)] [] 0 (fun x o=>x = .agg [iV .i64 ((r).f0),iV .i64 ((r).f1),iV .i64 ((r).f2),iV .u64 ((r).f3),iV .u64 ((r).f4),iV .i64 ((r).f5),.own 0,.own 1]∧o=[(0,some (.row 2 136 (((r).f6).map Z1))),(1,some (.row 2 136 (((r).f7).map Z1)))]):=by
 unfold Z4n.f at H
 refine Fn.bodyK [0,1] Tryz.func194 rfl rfl (fun Γ hP hn => ?_)
 have hm:Tryz.prog.follows .mixedOrders=true:=by kernel_rfl
 replace hn:Γ.n=12:=hn
 refine sO hP hn hm [(0,.k 0),(1,.k 1)] [(1,.ptr 0 0 0),(2,.ptr 1 0 0)] [1,2] [(0,some (.box 48 (Z08 a0))),(1,some (.box 48 [iV .i64 0,iV .i64 0,iV .i64 0,iV .u64 0,iV .u64 0,iV .i64 0,.none0,.none0]))] [0,1] ?_
 obtain⟨t1852,e1853,H⟩:=Z4 H
 obtain⟨t1854,e1855,H⟩:=Z4 H
 refine sR hP hn hm [(2,.call [] [(0,2)] [] [2] 0 (.own 0) [(0,some (.row 2 136 (t1852.map Z1)))]),(5,.call [] [(0,3)] [] [3] 0 (.own 0) [(0,some (.row 2 136 (t1854.map Z1)))])] [] [1,2] [(0,some (.box 48 [iV .i64 a0.f0,iV .i64 a0.f1,iV .i64 a0.f2,iV .u64 a0.f3,iV .u64 a0.f4,iV .i64 a0.f5,.own 2,.own 3])),(2,some (.row 2 136 (t1852.map Z1))),(3,some (.row 2 136 (t1854.map Z1)))] [0,1,2,3] [_,_,_,_] ⟨Tryz.call181,Z0u.ok a0.f6 t1852 e1853,Tryz.call181,Z0u.ok a0.f7 t1854 e1855,trivial⟩ ?_
 refine sO hP hn hm [] [] [2] [(1,some (.box 48 [iV .i64 a0.f0,iV .i64 a0.f1,iV .i64 a0.f2,iV .u64 a0.f3,iV .u64 a0.f4,iV .i64 a0.f5,.own 2,.own 3]))] [1,2,3] ?_
 refine AWp.conv (inv:=[(1,2),(2,0),(3,1)]) (vk:=[]) (e0:=[]) (t:=⟨[(2,.ptr 2 0 0)],[(0,some (.row 2 136 ((((⟨a0.f0,a0.f1,a0.f2,a0.f3,a0.f4,a0.f5,t1852,t1854⟩:Z0f)).f6).map Z1))),(1,some (.row 2 136 ((((⟨a0.f0,a0.f1,a0.f2,a0.f3,a0.f4,a0.f5,t1852,t1854⟩:Z0f)).f7).map Z1))),(2,some (.box 48 [iV .i64 (((⟨a0.f0,a0.f1,a0.f2,a0.f3,a0.f4,a0.f5,t1852,t1854⟩:Z0f)).f0),iV .i64 (((⟨a0.f0,a0.f1,a0.f2,a0.f3,a0.f4,a0.f5,t1852,t1854⟩:Z0f)).f1),iV .i64 (((⟨a0.f0,a0.f1,a0.f2,a0.f3,a0.f4,a0.f5,t1852,t1854⟩:Z0f)).f2),iV .u64 (((⟨a0.f0,a0.f1,a0.f2,a0.f3,a0.f4,a0.f5,t1852,t1854⟩:Z0f)).f3),iV .u64 (((⟨a0.f0,a0.f1,a0.f2,a0.f3,a0.f4,a0.f5,t1852,t1854⟩:Z0f)).f4),iV .i64 (((⟨a0.f0,a0.f1,a0.f2,a0.f3,a0.f4,a0.f5,t1852,t1854⟩:Z0f)).f5),.own 0,.own 1]))],0⟩) (by kernel_rfl) ?_
 refine AWp.ret ?_
 obtain rfl:=sj H
 exact rl (.inl rfl) rfl (by kernel_rfl) (by kernel_rfl)
def Z3u.f (a0:Z0f) (a1:Int):Option (Z0f×Int):=if(decide (a1<a0.f2))=true then(some ((⟨0,0,0,0,0,0,[],[]⟩:Z0f),31)) else(if(a1==a0.f2)=true then((Z4n.f a0)>>=fun t1858=>some ((t1858),0)) else(((if(decide (a1≤(-262144)))=true then(some true) else(some (decide (a1>(262144:Int))))):Option (Bool))>>=fun x1862=>if x1862=true then(some ((⟨0,0,0,0,0,0,[],[]⟩:Z0f),31)) else((Z3g.f a0 a0.f6 a0.f7 a1)>>=fun t1866=>some ((t1866.1),t1866.2))))
theorem Z3u.ok (a0:Z0f) (a1:Int) (r:Z0f×Int) (H:Z3u.f a0 a1=some r):Pv.Fn Tryz.prog 188 [.agg (Z08 a0),iV .i64 a1] [] 0 (fun x o=>x = .tup [.agg (Z08 (r.1)),iV .i64 r.2]∧o=[]):=by
 unfold Z3u.f at H
 refine Fn.bodyK [] Tryz.func188 rfl rfl (fun Γ hP hn => ?_)
 have hm:Tryz.prog.follows .mixedOrders=true:=by kernel_rfl
 replace hn:Γ.n=36:=hn
 refine sO hP hn hm [(0,.k 0),(1,.k 1)] [(2,.ptr 0 0 0),(4,.ptr 1 0 0)] [1,2,4] [(0,some (.box 48 (Z08 a0))),(1,some (.box 48 [iV .i64 0,iV .i64 0,iV .i64 0,iV .u64 0,iV .u64 0,iV .i64 0,.none0,.none0]))] [0,1] ?_
 refine AWp.seq ?_
 refine AWp.block ?_
 refine sO hP hn hm [] [(6,bV (decide (a1<a0.f2)))] [1,2,4,6] [] [0,1] ?_
 refine AWp.cond (decide (a1<a0.f2)) (by kernel_rfl) (fun c1846 => ?_) (fun c1846 => ?_)
 ·replace H:=iT c1846 H
  refine sO hP hn hm [] [(5,iV .i64 31)] [4,5] [] [1] ?_
  refine AWp.conv (inv:=[(1,0)]) (vk:=[]) (e0:=[]) (t:=⟨[(4,.ptr 0 0 0),(5,iV .i64 31)],[(0,some (.box 48 (Z08 ((⟨0,0,0,0,0,0,[],[]⟩:Z0f)))))],0⟩) (by kernel_rfl) ?_
  refine AWp.ret ?_
  obtain rfl:=sj H
  exact rl (.inl rfl) rfl (by kernel_rfl) (by kernel_rfl)
 ·replace H:=iF c1846 H
  refine sO hP hn hm [] [(12,bV (a1==a0.f2))] [1,2,4,12] [] [0,1] ?_
  refine AWp.cond (a1==a0.f2) (by kernel_rfl) (fun c1847 => ?_) (fun c1847 => ?_)
  ·replace H:=iT c1847 H
   obtain⟨t1858,e1859,H⟩:=Z4 H
   refine sR hP hn hm [(1,.call [] [(0,2),(1,3)] [] [2,3] 0 (.agg [iV .i64 ((t1858).f0),iV .i64 ((t1858).f1),iV .i64 ((t1858).f2),iV .u64 ((t1858).f3),iV .u64 ((t1858).f4),iV .i64 ((t1858).f5),.own 0,.own 1]) [(0,some (.row 2 136 (((t1858).f6).map Z1))),(1,some (.row 2 136 (((t1858).f7).map Z1)))])] [(5,iV .i64 0)] [4,5] [(1,some (.box 48 [iV .i64 ((t1858).f0),iV .i64 ((t1858).f1),iV .i64 ((t1858).f2),iV .u64 ((t1858).f3),iV .u64 ((t1858).f4),iV .i64 ((t1858).f5),.own 2,.own 3])),(2,some (.row 2 136 (((t1858).f6).map Z1))),(3,some (.row 2 136 (((t1858).f7).map Z1)))] [1,2,3] [_,_] ⟨Tryz.call194,Z4n.ok a0 t1858 e1859,trivial⟩ ?_
   refine AWp.conv (inv:=[(1,0)]) (vk:=[2,3]) (e0:=[]) (t:=⟨[(4,.ptr 0 0 0),(5,iV .i64 0)],[(0,some (.box 48 (Z08 ((t1858)))))],0⟩) (by kernel_rfl) ?_
   refine AWp.ret ?_
   obtain rfl:=sj H
   exact rl (.inl rfl) rfl (by kernel_rfl) (by kernel_rfl)
  ·replace H:=iF c1847 H
   refine AWp.seq ?_
   obtain⟨o1868,e1869,H⟩:=Z4 H
   refine AWp.mono (Q:=fun e s=>(match (generalizing:=false) o1868 with | x1862=>e = .normal∧s=⟨[(1,iV .i64 a1),(2,.ptr 4 0 0),(4,.ptr 5 0 0),(19,bV x1862)],[(4,some (.box 48 (Z08 a0))),(5,some (.box 48 [iV .i64 0,iV .i64 0,iV .i64 0,iV .u64 0,iV .u64 0,iV .i64 0,.none0,.none0]))],0⟩)) (AWp.cv ?_) ?_
   ·replace H:=e1869;clear e1869
    rcases Bool.eq_false_or_eq_true (decide (a1≤(-262144))) with c1861 | c1861
    ·replace H:=iT c1861 H
     refine rG hP hn hm [(2,.b true)] [(19,bV true)] [1,2,4,19] [] [0,1] [_] ⟨c1861,trivial⟩ ?_
     obtain rfl:=sj H
     exact lf [(0,4),(1,5)] [] [] (by kernel_rfl) ⟨rfl,rfl⟩
    ·replace H:=iF c1861 H
     refine rG hP hn hm [(2,.b false)] [(19,bV (decide (a1>(262144:Int))))] [1,2,4,19] [] [0,1] [_] ⟨c1861,trivial⟩ ?_
     obtain rfl:=sj H
     exact lf [(0,4),(1,5)] [] [] (by kernel_rfl) ⟨rfl,rfl⟩
   ·obtain⟨x1862,rfl⟩:∃ z,z=o1868:=⟨_,rfl⟩
    rintro e s ⟨rfl,rfl⟩
    refine AWp.cond x1862 (by kernel_rfl) (fun c1863 => ?_) (fun c1863 => ?_)
    ·replace H:=iT c1863 H
     refine sO hP hn hm [] [(5,iV .i64 31)] [4,5] [] [5] ?_
     refine AWp.conv (inv:=[(5,0)]) (vk:=[]) (e0:=[]) (t:=⟨[(4,.ptr 0 0 0),(5,iV .i64 31)],[(0,some (.box 48 (Z08 ((⟨0,0,0,0,0,0,[],[]⟩:Z0f)))))],0⟩) (by kernel_rfl) ?_
     refine AWp.ret ?_
     obtain rfl:=sj H
     exact rl (.inl rfl) rfl (by kernel_rfl) (by kernel_rfl)
    ·replace H:=iF c1863 H
     refine AWp.skip ?_
     obtain⟨t1866,e1867,H⟩:=Z4 H
     refine sR hP hn hm [(6,.call [] [] [] [] 0 (.tup [.agg (Z08 (t1866.1)),iV .i64 t1866.2]) [])] [(5,iV .i64 t1866.2)] [4,5] [(5,some (.box 48 (Z08 (t1866.1))))] [5] [_,_] ⟨Tryz.call193,Z3g.ok a0 a0.f6 a0.f7 a1 t1866 e1867,trivial⟩ ?_
     refine AWp.conv (inv:=[(5,0)]) (vk:=[]) (e0:=[]) (t:=⟨[(4,.ptr 0 0 0),(5,iV .i64 t1866.2)],[(0,some (.box 48 (Z08 ((t1866.1)))))],0⟩) (by kernel_rfl) ?_
     refine AWp.ret ?_
     obtain rfl:=sj H
     exact rl (.inl rfl) rfl (by kernel_rfl) (by kernel_rfl)
def Z3c.l0  (v:Int×Int×Int×Int×Int×Int×(List Z9)×(List Z9)×Int×Int×Int×Int×Int×Int×(List Z9)×(List Z9)):Option ((Z0f×Z0f×Int) ⊕ (Int×Int×Int×Int×Int×Int×(List Z9)×(List Z9)×Int×Int×Int×Int×Int×Int×(List Z9)×(List Z9))):=match v with
 | (x1879,x1880,x1881,x1882,x1883,x1884,x1885,x1886,x1887,x1888,x1889,x1890,x1891,x1892,x1893,x1894)=>if(x1881 != x1889)=true then((Z3u.f (⟨x1879,x1880,x1881,x1882,x1883,x1884,x1885,x1886⟩:Z0f) (if x1889>x1881 then x1889 else x1881))>>=fun t1898=>(Z3u.f (⟨x1887,x1888,x1889,x1890,x1891,x1892,x1893,x1894⟩:Z0f) (if x1889>x1881 then x1889 else x1881))>>=fun t1902=>if((if t1902.2>t1898.2 then t1902.2 else t1898.2) != (0:Int))=true then(some (.inl ((⟨0,0,0,0,0,0,[],[]⟩:Z0f),(⟨0,0,0,0,0,0,[],[]⟩:Z0f),(if t1902.2>t1898.2 then t1902.2 else t1898.2)))) else(Z3c.l0  ((t1898.1).f0,(t1898.1).f1,(t1898.1).f2,(t1898.1).f3,(t1898.1).f4,(t1898.1).f5,(t1898.1).f6,(t1898.1).f7,(t1902.1).f0,(t1902.1).f1,(t1902.1).f2,(t1902.1).f3,(t1902.1).f4,(t1902.1).f5,(t1902.1).f6,(t1902.1).f7))) else(some (.inr (x1879,x1880,x1881,x1882,x1883,x1884,x1885,x1886,x1887,x1888,x1889,x1890,x1891,x1892,x1893,x1894)))
partial_fixpoint
def Z3c.f (a0:Z0f) (a1:Z0f):Option (Z0f×Z0f×Int):=(Z47.f a0 (if a1.f1<a0.f1 then a1.f1 else a0.f1))>>=fun t1838=>(Z47.f a1 (if a1.f1<a0.f1 then a1.f1 else a0.f1))>>=fun t1842=>if((if t1842.2>t1838.2 then t1842.2 else t1838.2) != (0:Int))=true then(some ((⟨0,0,0,0,0,0,[],[]⟩:Z0f),(⟨0,0,0,0,0,0,[],[]⟩:Z0f),(if t1842.2>t1838.2 then t1842.2 else t1838.2))) else((Z3c.l0  ((t1838.1).f0,(t1838.1).f1,(t1838.1).f2,(t1838.1).f3,(t1838.1).f4,(t1838.1).f5,(t1838.1).f6,(t1838.1).f7,(t1842.1).f0,(t1842.1).f1,(t1842.1).f2,(t1842.1).f3,(t1842.1).f4,(t1842.1).f5,(t1842.1).f6,(t1842.1).f7))>>=fun oo=>match oo with | .inl rr=>(some rr) | .inr (x1905,x1906,x1907,x1908,x1909,x1910,x1911,x1912,x1913,x1914,x1915,x1916,x1917,x1918,x1919,x1920)=>(some ((⟨x1905,x1906,x1907,x1908,x1909,x1910,x1911,x1912⟩:Z0f),(⟨x1913,x1914,x1915,x1916,x1917,x1918,x1919,x1920⟩:Z0f),0)))
theorem Z3c.ok (a0:Z0f) (a1:Z0f) (r:Z0f×Z0f×Int) (H:Z3c.f a0 a1=some r):Pv.Fn Tryz.prog 177 [.agg (Z08 a0),.agg (Z08 a1)] [] 0 (fun x o=>x = .tup [.agg (Z08 (r.1)),.agg (Z08 (r.2.1)),iV .i64 r.2.2]∧o=[]):=by
 unfold Z3c.f at H
 refine Fn.bodyK [] Tryz.func177 rfl rfl (fun Γ hP hn => ?_)
 have hm:Tryz.prog.follows .mixedOrders=true:=by kernel_rfl
 replace hn:Γ.n=68:=hn
 refine sO hP hn hm [(0,.k 0),(1,.k 1),(2,.k 2),(3,.k 3)] [(2,.ptr 0 0 0),(3,.ptr 1 0 0),(4,.ptr 2 0 0),(5,.ptr 3 0 0)] [2,3,4,5] [(0,some (.box 48 (Z08 a0))),(1,some (.box 48 (Z08 a1))),(2,some (.box 48 [iV .i64 0,iV .i64 0,iV .i64 0,iV .u64 0,iV .u64 0,iV .i64 0,.none0,.none0])),(3,some (.box 48 [iV .i64 0,iV .i64 0,iV .i64 0,iV .u64 0,iV .u64 0,iV .i64 0,.none0,.none0]))] [0,1,2,3] ?_
 refine sO hP hn hm [(4,.more xMin)] [(7,iV .i64 (if a1.f1<a0.f1 then a1.f1 else a0.f1))] [2,3,4,5,7] [] [0,1,2,3] ?_
 obtain⟨t1838,e1839,H⟩:=Z4 H
 refine sR hP hn hm [(2,.call [] [] [] [] 0 (.tup [.agg (Z08 (t1838.1)),iV .i64 t1838.2]) [])] [(8,iV .i64 t1838.2)] [2,3,4,5,7,8] [(0,some (.box 48 (Z08 (t1838.1))))] [0,1,2,3] [_,_] ⟨Tryz.call187,Z47.ok a0 (if a1.f1<a0.f1 then a1.f1 else a0.f1) t1838 e1839,trivial⟩ ?_
 obtain⟨t1842,e1843,H⟩:=Z4 H
 refine sR hP hn hm [(2,.call [] [] [] [] 0 (.tup [.agg (Z08 (t1842.1)),iV .i64 t1842.2]) [])] [(9,iV .i64 t1842.2)] [2,3,4,5,8,9] [(1,some (.box 48 (Z08 (t1842.1))))] [0,1,2,3] [_,_] ⟨Tryz.call187,Z47.ok a1 (if a1.f1<a0.f1 then a1.f1 else a0.f1) t1842 e1843,trivial⟩ ?_
 refine AWp.seq ?_
 refine sO hP hn hm [(2,.more xMax)] [(8,iV .i64 (if t1842.2>t1838.2 then t1842.2 else t1838.2))] [2,3,4,5,8] [] [0,1,2,3] ?_
 refine sO hP hn hm [] [(32,bV ((if t1842.2>t1838.2 then t1842.2 else t1838.2) != (0:Int)))] [2,3,4,5,8,32] [] [0,1,2,3] ?_
 refine AWp.cond ((if t1842.2>t1838.2 then t1842.2 else t1838.2) != (0:Int)) (by kernel_rfl) (fun c1844 => ?_) (fun c1844 => ?_)
 ·replace H:=iT c1844 H
  refine sO hP hn hm [] [(6,iV .i64 (if t1842.2>t1838.2 then t1842.2 else t1838.2))] [4,5,6] [] [2,3] ?_
  refine AWp.conv (inv:=[(2,0),(3,1)]) (vk:=[]) (e0:=[]) (t:=⟨[(4,.ptr 0 0 0),(5,.ptr 1 0 0),(6,iV .i64 (if t1842.2>t1838.2 then t1842.2 else t1838.2))],[(0,some (.box 48 (Z08 ((⟨0,0,0,0,0,0,[],[]⟩:Z0f))))),(1,some (.box 48 (Z08 ((⟨0,0,0,0,0,0,[],[]⟩:Z0f)))))],0⟩) (by kernel_rfl) ?_
  refine AWp.ret ?_
  obtain rfl:=sj H
  exact rl (.inl rfl) rfl (by kernel_rfl) (by kernel_rfl)
 ·replace H:=iF c1844 H
  refine AWp.skip ?_
  refine AWp.seq ?_
  refine AWp.block ?_
  obtain⟨o1921,e1922,H⟩:=Z4 H
  refine AWp.loop (LWp.conv (inv:=[(0,4),(1,5),(2,6),(3,7)]) (vk:=[]) (e0:=[]) (t:=⟨[(2,.ptr 4 0 0),(3,.ptr 5 0 0),(4,.ptr 6 0 0),(5,.ptr 7 0 0)],[(4,some (.box 48 (Z08 (t1838.1)))),(5,some (.box 48 (Z08 (t1842.1)))),(6,some (.box 48 [iV .i64 0,iV .i64 0,iV .i64 0,iV .u64 0,iV .u64 0,iV .i64 0,.none0,.none0])),(7,some (.box 48 [iV .i64 0,iV .i64 0,iV .i64 0,iV .u64 0,iV .u64 0,iV .i64 0,.none0,.none0]))],0⟩) (by kernel_rfl) ?_)
  refine LWp.mono (Q:=fun e s=>(match (generalizing:=false) o1921 with | .inl rr=>e = .ret∧s.floor=0∧Z1y Tryz.prog Tryz.f177 s=some (.tup [.agg (Z08 (rr.1)),.agg (Z08 (rr.2.1)),iV .i64 rr.2.2])∧([]:List (Nat×Option MObj))=[] | .inr (x1905,x1906,x1907,x1908,x1909,x1910,x1911,x1912,x1913,x1914,x1915,x1916,x1917,x1918,x1919,x1920)=>e = .exit 0∧s=⟨[(2,.ptr 8 0 0),(3,.ptr 9 0 0),(4,.ptr 10 0 0),(5,.ptr 11 0 0)],[(8,some (.box 48 (Z08 ⟨x1905,x1906,x1907,x1908,x1909,x1910,x1911,x1912⟩))),(9,some (.box 48 (Z08 ⟨x1913,x1914,x1915,x1916,x1917,x1918,x1919,x1920⟩))),(10,some (.box 48 [iV .i64 0,iV .i64 0,iV .i64 0,iV .u64 0,iV .u64 0,iV .i64 0,.none0,.none0])),(11,some (.box 48 [iV .i64 0,iV .i64 0,iV .i64 0,iV .u64 0,iV .u64 0,iV .i64 0,.none0,.none0]))],0⟩)) (LWp.cv (Zs (fun body hbody => ?_))) ?_
  ·refine          Z3c.l0.partial_correctness  (motive:=fun v o1921=>(match (generalizing:=false) v with | (x1879,x1880,x1881,x1882,x1883,x1884,x1885,x1886,x1887,x1888,x1889,x1890,x1891,x1892,x1893,x1894)=>LWp Γ body (fun e s=>∃ t,Cv Γ s t∧(match (generalizing:=false) o1921 with | .inl rr=>e = .ret∧t.floor=0∧Z1y   Tryz.prog Tryz.f177 t=some (.tup [.agg (Z08   (rr.1)),.agg (Z08   (rr.2.1)),iV .i64 rr.2.2])∧([]:List (Nat×Option MObj))=[] | .inr (x1905,x1906,x1907,x1908,x1909,x1910,x1911,x1912,x1913,x1914,x1915,x1916,x1917,x1918,x1919,x1920)=>e = .exit 0∧t=⟨[(2,.ptr 8 0 0),(3,.ptr 9 0 0),(4,.ptr 10 0 0),(5,.ptr 11 0 0)],[(8,some (.box 48 (Z08   ⟨x1905,x1906,x1907,x1908,x1909,x1910,x1911,x1912⟩))),(9,some (.box 48 (Z08   ⟨x1913,x1914,x1915,x1916,x1917,x1918,x1919,x1920⟩))),(10,some (.box 48 [iV .i64 0,iV .i64 0,iV .i64 0,iV .u64 0,iV .u64 0,iV .i64 0,.none0,.none0])),(11,some (.box 48 [iV .i64 0,iV .i64 0,iV .i64 0,iV .u64 0,iV .u64 0,iV .i64 0,.none0,.none0]))],0⟩)) ⟨[(2,.ptr 4 0 0),(3,.ptr 5 0 0),(4,.ptr 6 0 0),(5,.ptr 7 0 0)],[(4,some (.box 48 (Z08   ⟨x1879,x1880,x1881,x1882,x1883,x1884,x1885,x1886⟩))),(5,some (.box 48 (Z08   ⟨x1887,x1888,x1889,x1890,x1891,x1892,x1893,x1894⟩))),(6,some (.box 48 [iV .i64 0,iV .i64 0,iV .i64 0,iV .u64 0,iV .u64 0,iV .i64 0,.none0,.none0])),(7,some (.box 48 [iV .i64 0,iV .i64 0,iV .i64 0,iV .u64 0,iV .u64 0,iV .i64 0,.none0,.none0]))],0⟩)) ?_ _ _ e1922
   clear H e1922 o1921;intro self ih v o1921 H
   obtain⟨x1879,x1880,x1881,x1882,x1883,x1884,x1885,x1886,x1887,x1888,x1889,x1890,x1891,x1892,x1893,x1894⟩:=v
   dsimp only at H
   subst hbody
   refine LWp.round ?_
   refine AWp.seq ?_
   refine sO hP hn hm [] [(40,bV (x1881 != x1889))] [2,3,4,5,40] [] [4,5,6,7] ?_
   refine AWp.cond (x1881 != x1889) (by kernel_rfl) (fun c1895 => ?_) (fun c1895 => ?_)
   ·replace H:=iT c1895 H
    refine AWp.skip ?_
    refine AWp.block ?_
    refine sO hP hn hm [(4,.more xMax)] [(10,iV .i64 (if x1889>x1881 then x1889 else x1881))] [2,3,4,5,10] [] [4,5,6,7] ?_
    obtain⟨t1898,e1899,H⟩:=Z4 H
    refine sR hP hn hm [(2,.call [] [] [] [] 0 (.tup [.agg (Z08 (t1898.1)),iV .i64 t1898.2]) [])] [(8,iV .i64 t1898.2)] [2,3,4,5,8,10] [(4,some (.box 48 (Z08 (t1898.1))))] [4,5,6,7] [_,_] ⟨Tryz.call188,Z3u.ok (⟨x1879,x1880,x1881,x1882,x1883,x1884,x1885,x1886⟩:Z0f) (if x1889>x1881 then x1889 else x1881) t1898 e1899,trivial⟩ ?_
    obtain⟨t1902,e1903,H⟩:=Z4 H
    refine sR hP hn hm [(2,.call [] [] [] [] 0 (.tup [.agg (Z08 (t1902.1)),iV .i64 t1902.2]) [])] [(9,iV .i64 t1902.2)] [2,3,4,5,8,9] [(5,some (.box 48 (Z08 (t1902.1))))] [4,5,6,7] [_,_] ⟨Tryz.call188,Z3u.ok (⟨x1887,x1888,x1889,x1890,x1891,x1892,x1893,x1894⟩:Z0f) (if x1889>x1881 then x1889 else x1881) t1902 e1903,trivial⟩ ?_
    refine sO hP hn hm [(2,.more xMax)] [(8,iV .i64 (if t1902.2>t1898.2 then t1902.2 else t1898.2))] [2,3,4,5,8] [] [4,5,6,7] ?_
    refine sO hP hn hm [] [(62,bV ((if t1902.2>t1898.2 then t1902.2 else t1898.2) != (0:Int)))] [2,3,4,5,8,62] [] [4,5,6,7] ?_
    refine AWp.cond ((if t1902.2>t1898.2 then t1902.2 else t1898.2) != (0:Int)) (by kernel_rfl) (fun c1904 => ?_) (fun c1904 => ?_)
    ·replace H:=iT c1904 H
     refine sO hP hn hm [] [(6,iV .i64 (if t1902.2>t1898.2 then t1902.2 else t1898.2))] [4,5,6] [] [6,7] ?_
     refine AWp.conv (inv:=[(6,0),(7,1)]) (vk:=[]) (e0:=[]) (t:=⟨[(4,.ptr 0 0 0),(5,.ptr 1 0 0),(6,iV .i64 (if t1902.2>t1898.2 then t1902.2 else t1898.2))],[(0,some (.box 48 (Z08 ((⟨0,0,0,0,0,0,[],[]⟩:Z0f))))),(1,some (.box 48 (Z08 ((⟨0,0,0,0,0,0,[],[]⟩:Z0f)))))],0⟩) (by kernel_rfl) ?_
     refine AWp.ret ?_
     obtain rfl:=sj H
     exact rl rfl rfl (by kernel_rfl) (by kernel_rfl)
    ·replace H:=iF c1904 H
     refine AWp.skip ?_
     exact LWp.conv [(4,4),(5,5),(6,6),(7,7)] [] [] (by kernel_rfl) (ih _ _ H)
   ·replace H:=iF c1895 H
    refine AWp.exit ?_
    obtain rfl:=sj H
    exact lf [(4,8),(5,9),(6,10),(7,11)] [] [] (by kernel_rfl) ⟨rfl,rfl⟩
  ·rcases o1921 with rr | ⟨x1905,x1906,x1907,x1908,x1909,x1910,x1911,x1912,x1913,x1914,x1915,x1916,x1917,x1918,x1919,x1920⟩
   ·skip
    rintro e s ⟨rfl,hfl,hres⟩
    obtain rfl:=sj H
    exact Exists.intro _ (And.intro (fun _ _ h=>h) (And.intro (.inl rfl) (And.intro hfl hres)))
   ·skip
    rintro e s ⟨rfl,rfl⟩
    refine sO hP hn hm [] [(6,iV .i64 0)] [4,5,6] [(10,some (.box 48 (Z08 ⟨x1905,x1906,x1907,x1908,x1909,x1910,x1911,x1912⟩))),(11,some (.box 48 (Z08 ⟨x1913,x1914,x1915,x1916,x1917,x1918,x1919,x1920⟩)))] [10,11] ?_
    refine AWp.conv (inv:=[(10,0),(11,1)]) (vk:=[]) (e0:=[]) (t:=⟨[(4,.ptr 0 0 0),(5,.ptr 1 0 0),(6,iV .i64 0)],[(0,some (.box 48 (Z08 ((⟨x1905,x1906,x1907,x1908,x1909,x1910,x1911,x1912⟩:Z0f))))),(1,some (.box 48 (Z08 ((⟨x1913,x1914,x1915,x1916,x1917,x1918,x1919,x1920⟩:Z0f)))))],0⟩) (by kernel_rfl) ?_
    refine AWp.ret ?_
    obtain rfl:=sj H
    exact rl (.inl rfl) rfl (by kernel_rfl) (by kernel_rfl)
def Z26.l1 (a0:List Z9) (b1976:Z9) (x1969:List Z9) (x1970:List Z9) (x1971:Int) (x1989:Unit):Option (((List Z9)×Bool) ⊕ Unit):=((if(decide ((x1969.length:Int)>(0:Int)))=true then((at? x1969 0)>>=fun b1984=>some (decide (b1984.f0<b1976.f0))) else(some false)):Option (Bool))>>=fun x1987=>if x1987=true then(some (.inl ([],false))) else(some (.inr ()))
def Z26.l0 (a0:List Z9) (x1969:List Z9) (x1970:List Z9) (x1971:Int):Option (((List Z9)×Bool) ⊕ ((List Z9)×(List Z9))):=if(decide (x1971<(a0.length:Int)))=true then((at? a0 x1971)>>=fun b1976=>(Z26.l1 a0 b1976 x1969 x1970 x1971 ())>>=fun oo=>match oo with | .inl rr=>(some (.inl rr)) | .inr _=>(((if(decide ((x1969.length:Int)>(0:Int)))=true then((at? x1969 0)>>=fun b1995=>some (b1995.f0==b1976.f0)) else(some false)):Option (Bool))>>=fun x1998=>((if x1998=true then((at? x1969 0)>>=fun b2003=>if(decide (b2003.f1>b1976.f1))=true then(some (.inl ([],false))) else((chk (0≤(1:Int)∧(1:Int)≤(x1969.length:Int)∧(x1969.length:Int)≤(x1969.length:Int)))>>=fun _=>some (.inr ((x1969.drop (Int.toNat ((1:Int)))).take ((Int.toNat ((x1969.length:Int)))-(Int.toNat ((1:Int)))),u64.wrap (b1976.f1-b2003.f1))))) else(some (.inr (x1969,b1976.f1)))):Option (((List Z9)×Bool) ⊕ ((List Z9)×Int)))>>=fun oo=>match oo with | .inl rr=>(some (.inl rr)) | .inr (x2009,x2010)=>((chk ((x1970.length+[(⟨b1976.f0,x2010⟩:Z9)].length)*16≤140737488355328))>>=fun _=>Z26.l0 a0 x2009 (x1970++[(⟨b1976.f0,x2010⟩:Z9)]) (i64.wrap (x1971+(1:Int)))))) else(some (.inr (x1969,x1970)))
partial_fixpoint
def Z26.f (a0:List Z9) (a1:List Z9):Option ((List Z9)×Bool):=(Z26.l0 a0 a1 [] 0)>>=fun oo=>match oo with | .inl rr=>(some rr) | .inr (x2013,x2014)=>(some (x2014,((x2013.length:Int)==(0:Int))))
theorem Z26.ok (a0:List Z9) (a1:List Z9) (r:(List Z9)×Bool) (H:Z26.f a0 a1=some r):Pv.Fn Tryz.prog 178 [.im (.row (a0.map Z1)),.im (.row (a1.map Z1))] [] 0 (fun x o=>x = .tup [.own 0,bV r.2]∧o=[(0,some (.row 2 136 (r.1.map Z1)))]):=by
 unfold Z26.f at H
 refine Fn.bodyK [0] Tryz.func178 rfl rfl (fun Γ hP hn => ?_)
 have hm:Tryz.prog.follows .mixedOrders=true:=by kernel_rfl
 replace hn:Γ.n=65:=hn
 refine sO hP hn hm [] [] [0,1] [] [] ?_
 refine sO hP hn hm [] [(6,.none0)] [0,1,6] [] [] ?_
 refine AWp.seq ?_
 refine sR hP hn hm [(1,.any (iV .i64 (a0.length:Int)))] [(9,.im (.row (a0.map Z1))),(10,iV .i64 (a0.length:Int)),(11,iV .i64 0)] [1,6,9,10,11] [] [] [((a0.map Z1).length:Int)=(a0.length:Int)] ⟨by rw[Zr],trivial⟩ ?_
 refine AWp.block ?_
 obtain⟨o2015,e2016,H⟩:=Z4 H
 refine AWp.loop (LWp.conv (inv:=[]) (vk:=[]) (e0:=[7]) (t:=⟨[(1,.im (.row (a1.map Z1))),(6,.own 7),(9,.im (.row (a0.map Z1))),(10,iV .i64 (a0.length:Int)),(11,iV .i64 0)],[(7,some (.row 2 136 ([].map Z1)))],0⟩) (by kernel_rfl) ?_)
 refine LWp.mono (Q:=fun e s=>(match (generalizing:=false) o2015 with | .inl rr=>e = .ret∧s.floor=0∧Z1y Tryz.prog Tryz.f178 s=some (.tup [.own 0,bV rr.2])∧([(0,s.obj 0)]:List (Nat×Option MObj))=[(0,some (.row 2 136 (rr.1.map Z1)))] | .inr (x2013,x2014)=>e = .exit 0∧s=⟨[(1,.im (.row (x2013.map Z1))),(6,.own 19)],[(19,some (.row 2 136 (x2014.map Z1)))],0⟩)) (LWp.cv (Zs (fun body hbody => ?_))) ?_
 ·refine         Z26.l0.partial_correctness a0 (motive:=fun x1969 x1970 x1971 o2015=>LWp Γ body (fun e s=>∃ t,Cv Γ s t∧(match (generalizing:=false) o2015 with | .inl rr=>e = .ret∧t.floor=0∧Z1y   Tryz.prog Tryz.f178 t=some (.tup [.own 0,bV rr.2])∧([(0,t.obj 0)]:List (Nat×Option MObj))=[(0,some (.row 2 136 (rr.1.map Z1     )))] | .inr (x2013,x2014)=>e = .exit 0∧t=⟨[(1,.im (.row (x2013.map Z1     ))),(6,.own 19)],[(19,some (.row 2 136 (x2014.map Z1     )))],0⟩)) ⟨[(1,.im (.row (x1969.map Z1     ))),(6,.own 7),(9,.im (.row (a0.map Z1     ))),(10,iV .i64 (a0.length:Int)),(11,iV .i64 x1971)],[(7,some (.row 2 136 (x1970.map Z1     )))],0⟩) ?_ _ _ _ _ e2016
  clear H e2016 o2015;intro self ih x1969 x1970 x1971 o2015 H
  subst hbody
  refine LWp.round ?_
  refine sO hP hn hm [] [(12,bV (decide (x1971<(a0.length:Int))))] [1,6,9,10,11,12] [] [7] ?_
  refine AWp.seq ?_
  refine AWp.cond (decide (x1971<(a0.length:Int))) (by kernel_rfl) (fun c1972 => ?_) (fun c1972 => ?_)
  ·replace H:=iT c1972 H
   refine AWp.skip ?_
   refine AWp.seq ?_
   refine AWp.block ?_
   obtain⟨b1976,p1977,q1978,H⟩:=Z02 H
   refine sR hP hn hm [(0,.c (Z1 b1976)),(2,.k 8)] [(8,.ptr 8 0 0)] [1,6,8,9,10,11] [(8,some (.box 136 (Z2m b1976)))] [7,8] [_,_] ⟨p1977,Zi Z1 q1978,trivial⟩ ?_
   refine AWp.seq ?_
   refine AWp.block ?_
   obtain⟨o2017,e2018,H⟩:=Z4 H
   refine AWp.loop (LWp.conv (inv:=[(7,7),(8,8)]) (vk:=[]) (e0:=[]) (t:=⟨[(1,.im (.row (x1969.map Z1))),(6,.own 7),(8,.ptr 8 0 0),(9,.im (.row (a0.map Z1))),(10,iV .i64 (a0.length:Int)),(11,iV .i64 x1971)],[(7,some (.row 2 136 (x1970.map Z1))),(8,some (.box 136 (Z2m b1976)))],0⟩) (by kernel_rfl) ?_)
   refine LWp.mono (Q:=fun e s=>(match (generalizing:=false) o2017 with | .inl rr=>e = .ret∧s.floor=0∧Z1y Tryz.prog Tryz.f178 s=some (.tup [.own 0,bV rr.2])∧([(0,s.obj 0)]:List (Nat×Option MObj))=[(0,some (.row 2 136 (rr.1.map Z1)))] | .inr _=>e = .exit 2∧s=⟨[(1,.im (.row (x1969.map Z1))),(6,.own 11),(8,.ptr 12 0 0),(9,.im (.row (a0.map Z1))),(10,iV .i64 (a0.length:Int)),(11,iV .i64 x1971)],[(11,some (.row 2 136 (x1970.map Z1))),(12,some (.box 136 (Z2m b1976)))],0⟩)) (LWp.cv (Zs (fun body hbody => ?_))) ?_
   ·refine(show ∀ x1989 o2017,        Z26.l1 a0 b1976 x1969 x1970 x1971 x1989=some o2017→LWp Γ body (fun e s=>∃ t,Cv Γ s t∧(match (generalizing:=false) o2017 with | .inl rr=>e = .ret∧t.floor=0∧Z1y   Tryz.prog Tryz.f178 t=some (.tup [.own 0,bV rr.2])∧([(0,t.obj 0)]:List (Nat×Option MObj))=[(0,some (.row 2 136 (rr.1.map Z1     )))] | .inr _=>e = .exit 2∧t=⟨[(1,.im (.row (x1969.map Z1     ))),(6,.own 11),(8,.ptr 12 0 0),(9,.im (.row (a0.map Z1     ))),(10,iV .i64 (a0.length:Int)),(11,iV .i64 x1971)],[(11,some (.row 2 136 (x1970.map Z1     ))),(12,some (.box 136 (Z2m     b1976)))],0⟩)) ⟨[(1,.im (.row (x1969.map Z1     ))),(6,.own 7),(8,.ptr 8 0 0),(9,.im (.row (a0.map Z1     ))),(10,iV .i64 (a0.length:Int)),(11,iV .i64 x1971)],[(7,some (.row 2 136 (x1970.map Z1     ))),(8,some (.box 136 (Z2m     b1976)))],0⟩ from ?_) _ _ e2018
    clear H e2018 o2017;intro x1989 o2017 H
    unfold Z26.l1 at H
    subst hbody
    refine LWp.round ?_
    refine AWp.seq ?_
    refine AWp.seq ?_
    obtain⟨o2019,e2020,H⟩:=Z4 H
    refine AWp.mono (Q:=fun e s=>(match (generalizing:=false) o2019 with | x1987=>e = .normal∧s=⟨[(1,.im (.row (x1969.map Z1))),(6,.own 9),(8,.ptr 10 0 0),(9,.im (.row (a0.map Z1))),(10,iV .i64 (a0.length:Int)),(11,iV .i64 x1971),(26,bV x1987)],[(9,some (.row 2 136 (x1970.map Z1))),(10,some (.box 136 (Z2m b1976)))],0⟩)) (AWp.cv ?_) ?_
    ·replace H:=e2020;clear e2020
     rcases Bool.eq_false_or_eq_true (decide ((x1969.length:Int)>(0:Int))) with c1983 | c1983
     ·replace H:=iT c1983 H
      obtain⟨b1984,p1985,q1986,H⟩:=Z02 H
      refine rG hP hn hm [(1,.any (iV .i64 (x1969.length:Int))),(3,.b true),(5,.c (Z1 b1984))] [(19,.im (.row (x1969.map Z1))),(20,.ip [iI .i64 b1984.f0,iI .u64 b1984.f1]),(21,.ip [iI .i64 b1984.f0,iI .u64 b1984.f1]),(22,iV .i64 b1984.f0),(23,.ptr 8 0 0),(24,iV .i64 b1976.f0),(25,bV (decide (b1984.f0<b1976.f0))),(26,bV (decide (b1984.f0<b1976.f0)))] [1,6,8,9,10,11,19,20,21,22,23,24,25,26] [] [7,8] [((x1969.map Z1).length:Int)=(x1969.length:Int),_,_,_] ⟨by rw[Zr],c1983,p1985,Zi Z1 q1986,trivial⟩ ?_
      obtain rfl:=sj H
      exact lf [(7,9),(8,10)] [] [] (by kernel_rfl) ⟨rfl,rfl⟩
     ·replace H:=iF c1983 H
      refine rG hP hn hm [(1,.any (iV .i64 (x1969.length:Int))),(3,.b false)] [(26,bV false)] [1,6,8,9,10,11,26] [] [7,8] [((x1969.map Z1).length:Int)=(x1969.length:Int),_] ⟨by rw[Zr],c1983,trivial⟩ ?_
      obtain rfl:=sj H
      exact lf [(7,9),(8,10)] [] [] (by kernel_rfl) ⟨rfl,rfl⟩
    ·obtain⟨x1987,rfl⟩:∃ z,z=o2019:=⟨_,rfl⟩
     rintro e s ⟨rfl,rfl⟩
     refine AWp.cond x1987 (by kernel_rfl) (fun c1988 => ?_) (fun c1988 => ?_)
     ·replace H:=iT c1988 H
      refine AWp.skip ?_
      refine AWp.block ?_
      refine sO hP hn hm [] [(4,.none0),(5,bV false)] [4,5] [] [] ?_
      refine AWp.conv (inv:=[]) (vk:=[]) (e0:=[0]) (t:=⟨[(4,.own 0),(5,bV false)],[(0,some (.row 2 136 ([].map Z1)))],0⟩) (by kernel_rfl) ?_
      refine AWp.ret ?_
      obtain rfl:=sj H
      exact rl rfl rfl (by kernel_rfl) (by kernel_rfl)
     ·replace H:=iF c1988 H
      refine AWp.exit ?_
      obtain rfl:=sj H
      exact lf [(9,11),(10,12)] [] [] (by kernel_rfl) ⟨rfl,rfl⟩
   ·rcases o2017 with rr | _
    ·skip
     rintro e s ⟨rfl,hfl,hres⟩
     obtain rfl:=sj H
     exact Exists.intro _ (And.intro (fun _ _ h=>h) (And.intro rfl (And.intro hfl hres)))
    ·skip
     rintro e s ⟨rfl,rfl⟩
     refine AWp.seq ?_
     refine AWp.seq ?_
     obtain⟨o2021,e2022,H⟩:=Z4 H
     refine AWp.mono (Q:=fun e s=>(match (generalizing:=false) o2021 with | x1998=>e = .normal∧s=⟨[(1,.im (.row (x1969.map Z1))),(6,.own 13),(8,.ptr 14 0 0),(9,.im (.row (a0.map Z1))),(10,iV .i64 (a0.length:Int)),(11,iV .i64 x1971),(38,bV x1998)],[(13,some (.row 2 136 (x1970.map Z1))),(14,some (.box 136 (Z2m b1976)))],0⟩)) (AWp.cv ?_) ?_
     ·replace H:=e2022;clear e2022
      rcases Bool.eq_false_or_eq_true (decide ((x1969.length:Int)>(0:Int))) with c1994 | c1994
      ·replace H:=iT c1994 H
       obtain⟨b1995,p1996,q1997,H⟩:=Z02 H
       refine rG hP hn hm [(1,.any (iV .i64 (x1969.length:Int))),(3,.b true),(5,.c (Z1 b1995))] [(31,.im (.row (x1969.map Z1))),(32,.ip [iI .i64 b1995.f0,iI .u64 b1995.f1]),(33,.ip [iI .i64 b1995.f0,iI .u64 b1995.f1]),(34,iV .i64 b1995.f0),(35,.ptr 12 0 0),(36,iV .i64 b1976.f0),(37,bV (b1995.f0==b1976.f0)),(38,bV (b1995.f0==b1976.f0))] [1,6,8,9,10,11,31,32,33,34,35,36,37,38] [] [11,12] [((x1969.map Z1).length:Int)=(x1969.length:Int),_,_,_] ⟨by rw[Zr],c1994,p1996,Zi Z1 q1997,trivial⟩ ?_
       obtain rfl:=sj H
       exact lf [(11,13),(12,14)] [] [] (by kernel_rfl) ⟨rfl,rfl⟩
      ·replace H:=iF c1994 H
       refine rG hP hn hm [(1,.any (iV .i64 (x1969.length:Int))),(3,.b false)] [(38,bV false)] [1,6,8,9,10,11,38] [] [11,12] [((x1969.map Z1).length:Int)=(x1969.length:Int),_] ⟨by rw[Zr],c1994,trivial⟩ ?_
       obtain rfl:=sj H
       exact lf [(11,13),(12,14)] [] [] (by kernel_rfl) ⟨rfl,rfl⟩
     ·obtain⟨x1998,rfl⟩:∃ z,z=o2021:=⟨_,rfl⟩
      rintro e s ⟨rfl,rfl⟩
      obtain⟨o2023,e2024,H⟩:=Z4 H
      refine AWp.mono (Q:=fun e s=>(match (generalizing:=false) o2023 with | .inl rr=>e = .ret∧s.floor=0∧Z1y Tryz.prog Tryz.f178 s=some (.tup [.own 0,bV rr.2])∧([(0,s.obj 0)]:List (Nat×Option MObj))=[(0,some (.row 2 136 (rr.1.map Z1)))] | .inr (x2009,x2010)=>e = .normal∧s=⟨[(1,.im (.row (x2009.map Z1))),(6,.own 15),(8,.ptr 16 0 0),(9,.im (.row (a0.map Z1))),(10,iV .i64 (a0.length:Int)),(11,iV .i64 x1971)],[(15,some (.row 2 136 (x1970.map Z1))),(16,some (.box 136 (Z2m ⟨b1976.f0,x2010⟩)))],0⟩)) (AWp.cv ?_) ?_
      ·replace H:=e2024;clear e2024
       refine AWp.cond x1998 (by kernel_rfl) (fun c1999 => ?_) (fun c1999 => ?_)
       ·replace H:=iT c1999 H
        refine AWp.seq ?_
        obtain⟨b2003,p2004,q2005,H⟩:=Z02 H
        refine sR hP hn hm [(1,.c (Z1 b2003))] [(45,bV (decide (b2003.f1>b1976.f1)))] [1,6,8,9,10,11,45] [] [13,14] [_,_] ⟨p2004,Zi Z1 q2005,trivial⟩ ?_
        refine AWp.cond (decide (b2003.f1>b1976.f1)) (by kernel_rfl) (fun c2006 => ?_) (fun c2006 => ?_)
        ·replace H:=iT c2006 H
         refine sO hP hn hm [] [(4,.none0),(5,bV false)] [4,5] [] [] ?_
         refine AWp.conv (inv:=[]) (vk:=[]) (e0:=[0]) (t:=⟨[(4,.own 0),(5,bV false)],[(0,some (.row 2 136 ([].map Z1)))],0⟩) (by kernel_rfl) ?_
         refine AWp.ret ?_
         obtain rfl:=sj H
         exact rl rfl rfl (by kernel_rfl) (by kernel_rfl)
        ·replace H:=iF c2006 H
         refine AWp.skip ?_
         refine sR hP hn hm [(3,.c (Z1 b2003))] [] [1,6,8,9,10,11] [(14,some (.box 136 (Z2m ⟨b1976.f0,(u64.wrap (b1976.f1-b2003.f1))⟩)))] [13,14] [_,_] ⟨p2004,Zi Z1 q2005,trivial⟩ ?_
         obtain⟨c2008,H⟩:=Z10 H
         refine rG hP hn hm [(1,.rows (((x1969.drop (Int.toNat ((1:Int)))).take ((Int.toNat ((x1969.length:Int)))-(Int.toNat ((1:Int))))).map Z1))] [(1,.im (.row (((x1969.drop (Int.toNat ((1:Int)))).take ((Int.toNat ((x1969.length:Int)))-(Int.toNat ((1:Int))))).map Z1)))] [1,6,8,9,10,11] [] [13,14] [0≤(1:Int),(1:Int)≤((x1969.map Z1).length:Int),((x1969.map Z1).length:Int)≤((x1969.map Z1).length:Int),∀ c∈x1969.map Z1,c.length=2,((x1969.drop (Int.toNat ((1:Int)))).take ((Int.toNat ((x1969.length:Int)))-(Int.toNat ((1:Int))))).map Z1=((x1969.map Z1).drop (Int.toNat ((1:Int)))).take ((Int.toNat (((x1969.map Z1).length:Int)))-(Int.toNat ((1:Int))))] ⟨by exact c2008.1,by simpa using c2008.2.1,by simpa using c2008.2.2,by exact Z12 _ _ _ (fun _=>rfl),by simp[cut1],trivial⟩ ?_
         obtain rfl:=sj H
         exact lf [(13,15),(14,16)] [] [] (by kernel_rfl) ⟨rfl,rfl⟩
       ·replace H:=iF c1999 H
        refine AWp.skip ?_
        obtain rfl:=sj H
        exact lf [(13,15),(14,16)] [] [] (by kernel_rfl) ⟨rfl,rfl⟩
      ·rcases o2023 with rr | ⟨x2009,x2010⟩
       ·skip
        rintro e s ⟨rfl,hfl,hres⟩
        obtain rfl:=sj H
        exact Exists.intro _ (And.intro (fun _ _ h=>h) (And.intro rfl (And.intro hfl hres)))
       ·skip
        rintro e s ⟨rfl,rfl⟩
        obtain⟨c2012,H⟩:=Z10 H
        refine rG hP hn hm [(2,.app 17 ([(⟨b1976.f0,x2010⟩:Z9)].map Z1)),(3,.app 18 ((x1970++[(⟨b1976.f0,x2010⟩:Z9)]).map Z1))] [(6,.own 18)] [1,6,9,10,11] [(18,some (.row 2 136 ((x1970++[(⟨b1976.f0,x2010⟩:Z9)]).map Z1)))] [18] [[(⟨b1976.f0,x2010⟩:Z9)].map Z1=[[iI .i64 b1976.f0,iI .u64 x2010]],(x1970++[(⟨b1976.f0,x2010⟩:Z9)]).map Z1=(x1970.map Z1)++([(⟨b1976.f0,x2010⟩:Z9)].map Z1),∀ c∈([(⟨b1976.f0,x2010⟩:Z9)].map Z1),c.length=2,∀ c∈([(⟨b1976.f0,x2010⟩:Z9)].map Z1),Z16 (c.map .im)=true,((x1970.map Z1).length+([(⟨b1976.f0,x2010⟩:Z9)].map Z1).length)*16≤140737488355328] ⟨by exact rfl,by simp,by exact Z12 _ _ _ (fun _=>rfl),by exact Z14 _ _ (fun _=>rfl),by simpa using c2012,trivial⟩ ?_
        refine rO hP hn hm [] [(11,iV .i64 (i64.wrap (x1971+(1:Int))))] [1,6,9,10,11] [] [18] ?_
        exact LWp.conv [(18,7)] [] [] (by kernel_rfl) (ih _ _ _ _ H)
  ·replace H:=iF c1972 H
   refine AWp.exit ?_
   obtain rfl:=sj H
   exact lf [(7,19)] [] [] (by kernel_rfl) ⟨rfl,rfl⟩
 ·rcases o2015 with rr | ⟨x2013,x2014⟩
  ·skip
   rintro e s ⟨rfl,hfl,hres⟩
   obtain rfl:=sj H
   exact Exists.intro _ (And.intro (fun _ _ h=>h) (And.intro (.inl rfl) (And.intro hfl hres)))
  ·skip
   rintro e s ⟨rfl,rfl⟩
   refine sR hP hn hm [(2,.any (iV .i64 (x2013.length:Int)))] [(4,.own 19),(5,bV ((x2013.length:Int)==(0:Int)))] [4,5] [] [19] [((x2013.map Z1).length:Int)=(x2013.length:Int)] ⟨by rw[Zr],trivial⟩ ?_
   refine AWp.conv (inv:=[(19,0)]) (vk:=[]) (e0:=[]) (t:=⟨[(4,.own 0),(5,bV ((x2013.length:Int)==(0:Int)))],[(0,some (.row 2 136 (x2014.map Z1)))],0⟩) (by kernel_rfl) ?_
   refine AWp.ret ?_
   obtain rfl:=sj H
   exact rl (.inl rfl) rfl (by kernel_rfl) (by kernel_rfl)
def Z5u.f (a0:Int) (a1:Int):Option (Int×Int):=if(decide (a1>a0))=true then(some (0,5)) else(some (u64.wrap (a0-a1),0))
theorem Z5u.ok (a0:Int) (a1:Int) (r:Int×Int) (H:Z5u.f a0 a1=some r):Pv.Fn Tryz.prog 179 [iV .u64 a0,iV .u64 a1] [] 0 (fun x o=>x = .tup [iV .u64 r.1,iV .i64 r.2]∧o=[]):=by
 unfold Z5u.f at H
 refine Fn.bodyK [] Tryz.func179 rfl rfl (fun Γ hP hn => ?_)
 have hm:Tryz.prog.follows .mixedOrders=true:=by kernel_rfl
 replace hn:Γ.n=12:=hn
 refine sO hP hn hm [] [] [0,1] [] [] ?_
 refine AWp.seq ?_
 refine sO hP hn hm [] [(8,bV (decide (a1>a0)))] [0,1,8] [] [] ?_
 refine AWp.cond (decide (a1>a0)) (by kernel_rfl) (fun c2033 => ?_) (fun c2033 => ?_)
 ·replace H:=iT c2033 H
  refine sO hP hn hm [] [(4,iV .u64 0),(5,iV .i64 5)] [4,5] [] [] ?_
  refine AWp.conv (inv:=[]) (vk:=[]) (e0:=[]) (t:=⟨[(4,iV .u64 0),(5,iV .i64 5)],[],0⟩) (by kernel_rfl) ?_
  refine AWp.ret ?_
  obtain rfl:=sj H
  exact rl (.inl rfl) rfl (by kernel_rfl) (by kernel_rfl)
 ·replace H:=iF c2033 H
  refine AWp.skip ?_
  refine sO hP hn hm [] [(4,iV .u64 (u64.wrap (a0-a1))),(5,iV .i64 0)] [4,5] [] [] ?_
  refine AWp.conv (inv:=[]) (vk:=[]) (e0:=[]) (t:=⟨[(4,iV .u64 (u64.wrap (a0-a1))),(5,iV .i64 0)],[],0⟩) (by kernel_rfl) ?_
  refine AWp.ret ?_
  obtain rfl:=sj H
  exact rl (.inl rfl) rfl (by kernel_rfl) (by kernel_rfl)
def Z57.f (a0:Z0f) (a1:Z0f):Option (Z0f×Int):=(Z4l.f a0.f5 a1.f5)>>=fun t927=>(Z3c.f a0 a1)>>=fun t1925=>if(t1925.2.2 != (0:Int))=true then(some ((⟨0,0,0,0,0,0,[],[]⟩:Z0f),t1925.2.2)) else((Z26.f ((t1925.1).f6) ((t1925.2.1).f6))>>=fun t2027=>(Z26.f ((t1925.1).f7) ((t1925.2.1).f7))>>=fun t2031=>(Z5u.f ((t1925.1).f3) ((t1925.2.1).f3))>>=fun t2036=>((if(!t2027.2)=true then(some true) else(if(!t2031.2)=true then(some true) else(some (t2036.2 != (0:Int))))):Option (Bool))>>=fun x2042=>if x2042=true then(some ((⟨0,0,0,0,0,0,[],[]⟩:Z0f),21)) else(if(t927.2 != (0:Int))=true then(some ((⟨0,0,0,0,0,0,[],[]⟩:Z0f),t927.2)) else((Z3q.f (⟨(t1925.1).f0,(t1925.1).f1,(t1925.1).f2,t2036.1,(t1925.1).f4,t927.1,(t1925.1).f6,(t1925.1).f7⟩:Z0f) t2027.1 t2031.1)>>=fun t2049=>some ((t2049.1),t2049.2))))
theorem Z57.ok (a0:Z0f) (a1:Z0f) (r:Z0f×Int) (H:Z57.f a0 a1=some r):Pv.Fn Tryz.prog 165 [.agg (Z08 a0),.agg (Z08 a1)] [] 0 (fun x o=>x = .tup [.agg (Z08 (r.1)),iV .i64 r.2]∧o=[]):=by
 unfold Z57.f at H
 refine Fn.bodyK [] Tryz.func165 rfl rfl (fun Γ hP hn => ?_)
 have hm:Tryz.prog.follows .mixedOrders=true:=by kernel_rfl
 replace hn:Γ.n=85:=hn
 refine sO hP hn hm [(0,.k 0),(1,.k 1),(2,.k 2)] [(2,.ptr 0 0 0),(3,.ptr 1 0 0),(4,.ptr 2 0 0)] [2,3,4] [(0,some (.box 48 (Z08 a0))),(1,some (.box 48 (Z08 a1))),(2,some (.box 48 [iV .i64 0,iV .i64 0,iV .i64 0,iV .u64 0,iV .u64 0,iV .i64 0,.none0,.none0]))] [0,1,2] ?_
 obtain⟨t927,e928,H⟩:=Z4 H
 refine sR hP hn hm [(4,.call [] [] [] [] 0 (.tup [iV .i64 t927.1,iV .i64 t927.2]) [])] [(6,iV .i64 t927.1),(7,iV .i64 t927.2)] [2,3,4,6,7] [] [0,1,2] [_,_] ⟨Tryz.call176,Z4l.ok a0.f5 a1.f5 t927 e928,trivial⟩ ?_
 obtain⟨t1925,e1926,H⟩:=Z4 H
 refine sR hP hn hm [(2,.call [] [] [] [] 0 (.tup [.agg (Z08 (t1925.1)),.agg (Z08 (t1925.2.1)),iV .i64 t1925.2.2]) [])] [(8,iV .i64 t1925.2.2)] [2,3,4,6,7,8] [(0,some (.box 48 (Z08 (t1925.1)))),(1,some (.box 48 (Z08 (t1925.2.1))))] [0,1,2] [_,_] ⟨Tryz.call177,Z3c.ok a0 a1 t1925 e1926,trivial⟩ ?_
 refine AWp.seq ?_
 refine sO hP hn hm [] [(31,bV (t1925.2.2 != (0:Int)))] [2,3,4,6,7,8,31] [] [0,1,2] ?_
 refine AWp.cond (t1925.2.2 != (0:Int)) (by kernel_rfl) (fun c1927 => ?_) (fun c1927 => ?_)
 ·replace H:=iT c1927 H
  refine sO hP hn hm [] [(5,iV .i64 t1925.2.2)] [4,5] [] [2] ?_
  refine AWp.conv (inv:=[(2,0)]) (vk:=[]) (e0:=[]) (t:=⟨[(4,.ptr 0 0 0),(5,iV .i64 t1925.2.2)],[(0,some (.box 48 (Z08 ((⟨0,0,0,0,0,0,[],[]⟩:Z0f)))))],0⟩) (by kernel_rfl) ?_
  refine AWp.ret ?_
  obtain rfl:=sj H
  exact rl (.inl rfl) rfl (by kernel_rfl) (by kernel_rfl)
 ·replace H:=iF c1927 H
  refine AWp.skip ?_
  obtain⟨t2027,e2028,H⟩:=Z4 H
  refine sR hP hn hm [(4,.call [] [(0,3)] [] [3] 0 (.tup [.own 0,bV t2027.2]) [(0,some (.row 2 136 (t2027.1.map Z1)))])] [(9,.own 3),(10,bV t2027.2)] [2,3,4,6,7,9,10] [(3,some (.row 2 136 (t2027.1.map Z1)))] [0,1,2,3] [_,_] ⟨Tryz.call178,Z26.ok ((t1925.1).f6) ((t1925.2.1).f6) t2027 e2028,trivial⟩ ?_
  obtain⟨t2031,e2032,H⟩:=Z4 H
  refine sR hP hn hm [(4,.call [] [(0,4)] [] [4] 0 (.tup [.own 0,bV t2031.2]) [(0,some (.row 2 136 (t2031.1.map Z1)))])] [(11,.own 4),(12,bV t2031.2)] [2,3,4,6,7,9,10,11,12] [(4,some (.row 2 136 (t2031.1.map Z1)))] [0,1,2,3,4] [_,_] ⟨Tryz.call178,Z26.ok ((t1925.1).f7) ((t1925.2.1).f7) t2031 e2032,trivial⟩ ?_
  obtain⟨t2036,e2037,H⟩:=Z4 H
  refine sR hP hn hm [(4,.call [] [] [] [] 0 (.tup [iV .u64 t2036.1,iV .i64 t2036.2]) [])] [(13,iV .u64 t2036.1),(14,iV .i64 t2036.2)] [2,4,6,7,9,10,11,12,13,14] [] [0,2,3,4] [_,_] ⟨Tryz.call179,Z5u.ok ((t1925.1).f3) ((t1925.2.1).f3) t2036 e2037,trivial⟩ ?_
  refine AWp.seq ?_
  refine AWp.block ?_
  refine AWp.seq ?_
  obtain⟨o2051,e2052,H⟩:=Z4 H
  refine AWp.mono (Q:=fun e s=>(match (generalizing:=false) o2051 with | x2042=>e = .normal∧s=⟨[(2,.ptr 5 0 0),(4,.ptr 6 0 0),(6,iV .i64 t927.1),(7,iV .i64 t927.2),(9,.own 7),(11,.own 8),(13,iV .u64 t2036.1),(58,bV x2042)],[(5,some (.box 48 (Z08 (t1925.1)))),(6,some (.box 48 [iV .i64 0,iV .i64 0,iV .i64 0,iV .u64 0,iV .u64 0,iV .i64 0,.none0,.none0])),(7,some (.row 2 136 (t2027.1.map Z1))),(8,some (.row 2 136 (t2031.1.map Z1)))],0⟩)) (AWp.cv ?_) ?_
  ·replace H:=e2052;clear e2052
   rcases Bool.eq_false_or_eq_true (!t2027.2) with c2040 | c2040
   ·replace H:=iT c2040 H
    refine rG hP hn hm [(2,.b true)] [(58,bV true)] [2,4,6,7,9,11,13,58] [] [0,2,3,4] [_] ⟨c2040,trivial⟩ ?_
    obtain rfl:=sj H
    exact lf [(0,5),(2,6),(3,7),(4,8)] [] [] (by kernel_rfl) ⟨rfl,rfl⟩
   ·replace H:=iF c2040 H
    rcases Bool.eq_false_or_eq_true (!t2031.2) with c2041 | c2041
    ·replace H:=iT c2041 H
     refine rG hP hn hm [(2,.b false),(6,.b true)] [(58,bV true)] [2,4,6,7,9,11,13,58] [] [0,2,3,4] [_,_] ⟨c2040,c2041,trivial⟩ ?_
     obtain rfl:=sj H
     exact lf [(0,5),(2,6),(3,7),(4,8)] [] [] (by kernel_rfl) ⟨rfl,rfl⟩
    ·replace H:=iF c2041 H
     refine rG hP hn hm [(2,.b false),(6,.b false)] [(58,bV (t2036.2 != (0:Int)))] [2,4,6,7,9,11,13,58] [] [0,2,3,4] [_,_] ⟨c2040,c2041,trivial⟩ ?_
     obtain rfl:=sj H
     exact lf [(0,5),(2,6),(3,7),(4,8)] [] [] (by kernel_rfl) ⟨rfl,rfl⟩
  ·obtain⟨x2042,rfl⟩:∃ z,z=o2051:=⟨_,rfl⟩
   rintro e s ⟨rfl,rfl⟩
   refine AWp.cond x2042 (by kernel_rfl) (fun c2043 => ?_) (fun c2043 => ?_)
   ·replace H:=iT c2043 H
    refine sO hP hn hm [] [(5,iV .i64 21)] [4,5] [] [6] ?_
    refine AWp.conv (inv:=[(6,0)]) (vk:=[]) (e0:=[]) (t:=⟨[(4,.ptr 0 0 0),(5,iV .i64 21)],[(0,some (.box 48 (Z08 ((⟨0,0,0,0,0,0,[],[]⟩:Z0f)))))],0⟩) (by kernel_rfl) ?_
    refine AWp.ret ?_
    obtain rfl:=sj H
    exact rl (.inl rfl) rfl (by kernel_rfl) (by kernel_rfl)
   ·replace H:=iF c2043 H
    refine sO hP hn hm [] [(70,bV (t927.2 != (0:Int)))] [2,4,6,7,9,11,13,70] [] [5,6,7,8] ?_
    refine AWp.cond (t927.2 != (0:Int)) (by kernel_rfl) (fun c2044 => ?_) (fun c2044 => ?_)
    ·replace H:=iT c2044 H
     refine sO hP hn hm [] [(5,iV .i64 t927.2)] [4,5] [] [6] ?_
     refine AWp.conv (inv:=[(6,0)]) (vk:=[]) (e0:=[]) (t:=⟨[(4,.ptr 0 0 0),(5,iV .i64 t927.2)],[(0,some (.box 48 (Z08 ((⟨0,0,0,0,0,0,[],[]⟩:Z0f)))))],0⟩) (by kernel_rfl) ?_
     refine AWp.ret ?_
     obtain rfl:=sj H
     exact rl (.inl rfl) rfl (by kernel_rfl) (by kernel_rfl)
    ·replace H:=iF c2044 H
     refine AWp.skip ?_
     refine sO hP hn hm [] [] [2,4,9,11] [(5,some (.box 48 (Z08 ⟨((t1925.1).f0),((t1925.1).f1),((t1925.1).f2),t2036.1,((t1925.1).f4),t927.1,((t1925.1).f6),((t1925.1).f7)⟩)))] [5,6,7,8] ?_
     refine AWp.seq ?_
     refine AWp.conv (inv:=[(5,5),(6,6)]) (vk:=[7,8]) (e0:=[]) (t:=⟨[(2,.ptr 5 0 0),(4,.ptr 6 0 0),(9,.im (.row (t2027.1.map Z1))),(11,.im (.row (t2031.1.map Z1)))],[(5,some (.box 48 (Z08 ⟨((t1925.1).f0),((t1925.1).f1),((t1925.1).f2),t2036.1,((t1925.1).f4),t927.1,((t1925.1).f6),((t1925.1).f7)⟩))),(6,some (.box 48 [iV .i64 0,iV .i64 0,iV .i64 0,iV .u64 0,iV .u64 0,iV .i64 0,.none0,.none0]))],0⟩) (by kernel_rfl) ?_
     obtain⟨t2049,e2050,H⟩:=Z4 H
     refine rG hP hn hm [(3,.call [] [] [] [] 0 (.tup [.agg (Z08 (t2049.1)),iV .i64 t2049.2]) [])] [(5,iV .i64 t2049.2)] [4,5] [(6,some (.box 48 (Z08 (t2049.1))))] [6] [_,_] ⟨Tryz.call153,Z3q.ok (⟨(t1925.1).f0,(t1925.1).f1,(t1925.1).f2,t2036.1,(t1925.1).f4,t927.1,(t1925.1).f6,(t1925.1).f7⟩:Z0f) t2027.1 t2031.1 t2049 e2050,trivial⟩ ?_
     refine AWp.conv (inv:=[(6,0)]) (vk:=[]) (e0:=[]) (t:=⟨[(4,.ptr 0 0 0),(5,iV .i64 t2049.2)],[(0,some (.box 48 (Z08 ((t2049.1)))))],0⟩) (by kernel_rfl) ?_
     refine AWp.ret ?_
     obtain rfl:=sj H
     exact rl (.inl rfl) rfl (by kernel_rfl) (by kernel_rfl)
def Z4m.f (a0:Z0f) (a1:Z0f):Option (Bool):=(Z57.f a1 a0)>>=fun t2055=>some (t2055.2==(21:Int))
theorem Z4m.ok (a0:Z0f) (a1:Z0f) (r:Bool) (H:Z4m.f a0 a1=some r):Pv.Fn Tryz.prog 132 [.agg (Z08 a0),.agg (Z08 a1)] [] 0 (fun x o=>x=bV r∧o=[]):=by
 unfold Z4m.f at H
 refine Fn.bodyK [] Tryz.func132 rfl rfl (fun Γ hP hn => ?_)
 have hm:Tryz.prog.follows .mixedOrders=true:=by kernel_rfl
 replace hn:Γ.n=15:=hn
 refine sO hP hn hm [(0,.k 0),(1,.k 1)] [(2,.ptr 0 0 0),(3,.ptr 1 0 0)] [2,3] [(0,some (.box 48 (Z08 a0))),(1,some (.box 48 (Z08 a1)))] [0,1] ?_
 obtain⟨t2055,e2056,H⟩:=Z4 H
 refine sR hP hn hm [(2,.call [] [] [] [] 0 (.tup [.agg (Z08 (t2055.1)),iV .i64 t2055.2]) []),(6,.k 2)] [(6,iV .i64 t2055.2)] [6] [] [] [_,_] ⟨Tryz.call165,Z57.ok a1 a0 t2055 e2056,trivial⟩ ?_
 refine sO hP hn hm [] [(4,bV (t2055.2==(21:Int)))] [4] [] [] ?_
 refine AWp.conv (inv:=[]) (vk:=[]) (e0:=[]) (t:=⟨[(4,bV (t2055.2==(21:Int)))],[],0⟩) (by kernel_rfl) ?_
 refine AWp.ret ?_
 obtain rfl:=sj H
 exact rl (.inl rfl) rfl (by kernel_rfl) (by kernel_rfl)
def Z24.f (a0:List Zt):Option (List Zt):=(chk ((([]:List Zt).length+a0.length)*104≤140737488355328))>>=fun _=>some a0
theorem Z24.ok (a0 r:List Zt) (H:Z24.f a0=some r):Pv.Fn Tryz.prog 97 [.im (.row (a0.map Z6))] [] 0 (fun x o=>x = .own 0∧o=[(0,some (.row 9 50 (r.map Z6)))]):=by
 unfold Z24.f at H
 obtain⟨c1,H⟩:=Z10 H
 obtain rfl:=sj H
 refine Fn.bodyK [0] Tryz.func97 rfl rfl (fun Γ hP hn => ?_)
 have hm:Tryz.prog.follows .mixedOrders=true:=by kernel_rfl
 replace hn:Γ.n=8:=hn
 refine AWp.seq ?_
 refine reg hP hn hm [] [0,2] [] ⟨[(0,.im (.row (a0.map Z6))),(2,.none0)],[],0⟩ [] (by kernel_rfl) trivial ?_
 refine AWp.seq ?_
 cases a0 with
 | nil =>
  refine AWp.nilSplit 0 rfl (fun b m => ?_)
  refine AWp.seq ?_
  cases b with
  | none =>
   refine reg hP hn hm [(1,.more xNil)] [2,4] [] ⟨[(2,.none0),(4,bV true)],[],0⟩ [] (by kernel_rfl) trivial ?_
   refine AWp.cond true rfl (fun _ => ?_) (fun h=>nomatch h)
   refine AWp.seq ?_
   refine reg hP hn hm [] [2] [] ⟨[(2,.none0)],[],0⟩ [] (by kernel_rfl) trivial ?_
   refine AWp.conv (inv:=[]) (vk:=[]) (e0:=[0]) (t:=⟨[(2,.own 0)],[(0,some (.row 9 50 []))],0⟩) (by kernel_rfl) ?_
   refine AWp.ret ?_
   exact Exists.intro _ (And.intro (fun _ _ h=>h) (And.intro (.inl rfl) (And.intro rfl (And.intro (by kernel_rfl) (by kernel_rfl)))))
  | some b =>
   refine reg hP hn hm [(1,.more xNil)] [0,2,4] [] ⟨[(0,.im (.sc (.slice (some b) 0 m))),(2,.none0),(4,bV false)],[],0⟩ [] (by kernel_rfl) trivial ?_
   refine AWp.cond false rfl (fun h=>nomatch h) (fun _ => ?_)
   refine AWp.skip ?_
   refine AWp.unsplit 0 rfl ?_
   refine AWp.seq ?_
   refine reg hP hn hm [(0,.app 0 ([]:List (List Im))),(2,.app 1 (([]:List Zt).map Z6))] [2] [1] ⟨[(2,.own 1)],[(1,some (.row 9 50 (([]:List Zt).map Z6)))],0⟩ [([]:List (List Im))=[],([]:List Zt).map Z6=([]:List (List Im))++([]:List Zt).map Z6,∀ c∈([]:List Zt).map Z6,c.length=9,∀ c∈([]:List Zt).map Z6,Z16 (c.map .im)=true,(([]:List (List Im)).length+(([]:List Zt).map Z6).length)*104≤140737488355328] (by kernel_rfl) ⟨rfl,by simp,by exact Z12 _ _ _ (fun _=>rfl),by exact Z14 _ _ (fun _=>rfl),by simpa using c1,trivial⟩ ?_
   refine AWp.conv (inv:=[(1,0)]) (vk:=[]) (e0:=[]) (t:=⟨[(2,.own 0)],[(0,some (.row 9 50 (([]:List Zt).map Z6)))],0⟩) (by kernel_rfl) ?_
   refine AWp.ret ?_
   exact Exists.intro _ (And.intro (fun _ _ h=>h) (And.intro (.inl rfl) (And.intro rfl (And.intro (by kernel_rfl) (by kernel_rfl)))))
 | cons y l =>
  refine AWp.seq ?_
  refine reg hP hn hm [(1,.more xNil)] [0,2,4] [] ⟨[(0,.im (.row ((y::l).map Z6))),(2,.none0),(4,bV false)],[],0⟩ [] (by kernel_rfl) trivial ?_
  refine AWp.cond false rfl (fun h=>nomatch h) (fun _ => ?_)
  refine AWp.skip ?_
  refine AWp.seq ?_
  refine reg hP hn hm [(0,.app 0 ([]:List (List Im))),(2,.app 1 ((y::l).map Z6))] [2] [1] ⟨[(2,.own 1)],[(1,some (.row 9 50 ((y::l).map Z6)))],0⟩ [([]:List (List Im))=[],(y::l).map Z6=([]:List (List Im))++(y::l).map Z6,∀ c∈(y::l).map Z6,c.length=9,∀ c∈(y::l).map Z6,Z16 (c.map .im)=true,(([]:List (List Im)).length+((y::l).map Z6).length)*104≤140737488355328] (by kernel_rfl) ⟨rfl,by simp,by exact Z12 _ _ _ (fun _=>rfl),by exact Z14 _ _ (fun _=>rfl),by simpa using c1,trivial⟩ ?_
  refine AWp.conv (inv:=[(1,0)]) (vk:=[]) (e0:=[]) (t:=⟨[(2,.own 0)],[(0,some (.row 9 50 ((y::l).map Z6)))],0⟩) (by kernel_rfl) ?_
  refine AWp.ret ?_
  exact Exists.intro _ (And.intro (fun _ _ h=>h) (And.intro (.inl rfl) (And.intro rfl (And.intro (by kernel_rfl) (by kernel_rfl)))))
def Z3l.l0 (a0:List Z9) (x2081:Int) (x2082:List Z38) (x2083:Int):Option (Int×(List Z38)):=if(decide (x2083<(a0.length:Int)))=true then((at? a0 x2083)>>=fun b2088=>((if(x2083==(0:Int))=true then(some (b2088.f0,[(⟨0,1⟩:Z38)])) else((at? a0 (i64.wrap (x2083-(1:Int))))>>=fun b2095=>((if((i64.wrap (b2095.f0+(1:Int)))==b2088.f0)=true then((at? x2082 (i64.wrap ((x2082.length:Int)-(1:Int))))>>=fun b2102=>some (x2082.set (Int.toNat (i64.wrap ((x2082.length:Int)-(1:Int)))) (⟨b2102.f0,i64.wrap (b2102.f1+(1:Int))⟩:Z38))) else((chk ((x2082.length+[(⟨i64.wrap ((i64.wrap (b2088.f0-b2095.f0))-(1:Int)),1⟩:Z38)].length)*16≤140737488355328))>>=fun _=>some (x2082++[(⟨i64.wrap ((i64.wrap (b2088.f0-b2095.f0))-(1:Int)),1⟩:Z38)]))):Option (List Z38))>>=fun x2107=>some (x2081,x2107))):Option (Int×(List Z38)))>>=fun oo=>match oo with | (x2108,x2109)=>(Z3l.l0 a0 x2108 x2109 (i64.wrap (x2083+(1:Int))))) else(some (x2081,x2082))
partial_fixpoint
def Z3l.f (a0:List Z9):Option (Zm):=(Z3l.l0 a0 0 [] 0)>>=fun oo=>match oo with | (x2110,x2111)=>(some (⟨x2110,x2111⟩:Zm))
theorem Z3l.ok (a0:List Z9) (r:Zm) (H:Z3l.f a0=some r):Pv.Fn Tryz.prog 135 [.im (.row (a0.map Z1))] [] 0 (fun x o=>x = .agg [iV .i64 ((r).f0),.own 0]∧o=[(0,some (.row 2 210 (((r).f1).map Z0q)))]):=by
 unfold Z3l.f at H
 refine Fn.bodyK [0] Tryz.func135 rfl rfl (fun Γ hP hn => ?_)
 have hm:Tryz.prog.follows .mixedOrders=true:=by kernel_rfl
 replace hn:Γ.n=65:=hn
 refine sO hP hn hm [(0,.k 0)] [(2,.ptr 0 0 0)] [0,2] [(0,some (.box 179 [iV .i64 0,.none0]))] [0] ?_
 refine sO hP hn hm [(0,.k 1)] [(3,.ptr 1 0 0)] [0,2,3] [(1,some (.box 179 [iV .i64 0,.none0]))] [0,1] ?_
 refine AWp.seq ?_
 refine sR hP hn hm [(1,.any (iV .i64 (a0.length:Int)))] [(7,.im (.row (a0.map Z1))),(8,iV .i64 (a0.length:Int)),(9,iV .i64 0)] [0,2,3,7,8,9] [] [0,1] [((a0.map Z1).length:Int)=(a0.length:Int)] ⟨by rw[Zr],trivial⟩ ?_
 refine AWp.block ?_
 obtain⟨o2112,e2113,H⟩:=Z4 H
 refine AWp.loop (LWp.conv (inv:=[(0,4),(1,5)]) (vk:=[]) (e0:=[6]) (t:=⟨[(0,.im (.row (a0.map Z1))),(2,.ptr 4 0 0),(3,.ptr 5 0 0),(7,.im (.row (a0.map Z1))),(8,iV .i64 (a0.length:Int)),(9,iV .i64 0)],[(4,some (.box 179 [iV .i64 0,.none0])),(5,some (.box 179 [iV .i64 0,.own 6])),(6,some (.row 2 210 ([].map Z0q)))],0⟩) (by kernel_rfl) ?_)
 refine LWp.mono (Q:=fun e s=>(match (generalizing:=false) o2112 with | (x2110,x2111)=>e = .exit 0∧s=⟨[(2,.ptr 17 0 0),(3,.ptr 18 0 0)],[(17,some (.box 179 [iV .i64 0,.none0])),(18,some (.box 179 [iV .i64 x2110,.own 19])),(19,some (.row 2 210 (x2111.map Z0q)))],0⟩)) (LWp.cv (Zs (fun body hbody => ?_))) ?_
 ·refine       Z3l.l0.partial_correctness a0 (motive:=fun x2081 x2082 x2083 o2112=>LWp Γ body (fun e s=>∃ t,Cv Γ s t∧(match (generalizing:=false) o2112 with | (x2110,x2111)=>e = .exit 0∧t=⟨[(2,.ptr 17 0 0),(3,.ptr 18 0 0)],[(17,some (.box 179 [iV .i64 0,.none0])),(18,some (.box 179 [iV .i64 x2110,.own 19])),(19,some (.row 2 210 (x2111.map Z0q  )))],0⟩)) ⟨[(0,.im (.row (a0.map Z1     ))),(2,.ptr 4 0 0),(3,.ptr 5 0 0),(7,.im (.row (a0.map Z1     ))),(8,iV .i64 (a0.length:Int)),(9,iV .i64 x2083)],[(4,some (.box 179 [iV .i64 0,.none0])),(5,some (.box 179 [iV .i64 x2081,.own 6])),(6,some (.row 2 210 (x2082.map Z0q  )))],0⟩) ?_ _ _ _ _ e2113
  clear H e2113 o2112;intro self ih x2081 x2082 x2083 o2112 H
  subst hbody
  refine LWp.round ?_
  refine sO hP hn hm [] [(10,bV (decide (x2083<(a0.length:Int))))] [0,2,3,7,8,9,10] [] [4,5,6] ?_
  refine AWp.seq ?_
  refine AWp.cond (decide (x2083<(a0.length:Int))) (by kernel_rfl) (fun c2084 => ?_) (fun c2084 => ?_)
  ·replace H:=iT c2084 H
   refine AWp.skip ?_
   refine AWp.seq ?_
   refine AWp.block ?_
   obtain⟨b2088,p2089,q2090,H⟩:=Z02 H
   refine sR hP hn hm [(1,.c (Z1 b2088)),(3,.k 7)] [(4,iV .i64 x2083),(5,.ptr 7 0 0)] [0,2,3,4,5,7,8,9] [(7,some (.box 136 (Z2m b2088)))] [4,5,6,7] [_,_] ⟨p2089,Zi Z1 q2090,trivial⟩ ?_
   refine sR hP hn hm [(2,.any (iV .i64 (x2082.length:Int)))] [(6,iV .i64 (x2082.length:Int))] [0,2,3,4,5,6,7,8,9] [] [4,5,6,7] [((x2082.map Z0q).length:Int)=(x2082.length:Int)] ⟨by rw[Zr],trivial⟩ ?_
   refine AWp.block ?_
   refine sO hP hn hm [] [(33,bV (x2083==(0:Int)))] [0,2,3,4,5,6,7,8,9,33] [] [4,5,6,7] ?_
   obtain⟨o2114,e2115,H⟩:=Z4 H
   refine AWp.mono (Q:=fun e s=>(match (generalizing:=false) o2114 with | (x2108,x2109)=>e = .normal∧s=⟨[(0,.im (.row (a0.map Z1))),(2,.ptr 14 0 0),(3,.ptr 15 0 0),(7,.im (.row (a0.map Z1))),(8,iV .i64 (a0.length:Int)),(9,iV .i64 x2083)],[(14,some (.box 179 [iV .i64 0,.none0])),(15,some (.box 179 [iV .i64 x2108,.own 16])),(16,some (.row 2 210 (x2109.map Z0q)))],0⟩)) (AWp.cv ?_) ?_
   ·replace H:=e2115;clear e2115
    refine AWp.cond (x2083==(0:Int)) (by kernel_rfl) (fun c2091 => ?_) (fun c2091 => ?_)
    ·replace H:=iT c2091 H
     refine sO hP hn hm [] [] [0,2,3,7,8,9] [(5,some (.box 179 [iV .i64 b2088.f0,.own 6]))] [4,5,6] ?_
     refine rG hP hn hm [(1,.app 8 ([(⟨0,1⟩:Z38)].map Z0q))] [] [0,2,3,7,8,9] [(5,some (.box 179 [iV .i64 b2088.f0,.own 8])),(8,some (.row 2 210 ([(⟨0,1⟩:Z38)].map Z0q)))] [4,5,8] [[(⟨0,1⟩:Z38)].map Z0q=[[iI .i64 0,iI .i64 1]]] ⟨by exact rfl,trivial⟩ ?_
     obtain rfl:=sj H
     exact lf [(4,14),(5,15),(8,16)] [] [] (by kernel_rfl) ⟨rfl,rfl⟩
    ·replace H:=iF c2091 H
     obtain⟨b2095,p2096,q2097,H⟩:=Z02 H
     refine sR hP hn hm [(3,.c (Z1 b2095))] [(42,bV ((i64.wrap (b2095.f0+(1:Int)))==b2088.f0))] [0,2,3,4,5,6,7,8,9,42] [] [4,5,6,7] [_,_] ⟨p2096,Zi Z1 q2097,trivial⟩ ?_
     obtain⟨o2116,e2117,H⟩:=Z4 H
     refine AWp.mono (Q:=fun e s=>(match (generalizing:=false) o2116 with | x2107=>e = .normal∧s=⟨[(0,.im (.row (a0.map Z1))),(2,.ptr 11 0 0),(3,.ptr 12 0 0),(7,.im (.row (a0.map Z1))),(8,iV .i64 (a0.length:Int)),(9,iV .i64 x2083)],[(11,some (.box 179 [iV .i64 0,.none0])),(12,some (.box 179 [iV .i64 x2081,.own 13])),(13,some (.row 2 210 (x2107.map Z0q)))],0⟩)) (AWp.cv ?_) ?_
     ·replace H:=e2117;clear e2117
      refine AWp.cond ((i64.wrap (b2095.f0+(1:Int)))==b2088.f0) (by kernel_rfl) (fun c2098 => ?_) (fun c2098 => ?_)
      ·replace H:=iT c2098 H
       obtain⟨b2102,p2103,q2104,H⟩:=Z02 H
       refine rG hP hn hm [(6,.c (Z0q b2102)),(10,.put (Z0q b2102) ((x2082.set (Int.toNat (i64.wrap ((x2082.length:Int)-(1:Int)))) (⟨b2102.f0,i64.wrap (b2102.f1+(1:Int))⟩:Z38)).map Z0q))] [] [0,2,3,7,8,9] [(6,some (.row 2 210 ((x2082.set (Int.toNat (i64.wrap ((x2082.length:Int)-(1:Int)))) (⟨b2102.f0,i64.wrap (b2102.f1+(1:Int))⟩:Z38)).map Z0q)))] [4,5,6] [_,_,_,_,_,_,(x2082.set (Int.toNat (i64.wrap ((x2082.length:Int)-(1:Int)))) (⟨b2102.f0,i64.wrap (b2102.f1+(1:Int))⟩:Z38)).map Z0q=(x2082.map Z0q).set (Int.toNat (i64.wrap ((x2082.length:Int)-(1:Int)))) (Z0t (Z0q b2102) 1 [iI .i64 (i64.wrap (b2102.f1+(1:Int)))])] ⟨p2103,Z09 Z0q p2103 q2104,Zi Z0q q2104,p2103,Z09 Z0q p2103 q2104,Zi Z0q q2104,by exact set1 _ _ _ _,trivial⟩ ?_
       obtain rfl:=sj H
       exact lf [(4,11),(5,12),(6,13)] [] [] (by kernel_rfl) ⟨rfl,rfl⟩
      ·replace H:=iF c2098 H
       obtain⟨c2106,H⟩:=Z10 H
       refine rG hP hn hm [(7,.c (Z1 b2095)),(13,.app 9 ([(⟨i64.wrap ((i64.wrap (b2088.f0-b2095.f0))-(1:Int)),1⟩:Z38)].map Z0q)),(14,.app 10 ((x2082++[(⟨i64.wrap ((i64.wrap (b2088.f0-b2095.f0))-(1:Int)),1⟩:Z38)]).map Z0q))] [] [0,2,3,7,8,9] [(5,some (.box 179 [iV .i64 x2081,.own 10])),(10,some (.row 2 210 ((x2082++[(⟨i64.wrap ((i64.wrap (b2088.f0-b2095.f0))-(1:Int)),1⟩:Z38)]).map Z0q)))] [4,5,10] [_,_,[(⟨i64.wrap ((i64.wrap (b2088.f0-b2095.f0))-(1:Int)),1⟩:Z38)].map Z0q=[[iI .i64 (i64.wrap ((i64.wrap (b2088.f0-b2095.f0))-(1:Int))),iI .i64 1]],(x2082++[(⟨i64.wrap ((i64.wrap (b2088.f0-b2095.f0))-(1:Int)),1⟩:Z38)]).map Z0q=(x2082.map Z0q)++([(⟨i64.wrap ((i64.wrap (b2088.f0-b2095.f0))-(1:Int)),1⟩:Z38)].map Z0q),∀ c∈([(⟨i64.wrap ((i64.wrap (b2088.f0-b2095.f0))-(1:Int)),1⟩:Z38)].map Z0q),c.length=2,∀ c∈([(⟨i64.wrap ((i64.wrap (b2088.f0-b2095.f0))-(1:Int)),1⟩:Z38)].map Z0q),Z16 (c.map .im)=true,((x2082.map Z0q).length+([(⟨i64.wrap ((i64.wrap (b2088.f0-b2095.f0))-(1:Int)),1⟩:Z38)].map Z0q).length)*16≤140737488355328] ⟨p2096,Zi Z1 q2097,by exact rfl,by simp,by exact Z12 _ _ _ (fun _=>rfl),by exact Z14 _ _ (fun _=>rfl),by simpa using c2106,trivial⟩ ?_
       obtain rfl:=sj H
       exact lf [(4,11),(5,12),(10,13)] [] [] (by kernel_rfl) ⟨rfl,rfl⟩
     ·obtain⟨x2107,rfl⟩:∃ z,z=o2116:=⟨_,rfl⟩
      rintro e s ⟨rfl,rfl⟩
      obtain rfl:=sj H
      exact lf [(11,14),(12,15),(13,16)] [] [] (by kernel_rfl) ⟨rfl,rfl⟩
   ·obtain⟨x2108,x2109⟩:=o2114
    rintro e s ⟨rfl,rfl⟩
    refine rO hP hn hm [] [(9,iV .i64 (i64.wrap (x2083+(1:Int))))] [0,2,3,7,8,9] [] [14,15,16] ?_
    exact LWp.conv [(14,4),(15,5),(16,6)] [] [] (by kernel_rfl) (ih _ _ _ _ H)
  ·replace H:=iF c2084 H
   refine AWp.exit ?_
   obtain rfl:=sj H
   exact lf [(4,17),(5,18),(6,19)] [] [] (by kernel_rfl) ⟨rfl,rfl⟩
 ·obtain⟨x2110,x2111⟩:=o2112
  rintro e s ⟨rfl,rfl⟩
  refine sO hP hn hm [] [] [2] [(17,some (.box 179 [iV .i64 x2110,.own 19]))] [17,19] ?_
  refine AWp.conv (inv:=[(17,1),(19,0)]) (vk:=[]) (e0:=[]) (t:=⟨[(2,.ptr 1 0 0)],[(0,some (.row 2 210 ((((⟨x2110,x2111⟩:Zm)).f1).map Z0q))),(1,some (.box 179 [iV .i64 (((⟨x2110,x2111⟩:Zm)).f0),.own 0]))],0⟩) (by kernel_rfl) ?_
  refine AWp.ret ?_
  obtain rfl:=sj H
  exact rl (.inl rfl) rfl (by kernel_rfl) (by kernel_rfl)
def Z0a.l1 (a0:Zm) (b2145:Z38) (x2140:Int) (x2151:List Int) (x2152:Int) (x2153:Int):Option ((List Int)×Int):=if(decide (x2153<b2145.f1))=true then((chk ((x2151.length+[x2152].length)*8≤140737488355328))>>=fun _=>Z0a.l1 a0 b2145 x2140 (x2151++[x2152]) (i64.wrap (x2152+(1:Int))) (i64.wrap (x2153+(1:Int)))) else(some (x2151,x2152))
partial_fixpoint
def Z0a.l0 (a0:Zm) (x2138:List Int) (x2139:Int) (x2140:Int):Option (List Int):=if(decide (x2140<(a0.f1.length:Int)))=true then((at? a0.f1 x2140)>>=fun b2145=>(Z0a.l1 a0 b2145 x2140 x2138 (i64.wrap (x2139+b2145.f0)) 0)>>=fun oo=>match oo with | (x2157,x2158)=>(Z0a.l0 a0 x2157 x2158 (i64.wrap (x2140+(1:Int))))) else(some x2138)
partial_fixpoint
def Z0a.f (a0:Zm):Option (List Int):=(Z0a.l0 a0 [] a0.f0 0)>>=fun x2159=>some x2159
theorem Z0a.ok (a0:Zm) (r:List Int) (H:Z0a.f a0=some r):Pv.Fn Tryz.prog 133 [.agg (Zj a0)] [] 0 (fun x o=>x = .own 0∧o=[(0,some (.row 1 3 (r.map (Z2 .i64))))]):=by
 unfold Z0a.f at H
 refine Fn.bodyK [0] Tryz.func133 rfl rfl (fun Γ hP hn => ?_)
 have hm:Tryz.prog.follows .mixedOrders=true:=by kernel_rfl
 replace hn:Γ.n=33:=hn
 refine sO hP hn hm [(0,.k 0)] [(1,.ptr 0 0 0)] [1] [(0,some (.box 179 (Zj a0)))] [0] ?_
 refine sO hP hn hm [] [(3,.none0)] [1,3] [] [0] ?_
 refine sO hP hn hm [] [(4,iV .i64 a0.f0)] [1,3,4] [] [0] ?_
 refine AWp.seq ?_
 refine sR hP hn hm [(2,.any (iV .i64 (a0.f1.length:Int)))] [(10,.im (.row (a0.f1.map Z0q))),(11,iV .i64 (a0.f1.length:Int)),(12,iV .i64 0)] [3,4,10,11,12] [] [] [((a0.f1.map Z0q).length:Int)=(a0.f1.length:Int)] ⟨by rw[Zr],trivial⟩ ?_
 refine AWp.block ?_
 obtain⟨o2160,e2161,H⟩:=Z4 H
 refine AWp.loop (LWp.conv (inv:=[]) (vk:=[]) (e0:=[8]) (t:=⟨[(3,.own 8),(4,iV .i64 a0.f0),(10,.im (.row (a0.f1.map Z0q))),(11,iV .i64 (a0.f1.length:Int)),(12,iV .i64 0)],[(8,some (.row 1 3 ([].map (Z2 .i64))))],0⟩) (by kernel_rfl) ?_)
 refine LWp.mono (Q:=fun e s=>(match (generalizing:=false) o2160 with | x2159=>e = .exit 0∧s=⟨[(3,.own 16)],[(16,some (.row 1 3 (x2159.map (Z2 .i64))))],0⟩)) (LWp.cv (Zs (fun body hbody => ?_))) ?_
 ·refine            Z0a.l0.partial_correctness a0 (motive:=fun x2138 x2139 x2140 o2160=>LWp Γ body (fun e s=>∃ t,Cv Γ s t∧(match (generalizing:=false) o2160 with | x2159=>e = .exit 0∧t=⟨[(3,.own 16)],[(16,some (.row 1 3 (x2159.map (Z2     .i64))))],0⟩)) ⟨[(3,.own 8),(4,iV .i64 x2139),(10,.im (.row (a0.f1.map Z0q  ))),(11,iV .i64 (a0.f1.length:Int)),(12,iV .i64 x2140)],[(8,some (.row 1 3 (x2138.map (Z2     .i64))))],0⟩) ?_ _ _ _ _ e2161
  clear H e2161 o2160;intro self ih x2138 x2139 x2140 o2160 H
  subst hbody
  refine LWp.round ?_
  refine sO hP hn hm [] [(13,bV (decide (x2140<(a0.f1.length:Int))))] [3,4,10,11,12,13] [] [8] ?_
  refine AWp.seq ?_
  refine AWp.cond (decide (x2140<(a0.f1.length:Int))) (by kernel_rfl) (fun c2141 => ?_) (fun c2141 => ?_)
  ·replace H:=iT c2141 H
   refine AWp.skip ?_
   refine AWp.seq ?_
   refine AWp.block ?_
   obtain⟨b2145,p2146,q2147,H⟩:=Z02 H
   refine sR hP hn hm [(0,.c (Z0q b2145)),(2,.k 9)] [(6,.ptr 9 0 0)] [3,4,6,10,11,12] [(9,some (.box 210 (aSpan b2145)))] [8,9] [_,_] ⟨p2146,Zi Z0q q2147,trivial⟩ ?_
   refine sO hP hn hm [] [(4,iV .i64 (i64.wrap (x2139+b2145.f0)))] [3,4,6,10,11,12] [] [8,9] ?_
   refine sO hP hn hm [] [(21,iV .i64 b2145.f1),(22,iV .i64 0)] [3,4,10,11,12,21,22] [] [8] ?_
   refine AWp.block ?_
   obtain⟨o2162,e2163,H⟩:=Z4 H
   refine AWp.loop (LWp.conv (inv:=[(8,12)]) (vk:=[]) (e0:=[]) (t:=⟨[(3,.own 12),(4,iV .i64 (i64.wrap (x2139+b2145.f0))),(10,.im (.row (a0.f1.map Z0q))),(11,iV .i64 (a0.f1.length:Int)),(12,iV .i64 x2140),(21,iV .i64 b2145.f1),(22,iV .i64 0)],[(12,some (.row 1 3 (x2138.map (Z2 .i64))))],0⟩) (by kernel_rfl) ?_)
   refine LWp.mono (Q:=fun e s=>(match (generalizing:=false) o2162 with | (x2157,x2158)=>e = .exit 2∧s=⟨[(3,.own 15),(4,iV .i64 x2158),(10,.im (.row (a0.f1.map Z0q))),(11,iV .i64 (a0.f1.length:Int)),(12,iV .i64 x2140)],[(15,some (.row 1 3 (x2157.map (Z2 .i64))))],0⟩)) (LWp.cv (Zs (fun body hbody => ?_))) ?_
   ·refine            Z0a.l1.partial_correctness a0 b2145 x2140 (motive:=fun x2151 x2152 x2153 o2162=>LWp Γ body (fun e s=>∃ t,Cv Γ s t∧(match (generalizing:=false) o2162 with | (x2157,x2158)=>e = .exit 2∧t=⟨[(3,.own 15),(4,iV .i64 x2158),(10,.im (.row (a0.f1.map Z0q  ))),(11,iV .i64 (a0.f1.length:Int)),(12,iV .i64 x2140)],[(15,some (.row 1 3 (x2157.map (Z2     .i64))))],0⟩)) ⟨[(3,.own 12),(4,iV .i64 x2152),(10,.im (.row (a0.f1.map Z0q  ))),(11,iV .i64 (a0.f1.length:Int)),(12,iV .i64 x2140),(21,iV .i64 b2145.f1),(22,iV .i64 x2153)],[(12,some (.row 1 3 (x2151.map (Z2     .i64))))],0⟩) ?_ _ _ _ _ e2163
    clear H e2163 o2162;intro self ih x2151 x2152 x2153 o2162 H
    subst hbody
    refine LWp.round ?_
    refine sO hP hn hm [] [(23,bV (decide (x2153<b2145.f1)))] [3,4,10,11,12,21,22,23] [] [12] ?_
    refine AWp.seq ?_
    refine AWp.cond (decide (x2153<b2145.f1)) (by kernel_rfl) (fun c2154 => ?_) (fun c2154 => ?_)
    ·replace H:=iT c2154 H
     refine AWp.skip ?_
     refine AWp.seq ?_
     refine AWp.block ?_
     obtain⟨c2156,H⟩:=Z10 H
     refine sR hP hn hm [(2,.app 13 ([x2152].map (Z2 .i64))),(3,.app 14 ((x2151++[x2152]).map (Z2 .i64)))] [(3,.own 14)] [3,4,10,11,12,21,22] [(14,some (.row 1 3 ((x2151++[x2152]).map (Z2 .i64))))] [14] [[x2152].map (Z2 .i64)=[[iI .i64 x2152]],(x2151++[x2152]).map (Z2 .i64)=(x2151.map (Z2 .i64))++([x2152].map (Z2 .i64)),∀ c∈([x2152].map (Z2 .i64)),c.length=1,∀ c∈([x2152].map (Z2 .i64)),Z16 (c.map .im)=true,((x2151.map (Z2 .i64)).length+([x2152].map (Z2 .i64)).length)*8≤140737488355328] ⟨by exact rfl,by simp,by exact Z12 _ _ _ (fun _=>rfl),by exact Z14 _ _ (fun _=>rfl),by simpa using c2156,trivial⟩ ?_
     refine rO hP hn hm [] [(4,iV .i64 (i64.wrap (x2152+(1:Int))))] [3,4,10,11,12,21,22] [] [14] ?_
     refine rO hP hn hm [] [(22,iV .i64 (i64.wrap (x2153+(1:Int))))] [3,4,10,11,12,21,22] [] [14] ?_
     exact LWp.conv [(14,12)] [] [] (by kernel_rfl) (ih _ _ _ _ H)
    ·replace H:=iF c2154 H
     refine AWp.exit ?_
     obtain rfl:=sj H
     exact lf [(12,15)] [] [] (by kernel_rfl) ⟨rfl,rfl⟩
   ·obtain⟨x2157,x2158⟩:=o2162
    rintro e s ⟨rfl,rfl⟩
    refine rO hP hn hm [] [(12,iV .i64 (i64.wrap (x2140+(1:Int))))] [3,4,10,11,12] [] [15] ?_
    exact LWp.conv [(15,8)] [] [] (by kernel_rfl) (ih _ _ _ _ H)
  ·replace H:=iF c2141 H
   refine AWp.exit ?_
   obtain rfl:=sj H
   exact lf [(8,16)] [] [] (by kernel_rfl) ⟨rfl,rfl⟩
 ·obtain⟨x2159,rfl⟩:∃ z,z=o2160:=⟨_,rfl⟩
  rintro e s ⟨rfl,rfl⟩
  refine sO hP hn hm [] [(2,.own 16)] [2] [] [16] ?_
  refine AWp.conv (inv:=[(16,0)]) (vk:=[]) (e0:=[]) (t:=⟨[(2,.own 0)],[(0,some (.row 1 3 (x2159.map (Z2 .i64))))],0⟩) (by kernel_rfl) ?_
  refine AWp.ret ?_
  obtain rfl:=sj H
  exact rl (.inl rfl) rfl (by kernel_rfl) (by kernel_rfl)
def Z2z.l0 (x2249:List Int) (x2250:List Int) (x2251:List Z9):Option (List Z9):=if(decide ((i64.wrap ((x2249.length:Int)+(x2250.length:Int)))>(0:Int)))=true then(((if((x2250.length:Int)==(0:Int))=true then(some true) else(if(decide ((x2249.length:Int)>(0:Int)))=true then((at? x2249 0)>>=fun b2263=>(at? x2250 0)>>=fun b2266=>some (decide (b2263<b2266))) else(some false))):Option (Bool))>>=fun x2269=>((if x2269=true then((at? x2249 0)>>=fun b2275=>(chk ((x2251.length+[(⟨b2275,0⟩:Z9)].length)*16≤140737488355328))>>=fun _=>(chk (0≤(1:Int)∧(1:Int)≤(x2249.length:Int)∧(x2249.length:Int)≤(x2249.length:Int)))>>=fun _=>some ((x2249.drop (Int.toNat ((1:Int)))).take ((Int.toNat ((x2249.length:Int)))-(Int.toNat ((1:Int)))),x2250,x2251++[(⟨b2275,0⟩:Z9)])) else(((if((x2249.length:Int)==(0:Int))=true then(some true) else((at? x2250 0)>>=fun b2289=>(at? x2249 0)>>=fun b2292=>some (decide (b2289<b2292)))):Option (Bool))>>=fun x2295=>((if x2295=true then((at? x2250 0)>>=fun b2301=>(chk ((x2251.length+[(⟨b2301,0⟩:Z9)].length)*16≤140737488355328))>>=fun _=>(chk (0≤(1:Int)∧(1:Int)≤(x2250.length:Int)∧(x2250.length:Int)≤(x2250.length:Int)))>>=fun _=>some (x2249,x2251++[(⟨b2301,0⟩:Z9)])) else((at? x2249 0)>>=fun b2311=>(chk ((x2251.length+[(⟨b2311,0⟩:Z9)].length)*16≤140737488355328))>>=fun _=>(chk (0≤(1:Int)∧(1:Int)≤(x2249.length:Int)∧(x2249.length:Int)≤(x2249.length:Int)))>>=fun _=>(chk (0≤(1:Int)∧(1:Int)≤(x2250.length:Int)∧(x2250.length:Int)≤(x2250.length:Int)))>>=fun _=>some ((x2249.drop (Int.toNat ((1:Int)))).take ((Int.toNat ((x2249.length:Int)))-(Int.toNat ((1:Int)))),x2251++[(⟨b2311,0⟩:Z9)]))):Option ((List Int)×(List Z9)))>>=fun oo=>match oo with | (x2319,x2320)=>(some (x2319,(x2250.drop (Int.toNat ((1:Int)))).take ((Int.toNat ((x2250.length:Int)))-(Int.toNat ((1:Int)))),x2320)))):Option ((List Int)×(List Int)×(List Z9)))>>=fun oo=>match oo with | (x2321,x2322,x2323)=>(Z2z.l0  x2321 x2322 x2323)) else(some x2251)
partial_fixpoint
def Z2z.f (a0:Zm) (a1:Zm):Option (Zm):=(Z0a.f a0)>>=fun t2168=>(Z0a.f a1)>>=fun t2170=>(Z2z.l0  t2168 t2170 [])>>=fun x2324=>(Z3l.f x2324)>>=fun t2327=>some (t2327)
theorem Z2z.ok (a0:Zm) (a1:Zm) (r:Zm) (H:Z2z.f a0 a1=some r):Pv.Fn Tryz.prog 134 [.agg (Zj a0),.agg (Zj a1)] [] 0 (fun x o=>x = .agg [iV .i64 ((r).f0),.own 0]∧o=[(0,some (.row 2 210 (((r).f1).map Z0q)))]):=by
 unfold Z2z.f at H
 refine Fn.bodyK [0] Tryz.func134 rfl rfl (fun Γ hP hn => ?_)
 have hm:Tryz.prog.follows .mixedOrders=true:=by kernel_rfl
 replace hn:Γ.n=80:=hn
 refine sO hP hn hm [(0,.k 0),(1,.k 1),(2,.k 2)] [(2,.ptr 0 0 0),(3,.ptr 1 0 0),(4,.ptr 2 0 0)] [2,3,4] [(0,some (.box 179 (Zj a0))),(1,some (.box 179 (Zj a1))),(2,some (.box 179 [iV .i64 0,.none0]))] [0,1,2] ?_
 obtain⟨t2168,e2169,H⟩:=Z4 H
 obtain⟨t2170,e2171,H⟩:=Z4 H
 refine sR hP hn hm [(1,.call [] [(0,3)] [] [3] 0 (.own 0) [(0,some (.row 1 3 (t2168.map (Z2 .i64))))]),(3,.call [] [(0,4)] [] [4] 0 (.own 0) [(0,some (.row 1 3 (t2170.map (Z2 .i64))))])] [(5,.own 3),(6,.own 4)] [4,5,6] [(3,some (.row 1 3 (t2168.map (Z2 .i64)))),(4,some (.row 1 3 (t2170.map (Z2 .i64))))] [2,3,4] [_,_,_,_] ⟨Tryz.call133,Z0a.ok a0 t2168 e2169,Tryz.call133,Z0a.ok a1 t2170 e2171,trivial⟩ ?_
 refine sO hP hn hm [] [(7,.none0)] [4,5,6,7] [] [2,3,4] ?_
 refine AWp.seq ?_
 refine AWp.block ?_
 obtain⟨o2329,e2330,H⟩:=Z4 H
 refine AWp.loop (LWp.conv (inv:=[(2,21)]) (vk:=[3,4]) (e0:=[22]) (t:=⟨[(4,.ptr 21 0 0),(5,.im (.row (t2168.map (Z2 .i64)))),(6,.im (.row (t2170.map (Z2 .i64)))),(7,.own 22)],[(21,some (.box 179 [iV .i64 0,.none0])),(22,some (.row 2 136 ([].map Z1)))],0⟩) (by kernel_rfl) ?_)
 refine LWp.mono (Q:=fun e s=>(match (generalizing:=false) o2329 with | x2324=>e = .exit 0∧s=⟨[(4,.ptr 37 0 0),(7,.own 38)],[(37,some (.box 179 [iV .i64 0,.none0])),(38,some (.row 2 136 (x2324.map Z1)))],0⟩)) (LWp.cv (Zs (fun body hbody => ?_))) ?_
 ·refine         Z2z.l0.partial_correctness  (motive:=fun x2249 x2250 x2251 o2329=>LWp Γ body (fun e s=>∃ t,Cv Γ s t∧(match (generalizing:=false) o2329 with | x2324=>e = .exit 0∧t=⟨[(4,.ptr 37 0 0),(7,.own 38)],[(37,some (.box 179 [iV .i64 0,.none0])),(38,some (.row 2 136 (x2324.map Z1     )))],0⟩)) ⟨[(4,.ptr 21 0 0),(5,.im (.row (x2249.map (Z2     .i64)))),(6,.im (.row (x2250.map (Z2     .i64)))),(7,.own 22)],[(21,some (.box 179 [iV .i64 0,.none0])),(22,some (.row 2 136 (x2251.map Z1     )))],0⟩) ?_ _ _ _ _ e2330
  clear H e2330 o2329;intro self ih x2249 x2250 x2251 o2329 H
  subst hbody
  refine LWp.round ?_
  refine AWp.seq ?_
  refine sR hP hn hm [(1,.any (iV .i64 (x2249.length:Int))),(3,.any (iV .i64 (x2250.length:Int)))] [(17,bV (decide ((i64.wrap ((x2249.length:Int)+(x2250.length:Int)))>(0:Int))))] [4,5,6,7,17] [] [21,22] [((x2249.map (Z2 .i64)).length:Int)=(x2249.length:Int),((x2250.map (Z2 .i64)).length:Int)=(x2250.length:Int)] ⟨by rw[Zr],by rw[Zr],trivial⟩ ?_
  refine AWp.cond (decide ((i64.wrap ((x2249.length:Int)+(x2250.length:Int)))>(0:Int))) (by kernel_rfl) (fun c2252 => ?_) (fun c2252 => ?_)
  ·replace H:=iT c2252 H
   refine AWp.skip ?_
   refine AWp.block ?_
   refine AWp.block ?_
   refine AWp.seq ?_
   obtain⟨o2331,e2332,H⟩:=Z4 H
   refine AWp.mono (Q:=fun e s=>(match (generalizing:=false) o2331 with | x2269=>e = .normal∧s=⟨[(4,.ptr 23 0 0),(5,.im (.row (x2249.map (Z2 .i64)))),(6,.im (.row (x2250.map (Z2 .i64)))),(7,.own 24),(29,bV x2269)],[(23,some (.box 179 [iV .i64 0,.none0])),(24,some (.row 2 136 (x2251.map Z1)))],0⟩)) (AWp.cv ?_) ?_
   ·replace H:=e2332;clear e2332
    rcases Bool.eq_false_or_eq_true ((x2250.length:Int)==(0:Int)) with c2261 | c2261
    ·replace H:=iT c2261 H
     refine rG hP hn hm [(1,.any (iV .i64 (x2250.length:Int))),(3,.b true)] [(29,bV true)] [4,5,6,7,29] [] [21,22] [((x2250.map (Z2 .i64)).length:Int)=(x2250.length:Int),_] ⟨by rw[Zr],c2261,trivial⟩ ?_
     obtain rfl:=sj H
     exact lf [(21,23),(22,24)] [] [] (by kernel_rfl) ⟨rfl,rfl⟩
    ·replace H:=iF c2261 H
     rcases Bool.eq_false_or_eq_true (decide ((x2249.length:Int)>(0:Int))) with c2262 | c2262
     ·replace H:=iT c2262 H
      obtain⟨b2263,p2264,q2265,H⟩:=Z02 H
      obtain⟨b2266,p2267,q2268,H⟩:=Z02 H
      refine rG hP hn hm [(1,.any (iV .i64 (x2250.length:Int))),(3,.b false),(5,.any (iV .i64 (x2249.length:Int))),(7,.b true),(9,.c ((Z2 .i64) b2263)),(12,.c ((Z2 .i64) b2266))] [(29,bV (decide (b2263<b2266))),(34,.im (.row (x2249.map (Z2 .i64)))),(35,iV .i64 (x2249.length:Int)),(36,bV (decide ((x2249.length:Int)>(0:Int)))),(37,bV true),(38,.im (.row (x2249.map (Z2 .i64)))),(39,.ip [iI .i64 b2263]),(40,iV .i64 b2263),(41,.im (.row (x2250.map (Z2 .i64)))),(42,.ip [iI .i64 b2266]),(43,iV .i64 b2266),(44,bV (decide (b2263<b2266))),(45,bV (decide (b2263<b2266)))] [4,5,6,7,29,34,35,36,37,38,39,40,41,42,43,44,45] [] [21,22] [((x2250.map (Z2 .i64)).length:Int)=(x2250.length:Int),_,((x2249.map (Z2 .i64)).length:Int)=(x2249.length:Int),_,_,_,_,_] ⟨by rw[Zr],c2261,by rw[Zr],c2262,p2264,Zi (Z2 .i64) q2265,p2267,Zi (Z2 .i64) q2268,trivial⟩ ?_
      obtain rfl:=sj H
      exact lf [(21,23),(22,24)] [] [] (by kernel_rfl) ⟨rfl,rfl⟩
     ·replace H:=iF c2262 H
      refine rG hP hn hm [(1,.any (iV .i64 (x2250.length:Int))),(3,.b false),(5,.any (iV .i64 (x2249.length:Int))),(7,.b false)] [(29,bV false),(34,.im (.row (x2249.map (Z2 .i64)))),(35,iV .i64 (x2249.length:Int)),(36,bV (decide ((x2249.length:Int)>(0:Int)))),(37,bV false),(45,bV false)] [4,5,6,7,29,34,35,36,37,45] [] [21,22] [((x2250.map (Z2 .i64)).length:Int)=(x2250.length:Int),_,((x2249.map (Z2 .i64)).length:Int)=(x2249.length:Int),_] ⟨by rw[Zr],c2261,by rw[Zr],c2262,trivial⟩ ?_
      obtain rfl:=sj H
      exact lf [(21,23),(22,24)] [] [] (by kernel_rfl) ⟨rfl,rfl⟩
   ·obtain⟨x2269,rfl⟩:∃ z,z=o2331:=⟨_,rfl⟩
    rintro e s ⟨rfl,rfl⟩
    obtain⟨o2333,e2334,H⟩:=Z4 H
    refine AWp.mono (Q:=fun e s=>(match (generalizing:=false) o2333 with | (x2321,x2322,x2323)=>e = .normal∧s=⟨[(4,.ptr 35 0 0),(5,.im (.row (x2321.map (Z2 .i64)))),(6,.im (.row (x2322.map (Z2 .i64)))),(7,.own 36)],[(35,some (.box 179 [iV .i64 0,.none0])),(36,some (.row 2 136 (x2323.map Z1)))],0⟩)) (AWp.cv ?_) ?_
    ·replace H:=e2334;clear e2334
     refine AWp.cond x2269 (by kernel_rfl) (fun c2270 => ?_) (fun c2270 => ?_)
     ·replace H:=iT c2270 H
      obtain⟨b2275,p2276,q2277,H⟩:=Z02 H
      obtain⟨c2278,H⟩:=Z10 H
      refine sR hP hn hm [(2,.c ((Z2 .i64) b2275)),(5,.app 25 ([(⟨b2275,0⟩:Z9)].map Z1)),(6,.app 26 ((x2251++[(⟨b2275,0⟩:Z9)]).map Z1))] [(7,.own 26)] [4,5,6,7] [(26,some (.row 2 136 ((x2251++[(⟨b2275,0⟩:Z9)]).map Z1)))] [23,26] [_,_,[(⟨b2275,0⟩:Z9)].map Z1=[[iI .i64 b2275,iI .u64 0]],(x2251++[(⟨b2275,0⟩:Z9)]).map Z1=(x2251.map Z1)++([(⟨b2275,0⟩:Z9)].map Z1),∀ c∈([(⟨b2275,0⟩:Z9)].map Z1),c.length=2,∀ c∈([(⟨b2275,0⟩:Z9)].map Z1),Z16 (c.map .im)=true,((x2251.map Z1).length+([(⟨b2275,0⟩:Z9)].map Z1).length)*16≤140737488355328] ⟨p2276,Zi (Z2 .i64) q2277,by exact rfl,by simp,by exact Z12 _ _ _ (fun _=>rfl),by exact Z14 _ _ (fun _=>rfl),by simpa using c2278,trivial⟩ ?_
      obtain⟨c2280,H⟩:=Z10 H
      refine rG hP hn hm [(1,.rows (((x2249.drop (Int.toNat ((1:Int)))).take ((Int.toNat ((x2249.length:Int)))-(Int.toNat ((1:Int))))).map (Z2 .i64)))] [(5,.im (.row (((x2249.drop (Int.toNat ((1:Int)))).take ((Int.toNat ((x2249.length:Int)))-(Int.toNat ((1:Int))))).map (Z2 .i64))))] [4,5,6,7] [] [23,26] [0≤(1:Int),(1:Int)≤((x2249.map (Z2 .i64)).length:Int),((x2249.map (Z2 .i64)).length:Int)≤((x2249.map (Z2 .i64)).length:Int),∀ c∈x2249.map (Z2 .i64),c.length=1,((x2249.drop (Int.toNat ((1:Int)))).take ((Int.toNat ((x2249.length:Int)))-(Int.toNat ((1:Int))))).map (Z2 .i64)=((x2249.map (Z2 .i64)).drop (Int.toNat ((1:Int)))).take ((Int.toNat (((x2249.map (Z2 .i64)).length:Int)))-(Int.toNat ((1:Int))))] ⟨by exact c2280.1,by simpa using c2280.2.1,by simpa using c2280.2.2,by exact Z12 _ _ _ (fun _=>rfl),by simp[cut1],trivial⟩ ?_
      obtain rfl:=sj H
      exact lf [(23,35),(26,36)] [] [] (by kernel_rfl) ⟨rfl,rfl⟩
     ·replace H:=iF c2270 H
      refine AWp.seq ?_
      obtain⟨o2335,e2336,H⟩:=Z4 H
      refine AWp.mono (Q:=fun e s=>(match (generalizing:=false) o2335 with | x2295=>e = .normal∧s=⟨[(4,.ptr 27 0 0),(5,.im (.row (x2249.map (Z2 .i64)))),(6,.im (.row (x2250.map (Z2 .i64)))),(7,.own 28),(56,bV x2295)],[(27,some (.box 179 [iV .i64 0,.none0])),(28,some (.row 2 136 (x2251.map Z1)))],0⟩)) (AWp.cv ?_) ?_
      ·replace H:=e2336;clear e2336
       rcases Bool.eq_false_or_eq_true ((x2249.length:Int)==(0:Int)) with c2288 | c2288
       ·replace H:=iT c2288 H
        refine rG hP hn hm [(1,.any (iV .i64 (x2249.length:Int))),(3,.b true)] [(56,bV true)] [4,5,6,7,56] [] [23,24] [((x2249.map (Z2 .i64)).length:Int)=(x2249.length:Int),_] ⟨by rw[Zr],c2288,trivial⟩ ?_
        obtain rfl:=sj H
        exact lf [(23,27),(24,28)] [] [] (by kernel_rfl) ⟨rfl,rfl⟩
       ·replace H:=iF c2288 H
        obtain⟨b2289,p2290,q2291,H⟩:=Z02 H
        obtain⟨b2292,p2293,q2294,H⟩:=Z02 H
        refine rG hP hn hm [(1,.any (iV .i64 (x2249.length:Int))),(3,.b false),(5,.c ((Z2 .i64) b2289)),(8,.c ((Z2 .i64) b2292))] [(56,bV (decide (b2289<b2292))),(61,.im (.row (x2250.map (Z2 .i64)))),(62,.ip [iI .i64 b2289]),(63,iV .i64 b2289),(64,.im (.row (x2249.map (Z2 .i64)))),(65,.ip [iI .i64 b2292]),(66,iV .i64 b2292),(67,bV (decide (b2289<b2292)))] [4,5,6,7,56,61,62,63,64,65,66,67] [] [23,24] [((x2249.map (Z2 .i64)).length:Int)=(x2249.length:Int),_,_,_,_,_] ⟨by rw[Zr],c2288,p2290,Zi (Z2 .i64) q2291,p2293,Zi (Z2 .i64) q2294,trivial⟩ ?_
        obtain rfl:=sj H
        exact lf [(23,27),(24,28)] [] [] (by kernel_rfl) ⟨rfl,rfl⟩
      ·obtain⟨x2295,rfl⟩:∃ z,z=o2335:=⟨_,rfl⟩
       rintro e s ⟨rfl,rfl⟩
       obtain⟨o2337,e2338,H⟩:=Z4 H
       refine AWp.mono (Q:=fun e s=>(match (generalizing:=false) o2337 with | (x2319,x2320)=>e = .normal∧s=⟨[(4,.ptr 33 0 0),(5,.im (.row (x2319.map (Z2 .i64)))),(6,.im (.row (((x2250.drop (Int.toNat ((1:Int)))).take ((Int.toNat ((x2250.length:Int)))-(Int.toNat ((1:Int))))).map (Z2 .i64)))),(7,.own 34)],[(33,some (.box 179 [iV .i64 0,.none0])),(34,some (.row 2 136 (x2320.map Z1)))],0⟩)) (AWp.cv ?_) ?_
       ·replace H:=e2338;clear e2338
        refine AWp.cond x2295 (by kernel_rfl) (fun c2296 => ?_) (fun c2296 => ?_)
        ·replace H:=iT c2296 H
         obtain⟨b2301,p2302,q2303,H⟩:=Z02 H
         obtain⟨c2304,H⟩:=Z10 H
         refine sR hP hn hm [(2,.c ((Z2 .i64) b2301)),(5,.app 29 ([(⟨b2301,0⟩:Z9)].map Z1)),(6,.app 30 ((x2251++[(⟨b2301,0⟩:Z9)]).map Z1))] [(7,.own 30)] [4,5,6,7] [(30,some (.row 2 136 ((x2251++[(⟨b2301,0⟩:Z9)]).map Z1)))] [27,30] [_,_,[(⟨b2301,0⟩:Z9)].map Z1=[[iI .i64 b2301,iI .u64 0]],(x2251++[(⟨b2301,0⟩:Z9)]).map Z1=(x2251.map Z1)++([(⟨b2301,0⟩:Z9)].map Z1),∀ c∈([(⟨b2301,0⟩:Z9)].map Z1),c.length=2,∀ c∈([(⟨b2301,0⟩:Z9)].map Z1),Z16 (c.map .im)=true,((x2251.map Z1).length+([(⟨b2301,0⟩:Z9)].map Z1).length)*16≤140737488355328] ⟨p2302,Zi (Z2 .i64) q2303,by exact rfl,by simp,by exact Z12 _ _ _ (fun _=>rfl),by exact Z14 _ _ (fun _=>rfl),by simpa using c2304,trivial⟩ ?_
         obtain⟨c2306,H⟩:=Z10 H
         refine rG hP hn hm [(1,.rows (((x2250.drop (Int.toNat ((1:Int)))).take ((Int.toNat ((x2250.length:Int)))-(Int.toNat ((1:Int))))).map (Z2 .i64)))] [(6,.im (.row (((x2250.drop (Int.toNat ((1:Int)))).take ((Int.toNat ((x2250.length:Int)))-(Int.toNat ((1:Int))))).map (Z2 .i64))))] [4,5,6,7] [] [27,30] [0≤(1:Int),(1:Int)≤((x2250.map (Z2 .i64)).length:Int),((x2250.map (Z2 .i64)).length:Int)≤((x2250.map (Z2 .i64)).length:Int),∀ c∈x2250.map (Z2 .i64),c.length=1,((x2250.drop (Int.toNat ((1:Int)))).take ((Int.toNat ((x2250.length:Int)))-(Int.toNat ((1:Int))))).map (Z2 .i64)=((x2250.map (Z2 .i64)).drop (Int.toNat ((1:Int)))).take ((Int.toNat (((x2250.map (Z2 .i64)).length:Int)))-(Int.toNat ((1:Int))))] ⟨by exact c2306.1,by simpa using c2306.2.1,by simpa using c2306.2.2,by exact Z12 _ _ _ (fun _=>rfl),by simp[cut1],trivial⟩ ?_
         obtain rfl:=sj H
         exact lf [(27,33),(30,34)] [] [] (by kernel_rfl) ⟨rfl,rfl⟩
        ·replace H:=iF c2296 H
         obtain⟨b2311,p2312,q2313,H⟩:=Z02 H
         obtain⟨c2314,H⟩:=Z10 H
         refine sR hP hn hm [(2,.c ((Z2 .i64) b2311)),(5,.app 31 ([(⟨b2311,0⟩:Z9)].map Z1)),(6,.app 32 ((x2251++[(⟨b2311,0⟩:Z9)]).map Z1))] [(7,.own 32)] [4,5,6,7] [(32,some (.row 2 136 ((x2251++[(⟨b2311,0⟩:Z9)]).map Z1)))] [27,32] [_,_,[(⟨b2311,0⟩:Z9)].map Z1=[[iI .i64 b2311,iI .u64 0]],(x2251++[(⟨b2311,0⟩:Z9)]).map Z1=(x2251.map Z1)++([(⟨b2311,0⟩:Z9)].map Z1),∀ c∈([(⟨b2311,0⟩:Z9)].map Z1),c.length=2,∀ c∈([(⟨b2311,0⟩:Z9)].map Z1),Z16 (c.map .im)=true,((x2251.map Z1).length+([(⟨b2311,0⟩:Z9)].map Z1).length)*16≤140737488355328] ⟨p2312,Zi (Z2 .i64) q2313,by exact rfl,by simp,by exact Z12 _ _ _ (fun _=>rfl),by exact Z14 _ _ (fun _=>rfl),by simpa using c2314,trivial⟩ ?_
         obtain⟨c2317,H⟩:=Z10 H
         obtain⟨c2318,H⟩:=Z10 H
         refine rG hP hn hm [(1,.rows (((x2249.drop (Int.toNat ((1:Int)))).take ((Int.toNat ((x2249.length:Int)))-(Int.toNat ((1:Int))))).map (Z2 .i64))),(3,.rows (((x2250.drop (Int.toNat ((1:Int)))).take ((Int.toNat ((x2250.length:Int)))-(Int.toNat ((1:Int))))).map (Z2 .i64)))] [(5,.im (.row (((x2249.drop (Int.toNat ((1:Int)))).take ((Int.toNat ((x2249.length:Int)))-(Int.toNat ((1:Int))))).map (Z2 .i64)))),(6,.im (.row (((x2250.drop (Int.toNat ((1:Int)))).take ((Int.toNat ((x2250.length:Int)))-(Int.toNat ((1:Int))))).map (Z2 .i64))))] [4,5,6,7] [] [27,32] [0≤(1:Int),(1:Int)≤((x2249.map (Z2 .i64)).length:Int),((x2249.map (Z2 .i64)).length:Int)≤((x2249.map (Z2 .i64)).length:Int),∀ c∈x2249.map (Z2 .i64),c.length=1,((x2249.drop (Int.toNat ((1:Int)))).take ((Int.toNat ((x2249.length:Int)))-(Int.toNat ((1:Int))))).map (Z2 .i64)=((x2249.map (Z2 .i64)).drop (Int.toNat ((1:Int)))).take ((Int.toNat (((x2249.map (Z2 .i64)).length:Int)))-(Int.toNat ((1:Int)))),0≤(1:Int),(1:Int)≤((x2250.map (Z2 .i64)).length:Int),((x2250.map (Z2 .i64)).length:Int)≤((x2250.map (Z2 .i64)).length:Int),∀ c∈x2250.map (Z2 .i64),c.length=1,((x2250.drop (Int.toNat ((1:Int)))).take ((Int.toNat ((x2250.length:Int)))-(Int.toNat ((1:Int))))).map (Z2 .i64)=((x2250.map (Z2 .i64)).drop (Int.toNat ((1:Int)))).take ((Int.toNat (((x2250.map (Z2 .i64)).length:Int)))-(Int.toNat ((1:Int))))] ⟨by exact c2317.1,by simpa using c2317.2.1,by simpa using c2317.2.2,by exact Z12 _ _ _ (fun _=>rfl),by simp[cut1],by exact c2318.1,by simpa using c2318.2.1,by simpa using c2318.2.2,by exact Z12 _ _ _ (fun _=>rfl),by simp[cut1],trivial⟩ ?_
         obtain rfl:=sj H
         exact lf [(27,33),(32,34)] [] [] (by kernel_rfl) ⟨rfl,rfl⟩
       ·obtain⟨x2319,x2320⟩:=o2337
        rintro e s ⟨rfl,rfl⟩
        obtain rfl:=sj H
        exact lf [(33,35),(34,36)] [] [] (by kernel_rfl) ⟨rfl,rfl⟩
    ·obtain⟨x2321,x2322,x2323⟩:=o2333
     rintro e s ⟨rfl,rfl⟩
     exact LWp.conv [(35,21),(36,22)] [] [] (by kernel_rfl) (ih _ _ _ _ H)
  ·replace H:=iF c2252 H
   refine AWp.exit ?_
   obtain rfl:=sj H
   exact lf [(21,37),(22,38)] [] [] (by kernel_rfl) ⟨rfl,rfl⟩
 ·obtain⟨x2324,rfl⟩:∃ z,z=o2329:=⟨_,rfl⟩
  rintro e s ⟨rfl,rfl⟩
  obtain⟨t2327,e2328,H⟩:=Z4 H
  refine sR hP hn hm [(1,.more (Z51 [] [(0,39)] [38] [39] 0 (.agg [iV .i64 ((t2327).f0),.own 0]) [(0,some (.row 2 210 (((t2327).f1).map Z0q)))]))] [] [4] [(37,some (.box 179 [iV .i64 ((t2327).f0),.own 39])),(39,some (.row 2 210 (((t2327).f1).map Z0q)))] [37,39] [_,_,∀ c∈((t2327).f1).map Z0q,∀ x∈c,∃ v,x=Im.sc v] ⟨Tryz.call135,Z3l.ok x2324 t2327 e2328,by exact Z5n _ _ (fun _=>by simp),trivial⟩ ?_
  refine AWp.conv (inv:=[(37,1),(39,0)]) (vk:=[]) (e0:=[]) (t:=⟨[(4,.ptr 1 0 0)],[(0,some (.row 2 210 ((((t2327)).f1).map Z0q))),(1,some (.box 179 [iV .i64 (((t2327)).f0),.own 0]))],0⟩) (by kernel_rfl) ?_
  refine AWp.ret ?_
  obtain rfl:=sj H
  exact rl (.inl rfl) rfl (by kernel_rfl) (by kernel_rfl)
def Z1t.l0 (a0:List Zt) (x2353:Int) (x2354:List Z38) (x2355:Int) (x2356:List Z38) (x2357:Int):Option (Int×(List Z38)×Int×(List Z38)):=if(decide (x2357<(a0.length:Int)))=true then((at? a0 x2357)>>=fun b2362=>(Z3l.f b2362.f1.f6)>>=fun t2369=>(Z2z.f (⟨x2353,x2354⟩:Zm) (t2369))>>=fun t2371=>(Z3l.f b2362.f1.f7)>>=fun t2377=>(Z2z.f (⟨x2355,x2356⟩:Zm) (t2377))>>=fun t2379=>Z1t.l0 a0 ((t2371).f0) ((t2371).f1) ((t2379).f0) ((t2379).f1) (i64.wrap (x2357+(1:Int)))) else(some (x2353,x2354,x2355,x2356))
partial_fixpoint
def Z1t.f (a0:List Zt):Option (Zm×Zm):=(Z1t.l0 a0 0 [] 0 [] 0)>>=fun oo=>match oo with | (x2381,x2382,x2383,x2384)=>(some ((⟨x2381,x2382⟩:Zm),(⟨x2383,x2384⟩:Zm)))
theorem Z1t.ok (a0:List Zt) (r:Zm×Zm) (H:Z1t.f a0=some r):Pv.Fn Tryz.prog 106 [.im (.row (a0.map Z6))] [] 0 (fun x o=>x = .tup [.agg [iV .i64 ((r.1).f0),.own 0],.agg [iV .i64 ((r.2).f0),.own 1]]∧o=[(0,some (.row 2 210 (((r.1).f1).map Z0q))),(1,some (.row 2 210 (((r.2).f1).map Z0q)))]):=by
 unfold Z1t.f at H
 refine Fn.bodyK [0,1] Tryz.func106 rfl rfl (fun Γ hP hn => ?_)
 have hm:Tryz.prog.follows .mixedOrders=true:=by kernel_rfl
 replace hn:Γ.n=27:=hn
 refine sO hP hn hm [(0,.k 0),(1,.k 1)] [(2,.ptr 0 0 0),(3,.ptr 1 0 0)] [0,2,3] [(0,some (.box 179 [iV .i64 0,.none0])),(1,some (.box 179 [iV .i64 0,.none0]))] [0,1] ?_
 refine AWp.seq ?_
 refine sR hP hn hm [(1,.any (iV .i64 (a0.length:Int)))] [(6,.im (.row (a0.map Z6))),(7,iV .i64 (a0.length:Int)),(8,iV .i64 0)] [2,3,6,7,8] [] [0,1] [((a0.map Z6).length:Int)=(a0.length:Int)] ⟨by rw[Zr],trivial⟩ ?_
 refine AWp.block ?_
 obtain⟨o2385,e2386,H⟩:=Z4 H
 refine AWp.loop (LWp.conv (inv:=[(0,7),(1,9)]) (vk:=[]) (e0:=[8,10]) (t:=⟨[(2,.ptr 7 0 0),(3,.ptr 9 0 0),(6,.im (.row (a0.map Z6))),(7,iV .i64 (a0.length:Int)),(8,iV .i64 0)],[(7,some (.box 179 [iV .i64 0,.own 8])),(8,some (.row 2 210 ([].map Z0q))),(9,some (.box 179 [iV .i64 0,.own 10])),(10,some (.row 2 210 ([].map Z0q)))],0⟩) (by kernel_rfl) ?_)
 refine LWp.mono (Q:=fun e s=>(match (generalizing:=false) o2385 with | (x2381,x2382,x2383,x2384)=>e = .exit 0∧s=⟨[(2,.ptr 16 0 0),(3,.ptr 18 0 0)],[(16,some (.box 179 [iV .i64 x2381,.own 17])),(17,some (.row 2 210 (x2382.map Z0q))),(18,some (.box 179 [iV .i64 x2383,.own 19])),(19,some (.row 2 210 (x2384.map Z0q)))],0⟩)) (LWp.cv (Zs (fun body hbody => ?_))) ?_
 ·refine             Z1t.l0.partial_correctness a0 (motive:=fun x2353 x2354 x2355 x2356 x2357 o2385=>LWp Γ body (fun e s=>∃ t,Cv Γ s t∧(match (generalizing:=false) o2385 with | (x2381,x2382,x2383,x2384)=>e = .exit 0∧t=⟨[(2,.ptr 16 0 0),(3,.ptr 18 0 0)],[(16,some (.box 179 [iV .i64 x2381,.own 17])),(17,some (.row 2 210 (x2382.map Z0q  ))),(18,some (.box 179 [iV .i64 x2383,.own 19])),(19,some (.row 2 210 (x2384.map Z0q  )))],0⟩)) ⟨[(2,.ptr 7 0 0),(3,.ptr 9 0 0),(6,.im (.row (a0.map Z6     ))),(7,iV .i64 (a0.length:Int)),(8,iV .i64 x2357)],[(7,some (.box 179 [iV .i64 x2353,.own 8])),(8,some (.row 2 210 (x2354.map Z0q  ))),(9,some (.box 179 [iV .i64 x2355,.own 10])),(10,some (.row 2 210 (x2356.map Z0q  )))],0⟩) ?_ _ _ _ _ _ _ e2386
  clear H e2386 o2385;intro self ih x2353 x2354 x2355 x2356 x2357 o2385 H
  subst hbody
  refine LWp.round ?_
  refine sO hP hn hm [] [(9,bV (decide (x2357<(a0.length:Int))))] [2,3,6,7,8,9] [] [7,8,9,10] ?_
  refine AWp.seq ?_
  refine AWp.cond (decide (x2357<(a0.length:Int))) (by kernel_rfl) (fun c2358 => ?_) (fun c2358 => ?_)
  ·replace H:=iT c2358 H
   refine AWp.skip ?_
   refine AWp.seq ?_
   refine AWp.block ?_
   obtain⟨b2362,p2363,q2364,H⟩:=Z02 H
   refine sR hP hn hm [(0,.c (Z6 b2362)),(2,.k 11)] [(5,.ptr 11 0 0)] [2,3,5,6,7,8] [(11,some (.box 50 [iV .i64 b2362.f0,iV .i64 b2362.f1.f0,iV .i64 b2362.f1.f1,iV .i64 b2362.f1.f2,iV .u64 b2362.f1.f3,iV .u64 b2362.f1.f4,iV .i64 b2362.f1.f5,.im (.row (b2362.f1.f6.map Z1)),.im (.row (b2362.f1.f7.map Z1))]))] [7,8,9,10,11] [_,_] ⟨p2363,Zi Z6 q2364,trivial⟩ ?_
   obtain⟨t2369,e2370,H⟩:=Z4 H
   obtain⟨t2371,e2372,H⟩:=Z4 H
   refine sR hP hn hm [(4,.call [] [(0,12)] [] [12] 0 (.agg [iV .i64 ((t2369).f0),.own 0]) [(0,some (.row 2 210 (((t2369).f1).map Z0q)))]),(5,.more (Z51 [] [(0,13)] [8,12] [13] 0 (.agg [iV .i64 ((t2371).f0),.own 0]) [(0,some (.row 2 210 (((t2371).f1).map Z0q)))]))] [] [2,3,5,6,7,8] [(7,some (.box 179 [iV .i64 ((t2371).f0),.own 13])),(13,some (.row 2 210 (((t2371).f1).map Z0q)))] [7,9,10,11,13] [_,_,_,_,∀ c∈((t2371).f1).map Z0q,∀ x∈c,∃ v,x=Im.sc v] ⟨Tryz.call135,Z3l.ok b2362.f1.f6 t2369 e2370,Tryz.call134,Z2z.ok (⟨x2353,x2354⟩:Zm) (t2369) t2371 e2372,by exact Z5n _ _ (fun _=>by simp),trivial⟩ ?_
   obtain⟨t2377,e2378,H⟩:=Z4 H
   obtain⟨t2379,e2380,H⟩:=Z4 H
   refine rG hP hn hm [(4,.call [] [(0,14)] [] [14] 0 (.agg [iV .i64 ((t2377).f0),.own 0]) [(0,some (.row 2 210 (((t2377).f1).map Z0q)))]),(5,.more (Z51 [] [(0,15)] [10,14] [15] 0 (.agg [iV .i64 ((t2379).f0),.own 0]) [(0,some (.row 2 210 (((t2379).f1).map Z0q)))]))] [] [2,3,6,7,8] [(9,some (.box 179 [iV .i64 ((t2379).f0),.own 15])),(15,some (.row 2 210 (((t2379).f1).map Z0q)))] [7,9,13,15] [_,_,_,_,∀ c∈((t2379).f1).map Z0q,∀ x∈c,∃ v,x=Im.sc v] ⟨Tryz.call135,Z3l.ok b2362.f1.f7 t2377 e2378,Tryz.call134,Z2z.ok (⟨x2355,x2356⟩:Zm) (t2377) t2379 e2380,by exact Z5n _ _ (fun _=>by simp),trivial⟩ ?_
   refine rO hP hn hm [] [(8,iV .i64 (i64.wrap (x2357+(1:Int))))] [2,3,6,7,8] [] [7,9,13,15] ?_
   exact LWp.conv [(7,7),(9,9),(13,8),(15,10)] [] [] (by kernel_rfl) (ih _ _ _ _ _ _ H)
  ·replace H:=iF c2358 H
   refine AWp.exit ?_
   obtain rfl:=sj H
   exact lf [(7,16),(8,17),(9,18),(10,19)] [] [] (by kernel_rfl) ⟨rfl,rfl⟩
 ·obtain⟨x2381,x2382,x2383,x2384⟩:=o2385
  rintro e s ⟨rfl,rfl⟩
  refine sO hP hn hm [] [] [2,3] [] [16,17,18,19] ?_
  refine AWp.conv (inv:=[(16,2),(17,0),(18,3),(19,1)]) (vk:=[]) (e0:=[]) (t:=⟨[(2,.ptr 2 0 0),(3,.ptr 3 0 0)],[(0,some (.row 2 210 ((((⟨x2381,x2382⟩:Zm)).f1).map Z0q))),(1,some (.row 2 210 ((((⟨x2383,x2384⟩:Zm)).f1).map Z0q))),(2,some (.box 179 [iV .i64 (((⟨x2381,x2382⟩:Zm)).f0),.own 0])),(3,some (.box 179 [iV .i64 (((⟨x2383,x2384⟩:Zm)).f0),.own 1]))],0⟩) (by kernel_rfl) ?_
  refine AWp.ret ?_
  obtain rfl:=sj H
  exact rl (.inl rfl) rfl (by kernel_rfl) (by kernel_rfl)
def Z3v.f (a0:List Zt) (a1:Zt):Option (Bool):=if((a0.length:Int)==(0:Int))=true then(some true) else((at? a0 (i64.wrap ((a0.length:Int)-(1:Int))))>>=fun b903=>((if(decide ((a0.length:Int)≥(32:Int)))=true then(some true) else(if(decide (a1.f0≤b903.f0))=true then(some true) else((Z4b.f b903.f1 a1.f1)>>=fun t919=>some (!t919)))):Option (Bool))>>=fun x921=>if x921=true then(some false) else(((if(a1.f1.f0==(0:Int))=true then((Z4m.f b903.f1 a1.f1)>>=fun t2060=>some t2060) else(some false)):Option (Bool))>>=fun x2062=>if x2062=true then(some false) else((Z24.f a0)>>=fun t2389=>(chk ((t2389.length+[a1].length)*104≤140737488355328))>>=fun _=>(Z1t.f (t2389++[a1]))>>=fun t2392=>(((Z0a.f (t2392.1))>>=fun t2399=>if(decide ((t2399.length:Int)≤(512:Int)))=true then((Z0a.f (t2392.2))>>=fun t2402=>some (decide ((t2402.length:Int)≤(512:Int)))) else(some false)):Option (Bool))>>=fun x2404=>some x2404)))
theorem Z3v.ok (a0:List Zt) (a1:Zt) (r:Bool) (H:Z3v.f a0 a1=some r):Pv.Fn Tryz.prog 104 [.im (.row (a0.map Z6)),.agg [iV .i64 a1.f0,iV .i64 a1.f1.f0,iV .i64 a1.f1.f1,iV .i64 a1.f1.f2,iV .u64 a1.f1.f3,iV .u64 a1.f1.f4,iV .i64 a1.f1.f5,.im (.row (a1.f1.f6.map Z1)),.im (.row (a1.f1.f7.map Z1))]] [] 0 (fun x o=>x=bV r∧o=[]):=by
 unfold Z3v.f at H
 refine Fn.bodyK [] Tryz.func104 rfl rfl (fun Γ hP hn => ?_)
 have hm:Tryz.prog.follows .mixedOrders=true:=by kernel_rfl
 replace hn:Γ.n=65:=hn
 refine sO hP hn hm [(0,.k 0)] [(3,.ptr 0 0 0)] [0,3] [(0,some (.box 50 [iV .i64 a1.f0,iV .i64 a1.f1.f0,iV .i64 a1.f1.f1,iV .i64 a1.f1.f2,iV .u64 a1.f1.f3,iV .u64 a1.f1.f4,iV .i64 a1.f1.f5,.im (.row (a1.f1.f6.map Z1)),.im (.row (a1.f1.f7.map Z1))]))] [0] ?_
 refine AWp.seq ?_
 refine sR hP hn hm [(1,.any (iV .i64 (a0.length:Int)))] [(10,bV ((a0.length:Int)==(0:Int)))] [0,3,10] [] [0] [((a0.map Z6).length:Int)=(a0.length:Int)] ⟨by rw[Zr],trivial⟩ ?_
 refine AWp.cond ((a0.length:Int)==(0:Int)) (by kernel_rfl) (fun c899 => ?_) (fun c899 => ?_)
 ·replace H:=iT c899 H
  refine sO hP hn hm [] [(4,bV true)] [4] [] [] ?_
  refine AWp.conv (inv:=[]) (vk:=[]) (e0:=[]) (t:=⟨[(4,bV true)],[],0⟩) (by kernel_rfl) ?_
  refine AWp.ret ?_
  obtain rfl:=sj H
  exact rl (.inl rfl) rfl (by kernel_rfl) (by kernel_rfl)
 ·replace H:=iF c899 H
  refine AWp.skip ?_
  obtain⟨b903,p904,q905,H⟩:=Z02 H
  refine sR hP hn hm [(2,.any (iV .i64 (a0.length:Int))),(4,.c (Z6 b903)),(6,.k 1)] [(5,.ptr 1 0 0)] [0,3,5] [(1,some (.box 50 [iV .i64 b903.f0,iV .i64 b903.f1.f0,iV .i64 b903.f1.f1,iV .i64 b903.f1.f2,iV .u64 b903.f1.f3,iV .u64 b903.f1.f4,iV .i64 b903.f1.f5,.im (.row (b903.f1.f6.map Z1)),.im (.row (b903.f1.f7.map Z1))]))] [0,1] [((a0.map Z6).length:Int)=(a0.length:Int),_,_] ⟨by rw[Zr],p904,Zi Z6 q905,trivial⟩ ?_
  refine AWp.seq ?_
  refine AWp.seq ?_
  obtain⟨o2405,e2406,H⟩:=Z4 H
  refine AWp.mono (Q:=fun e s=>(match (generalizing:=false) o2405 with | x921=>e = .normal∧s=⟨[(0,.im (.row (a0.map Z6))),(3,.ptr 2 0 0),(5,.ptr 3 0 0),(34,bV x921)],[(2,some (.box 50 [iV .i64 a1.f0,iV .i64 a1.f1.f0,iV .i64 a1.f1.f1,iV .i64 a1.f1.f2,iV .u64 a1.f1.f3,iV .u64 a1.f1.f4,iV .i64 a1.f1.f5,.im (.row (a1.f1.f6.map Z1)),.im (.row (a1.f1.f7.map Z1))])),(3,some (.box 50 [iV .i64 b903.f0,iV .i64 b903.f1.f0,iV .i64 b903.f1.f1,iV .i64 b903.f1.f2,iV .u64 b903.f1.f3,iV .u64 b903.f1.f4,iV .i64 b903.f1.f5,.im (.row (b903.f1.f6.map Z1)),.im (.row (b903.f1.f7.map Z1))]))],0⟩)) (AWp.cv ?_) ?_
  ·replace H:=e2406;clear e2406
   rcases Bool.eq_false_or_eq_true (decide ((a0.length:Int)≥(32:Int))) with c917 | c917
   ·replace H:=iT c917 H
    refine rG hP hn hm [(1,.any (iV .i64 (a0.length:Int))),(3,.b true)] [(34,bV true)] [0,3,5,34] [] [0,1] [((a0.map Z6).length:Int)=(a0.length:Int),_] ⟨by rw[Zr],c917,trivial⟩ ?_
    obtain rfl:=sj H
    exact lf [(0,2),(1,3)] [] [] (by kernel_rfl) ⟨rfl,rfl⟩
   ·replace H:=iF c917 H
    rcases Bool.eq_false_or_eq_true (decide (a1.f0≤b903.f0)) with c918 | c918
    ·replace H:=iT c918 H
     refine rG hP hn hm [(1,.any (iV .i64 (a0.length:Int))),(3,.b false),(10,.b true)] [(34,bV true)] [0,3,5,34] [] [0,1] [((a0.map Z6).length:Int)=(a0.length:Int),_,_] ⟨by rw[Zr],c917,c918,trivial⟩ ?_
     obtain rfl:=sj H
     exact lf [(0,2),(1,3)] [] [] (by kernel_rfl) ⟨rfl,rfl⟩
    ·replace H:=iF c918 H
     obtain⟨t919,e920,H⟩:=Z4 H
     refine rG hP hn hm [(1,.any (iV .i64 (a0.length:Int))),(3,.b false),(10,.b false),(15,.call [] [] [] [] 0 (bV t919) [])] [(34,bV (!t919))] [0,3,5,34] [] [0,1] [((a0.map Z6).length:Int)=(a0.length:Int),_,_,_,_] ⟨by rw[Zr],c917,c918,Tryz.call131,Z4b.ok b903.f1 a1.f1 t919 e920,trivial⟩ ?_
     obtain rfl:=sj H
     exact lf [(0,2),(1,3)] [] [] (by kernel_rfl) ⟨rfl,rfl⟩
  ·obtain⟨x921,rfl⟩:∃ z,z=o2405:=⟨_,rfl⟩
   rintro e s ⟨rfl,rfl⟩
   refine AWp.cond x921 (by kernel_rfl) (fun c922 => ?_) (fun c922 => ?_)
   ·replace H:=iT c922 H
    refine sO hP hn hm [] [(4,bV false)] [4] [] [] ?_
    refine AWp.conv (inv:=[]) (vk:=[]) (e0:=[]) (t:=⟨[(4,bV false)],[],0⟩) (by kernel_rfl) ?_
    refine AWp.ret ?_
    obtain rfl:=sj H
    exact rl (.inl rfl) rfl (by kernel_rfl) (by kernel_rfl)
   ·replace H:=iF c922 H
    refine AWp.skip ?_
    refine AWp.seq ?_
    refine AWp.seq ?_
    obtain⟨o2407,e2408,H⟩:=Z4 H
    refine AWp.mono (Q:=fun e s=>(match (generalizing:=false) o2407 with | x2062=>e = .normal∧s=⟨[(0,.im (.row (a0.map Z6))),(3,.ptr 4 0 0),(45,bV x2062)],[(4,some (.box 50 [iV .i64 a1.f0,iV .i64 a1.f1.f0,iV .i64 a1.f1.f1,iV .i64 a1.f1.f2,iV .u64 a1.f1.f3,iV .u64 a1.f1.f4,iV .i64 a1.f1.f5,.im (.row (a1.f1.f6.map Z1)),.im (.row (a1.f1.f7.map Z1))]))],0⟩)) (AWp.cv ?_) ?_
    ·replace H:=e2408;clear e2408
     rcases Bool.eq_false_or_eq_true (a1.f1.f0==(0:Int)) with c2059 | c2059
     ·replace H:=iT c2059 H
      obtain⟨t2060,e2061,H⟩:=Z4 H
      refine rG hP hn hm [(4,.b true),(9,.call [] [] [] [] 0 (bV t2060) [])] [(45,bV t2060)] [0,3,45] [] [2] [_,_,_] ⟨c2059,Tryz.call132,Z4m.ok b903.f1 a1.f1 t2060 e2061,trivial⟩ ?_
      obtain rfl:=sj H
      exact lf [(2,4)] [] [] (by kernel_rfl) ⟨rfl,rfl⟩
     ·replace H:=iF c2059 H
      refine rG hP hn hm [(4,.b false)] [(45,bV false)] [0,3,45] [] [2] [_] ⟨c2059,trivial⟩ ?_
      obtain rfl:=sj H
      exact lf [(2,4)] [] [] (by kernel_rfl) ⟨rfl,rfl⟩
    ·obtain⟨x2062,rfl⟩:∃ z,z=o2407:=⟨_,rfl⟩
     rintro e s ⟨rfl,rfl⟩
     refine AWp.cond x2062 (by kernel_rfl) (fun c2063 => ?_) (fun c2063 => ?_)
     ·replace H:=iT c2063 H
      refine sO hP hn hm [] [(4,bV false)] [4] [] [] ?_
      refine AWp.conv (inv:=[]) (vk:=[]) (e0:=[]) (t:=⟨[(4,bV false)],[],0⟩) (by kernel_rfl) ?_
      refine AWp.ret ?_
      obtain rfl:=sj H
      exact rl (.inl rfl) rfl (by kernel_rfl) (by kernel_rfl)
     ·replace H:=iF c2063 H
      refine AWp.skip ?_
      obtain⟨t2389,e2390,H⟩:=Z4 H
      obtain⟨c2391,H⟩:=Z10 H
      obtain⟨t2392,e2393,H⟩:=Z4 H
      refine sR hP hn hm [(1,.call [] [(0,5)] [] [5] 0 (.own 0) [(0,some (.row 9 50 (t2389.map Z6)))]),(3,.app 6 ([a1].map Z6)),(4,.app 7 ((t2389++[a1]).map Z6)),(5,.call [] [(0,8),(1,9)] [7] [8,9] 0 (.tup [.agg [iV .i64 ((t2392.1).f0),.own 0],.agg [iV .i64 ((t2392.2).f0),.own 1]]) [(0,some (.row 2 210 (((t2392.1).f1).map Z0q))),(1,some (.row 2 210 (((t2392.2).f1).map Z0q)))]),(9,.k 10),(10,.k 11)] [(6,.ptr 10 0 0),(7,.ptr 11 0 0)] [6,7] [(8,some (.row 2 210 (((t2392.1).f1).map Z0q))),(9,some (.row 2 210 (((t2392.2).f1).map Z0q))),(10,some (.box 179 [iV .i64 ((t2392.1).f0),.own 8])),(11,some (.box 179 [iV .i64 ((t2392.2).f0),.own 9]))] [8,9,10,11] [_,_,[a1].map Z6=[[iI .i64 a1.f0,iI .i64 a1.f1.f0,iI .i64 a1.f1.f1,iI .i64 a1.f1.f2,iI .u64 a1.f1.f3,iI .u64 a1.f1.f4,iI .i64 a1.f1.f5,.row (a1.f1.f6.map Z1),.row (a1.f1.f7.map Z1)]],(t2389++[a1]).map Z6=(t2389.map Z6)++([a1].map Z6),∀ c∈([a1].map Z6),c.length=9,∀ c∈([a1].map Z6),Z16 (c.map .im)=true,((t2389.map Z6).length+([a1].map Z6).length)*104≤140737488355328,_,_] ⟨Tryz.call97,Z24.ok a0 t2389 e2390,by exact rfl,by simp,by exact Z12 _ _ _ (fun _=>rfl),by exact Z14 _ _ (fun _=>rfl),by simpa using c2391,Tryz.call106,Z1t.ok (t2389++[a1]) t2392 e2393,trivial⟩ ?_
      refine AWp.seq ?_
      obtain⟨o2409,e2410,H⟩:=Z4 H
      refine AWp.mono (Q:=fun e s=>(match (generalizing:=false) o2409 with | x2404=>e = .normal∧s=⟨[(4,bV x2404)],[],0⟩)) (AWp.cv ?_) ?_
      ·replace H:=e2410;clear e2410
       obtain⟨t2399,e2400,H⟩:=Z4 H
       rcases Bool.eq_false_or_eq_true (decide ((t2399.length:Int)≤(512:Int))) with c2401 | c2401
       ·replace H:=iT c2401 H
        obtain⟨t2402,e2403,H⟩:=Z4 H
        refine rG hP hn hm [(1,.more (Z51 [] [(0,12)] [8] [12] 0 (.own 0) [(0,some (.row 1 3 (t2399.map (Z2 .i64))))])),(2,.any (iV .i64 (t2399.length:Int))),(4,.b true),(6,.more (Z51 [] [(0,13)] [9] [13] 0 (.own 0) [(0,some (.row 1 3 (t2402.map (Z2 .i64))))])),(7,.any (iV .i64 (t2402.length:Int)))] [(4,bV (decide ((t2402.length:Int)≤(512:Int))))] [4] [] [] [_,_,∀ c∈t2399.map (Z2 .i64),∀ x∈c,∃ v,x=Im.sc v,((t2399.map (Z2 .i64)).length:Int)=(t2399.length:Int),_,_,_,∀ c∈t2402.map (Z2 .i64),∀ x∈c,∃ v,x=Im.sc v,((t2402.map (Z2 .i64)).length:Int)=(t2402.length:Int)] ⟨Tryz.call133,Z0a.ok (t2392.1) t2399 e2400,by exact Z5n _ _ (fun _=>by simp),by rw[Zr],c2401,Tryz.call133,Z0a.ok (t2392.2) t2402 e2403,by exact Z5n _ _ (fun _=>by simp),by rw[Zr],trivial⟩ ?_
        obtain rfl:=sj H
        exact lf [] [] [] (by kernel_rfl) ⟨rfl,rfl⟩
       ·replace H:=iF c2401 H
        refine rG hP hn hm [(1,.more (Z51 [] [(0,12)] [8] [12] 0 (.own 0) [(0,some (.row 1 3 (t2399.map (Z2 .i64))))])),(2,.any (iV .i64 (t2399.length:Int))),(4,.b false)] [(4,bV false)] [4] [] [] [_,_,∀ c∈t2399.map (Z2 .i64),∀ x∈c,∃ v,x=Im.sc v,((t2399.map (Z2 .i64)).length:Int)=(t2399.length:Int),_] ⟨Tryz.call133,Z0a.ok (t2392.1) t2399 e2400,by exact Z5n _ _ (fun _=>by simp),by rw[Zr],c2401,trivial⟩ ?_
        obtain rfl:=sj H
        exact lf [] [] [] (by kernel_rfl) ⟨rfl,rfl⟩
      ·obtain⟨x2404,rfl⟩:∃ z,z=o2409:=⟨_,rfl⟩
       rintro e s ⟨rfl,rfl⟩
       refine AWp.conv (inv:=[]) (vk:=[]) (e0:=[]) (t:=⟨[(4,bV x2404)],[],0⟩) (by kernel_rfl) ?_
       refine AWp.ret ?_
       obtain rfl:=sj H
       exact rl (.inl rfl) rfl (by kernel_rfl) (by kernel_rfl)
end Go.Proofs.YtinhldbfifpakaaGreat.PvGL
