import Derived.Test.YtinhldbfifpakaaGreatProg
import Derived.Test.YtinhldbfifpakaaGreatPxEntryRising07
set_option linter.unusedVariables false
set_option linter.unnecessarySimpa false
set_option linter.unusedSimpArgs false
set_option maxRecDepth 10000
namespace Go.Proofs.YtinhldbfifpakaaGreat.PvGL
open Go Go.Pv Go.IntKind
def Z35.l0 (a0:List Zt) (x1:List (List Zt)) (x2:List Zt) (x3:Int):Option (List (List Zt)):=if(decide (x3<(a0.length:Int)))=true then((at? a0 x3)>>=fun b1=>(chk ((x1.length+2)*24≤140737488355328))>>=fun _=>(Z3v.f x2 b1)>>=fun t1=>if(!t1)=true then Z35.l0 a0 (x1++[x2]) [b1] (i64.wrap (x3+(1:Int))) else(chk ((x2.length+1)*104≤140737488355328))>>=fun _=>Z35.l0 a0 x1 (x2++[b1]) (i64.wrap (x3+(1:Int)))) else some (x1++[x2])
partial_fixpoint
def Z35.f (a0:List Zt):Option (List (List Zt)):=if(decide ((0:Int)<(a0.length:Int)))=true then((at? a0 0)>>=fun b1=>Z35.l0 a0 [] [b1] (i64.wrap ((0:Int)+(1:Int)))) else some []
theorem Z35.ok (a0:List Zt) (r:List (List Zt)) (H:Z35.f a0=some r):Pv.Fn Tryz.prog 72 [.im (.row (a0.map Z6))] [] 0 (fun x o=>x = .own 0∧o=[(0,some (.row 1 44 (r.map (Z1e Z6))))]):=by
 unfold Z35.f at H
 refine Fn.bodyK [0] Tryz.func72 rfl rfl (fun Γ hP hn => ?_)
 have hm:Tryz.prog.follows .mixedOrders=true:=by kernel_rfl
 replace hn:Γ.n=46:=hn
 refine sO hP hn hm [] [] [0] [] [] ?_
 refine sO hP hn hm [] [(3,.none0)] [0,3] [] [] ?_
 refine AWp.seq ?_
 refine AWp.seq ?_
 refine rG hP hn hm [(1,.any (iV .i64 (a0.length:Int)))] [(7,.im (.row (a0.map Z6))),(8,iV .i64 (a0.length:Int)),(9,iV .i64 0)] [3,7,8,9] [] [] [((a0.map Z6).length:Int)=(a0.length:Int)] ⟨by rw[Zr],trivial⟩ ?_
 refine AWp.block ?_
 refine AWp.loop (LWp.mono (Q:=fun e s=>e = .exit 0∧s=⟨[(3,.own 0)],[(0,some (.row 1 44 (r.map (Z1e Z6))))],0⟩) (LWp.cv (Zs (fun body hbody => ?_))) ?_)
 ·have main:∀ x1 x2 x3 o,        Z35.l0 a0 x1 x2 x3=some o→LWp Γ body (fun e s=>∃ t,Cv Γ s t∧(e = .exit 0∧t=⟨[(3,.own 0)],[(0,some (.row 1 44 (o.map (Z1e    Z6     ))))],0⟩)) ⟨[(3,.own 20),(7,.im (.row (a0.map Z6     ))),(8,iV .i64 (a0.length:Int)),(9,iV .i64 x3)],[(20,some (.arow 1 44 (x1.map (Z1e    Z6     )) [[.own 21]])),(21,some (.row 9 50 (x2.map Z6     )))],0⟩:=by
   intro x1 x2 x3 o e1
   refine Z35.l0.partial_correctness a0 (motive:=fun x1 x2 x3 o=>LWp Γ body (fun e s=>∃ t,Cv Γ s t∧(e = .exit 0∧t=⟨[(3,.own 0)],[(0,some (.row 1 44 (o.map (Z1e Z6))))],0⟩)) ⟨[(3,.own 20),(7,.im (.row (a0.map Z6))),(8,iV .i64 (a0.length:Int)),(9,iV .i64 x3)],[(20,some (.arow 1 44 (x1.map (Z1e Z6)) [[.own 21]])),(21,some (.row 9 50 (x2.map Z6)))],0⟩) ?_ _ _ _ _ e1
   clear H e1 o x1 x2 x3;intro self ih x1 x2 x3 o H
   subst hbody
   refine LWp.round ?_
   refine sO hP hn hm [] [(10,bV (decide (x3<(a0.length:Int))))] [3,7,8,9,10] [] [20,21] ?_
   refine AWp.seq ?_
   refine AWp.cond (decide (x3<(a0.length:Int))) (by kernel_rfl) (fun c1 => ?_) (fun c1 => ?_)
   ·replace H:=iT c1 H
    refine AWp.skip ?_
    refine AWp.seq ?_
    refine AWp.block ?_
    obtain⟨b1,p1,q1,H⟩:=Z02 H
    obtain⟨d1,H⟩:=Z10 H
    have w0:=cut_w0 d1
    have w1:=cut_w1 d1
    rw[← Zr x1 (Z1e Z6)] at w0 w1
    refine sR hP hn hm [(0,.c (Z6 b1)),(2,.k 23)] [(5,.ptr 23 0 0)] [3,5,7,8,9] [(23,some (.box 50 (aSample b1)))] [20,21,23] [_,_] ⟨p1,Zi Z6 q1,trivial⟩ ?_
    refine sO hP hn hm [(1,.more xLenT)] [(6,iV .i64 (((x1.map (Z1e Z6)).length+1:Nat):Int))] [3,5,6,7,8,9] [] [20,21,23] ?_
    refine AWp.seq ?_
    obtain⟨t1,e2,H⟩:=Z4 H
    refine sR hP hn hm [(1,.b false),(6,.more (xIdxT 0)),(7,.more (xLoadT 0)),(9,.more (Z51 [] [] [21] [] 0 (bV t1) []))] [(26,bV (!t1))] [3,5,6,7,8,9,26] [] [20,21,23] [((((x1.map (Z1e Z6)).length+1:Nat):Int)==(0:Int))=false,_,(x1.map (Z1e Z6)).length+0=(x1.map (Z1e Z6)).length+0,_,_] ⟨by simp;omega,w0,rfl,Tryz.call104,Z3v.ok x2 b1 t1 e2,trivial⟩ ?_
    refine AWp.cond (!t1) (by kernel_rfl) (fun c2 => ?_) (fun c2 => ?_)
    ·replace H:=iT c2 H
     refine sR hP hn hm [(1,.more (xOneT 24)),(2,.more (xAppT 25))] [(3,.own 25)] [3,5,6,7,8,9] [(25,some (.arow 1 44 (x1.map (Z1e Z6)) [[.own 21],[.none0]]))] [21,23,25] [((x1.map (Z1e Z6)).length+1+1)*24≤140737488355328] ⟨by rw[Zr];omega,trivial⟩ ?_
     refine rO hP hn hm [] [(6,iV .i64 (i64.wrap ((((x1.map (Z1e Z6)).length+1:Nat):Int)+1)))] [3,5,6,7,8,9] [] [21,23,25] ?_
     refine rG hP hn hm [(6,.more (xIdxT 1)),(7,.more (xLoadT 1)),(9,.app 26 ([b1].map Z6)),(10,.app 27 ([b1].map Z6)),(11,.more (xIdxT 1)),(12,.more (xStoreT 1))] [] [3,7,8,9] [(25,some (.arow 1 44 (x1.map (Z1e Z6)) [[.own 21],[.own 27]])),(27,some (.row 9 50 ([b1].map Z6)))] [21,25,27] [_,(x1.map (Z1e Z6)).length+1=(x1.map (Z1e Z6)).length+1,[b1].map Z6=[Z6 b1],[b1].map Z6=[]++([b1].map Z6),∀ c∈([b1].map Z6),c.length=9,∀ c∈([b1].map Z6),Z16 (c.map .im)=true,(([]:List (List Im)).length+([b1].map Z6).length)*104≤140737488355328,_,(x1.map (Z1e Z6)).length+1=(x1.map (Z1e Z6)).length+1] ⟨w1,rfl,rfl,rfl,by exact Z12 _ _ _ (fun _=>rfl),by exact Z14 _ _ (fun _=>rfl),by simp,w1,rfl,trivial⟩ ?_
     refine rO hP hn hm [] [(9,iV .i64 (i64.wrap (x3+(1:Int))))] [3,7,8,9] [] [21,25,27] ?_
     have h:=ih _ _ _ _ H
     rw[app1] at h
     exact LWp.conv [(25,20),(27,21)] [21] [] (by kernel_rfl) h
    ·replace H:=iF c2 H
     obtain⟨d2,H⟩:=Z10 H
     refine AWp.skip ?_
     refine rG hP hn hm [(6,.more (xIdxT 0)),(7,.more (xLoadT 0)),(9,.app 26 ([b1].map Z6)),(10,.app 27 ((x2++[b1]).map Z6)),(11,.more (xIdxT 0)),(12,.more (xStoreT 0))] [] [3,7,8,9] [(20,some (.arow 1 44 (x1.map (Z1e Z6)) [[.own 27]])),(27,some (.row 9 50 ((x2++[b1]).map Z6)))] [20,27] [_,(x1.map (Z1e Z6)).length+0=(x1.map (Z1e Z6)).length+0,[b1].map Z6=[Z6 b1],(x2++[b1]).map Z6=(x2.map Z6)++([b1].map Z6),∀ c∈([b1].map Z6),c.length=9,∀ c∈([b1].map Z6),Z16 (c.map .im)=true,((x2.map Z6).length+([b1].map Z6).length)*104≤140737488355328,_,(x1.map (Z1e Z6)).length+0=(x1.map (Z1e Z6)).length+0] ⟨w0,rfl,rfl,by simp,by exact Z12 _ _ _ (fun _=>rfl),by exact Z14 _ _ (fun _=>rfl),by simpa using d2,w0,rfl,trivial⟩ ?_
     refine rO hP hn hm [] [(9,iV .i64 (i64.wrap (x3+(1:Int))))] [3,7,8,9] [] [20,27] ?_
     exact LWp.conv [(20,20),(27,21)] [] [] (by kernel_rfl) (ih _ _ _ _ H)
   ·replace H:=iF c1 H
    refine AWp.exit ?_
    obtain rfl:=sj H
    exact lf (t:=⟨[(3,.own 0)],[(0,some (.row 1 44 (x1.map (Z1e Z6)++[(Z1e Z6) x2])))],0⟩) [(20,0)] [21] [] (by kernel_rfl) ⟨rfl,by rw[app1]⟩
  subst hbody
  refine LWp.round ?_
  refine sO hP hn hm [] [(10,bV (decide ((0:Int)<(a0.length:Int))))] [3,7,8,9,10] [] [] ?_
  refine AWp.seq ?_
  refine AWp.cond (decide ((0:Int)<(a0.length:Int))) (by kernel_rfl) (fun c1 => ?_) (fun c1 => ?_)
  ·replace H:=iT c1 H
   refine AWp.skip ?_
   refine AWp.seq ?_
   refine AWp.block ?_
   obtain⟨b1,p1,q1,H⟩:=Z02 H
   refine sR hP hn hm [(0,.c (Z6 b1)),(2,.k 23)] [(5,.ptr 23 0 0)] [3,5,7,8,9] [(23,some (.box 50 (aSample b1)))] [23] [_,_] ⟨p1,Zi Z6 q1,trivial⟩ ?_
   refine sO hP hn hm [] [(6,iV .i64 0)] [3,5,6,7,8,9] [] [23] ?_
   refine AWp.seq ?_
   refine sR hP hn hm [(1,.b true)] [(26,bV true)] [3,5,6,7,8,9,26] [] [23] [((0:Int)==0)=true] ⟨rfl,trivial⟩ ?_
   refine AWp.cond true (by kernel_rfl) (fun c2 => ?_) (fun c2=>nomatch c2)
   refine sR hP hn hm [(1,.more (xOneT 24)),(2,.more (xAppT 25))] [(3,.own 25)] [3,5,6,7,8,9] [(25,some (.arow 1 44 [] [[.none0]]))] [23,25] [1*24≤140737488355328] ⟨by decide,trivial⟩ ?_
   refine rO hP hn hm [] [(6,iV .i64 1)] [3,5,6,7,8,9] [] [23,25] ?_
   refine rG hP hn hm [(6,.more (xIdxT 0)),(7,.more (xLoadT 0)),(9,.app 26 ([b1].map Z6)),(10,.app 27 ([b1].map Z6)),(11,.more (xIdxT 0)),(12,.more (xStoreT 0))] [] [3,7,8,9] [(25,some (.arow 1 44 [] [[.own 27]])),(27,some (.row 9 50 ([b1].map Z6)))] [25,27] [i64.wrap ((1:Int)-1)=((([]:List (List Im)).length+0:Nat):Int),([]:List (List Im)).length+0=([]:List (List Im)).length+0,[b1].map Z6=[Z6 b1],[b1].map Z6=[]++([b1].map Z6),∀ c∈([b1].map Z6),c.length=9,∀ c∈([b1].map Z6),Z16 (c.map .im)=true,(([]:List (List Im)).length+([b1].map Z6).length)*104≤140737488355328,i64.wrap ((1:Int)-1)=((([]:List (List Im)).length+0:Nat):Int),([]:List (List Im)).length+0=([]:List (List Im)).length+0] ⟨rfl,rfl,rfl,rfl,by exact Z12 _ _ _ (fun _=>rfl),by exact Z14 _ _ (fun _=>rfl),by simp,rfl,rfl,trivial⟩ ?_
   refine rO hP hn hm [] [(9,iV .i64 (i64.wrap ((0:Int)+(1:Int))))] [3,7,8,9] [] [25,27] ?_
   exact LWp.conv [(25,20),(27,21)] [] [] (by kernel_rfl) (main [] [b1] _ _ H)
  ·replace H:=iF c1 H
   refine AWp.exit ?_
   obtain rfl:=sj H
   exact lf [] [] [0] (by kernel_rfl) ⟨rfl,rfl⟩
 ·rintro e s ⟨rfl,rfl⟩
  refine sO hP hn hm [] [(2,.own 0)] [2] [] [0] ?_
  refine AWp.ret ?_
  exact rl (.inl rfl) rfl (by kernel_rfl) (by kernel_rfl)
def Z2u.l0 (a0:List Zt) (x2450:Int):Option (Int ⊕ Unit):=if(decide (x2450<(a0.length:Int)))=true then((at? a0 x2450)>>=fun b2455=>((if(decide (b2455.f0<(0:Int)))=true then(some true) else(some (decide (b2455.f0>(1099511627776:Int))))):Option (Bool))>>=fun x2460=>if x2460=true then(some (.inl 4)) else((Z0j.f b2455.f1)>>=fun t2464=>if(t2464 != (0:Int))=true then(some (.inl t2464)) else((chk (0≤(0:Int)∧(0:Int)≤x2450∧x2450≤(a0.length:Int)))>>=fun _=>(Z3v.f ((a0.drop (Int.toNat ((0:Int)))).take ((Int.toNat (x2450))-(Int.toNat ((0:Int))))) b2455)>>=fun t2471=>if(!t2471)=true then(some (.inl 6)) else(Z2u.l0 a0 (i64.wrap (x2450+(1:Int))))))) else(some (.inr ()))
partial_fixpoint
def Z2u.f (a0:List Zt):Option (Int):=if((a0.length:Int)==(0:Int))=true then(some 30) else((Z2u.l0 a0 0)>>=fun oo=>match oo with | .inl rr=>(some rr) | .inr _=>(some 0))
theorem Z2u.ok (a0:List Zt) (r:Int) (H:Z2u.f a0=some r):Pv.Fn Tryz.prog 105 [.im (.row (a0.map Z6))] [] 0 (fun x o=>x=iV .i64 r∧o=[]):=by
 unfold Z2u.f at H
 refine Fn.bodyK [] Tryz.func105 rfl rfl (fun Γ hP hn => ?_)
 have hm:Tryz.prog.follows .mixedOrders=true:=by kernel_rfl
 replace hn:Γ.n=37:=hn
 refine sO hP hn hm [] [] [0] [] [] ?_
 refine AWp.seq ?_
 refine sR hP hn hm [(1,.any (iV .i64 (a0.length:Int)))] [(8,bV ((a0.length:Int)==(0:Int)))] [0,8] [] [] [((a0.map Z6).length:Int)=(a0.length:Int)] ⟨by rw[Zr],trivial⟩ ?_
 refine AWp.cond ((a0.length:Int)==(0:Int)) (by kernel_rfl) (fun c2426 => ?_) (fun c2426 => ?_)
 ·replace H:=iT c2426 H
  refine sO hP hn hm [] [(2,iV .i64 30)] [2] [] [] ?_
  refine AWp.conv (inv:=[]) (vk:=[]) (e0:=[]) (t:=⟨[(2,iV .i64 30)],[],0⟩) (by kernel_rfl) ?_
  refine AWp.ret ?_
  obtain rfl:=sj H
  exact rl (.inl rfl) rfl (by kernel_rfl) (by kernel_rfl)
 ·replace H:=iF c2426 H
  refine AWp.skip ?_
  refine AWp.seq ?_
  refine sR hP hn hm [(1,.any (iV .i64 (a0.length:Int)))] [(9,.im (.row (a0.map Z6))),(10,iV .i64 (a0.length:Int)),(11,iV .i64 0)] [0,9,10,11] [] [] [((a0.map Z6).length:Int)=(a0.length:Int)] ⟨by rw[Zr],trivial⟩ ?_
  refine AWp.block ?_
  obtain⟨o2474,e2475,H⟩:=Z4 H
  refine AWp.loop (LWp.conv (inv:=[]) (vk:=[]) (e0:=[]) (t:=⟨[(0,.im (.row (a0.map Z6))),(9,.im (.row (a0.map Z6))),(10,iV .i64 (a0.length:Int)),(11,iV .i64 0)],[],0⟩) (by kernel_rfl) ?_)
  refine LWp.mono (Q:=fun e s=>(match (generalizing:=false) o2474 with | .inl rr=>e = .ret∧s.floor=0∧Z1y Tryz.prog Tryz.f105 s=some (iV .i64 rr)∧([]:List (Nat×Option MObj))=[] | .inr _=>e = .exit 0∧s=⟨[],[],0⟩)) (LWp.cv (Zs (fun body hbody => ?_))) ?_
  ·refine           Z2u.l0.partial_correctness a0 (motive:=fun x2450 o2474=>LWp Γ body (fun e s=>∃ t,Cv Γ s t∧(match (generalizing:=false) o2474 with | .inl rr=>e = .ret∧t.floor=0∧Z1y   Tryz.prog Tryz.f105 t=some (iV .i64 rr)∧([]:List (Nat×Option MObj))=[] | .inr _=>e = .exit 0∧t=⟨[],[],0⟩)) ⟨[(0,.im (.row (a0.map Z6     ))),(9,.im (.row (a0.map Z6     ))),(10,iV .i64 (a0.length:Int)),(11,iV .i64 x2450)],[],0⟩) ?_ _ _ e2475
   clear H e2475 o2474;intro self ih x2450 o2474 H
   subst hbody
   refine LWp.round ?_
   refine sO hP hn hm [] [(12,bV (decide (x2450<(a0.length:Int))))] [0,9,10,11,12] [] [] ?_
   refine AWp.seq ?_
   refine AWp.cond (decide (x2450<(a0.length:Int))) (by kernel_rfl) (fun c2451 => ?_) (fun c2451 => ?_)
   ·replace H:=iT c2451 H
    refine AWp.skip ?_
    refine AWp.seq ?_
    refine AWp.block ?_
    obtain⟨b2455,p2456,q2457,H⟩:=Z02 H
    refine sR hP hn hm [(1,.c (Z6 b2455)),(3,.k 2)] [(3,iV .i64 x2450),(4,.ptr 2 0 0)] [0,3,4,9,10,11] [(2,some (.box 50 [iV .i64 b2455.f0,iV .i64 b2455.f1.f0,iV .i64 b2455.f1.f1,iV .i64 b2455.f1.f2,iV .u64 b2455.f1.f3,iV .u64 b2455.f1.f4,iV .i64 b2455.f1.f5,.im (.row (b2455.f1.f6.map Z1)),.im (.row (b2455.f1.f7.map Z1))]))] [2] [_,_] ⟨p2456,Zi Z6 q2457,trivial⟩ ?_
    refine AWp.seq ?_
    refine AWp.seq ?_
    obtain⟨o2476,e2477,H⟩:=Z4 H
    refine AWp.mono (Q:=fun e s=>(match (generalizing:=false) o2476 with | x2460=>e = .normal∧s=⟨[(0,.im (.row (a0.map Z6))),(3,iV .i64 x2450),(4,.ptr 3 0 0),(9,.im (.row (a0.map Z6))),(10,iV .i64 (a0.length:Int)),(11,iV .i64 x2450),(23,bV x2460)],[(3,some (.box 50 [iV .i64 b2455.f0,iV .i64 b2455.f1.f0,iV .i64 b2455.f1.f1,iV .i64 b2455.f1.f2,iV .u64 b2455.f1.f3,iV .u64 b2455.f1.f4,iV .i64 b2455.f1.f5,.im (.row (b2455.f1.f6.map Z1)),.im (.row (b2455.f1.f7.map Z1))]))],0⟩)) (AWp.cv ?_) ?_
    ·replace H:=e2477;clear e2477
     rcases Bool.eq_false_or_eq_true (decide (b2455.f0<(0:Int))) with c2459 | c2459
     ·replace H:=iT c2459 H
      refine rG hP hn hm [(3,.b true)] [(23,bV true)] [0,3,4,9,10,11,23] [] [2] [_] ⟨c2459,trivial⟩ ?_
      obtain rfl:=sj H
      exact lf [(2,3)] [] [] (by kernel_rfl) ⟨rfl,rfl⟩
     ·replace H:=iF c2459 H
      refine rG hP hn hm [(3,.b false)] [(20,.ptr 2 0 0),(21,iV .i64 b2455.f0),(22,bV (decide (b2455.f0>(1099511627776:Int)))),(23,bV (decide (b2455.f0>(1099511627776:Int))))] [0,3,4,9,10,11,20,21,22,23] [] [2] [_] ⟨c2459,trivial⟩ ?_
      obtain rfl:=sj H
      exact lf [(2,3)] [] [] (by kernel_rfl) ⟨rfl,rfl⟩
    ·obtain⟨x2460,rfl⟩:∃ z,z=o2476:=⟨_,rfl⟩
     rintro e s ⟨rfl,rfl⟩
     refine AWp.cond x2460 (by kernel_rfl) (fun c2461 => ?_) (fun c2461 => ?_)
     ·replace H:=iT c2461 H
      refine sO hP hn hm [] [(2,iV .i64 4)] [2] [] [] ?_
      refine AWp.conv (inv:=[]) (vk:=[]) (e0:=[]) (t:=⟨[(2,iV .i64 4)],[],0⟩) (by kernel_rfl) ?_
      refine AWp.ret ?_
      obtain rfl:=sj H
      exact rl rfl rfl (by kernel_rfl) (by kernel_rfl)
     ·replace H:=iF c2461 H
      refine AWp.skip ?_
      refine AWp.seq ?_
      obtain⟨t2464,e2465,H⟩:=Z4 H
      refine sR hP hn hm [(2,.call [] [] [] [] 0 (iV .i64 t2464) [])] [(5,iV .i64 t2464)] [0,3,4,5,9,10,11] [] [3] [_,_] ⟨Tryz.call57,Z0j.ok b2455.f1 t2464 e2465,trivial⟩ ?_
      refine sO hP hn hm [] [(28,bV (t2464 != (0:Int)))] [0,3,4,5,9,10,11,28] [] [3] ?_
      refine AWp.cond (t2464 != (0:Int)) (by kernel_rfl) (fun c2466 => ?_) (fun c2466 => ?_)
      ·replace H:=iT c2466 H
       refine sO hP hn hm [] [(2,iV .i64 t2464)] [2] [] [] ?_
       refine AWp.conv (inv:=[]) (vk:=[]) (e0:=[]) (t:=⟨[(2,iV .i64 t2464)],[],0⟩) (by kernel_rfl) ?_
       refine AWp.ret ?_
       obtain rfl:=sj H
       exact rl rfl rfl (by kernel_rfl) (by kernel_rfl)
      ·replace H:=iF c2466 H
       refine AWp.skip ?_
       obtain⟨c2470,H⟩:=Z10 H
       obtain⟨t2471,e2472,H⟩:=Z4 H
       refine sR hP hn hm [(2,.rows (((a0.drop (Int.toNat ((0:Int)))).take ((Int.toNat (x2450))-(Int.toNat ((0:Int))))).map Z6)),(4,.call [] [] [] [] 0 (bV t2471) [])] [(35,bV (!t2471))] [0,9,10,11,35] [] [] [0≤(0:Int),(0:Int)≤x2450,x2450≤((a0.map Z6).length:Int),∀ c∈a0.map Z6,c.length=9,((a0.drop (Int.toNat ((0:Int)))).take ((Int.toNat (x2450))-(Int.toNat ((0:Int))))).map Z6=((a0.map Z6).drop (Int.toNat ((0:Int)))).take ((Int.toNat (x2450))-(Int.toNat ((0:Int)))),_,_] ⟨by exact c2470.1,by simpa using c2470.2.1,by simpa using c2470.2.2,by exact Z12 _ _ _ (fun _=>rfl),by simp[cut1],Tryz.call104,Z3v.ok ((a0.drop (Int.toNat ((0:Int)))).take ((Int.toNat (x2450))-(Int.toNat ((0:Int))))) b2455 t2471 e2472,trivial⟩ ?_
       refine AWp.cond (!t2471) (by kernel_rfl) (fun c2473 => ?_) (fun c2473 => ?_)
       ·replace H:=iT c2473 H
        refine sO hP hn hm [] [(2,iV .i64 6)] [2] [] [] ?_
        refine AWp.conv (inv:=[]) (vk:=[]) (e0:=[]) (t:=⟨[(2,iV .i64 6)],[],0⟩) (by kernel_rfl) ?_
        refine AWp.ret ?_
        obtain rfl:=sj H
        exact rl rfl rfl (by kernel_rfl) (by kernel_rfl)
       ·replace H:=iF c2473 H
        refine AWp.skip ?_
        refine rO hP hn hm [] [(11,iV .i64 (i64.wrap (x2450+(1:Int))))] [0,9,10,11] [] [] ?_
        exact LWp.conv [] [] [] (by kernel_rfl) (ih _ _ H)
   ·replace H:=iF c2451 H
    refine AWp.exit ?_
    obtain rfl:=sj H
    exact lf [] [] [] (by kernel_rfl) ⟨rfl,rfl⟩
  ·rcases o2474 with rr | _
   ·skip
    rintro e s ⟨rfl,hfl,hres⟩
    obtain rfl:=sj H
    exact Exists.intro _ (And.intro (fun _ _ h=>h) (And.intro (.inl rfl) (And.intro hfl hres)))
   ·skip
    rintro e s ⟨rfl,rfl⟩
    refine sO hP hn hm [] [(2,iV .i64 0)] [2] [] [] ?_
    refine AWp.conv (inv:=[]) (vk:=[]) (e0:=[]) (t:=⟨[(2,iV .i64 0)],[],0⟩) (by kernel_rfl) ?_
    refine AWp.ret ?_
    obtain rfl:=sj H
    exact rl (.inl rfl) rfl (by kernel_rfl) (by kernel_rfl)
def Z5s.f (a0:Int):Option (Unit):=some ()
theorem Z5s.ok (a0:Int) (r:Unit) (H:Z5s.f a0=some r):Pv.Fn Tryz.prog 136 [iV .i64 a0] [] 0 (fun x o=>x=iV .u64 (u64.wrap (((BitVec.toNat (BitVec.ofInt 64 (u64.wrap (i64.wrap (a0*2))) ^^^ BitVec.ofInt 64 (u64.wrap (Int.fdiv a0 9223372036854775808))):Nat):Int)))∧o=[]):=by
 unfold Z5s.f at H
 refine Fn.bodyK [] Tryz.func136 rfl rfl (fun Γ hP hn => ?_)
 have hm:Tryz.prog.follows .mixedOrders=true:=by kernel_rfl
 replace hn:Γ.n=10:=hn
 refine sO hP hn hm [] [] [0] [] [] ?_
 refine sR hP hn hm [] [(2,iV .u64 (u64.wrap (((BitVec.toNat (BitVec.ofInt 64 (u64.wrap (i64.wrap (a0*2))) ^^^ BitVec.ofInt 64 (u64.wrap (Int.fdiv a0 9223372036854775808))):Nat):Int))))] [2] [] [] [(0:Int)≤1,(0:Int)≤63] ⟨by decide,by decide,trivial⟩ ?_
 refine AWp.conv (inv:=[]) (vk:=[]) (e0:=[]) (t:=⟨[(2,iV .u64 (u64.wrap (((BitVec.toNat (BitVec.ofInt 64 (u64.wrap (i64.wrap (a0*2))) ^^^ BitVec.ofInt 64 (u64.wrap (Int.fdiv a0 9223372036854775808))):Nat):Int))))],[],0⟩) (by kernel_rfl) ?_
 refine AWp.ret ?_
 obtain rfl:=sj H
 exact rl (.inl rfl) rfl (by kernel_rfl) (by kernel_rfl)
def Z0o.f (a0_c0:List Int) (a0_c1:Int) (a1:Int):Option ((List Int)×Int):=(Z5s.f a1)>>=fun t2505=>(Zd.f a0_c0 a0_c1 (u64.wrap (((BitVec.toNat (BitVec.ofInt 64 (u64.wrap (i64.wrap (a1*2))) ^^^ BitVec.ofInt 64 (u64.wrap (Int.fdiv a1 9223372036854775808))):Nat):Int))))>>=fun t2507=>some (t2507.1,t2507.2)
theorem Z0o.ok (a0_c0:List Int) (a0_c1:Int) (a1:Int) (r:(List Int)×Int) (H:Z0o.f a0_c0 a0_c1 a1=some r):Pv.Fn Tryz.prog 107 [.ptr 0 0 0,iV .i64 a1] [(0,some (.box 86 [.own 1,iV .u64 a0_c1])),(1,some (.row 1 5 (a0_c0.map (Z2 .u8))))] 2 (fun x o=>x = .tup []∧o=[(0,some (.box 86 [.own 2,iV .u64 r.2])),(1,none),(2,some (.row 1 5 (r.1.map (Z2 .u8))))]):=by
 unfold Z0o.f at H
 refine Fn.bodyK [0,1,2] Tryz.func107 rfl rfl (fun Γ hP hn => ?_)
 have hm:Tryz.prog.follows .mixedOrders=true:=by kernel_rfl
 replace hn:Γ.n=8:=hn
 obtain⟨t2505,e2506,H⟩:=Z4 H
 obtain⟨t2507,e2508,H⟩:=Z4 H
 refine rG hP hn hm [(2,.call [] [] [] [] 0 (iV .u64 (u64.wrap (((BitVec.toNat (BitVec.ofInt 64 (u64.wrap (i64.wrap (a1*2))) ^^^ BitVec.ofInt 64 (u64.wrap (Int.fdiv a1 9223372036854775808))):Nat):Int)))) []),(3,.call [(0,0),(1,1)] [(0,0),(2,2)] [] [2] 2 (.tup []) [(0,some (.box 86 [.own 2,iV .u64 t2507.2])),(1,none),(2,some (.row 1 5 (t2507.1.map (Z2 .u8))))])] [] [] [(0,some (.box 86 [.own 2,iV .u64 t2507.2])),(2,some (.row 1 5 (t2507.1.map (Z2 .u8))))] [0,2] [_,_,_,_] ⟨Tryz.call136,Z5s.ok a1 t2505 e2506,Tryz.call33,Zd.ok a0_c0 a0_c1 (u64.wrap (((BitVec.toNat (BitVec.ofInt 64 (u64.wrap (i64.wrap (a1*2))) ^^^ BitVec.ofInt 64 (u64.wrap (Int.fdiv a1 9223372036854775808))):Nat):Int))) t2507 e2508,trivial⟩ ?_
 obtain rfl:=sj H
 exact Exists.intro ⟨[],[(0,some (.box 86 [.own 2,iV .u64 t2507.2])),(2,some (.row 1 5 (t2507.1.map (Z2 .u8))))],2⟩ (And.intro (fun _ _ h=>h.conv (inv:=[(0,0),(2,2)]) (vk:=[]) (e0:=[]) (t:=⟨[],[(0,some (.box 86 [.own 2,iV .u64 t2507.2])),(2,some (.row 1 5 (t2507.1.map (Z2 .u8))))],2⟩) (by kernel_rfl)) (And.intro (.inr rfl) (And.intro rfl (And.intro (by kernel_rfl) (by kernel_rfl)))))
def Z22.l0 (a1:Zm) (x2533:List Int) (x2534:Int) (x2535:Int):Option ((List Int)×Int):=if(decide (x2535<(a1.f1.length:Int)))=true then((at? a1.f1 x2535)>>=fun b2540=>((if(decide (x2535>(0:Int)))=true then((Zd.f x2533 x2534 (u64.wrap (i64.wrap (b2540.f0-(1:Int)))))>>=fun t2546=>some (t2546.1,t2546.2)) else(some (x2533,x2534))):Option ((List Int)×Int))>>=fun oo=>match oo with | (x2548,x2549)=>((Zd.f x2548 x2549 (u64.wrap (i64.wrap (b2540.f1-(1:Int)))))>>=fun t2552=>Z22.l0 a1 t2552.1 t2552.2 (i64.wrap (x2535+(1:Int))))) else(some (x2533,x2534))
partial_fixpoint
def Z22.f (a0_c0:List Int) (a0_c1:Int) (a1:Zm):Option ((List Int)×Int):=(Zd.f a0_c0 a0_c1 (u64.wrap ((a1.f1.length:Int))))>>=fun t2515=>if((a1.f1.length:Int)==(0:Int))=true then(some (t2515.1,t2515.2)) else((Z0o.f t2515.1 t2515.2 a1.f0)>>=fun t2520=>(Z22.l0 a1 t2520.1 t2520.2 0)>>=fun oo=>match oo with | (x2554,x2555)=>(some (x2554,x2555)))
theorem Z22.ok (a0_c0:List Int) (a0_c1:Int) (a1:Zm) (r:(List Int)×Int) (H:Z22.f a0_c0 a0_c1 a1=some r):Pv.Fn Tryz.prog 108 [.ptr 0 0 0,.agg (Zj a1)] [(0,some (.box 86 [.own 1,iV .u64 a0_c1])),(1,some (.row 1 5 (a0_c0.map (Z2 .u8))))] 2 (fun x o=>x = .tup []∧o=[(0,some (.box 86 [.own 2,iV .u64 r.2])),(1,none),(2,some (.row 1 5 (r.1.map (Z2 .u8))))]):=by
 unfold Z22.f at H
 refine Fn.bodyK [0,1,2] Tryz.func108 rfl rfl (fun Γ hP hn => ?_)
 have hm:Tryz.prog.follows .mixedOrders=true:=by kernel_rfl
 replace hn:Γ.n=43:=hn
 refine sO hP hn hm [(0,.k 2)] [(3,.ptr 2 0 0)] [0,3] [(2,some (.box 179 (Zj a1)))] [0,1,2] ?_
 obtain⟨t2515,e2516,H⟩:=Z4 H
 refine sR hP hn hm [(3,.any (iV .i64 (a1.f1.length:Int))),(5,.call [(0,0),(1,1)] [(0,0),(2,3)] [] [3] 2 (.tup []) [(0,some (.box 86 [.own 2,iV .u64 t2515.2])),(1,none),(2,some (.row 1 5 (t2515.1.map (Z2 .u8))))])] [] [0,3] [(0,some (.box 86 [.own 3,iV .u64 t2515.2])),(3,some (.row 1 5 (t2515.1.map (Z2 .u8))))] [0,2,3] [((a1.f1.map Z0q).length:Int)=(a1.f1.length:Int),_,_] ⟨by rw[Zr],Tryz.call33,Zd.ok a0_c0 a0_c1 (u64.wrap ((a1.f1.length:Int))) t2515 e2516,trivial⟩ ?_
 refine AWp.seq ?_
 refine sR hP hn hm [(2,.any (iV .i64 (a1.f1.length:Int)))] [(15,bV ((a1.f1.length:Int)==(0:Int)))] [0,3,15] [] [0,2,3] [((a1.f1.map Z0q).length:Int)=(a1.f1.length:Int)] ⟨by rw[Zr],trivial⟩ ?_
 refine AWp.cond ((a1.f1.length:Int)==(0:Int)) (by kernel_rfl) (fun c2517 => ?_) (fun c2517 => ?_)
 ·replace H:=iT c2517 H
  refine AWp.conv (inv:=[(0,0),(3,2)]) (vk:=[]) (e0:=[]) (t:=⟨[],[(0,some (.box 86 [.own 2,iV .u64 t2515.2])),(2,some (.row 1 5 (t2515.1.map (Z2 .u8))))],2⟩) (by kernel_rfl) ?_
  refine AWp.ret ?_
  obtain rfl:=sj H
  exact rl (.inl rfl) rfl (by kernel_rfl) (by kernel_rfl)
 ·replace H:=iF c2517 H
  refine AWp.skip ?_
  obtain⟨t2520,e2521,H⟩:=Z4 H
  refine sR hP hn hm [(3,.call [(0,0),(3,1)] [(0,0),(2,4)] [] [4] 2 (.tup []) [(0,some (.box 86 [.own 2,iV .u64 t2520.2])),(1,none),(2,some (.row 1 5 (t2520.1.map (Z2 .u8))))])] [] [0,3] [(0,some (.box 86 [.own 4,iV .u64 t2520.2])),(4,some (.row 1 5 (t2520.1.map (Z2 .u8))))] [0,2,4] [_,_] ⟨Tryz.call107,Z0o.ok t2515.1 t2515.2 a1.f0 t2520 e2521,trivial⟩ ?_
  refine sR hP hn hm [(2,.any (iV .i64 (a1.f1.length:Int)))] [(21,.im (.row (a1.f1.map Z0q))),(22,iV .i64 (a1.f1.length:Int)),(23,iV .i64 0)] [0,21,22,23] [] [0,4] [((a1.f1.map Z0q).length:Int)=(a1.f1.length:Int)] ⟨by rw[Zr],trivial⟩ ?_
  refine AWp.block ?_
  obtain⟨o2556,e2557,H⟩:=Z4 H
  refine AWp.loop (LWp.conv (inv:=[(0,0),(4,7)]) (vk:=[]) (e0:=[]) (t:=⟨[(0,.ptr 0 0 0),(21,.im (.row (a1.f1.map Z0q))),(22,iV .i64 (a1.f1.length:Int)),(23,iV .i64 0)],[(0,some (.box 86 [.own 7,iV .u64 t2520.2])),(7,some (.row 1 5 (t2520.1.map (Z2 .u8))))],2⟩) (by kernel_rfl) ?_)
  refine LWp.mono (Q:=fun e s=>(match (generalizing:=false) o2556 with | (x2554,x2555)=>e = .exit 0∧s=⟨[],[(0,some (.box 86 [.own 13,iV .u64 x2555])),(13,some (.row 1 5 (x2554.map (Z2 .u8))))],2⟩)) (LWp.cv (Zs (fun body hbody => ?_))) ?_
  ·refine            Z22.l0.partial_correctness a1 (motive:=fun x2533 x2534 x2535 o2556=>LWp Γ body (fun e s=>∃ t,Cv Γ s t∧(match (generalizing:=false) o2556 with | (x2554,x2555)=>e = .exit 0∧t=⟨[],[(0,some (.box 86 [.own 13,iV .u64 x2555])),(13,some (.row 1 5 (x2554.map (Z2     .u8))))],2⟩)) ⟨[(0,.ptr 0 0 0),(21,.im (.row (a1.f1.map Z0q  ))),(22,iV .i64 (a1.f1.length:Int)),(23,iV .i64 x2535)],[(0,some (.box 86 [.own 7,iV .u64 x2534])),(7,some (.row 1 5 (x2533.map (Z2     .u8))))],2⟩) ?_ _ _ _ _ e2557
   clear H e2557 o2556;intro self ih x2533 x2534 x2535 o2556 H
   subst hbody
   refine LWp.round ?_
   refine sO hP hn hm [] [(24,bV (decide (x2535<(a1.f1.length:Int))))] [0,21,22,23,24] [] [0,7] ?_
   refine AWp.seq ?_
   refine AWp.cond (decide (x2535<(a1.f1.length:Int))) (by kernel_rfl) (fun c2536 => ?_) (fun c2536 => ?_)
   ·replace H:=iT c2536 H
    refine AWp.skip ?_
    refine AWp.seq ?_
    refine AWp.block ?_
    obtain⟨b2540,p2541,q2542,H⟩:=Z02 H
    refine sR hP hn hm [(1,.c (Z0q b2540)),(3,.k 8)] [(4,iV .i64 x2535),(5,.ptr 8 0 0)] [0,4,5,21,22,23] [(8,some (.box 210 (aSpan b2540)))] [0,7,8] [_,_] ⟨p2541,Zi Z0q q2542,trivial⟩ ?_
    refine AWp.seq ?_
    refine sO hP hn hm [] [(29,bV (decide (x2535>(0:Int))))] [0,5,21,22,23,29] [] [0,7,8] ?_
    obtain⟨o2558,e2559,H⟩:=Z4 H
    refine AWp.mono (Q:=fun e s=>(match (generalizing:=false) o2558 with | (x2548,x2549)=>e = .normal∧s=⟨[(0,.ptr 0 0 0),(5,.ptr 11 0 0),(21,.im (.row (a1.f1.map Z0q))),(22,iV .i64 (a1.f1.length:Int)),(23,iV .i64 x2535)],[(0,some (.box 86 [.own 10,iV .u64 x2549])),(10,some (.row 1 5 (x2548.map (Z2 .u8)))),(11,some (.box 210 (aSpan b2540)))],2⟩)) (AWp.cv ?_) ?_
    ·replace H:=e2559;clear e2559
     refine AWp.cond (decide (x2535>(0:Int))) (by kernel_rfl) (fun c2543 => ?_) (fun c2543 => ?_)
     ·replace H:=iT c2543 H
      obtain⟨t2546,e2547,H⟩:=Z4 H
      refine rG hP hn hm [(5,.call [(0,0),(7,1)] [(0,0),(2,9)] [] [9] 2 (.tup []) [(0,some (.box 86 [.own 2,iV .u64 t2546.2])),(1,none),(2,some (.row 1 5 (t2546.1.map (Z2 .u8))))])] [] [0,5,21,22,23] [(0,some (.box 86 [.own 9,iV .u64 t2546.2])),(9,some (.row 1 5 (t2546.1.map (Z2 .u8))))] [0,8,9] [_,_] ⟨Tryz.call33,Zd.ok x2533 x2534 (u64.wrap (i64.wrap (b2540.f0-(1:Int)))) t2546 e2547,trivial⟩ ?_
      obtain rfl:=sj H
      exact lf [(0,0),(9,10),(8,11)] [] [] (by kernel_rfl) ⟨rfl,rfl⟩
     ·replace H:=iF c2543 H
      refine AWp.skip ?_
      obtain rfl:=sj H
      exact lf [(0,0),(7,10),(8,11)] [] [] (by kernel_rfl) ⟨rfl,rfl⟩
    ·obtain⟨x2548,x2549⟩:=o2558
     rintro e s ⟨rfl,rfl⟩
     obtain⟨t2552,e2553,H⟩:=Z4 H
     refine rG hP hn hm [(5,.call [(0,0),(10,1)] [(0,0),(2,12)] [] [12] 2 (.tup []) [(0,some (.box 86 [.own 2,iV .u64 t2552.2])),(1,none),(2,some (.row 1 5 (t2552.1.map (Z2 .u8))))])] [] [0,21,22,23] [(0,some (.box 86 [.own 12,iV .u64 t2552.2])),(12,some (.row 1 5 (t2552.1.map (Z2 .u8))))] [0,12] [_,_] ⟨Tryz.call33,Zd.ok x2548 x2549 (u64.wrap (i64.wrap (b2540.f1-(1:Int)))) t2552 e2553,trivial⟩ ?_
     refine rO hP hn hm [] [(23,iV .i64 (i64.wrap (x2535+(1:Int))))] [0,21,22,23] [] [0,12] ?_
     exact LWp.conv [(0,0),(12,7)] [] [] (by kernel_rfl) (ih _ _ _ _ H)
   ·replace H:=iF c2536 H
    refine AWp.exit ?_
    obtain rfl:=sj H
    exact lf [(0,0),(7,13)] [] [] (by kernel_rfl) ⟨rfl,rfl⟩
  ·obtain⟨x2554,x2555⟩:=o2556
   rintro e s ⟨rfl,rfl⟩
   obtain rfl:=sj H
   exact Exists.intro ⟨[],[(0,some (.box 86 [.own 2,iV .u64 x2555])),(2,some (.row 1 5 (x2554.map (Z2 .u8))))],2⟩ (And.intro (fun _ _ h=>h.conv (inv:=[(0,0),(13,2)]) (vk:=[]) (e0:=[]) (t:=⟨[],[(0,some (.box 86 [.own 2,iV .u64 x2555])),(2,some (.row 1 5 (x2554.map (Z2 .u8))))],2⟩) (by kernel_rfl)) (And.intro (.inr rfl) (And.intro rfl (And.intro (by kernel_rfl) (by kernel_rfl)))))
def Z1f.l1 (b2648:Int) (t2585:List Int) (x2642:List Int) (x2643:Int) (x2663:List Z9):Option (List Z9):=((if(decide ((x2663.length:Int)>(0:Int)))=true then((at? x2663 0)>>=fun b2669=>some (decide (b2669.f0<b2648))) else(some false)):Option (Bool))>>=fun x2672=>if x2672=true then((chk (0≤(1:Int)∧(1:Int)≤(x2663.length:Int)∧(x2663.length:Int)≤(x2663.length:Int)))>>=fun _=>Z1f.l1 b2648 t2585 x2642 x2643 ((x2663.drop (Int.toNat ((1:Int)))).take ((Int.toNat ((x2663.length:Int)))-(Int.toNat ((1:Int)))))) else(some x2663)
partial_fixpoint
def Z1f.l0 (t2585:List Int) (x2641:List Z9) (x2642:List Int) (x2643:Int):Option (List Int):=if(decide (x2643<(t2585.length:Int)))=true then((at? t2585 x2643)>>=fun b2648=>(Z1f.l1 b2648 t2585 x2642 x2643 x2641)>>=fun x2676=>((if(decide ((x2676.length:Int)>(0:Int)))=true then((at? x2676 0)>>=fun b2682=>some (b2682.f0==b2648)) else(some false)):Option (Bool))>>=fun x2685=>((if x2685=true then((at? x2676 0)>>=fun b2691=>(chk ((x2642.length+[b2691.f1].length)*8≤140737488355328))>>=fun _=>some (x2642++[b2691.f1])) else((chk ((x2642.length+[0].length)*8≤140737488355328))>>=fun _=>some (x2642++[0]))):Option (List Int))>>=fun x2697=>Z1f.l0 t2585 x2676 x2697 (i64.wrap (x2643+(1:Int)))) else(some x2642)
partial_fixpoint
def Z1f.f (a0:Zm) (a1:List Z9):Option (List Int):=(Z0a.f a0)>>=fun t2585=>(Z1f.l0 t2585 a1 [] 0)>>=fun x2698=>some x2698
theorem Z1f.ok (a0:Zm) (a1:List Z9) (r:List Int) (H:Z1f.f a0 a1=some r):Pv.Fn Tryz.prog 137 [.agg (Zj a0),.im (.row (a1.map Z1))] [] 0 (fun x o=>x = .own 0∧o=[(0,some (.row 1 45 (r.map (Z2 .u64))))]):=by
 unfold Z1f.f at H
 refine Fn.bodyK [0] Tryz.func137 rfl rfl (fun Γ hP hn => ?_)
 have hm:Tryz.prog.follows .mixedOrders=true:=by kernel_rfl
 replace hn:Γ.n=51:=hn
 refine sO hP hn hm [(0,.k 0)] [(2,.ptr 0 0 0)] [1,2] [(0,some (.box 179 (Zj a0)))] [0] ?_
 refine sO hP hn hm [] [(5,.none0)] [1,2,5] [] [0] ?_
 refine AWp.seq ?_
 obtain⟨t2585,e2586,H⟩:=Z4 H
 refine sR hP hn hm [(1,.call [] [(0,1)] [] [1] 0 (.own 0) [(0,some (.row 1 3 (t2585.map (Z2 .i64))))]),(2,.any (iV .i64 (t2585.length:Int)))] [(9,.own 1),(10,iV .i64 (t2585.length:Int)),(11,iV .i64 0)] [1,5,9,10,11] [(1,some (.row 1 3 (t2585.map (Z2 .i64))))] [1] [_,_,((t2585.map (Z2 .i64)).length:Int)=(t2585.length:Int)] ⟨Tryz.call133,Z0a.ok a0 t2585 e2586,by rw[Zr],trivial⟩ ?_
 refine AWp.block ?_
 obtain⟨o2699,e2700,H⟩:=Z4 H
 refine AWp.loop (LWp.conv (inv:=[(1,14)]) (vk:=[]) (e0:=[13]) (t:=⟨[(1,.im (.row (a1.map Z1))),(5,.own 13),(9,.own 14),(10,iV .i64 (t2585.length:Int)),(11,iV .i64 0)],[(13,some (.row 1 45 ([].map (Z2 .u64)))),(14,some (.row 1 3 (t2585.map (Z2 .i64))))],0⟩) (by kernel_rfl) ?_)
 refine LWp.mono (Q:=fun e s=>(match (generalizing:=false) o2699 with | x2698=>e = .exit 0∧s=⟨[(5,.own 31)],[(31,some (.row 1 45 (x2698.map (Z2 .u64))))],0⟩)) (LWp.cv (Zs (fun body hbody => ?_))) ?_
 ·refine           Z1f.l0.partial_correctness t2585 (motive:=fun x2641 x2642 x2643 o2699=>LWp Γ body (fun e s=>∃ t,Cv Γ s t∧(match (generalizing:=false) o2699 with | x2698=>e = .exit 0∧t=⟨[(5,.own 31)],[(31,some (.row 1 45 (x2698.map (Z2     .u64))))],0⟩)) ⟨[(1,.im (.row (x2641.map Z1     ))),(5,.own 13),(9,.own 14),(10,iV .i64 (t2585.length:Int)),(11,iV .i64 x2643)],[(13,some (.row 1 45 (x2642.map (Z2     .u64)))),(14,some (.row 1 3 (t2585.map (Z2     .i64))))],0⟩) ?_ _ _ _ _ e2700
  clear H e2700 o2699;intro self ih x2641 x2642 x2643 o2699 H
  subst hbody
  refine LWp.round ?_
  refine sO hP hn hm [] [(12,bV (decide (x2643<(t2585.length:Int))))] [1,5,9,10,11,12] [] [13,14] ?_
  refine AWp.seq ?_
  refine AWp.cond (decide (x2643<(t2585.length:Int))) (by kernel_rfl) (fun c2644 => ?_) (fun c2644 => ?_)
  ·replace H:=iT c2644 H
   refine AWp.skip ?_
   refine AWp.seq ?_
   refine AWp.block ?_
   obtain⟨b2648,p2649,q2650,H⟩:=Z02 H
   refine sR hP hn hm [(1,.c ((Z2 .i64) b2648))] [(7,iV .i64 b2648)] [1,5,7,9,10,11] [] [13,14] [_,_,_] ⟨p2649,Z09 (Z2 .i64) p2649 q2650,Zi (Z2 .i64) q2650,trivial⟩ ?_
   refine AWp.seq ?_
   refine AWp.block ?_
   obtain⟨o2701,e2702,H⟩:=Z4 H
   refine AWp.loop (LWp.conv (inv:=[(13,17),(14,18)]) (vk:=[]) (e0:=[]) (t:=⟨[(1,.im (.row (x2641.map Z1))),(5,.own 17),(7,iV .i64 b2648),(9,.own 18),(10,iV .i64 (t2585.length:Int)),(11,iV .i64 x2643)],[(17,some (.row 1 45 (x2642.map (Z2 .u64)))),(18,some (.row 1 3 (t2585.map (Z2 .i64))))],0⟩) (by kernel_rfl) ?_)
   refine LWp.mono (Q:=fun e s=>(match (generalizing:=false) o2701 with | x2676=>e = .exit 2∧s=⟨[(1,.im (.row (x2676.map Z1))),(5,.own 21),(7,iV .i64 b2648),(9,.own 22),(10,iV .i64 (t2585.length:Int)),(11,iV .i64 x2643)],[(21,some (.row 1 45 (x2642.map (Z2 .u64)))),(22,some (.row 1 3 (t2585.map (Z2 .i64))))],0⟩)) (LWp.cv (Zs (fun body hbody => ?_))) ?_
   ·refine           Z1f.l1.partial_correctness b2648 t2585 x2642 x2643 (motive:=fun x2663 o2701=>LWp Γ body (fun e s=>∃ t,Cv Γ s t∧(match (generalizing:=false) o2701 with | x2676=>e = .exit 2∧t=⟨[(1,.im (.row (x2676.map Z1     ))),(5,.own 21),(7,iV .i64 b2648),(9,.own 22),(10,iV .i64 (t2585.length:Int)),(11,iV .i64 x2643)],[(21,some (.row 1 45 (x2642.map (Z2     .u64)))),(22,some (.row 1 3 (t2585.map (Z2     .i64))))],0⟩)) ⟨[(1,.im (.row (x2663.map Z1     ))),(5,.own 17),(7,iV .i64 b2648),(9,.own 18),(10,iV .i64 (t2585.length:Int)),(11,iV .i64 x2643)],[(17,some (.row 1 45 (x2642.map (Z2     .u64)))),(18,some (.row 1 3 (t2585.map (Z2     .i64))))],0⟩) ?_ _ _ e2702
    clear H e2702 o2701;intro self ih x2663 o2701 H
    subst hbody
    refine LWp.round ?_
    refine AWp.seq ?_
    refine AWp.seq ?_
    obtain⟨o2703,e2704,H⟩:=Z4 H
    refine AWp.mono (Q:=fun e s=>(match (generalizing:=false) o2703 with | x2672=>e = .normal∧s=⟨[(1,.im (.row (x2663.map Z1))),(5,.own 19),(7,iV .i64 b2648),(9,.own 20),(10,iV .i64 (t2585.length:Int)),(11,iV .i64 x2643),(25,bV x2672)],[(19,some (.row 1 45 (x2642.map (Z2 .u64)))),(20,some (.row 1 3 (t2585.map (Z2 .i64))))],0⟩)) (AWp.cv ?_) ?_
    ·replace H:=e2704;clear e2704
     rcases Bool.eq_false_or_eq_true (decide ((x2663.length:Int)>(0:Int))) with c2668 | c2668
     ·replace H:=iT c2668 H
      obtain⟨b2669,p2670,q2671,H⟩:=Z02 H
      refine rG hP hn hm [(1,.any (iV .i64 (x2663.length:Int))),(3,.b true),(5,.c (Z1 b2669))] [(19,.im (.row (x2663.map Z1))),(20,.ip [iI .i64 b2669.f0,iI .u64 b2669.f1]),(21,.ip [iI .i64 b2669.f0,iI .u64 b2669.f1]),(22,iV .i64 b2669.f0),(23,iV .i64 b2648),(24,bV (decide (b2669.f0<b2648))),(25,bV (decide (b2669.f0<b2648)))] [1,5,7,9,10,11,19,20,21,22,23,24,25] [] [17,18] [((x2663.map Z1).length:Int)=(x2663.length:Int),_,_,_] ⟨by rw[Zr],c2668,p2670,Zi Z1 q2671,trivial⟩ ?_
      obtain rfl:=sj H
      exact lf [(17,19),(18,20)] [] [] (by kernel_rfl) ⟨rfl,rfl⟩
     ·replace H:=iF c2668 H
      refine rG hP hn hm [(1,.any (iV .i64 (x2663.length:Int))),(3,.b false)] [(25,bV false)] [1,5,7,9,10,11,25] [] [17,18] [((x2663.map Z1).length:Int)=(x2663.length:Int),_] ⟨by rw[Zr],c2668,trivial⟩ ?_
      obtain rfl:=sj H
      exact lf [(17,19),(18,20)] [] [] (by kernel_rfl) ⟨rfl,rfl⟩
    ·obtain⟨x2672,rfl⟩:∃ z,z=o2703:=⟨_,rfl⟩
     rintro e s ⟨rfl,rfl⟩
     refine AWp.cond x2672 (by kernel_rfl) (fun c2673 => ?_) (fun c2673 => ?_)
     ·replace H:=iT c2673 H
      refine AWp.skip ?_
      refine AWp.block ?_
      obtain⟨c2675,H⟩:=Z10 H
      refine rG hP hn hm [(1,.rows (((x2663.drop (Int.toNat ((1:Int)))).take ((Int.toNat ((x2663.length:Int)))-(Int.toNat ((1:Int))))).map Z1))] [(1,.im (.row (((x2663.drop (Int.toNat ((1:Int)))).take ((Int.toNat ((x2663.length:Int)))-(Int.toNat ((1:Int))))).map Z1)))] [1,5,7,9,10,11] [] [19,20] [0≤(1:Int),(1:Int)≤((x2663.map Z1).length:Int),((x2663.map Z1).length:Int)≤((x2663.map Z1).length:Int),∀ c∈x2663.map Z1,c.length=2,((x2663.drop (Int.toNat ((1:Int)))).take ((Int.toNat ((x2663.length:Int)))-(Int.toNat ((1:Int))))).map Z1=((x2663.map Z1).drop (Int.toNat ((1:Int)))).take ((Int.toNat (((x2663.map Z1).length:Int)))-(Int.toNat ((1:Int))))] ⟨by exact c2675.1,by simpa using c2675.2.1,by simpa using c2675.2.2,by exact Z12 _ _ _ (fun _=>rfl),by simp[cut1],trivial⟩ ?_
      exact LWp.conv [(19,17),(20,18)] [] [] (by kernel_rfl) (ih _ _ H)
     ·replace H:=iF c2673 H
      refine AWp.exit ?_
      obtain rfl:=sj H
      exact lf [(19,21),(20,22)] [] [] (by kernel_rfl) ⟨rfl,rfl⟩
   ·obtain⟨x2676,rfl⟩:∃ z,z=o2701:=⟨_,rfl⟩
    rintro e s ⟨rfl,rfl⟩
    refine AWp.seq ?_
    obtain⟨o2705,e2706,H⟩:=Z4 H
    refine AWp.mono (Q:=fun e s=>(match (generalizing:=false) o2705 with | x2685=>e = .normal∧s=⟨[(1,.im (.row (x2676.map Z1))),(5,.own 23),(9,.own 24),(10,iV .i64 (t2585.length:Int)),(11,iV .i64 x2643),(38,bV x2685)],[(23,some (.row 1 45 (x2642.map (Z2 .u64)))),(24,some (.row 1 3 (t2585.map (Z2 .i64))))],0⟩)) (AWp.cv ?_) ?_
    ·replace H:=e2706;clear e2706
     rcases Bool.eq_false_or_eq_true (decide ((x2676.length:Int)>(0:Int))) with c2681 | c2681
     ·replace H:=iT c2681 H
      obtain⟨b2682,p2683,q2684,H⟩:=Z02 H
      refine rG hP hn hm [(1,.any (iV .i64 (x2676.length:Int))),(3,.b true),(5,.c (Z1 b2682))] [(32,.im (.row (x2676.map Z1))),(33,.ip [iI .i64 b2682.f0,iI .u64 b2682.f1]),(34,.ip [iI .i64 b2682.f0,iI .u64 b2682.f1]),(35,iV .i64 b2682.f0),(36,iV .i64 b2648),(37,bV (b2682.f0==b2648)),(38,bV (b2682.f0==b2648))] [1,5,9,10,11,32,33,34,35,36,37,38] [] [21,22] [((x2676.map Z1).length:Int)=(x2676.length:Int),_,_,_] ⟨by rw[Zr],c2681,p2683,Zi Z1 q2684,trivial⟩ ?_
      obtain rfl:=sj H
      exact lf [(21,23),(22,24)] [] [] (by kernel_rfl) ⟨rfl,rfl⟩
     ·replace H:=iF c2681 H
      refine rG hP hn hm [(1,.any (iV .i64 (x2676.length:Int))),(3,.b false)] [(38,bV false)] [1,5,9,10,11,38] [] [21,22] [((x2676.map Z1).length:Int)=(x2676.length:Int),_] ⟨by rw[Zr],c2681,trivial⟩ ?_
      obtain rfl:=sj H
      exact lf [(21,23),(22,24)] [] [] (by kernel_rfl) ⟨rfl,rfl⟩
    ·obtain⟨x2685,rfl⟩:∃ z,z=o2705:=⟨_,rfl⟩
     rintro e s ⟨rfl,rfl⟩
     obtain⟨o2707,e2708,H⟩:=Z4 H
     refine AWp.mono (Q:=fun e s=>(match (generalizing:=false) o2707 with | x2697=>e = .normal∧s=⟨[(1,.im (.row (x2676.map Z1))),(5,.own 29),(9,.own 30),(10,iV .i64 (t2585.length:Int)),(11,iV .i64 x2643)],[(29,some (.row 1 45 (x2697.map (Z2 .u64)))),(30,some (.row 1 3 (t2585.map (Z2 .i64))))],0⟩)) (AWp.cv ?_) ?_
     ·replace H:=e2708;clear e2708
      refine AWp.cond x2685 (by kernel_rfl) (fun c2686 => ?_) (fun c2686 => ?_)
      ·replace H:=iT c2686 H
       obtain⟨b2691,p2692,q2693,H⟩:=Z02 H
       obtain⟨c2694,H⟩:=Z10 H
       refine rG hP hn hm [(2,.c (Z1 b2691)),(5,.app 25 ([b2691.f1].map (Z2 .u64))),(6,.app 26 ((x2642++[b2691.f1]).map (Z2 .u64)))] [(5,.own 26)] [1,5,9,10,11] [(26,some (.row 1 45 ((x2642++[b2691.f1]).map (Z2 .u64))))] [24,26] [_,_,[b2691.f1].map (Z2 .u64)=[[iI .u64 b2691.f1]],(x2642++[b2691.f1]).map (Z2 .u64)=(x2642.map (Z2 .u64))++([b2691.f1].map (Z2 .u64)),∀ c∈([b2691.f1].map (Z2 .u64)),c.length=1,∀ c∈([b2691.f1].map (Z2 .u64)),Z16 (c.map .im)=true,((x2642.map (Z2 .u64)).length+([b2691.f1].map (Z2 .u64)).length)*8≤140737488355328] ⟨p2692,Zi Z1 q2693,by exact rfl,by simp,by exact Z12 _ _ _ (fun _=>rfl),by exact Z14 _ _ (fun _=>rfl),by simpa using c2694,trivial⟩ ?_
       obtain rfl:=sj H
       exact lf [(26,29),(24,30)] [] [] (by kernel_rfl) ⟨rfl,rfl⟩
      ·replace H:=iF c2686 H
       obtain⟨c2696,H⟩:=Z10 H
       refine rG hP hn hm [(1,.app 27 ([0].map (Z2 .u64))),(2,.app 28 ((x2642++[0]).map (Z2 .u64)))] [(5,.own 28)] [1,5,9,10,11] [(28,some (.row 1 45 ((x2642++[0]).map (Z2 .u64))))] [24,28] [[0].map (Z2 .u64)=[[iI .u64 0]],(x2642++[0]).map (Z2 .u64)=(x2642.map (Z2 .u64))++([0].map (Z2 .u64)),∀ c∈([0].map (Z2 .u64)),c.length=1,∀ c∈([0].map (Z2 .u64)),Z16 (c.map .im)=true,((x2642.map (Z2 .u64)).length+([0].map (Z2 .u64)).length)*8≤140737488355328] ⟨by exact rfl,by simp,by exact Z12 _ _ _ (fun _=>rfl),by exact Z14 _ _ (fun _=>rfl),by simpa using c2696,trivial⟩ ?_
       obtain rfl:=sj H
       exact lf [(28,29),(24,30)] [] [] (by kernel_rfl) ⟨rfl,rfl⟩
     ·obtain⟨x2697,rfl⟩:∃ z,z=o2707:=⟨_,rfl⟩
      rintro e s ⟨rfl,rfl⟩
      refine rO hP hn hm [] [(11,iV .i64 (i64.wrap (x2643+(1:Int))))] [1,5,9,10,11] [] [29,30] ?_
      exact LWp.conv [(29,13),(30,14)] [] [] (by kernel_rfl) (ih _ _ _ _ H)
  ·replace H:=iF c2644 H
   refine AWp.exit ?_
   obtain rfl:=sj H
   exact lf [(13,31)] [] [] (by kernel_rfl) ⟨rfl,rfl⟩
 ·obtain⟨x2698,rfl⟩:∃ z,z=o2699:=⟨_,rfl⟩
  rintro e s ⟨rfl,rfl⟩
  refine sO hP hn hm [] [(4,.own 31)] [4] [] [31] ?_
  refine AWp.conv (inv:=[(31,0)]) (vk:=[]) (e0:=[]) (t:=⟨[(4,.own 0)],[(0,some (.row 1 45 (x2698.map (Z2 .u64))))],0⟩) (by kernel_rfl) ?_
  refine AWp.ret ?_
  obtain rfl:=sj H
  exact rl (.inl rfl) rfl (by kernel_rfl) (by kernel_rfl)
def Z4o.f (a0:Z0f) (a1:Zm) (a2:Zm):Option (List Int):=(Z1f.f a1 a0.f6)>>=fun t2712=>(chk (([a0.f3,u64.wrap (a0.f5)].length+t2712.length)*8≤140737488355328))>>=fun _=>(Z1f.f a2 a0.f7)>>=fun t2718=>(chk ((([a0.f3,u64.wrap (a0.f5)]++t2712).length+t2718.length)*8≤140737488355328))>>=fun _=>some (([a0.f3,u64.wrap (a0.f5)]++t2712)++t2718)
theorem Z4o.ok (a0:Z0f) (a1:Zm) (a2:Zm) (r:List Int) (H:Z4o.f a0 a1 a2=some r):Pv.Fn Tryz.prog 109 [.agg (Z08 a0),.agg (Zj a1),.agg (Zj a2)] [] 0 (fun x o=>x = .own 0∧o=[(0,some (.row 1 45 (r.map (Z2 .u64))))]):=by
 unfold Z4o.f at H
 refine Fn.bodyK [0] Tryz.func109 rfl rfl (fun Γ hP hn => ?_)
 have hm:Tryz.prog.follows .mixedOrders=true:=by kernel_rfl
 replace hn:Γ.n=26:=hn
 refine sO hP hn hm [(0,.k 0),(1,.k 1),(2,.k 2)] [(3,.ptr 0 0 0),(4,.ptr 1 0 0),(5,.ptr 2 0 0)] [3,4,5] [(0,some (.box 48 (Z08 a0))),(1,some (.box 179 (Zj a1))),(2,some (.box 179 (Zj a2)))] [0,1,2] ?_
 refine sR hP hn hm [(5,.app 3 ([a0.f3,u64.wrap (a0.f5)].map (Z2 .u64)))] [(7,.own 3)] [3,4,5,7] [(3,some (.row 1 45 ([a0.f3,u64.wrap (a0.f5)].map (Z2 .u64))))] [0,1,2,3] [[a0.f3,u64.wrap (a0.f5)].map (Z2 .u64)=[[iI .u64 a0.f3],[iI .u64 (u64.wrap (a0.f5))]]] ⟨by exact rfl,trivial⟩ ?_
 obtain⟨t2712,e2713,H⟩:=Z4 H
 obtain⟨c2714,H⟩:=Z10 H
 refine sR hP hn hm [(4,.call [] [(0,4)] [] [4] 0 (.own 0) [(0,some (.row 1 45 (t2712.map (Z2 .u64))))]),(5,.app 5 (([a0.f3,u64.wrap (a0.f5)]++t2712).map (Z2 .u64)))] [(7,.own 5)] [3,5,7] [(5,some (.row 1 45 (([a0.f3,u64.wrap (a0.f5)]++t2712).map (Z2 .u64))))] [0,2,5] [_,_,([a0.f3,u64.wrap (a0.f5)]++t2712).map (Z2 .u64)=([a0.f3,u64.wrap (a0.f5)].map (Z2 .u64))++(t2712.map (Z2 .u64)),∀ c∈(t2712.map (Z2 .u64)),c.length=1,∀ c∈(t2712.map (Z2 .u64)),Z16 (c.map .im)=true,(([a0.f3,u64.wrap (a0.f5)].map (Z2 .u64)).length+(t2712.map (Z2 .u64)).length)*8≤140737488355328] ⟨Tryz.call137,Z1f.ok a1 a0.f6 t2712 e2713,by simp,by exact Z12 _ _ _ (fun _=>rfl),by exact Z14 _ _ (fun _=>rfl),by simpa using c2714,trivial⟩ ?_
 obtain⟨t2718,e2719,H⟩:=Z4 H
 obtain⟨c2720,H⟩:=Z10 H
 refine sR hP hn hm [(4,.call [] [(0,6)] [] [6] 0 (.own 0) [(0,some (.row 1 45 (t2718.map (Z2 .u64))))]),(5,.app 7 ((([a0.f3,u64.wrap (a0.f5)]++t2712)++t2718).map (Z2 .u64)))] [(6,.own 7)] [6] [(7,some (.row 1 45 ((([a0.f3,u64.wrap (a0.f5)]++t2712)++t2718).map (Z2 .u64))))] [7] [_,_,(([a0.f3,u64.wrap (a0.f5)]++t2712)++t2718).map (Z2 .u64)=(([a0.f3,u64.wrap (a0.f5)]++t2712).map (Z2 .u64))++(t2718.map (Z2 .u64)),∀ c∈(t2718.map (Z2 .u64)),c.length=1,∀ c∈(t2718.map (Z2 .u64)),Z16 (c.map .im)=true,((([a0.f3,u64.wrap (a0.f5)]++t2712).map (Z2 .u64)).length+(t2718.map (Z2 .u64)).length)*8≤140737488355328] ⟨Tryz.call137,Z1f.ok a2 a0.f7 t2718 e2719,by simp,by exact Z12 _ _ _ (fun _=>rfl),by exact Z14 _ _ (fun _=>rfl),by simpa using c2720,trivial⟩ ?_
 refine AWp.conv (inv:=[(7,0)]) (vk:=[]) (e0:=[]) (t:=⟨[(6,.own 0)],[(0,some (.row 1 45 ((([a0.f3,u64.wrap (a0.f5)]++t2712)++t2718).map (Z2 .u64))))],0⟩) (by kernel_rfl) ?_
 refine AWp.ret ?_
 obtain rfl:=sj H
 exact rl (.inl rfl) rfl (by kernel_rfl) (by kernel_rfl)
def Z30.f (a0:List Int):Option (List Int):=(chk ((([]:List Int).length+a0.length)*1≤140737488355328))>>=fun _=>some a0
theorem Z30.ok (a0 r:List Int) (H:Z30.f a0=some r):Pv.Fn Tryz.prog 81 [.im (.row (a0.map (Z2 .u8)))] [] 0 (fun x o=>x = .own 0∧o=[(0,some (.row 1 5 (r.map (Z2 .u8))))]):=by
 unfold Z30.f at H
 obtain⟨c1,H⟩:=Z10 H
 obtain rfl:=sj H
 refine Fn.bodyK [0] Tryz.func81 rfl rfl (fun Γ hP hn => ?_)
 have hm:Tryz.prog.follows .mixedOrders=true:=by kernel_rfl
 replace hn:Γ.n=8:=hn
 refine AWp.seq ?_
 refine reg hP hn hm [] [0,2] [] ⟨[(0,.im (.row (a0.map (Z2 .u8)))),(2,.none0)],[],0⟩ [] (by kernel_rfl) trivial ?_
 refine AWp.seq ?_
 cases a0 with
 | nil =>
  refine AWp.nilSplit 0 rfl (fun b m => ?_)
  refine AWp.seq ?_
  cases b with
  | none =>
   refine reg hP hn hm [(1,.more xNil)] [2,4] [] ⟨[(2,.none0),(4,bV true)],[],0⟩ [] (by kernel_rfl) trivial ?_
   refine AWp.cond true rfl (fun _ => ?_) (fun h=>nomatch h)
   refine AWp.seq ?_
   refine reg hP hn hm [] [2] [] ⟨[(2,.none0)],[],0⟩ [] (by kernel_rfl) trivial ?_
   refine AWp.conv (inv:=[]) (vk:=[]) (e0:=[0]) (t:=⟨[(2,.own 0)],[(0,some (.row 1 5 []))],0⟩) (by kernel_rfl) ?_
   refine AWp.ret ?_
   exact Exists.intro _ (And.intro (fun _ _ h=>h) (And.intro (.inl rfl) (And.intro rfl (And.intro (by kernel_rfl) (by kernel_rfl)))))
  | some b =>
   refine reg hP hn hm [(1,.more xNil)] [0,2,4] [] ⟨[(0,.im (.sc (.slice (some b) 0 m))),(2,.none0),(4,bV false)],[],0⟩ [] (by kernel_rfl) trivial ?_
   refine AWp.cond false rfl (fun h=>nomatch h) (fun _ => ?_)
   refine AWp.skip ?_
   refine AWp.unsplit 0 rfl ?_
   refine AWp.seq ?_
   refine reg hP hn hm [(0,.app 0 ([]:List (List Im))),(2,.app 1 (([]:List Int).map (Z2 .u8)))] [2] [1] ⟨[(2,.own 1)],[(1,some (.row 1 5 (([]:List Int).map (Z2 .u8))))],0⟩ [([]:List (List Im))=[],([]:List Int).map (Z2 .u8)=([]:List (List Im))++([]:List Int).map (Z2 .u8),∀ c∈([]:List Int).map (Z2 .u8),c.length=1,∀ c∈([]:List Int).map (Z2 .u8),Z16 (c.map .im)=true,(([]:List (List Im)).length+(([]:List Int).map (Z2 .u8)).length)*1≤140737488355328] (by kernel_rfl) ⟨rfl,by simp,by exact Z12 _ _ _ (fun _=>rfl),by exact Z14 _ _ (fun _=>rfl),by simpa using c1,trivial⟩ ?_
   refine AWp.conv (inv:=[(1,0)]) (vk:=[]) (e0:=[]) (t:=⟨[(2,.own 0)],[(0,some (.row 1 5 (([]:List Int).map (Z2 .u8))))],0⟩) (by kernel_rfl) ?_
   refine AWp.ret ?_
   exact Exists.intro _ (And.intro (fun _ _ h=>h) (And.intro (.inl rfl) (And.intro rfl (And.intro (by kernel_rfl) (by kernel_rfl)))))
 | cons y l =>
  refine AWp.seq ?_
  refine reg hP hn hm [(1,.more xNil)] [0,2,4] [] ⟨[(0,.im (.row ((y::l).map (Z2 .u8)))),(2,.none0),(4,bV false)],[],0⟩ [] (by kernel_rfl) trivial ?_
  refine AWp.cond false rfl (fun h=>nomatch h) (fun _ => ?_)
  refine AWp.skip ?_
  refine AWp.seq ?_
  refine reg hP hn hm [(0,.app 0 ([]:List (List Im))),(2,.app 1 ((y::l).map (Z2 .u8)))] [2] [1] ⟨[(2,.own 1)],[(1,some (.row 1 5 ((y::l).map (Z2 .u8))))],0⟩ [([]:List (List Im))=[],(y::l).map (Z2 .u8)=([]:List (List Im))++(y::l).map (Z2 .u8),∀ c∈(y::l).map (Z2 .u8),c.length=1,∀ c∈(y::l).map (Z2 .u8),Z16 (c.map .im)=true,(([]:List (List Im)).length+((y::l).map (Z2 .u8)).length)*1≤140737488355328] (by kernel_rfl) ⟨rfl,by simp,by exact Z12 _ _ _ (fun _=>rfl),by exact Z14 _ _ (fun _=>rfl),by simpa using c1,trivial⟩ ?_
  refine AWp.conv (inv:=[(1,0)]) (vk:=[]) (e0:=[]) (t:=⟨[(2,.own 0)],[(0,some (.row 1 5 ((y::l).map (Z2 .u8))))],0⟩) (by kernel_rfl) ?_
  refine AWp.ret ?_
  exact Exists.intro _ (And.intro (fun _ _ h=>h) (And.intro (.inl rfl) (And.intro rfl (And.intro (by kernel_rfl) (by kernel_rfl)))))
def Z1k.f (a0_c0:List Int) (a0_c1:Int):Option (List Int):=(Z30.f a0_c0)>>=fun t2945=>some t2945
theorem Z1k.ok (a0_c0:List Int) (a0_c1:Int) (r:List Int) (H:Z1k.f a0_c0 a0_c1=some r):Pv.Fn Tryz.prog 38 [.ptr 0 0 0] [(0,some (.box 86 [.own 1,iV .u64 a0_c1])),(1,some (.row 1 5 (a0_c0.map (Z2 .u8))))] 2 (fun x o=>x = .own 2∧o=[(0,some (.box 86 [.own 1,iV .u64 a0_c1])),(1,some (.row 1 5 (a0_c0.map (Z2 .u8)))),(2,some (.row 1 5 (r.map (Z2 .u8))))]):=by
 unfold Z1k.f at H
 refine Fn.bodyK [0,1,2] Tryz.func38 rfl rfl (fun Γ hP hn => ?_)
 have hm:Tryz.prog.follows .mixedOrders=true:=by kernel_rfl
 replace hn:Γ.n=8:=hn
 refine sO hP hn hm [] [] [0] [] [0,1] ?_
 obtain⟨t2945,e2946,H⟩:=Z4 H
 refine sR hP hn hm [(4,.more (Z51 [] [(0,2)] [1] [2] 0 (.own 0) [(0,some (.row 1 5 (t2945.map (Z2 .u8))))]))] [(2,.own 2)] [2] [(2,some (.row 1 5 (t2945.map (Z2 .u8))))] [0,1,2] [_,_,∀ c∈t2945.map (Z2 .u8),∀ x∈c,∃ v,x=Im.sc v] ⟨Tryz.call81,Z30.ok a0_c0 t2945 e2946,by exact Z5n _ _ (fun _=>by simp),trivial⟩ ?_
 refine AWp.conv (inv:=[(0,0),(1,1),(2,2)]) (vk:=[]) (e0:=[]) (t:=⟨[(2,.own 2)],[(0,some (.box 86 [.own 1,iV .u64 a0_c1])),(1,some (.row 1 5 (a0_c0.map (Z2 .u8)))),(2,some (.row 1 5 (t2945.map (Z2 .u8))))],2⟩) (by kernel_rfl) ?_
 refine AWp.ret ?_
 obtain rfl:=sj H
 exact rl (.inl rfl) rfl (by kernel_rfl) (by kernel_rfl)
def Z1c.l1 (a0:List Zt) (b2769:Zt) (t2491:Zm×Zm) (t2774:List Int) (x2760:List Int) (x2761:List Int) (x2762:Int) (x2764:Int) (x2865:List Int) (x2866:Int) (x2867:List Int) (x2868:Int):Option ((List Int)×Int×(List Int)):=if(decide (x2868<(t2774.length:Int)))=true then((at? t2774 x2868)>>=fun b2873=>((if(x2764==(0:Int))=true then((Zd.f x2865 x2866 b2873)>>=fun t2879=>some (t2879.1,t2879.2,x2867)) else(((if(x2764==(1:Int))=true then((at? x2760 x2868)>>=fun b2888=>(at? x2867 x2868)>>=fun b2891=>(at? (x2867.set (Int.toNat (x2868)) (u64.wrap (b2873-b2888))) x2868)>>=fun b2899=>(Z0o.f x2865 x2866 (i64.wrap (b2899)))>>=fun t2902=>some (t2902.1,t2902.2,x2867.set (Int.toNat (x2868)) (u64.wrap (b2873-b2888)))) else((at? x2760 x2868)>>=fun b2910=>(at? x2867 x2868)>>=fun b2913=>(at? (x2867.set (Int.toNat (x2868)) (u64.wrap (b2873-b2910))) x2868)>>=fun b2924=>(at? x2761 x2868)>>=fun b2927=>(Z0o.f x2865 x2866 (i64.wrap (u64.wrap (b2924-b2927))))>>=fun t2930=>some (t2930.1,t2930.2,x2867.set (Int.toNat (x2868)) (u64.wrap (b2873-b2910))))):Option ((List Int)×Int×(List Int)))>>=fun oo=>match oo with | (x2932,x2933,x2934)=>(some (x2932,x2933,x2934)))):Option ((List Int)×Int×(List Int)))>>=fun oo=>match oo with | (x2935,x2936,x2937)=>(Z1c.l1 a0 b2769 t2491 t2774 x2760 x2761 x2762 x2764 x2935 x2936 x2937 (i64.wrap (x2868+(1:Int))))) else(some (x2865,x2866,x2867))
partial_fixpoint
def Z1c.l0 (a0:List Zt) (t2491:Zm×Zm) (x2758:List Int) (x2759:Int) (x2760:List Int) (x2761:List Int) (x2762:Int) (x2763:Int) (x2764:Int):Option ((List Int)×Int):=if(decide (x2764<(a0.length:Int)))=true then((at? a0 x2764)>>=fun b2769=>(Z4o.f b2769.f1 (t2491.1) (t2491.2))>>=fun t2774=>((if(x2764==(0:Int))=true then((Zd.f x2758 x2759 (u64.wrap (b2769.f0)))>>=fun t2779=>some (t2779.1,t2779.2)) else(((if(x2764==(1:Int))=true then((Zd.f x2758 x2759 (u64.wrap (i64.wrap ((i64.wrap (b2769.f0-x2762))-(1:Int)))))>>=fun t2784=>some (t2784.1,t2784.2)) else((Z0o.f x2758 x2759 (i64.wrap ((i64.wrap (b2769.f0-x2762))-x2763)))>>=fun t2788=>some (t2788.1,t2788.2))):Option ((List Int)×Int))>>=fun oo=>match oo with | (x2790,x2791)=>(some (x2790,x2791)))):Option ((List Int)×Int))>>=fun oo=>match oo with | (x2792,x2793)=>((chk (0≤(t2774.length:Int)∧(t2774.length:Int)≤(t2774.length:Int)∧((8:Nat):Int)*(t2774.length:Int)≤281474976710656∧(t2774.length:Int)≤9223372036854775807))>>=fun _=>(Z1c.l1 a0 b2769 t2491 t2774 x2760 x2761 x2762 x2764 x2792 x2793 (List.replicate (Int.toNat (t2774.length:Int)) (0:Int)) 0)>>=fun oo=>match oo with | (x2938,x2939,x2940)=>(Z1c.l0 a0 t2491 x2938 x2939 t2774 x2940 b2769.f0 (i64.wrap (b2769.f0-x2762)) (i64.wrap (x2764+(1:Int)))))) else(some (x2758,x2759))
partial_fixpoint
def Z1c.f (a0:List Zt):Option ((List Int)×Int):=(Z2u.f a0)>>=fun t2480=>if(t2480 != (0:Int))=true then(some ([],t2480)) else((at? a0 0)>>=fun b2486=>(Z1t.f a0)>>=fun t2491=>(Z2l.f 0 (b2486.f1.f0==(1:Int)))>>=fun t2495=>(Z0n.f t2495.1 t2495.2 (u64.wrap (i64.wrap (b2486.f1.f1-(-4)))) 4)>>=fun t2499=>(Z0o.f t2499.1 t2499.2 b2486.f1.f2)>>=fun t2511=>(Z22.f t2511.1 t2511.2 (t2491.1))>>=fun t2564=>(Z22.f t2564.1 t2564.2 (t2491.2))>>=fun t2570=>(Zd.f t2570.1 t2570.2 (u64.wrap (i64.wrap ((a0.length:Int)-(1:Int)))))>>=fun t2574=>(Z1c.l0 a0 t2491 t2574.1 t2574.2 [] [] 0 0 0)>>=fun oo=>match oo with | (x2941,x2942)=>((Z1k.f x2941 x2942)>>=fun t2949=>some (t2949,0)))
theorem Z1c.ok (a0:List Zt) (r:(List Int)×Int) (H:Z1c.f a0=some r):Pv.Fn Tryz.prog 73 [.im (.row (a0.map Z6))] [] 0 (fun x o=>x = .tup [.own 0,iV .i64 r.2]∧o=[(0,some (.row 1 5 (r.1.map (Z2 .u8))))]):=by
 unfold Z1c.f at H
 refine Fn.bodyK [0] Tryz.func73 rfl rfl (fun Γ hP hn => ?_)
 have hm:Tryz.prog.follows .mixedOrders=true:=by kernel_rfl
 replace hn:Γ.n=167:=hn
 refine sO hP hn hm [] [] [0] [] [] ?_
 refine AWp.seq ?_
 obtain⟨t2480,e2481,H⟩:=Z4 H
 refine sR hP hn hm [(1,.call [] [] [] [] 0 (iV .i64 t2480) [])] [(4,iV .i64 t2480)] [0,4] [] [] [_,_] ⟨Tryz.call105,Z2u.ok a0 t2480 e2481,trivial⟩ ?_
 refine sO hP hn hm [] [(22,bV (t2480 != (0:Int)))] [0,4,22] [] [] ?_
 refine AWp.cond (t2480 != (0:Int)) (by kernel_rfl) (fun c2482 => ?_) (fun c2482 => ?_)
 ·replace H:=iT c2482 H
  refine sO hP hn hm [] [(2,.none0),(3,iV .i64 t2480)] [2,3] [] [] ?_
  refine AWp.conv (inv:=[]) (vk:=[]) (e0:=[0]) (t:=⟨[(2,.own 0),(3,iV .i64 t2480)],[(0,some (.row 1 5 ([].map (Z2 .u8))))],0⟩) (by kernel_rfl) ?_
  refine AWp.ret ?_
  obtain rfl:=sj H
  exact rl (.inl rfl) rfl (by kernel_rfl) (by kernel_rfl)
 ·replace H:=iF c2482 H
  refine AWp.skip ?_
  refine sO hP hn hm [(1,.k 0)] [(5,.ptr 0 0 0)] [0,5] [(0,some (.box 86 [.none0,iV .u64 0]))] [0] ?_
  obtain⟨b2486,p2487,q2488,H⟩:=Z02 H
  refine sR hP hn hm [(1,.c (Z6 b2486)),(4,.k 1)] [(6,.ptr 1 0 0)] [0,5,6] [(1,some (.box 48 (Z08 b2486.f1)))] [0,1] [_,_] ⟨p2487,Zi Z6 q2488,trivial⟩ ?_
  obtain⟨t2491,e2492,H⟩:=Z4 H
  refine sR hP hn hm [(1,.call [] [(0,2),(1,3)] [] [2,3] 0 (.tup [.agg [iV .i64 ((t2491.1).f0),.own 0],.agg [iV .i64 ((t2491.2).f0),.own 1]]) [(0,some (.row 2 210 (((t2491.1).f1).map Z0q))),(1,some (.row 2 210 (((t2491.2).f1).map Z0q)))]),(5,.k 4),(6,.k 5)] [(7,.ptr 4 0 0),(8,.ptr 5 0 0)] [0,5,6,7,8] [(2,some (.row 2 210 (((t2491.1).f1).map Z0q))),(3,some (.row 2 210 (((t2491.2).f1).map Z0q))),(4,some (.box 179 [iV .i64 ((t2491.1).f0),.own 2])),(5,some (.box 179 [iV .i64 ((t2491.2).f0),.own 3]))] [0,1,2,3,4,5] [_,_] ⟨Tryz.call106,Z1t.ok a0 t2491 e2492,trivial⟩ ?_
  obtain⟨t2495,e2496,H⟩:=Z4 H
  refine sR hP hn hm [(4,.call [(0,0)] [(0,0),(1,6)] [] [6] 1 (.tup []) [(0,some (.box 86 [.own 1,iV .u64 t2495.2])),(1,some (.row 1 5 (t2495.1.map (Z2 .u8))))])] [] [0,5,6,7,8] [(0,some (.box 86 [.own 6,iV .u64 t2495.2])),(6,some (.row 1 5 (t2495.1.map (Z2 .u8))))] [0,1,2,3,4,5,6] [_,_] ⟨Tryz.call68,Z2l.ok 0 (b2486.f1.f0==(1:Int)) t2495 e2496,trivial⟩ ?_
  obtain⟨t2499,e2500,H⟩:=Z4 H
  refine sR hP hn hm [(5,.call [(0,0),(6,1)] [(0,0),(2,7)] [] [7] 2 (.tup []) [(0,some (.box 86 [.own 2,iV .u64 t2499.2])),(1,none),(2,some (.row 1 5 (t2499.1.map (Z2 .u8))))])] [] [0,5,6,7,8] [(0,some (.box 86 [.own 7,iV .u64 t2499.2])),(7,some (.row 1 5 (t2499.1.map (Z2 .u8))))] [0,1,2,3,4,5,7] [_,_] ⟨Tryz.call32,Z0n.ok t2495.1 t2495.2 (u64.wrap (i64.wrap (b2486.f1.f1-(-4)))) 4 t2499 e2500,trivial⟩ ?_
  obtain⟨t2511,e2512,H⟩:=Z4 H
  refine sR hP hn hm [(3,.call [(0,0),(7,1)] [(0,0),(2,8)] [] [8] 2 (.tup []) [(0,some (.box 86 [.own 2,iV .u64 t2511.2])),(1,none),(2,some (.row 1 5 (t2511.1.map (Z2 .u8))))])] [] [0,5,7,8] [(0,some (.box 86 [.own 8,iV .u64 t2511.2])),(8,some (.row 1 5 (t2511.1.map (Z2 .u8))))] [0,2,3,4,5,8] [_,_] ⟨Tryz.call107,Z0o.ok t2499.1 t2499.2 b2486.f1.f2 t2511 e2512,trivial⟩ ?_
  refine AWp.seq ?_
  refine AWp.conv (inv:=[(3,3),(4,4),(5,5),(0,0),(8,8)]) (vk:=[2]) (e0:=[]) (t:=⟨[(0,.im (.row (a0.map Z6))),(5,.ptr 0 0 0),(7,.ptr 4 0 0),(8,.ptr 5 0 0)],[(0,some (.box 86 [.own 8,iV .u64 t2511.2])),(3,some (.row 2 210 (((t2491.2).f1).map Z0q))),(4,some (.box 179 (Zj (t2491.1)))),(5,some (.box 179 [iV .i64 ((t2491.2).f0),.own 3])),(8,some (.row 1 5 (t2511.1.map (Z2 .u8))))],0⟩) (by kernel_rfl) ?_
  obtain⟨t2564,e2565,H⟩:=Z4 H
  refine rG hP hn hm [(2,.call [(0,0),(8,1)] [(0,0),(2,9)] [] [9] 2 (.tup []) [(0,some (.box 86 [.own 2,iV .u64 t2564.2])),(1,none),(2,some (.row 1 5 (t2564.1.map (Z2 .u8))))])] [] [0,5,7,8] [(0,some (.box 86 [.own 9,iV .u64 t2564.2])),(9,some (.row 1 5 (t2564.1.map (Z2 .u8))))] [0,3,4,5,9] [_,_] ⟨Tryz.call108,Z22.ok t2511.1 t2511.2 (t2491.1) t2564 e2565,trivial⟩ ?_
  refine AWp.seq ?_
  refine AWp.conv (inv:=[(4,4),(5,5),(0,0),(9,9)]) (vk:=[3]) (e0:=[]) (t:=⟨[(0,.im (.row (a0.map Z6))),(5,.ptr 0 0 0),(7,.ptr 4 0 0),(8,.ptr 5 0 0)],[(0,some (.box 86 [.own 9,iV .u64 t2564.2])),(4,some (.box 179 (Zj (t2491.1)))),(5,some (.box 179 (Zj (t2491.2)))),(9,some (.row 1 5 (t2564.1.map (Z2 .u8))))],0⟩) (by kernel_rfl) ?_
  obtain⟨t2570,e2571,H⟩:=Z4 H
  refine rG hP hn hm [(2,.call [(0,0),(9,1)] [(0,0),(2,10)] [] [10] 2 (.tup []) [(0,some (.box 86 [.own 2,iV .u64 t2570.2])),(1,none),(2,some (.row 1 5 (t2570.1.map (Z2 .u8))))])] [] [0,5,7,8] [(0,some (.box 86 [.own 10,iV .u64 t2570.2])),(10,some (.row 1 5 (t2570.1.map (Z2 .u8))))] [0,4,5,10] [_,_] ⟨Tryz.call108,Z22.ok t2564.1 t2564.2 (t2491.2) t2570 e2571,trivial⟩ ?_
  obtain⟨t2574,e2575,H⟩:=Z4 H
  refine sR hP hn hm [(2,.any (iV .i64 (a0.length:Int))),(5,.call [(0,0),(10,1)] [(0,0),(2,11)] [] [11] 2 (.tup []) [(0,some (.box 86 [.own 2,iV .u64 t2574.2])),(1,none),(2,some (.row 1 5 (t2574.1.map (Z2 .u8))))])] [] [0,5,7,8] [(0,some (.box 86 [.own 11,iV .u64 t2574.2])),(11,some (.row 1 5 (t2574.1.map (Z2 .u8))))] [0,4,5,11] [((a0.map Z6).length:Int)=(a0.length:Int),_,_] ⟨by rw[Zr],Tryz.call33,Zd.ok t2570.1 t2570.2 (u64.wrap (i64.wrap ((a0.length:Int)-(1:Int)))) t2574 e2575,trivial⟩ ?_
  refine sO hP hn hm [] [(9,.none0),(10,.none0)] [0,5,7,8,9,10] [] [0,4,5,11] ?_
  refine sO hP hn hm [] [(11,iV .i64 0),(12,iV .i64 0)] [0,5,7,8,9,10,11,12] [] [0,4,5,11] ?_
  refine AWp.seq ?_
  refine sR hP hn hm [(1,.any (iV .i64 (a0.length:Int)))] [(62,.im (.row (a0.map Z6))),(63,iV .i64 (a0.length:Int)),(64,iV .i64 0)] [5,7,8,9,10,11,12,62,63,64] [] [0,4,5,11] [((a0.map Z6).length:Int)=(a0.length:Int)] ⟨by rw[Zr],trivial⟩ ?_
  refine AWp.block ?_
  obtain⟨o2951,e2952,H⟩:=Z4 H
  refine AWp.loop (LWp.conv (inv:=[(0,30),(4,32),(5,33),(11,31)]) (vk:=[]) (e0:=[34,35]) (t:=⟨[(5,.ptr 30 0 0),(7,.ptr 32 0 0),(8,.ptr 33 0 0),(9,.own 34),(10,.own 35),(11,iV .i64 0),(12,iV .i64 0),(62,.im (.row (a0.map Z6))),(63,iV .i64 (a0.length:Int)),(64,iV .i64 0)],[(30,some (.box 86 [.own 31,iV .u64 t2574.2])),(31,some (.row 1 5 (t2574.1.map (Z2 .u8)))),(32,some (.box 179 (Zj (t2491.1)))),(33,some (.box 179 (Zj (t2491.2)))),(34,some (.row 1 45 ([].map (Z2 .u64)))),(35,some (.row 1 45 ([].map (Z2 .u64))))],0⟩) (by kernel_rfl) ?_)
  refine LWp.mono (Q:=fun e s=>(match (generalizing:=false) o2951 with | (x2941,x2942)=>e = .exit 0∧s=⟨[(5,.ptr 110 0 0)],[(110,some (.box 86 [.own 111,iV .u64 x2942])),(111,some (.row 1 5 (x2941.map (Z2 .u8))))],0⟩)) (LWp.cv (Zs (fun body hbody => ?_))) ?_
  ·refine            Z1c.l0.partial_correctness a0 t2491 (motive:=fun x2758 x2759 x2760 x2761 x2762 x2763 x2764 o2951=>LWp Γ body (fun e s=>∃ t,Cv Γ s t∧(match (generalizing:=false) o2951 with | (x2941,x2942)=>e = .exit 0∧t=⟨[(5,.ptr 110 0 0)],[(110,some (.box 86 [.own 111,iV .u64 x2942])),(111,some (.row 1 5 (x2941.map (Z2     .u8))))],0⟩)) ⟨[(5,.ptr 30 0 0),(7,.ptr 32 0 0),(8,.ptr 33 0 0),(9,.own 34),(10,.own 35),(11,iV .i64 x2762),(12,iV .i64 x2763),(62,.im (.row (a0.map Z6     ))),(63,iV .i64 (a0.length:Int)),(64,iV .i64 x2764)],[(30,some (.box 86 [.own 31,iV .u64 x2759])),(31,some (.row 1 5 (x2758.map (Z2     .u8)))),(32,some (.box 179 (Zj           (t2491.1)))),(33,some (.box 179 (Zj           (t2491.2)))),(34,some (.row 1 45 (x2760.map (Z2     .u64)))),(35,some (.row 1 45 (x2761.map (Z2     .u64))))],0⟩) ?_ _ _ _ _ _ _ _ _ e2952
   clear H e2952 o2951;intro self ih x2758 x2759 x2760 x2761 x2762 x2763 x2764 o2951 H
   subst hbody
   refine LWp.round ?_
   refine sO hP hn hm [] [(65,bV (decide (x2764<(a0.length:Int))))] [5,7,8,9,10,11,12,62,63,64,65] [] [30,31,32,33,34,35] ?_
   refine AWp.seq ?_
   refine AWp.cond (decide (x2764<(a0.length:Int))) (by kernel_rfl) (fun c2765 => ?_) (fun c2765 => ?_)
   ·replace H:=iT c2765 H
    refine AWp.skip ?_
    refine AWp.seq ?_
    refine AWp.block ?_
    obtain⟨b2769,p2770,q2771,H⟩:=Z02 H
    refine sR hP hn hm [(1,.c (Z6 b2769)),(3,.k 36)] [(13,iV .i64 x2764),(14,.ptr 36 0 0)] [5,7,8,9,10,11,12,13,14,62,63,64] [(36,some (.box 50 [iV .i64 b2769.f0,iV .i64 b2769.f1.f0,iV .i64 b2769.f1.f1,iV .i64 b2769.f1.f2,iV .u64 b2769.f1.f3,iV .u64 b2769.f1.f4,iV .i64 b2769.f1.f5,.im (.row (b2769.f1.f6.map Z1)),.im (.row (b2769.f1.f7.map Z1))]))] [30,31,32,33,34,35,36] [_,_] ⟨p2770,Zi Z6 q2771,trivial⟩ ?_
    obtain⟨t2774,e2775,H⟩:=Z4 H
    refine sR hP hn hm [(4,.call [] [(0,37)] [] [37] 0 (.own 0) [(0,some (.row 1 45 (t2774.map (Z2 .u64))))])] [(15,.own 37)] [5,7,8,9,10,11,12,13,14,15,62,63,64] [(37,some (.row 1 45 (t2774.map (Z2 .u64))))] [30,31,32,33,34,35,36,37] [_,_] ⟨Tryz.call109,Z4o.ok b2769.f1 (t2491.1) (t2491.2) t2774 e2775,trivial⟩ ?_
    refine AWp.seq ?_
    refine sO hP hn hm [] [(74,iV .i64 x2764)] [5,7,8,9,10,11,12,13,14,15,62,63,64,74] [] [30,31,32,33,34,35,36,37] ?_
    refine AWp.block ?_
    refine sO hP hn hm [] [(83,bV (x2764==(0:Int)))] [5,7,8,9,10,11,12,13,14,15,62,63,64,74,83] [] [30,31,32,33,34,35,36,37] ?_
    obtain⟨o2953,e2954,H⟩:=Z4 H
    refine AWp.mono (Q:=fun e s=>(match (generalizing:=false) o2953 with | (x2792,x2793)=>e = .normal∧s=⟨[(5,.ptr 49 0 0),(7,.ptr 51 0 0),(8,.ptr 52 0 0),(9,.own 53),(10,.own 54),(11,iV .i64 x2762),(13,iV .i64 x2764),(14,.ptr 55 0 0),(15,.own 56),(62,.im (.row (a0.map Z6))),(63,iV .i64 (a0.length:Int)),(64,iV .i64 x2764)],[(49,some (.box 86 [.own 50,iV .u64 x2793])),(50,some (.row 1 5 (x2792.map (Z2 .u8)))),(51,some (.box 179 (Zj (t2491.1)))),(52,some (.box 179 (Zj (t2491.2)))),(53,some (.row 1 45 (x2760.map (Z2 .u64)))),(54,some (.row 1 45 (x2761.map (Z2 .u64)))),(55,some (.box 50 [iV .i64 b2769.f0,iV .i64 b2769.f1.f0,iV .i64 b2769.f1.f1,iV .i64 b2769.f1.f2,iV .u64 b2769.f1.f3,iV .u64 b2769.f1.f4,iV .i64 b2769.f1.f5,.im (.row (b2769.f1.f6.map Z1)),.im (.row (b2769.f1.f7.map Z1))])),(56,some (.row 1 45 (t2774.map (Z2 .u64))))],0⟩)) (AWp.cv ?_) ?_
    ·replace H:=e2954;clear e2954
     refine AWp.cond (x2764==(0:Int)) (by kernel_rfl) (fun c2776 => ?_) (fun c2776 => ?_)
     ·replace H:=iT c2776 H
      obtain⟨t2779,e2780,H⟩:=Z4 H
      refine rG hP hn hm [(4,.call [(30,0),(31,1)] [(0,30),(2,38)] [] [38] 2 (.tup []) [(0,some (.box 86 [.own 2,iV .u64 t2779.2])),(1,none),(2,some (.row 1 5 (t2779.1.map (Z2 .u8))))])] [] [5,7,8,9,10,11,13,14,15,62,63,64] [(30,some (.box 86 [.own 38,iV .u64 t2779.2])),(38,some (.row 1 5 (t2779.1.map (Z2 .u8))))] [30,32,33,34,35,36,37,38] [_,_] ⟨Tryz.call33,Zd.ok x2758 x2759 (u64.wrap (b2769.f0)) t2779 e2780,trivial⟩ ?_
      obtain rfl:=sj H
      exact lf [(30,49),(38,50),(32,51),(33,52),(34,53),(35,54),(36,55),(37,56)] [] [] (by kernel_rfl) ⟨rfl,rfl⟩
     ·replace H:=iF c2776 H
      refine sO hP hn hm [] [(90,bV (x2764==(1:Int)))] [5,7,8,9,10,11,12,13,14,15,62,63,64,90] [] [30,31,32,33,34,35,36,37] ?_
      obtain⟨o2955,e2956,H⟩:=Z4 H
      refine AWp.mono (Q:=fun e s=>(match (generalizing:=false) o2955 with | (x2790,x2791)=>e = .normal∧s=⟨[(5,.ptr 41 0 0),(7,.ptr 43 0 0),(8,.ptr 44 0 0),(9,.own 45),(10,.own 46),(11,iV .i64 x2762),(13,iV .i64 x2764),(14,.ptr 47 0 0),(15,.own 48),(62,.im (.row (a0.map Z6))),(63,iV .i64 (a0.length:Int)),(64,iV .i64 x2764)],[(41,some (.box 86 [.own 42,iV .u64 x2791])),(42,some (.row 1 5 (x2790.map (Z2 .u8)))),(43,some (.box 179 (Zj (t2491.1)))),(44,some (.box 179 (Zj (t2491.2)))),(45,some (.row 1 45 (x2760.map (Z2 .u64)))),(46,some (.row 1 45 (x2761.map (Z2 .u64)))),(47,some (.box 50 [iV .i64 b2769.f0,iV .i64 b2769.f1.f0,iV .i64 b2769.f1.f1,iV .i64 b2769.f1.f2,iV .u64 b2769.f1.f3,iV .u64 b2769.f1.f4,iV .i64 b2769.f1.f5,.im (.row (b2769.f1.f6.map Z1)),.im (.row (b2769.f1.f7.map Z1))])),(48,some (.row 1 45 (t2774.map (Z2 .u64))))],0⟩)) (AWp.cv ?_) ?_
      ·replace H:=e2956;clear e2956
       refine AWp.cond (x2764==(1:Int)) (by kernel_rfl) (fun c2781 => ?_) (fun c2781 => ?_)
       ·replace H:=iT c2781 H
        obtain⟨t2784,e2785,H⟩:=Z4 H
        refine rG hP hn hm [(7,.call [(30,0),(31,1)] [(0,30),(2,39)] [] [39] 2 (.tup []) [(0,some (.box 86 [.own 2,iV .u64 t2784.2])),(1,none),(2,some (.row 1 5 (t2784.1.map (Z2 .u8))))])] [] [5,7,8,9,10,11,13,14,15,62,63,64] [(30,some (.box 86 [.own 39,iV .u64 t2784.2])),(39,some (.row 1 5 (t2784.1.map (Z2 .u8))))] [30,32,33,34,35,36,37,39] [_,_] ⟨Tryz.call33,Zd.ok x2758 x2759 (u64.wrap (i64.wrap ((i64.wrap (b2769.f0-x2762))-(1:Int)))) t2784 e2785,trivial⟩ ?_
        obtain rfl:=sj H
        exact lf [(30,41),(39,42),(32,43),(33,44),(34,45),(35,46),(36,47),(37,48)] [] [] (by kernel_rfl) ⟨rfl,rfl⟩
       ·replace H:=iF c2781 H
        obtain⟨t2788,e2789,H⟩:=Z4 H
        refine rG hP hn hm [(7,.call [(30,0),(31,1)] [(0,30),(2,40)] [] [40] 2 (.tup []) [(0,some (.box 86 [.own 2,iV .u64 t2788.2])),(1,none),(2,some (.row 1 5 (t2788.1.map (Z2 .u8))))])] [] [5,7,8,9,10,11,13,14,15,62,63,64] [(30,some (.box 86 [.own 40,iV .u64 t2788.2])),(40,some (.row 1 5 (t2788.1.map (Z2 .u8))))] [30,32,33,34,35,36,37,40] [_,_] ⟨Tryz.call107,Z0o.ok x2758 x2759 (i64.wrap ((i64.wrap (b2769.f0-x2762))-x2763)) t2788 e2789,trivial⟩ ?_
        obtain rfl:=sj H
        exact lf [(30,41),(40,42),(32,43),(33,44),(34,45),(35,46),(36,47),(37,48)] [] [] (by kernel_rfl) ⟨rfl,rfl⟩
      ·obtain⟨x2790,x2791⟩:=o2955
       rintro e s ⟨rfl,rfl⟩
       obtain rfl:=sj H
       exact lf [(41,49),(42,50),(43,51),(44,52),(45,53),(46,54),(47,55),(48,56)] [] [] (by kernel_rfl) ⟨rfl,rfl⟩
    ·obtain⟨x2792,x2793⟩:=o2953
     rintro e s ⟨rfl,rfl⟩
     refine sO hP hn hm [] [(11,iV .i64 b2769.f0),(12,iV .i64 (i64.wrap (b2769.f0-x2762)))] [5,7,8,9,10,11,12,13,15,62,63,64] [] [49,50,51,52,53,54,56] ?_
     obtain⟨c2795,H⟩:=Z10 H
     refine sR hP hn hm [(1,.any (iV .i64 (t2774.length:Int))),(2,.more (xMake 57 ((List.replicate (Int.toNat (t2774.length:Int)) (0:Int)).map (Z2 .u64))))] [(16,.own 57)] [5,7,8,9,10,11,12,13,15,16,62,63,64] [(57,some (.row 1 45 ((List.replicate (Int.toNat (t2774.length:Int)) (0:Int)).map (Z2 .u64))))] [49,50,51,52,53,54,56,57] [((t2774.map (Z2 .u64)).length:Int)=(t2774.length:Int),(List.replicate (Int.toNat (t2774.length:Int)) (0:Int)).map (Z2 .u64)=List.replicate (Int.toNat (t2774.length:Int)) [iI .u64 0],0≤(t2774.length:Int),(t2774.length:Int)≤(t2774.length:Int),((8:Nat):Int)*(t2774.length:Int)≤281474976710656,(t2774.length:Int)≤9223372036854775807] ⟨by rw[Zr],by simp,by exact c2795.1,by exact c2795.2.1,by exact c2795.2.2.1,by exact c2795.2.2.2,trivial⟩ ?_
     refine AWp.seq ?_
     refine sR hP hn hm [(1,.any (iV .i64 (t2774.length:Int)))] [(109,.own 56),(110,iV .i64 (t2774.length:Int)),(111,iV .i64 0)] [5,7,8,9,10,11,12,13,15,16,62,63,64,109,110,111] [] [49,50,51,52,53,54,56,57] [((t2774.map (Z2 .u64)).length:Int)=(t2774.length:Int)] ⟨by rw[Zr],trivial⟩ ?_
     refine AWp.block ?_
     obtain⟨o2957,e2958,H⟩:=Z4 H
     refine AWp.loop (LWp.conv (inv:=[(49,77),(50,78),(51,79),(52,80),(53,81),(54,82),(56,83),(57,84)]) (vk:=[]) (e0:=[]) (t:=⟨[(5,.ptr 77 0 0),(7,.ptr 79 0 0),(8,.ptr 80 0 0),(9,.own 81),(10,.own 82),(11,iV .i64 b2769.f0),(12,iV .i64 (i64.wrap (b2769.f0-x2762))),(13,iV .i64 x2764),(15,.own 83),(16,.own 84),(62,.im (.row (a0.map Z6))),(63,iV .i64 (a0.length:Int)),(64,iV .i64 x2764),(109,.own 83),(110,iV .i64 (t2774.length:Int)),(111,iV .i64 0)],[(77,some (.box 86 [.own 78,iV .u64 x2793])),(78,some (.row 1 5 (x2792.map (Z2 .u8)))),(79,some (.box 179 (Zj (t2491.1)))),(80,some (.box 179 (Zj (t2491.2)))),(81,some (.row 1 45 (x2760.map (Z2 .u64)))),(82,some (.row 1 45 (x2761.map (Z2 .u64)))),(83,some (.row 1 45 (t2774.map (Z2 .u64)))),(84,some (.row 1 45 ((List.replicate (Int.toNat (t2774.length:Int)) (0:Int)).map (Z2 .u64))))],0⟩) (by kernel_rfl) ?_)
     refine LWp.mono (Q:=fun e s=>(match (generalizing:=false) o2957 with | (x2938,x2939,x2940)=>e = .exit 3∧s=⟨[(5,.ptr 104 0 0),(7,.ptr 106 0 0),(8,.ptr 107 0 0),(11,iV .i64 b2769.f0),(12,iV .i64 (i64.wrap (b2769.f0-x2762))),(15,.own 108),(16,.own 109),(62,.im (.row (a0.map Z6))),(63,iV .i64 (a0.length:Int)),(64,iV .i64 x2764)],[(104,some (.box 86 [.own 105,iV .u64 x2939])),(105,some (.row 1 5 (x2938.map (Z2 .u8)))),(106,some (.box 179 (Zj (t2491.1)))),(107,some (.box 179 (Zj (t2491.2)))),(108,some (.row 1 45 (t2774.map (Z2 .u64)))),(109,some (.row 1 45 (x2940.map (Z2 .u64))))],0⟩)) (LWp.cv (Zs (fun body hbody => ?_))) ?_
     ·refine            Z1c.l1.partial_correctness a0 b2769 t2491 t2774 x2760 x2761 x2762 x2764 (motive:=fun x2865 x2866 x2867 x2868 o2957=>LWp Γ body (fun e s=>∃ t,Cv Γ s t∧(match (generalizing:=false) o2957 with | (x2938,x2939,x2940)=>e = .exit 3∧t=⟨[(5,.ptr 104 0 0),(7,.ptr 106 0 0),(8,.ptr 107 0 0),(11,iV .i64 b2769.f0),(12,iV .i64 (i64.wrap (b2769.f0-x2762))),(15,.own 108),(16,.own 109),(62,.im (.row (a0.map Z6     ))),(63,iV .i64 (a0.length:Int)),(64,iV .i64 x2764)],[(104,some (.box 86 [.own 105,iV .u64 x2939])),(105,some (.row 1 5 (x2938.map (Z2     .u8)))),(106,some (.box 179 (Zj           (t2491.1)))),(107,some (.box 179 (Zj           (t2491.2)))),(108,some (.row 1 45 (t2774.map (Z2     .u64)))),(109,some (.row 1 45 (x2940.map (Z2     .u64))))],0⟩)) ⟨[(5,.ptr 77 0 0),(7,.ptr 79 0 0),(8,.ptr 80 0 0),(9,.own 81),(10,.own 82),(11,iV .i64 b2769.f0),(12,iV .i64 (i64.wrap (b2769.f0-x2762))),(13,iV .i64 x2764),(15,.own 83),(16,.own 84),(62,.im (.row (a0.map Z6     ))),(63,iV .i64 (a0.length:Int)),(64,iV .i64 x2764),(109,.own 83),(110,iV .i64 (t2774.length:Int)),(111,iV .i64 x2868)],[(77,some (.box 86 [.own 78,iV .u64 x2866])),(78,some (.row 1 5 (x2865.map (Z2     .u8)))),(79,some (.box 179 (Zj           (t2491.1)))),(80,some (.box 179 (Zj           (t2491.2)))),(81,some (.row 1 45 (x2760.map (Z2     .u64)))),(82,some (.row 1 45 (x2761.map (Z2     .u64)))),(83,some (.row 1 45 (t2774.map (Z2     .u64)))),(84,some (.row 1 45 (x2867.map (Z2     .u64))))],0⟩) ?_ _ _ _ _ _ e2958
      clear H e2958 o2957;intro self ih x2865 x2866 x2867 x2868 o2957 H
      subst hbody
      refine LWp.round ?_
      refine sO hP hn hm [] [(112,bV (decide (x2868<(t2774.length:Int))))] [5,7,8,9,10,11,12,13,15,16,62,63,64,109,110,111,112] [] [77,78,79,80,81,82,83,84] ?_
      refine AWp.seq ?_
      refine AWp.cond (decide (x2868<(t2774.length:Int))) (by kernel_rfl) (fun c2869 => ?_) (fun c2869 => ?_)
      ·replace H:=iT c2869 H
       refine AWp.skip ?_
       refine AWp.seq ?_
       refine AWp.block ?_
       obtain⟨b2873,p2874,q2875,H⟩:=Z02 H
       refine sR hP hn hm [(2,.c ((Z2 .u64) b2873))] [(17,iV .i64 x2868),(18,iV .u64 b2873)] [5,7,8,9,10,11,12,13,15,16,17,18,62,63,64,109,110,111] [] [77,78,79,80,81,82,83,84] [_,_,_] ⟨p2874,Z09 (Z2 .u64) p2874 q2875,Zi (Z2 .u64) q2875,trivial⟩ ?_
       refine sO hP hn hm [] [(116,iV .i64 x2764)] [5,7,8,9,10,11,12,13,15,16,17,18,62,63,64,109,110,111,116] [] [77,78,79,80,81,82,83,84] ?_
       refine AWp.block ?_
       refine sO hP hn hm [] [(138,bV (x2764==(0:Int)))] [5,7,8,9,10,11,12,13,15,16,17,18,62,63,64,109,110,111,116,138] [] [77,78,79,80,81,82,83,84] ?_
       obtain⟨o2959,e2960,H⟩:=Z4 H
       refine AWp.mono (Q:=fun e s=>(match (generalizing:=false) o2959 with | (x2935,x2936,x2937)=>e = .normal∧s=⟨[(5,.ptr 96 0 0),(7,.ptr 98 0 0),(8,.ptr 99 0 0),(9,.own 100),(10,.own 101),(11,iV .i64 b2769.f0),(12,iV .i64 (i64.wrap (b2769.f0-x2762))),(13,iV .i64 x2764),(15,.own 102),(16,.own 103),(62,.im (.row (a0.map Z6))),(63,iV .i64 (a0.length:Int)),(64,iV .i64 x2764),(109,.own 102),(110,iV .i64 (t2774.length:Int)),(111,iV .i64 x2868)],[(96,some (.box 86 [.own 97,iV .u64 x2936])),(97,some (.row 1 5 (x2935.map (Z2 .u8)))),(98,some (.box 179 (Zj (t2491.1)))),(99,some (.box 179 (Zj (t2491.2)))),(100,some (.row 1 45 (x2760.map (Z2 .u64)))),(101,some (.row 1 45 (x2761.map (Z2 .u64)))),(102,some (.row 1 45 (t2774.map (Z2 .u64)))),(103,some (.row 1 45 (x2937.map (Z2 .u64))))],0⟩)) (AWp.cv ?_) ?_
       ·replace H:=e2960;clear e2960
        refine AWp.cond (x2764==(0:Int)) (by kernel_rfl) (fun c2876 => ?_) (fun c2876 => ?_)
        ·replace H:=iT c2876 H
         obtain⟨t2879,e2880,H⟩:=Z4 H
         refine rG hP hn hm [(2,.call [(77,0),(78,1)] [(0,77),(2,85)] [] [85] 2 (.tup []) [(0,some (.box 86 [.own 2,iV .u64 t2879.2])),(1,none),(2,some (.row 1 5 (t2879.1.map (Z2 .u8))))])] [] [5,7,8,9,10,11,12,13,15,16,62,63,64,109,110,111] [(77,some (.box 86 [.own 85,iV .u64 t2879.2])),(85,some (.row 1 5 (t2879.1.map (Z2 .u8))))] [77,79,80,81,82,83,84,85] [_,_] ⟨Tryz.call33,Zd.ok x2865 x2866 b2873 t2879 e2880,trivial⟩ ?_
         obtain rfl:=sj H
         exact lf [(77,96),(85,97),(79,98),(80,99),(81,100),(82,101),(83,102),(84,103)] [] [] (by kernel_rfl) ⟨rfl,rfl⟩
        ·replace H:=iF c2876 H
         refine sO hP hn hm [] [(143,bV (x2764==(1:Int)))] [5,7,8,9,10,11,12,13,15,16,17,18,62,63,64,109,110,111,143] [] [77,78,79,80,81,82,83,84] ?_
         obtain⟨o2961,e2962,H⟩:=Z4 H
         refine AWp.mono (Q:=fun e s=>(match (generalizing:=false) o2961 with | (x2932,x2933,x2934)=>e = .normal∧s=⟨[(5,.ptr 88 0 0),(7,.ptr 90 0 0),(8,.ptr 91 0 0),(9,.own 92),(10,.own 93),(11,iV .i64 b2769.f0),(12,iV .i64 (i64.wrap (b2769.f0-x2762))),(13,iV .i64 x2764),(15,.own 94),(16,.own 95),(62,.im (.row (a0.map Z6))),(63,iV .i64 (a0.length:Int)),(64,iV .i64 x2764),(109,.own 94),(110,iV .i64 (t2774.length:Int)),(111,iV .i64 x2868)],[(88,some (.box 86 [.own 89,iV .u64 x2933])),(89,some (.row 1 5 (x2932.map (Z2 .u8)))),(90,some (.box 179 (Zj (t2491.1)))),(91,some (.box 179 (Zj (t2491.2)))),(92,some (.row 1 45 (x2760.map (Z2 .u64)))),(93,some (.row 1 45 (x2761.map (Z2 .u64)))),(94,some (.row 1 45 (t2774.map (Z2 .u64)))),(95,some (.row 1 45 (x2934.map (Z2 .u64))))],0⟩)) (AWp.cv ?_) ?_
         ·replace H:=e2962;clear e2962
          refine AWp.cond (x2764==(1:Int)) (by kernel_rfl) (fun c2881 => ?_) (fun c2881 => ?_)
          ·replace H:=iT c2881 H
           obtain⟨b2888,p2889,q2890,H⟩:=Z02 H
           obtain⟨b2891,p2892,q2893,H⟩:=Z02 H
           refine sR hP hn hm [(6,.c ((Z2 .u64) b2888)),(9,.put ((Z2 .u64) b2891) ((x2867.set (Int.toNat (x2868)) (u64.wrap (b2873-b2888))).map (Z2 .u64)))] [] [5,7,8,9,10,11,12,13,15,16,17,62,63,64,109,110,111] [(84,some (.row 1 45 ((x2867.set (Int.toNat (x2868)) (u64.wrap (b2873-b2888))).map (Z2 .u64))))] [77,78,79,80,81,82,83,84] [_,_,_,_,_,_,(x2867.set (Int.toNat (x2868)) (u64.wrap (b2873-b2888))).map (Z2 .u64)=(x2867.map (Z2 .u64)).set (Int.toNat (x2868)) (Z0t ((Z2 .u64) b2891) 0 [iI .u64 (u64.wrap (b2873-b2888))])] ⟨p2889,Z09 (Z2 .u64) p2889 q2890,Zi (Z2 .u64) q2890,p2892,Z09 (Z2 .u64) p2892 q2893,Zi (Z2 .u64) q2893,by exact set1 _ _ _ _,trivial⟩ ?_
           obtain⟨b2899,p2900,q2901,H⟩:=Z02 H
           obtain⟨t2902,e2903,H⟩:=Z4 H
           refine rG hP hn hm [(4,.c ((Z2 .u64) b2899)),(6,.call [(77,0),(78,1)] [(0,77),(2,86)] [] [86] 2 (.tup []) [(0,some (.box 86 [.own 2,iV .u64 t2902.2])),(1,none),(2,some (.row 1 5 (t2902.1.map (Z2 .u8))))])] [] [5,7,8,9,10,11,12,13,15,16,62,63,64,109,110,111] [(77,some (.box 86 [.own 86,iV .u64 t2902.2])),(86,some (.row 1 5 (t2902.1.map (Z2 .u8))))] [77,79,80,81,82,83,84,86] [_,_,_,_,_] ⟨p2900,Z09 (Z2 .u64) p2900 q2901,Zi (Z2 .u64) q2901,Tryz.call107,Z0o.ok x2865 x2866 (i64.wrap (b2899)) t2902 e2903,trivial⟩ ?_
           obtain rfl:=sj H
           exact lf [(77,88),(86,89),(79,90),(80,91),(81,92),(82,93),(83,94),(84,95)] [] [] (by kernel_rfl) ⟨rfl,rfl⟩
          ·replace H:=iF c2881 H
           obtain⟨b2910,p2911,q2912,H⟩:=Z02 H
           obtain⟨b2913,p2914,q2915,H⟩:=Z02 H
           refine sR hP hn hm [(6,.c ((Z2 .u64) b2910)),(9,.put ((Z2 .u64) b2913) ((x2867.set (Int.toNat (x2868)) (u64.wrap (b2873-b2910))).map (Z2 .u64)))] [] [5,7,8,9,10,11,12,13,15,16,17,62,63,64,109,110,111] [(84,some (.row 1 45 ((x2867.set (Int.toNat (x2868)) (u64.wrap (b2873-b2910))).map (Z2 .u64))))] [77,78,79,80,81,82,83,84] [_,_,_,_,_,_,(x2867.set (Int.toNat (x2868)) (u64.wrap (b2873-b2910))).map (Z2 .u64)=(x2867.map (Z2 .u64)).set (Int.toNat (x2868)) (Z0t ((Z2 .u64) b2913) 0 [iI .u64 (u64.wrap (b2873-b2910))])] ⟨p2911,Z09 (Z2 .u64) p2911 q2912,Zi (Z2 .u64) q2912,p2914,Z09 (Z2 .u64) p2914 q2915,Zi (Z2 .u64) q2915,by exact set1 _ _ _ _,trivial⟩ ?_
           obtain⟨b2924,p2925,q2926,H⟩:=Z02 H
           obtain⟨b2927,p2928,q2929,H⟩:=Z02 H
           obtain⟨t2930,e2931,H⟩:=Z4 H
           refine rG hP hn hm [(4,.c ((Z2 .u64) b2924)),(8,.c ((Z2 .u64) b2927)),(11,.call [(77,0),(78,1)] [(0,77),(2,87)] [] [87] 2 (.tup []) [(0,some (.box 86 [.own 2,iV .u64 t2930.2])),(1,none),(2,some (.row 1 5 (t2930.1.map (Z2 .u8))))])] [] [5,7,8,9,10,11,12,13,15,16,62,63,64,109,110,111] [(77,some (.box 86 [.own 87,iV .u64 t2930.2])),(87,some (.row 1 5 (t2930.1.map (Z2 .u8))))] [77,79,80,81,82,83,84,87] [_,_,_,_,_,_,_,_] ⟨p2925,Z09 (Z2 .u64) p2925 q2926,Zi (Z2 .u64) q2926,p2928,Z09 (Z2 .u64) p2928 q2929,Zi (Z2 .u64) q2929,Tryz.call107,Z0o.ok x2865 x2866 (i64.wrap (u64.wrap (b2924-b2927))) t2930 e2931,trivial⟩ ?_
           obtain rfl:=sj H
           exact lf [(77,88),(87,89),(79,90),(80,91),(81,92),(82,93),(83,94),(84,95)] [] [] (by kernel_rfl) ⟨rfl,rfl⟩
         ·obtain⟨x2932,x2933,x2934⟩:=o2961
          rintro e s ⟨rfl,rfl⟩
          obtain rfl:=sj H
          exact lf [(88,96),(89,97),(90,98),(91,99),(92,100),(93,101),(94,102),(95,103)] [] [] (by kernel_rfl) ⟨rfl,rfl⟩
       ·obtain⟨x2935,x2936,x2937⟩:=o2959
        rintro e s ⟨rfl,rfl⟩
        refine rO hP hn hm [] [(111,iV .i64 (i64.wrap (x2868+(1:Int))))] [5,7,8,9,10,11,12,13,15,16,62,63,64,109,110,111] [] [96,97,98,99,100,101,102,103] ?_
        exact LWp.conv [(96,77),(97,78),(98,79),(99,80),(100,81),(101,82),(102,83),(103,84)] [] [] (by kernel_rfl) (ih _ _ _ _ _ H)
      ·replace H:=iF c2869 H
       refine AWp.exit ?_
       obtain rfl:=sj H
       exact lf [(77,104),(78,105),(79,106),(80,107),(83,108),(84,109)] [] [] (by kernel_rfl) ⟨rfl,rfl⟩
     ·obtain⟨x2938,x2939,x2940⟩:=o2957
      rintro e s ⟨rfl,rfl⟩
      refine rO hP hn hm [] [(9,.own 108),(10,.own 109)] [5,7,8,9,10,11,12,62,63,64] [] [104,105,106,107,108,109] ?_
      refine rO hP hn hm [] [(64,iV .i64 (i64.wrap (x2764+(1:Int))))] [5,7,8,9,10,11,12,62,63,64] [] [104,105,106,107,108,109] ?_
      exact LWp.conv [(104,30),(105,31),(106,32),(107,33),(108,34),(109,35)] [] [] (by kernel_rfl) (ih _ _ _ _ _ _ _ _ H)
   ·replace H:=iF c2765 H
    refine AWp.exit ?_
    obtain rfl:=sj H
    exact lf [(30,110),(31,111)] [] [] (by kernel_rfl) ⟨rfl,rfl⟩
  ·obtain⟨x2941,x2942⟩:=o2951
   rintro e s ⟨rfl,rfl⟩
   obtain⟨t2949,e2950,H⟩:=Z4 H
   refine sR hP hn hm [(1,.call [(110,0),(111,1)] [(0,110),(1,111),(2,112)] [] [112] 2 (.own 2) [(0,some (.box 86 [.own 1,iV .u64 x2942])),(1,some (.row 1 5 (x2941.map (Z2 .u8)))),(2,some (.row 1 5 (t2949.map (Z2 .u8))))])] [(2,.own 112),(3,iV .i64 0)] [2,3] [(112,some (.row 1 5 (t2949.map (Z2 .u8))))] [112] [_,_] ⟨Tryz.call38,Z1k.ok x2941 x2942 t2949 e2950,trivial⟩ ?_
   refine AWp.conv (inv:=[(112,0)]) (vk:=[]) (e0:=[]) (t:=⟨[(2,.own 0),(3,iV .i64 0)],[(0,some (.row 1 5 (t2949.map (Z2 .u8))))],0⟩) (by kernel_rfl) ?_
   refine AWp.ret ?_
   obtain rfl:=sj H
   exact rl (.inl rfl) rfl (by kernel_rfl) (by kernel_rfl)
def Z1h.l0 (t2413:List (List Zt)) (x2971:List Int) (x2972:Int) (x2973:Int):Option ((List Int)×Int):=if(decide (x2973<(t2413.length:Int)))=true then((at? t2413 x2973)>>=fun b2978=>(Z1c.f b2978)>>=fun t2983=>(Z18.f x2971 x2972 (strOf t2983.1))>>=fun t2987=>Z1h.l0 t2413 t2987.1 t2987.2 (i64.wrap (x2973+(1:Int)))) else(some (x2971,x2972))
partial_fixpoint
def Z1h.f (a0_c0:List Int) (a0_c1:Int) (a1:List Zt):Option ((List Int)×Int):=(Z35.f a1)>>=fun t2413=>(Zd.f a0_c0 a0_c1 (u64.wrap ((t2413.length:Int))))>>=fun t2417=>(Z1h.l0 t2413 t2417.1 t2417.2 0)>>=fun oo=>match oo with | (x2989,x2990)=>(some (x2989,x2990))
theorem Z1h.ok (a0_c0:List Int) (a0_c1:Int) (a1:List Zt) (r:(List Int)×Int) (H:Z1h.f a0_c0 a0_c1 a1=some r):Pv.Fn Tryz.prog 35 [.ptr 0 0 0,.im (.row (a1.map Z6))] [(0,some (.box 86 [.own 1,iV .u64 a0_c1])),(1,some (.row 1 5 (a0_c0.map (Z2 .u8))))] 2 (fun x o=>x = .tup []∧o=[(0,some (.box 86 [.own 2,iV .u64 r.2])),(1,none),(2,some (.row 1 5 (r.1.map (Z2 .u8))))]):=by
 unfold Z1h.f at H
 refine Fn.bodyK [0,1,2] Tryz.func35 rfl rfl (fun Γ hP hn => ?_)
 have hm:Tryz.prog.follows .mixedOrders=true:=by kernel_rfl
 replace hn:Γ.n=32:=hn
 obtain⟨t2413,e2414,H⟩:=Z4 H
 refine sR hP hn hm [(1,.call [] [(0,2)] [] [2] 0 (.own 0) [(0,some (.row 1 44 (t2413.map (Z1e Z6))))])] [(4,.own 2)] [0,4] [(2,some (.row 1 44 (t2413.map (Z1e Z6))))] [0,1,2] [_,_] ⟨Tryz.call72,Z35.ok a1 t2413 e2414,trivial⟩ ?_
 obtain⟨t2417,e2418,H⟩:=Z4 H
 refine sR hP hn hm [(2,.any (iV .i64 (t2413.length:Int))),(4,.call [(0,0),(1,1)] [(0,0),(2,3)] [] [3] 2 (.tup []) [(0,some (.box 86 [.own 2,iV .u64 t2417.2])),(1,none),(2,some (.row 1 5 (t2417.1.map (Z2 .u8))))])] [] [0,4] [(0,some (.box 86 [.own 3,iV .u64 t2417.2])),(3,some (.row 1 5 (t2417.1.map (Z2 .u8))))] [0,2,3] [((t2413.map (Z1e Z6)).length:Int)=(t2413.length:Int),_,_] ⟨by rw[Zr],Tryz.call33,Zd.ok a0_c0 a0_c1 (u64.wrap ((t2413.length:Int))) t2417 e2418,trivial⟩ ?_
 refine sR hP hn hm [(1,.any (iV .i64 (t2413.length:Int)))] [(16,.own 2),(17,iV .i64 (t2413.length:Int)),(18,iV .i64 0)] [0,16,17,18] [] [0,2,3] [((t2413.map (Z1e Z6)).length:Int)=(t2413.length:Int)] ⟨by rw[Zr],trivial⟩ ?_
 refine AWp.block ?_
 obtain⟨o2991,e2992,H⟩:=Z4 H
 refine AWp.loop (LWp.conv (inv:=[(0,0),(2,7),(3,6)]) (vk:=[]) (e0:=[]) (t:=⟨[(0,.ptr 0 0 0),(16,.own 7),(17,iV .i64 (t2413.length:Int)),(18,iV .i64 0)],[(0,some (.box 86 [.own 6,iV .u64 t2417.2])),(6,some (.row 1 5 (t2417.1.map (Z2 .u8)))),(7,some (.row 1 44 (t2413.map (Z1e Z6))))],2⟩) (by kernel_rfl) ?_)
 refine LWp.mono (Q:=fun e s=>(match (generalizing:=false) o2991 with | (x2989,x2990)=>e = .exit 0∧s=⟨[],[(0,some (.box 86 [.own 10,iV .u64 x2990])),(10,some (.row 1 5 (x2989.map (Z2 .u8))))],2⟩)) (LWp.cv (Zs (fun body hbody => ?_))) ?_
 ·refine                 Z1h.l0.partial_correctness t2413 (motive:=fun x2971 x2972 x2973 o2991=>LWp Γ body (fun e s=>∃ t,Cv Γ s t∧(match (generalizing:=false) o2991 with | (x2989,x2990)=>e = .exit 0∧t=⟨[],[(0,some (.box 86 [.own 10,iV .u64 x2990])),(10,some (.row 1 5 (x2989.map (Z2     .u8))))],2⟩)) ⟨[(0,.ptr 0 0 0),(16,.own 7),(17,iV .i64 (t2413.length:Int)),(18,iV .i64 x2973)],[(0,some (.box 86 [.own 6,iV .u64 x2972])),(6,some (.row 1 5 (x2971.map (Z2     .u8)))),(7,some (.row 1 44 (t2413.map (Z1e    Z6     ))))],2⟩) ?_ _ _ _ _ e2992
  clear H e2992 o2991;intro self ih x2971 x2972 x2973 o2991 H
  subst hbody
  refine LWp.round ?_
  refine sO hP hn hm [] [(19,bV (decide (x2973<(t2413.length:Int))))] [0,16,17,18,19] [] [0,6,7] ?_
  refine AWp.seq ?_
  refine AWp.cond (decide (x2973<(t2413.length:Int))) (by kernel_rfl) (fun c2974 => ?_) (fun c2974 => ?_)
  ·replace H:=iT c2974 H
   refine AWp.skip ?_
   refine AWp.seq ?_
   refine AWp.block ?_
   obtain⟨b2978,p2979,q2980,H⟩:=Z02 H
   refine sR hP hn hm [(1,.c ((Z1e Z6) b2978))] [(6,.im (.row (b2978.map Z6)))] [0,6,16,17,18] [] [0,6,7] [_,_,_] ⟨p2979,Z09 (Z1e Z6) p2979 q2980,Zi (Z1e Z6) q2980,trivial⟩ ?_
   obtain⟨t2983,e2984,H⟩:=Z4 H
   refine sR hP hn hm [(1,.call [] [(0,8)] [] [8] 0 (.tup [.own 0,iV .i64 t2983.2]) [(0,some (.row 1 5 (t2983.1.map (Z2 .u8))))])] [(7,.own 8)] [0,7,16,17,18] [(8,some (.row 1 5 (t2983.1.map (Z2 .u8))))] [0,6,7,8] [_,_] ⟨Tryz.call73,Z1c.ok b2978 t2983 e2984,trivial⟩ ?_
   obtain⟨t2987,e2988,H⟩:=Z4 H
   refine rG hP hn hm [(2,.more (xStr t2983.1)),(3,.call [(0,0),(6,1)] [(0,0),(2,9)] [] [9] 2 (.tup []) [(0,some (.box 86 [.own 2,iV .u64 t2987.2])),(1,none),(2,some (.row 1 5 (t2987.1.map (Z2 .u8))))])] [] [0,16,17,18] [(0,some (.box 86 [.own 9,iV .u64 t2987.2])),(9,some (.row 1 5 (t2987.1.map (Z2 .u8))))] [0,7,9] [t2983.1.map (Z2 .u8)=t2983.1.map (Z2 .u8),_,_] ⟨by exact rfl,Tryz.call34,Z18.ok x2971 x2972 (strOf t2983.1) t2987 e2988,trivial⟩ ?_
   refine rO hP hn hm [] [(18,iV .i64 (i64.wrap (x2973+(1:Int))))] [0,16,17,18] [] [0,7,9] ?_
   exact LWp.conv [(0,0),(7,7),(9,6)] [] [] (by kernel_rfl) (ih _ _ _ _ H)
  ·replace H:=iF c2974 H
   refine AWp.exit ?_
   obtain rfl:=sj H
   exact lf [(0,0),(6,10)] [] [] (by kernel_rfl) ⟨rfl,rfl⟩
 ·obtain⟨x2989,x2990⟩:=o2991
  rintro e s ⟨rfl,rfl⟩
  obtain rfl:=sj H
  exact Exists.intro ⟨[],[(0,some (.box 86 [.own 2,iV .u64 x2990])),(2,some (.row 1 5 (x2989.map (Z2 .u8))))],2⟩ (And.intro (fun _ _ h=>h.conv (inv:=[(0,0),(10,2)]) (vk:=[]) (e0:=[]) (t:=⟨[],[(0,some (.box 86 [.own 2,iV .u64 x2990])),(2,some (.row 1 5 (x2989.map (Z2 .u8))))],2⟩) (by kernel_rfl)) (And.intro (.inr rfl) (And.intro rfl (And.intro (by kernel_rfl) (by kernel_rfl)))))
def Z1b.f (a0:List Z5):Option (List Z5):=(chk ((([]:List Z5).length+a0.length)*16≤140737488355328))>>=fun _=>some a0
theorem Z1b.ok (a0 r:List Z5) (H:Z1b.f a0=some r):Pv.Fn Tryz.prog 75 [.im (.row (a0.map Z0))] [] 0 (fun x o=>x = .own 0∧o=[(0,some (.row 2 92 (r.map Z0)))]):=by
 unfold Z1b.f at H
 obtain⟨c1,H⟩:=Z10 H
 obtain rfl:=sj H
 refine Fn.bodyK [0] Tryz.func75 rfl rfl (fun Γ hP hn => ?_)
 have hm:Tryz.prog.follows .mixedOrders=true:=by kernel_rfl
 replace hn:Γ.n=8:=hn
 refine AWp.seq ?_
 refine reg hP hn hm [] [0,2] [] ⟨[(0,.im (.row (a0.map Z0))),(2,.none0)],[],0⟩ [] (by kernel_rfl) trivial ?_
 refine AWp.seq ?_
 cases a0 with
 | nil =>
  refine AWp.nilSplit 0 rfl (fun b m => ?_)
  refine AWp.seq ?_
  cases b with
  | none =>
   refine reg hP hn hm [(1,.more xNil)] [2,4] [] ⟨[(2,.none0),(4,bV true)],[],0⟩ [] (by kernel_rfl) trivial ?_
   refine AWp.cond true rfl (fun _ => ?_) (fun h=>nomatch h)
   refine AWp.seq ?_
   refine reg hP hn hm [] [2] [] ⟨[(2,.none0)],[],0⟩ [] (by kernel_rfl) trivial ?_
   refine AWp.conv (inv:=[]) (vk:=[]) (e0:=[0]) (t:=⟨[(2,.own 0)],[(0,some (.row 2 92 []))],0⟩) (by kernel_rfl) ?_
   refine AWp.ret ?_
   exact Exists.intro _ (And.intro (fun _ _ h=>h) (And.intro (.inl rfl) (And.intro rfl (And.intro (by kernel_rfl) (by kernel_rfl)))))
  | some b =>
   refine reg hP hn hm [(1,.more xNil)] [0,2,4] [] ⟨[(0,.im (.sc (.slice (some b) 0 m))),(2,.none0),(4,bV false)],[],0⟩ [] (by kernel_rfl) trivial ?_
   refine AWp.cond false rfl (fun h=>nomatch h) (fun _ => ?_)
   refine AWp.skip ?_
   refine AWp.unsplit 0 rfl ?_
   refine AWp.seq ?_
   refine reg hP hn hm [(0,.app 0 ([]:List (List Im))),(2,.app 1 (([]:List Z5).map Z0))] [2] [1] ⟨[(2,.own 1)],[(1,some (.row 2 92 (([]:List Z5).map Z0)))],0⟩ [([]:List (List Im))=[],([]:List Z5).map Z0=([]:List (List Im))++([]:List Z5).map Z0,∀ c∈([]:List Z5).map Z0,c.length=2,∀ c∈([]:List Z5).map Z0,Z16 (c.map .im)=true,(([]:List (List Im)).length+(([]:List Z5).map Z0).length)*16≤140737488355328] (by kernel_rfl) ⟨rfl,by simp,by exact Z12 _ _ _ (fun _=>rfl),by exact Z14 _ _ (fun _=>rfl),by simpa using c1,trivial⟩ ?_
   refine AWp.conv (inv:=[(1,0)]) (vk:=[]) (e0:=[]) (t:=⟨[(2,.own 0)],[(0,some (.row 2 92 (([]:List Z5).map Z0)))],0⟩) (by kernel_rfl) ?_
   refine AWp.ret ?_
   exact Exists.intro _ (And.intro (fun _ _ h=>h) (And.intro (.inl rfl) (And.intro rfl (And.intro (by kernel_rfl) (by kernel_rfl)))))
 | cons y l =>
  refine AWp.seq ?_
  refine reg hP hn hm [(1,.more xNil)] [0,2,4] [] ⟨[(0,.im (.row ((y::l).map Z0))),(2,.none0),(4,bV false)],[],0⟩ [] (by kernel_rfl) trivial ?_
  refine AWp.cond false rfl (fun h=>nomatch h) (fun _ => ?_)
  refine AWp.skip ?_
  refine AWp.seq ?_
  refine reg hP hn hm [(0,.app 0 ([]:List (List Im))),(2,.app 1 ((y::l).map Z0))] [2] [1] ⟨[(2,.own 1)],[(1,some (.row 2 92 ((y::l).map Z0)))],0⟩ [([]:List (List Im))=[],(y::l).map Z0=([]:List (List Im))++(y::l).map Z0,∀ c∈(y::l).map Z0,c.length=2,∀ c∈(y::l).map Z0,Z16 (c.map .im)=true,(([]:List (List Im)).length+((y::l).map Z0).length)*16≤140737488355328] (by kernel_rfl) ⟨rfl,by simp,by exact Z12 _ _ _ (fun _=>rfl),by exact Z14 _ _ (fun _=>rfl),by simpa using c1,trivial⟩ ?_
  refine AWp.conv (inv:=[(1,0)]) (vk:=[]) (e0:=[]) (t:=⟨[(2,.own 0)],[(0,some (.row 2 92 ((y::l).map Z0)))],0⟩) (by kernel_rfl) ?_
  refine AWp.ret ?_
  exact Exists.intro _ (And.intro (fun _ _ h=>h) (And.intro (.inl rfl) (And.intro rfl (And.intro (by kernel_rfl) (by kernel_rfl)))))
def Z46.f (a0:Z5):Option (Bool):=(Z39.f a0)>>=fun t3041=>some (!t3041)
theorem Z46.ok (a0:Z5) (r:Bool) (H:Z46.f a0=some r):Pv.Fn Tryz.prog 76 [.agg [iV .i64 a0.f0,iV .i64 a0.f1]] [] 0 (fun x o=>x=bV r∧o=[]):=by
 unfold Z46.f at H
 refine Fn.bodyK [] Tryz.func76 rfl rfl (fun Γ hP hn => ?_)
 have hm:Tryz.prog.follows .mixedOrders=true:=by kernel_rfl
 replace hn:Γ.n=6:=hn
 refine sO hP hn hm [(0,.k 0)] [(1,.ptr 0 0 0)] [1] [(0,some (.box 92 (Z3w a0)))] [0] ?_
 obtain⟨t3041,e3042,H⟩:=Z4 H
 refine sR hP hn hm [(1,.call [] [] [] [] 0 (bV t3041) [])] [(2,bV (!t3041))] [2] [] [] [_,_] ⟨Tryz.call40,Z39.ok a0 t3041 e3042,trivial⟩ ?_
 refine AWp.conv (inv:=[]) (vk:=[]) (e0:=[]) (t:=⟨[(2,bV (!t3041))],[],0⟩) (by kernel_rfl) ?_
 refine AWp.ret ?_
 obtain rfl:=sj H
 exact rl (.inl rfl) rfl (by kernel_rfl) (by kernel_rfl)
def Z04.l0 (a0:List Z5) (x3051:Int):Option (Int ⊕ Unit):=if(decide (x3051<(a0.length:Int)))=true then((at? a0 x3051)>>=fun b3058=>(Z46.f b3058)>>=fun t3061=>if t3061=true then(some (.inl x3051)) else(Z04.l0 a0 (i64.wrap (x3051+(1:Int))))) else(some (.inr ()))
partial_fixpoint
def Z04.f (a0:List Z5):Option (Int):=(Z04.l0 a0 0)>>=fun oo=>match oo with | .inl rr=>(some rr) | .inr _=>(some (-1))
theorem Z04.ok (a0:List Z5) (r:Int) (H:Z04.f a0=some r):Pv.Fn Tryz.prog 110 [.own 0,.im (.sc (.func (.func 76) #[] #[]))] [(0,some (.row 2 92 (a0.map Z0)))] 1 (fun x o=>x=iV .i64 r∧o=[(0,some (.row 2 92 (a0.map Z0)))]):=by
 unfold Z04.f at H
 refine Fn.bodyK [0] Tryz.func110 rfl rfl (fun Γ hP hn => ?_)
 have hm:Tryz.prog.follows .mixedOrders=true:=by kernel_rfl
 replace hn:Γ.n=19:=hn
 refine sO hP hn hm [] [] [0,1] [] [0] ?_
 refine AWp.seq ?_
 refine sR hP hn hm [(1,.any (iV .i64 (a0.length:Int)))] [(7,iV .i64 (a0.length:Int)),(8,iV .i64 0)] [0,1,7,8] [] [0] [((a0.map Z0).length:Int)=(a0.length:Int)] ⟨by rw[Zr],trivial⟩ ?_
 refine AWp.block ?_
 obtain⟨o3064,e3065,H⟩:=Z4 H
 refine AWp.loop (LWp.conv (inv:=[(0,0)]) (vk:=[]) (e0:=[]) (t:=⟨[(0,.own 0),(1,.im (.sc (.func (.func 76) #[] #[]))),(7,iV .i64 (a0.length:Int)),(8,iV .i64 0)],[(0,some (.row 2 92 (a0.map Z0)))],1⟩) (by kernel_rfl) ?_)
 refine LWp.mono (Q:=fun e s=>(match (generalizing:=false) o3064 with | .inl rr=>e = .ret∧s.floor=1∧Z1y Tryz.prog Tryz.f110 s=some (iV .i64 rr)∧([(0,s.obj 0)]:List (Nat×Option MObj))=[(0,some (.row 2 92 (a0.map Z0)))] | .inr _=>e = .exit 0∧s=⟨[],[(0,some (.row 2 92 (a0.map Z0)))],1⟩)) (LWp.cv (Zs (fun body hbody => ?_))) ?_
 ·refine                                     Z04.l0.partial_correctness a0 (motive:=fun x3051 o3064=>LWp Γ body (fun e s=>∃ t,Cv Γ s t∧(match (generalizing:=false) o3064 with | .inl rr=>e = .ret∧t.floor=1∧Z1y   Tryz.prog Tryz.f110 t=some (iV .i64 rr)∧([(0,t.obj 0)]:List (Nat×Option MObj))=[(0,some (.row 2 92 (a0.map Z0         )))] | .inr _=>e = .exit 0∧t=⟨[],[(0,some (.row 2 92 (a0.map Z0         )))],1⟩)) ⟨[(0,.own 0),(1,.im (.sc (.func (.func 76) #[] #[]))),(7,iV .i64 (a0.length:Int)),(8,iV .i64 x3051)],[(0,some (.row 2 92 (a0.map Z0         )))],1⟩) ?_ _ _ e3065
  clear H e3065 o3064;intro self ih x3051 o3064 H
  subst hbody
  refine LWp.round ?_
  refine sO hP hn hm [] [(9,bV (decide (x3051<(a0.length:Int))))] [0,1,7,8,9] [] [0] ?_
  refine AWp.seq ?_
  refine AWp.cond (decide (x3051<(a0.length:Int))) (by kernel_rfl) (fun c3052 => ?_) (fun c3052 => ?_)
  ·replace H:=iT c3052 H
   refine AWp.skip ?_
   refine AWp.seq ?_
   refine AWp.block ?_
   refine sO hP hn hm [] [(5,iV .i64 x3051)] [0,1,5,7,8] [] [0] ?_
   obtain⟨b3058,p3059,q3060,H⟩:=Z02 H
   obtain⟨t3061,e3062,H⟩:=Z4 H
   refine sR hP hn hm [(4,.c (Z0 b3058)),(5,.call [] [] [] [] 0 (bV t3061) [])] [(16,bV t3061)] [0,1,5,7,8,16] [] [0] [_,_,_,_,_] ⟨p3059,Z09 Z0 p3059 q3060,Zi Z0 q3060,Tryz.call76,Z46.ok b3058 t3061 e3062,trivial⟩ ?_
   refine AWp.cond t3061 (by kernel_rfl) (fun c3063 => ?_) (fun c3063 => ?_)
   ·replace H:=iT c3063 H
    refine sO hP hn hm [] [(4,iV .i64 x3051)] [4] [] [0] ?_
    refine AWp.conv (inv:=[(0,0)]) (vk:=[]) (e0:=[]) (t:=⟨[(4,iV .i64 x3051)],[(0,some (.row 2 92 (a0.map Z0)))],1⟩) (by kernel_rfl) ?_
    refine AWp.ret ?_
    obtain rfl:=sj H
    exact rl rfl rfl (by kernel_rfl) (by kernel_rfl)
   ·replace H:=iF c3063 H
    refine AWp.skip ?_
    refine rO hP hn hm [] [(8,iV .i64 (i64.wrap (x3051+(1:Int))))] [0,1,7,8] [] [0] ?_
    exact LWp.conv [(0,0)] [] [] (by kernel_rfl) (ih _ _ H)
  ·replace H:=iF c3052 H
   refine AWp.exit ?_
   obtain rfl:=sj H
   exact lf [(0,0)] [] [] (by kernel_rfl) ⟨rfl,rfl⟩
 ·rcases o3064 with rr | _
  ·skip
   rintro e s ⟨rfl,hfl,hres⟩
   obtain rfl:=sj H
   exact Exists.intro _ (And.intro (fun _ _ h=>h) (And.intro (.inl rfl) (And.intro hfl hres)))
  ·skip
   rintro e s ⟨rfl,rfl⟩
   refine sO hP hn hm [] [(4,iV .i64 (-1))] [4] [] [0] ?_
   refine AWp.conv (inv:=[(0,0)]) (vk:=[]) (e0:=[]) (t:=⟨[(4,iV .i64 (-1))],[(0,some (.row 2 92 (a0.map Z0)))],1⟩) (by kernel_rfl) ?_
   refine AWp.ret ?_
   obtain rfl:=sj H
   exact rl (.inl rfl) rfl (by kernel_rfl) (by kernel_rfl)
def Z03.l0 (x3091:List Z5) (x3092:Int) (x3093:Int):Option ((List Z5)×Int):=if(decide (x3093<(x3091.length:Int)))=true then((at? x3091 x3093)>>=fun b3098=>(Z46.f b3098)>>=fun t3103=>((if(!t3103)=true then((at? x3091 x3092)>>=fun b3109=>some (x3091.set (Int.toNat (x3092)) b3098,i64.wrap (x3092+(1:Int)))) else(some (x3091,x3092))):Option ((List Z5)×Int))>>=fun oo=>match oo with | (x3112,x3113)=>(Z03.l0  x3112 x3113 (i64.wrap (x3093+(1:Int))))) else(some (x3091,x3092))
partial_fixpoint
def Z03.f (a0:List Z5):Option (List Z5):=(Z04.f a0)>>=fun t3068=>if(t3068==(-1))=true then(some a0) else((Z03.l0  a0 t3068 (i64.wrap (t3068+(1:Int))))>>=fun oo=>match oo with | (x3114,x3115)=>((chk (0≤x3115∧x3115≤(x3114.length:Int)))>>=fun _=>(chk (0≤x3115∧x3115≤((x3114.take (Int.toNat x3115)++List.replicate (x3114.length-(Int.toNat x3115)) (⟨0,0⟩:Z5)).length:Int)))>>=fun _=>some ((x3114.take (Int.toNat x3115)++List.replicate (x3114.length-(Int.toNat x3115)) (⟨0,0⟩:Z5)).take (Int.toNat (x3115)))))
theorem Z03.ok (a0:List Z5) (r:List Z5) (H:Z03.f a0=some r):Pv.Fn Tryz.prog 74 [.own 0,.im (.sc (.func (.func 76) #[] #[]))] [(0,some (.row 2 92 (a0.map Z0)))] 1 (fun x o=>x = .own 1∧o=[(0,none),(1,some (.row 2 92 (r.map Z0)))]):=by
 unfold Z03.f at H
 refine Fn.bodyK [0,1] Tryz.func74 rfl rfl (fun Γ hP hn => ?_)
 have hm:Tryz.prog.follows .mixedOrders=true:=by kernel_rfl
 replace hn:Γ.n=42:=hn
 refine sO hP hn hm [] [] [0,1] [] [0] ?_
 obtain⟨t3068,e3069,H⟩:=Z4 H
 refine sR hP hn hm [(2,.call [(0,0)] [(0,0)] [] [] 1 (iV .i64 t3068) [(0,some (.row 2 92 (a0.map Z0)))])] [(5,iV .i64 t3068)] [0,1,5] [] [0] [_,_] ⟨Tryz.call110,Z04.ok a0 t3068 e3069,trivial⟩ ?_
 refine AWp.seq ?_
 refine sO hP hn hm [] [(12,bV (t3068==(-1)))] [0,1,5,12] [] [0] ?_
 refine AWp.cond (t3068==(-1)) (by kernel_rfl) (fun c3070 => ?_) (fun c3070 => ?_)
 ·replace H:=iT c3070 H
  refine sO hP hn hm [] [(4,.own 0)] [4] [] [0] ?_
  refine AWp.conv (inv:=[(0,1)]) (vk:=[]) (e0:=[]) (t:=⟨[(4,.own 1)],[(1,some (.row 2 92 (a0.map Z0)))],1⟩) (by kernel_rfl) ?_
  refine AWp.ret ?_
  obtain rfl:=sj H
  exact rl (.inl rfl) rfl (by kernel_rfl) (by kernel_rfl)
 ·replace H:=iF c3070 H
  refine AWp.skip ?_
  refine AWp.seq ?_
  refine sO hP hn hm [] [(6,iV .i64 (i64.wrap (t3068+(1:Int))))] [0,1,5,6] [] [0] ?_
  refine AWp.block ?_
  obtain⟨o3120,e3121,H⟩:=Z4 H
  refine AWp.loop (LWp.conv (inv:=[(0,0)]) (vk:=[]) (e0:=[]) (t:=⟨[(0,.own 0),(1,.im (.sc (.func (.func 76) #[] #[]))),(5,iV .i64 t3068),(6,iV .i64 (i64.wrap (t3068+(1:Int))))],[(0,some (.row 2 92 (a0.map Z0)))],1⟩) (by kernel_rfl) ?_)
  refine LWp.mono (Q:=fun e s=>(match (generalizing:=false) o3120 with | (x3114,x3115)=>e = .exit 0∧s=⟨[(0,.own 0),(5,iV .i64 x3115)],[(0,some (.row 2 92 (x3114.map Z0)))],1⟩)) (LWp.cv (Zs (fun body hbody => ?_))) ?_
  ·refine                                      Z03.l0.partial_correctness  (motive:=fun x3091 x3092 x3093 o3120=>LWp Γ body (fun e s=>∃ t,Cv Γ s t∧(match (generalizing:=false) o3120 with | (x3114,x3115)=>e = .exit 0∧t=⟨[(0,.own 0),(5,iV .i64 x3115)],[(0,some (.row 2 92 (x3114.map Z0         )))],1⟩)) ⟨[(0,.own 0),(1,.im (.sc (.func (.func 76) #[] #[]))),(5,iV .i64 x3092),(6,iV .i64 x3093)],[(0,some (.row 2 92 (x3091.map Z0         )))],1⟩) ?_ _ _ _ _ e3121
   clear H e3121 o3120;intro self ih x3091 x3092 x3093 o3120 H
   subst hbody
   refine LWp.round ?_
   refine AWp.seq ?_
   refine sR hP hn hm [(2,.any (iV .i64 (x3091.length:Int)))] [(19,bV (decide (x3093<(x3091.length:Int))))] [0,1,5,6,19] [] [0] [((x3091.map Z0).length:Int)=(x3091.length:Int)] ⟨by rw[Zr],trivial⟩ ?_
   refine AWp.cond (decide (x3093<(x3091.length:Int))) (by kernel_rfl) (fun c3094 => ?_) (fun c3094 => ?_)
   ·replace H:=iT c3094 H
    refine AWp.skip ?_
    refine AWp.seq ?_
    refine AWp.block ?_
    obtain⟨b3098,p3099,q3100,H⟩:=Z02 H
    refine sR hP hn hm [(3,.c (Z0 b3098)),(4,.k 2)] [(7,.ptr 2 0 0)] [0,1,5,6,7] [(2,some (.box 92 (Z3w b3098)))] [0,2] [_,_,_] ⟨p3099,Z09 Z0 p3099 q3100,Zi Z0 q3100,trivial⟩ ?_
    obtain⟨t3103,e3104,H⟩:=Z4 H
    refine sR hP hn hm [(2,.call [] [] [] [] 0 (bV t3103) [])] [(29,bV (!t3103))] [0,1,5,6,7,29] [] [0,2] [_,_] ⟨Tryz.call76,Z46.ok b3098 t3103 e3104,trivial⟩ ?_
    obtain⟨o3122,e3123,H⟩:=Z4 H
    refine AWp.mono (Q:=fun e s=>(match (generalizing:=false) o3122 with | (x3112,x3113)=>e = .normal∧s=⟨[(0,.own 0),(1,.im (.sc (.func (.func 76) #[] #[]))),(5,iV .i64 x3113),(6,iV .i64 x3093)],[(0,some (.row 2 92 (x3112.map Z0)))],1⟩)) (AWp.cv ?_) ?_
    ·replace H:=e3123;clear e3123
     refine AWp.cond (!t3103) (by kernel_rfl) (fun c3105 => ?_) (fun c3105 => ?_)
     ·replace H:=iT c3105 H
      obtain⟨b3109,p3110,q3111,H⟩:=Z02 H
      refine sR hP hn hm [(4,.put (Z0 b3109) ((x3091.set (Int.toNat (x3092)) b3098).map Z0))] [] [0,1,5,6] [(0,some (.row 2 92 ((x3091.set (Int.toNat (x3092)) b3098).map Z0)))] [0] [_,_,_,(x3091.set (Int.toNat (x3092)) b3098).map Z0=(x3091.map Z0).set (Int.toNat (x3092)) (Z0t (Z0 b3109) 0 [iI .i64 b3098.f0,iI .i64 b3098.f1])] ⟨p3110,Z09 Z0 p3110 q3111,Zi Z0 q3111,by exact set1 _ _ _ _,trivial⟩ ?_
      refine rO hP hn hm [] [(5,iV .i64 (i64.wrap (x3092+(1:Int))))] [0,1,5,6] [] [0] ?_
      obtain rfl:=sj H
      exact lf [(0,0)] [] [] (by kernel_rfl) ⟨rfl,rfl⟩
     ·replace H:=iF c3105 H
      refine AWp.skip ?_
      obtain rfl:=sj H
      exact lf [(0,0)] [] [] (by kernel_rfl) ⟨rfl,rfl⟩
    ·obtain⟨x3112,x3113⟩:=o3122
     rintro e s ⟨rfl,rfl⟩
     refine rO hP hn hm [] [(6,iV .i64 (i64.wrap (x3093+(1:Int))))] [0,1,5,6] [] [0] ?_
     exact LWp.conv [(0,0)] [] [] (by kernel_rfl) (ih _ _ _ _ H)
   ·replace H:=iF c3094 H
    refine AWp.exit ?_
    obtain rfl:=sj H
    exact lf [(0,0)] [] [] (by kernel_rfl) ⟨rfl,rfl⟩
  ·obtain⟨x3114,x3115⟩:=o3120
   rintro e s ⟨rfl,rfl⟩
   obtain⟨c3117,H⟩:=Z10 H
   refine sR hP hn hm [(2,.more (xCutOwn (Int.toNat x3115) (x3114.length-(Int.toNat x3115)))),(3,.more (xClear ((x3114.take (Int.toNat x3115)++List.replicate (x3114.length-(Int.toNat x3115)) (⟨0,0⟩:Z5)).map Z0)))] [] [0,5] [(0,some (.row 2 92 ((x3114.take (Int.toNat x3115)++List.replicate (x3114.length-(Int.toNat x3115)) (⟨0,0⟩:Z5)).map Z0)))] [0] [x3115=(((Int.toNat x3115):Nat):Int),(Int.toNat x3115)+(x3114.length-(Int.toNat x3115))=(x3114.map Z0).length,(x3114.take (Int.toNat x3115)++List.replicate (x3114.length-(Int.toNat x3115)) (⟨0,0⟩:Z5)).map Z0=(x3114.map Z0).take (Int.toNat x3115)++List.replicate (x3114.length-(Int.toNat x3115)) [iI .i64 0,iI .i64 0],(Int.toNat x3115)+(x3114.length-(Int.toNat x3115))=(x3114.map Z0).length] ⟨by exact(Int.toNat_of_nonneg c3117.1).symm,by have h:=c3117;rw[List.length_map];omega,by simp,by have h:=c3117;rw[List.length_map];omega,trivial⟩ ?_
   obtain⟨c3119,H⟩:=Z10 H
   refine sR hP hn hm [(2,.more (xTake 3 (((x3114.take (Int.toNat x3115)++List.replicate (x3114.length-(Int.toNat x3115)) (⟨0,0⟩:Z5)).take (Int.toNat (x3115))).map Z0)))] [(4,.own 3)] [4] [(3,some (.row 2 92 (((x3114.take (Int.toNat x3115)++List.replicate (x3114.length-(Int.toNat x3115)) (⟨0,0⟩:Z5)).take (Int.toNat (x3115))).map Z0)))] [3] [0≤x3115,x3115≤(((x3114.take (Int.toNat x3115)++List.replicate (x3114.length-(Int.toNat x3115)) (⟨0,0⟩:Z5)).map Z0).length:Int),((x3114.take (Int.toNat x3115)++List.replicate (x3114.length-(Int.toNat x3115)) (⟨0,0⟩:Z5)).take (Int.toNat (x3115))).map Z0=((x3114.take (Int.toNat x3115)++List.replicate (x3114.length-(Int.toNat x3115)) (⟨0,0⟩:Z5)).map Z0).take (Int.toNat (x3115))] ⟨by exact c3119.1,by simpa using c3119.2,by simp,trivial⟩ ?_
   refine AWp.conv (inv:=[(3,1)]) (vk:=[]) (e0:=[]) (t:=⟨[(4,.own 1)],[(1,some (.row 2 92 (((x3114.take (Int.toNat x3115)++List.replicate (x3114.length-(Int.toNat x3115)) (⟨0,0⟩:Z5)).take (Int.toNat (x3115))).map Z0)))],1⟩) (by kernel_rfl) ?_
   refine AWp.ret ?_
   obtain rfl:=sj H
   exact rl (.inl rfl) rfl (by kernel_rfl) (by kernel_rfl)
def Z4p.f (a0:Int):Option (Int):=((if(decide (a0≥(4294967296:Int)))=true then(some (Int.fdiv a0 4294967296,32)) else(some (a0,0))):Option (Int×Int))>>=fun oo=>match oo with | (x3131,x3132)=>(((if(decide (x3131≥(65536:Int)))=true then(some (Int.fdiv x3131 65536,i64.wrap (x3132+(16:Int)))) else(some (x3131,x3132))):Option (Int×Int))>>=fun oo=>match oo with | (x3134,x3135)=>(((if(decide (x3134≥(256:Int)))=true then(some (Int.fdiv x3134 256,i64.wrap (x3135+(8:Int)))) else(some (x3134,x3135))):Option (Int×Int))>>=fun oo=>match oo with | (x3137,x3138)=>((chk (0≤(u8.wrap (x3137))∧(u8.wrap (x3137))<((⟨#[0,1,2,2,3,3,3,3,4,4,4,4,4,4,4,4,5,5,5,5,5,5,5,5,5,5,5,5,5,5,5,5,6,6,6,6,6,6,6,6,6,6,6,6,6,6,6,6,6,6,6,6,6,6,6,6,6,6,6,6,6,6,6,6,7,7,7,7,7,7,7,7,7,7,7,7,7,7,7,7,7,7,7,7,7,7,7,7,7,7,7,7,7,7,7,7,7,7,7,7,7,7,7,7,7,7,7,7,7,7,7,7,7,7,7,7,7,7,7,7,7,7,7,7,7,7,7,7,8,8,8,8,8,8,8,8,8,8,8,8,8,8,8,8,8,8,8,8,8,8,8,8,8,8,8,8,8,8,8,8,8,8,8,8,8,8,8,8,8,8,8,8,8,8,8,8,8,8,8,8,8,8,8,8,8,8,8,8,8,8,8,8,8,8,8,8,8,8,8,8,8,8,8,8,8,8,8,8,8,8,8,8,8,8,8,8,8,8,8,8,8,8,8,8,8,8,8,8,8,8,8,8,8,8,8,8,8,8,8,8,8,8,8,8,8,8,8,8,8,8,8,8,8,8,8,8]⟩:ByteArray).size:Int)))>>=fun _=>some (i64.wrap (x3138+(i64.wrap (bt (⟨#[0,1,2,2,3,3,3,3,4,4,4,4,4,4,4,4,5,5,5,5,5,5,5,5,5,5,5,5,5,5,5,5,6,6,6,6,6,6,6,6,6,6,6,6,6,6,6,6,6,6,6,6,6,6,6,6,6,6,6,6,6,6,6,6,7,7,7,7,7,7,7,7,7,7,7,7,7,7,7,7,7,7,7,7,7,7,7,7,7,7,7,7,7,7,7,7,7,7,7,7,7,7,7,7,7,7,7,7,7,7,7,7,7,7,7,7,7,7,7,7,7,7,7,7,7,7,7,7,8,8,8,8,8,8,8,8,8,8,8,8,8,8,8,8,8,8,8,8,8,8,8,8,8,8,8,8,8,8,8,8,8,8,8,8,8,8,8,8,8,8,8,8,8,8,8,8,8,8,8,8,8,8,8,8,8,8,8,8,8,8,8,8,8,8,8,8,8,8,8,8,8,8,8,8,8,8,8,8,8,8,8,8,8,8,8,8,8,8,8,8,8,8,8,8,8,8,8,8,8,8,8,8,8,8,8,8,8,8,8,8,8,8,8,8,8,8,8,8,8,8,8,8,8,8,8,8]⟩:ByteArray) (u8.wrap (x3137)))))))))
theorem Z4p.ok (a0:Int) (r:Int) (H:Z4p.f a0=some r):Pv.Fn Tryz.prog 147 [iV .u64 a0] [] 0 (fun x o=>x=iV .i64 r∧o=[]):=by
 unfold Z4p.f at H
 refine Fn.bodyK [] Tryz.func147 rfl rfl (fun Γ hP hn => ?_)
 have hm:Tryz.prog.follows .mixedOrders=true:=by kernel_rfl
 replace hn:Γ.n=25:=hn
 refine sO hP hn hm [] [(2,iV .i64 0)] [0,2] [] [] ?_
 refine AWp.seq ?_
 refine sO hP hn hm [] [(4,bV (decide (a0≥(4294967296:Int))))] [0,2,4] [] [] ?_
 obtain⟨o3141,e3142,H⟩:=Z4 H
 refine AWp.mono (Q:=fun e s=>(match (generalizing:=false) o3141 with | (x3131,x3132)=>e = .normal∧s=⟨[(0,iV .u64 x3131),(2,iV .i64 x3132)],[],0⟩)) (AWp.cv ?_) ?_
 ·replace H:=e3142;clear e3142
  refine AWp.cond (decide (a0≥(4294967296:Int))) (by kernel_rfl) (fun c3130 => ?_) (fun c3130 => ?_)
  ·replace H:=iT c3130 H
   refine sR hP hn hm [] [(0,iV .u64 (Int.fdiv a0 4294967296))] [0] [] [] [(0:Int)≤32] ⟨by decide,trivial⟩ ?_
   refine rO hP hn hm [] [(2,iV .i64 32)] [0,2] [] [] ?_
   obtain rfl:=sj H
   exact lf [] [] [] (by kernel_rfl) ⟨rfl,rfl⟩
  ·replace H:=iF c3130 H
   refine AWp.skip ?_
   obtain rfl:=sj H
   exact lf [] [] [] (by kernel_rfl) ⟨rfl,rfl⟩
 ·obtain⟨x3131,x3132⟩:=o3141
  rintro e s ⟨rfl,rfl⟩
  refine AWp.seq ?_
  refine sO hP hn hm [] [(8,bV (decide (x3131≥(65536:Int))))] [0,2,8] [] [] ?_
  obtain⟨o3143,e3144,H⟩:=Z4 H
  refine AWp.mono (Q:=fun e s=>(match (generalizing:=false) o3143 with | (x3134,x3135)=>e = .normal∧s=⟨[(0,iV .u64 x3134),(2,iV .i64 x3135)],[],0⟩)) (AWp.cv ?_) ?_
  ·replace H:=e3144;clear e3144
   refine AWp.cond (decide (x3131≥(65536:Int))) (by kernel_rfl) (fun c3133 => ?_) (fun c3133 => ?_)
   ·replace H:=iT c3133 H
    refine sR hP hn hm [] [(0,iV .u64 (Int.fdiv x3131 65536))] [0,2] [] [] [(0:Int)≤16] ⟨by decide,trivial⟩ ?_
    refine rO hP hn hm [] [(2,iV .i64 (i64.wrap (x3132+(16:Int))))] [0,2] [] [] ?_
    obtain rfl:=sj H
    exact lf [] [] [] (by kernel_rfl) ⟨rfl,rfl⟩
   ·replace H:=iF c3133 H
    refine AWp.skip ?_
    obtain rfl:=sj H
    exact lf [] [] [] (by kernel_rfl) ⟨rfl,rfl⟩
  ·obtain⟨x3134,x3135⟩:=o3143
   rintro e s ⟨rfl,rfl⟩
   refine AWp.seq ?_
   refine sO hP hn hm [] [(14,bV (decide (x3134≥(256:Int))))] [0,2,14] [] [] ?_
   obtain⟨o3145,e3146,H⟩:=Z4 H
   refine AWp.mono (Q:=fun e s=>(match (generalizing:=false) o3145 with | (x3137,x3138)=>e = .normal∧s=⟨[(0,iV .u64 x3137),(2,iV .i64 x3138)],[],0⟩)) (AWp.cv ?_) ?_
   ·replace H:=e3146;clear e3146
    refine AWp.cond (decide (x3134≥(256:Int))) (by kernel_rfl) (fun c3136 => ?_) (fun c3136 => ?_)
    ·replace H:=iT c3136 H
     refine sR hP hn hm [] [(0,iV .u64 (Int.fdiv x3134 256))] [0,2] [] [] [(0:Int)≤8] ⟨by decide,trivial⟩ ?_
     refine rO hP hn hm [] [(2,iV .i64 (i64.wrap (x3135+(8:Int))))] [0,2] [] [] ?_
     obtain rfl:=sj H
     exact lf [] [] [] (by kernel_rfl) ⟨rfl,rfl⟩
    ·replace H:=iF c3136 H
     refine AWp.skip ?_
     obtain rfl:=sj H
     exact lf [] [] [] (by kernel_rfl) ⟨rfl,rfl⟩
   ·obtain⟨x3137,x3138⟩:=o3145
    rintro e s ⟨rfl,rfl⟩
    obtain⟨c3140,H⟩:=Z10 H
    refine sR hP hn hm [] [(2,iV .i64 (i64.wrap (x3138+(i64.wrap (bt (⟨#[0,1,2,2,3,3,3,3,4,4,4,4,4,4,4,4,5,5,5,5,5,5,5,5,5,5,5,5,5,5,5,5,6,6,6,6,6,6,6,6,6,6,6,6,6,6,6,6,6,6,6,6,6,6,6,6,6,6,6,6,6,6,6,6,7,7,7,7,7,7,7,7,7,7,7,7,7,7,7,7,7,7,7,7,7,7,7,7,7,7,7,7,7,7,7,7,7,7,7,7,7,7,7,7,7,7,7,7,7,7,7,7,7,7,7,7,7,7,7,7,7,7,7,7,7,7,7,7,8,8,8,8,8,8,8,8,8,8,8,8,8,8,8,8,8,8,8,8,8,8,8,8,8,8,8,8,8,8,8,8,8,8,8,8,8,8,8,8,8,8,8,8,8,8,8,8,8,8,8,8,8,8,8,8,8,8,8,8,8,8,8,8,8,8,8,8,8,8,8,8,8,8,8,8,8,8,8,8,8,8,8,8,8,8,8,8,8,8,8,8,8,8,8,8,8,8,8,8,8,8,8,8,8,8,8,8,8,8,8,8,8,8,8,8,8,8,8,8,8,8,8,8,8,8,8,8]⟩:ByteArray) (u8.wrap (x3137)))))))] [2] [] [] [0≤(u8.wrap (x3137)),(u8.wrap (x3137))<((⟨#[0,1,2,2,3,3,3,3,4,4,4,4,4,4,4,4,5,5,5,5,5,5,5,5,5,5,5,5,5,5,5,5,6,6,6,6,6,6,6,6,6,6,6,6,6,6,6,6,6,6,6,6,6,6,6,6,6,6,6,6,6,6,6,6,7,7,7,7,7,7,7,7,7,7,7,7,7,7,7,7,7,7,7,7,7,7,7,7,7,7,7,7,7,7,7,7,7,7,7,7,7,7,7,7,7,7,7,7,7,7,7,7,7,7,7,7,7,7,7,7,7,7,7,7,7,7,7,7,8,8,8,8,8,8,8,8,8,8,8,8,8,8,8,8,8,8,8,8,8,8,8,8,8,8,8,8,8,8,8,8,8,8,8,8,8,8,8,8,8,8,8,8,8,8,8,8,8,8,8,8,8,8,8,8,8,8,8,8,8,8,8,8,8,8,8,8,8,8,8,8,8,8,8,8,8,8,8,8,8,8,8,8,8,8,8,8,8,8,8,8,8,8,8,8,8,8,8,8,8,8,8,8,8,8,8,8,8,8,8,8,8,8,8,8,8,8,8,8,8,8,8,8,8,8,8,8]⟩:ByteArray).size:Int)] ⟨by exact c3140.1,by exact c3140.2,trivial⟩ ?_
    refine AWp.conv (inv:=[]) (vk:=[]) (e0:=[]) (t:=⟨[(2,iV .i64 (i64.wrap (x3138+(i64.wrap (bt (⟨#[0,1,2,2,3,3,3,3,4,4,4,4,4,4,4,4,5,5,5,5,5,5,5,5,5,5,5,5,5,5,5,5,6,6,6,6,6,6,6,6,6,6,6,6,6,6,6,6,6,6,6,6,6,6,6,6,6,6,6,6,6,6,6,6,7,7,7,7,7,7,7,7,7,7,7,7,7,7,7,7,7,7,7,7,7,7,7,7,7,7,7,7,7,7,7,7,7,7,7,7,7,7,7,7,7,7,7,7,7,7,7,7,7,7,7,7,7,7,7,7,7,7,7,7,7,7,7,7,8,8,8,8,8,8,8,8,8,8,8,8,8,8,8,8,8,8,8,8,8,8,8,8,8,8,8,8,8,8,8,8,8,8,8,8,8,8,8,8,8,8,8,8,8,8,8,8,8,8,8,8,8,8,8,8,8,8,8,8,8,8,8,8,8,8,8,8,8,8,8,8,8,8,8,8,8,8,8,8,8,8,8,8,8,8,8,8,8,8,8,8,8,8,8,8,8,8,8,8,8,8,8,8,8,8,8,8,8,8,8,8,8,8,8,8,8,8,8,8,8,8,8,8,8,8,8,8]⟩:ByteArray) (u8.wrap (x3137)))))))],[],0⟩) (by kernel_rfl) ?_
    refine AWp.ret ?_
    obtain rfl:=sj H
    exact rl (.inl rfl) rfl (by kernel_rfl) (by kernel_rfl)
def Z4f.f (a0:Int):Option (Int):=(Z4p.f a0)>>=fun t3149=>some t3149
theorem Z4f.ok (a0:Int) (r:Int) (H:Z4f.f a0=some r):Pv.Fn Tryz.prog 112 [iV .u64 a0] [] 0 (fun x o=>x=iV .i64 r∧o=[]):=by
 unfold Z4f.f at H
 refine Fn.bodyK [] Tryz.func112 rfl rfl (fun Γ hP hn => ?_)
 have hm:Tryz.prog.follows .mixedOrders=true:=by kernel_rfl
 replace hn:Γ.n=8:=hn
 refine sO hP hn hm [] [] [0] [] [] ?_
 refine AWp.seq ?_
 refine AWp.cond false (by kernel_rfl) (fun h=>nomatch h) (fun _ => ?_)
 refine AWp.skip ?_
 obtain⟨t3149,e3150,H⟩:=Z4 H
 refine sR hP hn hm [(1,.call [] [] [] [] 0 (iV .i64 t3149) [])] [(2,iV .i64 t3149)] [2] [] [] [_,_] ⟨Tryz.call147,Z4p.ok a0 t3149 e3150,trivial⟩ ?_
 refine AWp.conv (inv:=[]) (vk:=[]) (e0:=[]) (t:=⟨[(2,iV .i64 t3149)],[],0⟩) (by kernel_rfl) ?_
 refine AWp.ret ?_
 obtain rfl:=sj H
 exact rl (.inl rfl) rfl (by kernel_rfl) (by kernel_rfl)
def Z2k.f (a0:Int):Option (Unit):=some ()
theorem Z2k.ok (a0:Int) (r:Unit) (H:Z2k.f a0=some r):Pv.Fn Tryz.prog 113 [iV .i64 a0] [] 0 (fun x o=>x=bV (a0 != a0)∧o=[]):=by
 unfold Z2k.f at H
 refine Fn.bodyK [] Tryz.func113 rfl rfl (fun Γ hP hn => ?_)
 have hm:Tryz.prog.follows .mixedOrders=true:=by kernel_rfl
 replace hn:Γ.n=6:=hn
 refine sO hP hn hm [] [] [0] [] [] ?_
 refine sO hP hn hm [] [(2,bV (a0 != a0))] [2] [] [] ?_
 refine AWp.conv (inv:=[]) (vk:=[]) (e0:=[]) (t:=⟨[(2,bV (a0 != a0))],[],0⟩) (by kernel_rfl) ?_
 refine AWp.ret ?_
 obtain rfl:=sj H
 exact rl (.inl rfl) rfl (by kernel_rfl) (by kernel_rfl)
def Z27.f (a0:Int) (a1:Int):Option (Int):=(Z2k.f a0)>>=fun t3164=>(Z2k.f a1)>>=fun t3168=>if(a0 != a0)=true then(if(a1 != a1)=true then(some 0) else(some (-1))) else(if(a1 != a1)=true then(some 1) else(if(decide (a0<a1))=true then(some (-1)) else(if(decide (a0>a1))=true then(some 1) else(some 0))))
theorem Z27.ok (a0:Int) (a1:Int) (r:Int) (H:Z27.f a0 a1=some r):Pv.Fn Tryz.prog 80 [iV .i64 a0,iV .i64 a1] [] 0 (fun x o=>x=iV .i64 r∧o=[]):=by
 unfold Z27.f at H
 refine Fn.bodyK [] Tryz.func80 rfl rfl (fun Γ hP hn => ?_)
 have hm:Tryz.prog.follows .mixedOrders=true:=by kernel_rfl
 replace hn:Γ.n=20:=hn
 refine sO hP hn hm [] [] [0,1] [] [] ?_
 obtain⟨t3164,e3165,H⟩:=Z4 H
 refine sR hP hn hm [(1,.call [] [] [] [] 0 (bV (a0 != a0)) [])] [(5,bV (a0 != a0))] [0,1,5] [] [] [_,_] ⟨Tryz.call113,Z2k.ok a0 t3164 e3165,trivial⟩ ?_
 obtain⟨t3168,e3169,H⟩:=Z4 H
 refine sR hP hn hm [(1,.call [] [] [] [] 0 (bV (a1 != a1)) [])] [(6,bV (a1 != a1))] [0,1,5,6] [] [] [_,_] ⟨Tryz.call113,Z2k.ok a1 t3168 e3169,trivial⟩ ?_
 refine AWp.seq ?_
 refine sO hP hn hm [] [(11,bV (a0 != a0))] [0,1,6,11] [] [] ?_
 refine AWp.cond (a0 != a0) (by kernel_rfl) (fun c3170 => ?_) (fun c3170 => ?_)
 ·replace H:=iT c3170 H
  refine AWp.seq ?_
  refine sO hP hn hm [] [(12,bV (a1 != a1))] [12] [] [] ?_
  refine AWp.cond (a1 != a1) (by kernel_rfl) (fun c3171 => ?_) (fun c3171 => ?_)
  ·replace H:=iT c3171 H
   refine sO hP hn hm [] [(4,iV .i64 0)] [4] [] [] ?_
   refine AWp.conv (inv:=[]) (vk:=[]) (e0:=[]) (t:=⟨[(4,iV .i64 0)],[],0⟩) (by kernel_rfl) ?_
   refine AWp.ret ?_
   obtain rfl:=sj H
   exact rl (.inl rfl) rfl (by kernel_rfl) (by kernel_rfl)
  ·replace H:=iF c3171 H
   refine AWp.skip ?_
   refine sO hP hn hm [] [(4,iV .i64 (-1))] [4] [] [] ?_
   refine AWp.conv (inv:=[]) (vk:=[]) (e0:=[]) (t:=⟨[(4,iV .i64 (-1))],[],0⟩) (by kernel_rfl) ?_
   refine AWp.ret ?_
   obtain rfl:=sj H
   exact rl (.inl rfl) rfl (by kernel_rfl) (by kernel_rfl)
 ·replace H:=iF c3170 H
  refine AWp.skip ?_
  refine AWp.seq ?_
  refine sO hP hn hm [] [(13,bV (a1 != a1))] [0,1,13] [] [] ?_
  refine AWp.cond (a1 != a1) (by kernel_rfl) (fun c3172 => ?_) (fun c3172 => ?_)
  ·replace H:=iT c3172 H
   refine sO hP hn hm [] [(4,iV .i64 1)] [4] [] [] ?_
   refine AWp.conv (inv:=[]) (vk:=[]) (e0:=[]) (t:=⟨[(4,iV .i64 1)],[],0⟩) (by kernel_rfl) ?_
   refine AWp.ret ?_
   obtain rfl:=sj H
   exact rl (.inl rfl) rfl (by kernel_rfl) (by kernel_rfl)
  ·replace H:=iF c3172 H
   refine AWp.skip ?_
   refine AWp.seq ?_
   refine sO hP hn hm [] [(16,bV (decide (a0<a1)))] [0,1,16] [] [] ?_
   refine AWp.cond (decide (a0<a1)) (by kernel_rfl) (fun c3173 => ?_) (fun c3173 => ?_)
   ·replace H:=iT c3173 H
    refine sO hP hn hm [] [(4,iV .i64 (-1))] [4] [] [] ?_
    refine AWp.conv (inv:=[]) (vk:=[]) (e0:=[]) (t:=⟨[(4,iV .i64 (-1))],[],0⟩) (by kernel_rfl) ?_
    refine AWp.ret ?_
    obtain rfl:=sj H
    exact rl (.inl rfl) rfl (by kernel_rfl) (by kernel_rfl)
   ·replace H:=iF c3173 H
    refine AWp.skip ?_
    refine AWp.seq ?_
    refine sO hP hn hm [] [(19,bV (decide (a0>a1)))] [19] [] [] ?_
    refine AWp.cond (decide (a0>a1)) (by kernel_rfl) (fun c3174 => ?_) (fun c3174 => ?_)
    ·replace H:=iT c3174 H
     refine sO hP hn hm [] [(4,iV .i64 1)] [4] [] [] ?_
     refine AWp.conv (inv:=[]) (vk:=[]) (e0:=[]) (t:=⟨[(4,iV .i64 1)],[],0⟩) (by kernel_rfl) ?_
     refine AWp.ret ?_
     obtain rfl:=sj H
     exact rl (.inl rfl) rfl (by kernel_rfl) (by kernel_rfl)
    ·replace H:=iF c3174 H
     refine AWp.skip ?_
     refine sO hP hn hm [] [(4,iV .i64 0)] [4] [] [] ?_
     refine AWp.conv (inv:=[]) (vk:=[]) (e0:=[]) (t:=⟨[(4,iV .i64 0)],[],0⟩) (by kernel_rfl) ?_
     refine AWp.ret ?_
     obtain rfl:=sj H
     exact rl (.inl rfl) rfl (by kernel_rfl) (by kernel_rfl)
def Z3d.l0 (a0:List Int) (x3187:Int):Option (Int ⊕ Unit):=if(decide (x3187<(a0.length:Int)))=true then((at? a0 x3187)>>=fun b3192=>if(b3192 != (0:Int))=true then(some (.inl b3192)) else(Z3d.l0 a0 (i64.wrap (x3187+(1:Int))))) else(some (.inr ()))
partial_fixpoint
def Z3d.f (a0:List Int):Option (Int):=(Z3d.l0 a0 0)>>=fun oo=>match oo with | .inl rr=>(some rr) | .inr _=>(some 0)
theorem Z3d.ok (a0:List Int) (r:Int) (H:Z3d.f a0=some r):Pv.Fn Tryz.prog 79 [.im (.row (a0.map (Z2 .i64)))] [] 0 (fun x o=>x=iV .i64 r∧o=[]):=by
 unfold Z3d.f at H
 refine Fn.bodyK [] Tryz.func79 rfl rfl (fun Γ hP hn => ?_)
 have hm:Tryz.prog.follows .mixedOrders=true:=by kernel_rfl
 replace hn:Γ.n=18:=hn
 refine sO hP hn hm [] [] [0] [] [] ?_
 refine sO hP hn hm [] [(3,iV .i64 0)] [0,3] [] [] ?_
 refine AWp.seq ?_
 refine sR hP hn hm [(1,.any (iV .i64 (a0.length:Int)))] [(6,.im (.row (a0.map (Z2 .i64)))),(7,iV .i64 (a0.length:Int)),(8,iV .i64 0)] [3,6,7,8] [] [] [((a0.map (Z2 .i64)).length:Int)=(a0.length:Int)] ⟨by rw[Zr],trivial⟩ ?_
 refine AWp.block ?_
 obtain⟨o3196,e3197,H⟩:=Z4 H
 refine AWp.loop (LWp.conv (inv:=[]) (vk:=[]) (e0:=[]) (t:=⟨[(3,iV .i64 0),(6,.im (.row (a0.map (Z2 .i64)))),(7,iV .i64 (a0.length:Int)),(8,iV .i64 0)],[],0⟩) (by kernel_rfl) ?_)
 refine LWp.mono (Q:=fun e s=>(match (generalizing:=false) o3196 with | .inl rr=>e = .ret∧s.floor=0∧Z1y Tryz.prog Tryz.f79 s=some (iV .i64 rr)∧([]:List (Nat×Option MObj))=[] | .inr _=>e = .exit 0∧s=⟨[(3,iV .i64 0)],[],0⟩)) (LWp.cv (Zs (fun body hbody => ?_))) ?_
 ·refine          Z3d.l0.partial_correctness a0 (motive:=fun x3187 o3196=>LWp Γ body (fun e s=>∃ t,Cv Γ s t∧(match (generalizing:=false) o3196 with | .inl rr=>e = .ret∧t.floor=0∧Z1y   Tryz.prog Tryz.f79 t=some (iV .i64 rr)∧([]:List (Nat×Option MObj))=[] | .inr _=>e = .exit 0∧t=⟨[(3,iV .i64 0)],[],0⟩)) ⟨[(3,iV .i64 0),(6,.im (.row (a0.map (Z2     .i64)))),(7,iV .i64 (a0.length:Int)),(8,iV .i64 x3187)],[],0⟩) ?_ _ _ e3197
  clear H e3197 o3196;intro self ih x3187 o3196 H
  subst hbody
  refine LWp.round ?_
  refine sO hP hn hm [] [(9,bV (decide (x3187<(a0.length:Int))))] [3,6,7,8,9] [] [] ?_
  refine AWp.seq ?_
  refine AWp.cond (decide (x3187<(a0.length:Int))) (by kernel_rfl) (fun c3188 => ?_) (fun c3188 => ?_)
  ·replace H:=iT c3188 H
   refine AWp.skip ?_
   refine AWp.seq ?_
   refine AWp.block ?_
   obtain⟨b3192,p3193,q3194,H⟩:=Z02 H
   refine sR hP hn hm [(0,.c ((Z2 .i64) b3192))] [(5,iV .i64 b3192)] [3,5,6,7,8] [] [] [_,_] ⟨p3193,Zi (Z2 .i64) q3194,trivial⟩ ?_
   refine sO hP hn hm [] [(14,bV (b3192 != (0:Int)))] [3,5,6,7,8,14] [] [] ?_
   refine AWp.cond (b3192 != (0:Int)) (by kernel_rfl) (fun c3195 => ?_) (fun c3195 => ?_)
   ·replace H:=iT c3195 H
    refine sO hP hn hm [] [(2,iV .i64 b3192)] [2] [] [] ?_
    refine AWp.conv (inv:=[]) (vk:=[]) (e0:=[]) (t:=⟨[(2,iV .i64 b3192)],[],0⟩) (by kernel_rfl) ?_
    refine AWp.ret ?_
    obtain rfl:=sj H
    exact rl rfl rfl (by kernel_rfl) (by kernel_rfl)
   ·replace H:=iF c3195 H
    refine AWp.skip ?_
    refine rO hP hn hm [] [(8,iV .i64 (i64.wrap (x3187+(1:Int))))] [3,6,7,8] [] [] ?_
    exact LWp.conv [] [] [] (by kernel_rfl) (ih _ _ H)
  ·replace H:=iF c3188 H
   refine AWp.exit ?_
   obtain rfl:=sj H
   exact lf [] [] [] (by kernel_rfl) ⟨rfl,rfl⟩
 ·rcases o3196 with rr | _
  ·skip
   rintro e s ⟨rfl,hfl,hres⟩
   obtain rfl:=sj H
   exact Exists.intro _ (And.intro (fun _ _ h=>h) (And.intro (.inl rfl) (And.intro hfl hres)))
  ·skip
   rintro e s ⟨rfl,rfl⟩
   refine sO hP hn hm [] [(2,iV .i64 0)] [2] [] [] ?_
   refine AWp.conv (inv:=[]) (vk:=[]) (e0:=[]) (t:=⟨[(2,iV .i64 0)],[],0⟩) (by kernel_rfl) ?_
   refine AWp.ret ?_
   obtain rfl:=sj H
   exact rl (.inl rfl) rfl (by kernel_rfl) (by kernel_rfl)
def Z0l.f (a0:Z5) (a1:Z5):Option (Int):=(Z27.f a0.f0 a1.f0)>>=fun t3200=>(Z27.f a0.f1 a1.f1)>>=fun t3202=>(Z3d.f [t3200,t3202])>>=fun t3204=>some t3204
theorem Z0l.ok (a0:Z5) (a1:Z5) (r:Int) (H:Z0l.f a0 a1=some r):Pv.Fn Tryz.prog 78 [.agg [iV .i64 a0.f0,iV .i64 a0.f1],.agg [iV .i64 a1.f0,iV .i64 a1.f1]] [] 0 (fun x o=>x=iV .i64 r∧o=[]):=by
 unfold Z0l.f at H
 refine Fn.bodyK [] Tryz.func78 rfl rfl (fun Γ hP hn => ?_)
 have hm:Tryz.prog.follows .mixedOrders=true:=by kernel_rfl
 replace hn:Γ.n=17:=hn
 refine sO hP hn hm [(0,.k 0),(1,.k 1)] [(2,.ptr 0 0 0),(3,.ptr 1 0 0)] [2,3] [(0,some (.box 92 (Z3w a0))),(1,some (.box 92 (Z3w a1)))] [0,1] ?_
 obtain⟨t3200,e3201,H⟩:=Z4 H
 obtain⟨t3202,e3203,H⟩:=Z4 H
 obtain⟨t3204,e3205,H⟩:=Z4 H
 refine sR hP hn hm [(4,.call [] [] [] [] 0 (iV .i64 t3200) []),(9,.call [] [] [] [] 0 (iV .i64 t3202) []),(10,.app 2 ([t3200,t3202].map (Z2 .i64))),(11,.call [] [] [2] [] 0 (iV .i64 t3204) [])] [(4,iV .i64 t3204)] [4] [] [] [_,_,_,_,[t3200,t3202].map (Z2 .i64)=[[iI .i64 t3200],[iI .i64 t3202]],_,_] ⟨Tryz.call80,Z27.ok a0.f0 a1.f0 t3200 e3201,Tryz.call80,Z27.ok a0.f1 a1.f1 t3202 e3203,by exact rfl,Tryz.call79,Z3d.ok [t3200,t3202] t3204 e3205,trivial⟩ ?_
 refine AWp.conv (inv:=[]) (vk:=[]) (e0:=[]) (t:=⟨[(4,iV .i64 t3204)],[],0⟩) (by kernel_rfl) ?_
 refine AWp.ret ?_
 obtain rfl:=sj H
 exact rl (.inl rfl) rfl (by kernel_rfl) (by kernel_rfl)
def Zk.l1 (a1:Int) (a2:Int) (x3279:Int) (x3319:List Z5) (x3320:Int):Option (List Z5):=((if(decide (x3320>a1))=true then((at? x3319 x3320)>>=fun b3331=>(at? x3319 (i64.wrap (x3320-(1:Int))))>>=fun b3334=>(Z0l.f b3331 b3334)>>=fun t3337=>some (decide (t3337<(0:Int)))) else(some false)):Option (Bool))>>=fun x3339=>if x3339=true then((at? x3319 (i64.wrap (x3320-(1:Int))))>>=fun b3350=>(at? x3319 x3320)>>=fun b3353=>(at? (x3319.set (Int.toNat (x3320)) b3350) (i64.wrap (x3320-(1:Int))))>>=fun b3356=>Zk.l1 a1 a2 x3279 ((x3319.set (Int.toNat (x3320)) b3350).set (Int.toNat (i64.wrap (x3320-(1:Int)))) b3353) (i64.wrap (x3320-(1:Int)))) else(some x3319)
partial_fixpoint
def Zk.l0 (a1:Int) (a2:Int) (x3278:List Z5) (x3279:Int):Option (List Z5):=if(decide (x3279<a2))=true then((Zk.l1 a1 a2 x3279 x3278 x3279)>>=fun x3359=>Zk.l0 a1 a2 x3359 (i64.wrap (x3279+(1:Int)))) else(some x3278)
partial_fixpoint
def Zk.f (a0:List Z5) (a1:Int) (a2:Int):Option (List Z5):=(Zk.l0 a1 a2 a0 (i64.wrap (a1+(1:Int))))>>=fun x3360=>some x3360
theorem Zk.ok (a0:List Z5) (a1:Int) (a2:Int) (r:List Z5) (H:Zk.f a0 a1 a2=some r):Pv.Fn Tryz.prog 138 [.own 0,iV .i64 a1,iV .i64 a2,.im (.sc (.func (.func 78) #[] #[]))] [(0,some (.row 2 92 (a0.map Z0)))] 1 (fun x o=>x = .tup []∧o=[(0,some (.row 2 92 (r.map Z0)))]):=by
 unfold Zk.f at H
 refine Fn.bodyK [0] Tryz.func138 rfl rfl (fun Γ hP hn => ?_)
 have hm:Tryz.prog.follows .mixedOrders=true:=by kernel_rfl
 replace hn:Γ.n=53:=hn
 refine sO hP hn hm [] [(8,iV .i64 (i64.wrap (a1+(1:Int))))] [0,1,2,3,8] [] [0] ?_
 refine AWp.block ?_
 obtain⟨o3361,e3362,H⟩:=Z4 H
 refine AWp.loop (LWp.conv (inv:=[(0,0)]) (vk:=[]) (e0:=[]) (t:=⟨[(0,.own 0),(1,iV .i64 a1),(2,iV .i64 a2),(3,.im (.sc (.func (.func 78) #[] #[]))),(8,iV .i64 (i64.wrap (a1+(1:Int))))],[(0,some (.row 2 92 (a0.map Z0)))],1⟩) (by kernel_rfl) ?_)
 refine LWp.mono (Q:=fun e s=>(match (generalizing:=false) o3361 with | x3360=>e = .exit 0∧s=⟨[],[(0,some (.row 2 92 (x3360.map Z0)))],1⟩)) (LWp.cv (Zs (fun body hbody => ?_))) ?_
 ·refine                                                 Zk.l0.partial_correctness a1 a2 (motive:=fun x3278 x3279 o3361=>LWp Γ body (fun e s=>∃ t,Cv Γ s t∧(match (generalizing:=false) o3361 with | x3360=>e = .exit 0∧t=⟨[],[(0,some (.row 2 92 (x3360.map Z0         )))],1⟩)) ⟨[(0,.own 0),(1,iV .i64 a1),(2,iV .i64 a2),(3,.im (.sc (.func (.func 78) #[] #[]))),(8,iV .i64 x3279)],[(0,some (.row 2 92 (x3278.map Z0         )))],1⟩) ?_ _ _ _ e3362
  clear H e3362 o3361;intro self ih x3278 x3279 o3361 H
  subst hbody
  refine LWp.round ?_
  refine AWp.seq ?_
  refine sO hP hn hm [] [(14,bV (decide (x3279<a2)))] [0,1,2,3,8,14] [] [0] ?_
  refine AWp.cond (decide (x3279<a2)) (by kernel_rfl) (fun c3280 => ?_) (fun c3280 => ?_)
  ·replace H:=iT c3280 H
   refine AWp.skip ?_
   refine AWp.seq ?_
   refine AWp.block ?_
   refine sO hP hn hm [] [(9,iV .i64 x3279)] [0,1,2,3,8,9] [] [0] ?_
   refine AWp.block ?_
   obtain⟨o3363,e3364,H⟩:=Z4 H
   refine AWp.loop (LWp.conv (inv:=[(0,0)]) (vk:=[]) (e0:=[]) (t:=⟨[(0,.own 0),(1,iV .i64 a1),(2,iV .i64 a2),(3,.im (.sc (.func (.func 78) #[] #[]))),(8,iV .i64 x3279),(9,iV .i64 x3279)],[(0,some (.row 2 92 (x3278.map Z0)))],1⟩) (by kernel_rfl) ?_)
   refine LWp.mono (Q:=fun e s=>(match (generalizing:=false) o3363 with | x3359=>e = .exit 2∧s=⟨[(0,.own 0),(1,iV .i64 a1),(2,iV .i64 a2),(3,.im (.sc (.func (.func 78) #[] #[]))),(8,iV .i64 x3279)],[(0,some (.row 2 92 (x3359.map Z0)))],1⟩)) (LWp.cv (Zs (fun body hbody => ?_))) ?_
   ·refine                                                 Zk.l1.partial_correctness a1 a2 x3279 (motive:=fun x3319 x3320 o3363=>LWp Γ body (fun e s=>∃ t,Cv Γ s t∧(match (generalizing:=false) o3363 with | x3359=>e = .exit 2∧t=⟨[(0,.own 0),(1,iV .i64 a1),(2,iV .i64 a2),(3,.im (.sc (.func (.func 78) #[] #[]))),(8,iV .i64 x3279)],[(0,some (.row 2 92 (x3359.map Z0         )))],1⟩)) ⟨[(0,.own 0),(1,iV .i64 a1),(2,iV .i64 a2),(3,.im (.sc (.func (.func 78) #[] #[]))),(8,iV .i64 x3279),(9,iV .i64 x3320)],[(0,some (.row 2 92 (x3319.map Z0         )))],1⟩) ?_ _ _ _ e3364
    clear H e3364 o3363;intro self ih x3319 x3320 o3363 H
    subst hbody
    refine LWp.round ?_
    refine AWp.seq ?_
    refine AWp.seq ?_
    obtain⟨o3365,e3366,H⟩:=Z4 H
    refine AWp.mono (Q:=fun e s=>(match (generalizing:=false) o3365 with | x3339=>e = .normal∧s=⟨[(0,.own 0),(1,iV .i64 a1),(2,iV .i64 a2),(3,.im (.sc (.func (.func 78) #[] #[]))),(8,iV .i64 x3279),(9,iV .i64 x3320),(34,bV x3339)],[(0,some (.row 2 92 (x3319.map Z0)))],1⟩)) (AWp.cv ?_) ?_
    ·replace H:=e3366;clear e3366
     rcases Bool.eq_false_or_eq_true (decide (x3320>a1)) with c3330 | c3330
     ·replace H:=iT c3330 H
      obtain⟨b3331,p3332,q3333,H⟩:=Z02 H
      obtain⟨b3334,p3335,q3336,H⟩:=Z02 H
      obtain⟨t3337,e3338,H⟩:=Z4 H
      refine rG hP hn hm [(3,.b true),(8,.c (Z0 b3331)),(13,.c (Z0 b3334)),(14,.call [] [] [] [] 0 (iV .i64 t3337) [])] [(22,.im (.sc (.func (.func 78) #[] #[]))),(23,.own 0),(24,iV .i64 x3320),(25,.ptr 0 (Int.toNat (x3320)) 0),(26,.agg [iV .i64 b3331.f0,iV .i64 b3331.f1]),(27,.own 0),(28,iV .i64 x3320),(29,iV .i64 (i64.wrap (x3320-(1:Int)))),(30,.ptr 0 (Int.toNat (i64.wrap (x3320-(1:Int)))) 0),(31,.agg [iV .i64 b3334.f0,iV .i64 b3334.f1]),(32,iV .i64 t3337),(33,bV (decide (t3337<(0:Int)))),(34,bV (decide (t3337<(0:Int))))] [0,1,2,3,8,9,22,23,24,25,26,27,28,29,30,31,32,33,34] [] [0] [_,_,_,_,_,_,_,_,_] ⟨c3330,p3332,Z09 Z0 p3332 q3333,Zi Z0 q3333,p3335,Z09 Z0 p3335 q3336,Zi Z0 q3336,Tryz.call78,Z0l.ok b3331 b3334 t3337 e3338,trivial⟩ ?_
      obtain rfl:=sj H
      exact lf [(0,0)] [] [] (by kernel_rfl) ⟨rfl,rfl⟩
     ·replace H:=iF c3330 H
      refine rG hP hn hm [(3,.b false)] [(34,bV false)] [0,1,2,3,8,9,34] [] [0] [_] ⟨c3330,trivial⟩ ?_
      obtain rfl:=sj H
      exact lf [(0,0)] [] [] (by kernel_rfl) ⟨rfl,rfl⟩
    ·obtain⟨x3339,rfl⟩:∃ z,z=o3365:=⟨_,rfl⟩
     rintro e s ⟨rfl,rfl⟩
     refine AWp.cond x3339 (by kernel_rfl) (fun c3340 => ?_) (fun c3340 => ?_)
     ·replace H:=iT c3340 H
      refine AWp.skip ?_
      refine AWp.seq ?_
      refine AWp.block ?_
      obtain⟨b3350,p3351,q3352,H⟩:=Z02 H
      obtain⟨b3353,p3354,q3355,H⟩:=Z02 H
      obtain⟨b3356,p3357,q3358,H⟩:=Z02 H
      refine rG hP hn hm [(9,.c (Z0 b3350)),(13,.c (Z0 b3353)),(15,.put (Z0 b3353) ((x3319.set (Int.toNat (x3320)) b3350).map Z0)),(17,.put (Z0 b3356) (((x3319.set (Int.toNat (x3320)) b3350).set (Int.toNat (i64.wrap (x3320-(1:Int)))) b3353).map Z0))] [] [0,1,2,3,8,9] [(0,some (.row 2 92 (((x3319.set (Int.toNat (x3320)) b3350).set (Int.toNat (i64.wrap (x3320-(1:Int)))) b3353).map Z0)))] [0] [_,_,_,_,_,_,_,_,_,(x3319.set (Int.toNat (x3320)) b3350).map Z0=(x3319.map Z0).set (Int.toNat (x3320)) (Z0t (Z0 b3353) 0 [iI .i64 b3350.f0,iI .i64 b3350.f1]),_,_,_,((x3319.set (Int.toNat (x3320)) b3350).set (Int.toNat (i64.wrap (x3320-(1:Int)))) b3353).map Z0=((x3319.set (Int.toNat (x3320)) b3350).map Z0).set (Int.toNat (i64.wrap (x3320-(1:Int)))) (Z0t (Z0 b3356) 0 [iI .i64 b3353.f0,iI .i64 b3353.f1])] ⟨p3351,Z09 Z0 p3351 q3352,Zi Z0 q3352,p3354,Z09 Z0 p3354 q3355,Zi Z0 q3355,p3354,Z09 Z0 p3354 q3355,Zi Z0 q3355,by exact set1 _ _ _ _,p3357,Z09 Z0 p3357 q3358,Zi Z0 q3358,by exact set1 _ _ _ _,trivial⟩ ?_
      refine rO hP hn hm [] [(9,iV .i64 (i64.wrap (x3320-(1:Int))))] [0,1,2,3,8,9] [] [0] ?_
      exact LWp.conv [(0,0)] [] [] (by kernel_rfl) (ih _ _ _ H)
     ·replace H:=iF c3340 H
      refine AWp.exit ?_
      obtain rfl:=sj H
      exact lf [(0,0)] [] [] (by kernel_rfl) ⟨rfl,rfl⟩
   ·obtain⟨x3359,rfl⟩:∃ z,z=o3363:=⟨_,rfl⟩
    rintro e s ⟨rfl,rfl⟩
    refine rO hP hn hm [] [(8,iV .i64 (i64.wrap (x3279+(1:Int))))] [0,1,2,3,8] [] [0] ?_
    exact LWp.conv [(0,0)] [] [] (by kernel_rfl) (ih _ _ _ H)
  ·replace H:=iF c3280 H
   refine AWp.exit ?_
   obtain rfl:=sj H
   exact lf [(0,0)] [] [] (by kernel_rfl) ⟨rfl,rfl⟩
 ·obtain⟨x3360,rfl⟩:∃ z,z=o3361:=⟨_,rfl⟩
  rintro e s ⟨rfl,rfl⟩
  obtain rfl:=sj H
  exact Exists.intro ⟨[],[(0,some (.row 2 92 (x3360.map Z0)))],1⟩ (And.intro (fun _ _ h=>h.conv (inv:=[(0,0)]) (vk:=[]) (e0:=[]) (t:=⟨[],[(0,some (.row 2 92 (x3360.map Z0)))],1⟩) (by kernel_rfl)) (And.intro (.inr rfl) (And.intro rfl (And.intro (by kernel_rfl) (by kernel_rfl)))))
def Zq.l0 (a2:Int) (a3:Int) (x3418:List Z5) (x3419:Int):Option ((List Z5) ⊕ (List Z5)):=if(decide ((i64.wrap ((i64.wrap ((2:Int)*x3419))+(1:Int)))≥a2))=true then(some (.inr x3418)) else(((if(decide ((i64.wrap ((i64.wrap ((i64.wrap ((2:Int)*x3419))+(1:Int)))+(1:Int)))<a2))=true then((at? x3418 (i64.wrap (a3+(i64.wrap ((i64.wrap ((2:Int)*x3419))+(1:Int))))))>>=fun b3431=>(at? x3418 (i64.wrap ((i64.wrap (a3+(i64.wrap ((i64.wrap ((2:Int)*x3419))+(1:Int)))))+(1:Int))))>>=fun b3434=>(Z0l.f b3431 b3434)>>=fun t3437=>some (decide (t3437<(0:Int)))) else(some false)):Option (Bool))>>=fun x3439=>((if x3439=true then(some (i64.wrap ((i64.wrap ((i64.wrap ((2:Int)*x3419))+(1:Int)))+(1:Int)))) else(some (i64.wrap ((i64.wrap ((2:Int)*x3419))+(1:Int))))):Option (Int))>>=fun x3441=>(at? x3418 (i64.wrap (a3+x3419)))>>=fun b3450=>(at? x3418 (i64.wrap (a3+x3441)))>>=fun b3453=>(Z0l.f b3450 b3453)>>=fun t3456=>if(!(decide (t3456<(0:Int))))=true then(some (.inl x3418)) else((at? (x3418.set (Int.toNat (i64.wrap (a3+x3419))) b3453) (i64.wrap (a3+x3441)))>>=fun b3462=>Zq.l0 a2 a3 ((x3418.set (Int.toNat (i64.wrap (a3+x3419))) b3453).set (Int.toNat (i64.wrap (a3+x3441))) b3450) x3441))
partial_fixpoint
def Zq.f (a0:List Z5) (a1:Int) (a2:Int) (a3:Int):Option (List Z5):=(Zq.l0 a2 a3 a0 a1)>>=fun oo=>match oo with | .inl rr=>(some rr) | .inr x3465=>(some x3465)
theorem Zq.ok (a0:List Z5) (a1:Int) (a2:Int) (a3:Int) (r:List Z5) (H:Zq.f a0 a1 a2 a3=some r):Pv.Fn Tryz.prog 166 [.own 0,iV .i64 a1,iV .i64 a2,iV .i64 a3,.im (.sc (.func (.func 78) #[] #[]))] [(0,some (.row 2 92 (a0.map Z0)))] 1 (fun x o=>x = .tup []∧o=[(0,some (.row 2 92 (r.map Z0)))]):=by
 unfold Zq.f at H
 refine Fn.bodyK [0] Tryz.func166 rfl rfl (fun Γ hP hn => ?_)
 have hm:Tryz.prog.follows .mixedOrders=true:=by kernel_rfl
 replace hn:Γ.n=82:=hn
 refine sO hP hn hm [] [(10,iV .i64 a1)] [0,2,3,4,10] [] [0] ?_
 refine AWp.block ?_
 obtain⟨o3466,e3467,H⟩:=Z4 H
 refine AWp.loop (LWp.conv (inv:=[(0,0)]) (vk:=[]) (e0:=[]) (t:=⟨[(0,.own 0),(2,iV .i64 a2),(3,iV .i64 a3),(4,.im (.sc (.func (.func 78) #[] #[]))),(10,iV .i64 a1)],[(0,some (.row 2 92 (a0.map Z0)))],1⟩) (by kernel_rfl) ?_)
 refine LWp.mono (Q:=fun e s=>(match (generalizing:=false) o3466 with | .inl rr=>e = .ret∧s.floor=1∧Z1y Tryz.prog Tryz.f166 s=some (.tup [])∧([(0,s.obj 0)]:List (Nat×Option MObj))=[(0,some (.row 2 92 (rr.map Z0)))] | .inr x3465=>e = .exit 0∧s=⟨[],[(0,some (.row 2 92 (x3465.map Z0)))],1⟩)) (LWp.cv (Zs (fun body hbody => ?_))) ?_
 ·refine                                            Zq.l0.partial_correctness a2 a3 (motive:=fun x3418 x3419 o3466=>LWp Γ body (fun e s=>∃ t,Cv Γ s t∧(match (generalizing:=false) o3466 with | .inl rr=>e = .ret∧t.floor=1∧Z1y   Tryz.prog Tryz.f166 t=some (.tup [])∧([(0,t.obj 0)]:List (Nat×Option MObj))=[(0,some (.row 2 92 (rr.map Z0         )))] | .inr x3465=>e = .exit 0∧t=⟨[],[(0,some (.row 2 92 (x3465.map Z0         )))],1⟩)) ⟨[(0,.own 0),(2,iV .i64 a2),(3,iV .i64 a3),(4,.im (.sc (.func (.func 78) #[] #[]))),(10,iV .i64 x3419)],[(0,some (.row 2 92 (x3418.map Z0         )))],1⟩) ?_ _ _ _ e3467
  clear H e3467 o3466;intro self ih x3418 x3419 o3466 H
  subst hbody
  refine LWp.round ?_
  refine AWp.block ?_
  refine sO hP hn hm [] [(11,iV .i64 (i64.wrap ((i64.wrap ((2:Int)*x3419))+(1:Int))))] [0,2,3,4,10,11] [] [0] ?_
  refine AWp.seq ?_
  refine sO hP hn hm [] [(18,bV (decide ((i64.wrap ((i64.wrap ((2:Int)*x3419))+(1:Int)))≥a2)))] [0,2,3,4,10,11,18] [] [0] ?_
  refine AWp.cond (decide ((i64.wrap ((i64.wrap ((2:Int)*x3419))+(1:Int)))≥a2)) (by kernel_rfl) (fun c3420 => ?_) (fun c3420 => ?_)
  ·replace H:=iT c3420 H
   refine AWp.exit ?_
   obtain rfl:=sj H
   exact lf [(0,0)] [] [] (by kernel_rfl) ⟨rfl,rfl⟩
  ·replace H:=iF c3420 H
   refine AWp.skip ?_
   refine AWp.seq ?_
   refine AWp.seq ?_
   obtain⟨o3468,e3469,H⟩:=Z4 H
   refine AWp.mono (Q:=fun e s=>(match (generalizing:=false) o3468 with | x3439=>e = .normal∧s=⟨[(0,.own 0),(2,iV .i64 a2),(3,iV .i64 a3),(4,.im (.sc (.func (.func 78) #[] #[]))),(10,iV .i64 x3419),(11,iV .i64 (i64.wrap ((i64.wrap ((2:Int)*x3419))+(1:Int)))),(40,bV x3439)],[(0,some (.row 2 92 (x3418.map Z0)))],1⟩)) (AWp.cv ?_) ?_
   ·replace H:=e3469;clear e3469
    rcases Bool.eq_false_or_eq_true (decide ((i64.wrap ((i64.wrap ((i64.wrap ((2:Int)*x3419))+(1:Int)))+(1:Int)))<a2)) with c3430 | c3430
    ·replace H:=iT c3430 H
     obtain⟨b3431,p3432,q3433,H⟩:=Z02 H
     obtain⟨b3434,p3435,q3436,H⟩:=Z02 H
     obtain⟨t3437,e3438,H⟩:=Z4 H
     refine rG hP hn hm [(4,.b true),(11,.c (Z0 b3431)),(18,.c (Z0 b3434)),(19,.call [] [] [] [] 0 (iV .i64 t3437) [])] [(24,.im (.sc (.func (.func 78) #[] #[]))),(25,.own 0),(26,iV .i64 a3),(27,iV .i64 (i64.wrap ((i64.wrap ((2:Int)*x3419))+(1:Int)))),(28,iV .i64 (i64.wrap (a3+(i64.wrap ((i64.wrap ((2:Int)*x3419))+(1:Int)))))),(29,.ptr 0 (Int.toNat (i64.wrap (a3+(i64.wrap ((i64.wrap ((2:Int)*x3419))+(1:Int)))))) 0),(30,.agg [iV .i64 b3431.f0,iV .i64 b3431.f1]),(31,.own 0),(32,iV .i64 a3),(33,iV .i64 (i64.wrap ((i64.wrap ((2:Int)*x3419))+(1:Int)))),(34,iV .i64 (i64.wrap (a3+(i64.wrap ((i64.wrap ((2:Int)*x3419))+(1:Int)))))),(35,iV .i64 (i64.wrap ((i64.wrap (a3+(i64.wrap ((i64.wrap ((2:Int)*x3419))+(1:Int)))))+(1:Int)))),(36,.ptr 0 (Int.toNat (i64.wrap ((i64.wrap (a3+(i64.wrap ((i64.wrap ((2:Int)*x3419))+(1:Int)))))+(1:Int)))) 0),(37,.agg [iV .i64 b3434.f0,iV .i64 b3434.f1]),(38,iV .i64 t3437),(39,bV (decide (t3437<(0:Int)))),(40,bV (decide (t3437<(0:Int))))] [0,2,3,4,10,11,24,25,26,27,28,29,30,31,32,33,34,35,36,37,38,39,40] [] [0] [_,_,_,_,_,_,_,_,_] ⟨c3430,p3432,Z09 Z0 p3432 q3433,Zi Z0 q3433,p3435,Z09 Z0 p3435 q3436,Zi Z0 q3436,Tryz.call78,Z0l.ok b3431 b3434 t3437 e3438,trivial⟩ ?_
     obtain rfl:=sj H
     exact lf [(0,0)] [] [] (by kernel_rfl) ⟨rfl,rfl⟩
    ·replace H:=iF c3430 H
     refine rG hP hn hm [(4,.b false)] [(40,bV false)] [0,2,3,4,10,11,40] [] [0] [_] ⟨c3430,trivial⟩ ?_
     obtain rfl:=sj H
     exact lf [(0,0)] [] [] (by kernel_rfl) ⟨rfl,rfl⟩
   ·obtain⟨x3439,rfl⟩:∃ z,z=o3468:=⟨_,rfl⟩
    rintro e s ⟨rfl,rfl⟩
    obtain⟨o3470,e3471,H⟩:=Z4 H
    refine AWp.mono (Q:=fun e s=>(match (generalizing:=false) o3470 with | x3441=>e = .normal∧s=⟨[(0,.own 0),(2,iV .i64 a2),(3,iV .i64 a3),(4,.im (.sc (.func (.func 78) #[] #[]))),(10,iV .i64 x3419),(11,iV .i64 x3441)],[(0,some (.row 2 92 (x3418.map Z0)))],1⟩)) (AWp.cv ?_) ?_
    ·replace H:=e3471;clear e3471
     refine AWp.cond x3439 (by kernel_rfl) (fun c3440 => ?_) (fun c3440 => ?_)
     ·replace H:=iT c3440 H
      refine rO hP hn hm [] [(11,iV .i64 (i64.wrap ((i64.wrap ((i64.wrap ((2:Int)*x3419))+(1:Int)))+(1:Int))))] [0,2,3,4,10,11] [] [0] ?_
      obtain rfl:=sj H
      exact lf [(0,0)] [] [] (by kernel_rfl) ⟨rfl,rfl⟩
     ·replace H:=iF c3440 H
      refine AWp.skip ?_
      obtain rfl:=sj H
      exact lf [(0,0)] [] [] (by kernel_rfl) ⟨rfl,rfl⟩
    ·obtain⟨x3441,rfl⟩:∃ z,z=o3470:=⟨_,rfl⟩
     rintro e s ⟨rfl,rfl⟩
     refine AWp.seq ?_
     obtain⟨b3450,p3451,q3452,H⟩:=Z02 H
     obtain⟨b3453,p3454,q3455,H⟩:=Z02 H
     obtain⟨t3456,e3457,H⟩:=Z4 H
     refine sR hP hn hm [(6,.c (Z0 b3450)),(12,.c (Z0 b3453)),(13,.call [] [] [] [] 0 (iV .i64 t3456) [])] [(58,bV (!(decide (t3456<(0:Int)))))] [0,2,3,4,10,11,58] [] [0] [_,_,_,_,_,_,_,_] ⟨p3451,Z09 Z0 p3451 q3452,Zi Z0 q3452,p3454,Z09 Z0 p3454 q3455,Zi Z0 q3455,Tryz.call78,Z0l.ok b3450 b3453 t3456 e3457,trivial⟩ ?_
     refine AWp.cond (!(decide (t3456<(0:Int)))) (by kernel_rfl) (fun c3458 => ?_) (fun c3458 => ?_)
     ·replace H:=iT c3458 H
      refine AWp.conv (inv:=[(0,0)]) (vk:=[]) (e0:=[]) (t:=⟨[],[(0,some (.row 2 92 (x3418.map Z0)))],1⟩) (by kernel_rfl) ?_
      refine AWp.ret ?_
      obtain rfl:=sj H
      exact rl rfl rfl (by kernel_rfl) (by kernel_rfl)
     ·replace H:=iF c3458 H
      refine AWp.skip ?_
      obtain⟨b3462,p3463,q3464,H⟩:=Z02 H
      refine sR hP hn hm [(13,.c (Z0 b3453)),(19,.c (Z0 b3450)),(21,.put (Z0 b3450) ((x3418.set (Int.toNat (i64.wrap (a3+x3419))) b3453).map Z0)),(23,.put (Z0 b3462) (((x3418.set (Int.toNat (i64.wrap (a3+x3419))) b3453).set (Int.toNat (i64.wrap (a3+x3441))) b3450).map Z0))] [] [0,2,3,4,11] [(0,some (.row 2 92 (((x3418.set (Int.toNat (i64.wrap (a3+x3419))) b3453).set (Int.toNat (i64.wrap (a3+x3441))) b3450).map Z0)))] [0] [_,_,_,_,_,_,_,_,_,(x3418.set (Int.toNat (i64.wrap (a3+x3419))) b3453).map Z0=(x3418.map Z0).set (Int.toNat (i64.wrap (a3+x3419))) (Z0t (Z0 b3450) 0 [iI .i64 b3453.f0,iI .i64 b3453.f1]),_,_,_,((x3418.set (Int.toNat (i64.wrap (a3+x3419))) b3453).set (Int.toNat (i64.wrap (a3+x3441))) b3450).map Z0=((x3418.set (Int.toNat (i64.wrap (a3+x3419))) b3453).map Z0).set (Int.toNat (i64.wrap (a3+x3441))) (Z0t (Z0 b3462) 0 [iI .i64 b3450.f0,iI .i64 b3450.f1])] ⟨p3454,Z09 Z0 p3454 q3455,Zi Z0 q3455,p3451,Z09 Z0 p3451 q3452,Zi Z0 q3452,p3451,Z09 Z0 p3451 q3452,Zi Z0 q3452,by exact set1 _ _ _ _,p3463,Z09 Z0 p3463 q3464,Zi Z0 q3464,by exact set1 _ _ _ _,trivial⟩ ?_
      refine rO hP hn hm [] [(10,iV .i64 x3441)] [0,2,3,4,10] [] [0] ?_
      exact LWp.conv [(0,0)] [] [] (by kernel_rfl) (ih _ _ _ H)
 ·rcases o3466 with rr | x3465
  ·skip
   rintro e s ⟨rfl,hfl,hres⟩
   obtain rfl:=sj H
   exact Exists.intro _ (And.intro (fun _ _ h=>h) (And.intro (.inl rfl) (And.intro hfl hres)))
  ·skip
   rintro e s ⟨rfl,rfl⟩
   obtain rfl:=sj H
   exact Exists.intro ⟨[],[(0,some (.row 2 92 (x3465.map Z0)))],1⟩ (And.intro (fun _ _ h=>h.conv (inv:=[(0,0)]) (vk:=[]) (e0:=[]) (t:=⟨[],[(0,some (.row 2 92 (x3465.map Z0)))],1⟩) (by kernel_rfl)) (And.intro (.inr rfl) (And.intro rfl (And.intro (by kernel_rfl) (by kernel_rfl)))))
def Zn.l0 (a1:Int) (a2:Int) (x3476:List Z5) (x3477:Int):Option (List Z5):=if(decide (x3477≥(0:Int)))=true then((Zq.f x3476 x3477 (i64.wrap (a2-a1)) a1)>>=fun t3481=>Zn.l0 a1 a2 t3481 (i64.wrap (x3477-(1:Int)))) else(some x3476)
partial_fixpoint
def Zn.l1 (a1:Int) (x3507:List Z5) (x3508:Int):Option (List Z5):=if(decide (x3508≥(0:Int)))=true then((at? x3507 (i64.wrap (a1+x3508)))>>=fun b3519=>(at? x3507 a1)>>=fun b3522=>(at? (x3507.set (Int.toNat (a1)) b3519) (i64.wrap (a1+x3508)))>>=fun b3525=>(Zq.f ((x3507.set (Int.toNat (a1)) b3519).set (Int.toNat (i64.wrap (a1+x3508))) b3522) 0 x3508 a1)>>=fun t3530=>Zn.l1 a1 t3530 (i64.wrap (x3508-(1:Int)))) else(some x3507)
partial_fixpoint
def Zn.f (a0:List Z5) (a1:Int) (a2:Int):Option (List Z5):=(Zn.l0 a1 a2 a0 (i64.wrap (Int.tdiv (i64.wrap ((i64.wrap (a2-a1))-(1:Int))) (2:Int))))>>=fun x3483=>(Zn.l1 a1 x3483 (i64.wrap ((i64.wrap (a2-a1))-(1:Int))))>>=fun x3532=>some x3532
theorem Zn.ok (a0:List Z5) (a1:Int) (a2:Int) (r:List Z5) (H:Zn.f a0 a1 a2=some r):Pv.Fn Tryz.prog 139 [.own 0,iV .i64 a1,iV .i64 a2,.im (.sc (.func (.func 78) #[] #[]))] [(0,some (.row 2 92 (a0.map Z0)))] 1 (fun x o=>x = .tup []∧o=[(0,some (.row 2 92 (r.map Z0)))]):=by
 unfold Zn.f at H
 refine Fn.bodyK [0] Tryz.func139 rfl rfl (fun Γ hP hn => ?_)
 have hm:Tryz.prog.follows .mixedOrders=true:=by kernel_rfl
 replace hn:Γ.n=60:=hn
 refine sO hP hn hm [] [(8,iV .i64 a1)] [0,1,2,3,8] [] [0] ?_
 refine sO hP hn hm [] [(9,iV .i64 0)] [0,1,2,3,8,9] [] [0] ?_
 refine sO hP hn hm [] [(10,iV .i64 (i64.wrap (a2-a1)))] [0,3,8,9,10] [] [0] ?_
 refine AWp.seq ?_
 refine sR hP hn hm [] [(11,iV .i64 (i64.wrap (Int.tdiv (i64.wrap ((i64.wrap (a2-a1))-(1:Int))) (2:Int))))] [0,3,8,9,10,11] [] [0] [(2:Int)≠0] ⟨by decide,trivial⟩ ?_
 refine AWp.block ?_
 obtain⟨o3533,e3534,H⟩:=Z4 H
 refine AWp.loop (LWp.conv (inv:=[(0,0)]) (vk:=[]) (e0:=[]) (t:=⟨[(0,.own 0),(3,.im (.sc (.func (.func 78) #[] #[]))),(8,iV .i64 a1),(9,iV .i64 0),(10,iV .i64 (i64.wrap (a2-a1))),(11,iV .i64 (i64.wrap (Int.tdiv (i64.wrap ((i64.wrap (a2-a1))-(1:Int))) (2:Int))))],[(0,some (.row 2 92 (a0.map Z0)))],1⟩) (by kernel_rfl) ?_)
 refine LWp.mono (Q:=fun e s=>(match (generalizing:=false) o3533 with | x3483=>e = .exit 0∧s=⟨[(0,.own 0),(3,.im (.sc (.func (.func 78) #[] #[]))),(8,iV .i64 a1),(9,iV .i64 0),(10,iV .i64 (i64.wrap (a2-a1)))],[(0,some (.row 2 92 (x3483.map Z0)))],1⟩)) (LWp.cv (Zs (fun body hbody => ?_))) ?_
 ·refine                                            Zn.l0.partial_correctness a1 a2 (motive:=fun x3476 x3477 o3533=>LWp Γ body (fun e s=>∃ t,Cv Γ s t∧(match (generalizing:=false) o3533 with | x3483=>e = .exit 0∧t=⟨[(0,.own 0),(3,.im (.sc (.func (.func 78) #[] #[]))),(8,iV .i64 a1),(9,iV .i64 0),(10,iV .i64 (i64.wrap (a2-a1)))],[(0,some (.row 2 92 (x3483.map Z0         )))],1⟩)) ⟨[(0,.own 0),(3,.im (.sc (.func (.func 78) #[] #[]))),(8,iV .i64 a1),(9,iV .i64 0),(10,iV .i64 (i64.wrap (a2-a1))),(11,iV .i64 x3477)],[(0,some (.row 2 92 (x3476.map Z0         )))],1⟩) ?_ _ _ _ e3534
  clear H e3534 o3533;intro self ih x3476 x3477 o3533 H
  subst hbody
  refine LWp.round ?_
  refine AWp.seq ?_
  refine sO hP hn hm [] [(21,bV (decide (x3477≥(0:Int))))] [0,3,8,9,10,11,21] [] [0] ?_
  refine AWp.cond (decide (x3477≥(0:Int))) (by kernel_rfl) (fun c3478 => ?_) (fun c3478 => ?_)
  ·replace H:=iT c3478 H
   refine AWp.skip ?_
   refine AWp.seq ?_
   refine AWp.block ?_
   obtain⟨t3481,e3482,H⟩:=Z4 H
   refine rG hP hn hm [(5,.call [(0,0)] [(0,0)] [] [] 1 (.tup []) [(0,some (.row 2 92 (t3481.map Z0)))])] [] [0,3,8,9,10,11] [(0,some (.row 2 92 (t3481.map Z0)))] [0] [_,_] ⟨Tryz.call166,Zq.ok x3476 x3477 (i64.wrap (a2-a1)) a1 t3481 e3482,trivial⟩ ?_
   refine rO hP hn hm [] [(11,iV .i64 (i64.wrap (x3477-(1:Int))))] [0,3,8,9,10,11] [] [0] ?_
   exact LWp.conv [(0,0)] [] [] (by kernel_rfl) (ih _ _ _ H)
  ·replace H:=iF c3478 H
   refine AWp.exit ?_
   obtain rfl:=sj H
   exact lf [(0,0)] [] [] (by kernel_rfl) ⟨rfl,rfl⟩
 ·obtain⟨x3483,rfl⟩:∃ z,z=o3533:=⟨_,rfl⟩
  rintro e s ⟨rfl,rfl⟩
  refine sO hP hn hm [] [(12,iV .i64 (i64.wrap ((i64.wrap (a2-a1))-(1:Int))))] [0,3,8,9,12] [] [0] ?_
  refine AWp.block ?_
  obtain⟨o3535,e3536,H⟩:=Z4 H
  refine AWp.loop (LWp.conv (inv:=[(0,0)]) (vk:=[]) (e0:=[]) (t:=⟨[(0,.own 0),(3,.im (.sc (.func (.func 78) #[] #[]))),(8,iV .i64 a1),(9,iV .i64 0),(12,iV .i64 (i64.wrap ((i64.wrap (a2-a1))-(1:Int))))],[(0,some (.row 2 92 (x3483.map Z0)))],1⟩) (by kernel_rfl) ?_)
  refine LWp.mono (Q:=fun e s=>(match (generalizing:=false) o3535 with | x3532=>e = .exit 2∧s=⟨[],[(0,some (.row 2 92 (x3532.map Z0)))],1⟩)) (LWp.cv (Zs (fun body hbody => ?_))) ?_
  ·refine                                            Zn.l1.partial_correctness a1 (motive:=fun x3507 x3508 o3535=>LWp Γ body (fun e s=>∃ t,Cv Γ s t∧(match (generalizing:=false) o3535 with | x3532=>e = .exit 2∧t=⟨[],[(0,some (.row 2 92 (x3532.map Z0         )))],1⟩)) ⟨[(0,.own 0),(3,.im (.sc (.func (.func 78) #[] #[]))),(8,iV .i64 a1),(9,iV .i64 0),(12,iV .i64 x3508)],[(0,some (.row 2 92 (x3507.map Z0         )))],1⟩) ?_ _ _ _ e3536
   clear H e3536 o3535;intro self ih x3507 x3508 o3535 H
   subst hbody
   refine LWp.round ?_
   refine AWp.seq ?_
   refine sO hP hn hm [] [(33,bV (decide (x3508≥(0:Int))))] [0,3,8,9,12,33] [] [0] ?_
   refine AWp.cond (decide (x3508≥(0:Int))) (by kernel_rfl) (fun c3509 => ?_) (fun c3509 => ?_)
   ·replace H:=iT c3509 H
    refine AWp.skip ?_
    refine AWp.seq ?_
    refine AWp.block ?_
    obtain⟨b3519,p3520,q3521,H⟩:=Z02 H
    obtain⟨b3522,p3523,q3524,H⟩:=Z02 H
    obtain⟨b3525,p3526,q3527,H⟩:=Z02 H
    refine sR hP hn hm [(11,.c (Z0 b3519)),(15,.c (Z0 b3522)),(17,.put (Z0 b3522) ((x3507.set (Int.toNat (a1)) b3519).map Z0)),(19,.put (Z0 b3525) (((x3507.set (Int.toNat (a1)) b3519).set (Int.toNat (i64.wrap (a1+x3508))) b3522).map Z0))] [] [0,3,8,9,12] [(0,some (.row 2 92 (((x3507.set (Int.toNat (a1)) b3519).set (Int.toNat (i64.wrap (a1+x3508))) b3522).map Z0)))] [0] [_,_,_,_,_,_,_,_,_,(x3507.set (Int.toNat (a1)) b3519).map Z0=(x3507.map Z0).set (Int.toNat (a1)) (Z0t (Z0 b3522) 0 [iI .i64 b3519.f0,iI .i64 b3519.f1]),_,_,_,((x3507.set (Int.toNat (a1)) b3519).set (Int.toNat (i64.wrap (a1+x3508))) b3522).map Z0=((x3507.set (Int.toNat (a1)) b3519).map Z0).set (Int.toNat (i64.wrap (a1+x3508))) (Z0t (Z0 b3525) 0 [iI .i64 b3522.f0,iI .i64 b3522.f1])] ⟨p3520,Z09 Z0 p3520 q3521,Zi Z0 q3521,p3523,Z09 Z0 p3523 q3524,Zi Z0 q3524,p3523,Z09 Z0 p3523 q3524,Zi Z0 q3524,by exact set1 _ _ _ _,p3526,Z09 Z0 p3526 q3527,Zi Z0 q3527,by exact set1 _ _ _ _,trivial⟩ ?_
    obtain⟨t3530,e3531,H⟩:=Z4 H
    refine rG hP hn hm [(5,.call [(0,0)] [(0,0)] [] [] 1 (.tup []) [(0,some (.row 2 92 (t3530.map Z0)))])] [] [0,3,8,9,12] [(0,some (.row 2 92 (t3530.map Z0)))] [0] [_,_] ⟨Tryz.call166,Zq.ok ((x3507.set (Int.toNat (a1)) b3519).set (Int.toNat (i64.wrap (a1+x3508))) b3522) 0 x3508 a1 t3530 e3531,trivial⟩ ?_
    refine rO hP hn hm [] [(12,iV .i64 (i64.wrap (x3508-(1:Int))))] [0,3,8,9,12] [] [0] ?_
    exact LWp.conv [(0,0)] [] [] (by kernel_rfl) (ih _ _ _ H)
   ·replace H:=iF c3509 H
    refine AWp.exit ?_
    obtain rfl:=sj H
    exact lf [(0,0)] [] [] (by kernel_rfl) ⟨rfl,rfl⟩
  ·obtain⟨x3532,rfl⟩:∃ z,z=o3535:=⟨_,rfl⟩
   rintro e s ⟨rfl,rfl⟩
   obtain rfl:=sj H
   exact Exists.intro ⟨[],[(0,some (.row 2 92 (x3532.map Z0)))],1⟩ (And.intro (fun _ _ h=>h.conv (inv:=[(0,0)]) (vk:=[]) (e0:=[]) (t:=⟨[],[(0,some (.row 2 92 (x3532.map Z0)))],1⟩) (by kernel_rfl)) (And.intro (.inr rfl) (And.intro rfl (And.intro (by kernel_rfl) (by kernel_rfl)))))
def Zx.f (a0:List Z5) (a1:Int) (a2:Int) (a3_c0:Int):Option (Int×Int×Int):=(at? a0 a2)>>=fun b3551=>(at? a0 a1)>>=fun b3554=>(Z0l.f b3551 b3554)>>=fun t3557=>if(decide (t3557<(0:Int)))=true then(some (a2,a1,i64.wrap (a3_c0+(1:Int)))) else(some (a1,a2,a3_c0))
theorem Zx.ok (a0:List Z5) (a1:Int) (a2:Int) (a3_c0:Int) (r:Int×Int×Int) (H:Zx.f a0 a1 a2 a3_c0=some r):Pv.Fn Tryz.prog 180 [.own 0,iV .i64 a1,iV .i64 a2,.ptr 1 0 0,.im (.sc (.func (.func 78) #[] #[]))] [(0,some (.row 2 92 (a0.map Z0))),(1,some (.box 3 [iV .i64 a3_c0]))] 2 (fun x o=>x = .tup [iV .i64 r.1,iV .i64 r.2.1]∧o=[(0,some (.row 2 92 (a0.map Z0))),(1,some (.box 3 [iV .i64 r.2.2]))]):=by
 unfold Zx.f at H
 refine Fn.bodyK [0,1] Tryz.func180 rfl rfl (fun Γ hP hn => ?_)
 have hm:Tryz.prog.follows .mixedOrders=true:=by kernel_rfl
 replace hn:Γ.n=32:=hn
 refine sO hP hn hm [] [] [0,1,2,3,4] [] [0,1] ?_
 refine AWp.seq ?_
 obtain⟨b3551,p3552,q3553,H⟩:=Z02 H
 obtain⟨b3554,p3555,q3556,H⟩:=Z02 H
 obtain⟨t3557,e3558,H⟩:=Z4 H
 refine sR hP hn hm [(4,.c (Z0 b3551)),(8,.c (Z0 b3554)),(9,.call [] [] [] [] 0 (iV .i64 t3557) [])] [(22,bV (decide (t3557<(0:Int))))] [1,2,3,22] [] [0,1] [_,_,_,_,_,_,_,_] ⟨p3552,Z09 Z0 p3552 q3553,Zi Z0 q3553,p3555,Z09 Z0 p3555 q3556,Zi Z0 q3556,Tryz.call78,Z0l.ok b3551 b3554 t3557 e3558,trivial⟩ ?_
 refine AWp.cond (decide (t3557<(0:Int))) (by kernel_rfl) (fun c3559 => ?_) (fun c3559 => ?_)
 ·replace H:=iT c3559 H
  refine sO hP hn hm [] [] [1,2] [(1,some (.box 3 [iV .i64 (i64.wrap (a3_c0+(1:Int)))]))] [0,1] ?_
  refine sO hP hn hm [] [(10,iV .i64 a2),(11,iV .i64 a1)] [10,11] [] [0,1] ?_
  refine AWp.conv (inv:=[(0,0),(1,1)]) (vk:=[]) (e0:=[]) (t:=⟨[(10,iV .i64 a2),(11,iV .i64 a1)],[(0,some (.row 2 92 (a0.map Z0))),(1,some (.box 3 [iV .i64 (i64.wrap (a3_c0+(1:Int)))]))],2⟩) (by kernel_rfl) ?_
  refine AWp.ret ?_
  obtain rfl:=sj H
  exact rl (.inl rfl) rfl (by kernel_rfl) (by kernel_rfl)
 ·replace H:=iF c3559 H
  refine AWp.skip ?_
  refine sO hP hn hm [] [(10,iV .i64 a1),(11,iV .i64 a2)] [10,11] [] [0,1] ?_
  refine AWp.conv (inv:=[(0,0),(1,1)]) (vk:=[]) (e0:=[]) (t:=⟨[(10,iV .i64 a1),(11,iV .i64 a2)],[(0,some (.row 2 92 (a0.map Z0))),(1,some (.box 3 [iV .i64 a3_c0]))],2⟩) (by kernel_rfl) ?_
  refine AWp.ret ?_
  obtain rfl:=sj H
  exact rl (.inl rfl) rfl (by kernel_rfl) (by kernel_rfl)
def Z07.f (a0:List Z5) (a1:Int) (a2:Int) (a3:Int) (a4_c0:Int):Option (Int×Int):=(Zx.f a0 a1 a2 a4_c0)>>=fun t3562=>(Zx.f a0 t3562.2.1 a3 t3562.2.2)>>=fun t3566=>(Zx.f a0 t3562.1 t3566.1 t3566.2.2)>>=fun t3570=>some (t3570.2.1,t3570.2.2)
theorem Z07.ok (a0:List Z5) (a1:Int) (a2:Int) (a3:Int) (a4_c0:Int) (r:Int×Int) (H:Z07.f a0 a1 a2 a3 a4_c0=some r):Pv.Fn Tryz.prog 170 [.own 0,iV .i64 a1,iV .i64 a2,iV .i64 a3,.ptr 1 0 0,.im (.sc (.func (.func 78) #[] #[]))] [(0,some (.row 2 92 (a0.map Z0))),(1,some (.box 3 [iV .i64 a4_c0]))] 2 (fun x o=>x=iV .i64 r.1∧o=[(0,some (.row 2 92 (a0.map Z0))),(1,some (.box 3 [iV .i64 r.2]))]):=by
 unfold Z07.f at H
 refine Fn.bodyK [0,1] Tryz.func170 rfl rfl (fun Γ hP hn => ?_)
 have hm:Tryz.prog.follows .mixedOrders=true:=by kernel_rfl
 replace hn:Γ.n=41:=hn
 refine sO hP hn hm [] [] [0,1,2,3,4,5] [] [0,1] ?_
 obtain⟨t3562,e3563,H⟩:=Z4 H
 refine sR hP hn hm [(5,.call [(0,0),(1,1)] [(0,0),(1,1)] [] [] 2 (.tup [iV .i64 t3562.1,iV .i64 t3562.2.1]) [(0,some (.row 2 92 (a0.map Z0))),(1,some (.box 3 [iV .i64 t3562.2.2]))])] [(1,iV .i64 t3562.1),(2,iV .i64 t3562.2.1)] [0,1,2,3,4,5] [(1,some (.box 3 [iV .i64 t3562.2.2]))] [0,1] [_,_] ⟨Tryz.call180,Zx.ok a0 a1 a2 a4_c0 t3562 e3563,trivial⟩ ?_
 obtain⟨t3566,e3567,H⟩:=Z4 H
 refine sR hP hn hm [(5,.call [(0,0),(1,1)] [(0,0),(1,1)] [] [] 2 (.tup [iV .i64 t3566.1,iV .i64 t3566.2.1]) [(0,some (.row 2 92 (a0.map Z0))),(1,some (.box 3 [iV .i64 t3566.2.2]))])] [(2,iV .i64 t3566.1)] [0,1,2,4,5] [(1,some (.box 3 [iV .i64 t3566.2.2]))] [0,1] [_,_] ⟨Tryz.call180,Zx.ok a0 t3562.2.1 a3 t3562.2.2 t3566 e3567,trivial⟩ ?_
 obtain⟨t3570,e3571,H⟩:=Z4 H
 refine sR hP hn hm [(5,.call [(0,0),(1,1)] [(0,0),(1,1)] [] [] 2 (.tup [iV .i64 t3570.1,iV .i64 t3570.2.1]) [(0,some (.row 2 92 (a0.map Z0))),(1,some (.box 3 [iV .i64 t3570.2.2]))])] [(2,iV .i64 t3570.2.1)] [2] [(1,some (.box 3 [iV .i64 t3570.2.2]))] [0,1] [_,_] ⟨Tryz.call180,Zx.ok a0 t3562.1 t3566.1 t3566.2.2 t3570 e3571,trivial⟩ ?_
 refine sO hP hn hm [] [(12,iV .i64 t3570.2.1)] [12] [] [0,1] ?_
 refine AWp.conv (inv:=[(0,0),(1,1)]) (vk:=[]) (e0:=[]) (t:=⟨[(12,iV .i64 t3570.2.1)],[(0,some (.row 2 92 (a0.map Z0))),(1,some (.box 3 [iV .i64 t3570.2.2]))],2⟩) (by kernel_rfl) ?_
 refine AWp.ret ?_
 obtain rfl:=sj H
 exact rl (.inl rfl) rfl (by kernel_rfl) (by kernel_rfl)
def Zo.f (a0:List Z5) (a1:Int) (a2_c0:Int):Option (Int×Int):=(Z07.f a0 (i64.wrap (a1-(1:Int))) a1 (i64.wrap (a1+(1:Int))) a2_c0)>>=fun t3574=>some (t3574.1,t3574.2)
theorem Zo.ok (a0:List Z5) (a1:Int) (a2_c0:Int) (r:Int×Int) (H:Zo.f a0 a1 a2_c0=some r):Pv.Fn Tryz.prog 169 [.own 0,iV .i64 a1,.ptr 1 0 0,.im (.sc (.func (.func 78) #[] #[]))] [(0,some (.row 2 92 (a0.map Z0))),(1,some (.box 3 [iV .i64 a2_c0]))] 2 (fun x o=>x=iV .i64 r.1∧o=[(0,some (.row 2 92 (a0.map Z0))),(1,some (.box 3 [iV .i64 r.2]))]):=by
 unfold Zo.f at H
 refine Fn.bodyK [0,1] Tryz.func169 rfl rfl (fun Γ hP hn => ?_)
 have hm:Tryz.prog.follows .mixedOrders=true:=by kernel_rfl
 replace hn:Γ.n=18:=hn
 refine sO hP hn hm [] [] [0,1,2,3] [] [0,1] ?_
 obtain⟨t3574,e3575,H⟩:=Z4 H
 refine sR hP hn hm [(8,.call [(0,0),(1,1)] [(0,0),(1,1)] [] [] 2 (iV .i64 t3574.1) [(0,some (.row 2 92 (a0.map Z0))),(1,some (.box 3 [iV .i64 t3574.2]))])] [(8,iV .i64 t3574.1)] [8] [(1,some (.box 3 [iV .i64 t3574.2]))] [0,1] [_,_] ⟨Tryz.call170,Z07.ok a0 (i64.wrap (a1-(1:Int))) a1 (i64.wrap (a1+(1:Int))) a2_c0 t3574 e3575,trivial⟩ ?_
 refine AWp.conv (inv:=[(0,0),(1,1)]) (vk:=[]) (e0:=[]) (t:=⟨[(8,iV .i64 t3574.1)],[(0,some (.row 2 92 (a0.map Z0))),(1,some (.box 3 [iV .i64 t3574.2]))],2⟩) (by kernel_rfl) ?_
 refine AWp.ret ?_
 obtain rfl:=sj H
 exact rl (.inl rfl) rfl (by kernel_rfl) (by kernel_rfl)
def Z0g.f (a0:List Z5) (a1:Int) (a2:Int):Option (Int×Int):=((if(decide ((i64.wrap (a2-a1))≥(8:Int)))=true then(((if(decide ((i64.wrap (a2-a1))≥(50:Int)))=true then((Zo.f a0 (i64.wrap (a1+(i64.wrap ((i64.wrap (Int.tdiv (i64.wrap (a2-a1)) (4:Int)))*(1:Int))))) 0)>>=fun t3578=>(Zo.f a0 (i64.wrap (a1+(i64.wrap ((i64.wrap (Int.tdiv (i64.wrap (a2-a1)) (4:Int)))*(2:Int))))) t3578.2)>>=fun t3582=>(Zo.f a0 (i64.wrap (a1+(i64.wrap ((i64.wrap (Int.tdiv (i64.wrap (a2-a1)) (4:Int)))*(3:Int))))) t3582.2)>>=fun t3586=>some (t3586.2,t3578.1,t3582.1,t3586.1)) else(some (0,i64.wrap (a1+(i64.wrap ((i64.wrap (Int.tdiv (i64.wrap (a2-a1)) (4:Int)))*(1:Int)))),i64.wrap (a1+(i64.wrap ((i64.wrap (Int.tdiv (i64.wrap (a2-a1)) (4:Int)))*(2:Int)))),i64.wrap (a1+(i64.wrap ((i64.wrap (Int.tdiv (i64.wrap (a2-a1)) (4:Int)))*(3:Int))))))):Option (Int×Int×Int×Int))>>=fun oo=>match oo with | (x3588,x3589,x3590,x3591)=>((Z07.f a0 x3589 x3590 x3591 x3588)>>=fun t3594=>some (t3594.2,t3594.1))) else(some (0,i64.wrap (a1+(i64.wrap ((i64.wrap (Int.tdiv (i64.wrap (a2-a1)) (4:Int)))*(2:Int))))))):Option (Int×Int))>>=fun oo=>match oo with | (x3596,x3597)=>(if(x3596==(0:Int))=true then(some (x3597,1)) else(if(x3596==(12:Int))=true then(some (x3597,2)) else(some (x3597,0))))
theorem Z0g.ok (a0:List Z5) (a1:Int) (a2:Int) (r:Int×Int) (H:Z0g.f a0 a1 a2=some r):Pv.Fn Tryz.prog 141 [.own 0,iV .i64 a1,iV .i64 a2,.im (.sc (.func (.func 78) #[] #[]))] [(0,some (.row 2 92 (a0.map Z0)))] 1 (fun x o=>x = .tup [iV .i64 r.1,iV .i64 r.2]∧o=[(0,some (.row 2 92 (a0.map Z0)))]):=by
 unfold Z0g.f at H
 refine Fn.bodyK [0] Tryz.func141 rfl rfl (fun Γ hP hn => ?_)
 have hm:Tryz.prog.follows .mixedOrders=true:=by kernel_rfl
 replace hn:Γ.n=63:=hn
 refine sO hP hn hm [] [] [0,1,2,3] [] [0] ?_
 refine sO hP hn hm [] [(10,iV .i64 (i64.wrap (a2-a1)))] [0,1,3,10] [] [0] ?_
 refine sO hP hn hm [(0,.k 1)] [(11,.ptr 1 0 0)] [0,1,3,10,11] [(1,some (.box 3 [iV .i64 0]))] [0,1] ?_
 refine sR hP hn hm [] [(12,iV .i64 (i64.wrap (a1+(i64.wrap ((i64.wrap (Int.tdiv (i64.wrap (a2-a1)) (4:Int)))*(1:Int))))))] [0,1,3,10,11,12] [] [0,1] [(4:Int)≠0] ⟨by decide,trivial⟩ ?_
 refine sR hP hn hm [] [(13,iV .i64 (i64.wrap (a1+(i64.wrap ((i64.wrap (Int.tdiv (i64.wrap (a2-a1)) (4:Int)))*(2:Int))))))] [0,1,3,10,11,12,13] [] [0,1] [(4:Int)≠0] ⟨by decide,trivial⟩ ?_
 refine sR hP hn hm [] [(14,iV .i64 (i64.wrap (a1+(i64.wrap ((i64.wrap (Int.tdiv (i64.wrap (a2-a1)) (4:Int)))*(3:Int))))))] [0,3,10,11,12,13,14] [] [0,1] [(4:Int)≠0] ⟨by decide,trivial⟩ ?_
 refine AWp.seq ?_
 refine sO hP hn hm [] [(34,bV (decide ((i64.wrap (a2-a1))≥(8:Int))))] [0,3,10,11,12,13,14,34] [] [0,1] ?_
 obtain⟨o3600,e3601,H⟩:=Z4 H
 refine AWp.mono (Q:=fun e s=>(match (generalizing:=false) o3600 with | (x3596,x3597)=>e = .normal∧s=⟨[(11,.ptr 3 0 0),(13,iV .i64 x3597)],[(0,some (.row 2 92 (a0.map Z0))),(3,some (.box 3 [iV .i64 x3596]))],1⟩)) (AWp.cv ?_) ?_
 ·replace H:=e3601;clear e3601
  refine AWp.cond (decide ((i64.wrap (a2-a1))≥(8:Int))) (by kernel_rfl) (fun c3541 => ?_) (fun c3541 => ?_)
  ·replace H:=iT c3541 H
   refine AWp.seq ?_
   refine sO hP hn hm [] [(36,bV (decide ((i64.wrap (a2-a1))≥(50:Int))))] [0,3,11,12,13,14,36] [] [0,1] ?_
   obtain⟨o3602,e3603,H⟩:=Z4 H
   refine AWp.mono (Q:=fun e s=>(match (generalizing:=false) o3602 with | (x3588,x3589,x3590,x3591)=>e = .normal∧s=⟨[(0,.own 0),(3,.im (.sc (.func (.func 78) #[] #[]))),(11,.ptr 2 0 0),(12,iV .i64 x3589),(13,iV .i64 x3590),(14,iV .i64 x3591)],[(0,some (.row 2 92 (a0.map Z0))),(2,some (.box 3 [iV .i64 x3588]))],1⟩)) (AWp.cv ?_) ?_
   ·replace H:=e3603;clear e3603
    refine AWp.cond (decide ((i64.wrap (a2-a1))≥(50:Int))) (by kernel_rfl) (fun c3542 => ?_) (fun c3542 => ?_)
    ·replace H:=iT c3542 H
     obtain⟨t3578,e3579,H⟩:=Z4 H
     refine sR hP hn hm [(3,.call [(0,0),(1,1)] [(0,0),(1,1)] [] [] 2 (iV .i64 t3578.1) [(0,some (.row 2 92 (a0.map Z0))),(1,some (.box 3 [iV .i64 t3578.2]))])] [(12,iV .i64 t3578.1)] [0,3,11,12,13,14] [(1,some (.box 3 [iV .i64 t3578.2]))] [0,1] [_,_] ⟨Tryz.call169,Zo.ok a0 (i64.wrap (a1+(i64.wrap ((i64.wrap (Int.tdiv (i64.wrap (a2-a1)) (4:Int)))*(1:Int))))) 0 t3578 e3579,trivial⟩ ?_
     obtain⟨t3582,e3583,H⟩:=Z4 H
     refine sR hP hn hm [(3,.call [(0,0),(1,1)] [(0,0),(1,1)] [] [] 2 (iV .i64 t3582.1) [(0,some (.row 2 92 (a0.map Z0))),(1,some (.box 3 [iV .i64 t3582.2]))])] [(13,iV .i64 t3582.1)] [0,3,11,12,13,14] [(1,some (.box 3 [iV .i64 t3582.2]))] [0,1] [_,_] ⟨Tryz.call169,Zo.ok a0 (i64.wrap (a1+(i64.wrap ((i64.wrap (Int.tdiv (i64.wrap (a2-a1)) (4:Int)))*(2:Int))))) t3578.2 t3582 e3583,trivial⟩ ?_
     obtain⟨t3586,e3587,H⟩:=Z4 H
     refine rG hP hn hm [(3,.call [(0,0),(1,1)] [(0,0),(1,1)] [] [] 2 (iV .i64 t3586.1) [(0,some (.row 2 92 (a0.map Z0))),(1,some (.box 3 [iV .i64 t3586.2]))])] [(14,iV .i64 t3586.1)] [0,3,11,12,13,14] [(1,some (.box 3 [iV .i64 t3586.2]))] [0,1] [_,_] ⟨Tryz.call169,Zo.ok a0 (i64.wrap (a1+(i64.wrap ((i64.wrap (Int.tdiv (i64.wrap (a2-a1)) (4:Int)))*(3:Int))))) t3582.2 t3586 e3587,trivial⟩ ?_
     obtain rfl:=sj H
     exact lf [(0,0),(1,2)] [] [] (by kernel_rfl) ⟨rfl,rfl⟩
    ·replace H:=iF c3542 H
     refine AWp.skip ?_
     obtain rfl:=sj H
     exact lf [(0,0),(1,2)] [] [] (by kernel_rfl) ⟨rfl,rfl⟩
   ·obtain⟨x3588,x3589,x3590,x3591⟩:=o3602
    rintro e s ⟨rfl,rfl⟩
    obtain⟨t3594,e3595,H⟩:=Z4 H
    refine rG hP hn hm [(5,.call [(0,0),(2,1)] [(0,0),(1,2)] [] [] 2 (iV .i64 t3594.1) [(0,some (.row 2 92 (a0.map Z0))),(1,some (.box 3 [iV .i64 t3594.2]))])] [(13,iV .i64 t3594.1)] [11,13] [(2,some (.box 3 [iV .i64 t3594.2]))] [0,2] [_,_] ⟨Tryz.call170,Z07.ok a0 x3589 x3590 x3591 x3588 t3594 e3595,trivial⟩ ?_
    obtain rfl:=sj H
    exact lf [(2,3),(0,0)] [] [] (by kernel_rfl) ⟨rfl,rfl⟩
  ·replace H:=iF c3541 H
   refine AWp.skip ?_
   obtain rfl:=sj H
   exact lf [(1,3),(0,0)] [] [] (by kernel_rfl) ⟨rfl,rfl⟩
 ·obtain⟨x3596,x3597⟩:=o3600
  rintro e s ⟨rfl,rfl⟩
  refine sO hP hn hm [] [(55,iV .i64 x3596)] [13,55] [] [0] ?_
  refine AWp.block ?_
  refine sO hP hn hm [] [(57,bV (x3596==(0:Int)))] [13,55,57] [] [0] ?_
  refine AWp.cond (x3596==(0:Int)) (by kernel_rfl) (fun c3598 => ?_) (fun c3598 => ?_)
  ·replace H:=iT c3598 H
   refine sO hP hn hm [] [(8,iV .i64 x3597),(9,iV .i64 1)] [8,9] [] [0] ?_
   refine AWp.conv (inv:=[(0,0)]) (vk:=[]) (e0:=[]) (t:=⟨[(8,iV .i64 x3597),(9,iV .i64 1)],[(0,some (.row 2 92 (a0.map Z0)))],1⟩) (by kernel_rfl) ?_
   refine AWp.ret ?_
   obtain rfl:=sj H
   exact rl (.inl rfl) rfl (by kernel_rfl) (by kernel_rfl)
  ·replace H:=iF c3598 H
   refine sO hP hn hm [] [(60,bV (x3596==(12:Int)))] [13,60] [] [0] ?_
   refine AWp.cond (x3596==(12:Int)) (by kernel_rfl) (fun c3599 => ?_) (fun c3599 => ?_)
   ·replace H:=iT c3599 H
    refine sO hP hn hm [] [(8,iV .i64 x3597),(9,iV .i64 2)] [8,9] [] [0] ?_
    refine AWp.conv (inv:=[(0,0)]) (vk:=[]) (e0:=[]) (t:=⟨[(8,iV .i64 x3597),(9,iV .i64 2)],[(0,some (.row 2 92 (a0.map Z0)))],1⟩) (by kernel_rfl) ?_
    refine AWp.ret ?_
    obtain rfl:=sj H
    exact rl (.inl rfl) rfl (by kernel_rfl) (by kernel_rfl)
   ·replace H:=iF c3599 H
    refine sO hP hn hm [] [(8,iV .i64 x3597),(9,iV .i64 0)] [8,9] [] [0] ?_
    refine AWp.conv (inv:=[(0,0)]) (vk:=[]) (e0:=[]) (t:=⟨[(8,iV .i64 x3597),(9,iV .i64 0)],[(0,some (.row 2 92 (a0.map Z0)))],1⟩) (by kernel_rfl) ?_
    refine AWp.ret ?_
    obtain rfl:=sj H
    exact rl (.inl rfl) rfl (by kernel_rfl) (by kernel_rfl)
def Zw.l0 (x3628:List Z5) (x3629:Int) (x3630:Int):Option (List Z5):=if(decide (x3629<x3630))=true then((at? x3628 x3630)>>=fun b3641=>(at? x3628 x3629)>>=fun b3644=>(at? (x3628.set (Int.toNat (x3629)) b3641) x3630)>>=fun b3647=>Zw.l0  ((x3628.set (Int.toNat (x3629)) b3641).set (Int.toNat (x3630)) b3644) (i64.wrap (x3629+(1:Int))) (i64.wrap (x3630-(1:Int)))) else(some x3628)
partial_fixpoint
def Zw.f (a0:List Z5) (a1:Int) (a2:Int):Option (List Z5):=(Zw.l0  a0 a1 (i64.wrap (a2-(1:Int))))>>=fun x3650=>some x3650
theorem Zw.ok (a0:List Z5) (a1:Int) (a2:Int) (r:List Z5) (H:Zw.f a0 a1 a2=some r):Pv.Fn Tryz.prog 142 [.own 0,iV .i64 a1,iV .i64 a2,.im (.sc (.func (.func 78) #[] #[]))] [(0,some (.row 2 92 (a0.map Z0)))] 1 (fun x o=>x = .tup []∧o=[(0,some (.row 2 92 (r.map Z0)))]):=by
 unfold Zw.f at H
 refine Fn.bodyK [0] Tryz.func142 rfl rfl (fun Γ hP hn => ?_)
 have hm:Tryz.prog.follows .mixedOrders=true:=by kernel_rfl
 replace hn:Γ.n=34:=hn
 refine sO hP hn hm [] [(8,iV .i64 a1)] [0,2,8] [] [0] ?_
 refine sO hP hn hm [] [(9,iV .i64 (i64.wrap (a2-(1:Int))))] [0,8,9] [] [0] ?_
 refine AWp.block ?_
 obtain⟨o3651,e3652,H⟩:=Z4 H
 refine AWp.loop (LWp.conv (inv:=[(0,0)]) (vk:=[]) (e0:=[]) (t:=⟨[(0,.own 0),(8,iV .i64 a1),(9,iV .i64 (i64.wrap (a2-(1:Int))))],[(0,some (.row 2 92 (a0.map Z0)))],1⟩) (by kernel_rfl) ?_)
 refine LWp.mono (Q:=fun e s=>(match (generalizing:=false) o3651 with | x3650=>e = .exit 0∧s=⟨[],[(0,some (.row 2 92 (x3650.map Z0)))],1⟩)) (LWp.cv (Zs (fun body hbody => ?_))) ?_
 ·refine                                                Zw.l0.partial_correctness  (motive:=fun x3628 x3629 x3630 o3651=>LWp Γ body (fun e s=>∃ t,Cv Γ s t∧(match (generalizing:=false) o3651 with | x3650=>e = .exit 0∧t=⟨[],[(0,some (.row 2 92 (x3650.map Z0         )))],1⟩)) ⟨[(0,.own 0),(8,iV .i64 x3629),(9,iV .i64 x3630)],[(0,some (.row 2 92 (x3628.map Z0         )))],1⟩) ?_ _ _ _ _ e3652
  clear H e3652 o3651;intro self ih x3628 x3629 x3630 o3651 H
  subst hbody
  refine LWp.round ?_
  refine AWp.seq ?_
  refine sO hP hn hm [] [(15,bV (decide (x3629<x3630)))] [0,8,9,15] [] [0] ?_
  refine AWp.cond (decide (x3629<x3630)) (by kernel_rfl) (fun c3631 => ?_) (fun c3631 => ?_)
  ·replace H:=iT c3631 H
   refine AWp.skip ?_
   refine AWp.block ?_
   obtain⟨b3641,p3642,q3643,H⟩:=Z02 H
   obtain⟨b3644,p3645,q3646,H⟩:=Z02 H
   obtain⟨b3647,p3648,q3649,H⟩:=Z02 H
   refine sR hP hn hm [(7,.c (Z0 b3641)),(11,.c (Z0 b3644)),(13,.put (Z0 b3644) ((x3628.set (Int.toNat (x3629)) b3641).map Z0)),(15,.put (Z0 b3647) (((x3628.set (Int.toNat (x3629)) b3641).set (Int.toNat (x3630)) b3644).map Z0))] [] [0,8,9] [(0,some (.row 2 92 (((x3628.set (Int.toNat (x3629)) b3641).set (Int.toNat (x3630)) b3644).map Z0)))] [0] [_,_,_,_,_,_,_,_,_,(x3628.set (Int.toNat (x3629)) b3641).map Z0=(x3628.map Z0).set (Int.toNat (x3629)) (Z0t (Z0 b3644) 0 [iI .i64 b3641.f0,iI .i64 b3641.f1]),_,_,_,((x3628.set (Int.toNat (x3629)) b3641).set (Int.toNat (x3630)) b3644).map Z0=((x3628.set (Int.toNat (x3629)) b3641).map Z0).set (Int.toNat (x3630)) (Z0t (Z0 b3647) 0 [iI .i64 b3644.f0,iI .i64 b3644.f1])] ⟨p3642,Z09 Z0 p3642 q3643,Zi Z0 q3643,p3645,Z09 Z0 p3645 q3646,Zi Z0 q3646,p3645,Z09 Z0 p3645 q3646,Zi Z0 q3646,by exact set1 _ _ _ _,p3648,Z09 Z0 p3648 q3649,Zi Z0 q3649,by exact set1 _ _ _ _,trivial⟩ ?_
   refine sO hP hn hm [] [(8,iV .i64 (i64.wrap (x3629+(1:Int))))] [0,8,9] [] [0] ?_
   refine rO hP hn hm [] [(9,iV .i64 (i64.wrap (x3630-(1:Int))))] [0,8,9] [] [0] ?_
   exact LWp.conv [(0,0)] [] [] (by kernel_rfl) (ih _ _ _ _ H)
  ·replace H:=iF c3631 H
   refine AWp.exit ?_
   obtain rfl:=sj H
   exact lf [(0,0)] [] [] (by kernel_rfl) ⟨rfl,rfl⟩
 ·obtain⟨x3650,rfl⟩:∃ z,z=o3651:=⟨_,rfl⟩
  rintro e s ⟨rfl,rfl⟩
  obtain rfl:=sj H
  exact Exists.intro ⟨[],[(0,some (.row 2 92 (x3650.map Z0)))],1⟩ (And.intro (fun _ _ h=>h.conv (inv:=[(0,0)]) (vk:=[]) (e0:=[]) (t:=⟨[],[(0,some (.row 2 92 (x3650.map Z0)))],1⟩) (by kernel_rfl)) (And.intro (.inr rfl) (And.intro rfl (And.intro (by kernel_rfl) (by kernel_rfl)))))
def Z8.l1 (a1:Int) (a2:Int) (x3829:List Z5) (x3831:Int) (x3853:Int):Option (Int):=((if(decide (x3853<a2))=true then((at? x3829 x3853)>>=fun b3864=>(at? x3829 (i64.wrap (x3853-(1:Int))))>>=fun b3867=>(Z0l.f b3864 b3867)>>=fun t3870=>some (!(decide (t3870<(0:Int))))) else(some false)):Option (Bool))>>=fun x3872=>if x3872=true then(Z8.l1 a1 a2 x3829 x3831 (i64.wrap (x3853+(1:Int)))) else(some x3853)
partial_fixpoint
def Z8.l2 (a1:Int) (a2:Int) (x3831:Int) (x3874:Int) (x3920:List Z5) (x3921:Int):Option (List Z5):=if(decide (x3921≥(1:Int)))=true then((at? x3920 x3921)>>=fun b3931=>(at? x3920 (i64.wrap (x3921-(1:Int))))>>=fun b3934=>(Z0l.f b3931 b3934)>>=fun t3937=>if(!(decide (t3937<(0:Int))))=true then(some x3920) else((at? (x3920.set (Int.toNat (x3921)) b3934) (i64.wrap (x3921-(1:Int))))>>=fun b3943=>Z8.l2 a1 a2 x3831 x3874 ((x3920.set (Int.toNat (x3921)) b3934).set (Int.toNat (i64.wrap (x3921-(1:Int)))) b3931) (i64.wrap (x3921-(1:Int))))) else(some x3920)
partial_fixpoint
def Z8.l3 (a1:Int) (a2:Int) (x3831:Int) (x3874:Int) (x3973:List Z5) (x3974:Int):Option (List Z5):=if(decide (x3974<a2))=true then((at? x3973 x3974)>>=fun b3984=>(at? x3973 (i64.wrap (x3974-(1:Int))))>>=fun b3987=>(Z0l.f b3984 b3987)>>=fun t3990=>if(!(decide (t3990<(0:Int))))=true then(some x3973) else((at? (x3973.set (Int.toNat (x3974)) b3987) (i64.wrap (x3974-(1:Int))))>>=fun b3996=>Z8.l3 a1 a2 x3831 x3874 ((x3973.set (Int.toNat (x3974)) b3987).set (Int.toNat (i64.wrap (x3974-(1:Int)))) b3984) (i64.wrap (x3974+(1:Int))))) else(some x3973)
partial_fixpoint
def Z8.l0 (a1:Int) (a2:Int) (x3829:List Z5) (x3830:Int) (x3831:Int):Option ((Bool×(List Z5)) ⊕ (List Z5)):=if(decide (x3831<(5:Int)))=true then((Z8.l1 a1 a2 x3829 x3831 x3830)>>=fun x3874=>if(x3874==a2)=true then(some (.inl (true,x3829))) else(if(decide ((i64.wrap (a2-a1))<(50:Int)))=true then(some (.inl (false,x3829))) else((at? x3829 (i64.wrap (x3874-(1:Int))))>>=fun b3886=>(at? x3829 x3874)>>=fun b3889=>(at? (x3829.set (Int.toNat (x3874)) b3886) (i64.wrap (x3874-(1:Int))))>>=fun b3892=>((if(decide ((i64.wrap (x3874-a1))≥(2:Int)))=true then((Z8.l2 a1 a2 x3831 x3874 ((x3829.set (Int.toNat (x3874)) b3886).set (Int.toNat (i64.wrap (x3874-(1:Int)))) b3889) (i64.wrap (x3874-(1:Int))))>>=fun x3946=>some x3946) else(some ((x3829.set (Int.toNat (x3874)) b3886).set (Int.toNat (i64.wrap (x3874-(1:Int)))) b3889))):Option (List Z5))>>=fun x3947=>((if(decide ((i64.wrap (a2-x3874))≥(2:Int)))=true then((Z8.l3 a1 a2 x3831 x3874 x3947 (i64.wrap (x3874+(1:Int))))>>=fun x3999=>some x3999) else(some x3947)):Option (List Z5))>>=fun x4000=>Z8.l0 a1 a2 x4000 x3874 (i64.wrap (x3831+(1:Int)))))) else(some (.inr x3829))
partial_fixpoint
def Z8.f (a0:List Z5) (a1:Int) (a2:Int):Option (Bool×(List Z5)):=(Z8.l0 a1 a2 a0 (i64.wrap (a1+(1:Int))) 0)>>=fun oo=>match oo with | .inl rr=>(some rr) | .inr x4001=>(some (false,x4001))
theorem Z8.ok (a0:List Z5) (a1:Int) (a2:Int) (r:Bool×(List Z5)) (H:Z8.f a0 a1 a2=some r):Pv.Fn Tryz.prog 143 [.own 0,iV .i64 a1,iV .i64 a2,.im (.sc (.func (.func 78) #[] #[]))] [(0,some (.row 2 92 (a0.map Z0)))] 1 (fun x o=>x=bV r.1∧o=[(0,some (.row 2 92 (r.2.map Z0)))]):=by
 unfold Z8.f at H
 refine Fn.bodyK [0] Tryz.func143 rfl rfl (fun Γ hP hn => ?_)
 have hm:Tryz.prog.follows .mixedOrders=true:=by kernel_rfl
 replace hn:Γ.n=141:=hn
 refine sO hP hn hm [] [] [0,1,2,3] [] [0] ?_
 refine sO hP hn hm [] [(9,iV .i64 (i64.wrap (a1+(1:Int))))] [0,1,2,3,9] [] [0] ?_
 refine AWp.seq ?_
 refine sO hP hn hm [] [(10,iV .i64 0)] [0,1,2,3,9,10] [] [0] ?_
 refine AWp.block ?_
 obtain⟨o4002,e4003,H⟩:=Z4 H
 refine AWp.loop (LWp.conv (inv:=[(0,0)]) (vk:=[]) (e0:=[]) (t:=⟨[(0,.own 0),(1,iV .i64 a1),(2,iV .i64 a2),(3,.im (.sc (.func (.func 78) #[] #[]))),(9,iV .i64 (i64.wrap (a1+(1:Int)))),(10,iV .i64 0)],[(0,some (.row 2 92 (a0.map Z0)))],1⟩) (by kernel_rfl) ?_)
 refine LWp.mono (Q:=fun e s=>(match (generalizing:=false) o4002 with | .inl rr=>e = .ret∧s.floor=1∧Z1y Tryz.prog Tryz.f143 s=some (bV rr.1)∧([(0,s.obj 0)]:List (Nat×Option MObj))=[(0,some (.row 2 92 (rr.2.map Z0)))] | .inr x4001=>e = .exit 0∧s=⟨[],[(0,some (.row 2 92 (x4001.map Z0)))],1⟩)) (LWp.cv (Zs (fun body hbody => ?_))) ?_
 ·refine                                                        Z8.l0.partial_correctness a1 a2 (motive:=fun x3829 x3830 x3831 o4002=>LWp Γ body (fun e s=>∃ t,Cv Γ s t∧(match (generalizing:=false) o4002 with | .inl rr=>e = .ret∧t.floor=1∧Z1y   Tryz.prog Tryz.f143 t=some (bV rr.1)∧([(0,t.obj 0)]:List (Nat×Option MObj))=[(0,some (.row 2 92 (rr.2.map Z0         )))] | .inr x4001=>e = .exit 0∧t=⟨[],[(0,some (.row 2 92 (x4001.map Z0         )))],1⟩)) ⟨[(0,.own 0),(1,iV .i64 a1),(2,iV .i64 a2),(3,.im (.sc (.func (.func 78) #[] #[]))),(9,iV .i64 x3830),(10,iV .i64 x3831)],[(0,some (.row 2 92 (x3829.map Z0         )))],1⟩) ?_ _ _ _ _ e4003
  clear H e4003 o4002;intro self ih x3829 x3830 x3831 o4002 H
  subst hbody
  refine LWp.round ?_
  refine AWp.seq ?_
  refine sO hP hn hm [] [(16,bV (decide (x3831<(5:Int))))] [0,1,2,3,9,10,16] [] [0] ?_
  refine AWp.cond (decide (x3831<(5:Int))) (by kernel_rfl) (fun c3832 => ?_) (fun c3832 => ?_)
  ·replace H:=iT c3832 H
   refine AWp.skip ?_
   refine AWp.seq ?_
   refine AWp.block ?_
   refine AWp.seq ?_
   refine AWp.block ?_
   obtain⟨o4004,e4005,H⟩:=Z4 H
   refine AWp.loop (LWp.conv (inv:=[(0,0)]) (vk:=[]) (e0:=[]) (t:=⟨[(0,.own 0),(1,iV .i64 a1),(2,iV .i64 a2),(3,.im (.sc (.func (.func 78) #[] #[]))),(9,iV .i64 x3830),(10,iV .i64 x3831)],[(0,some (.row 2 92 (x3829.map Z0)))],1⟩) (by kernel_rfl) ?_)
   refine LWp.mono (Q:=fun e s=>(match (generalizing:=false) o4004 with | x3874=>e = .exit 2∧s=⟨[(0,.own 0),(1,iV .i64 a1),(2,iV .i64 a2),(3,.im (.sc (.func (.func 78) #[] #[]))),(9,iV .i64 x3874),(10,iV .i64 x3831)],[(0,some (.row 2 92 (x3829.map Z0)))],1⟩)) (LWp.cv (Zs (fun body hbody => ?_))) ?_
   ·refine                                                        Z8.l1.partial_correctness a1 a2 x3829 x3831 (motive:=fun x3853 o4004=>LWp Γ body (fun e s=>∃ t,Cv Γ s t∧(match (generalizing:=false) o4004 with | x3874=>e = .exit 2∧t=⟨[(0,.own 0),(1,iV .i64 a1),(2,iV .i64 a2),(3,.im (.sc (.func (.func 78) #[] #[]))),(9,iV .i64 x3874),(10,iV .i64 x3831)],[(0,some (.row 2 92 (x3829.map Z0         )))],1⟩)) ⟨[(0,.own 0),(1,iV .i64 a1),(2,iV .i64 a2),(3,.im (.sc (.func (.func 78) #[] #[]))),(9,iV .i64 x3853),(10,iV .i64 x3831)],[(0,some (.row 2 92 (x3829.map Z0         )))],1⟩) ?_ _ _ e4005
    clear H e4005 o4004;intro self ih x3853 o4004 H
    subst hbody
    refine LWp.round ?_
    refine AWp.seq ?_
    refine AWp.seq ?_
    obtain⟨o4006,e4007,H⟩:=Z4 H
    refine AWp.mono (Q:=fun e s=>(match (generalizing:=false) o4006 with | x3872=>e = .normal∧s=⟨[(0,.own 0),(1,iV .i64 a1),(2,iV .i64 a2),(3,.im (.sc (.func (.func 78) #[] #[]))),(9,iV .i64 x3853),(10,iV .i64 x3831),(36,bV x3872)],[(0,some (.row 2 92 (x3829.map Z0)))],1⟩)) (AWp.cv ?_) ?_
    ·replace H:=e4007;clear e4007
     rcases Bool.eq_false_or_eq_true (decide (x3853<a2)) with c3863 | c3863
     ·replace H:=iT c3863 H
      obtain⟨b3864,p3865,q3866,H⟩:=Z02 H
      obtain⟨b3867,p3868,q3869,H⟩:=Z02 H
      obtain⟨t3870,e3871,H⟩:=Z4 H
      refine rG hP hn hm [(3,.b true),(8,.c (Z0 b3864)),(13,.c (Z0 b3867)),(14,.call [] [] [] [] 0 (iV .i64 t3870) [])] [(23,.im (.sc (.func (.func 78) #[] #[]))),(24,.own 0),(25,iV .i64 x3853),(26,.ptr 0 (Int.toNat (x3853)) 0),(27,.agg [iV .i64 b3864.f0,iV .i64 b3864.f1]),(28,.own 0),(29,iV .i64 x3853),(30,iV .i64 (i64.wrap (x3853-(1:Int)))),(31,.ptr 0 (Int.toNat (i64.wrap (x3853-(1:Int)))) 0),(32,.agg [iV .i64 b3867.f0,iV .i64 b3867.f1]),(33,iV .i64 t3870),(34,bV (decide (t3870<(0:Int)))),(35,bV (!(decide (t3870<(0:Int))))),(36,bV (!(decide (t3870<(0:Int)))))] [0,1,2,3,9,10,23,24,25,26,27,28,29,30,31,32,33,34,35,36] [] [0] [_,_,_,_,_,_,_,_,_] ⟨c3863,p3865,Z09 Z0 p3865 q3866,Zi Z0 q3866,p3868,Z09 Z0 p3868 q3869,Zi Z0 q3869,Tryz.call78,Z0l.ok b3864 b3867 t3870 e3871,trivial⟩ ?_
      obtain rfl:=sj H
      exact lf [(0,0)] [] [] (by kernel_rfl) ⟨rfl,rfl⟩
     ·replace H:=iF c3863 H
      refine rG hP hn hm [(3,.b false)] [(36,bV false)] [0,1,2,3,9,10,36] [] [0] [_] ⟨c3863,trivial⟩ ?_
      obtain rfl:=sj H
      exact lf [(0,0)] [] [] (by kernel_rfl) ⟨rfl,rfl⟩
    ·obtain⟨x3872,rfl⟩:∃ z,z=o4006:=⟨_,rfl⟩
     rintro e s ⟨rfl,rfl⟩
     refine AWp.cond x3872 (by kernel_rfl) (fun c3873 => ?_) (fun c3873 => ?_)
     ·replace H:=iT c3873 H
      refine AWp.skip ?_
      refine AWp.block ?_
      refine rO hP hn hm [] [(9,iV .i64 (i64.wrap (x3853+(1:Int))))] [0,1,2,3,9,10] [] [0] ?_
      exact LWp.conv [(0,0)] [] [] (by kernel_rfl) (ih _ _ H)
     ·replace H:=iF c3873 H
      refine AWp.exit ?_
      obtain rfl:=sj H
      exact lf [(0,0)] [] [] (by kernel_rfl) ⟨rfl,rfl⟩
   ·obtain⟨x3874,rfl⟩:∃ z,z=o4004:=⟨_,rfl⟩
    rintro e s ⟨rfl,rfl⟩
    refine AWp.seq ?_
    refine sO hP hn hm [] [(41,bV (x3874==a2))] [0,1,2,3,9,10,41] [] [0] ?_
    refine AWp.cond (x3874==a2) (by kernel_rfl) (fun c3875 => ?_) (fun c3875 => ?_)
    ·replace H:=iT c3875 H
     refine sO hP hn hm [] [(8,bV true)] [8] [] [0] ?_
     refine AWp.conv (inv:=[(0,0)]) (vk:=[]) (e0:=[]) (t:=⟨[(8,bV true)],[(0,some (.row 2 92 (x3829.map Z0)))],1⟩) (by kernel_rfl) ?_
     refine AWp.ret ?_
     obtain rfl:=sj H
     exact rl rfl rfl (by kernel_rfl) (by kernel_rfl)
    ·replace H:=iF c3875 H
     refine AWp.skip ?_
     refine AWp.seq ?_
     refine sO hP hn hm [] [(45,bV (decide ((i64.wrap (a2-a1))<(50:Int))))] [0,1,2,3,9,10,45] [] [0] ?_
     refine AWp.cond (decide ((i64.wrap (a2-a1))<(50:Int))) (by kernel_rfl) (fun c3876 => ?_) (fun c3876 => ?_)
     ·replace H:=iT c3876 H
      refine sO hP hn hm [] [(8,bV false)] [8] [] [0] ?_
      refine AWp.conv (inv:=[(0,0)]) (vk:=[]) (e0:=[]) (t:=⟨[(8,bV false)],[(0,some (.row 2 92 (x3829.map Z0)))],1⟩) (by kernel_rfl) ?_
      refine AWp.ret ?_
      obtain rfl:=sj H
      exact rl rfl rfl (by kernel_rfl) (by kernel_rfl)
     ·replace H:=iF c3876 H
      refine AWp.skip ?_
      obtain⟨b3886,p3887,q3888,H⟩:=Z02 H
      obtain⟨b3889,p3890,q3891,H⟩:=Z02 H
      obtain⟨b3892,p3893,q3894,H⟩:=Z02 H
      refine sR hP hn hm [(9,.c (Z0 b3886)),(13,.c (Z0 b3889)),(15,.put (Z0 b3889) ((x3829.set (Int.toNat (x3874)) b3886).map Z0)),(17,.put (Z0 b3892) (((x3829.set (Int.toNat (x3874)) b3886).set (Int.toNat (i64.wrap (x3874-(1:Int)))) b3889).map Z0))] [] [0,1,2,3,9,10] [(0,some (.row 2 92 (((x3829.set (Int.toNat (x3874)) b3886).set (Int.toNat (i64.wrap (x3874-(1:Int)))) b3889).map Z0)))] [0] [_,_,_,_,_,_,_,_,_,(x3829.set (Int.toNat (x3874)) b3886).map Z0=(x3829.map Z0).set (Int.toNat (x3874)) (Z0t (Z0 b3889) 0 [iI .i64 b3886.f0,iI .i64 b3886.f1]),_,_,_,((x3829.set (Int.toNat (x3874)) b3886).set (Int.toNat (i64.wrap (x3874-(1:Int)))) b3889).map Z0=((x3829.set (Int.toNat (x3874)) b3886).map Z0).set (Int.toNat (i64.wrap (x3874-(1:Int)))) (Z0t (Z0 b3892) 0 [iI .i64 b3889.f0,iI .i64 b3889.f1])] ⟨p3887,Z09 Z0 p3887 q3888,Zi Z0 q3888,p3890,Z09 Z0 p3890 q3891,Zi Z0 q3891,p3890,Z09 Z0 p3890 q3891,Zi Z0 q3891,by exact set1 _ _ _ _,p3893,Z09 Z0 p3893 q3894,Zi Z0 q3894,by exact set1 _ _ _ _,trivial⟩ ?_
      refine AWp.seq ?_
      refine sO hP hn hm [] [(65,bV (decide ((i64.wrap (x3874-a1))≥(2:Int))))] [0,1,2,3,9,10,65] [] [0] ?_
      obtain⟨o4008,e4009,H⟩:=Z4 H
      refine AWp.mono (Q:=fun e s=>(match (generalizing:=false) o4008 with | x3947=>e = .normal∧s=⟨[(0,.own 0),(1,iV .i64 a1),(2,iV .i64 a2),(3,.im (.sc (.func (.func 78) #[] #[]))),(9,iV .i64 x3874),(10,iV .i64 x3831)],[(0,some (.row 2 92 (x3947.map Z0)))],1⟩)) (AWp.cv ?_) ?_
      ·replace H:=e4009;clear e4009
       refine AWp.cond (decide ((i64.wrap (x3874-a1))≥(2:Int))) (by kernel_rfl) (fun c3895 => ?_) (fun c3895 => ?_)
       ·replace H:=iT c3895 H
        refine sO hP hn hm [] [(11,iV .i64 (i64.wrap (x3874-(1:Int))))] [0,1,2,3,9,10,11] [] [0] ?_
        refine AWp.block ?_
        obtain⟨o4010,e4011,H⟩:=Z4 H
        refine AWp.loop (LWp.conv (inv:=[(0,0)]) (vk:=[]) (e0:=[]) (t:=⟨[(0,.own 0),(1,iV .i64 a1),(2,iV .i64 a2),(3,.im (.sc (.func (.func 78) #[] #[]))),(9,iV .i64 x3874),(10,iV .i64 x3831),(11,iV .i64 (i64.wrap (x3874-(1:Int))))],[(0,some (.row 2 92 (((x3829.set (Int.toNat (x3874)) b3886).set (Int.toNat (i64.wrap (x3874-(1:Int)))) b3889).map Z0)))],1⟩) (by kernel_rfl) ?_)
        refine LWp.mono (Q:=fun e s=>(match (generalizing:=false) o4010 with | x3946=>e = .exit 4∧s=⟨[(0,.own 0),(1,iV .i64 a1),(2,iV .i64 a2),(3,.im (.sc (.func (.func 78) #[] #[]))),(9,iV .i64 x3874),(10,iV .i64 x3831)],[(0,some (.row 2 92 (x3946.map Z0)))],1⟩)) (LWp.cv (Zs (fun body hbody => ?_))) ?_
        ·refine                                                        Z8.l2.partial_correctness a1 a2 x3831 x3874 (motive:=fun x3920 x3921 o4010=>LWp Γ body (fun e s=>∃ t,Cv Γ s t∧(match (generalizing:=false) o4010 with | x3946=>e = .exit 4∧t=⟨[(0,.own 0),(1,iV .i64 a1),(2,iV .i64 a2),(3,.im (.sc (.func (.func 78) #[] #[]))),(9,iV .i64 x3874),(10,iV .i64 x3831)],[(0,some (.row 2 92 (x3946.map Z0         )))],1⟩)) ⟨[(0,.own 0),(1,iV .i64 a1),(2,iV .i64 a2),(3,.im (.sc (.func (.func 78) #[] #[]))),(9,iV .i64 x3874),(10,iV .i64 x3831),(11,iV .i64 x3921)],[(0,some (.row 2 92 (x3920.map Z0         )))],1⟩) ?_ _ _ _ e4011
         clear H e4011 o4010;intro self ih x3920 x3921 o4010 H
         subst hbody
         refine LWp.round ?_
         refine AWp.seq ?_
         refine sO hP hn hm [] [(69,bV (decide (x3921≥(1:Int))))] [0,1,2,3,9,10,11,69] [] [0] ?_
         refine AWp.cond (decide (x3921≥(1:Int))) (by kernel_rfl) (fun c3922 => ?_) (fun c3922 => ?_)
         ·replace H:=iT c3922 H
          refine AWp.skip ?_
          refine AWp.seq ?_
          refine AWp.block ?_
          refine AWp.seq ?_
          obtain⟨b3931,p3932,q3933,H⟩:=Z02 H
          obtain⟨b3934,p3935,q3936,H⟩:=Z02 H
          obtain⟨t3937,e3938,H⟩:=Z4 H
          refine sR hP hn hm [(4,.c (Z0 b3931)),(9,.c (Z0 b3934)),(10,.call [] [] [] [] 0 (iV .i64 t3937) [])] [(84,bV (!(decide (t3937<(0:Int)))))] [0,1,2,3,9,10,11,84] [] [0] [_,_,_,_,_,_,_,_] ⟨p3932,Z09 Z0 p3932 q3933,Zi Z0 q3933,p3935,Z09 Z0 p3935 q3936,Zi Z0 q3936,Tryz.call78,Z0l.ok b3931 b3934 t3937 e3938,trivial⟩ ?_
          refine AWp.cond (!(decide (t3937<(0:Int)))) (by kernel_rfl) (fun c3939 => ?_) (fun c3939 => ?_)
          ·replace H:=iT c3939 H
           refine AWp.exit ?_
           obtain rfl:=sj H
           exact lf [(0,0)] [] [] (by kernel_rfl) ⟨rfl,rfl⟩
          ·replace H:=iF c3939 H
           refine AWp.skip ?_
           obtain⟨b3943,p3944,q3945,H⟩:=Z02 H
           refine rG hP hn hm [(9,.c (Z0 b3934)),(13,.c (Z0 b3931)),(15,.put (Z0 b3931) ((x3920.set (Int.toNat (x3921)) b3934).map Z0)),(17,.put (Z0 b3943) (((x3920.set (Int.toNat (x3921)) b3934).set (Int.toNat (i64.wrap (x3921-(1:Int)))) b3931).map Z0))] [] [0,1,2,3,9,10,11] [(0,some (.row 2 92 (((x3920.set (Int.toNat (x3921)) b3934).set (Int.toNat (i64.wrap (x3921-(1:Int)))) b3931).map Z0)))] [0] [_,_,_,_,_,_,_,_,_,(x3920.set (Int.toNat (x3921)) b3934).map Z0=(x3920.map Z0).set (Int.toNat (x3921)) (Z0t (Z0 b3931) 0 [iI .i64 b3934.f0,iI .i64 b3934.f1]),_,_,_,((x3920.set (Int.toNat (x3921)) b3934).set (Int.toNat (i64.wrap (x3921-(1:Int)))) b3931).map Z0=((x3920.set (Int.toNat (x3921)) b3934).map Z0).set (Int.toNat (i64.wrap (x3921-(1:Int)))) (Z0t (Z0 b3943) 0 [iI .i64 b3931.f0,iI .i64 b3931.f1])] ⟨p3935,Z09 Z0 p3935 q3936,Zi Z0 q3936,p3932,Z09 Z0 p3932 q3933,Zi Z0 q3933,p3932,Z09 Z0 p3932 q3933,Zi Z0 q3933,by exact set1 _ _ _ _,p3944,Z09 Z0 p3944 q3945,Zi Z0 q3945,by exact set1 _ _ _ _,trivial⟩ ?_
           refine rO hP hn hm [] [(11,iV .i64 (i64.wrap (x3921-(1:Int))))] [0,1,2,3,9,10,11] [] [0] ?_
           exact LWp.conv [(0,0)] [] [] (by kernel_rfl) (ih _ _ _ H)
         ·replace H:=iF c3922 H
          refine AWp.exit ?_
          obtain rfl:=sj H
          exact lf [(0,0)] [] [] (by kernel_rfl) ⟨rfl,rfl⟩
        ·obtain⟨x3946,rfl⟩:∃ z,z=o4010:=⟨_,rfl⟩
         rintro e s ⟨rfl,rfl⟩
         obtain rfl:=sj H
         exact lf [(0,0)] [] [] (by kernel_rfl) ⟨rfl,rfl⟩
       ·replace H:=iF c3895 H
        refine AWp.skip ?_
        obtain rfl:=sj H
        exact lf [(0,0)] [] [] (by kernel_rfl) ⟨rfl,rfl⟩
      ·obtain⟨x3947,rfl⟩:∃ z,z=o4008:=⟨_,rfl⟩
       rintro e s ⟨rfl,rfl⟩
       refine sO hP hn hm [] [(104,bV (decide ((i64.wrap (a2-x3874))≥(2:Int))))] [0,1,2,3,9,10,104] [] [0] ?_
       obtain⟨o4012,e4013,H⟩:=Z4 H
       refine AWp.mono (Q:=fun e s=>(match (generalizing:=false) o4012 with | x4000=>e = .normal∧s=⟨[(0,.own 0),(1,iV .i64 a1),(2,iV .i64 a2),(3,.im (.sc (.func (.func 78) #[] #[]))),(9,iV .i64 x3874),(10,iV .i64 x3831)],[(0,some (.row 2 92 (x4000.map Z0)))],1⟩)) (AWp.cv ?_) ?_
       ·replace H:=e4013;clear e4013
        refine AWp.cond (decide ((i64.wrap (a2-x3874))≥(2:Int))) (by kernel_rfl) (fun c3948 => ?_) (fun c3948 => ?_)
        ·replace H:=iT c3948 H
         refine sO hP hn hm [] [(12,iV .i64 (i64.wrap (x3874+(1:Int))))] [0,1,2,3,9,10,12] [] [0] ?_
         refine AWp.block ?_
         obtain⟨o4014,e4015,H⟩:=Z4 H
         refine AWp.loop (LWp.conv (inv:=[(0,0)]) (vk:=[]) (e0:=[]) (t:=⟨[(0,.own 0),(1,iV .i64 a1),(2,iV .i64 a2),(3,.im (.sc (.func (.func 78) #[] #[]))),(9,iV .i64 x3874),(10,iV .i64 x3831),(12,iV .i64 (i64.wrap (x3874+(1:Int))))],[(0,some (.row 2 92 (x3947.map Z0)))],1⟩) (by kernel_rfl) ?_)
         refine LWp.mono (Q:=fun e s=>(match (generalizing:=false) o4014 with | x3999=>e = .exit 6∧s=⟨[(0,.own 0),(1,iV .i64 a1),(2,iV .i64 a2),(3,.im (.sc (.func (.func 78) #[] #[]))),(9,iV .i64 x3874),(10,iV .i64 x3831)],[(0,some (.row 2 92 (x3999.map Z0)))],1⟩)) (LWp.cv (Zs (fun body hbody => ?_))) ?_
         ·refine                                                        Z8.l3.partial_correctness a1 a2 x3831 x3874 (motive:=fun x3973 x3974 o4014=>LWp Γ body (fun e s=>∃ t,Cv Γ s t∧(match (generalizing:=false) o4014 with | x3999=>e = .exit 6∧t=⟨[(0,.own 0),(1,iV .i64 a1),(2,iV .i64 a2),(3,.im (.sc (.func (.func 78) #[] #[]))),(9,iV .i64 x3874),(10,iV .i64 x3831)],[(0,some (.row 2 92 (x3999.map Z0         )))],1⟩)) ⟨[(0,.own 0),(1,iV .i64 a1),(2,iV .i64 a2),(3,.im (.sc (.func (.func 78) #[] #[]))),(9,iV .i64 x3874),(10,iV .i64 x3831),(12,iV .i64 x3974)],[(0,some (.row 2 92 (x3973.map Z0         )))],1⟩) ?_ _ _ _ e4015
          clear H e4015 o4014;intro self ih x3973 x3974 o4014 H
          subst hbody
          refine LWp.round ?_
          refine AWp.seq ?_
          refine sO hP hn hm [] [(109,bV (decide (x3974<a2)))] [0,1,2,3,9,10,12,109] [] [0] ?_
          refine AWp.cond (decide (x3974<a2)) (by kernel_rfl) (fun c3975 => ?_) (fun c3975 => ?_)
          ·replace H:=iT c3975 H
           refine AWp.skip ?_
           refine AWp.seq ?_
           refine AWp.block ?_
           refine AWp.seq ?_
           obtain⟨b3984,p3985,q3986,H⟩:=Z02 H
           obtain⟨b3987,p3988,q3989,H⟩:=Z02 H
           obtain⟨t3990,e3991,H⟩:=Z4 H
           refine sR hP hn hm [(4,.c (Z0 b3984)),(9,.c (Z0 b3987)),(10,.call [] [] [] [] 0 (iV .i64 t3990) [])] [(124,bV (!(decide (t3990<(0:Int)))))] [0,1,2,3,9,10,12,124] [] [0] [_,_,_,_,_,_,_,_] ⟨p3985,Z09 Z0 p3985 q3986,Zi Z0 q3986,p3988,Z09 Z0 p3988 q3989,Zi Z0 q3989,Tryz.call78,Z0l.ok b3984 b3987 t3990 e3991,trivial⟩ ?_
           refine AWp.cond (!(decide (t3990<(0:Int)))) (by kernel_rfl) (fun c3992 => ?_) (fun c3992 => ?_)
           ·replace H:=iT c3992 H
            refine AWp.exit ?_
            obtain rfl:=sj H
            exact lf [(0,0)] [] [] (by kernel_rfl) ⟨rfl,rfl⟩
           ·replace H:=iF c3992 H
            refine AWp.skip ?_
            obtain⟨b3996,p3997,q3998,H⟩:=Z02 H
            refine rG hP hn hm [(9,.c (Z0 b3987)),(13,.c (Z0 b3984)),(15,.put (Z0 b3984) ((x3973.set (Int.toNat (x3974)) b3987).map Z0)),(17,.put (Z0 b3996) (((x3973.set (Int.toNat (x3974)) b3987).set (Int.toNat (i64.wrap (x3974-(1:Int)))) b3984).map Z0))] [] [0,1,2,3,9,10,12] [(0,some (.row 2 92 (((x3973.set (Int.toNat (x3974)) b3987).set (Int.toNat (i64.wrap (x3974-(1:Int)))) b3984).map Z0)))] [0] [_,_,_,_,_,_,_,_,_,(x3973.set (Int.toNat (x3974)) b3987).map Z0=(x3973.map Z0).set (Int.toNat (x3974)) (Z0t (Z0 b3984) 0 [iI .i64 b3987.f0,iI .i64 b3987.f1]),_,_,_,((x3973.set (Int.toNat (x3974)) b3987).set (Int.toNat (i64.wrap (x3974-(1:Int)))) b3984).map Z0=((x3973.set (Int.toNat (x3974)) b3987).map Z0).set (Int.toNat (i64.wrap (x3974-(1:Int)))) (Z0t (Z0 b3996) 0 [iI .i64 b3984.f0,iI .i64 b3984.f1])] ⟨p3988,Z09 Z0 p3988 q3989,Zi Z0 q3989,p3985,Z09 Z0 p3985 q3986,Zi Z0 q3986,p3985,Z09 Z0 p3985 q3986,Zi Z0 q3986,by exact set1 _ _ _ _,p3997,Z09 Z0 p3997 q3998,Zi Z0 q3998,by exact set1 _ _ _ _,trivial⟩ ?_
            refine rO hP hn hm [] [(12,iV .i64 (i64.wrap (x3974+(1:Int))))] [0,1,2,3,9,10,12] [] [0] ?_
            exact LWp.conv [(0,0)] [] [] (by kernel_rfl) (ih _ _ _ H)
          ·replace H:=iF c3975 H
           refine AWp.exit ?_
           obtain rfl:=sj H
           exact lf [(0,0)] [] [] (by kernel_rfl) ⟨rfl,rfl⟩
         ·obtain⟨x3999,rfl⟩:∃ z,z=o4014:=⟨_,rfl⟩
          rintro e s ⟨rfl,rfl⟩
          obtain rfl:=sj H
          exact lf [(0,0)] [] [] (by kernel_rfl) ⟨rfl,rfl⟩
        ·replace H:=iF c3948 H
         refine AWp.skip ?_
         obtain rfl:=sj H
         exact lf [(0,0)] [] [] (by kernel_rfl) ⟨rfl,rfl⟩
       ·obtain⟨x4000,rfl⟩:∃ z,z=o4012:=⟨_,rfl⟩
        rintro e s ⟨rfl,rfl⟩
        refine rO hP hn hm [] [(10,iV .i64 (i64.wrap (x3831+(1:Int))))] [0,1,2,3,9,10] [] [0] ?_
        exact LWp.conv [(0,0)] [] [] (by kernel_rfl) (ih _ _ _ _ H)
  ·replace H:=iF c3832 H
   refine AWp.exit ?_
   obtain rfl:=sj H
   exact lf [(0,0)] [] [] (by kernel_rfl) ⟨rfl,rfl⟩
 ·rcases o4002 with rr | x4001
  ·skip
   rintro e s ⟨rfl,hfl,hres⟩
   obtain rfl:=sj H
   exact Exists.intro _ (And.intro (fun _ _ h=>h) (And.intro (.inl rfl) (And.intro hfl hres)))
  ·skip
   rintro e s ⟨rfl,rfl⟩
   refine sO hP hn hm [] [(8,bV false)] [8] [] [0] ?_
   refine AWp.conv (inv:=[(0,0)]) (vk:=[]) (e0:=[]) (t:=⟨[(8,bV false)],[(0,some (.row 2 92 (x4001.map Z0)))],1⟩) (by kernel_rfl) ?_
   refine AWp.ret ?_
   obtain rfl:=sj H
   exact rl (.inl rfl) rfl (by kernel_rfl) (by kernel_rfl)
end Go.Proofs.YtinhldbfifpakaaGreat.PvGL
