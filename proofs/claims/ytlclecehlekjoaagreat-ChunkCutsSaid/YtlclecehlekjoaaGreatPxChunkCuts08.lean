import Derived.Test.YtlclecehlekjoaaGreatProg
import Derived.Test.YtlclecehlekjoaaGreatPxChunkCuts07
set_option linter.unusedVariables false
set_option linter.unnecessarySimpa false
set_option linter.unusedSimpArgs false
set_option maxRecDepth 10000
namespace Go.Proofs.YtlclecehlekjoaaGreat.PvGK
open Go Go.Pv Go.IntKind
def Z0f.l0 (a0_c0:List Int) (a1:Int) (x2560:Int) (x2561:Int) (x2562:Int) (x2563:Int):Option (Int×Int×Int):=if(decide (x2563<(if(if(64:Int)<a1 then(64:Int) else a1)>(0:Int) then(if(64:Int)<a1 then(64:Int) else a1) else(0:Int))))=true then((Z0h.f a0_c0 x2560 x2561)>>=fun t2567=>((if t2567.1=true then(some (u64.wrap (((BitVec.toNat (BitVec.ofInt 64 (u64.wrap (x2562*2)) ||| BitVec.ofInt 64 (1:Int)):Nat):Int)))) else(some (u64.wrap (x2562*2)))):Option (Int))>>=fun x2570=>Z0f.l0 a0_c0 a1 t2567.2.1 t2567.2.2 x2570 (i64.wrap (x2563+(1:Int)))) else(some (x2560,x2561,x2562))
partial_fixpoint
def Z0f.f (a0_c0:List Int) (a0_c1:Int) (a0_c2:Int) (a1:Int):Option (Int×Int×Int):=(Z0f.l0 a0_c0 a1 a0_c1 a0_c2 0 0)>>=fun oo=>match oo with | (x2571,x2572,x2573)=>(if(x2572 != (0:Int))=true then(some (0,x2571,x2572)) else(some (x2573,x2571,x2572)))
theorem Z0f.ok (a0_c0:List Int) (a0_c1:Int) (a0_c2:Int) (a1:Int) (r:Int×Int×Int) (H:Z0f.f a0_c0 a0_c1 a0_c2 a1=some r):Pv.Fn Tryz.prog 30 [.ptr 0 0 0,iV .i64 a1] [(0,some (.box 111 (Z5 ⟨a0_c0,a0_c1,a0_c2⟩)))] 1 (fun x o=>x=iV .u64 r.1∧o=[(0,some (.box 111 (Z5 ⟨a0_c0,r.2.1,r.2.2⟩)))]):=by
 unfold Z0f.f at H
 refine Fn.bodyK [0] Tryz.func30 rfl rfl (fun Γ hP hn => ?_)
 have hm:Tryz.prog.follows .mixedOrders=true:=by kernel_rfl
 replace hn:Γ.n=24:=hn
 refine sO hP hn hm [] [] [0,1] [] [0] ?_
 refine sO hP hn hm [] [(5,iV .u64 0)] [0,1,5] [] [0] ?_
 refine AWp.seq ?_
 refine sO hP hn hm [(1,.more xMin),(2,.more xMax)] [(8,iV .i64 (if(if(64:Int)<a1 then(64:Int) else a1)>(0:Int) then(if(64:Int)<a1 then(64:Int) else a1) else(0:Int))),(9,iV .i64 0)] [0,5,8,9] [] [0] ?_
 refine AWp.block ?_
 obtain⟨o2575,e2576,H⟩:=Z3 H
 refine AWp.loop (LWp.conv (inv:=[(0,0)]) (vk:=[]) (e0:=[]) (t:=⟨[(0,.ptr 0 0 0),(5,iV .u64 0),(8,iV .i64 (if(if(64:Int)<a1 then(64:Int) else a1)>(0:Int) then(if(64:Int)<a1 then(64:Int) else a1) else(0:Int))),(9,iV .i64 0)],[(0,some (.box 111 (Z5 ⟨a0_c0,a0_c1,a0_c2⟩)))],1⟩) (by kernel_rfl) ?_)
 refine LWp.mono (Q:=fun e s=>(match (generalizing:=false) o2575 with | (x2571,x2572,x2573)=>e = .exit 0∧s=⟨[(0,.ptr 0 0 0),(5,iV .u64 x2573)],[(0,some (.box 111 (Z5 ⟨a0_c0,x2571,x2572⟩)))],1⟩)) (LWp.cv (Zn (fun body hbody => ?_))) ?_
 ·refine                   Z0f.l0.partial_correctness a0_c0 a1 (motive:=fun x2560 x2561 x2562 x2563 o2575=>LWp Γ body (fun e s=>∃ t,Cv Γ s t∧(match (generalizing:=false) o2575 with | (x2571,x2572,x2573)=>e = .exit 0∧t=⟨[(0,.ptr 0 0 0),(5,iV .u64 x2573)],[(0,some (.box 111 (Z5           ⟨a0_c0,x2571,x2572⟩)))],1⟩)) ⟨[(0,.ptr 0 0 0),(5,iV .u64 x2562),(8,iV .i64 (if(if(64:Int)<a1 then(64:Int) else a1)>(0:Int) then(if(64:Int)<a1 then(64:Int) else a1) else(0:Int))),(9,iV .i64 x2563)],[(0,some (.box 111 (Z5           ⟨a0_c0,x2560,x2561⟩)))],1⟩) ?_ _ _ _ _ _ e2576
  clear H e2576 o2575;intro self ih x2560 x2561 x2562 x2563 o2575 H
  subst hbody
  refine LWp.round ?_
  refine sO hP hn hm [] [(10,bV (decide (x2563<(if(if(64:Int)<a1 then(64:Int) else a1)>(0:Int) then(if(64:Int)<a1 then(64:Int) else a1) else(0:Int)))))] [0,5,8,9,10] [] [0] ?_
  refine AWp.seq ?_
  refine AWp.cond (decide (x2563<(if(if(64:Int)<a1 then(64:Int) else a1)>(0:Int) then(if(64:Int)<a1 then(64:Int) else a1) else(0:Int)))) (by kernel_rfl) (fun c2564 => ?_) (fun c2564 => ?_)
  ·replace H:=iT c2564 H
   refine AWp.skip ?_
   refine AWp.seq ?_
   refine AWp.block ?_
   refine sR hP hn hm [] [(5,iV .u64 (u64.wrap (x2562*2)))] [0,5,8,9] [] [0] [(0:Int)≤1] ⟨by decide,trivial⟩ ?_
   obtain⟨t2567,e2568,H⟩:=Z3 H
   refine sR hP hn hm [(1,.call [(0,0)] [(0,0)] [] [] 1 (bV t2567.1) [(0,some (.box 111 (Z5 ⟨a0_c0,t2567.2.1,t2567.2.2⟩)))])] [(14,bV t2567.1)] [0,5,8,9,14] [(0,some (.box 111 (Z5 ⟨a0_c0,t2567.2.1,t2567.2.2⟩)))] [0] [_,_] ⟨Tryz.call29,Z0h.ok a0_c0 x2560 x2561 t2567 e2568,trivial⟩ ?_
   obtain⟨o2577,e2578,H⟩:=Z3 H
   refine AWp.mono (Q:=fun e s=>(match (generalizing:=false) o2577 with | x2570=>e = .normal∧s=⟨[(0,.ptr 0 0 0),(5,iV .u64 x2570),(8,iV .i64 (if(if(64:Int)<a1 then(64:Int) else a1)>(0:Int) then(if(64:Int)<a1 then(64:Int) else a1) else(0:Int))),(9,iV .i64 x2563)],[(0,some (.box 111 (Z5 ⟨a0_c0,t2567.2.1,t2567.2.2⟩)))],1⟩)) (AWp.cv ?_) ?_
   ·replace H:=e2578;clear e2578
    refine AWp.cond t2567.1 (by kernel_rfl) (fun c2569 => ?_) (fun c2569 => ?_)
    ·replace H:=iT c2569 H
     refine rO hP hn hm [] [(5,iV .u64 (u64.wrap (((BitVec.toNat (BitVec.ofInt 64 (u64.wrap (x2562*2)) ||| BitVec.ofInt 64 (1:Int)):Nat):Int))))] [0,5,8,9] [] [0] ?_
     obtain rfl:=sj H
     exact lf [(0,0)] [] [] (by kernel_rfl) ⟨rfl,rfl⟩
    ·replace H:=iF c2569 H
     refine AWp.skip ?_
     obtain rfl:=sj H
     exact lf [(0,0)] [] [] (by kernel_rfl) ⟨rfl,rfl⟩
   ·obtain⟨x2570,rfl⟩:∃ z,z=o2577:=⟨_,rfl⟩
    rintro e s ⟨rfl,rfl⟩
    refine rO hP hn hm [] [(9,iV .i64 (i64.wrap (x2563+(1:Int))))] [0,5,8,9] [] [0] ?_
    exact LWp.conv [(0,0)] [] [] (by kernel_rfl) (ih _ _ _ _ _ H)
  ·replace H:=iF c2564 H
   refine AWp.exit ?_
   obtain rfl:=sj H
   exact lf [(0,0)] [] [] (by kernel_rfl) ⟨rfl,rfl⟩
 ·obtain⟨x2571,x2572,x2573⟩:=o2575
  rintro e s ⟨rfl,rfl⟩
  refine AWp.seq ?_
  refine sO hP hn hm [] [(22,bV (x2572 != (0:Int)))] [5,22] [] [0] ?_
  refine AWp.cond (x2572 != (0:Int)) (by kernel_rfl) (fun c2574 => ?_) (fun c2574 => ?_)
  ·replace H:=iT c2574 H
   refine sO hP hn hm [] [(4,iV .u64 0)] [4] [] [0] ?_
   refine AWp.conv (inv:=[(0,0)]) (vk:=[]) (e0:=[]) (t:=⟨[(4,iV .u64 0)],[(0,some (.box 111 (Z5 ⟨a0_c0,x2571,x2572⟩)))],1⟩) (by kernel_rfl) ?_
   refine AWp.ret ?_
   obtain rfl:=sj H
   exact rl (.inl rfl) rfl (by kernel_rfl) (by kernel_rfl)
  ·replace H:=iF c2574 H
   refine AWp.skip ?_
   refine sO hP hn hm [] [(4,iV .u64 x2573)] [4] [] [0] ?_
   refine AWp.conv (inv:=[(0,0)]) (vk:=[]) (e0:=[]) (t:=⟨[(4,iV .u64 x2573)],[(0,some (.box 111 (Z5 ⟨a0_c0,x2571,x2572⟩)))],1⟩) (by kernel_rfl) ?_
   refine AWp.ret ?_
   obtain rfl:=sj H
   exact rl (.inl rfl) rfl (by kernel_rfl) (by kernel_rfl)
def Zv.l0 (a0_c0:List Int) (t2585:List Int) (x2597:Int) (x2598:Int) (x2599:Int):Option (Int×Int×Int):=((if(decide (x2599<(i64.wrap ((t2585.length:Int)-(1:Int)))))=true then((Z0h.f a0_c0 x2597 x2598)>>=fun t2604=>some (t2604.2.1,t2604.2.2,t2604.1)) else(some (x2597,x2598,false))):Option (Int×Int×Bool))>>=fun oo=>match oo with | (x2606,x2607,x2608)=>(if x2608=true then(Zv.l0 a0_c0 t2585 x2606 x2607 (i64.wrap (x2599+(1:Int)))) else(some (x2606,x2607,x2599)))
partial_fixpoint
def Zv.f (a0_c0:List Int) (a0_c1:Int) (a0_c2:Int):Option (Int×Int×Int):=(Z2z.f)>>=fun t2585=>(Zv.l0 a0_c0 t2585 a0_c1 a0_c2 0)>>=fun oo=>match oo with | (x2610,x2611,x2612)=>((at? t2585 x2612)>>=fun b2618=>(Z0f.f a0_c0 x2610 x2611 b2618)>>=fun t2621=>((if(decide (x2612>(0:Int)))=true then((Z2o.f t2621.1)>>=fun t2630=>(at? t2585 (i64.wrap (x2612-(1:Int))))>>=fun b2632=>some (decide (t2630≤b2632))) else(some false)):Option (Bool))>>=fun x2635=>((if x2635=true then((Zw.f a0_c0 t2621.2.1 t2621.2.2 6)>>=fun t2639=>some t2639) else(some t2621.2.2)):Option (Int))>>=fun x2641=>if(x2641 != (0:Int))=true then(some (0,t2621.2.1,x2641)) else(some (t2621.1,t2621.2.1,x2641)))
theorem Zv.ok (a0_c0:List Int) (a0_c1:Int) (a0_c2:Int) (r:Int×Int×Int) (H:Zv.f a0_c0 a0_c1 a0_c2=some r):Pv.Fn Tryz.prog 67 [.ptr 0 0 0] [(0,some (.box 111 (Z5 ⟨a0_c0,a0_c1,a0_c2⟩)))] 1 (fun x o=>x=iV .u64 r.1∧o=[(0,some (.box 111 (Z5 ⟨a0_c0,r.2.1,r.2.2⟩)))]):=by
 unfold Zv.f at H
 refine Fn.bodyK [0] Tryz.func67 rfl rfl (fun Γ hP hn => ?_)
 have hm:Tryz.prog.follows .mixedOrders=true:=by kernel_rfl
 replace hn:Γ.n=44:=hn
 refine sO hP hn hm [] [] [0] [] [0] ?_
 obtain⟨t2585,e2586,H⟩:=Z3 H
 refine sR hP hn hm [(0,.call [] [(0,1)] [] [1] 0 (.own 0) [(0,some (.row 1 3 (t2585.map (Z1 .i64))))])] [(3,.own 1)] [0,3] [(1,some (.row 1 3 (t2585.map (Z1 .i64))))] [0,1] [_,_] ⟨Tryz.call57,Z2z.ok  t2585 e2586,trivial⟩ ?_
 refine sO hP hn hm [] [(4,iV .i64 0)] [0,3,4] [] [0,1] ?_
 refine AWp.seq ?_
 refine AWp.block ?_
 obtain⟨o2643,e2644,H⟩:=Z3 H
 refine AWp.loop (LWp.conv (inv:=[(0,0),(1,3)]) (vk:=[]) (e0:=[]) (t:=⟨[(0,.ptr 0 0 0),(3,.own 3),(4,iV .i64 0)],[(0,some (.box 111 (Z5 ⟨a0_c0,a0_c1,a0_c2⟩))),(3,some (.row 1 3 (t2585.map (Z1 .i64))))],1⟩) (by kernel_rfl) ?_)
 refine LWp.mono (Q:=fun e s=>(match (generalizing:=false) o2643 with | (x2610,x2611,x2612)=>e = .exit 0∧s=⟨[(0,.ptr 0 0 0),(3,.own 5),(4,iV .i64 x2612)],[(0,some (.box 111 (Z5 ⟨a0_c0,x2610,x2611⟩))),(5,some (.row 1 3 (t2585.map (Z1 .i64))))],1⟩)) (LWp.cv (Zn (fun body hbody => ?_))) ?_
 ·refine                      Zv.l0.partial_correctness a0_c0 t2585 (motive:=fun x2597 x2598 x2599 o2643=>LWp Γ body (fun e s=>∃ t,Cv Γ s t∧(match (generalizing:=false) o2643 with | (x2610,x2611,x2612)=>e = .exit 0∧t=⟨[(0,.ptr 0 0 0),(3,.own 5),(4,iV .i64 x2612)],[(0,some (.box 111 (Z5           ⟨a0_c0,x2610,x2611⟩))),(5,some (.row 1 3 (t2585.map (Z1     .i64))))],1⟩)) ⟨[(0,.ptr 0 0 0),(3,.own 3),(4,iV .i64 x2599)],[(0,some (.box 111 (Z5           ⟨a0_c0,x2597,x2598⟩))),(3,some (.row 1 3 (t2585.map (Z1     .i64))))],1⟩) ?_ _ _ _ _ e2644
  clear H e2644 o2643;intro self ih x2597 x2598 x2599 o2643 H
  subst hbody
  refine LWp.round ?_
  refine AWp.seq ?_
  refine AWp.seq ?_
  obtain⟨o2645,e2646,H⟩:=Z3 H
  refine AWp.mono (Q:=fun e s=>(match (generalizing:=false) o2645 with | (x2606,x2607,x2608)=>e = .normal∧s=⟨[(0,.ptr 0 0 0),(3,.own 4),(4,iV .i64 x2599),(15,bV x2608)],[(0,some (.box 111 (Z5 ⟨a0_c0,x2606,x2607⟩))),(4,some (.row 1 3 (t2585.map (Z1 .i64))))],1⟩)) (AWp.cv ?_) ?_
  ·replace H:=e2646;clear e2646
   rcases Bool.eq_false_or_eq_true (decide (x2599<(i64.wrap ((t2585.length:Int)-(1:Int))))) with c2603 | c2603
   ·replace H:=iT c2603 H
    obtain⟨t2604,e2605,H⟩:=Z3 H
    refine rG hP hn hm [(2,.any (iV .i64 (t2585.length:Int))),(5,.b true),(7,.call [(0,0)] [(0,0)] [] [] 1 (bV t2604.1) [(0,some (.box 111 (Z5 ⟨a0_c0,t2604.2.1,t2604.2.2⟩)))])] [(13,.ptr 0 0 0),(14,bV t2604.1),(15,bV t2604.1)] [0,3,4,13,14,15] [(0,some (.box 111 (Z5 ⟨a0_c0,t2604.2.1,t2604.2.2⟩)))] [0,3] [((t2585.map (Z1 .i64)).length:Int)=(t2585.length:Int),_,_,_] ⟨by rw[Zi],c2603,Tryz.call29,Z0h.ok a0_c0 x2597 x2598 t2604 e2605,trivial⟩ ?_
    obtain rfl:=sj H
    exact lf [(0,0),(3,4)] [] [] (by kernel_rfl) ⟨rfl,rfl⟩
   ·replace H:=iF c2603 H
    refine rG hP hn hm [(2,.any (iV .i64 (t2585.length:Int))),(5,.b false)] [(15,bV false)] [0,3,4,15] [] [0,3] [((t2585.map (Z1 .i64)).length:Int)=(t2585.length:Int),_] ⟨by rw[Zi],c2603,trivial⟩ ?_
    obtain rfl:=sj H
    exact lf [(0,0),(3,4)] [] [] (by kernel_rfl) ⟨rfl,rfl⟩
  ·obtain⟨x2606,x2607,x2608⟩:=o2645
   rintro e s ⟨rfl,rfl⟩
   refine AWp.cond x2608 (by kernel_rfl) (fun c2609 => ?_) (fun c2609 => ?_)
   ·replace H:=iT c2609 H
    refine AWp.skip ?_
    refine AWp.block ?_
    refine rO hP hn hm [] [(4,iV .i64 (i64.wrap (x2599+(1:Int))))] [0,3,4] [] [0,4] ?_
    exact LWp.conv [(0,0),(4,3)] [] [] (by kernel_rfl) (ih _ _ _ _ H)
   ·replace H:=iF c2609 H
    refine AWp.exit ?_
    obtain rfl:=sj H
    exact lf [(0,0),(4,5)] [] [] (by kernel_rfl) ⟨rfl,rfl⟩
 ·obtain⟨x2610,x2611,x2612⟩:=o2643
  rintro e s ⟨rfl,rfl⟩
  obtain⟨b2618,p2619,q2620,H⟩:=Z03 H
  obtain⟨t2621,e2622,H⟩:=Z3 H
  refine sR hP hn hm [(4,.c ((Z1 .i64) b2618)),(5,.call [(0,0)] [(0,0)] [] [] 1 (iV .u64 t2621.1) [(0,some (.box 111 (Z5 ⟨a0_c0,t2621.2.1,t2621.2.2⟩)))])] [(5,iV .u64 t2621.1)] [0,3,4,5] [(0,some (.box 111 (Z5 ⟨a0_c0,t2621.2.1,t2621.2.2⟩)))] [0,5] [_,_,_,_,_] ⟨p2619,Z1u (Z1 .i64) p2619 q2620,Zf (Z1 .i64) q2620,Tryz.call30,Z0f.ok a0_c0 x2610 x2611 b2618 t2621 e2622,trivial⟩ ?_
  refine AWp.seq ?_
  refine AWp.seq ?_
  obtain⟨o2647,e2648,H⟩:=Z3 H
  refine AWp.mono (Q:=fun e s=>(match (generalizing:=false) o2647 with | x2635=>e = .normal∧s=⟨[(0,.ptr 0 0 0),(5,iV .u64 t2621.1),(35,bV x2635)],[(0,some (.box 111 (Z5 ⟨a0_c0,t2621.2.1,t2621.2.2⟩)))],1⟩)) (AWp.cv ?_) ?_
  ·replace H:=e2648;clear e2648
   rcases Bool.eq_false_or_eq_true (decide (x2612>(0:Int))) with c2629 | c2629
   ·replace H:=iT c2629 H
    obtain⟨t2630,e2631,H⟩:=Z3 H
    obtain⟨b2632,p2633,q2634,H⟩:=Z03 H
    refine rG hP hn hm [(2,.b true),(4,.call [] [] [] [] 0 (iV .i64 t2630) []),(9,.c ((Z1 .i64) b2632))] [(35,bV (decide (t2630≤b2632)))] [0,5,35] [] [0] [_,_,_,_,_,_] ⟨c2629,Tryz.call59,Z2o.ok t2621.1 t2630 e2631,p2633,Z1u (Z1 .i64) p2633 q2634,Zf (Z1 .i64) q2634,trivial⟩ ?_
    obtain rfl:=sj H
    exact lf [(0,0)] [] [] (by kernel_rfl) ⟨rfl,rfl⟩
   ·replace H:=iF c2629 H
    refine rG hP hn hm [(2,.b false)] [(35,bV false)] [0,5,35] [] [0] [_] ⟨c2629,trivial⟩ ?_
    obtain rfl:=sj H
    exact lf [(0,0)] [] [] (by kernel_rfl) ⟨rfl,rfl⟩
  ·obtain⟨x2635,rfl⟩:∃ z,z=o2647:=⟨_,rfl⟩
   rintro e s ⟨rfl,rfl⟩
   obtain⟨o2649,e2650,H⟩:=Z3 H
   refine AWp.mono (Q:=fun e s=>(match (generalizing:=false) o2649 with | x2641=>e = .normal∧s=⟨[(0,.ptr 0 0 0),(5,iV .u64 t2621.1)],[(0,some (.box 111 (Z5 ⟨a0_c0,t2621.2.1,x2641⟩)))],1⟩)) (AWp.cv ?_) ?_
   ·replace H:=e2650;clear e2650
    refine AWp.cond x2635 (by kernel_rfl) (fun c2636 => ?_) (fun c2636 => ?_)
    ·replace H:=iT c2636 H
     obtain⟨t2639,e2640,H⟩:=Z3 H
     refine rG hP hn hm [(1,.call [(0,0)] [(0,0)] [] [] 1 (.tup []) [(0,some (.box 111 (Z5 ⟨a0_c0,t2621.2.1,t2639⟩)))])] [] [0,5] [(0,some (.box 111 (Z5 ⟨a0_c0,t2621.2.1,t2639⟩)))] [0] [_,_] ⟨Tryz.call65,Zw.ok a0_c0 t2621.2.1 t2621.2.2 6 t2639 e2640,trivial⟩ ?_
     obtain rfl:=sj H
     exact lf [(0,0)] [] [] (by kernel_rfl) ⟨rfl,rfl⟩
    ·replace H:=iF c2636 H
     refine AWp.skip ?_
     obtain rfl:=sj H
     exact lf [(0,0)] [] [] (by kernel_rfl) ⟨rfl,rfl⟩
   ·obtain⟨x2641,rfl⟩:∃ z,z=o2649:=⟨_,rfl⟩
    rintro e s ⟨rfl,rfl⟩
    refine AWp.seq ?_
    refine sO hP hn hm [] [(42,bV (x2641 != (0:Int)))] [5,42] [] [0] ?_
    refine AWp.cond (x2641 != (0:Int)) (by kernel_rfl) (fun c2642 => ?_) (fun c2642 => ?_)
    ·replace H:=iT c2642 H
     refine sO hP hn hm [] [(2,iV .u64 0)] [2] [] [0] ?_
     refine AWp.conv (inv:=[(0,0)]) (vk:=[]) (e0:=[]) (t:=⟨[(2,iV .u64 0)],[(0,some (.box 111 (Z5 ⟨a0_c0,t2621.2.1,x2641⟩)))],1⟩) (by kernel_rfl) ?_
     refine AWp.ret ?_
     obtain rfl:=sj H
     exact rl (.inl rfl) rfl (by kernel_rfl) (by kernel_rfl)
    ·replace H:=iF c2642 H
     refine AWp.skip ?_
     refine sO hP hn hm [] [(2,iV .u64 t2621.1)] [2] [] [0] ?_
     refine AWp.conv (inv:=[(0,0)]) (vk:=[]) (e0:=[]) (t:=⟨[(2,iV .u64 t2621.1)],[(0,some (.box 111 (Z5 ⟨a0_c0,t2621.2.1,x2641⟩)))],1⟩) (by kernel_rfl) ?_
     refine AWp.ret ?_
     obtain rfl:=sj H
     exact rl (.inl rfl) rfl (by kernel_rfl) (by kernel_rfl)
def Z5m.f (a0:Int):Option (Unit):=some ()
theorem Z5m.ok (a0:Int) (r:Unit) (H:Z5m.f a0=some r):Pv.Fn Tryz.prog 66 [iV .u64 a0] [] 0 (fun x o=>x=iV .i64 (i64.wrap (((BitVec.toNat (BitVec.ofInt 64 (i64.wrap (Int.fdiv a0 2)) ^^^ BitVec.ofInt 64 (i64.wrap (0-(i64.wrap (u64.wrap (((BitVec.toNat (BitVec.ofInt 64 a0 &&& BitVec.ofInt 64 (1:Int)):Nat):Int))))))):Nat):Int)))∧o=[]):=by
 unfold Z5m.f at H
 refine Fn.bodyK [] Tryz.func66 rfl rfl (fun Γ hP hn => ?_)
 have hm:Tryz.prog.follows .mixedOrders=true:=by kernel_rfl
 replace hn:Γ.n=11:=hn
 refine sO hP hn hm [] [] [0] [] [] ?_
 refine sR hP hn hm [] [(2,iV .i64 (i64.wrap (((BitVec.toNat (BitVec.ofInt 64 (i64.wrap (Int.fdiv a0 2)) ^^^ BitVec.ofInt 64 (i64.wrap (0-(i64.wrap (u64.wrap (((BitVec.toNat (BitVec.ofInt 64 a0 &&& BitVec.ofInt 64 (1:Int)):Nat):Int))))))):Nat):Int))))] [2] [] [] [(0:Int)≤1] ⟨by decide,trivial⟩ ?_
 refine AWp.conv (inv:=[]) (vk:=[]) (e0:=[]) (t:=⟨[(2,iV .i64 (i64.wrap (((BitVec.toNat (BitVec.ofInt 64 (i64.wrap (Int.fdiv a0 2)) ^^^ BitVec.ofInt 64 (i64.wrap (0-(i64.wrap (u64.wrap (((BitVec.toNat (BitVec.ofInt 64 a0 &&& BitVec.ofInt 64 (1:Int)):Nat):Int))))))):Nat):Int))))],[],0⟩) (by kernel_rfl) ?_
 refine AWp.ret ?_
 obtain rfl:=sj H
 exact rl (.inl rfl) rfl (by kernel_rfl) (by kernel_rfl)
def Zz.f (a0_c0:List Int) (a0_c1:Int) (a0_c2:Int):Option (Int×Int×Int):=(Zv.f a0_c0 a0_c1 a0_c2)>>=fun t2655=>(Z5m.f t2655.1)>>=fun t2657=>some (i64.wrap (((BitVec.toNat (BitVec.ofInt 64 (i64.wrap (Int.fdiv t2655.1 2)) ^^^ BitVec.ofInt 64 (i64.wrap (0-(i64.wrap (u64.wrap (((BitVec.toNat (BitVec.ofInt 64 t2655.1 &&& BitVec.ofInt 64 (1:Int)):Nat):Int))))))):Nat):Int)),t2655.2.1,t2655.2.2)
theorem Zz.ok (a0_c0:List Int) (a0_c1:Int) (a0_c2:Int) (r:Int×Int×Int) (H:Zz.f a0_c0 a0_c1 a0_c2=some r):Pv.Fn Tryz.prog 31 [.ptr 0 0 0] [(0,some (.box 111 (Z5 ⟨a0_c0,a0_c1,a0_c2⟩)))] 1 (fun x o=>x=iV .i64 r.1∧o=[(0,some (.box 111 (Z5 ⟨a0_c0,r.2.1,r.2.2⟩)))]):=by
 unfold Zz.f at H
 refine Fn.bodyK [0] Tryz.func31 rfl rfl (fun Γ hP hn => ?_)
 have hm:Tryz.prog.follows .mixedOrders=true:=by kernel_rfl
 replace hn:Γ.n=6:=hn
 refine sO hP hn hm [] [] [0] [] [0] ?_
 obtain⟨t2655,e2656,H⟩:=Z3 H
 obtain⟨t2657,e2658,H⟩:=Z3 H
 refine sR hP hn hm [(1,.call [(0,0)] [(0,0)] [] [] 1 (iV .u64 t2655.1) [(0,some (.box 111 (Z5 ⟨a0_c0,t2655.2.1,t2655.2.2⟩)))]),(2,.call [] [] [] [] 0 (iV .i64 (i64.wrap (((BitVec.toNat (BitVec.ofInt 64 (i64.wrap (Int.fdiv t2655.1 2)) ^^^ BitVec.ofInt 64 (i64.wrap (0-(i64.wrap (u64.wrap (((BitVec.toNat (BitVec.ofInt 64 t2655.1 &&& BitVec.ofInt 64 (1:Int)):Nat):Int))))))):Nat):Int)))) [])] [(2,iV .i64 (i64.wrap (((BitVec.toNat (BitVec.ofInt 64 (i64.wrap (Int.fdiv t2655.1 2)) ^^^ BitVec.ofInt 64 (i64.wrap (0-(i64.wrap (u64.wrap (((BitVec.toNat (BitVec.ofInt 64 t2655.1 &&& BitVec.ofInt 64 (1:Int)):Nat):Int))))))):Nat):Int))))] [2] [(0,some (.box 111 (Z5 ⟨a0_c0,t2655.2.1,t2655.2.2⟩)))] [0] [_,_,_,_] ⟨Tryz.call67,Zv.ok a0_c0 a0_c1 a0_c2 t2655 e2656,Tryz.call66,Z5m.ok t2655.1 t2657 e2658,trivial⟩ ?_
 refine AWp.conv (inv:=[(0,0)]) (vk:=[]) (e0:=[]) (t:=⟨[(2,iV .i64 (i64.wrap (((BitVec.toNat (BitVec.ofInt 64 (i64.wrap (Int.fdiv t2655.1 2)) ^^^ BitVec.ofInt 64 (i64.wrap (0-(i64.wrap (u64.wrap (((BitVec.toNat (BitVec.ofInt 64 t2655.1 &&& BitVec.ofInt 64 (1:Int)):Nat):Int))))))):Nat):Int))))],[(0,some (.box 111 (Z5 ⟨a0_c0,t2655.2.1,t2655.2.2⟩)))],1⟩) (by kernel_rfl) ?_
 refine AWp.ret ?_
 obtain rfl:=sj H
 exact rl (.inl rfl) rfl (by kernel_rfl) (by kernel_rfl)
def Zr.f (a0_c0:List Int) (a0_c1:Int) (a0_c2:Int) (a1:Int):Option (Int×Int×Int):=(Zv.f a0_c0 a0_c1 a0_c2)>>=fun t2669=>((if(decide (a1<(0:Int)))=true then(some true) else(some (decide (t2669.1>(u64.wrap (a1)))))):Option (Bool))>>=fun x2673=>if x2673=true then((Zw.f a0_c0 t2669.2.1 t2669.2.2 9)>>=fun t2677=>some (0,t2669.2.1,t2677)) else(some (i64.wrap (t2669.1),t2669.2.1,t2669.2.2))
theorem Zr.ok (a0_c0:List Int) (a0_c1:Int) (a0_c2:Int) (a1:Int) (r:Int×Int×Int) (H:Zr.f a0_c0 a0_c1 a0_c2 a1=some r):Pv.Fn Tryz.prog 68 [.ptr 0 0 0,iV .i64 a1] [(0,some (.box 111 (Z5 ⟨a0_c0,a0_c1,a0_c2⟩)))] 1 (fun x o=>x=iV .i64 r.1∧o=[(0,some (.box 111 (Z5 ⟨a0_c0,r.2.1,r.2.2⟩)))]):=by
 unfold Zr.f at H
 refine Fn.bodyK [0] Tryz.func68 rfl rfl (fun Γ hP hn => ?_)
 have hm:Tryz.prog.follows .mixedOrders=true:=by kernel_rfl
 replace hn:Γ.n=20:=hn
 refine sO hP hn hm [] [] [0,1] [] [0] ?_
 obtain⟨t2669,e2670,H⟩:=Z3 H
 refine sR hP hn hm [(1,.call [(0,0)] [(0,0)] [] [] 1 (iV .u64 t2669.1) [(0,some (.box 111 (Z5 ⟨a0_c0,t2669.2.1,t2669.2.2⟩)))])] [(5,iV .u64 t2669.1)] [0,1,5] [(0,some (.box 111 (Z5 ⟨a0_c0,t2669.2.1,t2669.2.2⟩)))] [0] [_,_] ⟨Tryz.call67,Zv.ok a0_c0 a0_c1 a0_c2 t2669 e2670,trivial⟩ ?_
 refine AWp.seq ?_
 refine AWp.seq ?_
 obtain⟨o2679,e2680,H⟩:=Z3 H
 refine AWp.mono (Q:=fun e s=>(match (generalizing:=false) o2679 with | x2673=>e = .normal∧s=⟨[(0,.ptr 0 0 0),(5,iV .u64 t2669.1),(15,bV x2673)],[(0,some (.box 111 (Z5 ⟨a0_c0,t2669.2.1,t2669.2.2⟩)))],1⟩)) (AWp.cv ?_) ?_
 ·replace H:=e2680;clear e2680
  rcases Bool.eq_false_or_eq_true (decide (a1<(0:Int))) with c2672 | c2672
  ·replace H:=iT c2672 H
   refine rG hP hn hm [(2,.b true)] [(15,bV true)] [0,5,15] [] [0] [_] ⟨c2672,trivial⟩ ?_
   obtain rfl:=sj H
   exact lf [(0,0)] [] [] (by kernel_rfl) ⟨rfl,rfl⟩
  ·replace H:=iF c2672 H
   refine rG hP hn hm [(2,.b false)] [(15,bV (decide (t2669.1>(u64.wrap (a1)))))] [0,5,15] [] [0] [_] ⟨c2672,trivial⟩ ?_
   obtain rfl:=sj H
   exact lf [(0,0)] [] [] (by kernel_rfl) ⟨rfl,rfl⟩
 ·obtain⟨x2673,rfl⟩:∃ z,z=o2679:=⟨_,rfl⟩
  rintro e s ⟨rfl,rfl⟩
  refine AWp.cond x2673 (by kernel_rfl) (fun c2674 => ?_) (fun c2674 => ?_)
  ·replace H:=iT c2674 H
   obtain⟨t2677,e2678,H⟩:=Z3 H
   refine sR hP hn hm [(1,.call [(0,0)] [(0,0)] [] [] 1 (.tup []) [(0,some (.box 111 (Z5 ⟨a0_c0,t2669.2.1,t2677⟩)))])] [] [] [(0,some (.box 111 (Z5 ⟨a0_c0,t2669.2.1,t2677⟩)))] [0] [_,_] ⟨Tryz.call65,Zw.ok a0_c0 t2669.2.1 t2669.2.2 9 t2677 e2678,trivial⟩ ?_
   refine sO hP hn hm [] [(4,iV .i64 0)] [4] [] [0] ?_
   refine AWp.conv (inv:=[(0,0)]) (vk:=[]) (e0:=[]) (t:=⟨[(4,iV .i64 0)],[(0,some (.box 111 (Z5 ⟨a0_c0,t2669.2.1,t2677⟩)))],1⟩) (by kernel_rfl) ?_
   refine AWp.ret ?_
   obtain rfl:=sj H
   exact rl (.inl rfl) rfl (by kernel_rfl) (by kernel_rfl)
  ·replace H:=iF c2674 H
   refine AWp.skip ?_
   refine sO hP hn hm [] [(4,iV .i64 (i64.wrap (t2669.1)))] [4] [] [0] ?_
   refine AWp.conv (inv:=[(0,0)]) (vk:=[]) (e0:=[]) (t:=⟨[(4,iV .i64 (i64.wrap (t2669.1)))],[(0,some (.box 111 (Z5 ⟨a0_c0,t2669.2.1,t2669.2.2⟩)))],1⟩) (by kernel_rfl) ?_
   refine AWp.ret ?_
   obtain rfl:=sj H
   exact rl (.inl rfl) rfl (by kernel_rfl) (by kernel_rfl)
def Z0g.f (a0_c0:List Int) (a0_c1:Int) (a0_c2:Int):Option (Unit):=some ()
theorem Z0g.ok (a0_c0:List Int) (a0_c1:Int) (a0_c2:Int) (r:Unit) (H:Z0g.f a0_c0 a0_c1 a0_c2=some r):Pv.Fn Tryz.prog 69 [.ptr 0 0 0] [(0,some (.box 111 (Z5 ⟨a0_c0,a0_c1,a0_c2⟩)))] 1 (fun x o=>x=iV .i64 a0_c2∧o=[(0,some (.box 111 (Z5 ⟨a0_c0,a0_c1,a0_c2⟩)))]):=by
 unfold Z0g.f at H
 refine Fn.bodyK [0] Tryz.func69 rfl rfl (fun Γ hP hn => ?_)
 have hm:Tryz.prog.follows .mixedOrders=true:=by kernel_rfl
 replace hn:Γ.n=7:=hn
 refine sO hP hn hm [] [] [0] [] [0] ?_
 refine sO hP hn hm [] [(2,iV .i64 a0_c2)] [2] [] [0] ?_
 refine AWp.conv (inv:=[(0,0)]) (vk:=[]) (e0:=[]) (t:=⟨[(2,iV .i64 a0_c2)],[(0,some (.box 111 (Z5 ⟨a0_c0,a0_c1,a0_c2⟩)))],1⟩) (by kernel_rfl) ?_
 refine AWp.ret ?_
 obtain rfl:=sj H
 exact rl (.inl rfl) rfl (by kernel_rfl) (by kernel_rfl)
def Z2t.l0 (a0:Zc) (a1:Int) (x2765:Int) (x2766:Int):Option (Bool ⊕ Unit):=if(decide (x2766<(a0.f1.length:Int)))=true then((at? a0.f1 x2766)>>=fun b2771=>((if(decide (b2771.f1<(1:Int)))=true then(some true) else(if(decide (b2771.f1>(i64.wrap (a1-x2765))))=true then(some true) else(if(decide (b2771.f0<(0:Int)))=true then(some true) else(if(decide (b2771.f0>(524288:Int)))=true then(some true) else(some (!((x2766==(0:Int))==(b2771.f0==(0:Int))))))))):Option (Bool))>>=fun x2782=>if x2782=true then(some (.inl false)) else(Z2t.l0 a0 a1 (i64.wrap (x2765+b2771.f1)) (i64.wrap (x2766+(1:Int))))) else(some (.inr ()))
partial_fixpoint
def Z2t.f (a0:Zc) (a1:Int):Option (Bool):=if((a0.f1.length:Int)==(0:Int))=true then(some (a0.f0==(0:Int))) else((Z2t.l0 a0 a1 0 0)>>=fun oo=>match oo with | .inl rr=>(some rr) | .inr _=>(((if(decide (a0.f0≥(-262144)))=true then(some (decide (a0.f0≤(262144:Int)))) else(some false)):Option (Bool))>>=fun x2786=>some x2786))
theorem Z2t.ok (a0:Zc) (a1:Int) (r:Bool) (H:Z2t.f a0 a1=some r):Pv.Fn Tryz.prog 70 [.agg (Zb a0),iV .i64 a1] [] 0 (fun x o=>x=bV r∧o=[]):=by
 unfold Z2t.f at H
 refine Fn.bodyK [] Tryz.func70 rfl rfl (fun Γ hP hn => ?_)
 have hm:Tryz.prog.follows .mixedOrders=true:=by kernel_rfl
 replace hn:Γ.n=65:=hn
 refine sO hP hn hm [(0,.k 0)] [(2,.ptr 0 0 0)] [1,2] [(0,some (.box 53 (Zb a0)))] [0] ?_
 refine AWp.seq ?_
 refine sR hP hn hm [(2,.any (iV .i64 (a0.f1.length:Int)))] [(11,bV ((a0.f1.length:Int)==(0:Int)))] [1,2,11] [] [0] [((a0.f1.map Z02).length:Int)=(a0.f1.length:Int)] ⟨by rw[Zi],trivial⟩ ?_
 refine AWp.cond ((a0.f1.length:Int)==(0:Int)) (by kernel_rfl) (fun c2747 => ?_) (fun c2747 => ?_)
 ·replace H:=iT c2747 H
  refine sO hP hn hm [] [(4,bV (a0.f0==(0:Int)))] [4] [] [] ?_
  refine AWp.conv (inv:=[]) (vk:=[]) (e0:=[]) (t:=⟨[(4,bV (a0.f0==(0:Int)))],[],0⟩) (by kernel_rfl) ?_
  refine AWp.ret ?_
  obtain rfl:=sj H
  exact rl (.inl rfl) rfl (by kernel_rfl) (by kernel_rfl)
 ·replace H:=iF c2747 H
  refine AWp.skip ?_
  refine sO hP hn hm [] [(5,iV .i64 0)] [1,2,5] [] [0] ?_
  refine AWp.seq ?_
  refine sR hP hn hm [(2,.any (iV .i64 (a0.f1.length:Int)))] [(16,.im (.row (a0.f1.map Z02))),(17,iV .i64 (a0.f1.length:Int)),(18,iV .i64 0)] [1,2,5,16,17,18] [] [0] [((a0.f1.map Z02).length:Int)=(a0.f1.length:Int)] ⟨by rw[Zi],trivial⟩ ?_
  refine AWp.block ?_
  obtain⟨o2787,e2788,H⟩:=Z3 H
  refine AWp.loop (LWp.conv (inv:=[(0,4)]) (vk:=[]) (e0:=[]) (t:=⟨[(1,iV .i64 a1),(2,.ptr 4 0 0),(5,iV .i64 0),(16,.im (.row (a0.f1.map Z02))),(17,iV .i64 (a0.f1.length:Int)),(18,iV .i64 0)],[(4,some (.box 53 (Zb a0)))],0⟩) (by kernel_rfl) ?_)
  refine LWp.mono (Q:=fun e s=>(match (generalizing:=false) o2787 with | .inl rr=>e = .ret∧s.floor=0∧Z1x Tryz.prog Tryz.f70 s=some (bV rr)∧([]:List (Nat×Option MObj))=[] | .inr _=>e = .exit 0∧s=⟨[(2,.ptr 8 0 0)],[(8,some (.box 53 (Zb a0)))],0⟩)) (LWp.cv (Zn (fun body hbody => ?_))) ?_
  ·refine          Z2t.l0.partial_correctness a0 a1 (motive:=fun x2765 x2766 o2787=>LWp Γ body (fun e s=>∃ t,Cv Γ s t∧(match (generalizing:=false) o2787 with | .inl rr=>e = .ret∧t.floor=0∧Z1x   Tryz.prog Tryz.f70 t=some (bV rr)∧([]:List (Nat×Option MObj))=[] | .inr _=>e = .exit 0∧t=⟨[(2,.ptr 8 0 0)],[(8,some (.box 53 (Zb           a0)))],0⟩)) ⟨[(1,iV .i64 a1),(2,.ptr 4 0 0),(5,iV .i64 x2765),(16,.im (.row (a0.f1.map Z02  ))),(17,iV .i64 (a0.f1.length:Int)),(18,iV .i64 x2766)],[(4,some (.box 53 (Zb           a0)))],0⟩) ?_ _ _ _ e2788
   clear H e2788 o2787;intro self ih x2765 x2766 o2787 H
   subst hbody
   refine LWp.round ?_
   refine sO hP hn hm [] [(19,bV (decide (x2766<(a0.f1.length:Int))))] [1,2,5,16,17,18,19] [] [4] ?_
   refine AWp.seq ?_
   refine AWp.cond (decide (x2766<(a0.f1.length:Int))) (by kernel_rfl) (fun c2767 => ?_) (fun c2767 => ?_)
   ·replace H:=iT c2767 H
    refine AWp.skip ?_
    refine AWp.seq ?_
    refine AWp.block ?_
    obtain⟨b2771,p2772,q2773,H⟩:=Z03 H
    refine sR hP hn hm [(1,.c (Z02 b2771)),(3,.k 5)] [(6,iV .i64 x2766),(7,.ptr 5 0 0)] [1,2,5,6,7,16,17,18] [(5,some (.box 99 (aSpan b2771)))] [4,5] [_,_] ⟨p2772,Zf Z02 q2773,trivial⟩ ?_
    refine AWp.seq ?_
    refine AWp.seq ?_
    obtain⟨o2789,e2790,H⟩:=Z3 H
    refine AWp.mono (Q:=fun e s=>(match (generalizing:=false) o2789 with | x2782=>e = .normal∧s=⟨[(1,iV .i64 a1),(2,.ptr 6 0 0),(5,iV .i64 x2765),(7,.ptr 7 0 0),(16,.im (.row (a0.f1.map Z02))),(17,iV .i64 (a0.f1.length:Int)),(18,iV .i64 x2766),(51,bV x2782)],[(6,some (.box 53 (Zb a0))),(7,some (.box 99 (aSpan b2771)))],0⟩)) (AWp.cv ?_) ?_
    ·replace H:=e2790;clear e2790
     rcases Bool.eq_false_or_eq_true (decide (b2771.f1<(1:Int))) with c2778 | c2778
     ·replace H:=iT c2778 H
      refine rG hP hn hm [(3,.b true)] [(51,bV true)] [1,2,5,7,16,17,18,51] [] [4,5] [_] ⟨c2778,trivial⟩ ?_
      obtain rfl:=sj H
      exact lf [(4,6),(5,7)] [] [] (by kernel_rfl) ⟨rfl,rfl⟩
     ·replace H:=iF c2778 H
      rcases Bool.eq_false_or_eq_true (decide (b2771.f1>(i64.wrap (a1-x2765)))) with c2779 | c2779
      ·replace H:=iT c2779 H
       refine rG hP hn hm [(3,.b false),(11,.b true)] [(27,.ptr 5 0 1),(28,iV .i64 b2771.f1),(29,iV .i64 a1),(30,iV .i64 x2765),(31,iV .i64 (i64.wrap (a1-x2765))),(32,bV (decide (b2771.f1>(i64.wrap (a1-x2765))))),(51,bV true)] [1,2,5,7,16,17,18,27,28,29,30,31,32,51] [] [4,5] [_,_] ⟨c2778,c2779,trivial⟩ ?_
       obtain rfl:=sj H
       exact lf [(4,6),(5,7)] [] [] (by kernel_rfl) ⟨rfl,rfl⟩
      ·replace H:=iF c2779 H
       rcases Bool.eq_false_or_eq_true (decide (b2771.f0<(0:Int))) with c2780 | c2780
       ·replace H:=iT c2780 H
        refine rG hP hn hm [(3,.b false),(11,.b false),(16,.b true)] [(27,.ptr 5 0 1),(28,iV .i64 b2771.f1),(29,iV .i64 a1),(30,iV .i64 x2765),(31,iV .i64 (i64.wrap (a1-x2765))),(32,bV (decide (b2771.f1>(i64.wrap (a1-x2765))))),(35,.ptr 5 0 0),(36,iV .i64 b2771.f0),(37,bV (decide (b2771.f0<(0:Int)))),(51,bV true)] [1,2,5,7,16,17,18,27,28,29,30,31,32,35,36,37,51] [] [4,5] [_,_,_] ⟨c2778,c2779,c2780,trivial⟩ ?_
        obtain rfl:=sj H
        exact lf [(4,6),(5,7)] [] [] (by kernel_rfl) ⟨rfl,rfl⟩
       ·replace H:=iF c2780 H
        rcases Bool.eq_false_or_eq_true (decide (b2771.f0>(524288:Int))) with c2781 | c2781
        ·replace H:=iT c2781 H
         refine rG hP hn hm [(3,.b false),(11,.b false),(16,.b false),(21,.b true)] [(27,.ptr 5 0 1),(28,iV .i64 b2771.f1),(29,iV .i64 a1),(30,iV .i64 x2765),(31,iV .i64 (i64.wrap (a1-x2765))),(32,bV (decide (b2771.f1>(i64.wrap (a1-x2765))))),(35,.ptr 5 0 0),(36,iV .i64 b2771.f0),(37,bV (decide (b2771.f0<(0:Int)))),(40,.ptr 5 0 0),(41,iV .i64 b2771.f0),(42,bV (decide (b2771.f0>(524288:Int)))),(51,bV true)] [1,2,5,7,16,17,18,27,28,29,30,31,32,35,36,37,40,41,42,51] [] [4,5] [_,_,_,_] ⟨c2778,c2779,c2780,c2781,trivial⟩ ?_
         obtain rfl:=sj H
         exact lf [(4,6),(5,7)] [] [] (by kernel_rfl) ⟨rfl,rfl⟩
        ·replace H:=iF c2781 H
         refine rG hP hn hm [(3,.b false),(11,.b false),(16,.b false),(21,.b false)] [(27,.ptr 5 0 1),(28,iV .i64 b2771.f1),(29,iV .i64 a1),(30,iV .i64 x2765),(31,iV .i64 (i64.wrap (a1-x2765))),(32,bV (decide (b2771.f1>(i64.wrap (a1-x2765))))),(35,.ptr 5 0 0),(36,iV .i64 b2771.f0),(37,bV (decide (b2771.f0<(0:Int)))),(40,.ptr 5 0 0),(41,iV .i64 b2771.f0),(42,bV (decide (b2771.f0>(524288:Int)))),(45,iV .i64 x2766),(46,bV (x2766==(0:Int))),(47,.ptr 5 0 0),(48,iV .i64 b2771.f0),(49,bV (b2771.f0==(0:Int))),(50,bV (!((x2766==(0:Int))==(b2771.f0==(0:Int))))),(51,bV (!((x2766==(0:Int))==(b2771.f0==(0:Int)))))] [1,2,5,7,16,17,18,27,28,29,30,31,32,35,36,37,40,41,42,45,46,47,48,49,50,51] [] [4,5] [_,_,_,_] ⟨c2778,c2779,c2780,c2781,trivial⟩ ?_
         obtain rfl:=sj H
         exact lf [(4,6),(5,7)] [] [] (by kernel_rfl) ⟨rfl,rfl⟩
    ·obtain⟨x2782,rfl⟩:∃ z,z=o2789:=⟨_,rfl⟩
     rintro e s ⟨rfl,rfl⟩
     refine AWp.cond x2782 (by kernel_rfl) (fun c2783 => ?_) (fun c2783 => ?_)
     ·replace H:=iT c2783 H
      refine sO hP hn hm [] [(4,bV false)] [4] [] [] ?_
      refine AWp.conv (inv:=[]) (vk:=[]) (e0:=[]) (t:=⟨[(4,bV false)],[],0⟩) (by kernel_rfl) ?_
      refine AWp.ret ?_
      obtain rfl:=sj H
      exact rl rfl rfl (by kernel_rfl) (by kernel_rfl)
     ·replace H:=iF c2783 H
      refine AWp.skip ?_
      refine rO hP hn hm [] [(5,iV .i64 (i64.wrap (x2765+b2771.f1)))] [1,2,5,16,17,18] [] [6] ?_
      refine rO hP hn hm [] [(18,iV .i64 (i64.wrap (x2766+(1:Int))))] [1,2,5,16,17,18] [] [6] ?_
      exact LWp.conv [(6,4)] [] [] (by kernel_rfl) (ih _ _ _ H)
   ·replace H:=iF c2767 H
    refine AWp.exit ?_
    obtain rfl:=sj H
    exact lf [(4,8)] [] [] (by kernel_rfl) ⟨rfl,rfl⟩
  ·rcases o2787 with rr | _
   ·skip
    rintro e s ⟨rfl,hfl,hres⟩
    obtain rfl:=sj H
    exact Exists.intro _ (And.intro (fun _ _ h=>h) (And.intro (.inl rfl) (And.intro hfl hres)))
   ·skip
    rintro e s ⟨rfl,rfl⟩
    refine AWp.seq ?_
    obtain⟨o2791,e2792,H⟩:=Z3 H
    refine AWp.mono (Q:=fun e s=>(match (generalizing:=false) o2791 with | x2786=>e = .normal∧s=⟨[(4,bV x2786)],[],0⟩)) (AWp.cv ?_) ?_
    ·replace H:=e2792;clear e2792
     rcases Bool.eq_false_or_eq_true (decide (a0.f0≥(-262144))) with c2785 | c2785
     ·replace H:=iT c2785 H
      refine rG hP hn hm [(3,.b true)] [(4,bV (decide (a0.f0≤(262144:Int))))] [4] [] [] [_] ⟨c2785,trivial⟩ ?_
      obtain rfl:=sj H
      exact lf [] [] [] (by kernel_rfl) ⟨rfl,rfl⟩
     ·replace H:=iF c2785 H
      refine rG hP hn hm [(3,.b false)] [(4,bV false)] [4] [] [] [_] ⟨c2785,trivial⟩ ?_
      obtain rfl:=sj H
      exact lf [] [] [] (by kernel_rfl) ⟨rfl,rfl⟩
    ·obtain⟨x2786,rfl⟩:∃ z,z=o2791:=⟨_,rfl⟩
     rintro e s ⟨rfl,rfl⟩
     refine AWp.conv (inv:=[]) (vk:=[]) (e0:=[]) (t:=⟨[(4,bV x2786)],[],0⟩) (by kernel_rfl) ?_
     refine AWp.ret ?_
     obtain rfl:=sj H
     exact rl (.inl rfl) rfl (by kernel_rfl) (by kernel_rfl)
def Z1f.l0 (a0_c0:List Int) (a1:Int) (x2698:Int) (x2699:Int) (x2714:Int) (x2715:Int) (x2716:List Z24) (x2717:Int):Option (Int×Int×(List Z24)):=((if(decide (x2717<x2699))=true then((Z0g.f a0_c0 x2714 x2715)>>=fun t2722=>some (x2715==(0:Int))) else(some false)):Option (Bool))>>=fun x2724=>if x2724=true then(((if(decide (x2717>(0:Int)))=true then((Zr.f a0_c0 x2714 x2715 524287)>>=fun t2729=>some (t2729.2.1,t2729.2.2,i64.wrap ((1:Int)+t2729.1))) else(some (x2714,x2715,0))):Option (Int×Int×Int))>>=fun oo=>match oo with | (x2731,x2732,x2733)=>((Zr.f a0_c0 x2731 x2732 (i64.wrap (a1-(1:Int))))>>=fun t2736=>(chk ((x2716.length+[(⟨x2733,i64.wrap ((1:Int)+t2736.1)⟩:Z24)].length)*16≤140737488355328))>>=fun _=>Z1f.l0 a0_c0 a1 x2698 x2699 t2736.2.1 t2736.2.2 (x2716++[(⟨x2733,i64.wrap ((1:Int)+t2736.1)⟩:Z24)]) (i64.wrap (x2717+(1:Int))))) else(some (x2714,x2715,x2716))
partial_fixpoint
def Z1f.f (a0_c0:List Int) (a0_c1:Int) (a0_c2:Int) (a1:Int):Option (Zc×Int×Int):=(Zr.f a0_c0 a0_c1 a0_c2 a1)>>=fun t2683=>((if(decide (t2683.1>(0:Int)))=true then((Zz.f a0_c0 t2683.2.1 t2683.2.2)>>=fun t2688=>((if(decide (t2688.1≥(-262144)))=true then(some (decide (t2688.1≤(262144:Int)))) else(some false)):Option (Bool))>>=fun x2692=>((if x2692=true then(some (t2688.1,t2683.1)) else(some (0,(-1)))):Option (Int×Int))>>=fun oo=>match oo with | (x2694,x2695)=>(some (t2688.2.1,t2688.2.2,x2694,x2695))) else(some (t2683.2.1,t2683.2.2,0,t2683.1))):Option (Int×Int×Int×Int))>>=fun oo=>match oo with | (x2696,x2697,x2698,x2699)=>((Z1f.l0 a0_c0 a1 x2698 x2699 x2696 x2697 [] 0)>>=fun oo=>match oo with | (x2740,x2741,x2742)=>((((Z0g.f a0_c0 x2740 x2741)>>=fun t2795=>if(x2741 != (0:Int))=true then(some true) else(if(decide (x2699<(0:Int)))=true then(some true) else((Z2t.f (⟨x2698,x2742⟩:Zc) a1)>>=fun t2799=>some (!t2799)))):Option (Bool))>>=fun x2801=>if x2801=true then(some ((⟨0,[]⟩:Zc),x2740,x2741)) else(some ((⟨x2698,x2742⟩:Zc),x2740,x2741))))
theorem Z1f.ok (a0_c0:List Int) (a0_c1:Int) (a0_c2:Int) (a1:Int) (r:Zc×Int×Int) (H:Z1f.f a0_c0 a0_c1 a0_c2 a1=some r):Pv.Fn Tryz.prog 32 [.ptr 0 0 0,iV .i64 a1] [(0,some (.box 111 (Z5 ⟨a0_c0,a0_c1,a0_c2⟩)))] 1 (fun x o=>x = .agg [iV .i64 ((r.1).f0),.own 1]∧o=[(0,some (.box 111 (Z5 ⟨a0_c0,r.2.1,r.2.2⟩))),(1,some (.row 2 99 (((r.1).f1).map Z02)))]):=by
 unfold Z1f.f at H
 refine Fn.bodyK [0,1] Tryz.func32 rfl rfl (fun Γ hP hn => ?_)
 have hm:Tryz.prog.follows .mixedOrders=true:=by kernel_rfl
 replace hn:Γ.n=69:=hn
 refine sO hP hn hm [(0,.k 1)] [(4,.ptr 1 0 0)] [0,1,4] [(1,some (.box 53 [iV .i64 0,.none0]))] [0,1] ?_
 refine sO hP hn hm [(0,.k 2)] [(5,.ptr 2 0 0)] [0,1,4,5] [(2,some (.box 53 [iV .i64 0,.none0]))] [0,1,2] ?_
 obtain⟨t2683,e2684,H⟩:=Z3 H
 refine sR hP hn hm [(2,.call [(0,0)] [(0,0)] [] [] 1 (iV .i64 t2683.1) [(0,some (.box 111 (Z5 ⟨a0_c0,t2683.2.1,t2683.2.2⟩)))])] [(6,iV .i64 t2683.1)] [0,1,4,5,6] [(0,some (.box 111 (Z5 ⟨a0_c0,t2683.2.1,t2683.2.2⟩)))] [0,1,2] [_,_] ⟨Tryz.call68,Zr.ok a0_c0 a0_c1 a0_c2 a1 t2683 e2684,trivial⟩ ?_
 refine AWp.seq ?_
 refine sO hP hn hm [] [(14,bV (decide (t2683.1>(0:Int))))] [0,1,4,5,6,14] [] [0,1,2] ?_
 obtain⟨o2803,e2804,H⟩:=Z3 H
 refine AWp.mono (Q:=fun e s=>(match (generalizing:=false) o2803 with | (x2696,x2697,x2698,x2699)=>e = .normal∧s=⟨[(0,.ptr 0 0 0),(1,iV .i64 a1),(4,.ptr 7 0 0),(5,.ptr 8 0 0),(6,iV .i64 x2699)],[(0,some (.box 111 (Z5 ⟨a0_c0,x2696,x2697⟩))),(7,some (.box 53 [iV .i64 0,.none0])),(8,some (.box 53 [iV .i64 x2698,.none0]))],1⟩)) (AWp.cv ?_) ?_
 ·replace H:=e2804;clear e2804
  refine AWp.cond (decide (t2683.1>(0:Int))) (by kernel_rfl) (fun c2685 => ?_) (fun c2685 => ?_)
  ·replace H:=iT c2685 H
   obtain⟨t2688,e2689,H⟩:=Z3 H
   refine sR hP hn hm [(1,.call [(0,0)] [(0,0)] [] [] 1 (iV .i64 t2688.1) [(0,some (.box 111 (Z5 ⟨a0_c0,t2688.2.1,t2688.2.2⟩)))])] [(7,iV .i64 t2688.1)] [0,1,4,5,6,7] [(0,some (.box 111 (Z5 ⟨a0_c0,t2688.2.1,t2688.2.2⟩)))] [0,1,2] [_,_] ⟨Tryz.call31,Zz.ok a0_c0 t2683.2.1 t2683.2.2 t2688 e2689,trivial⟩ ?_
   refine AWp.seq ?_
   obtain⟨o2805,e2806,H⟩:=Z3 H
   refine AWp.mono (Q:=fun e s=>(match (generalizing:=false) o2805 with | x2692=>e = .normal∧s=⟨[(0,.ptr 0 0 0),(1,iV .i64 a1),(4,.ptr 3 0 0),(5,.ptr 4 0 0),(6,iV .i64 t2683.1),(7,iV .i64 t2688.1),(22,bV x2692)],[(0,some (.box 111 (Z5 ⟨a0_c0,t2688.2.1,t2688.2.2⟩))),(3,some (.box 53 [iV .i64 0,.none0])),(4,some (.box 53 [iV .i64 0,.none0]))],1⟩)) (AWp.cv ?_) ?_
   ·replace H:=e2806;clear e2806
    rcases Bool.eq_false_or_eq_true (decide (t2688.1≥(-262144))) with c2691 | c2691
    ·replace H:=iT c2691 H
     refine rG hP hn hm [(2,.b true)] [(22,bV (decide (t2688.1≤(262144:Int))))] [0,1,4,5,6,7,22] [] [0,1,2] [_] ⟨c2691,trivial⟩ ?_
     obtain rfl:=sj H
     exact lf [(0,0),(1,3),(2,4)] [] [] (by kernel_rfl) ⟨rfl,rfl⟩
    ·replace H:=iF c2691 H
     refine rG hP hn hm [(2,.b false)] [(22,bV false)] [0,1,4,5,6,7,22] [] [0,1,2] [_] ⟨c2691,trivial⟩ ?_
     obtain rfl:=sj H
     exact lf [(0,0),(1,3),(2,4)] [] [] (by kernel_rfl) ⟨rfl,rfl⟩
   ·obtain⟨x2692,rfl⟩:∃ z,z=o2805:=⟨_,rfl⟩
    rintro e s ⟨rfl,rfl⟩
    obtain⟨o2807,e2808,H⟩:=Z3 H
    refine AWp.mono (Q:=fun e s=>(match (generalizing:=false) o2807 with | (x2694,x2695)=>e = .normal∧s=⟨[(0,.ptr 0 0 0),(1,iV .i64 a1),(4,.ptr 5 0 0),(5,.ptr 6 0 0),(6,iV .i64 x2695)],[(0,some (.box 111 (Z5 ⟨a0_c0,t2688.2.1,t2688.2.2⟩))),(5,some (.box 53 [iV .i64 0,.none0])),(6,some (.box 53 [iV .i64 x2694,.none0]))],1⟩)) (AWp.cv ?_) ?_
    ·replace H:=e2808;clear e2808
     refine AWp.cond x2692 (by kernel_rfl) (fun c2693 => ?_) (fun c2693 => ?_)
     ·replace H:=iT c2693 H
      refine rO hP hn hm [] [] [0,1,4,5,6] [(4,some (.box 53 [iV .i64 t2688.1,.none0]))] [0,3,4] ?_
      obtain rfl:=sj H
      exact lf [(0,0),(3,5),(4,6)] [] [] (by kernel_rfl) ⟨rfl,rfl⟩
     ·replace H:=iF c2693 H
      refine rO hP hn hm [] [(6,iV .i64 (-1))] [0,1,4,5,6] [] [0,3,4] ?_
      obtain rfl:=sj H
      exact lf [(0,0),(3,5),(4,6)] [] [] (by kernel_rfl) ⟨rfl,rfl⟩
    ·obtain⟨x2694,x2695⟩:=o2807
     rintro e s ⟨rfl,rfl⟩
     obtain rfl:=sj H
     exact lf [(0,0),(5,7),(6,8)] [] [] (by kernel_rfl) ⟨rfl,rfl⟩
  ·replace H:=iF c2685 H
   refine AWp.skip ?_
   obtain rfl:=sj H
   exact lf [(0,0),(1,7),(2,8)] [] [] (by kernel_rfl) ⟨rfl,rfl⟩
 ·obtain⟨x2696,x2697,x2698,x2699⟩:=o2803
  rintro e s ⟨rfl,rfl⟩
  refine AWp.seq ?_
  refine sO hP hn hm [] [(8,iV .i64 0)] [0,1,4,5,6,8] [] [0,7,8] ?_
  refine AWp.block ?_
  obtain⟨o2809,e2810,H⟩:=Z3 H
  refine AWp.loop (LWp.conv (inv:=[(0,0),(7,14),(8,15)]) (vk:=[]) (e0:=[16]) (t:=⟨[(0,.ptr 0 0 0),(1,iV .i64 a1),(4,.ptr 14 0 0),(5,.ptr 15 0 0),(6,iV .i64 x2699),(8,iV .i64 0)],[(0,some (.box 111 (Z5 ⟨a0_c0,x2696,x2697⟩))),(14,some (.box 53 [iV .i64 0,.none0])),(15,some (.box 53 [iV .i64 x2698,.own 16])),(16,some (.row 2 99 ([].map Z02)))],1⟩) (by kernel_rfl) ?_)
  refine LWp.mono (Q:=fun e s=>(match (generalizing:=false) o2809 with | (x2740,x2741,x2742)=>e = .exit 0∧s=⟨[(0,.ptr 0 0 0),(1,iV .i64 a1),(4,.ptr 27 0 0),(5,.ptr 28 0 0),(6,iV .i64 x2699)],[(0,some (.box 111 (Z5 ⟨a0_c0,x2740,x2741⟩))),(27,some (.box 53 [iV .i64 0,.none0])),(28,some (.box 53 [iV .i64 x2698,.own 29])),(29,some (.row 2 99 (x2742.map Z02)))],1⟩)) (LWp.cv (Zn (fun body hbody => ?_))) ?_
  ·refine             Z1f.l0.partial_correctness a0_c0 a1 x2698 x2699 (motive:=fun x2714 x2715 x2716 x2717 o2809=>LWp Γ body (fun e s=>∃ t,Cv Γ s t∧(match (generalizing:=false) o2809 with | (x2740,x2741,x2742)=>e = .exit 0∧t=⟨[(0,.ptr 0 0 0),(1,iV .i64 a1),(4,.ptr 27 0 0),(5,.ptr 28 0 0),(6,iV .i64 x2699)],[(0,some (.box 111 (Z5           ⟨a0_c0,x2740,x2741⟩))),(27,some (.box 53 [iV .i64 0,.none0])),(28,some (.box 53 [iV .i64 x2698,.own 29])),(29,some (.row 2 99 (x2742.map Z02  )))],1⟩)) ⟨[(0,.ptr 0 0 0),(1,iV .i64 a1),(4,.ptr 14 0 0),(5,.ptr 15 0 0),(6,iV .i64 x2699),(8,iV .i64 x2717)],[(0,some (.box 111 (Z5           ⟨a0_c0,x2714,x2715⟩))),(14,some (.box 53 [iV .i64 0,.none0])),(15,some (.box 53 [iV .i64 x2698,.own 16])),(16,some (.row 2 99 (x2716.map Z02  )))],1⟩) ?_ _ _ _ _ _ e2810
   clear H e2810 o2809;intro self ih x2714 x2715 x2716 x2717 o2809 H
   subst hbody
   refine LWp.round ?_
   refine AWp.seq ?_
   refine AWp.seq ?_
   obtain⟨o2811,e2812,H⟩:=Z3 H
   refine AWp.mono (Q:=fun e s=>(match (generalizing:=false) o2811 with | x2724=>e = .normal∧s=⟨[(0,.ptr 0 0 0),(1,iV .i64 a1),(4,.ptr 17 0 0),(5,.ptr 18 0 0),(6,iV .i64 x2699),(8,iV .i64 x2717),(32,bV x2724)],[(0,some (.box 111 (Z5 ⟨a0_c0,x2714,x2715⟩))),(17,some (.box 53 [iV .i64 0,.none0])),(18,some (.box 53 [iV .i64 x2698,.own 19])),(19,some (.row 2 99 (x2716.map Z02)))],1⟩)) (AWp.cv ?_) ?_
   ·replace H:=e2812;clear e2812
    rcases Bool.eq_false_or_eq_true (decide (x2717<x2699)) with c2721 | c2721
    ·replace H:=iT c2721 H
     obtain⟨t2722,e2723,H⟩:=Z3 H
     refine rG hP hn hm [(3,.b true),(5,.call [(0,0)] [(0,0)] [] [] 1 (iV .i64 x2715) [(0,some (.box 111 (Z5 ⟨a0_c0,x2714,x2715⟩)))])] [(29,.ptr 0 0 0),(30,iV .i64 x2715),(31,bV (x2715==(0:Int))),(32,bV (x2715==(0:Int)))] [0,1,4,5,6,8,29,30,31,32] [] [0,14,15,16] [_,_,_] ⟨c2721,Tryz.call69,Z0g.ok a0_c0 x2714 x2715 t2722 e2723,trivial⟩ ?_
     obtain rfl:=sj H
     exact lf [(0,0),(14,17),(15,18),(16,19)] [] [] (by kernel_rfl) ⟨rfl,rfl⟩
    ·replace H:=iF c2721 H
     refine rG hP hn hm [(3,.b false)] [(32,bV false)] [0,1,4,5,6,8,32] [] [0,14,15,16] [_] ⟨c2721,trivial⟩ ?_
     obtain rfl:=sj H
     exact lf [(0,0),(14,17),(15,18),(16,19)] [] [] (by kernel_rfl) ⟨rfl,rfl⟩
   ·obtain⟨x2724,rfl⟩:∃ z,z=o2811:=⟨_,rfl⟩
    rintro e s ⟨rfl,rfl⟩
    refine AWp.cond x2724 (by kernel_rfl) (fun c2725 => ?_) (fun c2725 => ?_)
    ·replace H:=iT c2725 H
     refine AWp.skip ?_
     refine AWp.seq ?_
     refine AWp.block ?_
     refine sO hP hn hm [(1,.k 20)] [(9,.ptr 20 0 0)] [0,1,4,5,6,8,9] [(20,some (.box 99 (aSpan ⟨0,0⟩)))] [0,17,18,19,20] ?_
     refine AWp.seq ?_
     refine sO hP hn hm [] [(37,bV (decide (x2717>(0:Int))))] [0,1,4,5,6,8,9,37] [] [0,17,18,19,20] ?_
     obtain⟨o2813,e2814,H⟩:=Z3 H
     refine AWp.mono (Q:=fun e s=>(match (generalizing:=false) o2813 with | (x2731,x2732,x2733)=>e = .normal∧s=⟨[(0,.ptr 0 0 0),(1,iV .i64 a1),(4,.ptr 21 0 0),(5,.ptr 22 0 0),(6,iV .i64 x2699),(8,iV .i64 x2717),(9,.ptr 24 0 0)],[(0,some (.box 111 (Z5 ⟨a0_c0,x2731,x2732⟩))),(21,some (.box 53 [iV .i64 0,.none0])),(22,some (.box 53 [iV .i64 x2698,.own 23])),(23,some (.row 2 99 (x2716.map Z02))),(24,some (.box 99 (aSpan ⟨x2733,0⟩)))],1⟩)) (AWp.cv ?_) ?_
     ·replace H:=e2814;clear e2814
      refine AWp.cond (decide (x2717>(0:Int))) (by kernel_rfl) (fun c2726 => ?_) (fun c2726 => ?_)
      ·replace H:=iT c2726 H
       obtain⟨t2729,e2730,H⟩:=Z3 H
       refine rG hP hn hm [(1,.call [(0,0)] [(0,0)] [] [] 1 (iV .i64 t2729.1) [(0,some (.box 111 (Z5 ⟨a0_c0,t2729.2.1,t2729.2.2⟩)))])] [] [0,1,4,5,6,8,9] [(0,some (.box 111 (Z5 ⟨a0_c0,t2729.2.1,t2729.2.2⟩))),(20,some (.box 99 (aSpan ⟨(i64.wrap ((1:Int)+t2729.1)),0⟩)))] [0,17,18,19,20] [_,_] ⟨Tryz.call68,Zr.ok a0_c0 x2714 x2715 524287 t2729 e2730,trivial⟩ ?_
       obtain rfl:=sj H
       exact lf [(0,0),(17,21),(18,22),(19,23),(20,24)] [] [] (by kernel_rfl) ⟨rfl,rfl⟩
      ·replace H:=iF c2726 H
       refine AWp.skip ?_
       obtain rfl:=sj H
       exact lf [(0,0),(17,21),(18,22),(19,23),(20,24)] [] [] (by kernel_rfl) ⟨rfl,rfl⟩
     ·obtain⟨x2731,x2732,x2733⟩:=o2813
      rintro e s ⟨rfl,rfl⟩
      obtain⟨t2736,e2737,H⟩:=Z3 H
      refine sR hP hn hm [(3,.call [(0,0)] [(0,0)] [] [] 1 (iV .i64 t2736.1) [(0,some (.box 111 (Z5 ⟨a0_c0,t2736.2.1,t2736.2.2⟩)))])] [] [0,1,4,5,6,8,9] [(0,some (.box 111 (Z5 ⟨a0_c0,t2736.2.1,t2736.2.2⟩))),(24,some (.box 99 (aSpan ⟨x2733,(i64.wrap ((1:Int)+t2736.1))⟩)))] [0,21,22,23,24] [_,_] ⟨Tryz.call68,Zr.ok a0_c0 x2731 x2732 (i64.wrap (a1-(1:Int))) t2736 e2737,trivial⟩ ?_
      obtain⟨c2739,H⟩:=Z0q H
      refine rG hP hn hm [(3,.app 25 ([(⟨x2733,i64.wrap ((1:Int)+t2736.1)⟩:Z24)].map Z02)),(4,.app 26 ((x2716++[(⟨x2733,i64.wrap ((1:Int)+t2736.1)⟩:Z24)]).map Z02))] [] [0,1,4,5,6,8] [(22,some (.box 53 [iV .i64 x2698,.own 26])),(26,some (.row 2 99 ((x2716++[(⟨x2733,i64.wrap ((1:Int)+t2736.1)⟩:Z24)]).map Z02)))] [0,21,22,26] [[(⟨x2733,i64.wrap ((1:Int)+t2736.1)⟩:Z24)].map Z02=[[iI .i64 x2733,iI .i64 (i64.wrap ((1:Int)+t2736.1))]],(x2716++[(⟨x2733,i64.wrap ((1:Int)+t2736.1)⟩:Z24)]).map Z02=(x2716.map Z02)++([(⟨x2733,i64.wrap ((1:Int)+t2736.1)⟩:Z24)].map Z02),∀ c∈([(⟨x2733,i64.wrap ((1:Int)+t2736.1)⟩:Z24)].map Z02),c.length=2,∀ c∈([(⟨x2733,i64.wrap ((1:Int)+t2736.1)⟩:Z24)].map Z02),Z0m (c.map .im)=true,((x2716.map Z02).length+([(⟨x2733,i64.wrap ((1:Int)+t2736.1)⟩:Z24)].map Z02).length)*16≤140737488355328] ⟨by exact rfl,by simp,by exact Z0k _ _ _ (fun _=>rfl),by exact Z0j _ _ (fun _=>rfl),by simpa using c2739,trivial⟩ ?_
      refine rO hP hn hm [] [(8,iV .i64 (i64.wrap (x2717+(1:Int))))] [0,1,4,5,6,8] [] [0,21,22,26] ?_
      exact LWp.conv [(0,0),(21,14),(22,15),(26,16)] [] [] (by kernel_rfl) (ih _ _ _ _ _ H)
    ·replace H:=iF c2725 H
     refine AWp.exit ?_
     obtain rfl:=sj H
     exact lf [(0,0),(17,27),(18,28),(19,29)] [] [] (by kernel_rfl) ⟨rfl,rfl⟩
  ·obtain⟨x2740,x2741,x2742⟩:=o2809
   rintro e s ⟨rfl,rfl⟩
   refine AWp.seq ?_
   refine AWp.seq ?_
   obtain⟨o2815,e2816,H⟩:=Z3 H
   refine AWp.mono (Q:=fun e s=>(match (generalizing:=false) o2815 with | x2801=>e = .normal∧s=⟨[(4,.ptr 30 0 0),(5,.ptr 31 0 0),(66,bV x2801)],[(0,some (.box 111 (Z5 ⟨a0_c0,x2740,x2741⟩))),(30,some (.box 53 [iV .i64 0,.none0])),(31,some (.box 53 [iV .i64 x2698,.own 32])),(32,some (.row 2 99 (x2742.map Z02)))],1⟩)) (AWp.cv ?_) ?_
   ·replace H:=e2816;clear e2816
    obtain⟨t2795,e2796,H⟩:=Z3 H
    rcases Bool.eq_false_or_eq_true (x2741 != (0:Int)) with c2797 | c2797
    ·replace H:=iT c2797 H
     refine rG hP hn hm [(1,.call [(0,0)] [(0,0)] [] [] 1 (iV .i64 x2741) [(0,some (.box 111 (Z5 ⟨a0_c0,x2740,x2741⟩)))]),(3,.b true)] [(66,bV true)] [4,5,66] [] [0,27,28,29] [_,_,_] ⟨Tryz.call69,Z0g.ok a0_c0 x2740 x2741 t2795 e2796,c2797,trivial⟩ ?_
     obtain rfl:=sj H
     exact lf [(27,30),(28,31),(29,32),(0,0)] [] [] (by kernel_rfl) ⟨rfl,rfl⟩
    ·replace H:=iF c2797 H
     rcases Bool.eq_false_or_eq_true (decide (x2699<(0:Int))) with c2798 | c2798
     ·replace H:=iT c2798 H
      refine rG hP hn hm [(1,.call [(0,0)] [(0,0)] [] [] 1 (iV .i64 x2741) [(0,some (.box 111 (Z5 ⟨a0_c0,x2740,x2741⟩)))]),(3,.b false),(7,.b true)] [(66,bV true)] [4,5,66] [] [0,27,28,29] [_,_,_,_] ⟨Tryz.call69,Z0g.ok a0_c0 x2740 x2741 t2795 e2796,c2797,c2798,trivial⟩ ?_
      obtain rfl:=sj H
      exact lf [(27,30),(28,31),(29,32),(0,0)] [] [] (by kernel_rfl) ⟨rfl,rfl⟩
     ·replace H:=iF c2798 H
      obtain⟨t2799,e2800,H⟩:=Z3 H
      refine rG hP hn hm [(1,.call [(0,0)] [(0,0)] [] [] 1 (iV .i64 x2741) [(0,some (.box 111 (Z5 ⟨a0_c0,x2740,x2741⟩)))]),(3,.b false),(7,.b false),(10,.call [] [] [29] [] 0 (bV t2799) [])] [(66,bV (!t2799))] [4,5,66] [] [0,27,28,29] [_,_,_,_,_,_] ⟨Tryz.call69,Z0g.ok a0_c0 x2740 x2741 t2795 e2796,c2797,c2798,Tryz.call70,Z2t.ok (⟨x2698,x2742⟩:Zc) a1 t2799 e2800,trivial⟩ ?_
      obtain rfl:=sj H
      exact lf [(27,30),(28,31),(29,32),(0,0)] [] [] (by kernel_rfl) ⟨rfl,rfl⟩
   ·obtain⟨x2801,rfl⟩:∃ z,z=o2815:=⟨_,rfl⟩
    rintro e s ⟨rfl,rfl⟩
    refine AWp.cond x2801 (by kernel_rfl) (fun c2802 => ?_) (fun c2802 => ?_)
    ·replace H:=iT c2802 H
     refine sO hP hn hm [] [] [4] [] [0,30] ?_
     refine AWp.conv (inv:=[(0,0),(30,2)]) (vk:=[]) (e0:=[1]) (t:=⟨[(4,.ptr 2 0 0)],[(0,some (.box 111 (Z5 ⟨a0_c0,x2740,x2741⟩))),(1,some (.row 2 99 ((((⟨0,[]⟩:Zc)).f1).map Z02))),(2,some (.box 53 [iV .i64 (((⟨0,[]⟩:Zc)).f0),.own 1]))],1⟩) (by kernel_rfl) ?_
     refine AWp.ret ?_
     obtain rfl:=sj H
     exact rl (.inl rfl) rfl (by kernel_rfl) (by kernel_rfl)
    ·replace H:=iF c2802 H
     refine AWp.skip ?_
     refine sO hP hn hm [] [] [4] [(30,some (.box 53 [iV .i64 x2698,.own 32]))] [0,30,32] ?_
     refine AWp.conv (inv:=[(0,0),(30,2),(32,1)]) (vk:=[]) (e0:=[]) (t:=⟨[(4,.ptr 2 0 0)],[(0,some (.box 111 (Z5 ⟨a0_c0,x2740,x2741⟩))),(1,some (.row 2 99 ((((⟨x2698,x2742⟩:Zc)).f1).map Z02))),(2,some (.box 53 [iV .i64 (((⟨x2698,x2742⟩:Zc)).f0),.own 1]))],1⟩) (by kernel_rfl) ?_
     refine AWp.ret ?_
     obtain rfl:=sj H
     exact rl (.inl rfl) rfl (by kernel_rfl) (by kernel_rfl)
def Z1n.l0 (a1:List Int) (t2895:List Int) (x2923:List Z2) (x2924:Int):Option (List Z2):=if(decide (x2924<(t2895.length:Int)))=true then((at? t2895 x2924)>>=fun b2929=>((if(decide (x2924<(a1.length:Int)))=true then((at? a1 x2924)>>=fun b2937=>some (decide (b2937>(0:Int)))) else(some false)):Option (Bool))>>=fun x2940=>((if x2940=true then((at? a1 x2924)>>=fun b2946=>(chk ((x2923.length+[(⟨b2929,b2946⟩:Z2)].length)*16≤140737488355328))>>=fun _=>some (x2923++[(⟨b2929,b2946⟩:Z2)])) else(some x2923)):Option (List Z2))>>=fun x2950=>Z1n.l0 a1 t2895 x2950 (i64.wrap (x2924+(1:Int)))) else(some x2923)
partial_fixpoint
def Z1n.f (a0:Zc) (a1:List Int):Option (List Z2):=(Zk.f a0)>>=fun t2895=>(Z1n.l0 a1 t2895 [] 0)>>=fun x2951=>some x2951
theorem Z1n.ok (a0:Zc) (a1:List Int) (r:List Z2) (H:Z1n.f a0 a1=some r):Pv.Fn Tryz.prog 71 [.agg (Zb a0),.im (.row (a1.map (Z1 .u64)))] [] 0 (fun x o=>x = .own 0∧o=[(0,some (.row 2 87 (r.map Z0)))]):=by
 unfold Z1n.f at H
 refine Fn.bodyK [0] Tryz.func71 rfl rfl (fun Γ hP hn => ?_)
 have hm:Tryz.prog.follows .mixedOrders=true:=by kernel_rfl
 replace hn:Γ.n=38:=hn
 refine sO hP hn hm [(0,.k 0)] [(2,.ptr 0 0 0)] [1,2] [(0,some (.box 53 (Zb a0)))] [0] ?_
 refine sO hP hn hm [] [(5,.none0)] [1,2,5] [] [0] ?_
 refine AWp.seq ?_
 obtain⟨t2895,e2896,H⟩:=Z3 H
 refine sR hP hn hm [(1,.call [] [(0,1)] [] [1] 0 (.own 0) [(0,some (.row 1 3 (t2895.map (Z1 .i64))))]),(2,.any (iV .i64 (t2895.length:Int)))] [(9,.own 1),(10,iV .i64 (t2895.length:Int)),(11,iV .i64 0)] [1,5,9,10,11] [(1,some (.row 1 3 (t2895.map (Z1 .i64))))] [1] [_,_,((t2895.map (Z1 .i64)).length:Int)=(t2895.length:Int)] ⟨Tryz.call53,Zk.ok a0 t2895 e2896,by rw[Zi],trivial⟩ ?_
 refine AWp.block ?_
 obtain⟨o2952,e2953,H⟩:=Z3 H
 refine AWp.loop (LWp.conv (inv:=[(1,8)]) (vk:=[]) (e0:=[7]) (t:=⟨[(1,.im (.row (a1.map (Z1 .u64)))),(5,.own 7),(9,.own 8),(10,iV .i64 (t2895.length:Int)),(11,iV .i64 0)],[(7,some (.row 2 87 ([].map Z0))),(8,some (.row 1 3 (t2895.map (Z1 .i64))))],0⟩) (by kernel_rfl) ?_)
 refine LWp.mono (Q:=fun e s=>(match (generalizing:=false) o2952 with | x2951=>e = .exit 0∧s=⟨[(5,.own 15)],[(15,some (.row 2 87 (x2951.map Z0)))],0⟩)) (LWp.cv (Zn (fun body hbody => ?_))) ?_
 ·refine            Z1n.l0.partial_correctness a1 t2895 (motive:=fun x2923 x2924 o2952=>LWp Γ body (fun e s=>∃ t,Cv Γ s t∧(match (generalizing:=false) o2952 with | x2951=>e = .exit 0∧t=⟨[(5,.own 15)],[(15,some (.row 2 87 (x2951.map Z0     )))],0⟩)) ⟨[(1,.im (.row (a1.map (Z1     .u64)))),(5,.own 7),(9,.own 8),(10,iV .i64 (t2895.length:Int)),(11,iV .i64 x2924)],[(7,some (.row 2 87 (x2923.map Z0     ))),(8,some (.row 1 3 (t2895.map (Z1     .i64))))],0⟩) ?_ _ _ _ e2953
  clear H e2953 o2952;intro self ih x2923 x2924 o2952 H
  subst hbody
  refine LWp.round ?_
  refine sO hP hn hm [] [(12,bV (decide (x2924<(t2895.length:Int))))] [1,5,9,10,11,12] [] [7,8] ?_
  refine AWp.seq ?_
  refine AWp.cond (decide (x2924<(t2895.length:Int))) (by kernel_rfl) (fun c2925 => ?_) (fun c2925 => ?_)
  ·replace H:=iT c2925 H
   refine AWp.skip ?_
   refine AWp.seq ?_
   refine AWp.block ?_
   obtain⟨b2929,p2930,q2931,H⟩:=Z03 H
   refine sR hP hn hm [(2,.c ((Z1 .i64) b2929))] [(6,iV .i64 x2924),(7,iV .i64 b2929)] [1,5,6,7,9,10,11] [] [7,8] [_,_,_] ⟨p2930,Z1u (Z1 .i64) p2930 q2931,Zf (Z1 .i64) q2931,trivial⟩ ?_
   refine AWp.seq ?_
   obtain⟨o2954,e2955,H⟩:=Z3 H
   refine AWp.mono (Q:=fun e s=>(match (generalizing:=false) o2954 with | x2940=>e = .normal∧s=⟨[(1,.im (.row (a1.map (Z1 .u64)))),(5,.own 9),(6,iV .i64 x2924),(7,iV .i64 b2929),(9,.own 10),(10,iV .i64 (t2895.length:Int)),(11,iV .i64 x2924),(26,bV x2940)],[(9,some (.row 2 87 (x2923.map Z0))),(10,some (.row 1 3 (t2895.map (Z1 .i64))))],0⟩)) (AWp.cv ?_) ?_
   ·replace H:=e2955;clear e2955
    rcases Bool.eq_false_or_eq_true (decide (x2924<(a1.length:Int))) with c2936 | c2936
    ·replace H:=iT c2936 H
     obtain⟨b2937,p2938,q2939,H⟩:=Z03 H
     refine rG hP hn hm [(2,.any (iV .i64 (a1.length:Int))),(4,.b true),(7,.c ((Z1 .u64) b2937))] [(21,.im (.row (a1.map (Z1 .u64)))),(22,iV .i64 x2924),(23,.ip [iI .u64 b2937]),(24,iV .u64 b2937),(25,bV (decide (b2937>(0:Int)))),(26,bV (decide (b2937>(0:Int))))] [1,5,6,7,9,10,11,21,22,23,24,25,26] [] [7,8] [((a1.map (Z1 .u64)).length:Int)=(a1.length:Int),_,_,_] ⟨by rw[Zi],c2936,p2938,Zf (Z1 .u64) q2939,trivial⟩ ?_
     obtain rfl:=sj H
     exact lf [(7,9),(8,10)] [] [] (by kernel_rfl) ⟨rfl,rfl⟩
    ·replace H:=iF c2936 H
     refine rG hP hn hm [(2,.any (iV .i64 (a1.length:Int))),(4,.b false)] [(26,bV false)] [1,5,6,7,9,10,11,26] [] [7,8] [((a1.map (Z1 .u64)).length:Int)=(a1.length:Int),_] ⟨by rw[Zi],c2936,trivial⟩ ?_
     obtain rfl:=sj H
     exact lf [(7,9),(8,10)] [] [] (by kernel_rfl) ⟨rfl,rfl⟩
   ·obtain⟨x2940,rfl⟩:∃ z,z=o2954:=⟨_,rfl⟩
    rintro e s ⟨rfl,rfl⟩
    obtain⟨o2956,e2957,H⟩:=Z3 H
    refine AWp.mono (Q:=fun e s=>(match (generalizing:=false) o2956 with | x2950=>e = .normal∧s=⟨[(1,.im (.row (a1.map (Z1 .u64)))),(5,.own 13),(9,.own 14),(10,iV .i64 (t2895.length:Int)),(11,iV .i64 x2924)],[(13,some (.row 2 87 (x2950.map Z0))),(14,some (.row 1 3 (t2895.map (Z1 .i64))))],0⟩)) (AWp.cv ?_) ?_
    ·replace H:=e2957;clear e2957
     refine AWp.cond x2940 (by kernel_rfl) (fun c2941 => ?_) (fun c2941 => ?_)
     ·replace H:=iT c2941 H
      obtain⟨b2946,p2947,q2948,H⟩:=Z03 H
      obtain⟨c2949,H⟩:=Z0q H
      refine rG hP hn hm [(4,.c ((Z1 .u64) b2946)),(7,.app 11 ([(⟨b2929,b2946⟩:Z2)].map Z0)),(8,.app 12 ((x2923++[(⟨b2929,b2946⟩:Z2)]).map Z0))] [(5,.own 12)] [1,5,9,10,11] [(12,some (.row 2 87 ((x2923++[(⟨b2929,b2946⟩:Z2)]).map Z0)))] [10,12] [_,_,[(⟨b2929,b2946⟩:Z2)].map Z0=[[iI .i64 b2929,iI .u64 b2946]],(x2923++[(⟨b2929,b2946⟩:Z2)]).map Z0=(x2923.map Z0)++([(⟨b2929,b2946⟩:Z2)].map Z0),∀ c∈([(⟨b2929,b2946⟩:Z2)].map Z0),c.length=2,∀ c∈([(⟨b2929,b2946⟩:Z2)].map Z0),Z0m (c.map .im)=true,((x2923.map Z0).length+([(⟨b2929,b2946⟩:Z2)].map Z0).length)*16≤140737488355328] ⟨p2947,Zf (Z1 .u64) q2948,by exact rfl,by simp,by exact Z0k _ _ _ (fun _=>rfl),by exact Z0j _ _ (fun _=>rfl),by simpa using c2949,trivial⟩ ?_
      obtain rfl:=sj H
      exact lf [(12,13),(10,14)] [] [] (by kernel_rfl) ⟨rfl,rfl⟩
     ·replace H:=iF c2941 H
      refine AWp.skip ?_
      obtain rfl:=sj H
      exact lf [(9,13),(10,14)] [] [] (by kernel_rfl) ⟨rfl,rfl⟩
    ·obtain⟨x2950,rfl⟩:∃ z,z=o2956:=⟨_,rfl⟩
     rintro e s ⟨rfl,rfl⟩
     refine rO hP hn hm [] [(11,iV .i64 (i64.wrap (x2924+(1:Int))))] [1,5,9,10,11] [] [13,14] ?_
     exact LWp.conv [(13,7),(14,8)] [] [] (by kernel_rfl) (ih _ _ _ H)
  ·replace H:=iF c2925 H
   refine AWp.exit ?_
   obtain rfl:=sj H
   exact lf [(7,15)] [] [] (by kernel_rfl) ⟨rfl,rfl⟩
 ·obtain⟨x2951,rfl⟩:∃ z,z=o2952:=⟨_,rfl⟩
  rintro e s ⟨rfl,rfl⟩
  refine sO hP hn hm [] [(4,.own 15)] [4] [] [15] ?_
  refine AWp.conv (inv:=[(15,0)]) (vk:=[]) (e0:=[]) (t:=⟨[(4,.own 0)],[(0,some (.row 2 87 (x2951.map Z0)))],0⟩) (by kernel_rfl) ?_
  refine AWp.ret ?_
  obtain rfl:=sj H
  exact rl (.inl rfl) rfl (by kernel_rfl) (by kernel_rfl)
def Z0a.l1 (a0_c0:List Int) (a1:Ze) (a2:Zc) (a3:Zc) (t2827:Int×Int×Int) (t2831:List Int) (t2835:List Int) (x3187:Int) (x3189:List Za) (x3190:Int) (x3218:Int) (x3284:Int) (x3285:Int) (x3286:List Int) (x3287:List Int) (x3288:Int):Option (Int×Int×(List Int)×(List Int)):=if(decide (x3288<(i64.wrap ((i64.wrap ((2:Int)+(t2831.length:Int)))+(t2835.length:Int)))))=true then(((if(x3190==(0:Int))=true then((Zv.f a0_c0 x3284 x3285)>>=fun t3296=>(at? x3286 x3288)>>=fun b3298=>some (t3296.2.1,t3296.2.2,x3286.set (Int.toNat (x3288)) t3296.1,x3287)) else(((if(x3190==(1:Int))=true then((Zz.f a0_c0 x3284 x3285)>>=fun t3307=>(at? x3287 x3288)>>=fun b3309=>(at? x3286 x3288)>>=fun b3318=>(at? (x3287.set (Int.toNat (x3288)) (u64.wrap (t3307.1))) x3288)>>=fun b3321=>some (t3307.2.1,t3307.2.2,x3286.set (Int.toNat (x3288)) (u64.wrap (b3318+b3321)),x3287.set (Int.toNat (x3288)) (u64.wrap (t3307.1)))) else((at? x3287 x3288)>>=fun b3329=>(Zz.f a0_c0 x3284 x3285)>>=fun t3332=>(at? x3286 x3288)>>=fun b3340=>(at? (x3287.set (Int.toNat (x3288)) (u64.wrap (b3329+(u64.wrap (t3332.1))))) x3288)>>=fun b3343=>some (t3332.2.1,t3332.2.2,x3286.set (Int.toNat (x3288)) (u64.wrap (b3340+b3343)),x3287.set (Int.toNat (x3288)) (u64.wrap (b3329+(u64.wrap (t3332.1))))))):Option (Int×Int×(List Int)×(List Int)))>>=fun oo=>match oo with | (x3346,x3347,x3348,x3349)=>(some (x3346,x3347,x3348,x3349)))):Option (Int×Int×(List Int)×(List Int)))>>=fun oo=>match oo with | (x3350,x3351,x3352,x3353)=>(Z0a.l1 a0_c0 a1 a2 a3 t2827 t2831 t2835 x3187 x3189 x3190 x3218 x3350 x3351 x3352 x3353 (i64.wrap (x3288+(1:Int))))) else(some (x3284,x3285,x3286,x3287))
partial_fixpoint
def Z0a.l0 (a0_c0:List Int) (a1:Ze) (a2:Zc) (a3:Zc) (t2827:Int×Int×Int) (t2831:List Int) (t2835:List Int) (v:Int×Int×(List Int)×(List Int)×Int×Int×(List Za)×Int):Option ((List Za)×Int×Int):=match v with
 | (x3183,x3184,x3185,x3186,x3187,x3188,x3189,x3190)=>((if(decide (x3190<(i64.wrap ((1:Int)+t2827.1))))=true then((Z0g.f a0_c0 x3183 x3184)>>=fun t3195=>some (x3184==(0:Int))) else(some false)):Option (Bool))>>=fun x3197=>if x3197=true then(((if(x3190==(0:Int))=true then((Zr.f a0_c0 x3183 x3184 1099511627776)>>=fun t3202=>some (t3202.2.1,t3202.2.2,t3202.1)) else(((if(x3190==(1:Int))=true then((Zr.f a0_c0 x3183 x3184 1099511627776)>>=fun t3207=>some (t3207.2.1,t3207.2.2,i64.wrap ((i64.wrap (x3187+(1:Int)))+t3207.1))) else((Zz.f a0_c0 x3183 x3184)>>=fun t3211=>some (t3211.2.1,t3211.2.2,i64.wrap ((i64.wrap (x3187+x3188))+t3211.1)))):Option (Int×Int×Int))>>=fun oo=>match oo with | (x3213,x3214,x3215)=>(some (x3213,x3214,x3215)))):Option (Int×Int×Int))>>=fun oo=>match oo with | (x3216,x3217,x3218)=>((Z0a.l1 a0_c0 a1 a2 a3 t2827 t2831 t2835 x3187 x3189 x3190 x3218 x3216 x3217 x3185 x3186 0)>>=fun oo=>match oo with | (x3354,x3355,x3356,x3357)=>((at? x3356 0)>>=fun b3364=>(at? x3356 1)>>=fun b3367=>(chk (0≤(2:Int)∧(2:Int)≤(i64.wrap ((2:Int)+(t2831.length:Int)))∧(i64.wrap ((2:Int)+(t2831.length:Int)))≤(x3356.length:Int)))>>=fun _=>(Z1n.f a2 ((x3356.drop (Int.toNat (2:Int))).take (Int.toNat (i64.wrap ((2:Int)+(t2831.length:Int)))-Int.toNat (2:Int))))>>=fun t3377=>(chk (0≤(i64.wrap ((2:Int)+(t2831.length:Int)))∧(i64.wrap ((2:Int)+(t2831.length:Int)))≤(x3356.length:Int)∧(x3356.length:Int)≤(x3356.length:Int)))>>=fun _=>(Z1n.f a3 ((x3356.drop (Int.toNat (i64.wrap ((2:Int)+(t2831.length:Int))))).take (Int.toNat (x3356.length:Int)-Int.toNat (i64.wrap ((2:Int)+(t2831.length:Int))))))>>=fun t3380=>(Z2n.f (⟨a1.f0,a1.f1,a1.f2,b3364,a1.f4,i64.wrap (b3367),t3377,t3380⟩:Ze) t3377 t3380)>>=fun t3386=>(chk ((x3189.length+[(⟨x3218,(t3386.1)⟩:Za)].length)*104≤140737488355328))>>=fun _=>Z0a.l0 a0_c0 a1 a2 a3 t2827 t2831 t2835 (x3354,x3355,x3356,x3357,x3218,i64.wrap (x3218-x3187),x3189++[(⟨x3218,(t3386.1)⟩:Za)],i64.wrap (x3190+(1:Int)))))) else(some (x3189,x3183,x3184))
partial_fixpoint
def Z0a.f (a0_c0:List Int) (a0_c1:Int) (a0_c2:Int) (a1:Ze) (a2:Zc) (a3:Zc):Option ((List Za)×Int×Int):=(Zr.f a0_c0 a0_c1 a0_c2 31)>>=fun t2827=>(Zk.f a2)>>=fun t2831=>(Zk.f a3)>>=fun t2835=>(chk (0≤(i64.wrap ((i64.wrap ((2:Int)+(t2831.length:Int)))+(t2835.length:Int)))∧(i64.wrap ((i64.wrap ((2:Int)+(t2831.length:Int)))+(t2835.length:Int)))≤(i64.wrap ((i64.wrap ((2:Int)+(t2831.length:Int)))+(t2835.length:Int)))∧((8:Nat):Int)*(i64.wrap ((i64.wrap ((2:Int)+(t2831.length:Int)))+(t2835.length:Int)))≤281474976710656∧(i64.wrap ((i64.wrap ((2:Int)+(t2831.length:Int)))+(t2835.length:Int)))≤9223372036854775807))>>=fun _=>(Z0a.l0 a0_c0 a1 a2 a3 t2827 t2831 t2835 (t2827.2.1,t2827.2.2,List.replicate (Int.toNat (i64.wrap ((i64.wrap ((2:Int)+(t2831.length:Int)))+(t2835.length:Int)))) 0,List.replicate (Int.toNat (i64.wrap ((i64.wrap ((2:Int)+(t2831.length:Int)))+(t2835.length:Int)))) 0,0,0,[],0))>>=fun oo=>match oo with | (x3390,x3391,x3392)=>(some (x3390,x3391,x3392))
theorem Z0a.ok (a0_c0:List Int) (a0_c1:Int) (a0_c2:Int) (a1:Ze) (a2:Zc) (a3:Zc) (r:(List Za)×Int×Int) (H:Z0a.f a0_c0 a0_c1 a0_c2 a1 a2 a3=some r):Pv.Fn Tryz.prog 33 [.ptr 0 0 0,.agg (Zh a1),.agg (Zb a2),.agg (Zb a3)] [(0,some (.box 111 (Z5 ⟨a0_c0,a0_c1,a0_c2⟩)))] 1 (fun x o=>x = .own 1∧o=[(0,some (.box 111 (Z5 ⟨a0_c0,r.2.1,r.2.2⟩))),(1,some (.row 9 41 (r.1.map Z4)))]):=by
 unfold Z0a.f at H
 refine Fn.bodyK [0,1] Tryz.func33 rfl rfl (fun Γ hP hn => ?_)
 have hm:Tryz.prog.follows .mixedOrders=true:=by kernel_rfl
 replace hn:Γ.n=167:=hn
 refine sO hP hn hm [(0,.k 1),(1,.k 2),(2,.k 3)] [(5,.ptr 1 0 0),(6,.ptr 2 0 0),(7,.ptr 3 0 0)] [0,5,6,7] [(1,some (.box 39 (Zh a1))),(2,some (.box 53 (Zb a2))),(3,some (.box 53 (Zb a3)))] [0,1,2,3] ?_
 obtain⟨t2827,e2828,H⟩:=Z3 H
 refine sR hP hn hm [(1,.call [(0,0)] [(0,0)] [] [] 1 (iV .i64 t2827.1) [(0,some (.box 111 (Z5 ⟨a0_c0,t2827.2.1,t2827.2.2⟩)))])] [(9,iV .i64 (i64.wrap ((1:Int)+t2827.1)))] [0,5,6,7,9] [(0,some (.box 111 (Z5 ⟨a0_c0,t2827.2.1,t2827.2.2⟩)))] [0,1,2,3] [_,_] ⟨Tryz.call68,Zr.ok a0_c0 a0_c1 a0_c2 31 t2827 e2828,trivial⟩ ?_
 obtain⟨t2831,e2832,H⟩:=Z3 H
 refine sR hP hn hm [(1,.call [] [(0,4)] [] [4] 0 (.own 0) [(0,some (.row 1 3 (t2831.map (Z1 .i64))))]),(2,.any (iV .i64 (t2831.length:Int)))] [(10,iV .i64 (t2831.length:Int))] [0,5,6,7,9,10] [] [0,1,2,3] [_,_,((t2831.map (Z1 .i64)).length:Int)=(t2831.length:Int)] ⟨Tryz.call53,Zk.ok a2 t2831 e2832,by rw[Zi],trivial⟩ ?_
 obtain⟨t2835,e2836,H⟩:=Z3 H
 refine sR hP hn hm [(3,.call [] [(0,5)] [] [5] 0 (.own 0) [(0,some (.row 1 3 (t2835.map (Z1 .i64))))]),(4,.any (iV .i64 (t2835.length:Int)))] [(11,iV .i64 (i64.wrap ((i64.wrap ((2:Int)+(t2831.length:Int)))+(t2835.length:Int))))] [0,5,6,7,9,10,11] [] [0,1,2,3] [_,_,((t2835.map (Z1 .i64)).length:Int)=(t2835.length:Int)] ⟨Tryz.call53,Zk.ok a3 t2835 e2836,by rw[Zi],trivial⟩ ?_
 obtain⟨c2838,H⟩:=Z0q H
 refine sR hP hn hm [(1,.more (xMake 6 ((List.replicate (Int.toNat (i64.wrap ((i64.wrap ((2:Int)+(t2831.length:Int)))+(t2835.length:Int)))) 0).map (Z1 .u64)))),(3,.more (xMake 7 ((List.replicate (Int.toNat (i64.wrap ((i64.wrap ((2:Int)+(t2831.length:Int)))+(t2835.length:Int)))) 0).map (Z1 .u64))))] [(12,.own 6),(13,.own 7)] [0,5,6,7,9,10,11,12,13] [(6,some (.row 1 36 ((List.replicate (Int.toNat (i64.wrap ((i64.wrap ((2:Int)+(t2831.length:Int)))+(t2835.length:Int)))) 0).map (Z1 .u64)))),(7,some (.row 1 36 ((List.replicate (Int.toNat (i64.wrap ((i64.wrap ((2:Int)+(t2831.length:Int)))+(t2835.length:Int)))) 0).map (Z1 .u64))))] [0,1,2,3,6,7] [(List.replicate (Int.toNat (i64.wrap ((i64.wrap ((2:Int)+(t2831.length:Int)))+(t2835.length:Int)))) 0).map (Z1 .u64)=List.replicate (Int.toNat (i64.wrap ((i64.wrap ((2:Int)+(t2831.length:Int)))+(t2835.length:Int)))) [iI .u64 0],0≤(i64.wrap ((i64.wrap ((2:Int)+(t2831.length:Int)))+(t2835.length:Int))),(i64.wrap ((i64.wrap ((2:Int)+(t2831.length:Int)))+(t2835.length:Int)))≤(i64.wrap ((i64.wrap ((2:Int)+(t2831.length:Int)))+(t2835.length:Int))),((8:Nat):Int)*(i64.wrap ((i64.wrap ((2:Int)+(t2831.length:Int)))+(t2835.length:Int)))≤281474976710656,(i64.wrap ((i64.wrap ((2:Int)+(t2831.length:Int)))+(t2835.length:Int)))≤9223372036854775807,(List.replicate (Int.toNat (i64.wrap ((i64.wrap ((2:Int)+(t2831.length:Int)))+(t2835.length:Int)))) 0).map (Z1 .u64)=List.replicate (Int.toNat (i64.wrap ((i64.wrap ((2:Int)+(t2831.length:Int)))+(t2835.length:Int)))) [iI .u64 0],0≤(i64.wrap ((i64.wrap ((2:Int)+(t2831.length:Int)))+(t2835.length:Int))),(i64.wrap ((i64.wrap ((2:Int)+(t2831.length:Int)))+(t2835.length:Int)))≤(i64.wrap ((i64.wrap ((2:Int)+(t2831.length:Int)))+(t2835.length:Int))),((8:Nat):Int)*(i64.wrap ((i64.wrap ((2:Int)+(t2831.length:Int)))+(t2835.length:Int)))≤281474976710656,(i64.wrap ((i64.wrap ((2:Int)+(t2831.length:Int)))+(t2835.length:Int)))≤9223372036854775807] ⟨by simp,by exact c2838.1,by exact c2838.2.1,by exact c2838.2.2.1,by exact c2838.2.2.2,by simp,by exact c2838.1,by exact c2838.2.1,by exact c2838.2.2.1,by exact c2838.2.2.2,trivial⟩ ?_
 refine sO hP hn hm [] [(14,iV .i64 0),(15,iV .i64 0)] [0,5,6,7,9,10,11,12,13,14,15] [] [0,1,2,3,6,7] ?_
 refine sO hP hn hm [] [(16,.none0)] [0,5,6,7,9,10,11,12,13,14,15,16] [] [0,1,2,3,6,7] ?_
 refine AWp.seq ?_
 refine sO hP hn hm [] [(17,iV .i64 0)] [0,5,6,7,9,10,11,12,13,14,15,16,17] [] [0,1,2,3,6,7] ?_
 refine AWp.block ?_
 obtain⟨o3393,e3394,H⟩:=Z3 H
 refine AWp.loop (LWp.conv (inv:=[(0,0),(1,93),(2,94),(3,95),(6,96),(7,97)]) (vk:=[]) (e0:=[98]) (t:=⟨[(0,.ptr 0 0 0),(5,.ptr 93 0 0),(6,.ptr 94 0 0),(7,.ptr 95 0 0),(9,iV .i64 (i64.wrap ((1:Int)+t2827.1))),(10,iV .i64 (t2831.length:Int)),(11,iV .i64 (i64.wrap ((i64.wrap ((2:Int)+(t2831.length:Int)))+(t2835.length:Int)))),(12,.own 96),(13,.own 97),(14,iV .i64 0),(15,iV .i64 0),(16,.own 98),(17,iV .i64 0)],[(0,some (.box 111 (Z5 ⟨a0_c0,t2827.2.1,t2827.2.2⟩))),(93,some (.box 39 (Zh a1))),(94,some (.box 53 (Zb a2))),(95,some (.box 53 (Zb a3))),(96,some (.row 1 36 ((List.replicate (Int.toNat (i64.wrap ((i64.wrap ((2:Int)+(t2831.length:Int)))+(t2835.length:Int)))) 0).map (Z1 .u64)))),(97,some (.row 1 36 ((List.replicate (Int.toNat (i64.wrap ((i64.wrap ((2:Int)+(t2831.length:Int)))+(t2835.length:Int)))) 0).map (Z1 .u64)))),(98,some (.row 9 41 ([].map Z4)))],1⟩) (by kernel_rfl) ?_)
 refine LWp.mono (Q:=fun e s=>(match (generalizing:=false) o3393 with | (x3390,x3391,x3392)=>e = .exit 0∧s=⟨[(16,.own 158)],[(0,some (.box 111 (Z5 ⟨a0_c0,x3391,x3392⟩))),(158,some (.row 9 41 (x3390.map Z4)))],1⟩)) (LWp.cv (Zn (fun body hbody => ?_))) ?_
 ·refine                 Z0a.l0.partial_correctness a0_c0 a1 a2 a3 t2827 t2831 t2835 (motive:=fun v o3393=>(match (generalizing:=false) v with | (x3183,x3184,x3185,x3186,x3187,x3188,x3189,x3190)=>LWp Γ body (fun e s=>∃ t,Cv Γ s t∧(match (generalizing:=false) o3393 with | (x3390,x3391,x3392)=>e = .exit 0∧t=⟨[(16,.own 158)],[(0,some (.box 111 (Z5           ⟨a0_c0,x3391,x3392⟩))),(158,some (.row 9 41 (x3390.map Z4     )))],1⟩)) ⟨[(0,.ptr 0 0 0),(5,.ptr 93 0 0),(6,.ptr 94 0 0),(7,.ptr 95 0 0),(9,iV .i64 (i64.wrap ((1:Int)+t2827.1))),(10,iV .i64 (t2831.length:Int)),(11,iV .i64 (i64.wrap ((i64.wrap ((2:Int)+(t2831.length:Int)))+(t2835.length:Int)))),(12,.own 96),(13,.own 97),(14,iV .i64 x3187),(15,iV .i64 x3188),(16,.own 98),(17,iV .i64 x3190)],[(0,some (.box 111 (Z5           ⟨a0_c0,x3183,x3184⟩))),(93,some (.box 39 (Zh    a1))),(94,some (.box 53 (Zb           a2))),(95,some (.box 53 (Zb           a3))),(96,some (.row 1 36 (x3185.map (Z1     .u64)))),(97,some (.row 1 36 (x3186.map (Z1     .u64)))),(98,some (.row 9 41 (x3189.map Z4     )))],1⟩)) ?_ _ _ e3394
  clear H e3394 o3393;intro self ih v o3393 H
  obtain⟨x3183,x3184,x3185,x3186,x3187,x3188,x3189,x3190⟩:=v
  dsimp only at H
  subst hbody
  refine LWp.round ?_
  refine AWp.seq ?_
  refine AWp.seq ?_
  obtain⟨o3395,e3396,H⟩:=Z3 H
  refine AWp.mono (Q:=fun e s=>(match (generalizing:=false) o3395 with | x3197=>e = .normal∧s=⟨[(0,.ptr 0 0 0),(5,.ptr 99 0 0),(6,.ptr 100 0 0),(7,.ptr 101 0 0),(9,iV .i64 (i64.wrap ((1:Int)+t2827.1))),(10,iV .i64 (t2831.length:Int)),(11,iV .i64 (i64.wrap ((i64.wrap ((2:Int)+(t2831.length:Int)))+(t2835.length:Int)))),(12,.own 102),(13,.own 103),(14,iV .i64 x3187),(15,iV .i64 x3188),(16,.own 104),(17,iV .i64 x3190),(44,bV x3197)],[(0,some (.box 111 (Z5 ⟨a0_c0,x3183,x3184⟩))),(99,some (.box 39 (Zh a1))),(100,some (.box 53 (Zb a2))),(101,some (.box 53 (Zb a3))),(102,some (.row 1 36 (x3185.map (Z1 .u64)))),(103,some (.row 1 36 (x3186.map (Z1 .u64)))),(104,some (.row 9 41 (x3189.map Z4)))],1⟩)) (AWp.cv ?_) ?_
  ·replace H:=e3396;clear e3396
   rcases Bool.eq_false_or_eq_true (decide (x3190<(i64.wrap ((1:Int)+t2827.1)))) with c3194 | c3194
   ·replace H:=iT c3194 H
    obtain⟨t3195,e3196,H⟩:=Z3 H
    refine rG hP hn hm [(3,.b true),(5,.call [(0,0)] [(0,0)] [] [] 1 (iV .i64 x3184) [(0,some (.box 111 (Z5 ⟨a0_c0,x3183,x3184⟩)))])] [(41,.ptr 0 0 0),(42,iV .i64 x3184),(43,bV (x3184==(0:Int))),(44,bV (x3184==(0:Int)))] [0,5,6,7,9,10,11,12,13,14,15,16,17,41,42,43,44] [] [0,93,94,95,96,97,98] [_,_,_] ⟨c3194,Tryz.call69,Z0g.ok a0_c0 x3183 x3184 t3195 e3196,trivial⟩ ?_
    obtain rfl:=sj H
    exact lf [(0,0),(93,99),(94,100),(95,101),(96,102),(97,103),(98,104)] [] [] (by kernel_rfl) ⟨rfl,rfl⟩
   ·replace H:=iF c3194 H
    refine rG hP hn hm [(3,.b false)] [(44,bV false)] [0,5,6,7,9,10,11,12,13,14,15,16,17,44] [] [0,93,94,95,96,97,98] [_] ⟨c3194,trivial⟩ ?_
    obtain rfl:=sj H
    exact lf [(0,0),(93,99),(94,100),(95,101),(96,102),(97,103),(98,104)] [] [] (by kernel_rfl) ⟨rfl,rfl⟩
  ·obtain⟨x3197,rfl⟩:∃ z,z=o3395:=⟨_,rfl⟩
   rintro e s ⟨rfl,rfl⟩
   refine AWp.cond x3197 (by kernel_rfl) (fun c3198 => ?_) (fun c3198 => ?_)
   ·replace H:=iT c3198 H
    refine AWp.skip ?_
    refine AWp.seq ?_
    refine AWp.block ?_
    refine sO hP hn hm [] [] [0,5,6,7,9,10,11,12,13,14,15,16,17] [] [0,99,100,101,102,103,104] ?_
    refine AWp.seq ?_
    refine sO hP hn hm [] [(47,iV .i64 x3190)] [0,5,6,7,9,10,11,12,13,14,15,16,17,47] [] [0,99,100,101,102,103,104] ?_
    refine AWp.block ?_
    refine sO hP hn hm [] [(54,bV (x3190==(0:Int)))] [0,5,6,7,9,10,11,12,13,14,15,16,17,47,54] [] [0,99,100,101,102,103,104] ?_
    obtain⟨o3397,e3398,H⟩:=Z3 H
    refine AWp.mono (Q:=fun e s=>(match (generalizing:=false) o3397 with | (x3216,x3217,x3218)=>e = .normal∧s=⟨[(0,.ptr 0 0 0),(5,.ptr 111 0 0),(6,.ptr 112 0 0),(7,.ptr 113 0 0),(9,iV .i64 (i64.wrap ((1:Int)+t2827.1))),(10,iV .i64 (t2831.length:Int)),(11,iV .i64 (i64.wrap ((i64.wrap ((2:Int)+(t2831.length:Int)))+(t2835.length:Int)))),(12,.own 114),(13,.own 115),(14,iV .i64 x3187),(16,.own 116),(17,iV .i64 x3190),(18,iV .i64 x3218)],[(0,some (.box 111 (Z5 ⟨a0_c0,x3216,x3217⟩))),(111,some (.box 39 (Zh a1))),(112,some (.box 53 (Zb a2))),(113,some (.box 53 (Zb a3))),(114,some (.row 1 36 (x3185.map (Z1 .u64)))),(115,some (.row 1 36 (x3186.map (Z1 .u64)))),(116,some (.row 9 41 (x3189.map Z4)))],1⟩)) (AWp.cv ?_) ?_
    ·replace H:=e3398;clear e3398
     refine AWp.cond (x3190==(0:Int)) (by kernel_rfl) (fun c3199 => ?_) (fun c3199 => ?_)
     ·replace H:=iT c3199 H
      obtain⟨t3202,e3203,H⟩:=Z3 H
      refine rG hP hn hm [(1,.call [(0,0)] [(0,0)] [] [] 1 (iV .i64 t3202.1) [(0,some (.box 111 (Z5 ⟨a0_c0,t3202.2.1,t3202.2.2⟩)))])] [(18,iV .i64 t3202.1)] [0,5,6,7,9,10,11,12,13,14,16,17,18] [(0,some (.box 111 (Z5 ⟨a0_c0,t3202.2.1,t3202.2.2⟩)))] [0,99,100,101,102,103,104] [_,_] ⟨Tryz.call68,Zr.ok a0_c0 x3183 x3184 1099511627776 t3202 e3203,trivial⟩ ?_
      obtain rfl:=sj H
      exact lf [(0,0),(99,111),(100,112),(101,113),(102,114),(103,115),(104,116)] [] [] (by kernel_rfl) ⟨rfl,rfl⟩
     ·replace H:=iF c3199 H
      refine sO hP hn hm [] [(58,bV (x3190==(1:Int)))] [0,5,6,7,9,10,11,12,13,14,15,16,17,58] [] [0,99,100,101,102,103,104] ?_
      obtain⟨o3399,e3400,H⟩:=Z3 H
      refine AWp.mono (Q:=fun e s=>(match (generalizing:=false) o3399 with | (x3213,x3214,x3215)=>e = .normal∧s=⟨[(0,.ptr 0 0 0),(5,.ptr 105 0 0),(6,.ptr 106 0 0),(7,.ptr 107 0 0),(9,iV .i64 (i64.wrap ((1:Int)+t2827.1))),(10,iV .i64 (t2831.length:Int)),(11,iV .i64 (i64.wrap ((i64.wrap ((2:Int)+(t2831.length:Int)))+(t2835.length:Int)))),(12,.own 108),(13,.own 109),(14,iV .i64 x3187),(16,.own 110),(17,iV .i64 x3190),(18,iV .i64 x3215)],[(0,some (.box 111 (Z5 ⟨a0_c0,x3213,x3214⟩))),(105,some (.box 39 (Zh a1))),(106,some (.box 53 (Zb a2))),(107,some (.box 53 (Zb a3))),(108,some (.row 1 36 (x3185.map (Z1 .u64)))),(109,some (.row 1 36 (x3186.map (Z1 .u64)))),(110,some (.row 9 41 (x3189.map Z4)))],1⟩)) (AWp.cv ?_) ?_
      ·replace H:=e3400;clear e3400
       refine AWp.cond (x3190==(1:Int)) (by kernel_rfl) (fun c3204 => ?_) (fun c3204 => ?_)
       ·replace H:=iT c3204 H
        obtain⟨t3207,e3208,H⟩:=Z3 H
        refine rG hP hn hm [(3,.call [(0,0)] [(0,0)] [] [] 1 (iV .i64 t3207.1) [(0,some (.box 111 (Z5 ⟨a0_c0,t3207.2.1,t3207.2.2⟩)))])] [(18,iV .i64 (i64.wrap ((i64.wrap (x3187+(1:Int)))+t3207.1)))] [0,5,6,7,9,10,11,12,13,14,16,17,18] [(0,some (.box 111 (Z5 ⟨a0_c0,t3207.2.1,t3207.2.2⟩)))] [0,99,100,101,102,103,104] [_,_] ⟨Tryz.call68,Zr.ok a0_c0 x3183 x3184 1099511627776 t3207 e3208,trivial⟩ ?_
        obtain rfl:=sj H
        exact lf [(0,0),(99,105),(100,106),(101,107),(102,108),(103,109),(104,110)] [] [] (by kernel_rfl) ⟨rfl,rfl⟩
       ·replace H:=iF c3204 H
        obtain⟨t3211,e3212,H⟩:=Z3 H
        refine rG hP hn hm [(4,.call [(0,0)] [(0,0)] [] [] 1 (iV .i64 t3211.1) [(0,some (.box 111 (Z5 ⟨a0_c0,t3211.2.1,t3211.2.2⟩)))])] [(18,iV .i64 (i64.wrap ((i64.wrap (x3187+x3188))+t3211.1)))] [0,5,6,7,9,10,11,12,13,14,16,17,18] [(0,some (.box 111 (Z5 ⟨a0_c0,t3211.2.1,t3211.2.2⟩)))] [0,99,100,101,102,103,104] [_,_] ⟨Tryz.call31,Zz.ok a0_c0 x3183 x3184 t3211 e3212,trivial⟩ ?_
        obtain rfl:=sj H
        exact lf [(0,0),(99,105),(100,106),(101,107),(102,108),(103,109),(104,110)] [] [] (by kernel_rfl) ⟨rfl,rfl⟩
      ·obtain⟨x3213,x3214,x3215⟩:=o3399
       rintro e s ⟨rfl,rfl⟩
       obtain rfl:=sj H
       exact lf [(0,0),(105,111),(106,112),(107,113),(108,114),(109,115),(110,116)] [] [] (by kernel_rfl) ⟨rfl,rfl⟩
    ·obtain⟨x3216,x3217,x3218⟩:=o3397
     rintro e s ⟨rfl,rfl⟩
     refine sO hP hn hm [] [(14,iV .i64 x3218),(15,iV .i64 (i64.wrap (x3218-x3187)))] [0,5,6,7,9,10,11,12,13,14,15,16,17,18] [] [0,111,112,113,114,115,116] ?_
     refine AWp.seq ?_
     refine sO hP hn hm [] [(69,iV .i64 (i64.wrap ((i64.wrap ((2:Int)+(t2831.length:Int)))+(t2835.length:Int)))),(70,iV .i64 0)] [0,5,6,7,9,10,11,12,13,14,15,16,17,18,69,70] [] [0,111,112,113,114,115,116] ?_
     refine AWp.block ?_
     obtain⟨o3401,e3402,H⟩:=Z3 H
     refine AWp.loop (LWp.conv (inv:=[(0,0),(111,129),(112,130),(113,131),(114,132),(115,133),(116,134)]) (vk:=[]) (e0:=[]) (t:=⟨[(0,.ptr 0 0 0),(5,.ptr 129 0 0),(6,.ptr 130 0 0),(7,.ptr 131 0 0),(9,iV .i64 (i64.wrap ((1:Int)+t2827.1))),(10,iV .i64 (t2831.length:Int)),(11,iV .i64 (i64.wrap ((i64.wrap ((2:Int)+(t2831.length:Int)))+(t2835.length:Int)))),(12,.own 132),(13,.own 133),(14,iV .i64 x3218),(15,iV .i64 (i64.wrap (x3218-x3187))),(16,.own 134),(17,iV .i64 x3190),(18,iV .i64 x3218),(69,iV .i64 (i64.wrap ((i64.wrap ((2:Int)+(t2831.length:Int)))+(t2835.length:Int)))),(70,iV .i64 0)],[(0,some (.box 111 (Z5 ⟨a0_c0,x3216,x3217⟩))),(129,some (.box 39 (Zh a1))),(130,some (.box 53 (Zb a2))),(131,some (.box 53 (Zb a3))),(132,some (.row 1 36 (x3185.map (Z1 .u64)))),(133,some (.row 1 36 (x3186.map (Z1 .u64)))),(134,some (.row 9 41 (x3189.map Z4)))],1⟩) (by kernel_rfl) ?_)
     refine LWp.mono (Q:=fun e s=>(match (generalizing:=false) o3401 with | (x3354,x3355,x3356,x3357)=>e = .exit 3∧s=⟨[(0,.ptr 0 0 0),(5,.ptr 147 0 0),(6,.ptr 148 0 0),(7,.ptr 149 0 0),(9,iV .i64 (i64.wrap ((1:Int)+t2827.1))),(10,iV .i64 (t2831.length:Int)),(11,iV .i64 (i64.wrap ((i64.wrap ((2:Int)+(t2831.length:Int)))+(t2835.length:Int)))),(12,.own 150),(13,.own 151),(14,iV .i64 x3218),(15,iV .i64 (i64.wrap (x3218-x3187))),(16,.own 152),(17,iV .i64 x3190),(18,iV .i64 x3218)],[(0,some (.box 111 (Z5 ⟨a0_c0,x3354,x3355⟩))),(147,some (.box 39 (Zh a1))),(148,some (.box 53 (Zb a2))),(149,some (.box 53 (Zb a3))),(150,some (.row 1 36 (x3356.map (Z1 .u64)))),(151,some (.row 1 36 (x3357.map (Z1 .u64)))),(152,some (.row 9 41 (x3189.map Z4)))],1⟩)) (LWp.cv (Zn (fun body hbody => ?_))) ?_
     ·refine                 Z0a.l1.partial_correctness a0_c0 a1 a2 a3 t2827 t2831 t2835 x3187 x3189 x3190 x3218 (motive:=fun x3284 x3285 x3286 x3287 x3288 o3401=>LWp Γ body (fun e s=>∃ t,Cv Γ s t∧(match (generalizing:=false) o3401 with | (x3354,x3355,x3356,x3357)=>e = .exit 3∧t=⟨[(0,.ptr 0 0 0),(5,.ptr 147 0 0),(6,.ptr 148 0 0),(7,.ptr 149 0 0),(9,iV .i64 (i64.wrap ((1:Int)+t2827.1))),(10,iV .i64 (t2831.length:Int)),(11,iV .i64 (i64.wrap ((i64.wrap ((2:Int)+(t2831.length:Int)))+(t2835.length:Int)))),(12,.own 150),(13,.own 151),(14,iV .i64 x3218),(15,iV .i64 (i64.wrap (x3218-x3187))),(16,.own 152),(17,iV .i64 x3190),(18,iV .i64 x3218)],[(0,some (.box 111 (Z5           ⟨a0_c0,x3354,x3355⟩))),(147,some (.box 39 (Zh    a1))),(148,some (.box 53 (Zb           a2))),(149,some (.box 53 (Zb           a3))),(150,some (.row 1 36 (x3356.map (Z1     .u64)))),(151,some (.row 1 36 (x3357.map (Z1     .u64)))),(152,some (.row 9 41 (x3189.map Z4     )))],1⟩)) ⟨[(0,.ptr 0 0 0),(5,.ptr 129 0 0),(6,.ptr 130 0 0),(7,.ptr 131 0 0),(9,iV .i64 (i64.wrap ((1:Int)+t2827.1))),(10,iV .i64 (t2831.length:Int)),(11,iV .i64 (i64.wrap ((i64.wrap ((2:Int)+(t2831.length:Int)))+(t2835.length:Int)))),(12,.own 132),(13,.own 133),(14,iV .i64 x3218),(15,iV .i64 (i64.wrap (x3218-x3187))),(16,.own 134),(17,iV .i64 x3190),(18,iV .i64 x3218),(69,iV .i64 (i64.wrap ((i64.wrap ((2:Int)+(t2831.length:Int)))+(t2835.length:Int)))),(70,iV .i64 x3288)],[(0,some (.box 111 (Z5           ⟨a0_c0,x3284,x3285⟩))),(129,some (.box 39 (Zh    a1))),(130,some (.box 53 (Zb           a2))),(131,some (.box 53 (Zb           a3))),(132,some (.row 1 36 (x3286.map (Z1     .u64)))),(133,some (.row 1 36 (x3287.map (Z1     .u64)))),(134,some (.row 9 41 (x3189.map Z4     )))],1⟩) ?_ _ _ _ _ _ _ e3402
      clear H e3402 o3401;intro self ih x3284 x3285 x3286 x3287 x3288 o3401 H
      subst hbody
      refine LWp.round ?_
      refine sO hP hn hm [] [(71,bV (decide (x3288<(i64.wrap ((i64.wrap ((2:Int)+(t2831.length:Int)))+(t2835.length:Int))))))] [0,5,6,7,9,10,11,12,13,14,15,16,17,18,69,70,71] [] [0,129,130,131,132,133,134] ?_
      refine AWp.seq ?_
      refine AWp.cond (decide (x3288<(i64.wrap ((i64.wrap ((2:Int)+(t2831.length:Int)))+(t2835.length:Int))))) (by kernel_rfl) (fun c3289 => ?_) (fun c3289 => ?_)
      ·replace H:=iT c3289 H
       refine AWp.skip ?_
       refine AWp.seq ?_
       refine AWp.block ?_
       refine sO hP hn hm [] [(19,iV .i64 x3288)] [0,5,6,7,9,10,11,12,13,14,15,16,17,18,19,69,70] [] [0,129,130,131,132,133,134] ?_
       refine sO hP hn hm [] [(73,iV .i64 x3190)] [0,5,6,7,9,10,11,12,13,14,15,16,17,18,19,69,70,73] [] [0,129,130,131,132,133,134] ?_
       refine AWp.block ?_
       refine sO hP hn hm [] [(93,bV (x3190==(0:Int)))] [0,5,6,7,9,10,11,12,13,14,15,16,17,18,19,69,70,73,93] [] [0,129,130,131,132,133,134] ?_
       obtain⟨o3403,e3404,H⟩:=Z3 H
       refine AWp.mono (Q:=fun e s=>(match (generalizing:=false) o3403 with | (x3350,x3351,x3352,x3353)=>e = .normal∧s=⟨[(0,.ptr 0 0 0),(5,.ptr 141 0 0),(6,.ptr 142 0 0),(7,.ptr 143 0 0),(9,iV .i64 (i64.wrap ((1:Int)+t2827.1))),(10,iV .i64 (t2831.length:Int)),(11,iV .i64 (i64.wrap ((i64.wrap ((2:Int)+(t2831.length:Int)))+(t2835.length:Int)))),(12,.own 144),(13,.own 145),(14,iV .i64 x3218),(15,iV .i64 (i64.wrap (x3218-x3187))),(16,.own 146),(17,iV .i64 x3190),(18,iV .i64 x3218),(69,iV .i64 (i64.wrap ((i64.wrap ((2:Int)+(t2831.length:Int)))+(t2835.length:Int)))),(70,iV .i64 x3288)],[(0,some (.box 111 (Z5 ⟨a0_c0,x3350,x3351⟩))),(141,some (.box 39 (Zh a1))),(142,some (.box 53 (Zb a2))),(143,some (.box 53 (Zb a3))),(144,some (.row 1 36 (x3352.map (Z1 .u64)))),(145,some (.row 1 36 (x3353.map (Z1 .u64)))),(146,some (.row 9 41 (x3189.map Z4)))],1⟩)) (AWp.cv ?_) ?_
       ·replace H:=e3404;clear e3404
        refine AWp.cond (x3190==(0:Int)) (by kernel_rfl) (fun c3290 => ?_) (fun c3290 => ?_)
        ·replace H:=iT c3290 H
         obtain⟨t3296,e3297,H⟩:=Z3 H
         obtain⟨b3298,p3299,q3300,H⟩:=Z03 H
         refine rG hP hn hm [(3,.call [(0,0)] [(0,0)] [] [] 1 (iV .u64 t3296.1) [(0,some (.box 111 (Z5 ⟨a0_c0,t3296.2.1,t3296.2.2⟩)))]),(5,.put ((Z1 .u64) b3298) ((x3286.set (Int.toNat (x3288)) t3296.1).map (Z1 .u64)))] [] [0,5,6,7,9,10,11,12,13,14,15,16,17,18,69,70] [(0,some (.box 111 (Z5 ⟨a0_c0,t3296.2.1,t3296.2.2⟩))),(132,some (.row 1 36 ((x3286.set (Int.toNat (x3288)) t3296.1).map (Z1 .u64))))] [0,129,130,131,132,133,134] [_,_,_,_,_,(x3286.set (Int.toNat (x3288)) t3296.1).map (Z1 .u64)=(x3286.map (Z1 .u64)).set (Int.toNat (x3288)) (Z1w ((Z1 .u64) b3298) 0 [iI .u64 t3296.1])] ⟨Tryz.call67,Zv.ok a0_c0 x3284 x3285 t3296 e3297,p3299,Z1u (Z1 .u64) p3299 q3300,Zf (Z1 .u64) q3300,by exact set1 _ _ _ _,trivial⟩ ?_
         obtain rfl:=sj H
         exact lf [(0,0),(129,141),(130,142),(131,143),(132,144),(133,145),(134,146)] [] [] (by kernel_rfl) ⟨rfl,rfl⟩
        ·replace H:=iF c3290 H
         refine sO hP hn hm [] [(100,bV (x3190==(1:Int)))] [0,5,6,7,9,10,11,12,13,14,15,16,17,18,19,69,70,100] [] [0,129,130,131,132,133,134] ?_
         obtain⟨o3405,e3406,H⟩:=Z3 H
         refine AWp.mono (Q:=fun e s=>(match (generalizing:=false) o3405 with | (x3346,x3347,x3348,x3349)=>e = .normal∧s=⟨[(0,.ptr 0 0 0),(5,.ptr 135 0 0),(6,.ptr 136 0 0),(7,.ptr 137 0 0),(9,iV .i64 (i64.wrap ((1:Int)+t2827.1))),(10,iV .i64 (t2831.length:Int)),(11,iV .i64 (i64.wrap ((i64.wrap ((2:Int)+(t2831.length:Int)))+(t2835.length:Int)))),(12,.own 138),(13,.own 139),(14,iV .i64 x3218),(15,iV .i64 (i64.wrap (x3218-x3187))),(16,.own 140),(17,iV .i64 x3190),(18,iV .i64 x3218),(69,iV .i64 (i64.wrap ((i64.wrap ((2:Int)+(t2831.length:Int)))+(t2835.length:Int)))),(70,iV .i64 x3288)],[(0,some (.box 111 (Z5 ⟨a0_c0,x3346,x3347⟩))),(135,some (.box 39 (Zh a1))),(136,some (.box 53 (Zb a2))),(137,some (.box 53 (Zb a3))),(138,some (.row 1 36 (x3348.map (Z1 .u64)))),(139,some (.row 1 36 (x3349.map (Z1 .u64)))),(140,some (.row 9 41 (x3189.map Z4)))],1⟩)) (AWp.cv ?_) ?_
         ·replace H:=e3406;clear e3406
          refine AWp.cond (x3190==(1:Int)) (by kernel_rfl) (fun c3301 => ?_) (fun c3301 => ?_)
          ·replace H:=iT c3301 H
           obtain⟨t3307,e3308,H⟩:=Z3 H
           obtain⟨b3309,p3310,q3311,H⟩:=Z03 H
           refine sR hP hn hm [(3,.call [(0,0)] [(0,0)] [] [] 1 (iV .i64 t3307.1) [(0,some (.box 111 (Z5 ⟨a0_c0,t3307.2.1,t3307.2.2⟩)))]),(6,.put ((Z1 .u64) b3309) ((x3287.set (Int.toNat (x3288)) (u64.wrap (t3307.1))).map (Z1 .u64)))] [] [0,5,6,7,9,10,11,12,13,14,15,16,17,18,19,69,70] [(0,some (.box 111 (Z5 ⟨a0_c0,t3307.2.1,t3307.2.2⟩))),(133,some (.row 1 36 ((x3287.set (Int.toNat (x3288)) (u64.wrap (t3307.1))).map (Z1 .u64))))] [0,129,130,131,132,133,134] [_,_,_,_,_,(x3287.set (Int.toNat (x3288)) (u64.wrap (t3307.1))).map (Z1 .u64)=(x3287.map (Z1 .u64)).set (Int.toNat (x3288)) (Z1w ((Z1 .u64) b3309) 0 [iI .u64 (u64.wrap (t3307.1))])] ⟨Tryz.call31,Zz.ok a0_c0 x3284 x3285 t3307 e3308,p3310,Z1u (Z1 .u64) p3310 q3311,Zf (Z1 .u64) q3311,by exact set1 _ _ _ _,trivial⟩ ?_
           obtain⟨b3318,p3319,q3320,H⟩:=Z03 H
           obtain⟨b3321,p3322,q3323,H⟩:=Z03 H
           refine rG hP hn hm [(3,.c ((Z1 .u64) b3318)),(7,.c ((Z1 .u64) b3321)),(10,.put ((Z1 .u64) b3318) ((x3286.set (Int.toNat (x3288)) (u64.wrap (b3318+b3321))).map (Z1 .u64)))] [] [0,5,6,7,9,10,11,12,13,14,15,16,17,18,69,70] [(132,some (.row 1 36 ((x3286.set (Int.toNat (x3288)) (u64.wrap (b3318+b3321))).map (Z1 .u64))))] [0,129,130,131,132,133,134] [_,_,_,_,_,_,_,_,_,(x3286.set (Int.toNat (x3288)) (u64.wrap (b3318+b3321))).map (Z1 .u64)=(x3286.map (Z1 .u64)).set (Int.toNat (x3288)) (Z1w ((Z1 .u64) b3318) 0 [iI .u64 (u64.wrap (b3318+b3321))])] ⟨p3319,Z1u (Z1 .u64) p3319 q3320,Zf (Z1 .u64) q3320,p3322,Z1u (Z1 .u64) p3322 q3323,Zf (Z1 .u64) q3323,p3319,Z1u (Z1 .u64) p3319 q3320,Zf (Z1 .u64) q3320,by exact set1 _ _ _ _,trivial⟩ ?_
           obtain rfl:=sj H
           exact lf [(0,0),(129,135),(130,136),(131,137),(132,138),(133,139),(134,140)] [] [] (by kernel_rfl) ⟨rfl,rfl⟩
          ·replace H:=iF c3301 H
           obtain⟨b3329,p3330,q3331,H⟩:=Z03 H
           obtain⟨t3332,e3333,H⟩:=Z3 H
           refine sR hP hn hm [(3,.c ((Z1 .u64) b3329)),(5,.call [(0,0)] [(0,0)] [] [] 1 (iV .i64 t3332.1) [(0,some (.box 111 (Z5 ⟨a0_c0,t3332.2.1,t3332.2.2⟩)))]),(9,.put ((Z1 .u64) b3329) ((x3287.set (Int.toNat (x3288)) (u64.wrap (b3329+(u64.wrap (t3332.1))))).map (Z1 .u64)))] [] [0,5,6,7,9,10,11,12,13,14,15,16,17,18,19,69,70] [(0,some (.box 111 (Z5 ⟨a0_c0,t3332.2.1,t3332.2.2⟩))),(133,some (.row 1 36 ((x3287.set (Int.toNat (x3288)) (u64.wrap (b3329+(u64.wrap (t3332.1))))).map (Z1 .u64))))] [0,129,130,131,132,133,134] [_,_,_,_,_,_,_,_,(x3287.set (Int.toNat (x3288)) (u64.wrap (b3329+(u64.wrap (t3332.1))))).map (Z1 .u64)=(x3287.map (Z1 .u64)).set (Int.toNat (x3288)) (Z1w ((Z1 .u64) b3329) 0 [iI .u64 (u64.wrap (b3329+(u64.wrap (t3332.1))))])] ⟨p3330,Z1u (Z1 .u64) p3330 q3331,Zf (Z1 .u64) q3331,Tryz.call31,Zz.ok a0_c0 x3284 x3285 t3332 e3333,p3330,Z1u (Z1 .u64) p3330 q3331,Zf (Z1 .u64) q3331,by exact set1 _ _ _ _,trivial⟩ ?_
           obtain⟨b3340,p3341,q3342,H⟩:=Z03 H
           obtain⟨b3343,p3344,q3345,H⟩:=Z03 H
           refine rG hP hn hm [(3,.c ((Z1 .u64) b3340)),(7,.c ((Z1 .u64) b3343)),(10,.put ((Z1 .u64) b3340) ((x3286.set (Int.toNat (x3288)) (u64.wrap (b3340+b3343))).map (Z1 .u64)))] [] [0,5,6,7,9,10,11,12,13,14,15,16,17,18,69,70] [(132,some (.row 1 36 ((x3286.set (Int.toNat (x3288)) (u64.wrap (b3340+b3343))).map (Z1 .u64))))] [0,129,130,131,132,133,134] [_,_,_,_,_,_,_,_,_,(x3286.set (Int.toNat (x3288)) (u64.wrap (b3340+b3343))).map (Z1 .u64)=(x3286.map (Z1 .u64)).set (Int.toNat (x3288)) (Z1w ((Z1 .u64) b3340) 0 [iI .u64 (u64.wrap (b3340+b3343))])] ⟨p3341,Z1u (Z1 .u64) p3341 q3342,Zf (Z1 .u64) q3342,p3344,Z1u (Z1 .u64) p3344 q3345,Zf (Z1 .u64) q3345,p3341,Z1u (Z1 .u64) p3341 q3342,Zf (Z1 .u64) q3342,by exact set1 _ _ _ _,trivial⟩ ?_
           obtain rfl:=sj H
           exact lf [(0,0),(129,135),(130,136),(131,137),(132,138),(133,139),(134,140)] [] [] (by kernel_rfl) ⟨rfl,rfl⟩
         ·obtain⟨x3346,x3347,x3348,x3349⟩:=o3405
          rintro e s ⟨rfl,rfl⟩
          obtain rfl:=sj H
          exact lf [(0,0),(135,141),(136,142),(137,143),(138,144),(139,145),(140,146)] [] [] (by kernel_rfl) ⟨rfl,rfl⟩
       ·obtain⟨x3350,x3351,x3352,x3353⟩:=o3403
        rintro e s ⟨rfl,rfl⟩
        refine rO hP hn hm [] [(70,iV .i64 (i64.wrap (x3288+(1:Int))))] [0,5,6,7,9,10,11,12,13,14,15,16,17,18,69,70] [] [0,141,142,143,144,145,146] ?_
        exact LWp.conv [(0,0),(141,129),(142,130),(143,131),(144,132),(145,133),(146,134)] [] [] (by kernel_rfl) (ih _ _ _ _ _ _ H)
      ·replace H:=iF c3289 H
       refine AWp.exit ?_
       obtain rfl:=sj H
       exact lf [(0,0),(129,147),(130,148),(131,149),(132,150),(133,151),(134,152)] [] [] (by kernel_rfl) ⟨rfl,rfl⟩
     ·obtain⟨x3354,x3355,x3356,x3357⟩:=o3401
      rintro e s ⟨rfl,rfl⟩
      refine sO hP hn hm [(3,.k 153)] [(20,.ptr 153 0 0)] [0,5,6,7,9,10,11,12,13,14,15,16,17,20] [(153,some (.box 41 [iV .i64 x3218,iV .i64 a1.f0,iV .i64 a1.f1,iV .i64 a1.f2,iV .u64 a1.f3,iV .u64 a1.f4,iV .i64 a1.f5,.im (.row (a1.f6.map Z0)),.im (.row (a1.f7.map Z0))]))] [0,147,148,149,150,151,152,153] ?_
      obtain⟨b3364,p3365,q3366,H⟩:=Z03 H
      obtain⟨b3367,p3368,q3369,H⟩:=Z03 H
      refine sR hP hn hm [(2,.c ((Z1 .u64) b3364)),(5,.c ((Z1 .u64) b3367))] [] [0,5,6,7,9,10,11,12,13,14,15,16,17,20] [(153,some (.box 41 [iV .i64 x3218,iV .i64 a1.f0,iV .i64 a1.f1,iV .i64 a1.f2,iV .u64 b3364,iV .u64 a1.f4,iV .i64 (i64.wrap (b3367)),.im (.row (a1.f6.map Z0)),.im (.row (a1.f7.map Z0))]))] [0,147,148,149,150,151,152,153] [_,_,_,_,_,_] ⟨p3365,Z1u (Z1 .u64) p3365 q3366,Zf (Z1 .u64) q3366,p3368,Z1u (Z1 .u64) p3368 q3369,Zf (Z1 .u64) q3369,trivial⟩ ?_
      obtain⟨c3376,H⟩:=Z0q H
      obtain⟨t3377,e3378,H⟩:=Z3 H
      obtain⟨c3379,H⟩:=Z0q H
      obtain⟨t3380,e3381,H⟩:=Z3 H
      refine sR hP hn hm [(4,.more (xSub (Int.toNat (2:Int)) (Int.toNat (i64.wrap ((2:Int)+(t2831.length:Int)))-Int.toNat (2:Int)))),(5,.more (Z3q [] [(0,154)] [150] [154] 0 (.own 0) [(0,some (.row 2 87 (t3377.map Z0)))])),(10,.more (xSub (Int.toNat (i64.wrap ((2:Int)+(t2831.length:Int)))) (Int.toNat (x3356.length:Int)-Int.toNat (i64.wrap ((2:Int)+(t2831.length:Int)))))),(11,.more (Z3q [] [(0,155)] [150] [155] 0 (.own 0) [(0,some (.row 2 87 (t3380.map Z0)))]))] [] [0,5,6,7,9,10,11,12,13,14,15,16,17,20] [(153,some (.box 41 [iV .i64 x3218,iV .i64 a1.f0,iV .i64 a1.f1,iV .i64 a1.f2,iV .u64 b3364,iV .u64 a1.f4,iV .i64 (i64.wrap (b3367)),.own 154,.own 155])),(154,some (.row 2 87 (t3377.map Z0))),(155,some (.row 2 87 (t3380.map Z0)))] [0,147,148,149,150,151,152,153,154,155] [(2:Int)=((Int.toNat (2:Int):Nat):Int),(i64.wrap ((2:Int)+(t2831.length:Int)))=((Int.toNat (2:Int)+(Int.toNat (i64.wrap ((2:Int)+(t2831.length:Int)))-Int.toNat (2:Int)):Nat):Int),Int.toNat (2:Int)+(Int.toNat (i64.wrap ((2:Int)+(t2831.length:Int)))-Int.toNat (2:Int))≤(x3356.map (Z1 .u64)).length,_,Pv.Fn Tryz.prog 71 [.agg (Zb a2),.im (.row (((x3356.map (Z1 .u64)).drop (Int.toNat (2:Int))).take (Int.toNat (i64.wrap ((2:Int)+(t2831.length:Int)))-Int.toNat (2:Int))))] [] 0 (fun r o=>r = .own 0∧o=[(0,some (.row 2 87 (t3377.map Z0)))]),∀ c∈t3377.map Z0,∀ x∈c,∃ v,x=Im.sc v,(i64.wrap ((2:Int)+(t2831.length:Int)))=((Int.toNat (i64.wrap ((2:Int)+(t2831.length:Int))):Nat):Int),((x3356.map (Z1 .u64)).length:Int)=((Int.toNat (i64.wrap ((2:Int)+(t2831.length:Int)))+(Int.toNat (x3356.length:Int)-Int.toNat (i64.wrap ((2:Int)+(t2831.length:Int)))):Nat):Int),Int.toNat (i64.wrap ((2:Int)+(t2831.length:Int)))+(Int.toNat (x3356.length:Int)-Int.toNat (i64.wrap ((2:Int)+(t2831.length:Int))))≤(x3356.map (Z1 .u64)).length,_,Pv.Fn Tryz.prog 71 [.agg (Zb a3),.im (.row (((x3356.map (Z1 .u64)).drop (Int.toNat (i64.wrap ((2:Int)+(t2831.length:Int))))).take (Int.toNat (x3356.length:Int)-Int.toNat (i64.wrap ((2:Int)+(t2831.length:Int))))))] [] 0 (fun r o=>r = .own 0∧o=[(0,some (.row 2 87 (t3380.map Z0)))]),∀ c∈t3380.map Z0,∀ x∈c,∃ v,x=Im.sc v] ⟨by exact(Int.toNat_of_nonneg c3376.1).symm,by have h:=c3376;(try simp only[List.length_map] at h ⊢);omega,by have h:=c3376;simp only[List.length_map] at h ⊢;omega,Tryz.call71,by exact(by have hh:=Z1n.ok a2 ((x3356.drop (Int.toNat (2:Int))).take (Int.toNat (i64.wrap ((2:Int)+(t2831.length:Int)))-Int.toNat (2:Int))) t3377 e3378;rw[cut1 x3356 (Int.toNat (2:Int)) (Int.toNat (i64.wrap ((2:Int)+(t2831.length:Int)))-Int.toNat (2:Int)) (Z1 .u64)] at hh;exact hh),by exact Z3s _ _ (fun _=>by simp),by exact(Int.toNat_of_nonneg c3379.1).symm,by have h:=c3379;(try simp only[List.length_map] at h ⊢);omega,by have h:=c3379;simp only[List.length_map] at h ⊢;omega,Tryz.call71,by exact(by have hh:=Z1n.ok a3 ((x3356.drop (Int.toNat (i64.wrap ((2:Int)+(t2831.length:Int))))).take (Int.toNat (x3356.length:Int)-Int.toNat (i64.wrap ((2:Int)+(t2831.length:Int))))) t3380 e3381;rw[cut1 x3356 (Int.toNat (i64.wrap ((2:Int)+(t2831.length:Int)))) (Int.toNat (x3356.length:Int)-Int.toNat (i64.wrap ((2:Int)+(t2831.length:Int)))) (Z1 .u64)] at hh;exact hh),by exact Z3s _ _ (fun _=>by simp),trivial⟩ ?_
      refine AWp.seq ?_
      refine AWp.conv (inv:=[(0,0),(147,147),(148,148),(149,149),(150,150),(151,151),(152,152),(153,153)]) (vk:=[154,155]) (e0:=[]) (t:=⟨[(0,.ptr 0 0 0),(5,.ptr 147 0 0),(6,.ptr 148 0 0),(7,.ptr 149 0 0),(9,iV .i64 (i64.wrap ((1:Int)+t2827.1))),(10,iV .i64 (t2831.length:Int)),(11,iV .i64 (i64.wrap ((i64.wrap ((2:Int)+(t2831.length:Int)))+(t2835.length:Int)))),(12,.own 150),(13,.own 151),(14,iV .i64 x3218),(15,iV .i64 (i64.wrap (x3218-x3187))),(16,.own 152),(17,iV .i64 x3190),(20,.ptr 153 0 0)],[(0,some (.box 111 (Z5 ⟨a0_c0,x3354,x3355⟩))),(147,some (.box 39 (Zh a1))),(148,some (.box 53 (Zb a2))),(149,some (.box 53 (Zb a3))),(150,some (.row 1 36 (x3356.map (Z1 .u64)))),(151,some (.row 1 36 (x3357.map (Z1 .u64)))),(152,some (.row 9 41 (x3189.map Z4))),(153,some (.box 41 [iV .i64 x3218,iV .i64 a1.f0,iV .i64 a1.f1,iV .i64 a1.f2,iV .u64 b3364,iV .u64 a1.f4,iV .i64 (i64.wrap (b3367)),.im (.row (t3377.map Z0)),.im (.row (t3380.map Z0))]))],1⟩) (by kernel_rfl) ?_
      obtain⟨t3386,e3387,H⟩:=Z3 H
      refine rG hP hn hm [(8,.call [] [] [] [] 0 (.tup [.agg (Zh (t3386.1)),iV .i64 t3386.2]) [])] [] [0,5,6,7,9,10,11,12,13,14,15,16,17,20] [(153,some (.box 41 [iV .i64 x3218,iV .i64 ((t3386.1).f0),iV .i64 ((t3386.1).f1),iV .i64 ((t3386.1).f2),iV .u64 ((t3386.1).f3),iV .u64 ((t3386.1).f4),iV .i64 ((t3386.1).f5),.im (.row (((t3386.1).f6).map Z0)),.im (.row (((t3386.1).f7).map Z0))]))] [0,147,148,149,150,151,152,153] [_,_] ⟨Tryz.call72,Z2n.ok (⟨a1.f0,a1.f1,a1.f2,b3364,a1.f4,i64.wrap (b3367),t3377,t3380⟩:Ze) t3377 t3380 t3386 e3387,trivial⟩ ?_
      obtain⟨c3389,H⟩:=Z0q H
      refine rG hP hn hm [(2,.app 156 ([(⟨x3218,(t3386.1)⟩:Za)].map Z4)),(3,.app 157 ((x3189++[(⟨x3218,(t3386.1)⟩:Za)]).map Z4))] [(16,.own 157)] [0,5,6,7,9,10,11,12,13,14,15,16,17] [(157,some (.row 9 41 ((x3189++[(⟨x3218,(t3386.1)⟩:Za)]).map Z4)))] [0,147,148,149,150,151,157] [[(⟨x3218,(t3386.1)⟩:Za)].map Z4=[[iI .i64 x3218,iI .i64 ((t3386.1).f0),iI .i64 ((t3386.1).f1),iI .i64 ((t3386.1).f2),iI .u64 ((t3386.1).f3),iI .u64 ((t3386.1).f4),iI .i64 ((t3386.1).f5),.row (((t3386.1).f6).map Z0),.row (((t3386.1).f7).map Z0)]],(x3189++[(⟨x3218,(t3386.1)⟩:Za)]).map Z4=(x3189.map Z4)++([(⟨x3218,(t3386.1)⟩:Za)].map Z4),∀ c∈([(⟨x3218,(t3386.1)⟩:Za)].map Z4),c.length=9,∀ c∈([(⟨x3218,(t3386.1)⟩:Za)].map Z4),Z0m (c.map .im)=true,((x3189.map Z4).length+([(⟨x3218,(t3386.1)⟩:Za)].map Z4).length)*104≤140737488355328] ⟨by exact rfl,by simp,by exact Z0k _ _ _ (fun _=>rfl),by exact Z0j _ _ (fun _=>rfl),by simpa using c3389,trivial⟩ ?_
      refine rO hP hn hm [] [(17,iV .i64 (i64.wrap (x3190+(1:Int))))] [0,5,6,7,9,10,11,12,13,14,15,16,17] [] [0,147,148,149,150,151,157] ?_
      exact LWp.conv [(0,0),(147,93),(148,94),(149,95),(150,96),(151,97),(157,98)] [] [] (by kernel_rfl) (ih _ _ H)
   ·replace H:=iF c3198 H
    refine AWp.exit ?_
    obtain rfl:=sj H
    exact lf [(104,158),(0,0)] [] [] (by kernel_rfl) ⟨rfl,rfl⟩
 ·obtain⟨x3390,x3391,x3392⟩:=o3393
  rintro e s ⟨rfl,rfl⟩
  refine sO hP hn hm [] [(8,.own 158)] [8] [] [0,158] ?_
  refine AWp.conv (inv:=[(0,0),(158,1)]) (vk:=[]) (e0:=[]) (t:=⟨[(8,.own 1)],[(0,some (.box 111 (Z5 ⟨a0_c0,x3391,x3392⟩))),(1,some (.row 9 41 (x3390.map Z4)))],1⟩) (by kernel_rfl) ?_
  refine AWp.ret ?_
  obtain rfl:=sj H
  exact rl (.inl rfl) rfl (by kernel_rfl) (by kernel_rfl)
def Z1a.f (a0_c0:List Int) (a0_c1:Int) (a0_c2:Int):Option (Unit):=some ()
theorem Z1a.ok (a0_c0:List Int) (a0_c1:Int) (a0_c2:Int) (r:Unit) (H:Z1a.f a0_c0 a0_c1 a0_c2=some r):Pv.Fn Tryz.prog 73 [.ptr 0 0 0] [(0,some (.box 111 (Z5 ⟨a0_c0,a0_c1,a0_c2⟩)))] 1 (fun x o=>x=iV .i64 (i64.wrap ((i64.wrap ((8:Int)*(a0_c0.length:Int)))-a0_c1))∧o=[(0,some (.box 111 (Z5 ⟨a0_c0,a0_c1,a0_c2⟩)))]):=by
 unfold Z1a.f at H
 refine Fn.bodyK [0] Tryz.func73 rfl rfl (fun Γ hP hn => ?_)
 have hm:Tryz.prog.follows .mixedOrders=true:=by kernel_rfl
 replace hn:Γ.n=14:=hn
 refine sO hP hn hm [] [] [0] [] [0] ?_
 refine sR hP hn hm [(4,.any (iV .i64 (a0_c0.length:Int)))] [(2,iV .i64 (i64.wrap ((i64.wrap ((8:Int)*(a0_c0.length:Int)))-a0_c1)))] [2] [] [0] [((a0_c0.map (Z1 .u8)).length:Int)=(a0_c0.length:Int)] ⟨by rw[Zi],trivial⟩ ?_
 refine AWp.conv (inv:=[(0,0)]) (vk:=[]) (e0:=[]) (t:=⟨[(2,iV .i64 (i64.wrap ((i64.wrap ((8:Int)*(a0_c0.length:Int)))-a0_c1)))],[(0,some (.box 111 (Z5 ⟨a0_c0,a0_c1,a0_c2⟩)))],1⟩) (by kernel_rfl) ?_
 refine AWp.ret ?_
 obtain rfl:=sj H
 exact rl (.inl rfl) rfl (by kernel_rfl) (by kernel_rfl)
def Z0s.l0 (a0_c0:List Int) (x3444:Int) (x3445:Int):Option (Int×Int):=((if(x3445==(0:Int))=true then((Z1a.f a0_c0 x3444 x3445)>>=fun t3450=>some (decide ((i64.wrap ((i64.wrap ((8:Int)*(a0_c0.length:Int)))-x3444))>(0:Int)))) else(some false)):Option (Bool))>>=fun x3452=>if x3452=true then((Z0h.f a0_c0 x3444 x3445)>>=fun t3456=>((if t3456.1=true then((Zw.f a0_c0 t3456.2.1 t3456.2.2 6)>>=fun t3461=>some t3461) else(some t3456.2.2)):Option (Int))>>=fun x3463=>Z0s.l0 a0_c0 t3456.2.1 x3463) else(some (x3444,x3445))
partial_fixpoint
def Z0s.f (a0_c0:List Int) (a0_c1:Int) (a0_c2:Int):Option (Int×Int×Int):=((if(a0_c2==(0:Int))=true then((Z1a.f a0_c0 a0_c1 a0_c2)>>=fun t3417=>some (decide ((i64.wrap ((i64.wrap ((8:Int)*(a0_c0.length:Int)))-a0_c1))≥(8:Int)))) else(some false)):Option (Bool))>>=fun x3419=>((if x3419=true then((Zw.f a0_c0 a0_c1 a0_c2 6)>>=fun t3423=>some t3423) else(some a0_c2)):Option (Int))>>=fun x3425=>(Z0s.l0 a0_c0 a0_c1 x3425)>>=fun oo=>match oo with | (x3464,x3465)=>(some (x3465,x3464,x3465))
theorem Z0s.ok (a0_c0:List Int) (a0_c1:Int) (a0_c2:Int) (r:Int×Int×Int) (H:Z0s.f a0_c0 a0_c1 a0_c2=some r):Pv.Fn Tryz.prog 34 [.ptr 0 0 0] [(0,some (.box 111 (Z5 ⟨a0_c0,a0_c1,a0_c2⟩)))] 1 (fun x o=>x=iV .i64 r.1∧o=[(0,some (.box 111 (Z5 ⟨a0_c0,r.2.1,r.2.2⟩)))]):=by
 unfold Z0s.f at H
 refine Fn.bodyK [0] Tryz.func34 rfl rfl (fun Γ hP hn => ?_)
 have hm:Tryz.prog.follows .mixedOrders=true:=by kernel_rfl
 replace hn:Γ.n=33:=hn
 refine sO hP hn hm [] [] [0] [] [0] ?_
 refine AWp.seq ?_
 refine AWp.seq ?_
 obtain⟨o3466,e3467,H⟩:=Z3 H
 refine AWp.mono (Q:=fun e s=>(match (generalizing:=false) o3466 with | x3419=>e = .normal∧s=⟨[(0,.ptr 0 0 0),(12,bV x3419)],[(0,some (.box 111 (Z5 ⟨a0_c0,a0_c1,a0_c2⟩)))],1⟩)) (AWp.cv ?_) ?_
 ·replace H:=e3467;clear e3467
  rcases Bool.eq_false_or_eq_true (a0_c2==(0:Int)) with c3416 | c3416
  ·replace H:=iT c3416 H
   obtain⟨t3417,e3418,H⟩:=Z3 H
   refine rG hP hn hm [(5,.b true),(7,.call [(0,0)] [(0,0)] [] [] 1 (iV .i64 (i64.wrap ((i64.wrap ((8:Int)*(a0_c0.length:Int)))-a0_c1))) [(0,some (.box 111 (Z5 ⟨a0_c0,a0_c1,a0_c2⟩)))])] [(12,bV (decide ((i64.wrap ((i64.wrap ((8:Int)*(a0_c0.length:Int)))-a0_c1))≥(8:Int))))] [0,12] [] [0] [_,_,_] ⟨c3416,Tryz.call73,Z1a.ok a0_c0 a0_c1 a0_c2 t3417 e3418,trivial⟩ ?_
   obtain rfl:=sj H
   exact lf [(0,0)] [] [] (by kernel_rfl) ⟨rfl,rfl⟩
  ·replace H:=iF c3416 H
   refine rG hP hn hm [(5,.b false)] [(12,bV false)] [0,12] [] [0] [_] ⟨c3416,trivial⟩ ?_
   obtain rfl:=sj H
   exact lf [(0,0)] [] [] (by kernel_rfl) ⟨rfl,rfl⟩
 ·obtain⟨x3419,rfl⟩:∃ z,z=o3466:=⟨_,rfl⟩
  rintro e s ⟨rfl,rfl⟩
  obtain⟨o3468,e3469,H⟩:=Z3 H
  refine AWp.mono (Q:=fun e s=>(match (generalizing:=false) o3468 with | x3425=>e = .normal∧s=⟨[(0,.ptr 0 0 0)],[(0,some (.box 111 (Z5 ⟨a0_c0,a0_c1,x3425⟩)))],1⟩)) (AWp.cv ?_) ?_
  ·replace H:=e3469;clear e3469
   refine AWp.cond x3419 (by kernel_rfl) (fun c3420 => ?_) (fun c3420 => ?_)
   ·replace H:=iT c3420 H
    obtain⟨t3423,e3424,H⟩:=Z3 H
    refine rG hP hn hm [(1,.call [(0,0)] [(0,0)] [] [] 1 (.tup []) [(0,some (.box 111 (Z5 ⟨a0_c0,a0_c1,t3423⟩)))])] [] [0] [(0,some (.box 111 (Z5 ⟨a0_c0,a0_c1,t3423⟩)))] [0] [_,_] ⟨Tryz.call65,Zw.ok a0_c0 a0_c1 a0_c2 6 t3423 e3424,trivial⟩ ?_
    obtain rfl:=sj H
    exact lf [(0,0)] [] [] (by kernel_rfl) ⟨rfl,rfl⟩
   ·replace H:=iF c3420 H
    refine AWp.skip ?_
    obtain rfl:=sj H
    exact lf [(0,0)] [] [] (by kernel_rfl) ⟨rfl,rfl⟩
  ·obtain⟨x3425,rfl⟩:∃ z,z=o3468:=⟨_,rfl⟩
   rintro e s ⟨rfl,rfl⟩
   refine AWp.seq ?_
   refine AWp.block ?_
   obtain⟨o3470,e3471,H⟩:=Z3 H
   refine AWp.loop (LWp.conv (inv:=[(0,0)]) (vk:=[]) (e0:=[]) (t:=⟨[(0,.ptr 0 0 0)],[(0,some (.box 111 (Z5 ⟨a0_c0,a0_c1,x3425⟩)))],1⟩) (by kernel_rfl) ?_)
   refine LWp.mono (Q:=fun e s=>(match (generalizing:=false) o3470 with | (x3464,x3465)=>e = .exit 0∧s=⟨[(0,.ptr 0 0 0)],[(0,some (.box 111 (Z5 ⟨a0_c0,x3464,x3465⟩)))],1⟩)) (LWp.cv (Zn (fun body hbody => ?_))) ?_
   ·refine                   Z0s.l0.partial_correctness a0_c0 (motive:=fun x3444 x3445 o3470=>LWp Γ body (fun e s=>∃ t,Cv Γ s t∧(match (generalizing:=false) o3470 with | (x3464,x3465)=>e = .exit 0∧t=⟨[(0,.ptr 0 0 0)],[(0,some (.box 111 (Z5           ⟨a0_c0,x3464,x3465⟩)))],1⟩)) ⟨[(0,.ptr 0 0 0)],[(0,some (.box 111 (Z5           ⟨a0_c0,x3444,x3445⟩)))],1⟩) ?_ _ _ _ e3471
    clear H e3471 o3470;intro self ih x3444 x3445 o3470 H
    subst hbody
    refine LWp.round ?_
    refine AWp.seq ?_
    refine AWp.seq ?_
    obtain⟨o3472,e3473,H⟩:=Z3 H
    refine AWp.mono (Q:=fun e s=>(match (generalizing:=false) o3472 with | x3452=>e = .normal∧s=⟨[(0,.ptr 0 0 0),(24,bV x3452)],[(0,some (.box 111 (Z5 ⟨a0_c0,x3444,x3445⟩)))],1⟩)) (AWp.cv ?_) ?_
    ·replace H:=e3473;clear e3473
     rcases Bool.eq_false_or_eq_true (x3445==(0:Int)) with c3449 | c3449
     ·replace H:=iT c3449 H
      obtain⟨t3450,e3451,H⟩:=Z3 H
      refine rG hP hn hm [(5,.b true),(7,.call [(0,0)] [(0,0)] [] [] 1 (iV .i64 (i64.wrap ((i64.wrap ((8:Int)*(a0_c0.length:Int)))-x3444))) [(0,some (.box 111 (Z5 ⟨a0_c0,x3444,x3445⟩)))])] [(21,.ptr 0 0 0),(22,iV .i64 (i64.wrap ((i64.wrap ((8:Int)*(a0_c0.length:Int)))-x3444))),(23,bV (decide ((i64.wrap ((i64.wrap ((8:Int)*(a0_c0.length:Int)))-x3444))>(0:Int)))),(24,bV (decide ((i64.wrap ((i64.wrap ((8:Int)*(a0_c0.length:Int)))-x3444))>(0:Int))))] [0,21,22,23,24] [] [0] [_,_,_] ⟨c3449,Tryz.call73,Z1a.ok a0_c0 x3444 x3445 t3450 e3451,trivial⟩ ?_
      obtain rfl:=sj H
      exact lf [(0,0)] [] [] (by kernel_rfl) ⟨rfl,rfl⟩
     ·replace H:=iF c3449 H
      refine rG hP hn hm [(5,.b false)] [(24,bV false)] [0,24] [] [0] [_] ⟨c3449,trivial⟩ ?_
      obtain rfl:=sj H
      exact lf [(0,0)] [] [] (by kernel_rfl) ⟨rfl,rfl⟩
    ·obtain⟨x3452,rfl⟩:∃ z,z=o3472:=⟨_,rfl⟩
     rintro e s ⟨rfl,rfl⟩
     refine AWp.cond x3452 (by kernel_rfl) (fun c3453 => ?_) (fun c3453 => ?_)
     ·replace H:=iT c3453 H
      refine AWp.skip ?_
      refine AWp.block ?_
      obtain⟨t3456,e3457,H⟩:=Z3 H
      refine sR hP hn hm [(1,.call [(0,0)] [(0,0)] [] [] 1 (bV t3456.1) [(0,some (.box 111 (Z5 ⟨a0_c0,t3456.2.1,t3456.2.2⟩)))])] [(26,bV t3456.1)] [0,26] [(0,some (.box 111 (Z5 ⟨a0_c0,t3456.2.1,t3456.2.2⟩)))] [0] [_,_] ⟨Tryz.call29,Z0h.ok a0_c0 x3444 x3445 t3456 e3457,trivial⟩ ?_
      obtain⟨o3474,e3475,H⟩:=Z3 H
      refine AWp.mono (Q:=fun e s=>(match (generalizing:=false) o3474 with | x3463=>e = .normal∧s=⟨[(0,.ptr 0 0 0)],[(0,some (.box 111 (Z5 ⟨a0_c0,t3456.2.1,x3463⟩)))],1⟩)) (AWp.cv ?_) ?_
      ·replace H:=e3475;clear e3475
       refine AWp.cond t3456.1 (by kernel_rfl) (fun c3458 => ?_) (fun c3458 => ?_)
       ·replace H:=iT c3458 H
        obtain⟨t3461,e3462,H⟩:=Z3 H
        refine rG hP hn hm [(1,.call [(0,0)] [(0,0)] [] [] 1 (.tup []) [(0,some (.box 111 (Z5 ⟨a0_c0,t3456.2.1,t3461⟩)))])] [] [0] [(0,some (.box 111 (Z5 ⟨a0_c0,t3456.2.1,t3461⟩)))] [0] [_,_] ⟨Tryz.call65,Zw.ok a0_c0 t3456.2.1 t3456.2.2 6 t3461 e3462,trivial⟩ ?_
        obtain rfl:=sj H
        exact lf [(0,0)] [] [] (by kernel_rfl) ⟨rfl,rfl⟩
       ·replace H:=iF c3458 H
        refine AWp.skip ?_
        obtain rfl:=sj H
        exact lf [(0,0)] [] [] (by kernel_rfl) ⟨rfl,rfl⟩
      ·obtain⟨x3463,rfl⟩:∃ z,z=o3474:=⟨_,rfl⟩
       rintro e s ⟨rfl,rfl⟩
       exact LWp.conv [(0,0)] [] [] (by kernel_rfl) (ih _ _ _ H)
     ·replace H:=iF c3453 H
      refine AWp.exit ?_
      obtain rfl:=sj H
      exact lf [(0,0)] [] [] (by kernel_rfl) ⟨rfl,rfl⟩
   ·obtain⟨x3464,x3465⟩:=o3470
    rintro e s ⟨rfl,rfl⟩
    refine sO hP hn hm [] [(2,iV .i64 x3465)] [2] [] [0] ?_
    refine AWp.conv (inv:=[(0,0)]) (vk:=[]) (e0:=[]) (t:=⟨[(2,iV .i64 x3465)],[(0,some (.box 111 (Z5 ⟨a0_c0,x3464,x3465⟩)))],1⟩) (by kernel_rfl) ?_
    refine AWp.ret ?_
    obtain rfl:=sj H
    exact rl (.inl rfl) rfl (by kernel_rfl) (by kernel_rfl)
def Z12.l0 (a0:List Int) (a1:List Int) (x3501:Int):Option (Bool ⊕ Unit):=if(decide (x3501<(a0.length:Int)))=true then((at? a0 x3501)>>=fun b3509=>(at? a1 x3501)>>=fun b3512=>if(b3509 != b3512)=true then(some (.inl false)) else(Z12.l0 a0 a1 (i64.wrap (x3501+(1:Int))))) else(some (.inr ()))
partial_fixpoint
def Z12.f (a0:List Int) (a1:List Int):Option (Bool):=if((a0.length:Int) != (a1.length:Int))=true then(some false) else((Z12.l0 a0 a1 0)>>=fun oo=>match oo with | .inl rr=>(some rr) | .inr _=>(some true))
theorem Z12.ok (a0:List Int) (a1:List Int) (r:Bool) (H:Z12.f a0 a1=some r):Pv.Fn Tryz.prog 35 [.im (.row (a0.map (Z1 .u8))),.im (.row (a1.map (Z1 .u8)))] [] 0 (fun x o=>x=bV r∧o=[]):=by
 unfold Z12.f at H
 refine Fn.bodyK [] Tryz.func35 rfl rfl (fun Γ hP hn => ?_)
 have hm:Tryz.prog.follows .mixedOrders=true:=by kernel_rfl
 replace hn:Γ.n=26:=hn
 refine sO hP hn hm [] [] [0,1] [] [] ?_
 refine AWp.seq ?_
 refine sR hP hn hm [(1,.any (iV .i64 (a0.length:Int))),(3,.any (iV .i64 (a1.length:Int)))] [(10,bV ((a0.length:Int) != (a1.length:Int)))] [0,1,10] [] [] [((a0.map (Z1 .u8)).length:Int)=(a0.length:Int),((a1.map (Z1 .u8)).length:Int)=(a1.length:Int)] ⟨by rw[Zi],by rw[Zi],trivial⟩ ?_
 refine AWp.cond ((a0.length:Int) != (a1.length:Int)) (by kernel_rfl) (fun c3486 => ?_) (fun c3486 => ?_)
 ·replace H:=iT c3486 H
  refine sO hP hn hm [] [(4,bV false)] [4] [] [] ?_
  refine AWp.conv (inv:=[]) (vk:=[]) (e0:=[]) (t:=⟨[(4,bV false)],[],0⟩) (by kernel_rfl) ?_
  refine AWp.ret ?_
  obtain rfl:=sj H
  exact rl (.inl rfl) rfl (by kernel_rfl) (by kernel_rfl)
 ·replace H:=iF c3486 H
  refine AWp.skip ?_
  refine AWp.seq ?_
  refine sR hP hn hm [(1,.any (iV .i64 (a0.length:Int)))] [(12,iV .i64 (a0.length:Int)),(13,iV .i64 0)] [0,1,12,13] [] [] [((a0.map (Z1 .u8)).length:Int)=(a0.length:Int)] ⟨by rw[Zi],trivial⟩ ?_
  refine AWp.block ?_
  obtain⟨o3516,e3517,H⟩:=Z3 H
  refine AWp.loop (LWp.conv (inv:=[]) (vk:=[]) (e0:=[]) (t:=⟨[(0,.im (.row (a0.map (Z1 .u8)))),(1,.im (.row (a1.map (Z1 .u8)))),(12,iV .i64 (a0.length:Int)),(13,iV .i64 0)],[],0⟩) (by kernel_rfl) ?_)
  refine LWp.mono (Q:=fun e s=>(match (generalizing:=false) o3516 with | .inl rr=>e = .ret∧s.floor=0∧Z1x Tryz.prog Tryz.f35 s=some (bV rr)∧([]:List (Nat×Option MObj))=[] | .inr _=>e = .exit 0∧s=⟨[],[],0⟩)) (LWp.cv (Zn (fun body hbody => ?_))) ?_
  ·refine                 Z12.l0.partial_correctness a0 a1 (motive:=fun x3501 o3516=>LWp Γ body (fun e s=>∃ t,Cv Γ s t∧(match (generalizing:=false) o3516 with | .inl rr=>e = .ret∧t.floor=0∧Z1x   Tryz.prog Tryz.f35 t=some (bV rr)∧([]:List (Nat×Option MObj))=[] | .inr _=>e = .exit 0∧t=⟨[],[],0⟩)) ⟨[(0,.im (.row (a0.map (Z1     .u8)))),(1,.im (.row (a1.map (Z1     .u8)))),(12,iV .i64 (a0.length:Int)),(13,iV .i64 x3501)],[],0⟩) ?_ _ _ e3517
   clear H e3517 o3516;intro self ih x3501 o3516 H
   subst hbody
   refine LWp.round ?_
   refine sO hP hn hm [] [(14,bV (decide (x3501<(a0.length:Int))))] [0,1,12,13,14] [] [] ?_
   refine AWp.seq ?_
   refine AWp.cond (decide (x3501<(a0.length:Int))) (by kernel_rfl) (fun c3502 => ?_) (fun c3502 => ?_)
   ·replace H:=iT c3502 H
    refine AWp.skip ?_
    refine AWp.seq ?_
    refine AWp.block ?_
    refine sO hP hn hm [] [(5,iV .i64 x3501)] [0,1,5,12,13] [] [] ?_
    obtain⟨b3509,p3510,q3511,H⟩:=Z03 H
    obtain⟨b3512,p3513,q3514,H⟩:=Z03 H
    refine sR hP hn hm [(2,.c ((Z1 .u8) b3509)),(6,.c ((Z1 .u8) b3512))] [(24,bV (b3509 != b3512))] [0,1,12,13,24] [] [] [_,_,_,_] ⟨p3510,Zf (Z1 .u8) q3511,p3513,Zf (Z1 .u8) q3514,trivial⟩ ?_
    refine AWp.cond (b3509 != b3512) (by kernel_rfl) (fun c3515 => ?_) (fun c3515 => ?_)
    ·replace H:=iT c3515 H
     refine sO hP hn hm [] [(4,bV false)] [4] [] [] ?_
     refine AWp.conv (inv:=[]) (vk:=[]) (e0:=[]) (t:=⟨[(4,bV false)],[],0⟩) (by kernel_rfl) ?_
     refine AWp.ret ?_
     obtain rfl:=sj H
     exact rl rfl rfl (by kernel_rfl) (by kernel_rfl)
    ·replace H:=iF c3515 H
     refine AWp.skip ?_
     refine rO hP hn hm [] [(13,iV .i64 (i64.wrap (x3501+(1:Int))))] [0,1,12,13] [] [] ?_
     exact LWp.conv [] [] [] (by kernel_rfl) (ih _ _ H)
   ·replace H:=iF c3502 H
    refine AWp.exit ?_
    obtain rfl:=sj H
    exact lf [] [] [] (by kernel_rfl) ⟨rfl,rfl⟩
  ·rcases o3516 with rr | _
   ·skip
    rintro e s ⟨rfl,hfl,hres⟩
    obtain rfl:=sj H
    exact Exists.intro _ (And.intro (fun _ _ h=>h) (And.intro (.inl rfl) (And.intro hfl hres)))
   ·skip
    rintro e s ⟨rfl,rfl⟩
    refine sO hP hn hm [] [(4,bV true)] [4] [] [] ?_
    refine AWp.conv (inv:=[]) (vk:=[]) (e0:=[]) (t:=⟨[(4,bV true)],[],0⟩) (by kernel_rfl) ?_
    refine AWp.ret ?_
    obtain rfl:=sj H
    exact rl (.inl rfl) rfl (by kernel_rfl) (by kernel_rfl)
def Z3i.f (a0:List Int):Option ((List Za)×Int):=(Z4k.f a0)>>=fun t2523=>(Z0h.f a0 0 0)>>=fun t2549=>((if t2549.1=true then(some 1) else(some 0)):Option (Int))>>=fun x2552=>(Z0f.f a0 t2549.2.1 t2549.2.2 4)>>=fun t2581=>(Zz.f a0 t2581.2.1 t2581.2.2)>>=fun t2661=>((if(decide (t2661.1<(-524288)))=true then(some true) else(some (decide (t2661.1>(262144:Int))))):Option (Bool))>>=fun x2665=>if x2665=true then(some ([],6)) else((Z1f.f a0 t2661.2.1 t2661.2.2 512)>>=fun t2819=>(Z1f.f a0 t2819.2.1 t2819.2.2 512)>>=fun t2823=>(Z0a.f a0 t2823.2.1 t2823.2.2 (⟨x2552,i64.wrap ((i64.wrap (t2581.1))+(-4)),t2661.1,0,0,0,[],[]⟩:Ze) (t2819.1) (t2823.1))>>=fun t3411=>(Z0s.f a0 t3411.2.1 t3411.2.2)>>=fun t3478=>if(t3478.1 != (0:Int))=true then(some ([],6)) else((Z0v.f t3411.1)>>=fun t3483=>((if(t3483.2 != (0:Int))=true then(some true) else((Z12.f t3483.1 a0)>>=fun t3521=>some (!t3521))):Option (Bool))>>=fun x3523=>if x3523=true then(some ([],6)) else(some (t3411.1,0))))
theorem Z3i.ok (a0:List Int) (r:(List Za)×Int) (H:Z3i.f a0=some r):Pv.Fn Tryz.prog 11 [.im (.row (a0.map (Z1 .u8)))] [] 0 (fun x o=>x = .tup [.own 0,iV .i64 r.2]∧o=[(0,some (.row 9 41 (r.1.map Z4)))]):=by
 unfold Z3i.f at H
 refine Fn.bodyK [0] Tryz.func11 rfl rfl (fun Γ hP hn => ?_)
 have hm:Tryz.prog.follows .mixedOrders=true:=by kernel_rfl
 replace hn:Γ.n=59:=hn
 refine sO hP hn hm [] [] [0] [] [] ?_
 obtain⟨t2523,e2524,H⟩:=Z3 H
 refine sR hP hn hm [(1,.call [] [(0,0)] [] [0] 0 (.ptr 0 0 0) [(0,some (.box 111 (Z5 ⟨a0,0,0⟩)))])] [(4,.ptr 0 0 0)] [0,4] [(0,some (.box 111 (Z5 ⟨a0,0,0⟩)))] [0] [_,_] ⟨Tryz.call28,Z4k.ok a0 t2523 e2524,trivial⟩ ?_
 refine sO hP hn hm [(1,.k 1)] [(5,.ptr 1 0 0)] [0,4,5] [(1,some (.box 39 [iV .i64 0,iV .i64 0,iV .i64 0,iV .u64 0,iV .u64 0,iV .i64 0,.none0,.none0]))] [0,1] ?_
 refine AWp.seq ?_
 obtain⟨t2549,e2550,H⟩:=Z3 H
 refine sR hP hn hm [(1,.call [(0,0)] [(0,0)] [] [] 1 (bV t2549.1) [(0,some (.box 111 (Z5 ⟨a0,t2549.2.1,t2549.2.2⟩)))])] [(16,bV t2549.1)] [0,4,5,16] [(0,some (.box 111 (Z5 ⟨a0,t2549.2.1,t2549.2.2⟩)))] [0,1] [_,_] ⟨Tryz.call29,Z0h.ok a0 0 0 t2549 e2550,trivial⟩ ?_
 obtain⟨o3525,e3526,H⟩:=Z3 H
 refine AWp.mono (Q:=fun e s=>(match (generalizing:=false) o3525 with | x2552=>e = .normal∧s=⟨[(0,.im (.row (a0.map (Z1 .u8)))),(4,.ptr 2 0 0),(5,.ptr 3 0 0)],[(2,some (.box 111 (Z5 ⟨a0,t2549.2.1,t2549.2.2⟩))),(3,some (.box 39 [iV .i64 x2552,iV .i64 0,iV .i64 0,iV .u64 0,iV .u64 0,iV .i64 0,.none0,.none0]))],0⟩)) (AWp.cv ?_) ?_
 ·replace H:=e3526;clear e3526
  refine AWp.cond t2549.1 (by kernel_rfl) (fun c2551 => ?_) (fun c2551 => ?_)
  ·replace H:=iT c2551 H
   refine rO hP hn hm [] [] [0,4,5] [(1,some (.box 39 [iV .i64 1,iV .i64 0,iV .i64 0,iV .u64 0,iV .u64 0,iV .i64 0,.none0,.none0]))] [0,1] ?_
   obtain rfl:=sj H
   exact lf [(0,2),(1,3)] [] [] (by kernel_rfl) ⟨rfl,rfl⟩
  ·replace H:=iF c2551 H
   refine AWp.skip ?_
   obtain rfl:=sj H
   exact lf [(0,2),(1,3)] [] [] (by kernel_rfl) ⟨rfl,rfl⟩
 ·obtain⟨x2552,rfl⟩:∃ z,z=o3525:=⟨_,rfl⟩
  rintro e s ⟨rfl,rfl⟩
  obtain⟨t2581,e2582,H⟩:=Z3 H
  refine sR hP hn hm [(1,.call [(2,0)] [(0,2)] [] [] 1 (iV .u64 t2581.1) [(0,some (.box 111 (Z5 ⟨a0,t2581.2.1,t2581.2.2⟩)))])] [] [0,4,5] [(2,some (.box 111 (Z5 ⟨a0,t2581.2.1,t2581.2.2⟩))),(3,some (.box 39 [iV .i64 x2552,iV .i64 (i64.wrap ((i64.wrap (t2581.1))+(-4))),iV .i64 0,iV .u64 0,iV .u64 0,iV .i64 0,.none0,.none0]))] [2,3] [_,_] ⟨Tryz.call30,Z0f.ok a0 t2549.2.1 t2549.2.2 4 t2581 e2582,trivial⟩ ?_
  obtain⟨t2661,e2662,H⟩:=Z3 H
  refine sR hP hn hm [(1,.call [(2,0)] [(0,2)] [] [] 1 (iV .i64 t2661.1) [(0,some (.box 111 (Z5 ⟨a0,t2661.2.1,t2661.2.2⟩)))])] [(6,iV .i64 t2661.1)] [0,4,5,6] [(2,some (.box 111 (Z5 ⟨a0,t2661.2.1,t2661.2.2⟩)))] [2,3] [_,_] ⟨Tryz.call31,Zz.ok a0 t2581.2.1 t2581.2.2 t2661 e2662,trivial⟩ ?_
  refine AWp.seq ?_
  refine AWp.seq ?_
  obtain⟨o3527,e3528,H⟩:=Z3 H
  refine AWp.mono (Q:=fun e s=>(match (generalizing:=false) o3527 with | x2665=>e = .normal∧s=⟨[(0,.im (.row (a0.map (Z1 .u8)))),(4,.ptr 4 0 0),(5,.ptr 5 0 0),(6,iV .i64 t2661.1),(30,bV x2665)],[(4,some (.box 111 (Z5 ⟨a0,t2661.2.1,t2661.2.2⟩))),(5,some (.box 39 [iV .i64 x2552,iV .i64 (i64.wrap ((i64.wrap (t2581.1))+(-4))),iV .i64 0,iV .u64 0,iV .u64 0,iV .i64 0,.none0,.none0]))],0⟩)) (AWp.cv ?_) ?_
  ·replace H:=e3528;clear e3528
   rcases Bool.eq_false_or_eq_true (decide (t2661.1<(-524288))) with c2664 | c2664
   ·replace H:=iT c2664 H
    refine rG hP hn hm [(2,.b true)] [(30,bV true)] [0,4,5,6,30] [] [2,3] [_] ⟨c2664,trivial⟩ ?_
    obtain rfl:=sj H
    exact lf [(2,4),(3,5)] [] [] (by kernel_rfl) ⟨rfl,rfl⟩
   ·replace H:=iF c2664 H
    refine rG hP hn hm [(2,.b false)] [(30,bV (decide (t2661.1>(262144:Int))))] [0,4,5,6,30] [] [2,3] [_] ⟨c2664,trivial⟩ ?_
    obtain rfl:=sj H
    exact lf [(2,4),(3,5)] [] [] (by kernel_rfl) ⟨rfl,rfl⟩
  ·obtain⟨x2665,rfl⟩:∃ z,z=o3527:=⟨_,rfl⟩
   rintro e s ⟨rfl,rfl⟩
   refine AWp.cond x2665 (by kernel_rfl) (fun c2666 => ?_) (fun c2666 => ?_)
   ·replace H:=iT c2666 H
    refine sO hP hn hm [] [(2,.none0),(3,iV .i64 6)] [2,3] [] [] ?_
    refine AWp.conv (inv:=[]) (vk:=[]) (e0:=[0]) (t:=⟨[(2,.own 0),(3,iV .i64 6)],[(0,some (.row 9 41 ([].map Z4)))],0⟩) (by kernel_rfl) ?_
    refine AWp.ret ?_
    obtain rfl:=sj H
    exact rl (.inl rfl) rfl (by kernel_rfl) (by kernel_rfl)
   ·replace H:=iF c2666 H
    refine AWp.skip ?_
    refine sO hP hn hm [] [] [0,4,5] [(5,some (.box 39 [iV .i64 x2552,iV .i64 (i64.wrap ((i64.wrap (t2581.1))+(-4))),iV .i64 t2661.1,iV .u64 0,iV .u64 0,iV .i64 0,.none0,.none0]))] [4,5] ?_
    obtain⟨t2819,e2820,H⟩:=Z3 H
    refine sR hP hn hm [(1,.call [(4,0)] [(0,4),(1,6)] [] [6] 1 (.agg [iV .i64 ((t2819.1).f0),.own 1]) [(0,some (.box 111 (Z5 ⟨a0,t2819.2.1,t2819.2.2⟩))),(1,some (.row 2 99 (((t2819.1).f1).map Z02)))]),(2,.k 7)] [(7,.ptr 7 0 0)] [0,4,5,7] [(4,some (.box 111 (Z5 ⟨a0,t2819.2.1,t2819.2.2⟩))),(6,some (.row 2 99 (((t2819.1).f1).map Z02))),(7,some (.box 53 [iV .i64 ((t2819.1).f0),.own 6]))] [4,5,6,7] [_,_] ⟨Tryz.call32,Z1f.ok a0 t2661.2.1 t2661.2.2 512 t2819 e2820,trivial⟩ ?_
    obtain⟨t2823,e2824,H⟩:=Z3 H
    refine sR hP hn hm [(1,.call [(4,0)] [(0,4),(1,8)] [] [8] 1 (.agg [iV .i64 ((t2823.1).f0),.own 1]) [(0,some (.box 111 (Z5 ⟨a0,t2823.2.1,t2823.2.2⟩))),(1,some (.row 2 99 (((t2823.1).f1).map Z02)))]),(2,.k 9)] [(8,.ptr 9 0 0)] [0,4,5,7,8] [(4,some (.box 111 (Z5 ⟨a0,t2823.2.1,t2823.2.2⟩))),(8,some (.row 2 99 (((t2823.1).f1).map Z02))),(9,some (.box 53 [iV .i64 ((t2823.1).f0),.own 8]))] [4,5,6,7,8,9] [_,_] ⟨Tryz.call32,Z1f.ok a0 t2819.2.1 t2819.2.2 512 t2823 e2824,trivial⟩ ?_
    refine AWp.seq ?_
    refine AWp.conv (inv:=[(5,5),(7,7),(4,4),(9,9)]) (vk:=[6,8]) (e0:=[]) (t:=⟨[(0,.im (.row (a0.map (Z1 .u8)))),(4,.ptr 4 0 0),(5,.ptr 5 0 0),(7,.ptr 7 0 0),(8,.ptr 9 0 0)],[(4,some (.box 111 (Z5 ⟨a0,t2823.2.1,t2823.2.2⟩))),(5,some (.box 39 [iV .i64 x2552,iV .i64 (i64.wrap ((i64.wrap (t2581.1))+(-4))),iV .i64 t2661.1,iV .u64 0,iV .u64 0,iV .i64 0,.none0,.none0])),(7,some (.box 53 (Zb (t2819.1)))),(9,some (.box 53 (Zb (t2823.1))))],0⟩) (by kernel_rfl) ?_
    obtain⟨t3411,e3412,H⟩:=Z3 H
    refine rG hP hn hm [(4,.call [(4,0)] [(0,4),(1,10)] [] [10] 1 (.own 1) [(0,some (.box 111 (Z5 ⟨a0,t3411.2.1,t3411.2.2⟩))),(1,some (.row 9 41 (t3411.1.map Z4)))])] [(9,.own 10)] [0,4,9] [(4,some (.box 111 (Z5 ⟨a0,t3411.2.1,t3411.2.2⟩))),(10,some (.row 9 41 (t3411.1.map Z4)))] [4,10] [_,_] ⟨Tryz.call33,Z0a.ok a0 t2823.2.1 t2823.2.2 (⟨x2552,i64.wrap ((i64.wrap (t2581.1))+(-4)),t2661.1,0,0,0,[],[]⟩:Ze) (t2819.1) (t2823.1) t3411 e3412,trivial⟩ ?_
    refine AWp.seq ?_
    obtain⟨t3478,e3479,H⟩:=Z3 H
    refine sR hP hn hm [(1,.call [(4,0)] [(0,4)] [] [] 1 (iV .i64 t3478.1) [(0,some (.box 111 (Z5 ⟨a0,t3478.2.1,t3478.2.2⟩)))])] [(44,bV (t3478.1 != (0:Int)))] [0,9,44] [] [10] [_,_] ⟨Tryz.call34,Z0s.ok a0 t3411.2.1 t3411.2.2 t3478 e3479,trivial⟩ ?_
    refine AWp.cond (t3478.1 != (0:Int)) (by kernel_rfl) (fun c3480 => ?_) (fun c3480 => ?_)
    ·replace H:=iT c3480 H
     refine sO hP hn hm [] [(2,.none0),(3,iV .i64 6)] [2,3] [] [] ?_
     refine AWp.conv (inv:=[]) (vk:=[]) (e0:=[0]) (t:=⟨[(2,.own 0),(3,iV .i64 6)],[(0,some (.row 9 41 ([].map Z4)))],0⟩) (by kernel_rfl) ?_
     refine AWp.ret ?_
     obtain rfl:=sj H
     exact rl (.inl rfl) rfl (by kernel_rfl) (by kernel_rfl)
    ·replace H:=iF c3480 H
     refine AWp.skip ?_
     obtain⟨t3483,e3484,H⟩:=Z3 H
     refine sR hP hn hm [(1,.more (Z3q [] [(0,11)] [10] [11] 0 (.tup [.own 0,iV .i64 t3483.2]) [(0,some (.row 1 5 (t3483.1.map (Z1 .u8))))]))] [(10,.own 11),(11,iV .i64 t3483.2)] [0,9,10,11] [(11,some (.row 1 5 (t3483.1.map (Z1 .u8))))] [10,11] [_,_,∀ c∈t3483.1.map (Z1 .u8),∀ x∈c,∃ v,x=Im.sc v] ⟨Tryz.call9,Z0v.ok t3411.1 t3483 e3484,by exact Z3s _ _ (fun _=>by simp),trivial⟩ ?_
     refine AWp.seq ?_
     refine AWp.seq ?_
     obtain⟨o3529,e3530,H⟩:=Z3 H
     refine AWp.mono (Q:=fun e s=>(match (generalizing:=false) o3529 with | x3523=>e = .normal∧s=⟨[(9,.own 12),(57,bV x3523)],[(12,some (.row 9 41 (t3411.1.map Z4)))],0⟩)) (AWp.cv ?_) ?_
     ·replace H:=e3530;clear e3530
      rcases Bool.eq_false_or_eq_true (t3483.2 != (0:Int)) with c3520 | c3520
      ·replace H:=iT c3520 H
       refine rG hP hn hm [(2,.b true)] [(57,bV true)] [9,57] [] [10] [_] ⟨c3520,trivial⟩ ?_
       obtain rfl:=sj H
       exact lf [(10,12)] [] [] (by kernel_rfl) ⟨rfl,rfl⟩
      ·replace H:=iF c3520 H
       obtain⟨t3521,e3522,H⟩:=Z3 H
       refine rG hP hn hm [(2,.b false),(5,.call [] [] [11] [] 0 (bV t3521) [])] [(57,bV (!t3521))] [9,57] [] [10] [_,_,_] ⟨c3520,Tryz.call35,Z12.ok t3483.1 a0 t3521 e3522,trivial⟩ ?_
       obtain rfl:=sj H
       exact lf [(10,12)] [] [] (by kernel_rfl) ⟨rfl,rfl⟩
     ·obtain⟨x3523,rfl⟩:∃ z,z=o3529:=⟨_,rfl⟩
      rintro e s ⟨rfl,rfl⟩
      refine AWp.cond x3523 (by kernel_rfl) (fun c3524 => ?_) (fun c3524 => ?_)
      ·replace H:=iT c3524 H
       refine sO hP hn hm [] [(2,.none0),(3,iV .i64 6)] [2,3] [] [] ?_
       refine AWp.conv (inv:=[]) (vk:=[]) (e0:=[0]) (t:=⟨[(2,.own 0),(3,iV .i64 6)],[(0,some (.row 9 41 ([].map Z4)))],0⟩) (by kernel_rfl) ?_
       refine AWp.ret ?_
       obtain rfl:=sj H
       exact rl (.inl rfl) rfl (by kernel_rfl) (by kernel_rfl)
      ·replace H:=iF c3524 H
       refine AWp.skip ?_
       refine sO hP hn hm [] [(2,.own 12),(3,iV .i64 0)] [2,3] [] [12] ?_
       refine AWp.conv (inv:=[(12,0)]) (vk:=[]) (e0:=[]) (t:=⟨[(2,.own 0),(3,iV .i64 0)],[(0,some (.row 9 41 (t3411.1.map Z4)))],0⟩) (by kernel_rfl) ?_
       refine AWp.ret ?_
       obtain rfl:=sj H
       exact rl (.inl rfl) rfl (by kernel_rfl) (by kernel_rfl)
def Z21.l0 (a0:List Z2) (a1:List Z2) (x3569:Int):Option (Bool ⊕ Unit):=if(decide (x3569<(a0.length:Int)))=true then((at? a0 x3569)>>=fun b3577=>(at? a1 x3569)>>=fun b3580=>if(!((b3577.f0==b3580.f0)&&((b3577.f1==b3580.f1)&&true)))=true then(some (.inl false)) else(Z21.l0 a0 a1 (i64.wrap (x3569+(1:Int))))) else(some (.inr ()))
partial_fixpoint
def Z21.f (a0:List Z2) (a1:List Z2):Option (Bool):=if((a0.length:Int) != (a1.length:Int))=true then(some false) else((Z21.l0 a0 a1 0)>>=fun oo=>match oo with | .inl rr=>(some rr) | .inr _=>(some true))
theorem Z21.ok (a0:List Z2) (a1:List Z2) (r:Bool) (H:Z21.f a0 a1=some r):Pv.Fn Tryz.prog 79 [.im (.row (a0.map Z0)),.im (.row (a1.map Z0))] [] 0 (fun x o=>x=bV r∧o=[]):=by
 unfold Z21.f at H
 refine Fn.bodyK [] Tryz.func79 rfl rfl (fun Γ hP hn => ?_)
 have hm:Tryz.prog.follows .mixedOrders=true:=by kernel_rfl
 replace hn:Γ.n=26:=hn
 refine sO hP hn hm [] [] [0,1] [] [] ?_
 refine AWp.seq ?_
 refine sR hP hn hm [(1,.any (iV .i64 (a0.length:Int))),(3,.any (iV .i64 (a1.length:Int)))] [(10,bV ((a0.length:Int) != (a1.length:Int)))] [0,1,10] [] [] [((a0.map Z0).length:Int)=(a0.length:Int),((a1.map Z0).length:Int)=(a1.length:Int)] ⟨by rw[Zi],by rw[Zi],trivial⟩ ?_
 refine AWp.cond ((a0.length:Int) != (a1.length:Int)) (by kernel_rfl) (fun c3554 => ?_) (fun c3554 => ?_)
 ·replace H:=iT c3554 H
  refine sO hP hn hm [] [(4,bV false)] [4] [] [] ?_
  refine AWp.conv (inv:=[]) (vk:=[]) (e0:=[]) (t:=⟨[(4,bV false)],[],0⟩) (by kernel_rfl) ?_
  refine AWp.ret ?_
  obtain rfl:=sj H
  exact rl (.inl rfl) rfl (by kernel_rfl) (by kernel_rfl)
 ·replace H:=iF c3554 H
  refine AWp.skip ?_
  refine AWp.seq ?_
  refine sO hP hn hm [] [(5,iV .i64 0)] [0,1,5] [] [] ?_
  refine AWp.block ?_
  obtain⟨o3584,e3585,H⟩:=Z3 H
  refine AWp.loop (LWp.conv (inv:=[]) (vk:=[]) (e0:=[]) (t:=⟨[(0,.im (.row (a0.map Z0))),(1,.im (.row (a1.map Z0))),(5,iV .i64 0)],[],0⟩) (by kernel_rfl) ?_)
  refine LWp.mono (Q:=fun e s=>(match (generalizing:=false) o3584 with | .inl rr=>e = .ret∧s.floor=0∧Z1x Tryz.prog Tryz.f79 s=some (bV rr)∧([]:List (Nat×Option MObj))=[] | .inr _=>e = .exit 0∧s=⟨[],[],0⟩)) (LWp.cv (Zn (fun body hbody => ?_))) ?_
  ·refine        Z21.l0.partial_correctness a0 a1 (motive:=fun x3569 o3584=>LWp Γ body (fun e s=>∃ t,Cv Γ s t∧(match (generalizing:=false) o3584 with | .inl rr=>e = .ret∧t.floor=0∧Z1x   Tryz.prog Tryz.f79 t=some (bV rr)∧([]:List (Nat×Option MObj))=[] | .inr _=>e = .exit 0∧t=⟨[],[],0⟩)) ⟨[(0,.im (.row (a0.map Z0     ))),(1,.im (.row (a1.map Z0     ))),(5,iV .i64 x3569)],[],0⟩) ?_ _ _ e3585
   clear H e3585 o3584;intro self ih x3569 o3584 H
   subst hbody
   refine LWp.round ?_
   refine AWp.seq ?_
   refine sR hP hn hm [(2,.any (iV .i64 (a0.length:Int)))] [(14,bV (decide (x3569<(a0.length:Int))))] [0,1,5,14] [] [] [((a0.map Z0).length:Int)=(a0.length:Int)] ⟨by rw[Zi],trivial⟩ ?_
   refine AWp.cond (decide (x3569<(a0.length:Int))) (by kernel_rfl) (fun c3570 => ?_) (fun c3570 => ?_)
   ·replace H:=iT c3570 H
    refine AWp.skip ?_
    refine AWp.seq ?_
    refine AWp.block ?_
    obtain⟨b3577,p3578,q3579,H⟩:=Z03 H
    obtain⟨b3580,p3581,q3582,H⟩:=Z03 H
    refine sR hP hn hm [(2,.c (Z0 b3577)),(6,.c (Z0 b3580)),(8,.more (xAgg none))] [(25,bV (!((b3577.f0==b3580.f0)&&((b3577.f1==b3580.f1)&&true))))] [0,1,5,25] [] [] [_,_,_,_] ⟨p3578,Zf Z0 q3579,p3581,Zf Z0 q3582,trivial⟩ ?_
    refine AWp.cond (!((b3577.f0==b3580.f0)&&((b3577.f1==b3580.f1)&&true))) (by kernel_rfl) (fun c3583 => ?_) (fun c3583 => ?_)
    ·replace H:=iT c3583 H
     refine sO hP hn hm [] [(4,bV false)] [4] [] [] ?_
     refine AWp.conv (inv:=[]) (vk:=[]) (e0:=[]) (t:=⟨[(4,bV false)],[],0⟩) (by kernel_rfl) ?_
     refine AWp.ret ?_
     obtain rfl:=sj H
     exact rl rfl rfl (by kernel_rfl) (by kernel_rfl)
    ·replace H:=iF c3583 H
     refine AWp.skip ?_
     refine rO hP hn hm [] [(5,iV .i64 (i64.wrap (x3569+(1:Int))))] [0,1,5] [] [] ?_
     exact LWp.conv [] [] [] (by kernel_rfl) (ih _ _ H)
   ·replace H:=iF c3570 H
    refine AWp.exit ?_
    obtain rfl:=sj H
    exact lf [] [] [] (by kernel_rfl) ⟨rfl,rfl⟩
  ·rcases o3584 with rr | _
   ·skip
    rintro e s ⟨rfl,hfl,hres⟩
    obtain rfl:=sj H
    exact Exists.intro _ (And.intro (fun _ _ h=>h) (And.intro (.inl rfl) (And.intro hfl hres)))
   ·skip
    rintro e s ⟨rfl,rfl⟩
    refine sO hP hn hm [] [(4,bV true)] [4] [] [] ?_
    refine AWp.conv (inv:=[]) (vk:=[]) (e0:=[]) (t:=⟨[(4,bV true)],[],0⟩) (by kernel_rfl) ?_
    refine AWp.ret ?_
    obtain rfl:=sj H
    exact rl (.inl rfl) rfl (by kernel_rfl) (by kernel_rfl)
def Z3w.f (a0:Ze) (a1:Ze):Option (Bool):=((if(a0.f0==a1.f0)=true then(if(a0.f1==a1.f1)=true then(if(a0.f2==a1.f2)=true then(if(a0.f3==a1.f3)=true then(if(a0.f4==a1.f4)=true then(if(a0.f5==a1.f5)=true then((Z21.f a0.f6 a1.f6)>>=fun t3597=>if t3597=true then((Z21.f a0.f7 a1.f7)>>=fun t3600=>some t3600) else(some false)) else(some false)) else(some false)) else(some false)) else(some false)) else(some false)) else(some false)):Option (Bool))>>=fun x3602=>some x3602
theorem Z3w.ok (a0:Ze) (a1:Ze) (r:Bool) (H:Z3w.f a0 a1=some r):Pv.Fn Tryz.prog 44 [.agg (Zh a0),.agg (Zh a1)] [] 0 (fun x o=>x=bV r∧o=[]):=by
 unfold Z3w.f at H
 refine Fn.bodyK [] Tryz.func44 rfl rfl (fun Γ hP hn => ?_)
 have hm:Tryz.prog.follows .mixedOrders=true:=by kernel_rfl
 replace hn:Γ.n=59:=hn
 refine sO hP hn hm [(0,.k 0),(1,.k 1)] [(2,.ptr 0 0 0),(3,.ptr 1 0 0)] [2,3] [(0,some (.box 39 (Zh a0))),(1,some (.box 39 (Zh a1)))] [0,1] ?_
 refine AWp.seq ?_
 obtain⟨o3603,e3604,H⟩:=Z3 H
 refine AWp.mono (Q:=fun e s=>(match (generalizing:=false) o3603 with | x3602=>e = .normal∧s=⟨[(4,bV x3602)],[],0⟩)) (AWp.cv ?_) ?_
 ·replace H:=e3604;clear e3604
  rcases Bool.eq_false_or_eq_true (a0.f0==a1.f0) with c3591 | c3591
  ·replace H:=iT c3591 H
   rcases Bool.eq_false_or_eq_true (a0.f1==a1.f1) with c3592 | c3592
   ·replace H:=iT c3592 H
    rcases Bool.eq_false_or_eq_true (a0.f2==a1.f2) with c3593 | c3593
    ·replace H:=iT c3593 H
     rcases Bool.eq_false_or_eq_true (a0.f3==a1.f3) with c3594 | c3594
     ·replace H:=iT c3594 H
      rcases Bool.eq_false_or_eq_true (a0.f4==a1.f4) with c3595 | c3595
      ·replace H:=iT c3595 H
       rcases Bool.eq_false_or_eq_true (a0.f5==a1.f5) with c3596 | c3596
       ·replace H:=iT c3596 H
        obtain⟨t3597,e3598,H⟩:=Z3 H
        rcases Bool.eq_false_or_eq_true t3597 with c3599 | c3599
        ·replace H:=iT c3599 H
         obtain⟨t3600,e3601,H⟩:=Z3 H
         refine rG hP hn hm [(5,.b true),(12,.b true),(19,.b true),(26,.b true),(33,.b true),(40,.b true),(45,.call [] [] [] [] 0 (bV t3597) []),(47,.b true),(52,.call [] [] [] [] 0 (bV t3600) [])] [(4,bV t3600)] [4] [] [] [_,_,_,_,_,_,_,_,_,_,_] ⟨c3591,c3592,c3593,c3594,c3595,c3596,Tryz.call79,Z21.ok a0.f6 a1.f6 t3597 e3598,c3599,Tryz.call79,Z21.ok a0.f7 a1.f7 t3600 e3601,trivial⟩ ?_
         obtain rfl:=sj H
         exact lf [] [] [] (by kernel_rfl) ⟨rfl,rfl⟩
        ·replace H:=iF c3599 H
         refine rG hP hn hm [(5,.b true),(12,.b true),(19,.b true),(26,.b true),(33,.b true),(40,.b true),(45,.call [] [] [] [] 0 (bV t3597) []),(47,.b false)] [(4,bV false)] [4] [] [] [_,_,_,_,_,_,_,_,_] ⟨c3591,c3592,c3593,c3594,c3595,c3596,Tryz.call79,Z21.ok a0.f6 a1.f6 t3597 e3598,c3599,trivial⟩ ?_
         obtain rfl:=sj H
         exact lf [] [] [] (by kernel_rfl) ⟨rfl,rfl⟩
       ·replace H:=iF c3596 H
        refine rG hP hn hm [(5,.b true),(12,.b true),(19,.b true),(26,.b true),(33,.b true),(40,.b false)] [(4,bV false)] [4] [] [] [_,_,_,_,_,_] ⟨c3591,c3592,c3593,c3594,c3595,c3596,trivial⟩ ?_
        obtain rfl:=sj H
        exact lf [] [] [] (by kernel_rfl) ⟨rfl,rfl⟩
      ·replace H:=iF c3595 H
       refine rG hP hn hm [(5,.b true),(12,.b true),(19,.b true),(26,.b true),(33,.b false)] [(4,bV false)] [4] [] [] [_,_,_,_,_] ⟨c3591,c3592,c3593,c3594,c3595,trivial⟩ ?_
       obtain rfl:=sj H
       exact lf [] [] [] (by kernel_rfl) ⟨rfl,rfl⟩
     ·replace H:=iF c3594 H
      refine rG hP hn hm [(5,.b true),(12,.b true),(19,.b true),(26,.b false)] [(4,bV false)] [4] [] [] [_,_,_,_] ⟨c3591,c3592,c3593,c3594,trivial⟩ ?_
      obtain rfl:=sj H
      exact lf [] [] [] (by kernel_rfl) ⟨rfl,rfl⟩
    ·replace H:=iF c3593 H
     refine rG hP hn hm [(5,.b true),(12,.b true),(19,.b false)] [(4,bV false)] [4] [] [] [_,_,_] ⟨c3591,c3592,c3593,trivial⟩ ?_
     obtain rfl:=sj H
     exact lf [] [] [] (by kernel_rfl) ⟨rfl,rfl⟩
   ·replace H:=iF c3592 H
    refine rG hP hn hm [(5,.b true),(12,.b false)] [(4,bV false)] [4] [] [] [_,_] ⟨c3591,c3592,trivial⟩ ?_
    obtain rfl:=sj H
    exact lf [] [] [] (by kernel_rfl) ⟨rfl,rfl⟩
  ·replace H:=iF c3591 H
   refine rG hP hn hm [(5,.b false)] [(4,bV false)] [4] [] [] [_] ⟨c3591,trivial⟩ ?_
   obtain rfl:=sj H
   exact lf [] [] [] (by kernel_rfl) ⟨rfl,rfl⟩
 ·obtain⟨x3602,rfl⟩:∃ z,z=o3603:=⟨_,rfl⟩
  rintro e s ⟨rfl,rfl⟩
  refine AWp.conv (inv:=[]) (vk:=[]) (e0:=[]) (t:=⟨[(4,bV x3602)],[],0⟩) (by kernel_rfl) ?_
  refine AWp.ret ?_
  obtain rfl:=sj H
  exact rl (.inl rfl) rfl (by kernel_rfl) (by kernel_rfl)
def Z23.l0 (a0:List Za) (a1:List Za) (x3618:Int):Option (Bool ⊕ Unit):=if(decide (x3618<(a0.length:Int)))=true then((((at? a0 x3618)>>=fun b3629=>(at? a1 x3618)>>=fun b3632=>if(b3629.f0 != b3632.f0)=true then(some true) else((Z3w.f b3629.f1 b3632.f1)>>=fun t3636=>some (!t3636))):Option (Bool))>>=fun x3638=>if x3638=true then(some (.inl false)) else(Z23.l0 a0 a1 (i64.wrap (x3618+(1:Int))))) else(some (.inr ()))
partial_fixpoint
def Z23.f (a0:List Za) (a1:List Za):Option (Bool):=if((a0.length:Int) != (a1.length:Int))=true then(some false) else((Z23.l0 a0 a1 0)>>=fun oo=>match oo with | .inl rr=>(some rr) | .inr _=>(some true))
theorem Z23.ok (a0:List Za) (a1:List Za) (r:Bool) (H:Z23.f a0 a1=some r):Pv.Fn Tryz.prog 13 [.im (.row (a0.map Z4)),.im (.row (a1.map Z4))] [] 0 (fun x o=>x=bV r∧o=[]):=by
 unfold Z23.f at H
 refine Fn.bodyK [] Tryz.func13 rfl rfl (fun Γ hP hn => ?_)
 have hm:Tryz.prog.follows .mixedOrders=true:=by kernel_rfl
 replace hn:Γ.n=42:=hn
 refine sO hP hn hm [] [] [0,1] [] [] ?_
 refine AWp.seq ?_
 refine sR hP hn hm [(1,.any (iV .i64 (a0.length:Int))),(3,.any (iV .i64 (a1.length:Int)))] [(10,bV ((a0.length:Int) != (a1.length:Int)))] [0,1,10] [] [] [((a0.map Z4).length:Int)=(a0.length:Int),((a1.map Z4).length:Int)=(a1.length:Int)] ⟨by rw[Zi],by rw[Zi],trivial⟩ ?_
 refine AWp.cond ((a0.length:Int) != (a1.length:Int)) (by kernel_rfl) (fun c3539 => ?_) (fun c3539 => ?_)
 ·replace H:=iT c3539 H
  refine sO hP hn hm [] [(4,bV false)] [4] [] [] ?_
  refine AWp.conv (inv:=[]) (vk:=[]) (e0:=[]) (t:=⟨[(4,bV false)],[],0⟩) (by kernel_rfl) ?_
  refine AWp.ret ?_
  obtain rfl:=sj H
  exact rl (.inl rfl) rfl (by kernel_rfl) (by kernel_rfl)
 ·replace H:=iF c3539 H
  refine AWp.skip ?_
  refine AWp.seq ?_
  refine sR hP hn hm [(1,.any (iV .i64 (a0.length:Int)))] [(12,iV .i64 (a0.length:Int)),(13,iV .i64 0)] [0,1,12,13] [] [] [((a0.map Z4).length:Int)=(a0.length:Int)] ⟨by rw[Zi],trivial⟩ ?_
  refine AWp.block ?_
  obtain⟨o3640,e3641,H⟩:=Z3 H
  refine AWp.loop (LWp.conv (inv:=[]) (vk:=[]) (e0:=[]) (t:=⟨[(0,.im (.row (a0.map Z4))),(1,.im (.row (a1.map Z4))),(12,iV .i64 (a0.length:Int)),(13,iV .i64 0)],[],0⟩) (by kernel_rfl) ?_)
  refine LWp.mono (Q:=fun e s=>(match (generalizing:=false) o3640 with | .inl rr=>e = .ret∧s.floor=0∧Z1x Tryz.prog Tryz.f13 s=some (bV rr)∧([]:List (Nat×Option MObj))=[] | .inr _=>e = .exit 0∧s=⟨[],[],0⟩)) (LWp.cv (Zn (fun body hbody => ?_))) ?_
  ·refine        Z23.l0.partial_correctness a0 a1 (motive:=fun x3618 o3640=>LWp Γ body (fun e s=>∃ t,Cv Γ s t∧(match (generalizing:=false) o3640 with | .inl rr=>e = .ret∧t.floor=0∧Z1x   Tryz.prog Tryz.f13 t=some (bV rr)∧([]:List (Nat×Option MObj))=[] | .inr _=>e = .exit 0∧t=⟨[],[],0⟩)) ⟨[(0,.im (.row (a0.map Z4     ))),(1,.im (.row (a1.map Z4     ))),(12,iV .i64 (a0.length:Int)),(13,iV .i64 x3618)],[],0⟩) ?_ _ _ e3641
   clear H e3641 o3640;intro self ih x3618 o3640 H
   subst hbody
   refine LWp.round ?_
   refine sO hP hn hm [] [(14,bV (decide (x3618<(a0.length:Int))))] [0,1,12,13,14] [] [] ?_
   refine AWp.seq ?_
   refine AWp.cond (decide (x3618<(a0.length:Int))) (by kernel_rfl) (fun c3619 => ?_) (fun c3619 => ?_)
   ·replace H:=iT c3619 H
    refine AWp.skip ?_
    refine AWp.seq ?_
    refine AWp.block ?_
    refine sO hP hn hm [] [(5,iV .i64 x3618)] [0,1,5,12,13] [] [] ?_
    refine AWp.seq ?_
    obtain⟨o3642,e3643,H⟩:=Z3 H
    refine AWp.mono (Q:=fun e s=>(match (generalizing:=false) o3642 with | x3638=>e = .normal∧s=⟨[(0,.im (.row (a0.map Z4))),(1,.im (.row (a1.map Z4))),(12,iV .i64 (a0.length:Int)),(13,iV .i64 x3618),(40,bV x3638)],[],0⟩)) (AWp.cv ?_) ?_
    ·replace H:=e3643;clear e3643
     obtain⟨b3629,p3630,q3631,H⟩:=Z03 H
     obtain⟨b3632,p3633,q3634,H⟩:=Z03 H
     rcases Bool.eq_false_or_eq_true (b3629.f0 != b3632.f0) with c3635 | c3635
     ·replace H:=iT c3635 H
      refine rG hP hn hm [(2,.c (Z4 b3629)),(7,.c (Z4 b3632)),(11,.b true)] [(40,bV true)] [0,1,12,13,40] [] [] [_,_,_,_,_] ⟨p3630,Zf Z4 q3631,p3633,Zf Z4 q3634,c3635,trivial⟩ ?_
      obtain rfl:=sj H
      exact lf [] [] [] (by kernel_rfl) ⟨rfl,rfl⟩
     ·replace H:=iF c3635 H
      obtain⟨t3636,e3637,H⟩:=Z3 H
      refine rG hP hn hm [(2,.c (Z4 b3629)),(7,.c (Z4 b3632)),(11,.b false),(14,.c (Z4 b3629)),(19,.c (Z4 b3632)),(22,.call [] [] [] [] 0 (bV t3636) [])] [(28,.im (.row (a0.map Z4))),(29,iV .i64 x3618),(30,.ip [iI .i64 b3629.f0,iI .i64 b3629.f1.f0,iI .i64 b3629.f1.f1,iI .i64 b3629.f1.f2,iI .u64 b3629.f1.f3,iI .u64 b3629.f1.f4,iI .i64 b3629.f1.f5,.row (b3629.f1.f6.map Z0),.row (b3629.f1.f7.map Z0)]),(31,.ip [iI .i64 b3629.f1.f0,iI .i64 b3629.f1.f1,iI .i64 b3629.f1.f2,iI .u64 b3629.f1.f3,iI .u64 b3629.f1.f4,iI .i64 b3629.f1.f5,.row (b3629.f1.f6.map Z0),.row (b3629.f1.f7.map Z0)]),(32,.agg (Zh b3629.f1)),(33,.im (.row (a1.map Z4))),(34,iV .i64 x3618),(35,.ip [iI .i64 b3632.f0,iI .i64 b3632.f1.f0,iI .i64 b3632.f1.f1,iI .i64 b3632.f1.f2,iI .u64 b3632.f1.f3,iI .u64 b3632.f1.f4,iI .i64 b3632.f1.f5,.row (b3632.f1.f6.map Z0),.row (b3632.f1.f7.map Z0)]),(36,.ip [iI .i64 b3632.f1.f0,iI .i64 b3632.f1.f1,iI .i64 b3632.f1.f2,iI .u64 b3632.f1.f3,iI .u64 b3632.f1.f4,iI .i64 b3632.f1.f5,.row (b3632.f1.f6.map Z0),.row (b3632.f1.f7.map Z0)]),(37,.agg (Zh b3632.f1)),(38,bV t3636),(39,bV (!t3636)),(40,bV (!t3636))] [0,1,12,13,28,29,30,31,32,33,34,35,36,37,38,39,40] [] [] [_,_,_,_,_,_,_,_,_,_,_] ⟨p3630,Zf Z4 q3631,p3633,Zf Z4 q3634,c3635,p3630,Zf Z4 q3631,p3633,Zf Z4 q3634,Tryz.call44,Z3w.ok b3629.f1 b3632.f1 t3636 e3637,trivial⟩ ?_
      obtain rfl:=sj H
      exact lf [] [] [] (by kernel_rfl) ⟨rfl,rfl⟩
    ·obtain⟨x3638,rfl⟩:∃ z,z=o3642:=⟨_,rfl⟩
     rintro e s ⟨rfl,rfl⟩
     refine AWp.cond x3638 (by kernel_rfl) (fun c3639 => ?_) (fun c3639 => ?_)
     ·replace H:=iT c3639 H
      refine sO hP hn hm [] [(4,bV false)] [4] [] [] ?_
      refine AWp.conv (inv:=[]) (vk:=[]) (e0:=[]) (t:=⟨[(4,bV false)],[],0⟩) (by kernel_rfl) ?_
      refine AWp.ret ?_
      obtain rfl:=sj H
      exact rl rfl rfl (by kernel_rfl) (by kernel_rfl)
     ·replace H:=iF c3639 H
      refine AWp.skip ?_
      refine rO hP hn hm [] [(13,iV .i64 (i64.wrap (x3618+(1:Int))))] [0,1,12,13] [] [] ?_
      exact LWp.conv [] [] [] (by kernel_rfl) (ih _ _ H)
   ·replace H:=iF c3619 H
    refine AWp.exit ?_
    obtain rfl:=sj H
    exact lf [] [] [] (by kernel_rfl) ⟨rfl,rfl⟩
  ·rcases o3640 with rr | _
   ·skip
    rintro e s ⟨rfl,hfl,hres⟩
    obtain rfl:=sj H
    exact Exists.intro _ (And.intro (fun _ _ h=>h) (And.intro (.inl rfl) (And.intro hfl hres)))
   ·skip
    rintro e s ⟨rfl,rfl⟩
    refine sO hP hn hm [] [(4,bV true)] [4] [] [] ?_
    refine AWp.conv (inv:=[]) (vk:=[]) (e0:=[]) (t:=⟨[(4,bV true)],[],0⟩) (by kernel_rfl) ?_
    refine AWp.ret ?_
    obtain rfl:=sj H
    exact rl (.inl rfl) rfl (by kernel_rfl) (by kernel_rfl)
def Z2m.f  : Option (Bool):=(Z45.f 0 0)>>=fun t27=>(Z0v.f [(⟨0,(t27)⟩:Za)])>>=fun t2519=>(Z3i.f t2519.1)>>=fun t3535=>((if(t2519.2==(0:Int))=true then(if(t3535.2==(0:Int))=true then((Z23.f [(⟨0,(t27)⟩:Za)] t3535.1)>>=fun t3648=>some t3648) else(some false)) else(some false)):Option (Bool))>>=fun x3650=>some x3650
theorem Z2m.ok  (r:Bool) (H:Z2m.f  = some r):Pv.Fn Tryz.prog 7 [] [] 0 (fun x o=>x=bV r∧o=[]):=by
 unfold Z2m.f at H
 refine Fn.bodyK [] Tryz.func7 rfl rfl (fun Γ hP hn => ?_)
 have hm:Tryz.prog.follows .mixedOrders=true:=by kernel_rfl
 replace hn:Γ.n=30:=hn
 refine sO hP hn hm [] [] [] [] [] ?_
 obtain⟨t27,e28,H⟩:=Z3 H
 refine sR hP hn hm [(0,.call [] [] [] [] 0 (.agg (Zh (t27))) []),(2,.app 0 ([(⟨0,(t27)⟩:Za)].map Z4))] [(1,.own 0)] [1] [(0,some (.row 9 41 ([(⟨0,(t27)⟩:Za)].map Z4)))] [0] [_,_,[(⟨0,(t27)⟩:Za)].map Z4=[[iI .i64 0,iI .i64 ((t27).f0),iI .i64 ((t27).f1),iI .i64 ((t27).f2),iI .u64 ((t27).f3),iI .u64 ((t27).f4),iI .i64 ((t27).f5),.row (((t27).f6).map Z0),.row (((t27).f7).map Z0)]]] ⟨Tryz.call18,Z45.ok 0 0 t27 e28,by exact rfl,trivial⟩ ?_
 obtain⟨t2519,e2520,H⟩:=Z3 H
 refine sR hP hn hm [(1,.more (Z3q [] [(0,1)] [0] [1] 0 (.tup [.own 0,iV .i64 t2519.2]) [(0,some (.row 1 5 (t2519.1.map (Z1 .u8))))]))] [(2,.own 1),(3,iV .i64 t2519.2)] [1,2,3] [(1,some (.row 1 5 (t2519.1.map (Z1 .u8))))] [0,1] [_,_,∀ c∈t2519.1.map (Z1 .u8),∀ x∈c,∃ v,x=Im.sc v] ⟨Tryz.call9,Z0v.ok [(⟨0,(t27)⟩:Za)] t2519 e2520,by exact Z3s _ _ (fun _=>by simp),trivial⟩ ?_
 refine AWp.seq ?_
 refine AWp.conv (inv:=[(0,0)]) (vk:=[1]) (e0:=[]) (t:=⟨[(1,.own 0),(2,.im (.row (t2519.1.map (Z1 .u8)))),(3,iV .i64 t2519.2)],[(0,some (.row 9 41 ([(⟨0,(t27)⟩:Za)].map Z4)))],0⟩) (by kernel_rfl) ?_
 obtain⟨t3535,e3536,H⟩:=Z3 H
 refine rG hP hn hm [(1,.call [] [(0,2)] [] [2] 0 (.tup [.own 0,iV .i64 t3535.2]) [(0,some (.row 9 41 (t3535.1.map Z4)))])] [(4,.own 2),(5,iV .i64 t3535.2)] [1,3,4,5] [(2,some (.row 9 41 (t3535.1.map Z4)))] [0,2] [_,_] ⟨Tryz.call11,Z3i.ok t2519.1 t3535 e3536,trivial⟩ ?_
 refine AWp.seq ?_
 obtain⟨o3651,e3652,H⟩:=Z3 H
 refine AWp.mono (Q:=fun e s=>(match (generalizing:=false) o3651 with | x3650=>e = .normal∧s=⟨[(0,bV x3650)],[],0⟩)) (AWp.cv ?_) ?_
 ·replace H:=e3652;clear e3652
  rcases Bool.eq_false_or_eq_true (t2519.2==(0:Int)) with c3646 | c3646
  ·replace H:=iT c3646 H
   rcases Bool.eq_false_or_eq_true (t3535.2==(0:Int)) with c3647 | c3647
   ·replace H:=iT c3647 H
    obtain⟨t3648,e3649,H⟩:=Z3 H
    refine rG hP hn hm [(2,.b true),(6,.b true),(9,.call [] [] [0,2] [] 0 (bV t3648) [])] [(0,bV t3648)] [0] [] [] [_,_,_,_] ⟨c3646,c3647,Tryz.call13,Z23.ok [(⟨0,(t27)⟩:Za)] t3535.1 t3648 e3649,trivial⟩ ?_
    obtain rfl:=sj H
    exact lf [] [] [] (by kernel_rfl) ⟨rfl,rfl⟩
   ·replace H:=iF c3647 H
    refine rG hP hn hm [(2,.b true),(6,.b false)] [(0,bV false)] [0] [] [] [_,_] ⟨c3646,c3647,trivial⟩ ?_
    obtain rfl:=sj H
    exact lf [] [] [] (by kernel_rfl) ⟨rfl,rfl⟩
  ·replace H:=iF c3646 H
   refine rG hP hn hm [(2,.b false)] [(0,bV false)] [0] [] [] [_] ⟨c3646,trivial⟩ ?_
   obtain rfl:=sj H
   exact lf [] [] [] (by kernel_rfl) ⟨rfl,rfl⟩
 ·obtain⟨x3650,rfl⟩:∃ z,z=o3651:=⟨_,rfl⟩
  rintro e s ⟨rfl,rfl⟩
  refine AWp.conv (inv:=[]) (vk:=[]) (e0:=[]) (t:=⟨[(0,bV x3650)],[],0⟩) (by kernel_rfl) ?_
  refine AWp.ret ?_
  obtain rfl:=sj H
  exact rl (.inl rfl) rfl (by kernel_rfl) (by kernel_rfl)
def Z06.f (a0:Int):Option (Bool):=((if(decide (a0≥(-4)))=true then(some (decide (a0≤(8:Int)))) else(some false)):Option (Bool))>>=fun x3670=>some x3670
theorem Z06.ok (a0:Int) (r:Bool) (H:Z06.f a0=some r):Pv.Fn Tryz.prog 45 [iV .i64 a0] [] 0 (fun x o=>x=bV r∧o=[]):=by
 unfold Z06.f at H
 refine Fn.bodyK [] Tryz.func45 rfl rfl (fun Γ hP hn => ?_)
 have hm:Tryz.prog.follows .mixedOrders=true:=by kernel_rfl
 replace hn:Γ.n=9:=hn
 refine sO hP hn hm [] [] [0] [] [] ?_
 refine AWp.seq ?_
 obtain⟨o3671,e3672,H⟩:=Z3 H
 refine AWp.mono (Q:=fun e s=>(match (generalizing:=false) o3671 with | x3670=>e = .normal∧s=⟨[(2,bV x3670)],[],0⟩)) (AWp.cv ?_) ?_
 ·replace H:=e3672;clear e3672
  rcases Bool.eq_false_or_eq_true (decide (a0≥(-4))) with c3669 | c3669
  ·replace H:=iT c3669 H
   refine rG hP hn hm [(2,.b true)] [(2,bV (decide (a0≤(8:Int))))] [2] [] [] [_] ⟨c3669,trivial⟩ ?_
   obtain rfl:=sj H
   exact lf [] [] [] (by kernel_rfl) ⟨rfl,rfl⟩
  ·replace H:=iF c3669 H
   refine rG hP hn hm [(2,.b false)] [(2,bV false)] [2] [] [] [_] ⟨c3669,trivial⟩ ?_
   obtain rfl:=sj H
   exact lf [] [] [] (by kernel_rfl) ⟨rfl,rfl⟩
 ·obtain⟨x3670,rfl⟩:∃ z,z=o3671:=⟨_,rfl⟩
  rintro e s ⟨rfl,rfl⟩
  refine AWp.conv (inv:=[]) (vk:=[]) (e0:=[]) (t:=⟨[(2,bV x3670)],[],0⟩) (by kernel_rfl) ?_
  refine AWp.ret ?_
  obtain rfl:=sj H
  exact rl (.inl rfl) rfl (by kernel_rfl) (by kernel_rfl)
def Z22.l0 (x3700:Int) (x3701:Int):Option (Int):=if(decide (x3701<(8:Int)))=true then(Z22.l0  (i64.wrap (x3700*(2:Int))) (i64.wrap (x3701+(1:Int)))) else(some x3700)
partial_fixpoint
def Z22.f (a0:Int):Option (Int):=(Z22.l0  1 a0)>>=fun x3703=>some x3703
theorem Z22.ok (a0:Int) (r:Int) (H:Z22.f a0=some r):Pv.Fn Tryz.prog 80 [iV .i64 a0] [] 0 (fun x o=>x=iV .i64 r∧o=[]):=by
 unfold Z22.f at H
 refine Fn.bodyK [] Tryz.func80 rfl rfl (fun Γ hP hn => ?_)
 have hm:Tryz.prog.follows .mixedOrders=true:=by kernel_rfl
 replace hn:Γ.n=13:=hn
 refine sO hP hn hm [] [] [0] [] [] ?_
 refine sO hP hn hm [] [(3,iV .i64 1)] [0,3] [] [] ?_
 refine AWp.seq ?_
 refine sO hP hn hm [] [(4,iV .i64 a0)] [3,4] [] [] ?_
 refine AWp.block ?_
 obtain⟨o3704,e3705,H⟩:=Z3 H
 refine AWp.loop (LWp.conv (inv:=[]) (vk:=[]) (e0:=[]) (t:=⟨[(3,iV .i64 1),(4,iV .i64 a0)],[],0⟩) (by kernel_rfl) ?_)
 refine LWp.mono (Q:=fun e s=>(match (generalizing:=false) o3704 with | x3703=>e = .exit 0∧s=⟨[(3,iV .i64 x3703)],[],0⟩)) (LWp.cv (Zn (fun body hbody => ?_))) ?_
 ·refine        Z22.l0.partial_correctness  (motive:=fun x3700 x3701 o3704=>LWp Γ body (fun e s=>∃ t,Cv Γ s t∧(match (generalizing:=false) o3704 with | x3703=>e = .exit 0∧t=⟨[(3,iV .i64 x3703)],[],0⟩)) ⟨[(3,iV .i64 x3700),(4,iV .i64 x3701)],[],0⟩) ?_ _ _ _ e3705
  clear H e3705 o3704;intro self ih x3700 x3701 o3704 H
  subst hbody
  refine LWp.round ?_
  refine AWp.seq ?_
  refine sO hP hn hm [] [(7,bV (decide (x3701<(8:Int))))] [3,4,7] [] [] ?_
  refine AWp.cond (decide (x3701<(8:Int))) (by kernel_rfl) (fun c3702 => ?_) (fun c3702 => ?_)
  ·replace H:=iT c3702 H
   refine AWp.skip ?_
   refine AWp.seq ?_
   refine AWp.block ?_
   refine rO hP hn hm [] [(3,iV .i64 (i64.wrap (x3700*(2:Int))))] [3,4] [] [] ?_
   refine rO hP hn hm [] [(4,iV .i64 (i64.wrap (x3701+(1:Int))))] [3,4] [] [] ?_
   exact LWp.conv [] [] [] (by kernel_rfl) (ih _ _ _ H)
  ·replace H:=iF c3702 H
   refine AWp.exit ?_
   obtain rfl:=sj H
   exact lf [] [] [] (by kernel_rfl) ⟨rfl,rfl⟩
 ·obtain⟨x3703,rfl⟩:∃ z,z=o3704:=⟨_,rfl⟩
  rintro e s ⟨rfl,rfl⟩
  refine sO hP hn hm [] [(2,iV .i64 x3703)] [2] [] [] ?_
  refine AWp.conv (inv:=[]) (vk:=[]) (e0:=[]) (t:=⟨[(2,iV .i64 x3703)],[],0⟩) (by kernel_rfl) ?_
  refine AWp.ret ?_
  obtain rfl:=sj H
  exact rl (.inl rfl) rfl (by kernel_rfl) (by kernel_rfl)
def Z00.f (a0:Int) (a1:Int):Option (Int):=(Z06.f a0)>>=fun t3696=>if(!t3696)=true then(some 0) else((Z22.f a0)>>=fun t3708=>some (i64.wrap (a1*t3708)))
theorem Z00.ok (a0:Int) (a1:Int) (r:Int) (H:Z00.f a0 a1=some r):Pv.Fn Tryz.prog 47 [iV .i64 a0,iV .i64 a1] [] 0 (fun x o=>x=iV .i64 r∧o=[]):=by
 unfold Z00.f at H
 refine Fn.bodyK [] Tryz.func47 rfl rfl (fun Γ hP hn => ?_)
 have hm:Tryz.prog.follows .mixedOrders=true:=by kernel_rfl
 replace hn:Γ.n=12:=hn
 refine sO hP hn hm [] [] [0,1] [] [] ?_
 refine AWp.seq ?_
 obtain⟨t3696,e3697,H⟩:=Z3 H
 refine sR hP hn hm [(1,.call [] [] [] [] 0 (bV t3696) [])] [(7,bV (!t3696))] [0,1,7] [] [] [_,_] ⟨Tryz.call45,Z06.ok a0 t3696 e3697,trivial⟩ ?_
 refine AWp.cond (!t3696) (by kernel_rfl) (fun c3698 => ?_) (fun c3698 => ?_)
 ·replace H:=iT c3698 H
  refine sO hP hn hm [] [(4,iV .i64 0)] [4] [] [] ?_
  refine AWp.conv (inv:=[]) (vk:=[]) (e0:=[]) (t:=⟨[(4,iV .i64 0)],[],0⟩) (by kernel_rfl) ?_
  refine AWp.ret ?_
  obtain rfl:=sj H
  exact rl (.inl rfl) rfl (by kernel_rfl) (by kernel_rfl)
 ·replace H:=iF c3698 H
  refine AWp.skip ?_
  obtain⟨t3708,e3709,H⟩:=Z3 H
  refine sR hP hn hm [(2,.call [] [] [] [] 0 (iV .i64 t3708) [])] [(4,iV .i64 (i64.wrap (a1*t3708)))] [4] [] [] [_,_] ⟨Tryz.call80,Z22.ok a0 t3708 e3709,trivial⟩ ?_
  refine AWp.conv (inv:=[]) (vk:=[]) (e0:=[]) (t:=⟨[(4,iV .i64 (i64.wrap (a1*t3708)))],[],0⟩) (by kernel_rfl) ?_
  refine AWp.ret ?_
  obtain rfl:=sj H
  exact rl (.inl rfl) rfl (by kernel_rfl) (by kernel_rfl)
def Z4b.f (a0:Int) (a1:Int):Option (Bool):=(((Z06.f a0)>>=fun t3715=>if t3715=true then(if(decide (a1>(-262144)))=true then(if(decide (a1≤(262144:Int)))=true then((Z00.f a0 a1)>>=fun t3720=>if(decide (t3720>(-262144)))=true then((Z00.f a0 a1)>>=fun t3723=>some (decide (t3723≤(262144:Int)))) else(some false)) else(some false)) else(some false)) else(some false)):Option (Bool))>>=fun x3725=>some x3725
theorem Z4b.ok (a0:Int) (a1:Int) (r:Bool) (H:Z4b.f a0 a1=some r):Pv.Fn Tryz.prog 46 [iV .i64 a0,iV .i64 a1] [] 0 (fun x o=>x=bV r∧o=[]):=by
 unfold Z4b.f at H
 refine Fn.bodyK [] Tryz.func46 rfl rfl (fun Γ hP hn => ?_)
 have hm:Tryz.prog.follows .mixedOrders=true:=by kernel_rfl
 replace hn:Γ.n=27:=hn
 refine sO hP hn hm [] [] [0,1] [] [] ?_
 refine AWp.seq ?_
 obtain⟨o3726,e3727,H⟩:=Z3 H
 refine AWp.mono (Q:=fun e s=>(match (generalizing:=false) o3726 with | x3725=>e = .normal∧s=⟨[(4,bV x3725)],[],0⟩)) (AWp.cv ?_) ?_
 ·replace H:=e3727;clear e3727
  obtain⟨t3715,e3716,H⟩:=Z3 H
  rcases Bool.eq_false_or_eq_true t3715 with c3717 | c3717
  ·replace H:=iT c3717 H
   rcases Bool.eq_false_or_eq_true (decide (a1>(-262144))) with c3718 | c3718
   ·replace H:=iT c3718 H
    rcases Bool.eq_false_or_eq_true (decide (a1≤(262144:Int))) with c3719 | c3719
    ·replace H:=iT c3719 H
     obtain⟨t3720,e3721,H⟩:=Z3 H
     rcases Bool.eq_false_or_eq_true (decide (t3720>(-262144))) with c3722 | c3722
     ·replace H:=iT c3722 H
      obtain⟨t3723,e3724,H⟩:=Z3 H
      refine rG hP hn hm [(1,.call [] [] [] [] 0 (bV t3715) []),(2,.b true),(6,.b true),(10,.b true),(13,.call [] [] [] [] 0 (iV .i64 t3720) []),(16,.b true),(19,.call [] [] [] [] 0 (iV .i64 t3723) [])] [(4,bV (decide (t3723≤(262144:Int))))] [4] [] [] [_,_,_,_,_,_,_,_,_,_] ⟨Tryz.call45,Z06.ok a0 t3715 e3716,c3717,c3718,c3719,Tryz.call47,Z00.ok a0 a1 t3720 e3721,c3722,Tryz.call47,Z00.ok a0 a1 t3723 e3724,trivial⟩ ?_
      obtain rfl:=sj H
      exact lf [] [] [] (by kernel_rfl) ⟨rfl,rfl⟩
     ·replace H:=iF c3722 H
      refine rG hP hn hm [(1,.call [] [] [] [] 0 (bV t3715) []),(2,.b true),(6,.b true),(10,.b true),(13,.call [] [] [] [] 0 (iV .i64 t3720) []),(16,.b false)] [(4,bV false)] [4] [] [] [_,_,_,_,_,_,_,_] ⟨Tryz.call45,Z06.ok a0 t3715 e3716,c3717,c3718,c3719,Tryz.call47,Z00.ok a0 a1 t3720 e3721,c3722,trivial⟩ ?_
      obtain rfl:=sj H
      exact lf [] [] [] (by kernel_rfl) ⟨rfl,rfl⟩
    ·replace H:=iF c3719 H
     refine rG hP hn hm [(1,.call [] [] [] [] 0 (bV t3715) []),(2,.b true),(6,.b true),(10,.b false)] [(4,bV false)] [4] [] [] [_,_,_,_,_] ⟨Tryz.call45,Z06.ok a0 t3715 e3716,c3717,c3718,c3719,trivial⟩ ?_
     obtain rfl:=sj H
     exact lf [] [] [] (by kernel_rfl) ⟨rfl,rfl⟩
   ·replace H:=iF c3718 H
    refine rG hP hn hm [(1,.call [] [] [] [] 0 (bV t3715) []),(2,.b true),(6,.b false)] [(4,bV false)] [4] [] [] [_,_,_,_] ⟨Tryz.call45,Z06.ok a0 t3715 e3716,c3717,c3718,trivial⟩ ?_
    obtain rfl:=sj H
    exact lf [] [] [] (by kernel_rfl) ⟨rfl,rfl⟩
  ·replace H:=iF c3717 H
   refine rG hP hn hm [(1,.call [] [] [] [] 0 (bV t3715) []),(2,.b false)] [(4,bV false)] [4] [] [] [_,_,_] ⟨Tryz.call45,Z06.ok a0 t3715 e3716,c3717,trivial⟩ ?_
   obtain rfl:=sj H
   exact lf [] [] [] (by kernel_rfl) ⟨rfl,rfl⟩
 ·obtain⟨x3725,rfl⟩:∃ z,z=o3726:=⟨_,rfl⟩
  rintro e s ⟨rfl,rfl⟩
  refine AWp.conv (inv:=[]) (vk:=[]) (e0:=[]) (t:=⟨[(4,bV x3725)],[],0⟩) (by kernel_rfl) ?_
  refine AWp.ret ?_
  obtain rfl:=sj H
  exact rl (.inl rfl) rfl (by kernel_rfl) (by kernel_rfl)
def Z2f.l0 (a0:List Int) (x3845:Int) (x3846:Int):Option ((Int×Int) ⊕ Int):=if(decide (x3846<(a0.length:Int)))=true then((at? a0 x3846)>>=fun b3851=>if(decide (b3851>(u64.wrap ((18446744073709551615:Int)-x3845))))=true then(some (.inl (0,5))) else(Z2f.l0 a0 (u64.wrap (x3845+b3851)) (i64.wrap (x3846+(1:Int))))) else(some (.inr x3845))
partial_fixpoint
def Z2f.f (a0:List Int):Option (Int×Int):=(Z2f.l0 a0 0 0)>>=fun oo=>match oo with | .inl rr=>(some rr) | .inr x3855=>(some (x3855,0))
theorem Z2f.ok (a0:List Int) (r:Int×Int) (H:Z2f.f a0=some r):Pv.Fn Tryz.prog 48 [.im (.row (a0.map (Z1 .u64)))] [] 0 (fun x o=>x = .tup [iV .u64 r.1,iV .i64 r.2]∧o=[]):=by
 unfold Z2f.f at H
 refine Fn.bodyK [] Tryz.func48 rfl rfl (fun Γ hP hn => ?_)
 have hm:Tryz.prog.follows .mixedOrders=true:=by kernel_rfl
 replace hn:Γ.n=26:=hn
 refine sO hP hn hm [] [] [0] [] [] ?_
 refine sO hP hn hm [] [(4,iV .u64 0)] [0,4] [] [] ?_
 refine AWp.seq ?_
 refine sO hP hn hm [] [(5,iV .i64 0)] [0,4,5] [] [] ?_
 refine AWp.block ?_
 obtain⟨o3856,e3857,H⟩:=Z3 H
 refine AWp.loop (LWp.conv (inv:=[]) (vk:=[]) (e0:=[]) (t:=⟨[(0,.im (.row (a0.map (Z1 .u64)))),(4,iV .u64 0),(5,iV .i64 0)],[],0⟩) (by kernel_rfl) ?_)
 refine LWp.mono (Q:=fun e s=>(match (generalizing:=false) o3856 with | .inl rr=>e = .ret∧s.floor=0∧Z1x Tryz.prog Tryz.f48 s=some (.tup [iV .u64 rr.1,iV .i64 rr.2])∧([]:List (Nat×Option MObj))=[] | .inr x3855=>e = .exit 0∧s=⟨[(4,iV .u64 x3855)],[],0⟩)) (LWp.cv (Zn (fun body hbody => ?_))) ?_
 ·refine       Z2f.l0.partial_correctness a0 (motive:=fun x3845 x3846 o3856=>LWp Γ body (fun e s=>∃ t,Cv Γ s t∧(match (generalizing:=false) o3856 with | .inl rr=>e = .ret∧t.floor=0∧Z1x   Tryz.prog Tryz.f48 t=some (.tup [iV .u64 rr.1,iV .i64 rr.2])∧([]:List (Nat×Option MObj))=[] | .inr x3855=>e = .exit 0∧t=⟨[(4,iV .u64 x3855)],[],0⟩)) ⟨[(0,.im (.row (a0.map (Z1     .u64)))),(4,iV .u64 x3845),(5,iV .i64 x3846)],[],0⟩) ?_ _ _ _ e3857
  clear H e3857 o3856;intro self ih x3845 x3846 o3856 H
  subst hbody
  refine LWp.round ?_
  refine AWp.seq ?_
  refine sR hP hn hm [(2,.any (iV .i64 (a0.length:Int)))] [(9,bV (decide (x3846<(a0.length:Int))))] [0,4,5,9] [] [] [((a0.map (Z1 .u64)).length:Int)=(a0.length:Int)] ⟨by rw[Zi],trivial⟩ ?_
  refine AWp.cond (decide (x3846<(a0.length:Int))) (by kernel_rfl) (fun c3847 => ?_) (fun c3847 => ?_)
  ·replace H:=iT c3847 H
   refine AWp.skip ?_
   refine AWp.seq ?_
   refine AWp.block ?_
   refine AWp.seq ?_
   obtain⟨b3851,p3852,q3853,H⟩:=Z03 H
   refine sR hP hn hm [(2,.c ((Z1 .u64) b3851))] [(18,bV (decide (b3851>(u64.wrap ((18446744073709551615:Int)-x3845)))))] [0,4,5,18] [] [] [_,_] ⟨p3852,Zf (Z1 .u64) q3853,trivial⟩ ?_
   refine AWp.cond (decide (b3851>(u64.wrap ((18446744073709551615:Int)-x3845)))) (by kernel_rfl) (fun c3854 => ?_) (fun c3854 => ?_)
   ·replace H:=iT c3854 H
    refine sO hP hn hm [] [(2,iV .u64 0),(3,iV .i64 5)] [2,3] [] [] ?_
    refine AWp.conv (inv:=[]) (vk:=[]) (e0:=[]) (t:=⟨[(2,iV .u64 0),(3,iV .i64 5)],[],0⟩) (by kernel_rfl) ?_
    refine AWp.ret ?_
    obtain rfl:=sj H
    exact rl rfl rfl (by kernel_rfl) (by kernel_rfl)
   ·replace H:=iF c3854 H
    refine AWp.skip ?_
    refine rG hP hn hm [(3,.c ((Z1 .u64) b3851))] [(4,iV .u64 (u64.wrap (x3845+b3851)))] [0,4,5] [] [] [_,_] ⟨p3852,Zf (Z1 .u64) q3853,trivial⟩ ?_
    refine rO hP hn hm [] [(5,iV .i64 (i64.wrap (x3846+(1:Int))))] [0,4,5] [] [] ?_
    exact LWp.conv [] [] [] (by kernel_rfl) (ih _ _ _ H)
  ·replace H:=iF c3847 H
   refine AWp.exit ?_
   obtain rfl:=sj H
   exact lf [] [] [] (by kernel_rfl) ⟨rfl,rfl⟩
 ·rcases o3856 with rr | x3855
  ·skip
   rintro e s ⟨rfl,hfl,hres⟩
   obtain rfl:=sj H
   exact Exists.intro _ (And.intro (fun _ _ h=>h) (And.intro (.inl rfl) (And.intro hfl hres)))
  ·skip
   rintro e s ⟨rfl,rfl⟩
   refine sO hP hn hm [] [(2,iV .u64 x3855),(3,iV .i64 0)] [2,3] [] [] ?_
   refine AWp.conv (inv:=[]) (vk:=[]) (e0:=[]) (t:=⟨[(2,iV .u64 x3855),(3,iV .i64 0)],[],0⟩) (by kernel_rfl) ?_
   refine AWp.ret ?_
   obtain rfl:=sj H
   exact rl (.inl rfl) rfl (by kernel_rfl) (by kernel_rfl)
def Zo.l1 (a0:Ze) (x3778:Int) (x3781:List Z2) (x3803:List Int) (x3804:Int):Option (Int ⊕ (List Int)):=if(decide (x3804<(x3781.length:Int)))=true then((at? x3781 x3804)>>=fun b3811=>(Z4b.f a0.f1 b3811.f0)>>=fun t3814=>if(!t3814)=true then(some (.inl 4)) else(((if(decide (x3804>(0:Int)))=true then((at? x3781 (i64.wrap (x3804-(1:Int))))>>=fun b3822=>some (decide (b3811.f0≤b3822.f0))) else(some false)):Option (Bool))>>=fun x3825=>if x3825=true then(some (.inl 32)) else(if(b3811.f1==(0:Int))=true then(some (.inl 21)) else((Z00.f a0.f1 (i64.wrap (b3811.f0-(1:Int))))>>=fun t3830=>if(decide (t3830<a0.f2))=true then(some (.inl 31)) else((chk ((x3803.length+[b3811.f1].length)*8≤140737488355328))>>=fun _=>Zo.l1 a0 x3778 x3781 (x3803++[b3811.f1]) (i64.wrap (x3804+(1:Int)))))))) else(some (.inr x3803))
partial_fixpoint
def Zo.l0 (a0:Ze) (x3777:List Int) (x3778:Int):Option (Int ⊕ (List Int)):=if(decide (x3778<(2:Int)))=true then(((if(x3778==(1:Int))=true then(some a0.f7) else(some a0.f6)):Option (List Z2))>>=fun x3781=>if(decide ((x3781.length:Int)>(512:Int)))=true then(some (.inl 9)) else((Zo.l1 a0 x3778 x3781 x3777 0)>>=fun oo=>match oo with | .inl rr=>(some (.inl rr)) | .inr x3835=>(Zo.l0 a0 x3835 (i64.wrap (x3778+(1:Int)))))) else(some (.inr x3777))
partial_fixpoint
def Zo.f (a0:Ze):Option (Int):=((if(a0.f0 != (0:Int))=true then(some (a0.f0 != (1:Int))) else(some false)):Option (Bool))>>=fun x3666=>if x3666=true then(some 25) else((Z06.f a0.f1)>>=fun t3675=>if(!t3675)=true then(some 20) else(((if(a0.f2 != (-524288))=true then(if(decide (a0.f2≤(-262144)))=true then(some true) else(some (decide (a0.f2>(262144:Int))))) else(some false)):Option (Bool))>>=fun x3682=>if x3682=true then(some 31) else((Zo.l0 a0 [a0.f3] 0)>>=fun oo=>match oo with | .inl rr=>(some rr) | .inr x3836=>((Z2f.f x3836)>>=fun t3860=>if(t3860.2 != (0:Int))=true then(some 5) else(if(t3860.1 != a0.f4)=true then(some 21) else(some 0))))))
theorem Zo.ok (a0:Ze) (r:Int) (H:Zo.f a0=some r):Pv.Fn Tryz.prog 14 [.agg (Zh a0)] [] 0 (fun x o=>x=iV .i64 r∧o=[]):=by
 unfold Zo.f at H
 refine Fn.bodyK [] Tryz.func14 rfl rfl (fun Γ hP hn => ?_)
 have hm:Tryz.prog.follows .mixedOrders=true:=by kernel_rfl
 replace hn:Γ.n=118:=hn
 refine sO hP hn hm [(0,.k 0)] [(1,.ptr 0 0 0)] [1] [(0,some (.box 39 (Zh a0)))] [0] ?_
 refine AWp.seq ?_
 refine AWp.seq ?_
 obtain⟨o3864,e3865,H⟩:=Z3 H
 refine AWp.mono (Q:=fun e s=>(match (generalizing:=false) o3864 with | x3666=>e = .normal∧s=⟨[(1,.ptr 1 0 0),(16,bV x3666)],[(1,some (.box 39 (Zh a0)))],0⟩)) (AWp.cv ?_) ?_
 ·replace H:=e3865;clear e3865
  rcases Bool.eq_false_or_eq_true (a0.f0 != (0:Int)) with c3665 | c3665
  ·replace H:=iT c3665 H
   refine rG hP hn hm [(3,.b true)] [(16,bV (a0.f0 != (1:Int)))] [1,16] [] [0] [_] ⟨c3665,trivial⟩ ?_
   obtain rfl:=sj H
   exact lf [(0,1)] [] [] (by kernel_rfl) ⟨rfl,rfl⟩
  ·replace H:=iF c3665 H
   refine rG hP hn hm [(3,.b false)] [(16,bV false)] [1,16] [] [0] [_] ⟨c3665,trivial⟩ ?_
   obtain rfl:=sj H
   exact lf [(0,1)] [] [] (by kernel_rfl) ⟨rfl,rfl⟩
 ·obtain⟨x3666,rfl⟩:∃ z,z=o3864:=⟨_,rfl⟩
  rintro e s ⟨rfl,rfl⟩
  refine AWp.cond x3666 (by kernel_rfl) (fun c3667 => ?_) (fun c3667 => ?_)
  ·replace H:=iT c3667 H
   refine sO hP hn hm [] [(2,iV .i64 25)] [2] [] [] ?_
   refine AWp.conv (inv:=[]) (vk:=[]) (e0:=[]) (t:=⟨[(2,iV .i64 25)],[],0⟩) (by kernel_rfl) ?_
   refine AWp.ret ?_
   obtain rfl:=sj H
   exact rl (.inl rfl) rfl (by kernel_rfl) (by kernel_rfl)
  ·replace H:=iF c3667 H
   refine AWp.skip ?_
   refine AWp.seq ?_
   obtain⟨t3675,e3676,H⟩:=Z3 H
   refine sR hP hn hm [(2,.call [] [] [] [] 0 (bV t3675) [])] [(20,bV (!t3675))] [1,20] [] [1] [_,_] ⟨Tryz.call45,Z06.ok a0.f1 t3675 e3676,trivial⟩ ?_
   refine AWp.cond (!t3675) (by kernel_rfl) (fun c3677 => ?_) (fun c3677 => ?_)
   ·replace H:=iT c3677 H
    refine sO hP hn hm [] [(2,iV .i64 20)] [2] [] [] ?_
    refine AWp.conv (inv:=[]) (vk:=[]) (e0:=[]) (t:=⟨[(2,iV .i64 20)],[],0⟩) (by kernel_rfl) ?_
    refine AWp.ret ?_
    obtain rfl:=sj H
    exact rl (.inl rfl) rfl (by kernel_rfl) (by kernel_rfl)
   ·replace H:=iF c3677 H
    refine AWp.skip ?_
    refine AWp.seq ?_
    refine AWp.seq ?_
    obtain⟨o3866,e3867,H⟩:=Z3 H
    refine AWp.mono (Q:=fun e s=>(match (generalizing:=false) o3866 with | x3682=>e = .normal∧s=⟨[(1,.ptr 2 0 0),(33,bV x3682)],[(2,some (.box 39 (Zh a0)))],0⟩)) (AWp.cv ?_) ?_
    ·replace H:=e3867;clear e3867
     rcases Bool.eq_false_or_eq_true (a0.f2 != (-524288)) with c3680 | c3680
     ·replace H:=iT c3680 H
      rcases Bool.eq_false_or_eq_true (decide (a0.f2≤(-262144))) with c3681 | c3681
      ·replace H:=iT c3681 H
       refine rG hP hn hm [(3,.b true),(7,.b true)] [(33,bV true)] [1,33] [] [1] [_,_] ⟨c3680,c3681,trivial⟩ ?_
       obtain rfl:=sj H
       exact lf [(1,2)] [] [] (by kernel_rfl) ⟨rfl,rfl⟩
      ·replace H:=iF c3681 H
       refine rG hP hn hm [(3,.b true),(7,.b false)] [(33,bV (decide (a0.f2>(262144:Int))))] [1,33] [] [1] [_,_] ⟨c3680,c3681,trivial⟩ ?_
       obtain rfl:=sj H
       exact lf [(1,2)] [] [] (by kernel_rfl) ⟨rfl,rfl⟩
     ·replace H:=iF c3680 H
      refine rG hP hn hm [(3,.b false)] [(33,bV false)] [1,33] [] [1] [_] ⟨c3680,trivial⟩ ?_
      obtain rfl:=sj H
      exact lf [(1,2)] [] [] (by kernel_rfl) ⟨rfl,rfl⟩
    ·obtain⟨x3682,rfl⟩:∃ z,z=o3866:=⟨_,rfl⟩
     rintro e s ⟨rfl,rfl⟩
     refine AWp.cond x3682 (by kernel_rfl) (fun c3683 => ?_) (fun c3683 => ?_)
     ·replace H:=iT c3683 H
      refine sO hP hn hm [] [(2,iV .i64 31)] [2] [] [] ?_
      refine AWp.conv (inv:=[]) (vk:=[]) (e0:=[]) (t:=⟨[(2,iV .i64 31)],[],0⟩) (by kernel_rfl) ?_
      refine AWp.ret ?_
      obtain rfl:=sj H
      exact rl (.inl rfl) rfl (by kernel_rfl) (by kernel_rfl)
     ·replace H:=iF c3683 H
      refine AWp.skip ?_
      refine sR hP hn hm [(2,.app 3 ([a0.f3].map (Z1 .u64)))] [(3,.own 3)] [1,3] [(3,some (.row 1 36 ([a0.f3].map (Z1 .u64))))] [2,3] [[a0.f3].map (Z1 .u64)=[[iI .u64 a0.f3]]] ⟨by exact rfl,trivial⟩ ?_
      refine AWp.seq ?_
      refine sO hP hn hm [] [(4,iV .i64 0)] [1,3,4] [] [2,3] ?_
      refine AWp.block ?_
      obtain⟨o3868,e3869,H⟩:=Z3 H
      refine AWp.loop (LWp.conv (inv:=[(2,14),(3,15)]) (vk:=[]) (e0:=[]) (t:=⟨[(1,.ptr 14 0 0),(3,.own 15),(4,iV .i64 0)],[(14,some (.box 39 (Zh a0))),(15,some (.row 1 36 ([a0.f3].map (Z1 .u64))))],0⟩) (by kernel_rfl) ?_)
      refine LWp.mono (Q:=fun e s=>(match (generalizing:=false) o3868 with | .inl rr=>e = .ret∧s.floor=0∧Z1x Tryz.prog Tryz.f14 s=some (iV .i64 rr)∧([]:List (Nat×Option MObj))=[] | .inr x3836=>e = .exit 0∧s=⟨[(1,.ptr 28 0 0),(3,.own 29)],[(28,some (.box 39 (Zh a0))),(29,some (.row 1 36 (x3836.map (Z1 .u64))))],0⟩)) (LWp.cv (Zn (fun body hbody => ?_))) ?_
      ·refine          Zo.l0.partial_correctness a0 (motive:=fun x3777 x3778 o3868=>LWp Γ body (fun e s=>∃ t,Cv Γ s t∧(match (generalizing:=false) o3868 with | .inl rr=>e = .ret∧t.floor=0∧Z1x   Tryz.prog Tryz.f14 t=some (iV .i64 rr)∧([]:List (Nat×Option MObj))=[] | .inr x3836=>e = .exit 0∧t=⟨[(1,.ptr 28 0 0),(3,.own 29)],[(28,some (.box 39 (Zh    a0))),(29,some (.row 1 36 (x3836.map (Z1     .u64))))],0⟩)) ⟨[(1,.ptr 14 0 0),(3,.own 15),(4,iV .i64 x3778)],[(14,some (.box 39 (Zh    a0))),(15,some (.row 1 36 (x3777.map (Z1     .u64))))],0⟩) ?_ _ _ _ e3869
       clear H e3869 o3868;intro self ih x3777 x3778 o3868 H
       subst hbody
       refine LWp.round ?_
       refine AWp.seq ?_
       refine sO hP hn hm [] [(38,bV (decide (x3778<(2:Int))))] [1,3,4,38] [] [14,15] ?_
       refine AWp.cond (decide (x3778<(2:Int))) (by kernel_rfl) (fun c3779 => ?_) (fun c3779 => ?_)
       ·replace H:=iT c3779 H
        refine AWp.skip ?_
        refine AWp.seq ?_
        refine AWp.block ?_
        refine sO hP hn hm [] [(5,.im (.row (a0.f6.map Z0)))] [1,3,4,5] [] [14,15] ?_
        refine AWp.seq ?_
        refine sO hP hn hm [] [(44,bV (x3778==(1:Int)))] [1,3,4,5,44] [] [14,15] ?_
        obtain⟨o3870,e3871,H⟩:=Z3 H
        refine AWp.mono (Q:=fun e s=>(match (generalizing:=false) o3870 with | x3781=>e = .normal∧s=⟨[(1,.ptr 16 0 0),(3,.own 17),(4,iV .i64 x3778),(5,.im (.row (x3781.map Z0)))],[(16,some (.box 39 (Zh a0))),(17,some (.row 1 36 (x3777.map (Z1 .u64))))],0⟩)) (AWp.cv ?_) ?_
        ·replace H:=e3871;clear e3871
         refine AWp.cond (x3778==(1:Int)) (by kernel_rfl) (fun c3780 => ?_) (fun c3780 => ?_)
         ·replace H:=iT c3780 H
          refine rO hP hn hm [] [(5,.im (.row (a0.f7.map Z0)))] [1,3,4,5] [] [14,15] ?_
          obtain rfl:=sj H
          exact lf [(14,16),(15,17)] [] [] (by kernel_rfl) ⟨rfl,rfl⟩
         ·replace H:=iF c3780 H
          refine AWp.skip ?_
          obtain rfl:=sj H
          exact lf [(14,16),(15,17)] [] [] (by kernel_rfl) ⟨rfl,rfl⟩
        ·obtain⟨x3781,rfl⟩:∃ z,z=o3870:=⟨_,rfl⟩
         rintro e s ⟨rfl,rfl⟩
         refine AWp.seq ?_
         refine sR hP hn hm [(1,.any (iV .i64 (x3781.length:Int)))] [(49,bV (decide ((x3781.length:Int)>(512:Int))))] [1,3,4,5,49] [] [16,17] [((x3781.map Z0).length:Int)=(x3781.length:Int)] ⟨by rw[Zi],trivial⟩ ?_
         refine AWp.cond (decide ((x3781.length:Int)>(512:Int))) (by kernel_rfl) (fun c3782 => ?_) (fun c3782 => ?_)
         ·replace H:=iT c3782 H
          refine sO hP hn hm [] [(2,iV .i64 9)] [2] [] [] ?_
          refine AWp.conv (inv:=[]) (vk:=[]) (e0:=[]) (t:=⟨[(2,iV .i64 9)],[],0⟩) (by kernel_rfl) ?_
          refine AWp.ret ?_
          obtain rfl:=sj H
          exact rl rfl rfl (by kernel_rfl) (by kernel_rfl)
         ·replace H:=iF c3782 H
          refine AWp.skip ?_
          refine sO hP hn hm [] [(6,iV .i64 0)] [1,3,4,5,6] [] [16,17] ?_
          refine AWp.block ?_
          obtain⟨o3872,e3873,H⟩:=Z3 H
          refine AWp.loop (LWp.conv (inv:=[(16,20),(17,21)]) (vk:=[]) (e0:=[]) (t:=⟨[(1,.ptr 20 0 0),(3,.own 21),(4,iV .i64 x3778),(5,.im (.row (x3781.map Z0))),(6,iV .i64 0)],[(20,some (.box 39 (Zh a0))),(21,some (.row 1 36 (x3777.map (Z1 .u64))))],0⟩) (by kernel_rfl) ?_)
          refine LWp.mono (Q:=fun e s=>(match (generalizing:=false) o3872 with | .inl rr=>e = .ret∧s.floor=0∧Z1x Tryz.prog Tryz.f14 s=some (iV .i64 rr)∧([]:List (Nat×Option MObj))=[] | .inr x3835=>e = .exit 2∧s=⟨[(1,.ptr 26 0 0),(3,.own 27),(4,iV .i64 x3778)],[(26,some (.box 39 (Zh a0))),(27,some (.row 1 36 (x3835.map (Z1 .u64))))],0⟩)) (LWp.cv (Zn (fun body hbody => ?_))) ?_
          ·refine          Zo.l1.partial_correctness a0 x3778 x3781 (motive:=fun x3803 x3804 o3872=>LWp Γ body (fun e s=>∃ t,Cv Γ s t∧(match (generalizing:=false) o3872 with | .inl rr=>e = .ret∧t.floor=0∧Z1x   Tryz.prog Tryz.f14 t=some (iV .i64 rr)∧([]:List (Nat×Option MObj))=[] | .inr x3835=>e = .exit 2∧t=⟨[(1,.ptr 26 0 0),(3,.own 27),(4,iV .i64 x3778)],[(26,some (.box 39 (Zh    a0))),(27,some (.row 1 36 (x3835.map (Z1     .u64))))],0⟩)) ⟨[(1,.ptr 20 0 0),(3,.own 21),(4,iV .i64 x3778),(5,.im (.row (x3781.map Z0     ))),(6,iV .i64 x3804)],[(20,some (.box 39 (Zh    a0))),(21,some (.row 1 36 (x3803.map (Z1     .u64))))],0⟩) ?_ _ _ _ e3873
           clear H e3873 o3872;intro self ih x3803 x3804 o3872 H
           subst hbody
           refine LWp.round ?_
           refine AWp.seq ?_
           refine sR hP hn hm [(2,.any (iV .i64 (x3781.length:Int)))] [(53,bV (decide (x3804<(x3781.length:Int))))] [1,3,4,5,6,53] [] [20,21] [((x3781.map Z0).length:Int)=(x3781.length:Int)] ⟨by rw[Zi],trivial⟩ ?_
           refine AWp.cond (decide (x3804<(x3781.length:Int))) (by kernel_rfl) (fun c3805 => ?_) (fun c3805 => ?_)
           ·replace H:=iT c3805 H
            refine AWp.skip ?_
            refine AWp.seq ?_
            refine AWp.block ?_
            refine AWp.seq ?_
            obtain⟨b3811,p3812,q3813,H⟩:=Z03 H
            obtain⟨t3814,e3815,H⟩:=Z3 H
            refine sR hP hn hm [(4,.c (Z0 b3811)),(7,.call [] [] [] [] 0 (bV t3814) [])] [(64,bV (!t3814))] [1,3,4,5,6,64] [] [20,21] [_,_,_,_] ⟨p3812,Zf Z0 q3813,Tryz.call46,Z4b.ok a0.f1 b3811.f0 t3814 e3815,trivial⟩ ?_
            refine AWp.cond (!t3814) (by kernel_rfl) (fun c3816 => ?_) (fun c3816 => ?_)
            ·replace H:=iT c3816 H
             refine sO hP hn hm [] [(2,iV .i64 4)] [2] [] [] ?_
             refine AWp.conv (inv:=[]) (vk:=[]) (e0:=[]) (t:=⟨[(2,iV .i64 4)],[],0⟩) (by kernel_rfl) ?_
             refine AWp.ret ?_
             obtain rfl:=sj H
             exact rl rfl rfl (by kernel_rfl) (by kernel_rfl)
            ·replace H:=iF c3816 H
             refine AWp.skip ?_
             refine AWp.seq ?_
             refine AWp.seq ?_
             obtain⟨o3874,e3875,H⟩:=Z3 H
             refine AWp.mono (Q:=fun e s=>(match (generalizing:=false) o3874 with | x3825=>e = .normal∧s=⟨[(1,.ptr 22 0 0),(3,.own 23),(4,iV .i64 x3778),(5,.im (.row (x3781.map Z0))),(6,iV .i64 x3804),(80,bV x3825)],[(22,some (.box 39 (Zh a0))),(23,some (.row 1 36 (x3803.map (Z1 .u64))))],0⟩)) (AWp.cv ?_) ?_
             ·replace H:=e3875;clear e3875
              rcases Bool.eq_false_or_eq_true (decide (x3804>(0:Int))) with c3821 | c3821
              ·replace H:=iT c3821 H
               obtain⟨b3822,p3823,q3824,H⟩:=Z03 H
               refine rG hP hn hm [(2,.b true),(5,.c (Z0 b3811)),(11,.c (Z0 b3822))] [(68,.im (.row (x3781.map Z0))),(69,iV .i64 x3804),(70,.ip [iI .i64 b3811.f0,iI .u64 b3811.f1]),(71,.ip [iI .i64 b3811.f0,iI .u64 b3811.f1]),(72,iV .i64 b3811.f0),(73,.im (.row (x3781.map Z0))),(74,iV .i64 x3804),(75,iV .i64 (i64.wrap (x3804-(1:Int)))),(76,.ip [iI .i64 b3822.f0,iI .u64 b3822.f1]),(77,.ip [iI .i64 b3822.f0,iI .u64 b3822.f1]),(78,iV .i64 b3822.f0),(79,bV (decide (b3811.f0≤b3822.f0))),(80,bV (decide (b3811.f0≤b3822.f0)))] [1,3,4,5,6,68,69,70,71,72,73,74,75,76,77,78,79,80] [] [20,21] [_,_,_,_,_] ⟨c3821,p3812,Zf Z0 q3813,p3823,Zf Z0 q3824,trivial⟩ ?_
               obtain rfl:=sj H
               exact lf [(20,22),(21,23)] [] [] (by kernel_rfl) ⟨rfl,rfl⟩
              ·replace H:=iF c3821 H
               refine rG hP hn hm [(2,.b false)] [(80,bV false)] [1,3,4,5,6,80] [] [20,21] [_] ⟨c3821,trivial⟩ ?_
               obtain rfl:=sj H
               exact lf [(20,22),(21,23)] [] [] (by kernel_rfl) ⟨rfl,rfl⟩
             ·obtain⟨x3825,rfl⟩:∃ z,z=o3874:=⟨_,rfl⟩
              rintro e s ⟨rfl,rfl⟩
              refine AWp.cond x3825 (by kernel_rfl) (fun c3826 => ?_) (fun c3826 => ?_)
              ·replace H:=iT c3826 H
               refine sO hP hn hm [] [(2,iV .i64 32)] [2] [] [] ?_
               refine AWp.conv (inv:=[]) (vk:=[]) (e0:=[]) (t:=⟨[(2,iV .i64 32)],[],0⟩) (by kernel_rfl) ?_
               refine AWp.ret ?_
               obtain rfl:=sj H
               exact rl rfl rfl (by kernel_rfl) (by kernel_rfl)
              ·replace H:=iF c3826 H
               refine AWp.skip ?_
               refine AWp.seq ?_
               refine sR hP hn hm [(2,.c (Z0 b3811))] [(86,bV (b3811.f1==(0:Int)))] [1,3,4,5,6,86] [] [22,23] [_,_] ⟨p3812,Zf Z0 q3813,trivial⟩ ?_
               refine AWp.cond (b3811.f1==(0:Int)) (by kernel_rfl) (fun c3827 => ?_) (fun c3827 => ?_)
               ·replace H:=iT c3827 H
                refine sO hP hn hm [] [(2,iV .i64 21)] [2] [] [] ?_
                refine AWp.conv (inv:=[]) (vk:=[]) (e0:=[]) (t:=⟨[(2,iV .i64 21)],[],0⟩) (by kernel_rfl) ?_
                refine AWp.ret ?_
                obtain rfl:=sj H
                exact rl rfl rfl (by kernel_rfl) (by kernel_rfl)
               ·replace H:=iF c3827 H
                refine AWp.skip ?_
                refine AWp.seq ?_
                obtain⟨t3830,e3831,H⟩:=Z3 H
                refine sR hP hn hm [(4,.c (Z0 b3811)),(8,.call [] [] [] [] 0 (iV .i64 t3830) [])] [(98,bV (decide (t3830<a0.f2)))] [1,3,4,5,6,98] [] [22,23] [_,_,_,_] ⟨p3812,Zf Z0 q3813,Tryz.call47,Z00.ok a0.f1 (i64.wrap (b3811.f0-(1:Int))) t3830 e3831,trivial⟩ ?_
                refine AWp.cond (decide (t3830<a0.f2)) (by kernel_rfl) (fun c3832 => ?_) (fun c3832 => ?_)
                ·replace H:=iT c3832 H
                 refine sO hP hn hm [] [(2,iV .i64 31)] [2] [] [] ?_
                 refine AWp.conv (inv:=[]) (vk:=[]) (e0:=[]) (t:=⟨[(2,iV .i64 31)],[],0⟩) (by kernel_rfl) ?_
                 refine AWp.ret ?_
                 obtain rfl:=sj H
                 exact rl rfl rfl (by kernel_rfl) (by kernel_rfl)
                ·replace H:=iF c3832 H
                 refine AWp.skip ?_
                 obtain⟨c3834,H⟩:=Z0q H
                 refine rG hP hn hm [(3,.c (Z0 b3811)),(6,.app 24 ([b3811.f1].map (Z1 .u64))),(7,.app 25 ((x3803++[b3811.f1]).map (Z1 .u64)))] [(3,.own 25)] [1,3,4,5,6] [(25,some (.row 1 36 ((x3803++[b3811.f1]).map (Z1 .u64))))] [22,25] [_,_,[b3811.f1].map (Z1 .u64)=[[iI .u64 b3811.f1]],(x3803++[b3811.f1]).map (Z1 .u64)=(x3803.map (Z1 .u64))++([b3811.f1].map (Z1 .u64)),∀ c∈([b3811.f1].map (Z1 .u64)),c.length=1,∀ c∈([b3811.f1].map (Z1 .u64)),Z0m (c.map .im)=true,((x3803.map (Z1 .u64)).length+([b3811.f1].map (Z1 .u64)).length)*8≤140737488355328] ⟨p3812,Zf Z0 q3813,by exact rfl,by simp,by exact Z0k _ _ _ (fun _=>rfl),by exact Z0j _ _ (fun _=>rfl),by simpa using c3834,trivial⟩ ?_
                 refine rO hP hn hm [] [(6,iV .i64 (i64.wrap (x3804+(1:Int))))] [1,3,4,5,6] [] [22,25] ?_
                 exact LWp.conv [(22,20),(25,21)] [] [] (by kernel_rfl) (ih _ _ _ H)
           ·replace H:=iF c3805 H
            refine AWp.exit ?_
            obtain rfl:=sj H
            exact lf [(20,26),(21,27)] [] [] (by kernel_rfl) ⟨rfl,rfl⟩
          ·rcases o3872 with rr | x3835
           ·skip
            rintro e s ⟨rfl,hfl,hres⟩
            obtain rfl:=sj H
            exact Exists.intro _ (And.intro (fun _ _ h=>h) (And.intro rfl (And.intro hfl hres)))
           ·skip
            rintro e s ⟨rfl,rfl⟩
            refine rO hP hn hm [] [(4,iV .i64 (i64.wrap (x3778+(1:Int))))] [1,3,4] [] [26,27] ?_
            exact LWp.conv [(26,14),(27,15)] [] [] (by kernel_rfl) (ih _ _ _ H)
       ·replace H:=iF c3779 H
        refine AWp.exit ?_
        obtain rfl:=sj H
        exact lf [(14,28),(15,29)] [] [] (by kernel_rfl) ⟨rfl,rfl⟩
      ·rcases o3868 with rr | x3836
       ·skip
        rintro e s ⟨rfl,hfl,hres⟩
        obtain rfl:=sj H
        exact Exists.intro _ (And.intro (fun _ _ h=>h) (And.intro (.inl rfl) (And.intro hfl hres)))
       ·skip
        rintro e s ⟨rfl,rfl⟩
        obtain⟨t3860,e3861,H⟩:=Z3 H
        refine sR hP hn hm [(1,.call [] [] [29] [] 0 (.tup [iV .u64 t3860.1,iV .i64 t3860.2]) [])] [(7,iV .u64 t3860.1),(8,iV .i64 t3860.2)] [1,7,8] [] [28] [_,_] ⟨Tryz.call48,Z2f.ok x3836 t3860 e3861,trivial⟩ ?_
        refine AWp.seq ?_
        refine sO hP hn hm [] [(113,bV (t3860.2 != (0:Int)))] [1,7,113] [] [28] ?_
        refine AWp.cond (t3860.2 != (0:Int)) (by kernel_rfl) (fun c3862 => ?_) (fun c3862 => ?_)
        ·replace H:=iT c3862 H
         refine sO hP hn hm [] [(2,iV .i64 5)] [2] [] [] ?_
         refine AWp.conv (inv:=[]) (vk:=[]) (e0:=[]) (t:=⟨[(2,iV .i64 5)],[],0⟩) (by kernel_rfl) ?_
         refine AWp.ret ?_
         obtain rfl:=sj H
         exact rl (.inl rfl) rfl (by kernel_rfl) (by kernel_rfl)
        ·replace H:=iF c3862 H
         refine AWp.skip ?_
         refine AWp.seq ?_
         refine sO hP hn hm [] [(117,bV (t3860.1 != a0.f4))] [117] [] [] ?_
         refine AWp.cond (t3860.1 != a0.f4) (by kernel_rfl) (fun c3863 => ?_) (fun c3863 => ?_)
         ·replace H:=iT c3863 H
          refine sO hP hn hm [] [(2,iV .i64 21)] [2] [] [] ?_
          refine AWp.conv (inv:=[]) (vk:=[]) (e0:=[]) (t:=⟨[(2,iV .i64 21)],[],0⟩) (by kernel_rfl) ?_
          refine AWp.ret ?_
          obtain rfl:=sj H
          exact rl (.inl rfl) rfl (by kernel_rfl) (by kernel_rfl)
         ·replace H:=iF c3863 H
          refine AWp.skip ?_
          refine sO hP hn hm [] [(2,iV .i64 0)] [2] [] [] ?_
          refine AWp.conv (inv:=[]) (vk:=[]) (e0:=[]) (t:=⟨[(2,iV .i64 0)],[],0⟩) (by kernel_rfl) ?_
          refine AWp.ret ?_
          obtain rfl:=sj H
          exact rl (.inl rfl) rfl (by kernel_rfl) (by kernel_rfl)
def Z1k.l0 (a0:List Za) (x1:List (List Za)) (x2:List Za) (x3:Int):Option (List (List Za)):=if(decide (x3<(a0.length:Int)))=true then((at? a0 x3)>>=fun b1=>(chk ((x1.length+2)*24≤140737488355328))>>=fun _=>(Z04.f x2 b1)>>=fun t1=>if(!t1)=true then Z1k.l0 a0 (x1++[x2]) [b1] (i64.wrap (x3+(1:Int))) else(chk ((x2.length+1)*104≤140737488355328))>>=fun _=>Z1k.l0 a0 x1 (x2++[b1]) (i64.wrap (x3+(1:Int)))) else some (x1++[x2])
partial_fixpoint
def Z1k.f (a0:List Za):Option (List (List Za)):=if(decide ((0:Int)<(a0.length:Int)))=true then((at? a0 0)>>=fun b1=>Z1k.l0 a0 [] [b1] (i64.wrap ((0:Int)+(1:Int)))) else some []
theorem Z1k.ok (a0:List Za) (r:List (List Za)) (H:Z1k.f a0=some r):Pv.Fn Tryz.prog 15 [.im (.row (a0.map Z4))] [] 0 (fun x o=>x = .own 0∧o=[(0,some (.row 1 22 (r.map (Z0y Z4))))]):=by
 unfold Z1k.f at H
 refine Fn.bodyK [0] Tryz.func15 rfl rfl (fun Γ hP hn => ?_)
 have hm:Tryz.prog.follows .mixedOrders=true:=by kernel_rfl
 replace hn:Γ.n=46:=hn
 refine sO hP hn hm [] [] [0] [] [] ?_
 refine sO hP hn hm [] [(3,.none0)] [0,3] [] [] ?_
 refine AWp.seq ?_
 refine AWp.seq ?_
 refine rG hP hn hm [(1,.any (iV .i64 (a0.length:Int)))] [(7,.im (.row (a0.map Z4))),(8,iV .i64 (a0.length:Int)),(9,iV .i64 0)] [3,7,8,9] [] [] [((a0.map Z4).length:Int)=(a0.length:Int)] ⟨by rw[Zi],trivial⟩ ?_
 refine AWp.block ?_
 refine AWp.loop (LWp.mono (Q:=fun e s=>e = .exit 0∧s=⟨[(3,.own 0)],[(0,some (.row 1 22 (r.map (Z0y Z4))))],0⟩) (LWp.cv (Zn (fun body hbody => ?_))) ?_)
 ·have main:∀ x1 x2 x3 o,        Z1k.l0 a0 x1 x2 x3=some o→LWp Γ body (fun e s=>∃ t,Cv Γ s t∧(e = .exit 0∧t=⟨[(3,.own 0)],[(0,some (.row 1 22 (o.map (Z0y    Z4     ))))],0⟩)) ⟨[(3,.own 20),(7,.im (.row (a0.map Z4     ))),(8,iV .i64 (a0.length:Int)),(9,iV .i64 x3)],[(20,some (.arow 1 22 (x1.map (Z0y    Z4     )) [[.own 21]])),(21,some (.row 9 41 (x2.map Z4     )))],0⟩:=by
   intro x1 x2 x3 o e1
   refine Z1k.l0.partial_correctness a0 (motive:=fun x1 x2 x3 o=>LWp Γ body (fun e s=>∃ t,Cv Γ s t∧(e = .exit 0∧t=⟨[(3,.own 0)],[(0,some (.row 1 22 (o.map (Z0y Z4))))],0⟩)) ⟨[(3,.own 20),(7,.im (.row (a0.map Z4))),(8,iV .i64 (a0.length:Int)),(9,iV .i64 x3)],[(20,some (.arow 1 22 (x1.map (Z0y Z4)) [[.own 21]])),(21,some (.row 9 41 (x2.map Z4)))],0⟩) ?_ _ _ _ _ e1
   clear H e1 o x1 x2 x3;intro self ih x1 x2 x3 o H
   subst hbody
   refine LWp.round ?_
   refine sO hP hn hm [] [(10,bV (decide (x3<(a0.length:Int))))] [3,7,8,9,10] [] [20,21] ?_
   refine AWp.seq ?_
   refine AWp.cond (decide (x3<(a0.length:Int))) (by kernel_rfl) (fun c1 => ?_) (fun c1 => ?_)
   ·replace H:=iT c1 H
    refine AWp.skip ?_
    refine AWp.seq ?_
    refine AWp.block ?_
    obtain⟨b1,p1,q1,H⟩:=Z03 H
    obtain⟨d1,H⟩:=Z0q H
    have w0:=cut_w0 d1
    have w1:=cut_w1 d1
    rw[← Zi x1 (Z0y Z4)] at w0 w1
    refine sR hP hn hm [(0,.c (Z4 b1)),(2,.k 23)] [(5,.ptr 23 0 0)] [3,5,7,8,9] [(23,some (.box 41 (aSample b1)))] [20,21,23] [_,_] ⟨p1,Zf Z4 q1,trivial⟩ ?_
    refine sO hP hn hm [(1,.more xLenT)] [(6,iV .i64 (((x1.map (Z0y Z4)).length+1:Nat):Int))] [3,5,6,7,8,9] [] [20,21,23] ?_
    refine AWp.seq ?_
    obtain⟨t1,e2,H⟩:=Z3 H
    refine sR hP hn hm [(1,.b false),(6,.more (xIdxT 0)),(7,.more (xLoadT 0)),(9,.more (Z3q [] [] [21] [] 0 (bV t1) []))] [(26,bV (!t1))] [3,5,6,7,8,9,26] [] [20,21,23] [((((x1.map (Z0y Z4)).length+1:Nat):Int)==(0:Int))=false,_,(x1.map (Z0y Z4)).length+0=(x1.map (Z0y Z4)).length+0,_,_] ⟨by simp;omega,w0,rfl,Tryz.call17,Z04.ok x2 b1 t1 e2,trivial⟩ ?_
    refine AWp.cond (!t1) (by kernel_rfl) (fun c2 => ?_) (fun c2 => ?_)
    ·replace H:=iT c2 H
     refine sR hP hn hm [(1,.more (xOneT 24)),(2,.more (xAppT 25))] [(3,.own 25)] [3,5,6,7,8,9] [(25,some (.arow 1 22 (x1.map (Z0y Z4)) [[.own 21],[.none0]]))] [21,23,25] [((x1.map (Z0y Z4)).length+1+1)*24≤140737488355328] ⟨by rw[Zi];omega,trivial⟩ ?_
     refine rO hP hn hm [] [(6,iV .i64 (i64.wrap ((((x1.map (Z0y Z4)).length+1:Nat):Int)+1)))] [3,5,6,7,8,9] [] [21,23,25] ?_
     refine rG hP hn hm [(6,.more (xIdxT 1)),(7,.more (xLoadT 1)),(9,.app 26 ([b1].map Z4)),(10,.app 27 ([b1].map Z4)),(11,.more (xIdxT 1)),(12,.more (xStoreT 1))] [] [3,7,8,9] [(25,some (.arow 1 22 (x1.map (Z0y Z4)) [[.own 21],[.own 27]])),(27,some (.row 9 41 ([b1].map Z4)))] [21,25,27] [_,(x1.map (Z0y Z4)).length+1=(x1.map (Z0y Z4)).length+1,[b1].map Z4=[Z4 b1],[b1].map Z4=[]++([b1].map Z4),∀ c∈([b1].map Z4),c.length=9,∀ c∈([b1].map Z4),Z0m (c.map .im)=true,(([]:List (List Im)).length+([b1].map Z4).length)*104≤140737488355328,_,(x1.map (Z0y Z4)).length+1=(x1.map (Z0y Z4)).length+1] ⟨w1,rfl,rfl,rfl,by exact Z0k _ _ _ (fun _=>rfl),by exact Z0j _ _ (fun _=>rfl),by simp,w1,rfl,trivial⟩ ?_
     refine rO hP hn hm [] [(9,iV .i64 (i64.wrap (x3+(1:Int))))] [3,7,8,9] [] [21,25,27] ?_
     have h:=ih _ _ _ _ H
     rw[app1] at h
     exact LWp.conv [(25,20),(27,21)] [21] [] (by kernel_rfl) h
    ·replace H:=iF c2 H
     obtain⟨d2,H⟩:=Z0q H
     refine AWp.skip ?_
     refine rG hP hn hm [(6,.more (xIdxT 0)),(7,.more (xLoadT 0)),(9,.app 26 ([b1].map Z4)),(10,.app 27 ((x2++[b1]).map Z4)),(11,.more (xIdxT 0)),(12,.more (xStoreT 0))] [] [3,7,8,9] [(20,some (.arow 1 22 (x1.map (Z0y Z4)) [[.own 27]])),(27,some (.row 9 41 ((x2++[b1]).map Z4)))] [20,27] [_,(x1.map (Z0y Z4)).length+0=(x1.map (Z0y Z4)).length+0,[b1].map Z4=[Z4 b1],(x2++[b1]).map Z4=(x2.map Z4)++([b1].map Z4),∀ c∈([b1].map Z4),c.length=9,∀ c∈([b1].map Z4),Z0m (c.map .im)=true,((x2.map Z4).length+([b1].map Z4).length)*104≤140737488355328,_,(x1.map (Z0y Z4)).length+0=(x1.map (Z0y Z4)).length+0] ⟨w0,rfl,rfl,by simp,by exact Z0k _ _ _ (fun _=>rfl),by exact Z0j _ _ (fun _=>rfl),by simpa using d2,w0,rfl,trivial⟩ ?_
     refine rO hP hn hm [] [(9,iV .i64 (i64.wrap (x3+(1:Int))))] [3,7,8,9] [] [20,27] ?_
     exact LWp.conv [(20,20),(27,21)] [] [] (by kernel_rfl) (ih _ _ _ _ H)
   ·replace H:=iF c1 H
    refine AWp.exit ?_
    obtain rfl:=sj H
    exact lf (t:=⟨[(3,.own 0)],[(0,some (.row 1 22 (x1.map (Z0y Z4)++[(Z0y Z4) x2])))],0⟩) [(20,0)] [21] [] (by kernel_rfl) ⟨rfl,by rw[app1]⟩
  subst hbody
  refine LWp.round ?_
  refine sO hP hn hm [] [(10,bV (decide ((0:Int)<(a0.length:Int))))] [3,7,8,9,10] [] [] ?_
  refine AWp.seq ?_
  refine AWp.cond (decide ((0:Int)<(a0.length:Int))) (by kernel_rfl) (fun c1 => ?_) (fun c1 => ?_)
  ·replace H:=iT c1 H
   refine AWp.skip ?_
   refine AWp.seq ?_
   refine AWp.block ?_
   obtain⟨b1,p1,q1,H⟩:=Z03 H
   refine sR hP hn hm [(0,.c (Z4 b1)),(2,.k 23)] [(5,.ptr 23 0 0)] [3,5,7,8,9] [(23,some (.box 41 (aSample b1)))] [23] [_,_] ⟨p1,Zf Z4 q1,trivial⟩ ?_
   refine sO hP hn hm [] [(6,iV .i64 0)] [3,5,6,7,8,9] [] [23] ?_
   refine AWp.seq ?_
   refine sR hP hn hm [(1,.b true)] [(26,bV true)] [3,5,6,7,8,9,26] [] [23] [((0:Int)==0)=true] ⟨rfl,trivial⟩ ?_
   refine AWp.cond true (by kernel_rfl) (fun c2 => ?_) (fun c2=>nomatch c2)
   refine sR hP hn hm [(1,.more (xOneT 24)),(2,.more (xAppT 25))] [(3,.own 25)] [3,5,6,7,8,9] [(25,some (.arow 1 22 [] [[.none0]]))] [23,25] [1*24≤140737488355328] ⟨by decide,trivial⟩ ?_
   refine rO hP hn hm [] [(6,iV .i64 1)] [3,5,6,7,8,9] [] [23,25] ?_
   refine rG hP hn hm [(6,.more (xIdxT 0)),(7,.more (xLoadT 0)),(9,.app 26 ([b1].map Z4)),(10,.app 27 ([b1].map Z4)),(11,.more (xIdxT 0)),(12,.more (xStoreT 0))] [] [3,7,8,9] [(25,some (.arow 1 22 [] [[.own 27]])),(27,some (.row 9 41 ([b1].map Z4)))] [25,27] [i64.wrap ((1:Int)-1)=((([]:List (List Im)).length+0:Nat):Int),([]:List (List Im)).length+0=([]:List (List Im)).length+0,[b1].map Z4=[Z4 b1],[b1].map Z4=[]++([b1].map Z4),∀ c∈([b1].map Z4),c.length=9,∀ c∈([b1].map Z4),Z0m (c.map .im)=true,(([]:List (List Im)).length+([b1].map Z4).length)*104≤140737488355328,i64.wrap ((1:Int)-1)=((([]:List (List Im)).length+0:Nat):Int),([]:List (List Im)).length+0=([]:List (List Im)).length+0] ⟨rfl,rfl,rfl,rfl,by exact Z0k _ _ _ (fun _=>rfl),by exact Z0j _ _ (fun _=>rfl),by simp,rfl,rfl,trivial⟩ ?_
   refine rO hP hn hm [] [(9,iV .i64 (i64.wrap ((0:Int)+(1:Int))))] [3,7,8,9] [] [25,27] ?_
   exact LWp.conv [(25,20),(27,21)] [] [] (by kernel_rfl) (main [] [b1] _ _ H)
  ·replace H:=iF c1 H
   refine AWp.exit ?_
   obtain rfl:=sj H
   exact lf [] [] [0] (by kernel_rfl) ⟨rfl,rfl⟩
 ·rintro e s ⟨rfl,rfl⟩
  refine sO hP hn hm [] [(2,.own 0)] [2] [] [0] ?_
  refine AWp.ret ?_
  exact rl (.inl rfl) rfl (by kernel_rfl) (by kernel_rfl)
def Z1h.l0 (a0:List Int) (x3981:Int) (x3982:Int) (x3983:Int):Option (Int×Int):=if(decide (x3983<(a0.length:Int)))=true then((at? a0 x3983)>>=fun b3988=>((if(decide ((Int.tmod b3988 (4294967296:Int))<(0:Int)))=true then(some (i64.wrap ((i64.wrap (Int.tdiv b3988 (4294967296:Int)))-(1:Int)),i64.wrap ((Int.tmod b3988 (4294967296:Int))+(4294967296:Int)))) else(some (i64.wrap (Int.tdiv b3988 (4294967296:Int)),Int.tmod b3988 (4294967296:Int)))):Option (Int×Int))>>=fun oo=>match oo with | (x3992,x3993)=>(Z1h.l0 a0 (i64.wrap (x3981+x3992)) (i64.wrap (x3982+x3993)) (i64.wrap (x3983+(1:Int))))) else(some (x3981,x3982))
partial_fixpoint
def Z1h.f (a0:List Int):Option (Int×Int):=(Z1h.l0 a0 0 0 0)>>=fun oo=>match oo with | (x3994,x3995)=>(((if(decide ((i64.wrap (x3994+(i64.wrap (Int.tdiv x3995 (4294967296:Int)))))>(2147483647:Int)))=true then(some true) else(some (decide ((i64.wrap (x3994+(i64.wrap (Int.tdiv x3995 (4294967296:Int)))))<(-2147483648))))):Option (Bool))>>=fun x3998=>if x3998=true then(some (0,5)) else(some (i64.wrap ((i64.wrap ((i64.wrap (x3994+(i64.wrap (Int.tdiv x3995 (4294967296:Int)))))*(4294967296:Int)))+(Int.tmod x3995 (4294967296:Int))),0)))
theorem Z1h.ok (a0:List Int) (r:Int×Int) (H:Z1h.f a0=some r):Pv.Fn Tryz.prog 81 [.im (.row (a0.map (Z1 .i64)))] [] 0 (fun x o=>x = .tup [iV .i64 r.1,iV .i64 r.2]∧o=[]):=by
 unfold Z1h.f at H
 refine Fn.bodyK [] Tryz.func81 rfl rfl (fun Γ hP hn => ?_)
 have hm:Tryz.prog.follows .mixedOrders=true:=by kernel_rfl
 replace hn:Γ.n=53:=hn
 refine sO hP hn hm [] [] [0] [] [] ?_
 refine sO hP hn hm [] [(4,iV .i64 0),(5,iV .i64 0)] [0,4,5] [] [] ?_
 refine AWp.seq ?_
 refine sO hP hn hm [] [(6,iV .i64 0)] [0,4,5,6] [] [] ?_
 refine AWp.block ?_
 obtain⟨o4000,e4001,H⟩:=Z3 H
 refine AWp.loop (LWp.conv (inv:=[]) (vk:=[]) (e0:=[]) (t:=⟨[(0,.im (.row (a0.map (Z1 .i64)))),(4,iV .i64 0),(5,iV .i64 0),(6,iV .i64 0)],[],0⟩) (by kernel_rfl) ?_)
 refine LWp.mono (Q:=fun e s=>(match (generalizing:=false) o4000 with | (x3994,x3995)=>e = .exit 0∧s=⟨[(4,iV .i64 x3994),(5,iV .i64 x3995)],[],0⟩)) (LWp.cv (Zn (fun body hbody => ?_))) ?_
 ·refine          Z1h.l0.partial_correctness a0 (motive:=fun x3981 x3982 x3983 o4000=>LWp Γ body (fun e s=>∃ t,Cv Γ s t∧(match (generalizing:=false) o4000 with | (x3994,x3995)=>e = .exit 0∧t=⟨[(4,iV .i64 x3994),(5,iV .i64 x3995)],[],0⟩)) ⟨[(0,.im (.row (a0.map (Z1     .i64)))),(4,iV .i64 x3981),(5,iV .i64 x3982),(6,iV .i64 x3983)],[],0⟩) ?_ _ _ _ _ e4001
  clear H e4001 o4000;intro self ih x3981 x3982 x3983 o4000 H
  subst hbody
  refine LWp.round ?_
  refine AWp.seq ?_
  refine sR hP hn hm [(2,.any (iV .i64 (a0.length:Int)))] [(12,bV (decide (x3983<(a0.length:Int))))] [0,4,5,6,12] [] [] [((a0.map (Z1 .i64)).length:Int)=(a0.length:Int)] ⟨by rw[Zi],trivial⟩ ?_
  refine AWp.cond (decide (x3983<(a0.length:Int))) (by kernel_rfl) (fun c3984 => ?_) (fun c3984 => ?_)
  ·replace H:=iT c3984 H
   refine AWp.skip ?_
   refine AWp.seq ?_
   refine AWp.block ?_
   obtain⟨b3988,p3989,q3990,H⟩:=Z03 H
   refine sR hP hn hm [(2,.c ((Z1 .i64) b3988))] [(7,iV .i64 (i64.wrap (Int.tdiv b3988 (4294967296:Int))))] [0,4,5,6,7] [] [] [_,_,(4294967296:Int)≠0] ⟨p3989,Zf (Z1 .i64) q3990,by decide,trivial⟩ ?_
   refine sR hP hn hm [(2,.c ((Z1 .i64) b3988))] [(8,iV .i64 (Int.tmod b3988 (4294967296:Int)))] [0,4,5,6,7,8] [] [] [_,_,(4294967296:Int)≠0] ⟨p3989,Zf (Z1 .i64) q3990,by decide,trivial⟩ ?_
   refine AWp.seq ?_
   refine sO hP hn hm [] [(26,bV (decide ((Int.tmod b3988 (4294967296:Int))<(0:Int))))] [0,4,5,6,7,8,26] [] [] ?_
   obtain⟨o4002,e4003,H⟩:=Z3 H
   refine AWp.mono (Q:=fun e s=>(match (generalizing:=false) o4002 with | (x3992,x3993)=>e = .normal∧s=⟨[(0,.im (.row (a0.map (Z1 .i64)))),(4,iV .i64 x3981),(5,iV .i64 x3982),(6,iV .i64 x3983),(7,iV .i64 x3992),(8,iV .i64 x3993)],[],0⟩)) (AWp.cv ?_) ?_
   ·replace H:=e4003;clear e4003
    refine AWp.cond (decide ((Int.tmod b3988 (4294967296:Int))<(0:Int))) (by kernel_rfl) (fun c3991 => ?_) (fun c3991 => ?_)
    ·replace H:=iT c3991 H
     refine sO hP hn hm [] [(8,iV .i64 (i64.wrap ((Int.tmod b3988 (4294967296:Int))+(4294967296:Int))))] [0,4,5,6,7,8] [] [] ?_
     refine rO hP hn hm [] [(7,iV .i64 (i64.wrap ((i64.wrap (Int.tdiv b3988 (4294967296:Int)))-(1:Int))))] [0,4,5,6,7,8] [] [] ?_
     obtain rfl:=sj H
     exact lf [] [] [] (by kernel_rfl) ⟨rfl,rfl⟩
    ·replace H:=iF c3991 H
     refine AWp.skip ?_
     obtain rfl:=sj H
     exact lf [] [] [] (by kernel_rfl) ⟨rfl,rfl⟩
   ·obtain⟨x3992,x3993⟩:=o4002
    rintro e s ⟨rfl,rfl⟩
    refine sO hP hn hm [] [(4,iV .i64 (i64.wrap (x3981+x3992)))] [0,4,5,6,8] [] [] ?_
    refine rO hP hn hm [] [(5,iV .i64 (i64.wrap (x3982+x3993)))] [0,4,5,6] [] [] ?_
    refine rO hP hn hm [] [(6,iV .i64 (i64.wrap (x3983+(1:Int))))] [0,4,5,6] [] [] ?_
    exact LWp.conv [] [] [] (by kernel_rfl) (ih _ _ _ _ H)
  ·replace H:=iF c3984 H
   refine AWp.exit ?_
   obtain rfl:=sj H
   exact lf [] [] [] (by kernel_rfl) ⟨rfl,rfl⟩
 ·obtain⟨x3994,x3995⟩:=o4000
  rintro e s ⟨rfl,rfl⟩
  refine sR hP hn hm [] [(4,iV .i64 (i64.wrap (x3994+(i64.wrap (Int.tdiv x3995 (4294967296:Int))))))] [4,5] [] [] [(4294967296:Int)≠0] ⟨by decide,trivial⟩ ?_
  refine sR hP hn hm [] [(5,iV .i64 (Int.tmod x3995 (4294967296:Int)))] [4,5] [] [] [(4294967296:Int)≠0] ⟨by decide,trivial⟩ ?_
  refine AWp.seq ?_
  refine AWp.seq ?_
  obtain⟨o4004,e4005,H⟩:=Z3 H
  refine AWp.mono (Q:=fun e s=>(match (generalizing:=false) o4004 with | x3998=>e = .normal∧s=⟨[(4,iV .i64 (i64.wrap (x3994+(i64.wrap (Int.tdiv x3995 (4294967296:Int)))))),(5,iV .i64 (Int.tmod x3995 (4294967296:Int))),(48,bV x3998)],[],0⟩)) (AWp.cv ?_) ?_
  ·replace H:=e4005;clear e4005
   rcases Bool.eq_false_or_eq_true (decide ((i64.wrap (x3994+(i64.wrap (Int.tdiv x3995 (4294967296:Int)))))>(2147483647:Int))) with c3997 | c3997
   ·replace H:=iT c3997 H
    refine rG hP hn hm [(2,.b true)] [(48,bV true)] [4,5,48] [] [] [_] ⟨c3997,trivial⟩ ?_
    obtain rfl:=sj H
    exact lf [] [] [] (by kernel_rfl) ⟨rfl,rfl⟩
   ·replace H:=iF c3997 H
    refine rG hP hn hm [(2,.b false)] [(48,bV (decide ((i64.wrap (x3994+(i64.wrap (Int.tdiv x3995 (4294967296:Int)))))<(-2147483648))))] [4,5,48] [] [] [_] ⟨c3997,trivial⟩ ?_
    obtain rfl:=sj H
    exact lf [] [] [] (by kernel_rfl) ⟨rfl,rfl⟩
  ·obtain⟨x3998,rfl⟩:∃ z,z=o4004:=⟨_,rfl⟩
   rintro e s ⟨rfl,rfl⟩
   refine AWp.cond x3998 (by kernel_rfl) (fun c3999 => ?_) (fun c3999 => ?_)
   ·replace H:=iT c3999 H
    refine sO hP hn hm [] [(2,iV .i64 0),(3,iV .i64 5)] [2,3] [] [] ?_
    refine AWp.conv (inv:=[]) (vk:=[]) (e0:=[]) (t:=⟨[(2,iV .i64 0),(3,iV .i64 5)],[],0⟩) (by kernel_rfl) ?_
    refine AWp.ret ?_
    obtain rfl:=sj H
    exact rl (.inl rfl) rfl (by kernel_rfl) (by kernel_rfl)
   ·replace H:=iF c3999 H
    refine AWp.skip ?_
    refine sO hP hn hm [] [(2,iV .i64 (i64.wrap ((i64.wrap ((i64.wrap (x3994+(i64.wrap (Int.tdiv x3995 (4294967296:Int)))))*(4294967296:Int)))+(Int.tmod x3995 (4294967296:Int))))),(3,iV .i64 0)] [2,3] [] [] ?_
    refine AWp.conv (inv:=[]) (vk:=[]) (e0:=[]) (t:=⟨[(2,iV .i64 (i64.wrap ((i64.wrap ((i64.wrap (x3994+(i64.wrap (Int.tdiv x3995 (4294967296:Int)))))*(4294967296:Int)))+(Int.tmod x3995 (4294967296:Int))))),(3,iV .i64 0)],[],0⟩) (by kernel_rfl) ?_
    refine AWp.ret ?_
    obtain rfl:=sj H
    exact rl (.inl rfl) rfl (by kernel_rfl) (by kernel_rfl)
end Go.Proofs.YtlclecehlekjoaaGreat.PvGK
