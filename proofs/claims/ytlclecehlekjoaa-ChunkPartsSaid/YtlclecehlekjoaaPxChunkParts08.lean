import Derived.Test.YtlclecehlekjoaaProg
import Derived.Test.YtlclecehlekjoaaPxChunkParts07
set_option linter.unusedVariables false
set_option linter.unnecessarySimpa false
set_option linter.unusedSimpArgs false
set_option maxRecDepth 10000
namespace Go.Proofs.Ytlclecehlekjoaa.PvGE
open Go Go.Pv Go.IntKind
def Z09.l0 (a0_c0:List Int) (a1:Int) (x2579:Int) (x2580:Int) (x2581:Int) (x2582:Int):Option (Int×Int×Int):=if(decide (x2582<(if(if(64:Int)<a1 then(64:Int) else a1)>(0:Int) then(if(64:Int)<a1 then(64:Int) else a1) else(0:Int))))=true then((Z0b.f a0_c0 x2579 x2580)>>=fun t2586=>((if t2586.1=true then(some (u64.wrap (((BitVec.toNat (BitVec.ofInt 64 (u64.wrap (x2581*2)) ||| BitVec.ofInt 64 (1:Int)):Nat):Int)))) else(some (u64.wrap (x2581*2)))):Option (Int))>>=fun x2589=>Z09.l0 a0_c0 a1 t2586.2.1 t2586.2.2 x2589 (i64.wrap (x2582+(1:Int)))) else(some (x2579,x2580,x2581))
partial_fixpoint
def Z09.f (a0_c0:List Int) (a0_c1:Int) (a0_c2:Int) (a1:Int):Option (Int×Int×Int):=(Z09.l0 a0_c0 a1 a0_c1 a0_c2 0 0)>>=fun oo=>match oo with | (x2590,x2591,x2592)=>(if(x2591 != (0:Int))=true then(some (0,x2590,x2591)) else(some (x2592,x2590,x2591)))
theorem Z09.ok (a0_c0:List Int) (a0_c1:Int) (a0_c2:Int) (a1:Int) (r:Int×Int×Int) (H:Z09.f a0_c0 a0_c1 a0_c2 a1=some r):Pv.Fn Try.prog 25 [.ptr 0 0 0,iV .i64 a1] [(0,some (.box 94 (Z3 ⟨a0_c0,a0_c1,a0_c2⟩)))] 1 (fun x o=>x=iV .u64 r.1∧o=[(0,some (.box 94 (Z3 ⟨a0_c0,r.2.1,r.2.2⟩)))]):=by
 unfold Z09.f at H
 refine Fn.bodyK [0] Try.func25 rfl rfl (fun Γ hP hn => ?_)
 have hm:Try.prog.follows .mixedOrders=true:=by kernel_rfl
 replace hn:Γ.n=24:=hn
 refine sO hP hn hm [] [] [0,1] [] [0] ?_
 refine sO hP hn hm [] [(5,iV .u64 0)] [0,1,5] [] [0] ?_
 refine AWp.seq ?_
 refine sO hP hn hm [(1,.more xMin),(2,.more xMax)] [(8,iV .i64 (if(if(64:Int)<a1 then(64:Int) else a1)>(0:Int) then(if(64:Int)<a1 then(64:Int) else a1) else(0:Int))),(9,iV .i64 0)] [0,5,8,9] [] [0] ?_
 refine AWp.block ?_
 obtain⟨o2594,e2595,H⟩:=Z4 H
 refine AWp.loop (LWp.conv (inv:=[(0,0)]) (vk:=[]) (e0:=[]) (t:=⟨[(0,.ptr 0 0 0),(5,iV .u64 0),(8,iV .i64 (if(if(64:Int)<a1 then(64:Int) else a1)>(0:Int) then(if(64:Int)<a1 then(64:Int) else a1) else(0:Int))),(9,iV .i64 0)],[(0,some (.box 94 (Z3 ⟨a0_c0,a0_c1,a0_c2⟩)))],1⟩) (by kernel_rfl) ?_)
 refine LWp.mono (Q:=fun e s=>(match (generalizing:=false) o2594 with | (x2590,x2591,x2592)=>e = .exit 0∧s=⟨[(0,.ptr 0 0 0),(5,iV .u64 x2592)],[(0,some (.box 94 (Z3 ⟨a0_c0,x2590,x2591⟩)))],1⟩)) (LWp.cv (Zt (fun body hbody => ?_))) ?_
 ·refine                   Z09.l0.partial_correctness a0_c0 a1 (motive:=fun x2579 x2580 x2581 x2582 o2594=>LWp Γ body (fun e s=>∃ t,Cv Γ s t∧(match (generalizing:=false) o2594 with | (x2590,x2591,x2592)=>e = .exit 0∧t=⟨[(0,.ptr 0 0 0),(5,iV .u64 x2592)],[(0,some (.box 94 (Z3           ⟨a0_c0,x2590,x2591⟩)))],1⟩)) ⟨[(0,.ptr 0 0 0),(5,iV .u64 x2581),(8,iV .i64 (if(if(64:Int)<a1 then(64:Int) else a1)>(0:Int) then(if(64:Int)<a1 then(64:Int) else a1) else(0:Int))),(9,iV .i64 x2582)],[(0,some (.box 94 (Z3           ⟨a0_c0,x2579,x2580⟩)))],1⟩) ?_ _ _ _ _ _ e2595
  clear H e2595 o2594;intro self ih x2579 x2580 x2581 x2582 o2594 H
  subst hbody
  refine LWp.round ?_
  refine sO hP hn hm [] [(10,bV (decide (x2582<(if(if(64:Int)<a1 then(64:Int) else a1)>(0:Int) then(if(64:Int)<a1 then(64:Int) else a1) else(0:Int)))))] [0,5,8,9,10] [] [0] ?_
  refine AWp.seq ?_
  refine AWp.cond (decide (x2582<(if(if(64:Int)<a1 then(64:Int) else a1)>(0:Int) then(if(64:Int)<a1 then(64:Int) else a1) else(0:Int)))) (by kernel_rfl) (fun c2583 => ?_) (fun c2583 => ?_)
  ·replace H:=iT c2583 H
   refine AWp.skip ?_
   refine AWp.seq ?_
   refine AWp.block ?_
   refine sR hP hn hm [] [(5,iV .u64 (u64.wrap (x2581*2)))] [0,5,8,9] [] [0] [(0:Int)≤1] ⟨by decide,trivial⟩ ?_
   obtain⟨t2586,e2587,H⟩:=Z4 H
   refine sR hP hn hm [(1,.call [(0,0)] [(0,0)] [] [] 1 (bV t2586.1) [(0,some (.box 94 (Z3 ⟨a0_c0,t2586.2.1,t2586.2.2⟩)))])] [(14,bV t2586.1)] [0,5,8,9,14] [(0,some (.box 94 (Z3 ⟨a0_c0,t2586.2.1,t2586.2.2⟩)))] [0] [_,_] ⟨Try.call24,Z0b.ok a0_c0 x2579 x2580 t2586 e2587,trivial⟩ ?_
   obtain⟨o2596,e2597,H⟩:=Z4 H
   refine AWp.mono (Q:=fun e s=>(match (generalizing:=false) o2596 with | x2589=>e = .normal∧s=⟨[(0,.ptr 0 0 0),(5,iV .u64 x2589),(8,iV .i64 (if(if(64:Int)<a1 then(64:Int) else a1)>(0:Int) then(if(64:Int)<a1 then(64:Int) else a1) else(0:Int))),(9,iV .i64 x2582)],[(0,some (.box 94 (Z3 ⟨a0_c0,t2586.2.1,t2586.2.2⟩)))],1⟩)) (AWp.cv ?_) ?_
   ·replace H:=e2597;clear e2597
    refine AWp.cond t2586.1 (by kernel_rfl) (fun c2588 => ?_) (fun c2588 => ?_)
    ·replace H:=iT c2588 H
     refine rO hP hn hm [] [(5,iV .u64 (u64.wrap (((BitVec.toNat (BitVec.ofInt 64 (u64.wrap (x2581*2)) ||| BitVec.ofInt 64 (1:Int)):Nat):Int))))] [0,5,8,9] [] [0] ?_
     obtain rfl:=sj H
     exact lf [(0,0)] [] [] (by kernel_rfl) ⟨rfl,rfl⟩
    ·replace H:=iF c2588 H
     refine AWp.skip ?_
     obtain rfl:=sj H
     exact lf [(0,0)] [] [] (by kernel_rfl) ⟨rfl,rfl⟩
   ·obtain⟨x2589,rfl⟩:∃ z,z=o2596:=⟨_,rfl⟩
    rintro e s ⟨rfl,rfl⟩
    refine rO hP hn hm [] [(9,iV .i64 (i64.wrap (x2582+(1:Int))))] [0,5,8,9] [] [0] ?_
    exact LWp.conv [(0,0)] [] [] (by kernel_rfl) (ih _ _ _ _ _ H)
  ·replace H:=iF c2583 H
   refine AWp.exit ?_
   obtain rfl:=sj H
   exact lf [(0,0)] [] [] (by kernel_rfl) ⟨rfl,rfl⟩
 ·obtain⟨x2590,x2591,x2592⟩:=o2594
  rintro e s ⟨rfl,rfl⟩
  refine AWp.seq ?_
  refine sO hP hn hm [] [(22,bV (x2591 != (0:Int)))] [5,22] [] [0] ?_
  refine AWp.cond (x2591 != (0:Int)) (by kernel_rfl) (fun c2593 => ?_) (fun c2593 => ?_)
  ·replace H:=iT c2593 H
   refine sO hP hn hm [] [(4,iV .u64 0)] [4] [] [0] ?_
   refine AWp.conv (inv:=[(0,0)]) (vk:=[]) (e0:=[]) (t:=⟨[(4,iV .u64 0)],[(0,some (.box 94 (Z3 ⟨a0_c0,x2590,x2591⟩)))],1⟩) (by kernel_rfl) ?_
   refine AWp.ret ?_
   obtain rfl:=sj H
   exact rl (.inl rfl) rfl (by kernel_rfl) (by kernel_rfl)
  ·replace H:=iF c2593 H
   refine AWp.skip ?_
   refine sO hP hn hm [] [(4,iV .u64 x2592)] [4] [] [0] ?_
   refine AWp.conv (inv:=[(0,0)]) (vk:=[]) (e0:=[]) (t:=⟨[(4,iV .u64 x2592)],[(0,some (.box 94 (Z3 ⟨a0_c0,x2590,x2591⟩)))],1⟩) (by kernel_rfl) ?_
   refine AWp.ret ?_
   obtain rfl:=sj H
   exact rl (.inl rfl) rfl (by kernel_rfl) (by kernel_rfl)
def Zr.l0 (a0_c0:List Int) (t2604:List Int) (x2616:Int) (x2617:Int) (x2618:Int):Option (Int×Int×Int):=((if(decide (x2618<(i64.wrap ((t2604.length:Int)-(1:Int)))))=true then((Z0b.f a0_c0 x2616 x2617)>>=fun t2623=>some (t2623.2.1,t2623.2.2,t2623.1)) else(some (x2616,x2617,false))):Option (Int×Int×Bool))>>=fun oo=>match oo with | (x2625,x2626,x2627)=>(if x2627=true then(Zr.l0 a0_c0 t2604 x2625 x2626 (i64.wrap (x2618+(1:Int)))) else(some (x2625,x2626,x2618)))
partial_fixpoint
def Zr.f (a0_c0:List Int) (a0_c1:Int) (a0_c2:Int):Option (Int×Int×Int):=(Z28.f)>>=fun t2604=>(Zr.l0 a0_c0 t2604 a0_c1 a0_c2 0)>>=fun oo=>match oo with | (x2629,x2630,x2631)=>((at? t2604 x2631)>>=fun b2637=>(Z09.f a0_c0 x2629 x2630 b2637)>>=fun t2640=>((if(decide (x2631>(0:Int)))=true then((Z1y.f t2640.1)>>=fun t2649=>(at? t2604 (i64.wrap (x2631-(1:Int))))>>=fun b2651=>some (decide (t2649≤b2651))) else(some false)):Option (Bool))>>=fun x2654=>((if x2654=true then((Zs.f a0_c0 t2640.2.1 t2640.2.2 6)>>=fun t2658=>some t2658) else(some t2640.2.2)):Option (Int))>>=fun x2660=>if(x2660 != (0:Int))=true then(some (0,t2640.2.1,x2660)) else(some (t2640.1,t2640.2.1,x2660)))
theorem Zr.ok (a0_c0:List Int) (a0_c1:Int) (a0_c2:Int) (r:Int×Int×Int) (H:Zr.f a0_c0 a0_c1 a0_c2=some r):Pv.Fn Try.prog 49 [.ptr 0 0 0] [(0,some (.box 94 (Z3 ⟨a0_c0,a0_c1,a0_c2⟩)))] 1 (fun x o=>x=iV .u64 r.1∧o=[(0,some (.box 94 (Z3 ⟨a0_c0,r.2.1,r.2.2⟩)))]):=by
 unfold Zr.f at H
 refine Fn.bodyK [0] Try.func49 rfl rfl (fun Γ hP hn => ?_)
 have hm:Try.prog.follows .mixedOrders=true:=by kernel_rfl
 replace hn:Γ.n=44:=hn
 refine sO hP hn hm [] [] [0] [] [0] ?_
 obtain⟨t2604,e2605,H⟩:=Z4 H
 refine sR hP hn hm [(0,.call [] [(0,1)] [] [1] 0 (.own 0) [(0,some (.row 1 3 (t2604.map (Z1 .i64))))])] [(3,.own 1)] [0,3] [(1,some (.row 1 3 (t2604.map (Z1 .i64))))] [0,1] [_,_] ⟨Try.call42,Z28.ok  t2604 e2605,trivial⟩ ?_
 refine sO hP hn hm [] [(4,iV .i64 0)] [0,3,4] [] [0,1] ?_
 refine AWp.seq ?_
 refine AWp.block ?_
 obtain⟨o2662,e2663,H⟩:=Z4 H
 refine AWp.loop (LWp.conv (inv:=[(0,0),(1,3)]) (vk:=[]) (e0:=[]) (t:=⟨[(0,.ptr 0 0 0),(3,.own 3),(4,iV .i64 0)],[(0,some (.box 94 (Z3 ⟨a0_c0,a0_c1,a0_c2⟩))),(3,some (.row 1 3 (t2604.map (Z1 .i64))))],1⟩) (by kernel_rfl) ?_)
 refine LWp.mono (Q:=fun e s=>(match (generalizing:=false) o2662 with | (x2629,x2630,x2631)=>e = .exit 0∧s=⟨[(0,.ptr 0 0 0),(3,.own 5),(4,iV .i64 x2631)],[(0,some (.box 94 (Z3 ⟨a0_c0,x2629,x2630⟩))),(5,some (.row 1 3 (t2604.map (Z1 .i64))))],1⟩)) (LWp.cv (Zt (fun body hbody => ?_))) ?_
 ·refine                      Zr.l0.partial_correctness a0_c0 t2604 (motive:=fun x2616 x2617 x2618 o2662=>LWp Γ body (fun e s=>∃ t,Cv Γ s t∧(match (generalizing:=false) o2662 with | (x2629,x2630,x2631)=>e = .exit 0∧t=⟨[(0,.ptr 0 0 0),(3,.own 5),(4,iV .i64 x2631)],[(0,some (.box 94 (Z3           ⟨a0_c0,x2629,x2630⟩))),(5,some (.row 1 3 (t2604.map (Z1     .i64))))],1⟩)) ⟨[(0,.ptr 0 0 0),(3,.own 3),(4,iV .i64 x2618)],[(0,some (.box 94 (Z3           ⟨a0_c0,x2616,x2617⟩))),(3,some (.row 1 3 (t2604.map (Z1     .i64))))],1⟩) ?_ _ _ _ _ e2663
  clear H e2663 o2662;intro self ih x2616 x2617 x2618 o2662 H
  subst hbody
  refine LWp.round ?_
  refine AWp.seq ?_
  refine AWp.seq ?_
  obtain⟨o2664,e2665,H⟩:=Z4 H
  refine AWp.mono (Q:=fun e s=>(match (generalizing:=false) o2664 with | (x2625,x2626,x2627)=>e = .normal∧s=⟨[(0,.ptr 0 0 0),(3,.own 4),(4,iV .i64 x2618),(15,bV x2627)],[(0,some (.box 94 (Z3 ⟨a0_c0,x2625,x2626⟩))),(4,some (.row 1 3 (t2604.map (Z1 .i64))))],1⟩)) (AWp.cv ?_) ?_
  ·replace H:=e2665;clear e2665
   rcases Bool.eq_false_or_eq_true (decide (x2618<(i64.wrap ((t2604.length:Int)-(1:Int))))) with c2622 | c2622
   ·replace H:=iT c2622 H
    obtain⟨t2623,e2624,H⟩:=Z4 H
    refine rG hP hn hm [(2,.any (iV .i64 (t2604.length:Int))),(5,.b true),(7,.call [(0,0)] [(0,0)] [] [] 1 (bV t2623.1) [(0,some (.box 94 (Z3 ⟨a0_c0,t2623.2.1,t2623.2.2⟩)))])] [(13,.ptr 0 0 0),(14,bV t2623.1),(15,bV t2623.1)] [0,3,4,13,14,15] [(0,some (.box 94 (Z3 ⟨a0_c0,t2623.2.1,t2623.2.2⟩)))] [0,3] [((t2604.map (Z1 .i64)).length:Int)=(t2604.length:Int),_,_,_] ⟨by rw[Zi],c2622,Try.call24,Z0b.ok a0_c0 x2616 x2617 t2623 e2624,trivial⟩ ?_
    obtain rfl:=sj H
    exact lf [(0,0),(3,4)] [] [] (by kernel_rfl) ⟨rfl,rfl⟩
   ·replace H:=iF c2622 H
    refine rG hP hn hm [(2,.any (iV .i64 (t2604.length:Int))),(5,.b false)] [(15,bV false)] [0,3,4,15] [] [0,3] [((t2604.map (Z1 .i64)).length:Int)=(t2604.length:Int),_] ⟨by rw[Zi],c2622,trivial⟩ ?_
    obtain rfl:=sj H
    exact lf [(0,0),(3,4)] [] [] (by kernel_rfl) ⟨rfl,rfl⟩
  ·obtain⟨x2625,x2626,x2627⟩:=o2664
   rintro e s ⟨rfl,rfl⟩
   refine AWp.cond x2627 (by kernel_rfl) (fun c2628 => ?_) (fun c2628 => ?_)
   ·replace H:=iT c2628 H
    refine AWp.skip ?_
    refine AWp.block ?_
    refine rO hP hn hm [] [(4,iV .i64 (i64.wrap (x2618+(1:Int))))] [0,3,4] [] [0,4] ?_
    exact LWp.conv [(0,0),(4,3)] [] [] (by kernel_rfl) (ih _ _ _ _ H)
   ·replace H:=iF c2628 H
    refine AWp.exit ?_
    obtain rfl:=sj H
    exact lf [(0,0),(4,5)] [] [] (by kernel_rfl) ⟨rfl,rfl⟩
 ·obtain⟨x2629,x2630,x2631⟩:=o2662
  rintro e s ⟨rfl,rfl⟩
  obtain⟨b2637,p2638,q2639,H⟩:=Z0d H
  obtain⟨t2640,e2641,H⟩:=Z4 H
  refine sR hP hn hm [(4,.c ((Z1 .i64) b2637)),(5,.call [(0,0)] [(0,0)] [] [] 1 (iV .u64 t2640.1) [(0,some (.box 94 (Z3 ⟨a0_c0,t2640.2.1,t2640.2.2⟩)))])] [(5,iV .u64 t2640.1)] [0,3,4,5] [(0,some (.box 94 (Z3 ⟨a0_c0,t2640.2.1,t2640.2.2⟩)))] [0,5] [_,_,_,_,_] ⟨p2638,Z1g (Z1 .i64) p2638 q2639,Zk (Z1 .i64) q2639,Try.call25,Z09.ok a0_c0 x2629 x2630 b2637 t2640 e2641,trivial⟩ ?_
  refine AWp.seq ?_
  refine AWp.seq ?_
  obtain⟨o2666,e2667,H⟩:=Z4 H
  refine AWp.mono (Q:=fun e s=>(match (generalizing:=false) o2666 with | x2654=>e = .normal∧s=⟨[(0,.ptr 0 0 0),(5,iV .u64 t2640.1),(35,bV x2654)],[(0,some (.box 94 (Z3 ⟨a0_c0,t2640.2.1,t2640.2.2⟩)))],1⟩)) (AWp.cv ?_) ?_
  ·replace H:=e2667;clear e2667
   rcases Bool.eq_false_or_eq_true (decide (x2631>(0:Int))) with c2648 | c2648
   ·replace H:=iT c2648 H
    obtain⟨t2649,e2650,H⟩:=Z4 H
    obtain⟨b2651,p2652,q2653,H⟩:=Z0d H
    refine rG hP hn hm [(2,.b true),(4,.call [] [] [] [] 0 (iV .i64 t2649) []),(9,.c ((Z1 .i64) b2651))] [(35,bV (decide (t2649≤b2651)))] [0,5,35] [] [0] [_,_,_,_,_,_] ⟨c2648,Try.call44,Z1y.ok t2640.1 t2649 e2650,p2652,Z1g (Z1 .i64) p2652 q2653,Zk (Z1 .i64) q2653,trivial⟩ ?_
    obtain rfl:=sj H
    exact lf [(0,0)] [] [] (by kernel_rfl) ⟨rfl,rfl⟩
   ·replace H:=iF c2648 H
    refine rG hP hn hm [(2,.b false)] [(35,bV false)] [0,5,35] [] [0] [_] ⟨c2648,trivial⟩ ?_
    obtain rfl:=sj H
    exact lf [(0,0)] [] [] (by kernel_rfl) ⟨rfl,rfl⟩
  ·obtain⟨x2654,rfl⟩:∃ z,z=o2666:=⟨_,rfl⟩
   rintro e s ⟨rfl,rfl⟩
   obtain⟨o2668,e2669,H⟩:=Z4 H
   refine AWp.mono (Q:=fun e s=>(match (generalizing:=false) o2668 with | x2660=>e = .normal∧s=⟨[(0,.ptr 0 0 0),(5,iV .u64 t2640.1)],[(0,some (.box 94 (Z3 ⟨a0_c0,t2640.2.1,x2660⟩)))],1⟩)) (AWp.cv ?_) ?_
   ·replace H:=e2669;clear e2669
    refine AWp.cond x2654 (by kernel_rfl) (fun c2655 => ?_) (fun c2655 => ?_)
    ·replace H:=iT c2655 H
     obtain⟨t2658,e2659,H⟩:=Z4 H
     refine rG hP hn hm [(1,.call [(0,0)] [(0,0)] [] [] 1 (.tup []) [(0,some (.box 94 (Z3 ⟨a0_c0,t2640.2.1,t2658⟩)))])] [] [0,5] [(0,some (.box 94 (Z3 ⟨a0_c0,t2640.2.1,t2658⟩)))] [0] [_,_] ⟨Try.call47,Zs.ok a0_c0 t2640.2.1 t2640.2.2 6 t2658 e2659,trivial⟩ ?_
     obtain rfl:=sj H
     exact lf [(0,0)] [] [] (by kernel_rfl) ⟨rfl,rfl⟩
    ·replace H:=iF c2655 H
     refine AWp.skip ?_
     obtain rfl:=sj H
     exact lf [(0,0)] [] [] (by kernel_rfl) ⟨rfl,rfl⟩
   ·obtain⟨x2660,rfl⟩:∃ z,z=o2668:=⟨_,rfl⟩
    rintro e s ⟨rfl,rfl⟩
    refine AWp.seq ?_
    refine sO hP hn hm [] [(42,bV (x2660 != (0:Int)))] [5,42] [] [0] ?_
    refine AWp.cond (x2660 != (0:Int)) (by kernel_rfl) (fun c2661 => ?_) (fun c2661 => ?_)
    ·replace H:=iT c2661 H
     refine sO hP hn hm [] [(2,iV .u64 0)] [2] [] [0] ?_
     refine AWp.conv (inv:=[(0,0)]) (vk:=[]) (e0:=[]) (t:=⟨[(2,iV .u64 0)],[(0,some (.box 94 (Z3 ⟨a0_c0,t2640.2.1,x2660⟩)))],1⟩) (by kernel_rfl) ?_
     refine AWp.ret ?_
     obtain rfl:=sj H
     exact rl (.inl rfl) rfl (by kernel_rfl) (by kernel_rfl)
    ·replace H:=iF c2661 H
     refine AWp.skip ?_
     refine sO hP hn hm [] [(2,iV .u64 t2640.1)] [2] [] [0] ?_
     refine AWp.conv (inv:=[(0,0)]) (vk:=[]) (e0:=[]) (t:=⟨[(2,iV .u64 t2640.1)],[(0,some (.box 94 (Z3 ⟨a0_c0,t2640.2.1,x2660⟩)))],1⟩) (by kernel_rfl) ?_
     refine AWp.ret ?_
     obtain rfl:=sj H
     exact rl (.inl rfl) rfl (by kernel_rfl) (by kernel_rfl)
def Z4h.f (a0:Int):Option (Unit):=some ()
theorem Z4h.ok (a0:Int) (r:Unit) (H:Z4h.f a0=some r):Pv.Fn Try.prog 48 [iV .u64 a0] [] 0 (fun x o=>x=iV .i64 (i64.wrap (((BitVec.toNat (BitVec.ofInt 64 (i64.wrap (Int.fdiv a0 2)) ^^^ BitVec.ofInt 64 (i64.wrap (0-(i64.wrap (u64.wrap (((BitVec.toNat (BitVec.ofInt 64 a0 &&& BitVec.ofInt 64 (1:Int)):Nat):Int))))))):Nat):Int)))∧o=[]):=by
 unfold Z4h.f at H
 refine Fn.bodyK [] Try.func48 rfl rfl (fun Γ hP hn => ?_)
 have hm:Try.prog.follows .mixedOrders=true:=by kernel_rfl
 replace hn:Γ.n=11:=hn
 refine sO hP hn hm [] [] [0] [] [] ?_
 refine sR hP hn hm [] [(2,iV .i64 (i64.wrap (((BitVec.toNat (BitVec.ofInt 64 (i64.wrap (Int.fdiv a0 2)) ^^^ BitVec.ofInt 64 (i64.wrap (0-(i64.wrap (u64.wrap (((BitVec.toNat (BitVec.ofInt 64 a0 &&& BitVec.ofInt 64 (1:Int)):Nat):Int))))))):Nat):Int))))] [2] [] [] [(0:Int)≤1] ⟨by decide,trivial⟩ ?_
 refine AWp.conv (inv:=[]) (vk:=[]) (e0:=[]) (t:=⟨[(2,iV .i64 (i64.wrap (((BitVec.toNat (BitVec.ofInt 64 (i64.wrap (Int.fdiv a0 2)) ^^^ BitVec.ofInt 64 (i64.wrap (0-(i64.wrap (u64.wrap (((BitVec.toNat (BitVec.ofInt 64 a0 &&& BitVec.ofInt 64 (1:Int)):Nat):Int))))))):Nat):Int))))],[],0⟩) (by kernel_rfl) ?_
 refine AWp.ret ?_
 obtain rfl:=sj H
 exact rl (.inl rfl) rfl (by kernel_rfl) (by kernel_rfl)
def Zy.f (a0_c0:List Int) (a0_c1:Int) (a0_c2:Int):Option (Int×Int×Int):=(Zr.f a0_c0 a0_c1 a0_c2)>>=fun t2674=>(Z4h.f t2674.1)>>=fun t2676=>some (i64.wrap (((BitVec.toNat (BitVec.ofInt 64 (i64.wrap (Int.fdiv t2674.1 2)) ^^^ BitVec.ofInt 64 (i64.wrap (0-(i64.wrap (u64.wrap (((BitVec.toNat (BitVec.ofInt 64 t2674.1 &&& BitVec.ofInt 64 (1:Int)):Nat):Int))))))):Nat):Int)),t2674.2.1,t2674.2.2)
theorem Zy.ok (a0_c0:List Int) (a0_c1:Int) (a0_c2:Int) (r:Int×Int×Int) (H:Zy.f a0_c0 a0_c1 a0_c2=some r):Pv.Fn Try.prog 26 [.ptr 0 0 0] [(0,some (.box 94 (Z3 ⟨a0_c0,a0_c1,a0_c2⟩)))] 1 (fun x o=>x=iV .i64 r.1∧o=[(0,some (.box 94 (Z3 ⟨a0_c0,r.2.1,r.2.2⟩)))]):=by
 unfold Zy.f at H
 refine Fn.bodyK [0] Try.func26 rfl rfl (fun Γ hP hn => ?_)
 have hm:Try.prog.follows .mixedOrders=true:=by kernel_rfl
 replace hn:Γ.n=6:=hn
 refine sO hP hn hm [] [] [0] [] [0] ?_
 obtain⟨t2674,e2675,H⟩:=Z4 H
 obtain⟨t2676,e2677,H⟩:=Z4 H
 refine sR hP hn hm [(1,.call [(0,0)] [(0,0)] [] [] 1 (iV .u64 t2674.1) [(0,some (.box 94 (Z3 ⟨a0_c0,t2674.2.1,t2674.2.2⟩)))]),(2,.call [] [] [] [] 0 (iV .i64 (i64.wrap (((BitVec.toNat (BitVec.ofInt 64 (i64.wrap (Int.fdiv t2674.1 2)) ^^^ BitVec.ofInt 64 (i64.wrap (0-(i64.wrap (u64.wrap (((BitVec.toNat (BitVec.ofInt 64 t2674.1 &&& BitVec.ofInt 64 (1:Int)):Nat):Int))))))):Nat):Int)))) [])] [(2,iV .i64 (i64.wrap (((BitVec.toNat (BitVec.ofInt 64 (i64.wrap (Int.fdiv t2674.1 2)) ^^^ BitVec.ofInt 64 (i64.wrap (0-(i64.wrap (u64.wrap (((BitVec.toNat (BitVec.ofInt 64 t2674.1 &&& BitVec.ofInt 64 (1:Int)):Nat):Int))))))):Nat):Int))))] [2] [(0,some (.box 94 (Z3 ⟨a0_c0,t2674.2.1,t2674.2.2⟩)))] [0] [_,_,_,_] ⟨Try.call49,Zr.ok a0_c0 a0_c1 a0_c2 t2674 e2675,Try.call48,Z4h.ok t2674.1 t2676 e2677,trivial⟩ ?_
 refine AWp.conv (inv:=[(0,0)]) (vk:=[]) (e0:=[]) (t:=⟨[(2,iV .i64 (i64.wrap (((BitVec.toNat (BitVec.ofInt 64 (i64.wrap (Int.fdiv t2674.1 2)) ^^^ BitVec.ofInt 64 (i64.wrap (0-(i64.wrap (u64.wrap (((BitVec.toNat (BitVec.ofInt 64 t2674.1 &&& BitVec.ofInt 64 (1:Int)):Nat):Int))))))):Nat):Int))))],[(0,some (.box 94 (Z3 ⟨a0_c0,t2674.2.1,t2674.2.2⟩)))],1⟩) (by kernel_rfl) ?_
 refine AWp.ret ?_
 obtain rfl:=sj H
 exact rl (.inl rfl) rfl (by kernel_rfl) (by kernel_rfl)
def Zm.f (a0_c0:List Int) (a0_c1:Int) (a0_c2:Int) (a1:Int):Option (Int×Int×Int):=(Zr.f a0_c0 a0_c1 a0_c2)>>=fun t2688=>((if(decide (a1<(0:Int)))=true then(some true) else(some (decide (t2688.1>(u64.wrap (a1)))))):Option (Bool))>>=fun x2692=>if x2692=true then((Zs.f a0_c0 t2688.2.1 t2688.2.2 9)>>=fun t2696=>some (0,t2688.2.1,t2696)) else(some (i64.wrap (t2688.1),t2688.2.1,t2688.2.2))
theorem Zm.ok (a0_c0:List Int) (a0_c1:Int) (a0_c2:Int) (a1:Int) (r:Int×Int×Int) (H:Zm.f a0_c0 a0_c1 a0_c2 a1=some r):Pv.Fn Try.prog 50 [.ptr 0 0 0,iV .i64 a1] [(0,some (.box 94 (Z3 ⟨a0_c0,a0_c1,a0_c2⟩)))] 1 (fun x o=>x=iV .i64 r.1∧o=[(0,some (.box 94 (Z3 ⟨a0_c0,r.2.1,r.2.2⟩)))]):=by
 unfold Zm.f at H
 refine Fn.bodyK [0] Try.func50 rfl rfl (fun Γ hP hn => ?_)
 have hm:Try.prog.follows .mixedOrders=true:=by kernel_rfl
 replace hn:Γ.n=20:=hn
 refine sO hP hn hm [] [] [0,1] [] [0] ?_
 obtain⟨t2688,e2689,H⟩:=Z4 H
 refine sR hP hn hm [(1,.call [(0,0)] [(0,0)] [] [] 1 (iV .u64 t2688.1) [(0,some (.box 94 (Z3 ⟨a0_c0,t2688.2.1,t2688.2.2⟩)))])] [(5,iV .u64 t2688.1)] [0,1,5] [(0,some (.box 94 (Z3 ⟨a0_c0,t2688.2.1,t2688.2.2⟩)))] [0] [_,_] ⟨Try.call49,Zr.ok a0_c0 a0_c1 a0_c2 t2688 e2689,trivial⟩ ?_
 refine AWp.seq ?_
 refine AWp.seq ?_
 obtain⟨o2698,e2699,H⟩:=Z4 H
 refine AWp.mono (Q:=fun e s=>(match (generalizing:=false) o2698 with | x2692=>e = .normal∧s=⟨[(0,.ptr 0 0 0),(5,iV .u64 t2688.1),(15,bV x2692)],[(0,some (.box 94 (Z3 ⟨a0_c0,t2688.2.1,t2688.2.2⟩)))],1⟩)) (AWp.cv ?_) ?_
 ·replace H:=e2699;clear e2699
  rcases Bool.eq_false_or_eq_true (decide (a1<(0:Int))) with c2691 | c2691
  ·replace H:=iT c2691 H
   refine rG hP hn hm [(2,.b true)] [(15,bV true)] [0,5,15] [] [0] [_] ⟨c2691,trivial⟩ ?_
   obtain rfl:=sj H
   exact lf [(0,0)] [] [] (by kernel_rfl) ⟨rfl,rfl⟩
  ·replace H:=iF c2691 H
   refine rG hP hn hm [(2,.b false)] [(15,bV (decide (t2688.1>(u64.wrap (a1)))))] [0,5,15] [] [0] [_] ⟨c2691,trivial⟩ ?_
   obtain rfl:=sj H
   exact lf [(0,0)] [] [] (by kernel_rfl) ⟨rfl,rfl⟩
 ·obtain⟨x2692,rfl⟩:∃ z,z=o2698:=⟨_,rfl⟩
  rintro e s ⟨rfl,rfl⟩
  refine AWp.cond x2692 (by kernel_rfl) (fun c2693 => ?_) (fun c2693 => ?_)
  ·replace H:=iT c2693 H
   obtain⟨t2696,e2697,H⟩:=Z4 H
   refine sR hP hn hm [(1,.call [(0,0)] [(0,0)] [] [] 1 (.tup []) [(0,some (.box 94 (Z3 ⟨a0_c0,t2688.2.1,t2696⟩)))])] [] [] [(0,some (.box 94 (Z3 ⟨a0_c0,t2688.2.1,t2696⟩)))] [0] [_,_] ⟨Try.call47,Zs.ok a0_c0 t2688.2.1 t2688.2.2 9 t2696 e2697,trivial⟩ ?_
   refine sO hP hn hm [] [(4,iV .i64 0)] [4] [] [0] ?_
   refine AWp.conv (inv:=[(0,0)]) (vk:=[]) (e0:=[]) (t:=⟨[(4,iV .i64 0)],[(0,some (.box 94 (Z3 ⟨a0_c0,t2688.2.1,t2696⟩)))],1⟩) (by kernel_rfl) ?_
   refine AWp.ret ?_
   obtain rfl:=sj H
   exact rl (.inl rfl) rfl (by kernel_rfl) (by kernel_rfl)
  ·replace H:=iF c2693 H
   refine AWp.skip ?_
   refine sO hP hn hm [] [(4,iV .i64 (i64.wrap (t2688.1)))] [4] [] [0] ?_
   refine AWp.conv (inv:=[(0,0)]) (vk:=[]) (e0:=[]) (t:=⟨[(4,iV .i64 (i64.wrap (t2688.1)))],[(0,some (.box 94 (Z3 ⟨a0_c0,t2688.2.1,t2688.2.2⟩)))],1⟩) (by kernel_rfl) ?_
   refine AWp.ret ?_
   obtain rfl:=sj H
   exact rl (.inl rfl) rfl (by kernel_rfl) (by kernel_rfl)
def Z0a.f (a0_c0:List Int) (a0_c1:Int) (a0_c2:Int):Option (Unit):=some ()
theorem Z0a.ok (a0_c0:List Int) (a0_c1:Int) (a0_c2:Int) (r:Unit) (H:Z0a.f a0_c0 a0_c1 a0_c2=some r):Pv.Fn Try.prog 51 [.ptr 0 0 0] [(0,some (.box 94 (Z3 ⟨a0_c0,a0_c1,a0_c2⟩)))] 1 (fun x o=>x=iV .i64 a0_c2∧o=[(0,some (.box 94 (Z3 ⟨a0_c0,a0_c1,a0_c2⟩)))]):=by
 unfold Z0a.f at H
 refine Fn.bodyK [0] Try.func51 rfl rfl (fun Γ hP hn => ?_)
 have hm:Try.prog.follows .mixedOrders=true:=by kernel_rfl
 replace hn:Γ.n=7:=hn
 refine sO hP hn hm [] [] [0] [] [0] ?_
 refine sO hP hn hm [] [(2,iV .i64 a0_c2)] [2] [] [0] ?_
 refine AWp.conv (inv:=[(0,0)]) (vk:=[]) (e0:=[]) (t:=⟨[(2,iV .i64 a0_c2)],[(0,some (.box 94 (Z3 ⟨a0_c0,a0_c1,a0_c2⟩)))],1⟩) (by kernel_rfl) ?_
 refine AWp.ret ?_
 obtain rfl:=sj H
 exact rl (.inl rfl) rfl (by kernel_rfl) (by kernel_rfl)
def Z23.l0 (a0:Zb) (a1:Int) (x2784:Int) (x2785:Int):Option (Bool ⊕ Unit):=if(decide (x2785<(a0.f1.length:Int)))=true then((at? a0.f1 x2785)>>=fun b2790=>((if(decide (b2790.f1<(1:Int)))=true then(some true) else(if(decide (b2790.f1>(i64.wrap (a1-x2784))))=true then(some true) else(if(decide (b2790.f0<(0:Int)))=true then(some true) else(if(decide (b2790.f0>(524288:Int)))=true then(some true) else(some (!((x2785==(0:Int))==(b2790.f0==(0:Int))))))))):Option (Bool))>>=fun x2801=>if x2801=true then(some (.inl false)) else(Z23.l0 a0 a1 (i64.wrap (x2784+b2790.f1)) (i64.wrap (x2785+(1:Int))))) else(some (.inr ()))
partial_fixpoint
def Z23.f (a0:Zb) (a1:Int):Option (Bool):=if((a0.f1.length:Int)==(0:Int))=true then(some (a0.f0==(0:Int))) else((Z23.l0 a0 a1 0 0)>>=fun oo=>match oo with | .inl rr=>(some rr) | .inr _=>(((if(decide (a0.f0≥(-262144)))=true then(some (decide (a0.f0≤(262144:Int)))) else(some false)):Option (Bool))>>=fun x2805=>some x2805))
theorem Z23.ok (a0:Zb) (a1:Int) (r:Bool) (H:Z23.f a0 a1=some r):Pv.Fn Try.prog 52 [.agg (Za a0),iV .i64 a1] [] 0 (fun x o=>x=bV r∧o=[]):=by
 unfold Z23.f at H
 refine Fn.bodyK [] Try.func52 rfl rfl (fun Γ hP hn => ?_)
 have hm:Try.prog.follows .mixedOrders=true:=by kernel_rfl
 replace hn:Γ.n=65:=hn
 refine sO hP hn hm [(0,.k 0)] [(2,.ptr 0 0 0)] [1,2] [(0,some (.box 52 (Za a0)))] [0] ?_
 refine AWp.seq ?_
 refine sR hP hn hm [(2,.any (iV .i64 (a0.f1.length:Int)))] [(11,bV ((a0.f1.length:Int)==(0:Int)))] [1,2,11] [] [0] [((a0.f1.map Z00).length:Int)=(a0.f1.length:Int)] ⟨by rw[Zi],trivial⟩ ?_
 refine AWp.cond ((a0.f1.length:Int)==(0:Int)) (by kernel_rfl) (fun c2766 => ?_) (fun c2766 => ?_)
 ·replace H:=iT c2766 H
  refine sO hP hn hm [] [(4,bV (a0.f0==(0:Int)))] [4] [] [] ?_
  refine AWp.conv (inv:=[]) (vk:=[]) (e0:=[]) (t:=⟨[(4,bV (a0.f0==(0:Int)))],[],0⟩) (by kernel_rfl) ?_
  refine AWp.ret ?_
  obtain rfl:=sj H
  exact rl (.inl rfl) rfl (by kernel_rfl) (by kernel_rfl)
 ·replace H:=iF c2766 H
  refine AWp.skip ?_
  refine sO hP hn hm [] [(5,iV .i64 0)] [1,2,5] [] [0] ?_
  refine AWp.seq ?_
  refine sR hP hn hm [(2,.any (iV .i64 (a0.f1.length:Int)))] [(16,.im (.row (a0.f1.map Z00))),(17,iV .i64 (a0.f1.length:Int)),(18,iV .i64 0)] [1,2,5,16,17,18] [] [0] [((a0.f1.map Z00).length:Int)=(a0.f1.length:Int)] ⟨by rw[Zi],trivial⟩ ?_
  refine AWp.block ?_
  obtain⟨o2806,e2807,H⟩:=Z4 H
  refine AWp.loop (LWp.conv (inv:=[(0,4)]) (vk:=[]) (e0:=[]) (t:=⟨[(1,iV .i64 a1),(2,.ptr 4 0 0),(5,iV .i64 0),(16,.im (.row (a0.f1.map Z00))),(17,iV .i64 (a0.f1.length:Int)),(18,iV .i64 0)],[(4,some (.box 52 (Za a0)))],0⟩) (by kernel_rfl) ?_)
  refine LWp.mono (Q:=fun e s=>(match (generalizing:=false) o2806 with | .inl rr=>e = .ret∧s.floor=0∧Z2c Try.prog Try.f52 s=some (bV rr)∧([]:List (Nat×Option MObj))=[] | .inr _=>e = .exit 0∧s=⟨[(2,.ptr 8 0 0)],[(8,some (.box 52 (Za a0)))],0⟩)) (LWp.cv (Zt (fun body hbody => ?_))) ?_
  ·refine          Z23.l0.partial_correctness a0 a1 (motive:=fun x2784 x2785 o2806=>LWp Γ body (fun e s=>∃ t,Cv Γ s t∧(match (generalizing:=false) o2806 with | .inl rr=>e = .ret∧t.floor=0∧Z2c   Try.prog Try.f52 t=some (bV rr)∧([]:List (Nat×Option MObj))=[] | .inr _=>e = .exit 0∧t=⟨[(2,.ptr 8 0 0)],[(8,some (.box 52 (Za           a0)))],0⟩)) ⟨[(1,iV .i64 a1),(2,.ptr 4 0 0),(5,iV .i64 x2784),(16,.im (.row (a0.f1.map Z00  ))),(17,iV .i64 (a0.f1.length:Int)),(18,iV .i64 x2785)],[(4,some (.box 52 (Za           a0)))],0⟩) ?_ _ _ _ e2807
   clear H e2807 o2806;intro self ih x2784 x2785 o2806 H
   subst hbody
   refine LWp.round ?_
   refine sO hP hn hm [] [(19,bV (decide (x2785<(a0.f1.length:Int))))] [1,2,5,16,17,18,19] [] [4] ?_
   refine AWp.seq ?_
   refine AWp.cond (decide (x2785<(a0.f1.length:Int))) (by kernel_rfl) (fun c2786 => ?_) (fun c2786 => ?_)
   ·replace H:=iT c2786 H
    refine AWp.skip ?_
    refine AWp.seq ?_
    refine AWp.block ?_
    obtain⟨b2790,p2791,q2792,H⟩:=Z0d H
    refine sR hP hn hm [(1,.c (Z00 b2790)),(3,.k 5)] [(6,iV .i64 x2785),(7,.ptr 5 0 0)] [1,2,5,6,7,16,17,18] [(5,some (.box 86 (aSpan b2790)))] [4,5] [_,_] ⟨p2791,Zk Z00 q2792,trivial⟩ ?_
    refine AWp.seq ?_
    refine AWp.seq ?_
    obtain⟨o2808,e2809,H⟩:=Z4 H
    refine AWp.mono (Q:=fun e s=>(match (generalizing:=false) o2808 with | x2801=>e = .normal∧s=⟨[(1,iV .i64 a1),(2,.ptr 6 0 0),(5,iV .i64 x2784),(7,.ptr 7 0 0),(16,.im (.row (a0.f1.map Z00))),(17,iV .i64 (a0.f1.length:Int)),(18,iV .i64 x2785),(51,bV x2801)],[(6,some (.box 52 (Za a0))),(7,some (.box 86 (aSpan b2790)))],0⟩)) (AWp.cv ?_) ?_
    ·replace H:=e2809;clear e2809
     rcases Bool.eq_false_or_eq_true (decide (b2790.f1<(1:Int))) with c2797 | c2797
     ·replace H:=iT c2797 H
      refine rG hP hn hm [(3,.b true)] [(51,bV true)] [1,2,5,7,16,17,18,51] [] [4,5] [_] ⟨c2797,trivial⟩ ?_
      obtain rfl:=sj H
      exact lf [(4,6),(5,7)] [] [] (by kernel_rfl) ⟨rfl,rfl⟩
     ·replace H:=iF c2797 H
      rcases Bool.eq_false_or_eq_true (decide (b2790.f1>(i64.wrap (a1-x2784)))) with c2798 | c2798
      ·replace H:=iT c2798 H
       refine rG hP hn hm [(3,.b false),(11,.b true)] [(27,.ptr 5 0 1),(28,iV .i64 b2790.f1),(29,iV .i64 a1),(30,iV .i64 x2784),(31,iV .i64 (i64.wrap (a1-x2784))),(32,bV (decide (b2790.f1>(i64.wrap (a1-x2784))))),(51,bV true)] [1,2,5,7,16,17,18,27,28,29,30,31,32,51] [] [4,5] [_,_] ⟨c2797,c2798,trivial⟩ ?_
       obtain rfl:=sj H
       exact lf [(4,6),(5,7)] [] [] (by kernel_rfl) ⟨rfl,rfl⟩
      ·replace H:=iF c2798 H
       rcases Bool.eq_false_or_eq_true (decide (b2790.f0<(0:Int))) with c2799 | c2799
       ·replace H:=iT c2799 H
        refine rG hP hn hm [(3,.b false),(11,.b false),(16,.b true)] [(27,.ptr 5 0 1),(28,iV .i64 b2790.f1),(29,iV .i64 a1),(30,iV .i64 x2784),(31,iV .i64 (i64.wrap (a1-x2784))),(32,bV (decide (b2790.f1>(i64.wrap (a1-x2784))))),(35,.ptr 5 0 0),(36,iV .i64 b2790.f0),(37,bV (decide (b2790.f0<(0:Int)))),(51,bV true)] [1,2,5,7,16,17,18,27,28,29,30,31,32,35,36,37,51] [] [4,5] [_,_,_] ⟨c2797,c2798,c2799,trivial⟩ ?_
        obtain rfl:=sj H
        exact lf [(4,6),(5,7)] [] [] (by kernel_rfl) ⟨rfl,rfl⟩
       ·replace H:=iF c2799 H
        rcases Bool.eq_false_or_eq_true (decide (b2790.f0>(524288:Int))) with c2800 | c2800
        ·replace H:=iT c2800 H
         refine rG hP hn hm [(3,.b false),(11,.b false),(16,.b false),(21,.b true)] [(27,.ptr 5 0 1),(28,iV .i64 b2790.f1),(29,iV .i64 a1),(30,iV .i64 x2784),(31,iV .i64 (i64.wrap (a1-x2784))),(32,bV (decide (b2790.f1>(i64.wrap (a1-x2784))))),(35,.ptr 5 0 0),(36,iV .i64 b2790.f0),(37,bV (decide (b2790.f0<(0:Int)))),(40,.ptr 5 0 0),(41,iV .i64 b2790.f0),(42,bV (decide (b2790.f0>(524288:Int)))),(51,bV true)] [1,2,5,7,16,17,18,27,28,29,30,31,32,35,36,37,40,41,42,51] [] [4,5] [_,_,_,_] ⟨c2797,c2798,c2799,c2800,trivial⟩ ?_
         obtain rfl:=sj H
         exact lf [(4,6),(5,7)] [] [] (by kernel_rfl) ⟨rfl,rfl⟩
        ·replace H:=iF c2800 H
         refine rG hP hn hm [(3,.b false),(11,.b false),(16,.b false),(21,.b false)] [(27,.ptr 5 0 1),(28,iV .i64 b2790.f1),(29,iV .i64 a1),(30,iV .i64 x2784),(31,iV .i64 (i64.wrap (a1-x2784))),(32,bV (decide (b2790.f1>(i64.wrap (a1-x2784))))),(35,.ptr 5 0 0),(36,iV .i64 b2790.f0),(37,bV (decide (b2790.f0<(0:Int)))),(40,.ptr 5 0 0),(41,iV .i64 b2790.f0),(42,bV (decide (b2790.f0>(524288:Int)))),(45,iV .i64 x2785),(46,bV (x2785==(0:Int))),(47,.ptr 5 0 0),(48,iV .i64 b2790.f0),(49,bV (b2790.f0==(0:Int))),(50,bV (!((x2785==(0:Int))==(b2790.f0==(0:Int))))),(51,bV (!((x2785==(0:Int))==(b2790.f0==(0:Int)))))] [1,2,5,7,16,17,18,27,28,29,30,31,32,35,36,37,40,41,42,45,46,47,48,49,50,51] [] [4,5] [_,_,_,_] ⟨c2797,c2798,c2799,c2800,trivial⟩ ?_
         obtain rfl:=sj H
         exact lf [(4,6),(5,7)] [] [] (by kernel_rfl) ⟨rfl,rfl⟩
    ·obtain⟨x2801,rfl⟩:∃ z,z=o2808:=⟨_,rfl⟩
     rintro e s ⟨rfl,rfl⟩
     refine AWp.cond x2801 (by kernel_rfl) (fun c2802 => ?_) (fun c2802 => ?_)
     ·replace H:=iT c2802 H
      refine sO hP hn hm [] [(4,bV false)] [4] [] [] ?_
      refine AWp.conv (inv:=[]) (vk:=[]) (e0:=[]) (t:=⟨[(4,bV false)],[],0⟩) (by kernel_rfl) ?_
      refine AWp.ret ?_
      obtain rfl:=sj H
      exact rl rfl rfl (by kernel_rfl) (by kernel_rfl)
     ·replace H:=iF c2802 H
      refine AWp.skip ?_
      refine rO hP hn hm [] [(5,iV .i64 (i64.wrap (x2784+b2790.f1)))] [1,2,5,16,17,18] [] [6] ?_
      refine rO hP hn hm [] [(18,iV .i64 (i64.wrap (x2785+(1:Int))))] [1,2,5,16,17,18] [] [6] ?_
      exact LWp.conv [(6,4)] [] [] (by kernel_rfl) (ih _ _ _ H)
   ·replace H:=iF c2786 H
    refine AWp.exit ?_
    obtain rfl:=sj H
    exact lf [(4,8)] [] [] (by kernel_rfl) ⟨rfl,rfl⟩
  ·rcases o2806 with rr | _
   ·skip
    rintro e s ⟨rfl,hfl,hres⟩
    obtain rfl:=sj H
    exact Exists.intro _ (And.intro (fun _ _ h=>h) (And.intro (.inl rfl) (And.intro hfl hres)))
   ·skip
    rintro e s ⟨rfl,rfl⟩
    refine AWp.seq ?_
    obtain⟨o2810,e2811,H⟩:=Z4 H
    refine AWp.mono (Q:=fun e s=>(match (generalizing:=false) o2810 with | x2805=>e = .normal∧s=⟨[(4,bV x2805)],[],0⟩)) (AWp.cv ?_) ?_
    ·replace H:=e2811;clear e2811
     rcases Bool.eq_false_or_eq_true (decide (a0.f0≥(-262144))) with c2804 | c2804
     ·replace H:=iT c2804 H
      refine rG hP hn hm [(3,.b true)] [(4,bV (decide (a0.f0≤(262144:Int))))] [4] [] [] [_] ⟨c2804,trivial⟩ ?_
      obtain rfl:=sj H
      exact lf [] [] [] (by kernel_rfl) ⟨rfl,rfl⟩
     ·replace H:=iF c2804 H
      refine rG hP hn hm [(3,.b false)] [(4,bV false)] [4] [] [] [_] ⟨c2804,trivial⟩ ?_
      obtain rfl:=sj H
      exact lf [] [] [] (by kernel_rfl) ⟨rfl,rfl⟩
    ·obtain⟨x2805,rfl⟩:∃ z,z=o2810:=⟨_,rfl⟩
     rintro e s ⟨rfl,rfl⟩
     refine AWp.conv (inv:=[]) (vk:=[]) (e0:=[]) (t:=⟨[(4,bV x2805)],[],0⟩) (by kernel_rfl) ?_
     refine AWp.ret ?_
     obtain rfl:=sj H
     exact rl (.inl rfl) rfl (by kernel_rfl) (by kernel_rfl)
def Z0z.l0 (a0_c0:List Int) (a1:Int) (x2717:Int) (x2718:Int) (x2733:Int) (x2734:Int) (x2735:List Z1h) (x2736:Int):Option (Int×Int×(List Z1h)):=((if(decide (x2736<x2718))=true then((Z0a.f a0_c0 x2733 x2734)>>=fun t2741=>some (x2734==(0:Int))) else(some false)):Option (Bool))>>=fun x2743=>if x2743=true then(((if(decide (x2736>(0:Int)))=true then((Zm.f a0_c0 x2733 x2734 524287)>>=fun t2748=>some (t2748.2.1,t2748.2.2,i64.wrap ((1:Int)+t2748.1))) else(some (x2733,x2734,0))):Option (Int×Int×Int))>>=fun oo=>match oo with | (x2750,x2751,x2752)=>((Zm.f a0_c0 x2750 x2751 (i64.wrap (a1-(1:Int))))>>=fun t2755=>(chk ((x2735.length+[(⟨x2752,i64.wrap ((1:Int)+t2755.1)⟩:Z1h)].length)*16≤140737488355328))>>=fun _=>Z0z.l0 a0_c0 a1 x2717 x2718 t2755.2.1 t2755.2.2 (x2735++[(⟨x2752,i64.wrap ((1:Int)+t2755.1)⟩:Z1h)]) (i64.wrap (x2736+(1:Int))))) else(some (x2733,x2734,x2735))
partial_fixpoint
def Z0z.f (a0_c0:List Int) (a0_c1:Int) (a0_c2:Int) (a1:Int):Option (Zb×Int×Int):=(Zm.f a0_c0 a0_c1 a0_c2 a1)>>=fun t2702=>((if(decide (t2702.1>(0:Int)))=true then((Zy.f a0_c0 t2702.2.1 t2702.2.2)>>=fun t2707=>((if(decide (t2707.1≥(-262144)))=true then(some (decide (t2707.1≤(262144:Int)))) else(some false)):Option (Bool))>>=fun x2711=>((if x2711=true then(some (t2707.1,t2702.1)) else(some (0,(-1)))):Option (Int×Int))>>=fun oo=>match oo with | (x2713,x2714)=>(some (t2707.2.1,t2707.2.2,x2713,x2714))) else(some (t2702.2.1,t2702.2.2,0,t2702.1))):Option (Int×Int×Int×Int))>>=fun oo=>match oo with | (x2715,x2716,x2717,x2718)=>((Z0z.l0 a0_c0 a1 x2717 x2718 x2715 x2716 [] 0)>>=fun oo=>match oo with | (x2759,x2760,x2761)=>((((Z0a.f a0_c0 x2759 x2760)>>=fun t2814=>if(x2760 != (0:Int))=true then(some true) else(if(decide (x2718<(0:Int)))=true then(some true) else((Z23.f (⟨x2717,x2761⟩:Zb) a1)>>=fun t2818=>some (!t2818)))):Option (Bool))>>=fun x2820=>if x2820=true then(some ((⟨0,[]⟩:Zb),x2759,x2760)) else(some ((⟨x2717,x2761⟩:Zb),x2759,x2760))))
theorem Z0z.ok (a0_c0:List Int) (a0_c1:Int) (a0_c2:Int) (a1:Int) (r:Zb×Int×Int) (H:Z0z.f a0_c0 a0_c1 a0_c2 a1=some r):Pv.Fn Try.prog 27 [.ptr 0 0 0,iV .i64 a1] [(0,some (.box 94 (Z3 ⟨a0_c0,a0_c1,a0_c2⟩)))] 1 (fun x o=>x = .agg [iV .i64 ((r.1).f0),.own 1]∧o=[(0,some (.box 94 (Z3 ⟨a0_c0,r.2.1,r.2.2⟩))),(1,some (.row 2 86 (((r.1).f1).map Z00)))]):=by
 unfold Z0z.f at H
 refine Fn.bodyK [0,1] Try.func27 rfl rfl (fun Γ hP hn => ?_)
 have hm:Try.prog.follows .mixedOrders=true:=by kernel_rfl
 replace hn:Γ.n=69:=hn
 refine sO hP hn hm [(0,.k 1)] [(4,.ptr 1 0 0)] [0,1,4] [(1,some (.box 52 [iV .i64 0,.none0]))] [0,1] ?_
 refine sO hP hn hm [(0,.k 2)] [(5,.ptr 2 0 0)] [0,1,4,5] [(2,some (.box 52 [iV .i64 0,.none0]))] [0,1,2] ?_
 obtain⟨t2702,e2703,H⟩:=Z4 H
 refine sR hP hn hm [(2,.call [(0,0)] [(0,0)] [] [] 1 (iV .i64 t2702.1) [(0,some (.box 94 (Z3 ⟨a0_c0,t2702.2.1,t2702.2.2⟩)))])] [(6,iV .i64 t2702.1)] [0,1,4,5,6] [(0,some (.box 94 (Z3 ⟨a0_c0,t2702.2.1,t2702.2.2⟩)))] [0,1,2] [_,_] ⟨Try.call50,Zm.ok a0_c0 a0_c1 a0_c2 a1 t2702 e2703,trivial⟩ ?_
 refine AWp.seq ?_
 refine sO hP hn hm [] [(14,bV (decide (t2702.1>(0:Int))))] [0,1,4,5,6,14] [] [0,1,2] ?_
 obtain⟨o2822,e2823,H⟩:=Z4 H
 refine AWp.mono (Q:=fun e s=>(match (generalizing:=false) o2822 with | (x2715,x2716,x2717,x2718)=>e = .normal∧s=⟨[(0,.ptr 0 0 0),(1,iV .i64 a1),(4,.ptr 7 0 0),(5,.ptr 8 0 0),(6,iV .i64 x2718)],[(0,some (.box 94 (Z3 ⟨a0_c0,x2715,x2716⟩))),(7,some (.box 52 [iV .i64 0,.none0])),(8,some (.box 52 [iV .i64 x2717,.none0]))],1⟩)) (AWp.cv ?_) ?_
 ·replace H:=e2823;clear e2823
  refine AWp.cond (decide (t2702.1>(0:Int))) (by kernel_rfl) (fun c2704 => ?_) (fun c2704 => ?_)
  ·replace H:=iT c2704 H
   obtain⟨t2707,e2708,H⟩:=Z4 H
   refine sR hP hn hm [(1,.call [(0,0)] [(0,0)] [] [] 1 (iV .i64 t2707.1) [(0,some (.box 94 (Z3 ⟨a0_c0,t2707.2.1,t2707.2.2⟩)))])] [(7,iV .i64 t2707.1)] [0,1,4,5,6,7] [(0,some (.box 94 (Z3 ⟨a0_c0,t2707.2.1,t2707.2.2⟩)))] [0,1,2] [_,_] ⟨Try.call26,Zy.ok a0_c0 t2702.2.1 t2702.2.2 t2707 e2708,trivial⟩ ?_
   refine AWp.seq ?_
   obtain⟨o2824,e2825,H⟩:=Z4 H
   refine AWp.mono (Q:=fun e s=>(match (generalizing:=false) o2824 with | x2711=>e = .normal∧s=⟨[(0,.ptr 0 0 0),(1,iV .i64 a1),(4,.ptr 3 0 0),(5,.ptr 4 0 0),(6,iV .i64 t2702.1),(7,iV .i64 t2707.1),(22,bV x2711)],[(0,some (.box 94 (Z3 ⟨a0_c0,t2707.2.1,t2707.2.2⟩))),(3,some (.box 52 [iV .i64 0,.none0])),(4,some (.box 52 [iV .i64 0,.none0]))],1⟩)) (AWp.cv ?_) ?_
   ·replace H:=e2825;clear e2825
    rcases Bool.eq_false_or_eq_true (decide (t2707.1≥(-262144))) with c2710 | c2710
    ·replace H:=iT c2710 H
     refine rG hP hn hm [(2,.b true)] [(22,bV (decide (t2707.1≤(262144:Int))))] [0,1,4,5,6,7,22] [] [0,1,2] [_] ⟨c2710,trivial⟩ ?_
     obtain rfl:=sj H
     exact lf [(0,0),(1,3),(2,4)] [] [] (by kernel_rfl) ⟨rfl,rfl⟩
    ·replace H:=iF c2710 H
     refine rG hP hn hm [(2,.b false)] [(22,bV false)] [0,1,4,5,6,7,22] [] [0,1,2] [_] ⟨c2710,trivial⟩ ?_
     obtain rfl:=sj H
     exact lf [(0,0),(1,3),(2,4)] [] [] (by kernel_rfl) ⟨rfl,rfl⟩
   ·obtain⟨x2711,rfl⟩:∃ z,z=o2824:=⟨_,rfl⟩
    rintro e s ⟨rfl,rfl⟩
    obtain⟨o2826,e2827,H⟩:=Z4 H
    refine AWp.mono (Q:=fun e s=>(match (generalizing:=false) o2826 with | (x2713,x2714)=>e = .normal∧s=⟨[(0,.ptr 0 0 0),(1,iV .i64 a1),(4,.ptr 5 0 0),(5,.ptr 6 0 0),(6,iV .i64 x2714)],[(0,some (.box 94 (Z3 ⟨a0_c0,t2707.2.1,t2707.2.2⟩))),(5,some (.box 52 [iV .i64 0,.none0])),(6,some (.box 52 [iV .i64 x2713,.none0]))],1⟩)) (AWp.cv ?_) ?_
    ·replace H:=e2827;clear e2827
     refine AWp.cond x2711 (by kernel_rfl) (fun c2712 => ?_) (fun c2712 => ?_)
     ·replace H:=iT c2712 H
      refine rO hP hn hm [] [] [0,1,4,5,6] [(4,some (.box 52 [iV .i64 t2707.1,.none0]))] [0,3,4] ?_
      obtain rfl:=sj H
      exact lf [(0,0),(3,5),(4,6)] [] [] (by kernel_rfl) ⟨rfl,rfl⟩
     ·replace H:=iF c2712 H
      refine rO hP hn hm [] [(6,iV .i64 (-1))] [0,1,4,5,6] [] [0,3,4] ?_
      obtain rfl:=sj H
      exact lf [(0,0),(3,5),(4,6)] [] [] (by kernel_rfl) ⟨rfl,rfl⟩
    ·obtain⟨x2713,x2714⟩:=o2826
     rintro e s ⟨rfl,rfl⟩
     obtain rfl:=sj H
     exact lf [(0,0),(5,7),(6,8)] [] [] (by kernel_rfl) ⟨rfl,rfl⟩
  ·replace H:=iF c2704 H
   refine AWp.skip ?_
   obtain rfl:=sj H
   exact lf [(0,0),(1,7),(2,8)] [] [] (by kernel_rfl) ⟨rfl,rfl⟩
 ·obtain⟨x2715,x2716,x2717,x2718⟩:=o2822
  rintro e s ⟨rfl,rfl⟩
  refine AWp.seq ?_
  refine sO hP hn hm [] [(8,iV .i64 0)] [0,1,4,5,6,8] [] [0,7,8] ?_
  refine AWp.block ?_
  obtain⟨o2828,e2829,H⟩:=Z4 H
  refine AWp.loop (LWp.conv (inv:=[(0,0),(7,14),(8,15)]) (vk:=[]) (e0:=[16]) (t:=⟨[(0,.ptr 0 0 0),(1,iV .i64 a1),(4,.ptr 14 0 0),(5,.ptr 15 0 0),(6,iV .i64 x2718),(8,iV .i64 0)],[(0,some (.box 94 (Z3 ⟨a0_c0,x2715,x2716⟩))),(14,some (.box 52 [iV .i64 0,.none0])),(15,some (.box 52 [iV .i64 x2717,.own 16])),(16,some (.row 2 86 ([].map Z00)))],1⟩) (by kernel_rfl) ?_)
  refine LWp.mono (Q:=fun e s=>(match (generalizing:=false) o2828 with | (x2759,x2760,x2761)=>e = .exit 0∧s=⟨[(0,.ptr 0 0 0),(1,iV .i64 a1),(4,.ptr 27 0 0),(5,.ptr 28 0 0),(6,iV .i64 x2718)],[(0,some (.box 94 (Z3 ⟨a0_c0,x2759,x2760⟩))),(27,some (.box 52 [iV .i64 0,.none0])),(28,some (.box 52 [iV .i64 x2717,.own 29])),(29,some (.row 2 86 (x2761.map Z00)))],1⟩)) (LWp.cv (Zt (fun body hbody => ?_))) ?_
  ·refine             Z0z.l0.partial_correctness a0_c0 a1 x2717 x2718 (motive:=fun x2733 x2734 x2735 x2736 o2828=>LWp Γ body (fun e s=>∃ t,Cv Γ s t∧(match (generalizing:=false) o2828 with | (x2759,x2760,x2761)=>e = .exit 0∧t=⟨[(0,.ptr 0 0 0),(1,iV .i64 a1),(4,.ptr 27 0 0),(5,.ptr 28 0 0),(6,iV .i64 x2718)],[(0,some (.box 94 (Z3           ⟨a0_c0,x2759,x2760⟩))),(27,some (.box 52 [iV .i64 0,.none0])),(28,some (.box 52 [iV .i64 x2717,.own 29])),(29,some (.row 2 86 (x2761.map Z00  )))],1⟩)) ⟨[(0,.ptr 0 0 0),(1,iV .i64 a1),(4,.ptr 14 0 0),(5,.ptr 15 0 0),(6,iV .i64 x2718),(8,iV .i64 x2736)],[(0,some (.box 94 (Z3           ⟨a0_c0,x2733,x2734⟩))),(14,some (.box 52 [iV .i64 0,.none0])),(15,some (.box 52 [iV .i64 x2717,.own 16])),(16,some (.row 2 86 (x2735.map Z00  )))],1⟩) ?_ _ _ _ _ _ e2829
   clear H e2829 o2828;intro self ih x2733 x2734 x2735 x2736 o2828 H
   subst hbody
   refine LWp.round ?_
   refine AWp.seq ?_
   refine AWp.seq ?_
   obtain⟨o2830,e2831,H⟩:=Z4 H
   refine AWp.mono (Q:=fun e s=>(match (generalizing:=false) o2830 with | x2743=>e = .normal∧s=⟨[(0,.ptr 0 0 0),(1,iV .i64 a1),(4,.ptr 17 0 0),(5,.ptr 18 0 0),(6,iV .i64 x2718),(8,iV .i64 x2736),(32,bV x2743)],[(0,some (.box 94 (Z3 ⟨a0_c0,x2733,x2734⟩))),(17,some (.box 52 [iV .i64 0,.none0])),(18,some (.box 52 [iV .i64 x2717,.own 19])),(19,some (.row 2 86 (x2735.map Z00)))],1⟩)) (AWp.cv ?_) ?_
   ·replace H:=e2831;clear e2831
    rcases Bool.eq_false_or_eq_true (decide (x2736<x2718)) with c2740 | c2740
    ·replace H:=iT c2740 H
     obtain⟨t2741,e2742,H⟩:=Z4 H
     refine rG hP hn hm [(3,.b true),(5,.call [(0,0)] [(0,0)] [] [] 1 (iV .i64 x2734) [(0,some (.box 94 (Z3 ⟨a0_c0,x2733,x2734⟩)))])] [(29,.ptr 0 0 0),(30,iV .i64 x2734),(31,bV (x2734==(0:Int))),(32,bV (x2734==(0:Int)))] [0,1,4,5,6,8,29,30,31,32] [] [0,14,15,16] [_,_,_] ⟨c2740,Try.call51,Z0a.ok a0_c0 x2733 x2734 t2741 e2742,trivial⟩ ?_
     obtain rfl:=sj H
     exact lf [(0,0),(14,17),(15,18),(16,19)] [] [] (by kernel_rfl) ⟨rfl,rfl⟩
    ·replace H:=iF c2740 H
     refine rG hP hn hm [(3,.b false)] [(32,bV false)] [0,1,4,5,6,8,32] [] [0,14,15,16] [_] ⟨c2740,trivial⟩ ?_
     obtain rfl:=sj H
     exact lf [(0,0),(14,17),(15,18),(16,19)] [] [] (by kernel_rfl) ⟨rfl,rfl⟩
   ·obtain⟨x2743,rfl⟩:∃ z,z=o2830:=⟨_,rfl⟩
    rintro e s ⟨rfl,rfl⟩
    refine AWp.cond x2743 (by kernel_rfl) (fun c2744 => ?_) (fun c2744 => ?_)
    ·replace H:=iT c2744 H
     refine AWp.skip ?_
     refine AWp.seq ?_
     refine AWp.block ?_
     refine sO hP hn hm [(1,.k 20)] [(9,.ptr 20 0 0)] [0,1,4,5,6,8,9] [(20,some (.box 86 (aSpan ⟨0,0⟩)))] [0,17,18,19,20] ?_
     refine AWp.seq ?_
     refine sO hP hn hm [] [(37,bV (decide (x2736>(0:Int))))] [0,1,4,5,6,8,9,37] [] [0,17,18,19,20] ?_
     obtain⟨o2832,e2833,H⟩:=Z4 H
     refine AWp.mono (Q:=fun e s=>(match (generalizing:=false) o2832 with | (x2750,x2751,x2752)=>e = .normal∧s=⟨[(0,.ptr 0 0 0),(1,iV .i64 a1),(4,.ptr 21 0 0),(5,.ptr 22 0 0),(6,iV .i64 x2718),(8,iV .i64 x2736),(9,.ptr 24 0 0)],[(0,some (.box 94 (Z3 ⟨a0_c0,x2750,x2751⟩))),(21,some (.box 52 [iV .i64 0,.none0])),(22,some (.box 52 [iV .i64 x2717,.own 23])),(23,some (.row 2 86 (x2735.map Z00))),(24,some (.box 86 (aSpan ⟨x2752,0⟩)))],1⟩)) (AWp.cv ?_) ?_
     ·replace H:=e2833;clear e2833
      refine AWp.cond (decide (x2736>(0:Int))) (by kernel_rfl) (fun c2745 => ?_) (fun c2745 => ?_)
      ·replace H:=iT c2745 H
       obtain⟨t2748,e2749,H⟩:=Z4 H
       refine rG hP hn hm [(1,.call [(0,0)] [(0,0)] [] [] 1 (iV .i64 t2748.1) [(0,some (.box 94 (Z3 ⟨a0_c0,t2748.2.1,t2748.2.2⟩)))])] [] [0,1,4,5,6,8,9] [(0,some (.box 94 (Z3 ⟨a0_c0,t2748.2.1,t2748.2.2⟩))),(20,some (.box 86 (aSpan ⟨(i64.wrap ((1:Int)+t2748.1)),0⟩)))] [0,17,18,19,20] [_,_] ⟨Try.call50,Zm.ok a0_c0 x2733 x2734 524287 t2748 e2749,trivial⟩ ?_
       obtain rfl:=sj H
       exact lf [(0,0),(17,21),(18,22),(19,23),(20,24)] [] [] (by kernel_rfl) ⟨rfl,rfl⟩
      ·replace H:=iF c2745 H
       refine AWp.skip ?_
       obtain rfl:=sj H
       exact lf [(0,0),(17,21),(18,22),(19,23),(20,24)] [] [] (by kernel_rfl) ⟨rfl,rfl⟩
     ·obtain⟨x2750,x2751,x2752⟩:=o2832
      rintro e s ⟨rfl,rfl⟩
      obtain⟨t2755,e2756,H⟩:=Z4 H
      refine sR hP hn hm [(3,.call [(0,0)] [(0,0)] [] [] 1 (iV .i64 t2755.1) [(0,some (.box 94 (Z3 ⟨a0_c0,t2755.2.1,t2755.2.2⟩)))])] [] [0,1,4,5,6,8,9] [(0,some (.box 94 (Z3 ⟨a0_c0,t2755.2.1,t2755.2.2⟩))),(24,some (.box 86 (aSpan ⟨x2752,(i64.wrap ((1:Int)+t2755.1))⟩)))] [0,21,22,23,24] [_,_] ⟨Try.call50,Zm.ok a0_c0 x2750 x2751 (i64.wrap (a1-(1:Int))) t2755 e2756,trivial⟩ ?_
      obtain⟨c2758,H⟩:=Z0x H
      refine rG hP hn hm [(3,.app 25 ([(⟨x2752,i64.wrap ((1:Int)+t2755.1)⟩:Z1h)].map Z00)),(4,.app 26 ((x2735++[(⟨x2752,i64.wrap ((1:Int)+t2755.1)⟩:Z1h)]).map Z00))] [] [0,1,4,5,6,8] [(22,some (.box 52 [iV .i64 x2717,.own 26])),(26,some (.row 2 86 ((x2735++[(⟨x2752,i64.wrap ((1:Int)+t2755.1)⟩:Z1h)]).map Z00)))] [0,21,22,26] [[(⟨x2752,i64.wrap ((1:Int)+t2755.1)⟩:Z1h)].map Z00=[[iI .i64 x2752,iI .i64 (i64.wrap ((1:Int)+t2755.1))]],(x2735++[(⟨x2752,i64.wrap ((1:Int)+t2755.1)⟩:Z1h)]).map Z00=(x2735.map Z00)++([(⟨x2752,i64.wrap ((1:Int)+t2755.1)⟩:Z1h)].map Z00),∀ c∈([(⟨x2752,i64.wrap ((1:Int)+t2755.1)⟩:Z1h)].map Z00),c.length=2,∀ c∈([(⟨x2752,i64.wrap ((1:Int)+t2755.1)⟩:Z1h)].map Z00),Z0k (c.map .im)=true,((x2735.map Z00).length+([(⟨x2752,i64.wrap ((1:Int)+t2755.1)⟩:Z1h)].map Z00).length)*16≤140737488355328] ⟨by exact rfl,by simp,by exact Z0o _ _ _ (fun _=>rfl),by exact Z0p _ _ (fun _=>rfl),by simpa using c2758,trivial⟩ ?_
      refine rO hP hn hm [] [(8,iV .i64 (i64.wrap (x2736+(1:Int))))] [0,1,4,5,6,8] [] [0,21,22,26] ?_
      exact LWp.conv [(0,0),(21,14),(22,15),(26,16)] [] [] (by kernel_rfl) (ih _ _ _ _ _ H)
    ·replace H:=iF c2744 H
     refine AWp.exit ?_
     obtain rfl:=sj H
     exact lf [(0,0),(17,27),(18,28),(19,29)] [] [] (by kernel_rfl) ⟨rfl,rfl⟩
  ·obtain⟨x2759,x2760,x2761⟩:=o2828
   rintro e s ⟨rfl,rfl⟩
   refine AWp.seq ?_
   refine AWp.seq ?_
   obtain⟨o2834,e2835,H⟩:=Z4 H
   refine AWp.mono (Q:=fun e s=>(match (generalizing:=false) o2834 with | x2820=>e = .normal∧s=⟨[(4,.ptr 30 0 0),(5,.ptr 31 0 0),(66,bV x2820)],[(0,some (.box 94 (Z3 ⟨a0_c0,x2759,x2760⟩))),(30,some (.box 52 [iV .i64 0,.none0])),(31,some (.box 52 [iV .i64 x2717,.own 32])),(32,some (.row 2 86 (x2761.map Z00)))],1⟩)) (AWp.cv ?_) ?_
   ·replace H:=e2835;clear e2835
    obtain⟨t2814,e2815,H⟩:=Z4 H
    rcases Bool.eq_false_or_eq_true (x2760 != (0:Int)) with c2816 | c2816
    ·replace H:=iT c2816 H
     refine rG hP hn hm [(1,.call [(0,0)] [(0,0)] [] [] 1 (iV .i64 x2760) [(0,some (.box 94 (Z3 ⟨a0_c0,x2759,x2760⟩)))]),(3,.b true)] [(66,bV true)] [4,5,66] [] [0,27,28,29] [_,_,_] ⟨Try.call51,Z0a.ok a0_c0 x2759 x2760 t2814 e2815,c2816,trivial⟩ ?_
     obtain rfl:=sj H
     exact lf [(27,30),(28,31),(29,32),(0,0)] [] [] (by kernel_rfl) ⟨rfl,rfl⟩
    ·replace H:=iF c2816 H
     rcases Bool.eq_false_or_eq_true (decide (x2718<(0:Int))) with c2817 | c2817
     ·replace H:=iT c2817 H
      refine rG hP hn hm [(1,.call [(0,0)] [(0,0)] [] [] 1 (iV .i64 x2760) [(0,some (.box 94 (Z3 ⟨a0_c0,x2759,x2760⟩)))]),(3,.b false),(7,.b true)] [(66,bV true)] [4,5,66] [] [0,27,28,29] [_,_,_,_] ⟨Try.call51,Z0a.ok a0_c0 x2759 x2760 t2814 e2815,c2816,c2817,trivial⟩ ?_
      obtain rfl:=sj H
      exact lf [(27,30),(28,31),(29,32),(0,0)] [] [] (by kernel_rfl) ⟨rfl,rfl⟩
     ·replace H:=iF c2817 H
      obtain⟨t2818,e2819,H⟩:=Z4 H
      refine rG hP hn hm [(1,.call [(0,0)] [(0,0)] [] [] 1 (iV .i64 x2760) [(0,some (.box 94 (Z3 ⟨a0_c0,x2759,x2760⟩)))]),(3,.b false),(7,.b false),(10,.call [] [] [29] [] 0 (bV t2818) [])] [(66,bV (!t2818))] [4,5,66] [] [0,27,28,29] [_,_,_,_,_,_] ⟨Try.call51,Z0a.ok a0_c0 x2759 x2760 t2814 e2815,c2816,c2817,Try.call52,Z23.ok (⟨x2717,x2761⟩:Zb) a1 t2818 e2819,trivial⟩ ?_
      obtain rfl:=sj H
      exact lf [(27,30),(28,31),(29,32),(0,0)] [] [] (by kernel_rfl) ⟨rfl,rfl⟩
   ·obtain⟨x2820,rfl⟩:∃ z,z=o2834:=⟨_,rfl⟩
    rintro e s ⟨rfl,rfl⟩
    refine AWp.cond x2820 (by kernel_rfl) (fun c2821 => ?_) (fun c2821 => ?_)
    ·replace H:=iT c2821 H
     refine sO hP hn hm [] [] [4] [] [0,30] ?_
     refine AWp.conv (inv:=[(0,0),(30,2)]) (vk:=[]) (e0:=[1]) (t:=⟨[(4,.ptr 2 0 0)],[(0,some (.box 94 (Z3 ⟨a0_c0,x2759,x2760⟩))),(1,some (.row 2 86 ((((⟨0,[]⟩:Zb)).f1).map Z00))),(2,some (.box 52 [iV .i64 (((⟨0,[]⟩:Zb)).f0),.own 1]))],1⟩) (by kernel_rfl) ?_
     refine AWp.ret ?_
     obtain rfl:=sj H
     exact rl (.inl rfl) rfl (by kernel_rfl) (by kernel_rfl)
    ·replace H:=iF c2821 H
     refine AWp.skip ?_
     refine sO hP hn hm [] [] [4] [(30,some (.box 52 [iV .i64 x2717,.own 32]))] [0,30,32] ?_
     refine AWp.conv (inv:=[(0,0),(30,2),(32,1)]) (vk:=[]) (e0:=[]) (t:=⟨[(4,.ptr 2 0 0)],[(0,some (.box 94 (Z3 ⟨a0_c0,x2759,x2760⟩))),(1,some (.row 2 86 ((((⟨x2717,x2761⟩:Zb)).f1).map Z00))),(2,some (.box 52 [iV .i64 (((⟨x2717,x2761⟩:Zb)).f0),.own 1]))],1⟩) (by kernel_rfl) ?_
     refine AWp.ret ?_
     obtain rfl:=sj H
     exact rl (.inl rfl) rfl (by kernel_rfl) (by kernel_rfl)
def Z14.l0 (a1:List Int) (t2914:List Int) (x2942:List Z2) (x2943:Int):Option (List Z2):=if(decide (x2943<(t2914.length:Int)))=true then((at? t2914 x2943)>>=fun b2948=>((if(decide (x2943<(a1.length:Int)))=true then((at? a1 x2943)>>=fun b2956=>some (decide (b2956>(0:Int)))) else(some false)):Option (Bool))>>=fun x2959=>((if x2959=true then((at? a1 x2943)>>=fun b2965=>(chk ((x2942.length+[(⟨b2948,b2965⟩:Z2)].length)*16≤140737488355328))>>=fun _=>some (x2942++[(⟨b2948,b2965⟩:Z2)])) else(some x2942)):Option (List Z2))>>=fun x2969=>Z14.l0 a1 t2914 x2969 (i64.wrap (x2943+(1:Int)))) else(some x2942)
partial_fixpoint
def Z14.f (a0:Zb) (a1:List Int):Option (List Z2):=(Zg.f a0)>>=fun t2914=>(Z14.l0 a1 t2914 [] 0)>>=fun x2970=>some x2970
theorem Z14.ok (a0:Zb) (a1:List Int) (r:List Z2) (H:Z14.f a0 a1=some r):Pv.Fn Try.prog 53 [.agg (Za a0),.im (.row (a1.map (Z1 .u64)))] [] 0 (fun x o=>x = .own 0∧o=[(0,some (.row 2 78 (r.map Z0)))]):=by
 unfold Z14.f at H
 refine Fn.bodyK [0] Try.func53 rfl rfl (fun Γ hP hn => ?_)
 have hm:Try.prog.follows .mixedOrders=true:=by kernel_rfl
 replace hn:Γ.n=38:=hn
 refine sO hP hn hm [(0,.k 0)] [(2,.ptr 0 0 0)] [1,2] [(0,some (.box 52 (Za a0)))] [0] ?_
 refine sO hP hn hm [] [(5,.none0)] [1,2,5] [] [0] ?_
 refine AWp.seq ?_
 obtain⟨t2914,e2915,H⟩:=Z4 H
 refine sR hP hn hm [(1,.call [] [(0,1)] [] [1] 0 (.own 0) [(0,some (.row 1 3 (t2914.map (Z1 .i64))))]),(2,.any (iV .i64 (t2914.length:Int)))] [(9,.own 1),(10,iV .i64 (t2914.length:Int)),(11,iV .i64 0)] [1,5,9,10,11] [(1,some (.row 1 3 (t2914.map (Z1 .i64))))] [1] [_,_,((t2914.map (Z1 .i64)).length:Int)=(t2914.length:Int)] ⟨Try.call38,Zg.ok a0 t2914 e2915,by rw[Zi],trivial⟩ ?_
 refine AWp.block ?_
 obtain⟨o2971,e2972,H⟩:=Z4 H
 refine AWp.loop (LWp.conv (inv:=[(1,8)]) (vk:=[]) (e0:=[7]) (t:=⟨[(1,.im (.row (a1.map (Z1 .u64)))),(5,.own 7),(9,.own 8),(10,iV .i64 (t2914.length:Int)),(11,iV .i64 0)],[(7,some (.row 2 78 ([].map Z0))),(8,some (.row 1 3 (t2914.map (Z1 .i64))))],0⟩) (by kernel_rfl) ?_)
 refine LWp.mono (Q:=fun e s=>(match (generalizing:=false) o2971 with | x2970=>e = .exit 0∧s=⟨[(5,.own 15)],[(15,some (.row 2 78 (x2970.map Z0)))],0⟩)) (LWp.cv (Zt (fun body hbody => ?_))) ?_
 ·refine            Z14.l0.partial_correctness a1 t2914 (motive:=fun x2942 x2943 o2971=>LWp Γ body (fun e s=>∃ t,Cv Γ s t∧(match (generalizing:=false) o2971 with | x2970=>e = .exit 0∧t=⟨[(5,.own 15)],[(15,some (.row 2 78 (x2970.map Z0     )))],0⟩)) ⟨[(1,.im (.row (a1.map (Z1     .u64)))),(5,.own 7),(9,.own 8),(10,iV .i64 (t2914.length:Int)),(11,iV .i64 x2943)],[(7,some (.row 2 78 (x2942.map Z0     ))),(8,some (.row 1 3 (t2914.map (Z1     .i64))))],0⟩) ?_ _ _ _ e2972
  clear H e2972 o2971;intro self ih x2942 x2943 o2971 H
  subst hbody
  refine LWp.round ?_
  refine sO hP hn hm [] [(12,bV (decide (x2943<(t2914.length:Int))))] [1,5,9,10,11,12] [] [7,8] ?_
  refine AWp.seq ?_
  refine AWp.cond (decide (x2943<(t2914.length:Int))) (by kernel_rfl) (fun c2944 => ?_) (fun c2944 => ?_)
  ·replace H:=iT c2944 H
   refine AWp.skip ?_
   refine AWp.seq ?_
   refine AWp.block ?_
   obtain⟨b2948,p2949,q2950,H⟩:=Z0d H
   refine sR hP hn hm [(2,.c ((Z1 .i64) b2948))] [(6,iV .i64 x2943),(7,iV .i64 b2948)] [1,5,6,7,9,10,11] [] [7,8] [_,_,_] ⟨p2949,Z1g (Z1 .i64) p2949 q2950,Zk (Z1 .i64) q2950,trivial⟩ ?_
   refine AWp.seq ?_
   obtain⟨o2973,e2974,H⟩:=Z4 H
   refine AWp.mono (Q:=fun e s=>(match (generalizing:=false) o2973 with | x2959=>e = .normal∧s=⟨[(1,.im (.row (a1.map (Z1 .u64)))),(5,.own 9),(6,iV .i64 x2943),(7,iV .i64 b2948),(9,.own 10),(10,iV .i64 (t2914.length:Int)),(11,iV .i64 x2943),(26,bV x2959)],[(9,some (.row 2 78 (x2942.map Z0))),(10,some (.row 1 3 (t2914.map (Z1 .i64))))],0⟩)) (AWp.cv ?_) ?_
   ·replace H:=e2974;clear e2974
    rcases Bool.eq_false_or_eq_true (decide (x2943<(a1.length:Int))) with c2955 | c2955
    ·replace H:=iT c2955 H
     obtain⟨b2956,p2957,q2958,H⟩:=Z0d H
     refine rG hP hn hm [(2,.any (iV .i64 (a1.length:Int))),(4,.b true),(7,.c ((Z1 .u64) b2956))] [(21,.im (.row (a1.map (Z1 .u64)))),(22,iV .i64 x2943),(23,.ip [iI .u64 b2956]),(24,iV .u64 b2956),(25,bV (decide (b2956>(0:Int)))),(26,bV (decide (b2956>(0:Int))))] [1,5,6,7,9,10,11,21,22,23,24,25,26] [] [7,8] [((a1.map (Z1 .u64)).length:Int)=(a1.length:Int),_,_,_] ⟨by rw[Zi],c2955,p2957,Zk (Z1 .u64) q2958,trivial⟩ ?_
     obtain rfl:=sj H
     exact lf [(7,9),(8,10)] [] [] (by kernel_rfl) ⟨rfl,rfl⟩
    ·replace H:=iF c2955 H
     refine rG hP hn hm [(2,.any (iV .i64 (a1.length:Int))),(4,.b false)] [(26,bV false)] [1,5,6,7,9,10,11,26] [] [7,8] [((a1.map (Z1 .u64)).length:Int)=(a1.length:Int),_] ⟨by rw[Zi],c2955,trivial⟩ ?_
     obtain rfl:=sj H
     exact lf [(7,9),(8,10)] [] [] (by kernel_rfl) ⟨rfl,rfl⟩
   ·obtain⟨x2959,rfl⟩:∃ z,z=o2973:=⟨_,rfl⟩
    rintro e s ⟨rfl,rfl⟩
    obtain⟨o2975,e2976,H⟩:=Z4 H
    refine AWp.mono (Q:=fun e s=>(match (generalizing:=false) o2975 with | x2969=>e = .normal∧s=⟨[(1,.im (.row (a1.map (Z1 .u64)))),(5,.own 13),(9,.own 14),(10,iV .i64 (t2914.length:Int)),(11,iV .i64 x2943)],[(13,some (.row 2 78 (x2969.map Z0))),(14,some (.row 1 3 (t2914.map (Z1 .i64))))],0⟩)) (AWp.cv ?_) ?_
    ·replace H:=e2976;clear e2976
     refine AWp.cond x2959 (by kernel_rfl) (fun c2960 => ?_) (fun c2960 => ?_)
     ·replace H:=iT c2960 H
      obtain⟨b2965,p2966,q2967,H⟩:=Z0d H
      obtain⟨c2968,H⟩:=Z0x H
      refine rG hP hn hm [(4,.c ((Z1 .u64) b2965)),(7,.app 11 ([(⟨b2948,b2965⟩:Z2)].map Z0)),(8,.app 12 ((x2942++[(⟨b2948,b2965⟩:Z2)]).map Z0))] [(5,.own 12)] [1,5,9,10,11] [(12,some (.row 2 78 ((x2942++[(⟨b2948,b2965⟩:Z2)]).map Z0)))] [10,12] [_,_,[(⟨b2948,b2965⟩:Z2)].map Z0=[[iI .i64 b2948,iI .u64 b2965]],(x2942++[(⟨b2948,b2965⟩:Z2)]).map Z0=(x2942.map Z0)++([(⟨b2948,b2965⟩:Z2)].map Z0),∀ c∈([(⟨b2948,b2965⟩:Z2)].map Z0),c.length=2,∀ c∈([(⟨b2948,b2965⟩:Z2)].map Z0),Z0k (c.map .im)=true,((x2942.map Z0).length+([(⟨b2948,b2965⟩:Z2)].map Z0).length)*16≤140737488355328] ⟨p2966,Zk (Z1 .u64) q2967,by exact rfl,by simp,by exact Z0o _ _ _ (fun _=>rfl),by exact Z0p _ _ (fun _=>rfl),by simpa using c2968,trivial⟩ ?_
      obtain rfl:=sj H
      exact lf [(12,13),(10,14)] [] [] (by kernel_rfl) ⟨rfl,rfl⟩
     ·replace H:=iF c2960 H
      refine AWp.skip ?_
      obtain rfl:=sj H
      exact lf [(9,13),(10,14)] [] [] (by kernel_rfl) ⟨rfl,rfl⟩
    ·obtain⟨x2969,rfl⟩:∃ z,z=o2975:=⟨_,rfl⟩
     rintro e s ⟨rfl,rfl⟩
     refine rO hP hn hm [] [(11,iV .i64 (i64.wrap (x2943+(1:Int))))] [1,5,9,10,11] [] [13,14] ?_
     exact LWp.conv [(13,7),(14,8)] [] [] (by kernel_rfl) (ih _ _ _ H)
  ·replace H:=iF c2944 H
   refine AWp.exit ?_
   obtain rfl:=sj H
   exact lf [(7,15)] [] [] (by kernel_rfl) ⟨rfl,rfl⟩
 ·obtain⟨x2970,rfl⟩:∃ z,z=o2971:=⟨_,rfl⟩
  rintro e s ⟨rfl,rfl⟩
  refine sO hP hn hm [] [(4,.own 15)] [4] [] [15] ?_
  refine AWp.conv (inv:=[(15,0)]) (vk:=[]) (e0:=[]) (t:=⟨[(4,.own 0)],[(0,some (.row 2 78 (x2970.map Z0)))],0⟩) (by kernel_rfl) ?_
  refine AWp.ret ?_
  obtain rfl:=sj H
  exact rl (.inl rfl) rfl (by kernel_rfl) (by kernel_rfl)
def Z04.l1 (a0_c0:List Int) (a1:Zj) (a2:Zb) (a3:Zb) (t2846:Int×Int×Int) (t2850:List Int) (t2854:List Int) (x3206:Int) (x3208:List Zd) (x3209:Int) (x3237:Int) (x3303:Int) (x3304:Int) (x3305:List Int) (x3306:List Int) (x3307:Int):Option (Int×Int×(List Int)×(List Int)):=if(decide (x3307<(i64.wrap ((i64.wrap ((2:Int)+(t2850.length:Int)))+(t2854.length:Int)))))=true then(((if(x3209==(0:Int))=true then((Zr.f a0_c0 x3303 x3304)>>=fun t3315=>(at? x3305 x3307)>>=fun b3317=>some (t3315.2.1,t3315.2.2,x3305.set (Int.toNat (x3307)) t3315.1,x3306)) else(((if(x3209==(1:Int))=true then((Zy.f a0_c0 x3303 x3304)>>=fun t3326=>(at? x3306 x3307)>>=fun b3328=>(at? x3305 x3307)>>=fun b3337=>(at? (x3306.set (Int.toNat (x3307)) (u64.wrap (t3326.1))) x3307)>>=fun b3340=>some (t3326.2.1,t3326.2.2,x3305.set (Int.toNat (x3307)) (u64.wrap (b3337+b3340)),x3306.set (Int.toNat (x3307)) (u64.wrap (t3326.1)))) else((at? x3306 x3307)>>=fun b3348=>(Zy.f a0_c0 x3303 x3304)>>=fun t3351=>(at? x3305 x3307)>>=fun b3359=>(at? (x3306.set (Int.toNat (x3307)) (u64.wrap (b3348+(u64.wrap (t3351.1))))) x3307)>>=fun b3362=>some (t3351.2.1,t3351.2.2,x3305.set (Int.toNat (x3307)) (u64.wrap (b3359+b3362)),x3306.set (Int.toNat (x3307)) (u64.wrap (b3348+(u64.wrap (t3351.1))))))):Option (Int×Int×(List Int)×(List Int)))>>=fun oo=>match oo with | (x3365,x3366,x3367,x3368)=>(some (x3365,x3366,x3367,x3368)))):Option (Int×Int×(List Int)×(List Int)))>>=fun oo=>match oo with | (x3369,x3370,x3371,x3372)=>(Z04.l1 a0_c0 a1 a2 a3 t2846 t2850 t2854 x3206 x3208 x3209 x3237 x3369 x3370 x3371 x3372 (i64.wrap (x3307+(1:Int))))) else(some (x3303,x3304,x3305,x3306))
partial_fixpoint
def Z04.l0 (a0_c0:List Int) (a1:Zj) (a2:Zb) (a3:Zb) (t2846:Int×Int×Int) (t2850:List Int) (t2854:List Int) (v:Int×Int×(List Int)×(List Int)×Int×Int×(List Zd)×Int):Option ((List Zd)×Int×Int):=match v with
 | (x3202,x3203,x3204,x3205,x3206,x3207,x3208,x3209)=>((if(decide (x3209<(i64.wrap ((1:Int)+t2846.1))))=true then((Z0a.f a0_c0 x3202 x3203)>>=fun t3214=>some (x3203==(0:Int))) else(some false)):Option (Bool))>>=fun x3216=>if x3216=true then(((if(x3209==(0:Int))=true then((Zm.f a0_c0 x3202 x3203 1099511627776)>>=fun t3221=>some (t3221.2.1,t3221.2.2,t3221.1)) else(((if(x3209==(1:Int))=true then((Zm.f a0_c0 x3202 x3203 1099511627776)>>=fun t3226=>some (t3226.2.1,t3226.2.2,i64.wrap ((i64.wrap (x3206+(1:Int)))+t3226.1))) else((Zy.f a0_c0 x3202 x3203)>>=fun t3230=>some (t3230.2.1,t3230.2.2,i64.wrap ((i64.wrap (x3206+x3207))+t3230.1)))):Option (Int×Int×Int))>>=fun oo=>match oo with | (x3232,x3233,x3234)=>(some (x3232,x3233,x3234)))):Option (Int×Int×Int))>>=fun oo=>match oo with | (x3235,x3236,x3237)=>((Z04.l1 a0_c0 a1 a2 a3 t2846 t2850 t2854 x3206 x3208 x3209 x3237 x3235 x3236 x3204 x3205 0)>>=fun oo=>match oo with | (x3373,x3374,x3375,x3376)=>((at? x3375 0)>>=fun b3383=>(at? x3375 1)>>=fun b3386=>(chk (0≤(2:Int)∧(2:Int)≤(i64.wrap ((2:Int)+(t2850.length:Int)))∧(i64.wrap ((2:Int)+(t2850.length:Int)))≤(x3375.length:Int)))>>=fun _=>(Z14.f a2 ((x3375.drop (Int.toNat (2:Int))).take (Int.toNat (i64.wrap ((2:Int)+(t2850.length:Int)))-Int.toNat (2:Int))))>>=fun t3396=>(chk (0≤(i64.wrap ((2:Int)+(t2850.length:Int)))∧(i64.wrap ((2:Int)+(t2850.length:Int)))≤(x3375.length:Int)∧(x3375.length:Int)≤(x3375.length:Int)))>>=fun _=>(Z14.f a3 ((x3375.drop (Int.toNat (i64.wrap ((2:Int)+(t2850.length:Int))))).take (Int.toNat (x3375.length:Int)-Int.toNat (i64.wrap ((2:Int)+(t2850.length:Int))))))>>=fun t3399=>(Z1x.f (⟨a1.f0,a1.f1,a1.f2,b3383,a1.f4,i64.wrap (b3386),t3396,t3399⟩:Zj) t3396 t3399)>>=fun t3405=>(chk ((x3208.length+[(⟨x3237,(t3405.1)⟩:Zd)].length)*104≤140737488355328))>>=fun _=>Z04.l0 a0_c0 a1 a2 a3 t2846 t2850 t2854 (x3373,x3374,x3375,x3376,x3237,i64.wrap (x3237-x3206),x3208++[(⟨x3237,(t3405.1)⟩:Zd)],i64.wrap (x3209+(1:Int)))))) else(some (x3208,x3202,x3203))
partial_fixpoint
def Z04.f (a0_c0:List Int) (a0_c1:Int) (a0_c2:Int) (a1:Zj) (a2:Zb) (a3:Zb):Option ((List Zd)×Int×Int):=(Zm.f a0_c0 a0_c1 a0_c2 31)>>=fun t2846=>(Zg.f a2)>>=fun t2850=>(Zg.f a3)>>=fun t2854=>(chk (0≤(i64.wrap ((i64.wrap ((2:Int)+(t2850.length:Int)))+(t2854.length:Int)))∧(i64.wrap ((i64.wrap ((2:Int)+(t2850.length:Int)))+(t2854.length:Int)))≤(i64.wrap ((i64.wrap ((2:Int)+(t2850.length:Int)))+(t2854.length:Int)))∧((8:Nat):Int)*(i64.wrap ((i64.wrap ((2:Int)+(t2850.length:Int)))+(t2854.length:Int)))≤281474976710656∧(i64.wrap ((i64.wrap ((2:Int)+(t2850.length:Int)))+(t2854.length:Int)))≤9223372036854775807))>>=fun _=>(Z04.l0 a0_c0 a1 a2 a3 t2846 t2850 t2854 (t2846.2.1,t2846.2.2,List.replicate (Int.toNat (i64.wrap ((i64.wrap ((2:Int)+(t2850.length:Int)))+(t2854.length:Int)))) 0,List.replicate (Int.toNat (i64.wrap ((i64.wrap ((2:Int)+(t2850.length:Int)))+(t2854.length:Int)))) 0,0,0,[],0))>>=fun oo=>match oo with | (x3409,x3410,x3411)=>(some (x3409,x3410,x3411))
theorem Z04.ok (a0_c0:List Int) (a0_c1:Int) (a0_c2:Int) (a1:Zj) (a2:Zb) (a3:Zb) (r:(List Zd)×Int×Int) (H:Z04.f a0_c0 a0_c1 a0_c2 a1 a2 a3=some r):Pv.Fn Try.prog 28 [.ptr 0 0 0,.agg (Zn a1),.agg (Za a2),.agg (Za a3)] [(0,some (.box 94 (Z3 ⟨a0_c0,a0_c1,a0_c2⟩)))] 1 (fun x o=>x = .own 1∧o=[(0,some (.box 94 (Z3 ⟨a0_c0,r.2.1,r.2.2⟩))),(1,some (.row 9 38 (r.1.map Z7)))]):=by
 unfold Z04.f at H
 refine Fn.bodyK [0,1] Try.func28 rfl rfl (fun Γ hP hn => ?_)
 have hm:Try.prog.follows .mixedOrders=true:=by kernel_rfl
 replace hn:Γ.n=167:=hn
 refine sO hP hn hm [(0,.k 1),(1,.k 2),(2,.k 3)] [(5,.ptr 1 0 0),(6,.ptr 2 0 0),(7,.ptr 3 0 0)] [0,5,6,7] [(1,some (.box 36 (Zn a1))),(2,some (.box 52 (Za a2))),(3,some (.box 52 (Za a3)))] [0,1,2,3] ?_
 obtain⟨t2846,e2847,H⟩:=Z4 H
 refine sR hP hn hm [(1,.call [(0,0)] [(0,0)] [] [] 1 (iV .i64 t2846.1) [(0,some (.box 94 (Z3 ⟨a0_c0,t2846.2.1,t2846.2.2⟩)))])] [(9,iV .i64 (i64.wrap ((1:Int)+t2846.1)))] [0,5,6,7,9] [(0,some (.box 94 (Z3 ⟨a0_c0,t2846.2.1,t2846.2.2⟩)))] [0,1,2,3] [_,_] ⟨Try.call50,Zm.ok a0_c0 a0_c1 a0_c2 31 t2846 e2847,trivial⟩ ?_
 obtain⟨t2850,e2851,H⟩:=Z4 H
 refine sR hP hn hm [(1,.call [] [(0,4)] [] [4] 0 (.own 0) [(0,some (.row 1 3 (t2850.map (Z1 .i64))))]),(2,.any (iV .i64 (t2850.length:Int)))] [(10,iV .i64 (t2850.length:Int))] [0,5,6,7,9,10] [] [0,1,2,3] [_,_,((t2850.map (Z1 .i64)).length:Int)=(t2850.length:Int)] ⟨Try.call38,Zg.ok a2 t2850 e2851,by rw[Zi],trivial⟩ ?_
 obtain⟨t2854,e2855,H⟩:=Z4 H
 refine sR hP hn hm [(3,.call [] [(0,5)] [] [5] 0 (.own 0) [(0,some (.row 1 3 (t2854.map (Z1 .i64))))]),(4,.any (iV .i64 (t2854.length:Int)))] [(11,iV .i64 (i64.wrap ((i64.wrap ((2:Int)+(t2850.length:Int)))+(t2854.length:Int))))] [0,5,6,7,9,10,11] [] [0,1,2,3] [_,_,((t2854.map (Z1 .i64)).length:Int)=(t2854.length:Int)] ⟨Try.call38,Zg.ok a3 t2854 e2855,by rw[Zi],trivial⟩ ?_
 obtain⟨c2857,H⟩:=Z0x H
 refine sR hP hn hm [(1,.more (xMake 6 ((List.replicate (Int.toNat (i64.wrap ((i64.wrap ((2:Int)+(t2850.length:Int)))+(t2854.length:Int)))) 0).map (Z1 .u64)))),(3,.more (xMake 7 ((List.replicate (Int.toNat (i64.wrap ((i64.wrap ((2:Int)+(t2850.length:Int)))+(t2854.length:Int)))) 0).map (Z1 .u64))))] [(12,.own 6),(13,.own 7)] [0,5,6,7,9,10,11,12,13] [(6,some (.row 1 33 ((List.replicate (Int.toNat (i64.wrap ((i64.wrap ((2:Int)+(t2850.length:Int)))+(t2854.length:Int)))) 0).map (Z1 .u64)))),(7,some (.row 1 33 ((List.replicate (Int.toNat (i64.wrap ((i64.wrap ((2:Int)+(t2850.length:Int)))+(t2854.length:Int)))) 0).map (Z1 .u64))))] [0,1,2,3,6,7] [(List.replicate (Int.toNat (i64.wrap ((i64.wrap ((2:Int)+(t2850.length:Int)))+(t2854.length:Int)))) 0).map (Z1 .u64)=List.replicate (Int.toNat (i64.wrap ((i64.wrap ((2:Int)+(t2850.length:Int)))+(t2854.length:Int)))) [iI .u64 0],0≤(i64.wrap ((i64.wrap ((2:Int)+(t2850.length:Int)))+(t2854.length:Int))),(i64.wrap ((i64.wrap ((2:Int)+(t2850.length:Int)))+(t2854.length:Int)))≤(i64.wrap ((i64.wrap ((2:Int)+(t2850.length:Int)))+(t2854.length:Int))),((8:Nat):Int)*(i64.wrap ((i64.wrap ((2:Int)+(t2850.length:Int)))+(t2854.length:Int)))≤281474976710656,(i64.wrap ((i64.wrap ((2:Int)+(t2850.length:Int)))+(t2854.length:Int)))≤9223372036854775807,(List.replicate (Int.toNat (i64.wrap ((i64.wrap ((2:Int)+(t2850.length:Int)))+(t2854.length:Int)))) 0).map (Z1 .u64)=List.replicate (Int.toNat (i64.wrap ((i64.wrap ((2:Int)+(t2850.length:Int)))+(t2854.length:Int)))) [iI .u64 0],0≤(i64.wrap ((i64.wrap ((2:Int)+(t2850.length:Int)))+(t2854.length:Int))),(i64.wrap ((i64.wrap ((2:Int)+(t2850.length:Int)))+(t2854.length:Int)))≤(i64.wrap ((i64.wrap ((2:Int)+(t2850.length:Int)))+(t2854.length:Int))),((8:Nat):Int)*(i64.wrap ((i64.wrap ((2:Int)+(t2850.length:Int)))+(t2854.length:Int)))≤281474976710656,(i64.wrap ((i64.wrap ((2:Int)+(t2850.length:Int)))+(t2854.length:Int)))≤9223372036854775807] ⟨by simp,by exact c2857.1,by exact c2857.2.1,by exact c2857.2.2.1,by exact c2857.2.2.2,by simp,by exact c2857.1,by exact c2857.2.1,by exact c2857.2.2.1,by exact c2857.2.2.2,trivial⟩ ?_
 refine sO hP hn hm [] [(14,iV .i64 0),(15,iV .i64 0)] [0,5,6,7,9,10,11,12,13,14,15] [] [0,1,2,3,6,7] ?_
 refine sO hP hn hm [] [(16,.none0)] [0,5,6,7,9,10,11,12,13,14,15,16] [] [0,1,2,3,6,7] ?_
 refine AWp.seq ?_
 refine sO hP hn hm [] [(17,iV .i64 0)] [0,5,6,7,9,10,11,12,13,14,15,16,17] [] [0,1,2,3,6,7] ?_
 refine AWp.block ?_
 obtain⟨o3412,e3413,H⟩:=Z4 H
 refine AWp.loop (LWp.conv (inv:=[(0,0),(1,93),(2,94),(3,95),(6,96),(7,97)]) (vk:=[]) (e0:=[98]) (t:=⟨[(0,.ptr 0 0 0),(5,.ptr 93 0 0),(6,.ptr 94 0 0),(7,.ptr 95 0 0),(9,iV .i64 (i64.wrap ((1:Int)+t2846.1))),(10,iV .i64 (t2850.length:Int)),(11,iV .i64 (i64.wrap ((i64.wrap ((2:Int)+(t2850.length:Int)))+(t2854.length:Int)))),(12,.own 96),(13,.own 97),(14,iV .i64 0),(15,iV .i64 0),(16,.own 98),(17,iV .i64 0)],[(0,some (.box 94 (Z3 ⟨a0_c0,t2846.2.1,t2846.2.2⟩))),(93,some (.box 36 (Zn a1))),(94,some (.box 52 (Za a2))),(95,some (.box 52 (Za a3))),(96,some (.row 1 33 ((List.replicate (Int.toNat (i64.wrap ((i64.wrap ((2:Int)+(t2850.length:Int)))+(t2854.length:Int)))) 0).map (Z1 .u64)))),(97,some (.row 1 33 ((List.replicate (Int.toNat (i64.wrap ((i64.wrap ((2:Int)+(t2850.length:Int)))+(t2854.length:Int)))) 0).map (Z1 .u64)))),(98,some (.row 9 38 ([].map Z7)))],1⟩) (by kernel_rfl) ?_)
 refine LWp.mono (Q:=fun e s=>(match (generalizing:=false) o3412 with | (x3409,x3410,x3411)=>e = .exit 0∧s=⟨[(16,.own 158)],[(0,some (.box 94 (Z3 ⟨a0_c0,x3410,x3411⟩))),(158,some (.row 9 38 (x3409.map Z7)))],1⟩)) (LWp.cv (Zt (fun body hbody => ?_))) ?_
 ·refine                 Z04.l0.partial_correctness a0_c0 a1 a2 a3 t2846 t2850 t2854 (motive:=fun v o3412=>(match (generalizing:=false) v with | (x3202,x3203,x3204,x3205,x3206,x3207,x3208,x3209)=>LWp Γ body (fun e s=>∃ t,Cv Γ s t∧(match (generalizing:=false) o3412 with | (x3409,x3410,x3411)=>e = .exit 0∧t=⟨[(16,.own 158)],[(0,some (.box 94 (Z3           ⟨a0_c0,x3410,x3411⟩))),(158,some (.row 9 38 (x3409.map Z7     )))],1⟩)) ⟨[(0,.ptr 0 0 0),(5,.ptr 93 0 0),(6,.ptr 94 0 0),(7,.ptr 95 0 0),(9,iV .i64 (i64.wrap ((1:Int)+t2846.1))),(10,iV .i64 (t2850.length:Int)),(11,iV .i64 (i64.wrap ((i64.wrap ((2:Int)+(t2850.length:Int)))+(t2854.length:Int)))),(12,.own 96),(13,.own 97),(14,iV .i64 x3206),(15,iV .i64 x3207),(16,.own 98),(17,iV .i64 x3209)],[(0,some (.box 94 (Z3           ⟨a0_c0,x3202,x3203⟩))),(93,some (.box 36 (Zn    a1))),(94,some (.box 52 (Za           a2))),(95,some (.box 52 (Za           a3))),(96,some (.row 1 33 (x3204.map (Z1     .u64)))),(97,some (.row 1 33 (x3205.map (Z1     .u64)))),(98,some (.row 9 38 (x3208.map Z7     )))],1⟩)) ?_ _ _ e3413
  clear H e3413 o3412;intro self ih v o3412 H
  obtain⟨x3202,x3203,x3204,x3205,x3206,x3207,x3208,x3209⟩:=v
  dsimp only at H
  subst hbody
  refine LWp.round ?_
  refine AWp.seq ?_
  refine AWp.seq ?_
  obtain⟨o3414,e3415,H⟩:=Z4 H
  refine AWp.mono (Q:=fun e s=>(match (generalizing:=false) o3414 with | x3216=>e = .normal∧s=⟨[(0,.ptr 0 0 0),(5,.ptr 99 0 0),(6,.ptr 100 0 0),(7,.ptr 101 0 0),(9,iV .i64 (i64.wrap ((1:Int)+t2846.1))),(10,iV .i64 (t2850.length:Int)),(11,iV .i64 (i64.wrap ((i64.wrap ((2:Int)+(t2850.length:Int)))+(t2854.length:Int)))),(12,.own 102),(13,.own 103),(14,iV .i64 x3206),(15,iV .i64 x3207),(16,.own 104),(17,iV .i64 x3209),(44,bV x3216)],[(0,some (.box 94 (Z3 ⟨a0_c0,x3202,x3203⟩))),(99,some (.box 36 (Zn a1))),(100,some (.box 52 (Za a2))),(101,some (.box 52 (Za a3))),(102,some (.row 1 33 (x3204.map (Z1 .u64)))),(103,some (.row 1 33 (x3205.map (Z1 .u64)))),(104,some (.row 9 38 (x3208.map Z7)))],1⟩)) (AWp.cv ?_) ?_
  ·replace H:=e3415;clear e3415
   rcases Bool.eq_false_or_eq_true (decide (x3209<(i64.wrap ((1:Int)+t2846.1)))) with c3213 | c3213
   ·replace H:=iT c3213 H
    obtain⟨t3214,e3215,H⟩:=Z4 H
    refine rG hP hn hm [(3,.b true),(5,.call [(0,0)] [(0,0)] [] [] 1 (iV .i64 x3203) [(0,some (.box 94 (Z3 ⟨a0_c0,x3202,x3203⟩)))])] [(41,.ptr 0 0 0),(42,iV .i64 x3203),(43,bV (x3203==(0:Int))),(44,bV (x3203==(0:Int)))] [0,5,6,7,9,10,11,12,13,14,15,16,17,41,42,43,44] [] [0,93,94,95,96,97,98] [_,_,_] ⟨c3213,Try.call51,Z0a.ok a0_c0 x3202 x3203 t3214 e3215,trivial⟩ ?_
    obtain rfl:=sj H
    exact lf [(0,0),(93,99),(94,100),(95,101),(96,102),(97,103),(98,104)] [] [] (by kernel_rfl) ⟨rfl,rfl⟩
   ·replace H:=iF c3213 H
    refine rG hP hn hm [(3,.b false)] [(44,bV false)] [0,5,6,7,9,10,11,12,13,14,15,16,17,44] [] [0,93,94,95,96,97,98] [_] ⟨c3213,trivial⟩ ?_
    obtain rfl:=sj H
    exact lf [(0,0),(93,99),(94,100),(95,101),(96,102),(97,103),(98,104)] [] [] (by kernel_rfl) ⟨rfl,rfl⟩
  ·obtain⟨x3216,rfl⟩:∃ z,z=o3414:=⟨_,rfl⟩
   rintro e s ⟨rfl,rfl⟩
   refine AWp.cond x3216 (by kernel_rfl) (fun c3217 => ?_) (fun c3217 => ?_)
   ·replace H:=iT c3217 H
    refine AWp.skip ?_
    refine AWp.seq ?_
    refine AWp.block ?_
    refine sO hP hn hm [] [] [0,5,6,7,9,10,11,12,13,14,15,16,17] [] [0,99,100,101,102,103,104] ?_
    refine AWp.seq ?_
    refine sO hP hn hm [] [(47,iV .i64 x3209)] [0,5,6,7,9,10,11,12,13,14,15,16,17,47] [] [0,99,100,101,102,103,104] ?_
    refine AWp.block ?_
    refine sO hP hn hm [] [(54,bV (x3209==(0:Int)))] [0,5,6,7,9,10,11,12,13,14,15,16,17,47,54] [] [0,99,100,101,102,103,104] ?_
    obtain⟨o3416,e3417,H⟩:=Z4 H
    refine AWp.mono (Q:=fun e s=>(match (generalizing:=false) o3416 with | (x3235,x3236,x3237)=>e = .normal∧s=⟨[(0,.ptr 0 0 0),(5,.ptr 111 0 0),(6,.ptr 112 0 0),(7,.ptr 113 0 0),(9,iV .i64 (i64.wrap ((1:Int)+t2846.1))),(10,iV .i64 (t2850.length:Int)),(11,iV .i64 (i64.wrap ((i64.wrap ((2:Int)+(t2850.length:Int)))+(t2854.length:Int)))),(12,.own 114),(13,.own 115),(14,iV .i64 x3206),(16,.own 116),(17,iV .i64 x3209),(18,iV .i64 x3237)],[(0,some (.box 94 (Z3 ⟨a0_c0,x3235,x3236⟩))),(111,some (.box 36 (Zn a1))),(112,some (.box 52 (Za a2))),(113,some (.box 52 (Za a3))),(114,some (.row 1 33 (x3204.map (Z1 .u64)))),(115,some (.row 1 33 (x3205.map (Z1 .u64)))),(116,some (.row 9 38 (x3208.map Z7)))],1⟩)) (AWp.cv ?_) ?_
    ·replace H:=e3417;clear e3417
     refine AWp.cond (x3209==(0:Int)) (by kernel_rfl) (fun c3218 => ?_) (fun c3218 => ?_)
     ·replace H:=iT c3218 H
      obtain⟨t3221,e3222,H⟩:=Z4 H
      refine rG hP hn hm [(1,.call [(0,0)] [(0,0)] [] [] 1 (iV .i64 t3221.1) [(0,some (.box 94 (Z3 ⟨a0_c0,t3221.2.1,t3221.2.2⟩)))])] [(18,iV .i64 t3221.1)] [0,5,6,7,9,10,11,12,13,14,16,17,18] [(0,some (.box 94 (Z3 ⟨a0_c0,t3221.2.1,t3221.2.2⟩)))] [0,99,100,101,102,103,104] [_,_] ⟨Try.call50,Zm.ok a0_c0 x3202 x3203 1099511627776 t3221 e3222,trivial⟩ ?_
      obtain rfl:=sj H
      exact lf [(0,0),(99,111),(100,112),(101,113),(102,114),(103,115),(104,116)] [] [] (by kernel_rfl) ⟨rfl,rfl⟩
     ·replace H:=iF c3218 H
      refine sO hP hn hm [] [(58,bV (x3209==(1:Int)))] [0,5,6,7,9,10,11,12,13,14,15,16,17,58] [] [0,99,100,101,102,103,104] ?_
      obtain⟨o3418,e3419,H⟩:=Z4 H
      refine AWp.mono (Q:=fun e s=>(match (generalizing:=false) o3418 with | (x3232,x3233,x3234)=>e = .normal∧s=⟨[(0,.ptr 0 0 0),(5,.ptr 105 0 0),(6,.ptr 106 0 0),(7,.ptr 107 0 0),(9,iV .i64 (i64.wrap ((1:Int)+t2846.1))),(10,iV .i64 (t2850.length:Int)),(11,iV .i64 (i64.wrap ((i64.wrap ((2:Int)+(t2850.length:Int)))+(t2854.length:Int)))),(12,.own 108),(13,.own 109),(14,iV .i64 x3206),(16,.own 110),(17,iV .i64 x3209),(18,iV .i64 x3234)],[(0,some (.box 94 (Z3 ⟨a0_c0,x3232,x3233⟩))),(105,some (.box 36 (Zn a1))),(106,some (.box 52 (Za a2))),(107,some (.box 52 (Za a3))),(108,some (.row 1 33 (x3204.map (Z1 .u64)))),(109,some (.row 1 33 (x3205.map (Z1 .u64)))),(110,some (.row 9 38 (x3208.map Z7)))],1⟩)) (AWp.cv ?_) ?_
      ·replace H:=e3419;clear e3419
       refine AWp.cond (x3209==(1:Int)) (by kernel_rfl) (fun c3223 => ?_) (fun c3223 => ?_)
       ·replace H:=iT c3223 H
        obtain⟨t3226,e3227,H⟩:=Z4 H
        refine rG hP hn hm [(3,.call [(0,0)] [(0,0)] [] [] 1 (iV .i64 t3226.1) [(0,some (.box 94 (Z3 ⟨a0_c0,t3226.2.1,t3226.2.2⟩)))])] [(18,iV .i64 (i64.wrap ((i64.wrap (x3206+(1:Int)))+t3226.1)))] [0,5,6,7,9,10,11,12,13,14,16,17,18] [(0,some (.box 94 (Z3 ⟨a0_c0,t3226.2.1,t3226.2.2⟩)))] [0,99,100,101,102,103,104] [_,_] ⟨Try.call50,Zm.ok a0_c0 x3202 x3203 1099511627776 t3226 e3227,trivial⟩ ?_
        obtain rfl:=sj H
        exact lf [(0,0),(99,105),(100,106),(101,107),(102,108),(103,109),(104,110)] [] [] (by kernel_rfl) ⟨rfl,rfl⟩
       ·replace H:=iF c3223 H
        obtain⟨t3230,e3231,H⟩:=Z4 H
        refine rG hP hn hm [(4,.call [(0,0)] [(0,0)] [] [] 1 (iV .i64 t3230.1) [(0,some (.box 94 (Z3 ⟨a0_c0,t3230.2.1,t3230.2.2⟩)))])] [(18,iV .i64 (i64.wrap ((i64.wrap (x3206+x3207))+t3230.1)))] [0,5,6,7,9,10,11,12,13,14,16,17,18] [(0,some (.box 94 (Z3 ⟨a0_c0,t3230.2.1,t3230.2.2⟩)))] [0,99,100,101,102,103,104] [_,_] ⟨Try.call26,Zy.ok a0_c0 x3202 x3203 t3230 e3231,trivial⟩ ?_
        obtain rfl:=sj H
        exact lf [(0,0),(99,105),(100,106),(101,107),(102,108),(103,109),(104,110)] [] [] (by kernel_rfl) ⟨rfl,rfl⟩
      ·obtain⟨x3232,x3233,x3234⟩:=o3418
       rintro e s ⟨rfl,rfl⟩
       obtain rfl:=sj H
       exact lf [(0,0),(105,111),(106,112),(107,113),(108,114),(109,115),(110,116)] [] [] (by kernel_rfl) ⟨rfl,rfl⟩
    ·obtain⟨x3235,x3236,x3237⟩:=o3416
     rintro e s ⟨rfl,rfl⟩
     refine sO hP hn hm [] [(14,iV .i64 x3237),(15,iV .i64 (i64.wrap (x3237-x3206)))] [0,5,6,7,9,10,11,12,13,14,15,16,17,18] [] [0,111,112,113,114,115,116] ?_
     refine AWp.seq ?_
     refine sO hP hn hm [] [(69,iV .i64 (i64.wrap ((i64.wrap ((2:Int)+(t2850.length:Int)))+(t2854.length:Int)))),(70,iV .i64 0)] [0,5,6,7,9,10,11,12,13,14,15,16,17,18,69,70] [] [0,111,112,113,114,115,116] ?_
     refine AWp.block ?_
     obtain⟨o3420,e3421,H⟩:=Z4 H
     refine AWp.loop (LWp.conv (inv:=[(0,0),(111,129),(112,130),(113,131),(114,132),(115,133),(116,134)]) (vk:=[]) (e0:=[]) (t:=⟨[(0,.ptr 0 0 0),(5,.ptr 129 0 0),(6,.ptr 130 0 0),(7,.ptr 131 0 0),(9,iV .i64 (i64.wrap ((1:Int)+t2846.1))),(10,iV .i64 (t2850.length:Int)),(11,iV .i64 (i64.wrap ((i64.wrap ((2:Int)+(t2850.length:Int)))+(t2854.length:Int)))),(12,.own 132),(13,.own 133),(14,iV .i64 x3237),(15,iV .i64 (i64.wrap (x3237-x3206))),(16,.own 134),(17,iV .i64 x3209),(18,iV .i64 x3237),(69,iV .i64 (i64.wrap ((i64.wrap ((2:Int)+(t2850.length:Int)))+(t2854.length:Int)))),(70,iV .i64 0)],[(0,some (.box 94 (Z3 ⟨a0_c0,x3235,x3236⟩))),(129,some (.box 36 (Zn a1))),(130,some (.box 52 (Za a2))),(131,some (.box 52 (Za a3))),(132,some (.row 1 33 (x3204.map (Z1 .u64)))),(133,some (.row 1 33 (x3205.map (Z1 .u64)))),(134,some (.row 9 38 (x3208.map Z7)))],1⟩) (by kernel_rfl) ?_)
     refine LWp.mono (Q:=fun e s=>(match (generalizing:=false) o3420 with | (x3373,x3374,x3375,x3376)=>e = .exit 3∧s=⟨[(0,.ptr 0 0 0),(5,.ptr 147 0 0),(6,.ptr 148 0 0),(7,.ptr 149 0 0),(9,iV .i64 (i64.wrap ((1:Int)+t2846.1))),(10,iV .i64 (t2850.length:Int)),(11,iV .i64 (i64.wrap ((i64.wrap ((2:Int)+(t2850.length:Int)))+(t2854.length:Int)))),(12,.own 150),(13,.own 151),(14,iV .i64 x3237),(15,iV .i64 (i64.wrap (x3237-x3206))),(16,.own 152),(17,iV .i64 x3209),(18,iV .i64 x3237)],[(0,some (.box 94 (Z3 ⟨a0_c0,x3373,x3374⟩))),(147,some (.box 36 (Zn a1))),(148,some (.box 52 (Za a2))),(149,some (.box 52 (Za a3))),(150,some (.row 1 33 (x3375.map (Z1 .u64)))),(151,some (.row 1 33 (x3376.map (Z1 .u64)))),(152,some (.row 9 38 (x3208.map Z7)))],1⟩)) (LWp.cv (Zt (fun body hbody => ?_))) ?_
     ·refine                 Z04.l1.partial_correctness a0_c0 a1 a2 a3 t2846 t2850 t2854 x3206 x3208 x3209 x3237 (motive:=fun x3303 x3304 x3305 x3306 x3307 o3420=>LWp Γ body (fun e s=>∃ t,Cv Γ s t∧(match (generalizing:=false) o3420 with | (x3373,x3374,x3375,x3376)=>e = .exit 3∧t=⟨[(0,.ptr 0 0 0),(5,.ptr 147 0 0),(6,.ptr 148 0 0),(7,.ptr 149 0 0),(9,iV .i64 (i64.wrap ((1:Int)+t2846.1))),(10,iV .i64 (t2850.length:Int)),(11,iV .i64 (i64.wrap ((i64.wrap ((2:Int)+(t2850.length:Int)))+(t2854.length:Int)))),(12,.own 150),(13,.own 151),(14,iV .i64 x3237),(15,iV .i64 (i64.wrap (x3237-x3206))),(16,.own 152),(17,iV .i64 x3209),(18,iV .i64 x3237)],[(0,some (.box 94 (Z3           ⟨a0_c0,x3373,x3374⟩))),(147,some (.box 36 (Zn    a1))),(148,some (.box 52 (Za           a2))),(149,some (.box 52 (Za           a3))),(150,some (.row 1 33 (x3375.map (Z1     .u64)))),(151,some (.row 1 33 (x3376.map (Z1     .u64)))),(152,some (.row 9 38 (x3208.map Z7     )))],1⟩)) ⟨[(0,.ptr 0 0 0),(5,.ptr 129 0 0),(6,.ptr 130 0 0),(7,.ptr 131 0 0),(9,iV .i64 (i64.wrap ((1:Int)+t2846.1))),(10,iV .i64 (t2850.length:Int)),(11,iV .i64 (i64.wrap ((i64.wrap ((2:Int)+(t2850.length:Int)))+(t2854.length:Int)))),(12,.own 132),(13,.own 133),(14,iV .i64 x3237),(15,iV .i64 (i64.wrap (x3237-x3206))),(16,.own 134),(17,iV .i64 x3209),(18,iV .i64 x3237),(69,iV .i64 (i64.wrap ((i64.wrap ((2:Int)+(t2850.length:Int)))+(t2854.length:Int)))),(70,iV .i64 x3307)],[(0,some (.box 94 (Z3           ⟨a0_c0,x3303,x3304⟩))),(129,some (.box 36 (Zn    a1))),(130,some (.box 52 (Za           a2))),(131,some (.box 52 (Za           a3))),(132,some (.row 1 33 (x3305.map (Z1     .u64)))),(133,some (.row 1 33 (x3306.map (Z1     .u64)))),(134,some (.row 9 38 (x3208.map Z7     )))],1⟩) ?_ _ _ _ _ _ _ e3421
      clear H e3421 o3420;intro self ih x3303 x3304 x3305 x3306 x3307 o3420 H
      subst hbody
      refine LWp.round ?_
      refine sO hP hn hm [] [(71,bV (decide (x3307<(i64.wrap ((i64.wrap ((2:Int)+(t2850.length:Int)))+(t2854.length:Int))))))] [0,5,6,7,9,10,11,12,13,14,15,16,17,18,69,70,71] [] [0,129,130,131,132,133,134] ?_
      refine AWp.seq ?_
      refine AWp.cond (decide (x3307<(i64.wrap ((i64.wrap ((2:Int)+(t2850.length:Int)))+(t2854.length:Int))))) (by kernel_rfl) (fun c3308 => ?_) (fun c3308 => ?_)
      ·replace H:=iT c3308 H
       refine AWp.skip ?_
       refine AWp.seq ?_
       refine AWp.block ?_
       refine sO hP hn hm [] [(19,iV .i64 x3307)] [0,5,6,7,9,10,11,12,13,14,15,16,17,18,19,69,70] [] [0,129,130,131,132,133,134] ?_
       refine sO hP hn hm [] [(73,iV .i64 x3209)] [0,5,6,7,9,10,11,12,13,14,15,16,17,18,19,69,70,73] [] [0,129,130,131,132,133,134] ?_
       refine AWp.block ?_
       refine sO hP hn hm [] [(93,bV (x3209==(0:Int)))] [0,5,6,7,9,10,11,12,13,14,15,16,17,18,19,69,70,73,93] [] [0,129,130,131,132,133,134] ?_
       obtain⟨o3422,e3423,H⟩:=Z4 H
       refine AWp.mono (Q:=fun e s=>(match (generalizing:=false) o3422 with | (x3369,x3370,x3371,x3372)=>e = .normal∧s=⟨[(0,.ptr 0 0 0),(5,.ptr 141 0 0),(6,.ptr 142 0 0),(7,.ptr 143 0 0),(9,iV .i64 (i64.wrap ((1:Int)+t2846.1))),(10,iV .i64 (t2850.length:Int)),(11,iV .i64 (i64.wrap ((i64.wrap ((2:Int)+(t2850.length:Int)))+(t2854.length:Int)))),(12,.own 144),(13,.own 145),(14,iV .i64 x3237),(15,iV .i64 (i64.wrap (x3237-x3206))),(16,.own 146),(17,iV .i64 x3209),(18,iV .i64 x3237),(69,iV .i64 (i64.wrap ((i64.wrap ((2:Int)+(t2850.length:Int)))+(t2854.length:Int)))),(70,iV .i64 x3307)],[(0,some (.box 94 (Z3 ⟨a0_c0,x3369,x3370⟩))),(141,some (.box 36 (Zn a1))),(142,some (.box 52 (Za a2))),(143,some (.box 52 (Za a3))),(144,some (.row 1 33 (x3371.map (Z1 .u64)))),(145,some (.row 1 33 (x3372.map (Z1 .u64)))),(146,some (.row 9 38 (x3208.map Z7)))],1⟩)) (AWp.cv ?_) ?_
       ·replace H:=e3423;clear e3423
        refine AWp.cond (x3209==(0:Int)) (by kernel_rfl) (fun c3309 => ?_) (fun c3309 => ?_)
        ·replace H:=iT c3309 H
         obtain⟨t3315,e3316,H⟩:=Z4 H
         obtain⟨b3317,p3318,q3319,H⟩:=Z0d H
         refine rG hP hn hm [(3,.call [(0,0)] [(0,0)] [] [] 1 (iV .u64 t3315.1) [(0,some (.box 94 (Z3 ⟨a0_c0,t3315.2.1,t3315.2.2⟩)))]),(5,.put ((Z1 .u64) b3317) ((x3305.set (Int.toNat (x3307)) t3315.1).map (Z1 .u64)))] [] [0,5,6,7,9,10,11,12,13,14,15,16,17,18,69,70] [(0,some (.box 94 (Z3 ⟨a0_c0,t3315.2.1,t3315.2.2⟩))),(132,some (.row 1 33 ((x3305.set (Int.toNat (x3307)) t3315.1).map (Z1 .u64))))] [0,129,130,131,132,133,134] [_,_,_,_,_,(x3305.set (Int.toNat (x3307)) t3315.1).map (Z1 .u64)=(x3305.map (Z1 .u64)).set (Int.toNat (x3307)) (Z1c ((Z1 .u64) b3317) 0 [iI .u64 t3315.1])] ⟨Try.call49,Zr.ok a0_c0 x3303 x3304 t3315 e3316,p3318,Z1g (Z1 .u64) p3318 q3319,Zk (Z1 .u64) q3319,by exact set1 _ _ _ _,trivial⟩ ?_
         obtain rfl:=sj H
         exact lf [(0,0),(129,141),(130,142),(131,143),(132,144),(133,145),(134,146)] [] [] (by kernel_rfl) ⟨rfl,rfl⟩
        ·replace H:=iF c3309 H
         refine sO hP hn hm [] [(100,bV (x3209==(1:Int)))] [0,5,6,7,9,10,11,12,13,14,15,16,17,18,19,69,70,100] [] [0,129,130,131,132,133,134] ?_
         obtain⟨o3424,e3425,H⟩:=Z4 H
         refine AWp.mono (Q:=fun e s=>(match (generalizing:=false) o3424 with | (x3365,x3366,x3367,x3368)=>e = .normal∧s=⟨[(0,.ptr 0 0 0),(5,.ptr 135 0 0),(6,.ptr 136 0 0),(7,.ptr 137 0 0),(9,iV .i64 (i64.wrap ((1:Int)+t2846.1))),(10,iV .i64 (t2850.length:Int)),(11,iV .i64 (i64.wrap ((i64.wrap ((2:Int)+(t2850.length:Int)))+(t2854.length:Int)))),(12,.own 138),(13,.own 139),(14,iV .i64 x3237),(15,iV .i64 (i64.wrap (x3237-x3206))),(16,.own 140),(17,iV .i64 x3209),(18,iV .i64 x3237),(69,iV .i64 (i64.wrap ((i64.wrap ((2:Int)+(t2850.length:Int)))+(t2854.length:Int)))),(70,iV .i64 x3307)],[(0,some (.box 94 (Z3 ⟨a0_c0,x3365,x3366⟩))),(135,some (.box 36 (Zn a1))),(136,some (.box 52 (Za a2))),(137,some (.box 52 (Za a3))),(138,some (.row 1 33 (x3367.map (Z1 .u64)))),(139,some (.row 1 33 (x3368.map (Z1 .u64)))),(140,some (.row 9 38 (x3208.map Z7)))],1⟩)) (AWp.cv ?_) ?_
         ·replace H:=e3425;clear e3425
          refine AWp.cond (x3209==(1:Int)) (by kernel_rfl) (fun c3320 => ?_) (fun c3320 => ?_)
          ·replace H:=iT c3320 H
           obtain⟨t3326,e3327,H⟩:=Z4 H
           obtain⟨b3328,p3329,q3330,H⟩:=Z0d H
           refine sR hP hn hm [(3,.call [(0,0)] [(0,0)] [] [] 1 (iV .i64 t3326.1) [(0,some (.box 94 (Z3 ⟨a0_c0,t3326.2.1,t3326.2.2⟩)))]),(6,.put ((Z1 .u64) b3328) ((x3306.set (Int.toNat (x3307)) (u64.wrap (t3326.1))).map (Z1 .u64)))] [] [0,5,6,7,9,10,11,12,13,14,15,16,17,18,19,69,70] [(0,some (.box 94 (Z3 ⟨a0_c0,t3326.2.1,t3326.2.2⟩))),(133,some (.row 1 33 ((x3306.set (Int.toNat (x3307)) (u64.wrap (t3326.1))).map (Z1 .u64))))] [0,129,130,131,132,133,134] [_,_,_,_,_,(x3306.set (Int.toNat (x3307)) (u64.wrap (t3326.1))).map (Z1 .u64)=(x3306.map (Z1 .u64)).set (Int.toNat (x3307)) (Z1c ((Z1 .u64) b3328) 0 [iI .u64 (u64.wrap (t3326.1))])] ⟨Try.call26,Zy.ok a0_c0 x3303 x3304 t3326 e3327,p3329,Z1g (Z1 .u64) p3329 q3330,Zk (Z1 .u64) q3330,by exact set1 _ _ _ _,trivial⟩ ?_
           obtain⟨b3337,p3338,q3339,H⟩:=Z0d H
           obtain⟨b3340,p3341,q3342,H⟩:=Z0d H
           refine rG hP hn hm [(3,.c ((Z1 .u64) b3337)),(7,.c ((Z1 .u64) b3340)),(10,.put ((Z1 .u64) b3337) ((x3305.set (Int.toNat (x3307)) (u64.wrap (b3337+b3340))).map (Z1 .u64)))] [] [0,5,6,7,9,10,11,12,13,14,15,16,17,18,69,70] [(132,some (.row 1 33 ((x3305.set (Int.toNat (x3307)) (u64.wrap (b3337+b3340))).map (Z1 .u64))))] [0,129,130,131,132,133,134] [_,_,_,_,_,_,_,_,_,(x3305.set (Int.toNat (x3307)) (u64.wrap (b3337+b3340))).map (Z1 .u64)=(x3305.map (Z1 .u64)).set (Int.toNat (x3307)) (Z1c ((Z1 .u64) b3337) 0 [iI .u64 (u64.wrap (b3337+b3340))])] ⟨p3338,Z1g (Z1 .u64) p3338 q3339,Zk (Z1 .u64) q3339,p3341,Z1g (Z1 .u64) p3341 q3342,Zk (Z1 .u64) q3342,p3338,Z1g (Z1 .u64) p3338 q3339,Zk (Z1 .u64) q3339,by exact set1 _ _ _ _,trivial⟩ ?_
           obtain rfl:=sj H
           exact lf [(0,0),(129,135),(130,136),(131,137),(132,138),(133,139),(134,140)] [] [] (by kernel_rfl) ⟨rfl,rfl⟩
          ·replace H:=iF c3320 H
           obtain⟨b3348,p3349,q3350,H⟩:=Z0d H
           obtain⟨t3351,e3352,H⟩:=Z4 H
           refine sR hP hn hm [(3,.c ((Z1 .u64) b3348)),(5,.call [(0,0)] [(0,0)] [] [] 1 (iV .i64 t3351.1) [(0,some (.box 94 (Z3 ⟨a0_c0,t3351.2.1,t3351.2.2⟩)))]),(9,.put ((Z1 .u64) b3348) ((x3306.set (Int.toNat (x3307)) (u64.wrap (b3348+(u64.wrap (t3351.1))))).map (Z1 .u64)))] [] [0,5,6,7,9,10,11,12,13,14,15,16,17,18,19,69,70] [(0,some (.box 94 (Z3 ⟨a0_c0,t3351.2.1,t3351.2.2⟩))),(133,some (.row 1 33 ((x3306.set (Int.toNat (x3307)) (u64.wrap (b3348+(u64.wrap (t3351.1))))).map (Z1 .u64))))] [0,129,130,131,132,133,134] [_,_,_,_,_,_,_,_,(x3306.set (Int.toNat (x3307)) (u64.wrap (b3348+(u64.wrap (t3351.1))))).map (Z1 .u64)=(x3306.map (Z1 .u64)).set (Int.toNat (x3307)) (Z1c ((Z1 .u64) b3348) 0 [iI .u64 (u64.wrap (b3348+(u64.wrap (t3351.1))))])] ⟨p3349,Z1g (Z1 .u64) p3349 q3350,Zk (Z1 .u64) q3350,Try.call26,Zy.ok a0_c0 x3303 x3304 t3351 e3352,p3349,Z1g (Z1 .u64) p3349 q3350,Zk (Z1 .u64) q3350,by exact set1 _ _ _ _,trivial⟩ ?_
           obtain⟨b3359,p3360,q3361,H⟩:=Z0d H
           obtain⟨b3362,p3363,q3364,H⟩:=Z0d H
           refine rG hP hn hm [(3,.c ((Z1 .u64) b3359)),(7,.c ((Z1 .u64) b3362)),(10,.put ((Z1 .u64) b3359) ((x3305.set (Int.toNat (x3307)) (u64.wrap (b3359+b3362))).map (Z1 .u64)))] [] [0,5,6,7,9,10,11,12,13,14,15,16,17,18,69,70] [(132,some (.row 1 33 ((x3305.set (Int.toNat (x3307)) (u64.wrap (b3359+b3362))).map (Z1 .u64))))] [0,129,130,131,132,133,134] [_,_,_,_,_,_,_,_,_,(x3305.set (Int.toNat (x3307)) (u64.wrap (b3359+b3362))).map (Z1 .u64)=(x3305.map (Z1 .u64)).set (Int.toNat (x3307)) (Z1c ((Z1 .u64) b3359) 0 [iI .u64 (u64.wrap (b3359+b3362))])] ⟨p3360,Z1g (Z1 .u64) p3360 q3361,Zk (Z1 .u64) q3361,p3363,Z1g (Z1 .u64) p3363 q3364,Zk (Z1 .u64) q3364,p3360,Z1g (Z1 .u64) p3360 q3361,Zk (Z1 .u64) q3361,by exact set1 _ _ _ _,trivial⟩ ?_
           obtain rfl:=sj H
           exact lf [(0,0),(129,135),(130,136),(131,137),(132,138),(133,139),(134,140)] [] [] (by kernel_rfl) ⟨rfl,rfl⟩
         ·obtain⟨x3365,x3366,x3367,x3368⟩:=o3424
          rintro e s ⟨rfl,rfl⟩
          obtain rfl:=sj H
          exact lf [(0,0),(135,141),(136,142),(137,143),(138,144),(139,145),(140,146)] [] [] (by kernel_rfl) ⟨rfl,rfl⟩
       ·obtain⟨x3369,x3370,x3371,x3372⟩:=o3422
        rintro e s ⟨rfl,rfl⟩
        refine rO hP hn hm [] [(70,iV .i64 (i64.wrap (x3307+(1:Int))))] [0,5,6,7,9,10,11,12,13,14,15,16,17,18,69,70] [] [0,141,142,143,144,145,146] ?_
        exact LWp.conv [(0,0),(141,129),(142,130),(143,131),(144,132),(145,133),(146,134)] [] [] (by kernel_rfl) (ih _ _ _ _ _ _ H)
      ·replace H:=iF c3308 H
       refine AWp.exit ?_
       obtain rfl:=sj H
       exact lf [(0,0),(129,147),(130,148),(131,149),(132,150),(133,151),(134,152)] [] [] (by kernel_rfl) ⟨rfl,rfl⟩
     ·obtain⟨x3373,x3374,x3375,x3376⟩:=o3420
      rintro e s ⟨rfl,rfl⟩
      refine sO hP hn hm [(3,.k 153)] [(20,.ptr 153 0 0)] [0,5,6,7,9,10,11,12,13,14,15,16,17,20] [(153,some (.box 38 [iV .i64 x3237,iV .i64 a1.f0,iV .i64 a1.f1,iV .i64 a1.f2,iV .u64 a1.f3,iV .u64 a1.f4,iV .i64 a1.f5,.im (.row (a1.f6.map Z0)),.im (.row (a1.f7.map Z0))]))] [0,147,148,149,150,151,152,153] ?_
      obtain⟨b3383,p3384,q3385,H⟩:=Z0d H
      obtain⟨b3386,p3387,q3388,H⟩:=Z0d H
      refine sR hP hn hm [(2,.c ((Z1 .u64) b3383)),(5,.c ((Z1 .u64) b3386))] [] [0,5,6,7,9,10,11,12,13,14,15,16,17,20] [(153,some (.box 38 [iV .i64 x3237,iV .i64 a1.f0,iV .i64 a1.f1,iV .i64 a1.f2,iV .u64 b3383,iV .u64 a1.f4,iV .i64 (i64.wrap (b3386)),.im (.row (a1.f6.map Z0)),.im (.row (a1.f7.map Z0))]))] [0,147,148,149,150,151,152,153] [_,_,_,_,_,_] ⟨p3384,Z1g (Z1 .u64) p3384 q3385,Zk (Z1 .u64) q3385,p3387,Z1g (Z1 .u64) p3387 q3388,Zk (Z1 .u64) q3388,trivial⟩ ?_
      obtain⟨c3395,H⟩:=Z0x H
      obtain⟨t3396,e3397,H⟩:=Z4 H
      obtain⟨c3398,H⟩:=Z0x H
      obtain⟨t3399,e3400,H⟩:=Z4 H
      refine sR hP hn hm [(4,.more (xSub (Int.toNat (2:Int)) (Int.toNat (i64.wrap ((2:Int)+(t2850.length:Int)))-Int.toNat (2:Int)))),(5,.more (Z47 [] [(0,154)] [150] [154] 0 (.own 0) [(0,some (.row 2 78 (t3396.map Z0)))])),(10,.more (xSub (Int.toNat (i64.wrap ((2:Int)+(t2850.length:Int)))) (Int.toNat (x3375.length:Int)-Int.toNat (i64.wrap ((2:Int)+(t2850.length:Int)))))),(11,.more (Z47 [] [(0,155)] [150] [155] 0 (.own 0) [(0,some (.row 2 78 (t3399.map Z0)))]))] [] [0,5,6,7,9,10,11,12,13,14,15,16,17,20] [(153,some (.box 38 [iV .i64 x3237,iV .i64 a1.f0,iV .i64 a1.f1,iV .i64 a1.f2,iV .u64 b3383,iV .u64 a1.f4,iV .i64 (i64.wrap (b3386)),.own 154,.own 155])),(154,some (.row 2 78 (t3396.map Z0))),(155,some (.row 2 78 (t3399.map Z0)))] [0,147,148,149,150,151,152,153,154,155] [(2:Int)=((Int.toNat (2:Int):Nat):Int),(i64.wrap ((2:Int)+(t2850.length:Int)))=((Int.toNat (2:Int)+(Int.toNat (i64.wrap ((2:Int)+(t2850.length:Int)))-Int.toNat (2:Int)):Nat):Int),Int.toNat (2:Int)+(Int.toNat (i64.wrap ((2:Int)+(t2850.length:Int)))-Int.toNat (2:Int))≤(x3375.map (Z1 .u64)).length,_,Pv.Fn Try.prog 53 [.agg (Za a2),.im (.row (((x3375.map (Z1 .u64)).drop (Int.toNat (2:Int))).take (Int.toNat (i64.wrap ((2:Int)+(t2850.length:Int)))-Int.toNat (2:Int))))] [] 0 (fun r o=>r = .own 0∧o=[(0,some (.row 2 78 (t3396.map Z0)))]),∀ c∈t3396.map Z0,∀ x∈c,∃ v,x=Im.sc v,(i64.wrap ((2:Int)+(t2850.length:Int)))=((Int.toNat (i64.wrap ((2:Int)+(t2850.length:Int))):Nat):Int),((x3375.map (Z1 .u64)).length:Int)=((Int.toNat (i64.wrap ((2:Int)+(t2850.length:Int)))+(Int.toNat (x3375.length:Int)-Int.toNat (i64.wrap ((2:Int)+(t2850.length:Int)))):Nat):Int),Int.toNat (i64.wrap ((2:Int)+(t2850.length:Int)))+(Int.toNat (x3375.length:Int)-Int.toNat (i64.wrap ((2:Int)+(t2850.length:Int))))≤(x3375.map (Z1 .u64)).length,_,Pv.Fn Try.prog 53 [.agg (Za a3),.im (.row (((x3375.map (Z1 .u64)).drop (Int.toNat (i64.wrap ((2:Int)+(t2850.length:Int))))).take (Int.toNat (x3375.length:Int)-Int.toNat (i64.wrap ((2:Int)+(t2850.length:Int))))))] [] 0 (fun r o=>r = .own 0∧o=[(0,some (.row 2 78 (t3399.map Z0)))]),∀ c∈t3399.map Z0,∀ x∈c,∃ v,x=Im.sc v] ⟨by exact(Int.toNat_of_nonneg c3395.1).symm,by have h:=c3395;(try simp only[List.length_map] at h ⊢);omega,by have h:=c3395;simp only[List.length_map] at h ⊢;omega,Try.call53,by exact(by have hh:=Z14.ok a2 ((x3375.drop (Int.toNat (2:Int))).take (Int.toNat (i64.wrap ((2:Int)+(t2850.length:Int)))-Int.toNat (2:Int))) t3396 e3397;rw[cut1 x3375 (Int.toNat (2:Int)) (Int.toNat (i64.wrap ((2:Int)+(t2850.length:Int)))-Int.toNat (2:Int)) (Z1 .u64)] at hh;exact hh),by exact Z4i _ _ (fun _=>by simp),by exact(Int.toNat_of_nonneg c3398.1).symm,by have h:=c3398;(try simp only[List.length_map] at h ⊢);omega,by have h:=c3398;simp only[List.length_map] at h ⊢;omega,Try.call53,by exact(by have hh:=Z14.ok a3 ((x3375.drop (Int.toNat (i64.wrap ((2:Int)+(t2850.length:Int))))).take (Int.toNat (x3375.length:Int)-Int.toNat (i64.wrap ((2:Int)+(t2850.length:Int))))) t3399 e3400;rw[cut1 x3375 (Int.toNat (i64.wrap ((2:Int)+(t2850.length:Int)))) (Int.toNat (x3375.length:Int)-Int.toNat (i64.wrap ((2:Int)+(t2850.length:Int)))) (Z1 .u64)] at hh;exact hh),by exact Z4i _ _ (fun _=>by simp),trivial⟩ ?_
      refine AWp.seq ?_
      refine AWp.conv (inv:=[(0,0),(147,147),(148,148),(149,149),(150,150),(151,151),(152,152),(153,153)]) (vk:=[154,155]) (e0:=[]) (t:=⟨[(0,.ptr 0 0 0),(5,.ptr 147 0 0),(6,.ptr 148 0 0),(7,.ptr 149 0 0),(9,iV .i64 (i64.wrap ((1:Int)+t2846.1))),(10,iV .i64 (t2850.length:Int)),(11,iV .i64 (i64.wrap ((i64.wrap ((2:Int)+(t2850.length:Int)))+(t2854.length:Int)))),(12,.own 150),(13,.own 151),(14,iV .i64 x3237),(15,iV .i64 (i64.wrap (x3237-x3206))),(16,.own 152),(17,iV .i64 x3209),(20,.ptr 153 0 0)],[(0,some (.box 94 (Z3 ⟨a0_c0,x3373,x3374⟩))),(147,some (.box 36 (Zn a1))),(148,some (.box 52 (Za a2))),(149,some (.box 52 (Za a3))),(150,some (.row 1 33 (x3375.map (Z1 .u64)))),(151,some (.row 1 33 (x3376.map (Z1 .u64)))),(152,some (.row 9 38 (x3208.map Z7))),(153,some (.box 38 [iV .i64 x3237,iV .i64 a1.f0,iV .i64 a1.f1,iV .i64 a1.f2,iV .u64 b3383,iV .u64 a1.f4,iV .i64 (i64.wrap (b3386)),.im (.row (t3396.map Z0)),.im (.row (t3399.map Z0))]))],1⟩) (by kernel_rfl) ?_
      obtain⟨t3405,e3406,H⟩:=Z4 H
      refine rG hP hn hm [(8,.call [] [] [] [] 0 (.tup [.agg (Zn (t3405.1)),iV .i64 t3405.2]) [])] [] [0,5,6,7,9,10,11,12,13,14,15,16,17,20] [(153,some (.box 38 [iV .i64 x3237,iV .i64 ((t3405.1).f0),iV .i64 ((t3405.1).f1),iV .i64 ((t3405.1).f2),iV .u64 ((t3405.1).f3),iV .u64 ((t3405.1).f4),iV .i64 ((t3405.1).f5),.im (.row (((t3405.1).f6).map Z0)),.im (.row (((t3405.1).f7).map Z0))]))] [0,147,148,149,150,151,152,153] [_,_] ⟨Try.call54,Z1x.ok (⟨a1.f0,a1.f1,a1.f2,b3383,a1.f4,i64.wrap (b3386),t3396,t3399⟩:Zj) t3396 t3399 t3405 e3406,trivial⟩ ?_
      obtain⟨c3408,H⟩:=Z0x H
      refine rG hP hn hm [(2,.app 156 ([(⟨x3237,(t3405.1)⟩:Zd)].map Z7)),(3,.app 157 ((x3208++[(⟨x3237,(t3405.1)⟩:Zd)]).map Z7))] [(16,.own 157)] [0,5,6,7,9,10,11,12,13,14,15,16,17] [(157,some (.row 9 38 ((x3208++[(⟨x3237,(t3405.1)⟩:Zd)]).map Z7)))] [0,147,148,149,150,151,157] [[(⟨x3237,(t3405.1)⟩:Zd)].map Z7=[[iI .i64 x3237,iI .i64 ((t3405.1).f0),iI .i64 ((t3405.1).f1),iI .i64 ((t3405.1).f2),iI .u64 ((t3405.1).f3),iI .u64 ((t3405.1).f4),iI .i64 ((t3405.1).f5),.row (((t3405.1).f6).map Z0),.row (((t3405.1).f7).map Z0)]],(x3208++[(⟨x3237,(t3405.1)⟩:Zd)]).map Z7=(x3208.map Z7)++([(⟨x3237,(t3405.1)⟩:Zd)].map Z7),∀ c∈([(⟨x3237,(t3405.1)⟩:Zd)].map Z7),c.length=9,∀ c∈([(⟨x3237,(t3405.1)⟩:Zd)].map Z7),Z0k (c.map .im)=true,((x3208.map Z7).length+([(⟨x3237,(t3405.1)⟩:Zd)].map Z7).length)*104≤140737488355328] ⟨by exact rfl,by simp,by exact Z0o _ _ _ (fun _=>rfl),by exact Z0p _ _ (fun _=>rfl),by simpa using c3408,trivial⟩ ?_
      refine rO hP hn hm [] [(17,iV .i64 (i64.wrap (x3209+(1:Int))))] [0,5,6,7,9,10,11,12,13,14,15,16,17] [] [0,147,148,149,150,151,157] ?_
      exact LWp.conv [(0,0),(147,93),(148,94),(149,95),(150,96),(151,97),(157,98)] [] [] (by kernel_rfl) (ih _ _ H)
   ·replace H:=iF c3217 H
    refine AWp.exit ?_
    obtain rfl:=sj H
    exact lf [(104,158),(0,0)] [] [] (by kernel_rfl) ⟨rfl,rfl⟩
 ·obtain⟨x3409,x3410,x3411⟩:=o3412
  rintro e s ⟨rfl,rfl⟩
  refine sO hP hn hm [] [(8,.own 158)] [8] [] [0,158] ?_
  refine AWp.conv (inv:=[(0,0),(158,1)]) (vk:=[]) (e0:=[]) (t:=⟨[(8,.own 1)],[(0,some (.box 94 (Z3 ⟨a0_c0,x3410,x3411⟩))),(1,some (.row 9 38 (x3409.map Z7)))],1⟩) (by kernel_rfl) ?_
  refine AWp.ret ?_
  obtain rfl:=sj H
  exact rl (.inl rfl) rfl (by kernel_rfl) (by kernel_rfl)
def Z0t.f (a0_c0:List Int) (a0_c1:Int) (a0_c2:Int):Option (Unit):=some ()
theorem Z0t.ok (a0_c0:List Int) (a0_c1:Int) (a0_c2:Int) (r:Unit) (H:Z0t.f a0_c0 a0_c1 a0_c2=some r):Pv.Fn Try.prog 55 [.ptr 0 0 0] [(0,some (.box 94 (Z3 ⟨a0_c0,a0_c1,a0_c2⟩)))] 1 (fun x o=>x=iV .i64 (i64.wrap ((i64.wrap ((8:Int)*(a0_c0.length:Int)))-a0_c1))∧o=[(0,some (.box 94 (Z3 ⟨a0_c0,a0_c1,a0_c2⟩)))]):=by
 unfold Z0t.f at H
 refine Fn.bodyK [0] Try.func55 rfl rfl (fun Γ hP hn => ?_)
 have hm:Try.prog.follows .mixedOrders=true:=by kernel_rfl
 replace hn:Γ.n=14:=hn
 refine sO hP hn hm [] [] [0] [] [0] ?_
 refine sR hP hn hm [(4,.any (iV .i64 (a0_c0.length:Int)))] [(2,iV .i64 (i64.wrap ((i64.wrap ((8:Int)*(a0_c0.length:Int)))-a0_c1)))] [2] [] [0] [((a0_c0.map (Z1 .u8)).length:Int)=(a0_c0.length:Int)] ⟨by rw[Zi],trivial⟩ ?_
 refine AWp.conv (inv:=[(0,0)]) (vk:=[]) (e0:=[]) (t:=⟨[(2,iV .i64 (i64.wrap ((i64.wrap ((8:Int)*(a0_c0.length:Int)))-a0_c1)))],[(0,some (.box 94 (Z3 ⟨a0_c0,a0_c1,a0_c2⟩)))],1⟩) (by kernel_rfl) ?_
 refine AWp.ret ?_
 obtain rfl:=sj H
 exact rl (.inl rfl) rfl (by kernel_rfl) (by kernel_rfl)
def Z0g.l0 (a0_c0:List Int) (x3463:Int) (x3464:Int):Option (Int×Int):=((if(x3464==(0:Int))=true then((Z0t.f a0_c0 x3463 x3464)>>=fun t3469=>some (decide ((i64.wrap ((i64.wrap ((8:Int)*(a0_c0.length:Int)))-x3463))>(0:Int)))) else(some false)):Option (Bool))>>=fun x3471=>if x3471=true then((Z0b.f a0_c0 x3463 x3464)>>=fun t3475=>((if t3475.1=true then((Zs.f a0_c0 t3475.2.1 t3475.2.2 6)>>=fun t3480=>some t3480) else(some t3475.2.2)):Option (Int))>>=fun x3482=>Z0g.l0 a0_c0 t3475.2.1 x3482) else(some (x3463,x3464))
partial_fixpoint
def Z0g.f (a0_c0:List Int) (a0_c1:Int) (a0_c2:Int):Option (Int×Int×Int):=((if(a0_c2==(0:Int))=true then((Z0t.f a0_c0 a0_c1 a0_c2)>>=fun t3436=>some (decide ((i64.wrap ((i64.wrap ((8:Int)*(a0_c0.length:Int)))-a0_c1))≥(8:Int)))) else(some false)):Option (Bool))>>=fun x3438=>((if x3438=true then((Zs.f a0_c0 a0_c1 a0_c2 6)>>=fun t3442=>some t3442) else(some a0_c2)):Option (Int))>>=fun x3444=>(Z0g.l0 a0_c0 a0_c1 x3444)>>=fun oo=>match oo with | (x3483,x3484)=>(some (x3484,x3483,x3484))
theorem Z0g.ok (a0_c0:List Int) (a0_c1:Int) (a0_c2:Int) (r:Int×Int×Int) (H:Z0g.f a0_c0 a0_c1 a0_c2=some r):Pv.Fn Try.prog 29 [.ptr 0 0 0] [(0,some (.box 94 (Z3 ⟨a0_c0,a0_c1,a0_c2⟩)))] 1 (fun x o=>x=iV .i64 r.1∧o=[(0,some (.box 94 (Z3 ⟨a0_c0,r.2.1,r.2.2⟩)))]):=by
 unfold Z0g.f at H
 refine Fn.bodyK [0] Try.func29 rfl rfl (fun Γ hP hn => ?_)
 have hm:Try.prog.follows .mixedOrders=true:=by kernel_rfl
 replace hn:Γ.n=33:=hn
 refine sO hP hn hm [] [] [0] [] [0] ?_
 refine AWp.seq ?_
 refine AWp.seq ?_
 obtain⟨o3485,e3486,H⟩:=Z4 H
 refine AWp.mono (Q:=fun e s=>(match (generalizing:=false) o3485 with | x3438=>e = .normal∧s=⟨[(0,.ptr 0 0 0),(12,bV x3438)],[(0,some (.box 94 (Z3 ⟨a0_c0,a0_c1,a0_c2⟩)))],1⟩)) (AWp.cv ?_) ?_
 ·replace H:=e3486;clear e3486
  rcases Bool.eq_false_or_eq_true (a0_c2==(0:Int)) with c3435 | c3435
  ·replace H:=iT c3435 H
   obtain⟨t3436,e3437,H⟩:=Z4 H
   refine rG hP hn hm [(5,.b true),(7,.call [(0,0)] [(0,0)] [] [] 1 (iV .i64 (i64.wrap ((i64.wrap ((8:Int)*(a0_c0.length:Int)))-a0_c1))) [(0,some (.box 94 (Z3 ⟨a0_c0,a0_c1,a0_c2⟩)))])] [(12,bV (decide ((i64.wrap ((i64.wrap ((8:Int)*(a0_c0.length:Int)))-a0_c1))≥(8:Int))))] [0,12] [] [0] [_,_,_] ⟨c3435,Try.call55,Z0t.ok a0_c0 a0_c1 a0_c2 t3436 e3437,trivial⟩ ?_
   obtain rfl:=sj H
   exact lf [(0,0)] [] [] (by kernel_rfl) ⟨rfl,rfl⟩
  ·replace H:=iF c3435 H
   refine rG hP hn hm [(5,.b false)] [(12,bV false)] [0,12] [] [0] [_] ⟨c3435,trivial⟩ ?_
   obtain rfl:=sj H
   exact lf [(0,0)] [] [] (by kernel_rfl) ⟨rfl,rfl⟩
 ·obtain⟨x3438,rfl⟩:∃ z,z=o3485:=⟨_,rfl⟩
  rintro e s ⟨rfl,rfl⟩
  obtain⟨o3487,e3488,H⟩:=Z4 H
  refine AWp.mono (Q:=fun e s=>(match (generalizing:=false) o3487 with | x3444=>e = .normal∧s=⟨[(0,.ptr 0 0 0)],[(0,some (.box 94 (Z3 ⟨a0_c0,a0_c1,x3444⟩)))],1⟩)) (AWp.cv ?_) ?_
  ·replace H:=e3488;clear e3488
   refine AWp.cond x3438 (by kernel_rfl) (fun c3439 => ?_) (fun c3439 => ?_)
   ·replace H:=iT c3439 H
    obtain⟨t3442,e3443,H⟩:=Z4 H
    refine rG hP hn hm [(1,.call [(0,0)] [(0,0)] [] [] 1 (.tup []) [(0,some (.box 94 (Z3 ⟨a0_c0,a0_c1,t3442⟩)))])] [] [0] [(0,some (.box 94 (Z3 ⟨a0_c0,a0_c1,t3442⟩)))] [0] [_,_] ⟨Try.call47,Zs.ok a0_c0 a0_c1 a0_c2 6 t3442 e3443,trivial⟩ ?_
    obtain rfl:=sj H
    exact lf [(0,0)] [] [] (by kernel_rfl) ⟨rfl,rfl⟩
   ·replace H:=iF c3439 H
    refine AWp.skip ?_
    obtain rfl:=sj H
    exact lf [(0,0)] [] [] (by kernel_rfl) ⟨rfl,rfl⟩
  ·obtain⟨x3444,rfl⟩:∃ z,z=o3487:=⟨_,rfl⟩
   rintro e s ⟨rfl,rfl⟩
   refine AWp.seq ?_
   refine AWp.block ?_
   obtain⟨o3489,e3490,H⟩:=Z4 H
   refine AWp.loop (LWp.conv (inv:=[(0,0)]) (vk:=[]) (e0:=[]) (t:=⟨[(0,.ptr 0 0 0)],[(0,some (.box 94 (Z3 ⟨a0_c0,a0_c1,x3444⟩)))],1⟩) (by kernel_rfl) ?_)
   refine LWp.mono (Q:=fun e s=>(match (generalizing:=false) o3489 with | (x3483,x3484)=>e = .exit 0∧s=⟨[(0,.ptr 0 0 0)],[(0,some (.box 94 (Z3 ⟨a0_c0,x3483,x3484⟩)))],1⟩)) (LWp.cv (Zt (fun body hbody => ?_))) ?_
   ·refine                   Z0g.l0.partial_correctness a0_c0 (motive:=fun x3463 x3464 o3489=>LWp Γ body (fun e s=>∃ t,Cv Γ s t∧(match (generalizing:=false) o3489 with | (x3483,x3484)=>e = .exit 0∧t=⟨[(0,.ptr 0 0 0)],[(0,some (.box 94 (Z3           ⟨a0_c0,x3483,x3484⟩)))],1⟩)) ⟨[(0,.ptr 0 0 0)],[(0,some (.box 94 (Z3           ⟨a0_c0,x3463,x3464⟩)))],1⟩) ?_ _ _ _ e3490
    clear H e3490 o3489;intro self ih x3463 x3464 o3489 H
    subst hbody
    refine LWp.round ?_
    refine AWp.seq ?_
    refine AWp.seq ?_
    obtain⟨o3491,e3492,H⟩:=Z4 H
    refine AWp.mono (Q:=fun e s=>(match (generalizing:=false) o3491 with | x3471=>e = .normal∧s=⟨[(0,.ptr 0 0 0),(24,bV x3471)],[(0,some (.box 94 (Z3 ⟨a0_c0,x3463,x3464⟩)))],1⟩)) (AWp.cv ?_) ?_
    ·replace H:=e3492;clear e3492
     rcases Bool.eq_false_or_eq_true (x3464==(0:Int)) with c3468 | c3468
     ·replace H:=iT c3468 H
      obtain⟨t3469,e3470,H⟩:=Z4 H
      refine rG hP hn hm [(5,.b true),(7,.call [(0,0)] [(0,0)] [] [] 1 (iV .i64 (i64.wrap ((i64.wrap ((8:Int)*(a0_c0.length:Int)))-x3463))) [(0,some (.box 94 (Z3 ⟨a0_c0,x3463,x3464⟩)))])] [(21,.ptr 0 0 0),(22,iV .i64 (i64.wrap ((i64.wrap ((8:Int)*(a0_c0.length:Int)))-x3463))),(23,bV (decide ((i64.wrap ((i64.wrap ((8:Int)*(a0_c0.length:Int)))-x3463))>(0:Int)))),(24,bV (decide ((i64.wrap ((i64.wrap ((8:Int)*(a0_c0.length:Int)))-x3463))>(0:Int))))] [0,21,22,23,24] [] [0] [_,_,_] ⟨c3468,Try.call55,Z0t.ok a0_c0 x3463 x3464 t3469 e3470,trivial⟩ ?_
      obtain rfl:=sj H
      exact lf [(0,0)] [] [] (by kernel_rfl) ⟨rfl,rfl⟩
     ·replace H:=iF c3468 H
      refine rG hP hn hm [(5,.b false)] [(24,bV false)] [0,24] [] [0] [_] ⟨c3468,trivial⟩ ?_
      obtain rfl:=sj H
      exact lf [(0,0)] [] [] (by kernel_rfl) ⟨rfl,rfl⟩
    ·obtain⟨x3471,rfl⟩:∃ z,z=o3491:=⟨_,rfl⟩
     rintro e s ⟨rfl,rfl⟩
     refine AWp.cond x3471 (by kernel_rfl) (fun c3472 => ?_) (fun c3472 => ?_)
     ·replace H:=iT c3472 H
      refine AWp.skip ?_
      refine AWp.block ?_
      obtain⟨t3475,e3476,H⟩:=Z4 H
      refine sR hP hn hm [(1,.call [(0,0)] [(0,0)] [] [] 1 (bV t3475.1) [(0,some (.box 94 (Z3 ⟨a0_c0,t3475.2.1,t3475.2.2⟩)))])] [(26,bV t3475.1)] [0,26] [(0,some (.box 94 (Z3 ⟨a0_c0,t3475.2.1,t3475.2.2⟩)))] [0] [_,_] ⟨Try.call24,Z0b.ok a0_c0 x3463 x3464 t3475 e3476,trivial⟩ ?_
      obtain⟨o3493,e3494,H⟩:=Z4 H
      refine AWp.mono (Q:=fun e s=>(match (generalizing:=false) o3493 with | x3482=>e = .normal∧s=⟨[(0,.ptr 0 0 0)],[(0,some (.box 94 (Z3 ⟨a0_c0,t3475.2.1,x3482⟩)))],1⟩)) (AWp.cv ?_) ?_
      ·replace H:=e3494;clear e3494
       refine AWp.cond t3475.1 (by kernel_rfl) (fun c3477 => ?_) (fun c3477 => ?_)
       ·replace H:=iT c3477 H
        obtain⟨t3480,e3481,H⟩:=Z4 H
        refine rG hP hn hm [(1,.call [(0,0)] [(0,0)] [] [] 1 (.tup []) [(0,some (.box 94 (Z3 ⟨a0_c0,t3475.2.1,t3480⟩)))])] [] [0] [(0,some (.box 94 (Z3 ⟨a0_c0,t3475.2.1,t3480⟩)))] [0] [_,_] ⟨Try.call47,Zs.ok a0_c0 t3475.2.1 t3475.2.2 6 t3480 e3481,trivial⟩ ?_
        obtain rfl:=sj H
        exact lf [(0,0)] [] [] (by kernel_rfl) ⟨rfl,rfl⟩
       ·replace H:=iF c3477 H
        refine AWp.skip ?_
        obtain rfl:=sj H
        exact lf [(0,0)] [] [] (by kernel_rfl) ⟨rfl,rfl⟩
      ·obtain⟨x3482,rfl⟩:∃ z,z=o3493:=⟨_,rfl⟩
       rintro e s ⟨rfl,rfl⟩
       exact LWp.conv [(0,0)] [] [] (by kernel_rfl) (ih _ _ _ H)
     ·replace H:=iF c3472 H
      refine AWp.exit ?_
      obtain rfl:=sj H
      exact lf [(0,0)] [] [] (by kernel_rfl) ⟨rfl,rfl⟩
   ·obtain⟨x3483,x3484⟩:=o3489
    rintro e s ⟨rfl,rfl⟩
    refine sO hP hn hm [] [(2,iV .i64 x3484)] [2] [] [0] ?_
    refine AWp.conv (inv:=[(0,0)]) (vk:=[]) (e0:=[]) (t:=⟨[(2,iV .i64 x3484)],[(0,some (.box 94 (Z3 ⟨a0_c0,x3483,x3484⟩)))],1⟩) (by kernel_rfl) ?_
    refine AWp.ret ?_
    obtain rfl:=sj H
    exact rl (.inl rfl) rfl (by kernel_rfl) (by kernel_rfl)
def Z0m.l0 (a0:List Int) (a1:List Int) (x3520:Int):Option (Bool ⊕ Unit):=if(decide (x3520<(a0.length:Int)))=true then((at? a0 x3520)>>=fun b3528=>(at? a1 x3520)>>=fun b3531=>if(b3528 != b3531)=true then(some (.inl false)) else(Z0m.l0 a0 a1 (i64.wrap (x3520+(1:Int))))) else(some (.inr ()))
partial_fixpoint
def Z0m.f (a0:List Int) (a1:List Int):Option (Bool):=if((a0.length:Int) != (a1.length:Int))=true then(some false) else((Z0m.l0 a0 a1 0)>>=fun oo=>match oo with | .inl rr=>(some rr) | .inr _=>(some true))
theorem Z0m.ok (a0:List Int) (a1:List Int) (r:Bool) (H:Z0m.f a0 a1=some r):Pv.Fn Try.prog 30 [.im (.row (a0.map (Z1 .u8))),.im (.row (a1.map (Z1 .u8)))] [] 0 (fun x o=>x=bV r∧o=[]):=by
 unfold Z0m.f at H
 refine Fn.bodyK [] Try.func30 rfl rfl (fun Γ hP hn => ?_)
 have hm:Try.prog.follows .mixedOrders=true:=by kernel_rfl
 replace hn:Γ.n=26:=hn
 refine sO hP hn hm [] [] [0,1] [] [] ?_
 refine AWp.seq ?_
 refine sR hP hn hm [(1,.any (iV .i64 (a0.length:Int))),(3,.any (iV .i64 (a1.length:Int)))] [(10,bV ((a0.length:Int) != (a1.length:Int)))] [0,1,10] [] [] [((a0.map (Z1 .u8)).length:Int)=(a0.length:Int),((a1.map (Z1 .u8)).length:Int)=(a1.length:Int)] ⟨by rw[Zi],by rw[Zi],trivial⟩ ?_
 refine AWp.cond ((a0.length:Int) != (a1.length:Int)) (by kernel_rfl) (fun c3505 => ?_) (fun c3505 => ?_)
 ·replace H:=iT c3505 H
  refine sO hP hn hm [] [(4,bV false)] [4] [] [] ?_
  refine AWp.conv (inv:=[]) (vk:=[]) (e0:=[]) (t:=⟨[(4,bV false)],[],0⟩) (by kernel_rfl) ?_
  refine AWp.ret ?_
  obtain rfl:=sj H
  exact rl (.inl rfl) rfl (by kernel_rfl) (by kernel_rfl)
 ·replace H:=iF c3505 H
  refine AWp.skip ?_
  refine AWp.seq ?_
  refine sR hP hn hm [(1,.any (iV .i64 (a0.length:Int)))] [(12,iV .i64 (a0.length:Int)),(13,iV .i64 0)] [0,1,12,13] [] [] [((a0.map (Z1 .u8)).length:Int)=(a0.length:Int)] ⟨by rw[Zi],trivial⟩ ?_
  refine AWp.block ?_
  obtain⟨o3535,e3536,H⟩:=Z4 H
  refine AWp.loop (LWp.conv (inv:=[]) (vk:=[]) (e0:=[]) (t:=⟨[(0,.im (.row (a0.map (Z1 .u8)))),(1,.im (.row (a1.map (Z1 .u8)))),(12,iV .i64 (a0.length:Int)),(13,iV .i64 0)],[],0⟩) (by kernel_rfl) ?_)
  refine LWp.mono (Q:=fun e s=>(match (generalizing:=false) o3535 with | .inl rr=>e = .ret∧s.floor=0∧Z2c Try.prog Try.f30 s=some (bV rr)∧([]:List (Nat×Option MObj))=[] | .inr _=>e = .exit 0∧s=⟨[],[],0⟩)) (LWp.cv (Zt (fun body hbody => ?_))) ?_
  ·refine                 Z0m.l0.partial_correctness a0 a1 (motive:=fun x3520 o3535=>LWp Γ body (fun e s=>∃ t,Cv Γ s t∧(match (generalizing:=false) o3535 with | .inl rr=>e = .ret∧t.floor=0∧Z2c   Try.prog Try.f30 t=some (bV rr)∧([]:List (Nat×Option MObj))=[] | .inr _=>e = .exit 0∧t=⟨[],[],0⟩)) ⟨[(0,.im (.row (a0.map (Z1     .u8)))),(1,.im (.row (a1.map (Z1     .u8)))),(12,iV .i64 (a0.length:Int)),(13,iV .i64 x3520)],[],0⟩) ?_ _ _ e3536
   clear H e3536 o3535;intro self ih x3520 o3535 H
   subst hbody
   refine LWp.round ?_
   refine sO hP hn hm [] [(14,bV (decide (x3520<(a0.length:Int))))] [0,1,12,13,14] [] [] ?_
   refine AWp.seq ?_
   refine AWp.cond (decide (x3520<(a0.length:Int))) (by kernel_rfl) (fun c3521 => ?_) (fun c3521 => ?_)
   ·replace H:=iT c3521 H
    refine AWp.skip ?_
    refine AWp.seq ?_
    refine AWp.block ?_
    refine sO hP hn hm [] [(5,iV .i64 x3520)] [0,1,5,12,13] [] [] ?_
    obtain⟨b3528,p3529,q3530,H⟩:=Z0d H
    obtain⟨b3531,p3532,q3533,H⟩:=Z0d H
    refine sR hP hn hm [(2,.c ((Z1 .u8) b3528)),(6,.c ((Z1 .u8) b3531))] [(24,bV (b3528 != b3531))] [0,1,12,13,24] [] [] [_,_,_,_] ⟨p3529,Zk (Z1 .u8) q3530,p3532,Zk (Z1 .u8) q3533,trivial⟩ ?_
    refine AWp.cond (b3528 != b3531) (by kernel_rfl) (fun c3534 => ?_) (fun c3534 => ?_)
    ·replace H:=iT c3534 H
     refine sO hP hn hm [] [(4,bV false)] [4] [] [] ?_
     refine AWp.conv (inv:=[]) (vk:=[]) (e0:=[]) (t:=⟨[(4,bV false)],[],0⟩) (by kernel_rfl) ?_
     refine AWp.ret ?_
     obtain rfl:=sj H
     exact rl rfl rfl (by kernel_rfl) (by kernel_rfl)
    ·replace H:=iF c3534 H
     refine AWp.skip ?_
     refine rO hP hn hm [] [(13,iV .i64 (i64.wrap (x3520+(1:Int))))] [0,1,12,13] [] [] ?_
     exact LWp.conv [] [] [] (by kernel_rfl) (ih _ _ H)
   ·replace H:=iF c3521 H
    refine AWp.exit ?_
    obtain rfl:=sj H
    exact lf [] [] [] (by kernel_rfl) ⟨rfl,rfl⟩
  ·rcases o3535 with rr | _
   ·skip
    rintro e s ⟨rfl,hfl,hres⟩
    obtain rfl:=sj H
    exact Exists.intro _ (And.intro (fun _ _ h=>h) (And.intro (.inl rfl) (And.intro hfl hres)))
   ·skip
    rintro e s ⟨rfl,rfl⟩
    refine sO hP hn hm [] [(4,bV true)] [4] [] [] ?_
    refine AWp.conv (inv:=[]) (vk:=[]) (e0:=[]) (t:=⟨[(4,bV true)],[],0⟩) (by kernel_rfl) ?_
    refine AWp.ret ?_
    obtain rfl:=sj H
    exact rl (.inl rfl) rfl (by kernel_rfl) (by kernel_rfl)
def Z2p.f (a0:List Int):Option ((List Zd)×Int):=(Z3c.f a0)>>=fun t2542=>(Z0b.f a0 0 0)>>=fun t2568=>((if t2568.1=true then(some 1) else(some 0)):Option (Int))>>=fun x2571=>(Z09.f a0 t2568.2.1 t2568.2.2 4)>>=fun t2600=>(Zy.f a0 t2600.2.1 t2600.2.2)>>=fun t2680=>((if(decide (t2680.1<(-524288)))=true then(some true) else(some (decide (t2680.1>(262144:Int))))):Option (Bool))>>=fun x2684=>if x2684=true then(some ([],6)) else((Z0z.f a0 t2680.2.1 t2680.2.2 512)>>=fun t2838=>(Z0z.f a0 t2838.2.1 t2838.2.2 512)>>=fun t2842=>(Z04.f a0 t2842.2.1 t2842.2.2 (⟨x2571,i64.wrap ((i64.wrap (t2600.1))+(-4)),t2680.1,0,0,0,[],[]⟩:Zj) (t2838.1) (t2842.1))>>=fun t3430=>(Z0g.f a0 t3430.2.1 t3430.2.2)>>=fun t3497=>if(t3497.1 != (0:Int))=true then(some ([],6)) else((Z0j.f t3430.1)>>=fun t3502=>((if(t3502.2 != (0:Int))=true then(some true) else((Z0m.f t3502.1 a0)>>=fun t3540=>some (!t3540))):Option (Bool))>>=fun x3542=>if x3542=true then(some ([],6)) else(some (t3430.1,0))))
theorem Z2p.ok (a0:List Int) (r:(List Zd)×Int) (H:Z2p.f a0=some r):Pv.Fn Try.prog 8 [.im (.row (a0.map (Z1 .u8)))] [] 0 (fun x o=>x = .tup [.own 0,iV .i64 r.2]∧o=[(0,some (.row 9 38 (r.1.map Z7)))]):=by
 unfold Z2p.f at H
 refine Fn.bodyK [0] Try.func8 rfl rfl (fun Γ hP hn => ?_)
 have hm:Try.prog.follows .mixedOrders=true:=by kernel_rfl
 replace hn:Γ.n=59:=hn
 refine sO hP hn hm [] [] [0] [] [] ?_
 obtain⟨t2542,e2543,H⟩:=Z4 H
 refine sR hP hn hm [(1,.call [] [(0,0)] [] [0] 0 (.ptr 0 0 0) [(0,some (.box 94 (Z3 ⟨a0,0,0⟩)))])] [(4,.ptr 0 0 0)] [0,4] [(0,some (.box 94 (Z3 ⟨a0,0,0⟩)))] [0] [_,_] ⟨Try.call23,Z3c.ok a0 t2542 e2543,trivial⟩ ?_
 refine sO hP hn hm [(1,.k 1)] [(5,.ptr 1 0 0)] [0,4,5] [(1,some (.box 36 [iV .i64 0,iV .i64 0,iV .i64 0,iV .u64 0,iV .u64 0,iV .i64 0,.none0,.none0]))] [0,1] ?_
 refine AWp.seq ?_
 obtain⟨t2568,e2569,H⟩:=Z4 H
 refine sR hP hn hm [(1,.call [(0,0)] [(0,0)] [] [] 1 (bV t2568.1) [(0,some (.box 94 (Z3 ⟨a0,t2568.2.1,t2568.2.2⟩)))])] [(16,bV t2568.1)] [0,4,5,16] [(0,some (.box 94 (Z3 ⟨a0,t2568.2.1,t2568.2.2⟩)))] [0,1] [_,_] ⟨Try.call24,Z0b.ok a0 0 0 t2568 e2569,trivial⟩ ?_
 obtain⟨o3544,e3545,H⟩:=Z4 H
 refine AWp.mono (Q:=fun e s=>(match (generalizing:=false) o3544 with | x2571=>e = .normal∧s=⟨[(0,.im (.row (a0.map (Z1 .u8)))),(4,.ptr 2 0 0),(5,.ptr 3 0 0)],[(2,some (.box 94 (Z3 ⟨a0,t2568.2.1,t2568.2.2⟩))),(3,some (.box 36 [iV .i64 x2571,iV .i64 0,iV .i64 0,iV .u64 0,iV .u64 0,iV .i64 0,.none0,.none0]))],0⟩)) (AWp.cv ?_) ?_
 ·replace H:=e3545;clear e3545
  refine AWp.cond t2568.1 (by kernel_rfl) (fun c2570 => ?_) (fun c2570 => ?_)
  ·replace H:=iT c2570 H
   refine rO hP hn hm [] [] [0,4,5] [(1,some (.box 36 [iV .i64 1,iV .i64 0,iV .i64 0,iV .u64 0,iV .u64 0,iV .i64 0,.none0,.none0]))] [0,1] ?_
   obtain rfl:=sj H
   exact lf [(0,2),(1,3)] [] [] (by kernel_rfl) ⟨rfl,rfl⟩
  ·replace H:=iF c2570 H
   refine AWp.skip ?_
   obtain rfl:=sj H
   exact lf [(0,2),(1,3)] [] [] (by kernel_rfl) ⟨rfl,rfl⟩
 ·obtain⟨x2571,rfl⟩:∃ z,z=o3544:=⟨_,rfl⟩
  rintro e s ⟨rfl,rfl⟩
  obtain⟨t2600,e2601,H⟩:=Z4 H
  refine sR hP hn hm [(1,.call [(2,0)] [(0,2)] [] [] 1 (iV .u64 t2600.1) [(0,some (.box 94 (Z3 ⟨a0,t2600.2.1,t2600.2.2⟩)))])] [] [0,4,5] [(2,some (.box 94 (Z3 ⟨a0,t2600.2.1,t2600.2.2⟩))),(3,some (.box 36 [iV .i64 x2571,iV .i64 (i64.wrap ((i64.wrap (t2600.1))+(-4))),iV .i64 0,iV .u64 0,iV .u64 0,iV .i64 0,.none0,.none0]))] [2,3] [_,_] ⟨Try.call25,Z09.ok a0 t2568.2.1 t2568.2.2 4 t2600 e2601,trivial⟩ ?_
  obtain⟨t2680,e2681,H⟩:=Z4 H
  refine sR hP hn hm [(1,.call [(2,0)] [(0,2)] [] [] 1 (iV .i64 t2680.1) [(0,some (.box 94 (Z3 ⟨a0,t2680.2.1,t2680.2.2⟩)))])] [(6,iV .i64 t2680.1)] [0,4,5,6] [(2,some (.box 94 (Z3 ⟨a0,t2680.2.1,t2680.2.2⟩)))] [2,3] [_,_] ⟨Try.call26,Zy.ok a0 t2600.2.1 t2600.2.2 t2680 e2681,trivial⟩ ?_
  refine AWp.seq ?_
  refine AWp.seq ?_
  obtain⟨o3546,e3547,H⟩:=Z4 H
  refine AWp.mono (Q:=fun e s=>(match (generalizing:=false) o3546 with | x2684=>e = .normal∧s=⟨[(0,.im (.row (a0.map (Z1 .u8)))),(4,.ptr 4 0 0),(5,.ptr 5 0 0),(6,iV .i64 t2680.1),(30,bV x2684)],[(4,some (.box 94 (Z3 ⟨a0,t2680.2.1,t2680.2.2⟩))),(5,some (.box 36 [iV .i64 x2571,iV .i64 (i64.wrap ((i64.wrap (t2600.1))+(-4))),iV .i64 0,iV .u64 0,iV .u64 0,iV .i64 0,.none0,.none0]))],0⟩)) (AWp.cv ?_) ?_
  ·replace H:=e3547;clear e3547
   rcases Bool.eq_false_or_eq_true (decide (t2680.1<(-524288))) with c2683 | c2683
   ·replace H:=iT c2683 H
    refine rG hP hn hm [(2,.b true)] [(30,bV true)] [0,4,5,6,30] [] [2,3] [_] ⟨c2683,trivial⟩ ?_
    obtain rfl:=sj H
    exact lf [(2,4),(3,5)] [] [] (by kernel_rfl) ⟨rfl,rfl⟩
   ·replace H:=iF c2683 H
    refine rG hP hn hm [(2,.b false)] [(30,bV (decide (t2680.1>(262144:Int))))] [0,4,5,6,30] [] [2,3] [_] ⟨c2683,trivial⟩ ?_
    obtain rfl:=sj H
    exact lf [(2,4),(3,5)] [] [] (by kernel_rfl) ⟨rfl,rfl⟩
  ·obtain⟨x2684,rfl⟩:∃ z,z=o3546:=⟨_,rfl⟩
   rintro e s ⟨rfl,rfl⟩
   refine AWp.cond x2684 (by kernel_rfl) (fun c2685 => ?_) (fun c2685 => ?_)
   ·replace H:=iT c2685 H
    refine sO hP hn hm [] [(2,.none0),(3,iV .i64 6)] [2,3] [] [] ?_
    refine AWp.conv (inv:=[]) (vk:=[]) (e0:=[0]) (t:=⟨[(2,.own 0),(3,iV .i64 6)],[(0,some (.row 9 38 ([].map Z7)))],0⟩) (by kernel_rfl) ?_
    refine AWp.ret ?_
    obtain rfl:=sj H
    exact rl (.inl rfl) rfl (by kernel_rfl) (by kernel_rfl)
   ·replace H:=iF c2685 H
    refine AWp.skip ?_
    refine sO hP hn hm [] [] [0,4,5] [(5,some (.box 36 [iV .i64 x2571,iV .i64 (i64.wrap ((i64.wrap (t2600.1))+(-4))),iV .i64 t2680.1,iV .u64 0,iV .u64 0,iV .i64 0,.none0,.none0]))] [4,5] ?_
    obtain⟨t2838,e2839,H⟩:=Z4 H
    refine sR hP hn hm [(1,.call [(4,0)] [(0,4),(1,6)] [] [6] 1 (.agg [iV .i64 ((t2838.1).f0),.own 1]) [(0,some (.box 94 (Z3 ⟨a0,t2838.2.1,t2838.2.2⟩))),(1,some (.row 2 86 (((t2838.1).f1).map Z00)))]),(2,.k 7)] [(7,.ptr 7 0 0)] [0,4,5,7] [(4,some (.box 94 (Z3 ⟨a0,t2838.2.1,t2838.2.2⟩))),(6,some (.row 2 86 (((t2838.1).f1).map Z00))),(7,some (.box 52 [iV .i64 ((t2838.1).f0),.own 6]))] [4,5,6,7] [_,_] ⟨Try.call27,Z0z.ok a0 t2680.2.1 t2680.2.2 512 t2838 e2839,trivial⟩ ?_
    obtain⟨t2842,e2843,H⟩:=Z4 H
    refine sR hP hn hm [(1,.call [(4,0)] [(0,4),(1,8)] [] [8] 1 (.agg [iV .i64 ((t2842.1).f0),.own 1]) [(0,some (.box 94 (Z3 ⟨a0,t2842.2.1,t2842.2.2⟩))),(1,some (.row 2 86 (((t2842.1).f1).map Z00)))]),(2,.k 9)] [(8,.ptr 9 0 0)] [0,4,5,7,8] [(4,some (.box 94 (Z3 ⟨a0,t2842.2.1,t2842.2.2⟩))),(8,some (.row 2 86 (((t2842.1).f1).map Z00))),(9,some (.box 52 [iV .i64 ((t2842.1).f0),.own 8]))] [4,5,6,7,8,9] [_,_] ⟨Try.call27,Z0z.ok a0 t2838.2.1 t2838.2.2 512 t2842 e2843,trivial⟩ ?_
    refine AWp.seq ?_
    refine AWp.conv (inv:=[(5,5),(7,7),(4,4),(9,9)]) (vk:=[6,8]) (e0:=[]) (t:=⟨[(0,.im (.row (a0.map (Z1 .u8)))),(4,.ptr 4 0 0),(5,.ptr 5 0 0),(7,.ptr 7 0 0),(8,.ptr 9 0 0)],[(4,some (.box 94 (Z3 ⟨a0,t2842.2.1,t2842.2.2⟩))),(5,some (.box 36 [iV .i64 x2571,iV .i64 (i64.wrap ((i64.wrap (t2600.1))+(-4))),iV .i64 t2680.1,iV .u64 0,iV .u64 0,iV .i64 0,.none0,.none0])),(7,some (.box 52 (Za (t2838.1)))),(9,some (.box 52 (Za (t2842.1))))],0⟩) (by kernel_rfl) ?_
    obtain⟨t3430,e3431,H⟩:=Z4 H
    refine rG hP hn hm [(4,.call [(4,0)] [(0,4),(1,10)] [] [10] 1 (.own 1) [(0,some (.box 94 (Z3 ⟨a0,t3430.2.1,t3430.2.2⟩))),(1,some (.row 9 38 (t3430.1.map Z7)))])] [(9,.own 10)] [0,4,9] [(4,some (.box 94 (Z3 ⟨a0,t3430.2.1,t3430.2.2⟩))),(10,some (.row 9 38 (t3430.1.map Z7)))] [4,10] [_,_] ⟨Try.call28,Z04.ok a0 t2842.2.1 t2842.2.2 (⟨x2571,i64.wrap ((i64.wrap (t2600.1))+(-4)),t2680.1,0,0,0,[],[]⟩:Zj) (t2838.1) (t2842.1) t3430 e3431,trivial⟩ ?_
    refine AWp.seq ?_
    obtain⟨t3497,e3498,H⟩:=Z4 H
    refine sR hP hn hm [(1,.call [(4,0)] [(0,4)] [] [] 1 (iV .i64 t3497.1) [(0,some (.box 94 (Z3 ⟨a0,t3497.2.1,t3497.2.2⟩)))])] [(44,bV (t3497.1 != (0:Int)))] [0,9,44] [] [10] [_,_] ⟨Try.call29,Z0g.ok a0 t3430.2.1 t3430.2.2 t3497 e3498,trivial⟩ ?_
    refine AWp.cond (t3497.1 != (0:Int)) (by kernel_rfl) (fun c3499 => ?_) (fun c3499 => ?_)
    ·replace H:=iT c3499 H
     refine sO hP hn hm [] [(2,.none0),(3,iV .i64 6)] [2,3] [] [] ?_
     refine AWp.conv (inv:=[]) (vk:=[]) (e0:=[0]) (t:=⟨[(2,.own 0),(3,iV .i64 6)],[(0,some (.row 9 38 ([].map Z7)))],0⟩) (by kernel_rfl) ?_
     refine AWp.ret ?_
     obtain rfl:=sj H
     exact rl (.inl rfl) rfl (by kernel_rfl) (by kernel_rfl)
    ·replace H:=iF c3499 H
     refine AWp.skip ?_
     obtain⟨t3502,e3503,H⟩:=Z4 H
     refine sR hP hn hm [(1,.more (Z47 [] [(0,11)] [10] [11] 0 (.tup [.own 0,iV .i64 t3502.2]) [(0,some (.row 1 5 (t3502.1.map (Z1 .u8))))]))] [(10,.own 11),(11,iV .i64 t3502.2)] [0,9,10,11] [(11,some (.row 1 5 (t3502.1.map (Z1 .u8))))] [10,11] [_,_,∀ c∈t3502.1.map (Z1 .u8),∀ x∈c,∃ v,x=Im.sc v] ⟨Try.call7,Z0j.ok t3430.1 t3502 e3503,by exact Z4i _ _ (fun _=>by simp),trivial⟩ ?_
     refine AWp.seq ?_
     refine AWp.seq ?_
     obtain⟨o3548,e3549,H⟩:=Z4 H
     refine AWp.mono (Q:=fun e s=>(match (generalizing:=false) o3548 with | x3542=>e = .normal∧s=⟨[(9,.own 12),(57,bV x3542)],[(12,some (.row 9 38 (t3430.1.map Z7)))],0⟩)) (AWp.cv ?_) ?_
     ·replace H:=e3549;clear e3549
      rcases Bool.eq_false_or_eq_true (t3502.2 != (0:Int)) with c3539 | c3539
      ·replace H:=iT c3539 H
       refine rG hP hn hm [(2,.b true)] [(57,bV true)] [9,57] [] [10] [_] ⟨c3539,trivial⟩ ?_
       obtain rfl:=sj H
       exact lf [(10,12)] [] [] (by kernel_rfl) ⟨rfl,rfl⟩
      ·replace H:=iF c3539 H
       obtain⟨t3540,e3541,H⟩:=Z4 H
       refine rG hP hn hm [(2,.b false),(5,.call [] [] [11] [] 0 (bV t3540) [])] [(57,bV (!t3540))] [9,57] [] [10] [_,_,_] ⟨c3539,Try.call30,Z0m.ok t3502.1 a0 t3540 e3541,trivial⟩ ?_
       obtain rfl:=sj H
       exact lf [(10,12)] [] [] (by kernel_rfl) ⟨rfl,rfl⟩
     ·obtain⟨x3542,rfl⟩:∃ z,z=o3548:=⟨_,rfl⟩
      rintro e s ⟨rfl,rfl⟩
      refine AWp.cond x3542 (by kernel_rfl) (fun c3543 => ?_) (fun c3543 => ?_)
      ·replace H:=iT c3543 H
       refine sO hP hn hm [] [(2,.none0),(3,iV .i64 6)] [2,3] [] [] ?_
       refine AWp.conv (inv:=[]) (vk:=[]) (e0:=[0]) (t:=⟨[(2,.own 0),(3,iV .i64 6)],[(0,some (.row 9 38 ([].map Z7)))],0⟩) (by kernel_rfl) ?_
       refine AWp.ret ?_
       obtain rfl:=sj H
       exact rl (.inl rfl) rfl (by kernel_rfl) (by kernel_rfl)
      ·replace H:=iF c3543 H
       refine AWp.skip ?_
       refine sO hP hn hm [] [(2,.own 12),(3,iV .i64 0)] [2,3] [] [12] ?_
       refine AWp.conv (inv:=[(12,0)]) (vk:=[]) (e0:=[]) (t:=⟨[(2,.own 0),(3,iV .i64 0)],[(0,some (.row 9 38 (t3430.1.map Z7)))],0⟩) (by kernel_rfl) ?_
       refine AWp.ret ?_
       obtain rfl:=sj H
       exact rl (.inl rfl) rfl (by kernel_rfl) (by kernel_rfl)
def Z20.l0 (a0:List Z2) (a1:List Z2) (x3588:Int):Option (Bool ⊕ Unit):=if(decide (x3588<(a0.length:Int)))=true then((at? a0 x3588)>>=fun b3596=>(at? a1 x3588)>>=fun b3599=>if(!((b3596.f0==b3599.f0)&&((b3596.f1==b3599.f1)&&true)))=true then(some (.inl false)) else(Z20.l0 a0 a1 (i64.wrap (x3588+(1:Int))))) else(some (.inr ()))
partial_fixpoint
def Z20.f (a0:List Z2) (a1:List Z2):Option (Bool):=if((a0.length:Int) != (a1.length:Int))=true then(some false) else((Z20.l0 a0 a1 0)>>=fun oo=>match oo with | .inl rr=>(some rr) | .inr _=>(some true))
theorem Z20.ok (a0:List Z2) (a1:List Z2) (r:Bool) (H:Z20.f a0 a1=some r):Pv.Fn Try.prog 56 [.im (.row (a0.map Z0)),.im (.row (a1.map Z0))] [] 0 (fun x o=>x=bV r∧o=[]):=by
 unfold Z20.f at H
 refine Fn.bodyK [] Try.func56 rfl rfl (fun Γ hP hn => ?_)
 have hm:Try.prog.follows .mixedOrders=true:=by kernel_rfl
 replace hn:Γ.n=26:=hn
 refine sO hP hn hm [] [] [0,1] [] [] ?_
 refine AWp.seq ?_
 refine sR hP hn hm [(1,.any (iV .i64 (a0.length:Int))),(3,.any (iV .i64 (a1.length:Int)))] [(10,bV ((a0.length:Int) != (a1.length:Int)))] [0,1,10] [] [] [((a0.map Z0).length:Int)=(a0.length:Int),((a1.map Z0).length:Int)=(a1.length:Int)] ⟨by rw[Zi],by rw[Zi],trivial⟩ ?_
 refine AWp.cond ((a0.length:Int) != (a1.length:Int)) (by kernel_rfl) (fun c3573 => ?_) (fun c3573 => ?_)
 ·replace H:=iT c3573 H
  refine sO hP hn hm [] [(4,bV false)] [4] [] [] ?_
  refine AWp.conv (inv:=[]) (vk:=[]) (e0:=[]) (t:=⟨[(4,bV false)],[],0⟩) (by kernel_rfl) ?_
  refine AWp.ret ?_
  obtain rfl:=sj H
  exact rl (.inl rfl) rfl (by kernel_rfl) (by kernel_rfl)
 ·replace H:=iF c3573 H
  refine AWp.skip ?_
  refine AWp.seq ?_
  refine sO hP hn hm [] [(5,iV .i64 0)] [0,1,5] [] [] ?_
  refine AWp.block ?_
  obtain⟨o3603,e3604,H⟩:=Z4 H
  refine AWp.loop (LWp.conv (inv:=[]) (vk:=[]) (e0:=[]) (t:=⟨[(0,.im (.row (a0.map Z0))),(1,.im (.row (a1.map Z0))),(5,iV .i64 0)],[],0⟩) (by kernel_rfl) ?_)
  refine LWp.mono (Q:=fun e s=>(match (generalizing:=false) o3603 with | .inl rr=>e = .ret∧s.floor=0∧Z2c Try.prog Try.f56 s=some (bV rr)∧([]:List (Nat×Option MObj))=[] | .inr _=>e = .exit 0∧s=⟨[],[],0⟩)) (LWp.cv (Zt (fun body hbody => ?_))) ?_
  ·refine        Z20.l0.partial_correctness a0 a1 (motive:=fun x3588 o3603=>LWp Γ body (fun e s=>∃ t,Cv Γ s t∧(match (generalizing:=false) o3603 with | .inl rr=>e = .ret∧t.floor=0∧Z2c   Try.prog Try.f56 t=some (bV rr)∧([]:List (Nat×Option MObj))=[] | .inr _=>e = .exit 0∧t=⟨[],[],0⟩)) ⟨[(0,.im (.row (a0.map Z0     ))),(1,.im (.row (a1.map Z0     ))),(5,iV .i64 x3588)],[],0⟩) ?_ _ _ e3604
   clear H e3604 o3603;intro self ih x3588 o3603 H
   subst hbody
   refine LWp.round ?_
   refine AWp.seq ?_
   refine sR hP hn hm [(2,.any (iV .i64 (a0.length:Int)))] [(14,bV (decide (x3588<(a0.length:Int))))] [0,1,5,14] [] [] [((a0.map Z0).length:Int)=(a0.length:Int)] ⟨by rw[Zi],trivial⟩ ?_
   refine AWp.cond (decide (x3588<(a0.length:Int))) (by kernel_rfl) (fun c3589 => ?_) (fun c3589 => ?_)
   ·replace H:=iT c3589 H
    refine AWp.skip ?_
    refine AWp.seq ?_
    refine AWp.block ?_
    obtain⟨b3596,p3597,q3598,H⟩:=Z0d H
    obtain⟨b3599,p3600,q3601,H⟩:=Z0d H
    refine sR hP hn hm [(2,.c (Z0 b3596)),(6,.c (Z0 b3599)),(8,.more (xAgg none))] [(25,bV (!((b3596.f0==b3599.f0)&&((b3596.f1==b3599.f1)&&true))))] [0,1,5,25] [] [] [_,_,_,_] ⟨p3597,Zk Z0 q3598,p3600,Zk Z0 q3601,trivial⟩ ?_
    refine AWp.cond (!((b3596.f0==b3599.f0)&&((b3596.f1==b3599.f1)&&true))) (by kernel_rfl) (fun c3602 => ?_) (fun c3602 => ?_)
    ·replace H:=iT c3602 H
     refine sO hP hn hm [] [(4,bV false)] [4] [] [] ?_
     refine AWp.conv (inv:=[]) (vk:=[]) (e0:=[]) (t:=⟨[(4,bV false)],[],0⟩) (by kernel_rfl) ?_
     refine AWp.ret ?_
     obtain rfl:=sj H
     exact rl rfl rfl (by kernel_rfl) (by kernel_rfl)
    ·replace H:=iF c3602 H
     refine AWp.skip ?_
     refine rO hP hn hm [] [(5,iV .i64 (i64.wrap (x3588+(1:Int))))] [0,1,5] [] [] ?_
     exact LWp.conv [] [] [] (by kernel_rfl) (ih _ _ H)
   ·replace H:=iF c3589 H
    refine AWp.exit ?_
    obtain rfl:=sj H
    exact lf [] [] [] (by kernel_rfl) ⟨rfl,rfl⟩
  ·rcases o3603 with rr | _
   ·skip
    rintro e s ⟨rfl,hfl,hres⟩
    obtain rfl:=sj H
    exact Exists.intro _ (And.intro (fun _ _ h=>h) (And.intro (.inl rfl) (And.intro hfl hres)))
   ·skip
    rintro e s ⟨rfl,rfl⟩
    refine sO hP hn hm [] [(4,bV true)] [4] [] [] ?_
    refine AWp.conv (inv:=[]) (vk:=[]) (e0:=[]) (t:=⟨[(4,bV true)],[],0⟩) (by kernel_rfl) ?_
    refine AWp.ret ?_
    obtain rfl:=sj H
    exact rl (.inl rfl) rfl (by kernel_rfl) (by kernel_rfl)
def Z3u.f (a0:Zj) (a1:Zj):Option (Bool):=((if(a0.f0==a1.f0)=true then(if(a0.f1==a1.f1)=true then(if(a0.f2==a1.f2)=true then(if(a0.f3==a1.f3)=true then(if(a0.f4==a1.f4)=true then(if(a0.f5==a1.f5)=true then((Z20.f a0.f6 a1.f6)>>=fun t3616=>if t3616=true then((Z20.f a0.f7 a1.f7)>>=fun t3619=>some t3619) else(some false)) else(some false)) else(some false)) else(some false)) else(some false)) else(some false)) else(some false)):Option (Bool))>>=fun x3621=>some x3621
theorem Z3u.ok (a0:Zj) (a1:Zj) (r:Bool) (H:Z3u.f a0 a1=some r):Pv.Fn Try.prog 31 [.agg (Zn a0),.agg (Zn a1)] [] 0 (fun x o=>x=bV r∧o=[]):=by
 unfold Z3u.f at H
 refine Fn.bodyK [] Try.func31 rfl rfl (fun Γ hP hn => ?_)
 have hm:Try.prog.follows .mixedOrders=true:=by kernel_rfl
 replace hn:Γ.n=59:=hn
 refine sO hP hn hm [(0,.k 0),(1,.k 1)] [(2,.ptr 0 0 0),(3,.ptr 1 0 0)] [2,3] [(0,some (.box 36 (Zn a0))),(1,some (.box 36 (Zn a1)))] [0,1] ?_
 refine AWp.seq ?_
 obtain⟨o3622,e3623,H⟩:=Z4 H
 refine AWp.mono (Q:=fun e s=>(match (generalizing:=false) o3622 with | x3621=>e = .normal∧s=⟨[(4,bV x3621)],[],0⟩)) (AWp.cv ?_) ?_
 ·replace H:=e3623;clear e3623
  rcases Bool.eq_false_or_eq_true (a0.f0==a1.f0) with c3610 | c3610
  ·replace H:=iT c3610 H
   rcases Bool.eq_false_or_eq_true (a0.f1==a1.f1) with c3611 | c3611
   ·replace H:=iT c3611 H
    rcases Bool.eq_false_or_eq_true (a0.f2==a1.f2) with c3612 | c3612
    ·replace H:=iT c3612 H
     rcases Bool.eq_false_or_eq_true (a0.f3==a1.f3) with c3613 | c3613
     ·replace H:=iT c3613 H
      rcases Bool.eq_false_or_eq_true (a0.f4==a1.f4) with c3614 | c3614
      ·replace H:=iT c3614 H
       rcases Bool.eq_false_or_eq_true (a0.f5==a1.f5) with c3615 | c3615
       ·replace H:=iT c3615 H
        obtain⟨t3616,e3617,H⟩:=Z4 H
        rcases Bool.eq_false_or_eq_true t3616 with c3618 | c3618
        ·replace H:=iT c3618 H
         obtain⟨t3619,e3620,H⟩:=Z4 H
         refine rG hP hn hm [(5,.b true),(12,.b true),(19,.b true),(26,.b true),(33,.b true),(40,.b true),(45,.call [] [] [] [] 0 (bV t3616) []),(47,.b true),(52,.call [] [] [] [] 0 (bV t3619) [])] [(4,bV t3619)] [4] [] [] [_,_,_,_,_,_,_,_,_,_,_] ⟨c3610,c3611,c3612,c3613,c3614,c3615,Try.call56,Z20.ok a0.f6 a1.f6 t3616 e3617,c3618,Try.call56,Z20.ok a0.f7 a1.f7 t3619 e3620,trivial⟩ ?_
         obtain rfl:=sj H
         exact lf [] [] [] (by kernel_rfl) ⟨rfl,rfl⟩
        ·replace H:=iF c3618 H
         refine rG hP hn hm [(5,.b true),(12,.b true),(19,.b true),(26,.b true),(33,.b true),(40,.b true),(45,.call [] [] [] [] 0 (bV t3616) []),(47,.b false)] [(4,bV false)] [4] [] [] [_,_,_,_,_,_,_,_,_] ⟨c3610,c3611,c3612,c3613,c3614,c3615,Try.call56,Z20.ok a0.f6 a1.f6 t3616 e3617,c3618,trivial⟩ ?_
         obtain rfl:=sj H
         exact lf [] [] [] (by kernel_rfl) ⟨rfl,rfl⟩
       ·replace H:=iF c3615 H
        refine rG hP hn hm [(5,.b true),(12,.b true),(19,.b true),(26,.b true),(33,.b true),(40,.b false)] [(4,bV false)] [4] [] [] [_,_,_,_,_,_] ⟨c3610,c3611,c3612,c3613,c3614,c3615,trivial⟩ ?_
        obtain rfl:=sj H
        exact lf [] [] [] (by kernel_rfl) ⟨rfl,rfl⟩
      ·replace H:=iF c3614 H
       refine rG hP hn hm [(5,.b true),(12,.b true),(19,.b true),(26,.b true),(33,.b false)] [(4,bV false)] [4] [] [] [_,_,_,_,_] ⟨c3610,c3611,c3612,c3613,c3614,trivial⟩ ?_
       obtain rfl:=sj H
       exact lf [] [] [] (by kernel_rfl) ⟨rfl,rfl⟩
     ·replace H:=iF c3613 H
      refine rG hP hn hm [(5,.b true),(12,.b true),(19,.b true),(26,.b false)] [(4,bV false)] [4] [] [] [_,_,_,_] ⟨c3610,c3611,c3612,c3613,trivial⟩ ?_
      obtain rfl:=sj H
      exact lf [] [] [] (by kernel_rfl) ⟨rfl,rfl⟩
    ·replace H:=iF c3612 H
     refine rG hP hn hm [(5,.b true),(12,.b true),(19,.b false)] [(4,bV false)] [4] [] [] [_,_,_] ⟨c3610,c3611,c3612,trivial⟩ ?_
     obtain rfl:=sj H
     exact lf [] [] [] (by kernel_rfl) ⟨rfl,rfl⟩
   ·replace H:=iF c3611 H
    refine rG hP hn hm [(5,.b true),(12,.b false)] [(4,bV false)] [4] [] [] [_,_] ⟨c3610,c3611,trivial⟩ ?_
    obtain rfl:=sj H
    exact lf [] [] [] (by kernel_rfl) ⟨rfl,rfl⟩
  ·replace H:=iF c3610 H
   refine rG hP hn hm [(5,.b false)] [(4,bV false)] [4] [] [] [_] ⟨c3610,trivial⟩ ?_
   obtain rfl:=sj H
   exact lf [] [] [] (by kernel_rfl) ⟨rfl,rfl⟩
 ·obtain⟨x3621,rfl⟩:∃ z,z=o3622:=⟨_,rfl⟩
  rintro e s ⟨rfl,rfl⟩
  refine AWp.conv (inv:=[]) (vk:=[]) (e0:=[]) (t:=⟨[(4,bV x3621)],[],0⟩) (by kernel_rfl) ?_
  refine AWp.ret ?_
  obtain rfl:=sj H
  exact rl (.inl rfl) rfl (by kernel_rfl) (by kernel_rfl)
def Z2l.l0 (a0:List Zd) (a1:List Zd) (x3637:Int):Option (Bool ⊕ Unit):=if(decide (x3637<(a0.length:Int)))=true then((((at? a0 x3637)>>=fun b3648=>(at? a1 x3637)>>=fun b3651=>if(b3648.f0 != b3651.f0)=true then(some true) else((Z3u.f b3648.f1 b3651.f1)>>=fun t3655=>some (!t3655))):Option (Bool))>>=fun x3657=>if x3657=true then(some (.inl false)) else(Z2l.l0 a0 a1 (i64.wrap (x3637+(1:Int))))) else(some (.inr ()))
partial_fixpoint
def Z2l.f (a0:List Zd) (a1:List Zd):Option (Bool):=if((a0.length:Int) != (a1.length:Int))=true then(some false) else((Z2l.l0 a0 a1 0)>>=fun oo=>match oo with | .inl rr=>(some rr) | .inr _=>(some true))
theorem Z2l.ok (a0:List Zd) (a1:List Zd) (r:Bool) (H:Z2l.f a0 a1=some r):Pv.Fn Try.prog 9 [.im (.row (a0.map Z7)),.im (.row (a1.map Z7))] [] 0 (fun x o=>x=bV r∧o=[]):=by
 unfold Z2l.f at H
 refine Fn.bodyK [] Try.func9 rfl rfl (fun Γ hP hn => ?_)
 have hm:Try.prog.follows .mixedOrders=true:=by kernel_rfl
 replace hn:Γ.n=42:=hn
 refine sO hP hn hm [] [] [0,1] [] [] ?_
 refine AWp.seq ?_
 refine sR hP hn hm [(1,.any (iV .i64 (a0.length:Int))),(3,.any (iV .i64 (a1.length:Int)))] [(10,bV ((a0.length:Int) != (a1.length:Int)))] [0,1,10] [] [] [((a0.map Z7).length:Int)=(a0.length:Int),((a1.map Z7).length:Int)=(a1.length:Int)] ⟨by rw[Zi],by rw[Zi],trivial⟩ ?_
 refine AWp.cond ((a0.length:Int) != (a1.length:Int)) (by kernel_rfl) (fun c3558 => ?_) (fun c3558 => ?_)
 ·replace H:=iT c3558 H
  refine sO hP hn hm [] [(4,bV false)] [4] [] [] ?_
  refine AWp.conv (inv:=[]) (vk:=[]) (e0:=[]) (t:=⟨[(4,bV false)],[],0⟩) (by kernel_rfl) ?_
  refine AWp.ret ?_
  obtain rfl:=sj H
  exact rl (.inl rfl) rfl (by kernel_rfl) (by kernel_rfl)
 ·replace H:=iF c3558 H
  refine AWp.skip ?_
  refine AWp.seq ?_
  refine sR hP hn hm [(1,.any (iV .i64 (a0.length:Int)))] [(12,iV .i64 (a0.length:Int)),(13,iV .i64 0)] [0,1,12,13] [] [] [((a0.map Z7).length:Int)=(a0.length:Int)] ⟨by rw[Zi],trivial⟩ ?_
  refine AWp.block ?_
  obtain⟨o3659,e3660,H⟩:=Z4 H
  refine AWp.loop (LWp.conv (inv:=[]) (vk:=[]) (e0:=[]) (t:=⟨[(0,.im (.row (a0.map Z7))),(1,.im (.row (a1.map Z7))),(12,iV .i64 (a0.length:Int)),(13,iV .i64 0)],[],0⟩) (by kernel_rfl) ?_)
  refine LWp.mono (Q:=fun e s=>(match (generalizing:=false) o3659 with | .inl rr=>e = .ret∧s.floor=0∧Z2c Try.prog Try.f9 s=some (bV rr)∧([]:List (Nat×Option MObj))=[] | .inr _=>e = .exit 0∧s=⟨[],[],0⟩)) (LWp.cv (Zt (fun body hbody => ?_))) ?_
  ·refine        Z2l.l0.partial_correctness a0 a1 (motive:=fun x3637 o3659=>LWp Γ body (fun e s=>∃ t,Cv Γ s t∧(match (generalizing:=false) o3659 with | .inl rr=>e = .ret∧t.floor=0∧Z2c   Try.prog Try.f9 t=some (bV rr)∧([]:List (Nat×Option MObj))=[] | .inr _=>e = .exit 0∧t=⟨[],[],0⟩)) ⟨[(0,.im (.row (a0.map Z7     ))),(1,.im (.row (a1.map Z7     ))),(12,iV .i64 (a0.length:Int)),(13,iV .i64 x3637)],[],0⟩) ?_ _ _ e3660
   clear H e3660 o3659;intro self ih x3637 o3659 H
   subst hbody
   refine LWp.round ?_
   refine sO hP hn hm [] [(14,bV (decide (x3637<(a0.length:Int))))] [0,1,12,13,14] [] [] ?_
   refine AWp.seq ?_
   refine AWp.cond (decide (x3637<(a0.length:Int))) (by kernel_rfl) (fun c3638 => ?_) (fun c3638 => ?_)
   ·replace H:=iT c3638 H
    refine AWp.skip ?_
    refine AWp.seq ?_
    refine AWp.block ?_
    refine sO hP hn hm [] [(5,iV .i64 x3637)] [0,1,5,12,13] [] [] ?_
    refine AWp.seq ?_
    obtain⟨o3661,e3662,H⟩:=Z4 H
    refine AWp.mono (Q:=fun e s=>(match (generalizing:=false) o3661 with | x3657=>e = .normal∧s=⟨[(0,.im (.row (a0.map Z7))),(1,.im (.row (a1.map Z7))),(12,iV .i64 (a0.length:Int)),(13,iV .i64 x3637),(40,bV x3657)],[],0⟩)) (AWp.cv ?_) ?_
    ·replace H:=e3662;clear e3662
     obtain⟨b3648,p3649,q3650,H⟩:=Z0d H
     obtain⟨b3651,p3652,q3653,H⟩:=Z0d H
     rcases Bool.eq_false_or_eq_true (b3648.f0 != b3651.f0) with c3654 | c3654
     ·replace H:=iT c3654 H
      refine rG hP hn hm [(2,.c (Z7 b3648)),(7,.c (Z7 b3651)),(11,.b true)] [(40,bV true)] [0,1,12,13,40] [] [] [_,_,_,_,_] ⟨p3649,Zk Z7 q3650,p3652,Zk Z7 q3653,c3654,trivial⟩ ?_
      obtain rfl:=sj H
      exact lf [] [] [] (by kernel_rfl) ⟨rfl,rfl⟩
     ·replace H:=iF c3654 H
      obtain⟨t3655,e3656,H⟩:=Z4 H
      refine rG hP hn hm [(2,.c (Z7 b3648)),(7,.c (Z7 b3651)),(11,.b false),(14,.c (Z7 b3648)),(19,.c (Z7 b3651)),(22,.call [] [] [] [] 0 (bV t3655) [])] [(28,.im (.row (a0.map Z7))),(29,iV .i64 x3637),(30,.ip [iI .i64 b3648.f0,iI .i64 b3648.f1.f0,iI .i64 b3648.f1.f1,iI .i64 b3648.f1.f2,iI .u64 b3648.f1.f3,iI .u64 b3648.f1.f4,iI .i64 b3648.f1.f5,.row (b3648.f1.f6.map Z0),.row (b3648.f1.f7.map Z0)]),(31,.ip [iI .i64 b3648.f1.f0,iI .i64 b3648.f1.f1,iI .i64 b3648.f1.f2,iI .u64 b3648.f1.f3,iI .u64 b3648.f1.f4,iI .i64 b3648.f1.f5,.row (b3648.f1.f6.map Z0),.row (b3648.f1.f7.map Z0)]),(32,.agg (Zn b3648.f1)),(33,.im (.row (a1.map Z7))),(34,iV .i64 x3637),(35,.ip [iI .i64 b3651.f0,iI .i64 b3651.f1.f0,iI .i64 b3651.f1.f1,iI .i64 b3651.f1.f2,iI .u64 b3651.f1.f3,iI .u64 b3651.f1.f4,iI .i64 b3651.f1.f5,.row (b3651.f1.f6.map Z0),.row (b3651.f1.f7.map Z0)]),(36,.ip [iI .i64 b3651.f1.f0,iI .i64 b3651.f1.f1,iI .i64 b3651.f1.f2,iI .u64 b3651.f1.f3,iI .u64 b3651.f1.f4,iI .i64 b3651.f1.f5,.row (b3651.f1.f6.map Z0),.row (b3651.f1.f7.map Z0)]),(37,.agg (Zn b3651.f1)),(38,bV t3655),(39,bV (!t3655)),(40,bV (!t3655))] [0,1,12,13,28,29,30,31,32,33,34,35,36,37,38,39,40] [] [] [_,_,_,_,_,_,_,_,_,_,_] ⟨p3649,Zk Z7 q3650,p3652,Zk Z7 q3653,c3654,p3649,Zk Z7 q3650,p3652,Zk Z7 q3653,Try.call31,Z3u.ok b3648.f1 b3651.f1 t3655 e3656,trivial⟩ ?_
      obtain rfl:=sj H
      exact lf [] [] [] (by kernel_rfl) ⟨rfl,rfl⟩
    ·obtain⟨x3657,rfl⟩:∃ z,z=o3661:=⟨_,rfl⟩
     rintro e s ⟨rfl,rfl⟩
     refine AWp.cond x3657 (by kernel_rfl) (fun c3658 => ?_) (fun c3658 => ?_)
     ·replace H:=iT c3658 H
      refine sO hP hn hm [] [(4,bV false)] [4] [] [] ?_
      refine AWp.conv (inv:=[]) (vk:=[]) (e0:=[]) (t:=⟨[(4,bV false)],[],0⟩) (by kernel_rfl) ?_
      refine AWp.ret ?_
      obtain rfl:=sj H
      exact rl rfl rfl (by kernel_rfl) (by kernel_rfl)
     ·replace H:=iF c3658 H
      refine AWp.skip ?_
      refine rO hP hn hm [] [(13,iV .i64 (i64.wrap (x3637+(1:Int))))] [0,1,12,13] [] [] ?_
      exact LWp.conv [] [] [] (by kernel_rfl) (ih _ _ H)
   ·replace H:=iF c3638 H
    refine AWp.exit ?_
    obtain rfl:=sj H
    exact lf [] [] [] (by kernel_rfl) ⟨rfl,rfl⟩
  ·rcases o3659 with rr | _
   ·skip
    rintro e s ⟨rfl,hfl,hres⟩
    obtain rfl:=sj H
    exact Exists.intro _ (And.intro (fun _ _ h=>h) (And.intro (.inl rfl) (And.intro hfl hres)))
   ·skip
    rintro e s ⟨rfl,rfl⟩
    refine sO hP hn hm [] [(4,bV true)] [4] [] [] ?_
    refine AWp.conv (inv:=[]) (vk:=[]) (e0:=[]) (t:=⟨[(4,bV true)],[],0⟩) (by kernel_rfl) ?_
    refine AWp.ret ?_
    obtain rfl:=sj H
    exact rl (.inl rfl) rfl (by kernel_rfl) (by kernel_rfl)
def Z1p.f  : Option (Bool):=(Z33.f 0 0)>>=fun t1862=>(Z0j.f [(⟨0,(t1862)⟩:Zd)])>>=fun t2538=>(Z2p.f t2538.1)>>=fun t3554=>((if(t2538.2==(0:Int))=true then(if(t3554.2==(0:Int))=true then((Z2l.f [(⟨0,(t1862)⟩:Zd)] t3554.1)>>=fun t3667=>some t3667) else(some false)) else(some false)):Option (Bool))>>=fun x3669=>some x3669
theorem Z1p.ok  (r:Bool) (H:Z1p.f  = some r):Pv.Fn Try.prog 6 [] [] 0 (fun x o=>x=bV r∧o=[]):=by
 unfold Z1p.f at H
 refine Fn.bodyK [] Try.func6 rfl rfl (fun Γ hP hn => ?_)
 have hm:Try.prog.follows .mixedOrders=true:=by kernel_rfl
 replace hn:Γ.n=30:=hn
 refine sO hP hn hm [] [] [] [] [] ?_
 obtain⟨t1862,e1863,H⟩:=Z4 H
 refine sR hP hn hm [(0,.call [] [] [] [] 0 (.agg (Zn (t1862))) []),(2,.app 0 ([(⟨0,(t1862)⟩:Zd)].map Z7))] [(1,.own 0)] [1] [(0,some (.row 9 38 ([(⟨0,(t1862)⟩:Zd)].map Z7)))] [0] [_,_,[(⟨0,(t1862)⟩:Zd)].map Z7=[[iI .i64 0,iI .i64 ((t1862).f0),iI .i64 ((t1862).f1),iI .i64 ((t1862).f2),iI .u64 ((t1862).f3),iI .u64 ((t1862).f4),iI .i64 ((t1862).f5),.row (((t1862).f6).map Z0),.row (((t1862).f7).map Z0)]]] ⟨Try.call14,Z33.ok 0 0 t1862 e1863,by exact rfl,trivial⟩ ?_
 obtain⟨t2538,e2539,H⟩:=Z4 H
 refine sR hP hn hm [(1,.more (Z47 [] [(0,1)] [0] [1] 0 (.tup [.own 0,iV .i64 t2538.2]) [(0,some (.row 1 5 (t2538.1.map (Z1 .u8))))]))] [(2,.own 1),(3,iV .i64 t2538.2)] [1,2,3] [(1,some (.row 1 5 (t2538.1.map (Z1 .u8))))] [0,1] [_,_,∀ c∈t2538.1.map (Z1 .u8),∀ x∈c,∃ v,x=Im.sc v] ⟨Try.call7,Z0j.ok [(⟨0,(t1862)⟩:Zd)] t2538 e2539,by exact Z4i _ _ (fun _=>by simp),trivial⟩ ?_
 refine AWp.seq ?_
 refine AWp.conv (inv:=[(0,0)]) (vk:=[1]) (e0:=[]) (t:=⟨[(1,.own 0),(2,.im (.row (t2538.1.map (Z1 .u8)))),(3,iV .i64 t2538.2)],[(0,some (.row 9 38 ([(⟨0,(t1862)⟩:Zd)].map Z7)))],0⟩) (by kernel_rfl) ?_
 obtain⟨t3554,e3555,H⟩:=Z4 H
 refine rG hP hn hm [(1,.call [] [(0,2)] [] [2] 0 (.tup [.own 0,iV .i64 t3554.2]) [(0,some (.row 9 38 (t3554.1.map Z7)))])] [(4,.own 2),(5,iV .i64 t3554.2)] [1,3,4,5] [(2,some (.row 9 38 (t3554.1.map Z7)))] [0,2] [_,_] ⟨Try.call8,Z2p.ok t2538.1 t3554 e3555,trivial⟩ ?_
 refine AWp.seq ?_
 obtain⟨o3670,e3671,H⟩:=Z4 H
 refine AWp.mono (Q:=fun e s=>(match (generalizing:=false) o3670 with | x3669=>e = .normal∧s=⟨[(0,bV x3669)],[],0⟩)) (AWp.cv ?_) ?_
 ·replace H:=e3671;clear e3671
  rcases Bool.eq_false_or_eq_true (t2538.2==(0:Int)) with c3665 | c3665
  ·replace H:=iT c3665 H
   rcases Bool.eq_false_or_eq_true (t3554.2==(0:Int)) with c3666 | c3666
   ·replace H:=iT c3666 H
    obtain⟨t3667,e3668,H⟩:=Z4 H
    refine rG hP hn hm [(2,.b true),(6,.b true),(9,.call [] [] [0,2] [] 0 (bV t3667) [])] [(0,bV t3667)] [0] [] [] [_,_,_,_] ⟨c3665,c3666,Try.call9,Z2l.ok [(⟨0,(t1862)⟩:Zd)] t3554.1 t3667 e3668,trivial⟩ ?_
    obtain rfl:=sj H
    exact lf [] [] [] (by kernel_rfl) ⟨rfl,rfl⟩
   ·replace H:=iF c3666 H
    refine rG hP hn hm [(2,.b true),(6,.b false)] [(0,bV false)] [0] [] [] [_,_] ⟨c3665,c3666,trivial⟩ ?_
    obtain rfl:=sj H
    exact lf [] [] [] (by kernel_rfl) ⟨rfl,rfl⟩
  ·replace H:=iF c3665 H
   refine rG hP hn hm [(2,.b false)] [(0,bV false)] [0] [] [] [_] ⟨c3665,trivial⟩ ?_
   obtain rfl:=sj H
   exact lf [] [] [] (by kernel_rfl) ⟨rfl,rfl⟩
 ·obtain⟨x3669,rfl⟩:∃ z,z=o3670:=⟨_,rfl⟩
  rintro e s ⟨rfl,rfl⟩
  refine AWp.conv (inv:=[]) (vk:=[]) (e0:=[]) (t:=⟨[(0,bV x3669)],[],0⟩) (by kernel_rfl) ?_
  refine AWp.ret ?_
  obtain rfl:=sj H
  exact rl (.inl rfl) rfl (by kernel_rfl) (by kernel_rfl)
def Z0s.l0 (a0:List Zd) (x1:List (List Zd)) (x2:List Zd) (x3:Int):Option (List (List Zd)):=if(decide (x3<(a0.length:Int)))=true then((at? a0 x3)>>=fun b1=>(chk ((x1.length+2)*24≤140737488355328))>>=fun _=>(Zw.f x2 b1)>>=fun t1=>if(!t1)=true then Z0s.l0 a0 (x1++[x2]) [b1] (i64.wrap (x3+(1:Int))) else(chk ((x2.length+1)*104≤140737488355328))>>=fun _=>Z0s.l0 a0 x1 (x2++[b1]) (i64.wrap (x3+(1:Int)))) else some (x1++[x2])
partial_fixpoint
def Z0s.f (a0:List Zd):Option (List (List Zd)):=if(decide ((0:Int)<(a0.length:Int)))=true then((at? a0 0)>>=fun b1=>Z0s.l0 a0 [] [b1] (i64.wrap ((0:Int)+(1:Int)))) else some []
theorem Z0s.ok (a0:List Zd) (r:List (List Zd)) (H:Z0s.f a0=some r):Pv.Fn Try.prog 13 [.im (.row (a0.map Z7))] [] 0 (fun x o=>x = .own 0∧o=[(0,some (.row 1 22 (r.map (Z0w Z7))))]):=by
 unfold Z0s.f at H
 refine Fn.bodyK [0] Try.func13 rfl rfl (fun Γ hP hn => ?_)
 have hm:Try.prog.follows .mixedOrders=true:=by kernel_rfl
 replace hn:Γ.n=46:=hn
 refine sO hP hn hm [] [] [0] [] [] ?_
 refine sO hP hn hm [] [(3,.none0)] [0,3] [] [] ?_
 refine AWp.seq ?_
 refine AWp.seq ?_
 refine rG hP hn hm [(1,.any (iV .i64 (a0.length:Int)))] [(7,.im (.row (a0.map Z7))),(8,iV .i64 (a0.length:Int)),(9,iV .i64 0)] [3,7,8,9] [] [] [((a0.map Z7).length:Int)=(a0.length:Int)] ⟨by rw[Zi],trivial⟩ ?_
 refine AWp.block ?_
 refine AWp.loop (LWp.mono (Q:=fun e s=>e = .exit 0∧s=⟨[(3,.own 0)],[(0,some (.row 1 22 (r.map (Z0w Z7))))],0⟩) (LWp.cv (Zt (fun body hbody => ?_))) ?_)
 ·have main:∀ x1 x2 x3 o,        Z0s.l0 a0 x1 x2 x3=some o→LWp Γ body (fun e s=>∃ t,Cv Γ s t∧(e = .exit 0∧t=⟨[(3,.own 0)],[(0,some (.row 1 22 (o.map (Z0w    Z7     ))))],0⟩)) ⟨[(3,.own 20),(7,.im (.row (a0.map Z7     ))),(8,iV .i64 (a0.length:Int)),(9,iV .i64 x3)],[(20,some (.arow 1 22 (x1.map (Z0w    Z7     )) [[.own 21]])),(21,some (.row 9 38 (x2.map Z7     )))],0⟩:=by
   intro x1 x2 x3 o e1
   refine Z0s.l0.partial_correctness a0 (motive:=fun x1 x2 x3 o=>LWp Γ body (fun e s=>∃ t,Cv Γ s t∧(e = .exit 0∧t=⟨[(3,.own 0)],[(0,some (.row 1 22 (o.map (Z0w Z7))))],0⟩)) ⟨[(3,.own 20),(7,.im (.row (a0.map Z7))),(8,iV .i64 (a0.length:Int)),(9,iV .i64 x3)],[(20,some (.arow 1 22 (x1.map (Z0w Z7)) [[.own 21]])),(21,some (.row 9 38 (x2.map Z7)))],0⟩) ?_ _ _ _ _ e1
   clear H e1 o x1 x2 x3;intro self ih x1 x2 x3 o H
   subst hbody
   refine LWp.round ?_
   refine sO hP hn hm [] [(10,bV (decide (x3<(a0.length:Int))))] [3,7,8,9,10] [] [20,21] ?_
   refine AWp.seq ?_
   refine AWp.cond (decide (x3<(a0.length:Int))) (by kernel_rfl) (fun c1 => ?_) (fun c1 => ?_)
   ·replace H:=iT c1 H
    refine AWp.skip ?_
    refine AWp.seq ?_
    refine AWp.block ?_
    obtain⟨b1,p1,q1,H⟩:=Z0d H
    obtain⟨d1,H⟩:=Z0x H
    have w0:=cut_w0 d1
    have w1:=cut_w1 d1
    rw[← Zi x1 (Z0w Z7)] at w0 w1
    refine sR hP hn hm [(0,.c (Z7 b1)),(2,.k 23)] [(5,.ptr 23 0 0)] [3,5,7,8,9] [(23,some (.box 38 (aSample b1)))] [20,21,23] [_,_] ⟨p1,Zk Z7 q1,trivial⟩ ?_
    refine sO hP hn hm [(1,.more xLenT)] [(6,iV .i64 (((x1.map (Z0w Z7)).length+1:Nat):Int))] [3,5,6,7,8,9] [] [20,21,23] ?_
    refine AWp.seq ?_
    obtain⟨t1,e2,H⟩:=Z4 H
    refine sR hP hn hm [(1,.b false),(6,.more (xIdxT 0)),(7,.more (xLoadT 0)),(9,.more (Z47 [] [] [21] [] 0 (bV t1) []))] [(26,bV (!t1))] [3,5,6,7,8,9,26] [] [20,21,23] [((((x1.map (Z0w Z7)).length+1:Nat):Int)==(0:Int))=false,_,(x1.map (Z0w Z7)).length+0=(x1.map (Z0w Z7)).length+0,_,_] ⟨by simp;omega,w0,rfl,Try.call12,Zw.ok x2 b1 t1 e2,trivial⟩ ?_
    refine AWp.cond (!t1) (by kernel_rfl) (fun c2 => ?_) (fun c2 => ?_)
    ·replace H:=iT c2 H
     refine sR hP hn hm [(1,.more (xOneT 24)),(2,.more (xAppT 25))] [(3,.own 25)] [3,5,6,7,8,9] [(25,some (.arow 1 22 (x1.map (Z0w Z7)) [[.own 21],[.none0]]))] [21,23,25] [((x1.map (Z0w Z7)).length+1+1)*24≤140737488355328] ⟨by rw[Zi];omega,trivial⟩ ?_
     refine rO hP hn hm [] [(6,iV .i64 (i64.wrap ((((x1.map (Z0w Z7)).length+1:Nat):Int)+1)))] [3,5,6,7,8,9] [] [21,23,25] ?_
     refine rG hP hn hm [(6,.more (xIdxT 1)),(7,.more (xLoadT 1)),(9,.app 26 ([b1].map Z7)),(10,.app 27 ([b1].map Z7)),(11,.more (xIdxT 1)),(12,.more (xStoreT 1))] [] [3,7,8,9] [(25,some (.arow 1 22 (x1.map (Z0w Z7)) [[.own 21],[.own 27]])),(27,some (.row 9 38 ([b1].map Z7)))] [21,25,27] [_,(x1.map (Z0w Z7)).length+1=(x1.map (Z0w Z7)).length+1,[b1].map Z7=[Z7 b1],[b1].map Z7=[]++([b1].map Z7),∀ c∈([b1].map Z7),c.length=9,∀ c∈([b1].map Z7),Z0k (c.map .im)=true,(([]:List (List Im)).length+([b1].map Z7).length)*104≤140737488355328,_,(x1.map (Z0w Z7)).length+1=(x1.map (Z0w Z7)).length+1] ⟨w1,rfl,rfl,rfl,by exact Z0o _ _ _ (fun _=>rfl),by exact Z0p _ _ (fun _=>rfl),by simp,w1,rfl,trivial⟩ ?_
     refine rO hP hn hm [] [(9,iV .i64 (i64.wrap (x3+(1:Int))))] [3,7,8,9] [] [21,25,27] ?_
     have h:=ih _ _ _ _ H
     rw[app1] at h
     exact LWp.conv [(25,20),(27,21)] [21] [] (by kernel_rfl) h
    ·replace H:=iF c2 H
     obtain⟨d2,H⟩:=Z0x H
     refine AWp.skip ?_
     refine rG hP hn hm [(6,.more (xIdxT 0)),(7,.more (xLoadT 0)),(9,.app 26 ([b1].map Z7)),(10,.app 27 ((x2++[b1]).map Z7)),(11,.more (xIdxT 0)),(12,.more (xStoreT 0))] [] [3,7,8,9] [(20,some (.arow 1 22 (x1.map (Z0w Z7)) [[.own 27]])),(27,some (.row 9 38 ((x2++[b1]).map Z7)))] [20,27] [_,(x1.map (Z0w Z7)).length+0=(x1.map (Z0w Z7)).length+0,[b1].map Z7=[Z7 b1],(x2++[b1]).map Z7=(x2.map Z7)++([b1].map Z7),∀ c∈([b1].map Z7),c.length=9,∀ c∈([b1].map Z7),Z0k (c.map .im)=true,((x2.map Z7).length+([b1].map Z7).length)*104≤140737488355328,_,(x1.map (Z0w Z7)).length+0=(x1.map (Z0w Z7)).length+0] ⟨w0,rfl,rfl,by simp,by exact Z0o _ _ _ (fun _=>rfl),by exact Z0p _ _ (fun _=>rfl),by simpa using d2,w0,rfl,trivial⟩ ?_
     refine rO hP hn hm [] [(9,iV .i64 (i64.wrap (x3+(1:Int))))] [3,7,8,9] [] [20,27] ?_
     exact LWp.conv [(20,20),(27,21)] [] [] (by kernel_rfl) (ih _ _ _ _ H)
   ·replace H:=iF c1 H
    refine AWp.exit ?_
    obtain rfl:=sj H
    exact lf (t:=⟨[(3,.own 0)],[(0,some (.row 1 22 (x1.map (Z0w Z7)++[(Z0w Z7) x2])))],0⟩) [(20,0)] [21] [] (by kernel_rfl) ⟨rfl,by rw[app1]⟩
  subst hbody
  refine LWp.round ?_
  refine sO hP hn hm [] [(10,bV (decide ((0:Int)<(a0.length:Int))))] [3,7,8,9,10] [] [] ?_
  refine AWp.seq ?_
  refine AWp.cond (decide ((0:Int)<(a0.length:Int))) (by kernel_rfl) (fun c1 => ?_) (fun c1 => ?_)
  ·replace H:=iT c1 H
   refine AWp.skip ?_
   refine AWp.seq ?_
   refine AWp.block ?_
   obtain⟨b1,p1,q1,H⟩:=Z0d H
   refine sR hP hn hm [(0,.c (Z7 b1)),(2,.k 23)] [(5,.ptr 23 0 0)] [3,5,7,8,9] [(23,some (.box 38 (aSample b1)))] [23] [_,_] ⟨p1,Zk Z7 q1,trivial⟩ ?_
   refine sO hP hn hm [] [(6,iV .i64 0)] [3,5,6,7,8,9] [] [23] ?_
   refine AWp.seq ?_
   refine sR hP hn hm [(1,.b true)] [(26,bV true)] [3,5,6,7,8,9,26] [] [23] [((0:Int)==0)=true] ⟨rfl,trivial⟩ ?_
   refine AWp.cond true (by kernel_rfl) (fun c2 => ?_) (fun c2=>nomatch c2)
   refine sR hP hn hm [(1,.more (xOneT 24)),(2,.more (xAppT 25))] [(3,.own 25)] [3,5,6,7,8,9] [(25,some (.arow 1 22 [] [[.none0]]))] [23,25] [1*24≤140737488355328] ⟨by decide,trivial⟩ ?_
   refine rO hP hn hm [] [(6,iV .i64 1)] [3,5,6,7,8,9] [] [23,25] ?_
   refine rG hP hn hm [(6,.more (xIdxT 0)),(7,.more (xLoadT 0)),(9,.app 26 ([b1].map Z7)),(10,.app 27 ([b1].map Z7)),(11,.more (xIdxT 0)),(12,.more (xStoreT 0))] [] [3,7,8,9] [(25,some (.arow 1 22 [] [[.own 27]])),(27,some (.row 9 38 ([b1].map Z7)))] [25,27] [i64.wrap ((1:Int)-1)=((([]:List (List Im)).length+0:Nat):Int),([]:List (List Im)).length+0=([]:List (List Im)).length+0,[b1].map Z7=[Z7 b1],[b1].map Z7=[]++([b1].map Z7),∀ c∈([b1].map Z7),c.length=9,∀ c∈([b1].map Z7),Z0k (c.map .im)=true,(([]:List (List Im)).length+([b1].map Z7).length)*104≤140737488355328,i64.wrap ((1:Int)-1)=((([]:List (List Im)).length+0:Nat):Int),([]:List (List Im)).length+0=([]:List (List Im)).length+0] ⟨rfl,rfl,rfl,rfl,by exact Z0o _ _ _ (fun _=>rfl),by exact Z0p _ _ (fun _=>rfl),by simp,rfl,rfl,trivial⟩ ?_
   refine rO hP hn hm [] [(9,iV .i64 (i64.wrap ((0:Int)+(1:Int))))] [3,7,8,9] [] [25,27] ?_
   exact LWp.conv [(25,20),(27,21)] [] [] (by kernel_rfl) (main [] [b1] _ _ H)
  ·replace H:=iF c1 H
   refine AWp.exit ?_
   obtain rfl:=sj H
   exact lf [] [] [0] (by kernel_rfl) ⟨rfl,rfl⟩
 ·rintro e s ⟨rfl,rfl⟩
  refine sO hP hn hm [] [(2,.own 0)] [2] [] [0] ?_
  refine AWp.ret ?_
  exact rl (.inl rfl) rfl (by kernel_rfl) (by kernel_rfl)
def Z21.f (a0:List Zd) (a1:Zd) (a2:Int):Option (Bool):=(((Z0n.f a0)>>=fun t1847=>if(!t1847)=true then(some true) else(if(decide ((i64.wrap ((a1.f1.f6.length:Int)+(a1.f1.f7.length:Int)))>(100:Int)))=true then(some true) else((Zl.f a0)>>=fun t1851=>if(t1851 != (0:Int))=true then(some true) else(if(decide (a1.f0<(0:Int)))=true then(some true) else(if(decide (a1.f0>(1099511627776:Int)))=true then(some true) else((Z02.f a1.f1)>>=fun t1856=>some (t1856 != (0:Int)))))))):Option (Bool))>>=fun x1858=>if x1858=true then((Z1p.f)>>=fun t3674=>some t3674) else((chk ((a0.length:Int)≠0))>>=fun _=>(chk (0≤(0:Int)∧(0:Int)≤(i64.wrap ((1:Int)+(Int.tmod (i64.wrap (a2)) (a0.length:Int))))∧(i64.wrap ((1:Int)+(Int.tmod (i64.wrap (a2)) (a0.length:Int))))≤(a0.length:Int)))>>=fun _=>(Zl.f ((a0.drop (Int.toNat ((0:Int)))).take ((Int.toNat ((i64.wrap ((1:Int)+(Int.tmod (i64.wrap (a2)) (a0.length:Int))))))-(Int.toNat ((0:Int))))))>>=fun t3682=>if(t3682 != (0:Int))=true then(some false) else((chk ((([]:List Zd).length+a0.length)*104≤140737488355328))>>=fun _=>(chk (((([]:List Zd)++a0).length+[a1].length)*104≤140737488355328))>>=fun _=>(Zl.f ((([]:List Zd)++a0)++[a1]))>>=fun t3691=>(((Z1p.f)>>=fun t3705=>if t3705=true then((Zw.f a0 a1)>>=fun t3708=>if((t3691==(0:Int))==t3708)=true then(if(t3691==(0:Int))=true then((Z0s.f a0)>>=fun t3712=>some ((t3712.length:Int)==(1:Int))) else(if(t3691==(6:Int))=true then((Z0s.f a0)>>=fun t3715=>some ((t3715.length:Int)==(1:Int))) else(some false))) else(some false)) else(some false)):Option (Bool))>>=fun x3717=>some x3717))
theorem Z21.ok (a0:List Zd) (a1:Zd) (a2:Int) (r:Bool) (H:Z21.f a0 a1 a2=some r):Pv.Fn Try.prog 4 [.im (.row (a0.map Z7)),.agg [iV .i64 a1.f0,iV .i64 a1.f1.f0,iV .i64 a1.f1.f1,iV .i64 a1.f1.f2,iV .u64 a1.f1.f3,iV .u64 a1.f1.f4,iV .i64 a1.f1.f5,.im (.row (a1.f1.f6.map Z0)),.im (.row (a1.f1.f7.map Z0))],iV .u8 a2] [] 0 (fun x o=>x=bV r∧o=[]):=by
 unfold Z21.f at H
 refine Fn.bodyK [] Try.func4 rfl rfl (fun Γ hP hn => ?_)
 have hm:Try.prog.follows .mixedOrders=true:=by kernel_rfl
 replace hn:Γ.n=87:=hn
 refine sO hP hn hm [(0,.k 0)] [(4,.ptr 0 0 0)] [0,2,4] [(0,some (.box 38 [iV .i64 a1.f0,iV .i64 a1.f1.f0,iV .i64 a1.f1.f1,iV .i64 a1.f1.f2,iV .u64 a1.f1.f3,iV .u64 a1.f1.f4,iV .i64 a1.f1.f5,.im (.row (a1.f1.f6.map Z0)),.im (.row (a1.f1.f7.map Z0))]))] [0] ?_
 refine AWp.seq ?_
 refine AWp.seq ?_
 obtain⟨o3718,e3719,H⟩:=Z4 H
 refine AWp.mono (Q:=fun e s=>(match (generalizing:=false) o3718 with | x1858=>e = .normal∧s=⟨[(0,.im (.row (a0.map Z7))),(2,iV .u8 a2),(4,.ptr 1 0 0),(44,bV x1858)],[(1,some (.box 38 [iV .i64 a1.f0,iV .i64 a1.f1.f0,iV .i64 a1.f1.f1,iV .i64 a1.f1.f2,iV .u64 a1.f1.f3,iV .u64 a1.f1.f4,iV .i64 a1.f1.f5,.im (.row (a1.f1.f6.map Z0)),.im (.row (a1.f1.f7.map Z0))]))],0⟩)) (AWp.cv ?_) ?_
 ·replace H:=e3719;clear e3719
  obtain⟨t1847,e1848,H⟩:=Z4 H
  rcases Bool.eq_false_or_eq_true (!t1847) with c1849 | c1849
  ·replace H:=iT c1849 H
   refine rG hP hn hm [(1,.call [] [] [] [] 0 (bV t1847) []),(3,.b true)] [(44,bV true)] [0,2,4,44] [] [0] [_,_,_] ⟨Try.call5,Z0n.ok a0 t1847 e1848,c1849,trivial⟩ ?_
   obtain rfl:=sj H
   exact lf [(0,1)] [] [] (by kernel_rfl) ⟨rfl,rfl⟩
  ·replace H:=iF c1849 H
   rcases Bool.eq_false_or_eq_true (decide ((i64.wrap ((a1.f1.f6.length:Int)+(a1.f1.f7.length:Int)))>(100:Int))) with c1850 | c1850
   ·replace H:=iT c1850 H
    refine rG hP hn hm [(1,.call [] [] [] [] 0 (bV t1847) []),(3,.b false),(7,.any (iV .i64 (a1.f1.f6.length:Int))),(11,.any (iV .i64 (a1.f1.f7.length:Int))),(15,.b true)] [(44,bV true)] [0,2,4,44] [] [0] [_,_,_,((a1.f1.f6.map Z0).length:Int)=(a1.f1.f6.length:Int),((a1.f1.f7.map Z0).length:Int)=(a1.f1.f7.length:Int),_] ⟨Try.call5,Z0n.ok a0 t1847 e1848,c1849,by rw[Zi],by rw[Zi],c1850,trivial⟩ ?_
    obtain rfl:=sj H
    exact lf [(0,1)] [] [] (by kernel_rfl) ⟨rfl,rfl⟩
   ·replace H:=iF c1850 H
    obtain⟨t1851,e1852,H⟩:=Z4 H
    rcases Bool.eq_false_or_eq_true (t1851 != (0:Int)) with c1853 | c1853
    ·replace H:=iT c1853 H
     refine rG hP hn hm [(1,.call [] [] [] [] 0 (bV t1847) []),(3,.b false),(7,.any (iV .i64 (a1.f1.f6.length:Int))),(11,.any (iV .i64 (a1.f1.f7.length:Int))),(15,.b false),(17,.call [] [] [] [] 0 (iV .i64 t1851) []),(20,.b true)] [(44,bV true)] [0,2,4,44] [] [0] [_,_,_,((a1.f1.f6.map Z0).length:Int)=(a1.f1.f6.length:Int),((a1.f1.f7.map Z0).length:Int)=(a1.f1.f7.length:Int),_,_,_,_] ⟨Try.call5,Z0n.ok a0 t1847 e1848,c1849,by rw[Zi],by rw[Zi],c1850,Try.call10,Zl.ok a0 t1851 e1852,c1853,trivial⟩ ?_
     obtain rfl:=sj H
     exact lf [(0,1)] [] [] (by kernel_rfl) ⟨rfl,rfl⟩
    ·replace H:=iF c1853 H
     rcases Bool.eq_false_or_eq_true (decide (a1.f0<(0:Int))) with c1854 | c1854
     ·replace H:=iT c1854 H
      refine rG hP hn hm [(1,.call [] [] [] [] 0 (bV t1847) []),(3,.b false),(7,.any (iV .i64 (a1.f1.f6.length:Int))),(11,.any (iV .i64 (a1.f1.f7.length:Int))),(15,.b false),(17,.call [] [] [] [] 0 (iV .i64 t1851) []),(20,.b false),(25,.b true)] [(44,bV true)] [0,2,4,44] [] [0] [_,_,_,((a1.f1.f6.map Z0).length:Int)=(a1.f1.f6.length:Int),((a1.f1.f7.map Z0).length:Int)=(a1.f1.f7.length:Int),_,_,_,_,_] ⟨Try.call5,Z0n.ok a0 t1847 e1848,c1849,by rw[Zi],by rw[Zi],c1850,Try.call10,Zl.ok a0 t1851 e1852,c1853,c1854,trivial⟩ ?_
      obtain rfl:=sj H
      exact lf [(0,1)] [] [] (by kernel_rfl) ⟨rfl,rfl⟩
     ·replace H:=iF c1854 H
      rcases Bool.eq_false_or_eq_true (decide (a1.f0>(1099511627776:Int))) with c1855 | c1855
      ·replace H:=iT c1855 H
       refine rG hP hn hm [(1,.call [] [] [] [] 0 (bV t1847) []),(3,.b false),(7,.any (iV .i64 (a1.f1.f6.length:Int))),(11,.any (iV .i64 (a1.f1.f7.length:Int))),(15,.b false),(17,.call [] [] [] [] 0 (iV .i64 t1851) []),(20,.b false),(25,.b false),(30,.b true)] [(44,bV true)] [0,2,4,44] [] [0] [_,_,_,((a1.f1.f6.map Z0).length:Int)=(a1.f1.f6.length:Int),((a1.f1.f7.map Z0).length:Int)=(a1.f1.f7.length:Int),_,_,_,_,_,_] ⟨Try.call5,Z0n.ok a0 t1847 e1848,c1849,by rw[Zi],by rw[Zi],c1850,Try.call10,Zl.ok a0 t1851 e1852,c1853,c1854,c1855,trivial⟩ ?_
       obtain rfl:=sj H
       exact lf [(0,1)] [] [] (by kernel_rfl) ⟨rfl,rfl⟩
      ·replace H:=iF c1855 H
       obtain⟨t1856,e1857,H⟩:=Z4 H
       refine rG hP hn hm [(1,.call [] [] [] [] 0 (bV t1847) []),(3,.b false),(7,.any (iV .i64 (a1.f1.f6.length:Int))),(11,.any (iV .i64 (a1.f1.f7.length:Int))),(15,.b false),(17,.call [] [] [] [] 0 (iV .i64 t1851) []),(20,.b false),(25,.b false),(30,.b false),(33,.call [] [] [] [] 0 (iV .i64 t1856) [])] [(44,bV (t1856 != (0:Int)))] [0,2,4,44] [] [0] [_,_,_,((a1.f1.f6.map Z0).length:Int)=(a1.f1.f6.length:Int),((a1.f1.f7.map Z0).length:Int)=(a1.f1.f7.length:Int),_,_,_,_,_,_,_,_] ⟨Try.call5,Z0n.ok a0 t1847 e1848,c1849,by rw[Zi],by rw[Zi],c1850,Try.call10,Zl.ok a0 t1851 e1852,c1853,c1854,c1855,Try.call11,Z02.ok a1.f1 t1856 e1857,trivial⟩ ?_
       obtain rfl:=sj H
       exact lf [(0,1)] [] [] (by kernel_rfl) ⟨rfl,rfl⟩
 ·obtain⟨x1858,rfl⟩:∃ z,z=o3718:=⟨_,rfl⟩
  rintro e s ⟨rfl,rfl⟩
  refine AWp.cond x1858 (by kernel_rfl) (fun c1859 => ?_) (fun c1859 => ?_)
  ·replace H:=iT c1859 H
   obtain⟨t3674,e3675,H⟩:=Z4 H
   refine sR hP hn hm [(0,.call [] [] [] [] 0 (bV t3674) [])] [(6,bV t3674)] [6] [] [] [_,_] ⟨Try.call6,Z1p.ok  t3674 e3675,trivial⟩ ?_
   refine AWp.conv (inv:=[]) (vk:=[]) (e0:=[]) (t:=⟨[(6,bV t3674)],[],0⟩) (by kernel_rfl) ?_
   refine AWp.ret ?_
   obtain rfl:=sj H
   exact rl (.inl rfl) rfl (by kernel_rfl) (by kernel_rfl)
  ·replace H:=iF c1859 H
   refine AWp.skip ?_
   obtain⟨c3677,H⟩:=Z0x H
   refine sR hP hn hm [(3,.any (iV .i64 (a0.length:Int)))] [(7,iV .i64 (i64.wrap ((1:Int)+(Int.tmod (i64.wrap (a2)) (a0.length:Int)))))] [0,4,7] [] [1] [((a0.map Z7).length:Int)=(a0.length:Int),_] ⟨by rw[Zi],c3677,trivial⟩ ?_
   refine AWp.seq ?_
   obtain⟨c3681,H⟩:=Z0x H
   obtain⟨t3682,e3683,H⟩:=Z4 H
   refine sR hP hn hm [(2,.rows (((a0.drop (Int.toNat ((0:Int)))).take ((Int.toNat ((i64.wrap ((1:Int)+(Int.tmod (i64.wrap (a2)) (a0.length:Int))))))-(Int.toNat ((0:Int))))).map Z7)),(3,.call [] [] [] [] 0 (iV .i64 t3682) [])] [(56,bV (t3682 != (0:Int)))] [0,4,56] [] [1] [0≤(0:Int),(0:Int)≤(i64.wrap ((1:Int)+(Int.tmod (i64.wrap (a2)) (a0.length:Int)))),(i64.wrap ((1:Int)+(Int.tmod (i64.wrap (a2)) (a0.length:Int))))≤((a0.map Z7).length:Int),∀ c∈a0.map Z7,c.length=9,((a0.drop (Int.toNat ((0:Int)))).take ((Int.toNat ((i64.wrap ((1:Int)+(Int.tmod (i64.wrap (a2)) (a0.length:Int))))))-(Int.toNat ((0:Int))))).map Z7=((a0.map Z7).drop (Int.toNat ((0:Int)))).take ((Int.toNat ((i64.wrap ((1:Int)+(Int.tmod (i64.wrap (a2)) (a0.length:Int))))))-(Int.toNat ((0:Int)))),_,_] ⟨by exact c3681.1,by simpa using c3681.2.1,by simpa using c3681.2.2,by exact Z0o _ _ _ (fun _=>rfl),by simp[cut1],Try.call10,Zl.ok ((a0.drop (Int.toNat ((0:Int)))).take ((Int.toNat ((i64.wrap ((1:Int)+(Int.tmod (i64.wrap (a2)) (a0.length:Int))))))-(Int.toNat ((0:Int))))) t3682 e3683,trivial⟩ ?_
   refine AWp.cond (t3682 != (0:Int)) (by kernel_rfl) (fun c3684 => ?_) (fun c3684 => ?_)
   ·replace H:=iT c3684 H
    refine sO hP hn hm [] [(6,bV false)] [6] [] [] ?_
    refine AWp.conv (inv:=[]) (vk:=[]) (e0:=[]) (t:=⟨[(6,bV false)],[],0⟩) (by kernel_rfl) ?_
    refine AWp.ret ?_
    obtain rfl:=sj H
    exact rl (.inl rfl) rfl (by kernel_rfl) (by kernel_rfl)
   ·replace H:=iF c3684 H
    refine AWp.skip ?_
    obtain⟨c3689,H⟩:=Z0x H
    obtain⟨c3690,H⟩:=Z0x H
    obtain⟨t3691,e3692,H⟩:=Z4 H
    refine sR hP hn hm [(0,.app 2 ([].map Z7)),(2,.app 3 ((([]:List Zd)++a0).map Z7)),(4,.app 4 ([a1].map Z7)),(5,.app 5 (((([]:List Zd)++a0)++[a1]).map Z7)),(6,.call [] [] [5] [] 0 (iV .i64 t3691) [])] [(8,iV .i64 t3691)] [0,4,8] [] [1] [[].map Z7=[],(([]:List Zd)++a0).map Z7=(([]:List Zd).map Z7)++(a0.map Z7),∀ c∈(a0.map Z7),c.length=9,∀ c∈(a0.map Z7),Z0k (c.map .im)=true,((([]:List Zd).map Z7).length+(a0.map Z7).length)*104≤140737488355328,[a1].map Z7=[[iI .i64 a1.f0,iI .i64 a1.f1.f0,iI .i64 a1.f1.f1,iI .i64 a1.f1.f2,iI .u64 a1.f1.f3,iI .u64 a1.f1.f4,iI .i64 a1.f1.f5,.row (a1.f1.f6.map Z0),.row (a1.f1.f7.map Z0)]],((([]:List Zd)++a0)++[a1]).map Z7=((([]:List Zd)++a0).map Z7)++([a1].map Z7),∀ c∈([a1].map Z7),c.length=9,∀ c∈([a1].map Z7),Z0k (c.map .im)=true,(((([]:List Zd)++a0).map Z7).length+([a1].map Z7).length)*104≤140737488355328,_,_] ⟨by exact rfl,by simp,by exact Z0o _ _ _ (fun _=>rfl),by exact Z0p _ _ (fun _=>rfl),by simpa using c3689,by exact rfl,by simp,by exact Z0o _ _ _ (fun _=>rfl),by exact Z0p _ _ (fun _=>rfl),by simpa using c3690,Try.call10,Zl.ok ((([]:List Zd)++a0)++[a1]) t3691 e3692,trivial⟩ ?_
    refine AWp.seq ?_
    obtain⟨o3720,e3721,H⟩:=Z4 H
    refine AWp.mono (Q:=fun e s=>(match (generalizing:=false) o3720 with | x3717=>e = .normal∧s=⟨[(6,bV x3717)],[],0⟩)) (AWp.cv ?_) ?_
    ·replace H:=e3721;clear e3721
     obtain⟨t3705,e3706,H⟩:=Z4 H
     rcases Bool.eq_false_or_eq_true t3705 with c3707 | c3707
     ·replace H:=iT c3707 H
      obtain⟨t3708,e3709,H⟩:=Z4 H
      rcases Bool.eq_false_or_eq_true ((t3691==(0:Int))==t3708) with c3710 | c3710
      ·replace H:=iT c3710 H
       rcases Bool.eq_false_or_eq_true (t3691==(0:Int)) with c3711 | c3711
       ·replace H:=iT c3711 H
        obtain⟨t3712,e3713,H⟩:=Z4 H
        refine rG hP hn hm [(0,.call [] [] [] [] 0 (bV t3705) []),(1,.b true),(6,.call [] [] [] [] 0 (bV t3708) []),(9,.b true),(12,.b true),(19,.call [] [(0,6)] [] [6] 0 (.own 0) [(0,some (.row 1 22 (t3712.map (Z0w Z7))))]),(20,.any (iV .i64 (t3712.length:Int)))] [(6,bV ((t3712.length:Int)==(1:Int)))] [6] [] [] [_,_,_,_,_,_,_,_,_,((t3712.map (Z0w Z7)).length:Int)=(t3712.length:Int)] ⟨Try.call6,Z1p.ok  t3705 e3706,c3707,Try.call12,Zw.ok a0 a1 t3708 e3709,c3710,c3711,Try.call13,Z0s.ok a0 t3712 e3713,by rw[Zi],trivial⟩ ?_
        obtain rfl:=sj H
        exact lf [] [] [] (by kernel_rfl) ⟨rfl,rfl⟩
       ·replace H:=iF c3711 H
        rcases Bool.eq_false_or_eq_true (t3691==(6:Int)) with c3714 | c3714
        ·replace H:=iT c3714 H
         obtain⟨t3715,e3716,H⟩:=Z4 H
         refine rG hP hn hm [(0,.call [] [] [] [] 0 (bV t3705) []),(1,.b true),(6,.call [] [] [] [] 0 (bV t3708) []),(9,.b true),(12,.b false),(17,.b true),(19,.call [] [(0,7)] [] [7] 0 (.own 0) [(0,some (.row 1 22 (t3715.map (Z0w Z7))))]),(20,.any (iV .i64 (t3715.length:Int)))] [(6,bV ((t3715.length:Int)==(1:Int)))] [6] [] [] [_,_,_,_,_,_,_,_,_,_,((t3715.map (Z0w Z7)).length:Int)=(t3715.length:Int)] ⟨Try.call6,Z1p.ok  t3705 e3706,c3707,Try.call12,Zw.ok a0 a1 t3708 e3709,c3710,c3711,c3714,Try.call13,Z0s.ok a0 t3715 e3716,by rw[Zi],trivial⟩ ?_
         obtain rfl:=sj H
         exact lf [] [] [] (by kernel_rfl) ⟨rfl,rfl⟩
        ·replace H:=iF c3714 H
         refine rG hP hn hm [(0,.call [] [] [] [] 0 (bV t3705) []),(1,.b true),(6,.call [] [] [] [] 0 (bV t3708) []),(9,.b true),(12,.b false),(17,.b false)] [(6,bV false)] [6] [] [] [_,_,_,_,_,_,_,_] ⟨Try.call6,Z1p.ok  t3705 e3706,c3707,Try.call12,Zw.ok a0 a1 t3708 e3709,c3710,c3711,c3714,trivial⟩ ?_
         obtain rfl:=sj H
         exact lf [] [] [] (by kernel_rfl) ⟨rfl,rfl⟩
      ·replace H:=iF c3710 H
       refine rG hP hn hm [(0,.call [] [] [] [] 0 (bV t3705) []),(1,.b true),(6,.call [] [] [] [] 0 (bV t3708) []),(9,.b false)] [(6,bV false)] [6] [] [] [_,_,_,_,_,_] ⟨Try.call6,Z1p.ok  t3705 e3706,c3707,Try.call12,Zw.ok a0 a1 t3708 e3709,c3710,trivial⟩ ?_
       obtain rfl:=sj H
       exact lf [] [] [] (by kernel_rfl) ⟨rfl,rfl⟩
     ·replace H:=iF c3707 H
      refine rG hP hn hm [(0,.call [] [] [] [] 0 (bV t3705) []),(1,.b false)] [(6,bV false)] [6] [] [] [_,_,_] ⟨Try.call6,Z1p.ok  t3705 e3706,c3707,trivial⟩ ?_
      obtain rfl:=sj H
      exact lf [] [] [] (by kernel_rfl) ⟨rfl,rfl⟩
    ·obtain⟨x3717,rfl⟩:∃ z,z=o3720:=⟨_,rfl⟩
     rintro e s ⟨rfl,rfl⟩
     refine AWp.conv (inv:=[]) (vk:=[]) (e0:=[]) (t:=⟨[(6,bV x3717)],[],0⟩) (by kernel_rfl) ?_
     refine AWp.ret ?_
     obtain rfl:=sj H
     exact rl (.inl rfl) rfl (by kernel_rfl) (by kernel_rfl)
end Go.Proofs.Ytlclecehlekjoaa.PvGE
