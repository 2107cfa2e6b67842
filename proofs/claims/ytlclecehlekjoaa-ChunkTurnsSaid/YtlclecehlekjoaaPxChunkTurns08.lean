import Derived.Test.YtlclecehlekjoaaProg
import Derived.Test.YtlclecehlekjoaaPxChunkTurns07
set_option linter.unusedVariables false
set_option linter.unnecessarySimpa false
set_option linter.unusedSimpArgs false
set_option maxRecDepth 10000
namespace Go.Proofs.Ytlclecehlekjoaa.PvGE
open Go Go.Pv Go.IntKind
def Zi.l0 (a0_c0:List Int) (a1:Int) (x2567:Int) (x2568:Int) (x2569:Int) (x2570:Int):Option (Int×Int×Int):=if(decide (x2570<(if(if(64:Int)<a1 then(64:Int) else a1)>(0:Int) then(if(64:Int)<a1 then(64:Int) else a1) else(0:Int))))=true then((Zr.f a0_c0 x2567 x2568)>>=fun t2574=>((if t2574.1=true then(some (u64.wrap (((BitVec.toNat (BitVec.ofInt 64 (u64.wrap (x2569*2)) ||| BitVec.ofInt 64 (1:Int)):Nat):Int)))) else(some (u64.wrap (x2569*2)))):Option (Int))>>=fun x2577=>Zi.l0 a0_c0 a1 t2574.2.1 t2574.2.2 x2577 (i64.wrap (x2570+(1:Int)))) else(some (x2567,x2568,x2569))
partial_fixpoint
def Zi.f (a0_c0:List Int) (a0_c1:Int) (a0_c2:Int) (a1:Int):Option (Int×Int×Int):=(Zi.l0 a0_c0 a1 a0_c1 a0_c2 0 0)>>=fun oo=>match oo with | (x2578,x2579,x2580)=>(if(x2579 != (0:Int))=true then(some (0,x2578,x2579)) else(some (x2580,x2578,x2579)))
theorem Zi.ok (a0_c0:List Int) (a0_c1:Int) (a0_c2:Int) (a1:Int) (r:Int×Int×Int) (H:Zi.f a0_c0 a0_c1 a0_c2 a1=some r):Pv.Fn Try.prog 25 [.ptr 0 0 0,iV .i64 a1] [(0,some (.box 94 (Z3 ⟨a0_c0,a0_c1,a0_c2⟩)))] 1 (fun x o=>x=iV .u64 r.1∧o=[(0,some (.box 94 (Z3 ⟨a0_c0,r.2.1,r.2.2⟩)))]):=by
 unfold Zi.f at H
 refine Fn.bodyK [0] Try.func25 rfl rfl (fun Γ hP hn => ?_)
 have hm:Try.prog.follows .mixedOrders=true:=by kernel_rfl
 replace hn:Γ.n=24:=hn
 refine sO hP hn hm [] [] [0,1] [] [0] ?_
 refine sO hP hn hm [] [(5,iV .u64 0)] [0,1,5] [] [0] ?_
 refine AWp.seq ?_
 refine sO hP hn hm [(1,.more xMin),(2,.more xMax)] [(8,iV .i64 (if(if(64:Int)<a1 then(64:Int) else a1)>(0:Int) then(if(64:Int)<a1 then(64:Int) else a1) else(0:Int))),(9,iV .i64 0)] [0,5,8,9] [] [0] ?_
 refine AWp.block ?_
 obtain⟨o2582,e2583,H⟩:=Z4 H
 refine AWp.loop (LWp.conv (inv:=[(0,0)]) (vk:=[]) (e0:=[]) (t:=⟨[(0,.ptr 0 0 0),(5,iV .u64 0),(8,iV .i64 (if(if(64:Int)<a1 then(64:Int) else a1)>(0:Int) then(if(64:Int)<a1 then(64:Int) else a1) else(0:Int))),(9,iV .i64 0)],[(0,some (.box 94 (Z3 ⟨a0_c0,a0_c1,a0_c2⟩)))],1⟩) (by kernel_rfl) ?_)
 refine LWp.mono (Q:=fun e s=>(match (generalizing:=false) o2582 with | (x2578,x2579,x2580)=>e = .exit 0∧s=⟨[(0,.ptr 0 0 0),(5,iV .u64 x2580)],[(0,some (.box 94 (Z3 ⟨a0_c0,x2578,x2579⟩)))],1⟩)) (LWp.cv (Z07 (fun body hbody => ?_))) ?_
 ·refine                    Zi.l0.partial_correctness a0_c0 a1 (motive:=fun x2567 x2568 x2569 x2570 o2582=>LWp Γ body (fun e s=>∃ t,Cv Γ s t∧(match (generalizing:=false) o2582 with | (x2578,x2579,x2580)=>e = .exit 0∧t=⟨[(0,.ptr 0 0 0),(5,iV .u64 x2580)],[(0,some (.box 94 (Z3           ⟨a0_c0,x2578,x2579⟩)))],1⟩)) ⟨[(0,.ptr 0 0 0),(5,iV .u64 x2569),(8,iV .i64 (if(if(64:Int)<a1 then(64:Int) else a1)>(0:Int) then(if(64:Int)<a1 then(64:Int) else a1) else(0:Int))),(9,iV .i64 x2570)],[(0,some (.box 94 (Z3           ⟨a0_c0,x2567,x2568⟩)))],1⟩) ?_ _ _ _ _ _ e2583
  clear H e2583 o2582;intro self ih x2567 x2568 x2569 x2570 o2582 H
  subst hbody
  refine LWp.round ?_
  refine sO hP hn hm [] [(10,bV (decide (x2570<(if(if(64:Int)<a1 then(64:Int) else a1)>(0:Int) then(if(64:Int)<a1 then(64:Int) else a1) else(0:Int)))))] [0,5,8,9,10] [] [0] ?_
  refine AWp.seq ?_
  refine AWp.cond (decide (x2570<(if(if(64:Int)<a1 then(64:Int) else a1)>(0:Int) then(if(64:Int)<a1 then(64:Int) else a1) else(0:Int)))) (by kernel_rfl) (fun c2571 => ?_) (fun c2571 => ?_)
  ·replace H:=iT c2571 H
   refine AWp.skip ?_
   refine AWp.seq ?_
   refine AWp.block ?_
   refine sR hP hn hm [] [(5,iV .u64 (u64.wrap (x2569*2)))] [0,5,8,9] [] [0] [(0:Int)≤1] ⟨by decide,trivial⟩ ?_
   obtain⟨t2574,e2575,H⟩:=Z4 H
   refine sR hP hn hm [(1,.call [(0,0)] [(0,0)] [] [] 1 (bV t2574.1) [(0,some (.box 94 (Z3 ⟨a0_c0,t2574.2.1,t2574.2.2⟩)))])] [(14,bV t2574.1)] [0,5,8,9,14] [(0,some (.box 94 (Z3 ⟨a0_c0,t2574.2.1,t2574.2.2⟩)))] [0] [_,_] ⟨Try.call24,Zr.ok a0_c0 x2567 x2568 t2574 e2575,trivial⟩ ?_
   obtain⟨o2584,e2585,H⟩:=Z4 H
   refine AWp.mono (Q:=fun e s=>(match (generalizing:=false) o2584 with | x2577=>e = .normal∧s=⟨[(0,.ptr 0 0 0),(5,iV .u64 x2577),(8,iV .i64 (if(if(64:Int)<a1 then(64:Int) else a1)>(0:Int) then(if(64:Int)<a1 then(64:Int) else a1) else(0:Int))),(9,iV .i64 x2570)],[(0,some (.box 94 (Z3 ⟨a0_c0,t2574.2.1,t2574.2.2⟩)))],1⟩)) (AWp.cv ?_) ?_
   ·replace H:=e2585;clear e2585
    refine AWp.cond t2574.1 (by kernel_rfl) (fun c2576 => ?_) (fun c2576 => ?_)
    ·replace H:=iT c2576 H
     refine rO hP hn hm [] [(5,iV .u64 (u64.wrap (((BitVec.toNat (BitVec.ofInt 64 (u64.wrap (x2569*2)) ||| BitVec.ofInt 64 (1:Int)):Nat):Int))))] [0,5,8,9] [] [0] ?_
     obtain rfl:=sj H
     exact lf [(0,0)] [] [] (by kernel_rfl) ⟨rfl,rfl⟩
    ·replace H:=iF c2576 H
     refine AWp.skip ?_
     obtain rfl:=sj H
     exact lf [(0,0)] [] [] (by kernel_rfl) ⟨rfl,rfl⟩
   ·obtain⟨x2577,rfl⟩:∃ z,z=o2584:=⟨_,rfl⟩
    rintro e s ⟨rfl,rfl⟩
    refine rO hP hn hm [] [(9,iV .i64 (i64.wrap (x2570+(1:Int))))] [0,5,8,9] [] [0] ?_
    exact LWp.conv [(0,0)] [] [] (by kernel_rfl) (ih _ _ _ _ _ H)
  ·replace H:=iF c2571 H
   refine AWp.exit ?_
   obtain rfl:=sj H
   exact lf [(0,0)] [] [] (by kernel_rfl) ⟨rfl,rfl⟩
 ·obtain⟨x2578,x2579,x2580⟩:=o2582
  rintro e s ⟨rfl,rfl⟩
  refine AWp.seq ?_
  refine sO hP hn hm [] [(22,bV (x2579 != (0:Int)))] [5,22] [] [0] ?_
  refine AWp.cond (x2579 != (0:Int)) (by kernel_rfl) (fun c2581 => ?_) (fun c2581 => ?_)
  ·replace H:=iT c2581 H
   refine sO hP hn hm [] [(4,iV .u64 0)] [4] [] [0] ?_
   refine AWp.conv (inv:=[(0,0)]) (vk:=[]) (e0:=[]) (t:=⟨[(4,iV .u64 0)],[(0,some (.box 94 (Z3 ⟨a0_c0,x2578,x2579⟩)))],1⟩) (by kernel_rfl) ?_
   refine AWp.ret ?_
   obtain rfl:=sj H
   exact rl (.inl rfl) rfl (by kernel_rfl) (by kernel_rfl)
  ·replace H:=iF c2581 H
   refine AWp.skip ?_
   refine sO hP hn hm [] [(4,iV .u64 x2580)] [4] [] [0] ?_
   refine AWp.conv (inv:=[(0,0)]) (vk:=[]) (e0:=[]) (t:=⟨[(4,iV .u64 x2580)],[(0,some (.box 94 (Z3 ⟨a0_c0,x2578,x2579⟩)))],1⟩) (by kernel_rfl) ?_
   refine AWp.ret ?_
   obtain rfl:=sj H
   exact rl (.inl rfl) rfl (by kernel_rfl) (by kernel_rfl)
def Zf.l0 (a0_c0:List Int) (t2592:List Int) (x2604:Int) (x2605:Int) (x2606:Int):Option (Int×Int×Int):=((if(decide (x2606<(i64.wrap ((t2592.length:Int)-(1:Int)))))=true then((Zr.f a0_c0 x2604 x2605)>>=fun t2611=>some (t2611.2.1,t2611.2.2,t2611.1)) else(some (x2604,x2605,false))):Option (Int×Int×Bool))>>=fun oo=>match oo with | (x2613,x2614,x2615)=>(if x2615=true then(Zf.l0 a0_c0 t2592 x2613 x2614 (i64.wrap (x2606+(1:Int)))) else(some (x2613,x2614,x2606)))
partial_fixpoint
def Zf.f (a0_c0:List Int) (a0_c1:Int) (a0_c2:Int):Option (Int×Int×Int):=(Z1c.f)>>=fun t2592=>(Zf.l0 a0_c0 t2592 a0_c1 a0_c2 0)>>=fun oo=>match oo with | (x2617,x2618,x2619)=>((at? t2592 x2619)>>=fun b2625=>(Zi.f a0_c0 x2617 x2618 b2625)>>=fun t2628=>((if(decide (x2619>(0:Int)))=true then((Z0w.f t2628.1)>>=fun t2637=>(at? t2592 (i64.wrap (x2619-(1:Int))))>>=fun b2639=>some (decide (t2637≤b2639))) else(some false)):Option (Bool))>>=fun x2642=>((if x2642=true then((Zk.f a0_c0 t2628.2.1 t2628.2.2 6)>>=fun t2646=>some t2646) else(some t2628.2.2)):Option (Int))>>=fun x2648=>if(x2648 != (0:Int))=true then(some (0,t2628.2.1,x2648)) else(some (t2628.1,t2628.2.1,x2648)))
theorem Zf.ok (a0_c0:List Int) (a0_c1:Int) (a0_c2:Int) (r:Int×Int×Int) (H:Zf.f a0_c0 a0_c1 a0_c2=some r):Pv.Fn Try.prog 49 [.ptr 0 0 0] [(0,some (.box 94 (Z3 ⟨a0_c0,a0_c1,a0_c2⟩)))] 1 (fun x o=>x=iV .u64 r.1∧o=[(0,some (.box 94 (Z3 ⟨a0_c0,r.2.1,r.2.2⟩)))]):=by
 unfold Zf.f at H
 refine Fn.bodyK [0] Try.func49 rfl rfl (fun Γ hP hn => ?_)
 have hm:Try.prog.follows .mixedOrders=true:=by kernel_rfl
 replace hn:Γ.n=44:=hn
 refine sO hP hn hm [] [] [0] [] [0] ?_
 obtain⟨t2592,e2593,H⟩:=Z4 H
 refine sR hP hn hm [(0,.call [] [(0,1)] [] [1] 0 (.own 0) [(0,some (.row 1 3 (t2592.map (Z1 .i64))))])] [(3,.own 1)] [0,3] [(1,some (.row 1 3 (t2592.map (Z1 .i64))))] [0,1] [_,_] ⟨Try.call42,Z1c.ok  t2592 e2593,trivial⟩ ?_
 refine sO hP hn hm [] [(4,iV .i64 0)] [0,3,4] [] [0,1] ?_
 refine AWp.seq ?_
 refine AWp.block ?_
 obtain⟨o2650,e2651,H⟩:=Z4 H
 refine AWp.loop (LWp.conv (inv:=[(0,0),(1,3)]) (vk:=[]) (e0:=[]) (t:=⟨[(0,.ptr 0 0 0),(3,.own 3),(4,iV .i64 0)],[(0,some (.box 94 (Z3 ⟨a0_c0,a0_c1,a0_c2⟩))),(3,some (.row 1 3 (t2592.map (Z1 .i64))))],1⟩) (by kernel_rfl) ?_)
 refine LWp.mono (Q:=fun e s=>(match (generalizing:=false) o2650 with | (x2617,x2618,x2619)=>e = .exit 0∧s=⟨[(0,.ptr 0 0 0),(3,.own 5),(4,iV .i64 x2619)],[(0,some (.box 94 (Z3 ⟨a0_c0,x2617,x2618⟩))),(5,some (.row 1 3 (t2592.map (Z1 .i64))))],1⟩)) (LWp.cv (Z07 (fun body hbody => ?_))) ?_
 ·refine                      Zf.l0.partial_correctness a0_c0 t2592 (motive:=fun x2604 x2605 x2606 o2650=>LWp Γ body (fun e s=>∃ t,Cv Γ s t∧(match (generalizing:=false) o2650 with | (x2617,x2618,x2619)=>e = .exit 0∧t=⟨[(0,.ptr 0 0 0),(3,.own 5),(4,iV .i64 x2619)],[(0,some (.box 94 (Z3           ⟨a0_c0,x2617,x2618⟩))),(5,some (.row 1 3 (t2592.map (Z1     .i64))))],1⟩)) ⟨[(0,.ptr 0 0 0),(3,.own 3),(4,iV .i64 x2606)],[(0,some (.box 94 (Z3           ⟨a0_c0,x2604,x2605⟩))),(3,some (.row 1 3 (t2592.map (Z1     .i64))))],1⟩) ?_ _ _ _ _ e2651
  clear H e2651 o2650;intro self ih x2604 x2605 x2606 o2650 H
  subst hbody
  refine LWp.round ?_
  refine AWp.seq ?_
  refine AWp.seq ?_
  obtain⟨o2652,e2653,H⟩:=Z4 H
  refine AWp.mono (Q:=fun e s=>(match (generalizing:=false) o2652 with | (x2613,x2614,x2615)=>e = .normal∧s=⟨[(0,.ptr 0 0 0),(3,.own 4),(4,iV .i64 x2606),(15,bV x2615)],[(0,some (.box 94 (Z3 ⟨a0_c0,x2613,x2614⟩))),(4,some (.row 1 3 (t2592.map (Z1 .i64))))],1⟩)) (AWp.cv ?_) ?_
  ·replace H:=e2653;clear e2653
   rcases Bool.eq_false_or_eq_true (decide (x2606<(i64.wrap ((t2592.length:Int)-(1:Int))))) with c2610 | c2610
   ·replace H:=iT c2610 H
    obtain⟨t2611,e2612,H⟩:=Z4 H
    refine rG hP hn hm [(2,.any (iV .i64 (t2592.length:Int))),(5,.b true),(7,.call [(0,0)] [(0,0)] [] [] 1 (bV t2611.1) [(0,some (.box 94 (Z3 ⟨a0_c0,t2611.2.1,t2611.2.2⟩)))])] [(13,.ptr 0 0 0),(14,bV t2611.1),(15,bV t2611.1)] [0,3,4,13,14,15] [(0,some (.box 94 (Z3 ⟨a0_c0,t2611.2.1,t2611.2.2⟩)))] [0,3] [((t2592.map (Z1 .i64)).length:Int)=(t2592.length:Int),_,_,_] ⟨by rw[Zv],c2610,Try.call24,Zr.ok a0_c0 x2604 x2605 t2611 e2612,trivial⟩ ?_
    obtain rfl:=sj H
    exact lf [(0,0),(3,4)] [] [] (by kernel_rfl) ⟨rfl,rfl⟩
   ·replace H:=iF c2610 H
    refine rG hP hn hm [(2,.any (iV .i64 (t2592.length:Int))),(5,.b false)] [(15,bV false)] [0,3,4,15] [] [0,3] [((t2592.map (Z1 .i64)).length:Int)=(t2592.length:Int),_] ⟨by rw[Zv],c2610,trivial⟩ ?_
    obtain rfl:=sj H
    exact lf [(0,0),(3,4)] [] [] (by kernel_rfl) ⟨rfl,rfl⟩
  ·obtain⟨x2613,x2614,x2615⟩:=o2652
   rintro e s ⟨rfl,rfl⟩
   refine AWp.cond x2615 (by kernel_rfl) (fun c2616 => ?_) (fun c2616 => ?_)
   ·replace H:=iT c2616 H
    refine AWp.skip ?_
    refine AWp.block ?_
    refine rO hP hn hm [] [(4,iV .i64 (i64.wrap (x2606+(1:Int))))] [0,3,4] [] [0,4] ?_
    exact LWp.conv [(0,0),(4,3)] [] [] (by kernel_rfl) (ih _ _ _ _ H)
   ·replace H:=iF c2616 H
    refine AWp.exit ?_
    obtain rfl:=sj H
    exact lf [(0,0),(4,5)] [] [] (by kernel_rfl) ⟨rfl,rfl⟩
 ·obtain⟨x2617,x2618,x2619⟩:=o2650
  rintro e s ⟨rfl,rfl⟩
  obtain⟨b2625,p2626,q2627,H⟩:=Z0q H
  obtain⟨t2628,e2629,H⟩:=Z4 H
  refine sR hP hn hm [(4,.c ((Z1 .i64) b2625)),(5,.call [(0,0)] [(0,0)] [] [] 1 (iV .u64 t2628.1) [(0,some (.box 94 (Z3 ⟨a0_c0,t2628.2.1,t2628.2.2⟩)))])] [(5,iV .u64 t2628.1)] [0,3,4,5] [(0,some (.box 94 (Z3 ⟨a0_c0,t2628.2.1,t2628.2.2⟩)))] [0,5] [_,_,_,_,_] ⟨p2626,Z1m (Z1 .i64) p2626 q2627,Zu (Z1 .i64) q2627,Try.call25,Zi.ok a0_c0 x2617 x2618 b2625 t2628 e2629,trivial⟩ ?_
  refine AWp.seq ?_
  refine AWp.seq ?_
  obtain⟨o2654,e2655,H⟩:=Z4 H
  refine AWp.mono (Q:=fun e s=>(match (generalizing:=false) o2654 with | x2642=>e = .normal∧s=⟨[(0,.ptr 0 0 0),(5,iV .u64 t2628.1),(35,bV x2642)],[(0,some (.box 94 (Z3 ⟨a0_c0,t2628.2.1,t2628.2.2⟩)))],1⟩)) (AWp.cv ?_) ?_
  ·replace H:=e2655;clear e2655
   rcases Bool.eq_false_or_eq_true (decide (x2619>(0:Int))) with c2636 | c2636
   ·replace H:=iT c2636 H
    obtain⟨t2637,e2638,H⟩:=Z4 H
    obtain⟨b2639,p2640,q2641,H⟩:=Z0q H
    refine rG hP hn hm [(2,.b true),(4,.call [] [] [] [] 0 (iV .i64 t2637) []),(9,.c ((Z1 .i64) b2639))] [(35,bV (decide (t2637≤b2639)))] [0,5,35] [] [0] [_,_,_,_,_,_] ⟨c2636,Try.call44,Z0w.ok t2628.1 t2637 e2638,p2640,Z1m (Z1 .i64) p2640 q2641,Zu (Z1 .i64) q2641,trivial⟩ ?_
    obtain rfl:=sj H
    exact lf [(0,0)] [] [] (by kernel_rfl) ⟨rfl,rfl⟩
   ·replace H:=iF c2636 H
    refine rG hP hn hm [(2,.b false)] [(35,bV false)] [0,5,35] [] [0] [_] ⟨c2636,trivial⟩ ?_
    obtain rfl:=sj H
    exact lf [(0,0)] [] [] (by kernel_rfl) ⟨rfl,rfl⟩
  ·obtain⟨x2642,rfl⟩:∃ z,z=o2654:=⟨_,rfl⟩
   rintro e s ⟨rfl,rfl⟩
   obtain⟨o2656,e2657,H⟩:=Z4 H
   refine AWp.mono (Q:=fun e s=>(match (generalizing:=false) o2656 with | x2648=>e = .normal∧s=⟨[(0,.ptr 0 0 0),(5,iV .u64 t2628.1)],[(0,some (.box 94 (Z3 ⟨a0_c0,t2628.2.1,x2648⟩)))],1⟩)) (AWp.cv ?_) ?_
   ·replace H:=e2657;clear e2657
    refine AWp.cond x2642 (by kernel_rfl) (fun c2643 => ?_) (fun c2643 => ?_)
    ·replace H:=iT c2643 H
     obtain⟨t2646,e2647,H⟩:=Z4 H
     refine rG hP hn hm [(1,.call [(0,0)] [(0,0)] [] [] 1 (.tup []) [(0,some (.box 94 (Z3 ⟨a0_c0,t2628.2.1,t2646⟩)))])] [] [0,5] [(0,some (.box 94 (Z3 ⟨a0_c0,t2628.2.1,t2646⟩)))] [0] [_,_] ⟨Try.call47,Zk.ok a0_c0 t2628.2.1 t2628.2.2 6 t2646 e2647,trivial⟩ ?_
     obtain rfl:=sj H
     exact lf [(0,0)] [] [] (by kernel_rfl) ⟨rfl,rfl⟩
    ·replace H:=iF c2643 H
     refine AWp.skip ?_
     obtain rfl:=sj H
     exact lf [(0,0)] [] [] (by kernel_rfl) ⟨rfl,rfl⟩
   ·obtain⟨x2648,rfl⟩:∃ z,z=o2656:=⟨_,rfl⟩
    rintro e s ⟨rfl,rfl⟩
    refine AWp.seq ?_
    refine sO hP hn hm [] [(42,bV (x2648 != (0:Int)))] [5,42] [] [0] ?_
    refine AWp.cond (x2648 != (0:Int)) (by kernel_rfl) (fun c2649 => ?_) (fun c2649 => ?_)
    ·replace H:=iT c2649 H
     refine sO hP hn hm [] [(2,iV .u64 0)] [2] [] [0] ?_
     refine AWp.conv (inv:=[(0,0)]) (vk:=[]) (e0:=[]) (t:=⟨[(2,iV .u64 0)],[(0,some (.box 94 (Z3 ⟨a0_c0,t2628.2.1,x2648⟩)))],1⟩) (by kernel_rfl) ?_
     refine AWp.ret ?_
     obtain rfl:=sj H
     exact rl (.inl rfl) rfl (by kernel_rfl) (by kernel_rfl)
    ·replace H:=iF c2649 H
     refine AWp.skip ?_
     refine sO hP hn hm [] [(2,iV .u64 t2628.1)] [2] [] [0] ?_
     refine AWp.conv (inv:=[(0,0)]) (vk:=[]) (e0:=[]) (t:=⟨[(2,iV .u64 t2628.1)],[(0,some (.box 94 (Z3 ⟨a0_c0,t2628.2.1,x2648⟩)))],1⟩) (by kernel_rfl) ?_
     refine AWp.ret ?_
     obtain rfl:=sj H
     exact rl (.inl rfl) rfl (by kernel_rfl) (by kernel_rfl)
def Z3n.f (a0:Int):Option (Unit):=some ()
theorem Z3n.ok (a0:Int) (r:Unit) (H:Z3n.f a0=some r):Pv.Fn Try.prog 48 [iV .u64 a0] [] 0 (fun x o=>x=iV .i64 (i64.wrap (((BitVec.toNat (BitVec.ofInt 64 (i64.wrap (Int.fdiv a0 2)) ^^^ BitVec.ofInt 64 (i64.wrap (0-(i64.wrap (u64.wrap (((BitVec.toNat (BitVec.ofInt 64 a0 &&& BitVec.ofInt 64 (1:Int)):Nat):Int))))))):Nat):Int)))∧o=[]):=by
 unfold Z3n.f at H
 refine Fn.bodyK [] Try.func48 rfl rfl (fun Γ hP hn => ?_)
 have hm:Try.prog.follows .mixedOrders=true:=by kernel_rfl
 replace hn:Γ.n=11:=hn
 refine sO hP hn hm [] [] [0] [] [] ?_
 refine sR hP hn hm [] [(2,iV .i64 (i64.wrap (((BitVec.toNat (BitVec.ofInt 64 (i64.wrap (Int.fdiv a0 2)) ^^^ BitVec.ofInt 64 (i64.wrap (0-(i64.wrap (u64.wrap (((BitVec.toNat (BitVec.ofInt 64 a0 &&& BitVec.ofInt 64 (1:Int)):Nat):Int))))))):Nat):Int))))] [2] [] [] [(0:Int)≤1] ⟨by decide,trivial⟩ ?_
 refine AWp.conv (inv:=[]) (vk:=[]) (e0:=[]) (t:=⟨[(2,iV .i64 (i64.wrap (((BitVec.toNat (BitVec.ofInt 64 (i64.wrap (Int.fdiv a0 2)) ^^^ BitVec.ofInt 64 (i64.wrap (0-(i64.wrap (u64.wrap (((BitVec.toNat (BitVec.ofInt 64 a0 &&& BitVec.ofInt 64 (1:Int)):Nat):Int))))))):Nat):Int))))],[],0⟩) (by kernel_rfl) ?_
 refine AWp.ret ?_
 obtain rfl:=sj H
 exact rl (.inl rfl) rfl (by kernel_rfl) (by kernel_rfl)
def Zs.f (a0_c0:List Int) (a0_c1:Int) (a0_c2:Int):Option (Int×Int×Int):=(Zf.f a0_c0 a0_c1 a0_c2)>>=fun t2662=>(Z3n.f t2662.1)>>=fun t2664=>some (i64.wrap (((BitVec.toNat (BitVec.ofInt 64 (i64.wrap (Int.fdiv t2662.1 2)) ^^^ BitVec.ofInt 64 (i64.wrap (0-(i64.wrap (u64.wrap (((BitVec.toNat (BitVec.ofInt 64 t2662.1 &&& BitVec.ofInt 64 (1:Int)):Nat):Int))))))):Nat):Int)),t2662.2.1,t2662.2.2)
theorem Zs.ok (a0_c0:List Int) (a0_c1:Int) (a0_c2:Int) (r:Int×Int×Int) (H:Zs.f a0_c0 a0_c1 a0_c2=some r):Pv.Fn Try.prog 26 [.ptr 0 0 0] [(0,some (.box 94 (Z3 ⟨a0_c0,a0_c1,a0_c2⟩)))] 1 (fun x o=>x=iV .i64 r.1∧o=[(0,some (.box 94 (Z3 ⟨a0_c0,r.2.1,r.2.2⟩)))]):=by
 unfold Zs.f at H
 refine Fn.bodyK [0] Try.func26 rfl rfl (fun Γ hP hn => ?_)
 have hm:Try.prog.follows .mixedOrders=true:=by kernel_rfl
 replace hn:Γ.n=6:=hn
 refine sO hP hn hm [] [] [0] [] [0] ?_
 obtain⟨t2662,e2663,H⟩:=Z4 H
 obtain⟨t2664,e2665,H⟩:=Z4 H
 refine sR hP hn hm [(1,.call [(0,0)] [(0,0)] [] [] 1 (iV .u64 t2662.1) [(0,some (.box 94 (Z3 ⟨a0_c0,t2662.2.1,t2662.2.2⟩)))]),(2,.call [] [] [] [] 0 (iV .i64 (i64.wrap (((BitVec.toNat (BitVec.ofInt 64 (i64.wrap (Int.fdiv t2662.1 2)) ^^^ BitVec.ofInt 64 (i64.wrap (0-(i64.wrap (u64.wrap (((BitVec.toNat (BitVec.ofInt 64 t2662.1 &&& BitVec.ofInt 64 (1:Int)):Nat):Int))))))):Nat):Int)))) [])] [(2,iV .i64 (i64.wrap (((BitVec.toNat (BitVec.ofInt 64 (i64.wrap (Int.fdiv t2662.1 2)) ^^^ BitVec.ofInt 64 (i64.wrap (0-(i64.wrap (u64.wrap (((BitVec.toNat (BitVec.ofInt 64 t2662.1 &&& BitVec.ofInt 64 (1:Int)):Nat):Int))))))):Nat):Int))))] [2] [(0,some (.box 94 (Z3 ⟨a0_c0,t2662.2.1,t2662.2.2⟩)))] [0] [_,_,_,_] ⟨Try.call49,Zf.ok a0_c0 a0_c1 a0_c2 t2662 e2663,Try.call48,Z3n.ok t2662.1 t2664 e2665,trivial⟩ ?_
 refine AWp.conv (inv:=[(0,0)]) (vk:=[]) (e0:=[]) (t:=⟨[(2,iV .i64 (i64.wrap (((BitVec.toNat (BitVec.ofInt 64 (i64.wrap (Int.fdiv t2662.1 2)) ^^^ BitVec.ofInt 64 (i64.wrap (0-(i64.wrap (u64.wrap (((BitVec.toNat (BitVec.ofInt 64 t2662.1 &&& BitVec.ofInt 64 (1:Int)):Nat):Int))))))):Nat):Int))))],[(0,some (.box 94 (Z3 ⟨a0_c0,t2662.2.1,t2662.2.2⟩)))],1⟩) (by kernel_rfl) ?_
 refine AWp.ret ?_
 obtain rfl:=sj H
 exact rl (.inl rfl) rfl (by kernel_rfl) (by kernel_rfl)
def Za.f (a0_c0:List Int) (a0_c1:Int) (a0_c2:Int) (a1:Int):Option (Int×Int×Int):=(Zf.f a0_c0 a0_c1 a0_c2)>>=fun t2676=>((if(decide (a1<(0:Int)))=true then(some true) else(some (decide (t2676.1>(u64.wrap (a1)))))):Option (Bool))>>=fun x2680=>if x2680=true then((Zk.f a0_c0 t2676.2.1 t2676.2.2 9)>>=fun t2684=>some (0,t2676.2.1,t2684)) else(some (i64.wrap (t2676.1),t2676.2.1,t2676.2.2))
theorem Za.ok (a0_c0:List Int) (a0_c1:Int) (a0_c2:Int) (a1:Int) (r:Int×Int×Int) (H:Za.f a0_c0 a0_c1 a0_c2 a1=some r):Pv.Fn Try.prog 50 [.ptr 0 0 0,iV .i64 a1] [(0,some (.box 94 (Z3 ⟨a0_c0,a0_c1,a0_c2⟩)))] 1 (fun x o=>x=iV .i64 r.1∧o=[(0,some (.box 94 (Z3 ⟨a0_c0,r.2.1,r.2.2⟩)))]):=by
 unfold Za.f at H
 refine Fn.bodyK [0] Try.func50 rfl rfl (fun Γ hP hn => ?_)
 have hm:Try.prog.follows .mixedOrders=true:=by kernel_rfl
 replace hn:Γ.n=20:=hn
 refine sO hP hn hm [] [] [0,1] [] [0] ?_
 obtain⟨t2676,e2677,H⟩:=Z4 H
 refine sR hP hn hm [(1,.call [(0,0)] [(0,0)] [] [] 1 (iV .u64 t2676.1) [(0,some (.box 94 (Z3 ⟨a0_c0,t2676.2.1,t2676.2.2⟩)))])] [(5,iV .u64 t2676.1)] [0,1,5] [(0,some (.box 94 (Z3 ⟨a0_c0,t2676.2.1,t2676.2.2⟩)))] [0] [_,_] ⟨Try.call49,Zf.ok a0_c0 a0_c1 a0_c2 t2676 e2677,trivial⟩ ?_
 refine AWp.seq ?_
 refine AWp.seq ?_
 obtain⟨o2686,e2687,H⟩:=Z4 H
 refine AWp.mono (Q:=fun e s=>(match (generalizing:=false) o2686 with | x2680=>e = .normal∧s=⟨[(0,.ptr 0 0 0),(5,iV .u64 t2676.1),(15,bV x2680)],[(0,some (.box 94 (Z3 ⟨a0_c0,t2676.2.1,t2676.2.2⟩)))],1⟩)) (AWp.cv ?_) ?_
 ·replace H:=e2687;clear e2687
  rcases Bool.eq_false_or_eq_true (decide (a1<(0:Int))) with c2679 | c2679
  ·replace H:=iT c2679 H
   refine rG hP hn hm [(2,.b true)] [(15,bV true)] [0,5,15] [] [0] [_] ⟨c2679,trivial⟩ ?_
   obtain rfl:=sj H
   exact lf [(0,0)] [] [] (by kernel_rfl) ⟨rfl,rfl⟩
  ·replace H:=iF c2679 H
   refine rG hP hn hm [(2,.b false)] [(15,bV (decide (t2676.1>(u64.wrap (a1)))))] [0,5,15] [] [0] [_] ⟨c2679,trivial⟩ ?_
   obtain rfl:=sj H
   exact lf [(0,0)] [] [] (by kernel_rfl) ⟨rfl,rfl⟩
 ·obtain⟨x2680,rfl⟩:∃ z,z=o2686:=⟨_,rfl⟩
  rintro e s ⟨rfl,rfl⟩
  refine AWp.cond x2680 (by kernel_rfl) (fun c2681 => ?_) (fun c2681 => ?_)
  ·replace H:=iT c2681 H
   obtain⟨t2684,e2685,H⟩:=Z4 H
   refine sR hP hn hm [(1,.call [(0,0)] [(0,0)] [] [] 1 (.tup []) [(0,some (.box 94 (Z3 ⟨a0_c0,t2676.2.1,t2684⟩)))])] [] [] [(0,some (.box 94 (Z3 ⟨a0_c0,t2676.2.1,t2684⟩)))] [0] [_,_] ⟨Try.call47,Zk.ok a0_c0 t2676.2.1 t2676.2.2 9 t2684 e2685,trivial⟩ ?_
   refine sO hP hn hm [] [(4,iV .i64 0)] [4] [] [0] ?_
   refine AWp.conv (inv:=[(0,0)]) (vk:=[]) (e0:=[]) (t:=⟨[(4,iV .i64 0)],[(0,some (.box 94 (Z3 ⟨a0_c0,t2676.2.1,t2684⟩)))],1⟩) (by kernel_rfl) ?_
   refine AWp.ret ?_
   obtain rfl:=sj H
   exact rl (.inl rfl) rfl (by kernel_rfl) (by kernel_rfl)
  ·replace H:=iF c2681 H
   refine AWp.skip ?_
   refine sO hP hn hm [] [(4,iV .i64 (i64.wrap (t2676.1)))] [4] [] [0] ?_
   refine AWp.conv (inv:=[(0,0)]) (vk:=[]) (e0:=[]) (t:=⟨[(4,iV .i64 (i64.wrap (t2676.1)))],[(0,some (.box 94 (Z3 ⟨a0_c0,t2676.2.1,t2676.2.2⟩)))],1⟩) (by kernel_rfl) ?_
   refine AWp.ret ?_
   obtain rfl:=sj H
   exact rl (.inl rfl) rfl (by kernel_rfl) (by kernel_rfl)
def Z0d.f (a0_c0:List Int) (a0_c1:Int) (a0_c2:Int):Option (Unit):=some ()
theorem Z0d.ok (a0_c0:List Int) (a0_c1:Int) (a0_c2:Int) (r:Unit) (H:Z0d.f a0_c0 a0_c1 a0_c2=some r):Pv.Fn Try.prog 51 [.ptr 0 0 0] [(0,some (.box 94 (Z3 ⟨a0_c0,a0_c1,a0_c2⟩)))] 1 (fun x o=>x=iV .i64 a0_c2∧o=[(0,some (.box 94 (Z3 ⟨a0_c0,a0_c1,a0_c2⟩)))]):=by
 unfold Z0d.f at H
 refine Fn.bodyK [0] Try.func51 rfl rfl (fun Γ hP hn => ?_)
 have hm:Try.prog.follows .mixedOrders=true:=by kernel_rfl
 replace hn:Γ.n=7:=hn
 refine sO hP hn hm [] [] [0] [] [0] ?_
 refine sO hP hn hm [] [(2,iV .i64 a0_c2)] [2] [] [0] ?_
 refine AWp.conv (inv:=[(0,0)]) (vk:=[]) (e0:=[]) (t:=⟨[(2,iV .i64 a0_c2)],[(0,some (.box 94 (Z3 ⟨a0_c0,a0_c1,a0_c2⟩)))],1⟩) (by kernel_rfl) ?_
 refine AWp.ret ?_
 obtain rfl:=sj H
 exact rl (.inl rfl) rfl (by kernel_rfl) (by kernel_rfl)
def Z0n.l0 (a0:Z7) (a1:Int) (x2772:Int) (x2773:Int):Option (Bool ⊕ Unit):=if(decide (x2773<(a0.f1.length:Int)))=true then((at? a0.f1 x2773)>>=fun b2778=>((if(decide (b2778.f1<(1:Int)))=true then(some true) else(if(decide (b2778.f1>(i64.wrap (a1-x2772))))=true then(some true) else(if(decide (b2778.f0<(0:Int)))=true then(some true) else(if(decide (b2778.f0>(524288:Int)))=true then(some true) else(some (!((x2773==(0:Int))==(b2778.f0==(0:Int))))))))):Option (Bool))>>=fun x2789=>if x2789=true then(some (.inl false)) else(Z0n.l0 a0 a1 (i64.wrap (x2772+b2778.f1)) (i64.wrap (x2773+(1:Int))))) else(some (.inr ()))
partial_fixpoint
def Z0n.f (a0:Z7) (a1:Int):Option (Bool):=if((a0.f1.length:Int)==(0:Int))=true then(some (a0.f0==(0:Int))) else((Z0n.l0 a0 a1 0 0)>>=fun oo=>match oo with | .inl rr=>(some rr) | .inr _=>(((if(decide (a0.f0≥(-262144)))=true then(some (decide (a0.f0≤(262144:Int)))) else(some false)):Option (Bool))>>=fun x2793=>some x2793))
theorem Z0n.ok (a0:Z7) (a1:Int) (r:Bool) (H:Z0n.f a0 a1=some r):Pv.Fn Try.prog 52 [.agg (Zb a0),iV .i64 a1] [] 0 (fun x o=>x=bV r∧o=[]):=by
 unfold Z0n.f at H
 refine Fn.bodyK [] Try.func52 rfl rfl (fun Γ hP hn => ?_)
 have hm:Try.prog.follows .mixedOrders=true:=by kernel_rfl
 replace hn:Γ.n=65:=hn
 refine sO hP hn hm [(0,.k 0)] [(2,.ptr 0 0 0)] [1,2] [(0,some (.box 52 (Zb a0)))] [0] ?_
 refine AWp.seq ?_
 refine sR hP hn hm [(2,.any (iV .i64 (a0.f1.length:Int)))] [(11,bV ((a0.f1.length:Int)==(0:Int)))] [1,2,11] [] [0] [((a0.f1.map Z0a).length:Int)=(a0.f1.length:Int)] ⟨by rw[Zv],trivial⟩ ?_
 refine AWp.cond ((a0.f1.length:Int)==(0:Int)) (by kernel_rfl) (fun c2754 => ?_) (fun c2754 => ?_)
 ·replace H:=iT c2754 H
  refine sO hP hn hm [] [(4,bV (a0.f0==(0:Int)))] [4] [] [] ?_
  refine AWp.conv (inv:=[]) (vk:=[]) (e0:=[]) (t:=⟨[(4,bV (a0.f0==(0:Int)))],[],0⟩) (by kernel_rfl) ?_
  refine AWp.ret ?_
  obtain rfl:=sj H
  exact rl (.inl rfl) rfl (by kernel_rfl) (by kernel_rfl)
 ·replace H:=iF c2754 H
  refine AWp.skip ?_
  refine sO hP hn hm [] [(5,iV .i64 0)] [1,2,5] [] [0] ?_
  refine AWp.seq ?_
  refine sR hP hn hm [(2,.any (iV .i64 (a0.f1.length:Int)))] [(16,.im (.row (a0.f1.map Z0a))),(17,iV .i64 (a0.f1.length:Int)),(18,iV .i64 0)] [1,2,5,16,17,18] [] [0] [((a0.f1.map Z0a).length:Int)=(a0.f1.length:Int)] ⟨by rw[Zv],trivial⟩ ?_
  refine AWp.block ?_
  obtain⟨o2794,e2795,H⟩:=Z4 H
  refine AWp.loop (LWp.conv (inv:=[(0,4)]) (vk:=[]) (e0:=[]) (t:=⟨[(1,iV .i64 a1),(2,.ptr 4 0 0),(5,iV .i64 0),(16,.im (.row (a0.f1.map Z0a))),(17,iV .i64 (a0.f1.length:Int)),(18,iV .i64 0)],[(4,some (.box 52 (Zb a0)))],0⟩) (by kernel_rfl) ?_)
  refine LWp.mono (Q:=fun e s=>(match (generalizing:=false) o2794 with | .inl rr=>e = .ret∧s.floor=0∧Z2f Try.prog Try.f52 s=some (bV rr)∧([]:List (Nat×Option MObj))=[] | .inr _=>e = .exit 0∧s=⟨[(2,.ptr 8 0 0)],[(8,some (.box 52 (Zb a0)))],0⟩)) (LWp.cv (Z07 (fun body hbody => ?_))) ?_
  ·refine          Z0n.l0.partial_correctness a0 a1 (motive:=fun x2772 x2773 o2794=>LWp Γ body (fun e s=>∃ t,Cv Γ s t∧(match (generalizing:=false) o2794 with | .inl rr=>e = .ret∧t.floor=0∧Z2f   Try.prog Try.f52 t=some (bV rr)∧([]:List (Nat×Option MObj))=[] | .inr _=>e = .exit 0∧t=⟨[(2,.ptr 8 0 0)],[(8,some (.box 52 (Zb           a0)))],0⟩)) ⟨[(1,iV .i64 a1),(2,.ptr 4 0 0),(5,iV .i64 x2772),(16,.im (.row (a0.f1.map Z0a  ))),(17,iV .i64 (a0.f1.length:Int)),(18,iV .i64 x2773)],[(4,some (.box 52 (Zb           a0)))],0⟩) ?_ _ _ _ e2795
   clear H e2795 o2794;intro self ih x2772 x2773 o2794 H
   subst hbody
   refine LWp.round ?_
   refine sO hP hn hm [] [(19,bV (decide (x2773<(a0.f1.length:Int))))] [1,2,5,16,17,18,19] [] [4] ?_
   refine AWp.seq ?_
   refine AWp.cond (decide (x2773<(a0.f1.length:Int))) (by kernel_rfl) (fun c2774 => ?_) (fun c2774 => ?_)
   ·replace H:=iT c2774 H
    refine AWp.skip ?_
    refine AWp.seq ?_
    refine AWp.block ?_
    obtain⟨b2778,p2779,q2780,H⟩:=Z0q H
    refine sR hP hn hm [(1,.c (Z0a b2778)),(3,.k 5)] [(6,iV .i64 x2773),(7,.ptr 5 0 0)] [1,2,5,6,7,16,17,18] [(5,some (.box 86 (aSpan b2778)))] [4,5] [_,_] ⟨p2779,Zu Z0a q2780,trivial⟩ ?_
    refine AWp.seq ?_
    refine AWp.seq ?_
    obtain⟨o2796,e2797,H⟩:=Z4 H
    refine AWp.mono (Q:=fun e s=>(match (generalizing:=false) o2796 with | x2789=>e = .normal∧s=⟨[(1,iV .i64 a1),(2,.ptr 6 0 0),(5,iV .i64 x2772),(7,.ptr 7 0 0),(16,.im (.row (a0.f1.map Z0a))),(17,iV .i64 (a0.f1.length:Int)),(18,iV .i64 x2773),(51,bV x2789)],[(6,some (.box 52 (Zb a0))),(7,some (.box 86 (aSpan b2778)))],0⟩)) (AWp.cv ?_) ?_
    ·replace H:=e2797;clear e2797
     rcases Bool.eq_false_or_eq_true (decide (b2778.f1<(1:Int))) with c2785 | c2785
     ·replace H:=iT c2785 H
      refine rG hP hn hm [(3,.b true)] [(51,bV true)] [1,2,5,7,16,17,18,51] [] [4,5] [_] ⟨c2785,trivial⟩ ?_
      obtain rfl:=sj H
      exact lf [(4,6),(5,7)] [] [] (by kernel_rfl) ⟨rfl,rfl⟩
     ·replace H:=iF c2785 H
      rcases Bool.eq_false_or_eq_true (decide (b2778.f1>(i64.wrap (a1-x2772)))) with c2786 | c2786
      ·replace H:=iT c2786 H
       refine rG hP hn hm [(3,.b false),(11,.b true)] [(27,.ptr 5 0 1),(28,iV .i64 b2778.f1),(29,iV .i64 a1),(30,iV .i64 x2772),(31,iV .i64 (i64.wrap (a1-x2772))),(32,bV (decide (b2778.f1>(i64.wrap (a1-x2772))))),(51,bV true)] [1,2,5,7,16,17,18,27,28,29,30,31,32,51] [] [4,5] [_,_] ⟨c2785,c2786,trivial⟩ ?_
       obtain rfl:=sj H
       exact lf [(4,6),(5,7)] [] [] (by kernel_rfl) ⟨rfl,rfl⟩
      ·replace H:=iF c2786 H
       rcases Bool.eq_false_or_eq_true (decide (b2778.f0<(0:Int))) with c2787 | c2787
       ·replace H:=iT c2787 H
        refine rG hP hn hm [(3,.b false),(11,.b false),(16,.b true)] [(27,.ptr 5 0 1),(28,iV .i64 b2778.f1),(29,iV .i64 a1),(30,iV .i64 x2772),(31,iV .i64 (i64.wrap (a1-x2772))),(32,bV (decide (b2778.f1>(i64.wrap (a1-x2772))))),(35,.ptr 5 0 0),(36,iV .i64 b2778.f0),(37,bV (decide (b2778.f0<(0:Int)))),(51,bV true)] [1,2,5,7,16,17,18,27,28,29,30,31,32,35,36,37,51] [] [4,5] [_,_,_] ⟨c2785,c2786,c2787,trivial⟩ ?_
        obtain rfl:=sj H
        exact lf [(4,6),(5,7)] [] [] (by kernel_rfl) ⟨rfl,rfl⟩
       ·replace H:=iF c2787 H
        rcases Bool.eq_false_or_eq_true (decide (b2778.f0>(524288:Int))) with c2788 | c2788
        ·replace H:=iT c2788 H
         refine rG hP hn hm [(3,.b false),(11,.b false),(16,.b false),(21,.b true)] [(27,.ptr 5 0 1),(28,iV .i64 b2778.f1),(29,iV .i64 a1),(30,iV .i64 x2772),(31,iV .i64 (i64.wrap (a1-x2772))),(32,bV (decide (b2778.f1>(i64.wrap (a1-x2772))))),(35,.ptr 5 0 0),(36,iV .i64 b2778.f0),(37,bV (decide (b2778.f0<(0:Int)))),(40,.ptr 5 0 0),(41,iV .i64 b2778.f0),(42,bV (decide (b2778.f0>(524288:Int)))),(51,bV true)] [1,2,5,7,16,17,18,27,28,29,30,31,32,35,36,37,40,41,42,51] [] [4,5] [_,_,_,_] ⟨c2785,c2786,c2787,c2788,trivial⟩ ?_
         obtain rfl:=sj H
         exact lf [(4,6),(5,7)] [] [] (by kernel_rfl) ⟨rfl,rfl⟩
        ·replace H:=iF c2788 H
         refine rG hP hn hm [(3,.b false),(11,.b false),(16,.b false),(21,.b false)] [(27,.ptr 5 0 1),(28,iV .i64 b2778.f1),(29,iV .i64 a1),(30,iV .i64 x2772),(31,iV .i64 (i64.wrap (a1-x2772))),(32,bV (decide (b2778.f1>(i64.wrap (a1-x2772))))),(35,.ptr 5 0 0),(36,iV .i64 b2778.f0),(37,bV (decide (b2778.f0<(0:Int)))),(40,.ptr 5 0 0),(41,iV .i64 b2778.f0),(42,bV (decide (b2778.f0>(524288:Int)))),(45,iV .i64 x2773),(46,bV (x2773==(0:Int))),(47,.ptr 5 0 0),(48,iV .i64 b2778.f0),(49,bV (b2778.f0==(0:Int))),(50,bV (!((x2773==(0:Int))==(b2778.f0==(0:Int))))),(51,bV (!((x2773==(0:Int))==(b2778.f0==(0:Int)))))] [1,2,5,7,16,17,18,27,28,29,30,31,32,35,36,37,40,41,42,45,46,47,48,49,50,51] [] [4,5] [_,_,_,_] ⟨c2785,c2786,c2787,c2788,trivial⟩ ?_
         obtain rfl:=sj H
         exact lf [(4,6),(5,7)] [] [] (by kernel_rfl) ⟨rfl,rfl⟩
    ·obtain⟨x2789,rfl⟩:∃ z,z=o2796:=⟨_,rfl⟩
     rintro e s ⟨rfl,rfl⟩
     refine AWp.cond x2789 (by kernel_rfl) (fun c2790 => ?_) (fun c2790 => ?_)
     ·replace H:=iT c2790 H
      refine sO hP hn hm [] [(4,bV false)] [4] [] [] ?_
      refine AWp.conv (inv:=[]) (vk:=[]) (e0:=[]) (t:=⟨[(4,bV false)],[],0⟩) (by kernel_rfl) ?_
      refine AWp.ret ?_
      obtain rfl:=sj H
      exact rl rfl rfl (by kernel_rfl) (by kernel_rfl)
     ·replace H:=iF c2790 H
      refine AWp.skip ?_
      refine rO hP hn hm [] [(5,iV .i64 (i64.wrap (x2772+b2778.f1)))] [1,2,5,16,17,18] [] [6] ?_
      refine rO hP hn hm [] [(18,iV .i64 (i64.wrap (x2773+(1:Int))))] [1,2,5,16,17,18] [] [6] ?_
      exact LWp.conv [(6,4)] [] [] (by kernel_rfl) (ih _ _ _ H)
   ·replace H:=iF c2774 H
    refine AWp.exit ?_
    obtain rfl:=sj H
    exact lf [(4,8)] [] [] (by kernel_rfl) ⟨rfl,rfl⟩
  ·rcases o2794 with rr | _
   ·skip
    rintro e s ⟨rfl,hfl,hres⟩
    obtain rfl:=sj H
    exact Exists.intro _ (And.intro (fun _ _ h=>h) (And.intro (.inl rfl) (And.intro hfl hres)))
   ·skip
    rintro e s ⟨rfl,rfl⟩
    refine AWp.seq ?_
    obtain⟨o2798,e2799,H⟩:=Z4 H
    refine AWp.mono (Q:=fun e s=>(match (generalizing:=false) o2798 with | x2793=>e = .normal∧s=⟨[(4,bV x2793)],[],0⟩)) (AWp.cv ?_) ?_
    ·replace H:=e2799;clear e2799
     rcases Bool.eq_false_or_eq_true (decide (a0.f0≥(-262144))) with c2792 | c2792
     ·replace H:=iT c2792 H
      refine rG hP hn hm [(3,.b true)] [(4,bV (decide (a0.f0≤(262144:Int))))] [4] [] [] [_] ⟨c2792,trivial⟩ ?_
      obtain rfl:=sj H
      exact lf [] [] [] (by kernel_rfl) ⟨rfl,rfl⟩
     ·replace H:=iF c2792 H
      refine rG hP hn hm [(3,.b false)] [(4,bV false)] [4] [] [] [_] ⟨c2792,trivial⟩ ?_
      obtain rfl:=sj H
      exact lf [] [] [] (by kernel_rfl) ⟨rfl,rfl⟩
    ·obtain⟨x2793,rfl⟩:∃ z,z=o2798:=⟨_,rfl⟩
     rintro e s ⟨rfl,rfl⟩
     refine AWp.conv (inv:=[]) (vk:=[]) (e0:=[]) (t:=⟨[(4,bV x2793)],[],0⟩) (by kernel_rfl) ?_
     refine AWp.ret ?_
     obtain rfl:=sj H
     exact rl (.inl rfl) rfl (by kernel_rfl) (by kernel_rfl)
def Z05.l0 (a0_c0:List Int) (a1:Int) (x2705:Int) (x2706:Int) (x2721:Int) (x2722:Int) (x2723:List Z0y) (x2724:Int):Option (Int×Int×(List Z0y)):=((if(decide (x2724<x2706))=true then((Z0d.f a0_c0 x2721 x2722)>>=fun t2729=>some (x2722==(0:Int))) else(some false)):Option (Bool))>>=fun x2731=>if x2731=true then(((if(decide (x2724>(0:Int)))=true then((Za.f a0_c0 x2721 x2722 524287)>>=fun t2736=>some (t2736.2.1,t2736.2.2,i64.wrap ((1:Int)+t2736.1))) else(some (x2721,x2722,0))):Option (Int×Int×Int))>>=fun oo=>match oo with | (x2738,x2739,x2740)=>((Za.f a0_c0 x2738 x2739 (i64.wrap (a1-(1:Int))))>>=fun t2743=>(chk ((x2723.length+[(⟨x2740,i64.wrap ((1:Int)+t2743.1)⟩:Z0y)].length)*16≤140737488355328))>>=fun _=>Z05.l0 a0_c0 a1 x2705 x2706 t2743.2.1 t2743.2.2 (x2723++[(⟨x2740,i64.wrap ((1:Int)+t2743.1)⟩:Z0y)]) (i64.wrap (x2724+(1:Int))))) else(some (x2721,x2722,x2723))
partial_fixpoint
def Z05.f (a0_c0:List Int) (a0_c1:Int) (a0_c2:Int) (a1:Int):Option (Z7×Int×Int):=(Za.f a0_c0 a0_c1 a0_c2 a1)>>=fun t2690=>((if(decide (t2690.1>(0:Int)))=true then((Zs.f a0_c0 t2690.2.1 t2690.2.2)>>=fun t2695=>((if(decide (t2695.1≥(-262144)))=true then(some (decide (t2695.1≤(262144:Int)))) else(some false)):Option (Bool))>>=fun x2699=>((if x2699=true then(some (t2695.1,t2690.1)) else(some (0,(-1)))):Option (Int×Int))>>=fun oo=>match oo with | (x2701,x2702)=>(some (t2695.2.1,t2695.2.2,x2701,x2702))) else(some (t2690.2.1,t2690.2.2,0,t2690.1))):Option (Int×Int×Int×Int))>>=fun oo=>match oo with | (x2703,x2704,x2705,x2706)=>((Z05.l0 a0_c0 a1 x2705 x2706 x2703 x2704 [] 0)>>=fun oo=>match oo with | (x2747,x2748,x2749)=>((((Z0d.f a0_c0 x2747 x2748)>>=fun t2802=>if(x2748 != (0:Int))=true then(some true) else(if(decide (x2706<(0:Int)))=true then(some true) else((Z0n.f (⟨x2705,x2749⟩:Z7) a1)>>=fun t2806=>some (!t2806)))):Option (Bool))>>=fun x2808=>if x2808=true then(some ((⟨0,[]⟩:Z7),x2747,x2748)) else(some ((⟨x2705,x2749⟩:Z7),x2747,x2748))))
theorem Z05.ok (a0_c0:List Int) (a0_c1:Int) (a0_c2:Int) (a1:Int) (r:Z7×Int×Int) (H:Z05.f a0_c0 a0_c1 a0_c2 a1=some r):Pv.Fn Try.prog 27 [.ptr 0 0 0,iV .i64 a1] [(0,some (.box 94 (Z3 ⟨a0_c0,a0_c1,a0_c2⟩)))] 1 (fun x o=>x = .agg [iV .i64 ((r.1).f0),.own 1]∧o=[(0,some (.box 94 (Z3 ⟨a0_c0,r.2.1,r.2.2⟩))),(1,some (.row 2 86 (((r.1).f1).map Z0a)))]):=by
 unfold Z05.f at H
 refine Fn.bodyK [0,1] Try.func27 rfl rfl (fun Γ hP hn => ?_)
 have hm:Try.prog.follows .mixedOrders=true:=by kernel_rfl
 replace hn:Γ.n=69:=hn
 refine sO hP hn hm [(0,.k 1)] [(4,.ptr 1 0 0)] [0,1,4] [(1,some (.box 52 [iV .i64 0,.none0]))] [0,1] ?_
 refine sO hP hn hm [(0,.k 2)] [(5,.ptr 2 0 0)] [0,1,4,5] [(2,some (.box 52 [iV .i64 0,.none0]))] [0,1,2] ?_
 obtain⟨t2690,e2691,H⟩:=Z4 H
 refine sR hP hn hm [(2,.call [(0,0)] [(0,0)] [] [] 1 (iV .i64 t2690.1) [(0,some (.box 94 (Z3 ⟨a0_c0,t2690.2.1,t2690.2.2⟩)))])] [(6,iV .i64 t2690.1)] [0,1,4,5,6] [(0,some (.box 94 (Z3 ⟨a0_c0,t2690.2.1,t2690.2.2⟩)))] [0,1,2] [_,_] ⟨Try.call50,Za.ok a0_c0 a0_c1 a0_c2 a1 t2690 e2691,trivial⟩ ?_
 refine AWp.seq ?_
 refine sO hP hn hm [] [(14,bV (decide (t2690.1>(0:Int))))] [0,1,4,5,6,14] [] [0,1,2] ?_
 obtain⟨o2810,e2811,H⟩:=Z4 H
 refine AWp.mono (Q:=fun e s=>(match (generalizing:=false) o2810 with | (x2703,x2704,x2705,x2706)=>e = .normal∧s=⟨[(0,.ptr 0 0 0),(1,iV .i64 a1),(4,.ptr 7 0 0),(5,.ptr 8 0 0),(6,iV .i64 x2706)],[(0,some (.box 94 (Z3 ⟨a0_c0,x2703,x2704⟩))),(7,some (.box 52 [iV .i64 0,.none0])),(8,some (.box 52 [iV .i64 x2705,.none0]))],1⟩)) (AWp.cv ?_) ?_
 ·replace H:=e2811;clear e2811
  refine AWp.cond (decide (t2690.1>(0:Int))) (by kernel_rfl) (fun c2692 => ?_) (fun c2692 => ?_)
  ·replace H:=iT c2692 H
   obtain⟨t2695,e2696,H⟩:=Z4 H
   refine sR hP hn hm [(1,.call [(0,0)] [(0,0)] [] [] 1 (iV .i64 t2695.1) [(0,some (.box 94 (Z3 ⟨a0_c0,t2695.2.1,t2695.2.2⟩)))])] [(7,iV .i64 t2695.1)] [0,1,4,5,6,7] [(0,some (.box 94 (Z3 ⟨a0_c0,t2695.2.1,t2695.2.2⟩)))] [0,1,2] [_,_] ⟨Try.call26,Zs.ok a0_c0 t2690.2.1 t2690.2.2 t2695 e2696,trivial⟩ ?_
   refine AWp.seq ?_
   obtain⟨o2812,e2813,H⟩:=Z4 H
   refine AWp.mono (Q:=fun e s=>(match (generalizing:=false) o2812 with | x2699=>e = .normal∧s=⟨[(0,.ptr 0 0 0),(1,iV .i64 a1),(4,.ptr 3 0 0),(5,.ptr 4 0 0),(6,iV .i64 t2690.1),(7,iV .i64 t2695.1),(22,bV x2699)],[(0,some (.box 94 (Z3 ⟨a0_c0,t2695.2.1,t2695.2.2⟩))),(3,some (.box 52 [iV .i64 0,.none0])),(4,some (.box 52 [iV .i64 0,.none0]))],1⟩)) (AWp.cv ?_) ?_
   ·replace H:=e2813;clear e2813
    rcases Bool.eq_false_or_eq_true (decide (t2695.1≥(-262144))) with c2698 | c2698
    ·replace H:=iT c2698 H
     refine rG hP hn hm [(2,.b true)] [(22,bV (decide (t2695.1≤(262144:Int))))] [0,1,4,5,6,7,22] [] [0,1,2] [_] ⟨c2698,trivial⟩ ?_
     obtain rfl:=sj H
     exact lf [(0,0),(1,3),(2,4)] [] [] (by kernel_rfl) ⟨rfl,rfl⟩
    ·replace H:=iF c2698 H
     refine rG hP hn hm [(2,.b false)] [(22,bV false)] [0,1,4,5,6,7,22] [] [0,1,2] [_] ⟨c2698,trivial⟩ ?_
     obtain rfl:=sj H
     exact lf [(0,0),(1,3),(2,4)] [] [] (by kernel_rfl) ⟨rfl,rfl⟩
   ·obtain⟨x2699,rfl⟩:∃ z,z=o2812:=⟨_,rfl⟩
    rintro e s ⟨rfl,rfl⟩
    obtain⟨o2814,e2815,H⟩:=Z4 H
    refine AWp.mono (Q:=fun e s=>(match (generalizing:=false) o2814 with | (x2701,x2702)=>e = .normal∧s=⟨[(0,.ptr 0 0 0),(1,iV .i64 a1),(4,.ptr 5 0 0),(5,.ptr 6 0 0),(6,iV .i64 x2702)],[(0,some (.box 94 (Z3 ⟨a0_c0,t2695.2.1,t2695.2.2⟩))),(5,some (.box 52 [iV .i64 0,.none0])),(6,some (.box 52 [iV .i64 x2701,.none0]))],1⟩)) (AWp.cv ?_) ?_
    ·replace H:=e2815;clear e2815
     refine AWp.cond x2699 (by kernel_rfl) (fun c2700 => ?_) (fun c2700 => ?_)
     ·replace H:=iT c2700 H
      refine rO hP hn hm [] [] [0,1,4,5,6] [(4,some (.box 52 [iV .i64 t2695.1,.none0]))] [0,3,4] ?_
      obtain rfl:=sj H
      exact lf [(0,0),(3,5),(4,6)] [] [] (by kernel_rfl) ⟨rfl,rfl⟩
     ·replace H:=iF c2700 H
      refine rO hP hn hm [] [(6,iV .i64 (-1))] [0,1,4,5,6] [] [0,3,4] ?_
      obtain rfl:=sj H
      exact lf [(0,0),(3,5),(4,6)] [] [] (by kernel_rfl) ⟨rfl,rfl⟩
    ·obtain⟨x2701,x2702⟩:=o2814
     rintro e s ⟨rfl,rfl⟩
     obtain rfl:=sj H
     exact lf [(0,0),(5,7),(6,8)] [] [] (by kernel_rfl) ⟨rfl,rfl⟩
  ·replace H:=iF c2692 H
   refine AWp.skip ?_
   obtain rfl:=sj H
   exact lf [(0,0),(1,7),(2,8)] [] [] (by kernel_rfl) ⟨rfl,rfl⟩
 ·obtain⟨x2703,x2704,x2705,x2706⟩:=o2810
  rintro e s ⟨rfl,rfl⟩
  refine AWp.seq ?_
  refine sO hP hn hm [] [(8,iV .i64 0)] [0,1,4,5,6,8] [] [0,7,8] ?_
  refine AWp.block ?_
  obtain⟨o2816,e2817,H⟩:=Z4 H
  refine AWp.loop (LWp.conv (inv:=[(0,0),(7,14),(8,15)]) (vk:=[]) (e0:=[16]) (t:=⟨[(0,.ptr 0 0 0),(1,iV .i64 a1),(4,.ptr 14 0 0),(5,.ptr 15 0 0),(6,iV .i64 x2706),(8,iV .i64 0)],[(0,some (.box 94 (Z3 ⟨a0_c0,x2703,x2704⟩))),(14,some (.box 52 [iV .i64 0,.none0])),(15,some (.box 52 [iV .i64 x2705,.own 16])),(16,some (.row 2 86 ([].map Z0a)))],1⟩) (by kernel_rfl) ?_)
  refine LWp.mono (Q:=fun e s=>(match (generalizing:=false) o2816 with | (x2747,x2748,x2749)=>e = .exit 0∧s=⟨[(0,.ptr 0 0 0),(1,iV .i64 a1),(4,.ptr 27 0 0),(5,.ptr 28 0 0),(6,iV .i64 x2706)],[(0,some (.box 94 (Z3 ⟨a0_c0,x2747,x2748⟩))),(27,some (.box 52 [iV .i64 0,.none0])),(28,some (.box 52 [iV .i64 x2705,.own 29])),(29,some (.row 2 86 (x2749.map Z0a)))],1⟩)) (LWp.cv (Z07 (fun body hbody => ?_))) ?_
  ·refine             Z05.l0.partial_correctness a0_c0 a1 x2705 x2706 (motive:=fun x2721 x2722 x2723 x2724 o2816=>LWp Γ body (fun e s=>∃ t,Cv Γ s t∧(match (generalizing:=false) o2816 with | (x2747,x2748,x2749)=>e = .exit 0∧t=⟨[(0,.ptr 0 0 0),(1,iV .i64 a1),(4,.ptr 27 0 0),(5,.ptr 28 0 0),(6,iV .i64 x2706)],[(0,some (.box 94 (Z3           ⟨a0_c0,x2747,x2748⟩))),(27,some (.box 52 [iV .i64 0,.none0])),(28,some (.box 52 [iV .i64 x2705,.own 29])),(29,some (.row 2 86 (x2749.map Z0a  )))],1⟩)) ⟨[(0,.ptr 0 0 0),(1,iV .i64 a1),(4,.ptr 14 0 0),(5,.ptr 15 0 0),(6,iV .i64 x2706),(8,iV .i64 x2724)],[(0,some (.box 94 (Z3           ⟨a0_c0,x2721,x2722⟩))),(14,some (.box 52 [iV .i64 0,.none0])),(15,some (.box 52 [iV .i64 x2705,.own 16])),(16,some (.row 2 86 (x2723.map Z0a  )))],1⟩) ?_ _ _ _ _ _ e2817
   clear H e2817 o2816;intro self ih x2721 x2722 x2723 x2724 o2816 H
   subst hbody
   refine LWp.round ?_
   refine AWp.seq ?_
   refine AWp.seq ?_
   obtain⟨o2818,e2819,H⟩:=Z4 H
   refine AWp.mono (Q:=fun e s=>(match (generalizing:=false) o2818 with | x2731=>e = .normal∧s=⟨[(0,.ptr 0 0 0),(1,iV .i64 a1),(4,.ptr 17 0 0),(5,.ptr 18 0 0),(6,iV .i64 x2706),(8,iV .i64 x2724),(32,bV x2731)],[(0,some (.box 94 (Z3 ⟨a0_c0,x2721,x2722⟩))),(17,some (.box 52 [iV .i64 0,.none0])),(18,some (.box 52 [iV .i64 x2705,.own 19])),(19,some (.row 2 86 (x2723.map Z0a)))],1⟩)) (AWp.cv ?_) ?_
   ·replace H:=e2819;clear e2819
    rcases Bool.eq_false_or_eq_true (decide (x2724<x2706)) with c2728 | c2728
    ·replace H:=iT c2728 H
     obtain⟨t2729,e2730,H⟩:=Z4 H
     refine rG hP hn hm [(3,.b true),(5,.call [(0,0)] [(0,0)] [] [] 1 (iV .i64 x2722) [(0,some (.box 94 (Z3 ⟨a0_c0,x2721,x2722⟩)))])] [(29,.ptr 0 0 0),(30,iV .i64 x2722),(31,bV (x2722==(0:Int))),(32,bV (x2722==(0:Int)))] [0,1,4,5,6,8,29,30,31,32] [] [0,14,15,16] [_,_,_] ⟨c2728,Try.call51,Z0d.ok a0_c0 x2721 x2722 t2729 e2730,trivial⟩ ?_
     obtain rfl:=sj H
     exact lf [(0,0),(14,17),(15,18),(16,19)] [] [] (by kernel_rfl) ⟨rfl,rfl⟩
    ·replace H:=iF c2728 H
     refine rG hP hn hm [(3,.b false)] [(32,bV false)] [0,1,4,5,6,8,32] [] [0,14,15,16] [_] ⟨c2728,trivial⟩ ?_
     obtain rfl:=sj H
     exact lf [(0,0),(14,17),(15,18),(16,19)] [] [] (by kernel_rfl) ⟨rfl,rfl⟩
   ·obtain⟨x2731,rfl⟩:∃ z,z=o2818:=⟨_,rfl⟩
    rintro e s ⟨rfl,rfl⟩
    refine AWp.cond x2731 (by kernel_rfl) (fun c2732 => ?_) (fun c2732 => ?_)
    ·replace H:=iT c2732 H
     refine AWp.skip ?_
     refine AWp.seq ?_
     refine AWp.block ?_
     refine sO hP hn hm [(1,.k 20)] [(9,.ptr 20 0 0)] [0,1,4,5,6,8,9] [(20,some (.box 86 (aSpan ⟨0,0⟩)))] [0,17,18,19,20] ?_
     refine AWp.seq ?_
     refine sO hP hn hm [] [(37,bV (decide (x2724>(0:Int))))] [0,1,4,5,6,8,9,37] [] [0,17,18,19,20] ?_
     obtain⟨o2820,e2821,H⟩:=Z4 H
     refine AWp.mono (Q:=fun e s=>(match (generalizing:=false) o2820 with | (x2738,x2739,x2740)=>e = .normal∧s=⟨[(0,.ptr 0 0 0),(1,iV .i64 a1),(4,.ptr 21 0 0),(5,.ptr 22 0 0),(6,iV .i64 x2706),(8,iV .i64 x2724),(9,.ptr 24 0 0)],[(0,some (.box 94 (Z3 ⟨a0_c0,x2738,x2739⟩))),(21,some (.box 52 [iV .i64 0,.none0])),(22,some (.box 52 [iV .i64 x2705,.own 23])),(23,some (.row 2 86 (x2723.map Z0a))),(24,some (.box 86 (aSpan ⟨x2740,0⟩)))],1⟩)) (AWp.cv ?_) ?_
     ·replace H:=e2821;clear e2821
      refine AWp.cond (decide (x2724>(0:Int))) (by kernel_rfl) (fun c2733 => ?_) (fun c2733 => ?_)
      ·replace H:=iT c2733 H
       obtain⟨t2736,e2737,H⟩:=Z4 H
       refine rG hP hn hm [(1,.call [(0,0)] [(0,0)] [] [] 1 (iV .i64 t2736.1) [(0,some (.box 94 (Z3 ⟨a0_c0,t2736.2.1,t2736.2.2⟩)))])] [] [0,1,4,5,6,8,9] [(0,some (.box 94 (Z3 ⟨a0_c0,t2736.2.1,t2736.2.2⟩))),(20,some (.box 86 (aSpan ⟨(i64.wrap ((1:Int)+t2736.1)),0⟩)))] [0,17,18,19,20] [_,_] ⟨Try.call50,Za.ok a0_c0 x2721 x2722 524287 t2736 e2737,trivial⟩ ?_
       obtain rfl:=sj H
       exact lf [(0,0),(17,21),(18,22),(19,23),(20,24)] [] [] (by kernel_rfl) ⟨rfl,rfl⟩
      ·replace H:=iF c2733 H
       refine AWp.skip ?_
       obtain rfl:=sj H
       exact lf [(0,0),(17,21),(18,22),(19,23),(20,24)] [] [] (by kernel_rfl) ⟨rfl,rfl⟩
     ·obtain⟨x2738,x2739,x2740⟩:=o2820
      rintro e s ⟨rfl,rfl⟩
      obtain⟨t2743,e2744,H⟩:=Z4 H
      refine sR hP hn hm [(3,.call [(0,0)] [(0,0)] [] [] 1 (iV .i64 t2743.1) [(0,some (.box 94 (Z3 ⟨a0_c0,t2743.2.1,t2743.2.2⟩)))])] [] [0,1,4,5,6,8,9] [(0,some (.box 94 (Z3 ⟨a0_c0,t2743.2.1,t2743.2.2⟩))),(24,some (.box 86 (aSpan ⟨x2740,(i64.wrap ((1:Int)+t2743.1))⟩)))] [0,21,22,23,24] [_,_] ⟨Try.call50,Za.ok a0_c0 x2738 x2739 (i64.wrap (a1-(1:Int))) t2743 e2744,trivial⟩ ?_
      obtain⟨c2746,H⟩:=Z17 H
      refine rG hP hn hm [(3,.app 25 ([(⟨x2740,i64.wrap ((1:Int)+t2743.1)⟩:Z0y)].map Z0a)),(4,.app 26 ((x2723++[(⟨x2740,i64.wrap ((1:Int)+t2743.1)⟩:Z0y)]).map Z0a))] [] [0,1,4,5,6,8] [(22,some (.box 52 [iV .i64 x2705,.own 26])),(26,some (.row 2 86 ((x2723++[(⟨x2740,i64.wrap ((1:Int)+t2743.1)⟩:Z0y)]).map Z0a)))] [0,21,22,26] [[(⟨x2740,i64.wrap ((1:Int)+t2743.1)⟩:Z0y)].map Z0a=[[iI .i64 x2740,iI .i64 (i64.wrap ((1:Int)+t2743.1))]],(x2723++[(⟨x2740,i64.wrap ((1:Int)+t2743.1)⟩:Z0y)]).map Z0a=(x2723.map Z0a)++([(⟨x2740,i64.wrap ((1:Int)+t2743.1)⟩:Z0y)].map Z0a),∀ c∈([(⟨x2740,i64.wrap ((1:Int)+t2743.1)⟩:Z0y)].map Z0a),c.length=2,∀ c∈([(⟨x2740,i64.wrap ((1:Int)+t2743.1)⟩:Z0y)].map Z0a),Z12 (c.map .im)=true,((x2723.map Z0a).length+([(⟨x2740,i64.wrap ((1:Int)+t2743.1)⟩:Z0y)].map Z0a).length)*16≤140737488355328] ⟨by exact rfl,by simp,by exact Z13 _ _ _ (fun _=>rfl),by exact Z16 _ _ (fun _=>rfl),by simpa using c2746,trivial⟩ ?_
      refine rO hP hn hm [] [(8,iV .i64 (i64.wrap (x2724+(1:Int))))] [0,1,4,5,6,8] [] [0,21,22,26] ?_
      exact LWp.conv [(0,0),(21,14),(22,15),(26,16)] [] [] (by kernel_rfl) (ih _ _ _ _ _ H)
    ·replace H:=iF c2732 H
     refine AWp.exit ?_
     obtain rfl:=sj H
     exact lf [(0,0),(17,27),(18,28),(19,29)] [] [] (by kernel_rfl) ⟨rfl,rfl⟩
  ·obtain⟨x2747,x2748,x2749⟩:=o2816
   rintro e s ⟨rfl,rfl⟩
   refine AWp.seq ?_
   refine AWp.seq ?_
   obtain⟨o2822,e2823,H⟩:=Z4 H
   refine AWp.mono (Q:=fun e s=>(match (generalizing:=false) o2822 with | x2808=>e = .normal∧s=⟨[(4,.ptr 30 0 0),(5,.ptr 31 0 0),(66,bV x2808)],[(0,some (.box 94 (Z3 ⟨a0_c0,x2747,x2748⟩))),(30,some (.box 52 [iV .i64 0,.none0])),(31,some (.box 52 [iV .i64 x2705,.own 32])),(32,some (.row 2 86 (x2749.map Z0a)))],1⟩)) (AWp.cv ?_) ?_
   ·replace H:=e2823;clear e2823
    obtain⟨t2802,e2803,H⟩:=Z4 H
    rcases Bool.eq_false_or_eq_true (x2748 != (0:Int)) with c2804 | c2804
    ·replace H:=iT c2804 H
     refine rG hP hn hm [(1,.call [(0,0)] [(0,0)] [] [] 1 (iV .i64 x2748) [(0,some (.box 94 (Z3 ⟨a0_c0,x2747,x2748⟩)))]),(3,.b true)] [(66,bV true)] [4,5,66] [] [0,27,28,29] [_,_,_] ⟨Try.call51,Z0d.ok a0_c0 x2747 x2748 t2802 e2803,c2804,trivial⟩ ?_
     obtain rfl:=sj H
     exact lf [(27,30),(28,31),(29,32),(0,0)] [] [] (by kernel_rfl) ⟨rfl,rfl⟩
    ·replace H:=iF c2804 H
     rcases Bool.eq_false_or_eq_true (decide (x2706<(0:Int))) with c2805 | c2805
     ·replace H:=iT c2805 H
      refine rG hP hn hm [(1,.call [(0,0)] [(0,0)] [] [] 1 (iV .i64 x2748) [(0,some (.box 94 (Z3 ⟨a0_c0,x2747,x2748⟩)))]),(3,.b false),(7,.b true)] [(66,bV true)] [4,5,66] [] [0,27,28,29] [_,_,_,_] ⟨Try.call51,Z0d.ok a0_c0 x2747 x2748 t2802 e2803,c2804,c2805,trivial⟩ ?_
      obtain rfl:=sj H
      exact lf [(27,30),(28,31),(29,32),(0,0)] [] [] (by kernel_rfl) ⟨rfl,rfl⟩
     ·replace H:=iF c2805 H
      obtain⟨t2806,e2807,H⟩:=Z4 H
      refine rG hP hn hm [(1,.call [(0,0)] [(0,0)] [] [] 1 (iV .i64 x2748) [(0,some (.box 94 (Z3 ⟨a0_c0,x2747,x2748⟩)))]),(3,.b false),(7,.b false),(10,.call [] [] [29] [] 0 (bV t2806) [])] [(66,bV (!t2806))] [4,5,66] [] [0,27,28,29] [_,_,_,_,_,_] ⟨Try.call51,Z0d.ok a0_c0 x2747 x2748 t2802 e2803,c2804,c2805,Try.call52,Z0n.ok (⟨x2705,x2749⟩:Z7) a1 t2806 e2807,trivial⟩ ?_
      obtain rfl:=sj H
      exact lf [(27,30),(28,31),(29,32),(0,0)] [] [] (by kernel_rfl) ⟨rfl,rfl⟩
   ·obtain⟨x2808,rfl⟩:∃ z,z=o2822:=⟨_,rfl⟩
    rintro e s ⟨rfl,rfl⟩
    refine AWp.cond x2808 (by kernel_rfl) (fun c2809 => ?_) (fun c2809 => ?_)
    ·replace H:=iT c2809 H
     refine sO hP hn hm [] [] [4] [] [0,30] ?_
     refine AWp.conv (inv:=[(0,0),(30,2)]) (vk:=[]) (e0:=[1]) (t:=⟨[(4,.ptr 2 0 0)],[(0,some (.box 94 (Z3 ⟨a0_c0,x2747,x2748⟩))),(1,some (.row 2 86 ((((⟨0,[]⟩:Z7)).f1).map Z0a))),(2,some (.box 52 [iV .i64 (((⟨0,[]⟩:Z7)).f0),.own 1]))],1⟩) (by kernel_rfl) ?_
     refine AWp.ret ?_
     obtain rfl:=sj H
     exact rl (.inl rfl) rfl (by kernel_rfl) (by kernel_rfl)
    ·replace H:=iF c2809 H
     refine AWp.skip ?_
     refine sO hP hn hm [] [] [4] [(30,some (.box 52 [iV .i64 x2705,.own 32]))] [0,30,32] ?_
     refine AWp.conv (inv:=[(0,0),(30,2),(32,1)]) (vk:=[]) (e0:=[]) (t:=⟨[(4,.ptr 2 0 0)],[(0,some (.box 94 (Z3 ⟨a0_c0,x2747,x2748⟩))),(1,some (.row 2 86 ((((⟨x2705,x2749⟩:Z7)).f1).map Z0a))),(2,some (.box 52 [iV .i64 (((⟨x2705,x2749⟩:Z7)).f0),.own 1]))],1⟩) (by kernel_rfl) ?_
     refine AWp.ret ?_
     obtain rfl:=sj H
     exact rl (.inl rfl) rfl (by kernel_rfl) (by kernel_rfl)
def Z0i.l0 (a1:List Int) (t2902:List Int) (x2930:List Z2) (x2931:Int):Option (List Z2):=if(decide (x2931<(t2902.length:Int)))=true then((at? t2902 x2931)>>=fun b2936=>((if(decide (x2931<(a1.length:Int)))=true then((at? a1 x2931)>>=fun b2944=>some (decide (b2944>(0:Int)))) else(some false)):Option (Bool))>>=fun x2947=>((if x2947=true then((at? a1 x2931)>>=fun b2953=>(chk ((x2930.length+[(⟨b2936,b2953⟩:Z2)].length)*16≤140737488355328))>>=fun _=>some (x2930++[(⟨b2936,b2953⟩:Z2)])) else(some x2930)):Option (List Z2))>>=fun x2957=>Z0i.l0 a1 t2902 x2957 (i64.wrap (x2931+(1:Int)))) else(some x2930)
partial_fixpoint
def Z0i.f (a0:Z7) (a1:List Int):Option (List Z2):=(Zl.f a0)>>=fun t2902=>(Z0i.l0 a1 t2902 [] 0)>>=fun x2958=>some x2958
theorem Z0i.ok (a0:Z7) (a1:List Int) (r:List Z2) (H:Z0i.f a0 a1=some r):Pv.Fn Try.prog 53 [.agg (Zb a0),.im (.row (a1.map (Z1 .u64)))] [] 0 (fun x o=>x = .own 0∧o=[(0,some (.row 2 78 (r.map Z0)))]):=by
 unfold Z0i.f at H
 refine Fn.bodyK [0] Try.func53 rfl rfl (fun Γ hP hn => ?_)
 have hm:Try.prog.follows .mixedOrders=true:=by kernel_rfl
 replace hn:Γ.n=38:=hn
 refine sO hP hn hm [(0,.k 0)] [(2,.ptr 0 0 0)] [1,2] [(0,some (.box 52 (Zb a0)))] [0] ?_
 refine sO hP hn hm [] [(5,.none0)] [1,2,5] [] [0] ?_
 refine AWp.seq ?_
 obtain⟨t2902,e2903,H⟩:=Z4 H
 refine sR hP hn hm [(1,.call [] [(0,1)] [] [1] 0 (.own 0) [(0,some (.row 1 3 (t2902.map (Z1 .i64))))]),(2,.any (iV .i64 (t2902.length:Int)))] [(9,.own 1),(10,iV .i64 (t2902.length:Int)),(11,iV .i64 0)] [1,5,9,10,11] [(1,some (.row 1 3 (t2902.map (Z1 .i64))))] [1] [_,_,((t2902.map (Z1 .i64)).length:Int)=(t2902.length:Int)] ⟨Try.call38,Zl.ok a0 t2902 e2903,by rw[Zv],trivial⟩ ?_
 refine AWp.block ?_
 obtain⟨o2959,e2960,H⟩:=Z4 H
 refine AWp.loop (LWp.conv (inv:=[(1,8)]) (vk:=[]) (e0:=[7]) (t:=⟨[(1,.im (.row (a1.map (Z1 .u64)))),(5,.own 7),(9,.own 8),(10,iV .i64 (t2902.length:Int)),(11,iV .i64 0)],[(7,some (.row 2 78 ([].map Z0))),(8,some (.row 1 3 (t2902.map (Z1 .i64))))],0⟩) (by kernel_rfl) ?_)
 refine LWp.mono (Q:=fun e s=>(match (generalizing:=false) o2959 with | x2958=>e = .exit 0∧s=⟨[(5,.own 15)],[(15,some (.row 2 78 (x2958.map Z0)))],0⟩)) (LWp.cv (Z07 (fun body hbody => ?_))) ?_
 ·refine            Z0i.l0.partial_correctness a1 t2902 (motive:=fun x2930 x2931 o2959=>LWp Γ body (fun e s=>∃ t,Cv Γ s t∧(match (generalizing:=false) o2959 with | x2958=>e = .exit 0∧t=⟨[(5,.own 15)],[(15,some (.row 2 78 (x2958.map Z0     )))],0⟩)) ⟨[(1,.im (.row (a1.map (Z1     .u64)))),(5,.own 7),(9,.own 8),(10,iV .i64 (t2902.length:Int)),(11,iV .i64 x2931)],[(7,some (.row 2 78 (x2930.map Z0     ))),(8,some (.row 1 3 (t2902.map (Z1     .i64))))],0⟩) ?_ _ _ _ e2960
  clear H e2960 o2959;intro self ih x2930 x2931 o2959 H
  subst hbody
  refine LWp.round ?_
  refine sO hP hn hm [] [(12,bV (decide (x2931<(t2902.length:Int))))] [1,5,9,10,11,12] [] [7,8] ?_
  refine AWp.seq ?_
  refine AWp.cond (decide (x2931<(t2902.length:Int))) (by kernel_rfl) (fun c2932 => ?_) (fun c2932 => ?_)
  ·replace H:=iT c2932 H
   refine AWp.skip ?_
   refine AWp.seq ?_
   refine AWp.block ?_
   obtain⟨b2936,p2937,q2938,H⟩:=Z0q H
   refine sR hP hn hm [(2,.c ((Z1 .i64) b2936))] [(6,iV .i64 x2931),(7,iV .i64 b2936)] [1,5,6,7,9,10,11] [] [7,8] [_,_,_] ⟨p2937,Z1m (Z1 .i64) p2937 q2938,Zu (Z1 .i64) q2938,trivial⟩ ?_
   refine AWp.seq ?_
   obtain⟨o2961,e2962,H⟩:=Z4 H
   refine AWp.mono (Q:=fun e s=>(match (generalizing:=false) o2961 with | x2947=>e = .normal∧s=⟨[(1,.im (.row (a1.map (Z1 .u64)))),(5,.own 9),(6,iV .i64 x2931),(7,iV .i64 b2936),(9,.own 10),(10,iV .i64 (t2902.length:Int)),(11,iV .i64 x2931),(26,bV x2947)],[(9,some (.row 2 78 (x2930.map Z0))),(10,some (.row 1 3 (t2902.map (Z1 .i64))))],0⟩)) (AWp.cv ?_) ?_
   ·replace H:=e2962;clear e2962
    rcases Bool.eq_false_or_eq_true (decide (x2931<(a1.length:Int))) with c2943 | c2943
    ·replace H:=iT c2943 H
     obtain⟨b2944,p2945,q2946,H⟩:=Z0q H
     refine rG hP hn hm [(2,.any (iV .i64 (a1.length:Int))),(4,.b true),(7,.c ((Z1 .u64) b2944))] [(21,.im (.row (a1.map (Z1 .u64)))),(22,iV .i64 x2931),(23,.ip [iI .u64 b2944]),(24,iV .u64 b2944),(25,bV (decide (b2944>(0:Int)))),(26,bV (decide (b2944>(0:Int))))] [1,5,6,7,9,10,11,21,22,23,24,25,26] [] [7,8] [((a1.map (Z1 .u64)).length:Int)=(a1.length:Int),_,_,_] ⟨by rw[Zv],c2943,p2945,Zu (Z1 .u64) q2946,trivial⟩ ?_
     obtain rfl:=sj H
     exact lf [(7,9),(8,10)] [] [] (by kernel_rfl) ⟨rfl,rfl⟩
    ·replace H:=iF c2943 H
     refine rG hP hn hm [(2,.any (iV .i64 (a1.length:Int))),(4,.b false)] [(26,bV false)] [1,5,6,7,9,10,11,26] [] [7,8] [((a1.map (Z1 .u64)).length:Int)=(a1.length:Int),_] ⟨by rw[Zv],c2943,trivial⟩ ?_
     obtain rfl:=sj H
     exact lf [(7,9),(8,10)] [] [] (by kernel_rfl) ⟨rfl,rfl⟩
   ·obtain⟨x2947,rfl⟩:∃ z,z=o2961:=⟨_,rfl⟩
    rintro e s ⟨rfl,rfl⟩
    obtain⟨o2963,e2964,H⟩:=Z4 H
    refine AWp.mono (Q:=fun e s=>(match (generalizing:=false) o2963 with | x2957=>e = .normal∧s=⟨[(1,.im (.row (a1.map (Z1 .u64)))),(5,.own 13),(9,.own 14),(10,iV .i64 (t2902.length:Int)),(11,iV .i64 x2931)],[(13,some (.row 2 78 (x2957.map Z0))),(14,some (.row 1 3 (t2902.map (Z1 .i64))))],0⟩)) (AWp.cv ?_) ?_
    ·replace H:=e2964;clear e2964
     refine AWp.cond x2947 (by kernel_rfl) (fun c2948 => ?_) (fun c2948 => ?_)
     ·replace H:=iT c2948 H
      obtain⟨b2953,p2954,q2955,H⟩:=Z0q H
      obtain⟨c2956,H⟩:=Z17 H
      refine rG hP hn hm [(4,.c ((Z1 .u64) b2953)),(7,.app 11 ([(⟨b2936,b2953⟩:Z2)].map Z0)),(8,.app 12 ((x2930++[(⟨b2936,b2953⟩:Z2)]).map Z0))] [(5,.own 12)] [1,5,9,10,11] [(12,some (.row 2 78 ((x2930++[(⟨b2936,b2953⟩:Z2)]).map Z0)))] [10,12] [_,_,[(⟨b2936,b2953⟩:Z2)].map Z0=[[iI .i64 b2936,iI .u64 b2953]],(x2930++[(⟨b2936,b2953⟩:Z2)]).map Z0=(x2930.map Z0)++([(⟨b2936,b2953⟩:Z2)].map Z0),∀ c∈([(⟨b2936,b2953⟩:Z2)].map Z0),c.length=2,∀ c∈([(⟨b2936,b2953⟩:Z2)].map Z0),Z12 (c.map .im)=true,((x2930.map Z0).length+([(⟨b2936,b2953⟩:Z2)].map Z0).length)*16≤140737488355328] ⟨p2954,Zu (Z1 .u64) q2955,by exact rfl,by simp,by exact Z13 _ _ _ (fun _=>rfl),by exact Z16 _ _ (fun _=>rfl),by simpa using c2956,trivial⟩ ?_
      obtain rfl:=sj H
      exact lf [(12,13),(10,14)] [] [] (by kernel_rfl) ⟨rfl,rfl⟩
     ·replace H:=iF c2948 H
      refine AWp.skip ?_
      obtain rfl:=sj H
      exact lf [(9,13),(10,14)] [] [] (by kernel_rfl) ⟨rfl,rfl⟩
    ·obtain⟨x2957,rfl⟩:∃ z,z=o2963:=⟨_,rfl⟩
     rintro e s ⟨rfl,rfl⟩
     refine rO hP hn hm [] [(11,iV .i64 (i64.wrap (x2931+(1:Int))))] [1,5,9,10,11] [] [13,14] ?_
     exact LWp.conv [(13,7),(14,8)] [] [] (by kernel_rfl) (ih _ _ _ H)
  ·replace H:=iF c2932 H
   refine AWp.exit ?_
   obtain rfl:=sj H
   exact lf [(7,15)] [] [] (by kernel_rfl) ⟨rfl,rfl⟩
 ·obtain⟨x2958,rfl⟩:∃ z,z=o2959:=⟨_,rfl⟩
  rintro e s ⟨rfl,rfl⟩
  refine sO hP hn hm [] [(4,.own 15)] [4] [] [15] ?_
  refine AWp.conv (inv:=[(15,0)]) (vk:=[]) (e0:=[]) (t:=⟨[(4,.own 0)],[(0,some (.row 2 78 (x2958.map Z0)))],0⟩) (by kernel_rfl) ?_
  refine AWp.ret ?_
  obtain rfl:=sj H
  exact rl (.inl rfl) rfl (by kernel_rfl) (by kernel_rfl)
def Ze.l1 (a0_c0:List Int) (a1:Zp) (a2:Z7) (a3:Z7) (t2834:Int×Int×Int) (t2838:List Int) (t2842:List Int) (x3194:Int) (x3196:List Zh) (x3197:Int) (x3225:Int) (x3291:Int) (x3292:Int) (x3293:List Int) (x3294:List Int) (x3295:Int):Option (Int×Int×(List Int)×(List Int)):=if(decide (x3295<(i64.wrap ((i64.wrap ((2:Int)+(t2838.length:Int)))+(t2842.length:Int)))))=true then(((if(x3197==(0:Int))=true then((Zf.f a0_c0 x3291 x3292)>>=fun t3303=>(at? x3293 x3295)>>=fun b3305=>some (t3303.2.1,t3303.2.2,x3293.set (Int.toNat (x3295)) t3303.1,x3294)) else(((if(x3197==(1:Int))=true then((Zs.f a0_c0 x3291 x3292)>>=fun t3314=>(at? x3294 x3295)>>=fun b3316=>(at? x3293 x3295)>>=fun b3325=>(at? (x3294.set (Int.toNat (x3295)) (u64.wrap (t3314.1))) x3295)>>=fun b3328=>some (t3314.2.1,t3314.2.2,x3293.set (Int.toNat (x3295)) (u64.wrap (b3325+b3328)),x3294.set (Int.toNat (x3295)) (u64.wrap (t3314.1)))) else((at? x3294 x3295)>>=fun b3336=>(Zs.f a0_c0 x3291 x3292)>>=fun t3339=>(at? x3293 x3295)>>=fun b3347=>(at? (x3294.set (Int.toNat (x3295)) (u64.wrap (b3336+(u64.wrap (t3339.1))))) x3295)>>=fun b3350=>some (t3339.2.1,t3339.2.2,x3293.set (Int.toNat (x3295)) (u64.wrap (b3347+b3350)),x3294.set (Int.toNat (x3295)) (u64.wrap (b3336+(u64.wrap (t3339.1))))))):Option (Int×Int×(List Int)×(List Int)))>>=fun oo=>match oo with | (x3353,x3354,x3355,x3356)=>(some (x3353,x3354,x3355,x3356)))):Option (Int×Int×(List Int)×(List Int)))>>=fun oo=>match oo with | (x3357,x3358,x3359,x3360)=>(Ze.l1 a0_c0 a1 a2 a3 t2834 t2838 t2842 x3194 x3196 x3197 x3225 x3357 x3358 x3359 x3360 (i64.wrap (x3295+(1:Int))))) else(some (x3291,x3292,x3293,x3294))
partial_fixpoint
def Ze.l0 (a0_c0:List Int) (a1:Zp) (a2:Z7) (a3:Z7) (t2834:Int×Int×Int) (t2838:List Int) (t2842:List Int) (v:Int×Int×(List Int)×(List Int)×Int×Int×(List Zh)×Int):Option ((List Zh)×Int×Int):=match v with
 | (x3190,x3191,x3192,x3193,x3194,x3195,x3196,x3197)=>((if(decide (x3197<(i64.wrap ((1:Int)+t2834.1))))=true then((Z0d.f a0_c0 x3190 x3191)>>=fun t3202=>some (x3191==(0:Int))) else(some false)):Option (Bool))>>=fun x3204=>if x3204=true then(((if(x3197==(0:Int))=true then((Za.f a0_c0 x3190 x3191 1099511627776)>>=fun t3209=>some (t3209.2.1,t3209.2.2,t3209.1)) else(((if(x3197==(1:Int))=true then((Za.f a0_c0 x3190 x3191 1099511627776)>>=fun t3214=>some (t3214.2.1,t3214.2.2,i64.wrap ((i64.wrap (x3194+(1:Int)))+t3214.1))) else((Zs.f a0_c0 x3190 x3191)>>=fun t3218=>some (t3218.2.1,t3218.2.2,i64.wrap ((i64.wrap (x3194+x3195))+t3218.1)))):Option (Int×Int×Int))>>=fun oo=>match oo with | (x3220,x3221,x3222)=>(some (x3220,x3221,x3222)))):Option (Int×Int×Int))>>=fun oo=>match oo with | (x3223,x3224,x3225)=>((Ze.l1 a0_c0 a1 a2 a3 t2834 t2838 t2842 x3194 x3196 x3197 x3225 x3223 x3224 x3192 x3193 0)>>=fun oo=>match oo with | (x3361,x3362,x3363,x3364)=>((at? x3363 0)>>=fun b3371=>(at? x3363 1)>>=fun b3374=>(chk (0≤(2:Int)∧(2:Int)≤(i64.wrap ((2:Int)+(t2838.length:Int)))∧(i64.wrap ((2:Int)+(t2838.length:Int)))≤(x3363.length:Int)))>>=fun _=>(Z0i.f a2 ((x3363.drop (Int.toNat (2:Int))).take (Int.toNat (i64.wrap ((2:Int)+(t2838.length:Int)))-Int.toNat (2:Int))))>>=fun t3384=>(chk (0≤(i64.wrap ((2:Int)+(t2838.length:Int)))∧(i64.wrap ((2:Int)+(t2838.length:Int)))≤(x3363.length:Int)∧(x3363.length:Int)≤(x3363.length:Int)))>>=fun _=>(Z0i.f a3 ((x3363.drop (Int.toNat (i64.wrap ((2:Int)+(t2838.length:Int))))).take (Int.toNat (x3363.length:Int)-Int.toNat (i64.wrap ((2:Int)+(t2838.length:Int))))))>>=fun t3387=>(Z0r.f (⟨a1.f0,a1.f1,a1.f2,b3371,a1.f4,i64.wrap (b3374),t3384,t3387⟩:Zp) t3384 t3387)>>=fun t3393=>(chk ((x3196.length+[(⟨x3225,(t3393.1)⟩:Zh)].length)*104≤140737488355328))>>=fun _=>Ze.l0 a0_c0 a1 a2 a3 t2834 t2838 t2842 (x3361,x3362,x3363,x3364,x3225,i64.wrap (x3225-x3194),x3196++[(⟨x3225,(t3393.1)⟩:Zh)],i64.wrap (x3197+(1:Int)))))) else(some (x3196,x3190,x3191))
partial_fixpoint
def Ze.f (a0_c0:List Int) (a0_c1:Int) (a0_c2:Int) (a1:Zp) (a2:Z7) (a3:Z7):Option ((List Zh)×Int×Int):=(Za.f a0_c0 a0_c1 a0_c2 31)>>=fun t2834=>(Zl.f a2)>>=fun t2838=>(Zl.f a3)>>=fun t2842=>(chk (0≤(i64.wrap ((i64.wrap ((2:Int)+(t2838.length:Int)))+(t2842.length:Int)))∧(i64.wrap ((i64.wrap ((2:Int)+(t2838.length:Int)))+(t2842.length:Int)))≤(i64.wrap ((i64.wrap ((2:Int)+(t2838.length:Int)))+(t2842.length:Int)))∧((8:Nat):Int)*(i64.wrap ((i64.wrap ((2:Int)+(t2838.length:Int)))+(t2842.length:Int)))≤281474976710656∧(i64.wrap ((i64.wrap ((2:Int)+(t2838.length:Int)))+(t2842.length:Int)))≤9223372036854775807))>>=fun _=>(Ze.l0 a0_c0 a1 a2 a3 t2834 t2838 t2842 (t2834.2.1,t2834.2.2,List.replicate (Int.toNat (i64.wrap ((i64.wrap ((2:Int)+(t2838.length:Int)))+(t2842.length:Int)))) 0,List.replicate (Int.toNat (i64.wrap ((i64.wrap ((2:Int)+(t2838.length:Int)))+(t2842.length:Int)))) 0,0,0,[],0))>>=fun oo=>match oo with | (x3397,x3398,x3399)=>(some (x3397,x3398,x3399))
theorem Ze.ok (a0_c0:List Int) (a0_c1:Int) (a0_c2:Int) (a1:Zp) (a2:Z7) (a3:Z7) (r:(List Zh)×Int×Int) (H:Ze.f a0_c0 a0_c1 a0_c2 a1 a2 a3=some r):Pv.Fn Try.prog 28 [.ptr 0 0 0,.agg (Zx a1),.agg (Zb a2),.agg (Zb a3)] [(0,some (.box 94 (Z3 ⟨a0_c0,a0_c1,a0_c2⟩)))] 1 (fun x o=>x = .own 1∧o=[(0,some (.box 94 (Z3 ⟨a0_c0,r.2.1,r.2.2⟩))),(1,some (.row 9 38 (r.1.map Zc)))]):=by
 unfold Ze.f at H
 refine Fn.bodyK [0,1] Try.func28 rfl rfl (fun Γ hP hn => ?_)
 have hm:Try.prog.follows .mixedOrders=true:=by kernel_rfl
 replace hn:Γ.n=167:=hn
 refine sO hP hn hm [(0,.k 1),(1,.k 2),(2,.k 3)] [(5,.ptr 1 0 0),(6,.ptr 2 0 0),(7,.ptr 3 0 0)] [0,5,6,7] [(1,some (.box 36 (Zx a1))),(2,some (.box 52 (Zb a2))),(3,some (.box 52 (Zb a3)))] [0,1,2,3] ?_
 obtain⟨t2834,e2835,H⟩:=Z4 H
 refine sR hP hn hm [(1,.call [(0,0)] [(0,0)] [] [] 1 (iV .i64 t2834.1) [(0,some (.box 94 (Z3 ⟨a0_c0,t2834.2.1,t2834.2.2⟩)))])] [(9,iV .i64 (i64.wrap ((1:Int)+t2834.1)))] [0,5,6,7,9] [(0,some (.box 94 (Z3 ⟨a0_c0,t2834.2.1,t2834.2.2⟩)))] [0,1,2,3] [_,_] ⟨Try.call50,Za.ok a0_c0 a0_c1 a0_c2 31 t2834 e2835,trivial⟩ ?_
 obtain⟨t2838,e2839,H⟩:=Z4 H
 refine sR hP hn hm [(1,.call [] [(0,4)] [] [4] 0 (.own 0) [(0,some (.row 1 3 (t2838.map (Z1 .i64))))]),(2,.any (iV .i64 (t2838.length:Int)))] [(10,iV .i64 (t2838.length:Int))] [0,5,6,7,9,10] [] [0,1,2,3] [_,_,((t2838.map (Z1 .i64)).length:Int)=(t2838.length:Int)] ⟨Try.call38,Zl.ok a2 t2838 e2839,by rw[Zv],trivial⟩ ?_
 obtain⟨t2842,e2843,H⟩:=Z4 H
 refine sR hP hn hm [(3,.call [] [(0,5)] [] [5] 0 (.own 0) [(0,some (.row 1 3 (t2842.map (Z1 .i64))))]),(4,.any (iV .i64 (t2842.length:Int)))] [(11,iV .i64 (i64.wrap ((i64.wrap ((2:Int)+(t2838.length:Int)))+(t2842.length:Int))))] [0,5,6,7,9,10,11] [] [0,1,2,3] [_,_,((t2842.map (Z1 .i64)).length:Int)=(t2842.length:Int)] ⟨Try.call38,Zl.ok a3 t2842 e2843,by rw[Zv],trivial⟩ ?_
 obtain⟨c2845,H⟩:=Z17 H
 refine sR hP hn hm [(1,.more (xMake 6 ((List.replicate (Int.toNat (i64.wrap ((i64.wrap ((2:Int)+(t2838.length:Int)))+(t2842.length:Int)))) 0).map (Z1 .u64)))),(3,.more (xMake 7 ((List.replicate (Int.toNat (i64.wrap ((i64.wrap ((2:Int)+(t2838.length:Int)))+(t2842.length:Int)))) 0).map (Z1 .u64))))] [(12,.own 6),(13,.own 7)] [0,5,6,7,9,10,11,12,13] [(6,some (.row 1 33 ((List.replicate (Int.toNat (i64.wrap ((i64.wrap ((2:Int)+(t2838.length:Int)))+(t2842.length:Int)))) 0).map (Z1 .u64)))),(7,some (.row 1 33 ((List.replicate (Int.toNat (i64.wrap ((i64.wrap ((2:Int)+(t2838.length:Int)))+(t2842.length:Int)))) 0).map (Z1 .u64))))] [0,1,2,3,6,7] [(List.replicate (Int.toNat (i64.wrap ((i64.wrap ((2:Int)+(t2838.length:Int)))+(t2842.length:Int)))) 0).map (Z1 .u64)=List.replicate (Int.toNat (i64.wrap ((i64.wrap ((2:Int)+(t2838.length:Int)))+(t2842.length:Int)))) [iI .u64 0],0≤(i64.wrap ((i64.wrap ((2:Int)+(t2838.length:Int)))+(t2842.length:Int))),(i64.wrap ((i64.wrap ((2:Int)+(t2838.length:Int)))+(t2842.length:Int)))≤(i64.wrap ((i64.wrap ((2:Int)+(t2838.length:Int)))+(t2842.length:Int))),((8:Nat):Int)*(i64.wrap ((i64.wrap ((2:Int)+(t2838.length:Int)))+(t2842.length:Int)))≤281474976710656,(i64.wrap ((i64.wrap ((2:Int)+(t2838.length:Int)))+(t2842.length:Int)))≤9223372036854775807,(List.replicate (Int.toNat (i64.wrap ((i64.wrap ((2:Int)+(t2838.length:Int)))+(t2842.length:Int)))) 0).map (Z1 .u64)=List.replicate (Int.toNat (i64.wrap ((i64.wrap ((2:Int)+(t2838.length:Int)))+(t2842.length:Int)))) [iI .u64 0],0≤(i64.wrap ((i64.wrap ((2:Int)+(t2838.length:Int)))+(t2842.length:Int))),(i64.wrap ((i64.wrap ((2:Int)+(t2838.length:Int)))+(t2842.length:Int)))≤(i64.wrap ((i64.wrap ((2:Int)+(t2838.length:Int)))+(t2842.length:Int))),((8:Nat):Int)*(i64.wrap ((i64.wrap ((2:Int)+(t2838.length:Int)))+(t2842.length:Int)))≤281474976710656,(i64.wrap ((i64.wrap ((2:Int)+(t2838.length:Int)))+(t2842.length:Int)))≤9223372036854775807] ⟨by simp,by exact c2845.1,by exact c2845.2.1,by exact c2845.2.2.1,by exact c2845.2.2.2,by simp,by exact c2845.1,by exact c2845.2.1,by exact c2845.2.2.1,by exact c2845.2.2.2,trivial⟩ ?_
 refine sO hP hn hm [] [(14,iV .i64 0),(15,iV .i64 0)] [0,5,6,7,9,10,11,12,13,14,15] [] [0,1,2,3,6,7] ?_
 refine sO hP hn hm [] [(16,.none0)] [0,5,6,7,9,10,11,12,13,14,15,16] [] [0,1,2,3,6,7] ?_
 refine AWp.seq ?_
 refine sO hP hn hm [] [(17,iV .i64 0)] [0,5,6,7,9,10,11,12,13,14,15,16,17] [] [0,1,2,3,6,7] ?_
 refine AWp.block ?_
 obtain⟨o3400,e3401,H⟩:=Z4 H
 refine AWp.loop (LWp.conv (inv:=[(0,0),(1,93),(2,94),(3,95),(6,96),(7,97)]) (vk:=[]) (e0:=[98]) (t:=⟨[(0,.ptr 0 0 0),(5,.ptr 93 0 0),(6,.ptr 94 0 0),(7,.ptr 95 0 0),(9,iV .i64 (i64.wrap ((1:Int)+t2834.1))),(10,iV .i64 (t2838.length:Int)),(11,iV .i64 (i64.wrap ((i64.wrap ((2:Int)+(t2838.length:Int)))+(t2842.length:Int)))),(12,.own 96),(13,.own 97),(14,iV .i64 0),(15,iV .i64 0),(16,.own 98),(17,iV .i64 0)],[(0,some (.box 94 (Z3 ⟨a0_c0,t2834.2.1,t2834.2.2⟩))),(93,some (.box 36 (Zx a1))),(94,some (.box 52 (Zb a2))),(95,some (.box 52 (Zb a3))),(96,some (.row 1 33 ((List.replicate (Int.toNat (i64.wrap ((i64.wrap ((2:Int)+(t2838.length:Int)))+(t2842.length:Int)))) 0).map (Z1 .u64)))),(97,some (.row 1 33 ((List.replicate (Int.toNat (i64.wrap ((i64.wrap ((2:Int)+(t2838.length:Int)))+(t2842.length:Int)))) 0).map (Z1 .u64)))),(98,some (.row 9 38 ([].map Zc)))],1⟩) (by kernel_rfl) ?_)
 refine LWp.mono (Q:=fun e s=>(match (generalizing:=false) o3400 with | (x3397,x3398,x3399)=>e = .exit 0∧s=⟨[(16,.own 158)],[(0,some (.box 94 (Z3 ⟨a0_c0,x3398,x3399⟩))),(158,some (.row 9 38 (x3397.map Zc)))],1⟩)) (LWp.cv (Z07 (fun body hbody => ?_))) ?_
 ·refine                  Ze.l0.partial_correctness a0_c0 a1 a2 a3 t2834 t2838 t2842 (motive:=fun v o3400=>(match (generalizing:=false) v with | (x3190,x3191,x3192,x3193,x3194,x3195,x3196,x3197)=>LWp Γ body (fun e s=>∃ t,Cv Γ s t∧(match (generalizing:=false) o3400 with | (x3397,x3398,x3399)=>e = .exit 0∧t=⟨[(16,.own 158)],[(0,some (.box 94 (Z3           ⟨a0_c0,x3398,x3399⟩))),(158,some (.row 9 38 (x3397.map Zc     )))],1⟩)) ⟨[(0,.ptr 0 0 0),(5,.ptr 93 0 0),(6,.ptr 94 0 0),(7,.ptr 95 0 0),(9,iV .i64 (i64.wrap ((1:Int)+t2834.1))),(10,iV .i64 (t2838.length:Int)),(11,iV .i64 (i64.wrap ((i64.wrap ((2:Int)+(t2838.length:Int)))+(t2842.length:Int)))),(12,.own 96),(13,.own 97),(14,iV .i64 x3194),(15,iV .i64 x3195),(16,.own 98),(17,iV .i64 x3197)],[(0,some (.box 94 (Z3           ⟨a0_c0,x3190,x3191⟩))),(93,some (.box 36 (Zx    a1))),(94,some (.box 52 (Zb           a2))),(95,some (.box 52 (Zb           a3))),(96,some (.row 1 33 (x3192.map (Z1     .u64)))),(97,some (.row 1 33 (x3193.map (Z1     .u64)))),(98,some (.row 9 38 (x3196.map Zc     )))],1⟩)) ?_ _ _ e3401
  clear H e3401 o3400;intro self ih v o3400 H
  obtain⟨x3190,x3191,x3192,x3193,x3194,x3195,x3196,x3197⟩:=v
  dsimp only at H
  subst hbody
  refine LWp.round ?_
  refine AWp.seq ?_
  refine AWp.seq ?_
  obtain⟨o3402,e3403,H⟩:=Z4 H
  refine AWp.mono (Q:=fun e s=>(match (generalizing:=false) o3402 with | x3204=>e = .normal∧s=⟨[(0,.ptr 0 0 0),(5,.ptr 99 0 0),(6,.ptr 100 0 0),(7,.ptr 101 0 0),(9,iV .i64 (i64.wrap ((1:Int)+t2834.1))),(10,iV .i64 (t2838.length:Int)),(11,iV .i64 (i64.wrap ((i64.wrap ((2:Int)+(t2838.length:Int)))+(t2842.length:Int)))),(12,.own 102),(13,.own 103),(14,iV .i64 x3194),(15,iV .i64 x3195),(16,.own 104),(17,iV .i64 x3197),(44,bV x3204)],[(0,some (.box 94 (Z3 ⟨a0_c0,x3190,x3191⟩))),(99,some (.box 36 (Zx a1))),(100,some (.box 52 (Zb a2))),(101,some (.box 52 (Zb a3))),(102,some (.row 1 33 (x3192.map (Z1 .u64)))),(103,some (.row 1 33 (x3193.map (Z1 .u64)))),(104,some (.row 9 38 (x3196.map Zc)))],1⟩)) (AWp.cv ?_) ?_
  ·replace H:=e3403;clear e3403
   rcases Bool.eq_false_or_eq_true (decide (x3197<(i64.wrap ((1:Int)+t2834.1)))) with c3201 | c3201
   ·replace H:=iT c3201 H
    obtain⟨t3202,e3203,H⟩:=Z4 H
    refine rG hP hn hm [(3,.b true),(5,.call [(0,0)] [(0,0)] [] [] 1 (iV .i64 x3191) [(0,some (.box 94 (Z3 ⟨a0_c0,x3190,x3191⟩)))])] [(41,.ptr 0 0 0),(42,iV .i64 x3191),(43,bV (x3191==(0:Int))),(44,bV (x3191==(0:Int)))] [0,5,6,7,9,10,11,12,13,14,15,16,17,41,42,43,44] [] [0,93,94,95,96,97,98] [_,_,_] ⟨c3201,Try.call51,Z0d.ok a0_c0 x3190 x3191 t3202 e3203,trivial⟩ ?_
    obtain rfl:=sj H
    exact lf [(0,0),(93,99),(94,100),(95,101),(96,102),(97,103),(98,104)] [] [] (by kernel_rfl) ⟨rfl,rfl⟩
   ·replace H:=iF c3201 H
    refine rG hP hn hm [(3,.b false)] [(44,bV false)] [0,5,6,7,9,10,11,12,13,14,15,16,17,44] [] [0,93,94,95,96,97,98] [_] ⟨c3201,trivial⟩ ?_
    obtain rfl:=sj H
    exact lf [(0,0),(93,99),(94,100),(95,101),(96,102),(97,103),(98,104)] [] [] (by kernel_rfl) ⟨rfl,rfl⟩
  ·obtain⟨x3204,rfl⟩:∃ z,z=o3402:=⟨_,rfl⟩
   rintro e s ⟨rfl,rfl⟩
   refine AWp.cond x3204 (by kernel_rfl) (fun c3205 => ?_) (fun c3205 => ?_)
   ·replace H:=iT c3205 H
    refine AWp.skip ?_
    refine AWp.seq ?_
    refine AWp.block ?_
    refine sO hP hn hm [] [] [0,5,6,7,9,10,11,12,13,14,15,16,17] [] [0,99,100,101,102,103,104] ?_
    refine AWp.seq ?_
    refine sO hP hn hm [] [(47,iV .i64 x3197)] [0,5,6,7,9,10,11,12,13,14,15,16,17,47] [] [0,99,100,101,102,103,104] ?_
    refine AWp.block ?_
    refine sO hP hn hm [] [(54,bV (x3197==(0:Int)))] [0,5,6,7,9,10,11,12,13,14,15,16,17,47,54] [] [0,99,100,101,102,103,104] ?_
    obtain⟨o3404,e3405,H⟩:=Z4 H
    refine AWp.mono (Q:=fun e s=>(match (generalizing:=false) o3404 with | (x3223,x3224,x3225)=>e = .normal∧s=⟨[(0,.ptr 0 0 0),(5,.ptr 111 0 0),(6,.ptr 112 0 0),(7,.ptr 113 0 0),(9,iV .i64 (i64.wrap ((1:Int)+t2834.1))),(10,iV .i64 (t2838.length:Int)),(11,iV .i64 (i64.wrap ((i64.wrap ((2:Int)+(t2838.length:Int)))+(t2842.length:Int)))),(12,.own 114),(13,.own 115),(14,iV .i64 x3194),(16,.own 116),(17,iV .i64 x3197),(18,iV .i64 x3225)],[(0,some (.box 94 (Z3 ⟨a0_c0,x3223,x3224⟩))),(111,some (.box 36 (Zx a1))),(112,some (.box 52 (Zb a2))),(113,some (.box 52 (Zb a3))),(114,some (.row 1 33 (x3192.map (Z1 .u64)))),(115,some (.row 1 33 (x3193.map (Z1 .u64)))),(116,some (.row 9 38 (x3196.map Zc)))],1⟩)) (AWp.cv ?_) ?_
    ·replace H:=e3405;clear e3405
     refine AWp.cond (x3197==(0:Int)) (by kernel_rfl) (fun c3206 => ?_) (fun c3206 => ?_)
     ·replace H:=iT c3206 H
      obtain⟨t3209,e3210,H⟩:=Z4 H
      refine rG hP hn hm [(1,.call [(0,0)] [(0,0)] [] [] 1 (iV .i64 t3209.1) [(0,some (.box 94 (Z3 ⟨a0_c0,t3209.2.1,t3209.2.2⟩)))])] [(18,iV .i64 t3209.1)] [0,5,6,7,9,10,11,12,13,14,16,17,18] [(0,some (.box 94 (Z3 ⟨a0_c0,t3209.2.1,t3209.2.2⟩)))] [0,99,100,101,102,103,104] [_,_] ⟨Try.call50,Za.ok a0_c0 x3190 x3191 1099511627776 t3209 e3210,trivial⟩ ?_
      obtain rfl:=sj H
      exact lf [(0,0),(99,111),(100,112),(101,113),(102,114),(103,115),(104,116)] [] [] (by kernel_rfl) ⟨rfl,rfl⟩
     ·replace H:=iF c3206 H
      refine sO hP hn hm [] [(58,bV (x3197==(1:Int)))] [0,5,6,7,9,10,11,12,13,14,15,16,17,58] [] [0,99,100,101,102,103,104] ?_
      obtain⟨o3406,e3407,H⟩:=Z4 H
      refine AWp.mono (Q:=fun e s=>(match (generalizing:=false) o3406 with | (x3220,x3221,x3222)=>e = .normal∧s=⟨[(0,.ptr 0 0 0),(5,.ptr 105 0 0),(6,.ptr 106 0 0),(7,.ptr 107 0 0),(9,iV .i64 (i64.wrap ((1:Int)+t2834.1))),(10,iV .i64 (t2838.length:Int)),(11,iV .i64 (i64.wrap ((i64.wrap ((2:Int)+(t2838.length:Int)))+(t2842.length:Int)))),(12,.own 108),(13,.own 109),(14,iV .i64 x3194),(16,.own 110),(17,iV .i64 x3197),(18,iV .i64 x3222)],[(0,some (.box 94 (Z3 ⟨a0_c0,x3220,x3221⟩))),(105,some (.box 36 (Zx a1))),(106,some (.box 52 (Zb a2))),(107,some (.box 52 (Zb a3))),(108,some (.row 1 33 (x3192.map (Z1 .u64)))),(109,some (.row 1 33 (x3193.map (Z1 .u64)))),(110,some (.row 9 38 (x3196.map Zc)))],1⟩)) (AWp.cv ?_) ?_
      ·replace H:=e3407;clear e3407
       refine AWp.cond (x3197==(1:Int)) (by kernel_rfl) (fun c3211 => ?_) (fun c3211 => ?_)
       ·replace H:=iT c3211 H
        obtain⟨t3214,e3215,H⟩:=Z4 H
        refine rG hP hn hm [(3,.call [(0,0)] [(0,0)] [] [] 1 (iV .i64 t3214.1) [(0,some (.box 94 (Z3 ⟨a0_c0,t3214.2.1,t3214.2.2⟩)))])] [(18,iV .i64 (i64.wrap ((i64.wrap (x3194+(1:Int)))+t3214.1)))] [0,5,6,7,9,10,11,12,13,14,16,17,18] [(0,some (.box 94 (Z3 ⟨a0_c0,t3214.2.1,t3214.2.2⟩)))] [0,99,100,101,102,103,104] [_,_] ⟨Try.call50,Za.ok a0_c0 x3190 x3191 1099511627776 t3214 e3215,trivial⟩ ?_
        obtain rfl:=sj H
        exact lf [(0,0),(99,105),(100,106),(101,107),(102,108),(103,109),(104,110)] [] [] (by kernel_rfl) ⟨rfl,rfl⟩
       ·replace H:=iF c3211 H
        obtain⟨t3218,e3219,H⟩:=Z4 H
        refine rG hP hn hm [(4,.call [(0,0)] [(0,0)] [] [] 1 (iV .i64 t3218.1) [(0,some (.box 94 (Z3 ⟨a0_c0,t3218.2.1,t3218.2.2⟩)))])] [(18,iV .i64 (i64.wrap ((i64.wrap (x3194+x3195))+t3218.1)))] [0,5,6,7,9,10,11,12,13,14,16,17,18] [(0,some (.box 94 (Z3 ⟨a0_c0,t3218.2.1,t3218.2.2⟩)))] [0,99,100,101,102,103,104] [_,_] ⟨Try.call26,Zs.ok a0_c0 x3190 x3191 t3218 e3219,trivial⟩ ?_
        obtain rfl:=sj H
        exact lf [(0,0),(99,105),(100,106),(101,107),(102,108),(103,109),(104,110)] [] [] (by kernel_rfl) ⟨rfl,rfl⟩
      ·obtain⟨x3220,x3221,x3222⟩:=o3406
       rintro e s ⟨rfl,rfl⟩
       obtain rfl:=sj H
       exact lf [(0,0),(105,111),(106,112),(107,113),(108,114),(109,115),(110,116)] [] [] (by kernel_rfl) ⟨rfl,rfl⟩
    ·obtain⟨x3223,x3224,x3225⟩:=o3404
     rintro e s ⟨rfl,rfl⟩
     refine sO hP hn hm [] [(14,iV .i64 x3225),(15,iV .i64 (i64.wrap (x3225-x3194)))] [0,5,6,7,9,10,11,12,13,14,15,16,17,18] [] [0,111,112,113,114,115,116] ?_
     refine AWp.seq ?_
     refine sO hP hn hm [] [(69,iV .i64 (i64.wrap ((i64.wrap ((2:Int)+(t2838.length:Int)))+(t2842.length:Int)))),(70,iV .i64 0)] [0,5,6,7,9,10,11,12,13,14,15,16,17,18,69,70] [] [0,111,112,113,114,115,116] ?_
     refine AWp.block ?_
     obtain⟨o3408,e3409,H⟩:=Z4 H
     refine AWp.loop (LWp.conv (inv:=[(0,0),(111,129),(112,130),(113,131),(114,132),(115,133),(116,134)]) (vk:=[]) (e0:=[]) (t:=⟨[(0,.ptr 0 0 0),(5,.ptr 129 0 0),(6,.ptr 130 0 0),(7,.ptr 131 0 0),(9,iV .i64 (i64.wrap ((1:Int)+t2834.1))),(10,iV .i64 (t2838.length:Int)),(11,iV .i64 (i64.wrap ((i64.wrap ((2:Int)+(t2838.length:Int)))+(t2842.length:Int)))),(12,.own 132),(13,.own 133),(14,iV .i64 x3225),(15,iV .i64 (i64.wrap (x3225-x3194))),(16,.own 134),(17,iV .i64 x3197),(18,iV .i64 x3225),(69,iV .i64 (i64.wrap ((i64.wrap ((2:Int)+(t2838.length:Int)))+(t2842.length:Int)))),(70,iV .i64 0)],[(0,some (.box 94 (Z3 ⟨a0_c0,x3223,x3224⟩))),(129,some (.box 36 (Zx a1))),(130,some (.box 52 (Zb a2))),(131,some (.box 52 (Zb a3))),(132,some (.row 1 33 (x3192.map (Z1 .u64)))),(133,some (.row 1 33 (x3193.map (Z1 .u64)))),(134,some (.row 9 38 (x3196.map Zc)))],1⟩) (by kernel_rfl) ?_)
     refine LWp.mono (Q:=fun e s=>(match (generalizing:=false) o3408 with | (x3361,x3362,x3363,x3364)=>e = .exit 3∧s=⟨[(0,.ptr 0 0 0),(5,.ptr 147 0 0),(6,.ptr 148 0 0),(7,.ptr 149 0 0),(9,iV .i64 (i64.wrap ((1:Int)+t2834.1))),(10,iV .i64 (t2838.length:Int)),(11,iV .i64 (i64.wrap ((i64.wrap ((2:Int)+(t2838.length:Int)))+(t2842.length:Int)))),(12,.own 150),(13,.own 151),(14,iV .i64 x3225),(15,iV .i64 (i64.wrap (x3225-x3194))),(16,.own 152),(17,iV .i64 x3197),(18,iV .i64 x3225)],[(0,some (.box 94 (Z3 ⟨a0_c0,x3361,x3362⟩))),(147,some (.box 36 (Zx a1))),(148,some (.box 52 (Zb a2))),(149,some (.box 52 (Zb a3))),(150,some (.row 1 33 (x3363.map (Z1 .u64)))),(151,some (.row 1 33 (x3364.map (Z1 .u64)))),(152,some (.row 9 38 (x3196.map Zc)))],1⟩)) (LWp.cv (Z07 (fun body hbody => ?_))) ?_
     ·refine                  Ze.l1.partial_correctness a0_c0 a1 a2 a3 t2834 t2838 t2842 x3194 x3196 x3197 x3225 (motive:=fun x3291 x3292 x3293 x3294 x3295 o3408=>LWp Γ body (fun e s=>∃ t,Cv Γ s t∧(match (generalizing:=false) o3408 with | (x3361,x3362,x3363,x3364)=>e = .exit 3∧t=⟨[(0,.ptr 0 0 0),(5,.ptr 147 0 0),(6,.ptr 148 0 0),(7,.ptr 149 0 0),(9,iV .i64 (i64.wrap ((1:Int)+t2834.1))),(10,iV .i64 (t2838.length:Int)),(11,iV .i64 (i64.wrap ((i64.wrap ((2:Int)+(t2838.length:Int)))+(t2842.length:Int)))),(12,.own 150),(13,.own 151),(14,iV .i64 x3225),(15,iV .i64 (i64.wrap (x3225-x3194))),(16,.own 152),(17,iV .i64 x3197),(18,iV .i64 x3225)],[(0,some (.box 94 (Z3           ⟨a0_c0,x3361,x3362⟩))),(147,some (.box 36 (Zx    a1))),(148,some (.box 52 (Zb           a2))),(149,some (.box 52 (Zb           a3))),(150,some (.row 1 33 (x3363.map (Z1     .u64)))),(151,some (.row 1 33 (x3364.map (Z1     .u64)))),(152,some (.row 9 38 (x3196.map Zc     )))],1⟩)) ⟨[(0,.ptr 0 0 0),(5,.ptr 129 0 0),(6,.ptr 130 0 0),(7,.ptr 131 0 0),(9,iV .i64 (i64.wrap ((1:Int)+t2834.1))),(10,iV .i64 (t2838.length:Int)),(11,iV .i64 (i64.wrap ((i64.wrap ((2:Int)+(t2838.length:Int)))+(t2842.length:Int)))),(12,.own 132),(13,.own 133),(14,iV .i64 x3225),(15,iV .i64 (i64.wrap (x3225-x3194))),(16,.own 134),(17,iV .i64 x3197),(18,iV .i64 x3225),(69,iV .i64 (i64.wrap ((i64.wrap ((2:Int)+(t2838.length:Int)))+(t2842.length:Int)))),(70,iV .i64 x3295)],[(0,some (.box 94 (Z3           ⟨a0_c0,x3291,x3292⟩))),(129,some (.box 36 (Zx    a1))),(130,some (.box 52 (Zb           a2))),(131,some (.box 52 (Zb           a3))),(132,some (.row 1 33 (x3293.map (Z1     .u64)))),(133,some (.row 1 33 (x3294.map (Z1     .u64)))),(134,some (.row 9 38 (x3196.map Zc     )))],1⟩) ?_ _ _ _ _ _ _ e3409
      clear H e3409 o3408;intro self ih x3291 x3292 x3293 x3294 x3295 o3408 H
      subst hbody
      refine LWp.round ?_
      refine sO hP hn hm [] [(71,bV (decide (x3295<(i64.wrap ((i64.wrap ((2:Int)+(t2838.length:Int)))+(t2842.length:Int))))))] [0,5,6,7,9,10,11,12,13,14,15,16,17,18,69,70,71] [] [0,129,130,131,132,133,134] ?_
      refine AWp.seq ?_
      refine AWp.cond (decide (x3295<(i64.wrap ((i64.wrap ((2:Int)+(t2838.length:Int)))+(t2842.length:Int))))) (by kernel_rfl) (fun c3296 => ?_) (fun c3296 => ?_)
      ·replace H:=iT c3296 H
       refine AWp.skip ?_
       refine AWp.seq ?_
       refine AWp.block ?_
       refine sO hP hn hm [] [(19,iV .i64 x3295)] [0,5,6,7,9,10,11,12,13,14,15,16,17,18,19,69,70] [] [0,129,130,131,132,133,134] ?_
       refine sO hP hn hm [] [(73,iV .i64 x3197)] [0,5,6,7,9,10,11,12,13,14,15,16,17,18,19,69,70,73] [] [0,129,130,131,132,133,134] ?_
       refine AWp.block ?_
       refine sO hP hn hm [] [(93,bV (x3197==(0:Int)))] [0,5,6,7,9,10,11,12,13,14,15,16,17,18,19,69,70,73,93] [] [0,129,130,131,132,133,134] ?_
       obtain⟨o3410,e3411,H⟩:=Z4 H
       refine AWp.mono (Q:=fun e s=>(match (generalizing:=false) o3410 with | (x3357,x3358,x3359,x3360)=>e = .normal∧s=⟨[(0,.ptr 0 0 0),(5,.ptr 141 0 0),(6,.ptr 142 0 0),(7,.ptr 143 0 0),(9,iV .i64 (i64.wrap ((1:Int)+t2834.1))),(10,iV .i64 (t2838.length:Int)),(11,iV .i64 (i64.wrap ((i64.wrap ((2:Int)+(t2838.length:Int)))+(t2842.length:Int)))),(12,.own 144),(13,.own 145),(14,iV .i64 x3225),(15,iV .i64 (i64.wrap (x3225-x3194))),(16,.own 146),(17,iV .i64 x3197),(18,iV .i64 x3225),(69,iV .i64 (i64.wrap ((i64.wrap ((2:Int)+(t2838.length:Int)))+(t2842.length:Int)))),(70,iV .i64 x3295)],[(0,some (.box 94 (Z3 ⟨a0_c0,x3357,x3358⟩))),(141,some (.box 36 (Zx a1))),(142,some (.box 52 (Zb a2))),(143,some (.box 52 (Zb a3))),(144,some (.row 1 33 (x3359.map (Z1 .u64)))),(145,some (.row 1 33 (x3360.map (Z1 .u64)))),(146,some (.row 9 38 (x3196.map Zc)))],1⟩)) (AWp.cv ?_) ?_
       ·replace H:=e3411;clear e3411
        refine AWp.cond (x3197==(0:Int)) (by kernel_rfl) (fun c3297 => ?_) (fun c3297 => ?_)
        ·replace H:=iT c3297 H
         obtain⟨t3303,e3304,H⟩:=Z4 H
         obtain⟨b3305,p3306,q3307,H⟩:=Z0q H
         refine rG hP hn hm [(3,.call [(0,0)] [(0,0)] [] [] 1 (iV .u64 t3303.1) [(0,some (.box 94 (Z3 ⟨a0_c0,t3303.2.1,t3303.2.2⟩)))]),(5,.put ((Z1 .u64) b3305) ((x3293.set (Int.toNat (x3295)) t3303.1).map (Z1 .u64)))] [] [0,5,6,7,9,10,11,12,13,14,15,16,17,18,69,70] [(0,some (.box 94 (Z3 ⟨a0_c0,t3303.2.1,t3303.2.2⟩))),(132,some (.row 1 33 ((x3293.set (Int.toNat (x3295)) t3303.1).map (Z1 .u64))))] [0,129,130,131,132,133,134] [_,_,_,_,_,(x3293.set (Int.toNat (x3295)) t3303.1).map (Z1 .u64)=(x3293.map (Z1 .u64)).set (Int.toNat (x3295)) (Z1u ((Z1 .u64) b3305) 0 [iI .u64 t3303.1])] ⟨Try.call49,Zf.ok a0_c0 x3291 x3292 t3303 e3304,p3306,Z1m (Z1 .u64) p3306 q3307,Zu (Z1 .u64) q3307,by exact set1 _ _ _ _,trivial⟩ ?_
         obtain rfl:=sj H
         exact lf [(0,0),(129,141),(130,142),(131,143),(132,144),(133,145),(134,146)] [] [] (by kernel_rfl) ⟨rfl,rfl⟩
        ·replace H:=iF c3297 H
         refine sO hP hn hm [] [(100,bV (x3197==(1:Int)))] [0,5,6,7,9,10,11,12,13,14,15,16,17,18,19,69,70,100] [] [0,129,130,131,132,133,134] ?_
         obtain⟨o3412,e3413,H⟩:=Z4 H
         refine AWp.mono (Q:=fun e s=>(match (generalizing:=false) o3412 with | (x3353,x3354,x3355,x3356)=>e = .normal∧s=⟨[(0,.ptr 0 0 0),(5,.ptr 135 0 0),(6,.ptr 136 0 0),(7,.ptr 137 0 0),(9,iV .i64 (i64.wrap ((1:Int)+t2834.1))),(10,iV .i64 (t2838.length:Int)),(11,iV .i64 (i64.wrap ((i64.wrap ((2:Int)+(t2838.length:Int)))+(t2842.length:Int)))),(12,.own 138),(13,.own 139),(14,iV .i64 x3225),(15,iV .i64 (i64.wrap (x3225-x3194))),(16,.own 140),(17,iV .i64 x3197),(18,iV .i64 x3225),(69,iV .i64 (i64.wrap ((i64.wrap ((2:Int)+(t2838.length:Int)))+(t2842.length:Int)))),(70,iV .i64 x3295)],[(0,some (.box 94 (Z3 ⟨a0_c0,x3353,x3354⟩))),(135,some (.box 36 (Zx a1))),(136,some (.box 52 (Zb a2))),(137,some (.box 52 (Zb a3))),(138,some (.row 1 33 (x3355.map (Z1 .u64)))),(139,some (.row 1 33 (x3356.map (Z1 .u64)))),(140,some (.row 9 38 (x3196.map Zc)))],1⟩)) (AWp.cv ?_) ?_
         ·replace H:=e3413;clear e3413
          refine AWp.cond (x3197==(1:Int)) (by kernel_rfl) (fun c3308 => ?_) (fun c3308 => ?_)
          ·replace H:=iT c3308 H
           obtain⟨t3314,e3315,H⟩:=Z4 H
           obtain⟨b3316,p3317,q3318,H⟩:=Z0q H
           refine sR hP hn hm [(3,.call [(0,0)] [(0,0)] [] [] 1 (iV .i64 t3314.1) [(0,some (.box 94 (Z3 ⟨a0_c0,t3314.2.1,t3314.2.2⟩)))]),(6,.put ((Z1 .u64) b3316) ((x3294.set (Int.toNat (x3295)) (u64.wrap (t3314.1))).map (Z1 .u64)))] [] [0,5,6,7,9,10,11,12,13,14,15,16,17,18,19,69,70] [(0,some (.box 94 (Z3 ⟨a0_c0,t3314.2.1,t3314.2.2⟩))),(133,some (.row 1 33 ((x3294.set (Int.toNat (x3295)) (u64.wrap (t3314.1))).map (Z1 .u64))))] [0,129,130,131,132,133,134] [_,_,_,_,_,(x3294.set (Int.toNat (x3295)) (u64.wrap (t3314.1))).map (Z1 .u64)=(x3294.map (Z1 .u64)).set (Int.toNat (x3295)) (Z1u ((Z1 .u64) b3316) 0 [iI .u64 (u64.wrap (t3314.1))])] ⟨Try.call26,Zs.ok a0_c0 x3291 x3292 t3314 e3315,p3317,Z1m (Z1 .u64) p3317 q3318,Zu (Z1 .u64) q3318,by exact set1 _ _ _ _,trivial⟩ ?_
           obtain⟨b3325,p3326,q3327,H⟩:=Z0q H
           obtain⟨b3328,p3329,q3330,H⟩:=Z0q H
           refine rG hP hn hm [(3,.c ((Z1 .u64) b3325)),(7,.c ((Z1 .u64) b3328)),(10,.put ((Z1 .u64) b3325) ((x3293.set (Int.toNat (x3295)) (u64.wrap (b3325+b3328))).map (Z1 .u64)))] [] [0,5,6,7,9,10,11,12,13,14,15,16,17,18,69,70] [(132,some (.row 1 33 ((x3293.set (Int.toNat (x3295)) (u64.wrap (b3325+b3328))).map (Z1 .u64))))] [0,129,130,131,132,133,134] [_,_,_,_,_,_,_,_,_,(x3293.set (Int.toNat (x3295)) (u64.wrap (b3325+b3328))).map (Z1 .u64)=(x3293.map (Z1 .u64)).set (Int.toNat (x3295)) (Z1u ((Z1 .u64) b3325) 0 [iI .u64 (u64.wrap (b3325+b3328))])] ⟨p3326,Z1m (Z1 .u64) p3326 q3327,Zu (Z1 .u64) q3327,p3329,Z1m (Z1 .u64) p3329 q3330,Zu (Z1 .u64) q3330,p3326,Z1m (Z1 .u64) p3326 q3327,Zu (Z1 .u64) q3327,by exact set1 _ _ _ _,trivial⟩ ?_
           obtain rfl:=sj H
           exact lf [(0,0),(129,135),(130,136),(131,137),(132,138),(133,139),(134,140)] [] [] (by kernel_rfl) ⟨rfl,rfl⟩
          ·replace H:=iF c3308 H
           obtain⟨b3336,p3337,q3338,H⟩:=Z0q H
           obtain⟨t3339,e3340,H⟩:=Z4 H
           refine sR hP hn hm [(3,.c ((Z1 .u64) b3336)),(5,.call [(0,0)] [(0,0)] [] [] 1 (iV .i64 t3339.1) [(0,some (.box 94 (Z3 ⟨a0_c0,t3339.2.1,t3339.2.2⟩)))]),(9,.put ((Z1 .u64) b3336) ((x3294.set (Int.toNat (x3295)) (u64.wrap (b3336+(u64.wrap (t3339.1))))).map (Z1 .u64)))] [] [0,5,6,7,9,10,11,12,13,14,15,16,17,18,19,69,70] [(0,some (.box 94 (Z3 ⟨a0_c0,t3339.2.1,t3339.2.2⟩))),(133,some (.row 1 33 ((x3294.set (Int.toNat (x3295)) (u64.wrap (b3336+(u64.wrap (t3339.1))))).map (Z1 .u64))))] [0,129,130,131,132,133,134] [_,_,_,_,_,_,_,_,(x3294.set (Int.toNat (x3295)) (u64.wrap (b3336+(u64.wrap (t3339.1))))).map (Z1 .u64)=(x3294.map (Z1 .u64)).set (Int.toNat (x3295)) (Z1u ((Z1 .u64) b3336) 0 [iI .u64 (u64.wrap (b3336+(u64.wrap (t3339.1))))])] ⟨p3337,Z1m (Z1 .u64) p3337 q3338,Zu (Z1 .u64) q3338,Try.call26,Zs.ok a0_c0 x3291 x3292 t3339 e3340,p3337,Z1m (Z1 .u64) p3337 q3338,Zu (Z1 .u64) q3338,by exact set1 _ _ _ _,trivial⟩ ?_
           obtain⟨b3347,p3348,q3349,H⟩:=Z0q H
           obtain⟨b3350,p3351,q3352,H⟩:=Z0q H
           refine rG hP hn hm [(3,.c ((Z1 .u64) b3347)),(7,.c ((Z1 .u64) b3350)),(10,.put ((Z1 .u64) b3347) ((x3293.set (Int.toNat (x3295)) (u64.wrap (b3347+b3350))).map (Z1 .u64)))] [] [0,5,6,7,9,10,11,12,13,14,15,16,17,18,69,70] [(132,some (.row 1 33 ((x3293.set (Int.toNat (x3295)) (u64.wrap (b3347+b3350))).map (Z1 .u64))))] [0,129,130,131,132,133,134] [_,_,_,_,_,_,_,_,_,(x3293.set (Int.toNat (x3295)) (u64.wrap (b3347+b3350))).map (Z1 .u64)=(x3293.map (Z1 .u64)).set (Int.toNat (x3295)) (Z1u ((Z1 .u64) b3347) 0 [iI .u64 (u64.wrap (b3347+b3350))])] ⟨p3348,Z1m (Z1 .u64) p3348 q3349,Zu (Z1 .u64) q3349,p3351,Z1m (Z1 .u64) p3351 q3352,Zu (Z1 .u64) q3352,p3348,Z1m (Z1 .u64) p3348 q3349,Zu (Z1 .u64) q3349,by exact set1 _ _ _ _,trivial⟩ ?_
           obtain rfl:=sj H
           exact lf [(0,0),(129,135),(130,136),(131,137),(132,138),(133,139),(134,140)] [] [] (by kernel_rfl) ⟨rfl,rfl⟩
         ·obtain⟨x3353,x3354,x3355,x3356⟩:=o3412
          rintro e s ⟨rfl,rfl⟩
          obtain rfl:=sj H
          exact lf [(0,0),(135,141),(136,142),(137,143),(138,144),(139,145),(140,146)] [] [] (by kernel_rfl) ⟨rfl,rfl⟩
       ·obtain⟨x3357,x3358,x3359,x3360⟩:=o3410
        rintro e s ⟨rfl,rfl⟩
        refine rO hP hn hm [] [(70,iV .i64 (i64.wrap (x3295+(1:Int))))] [0,5,6,7,9,10,11,12,13,14,15,16,17,18,69,70] [] [0,141,142,143,144,145,146] ?_
        exact LWp.conv [(0,0),(141,129),(142,130),(143,131),(144,132),(145,133),(146,134)] [] [] (by kernel_rfl) (ih _ _ _ _ _ _ H)
      ·replace H:=iF c3296 H
       refine AWp.exit ?_
       obtain rfl:=sj H
       exact lf [(0,0),(129,147),(130,148),(131,149),(132,150),(133,151),(134,152)] [] [] (by kernel_rfl) ⟨rfl,rfl⟩
     ·obtain⟨x3361,x3362,x3363,x3364⟩:=o3408
      rintro e s ⟨rfl,rfl⟩
      refine sO hP hn hm [(3,.k 153)] [(20,.ptr 153 0 0)] [0,5,6,7,9,10,11,12,13,14,15,16,17,20] [(153,some (.box 38 [iV .i64 x3225,iV .i64 a1.f0,iV .i64 a1.f1,iV .i64 a1.f2,iV .u64 a1.f3,iV .u64 a1.f4,iV .i64 a1.f5,.im (.row (a1.f6.map Z0)),.im (.row (a1.f7.map Z0))]))] [0,147,148,149,150,151,152,153] ?_
      obtain⟨b3371,p3372,q3373,H⟩:=Z0q H
      obtain⟨b3374,p3375,q3376,H⟩:=Z0q H
      refine sR hP hn hm [(2,.c ((Z1 .u64) b3371)),(5,.c ((Z1 .u64) b3374))] [] [0,5,6,7,9,10,11,12,13,14,15,16,17,20] [(153,some (.box 38 [iV .i64 x3225,iV .i64 a1.f0,iV .i64 a1.f1,iV .i64 a1.f2,iV .u64 b3371,iV .u64 a1.f4,iV .i64 (i64.wrap (b3374)),.im (.row (a1.f6.map Z0)),.im (.row (a1.f7.map Z0))]))] [0,147,148,149,150,151,152,153] [_,_,_,_,_,_] ⟨p3372,Z1m (Z1 .u64) p3372 q3373,Zu (Z1 .u64) q3373,p3375,Z1m (Z1 .u64) p3375 q3376,Zu (Z1 .u64) q3376,trivial⟩ ?_
      obtain⟨c3383,H⟩:=Z17 H
      obtain⟨t3384,e3385,H⟩:=Z4 H
      obtain⟨c3386,H⟩:=Z17 H
      obtain⟨t3387,e3388,H⟩:=Z4 H
      refine sR hP hn hm [(4,.more (xSub (Int.toNat (2:Int)) (Int.toNat (i64.wrap ((2:Int)+(t2838.length:Int)))-Int.toNat (2:Int)))),(5,.more (Z4p [] [(0,154)] [150] [154] 0 (.own 0) [(0,some (.row 2 78 (t3384.map Z0)))])),(10,.more (xSub (Int.toNat (i64.wrap ((2:Int)+(t2838.length:Int)))) (Int.toNat (x3363.length:Int)-Int.toNat (i64.wrap ((2:Int)+(t2838.length:Int)))))),(11,.more (Z4p [] [(0,155)] [150] [155] 0 (.own 0) [(0,some (.row 2 78 (t3387.map Z0)))]))] [] [0,5,6,7,9,10,11,12,13,14,15,16,17,20] [(153,some (.box 38 [iV .i64 x3225,iV .i64 a1.f0,iV .i64 a1.f1,iV .i64 a1.f2,iV .u64 b3371,iV .u64 a1.f4,iV .i64 (i64.wrap (b3374)),.own 154,.own 155])),(154,some (.row 2 78 (t3384.map Z0))),(155,some (.row 2 78 (t3387.map Z0)))] [0,147,148,149,150,151,152,153,154,155] [(2:Int)=((Int.toNat (2:Int):Nat):Int),(i64.wrap ((2:Int)+(t2838.length:Int)))=((Int.toNat (2:Int)+(Int.toNat (i64.wrap ((2:Int)+(t2838.length:Int)))-Int.toNat (2:Int)):Nat):Int),Int.toNat (2:Int)+(Int.toNat (i64.wrap ((2:Int)+(t2838.length:Int)))-Int.toNat (2:Int))≤(x3363.map (Z1 .u64)).length,_,Pv.Fn Try.prog 53 [.agg (Zb a2),.im (.row (((x3363.map (Z1 .u64)).drop (Int.toNat (2:Int))).take (Int.toNat (i64.wrap ((2:Int)+(t2838.length:Int)))-Int.toNat (2:Int))))] [] 0 (fun r o=>r = .own 0∧o=[(0,some (.row 2 78 (t3384.map Z0)))]),∀ c∈t3384.map Z0,∀ x∈c,∃ v,x=Im.sc v,(i64.wrap ((2:Int)+(t2838.length:Int)))=((Int.toNat (i64.wrap ((2:Int)+(t2838.length:Int))):Nat):Int),((x3363.map (Z1 .u64)).length:Int)=((Int.toNat (i64.wrap ((2:Int)+(t2838.length:Int)))+(Int.toNat (x3363.length:Int)-Int.toNat (i64.wrap ((2:Int)+(t2838.length:Int)))):Nat):Int),Int.toNat (i64.wrap ((2:Int)+(t2838.length:Int)))+(Int.toNat (x3363.length:Int)-Int.toNat (i64.wrap ((2:Int)+(t2838.length:Int))))≤(x3363.map (Z1 .u64)).length,_,Pv.Fn Try.prog 53 [.agg (Zb a3),.im (.row (((x3363.map (Z1 .u64)).drop (Int.toNat (i64.wrap ((2:Int)+(t2838.length:Int))))).take (Int.toNat (x3363.length:Int)-Int.toNat (i64.wrap ((2:Int)+(t2838.length:Int))))))] [] 0 (fun r o=>r = .own 0∧o=[(0,some (.row 2 78 (t3387.map Z0)))]),∀ c∈t3387.map Z0,∀ x∈c,∃ v,x=Im.sc v] ⟨by exact(Int.toNat_of_nonneg c3383.1).symm,by have h:=c3383;(try simp only[List.length_map] at h ⊢);omega,by have h:=c3383;simp only[List.length_map] at h ⊢;omega,Try.call53,by exact(by have hh:=Z0i.ok a2 ((x3363.drop (Int.toNat (2:Int))).take (Int.toNat (i64.wrap ((2:Int)+(t2838.length:Int)))-Int.toNat (2:Int))) t3384 e3385;rw[cut1 x3363 (Int.toNat (2:Int)) (Int.toNat (i64.wrap ((2:Int)+(t2838.length:Int)))-Int.toNat (2:Int)) (Z1 .u64)] at hh;exact hh),by exact Z4y _ _ (fun _=>by simp),by exact(Int.toNat_of_nonneg c3386.1).symm,by have h:=c3386;(try simp only[List.length_map] at h ⊢);omega,by have h:=c3386;simp only[List.length_map] at h ⊢;omega,Try.call53,by exact(by have hh:=Z0i.ok a3 ((x3363.drop (Int.toNat (i64.wrap ((2:Int)+(t2838.length:Int))))).take (Int.toNat (x3363.length:Int)-Int.toNat (i64.wrap ((2:Int)+(t2838.length:Int))))) t3387 e3388;rw[cut1 x3363 (Int.toNat (i64.wrap ((2:Int)+(t2838.length:Int)))) (Int.toNat (x3363.length:Int)-Int.toNat (i64.wrap ((2:Int)+(t2838.length:Int)))) (Z1 .u64)] at hh;exact hh),by exact Z4y _ _ (fun _=>by simp),trivial⟩ ?_
      refine AWp.seq ?_
      refine AWp.conv (inv:=[(0,0),(147,147),(148,148),(149,149),(150,150),(151,151),(152,152),(153,153)]) (vk:=[154,155]) (e0:=[]) (t:=⟨[(0,.ptr 0 0 0),(5,.ptr 147 0 0),(6,.ptr 148 0 0),(7,.ptr 149 0 0),(9,iV .i64 (i64.wrap ((1:Int)+t2834.1))),(10,iV .i64 (t2838.length:Int)),(11,iV .i64 (i64.wrap ((i64.wrap ((2:Int)+(t2838.length:Int)))+(t2842.length:Int)))),(12,.own 150),(13,.own 151),(14,iV .i64 x3225),(15,iV .i64 (i64.wrap (x3225-x3194))),(16,.own 152),(17,iV .i64 x3197),(20,.ptr 153 0 0)],[(0,some (.box 94 (Z3 ⟨a0_c0,x3361,x3362⟩))),(147,some (.box 36 (Zx a1))),(148,some (.box 52 (Zb a2))),(149,some (.box 52 (Zb a3))),(150,some (.row 1 33 (x3363.map (Z1 .u64)))),(151,some (.row 1 33 (x3364.map (Z1 .u64)))),(152,some (.row 9 38 (x3196.map Zc))),(153,some (.box 38 [iV .i64 x3225,iV .i64 a1.f0,iV .i64 a1.f1,iV .i64 a1.f2,iV .u64 b3371,iV .u64 a1.f4,iV .i64 (i64.wrap (b3374)),.im (.row (t3384.map Z0)),.im (.row (t3387.map Z0))]))],1⟩) (by kernel_rfl) ?_
      obtain⟨t3393,e3394,H⟩:=Z4 H
      refine rG hP hn hm [(8,.call [] [] [] [] 0 (.tup [.agg (Zx (t3393.1)),iV .i64 t3393.2]) [])] [] [0,5,6,7,9,10,11,12,13,14,15,16,17,20] [(153,some (.box 38 [iV .i64 x3225,iV .i64 ((t3393.1).f0),iV .i64 ((t3393.1).f1),iV .i64 ((t3393.1).f2),iV .u64 ((t3393.1).f3),iV .u64 ((t3393.1).f4),iV .i64 ((t3393.1).f5),.im (.row (((t3393.1).f6).map Z0)),.im (.row (((t3393.1).f7).map Z0))]))] [0,147,148,149,150,151,152,153] [_,_] ⟨Try.call54,Z0r.ok (⟨a1.f0,a1.f1,a1.f2,b3371,a1.f4,i64.wrap (b3374),t3384,t3387⟩:Zp) t3384 t3387 t3393 e3394,trivial⟩ ?_
      obtain⟨c3396,H⟩:=Z17 H
      refine rG hP hn hm [(2,.app 156 ([(⟨x3225,(t3393.1)⟩:Zh)].map Zc)),(3,.app 157 ((x3196++[(⟨x3225,(t3393.1)⟩:Zh)]).map Zc))] [(16,.own 157)] [0,5,6,7,9,10,11,12,13,14,15,16,17] [(157,some (.row 9 38 ((x3196++[(⟨x3225,(t3393.1)⟩:Zh)]).map Zc)))] [0,147,148,149,150,151,157] [[(⟨x3225,(t3393.1)⟩:Zh)].map Zc=[[iI .i64 x3225,iI .i64 ((t3393.1).f0),iI .i64 ((t3393.1).f1),iI .i64 ((t3393.1).f2),iI .u64 ((t3393.1).f3),iI .u64 ((t3393.1).f4),iI .i64 ((t3393.1).f5),.row (((t3393.1).f6).map Z0),.row (((t3393.1).f7).map Z0)]],(x3196++[(⟨x3225,(t3393.1)⟩:Zh)]).map Zc=(x3196.map Zc)++([(⟨x3225,(t3393.1)⟩:Zh)].map Zc),∀ c∈([(⟨x3225,(t3393.1)⟩:Zh)].map Zc),c.length=9,∀ c∈([(⟨x3225,(t3393.1)⟩:Zh)].map Zc),Z12 (c.map .im)=true,((x3196.map Zc).length+([(⟨x3225,(t3393.1)⟩:Zh)].map Zc).length)*104≤140737488355328] ⟨by exact rfl,by simp,by exact Z13 _ _ _ (fun _=>rfl),by exact Z16 _ _ (fun _=>rfl),by simpa using c3396,trivial⟩ ?_
      refine rO hP hn hm [] [(17,iV .i64 (i64.wrap (x3197+(1:Int))))] [0,5,6,7,9,10,11,12,13,14,15,16,17] [] [0,147,148,149,150,151,157] ?_
      exact LWp.conv [(0,0),(147,93),(148,94),(149,95),(150,96),(151,97),(157,98)] [] [] (by kernel_rfl) (ih _ _ H)
   ·replace H:=iF c3205 H
    refine AWp.exit ?_
    obtain rfl:=sj H
    exact lf [(104,158),(0,0)] [] [] (by kernel_rfl) ⟨rfl,rfl⟩
 ·obtain⟨x3397,x3398,x3399⟩:=o3400
  rintro e s ⟨rfl,rfl⟩
  refine sO hP hn hm [] [(8,.own 158)] [8] [] [0,158] ?_
  refine AWp.conv (inv:=[(0,0),(158,1)]) (vk:=[]) (e0:=[]) (t:=⟨[(8,.own 1)],[(0,some (.box 94 (Z3 ⟨a0_c0,x3398,x3399⟩))),(1,some (.row 9 38 (x3397.map Zc)))],1⟩) (by kernel_rfl) ?_
  refine AWp.ret ?_
  obtain rfl:=sj H
  exact rl (.inl rfl) rfl (by kernel_rfl) (by kernel_rfl)
def Z02.f (a0_c0:List Int) (a0_c1:Int) (a0_c2:Int):Option (Unit):=some ()
theorem Z02.ok (a0_c0:List Int) (a0_c1:Int) (a0_c2:Int) (r:Unit) (H:Z02.f a0_c0 a0_c1 a0_c2=some r):Pv.Fn Try.prog 55 [.ptr 0 0 0] [(0,some (.box 94 (Z3 ⟨a0_c0,a0_c1,a0_c2⟩)))] 1 (fun x o=>x=iV .i64 (i64.wrap ((i64.wrap ((8:Int)*(a0_c0.length:Int)))-a0_c1))∧o=[(0,some (.box 94 (Z3 ⟨a0_c0,a0_c1,a0_c2⟩)))]):=by
 unfold Z02.f at H
 refine Fn.bodyK [0] Try.func55 rfl rfl (fun Γ hP hn => ?_)
 have hm:Try.prog.follows .mixedOrders=true:=by kernel_rfl
 replace hn:Γ.n=14:=hn
 refine sO hP hn hm [] [] [0] [] [0] ?_
 refine sR hP hn hm [(4,.any (iV .i64 (a0_c0.length:Int)))] [(2,iV .i64 (i64.wrap ((i64.wrap ((8:Int)*(a0_c0.length:Int)))-a0_c1)))] [2] [] [0] [((a0_c0.map (Z1 .u8)).length:Int)=(a0_c0.length:Int)] ⟨by rw[Zv],trivial⟩ ?_
 refine AWp.conv (inv:=[(0,0)]) (vk:=[]) (e0:=[]) (t:=⟨[(2,iV .i64 (i64.wrap ((i64.wrap ((8:Int)*(a0_c0.length:Int)))-a0_c1)))],[(0,some (.box 94 (Z3 ⟨a0_c0,a0_c1,a0_c2⟩)))],1⟩) (by kernel_rfl) ?_
 refine AWp.ret ?_
 obtain rfl:=sj H
 exact rl (.inl rfl) rfl (by kernel_rfl) (by kernel_rfl)
def Zn.l0 (a0_c0:List Int) (x3451:Int) (x3452:Int):Option (Int×Int):=((if(x3452==(0:Int))=true then((Z02.f a0_c0 x3451 x3452)>>=fun t3457=>some (decide ((i64.wrap ((i64.wrap ((8:Int)*(a0_c0.length:Int)))-x3451))>(0:Int)))) else(some false)):Option (Bool))>>=fun x3459=>if x3459=true then((Zr.f a0_c0 x3451 x3452)>>=fun t3463=>((if t3463.1=true then((Zk.f a0_c0 t3463.2.1 t3463.2.2 6)>>=fun t3468=>some t3468) else(some t3463.2.2)):Option (Int))>>=fun x3470=>Zn.l0 a0_c0 t3463.2.1 x3470) else(some (x3451,x3452))
partial_fixpoint
def Zn.f (a0_c0:List Int) (a0_c1:Int) (a0_c2:Int):Option (Int×Int×Int):=((if(a0_c2==(0:Int))=true then((Z02.f a0_c0 a0_c1 a0_c2)>>=fun t3424=>some (decide ((i64.wrap ((i64.wrap ((8:Int)*(a0_c0.length:Int)))-a0_c1))≥(8:Int)))) else(some false)):Option (Bool))>>=fun x3426=>((if x3426=true then((Zk.f a0_c0 a0_c1 a0_c2 6)>>=fun t3430=>some t3430) else(some a0_c2)):Option (Int))>>=fun x3432=>(Zn.l0 a0_c0 a0_c1 x3432)>>=fun oo=>match oo with | (x3471,x3472)=>(some (x3472,x3471,x3472))
theorem Zn.ok (a0_c0:List Int) (a0_c1:Int) (a0_c2:Int) (r:Int×Int×Int) (H:Zn.f a0_c0 a0_c1 a0_c2=some r):Pv.Fn Try.prog 29 [.ptr 0 0 0] [(0,some (.box 94 (Z3 ⟨a0_c0,a0_c1,a0_c2⟩)))] 1 (fun x o=>x=iV .i64 r.1∧o=[(0,some (.box 94 (Z3 ⟨a0_c0,r.2.1,r.2.2⟩)))]):=by
 unfold Zn.f at H
 refine Fn.bodyK [0] Try.func29 rfl rfl (fun Γ hP hn => ?_)
 have hm:Try.prog.follows .mixedOrders=true:=by kernel_rfl
 replace hn:Γ.n=33:=hn
 refine sO hP hn hm [] [] [0] [] [0] ?_
 refine AWp.seq ?_
 refine AWp.seq ?_
 obtain⟨o3473,e3474,H⟩:=Z4 H
 refine AWp.mono (Q:=fun e s=>(match (generalizing:=false) o3473 with | x3426=>e = .normal∧s=⟨[(0,.ptr 0 0 0),(12,bV x3426)],[(0,some (.box 94 (Z3 ⟨a0_c0,a0_c1,a0_c2⟩)))],1⟩)) (AWp.cv ?_) ?_
 ·replace H:=e3474;clear e3474
  rcases Bool.eq_false_or_eq_true (a0_c2==(0:Int)) with c3423 | c3423
  ·replace H:=iT c3423 H
   obtain⟨t3424,e3425,H⟩:=Z4 H
   refine rG hP hn hm [(5,.b true),(7,.call [(0,0)] [(0,0)] [] [] 1 (iV .i64 (i64.wrap ((i64.wrap ((8:Int)*(a0_c0.length:Int)))-a0_c1))) [(0,some (.box 94 (Z3 ⟨a0_c0,a0_c1,a0_c2⟩)))])] [(12,bV (decide ((i64.wrap ((i64.wrap ((8:Int)*(a0_c0.length:Int)))-a0_c1))≥(8:Int))))] [0,12] [] [0] [_,_,_] ⟨c3423,Try.call55,Z02.ok a0_c0 a0_c1 a0_c2 t3424 e3425,trivial⟩ ?_
   obtain rfl:=sj H
   exact lf [(0,0)] [] [] (by kernel_rfl) ⟨rfl,rfl⟩
  ·replace H:=iF c3423 H
   refine rG hP hn hm [(5,.b false)] [(12,bV false)] [0,12] [] [0] [_] ⟨c3423,trivial⟩ ?_
   obtain rfl:=sj H
   exact lf [(0,0)] [] [] (by kernel_rfl) ⟨rfl,rfl⟩
 ·obtain⟨x3426,rfl⟩:∃ z,z=o3473:=⟨_,rfl⟩
  rintro e s ⟨rfl,rfl⟩
  obtain⟨o3475,e3476,H⟩:=Z4 H
  refine AWp.mono (Q:=fun e s=>(match (generalizing:=false) o3475 with | x3432=>e = .normal∧s=⟨[(0,.ptr 0 0 0)],[(0,some (.box 94 (Z3 ⟨a0_c0,a0_c1,x3432⟩)))],1⟩)) (AWp.cv ?_) ?_
  ·replace H:=e3476;clear e3476
   refine AWp.cond x3426 (by kernel_rfl) (fun c3427 => ?_) (fun c3427 => ?_)
   ·replace H:=iT c3427 H
    obtain⟨t3430,e3431,H⟩:=Z4 H
    refine rG hP hn hm [(1,.call [(0,0)] [(0,0)] [] [] 1 (.tup []) [(0,some (.box 94 (Z3 ⟨a0_c0,a0_c1,t3430⟩)))])] [] [0] [(0,some (.box 94 (Z3 ⟨a0_c0,a0_c1,t3430⟩)))] [0] [_,_] ⟨Try.call47,Zk.ok a0_c0 a0_c1 a0_c2 6 t3430 e3431,trivial⟩ ?_
    obtain rfl:=sj H
    exact lf [(0,0)] [] [] (by kernel_rfl) ⟨rfl,rfl⟩
   ·replace H:=iF c3427 H
    refine AWp.skip ?_
    obtain rfl:=sj H
    exact lf [(0,0)] [] [] (by kernel_rfl) ⟨rfl,rfl⟩
  ·obtain⟨x3432,rfl⟩:∃ z,z=o3475:=⟨_,rfl⟩
   rintro e s ⟨rfl,rfl⟩
   refine AWp.seq ?_
   refine AWp.block ?_
   obtain⟨o3477,e3478,H⟩:=Z4 H
   refine AWp.loop (LWp.conv (inv:=[(0,0)]) (vk:=[]) (e0:=[]) (t:=⟨[(0,.ptr 0 0 0)],[(0,some (.box 94 (Z3 ⟨a0_c0,a0_c1,x3432⟩)))],1⟩) (by kernel_rfl) ?_)
   refine LWp.mono (Q:=fun e s=>(match (generalizing:=false) o3477 with | (x3471,x3472)=>e = .exit 0∧s=⟨[(0,.ptr 0 0 0)],[(0,some (.box 94 (Z3 ⟨a0_c0,x3471,x3472⟩)))],1⟩)) (LWp.cv (Z07 (fun body hbody => ?_))) ?_
   ·refine                    Zn.l0.partial_correctness a0_c0 (motive:=fun x3451 x3452 o3477=>LWp Γ body (fun e s=>∃ t,Cv Γ s t∧(match (generalizing:=false) o3477 with | (x3471,x3472)=>e = .exit 0∧t=⟨[(0,.ptr 0 0 0)],[(0,some (.box 94 (Z3           ⟨a0_c0,x3471,x3472⟩)))],1⟩)) ⟨[(0,.ptr 0 0 0)],[(0,some (.box 94 (Z3           ⟨a0_c0,x3451,x3452⟩)))],1⟩) ?_ _ _ _ e3478
    clear H e3478 o3477;intro self ih x3451 x3452 o3477 H
    subst hbody
    refine LWp.round ?_
    refine AWp.seq ?_
    refine AWp.seq ?_
    obtain⟨o3479,e3480,H⟩:=Z4 H
    refine AWp.mono (Q:=fun e s=>(match (generalizing:=false) o3479 with | x3459=>e = .normal∧s=⟨[(0,.ptr 0 0 0),(24,bV x3459)],[(0,some (.box 94 (Z3 ⟨a0_c0,x3451,x3452⟩)))],1⟩)) (AWp.cv ?_) ?_
    ·replace H:=e3480;clear e3480
     rcases Bool.eq_false_or_eq_true (x3452==(0:Int)) with c3456 | c3456
     ·replace H:=iT c3456 H
      obtain⟨t3457,e3458,H⟩:=Z4 H
      refine rG hP hn hm [(5,.b true),(7,.call [(0,0)] [(0,0)] [] [] 1 (iV .i64 (i64.wrap ((i64.wrap ((8:Int)*(a0_c0.length:Int)))-x3451))) [(0,some (.box 94 (Z3 ⟨a0_c0,x3451,x3452⟩)))])] [(21,.ptr 0 0 0),(22,iV .i64 (i64.wrap ((i64.wrap ((8:Int)*(a0_c0.length:Int)))-x3451))),(23,bV (decide ((i64.wrap ((i64.wrap ((8:Int)*(a0_c0.length:Int)))-x3451))>(0:Int)))),(24,bV (decide ((i64.wrap ((i64.wrap ((8:Int)*(a0_c0.length:Int)))-x3451))>(0:Int))))] [0,21,22,23,24] [] [0] [_,_,_] ⟨c3456,Try.call55,Z02.ok a0_c0 x3451 x3452 t3457 e3458,trivial⟩ ?_
      obtain rfl:=sj H
      exact lf [(0,0)] [] [] (by kernel_rfl) ⟨rfl,rfl⟩
     ·replace H:=iF c3456 H
      refine rG hP hn hm [(5,.b false)] [(24,bV false)] [0,24] [] [0] [_] ⟨c3456,trivial⟩ ?_
      obtain rfl:=sj H
      exact lf [(0,0)] [] [] (by kernel_rfl) ⟨rfl,rfl⟩
    ·obtain⟨x3459,rfl⟩:∃ z,z=o3479:=⟨_,rfl⟩
     rintro e s ⟨rfl,rfl⟩
     refine AWp.cond x3459 (by kernel_rfl) (fun c3460 => ?_) (fun c3460 => ?_)
     ·replace H:=iT c3460 H
      refine AWp.skip ?_
      refine AWp.block ?_
      obtain⟨t3463,e3464,H⟩:=Z4 H
      refine sR hP hn hm [(1,.call [(0,0)] [(0,0)] [] [] 1 (bV t3463.1) [(0,some (.box 94 (Z3 ⟨a0_c0,t3463.2.1,t3463.2.2⟩)))])] [(26,bV t3463.1)] [0,26] [(0,some (.box 94 (Z3 ⟨a0_c0,t3463.2.1,t3463.2.2⟩)))] [0] [_,_] ⟨Try.call24,Zr.ok a0_c0 x3451 x3452 t3463 e3464,trivial⟩ ?_
      obtain⟨o3481,e3482,H⟩:=Z4 H
      refine AWp.mono (Q:=fun e s=>(match (generalizing:=false) o3481 with | x3470=>e = .normal∧s=⟨[(0,.ptr 0 0 0)],[(0,some (.box 94 (Z3 ⟨a0_c0,t3463.2.1,x3470⟩)))],1⟩)) (AWp.cv ?_) ?_
      ·replace H:=e3482;clear e3482
       refine AWp.cond t3463.1 (by kernel_rfl) (fun c3465 => ?_) (fun c3465 => ?_)
       ·replace H:=iT c3465 H
        obtain⟨t3468,e3469,H⟩:=Z4 H
        refine rG hP hn hm [(1,.call [(0,0)] [(0,0)] [] [] 1 (.tup []) [(0,some (.box 94 (Z3 ⟨a0_c0,t3463.2.1,t3468⟩)))])] [] [0] [(0,some (.box 94 (Z3 ⟨a0_c0,t3463.2.1,t3468⟩)))] [0] [_,_] ⟨Try.call47,Zk.ok a0_c0 t3463.2.1 t3463.2.2 6 t3468 e3469,trivial⟩ ?_
        obtain rfl:=sj H
        exact lf [(0,0)] [] [] (by kernel_rfl) ⟨rfl,rfl⟩
       ·replace H:=iF c3465 H
        refine AWp.skip ?_
        obtain rfl:=sj H
        exact lf [(0,0)] [] [] (by kernel_rfl) ⟨rfl,rfl⟩
      ·obtain⟨x3470,rfl⟩:∃ z,z=o3481:=⟨_,rfl⟩
       rintro e s ⟨rfl,rfl⟩
       exact LWp.conv [(0,0)] [] [] (by kernel_rfl) (ih _ _ _ H)
     ·replace H:=iF c3460 H
      refine AWp.exit ?_
      obtain rfl:=sj H
      exact lf [(0,0)] [] [] (by kernel_rfl) ⟨rfl,rfl⟩
   ·obtain⟨x3471,x3472⟩:=o3477
    rintro e s ⟨rfl,rfl⟩
    refine sO hP hn hm [] [(2,iV .i64 x3472)] [2] [] [0] ?_
    refine AWp.conv (inv:=[(0,0)]) (vk:=[]) (e0:=[]) (t:=⟨[(2,iV .i64 x3472)],[(0,some (.box 94 (Z3 ⟨a0_c0,x3471,x3472⟩)))],1⟩) (by kernel_rfl) ?_
    refine AWp.ret ?_
    obtain rfl:=sj H
    exact rl (.inl rfl) rfl (by kernel_rfl) (by kernel_rfl)
def Z0b.l0 (a0:List Int) (a1:List Int) (x3508:Int):Option (Bool ⊕ Unit):=if(decide (x3508<(a0.length:Int)))=true then((at? a0 x3508)>>=fun b3516=>(at? a1 x3508)>>=fun b3519=>if(b3516 != b3519)=true then(some (.inl false)) else(Z0b.l0 a0 a1 (i64.wrap (x3508+(1:Int))))) else(some (.inr ()))
partial_fixpoint
def Z0b.f (a0:List Int) (a1:List Int):Option (Bool):=if((a0.length:Int) != (a1.length:Int))=true then(some false) else((Z0b.l0 a0 a1 0)>>=fun oo=>match oo with | .inl rr=>(some rr) | .inr _=>(some true))
theorem Z0b.ok (a0:List Int) (a1:List Int) (r:Bool) (H:Z0b.f a0 a1=some r):Pv.Fn Try.prog 30 [.im (.row (a0.map (Z1 .u8))),.im (.row (a1.map (Z1 .u8)))] [] 0 (fun x o=>x=bV r∧o=[]):=by
 unfold Z0b.f at H
 refine Fn.bodyK [] Try.func30 rfl rfl (fun Γ hP hn => ?_)
 have hm:Try.prog.follows .mixedOrders=true:=by kernel_rfl
 replace hn:Γ.n=26:=hn
 refine sO hP hn hm [] [] [0,1] [] [] ?_
 refine AWp.seq ?_
 refine sR hP hn hm [(1,.any (iV .i64 (a0.length:Int))),(3,.any (iV .i64 (a1.length:Int)))] [(10,bV ((a0.length:Int) != (a1.length:Int)))] [0,1,10] [] [] [((a0.map (Z1 .u8)).length:Int)=(a0.length:Int),((a1.map (Z1 .u8)).length:Int)=(a1.length:Int)] ⟨by rw[Zv],by rw[Zv],trivial⟩ ?_
 refine AWp.cond ((a0.length:Int) != (a1.length:Int)) (by kernel_rfl) (fun c3493 => ?_) (fun c3493 => ?_)
 ·replace H:=iT c3493 H
  refine sO hP hn hm [] [(4,bV false)] [4] [] [] ?_
  refine AWp.conv (inv:=[]) (vk:=[]) (e0:=[]) (t:=⟨[(4,bV false)],[],0⟩) (by kernel_rfl) ?_
  refine AWp.ret ?_
  obtain rfl:=sj H
  exact rl (.inl rfl) rfl (by kernel_rfl) (by kernel_rfl)
 ·replace H:=iF c3493 H
  refine AWp.skip ?_
  refine AWp.seq ?_
  refine sR hP hn hm [(1,.any (iV .i64 (a0.length:Int)))] [(12,iV .i64 (a0.length:Int)),(13,iV .i64 0)] [0,1,12,13] [] [] [((a0.map (Z1 .u8)).length:Int)=(a0.length:Int)] ⟨by rw[Zv],trivial⟩ ?_
  refine AWp.block ?_
  obtain⟨o3523,e3524,H⟩:=Z4 H
  refine AWp.loop (LWp.conv (inv:=[]) (vk:=[]) (e0:=[]) (t:=⟨[(0,.im (.row (a0.map (Z1 .u8)))),(1,.im (.row (a1.map (Z1 .u8)))),(12,iV .i64 (a0.length:Int)),(13,iV .i64 0)],[],0⟩) (by kernel_rfl) ?_)
  refine LWp.mono (Q:=fun e s=>(match (generalizing:=false) o3523 with | .inl rr=>e = .ret∧s.floor=0∧Z2f Try.prog Try.f30 s=some (bV rr)∧([]:List (Nat×Option MObj))=[] | .inr _=>e = .exit 0∧s=⟨[],[],0⟩)) (LWp.cv (Z07 (fun body hbody => ?_))) ?_
  ·refine                 Z0b.l0.partial_correctness a0 a1 (motive:=fun x3508 o3523=>LWp Γ body (fun e s=>∃ t,Cv Γ s t∧(match (generalizing:=false) o3523 with | .inl rr=>e = .ret∧t.floor=0∧Z2f   Try.prog Try.f30 t=some (bV rr)∧([]:List (Nat×Option MObj))=[] | .inr _=>e = .exit 0∧t=⟨[],[],0⟩)) ⟨[(0,.im (.row (a0.map (Z1     .u8)))),(1,.im (.row (a1.map (Z1     .u8)))),(12,iV .i64 (a0.length:Int)),(13,iV .i64 x3508)],[],0⟩) ?_ _ _ e3524
   clear H e3524 o3523;intro self ih x3508 o3523 H
   subst hbody
   refine LWp.round ?_
   refine sO hP hn hm [] [(14,bV (decide (x3508<(a0.length:Int))))] [0,1,12,13,14] [] [] ?_
   refine AWp.seq ?_
   refine AWp.cond (decide (x3508<(a0.length:Int))) (by kernel_rfl) (fun c3509 => ?_) (fun c3509 => ?_)
   ·replace H:=iT c3509 H
    refine AWp.skip ?_
    refine AWp.seq ?_
    refine AWp.block ?_
    refine sO hP hn hm [] [(5,iV .i64 x3508)] [0,1,5,12,13] [] [] ?_
    obtain⟨b3516,p3517,q3518,H⟩:=Z0q H
    obtain⟨b3519,p3520,q3521,H⟩:=Z0q H
    refine sR hP hn hm [(2,.c ((Z1 .u8) b3516)),(6,.c ((Z1 .u8) b3519))] [(24,bV (b3516 != b3519))] [0,1,12,13,24] [] [] [_,_,_,_] ⟨p3517,Zu (Z1 .u8) q3518,p3520,Zu (Z1 .u8) q3521,trivial⟩ ?_
    refine AWp.cond (b3516 != b3519) (by kernel_rfl) (fun c3522 => ?_) (fun c3522 => ?_)
    ·replace H:=iT c3522 H
     refine sO hP hn hm [] [(4,bV false)] [4] [] [] ?_
     refine AWp.conv (inv:=[]) (vk:=[]) (e0:=[]) (t:=⟨[(4,bV false)],[],0⟩) (by kernel_rfl) ?_
     refine AWp.ret ?_
     obtain rfl:=sj H
     exact rl rfl rfl (by kernel_rfl) (by kernel_rfl)
    ·replace H:=iF c3522 H
     refine AWp.skip ?_
     refine rO hP hn hm [] [(13,iV .i64 (i64.wrap (x3508+(1:Int))))] [0,1,12,13] [] [] ?_
     exact LWp.conv [] [] [] (by kernel_rfl) (ih _ _ H)
   ·replace H:=iF c3509 H
    refine AWp.exit ?_
    obtain rfl:=sj H
    exact lf [] [] [] (by kernel_rfl) ⟨rfl,rfl⟩
  ·rcases o3523 with rr | _
   ·skip
    rintro e s ⟨rfl,hfl,hres⟩
    obtain rfl:=sj H
    exact Exists.intro _ (And.intro (fun _ _ h=>h) (And.intro (.inl rfl) (And.intro hfl hres)))
   ·skip
    rintro e s ⟨rfl,rfl⟩
    refine sO hP hn hm [] [(4,bV true)] [4] [] [] ?_
    refine AWp.conv (inv:=[]) (vk:=[]) (e0:=[]) (t:=⟨[(4,bV true)],[],0⟩) (by kernel_rfl) ?_
    refine AWp.ret ?_
    obtain rfl:=sj H
    exact rl (.inl rfl) rfl (by kernel_rfl) (by kernel_rfl)
def Z0p.f (a0:List Int):Option ((List Zh)×Int):=(Z2q.f a0)>>=fun t2530=>(Zr.f a0 0 0)>>=fun t2556=>((if t2556.1=true then(some 1) else(some 0)):Option (Int))>>=fun x2559=>(Zi.f a0 t2556.2.1 t2556.2.2 4)>>=fun t2588=>(Zs.f a0 t2588.2.1 t2588.2.2)>>=fun t2668=>((if(decide (t2668.1<(-524288)))=true then(some true) else(some (decide (t2668.1>(262144:Int))))):Option (Bool))>>=fun x2672=>if x2672=true then(some ([],6)) else((Z05.f a0 t2668.2.1 t2668.2.2 512)>>=fun t2826=>(Z05.f a0 t2826.2.1 t2826.2.2 512)>>=fun t2830=>(Ze.f a0 t2830.2.1 t2830.2.2 (⟨x2559,i64.wrap ((i64.wrap (t2588.1))+(-4)),t2668.1,0,0,0,[],[]⟩:Zp) (t2826.1) (t2830.1))>>=fun t3418=>(Zn.f a0 t3418.2.1 t3418.2.2)>>=fun t3485=>if(t3485.1 != (0:Int))=true then(some ([],6)) else((Zm.f t3418.1)>>=fun t3490=>((if(t3490.2 != (0:Int))=true then(some true) else((Z0b.f t3490.1 a0)>>=fun t3528=>some (!t3528))):Option (Bool))>>=fun x3530=>if x3530=true then(some ([],6)) else(some (t3418.1,0))))
theorem Z0p.ok (a0:List Int) (r:(List Zh)×Int) (H:Z0p.f a0=some r):Pv.Fn Try.prog 8 [.im (.row (a0.map (Z1 .u8)))] [] 0 (fun x o=>x = .tup [.own 0,iV .i64 r.2]∧o=[(0,some (.row 9 38 (r.1.map Zc)))]):=by
 unfold Z0p.f at H
 refine Fn.bodyK [0] Try.func8 rfl rfl (fun Γ hP hn => ?_)
 have hm:Try.prog.follows .mixedOrders=true:=by kernel_rfl
 replace hn:Γ.n=59:=hn
 refine sO hP hn hm [] [] [0] [] [] ?_
 obtain⟨t2530,e2531,H⟩:=Z4 H
 refine sR hP hn hm [(1,.call [] [(0,0)] [] [0] 0 (.ptr 0 0 0) [(0,some (.box 94 (Z3 ⟨a0,0,0⟩)))])] [(4,.ptr 0 0 0)] [0,4] [(0,some (.box 94 (Z3 ⟨a0,0,0⟩)))] [0] [_,_] ⟨Try.call23,Z2q.ok a0 t2530 e2531,trivial⟩ ?_
 refine sO hP hn hm [(1,.k 1)] [(5,.ptr 1 0 0)] [0,4,5] [(1,some (.box 36 [iV .i64 0,iV .i64 0,iV .i64 0,iV .u64 0,iV .u64 0,iV .i64 0,.none0,.none0]))] [0,1] ?_
 refine AWp.seq ?_
 obtain⟨t2556,e2557,H⟩:=Z4 H
 refine sR hP hn hm [(1,.call [(0,0)] [(0,0)] [] [] 1 (bV t2556.1) [(0,some (.box 94 (Z3 ⟨a0,t2556.2.1,t2556.2.2⟩)))])] [(16,bV t2556.1)] [0,4,5,16] [(0,some (.box 94 (Z3 ⟨a0,t2556.2.1,t2556.2.2⟩)))] [0,1] [_,_] ⟨Try.call24,Zr.ok a0 0 0 t2556 e2557,trivial⟩ ?_
 obtain⟨o3532,e3533,H⟩:=Z4 H
 refine AWp.mono (Q:=fun e s=>(match (generalizing:=false) o3532 with | x2559=>e = .normal∧s=⟨[(0,.im (.row (a0.map (Z1 .u8)))),(4,.ptr 2 0 0),(5,.ptr 3 0 0)],[(2,some (.box 94 (Z3 ⟨a0,t2556.2.1,t2556.2.2⟩))),(3,some (.box 36 [iV .i64 x2559,iV .i64 0,iV .i64 0,iV .u64 0,iV .u64 0,iV .i64 0,.none0,.none0]))],0⟩)) (AWp.cv ?_) ?_
 ·replace H:=e3533;clear e3533
  refine AWp.cond t2556.1 (by kernel_rfl) (fun c2558 => ?_) (fun c2558 => ?_)
  ·replace H:=iT c2558 H
   refine rO hP hn hm [] [] [0,4,5] [(1,some (.box 36 [iV .i64 1,iV .i64 0,iV .i64 0,iV .u64 0,iV .u64 0,iV .i64 0,.none0,.none0]))] [0,1] ?_
   obtain rfl:=sj H
   exact lf [(0,2),(1,3)] [] [] (by kernel_rfl) ⟨rfl,rfl⟩
  ·replace H:=iF c2558 H
   refine AWp.skip ?_
   obtain rfl:=sj H
   exact lf [(0,2),(1,3)] [] [] (by kernel_rfl) ⟨rfl,rfl⟩
 ·obtain⟨x2559,rfl⟩:∃ z,z=o3532:=⟨_,rfl⟩
  rintro e s ⟨rfl,rfl⟩
  obtain⟨t2588,e2589,H⟩:=Z4 H
  refine sR hP hn hm [(1,.call [(2,0)] [(0,2)] [] [] 1 (iV .u64 t2588.1) [(0,some (.box 94 (Z3 ⟨a0,t2588.2.1,t2588.2.2⟩)))])] [] [0,4,5] [(2,some (.box 94 (Z3 ⟨a0,t2588.2.1,t2588.2.2⟩))),(3,some (.box 36 [iV .i64 x2559,iV .i64 (i64.wrap ((i64.wrap (t2588.1))+(-4))),iV .i64 0,iV .u64 0,iV .u64 0,iV .i64 0,.none0,.none0]))] [2,3] [_,_] ⟨Try.call25,Zi.ok a0 t2556.2.1 t2556.2.2 4 t2588 e2589,trivial⟩ ?_
  obtain⟨t2668,e2669,H⟩:=Z4 H
  refine sR hP hn hm [(1,.call [(2,0)] [(0,2)] [] [] 1 (iV .i64 t2668.1) [(0,some (.box 94 (Z3 ⟨a0,t2668.2.1,t2668.2.2⟩)))])] [(6,iV .i64 t2668.1)] [0,4,5,6] [(2,some (.box 94 (Z3 ⟨a0,t2668.2.1,t2668.2.2⟩)))] [2,3] [_,_] ⟨Try.call26,Zs.ok a0 t2588.2.1 t2588.2.2 t2668 e2669,trivial⟩ ?_
  refine AWp.seq ?_
  refine AWp.seq ?_
  obtain⟨o3534,e3535,H⟩:=Z4 H
  refine AWp.mono (Q:=fun e s=>(match (generalizing:=false) o3534 with | x2672=>e = .normal∧s=⟨[(0,.im (.row (a0.map (Z1 .u8)))),(4,.ptr 4 0 0),(5,.ptr 5 0 0),(6,iV .i64 t2668.1),(30,bV x2672)],[(4,some (.box 94 (Z3 ⟨a0,t2668.2.1,t2668.2.2⟩))),(5,some (.box 36 [iV .i64 x2559,iV .i64 (i64.wrap ((i64.wrap (t2588.1))+(-4))),iV .i64 0,iV .u64 0,iV .u64 0,iV .i64 0,.none0,.none0]))],0⟩)) (AWp.cv ?_) ?_
  ·replace H:=e3535;clear e3535
   rcases Bool.eq_false_or_eq_true (decide (t2668.1<(-524288))) with c2671 | c2671
   ·replace H:=iT c2671 H
    refine rG hP hn hm [(2,.b true)] [(30,bV true)] [0,4,5,6,30] [] [2,3] [_] ⟨c2671,trivial⟩ ?_
    obtain rfl:=sj H
    exact lf [(2,4),(3,5)] [] [] (by kernel_rfl) ⟨rfl,rfl⟩
   ·replace H:=iF c2671 H
    refine rG hP hn hm [(2,.b false)] [(30,bV (decide (t2668.1>(262144:Int))))] [0,4,5,6,30] [] [2,3] [_] ⟨c2671,trivial⟩ ?_
    obtain rfl:=sj H
    exact lf [(2,4),(3,5)] [] [] (by kernel_rfl) ⟨rfl,rfl⟩
  ·obtain⟨x2672,rfl⟩:∃ z,z=o3534:=⟨_,rfl⟩
   rintro e s ⟨rfl,rfl⟩
   refine AWp.cond x2672 (by kernel_rfl) (fun c2673 => ?_) (fun c2673 => ?_)
   ·replace H:=iT c2673 H
    refine sO hP hn hm [] [(2,.none0),(3,iV .i64 6)] [2,3] [] [] ?_
    refine AWp.conv (inv:=[]) (vk:=[]) (e0:=[0]) (t:=⟨[(2,.own 0),(3,iV .i64 6)],[(0,some (.row 9 38 ([].map Zc)))],0⟩) (by kernel_rfl) ?_
    refine AWp.ret ?_
    obtain rfl:=sj H
    exact rl (.inl rfl) rfl (by kernel_rfl) (by kernel_rfl)
   ·replace H:=iF c2673 H
    refine AWp.skip ?_
    refine sO hP hn hm [] [] [0,4,5] [(5,some (.box 36 [iV .i64 x2559,iV .i64 (i64.wrap ((i64.wrap (t2588.1))+(-4))),iV .i64 t2668.1,iV .u64 0,iV .u64 0,iV .i64 0,.none0,.none0]))] [4,5] ?_
    obtain⟨t2826,e2827,H⟩:=Z4 H
    refine sR hP hn hm [(1,.call [(4,0)] [(0,4),(1,6)] [] [6] 1 (.agg [iV .i64 ((t2826.1).f0),.own 1]) [(0,some (.box 94 (Z3 ⟨a0,t2826.2.1,t2826.2.2⟩))),(1,some (.row 2 86 (((t2826.1).f1).map Z0a)))]),(2,.k 7)] [(7,.ptr 7 0 0)] [0,4,5,7] [(4,some (.box 94 (Z3 ⟨a0,t2826.2.1,t2826.2.2⟩))),(6,some (.row 2 86 (((t2826.1).f1).map Z0a))),(7,some (.box 52 [iV .i64 ((t2826.1).f0),.own 6]))] [4,5,6,7] [_,_] ⟨Try.call27,Z05.ok a0 t2668.2.1 t2668.2.2 512 t2826 e2827,trivial⟩ ?_
    obtain⟨t2830,e2831,H⟩:=Z4 H
    refine sR hP hn hm [(1,.call [(4,0)] [(0,4),(1,8)] [] [8] 1 (.agg [iV .i64 ((t2830.1).f0),.own 1]) [(0,some (.box 94 (Z3 ⟨a0,t2830.2.1,t2830.2.2⟩))),(1,some (.row 2 86 (((t2830.1).f1).map Z0a)))]),(2,.k 9)] [(8,.ptr 9 0 0)] [0,4,5,7,8] [(4,some (.box 94 (Z3 ⟨a0,t2830.2.1,t2830.2.2⟩))),(8,some (.row 2 86 (((t2830.1).f1).map Z0a))),(9,some (.box 52 [iV .i64 ((t2830.1).f0),.own 8]))] [4,5,6,7,8,9] [_,_] ⟨Try.call27,Z05.ok a0 t2826.2.1 t2826.2.2 512 t2830 e2831,trivial⟩ ?_
    refine AWp.seq ?_
    refine AWp.conv (inv:=[(5,5),(7,7),(4,4),(9,9)]) (vk:=[6,8]) (e0:=[]) (t:=⟨[(0,.im (.row (a0.map (Z1 .u8)))),(4,.ptr 4 0 0),(5,.ptr 5 0 0),(7,.ptr 7 0 0),(8,.ptr 9 0 0)],[(4,some (.box 94 (Z3 ⟨a0,t2830.2.1,t2830.2.2⟩))),(5,some (.box 36 [iV .i64 x2559,iV .i64 (i64.wrap ((i64.wrap (t2588.1))+(-4))),iV .i64 t2668.1,iV .u64 0,iV .u64 0,iV .i64 0,.none0,.none0])),(7,some (.box 52 (Zb (t2826.1)))),(9,some (.box 52 (Zb (t2830.1))))],0⟩) (by kernel_rfl) ?_
    obtain⟨t3418,e3419,H⟩:=Z4 H
    refine rG hP hn hm [(4,.call [(4,0)] [(0,4),(1,10)] [] [10] 1 (.own 1) [(0,some (.box 94 (Z3 ⟨a0,t3418.2.1,t3418.2.2⟩))),(1,some (.row 9 38 (t3418.1.map Zc)))])] [(9,.own 10)] [0,4,9] [(4,some (.box 94 (Z3 ⟨a0,t3418.2.1,t3418.2.2⟩))),(10,some (.row 9 38 (t3418.1.map Zc)))] [4,10] [_,_] ⟨Try.call28,Ze.ok a0 t2830.2.1 t2830.2.2 (⟨x2559,i64.wrap ((i64.wrap (t2588.1))+(-4)),t2668.1,0,0,0,[],[]⟩:Zp) (t2826.1) (t2830.1) t3418 e3419,trivial⟩ ?_
    refine AWp.seq ?_
    obtain⟨t3485,e3486,H⟩:=Z4 H
    refine sR hP hn hm [(1,.call [(4,0)] [(0,4)] [] [] 1 (iV .i64 t3485.1) [(0,some (.box 94 (Z3 ⟨a0,t3485.2.1,t3485.2.2⟩)))])] [(44,bV (t3485.1 != (0:Int)))] [0,9,44] [] [10] [_,_] ⟨Try.call29,Zn.ok a0 t3418.2.1 t3418.2.2 t3485 e3486,trivial⟩ ?_
    refine AWp.cond (t3485.1 != (0:Int)) (by kernel_rfl) (fun c3487 => ?_) (fun c3487 => ?_)
    ·replace H:=iT c3487 H
     refine sO hP hn hm [] [(2,.none0),(3,iV .i64 6)] [2,3] [] [] ?_
     refine AWp.conv (inv:=[]) (vk:=[]) (e0:=[0]) (t:=⟨[(2,.own 0),(3,iV .i64 6)],[(0,some (.row 9 38 ([].map Zc)))],0⟩) (by kernel_rfl) ?_
     refine AWp.ret ?_
     obtain rfl:=sj H
     exact rl (.inl rfl) rfl (by kernel_rfl) (by kernel_rfl)
    ·replace H:=iF c3487 H
     refine AWp.skip ?_
     obtain⟨t3490,e3491,H⟩:=Z4 H
     refine sR hP hn hm [(1,.more (Z4p [] [(0,11)] [10] [11] 0 (.tup [.own 0,iV .i64 t3490.2]) [(0,some (.row 1 5 (t3490.1.map (Z1 .u8))))]))] [(10,.own 11),(11,iV .i64 t3490.2)] [0,9,10,11] [(11,some (.row 1 5 (t3490.1.map (Z1 .u8))))] [10,11] [_,_,∀ c∈t3490.1.map (Z1 .u8),∀ x∈c,∃ v,x=Im.sc v] ⟨Try.call7,Zm.ok t3418.1 t3490 e3491,by exact Z4y _ _ (fun _=>by simp),trivial⟩ ?_
     refine AWp.seq ?_
     refine AWp.seq ?_
     obtain⟨o3536,e3537,H⟩:=Z4 H
     refine AWp.mono (Q:=fun e s=>(match (generalizing:=false) o3536 with | x3530=>e = .normal∧s=⟨[(9,.own 12),(57,bV x3530)],[(12,some (.row 9 38 (t3418.1.map Zc)))],0⟩)) (AWp.cv ?_) ?_
     ·replace H:=e3537;clear e3537
      rcases Bool.eq_false_or_eq_true (t3490.2 != (0:Int)) with c3527 | c3527
      ·replace H:=iT c3527 H
       refine rG hP hn hm [(2,.b true)] [(57,bV true)] [9,57] [] [10] [_] ⟨c3527,trivial⟩ ?_
       obtain rfl:=sj H
       exact lf [(10,12)] [] [] (by kernel_rfl) ⟨rfl,rfl⟩
      ·replace H:=iF c3527 H
       obtain⟨t3528,e3529,H⟩:=Z4 H
       refine rG hP hn hm [(2,.b false),(5,.call [] [] [11] [] 0 (bV t3528) [])] [(57,bV (!t3528))] [9,57] [] [10] [_,_,_] ⟨c3527,Try.call30,Z0b.ok t3490.1 a0 t3528 e3529,trivial⟩ ?_
       obtain rfl:=sj H
       exact lf [(10,12)] [] [] (by kernel_rfl) ⟨rfl,rfl⟩
     ·obtain⟨x3530,rfl⟩:∃ z,z=o3536:=⟨_,rfl⟩
      rintro e s ⟨rfl,rfl⟩
      refine AWp.cond x3530 (by kernel_rfl) (fun c3531 => ?_) (fun c3531 => ?_)
      ·replace H:=iT c3531 H
       refine sO hP hn hm [] [(2,.none0),(3,iV .i64 6)] [2,3] [] [] ?_
       refine AWp.conv (inv:=[]) (vk:=[]) (e0:=[0]) (t:=⟨[(2,.own 0),(3,iV .i64 6)],[(0,some (.row 9 38 ([].map Zc)))],0⟩) (by kernel_rfl) ?_
       refine AWp.ret ?_
       obtain rfl:=sj H
       exact rl (.inl rfl) rfl (by kernel_rfl) (by kernel_rfl)
      ·replace H:=iF c3531 H
       refine AWp.skip ?_
       refine sO hP hn hm [] [(2,.own 12),(3,iV .i64 0)] [2,3] [] [12] ?_
       refine AWp.conv (inv:=[(12,0)]) (vk:=[]) (e0:=[]) (t:=⟨[(2,.own 0),(3,iV .i64 0)],[(0,some (.row 9 38 (t3418.1.map Zc)))],0⟩) (by kernel_rfl) ?_
       refine AWp.ret ?_
       obtain rfl:=sj H
       exact rl (.inl rfl) rfl (by kernel_rfl) (by kernel_rfl)
def Z1o.l0 (a0:List Z2) (a1:List Z2) (x3576:Int):Option (Bool ⊕ Unit):=if(decide (x3576<(a0.length:Int)))=true then((at? a0 x3576)>>=fun b3584=>(at? a1 x3576)>>=fun b3587=>if(!((b3584.f0==b3587.f0)&&((b3584.f1==b3587.f1)&&true)))=true then(some (.inl false)) else(Z1o.l0 a0 a1 (i64.wrap (x3576+(1:Int))))) else(some (.inr ()))
partial_fixpoint
def Z1o.f (a0:List Z2) (a1:List Z2):Option (Bool):=if((a0.length:Int) != (a1.length:Int))=true then(some false) else((Z1o.l0 a0 a1 0)>>=fun oo=>match oo with | .inl rr=>(some rr) | .inr _=>(some true))
theorem Z1o.ok (a0:List Z2) (a1:List Z2) (r:Bool) (H:Z1o.f a0 a1=some r):Pv.Fn Try.prog 56 [.im (.row (a0.map Z0)),.im (.row (a1.map Z0))] [] 0 (fun x o=>x=bV r∧o=[]):=by
 unfold Z1o.f at H
 refine Fn.bodyK [] Try.func56 rfl rfl (fun Γ hP hn => ?_)
 have hm:Try.prog.follows .mixedOrders=true:=by kernel_rfl
 replace hn:Γ.n=26:=hn
 refine sO hP hn hm [] [] [0,1] [] [] ?_
 refine AWp.seq ?_
 refine sR hP hn hm [(1,.any (iV .i64 (a0.length:Int))),(3,.any (iV .i64 (a1.length:Int)))] [(10,bV ((a0.length:Int) != (a1.length:Int)))] [0,1,10] [] [] [((a0.map Z0).length:Int)=(a0.length:Int),((a1.map Z0).length:Int)=(a1.length:Int)] ⟨by rw[Zv],by rw[Zv],trivial⟩ ?_
 refine AWp.cond ((a0.length:Int) != (a1.length:Int)) (by kernel_rfl) (fun c3561 => ?_) (fun c3561 => ?_)
 ·replace H:=iT c3561 H
  refine sO hP hn hm [] [(4,bV false)] [4] [] [] ?_
  refine AWp.conv (inv:=[]) (vk:=[]) (e0:=[]) (t:=⟨[(4,bV false)],[],0⟩) (by kernel_rfl) ?_
  refine AWp.ret ?_
  obtain rfl:=sj H
  exact rl (.inl rfl) rfl (by kernel_rfl) (by kernel_rfl)
 ·replace H:=iF c3561 H
  refine AWp.skip ?_
  refine AWp.seq ?_
  refine sO hP hn hm [] [(5,iV .i64 0)] [0,1,5] [] [] ?_
  refine AWp.block ?_
  obtain⟨o3591,e3592,H⟩:=Z4 H
  refine AWp.loop (LWp.conv (inv:=[]) (vk:=[]) (e0:=[]) (t:=⟨[(0,.im (.row (a0.map Z0))),(1,.im (.row (a1.map Z0))),(5,iV .i64 0)],[],0⟩) (by kernel_rfl) ?_)
  refine LWp.mono (Q:=fun e s=>(match (generalizing:=false) o3591 with | .inl rr=>e = .ret∧s.floor=0∧Z2f Try.prog Try.f56 s=some (bV rr)∧([]:List (Nat×Option MObj))=[] | .inr _=>e = .exit 0∧s=⟨[],[],0⟩)) (LWp.cv (Z07 (fun body hbody => ?_))) ?_
  ·refine        Z1o.l0.partial_correctness a0 a1 (motive:=fun x3576 o3591=>LWp Γ body (fun e s=>∃ t,Cv Γ s t∧(match (generalizing:=false) o3591 with | .inl rr=>e = .ret∧t.floor=0∧Z2f   Try.prog Try.f56 t=some (bV rr)∧([]:List (Nat×Option MObj))=[] | .inr _=>e = .exit 0∧t=⟨[],[],0⟩)) ⟨[(0,.im (.row (a0.map Z0     ))),(1,.im (.row (a1.map Z0     ))),(5,iV .i64 x3576)],[],0⟩) ?_ _ _ e3592
   clear H e3592 o3591;intro self ih x3576 o3591 H
   subst hbody
   refine LWp.round ?_
   refine AWp.seq ?_
   refine sR hP hn hm [(2,.any (iV .i64 (a0.length:Int)))] [(14,bV (decide (x3576<(a0.length:Int))))] [0,1,5,14] [] [] [((a0.map Z0).length:Int)=(a0.length:Int)] ⟨by rw[Zv],trivial⟩ ?_
   refine AWp.cond (decide (x3576<(a0.length:Int))) (by kernel_rfl) (fun c3577 => ?_) (fun c3577 => ?_)
   ·replace H:=iT c3577 H
    refine AWp.skip ?_
    refine AWp.seq ?_
    refine AWp.block ?_
    obtain⟨b3584,p3585,q3586,H⟩:=Z0q H
    obtain⟨b3587,p3588,q3589,H⟩:=Z0q H
    refine sR hP hn hm [(2,.c (Z0 b3584)),(6,.c (Z0 b3587)),(8,.more (xAgg none))] [(25,bV (!((b3584.f0==b3587.f0)&&((b3584.f1==b3587.f1)&&true))))] [0,1,5,25] [] [] [_,_,_,_] ⟨p3585,Zu Z0 q3586,p3588,Zu Z0 q3589,trivial⟩ ?_
    refine AWp.cond (!((b3584.f0==b3587.f0)&&((b3584.f1==b3587.f1)&&true))) (by kernel_rfl) (fun c3590 => ?_) (fun c3590 => ?_)
    ·replace H:=iT c3590 H
     refine sO hP hn hm [] [(4,bV false)] [4] [] [] ?_
     refine AWp.conv (inv:=[]) (vk:=[]) (e0:=[]) (t:=⟨[(4,bV false)],[],0⟩) (by kernel_rfl) ?_
     refine AWp.ret ?_
     obtain rfl:=sj H
     exact rl rfl rfl (by kernel_rfl) (by kernel_rfl)
    ·replace H:=iF c3590 H
     refine AWp.skip ?_
     refine rO hP hn hm [] [(5,iV .i64 (i64.wrap (x3576+(1:Int))))] [0,1,5] [] [] ?_
     exact LWp.conv [] [] [] (by kernel_rfl) (ih _ _ H)
   ·replace H:=iF c3577 H
    refine AWp.exit ?_
    obtain rfl:=sj H
    exact lf [] [] [] (by kernel_rfl) ⟨rfl,rfl⟩
  ·rcases o3591 with rr | _
   ·skip
    rintro e s ⟨rfl,hfl,hres⟩
    obtain rfl:=sj H
    exact Exists.intro _ (And.intro (fun _ _ h=>h) (And.intro (.inl rfl) (And.intro hfl hres)))
   ·skip
    rintro e s ⟨rfl,rfl⟩
    refine sO hP hn hm [] [(4,bV true)] [4] [] [] ?_
    refine AWp.conv (inv:=[]) (vk:=[]) (e0:=[]) (t:=⟨[(4,bV true)],[],0⟩) (by kernel_rfl) ?_
    refine AWp.ret ?_
    obtain rfl:=sj H
    exact rl (.inl rfl) rfl (by kernel_rfl) (by kernel_rfl)
def Z31.f (a0:Zp) (a1:Zp):Option (Bool):=((if(a0.f0==a1.f0)=true then(if(a0.f1==a1.f1)=true then(if(a0.f2==a1.f2)=true then(if(a0.f3==a1.f3)=true then(if(a0.f4==a1.f4)=true then(if(a0.f5==a1.f5)=true then((Z1o.f a0.f6 a1.f6)>>=fun t3604=>if t3604=true then((Z1o.f a0.f7 a1.f7)>>=fun t3607=>some t3607) else(some false)) else(some false)) else(some false)) else(some false)) else(some false)) else(some false)) else(some false)):Option (Bool))>>=fun x3609=>some x3609
theorem Z31.ok (a0:Zp) (a1:Zp) (r:Bool) (H:Z31.f a0 a1=some r):Pv.Fn Try.prog 31 [.agg (Zx a0),.agg (Zx a1)] [] 0 (fun x o=>x=bV r∧o=[]):=by
 unfold Z31.f at H
 refine Fn.bodyK [] Try.func31 rfl rfl (fun Γ hP hn => ?_)
 have hm:Try.prog.follows .mixedOrders=true:=by kernel_rfl
 replace hn:Γ.n=59:=hn
 refine sO hP hn hm [(0,.k 0),(1,.k 1)] [(2,.ptr 0 0 0),(3,.ptr 1 0 0)] [2,3] [(0,some (.box 36 (Zx a0))),(1,some (.box 36 (Zx a1)))] [0,1] ?_
 refine AWp.seq ?_
 obtain⟨o3610,e3611,H⟩:=Z4 H
 refine AWp.mono (Q:=fun e s=>(match (generalizing:=false) o3610 with | x3609=>e = .normal∧s=⟨[(4,bV x3609)],[],0⟩)) (AWp.cv ?_) ?_
 ·replace H:=e3611;clear e3611
  rcases Bool.eq_false_or_eq_true (a0.f0==a1.f0) with c3598 | c3598
  ·replace H:=iT c3598 H
   rcases Bool.eq_false_or_eq_true (a0.f1==a1.f1) with c3599 | c3599
   ·replace H:=iT c3599 H
    rcases Bool.eq_false_or_eq_true (a0.f2==a1.f2) with c3600 | c3600
    ·replace H:=iT c3600 H
     rcases Bool.eq_false_or_eq_true (a0.f3==a1.f3) with c3601 | c3601
     ·replace H:=iT c3601 H
      rcases Bool.eq_false_or_eq_true (a0.f4==a1.f4) with c3602 | c3602
      ·replace H:=iT c3602 H
       rcases Bool.eq_false_or_eq_true (a0.f5==a1.f5) with c3603 | c3603
       ·replace H:=iT c3603 H
        obtain⟨t3604,e3605,H⟩:=Z4 H
        rcases Bool.eq_false_or_eq_true t3604 with c3606 | c3606
        ·replace H:=iT c3606 H
         obtain⟨t3607,e3608,H⟩:=Z4 H
         refine rG hP hn hm [(5,.b true),(12,.b true),(19,.b true),(26,.b true),(33,.b true),(40,.b true),(45,.call [] [] [] [] 0 (bV t3604) []),(47,.b true),(52,.call [] [] [] [] 0 (bV t3607) [])] [(4,bV t3607)] [4] [] [] [_,_,_,_,_,_,_,_,_,_,_] ⟨c3598,c3599,c3600,c3601,c3602,c3603,Try.call56,Z1o.ok a0.f6 a1.f6 t3604 e3605,c3606,Try.call56,Z1o.ok a0.f7 a1.f7 t3607 e3608,trivial⟩ ?_
         obtain rfl:=sj H
         exact lf [] [] [] (by kernel_rfl) ⟨rfl,rfl⟩
        ·replace H:=iF c3606 H
         refine rG hP hn hm [(5,.b true),(12,.b true),(19,.b true),(26,.b true),(33,.b true),(40,.b true),(45,.call [] [] [] [] 0 (bV t3604) []),(47,.b false)] [(4,bV false)] [4] [] [] [_,_,_,_,_,_,_,_,_] ⟨c3598,c3599,c3600,c3601,c3602,c3603,Try.call56,Z1o.ok a0.f6 a1.f6 t3604 e3605,c3606,trivial⟩ ?_
         obtain rfl:=sj H
         exact lf [] [] [] (by kernel_rfl) ⟨rfl,rfl⟩
       ·replace H:=iF c3603 H
        refine rG hP hn hm [(5,.b true),(12,.b true),(19,.b true),(26,.b true),(33,.b true),(40,.b false)] [(4,bV false)] [4] [] [] [_,_,_,_,_,_] ⟨c3598,c3599,c3600,c3601,c3602,c3603,trivial⟩ ?_
        obtain rfl:=sj H
        exact lf [] [] [] (by kernel_rfl) ⟨rfl,rfl⟩
      ·replace H:=iF c3602 H
       refine rG hP hn hm [(5,.b true),(12,.b true),(19,.b true),(26,.b true),(33,.b false)] [(4,bV false)] [4] [] [] [_,_,_,_,_] ⟨c3598,c3599,c3600,c3601,c3602,trivial⟩ ?_
       obtain rfl:=sj H
       exact lf [] [] [] (by kernel_rfl) ⟨rfl,rfl⟩
     ·replace H:=iF c3601 H
      refine rG hP hn hm [(5,.b true),(12,.b true),(19,.b true),(26,.b false)] [(4,bV false)] [4] [] [] [_,_,_,_] ⟨c3598,c3599,c3600,c3601,trivial⟩ ?_
      obtain rfl:=sj H
      exact lf [] [] [] (by kernel_rfl) ⟨rfl,rfl⟩
    ·replace H:=iF c3600 H
     refine rG hP hn hm [(5,.b true),(12,.b true),(19,.b false)] [(4,bV false)] [4] [] [] [_,_,_] ⟨c3598,c3599,c3600,trivial⟩ ?_
     obtain rfl:=sj H
     exact lf [] [] [] (by kernel_rfl) ⟨rfl,rfl⟩
   ·replace H:=iF c3599 H
    refine rG hP hn hm [(5,.b true),(12,.b false)] [(4,bV false)] [4] [] [] [_,_] ⟨c3598,c3599,trivial⟩ ?_
    obtain rfl:=sj H
    exact lf [] [] [] (by kernel_rfl) ⟨rfl,rfl⟩
  ·replace H:=iF c3598 H
   refine rG hP hn hm [(5,.b false)] [(4,bV false)] [4] [] [] [_] ⟨c3598,trivial⟩ ?_
   obtain rfl:=sj H
   exact lf [] [] [] (by kernel_rfl) ⟨rfl,rfl⟩
 ·obtain⟨x3609,rfl⟩:∃ z,z=o3610:=⟨_,rfl⟩
  rintro e s ⟨rfl,rfl⟩
  refine AWp.conv (inv:=[]) (vk:=[]) (e0:=[]) (t:=⟨[(4,bV x3609)],[],0⟩) (by kernel_rfl) ?_
  refine AWp.ret ?_
  obtain rfl:=sj H
  exact rl (.inl rfl) rfl (by kernel_rfl) (by kernel_rfl)
def Z1b.l0 (a0:List Zh) (a1:List Zh) (x3625:Int):Option (Bool ⊕ Unit):=if(decide (x3625<(a0.length:Int)))=true then((((at? a0 x3625)>>=fun b3636=>(at? a1 x3625)>>=fun b3639=>if(b3636.f0 != b3639.f0)=true then(some true) else((Z31.f b3636.f1 b3639.f1)>>=fun t3643=>some (!t3643))):Option (Bool))>>=fun x3645=>if x3645=true then(some (.inl false)) else(Z1b.l0 a0 a1 (i64.wrap (x3625+(1:Int))))) else(some (.inr ()))
partial_fixpoint
def Z1b.f (a0:List Zh) (a1:List Zh):Option (Bool):=if((a0.length:Int) != (a1.length:Int))=true then(some false) else((Z1b.l0 a0 a1 0)>>=fun oo=>match oo with | .inl rr=>(some rr) | .inr _=>(some true))
theorem Z1b.ok (a0:List Zh) (a1:List Zh) (r:Bool) (H:Z1b.f a0 a1=some r):Pv.Fn Try.prog 9 [.im (.row (a0.map Zc)),.im (.row (a1.map Zc))] [] 0 (fun x o=>x=bV r∧o=[]):=by
 unfold Z1b.f at H
 refine Fn.bodyK [] Try.func9 rfl rfl (fun Γ hP hn => ?_)
 have hm:Try.prog.follows .mixedOrders=true:=by kernel_rfl
 replace hn:Γ.n=42:=hn
 refine sO hP hn hm [] [] [0,1] [] [] ?_
 refine AWp.seq ?_
 refine sR hP hn hm [(1,.any (iV .i64 (a0.length:Int))),(3,.any (iV .i64 (a1.length:Int)))] [(10,bV ((a0.length:Int) != (a1.length:Int)))] [0,1,10] [] [] [((a0.map Zc).length:Int)=(a0.length:Int),((a1.map Zc).length:Int)=(a1.length:Int)] ⟨by rw[Zv],by rw[Zv],trivial⟩ ?_
 refine AWp.cond ((a0.length:Int) != (a1.length:Int)) (by kernel_rfl) (fun c3546 => ?_) (fun c3546 => ?_)
 ·replace H:=iT c3546 H
  refine sO hP hn hm [] [(4,bV false)] [4] [] [] ?_
  refine AWp.conv (inv:=[]) (vk:=[]) (e0:=[]) (t:=⟨[(4,bV false)],[],0⟩) (by kernel_rfl) ?_
  refine AWp.ret ?_
  obtain rfl:=sj H
  exact rl (.inl rfl) rfl (by kernel_rfl) (by kernel_rfl)
 ·replace H:=iF c3546 H
  refine AWp.skip ?_
  refine AWp.seq ?_
  refine sR hP hn hm [(1,.any (iV .i64 (a0.length:Int)))] [(12,iV .i64 (a0.length:Int)),(13,iV .i64 0)] [0,1,12,13] [] [] [((a0.map Zc).length:Int)=(a0.length:Int)] ⟨by rw[Zv],trivial⟩ ?_
  refine AWp.block ?_
  obtain⟨o3647,e3648,H⟩:=Z4 H
  refine AWp.loop (LWp.conv (inv:=[]) (vk:=[]) (e0:=[]) (t:=⟨[(0,.im (.row (a0.map Zc))),(1,.im (.row (a1.map Zc))),(12,iV .i64 (a0.length:Int)),(13,iV .i64 0)],[],0⟩) (by kernel_rfl) ?_)
  refine LWp.mono (Q:=fun e s=>(match (generalizing:=false) o3647 with | .inl rr=>e = .ret∧s.floor=0∧Z2f Try.prog Try.f9 s=some (bV rr)∧([]:List (Nat×Option MObj))=[] | .inr _=>e = .exit 0∧s=⟨[],[],0⟩)) (LWp.cv (Z07 (fun body hbody => ?_))) ?_
  ·refine        Z1b.l0.partial_correctness a0 a1 (motive:=fun x3625 o3647=>LWp Γ body (fun e s=>∃ t,Cv Γ s t∧(match (generalizing:=false) o3647 with | .inl rr=>e = .ret∧t.floor=0∧Z2f   Try.prog Try.f9 t=some (bV rr)∧([]:List (Nat×Option MObj))=[] | .inr _=>e = .exit 0∧t=⟨[],[],0⟩)) ⟨[(0,.im (.row (a0.map Zc     ))),(1,.im (.row (a1.map Zc     ))),(12,iV .i64 (a0.length:Int)),(13,iV .i64 x3625)],[],0⟩) ?_ _ _ e3648
   clear H e3648 o3647;intro self ih x3625 o3647 H
   subst hbody
   refine LWp.round ?_
   refine sO hP hn hm [] [(14,bV (decide (x3625<(a0.length:Int))))] [0,1,12,13,14] [] [] ?_
   refine AWp.seq ?_
   refine AWp.cond (decide (x3625<(a0.length:Int))) (by kernel_rfl) (fun c3626 => ?_) (fun c3626 => ?_)
   ·replace H:=iT c3626 H
    refine AWp.skip ?_
    refine AWp.seq ?_
    refine AWp.block ?_
    refine sO hP hn hm [] [(5,iV .i64 x3625)] [0,1,5,12,13] [] [] ?_
    refine AWp.seq ?_
    obtain⟨o3649,e3650,H⟩:=Z4 H
    refine AWp.mono (Q:=fun e s=>(match (generalizing:=false) o3649 with | x3645=>e = .normal∧s=⟨[(0,.im (.row (a0.map Zc))),(1,.im (.row (a1.map Zc))),(12,iV .i64 (a0.length:Int)),(13,iV .i64 x3625),(40,bV x3645)],[],0⟩)) (AWp.cv ?_) ?_
    ·replace H:=e3650;clear e3650
     obtain⟨b3636,p3637,q3638,H⟩:=Z0q H
     obtain⟨b3639,p3640,q3641,H⟩:=Z0q H
     rcases Bool.eq_false_or_eq_true (b3636.f0 != b3639.f0) with c3642 | c3642
     ·replace H:=iT c3642 H
      refine rG hP hn hm [(2,.c (Zc b3636)),(7,.c (Zc b3639)),(11,.b true)] [(40,bV true)] [0,1,12,13,40] [] [] [_,_,_,_,_] ⟨p3637,Zu Zc q3638,p3640,Zu Zc q3641,c3642,trivial⟩ ?_
      obtain rfl:=sj H
      exact lf [] [] [] (by kernel_rfl) ⟨rfl,rfl⟩
     ·replace H:=iF c3642 H
      obtain⟨t3643,e3644,H⟩:=Z4 H
      refine rG hP hn hm [(2,.c (Zc b3636)),(7,.c (Zc b3639)),(11,.b false),(14,.c (Zc b3636)),(19,.c (Zc b3639)),(22,.call [] [] [] [] 0 (bV t3643) [])] [(28,.im (.row (a0.map Zc))),(29,iV .i64 x3625),(30,.ip [iI .i64 b3636.f0,iI .i64 b3636.f1.f0,iI .i64 b3636.f1.f1,iI .i64 b3636.f1.f2,iI .u64 b3636.f1.f3,iI .u64 b3636.f1.f4,iI .i64 b3636.f1.f5,.row (b3636.f1.f6.map Z0),.row (b3636.f1.f7.map Z0)]),(31,.ip [iI .i64 b3636.f1.f0,iI .i64 b3636.f1.f1,iI .i64 b3636.f1.f2,iI .u64 b3636.f1.f3,iI .u64 b3636.f1.f4,iI .i64 b3636.f1.f5,.row (b3636.f1.f6.map Z0),.row (b3636.f1.f7.map Z0)]),(32,.agg (Zx b3636.f1)),(33,.im (.row (a1.map Zc))),(34,iV .i64 x3625),(35,.ip [iI .i64 b3639.f0,iI .i64 b3639.f1.f0,iI .i64 b3639.f1.f1,iI .i64 b3639.f1.f2,iI .u64 b3639.f1.f3,iI .u64 b3639.f1.f4,iI .i64 b3639.f1.f5,.row (b3639.f1.f6.map Z0),.row (b3639.f1.f7.map Z0)]),(36,.ip [iI .i64 b3639.f1.f0,iI .i64 b3639.f1.f1,iI .i64 b3639.f1.f2,iI .u64 b3639.f1.f3,iI .u64 b3639.f1.f4,iI .i64 b3639.f1.f5,.row (b3639.f1.f6.map Z0),.row (b3639.f1.f7.map Z0)]),(37,.agg (Zx b3639.f1)),(38,bV t3643),(39,bV (!t3643)),(40,bV (!t3643))] [0,1,12,13,28,29,30,31,32,33,34,35,36,37,38,39,40] [] [] [_,_,_,_,_,_,_,_,_,_,_] ⟨p3637,Zu Zc q3638,p3640,Zu Zc q3641,c3642,p3637,Zu Zc q3638,p3640,Zu Zc q3641,Try.call31,Z31.ok b3636.f1 b3639.f1 t3643 e3644,trivial⟩ ?_
      obtain rfl:=sj H
      exact lf [] [] [] (by kernel_rfl) ⟨rfl,rfl⟩
    ·obtain⟨x3645,rfl⟩:∃ z,z=o3649:=⟨_,rfl⟩
     rintro e s ⟨rfl,rfl⟩
     refine AWp.cond x3645 (by kernel_rfl) (fun c3646 => ?_) (fun c3646 => ?_)
     ·replace H:=iT c3646 H
      refine sO hP hn hm [] [(4,bV false)] [4] [] [] ?_
      refine AWp.conv (inv:=[]) (vk:=[]) (e0:=[]) (t:=⟨[(4,bV false)],[],0⟩) (by kernel_rfl) ?_
      refine AWp.ret ?_
      obtain rfl:=sj H
      exact rl rfl rfl (by kernel_rfl) (by kernel_rfl)
     ·replace H:=iF c3646 H
      refine AWp.skip ?_
      refine rO hP hn hm [] [(13,iV .i64 (i64.wrap (x3625+(1:Int))))] [0,1,12,13] [] [] ?_
      exact LWp.conv [] [] [] (by kernel_rfl) (ih _ _ H)
   ·replace H:=iF c3626 H
    refine AWp.exit ?_
    obtain rfl:=sj H
    exact lf [] [] [] (by kernel_rfl) ⟨rfl,rfl⟩
  ·rcases o3647 with rr | _
   ·skip
    rintro e s ⟨rfl,hfl,hres⟩
    obtain rfl:=sj H
    exact Exists.intro _ (And.intro (fun _ _ h=>h) (And.intro (.inl rfl) (And.intro hfl hres)))
   ·skip
    rintro e s ⟨rfl,rfl⟩
    refine sO hP hn hm [] [(4,bV true)] [4] [] [] ?_
    refine AWp.conv (inv:=[]) (vk:=[]) (e0:=[]) (t:=⟨[(4,bV true)],[],0⟩) (by kernel_rfl) ?_
    refine AWp.ret ?_
    obtain rfl:=sj H
    exact rl (.inl rfl) rfl (by kernel_rfl) (by kernel_rfl)
def Z1d.f  : Option (Bool):=(Z35.f 0 0)>>=fun t34=>(Zm.f [(⟨0,(t34)⟩:Zh)])>>=fun t2526=>(Z0p.f t2526.1)>>=fun t3542=>((if(t2526.2==(0:Int))=true then(if(t3542.2==(0:Int))=true then((Z1b.f [(⟨0,(t34)⟩:Zh)] t3542.1)>>=fun t3655=>some t3655) else(some false)) else(some false)):Option (Bool))>>=fun x3657=>some x3657
theorem Z1d.ok  (r:Bool) (H:Z1d.f  = some r):Pv.Fn Try.prog 6 [] [] 0 (fun x o=>x=bV r∧o=[]):=by
 unfold Z1d.f at H
 refine Fn.bodyK [] Try.func6 rfl rfl (fun Γ hP hn => ?_)
 have hm:Try.prog.follows .mixedOrders=true:=by kernel_rfl
 replace hn:Γ.n=30:=hn
 refine sO hP hn hm [] [] [] [] [] ?_
 obtain⟨t34,e35,H⟩:=Z4 H
 refine sR hP hn hm [(0,.call [] [] [] [] 0 (.agg (Zx (t34))) []),(2,.app 0 ([(⟨0,(t34)⟩:Zh)].map Zc))] [(1,.own 0)] [1] [(0,some (.row 9 38 ([(⟨0,(t34)⟩:Zh)].map Zc)))] [0] [_,_,[(⟨0,(t34)⟩:Zh)].map Zc=[[iI .i64 0,iI .i64 ((t34).f0),iI .i64 ((t34).f1),iI .i64 ((t34).f2),iI .u64 ((t34).f3),iI .u64 ((t34).f4),iI .i64 ((t34).f5),.row (((t34).f6).map Z0),.row (((t34).f7).map Z0)]]] ⟨Try.call14,Z35.ok 0 0 t34 e35,by exact rfl,trivial⟩ ?_
 obtain⟨t2526,e2527,H⟩:=Z4 H
 refine sR hP hn hm [(1,.more (Z4p [] [(0,1)] [0] [1] 0 (.tup [.own 0,iV .i64 t2526.2]) [(0,some (.row 1 5 (t2526.1.map (Z1 .u8))))]))] [(2,.own 1),(3,iV .i64 t2526.2)] [1,2,3] [(1,some (.row 1 5 (t2526.1.map (Z1 .u8))))] [0,1] [_,_,∀ c∈t2526.1.map (Z1 .u8),∀ x∈c,∃ v,x=Im.sc v] ⟨Try.call7,Zm.ok [(⟨0,(t34)⟩:Zh)] t2526 e2527,by exact Z4y _ _ (fun _=>by simp),trivial⟩ ?_
 refine AWp.seq ?_
 refine AWp.conv (inv:=[(0,0)]) (vk:=[1]) (e0:=[]) (t:=⟨[(1,.own 0),(2,.im (.row (t2526.1.map (Z1 .u8)))),(3,iV .i64 t2526.2)],[(0,some (.row 9 38 ([(⟨0,(t34)⟩:Zh)].map Zc)))],0⟩) (by kernel_rfl) ?_
 obtain⟨t3542,e3543,H⟩:=Z4 H
 refine rG hP hn hm [(1,.call [] [(0,2)] [] [2] 0 (.tup [.own 0,iV .i64 t3542.2]) [(0,some (.row 9 38 (t3542.1.map Zc)))])] [(4,.own 2),(5,iV .i64 t3542.2)] [1,3,4,5] [(2,some (.row 9 38 (t3542.1.map Zc)))] [0,2] [_,_] ⟨Try.call8,Z0p.ok t2526.1 t3542 e3543,trivial⟩ ?_
 refine AWp.seq ?_
 obtain⟨o3658,e3659,H⟩:=Z4 H
 refine AWp.mono (Q:=fun e s=>(match (generalizing:=false) o3658 with | x3657=>e = .normal∧s=⟨[(0,bV x3657)],[],0⟩)) (AWp.cv ?_) ?_
 ·replace H:=e3659;clear e3659
  rcases Bool.eq_false_or_eq_true (t2526.2==(0:Int)) with c3653 | c3653
  ·replace H:=iT c3653 H
   rcases Bool.eq_false_or_eq_true (t3542.2==(0:Int)) with c3654 | c3654
   ·replace H:=iT c3654 H
    obtain⟨t3655,e3656,H⟩:=Z4 H
    refine rG hP hn hm [(2,.b true),(6,.b true),(9,.call [] [] [0,2] [] 0 (bV t3655) [])] [(0,bV t3655)] [0] [] [] [_,_,_,_] ⟨c3653,c3654,Try.call9,Z1b.ok [(⟨0,(t34)⟩:Zh)] t3542.1 t3655 e3656,trivial⟩ ?_
    obtain rfl:=sj H
    exact lf [] [] [] (by kernel_rfl) ⟨rfl,rfl⟩
   ·replace H:=iF c3654 H
    refine rG hP hn hm [(2,.b true),(6,.b false)] [(0,bV false)] [0] [] [] [_,_] ⟨c3653,c3654,trivial⟩ ?_
    obtain rfl:=sj H
    exact lf [] [] [] (by kernel_rfl) ⟨rfl,rfl⟩
  ·replace H:=iF c3653 H
   refine rG hP hn hm [(2,.b false)] [(0,bV false)] [0] [] [] [_] ⟨c3653,trivial⟩ ?_
   obtain rfl:=sj H
   exact lf [] [] [] (by kernel_rfl) ⟨rfl,rfl⟩
 ·obtain⟨x3657,rfl⟩:∃ z,z=o3658:=⟨_,rfl⟩
  rintro e s ⟨rfl,rfl⟩
  refine AWp.conv (inv:=[]) (vk:=[]) (e0:=[]) (t:=⟨[(0,bV x3657)],[],0⟩) (by kernel_rfl) ?_
  refine AWp.ret ?_
  obtain rfl:=sj H
  exact rl (.inl rfl) rfl (by kernel_rfl) (by kernel_rfl)
def Z27.f (a0:List Zh) (a1:List Zh) (a2:Int):Option (Bool):=(((Z0v.f a0)>>=fun t25=>if(!t25)=true then(some true) else((Z0v.f a1)>>=fun t28=>some (!t28))):Option (Bool))>>=fun x30=>if x30=true then((Z1d.f)>>=fun t3662=>some t3662) else((Zm.f a0)>>=fun t3666=>(Zm.f a1)>>=fun t3670=>((if(t3666.2 != (0:Int))=true then(some true) else(if(t3670.2 != (0:Int))=true then(some true) else(some ((t3666.1.length:Int)==(0:Int))))):Option (Bool))>>=fun x3676=>if x3676=true then((((Z1d.f)>>=fun t3682=>if t3682=true then(if(t3666.2 != (0:Int))=true then(some true) else(some (t3670.2 != (0:Int)))) else(some false)):Option (Bool))>>=fun x3686=>some x3686) else((chk ((([]:List Int).length+t3666.1.length)*1≤140737488355328))>>=fun _=>(chk (((([]:List Int)++t3666.1).length+[a2].length)*1≤140737488355328))>>=fun _=>(Z0p.f ((([]:List Int)++t3666.1)++[a2]))>>=fun t3693=>(chk (0≤(0:Int)∧(0:Int)≤(i64.wrap ((t3666.1.length:Int)-(1:Int)))∧(i64.wrap ((t3666.1.length:Int)-(1:Int)))≤(t3666.1.length:Int)))>>=fun _=>(Z0p.f ((t3666.1.drop (Int.toNat ((0:Int)))).take ((Int.toNat ((i64.wrap ((t3666.1.length:Int)-(1:Int)))))-(Int.toNat ((0:Int))))))>>=fun t3703=>(((Z1d.f)>>=fun t3712=>if t3712=true then((Z1b.f a0 a1)>>=fun t3715=>if(((Z8i t3666.1).toList==(Z8i t3670.1).toList)==t3715)=true then(if(t3693.2==(6:Int))=true then(some (t3703.2==(6:Int))) else(some false)) else(some false)) else(some false)):Option (Bool))>>=fun x3719=>some x3719))
theorem Z27.ok (a0:List Zh) (a1:List Zh) (a2:Int) (r:Bool) (H:Z27.f a0 a1 a2=some r):Pv.Fn Try.prog 3 [.im (.row (a0.map Zc)),.im (.row (a1.map Zc)),iV .u8 a2] [] 0 (fun x o=>x=bV r∧o=[]):=by
 unfold Z27.f at H
 refine Fn.bodyK [] Try.func3 rfl rfl (fun Γ hP hn => ?_)
 have hm:Try.prog.follows .mixedOrders=true:=by kernel_rfl
 replace hn:Γ.n=93:=hn
 refine sO hP hn hm [] [] [0,1,2] [] [] ?_
 refine AWp.seq ?_
 refine AWp.seq ?_
 obtain⟨o3720,e3721,H⟩:=Z4 H
 refine AWp.mono (Q:=fun e s=>(match (generalizing:=false) o3720 with | x30=>e = .normal∧s=⟨[(0,.im (.row (a0.map Zc))),(1,.im (.row (a1.map Zc))),(2,iV .u8 a2),(22,bV x30)],[],0⟩)) (AWp.cv ?_) ?_
 ·replace H:=e3721;clear e3721
  obtain⟨t25,e26,H⟩:=Z4 H
  rcases Bool.eq_false_or_eq_true (!t25) with c27 | c27
  ·replace H:=iT c27 H
   refine rG hP hn hm [(1,.call [] [] [] [] 0 (bV t25) []),(3,.b true)] [(22,bV true)] [0,1,2,22] [] [] [_,_,_] ⟨Try.call5,Z0v.ok a0 t25 e26,c27,trivial⟩ ?_
   obtain rfl:=sj H
   exact lf [] [] [] (by kernel_rfl) ⟨rfl,rfl⟩
  ·replace H:=iF c27 H
   obtain⟨t28,e29,H⟩:=Z4 H
   refine rG hP hn hm [(1,.call [] [] [] [] 0 (bV t25) []),(3,.b false),(5,.call [] [] [] [] 0 (bV t28) [])] [(22,bV (!t28))] [0,1,2,22] [] [] [_,_,_,_,_] ⟨Try.call5,Z0v.ok a0 t25 e26,c27,Try.call5,Z0v.ok a1 t28 e29,trivial⟩ ?_
   obtain rfl:=sj H
   exact lf [] [] [] (by kernel_rfl) ⟨rfl,rfl⟩
 ·obtain⟨x30,rfl⟩:∃ z,z=o3720:=⟨_,rfl⟩
  rintro e s ⟨rfl,rfl⟩
  refine AWp.cond x30 (by kernel_rfl) (fun c31 => ?_) (fun c31 => ?_)
  ·replace H:=iT c31 H
   obtain⟨t3662,e3663,H⟩:=Z4 H
   refine sR hP hn hm [(0,.call [] [] [] [] 0 (bV t3662) [])] [(6,bV t3662)] [6] [] [] [_,_] ⟨Try.call6,Z1d.ok  t3662 e3663,trivial⟩ ?_
   refine AWp.conv (inv:=[]) (vk:=[]) (e0:=[]) (t:=⟨[(6,bV t3662)],[],0⟩) (by kernel_rfl) ?_
   refine AWp.ret ?_
   obtain rfl:=sj H
   exact rl (.inl rfl) rfl (by kernel_rfl) (by kernel_rfl)
  ·replace H:=iF c31 H
   refine AWp.skip ?_
   obtain⟨t3666,e3667,H⟩:=Z4 H
   refine sR hP hn hm [(1,.call [] [(0,0)] [] [0] 0 (.tup [.own 0,iV .i64 t3666.2]) [(0,some (.row 1 5 (t3666.1.map (Z1 .u8))))])] [(7,.own 0),(8,iV .i64 t3666.2)] [0,1,2,7,8] [(0,some (.row 1 5 (t3666.1.map (Z1 .u8))))] [0] [_,_] ⟨Try.call7,Zm.ok a0 t3666 e3667,trivial⟩ ?_
   obtain⟨t3670,e3671,H⟩:=Z4 H
   refine sR hP hn hm [(1,.call [] [(0,1)] [] [1] 0 (.tup [.own 0,iV .i64 t3670.2]) [(0,some (.row 1 5 (t3670.1.map (Z1 .u8))))])] [(9,.own 1),(10,iV .i64 t3670.2)] [0,1,2,7,8,9,10] [(1,some (.row 1 5 (t3670.1.map (Z1 .u8))))] [0,1] [_,_] ⟨Try.call7,Zm.ok a1 t3670 e3671,trivial⟩ ?_
   refine AWp.seq ?_
   refine AWp.seq ?_
   obtain⟨o3722,e3723,H⟩:=Z4 H
   refine AWp.mono (Q:=fun e s=>(match (generalizing:=false) o3722 with | x3676=>e = .normal∧s=⟨[(0,.im (.row (a0.map Zc))),(1,.im (.row (a1.map Zc))),(2,iV .u8 a2),(7,.own 2),(8,iV .i64 t3666.2),(9,.own 3),(10,iV .i64 t3670.2),(44,bV x3676)],[(2,some (.row 1 5 (t3666.1.map (Z1 .u8)))),(3,some (.row 1 5 (t3670.1.map (Z1 .u8))))],0⟩)) (AWp.cv ?_) ?_
   ·replace H:=e3723;clear e3723
    rcases Bool.eq_false_or_eq_true (t3666.2 != (0:Int)) with c3674 | c3674
    ·replace H:=iT c3674 H
     refine rG hP hn hm [(2,.b true)] [(44,bV true)] [0,1,2,7,8,9,10,44] [] [0,1] [_] ⟨c3674,trivial⟩ ?_
     obtain rfl:=sj H
     exact lf [(0,2),(1,3)] [] [] (by kernel_rfl) ⟨rfl,rfl⟩
    ·replace H:=iF c3674 H
     rcases Bool.eq_false_or_eq_true (t3670.2 != (0:Int)) with c3675 | c3675
     ·replace H:=iT c3675 H
      refine rG hP hn hm [(2,.b false),(6,.b true)] [(44,bV true)] [0,1,2,7,8,9,10,44] [] [0,1] [_,_] ⟨c3674,c3675,trivial⟩ ?_
      obtain rfl:=sj H
      exact lf [(0,2),(1,3)] [] [] (by kernel_rfl) ⟨rfl,rfl⟩
     ·replace H:=iF c3675 H
      refine rG hP hn hm [(2,.b false),(6,.b false),(8,.any (iV .i64 (t3666.1.length:Int)))] [(44,bV ((t3666.1.length:Int)==(0:Int)))] [0,1,2,7,8,9,10,44] [] [0,1] [_,_,((t3666.1.map (Z1 .u8)).length:Int)=(t3666.1.length:Int)] ⟨c3674,c3675,by rw[Zv],trivial⟩ ?_
      obtain rfl:=sj H
      exact lf [(0,2),(1,3)] [] [] (by kernel_rfl) ⟨rfl,rfl⟩
   ·obtain⟨x3676,rfl⟩:∃ z,z=o3722:=⟨_,rfl⟩
    rintro e s ⟨rfl,rfl⟩
    refine AWp.cond x3676 (by kernel_rfl) (fun c3677 => ?_) (fun c3677 => ?_)
    ·replace H:=iT c3677 H
     refine AWp.seq ?_
     obtain⟨o3724,e3725,H⟩:=Z4 H
     refine AWp.mono (Q:=fun e s=>(match (generalizing:=false) o3724 with | x3686=>e = .normal∧s=⟨[(6,bV x3686)],[],0⟩)) (AWp.cv ?_) ?_
     ·replace H:=e3725;clear e3725
      obtain⟨t3682,e3683,H⟩:=Z4 H
      rcases Bool.eq_false_or_eq_true t3682 with c3684 | c3684
      ·replace H:=iT c3684 H
       rcases Bool.eq_false_or_eq_true (t3666.2 != (0:Int)) with c3685 | c3685
       ·replace H:=iT c3685 H
        refine rG hP hn hm [(0,.call [] [] [] [] 0 (bV t3682) []),(1,.b true),(4,.b true)] [(6,bV true)] [6] [] [] [_,_,_,_] ⟨Try.call6,Z1d.ok  t3682 e3683,c3684,c3685,trivial⟩ ?_
        obtain rfl:=sj H
        exact lf [] [] [] (by kernel_rfl) ⟨rfl,rfl⟩
       ·replace H:=iF c3685 H
        refine rG hP hn hm [(0,.call [] [] [] [] 0 (bV t3682) []),(1,.b true),(4,.b false)] [(6,bV (t3670.2 != (0:Int)))] [6] [] [] [_,_,_,_] ⟨Try.call6,Z1d.ok  t3682 e3683,c3684,c3685,trivial⟩ ?_
        obtain rfl:=sj H
        exact lf [] [] [] (by kernel_rfl) ⟨rfl,rfl⟩
      ·replace H:=iF c3684 H
       refine rG hP hn hm [(0,.call [] [] [] [] 0 (bV t3682) []),(1,.b false)] [(6,bV false)] [6] [] [] [_,_,_] ⟨Try.call6,Z1d.ok  t3682 e3683,c3684,trivial⟩ ?_
       obtain rfl:=sj H
       exact lf [] [] [] (by kernel_rfl) ⟨rfl,rfl⟩
     ·obtain⟨x3686,rfl⟩:∃ z,z=o3724:=⟨_,rfl⟩
      rintro e s ⟨rfl,rfl⟩
      refine AWp.conv (inv:=[]) (vk:=[]) (e0:=[]) (t:=⟨[(6,bV x3686)],[],0⟩) (by kernel_rfl) ?_
      refine AWp.ret ?_
      obtain rfl:=sj H
      exact rl (.inl rfl) rfl (by kernel_rfl) (by kernel_rfl)
    ·replace H:=iF c3677 H
     refine AWp.skip ?_
     obtain⟨c3691,H⟩:=Z17 H
     obtain⟨c3692,H⟩:=Z17 H
     obtain⟨t3693,e3694,H⟩:=Z4 H
     refine sR hP hn hm [(0,.app 4 ([].map (Z1 .u8))),(2,.app 5 ((([]:List Int)++t3666.1).map (Z1 .u8))),(4,.app 6 ([a2].map (Z1 .u8))),(5,.app 7 (((([]:List Int)++t3666.1)++[a2]).map (Z1 .u8))),(6,.call [] [(0,8)] [7] [8] 0 (.tup [.own 0,iV .i64 t3693.2]) [(0,some (.row 9 38 (t3693.1.map Zc)))])] [(12,iV .i64 t3693.2)] [0,1,7,9,12] [] [2,3] [[].map (Z1 .u8)=[],(([]:List Int)++t3666.1).map (Z1 .u8)=(([]:List Int).map (Z1 .u8))++(t3666.1.map (Z1 .u8)),∀ c∈(t3666.1.map (Z1 .u8)),c.length=1,∀ c∈(t3666.1.map (Z1 .u8)),Z12 (c.map .im)=true,((([]:List Int).map (Z1 .u8)).length+(t3666.1.map (Z1 .u8)).length)*1≤140737488355328,[a2].map (Z1 .u8)=[[iI .u8 a2]],((([]:List Int)++t3666.1)++[a2]).map (Z1 .u8)=((([]:List Int)++t3666.1).map (Z1 .u8))++([a2].map (Z1 .u8)),∀ c∈([a2].map (Z1 .u8)),c.length=1,∀ c∈([a2].map (Z1 .u8)),Z12 (c.map .im)=true,(((([]:List Int)++t3666.1).map (Z1 .u8)).length+([a2].map (Z1 .u8)).length)*1≤140737488355328,_,_] ⟨by exact rfl,by simp,by exact Z13 _ _ _ (fun _=>rfl),by exact Z16 _ _ (fun _=>rfl),by simpa using c3691,by exact rfl,by simp,by exact Z13 _ _ _ (fun _=>rfl),by exact Z16 _ _ (fun _=>rfl),by simpa using c3692,Try.call8,Z0p.ok ((([]:List Int)++t3666.1)++[a2]) t3693 e3694,trivial⟩ ?_
     refine AWp.seq ?_
     refine AWp.conv (inv:=[(3,3)]) (vk:=[2]) (e0:=[]) (t:=⟨[(0,.im (.row (a0.map Zc))),(1,.im (.row (a1.map Zc))),(7,.im (.row (t3666.1.map (Z1 .u8)))),(9,.own 3),(12,iV .i64 t3693.2)],[(3,some (.row 1 5 (t3670.1.map (Z1 .u8))))],0⟩) (by kernel_rfl) ?_
     obtain⟨c3702,H⟩:=Z17 H
     obtain⟨t3703,e3704,H⟩:=Z4 H
     refine rG hP hn hm [(2,.any (iV .i64 (t3666.1.length:Int))),(4,.rows (((t3666.1.drop (Int.toNat ((0:Int)))).take ((Int.toNat ((i64.wrap ((t3666.1.length:Int)-(1:Int)))))-(Int.toNat ((0:Int))))).map (Z1 .u8))),(5,.call [] [(0,9)] [] [9] 0 (.tup [.own 0,iV .i64 t3703.2]) [(0,some (.row 9 38 (t3703.1.map Zc)))])] [(14,iV .i64 t3703.2)] [0,1,7,9,12,14] [] [3] [((t3666.1.map (Z1 .u8)).length:Int)=(t3666.1.length:Int),0≤(0:Int),(0:Int)≤(i64.wrap ((t3666.1.length:Int)-(1:Int))),(i64.wrap ((t3666.1.length:Int)-(1:Int)))≤((t3666.1.map (Z1 .u8)).length:Int),∀ c∈t3666.1.map (Z1 .u8),c.length=1,((t3666.1.drop (Int.toNat ((0:Int)))).take ((Int.toNat ((i64.wrap ((t3666.1.length:Int)-(1:Int)))))-(Int.toNat ((0:Int))))).map (Z1 .u8)=((t3666.1.map (Z1 .u8)).drop (Int.toNat ((0:Int)))).take ((Int.toNat ((i64.wrap ((t3666.1.length:Int)-(1:Int)))))-(Int.toNat ((0:Int)))),_,_] ⟨by rw[Zv],by exact c3702.1,by simpa using c3702.2.1,by simpa using c3702.2.2,by exact Z13 _ _ _ (fun _=>rfl),by simp[cut1],Try.call8,Z0p.ok ((t3666.1.drop (Int.toNat ((0:Int)))).take ((Int.toNat ((i64.wrap ((t3666.1.length:Int)-(1:Int)))))-(Int.toNat ((0:Int))))) t3703 e3704,trivial⟩ ?_
     refine AWp.seq ?_
     obtain⟨o3726,e3727,H⟩:=Z4 H
     refine AWp.mono (Q:=fun e s=>(match (generalizing:=false) o3726 with | x3719=>e = .normal∧s=⟨[(6,bV x3719)],[],0⟩)) (AWp.cv ?_) ?_
     ·replace H:=e3727;clear e3727
      obtain⟨t3712,e3713,H⟩:=Z4 H
      rcases Bool.eq_false_or_eq_true t3712 with c3714 | c3714
      ·replace H:=iT c3714 H
       obtain⟨t3715,e3716,H⟩:=Z4 H
       rcases Bool.eq_false_or_eq_true (((Z8i t3666.1).toList==(Z8i t3670.1).toList)==t3715) with c3717 | c3717
       ·replace H:=iT c3717 H
        rcases Bool.eq_false_or_eq_true (t3693.2==(6:Int)) with c3718 | c3718
        ·replace H:=iT c3718 H
         refine rG hP hn hm [(0,.call [] [] [] [] 0 (bV t3712) []),(1,.b true),(3,.more (xStr t3666.1)),(5,.more (xStr t3670.1)),(9,.call [] [] [] [] 0 (bV t3715) []),(12,.b true),(16,.b true)] [(6,bV (t3703.2==(6:Int)))] [6] [] [] [_,_,_,t3666.1.map (Z1 .u8)=t3666.1.map (Z1 .u8),t3670.1.map (Z1 .u8)=t3670.1.map (Z1 .u8),_,_,_,_] ⟨Try.call6,Z1d.ok  t3712 e3713,c3714,by exact rfl,by exact rfl,Try.call9,Z1b.ok a0 a1 t3715 e3716,c3717,c3718,trivial⟩ ?_
         obtain rfl:=sj H
         exact lf [] [] [] (by kernel_rfl) ⟨rfl,rfl⟩
        ·replace H:=iF c3718 H
         refine rG hP hn hm [(0,.call [] [] [] [] 0 (bV t3712) []),(1,.b true),(3,.more (xStr t3666.1)),(5,.more (xStr t3670.1)),(9,.call [] [] [] [] 0 (bV t3715) []),(12,.b true),(16,.b false)] [(6,bV false)] [6] [] [] [_,_,_,t3666.1.map (Z1 .u8)=t3666.1.map (Z1 .u8),t3670.1.map (Z1 .u8)=t3670.1.map (Z1 .u8),_,_,_,_] ⟨Try.call6,Z1d.ok  t3712 e3713,c3714,by exact rfl,by exact rfl,Try.call9,Z1b.ok a0 a1 t3715 e3716,c3717,c3718,trivial⟩ ?_
         obtain rfl:=sj H
         exact lf [] [] [] (by kernel_rfl) ⟨rfl,rfl⟩
       ·replace H:=iF c3717 H
        refine rG hP hn hm [(0,.call [] [] [] [] 0 (bV t3712) []),(1,.b true),(3,.more (xStr t3666.1)),(5,.more (xStr t3670.1)),(9,.call [] [] [] [] 0 (bV t3715) []),(12,.b false)] [(6,bV false)] [6] [] [] [_,_,_,t3666.1.map (Z1 .u8)=t3666.1.map (Z1 .u8),t3670.1.map (Z1 .u8)=t3670.1.map (Z1 .u8),_,_,_] ⟨Try.call6,Z1d.ok  t3712 e3713,c3714,by exact rfl,by exact rfl,Try.call9,Z1b.ok a0 a1 t3715 e3716,c3717,trivial⟩ ?_
        obtain rfl:=sj H
        exact lf [] [] [] (by kernel_rfl) ⟨rfl,rfl⟩
      ·replace H:=iF c3714 H
       refine rG hP hn hm [(0,.call [] [] [] [] 0 (bV t3712) []),(1,.b false)] [(6,bV false)] [6] [] [] [_,_,_] ⟨Try.call6,Z1d.ok  t3712 e3713,c3714,trivial⟩ ?_
       obtain rfl:=sj H
       exact lf [] [] [] (by kernel_rfl) ⟨rfl,rfl⟩
     ·obtain⟨x3719,rfl⟩:∃ z,z=o3726:=⟨_,rfl⟩
      rintro e s ⟨rfl,rfl⟩
      refine AWp.conv (inv:=[]) (vk:=[]) (e0:=[]) (t:=⟨[(6,bV x3719)],[],0⟩) (by kernel_rfl) ?_
      refine AWp.ret ?_
      obtain rfl:=sj H
      exact rl (.inl rfl) rfl (by kernel_rfl) (by kernel_rfl)
end Go.Proofs.Ytlclecehlekjoaa.PvGE
