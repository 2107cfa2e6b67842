import Derived.Test.YtfkppdcfgmgllaaProg
import Derived.Test.YtfkppdcfgmgllaaPxEvalCuts09
set_option linter.unusedVariables false
set_option linter.unnecessarySimpa false
set_option linter.unusedSimpArgs false
set_option maxRecDepth 10000
namespace Go.Proofs.Ytfkppdcfgmgllaa.PvGD3
open Go Go.Pv
def f_pluviallaw19_awake.f  : Option (Bool):=(f_eval_Do.f (⟨2,0,0,(⟨0,0⟩:Trank_Place),0,8⟩:Teval_Ask) [(⟨5,(⟨0,0,(-524288),2,2,0,[],[]⟩:THist)⟩:TSample),(⟨9,(⟨0,0,(-524288),3,3,0,[],[]⟩:THist)⟩:TSample)])>>=fun t2408=>((if(t2408.2==(0:Int))=true then(some (((t2408.1).f2)==(2:Int))) else(some false)):Option (Bool))>>=fun x2412=>some x2412
theorem f_pluviallaw19_awake.ok  (r:Bool) (H:f_pluviallaw19_awake.f  = some r):Pv.Fn Try.prog 27 [] [] 0 (fun x o=>x=bV r∧o=[]):=by
 unfold f_pluviallaw19_awake.f at H
 refine Fn.bodyK [] Try.func27 rfl rfl (fun Γ hP hn => ?_)
 have hm:Try.prog.follows .mixedOrders=true:=by kernel_rfl
 replace hn:Γ.n=24:=hn
 refine AWp.seq ?_
 refine reg hP hn hm [] [] [] ⟨[],[],0⟩ [] (by kernel_rfl) trivial ?_
 refine AWp.seq ?_
 refine reg hP hn hm [(1,.k 0)] [1] [0] ⟨[(1,.ptr 0 0 0)],[(0,some (.box 52 [iV .i64 0,iV .i64 0,iV .i64 (-524288),iV .u64 2,iV .u64 2,iV .i64 0,.none0,.none0]))],0⟩ [] (by kernel_rfl) trivial ?_
 refine AWp.seq ?_
 refine reg hP hn hm [(1,.k 1)] [1,2] [0,1] ⟨[(1,.ptr 0 0 0),(2,.ptr 1 0 0)],[(0,some (.box 52 [iV .i64 0,iV .i64 0,iV .i64 (-524288),iV .u64 2,iV .u64 2,iV .i64 0,.none0,.none0])),(1,some (.box 52 [iV .i64 0,iV .i64 0,iV .i64 (-524288),iV .u64 3,iV .u64 3,iV .i64 0,.none0,.none0]))],0⟩ [] (by kernel_rfl) trivial ?_
 refine AWp.seq ?_
 obtain⟨t2408,e2409,H⟩:=bind_of H
 refine reg hP hn hm [(5,.app 2 ([(⟨5,(⟨0,0,(-524288),2,2,0,[],[]⟩:THist)⟩:TSample),(⟨9,(⟨0,0,(-524288),3,3,0,[],[]⟩:THist)⟩:TSample)].map eSample)),(6,.call [] [(0,3),(1,4)] [2] [3,4] 0 (.tup [.agg [iV .i64 (((t2408.1).f0).f0),iV .i64 (((t2408.1).f0).f1),iV .i64 (((t2408.1).f0).f2),iV .u64 (((t2408.1).f0).f3),iV .u64 (((t2408.1).f0).f4),iV .i64 (((t2408.1).f0).f5),.own 0,.own 1,iV .i64 ((t2408.1).f1),iV .u64 ((t2408.1).f2),iV .i64 (((t2408.1).f3).f0),iV .i64 (((t2408.1).f3).f1),iV .i64 (((t2408.1).f3).f2),iV .u64 (((t2408.1).f4).f0),iV .u64 (((t2408.1).f4).f1),iV .u64 (((t2408.1).f4).f2)],iV .i64 t2408.2]) [(0,some (.row 2 116 ((((t2408.1).f0).f6).map eBucket))),(1,some (.row 2 116 ((((t2408.1).f0).f7).map eBucket)))]),(10,.k 5)] [3,4] [3,4,5] ⟨[(3,.ptr 5 0 0),(4,iV .i64 t2408.2)],[(3,some (.row 2 116 ((((t2408.1).f0).f6).map eBucket))),(4,some (.row 2 116 ((((t2408.1).f0).f7).map eBucket))),(5,some (.box 69 [iV .i64 (((t2408.1).f0).f0),iV .i64 (((t2408.1).f0).f1),iV .i64 (((t2408.1).f0).f2),iV .u64 (((t2408.1).f0).f3),iV .u64 (((t2408.1).f0).f4),iV .i64 (((t2408.1).f0).f5),.own 3,.own 4,iV .i64 ((t2408.1).f1),iV .u64 ((t2408.1).f2),iV .i64 (((t2408.1).f3).f0),iV .i64 (((t2408.1).f3).f1),iV .i64 (((t2408.1).f3).f2),iV .u64 (((t2408.1).f4).f0),iV .u64 (((t2408.1).f4).f1),iV .u64 (((t2408.1).f4).f2)]))],0⟩ [[(⟨5,(⟨0,0,(-524288),2,2,0,[],[]⟩:THist)⟩:TSample),(⟨9,(⟨0,0,(-524288),3,3,0,[],[]⟩:THist)⟩:TSample)].map eSample=[[iI .i64 5,iI .i64 0,iI .i64 0,iI .i64 (-524288),iI .u64 2,iI .u64 2,iI .i64 0,.row [],.row []],[iI .i64 9,iI .i64 0,iI .i64 0,iI .i64 (-524288),iI .u64 3,iI .u64 3,iI .i64 0,.row [],.row []]],Enters Try.prog 29,Pv.Fn Try.prog 29 [.agg (apluvialref19_Ask ⟨((⟨2,0,0,(⟨0,0⟩:Trank_Place),0,8⟩:Teval_Ask).f0),((⟨2,0,0,(⟨0,0⟩:Trank_Place),0,8⟩:Teval_Ask).f1),((⟨2,0,0,(⟨0,0⟩:Trank_Place),0,8⟩:Teval_Ask).f2),((⟨2,0,0,(⟨0,0⟩:Trank_Place),0,8⟩:Teval_Ask).f3.f0),((⟨2,0,0,(⟨0,0⟩:Trank_Place),0,8⟩:Teval_Ask).f3.f1),((⟨2,0,0,(⟨0,0⟩:Trank_Place),0,8⟩:Teval_Ask).f4),((⟨2,0,0,(⟨0,0⟩:Trank_Place),0,8⟩:Teval_Ask).f5)⟩),.im (.row ([(⟨5,(⟨0,0,(-524288),2,2,0,[],[]⟩:THist)⟩:TSample),(⟨9,(⟨0,0,(-524288),3,3,0,[],[]⟩:THist)⟩:TSample)].map eSample))] [] 0 (fun r o=>r = .tup [.agg [iV .i64 (((t2408.1).f0).f0),iV .i64 (((t2408.1).f0).f1),iV .i64 (((t2408.1).f0).f2),iV .u64 (((t2408.1).f0).f3),iV .u64 (((t2408.1).f0).f4),iV .i64 (((t2408.1).f0).f5),.own 0,.own 1,iV .i64 ((t2408.1).f1),iV .u64 ((t2408.1).f2),iV .i64 (((t2408.1).f3).f0),iV .i64 (((t2408.1).f3).f1),iV .i64 (((t2408.1).f3).f2),iV .u64 (((t2408.1).f4).f0),iV .u64 (((t2408.1).f4).f1),iV .u64 (((t2408.1).f4).f2)],iV .i64 t2408.2]∧o=[(0,some (.row 2 116 ((((t2408.1).f0).f6).map eBucket))),(1,some (.row 2 116 ((((t2408.1).f0).f7).map eBucket)))])] (by kernel_rfl) ⟨by exact rfl,by exact Try.call29,by exact f_eval_Do.ok (⟨2,0,0,(⟨0,0⟩:Trank_Place),0,8⟩:Teval_Ask) [(⟨5,(⟨0,0,(-524288),2,2,0,[],[]⟩:THist)⟩:TSample),(⟨9,(⟨0,0,(-524288),3,3,0,[],[]⟩:THist)⟩:TSample)] t2408 e2409,trivial⟩ ?_
 refine AWp.seq ?_
 obtain⟨o2413,e2414,H⟩:=bind_of H
 refine AWp.mono (Q:=fun e s=>(match (generalizing:=false) o2413 with | x2412=>e = .normal∧s=⟨[(0,bV x2412)],[],0⟩)) (AWp.cv ?_) ?_
 ·replace H:=e2414;clear e2414
  rcases Bool.eq_false_or_eq_true (t2408.2==(0:Int)) with c2411 | c2411
  ·replace H:=(ifT c2411).symm.trans H
   refine reg hP hn hm [(2,.b true)] [0] [] ⟨[(0,bV (((t2408.1).f2)==(2:Int)))],[],0⟩ [(t2408.2==(0:Int))=true] (by kernel_rfl) ⟨by exact c2411,trivial⟩ ?_
   obtain rfl:=Option.some.inj H
   exact Exists.intro _ (And.intro (fun _ _ h=>h.conv (inv:=[]) (vk:=[]) (e0:=[]) (t:=⟨[(0,bV (((t2408.1).f2)==(2:Int)))],[],0⟩) (by kernel_rfl)) (And.intro rfl rfl))
  ·replace H:=(ifF c2411).symm.trans H
   refine reg hP hn hm [(2,.b false)] [0] [] ⟨[(0,bV false)],[],0⟩ [(t2408.2==(0:Int))=false] (by kernel_rfl) ⟨by exact c2411,trivial⟩ ?_
   obtain rfl:=Option.some.inj H
   exact Exists.intro _ (And.intro (fun _ _ h=>h.conv (inv:=[]) (vk:=[]) (e0:=[]) (t:=⟨[(0,bV false)],[],0⟩) (by kernel_rfl)) (And.intro rfl rfl))
 ·obtain⟨x2412,rfl⟩:∃ z,z=o2413:=⟨_,rfl⟩
  rintro e s ⟨rfl,rfl⟩
  refine AWp.conv (inv:=[]) (vk:=[]) (e0:=[]) (t:=⟨[(0,bV x2412)],[],0⟩) (by kernel_rfl) ?_
  refine AWp.ret ?_
  obtain rfl:=Option.some.inj H
  exact Exists.intro _ (And.intro (fun _ _ h=>h) (And.intro (.inl rfl) (And.intro rfl (And.intro (by kernel_rfl) (by kernel_rfl)))))
def f_pluviallaw19_EvalCuts.f (a0:List TSample) (a1:Int):Option (Bool):=(((f_pluviallaw19_light.f a0)>>=fun t2624=>if(!t2624)=true then(some true) else(some (decide ((a0.length:Int)<(3:Int))))):Option (Bool))>>=fun x2627=>if x2627=true then((f_pluviallaw19_awake.f)>>=fun t2631=>some t2631) else((chk ((IntKind.i64.wrap ((a0.length:Int)-(2:Int)))≠0))>>=fun _=>(f_eval_Of.f (⟨5,0,0,(⟨0,0⟩:Trank_Place),(-1),1099511627776⟩:Teval_Ask) a0)>>=fun t2637=>(at? a0 (IntKind.i64.wrap ((1:Int)+(Int.tmod (IntKind.i64.wrap (a1)) (IntKind.i64.wrap ((a0.length:Int)-(2:Int)))))))>>=fun b2644=>(f_eval_Of.f (⟨5,0,0,(⟨0,0⟩:Trank_Place),(-1),b2644.f0⟩:Teval_Ask) a0)>>=fun t2647=>(f_eval_Of.f (⟨5,0,0,(⟨0,0⟩:Trank_Place),IntKind.i64.wrap (b2644.f0-(1:Int)),1099511627776⟩:Teval_Ask) a0)>>=fun t2651=>((if(t2637.2 != (0:Int))=true then(some true) else(if(t2647.2 != (0:Int))=true then(some true) else(some (t2651.2 != (0:Int))))):Option (Bool))>>=fun x2657=>if x2657=true then((f_pluviallaw19_awake.f)>>=fun t2661=>some t2661) else((((f_pluviallaw19_awake.f)>>=fun t2667=>if t2667=true then(if(((t2637.1).f4)==(IntKind.u64.wrap (((t2647.1).f4)+((t2651.1).f4))))=true then(some (((t2637.1).f5)==(IntKind.i64.wrap (((t2647.1).f5)+((t2651.1).f5))))) else(some false)) else(some false)):Option (Bool))>>=fun x2671=>some x2671))
theorem f_pluviallaw19_EvalCuts.ok (a0:List TSample) (a1:Int) (r:Bool) (H:f_pluviallaw19_EvalCuts.f a0 a1=some r):Pv.Fn Try.prog 9 [.im (.row (a0.map eSample)),iV .u8 a1] [] 0 (fun x o=>x=bV r∧o=[]):=by
 unfold f_pluviallaw19_EvalCuts.f at H
 refine Fn.bodyK [] Try.func9 rfl rfl (fun Γ hP hn => ?_)
 have hm:Try.prog.follows .mixedOrders=true:=by kernel_rfl
 replace hn:Γ.n=89:=hn
 refine AWp.seq ?_
 refine reg hP hn hm [] [0,1] [] ⟨[(0,.im (.row (a0.map eSample))),(1,iV .u8 a1)],[],0⟩ [] (by kernel_rfl) trivial ?_
 refine AWp.seq ?_
 refine AWp.seq ?_
 obtain⟨o2672,e2673,H⟩:=bind_of H
 refine AWp.mono (Q:=fun e s=>(match (generalizing:=false) o2672 with | x2627=>e = .normal∧s=⟨[(0,.im (.row (a0.map eSample))),(1,iV .u8 a1),(19,bV x2627)],[],0⟩)) (AWp.cv ?_) ?_
 ·replace H:=e2673;clear e2673
  obtain⟨t2624,e2625,H⟩:=bind_of H
  rcases Bool.eq_false_or_eq_true (!t2624) with c2626 | c2626
  ·replace H:=(ifT c2626).symm.trans H
   refine reg hP hn hm [(1,.call [] [] [] [] 0 (bV t2624) []),(3,.b true)] [0,1,19] [] ⟨[(0,.im (.row (a0.map eSample))),(1,iV .u8 a1),(19,bV true)],[],0⟩ [Enters Try.prog 26,Pv.Fn Try.prog 26 [.im (.row (a0.map eSample))] [] 0 (fun r o=>r=bV t2624∧o=[]),(!t2624)=true] (by kernel_rfl) ⟨by exact Try.call26,by exact f_pluviallaw19_light.ok a0 t2624 e2625,by exact c2626,trivial⟩ ?_
   obtain rfl:=Option.some.inj H
   exact Exists.intro _ (And.intro (fun _ _ h=>h.conv (inv:=[]) (vk:=[]) (e0:=[]) (t:=⟨[(0,.im (.row (a0.map eSample))),(1,iV .u8 a1),(19,bV true)],[],0⟩) (by kernel_rfl)) (And.intro rfl rfl))
  ·replace H:=(ifF c2626).symm.trans H
   refine reg hP hn hm [(1,.call [] [] [] [] 0 (bV t2624) []),(3,.b false),(5,.any (iV .i64 (a0.length:Int)))] [0,1,19] [] ⟨[(0,.im (.row (a0.map eSample))),(1,iV .u8 a1),(19,bV (decide ((a0.length:Int)<(3:Int))))],[],0⟩ [Enters Try.prog 26,Pv.Fn Try.prog 26 [.im (.row (a0.map eSample))] [] 0 (fun r o=>r=bV t2624∧o=[]),(!t2624)=false,((a0.map eSample).length:Int)=(a0.length:Int)] (by kernel_rfl) ⟨by exact Try.call26,by exact f_pluviallaw19_light.ok a0 t2624 e2625,by exact c2626,by rw[len_map],trivial⟩ ?_
   obtain rfl:=Option.some.inj H
   exact Exists.intro _ (And.intro (fun _ _ h=>h.conv (inv:=[]) (vk:=[]) (e0:=[]) (t:=⟨[(0,.im (.row (a0.map eSample))),(1,iV .u8 a1),(19,bV (decide ((a0.length:Int)<(3:Int))))],[],0⟩) (by kernel_rfl)) (And.intro rfl rfl))
 ·obtain⟨x2627,rfl⟩:∃ z,z=o2672:=⟨_,rfl⟩
  rintro e s ⟨rfl,rfl⟩
  refine AWp.cond x2627 rfl (fun c2628 => ?_) (fun c2628 => ?_)
  ·replace H:=(ifT c2628).symm.trans H
   refine AWp.seq ?_
   obtain⟨t2631,e2632,H⟩:=bind_of H
   refine reg hP hn hm [(0,.call [] [] [] [] 0 (bV t2631) [])] [4] [] ⟨[(4,bV t2631)],[],0⟩ [Enters Try.prog 27,Pv.Fn Try.prog 27 [] [] 0 (fun r o=>r=bV t2631∧o=[])] (by kernel_rfl) ⟨by exact Try.call27,by exact f_pluviallaw19_awake.ok  t2631 e2632,trivial⟩ ?_
   refine AWp.conv (inv:=[]) (vk:=[]) (e0:=[]) (t:=⟨[(4,bV t2631)],[],0⟩) (by kernel_rfl) ?_
   refine AWp.ret ?_
   obtain rfl:=Option.some.inj H
   exact Exists.intro _ (And.intro (fun _ _ h=>h) (And.intro (.inl rfl) (And.intro rfl (And.intro (by kernel_rfl) (by kernel_rfl)))))
  ·replace H:=(ifF c2628).symm.trans H
   refine AWp.skip ?_
   refine AWp.seq ?_
   obtain⟨c2634,H⟩:=chk_of H
   refine reg hP hn hm [(3,.any (iV .i64 (a0.length:Int)))] [0,5] [] ⟨[(0,.im (.row (a0.map eSample))),(5,iV .i64 (IntKind.i64.wrap ((1:Int)+(Int.tmod (IntKind.i64.wrap (a1)) (IntKind.i64.wrap ((a0.length:Int)-(2:Int)))))))],[],0⟩ [((a0.map eSample).length:Int)=(a0.length:Int),(IntKind.i64.wrap ((a0.length:Int)-(2:Int)))≠0] (by kernel_rfl) ⟨by rw[len_map],by exact c2634,trivial⟩ ?_
   refine AWp.seq ?_
   obtain⟨t2637,e2638,H⟩:=bind_of H
   refine reg hP hn hm [(2,.call [] [] [] [] 0 (.tup [.agg (aHist (t2637.1)),iV .i64 t2637.2]) []),(6,.k 0)] [0,5,6,7] [0] ⟨[(0,.im (.row (a0.map eSample))),(5,iV .i64 (IntKind.i64.wrap ((1:Int)+(Int.tmod (IntKind.i64.wrap (a1)) (IntKind.i64.wrap ((a0.length:Int)-(2:Int))))))),(6,.ptr 0 0 0),(7,iV .i64 t2637.2)],[(0,some (.box 52 (aHist (t2637.1))))],0⟩ [Enters Try.prog 31,Pv.Fn Try.prog 31 [.agg (apluvialref19_Ask ⟨((⟨5,0,0,(⟨0,0⟩:Trank_Place),(-1),1099511627776⟩:Teval_Ask).f0),((⟨5,0,0,(⟨0,0⟩:Trank_Place),(-1),1099511627776⟩:Teval_Ask).f1),((⟨5,0,0,(⟨0,0⟩:Trank_Place),(-1),1099511627776⟩:Teval_Ask).f2),((⟨5,0,0,(⟨0,0⟩:Trank_Place),(-1),1099511627776⟩:Teval_Ask).f3.f0),((⟨5,0,0,(⟨0,0⟩:Trank_Place),(-1),1099511627776⟩:Teval_Ask).f3.f1),((⟨5,0,0,(⟨0,0⟩:Trank_Place),(-1),1099511627776⟩:Teval_Ask).f4),((⟨5,0,0,(⟨0,0⟩:Trank_Place),(-1),1099511627776⟩:Teval_Ask).f5)⟩),.im (.row (a0.map eSample))] [] 0 (fun r o=>r = .tup [.agg (aHist (t2637.1)),iV .i64 t2637.2]∧o=[])] (by kernel_rfl) ⟨by exact Try.call31,by exact f_eval_Of.ok (⟨5,0,0,(⟨0,0⟩:Trank_Place),(-1),1099511627776⟩:Teval_Ask) a0 t2637 e2638,trivial⟩ ?_
   refine AWp.seq ?_
   obtain⟨b2644,p2645,q2646,H⟩:=at_of H
   obtain⟨t2647,e2648,H⟩:=bind_of H
   refine reg hP hn hm [(2,.c (eSample b2644)),(7,.call [] [] [] [] 0 (.tup [.agg (aHist (t2647.1)),iV .i64 t2647.2]) []),(11,.k 1)] [0,5,6,7,8,9] [0,1] ⟨[(0,.im (.row (a0.map eSample))),(5,iV .i64 (IntKind.i64.wrap ((1:Int)+(Int.tmod (IntKind.i64.wrap (a1)) (IntKind.i64.wrap ((a0.length:Int)-(2:Int))))))),(6,.ptr 0 0 0),(7,iV .i64 t2637.2),(8,.ptr 1 0 0),(9,iV .i64 t2647.2)],[(0,some (.box 52 (aHist (t2637.1)))),(1,some (.box 52 (aHist (t2647.1))))],0⟩ [0≤(IntKind.i64.wrap ((1:Int)+(Int.tmod (IntKind.i64.wrap (a1)) (IntKind.i64.wrap ((a0.length:Int)-(2:Int)))))),(a0.map eSample)[(Int.toNat (IntKind.i64.wrap ((1:Int)+(Int.tmod (IntKind.i64.wrap (a1)) (IntKind.i64.wrap ((a0.length:Int)-(2:Int)))))))]? = some (eSample b2644),Enters Try.prog 31,Pv.Fn Try.prog 31 [.agg (apluvialref19_Ask ⟨((⟨5,0,0,(⟨0,0⟩:Trank_Place),(-1),b2644.f0⟩:Teval_Ask).f0),((⟨5,0,0,(⟨0,0⟩:Trank_Place),(-1),b2644.f0⟩:Teval_Ask).f1),((⟨5,0,0,(⟨0,0⟩:Trank_Place),(-1),b2644.f0⟩:Teval_Ask).f2),((⟨5,0,0,(⟨0,0⟩:Trank_Place),(-1),b2644.f0⟩:Teval_Ask).f3.f0),((⟨5,0,0,(⟨0,0⟩:Trank_Place),(-1),b2644.f0⟩:Teval_Ask).f3.f1),((⟨5,0,0,(⟨0,0⟩:Trank_Place),(-1),b2644.f0⟩:Teval_Ask).f4),((⟨5,0,0,(⟨0,0⟩:Trank_Place),(-1),b2644.f0⟩:Teval_Ask).f5)⟩),.im (.row (a0.map eSample))] [] 0 (fun r o=>r = .tup [.agg (aHist (t2647.1)),iV .i64 t2647.2]∧o=[])] (by kernel_rfl) ⟨by exact p2645,by exact el_map eSample q2646,by exact Try.call31,by exact f_eval_Of.ok (⟨5,0,0,(⟨0,0⟩:Trank_Place),(-1),b2644.f0⟩:Teval_Ask) a0 t2647 e2648,trivial⟩ ?_
   refine AWp.seq ?_
   obtain⟨t2651,e2652,H⟩:=bind_of H
   refine reg hP hn hm [(2,.c (eSample b2644)),(8,.call [] [] [] [] 0 (.tup [.agg (aHist (t2651.1)),iV .i64 t2651.2]) []),(12,.k 2)] [6,7,8,9,10,11] [0,1,2] ⟨[(6,.ptr 0 0 0),(7,iV .i64 t2637.2),(8,.ptr 1 0 0),(9,iV .i64 t2647.2),(10,.ptr 2 0 0),(11,iV .i64 t2651.2)],[(0,some (.box 52 (aHist (t2637.1)))),(1,some (.box 52 (aHist (t2647.1)))),(2,some (.box 52 (aHist (t2651.1))))],0⟩ [0≤(IntKind.i64.wrap ((1:Int)+(Int.tmod (IntKind.i64.wrap (a1)) (IntKind.i64.wrap ((a0.length:Int)-(2:Int)))))),(a0.map eSample)[(Int.toNat (IntKind.i64.wrap ((1:Int)+(Int.tmod (IntKind.i64.wrap (a1)) (IntKind.i64.wrap ((a0.length:Int)-(2:Int)))))))]? = some (eSample b2644),Enters Try.prog 31,Pv.Fn Try.prog 31 [.agg (apluvialref19_Ask ⟨((⟨5,0,0,(⟨0,0⟩:Trank_Place),IntKind.i64.wrap (b2644.f0-(1:Int)),1099511627776⟩:Teval_Ask).f0),((⟨5,0,0,(⟨0,0⟩:Trank_Place),IntKind.i64.wrap (b2644.f0-(1:Int)),1099511627776⟩:Teval_Ask).f1),((⟨5,0,0,(⟨0,0⟩:Trank_Place),IntKind.i64.wrap (b2644.f0-(1:Int)),1099511627776⟩:Teval_Ask).f2),((⟨5,0,0,(⟨0,0⟩:Trank_Place),IntKind.i64.wrap (b2644.f0-(1:Int)),1099511627776⟩:Teval_Ask).f3.f0),((⟨5,0,0,(⟨0,0⟩:Trank_Place),IntKind.i64.wrap (b2644.f0-(1:Int)),1099511627776⟩:Teval_Ask).f3.f1),((⟨5,0,0,(⟨0,0⟩:Trank_Place),IntKind.i64.wrap (b2644.f0-(1:Int)),1099511627776⟩:Teval_Ask).f4),((⟨5,0,0,(⟨0,0⟩:Trank_Place),IntKind.i64.wrap (b2644.f0-(1:Int)),1099511627776⟩:Teval_Ask).f5)⟩),.im (.row (a0.map eSample))] [] 0 (fun r o=>r = .tup [.agg (aHist (t2651.1)),iV .i64 t2651.2]∧o=[])] (by kernel_rfl) ⟨by exact p2645,by exact el_map eSample q2646,by exact Try.call31,by exact f_eval_Of.ok (⟨5,0,0,(⟨0,0⟩:Trank_Place),IntKind.i64.wrap (b2644.f0-(1:Int)),1099511627776⟩:Teval_Ask) a0 t2651 e2652,trivial⟩ ?_
   refine AWp.seq ?_
   refine AWp.seq ?_
   obtain⟨o2674,e2675,H⟩:=bind_of H
   refine AWp.mono (Q:=fun e s=>(match (generalizing:=false) o2674 with | x2657=>e = .normal∧s=⟨[(6,.ptr 3 0 0),(8,.ptr 4 0 0),(10,.ptr 5 0 0),(66,bV x2657)],[(3,some (.box 52 (aHist (t2637.1)))),(4,some (.box 52 (aHist (t2647.1)))),(5,some (.box 52 (aHist (t2651.1))))],0⟩)) (AWp.cv ?_) ?_
   ·replace H:=e2675;clear e2675
    rcases Bool.eq_false_or_eq_true (t2637.2 != (0:Int)) with c2655 | c2655
    ·replace H:=(ifT c2655).symm.trans H
     refine reg hP hn hm [(2,.b true)] [6,8,10,66] [0,1,2] ⟨[(6,.ptr 0 0 0),(8,.ptr 1 0 0),(10,.ptr 2 0 0),(66,bV true)],[(0,some (.box 52 (aHist (t2637.1)))),(1,some (.box 52 (aHist (t2647.1)))),(2,some (.box 52 (aHist (t2651.1))))],0⟩ [(t2637.2 != (0:Int))=true] (by kernel_rfl) ⟨by exact c2655,trivial⟩ ?_
     obtain rfl:=Option.some.inj H
     exact Exists.intro _ (And.intro (fun _ _ h=>h.conv (inv:=[(0,3),(1,4),(2,5)]) (vk:=[]) (e0:=[]) (t:=⟨[(6,.ptr 3 0 0),(8,.ptr 4 0 0),(10,.ptr 5 0 0),(66,bV true)],[(3,some (.box 52 (aHist (t2637.1)))),(4,some (.box 52 (aHist (t2647.1)))),(5,some (.box 52 (aHist (t2651.1))))],0⟩) (by kernel_rfl)) (And.intro rfl rfl))
    ·replace H:=(ifF c2655).symm.trans H
     rcases Bool.eq_false_or_eq_true (t2647.2 != (0:Int)) with c2656 | c2656
     ·replace H:=(ifT c2656).symm.trans H
      refine reg hP hn hm [(2,.b false),(6,.b true)] [6,8,10,66] [0,1,2] ⟨[(6,.ptr 0 0 0),(8,.ptr 1 0 0),(10,.ptr 2 0 0),(66,bV true)],[(0,some (.box 52 (aHist (t2637.1)))),(1,some (.box 52 (aHist (t2647.1)))),(2,some (.box 52 (aHist (t2651.1))))],0⟩ [(t2637.2 != (0:Int))=false,(t2647.2 != (0:Int))=true] (by kernel_rfl) ⟨by exact c2655,by exact c2656,trivial⟩ ?_
      obtain rfl:=Option.some.inj H
      exact Exists.intro _ (And.intro (fun _ _ h=>h.conv (inv:=[(0,3),(1,4),(2,5)]) (vk:=[]) (e0:=[]) (t:=⟨[(6,.ptr 3 0 0),(8,.ptr 4 0 0),(10,.ptr 5 0 0),(66,bV true)],[(3,some (.box 52 (aHist (t2637.1)))),(4,some (.box 52 (aHist (t2647.1)))),(5,some (.box 52 (aHist (t2651.1))))],0⟩) (by kernel_rfl)) (And.intro rfl rfl))
     ·replace H:=(ifF c2656).symm.trans H
      refine reg hP hn hm [(2,.b false),(6,.b false)] [6,8,10,66] [0,1,2] ⟨[(6,.ptr 0 0 0),(8,.ptr 1 0 0),(10,.ptr 2 0 0),(66,bV (t2651.2 != (0:Int)))],[(0,some (.box 52 (aHist (t2637.1)))),(1,some (.box 52 (aHist (t2647.1)))),(2,some (.box 52 (aHist (t2651.1))))],0⟩ [(t2637.2 != (0:Int))=false,(t2647.2 != (0:Int))=false] (by kernel_rfl) ⟨by exact c2655,by exact c2656,trivial⟩ ?_
      obtain rfl:=Option.some.inj H
      exact Exists.intro _ (And.intro (fun _ _ h=>h.conv (inv:=[(0,3),(1,4),(2,5)]) (vk:=[]) (e0:=[]) (t:=⟨[(6,.ptr 3 0 0),(8,.ptr 4 0 0),(10,.ptr 5 0 0),(66,bV (t2651.2 != (0:Int)))],[(3,some (.box 52 (aHist (t2637.1)))),(4,some (.box 52 (aHist (t2647.1)))),(5,some (.box 52 (aHist (t2651.1))))],0⟩) (by kernel_rfl)) (And.intro rfl rfl))
   ·obtain⟨x2657,rfl⟩:∃ z,z=o2674:=⟨_,rfl⟩
    rintro e s ⟨rfl,rfl⟩
    refine AWp.cond x2657 rfl (fun c2658 => ?_) (fun c2658 => ?_)
    ·replace H:=(ifT c2658).symm.trans H
     refine AWp.seq ?_
     obtain⟨t2661,e2662,H⟩:=bind_of H
     refine reg hP hn hm [(0,.call [] [] [] [] 0 (bV t2661) [])] [4] [] ⟨[(4,bV t2661)],[],0⟩ [Enters Try.prog 27,Pv.Fn Try.prog 27 [] [] 0 (fun r o=>r=bV t2661∧o=[])] (by kernel_rfl) ⟨by exact Try.call27,by exact f_pluviallaw19_awake.ok  t2661 e2662,trivial⟩ ?_
     refine AWp.conv (inv:=[]) (vk:=[]) (e0:=[]) (t:=⟨[(4,bV t2661)],[],0⟩) (by kernel_rfl) ?_
     refine AWp.ret ?_
     obtain rfl:=Option.some.inj H
     exact Exists.intro _ (And.intro (fun _ _ h=>h) (And.intro (.inl rfl) (And.intro rfl (And.intro (by kernel_rfl) (by kernel_rfl)))))
    ·replace H:=(ifF c2658).symm.trans H
     refine AWp.skip ?_
     refine AWp.seq ?_
     obtain⟨o2676,e2677,H⟩:=bind_of H
     refine AWp.mono (Q:=fun e s=>(match (generalizing:=false) o2676 with | x2671=>e = .normal∧s=⟨[(4,bV x2671)],[],0⟩)) (AWp.cv ?_) ?_
     ·replace H:=e2677;clear e2677
      obtain⟨t2667,e2668,H⟩:=bind_of H
      rcases Bool.eq_false_or_eq_true t2667 with c2669 | c2669
      ·replace H:=(ifT c2669).symm.trans H
       rcases Bool.eq_false_or_eq_true (((t2637.1).f4)==(IntKind.u64.wrap (((t2647.1).f4)+((t2651.1).f4)))) with c2670 | c2670
       ·replace H:=(ifT c2670).symm.trans H
        refine reg hP hn hm [(0,.call [] [] [] [] 0 (bV t2667) []),(1,.b true),(11,.b true)] [4] [] ⟨[(4,bV (((t2637.1).f5)==(IntKind.i64.wrap (((t2647.1).f5)+((t2651.1).f5)))))],[],0⟩ [Enters Try.prog 27,Pv.Fn Try.prog 27 [] [] 0 (fun r o=>r=bV t2667∧o=[]),t2667=true,(((t2637.1).f4)==(IntKind.u64.wrap (((t2647.1).f4)+((t2651.1).f4))))=true] (by kernel_rfl) ⟨by exact Try.call27,by exact f_pluviallaw19_awake.ok  t2667 e2668,by exact c2669,by exact c2670,trivial⟩ ?_
        obtain rfl:=Option.some.inj H
        exact Exists.intro _ (And.intro (fun _ _ h=>h.conv (inv:=[]) (vk:=[]) (e0:=[]) (t:=⟨[(4,bV (((t2637.1).f5)==(IntKind.i64.wrap (((t2647.1).f5)+((t2651.1).f5)))))],[],0⟩) (by kernel_rfl)) (And.intro rfl rfl))
       ·replace H:=(ifF c2670).symm.trans H
        refine reg hP hn hm [(0,.call [] [] [] [] 0 (bV t2667) []),(1,.b true),(11,.b false)] [4] [] ⟨[(4,bV false)],[],0⟩ [Enters Try.prog 27,Pv.Fn Try.prog 27 [] [] 0 (fun r o=>r=bV t2667∧o=[]),t2667=true,(((t2637.1).f4)==(IntKind.u64.wrap (((t2647.1).f4)+((t2651.1).f4))))=false] (by kernel_rfl) ⟨by exact Try.call27,by exact f_pluviallaw19_awake.ok  t2667 e2668,by exact c2669,by exact c2670,trivial⟩ ?_
        obtain rfl:=Option.some.inj H
        exact Exists.intro _ (And.intro (fun _ _ h=>h.conv (inv:=[]) (vk:=[]) (e0:=[]) (t:=⟨[(4,bV false)],[],0⟩) (by kernel_rfl)) (And.intro rfl rfl))
      ·replace H:=(ifF c2669).symm.trans H
       refine reg hP hn hm [(0,.call [] [] [] [] 0 (bV t2667) []),(1,.b false)] [4] [] ⟨[(4,bV false)],[],0⟩ [Enters Try.prog 27,Pv.Fn Try.prog 27 [] [] 0 (fun r o=>r=bV t2667∧o=[]),t2667=false] (by kernel_rfl) ⟨by exact Try.call27,by exact f_pluviallaw19_awake.ok  t2667 e2668,by exact c2669,trivial⟩ ?_
       obtain rfl:=Option.some.inj H
       exact Exists.intro _ (And.intro (fun _ _ h=>h.conv (inv:=[]) (vk:=[]) (e0:=[]) (t:=⟨[(4,bV false)],[],0⟩) (by kernel_rfl)) (And.intro rfl rfl))
     ·obtain⟨x2671,rfl⟩:∃ z,z=o2676:=⟨_,rfl⟩
      rintro e s ⟨rfl,rfl⟩
      refine AWp.conv (inv:=[]) (vk:=[]) (e0:=[]) (t:=⟨[(4,bV x2671)],[],0⟩) (by kernel_rfl) ?_
      refine AWp.ret ?_
      obtain rfl:=Option.some.inj H
      exact Exists.intro _ (And.intro (fun _ _ h=>h) (And.intro (.inl rfl) (And.intro rfl (And.intro (by kernel_rfl) (by kernel_rfl)))))
end Go.Proofs.Ytfkppdcfgmgllaa.PvGD3
