import Derived.Test.YtfkppdcfgmgllaaProg
import Derived.Test.YtfkppdcfgmgllaaPxEvalSteps09
set_option linter.unusedVariables false
set_option linter.unnecessarySimpa false
set_option linter.unusedSimpArgs false
set_option maxRecDepth 10000
namespace Go.Proofs.Ytfkppdcfgmgllaa.PvGD3
open Go Go.Pv
def f_pluviallaw19_awake.f  : Option (Bool):=(f_eval_Do.f (⟨2,0,0,(⟨0,0⟩:Trank_Place),0,8⟩:Teval_Ask) [(⟨5,(⟨0,0,(-524288),2,2,0,[],[]⟩:THist)⟩:TSample),(⟨9,(⟨0,0,(-524288),3,3,0,[],[]⟩:THist)⟩:TSample)])>>=fun t2408=>((if(t2408.2==(0:Int))=true then(some (((t2408.1).f2)==(2:Int))) else(some false)):Option (Bool))>>=fun x2412=>some x2412
theorem f_pluviallaw19_awake.ok  (r:Bool) (H:f_pluviallaw19_awake.f  = some r):Pv.Fn Try.prog 27 [] [] 0 (fun x o=>x=bV r∧o=[]):=by
 unfold f_pluviallaw19_awake.f at H
 refine Fn.bodyK [] Try.func27 rfl rfl (fun Γ hP hn => ?_)
 have hm:Try.prog.follows .mixedOrders=true:=by kernel_rfl
 replace hn:Γ.n=24:=hn
 refine AWp.seq ?_
 refine reg hP hn hm [] [] [] ⟨[],[],0⟩ [] (by kernel_rfl) trivial ?_
 refine AWp.seq ?_
 refine reg hP hn hm [(1,.k 0)] [1] [0] ⟨[(1,.ptr 0 0 0)],[(0,some (.box 52 [iV .i64 0,iV .i64 0,iV .i64 (-524288),iV .u64 2,iV .u64 2,iV .i64 0,.none0,.none0]))],0⟩ [] (by kernel_rfl) trivial ?_
 refine AWp.seq ?_
 refine reg hP hn hm [(1,.k 1)] [1,2] [0,1] ⟨[(1,.ptr 0 0 0),(2,.ptr 1 0 0)],[(0,some (.box 52 [iV .i64 0,iV .i64 0,iV .i64 (-524288),iV .u64 2,iV .u64 2,iV .i64 0,.none0,.none0])),(1,some (.box 52 [iV .i64 0,iV .i64 0,iV .i64 (-524288),iV .u64 3,iV .u64 3,iV .i64 0,.none0,.none0]))],0⟩ [] (by kernel_rfl) trivial ?_
 refine AWp.seq ?_
 obtain⟨t2408,e2409,H⟩:=bind_of H
 refine reg hP hn hm [(5,.app 2 ([(⟨5,(⟨0,0,(-524288),2,2,0,[],[]⟩:THist)⟩:TSample),(⟨9,(⟨0,0,(-524288),3,3,0,[],[]⟩:THist)⟩:TSample)].map eSample)),(6,.call [] [(0,3),(1,4)] [2] [3,4] 0 (.tup [.agg [iV .i64 (((t2408.1).f0).f0),iV .i64 (((t2408.1).f0).f1),iV .i64 (((t2408.1).f0).f2),iV .u64 (((t2408.1).f0).f3),iV .u64 (((t2408.1).f0).f4),iV .i64 (((t2408.1).f0).f5),.own 0,.own 1,iV .i64 ((t2408.1).f1),iV .u64 ((t2408.1).f2),iV .i64 (((t2408.1).f3).f0),iV .i64 (((t2408.1).f3).f1),iV .i64 (((t2408.1).f3).f2),iV .u64 (((t2408.1).f4).f0),iV .u64 (((t2408.1).f4).f1),iV .u64 (((t2408.1).f4).f2)],iV .i64 t2408.2]) [(0,some (.row 2 116 ((((t2408.1).f0).f6).map eBucket))),(1,some (.row 2 116 ((((t2408.1).f0).f7).map eBucket)))]),(10,.k 5)] [3,4] [3,4,5] ⟨[(3,.ptr 5 0 0),(4,iV .i64 t2408.2)],[(3,some (.row 2 116 ((((t2408.1).f0).f6).map eBucket))),(4,some (.row 2 116 ((((t2408.1).f0).f7).map eBucket))),(5,some (.box 69 [iV .i64 (((t2408.1).f0).f0),iV .i64 (((t2408.1).f0).f1),iV .i64 (((t2408.1).f0).f2),iV .u64 (((t2408.1).f0).f3),iV .u64 (((t2408.1).f0).f4),iV .i64 (((t2408.1).f0).f5),.own 3,.own 4,iV .i64 ((t2408.1).f1),iV .u64 ((t2408.1).f2),iV .i64 (((t2408.1).f3).f0),iV .i64 (((t2408.1).f3).f1),iV .i64 (((t2408.1).f3).f2),iV .u64 (((t2408.1).f4).f0),iV .u64 (((t2408.1).f4).f1),iV .u64 (((t2408.1).f4).f2)]))],0⟩ [[(⟨5,(⟨0,0,(-524288),2,2,0,[],[]⟩:THist)⟩:TSample),(⟨9,(⟨0,0,(-524288),3,3,0,[],[]⟩:THist)⟩:TSample)].map eSample=[[iI .i64 5,iI .i64 0,iI .i64 0,iI .i64 (-524288),iI .u64 2,iI .u64 2,iI .i64 0,.row [],.row []],[iI .i64 9,iI .i64 0,iI .i64 0,iI .i64 (-524288),iI .u64 3,iI .u64 3,iI .i64 0,.row [],.row []]],Enters Try.prog 29,Pv.Fn Try.prog 29 [.agg (apluvialref19_Ask ⟨((⟨2,0,0,(⟨0,0⟩:Trank_Place),0,8⟩:Teval_Ask).f0),((⟨2,0,0,(⟨0,0⟩:Trank_Place),0,8⟩:Teval_Ask).f1),((⟨2,0,0,(⟨0,0⟩:Trank_Place),0,8⟩:Teval_Ask).f2),((⟨2,0,0,(⟨0,0⟩:Trank_Place),0,8⟩:Teval_Ask).f3.f0),((⟨2,0,0,(⟨0,0⟩:Trank_Place),0,8⟩:Teval_Ask).f3.f1),((⟨2,0,0,(⟨0,0⟩:Trank_Place),0,8⟩:Teval_Ask).f4),((⟨2,0,0,(⟨0,0⟩:Trank_Place),0,8⟩:Teval_Ask).f5)⟩),.im (.row ([(⟨5,(⟨0,0,(-524288),2,2,0,[],[]⟩:THist)⟩:TSample),(⟨9,(⟨0,0,(-524288),3,3,0,[],[]⟩:THist)⟩:TSample)].map eSample))] [] 0 (fun r o=>r = .tup [.agg [iV .i64 (((t2408.1).f0).f0),iV .i64 (((t2408.1).f0).f1),iV .i64 (((t2408.1).f0).f2),iV .u64 (((t2408.1).f0).f3),iV .u64 (((t2408.1).f0).f4),iV .i64 (((t2408.1).f0).f5),.own 0,.own 1,iV .i64 ((t2408.1).f1),iV .u64 ((t2408.1).f2),iV .i64 (((t2408.1).f3).f0),iV .i64 (((t2408.1).f3).f1),iV .i64 (((t2408.1).f3).f2),iV .u64 (((t2408.1).f4).f0),iV .u64 (((t2408.1).f4).f1),iV .u64 (((t2408.1).f4).f2)],iV .i64 t2408.2]∧o=[(0,some (.row 2 116 ((((t2408.1).f0).f6).map eBucket))),(1,some (.row 2 116 ((((t2408.1).f0).f7).map eBucket)))])] (by kernel_rfl) ⟨by exact rfl,by exact Try.call29,by exact f_eval_Do.ok (⟨2,0,0,(⟨0,0⟩:Trank_Place),0,8⟩:Teval_Ask) [(⟨5,(⟨0,0,(-524288),2,2,0,[],[]⟩:THist)⟩:TSample),(⟨9,(⟨0,0,(-524288),3,3,0,[],[]⟩:THist)⟩:TSample)] t2408 e2409,trivial⟩ ?_
 refine AWp.seq ?_
 obtain⟨o2413,e2414,H⟩:=bind_of H
 refine AWp.mono (Q:=fun e s=>(match (generalizing:=false) o2413 with | x2412=>e = .normal∧s=⟨[(0,bV x2412)],[],0⟩)) (AWp.cv ?_) ?_
 ·replace H:=e2414;clear e2414
  rcases Bool.eq_false_or_eq_true (t2408.2==(0:Int)) with c2411 | c2411
  ·replace H:=(ifT c2411).symm.trans H
   refine reg hP hn hm [(2,.b true)] [0] [] ⟨[(0,bV (((t2408.1).f2)==(2:Int)))],[],0⟩ [(t2408.2==(0:Int))=true] (by kernel_rfl) ⟨by exact c2411,trivial⟩ ?_
   obtain rfl:=Option.some.inj H
   exact Exists.intro _ (And.intro (fun _ _ h=>h.conv (inv:=[]) (vk:=[]) (e0:=[]) (t:=⟨[(0,bV (((t2408.1).f2)==(2:Int)))],[],0⟩) (by kernel_rfl)) (And.intro rfl rfl))
  ·replace H:=(ifF c2411).symm.trans H
   refine reg hP hn hm [(2,.b false)] [0] [] ⟨[(0,bV false)],[],0⟩ [(t2408.2==(0:Int))=false] (by kernel_rfl) ⟨by exact c2411,trivial⟩ ?_
   obtain rfl:=Option.some.inj H
   exact Exists.intro _ (And.intro (fun _ _ h=>h.conv (inv:=[]) (vk:=[]) (e0:=[]) (t:=⟨[(0,bV false)],[],0⟩) (by kernel_rfl)) (And.intro rfl rfl))
 ·obtain⟨x2412,rfl⟩:∃ z,z=o2413:=⟨_,rfl⟩
  rintro e s ⟨rfl,rfl⟩
  refine AWp.conv (inv:=[]) (vk:=[]) (e0:=[]) (t:=⟨[(0,bV x2412)],[],0⟩) (by kernel_rfl) ?_
  refine AWp.ret ?_
  obtain rfl:=Option.some.inj H
  exact Exists.intro _ (And.intro (fun _ _ h=>h) (And.intro (.inl rfl) (And.intro rfl (And.intro (by kernel_rfl) (by kernel_rfl)))))
def f_pluviallaw19_To.f (a0:Tpluvialref19_Ask):Option (Teval_Ask):=some (⟨a0.f0,a0.f1,a0.f2,(⟨a0.f3,a0.f4⟩:Trank_Place),a0.f5,a0.f6⟩:Teval_Ask)
theorem f_pluviallaw19_To.ok (a0:Tpluvialref19_Ask) (r:Teval_Ask) (H:f_pluviallaw19_To.f a0=some r):Pv.Fn Try.prog 28 [.agg (apluvialref19_Ask a0)] [] 0 (fun x o=>x = .agg (apluvialref19_Ask ⟨((r).f0),((r).f1),((r).f2),(((r).f3).f0),(((r).f3).f1),((r).f4),((r).f5)⟩)∧o=[]):=by
 unfold f_pluviallaw19_To.f at H
 refine Fn.bodyK [] Try.func28 rfl rfl (fun Γ hP hn => ?_)
 have hm:Try.prog.follows .mixedOrders=true:=by kernel_rfl
 replace hn:Γ.n=19:=hn
 refine AWp.seq ?_
 refine reg hP hn hm [(0,.k 0),(1,.k 1)] [1,2] [0,1] ⟨[(1,.ptr 0 0 0),(2,.ptr 1 0 0)],[(0,some (.box 56 (apluvialref19_Ask a0))),(1,some (.box 62 [iV .i64 0,iV .u64 0,iV .u64 0,iV .i64 0,iV .i64 0,iV .i64 0,iV .i64 0]))],0⟩ [] (by kernel_rfl) trivial ?_
 refine AWp.seq ?_
 refine reg hP hn hm [] [2] [1] ⟨[(2,.ptr 1 0 0)],[(1,some (.box 62 [iV .i64 a0.f0,iV .u64 a0.f1,iV .u64 a0.f2,iV .i64 a0.f3,iV .i64 a0.f4,iV .i64 a0.f5,iV .i64 a0.f6]))],0⟩ [] (by kernel_rfl) trivial ?_
 refine AWp.conv (inv:=[(1,0)]) (vk:=[]) (e0:=[]) (t:=⟨[(2,.ptr 0 0 0)],[(0,some (.box 62 [iV .i64 (((⟨a0.f0,a0.f1,a0.f2,(⟨a0.f3,a0.f4⟩:Trank_Place),a0.f5,a0.f6⟩:Teval_Ask)).f0),iV .u64 (((⟨a0.f0,a0.f1,a0.f2,(⟨a0.f3,a0.f4⟩:Trank_Place),a0.f5,a0.f6⟩:Teval_Ask)).f1),iV .u64 (((⟨a0.f0,a0.f1,a0.f2,(⟨a0.f3,a0.f4⟩:Trank_Place),a0.f5,a0.f6⟩:Teval_Ask)).f2),iV .i64 ((((⟨a0.f0,a0.f1,a0.f2,(⟨a0.f3,a0.f4⟩:Trank_Place),a0.f5,a0.f6⟩:Teval_Ask)).f3).f0),iV .i64 ((((⟨a0.f0,a0.f1,a0.f2,(⟨a0.f3,a0.f4⟩:Trank_Place),a0.f5,a0.f6⟩:Teval_Ask)).f3).f1),iV .i64 (((⟨a0.f0,a0.f1,a0.f2,(⟨a0.f3,a0.f4⟩:Trank_Place),a0.f5,a0.f6⟩:Teval_Ask)).f4),iV .i64 (((⟨a0.f0,a0.f1,a0.f2,(⟨a0.f3,a0.f4⟩:Trank_Place),a0.f5,a0.f6⟩:Teval_Ask)).f5)]))],0⟩) (by kernel_rfl) ?_
 refine AWp.ret ?_
 obtain rfl:=Option.some.inj H
 exact Exists.intro _ (And.intro (fun _ _ h=>h) (And.intro (.inl rfl) (And.intro rfl (And.intro (by kernel_rfl) (by kernel_rfl)))))
def f_slices_Equal_api_Bucket.l0 (a0:List TBucket) (a1:List TBucket) (x2778:Int):Option (Bool ⊕ Unit):=if(decide (x2778<(a0.length:Int)))=true then((at? a0 x2778)>>=fun b2786=>(at? a1 x2778)>>=fun b2789=>if(!((b2786.f0==b2789.f0)&&((b2786.f1==b2789.f1)&&true)))=true then(some (.inl false)) else(f_slices_Equal_api_Bucket.l0 a0 a1 (IntKind.i64.wrap (x2778+(1:Int))))) else(some (.inr ()))
partial_fixpoint
def f_slices_Equal_api_Bucket.f (a0:List TBucket) (a1:List TBucket):Option (Bool):=if((a0.length:Int) != (a1.length:Int))=true then(some false) else((f_slices_Equal_api_Bucket.l0 a0 a1 0)>>=fun oo=>match oo with | .inl rr=>(some rr) | .inr _=>(some true))
theorem f_slices_Equal_api_Bucket.ok (a0:List TBucket) (a1:List TBucket) (r:Bool) (H:f_slices_Equal_api_Bucket.f a0 a1=some r):Pv.Fn Try.prog 66 [.im (.row (a0.map eBucket)),.im (.row (a1.map eBucket))] [] 0 (fun x o=>x=bV r∧o=[]):=by
 unfold f_slices_Equal_api_Bucket.f at H
 refine Fn.bodyK [] Try.func66 rfl rfl (fun Γ hP hn => ?_)
 have hm:Try.prog.follows .mixedOrders=true:=by kernel_rfl
 replace hn:Γ.n=26:=hn
 refine AWp.seq ?_
 refine reg hP hn hm [] [0,1] [] ⟨[(0,.im (.row (a0.map eBucket))),(1,.im (.row (a1.map eBucket)))],[],0⟩ [] (by kernel_rfl) trivial ?_
 refine AWp.seq ?_
 refine AWp.seq ?_
 refine reg hP hn hm [(1,.any (iV .i64 (a0.length:Int))),(3,.any (iV .i64 (a1.length:Int)))] [0,1,10] [] ⟨[(0,.im (.row (a0.map eBucket))),(1,.im (.row (a1.map eBucket))),(10,bV ((a0.length:Int) != (a1.length:Int)))],[],0⟩ [((a0.map eBucket).length:Int)=(a0.length:Int),((a1.map eBucket).length:Int)=(a1.length:Int)] (by kernel_rfl) ⟨by rw[len_map],by rw[len_map],trivial⟩ ?_
 refine AWp.cond ((a0.length:Int) != (a1.length:Int)) rfl (fun c2763 => ?_) (fun c2763 => ?_)
 ·replace H:=(ifT c2763).symm.trans H
  refine AWp.seq ?_
  refine reg hP hn hm [] [4] [] ⟨[(4,bV false)],[],0⟩ [] (by kernel_rfl) trivial ?_
  refine AWp.conv (inv:=[]) (vk:=[]) (e0:=[]) (t:=⟨[(4,bV false)],[],0⟩) (by kernel_rfl) ?_
  refine AWp.ret ?_
  obtain rfl:=Option.some.inj H
  exact Exists.intro _ (And.intro (fun _ _ h=>h) (And.intro (.inl rfl) (And.intro rfl (And.intro (by kernel_rfl) (by kernel_rfl)))))
 ·replace H:=(ifF c2763).symm.trans H
  refine AWp.skip ?_
  refine AWp.seq ?_
  refine AWp.seq ?_
  refine reg hP hn hm [(1,.any (iV .i64 (a0.length:Int)))] [0,1,12,13] [] ⟨[(0,.im (.row (a0.map eBucket))),(1,.im (.row (a1.map eBucket))),(12,iV .i64 (a0.length:Int)),(13,iV .i64 0)],[],0⟩ [((a0.map eBucket).length:Int)=(a0.length:Int)] (by kernel_rfl) ⟨by rw[len_map],trivial⟩ ?_
  refine AWp.block ?_
  obtain⟨o2793,e2794,H⟩:=bind_of H
  refine AWp.loop (LWp.conv (inv:=[]) (vk:=[]) (e0:=[]) (t:=⟨[(0,.im (.row (a0.map eBucket))),(1,.im (.row (a1.map eBucket))),(12,iV .i64 (a0.length:Int)),(13,iV .i64 0)],[],0⟩) (by kernel_rfl) ?_)
  refine LWp.mono (Q:=fun e s=>(match (generalizing:=false) o2793 with | .inl rr=>e = .ret∧s.floor=0∧resOf Try.prog Try.f66 s=some (bV rr)∧([]:List (Nat×Option MObj))=[] | .inr _=>e = .exit 0∧s=⟨[],[],0⟩)) (LWp.cv (withBody (fun body hbody => ?_))) ?_
  ·refine f_slices_Equal_api_Bucket.l0.partial_correctness a0 a1 (motive:=fun x2778 o2793=>LWp Γ body (fun e s=>∃ t,Cv Γ s t∧(match (generalizing:=false) o2793 with | .inl rr=>e = .ret∧t.floor=0∧resOf Try.prog Try.f66 t=some (bV rr)∧([]:List (Nat×Option MObj))=[] | .inr _=>e = .exit 0∧t=⟨[],[],0⟩)) ⟨[(0,.im (.row (a0.map eBucket))),(1,.im (.row (a1.map eBucket))),(12,iV .i64 (a0.length:Int)),(13,iV .i64 x2778)],[],0⟩) ?_ _ _ e2794
   clear H e2794 o2793;intro self ih x2778 o2793 H
   subst hbody
   refine LWp.round ?_
   refine AWp.seq ?_
   refine reg hP hn hm [] [0,1,12,13,14] [] ⟨[(0,.im (.row (a0.map eBucket))),(1,.im (.row (a1.map eBucket))),(12,iV .i64 (a0.length:Int)),(13,iV .i64 x2778),(14,bV (decide (x2778<(a0.length:Int))))],[],0⟩ [] (by kernel_rfl) trivial ?_
   refine AWp.seq ?_
   refine AWp.cond (decide (x2778<(a0.length:Int))) rfl (fun c2779 => ?_) (fun c2779 => ?_)
   ·replace H:=(ifT c2779).symm.trans H
    refine AWp.skip ?_
    refine AWp.seq ?_
    refine AWp.block ?_
    refine AWp.seq ?_
    refine reg hP hn hm [] [0,1,5,12,13] [] ⟨[(0,.im (.row (a0.map eBucket))),(1,.im (.row (a1.map eBucket))),(5,iV .i64 x2778),(12,iV .i64 (a0.length:Int)),(13,iV .i64 x2778)],[],0⟩ [] (by kernel_rfl) trivial ?_
    refine AWp.seq ?_
    obtain⟨b2786,p2787,q2788,H⟩:=at_of H
    obtain⟨b2789,p2790,q2791,H⟩:=at_of H
    refine reg hP hn hm [(2,.c (eBucket b2786)),(6,.c (eBucket b2789)),(8,.more (xAgg none))] [0,1,12,13,24] [] ⟨[(0,.im (.row (a0.map eBucket))),(1,.im (.row (a1.map eBucket))),(12,iV .i64 (a0.length:Int)),(13,iV .i64 x2778),(24,bV (!((b2786.f0==b2789.f0)&&((b2786.f1==b2789.f1)&&true))))],[],0⟩ [0≤x2778,(a0.map eBucket)[(Int.toNat (x2778))]? = some (eBucket b2786),0≤x2778,(a1.map eBucket)[(Int.toNat (x2778))]? = some (eBucket b2789)] (by kernel_rfl) ⟨by exact p2787,by exact el_map eBucket q2788,by exact p2790,by exact el_map eBucket q2791,trivial⟩ ?_
    refine AWp.cond (!((b2786.f0==b2789.f0)&&((b2786.f1==b2789.f1)&&true))) rfl (fun c2792 => ?_) (fun c2792 => ?_)
    ·replace H:=(ifT c2792).symm.trans H
     refine AWp.seq ?_
     refine reg hP hn hm [] [4] [] ⟨[(4,bV false)],[],0⟩ [] (by kernel_rfl) trivial ?_
     refine AWp.conv (inv:=[]) (vk:=[]) (e0:=[]) (t:=⟨[(4,bV false)],[],0⟩) (by kernel_rfl) ?_
     refine AWp.ret ?_
     obtain rfl:=Option.some.inj H
     exact Exists.intro _ (And.intro (fun _ _ h=>h) (And.intro rfl (And.intro rfl (And.intro (by kernel_rfl) (by kernel_rfl)))))
    ·replace H:=(ifF c2792).symm.trans H
     refine AWp.skip ?_
     refine reg hP hn hm [] [0,1,12,13] [] ⟨[(0,.im (.row (a0.map eBucket))),(1,.im (.row (a1.map eBucket))),(12,iV .i64 (a0.length:Int)),(13,iV .i64 (IntKind.i64.wrap (x2778+(1:Int))))],[],0⟩ [] (by kernel_rfl) trivial ?_
     exact LWp.conv (inv:=[]) (vk:=[]) (e0:=[]) (t:=⟨[(0,.im (.row (a0.map eBucket))),(1,.im (.row (a1.map eBucket))),(12,iV .i64 (a0.length:Int)),(13,iV .i64 (IntKind.i64.wrap (x2778+(1:Int))))],[],0⟩) (by kernel_rfl) (ih _ _ H)
   ·replace H:=(ifF c2779).symm.trans H
    refine AWp.exit ?_
    obtain rfl:=Option.some.inj H
    exact Exists.intro _ (And.intro (fun _ _ h=>h.conv (inv:=[]) (vk:=[]) (e0:=[]) (t:=⟨[],[],0⟩) (by kernel_rfl)) (And.intro rfl rfl))
  ·rcases o2793 with rr | _
   ·skip
    rintro e s ⟨rfl,hfl,hres⟩
    obtain rfl:=Option.some.inj H
    exact Exists.intro _ (And.intro (fun _ _ h=>h) (And.intro (.inl rfl) (And.intro hfl hres)))
   ·skip
    rintro e s ⟨rfl,rfl⟩
    refine AWp.seq ?_
    refine reg hP hn hm [] [4] [] ⟨[(4,bV true)],[],0⟩ [] (by kernel_rfl) trivial ?_
    refine AWp.conv (inv:=[]) (vk:=[]) (e0:=[]) (t:=⟨[(4,bV true)],[],0⟩) (by kernel_rfl) ?_
    refine AWp.ret ?_
    obtain rfl:=Option.some.inj H
    exact Exists.intro _ (And.intro (fun _ _ h=>h) (And.intro (.inl rfl) (And.intro rfl (And.intro (by kernel_rfl) (by kernel_rfl)))))
def f_hist_Same.f (a0:THist) (a1:THist):Option (Bool):=((if(a0.f0==a1.f0)=true then(if(a0.f1==a1.f1)=true then(if(a0.f2==a1.f2)=true then(if(a0.f3==a1.f3)=true then(if(a0.f4==a1.f4)=true then(if(a0.f5==a1.f5)=true then((f_slices_Equal_api_Bucket.f a0.f6 a1.f6)>>=fun t2806=>if t2806=true then((f_slices_Equal_api_Bucket.f a0.f7 a1.f7)>>=fun t2809=>some t2809) else(some false)) else(some false)) else(some false)) else(some false)) else(some false)) else(some false)) else(some false)):Option (Bool))>>=fun x2811=>some x2811
theorem f_hist_Same.ok (a0:THist) (a1:THist) (r:Bool) (H:f_hist_Same.f a0 a1=some r):Pv.Fn Try.prog 45 [.agg (aHist a0),.agg (aHist a1)] [] 0 (fun x o=>x=bV r∧o=[]):=by
 unfold f_hist_Same.f at H
 refine Fn.bodyK [] Try.func45 rfl rfl (fun Γ hP hn => ?_)
 have hm:Try.prog.follows .mixedOrders=true:=by kernel_rfl
 replace hn:Γ.n=59:=hn
 refine AWp.seq ?_
 refine reg hP hn hm [(0,.k 0),(1,.k 1)] [2,3] [0,1] ⟨[(2,.ptr 0 0 0),(3,.ptr 1 0 0)],[(0,some (.box 52 (aHist a0))),(1,some (.box 52 (aHist a1)))],0⟩ [] (by kernel_rfl) trivial ?_
 refine AWp.seq ?_
 obtain⟨o2812,e2813,H⟩:=bind_of H
 refine AWp.mono (Q:=fun e s=>(match (generalizing:=false) o2812 with | x2811=>e = .normal∧s=⟨[(4,bV x2811)],[],0⟩)) (AWp.cv ?_) ?_
 ·replace H:=e2813;clear e2813
  rcases Bool.eq_false_or_eq_true (a0.f0==a1.f0) with c2800 | c2800
  ·replace H:=(ifT c2800).symm.trans H
   rcases Bool.eq_false_or_eq_true (a0.f1==a1.f1) with c2801 | c2801
   ·replace H:=(ifT c2801).symm.trans H
    rcases Bool.eq_false_or_eq_true (a0.f2==a1.f2) with c2802 | c2802
    ·replace H:=(ifT c2802).symm.trans H
     rcases Bool.eq_false_or_eq_true (a0.f3==a1.f3) with c2803 | c2803
     ·replace H:=(ifT c2803).symm.trans H
      rcases Bool.eq_false_or_eq_true (a0.f4==a1.f4) with c2804 | c2804
      ·replace H:=(ifT c2804).symm.trans H
       rcases Bool.eq_false_or_eq_true (a0.f5==a1.f5) with c2805 | c2805
       ·replace H:=(ifT c2805).symm.trans H
        obtain⟨t2806,e2807,H⟩:=bind_of H
        rcases Bool.eq_false_or_eq_true t2806 with c2808 | c2808
        ·replace H:=(ifT c2808).symm.trans H
         obtain⟨t2809,e2810,H⟩:=bind_of H
         refine reg hP hn hm [(5,.b true),(12,.b true),(19,.b true),(26,.b true),(33,.b true),(40,.b true),(45,.call [] [] [] [] 0 (bV t2806) []),(47,.b true),(52,.call [] [] [] [] 0 (bV t2809) [])] [4] [] ⟨[(4,bV t2809)],[],0⟩ [(a0.f0==a1.f0)=true,(a0.f1==a1.f1)=true,(a0.f2==a1.f2)=true,(a0.f3==a1.f3)=true,(a0.f4==a1.f4)=true,(a0.f5==a1.f5)=true,Enters Try.prog 66,Pv.Fn Try.prog 66 [.im (.row (a0.f6.map eBucket)),.im (.row (a1.f6.map eBucket))] [] 0 (fun r o=>r=bV t2806∧o=[]),t2806=true,Enters Try.prog 66,Pv.Fn Try.prog 66 [.im (.row (a0.f7.map eBucket)),.im (.row (a1.f7.map eBucket))] [] 0 (fun r o=>r=bV t2809∧o=[])] (by kernel_rfl) ⟨by exact c2800,by exact c2801,by exact c2802,by exact c2803,by exact c2804,by exact c2805,by exact Try.call66,by exact f_slices_Equal_api_Bucket.ok a0.f6 a1.f6 t2806 e2807,by exact c2808,by exact Try.call66,by exact f_slices_Equal_api_Bucket.ok a0.f7 a1.f7 t2809 e2810,trivial⟩ ?_
         obtain rfl:=Option.some.inj H
         exact Exists.intro _ (And.intro (fun _ _ h=>h.conv (inv:=[]) (vk:=[]) (e0:=[]) (t:=⟨[(4,bV t2809)],[],0⟩) (by kernel_rfl)) (And.intro rfl rfl))
        ·replace H:=(ifF c2808).symm.trans H
         refine reg hP hn hm [(5,.b true),(12,.b true),(19,.b true),(26,.b true),(33,.b true),(40,.b true),(45,.call [] [] [] [] 0 (bV t2806) []),(47,.b false)] [4] [] ⟨[(4,bV false)],[],0⟩ [(a0.f0==a1.f0)=true,(a0.f1==a1.f1)=true,(a0.f2==a1.f2)=true,(a0.f3==a1.f3)=true,(a0.f4==a1.f4)=true,(a0.f5==a1.f5)=true,Enters Try.prog 66,Pv.Fn Try.prog 66 [.im (.row (a0.f6.map eBucket)),.im (.row (a1.f6.map eBucket))] [] 0 (fun r o=>r=bV t2806∧o=[]),t2806=false] (by kernel_rfl) ⟨by exact c2800,by exact c2801,by exact c2802,by exact c2803,by exact c2804,by exact c2805,by exact Try.call66,by exact f_slices_Equal_api_Bucket.ok a0.f6 a1.f6 t2806 e2807,by exact c2808,trivial⟩ ?_
         obtain rfl:=Option.some.inj H
         exact Exists.intro _ (And.intro (fun _ _ h=>h.conv (inv:=[]) (vk:=[]) (e0:=[]) (t:=⟨[(4,bV false)],[],0⟩) (by kernel_rfl)) (And.intro rfl rfl))
       ·replace H:=(ifF c2805).symm.trans H
        refine reg hP hn hm [(5,.b true),(12,.b true),(19,.b true),(26,.b true),(33,.b true),(40,.b false)] [4] [] ⟨[(4,bV false)],[],0⟩ [(a0.f0==a1.f0)=true,(a0.f1==a1.f1)=true,(a0.f2==a1.f2)=true,(a0.f3==a1.f3)=true,(a0.f4==a1.f4)=true,(a0.f5==a1.f5)=false] (by kernel_rfl) ⟨by exact c2800,by exact c2801,by exact c2802,by exact c2803,by exact c2804,by exact c2805,trivial⟩ ?_
        obtain rfl:=Option.some.inj H
        exact Exists.intro _ (And.intro (fun _ _ h=>h.conv (inv:=[]) (vk:=[]) (e0:=[]) (t:=⟨[(4,bV false)],[],0⟩) (by kernel_rfl)) (And.intro rfl rfl))
      ·replace H:=(ifF c2804).symm.trans H
       refine reg hP hn hm [(5,.b true),(12,.b true),(19,.b true),(26,.b true),(33,.b false)] [4] [] ⟨[(4,bV false)],[],0⟩ [(a0.f0==a1.f0)=true,(a0.f1==a1.f1)=true,(a0.f2==a1.f2)=true,(a0.f3==a1.f3)=true,(a0.f4==a1.f4)=false] (by kernel_rfl) ⟨by exact c2800,by exact c2801,by exact c2802,by exact c2803,by exact c2804,trivial⟩ ?_
       obtain rfl:=Option.some.inj H
       exact Exists.intro _ (And.intro (fun _ _ h=>h.conv (inv:=[]) (vk:=[]) (e0:=[]) (t:=⟨[(4,bV false)],[],0⟩) (by kernel_rfl)) (And.intro rfl rfl))
     ·replace H:=(ifF c2803).symm.trans H
      refine reg hP hn hm [(5,.b true),(12,.b true),(19,.b true),(26,.b false)] [4] [] ⟨[(4,bV false)],[],0⟩ [(a0.f0==a1.f0)=true,(a0.f1==a1.f1)=true,(a0.f2==a1.f2)=true,(a0.f3==a1.f3)=false] (by kernel_rfl) ⟨by exact c2800,by exact c2801,by exact c2802,by exact c2803,trivial⟩ ?_
      obtain rfl:=Option.some.inj H
      exact Exists.intro _ (And.intro (fun _ _ h=>h.conv (inv:=[]) (vk:=[]) (e0:=[]) (t:=⟨[(4,bV false)],[],0⟩) (by kernel_rfl)) (And.intro rfl rfl))
    ·replace H:=(ifF c2802).symm.trans H
     refine reg hP hn hm [(5,.b true),(12,.b true),(19,.b false)] [4] [] ⟨[(4,bV false)],[],0⟩ [(a0.f0==a1.f0)=true,(a0.f1==a1.f1)=true,(a0.f2==a1.f2)=false] (by kernel_rfl) ⟨by exact c2800,by exact c2801,by exact c2802,trivial⟩ ?_
     obtain rfl:=Option.some.inj H
     exact Exists.intro _ (And.intro (fun _ _ h=>h.conv (inv:=[]) (vk:=[]) (e0:=[]) (t:=⟨[(4,bV false)],[],0⟩) (by kernel_rfl)) (And.intro rfl rfl))
   ·replace H:=(ifF c2801).symm.trans H
    refine reg hP hn hm [(5,.b true),(12,.b false)] [4] [] ⟨[(4,bV false)],[],0⟩ [(a0.f0==a1.f0)=true,(a0.f1==a1.f1)=false] (by kernel_rfl) ⟨by exact c2800,by exact c2801,trivial⟩ ?_
    obtain rfl:=Option.some.inj H
    exact Exists.intro _ (And.intro (fun _ _ h=>h.conv (inv:=[]) (vk:=[]) (e0:=[]) (t:=⟨[(4,bV false)],[],0⟩) (by kernel_rfl)) (And.intro rfl rfl))
  ·replace H:=(ifF c2800).symm.trans H
   refine reg hP hn hm [(5,.b false)] [4] [] ⟨[(4,bV false)],[],0⟩ [(a0.f0==a1.f0)=false] (by kernel_rfl) ⟨by exact c2800,trivial⟩ ?_
   obtain rfl:=Option.some.inj H
   exact Exists.intro _ (And.intro (fun _ _ h=>h.conv (inv:=[]) (vk:=[]) (e0:=[]) (t:=⟨[(4,bV false)],[],0⟩) (by kernel_rfl)) (And.intro rfl rfl))
 ·obtain⟨x2811,rfl⟩:∃ z,z=o2812:=⟨_,rfl⟩
  rintro e s ⟨rfl,rfl⟩
  refine AWp.conv (inv:=[]) (vk:=[]) (e0:=[]) (t:=⟨[(4,bV x2811)],[],0⟩) (by kernel_rfl) ?_
  refine AWp.ret ?_
  obtain rfl:=Option.some.inj H
  exact Exists.intro _ (And.intro (fun _ _ h=>h) (And.intro (.inl rfl) (And.intro rfl (And.intro (by kernel_rfl) (by kernel_rfl)))))
def f_eval_Same.f (a0:Teval_Answer) (a1:Teval_Answer):Option (Bool):=(((f_hist_Same.f a0.f0 a1.f0)>>=fun t2820=>if t2820=true then(if(a0.f1==a1.f1)=true then(if(a0.f2==a1.f2)=true then(if((a0.f3.f0==a1.f3.f0)&&((a0.f3.f1==a1.f3.f1)&&((a0.f3.f2==a1.f3.f2)&&true)))=true then(some ((a0.f4.f0==a1.f4.f0)&&((a0.f4.f1==a1.f4.f1)&&((a0.f4.f2==a1.f4.f2)&&true)))) else(some false)) else(some false)) else(some false)) else(some false)):Option (Bool))>>=fun x2826=>some x2826
theorem f_eval_Same.ok (a0:Teval_Answer) (a1:Teval_Answer) (r:Bool) (H:f_eval_Same.f a0 a1=some r):Pv.Fn Try.prog 32 [.agg [iV .i64 a0.f0.f0,iV .i64 a0.f0.f1,iV .i64 a0.f0.f2,iV .u64 a0.f0.f3,iV .u64 a0.f0.f4,iV .i64 a0.f0.f5,.im (.row (a0.f0.f6.map eBucket)),.im (.row (a0.f0.f7.map eBucket)),iV .i64 a0.f1,iV .u64 a0.f2,iV .i64 a0.f3.f0,iV .i64 a0.f3.f1,iV .i64 a0.f3.f2,iV .u64 a0.f4.f0,iV .u64 a0.f4.f1,iV .u64 a0.f4.f2],.agg [iV .i64 a1.f0.f0,iV .i64 a1.f0.f1,iV .i64 a1.f0.f2,iV .u64 a1.f0.f3,iV .u64 a1.f0.f4,iV .i64 a1.f0.f5,.im (.row (a1.f0.f6.map eBucket)),.im (.row (a1.f0.f7.map eBucket)),iV .i64 a1.f1,iV .u64 a1.f2,iV .i64 a1.f3.f0,iV .i64 a1.f3.f1,iV .i64 a1.f3.f2,iV .u64 a1.f4.f0,iV .u64 a1.f4.f1,iV .u64 a1.f4.f2]] [] 0 (fun x o=>x=bV r∧o=[]):=by
 unfold f_eval_Same.f at H
 refine Fn.bodyK [] Try.func32 rfl rfl (fun Γ hP hn => ?_)
 have hm:Try.prog.follows .mixedOrders=true:=by kernel_rfl
 replace hn:Γ.n=38:=hn
 refine AWp.seq ?_
 refine reg hP hn hm [(0,.k 0),(1,.k 1)] [2,3] [0,1] ⟨[(2,.ptr 0 0 0),(3,.ptr 1 0 0)],[(0,some (.box 69 [iV .i64 a0.f0.f0,iV .i64 a0.f0.f1,iV .i64 a0.f0.f2,iV .u64 a0.f0.f3,iV .u64 a0.f0.f4,iV .i64 a0.f0.f5,.im (.row (a0.f0.f6.map eBucket)),.im (.row (a0.f0.f7.map eBucket)),iV .i64 a0.f1,iV .u64 a0.f2,iV .i64 a0.f3.f0,iV .i64 a0.f3.f1,iV .i64 a0.f3.f2,iV .u64 a0.f4.f0,iV .u64 a0.f4.f1,iV .u64 a0.f4.f2])),(1,some (.box 69 [iV .i64 a1.f0.f0,iV .i64 a1.f0.f1,iV .i64 a1.f0.f2,iV .u64 a1.f0.f3,iV .u64 a1.f0.f4,iV .i64 a1.f0.f5,.im (.row (a1.f0.f6.map eBucket)),.im (.row (a1.f0.f7.map eBucket)),iV .i64 a1.f1,iV .u64 a1.f2,iV .i64 a1.f3.f0,iV .i64 a1.f3.f1,iV .i64 a1.f3.f2,iV .u64 a1.f4.f0,iV .u64 a1.f4.f1,iV .u64 a1.f4.f2]))],0⟩ [] (by kernel_rfl) trivial ?_
 refine AWp.seq ?_
 obtain⟨o2827,e2828,H⟩:=bind_of H
 refine AWp.mono (Q:=fun e s=>(match (generalizing:=false) o2827 with | x2826=>e = .normal∧s=⟨[(4,bV x2826)],[],0⟩)) (AWp.cv ?_) ?_
 ·replace H:=e2828;clear e2828
  obtain⟨t2820,e2821,H⟩:=bind_of H
  rcases Bool.eq_false_or_eq_true t2820 with c2822 | c2822
  ·replace H:=(ifT c2822).symm.trans H
   rcases Bool.eq_false_or_eq_true (a0.f1==a1.f1) with c2823 | c2823
   ·replace H:=(ifT c2823).symm.trans H
    rcases Bool.eq_false_or_eq_true (a0.f2==a1.f2) with c2824 | c2824
    ·replace H:=(ifT c2824).symm.trans H
     rcases Bool.eq_false_or_eq_true ((a0.f3.f0==a1.f3.f0)&&((a0.f3.f1==a1.f3.f1)&&((a0.f3.f2==a1.f3.f2)&&true))) with c2825 | c2825
     ·replace H:=(ifT c2825).symm.trans H
      refine reg hP hn hm [(4,.call [] [] [] [] 0 (bV t2820) []),(5,.b true),(12,.b true),(19,.b true),(24,.more (xAgg none)),(26,.b true),(31,.more (xAgg none))] [4] [] ⟨[(4,bV ((a0.f4.f0==a1.f4.f0)&&((a0.f4.f1==a1.f4.f1)&&((a0.f4.f2==a1.f4.f2)&&true))))],[],0⟩ [Enters Try.prog 45,Pv.Fn Try.prog 45 [.agg (aHist a0.f0),.agg (aHist a1.f0)] [] 0 (fun r o=>r=bV t2820∧o=[]),t2820=true,(a0.f1==a1.f1)=true,(a0.f2==a1.f2)=true,((a0.f3.f0==a1.f3.f0)&&((a0.f3.f1==a1.f3.f1)&&((a0.f3.f2==a1.f3.f2)&&true)))=true] (by kernel_rfl) ⟨by exact Try.call45,by exact f_hist_Same.ok a0.f0 a1.f0 t2820 e2821,by exact c2822,by exact c2823,by exact c2824,by exact c2825,trivial⟩ ?_
      obtain rfl:=Option.some.inj H
      exact Exists.intro _ (And.intro (fun _ _ h=>h.conv (inv:=[]) (vk:=[]) (e0:=[]) (t:=⟨[(4,bV ((a0.f4.f0==a1.f4.f0)&&((a0.f4.f1==a1.f4.f1)&&((a0.f4.f2==a1.f4.f2)&&true))))],[],0⟩) (by kernel_rfl)) (And.intro rfl rfl))
     ·replace H:=(ifF c2825).symm.trans H
      refine reg hP hn hm [(4,.call [] [] [] [] 0 (bV t2820) []),(5,.b true),(12,.b true),(19,.b true),(24,.more (xAgg none)),(26,.b false)] [4] [] ⟨[(4,bV false)],[],0⟩ [Enters Try.prog 45,Pv.Fn Try.prog 45 [.agg (aHist a0.f0),.agg (aHist a1.f0)] [] 0 (fun r o=>r=bV t2820∧o=[]),t2820=true,(a0.f1==a1.f1)=true,(a0.f2==a1.f2)=true,((a0.f3.f0==a1.f3.f0)&&((a0.f3.f1==a1.f3.f1)&&((a0.f3.f2==a1.f3.f2)&&true)))=false] (by kernel_rfl) ⟨by exact Try.call45,by exact f_hist_Same.ok a0.f0 a1.f0 t2820 e2821,by exact c2822,by exact c2823,by exact c2824,by exact c2825,trivial⟩ ?_
      obtain rfl:=Option.some.inj H
      exact Exists.intro _ (And.intro (fun _ _ h=>h.conv (inv:=[]) (vk:=[]) (e0:=[]) (t:=⟨[(4,bV false)],[],0⟩) (by kernel_rfl)) (And.intro rfl rfl))
    ·replace H:=(ifF c2824).symm.trans H
     refine reg hP hn hm [(4,.call [] [] [] [] 0 (bV t2820) []),(5,.b true),(12,.b true),(19,.b false)] [4] [] ⟨[(4,bV false)],[],0⟩ [Enters Try.prog 45,Pv.Fn Try.prog 45 [.agg (aHist a0.f0),.agg (aHist a1.f0)] [] 0 (fun r o=>r=bV t2820∧o=[]),t2820=true,(a0.f1==a1.f1)=true,(a0.f2==a1.f2)=false] (by kernel_rfl) ⟨by exact Try.call45,by exact f_hist_Same.ok a0.f0 a1.f0 t2820 e2821,by exact c2822,by exact c2823,by exact c2824,trivial⟩ ?_
     obtain rfl:=Option.some.inj H
     exact Exists.intro _ (And.intro (fun _ _ h=>h.conv (inv:=[]) (vk:=[]) (e0:=[]) (t:=⟨[(4,bV false)],[],0⟩) (by kernel_rfl)) (And.intro rfl rfl))
   ·replace H:=(ifF c2823).symm.trans H
    refine reg hP hn hm [(4,.call [] [] [] [] 0 (bV t2820) []),(5,.b true),(12,.b false)] [4] [] ⟨[(4,bV false)],[],0⟩ [Enters Try.prog 45,Pv.Fn Try.prog 45 [.agg (aHist a0.f0),.agg (aHist a1.f0)] [] 0 (fun r o=>r=bV t2820∧o=[]),t2820=true,(a0.f1==a1.f1)=false] (by kernel_rfl) ⟨by exact Try.call45,by exact f_hist_Same.ok a0.f0 a1.f0 t2820 e2821,by exact c2822,by exact c2823,trivial⟩ ?_
    obtain rfl:=Option.some.inj H
    exact Exists.intro _ (And.intro (fun _ _ h=>h.conv (inv:=[]) (vk:=[]) (e0:=[]) (t:=⟨[(4,bV false)],[],0⟩) (by kernel_rfl)) (And.intro rfl rfl))
  ·replace H:=(ifF c2822).symm.trans H
   refine reg hP hn hm [(4,.call [] [] [] [] 0 (bV t2820) []),(5,.b false)] [4] [] ⟨[(4,bV false)],[],0⟩ [Enters Try.prog 45,Pv.Fn Try.prog 45 [.agg (aHist a0.f0),.agg (aHist a1.f0)] [] 0 (fun r o=>r=bV t2820∧o=[]),t2820=false] (by kernel_rfl) ⟨by exact Try.call45,by exact f_hist_Same.ok a0.f0 a1.f0 t2820 e2821,by exact c2822,trivial⟩ ?_
   obtain rfl:=Option.some.inj H
   exact Exists.intro _ (And.intro (fun _ _ h=>h.conv (inv:=[]) (vk:=[]) (e0:=[]) (t:=⟨[(4,bV false)],[],0⟩) (by kernel_rfl)) (And.intro rfl rfl))
 ·obtain⟨x2826,rfl⟩:∃ z,z=o2827:=⟨_,rfl⟩
  rintro e s ⟨rfl,rfl⟩
  refine AWp.conv (inv:=[]) (vk:=[]) (e0:=[]) (t:=⟨[(4,bV x2826)],[],0⟩) (by kernel_rfl) ?_
  refine AWp.ret ?_
  obtain rfl:=Option.some.inj H
  exact Exists.intro _ (And.intro (fun _ _ h=>h) (And.intro (.inl rfl) (And.intro rfl (And.intro (by kernel_rfl) (by kernel_rfl)))))
end Go.Proofs.Ytfkppdcfgmgllaa.PvGD3
set_option linter.unusedVariables false
set_option linter.unnecessarySimpa false
set_option linter.unusedSimpArgs false
set_option maxRecDepth 10000
namespace Go.Proofs.Ytfkppdcfgmgllaa.PvGD3
open Go Go.Pv
def f_eval_Range.l0 (a0:Teval_Ask) (a1:List TSample) (a2:Int) (a3:Int) (x2896:Int) (x2897:Int) (x2898:List Teval_Point) (x2899:Int):Option (List Teval_Point):=((if(decide (x2897≤a2))=true then(some (decide (x2899≥(0:Int)))) else(some false)):Option (Bool))>>=fun x2902=>if x2902=true then((f_eval_Do.f (⟨a0.f0,a0.f1,a0.f2,a0.f3,x2896,x2897⟩:Teval_Ask) a1)>>=fun t2906=>(chk ((x2898.length+[(⟨x2897,(⟨(⟨((t2906.1).f0).f0,((t2906.1).f0).f1,((t2906.1).f0).f2,((t2906.1).f0).f3,((t2906.1).f0).f4,((t2906.1).f0).f5,((t2906.1).f0).f6,((t2906.1).f0).f7⟩:THist),(t2906.1).f1,(t2906.1).f2,(⟨((t2906.1).f3).f0,((t2906.1).f3).f1,((t2906.1).f3).f2⟩:Tbound_Key),(⟨((t2906.1).f4).f0,((t2906.1).f4).f1,((t2906.1).f4).f2⟩:Trank_Part)⟩:Teval_Answer),t2906.2⟩:Teval_Point)].length)*176≤140737488355328))>>=fun _=>f_eval_Range.l0 a0 a1 a2 a3 (IntKind.i64.wrap (x2896+a3)) (IntKind.i64.wrap (x2897+a3)) (x2898++[(⟨x2897,(⟨(⟨((t2906.1).f0).f0,((t2906.1).f0).f1,((t2906.1).f0).f2,((t2906.1).f0).f3,((t2906.1).f0).f4,((t2906.1).f0).f5,((t2906.1).f0).f6,((t2906.1).f0).f7⟩:THist),(t2906.1).f1,(t2906.1).f2,(⟨((t2906.1).f3).f0,((t2906.1).f3).f1,((t2906.1).f3).f2⟩:Tbound_Key),(⟨((t2906.1).f4).f0,((t2906.1).f4).f1,((t2906.1).f4).f2⟩:Trank_Part)⟩:Teval_Answer),t2906.2⟩:Teval_Point)]) (IntKind.i64.wrap (x2899-(1:Int)))) else(some x2898)
partial_fixpoint
def f_eval_Range.f (a0:Teval_Ask) (a1:List TSample) (a2:Int) (a3:Int):Option ((List Teval_Point)×Int):=((if(decide (a0.f4<(-1099511627776)))=true then(some true) else(if(decide (a0.f5<(0:Int)))=true then(some true) else(if(decide (a2>(1099511627776:Int)))=true then(some true) else(if(decide (a0.f4>a0.f5))=true then(some true) else(some (decide (a3<(1:Int)))))))):Option (Bool))>>=fun x2875=>if x2875=true then(some ([],1)) else(((if(decide (a2≥a0.f5))=true then((chk (a3≠0))>>=fun _=>some (decide ((IntKind.i64.wrap (Int.tdiv (IntKind.i64.wrap (a2-a0.f5)) a3))≥(4096:Int)))) else(some false)):Option (Bool))>>=fun x2881=>if x2881=true then(some ([],9)) else((chk (a3≠0))>>=fun _=>(f_eval_Range.l0 a0 a1 a2 a3 a0.f4 a0.f5 [] (IntKind.i64.wrap (Int.tdiv (IntKind.i64.wrap (a2-a0.f5)) a3)))>>=fun x2911=>some (x2911,0)))
theorem f_eval_Range.ok (a0:Teval_Ask) (a1:List TSample) (a2:Int) (a3:Int) (r:(List Teval_Point)×Int) (H:f_eval_Range.f a0 a1 a2 a3=some r):Pv.Fn Try.prog 33 [.agg (apluvialref19_Ask ⟨a0.f0,a0.f1,a0.f2,a0.f3.f0,a0.f3.f1,a0.f4,a0.f5⟩),.im (.row (a1.map eSample)),iV .i64 a2,iV .i64 a3] [] 0 (fun x o=>x = .tup [.own 0,iV .i64 r.2]∧o=[(0,some (.row 18 84 (r.1.map eeval_Point)))]):=by
 unfold f_eval_Range.f at H
 refine Fn.bodyK [0] Try.func33 rfl rfl (fun Γ hP hn => ?_)
 have hm:Try.prog.follows .mixedOrders=true:=by kernel_rfl
 replace hn:Γ.n=93:=hn
 refine AWp.seq ?_
 refine reg hP hn hm [(0,.k 0)] [1,2,3,4] [0] ⟨[(1,.im (.row (a1.map eSample))),(2,iV .i64 a2),(3,iV .i64 a3),(4,.ptr 0 0 0)],[(0,some (.box 62 [iV .i64 a0.f0,iV .u64 a0.f1,iV .u64 a0.f2,iV .i64 a0.f3.f0,iV .i64 a0.f3.f1,iV .i64 a0.f4,iV .i64 a0.f5]))],0⟩ [] (by kernel_rfl) trivial ?_
 refine AWp.seq ?_
 refine AWp.block ?_
 refine AWp.seq ?_
 obtain⟨o2912,e2913,H⟩:=bind_of H
 refine AWp.mono (Q:=fun e s=>(match (generalizing:=false) o2912 with | x2875=>e = .normal∧s=⟨[(1,.im (.row (a1.map eSample))),(2,iV .i64 a2),(3,iV .i64 a3),(4,.ptr 1 0 0),(14,bV x2875)],[(1,some (.box 62 [iV .i64 a0.f0,iV .u64 a0.f1,iV .u64 a0.f2,iV .i64 a0.f3.f0,iV .i64 a0.f3.f1,iV .i64 a0.f4,iV .i64 a0.f5]))],0⟩)) (AWp.cv ?_) ?_
 ·replace H:=e2913;clear e2913
  rcases Bool.eq_false_or_eq_true (decide (a0.f4<(-1099511627776))) with c2871 | c2871
  ·replace H:=(ifT c2871).symm.trans H
   refine reg hP hn hm [(3,.b true)] [1,2,3,4,14] [0] ⟨[(1,.im (.row (a1.map eSample))),(2,iV .i64 a2),(3,iV .i64 a3),(4,.ptr 0 0 0),(14,bV true)],[(0,some (.box 62 [iV .i64 a0.f0,iV .u64 a0.f1,iV .u64 a0.f2,iV .i64 a0.f3.f0,iV .i64 a0.f3.f1,iV .i64 a0.f4,iV .i64 a0.f5]))],0⟩ [(decide (a0.f4<(-1099511627776)))=true] (by kernel_rfl) ⟨by exact c2871,trivial⟩ ?_
   obtain rfl:=Option.some.inj H
   exact Exists.intro _ (And.intro (fun _ _ h=>h.conv (inv:=[(0,1)]) (vk:=[]) (e0:=[]) (t:=⟨[(1,.im (.row (a1.map eSample))),(2,iV .i64 a2),(3,iV .i64 a3),(4,.ptr 1 0 0),(14,bV true)],[(1,some (.box 62 [iV .i64 a0.f0,iV .u64 a0.f1,iV .u64 a0.f2,iV .i64 a0.f3.f0,iV .i64 a0.f3.f1,iV .i64 a0.f4,iV .i64 a0.f5]))],0⟩) (by kernel_rfl)) (And.intro rfl rfl))
  ·replace H:=(ifF c2871).symm.trans H
   rcases Bool.eq_false_or_eq_true (decide (a0.f5<(0:Int))) with c2872 | c2872
   ·replace H:=(ifT c2872).symm.trans H
    refine reg hP hn hm [(3,.b false),(8,.b true)] [1,2,3,4,14] [0] ⟨[(1,.im (.row (a1.map eSample))),(2,iV .i64 a2),(3,iV .i64 a3),(4,.ptr 0 0 0),(14,bV true)],[(0,some (.box 62 [iV .i64 a0.f0,iV .u64 a0.f1,iV .u64 a0.f2,iV .i64 a0.f3.f0,iV .i64 a0.f3.f1,iV .i64 a0.f4,iV .i64 a0.f5]))],0⟩ [(decide (a0.f4<(-1099511627776)))=false,(decide (a0.f5<(0:Int)))=true] (by kernel_rfl) ⟨by exact c2871,by exact c2872,trivial⟩ ?_
    obtain rfl:=Option.some.inj H
    exact Exists.intro _ (And.intro (fun _ _ h=>h.conv (inv:=[(0,1)]) (vk:=[]) (e0:=[]) (t:=⟨[(1,.im (.row (a1.map eSample))),(2,iV .i64 a2),(3,iV .i64 a3),(4,.ptr 1 0 0),(14,bV true)],[(1,some (.box 62 [iV .i64 a0.f0,iV .u64 a0.f1,iV .u64 a0.f2,iV .i64 a0.f3.f0,iV .i64 a0.f3.f1,iV .i64 a0.f4,iV .i64 a0.f5]))],0⟩) (by kernel_rfl)) (And.intro rfl rfl))
   ·replace H:=(ifF c2872).symm.trans H
    rcases Bool.eq_false_or_eq_true (decide (a2>(1099511627776:Int))) with c2873 | c2873
    ·replace H:=(ifT c2873).symm.trans H
     refine reg hP hn hm [(3,.b false),(8,.b false),(12,.b true)] [1,2,3,4,14] [0] ⟨[(1,.im (.row (a1.map eSample))),(2,iV .i64 a2),(3,iV .i64 a3),(4,.ptr 0 0 0),(14,bV true)],[(0,some (.box 62 [iV .i64 a0.f0,iV .u64 a0.f1,iV .u64 a0.f2,iV .i64 a0.f3.f0,iV .i64 a0.f3.f1,iV .i64 a0.f4,iV .i64 a0.f5]))],0⟩ [(decide (a0.f4<(-1099511627776)))=false,(decide (a0.f5<(0:Int)))=false,(decide (a2>(1099511627776:Int)))=true] (by kernel_rfl) ⟨by exact c2871,by exact c2872,by exact c2873,trivial⟩ ?_
     obtain rfl:=Option.some.inj H
     exact Exists.intro _ (And.intro (fun _ _ h=>h.conv (inv:=[(0,1)]) (vk:=[]) (e0:=[]) (t:=⟨[(1,.im (.row (a1.map eSample))),(2,iV .i64 a2),(3,iV .i64 a3),(4,.ptr 1 0 0),(14,bV true)],[(1,some (.box 62 [iV .i64 a0.f0,iV .u64 a0.f1,iV .u64 a0.f2,iV .i64 a0.f3.f0,iV .i64 a0.f3.f1,iV .i64 a0.f4,iV .i64 a0.f5]))],0⟩) (by kernel_rfl)) (And.intro rfl rfl))
    ·replace H:=(ifF c2873).symm.trans H
     rcases Bool.eq_false_or_eq_true (decide (a0.f4>a0.f5)) with c2874 | c2874
     ·replace H:=(ifT c2874).symm.trans H
      refine reg hP hn hm [(3,.b false),(8,.b false),(12,.b false),(19,.b true)] [1,2,3,4,14] [0] ⟨[(1,.im (.row (a1.map eSample))),(2,iV .i64 a2),(3,iV .i64 a3),(4,.ptr 0 0 0),(14,bV true)],[(0,some (.box 62 [iV .i64 a0.f0,iV .u64 a0.f1,iV .u64 a0.f2,iV .i64 a0.f3.f0,iV .i64 a0.f3.f1,iV .i64 a0.f4,iV .i64 a0.f5]))],0⟩ [(decide (a0.f4<(-1099511627776)))=false,(decide (a0.f5<(0:Int)))=false,(decide (a2>(1099511627776:Int)))=false,(decide (a0.f4>a0.f5))=true] (by kernel_rfl) ⟨by exact c2871,by exact c2872,by exact c2873,by exact c2874,trivial⟩ ?_
      obtain rfl:=Option.some.inj H
      exact Exists.intro _ (And.intro (fun _ _ h=>h.conv (inv:=[(0,1)]) (vk:=[]) (e0:=[]) (t:=⟨[(1,.im (.row (a1.map eSample))),(2,iV .i64 a2),(3,iV .i64 a3),(4,.ptr 1 0 0),(14,bV true)],[(1,some (.box 62 [iV .i64 a0.f0,iV .u64 a0.f1,iV .u64 a0.f2,iV .i64 a0.f3.f0,iV .i64 a0.f3.f1,iV .i64 a0.f4,iV .i64 a0.f5]))],0⟩) (by kernel_rfl)) (And.intro rfl rfl))
     ·replace H:=(ifF c2874).symm.trans H
      refine reg hP hn hm [(3,.b false),(8,.b false),(12,.b false),(19,.b false)] [1,2,3,4,14] [0] ⟨[(1,.im (.row (a1.map eSample))),(2,iV .i64 a2),(3,iV .i64 a3),(4,.ptr 0 0 0),(14,bV (decide (a3<(1:Int))))],[(0,some (.box 62 [iV .i64 a0.f0,iV .u64 a0.f1,iV .u64 a0.f2,iV .i64 a0.f3.f0,iV .i64 a0.f3.f1,iV .i64 a0.f4,iV .i64 a0.f5]))],0⟩ [(decide (a0.f4<(-1099511627776)))=false,(decide (a0.f5<(0:Int)))=false,(decide (a2>(1099511627776:Int)))=false,(decide (a0.f4>a0.f5))=false] (by kernel_rfl) ⟨by exact c2871,by exact c2872,by exact c2873,by exact c2874,trivial⟩ ?_
      obtain rfl:=Option.some.inj H
      exact Exists.intro _ (And.intro (fun _ _ h=>h.conv (inv:=[(0,1)]) (vk:=[]) (e0:=[]) (t:=⟨[(1,.im (.row (a1.map eSample))),(2,iV .i64 a2),(3,iV .i64 a3),(4,.ptr 1 0 0),(14,bV (decide (a3<(1:Int))))],[(1,some (.box 62 [iV .i64 a0.f0,iV .u64 a0.f1,iV .u64 a0.f2,iV .i64 a0.f3.f0,iV .i64 a0.f3.f1,iV .i64 a0.f4,iV .i64 a0.f5]))],0⟩) (by kernel_rfl)) (And.intro rfl rfl))
 ·obtain⟨x2875,rfl⟩:∃ z,z=o2912:=⟨_,rfl⟩
  rintro e s ⟨rfl,rfl⟩
  refine AWp.cond x2875 rfl (fun c2876 => ?_) (fun c2876 => ?_)
  ·replace H:=(ifT c2876).symm.trans H
   refine AWp.seq ?_
   refine reg hP hn hm [] [8,9] [] ⟨[(8,.none0),(9,iV .i64 1)],[],0⟩ [] (by kernel_rfl) trivial ?_
   refine AWp.conv (inv:=[]) (vk:=[]) (e0:=[0]) (t:=⟨[(8,.own 0),(9,iV .i64 1)],[(0,some (.row 18 84 ([].map eeval_Point)))],0⟩) (by kernel_rfl) ?_
   refine AWp.ret ?_
   obtain rfl:=Option.some.inj H
   exact Exists.intro _ (And.intro (fun _ _ h=>h) (And.intro (.inl rfl) (And.intro rfl (And.intro (by kernel_rfl) (by kernel_rfl)))))
  ·replace H:=(ifF c2876).symm.trans H
   refine AWp.seq ?_
   obtain⟨o2914,e2915,H⟩:=bind_of H
   refine AWp.mono (Q:=fun e s=>(match (generalizing:=false) o2914 with | x2881=>e = .normal∧s=⟨[(1,.im (.row (a1.map eSample))),(2,iV .i64 a2),(3,iV .i64 a3),(4,.ptr 2 0 0),(38,bV x2881)],[(2,some (.box 62 [iV .i64 a0.f0,iV .u64 a0.f1,iV .u64 a0.f2,iV .i64 a0.f3.f0,iV .i64 a0.f3.f1,iV .i64 a0.f4,iV .i64 a0.f5]))],0⟩)) (AWp.cv ?_) ?_
   ·replace H:=e2915;clear e2915
    rcases Bool.eq_false_or_eq_true (decide (a2≥a0.f5)) with c2879 | c2879
    ·replace H:=(ifT c2879).symm.trans H
     obtain⟨c2880,H⟩:=chk_of H
     refine reg hP hn hm [(4,.b true)] [1,2,3,4,38] [1] ⟨[(1,.im (.row (a1.map eSample))),(2,iV .i64 a2),(3,iV .i64 a3),(4,.ptr 1 0 0),(38,bV (decide ((IntKind.i64.wrap (Int.tdiv (IntKind.i64.wrap (a2-a0.f5)) a3))≥(4096:Int))))],[(1,some (.box 62 [iV .i64 a0.f0,iV .u64 a0.f1,iV .u64 a0.f2,iV .i64 a0.f3.f0,iV .i64 a0.f3.f1,iV .i64 a0.f4,iV .i64 a0.f5]))],0⟩ [(decide (a2≥a0.f5))=true,a3≠0] (by kernel_rfl) ⟨by exact c2879,by exact c2880,trivial⟩ ?_
     obtain rfl:=Option.some.inj H
     exact Exists.intro _ (And.intro (fun _ _ h=>h.conv (inv:=[(1,2)]) (vk:=[]) (e0:=[]) (t:=⟨[(1,.im (.row (a1.map eSample))),(2,iV .i64 a2),(3,iV .i64 a3),(4,.ptr 2 0 0),(38,bV (decide ((IntKind.i64.wrap (Int.tdiv (IntKind.i64.wrap (a2-a0.f5)) a3))≥(4096:Int))))],[(2,some (.box 62 [iV .i64 a0.f0,iV .u64 a0.f1,iV .u64 a0.f2,iV .i64 a0.f3.f0,iV .i64 a0.f3.f1,iV .i64 a0.f4,iV .i64 a0.f5]))],0⟩) (by kernel_rfl)) (And.intro rfl rfl))
    ·replace H:=(ifF c2879).symm.trans H
     refine reg hP hn hm [(4,.b false)] [1,2,3,4,38] [1] ⟨[(1,.im (.row (a1.map eSample))),(2,iV .i64 a2),(3,iV .i64 a3),(4,.ptr 1 0 0),(38,bV false)],[(1,some (.box 62 [iV .i64 a0.f0,iV .u64 a0.f1,iV .u64 a0.f2,iV .i64 a0.f3.f0,iV .i64 a0.f3.f1,iV .i64 a0.f4,iV .i64 a0.f5]))],0⟩ [(decide (a2≥a0.f5))=false] (by kernel_rfl) ⟨by exact c2879,trivial⟩ ?_
     obtain rfl:=Option.some.inj H
     exact Exists.intro _ (And.intro (fun _ _ h=>h.conv (inv:=[(1,2)]) (vk:=[]) (e0:=[]) (t:=⟨[(1,.im (.row (a1.map eSample))),(2,iV .i64 a2),(3,iV .i64 a3),(4,.ptr 2 0 0),(38,bV false)],[(2,some (.box 62 [iV .i64 a0.f0,iV .u64 a0.f1,iV .u64 a0.f2,iV .i64 a0.f3.f0,iV .i64 a0.f3.f1,iV .i64 a0.f4,iV .i64 a0.f5]))],0⟩) (by kernel_rfl)) (And.intro rfl rfl))
   ·obtain⟨x2881,rfl⟩:∃ z,z=o2914:=⟨_,rfl⟩
    rintro e s ⟨rfl,rfl⟩
    refine AWp.cond x2881 rfl (fun c2882 => ?_) (fun c2882 => ?_)
    ·replace H:=(ifT c2882).symm.trans H
     refine AWp.seq ?_
     refine reg hP hn hm [] [8,9] [] ⟨[(8,.none0),(9,iV .i64 9)],[],0⟩ [] (by kernel_rfl) trivial ?_
     refine AWp.conv (inv:=[]) (vk:=[]) (e0:=[0]) (t:=⟨[(8,.own 0),(9,iV .i64 9)],[(0,some (.row 18 84 ([].map eeval_Point)))],0⟩) (by kernel_rfl) ?_
     refine AWp.ret ?_
     obtain rfl:=Option.some.inj H
     exact Exists.intro _ (And.intro (fun _ _ h=>h) (And.intro (.inl rfl) (And.intro rfl (And.intro (by kernel_rfl) (by kernel_rfl)))))
    ·replace H:=(ifF c2882).symm.trans H
     refine AWp.skip ?_
     refine AWp.seq ?_
     refine reg hP hn hm [] [1,2,3,4,10] [2] ⟨[(1,.im (.row (a1.map eSample))),(2,iV .i64 a2),(3,iV .i64 a3),(4,.ptr 2 0 0),(10,.none0)],[(2,some (.box 62 [iV .i64 a0.f0,iV .u64 a0.f1,iV .u64 a0.f2,iV .i64 a0.f3.f0,iV .i64 a0.f3.f1,iV .i64 a0.f4,iV .i64 a0.f5]))],0⟩ [] (by kernel_rfl) trivial ?_
     refine AWp.seq ?_
     refine AWp.seq ?_
     obtain⟨c2884,H⟩:=chk_of H
     refine reg hP hn hm [] [1,2,3,4,10,11] [2] ⟨[(1,.im (.row (a1.map eSample))),(2,iV .i64 a2),(3,iV .i64 a3),(4,.ptr 2 0 0),(10,.none0),(11,iV .i64 (IntKind.i64.wrap (Int.tdiv (IntKind.i64.wrap (a2-a0.f5)) a3)))],[(2,some (.box 62 [iV .i64 a0.f0,iV .u64 a0.f1,iV .u64 a0.f2,iV .i64 a0.f3.f0,iV .i64 a0.f3.f1,iV .i64 a0.f4,iV .i64 a0.f5]))],0⟩ [a3≠0] (by kernel_rfl) ⟨by exact c2884,trivial⟩ ?_
     refine AWp.block ?_
     obtain⟨o2916,e2917,H⟩:=bind_of H
     refine AWp.loop (LWp.conv (inv:=[(2,9)]) (vk:=[]) (e0:=[10]) (t:=⟨[(1,.im (.row (a1.map eSample))),(2,iV .i64 a2),(3,iV .i64 a3),(4,.ptr 9 0 0),(10,.own 10),(11,iV .i64 (IntKind.i64.wrap (Int.tdiv (IntKind.i64.wrap (a2-a0.f5)) a3)))],[(9,some (.box 62 [iV .i64 a0.f0,iV .u64 a0.f1,iV .u64 a0.f2,iV .i64 a0.f3.f0,iV .i64 a0.f3.f1,iV .i64 a0.f4,iV .i64 a0.f5])),(10,some (.row 18 84 ([].map eeval_Point)))],0⟩) (by kernel_rfl) ?_)
     refine LWp.mono (Q:=fun e s=>(match (generalizing:=false) o2916 with | x2911=>e = .exit 1∧s=⟨[(10,.own 18)],[(18,some (.row 18 84 (x2911.map eeval_Point)))],0⟩)) (LWp.cv (withBody (fun body hbody => ?_))) ?_
     ·refine f_eval_Range.l0.partial_correctness a0 a1 a2 a3 (motive:=fun x2896 x2897 x2898 x2899 o2916=>LWp Γ body (fun e s=>∃ t,Cv Γ s t∧(match (generalizing:=false) o2916 with | x2911=>e = .exit 1∧t=⟨[(10,.own 18)],[(18,some (.row 18 84 (x2911.map eeval_Point)))],0⟩)) ⟨[(1,.im (.row (a1.map eSample))),(2,iV .i64 a2),(3,iV .i64 a3),(4,.ptr 9 0 0),(10,.own 10),(11,iV .i64 x2899)],[(9,some (.box 62 [iV .i64 a0.f0,iV .u64 a0.f1,iV .u64 a0.f2,iV .i64 a0.f3.f0,iV .i64 a0.f3.f1,iV .i64 x2896,iV .i64 x2897])),(10,some (.row 18 84 (x2898.map eeval_Point)))],0⟩) ?_ _ _ _ _ _ e2917
      clear H e2917 o2916;intro self ih x2896 x2897 x2898 x2899 o2916 H
      subst hbody
      refine LWp.round ?_
      refine AWp.seq ?_
      refine AWp.seq ?_
      obtain⟨o2918,e2919,H⟩:=bind_of H
      refine AWp.mono (Q:=fun e s=>(match (generalizing:=false) o2918 with | x2902=>e = .normal∧s=⟨[(1,.im (.row (a1.map eSample))),(2,iV .i64 a2),(3,iV .i64 a3),(4,.ptr 11 0 0),(10,.own 12),(11,iV .i64 x2899),(65,bV x2902)],[(11,some (.box 62 [iV .i64 a0.f0,iV .u64 a0.f1,iV .u64 a0.f2,iV .i64 a0.f3.f0,iV .i64 a0.f3.f1,iV .i64 x2896,iV .i64 x2897])),(12,some (.row 18 84 (x2898.map eeval_Point)))],0⟩)) (AWp.cv ?_) ?_
      ·replace H:=e2919;clear e2919
       rcases Bool.eq_false_or_eq_true (decide (x2897≤a2)) with c2901 | c2901
       ·replace H:=(ifT c2901).symm.trans H
        refine reg hP hn hm [(4,.b true)] [1,2,3,4,10,11,63,64,65] [9,10] ⟨[(1,.im (.row (a1.map eSample))),(2,iV .i64 a2),(3,iV .i64 a3),(4,.ptr 9 0 0),(10,.own 10),(11,iV .i64 x2899),(63,iV .i64 x2899),(64,bV (decide (x2899≥(0:Int)))),(65,bV (decide (x2899≥(0:Int))))],[(9,some (.box 62 [iV .i64 a0.f0,iV .u64 a0.f1,iV .u64 a0.f2,iV .i64 a0.f3.f0,iV .i64 a0.f3.f1,iV .i64 x2896,iV .i64 x2897])),(10,some (.row 18 84 (x2898.map eeval_Point)))],0⟩ [(decide (x2897≤a2))=true] (by kernel_rfl) ⟨by exact c2901,trivial⟩ ?_
        obtain rfl:=Option.some.inj H
        exact Exists.intro _ (And.intro (fun _ _ h=>h.conv (inv:=[(9,11),(10,12)]) (vk:=[]) (e0:=[]) (t:=⟨[(1,.im (.row (a1.map eSample))),(2,iV .i64 a2),(3,iV .i64 a3),(4,.ptr 11 0 0),(10,.own 12),(11,iV .i64 x2899),(65,bV (decide (x2899≥(0:Int))))],[(11,some (.box 62 [iV .i64 a0.f0,iV .u64 a0.f1,iV .u64 a0.f2,iV .i64 a0.f3.f0,iV .i64 a0.f3.f1,iV .i64 x2896,iV .i64 x2897])),(12,some (.row 18 84 (x2898.map eeval_Point)))],0⟩) (by kernel_rfl)) (And.intro rfl rfl))
       ·replace H:=(ifF c2901).symm.trans H
        refine reg hP hn hm [(4,.b false)] [1,2,3,4,10,11,65] [9,10] ⟨[(1,.im (.row (a1.map eSample))),(2,iV .i64 a2),(3,iV .i64 a3),(4,.ptr 9 0 0),(10,.own 10),(11,iV .i64 x2899),(65,bV false)],[(9,some (.box 62 [iV .i64 a0.f0,iV .u64 a0.f1,iV .u64 a0.f2,iV .i64 a0.f3.f0,iV .i64 a0.f3.f1,iV .i64 x2896,iV .i64 x2897])),(10,some (.row 18 84 (x2898.map eeval_Point)))],0⟩ [(decide (x2897≤a2))=false] (by kernel_rfl) ⟨by exact c2901,trivial⟩ ?_
        obtain rfl:=Option.some.inj H
        exact Exists.intro _ (And.intro (fun _ _ h=>h.conv (inv:=[(9,11),(10,12)]) (vk:=[]) (e0:=[]) (t:=⟨[(1,.im (.row (a1.map eSample))),(2,iV .i64 a2),(3,iV .i64 a3),(4,.ptr 11 0 0),(10,.own 12),(11,iV .i64 x2899),(65,bV false)],[(11,some (.box 62 [iV .i64 a0.f0,iV .u64 a0.f1,iV .u64 a0.f2,iV .i64 a0.f3.f0,iV .i64 a0.f3.f1,iV .i64 x2896,iV .i64 x2897])),(12,some (.row 18 84 (x2898.map eeval_Point)))],0⟩) (by kernel_rfl)) (And.intro rfl rfl))
      ·obtain⟨x2902,rfl⟩:∃ z,z=o2918:=⟨_,rfl⟩
       rintro e s ⟨rfl,rfl⟩
       refine AWp.cond x2902 rfl (fun c2903 => ?_) (fun c2903 => ?_)
       ·replace H:=(ifT c2903).symm.trans H
        refine AWp.skip ?_
        refine AWp.seq ?_
        refine AWp.block ?_
        refine AWp.seq ?_
        obtain⟨t2906,e2907,H⟩:=bind_of H
        refine reg hP hn hm [(2,.call [] [(0,13),(1,14)] [] [13,14] 0 (.tup [.agg [iV .i64 (((t2906.1).f0).f0),iV .i64 (((t2906.1).f0).f1),iV .i64 (((t2906.1).f0).f2),iV .u64 (((t2906.1).f0).f3),iV .u64 (((t2906.1).f0).f4),iV .i64 (((t2906.1).f0).f5),.own 0,.own 1,iV .i64 ((t2906.1).f1),iV .u64 ((t2906.1).f2),iV .i64 (((t2906.1).f3).f0),iV .i64 (((t2906.1).f3).f1),iV .i64 (((t2906.1).f3).f2),iV .u64 (((t2906.1).f4).f0),iV .u64 (((t2906.1).f4).f1),iV .u64 (((t2906.1).f4).f2)],iV .i64 t2906.2]) [(0,some (.row 2 116 ((((t2906.1).f0).f6).map eBucket))),(1,some (.row 2 116 ((((t2906.1).f0).f7).map eBucket)))]),(6,.k 15)] [1,2,3,4,10,11,12,13] [11,12,13,14,15] ⟨[(1,.im (.row (a1.map eSample))),(2,iV .i64 a2),(3,iV .i64 a3),(4,.ptr 11 0 0),(10,.own 12),(11,iV .i64 x2899),(12,.ptr 15 0 0),(13,iV .i64 t2906.2)],[(11,some (.box 62 [iV .i64 a0.f0,iV .u64 a0.f1,iV .u64 a0.f2,iV .i64 a0.f3.f0,iV .i64 a0.f3.f1,iV .i64 x2896,iV .i64 x2897])),(12,some (.row 18 84 (x2898.map eeval_Point))),(13,some (.row 2 116 ((((t2906.1).f0).f6).map eBucket))),(14,some (.row 2 116 ((((t2906.1).f0).f7).map eBucket))),(15,some (.box 69 [iV .i64 (((t2906.1).f0).f0),iV .i64 (((t2906.1).f0).f1),iV .i64 (((t2906.1).f0).f2),iV .u64 (((t2906.1).f0).f3),iV .u64 (((t2906.1).f0).f4),iV .i64 (((t2906.1).f0).f5),.own 13,.own 14,iV .i64 ((t2906.1).f1),iV .u64 ((t2906.1).f2),iV .i64 (((t2906.1).f3).f0),iV .i64 (((t2906.1).f3).f1),iV .i64 (((t2906.1).f3).f2),iV .u64 (((t2906.1).f4).f0),iV .u64 (((t2906.1).f4).f1),iV .u64 (((t2906.1).f4).f2)]))],0⟩ [Enters Try.prog 29,Pv.Fn Try.prog 29 [.agg (apluvialref19_Ask ⟨((⟨a0.f0,a0.f1,a0.f2,a0.f3,x2896,x2897⟩:Teval_Ask).f0),((⟨a0.f0,a0.f1,a0.f2,a0.f3,x2896,x2897⟩:Teval_Ask).f1),((⟨a0.f0,a0.f1,a0.f2,a0.f3,x2896,x2897⟩:Teval_Ask).f2),((⟨a0.f0,a0.f1,a0.f2,a0.f3,x2896,x2897⟩:Teval_Ask).f3.f0),((⟨a0.f0,a0.f1,a0.f2,a0.f3,x2896,x2897⟩:Teval_Ask).f3.f1),((⟨a0.f0,a0.f1,a0.f2,a0.f3,x2896,x2897⟩:Teval_Ask).f4),((⟨a0.f0,a0.f1,a0.f2,a0.f3,x2896,x2897⟩:Teval_Ask).f5)⟩),.im (.row (a1.map eSample))] [] 0 (fun r o=>r = .tup [.agg [iV .i64 (((t2906.1).f0).f0),iV .i64 (((t2906.1).f0).f1),iV .i64 (((t2906.1).f0).f2),iV .u64 (((t2906.1).f0).f3),iV .u64 (((t2906.1).f0).f4),iV .i64 (((t2906.1).f0).f5),.own 0,.own 1,iV .i64 ((t2906.1).f1),iV .u64 ((t2906.1).f2),iV .i64 (((t2906.1).f3).f0),iV .i64 (((t2906.1).f3).f1),iV .i64 (((t2906.1).f3).f2),iV .u64 (((t2906.1).f4).f0),iV .u64 (((t2906.1).f4).f1),iV .u64 (((t2906.1).f4).f2)],iV .i64 t2906.2]∧o=[(0,some (.row 2 116 ((((t2906.1).f0).f6).map eBucket))),(1,some (.row 2 116 ((((t2906.1).f0).f7).map eBucket)))])] (by kernel_rfl) ⟨by exact Try.call29,by exact f_eval_Do.ok (⟨a0.f0,a0.f1,a0.f2,a0.f3,x2896,x2897⟩:Teval_Ask) a1 t2906 e2907,trivial⟩ ?_
        refine AWp.seq ?_
        refine AWp.conv (inv:=[(11,11),(12,12),(15,15)]) (vk:=[13,14]) (e0:=[]) (t:=⟨[(1,.im (.row (a1.map eSample))),(2,iV .i64 a2),(3,iV .i64 a3),(4,.ptr 11 0 0),(10,.own 12),(11,iV .i64 x2899),(12,.ptr 15 0 0),(13,iV .i64 t2906.2)],[(11,some (.box 62 [iV .i64 a0.f0,iV .u64 a0.f1,iV .u64 a0.f2,iV .i64 a0.f3.f0,iV .i64 a0.f3.f1,iV .i64 x2896,iV .i64 x2897])),(12,some (.row 18 84 (x2898.map eeval_Point))),(15,some (.box 69 [iV .i64 (((t2906.1).f0).f0),iV .i64 (((t2906.1).f0).f1),iV .i64 (((t2906.1).f0).f2),iV .u64 (((t2906.1).f0).f3),iV .u64 (((t2906.1).f0).f4),iV .i64 (((t2906.1).f0).f5),.im (.row ((((t2906.1).f0).f6).map eBucket)),.im (.row ((((t2906.1).f0).f7).map eBucket)),iV .i64 ((t2906.1).f1),iV .u64 ((t2906.1).f2),iV .i64 (((t2906.1).f3).f0),iV .i64 (((t2906.1).f3).f1),iV .i64 (((t2906.1).f3).f2),iV .u64 (((t2906.1).f4).f0),iV .u64 (((t2906.1).f4).f1),iV .u64 (((t2906.1).f4).f2)]))],0⟩) (by kernel_rfl) ?_
        obtain⟨c2910,H⟩:=chk_of H
        refine reg hP hn hm [(6,.app 16 ([(⟨x2897,(⟨(⟨((t2906.1).f0).f0,((t2906.1).f0).f1,((t2906.1).f0).f2,((t2906.1).f0).f3,((t2906.1).f0).f4,((t2906.1).f0).f5,((t2906.1).f0).f6,((t2906.1).f0).f7⟩:THist),(t2906.1).f1,(t2906.1).f2,(⟨((t2906.1).f3).f0,((t2906.1).f3).f1,((t2906.1).f3).f2⟩:Tbound_Key),(⟨((t2906.1).f4).f0,((t2906.1).f4).f1,((t2906.1).f4).f2⟩:Trank_Part)⟩:Teval_Answer),t2906.2⟩:Teval_Point)].map eeval_Point)),(7,.app 17 ((x2898++[(⟨x2897,(⟨(⟨((t2906.1).f0).f0,((t2906.1).f0).f1,((t2906.1).f0).f2,((t2906.1).f0).f3,((t2906.1).f0).f4,((t2906.1).f0).f5,((t2906.1).f0).f6,((t2906.1).f0).f7⟩:THist),(t2906.1).f1,(t2906.1).f2,(⟨((t2906.1).f3).f0,((t2906.1).f3).f1,((t2906.1).f3).f2⟩:Tbound_Key),(⟨((t2906.1).f4).f0,((t2906.1).f4).f1,((t2906.1).f4).f2⟩:Trank_Part)⟩:Teval_Answer),t2906.2⟩:Teval_Point)]).map eeval_Point))] [1,2,3,4,10,11] [11,17] ⟨[(1,.im (.row (a1.map eSample))),(2,iV .i64 a2),(3,iV .i64 a3),(4,.ptr 11 0 0),(10,.own 17),(11,iV .i64 x2899)],[(11,some (.box 62 [iV .i64 a0.f0,iV .u64 a0.f1,iV .u64 a0.f2,iV .i64 a0.f3.f0,iV .i64 a0.f3.f1,iV .i64 x2896,iV .i64 x2897])),(17,some (.row 18 84 ((x2898++[(⟨x2897,(⟨(⟨((t2906.1).f0).f0,((t2906.1).f0).f1,((t2906.1).f0).f2,((t2906.1).f0).f3,((t2906.1).f0).f4,((t2906.1).f0).f5,((t2906.1).f0).f6,((t2906.1).f0).f7⟩:THist),(t2906.1).f1,(t2906.1).f2,(⟨((t2906.1).f3).f0,((t2906.1).f3).f1,((t2906.1).f3).f2⟩:Tbound_Key),(⟨((t2906.1).f4).f0,((t2906.1).f4).f1,((t2906.1).f4).f2⟩:Trank_Part)⟩:Teval_Answer),t2906.2⟩:Teval_Point)]).map eeval_Point)))],0⟩ [[(⟨x2897,(⟨(⟨((t2906.1).f0).f0,((t2906.1).f0).f1,((t2906.1).f0).f2,((t2906.1).f0).f3,((t2906.1).f0).f4,((t2906.1).f0).f5,((t2906.1).f0).f6,((t2906.1).f0).f7⟩:THist),(t2906.1).f1,(t2906.1).f2,(⟨((t2906.1).f3).f0,((t2906.1).f3).f1,((t2906.1).f3).f2⟩:Tbound_Key),(⟨((t2906.1).f4).f0,((t2906.1).f4).f1,((t2906.1).f4).f2⟩:Trank_Part)⟩:Teval_Answer),t2906.2⟩:Teval_Point)].map eeval_Point=[[iI .i64 x2897,iI .i64 (((t2906.1).f0).f0),iI .i64 (((t2906.1).f0).f1),iI .i64 (((t2906.1).f0).f2),iI .u64 (((t2906.1).f0).f3),iI .u64 (((t2906.1).f0).f4),iI .i64 (((t2906.1).f0).f5),.row ((((t2906.1).f0).f6).map eBucket),.row ((((t2906.1).f0).f7).map eBucket),iI .i64 ((t2906.1).f1),iI .u64 ((t2906.1).f2),iI .i64 (((t2906.1).f3).f0),iI .i64 (((t2906.1).f3).f1),iI .i64 (((t2906.1).f3).f2),iI .u64 (((t2906.1).f4).f0),iI .u64 (((t2906.1).f4).f1),iI .u64 (((t2906.1).f4).f2),iI .i64 t2906.2]],(x2898++[(⟨x2897,(⟨(⟨((t2906.1).f0).f0,((t2906.1).f0).f1,((t2906.1).f0).f2,((t2906.1).f0).f3,((t2906.1).f0).f4,((t2906.1).f0).f5,((t2906.1).f0).f6,((t2906.1).f0).f7⟩:THist),(t2906.1).f1,(t2906.1).f2,(⟨((t2906.1).f3).f0,((t2906.1).f3).f1,((t2906.1).f3).f2⟩:Tbound_Key),(⟨((t2906.1).f4).f0,((t2906.1).f4).f1,((t2906.1).f4).f2⟩:Trank_Part)⟩:Teval_Answer),t2906.2⟩:Teval_Point)]).map eeval_Point=(x2898.map eeval_Point)++([(⟨x2897,(⟨(⟨((t2906.1).f0).f0,((t2906.1).f0).f1,((t2906.1).f0).f2,((t2906.1).f0).f3,((t2906.1).f0).f4,((t2906.1).f0).f5,((t2906.1).f0).f6,((t2906.1).f0).f7⟩:THist),(t2906.1).f1,(t2906.1).f2,(⟨((t2906.1).f3).f0,((t2906.1).f3).f1,((t2906.1).f3).f2⟩:Tbound_Key),(⟨((t2906.1).f4).f0,((t2906.1).f4).f1,((t2906.1).f4).f2⟩:Trank_Part)⟩:Teval_Answer),t2906.2⟩:Teval_Point)].map eeval_Point),∀ c∈([(⟨x2897,(⟨(⟨((t2906.1).f0).f0,((t2906.1).f0).f1,((t2906.1).f0).f2,((t2906.1).f0).f3,((t2906.1).f0).f4,((t2906.1).f0).f5,((t2906.1).f0).f6,((t2906.1).f0).f7⟩:THist),(t2906.1).f1,(t2906.1).f2,(⟨((t2906.1).f3).f0,((t2906.1).f3).f1,((t2906.1).f3).f2⟩:Tbound_Key),(⟨((t2906.1).f4).f0,((t2906.1).f4).f1,((t2906.1).f4).f2⟩:Trank_Part)⟩:Teval_Answer),t2906.2⟩:Teval_Point)].map eeval_Point),c.length=18,∀ c∈([(⟨x2897,(⟨(⟨((t2906.1).f0).f0,((t2906.1).f0).f1,((t2906.1).f0).f2,((t2906.1).f0).f3,((t2906.1).f0).f4,((t2906.1).f0).f5,((t2906.1).f0).f6,((t2906.1).f0).f7⟩:THist),(t2906.1).f1,(t2906.1).f2,(⟨((t2906.1).f3).f0,((t2906.1).f3).f1,((t2906.1).f3).f2⟩:Tbound_Key),(⟨((t2906.1).f4).f0,((t2906.1).f4).f1,((t2906.1).f4).f2⟩:Trank_Part)⟩:Teval_Answer),t2906.2⟩:Teval_Point)].map eeval_Point),leaves (c.map .im)=true,((x2898.map eeval_Point).length+([(⟨x2897,(⟨(⟨((t2906.1).f0).f0,((t2906.1).f0).f1,((t2906.1).f0).f2,((t2906.1).f0).f3,((t2906.1).f0).f4,((t2906.1).f0).f5,((t2906.1).f0).f6,((t2906.1).f0).f7⟩:THist),(t2906.1).f1,(t2906.1).f2,(⟨((t2906.1).f3).f0,((t2906.1).f3).f1,((t2906.1).f3).f2⟩:Tbound_Key),(⟨((t2906.1).f4).f0,((t2906.1).f4).f1,((t2906.1).f4).f2⟩:Trank_Part)⟩:Teval_Answer),t2906.2⟩:Teval_Point)].map eeval_Point).length)*176≤140737488355328] (by kernel_rfl) ⟨by exact rfl,by simp,by exact all_len _ _ _ (fun _=>rfl),by exact all_leaf _ _ (fun _=>rfl),by simpa using c2910,trivial⟩ ?_
        refine reg hP hn hm [] [1,2,3,4,10,11] [11,17] ⟨[(1,.im (.row (a1.map eSample))),(2,iV .i64 a2),(3,iV .i64 a3),(4,.ptr 11 0 0),(10,.own 17),(11,iV .i64 x2899)],[(11,some (.box 62 [iV .i64 a0.f0,iV .u64 a0.f1,iV .u64 a0.f2,iV .i64 a0.f3.f0,iV .i64 a0.f3.f1,iV .i64 (IntKind.i64.wrap (x2896+a3)),iV .i64 (IntKind.i64.wrap (x2897+a3))])),(17,some (.row 18 84 ((x2898++[(⟨x2897,(⟨(⟨((t2906.1).f0).f0,((t2906.1).f0).f1,((t2906.1).f0).f2,((t2906.1).f0).f3,((t2906.1).f0).f4,((t2906.1).f0).f5,((t2906.1).f0).f6,((t2906.1).f0).f7⟩:THist),(t2906.1).f1,(t2906.1).f2,(⟨((t2906.1).f3).f0,((t2906.1).f3).f1,((t2906.1).f3).f2⟩:Tbound_Key),(⟨((t2906.1).f4).f0,((t2906.1).f4).f1,((t2906.1).f4).f2⟩:Trank_Part)⟩:Teval_Answer),t2906.2⟩:Teval_Point)]).map eeval_Point)))],0⟩ [] (by kernel_rfl) trivial ?_
        refine reg hP hn hm [] [1,2,3,4,10,11] [11,17] ⟨[(1,.im (.row (a1.map eSample))),(2,iV .i64 a2),(3,iV .i64 a3),(4,.ptr 11 0 0),(10,.own 17),(11,iV .i64 (IntKind.i64.wrap (x2899-(1:Int))))],[(11,some (.box 62 [iV .i64 a0.f0,iV .u64 a0.f1,iV .u64 a0.f2,iV .i64 a0.f3.f0,iV .i64 a0.f3.f1,iV .i64 (IntKind.i64.wrap (x2896+a3)),iV .i64 (IntKind.i64.wrap (x2897+a3))])),(17,some (.row 18 84 ((x2898++[(⟨x2897,(⟨(⟨((t2906.1).f0).f0,((t2906.1).f0).f1,((t2906.1).f0).f2,((t2906.1).f0).f3,((t2906.1).f0).f4,((t2906.1).f0).f5,((t2906.1).f0).f6,((t2906.1).f0).f7⟩:THist),(t2906.1).f1,(t2906.1).f2,(⟨((t2906.1).f3).f0,((t2906.1).f3).f1,((t2906.1).f3).f2⟩:Tbound_Key),(⟨((t2906.1).f4).f0,((t2906.1).f4).f1,((t2906.1).f4).f2⟩:Trank_Part)⟩:Teval_Answer),t2906.2⟩:Teval_Point)]).map eeval_Point)))],0⟩ [] (by kernel_rfl) trivial ?_
        exact LWp.conv (inv:=[(11,9),(17,10)]) (vk:=[]) (e0:=[]) (t:=⟨[(1,.im (.row (a1.map eSample))),(2,iV .i64 a2),(3,iV .i64 a3),(4,.ptr 9 0 0),(10,.own 10),(11,iV .i64 (IntKind.i64.wrap (x2899-(1:Int))))],[(9,some (.box 62 [iV .i64 a0.f0,iV .u64 a0.f1,iV .u64 a0.f2,iV .i64 a0.f3.f0,iV .i64 a0.f3.f1,iV .i64 (IntKind.i64.wrap (x2896+a3)),iV .i64 (IntKind.i64.wrap (x2897+a3))])),(10,some (.row 18 84 ((x2898++[(⟨x2897,(⟨(⟨((t2906.1).f0).f0,((t2906.1).f0).f1,((t2906.1).f0).f2,((t2906.1).f0).f3,((t2906.1).f0).f4,((t2906.1).f0).f5,((t2906.1).f0).f6,((t2906.1).f0).f7⟩:THist),(t2906.1).f1,(t2906.1).f2,(⟨((t2906.1).f3).f0,((t2906.1).f3).f1,((t2906.1).f3).f2⟩:Tbound_Key),(⟨((t2906.1).f4).f0,((t2906.1).f4).f1,((t2906.1).f4).f2⟩:Trank_Part)⟩:Teval_Answer),t2906.2⟩:Teval_Point)]).map eeval_Point)))],0⟩) (by kernel_rfl) (ih _ _ _ _ _ H)
       ·replace H:=(ifF c2903).symm.trans H
        refine AWp.exit ?_
        obtain rfl:=Option.some.inj H
        exact Exists.intro _ (And.intro (fun _ _ h=>h.conv (inv:=[(12,18)]) (vk:=[]) (e0:=[]) (t:=⟨[(10,.own 18)],[(18,some (.row 18 84 (x2898.map eeval_Point)))],0⟩) (by kernel_rfl)) (And.intro rfl rfl))
     ·obtain⟨x2911,rfl⟩:∃ z,z=o2916:=⟨_,rfl⟩
      rintro e s ⟨rfl,rfl⟩
      refine AWp.seq ?_
      refine reg hP hn hm [] [8,9] [18] ⟨[(8,.own 18),(9,iV .i64 0)],[(18,some (.row 18 84 (x2911.map eeval_Point)))],0⟩ [] (by kernel_rfl) trivial ?_
      refine AWp.conv (inv:=[(18,0)]) (vk:=[]) (e0:=[]) (t:=⟨[(8,.own 0),(9,iV .i64 0)],[(0,some (.row 18 84 (x2911.map eeval_Point)))],0⟩) (by kernel_rfl) ?_
      refine AWp.ret ?_
      obtain rfl:=Option.some.inj H
      exact Exists.intro _ (And.intro (fun _ _ h=>h) (And.intro (.inl rfl) (And.intro rfl (And.intro (by kernel_rfl) (by kernel_rfl)))))
def f_pluviallaw19_EvalSteps.l0 (t2922:(List Teval_Point)×Int) (t2926:(List Teval_Point)×Int) (t2930:(List Teval_Point)×Int) (x2967:Int):Option (Bool ⊕ Unit):=if(decide (x2967<((t2926.1++t2930.1).length:Int)))=true then((at? (t2926.1++t2930.1) x2967)>>=fun b2972=>(((at? t2922.1 x2967)>>=fun b2982=>if(b2972.f0 != b2982.f0)=true then(some true) else(if(b2972.f2 != b2982.f2)=true then(some true) else((f_eval_Same.f b2972.f1 b2982.f1)>>=fun t2987=>some (!t2987)))):Option (Bool))>>=fun x2989=>if x2989=true then(some (.inl false)) else(f_pluviallaw19_EvalSteps.l0 t2922 t2926 t2930 (IntKind.i64.wrap (x2967+(1:Int))))) else(some (.inr ()))
partial_fixpoint
def f_pluviallaw19_EvalSteps.f (a0:Tpluvialref19_Ask) (a1:List TSample) (a2:Int) (a3:Int) (a4:Int):Option (Bool):=(f_pluviallaw19_light.f a1)>>=fun t2856=>if(!t2856)=true then((f_pluviallaw19_awake.f)>>=fun t2861=>some t2861) else((f_pluviallaw19_To.f (⟨a0.f0,a0.f1,a0.f2,a0.f3,a0.f4,(if(if(if(if(1000:Int)<a0.f6 then(1000:Int) else a0.f6)>(0:Int) then(if(1000:Int)<a0.f6 then(1000:Int) else a0.f6) else(0:Int))<a0.f5 then(if(if(1000:Int)<a0.f6 then(1000:Int) else a0.f6)>(0:Int) then(if(1000:Int)<a0.f6 then(1000:Int) else a0.f6) else(0:Int)) else a0.f5)>(-1000) then(if(if(if(1000:Int)<a0.f6 then(1000:Int) else a0.f6)>(0:Int) then(if(1000:Int)<a0.f6 then(1000:Int) else a0.f6) else(0:Int))<a0.f5 then(if(if(1000:Int)<a0.f6 then(1000:Int) else a0.f6)>(0:Int) then(if(1000:Int)<a0.f6 then(1000:Int) else a0.f6) else(0:Int)) else a0.f5) else(-1000)),(if(if(1000:Int)<a0.f6 then(1000:Int) else a0.f6)>(0:Int) then(if(1000:Int)<a0.f6 then(1000:Int) else a0.f6) else(0:Int))⟩:Tpluvialref19_Ask))>>=fun t2865=>(f_eval_Range.f (⟨(t2865).f0,(t2865).f1,(t2865).f2,(⟨((t2865).f3).f0,((t2865).f3).f1⟩:Trank_Place),(t2865).f4,(t2865).f5⟩:Teval_Ask) a1 (IntKind.i64.wrap ((IntKind.i64.wrap ((if(if(1000:Int)<a0.f6 then(1000:Int) else a0.f6)>(0:Int) then(if(1000:Int)<a0.f6 then(1000:Int) else a0.f6) else(0:Int))+(IntKind.i64.wrap ((IntKind.i64.wrap ((IntKind.i64.wrap (Int.tmod a4 (20:Int)))+(1:Int)))*(IntKind.i64.wrap (Int.tmod a2 (20:Int)))))))+(IntKind.i64.wrap ((IntKind.i64.wrap ((IntKind.i64.wrap (Int.tmod a4 (20:Int)))+(1:Int)))*(IntKind.i64.wrap (Int.tmod a3 (20:Int))))))) (IntKind.i64.wrap ((IntKind.i64.wrap (Int.tmod a4 (20:Int)))+(1:Int))))>>=fun t2922=>(f_eval_Range.f (⟨(t2865).f0,(t2865).f1,(t2865).f2,(⟨((t2865).f3).f0,((t2865).f3).f1⟩:Trank_Place),(t2865).f4,(t2865).f5⟩:Teval_Ask) a1 (IntKind.i64.wrap ((if(if(1000:Int)<a0.f6 then(1000:Int) else a0.f6)>(0:Int) then(if(1000:Int)<a0.f6 then(1000:Int) else a0.f6) else(0:Int))+(IntKind.i64.wrap ((IntKind.i64.wrap ((IntKind.i64.wrap (Int.tmod a4 (20:Int)))+(1:Int)))*(IntKind.i64.wrap (Int.tmod a2 (20:Int))))))) (IntKind.i64.wrap ((IntKind.i64.wrap (Int.tmod a4 (20:Int)))+(1:Int))))>>=fun t2926=>(f_eval_Range.f (⟨(t2865).f0,(t2865).f1,(t2865).f2,(⟨((t2865).f3).f0,((t2865).f3).f1⟩:Trank_Place),IntKind.i64.wrap ((IntKind.i64.wrap (((t2865).f4)+(IntKind.i64.wrap ((IntKind.i64.wrap ((IntKind.i64.wrap (Int.tmod a4 (20:Int)))+(1:Int)))*(IntKind.i64.wrap (Int.tmod a2 (20:Int)))))))+(IntKind.i64.wrap ((IntKind.i64.wrap (Int.tmod a4 (20:Int)))+(1:Int)))),IntKind.i64.wrap ((IntKind.i64.wrap (((t2865).f5)+(IntKind.i64.wrap ((IntKind.i64.wrap ((IntKind.i64.wrap (Int.tmod a4 (20:Int)))+(1:Int)))*(IntKind.i64.wrap (Int.tmod a2 (20:Int)))))))+(IntKind.i64.wrap ((IntKind.i64.wrap (Int.tmod a4 (20:Int)))+(1:Int))))⟩:Teval_Ask) a1 (IntKind.i64.wrap ((IntKind.i64.wrap ((if(if(1000:Int)<a0.f6 then(1000:Int) else a0.f6)>(0:Int) then(if(1000:Int)<a0.f6 then(1000:Int) else a0.f6) else(0:Int))+(IntKind.i64.wrap ((IntKind.i64.wrap ((IntKind.i64.wrap (Int.tmod a4 (20:Int)))+(1:Int)))*(IntKind.i64.wrap (Int.tmod a2 (20:Int)))))))+(IntKind.i64.wrap ((IntKind.i64.wrap ((IntKind.i64.wrap (Int.tmod a4 (20:Int)))+(1:Int)))*(IntKind.i64.wrap (Int.tmod a3 (20:Int))))))) (IntKind.i64.wrap ((IntKind.i64.wrap (Int.tmod a4 (20:Int)))+(1:Int))))>>=fun t2930=>((if(t2922.2 != (0:Int))=true then(some true) else(if(t2926.2 != (0:Int))=true then(some true) else(if(t2930.2 != (0:Int))=true then(some true) else(if((t2922.1.length:Int) != (IntKind.i64.wrap ((t2926.1.length:Int)+(t2930.1.length:Int))))=true then(some true) else(some ((t2926.1.length:Int) != (IntKind.i64.wrap ((IntKind.i64.wrap (Int.tmod a2 (20:Int)))+(1:Int))))))))):Option (Bool))>>=fun x2940=>if x2940=true then(some false) else((chk ((t2926.1.length+t2930.1.length)*176≤140737488355328))>>=fun _=>(f_pluviallaw19_EvalSteps.l0 t2922 t2926 t2930 0)>>=fun oo=>match oo with | .inl rr=>(some rr) | .inr _=>((f_pluviallaw19_awake.f)>>=fun t2993=>some t2993)))
theorem f_pluviallaw19_EvalSteps.ok (a0:Tpluvialref19_Ask) (a1:List TSample) (a2:Int) (a3:Int) (a4:Int) (r:Bool) (H:f_pluviallaw19_EvalSteps.f a0 a1 a2 a3 a4=some r):Pv.Fn Try.prog 11 [.agg (apluvialref19_Ask a0),.im (.row (a1.map eSample)),iV .u8 a2,iV .u8 a3,iV .u8 a4] [] 0 (fun x o=>x=bV r∧o=[]):=by
 unfold f_pluviallaw19_EvalSteps.f at H
 refine Fn.bodyK [] Try.func11 rfl rfl (fun Γ hP hn => ?_)
 have hm:Try.prog.follows .mixedOrders=true:=by kernel_rfl
 replace hn:Γ.n=191:=hn
 refine AWp.seq ?_
 refine reg hP hn hm [(0,.k 0)] [1,2,3,4,5] [0] ⟨[(1,.im (.row (a1.map eSample))),(2,iV .u8 a2),(3,iV .u8 a3),(4,iV .u8 a4),(5,.ptr 0 0 0)],[(0,some (.box 56 (apluvialref19_Ask a0)))],0⟩ [] (by kernel_rfl) trivial ?_
 refine AWp.seq ?_
 refine reg hP hn hm [] [1,2,3,5,11] [0] ⟨[(1,.im (.row (a1.map eSample))),(2,iV .u8 a2),(3,iV .u8 a3),(5,.ptr 0 0 0),(11,iV .i64 (IntKind.i64.wrap ((IntKind.i64.wrap (Int.tmod a4 (20:Int)))+(1:Int))))],[(0,some (.box 56 (apluvialref19_Ask a0)))],0⟩ [(20:Int)≠0] (by kernel_rfl) ⟨by decide,trivial⟩ ?_
 refine AWp.seq ?_
 refine reg hP hn hm [(2,.more xMin),(3,.more xMax)] [1,2,3,5,11] [0] ⟨[(1,.im (.row (a1.map eSample))),(2,iV .u8 a2),(3,iV .u8 a3),(5,.ptr 0 0 0),(11,iV .i64 (IntKind.i64.wrap ((IntKind.i64.wrap (Int.tmod a4 (20:Int)))+(1:Int))))],[(0,some (.box 56 (apluvialref19_Ask ⟨a0.f0,a0.f1,a0.f2,a0.f3,a0.f4,a0.f5,(if(if(1000:Int)<a0.f6 then(1000:Int) else a0.f6)>(0:Int) then(if(1000:Int)<a0.f6 then(1000:Int) else a0.f6) else(0:Int))⟩)))],0⟩ [] (by kernel_rfl) trivial ?_
 refine AWp.seq ?_
 refine reg hP hn hm [(4,.more xMin),(5,.more xMax)] [1,2,3,5,11] [0] ⟨[(1,.im (.row (a1.map eSample))),(2,iV .u8 a2),(3,iV .u8 a3),(5,.ptr 0 0 0),(11,iV .i64 (IntKind.i64.wrap ((IntKind.i64.wrap (Int.tmod a4 (20:Int)))+(1:Int))))],[(0,some (.box 56 (apluvialref19_Ask ⟨a0.f0,a0.f1,a0.f2,a0.f3,a0.f4,(if(if(if(if(1000:Int)<a0.f6 then(1000:Int) else a0.f6)>(0:Int) then(if(1000:Int)<a0.f6 then(1000:Int) else a0.f6) else(0:Int))<a0.f5 then(if(if(1000:Int)<a0.f6 then(1000:Int) else a0.f6)>(0:Int) then(if(1000:Int)<a0.f6 then(1000:Int) else a0.f6) else(0:Int)) else a0.f5)>(-1000) then(if(if(if(1000:Int)<a0.f6 then(1000:Int) else a0.f6)>(0:Int) then(if(1000:Int)<a0.f6 then(1000:Int) else a0.f6) else(0:Int))<a0.f5 then(if(if(1000:Int)<a0.f6 then(1000:Int) else a0.f6)>(0:Int) then(if(1000:Int)<a0.f6 then(1000:Int) else a0.f6) else(0:Int)) else a0.f5) else(-1000)),(if(if(1000:Int)<a0.f6 then(1000:Int) else a0.f6)>(0:Int) then(if(1000:Int)<a0.f6 then(1000:Int) else a0.f6) else(0:Int))⟩)))],0⟩ [] (by kernel_rfl) trivial ?_
 refine AWp.seq ?_
 refine AWp.seq ?_
 obtain⟨t2856,e2857,H⟩:=bind_of H
 refine reg hP hn hm [(1,.call [] [] [] [] 0 (bV t2856) [])] [1,2,3,5,11,39] [0] ⟨[(1,.im (.row (a1.map eSample))),(2,iV .u8 a2),(3,iV .u8 a3),(5,.ptr 0 0 0),(11,iV .i64 (IntKind.i64.wrap ((IntKind.i64.wrap (Int.tmod a4 (20:Int)))+(1:Int)))),(39,bV (!t2856))],[(0,some (.box 56 (apluvialref19_Ask ⟨a0.f0,a0.f1,a0.f2,a0.f3,a0.f4,(if(if(if(if(1000:Int)<a0.f6 then(1000:Int) else a0.f6)>(0:Int) then(if(1000:Int)<a0.f6 then(1000:Int) else a0.f6) else(0:Int))<a0.f5 then(if(if(1000:Int)<a0.f6 then(1000:Int) else a0.f6)>(0:Int) then(if(1000:Int)<a0.f6 then(1000:Int) else a0.f6) else(0:Int)) else a0.f5)>(-1000) then(if(if(if(1000:Int)<a0.f6 then(1000:Int) else a0.f6)>(0:Int) then(if(1000:Int)<a0.f6 then(1000:Int) else a0.f6) else(0:Int))<a0.f5 then(if(if(1000:Int)<a0.f6 then(1000:Int) else a0.f6)>(0:Int) then(if(1000:Int)<a0.f6 then(1000:Int) else a0.f6) else(0:Int)) else a0.f5) else(-1000)),(if(if(1000:Int)<a0.f6 then(1000:Int) else a0.f6)>(0:Int) then(if(1000:Int)<a0.f6 then(1000:Int) else a0.f6) else(0:Int))⟩)))],0⟩ [Enters Try.prog 26,Pv.Fn Try.prog 26 [.im (.row (a1.map eSample))] [] 0 (fun r o=>r=bV t2856∧o=[])] (by kernel_rfl) ⟨by exact Try.call26,by exact f_pluviallaw19_light.ok a1 t2856 e2857,trivial⟩ ?_
 refine AWp.cond (!t2856) rfl (fun c2858 => ?_) (fun c2858 => ?_)
 ·replace H:=(ifT c2858).symm.trans H
  refine AWp.seq ?_
  obtain⟨t2861,e2862,H⟩:=bind_of H
  refine reg hP hn hm [(0,.call [] [] [] [] 0 (bV t2861) [])] [10] [] ⟨[(10,bV t2861)],[],0⟩ [Enters Try.prog 27,Pv.Fn Try.prog 27 [] [] 0 (fun r o=>r=bV t2861∧o=[])] (by kernel_rfl) ⟨by exact Try.call27,by exact f_pluviallaw19_awake.ok  t2861 e2862,trivial⟩ ?_
  refine AWp.conv (inv:=[]) (vk:=[]) (e0:=[]) (t:=⟨[(10,bV t2861)],[],0⟩) (by kernel_rfl) ?_
  refine AWp.ret ?_
  obtain rfl:=Option.some.inj H
  exact Exists.intro _ (And.intro (fun _ _ h=>h) (And.intro (.inl rfl) (And.intro rfl (And.intro (by kernel_rfl) (by kernel_rfl)))))
 ·replace H:=(ifF c2858).symm.trans H
  refine AWp.skip ?_
  refine AWp.seq ?_
  obtain⟨t2865,e2866,H⟩:=bind_of H
  refine reg hP hn hm [(1,.call [] [] [] [] 0 (.agg (apluvialref19_Ask ⟨((t2865).f0),((t2865).f1),((t2865).f2),(((t2865).f3).f0),(((t2865).f3).f1),((t2865).f4),((t2865).f5)⟩)) []),(2,.k 1)] [1,2,3,5,11,12] [0,1] ⟨[(1,.im (.row (a1.map eSample))),(2,iV .u8 a2),(3,iV .u8 a3),(5,.ptr 0 0 0),(11,iV .i64 (IntKind.i64.wrap ((IntKind.i64.wrap (Int.tmod a4 (20:Int)))+(1:Int)))),(12,.ptr 1 0 0)],[(0,some (.box 56 (apluvialref19_Ask ⟨a0.f0,a0.f1,a0.f2,a0.f3,a0.f4,(if(if(if(if(1000:Int)<a0.f6 then(1000:Int) else a0.f6)>(0:Int) then(if(1000:Int)<a0.f6 then(1000:Int) else a0.f6) else(0:Int))<a0.f5 then(if(if(1000:Int)<a0.f6 then(1000:Int) else a0.f6)>(0:Int) then(if(1000:Int)<a0.f6 then(1000:Int) else a0.f6) else(0:Int)) else a0.f5)>(-1000) then(if(if(if(1000:Int)<a0.f6 then(1000:Int) else a0.f6)>(0:Int) then(if(1000:Int)<a0.f6 then(1000:Int) else a0.f6) else(0:Int))<a0.f5 then(if(if(1000:Int)<a0.f6 then(1000:Int) else a0.f6)>(0:Int) then(if(1000:Int)<a0.f6 then(1000:Int) else a0.f6) else(0:Int)) else a0.f5) else(-1000)),(if(if(1000:Int)<a0.f6 then(1000:Int) else a0.f6)>(0:Int) then(if(1000:Int)<a0.f6 then(1000:Int) else a0.f6) else(0:Int))⟩))),(1,some (.box 62 [iV .i64 ((t2865).f0),iV .u64 ((t2865).f1),iV .u64 ((t2865).f2),iV .i64 (((t2865).f3).f0),iV .i64 (((t2865).f3).f1),iV .i64 ((t2865).f4),iV .i64 ((t2865).f5)]))],0⟩ [Enters Try.prog 28,Pv.Fn Try.prog 28 [.agg (apluvialref19_Ask ⟨a0.f0,a0.f1,a0.f2,a0.f3,a0.f4,(if(if(if(if(1000:Int)<a0.f6 then(1000:Int) else a0.f6)>(0:Int) then(if(1000:Int)<a0.f6 then(1000:Int) else a0.f6) else(0:Int))<a0.f5 then(if(if(1000:Int)<a0.f6 then(1000:Int) else a0.f6)>(0:Int) then(if(1000:Int)<a0.f6 then(1000:Int) else a0.f6) else(0:Int)) else a0.f5)>(-1000) then(if(if(if(1000:Int)<a0.f6 then(1000:Int) else a0.f6)>(0:Int) then(if(1000:Int)<a0.f6 then(1000:Int) else a0.f6) else(0:Int))<a0.f5 then(if(if(1000:Int)<a0.f6 then(1000:Int) else a0.f6)>(0:Int) then(if(1000:Int)<a0.f6 then(1000:Int) else a0.f6) else(0:Int)) else a0.f5) else(-1000)),(if(if(1000:Int)<a0.f6 then(1000:Int) else a0.f6)>(0:Int) then(if(1000:Int)<a0.f6 then(1000:Int) else a0.f6) else(0:Int))⟩)] [] 0 (fun r o=>r = .agg (apluvialref19_Ask ⟨((t2865).f0),((t2865).f1),((t2865).f2),(((t2865).f3).f0),(((t2865).f3).f1),((t2865).f4),((t2865).f5)⟩)∧o=[])] (by kernel_rfl) ⟨by exact Try.call28,by exact f_pluviallaw19_To.ok (⟨a0.f0,a0.f1,a0.f2,a0.f3,a0.f4,(if(if(if(if(1000:Int)<a0.f6 then(1000:Int) else a0.f6)>(0:Int) then(if(1000:Int)<a0.f6 then(1000:Int) else a0.f6) else(0:Int))<a0.f5 then(if(if(1000:Int)<a0.f6 then(1000:Int) else a0.f6)>(0:Int) then(if(1000:Int)<a0.f6 then(1000:Int) else a0.f6) else(0:Int)) else a0.f5)>(-1000) then(if(if(if(1000:Int)<a0.f6 then(1000:Int) else a0.f6)>(0:Int) then(if(1000:Int)<a0.f6 then(1000:Int) else a0.f6) else(0:Int))<a0.f5 then(if(if(1000:Int)<a0.f6 then(1000:Int) else a0.f6)>(0:Int) then(if(1000:Int)<a0.f6 then(1000:Int) else a0.f6) else(0:Int)) else a0.f5) else(-1000)),(if(if(1000:Int)<a0.f6 then(1000:Int) else a0.f6)>(0:Int) then(if(1000:Int)<a0.f6 then(1000:Int) else a0.f6) else(0:Int))⟩:Tpluvialref19_Ask) t2865 e2866,trivial⟩ ?_
  refine AWp.seq ?_
  obtain⟨t2922,e2923,H⟩:=bind_of H
  refine reg hP hn hm [(17,.call [] [(0,2)] [] [2] 0 (.tup [.own 0,iV .i64 t2922.2]) [(0,some (.row 18 84 (t2922.1.map eeval_Point)))])] [1,2,3,5,11,12,13,14] [0,1,2] ⟨[(1,.im (.row (a1.map eSample))),(2,iV .u8 a2),(3,iV .u8 a3),(5,.ptr 0 0 0),(11,iV .i64 (IntKind.i64.wrap ((IntKind.i64.wrap (Int.tmod a4 (20:Int)))+(1:Int)))),(12,.ptr 1 0 0),(13,.own 2),(14,iV .i64 t2922.2)],[(0,some (.box 56 (apluvialref19_Ask ⟨a0.f0,a0.f1,a0.f2,a0.f3,a0.f4,(if(if(if(if(1000:Int)<a0.f6 then(1000:Int) else a0.f6)>(0:Int) then(if(1000:Int)<a0.f6 then(1000:Int) else a0.f6) else(0:Int))<a0.f5 then(if(if(1000:Int)<a0.f6 then(1000:Int) else a0.f6)>(0:Int) then(if(1000:Int)<a0.f6 then(1000:Int) else a0.f6) else(0:Int)) else a0.f5)>(-1000) then(if(if(if(1000:Int)<a0.f6 then(1000:Int) else a0.f6)>(0:Int) then(if(1000:Int)<a0.f6 then(1000:Int) else a0.f6) else(0:Int))<a0.f5 then(if(if(1000:Int)<a0.f6 then(1000:Int) else a0.f6)>(0:Int) then(if(1000:Int)<a0.f6 then(1000:Int) else a0.f6) else(0:Int)) else a0.f5) else(-1000)),(if(if(1000:Int)<a0.f6 then(1000:Int) else a0.f6)>(0:Int) then(if(1000:Int)<a0.f6 then(1000:Int) else a0.f6) else(0:Int))⟩))),(1,some (.box 62 [iV .i64 ((t2865).f0),iV .u64 ((t2865).f1),iV .u64 ((t2865).f2),iV .i64 (((t2865).f3).f0),iV .i64 (((t2865).f3).f1),iV .i64 ((t2865).f4),iV .i64 ((t2865).f5)])),(2,some (.row 18 84 (t2922.1.map eeval_Point)))],0⟩ [(20:Int)≠0,(20:Int)≠0,Enters Try.prog 33,Pv.Fn Try.prog 33 [.agg (apluvialref19_Ask ⟨((⟨(t2865).f0,(t2865).f1,(t2865).f2,(⟨((t2865).f3).f0,((t2865).f3).f1⟩:Trank_Place),(t2865).f4,(t2865).f5⟩:Teval_Ask).f0),((⟨(t2865).f0,(t2865).f1,(t2865).f2,(⟨((t2865).f3).f0,((t2865).f3).f1⟩:Trank_Place),(t2865).f4,(t2865).f5⟩:Teval_Ask).f1),((⟨(t2865).f0,(t2865).f1,(t2865).f2,(⟨((t2865).f3).f0,((t2865).f3).f1⟩:Trank_Place),(t2865).f4,(t2865).f5⟩:Teval_Ask).f2),((⟨(t2865).f0,(t2865).f1,(t2865).f2,(⟨((t2865).f3).f0,((t2865).f3).f1⟩:Trank_Place),(t2865).f4,(t2865).f5⟩:Teval_Ask).f3.f0),((⟨(t2865).f0,(t2865).f1,(t2865).f2,(⟨((t2865).f3).f0,((t2865).f3).f1⟩:Trank_Place),(t2865).f4,(t2865).f5⟩:Teval_Ask).f3.f1),((⟨(t2865).f0,(t2865).f1,(t2865).f2,(⟨((t2865).f3).f0,((t2865).f3).f1⟩:Trank_Place),(t2865).f4,(t2865).f5⟩:Teval_Ask).f4),((⟨(t2865).f0,(t2865).f1,(t2865).f2,(⟨((t2865).f3).f0,((t2865).f3).f1⟩:Trank_Place),(t2865).f4,(t2865).f5⟩:Teval_Ask).f5)⟩),.im (.row (a1.map eSample)),iV .i64 (IntKind.i64.wrap ((IntKind.i64.wrap ((if(if(1000:Int)<a0.f6 then(1000:Int) else a0.f6)>(0:Int) then(if(1000:Int)<a0.f6 then(1000:Int) else a0.f6) else(0:Int))+(IntKind.i64.wrap ((IntKind.i64.wrap ((IntKind.i64.wrap (Int.tmod a4 (20:Int)))+(1:Int)))*(IntKind.i64.wrap (Int.tmod a2 (20:Int)))))))+(IntKind.i64.wrap ((IntKind.i64.wrap ((IntKind.i64.wrap (Int.tmod a4 (20:Int)))+(1:Int)))*(IntKind.i64.wrap (Int.tmod a3 (20:Int))))))),iV .i64 (IntKind.i64.wrap ((IntKind.i64.wrap (Int.tmod a4 (20:Int)))+(1:Int)))] [] 0 (fun r o=>r = .tup [.own 0,iV .i64 t2922.2]∧o=[(0,some (.row 18 84 (t2922.1.map eeval_Point)))])] (by kernel_rfl) ⟨by decide,by decide,by exact Try.call33,by exact f_eval_Range.ok (⟨(t2865).f0,(t2865).f1,(t2865).f2,(⟨((t2865).f3).f0,((t2865).f3).f1⟩:Trank_Place),(t2865).f4,(t2865).f5⟩:Teval_Ask) a1 (IntKind.i64.wrap ((IntKind.i64.wrap ((if(if(1000:Int)<a0.f6 then(1000:Int) else a0.f6)>(0:Int) then(if(1000:Int)<a0.f6 then(1000:Int) else a0.f6) else(0:Int))+(IntKind.i64.wrap ((IntKind.i64.wrap ((IntKind.i64.wrap (Int.tmod a4 (20:Int)))+(1:Int)))*(IntKind.i64.wrap (Int.tmod a2 (20:Int)))))))+(IntKind.i64.wrap ((IntKind.i64.wrap ((IntKind.i64.wrap (Int.tmod a4 (20:Int)))+(1:Int)))*(IntKind.i64.wrap (Int.tmod a3 (20:Int))))))) (IntKind.i64.wrap ((IntKind.i64.wrap (Int.tmod a4 (20:Int)))+(1:Int))) t2922 e2923,trivial⟩ ?_
  refine AWp.seq ?_
  obtain⟨t2926,e2927,H⟩:=bind_of H
  refine reg hP hn hm [(11,.call [] [(0,3)] [] [3] 0 (.tup [.own 0,iV .i64 t2926.2]) [(0,some (.row 18 84 (t2926.1.map eeval_Point)))])] [1,2,3,5,11,12,13,14,15,16] [0,1,2,3] ⟨[(1,.im (.row (a1.map eSample))),(2,iV .u8 a2),(3,iV .u8 a3),(5,.ptr 0 0 0),(11,iV .i64 (IntKind.i64.wrap ((IntKind.i64.wrap (Int.tmod a4 (20:Int)))+(1:Int)))),(12,.ptr 1 0 0),(13,.own 2),(14,iV .i64 t2922.2),(15,.own 3),(16,iV .i64 t2926.2)],[(0,some (.box 56 (apluvialref19_Ask ⟨a0.f0,a0.f1,a0.f2,a0.f3,a0.f4,(if(if(if(if(1000:Int)<a0.f6 then(1000:Int) else a0.f6)>(0:Int) then(if(1000:Int)<a0.f6 then(1000:Int) else a0.f6) else(0:Int))<a0.f5 then(if(if(1000:Int)<a0.f6 then(1000:Int) else a0.f6)>(0:Int) then(if(1000:Int)<a0.f6 then(1000:Int) else a0.f6) else(0:Int)) else a0.f5)>(-1000) then(if(if(if(1000:Int)<a0.f6 then(1000:Int) else a0.f6)>(0:Int) then(if(1000:Int)<a0.f6 then(1000:Int) else a0.f6) else(0:Int))<a0.f5 then(if(if(1000:Int)<a0.f6 then(1000:Int) else a0.f6)>(0:Int) then(if(1000:Int)<a0.f6 then(1000:Int) else a0.f6) else(0:Int)) else a0.f5) else(-1000)),(if(if(1000:Int)<a0.f6 then(1000:Int) else a0.f6)>(0:Int) then(if(1000:Int)<a0.f6 then(1000:Int) else a0.f6) else(0:Int))⟩))),(1,some (.box 62 [iV .i64 ((t2865).f0),iV .u64 ((t2865).f1),iV .u64 ((t2865).f2),iV .i64 (((t2865).f3).f0),iV .i64 (((t2865).f3).f1),iV .i64 ((t2865).f4),iV .i64 ((t2865).f5)])),(2,some (.row 18 84 (t2922.1.map eeval_Point))),(3,some (.row 18 84 (t2926.1.map eeval_Point)))],0⟩ [(20:Int)≠0,Enters Try.prog 33,Pv.Fn Try.prog 33 [.agg (apluvialref19_Ask ⟨((⟨(t2865).f0,(t2865).f1,(t2865).f2,(⟨((t2865).f3).f0,((t2865).f3).f1⟩:Trank_Place),(t2865).f4,(t2865).f5⟩:Teval_Ask).f0),((⟨(t2865).f0,(t2865).f1,(t2865).f2,(⟨((t2865).f3).f0,((t2865).f3).f1⟩:Trank_Place),(t2865).f4,(t2865).f5⟩:Teval_Ask).f1),((⟨(t2865).f0,(t2865).f1,(t2865).f2,(⟨((t2865).f3).f0,((t2865).f3).f1⟩:Trank_Place),(t2865).f4,(t2865).f5⟩:Teval_Ask).f2),((⟨(t2865).f0,(t2865).f1,(t2865).f2,(⟨((t2865).f3).f0,((t2865).f3).f1⟩:Trank_Place),(t2865).f4,(t2865).f5⟩:Teval_Ask).f3.f0),((⟨(t2865).f0,(t2865).f1,(t2865).f2,(⟨((t2865).f3).f0,((t2865).f3).f1⟩:Trank_Place),(t2865).f4,(t2865).f5⟩:Teval_Ask).f3.f1),((⟨(t2865).f0,(t2865).f1,(t2865).f2,(⟨((t2865).f3).f0,((t2865).f3).f1⟩:Trank_Place),(t2865).f4,(t2865).f5⟩:Teval_Ask).f4),((⟨(t2865).f0,(t2865).f1,(t2865).f2,(⟨((t2865).f3).f0,((t2865).f3).f1⟩:Trank_Place),(t2865).f4,(t2865).f5⟩:Teval_Ask).f5)⟩),.im (.row (a1.map eSample)),iV .i64 (IntKind.i64.wrap ((if(if(1000:Int)<a0.f6 then(1000:Int) else a0.f6)>(0:Int) then(if(1000:Int)<a0.f6 then(1000:Int) else a0.f6) else(0:Int))+(IntKind.i64.wrap ((IntKind.i64.wrap ((IntKind.i64.wrap (Int.tmod a4 (20:Int)))+(1:Int)))*(IntKind.i64.wrap (Int.tmod a2 (20:Int))))))),iV .i64 (IntKind.i64.wrap ((IntKind.i64.wrap (Int.tmod a4 (20:Int)))+(1:Int)))] [] 0 (fun r o=>r = .tup [.own 0,iV .i64 t2926.2]∧o=[(0,some (.row 18 84 (t2926.1.map eeval_Point)))])] (by kernel_rfl) ⟨by decide,by exact Try.call33,by exact f_eval_Range.ok (⟨(t2865).f0,(t2865).f1,(t2865).f2,(⟨((t2865).f3).f0,((t2865).f3).f1⟩:Trank_Place),(t2865).f4,(t2865).f5⟩:Teval_Ask) a1 (IntKind.i64.wrap ((if(if(1000:Int)<a0.f6 then(1000:Int) else a0.f6)>(0:Int) then(if(1000:Int)<a0.f6 then(1000:Int) else a0.f6) else(0:Int))+(IntKind.i64.wrap ((IntKind.i64.wrap ((IntKind.i64.wrap (Int.tmod a4 (20:Int)))+(1:Int)))*(IntKind.i64.wrap (Int.tmod a2 (20:Int))))))) (IntKind.i64.wrap ((IntKind.i64.wrap (Int.tmod a4 (20:Int)))+(1:Int))) t2926 e2927,trivial⟩ ?_
  refine AWp.seq ?_
  refine reg hP hn hm [] [1,2,3,5,11,12,13,14,15,16] [0,1,2,3] ⟨[(1,.im (.row (a1.map eSample))),(2,iV .u8 a2),(3,iV .u8 a3),(5,.ptr 0 0 0),(11,iV .i64 (IntKind.i64.wrap ((IntKind.i64.wrap (Int.tmod a4 (20:Int)))+(1:Int)))),(12,.ptr 1 0 0),(13,.own 2),(14,iV .i64 t2922.2),(15,.own 3),(16,iV .i64 t2926.2)],[(0,some (.box 56 (apluvialref19_Ask ⟨a0.f0,a0.f1,a0.f2,a0.f3,a0.f4,(if(if(if(if(1000:Int)<a0.f6 then(1000:Int) else a0.f6)>(0:Int) then(if(1000:Int)<a0.f6 then(1000:Int) else a0.f6) else(0:Int))<a0.f5 then(if(if(1000:Int)<a0.f6 then(1000:Int) else a0.f6)>(0:Int) then(if(1000:Int)<a0.f6 then(1000:Int) else a0.f6) else(0:Int)) else a0.f5)>(-1000) then(if(if(if(1000:Int)<a0.f6 then(1000:Int) else a0.f6)>(0:Int) then(if(1000:Int)<a0.f6 then(1000:Int) else a0.f6) else(0:Int))<a0.f5 then(if(if(1000:Int)<a0.f6 then(1000:Int) else a0.f6)>(0:Int) then(if(1000:Int)<a0.f6 then(1000:Int) else a0.f6) else(0:Int)) else a0.f5) else(-1000)),(if(if(1000:Int)<a0.f6 then(1000:Int) else a0.f6)>(0:Int) then(if(1000:Int)<a0.f6 then(1000:Int) else a0.f6) else(0:Int))⟩))),(1,some (.box 62 [iV .i64 ((t2865).f0),iV .u64 ((t2865).f1),iV .u64 ((t2865).f2),iV .i64 (((t2865).f3).f0),iV .i64 (((t2865).f3).f1),iV .i64 (IntKind.i64.wrap ((IntKind.i64.wrap (((t2865).f4)+(IntKind.i64.wrap ((IntKind.i64.wrap ((IntKind.i64.wrap (Int.tmod a4 (20:Int)))+(1:Int)))*(IntKind.i64.wrap (Int.tmod a2 (20:Int)))))))+(IntKind.i64.wrap ((IntKind.i64.wrap (Int.tmod a4 (20:Int)))+(1:Int))))),iV .i64 (IntKind.i64.wrap ((IntKind.i64.wrap (((t2865).f5)+(IntKind.i64.wrap ((IntKind.i64.wrap ((IntKind.i64.wrap (Int.tmod a4 (20:Int)))+(1:Int)))*(IntKind.i64.wrap (Int.tmod a2 (20:Int)))))))+(IntKind.i64.wrap ((IntKind.i64.wrap (Int.tmod a4 (20:Int)))+(1:Int)))))])),(2,some (.row 18 84 (t2922.1.map eeval_Point))),(3,some (.row 18 84 (t2926.1.map eeval_Point)))],0⟩ [(20:Int)≠0,(20:Int)≠0] (by kernel_rfl) ⟨by decide,by decide,trivial⟩ ?_
  refine AWp.seq ?_
  obtain⟨t2930,e2931,H⟩:=bind_of H
  refine reg hP hn hm [(17,.call [] [(0,4)] [] [4] 0 (.tup [.own 0,iV .i64 t2930.2]) [(0,some (.row 18 84 (t2930.1.map eeval_Point)))])] [2,13,14,15,16,17,18] [2,3,4] ⟨[(2,iV .u8 a2),(13,.own 2),(14,iV .i64 t2922.2),(15,.own 3),(16,iV .i64 t2926.2),(17,.own 4),(18,iV .i64 t2930.2)],[(2,some (.row 18 84 (t2922.1.map eeval_Point))),(3,some (.row 18 84 (t2926.1.map eeval_Point))),(4,some (.row 18 84 (t2930.1.map eeval_Point)))],0⟩ [(20:Int)≠0,(20:Int)≠0,Enters Try.prog 33,Pv.Fn Try.prog 33 [.agg (apluvialref19_Ask ⟨((⟨(t2865).f0,(t2865).f1,(t2865).f2,(⟨((t2865).f3).f0,((t2865).f3).f1⟩:Trank_Place),IntKind.i64.wrap ((IntKind.i64.wrap (((t2865).f4)+(IntKind.i64.wrap ((IntKind.i64.wrap ((IntKind.i64.wrap (Int.tmod a4 (20:Int)))+(1:Int)))*(IntKind.i64.wrap (Int.tmod a2 (20:Int)))))))+(IntKind.i64.wrap ((IntKind.i64.wrap (Int.tmod a4 (20:Int)))+(1:Int)))),IntKind.i64.wrap ((IntKind.i64.wrap (((t2865).f5)+(IntKind.i64.wrap ((IntKind.i64.wrap ((IntKind.i64.wrap (Int.tmod a4 (20:Int)))+(1:Int)))*(IntKind.i64.wrap (Int.tmod a2 (20:Int)))))))+(IntKind.i64.wrap ((IntKind.i64.wrap (Int.tmod a4 (20:Int)))+(1:Int))))⟩:Teval_Ask).f0),((⟨(t2865).f0,(t2865).f1,(t2865).f2,(⟨((t2865).f3).f0,((t2865).f3).f1⟩:Trank_Place),IntKind.i64.wrap ((IntKind.i64.wrap (((t2865).f4)+(IntKind.i64.wrap ((IntKind.i64.wrap ((IntKind.i64.wrap (Int.tmod a4 (20:Int)))+(1:Int)))*(IntKind.i64.wrap (Int.tmod a2 (20:Int)))))))+(IntKind.i64.wrap ((IntKind.i64.wrap (Int.tmod a4 (20:Int)))+(1:Int)))),IntKind.i64.wrap ((IntKind.i64.wrap (((t2865).f5)+(IntKind.i64.wrap ((IntKind.i64.wrap ((IntKind.i64.wrap (Int.tmod a4 (20:Int)))+(1:Int)))*(IntKind.i64.wrap (Int.tmod a2 (20:Int)))))))+(IntKind.i64.wrap ((IntKind.i64.wrap (Int.tmod a4 (20:Int)))+(1:Int))))⟩:Teval_Ask).f1),((⟨(t2865).f0,(t2865).f1,(t2865).f2,(⟨((t2865).f3).f0,((t2865).f3).f1⟩:Trank_Place),IntKind.i64.wrap ((IntKind.i64.wrap (((t2865).f4)+(IntKind.i64.wrap ((IntKind.i64.wrap ((IntKind.i64.wrap (Int.tmod a4 (20:Int)))+(1:Int)))*(IntKind.i64.wrap (Int.tmod a2 (20:Int)))))))+(IntKind.i64.wrap ((IntKind.i64.wrap (Int.tmod a4 (20:Int)))+(1:Int)))),IntKind.i64.wrap ((IntKind.i64.wrap (((t2865).f5)+(IntKind.i64.wrap ((IntKind.i64.wrap ((IntKind.i64.wrap (Int.tmod a4 (20:Int)))+(1:Int)))*(IntKind.i64.wrap (Int.tmod a2 (20:Int)))))))+(IntKind.i64.wrap ((IntKind.i64.wrap (Int.tmod a4 (20:Int)))+(1:Int))))⟩:Teval_Ask).f2),((⟨(t2865).f0,(t2865).f1,(t2865).f2,(⟨((t2865).f3).f0,((t2865).f3).f1⟩:Trank_Place),IntKind.i64.wrap ((IntKind.i64.wrap (((t2865).f4)+(IntKind.i64.wrap ((IntKind.i64.wrap ((IntKind.i64.wrap (Int.tmod a4 (20:Int)))+(1:Int)))*(IntKind.i64.wrap (Int.tmod a2 (20:Int)))))))+(IntKind.i64.wrap ((IntKind.i64.wrap (Int.tmod a4 (20:Int)))+(1:Int)))),IntKind.i64.wrap ((IntKind.i64.wrap (((t2865).f5)+(IntKind.i64.wrap ((IntKind.i64.wrap ((IntKind.i64.wrap (Int.tmod a4 (20:Int)))+(1:Int)))*(IntKind.i64.wrap (Int.tmod a2 (20:Int)))))))+(IntKind.i64.wrap ((IntKind.i64.wrap (Int.tmod a4 (20:Int)))+(1:Int))))⟩:Teval_Ask).f3.f0),((⟨(t2865).f0,(t2865).f1,(t2865).f2,(⟨((t2865).f3).f0,((t2865).f3).f1⟩:Trank_Place),IntKind.i64.wrap ((IntKind.i64.wrap (((t2865).f4)+(IntKind.i64.wrap ((IntKind.i64.wrap ((IntKind.i64.wrap (Int.tmod a4 (20:Int)))+(1:Int)))*(IntKind.i64.wrap (Int.tmod a2 (20:Int)))))))+(IntKind.i64.wrap ((IntKind.i64.wrap (Int.tmod a4 (20:Int)))+(1:Int)))),IntKind.i64.wrap ((IntKind.i64.wrap (((t2865).f5)+(IntKind.i64.wrap ((IntKind.i64.wrap ((IntKind.i64.wrap (Int.tmod a4 (20:Int)))+(1:Int)))*(IntKind.i64.wrap (Int.tmod a2 (20:Int)))))))+(IntKind.i64.wrap ((IntKind.i64.wrap (Int.tmod a4 (20:Int)))+(1:Int))))⟩:Teval_Ask).f3.f1),((⟨(t2865).f0,(t2865).f1,(t2865).f2,(⟨((t2865).f3).f0,((t2865).f3).f1⟩:Trank_Place),IntKind.i64.wrap ((IntKind.i64.wrap (((t2865).f4)+(IntKind.i64.wrap ((IntKind.i64.wrap ((IntKind.i64.wrap (Int.tmod a4 (20:Int)))+(1:Int)))*(IntKind.i64.wrap (Int.tmod a2 (20:Int)))))))+(IntKind.i64.wrap ((IntKind.i64.wrap (Int.tmod a4 (20:Int)))+(1:Int)))),IntKind.i64.wrap ((IntKind.i64.wrap (((t2865).f5)+(IntKind.i64.wrap ((IntKind.i64.wrap ((IntKind.i64.wrap (Int.tmod a4 (20:Int)))+(1:Int)))*(IntKind.i64.wrap (Int.tmod a2 (20:Int)))))))+(IntKind.i64.wrap ((IntKind.i64.wrap (Int.tmod a4 (20:Int)))+(1:Int))))⟩:Teval_Ask).f4),((⟨(t2865).f0,(t2865).f1,(t2865).f2,(⟨((t2865).f3).f0,((t2865).f3).f1⟩:Trank_Place),IntKind.i64.wrap ((IntKind.i64.wrap (((t2865).f4)+(IntKind.i64.wrap ((IntKind.i64.wrap ((IntKind.i64.wrap (Int.tmod a4 (20:Int)))+(1:Int)))*(IntKind.i64.wrap (Int.tmod a2 (20:Int)))))))+(IntKind.i64.wrap ((IntKind.i64.wrap (Int.tmod a4 (20:Int)))+(1:Int)))),IntKind.i64.wrap ((IntKind.i64.wrap (((t2865).f5)+(IntKind.i64.wrap ((IntKind.i64.wrap ((IntKind.i64.wrap (Int.tmod a4 (20:Int)))+(1:Int)))*(IntKind.i64.wrap (Int.tmod a2 (20:Int)))))))+(IntKind.i64.wrap ((IntKind.i64.wrap (Int.tmod a4 (20:Int)))+(1:Int))))⟩:Teval_Ask).f5)⟩),.im (.row (a1.map eSample)),iV .i64 (IntKind.i64.wrap ((IntKind.i64.wrap ((if(if(1000:Int)<a0.f6 then(1000:Int) else a0.f6)>(0:Int) then(if(1000:Int)<a0.f6 then(1000:Int) else a0.f6) else(0:Int))+(IntKind.i64.wrap ((IntKind.i64.wrap ((IntKind.i64.wrap (Int.tmod a4 (20:Int)))+(1:Int)))*(IntKind.i64.wrap (Int.tmod a2 (20:Int)))))))+(IntKind.i64.wrap ((IntKind.i64.wrap ((IntKind.i64.wrap (Int.tmod a4 (20:Int)))+(1:Int)))*(IntKind.i64.wrap (Int.tmod a3 (20:Int))))))),iV .i64 (IntKind.i64.wrap ((IntKind.i64.wrap (Int.tmod a4 (20:Int)))+(1:Int)))] [] 0 (fun r o=>r = .tup [.own 0,iV .i64 t2930.2]∧o=[(0,some (.row 18 84 (t2930.1.map eeval_Point)))])] (by kernel_rfl) ⟨by decide,by decide,by exact Try.call33,by exact f_eval_Range.ok (⟨(t2865).f0,(t2865).f1,(t2865).f2,(⟨((t2865).f3).f0,((t2865).f3).f1⟩:Trank_Place),IntKind.i64.wrap ((IntKind.i64.wrap (((t2865).f4)+(IntKind.i64.wrap ((IntKind.i64.wrap ((IntKind.i64.wrap (Int.tmod a4 (20:Int)))+(1:Int)))*(IntKind.i64.wrap (Int.tmod a2 (20:Int)))))))+(IntKind.i64.wrap ((IntKind.i64.wrap (Int.tmod a4 (20:Int)))+(1:Int)))),IntKind.i64.wrap ((IntKind.i64.wrap (((t2865).f5)+(IntKind.i64.wrap ((IntKind.i64.wrap ((IntKind.i64.wrap (Int.tmod a4 (20:Int)))+(1:Int)))*(IntKind.i64.wrap (Int.tmod a2 (20:Int)))))))+(IntKind.i64.wrap ((IntKind.i64.wrap (Int.tmod a4 (20:Int)))+(1:Int))))⟩:Teval_Ask) a1 (IntKind.i64.wrap ((IntKind.i64.wrap ((if(if(1000:Int)<a0.f6 then(1000:Int) else a0.f6)>(0:Int) then(if(1000:Int)<a0.f6 then(1000:Int) else a0.f6) else(0:Int))+(IntKind.i64.wrap ((IntKind.i64.wrap ((IntKind.i64.wrap (Int.tmod a4 (20:Int)))+(1:Int)))*(IntKind.i64.wrap (Int.tmod a2 (20:Int)))))))+(IntKind.i64.wrap ((IntKind.i64.wrap ((IntKind.i64.wrap (Int.tmod a4 (20:Int)))+(1:Int)))*(IntKind.i64.wrap (Int.tmod a3 (20:Int))))))) (IntKind.i64.wrap ((IntKind.i64.wrap (Int.tmod a4 (20:Int)))+(1:Int))) t2930 e2931,trivial⟩ ?_
  refine AWp.seq ?_
  refine AWp.seq ?_
  obtain⟨o2995,e2996,H⟩:=bind_of H
  refine AWp.mono (Q:=fun e s=>(match (generalizing:=false) o2995 with | x2940=>e = .normal∧s=⟨[(13,.own 5),(15,.own 6),(17,.own 7),(150,bV x2940)],[(5,some (.row 18 84 (t2922.1.map eeval_Point))),(6,some (.row 18 84 (t2926.1.map eeval_Point))),(7,some (.row 18 84 (t2930.1.map eeval_Point)))],0⟩)) (AWp.cv ?_) ?_
  ·replace H:=e2996;clear e2996
   rcases Bool.eq_false_or_eq_true (t2922.2 != (0:Int)) with c2936 | c2936
   ·replace H:=(ifT c2936).symm.trans H
    refine reg hP hn hm [(2,.b true)] [13,15,17,150] [2,3,4] ⟨[(13,.own 2),(15,.own 3),(17,.own 4),(150,bV true)],[(2,some (.row 18 84 (t2922.1.map eeval_Point))),(3,some (.row 18 84 (t2926.1.map eeval_Point))),(4,some (.row 18 84 (t2930.1.map eeval_Point)))],0⟩ [(t2922.2 != (0:Int))=true] (by kernel_rfl) ⟨by exact c2936,trivial⟩ ?_
    obtain rfl:=Option.some.inj H
    exact Exists.intro _ (And.intro (fun _ _ h=>h.conv (inv:=[(2,5),(3,6),(4,7)]) (vk:=[]) (e0:=[]) (t:=⟨[(13,.own 5),(15,.own 6),(17,.own 7),(150,bV true)],[(5,some (.row 18 84 (t2922.1.map eeval_Point))),(6,some (.row 18 84 (t2926.1.map eeval_Point))),(7,some (.row 18 84 (t2930.1.map eeval_Point)))],0⟩) (by kernel_rfl)) (And.intro rfl rfl))
   ·replace H:=(ifF c2936).symm.trans H
    rcases Bool.eq_false_or_eq_true (t2926.2 != (0:Int)) with c2937 | c2937
    ·replace H:=(ifT c2937).symm.trans H
     refine reg hP hn hm [(2,.b false),(6,.b true)] [13,15,17,150] [2,3,4] ⟨[(13,.own 2),(15,.own 3),(17,.own 4),(150,bV true)],[(2,some (.row 18 84 (t2922.1.map eeval_Point))),(3,some (.row 18 84 (t2926.1.map eeval_Point))),(4,some (.row 18 84 (t2930.1.map eeval_Point)))],0⟩ [(t2922.2 != (0:Int))=false,(t2926.2 != (0:Int))=true] (by kernel_rfl) ⟨by exact c2936,by exact c2937,trivial⟩ ?_
     obtain rfl:=Option.some.inj H
     exact Exists.intro _ (And.intro (fun _ _ h=>h.conv (inv:=[(2,5),(3,6),(4,7)]) (vk:=[]) (e0:=[]) (t:=⟨[(13,.own 5),(15,.own 6),(17,.own 7),(150,bV true)],[(5,some (.row 18 84 (t2922.1.map eeval_Point))),(6,some (.row 18 84 (t2926.1.map eeval_Point))),(7,some (.row 18 84 (t2930.1.map eeval_Point)))],0⟩) (by kernel_rfl)) (And.intro rfl rfl))
    ·replace H:=(ifF c2937).symm.trans H
     rcases Bool.eq_false_or_eq_true (t2930.2 != (0:Int)) with c2938 | c2938
     ·replace H:=(ifT c2938).symm.trans H
      refine reg hP hn hm [(2,.b false),(6,.b false),(10,.b true)] [13,15,17,150] [2,3,4] ⟨[(13,.own 2),(15,.own 3),(17,.own 4),(150,bV true)],[(2,some (.row 18 84 (t2922.1.map eeval_Point))),(3,some (.row 18 84 (t2926.1.map eeval_Point))),(4,some (.row 18 84 (t2930.1.map eeval_Point)))],0⟩ [(t2922.2 != (0:Int))=false,(t2926.2 != (0:Int))=false,(t2930.2 != (0:Int))=true] (by kernel_rfl) ⟨by exact c2936,by exact c2937,by exact c2938,trivial⟩ ?_
      obtain rfl:=Option.some.inj H
      exact Exists.intro _ (And.intro (fun _ _ h=>h.conv (inv:=[(2,5),(3,6),(4,7)]) (vk:=[]) (e0:=[]) (t:=⟨[(13,.own 5),(15,.own 6),(17,.own 7),(150,bV true)],[(5,some (.row 18 84 (t2922.1.map eeval_Point))),(6,some (.row 18 84 (t2926.1.map eeval_Point))),(7,some (.row 18 84 (t2930.1.map eeval_Point)))],0⟩) (by kernel_rfl)) (And.intro rfl rfl))
     ·replace H:=(ifF c2938).symm.trans H
      rcases Bool.eq_false_or_eq_true ((t2922.1.length:Int) != (IntKind.i64.wrap ((t2926.1.length:Int)+(t2930.1.length:Int)))) with c2939 | c2939
      ·replace H:=(ifT c2939).symm.trans H
       refine reg hP hn hm [(2,.b false),(6,.b false),(10,.b false),(12,.any (iV .i64 (t2922.1.length:Int))),(14,.any (iV .i64 (t2926.1.length:Int))),(16,.any (iV .i64 (t2930.1.length:Int))),(20,.b true)] [13,15,17,150] [2,3,4] ⟨[(13,.own 2),(15,.own 3),(17,.own 4),(150,bV true)],[(2,some (.row 18 84 (t2922.1.map eeval_Point))),(3,some (.row 18 84 (t2926.1.map eeval_Point))),(4,some (.row 18 84 (t2930.1.map eeval_Point)))],0⟩ [(t2922.2 != (0:Int))=false,(t2926.2 != (0:Int))=false,(t2930.2 != (0:Int))=false,((t2922.1.map eeval_Point).length:Int)=(t2922.1.length:Int),((t2926.1.map eeval_Point).length:Int)=(t2926.1.length:Int),((t2930.1.map eeval_Point).length:Int)=(t2930.1.length:Int),((t2922.1.length:Int) != (IntKind.i64.wrap ((t2926.1.length:Int)+(t2930.1.length:Int))))=true] (by kernel_rfl) ⟨by exact c2936,by exact c2937,by exact c2938,by rw[len_map],by rw[len_map],by rw[len_map],by exact c2939,trivial⟩ ?_
       obtain rfl:=Option.some.inj H
       exact Exists.intro _ (And.intro (fun _ _ h=>h.conv (inv:=[(2,5),(3,6),(4,7)]) (vk:=[]) (e0:=[]) (t:=⟨[(13,.own 5),(15,.own 6),(17,.own 7),(150,bV true)],[(5,some (.row 18 84 (t2922.1.map eeval_Point))),(6,some (.row 18 84 (t2926.1.map eeval_Point))),(7,some (.row 18 84 (t2930.1.map eeval_Point)))],0⟩) (by kernel_rfl)) (And.intro rfl rfl))
      ·replace H:=(ifF c2939).symm.trans H
       refine reg hP hn hm [(2,.b false),(6,.b false),(10,.b false),(12,.any (iV .i64 (t2922.1.length:Int))),(14,.any (iV .i64 (t2926.1.length:Int))),(16,.any (iV .i64 (t2930.1.length:Int))),(20,.b false),(22,.any (iV .i64 (t2926.1.length:Int)))] [13,15,17,150] [2,3,4] ⟨[(13,.own 2),(15,.own 3),(17,.own 4),(150,bV ((t2926.1.length:Int) != (IntKind.i64.wrap ((IntKind.i64.wrap (Int.tmod a2 (20:Int)))+(1:Int)))))],[(2,some (.row 18 84 (t2922.1.map eeval_Point))),(3,some (.row 18 84 (t2926.1.map eeval_Point))),(4,some (.row 18 84 (t2930.1.map eeval_Point)))],0⟩ [(t2922.2 != (0:Int))=false,(t2926.2 != (0:Int))=false,(t2930.2 != (0:Int))=false,((t2922.1.map eeval_Point).length:Int)=(t2922.1.length:Int),((t2926.1.map eeval_Point).length:Int)=(t2926.1.length:Int),((t2930.1.map eeval_Point).length:Int)=(t2930.1.length:Int),((t2922.1.length:Int) != (IntKind.i64.wrap ((t2926.1.length:Int)+(t2930.1.length:Int))))=false,((t2926.1.map eeval_Point).length:Int)=(t2926.1.length:Int),(20:Int)≠0] (by kernel_rfl) ⟨by exact c2936,by exact c2937,by exact c2938,by rw[len_map],by rw[len_map],by rw[len_map],by exact c2939,by rw[len_map],by decide,trivial⟩ ?_
       obtain rfl:=Option.some.inj H
       exact Exists.intro _ (And.intro (fun _ _ h=>h.conv (inv:=[(2,5),(3,6),(4,7)]) (vk:=[]) (e0:=[]) (t:=⟨[(13,.own 5),(15,.own 6),(17,.own 7),(150,bV ((t2926.1.length:Int) != (IntKind.i64.wrap ((IntKind.i64.wrap (Int.tmod a2 (20:Int)))+(1:Int)))))],[(5,some (.row 18 84 (t2922.1.map eeval_Point))),(6,some (.row 18 84 (t2926.1.map eeval_Point))),(7,some (.row 18 84 (t2930.1.map eeval_Point)))],0⟩) (by kernel_rfl)) (And.intro rfl rfl))
  ·obtain⟨x2940,rfl⟩:∃ z,z=o2995:=⟨_,rfl⟩
   rintro e s ⟨rfl,rfl⟩
   refine AWp.cond x2940 rfl (fun c2941 => ?_) (fun c2941 => ?_)
   ·replace H:=(ifT c2941).symm.trans H
    refine AWp.seq ?_
    refine reg hP hn hm [] [10] [] ⟨[(10,bV false)],[],0⟩ [] (by kernel_rfl) trivial ?_
    refine AWp.conv (inv:=[]) (vk:=[]) (e0:=[]) (t:=⟨[(10,bV false)],[],0⟩) (by kernel_rfl) ?_
    refine AWp.ret ?_
    obtain rfl:=Option.some.inj H
    exact Exists.intro _ (And.intro (fun _ _ h=>h) (And.intro (.inl rfl) (And.intro rfl (And.intro (by kernel_rfl) (by kernel_rfl)))))
   ·replace H:=(ifF c2941).symm.trans H
    refine AWp.skip ?_
    refine AWp.seq ?_
    refine AWp.seq ?_
    obtain⟨c2943,H⟩:=chk_of H
    refine reg hP hn hm [(2,.app 8 ((t2926.1++t2930.1).map eeval_Point)),(3,.any (iV .i64 ((t2926.1++t2930.1).length:Int)))] [13,153,154,155] [5,8] ⟨[(13,.own 5),(153,.own 8),(154,iV .i64 ((t2926.1++t2930.1).length:Int)),(155,iV .i64 0)],[(5,some (.row 18 84 (t2922.1.map eeval_Point))),(8,some (.row 18 84 ((t2926.1++t2930.1).map eeval_Point)))],0⟩ [(t2926.1++t2930.1).map eeval_Point=(t2926.1.map eeval_Point)++(t2930.1.map eeval_Point),∀ c∈(t2930.1.map eeval_Point),c.length=18,∀ c∈(t2930.1.map eeval_Point),leaves (c.map .im)=true,((t2926.1.map eeval_Point).length+(t2930.1.map eeval_Point).length)*176≤140737488355328,(((t2926.1++t2930.1).map eeval_Point).length:Int)=((t2926.1++t2930.1).length:Int)] (by kernel_rfl) ⟨by simp,by exact all_len _ _ _ (fun _=>rfl),by exact all_leaf _ _ (fun _=>rfl),by simpa using c2943,by rw[len_map],trivial⟩ ?_
    refine AWp.block ?_
    obtain⟨o2997,e2998,H⟩:=bind_of H
    refine AWp.loop (LWp.conv (inv:=[(5,12),(8,13)]) (vk:=[]) (e0:=[]) (t:=⟨[(13,.own 12),(153,.own 13),(154,iV .i64 ((t2926.1++t2930.1).length:Int)),(155,iV .i64 0)],[(12,some (.row 18 84 (t2922.1.map eeval_Point))),(13,some (.row 18 84 ((t2926.1++t2930.1).map eeval_Point)))],0⟩) (by kernel_rfl) ?_)
    refine LWp.mono (Q:=fun e s=>(match (generalizing:=false) o2997 with | .inl rr=>e = .ret∧s.floor=0∧resOf Try.prog Try.f11 s=some (bV rr)∧([]:List (Nat×Option MObj))=[] | .inr _=>e = .exit 0∧s=⟨[],[],0⟩)) (LWp.cv (withBody (fun body hbody => ?_))) ?_
    ·refine f_pluviallaw19_EvalSteps.l0.partial_correctness t2922 t2926 t2930 (motive:=fun x2967 o2997=>LWp Γ body (fun e s=>∃ t,Cv Γ s t∧(match (generalizing:=false) o2997 with | .inl rr=>e = .ret∧t.floor=0∧resOf Try.prog Try.f11 t=some (bV rr)∧([]:List (Nat×Option MObj))=[] | .inr _=>e = .exit 0∧t=⟨[],[],0⟩)) ⟨[(13,.own 12),(153,.own 13),(154,iV .i64 ((t2926.1++t2930.1).length:Int)),(155,iV .i64 x2967)],[(12,some (.row 18 84 (t2922.1.map eeval_Point))),(13,some (.row 18 84 ((t2926.1++t2930.1).map eeval_Point)))],0⟩) ?_ _ _ e2998
     clear H e2998 o2997;intro self ih x2967 o2997 H
     subst hbody
     refine LWp.round ?_
     refine AWp.seq ?_
     refine reg hP hn hm [] [13,153,154,155,156] [12,13] ⟨[(13,.own 12),(153,.own 13),(154,iV .i64 ((t2926.1++t2930.1).length:Int)),(155,iV .i64 x2967),(156,bV (decide (x2967<((t2926.1++t2930.1).length:Int))))],[(12,some (.row 18 84 (t2922.1.map eeval_Point))),(13,some (.row 18 84 ((t2926.1++t2930.1).map eeval_Point)))],0⟩ [] (by kernel_rfl) trivial ?_
     refine AWp.seq ?_
     refine AWp.cond (decide (x2967<((t2926.1++t2930.1).length:Int))) rfl (fun c2968 => ?_) (fun c2968 => ?_)
     ·replace H:=(ifT c2968).symm.trans H
      refine AWp.skip ?_
      refine AWp.seq ?_
      refine AWp.block ?_
      refine AWp.seq ?_
      obtain⟨b2972,p2973,q2974,H⟩:=at_of H
      refine reg hP hn hm [(2,.c (eeval_Point b2972)),(3,.k 14)] [13,19,20,153,154,155] [12,13,14] ⟨[(13,.own 12),(19,iV .i64 x2967),(20,.ptr 14 0 0),(153,.own 13),(154,iV .i64 ((t2926.1++t2930.1).length:Int)),(155,iV .i64 x2967)],[(12,some (.row 18 84 (t2922.1.map eeval_Point))),(13,some (.row 18 84 ((t2926.1++t2930.1).map eeval_Point))),(14,some (.box 84 [iV .i64 b2972.f0,iV .i64 b2972.f1.f0.f0,iV .i64 b2972.f1.f0.f1,iV .i64 b2972.f1.f0.f2,iV .u64 b2972.f1.f0.f3,iV .u64 b2972.f1.f0.f4,iV .i64 b2972.f1.f0.f5,.im (.row (b2972.f1.f0.f6.map eBucket)),.im (.row (b2972.f1.f0.f7.map eBucket)),iV .i64 b2972.f1.f1,iV .u64 b2972.f1.f2,iV .i64 b2972.f1.f3.f0,iV .i64 b2972.f1.f3.f1,iV .i64 b2972.f1.f3.f2,iV .u64 b2972.f1.f4.f0,iV .u64 b2972.f1.f4.f1,iV .u64 b2972.f1.f4.f2,iV .i64 b2972.f2]))],0⟩ [0≤x2967,x2967<((((t2926.1++t2930.1).map eeval_Point).length:Nat):Int),((t2926.1++t2930.1).map eeval_Point)[(Int.toNat (x2967))]? = some (eeval_Point b2972)] (by kernel_rfl) ⟨by exact p2973,by exact el_lt eeval_Point p2973 q2974,by exact el_map eeval_Point q2974,trivial⟩ ?_
      refine AWp.seq ?_
      obtain⟨o2999,e3000,H⟩:=bind_of H
      refine AWp.mono (Q:=fun e s=>(match (generalizing:=false) o2999 with | x2989=>e = .normal∧s=⟨[(13,.own 15),(153,.own 16),(154,iV .i64 ((t2926.1++t2930.1).length:Int)),(155,iV .i64 x2967),(188,bV x2989)],[(15,some (.row 18 84 (t2922.1.map eeval_Point))),(16,some (.row 18 84 ((t2926.1++t2930.1).map eeval_Point)))],0⟩)) (AWp.cv ?_) ?_
      ·replace H:=e3000;clear e3000
       obtain⟨b2982,p2983,q2984,H⟩:=at_of H
       rcases Bool.eq_false_or_eq_true (b2972.f0 != b2982.f0) with c2985 | c2985
       ·replace H:=(ifT c2985).symm.trans H
        refine reg hP hn hm [(6,.c (eeval_Point b2982)),(8,.b true)] [13,153,154,155,188] [12,13] ⟨[(13,.own 12),(153,.own 13),(154,iV .i64 ((t2926.1++t2930.1).length:Int)),(155,iV .i64 x2967),(188,bV true)],[(12,some (.row 18 84 (t2922.1.map eeval_Point))),(13,some (.row 18 84 ((t2926.1++t2930.1).map eeval_Point)))],0⟩ [0≤x2967,x2967<(((t2922.1.map eeval_Point).length:Nat):Int),(t2922.1.map eeval_Point)[(Int.toNat (x2967))]? = some (eeval_Point b2982),(b2972.f0 != b2982.f0)=true] (by kernel_rfl) ⟨by exact p2983,by exact el_lt eeval_Point p2983 q2984,by exact el_map eeval_Point q2984,by exact c2985,trivial⟩ ?_
        obtain rfl:=Option.some.inj H
        exact Exists.intro _ (And.intro (fun _ _ h=>h.conv (inv:=[(12,15),(13,16)]) (vk:=[]) (e0:=[]) (t:=⟨[(13,.own 15),(153,.own 16),(154,iV .i64 ((t2926.1++t2930.1).length:Int)),(155,iV .i64 x2967),(188,bV true)],[(15,some (.row 18 84 (t2922.1.map eeval_Point))),(16,some (.row 18 84 ((t2926.1++t2930.1).map eeval_Point)))],0⟩) (by kernel_rfl)) (And.intro rfl rfl))
       ·replace H:=(ifF c2985).symm.trans H
        rcases Bool.eq_false_or_eq_true (b2972.f2 != b2982.f2) with c2986 | c2986
        ·replace H:=(ifT c2986).symm.trans H
         refine reg hP hn hm [(6,.c (eeval_Point b2982)),(8,.b false),(15,.c (eeval_Point b2982)),(18,.b true)] [13,153,154,155,169,170,171,172,173,174,175,176,188] [12,13,14] ⟨[(13,.own 12),(153,.own 13),(154,iV .i64 ((t2926.1++t2930.1).length:Int)),(155,iV .i64 x2967),(169,.ptr 14 0 17),(170,iV .i64 b2972.f2),(171,.own 12),(172,iV .i64 x2967),(173,.ptr 12 (Int.toNat (x2967)) 0),(174,.ptr 12 (Int.toNat (x2967)) 17),(175,iV .i64 b2982.f2),(176,bV (b2972.f2 != b2982.f2)),(188,bV true)],[(12,some (.row 18 84 (t2922.1.map eeval_Point))),(13,some (.row 18 84 ((t2926.1++t2930.1).map eeval_Point))),(14,some (.box 84 [iV .i64 b2972.f0,iV .i64 b2972.f1.f0.f0,iV .i64 b2972.f1.f0.f1,iV .i64 b2972.f1.f0.f2,iV .u64 b2972.f1.f0.f3,iV .u64 b2972.f1.f0.f4,iV .i64 b2972.f1.f0.f5,.im (.row (b2972.f1.f0.f6.map eBucket)),.im (.row (b2972.f1.f0.f7.map eBucket)),iV .i64 b2972.f1.f1,iV .u64 b2972.f1.f2,iV .i64 b2972.f1.f3.f0,iV .i64 b2972.f1.f3.f1,iV .i64 b2972.f1.f3.f2,iV .u64 b2972.f1.f4.f0,iV .u64 b2972.f1.f4.f1,iV .u64 b2972.f1.f4.f2,iV .i64 b2972.f2]))],0⟩ [0≤x2967,x2967<(((t2922.1.map eeval_Point).length:Nat):Int),(t2922.1.map eeval_Point)[(Int.toNat (x2967))]? = some (eeval_Point b2982),(b2972.f0 != b2982.f0)=false,0≤x2967,x2967<(((t2922.1.map eeval_Point).length:Nat):Int),(t2922.1.map eeval_Point)[(Int.toNat (x2967))]? = some (eeval_Point b2982),(b2972.f2 != b2982.f2)=true] (by kernel_rfl) ⟨by exact p2983,by exact el_lt eeval_Point p2983 q2984,by exact el_map eeval_Point q2984,by exact c2985,by exact p2983,by exact el_lt eeval_Point p2983 q2984,by exact el_map eeval_Point q2984,by exact c2986,trivial⟩ ?_
         obtain rfl:=Option.some.inj H
         exact Exists.intro _ (And.intro (fun _ _ h=>h.conv (inv:=[(12,15),(13,16)]) (vk:=[]) (e0:=[]) (t:=⟨[(13,.own 15),(153,.own 16),(154,iV .i64 ((t2926.1++t2930.1).length:Int)),(155,iV .i64 x2967),(188,bV true)],[(15,some (.row 18 84 (t2922.1.map eeval_Point))),(16,some (.row 18 84 ((t2926.1++t2930.1).map eeval_Point)))],0⟩) (by kernel_rfl)) (And.intro rfl rfl))
        ·replace H:=(ifF c2986).symm.trans H
         obtain⟨t2987,e2988,H⟩:=bind_of H
         refine reg hP hn hm [(6,.c (eeval_Point b2982)),(8,.b false),(15,.c (eeval_Point b2982)),(18,.b false),(25,.c (eeval_Point b2982)),(26,.call [] [] [] [] 0 (bV t2987) [])] [13,153,154,155,169,170,171,172,173,174,175,176,179,180,181,182,183,184,185,186,187,188] [12,13,14] ⟨[(13,.own 12),(153,.own 13),(154,iV .i64 ((t2926.1++t2930.1).length:Int)),(155,iV .i64 x2967),(169,.ptr 14 0 17),(170,iV .i64 b2972.f2),(171,.own 12),(172,iV .i64 x2967),(173,.ptr 12 (Int.toNat (x2967)) 0),(174,.ptr 12 (Int.toNat (x2967)) 17),(175,iV .i64 b2982.f2),(176,bV (b2972.f2 != b2982.f2)),(179,.ptr 14 0 1),(180,.agg [iV .i64 b2972.f1.f0.f0,iV .i64 b2972.f1.f0.f1,iV .i64 b2972.f1.f0.f2,iV .u64 b2972.f1.f0.f3,iV .u64 b2972.f1.f0.f4,iV .i64 b2972.f1.f0.f5,.im (.row (b2972.f1.f0.f6.map eBucket)),.im (.row (b2972.f1.f0.f7.map eBucket)),iV .i64 b2972.f1.f1,iV .u64 b2972.f1.f2,iV .i64 b2972.f1.f3.f0,iV .i64 b2972.f1.f3.f1,iV .i64 b2972.f1.f3.f2,iV .u64 b2972.f1.f4.f0,iV .u64 b2972.f1.f4.f1,iV .u64 b2972.f1.f4.f2]),(181,.own 12),(182,iV .i64 x2967),(183,.ptr 12 (Int.toNat (x2967)) 0),(184,.ptr 12 (Int.toNat (x2967)) 1),(185,.agg [iV .i64 b2982.f1.f0.f0,iV .i64 b2982.f1.f0.f1,iV .i64 b2982.f1.f0.f2,iV .u64 b2982.f1.f0.f3,iV .u64 b2982.f1.f0.f4,iV .i64 b2982.f1.f0.f5,.im (.row (b2982.f1.f0.f6.map eBucket)),.im (.row (b2982.f1.f0.f7.map eBucket)),iV .i64 b2982.f1.f1,iV .u64 b2982.f1.f2,iV .i64 b2982.f1.f3.f0,iV .i64 b2982.f1.f3.f1,iV .i64 b2982.f1.f3.f2,iV .u64 b2982.f1.f4.f0,iV .u64 b2982.f1.f4.f1,iV .u64 b2982.f1.f4.f2]),(186,bV t2987),(187,bV (!t2987)),(188,bV (!t2987))],[(12,some (.row 18 84 (t2922.1.map eeval_Point))),(13,some (.row 18 84 ((t2926.1++t2930.1).map eeval_Point))),(14,some (.box 84 [iV .i64 b2972.f0,iV .i64 b2972.f1.f0.f0,iV .i64 b2972.f1.f0.f1,iV .i64 b2972.f1.f0.f2,iV .u64 b2972.f1.f0.f3,iV .u64 b2972.f1.f0.f4,iV .i64 b2972.f1.f0.f5,.im (.row (b2972.f1.f0.f6.map eBucket)),.im (.row (b2972.f1.f0.f7.map eBucket)),iV .i64 b2972.f1.f1,iV .u64 b2972.f1.f2,iV .i64 b2972.f1.f3.f0,iV .i64 b2972.f1.f3.f1,iV .i64 b2972.f1.f3.f2,iV .u64 b2972.f1.f4.f0,iV .u64 b2972.f1.f4.f1,iV .u64 b2972.f1.f4.f2,iV .i64 b2972.f2]))],0⟩ [0≤x2967,x2967<(((t2922.1.map eeval_Point).length:Nat):Int),(t2922.1.map eeval_Point)[(Int.toNat (x2967))]? = some (eeval_Point b2982),(b2972.f0 != b2982.f0)=false,0≤x2967,x2967<(((t2922.1.map eeval_Point).length:Nat):Int),(t2922.1.map eeval_Point)[(Int.toNat (x2967))]? = some (eeval_Point b2982),(b2972.f2 != b2982.f2)=false,0≤x2967,x2967<(((t2922.1.map eeval_Point).length:Nat):Int),(t2922.1.map eeval_Point)[(Int.toNat (x2967))]? = some (eeval_Point b2982),Enters Try.prog 32,Pv.Fn Try.prog 32 [.agg [iV .i64 b2972.f1.f0.f0,iV .i64 b2972.f1.f0.f1,iV .i64 b2972.f1.f0.f2,iV .u64 b2972.f1.f0.f3,iV .u64 b2972.f1.f0.f4,iV .i64 b2972.f1.f0.f5,.im (.row (b2972.f1.f0.f6.map eBucket)),.im (.row (b2972.f1.f0.f7.map eBucket)),iV .i64 b2972.f1.f1,iV .u64 b2972.f1.f2,iV .i64 b2972.f1.f3.f0,iV .i64 b2972.f1.f3.f1,iV .i64 b2972.f1.f3.f2,iV .u64 b2972.f1.f4.f0,iV .u64 b2972.f1.f4.f1,iV .u64 b2972.f1.f4.f2],.agg [iV .i64 b2982.f1.f0.f0,iV .i64 b2982.f1.f0.f1,iV .i64 b2982.f1.f0.f2,iV .u64 b2982.f1.f0.f3,iV .u64 b2982.f1.f0.f4,iV .i64 b2982.f1.f0.f5,.im (.row (b2982.f1.f0.f6.map eBucket)),.im (.row (b2982.f1.f0.f7.map eBucket)),iV .i64 b2982.f1.f1,iV .u64 b2982.f1.f2,iV .i64 b2982.f1.f3.f0,iV .i64 b2982.f1.f3.f1,iV .i64 b2982.f1.f3.f2,iV .u64 b2982.f1.f4.f0,iV .u64 b2982.f1.f4.f1,iV .u64 b2982.f1.f4.f2]] [] 0 (fun r o=>r=bV t2987∧o=[])] (by kernel_rfl) ⟨by exact p2983,by exact el_lt eeval_Point p2983 q2984,by exact el_map eeval_Point q2984,by exact c2985,by exact p2983,by exact el_lt eeval_Point p2983 q2984,by exact el_map eeval_Point q2984,by exact c2986,by exact p2983,by exact el_lt eeval_Point p2983 q2984,by exact el_map eeval_Point q2984,by exact Try.call32,by exact f_eval_Same.ok b2972.f1 b2982.f1 t2987 e2988,trivial⟩ ?_
         obtain rfl:=Option.some.inj H
         exact Exists.intro _ (And.intro (fun _ _ h=>h.conv (inv:=[(12,15),(13,16)]) (vk:=[]) (e0:=[]) (t:=⟨[(13,.own 15),(153,.own 16),(154,iV .i64 ((t2926.1++t2930.1).length:Int)),(155,iV .i64 x2967),(188,bV (!t2987))],[(15,some (.row 18 84 (t2922.1.map eeval_Point))),(16,some (.row 18 84 ((t2926.1++t2930.1).map eeval_Point)))],0⟩) (by kernel_rfl)) (And.intro rfl rfl))
      ·obtain⟨x2989,rfl⟩:∃ z,z=o2999:=⟨_,rfl⟩
       rintro e s ⟨rfl,rfl⟩
       refine AWp.cond x2989 rfl (fun c2990 => ?_) (fun c2990 => ?_)
       ·replace H:=(ifT c2990).symm.trans H
        refine AWp.seq ?_
        refine reg hP hn hm [] [10] [] ⟨[(10,bV false)],[],0⟩ [] (by kernel_rfl) trivial ?_
        refine AWp.conv (inv:=[]) (vk:=[]) (e0:=[]) (t:=⟨[(10,bV false)],[],0⟩) (by kernel_rfl) ?_
        refine AWp.ret ?_
        obtain rfl:=Option.some.inj H
        exact Exists.intro _ (And.intro (fun _ _ h=>h) (And.intro rfl (And.intro rfl (And.intro (by kernel_rfl) (by kernel_rfl)))))
       ·replace H:=(ifF c2990).symm.trans H
        refine AWp.skip ?_
        refine reg hP hn hm [] [13,153,154,155] [15,16] ⟨[(13,.own 15),(153,.own 16),(154,iV .i64 ((t2926.1++t2930.1).length:Int)),(155,iV .i64 (IntKind.i64.wrap (x2967+(1:Int))))],[(15,some (.row 18 84 (t2922.1.map eeval_Point))),(16,some (.row 18 84 ((t2926.1++t2930.1).map eeval_Point)))],0⟩ [] (by kernel_rfl) trivial ?_
        exact LWp.conv (inv:=[(15,12),(16,13)]) (vk:=[]) (e0:=[]) (t:=⟨[(13,.own 12),(153,.own 13),(154,iV .i64 ((t2926.1++t2930.1).length:Int)),(155,iV .i64 (IntKind.i64.wrap (x2967+(1:Int))))],[(12,some (.row 18 84 (t2922.1.map eeval_Point))),(13,some (.row 18 84 ((t2926.1++t2930.1).map eeval_Point)))],0⟩) (by kernel_rfl) (ih _ _ H)
     ·replace H:=(ifF c2968).symm.trans H
      refine AWp.exit ?_
      obtain rfl:=Option.some.inj H
      exact Exists.intro _ (And.intro (fun _ _ h=>h.conv (inv:=[]) (vk:=[]) (e0:=[]) (t:=⟨[],[],0⟩) (by kernel_rfl)) (And.intro rfl rfl))
    ·rcases o2997 with rr | _
     ·skip
      rintro e s ⟨rfl,hfl,hres⟩
      obtain rfl:=Option.some.inj H
      exact Exists.intro _ (And.intro (fun _ _ h=>h) (And.intro (.inl rfl) (And.intro hfl hres)))
     ·skip
      rintro e s ⟨rfl,rfl⟩
      refine AWp.seq ?_
      obtain⟨t2993,e2994,H⟩:=bind_of H
      refine reg hP hn hm [(0,.call [] [] [] [] 0 (bV t2993) [])] [10] [] ⟨[(10,bV t2993)],[],0⟩ [Enters Try.prog 27,Pv.Fn Try.prog 27 [] [] 0 (fun r o=>r=bV t2993∧o=[])] (by kernel_rfl) ⟨by exact Try.call27,by exact f_pluviallaw19_awake.ok  t2993 e2994,trivial⟩ ?_
      refine AWp.conv (inv:=[]) (vk:=[]) (e0:=[]) (t:=⟨[(10,bV t2993)],[],0⟩) (by kernel_rfl) ?_
      refine AWp.ret ?_
      obtain rfl:=Option.some.inj H
      exact Exists.intro _ (And.intro (fun _ _ h=>h) (And.intro (.inl rfl) (And.intro rfl (And.intro (by kernel_rfl) (by kernel_rfl)))))
end Go.Proofs.Ytfkppdcfgmgllaa.PvGD3
