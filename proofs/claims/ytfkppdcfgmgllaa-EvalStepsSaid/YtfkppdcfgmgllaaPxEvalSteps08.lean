import Derived.Test.YtfkppdcfgmgllaaProg
import Derived.Test.YtfkppdcfgmgllaaPxEvalSteps07
set_option linter.unusedVariables false
set_option linter.unnecessarySimpa false
set_option linter.unusedSimpArgs false
set_option maxRecDepth 10000
namespace Go.Proofs.Ytfkppdcfgmgllaa.PvGD3
open Go Go.Pv
def f_meld_Alike.l0  (v:Int×Int×Int×Int×Int×Int×(List TBucket)×(List TBucket)×Int×Int×Int×Int×Int×Int×(List TBucket)×(List TBucket)):Option ((THist×THist×Int) ⊕ (Int×Int×Int×Int×Int×Int×(List TBucket)×(List TBucket)×Int×Int×Int×Int×Int×Int×(List TBucket)×(List TBucket))):=match v with
 | (x1676,x1677,x1678,x1679,x1680,x1681,x1682,x1683,x1684,x1685,x1686,x1687,x1688,x1689,x1690,x1691)=>if(x1678 != x1686)=true then((f_meld_Widen.f (⟨x1676,x1677,x1678,x1679,x1680,x1681,x1682,x1683⟩:THist) (if x1686>x1678 then x1686 else x1678))>>=fun t1695=>(f_meld_Widen.f (⟨x1684,x1685,x1686,x1687,x1688,x1689,x1690,x1691⟩:THist) (if x1686>x1678 then x1686 else x1678))>>=fun t1699=>if((if t1699.2>t1695.2 then t1699.2 else t1695.2) != (0:Int))=true then(some (.inl ((⟨0,0,0,0,0,0,[],[]⟩:THist),(⟨0,0,0,0,0,0,[],[]⟩:THist),(if t1699.2>t1695.2 then t1699.2 else t1695.2)))) else(f_meld_Alike.l0  ((t1695.1).f0,(t1695.1).f1,(t1695.1).f2,(t1695.1).f3,(t1695.1).f4,(t1695.1).f5,(t1695.1).f6,(t1695.1).f7,(t1699.1).f0,(t1699.1).f1,(t1699.1).f2,(t1699.1).f3,(t1699.1).f4,(t1699.1).f5,(t1699.1).f6,(t1699.1).f7))) else(some (.inr (x1676,x1677,x1678,x1679,x1680,x1681,x1682,x1683,x1684,x1685,x1686,x1687,x1688,x1689,x1690,x1691)))
partial_fixpoint
def f_meld_Alike.f (a0:THist) (a1:THist):Option (THist×THist×Int):=(f_meld_Down.f a0 (if a1.f1<a0.f1 then a1.f1 else a0.f1))>>=fun t1635=>(f_meld_Down.f a1 (if a1.f1<a0.f1 then a1.f1 else a0.f1))>>=fun t1639=>if((if t1639.2>t1635.2 then t1639.2 else t1635.2) != (0:Int))=true then(some ((⟨0,0,0,0,0,0,[],[]⟩:THist),(⟨0,0,0,0,0,0,[],[]⟩:THist),(if t1639.2>t1635.2 then t1639.2 else t1635.2))) else((f_meld_Alike.l0  ((t1635.1).f0,(t1635.1).f1,(t1635.1).f2,(t1635.1).f3,(t1635.1).f4,(t1635.1).f5,(t1635.1).f6,(t1635.1).f7,(t1639.1).f0,(t1639.1).f1,(t1639.1).f2,(t1639.1).f3,(t1639.1).f4,(t1639.1).f5,(t1639.1).f6,(t1639.1).f7))>>=fun oo=>match oo with | .inl rr=>(some rr) | .inr (x1702,x1703,x1704,x1705,x1706,x1707,x1708,x1709,x1710,x1711,x1712,x1713,x1714,x1715,x1716,x1717)=>(some ((⟨x1702,x1703,x1704,x1705,x1706,x1707,x1708,x1709⟩:THist),(⟨x1710,x1711,x1712,x1713,x1714,x1715,x1716,x1717⟩:THist),0)))
theorem f_meld_Alike.ok (a0:THist) (a1:THist) (r:THist×THist×Int) (H:f_meld_Alike.f a0 a1=some r):Pv.Fn Try.prog 93 [.agg (aHist a0),.agg (aHist a1)] [] 0 (fun x o=>x = .tup [.agg (aHist (r.1)),.agg (aHist (r.2.1)),iV .i64 r.2.2]∧o=[]):=by
 unfold f_meld_Alike.f at H
 refine Fn.bodyK [] Try.func93 rfl rfl (fun Γ hP hn => ?_)
 have hm:Try.prog.follows .mixedOrders=true:=by kernel_rfl
 replace hn:Γ.n=68:=hn
 refine AWp.seq ?_
 refine reg hP hn hm [(0,.k 0),(1,.k 1),(2,.k 2),(3,.k 3)] [2,3,4,5] [0,1,2,3] ⟨[(2,.ptr 0 0 0),(3,.ptr 1 0 0),(4,.ptr 2 0 0),(5,.ptr 3 0 0)],[(0,some (.box 52 (aHist a0))),(1,some (.box 52 (aHist a1))),(2,some (.box 52 [iV .i64 0,iV .i64 0,iV .i64 0,iV .u64 0,iV .u64 0,iV .i64 0,.none0,.none0])),(3,some (.box 52 [iV .i64 0,iV .i64 0,iV .i64 0,iV .u64 0,iV .u64 0,iV .i64 0,.none0,.none0]))],0⟩ [] (by kernel_rfl) trivial ?_
 refine AWp.seq ?_
 refine reg hP hn hm [(4,.more xMin)] [2,3,4,5,7] [0,1,2,3] ⟨[(2,.ptr 0 0 0),(3,.ptr 1 0 0),(4,.ptr 2 0 0),(5,.ptr 3 0 0),(7,iV .i64 (if a1.f1<a0.f1 then a1.f1 else a0.f1))],[(0,some (.box 52 (aHist a0))),(1,some (.box 52 (aHist a1))),(2,some (.box 52 [iV .i64 0,iV .i64 0,iV .i64 0,iV .u64 0,iV .u64 0,iV .i64 0,.none0,.none0])),(3,some (.box 52 [iV .i64 0,iV .i64 0,iV .i64 0,iV .u64 0,iV .u64 0,iV .i64 0,.none0,.none0]))],0⟩ [] (by kernel_rfl) trivial ?_
 refine AWp.seq ?_
 obtain⟨t1635,e1636,H⟩:=bind_of H
 refine reg hP hn hm [(2,.call [] [] [] [] 0 (.tup [.agg (aHist (t1635.1)),iV .i64 t1635.2]) [])] [2,3,4,5,7,8] [0,1,2,3] ⟨[(2,.ptr 0 0 0),(3,.ptr 1 0 0),(4,.ptr 2 0 0),(5,.ptr 3 0 0),(7,iV .i64 (if a1.f1<a0.f1 then a1.f1 else a0.f1)),(8,iV .i64 t1635.2)],[(0,some (.box 52 (aHist (t1635.1)))),(1,some (.box 52 (aHist a1))),(2,some (.box 52 [iV .i64 0,iV .i64 0,iV .i64 0,iV .u64 0,iV .u64 0,iV .i64 0,.none0,.none0])),(3,some (.box 52 [iV .i64 0,iV .i64 0,iV .i64 0,iV .u64 0,iV .u64 0,iV .i64 0,.none0,.none0]))],0⟩ [Enters Try.prog 117,Pv.Fn Try.prog 117 [.agg (aHist a0),iV .i64 (if a1.f1<a0.f1 then a1.f1 else a0.f1)] [] 0 (fun r o=>r = .tup [.agg (aHist (t1635.1)),iV .i64 t1635.2]∧o=[])] (by kernel_rfl) ⟨by exact Try.call117,by exact f_meld_Down.ok a0 (if a1.f1<a0.f1 then a1.f1 else a0.f1) t1635 e1636,trivial⟩ ?_
 refine AWp.seq ?_
 obtain⟨t1639,e1640,H⟩:=bind_of H
 refine reg hP hn hm [(2,.call [] [] [] [] 0 (.tup [.agg (aHist (t1639.1)),iV .i64 t1639.2]) [])] [2,3,4,5,8,9] [0,1,2,3] ⟨[(2,.ptr 0 0 0),(3,.ptr 1 0 0),(4,.ptr 2 0 0),(5,.ptr 3 0 0),(8,iV .i64 t1635.2),(9,iV .i64 t1639.2)],[(0,some (.box 52 (aHist (t1635.1)))),(1,some (.box 52 (aHist (t1639.1)))),(2,some (.box 52 [iV .i64 0,iV .i64 0,iV .i64 0,iV .u64 0,iV .u64 0,iV .i64 0,.none0,.none0])),(3,some (.box 52 [iV .i64 0,iV .i64 0,iV .i64 0,iV .u64 0,iV .u64 0,iV .i64 0,.none0,.none0]))],0⟩ [Enters Try.prog 117,Pv.Fn Try.prog 117 [.agg (aHist a1),iV .i64 (if a1.f1<a0.f1 then a1.f1 else a0.f1)] [] 0 (fun r o=>r = .tup [.agg (aHist (t1639.1)),iV .i64 t1639.2]∧o=[])] (by kernel_rfl) ⟨by exact Try.call117,by exact f_meld_Down.ok a1 (if a1.f1<a0.f1 then a1.f1 else a0.f1) t1639 e1640,trivial⟩ ?_
 refine AWp.seq ?_
 refine AWp.seq ?_
 refine reg hP hn hm [(2,.more xMax)] [2,3,4,5,8] [0,1,2,3] ⟨[(2,.ptr 0 0 0),(3,.ptr 1 0 0),(4,.ptr 2 0 0),(5,.ptr 3 0 0),(8,iV .i64 (if t1639.2>t1635.2 then t1639.2 else t1635.2))],[(0,some (.box 52 (aHist (t1635.1)))),(1,some (.box 52 (aHist (t1639.1)))),(2,some (.box 52 [iV .i64 0,iV .i64 0,iV .i64 0,iV .u64 0,iV .u64 0,iV .i64 0,.none0,.none0])),(3,some (.box 52 [iV .i64 0,iV .i64 0,iV .i64 0,iV .u64 0,iV .u64 0,iV .i64 0,.none0,.none0]))],0⟩ [] (by kernel_rfl) trivial ?_
 refine AWp.seq ?_
 refine reg hP hn hm [] [2,3,4,5,8,32] [0,1,2,3] ⟨[(2,.ptr 0 0 0),(3,.ptr 1 0 0),(4,.ptr 2 0 0),(5,.ptr 3 0 0),(8,iV .i64 (if t1639.2>t1635.2 then t1639.2 else t1635.2)),(32,bV ((if t1639.2>t1635.2 then t1639.2 else t1635.2) != (0:Int)))],[(0,some (.box 52 (aHist (t1635.1)))),(1,some (.box 52 (aHist (t1639.1)))),(2,some (.box 52 [iV .i64 0,iV .i64 0,iV .i64 0,iV .u64 0,iV .u64 0,iV .i64 0,.none0,.none0])),(3,some (.box 52 [iV .i64 0,iV .i64 0,iV .i64 0,iV .u64 0,iV .u64 0,iV .i64 0,.none0,.none0]))],0⟩ [] (by kernel_rfl) trivial ?_
 refine AWp.cond ((if t1639.2>t1635.2 then t1639.2 else t1635.2) != (0:Int)) rfl (fun c1641 => ?_) (fun c1641 => ?_)
 ·replace H:=(ifT c1641).symm.trans H
  refine AWp.seq ?_
  refine reg hP hn hm [] [4,5,6] [2,3] ⟨[(4,.ptr 2 0 0),(5,.ptr 3 0 0),(6,iV .i64 (if t1639.2>t1635.2 then t1639.2 else t1635.2))],[(2,some (.box 52 [iV .i64 0,iV .i64 0,iV .i64 0,iV .u64 0,iV .u64 0,iV .i64 0,.none0,.none0])),(3,some (.box 52 [iV .i64 0,iV .i64 0,iV .i64 0,iV .u64 0,iV .u64 0,iV .i64 0,.none0,.none0]))],0⟩ [] (by kernel_rfl) trivial ?_
  refine AWp.conv (inv:=[(2,0),(3,1)]) (vk:=[]) (e0:=[]) (t:=⟨[(4,.ptr 0 0 0),(5,.ptr 1 0 0),(6,iV .i64 (if t1639.2>t1635.2 then t1639.2 else t1635.2))],[(0,some (.box 52 (aHist ((⟨0,0,0,0,0,0,[],[]⟩:THist))))),(1,some (.box 52 (aHist ((⟨0,0,0,0,0,0,[],[]⟩:THist)))))],0⟩) (by kernel_rfl) ?_
  refine AWp.ret ?_
  obtain rfl:=Option.some.inj H
  exact Exists.intro _ (And.intro (fun _ _ h=>h) (And.intro (.inl rfl) (And.intro rfl (And.intro (by kernel_rfl) (by kernel_rfl)))))
 ·replace H:=(ifF c1641).symm.trans H
  refine AWp.skip ?_
  refine AWp.seq ?_
  refine AWp.block ?_
  obtain⟨o1718,e1719,H⟩:=bind_of H
  refine AWp.loop (LWp.conv (inv:=[(0,4),(1,5),(2,6),(3,7)]) (vk:=[]) (e0:=[]) (t:=⟨[(2,.ptr 4 0 0),(3,.ptr 5 0 0),(4,.ptr 6 0 0),(5,.ptr 7 0 0)],[(4,some (.box 52 (aHist (t1635.1)))),(5,some (.box 52 (aHist (t1639.1)))),(6,some (.box 52 [iV .i64 0,iV .i64 0,iV .i64 0,iV .u64 0,iV .u64 0,iV .i64 0,.none0,.none0])),(7,some (.box 52 [iV .i64 0,iV .i64 0,iV .i64 0,iV .u64 0,iV .u64 0,iV .i64 0,.none0,.none0]))],0⟩) (by kernel_rfl) ?_)
  refine LWp.mono (Q:=fun e s=>(match (generalizing:=false) o1718 with | .inl rr=>e = .ret∧s.floor=0∧resOf Try.prog Try.f93 s=some (.tup [.agg (aHist (rr.1)),.agg (aHist (rr.2.1)),iV .i64 rr.2.2])∧([]:List (Nat×Option MObj))=[] | .inr (x1702,x1703,x1704,x1705,x1706,x1707,x1708,x1709,x1710,x1711,x1712,x1713,x1714,x1715,x1716,x1717)=>e = .exit 0∧s=⟨[(2,.ptr 8 0 0),(3,.ptr 9 0 0),(4,.ptr 10 0 0),(5,.ptr 11 0 0)],[(8,some (.box 52 (aHist ⟨x1702,x1703,x1704,x1705,x1706,x1707,x1708,x1709⟩))),(9,some (.box 52 (aHist ⟨x1710,x1711,x1712,x1713,x1714,x1715,x1716,x1717⟩))),(10,some (.box 52 [iV .i64 0,iV .i64 0,iV .i64 0,iV .u64 0,iV .u64 0,iV .i64 0,.none0,.none0])),(11,some (.box 52 [iV .i64 0,iV .i64 0,iV .i64 0,iV .u64 0,iV .u64 0,iV .i64 0,.none0,.none0]))],0⟩)) (LWp.cv (withBody (fun body hbody => ?_))) ?_
  ·refine f_meld_Alike.l0.partial_correctness  (motive:=fun v o1718=>(match (generalizing:=false) v with | (x1676,x1677,x1678,x1679,x1680,x1681,x1682,x1683,x1684,x1685,x1686,x1687,x1688,x1689,x1690,x1691)=>LWp Γ body (fun e s=>∃ t,Cv Γ s t∧(match (generalizing:=false) o1718 with | .inl rr=>e = .ret∧t.floor=0∧resOf Try.prog Try.f93 t=some (.tup [.agg (aHist (rr.1)),.agg (aHist (rr.2.1)),iV .i64 rr.2.2])∧([]:List (Nat×Option MObj))=[] | .inr (x1702,x1703,x1704,x1705,x1706,x1707,x1708,x1709,x1710,x1711,x1712,x1713,x1714,x1715,x1716,x1717)=>e = .exit 0∧t=⟨[(2,.ptr 8 0 0),(3,.ptr 9 0 0),(4,.ptr 10 0 0),(5,.ptr 11 0 0)],[(8,some (.box 52 (aHist ⟨x1702,x1703,x1704,x1705,x1706,x1707,x1708,x1709⟩))),(9,some (.box 52 (aHist ⟨x1710,x1711,x1712,x1713,x1714,x1715,x1716,x1717⟩))),(10,some (.box 52 [iV .i64 0,iV .i64 0,iV .i64 0,iV .u64 0,iV .u64 0,iV .i64 0,.none0,.none0])),(11,some (.box 52 [iV .i64 0,iV .i64 0,iV .i64 0,iV .u64 0,iV .u64 0,iV .i64 0,.none0,.none0]))],0⟩)) ⟨[(2,.ptr 4 0 0),(3,.ptr 5 0 0),(4,.ptr 6 0 0),(5,.ptr 7 0 0)],[(4,some (.box 52 (aHist ⟨x1676,x1677,x1678,x1679,x1680,x1681,x1682,x1683⟩))),(5,some (.box 52 (aHist ⟨x1684,x1685,x1686,x1687,x1688,x1689,x1690,x1691⟩))),(6,some (.box 52 [iV .i64 0,iV .i64 0,iV .i64 0,iV .u64 0,iV .u64 0,iV .i64 0,.none0,.none0])),(7,some (.box 52 [iV .i64 0,iV .i64 0,iV .i64 0,iV .u64 0,iV .u64 0,iV .i64 0,.none0,.none0]))],0⟩)) ?_ _ _ e1719
   clear H e1719 o1718;intro self ih v o1718 H
   obtain⟨x1676,x1677,x1678,x1679,x1680,x1681,x1682,x1683,x1684,x1685,x1686,x1687,x1688,x1689,x1690,x1691⟩:=v
   dsimp only at H
   subst hbody
   refine LWp.round ?_
   refine AWp.seq ?_
   refine AWp.seq ?_
   refine reg hP hn hm [] [2,3,4,5,40] [4,5,6,7] ⟨[(2,.ptr 4 0 0),(3,.ptr 5 0 0),(4,.ptr 6 0 0),(5,.ptr 7 0 0),(40,bV (x1678 != x1686))],[(4,some (.box 52 (aHist ⟨x1676,x1677,x1678,x1679,x1680,x1681,x1682,x1683⟩))),(5,some (.box 52 (aHist ⟨x1684,x1685,x1686,x1687,x1688,x1689,x1690,x1691⟩))),(6,some (.box 52 [iV .i64 0,iV .i64 0,iV .i64 0,iV .u64 0,iV .u64 0,iV .i64 0,.none0,.none0])),(7,some (.box 52 [iV .i64 0,iV .i64 0,iV .i64 0,iV .u64 0,iV .u64 0,iV .i64 0,.none0,.none0]))],0⟩ [] (by kernel_rfl) trivial ?_
   refine AWp.cond (x1678 != x1686) rfl (fun c1692 => ?_) (fun c1692 => ?_)
   ·replace H:=(ifT c1692).symm.trans H
    refine AWp.skip ?_
    refine AWp.block ?_
    refine AWp.seq ?_
    refine reg hP hn hm [(4,.more xMax)] [2,3,4,5,10] [4,5,6,7] ⟨[(2,.ptr 4 0 0),(3,.ptr 5 0 0),(4,.ptr 6 0 0),(5,.ptr 7 0 0),(10,iV .i64 (if x1686>x1678 then x1686 else x1678))],[(4,some (.box 52 (aHist ⟨x1676,x1677,x1678,x1679,x1680,x1681,x1682,x1683⟩))),(5,some (.box 52 (aHist ⟨x1684,x1685,x1686,x1687,x1688,x1689,x1690,x1691⟩))),(6,some (.box 52 [iV .i64 0,iV .i64 0,iV .i64 0,iV .u64 0,iV .u64 0,iV .i64 0,.none0,.none0])),(7,some (.box 52 [iV .i64 0,iV .i64 0,iV .i64 0,iV .u64 0,iV .u64 0,iV .i64 0,.none0,.none0]))],0⟩ [] (by kernel_rfl) trivial ?_
    refine AWp.seq ?_
    obtain⟨t1695,e1696,H⟩:=bind_of H
    refine reg hP hn hm [(2,.call [] [] [] [] 0 (.tup [.agg (aHist (t1695.1)),iV .i64 t1695.2]) [])] [2,3,4,5,8,10] [4,5,6,7] ⟨[(2,.ptr 4 0 0),(3,.ptr 5 0 0),(4,.ptr 6 0 0),(5,.ptr 7 0 0),(8,iV .i64 t1695.2),(10,iV .i64 (if x1686>x1678 then x1686 else x1678))],[(4,some (.box 52 (aHist (t1695.1)))),(5,some (.box 52 (aHist ⟨x1684,x1685,x1686,x1687,x1688,x1689,x1690,x1691⟩))),(6,some (.box 52 [iV .i64 0,iV .i64 0,iV .i64 0,iV .u64 0,iV .u64 0,iV .i64 0,.none0,.none0])),(7,some (.box 52 [iV .i64 0,iV .i64 0,iV .i64 0,iV .u64 0,iV .u64 0,iV .i64 0,.none0,.none0]))],0⟩ [Enters Try.prog 118,Pv.Fn Try.prog 118 [.agg (aHist ⟨x1676,x1677,x1678,x1679,x1680,x1681,x1682,x1683⟩),iV .i64 (if x1686>x1678 then x1686 else x1678)] [] 0 (fun r o=>r = .tup [.agg (aHist (t1695.1)),iV .i64 t1695.2]∧o=[])] (by kernel_rfl) ⟨by exact Try.call118,by exact f_meld_Widen.ok (⟨x1676,x1677,x1678,x1679,x1680,x1681,x1682,x1683⟩:THist) (if x1686>x1678 then x1686 else x1678) t1695 e1696,trivial⟩ ?_
    refine AWp.seq ?_
    obtain⟨t1699,e1700,H⟩:=bind_of H
    refine reg hP hn hm [(2,.call [] [] [] [] 0 (.tup [.agg (aHist (t1699.1)),iV .i64 t1699.2]) [])] [2,3,4,5,8,9] [4,5,6,7] ⟨[(2,.ptr 4 0 0),(3,.ptr 5 0 0),(4,.ptr 6 0 0),(5,.ptr 7 0 0),(8,iV .i64 t1695.2),(9,iV .i64 t1699.2)],[(4,some (.box 52 (aHist (t1695.1)))),(5,some (.box 52 (aHist (t1699.1)))),(6,some (.box 52 [iV .i64 0,iV .i64 0,iV .i64 0,iV .u64 0,iV .u64 0,iV .i64 0,.none0,.none0])),(7,some (.box 52 [iV .i64 0,iV .i64 0,iV .i64 0,iV .u64 0,iV .u64 0,iV .i64 0,.none0,.none0]))],0⟩ [Enters Try.prog 118,Pv.Fn Try.prog 118 [.agg (aHist ⟨x1684,x1685,x1686,x1687,x1688,x1689,x1690,x1691⟩),iV .i64 (if x1686>x1678 then x1686 else x1678)] [] 0 (fun r o=>r = .tup [.agg (aHist (t1699.1)),iV .i64 t1699.2]∧o=[])] (by kernel_rfl) ⟨by exact Try.call118,by exact f_meld_Widen.ok (⟨x1684,x1685,x1686,x1687,x1688,x1689,x1690,x1691⟩:THist) (if x1686>x1678 then x1686 else x1678) t1699 e1700,trivial⟩ ?_
    refine AWp.seq ?_
    refine reg hP hn hm [(2,.more xMax)] [2,3,4,5,8] [4,5,6,7] ⟨[(2,.ptr 4 0 0),(3,.ptr 5 0 0),(4,.ptr 6 0 0),(5,.ptr 7 0 0),(8,iV .i64 (if t1699.2>t1695.2 then t1699.2 else t1695.2))],[(4,some (.box 52 (aHist (t1695.1)))),(5,some (.box 52 (aHist (t1699.1)))),(6,some (.box 52 [iV .i64 0,iV .i64 0,iV .i64 0,iV .u64 0,iV .u64 0,iV .i64 0,.none0,.none0])),(7,some (.box 52 [iV .i64 0,iV .i64 0,iV .i64 0,iV .u64 0,iV .u64 0,iV .i64 0,.none0,.none0]))],0⟩ [] (by kernel_rfl) trivial ?_
    refine AWp.seq ?_
    refine reg hP hn hm [] [2,3,4,5,8,62] [4,5,6,7] ⟨[(2,.ptr 4 0 0),(3,.ptr 5 0 0),(4,.ptr 6 0 0),(5,.ptr 7 0 0),(8,iV .i64 (if t1699.2>t1695.2 then t1699.2 else t1695.2)),(62,bV ((if t1699.2>t1695.2 then t1699.2 else t1695.2) != (0:Int)))],[(4,some (.box 52 (aHist (t1695.1)))),(5,some (.box 52 (aHist (t1699.1)))),(6,some (.box 52 [iV .i64 0,iV .i64 0,iV .i64 0,iV .u64 0,iV .u64 0,iV .i64 0,.none0,.none0])),(7,some (.box 52 [iV .i64 0,iV .i64 0,iV .i64 0,iV .u64 0,iV .u64 0,iV .i64 0,.none0,.none0]))],0⟩ [] (by kernel_rfl) trivial ?_
    refine AWp.cond ((if t1699.2>t1695.2 then t1699.2 else t1695.2) != (0:Int)) rfl (fun c1701 => ?_) (fun c1701 => ?_)
    ·replace H:=(ifT c1701).symm.trans H
     refine AWp.seq ?_
     refine reg hP hn hm [] [4,5,6] [6,7] ⟨[(4,.ptr 6 0 0),(5,.ptr 7 0 0),(6,iV .i64 (if t1699.2>t1695.2 then t1699.2 else t1695.2))],[(6,some (.box 52 [iV .i64 0,iV .i64 0,iV .i64 0,iV .u64 0,iV .u64 0,iV .i64 0,.none0,.none0])),(7,some (.box 52 [iV .i64 0,iV .i64 0,iV .i64 0,iV .u64 0,iV .u64 0,iV .i64 0,.none0,.none0]))],0⟩ [] (by kernel_rfl) trivial ?_
     refine AWp.conv (inv:=[(6,0),(7,1)]) (vk:=[]) (e0:=[]) (t:=⟨[(4,.ptr 0 0 0),(5,.ptr 1 0 0),(6,iV .i64 (if t1699.2>t1695.2 then t1699.2 else t1695.2))],[(0,some (.box 52 (aHist ((⟨0,0,0,0,0,0,[],[]⟩:THist))))),(1,some (.box 52 (aHist ((⟨0,0,0,0,0,0,[],[]⟩:THist)))))],0⟩) (by kernel_rfl) ?_
     refine AWp.ret ?_
     obtain rfl:=Option.some.inj H
     exact Exists.intro _ (And.intro (fun _ _ h=>h) (And.intro rfl (And.intro rfl (And.intro (by kernel_rfl) (by kernel_rfl)))))
    ·replace H:=(ifF c1701).symm.trans H
     refine AWp.skip ?_
     exact LWp.conv (inv:=[(4,4),(5,5),(6,6),(7,7)]) (vk:=[]) (e0:=[]) (t:=⟨[(2,.ptr 4 0 0),(3,.ptr 5 0 0),(4,.ptr 6 0 0),(5,.ptr 7 0 0)],[(4,some (.box 52 (aHist (t1695.1)))),(5,some (.box 52 (aHist (t1699.1)))),(6,some (.box 52 [iV .i64 0,iV .i64 0,iV .i64 0,iV .u64 0,iV .u64 0,iV .i64 0,.none0,.none0])),(7,some (.box 52 [iV .i64 0,iV .i64 0,iV .i64 0,iV .u64 0,iV .u64 0,iV .i64 0,.none0,.none0]))],0⟩) (by kernel_rfl) (ih _ _ H)
   ·replace H:=(ifF c1692).symm.trans H
    refine AWp.exit ?_
    obtain rfl:=Option.some.inj H
    exact Exists.intro _ (And.intro (fun _ _ h=>h.conv (inv:=[(4,8),(5,9),(6,10),(7,11)]) (vk:=[]) (e0:=[]) (t:=⟨[(2,.ptr 8 0 0),(3,.ptr 9 0 0),(4,.ptr 10 0 0),(5,.ptr 11 0 0)],[(8,some (.box 52 (aHist ⟨x1676,x1677,x1678,x1679,x1680,x1681,x1682,x1683⟩))),(9,some (.box 52 (aHist ⟨x1684,x1685,x1686,x1687,x1688,x1689,x1690,x1691⟩))),(10,some (.box 52 [iV .i64 0,iV .i64 0,iV .i64 0,iV .u64 0,iV .u64 0,iV .i64 0,.none0,.none0])),(11,some (.box 52 [iV .i64 0,iV .i64 0,iV .i64 0,iV .u64 0,iV .u64 0,iV .i64 0,.none0,.none0]))],0⟩) (by kernel_rfl)) (And.intro rfl rfl))
  ·rcases o1718 with rr | ⟨x1702,x1703,x1704,x1705,x1706,x1707,x1708,x1709,x1710,x1711,x1712,x1713,x1714,x1715,x1716,x1717⟩
   ·skip
    rintro e s ⟨rfl,hfl,hres⟩
    obtain rfl:=Option.some.inj H
    exact Exists.intro _ (And.intro (fun _ _ h=>h) (And.intro (.inl rfl) (And.intro hfl hres)))
   ·skip
    rintro e s ⟨rfl,rfl⟩
    refine AWp.seq ?_
    refine reg hP hn hm [] [4,5,6] [10,11] ⟨[(4,.ptr 10 0 0),(5,.ptr 11 0 0),(6,iV .i64 0)],[(10,some (.box 52 (aHist ⟨x1702,x1703,x1704,x1705,x1706,x1707,x1708,x1709⟩))),(11,some (.box 52 (aHist ⟨x1710,x1711,x1712,x1713,x1714,x1715,x1716,x1717⟩)))],0⟩ [] (by kernel_rfl) trivial ?_
    refine AWp.conv (inv:=[(10,0),(11,1)]) (vk:=[]) (e0:=[]) (t:=⟨[(4,.ptr 0 0 0),(5,.ptr 1 0 0),(6,iV .i64 0)],[(0,some (.box 52 (aHist ((⟨x1702,x1703,x1704,x1705,x1706,x1707,x1708,x1709⟩:THist))))),(1,some (.box 52 (aHist ((⟨x1710,x1711,x1712,x1713,x1714,x1715,x1716,x1717⟩:THist)))))],0⟩) (by kernel_rfl) ?_
    refine AWp.ret ?_
    obtain rfl:=Option.some.inj H
    exact Exists.intro _ (And.intro (fun _ _ h=>h) (And.intro (.inl rfl) (And.intro rfl (And.intro (by kernel_rfl) (by kernel_rfl)))))
def f_meld_less.l1 (a0:List TBucket) (b1773:TBucket) (x1766:List TBucket) (x1767:List TBucket) (x1768:Int) (x1786:Unit):Option (((List TBucket)×Bool) ⊕ Unit):=((if(decide ((x1766.length:Int)>(0:Int)))=true then((at? x1766 0)>>=fun b1781=>some (decide (b1781.f0<b1773.f0))) else(some false)):Option (Bool))>>=fun x1784=>if x1784=true then(some (.inl ([],false))) else(some (.inr ()))
def f_meld_less.l0 (a0:List TBucket) (x1766:List TBucket) (x1767:List TBucket) (x1768:Int):Option (((List TBucket)×Bool) ⊕ ((List TBucket)×(List TBucket))):=if(decide (x1768<(a0.length:Int)))=true then((at? a0 x1768)>>=fun b1773=>(f_meld_less.l1 a0 b1773 x1766 x1767 x1768 ())>>=fun oo=>match oo with | .inl rr=>(some (.inl rr)) | .inr _=>(((if(decide ((x1766.length:Int)>(0:Int)))=true then((at? x1766 0)>>=fun b1792=>some (b1792.f0==b1773.f0)) else(some false)):Option (Bool))>>=fun x1795=>((if x1795=true then((at? x1766 0)>>=fun b1800=>if(decide (b1800.f1>b1773.f1))=true then(some (.inl ([],false))) else((chk (0≤(1:Int)∧(1:Int)≤(x1766.length:Int)∧(x1766.length:Int)≤(x1766.length:Int)))>>=fun _=>some (.inr ((x1766.drop (Int.toNat ((1:Int)))).take ((Int.toNat ((x1766.length:Int)))-(Int.toNat ((1:Int)))),IntKind.u64.wrap (b1773.f1-b1800.f1))))) else(some (.inr (x1766,b1773.f1)))):Option (((List TBucket)×Bool) ⊕ ((List TBucket)×Int)))>>=fun oo=>match oo with | .inl rr=>(some (.inl rr)) | .inr (x1806,x1807)=>((chk ((x1767.length+[(⟨b1773.f0,x1807⟩:TBucket)].length)*16≤140737488355328))>>=fun _=>f_meld_less.l0 a0 x1806 (x1767++[(⟨b1773.f0,x1807⟩:TBucket)]) (IntKind.i64.wrap (x1768+(1:Int)))))) else(some (.inr (x1766,x1767)))
partial_fixpoint
def f_meld_less.f (a0:List TBucket) (a1:List TBucket):Option ((List TBucket)×Bool):=(f_meld_less.l0 a0 a1 [] 0)>>=fun oo=>match oo with | .inl rr=>(some rr) | .inr (x1810,x1811)=>(some (x1811,((x1810.length:Int)==(0:Int))))
theorem f_meld_less.ok (a0:List TBucket) (a1:List TBucket) (r:(List TBucket)×Bool) (H:f_meld_less.f a0 a1=some r):Pv.Fn Try.prog 94 [.im (.row (a0.map eBucket)),.im (.row (a1.map eBucket))] [] 0 (fun x o=>x = .tup [.own 0,bV r.2]∧o=[(0,some (.row 2 116 (r.1.map eBucket)))]):=by
 unfold f_meld_less.f at H
 refine Fn.bodyK [0] Try.func94 rfl rfl (fun Γ hP hn => ?_)
 have hm:Try.prog.follows .mixedOrders=true:=by kernel_rfl
 replace hn:Γ.n=65:=hn
 refine AWp.seq ?_
 refine reg hP hn hm [] [0,1] [] ⟨[(0,.im (.row (a0.map eBucket))),(1,.im (.row (a1.map eBucket)))],[],0⟩ [] (by kernel_rfl) trivial ?_
 refine AWp.seq ?_
 refine reg hP hn hm [] [0,1,6] [] ⟨[(0,.im (.row (a0.map eBucket))),(1,.im (.row (a1.map eBucket))),(6,.none0)],[],0⟩ [] (by kernel_rfl) trivial ?_
 refine AWp.seq ?_
 refine AWp.seq ?_
 refine reg hP hn hm [(1,.any (iV .i64 (a0.length:Int)))] [1,6,9,10,11] [] ⟨[(1,.im (.row (a1.map eBucket))),(6,.none0),(9,.im (.row (a0.map eBucket))),(10,iV .i64 (a0.length:Int)),(11,iV .i64 0)],[],0⟩ [((a0.map eBucket).length:Int)=(a0.length:Int)] (by kernel_rfl) ⟨by rw[len_map],trivial⟩ ?_
 refine AWp.block ?_
 obtain⟨o1812,e1813,H⟩:=bind_of H
 refine AWp.loop (LWp.conv (inv:=[]) (vk:=[]) (e0:=[7]) (t:=⟨[(1,.im (.row (a1.map eBucket))),(6,.own 7),(9,.im (.row (a0.map eBucket))),(10,iV .i64 (a0.length:Int)),(11,iV .i64 0)],[(7,some (.row 2 116 ([].map eBucket)))],0⟩) (by kernel_rfl) ?_)
 refine LWp.mono (Q:=fun e s=>(match (generalizing:=false) o1812 with | .inl rr=>e = .ret∧s.floor=0∧resOf Try.prog Try.f94 s=some (.tup [.own 0,bV rr.2])∧([(0,s.obj 0)]:List (Nat×Option MObj))=[(0,some (.row 2 116 (rr.1.map eBucket)))] | .inr (x1810,x1811)=>e = .exit 0∧s=⟨[(1,.im (.row (x1810.map eBucket))),(6,.own 19)],[(19,some (.row 2 116 (x1811.map eBucket)))],0⟩)) (LWp.cv (withBody (fun body hbody => ?_))) ?_
 ·refine f_meld_less.l0.partial_correctness a0 (motive:=fun x1766 x1767 x1768 o1812=>LWp Γ body (fun e s=>∃ t,Cv Γ s t∧(match (generalizing:=false) o1812 with | .inl rr=>e = .ret∧t.floor=0∧resOf Try.prog Try.f94 t=some (.tup [.own 0,bV rr.2])∧([(0,t.obj 0)]:List (Nat×Option MObj))=[(0,some (.row 2 116 (rr.1.map eBucket)))] | .inr (x1810,x1811)=>e = .exit 0∧t=⟨[(1,.im (.row (x1810.map eBucket))),(6,.own 19)],[(19,some (.row 2 116 (x1811.map eBucket)))],0⟩)) ⟨[(1,.im (.row (x1766.map eBucket))),(6,.own 7),(9,.im (.row (a0.map eBucket))),(10,iV .i64 (a0.length:Int)),(11,iV .i64 x1768)],[(7,some (.row 2 116 (x1767.map eBucket)))],0⟩) ?_ _ _ _ _ e1813
  clear H e1813 o1812;intro self ih x1766 x1767 x1768 o1812 H
  subst hbody
  refine LWp.round ?_
  refine AWp.seq ?_
  refine reg hP hn hm [] [1,6,9,10,11,12] [7] ⟨[(1,.im (.row (x1766.map eBucket))),(6,.own 7),(9,.im (.row (a0.map eBucket))),(10,iV .i64 (a0.length:Int)),(11,iV .i64 x1768),(12,bV (decide (x1768<(a0.length:Int))))],[(7,some (.row 2 116 (x1767.map eBucket)))],0⟩ [] (by kernel_rfl) trivial ?_
  refine AWp.seq ?_
  refine AWp.cond (decide (x1768<(a0.length:Int))) rfl (fun c1769 => ?_) (fun c1769 => ?_)
  ·replace H:=(ifT c1769).symm.trans H
   refine AWp.skip ?_
   refine AWp.seq ?_
   refine AWp.block ?_
   refine AWp.seq ?_
   obtain⟨b1773,p1774,q1775,H⟩:=at_of H
   refine reg hP hn hm [(0,.c (eBucket b1773)),(2,.k 8)] [1,6,8,9,10,11] [7,8] ⟨[(1,.im (.row (x1766.map eBucket))),(6,.own 7),(8,.ptr 8 0 0),(9,.im (.row (a0.map eBucket))),(10,iV .i64 (a0.length:Int)),(11,iV .i64 x1768)],[(7,some (.row 2 116 (x1767.map eBucket))),(8,some (.box 116 (aBucket b1773)))],0⟩ [0≤x1768,(a0.map eBucket)[(Int.toNat (x1768))]? = some (eBucket b1773)] (by kernel_rfl) ⟨by exact p1774,by exact el_map eBucket q1775,trivial⟩ ?_
   refine AWp.seq ?_
   refine AWp.block ?_
   obtain⟨o1814,e1815,H⟩:=bind_of H
   refine AWp.loop (LWp.conv (inv:=[(7,7),(8,8)]) (vk:=[]) (e0:=[]) (t:=⟨[(1,.im (.row (x1766.map eBucket))),(6,.own 7),(8,.ptr 8 0 0),(9,.im (.row (a0.map eBucket))),(10,iV .i64 (a0.length:Int)),(11,iV .i64 x1768)],[(7,some (.row 2 116 (x1767.map eBucket))),(8,some (.box 116 (aBucket b1773)))],0⟩) (by kernel_rfl) ?_)
   refine LWp.mono (Q:=fun e s=>(match (generalizing:=false) o1814 with | .inl rr=>e = .ret∧s.floor=0∧resOf Try.prog Try.f94 s=some (.tup [.own 0,bV rr.2])∧([(0,s.obj 0)]:List (Nat×Option MObj))=[(0,some (.row 2 116 (rr.1.map eBucket)))] | .inr _=>e = .exit 2∧s=⟨[(1,.im (.row (x1766.map eBucket))),(6,.own 11),(8,.ptr 12 0 0),(9,.im (.row (a0.map eBucket))),(10,iV .i64 (a0.length:Int)),(11,iV .i64 x1768)],[(11,some (.row 2 116 (x1767.map eBucket))),(12,some (.box 116 (aBucket b1773)))],0⟩)) (LWp.cv (withBody (fun body hbody => ?_))) ?_
   ·refine(show ∀ x1786 o1814,f_meld_less.l1 a0 b1773 x1766 x1767 x1768 x1786=some o1814→LWp Γ body (fun e s=>∃ t,Cv Γ s t∧(match (generalizing:=false) o1814 with | .inl rr=>e = .ret∧t.floor=0∧resOf Try.prog Try.f94 t=some (.tup [.own 0,bV rr.2])∧([(0,t.obj 0)]:List (Nat×Option MObj))=[(0,some (.row 2 116 (rr.1.map eBucket)))] | .inr _=>e = .exit 2∧t=⟨[(1,.im (.row (x1766.map eBucket))),(6,.own 11),(8,.ptr 12 0 0),(9,.im (.row (a0.map eBucket))),(10,iV .i64 (a0.length:Int)),(11,iV .i64 x1768)],[(11,some (.row 2 116 (x1767.map eBucket))),(12,some (.box 116 (aBucket b1773)))],0⟩)) ⟨[(1,.im (.row (x1766.map eBucket))),(6,.own 7),(8,.ptr 8 0 0),(9,.im (.row (a0.map eBucket))),(10,iV .i64 (a0.length:Int)),(11,iV .i64 x1768)],[(7,some (.row 2 116 (x1767.map eBucket))),(8,some (.box 116 (aBucket b1773)))],0⟩ from ?_) _ _ e1815
    clear H e1815 o1814;intro x1786 o1814 H
    unfold f_meld_less.l1 at H
    subst hbody
    refine LWp.round ?_
    refine AWp.seq ?_
    refine AWp.seq ?_
    obtain⟨o1816,e1817,H⟩:=bind_of H
    refine AWp.mono (Q:=fun e s=>(match (generalizing:=false) o1816 with | x1784=>e = .normal∧s=⟨[(1,.im (.row (x1766.map eBucket))),(6,.own 9),(8,.ptr 10 0 0),(9,.im (.row (a0.map eBucket))),(10,iV .i64 (a0.length:Int)),(11,iV .i64 x1768),(26,bV x1784)],[(9,some (.row 2 116 (x1767.map eBucket))),(10,some (.box 116 (aBucket b1773)))],0⟩)) (AWp.cv ?_) ?_
    ·replace H:=e1817;clear e1817
     rcases Bool.eq_false_or_eq_true (decide ((x1766.length:Int)>(0:Int))) with c1780 | c1780
     ·replace H:=(ifT c1780).symm.trans H
      obtain⟨b1781,p1782,q1783,H⟩:=at_of H
      refine reg hP hn hm [(1,.any (iV .i64 (x1766.length:Int))),(3,.b true),(5,.c (eBucket b1781))] [1,6,8,9,10,11,19,20,21,22,23,24,25,26] [7,8] ⟨[(1,.im (.row (x1766.map eBucket))),(6,.own 7),(8,.ptr 8 0 0),(9,.im (.row (a0.map eBucket))),(10,iV .i64 (a0.length:Int)),(11,iV .i64 x1768),(19,.im (.row (x1766.map eBucket))),(20,.ip [iI .i64 b1781.f0,iI .u64 b1781.f1]),(21,.ip [iI .i64 b1781.f0,iI .u64 b1781.f1]),(22,iV .i64 b1781.f0),(23,.ptr 8 0 0),(24,iV .i64 b1773.f0),(25,bV (decide (b1781.f0<b1773.f0))),(26,bV (decide (b1781.f0<b1773.f0)))],[(7,some (.row 2 116 (x1767.map eBucket))),(8,some (.box 116 (aBucket b1773)))],0⟩ [((x1766.map eBucket).length:Int)=(x1766.length:Int),(decide ((x1766.length:Int)>(0:Int)))=true,0≤(0:Int),(x1766.map eBucket)[(Int.toNat (0))]? = some (eBucket b1781)] (by kernel_rfl) ⟨by rw[len_map],by exact c1780,by exact p1782,by exact el_map eBucket q1783,trivial⟩ ?_
      obtain rfl:=Option.some.inj H
      exact Exists.intro _ (And.intro (fun _ _ h=>h.conv (inv:=[(7,9),(8,10)]) (vk:=[]) (e0:=[]) (t:=⟨[(1,.im (.row (x1766.map eBucket))),(6,.own 9),(8,.ptr 10 0 0),(9,.im (.row (a0.map eBucket))),(10,iV .i64 (a0.length:Int)),(11,iV .i64 x1768),(26,bV (decide (b1781.f0<b1773.f0)))],[(9,some (.row 2 116 (x1767.map eBucket))),(10,some (.box 116 (aBucket b1773)))],0⟩) (by kernel_rfl)) (And.intro rfl rfl))
     ·replace H:=(ifF c1780).symm.trans H
      refine reg hP hn hm [(1,.any (iV .i64 (x1766.length:Int))),(3,.b false)] [1,6,8,9,10,11,26] [7,8] ⟨[(1,.im (.row (x1766.map eBucket))),(6,.own 7),(8,.ptr 8 0 0),(9,.im (.row (a0.map eBucket))),(10,iV .i64 (a0.length:Int)),(11,iV .i64 x1768),(26,bV false)],[(7,some (.row 2 116 (x1767.map eBucket))),(8,some (.box 116 (aBucket b1773)))],0⟩ [((x1766.map eBucket).length:Int)=(x1766.length:Int),(decide ((x1766.length:Int)>(0:Int)))=false] (by kernel_rfl) ⟨by rw[len_map],by exact c1780,trivial⟩ ?_
      obtain rfl:=Option.some.inj H
      exact Exists.intro _ (And.intro (fun _ _ h=>h.conv (inv:=[(7,9),(8,10)]) (vk:=[]) (e0:=[]) (t:=⟨[(1,.im (.row (x1766.map eBucket))),(6,.own 9),(8,.ptr 10 0 0),(9,.im (.row (a0.map eBucket))),(10,iV .i64 (a0.length:Int)),(11,iV .i64 x1768),(26,bV false)],[(9,some (.row 2 116 (x1767.map eBucket))),(10,some (.box 116 (aBucket b1773)))],0⟩) (by kernel_rfl)) (And.intro rfl rfl))
    ·obtain⟨x1784,rfl⟩:∃ z,z=o1816:=⟨_,rfl⟩
     rintro e s ⟨rfl,rfl⟩
     refine AWp.cond x1784 rfl (fun c1785 => ?_) (fun c1785 => ?_)
     ·replace H:=(ifT c1785).symm.trans H
      refine AWp.skip ?_
      refine AWp.block ?_
      refine AWp.seq ?_
      refine reg hP hn hm [] [4,5] [] ⟨[(4,.none0),(5,bV false)],[],0⟩ [] (by kernel_rfl) trivial ?_
      refine AWp.conv (inv:=[]) (vk:=[]) (e0:=[0]) (t:=⟨[(4,.own 0),(5,bV false)],[(0,some (.row 2 116 ([].map eBucket)))],0⟩) (by kernel_rfl) ?_
      refine AWp.ret ?_
      obtain rfl:=Option.some.inj H
      exact Exists.intro _ (And.intro (fun _ _ h=>h) (And.intro rfl (And.intro rfl (And.intro (by kernel_rfl) (by kernel_rfl)))))
     ·replace H:=(ifF c1785).symm.trans H
      refine AWp.exit ?_
      obtain rfl:=Option.some.inj H
      exact Exists.intro _ (And.intro (fun _ _ h=>h.conv (inv:=[(9,11),(10,12)]) (vk:=[]) (e0:=[]) (t:=⟨[(1,.im (.row (x1766.map eBucket))),(6,.own 11),(8,.ptr 12 0 0),(9,.im (.row (a0.map eBucket))),(10,iV .i64 (a0.length:Int)),(11,iV .i64 x1768)],[(11,some (.row 2 116 (x1767.map eBucket))),(12,some (.box 116 (aBucket b1773)))],0⟩) (by kernel_rfl)) (And.intro rfl rfl))
   ·rcases o1814 with rr | _
    ·skip
     rintro e s ⟨rfl,hfl,hres⟩
     obtain rfl:=Option.some.inj H
     exact Exists.intro _ (And.intro (fun _ _ h=>h) (And.intro rfl (And.intro hfl hres)))
    ·skip
     rintro e s ⟨rfl,rfl⟩
     refine AWp.seq ?_
     refine AWp.seq ?_
     obtain⟨o1818,e1819,H⟩:=bind_of H
     refine AWp.mono (Q:=fun e s=>(match (generalizing:=false) o1818 with | x1795=>e = .normal∧s=⟨[(1,.im (.row (x1766.map eBucket))),(6,.own 13),(8,.ptr 14 0 0),(9,.im (.row (a0.map eBucket))),(10,iV .i64 (a0.length:Int)),(11,iV .i64 x1768),(38,bV x1795)],[(13,some (.row 2 116 (x1767.map eBucket))),(14,some (.box 116 (aBucket b1773)))],0⟩)) (AWp.cv ?_) ?_
     ·replace H:=e1819;clear e1819
      rcases Bool.eq_false_or_eq_true (decide ((x1766.length:Int)>(0:Int))) with c1791 | c1791
      ·replace H:=(ifT c1791).symm.trans H
       obtain⟨b1792,p1793,q1794,H⟩:=at_of H
       refine reg hP hn hm [(1,.any (iV .i64 (x1766.length:Int))),(3,.b true),(5,.c (eBucket b1792))] [1,6,8,9,10,11,31,32,33,34,35,36,37,38] [11,12] ⟨[(1,.im (.row (x1766.map eBucket))),(6,.own 11),(8,.ptr 12 0 0),(9,.im (.row (a0.map eBucket))),(10,iV .i64 (a0.length:Int)),(11,iV .i64 x1768),(31,.im (.row (x1766.map eBucket))),(32,.ip [iI .i64 b1792.f0,iI .u64 b1792.f1]),(33,.ip [iI .i64 b1792.f0,iI .u64 b1792.f1]),(34,iV .i64 b1792.f0),(35,.ptr 12 0 0),(36,iV .i64 b1773.f0),(37,bV (b1792.f0==b1773.f0)),(38,bV (b1792.f0==b1773.f0))],[(11,some (.row 2 116 (x1767.map eBucket))),(12,some (.box 116 (aBucket b1773)))],0⟩ [((x1766.map eBucket).length:Int)=(x1766.length:Int),(decide ((x1766.length:Int)>(0:Int)))=true,0≤(0:Int),(x1766.map eBucket)[(Int.toNat (0))]? = some (eBucket b1792)] (by kernel_rfl) ⟨by rw[len_map],by exact c1791,by exact p1793,by exact el_map eBucket q1794,trivial⟩ ?_
       obtain rfl:=Option.some.inj H
       exact Exists.intro _ (And.intro (fun _ _ h=>h.conv (inv:=[(11,13),(12,14)]) (vk:=[]) (e0:=[]) (t:=⟨[(1,.im (.row (x1766.map eBucket))),(6,.own 13),(8,.ptr 14 0 0),(9,.im (.row (a0.map eBucket))),(10,iV .i64 (a0.length:Int)),(11,iV .i64 x1768),(38,bV (b1792.f0==b1773.f0))],[(13,some (.row 2 116 (x1767.map eBucket))),(14,some (.box 116 (aBucket b1773)))],0⟩) (by kernel_rfl)) (And.intro rfl rfl))
      ·replace H:=(ifF c1791).symm.trans H
       refine reg hP hn hm [(1,.any (iV .i64 (x1766.length:Int))),(3,.b false)] [1,6,8,9,10,11,38] [11,12] ⟨[(1,.im (.row (x1766.map eBucket))),(6,.own 11),(8,.ptr 12 0 0),(9,.im (.row (a0.map eBucket))),(10,iV .i64 (a0.length:Int)),(11,iV .i64 x1768),(38,bV false)],[(11,some (.row 2 116 (x1767.map eBucket))),(12,some (.box 116 (aBucket b1773)))],0⟩ [((x1766.map eBucket).length:Int)=(x1766.length:Int),(decide ((x1766.length:Int)>(0:Int)))=false] (by kernel_rfl) ⟨by rw[len_map],by exact c1791,trivial⟩ ?_
       obtain rfl:=Option.some.inj H
       exact Exists.intro _ (And.intro (fun _ _ h=>h.conv (inv:=[(11,13),(12,14)]) (vk:=[]) (e0:=[]) (t:=⟨[(1,.im (.row (x1766.map eBucket))),(6,.own 13),(8,.ptr 14 0 0),(9,.im (.row (a0.map eBucket))),(10,iV .i64 (a0.length:Int)),(11,iV .i64 x1768),(38,bV false)],[(13,some (.row 2 116 (x1767.map eBucket))),(14,some (.box 116 (aBucket b1773)))],0⟩) (by kernel_rfl)) (And.intro rfl rfl))
     ·obtain⟨x1795,rfl⟩:∃ z,z=o1818:=⟨_,rfl⟩
      rintro e s ⟨rfl,rfl⟩
      obtain⟨o1820,e1821,H⟩:=bind_of H
      refine AWp.mono (Q:=fun e s=>(match (generalizing:=false) o1820 with | .inl rr=>e = .ret∧s.floor=0∧resOf Try.prog Try.f94 s=some (.tup [.own 0,bV rr.2])∧([(0,s.obj 0)]:List (Nat×Option MObj))=[(0,some (.row 2 116 (rr.1.map eBucket)))] | .inr (x1806,x1807)=>e = .normal∧s=⟨[(1,.im (.row (x1806.map eBucket))),(6,.own 15),(8,.ptr 16 0 0),(9,.im (.row (a0.map eBucket))),(10,iV .i64 (a0.length:Int)),(11,iV .i64 x1768)],[(15,some (.row 2 116 (x1767.map eBucket))),(16,some (.box 116 (aBucket ⟨b1773.f0,x1807⟩)))],0⟩)) (AWp.cv ?_) ?_
      ·replace H:=e1821;clear e1821
       refine AWp.cond x1795 rfl (fun c1796 => ?_) (fun c1796 => ?_)
       ·replace H:=(ifT c1796).symm.trans H
        refine AWp.seq ?_
        refine AWp.seq ?_
        obtain⟨b1800,p1801,q1802,H⟩:=at_of H
        refine reg hP hn hm [(1,.c (eBucket b1800))] [1,6,8,9,10,11,45] [13,14] ⟨[(1,.im (.row (x1766.map eBucket))),(6,.own 13),(8,.ptr 14 0 0),(9,.im (.row (a0.map eBucket))),(10,iV .i64 (a0.length:Int)),(11,iV .i64 x1768),(45,bV (decide (b1800.f1>b1773.f1)))],[(13,some (.row 2 116 (x1767.map eBucket))),(14,some (.box 116 (aBucket b1773)))],0⟩ [0≤(0:Int),(x1766.map eBucket)[(Int.toNat (0))]? = some (eBucket b1800)] (by kernel_rfl) ⟨by exact p1801,by exact el_map eBucket q1802,trivial⟩ ?_
        refine AWp.cond (decide (b1800.f1>b1773.f1)) rfl (fun c1803 => ?_) (fun c1803 => ?_)
        ·replace H:=(ifT c1803).symm.trans H
         refine AWp.seq ?_
         refine reg hP hn hm [] [4,5] [] ⟨[(4,.none0),(5,bV false)],[],0⟩ [] (by kernel_rfl) trivial ?_
         refine AWp.conv (inv:=[]) (vk:=[]) (e0:=[0]) (t:=⟨[(4,.own 0),(5,bV false)],[(0,some (.row 2 116 ([].map eBucket)))],0⟩) (by kernel_rfl) ?_
         refine AWp.ret ?_
         obtain rfl:=Option.some.inj H
         exact Exists.intro _ (And.intro (fun _ _ h=>h) (And.intro rfl (And.intro rfl (And.intro (by kernel_rfl) (by kernel_rfl)))))
        ·replace H:=(ifF c1803).symm.trans H
         refine AWp.skip ?_
         refine AWp.seq ?_
         refine reg hP hn hm [(3,.c (eBucket b1800))] [1,6,8,9,10,11] [13,14] ⟨[(1,.im (.row (x1766.map eBucket))),(6,.own 13),(8,.ptr 14 0 0),(9,.im (.row (a0.map eBucket))),(10,iV .i64 (a0.length:Int)),(11,iV .i64 x1768)],[(13,some (.row 2 116 (x1767.map eBucket))),(14,some (.box 116 (aBucket ⟨b1773.f0,(IntKind.u64.wrap (b1773.f1-b1800.f1))⟩)))],0⟩ [0≤(0:Int),(x1766.map eBucket)[(Int.toNat (0))]? = some (eBucket b1800)] (by kernel_rfl) ⟨by exact p1801,by exact el_map eBucket q1802,trivial⟩ ?_
         obtain⟨c1805,H⟩:=chk_of H
         refine reg hP hn hm [(1,.rows (((x1766.drop (Int.toNat ((1:Int)))).take ((Int.toNat ((x1766.length:Int)))-(Int.toNat ((1:Int))))).map eBucket))] [1,6,8,9,10,11] [13,14] ⟨[(1,.im (.row (((x1766.drop (Int.toNat ((1:Int)))).take ((Int.toNat ((x1766.length:Int)))-(Int.toNat ((1:Int))))).map eBucket))),(6,.own 13),(8,.ptr 14 0 0),(9,.im (.row (a0.map eBucket))),(10,iV .i64 (a0.length:Int)),(11,iV .i64 x1768)],[(13,some (.row 2 116 (x1767.map eBucket))),(14,some (.box 116 (aBucket ⟨b1773.f0,(IntKind.u64.wrap (b1773.f1-b1800.f1))⟩)))],0⟩ [0≤(1:Int),(1:Int)≤((x1766.map eBucket).length:Int),((x1766.map eBucket).length:Int)≤((x1766.map eBucket).length:Int),∀ c∈x1766.map eBucket,c.length=2,((x1766.drop (Int.toNat ((1:Int)))).take ((Int.toNat ((x1766.length:Int)))-(Int.toNat ((1:Int))))).map eBucket=((x1766.map eBucket).drop (Int.toNat ((1:Int)))).take ((Int.toNat (((x1766.map eBucket).length:Int)))-(Int.toNat ((1:Int))))] (by kernel_rfl) ⟨by exact c1805.1,by simpa using c1805.2.1,by simpa using c1805.2.2,by exact all_len _ _ _ (fun _=>rfl),by simp[cut1],trivial⟩ ?_
         obtain rfl:=Option.some.inj H
         exact Exists.intro _ (And.intro (fun _ _ h=>h.conv (inv:=[(13,15),(14,16)]) (vk:=[]) (e0:=[]) (t:=⟨[(1,.im (.row (((x1766.drop (Int.toNat ((1:Int)))).take ((Int.toNat ((x1766.length:Int)))-(Int.toNat ((1:Int))))).map eBucket))),(6,.own 15),(8,.ptr 16 0 0),(9,.im (.row (a0.map eBucket))),(10,iV .i64 (a0.length:Int)),(11,iV .i64 x1768)],[(15,some (.row 2 116 (x1767.map eBucket))),(16,some (.box 116 (aBucket ⟨b1773.f0,(IntKind.u64.wrap (b1773.f1-b1800.f1))⟩)))],0⟩) (by kernel_rfl)) (And.intro rfl rfl))
       ·replace H:=(ifF c1796).symm.trans H
        refine AWp.skip ?_
        obtain rfl:=Option.some.inj H
        exact Exists.intro _ (And.intro (fun _ _ h=>h.conv (inv:=[(13,15),(14,16)]) (vk:=[]) (e0:=[]) (t:=⟨[(1,.im (.row (x1766.map eBucket))),(6,.own 15),(8,.ptr 16 0 0),(9,.im (.row (a0.map eBucket))),(10,iV .i64 (a0.length:Int)),(11,iV .i64 x1768)],[(15,some (.row 2 116 (x1767.map eBucket))),(16,some (.box 116 (aBucket b1773)))],0⟩) (by kernel_rfl)) (And.intro rfl rfl))
      ·rcases o1820 with rr | ⟨x1806,x1807⟩
       ·skip
        rintro e s ⟨rfl,hfl,hres⟩
        obtain rfl:=Option.some.inj H
        exact Exists.intro _ (And.intro (fun _ _ h=>h) (And.intro rfl (And.intro hfl hres)))
       ·skip
        rintro e s ⟨rfl,rfl⟩
        obtain⟨c1809,H⟩:=chk_of H
        refine reg hP hn hm [(2,.app 17 ([(⟨b1773.f0,x1807⟩:TBucket)].map eBucket)),(3,.app 18 ((x1767++[(⟨b1773.f0,x1807⟩:TBucket)]).map eBucket))] [1,6,9,10,11] [18] ⟨[(1,.im (.row (x1806.map eBucket))),(6,.own 18),(9,.im (.row (a0.map eBucket))),(10,iV .i64 (a0.length:Int)),(11,iV .i64 x1768)],[(18,some (.row 2 116 ((x1767++[(⟨b1773.f0,x1807⟩:TBucket)]).map eBucket)))],0⟩ [[(⟨b1773.f0,x1807⟩:TBucket)].map eBucket=[[iI .i64 b1773.f0,iI .u64 x1807]],(x1767++[(⟨b1773.f0,x1807⟩:TBucket)]).map eBucket=(x1767.map eBucket)++([(⟨b1773.f0,x1807⟩:TBucket)].map eBucket),∀ c∈([(⟨b1773.f0,x1807⟩:TBucket)].map eBucket),c.length=2,∀ c∈([(⟨b1773.f0,x1807⟩:TBucket)].map eBucket),leaves (c.map .im)=true,((x1767.map eBucket).length+([(⟨b1773.f0,x1807⟩:TBucket)].map eBucket).length)*16≤140737488355328] (by kernel_rfl) ⟨by exact rfl,by simp,by exact all_len _ _ _ (fun _=>rfl),by exact all_leaf _ _ (fun _=>rfl),by simpa using c1809,trivial⟩ ?_
        refine reg hP hn hm [] [1,6,9,10,11] [18] ⟨[(1,.im (.row (x1806.map eBucket))),(6,.own 18),(9,.im (.row (a0.map eBucket))),(10,iV .i64 (a0.length:Int)),(11,iV .i64 (IntKind.i64.wrap (x1768+(1:Int))))],[(18,some (.row 2 116 ((x1767++[(⟨b1773.f0,x1807⟩:TBucket)]).map eBucket)))],0⟩ [] (by kernel_rfl) trivial ?_
        exact LWp.conv (inv:=[(18,7)]) (vk:=[]) (e0:=[]) (t:=⟨[(1,.im (.row (x1806.map eBucket))),(6,.own 7),(9,.im (.row (a0.map eBucket))),(10,iV .i64 (a0.length:Int)),(11,iV .i64 (IntKind.i64.wrap (x1768+(1:Int))))],[(7,some (.row 2 116 ((x1767++[(⟨b1773.f0,x1807⟩:TBucket)]).map eBucket)))],0⟩) (by kernel_rfl) (ih _ _ _ _ H)
  ·replace H:=(ifF c1769).symm.trans H
   refine AWp.exit ?_
   obtain rfl:=Option.some.inj H
   exact Exists.intro _ (And.intro (fun _ _ h=>h.conv (inv:=[(7,19)]) (vk:=[]) (e0:=[]) (t:=⟨[(1,.im (.row (x1766.map eBucket))),(6,.own 19)],[(19,some (.row 2 116 (x1767.map eBucket)))],0⟩) (by kernel_rfl)) (And.intro rfl rfl))
 ·rcases o1812 with rr | ⟨x1810,x1811⟩
  ·skip
   rintro e s ⟨rfl,hfl,hres⟩
   obtain rfl:=Option.some.inj H
   exact Exists.intro _ (And.intro (fun _ _ h=>h) (And.intro (.inl rfl) (And.intro hfl hres)))
  ·skip
   rintro e s ⟨rfl,rfl⟩
   refine AWp.seq ?_
   refine reg hP hn hm [(2,.any (iV .i64 (x1810.length:Int)))] [4,5] [19] ⟨[(4,.own 19),(5,bV ((x1810.length:Int)==(0:Int)))],[(19,some (.row 2 116 (x1811.map eBucket)))],0⟩ [((x1810.map eBucket).length:Int)=(x1810.length:Int)] (by kernel_rfl) ⟨by rw[len_map],trivial⟩ ?_
   refine AWp.conv (inv:=[(19,0)]) (vk:=[]) (e0:=[]) (t:=⟨[(4,.own 0),(5,bV ((x1810.length:Int)==(0:Int)))],[(0,some (.row 2 116 (x1811.map eBucket)))],0⟩) (by kernel_rfl) ?_
   refine AWp.ret ?_
   obtain rfl:=Option.some.inj H
   exact Exists.intro _ (And.intro (fun _ _ h=>h) (And.intro (.inl rfl) (And.intro rfl (And.intro (by kernel_rfl) (by kernel_rfl)))))
def f_num_Sub.f (a0:Int) (a1:Int):Option (Int×Int):=if(decide (a1>a0))=true then(some (0,5)) else(some (IntKind.u64.wrap (a0-a1),0))
theorem f_num_Sub.ok (a0:Int) (a1:Int) (r:Int×Int) (H:f_num_Sub.f a0 a1=some r):Pv.Fn Try.prog 95 [iV .u64 a0,iV .u64 a1] [] 0 (fun x o=>x = .tup [iV .u64 r.1,iV .i64 r.2]∧o=[]):=by
 unfold f_num_Sub.f at H
 refine Fn.bodyK [] Try.func95 rfl rfl (fun Γ hP hn => ?_)
 have hm:Try.prog.follows .mixedOrders=true:=by kernel_rfl
 replace hn:Γ.n=12:=hn
 refine AWp.seq ?_
 refine reg hP hn hm [] [0,1] [] ⟨[(0,iV .u64 a0),(1,iV .u64 a1)],[],0⟩ [] (by kernel_rfl) trivial ?_
 refine AWp.seq ?_
 refine AWp.seq ?_
 refine reg hP hn hm [] [0,1,8] [] ⟨[(0,iV .u64 a0),(1,iV .u64 a1),(8,bV (decide (a1>a0)))],[],0⟩ [] (by kernel_rfl) trivial ?_
 refine AWp.cond (decide (a1>a0)) rfl (fun c1830 => ?_) (fun c1830 => ?_)
 ·replace H:=(ifT c1830).symm.trans H
  refine AWp.seq ?_
  refine reg hP hn hm [] [4,5] [] ⟨[(4,iV .u64 0),(5,iV .i64 5)],[],0⟩ [] (by kernel_rfl) trivial ?_
  refine AWp.conv (inv:=[]) (vk:=[]) (e0:=[]) (t:=⟨[(4,iV .u64 0),(5,iV .i64 5)],[],0⟩) (by kernel_rfl) ?_
  refine AWp.ret ?_
  obtain rfl:=Option.some.inj H
  exact Exists.intro _ (And.intro (fun _ _ h=>h) (And.intro (.inl rfl) (And.intro rfl (And.intro (by kernel_rfl) (by kernel_rfl)))))
 ·replace H:=(ifF c1830).symm.trans H
  refine AWp.skip ?_
  refine AWp.seq ?_
  refine reg hP hn hm [] [4,5] [] ⟨[(4,iV .u64 (IntKind.u64.wrap (a0-a1))),(5,iV .i64 0)],[],0⟩ [] (by kernel_rfl) trivial ?_
  refine AWp.conv (inv:=[]) (vk:=[]) (e0:=[]) (t:=⟨[(4,iV .u64 (IntKind.u64.wrap (a0-a1))),(5,iV .i64 0)],[],0⟩) (by kernel_rfl) ?_
  refine AWp.ret ?_
  obtain rfl:=Option.some.inj H
  exact Exists.intro _ (And.intro (fun _ _ h=>h) (And.intro (.inl rfl) (And.intro rfl (And.intro (by kernel_rfl) (by kernel_rfl)))))
def f_meld_Sub.f (a0:THist) (a1:THist):Option (THist×Int):=(f_num_SubInt.f a0.f5 a1.f5)>>=fun t472=>(f_meld_Alike.f a0 a1)>>=fun t1722=>if(t1722.2.2 != (0:Int))=true then(some ((⟨0,0,0,0,0,0,[],[]⟩:THist),t1722.2.2)) else((f_meld_less.f ((t1722.1).f6) ((t1722.2.1).f6))>>=fun t1824=>(f_meld_less.f ((t1722.1).f7) ((t1722.2.1).f7))>>=fun t1828=>(f_num_Sub.f ((t1722.1).f3) ((t1722.2.1).f3))>>=fun t1833=>((if(!t1824.2)=true then(some true) else(if(!t1828.2)=true then(some true) else(some (t1833.2 != (0:Int))))):Option (Bool))>>=fun x1839=>if x1839=true then(some ((⟨0,0,0,0,0,0,[],[]⟩:THist),21)) else(if(t472.2 != (0:Int))=true then(some ((⟨0,0,0,0,0,0,[],[]⟩:THist),t472.2)) else((f_hist_Make.f (⟨(t1722.1).f0,(t1722.1).f1,(t1722.1).f2,t1833.1,(t1722.1).f4,t472.1,(t1722.1).f6,(t1722.1).f7⟩:THist) t1824.1 t1828.1)>>=fun t1846=>some ((t1846.1),t1846.2))))
theorem f_meld_Sub.ok (a0:THist) (a1:THist) (r:THist×Int) (H:f_meld_Sub.f a0 a1=some r):Pv.Fn Try.prog 63 [.agg (aHist a0),.agg (aHist a1)] [] 0 (fun x o=>x = .tup [.agg (aHist (r.1)),iV .i64 r.2]∧o=[]):=by
 unfold f_meld_Sub.f at H
 refine Fn.bodyK [] Try.func63 rfl rfl (fun Γ hP hn => ?_)
 have hm:Try.prog.follows .mixedOrders=true:=by kernel_rfl
 replace hn:Γ.n=85:=hn
 refine AWp.seq ?_
 refine reg hP hn hm [(0,.k 0),(1,.k 1),(2,.k 2)] [2,3,4] [0,1,2] ⟨[(2,.ptr 0 0 0),(3,.ptr 1 0 0),(4,.ptr 2 0 0)],[(0,some (.box 52 (aHist a0))),(1,some (.box 52 (aHist a1))),(2,some (.box 52 [iV .i64 0,iV .i64 0,iV .i64 0,iV .u64 0,iV .u64 0,iV .i64 0,.none0,.none0]))],0⟩ [] (by kernel_rfl) trivial ?_
 refine AWp.seq ?_
 obtain⟨t472,e473,H⟩:=bind_of H
 refine reg hP hn hm [(4,.call [] [] [] [] 0 (.tup [iV .i64 t472.1,iV .i64 t472.2]) [])] [2,3,4,6,7] [0,1,2] ⟨[(2,.ptr 0 0 0),(3,.ptr 1 0 0),(4,.ptr 2 0 0),(6,iV .i64 t472.1),(7,iV .i64 t472.2)],[(0,some (.box 52 (aHist a0))),(1,some (.box 52 (aHist a1))),(2,some (.box 52 [iV .i64 0,iV .i64 0,iV .i64 0,iV .u64 0,iV .u64 0,iV .i64 0,.none0,.none0]))],0⟩ [Enters Try.prog 92,Pv.Fn Try.prog 92 [iV .i64 a0.f5,iV .i64 a1.f5] [] 0 (fun r o=>r = .tup [iV .i64 t472.1,iV .i64 t472.2]∧o=[])] (by kernel_rfl) ⟨by exact Try.call92,by exact f_num_SubInt.ok a0.f5 a1.f5 t472 e473,trivial⟩ ?_
 refine AWp.seq ?_
 obtain⟨t1722,e1723,H⟩:=bind_of H
 refine reg hP hn hm [(2,.call [] [] [] [] 0 (.tup [.agg (aHist (t1722.1)),.agg (aHist (t1722.2.1)),iV .i64 t1722.2.2]) [])] [2,3,4,6,7,8] [0,1,2] ⟨[(2,.ptr 0 0 0),(3,.ptr 1 0 0),(4,.ptr 2 0 0),(6,iV .i64 t472.1),(7,iV .i64 t472.2),(8,iV .i64 t1722.2.2)],[(0,some (.box 52 (aHist (t1722.1)))),(1,some (.box 52 (aHist (t1722.2.1)))),(2,some (.box 52 [iV .i64 0,iV .i64 0,iV .i64 0,iV .u64 0,iV .u64 0,iV .i64 0,.none0,.none0]))],0⟩ [Enters Try.prog 93,Pv.Fn Try.prog 93 [.agg (aHist a0),.agg (aHist a1)] [] 0 (fun r o=>r = .tup [.agg (aHist (t1722.1)),.agg (aHist (t1722.2.1)),iV .i64 t1722.2.2]∧o=[])] (by kernel_rfl) ⟨by exact Try.call93,by exact f_meld_Alike.ok a0 a1 t1722 e1723,trivial⟩ ?_
 refine AWp.seq ?_
 refine AWp.seq ?_
 refine reg hP hn hm [] [2,3,4,6,7,8,31] [0,1,2] ⟨[(2,.ptr 0 0 0),(3,.ptr 1 0 0),(4,.ptr 2 0 0),(6,iV .i64 t472.1),(7,iV .i64 t472.2),(8,iV .i64 t1722.2.2),(31,bV (t1722.2.2 != (0:Int)))],[(0,some (.box 52 (aHist (t1722.1)))),(1,some (.box 52 (aHist (t1722.2.1)))),(2,some (.box 52 [iV .i64 0,iV .i64 0,iV .i64 0,iV .u64 0,iV .u64 0,iV .i64 0,.none0,.none0]))],0⟩ [] (by kernel_rfl) trivial ?_
 refine AWp.cond (t1722.2.2 != (0:Int)) rfl (fun c1724 => ?_) (fun c1724 => ?_)
 ·replace H:=(ifT c1724).symm.trans H
  refine AWp.seq ?_
  refine reg hP hn hm [] [4,5] [2] ⟨[(4,.ptr 2 0 0),(5,iV .i64 t1722.2.2)],[(2,some (.box 52 [iV .i64 0,iV .i64 0,iV .i64 0,iV .u64 0,iV .u64 0,iV .i64 0,.none0,.none0]))],0⟩ [] (by kernel_rfl) trivial ?_
  refine AWp.conv (inv:=[(2,0)]) (vk:=[]) (e0:=[]) (t:=⟨[(4,.ptr 0 0 0),(5,iV .i64 t1722.2.2)],[(0,some (.box 52 (aHist ((⟨0,0,0,0,0,0,[],[]⟩:THist)))))],0⟩) (by kernel_rfl) ?_
  refine AWp.ret ?_
  obtain rfl:=Option.some.inj H
  exact Exists.intro _ (And.intro (fun _ _ h=>h) (And.intro (.inl rfl) (And.intro rfl (And.intro (by kernel_rfl) (by kernel_rfl)))))
 ·replace H:=(ifF c1724).symm.trans H
  refine AWp.skip ?_
  refine AWp.seq ?_
  obtain⟨t1824,e1825,H⟩:=bind_of H
  refine reg hP hn hm [(4,.call [] [(0,3)] [] [3] 0 (.tup [.own 0,bV t1824.2]) [(0,some (.row 2 116 (t1824.1.map eBucket)))])] [2,3,4,6,7,9,10] [0,1,2,3] ⟨[(2,.ptr 0 0 0),(3,.ptr 1 0 0),(4,.ptr 2 0 0),(6,iV .i64 t472.1),(7,iV .i64 t472.2),(9,.own 3),(10,bV t1824.2)],[(0,some (.box 52 (aHist (t1722.1)))),(1,some (.box 52 (aHist (t1722.2.1)))),(2,some (.box 52 [iV .i64 0,iV .i64 0,iV .i64 0,iV .u64 0,iV .u64 0,iV .i64 0,.none0,.none0])),(3,some (.row 2 116 (t1824.1.map eBucket)))],0⟩ [Enters Try.prog 94,Pv.Fn Try.prog 94 [.im (.row (((t1722.1).f6).map eBucket)),.im (.row (((t1722.2.1).f6).map eBucket))] [] 0 (fun r o=>r = .tup [.own 0,bV t1824.2]∧o=[(0,some (.row 2 116 (t1824.1.map eBucket)))])] (by kernel_rfl) ⟨by exact Try.call94,by exact f_meld_less.ok ((t1722.1).f6) ((t1722.2.1).f6) t1824 e1825,trivial⟩ ?_
  refine AWp.seq ?_
  obtain⟨t1828,e1829,H⟩:=bind_of H
  refine reg hP hn hm [(4,.call [] [(0,4)] [] [4] 0 (.tup [.own 0,bV t1828.2]) [(0,some (.row 2 116 (t1828.1.map eBucket)))])] [2,3,4,6,7,9,10,11,12] [0,1,2,3,4] ⟨[(2,.ptr 0 0 0),(3,.ptr 1 0 0),(4,.ptr 2 0 0),(6,iV .i64 t472.1),(7,iV .i64 t472.2),(9,.own 3),(10,bV t1824.2),(11,.own 4),(12,bV t1828.2)],[(0,some (.box 52 (aHist (t1722.1)))),(1,some (.box 52 (aHist (t1722.2.1)))),(2,some (.box 52 [iV .i64 0,iV .i64 0,iV .i64 0,iV .u64 0,iV .u64 0,iV .i64 0,.none0,.none0])),(3,some (.row 2 116 (t1824.1.map eBucket))),(4,some (.row 2 116 (t1828.1.map eBucket)))],0⟩ [Enters Try.prog 94,Pv.Fn Try.prog 94 [.im (.row (((t1722.1).f7).map eBucket)),.im (.row (((t1722.2.1).f7).map eBucket))] [] 0 (fun r o=>r = .tup [.own 0,bV t1828.2]∧o=[(0,some (.row 2 116 (t1828.1.map eBucket)))])] (by kernel_rfl) ⟨by exact Try.call94,by exact f_meld_less.ok ((t1722.1).f7) ((t1722.2.1).f7) t1828 e1829,trivial⟩ ?_
  refine AWp.seq ?_
  obtain⟨t1833,e1834,H⟩:=bind_of H
  refine reg hP hn hm [(4,.call [] [] [] [] 0 (.tup [iV .u64 t1833.1,iV .i64 t1833.2]) [])] [2,4,6,7,9,10,11,12,13,14] [0,2,3,4] ⟨[(2,.ptr 0 0 0),(4,.ptr 2 0 0),(6,iV .i64 t472.1),(7,iV .i64 t472.2),(9,.own 3),(10,bV t1824.2),(11,.own 4),(12,bV t1828.2),(13,iV .u64 t1833.1),(14,iV .i64 t1833.2)],[(0,some (.box 52 (aHist (t1722.1)))),(2,some (.box 52 [iV .i64 0,iV .i64 0,iV .i64 0,iV .u64 0,iV .u64 0,iV .i64 0,.none0,.none0])),(3,some (.row 2 116 (t1824.1.map eBucket))),(4,some (.row 2 116 (t1828.1.map eBucket)))],0⟩ [Enters Try.prog 95,Pv.Fn Try.prog 95 [iV .u64 ((t1722.1).f3),iV .u64 ((t1722.2.1).f3)] [] 0 (fun r o=>r = .tup [iV .u64 t1833.1,iV .i64 t1833.2]∧o=[])] (by kernel_rfl) ⟨by exact Try.call95,by exact f_num_Sub.ok ((t1722.1).f3) ((t1722.2.1).f3) t1833 e1834,trivial⟩ ?_
  refine AWp.seq ?_
  refine AWp.block ?_
  refine AWp.seq ?_
  obtain⟨o1848,e1849,H⟩:=bind_of H
  refine AWp.mono (Q:=fun e s=>(match (generalizing:=false) o1848 with | x1839=>e = .normal∧s=⟨[(2,.ptr 5 0 0),(4,.ptr 6 0 0),(6,iV .i64 t472.1),(7,iV .i64 t472.2),(9,.own 7),(11,.own 8),(13,iV .u64 t1833.1),(58,bV x1839)],[(5,some (.box 52 (aHist (t1722.1)))),(6,some (.box 52 [iV .i64 0,iV .i64 0,iV .i64 0,iV .u64 0,iV .u64 0,iV .i64 0,.none0,.none0])),(7,some (.row 2 116 (t1824.1.map eBucket))),(8,some (.row 2 116 (t1828.1.map eBucket)))],0⟩)) (AWp.cv ?_) ?_
  ·replace H:=e1849;clear e1849
   rcases Bool.eq_false_or_eq_true (!t1824.2) with c1837 | c1837
   ·replace H:=(ifT c1837).symm.trans H
    refine reg hP hn hm [(2,.b true)] [2,4,6,7,9,11,13,58] [0,2,3,4] ⟨[(2,.ptr 0 0 0),(4,.ptr 2 0 0),(6,iV .i64 t472.1),(7,iV .i64 t472.2),(9,.own 3),(11,.own 4),(13,iV .u64 t1833.1),(58,bV true)],[(0,some (.box 52 (aHist (t1722.1)))),(2,some (.box 52 [iV .i64 0,iV .i64 0,iV .i64 0,iV .u64 0,iV .u64 0,iV .i64 0,.none0,.none0])),(3,some (.row 2 116 (t1824.1.map eBucket))),(4,some (.row 2 116 (t1828.1.map eBucket)))],0⟩ [(!t1824.2)=true] (by kernel_rfl) ⟨by exact c1837,trivial⟩ ?_
    obtain rfl:=Option.some.inj H
    exact Exists.intro _ (And.intro (fun _ _ h=>h.conv (inv:=[(0,5),(2,6),(3,7),(4,8)]) (vk:=[]) (e0:=[]) (t:=⟨[(2,.ptr 5 0 0),(4,.ptr 6 0 0),(6,iV .i64 t472.1),(7,iV .i64 t472.2),(9,.own 7),(11,.own 8),(13,iV .u64 t1833.1),(58,bV true)],[(5,some (.box 52 (aHist (t1722.1)))),(6,some (.box 52 [iV .i64 0,iV .i64 0,iV .i64 0,iV .u64 0,iV .u64 0,iV .i64 0,.none0,.none0])),(7,some (.row 2 116 (t1824.1.map eBucket))),(8,some (.row 2 116 (t1828.1.map eBucket)))],0⟩) (by kernel_rfl)) (And.intro rfl rfl))
   ·replace H:=(ifF c1837).symm.trans H
    rcases Bool.eq_false_or_eq_true (!t1828.2) with c1838 | c1838
    ·replace H:=(ifT c1838).symm.trans H
     refine reg hP hn hm [(2,.b false),(6,.b true)] [2,4,6,7,9,11,13,58] [0,2,3,4] ⟨[(2,.ptr 0 0 0),(4,.ptr 2 0 0),(6,iV .i64 t472.1),(7,iV .i64 t472.2),(9,.own 3),(11,.own 4),(13,iV .u64 t1833.1),(58,bV true)],[(0,some (.box 52 (aHist (t1722.1)))),(2,some (.box 52 [iV .i64 0,iV .i64 0,iV .i64 0,iV .u64 0,iV .u64 0,iV .i64 0,.none0,.none0])),(3,some (.row 2 116 (t1824.1.map eBucket))),(4,some (.row 2 116 (t1828.1.map eBucket)))],0⟩ [(!t1824.2)=false,(!t1828.2)=true] (by kernel_rfl) ⟨by exact c1837,by exact c1838,trivial⟩ ?_
     obtain rfl:=Option.some.inj H
     exact Exists.intro _ (And.intro (fun _ _ h=>h.conv (inv:=[(0,5),(2,6),(3,7),(4,8)]) (vk:=[]) (e0:=[]) (t:=⟨[(2,.ptr 5 0 0),(4,.ptr 6 0 0),(6,iV .i64 t472.1),(7,iV .i64 t472.2),(9,.own 7),(11,.own 8),(13,iV .u64 t1833.1),(58,bV true)],[(5,some (.box 52 (aHist (t1722.1)))),(6,some (.box 52 [iV .i64 0,iV .i64 0,iV .i64 0,iV .u64 0,iV .u64 0,iV .i64 0,.none0,.none0])),(7,some (.row 2 116 (t1824.1.map eBucket))),(8,some (.row 2 116 (t1828.1.map eBucket)))],0⟩) (by kernel_rfl)) (And.intro rfl rfl))
    ·replace H:=(ifF c1838).symm.trans H
     refine reg hP hn hm [(2,.b false),(6,.b false)] [2,4,6,7,9,11,13,58] [0,2,3,4] ⟨[(2,.ptr 0 0 0),(4,.ptr 2 0 0),(6,iV .i64 t472.1),(7,iV .i64 t472.2),(9,.own 3),(11,.own 4),(13,iV .u64 t1833.1),(58,bV (t1833.2 != (0:Int)))],[(0,some (.box 52 (aHist (t1722.1)))),(2,some (.box 52 [iV .i64 0,iV .i64 0,iV .i64 0,iV .u64 0,iV .u64 0,iV .i64 0,.none0,.none0])),(3,some (.row 2 116 (t1824.1.map eBucket))),(4,some (.row 2 116 (t1828.1.map eBucket)))],0⟩ [(!t1824.2)=false,(!t1828.2)=false] (by kernel_rfl) ⟨by exact c1837,by exact c1838,trivial⟩ ?_
     obtain rfl:=Option.some.inj H
     exact Exists.intro _ (And.intro (fun _ _ h=>h.conv (inv:=[(0,5),(2,6),(3,7),(4,8)]) (vk:=[]) (e0:=[]) (t:=⟨[(2,.ptr 5 0 0),(4,.ptr 6 0 0),(6,iV .i64 t472.1),(7,iV .i64 t472.2),(9,.own 7),(11,.own 8),(13,iV .u64 t1833.1),(58,bV (t1833.2 != (0:Int)))],[(5,some (.box 52 (aHist (t1722.1)))),(6,some (.box 52 [iV .i64 0,iV .i64 0,iV .i64 0,iV .u64 0,iV .u64 0,iV .i64 0,.none0,.none0])),(7,some (.row 2 116 (t1824.1.map eBucket))),(8,some (.row 2 116 (t1828.1.map eBucket)))],0⟩) (by kernel_rfl)) (And.intro rfl rfl))
  ·obtain⟨x1839,rfl⟩:∃ z,z=o1848:=⟨_,rfl⟩
   rintro e s ⟨rfl,rfl⟩
   refine AWp.cond x1839 rfl (fun c1840 => ?_) (fun c1840 => ?_)
   ·replace H:=(ifT c1840).symm.trans H
    refine AWp.seq ?_
    refine reg hP hn hm [] [4,5] [6] ⟨[(4,.ptr 6 0 0),(5,iV .i64 21)],[(6,some (.box 52 [iV .i64 0,iV .i64 0,iV .i64 0,iV .u64 0,iV .u64 0,iV .i64 0,.none0,.none0]))],0⟩ [] (by kernel_rfl) trivial ?_
    refine AWp.conv (inv:=[(6,0)]) (vk:=[]) (e0:=[]) (t:=⟨[(4,.ptr 0 0 0),(5,iV .i64 21)],[(0,some (.box 52 (aHist ((⟨0,0,0,0,0,0,[],[]⟩:THist)))))],0⟩) (by kernel_rfl) ?_
    refine AWp.ret ?_
    obtain rfl:=Option.some.inj H
    exact Exists.intro _ (And.intro (fun _ _ h=>h) (And.intro (.inl rfl) (And.intro rfl (And.intro (by kernel_rfl) (by kernel_rfl)))))
   ·replace H:=(ifF c1840).symm.trans H
    refine AWp.seq ?_
    refine reg hP hn hm [] [2,4,6,7,9,11,13,70] [5,6,7,8] ⟨[(2,.ptr 5 0 0),(4,.ptr 6 0 0),(6,iV .i64 t472.1),(7,iV .i64 t472.2),(9,.own 7),(11,.own 8),(13,iV .u64 t1833.1),(70,bV (t472.2 != (0:Int)))],[(5,some (.box 52 (aHist (t1722.1)))),(6,some (.box 52 [iV .i64 0,iV .i64 0,iV .i64 0,iV .u64 0,iV .u64 0,iV .i64 0,.none0,.none0])),(7,some (.row 2 116 (t1824.1.map eBucket))),(8,some (.row 2 116 (t1828.1.map eBucket)))],0⟩ [] (by kernel_rfl) trivial ?_
    refine AWp.cond (t472.2 != (0:Int)) rfl (fun c1841 => ?_) (fun c1841 => ?_)
    ·replace H:=(ifT c1841).symm.trans H
     refine AWp.seq ?_
     refine reg hP hn hm [] [4,5] [6] ⟨[(4,.ptr 6 0 0),(5,iV .i64 t472.2)],[(6,some (.box 52 [iV .i64 0,iV .i64 0,iV .i64 0,iV .u64 0,iV .u64 0,iV .i64 0,.none0,.none0]))],0⟩ [] (by kernel_rfl) trivial ?_
     refine AWp.conv (inv:=[(6,0)]) (vk:=[]) (e0:=[]) (t:=⟨[(4,.ptr 0 0 0),(5,iV .i64 t472.2)],[(0,some (.box 52 (aHist ((⟨0,0,0,0,0,0,[],[]⟩:THist)))))],0⟩) (by kernel_rfl) ?_
     refine AWp.ret ?_
     obtain rfl:=Option.some.inj H
     exact Exists.intro _ (And.intro (fun _ _ h=>h) (And.intro (.inl rfl) (And.intro rfl (And.intro (by kernel_rfl) (by kernel_rfl)))))
    ·replace H:=(ifF c1841).symm.trans H
     refine AWp.skip ?_
     refine AWp.seq ?_
     refine reg hP hn hm [] [2,4,9,11] [5,6,7,8] ⟨[(2,.ptr 5 0 0),(4,.ptr 6 0 0),(9,.own 7),(11,.own 8)],[(5,some (.box 52 (aHist ⟨((t1722.1).f0),((t1722.1).f1),((t1722.1).f2),t1833.1,((t1722.1).f4),t472.1,((t1722.1).f6),((t1722.1).f7)⟩))),(6,some (.box 52 [iV .i64 0,iV .i64 0,iV .i64 0,iV .u64 0,iV .u64 0,iV .i64 0,.none0,.none0])),(7,some (.row 2 116 (t1824.1.map eBucket))),(8,some (.row 2 116 (t1828.1.map eBucket)))],0⟩ [] (by kernel_rfl) trivial ?_
     refine AWp.seq ?_
     refine AWp.conv (inv:=[(5,5),(6,6)]) (vk:=[7,8]) (e0:=[]) (t:=⟨[(2,.ptr 5 0 0),(4,.ptr 6 0 0),(9,.im (.row (t1824.1.map eBucket))),(11,.im (.row (t1828.1.map eBucket)))],[(5,some (.box 52 (aHist ⟨((t1722.1).f0),((t1722.1).f1),((t1722.1).f2),t1833.1,((t1722.1).f4),t472.1,((t1722.1).f6),((t1722.1).f7)⟩))),(6,some (.box 52 [iV .i64 0,iV .i64 0,iV .i64 0,iV .u64 0,iV .u64 0,iV .i64 0,.none0,.none0]))],0⟩) (by kernel_rfl) ?_
     obtain⟨t1846,e1847,H⟩:=bind_of H
     refine reg hP hn hm [(3,.call [] [] [] [] 0 (.tup [.agg (aHist (t1846.1)),iV .i64 t1846.2]) [])] [4,5] [6] ⟨[(4,.ptr 6 0 0),(5,iV .i64 t1846.2)],[(6,some (.box 52 (aHist (t1846.1))))],0⟩ [Enters Try.prog 96,Pv.Fn Try.prog 96 [.agg (aHist ⟨(t1722.1).f0,(t1722.1).f1,(t1722.1).f2,t1833.1,(t1722.1).f4,t472.1,(t1722.1).f6,(t1722.1).f7⟩),.im (.row (t1824.1.map eBucket)),.im (.row (t1828.1.map eBucket))] [] 0 (fun r o=>r = .tup [.agg (aHist (t1846.1)),iV .i64 t1846.2]∧o=[])] (by kernel_rfl) ⟨by exact Try.call96,by exact f_hist_Make.ok (⟨(t1722.1).f0,(t1722.1).f1,(t1722.1).f2,t1833.1,(t1722.1).f4,t472.1,(t1722.1).f6,(t1722.1).f7⟩:THist) t1824.1 t1828.1 t1846 e1847,trivial⟩ ?_
     refine AWp.conv (inv:=[(6,0)]) (vk:=[]) (e0:=[]) (t:=⟨[(4,.ptr 0 0 0),(5,iV .i64 t1846.2)],[(0,some (.box 52 (aHist ((t1846.1)))))],0⟩) (by kernel_rfl) ?_
     refine AWp.ret ?_
     obtain rfl:=Option.some.inj H
     exact Exists.intro _ (And.intro (fun _ _ h=>h) (And.intro (.inl rfl) (And.intro rfl (And.intro (by kernel_rfl) (by kernel_rfl)))))
def f_num_AddInt.l0 (a0:List Int) (x1884:Int) (x1885:Int) (x1886:Int):Option (Int×Int):=if(decide (x1886<(a0.length:Int)))=true then((at? a0 x1886)>>=fun b1891=>(chk (0≤x1885∧0≤(IntKind.u64.wrap (b1891))∧0≤(0:Int)∧(0:Int)≤(1:Int)))>>=fun _=>f_num_AddInt.l0 a0 (IntKind.i64.wrap (x1884+(IntKind.i64.wrap ((Int.fdiv b1891 9223372036854775808)+(IntKind.i64.wrap ((x1885+(IntKind.u64.wrap (b1891))+(0:Int)) / 18446744073709551616)))))) ((x1885+(IntKind.u64.wrap (b1891))+(0:Int)) % 18446744073709551616) (IntKind.i64.wrap (x1886+(1:Int)))) else(some (x1884,x1885))
partial_fixpoint
def f_num_AddInt.f (a0:List Int):Option (Int×Int):=(f_num_AddInt.l0 a0 0 0 0)>>=fun oo=>match oo with | (x1896,x1897)=>(if(x1896 != (Int.fdiv (IntKind.i64.wrap (x1897)) 9223372036854775808))=true then(some (0,5)) else(some (IntKind.i64.wrap (x1897),0)))
theorem f_num_AddInt.ok (a0:List Int) (r:Int×Int) (H:f_num_AddInt.f a0=some r):Pv.Fn Try.prog 97 [.im (.row (a0.map (encInt .i64)))] [] 0 (fun x o=>x = .tup [iV .i64 r.1,iV .i64 r.2]∧o=[]):=by
 unfold f_num_AddInt.f at H
 refine Fn.bodyK [] Try.func97 rfl rfl (fun Γ hP hn => ?_)
 have hm:Try.prog.follows .mixedOrders=true:=by kernel_rfl
 replace hn:Γ.n=39:=hn
 refine AWp.seq ?_
 refine reg hP hn hm [] [0] [] ⟨[(0,.im (.row (a0.map (encInt .i64))))],[],0⟩ [] (by kernel_rfl) trivial ?_
 refine AWp.seq ?_
 refine reg hP hn hm [] [0,4,5] [] ⟨[(0,.im (.row (a0.map (encInt .i64)))),(4,iV .i64 0),(5,iV .u64 0)],[],0⟩ [] (by kernel_rfl) trivial ?_
 refine AWp.seq ?_
 refine AWp.seq ?_
 refine reg hP hn hm [(1,.any (iV .i64 (a0.length:Int)))] [4,5,10,11,12] [] ⟨[(4,iV .i64 0),(5,iV .u64 0),(10,.im (.row (a0.map (encInt .i64)))),(11,iV .i64 (a0.length:Int)),(12,iV .i64 0)],[],0⟩ [((a0.map (encInt .i64)).length:Int)=(a0.length:Int)] (by kernel_rfl) ⟨by rw[len_map],trivial⟩ ?_
 refine AWp.block ?_
 obtain⟨o1899,e1900,H⟩:=bind_of H
 refine AWp.loop (LWp.conv (inv:=[]) (vk:=[]) (e0:=[]) (t:=⟨[(4,iV .i64 0),(5,iV .u64 0),(10,.im (.row (a0.map (encInt .i64)))),(11,iV .i64 (a0.length:Int)),(12,iV .i64 0)],[],0⟩) (by kernel_rfl) ?_)
 refine LWp.mono (Q:=fun e s=>(match (generalizing:=false) o1899 with | (x1896,x1897)=>e = .exit 0∧s=⟨[(4,iV .i64 x1896),(5,iV .u64 x1897)],[],0⟩)) (LWp.cv (withBody (fun body hbody => ?_))) ?_
 ·refine f_num_AddInt.l0.partial_correctness a0 (motive:=fun x1884 x1885 x1886 o1899=>LWp Γ body (fun e s=>∃ t,Cv Γ s t∧(match (generalizing:=false) o1899 with | (x1896,x1897)=>e = .exit 0∧t=⟨[(4,iV .i64 x1896),(5,iV .u64 x1897)],[],0⟩)) ⟨[(4,iV .i64 x1884),(5,iV .u64 x1885),(10,.im (.row (a0.map (encInt .i64)))),(11,iV .i64 (a0.length:Int)),(12,iV .i64 x1886)],[],0⟩) ?_ _ _ _ _ e1900
  clear H e1900 o1899;intro self ih x1884 x1885 x1886 o1899 H
  subst hbody
  refine LWp.round ?_
  refine AWp.seq ?_
  refine reg hP hn hm [] [4,5,10,11,12,13] [] ⟨[(4,iV .i64 x1884),(5,iV .u64 x1885),(10,.im (.row (a0.map (encInt .i64)))),(11,iV .i64 (a0.length:Int)),(12,iV .i64 x1886),(13,bV (decide (x1886<(a0.length:Int))))],[],0⟩ [] (by kernel_rfl) trivial ?_
  refine AWp.seq ?_
  refine AWp.cond (decide (x1886<(a0.length:Int))) rfl (fun c1887 => ?_) (fun c1887 => ?_)
  ·replace H:=(ifT c1887).symm.trans H
   refine AWp.skip ?_
   refine AWp.seq ?_
   refine AWp.block ?_
   refine AWp.seq ?_
   obtain⟨b1891,p1892,q1893,H⟩:=at_of H
   refine reg hP hn hm [(0,.c ((encInt .i64) b1891))] [4,5,7,10,11,12] [] ⟨[(4,iV .i64 x1884),(5,iV .u64 x1885),(7,iV .i64 b1891),(10,.im (.row (a0.map (encInt .i64)))),(11,iV .i64 (a0.length:Int)),(12,iV .i64 x1886)],[],0⟩ [0≤x1886,(a0.map (encInt .i64))[(Int.toNat (x1886))]? = some ((encInt .i64) b1891)] (by kernel_rfl) ⟨by exact p1892,by exact el_map (encInt .i64) q1893,trivial⟩ ?_
   refine AWp.seq ?_
   obtain⟨c1895,H⟩:=chk_of H
   refine reg hP hn hm [(3,.ext (.tup [iV .u64 ((x1885+(IntKind.u64.wrap (b1891))+(0:Int)) % 18446744073709551616),iV .u64 ((x1885+(IntKind.u64.wrap (b1891))+(0:Int)) / 18446744073709551616)]))] [4,7,8,9,10,11,12] [] ⟨[(4,iV .i64 x1884),(7,iV .i64 b1891),(8,iV .u64 ((x1885+(IntKind.u64.wrap (b1891))+(0:Int)) % 18446744073709551616)),(9,iV .u64 ((x1885+(IntKind.u64.wrap (b1891))+(0:Int)) / 18446744073709551616)),(10,.im (.row (a0.map (encInt .i64)))),(11,iV .i64 (a0.length:Int)),(12,iV .i64 x1886)],[],0⟩ [∀ w,(callFunc 122 ([.int .u64 x1885,.int .u64 (IntKind.u64.wrap (b1891)),.int .u64 (0:Int)]:List Value).toArray).run Try.prog w = .ok (.value (.tuple #[.int .u64 ((x1885+(IntKind.u64.wrap (b1891))+(0:Int)) % 18446744073709551616),.int .u64 ((x1885+(IntKind.u64.wrap (b1891))+(0:Int)) / 18446744073709551616)])) w] (by kernel_rfl) ⟨by exact fun w=>x_add64 (fn:=Try.f122) Try.func122 (by kernel_rfl) rfl (by kernel_rfl) (by kernel_rfl) c1895 w,trivial⟩ ?_
   refine AWp.seq ?_
   refine reg hP hn hm [] [4,5,7,9,10,11,12] [] ⟨[(4,iV .i64 x1884),(5,iV .u64 ((x1885+(IntKind.u64.wrap (b1891))+(0:Int)) % 18446744073709551616)),(7,iV .i64 b1891),(9,iV .u64 ((x1885+(IntKind.u64.wrap (b1891))+(0:Int)) / 18446744073709551616)),(10,.im (.row (a0.map (encInt .i64)))),(11,iV .i64 (a0.length:Int)),(12,iV .i64 x1886)],[],0⟩ [] (by kernel_rfl) trivial ?_
   refine reg hP hn hm [] [4,5,10,11,12] [] ⟨[(4,iV .i64 (IntKind.i64.wrap (x1884+(IntKind.i64.wrap ((Int.fdiv b1891 9223372036854775808)+(IntKind.i64.wrap ((x1885+(IntKind.u64.wrap (b1891))+(0:Int)) / 18446744073709551616))))))),(5,iV .u64 ((x1885+(IntKind.u64.wrap (b1891))+(0:Int)) % 18446744073709551616)),(10,.im (.row (a0.map (encInt .i64)))),(11,iV .i64 (a0.length:Int)),(12,iV .i64 x1886)],[],0⟩ [(0:Int)≤63] (by kernel_rfl) ⟨by decide,trivial⟩ ?_
   refine reg hP hn hm [] [4,5,10,11,12] [] ⟨[(4,iV .i64 (IntKind.i64.wrap (x1884+(IntKind.i64.wrap ((Int.fdiv b1891 9223372036854775808)+(IntKind.i64.wrap ((x1885+(IntKind.u64.wrap (b1891))+(0:Int)) / 18446744073709551616))))))),(5,iV .u64 ((x1885+(IntKind.u64.wrap (b1891))+(0:Int)) % 18446744073709551616)),(10,.im (.row (a0.map (encInt .i64)))),(11,iV .i64 (a0.length:Int)),(12,iV .i64 (IntKind.i64.wrap (x1886+(1:Int))))],[],0⟩ [] (by kernel_rfl) trivial ?_
   exact LWp.conv (inv:=[]) (vk:=[]) (e0:=[]) (t:=⟨[(4,iV .i64 (IntKind.i64.wrap (x1884+(IntKind.i64.wrap ((Int.fdiv b1891 9223372036854775808)+(IntKind.i64.wrap ((x1885+(IntKind.u64.wrap (b1891))+(0:Int)) / 18446744073709551616))))))),(5,iV .u64 ((x1885+(IntKind.u64.wrap (b1891))+(0:Int)) % 18446744073709551616)),(10,.im (.row (a0.map (encInt .i64)))),(11,iV .i64 (a0.length:Int)),(12,iV .i64 (IntKind.i64.wrap (x1886+(1:Int))))],[],0⟩) (by kernel_rfl) (ih _ _ _ _ H)
  ·replace H:=(ifF c1887).symm.trans H
   refine AWp.exit ?_
   obtain rfl:=Option.some.inj H
   exact Exists.intro _ (And.intro (fun _ _ h=>h.conv (inv:=[]) (vk:=[]) (e0:=[]) (t:=⟨[(4,iV .i64 x1884),(5,iV .u64 x1885)],[],0⟩) (by kernel_rfl)) (And.intro rfl rfl))
 ·obtain⟨x1896,x1897⟩:=o1899
  rintro e s ⟨rfl,rfl⟩
  refine AWp.seq ?_
  refine AWp.seq ?_
  refine reg hP hn hm [] [5,36] [] ⟨[(5,iV .u64 x1897),(36,bV (x1896 != (Int.fdiv (IntKind.i64.wrap (x1897)) 9223372036854775808)))],[],0⟩ [(0:Int)≤63] (by kernel_rfl) ⟨by decide,trivial⟩ ?_
  refine AWp.cond (x1896 != (Int.fdiv (IntKind.i64.wrap (x1897)) 9223372036854775808)) rfl (fun c1898 => ?_) (fun c1898 => ?_)
  ·replace H:=(ifT c1898).symm.trans H
   refine AWp.seq ?_
   refine reg hP hn hm [] [2,3] [] ⟨[(2,iV .i64 0),(3,iV .i64 5)],[],0⟩ [] (by kernel_rfl) trivial ?_
   refine AWp.conv (inv:=[]) (vk:=[]) (e0:=[]) (t:=⟨[(2,iV .i64 0),(3,iV .i64 5)],[],0⟩) (by kernel_rfl) ?_
   refine AWp.ret ?_
   obtain rfl:=Option.some.inj H
   exact Exists.intro _ (And.intro (fun _ _ h=>h) (And.intro (.inl rfl) (And.intro rfl (And.intro (by kernel_rfl) (by kernel_rfl)))))
  ·replace H:=(ifF c1898).symm.trans H
   refine AWp.skip ?_
   refine AWp.seq ?_
   refine reg hP hn hm [] [2,3] [] ⟨[(2,iV .i64 (IntKind.i64.wrap (x1897))),(3,iV .i64 0)],[],0⟩ [] (by kernel_rfl) trivial ?_
   refine AWp.conv (inv:=[]) (vk:=[]) (e0:=[]) (t:=⟨[(2,iV .i64 (IntKind.i64.wrap (x1897))),(3,iV .i64 0)],[],0⟩) (by kernel_rfl) ?_
   refine AWp.ret ?_
   obtain rfl:=Option.some.inj H
   exact Exists.intro _ (And.intro (fun _ _ h=>h) (And.intro (.inl rfl) (And.intro rfl (And.intro (by kernel_rfl) (by kernel_rfl)))))
def f_meld_Add.f (a0:THist) (a1:THist):Option (THist×Int):=(f_num_AddInt.f [a0.f5,a1.f5])>>=fun t1903=>(f_meld_Alike.f a0 a1)>>=fun t1907=>if((if t1907.2.2>t1903.2 then t1907.2.2 else t1903.2) != (0:Int))=true then(some ((⟨0,0,0,0,0,0,[],[]⟩:THist),(if t1907.2.2>t1903.2 then t1907.2.2 else t1903.2))) else((f_num_Add.f [(t1907.1).f3,(t1907.2.1).f3])>>=fun t1912=>if(t1912.2 != (0:Int))=true then(some ((⟨0,0,0,0,0,0,[],[]⟩:THist),t1912.2)) else((chk ((([]:List TBucket).length+((t1907.1).f6).length)*16≤140737488355328))>>=fun _=>(chk ((((t1907.1).f6).length+((t1907.2.1).f6).length)*16≤140737488355328))>>=fun _=>(chk ((([]:List TBucket).length+((t1907.1).f7).length)*16≤140737488355328))>>=fun _=>(chk ((((t1907.1).f7).length+((t1907.2.1).f7).length)*16≤140737488355328))>>=fun _=>(f_hist_Make.f (⟨(if a1.f0>a0.f0 then a1.f0 else a0.f0),(t1907.1).f1,(t1907.1).f2,t1912.1,0,t1903.1,[],[]⟩:THist) (((t1907.1).f6)++((t1907.2.1).f6)) (((t1907.1).f7)++((t1907.2.1).f7)))>>=fun t1925=>some ((t1925.1),t1925.2)))
theorem f_meld_Add.ok (a0:THist) (a1:THist) (r:THist×Int) (H:f_meld_Add.f a0 a1=some r):Pv.Fn Try.prog 64 [.agg (aHist a0),.agg (aHist a1)] [] 0 (fun x o=>x = .tup [.agg (aHist (r.1)),iV .i64 r.2]∧o=[]):=by
 unfold f_meld_Add.f at H
 refine Fn.bodyK [] Try.func64 rfl rfl (fun Γ hP hn => ?_)
 have hm:Try.prog.follows .mixedOrders=true:=by kernel_rfl
 replace hn:Γ.n=77:=hn
 refine AWp.seq ?_
 refine reg hP hn hm [(0,.k 0),(1,.k 1),(2,.k 2)] [2,3,4] [0,1,2] ⟨[(2,.ptr 0 0 0),(3,.ptr 1 0 0),(4,.ptr 2 0 0)],[(0,some (.box 52 (aHist a0))),(1,some (.box 52 (aHist a1))),(2,some (.box 52 [iV .i64 0,iV .i64 0,iV .i64 0,iV .u64 0,iV .u64 0,iV .i64 0,.none0,.none0]))],0⟩ [] (by kernel_rfl) trivial ?_
 refine AWp.seq ?_
 refine reg hP hn hm [(4,.more xMax)] [2,3,4,6] [0,1,2] ⟨[(2,.ptr 0 0 0),(3,.ptr 1 0 0),(4,.ptr 2 0 0),(6,iV .i64 (if a1.f0>a0.f0 then a1.f0 else a0.f0))],[(0,some (.box 52 (aHist a0))),(1,some (.box 52 (aHist a1))),(2,some (.box 52 [iV .i64 0,iV .i64 0,iV .i64 0,iV .u64 0,iV .u64 0,iV .i64 0,.none0,.none0]))],0⟩ [] (by kernel_rfl) trivial ?_
 refine AWp.seq ?_
 obtain⟨t1903,e1904,H⟩:=bind_of H
 refine reg hP hn hm [(4,.app 3 ([a0.f5,a1.f5].map (encInt .i64))),(5,.call [] [] [3] [] 0 (.tup [iV .i64 t1903.1,iV .i64 t1903.2]) [])] [2,3,4,6,7,8] [0,1,2] ⟨[(2,.ptr 0 0 0),(3,.ptr 1 0 0),(4,.ptr 2 0 0),(6,iV .i64 (if a1.f0>a0.f0 then a1.f0 else a0.f0)),(7,iV .i64 t1903.1),(8,iV .i64 t1903.2)],[(0,some (.box 52 (aHist a0))),(1,some (.box 52 (aHist a1))),(2,some (.box 52 [iV .i64 0,iV .i64 0,iV .i64 0,iV .u64 0,iV .u64 0,iV .i64 0,.none0,.none0]))],0⟩ [[a0.f5,a1.f5].map (encInt .i64)=[[iI .i64 a0.f5],[iI .i64 a1.f5]],Enters Try.prog 97,Pv.Fn Try.prog 97 [.im (.row ([a0.f5,a1.f5].map (encInt .i64)))] [] 0 (fun r o=>r = .tup [iV .i64 t1903.1,iV .i64 t1903.2]∧o=[])] (by kernel_rfl) ⟨by exact rfl,by exact Try.call97,by exact f_num_AddInt.ok [a0.f5,a1.f5] t1903 e1904,trivial⟩ ?_
 refine AWp.seq ?_
 obtain⟨t1907,e1908,H⟩:=bind_of H
 refine reg hP hn hm [(2,.call [] [] [] [] 0 (.tup [.agg (aHist (t1907.1)),.agg (aHist (t1907.2.1)),iV .i64 t1907.2.2]) [])] [2,3,4,6,7,8,9] [0,1,2] ⟨[(2,.ptr 0 0 0),(3,.ptr 1 0 0),(4,.ptr 2 0 0),(6,iV .i64 (if a1.f0>a0.f0 then a1.f0 else a0.f0)),(7,iV .i64 t1903.1),(8,iV .i64 t1903.2),(9,iV .i64 t1907.2.2)],[(0,some (.box 52 (aHist (t1907.1)))),(1,some (.box 52 (aHist (t1907.2.1)))),(2,some (.box 52 [iV .i64 0,iV .i64 0,iV .i64 0,iV .u64 0,iV .u64 0,iV .i64 0,.none0,.none0]))],0⟩ [Enters Try.prog 93,Pv.Fn Try.prog 93 [.agg (aHist a0),.agg (aHist a1)] [] 0 (fun r o=>r = .tup [.agg (aHist (t1907.1)),.agg (aHist (t1907.2.1)),iV .i64 t1907.2.2]∧o=[])] (by kernel_rfl) ⟨by exact Try.call93,by exact f_meld_Alike.ok a0 a1 t1907 e1908,trivial⟩ ?_
 refine AWp.seq ?_
 refine AWp.seq ?_
 refine reg hP hn hm [(2,.more xMax)] [2,3,4,6,7,8] [0,1,2] ⟨[(2,.ptr 0 0 0),(3,.ptr 1 0 0),(4,.ptr 2 0 0),(6,iV .i64 (if a1.f0>a0.f0 then a1.f0 else a0.f0)),(7,iV .i64 t1903.1),(8,iV .i64 (if t1907.2.2>t1903.2 then t1907.2.2 else t1903.2))],[(0,some (.box 52 (aHist (t1907.1)))),(1,some (.box 52 (aHist (t1907.2.1)))),(2,some (.box 52 [iV .i64 0,iV .i64 0,iV .i64 0,iV .u64 0,iV .u64 0,iV .i64 0,.none0,.none0]))],0⟩ [] (by kernel_rfl) trivial ?_
 refine AWp.seq ?_
 refine reg hP hn hm [] [2,3,4,6,7,8,37] [0,1,2] ⟨[(2,.ptr 0 0 0),(3,.ptr 1 0 0),(4,.ptr 2 0 0),(6,iV .i64 (if a1.f0>a0.f0 then a1.f0 else a0.f0)),(7,iV .i64 t1903.1),(8,iV .i64 (if t1907.2.2>t1903.2 then t1907.2.2 else t1903.2)),(37,bV ((if t1907.2.2>t1903.2 then t1907.2.2 else t1903.2) != (0:Int)))],[(0,some (.box 52 (aHist (t1907.1)))),(1,some (.box 52 (aHist (t1907.2.1)))),(2,some (.box 52 [iV .i64 0,iV .i64 0,iV .i64 0,iV .u64 0,iV .u64 0,iV .i64 0,.none0,.none0]))],0⟩ [] (by kernel_rfl) trivial ?_
 refine AWp.cond ((if t1907.2.2>t1903.2 then t1907.2.2 else t1903.2) != (0:Int)) rfl (fun c1909 => ?_) (fun c1909 => ?_)
 ·replace H:=(ifT c1909).symm.trans H
  refine AWp.seq ?_
  refine reg hP hn hm [] [4,5] [2] ⟨[(4,.ptr 2 0 0),(5,iV .i64 (if t1907.2.2>t1903.2 then t1907.2.2 else t1903.2))],[(2,some (.box 52 [iV .i64 0,iV .i64 0,iV .i64 0,iV .u64 0,iV .u64 0,iV .i64 0,.none0,.none0]))],0⟩ [] (by kernel_rfl) trivial ?_
  refine AWp.conv (inv:=[(2,0)]) (vk:=[]) (e0:=[]) (t:=⟨[(4,.ptr 0 0 0),(5,iV .i64 (if t1907.2.2>t1903.2 then t1907.2.2 else t1903.2))],[(0,some (.box 52 (aHist ((⟨0,0,0,0,0,0,[],[]⟩:THist)))))],0⟩) (by kernel_rfl) ?_
  refine AWp.ret ?_
  obtain rfl:=Option.some.inj H
  exact Exists.intro _ (And.intro (fun _ _ h=>h) (And.intro (.inl rfl) (And.intro rfl (And.intro (by kernel_rfl) (by kernel_rfl)))))
 ·replace H:=(ifF c1909).symm.trans H
  refine AWp.skip ?_
  refine AWp.seq ?_
  obtain⟨t1912,e1913,H⟩:=bind_of H
  refine reg hP hn hm [(4,.app 4 ([(t1907.1).f3,(t1907.2.1).f3].map (encInt .u64))),(5,.call [] [] [4] [] 0 (.tup [iV .u64 t1912.1,iV .i64 t1912.2]) [])] [2,3,4,6,7,8,10] [0,1,2] ⟨[(2,.ptr 0 0 0),(3,.ptr 1 0 0),(4,.ptr 2 0 0),(6,iV .i64 (if a1.f0>a0.f0 then a1.f0 else a0.f0)),(7,iV .i64 t1903.1),(8,iV .i64 t1912.2),(10,iV .u64 t1912.1)],[(0,some (.box 52 (aHist (t1907.1)))),(1,some (.box 52 (aHist (t1907.2.1)))),(2,some (.box 52 [iV .i64 0,iV .i64 0,iV .i64 0,iV .u64 0,iV .u64 0,iV .i64 0,.none0,.none0]))],0⟩ [[(t1907.1).f3,(t1907.2.1).f3].map (encInt .u64)=[[iI .u64 ((t1907.1).f3)],[iI .u64 ((t1907.2.1).f3)]],Enters Try.prog 98,Pv.Fn Try.prog 98 [.im (.row ([(t1907.1).f3,(t1907.2.1).f3].map (encInt .u64)))] [] 0 (fun r o=>r = .tup [iV .u64 t1912.1,iV .i64 t1912.2]∧o=[])] (by kernel_rfl) ⟨by exact rfl,by exact Try.call98,by exact f_num_Add.ok [(t1907.1).f3,(t1907.2.1).f3] t1912 e1913,trivial⟩ ?_
  refine AWp.seq ?_
  refine AWp.seq ?_
  refine reg hP hn hm [] [2,3,4,6,7,8,10,50] [0,1,2] ⟨[(2,.ptr 0 0 0),(3,.ptr 1 0 0),(4,.ptr 2 0 0),(6,iV .i64 (if a1.f0>a0.f0 then a1.f0 else a0.f0)),(7,iV .i64 t1903.1),(8,iV .i64 t1912.2),(10,iV .u64 t1912.1),(50,bV (t1912.2 != (0:Int)))],[(0,some (.box 52 (aHist (t1907.1)))),(1,some (.box 52 (aHist (t1907.2.1)))),(2,some (.box 52 [iV .i64 0,iV .i64 0,iV .i64 0,iV .u64 0,iV .u64 0,iV .i64 0,.none0,.none0]))],0⟩ [] (by kernel_rfl) trivial ?_
  refine AWp.cond (t1912.2 != (0:Int)) rfl (fun c1914 => ?_) (fun c1914 => ?_)
  ·replace H:=(ifT c1914).symm.trans H
   refine AWp.seq ?_
   refine reg hP hn hm [] [4,5] [2] ⟨[(4,.ptr 2 0 0),(5,iV .i64 t1912.2)],[(2,some (.box 52 [iV .i64 0,iV .i64 0,iV .i64 0,iV .u64 0,iV .u64 0,iV .i64 0,.none0,.none0]))],0⟩ [] (by kernel_rfl) trivial ?_
   refine AWp.conv (inv:=[(2,0)]) (vk:=[]) (e0:=[]) (t:=⟨[(4,.ptr 0 0 0),(5,iV .i64 t1912.2)],[(0,some (.box 52 (aHist ((⟨0,0,0,0,0,0,[],[]⟩:THist)))))],0⟩) (by kernel_rfl) ?_
   refine AWp.ret ?_
   obtain rfl:=Option.some.inj H
   exact Exists.intro _ (And.intro (fun _ _ h=>h) (And.intro (.inl rfl) (And.intro rfl (And.intro (by kernel_rfl) (by kernel_rfl)))))
  ·replace H:=(ifF c1914).symm.trans H
   refine AWp.skip ?_
   refine AWp.seq ?_
   refine reg hP hn hm [(8,.k 5)] [2,3,4,11] [0,1,2,5] ⟨[(2,.ptr 0 0 0),(3,.ptr 1 0 0),(4,.ptr 2 0 0),(11,.ptr 5 0 0)],[(0,some (.box 52 (aHist (t1907.1)))),(1,some (.box 52 (aHist (t1907.2.1)))),(2,some (.box 52 [iV .i64 0,iV .i64 0,iV .i64 0,iV .u64 0,iV .u64 0,iV .i64 0,.none0,.none0])),(5,some (.box 52 [iV .i64 (if a1.f0>a0.f0 then a1.f0 else a0.f0),iV .i64 ((t1907.1).f1),iV .i64 ((t1907.1).f2),iV .u64 t1912.1,iV .u64 0,iV .i64 t1903.1,.none0,.none0]))],0⟩ [] (by kernel_rfl) trivial ?_
   refine AWp.seq ?_
   obtain⟨c1921,H⟩:=chk_of H
   obtain⟨c1922,H⟩:=chk_of H
   obtain⟨c1923,H⟩:=chk_of H
   obtain⟨c1924,H⟩:=chk_of H
   obtain⟨t1925,e1926,H⟩:=bind_of H
   refine reg hP hn hm [(3,.app 6 (((t1907.1).f6).map eBucket)),(6,.app 7 ((((t1907.1).f6)++((t1907.2.1).f6)).map eBucket)),(9,.app 8 (((t1907.1).f7).map eBucket)),(12,.app 9 ((((t1907.1).f7)++((t1907.2.1).f7)).map eBucket)),(13,.call [] [] [7,9] [] 0 (.tup [.agg (aHist (t1925.1)),iV .i64 t1925.2]) [])] [4,5] [2] ⟨[(4,.ptr 2 0 0),(5,iV .i64 t1925.2)],[(2,some (.box 52 (aHist (t1925.1))))],0⟩ [((t1907.1).f6).map eBucket=([]:List (List Im))++(((t1907.1).f6).map eBucket),∀ c∈(((t1907.1).f6).map eBucket),c.length=2,∀ c∈(((t1907.1).f6).map eBucket),leaves (c.map .im)=true,(([]:List (List Im)).length+(((t1907.1).f6).map eBucket).length)*16≤140737488355328,(((t1907.1).f6)++((t1907.2.1).f6)).map eBucket=(((t1907.1).f6).map eBucket)++(((t1907.2.1).f6).map eBucket),∀ c∈(((t1907.2.1).f6).map eBucket),c.length=2,∀ c∈(((t1907.2.1).f6).map eBucket),leaves (c.map .im)=true,((((t1907.1).f6).map eBucket).length+(((t1907.2.1).f6).map eBucket).length)*16≤140737488355328,((t1907.1).f7).map eBucket=([]:List (List Im))++(((t1907.1).f7).map eBucket),∀ c∈(((t1907.1).f7).map eBucket),c.length=2,∀ c∈(((t1907.1).f7).map eBucket),leaves (c.map .im)=true,(([]:List (List Im)).length+(((t1907.1).f7).map eBucket).length)*16≤140737488355328,(((t1907.1).f7)++((t1907.2.1).f7)).map eBucket=(((t1907.1).f7).map eBucket)++(((t1907.2.1).f7).map eBucket),∀ c∈(((t1907.2.1).f7).map eBucket),c.length=2,∀ c∈(((t1907.2.1).f7).map eBucket),leaves (c.map .im)=true,((((t1907.1).f7).map eBucket).length+(((t1907.2.1).f7).map eBucket).length)*16≤140737488355328,Enters Try.prog 96,Pv.Fn Try.prog 96 [.agg (aHist ⟨(if a1.f0>a0.f0 then a1.f0 else a0.f0),(t1907.1).f1,(t1907.1).f2,t1912.1,0,t1903.1,[],[]⟩),.im (.row ((((t1907.1).f6)++((t1907.2.1).f6)).map eBucket)),.im (.row ((((t1907.1).f7)++((t1907.2.1).f7)).map eBucket))] [] 0 (fun r o=>r = .tup [.agg (aHist (t1925.1)),iV .i64 t1925.2]∧o=[])] (by kernel_rfl) ⟨by simp,by exact all_len _ _ _ (fun _=>rfl),by exact all_leaf _ _ (fun _=>rfl),by simpa using c1921,by simp,by exact all_len _ _ _ (fun _=>rfl),by exact all_leaf _ _ (fun _=>rfl),by simpa using c1922,by simp,by exact all_len _ _ _ (fun _=>rfl),by exact all_leaf _ _ (fun _=>rfl),by simpa using c1923,by simp,by exact all_len _ _ _ (fun _=>rfl),by exact all_leaf _ _ (fun _=>rfl),by simpa using c1924,by exact Try.call96,by exact f_hist_Make.ok (⟨(if a1.f0>a0.f0 then a1.f0 else a0.f0),(t1907.1).f1,(t1907.1).f2,t1912.1,0,t1903.1,[],[]⟩:THist) (((t1907.1).f6)++((t1907.2.1).f6)) (((t1907.1).f7)++((t1907.2.1).f7)) t1925 e1926,trivial⟩ ?_
   refine AWp.conv (inv:=[(2,0)]) (vk:=[]) (e0:=[]) (t:=⟨[(4,.ptr 0 0 0),(5,iV .i64 t1925.2)],[(0,some (.box 52 (aHist ((t1925.1)))))],0⟩) (by kernel_rfl) ?_
   refine AWp.ret ?_
   obtain rfl:=Option.some.inj H
   exact Exists.intro _ (And.intro (fun _ _ h=>h) (And.intro (.inl rfl) (And.intro rfl (And.intro (by kernel_rfl) (by kernel_rfl)))))
def f_meld_Rise.l0 (a0:List THist) (x443:Int):Option ((THist×Int) ⊕ Unit):=if(decide (x443<(a0.length:Int)))=true then((at? a0 x443)>>=fun b448=>if(b448.f0 != (0:Int))=true then(some (.inl ((⟨0,0,0,0,0,0,[],[]⟩:THist),25))) else(f_meld_Rise.l0 a0 (IntKind.i64.wrap (x443+(1:Int))))) else(some (.inr ()))
partial_fixpoint
def f_meld_Rise.l1 (a0:List THist) (v:Int×Int×Int×Int×Int×Int×(List TBucket)×(List TBucket)×Int):Option ((THist×Int) ⊕ (Int×Int×Int×Int×Int×Int×(List TBucket)×(List TBucket))):=match v with
 | (x1941,x1942,x1943,x1944,x1945,x1946,x1947,x1948,x1949)=>if(decide (x1949<(a0.length:Int)))=true then((at? a0 x1949)>>=fun b1959=>(at? a0 (IntKind.i64.wrap (x1949-(1:Int))))>>=fun b1962=>(f_meld_Sub.f b1959 b1962)>>=fun t1965=>((if(t1965.2==(21:Int))=true then((f_hist_Clone.f b1959)>>=fun t1970=>some ((t1970).f0,(t1970).f1,(t1970).f2,(t1970).f3,(t1970).f4,(t1970).f5,(t1970).f6,(t1970).f7,0)) else(some ((t1965.1).f0,(t1965.1).f1,(t1965.1).f2,(t1965.1).f3,(t1965.1).f4,(t1965.1).f5,(t1965.1).f6,(t1965.1).f7,t1965.2))):Option (Int×Int×Int×Int×Int×Int×(List TBucket)×(List TBucket)×Int))>>=fun oo=>match oo with | (x1972,x1973,x1974,x1975,x1976,x1977,x1978,x1979,x1980)=>(((if(x1980==(0:Int))=true then((f_meld_Add.f (⟨x1941,x1942,x1943,x1944,x1945,x1946,x1947,x1948⟩:THist) (⟨x1972,x1973,x1974,x1975,x1976,x1977,x1978,x1979⟩:THist))>>=fun t1984=>some ((t1984.1).f0,(t1984.1).f1,(t1984.1).f2,(t1984.1).f3,(t1984.1).f4,(t1984.1).f5,(t1984.1).f6,(t1984.1).f7,t1984.2)) else(some (x1941,x1942,x1943,x1944,x1945,x1946,x1947,x1948,x1980))):Option (Int×Int×Int×Int×Int×Int×(List TBucket)×(List TBucket)×Int))>>=fun oo=>match oo with | (x1986,x1987,x1988,x1989,x1990,x1991,x1992,x1993,x1994)=>(if(x1994 != (0:Int))=true then(some (.inl ((⟨0,0,0,0,0,0,[],[]⟩:THist),x1994))) else(f_meld_Rise.l1 a0 (x1986,x1987,x1988,x1989,x1990,x1991,x1992,x1993,IntKind.i64.wrap (x1949+(1:Int))))))) else(some (.inr (x1941,x1942,x1943,x1944,x1945,x1946,x1947,x1948)))
partial_fixpoint
def f_meld_Rise.f (a0:List THist):Option (THist×Int):=if(decide ((a0.length:Int)<(2:Int)))=true then(some ((⟨0,0,0,0,0,0,[],[]⟩:THist),30)) else((f_meld_Rise.l0 a0 0)>>=fun oo=>match oo with | .inl rr=>(some rr) | .inr _=>((at? a0 0)>>=fun b457=>(f_hist_Empty.f 0 b457.f1)>>=fun t460=>(f_meld_Rise.l1 a0 ((t460).f0,(t460).f1,(t460).f2,(t460).f3,(t460).f4,(t460).f5,(t460).f6,(t460).f7,1))>>=fun oo=>match oo with | .inl rr=>(some rr) | .inr (x1996,x1997,x1998,x1999,x2000,x2001,x2002,x2003)=>(some ((⟨x1996,x1997,x1998,x1999,x2000,x2001,x2002,x2003⟩:THist),0))))
theorem f_meld_Rise.ok (a0:List THist) (r:THist×Int) (H:f_meld_Rise.f a0=some r):Pv.Fn Try.prog 43 [.im (.row (a0.map eHist))] [] 0 (fun x o=>x = .tup [.agg (aHist (r.1)),iV .i64 r.2]∧o=[]):=by
 unfold f_meld_Rise.f at H
 refine Fn.bodyK [] Try.func43 rfl rfl (fun Γ hP hn => ?_)
 have hm:Try.prog.follows .mixedOrders=true:=by kernel_rfl
 replace hn:Γ.n=69:=hn
 refine AWp.seq ?_
 refine reg hP hn hm [(0,.k 0)] [0,2] [0] ⟨[(0,.im (.row (a0.map eHist))),(2,.ptr 0 0 0)],[(0,some (.box 52 [iV .i64 0,iV .i64 0,iV .i64 0,iV .u64 0,iV .u64 0,iV .i64 0,.none0,.none0]))],0⟩ [] (by kernel_rfl) trivial ?_
 refine AWp.seq ?_
 refine AWp.seq ?_
 refine reg hP hn hm [(1,.any (iV .i64 (a0.length:Int)))] [0,2,12] [0] ⟨[(0,.im (.row (a0.map eHist))),(2,.ptr 0 0 0),(12,bV (decide ((a0.length:Int)<(2:Int))))],[(0,some (.box 52 [iV .i64 0,iV .i64 0,iV .i64 0,iV .u64 0,iV .u64 0,iV .i64 0,.none0,.none0]))],0⟩ [((a0.map eHist).length:Int)=(a0.length:Int)] (by kernel_rfl) ⟨by rw[len_map],trivial⟩ ?_
 refine AWp.cond (decide ((a0.length:Int)<(2:Int))) rfl (fun c434 => ?_) (fun c434 => ?_)
 ·replace H:=(ifT c434).symm.trans H
  refine AWp.seq ?_
  refine reg hP hn hm [] [2,3] [0] ⟨[(2,.ptr 0 0 0),(3,iV .i64 30)],[(0,some (.box 52 [iV .i64 0,iV .i64 0,iV .i64 0,iV .u64 0,iV .u64 0,iV .i64 0,.none0,.none0]))],0⟩ [] (by kernel_rfl) trivial ?_
  refine AWp.conv (inv:=[(0,0)]) (vk:=[]) (e0:=[]) (t:=⟨[(2,.ptr 0 0 0),(3,iV .i64 30)],[(0,some (.box 52 (aHist ((⟨0,0,0,0,0,0,[],[]⟩:THist)))))],0⟩) (by kernel_rfl) ?_
  refine AWp.ret ?_
  obtain rfl:=Option.some.inj H
  exact Exists.intro _ (And.intro (fun _ _ h=>h) (And.intro (.inl rfl) (And.intro rfl (And.intro (by kernel_rfl) (by kernel_rfl)))))
 ·replace H:=(ifF c434).symm.trans H
  refine AWp.skip ?_
  refine AWp.seq ?_
  refine AWp.seq ?_
  refine reg hP hn hm [(1,.any (iV .i64 (a0.length:Int)))] [0,2,14,15,16] [0] ⟨[(0,.im (.row (a0.map eHist))),(2,.ptr 0 0 0),(14,.im (.row (a0.map eHist))),(15,iV .i64 (a0.length:Int)),(16,iV .i64 0)],[(0,some (.box 52 [iV .i64 0,iV .i64 0,iV .i64 0,iV .u64 0,iV .u64 0,iV .i64 0,.none0,.none0]))],0⟩ [((a0.map eHist).length:Int)=(a0.length:Int)] (by kernel_rfl) ⟨by rw[len_map],trivial⟩ ?_
  refine AWp.block ?_
  obtain⟨o2004,e2005,H⟩:=bind_of H
  refine AWp.loop (LWp.conv (inv:=[(0,2)]) (vk:=[]) (e0:=[]) (t:=⟨[(0,.im (.row (a0.map eHist))),(2,.ptr 2 0 0),(14,.im (.row (a0.map eHist))),(15,iV .i64 (a0.length:Int)),(16,iV .i64 0)],[(2,some (.box 52 [iV .i64 0,iV .i64 0,iV .i64 0,iV .u64 0,iV .u64 0,iV .i64 0,.none0,.none0]))],0⟩) (by kernel_rfl) ?_)
  refine LWp.mono (Q:=fun e s=>(match (generalizing:=false) o2004 with | .inl rr=>e = .ret∧s.floor=0∧resOf Try.prog Try.f43 s=some (.tup [.agg (aHist (rr.1)),iV .i64 rr.2])∧([]:List (Nat×Option MObj))=[] | .inr _=>e = .exit 0∧s=⟨[(0,.im (.row (a0.map eHist))),(2,.ptr 4 0 0)],[(4,some (.box 52 [iV .i64 0,iV .i64 0,iV .i64 0,iV .u64 0,iV .u64 0,iV .i64 0,.none0,.none0]))],0⟩)) (LWp.cv (withBody (fun body hbody => ?_))) ?_
  ·refine f_meld_Rise.l0.partial_correctness a0 (motive:=fun x443 o2004=>LWp Γ body (fun e s=>∃ t,Cv Γ s t∧(match (generalizing:=false) o2004 with | .inl rr=>e = .ret∧t.floor=0∧resOf Try.prog Try.f43 t=some (.tup [.agg (aHist (rr.1)),iV .i64 rr.2])∧([]:List (Nat×Option MObj))=[] | .inr _=>e = .exit 0∧t=⟨[(0,.im (.row (a0.map eHist))),(2,.ptr 4 0 0)],[(4,some (.box 52 [iV .i64 0,iV .i64 0,iV .i64 0,iV .u64 0,iV .u64 0,iV .i64 0,.none0,.none0]))],0⟩)) ⟨[(0,.im (.row (a0.map eHist))),(2,.ptr 2 0 0),(14,.im (.row (a0.map eHist))),(15,iV .i64 (a0.length:Int)),(16,iV .i64 x443)],[(2,some (.box 52 [iV .i64 0,iV .i64 0,iV .i64 0,iV .u64 0,iV .u64 0,iV .i64 0,.none0,.none0]))],0⟩) ?_ _ _ e2005
   clear H e2005 o2004;intro self ih x443 o2004 H
   subst hbody
   refine LWp.round ?_
   refine AWp.seq ?_
   refine reg hP hn hm [] [0,2,14,15,16,17] [2] ⟨[(0,.im (.row (a0.map eHist))),(2,.ptr 2 0 0),(14,.im (.row (a0.map eHist))),(15,iV .i64 (a0.length:Int)),(16,iV .i64 x443),(17,bV (decide (x443<(a0.length:Int))))],[(2,some (.box 52 [iV .i64 0,iV .i64 0,iV .i64 0,iV .u64 0,iV .u64 0,iV .i64 0,.none0,.none0]))],0⟩ [] (by kernel_rfl) trivial ?_
   refine AWp.seq ?_
   refine AWp.cond (decide (x443<(a0.length:Int))) rfl (fun c444 => ?_) (fun c444 => ?_)
   ·replace H:=(ifT c444).symm.trans H
    refine AWp.skip ?_
    refine AWp.seq ?_
    refine AWp.block ?_
    refine AWp.seq ?_
    obtain⟨b448,p449,q450,H⟩:=at_of H
    refine reg hP hn hm [(0,.c (eHist b448)),(2,.k 3)] [0,2,5,14,15,16] [2,3] ⟨[(0,.im (.row (a0.map eHist))),(2,.ptr 2 0 0),(5,.ptr 3 0 0),(14,.im (.row (a0.map eHist))),(15,iV .i64 (a0.length:Int)),(16,iV .i64 x443)],[(2,some (.box 52 [iV .i64 0,iV .i64 0,iV .i64 0,iV .u64 0,iV .u64 0,iV .i64 0,.none0,.none0])),(3,some (.box 52 (aHist b448)))],0⟩ [0≤x443,(a0.map eHist)[(Int.toNat (x443))]? = some (eHist b448)] (by kernel_rfl) ⟨by exact p449,by exact el_map eHist q450,trivial⟩ ?_
    refine AWp.seq ?_
    refine reg hP hn hm [] [0,2,14,15,16,22] [2] ⟨[(0,.im (.row (a0.map eHist))),(2,.ptr 2 0 0),(14,.im (.row (a0.map eHist))),(15,iV .i64 (a0.length:Int)),(16,iV .i64 x443),(22,bV (b448.f0 != (0:Int)))],[(2,some (.box 52 [iV .i64 0,iV .i64 0,iV .i64 0,iV .u64 0,iV .u64 0,iV .i64 0,.none0,.none0]))],0⟩ [] (by kernel_rfl) trivial ?_
    refine AWp.cond (b448.f0 != (0:Int)) rfl (fun c451 => ?_) (fun c451 => ?_)
    ·replace H:=(ifT c451).symm.trans H
     refine AWp.seq ?_
     refine reg hP hn hm [] [2,3] [2] ⟨[(2,.ptr 2 0 0),(3,iV .i64 25)],[(2,some (.box 52 [iV .i64 0,iV .i64 0,iV .i64 0,iV .u64 0,iV .u64 0,iV .i64 0,.none0,.none0]))],0⟩ [] (by kernel_rfl) trivial ?_
     refine AWp.conv (inv:=[(2,0)]) (vk:=[]) (e0:=[]) (t:=⟨[(2,.ptr 0 0 0),(3,iV .i64 25)],[(0,some (.box 52 (aHist ((⟨0,0,0,0,0,0,[],[]⟩:THist)))))],0⟩) (by kernel_rfl) ?_
     refine AWp.ret ?_
     obtain rfl:=Option.some.inj H
     exact Exists.intro _ (And.intro (fun _ _ h=>h) (And.intro rfl (And.intro rfl (And.intro (by kernel_rfl) (by kernel_rfl)))))
    ·replace H:=(ifF c451).symm.trans H
     refine AWp.skip ?_
     refine reg hP hn hm [] [0,2,14,15,16] [2] ⟨[(0,.im (.row (a0.map eHist))),(2,.ptr 2 0 0),(14,.im (.row (a0.map eHist))),(15,iV .i64 (a0.length:Int)),(16,iV .i64 (IntKind.i64.wrap (x443+(1:Int))))],[(2,some (.box 52 [iV .i64 0,iV .i64 0,iV .i64 0,iV .u64 0,iV .u64 0,iV .i64 0,.none0,.none0]))],0⟩ [] (by kernel_rfl) trivial ?_
     exact LWp.conv (inv:=[(2,2)]) (vk:=[]) (e0:=[]) (t:=⟨[(0,.im (.row (a0.map eHist))),(2,.ptr 2 0 0),(14,.im (.row (a0.map eHist))),(15,iV .i64 (a0.length:Int)),(16,iV .i64 (IntKind.i64.wrap (x443+(1:Int))))],[(2,some (.box 52 [iV .i64 0,iV .i64 0,iV .i64 0,iV .u64 0,iV .u64 0,iV .i64 0,.none0,.none0]))],0⟩) (by kernel_rfl) (ih _ _ H)
   ·replace H:=(ifF c444).symm.trans H
    refine AWp.exit ?_
    obtain rfl:=Option.some.inj H
    exact Exists.intro _ (And.intro (fun _ _ h=>h.conv (inv:=[(2,4)]) (vk:=[]) (e0:=[]) (t:=⟨[(0,.im (.row (a0.map eHist))),(2,.ptr 4 0 0)],[(4,some (.box 52 [iV .i64 0,iV .i64 0,iV .i64 0,iV .u64 0,iV .u64 0,iV .i64 0,.none0,.none0]))],0⟩) (by kernel_rfl)) (And.intro rfl rfl))
  ·rcases o2004 with rr | _
   ·skip
    rintro e s ⟨rfl,hfl,hres⟩
    obtain rfl:=Option.some.inj H
    exact Exists.intro _ (And.intro (fun _ _ h=>h) (And.intro (.inl rfl) (And.intro hfl hres)))
   ·skip
    rintro e s ⟨rfl,rfl⟩
    refine AWp.seq ?_
    obtain⟨b457,p458,q459,H⟩:=at_of H
    obtain⟨t460,e461,H⟩:=bind_of H
    refine reg hP hn hm [(1,.c (eHist b457)),(4,.call [] [] [] [] 0 (.agg (aHist (t460))) []),(5,.k 5)] [0,2,6] [4,5] ⟨[(0,.im (.row (a0.map eHist))),(2,.ptr 4 0 0),(6,.ptr 5 0 0)],[(4,some (.box 52 [iV .i64 0,iV .i64 0,iV .i64 0,iV .u64 0,iV .u64 0,iV .i64 0,.none0,.none0])),(5,some (.box 52 (aHist (t460))))],0⟩ [0≤(0:Int),(a0.map eHist)[(Int.toNat (0))]? = some (eHist b457),Enters Try.prog 62,Pv.Fn Try.prog 62 [iV .i64 0,iV .i64 b457.f1] [] 0 (fun r o=>r = .agg (aHist (t460))∧o=[])] (by kernel_rfl) ⟨by exact p458,by exact el_map eHist q459,by exact Try.call62,by exact f_hist_Empty.ok 0 b457.f1 t460 e461,trivial⟩ ?_
    refine AWp.seq ?_
    refine AWp.seq ?_
    refine reg hP hn hm [] [0,2,6,7] [4,5] ⟨[(0,.im (.row (a0.map eHist))),(2,.ptr 4 0 0),(6,.ptr 5 0 0),(7,iV .i64 1)],[(4,some (.box 52 [iV .i64 0,iV .i64 0,iV .i64 0,iV .u64 0,iV .u64 0,iV .i64 0,.none0,.none0])),(5,some (.box 52 (aHist (t460))))],0⟩ [] (by kernel_rfl) trivial ?_
    refine AWp.block ?_
    obtain⟨o2006,e2007,H⟩:=bind_of H
    refine AWp.loop (LWp.conv (inv:=[(4,14),(5,15)]) (vk:=[]) (e0:=[]) (t:=⟨[(0,.im (.row (a0.map eHist))),(2,.ptr 14 0 0),(6,.ptr 15 0 0),(7,iV .i64 1)],[(14,some (.box 52 [iV .i64 0,iV .i64 0,iV .i64 0,iV .u64 0,iV .u64 0,iV .i64 0,.none0,.none0])),(15,some (.box 52 (aHist (t460))))],0⟩) (by kernel_rfl) ?_)
    refine LWp.mono (Q:=fun e s=>(match (generalizing:=false) o2006 with | .inl rr=>e = .ret∧s.floor=0∧resOf Try.prog Try.f43 s=some (.tup [.agg (aHist (rr.1)),iV .i64 rr.2])∧([]:List (Nat×Option MObj))=[] | .inr (x1996,x1997,x1998,x1999,x2000,x2001,x2002,x2003)=>e = .exit 2∧s=⟨[(2,.ptr 24 0 0),(6,.ptr 25 0 0)],[(24,some (.box 52 [iV .i64 0,iV .i64 0,iV .i64 0,iV .u64 0,iV .u64 0,iV .i64 0,.none0,.none0])),(25,some (.box 52 (aHist ⟨x1996,x1997,x1998,x1999,x2000,x2001,x2002,x2003⟩)))],0⟩)) (LWp.cv (withBody (fun body hbody => ?_))) ?_
    ·refine f_meld_Rise.l1.partial_correctness a0 (motive:=fun v o2006=>(match (generalizing:=false) v with | (x1941,x1942,x1943,x1944,x1945,x1946,x1947,x1948,x1949)=>LWp Γ body (fun e s=>∃ t,Cv Γ s t∧(match (generalizing:=false) o2006 with | .inl rr=>e = .ret∧t.floor=0∧resOf Try.prog Try.f43 t=some (.tup [.agg (aHist (rr.1)),iV .i64 rr.2])∧([]:List (Nat×Option MObj))=[] | .inr (x1996,x1997,x1998,x1999,x2000,x2001,x2002,x2003)=>e = .exit 2∧t=⟨[(2,.ptr 24 0 0),(6,.ptr 25 0 0)],[(24,some (.box 52 [iV .i64 0,iV .i64 0,iV .i64 0,iV .u64 0,iV .u64 0,iV .i64 0,.none0,.none0])),(25,some (.box 52 (aHist ⟨x1996,x1997,x1998,x1999,x2000,x2001,x2002,x2003⟩)))],0⟩)) ⟨[(0,.im (.row (a0.map eHist))),(2,.ptr 14 0 0),(6,.ptr 15 0 0),(7,iV .i64 x1949)],[(14,some (.box 52 [iV .i64 0,iV .i64 0,iV .i64 0,iV .u64 0,iV .u64 0,iV .i64 0,.none0,.none0])),(15,some (.box 52 (aHist ⟨x1941,x1942,x1943,x1944,x1945,x1946,x1947,x1948⟩)))],0⟩)) ?_ _ _ e2007
     clear H e2007 o2006;intro self ih v o2006 H
     obtain⟨x1941,x1942,x1943,x1944,x1945,x1946,x1947,x1948,x1949⟩:=v
     dsimp only at H
     subst hbody
     refine LWp.round ?_
     refine AWp.seq ?_
     refine AWp.seq ?_
     refine reg hP hn hm [(2,.any (iV .i64 (a0.length:Int)))] [0,2,6,7,33] [14,15] ⟨[(0,.im (.row (a0.map eHist))),(2,.ptr 14 0 0),(6,.ptr 15 0 0),(7,iV .i64 x1949),(33,bV (decide (x1949<(a0.length:Int))))],[(14,some (.box 52 [iV .i64 0,iV .i64 0,iV .i64 0,iV .u64 0,iV .u64 0,iV .i64 0,.none0,.none0])),(15,some (.box 52 (aHist ⟨x1941,x1942,x1943,x1944,x1945,x1946,x1947,x1948⟩)))],0⟩ [((a0.map eHist).length:Int)=(a0.length:Int)] (by kernel_rfl) ⟨by rw[len_map],trivial⟩ ?_
     refine AWp.cond (decide (x1949<(a0.length:Int))) rfl (fun c1950 => ?_) (fun c1950 => ?_)
     ·replace H:=(ifT c1950).symm.trans H
      refine AWp.skip ?_
      refine AWp.seq ?_
      refine AWp.block ?_
      refine AWp.seq ?_
      obtain⟨b1959,p1960,q1961,H⟩:=at_of H
      obtain⟨b1962,p1963,q1964,H⟩:=at_of H
      obtain⟨t1965,e1966,H⟩:=bind_of H
      refine reg hP hn hm [(2,.c (eHist b1959)),(7,.c (eHist b1962)),(9,.call [] [] [] [] 0 (.tup [.agg (aHist (t1965.1)),iV .i64 t1965.2]) []),(13,.k 16)] [0,2,6,7,8,9] [14,15,16] ⟨[(0,.im (.row (a0.map eHist))),(2,.ptr 14 0 0),(6,.ptr 15 0 0),(7,iV .i64 x1949),(8,.ptr 16 0 0),(9,iV .i64 t1965.2)],[(14,some (.box 52 [iV .i64 0,iV .i64 0,iV .i64 0,iV .u64 0,iV .u64 0,iV .i64 0,.none0,.none0])),(15,some (.box 52 (aHist ⟨x1941,x1942,x1943,x1944,x1945,x1946,x1947,x1948⟩))),(16,some (.box 52 (aHist (t1965.1))))],0⟩ [0≤x1949,(a0.map eHist)[(Int.toNat (x1949))]? = some (eHist b1959),0≤(IntKind.i64.wrap (x1949-(1:Int))),(a0.map eHist)[(Int.toNat (IntKind.i64.wrap (x1949-(1:Int))))]? = some (eHist b1962),Enters Try.prog 63,Pv.Fn Try.prog 63 [.agg (aHist b1959),.agg (aHist b1962)] [] 0 (fun r o=>r = .tup [.agg (aHist (t1965.1)),iV .i64 t1965.2]∧o=[])] (by kernel_rfl) ⟨by exact p1960,by exact el_map eHist q1961,by exact p1963,by exact el_map eHist q1964,by exact Try.call63,by exact f_meld_Sub.ok b1959 b1962 t1965 e1966,trivial⟩ ?_
      refine AWp.seq ?_
      refine AWp.seq ?_
      refine reg hP hn hm [] [0,2,6,7,8,9,50] [14,15,16] ⟨[(0,.im (.row (a0.map eHist))),(2,.ptr 14 0 0),(6,.ptr 15 0 0),(7,iV .i64 x1949),(8,.ptr 16 0 0),(9,iV .i64 t1965.2),(50,bV (t1965.2==(21:Int)))],[(14,some (.box 52 [iV .i64 0,iV .i64 0,iV .i64 0,iV .u64 0,iV .u64 0,iV .i64 0,.none0,.none0])),(15,some (.box 52 (aHist ⟨x1941,x1942,x1943,x1944,x1945,x1946,x1947,x1948⟩))),(16,some (.box 52 (aHist (t1965.1))))],0⟩ [] (by kernel_rfl) trivial ?_
      obtain⟨o2008,e2009,H⟩:=bind_of H
      refine AWp.mono (Q:=fun e s=>(match (generalizing:=false) o2008 with | (x1972,x1973,x1974,x1975,x1976,x1977,x1978,x1979,x1980)=>e = .normal∧s=⟨[(0,.im (.row (a0.map eHist))),(2,.ptr 19 0 0),(6,.ptr 20 0 0),(7,iV .i64 x1949),(8,.ptr 21 0 0),(9,iV .i64 x1980)],[(19,some (.box 52 [iV .i64 0,iV .i64 0,iV .i64 0,iV .u64 0,iV .u64 0,iV .i64 0,.none0,.none0])),(20,some (.box 52 (aHist ⟨x1941,x1942,x1943,x1944,x1945,x1946,x1947,x1948⟩))),(21,some (.box 52 (aHist ⟨x1972,x1973,x1974,x1975,x1976,x1977,x1978,x1979⟩)))],0⟩)) (AWp.cv ?_) ?_
      ·replace H:=e2009;clear e2009
       refine AWp.cond (t1965.2==(21:Int)) rfl (fun c1967 => ?_) (fun c1967 => ?_)
       ·replace H:=(ifT c1967).symm.trans H
        obtain⟨t1970,e1971,H⟩:=bind_of H
        refine reg hP hn hm [(2,.c (eHist b1959)),(4,.call [] [(0,17),(1,18)] [] [17,18] 0 (.agg [iV .i64 ((t1970).f0),iV .i64 ((t1970).f1),iV .i64 ((t1970).f2),iV .u64 ((t1970).f3),iV .u64 ((t1970).f4),iV .i64 ((t1970).f5),.own 0,.own 1]) [(0,some (.row 2 116 (((t1970).f6).map eBucket))),(1,some (.row 2 116 (((t1970).f7).map eBucket)))])] [0,2,6,7,8,9] [14,15,16,17,18] ⟨[(0,.im (.row (a0.map eHist))),(2,.ptr 14 0 0),(6,.ptr 15 0 0),(7,iV .i64 x1949),(8,.ptr 16 0 0),(9,iV .i64 0)],[(14,some (.box 52 [iV .i64 0,iV .i64 0,iV .i64 0,iV .u64 0,iV .u64 0,iV .i64 0,.none0,.none0])),(15,some (.box 52 (aHist ⟨x1941,x1942,x1943,x1944,x1945,x1946,x1947,x1948⟩))),(16,some (.box 52 [iV .i64 ((t1970).f0),iV .i64 ((t1970).f1),iV .i64 ((t1970).f2),iV .u64 ((t1970).f3),iV .u64 ((t1970).f4),iV .i64 ((t1970).f5),.own 17,.own 18])),(17,some (.row 2 116 (((t1970).f6).map eBucket))),(18,some (.row 2 116 (((t1970).f7).map eBucket)))],0⟩ [0≤x1949,(a0.map eHist)[(Int.toNat (x1949))]? = some (eHist b1959),Enters Try.prog 44,Pv.Fn Try.prog 44 [.agg (aHist b1959)] [] 0 (fun r o=>r = .agg [iV .i64 ((t1970).f0),iV .i64 ((t1970).f1),iV .i64 ((t1970).f2),iV .u64 ((t1970).f3),iV .u64 ((t1970).f4),iV .i64 ((t1970).f5),.own 0,.own 1]∧o=[(0,some (.row 2 116 (((t1970).f6).map eBucket))),(1,some (.row 2 116 (((t1970).f7).map eBucket)))])] (by kernel_rfl) ⟨by exact p1960,by exact el_map eHist q1961,by exact Try.call44,by exact f_hist_Clone.ok b1959 t1970 e1971,trivial⟩ ?_
        obtain rfl:=Option.some.inj H
        exact Exists.intro _ (And.intro (fun _ _ h=>h.conv (inv:=[(14,19),(15,20),(16,21)]) (vk:=[17,18]) (e0:=[]) (t:=⟨[(0,.im (.row (a0.map eHist))),(2,.ptr 19 0 0),(6,.ptr 20 0 0),(7,iV .i64 x1949),(8,.ptr 21 0 0),(9,iV .i64 0)],[(19,some (.box 52 [iV .i64 0,iV .i64 0,iV .i64 0,iV .u64 0,iV .u64 0,iV .i64 0,.none0,.none0])),(20,some (.box 52 (aHist ⟨x1941,x1942,x1943,x1944,x1945,x1946,x1947,x1948⟩))),(21,some (.box 52 (aHist (t1970))))],0⟩) (by kernel_rfl)) (And.intro rfl rfl))
       ·replace H:=(ifF c1967).symm.trans H
        refine AWp.skip ?_
        obtain rfl:=Option.some.inj H
        exact Exists.intro _ (And.intro (fun _ _ h=>h.conv (inv:=[(14,19),(15,20),(16,21)]) (vk:=[]) (e0:=[]) (t:=⟨[(0,.im (.row (a0.map eHist))),(2,.ptr 19 0 0),(6,.ptr 20 0 0),(7,iV .i64 x1949),(8,.ptr 21 0 0),(9,iV .i64 t1965.2)],[(19,some (.box 52 [iV .i64 0,iV .i64 0,iV .i64 0,iV .u64 0,iV .u64 0,iV .i64 0,.none0,.none0])),(20,some (.box 52 (aHist ⟨x1941,x1942,x1943,x1944,x1945,x1946,x1947,x1948⟩))),(21,some (.box 52 (aHist (t1965.1))))],0⟩) (by kernel_rfl)) (And.intro rfl rfl))
      ·obtain⟨x1972,x1973,x1974,x1975,x1976,x1977,x1978,x1979,x1980⟩:=o2008
       rintro e s ⟨rfl,rfl⟩
       refine AWp.seq ?_
       refine AWp.seq ?_
       refine reg hP hn hm [] [0,2,6,7,8,9,57] [19,20,21] ⟨[(0,.im (.row (a0.map eHist))),(2,.ptr 19 0 0),(6,.ptr 20 0 0),(7,iV .i64 x1949),(8,.ptr 21 0 0),(9,iV .i64 x1980),(57,bV (x1980==(0:Int)))],[(19,some (.box 52 [iV .i64 0,iV .i64 0,iV .i64 0,iV .u64 0,iV .u64 0,iV .i64 0,.none0,.none0])),(20,some (.box 52 (aHist ⟨x1941,x1942,x1943,x1944,x1945,x1946,x1947,x1948⟩))),(21,some (.box 52 (aHist ⟨x1972,x1973,x1974,x1975,x1976,x1977,x1978,x1979⟩)))],0⟩ [] (by kernel_rfl) trivial ?_
       obtain⟨o2010,e2011,H⟩:=bind_of H
       refine AWp.mono (Q:=fun e s=>(match (generalizing:=false) o2010 with | (x1986,x1987,x1988,x1989,x1990,x1991,x1992,x1993,x1994)=>e = .normal∧s=⟨[(0,.im (.row (a0.map eHist))),(2,.ptr 22 0 0),(6,.ptr 23 0 0),(7,iV .i64 x1949),(9,iV .i64 x1994)],[(22,some (.box 52 [iV .i64 0,iV .i64 0,iV .i64 0,iV .u64 0,iV .u64 0,iV .i64 0,.none0,.none0])),(23,some (.box 52 (aHist ⟨x1986,x1987,x1988,x1989,x1990,x1991,x1992,x1993⟩)))],0⟩)) (AWp.cv ?_) ?_
       ·replace H:=e2011;clear e2011
        refine AWp.cond (x1980==(0:Int)) rfl (fun c1981 => ?_) (fun c1981 => ?_)
        ·replace H:=(ifT c1981).symm.trans H
         obtain⟨t1984,e1985,H⟩:=bind_of H
         refine reg hP hn hm [(2,.call [] [] [] [] 0 (.tup [.agg (aHist (t1984.1)),iV .i64 t1984.2]) [])] [0,2,6,7,9] [19,20] ⟨[(0,.im (.row (a0.map eHist))),(2,.ptr 19 0 0),(6,.ptr 20 0 0),(7,iV .i64 x1949),(9,iV .i64 t1984.2)],[(19,some (.box 52 [iV .i64 0,iV .i64 0,iV .i64 0,iV .u64 0,iV .u64 0,iV .i64 0,.none0,.none0])),(20,some (.box 52 (aHist (t1984.1))))],0⟩ [Enters Try.prog 64,Pv.Fn Try.prog 64 [.agg (aHist ⟨x1941,x1942,x1943,x1944,x1945,x1946,x1947,x1948⟩),.agg (aHist ⟨x1972,x1973,x1974,x1975,x1976,x1977,x1978,x1979⟩)] [] 0 (fun r o=>r = .tup [.agg (aHist (t1984.1)),iV .i64 t1984.2]∧o=[])] (by kernel_rfl) ⟨by exact Try.call64,by exact f_meld_Add.ok (⟨x1941,x1942,x1943,x1944,x1945,x1946,x1947,x1948⟩:THist) (⟨x1972,x1973,x1974,x1975,x1976,x1977,x1978,x1979⟩:THist) t1984 e1985,trivial⟩ ?_
         obtain rfl:=Option.some.inj H
         exact Exists.intro _ (And.intro (fun _ _ h=>h.conv (inv:=[(19,22),(20,23)]) (vk:=[]) (e0:=[]) (t:=⟨[(0,.im (.row (a0.map eHist))),(2,.ptr 22 0 0),(6,.ptr 23 0 0),(7,iV .i64 x1949),(9,iV .i64 t1984.2)],[(22,some (.box 52 [iV .i64 0,iV .i64 0,iV .i64 0,iV .u64 0,iV .u64 0,iV .i64 0,.none0,.none0])),(23,some (.box 52 (aHist (t1984.1))))],0⟩) (by kernel_rfl)) (And.intro rfl rfl))
        ·replace H:=(ifF c1981).symm.trans H
         refine AWp.skip ?_
         obtain rfl:=Option.some.inj H
         exact Exists.intro _ (And.intro (fun _ _ h=>h.conv (inv:=[(19,22),(20,23)]) (vk:=[]) (e0:=[]) (t:=⟨[(0,.im (.row (a0.map eHist))),(2,.ptr 22 0 0),(6,.ptr 23 0 0),(7,iV .i64 x1949),(9,iV .i64 x1980)],[(22,some (.box 52 [iV .i64 0,iV .i64 0,iV .i64 0,iV .u64 0,iV .u64 0,iV .i64 0,.none0,.none0])),(23,some (.box 52 (aHist ⟨x1941,x1942,x1943,x1944,x1945,x1946,x1947,x1948⟩)))],0⟩) (by kernel_rfl)) (And.intro rfl rfl))
       ·obtain⟨x1986,x1987,x1988,x1989,x1990,x1991,x1992,x1993,x1994⟩:=o2010
        rintro e s ⟨rfl,rfl⟩
        refine AWp.seq ?_
        refine reg hP hn hm [] [0,2,6,7,9,65] [22,23] ⟨[(0,.im (.row (a0.map eHist))),(2,.ptr 22 0 0),(6,.ptr 23 0 0),(7,iV .i64 x1949),(9,iV .i64 x1994),(65,bV (x1994 != (0:Int)))],[(22,some (.box 52 [iV .i64 0,iV .i64 0,iV .i64 0,iV .u64 0,iV .u64 0,iV .i64 0,.none0,.none0])),(23,some (.box 52 (aHist ⟨x1986,x1987,x1988,x1989,x1990,x1991,x1992,x1993⟩)))],0⟩ [] (by kernel_rfl) trivial ?_
        refine AWp.cond (x1994 != (0:Int)) rfl (fun c1995 => ?_) (fun c1995 => ?_)
        ·replace H:=(ifT c1995).symm.trans H
         refine AWp.seq ?_
         refine reg hP hn hm [] [2,3] [22] ⟨[(2,.ptr 22 0 0),(3,iV .i64 x1994)],[(22,some (.box 52 [iV .i64 0,iV .i64 0,iV .i64 0,iV .u64 0,iV .u64 0,iV .i64 0,.none0,.none0]))],0⟩ [] (by kernel_rfl) trivial ?_
         refine AWp.conv (inv:=[(22,0)]) (vk:=[]) (e0:=[]) (t:=⟨[(2,.ptr 0 0 0),(3,iV .i64 x1994)],[(0,some (.box 52 (aHist ((⟨0,0,0,0,0,0,[],[]⟩:THist)))))],0⟩) (by kernel_rfl) ?_
         refine AWp.ret ?_
         obtain rfl:=Option.some.inj H
         exact Exists.intro _ (And.intro (fun _ _ h=>h) (And.intro rfl (And.intro rfl (And.intro (by kernel_rfl) (by kernel_rfl)))))
        ·replace H:=(ifF c1995).symm.trans H
         refine AWp.skip ?_
         refine reg hP hn hm [] [0,2,6,7] [22,23] ⟨[(0,.im (.row (a0.map eHist))),(2,.ptr 22 0 0),(6,.ptr 23 0 0),(7,iV .i64 (IntKind.i64.wrap (x1949+(1:Int))))],[(22,some (.box 52 [iV .i64 0,iV .i64 0,iV .i64 0,iV .u64 0,iV .u64 0,iV .i64 0,.none0,.none0])),(23,some (.box 52 (aHist ⟨x1986,x1987,x1988,x1989,x1990,x1991,x1992,x1993⟩)))],0⟩ [] (by kernel_rfl) trivial ?_
         exact LWp.conv (inv:=[(22,14),(23,15)]) (vk:=[]) (e0:=[]) (t:=⟨[(0,.im (.row (a0.map eHist))),(2,.ptr 14 0 0),(6,.ptr 15 0 0),(7,iV .i64 (IntKind.i64.wrap (x1949+(1:Int))))],[(14,some (.box 52 [iV .i64 0,iV .i64 0,iV .i64 0,iV .u64 0,iV .u64 0,iV .i64 0,.none0,.none0])),(15,some (.box 52 (aHist ⟨x1986,x1987,x1988,x1989,x1990,x1991,x1992,x1993⟩)))],0⟩) (by kernel_rfl) (ih _ _ H)
     ·replace H:=(ifF c1950).symm.trans H
      refine AWp.exit ?_
      obtain rfl:=Option.some.inj H
      exact Exists.intro _ (And.intro (fun _ _ h=>h.conv (inv:=[(14,24),(15,25)]) (vk:=[]) (e0:=[]) (t:=⟨[(2,.ptr 24 0 0),(6,.ptr 25 0 0)],[(24,some (.box 52 [iV .i64 0,iV .i64 0,iV .i64 0,iV .u64 0,iV .u64 0,iV .i64 0,.none0,.none0])),(25,some (.box 52 (aHist ⟨x1941,x1942,x1943,x1944,x1945,x1946,x1947,x1948⟩)))],0⟩) (by kernel_rfl)) (And.intro rfl rfl))
    ·rcases o2006 with rr | ⟨x1996,x1997,x1998,x1999,x2000,x2001,x2002,x2003⟩
     ·skip
      rintro e s ⟨rfl,hfl,hres⟩
      obtain rfl:=Option.some.inj H
      exact Exists.intro _ (And.intro (fun _ _ h=>h) (And.intro (.inl rfl) (And.intro hfl hres)))
     ·skip
      rintro e s ⟨rfl,rfl⟩
      refine AWp.seq ?_
      refine reg hP hn hm [] [2,3] [24] ⟨[(2,.ptr 24 0 0),(3,iV .i64 0)],[(24,some (.box 52 (aHist ⟨x1996,x1997,x1998,x1999,x2000,x2001,x2002,x2003⟩)))],0⟩ [] (by kernel_rfl) trivial ?_
      refine AWp.conv (inv:=[(24,0)]) (vk:=[]) (e0:=[]) (t:=⟨[(2,.ptr 0 0 0),(3,iV .i64 0)],[(0,some (.box 52 (aHist ((⟨x1996,x1997,x1998,x1999,x2000,x2001,x2002,x2003⟩:THist)))))],0⟩) (by kernel_rfl) ?_
      refine AWp.ret ?_
      obtain rfl:=Option.some.inj H
      exact Exists.intro _ (And.intro (fun _ _ h=>h) (And.intro (.inl rfl) (And.intro rfl (And.intro (by kernel_rfl) (by kernel_rfl)))))
def f_eval_Of.l0 (t410:List TSample) (x422:List THist) (x423:Int):Option (List THist):=if(decide (x423<(t410.length:Int)))=true then((at? t410 x423)>>=fun b428=>(chk ((x422.length+[b428.f1].length)*96≤140737488355328))>>=fun _=>f_eval_Of.l0 t410 (x422++[b428.f1]) (IntKind.i64.wrap (x423+(1:Int)))) else(some x422)
partial_fixpoint
def f_eval_Of.f (a0:Teval_Ask) (a1:List TSample):Option (THist×Int):=(f_eval_Window.f a1 a0.f4 a0.f5)>>=fun t410=>if(a0.f0==(5:Int))=true then((f_eval_Of.l0 t410 [] 0)>>=fun x433=>(f_meld_Rise.f x433)>>=fun t2016=>some ((t2016.1),t2016.2)) else(if((t410.length:Int)==(0:Int))=true then(some ((⟨0,0,0,0,0,0,[],[]⟩:THist),30)) else((at? t410 (IntKind.i64.wrap ((t410.length:Int)-(1:Int))))>>=fun b2024=>(f_hist_Clone.f b2024.f1)>>=fun t2027=>some ((t2027),0)))
theorem f_eval_Of.ok (a0:Teval_Ask) (a1:List TSample) (r:THist×Int) (H:f_eval_Of.f a0 a1=some r):Pv.Fn Try.prog 31 [.agg (apluvialref19_Ask ⟨a0.f0,a0.f1,a0.f2,a0.f3.f0,a0.f3.f1,a0.f4,a0.f5⟩),.im (.row (a1.map eSample))] [] 0 (fun x o=>x = .tup [.agg (aHist (r.1)),iV .i64 r.2]∧o=[]):=by
 unfold f_eval_Of.f at H
 refine Fn.bodyK [] Try.func31 rfl rfl (fun Γ hP hn => ?_)
 have hm:Try.prog.follows .mixedOrders=true:=by kernel_rfl
 replace hn:Γ.n=46:=hn
 refine AWp.seq ?_
 refine reg hP hn hm [(0,.k 0),(1,.k 1)] [1,2,4] [0,1] ⟨[(1,.im (.row (a1.map eSample))),(2,.ptr 0 0 0),(4,.ptr 1 0 0)],[(0,some (.box 62 [iV .i64 a0.f0,iV .u64 a0.f1,iV .u64 a0.f2,iV .i64 a0.f3.f0,iV .i64 a0.f3.f1,iV .i64 a0.f4,iV .i64 a0.f5])),(1,some (.box 52 [iV .i64 0,iV .i64 0,iV .i64 0,iV .u64 0,iV .u64 0,iV .i64 0,.none0,.none0]))],0⟩ [] (by kernel_rfl) trivial ?_
 refine AWp.seq ?_
 obtain⟨t410,e411,H⟩:=bind_of H
 refine reg hP hn hm [(5,.call [] [(0,2)] [] [2] 0 (.own 0) [(0,some (.row 9 54 (t410.map eSample)))])] [1,2,4] [0,1,2] ⟨[(1,.own 2),(2,.ptr 0 0 0),(4,.ptr 1 0 0)],[(0,some (.box 62 [iV .i64 a0.f0,iV .u64 a0.f1,iV .u64 a0.f2,iV .i64 a0.f3.f0,iV .i64 a0.f3.f1,iV .i64 a0.f4,iV .i64 a0.f5])),(1,some (.box 52 [iV .i64 0,iV .i64 0,iV .i64 0,iV .u64 0,iV .u64 0,iV .i64 0,.none0,.none0])),(2,some (.row 9 54 (t410.map eSample)))],0⟩ [Enters Try.prog 42,Pv.Fn Try.prog 42 [.im (.row (a1.map eSample)),iV .i64 a0.f4,iV .i64 a0.f5] [] 0 (fun r o=>r = .own 0∧o=[(0,some (.row 9 54 (t410.map eSample)))])] (by kernel_rfl) ⟨by exact Try.call42,by exact f_eval_Window.ok a1 a0.f4 a0.f5 t410 e411,trivial⟩ ?_
 refine AWp.seq ?_
 refine AWp.seq ?_
 refine reg hP hn hm [] [1,4,17] [1,2] ⟨[(1,.own 2),(4,.ptr 1 0 0),(17,bV (a0.f0==(5:Int)))],[(1,some (.box 52 [iV .i64 0,iV .i64 0,iV .i64 0,iV .u64 0,iV .u64 0,iV .i64 0,.none0,.none0])),(2,some (.row 9 54 (t410.map eSample)))],0⟩ [] (by kernel_rfl) trivial ?_
 refine AWp.cond (a0.f0==(5:Int)) rfl (fun c412 => ?_) (fun c412 => ?_)
 ·replace H:=(ifT c412).symm.trans H
  refine AWp.seq ?_
  refine reg hP hn hm [] [1,4,6] [1,2] ⟨[(1,.own 2),(4,.ptr 1 0 0),(6,.none0)],[(1,some (.box 52 [iV .i64 0,iV .i64 0,iV .i64 0,iV .u64 0,iV .u64 0,iV .i64 0,.none0,.none0])),(2,some (.row 9 54 (t410.map eSample)))],0⟩ [] (by kernel_rfl) trivial ?_
  refine AWp.seq ?_
  refine AWp.seq ?_
  refine reg hP hn hm [(1,.any (iV .i64 (t410.length:Int)))] [4,6,18,19,20] [1,2] ⟨[(4,.ptr 1 0 0),(6,.none0),(18,.own 2),(19,iV .i64 (t410.length:Int)),(20,iV .i64 0)],[(1,some (.box 52 [iV .i64 0,iV .i64 0,iV .i64 0,iV .u64 0,iV .u64 0,iV .i64 0,.none0,.none0])),(2,some (.row 9 54 (t410.map eSample)))],0⟩ [((t410.map eSample).length:Int)=(t410.length:Int)] (by kernel_rfl) ⟨by rw[len_map],trivial⟩ ?_
  refine AWp.block ?_
  obtain⟨o2029,e2030,H⟩:=bind_of H
  refine AWp.loop (LWp.conv (inv:=[(1,6),(2,8)]) (vk:=[]) (e0:=[7]) (t:=⟨[(4,.ptr 6 0 0),(6,.own 7),(18,.own 8),(19,iV .i64 (t410.length:Int)),(20,iV .i64 0)],[(6,some (.box 52 [iV .i64 0,iV .i64 0,iV .i64 0,iV .u64 0,iV .u64 0,iV .i64 0,.none0,.none0])),(7,some (.row 8 52 ([].map eHist))),(8,some (.row 9 54 (t410.map eSample)))],0⟩) (by kernel_rfl) ?_)
  refine LWp.mono (Q:=fun e s=>(match (generalizing:=false) o2029 with | x433=>e = .exit 0∧s=⟨[(4,.ptr 12 0 0),(6,.own 13)],[(12,some (.box 52 [iV .i64 0,iV .i64 0,iV .i64 0,iV .u64 0,iV .u64 0,iV .i64 0,.none0,.none0])),(13,some (.row 8 52 (x433.map eHist)))],0⟩)) (LWp.cv (withBody (fun body hbody => ?_))) ?_
  ·refine f_eval_Of.l0.partial_correctness t410 (motive:=fun x422 x423 o2029=>LWp Γ body (fun e s=>∃ t,Cv Γ s t∧(match (generalizing:=false) o2029 with | x433=>e = .exit 0∧t=⟨[(4,.ptr 12 0 0),(6,.own 13)],[(12,some (.box 52 [iV .i64 0,iV .i64 0,iV .i64 0,iV .u64 0,iV .u64 0,iV .i64 0,.none0,.none0])),(13,some (.row 8 52 (x433.map eHist)))],0⟩)) ⟨[(4,.ptr 6 0 0),(6,.own 7),(18,.own 8),(19,iV .i64 (t410.length:Int)),(20,iV .i64 x423)],[(6,some (.box 52 [iV .i64 0,iV .i64 0,iV .i64 0,iV .u64 0,iV .u64 0,iV .i64 0,.none0,.none0])),(7,some (.row 8 52 (x422.map eHist))),(8,some (.row 9 54 (t410.map eSample)))],0⟩) ?_ _ _ _ e2030
   clear H e2030 o2029;intro self ih x422 x423 o2029 H
   subst hbody
   refine LWp.round ?_
   refine AWp.seq ?_
   refine reg hP hn hm [] [4,6,18,19,20,21] [6,7,8] ⟨[(4,.ptr 6 0 0),(6,.own 7),(18,.own 8),(19,iV .i64 (t410.length:Int)),(20,iV .i64 x423),(21,bV (decide (x423<(t410.length:Int))))],[(6,some (.box 52 [iV .i64 0,iV .i64 0,iV .i64 0,iV .u64 0,iV .u64 0,iV .i64 0,.none0,.none0])),(7,some (.row 8 52 (x422.map eHist))),(8,some (.row 9 54 (t410.map eSample)))],0⟩ [] (by kernel_rfl) trivial ?_
   refine AWp.seq ?_
   refine AWp.cond (decide (x423<(t410.length:Int))) rfl (fun c424 => ?_) (fun c424 => ?_)
   ·replace H:=(ifT c424).symm.trans H
    refine AWp.skip ?_
    refine AWp.seq ?_
    refine AWp.block ?_
    refine AWp.seq ?_
    obtain⟨b428,p429,q430,H⟩:=at_of H
    refine reg hP hn hm [(1,.c (eSample b428)),(2,.k 9)] [4,6,8,18,19,20] [6,7,8,9] ⟨[(4,.ptr 6 0 0),(6,.own 7),(8,.ptr 9 0 0),(18,.own 8),(19,iV .i64 (t410.length:Int)),(20,iV .i64 x423)],[(6,some (.box 52 [iV .i64 0,iV .i64 0,iV .i64 0,iV .u64 0,iV .u64 0,iV .i64 0,.none0,.none0])),(7,some (.row 8 52 (x422.map eHist))),(8,some (.row 9 54 (t410.map eSample))),(9,some (.box 54 [iV .i64 b428.f0,iV .i64 b428.f1.f0,iV .i64 b428.f1.f1,iV .i64 b428.f1.f2,iV .u64 b428.f1.f3,iV .u64 b428.f1.f4,iV .i64 b428.f1.f5,.im (.row (b428.f1.f6.map eBucket)),.im (.row (b428.f1.f7.map eBucket))]))],0⟩ [0≤x423,x423<(((t410.map eSample).length:Nat):Int),(t410.map eSample)[(Int.toNat (x423))]? = some (eSample b428)] (by kernel_rfl) ⟨by exact p429,by exact el_lt eSample p429 q430,by exact el_map eSample q430,trivial⟩ ?_
    obtain⟨c432,H⟩:=chk_of H
    refine reg hP hn hm [(3,.app 10 ([b428.f1].map eHist)),(4,.app 11 ((x422++[b428.f1]).map eHist))] [4,6,18,19,20] [6,8,11] ⟨[(4,.ptr 6 0 0),(6,.own 11),(18,.own 8),(19,iV .i64 (t410.length:Int)),(20,iV .i64 x423)],[(6,some (.box 52 [iV .i64 0,iV .i64 0,iV .i64 0,iV .u64 0,iV .u64 0,iV .i64 0,.none0,.none0])),(8,some (.row 9 54 (t410.map eSample))),(11,some (.row 8 52 ((x422++[b428.f1]).map eHist)))],0⟩ [[b428.f1].map eHist=[[iI .i64 b428.f1.f0,iI .i64 b428.f1.f1,iI .i64 b428.f1.f2,iI .u64 b428.f1.f3,iI .u64 b428.f1.f4,iI .i64 b428.f1.f5,.row (b428.f1.f6.map eBucket),.row (b428.f1.f7.map eBucket)]],(x422++[b428.f1]).map eHist=(x422.map eHist)++([b428.f1].map eHist),∀ c∈([b428.f1].map eHist),c.length=8,∀ c∈([b428.f1].map eHist),leaves (c.map .im)=true,((x422.map eHist).length+([b428.f1].map eHist).length)*96≤140737488355328] (by kernel_rfl) ⟨by exact rfl,by simp,by exact all_len _ _ _ (fun _=>rfl),by exact all_leaf _ _ (fun _=>rfl),by simpa using c432,trivial⟩ ?_
    refine reg hP hn hm [] [4,6,18,19,20] [6,8,11] ⟨[(4,.ptr 6 0 0),(6,.own 11),(18,.own 8),(19,iV .i64 (t410.length:Int)),(20,iV .i64 (IntKind.i64.wrap (x423+(1:Int))))],[(6,some (.box 52 [iV .i64 0,iV .i64 0,iV .i64 0,iV .u64 0,iV .u64 0,iV .i64 0,.none0,.none0])),(8,some (.row 9 54 (t410.map eSample))),(11,some (.row 8 52 ((x422++[b428.f1]).map eHist)))],0⟩ [] (by kernel_rfl) trivial ?_
    exact LWp.conv (inv:=[(6,6),(8,8),(11,7)]) (vk:=[]) (e0:=[]) (t:=⟨[(4,.ptr 6 0 0),(6,.own 7),(18,.own 8),(19,iV .i64 (t410.length:Int)),(20,iV .i64 (IntKind.i64.wrap (x423+(1:Int))))],[(6,some (.box 52 [iV .i64 0,iV .i64 0,iV .i64 0,iV .u64 0,iV .u64 0,iV .i64 0,.none0,.none0])),(7,some (.row 8 52 ((x422++[b428.f1]).map eHist))),(8,some (.row 9 54 (t410.map eSample)))],0⟩) (by kernel_rfl) (ih _ _ _ H)
   ·replace H:=(ifF c424).symm.trans H
    refine AWp.exit ?_
    obtain rfl:=Option.some.inj H
    exact Exists.intro _ (And.intro (fun _ _ h=>h.conv (inv:=[(6,12),(7,13)]) (vk:=[]) (e0:=[]) (t:=⟨[(4,.ptr 12 0 0),(6,.own 13)],[(12,some (.box 52 [iV .i64 0,iV .i64 0,iV .i64 0,iV .u64 0,iV .u64 0,iV .i64 0,.none0,.none0])),(13,some (.row 8 52 (x422.map eHist)))],0⟩) (by kernel_rfl)) (And.intro rfl rfl))
  ·obtain⟨x433,rfl⟩:∃ z,z=o2029:=⟨_,rfl⟩
   rintro e s ⟨rfl,rfl⟩
   refine AWp.seq ?_
   refine AWp.conv (inv:=[(12,12)]) (vk:=[13]) (e0:=[]) (t:=⟨[(4,.ptr 12 0 0),(6,.im (.row (x433.map eHist)))],[(12,some (.box 52 [iV .i64 0,iV .i64 0,iV .i64 0,iV .u64 0,iV .u64 0,iV .i64 0,.none0,.none0]))],0⟩) (by kernel_rfl) ?_
   obtain⟨t2016,e2017,H⟩:=bind_of H
   refine reg hP hn hm [(1,.call [] [] [] [] 0 (.tup [.agg (aHist (t2016.1)),iV .i64 t2016.2]) [])] [4,5] [12] ⟨[(4,.ptr 12 0 0),(5,iV .i64 t2016.2)],[(12,some (.box 52 (aHist (t2016.1))))],0⟩ [Enters Try.prog 43,Pv.Fn Try.prog 43 [.im (.row (x433.map eHist))] [] 0 (fun r o=>r = .tup [.agg (aHist (t2016.1)),iV .i64 t2016.2]∧o=[])] (by kernel_rfl) ⟨by exact Try.call43,by exact f_meld_Rise.ok x433 t2016 e2017,trivial⟩ ?_
   refine AWp.conv (inv:=[(12,0)]) (vk:=[]) (e0:=[]) (t:=⟨[(4,.ptr 0 0 0),(5,iV .i64 t2016.2)],[(0,some (.box 52 (aHist ((t2016.1)))))],0⟩) (by kernel_rfl) ?_
   refine AWp.ret ?_
   obtain rfl:=Option.some.inj H
   exact Exists.intro _ (And.intro (fun _ _ h=>h) (And.intro (.inl rfl) (And.intro rfl (And.intro (by kernel_rfl) (by kernel_rfl)))))
 ·replace H:=(ifF c412).symm.trans H
  refine AWp.skip ?_
  refine AWp.seq ?_
  refine AWp.seq ?_
  refine reg hP hn hm [(1,.any (iV .i64 (t410.length:Int)))] [1,4,36] [1,2] ⟨[(1,.own 2),(4,.ptr 1 0 0),(36,bV ((t410.length:Int)==(0:Int)))],[(1,some (.box 52 [iV .i64 0,iV .i64 0,iV .i64 0,iV .u64 0,iV .u64 0,iV .i64 0,.none0,.none0])),(2,some (.row 9 54 (t410.map eSample)))],0⟩ [((t410.map eSample).length:Int)=(t410.length:Int)] (by kernel_rfl) ⟨by rw[len_map],trivial⟩ ?_
  refine AWp.cond ((t410.length:Int)==(0:Int)) rfl (fun c2018 => ?_) (fun c2018 => ?_)
  ·replace H:=(ifT c2018).symm.trans H
   refine AWp.seq ?_
   refine reg hP hn hm [] [4,5] [1] ⟨[(4,.ptr 1 0 0),(5,iV .i64 30)],[(1,some (.box 52 [iV .i64 0,iV .i64 0,iV .i64 0,iV .u64 0,iV .u64 0,iV .i64 0,.none0,.none0]))],0⟩ [] (by kernel_rfl) trivial ?_
   refine AWp.conv (inv:=[(1,0)]) (vk:=[]) (e0:=[]) (t:=⟨[(4,.ptr 0 0 0),(5,iV .i64 30)],[(0,some (.box 52 (aHist ((⟨0,0,0,0,0,0,[],[]⟩:THist)))))],0⟩) (by kernel_rfl) ?_
   refine AWp.ret ?_
   obtain rfl:=Option.some.inj H
   exact Exists.intro _ (And.intro (fun _ _ h=>h) (And.intro (.inl rfl) (And.intro rfl (And.intro (by kernel_rfl) (by kernel_rfl)))))
  ·replace H:=(ifF c2018).symm.trans H
   refine AWp.skip ?_
   refine AWp.seq ?_
   obtain⟨b2024,p2025,q2026,H⟩:=at_of H
   obtain⟨t2027,e2028,H⟩:=bind_of H
   refine reg hP hn hm [(2,.any (iV .i64 (t410.length:Int))),(6,.c (eSample b2024)),(7,.call [] [(0,14),(1,15)] [] [14,15] 0 (.agg [iV .i64 ((t2027).f0),iV .i64 ((t2027).f1),iV .i64 ((t2027).f2),iV .u64 ((t2027).f3),iV .u64 ((t2027).f4),iV .i64 ((t2027).f5),.own 0,.own 1]) [(0,some (.row 2 116 (((t2027).f6).map eBucket))),(1,some (.row 2 116 (((t2027).f7).map eBucket)))])] [4,5] [1,14,15] ⟨[(4,.ptr 1 0 0),(5,iV .i64 0)],[(1,some (.box 52 [iV .i64 ((t2027).f0),iV .i64 ((t2027).f1),iV .i64 ((t2027).f2),iV .u64 ((t2027).f3),iV .u64 ((t2027).f4),iV .i64 ((t2027).f5),.own 14,.own 15])),(14,some (.row 2 116 (((t2027).f6).map eBucket))),(15,some (.row 2 116 (((t2027).f7).map eBucket)))],0⟩ [((t410.map eSample).length:Int)=(t410.length:Int),0≤(IntKind.i64.wrap ((t410.length:Int)-(1:Int))),IntKind.i64.wrap ((t410.length:Int)-(1:Int))<(((t410.map eSample).length:Nat):Int),(t410.map eSample)[(Int.toNat (IntKind.i64.wrap ((t410.length:Int)-(1:Int))))]? = some (eSample b2024),Enters Try.prog 44,Pv.Fn Try.prog 44 [.agg (aHist b2024.f1)] [] 0 (fun r o=>r = .agg [iV .i64 ((t2027).f0),iV .i64 ((t2027).f1),iV .i64 ((t2027).f2),iV .u64 ((t2027).f3),iV .u64 ((t2027).f4),iV .i64 ((t2027).f5),.own 0,.own 1]∧o=[(0,some (.row 2 116 (((t2027).f6).map eBucket))),(1,some (.row 2 116 (((t2027).f7).map eBucket)))])] (by kernel_rfl) ⟨by rw[len_map],by exact p2025,by exact el_lt eSample p2025 q2026,by exact el_map eSample q2026,by exact Try.call44,by exact f_hist_Clone.ok b2024.f1 t2027 e2028,trivial⟩ ?_
   refine AWp.conv (inv:=[(1,0)]) (vk:=[14,15]) (e0:=[]) (t:=⟨[(4,.ptr 0 0 0),(5,iV .i64 0)],[(0,some (.box 52 (aHist ((t2027)))))],0⟩) (by kernel_rfl) ?_
   refine AWp.ret ?_
   obtain rfl:=Option.some.inj H
   exact Exists.intro _ (And.intro (fun _ _ h=>h) (And.intro (.inl rfl) (And.intro rfl (And.intro (by kernel_rfl) (by kernel_rfl)))))
def f_bits_Mul64.f (a0:Int) (a1:Int):Option (Unit):=some ()
theorem f_bits_Mul64.ok (a0:Int) (a1:Int) (r:Unit) (H:f_bits_Mul64.f a0 a1=some r):Pv.Fn Try.prog 113 [iV .u64 a0,iV .u64 a1] [] 0 (fun x o=>x = .tup [iV .u64 (IntKind.u64.wrap ((IntKind.u64.wrap ((IntKind.u64.wrap ((Int.fdiv a0 4294967296)*(Int.fdiv a1 4294967296)))+(Int.fdiv (IntKind.u64.wrap ((IntKind.u64.wrap ((Int.fdiv a0 4294967296)*(IntKind.u64.wrap (((BitVec.toNat (BitVec.ofInt 64 a1 &&& BitVec.ofInt 64 (4294967295:Int)):Nat):Int)))))+(Int.fdiv (IntKind.u64.wrap ((IntKind.u64.wrap (((BitVec.toNat (BitVec.ofInt 64 a0 &&& BitVec.ofInt 64 (4294967295:Int)):Nat):Int)))*(IntKind.u64.wrap (((BitVec.toNat (BitVec.ofInt 64 a1 &&& BitVec.ofInt 64 (4294967295:Int)):Nat):Int))))) 4294967296))) 4294967296)))+(Int.fdiv (IntKind.u64.wrap ((IntKind.u64.wrap (((BitVec.toNat (BitVec.ofInt 64 (IntKind.u64.wrap ((IntKind.u64.wrap ((Int.fdiv a0 4294967296)*(IntKind.u64.wrap (((BitVec.toNat (BitVec.ofInt 64 a1 &&& BitVec.ofInt 64 (4294967295:Int)):Nat):Int)))))+(Int.fdiv (IntKind.u64.wrap ((IntKind.u64.wrap (((BitVec.toNat (BitVec.ofInt 64 a0 &&& BitVec.ofInt 64 (4294967295:Int)):Nat):Int)))*(IntKind.u64.wrap (((BitVec.toNat (BitVec.ofInt 64 a1 &&& BitVec.ofInt 64 (4294967295:Int)):Nat):Int))))) 4294967296))) &&& BitVec.ofInt 64 (4294967295:Int)):Nat):Int)))+(IntKind.u64.wrap ((IntKind.u64.wrap (((BitVec.toNat (BitVec.ofInt 64 a0 &&& BitVec.ofInt 64 (4294967295:Int)):Nat):Int)))*(Int.fdiv a1 4294967296))))) 4294967296))),iV .u64 (IntKind.u64.wrap (a0*a1))]∧o=[]):=by
 unfold f_bits_Mul64.f at H
 refine Fn.bodyK [] Try.func113 rfl rfl (fun Γ hP hn => ?_)
 have hm:Try.prog.follows .mixedOrders=true:=by kernel_rfl
 replace hn:Γ.n=51:=hn
 refine AWp.seq ?_
 refine reg hP hn hm [] [0,1] [] ⟨[(0,iV .u64 a0),(1,iV .u64 a1)],[],0⟩ [] (by kernel_rfl) trivial ?_
 refine AWp.seq ?_
 refine reg hP hn hm [] [0,1,6] [] ⟨[(0,iV .u64 a0),(1,iV .u64 a1),(6,iV .u64 (IntKind.u64.wrap (((BitVec.toNat (BitVec.ofInt 64 a0 &&& BitVec.ofInt 64 (4294967295:Int)):Nat):Int))))],[],0⟩ [] (by kernel_rfl) trivial ?_
 refine AWp.seq ?_
 refine reg hP hn hm [] [0,1,6,7] [] ⟨[(0,iV .u64 a0),(1,iV .u64 a1),(6,iV .u64 (IntKind.u64.wrap (((BitVec.toNat (BitVec.ofInt 64 a0 &&& BitVec.ofInt 64 (4294967295:Int)):Nat):Int)))),(7,iV .u64 (Int.fdiv a0 4294967296))],[],0⟩ [(0:Int)≤32] (by kernel_rfl) ⟨by decide,trivial⟩ ?_
 refine AWp.seq ?_
 refine reg hP hn hm [] [0,1,6,7,8] [] ⟨[(0,iV .u64 a0),(1,iV .u64 a1),(6,iV .u64 (IntKind.u64.wrap (((BitVec.toNat (BitVec.ofInt 64 a0 &&& BitVec.ofInt 64 (4294967295:Int)):Nat):Int)))),(7,iV .u64 (Int.fdiv a0 4294967296)),(8,iV .u64 (IntKind.u64.wrap (((BitVec.toNat (BitVec.ofInt 64 a1 &&& BitVec.ofInt 64 (4294967295:Int)):Nat):Int))))],[],0⟩ [] (by kernel_rfl) trivial ?_
 refine AWp.seq ?_
 refine reg hP hn hm [] [0,1,6,7,8,9] [] ⟨[(0,iV .u64 a0),(1,iV .u64 a1),(6,iV .u64 (IntKind.u64.wrap (((BitVec.toNat (BitVec.ofInt 64 a0 &&& BitVec.ofInt 64 (4294967295:Int)):Nat):Int)))),(7,iV .u64 (Int.fdiv a0 4294967296)),(8,iV .u64 (IntKind.u64.wrap (((BitVec.toNat (BitVec.ofInt 64 a1 &&& BitVec.ofInt 64 (4294967295:Int)):Nat):Int)))),(9,iV .u64 (Int.fdiv a1 4294967296))],[],0⟩ [(0:Int)≤32] (by kernel_rfl) ⟨by decide,trivial⟩ ?_
 refine AWp.seq ?_
 refine reg hP hn hm [] [0,1,6,7,8,9,10] [] ⟨[(0,iV .u64 a0),(1,iV .u64 a1),(6,iV .u64 (IntKind.u64.wrap (((BitVec.toNat (BitVec.ofInt 64 a0 &&& BitVec.ofInt 64 (4294967295:Int)):Nat):Int)))),(7,iV .u64 (Int.fdiv a0 4294967296)),(8,iV .u64 (IntKind.u64.wrap (((BitVec.toNat (BitVec.ofInt 64 a1 &&& BitVec.ofInt 64 (4294967295:Int)):Nat):Int)))),(9,iV .u64 (Int.fdiv a1 4294967296)),(10,iV .u64 (IntKind.u64.wrap ((IntKind.u64.wrap (((BitVec.toNat (BitVec.ofInt 64 a0 &&& BitVec.ofInt 64 (4294967295:Int)):Nat):Int)))*(IntKind.u64.wrap (((BitVec.toNat (BitVec.ofInt 64 a1 &&& BitVec.ofInt 64 (4294967295:Int)):Nat):Int))))))],[],0⟩ [] (by kernel_rfl) trivial ?_
 refine AWp.seq ?_
 refine reg hP hn hm [] [0,1,6,7,9,11] [] ⟨[(0,iV .u64 a0),(1,iV .u64 a1),(6,iV .u64 (IntKind.u64.wrap (((BitVec.toNat (BitVec.ofInt 64 a0 &&& BitVec.ofInt 64 (4294967295:Int)):Nat):Int)))),(7,iV .u64 (Int.fdiv a0 4294967296)),(9,iV .u64 (Int.fdiv a1 4294967296)),(11,iV .u64 (IntKind.u64.wrap ((IntKind.u64.wrap ((Int.fdiv a0 4294967296)*(IntKind.u64.wrap (((BitVec.toNat (BitVec.ofInt 64 a1 &&& BitVec.ofInt 64 (4294967295:Int)):Nat):Int)))))+(Int.fdiv (IntKind.u64.wrap ((IntKind.u64.wrap (((BitVec.toNat (BitVec.ofInt 64 a0 &&& BitVec.ofInt 64 (4294967295:Int)):Nat):Int)))*(IntKind.u64.wrap (((BitVec.toNat (BitVec.ofInt 64 a1 &&& BitVec.ofInt 64 (4294967295:Int)):Nat):Int))))) 4294967296))))],[],0⟩ [(0:Int)≤32] (by kernel_rfl) ⟨by decide,trivial⟩ ?_
 refine AWp.seq ?_
 refine reg hP hn hm [] [0,1,6,7,9,11,12] [] ⟨[(0,iV .u64 a0),(1,iV .u64 a1),(6,iV .u64 (IntKind.u64.wrap (((BitVec.toNat (BitVec.ofInt 64 a0 &&& BitVec.ofInt 64 (4294967295:Int)):Nat):Int)))),(7,iV .u64 (Int.fdiv a0 4294967296)),(9,iV .u64 (Int.fdiv a1 4294967296)),(11,iV .u64 (IntKind.u64.wrap ((IntKind.u64.wrap ((Int.fdiv a0 4294967296)*(IntKind.u64.wrap (((BitVec.toNat (BitVec.ofInt 64 a1 &&& BitVec.ofInt 64 (4294967295:Int)):Nat):Int)))))+(Int.fdiv (IntKind.u64.wrap ((IntKind.u64.wrap (((BitVec.toNat (BitVec.ofInt 64 a0 &&& BitVec.ofInt 64 (4294967295:Int)):Nat):Int)))*(IntKind.u64.wrap (((BitVec.toNat (BitVec.ofInt 64 a1 &&& BitVec.ofInt 64 (4294967295:Int)):Nat):Int))))) 4294967296)))),(12,iV .u64 (IntKind.u64.wrap (((BitVec.toNat (BitVec.ofInt 64 (IntKind.u64.wrap ((IntKind.u64.wrap ((Int.fdiv a0 4294967296)*(IntKind.u64.wrap (((BitVec.toNat (BitVec.ofInt 64 a1 &&& BitVec.ofInt 64 (4294967295:Int)):Nat):Int)))))+(Int.fdiv (IntKind.u64.wrap ((IntKind.u64.wrap (((BitVec.toNat (BitVec.ofInt 64 a0 &&& BitVec.ofInt 64 (4294967295:Int)):Nat):Int)))*(IntKind.u64.wrap (((BitVec.toNat (BitVec.ofInt 64 a1 &&& BitVec.ofInt 64 (4294967295:Int)):Nat):Int))))) 4294967296))) &&& BitVec.ofInt 64 (4294967295:Int)):Nat):Int))))],[],0⟩ [] (by kernel_rfl) trivial ?_
 refine AWp.seq ?_
 refine reg hP hn hm [] [0,1,6,7,9,12,13] [] ⟨[(0,iV .u64 a0),(1,iV .u64 a1),(6,iV .u64 (IntKind.u64.wrap (((BitVec.toNat (BitVec.ofInt 64 a0 &&& BitVec.ofInt 64 (4294967295:Int)):Nat):Int)))),(7,iV .u64 (Int.fdiv a0 4294967296)),(9,iV .u64 (Int.fdiv a1 4294967296)),(12,iV .u64 (IntKind.u64.wrap (((BitVec.toNat (BitVec.ofInt 64 (IntKind.u64.wrap ((IntKind.u64.wrap ((Int.fdiv a0 4294967296)*(IntKind.u64.wrap (((BitVec.toNat (BitVec.ofInt 64 a1 &&& BitVec.ofInt 64 (4294967295:Int)):Nat):Int)))))+(Int.fdiv (IntKind.u64.wrap ((IntKind.u64.wrap (((BitVec.toNat (BitVec.ofInt 64 a0 &&& BitVec.ofInt 64 (4294967295:Int)):Nat):Int)))*(IntKind.u64.wrap (((BitVec.toNat (BitVec.ofInt 64 a1 &&& BitVec.ofInt 64 (4294967295:Int)):Nat):Int))))) 4294967296))) &&& BitVec.ofInt 64 (4294967295:Int)):Nat):Int)))),(13,iV .u64 (Int.fdiv (IntKind.u64.wrap ((IntKind.u64.wrap ((Int.fdiv a0 4294967296)*(IntKind.u64.wrap (((BitVec.toNat (BitVec.ofInt 64 a1 &&& BitVec.ofInt 64 (4294967295:Int)):Nat):Int)))))+(Int.fdiv (IntKind.u64.wrap ((IntKind.u64.wrap (((BitVec.toNat (BitVec.ofInt 64 a0 &&& BitVec.ofInt 64 (4294967295:Int)):Nat):Int)))*(IntKind.u64.wrap (((BitVec.toNat (BitVec.ofInt 64 a1 &&& BitVec.ofInt 64 (4294967295:Int)):Nat):Int))))) 4294967296))) 4294967296))],[],0⟩ [(0:Int)≤32] (by kernel_rfl) ⟨by decide,trivial⟩ ?_
 refine AWp.seq ?_
 refine reg hP hn hm [] [0,1,7,9,12,13] [] ⟨[(0,iV .u64 a0),(1,iV .u64 a1),(7,iV .u64 (Int.fdiv a0 4294967296)),(9,iV .u64 (Int.fdiv a1 4294967296)),(12,iV .u64 (IntKind.u64.wrap ((IntKind.u64.wrap (((BitVec.toNat (BitVec.ofInt 64 (IntKind.u64.wrap ((IntKind.u64.wrap ((Int.fdiv a0 4294967296)*(IntKind.u64.wrap (((BitVec.toNat (BitVec.ofInt 64 a1 &&& BitVec.ofInt 64 (4294967295:Int)):Nat):Int)))))+(Int.fdiv (IntKind.u64.wrap ((IntKind.u64.wrap (((BitVec.toNat (BitVec.ofInt 64 a0 &&& BitVec.ofInt 64 (4294967295:Int)):Nat):Int)))*(IntKind.u64.wrap (((BitVec.toNat (BitVec.ofInt 64 a1 &&& BitVec.ofInt 64 (4294967295:Int)):Nat):Int))))) 4294967296))) &&& BitVec.ofInt 64 (4294967295:Int)):Nat):Int)))+(IntKind.u64.wrap ((IntKind.u64.wrap (((BitVec.toNat (BitVec.ofInt 64 a0 &&& BitVec.ofInt 64 (4294967295:Int)):Nat):Int)))*(Int.fdiv a1 4294967296)))))),(13,iV .u64 (Int.fdiv (IntKind.u64.wrap ((IntKind.u64.wrap ((Int.fdiv a0 4294967296)*(IntKind.u64.wrap (((BitVec.toNat (BitVec.ofInt 64 a1 &&& BitVec.ofInt 64 (4294967295:Int)):Nat):Int)))))+(Int.fdiv (IntKind.u64.wrap ((IntKind.u64.wrap (((BitVec.toNat (BitVec.ofInt 64 a0 &&& BitVec.ofInt 64 (4294967295:Int)):Nat):Int)))*(IntKind.u64.wrap (((BitVec.toNat (BitVec.ofInt 64 a1 &&& BitVec.ofInt 64 (4294967295:Int)):Nat):Int))))) 4294967296))) 4294967296))],[],0⟩ [] (by kernel_rfl) trivial ?_
 refine AWp.seq ?_
 refine reg hP hn hm [] [0,1,4] [] ⟨[(0,iV .u64 a0),(1,iV .u64 a1),(4,iV .u64 (IntKind.u64.wrap ((IntKind.u64.wrap ((IntKind.u64.wrap ((Int.fdiv a0 4294967296)*(Int.fdiv a1 4294967296)))+(Int.fdiv (IntKind.u64.wrap ((IntKind.u64.wrap ((Int.fdiv a0 4294967296)*(IntKind.u64.wrap (((BitVec.toNat (BitVec.ofInt 64 a1 &&& BitVec.ofInt 64 (4294967295:Int)):Nat):Int)))))+(Int.fdiv (IntKind.u64.wrap ((IntKind.u64.wrap (((BitVec.toNat (BitVec.ofInt 64 a0 &&& BitVec.ofInt 64 (4294967295:Int)):Nat):Int)))*(IntKind.u64.wrap (((BitVec.toNat (BitVec.ofInt 64 a1 &&& BitVec.ofInt 64 (4294967295:Int)):Nat):Int))))) 4294967296))) 4294967296)))+(Int.fdiv (IntKind.u64.wrap ((IntKind.u64.wrap (((BitVec.toNat (BitVec.ofInt 64 (IntKind.u64.wrap ((IntKind.u64.wrap ((Int.fdiv a0 4294967296)*(IntKind.u64.wrap (((BitVec.toNat (BitVec.ofInt 64 a1 &&& BitVec.ofInt 64 (4294967295:Int)):Nat):Int)))))+(Int.fdiv (IntKind.u64.wrap ((IntKind.u64.wrap (((BitVec.toNat (BitVec.ofInt 64 a0 &&& BitVec.ofInt 64 (4294967295:Int)):Nat):Int)))*(IntKind.u64.wrap (((BitVec.toNat (BitVec.ofInt 64 a1 &&& BitVec.ofInt 64 (4294967295:Int)):Nat):Int))))) 4294967296))) &&& BitVec.ofInt 64 (4294967295:Int)):Nat):Int)))+(IntKind.u64.wrap ((IntKind.u64.wrap (((BitVec.toNat (BitVec.ofInt 64 a0 &&& BitVec.ofInt 64 (4294967295:Int)):Nat):Int)))*(Int.fdiv a1 4294967296))))) 4294967296))))],[],0⟩ [(0:Int)≤32] (by kernel_rfl) ⟨by decide,trivial⟩ ?_
 refine AWp.seq ?_
 refine reg hP hn hm [] [4,5] [] ⟨[(4,iV .u64 (IntKind.u64.wrap ((IntKind.u64.wrap ((IntKind.u64.wrap ((Int.fdiv a0 4294967296)*(Int.fdiv a1 4294967296)))+(Int.fdiv (IntKind.u64.wrap ((IntKind.u64.wrap ((Int.fdiv a0 4294967296)*(IntKind.u64.wrap (((BitVec.toNat (BitVec.ofInt 64 a1 &&& BitVec.ofInt 64 (4294967295:Int)):Nat):Int)))))+(Int.fdiv (IntKind.u64.wrap ((IntKind.u64.wrap (((BitVec.toNat (BitVec.ofInt 64 a0 &&& BitVec.ofInt 64 (4294967295:Int)):Nat):Int)))*(IntKind.u64.wrap (((BitVec.toNat (BitVec.ofInt 64 a1 &&& BitVec.ofInt 64 (4294967295:Int)):Nat):Int))))) 4294967296))) 4294967296)))+(Int.fdiv (IntKind.u64.wrap ((IntKind.u64.wrap (((BitVec.toNat (BitVec.ofInt 64 (IntKind.u64.wrap ((IntKind.u64.wrap ((Int.fdiv a0 4294967296)*(IntKind.u64.wrap (((BitVec.toNat (BitVec.ofInt 64 a1 &&& BitVec.ofInt 64 (4294967295:Int)):Nat):Int)))))+(Int.fdiv (IntKind.u64.wrap ((IntKind.u64.wrap (((BitVec.toNat (BitVec.ofInt 64 a0 &&& BitVec.ofInt 64 (4294967295:Int)):Nat):Int)))*(IntKind.u64.wrap (((BitVec.toNat (BitVec.ofInt 64 a1 &&& BitVec.ofInt 64 (4294967295:Int)):Nat):Int))))) 4294967296))) &&& BitVec.ofInt 64 (4294967295:Int)):Nat):Int)))+(IntKind.u64.wrap ((IntKind.u64.wrap (((BitVec.toNat (BitVec.ofInt 64 a0 &&& BitVec.ofInt 64 (4294967295:Int)):Nat):Int)))*(Int.fdiv a1 4294967296))))) 4294967296)))),(5,iV .u64 (IntKind.u64.wrap (a0*a1)))],[],0⟩ [] (by kernel_rfl) trivial ?_
 refine AWp.conv (inv:=[]) (vk:=[]) (e0:=[]) (t:=⟨[(4,iV .u64 (IntKind.u64.wrap ((IntKind.u64.wrap ((IntKind.u64.wrap ((Int.fdiv a0 4294967296)*(Int.fdiv a1 4294967296)))+(Int.fdiv (IntKind.u64.wrap ((IntKind.u64.wrap ((Int.fdiv a0 4294967296)*(IntKind.u64.wrap (((BitVec.toNat (BitVec.ofInt 64 a1 &&& BitVec.ofInt 64 (4294967295:Int)):Nat):Int)))))+(Int.fdiv (IntKind.u64.wrap ((IntKind.u64.wrap (((BitVec.toNat (BitVec.ofInt 64 a0 &&& BitVec.ofInt 64 (4294967295:Int)):Nat):Int)))*(IntKind.u64.wrap (((BitVec.toNat (BitVec.ofInt 64 a1 &&& BitVec.ofInt 64 (4294967295:Int)):Nat):Int))))) 4294967296))) 4294967296)))+(Int.fdiv (IntKind.u64.wrap ((IntKind.u64.wrap (((BitVec.toNat (BitVec.ofInt 64 (IntKind.u64.wrap ((IntKind.u64.wrap ((Int.fdiv a0 4294967296)*(IntKind.u64.wrap (((BitVec.toNat (BitVec.ofInt 64 a1 &&& BitVec.ofInt 64 (4294967295:Int)):Nat):Int)))))+(Int.fdiv (IntKind.u64.wrap ((IntKind.u64.wrap (((BitVec.toNat (BitVec.ofInt 64 a0 &&& BitVec.ofInt 64 (4294967295:Int)):Nat):Int)))*(IntKind.u64.wrap (((BitVec.toNat (BitVec.ofInt 64 a1 &&& BitVec.ofInt 64 (4294967295:Int)):Nat):Int))))) 4294967296))) &&& BitVec.ofInt 64 (4294967295:Int)):Nat):Int)))+(IntKind.u64.wrap ((IntKind.u64.wrap (((BitVec.toNat (BitVec.ofInt 64 a0 &&& BitVec.ofInt 64 (4294967295:Int)):Nat):Int)))*(Int.fdiv a1 4294967296))))) 4294967296)))),(5,iV .u64 (IntKind.u64.wrap (a0*a1)))],[],0⟩) (by kernel_rfl) ?_
 refine AWp.ret ?_
 obtain rfl:=Option.some.inj H
 exact Exists.intro _ (And.intro (fun _ _ h=>h) (And.intro (.inl rfl) (And.intro rfl (And.intro (by kernel_rfl) (by kernel_rfl)))))
def f_num_Mul.f (a0:Int) (a1:Int):Option (Tnum_Wide):=(f_bits_Mul64.f a0 a1)>>=fun t2053=>some (⟨IntKind.u64.wrap ((IntKind.u64.wrap ((IntKind.u64.wrap ((Int.fdiv a0 4294967296)*(Int.fdiv a1 4294967296)))+(Int.fdiv (IntKind.u64.wrap ((IntKind.u64.wrap ((Int.fdiv a0 4294967296)*(IntKind.u64.wrap (((BitVec.toNat (BitVec.ofInt 64 a1 &&& BitVec.ofInt 64 (4294967295:Int)):Nat):Int)))))+(Int.fdiv (IntKind.u64.wrap ((IntKind.u64.wrap (((BitVec.toNat (BitVec.ofInt 64 a0 &&& BitVec.ofInt 64 (4294967295:Int)):Nat):Int)))*(IntKind.u64.wrap (((BitVec.toNat (BitVec.ofInt 64 a1 &&& BitVec.ofInt 64 (4294967295:Int)):Nat):Int))))) 4294967296))) 4294967296)))+(Int.fdiv (IntKind.u64.wrap ((IntKind.u64.wrap (((BitVec.toNat (BitVec.ofInt 64 (IntKind.u64.wrap ((IntKind.u64.wrap ((Int.fdiv a0 4294967296)*(IntKind.u64.wrap (((BitVec.toNat (BitVec.ofInt 64 a1 &&& BitVec.ofInt 64 (4294967295:Int)):Nat):Int)))))+(Int.fdiv (IntKind.u64.wrap ((IntKind.u64.wrap (((BitVec.toNat (BitVec.ofInt 64 a0 &&& BitVec.ofInt 64 (4294967295:Int)):Nat):Int)))*(IntKind.u64.wrap (((BitVec.toNat (BitVec.ofInt 64 a1 &&& BitVec.ofInt 64 (4294967295:Int)):Nat):Int))))) 4294967296))) &&& BitVec.ofInt 64 (4294967295:Int)):Nat):Int)))+(IntKind.u64.wrap ((IntKind.u64.wrap (((BitVec.toNat (BitVec.ofInt 64 a0 &&& BitVec.ofInt 64 (4294967295:Int)):Nat):Int)))*(Int.fdiv a1 4294967296))))) 4294967296)),IntKind.u64.wrap (a0*a1)⟩:Tnum_Wide)
theorem f_num_Mul.ok (a0:Int) (a1:Int) (r:Tnum_Wide) (H:f_num_Mul.f a0 a1=some r):Pv.Fn Try.prog 85 [iV .u64 a0,iV .u64 a1] [] 0 (fun x o=>x = .agg (anum_Wide (r))∧o=[]):=by
 unfold f_num_Mul.f at H
 refine Fn.bodyK [] Try.func85 rfl rfl (fun Γ hP hn => ?_)
 have hm:Try.prog.follows .mixedOrders=true:=by kernel_rfl
 replace hn:Γ.n=16:=hn
 refine AWp.seq ?_
 refine reg hP hn hm [(0,.k 0)] [0,1,4] [0] ⟨[(0,iV .u64 a0),(1,iV .u64 a1),(4,.ptr 0 0 0)],[(0,some (.box 142 (anum_Wide ⟨0,0⟩)))],0⟩ [] (by kernel_rfl) trivial ?_
 refine AWp.seq ?_
 obtain⟨t2053,e2054,H⟩:=bind_of H
 refine reg hP hn hm [(2,.call [] [] [] [] 0 (.tup [iV .u64 (IntKind.u64.wrap ((IntKind.u64.wrap ((IntKind.u64.wrap ((Int.fdiv a0 4294967296)*(Int.fdiv a1 4294967296)))+(Int.fdiv (IntKind.u64.wrap ((IntKind.u64.wrap ((Int.fdiv a0 4294967296)*(IntKind.u64.wrap (((BitVec.toNat (BitVec.ofInt 64 a1 &&& BitVec.ofInt 64 (4294967295:Int)):Nat):Int)))))+(Int.fdiv (IntKind.u64.wrap ((IntKind.u64.wrap (((BitVec.toNat (BitVec.ofInt 64 a0 &&& BitVec.ofInt 64 (4294967295:Int)):Nat):Int)))*(IntKind.u64.wrap (((BitVec.toNat (BitVec.ofInt 64 a1 &&& BitVec.ofInt 64 (4294967295:Int)):Nat):Int))))) 4294967296))) 4294967296)))+(Int.fdiv (IntKind.u64.wrap ((IntKind.u64.wrap (((BitVec.toNat (BitVec.ofInt 64 (IntKind.u64.wrap ((IntKind.u64.wrap ((Int.fdiv a0 4294967296)*(IntKind.u64.wrap (((BitVec.toNat (BitVec.ofInt 64 a1 &&& BitVec.ofInt 64 (4294967295:Int)):Nat):Int)))))+(Int.fdiv (IntKind.u64.wrap ((IntKind.u64.wrap (((BitVec.toNat (BitVec.ofInt 64 a0 &&& BitVec.ofInt 64 (4294967295:Int)):Nat):Int)))*(IntKind.u64.wrap (((BitVec.toNat (BitVec.ofInt 64 a1 &&& BitVec.ofInt 64 (4294967295:Int)):Nat):Int))))) 4294967296))) &&& BitVec.ofInt 64 (4294967295:Int)):Nat):Int)))+(IntKind.u64.wrap ((IntKind.u64.wrap (((BitVec.toNat (BitVec.ofInt 64 a0 &&& BitVec.ofInt 64 (4294967295:Int)):Nat):Int)))*(Int.fdiv a1 4294967296))))) 4294967296))),iV .u64 (IntKind.u64.wrap (a0*a1))]) [])] [4,5,6] [0] ⟨[(4,.ptr 0 0 0),(5,iV .u64 (IntKind.u64.wrap ((IntKind.u64.wrap ((IntKind.u64.wrap ((Int.fdiv a0 4294967296)*(Int.fdiv a1 4294967296)))+(Int.fdiv (IntKind.u64.wrap ((IntKind.u64.wrap ((Int.fdiv a0 4294967296)*(IntKind.u64.wrap (((BitVec.toNat (BitVec.ofInt 64 a1 &&& BitVec.ofInt 64 (4294967295:Int)):Nat):Int)))))+(Int.fdiv (IntKind.u64.wrap ((IntKind.u64.wrap (((BitVec.toNat (BitVec.ofInt 64 a0 &&& BitVec.ofInt 64 (4294967295:Int)):Nat):Int)))*(IntKind.u64.wrap (((BitVec.toNat (BitVec.ofInt 64 a1 &&& BitVec.ofInt 64 (4294967295:Int)):Nat):Int))))) 4294967296))) 4294967296)))+(Int.fdiv (IntKind.u64.wrap ((IntKind.u64.wrap (((BitVec.toNat (BitVec.ofInt 64 (IntKind.u64.wrap ((IntKind.u64.wrap ((Int.fdiv a0 4294967296)*(IntKind.u64.wrap (((BitVec.toNat (BitVec.ofInt 64 a1 &&& BitVec.ofInt 64 (4294967295:Int)):Nat):Int)))))+(Int.fdiv (IntKind.u64.wrap ((IntKind.u64.wrap (((BitVec.toNat (BitVec.ofInt 64 a0 &&& BitVec.ofInt 64 (4294967295:Int)):Nat):Int)))*(IntKind.u64.wrap (((BitVec.toNat (BitVec.ofInt 64 a1 &&& BitVec.ofInt 64 (4294967295:Int)):Nat):Int))))) 4294967296))) &&& BitVec.ofInt 64 (4294967295:Int)):Nat):Int)))+(IntKind.u64.wrap ((IntKind.u64.wrap (((BitVec.toNat (BitVec.ofInt 64 a0 &&& BitVec.ofInt 64 (4294967295:Int)):Nat):Int)))*(Int.fdiv a1 4294967296))))) 4294967296)))),(6,iV .u64 (IntKind.u64.wrap (a0*a1)))],[(0,some (.box 142 (anum_Wide ⟨0,0⟩)))],0⟩ [Enters Try.prog 113,Pv.Fn Try.prog 113 [iV .u64 a0,iV .u64 a1] [] 0 (fun r o=>r = .tup [iV .u64 (IntKind.u64.wrap ((IntKind.u64.wrap ((IntKind.u64.wrap ((Int.fdiv a0 4294967296)*(Int.fdiv a1 4294967296)))+(Int.fdiv (IntKind.u64.wrap ((IntKind.u64.wrap ((Int.fdiv a0 4294967296)*(IntKind.u64.wrap (((BitVec.toNat (BitVec.ofInt 64 a1 &&& BitVec.ofInt 64 (4294967295:Int)):Nat):Int)))))+(Int.fdiv (IntKind.u64.wrap ((IntKind.u64.wrap (((BitVec.toNat (BitVec.ofInt 64 a0 &&& BitVec.ofInt 64 (4294967295:Int)):Nat):Int)))*(IntKind.u64.wrap (((BitVec.toNat (BitVec.ofInt 64 a1 &&& BitVec.ofInt 64 (4294967295:Int)):Nat):Int))))) 4294967296))) 4294967296)))+(Int.fdiv (IntKind.u64.wrap ((IntKind.u64.wrap (((BitVec.toNat (BitVec.ofInt 64 (IntKind.u64.wrap ((IntKind.u64.wrap ((Int.fdiv a0 4294967296)*(IntKind.u64.wrap (((BitVec.toNat (BitVec.ofInt 64 a1 &&& BitVec.ofInt 64 (4294967295:Int)):Nat):Int)))))+(Int.fdiv (IntKind.u64.wrap ((IntKind.u64.wrap (((BitVec.toNat (BitVec.ofInt 64 a0 &&& BitVec.ofInt 64 (4294967295:Int)):Nat):Int)))*(IntKind.u64.wrap (((BitVec.toNat (BitVec.ofInt 64 a1 &&& BitVec.ofInt 64 (4294967295:Int)):Nat):Int))))) 4294967296))) &&& BitVec.ofInt 64 (4294967295:Int)):Nat):Int)))+(IntKind.u64.wrap ((IntKind.u64.wrap (((BitVec.toNat (BitVec.ofInt 64 a0 &&& BitVec.ofInt 64 (4294967295:Int)):Nat):Int)))*(Int.fdiv a1 4294967296))))) 4294967296))),iV .u64 (IntKind.u64.wrap (a0*a1))]∧o=[])] (by kernel_rfl) ⟨by exact Try.call113,by exact f_bits_Mul64.ok a0 a1 t2053 e2054,trivial⟩ ?_
 refine AWp.seq ?_
 refine reg hP hn hm [] [4] [0] ⟨[(4,.ptr 0 0 0)],[(0,some (.box 142 (anum_Wide ⟨(IntKind.u64.wrap ((IntKind.u64.wrap ((IntKind.u64.wrap ((Int.fdiv a0 4294967296)*(Int.fdiv a1 4294967296)))+(Int.fdiv (IntKind.u64.wrap ((IntKind.u64.wrap ((Int.fdiv a0 4294967296)*(IntKind.u64.wrap (((BitVec.toNat (BitVec.ofInt 64 a1 &&& BitVec.ofInt 64 (4294967295:Int)):Nat):Int)))))+(Int.fdiv (IntKind.u64.wrap ((IntKind.u64.wrap (((BitVec.toNat (BitVec.ofInt 64 a0 &&& BitVec.ofInt 64 (4294967295:Int)):Nat):Int)))*(IntKind.u64.wrap (((BitVec.toNat (BitVec.ofInt 64 a1 &&& BitVec.ofInt 64 (4294967295:Int)):Nat):Int))))) 4294967296))) 4294967296)))+(Int.fdiv (IntKind.u64.wrap ((IntKind.u64.wrap (((BitVec.toNat (BitVec.ofInt 64 (IntKind.u64.wrap ((IntKind.u64.wrap ((Int.fdiv a0 4294967296)*(IntKind.u64.wrap (((BitVec.toNat (BitVec.ofInt 64 a1 &&& BitVec.ofInt 64 (4294967295:Int)):Nat):Int)))))+(Int.fdiv (IntKind.u64.wrap ((IntKind.u64.wrap (((BitVec.toNat (BitVec.ofInt 64 a0 &&& BitVec.ofInt 64 (4294967295:Int)):Nat):Int)))*(IntKind.u64.wrap (((BitVec.toNat (BitVec.ofInt 64 a1 &&& BitVec.ofInt 64 (4294967295:Int)):Nat):Int))))) 4294967296))) &&& BitVec.ofInt 64 (4294967295:Int)):Nat):Int)))+(IntKind.u64.wrap ((IntKind.u64.wrap (((BitVec.toNat (BitVec.ofInt 64 a0 &&& BitVec.ofInt 64 (4294967295:Int)):Nat):Int)))*(Int.fdiv a1 4294967296))))) 4294967296))),(IntKind.u64.wrap (a0*a1))⟩)))],0⟩ [] (by kernel_rfl) trivial ?_
 refine AWp.conv (inv:=[(0,0)]) (vk:=[]) (e0:=[]) (t:=⟨[(4,.ptr 0 0 0)],[(0,some (.box 142 (anum_Wide ((⟨IntKind.u64.wrap ((IntKind.u64.wrap ((IntKind.u64.wrap ((Int.fdiv a0 4294967296)*(Int.fdiv a1 4294967296)))+(Int.fdiv (IntKind.u64.wrap ((IntKind.u64.wrap ((Int.fdiv a0 4294967296)*(IntKind.u64.wrap (((BitVec.toNat (BitVec.ofInt 64 a1 &&& BitVec.ofInt 64 (4294967295:Int)):Nat):Int)))))+(Int.fdiv (IntKind.u64.wrap ((IntKind.u64.wrap (((BitVec.toNat (BitVec.ofInt 64 a0 &&& BitVec.ofInt 64 (4294967295:Int)):Nat):Int)))*(IntKind.u64.wrap (((BitVec.toNat (BitVec.ofInt 64 a1 &&& BitVec.ofInt 64 (4294967295:Int)):Nat):Int))))) 4294967296))) 4294967296)))+(Int.fdiv (IntKind.u64.wrap ((IntKind.u64.wrap (((BitVec.toNat (BitVec.ofInt 64 (IntKind.u64.wrap ((IntKind.u64.wrap ((Int.fdiv a0 4294967296)*(IntKind.u64.wrap (((BitVec.toNat (BitVec.ofInt 64 a1 &&& BitVec.ofInt 64 (4294967295:Int)):Nat):Int)))))+(Int.fdiv (IntKind.u64.wrap ((IntKind.u64.wrap (((BitVec.toNat (BitVec.ofInt 64 a0 &&& BitVec.ofInt 64 (4294967295:Int)):Nat):Int)))*(IntKind.u64.wrap (((BitVec.toNat (BitVec.ofInt 64 a1 &&& BitVec.ofInt 64 (4294967295:Int)):Nat):Int))))) 4294967296))) &&& BitVec.ofInt 64 (4294967295:Int)):Nat):Int)))+(IntKind.u64.wrap ((IntKind.u64.wrap (((BitVec.toNat (BitVec.ofInt 64 a0 &&& BitVec.ofInt 64 (4294967295:Int)):Nat):Int)))*(Int.fdiv a1 4294967296))))) 4294967296)),IntKind.u64.wrap (a0*a1)⟩:Tnum_Wide)))))],0⟩) (by kernel_rfl) ?_
 refine AWp.ret ?_
 obtain rfl:=Option.some.inj H
 exact Exists.intro _ (And.intro (fun _ _ h=>h) (And.intro (.inl rfl) (And.intro rfl (And.intro (by kernel_rfl) (by kernel_rfl)))))
def f_bits_Len64.f (a0:Int):Option (Int):=((if(decide (a0≥(4294967296:Int)))=true then(some (Int.fdiv a0 4294967296,32)) else(some (a0,0))):Option (Int×Int))>>=fun oo=>match oo with | (x2067,x2068)=>(((if(decide (x2067≥(65536:Int)))=true then(some (Int.fdiv x2067 65536,IntKind.i64.wrap (x2068+(16:Int)))) else(some (x2067,x2068))):Option (Int×Int))>>=fun oo=>match oo with | (x2070,x2071)=>(((if(decide (x2070≥(256:Int)))=true then(some (Int.fdiv x2070 256,IntKind.i64.wrap (x2071+(8:Int)))) else(some (x2070,x2071))):Option (Int×Int))>>=fun oo=>match oo with | (x2073,x2074)=>((chk (0≤(IntKind.u8.wrap (x2073))∧(IntKind.u8.wrap (x2073))<((⟨#[0,1,2,2,3,3,3,3,4,4,4,4,4,4,4,4,5,5,5,5,5,5,5,5,5,5,5,5,5,5,5,5,6,6,6,6,6,6,6,6,6,6,6,6,6,6,6,6,6,6,6,6,6,6,6,6,6,6,6,6,6,6,6,6,7,7,7,7,7,7,7,7,7,7,7,7,7,7,7,7,7,7,7,7,7,7,7,7,7,7,7,7,7,7,7,7,7,7,7,7,7,7,7,7,7,7,7,7,7,7,7,7,7,7,7,7,7,7,7,7,7,7,7,7,7,7,7,7,8,8,8,8,8,8,8,8,8,8,8,8,8,8,8,8,8,8,8,8,8,8,8,8,8,8,8,8,8,8,8,8,8,8,8,8,8,8,8,8,8,8,8,8,8,8,8,8,8,8,8,8,8,8,8,8,8,8,8,8,8,8,8,8,8,8,8,8,8,8,8,8,8,8,8,8,8,8,8,8,8,8,8,8,8,8,8,8,8,8,8,8,8,8,8,8,8,8,8,8,8,8,8,8,8,8,8,8,8,8,8,8,8,8,8,8,8,8,8,8,8,8,8,8,8,8,8,8]⟩:ByteArray).size:Int)))>>=fun _=>some (IntKind.i64.wrap (x2074+(IntKind.i64.wrap (bt (⟨#[0,1,2,2,3,3,3,3,4,4,4,4,4,4,4,4,5,5,5,5,5,5,5,5,5,5,5,5,5,5,5,5,6,6,6,6,6,6,6,6,6,6,6,6,6,6,6,6,6,6,6,6,6,6,6,6,6,6,6,6,6,6,6,6,7,7,7,7,7,7,7,7,7,7,7,7,7,7,7,7,7,7,7,7,7,7,7,7,7,7,7,7,7,7,7,7,7,7,7,7,7,7,7,7,7,7,7,7,7,7,7,7,7,7,7,7,7,7,7,7,7,7,7,7,7,7,7,7,8,8,8,8,8,8,8,8,8,8,8,8,8,8,8,8,8,8,8,8,8,8,8,8,8,8,8,8,8,8,8,8,8,8,8,8,8,8,8,8,8,8,8,8,8,8,8,8,8,8,8,8,8,8,8,8,8,8,8,8,8,8,8,8,8,8,8,8,8,8,8,8,8,8,8,8,8,8,8,8,8,8,8,8,8,8,8,8,8,8,8,8,8,8,8,8,8,8,8,8,8,8,8,8,8,8,8,8,8,8,8,8,8,8,8,8,8,8,8,8,8,8,8,8,8,8,8,8]⟩:ByteArray) (IntKind.u8.wrap (x2073)))))))))
theorem f_bits_Len64.ok (a0:Int) (r:Int) (H:f_bits_Len64.f a0=some r):Pv.Fn Try.prog 77 [iV .u64 a0] [] 0 (fun x o=>x=iV .i64 r∧o=[]):=by
 unfold f_bits_Len64.f at H
 refine Fn.bodyK [] Try.func77 rfl rfl (fun Γ hP hn => ?_)
 have hm:Try.prog.follows .mixedOrders=true:=by kernel_rfl
 replace hn:Γ.n=25:=hn
 refine AWp.seq ?_
 refine reg hP hn hm [] [0,2] [] ⟨[(0,iV .u64 a0),(2,iV .i64 0)],[],0⟩ [] (by kernel_rfl) trivial ?_
 refine AWp.seq ?_
 refine AWp.seq ?_
 refine reg hP hn hm [] [0,2,4] [] ⟨[(0,iV .u64 a0),(2,iV .i64 0),(4,bV (decide (a0≥(4294967296:Int))))],[],0⟩ [] (by kernel_rfl) trivial ?_
 obtain⟨o2077,e2078,H⟩:=bind_of H
 refine AWp.mono (Q:=fun e s=>(match (generalizing:=false) o2077 with | (x2067,x2068)=>e = .normal∧s=⟨[(0,iV .u64 x2067),(2,iV .i64 x2068)],[],0⟩)) (AWp.cv ?_) ?_
 ·replace H:=e2078;clear e2078
  refine AWp.cond (decide (a0≥(4294967296:Int))) rfl (fun c2066 => ?_) (fun c2066 => ?_)
  ·replace H:=(ifT c2066).symm.trans H
   refine AWp.seq ?_
   refine reg hP hn hm [] [0] [] ⟨[(0,iV .u64 (Int.fdiv a0 4294967296))],[],0⟩ [(0:Int)≤32] (by kernel_rfl) ⟨by decide,trivial⟩ ?_
   refine reg hP hn hm [] [0,2] [] ⟨[(0,iV .u64 (Int.fdiv a0 4294967296)),(2,iV .i64 32)],[],0⟩ [] (by kernel_rfl) trivial ?_
   obtain rfl:=Option.some.inj H
   exact Exists.intro _ (And.intro (fun _ _ h=>h.conv (inv:=[]) (vk:=[]) (e0:=[]) (t:=⟨[(0,iV .u64 (Int.fdiv a0 4294967296)),(2,iV .i64 32)],[],0⟩) (by kernel_rfl)) (And.intro rfl rfl))
  ·replace H:=(ifF c2066).symm.trans H
   refine AWp.skip ?_
   obtain rfl:=Option.some.inj H
   exact Exists.intro _ (And.intro (fun _ _ h=>h.conv (inv:=[]) (vk:=[]) (e0:=[]) (t:=⟨[(0,iV .u64 a0),(2,iV .i64 0)],[],0⟩) (by kernel_rfl)) (And.intro rfl rfl))
 ·obtain⟨x2067,x2068⟩:=o2077
  rintro e s ⟨rfl,rfl⟩
  refine AWp.seq ?_
  refine AWp.seq ?_
  refine reg hP hn hm [] [0,2,8] [] ⟨[(0,iV .u64 x2067),(2,iV .i64 x2068),(8,bV (decide (x2067≥(65536:Int))))],[],0⟩ [] (by kernel_rfl) trivial ?_
  obtain⟨o2079,e2080,H⟩:=bind_of H
  refine AWp.mono (Q:=fun e s=>(match (generalizing:=false) o2079 with | (x2070,x2071)=>e = .normal∧s=⟨[(0,iV .u64 x2070),(2,iV .i64 x2071)],[],0⟩)) (AWp.cv ?_) ?_
  ·replace H:=e2080;clear e2080
   refine AWp.cond (decide (x2067≥(65536:Int))) rfl (fun c2069 => ?_) (fun c2069 => ?_)
   ·replace H:=(ifT c2069).symm.trans H
    refine AWp.seq ?_
    refine reg hP hn hm [] [0,2] [] ⟨[(0,iV .u64 (Int.fdiv x2067 65536)),(2,iV .i64 x2068)],[],0⟩ [(0:Int)≤16] (by kernel_rfl) ⟨by decide,trivial⟩ ?_
    refine reg hP hn hm [] [0,2] [] ⟨[(0,iV .u64 (Int.fdiv x2067 65536)),(2,iV .i64 (IntKind.i64.wrap (x2068+(16:Int))))],[],0⟩ [] (by kernel_rfl) trivial ?_
    obtain rfl:=Option.some.inj H
    exact Exists.intro _ (And.intro (fun _ _ h=>h.conv (inv:=[]) (vk:=[]) (e0:=[]) (t:=⟨[(0,iV .u64 (Int.fdiv x2067 65536)),(2,iV .i64 (IntKind.i64.wrap (x2068+(16:Int))))],[],0⟩) (by kernel_rfl)) (And.intro rfl rfl))
   ·replace H:=(ifF c2069).symm.trans H
    refine AWp.skip ?_
    obtain rfl:=Option.some.inj H
    exact Exists.intro _ (And.intro (fun _ _ h=>h.conv (inv:=[]) (vk:=[]) (e0:=[]) (t:=⟨[(0,iV .u64 x2067),(2,iV .i64 x2068)],[],0⟩) (by kernel_rfl)) (And.intro rfl rfl))
  ·obtain⟨x2070,x2071⟩:=o2079
   rintro e s ⟨rfl,rfl⟩
   refine AWp.seq ?_
   refine AWp.seq ?_
   refine reg hP hn hm [] [0,2,14] [] ⟨[(0,iV .u64 x2070),(2,iV .i64 x2071),(14,bV (decide (x2070≥(256:Int))))],[],0⟩ [] (by kernel_rfl) trivial ?_
   obtain⟨o2081,e2082,H⟩:=bind_of H
   refine AWp.mono (Q:=fun e s=>(match (generalizing:=false) o2081 with | (x2073,x2074)=>e = .normal∧s=⟨[(0,iV .u64 x2073),(2,iV .i64 x2074)],[],0⟩)) (AWp.cv ?_) ?_
   ·replace H:=e2082;clear e2082
    refine AWp.cond (decide (x2070≥(256:Int))) rfl (fun c2072 => ?_) (fun c2072 => ?_)
    ·replace H:=(ifT c2072).symm.trans H
     refine AWp.seq ?_
     refine reg hP hn hm [] [0,2] [] ⟨[(0,iV .u64 (Int.fdiv x2070 256)),(2,iV .i64 x2071)],[],0⟩ [(0:Int)≤8] (by kernel_rfl) ⟨by decide,trivial⟩ ?_
     refine reg hP hn hm [] [0,2] [] ⟨[(0,iV .u64 (Int.fdiv x2070 256)),(2,iV .i64 (IntKind.i64.wrap (x2071+(8:Int))))],[],0⟩ [] (by kernel_rfl) trivial ?_
     obtain rfl:=Option.some.inj H
     exact Exists.intro _ (And.intro (fun _ _ h=>h.conv (inv:=[]) (vk:=[]) (e0:=[]) (t:=⟨[(0,iV .u64 (Int.fdiv x2070 256)),(2,iV .i64 (IntKind.i64.wrap (x2071+(8:Int))))],[],0⟩) (by kernel_rfl)) (And.intro rfl rfl))
    ·replace H:=(ifF c2072).symm.trans H
     refine AWp.skip ?_
     obtain rfl:=Option.some.inj H
     exact Exists.intro _ (And.intro (fun _ _ h=>h.conv (inv:=[]) (vk:=[]) (e0:=[]) (t:=⟨[(0,iV .u64 x2070),(2,iV .i64 x2071)],[],0⟩) (by kernel_rfl)) (And.intro rfl rfl))
   ·obtain⟨x2073,x2074⟩:=o2081
    rintro e s ⟨rfl,rfl⟩
    refine AWp.seq ?_
    obtain⟨c2076,H⟩:=chk_of H
    refine reg hP hn hm [] [2] [] ⟨[(2,iV .i64 (IntKind.i64.wrap (x2074+(IntKind.i64.wrap (bt (⟨#[0,1,2,2,3,3,3,3,4,4,4,4,4,4,4,4,5,5,5,5,5,5,5,5,5,5,5,5,5,5,5,5,6,6,6,6,6,6,6,6,6,6,6,6,6,6,6,6,6,6,6,6,6,6,6,6,6,6,6,6,6,6,6,6,7,7,7,7,7,7,7,7,7,7,7,7,7,7,7,7,7,7,7,7,7,7,7,7,7,7,7,7,7,7,7,7,7,7,7,7,7,7,7,7,7,7,7,7,7,7,7,7,7,7,7,7,7,7,7,7,7,7,7,7,7,7,7,7,8,8,8,8,8,8,8,8,8,8,8,8,8,8,8,8,8,8,8,8,8,8,8,8,8,8,8,8,8,8,8,8,8,8,8,8,8,8,8,8,8,8,8,8,8,8,8,8,8,8,8,8,8,8,8,8,8,8,8,8,8,8,8,8,8,8,8,8,8,8,8,8,8,8,8,8,8,8,8,8,8,8,8,8,8,8,8,8,8,8,8,8,8,8,8,8,8,8,8,8,8,8,8,8,8,8,8,8,8,8,8,8,8,8,8,8,8,8,8,8,8,8,8,8,8,8,8,8]⟩:ByteArray) (IntKind.u8.wrap (x2073)))))))],[],0⟩ [0≤(IntKind.u8.wrap (x2073)),(IntKind.u8.wrap (x2073))<((⟨#[0,1,2,2,3,3,3,3,4,4,4,4,4,4,4,4,5,5,5,5,5,5,5,5,5,5,5,5,5,5,5,5,6,6,6,6,6,6,6,6,6,6,6,6,6,6,6,6,6,6,6,6,6,6,6,6,6,6,6,6,6,6,6,6,7,7,7,7,7,7,7,7,7,7,7,7,7,7,7,7,7,7,7,7,7,7,7,7,7,7,7,7,7,7,7,7,7,7,7,7,7,7,7,7,7,7,7,7,7,7,7,7,7,7,7,7,7,7,7,7,7,7,7,7,7,7,7,7,8,8,8,8,8,8,8,8,8,8,8,8,8,8,8,8,8,8,8,8,8,8,8,8,8,8,8,8,8,8,8,8,8,8,8,8,8,8,8,8,8,8,8,8,8,8,8,8,8,8,8,8,8,8,8,8,8,8,8,8,8,8,8,8,8,8,8,8,8,8,8,8,8,8,8,8,8,8,8,8,8,8,8,8,8,8,8,8,8,8,8,8,8,8,8,8,8,8,8,8,8,8,8,8,8,8,8,8,8,8,8,8,8,8,8,8,8,8,8,8,8,8,8,8,8,8,8,8]⟩:ByteArray).size:Int)] (by kernel_rfl) ⟨by exact c2076.1,by exact c2076.2,trivial⟩ ?_
    refine AWp.conv (inv:=[]) (vk:=[]) (e0:=[]) (t:=⟨[(2,iV .i64 (IntKind.i64.wrap (x2074+(IntKind.i64.wrap (bt (⟨#[0,1,2,2,3,3,3,3,4,4,4,4,4,4,4,4,5,5,5,5,5,5,5,5,5,5,5,5,5,5,5,5,6,6,6,6,6,6,6,6,6,6,6,6,6,6,6,6,6,6,6,6,6,6,6,6,6,6,6,6,6,6,6,6,7,7,7,7,7,7,7,7,7,7,7,7,7,7,7,7,7,7,7,7,7,7,7,7,7,7,7,7,7,7,7,7,7,7,7,7,7,7,7,7,7,7,7,7,7,7,7,7,7,7,7,7,7,7,7,7,7,7,7,7,7,7,7,7,8,8,8,8,8,8,8,8,8,8,8,8,8,8,8,8,8,8,8,8,8,8,8,8,8,8,8,8,8,8,8,8,8,8,8,8,8,8,8,8,8,8,8,8,8,8,8,8,8,8,8,8,8,8,8,8,8,8,8,8,8,8,8,8,8,8,8,8,8,8,8,8,8,8,8,8,8,8,8,8,8,8,8,8,8,8,8,8,8,8,8,8,8,8,8,8,8,8,8,8,8,8,8,8,8,8,8,8,8,8,8,8,8,8,8,8,8,8,8,8,8,8,8,8,8,8,8,8]⟩:ByteArray) (IntKind.u8.wrap (x2073)))))))],[],0⟩) (by kernel_rfl) ?_
    refine AWp.ret ?_
    obtain rfl:=Option.some.inj H
    exact Exists.intro _ (And.intro (fun _ _ h=>h) (And.intro (.inl rfl) (And.intro rfl (And.intro (by kernel_rfl) (by kernel_rfl)))))
def f_bits_LeadingZeros64.f (a0:Int):Option (Int):=(f_bits_Len64.f a0)>>=fun t2085=>some (IntKind.i64.wrap ((64:Int)-t2085))
theorem f_bits_LeadingZeros64.ok (a0:Int) (r:Int) (H:f_bits_LeadingZeros64.f a0=some r):Pv.Fn Try.prog 127 [iV .u64 a0] [] 0 (fun x o=>x=iV .i64 r∧o=[]):=by
 unfold f_bits_LeadingZeros64.f at H
 refine Fn.bodyK [] Try.func127 rfl rfl (fun Γ hP hn => ?_)
 have hm:Try.prog.follows .mixedOrders=true:=by kernel_rfl
 replace hn:Γ.n=6:=hn
 refine AWp.seq ?_
 refine reg hP hn hm [] [0] [] ⟨[(0,iV .u64 a0)],[],0⟩ [] (by kernel_rfl) trivial ?_
 refine AWp.seq ?_
 obtain⟨t2085,e2086,H⟩:=bind_of H
 refine reg hP hn hm [(1,.call [] [] [] [] 0 (iV .i64 t2085) [])] [2] [] ⟨[(2,iV .i64 (IntKind.i64.wrap ((64:Int)-t2085)))],[],0⟩ [Enters Try.prog 77,Pv.Fn Try.prog 77 [iV .u64 a0] [] 0 (fun r o=>r=iV .i64 t2085∧o=[])] (by kernel_rfl) ⟨by exact Try.call77,by exact f_bits_Len64.ok a0 t2085 e2086,trivial⟩ ?_
 refine AWp.conv (inv:=[]) (vk:=[]) (e0:=[]) (t:=⟨[(2,iV .i64 (IntKind.i64.wrap ((64:Int)-t2085)))],[],0⟩) (by kernel_rfl) ?_
 refine AWp.ret ?_
 obtain rfl:=Option.some.inj H
 exact Exists.intro _ (And.intro (fun _ _ h=>h) (And.intro (.inl rfl) (And.intro rfl (And.intro (by kernel_rfl) (by kernel_rfl)))))
end Go.Proofs.Ytfkppdcfgmgllaa.PvGD3
