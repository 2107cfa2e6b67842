import Derived.Test.YtbmdealiikoplaaGreatProg
import Derived.Test.YtbmdealiikoplaaGreatPxEvalDoes09
set_option linter.unusedVariables false
set_option linter.unnecessarySimpa false
set_option linter.unusedSimpArgs false
set_option maxRecDepth 10000
namespace Go.Proofs.YtbmdealiikoplaaGreat.PvGJ
open Go Go.Pv Go.IntKind
def f_r19_Finish.f (a0:Tr19_Ask) (a1:THist):Option (Tr19_Answer×Int):=((if(a0.f0==(0:Int))=true then(some (a0.f0==(0:Int))) else(some (a0.f0==(5:Int)))):Option (Bool))>>=fun x3564=>if x3564=true then(some ((⟨a1,0,0,(⟨0,0,0,0⟩:Tr08_Cell),(⟨0,0,0⟩:S54)⟩:Tr19_Answer),0)) else(if(a0.f0==(1:Int))=true then(some ((⟨(⟨0,0,0,0,0,0,[],[]⟩:THist),a1.f5,0,(⟨0,0,0,0⟩:Tr08_Cell),(⟨0,0,0⟩:S54)⟩:Tr19_Answer),0)) else(if(a0.f0==(2:Int))=true then(some ((⟨(⟨0,0,0,0,0,0,[],[]⟩:THist),0,a1.f4,(⟨0,0,0,0⟩:Tr08_Cell),(⟨0,0,0⟩:S54)⟩:Tr19_Answer),0)) else(if(a0.f0==(3:Int))=true then((f_r08_Quantile.f a1 a0.f1 a0.f2)>>=fun t3809=>if(t3809.2 != (0:Int))=true then(some ((⟨(⟨0,0,0,0,0,0,[],[]⟩:THist),0,0,(⟨0,0,0,0⟩:Tr08_Cell),(⟨0,0,0⟩:S54)⟩:Tr19_Answer),t3809.2)) else(some ((⟨(⟨0,0,0,0,0,0,[],[]⟩:THist),0,0,(⟨(t3809.1).f0,(t3809.1).f1,(t3809.1).f2,0⟩:Tr08_Cell),(⟨0,0,0⟩:S54)⟩:Tr19_Answer),0))) else(if(a0.f0==(4:Int))=true then((f_r08_Below.f a1 a0.f3 a0.f4)>>=fun t3921=>if(t3921.2.2.2 != (0:Int))=true then(some ((⟨(⟨0,0,0,0,0,0,[],[]⟩:THist),0,0,(⟨0,0,0,0⟩:Tr08_Cell),(⟨0,0,0⟩:S54)⟩:Tr19_Answer),t3921.2.2.2)) else(some ((⟨(⟨0,0,0,0,0,0,[],[]⟩:THist),0,0,(⟨0,0,0,0⟩:Tr08_Cell),(⟨t3921.1,t3921.2.1,t3921.2.2.1⟩:S54)⟩:Tr19_Answer),0))) else(some ((⟨(⟨0,0,0,0,0,0,[],[]⟩:THist),0,0,(⟨0,0,0,0⟩:Tr08_Cell),(⟨0,0,0⟩:S54)⟩:Tr19_Answer),1))))))
theorem f_r19_Finish.ok (a0:Tr19_Ask) (a1:THist) (r:Tr19_Answer×Int) (H:f_r19_Finish.f a0 a1=some r):Pv.Fn Tryz.prog 14 [.agg (ar19_Ask a0),.agg (aHist a1)] [] 0 (fun x o=>x = .tup [.agg [iV .i64 (((r.1).f0).f0),iV .i64 (((r.1).f0).f1),iV .i64 (((r.1).f0).f2),iV .u64 (((r.1).f0).f3),iV .u64 (((r.1).f0).f4),iV .i64 (((r.1).f0).f5),.im (.row ((((r.1).f0).f6).map eBucket)),.im (.row ((((r.1).f0).f7).map eBucket)),iV .i64 ((r.1).f1),iV .u64 ((r.1).f2),iV .i64 (((r.1).f3).f0),iV .i64 (((r.1).f3).f1),iV .i64 (((r.1).f3).f2),iV .u64 (((r.1).f3).f3),iV .u64 (((r.1).f4).f0),iV .u64 (((r.1).f4).f1),iV .u64 (((r.1).f4).f2)],iV .i64 r.2]∧o=[]):=by
 unfold f_r19_Finish.f at H
 refine Fn.bodyK [] Tryz.func14 rfl rfl (fun Γ hP hn => ?_)
 have hm:Tryz.prog.follows .mixedOrders=true:=by kernel_rfl
 replace hn:Γ.n=63:=hn
 refine sr hP hn hm [(0,.k 0),(1,.k 1),(2,.k 2)] [(2,.ptr 0 0 0),(3,.ptr 1 0 0),(4,.ptr 2 0 0)] [2,3,4] [(0,some (.box 24 (ar19_Ask a0))),(1,some (.box 32 (aHist a1))),(2,some (.box 56 [iV .i64 0,iV .i64 0,iV .i64 0,iV .u64 0,iV .u64 0,iV .i64 0,.none0,.none0,iV .i64 0,iV .u64 0,iV .i64 0,iV .i64 0,iV .i64 0,iV .u64 0,iV .u64 0,iV .u64 0,iV .u64 0]))] [0,1,2] [] (by kernel_rfl) trivial ?_
 refine AWp.seq ?_
 refine sr hP hn hm [] [(11,iV .i64 a0.f0)] [2,3,4,11] [] [0,1,2] [] (by kernel_rfl) trivial ?_
 refine AWp.block ?_
 refine AWp.seq ?_
 refine sr hP hn hm [] [(12,bV (a0.f0==(0:Int)))] [2,3,4,11,12] [] [0,1,2] [] (by kernel_rfl) trivial ?_
 obtain⟨o3924,e3925,H⟩:=bind_of H
 refine AWp.mono (Q:=fun e s=>(match (generalizing:=false) o3924 with | x3564=>e = .normal∧s=⟨[(2,.ptr 3 0 0),(3,.ptr 4 0 0),(4,.ptr 5 0 0),(11,iV .i64 a0.f0),(12,bV x3564)],[(3,some (.box 24 (ar19_Ask a0))),(4,some (.box 32 (aHist a1))),(5,some (.box 56 [iV .i64 0,iV .i64 0,iV .i64 0,iV .u64 0,iV .u64 0,iV .i64 0,.none0,.none0,iV .i64 0,iV .u64 0,iV .i64 0,iV .i64 0,iV .i64 0,iV .u64 0,iV .u64 0,iV .u64 0,iV .u64 0]))],0⟩)) (AWp.cv ?_) ?_
 ·replace H:=e3925;clear e3925
  refine AWp.cond (a0.f0==(0:Int)) (by kernel_rfl) (fun c3563 => ?_) (fun c3563 => ?_)
  ·replace H:=iT c3563 H
   refine AWp.skip ?_
   obtain rfl:=Option.some.inj H
   exact lf [(0,3),(1,4),(2,5)] [] [] (by kernel_rfl) ⟨rfl,rfl⟩
  ·replace H:=iF c3563 H
   refine rg hP hn hm [] [(12,bV (a0.f0==(5:Int)))] [2,3,4,11,12] [] [0,1,2] [] (by kernel_rfl) trivial ?_
   obtain rfl:=Option.some.inj H
   exact lf [(0,3),(1,4),(2,5)] [] [] (by kernel_rfl) ⟨rfl,rfl⟩
 ·obtain⟨x3564,rfl⟩:∃ z,z=o3924:=⟨_,rfl⟩
  rintro e s ⟨rfl,rfl⟩
  refine AWp.cond x3564 (by kernel_rfl) (fun c3565 => ?_) (fun c3565 => ?_)
  ·replace H:=iT c3565 H
   refine sr hP hn hm [] [(5,iV .i64 0)] [4,5] [(5,some (.box 56 [iV .i64 a1.f0,iV .i64 a1.f1,iV .i64 a1.f2,iV .u64 a1.f3,iV .u64 a1.f4,iV .i64 a1.f5,.im (.row (a1.f6.map eBucket)),.im (.row (a1.f7.map eBucket)),iV .i64 0,iV .u64 0,iV .i64 0,iV .i64 0,iV .i64 0,iV .u64 0,iV .u64 0,iV .u64 0,iV .u64 0]))] [5] [] (by kernel_rfl) trivial ?_
   refine AWp.conv (inv:=[(5,0)]) (vk:=[]) (e0:=[]) (t:=⟨[(4,.ptr 0 0 0),(5,iV .i64 0)],[(0,some (.box 56 [iV .i64 ((((⟨a1,0,0,(⟨0,0,0,0⟩:Tr08_Cell),(⟨0,0,0⟩:S54)⟩:Tr19_Answer)).f0).f0),iV .i64 ((((⟨a1,0,0,(⟨0,0,0,0⟩:Tr08_Cell),(⟨0,0,0⟩:S54)⟩:Tr19_Answer)).f0).f1),iV .i64 ((((⟨a1,0,0,(⟨0,0,0,0⟩:Tr08_Cell),(⟨0,0,0⟩:S54)⟩:Tr19_Answer)).f0).f2),iV .u64 ((((⟨a1,0,0,(⟨0,0,0,0⟩:Tr08_Cell),(⟨0,0,0⟩:S54)⟩:Tr19_Answer)).f0).f3),iV .u64 ((((⟨a1,0,0,(⟨0,0,0,0⟩:Tr08_Cell),(⟨0,0,0⟩:S54)⟩:Tr19_Answer)).f0).f4),iV .i64 ((((⟨a1,0,0,(⟨0,0,0,0⟩:Tr08_Cell),(⟨0,0,0⟩:S54)⟩:Tr19_Answer)).f0).f5),.im (.row (((((⟨a1,0,0,(⟨0,0,0,0⟩:Tr08_Cell),(⟨0,0,0⟩:S54)⟩:Tr19_Answer)).f0).f6).map eBucket)),.im (.row (((((⟨a1,0,0,(⟨0,0,0,0⟩:Tr08_Cell),(⟨0,0,0⟩:S54)⟩:Tr19_Answer)).f0).f7).map eBucket)),iV .i64 (((⟨a1,0,0,(⟨0,0,0,0⟩:Tr08_Cell),(⟨0,0,0⟩:S54)⟩:Tr19_Answer)).f1),iV .u64 (((⟨a1,0,0,(⟨0,0,0,0⟩:Tr08_Cell),(⟨0,0,0⟩:S54)⟩:Tr19_Answer)).f2),iV .i64 ((((⟨a1,0,0,(⟨0,0,0,0⟩:Tr08_Cell),(⟨0,0,0⟩:S54)⟩:Tr19_Answer)).f3).f0),iV .i64 ((((⟨a1,0,0,(⟨0,0,0,0⟩:Tr08_Cell),(⟨0,0,0⟩:S54)⟩:Tr19_Answer)).f3).f1),iV .i64 ((((⟨a1,0,0,(⟨0,0,0,0⟩:Tr08_Cell),(⟨0,0,0⟩:S54)⟩:Tr19_Answer)).f3).f2),iV .u64 ((((⟨a1,0,0,(⟨0,0,0,0⟩:Tr08_Cell),(⟨0,0,0⟩:S54)⟩:Tr19_Answer)).f3).f3),iV .u64 ((((⟨a1,0,0,(⟨0,0,0,0⟩:Tr08_Cell),(⟨0,0,0⟩:S54)⟩:Tr19_Answer)).f4).f0),iV .u64 ((((⟨a1,0,0,(⟨0,0,0,0⟩:Tr08_Cell),(⟨0,0,0⟩:S54)⟩:Tr19_Answer)).f4).f1),iV .u64 ((((⟨a1,0,0,(⟨0,0,0,0⟩:Tr08_Cell),(⟨0,0,0⟩:S54)⟩:Tr19_Answer)).f4).f2)]))],0⟩) (by kernel_rfl) ?_
   refine AWp.ret ?_
   obtain rfl:=Option.some.inj H
   exact rl (.inl rfl) rfl (by kernel_rfl) (by kernel_rfl)
  ·replace H:=iF c3565 H
   refine sr hP hn hm [] [(17,bV (a0.f0==(1:Int)))] [2,3,4,11,17] [] [3,4,5] [] (by kernel_rfl) trivial ?_
   refine AWp.cond (a0.f0==(1:Int)) (by kernel_rfl) (fun c3566 => ?_) (fun c3566 => ?_)
   ·replace H:=iT c3566 H
    refine sr hP hn hm [] [(5,iV .i64 0)] [4,5] [(5,some (.box 56 [iV .i64 0,iV .i64 0,iV .i64 0,iV .u64 0,iV .u64 0,iV .i64 0,.none0,.none0,iV .i64 a1.f5,iV .u64 0,iV .i64 0,iV .i64 0,iV .i64 0,iV .u64 0,iV .u64 0,iV .u64 0,iV .u64 0]))] [5] [] (by kernel_rfl) trivial ?_
    refine AWp.conv (inv:=[(5,0)]) (vk:=[]) (e0:=[]) (t:=⟨[(4,.ptr 0 0 0),(5,iV .i64 0)],[(0,some (.box 56 [iV .i64 ((((⟨(⟨0,0,0,0,0,0,[],[]⟩:THist),a1.f5,0,(⟨0,0,0,0⟩:Tr08_Cell),(⟨0,0,0⟩:S54)⟩:Tr19_Answer)).f0).f0),iV .i64 ((((⟨(⟨0,0,0,0,0,0,[],[]⟩:THist),a1.f5,0,(⟨0,0,0,0⟩:Tr08_Cell),(⟨0,0,0⟩:S54)⟩:Tr19_Answer)).f0).f1),iV .i64 ((((⟨(⟨0,0,0,0,0,0,[],[]⟩:THist),a1.f5,0,(⟨0,0,0,0⟩:Tr08_Cell),(⟨0,0,0⟩:S54)⟩:Tr19_Answer)).f0).f2),iV .u64 ((((⟨(⟨0,0,0,0,0,0,[],[]⟩:THist),a1.f5,0,(⟨0,0,0,0⟩:Tr08_Cell),(⟨0,0,0⟩:S54)⟩:Tr19_Answer)).f0).f3),iV .u64 ((((⟨(⟨0,0,0,0,0,0,[],[]⟩:THist),a1.f5,0,(⟨0,0,0,0⟩:Tr08_Cell),(⟨0,0,0⟩:S54)⟩:Tr19_Answer)).f0).f4),iV .i64 ((((⟨(⟨0,0,0,0,0,0,[],[]⟩:THist),a1.f5,0,(⟨0,0,0,0⟩:Tr08_Cell),(⟨0,0,0⟩:S54)⟩:Tr19_Answer)).f0).f5),.im (.row (((((⟨(⟨0,0,0,0,0,0,[],[]⟩:THist),a1.f5,0,(⟨0,0,0,0⟩:Tr08_Cell),(⟨0,0,0⟩:S54)⟩:Tr19_Answer)).f0).f6).map eBucket)),.im (.row (((((⟨(⟨0,0,0,0,0,0,[],[]⟩:THist),a1.f5,0,(⟨0,0,0,0⟩:Tr08_Cell),(⟨0,0,0⟩:S54)⟩:Tr19_Answer)).f0).f7).map eBucket)),iV .i64 (((⟨(⟨0,0,0,0,0,0,[],[]⟩:THist),a1.f5,0,(⟨0,0,0,0⟩:Tr08_Cell),(⟨0,0,0⟩:S54)⟩:Tr19_Answer)).f1),iV .u64 (((⟨(⟨0,0,0,0,0,0,[],[]⟩:THist),a1.f5,0,(⟨0,0,0,0⟩:Tr08_Cell),(⟨0,0,0⟩:S54)⟩:Tr19_Answer)).f2),iV .i64 ((((⟨(⟨0,0,0,0,0,0,[],[]⟩:THist),a1.f5,0,(⟨0,0,0,0⟩:Tr08_Cell),(⟨0,0,0⟩:S54)⟩:Tr19_Answer)).f3).f0),iV .i64 ((((⟨(⟨0,0,0,0,0,0,[],[]⟩:THist),a1.f5,0,(⟨0,0,0,0⟩:Tr08_Cell),(⟨0,0,0⟩:S54)⟩:Tr19_Answer)).f3).f1),iV .i64 ((((⟨(⟨0,0,0,0,0,0,[],[]⟩:THist),a1.f5,0,(⟨0,0,0,0⟩:Tr08_Cell),(⟨0,0,0⟩:S54)⟩:Tr19_Answer)).f3).f2),iV .u64 ((((⟨(⟨0,0,0,0,0,0,[],[]⟩:THist),a1.f5,0,(⟨0,0,0,0⟩:Tr08_Cell),(⟨0,0,0⟩:S54)⟩:Tr19_Answer)).f3).f3),iV .u64 ((((⟨(⟨0,0,0,0,0,0,[],[]⟩:THist),a1.f5,0,(⟨0,0,0,0⟩:Tr08_Cell),(⟨0,0,0⟩:S54)⟩:Tr19_Answer)).f4).f0),iV .u64 ((((⟨(⟨0,0,0,0,0,0,[],[]⟩:THist),a1.f5,0,(⟨0,0,0,0⟩:Tr08_Cell),(⟨0,0,0⟩:S54)⟩:Tr19_Answer)).f4).f1),iV .u64 ((((⟨(⟨0,0,0,0,0,0,[],[]⟩:THist),a1.f5,0,(⟨0,0,0,0⟩:Tr08_Cell),(⟨0,0,0⟩:S54)⟩:Tr19_Answer)).f4).f2)]))],0⟩) (by kernel_rfl) ?_
    refine AWp.ret ?_
    obtain rfl:=Option.some.inj H
    exact rl (.inl rfl) rfl (by kernel_rfl) (by kernel_rfl)
   ·replace H:=iF c3566 H
    refine sr hP hn hm [] [(22,bV (a0.f0==(2:Int)))] [2,3,4,11,22] [] [3,4,5] [] (by kernel_rfl) trivial ?_
    refine AWp.cond (a0.f0==(2:Int)) (by kernel_rfl) (fun c3567 => ?_) (fun c3567 => ?_)
    ·replace H:=iT c3567 H
     refine sr hP hn hm [] [(5,iV .i64 0)] [4,5] [(5,some (.box 56 [iV .i64 0,iV .i64 0,iV .i64 0,iV .u64 0,iV .u64 0,iV .i64 0,.none0,.none0,iV .i64 0,iV .u64 a1.f4,iV .i64 0,iV .i64 0,iV .i64 0,iV .u64 0,iV .u64 0,iV .u64 0,iV .u64 0]))] [5] [] (by kernel_rfl) trivial ?_
     refine AWp.conv (inv:=[(5,0)]) (vk:=[]) (e0:=[]) (t:=⟨[(4,.ptr 0 0 0),(5,iV .i64 0)],[(0,some (.box 56 [iV .i64 ((((⟨(⟨0,0,0,0,0,0,[],[]⟩:THist),0,a1.f4,(⟨0,0,0,0⟩:Tr08_Cell),(⟨0,0,0⟩:S54)⟩:Tr19_Answer)).f0).f0),iV .i64 ((((⟨(⟨0,0,0,0,0,0,[],[]⟩:THist),0,a1.f4,(⟨0,0,0,0⟩:Tr08_Cell),(⟨0,0,0⟩:S54)⟩:Tr19_Answer)).f0).f1),iV .i64 ((((⟨(⟨0,0,0,0,0,0,[],[]⟩:THist),0,a1.f4,(⟨0,0,0,0⟩:Tr08_Cell),(⟨0,0,0⟩:S54)⟩:Tr19_Answer)).f0).f2),iV .u64 ((((⟨(⟨0,0,0,0,0,0,[],[]⟩:THist),0,a1.f4,(⟨0,0,0,0⟩:Tr08_Cell),(⟨0,0,0⟩:S54)⟩:Tr19_Answer)).f0).f3),iV .u64 ((((⟨(⟨0,0,0,0,0,0,[],[]⟩:THist),0,a1.f4,(⟨0,0,0,0⟩:Tr08_Cell),(⟨0,0,0⟩:S54)⟩:Tr19_Answer)).f0).f4),iV .i64 ((((⟨(⟨0,0,0,0,0,0,[],[]⟩:THist),0,a1.f4,(⟨0,0,0,0⟩:Tr08_Cell),(⟨0,0,0⟩:S54)⟩:Tr19_Answer)).f0).f5),.im (.row (((((⟨(⟨0,0,0,0,0,0,[],[]⟩:THist),0,a1.f4,(⟨0,0,0,0⟩:Tr08_Cell),(⟨0,0,0⟩:S54)⟩:Tr19_Answer)).f0).f6).map eBucket)),.im (.row (((((⟨(⟨0,0,0,0,0,0,[],[]⟩:THist),0,a1.f4,(⟨0,0,0,0⟩:Tr08_Cell),(⟨0,0,0⟩:S54)⟩:Tr19_Answer)).f0).f7).map eBucket)),iV .i64 (((⟨(⟨0,0,0,0,0,0,[],[]⟩:THist),0,a1.f4,(⟨0,0,0,0⟩:Tr08_Cell),(⟨0,0,0⟩:S54)⟩:Tr19_Answer)).f1),iV .u64 (((⟨(⟨0,0,0,0,0,0,[],[]⟩:THist),0,a1.f4,(⟨0,0,0,0⟩:Tr08_Cell),(⟨0,0,0⟩:S54)⟩:Tr19_Answer)).f2),iV .i64 ((((⟨(⟨0,0,0,0,0,0,[],[]⟩:THist),0,a1.f4,(⟨0,0,0,0⟩:Tr08_Cell),(⟨0,0,0⟩:S54)⟩:Tr19_Answer)).f3).f0),iV .i64 ((((⟨(⟨0,0,0,0,0,0,[],[]⟩:THist),0,a1.f4,(⟨0,0,0,0⟩:Tr08_Cell),(⟨0,0,0⟩:S54)⟩:Tr19_Answer)).f3).f1),iV .i64 ((((⟨(⟨0,0,0,0,0,0,[],[]⟩:THist),0,a1.f4,(⟨0,0,0,0⟩:Tr08_Cell),(⟨0,0,0⟩:S54)⟩:Tr19_Answer)).f3).f2),iV .u64 ((((⟨(⟨0,0,0,0,0,0,[],[]⟩:THist),0,a1.f4,(⟨0,0,0,0⟩:Tr08_Cell),(⟨0,0,0⟩:S54)⟩:Tr19_Answer)).f3).f3),iV .u64 ((((⟨(⟨0,0,0,0,0,0,[],[]⟩:THist),0,a1.f4,(⟨0,0,0,0⟩:Tr08_Cell),(⟨0,0,0⟩:S54)⟩:Tr19_Answer)).f4).f0),iV .u64 ((((⟨(⟨0,0,0,0,0,0,[],[]⟩:THist),0,a1.f4,(⟨0,0,0,0⟩:Tr08_Cell),(⟨0,0,0⟩:S54)⟩:Tr19_Answer)).f4).f1),iV .u64 ((((⟨(⟨0,0,0,0,0,0,[],[]⟩:THist),0,a1.f4,(⟨0,0,0,0⟩:Tr08_Cell),(⟨0,0,0⟩:S54)⟩:Tr19_Answer)).f4).f2)]))],0⟩) (by kernel_rfl) ?_
     refine AWp.ret ?_
     obtain rfl:=Option.some.inj H
     exact rl (.inl rfl) rfl (by kernel_rfl) (by kernel_rfl)
    ·replace H:=iF c3567 H
     refine sr hP hn hm [] [(27,bV (a0.f0==(3:Int)))] [2,3,4,11,27] [] [3,4,5] [] (by kernel_rfl) trivial ?_
     refine AWp.cond (a0.f0==(3:Int)) (by kernel_rfl) (fun c3568 => ?_) (fun c3568 => ?_)
     ·replace H:=iT c3568 H
      obtain⟨t3809,e3810,H⟩:=bind_of H
      refine sr hP hn hm [(5,.call [] [] [] [] 0 (.tup [.agg (ar08_Cell (t3809.1)),iV .i64 t3809.2]) []),(9,.k 6)] [(6,.ptr 6 0 0),(7,iV .i64 t3809.2)] [4,6,7] [(6,some (.box 53 (ar08_Cell (t3809.1))))] [5,6] [_,_] (by kernel_rfl) ⟨Tryz.call29,f_r08_Quantile.ok a1 a0.f1 a0.f2 t3809 e3810,trivial⟩ ?_
      refine AWp.seq ?_
      refine sr hP hn hm [] [(39,bV (t3809.2 != (0:Int)))] [4,6,7,39] [] [5,6] [] (by kernel_rfl) trivial ?_
      refine AWp.cond (t3809.2 != (0:Int)) (by kernel_rfl) (fun c3811 => ?_) (fun c3811 => ?_)
      ·replace H:=iT c3811 H
       refine sr hP hn hm [] [(5,iV .i64 t3809.2)] [4,5] [] [5] [] (by kernel_rfl) trivial ?_
       refine AWp.conv (inv:=[(5,0)]) (vk:=[]) (e0:=[]) (t:=⟨[(4,.ptr 0 0 0),(5,iV .i64 t3809.2)],[(0,some (.box 56 [iV .i64 ((((⟨(⟨0,0,0,0,0,0,[],[]⟩:THist),0,0,(⟨0,0,0,0⟩:Tr08_Cell),(⟨0,0,0⟩:S54)⟩:Tr19_Answer)).f0).f0),iV .i64 ((((⟨(⟨0,0,0,0,0,0,[],[]⟩:THist),0,0,(⟨0,0,0,0⟩:Tr08_Cell),(⟨0,0,0⟩:S54)⟩:Tr19_Answer)).f0).f1),iV .i64 ((((⟨(⟨0,0,0,0,0,0,[],[]⟩:THist),0,0,(⟨0,0,0,0⟩:Tr08_Cell),(⟨0,0,0⟩:S54)⟩:Tr19_Answer)).f0).f2),iV .u64 ((((⟨(⟨0,0,0,0,0,0,[],[]⟩:THist),0,0,(⟨0,0,0,0⟩:Tr08_Cell),(⟨0,0,0⟩:S54)⟩:Tr19_Answer)).f0).f3),iV .u64 ((((⟨(⟨0,0,0,0,0,0,[],[]⟩:THist),0,0,(⟨0,0,0,0⟩:Tr08_Cell),(⟨0,0,0⟩:S54)⟩:Tr19_Answer)).f0).f4),iV .i64 ((((⟨(⟨0,0,0,0,0,0,[],[]⟩:THist),0,0,(⟨0,0,0,0⟩:Tr08_Cell),(⟨0,0,0⟩:S54)⟩:Tr19_Answer)).f0).f5),.im (.row (((((⟨(⟨0,0,0,0,0,0,[],[]⟩:THist),0,0,(⟨0,0,0,0⟩:Tr08_Cell),(⟨0,0,0⟩:S54)⟩:Tr19_Answer)).f0).f6).map eBucket)),.im (.row (((((⟨(⟨0,0,0,0,0,0,[],[]⟩:THist),0,0,(⟨0,0,0,0⟩:Tr08_Cell),(⟨0,0,0⟩:S54)⟩:Tr19_Answer)).f0).f7).map eBucket)),iV .i64 (((⟨(⟨0,0,0,0,0,0,[],[]⟩:THist),0,0,(⟨0,0,0,0⟩:Tr08_Cell),(⟨0,0,0⟩:S54)⟩:Tr19_Answer)).f1),iV .u64 (((⟨(⟨0,0,0,0,0,0,[],[]⟩:THist),0,0,(⟨0,0,0,0⟩:Tr08_Cell),(⟨0,0,0⟩:S54)⟩:Tr19_Answer)).f2),iV .i64 ((((⟨(⟨0,0,0,0,0,0,[],[]⟩:THist),0,0,(⟨0,0,0,0⟩:Tr08_Cell),(⟨0,0,0⟩:S54)⟩:Tr19_Answer)).f3).f0),iV .i64 ((((⟨(⟨0,0,0,0,0,0,[],[]⟩:THist),0,0,(⟨0,0,0,0⟩:Tr08_Cell),(⟨0,0,0⟩:S54)⟩:Tr19_Answer)).f3).f1),iV .i64 ((((⟨(⟨0,0,0,0,0,0,[],[]⟩:THist),0,0,(⟨0,0,0,0⟩:Tr08_Cell),(⟨0,0,0⟩:S54)⟩:Tr19_Answer)).f3).f2),iV .u64 ((((⟨(⟨0,0,0,0,0,0,[],[]⟩:THist),0,0,(⟨0,0,0,0⟩:Tr08_Cell),(⟨0,0,0⟩:S54)⟩:Tr19_Answer)).f3).f3),iV .u64 ((((⟨(⟨0,0,0,0,0,0,[],[]⟩:THist),0,0,(⟨0,0,0,0⟩:Tr08_Cell),(⟨0,0,0⟩:S54)⟩:Tr19_Answer)).f4).f0),iV .u64 ((((⟨(⟨0,0,0,0,0,0,[],[]⟩:THist),0,0,(⟨0,0,0,0⟩:Tr08_Cell),(⟨0,0,0⟩:S54)⟩:Tr19_Answer)).f4).f1),iV .u64 ((((⟨(⟨0,0,0,0,0,0,[],[]⟩:THist),0,0,(⟨0,0,0,0⟩:Tr08_Cell),(⟨0,0,0⟩:S54)⟩:Tr19_Answer)).f4).f2)]))],0⟩) (by kernel_rfl) ?_
       refine AWp.ret ?_
       obtain rfl:=Option.some.inj H
       exact rl (.inl rfl) rfl (by kernel_rfl) (by kernel_rfl)
      ·replace H:=iF c3811 H
       refine AWp.skip ?_
       refine sr hP hn hm [] [] [4,6] [(6,some (.box 53 (ar08_Cell ⟨((t3809.1).f0),((t3809.1).f1),((t3809.1).f2),0⟩)))] [5,6] [] (by kernel_rfl) trivial ?_
       refine sr hP hn hm [] [(5,iV .i64 0)] [4,5] [(5,some (.box 56 [iV .i64 0,iV .i64 0,iV .i64 0,iV .u64 0,iV .u64 0,iV .i64 0,.none0,.none0,iV .i64 0,iV .u64 0,iV .i64 ((t3809.1).f0),iV .i64 ((t3809.1).f1),iV .i64 ((t3809.1).f2),iV .u64 0,iV .u64 0,iV .u64 0,iV .u64 0]))] [5] [] (by kernel_rfl) trivial ?_
       refine AWp.conv (inv:=[(5,0)]) (vk:=[]) (e0:=[]) (t:=⟨[(4,.ptr 0 0 0),(5,iV .i64 0)],[(0,some (.box 56 [iV .i64 ((((⟨(⟨0,0,0,0,0,0,[],[]⟩:THist),0,0,(⟨(t3809.1).f0,(t3809.1).f1,(t3809.1).f2,0⟩:Tr08_Cell),(⟨0,0,0⟩:S54)⟩:Tr19_Answer)).f0).f0),iV .i64 ((((⟨(⟨0,0,0,0,0,0,[],[]⟩:THist),0,0,(⟨(t3809.1).f0,(t3809.1).f1,(t3809.1).f2,0⟩:Tr08_Cell),(⟨0,0,0⟩:S54)⟩:Tr19_Answer)).f0).f1),iV .i64 ((((⟨(⟨0,0,0,0,0,0,[],[]⟩:THist),0,0,(⟨(t3809.1).f0,(t3809.1).f1,(t3809.1).f2,0⟩:Tr08_Cell),(⟨0,0,0⟩:S54)⟩:Tr19_Answer)).f0).f2),iV .u64 ((((⟨(⟨0,0,0,0,0,0,[],[]⟩:THist),0,0,(⟨(t3809.1).f0,(t3809.1).f1,(t3809.1).f2,0⟩:Tr08_Cell),(⟨0,0,0⟩:S54)⟩:Tr19_Answer)).f0).f3),iV .u64 ((((⟨(⟨0,0,0,0,0,0,[],[]⟩:THist),0,0,(⟨(t3809.1).f0,(t3809.1).f1,(t3809.1).f2,0⟩:Tr08_Cell),(⟨0,0,0⟩:S54)⟩:Tr19_Answer)).f0).f4),iV .i64 ((((⟨(⟨0,0,0,0,0,0,[],[]⟩:THist),0,0,(⟨(t3809.1).f0,(t3809.1).f1,(t3809.1).f2,0⟩:Tr08_Cell),(⟨0,0,0⟩:S54)⟩:Tr19_Answer)).f0).f5),.im (.row (((((⟨(⟨0,0,0,0,0,0,[],[]⟩:THist),0,0,(⟨(t3809.1).f0,(t3809.1).f1,(t3809.1).f2,0⟩:Tr08_Cell),(⟨0,0,0⟩:S54)⟩:Tr19_Answer)).f0).f6).map eBucket)),.im (.row (((((⟨(⟨0,0,0,0,0,0,[],[]⟩:THist),0,0,(⟨(t3809.1).f0,(t3809.1).f1,(t3809.1).f2,0⟩:Tr08_Cell),(⟨0,0,0⟩:S54)⟩:Tr19_Answer)).f0).f7).map eBucket)),iV .i64 (((⟨(⟨0,0,0,0,0,0,[],[]⟩:THist),0,0,(⟨(t3809.1).f0,(t3809.1).f1,(t3809.1).f2,0⟩:Tr08_Cell),(⟨0,0,0⟩:S54)⟩:Tr19_Answer)).f1),iV .u64 (((⟨(⟨0,0,0,0,0,0,[],[]⟩:THist),0,0,(⟨(t3809.1).f0,(t3809.1).f1,(t3809.1).f2,0⟩:Tr08_Cell),(⟨0,0,0⟩:S54)⟩:Tr19_Answer)).f2),iV .i64 ((((⟨(⟨0,0,0,0,0,0,[],[]⟩:THist),0,0,(⟨(t3809.1).f0,(t3809.1).f1,(t3809.1).f2,0⟩:Tr08_Cell),(⟨0,0,0⟩:S54)⟩:Tr19_Answer)).f3).f0),iV .i64 ((((⟨(⟨0,0,0,0,0,0,[],[]⟩:THist),0,0,(⟨(t3809.1).f0,(t3809.1).f1,(t3809.1).f2,0⟩:Tr08_Cell),(⟨0,0,0⟩:S54)⟩:Tr19_Answer)).f3).f1),iV .i64 ((((⟨(⟨0,0,0,0,0,0,[],[]⟩:THist),0,0,(⟨(t3809.1).f0,(t3809.1).f1,(t3809.1).f2,0⟩:Tr08_Cell),(⟨0,0,0⟩:S54)⟩:Tr19_Answer)).f3).f2),iV .u64 ((((⟨(⟨0,0,0,0,0,0,[],[]⟩:THist),0,0,(⟨(t3809.1).f0,(t3809.1).f1,(t3809.1).f2,0⟩:Tr08_Cell),(⟨0,0,0⟩:S54)⟩:Tr19_Answer)).f3).f3),iV .u64 ((((⟨(⟨0,0,0,0,0,0,[],[]⟩:THist),0,0,(⟨(t3809.1).f0,(t3809.1).f1,(t3809.1).f2,0⟩:Tr08_Cell),(⟨0,0,0⟩:S54)⟩:Tr19_Answer)).f4).f0),iV .u64 ((((⟨(⟨0,0,0,0,0,0,[],[]⟩:THist),0,0,(⟨(t3809.1).f0,(t3809.1).f1,(t3809.1).f2,0⟩:Tr08_Cell),(⟨0,0,0⟩:S54)⟩:Tr19_Answer)).f4).f1),iV .u64 ((((⟨(⟨0,0,0,0,0,0,[],[]⟩:THist),0,0,(⟨(t3809.1).f0,(t3809.1).f1,(t3809.1).f2,0⟩:Tr08_Cell),(⟨0,0,0⟩:S54)⟩:Tr19_Answer)).f4).f2)]))],0⟩) (by kernel_rfl) ?_
       refine AWp.ret ?_
       obtain rfl:=Option.some.inj H
       exact rl (.inl rfl) rfl (by kernel_rfl) (by kernel_rfl)
     ·replace H:=iF c3568 H
      refine sr hP hn hm [] [(45,bV (a0.f0==(4:Int)))] [2,3,4,45] [] [3,4,5] [] (by kernel_rfl) trivial ?_
      refine AWp.cond (a0.f0==(4:Int)) (by kernel_rfl) (fun c3812 => ?_) (fun c3812 => ?_)
      ·replace H:=iT c3812 H
       obtain⟨t3921,e3922,H⟩:=bind_of H
       refine sr hP hn hm [(5,.call [] [] [] [] 0 (.tup [.agg [iV .u64 t3921.1,iV .u64 t3921.2.1,iV .u64 t3921.2.2.1],iV .i64 t3921.2.2.2]) []),(9,.k 7)] [(8,.ptr 7 0 0),(9,iV .i64 t3921.2.2.2)] [4,8,9] [(7,some (.box 54 [iV .u64 t3921.1,iV .u64 t3921.2.1,iV .u64 t3921.2.2.1]))] [5,7] [_,_] (by kernel_rfl) ⟨Tryz.call30,f_r08_Below.ok a1 a0.f3 a0.f4 t3921 e3922,trivial⟩ ?_
       refine AWp.seq ?_
       refine sr hP hn hm [] [(57,bV (t3921.2.2.2 != (0:Int)))] [4,8,9,57] [] [5,7] [] (by kernel_rfl) trivial ?_
       refine AWp.cond (t3921.2.2.2 != (0:Int)) (by kernel_rfl) (fun c3923 => ?_) (fun c3923 => ?_)
       ·replace H:=iT c3923 H
        refine sr hP hn hm [] [(5,iV .i64 t3921.2.2.2)] [4,5] [] [5] [] (by kernel_rfl) trivial ?_
        refine AWp.conv (inv:=[(5,0)]) (vk:=[]) (e0:=[]) (t:=⟨[(4,.ptr 0 0 0),(5,iV .i64 t3921.2.2.2)],[(0,some (.box 56 [iV .i64 ((((⟨(⟨0,0,0,0,0,0,[],[]⟩:THist),0,0,(⟨0,0,0,0⟩:Tr08_Cell),(⟨0,0,0⟩:S54)⟩:Tr19_Answer)).f0).f0),iV .i64 ((((⟨(⟨0,0,0,0,0,0,[],[]⟩:THist),0,0,(⟨0,0,0,0⟩:Tr08_Cell),(⟨0,0,0⟩:S54)⟩:Tr19_Answer)).f0).f1),iV .i64 ((((⟨(⟨0,0,0,0,0,0,[],[]⟩:THist),0,0,(⟨0,0,0,0⟩:Tr08_Cell),(⟨0,0,0⟩:S54)⟩:Tr19_Answer)).f0).f2),iV .u64 ((((⟨(⟨0,0,0,0,0,0,[],[]⟩:THist),0,0,(⟨0,0,0,0⟩:Tr08_Cell),(⟨0,0,0⟩:S54)⟩:Tr19_Answer)).f0).f3),iV .u64 ((((⟨(⟨0,0,0,0,0,0,[],[]⟩:THist),0,0,(⟨0,0,0,0⟩:Tr08_Cell),(⟨0,0,0⟩:S54)⟩:Tr19_Answer)).f0).f4),iV .i64 ((((⟨(⟨0,0,0,0,0,0,[],[]⟩:THist),0,0,(⟨0,0,0,0⟩:Tr08_Cell),(⟨0,0,0⟩:S54)⟩:Tr19_Answer)).f0).f5),.im (.row (((((⟨(⟨0,0,0,0,0,0,[],[]⟩:THist),0,0,(⟨0,0,0,0⟩:Tr08_Cell),(⟨0,0,0⟩:S54)⟩:Tr19_Answer)).f0).f6).map eBucket)),.im (.row (((((⟨(⟨0,0,0,0,0,0,[],[]⟩:THist),0,0,(⟨0,0,0,0⟩:Tr08_Cell),(⟨0,0,0⟩:S54)⟩:Tr19_Answer)).f0).f7).map eBucket)),iV .i64 (((⟨(⟨0,0,0,0,0,0,[],[]⟩:THist),0,0,(⟨0,0,0,0⟩:Tr08_Cell),(⟨0,0,0⟩:S54)⟩:Tr19_Answer)).f1),iV .u64 (((⟨(⟨0,0,0,0,0,0,[],[]⟩:THist),0,0,(⟨0,0,0,0⟩:Tr08_Cell),(⟨0,0,0⟩:S54)⟩:Tr19_Answer)).f2),iV .i64 ((((⟨(⟨0,0,0,0,0,0,[],[]⟩:THist),0,0,(⟨0,0,0,0⟩:Tr08_Cell),(⟨0,0,0⟩:S54)⟩:Tr19_Answer)).f3).f0),iV .i64 ((((⟨(⟨0,0,0,0,0,0,[],[]⟩:THist),0,0,(⟨0,0,0,0⟩:Tr08_Cell),(⟨0,0,0⟩:S54)⟩:Tr19_Answer)).f3).f1),iV .i64 ((((⟨(⟨0,0,0,0,0,0,[],[]⟩:THist),0,0,(⟨0,0,0,0⟩:Tr08_Cell),(⟨0,0,0⟩:S54)⟩:Tr19_Answer)).f3).f2),iV .u64 ((((⟨(⟨0,0,0,0,0,0,[],[]⟩:THist),0,0,(⟨0,0,0,0⟩:Tr08_Cell),(⟨0,0,0⟩:S54)⟩:Tr19_Answer)).f3).f3),iV .u64 ((((⟨(⟨0,0,0,0,0,0,[],[]⟩:THist),0,0,(⟨0,0,0,0⟩:Tr08_Cell),(⟨0,0,0⟩:S54)⟩:Tr19_Answer)).f4).f0),iV .u64 ((((⟨(⟨0,0,0,0,0,0,[],[]⟩:THist),0,0,(⟨0,0,0,0⟩:Tr08_Cell),(⟨0,0,0⟩:S54)⟩:Tr19_Answer)).f4).f1),iV .u64 ((((⟨(⟨0,0,0,0,0,0,[],[]⟩:THist),0,0,(⟨0,0,0,0⟩:Tr08_Cell),(⟨0,0,0⟩:S54)⟩:Tr19_Answer)).f4).f2)]))],0⟩) (by kernel_rfl) ?_
        refine AWp.ret ?_
        obtain rfl:=Option.some.inj H
        exact rl (.inl rfl) rfl (by kernel_rfl) (by kernel_rfl)
       ·replace H:=iF c3923 H
        refine AWp.skip ?_
        refine sr hP hn hm [] [(5,iV .i64 0)] [4,5] [(5,some (.box 56 [iV .i64 0,iV .i64 0,iV .i64 0,iV .u64 0,iV .u64 0,iV .i64 0,.none0,.none0,iV .i64 0,iV .u64 0,iV .i64 0,iV .i64 0,iV .i64 0,iV .u64 0,iV .u64 t3921.1,iV .u64 t3921.2.1,iV .u64 t3921.2.2.1]))] [5] [] (by kernel_rfl) trivial ?_
        refine AWp.conv (inv:=[(5,0)]) (vk:=[]) (e0:=[]) (t:=⟨[(4,.ptr 0 0 0),(5,iV .i64 0)],[(0,some (.box 56 [iV .i64 ((((⟨(⟨0,0,0,0,0,0,[],[]⟩:THist),0,0,(⟨0,0,0,0⟩:Tr08_Cell),(⟨t3921.1,t3921.2.1,t3921.2.2.1⟩:S54)⟩:Tr19_Answer)).f0).f0),iV .i64 ((((⟨(⟨0,0,0,0,0,0,[],[]⟩:THist),0,0,(⟨0,0,0,0⟩:Tr08_Cell),(⟨t3921.1,t3921.2.1,t3921.2.2.1⟩:S54)⟩:Tr19_Answer)).f0).f1),iV .i64 ((((⟨(⟨0,0,0,0,0,0,[],[]⟩:THist),0,0,(⟨0,0,0,0⟩:Tr08_Cell),(⟨t3921.1,t3921.2.1,t3921.2.2.1⟩:S54)⟩:Tr19_Answer)).f0).f2),iV .u64 ((((⟨(⟨0,0,0,0,0,0,[],[]⟩:THist),0,0,(⟨0,0,0,0⟩:Tr08_Cell),(⟨t3921.1,t3921.2.1,t3921.2.2.1⟩:S54)⟩:Tr19_Answer)).f0).f3),iV .u64 ((((⟨(⟨0,0,0,0,0,0,[],[]⟩:THist),0,0,(⟨0,0,0,0⟩:Tr08_Cell),(⟨t3921.1,t3921.2.1,t3921.2.2.1⟩:S54)⟩:Tr19_Answer)).f0).f4),iV .i64 ((((⟨(⟨0,0,0,0,0,0,[],[]⟩:THist),0,0,(⟨0,0,0,0⟩:Tr08_Cell),(⟨t3921.1,t3921.2.1,t3921.2.2.1⟩:S54)⟩:Tr19_Answer)).f0).f5),.im (.row (((((⟨(⟨0,0,0,0,0,0,[],[]⟩:THist),0,0,(⟨0,0,0,0⟩:Tr08_Cell),(⟨t3921.1,t3921.2.1,t3921.2.2.1⟩:S54)⟩:Tr19_Answer)).f0).f6).map eBucket)),.im (.row (((((⟨(⟨0,0,0,0,0,0,[],[]⟩:THist),0,0,(⟨0,0,0,0⟩:Tr08_Cell),(⟨t3921.1,t3921.2.1,t3921.2.2.1⟩:S54)⟩:Tr19_Answer)).f0).f7).map eBucket)),iV .i64 (((⟨(⟨0,0,0,0,0,0,[],[]⟩:THist),0,0,(⟨0,0,0,0⟩:Tr08_Cell),(⟨t3921.1,t3921.2.1,t3921.2.2.1⟩:S54)⟩:Tr19_Answer)).f1),iV .u64 (((⟨(⟨0,0,0,0,0,0,[],[]⟩:THist),0,0,(⟨0,0,0,0⟩:Tr08_Cell),(⟨t3921.1,t3921.2.1,t3921.2.2.1⟩:S54)⟩:Tr19_Answer)).f2),iV .i64 ((((⟨(⟨0,0,0,0,0,0,[],[]⟩:THist),0,0,(⟨0,0,0,0⟩:Tr08_Cell),(⟨t3921.1,t3921.2.1,t3921.2.2.1⟩:S54)⟩:Tr19_Answer)).f3).f0),iV .i64 ((((⟨(⟨0,0,0,0,0,0,[],[]⟩:THist),0,0,(⟨0,0,0,0⟩:Tr08_Cell),(⟨t3921.1,t3921.2.1,t3921.2.2.1⟩:S54)⟩:Tr19_Answer)).f3).f1),iV .i64 ((((⟨(⟨0,0,0,0,0,0,[],[]⟩:THist),0,0,(⟨0,0,0,0⟩:Tr08_Cell),(⟨t3921.1,t3921.2.1,t3921.2.2.1⟩:S54)⟩:Tr19_Answer)).f3).f2),iV .u64 ((((⟨(⟨0,0,0,0,0,0,[],[]⟩:THist),0,0,(⟨0,0,0,0⟩:Tr08_Cell),(⟨t3921.1,t3921.2.1,t3921.2.2.1⟩:S54)⟩:Tr19_Answer)).f3).f3),iV .u64 ((((⟨(⟨0,0,0,0,0,0,[],[]⟩:THist),0,0,(⟨0,0,0,0⟩:Tr08_Cell),(⟨t3921.1,t3921.2.1,t3921.2.2.1⟩:S54)⟩:Tr19_Answer)).f4).f0),iV .u64 ((((⟨(⟨0,0,0,0,0,0,[],[]⟩:THist),0,0,(⟨0,0,0,0⟩:Tr08_Cell),(⟨t3921.1,t3921.2.1,t3921.2.2.1⟩:S54)⟩:Tr19_Answer)).f4).f1),iV .u64 ((((⟨(⟨0,0,0,0,0,0,[],[]⟩:THist),0,0,(⟨0,0,0,0⟩:Tr08_Cell),(⟨t3921.1,t3921.2.1,t3921.2.2.1⟩:S54)⟩:Tr19_Answer)).f4).f2)]))],0⟩) (by kernel_rfl) ?_
        refine AWp.ret ?_
        obtain rfl:=Option.some.inj H
        exact rl (.inl rfl) rfl (by kernel_rfl) (by kernel_rfl)
      ·replace H:=iF c3812 H
       refine AWp.skip ?_
       refine sr hP hn hm [] [(5,iV .i64 1)] [4,5] [] [5] [] (by kernel_rfl) trivial ?_
       refine AWp.conv (inv:=[(5,0)]) (vk:=[]) (e0:=[]) (t:=⟨[(4,.ptr 0 0 0),(5,iV .i64 1)],[(0,some (.box 56 [iV .i64 ((((⟨(⟨0,0,0,0,0,0,[],[]⟩:THist),0,0,(⟨0,0,0,0⟩:Tr08_Cell),(⟨0,0,0⟩:S54)⟩:Tr19_Answer)).f0).f0),iV .i64 ((((⟨(⟨0,0,0,0,0,0,[],[]⟩:THist),0,0,(⟨0,0,0,0⟩:Tr08_Cell),(⟨0,0,0⟩:S54)⟩:Tr19_Answer)).f0).f1),iV .i64 ((((⟨(⟨0,0,0,0,0,0,[],[]⟩:THist),0,0,(⟨0,0,0,0⟩:Tr08_Cell),(⟨0,0,0⟩:S54)⟩:Tr19_Answer)).f0).f2),iV .u64 ((((⟨(⟨0,0,0,0,0,0,[],[]⟩:THist),0,0,(⟨0,0,0,0⟩:Tr08_Cell),(⟨0,0,0⟩:S54)⟩:Tr19_Answer)).f0).f3),iV .u64 ((((⟨(⟨0,0,0,0,0,0,[],[]⟩:THist),0,0,(⟨0,0,0,0⟩:Tr08_Cell),(⟨0,0,0⟩:S54)⟩:Tr19_Answer)).f0).f4),iV .i64 ((((⟨(⟨0,0,0,0,0,0,[],[]⟩:THist),0,0,(⟨0,0,0,0⟩:Tr08_Cell),(⟨0,0,0⟩:S54)⟩:Tr19_Answer)).f0).f5),.im (.row (((((⟨(⟨0,0,0,0,0,0,[],[]⟩:THist),0,0,(⟨0,0,0,0⟩:Tr08_Cell),(⟨0,0,0⟩:S54)⟩:Tr19_Answer)).f0).f6).map eBucket)),.im (.row (((((⟨(⟨0,0,0,0,0,0,[],[]⟩:THist),0,0,(⟨0,0,0,0⟩:Tr08_Cell),(⟨0,0,0⟩:S54)⟩:Tr19_Answer)).f0).f7).map eBucket)),iV .i64 (((⟨(⟨0,0,0,0,0,0,[],[]⟩:THist),0,0,(⟨0,0,0,0⟩:Tr08_Cell),(⟨0,0,0⟩:S54)⟩:Tr19_Answer)).f1),iV .u64 (((⟨(⟨0,0,0,0,0,0,[],[]⟩:THist),0,0,(⟨0,0,0,0⟩:Tr08_Cell),(⟨0,0,0⟩:S54)⟩:Tr19_Answer)).f2),iV .i64 ((((⟨(⟨0,0,0,0,0,0,[],[]⟩:THist),0,0,(⟨0,0,0,0⟩:Tr08_Cell),(⟨0,0,0⟩:S54)⟩:Tr19_Answer)).f3).f0),iV .i64 ((((⟨(⟨0,0,0,0,0,0,[],[]⟩:THist),0,0,(⟨0,0,0,0⟩:Tr08_Cell),(⟨0,0,0⟩:S54)⟩:Tr19_Answer)).f3).f1),iV .i64 ((((⟨(⟨0,0,0,0,0,0,[],[]⟩:THist),0,0,(⟨0,0,0,0⟩:Tr08_Cell),(⟨0,0,0⟩:S54)⟩:Tr19_Answer)).f3).f2),iV .u64 ((((⟨(⟨0,0,0,0,0,0,[],[]⟩:THist),0,0,(⟨0,0,0,0⟩:Tr08_Cell),(⟨0,0,0⟩:S54)⟩:Tr19_Answer)).f3).f3),iV .u64 ((((⟨(⟨0,0,0,0,0,0,[],[]⟩:THist),0,0,(⟨0,0,0,0⟩:Tr08_Cell),(⟨0,0,0⟩:S54)⟩:Tr19_Answer)).f4).f0),iV .u64 ((((⟨(⟨0,0,0,0,0,0,[],[]⟩:THist),0,0,(⟨0,0,0,0⟩:Tr08_Cell),(⟨0,0,0⟩:S54)⟩:Tr19_Answer)).f4).f1),iV .u64 ((((⟨(⟨0,0,0,0,0,0,[],[]⟩:THist),0,0,(⟨0,0,0,0⟩:Tr08_Cell),(⟨0,0,0⟩:S54)⟩:Tr19_Answer)).f4).f2)]))],0⟩) (by kernel_rfl) ?_
       refine AWp.ret ?_
       obtain rfl:=Option.some.inj H
       exact rl (.inl rfl) rfl (by kernel_rfl) (by kernel_rfl)
def f_l19_Is.f (a0:Teval_Answer) (a1:Tr19_Answer):Option (Bool):=(((f_r05_Same.f a0.f0 a1.f0)>>=fun t3937=>if t3937=true then(if(a0.f1==a1.f1)=true then(if(a0.f2==a1.f2)=true then(if((a0.f3.f0==a1.f3.f0)&&((a0.f3.f1==a1.f3.f1)&&((a0.f3.f2==a1.f3.f2)&&(((0:Int)==a1.f3.f3)&&true))))=true then(some ((a0.f4.f0==a1.f4.f0)&&((a0.f4.f1==a1.f4.f1)&&((a0.f4.f2==a1.f4.f2)&&true)))) else(some false)) else(some false)) else(some false)) else(some false)):Option (Bool))>>=fun x3943=>some x3943
theorem f_l19_Is.ok (a0:Teval_Answer) (a1:Tr19_Answer) (r:Bool) (H:f_l19_Is.f a0 a1=some r):Pv.Fn Tryz.prog 15 [.agg [iV .i64 a0.f0.f0,iV .i64 a0.f0.f1,iV .i64 a0.f0.f2,iV .u64 a0.f0.f3,iV .u64 a0.f0.f4,iV .i64 a0.f0.f5,.im (.row (a0.f0.f6.map eBucket)),.im (.row (a0.f0.f7.map eBucket)),iV .i64 a0.f1,iV .u64 a0.f2,iV .i64 a0.f3.f0,iV .i64 a0.f3.f1,iV .i64 a0.f3.f2,iV .u64 a0.f4.f0,iV .u64 a0.f4.f1,iV .u64 a0.f4.f2],.agg [iV .i64 a1.f0.f0,iV .i64 a1.f0.f1,iV .i64 a1.f0.f2,iV .u64 a1.f0.f3,iV .u64 a1.f0.f4,iV .i64 a1.f0.f5,.im (.row (a1.f0.f6.map eBucket)),.im (.row (a1.f0.f7.map eBucket)),iV .i64 a1.f1,iV .u64 a1.f2,iV .i64 a1.f3.f0,iV .i64 a1.f3.f1,iV .i64 a1.f3.f2,iV .u64 a1.f3.f3,iV .u64 a1.f4.f0,iV .u64 a1.f4.f1,iV .u64 a1.f4.f2]] [] 0 (fun x o=>x=bV r∧o=[]):=by
 unfold f_l19_Is.f at H
 refine Fn.bodyK [] Tryz.func15 rfl rfl (fun Γ hP hn => ?_)
 have hm:Tryz.prog.follows .mixedOrders=true:=by kernel_rfl
 replace hn:Γ.n=54:=hn
 refine sr hP hn hm [(0,.k 0),(1,.k 1)] [(2,.ptr 0 0 0),(3,.ptr 1 0 0)] [2,3] [(0,some (.box 49 [iV .i64 a0.f0.f0,iV .i64 a0.f0.f1,iV .i64 a0.f0.f2,iV .u64 a0.f0.f3,iV .u64 a0.f0.f4,iV .i64 a0.f0.f5,.im (.row (a0.f0.f6.map eBucket)),.im (.row (a0.f0.f7.map eBucket)),iV .i64 a0.f1,iV .u64 a0.f2,iV .i64 a0.f3.f0,iV .i64 a0.f3.f1,iV .i64 a0.f3.f2,iV .u64 a0.f4.f0,iV .u64 a0.f4.f1,iV .u64 a0.f4.f2])),(1,some (.box 56 [iV .i64 a1.f0.f0,iV .i64 a1.f0.f1,iV .i64 a1.f0.f2,iV .u64 a1.f0.f3,iV .u64 a1.f0.f4,iV .i64 a1.f0.f5,.im (.row (a1.f0.f6.map eBucket)),.im (.row (a1.f0.f7.map eBucket)),iV .i64 a1.f1,iV .u64 a1.f2,iV .i64 a1.f3.f0,iV .i64 a1.f3.f1,iV .i64 a1.f3.f2,iV .u64 a1.f3.f3,iV .u64 a1.f4.f0,iV .u64 a1.f4.f1,iV .u64 a1.f4.f2]))] [0,1] [] (by kernel_rfl) trivial ?_
 refine AWp.seq ?_
 obtain⟨o3944,e3945,H⟩:=bind_of H
 refine AWp.mono (Q:=fun e s=>(match (generalizing:=false) o3944 with | x3943=>e = .normal∧s=⟨[(4,bV x3943)],[],0⟩)) (AWp.cv ?_) ?_
 ·replace H:=e3945;clear e3945
  obtain⟨t3937,e3938,H⟩:=bind_of H
  rcases Bool.eq_false_or_eq_true t3937 with c3939 | c3939
  ·replace H:=iT c3939 H
   rcases Bool.eq_false_or_eq_true (a0.f1==a1.f1) with c3940 | c3940
   ·replace H:=iT c3940 H
    rcases Bool.eq_false_or_eq_true (a0.f2==a1.f2) with c3941 | c3941
    ·replace H:=iT c3941 H
     rcases Bool.eq_false_or_eq_true ((a0.f3.f0==a1.f3.f0)&&((a0.f3.f1==a1.f3.f1)&&((a0.f3.f2==a1.f3.f2)&&(((0:Int)==a1.f3.f3)&&true)))) with c3942 | c3942
     ·replace H:=iT c3942 H
      refine rg hP hn hm [(4,.call [] [] [] [] 0 (bV t3937) []),(5,.b true),(12,.b true),(19,.b true),(32,.more (xAgg none)),(34,.b true),(47,.more (xAggA none))] [(4,bV ((a0.f4.f0==a1.f4.f0)&&((a0.f4.f1==a1.f4.f1)&&((a0.f4.f2==a1.f4.f2)&&true))))] [4] [] [] [_,_,_,_,_,_] (by kernel_rfl) ⟨Tryz.call12,f_r05_Same.ok a0.f0 a1.f0 t3937 e3938,c3939,c3940,c3941,c3942,trivial⟩ ?_
      obtain rfl:=Option.some.inj H
      exact lf [] [] [] (by kernel_rfl) ⟨rfl,rfl⟩
     ·replace H:=iF c3942 H
      refine rg hP hn hm [(4,.call [] [] [] [] 0 (bV t3937) []),(5,.b true),(12,.b true),(19,.b true),(32,.more (xAgg none)),(34,.b false)] [(4,bV false)] [4] [] [] [_,_,_,_,_,_] (by kernel_rfl) ⟨Tryz.call12,f_r05_Same.ok a0.f0 a1.f0 t3937 e3938,c3939,c3940,c3941,c3942,trivial⟩ ?_
      obtain rfl:=Option.some.inj H
      exact lf [] [] [] (by kernel_rfl) ⟨rfl,rfl⟩
    ·replace H:=iF c3941 H
     refine rg hP hn hm [(4,.call [] [] [] [] 0 (bV t3937) []),(5,.b true),(12,.b true),(19,.b false)] [(4,bV false)] [4] [] [] [_,_,_,_,_] (by kernel_rfl) ⟨Tryz.call12,f_r05_Same.ok a0.f0 a1.f0 t3937 e3938,c3939,c3940,c3941,trivial⟩ ?_
     obtain rfl:=Option.some.inj H
     exact lf [] [] [] (by kernel_rfl) ⟨rfl,rfl⟩
   ·replace H:=iF c3940 H
    refine rg hP hn hm [(4,.call [] [] [] [] 0 (bV t3937) []),(5,.b true),(12,.b false)] [(4,bV false)] [4] [] [] [_,_,_,_] (by kernel_rfl) ⟨Tryz.call12,f_r05_Same.ok a0.f0 a1.f0 t3937 e3938,c3939,c3940,trivial⟩ ?_
    obtain rfl:=Option.some.inj H
    exact lf [] [] [] (by kernel_rfl) ⟨rfl,rfl⟩
  ·replace H:=iF c3939 H
   refine rg hP hn hm [(4,.call [] [] [] [] 0 (bV t3937) []),(5,.b false)] [(4,bV false)] [4] [] [] [_,_,_] (by kernel_rfl) ⟨Tryz.call12,f_r05_Same.ok a0.f0 a1.f0 t3937 e3938,c3939,trivial⟩ ?_
   obtain rfl:=Option.some.inj H
   exact lf [] [] [] (by kernel_rfl) ⟨rfl,rfl⟩
 ·obtain⟨x3943,rfl⟩:∃ z,z=o3944:=⟨_,rfl⟩
  rintro e s ⟨rfl,rfl⟩
  refine AWp.conv (inv:=[]) (vk:=[]) (e0:=[]) (t:=⟨[(4,bV x3943)],[],0⟩) (by kernel_rfl) ?_
  refine AWp.ret ?_
  obtain rfl:=Option.some.inj H
  exact rl (.inl rfl) rfl (by kernel_rfl) (by kernel_rfl)
def f_r19_Do.f (a0:Tr19_Ask) (a1:List TSample):Option (Tr19_Answer×Int):=((if(decide (a0.f0<(0:Int)))=true then(some true) else(some (decide (a0.f0>(5:Int))))):Option (Bool))>>=fun x3963=>if x3963=true then(some ((⟨(⟨0,0,0,0,0,0,[],[]⟩:THist),0,0,(⟨0,0,0,0⟩:Tr08_Cell),(⟨0,0,0⟩:S54)⟩:Tr19_Answer),1)) else((f_r19_Of.f a0 a1)>>=fun t3967=>if(t3967.2 != (0:Int))=true then(some ((⟨(⟨0,0,0,0,0,0,[],[]⟩:THist),0,0,(⟨0,0,0,0⟩:Tr08_Cell),(⟨0,0,0⟩:S54)⟩:Tr19_Answer),t3967.2)) else((f_r19_Finish.f a0 (t3967.1))>>=fun t3972=>some ((⟨(⟨((t3972.1).f0).f0,((t3972.1).f0).f1,((t3972.1).f0).f2,((t3972.1).f0).f3,((t3972.1).f0).f4,((t3972.1).f0).f5,((t3972.1).f0).f6,((t3972.1).f0).f7⟩:THist),(t3972.1).f1,(t3972.1).f2,(⟨((t3972.1).f3).f0,((t3972.1).f3).f1,((t3972.1).f3).f2,((t3972.1).f3).f3⟩:Tr08_Cell),(⟨((t3972.1).f4).f0,((t3972.1).f4).f1,((t3972.1).f4).f2⟩:S54)⟩:Tr19_Answer),t3972.2)))
theorem f_r19_Do.ok (a0:Tr19_Ask) (a1:List TSample) (r:Tr19_Answer×Int) (H:f_r19_Do.f a0 a1=some r):Pv.Fn Tryz.prog 17 [.agg (ar19_Ask a0),.im (.row (a1.map eSample))] [] 0 (fun x o=>x = .tup [.agg [iV .i64 (((r.1).f0).f0),iV .i64 (((r.1).f0).f1),iV .i64 (((r.1).f0).f2),iV .u64 (((r.1).f0).f3),iV .u64 (((r.1).f0).f4),iV .i64 (((r.1).f0).f5),.im (.row ((((r.1).f0).f6).map eBucket)),.im (.row ((((r.1).f0).f7).map eBucket)),iV .i64 ((r.1).f1),iV .u64 ((r.1).f2),iV .i64 (((r.1).f3).f0),iV .i64 (((r.1).f3).f1),iV .i64 (((r.1).f3).f2),iV .u64 (((r.1).f3).f3),iV .u64 (((r.1).f4).f0),iV .u64 (((r.1).f4).f1),iV .u64 (((r.1).f4).f2)],iV .i64 r.2]∧o=[]):=by
 unfold f_r19_Do.f at H
 refine Fn.bodyK [] Tryz.func17 rfl rfl (fun Γ hP hn => ?_)
 have hm:Tryz.prog.follows .mixedOrders=true:=by kernel_rfl
 replace hn:Γ.n=32:=hn
 refine sr hP hn hm [(0,.k 0),(1,.k 1)] [(2,.ptr 0 0 0),(4,.ptr 1 0 0)] [1,2,4] [(0,some (.box 24 (ar19_Ask a0))),(1,some (.box 56 [iV .i64 0,iV .i64 0,iV .i64 0,iV .u64 0,iV .u64 0,iV .i64 0,.none0,.none0,iV .i64 0,iV .u64 0,iV .i64 0,iV .i64 0,iV .i64 0,iV .u64 0,iV .u64 0,iV .u64 0,iV .u64 0]))] [0,1] [] (by kernel_rfl) trivial ?_
 refine AWp.seq ?_
 refine AWp.seq ?_
 obtain⟨o3974,e3975,H⟩:=bind_of H
 refine AWp.mono (Q:=fun e s=>(match (generalizing:=false) o3974 with | x3963=>e = .normal∧s=⟨[(1,.im (.row (a1.map eSample))),(2,.ptr 2 0 0),(4,.ptr 3 0 0),(15,bV x3963)],[(2,some (.box 24 (ar19_Ask a0))),(3,some (.box 56 [iV .i64 0,iV .i64 0,iV .i64 0,iV .u64 0,iV .u64 0,iV .i64 0,.none0,.none0,iV .i64 0,iV .u64 0,iV .i64 0,iV .i64 0,iV .i64 0,iV .u64 0,iV .u64 0,iV .u64 0,iV .u64 0]))],0⟩)) (AWp.cv ?_) ?_
 ·replace H:=e3975;clear e3975
  rcases Bool.eq_false_or_eq_true (decide (a0.f0<(0:Int))) with c3962 | c3962
  ·replace H:=iT c3962 H
   refine rg hP hn hm [(3,.b true)] [(15,bV true)] [1,2,4,15] [] [0,1] [_] (by kernel_rfl) ⟨c3962,trivial⟩ ?_
   obtain rfl:=Option.some.inj H
   exact lf [(0,2),(1,3)] [] [] (by kernel_rfl) ⟨rfl,rfl⟩
  ·replace H:=iF c3962 H
   refine rg hP hn hm [(3,.b false)] [(15,bV (decide (a0.f0>(5:Int))))] [1,2,4,15] [] [0,1] [_] (by kernel_rfl) ⟨c3962,trivial⟩ ?_
   obtain rfl:=Option.some.inj H
   exact lf [(0,2),(1,3)] [] [] (by kernel_rfl) ⟨rfl,rfl⟩
 ·obtain⟨x3963,rfl⟩:∃ z,z=o3974:=⟨_,rfl⟩
  rintro e s ⟨rfl,rfl⟩
  refine AWp.cond x3963 (by kernel_rfl) (fun c3964 => ?_) (fun c3964 => ?_)
  ·replace H:=iT c3964 H
   refine sr hP hn hm [] [(5,iV .i64 1)] [4,5] [] [3] [] (by kernel_rfl) trivial ?_
   refine AWp.conv (inv:=[(3,0)]) (vk:=[]) (e0:=[]) (t:=⟨[(4,.ptr 0 0 0),(5,iV .i64 1)],[(0,some (.box 56 [iV .i64 ((((⟨(⟨0,0,0,0,0,0,[],[]⟩:THist),0,0,(⟨0,0,0,0⟩:Tr08_Cell),(⟨0,0,0⟩:S54)⟩:Tr19_Answer)).f0).f0),iV .i64 ((((⟨(⟨0,0,0,0,0,0,[],[]⟩:THist),0,0,(⟨0,0,0,0⟩:Tr08_Cell),(⟨0,0,0⟩:S54)⟩:Tr19_Answer)).f0).f1),iV .i64 ((((⟨(⟨0,0,0,0,0,0,[],[]⟩:THist),0,0,(⟨0,0,0,0⟩:Tr08_Cell),(⟨0,0,0⟩:S54)⟩:Tr19_Answer)).f0).f2),iV .u64 ((((⟨(⟨0,0,0,0,0,0,[],[]⟩:THist),0,0,(⟨0,0,0,0⟩:Tr08_Cell),(⟨0,0,0⟩:S54)⟩:Tr19_Answer)).f0).f3),iV .u64 ((((⟨(⟨0,0,0,0,0,0,[],[]⟩:THist),0,0,(⟨0,0,0,0⟩:Tr08_Cell),(⟨0,0,0⟩:S54)⟩:Tr19_Answer)).f0).f4),iV .i64 ((((⟨(⟨0,0,0,0,0,0,[],[]⟩:THist),0,0,(⟨0,0,0,0⟩:Tr08_Cell),(⟨0,0,0⟩:S54)⟩:Tr19_Answer)).f0).f5),.im (.row (((((⟨(⟨0,0,0,0,0,0,[],[]⟩:THist),0,0,(⟨0,0,0,0⟩:Tr08_Cell),(⟨0,0,0⟩:S54)⟩:Tr19_Answer)).f0).f6).map eBucket)),.im (.row (((((⟨(⟨0,0,0,0,0,0,[],[]⟩:THist),0,0,(⟨0,0,0,0⟩:Tr08_Cell),(⟨0,0,0⟩:S54)⟩:Tr19_Answer)).f0).f7).map eBucket)),iV .i64 (((⟨(⟨0,0,0,0,0,0,[],[]⟩:THist),0,0,(⟨0,0,0,0⟩:Tr08_Cell),(⟨0,0,0⟩:S54)⟩:Tr19_Answer)).f1),iV .u64 (((⟨(⟨0,0,0,0,0,0,[],[]⟩:THist),0,0,(⟨0,0,0,0⟩:Tr08_Cell),(⟨0,0,0⟩:S54)⟩:Tr19_Answer)).f2),iV .i64 ((((⟨(⟨0,0,0,0,0,0,[],[]⟩:THist),0,0,(⟨0,0,0,0⟩:Tr08_Cell),(⟨0,0,0⟩:S54)⟩:Tr19_Answer)).f3).f0),iV .i64 ((((⟨(⟨0,0,0,0,0,0,[],[]⟩:THist),0,0,(⟨0,0,0,0⟩:Tr08_Cell),(⟨0,0,0⟩:S54)⟩:Tr19_Answer)).f3).f1),iV .i64 ((((⟨(⟨0,0,0,0,0,0,[],[]⟩:THist),0,0,(⟨0,0,0,0⟩:Tr08_Cell),(⟨0,0,0⟩:S54)⟩:Tr19_Answer)).f3).f2),iV .u64 ((((⟨(⟨0,0,0,0,0,0,[],[]⟩:THist),0,0,(⟨0,0,0,0⟩:Tr08_Cell),(⟨0,0,0⟩:S54)⟩:Tr19_Answer)).f3).f3),iV .u64 ((((⟨(⟨0,0,0,0,0,0,[],[]⟩:THist),0,0,(⟨0,0,0,0⟩:Tr08_Cell),(⟨0,0,0⟩:S54)⟩:Tr19_Answer)).f4).f0),iV .u64 ((((⟨(⟨0,0,0,0,0,0,[],[]⟩:THist),0,0,(⟨0,0,0,0⟩:Tr08_Cell),(⟨0,0,0⟩:S54)⟩:Tr19_Answer)).f4).f1),iV .u64 ((((⟨(⟨0,0,0,0,0,0,[],[]⟩:THist),0,0,(⟨0,0,0,0⟩:Tr08_Cell),(⟨0,0,0⟩:S54)⟩:Tr19_Answer)).f4).f2)]))],0⟩) (by kernel_rfl) ?_
   refine AWp.ret ?_
   obtain rfl:=Option.some.inj H
   exact rl (.inl rfl) rfl (by kernel_rfl) (by kernel_rfl)
  ·replace H:=iF c3964 H
   refine AWp.skip ?_
   obtain⟨t3967,e3968,H⟩:=bind_of H
   refine sr hP hn hm [(2,.call [] [] [] [] 0 (.tup [.agg (aHist (t3967.1)),iV .i64 t3967.2]) []),(6,.k 4)] [(6,.ptr 4 0 0),(7,iV .i64 t3967.2)] [2,4,6,7] [(4,some (.box 32 (aHist (t3967.1))))] [2,3,4] [_,_] (by kernel_rfl) ⟨Tryz.call11,f_r19_Of.ok a0 a1 t3967 e3968,trivial⟩ ?_
   refine AWp.seq ?_
   refine sr hP hn hm [] [(24,bV (t3967.2 != (0:Int)))] [2,4,6,7,24] [] [2,3,4] [] (by kernel_rfl) trivial ?_
   refine AWp.cond (t3967.2 != (0:Int)) (by kernel_rfl) (fun c3969 => ?_) (fun c3969 => ?_)
   ·replace H:=iT c3969 H
    refine sr hP hn hm [] [(5,iV .i64 t3967.2)] [4,5] [] [3] [] (by kernel_rfl) trivial ?_
    refine AWp.conv (inv:=[(3,0)]) (vk:=[]) (e0:=[]) (t:=⟨[(4,.ptr 0 0 0),(5,iV .i64 t3967.2)],[(0,some (.box 56 [iV .i64 ((((⟨(⟨0,0,0,0,0,0,[],[]⟩:THist),0,0,(⟨0,0,0,0⟩:Tr08_Cell),(⟨0,0,0⟩:S54)⟩:Tr19_Answer)).f0).f0),iV .i64 ((((⟨(⟨0,0,0,0,0,0,[],[]⟩:THist),0,0,(⟨0,0,0,0⟩:Tr08_Cell),(⟨0,0,0⟩:S54)⟩:Tr19_Answer)).f0).f1),iV .i64 ((((⟨(⟨0,0,0,0,0,0,[],[]⟩:THist),0,0,(⟨0,0,0,0⟩:Tr08_Cell),(⟨0,0,0⟩:S54)⟩:Tr19_Answer)).f0).f2),iV .u64 ((((⟨(⟨0,0,0,0,0,0,[],[]⟩:THist),0,0,(⟨0,0,0,0⟩:Tr08_Cell),(⟨0,0,0⟩:S54)⟩:Tr19_Answer)).f0).f3),iV .u64 ((((⟨(⟨0,0,0,0,0,0,[],[]⟩:THist),0,0,(⟨0,0,0,0⟩:Tr08_Cell),(⟨0,0,0⟩:S54)⟩:Tr19_Answer)).f0).f4),iV .i64 ((((⟨(⟨0,0,0,0,0,0,[],[]⟩:THist),0,0,(⟨0,0,0,0⟩:Tr08_Cell),(⟨0,0,0⟩:S54)⟩:Tr19_Answer)).f0).f5),.im (.row (((((⟨(⟨0,0,0,0,0,0,[],[]⟩:THist),0,0,(⟨0,0,0,0⟩:Tr08_Cell),(⟨0,0,0⟩:S54)⟩:Tr19_Answer)).f0).f6).map eBucket)),.im (.row (((((⟨(⟨0,0,0,0,0,0,[],[]⟩:THist),0,0,(⟨0,0,0,0⟩:Tr08_Cell),(⟨0,0,0⟩:S54)⟩:Tr19_Answer)).f0).f7).map eBucket)),iV .i64 (((⟨(⟨0,0,0,0,0,0,[],[]⟩:THist),0,0,(⟨0,0,0,0⟩:Tr08_Cell),(⟨0,0,0⟩:S54)⟩:Tr19_Answer)).f1),iV .u64 (((⟨(⟨0,0,0,0,0,0,[],[]⟩:THist),0,0,(⟨0,0,0,0⟩:Tr08_Cell),(⟨0,0,0⟩:S54)⟩:Tr19_Answer)).f2),iV .i64 ((((⟨(⟨0,0,0,0,0,0,[],[]⟩:THist),0,0,(⟨0,0,0,0⟩:Tr08_Cell),(⟨0,0,0⟩:S54)⟩:Tr19_Answer)).f3).f0),iV .i64 ((((⟨(⟨0,0,0,0,0,0,[],[]⟩:THist),0,0,(⟨0,0,0,0⟩:Tr08_Cell),(⟨0,0,0⟩:S54)⟩:Tr19_Answer)).f3).f1),iV .i64 ((((⟨(⟨0,0,0,0,0,0,[],[]⟩:THist),0,0,(⟨0,0,0,0⟩:Tr08_Cell),(⟨0,0,0⟩:S54)⟩:Tr19_Answer)).f3).f2),iV .u64 ((((⟨(⟨0,0,0,0,0,0,[],[]⟩:THist),0,0,(⟨0,0,0,0⟩:Tr08_Cell),(⟨0,0,0⟩:S54)⟩:Tr19_Answer)).f3).f3),iV .u64 ((((⟨(⟨0,0,0,0,0,0,[],[]⟩:THist),0,0,(⟨0,0,0,0⟩:Tr08_Cell),(⟨0,0,0⟩:S54)⟩:Tr19_Answer)).f4).f0),iV .u64 ((((⟨(⟨0,0,0,0,0,0,[],[]⟩:THist),0,0,(⟨0,0,0,0⟩:Tr08_Cell),(⟨0,0,0⟩:S54)⟩:Tr19_Answer)).f4).f1),iV .u64 ((((⟨(⟨0,0,0,0,0,0,[],[]⟩:THist),0,0,(⟨0,0,0,0⟩:Tr08_Cell),(⟨0,0,0⟩:S54)⟩:Tr19_Answer)).f4).f2)]))],0⟩) (by kernel_rfl) ?_
    refine AWp.ret ?_
    obtain rfl:=Option.some.inj H
    exact rl (.inl rfl) rfl (by kernel_rfl) (by kernel_rfl)
   ·replace H:=iF c3969 H
    refine AWp.skip ?_
    obtain⟨t3972,e3973,H⟩:=bind_of H
    refine sr hP hn hm [(2,.call [] [] [] [] 0 (.tup [.agg [iV .i64 (((t3972.1).f0).f0),iV .i64 (((t3972.1).f0).f1),iV .i64 (((t3972.1).f0).f2),iV .u64 (((t3972.1).f0).f3),iV .u64 (((t3972.1).f0).f4),iV .i64 (((t3972.1).f0).f5),.im (.row ((((t3972.1).f0).f6).map eBucket)),.im (.row ((((t3972.1).f0).f7).map eBucket)),iV .i64 ((t3972.1).f1),iV .u64 ((t3972.1).f2),iV .i64 (((t3972.1).f3).f0),iV .i64 (((t3972.1).f3).f1),iV .i64 (((t3972.1).f3).f2),iV .u64 (((t3972.1).f3).f3),iV .u64 (((t3972.1).f4).f0),iV .u64 (((t3972.1).f4).f1),iV .u64 (((t3972.1).f4).f2)],iV .i64 t3972.2]) [])] [(5,iV .i64 t3972.2)] [4,5] [(3,some (.box 56 [iV .i64 (((t3972.1).f0).f0),iV .i64 (((t3972.1).f0).f1),iV .i64 (((t3972.1).f0).f2),iV .u64 (((t3972.1).f0).f3),iV .u64 (((t3972.1).f0).f4),iV .i64 (((t3972.1).f0).f5),.im (.row ((((t3972.1).f0).f6).map eBucket)),.im (.row ((((t3972.1).f0).f7).map eBucket)),iV .i64 ((t3972.1).f1),iV .u64 ((t3972.1).f2),iV .i64 (((t3972.1).f3).f0),iV .i64 (((t3972.1).f3).f1),iV .i64 (((t3972.1).f3).f2),iV .u64 (((t3972.1).f3).f3),iV .u64 (((t3972.1).f4).f0),iV .u64 (((t3972.1).f4).f1),iV .u64 (((t3972.1).f4).f2)]))] [3] [_,_] (by kernel_rfl) ⟨Tryz.call14,f_r19_Finish.ok a0 (t3967.1) t3972 e3973,trivial⟩ ?_
    refine AWp.conv (inv:=[(3,0)]) (vk:=[]) (e0:=[]) (t:=⟨[(4,.ptr 0 0 0),(5,iV .i64 t3972.2)],[(0,some (.box 56 [iV .i64 ((((⟨(⟨((t3972.1).f0).f0,((t3972.1).f0).f1,((t3972.1).f0).f2,((t3972.1).f0).f3,((t3972.1).f0).f4,((t3972.1).f0).f5,((t3972.1).f0).f6,((t3972.1).f0).f7⟩:THist),(t3972.1).f1,(t3972.1).f2,(⟨((t3972.1).f3).f0,((t3972.1).f3).f1,((t3972.1).f3).f2,((t3972.1).f3).f3⟩:Tr08_Cell),(⟨((t3972.1).f4).f0,((t3972.1).f4).f1,((t3972.1).f4).f2⟩:S54)⟩:Tr19_Answer)).f0).f0),iV .i64 ((((⟨(⟨((t3972.1).f0).f0,((t3972.1).f0).f1,((t3972.1).f0).f2,((t3972.1).f0).f3,((t3972.1).f0).f4,((t3972.1).f0).f5,((t3972.1).f0).f6,((t3972.1).f0).f7⟩:THist),(t3972.1).f1,(t3972.1).f2,(⟨((t3972.1).f3).f0,((t3972.1).f3).f1,((t3972.1).f3).f2,((t3972.1).f3).f3⟩:Tr08_Cell),(⟨((t3972.1).f4).f0,((t3972.1).f4).f1,((t3972.1).f4).f2⟩:S54)⟩:Tr19_Answer)).f0).f1),iV .i64 ((((⟨(⟨((t3972.1).f0).f0,((t3972.1).f0).f1,((t3972.1).f0).f2,((t3972.1).f0).f3,((t3972.1).f0).f4,((t3972.1).f0).f5,((t3972.1).f0).f6,((t3972.1).f0).f7⟩:THist),(t3972.1).f1,(t3972.1).f2,(⟨((t3972.1).f3).f0,((t3972.1).f3).f1,((t3972.1).f3).f2,((t3972.1).f3).f3⟩:Tr08_Cell),(⟨((t3972.1).f4).f0,((t3972.1).f4).f1,((t3972.1).f4).f2⟩:S54)⟩:Tr19_Answer)).f0).f2),iV .u64 ((((⟨(⟨((t3972.1).f0).f0,((t3972.1).f0).f1,((t3972.1).f0).f2,((t3972.1).f0).f3,((t3972.1).f0).f4,((t3972.1).f0).f5,((t3972.1).f0).f6,((t3972.1).f0).f7⟩:THist),(t3972.1).f1,(t3972.1).f2,(⟨((t3972.1).f3).f0,((t3972.1).f3).f1,((t3972.1).f3).f2,((t3972.1).f3).f3⟩:Tr08_Cell),(⟨((t3972.1).f4).f0,((t3972.1).f4).f1,((t3972.1).f4).f2⟩:S54)⟩:Tr19_Answer)).f0).f3),iV .u64 ((((⟨(⟨((t3972.1).f0).f0,((t3972.1).f0).f1,((t3972.1).f0).f2,((t3972.1).f0).f3,((t3972.1).f0).f4,((t3972.1).f0).f5,((t3972.1).f0).f6,((t3972.1).f0).f7⟩:THist),(t3972.1).f1,(t3972.1).f2,(⟨((t3972.1).f3).f0,((t3972.1).f3).f1,((t3972.1).f3).f2,((t3972.1).f3).f3⟩:Tr08_Cell),(⟨((t3972.1).f4).f0,((t3972.1).f4).f1,((t3972.1).f4).f2⟩:S54)⟩:Tr19_Answer)).f0).f4),iV .i64 ((((⟨(⟨((t3972.1).f0).f0,((t3972.1).f0).f1,((t3972.1).f0).f2,((t3972.1).f0).f3,((t3972.1).f0).f4,((t3972.1).f0).f5,((t3972.1).f0).f6,((t3972.1).f0).f7⟩:THist),(t3972.1).f1,(t3972.1).f2,(⟨((t3972.1).f3).f0,((t3972.1).f3).f1,((t3972.1).f3).f2,((t3972.1).f3).f3⟩:Tr08_Cell),(⟨((t3972.1).f4).f0,((t3972.1).f4).f1,((t3972.1).f4).f2⟩:S54)⟩:Tr19_Answer)).f0).f5),.im (.row (((((⟨(⟨((t3972.1).f0).f0,((t3972.1).f0).f1,((t3972.1).f0).f2,((t3972.1).f0).f3,((t3972.1).f0).f4,((t3972.1).f0).f5,((t3972.1).f0).f6,((t3972.1).f0).f7⟩:THist),(t3972.1).f1,(t3972.1).f2,(⟨((t3972.1).f3).f0,((t3972.1).f3).f1,((t3972.1).f3).f2,((t3972.1).f3).f3⟩:Tr08_Cell),(⟨((t3972.1).f4).f0,((t3972.1).f4).f1,((t3972.1).f4).f2⟩:S54)⟩:Tr19_Answer)).f0).f6).map eBucket)),.im (.row (((((⟨(⟨((t3972.1).f0).f0,((t3972.1).f0).f1,((t3972.1).f0).f2,((t3972.1).f0).f3,((t3972.1).f0).f4,((t3972.1).f0).f5,((t3972.1).f0).f6,((t3972.1).f0).f7⟩:THist),(t3972.1).f1,(t3972.1).f2,(⟨((t3972.1).f3).f0,((t3972.1).f3).f1,((t3972.1).f3).f2,((t3972.1).f3).f3⟩:Tr08_Cell),(⟨((t3972.1).f4).f0,((t3972.1).f4).f1,((t3972.1).f4).f2⟩:S54)⟩:Tr19_Answer)).f0).f7).map eBucket)),iV .i64 (((⟨(⟨((t3972.1).f0).f0,((t3972.1).f0).f1,((t3972.1).f0).f2,((t3972.1).f0).f3,((t3972.1).f0).f4,((t3972.1).f0).f5,((t3972.1).f0).f6,((t3972.1).f0).f7⟩:THist),(t3972.1).f1,(t3972.1).f2,(⟨((t3972.1).f3).f0,((t3972.1).f3).f1,((t3972.1).f3).f2,((t3972.1).f3).f3⟩:Tr08_Cell),(⟨((t3972.1).f4).f0,((t3972.1).f4).f1,((t3972.1).f4).f2⟩:S54)⟩:Tr19_Answer)).f1),iV .u64 (((⟨(⟨((t3972.1).f0).f0,((t3972.1).f0).f1,((t3972.1).f0).f2,((t3972.1).f0).f3,((t3972.1).f0).f4,((t3972.1).f0).f5,((t3972.1).f0).f6,((t3972.1).f0).f7⟩:THist),(t3972.1).f1,(t3972.1).f2,(⟨((t3972.1).f3).f0,((t3972.1).f3).f1,((t3972.1).f3).f2,((t3972.1).f3).f3⟩:Tr08_Cell),(⟨((t3972.1).f4).f0,((t3972.1).f4).f1,((t3972.1).f4).f2⟩:S54)⟩:Tr19_Answer)).f2),iV .i64 ((((⟨(⟨((t3972.1).f0).f0,((t3972.1).f0).f1,((t3972.1).f0).f2,((t3972.1).f0).f3,((t3972.1).f0).f4,((t3972.1).f0).f5,((t3972.1).f0).f6,((t3972.1).f0).f7⟩:THist),(t3972.1).f1,(t3972.1).f2,(⟨((t3972.1).f3).f0,((t3972.1).f3).f1,((t3972.1).f3).f2,((t3972.1).f3).f3⟩:Tr08_Cell),(⟨((t3972.1).f4).f0,((t3972.1).f4).f1,((t3972.1).f4).f2⟩:S54)⟩:Tr19_Answer)).f3).f0),iV .i64 ((((⟨(⟨((t3972.1).f0).f0,((t3972.1).f0).f1,((t3972.1).f0).f2,((t3972.1).f0).f3,((t3972.1).f0).f4,((t3972.1).f0).f5,((t3972.1).f0).f6,((t3972.1).f0).f7⟩:THist),(t3972.1).f1,(t3972.1).f2,(⟨((t3972.1).f3).f0,((t3972.1).f3).f1,((t3972.1).f3).f2,((t3972.1).f3).f3⟩:Tr08_Cell),(⟨((t3972.1).f4).f0,((t3972.1).f4).f1,((t3972.1).f4).f2⟩:S54)⟩:Tr19_Answer)).f3).f1),iV .i64 ((((⟨(⟨((t3972.1).f0).f0,((t3972.1).f0).f1,((t3972.1).f0).f2,((t3972.1).f0).f3,((t3972.1).f0).f4,((t3972.1).f0).f5,((t3972.1).f0).f6,((t3972.1).f0).f7⟩:THist),(t3972.1).f1,(t3972.1).f2,(⟨((t3972.1).f3).f0,((t3972.1).f3).f1,((t3972.1).f3).f2,((t3972.1).f3).f3⟩:Tr08_Cell),(⟨((t3972.1).f4).f0,((t3972.1).f4).f1,((t3972.1).f4).f2⟩:S54)⟩:Tr19_Answer)).f3).f2),iV .u64 ((((⟨(⟨((t3972.1).f0).f0,((t3972.1).f0).f1,((t3972.1).f0).f2,((t3972.1).f0).f3,((t3972.1).f0).f4,((t3972.1).f0).f5,((t3972.1).f0).f6,((t3972.1).f0).f7⟩:THist),(t3972.1).f1,(t3972.1).f2,(⟨((t3972.1).f3).f0,((t3972.1).f3).f1,((t3972.1).f3).f2,((t3972.1).f3).f3⟩:Tr08_Cell),(⟨((t3972.1).f4).f0,((t3972.1).f4).f1,((t3972.1).f4).f2⟩:S54)⟩:Tr19_Answer)).f3).f3),iV .u64 ((((⟨(⟨((t3972.1).f0).f0,((t3972.1).f0).f1,((t3972.1).f0).f2,((t3972.1).f0).f3,((t3972.1).f0).f4,((t3972.1).f0).f5,((t3972.1).f0).f6,((t3972.1).f0).f7⟩:THist),(t3972.1).f1,(t3972.1).f2,(⟨((t3972.1).f3).f0,((t3972.1).f3).f1,((t3972.1).f3).f2,((t3972.1).f3).f3⟩:Tr08_Cell),(⟨((t3972.1).f4).f0,((t3972.1).f4).f1,((t3972.1).f4).f2⟩:S54)⟩:Tr19_Answer)).f4).f0),iV .u64 ((((⟨(⟨((t3972.1).f0).f0,((t3972.1).f0).f1,((t3972.1).f0).f2,((t3972.1).f0).f3,((t3972.1).f0).f4,((t3972.1).f0).f5,((t3972.1).f0).f6,((t3972.1).f0).f7⟩:THist),(t3972.1).f1,(t3972.1).f2,(⟨((t3972.1).f3).f0,((t3972.1).f3).f1,((t3972.1).f3).f2,((t3972.1).f3).f3⟩:Tr08_Cell),(⟨((t3972.1).f4).f0,((t3972.1).f4).f1,((t3972.1).f4).f2⟩:S54)⟩:Tr19_Answer)).f4).f1),iV .u64 ((((⟨(⟨((t3972.1).f0).f0,((t3972.1).f0).f1,((t3972.1).f0).f2,((t3972.1).f0).f3,((t3972.1).f0).f4,((t3972.1).f0).f5,((t3972.1).f0).f6,((t3972.1).f0).f7⟩:THist),(t3972.1).f1,(t3972.1).f2,(⟨((t3972.1).f3).f0,((t3972.1).f3).f1,((t3972.1).f3).f2,((t3972.1).f3).f3⟩:Tr08_Cell),(⟨((t3972.1).f4).f0,((t3972.1).f4).f1,((t3972.1).f4).f2⟩:S54)⟩:Tr19_Answer)).f4).f2)]))],0⟩) (by kernel_rfl) ?_
    refine AWp.ret ?_
    obtain rfl:=Option.some.inj H
    exact rl (.inl rfl) rfl (by kernel_rfl) (by kernel_rfl)
def f_slices_Equal_api_Bucket.l0 (a0:List TBucket) (a1:List TBucket) (x4008:Int):Option (Bool ⊕ Unit):=if(decide (x4008<(a0.length:Int)))=true then((at? a0 x4008)>>=fun b4016=>(at? a1 x4008)>>=fun b4019=>if(!((b4016.f0==b4019.f0)&&((b4016.f1==b4019.f1)&&true)))=true then(some (.inl false)) else(f_slices_Equal_api_Bucket.l0 a0 a1 (i64.wrap (x4008+(1:Int))))) else(some (.inr ()))
partial_fixpoint
def f_slices_Equal_api_Bucket.f (a0:List TBucket) (a1:List TBucket):Option (Bool):=if((a0.length:Int) != (a1.length:Int))=true then(some false) else((f_slices_Equal_api_Bucket.l0 a0 a1 0)>>=fun oo=>match oo with | .inl rr=>(some rr) | .inr _=>(some true))
theorem f_slices_Equal_api_Bucket.ok (a0:List TBucket) (a1:List TBucket) (r:Bool) (H:f_slices_Equal_api_Bucket.f a0 a1=some r):Pv.Fn Tryz.prog 52 [.im (.row (a0.map eBucket)),.im (.row (a1.map eBucket))] [] 0 (fun x o=>x=bV r∧o=[]):=by
 unfold f_slices_Equal_api_Bucket.f at H
 refine Fn.bodyK [] Tryz.func52 rfl rfl (fun Γ hP hn => ?_)
 have hm:Tryz.prog.follows .mixedOrders=true:=by kernel_rfl
 replace hn:Γ.n=26:=hn
 refine sr hP hn hm [] [] [0,1] [] [] [] (by kernel_rfl) trivial ?_
 refine AWp.seq ?_
 refine sr hP hn hm [(1,.any (iV .i64 (a0.length:Int))),(3,.any (iV .i64 (a1.length:Int)))] [(10,bV ((a0.length:Int) != (a1.length:Int)))] [0,1,10] [] [] [((a0.map eBucket).length:Int)=(a0.length:Int),((a1.map eBucket).length:Int)=(a1.length:Int)] (by kernel_rfl) ⟨by rw[len_map],by rw[len_map],trivial⟩ ?_
 refine AWp.cond ((a0.length:Int) != (a1.length:Int)) (by kernel_rfl) (fun c3993 => ?_) (fun c3993 => ?_)
 ·replace H:=iT c3993 H
  refine sr hP hn hm [] [(4,bV false)] [4] [] [] [] (by kernel_rfl) trivial ?_
  refine AWp.conv (inv:=[]) (vk:=[]) (e0:=[]) (t:=⟨[(4,bV false)],[],0⟩) (by kernel_rfl) ?_
  refine AWp.ret ?_
  obtain rfl:=Option.some.inj H
  exact rl (.inl rfl) rfl (by kernel_rfl) (by kernel_rfl)
 ·replace H:=iF c3993 H
  refine AWp.skip ?_
  refine AWp.seq ?_
  refine sr hP hn hm [(1,.any (iV .i64 (a0.length:Int)))] [(12,iV .i64 (a0.length:Int)),(13,iV .i64 0)] [0,1,12,13] [] [] [((a0.map eBucket).length:Int)=(a0.length:Int)] (by kernel_rfl) ⟨by rw[len_map],trivial⟩ ?_
  refine AWp.block ?_
  obtain⟨o4023,e4024,H⟩:=bind_of H
  refine AWp.loop (LWp.conv (inv:=[]) (vk:=[]) (e0:=[]) (t:=⟨[(0,.im (.row (a0.map eBucket))),(1,.im (.row (a1.map eBucket))),(12,iV .i64 (a0.length:Int)),(13,iV .i64 0)],[],0⟩) (by kernel_rfl) ?_)
  refine LWp.mono (Q:=fun e s=>(match (generalizing:=false) o4023 with | .inl rr=>e = .ret∧s.floor=0∧resOf Tryz.prog Tryz.f52 s=some (bV rr)∧([]:List (Nat×Option MObj))=[] | .inr _=>e = .exit 0∧s=⟨[],[],0⟩)) (LWp.cv (withBody (fun body hbody => ?_))) ?_
  ·refine f_slices_Equal_api_Bucket.l0.partial_correctness a0 a1 (motive:=fun x4008 o4023=>LWp Γ body (fun e s=>∃ t,Cv Γ s t∧(match (generalizing:=false) o4023 with | .inl rr=>e = .ret∧t.floor=0∧resOf Tryz.prog Tryz.f52 t=some (bV rr)∧([]:List (Nat×Option MObj))=[] | .inr _=>e = .exit 0∧t=⟨[],[],0⟩)) ⟨[(0,.im (.row (a0.map eBucket))),(1,.im (.row (a1.map eBucket))),(12,iV .i64 (a0.length:Int)),(13,iV .i64 x4008)],[],0⟩) ?_ _ _ e4024
   clear H e4024 o4023;intro self ih x4008 o4023 H
   subst hbody
   refine LWp.round ?_
   refine sr hP hn hm [] [(14,bV (decide (x4008<(a0.length:Int))))] [0,1,12,13,14] [] [] [] (by kernel_rfl) trivial ?_
   refine AWp.seq ?_
   refine AWp.cond (decide (x4008<(a0.length:Int))) (by kernel_rfl) (fun c4009 => ?_) (fun c4009 => ?_)
   ·replace H:=iT c4009 H
    refine AWp.skip ?_
    refine AWp.seq ?_
    refine AWp.block ?_
    refine sr hP hn hm [] [(5,iV .i64 x4008)] [0,1,5,12,13] [] [] [] (by kernel_rfl) trivial ?_
    obtain⟨b4016,p4017,q4018,H⟩:=at_of H
    obtain⟨b4019,p4020,q4021,H⟩:=at_of H
    refine sr hP hn hm [(2,.c (eBucket b4016)),(6,.c (eBucket b4019)),(8,.more (xAgg none))] [(24,bV (!((b4016.f0==b4019.f0)&&((b4016.f1==b4019.f1)&&true))))] [0,1,12,13,24] [] [] [_,_,_,_] (by kernel_rfl) ⟨p4017,el_map eBucket q4018,p4020,el_map eBucket q4021,trivial⟩ ?_
    refine AWp.cond (!((b4016.f0==b4019.f0)&&((b4016.f1==b4019.f1)&&true))) (by kernel_rfl) (fun c4022 => ?_) (fun c4022 => ?_)
    ·replace H:=iT c4022 H
     refine sr hP hn hm [] [(4,bV false)] [4] [] [] [] (by kernel_rfl) trivial ?_
     refine AWp.conv (inv:=[]) (vk:=[]) (e0:=[]) (t:=⟨[(4,bV false)],[],0⟩) (by kernel_rfl) ?_
     refine AWp.ret ?_
     obtain rfl:=Option.some.inj H
     exact rl rfl rfl (by kernel_rfl) (by kernel_rfl)
    ·replace H:=iF c4022 H
     refine AWp.skip ?_
     refine rg hP hn hm [] [(13,iV .i64 (i64.wrap (x4008+(1:Int))))] [0,1,12,13] [] [] [] (by kernel_rfl) trivial ?_
     exact LWp.conv [] [] [] (by kernel_rfl) (ih _ _ H)
   ·replace H:=iF c4009 H
    refine AWp.exit ?_
    obtain rfl:=Option.some.inj H
    exact lf [] [] [] (by kernel_rfl) ⟨rfl,rfl⟩
  ·rcases o4023 with rr | _
   ·skip
    rintro e s ⟨rfl,hfl,hres⟩
    obtain rfl:=Option.some.inj H
    exact Exists.intro _ (And.intro (fun _ _ h=>h) (And.intro (.inl rfl) (And.intro hfl hres)))
   ·skip
    rintro e s ⟨rfl,rfl⟩
    refine sr hP hn hm [] [(4,bV true)] [4] [] [] [] (by kernel_rfl) trivial ?_
    refine AWp.conv (inv:=[]) (vk:=[]) (e0:=[]) (t:=⟨[(4,bV true)],[],0⟩) (by kernel_rfl) ?_
    refine AWp.ret ?_
    obtain rfl:=Option.some.inj H
    exact rl (.inl rfl) rfl (by kernel_rfl) (by kernel_rfl)
def f_hist_Same.f (a0:THist) (a1:THist):Option (Bool):=((if(a0.f0==a1.f0)=true then(if(a0.f1==a1.f1)=true then(if(a0.f2==a1.f2)=true then(if(a0.f3==a1.f3)=true then(if(a0.f4==a1.f4)=true then(if(a0.f5==a1.f5)=true then((f_slices_Equal_api_Bucket.f a0.f6 a1.f6)>>=fun t4036=>if t4036=true then((f_slices_Equal_api_Bucket.f a0.f7 a1.f7)>>=fun t4039=>some t4039) else(some false)) else(some false)) else(some false)) else(some false)) else(some false)) else(some false)) else(some false)):Option (Bool))>>=fun x4041=>some x4041
theorem f_hist_Same.ok (a0:THist) (a1:THist) (r:Bool) (H:f_hist_Same.f a0 a1=some r):Pv.Fn Tryz.prog 31 [.agg (aHist a0),.agg (aHist a1)] [] 0 (fun x o=>x=bV r∧o=[]):=by
 unfold f_hist_Same.f at H
 refine Fn.bodyK [] Tryz.func31 rfl rfl (fun Γ hP hn => ?_)
 have hm:Tryz.prog.follows .mixedOrders=true:=by kernel_rfl
 replace hn:Γ.n=59:=hn
 refine sr hP hn hm [(0,.k 0),(1,.k 1)] [(2,.ptr 0 0 0),(3,.ptr 1 0 0)] [2,3] [(0,some (.box 32 (aHist a0))),(1,some (.box 32 (aHist a1)))] [0,1] [] (by kernel_rfl) trivial ?_
 refine AWp.seq ?_
 obtain⟨o4042,e4043,H⟩:=bind_of H
 refine AWp.mono (Q:=fun e s=>(match (generalizing:=false) o4042 with | x4041=>e = .normal∧s=⟨[(4,bV x4041)],[],0⟩)) (AWp.cv ?_) ?_
 ·replace H:=e4043;clear e4043
  rcases Bool.eq_false_or_eq_true (a0.f0==a1.f0) with c4030 | c4030
  ·replace H:=iT c4030 H
   rcases Bool.eq_false_or_eq_true (a0.f1==a1.f1) with c4031 | c4031
   ·replace H:=iT c4031 H
    rcases Bool.eq_false_or_eq_true (a0.f2==a1.f2) with c4032 | c4032
    ·replace H:=iT c4032 H
     rcases Bool.eq_false_or_eq_true (a0.f3==a1.f3) with c4033 | c4033
     ·replace H:=iT c4033 H
      rcases Bool.eq_false_or_eq_true (a0.f4==a1.f4) with c4034 | c4034
      ·replace H:=iT c4034 H
       rcases Bool.eq_false_or_eq_true (a0.f5==a1.f5) with c4035 | c4035
       ·replace H:=iT c4035 H
        obtain⟨t4036,e4037,H⟩:=bind_of H
        rcases Bool.eq_false_or_eq_true t4036 with c4038 | c4038
        ·replace H:=iT c4038 H
         obtain⟨t4039,e4040,H⟩:=bind_of H
         refine rg hP hn hm [(5,.b true),(12,.b true),(19,.b true),(26,.b true),(33,.b true),(40,.b true),(45,.call [] [] [] [] 0 (bV t4036) []),(47,.b true),(52,.call [] [] [] [] 0 (bV t4039) [])] [(4,bV t4039)] [4] [] [] [_,_,_,_,_,_,_,_,_,_,_] (by kernel_rfl) ⟨c4030,c4031,c4032,c4033,c4034,c4035,Tryz.call52,f_slices_Equal_api_Bucket.ok a0.f6 a1.f6 t4036 e4037,c4038,Tryz.call52,f_slices_Equal_api_Bucket.ok a0.f7 a1.f7 t4039 e4040,trivial⟩ ?_
         obtain rfl:=Option.some.inj H
         exact lf [] [] [] (by kernel_rfl) ⟨rfl,rfl⟩
        ·replace H:=iF c4038 H
         refine rg hP hn hm [(5,.b true),(12,.b true),(19,.b true),(26,.b true),(33,.b true),(40,.b true),(45,.call [] [] [] [] 0 (bV t4036) []),(47,.b false)] [(4,bV false)] [4] [] [] [_,_,_,_,_,_,_,_,_] (by kernel_rfl) ⟨c4030,c4031,c4032,c4033,c4034,c4035,Tryz.call52,f_slices_Equal_api_Bucket.ok a0.f6 a1.f6 t4036 e4037,c4038,trivial⟩ ?_
         obtain rfl:=Option.some.inj H
         exact lf [] [] [] (by kernel_rfl) ⟨rfl,rfl⟩
       ·replace H:=iF c4035 H
        refine rg hP hn hm [(5,.b true),(12,.b true),(19,.b true),(26,.b true),(33,.b true),(40,.b false)] [(4,bV false)] [4] [] [] [_,_,_,_,_,_] (by kernel_rfl) ⟨c4030,c4031,c4032,c4033,c4034,c4035,trivial⟩ ?_
        obtain rfl:=Option.some.inj H
        exact lf [] [] [] (by kernel_rfl) ⟨rfl,rfl⟩
      ·replace H:=iF c4034 H
       refine rg hP hn hm [(5,.b true),(12,.b true),(19,.b true),(26,.b true),(33,.b false)] [(4,bV false)] [4] [] [] [_,_,_,_,_] (by kernel_rfl) ⟨c4030,c4031,c4032,c4033,c4034,trivial⟩ ?_
       obtain rfl:=Option.some.inj H
       exact lf [] [] [] (by kernel_rfl) ⟨rfl,rfl⟩
     ·replace H:=iF c4033 H
      refine rg hP hn hm [(5,.b true),(12,.b true),(19,.b true),(26,.b false)] [(4,bV false)] [4] [] [] [_,_,_,_] (by kernel_rfl) ⟨c4030,c4031,c4032,c4033,trivial⟩ ?_
      obtain rfl:=Option.some.inj H
      exact lf [] [] [] (by kernel_rfl) ⟨rfl,rfl⟩
    ·replace H:=iF c4032 H
     refine rg hP hn hm [(5,.b true),(12,.b true),(19,.b false)] [(4,bV false)] [4] [] [] [_,_,_] (by kernel_rfl) ⟨c4030,c4031,c4032,trivial⟩ ?_
     obtain rfl:=Option.some.inj H
     exact lf [] [] [] (by kernel_rfl) ⟨rfl,rfl⟩
   ·replace H:=iF c4031 H
    refine rg hP hn hm [(5,.b true),(12,.b false)] [(4,bV false)] [4] [] [] [_,_] (by kernel_rfl) ⟨c4030,c4031,trivial⟩ ?_
    obtain rfl:=Option.some.inj H
    exact lf [] [] [] (by kernel_rfl) ⟨rfl,rfl⟩
  ·replace H:=iF c4030 H
   refine rg hP hn hm [(5,.b false)] [(4,bV false)] [4] [] [] [_] (by kernel_rfl) ⟨c4030,trivial⟩ ?_
   obtain rfl:=Option.some.inj H
   exact lf [] [] [] (by kernel_rfl) ⟨rfl,rfl⟩
 ·obtain⟨x4041,rfl⟩:∃ z,z=o4042:=⟨_,rfl⟩
  rintro e s ⟨rfl,rfl⟩
  refine AWp.conv (inv:=[]) (vk:=[]) (e0:=[]) (t:=⟨[(4,bV x4041)],[],0⟩) (by kernel_rfl) ?_
  refine AWp.ret ?_
  obtain rfl:=Option.some.inj H
  exact rl (.inl rfl) rfl (by kernel_rfl) (by kernel_rfl)
def f_eval_Same.f (a0:Teval_Answer) (a1:Teval_Answer):Option (Bool):=(((f_hist_Same.f a0.f0 a1.f0)>>=fun t4050=>if t4050=true then(if(a0.f1==a1.f1)=true then(if(a0.f2==a1.f2)=true then(if((a0.f3.f0==a1.f3.f0)&&((a0.f3.f1==a1.f3.f1)&&((a0.f3.f2==a1.f3.f2)&&true)))=true then(some ((a0.f4.f0==a1.f4.f0)&&((a0.f4.f1==a1.f4.f1)&&((a0.f4.f2==a1.f4.f2)&&true)))) else(some false)) else(some false)) else(some false)) else(some false)):Option (Bool))>>=fun x4056=>some x4056
theorem f_eval_Same.ok (a0:Teval_Answer) (a1:Teval_Answer) (r:Bool) (H:f_eval_Same.f a0 a1=some r):Pv.Fn Tryz.prog 18 [.agg [iV .i64 a0.f0.f0,iV .i64 a0.f0.f1,iV .i64 a0.f0.f2,iV .u64 a0.f0.f3,iV .u64 a0.f0.f4,iV .i64 a0.f0.f5,.im (.row (a0.f0.f6.map eBucket)),.im (.row (a0.f0.f7.map eBucket)),iV .i64 a0.f1,iV .u64 a0.f2,iV .i64 a0.f3.f0,iV .i64 a0.f3.f1,iV .i64 a0.f3.f2,iV .u64 a0.f4.f0,iV .u64 a0.f4.f1,iV .u64 a0.f4.f2],.agg [iV .i64 a1.f0.f0,iV .i64 a1.f0.f1,iV .i64 a1.f0.f2,iV .u64 a1.f0.f3,iV .u64 a1.f0.f4,iV .i64 a1.f0.f5,.im (.row (a1.f0.f6.map eBucket)),.im (.row (a1.f0.f7.map eBucket)),iV .i64 a1.f1,iV .u64 a1.f2,iV .i64 a1.f3.f0,iV .i64 a1.f3.f1,iV .i64 a1.f3.f2,iV .u64 a1.f4.f0,iV .u64 a1.f4.f1,iV .u64 a1.f4.f2]] [] 0 (fun x o=>x=bV r∧o=[]):=by
 unfold f_eval_Same.f at H
 refine Fn.bodyK [] Tryz.func18 rfl rfl (fun Γ hP hn => ?_)
 have hm:Tryz.prog.follows .mixedOrders=true:=by kernel_rfl
 replace hn:Γ.n=38:=hn
 refine sr hP hn hm [(0,.k 0),(1,.k 1)] [(2,.ptr 0 0 0),(3,.ptr 1 0 0)] [2,3] [(0,some (.box 49 [iV .i64 a0.f0.f0,iV .i64 a0.f0.f1,iV .i64 a0.f0.f2,iV .u64 a0.f0.f3,iV .u64 a0.f0.f4,iV .i64 a0.f0.f5,.im (.row (a0.f0.f6.map eBucket)),.im (.row (a0.f0.f7.map eBucket)),iV .i64 a0.f1,iV .u64 a0.f2,iV .i64 a0.f3.f0,iV .i64 a0.f3.f1,iV .i64 a0.f3.f2,iV .u64 a0.f4.f0,iV .u64 a0.f4.f1,iV .u64 a0.f4.f2])),(1,some (.box 49 [iV .i64 a1.f0.f0,iV .i64 a1.f0.f1,iV .i64 a1.f0.f2,iV .u64 a1.f0.f3,iV .u64 a1.f0.f4,iV .i64 a1.f0.f5,.im (.row (a1.f0.f6.map eBucket)),.im (.row (a1.f0.f7.map eBucket)),iV .i64 a1.f1,iV .u64 a1.f2,iV .i64 a1.f3.f0,iV .i64 a1.f3.f1,iV .i64 a1.f3.f2,iV .u64 a1.f4.f0,iV .u64 a1.f4.f1,iV .u64 a1.f4.f2]))] [0,1] [] (by kernel_rfl) trivial ?_
 refine AWp.seq ?_
 obtain⟨o4057,e4058,H⟩:=bind_of H
 refine AWp.mono (Q:=fun e s=>(match (generalizing:=false) o4057 with | x4056=>e = .normal∧s=⟨[(4,bV x4056)],[],0⟩)) (AWp.cv ?_) ?_
 ·replace H:=e4058;clear e4058
  obtain⟨t4050,e4051,H⟩:=bind_of H
  rcases Bool.eq_false_or_eq_true t4050 with c4052 | c4052
  ·replace H:=iT c4052 H
   rcases Bool.eq_false_or_eq_true (a0.f1==a1.f1) with c4053 | c4053
   ·replace H:=iT c4053 H
    rcases Bool.eq_false_or_eq_true (a0.f2==a1.f2) with c4054 | c4054
    ·replace H:=iT c4054 H
     rcases Bool.eq_false_or_eq_true ((a0.f3.f0==a1.f3.f0)&&((a0.f3.f1==a1.f3.f1)&&((a0.f3.f2==a1.f3.f2)&&true))) with c4055 | c4055
     ·replace H:=iT c4055 H
      refine rg hP hn hm [(4,.call [] [] [] [] 0 (bV t4050) []),(5,.b true),(12,.b true),(19,.b true),(24,.more (xAgg none)),(26,.b true),(31,.more (xAgg none))] [(4,bV ((a0.f4.f0==a1.f4.f0)&&((a0.f4.f1==a1.f4.f1)&&((a0.f4.f2==a1.f4.f2)&&true))))] [4] [] [] [_,_,_,_,_,_] (by kernel_rfl) ⟨Tryz.call31,f_hist_Same.ok a0.f0 a1.f0 t4050 e4051,c4052,c4053,c4054,c4055,trivial⟩ ?_
      obtain rfl:=Option.some.inj H
      exact lf [] [] [] (by kernel_rfl) ⟨rfl,rfl⟩
     ·replace H:=iF c4055 H
      refine rg hP hn hm [(4,.call [] [] [] [] 0 (bV t4050) []),(5,.b true),(12,.b true),(19,.b true),(24,.more (xAgg none)),(26,.b false)] [(4,bV false)] [4] [] [] [_,_,_,_,_,_] (by kernel_rfl) ⟨Tryz.call31,f_hist_Same.ok a0.f0 a1.f0 t4050 e4051,c4052,c4053,c4054,c4055,trivial⟩ ?_
      obtain rfl:=Option.some.inj H
      exact lf [] [] [] (by kernel_rfl) ⟨rfl,rfl⟩
    ·replace H:=iF c4054 H
     refine rg hP hn hm [(4,.call [] [] [] [] 0 (bV t4050) []),(5,.b true),(12,.b true),(19,.b false)] [(4,bV false)] [4] [] [] [_,_,_,_,_] (by kernel_rfl) ⟨Tryz.call31,f_hist_Same.ok a0.f0 a1.f0 t4050 e4051,c4052,c4053,c4054,trivial⟩ ?_
     obtain rfl:=Option.some.inj H
     exact lf [] [] [] (by kernel_rfl) ⟨rfl,rfl⟩
   ·replace H:=iF c4053 H
    refine rg hP hn hm [(4,.call [] [] [] [] 0 (bV t4050) []),(5,.b true),(12,.b false)] [(4,bV false)] [4] [] [] [_,_,_,_] (by kernel_rfl) ⟨Tryz.call31,f_hist_Same.ok a0.f0 a1.f0 t4050 e4051,c4052,c4053,trivial⟩ ?_
    obtain rfl:=Option.some.inj H
    exact lf [] [] [] (by kernel_rfl) ⟨rfl,rfl⟩
  ·replace H:=iF c4052 H
   refine rg hP hn hm [(4,.call [] [] [] [] 0 (bV t4050) []),(5,.b false)] [(4,bV false)] [4] [] [] [_,_,_] (by kernel_rfl) ⟨Tryz.call31,f_hist_Same.ok a0.f0 a1.f0 t4050 e4051,c4052,trivial⟩ ?_
   obtain rfl:=Option.some.inj H
   exact lf [] [] [] (by kernel_rfl) ⟨rfl,rfl⟩
 ·obtain⟨x4056,rfl⟩:∃ z,z=o4057:=⟨_,rfl⟩
  rintro e s ⟨rfl,rfl⟩
  refine AWp.conv (inv:=[]) (vk:=[]) (e0:=[]) (t:=⟨[(4,bV x4056)],[],0⟩) (by kernel_rfl) ?_
  refine AWp.ret ?_
  obtain rfl:=Option.some.inj H
  exact rl (.inl rfl) rfl (by kernel_rfl) (by kernel_rfl)
def f_l19_EvalDoes.f (a0:Tr19_Ask) (a1:List TSample):Option (Bool):=(f_l19_light.f a1)>>=fun t303=>if(!t303)=true then((f_l19_awake.f)>>=fun t2417=>some t2417) else((f_eval_Window.f a1 a0.f5 a0.f6)>>=fun t2579=>(f_r19_Window.f a1 a0.f5 a0.f6)>>=fun t2581=>(f_l09_Same.f t2579 t2581)>>=fun t2583=>if(!t2583)=true then(some false) else((f_l19_To.f a0)>>=fun t2590=>(f_eval_Of.f (⟨(t2590).f0,(t2590).f1,(t2590).f2,(⟨((t2590).f3).f0,((t2590).f3).f1⟩:Trank_Place),(t2590).f4,(t2590).f5⟩:Teval_Ask) a1)>>=fun t2592=>(f_r19_Of.f a0 a1)>>=fun t3544=>((if(t2592.2 != t3544.2)=true then(some true) else((f_r05_Same.f (t2592.1) (t3544.1))>>=fun t3550=>some (!t3550))):Option (Bool))>>=fun x3552=>if x3552=true then(some false) else(((if(t3544.2==(0:Int))=true then((f_l19_To.f a0)>>=fun t3559=>(f_eval_Finish.f (⟨(t3559).f0,(t3559).f1,(t3559).f2,(⟨((t3559).f3).f0,((t3559).f3).f1⟩:Trank_Place),(t3559).f4,(t3559).f5⟩:Teval_Ask) (t2592.1))>>=fun t3561=>(f_r19_Finish.f a0 (t3544.1))>>=fun t3928=>((if(t3561.2 != t3928.2)=true then(some true) else((f_l19_Is.f (⟨(⟨((t3561.1).f0).f0,((t3561.1).f0).f1,((t3561.1).f0).f2,((t3561.1).f0).f3,((t3561.1).f0).f4,((t3561.1).f0).f5,((t3561.1).f0).f6,((t3561.1).f0).f7⟩:THist),(t3561.1).f1,(t3561.1).f2,(⟨((t3561.1).f3).f0,((t3561.1).f3).f1,((t3561.1).f3).f2⟩:Tbound_Key),(⟨((t3561.1).f4).f0,((t3561.1).f4).f1,((t3561.1).f4).f2⟩:Trank_Part)⟩:Teval_Answer) (⟨(⟨((t3928.1).f0).f0,((t3928.1).f0).f1,((t3928.1).f0).f2,((t3928.1).f0).f3,((t3928.1).f0).f4,((t3928.1).f0).f5,((t3928.1).f0).f6,((t3928.1).f0).f7⟩:THist),(t3928.1).f1,(t3928.1).f2,(⟨((t3928.1).f3).f0,((t3928.1).f3).f1,((t3928.1).f3).f2,((t3928.1).f3).f3⟩:Tr08_Cell),(⟨((t3928.1).f4).f0,((t3928.1).f4).f1,((t3928.1).f4).f2⟩:S54)⟩:Tr19_Answer))>>=fun t3949=>some (!t3949))):Option (Bool))>>=fun x3951=>if x3951=true then(some (.inl false)) else(some (.inr ()))) else(some (.inr ()))):Option (Bool ⊕ Unit))>>=fun oo=>match oo with | .inl rr=>(some rr) | .inr _=>((f_l19_To.f a0)>>=fun t3957=>(f_eval_Do.f (⟨(t3957).f0,(t3957).f1,(t3957).f2,(⟨((t3957).f3).f0,((t3957).f3).f1⟩:Trank_Place),(t3957).f4,(t3957).f5⟩:Teval_Ask) a1)>>=fun t3959=>(f_r19_Do.f a0 a1)>>=fun t3978=>(((f_l19_awake.f)>>=fun t4061=>if t4061=true then(if(t3959.2==t3978.2)=true then((f_l19_Is.f (⟨(⟨((t3959.1).f0).f0,((t3959.1).f0).f1,((t3959.1).f0).f2,((t3959.1).f0).f3,((t3959.1).f0).f4,((t3959.1).f0).f5,((t3959.1).f0).f6,((t3959.1).f0).f7⟩:THist),(t3959.1).f1,(t3959.1).f2,(⟨((t3959.1).f3).f0,((t3959.1).f3).f1,((t3959.1).f3).f2⟩:Tbound_Key),(⟨((t3959.1).f4).f0,((t3959.1).f4).f1,((t3959.1).f4).f2⟩:Trank_Part)⟩:Teval_Answer) (⟨(⟨((t3978.1).f0).f0,((t3978.1).f0).f1,((t3978.1).f0).f2,((t3978.1).f0).f3,((t3978.1).f0).f4,((t3978.1).f0).f5,((t3978.1).f0).f6,((t3978.1).f0).f7⟩:THist),(t3978.1).f1,(t3978.1).f2,(⟨((t3978.1).f3).f0,((t3978.1).f3).f1,((t3978.1).f3).f2,((t3978.1).f3).f3⟩:Tr08_Cell),(⟨((t3978.1).f4).f0,((t3978.1).f4).f1,((t3978.1).f4).f2⟩:S54)⟩:Tr19_Answer))>>=fun t4065=>if t4065=true then((f_eval_Same.f (⟨(⟨((t3959.1).f0).f0,((t3959.1).f0).f1,((t3959.1).f0).f2,((t3959.1).f0).f3,((t3959.1).f0).f4,((t3959.1).f0).f5,((t3959.1).f0).f6,((t3959.1).f0).f7⟩:THist),(t3959.1).f1,(t3959.1).f2,(⟨((t3959.1).f3).f0,((t3959.1).f3).f1,((t3959.1).f3).f2⟩:Tbound_Key),(⟨((t3959.1).f4).f0,((t3959.1).f4).f1,((t3959.1).f4).f2⟩:Trank_Part)⟩:Teval_Answer) (⟨(⟨((t3959.1).f0).f0,((t3959.1).f0).f1,((t3959.1).f0).f2,((t3959.1).f0).f3,((t3959.1).f0).f4,((t3959.1).f0).f5,((t3959.1).f0).f6,((t3959.1).f0).f7⟩:THist),(t3959.1).f1,(t3959.1).f2,(⟨((t3959.1).f3).f0,((t3959.1).f3).f1,((t3959.1).f3).f2⟩:Tbound_Key),(⟨((t3959.1).f4).f0,((t3959.1).f4).f1,((t3959.1).f4).f2⟩:Trank_Part)⟩:Teval_Answer))>>=fun t4068=>some t4068) else(some false)) else(some false)) else(some false)):Option (Bool))>>=fun x4070=>some x4070))))
theorem f_l19_EvalDoes.ok (a0:Tr19_Ask) (a1:List TSample) (r:Bool) (H:f_l19_EvalDoes.f a0 a1=some r):Pv.Fn Tryz.prog 3 [.agg (ar19_Ask a0),.im (.row (a1.map eSample))] [] 0 (fun x o=>x=bV r∧o=[]):=by
 unfold f_l19_EvalDoes.f at H
 refine Fn.bodyK [] Tryz.func3 rfl rfl (fun Γ hP hn => ?_)
 have hm:Tryz.prog.follows .mixedOrders=true:=by kernel_rfl
 replace hn:Γ.n=110:=hn
 refine sr hP hn hm [(0,.k 0)] [(2,.ptr 0 0 0)] [1,2] [(0,some (.box 24 (ar19_Ask a0)))] [0] [] (by kernel_rfl) trivial ?_
 refine AWp.seq ?_
 obtain⟨t303,e304,H⟩:=bind_of H
 refine sr hP hn hm [(1,.call [] [] [] [] 0 (bV t303) [])] [(19,bV (!t303))] [1,2,19] [] [0] [_,_] (by kernel_rfl) ⟨Tryz.call4,f_l19_light.ok a1 t303 e304,trivial⟩ ?_
 refine AWp.cond (!t303) (by kernel_rfl) (fun c305 => ?_) (fun c305 => ?_)
 ·replace H:=iT c305 H
  obtain⟨t2417,e2418,H⟩:=bind_of H
  refine sr hP hn hm [(0,.call [] [] [] [] 0 (bV t2417) [])] [(4,bV t2417)] [4] [] [] [_,_] (by kernel_rfl) ⟨Tryz.call5,f_l19_awake.ok  t2417 e2418,trivial⟩ ?_
  refine AWp.conv (inv:=[]) (vk:=[]) (e0:=[]) (t:=⟨[(4,bV t2417)],[],0⟩) (by kernel_rfl) ?_
  refine AWp.ret ?_
  obtain rfl:=Option.some.inj H
  exact rl (.inl rfl) rfl (by kernel_rfl) (by kernel_rfl)
 ·replace H:=iF c305 H
  refine AWp.skip ?_
  refine AWp.seq ?_
  obtain⟨t2579,e2580,H⟩:=bind_of H
  obtain⟨t2581,e2582,H⟩:=bind_of H
  obtain⟨t2583,e2584,H⟩:=bind_of H
  refine sr hP hn hm [(5,.call [] [(0,1)] [] [1] 0 (.own 0) [(0,some (.row 9 65 (t2579.map eSample)))]),(11,.call [] [(0,2)] [] [2] 0 (.own 0) [(0,some (.row 9 65 (t2581.map eSample)))]),(12,.call [] [] [1,2] [] 0 (bV t2583) [])] [(34,bV (!t2583))] [1,2,34] [] [0] [_,_,_,_,_,_] (by kernel_rfl) ⟨Tryz.call7,f_eval_Window.ok a1 a0.f5 a0.f6 t2579 e2580,Tryz.call8,f_r19_Window.ok a1 a0.f5 a0.f6 t2581 e2582,Tryz.call6,f_l09_Same.ok t2579 t2581 t2583 e2584,trivial⟩ ?_
  refine AWp.cond (!t2583) (by kernel_rfl) (fun c2585 => ?_) (fun c2585 => ?_)
  ·replace H:=iT c2585 H
   refine sr hP hn hm [] [(4,bV false)] [4] [] [] [] (by kernel_rfl) trivial ?_
   refine AWp.conv (inv:=[]) (vk:=[]) (e0:=[]) (t:=⟨[(4,bV false)],[],0⟩) (by kernel_rfl) ?_
   refine AWp.ret ?_
   obtain rfl:=Option.some.inj H
   exact rl (.inl rfl) rfl (by kernel_rfl) (by kernel_rfl)
  ·replace H:=iF c2585 H
   refine AWp.skip ?_
   obtain⟨t2590,e2591,H⟩:=bind_of H
   obtain⟨t2592,e2593,H⟩:=bind_of H
   refine sr hP hn hm [(1,.call [] [] [] [] 0 (.agg (ar19_Ask ⟨((t2590).f0),((t2590).f1),((t2590).f2),(((t2590).f3).f0),(((t2590).f3).f1),((t2590).f4),((t2590).f5)⟩)) []),(3,.call [] [] [] [] 0 (.tup [.agg (aHist (t2592.1)),iV .i64 t2592.2]) []),(7,.k 3)] [(5,.ptr 3 0 0),(6,iV .i64 t2592.2)] [1,2,5,6] [(3,some (.box 32 (aHist (t2592.1))))] [0,3] [_,_,_,_] (by kernel_rfl) ⟨Tryz.call10,f_l19_To.ok a0 t2590 e2591,Tryz.call9,f_eval_Of.ok (⟨(t2590).f0,(t2590).f1,(t2590).f2,(⟨((t2590).f3).f0,((t2590).f3).f1⟩:Trank_Place),(t2590).f4,(t2590).f5⟩:Teval_Ask) a1 t2592 e2593,trivial⟩ ?_
   obtain⟨t3544,e3545,H⟩:=bind_of H
   refine sr hP hn hm [(2,.call [] [] [] [] 0 (.tup [.agg (aHist (t3544.1)),iV .i64 t3544.2]) []),(6,.k 4)] [(7,.ptr 4 0 0),(8,iV .i64 t3544.2)] [1,2,5,6,7,8] [(4,some (.box 32 (aHist (t3544.1))))] [0,3,4] [_,_] (by kernel_rfl) ⟨Tryz.call11,f_r19_Of.ok a0 a1 t3544 e3545,trivial⟩ ?_
   refine AWp.seq ?_
   refine AWp.seq ?_
   obtain⟨o4071,e4072,H⟩:=bind_of H
   refine AWp.mono (Q:=fun e s=>(match (generalizing:=false) o4071 with | x3552=>e = .normal∧s=⟨[(1,.im (.row (a1.map eSample))),(2,.ptr 5 0 0),(5,.ptr 6 0 0),(7,.ptr 7 0 0),(8,iV .i64 t3544.2),(56,bV x3552)],[(5,some (.box 24 (ar19_Ask a0))),(6,some (.box 32 (aHist (t2592.1)))),(7,some (.box 32 (aHist (t3544.1))))],0⟩)) (AWp.cv ?_) ?_
   ·replace H:=e4072;clear e4072
    rcases Bool.eq_false_or_eq_true (t2592.2 != t3544.2) with c3549 | c3549
    ·replace H:=iT c3549 H
     refine rg hP hn hm [(3,.b true)] [(56,bV true)] [1,2,5,7,8,56] [] [0,3,4] [_] (by kernel_rfl) ⟨c3549,trivial⟩ ?_
     obtain rfl:=Option.some.inj H
     exact lf [(0,5),(3,6),(4,7)] [] [] (by kernel_rfl) ⟨rfl,rfl⟩
    ·replace H:=iF c3549 H
     obtain⟨t3550,e3551,H⟩:=bind_of H
     refine rg hP hn hm [(3,.b false),(6,.call [] [] [] [] 0 (bV t3550) [])] [(56,bV (!t3550))] [1,2,5,7,8,56] [] [0,3,4] [_,_,_] (by kernel_rfl) ⟨c3549,Tryz.call12,f_r05_Same.ok (t2592.1) (t3544.1) t3550 e3551,trivial⟩ ?_
     obtain rfl:=Option.some.inj H
     exact lf [(0,5),(3,6),(4,7)] [] [] (by kernel_rfl) ⟨rfl,rfl⟩
   ·obtain⟨x3552,rfl⟩:∃ z,z=o4071:=⟨_,rfl⟩
    rintro e s ⟨rfl,rfl⟩
    refine AWp.cond x3552 (by kernel_rfl) (fun c3553 => ?_) (fun c3553 => ?_)
    ·replace H:=iT c3553 H
     refine sr hP hn hm [] [(4,bV false)] [4] [] [] [] (by kernel_rfl) trivial ?_
     refine AWp.conv (inv:=[]) (vk:=[]) (e0:=[]) (t:=⟨[(4,bV false)],[],0⟩) (by kernel_rfl) ?_
     refine AWp.ret ?_
     obtain rfl:=Option.some.inj H
     exact rl (.inl rfl) rfl (by kernel_rfl) (by kernel_rfl)
    ·replace H:=iF c3553 H
     refine AWp.skip ?_
     refine AWp.seq ?_
     refine sr hP hn hm [] [(58,bV (t3544.2==(0:Int)))] [1,2,5,7,58] [] [5,6,7] [] (by kernel_rfl) trivial ?_
     obtain⟨o4073,e4074,H⟩:=bind_of H
     refine AWp.mono (Q:=fun e s=>(match (generalizing:=false) o4073 with | .inl rr=>e = .ret∧s.floor=0∧resOf Tryz.prog Tryz.f3 s=some (bV rr)∧([]:List (Nat×Option MObj))=[] | .inr _=>e = .normal∧s=⟨[(1,.im (.row (a1.map eSample))),(2,.ptr 13 0 0)],[(13,some (.box 24 (ar19_Ask a0)))],0⟩)) (AWp.cv ?_) ?_
     ·replace H:=e4074;clear e4074
      refine AWp.cond (t3544.2==(0:Int)) (by kernel_rfl) (fun c3554 => ?_) (fun c3554 => ?_)
      ·replace H:=iT c3554 H
       obtain⟨t3559,e3560,H⟩:=bind_of H
       obtain⟨t3561,e3562,H⟩:=bind_of H
       refine sr hP hn hm [(1,.call [] [] [] [] 0 (.agg (ar19_Ask ⟨((t3559).f0),((t3559).f1),((t3559).f2),(((t3559).f3).f0),(((t3559).f3).f1),((t3559).f4),((t3559).f5)⟩)) []),(3,.call [] [(0,8),(1,9)] [] [8,9] 0 (.tup [.agg [iV .i64 (((t3561.1).f0).f0),iV .i64 (((t3561.1).f0).f1),iV .i64 (((t3561.1).f0).f2),iV .u64 (((t3561.1).f0).f3),iV .u64 (((t3561.1).f0).f4),iV .i64 (((t3561.1).f0).f5),.own 0,.own 1,iV .i64 ((t3561.1).f1),iV .u64 ((t3561.1).f2),iV .i64 (((t3561.1).f3).f0),iV .i64 (((t3561.1).f3).f1),iV .i64 (((t3561.1).f3).f2),iV .u64 (((t3561.1).f4).f0),iV .u64 (((t3561.1).f4).f1),iV .u64 (((t3561.1).f4).f2)],iV .i64 t3561.2]) [(0,some (.row 2 89 ((((t3561.1).f0).f6).map eBucket))),(1,some (.row 2 89 ((((t3561.1).f0).f7).map eBucket)))]),(7,.k 10)] [(9,.ptr 10 0 0),(10,iV .i64 t3561.2)] [1,2,7,9,10] [(8,some (.row 2 89 ((((t3561.1).f0).f6).map eBucket))),(9,some (.row 2 89 ((((t3561.1).f0).f7).map eBucket))),(10,some (.box 49 [iV .i64 (((t3561.1).f0).f0),iV .i64 (((t3561.1).f0).f1),iV .i64 (((t3561.1).f0).f2),iV .u64 (((t3561.1).f0).f3),iV .u64 (((t3561.1).f0).f4),iV .i64 (((t3561.1).f0).f5),.own 8,.own 9,iV .i64 ((t3561.1).f1),iV .u64 ((t3561.1).f2),iV .i64 (((t3561.1).f3).f0),iV .i64 (((t3561.1).f3).f1),iV .i64 (((t3561.1).f3).f2),iV .u64 (((t3561.1).f4).f0),iV .u64 (((t3561.1).f4).f1),iV .u64 (((t3561.1).f4).f2)]))] [5,7,8,9,10] [_,_,_,_] (by kernel_rfl) ⟨Tryz.call10,f_l19_To.ok a0 t3559 e3560,Tryz.call13,f_eval_Finish.ok (⟨(t3559).f0,(t3559).f1,(t3559).f2,(⟨((t3559).f3).f0,((t3559).f3).f1⟩:Trank_Place),(t3559).f4,(t3559).f5⟩:Teval_Ask) (t2592.1) t3561 e3562,trivial⟩ ?_
       obtain⟨t3928,e3929,H⟩:=bind_of H
       refine sr hP hn hm [(2,.call [] [] [] [] 0 (.tup [.agg [iV .i64 (((t3928.1).f0).f0),iV .i64 (((t3928.1).f0).f1),iV .i64 (((t3928.1).f0).f2),iV .u64 (((t3928.1).f0).f3),iV .u64 (((t3928.1).f0).f4),iV .i64 (((t3928.1).f0).f5),.im (.row ((((t3928.1).f0).f6).map eBucket)),.im (.row ((((t3928.1).f0).f7).map eBucket)),iV .i64 ((t3928.1).f1),iV .u64 ((t3928.1).f2),iV .i64 (((t3928.1).f3).f0),iV .i64 (((t3928.1).f3).f1),iV .i64 (((t3928.1).f3).f2),iV .u64 (((t3928.1).f3).f3),iV .u64 (((t3928.1).f4).f0),iV .u64 (((t3928.1).f4).f1),iV .u64 (((t3928.1).f4).f2)],iV .i64 t3928.2]) []),(6,.k 11)] [(11,.ptr 11 0 0),(12,iV .i64 t3928.2)] [1,2,9,10,11,12] [(11,some (.box 56 [iV .i64 (((t3928.1).f0).f0),iV .i64 (((t3928.1).f0).f1),iV .i64 (((t3928.1).f0).f2),iV .u64 (((t3928.1).f0).f3),iV .u64 (((t3928.1).f0).f4),iV .i64 (((t3928.1).f0).f5),.im (.row ((((t3928.1).f0).f6).map eBucket)),.im (.row ((((t3928.1).f0).f7).map eBucket)),iV .i64 ((t3928.1).f1),iV .u64 ((t3928.1).f2),iV .i64 (((t3928.1).f3).f0),iV .i64 (((t3928.1).f3).f1),iV .i64 (((t3928.1).f3).f2),iV .u64 (((t3928.1).f3).f3),iV .u64 (((t3928.1).f4).f0),iV .u64 (((t3928.1).f4).f1),iV .u64 (((t3928.1).f4).f2)]))] [5,8,9,10,11] [_,_] (by kernel_rfl) ⟨Tryz.call14,f_r19_Finish.ok a0 (t3544.1) t3928 e3929,trivial⟩ ?_
       refine AWp.seq ?_
       obtain⟨o4075,e4076,H⟩:=bind_of H
       refine AWp.mono (Q:=fun e s=>(match (generalizing:=false) o4075 with | x3951=>e = .normal∧s=⟨[(1,.im (.row (a1.map eSample))),(2,.ptr 12 0 0),(80,bV x3951)],[(12,some (.box 24 (ar19_Ask a0)))],0⟩)) (AWp.cv ?_) ?_
       ·replace H:=e4076;clear e4076
        rcases Bool.eq_false_or_eq_true (t3561.2 != t3928.2) with c3948 | c3948
        ·replace H:=iT c3948 H
         refine rg hP hn hm [(3,.b true)] [(80,bV true)] [1,2,80] [] [5] [_] (by kernel_rfl) ⟨c3948,trivial⟩ ?_
         obtain rfl:=Option.some.inj H
         exact lf [(5,12)] [] [] (by kernel_rfl) ⟨rfl,rfl⟩
        ·replace H:=iF c3948 H
         obtain⟨t3949,e3950,H⟩:=bind_of H
         refine rg hP hn hm [(3,.b false),(6,.call [] [] [8,9] [] 0 (bV t3949) [])] [(80,bV (!t3949))] [1,2,80] [] [5] [_,_,_] (by kernel_rfl) ⟨c3948,Tryz.call15,f_l19_Is.ok (⟨(⟨((t3561.1).f0).f0,((t3561.1).f0).f1,((t3561.1).f0).f2,((t3561.1).f0).f3,((t3561.1).f0).f4,((t3561.1).f0).f5,((t3561.1).f0).f6,((t3561.1).f0).f7⟩:THist),(t3561.1).f1,(t3561.1).f2,(⟨((t3561.1).f3).f0,((t3561.1).f3).f1,((t3561.1).f3).f2⟩:Tbound_Key),(⟨((t3561.1).f4).f0,((t3561.1).f4).f1,((t3561.1).f4).f2⟩:Trank_Part)⟩:Teval_Answer) (⟨(⟨((t3928.1).f0).f0,((t3928.1).f0).f1,((t3928.1).f0).f2,((t3928.1).f0).f3,((t3928.1).f0).f4,((t3928.1).f0).f5,((t3928.1).f0).f6,((t3928.1).f0).f7⟩:THist),(t3928.1).f1,(t3928.1).f2,(⟨((t3928.1).f3).f0,((t3928.1).f3).f1,((t3928.1).f3).f2,((t3928.1).f3).f3⟩:Tr08_Cell),(⟨((t3928.1).f4).f0,((t3928.1).f4).f1,((t3928.1).f4).f2⟩:S54)⟩:Tr19_Answer) t3949 e3950,trivial⟩ ?_
         obtain rfl:=Option.some.inj H
         exact lf [(5,12)] [] [] (by kernel_rfl) ⟨rfl,rfl⟩
       ·obtain⟨x3951,rfl⟩:∃ z,z=o4075:=⟨_,rfl⟩
        rintro e s ⟨rfl,rfl⟩
        refine AWp.cond x3951 (by kernel_rfl) (fun c3952 => ?_) (fun c3952 => ?_)
        ·replace H:=iT c3952 H
         refine sr hP hn hm [] [(4,bV false)] [4] [] [] [] (by kernel_rfl) trivial ?_
         refine AWp.conv (inv:=[]) (vk:=[]) (e0:=[]) (t:=⟨[(4,bV false)],[],0⟩) (by kernel_rfl) ?_
         refine AWp.ret ?_
         obtain rfl:=Option.some.inj H
         exact rl rfl rfl (by kernel_rfl) (by kernel_rfl)
        ·replace H:=iF c3952 H
         refine AWp.skip ?_
         obtain rfl:=Option.some.inj H
         exact lf [(12,13)] [] [] (by kernel_rfl) ⟨rfl,rfl⟩
      ·replace H:=iF c3554 H
       refine AWp.skip ?_
       obtain rfl:=Option.some.inj H
       exact lf [(5,13)] [] [] (by kernel_rfl) ⟨rfl,rfl⟩
     ·rcases o4073 with rr | _
      ·skip
       rintro e s ⟨rfl,hfl,hres⟩
       obtain rfl:=Option.some.inj H
       exact Exists.intro _ (And.intro (fun _ _ h=>h) (And.intro (.inl rfl) (And.intro hfl hres)))
      ·skip
       rintro e s ⟨rfl,rfl⟩
       obtain⟨t3957,e3958,H⟩:=bind_of H
       obtain⟨t3959,e3960,H⟩:=bind_of H
       refine sr hP hn hm [(1,.call [] [] [] [] 0 (.agg (ar19_Ask ⟨((t3957).f0),((t3957).f1),((t3957).f2),(((t3957).f3).f0),(((t3957).f3).f1),((t3957).f4),((t3957).f5)⟩)) []),(3,.call [] [(0,14),(1,15)] [] [14,15] 0 (.tup [.agg [iV .i64 (((t3959.1).f0).f0),iV .i64 (((t3959.1).f0).f1),iV .i64 (((t3959.1).f0).f2),iV .u64 (((t3959.1).f0).f3),iV .u64 (((t3959.1).f0).f4),iV .i64 (((t3959.1).f0).f5),.own 0,.own 1,iV .i64 ((t3959.1).f1),iV .u64 ((t3959.1).f2),iV .i64 (((t3959.1).f3).f0),iV .i64 (((t3959.1).f3).f1),iV .i64 (((t3959.1).f3).f2),iV .u64 (((t3959.1).f4).f0),iV .u64 (((t3959.1).f4).f1),iV .u64 (((t3959.1).f4).f2)],iV .i64 t3959.2]) [(0,some (.row 2 89 ((((t3959.1).f0).f6).map eBucket))),(1,some (.row 2 89 ((((t3959.1).f0).f7).map eBucket)))]),(7,.k 16)] [(13,.ptr 16 0 0),(14,iV .i64 t3959.2)] [1,2,13,14] [(14,some (.row 2 89 ((((t3959.1).f0).f6).map eBucket))),(15,some (.row 2 89 ((((t3959.1).f0).f7).map eBucket))),(16,some (.box 49 [iV .i64 (((t3959.1).f0).f0),iV .i64 (((t3959.1).f0).f1),iV .i64 (((t3959.1).f0).f2),iV .u64 (((t3959.1).f0).f3),iV .u64 (((t3959.1).f0).f4),iV .i64 (((t3959.1).f0).f5),.own 14,.own 15,iV .i64 ((t3959.1).f1),iV .u64 ((t3959.1).f2),iV .i64 (((t3959.1).f3).f0),iV .i64 (((t3959.1).f3).f1),iV .i64 (((t3959.1).f3).f2),iV .u64 (((t3959.1).f4).f0),iV .u64 (((t3959.1).f4).f1),iV .u64 (((t3959.1).f4).f2)]))] [13,14,15,16] [_,_,_,_] (by kernel_rfl) ⟨Tryz.call10,f_l19_To.ok a0 t3957 e3958,Tryz.call16,f_eval_Do.ok (⟨(t3957).f0,(t3957).f1,(t3957).f2,(⟨((t3957).f3).f0,((t3957).f3).f1⟩:Trank_Place),(t3957).f4,(t3957).f5⟩:Teval_Ask) a1 t3959 e3960,trivial⟩ ?_
       obtain⟨t3978,e3979,H⟩:=bind_of H
       refine sr hP hn hm [(2,.call [] [] [] [] 0 (.tup [.agg [iV .i64 (((t3978.1).f0).f0),iV .i64 (((t3978.1).f0).f1),iV .i64 (((t3978.1).f0).f2),iV .u64 (((t3978.1).f0).f3),iV .u64 (((t3978.1).f0).f4),iV .i64 (((t3978.1).f0).f5),.im (.row ((((t3978.1).f0).f6).map eBucket)),.im (.row ((((t3978.1).f0).f7).map eBucket)),iV .i64 ((t3978.1).f1),iV .u64 ((t3978.1).f2),iV .i64 (((t3978.1).f3).f0),iV .i64 (((t3978.1).f3).f1),iV .i64 (((t3978.1).f3).f2),iV .u64 (((t3978.1).f3).f3),iV .u64 (((t3978.1).f4).f0),iV .u64 (((t3978.1).f4).f1),iV .u64 (((t3978.1).f4).f2)],iV .i64 t3978.2]) []),(6,.k 17)] [(15,.ptr 17 0 0),(16,iV .i64 t3978.2)] [13,14,15,16] [(17,some (.box 56 [iV .i64 (((t3978.1).f0).f0),iV .i64 (((t3978.1).f0).f1),iV .i64 (((t3978.1).f0).f2),iV .u64 (((t3978.1).f0).f3),iV .u64 (((t3978.1).f0).f4),iV .i64 (((t3978.1).f0).f5),.im (.row ((((t3978.1).f0).f6).map eBucket)),.im (.row ((((t3978.1).f0).f7).map eBucket)),iV .i64 ((t3978.1).f1),iV .u64 ((t3978.1).f2),iV .i64 (((t3978.1).f3).f0),iV .i64 (((t3978.1).f3).f1),iV .i64 (((t3978.1).f3).f2),iV .u64 (((t3978.1).f3).f3),iV .u64 (((t3978.1).f4).f0),iV .u64 (((t3978.1).f4).f1),iV .u64 (((t3978.1).f4).f2)]))] [14,15,16,17] [_,_] (by kernel_rfl) ⟨Tryz.call17,f_r19_Do.ok a0 a1 t3978 e3979,trivial⟩ ?_
       refine AWp.seq ?_
       obtain⟨o4077,e4078,H⟩:=bind_of H
       refine AWp.mono (Q:=fun e s=>(match (generalizing:=false) o4077 with | x4070=>e = .normal∧s=⟨[(4,bV x4070)],[],0⟩)) (AWp.cv ?_) ?_
       ·replace H:=e4078;clear e4078
        obtain⟨t4061,e4062,H⟩:=bind_of H
        rcases Bool.eq_false_or_eq_true t4061 with c4063 | c4063
        ·replace H:=iT c4063 H
         rcases Bool.eq_false_or_eq_true (t3959.2==t3978.2) with c4064 | c4064
         ·replace H:=iT c4064 H
          obtain⟨t4065,e4066,H⟩:=bind_of H
          rcases Bool.eq_false_or_eq_true t4065 with c4067 | c4067
          ·replace H:=iT c4067 H
           obtain⟨t4068,e4069,H⟩:=bind_of H
           refine rg hP hn hm [(0,.call [] [] [] [] 0 (bV t4061) []),(1,.b true),(6,.b true),(9,.call [] [] [14,15] [] 0 (bV t4065) []),(11,.b true),(14,.call [] [] [14,15] [] 0 (bV t4068) [])] [(4,bV t4068)] [4] [] [] [_,_,_,_,_,_,_,_,_] (by kernel_rfl) ⟨Tryz.call5,f_l19_awake.ok  t4061 e4062,c4063,c4064,Tryz.call15,f_l19_Is.ok (⟨(⟨((t3959.1).f0).f0,((t3959.1).f0).f1,((t3959.1).f0).f2,((t3959.1).f0).f3,((t3959.1).f0).f4,((t3959.1).f0).f5,((t3959.1).f0).f6,((t3959.1).f0).f7⟩:THist),(t3959.1).f1,(t3959.1).f2,(⟨((t3959.1).f3).f0,((t3959.1).f3).f1,((t3959.1).f3).f2⟩:Tbound_Key),(⟨((t3959.1).f4).f0,((t3959.1).f4).f1,((t3959.1).f4).f2⟩:Trank_Part)⟩:Teval_Answer) (⟨(⟨((t3978.1).f0).f0,((t3978.1).f0).f1,((t3978.1).f0).f2,((t3978.1).f0).f3,((t3978.1).f0).f4,((t3978.1).f0).f5,((t3978.1).f0).f6,((t3978.1).f0).f7⟩:THist),(t3978.1).f1,(t3978.1).f2,(⟨((t3978.1).f3).f0,((t3978.1).f3).f1,((t3978.1).f3).f2,((t3978.1).f3).f3⟩:Tr08_Cell),(⟨((t3978.1).f4).f0,((t3978.1).f4).f1,((t3978.1).f4).f2⟩:S54)⟩:Tr19_Answer) t4065 e4066,c4067,Tryz.call18,f_eval_Same.ok (⟨(⟨((t3959.1).f0).f0,((t3959.1).f0).f1,((t3959.1).f0).f2,((t3959.1).f0).f3,((t3959.1).f0).f4,((t3959.1).f0).f5,((t3959.1).f0).f6,((t3959.1).f0).f7⟩:THist),(t3959.1).f1,(t3959.1).f2,(⟨((t3959.1).f3).f0,((t3959.1).f3).f1,((t3959.1).f3).f2⟩:Tbound_Key),(⟨((t3959.1).f4).f0,((t3959.1).f4).f1,((t3959.1).f4).f2⟩:Trank_Part)⟩:Teval_Answer) (⟨(⟨((t3959.1).f0).f0,((t3959.1).f0).f1,((t3959.1).f0).f2,((t3959.1).f0).f3,((t3959.1).f0).f4,((t3959.1).f0).f5,((t3959.1).f0).f6,((t3959.1).f0).f7⟩:THist),(t3959.1).f1,(t3959.1).f2,(⟨((t3959.1).f3).f0,((t3959.1).f3).f1,((t3959.1).f3).f2⟩:Tbound_Key),(⟨((t3959.1).f4).f0,((t3959.1).f4).f1,((t3959.1).f4).f2⟩:Trank_Part)⟩:Teval_Answer) t4068 e4069,trivial⟩ ?_
           obtain rfl:=Option.some.inj H
           exact lf [] [] [] (by kernel_rfl) ⟨rfl,rfl⟩
          ·replace H:=iF c4067 H
           refine rg hP hn hm [(0,.call [] [] [] [] 0 (bV t4061) []),(1,.b true),(6,.b true),(9,.call [] [] [14,15] [] 0 (bV t4065) []),(11,.b false)] [(4,bV false)] [4] [] [] [_,_,_,_,_,_,_] (by kernel_rfl) ⟨Tryz.call5,f_l19_awake.ok  t4061 e4062,c4063,c4064,Tryz.call15,f_l19_Is.ok (⟨(⟨((t3959.1).f0).f0,((t3959.1).f0).f1,((t3959.1).f0).f2,((t3959.1).f0).f3,((t3959.1).f0).f4,((t3959.1).f0).f5,((t3959.1).f0).f6,((t3959.1).f0).f7⟩:THist),(t3959.1).f1,(t3959.1).f2,(⟨((t3959.1).f3).f0,((t3959.1).f3).f1,((t3959.1).f3).f2⟩:Tbound_Key),(⟨((t3959.1).f4).f0,((t3959.1).f4).f1,((t3959.1).f4).f2⟩:Trank_Part)⟩:Teval_Answer) (⟨(⟨((t3978.1).f0).f0,((t3978.1).f0).f1,((t3978.1).f0).f2,((t3978.1).f0).f3,((t3978.1).f0).f4,((t3978.1).f0).f5,((t3978.1).f0).f6,((t3978.1).f0).f7⟩:THist),(t3978.1).f1,(t3978.1).f2,(⟨((t3978.1).f3).f0,((t3978.1).f3).f1,((t3978.1).f3).f2,((t3978.1).f3).f3⟩:Tr08_Cell),(⟨((t3978.1).f4).f0,((t3978.1).f4).f1,((t3978.1).f4).f2⟩:S54)⟩:Tr19_Answer) t4065 e4066,c4067,trivial⟩ ?_
           obtain rfl:=Option.some.inj H
           exact lf [] [] [] (by kernel_rfl) ⟨rfl,rfl⟩
         ·replace H:=iF c4064 H
          refine rg hP hn hm [(0,.call [] [] [] [] 0 (bV t4061) []),(1,.b true),(6,.b false)] [(4,bV false)] [4] [] [] [_,_,_,_] (by kernel_rfl) ⟨Tryz.call5,f_l19_awake.ok  t4061 e4062,c4063,c4064,trivial⟩ ?_
          obtain rfl:=Option.some.inj H
          exact lf [] [] [] (by kernel_rfl) ⟨rfl,rfl⟩
        ·replace H:=iF c4063 H
         refine rg hP hn hm [(0,.call [] [] [] [] 0 (bV t4061) []),(1,.b false)] [(4,bV false)] [4] [] [] [_,_,_] (by kernel_rfl) ⟨Tryz.call5,f_l19_awake.ok  t4061 e4062,c4063,trivial⟩ ?_
         obtain rfl:=Option.some.inj H
         exact lf [] [] [] (by kernel_rfl) ⟨rfl,rfl⟩
       ·obtain⟨x4070,rfl⟩:∃ z,z=o4077:=⟨_,rfl⟩
        rintro e s ⟨rfl,rfl⟩
        refine AWp.conv (inv:=[]) (vk:=[]) (e0:=[]) (t:=⟨[(4,bV x4070)],[],0⟩) (by kernel_rfl) ?_
        refine AWp.ret ?_
        obtain rfl:=Option.some.inj H
        exact rl (.inl rfl) rfl (by kernel_rfl) (by kernel_rfl)
end Go.Proofs.YtbmdealiikoplaaGreat.PvGJ
