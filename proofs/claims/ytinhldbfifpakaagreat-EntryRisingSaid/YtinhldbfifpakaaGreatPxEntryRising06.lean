import Derived.Test.YtinhldbfifpakaaGreatProg
import Derived.Test.YtinhldbfifpakaaGreatPxEntryRising05
set_option linter.unusedVariables false
set_option linter.unnecessarySimpa false
set_option linter.unusedSimpArgs false
set_option maxRecDepth 10000
namespace Go.Proofs.YtinhldbfifpakaaGreat.PvGL
open Go Go.Pv Go.IntKind
structure Z9 where
 f0:Int
 f1:Int
 deriving DecidableEq,Inhabited
abbrev Z1 (x:Z9):List Im:=[iI .i64 x.f0,iI .u64 x.f1]
abbrev Z2m (x:Z9):List AVal:=[iV .i64 x.f0,iV .u64 x.f1]
structure RBucket (x:Z9):Prop where
 r0:I64 x.f0
 r1:U64 x.f1
structure Z0f where
 f0:Int
 f1:Int
 f2:Int
 f3:Int
 f4:Int
 f5:Int
 f6:List Z9
 f7:List Z9
 deriving DecidableEq,Inhabited
abbrev eHist (x:Z0f):List Im:=[iI .i64 x.f0,iI .i64 x.f1,iI .i64 x.f2,iI .u64 x.f3,iI .u64 x.f4,iI .i64 x.f5,.row (x.f6.map Z1),.row (x.f7.map Z1)]
abbrev Z08 (x:Z0f):List AVal:=[iV .i64 x.f0,iV .i64 x.f1,iV .i64 x.f2,iV .u64 x.f3,iV .u64 x.f4,iV .i64 x.f5,.im (.row (x.f6.map Z1)),.im (.row (x.f7.map Z1))]
structure RHist (x:Z0f):Prop where
 r0:I64 x.f0
 r1:I64 x.f1
 r2:I64 x.f2
 r3:U64 x.f3
 r4:U64 x.f4
 r5:I64 x.f5
 r6:x.f6.length≤140737488351232∧∀ y∈x.f6,RBucket y
 r7:x.f7.length≤140737488351232∧∀ y∈x.f7,RBucket y
structure Zt where
 f0:Int
 f1:Z0f
 deriving DecidableEq,Inhabited
abbrev Z6 (x:Zt):List Im:=[iI .i64 x.f0,iI .i64 x.f1.f0,iI .i64 x.f1.f1,iI .i64 x.f1.f2,iI .u64 x.f1.f3,iI .u64 x.f1.f4,iI .i64 x.f1.f5,.row (x.f1.f6.map Z1),.row (x.f1.f7.map Z1)]
abbrev aSample (x:Zt):List AVal:=[iV .i64 x.f0,iV .i64 x.f1.f0,iV .i64 x.f1.f1,iV .i64 x.f1.f2,iV .u64 x.f1.f3,iV .u64 x.f1.f4,iV .i64 x.f1.f5,.im (.row (x.f1.f6.map Z1)),.im (.row (x.f1.f7.map Z1))]
structure RSample (x:Zt):Prop where
 r0:I64 x.f0
 r1:RHist x.f1
structure Z1o where
 f0:ByteArray
 f1:Int
 f2:Z0f
 deriving DecidableEq,Inhabited
abbrev Zz (x:Z1o):List Im:=[sI x.f0,iI .i64 x.f1,iI .i64 x.f2.f0,iI .i64 x.f2.f1,iI .i64 x.f2.f2,iI .u64 x.f2.f3,iI .u64 x.f2.f4,iI .i64 x.f2.f5,.row (x.f2.f6.map Z1),.row (x.f2.f7.map Z1)]
structure Rentry_Item (x:Z1o):Prop where
 r0:x.f0.size≤maxLen
 r1:I64 x.f1
 r2:RHist x.f2
structure Z5 where
 f0:Int
 f1:Int
 deriving DecidableEq,Inhabited
abbrev Z0 (x:Z5):List Im:=[iI .i64 x.f0,iI .i64 x.f1]
abbrev Z3w (x:Z5):List AVal:=[iV .i64 x.f0,iV .i64 x.f1]
structure Z8d (x:Z5):Prop where
 r0:I64 x.f0
 r1:I64 x.f1
structure Z1w where
 f0:ByteArray
 f1:Z5
 deriving DecidableEq,Inhabited
abbrev Z06 (x:Z1w):List Im:=[sI x.f0,iI .i64 x.f1.f0,iI .i64 x.f1.f1]
structure Rentry_Cut (x:Z1w):Prop where
 r0:x.f0.size≤maxLen
 r1:Z8d x.f1
structure Z0h where
 f0:Int
 f1:List Z1o
 f2:List Z1w
 f3:Int
 deriving DecidableEq,Inhabited
abbrev Z1q (x:Z0h):List AVal:=[iV .i64 x.f0,.im (.row (x.f1.map Zz)),.im (.row (x.f2.map Z06)),iV .i64 x.f3]
structure Rentry_Change (x:Z0h):Prop where
 r0:I64 x.f0
 r1:x.f1.length≤140737488351232∧∀ y∈x.f1,Rentry_Item y
 r2:x.f2.length≤140737488351232∧∀ y∈x.f2,Rentry_Cut y
 r3:I64 x.f3
structure Z40 where
 f0:ByteArray
 f1:ByteArray
 deriving DecidableEq,Inhabited
abbrev Z2i (x:Z40):List Im:=[sI x.f0,sI x.f1]
abbrev aLabel (x:Z40):List AVal:=[sV x.f0,sV x.f1]
structure RLabel (x:Z40):Prop where
 r0:x.f0.size≤maxLen
 r1:x.f1.size≤maxLen
structure Tbits_Writer where
 f0:List Int
 f1:Int
 deriving DecidableEq,Inhabited
structure Rbits_Writer (x:Tbits_Writer):Prop where
 r0:x.f0.length≤140737488351232∧∀ y∈x.f0,Rng 0 256 y
 r1:U64 x.f1
structure Z38 where
 f0:Int
 f1:Int
 deriving DecidableEq,Inhabited
abbrev Z0q (x:Z38):List Im:=[iI .i64 x.f0,iI .i64 x.f1]
abbrev aSpan (x:Z38):List AVal:=[iV .i64 x.f0,iV .i64 x.f1]
structure RSpan (x:Z38):Prop where
 r0:I64 x.f0
 r1:I64 x.f1
structure Zm where
 f0:Int
 f1:List Z38
 deriving DecidableEq,Inhabited
abbrev Zj (x:Zm):List AVal:=[iV .i64 x.f0,.im (.row (x.f1.map Z0q))]
structure Rspan_Layout (x:Zm):Prop where
 r0:I64 x.f0
 r1:x.f1.length≤140737488351232∧∀ y∈x.f1,RSpan y
structure Z2p where
 f0:List Z5
 deriving DecidableEq,Inhabited
structure Rtomb_Set (x:Z2p):Prop where
 r0:x.f0.length≤140737488351232∧∀ y∈x.f0,Z8d y
structure Z7n where
 f0:List Int
 f1:Int
 f2:Int
 deriving DecidableEq,Inhabited
abbrev Z3 (x:Z7n):List AVal:=[.im (.row (x.f0.map (Z2 .u8))),iV .i64 x.f1,iV .i64 x.f2]
structure Rbits_Reader (x:Z7n):Prop where
 r0:x.f0.length≤140737488351232∧∀ y∈x.f0,Rng 0 256 y
 r1:I64 x.f1
 r2:I64 x.f2
def Z2h.l0 (a0:ByteArray) (x116:Int):Option (Bool ⊕ Unit):=if(decide (x116<(a0.size:Int)))=true then((chk (0≤x116∧x116<(a0.size:Int)))>>=fun _=>((if(decide ((bt a0 x116)≥(97:Int)))=true then(if(decide ((bt a0 x116)≤(122:Int)))=true then(some true) else(if(decide ((bt a0 x116)≥(65:Int)))=true then(if(decide ((bt a0 x116)≤(90:Int)))=true then(some true) else(some ((bt a0 x116)==(95:Int)))) else(some ((bt a0 x116)==(95:Int))))) else(if(decide ((bt a0 x116)≥(65:Int)))=true then(if(decide ((bt a0 x116)≤(90:Int)))=true then(some true) else(some ((bt a0 x116)==(95:Int)))) else(some ((bt a0 x116)==(95:Int))))):Option (Bool))>>=fun x132=>((if(!x132)=true then(if(x116==(0:Int))=true then(some true) else(if(decide ((bt a0 x116)<(48:Int)))=true then(some true) else(some (decide ((bt a0 x116)>(57:Int)))))) else(some false)):Option (Bool))>>=fun x139=>if x139=true then(some (.inl false)) else(Z2h.l0 a0 (i64.wrap (x116+(1:Int))))) else(some (.inr ()))
partial_fixpoint
def Z2h.f (a0:ByteArray):Option (Bool):=((if(a0.toList==(⟨#[]⟩:ByteArray).toList)=true then(some true) else(some (decide ((a0.size:Int)>(64:Int))))):Option (Bool))>>=fun x94=>if x94=true then(some false) else((Z2h.l0 a0 0)>>=fun oo=>match oo with | .inl rr=>(some rr) | .inr _=>(some true))
theorem Z2h.ok (a0:ByteArray) (r:Bool) (H:Z2h.f a0=some r):Pv.Fn Tryz.prog 148 [sV a0] [] 0 (fun x o=>x=bV r∧o=[]):=by
 unfold Z2h.f at H
 refine Fn.bodyK [] Tryz.func148 rfl rfl (fun Γ hP hn => ?_)
 have hm:Tryz.prog.follows .mixedOrders=true:=by kernel_rfl
 replace hn:Γ.n=54:=hn
 refine sO hP hn hm [] [] [0] [] [] ?_
 refine AWp.seq ?_
 refine AWp.seq ?_
 obtain⟨o141,e142,H⟩:=Z4 H
 refine AWp.mono (Q:=fun e s=>(match (generalizing:=false) o141 with | x94=>e = .normal∧s=⟨[(0,sV a0),(12,bV x94)],[],0⟩)) (AWp.cv ?_) ?_
 ·replace H:=e142;clear e142
  rcases Bool.eq_false_or_eq_true (a0.toList==(⟨#[]⟩:ByteArray).toList) with c93 | c93
  ·replace H:=iT c93 H
   refine rG hP hn hm [(2,.b true)] [(12,bV true)] [0,12] [] [] [_] ⟨c93,trivial⟩ ?_
   obtain rfl:=sj H
   exact lf [] [] [] (by kernel_rfl) ⟨rfl,rfl⟩
  ·replace H:=iF c93 H
   refine rG hP hn hm [(2,.b false)] [(12,bV (decide ((a0.size:Int)>(64:Int))))] [0,12] [] [] [_] ⟨c93,trivial⟩ ?_
   obtain rfl:=sj H
   exact lf [] [] [] (by kernel_rfl) ⟨rfl,rfl⟩
 ·obtain⟨x94,rfl⟩:∃ z,z=o141:=⟨_,rfl⟩
  rintro e s ⟨rfl,rfl⟩
  refine AWp.cond x94 (by kernel_rfl) (fun c95 => ?_) (fun c95 => ?_)
  ·replace H:=iT c95 H
   refine sO hP hn hm [] [(2,bV false)] [2] [] [] ?_
   refine AWp.conv (inv:=[]) (vk:=[]) (e0:=[]) (t:=⟨[(2,bV false)],[],0⟩) (by kernel_rfl) ?_
   refine AWp.ret ?_
   obtain rfl:=sj H
   exact rl (.inl rfl) rfl (by kernel_rfl) (by kernel_rfl)
  ·replace H:=iF c95 H
   refine AWp.skip ?_
   refine AWp.seq ?_
   refine sO hP hn hm [] [(14,iV .i64 (a0.size:Int)),(15,iV .i64 0)] [0,14,15] [] [] ?_
   refine AWp.block ?_
   obtain⟨o143,e144,H⟩:=Z4 H
   refine AWp.loop (LWp.conv (inv:=[]) (vk:=[]) (e0:=[]) (t:=⟨[(0,sV a0),(14,iV .i64 (a0.size:Int)),(15,iV .i64 0)],[],0⟩) (by kernel_rfl) ?_)
   refine LWp.mono (Q:=fun e s=>(match (generalizing:=false) o143 with | .inl rr=>e = .ret∧s.floor=0∧Z1y Tryz.prog Tryz.f148 s=some (bV rr)∧([]:List (Nat×Option MObj))=[] | .inr _=>e = .exit 0∧s=⟨[],[],0⟩)) (LWp.cv (Zs (fun body hbody => ?_))) ?_
   ·refine          Z2h.l0.partial_correctness a0 (motive:=fun x116 o143=>LWp Γ body (fun e s=>∃ t,Cv Γ s t∧(match (generalizing:=false) o143 with | .inl rr=>e = .ret∧t.floor=0∧Z1y   Tryz.prog Tryz.f148 t=some (bV rr)∧([]:List (Nat×Option MObj))=[] | .inr _=>e = .exit 0∧t=⟨[],[],0⟩)) ⟨[(0,sV a0),(14,iV .i64 (a0.size:Int)),(15,iV .i64 x116)],[],0⟩) ?_ _ _ e144
    clear H e144 o143;intro self ih x116 o143 H
    subst hbody
    refine LWp.round ?_
    refine sO hP hn hm [] [(16,bV (decide (x116<(a0.size:Int))))] [0,14,15,16] [] [] ?_
    refine AWp.seq ?_
    refine AWp.cond (decide (x116<(a0.size:Int))) (by kernel_rfl) (fun c117 => ?_) (fun c117 => ?_)
    ·replace H:=iT c117 H
     refine AWp.skip ?_
     refine AWp.seq ?_
     refine AWp.block ?_
     refine sO hP hn hm [] [(3,iV .i64 x116)] [0,3,14,15] [] [] ?_
     obtain⟨c119,H⟩:=Z10 H
     refine sR hP hn hm [] [(4,iV .u8 (bt a0 x116))] [0,3,4,14,15] [] [] [0≤x116,x116<(a0.size:Int)] ⟨by exact c119.1,by exact c119.2,trivial⟩ ?_
     refine AWp.seq ?_
     obtain⟨o145,e146,H⟩:=Z4 H
     refine AWp.mono (Q:=fun e s=>(match (generalizing:=false) o145 with | x132=>e = .normal∧s=⟨[(0,sV a0),(3,iV .i64 x116),(4,iV .u8 (bt a0 x116)),(5,bV x132),(14,iV .i64 (a0.size:Int)),(15,iV .i64 x116)],[],0⟩)) (AWp.cv ?_) ?_
     ·replace H:=e146;clear e146
      rcases Bool.eq_false_or_eq_true (decide ((bt a0 x116)≥(97:Int))) with c126 | c126
      ·replace H:=iT c126 H
       rcases Bool.eq_false_or_eq_true (decide ((bt a0 x116)≤(122:Int))) with c127 | c127
       ·replace H:=iT c127 H
        refine rG hP hn hm [(2,.b true),(6,.b true)] [(5,bV true),(24,iV .u8 (bt a0 x116)),(25,bV (decide ((bt a0 x116)≤(122:Int))))] [0,3,4,5,14,15,24,25] [] [] [_,_] ⟨c126,c127,trivial⟩ ?_
        obtain rfl:=sj H
        exact lf [] [] [] (by kernel_rfl) ⟨rfl,rfl⟩
       ·replace H:=iF c127 H
        rcases Bool.eq_false_or_eq_true (decide ((bt a0 x116)≥(65:Int))) with c128 | c128
        ·replace H:=iT c128 H
         rcases Bool.eq_false_or_eq_true (decide ((bt a0 x116)≤(90:Int))) with c129 | c129
         ·replace H:=iT c129 H
          refine rG hP hn hm [(2,.b true),(6,.b false),(9,.b true),(14,.b true)] [(5,bV true),(24,iV .u8 (bt a0 x116)),(25,bV (decide ((bt a0 x116)≤(122:Int)))),(28,iV .u8 (bt a0 x116)),(29,bV (decide ((bt a0 x116)≥(65:Int)))),(30,bV true),(31,iV .u8 (bt a0 x116)),(32,bV (decide ((bt a0 x116)≤(90:Int)))),(33,bV (decide ((bt a0 x116)≤(90:Int))))] [0,3,4,5,14,15,24,25,28,29,30,31,32,33] [] [] [_,_,_,_] ⟨c126,c127,c128,c129,trivial⟩ ?_
          obtain rfl:=sj H
          exact lf [] [] [] (by kernel_rfl) ⟨rfl,rfl⟩
         ·replace H:=iF c129 H
          refine rG hP hn hm [(2,.b true),(6,.b false),(9,.b true),(14,.b false)] [(5,bV ((bt a0 x116)==(95:Int))),(24,iV .u8 (bt a0 x116)),(25,bV (decide ((bt a0 x116)≤(122:Int)))),(28,iV .u8 (bt a0 x116)),(29,bV (decide ((bt a0 x116)≥(65:Int)))),(30,bV true),(31,iV .u8 (bt a0 x116)),(32,bV (decide ((bt a0 x116)≤(90:Int)))),(33,bV (decide ((bt a0 x116)≤(90:Int)))),(36,iV .u8 (bt a0 x116)),(37,bV ((bt a0 x116)==(95:Int)))] [0,3,4,5,14,15,24,25,28,29,30,31,32,33,36,37] [] [] [_,_,_,_] ⟨c126,c127,c128,c129,trivial⟩ ?_
          obtain rfl:=sj H
          exact lf [] [] [] (by kernel_rfl) ⟨rfl,rfl⟩
        ·replace H:=iF c128 H
         refine rG hP hn hm [(2,.b true),(6,.b false),(9,.b false)] [(5,bV ((bt a0 x116)==(95:Int))),(24,iV .u8 (bt a0 x116)),(25,bV (decide ((bt a0 x116)≤(122:Int)))),(28,iV .u8 (bt a0 x116)),(29,bV (decide ((bt a0 x116)≥(65:Int)))),(30,bV false),(33,bV false),(36,iV .u8 (bt a0 x116)),(37,bV ((bt a0 x116)==(95:Int)))] [0,3,4,5,14,15,24,25,28,29,30,33,36,37] [] [] [_,_,_] ⟨c126,c127,c128,trivial⟩ ?_
         obtain rfl:=sj H
         exact lf [] [] [] (by kernel_rfl) ⟨rfl,rfl⟩
      ·replace H:=iF c126 H
       rcases Bool.eq_false_or_eq_true (decide ((bt a0 x116)≥(65:Int))) with c130 | c130
       ·replace H:=iT c130 H
        rcases Bool.eq_false_or_eq_true (decide ((bt a0 x116)≤(90:Int))) with c131 | c131
        ·replace H:=iT c131 H
         refine rG hP hn hm [(2,.b false),(9,.b true),(14,.b true)] [(5,bV true),(28,iV .u8 (bt a0 x116)),(29,bV (decide ((bt a0 x116)≥(65:Int)))),(30,bV true),(31,iV .u8 (bt a0 x116)),(32,bV (decide ((bt a0 x116)≤(90:Int)))),(33,bV (decide ((bt a0 x116)≤(90:Int))))] [0,3,4,5,14,15,28,29,30,31,32,33] [] [] [_,_,_] ⟨c126,c130,c131,trivial⟩ ?_
         obtain rfl:=sj H
         exact lf [] [] [] (by kernel_rfl) ⟨rfl,rfl⟩
        ·replace H:=iF c131 H
         refine rG hP hn hm [(2,.b false),(9,.b true),(14,.b false)] [(5,bV ((bt a0 x116)==(95:Int))),(28,iV .u8 (bt a0 x116)),(29,bV (decide ((bt a0 x116)≥(65:Int)))),(30,bV true),(31,iV .u8 (bt a0 x116)),(32,bV (decide ((bt a0 x116)≤(90:Int)))),(33,bV (decide ((bt a0 x116)≤(90:Int)))),(36,iV .u8 (bt a0 x116)),(37,bV ((bt a0 x116)==(95:Int)))] [0,3,4,5,14,15,28,29,30,31,32,33,36,37] [] [] [_,_,_] ⟨c126,c130,c131,trivial⟩ ?_
         obtain rfl:=sj H
         exact lf [] [] [] (by kernel_rfl) ⟨rfl,rfl⟩
       ·replace H:=iF c130 H
        refine rG hP hn hm [(2,.b false),(9,.b false)] [(5,bV ((bt a0 x116)==(95:Int))),(28,iV .u8 (bt a0 x116)),(29,bV (decide ((bt a0 x116)≥(65:Int)))),(30,bV false),(33,bV false),(36,iV .u8 (bt a0 x116)),(37,bV ((bt a0 x116)==(95:Int)))] [0,3,4,5,14,15,28,29,30,33,36,37] [] [] [_,_] ⟨c126,c130,trivial⟩ ?_
        obtain rfl:=sj H
        exact lf [] [] [] (by kernel_rfl) ⟨rfl,rfl⟩
     ·obtain⟨x132,rfl⟩:∃ z,z=o145:=⟨_,rfl⟩
      rintro e s ⟨rfl,rfl⟩
      refine AWp.seq ?_
      obtain⟨o147,e148,H⟩:=Z4 H
      refine AWp.mono (Q:=fun e s=>(match (generalizing:=false) o147 with | x139=>e = .normal∧s=⟨[(0,sV a0),(14,iV .i64 (a0.size:Int)),(15,iV .i64 x116),(52,bV x139)],[],0⟩)) (AWp.cv ?_) ?_
      ·replace H:=e148;clear e148
       rcases Bool.eq_false_or_eq_true (!x132) with c136 | c136
       ·replace H:=iT c136 H
        rcases Bool.eq_false_or_eq_true (x116==(0:Int)) with c137 | c137
        ·replace H:=iT c137 H
         refine rG hP hn hm [(2,.b true),(5,.b true)] [(42,iV .i64 x116),(43,bV (x116==(0:Int))),(44,bV true),(47,bV true),(48,bV true),(51,bV true),(52,bV true)] [0,14,15,42,43,44,47,48,51,52] [] [] [_,_] ⟨c136,c137,trivial⟩ ?_
         obtain rfl:=sj H
         exact lf [] [] [] (by kernel_rfl) ⟨rfl,rfl⟩
        ·replace H:=iF c137 H
         rcases Bool.eq_false_or_eq_true (decide ((bt a0 x116)<(48:Int))) with c138 | c138
         ·replace H:=iT c138 H
          refine rG hP hn hm [(2,.b true),(5,.b false),(9,.b true)] [(42,iV .i64 x116),(43,bV (x116==(0:Int))),(44,bV false),(45,iV .u8 (bt a0 x116)),(46,bV (decide ((bt a0 x116)<(48:Int)))),(47,bV (decide ((bt a0 x116)<(48:Int)))),(48,bV true),(51,bV true),(52,bV true)] [0,14,15,42,43,44,45,46,47,48,51,52] [] [] [_,_,_] ⟨c136,c137,c138,trivial⟩ ?_
          obtain rfl:=sj H
          exact lf [] [] [] (by kernel_rfl) ⟨rfl,rfl⟩
         ·replace H:=iF c138 H
          refine rG hP hn hm [(2,.b true),(5,.b false),(9,.b false)] [(42,iV .i64 x116),(43,bV (x116==(0:Int))),(44,bV false),(45,iV .u8 (bt a0 x116)),(46,bV (decide ((bt a0 x116)<(48:Int)))),(47,bV (decide ((bt a0 x116)<(48:Int)))),(48,bV false),(49,iV .u8 (bt a0 x116)),(50,bV (decide ((bt a0 x116)>(57:Int)))),(51,bV (decide ((bt a0 x116)>(57:Int)))),(52,bV (decide ((bt a0 x116)>(57:Int))))] [0,14,15,42,43,44,45,46,47,48,49,50,51,52] [] [] [_,_,_] ⟨c136,c137,c138,trivial⟩ ?_
          obtain rfl:=sj H
          exact lf [] [] [] (by kernel_rfl) ⟨rfl,rfl⟩
       ·replace H:=iF c136 H
        refine rG hP hn hm [(2,.b false)] [(52,bV false)] [0,14,15,52] [] [] [_] ⟨c136,trivial⟩ ?_
        obtain rfl:=sj H
        exact lf [] [] [] (by kernel_rfl) ⟨rfl,rfl⟩
      ·obtain⟨x139,rfl⟩:∃ z,z=o147:=⟨_,rfl⟩
       rintro e s ⟨rfl,rfl⟩
       refine AWp.cond x139 (by kernel_rfl) (fun c140 => ?_) (fun c140 => ?_)
       ·replace H:=iT c140 H
        refine sO hP hn hm [] [(2,bV false)] [2] [] [] ?_
        refine AWp.conv (inv:=[]) (vk:=[]) (e0:=[]) (t:=⟨[(2,bV false)],[],0⟩) (by kernel_rfl) ?_
        refine AWp.ret ?_
        obtain rfl:=sj H
        exact rl rfl rfl (by kernel_rfl) (by kernel_rfl)
       ·replace H:=iF c140 H
        refine AWp.skip ?_
        refine rO hP hn hm [] [(15,iV .i64 (i64.wrap (x116+(1:Int))))] [0,14,15] [] [] ?_
        exact LWp.conv [] [] [] (by kernel_rfl) (ih _ _ H)
    ·replace H:=iF c117 H
     refine AWp.exit ?_
     obtain rfl:=sj H
     exact lf [] [] [] (by kernel_rfl) ⟨rfl,rfl⟩
   ·rcases o143 with rr | _
    ·skip
     rintro e s ⟨rfl,hfl,hres⟩
     obtain rfl:=sj H
     exact Exists.intro _ (And.intro (fun _ _ h=>h) (And.intro (.inl rfl) (And.intro hfl hres)))
    ·skip
     rintro e s ⟨rfl,rfl⟩
     refine sO hP hn hm [] [(2,bV true)] [2] [] [] ?_
     refine AWp.conv (inv:=[]) (vk:=[]) (e0:=[]) (t:=⟨[(2,bV true)],[],0⟩) (by kernel_rfl) ?_
     refine AWp.ret ?_
     obtain rfl:=sj H
     exact rl (.inl rfl) rfl (by kernel_rfl) (by kernel_rfl)
def Z3p.f (a0:ByteArray):Option (Bool):=((if(!(a0.toList==(⟨#[]⟩:ByteArray).toList))=true then(some (decide ((a0.size:Int)≤(64:Int)))) else(some false)):Option (Bool))>>=fun x154=>some x154
theorem Z3p.ok (a0:ByteArray) (r:Bool) (H:Z3p.f a0=some r):Pv.Fn Tryz.prog 149 [sV a0] [] 0 (fun x o=>x=bV r∧o=[]):=by
 unfold Z3p.f at H
 refine Fn.bodyK [] Tryz.func149 rfl rfl (fun Γ hP hn => ?_)
 have hm:Tryz.prog.follows .mixedOrders=true:=by kernel_rfl
 replace hn:Γ.n=10:=hn
 refine sO hP hn hm [] [] [0] [] [] ?_
 refine AWp.seq ?_
 obtain⟨o155,e156,H⟩:=Z4 H
 refine AWp.mono (Q:=fun e s=>(match (generalizing:=false) o155 with | x154=>e = .normal∧s=⟨[(2,bV x154)],[],0⟩)) (AWp.cv ?_) ?_
 ·replace H:=e156;clear e156
  rcases Bool.eq_false_or_eq_true (!(a0.toList==(⟨#[]⟩:ByteArray).toList)) with c153 | c153
  ·replace H:=iT c153 H
   refine rG hP hn hm [(2,.b true)] [(2,bV (decide ((a0.size:Int)≤(64:Int))))] [2] [] [] [_] ⟨c153,trivial⟩ ?_
   obtain rfl:=sj H
   exact lf [] [] [] (by kernel_rfl) ⟨rfl,rfl⟩
  ·replace H:=iF c153 H
   refine rG hP hn hm [(2,.b false)] [(2,bV false)] [2] [] [] [_] ⟨c153,trivial⟩ ?_
   obtain rfl:=sj H
   exact lf [] [] [] (by kernel_rfl) ⟨rfl,rfl⟩
 ·obtain⟨x154,rfl⟩:∃ z,z=o155:=⟨_,rfl⟩
  rintro e s ⟨rfl,rfl⟩
  refine AWp.conv (inv:=[]) (vk:=[]) (e0:=[]) (t:=⟨[(2,bV x154)],[],0⟩) (by kernel_rfl) ?_
  refine AWp.ret ?_
  obtain rfl:=sj H
  exact rl (.inl rfl) rfl (by kernel_rfl) (by kernel_rfl)
def Z2t.l0 (a0:List Z40) (x168:Int):Option (Int ⊕ Unit):=if(decide (x168<(a0.length:Int)))=true then((at? a0 x168)>>=fun b173=>(((Z2h.f b173.f0)>>=fun t186=>if(!t186)=true then(some true) else((Z3p.f b173.f1)>>=fun t189=>if(!t189)=true then(some true) else(if(decide (x168>(0:Int)))=true then((at? a0 (i64.wrap (x168-(1:Int))))>>=fun b193=>some (!Op.bytesLess b193.f0.toList b173.f0.toList)) else(some false)))):Option (Bool))>>=fun x196=>if x196=true then(some (.inl 26)) else(Z2t.l0 a0 (i64.wrap (x168+(1:Int))))) else(some (.inr ()))
partial_fixpoint
def Z2t.f (a0:List Z40):Option (Int):=if(decide ((a0.length:Int)>(16:Int)))=true then(some 9) else((Z2t.l0 a0 0)>>=fun oo=>match oo with | .inl rr=>(some rr) | .inr _=>(some 0))
theorem Z2t.ok (a0:List Z40) (r:Int) (H:Z2t.f a0=some r):Pv.Fn Tryz.prog 114 [.im (.row (a0.map Z2i))] [] 0 (fun x o=>x=iV .i64 r∧o=[]):=by
 unfold Z2t.f at H
 refine Fn.bodyK [] Tryz.func114 rfl rfl (fun Γ hP hn => ?_)
 have hm:Tryz.prog.follows .mixedOrders=true:=by kernel_rfl
 replace hn:Γ.n=41:=hn
 refine sO hP hn hm [] [] [0] [] [] ?_
 refine AWp.seq ?_
 refine sR hP hn hm [(1,.any (iV .i64 (a0.length:Int)))] [(7,bV (decide ((a0.length:Int)>(16:Int))))] [0,7] [] [] [((a0.map Z2i).length:Int)=(a0.length:Int)] ⟨by rw[Zr],trivial⟩ ?_
 refine AWp.cond (decide ((a0.length:Int)>(16:Int))) (by kernel_rfl) (fun c84 => ?_) (fun c84 => ?_)
 ·replace H:=iT c84 H
  refine sO hP hn hm [] [(2,iV .i64 9)] [2] [] [] ?_
  refine AWp.conv (inv:=[]) (vk:=[]) (e0:=[]) (t:=⟨[(2,iV .i64 9)],[],0⟩) (by kernel_rfl) ?_
  refine AWp.ret ?_
  obtain rfl:=sj H
  exact rl (.inl rfl) rfl (by kernel_rfl) (by kernel_rfl)
 ·replace H:=iF c84 H
  refine AWp.skip ?_
  refine AWp.seq ?_
  refine sR hP hn hm [(1,.any (iV .i64 (a0.length:Int)))] [(8,.im (.row (a0.map Z2i))),(9,iV .i64 (a0.length:Int)),(10,iV .i64 0)] [0,8,9,10] [] [] [((a0.map Z2i).length:Int)=(a0.length:Int)] ⟨by rw[Zr],trivial⟩ ?_
  refine AWp.block ?_
  obtain⟨o198,e199,H⟩:=Z4 H
  refine AWp.loop (LWp.conv (inv:=[]) (vk:=[]) (e0:=[]) (t:=⟨[(0,.im (.row (a0.map Z2i))),(8,.im (.row (a0.map Z2i))),(9,iV .i64 (a0.length:Int)),(10,iV .i64 0)],[],0⟩) (by kernel_rfl) ?_)
  refine LWp.mono (Q:=fun e s=>(match (generalizing:=false) o198 with | .inl rr=>e = .ret∧s.floor=0∧Z1y Tryz.prog Tryz.f114 s=some (iV .i64 rr)∧([]:List (Nat×Option MObj))=[] | .inr _=>e = .exit 0∧s=⟨[],[],0⟩)) (LWp.cv (Zs (fun body hbody => ?_))) ?_
  ·refine           Z2t.l0.partial_correctness a0 (motive:=fun x168 o198=>LWp Γ body (fun e s=>∃ t,Cv Γ s t∧(match (generalizing:=false) o198 with | .inl rr=>e = .ret∧t.floor=0∧Z1y   Tryz.prog Tryz.f114 t=some (iV .i64 rr)∧([]:List (Nat×Option MObj))=[] | .inr _=>e = .exit 0∧t=⟨[],[],0⟩)) ⟨[(0,.im (.row (a0.map Z2i   ))),(8,.im (.row (a0.map Z2i   ))),(9,iV .i64 (a0.length:Int)),(10,iV .i64 x168)],[],0⟩) ?_ _ _ e199
   clear H e199 o198;intro self ih x168 o198 H
   subst hbody
   refine LWp.round ?_
   refine sO hP hn hm [] [(11,bV (decide (x168<(a0.length:Int))))] [0,8,9,10,11] [] [] ?_
   refine AWp.seq ?_
   refine AWp.cond (decide (x168<(a0.length:Int))) (by kernel_rfl) (fun c169 => ?_) (fun c169 => ?_)
   ·replace H:=iT c169 H
    refine AWp.skip ?_
    refine AWp.seq ?_
    refine AWp.block ?_
    obtain⟨b173,p174,q175,H⟩:=Z02 H
    refine sR hP hn hm [(1,.c (Z2i b173)),(3,.k 1)] [(3,iV .i64 x168),(4,.ptr 1 0 0)] [0,3,4,8,9,10] [(1,some (.box 130 (aLabel b173)))] [1] [_,_] ⟨p174,Zi Z2i q175,trivial⟩ ?_
    refine AWp.seq ?_
    obtain⟨o200,e201,H⟩:=Z4 H
    refine AWp.mono (Q:=fun e s=>(match (generalizing:=false) o200 with | x196=>e = .normal∧s=⟨[(0,.im (.row (a0.map Z2i))),(8,.im (.row (a0.map Z2i))),(9,iV .i64 (a0.length:Int)),(10,iV .i64 x168),(39,bV x196)],[],0⟩)) (AWp.cv ?_) ?_
    ·replace H:=e201;clear e201
     obtain⟨t186,e187,H⟩:=Z4 H
     rcases Bool.eq_false_or_eq_true (!t186) with c188 | c188
     ·replace H:=iT c188 H
      refine rG hP hn hm [(2,.call [] [] [] [] 0 (bV t186) []),(4,.b true)] [(39,bV true)] [0,8,9,10,39] [] [] [_,_,_] ⟨Tryz.call148,Z2h.ok b173.f0 t186 e187,c188,trivial⟩ ?_
      obtain rfl:=sj H
      exact lf [] [] [] (by kernel_rfl) ⟨rfl,rfl⟩
     ·replace H:=iF c188 H
      obtain⟨t189,e190,H⟩:=Z4 H
      rcases Bool.eq_false_or_eq_true (!t189) with c191 | c191
      ·replace H:=iT c191 H
       refine rG hP hn hm [(2,.call [] [] [] [] 0 (bV t186) []),(4,.b false),(7,.call [] [] [] [] 0 (bV t189) []),(10,.b true)] [(20,.ptr 1 0 1),(21,sV b173.f1),(22,bV t189),(23,bV (!t189)),(39,bV true)] [0,8,9,10,20,21,22,23,39] [] [1] [_,_,_,_,_,_] ⟨Tryz.call148,Z2h.ok b173.f0 t186 e187,c188,Tryz.call149,Z3p.ok b173.f1 t189 e190,c191,trivial⟩ ?_
       obtain rfl:=sj H
       exact lf [] [] [] (by kernel_rfl) ⟨rfl,rfl⟩
      ·replace H:=iF c191 H
       rcases Bool.eq_false_or_eq_true (decide (x168>(0:Int))) with c192 | c192
       ·replace H:=iT c192 H
        obtain⟨b193,p194,q195,H⟩:=Z02 H
        refine rG hP hn hm [(2,.call [] [] [] [] 0 (bV t186) []),(4,.b false),(7,.call [] [] [] [] 0 (bV t189) []),(10,.b false),(13,.b true),(17,.c (Z2i b193))] [(20,.ptr 1 0 1),(21,sV b173.f1),(22,bV t189),(23,bV (!t189)),(26,iV .i64 x168),(27,bV (decide (x168>(0:Int)))),(28,bV true),(29,.im (.row (a0.map Z2i))),(30,iV .i64 x168),(31,iV .i64 (i64.wrap (x168-(1:Int)))),(32,.ip [sI b193.f0,sI b193.f1]),(33,.ip [sI b193.f0,sI b193.f1]),(34,sV b193.f0),(35,.ptr 1 0 0),(36,sV b173.f0),(37,bV (!Op.bytesLess b193.f0.toList b173.f0.toList)),(38,bV (!Op.bytesLess b193.f0.toList b173.f0.toList)),(39,bV (!Op.bytesLess b193.f0.toList b173.f0.toList))] [0,8,9,10,20,21,22,23,26,27,28,29,30,31,32,33,34,35,36,37,38,39] [] [1] [_,_,_,_,_,_,_,_,_] ⟨Tryz.call148,Z2h.ok b173.f0 t186 e187,c188,Tryz.call149,Z3p.ok b173.f1 t189 e190,c191,c192,p194,Zi Z2i q195,trivial⟩ ?_
        obtain rfl:=sj H
        exact lf [] [] [] (by kernel_rfl) ⟨rfl,rfl⟩
       ·replace H:=iF c192 H
        refine rG hP hn hm [(2,.call [] [] [] [] 0 (bV t186) []),(4,.b false),(7,.call [] [] [] [] 0 (bV t189) []),(10,.b false),(13,.b false)] [(20,.ptr 1 0 1),(21,sV b173.f1),(22,bV t189),(23,bV (!t189)),(26,iV .i64 x168),(27,bV (decide (x168>(0:Int)))),(28,bV false),(38,bV false),(39,bV false)] [0,8,9,10,20,21,22,23,26,27,28,38,39] [] [1] [_,_,_,_,_,_,_] ⟨Tryz.call148,Z2h.ok b173.f0 t186 e187,c188,Tryz.call149,Z3p.ok b173.f1 t189 e190,c191,c192,trivial⟩ ?_
        obtain rfl:=sj H
        exact lf [] [] [] (by kernel_rfl) ⟨rfl,rfl⟩
    ·obtain⟨x196,rfl⟩:∃ z,z=o200:=⟨_,rfl⟩
     rintro e s ⟨rfl,rfl⟩
     refine AWp.cond x196 (by kernel_rfl) (fun c197 => ?_) (fun c197 => ?_)
     ·replace H:=iT c197 H
      refine sO hP hn hm [] [(2,iV .i64 26)] [2] [] [] ?_
      refine AWp.conv (inv:=[]) (vk:=[]) (e0:=[]) (t:=⟨[(2,iV .i64 26)],[],0⟩) (by kernel_rfl) ?_
      refine AWp.ret ?_
      obtain rfl:=sj H
      exact rl rfl rfl (by kernel_rfl) (by kernel_rfl)
     ·replace H:=iF c197 H
      refine AWp.skip ?_
      refine rO hP hn hm [] [(10,iV .i64 (i64.wrap (x168+(1:Int))))] [0,8,9,10] [] [] ?_
      exact LWp.conv [] [] [] (by kernel_rfl) (ih _ _ H)
   ·replace H:=iF c169 H
    refine AWp.exit ?_
    obtain rfl:=sj H
    exact lf [] [] [] (by kernel_rfl) ⟨rfl,rfl⟩
  ·rcases o198 with rr | _
   ·skip
    rintro e s ⟨rfl,hfl,hres⟩
    obtain rfl:=sj H
    exact Exists.intro _ (And.intro (fun _ _ h=>h) (And.intro (.inl rfl) (And.intro hfl hres)))
   ·skip
    rintro e s ⟨rfl,rfl⟩
    refine sO hP hn hm [] [(2,iV .i64 0)] [2] [] [] ?_
    refine AWp.conv (inv:=[]) (vk:=[]) (e0:=[]) (t:=⟨[(2,iV .i64 0)],[],0⟩) (by kernel_rfl) ?_
    refine AWp.ret ?_
    obtain rfl:=sj H
    exact rl (.inl rfl) rfl (by kernel_rfl) (by kernel_rfl)
def Z2a.l0 (x37:ByteArray) (x38:List ByteArray):Option (((List Z40)×Int) ⊕ (List ByteArray)):=if(decide ((x37.size:Int)>(0:Int)))=true then((chk (0≤(0:Int)∧(0:Int)<(x37.size:Int)))>>=fun _=>if(decide ((i64.wrap (bt x37 0))>(i64.wrap ((x37.size:Int)-(1:Int)))))=true then(some (.inl ([],6))) else((chk (0≤(1:Int)∧(1:Int)≤(i64.wrap ((1:Int)+(i64.wrap (bt x37 0))))∧(i64.wrap ((1:Int)+(i64.wrap (bt x37 0))))≤(x37.size:Int)))>>=fun _=>(chk ((x38.length+[x37.extract (Int.toNat ((1:Int))) (Int.toNat ((i64.wrap ((1:Int)+(i64.wrap (bt x37 0))))))].length)*16≤140737488355328))>>=fun _=>(chk (0≤(i64.wrap ((1:Int)+(i64.wrap (bt x37 0))))∧(i64.wrap ((1:Int)+(i64.wrap (bt x37 0))))≤(x37.size:Int)∧(x37.size:Int)≤(x37.size:Int)))>>=fun _=>Z2a.l0  (x37.extract (Int.toNat ((i64.wrap ((1:Int)+(i64.wrap (bt x37 0)))))) (Int.toNat ((x37.size:Int)))) (x38++[x37.extract (Int.toNat ((1:Int))) (Int.toNat ((i64.wrap ((1:Int)+(i64.wrap (bt x37 0))))))]))) else(some (.inr x38))
partial_fixpoint
def Z2a.l1 (x49:List ByteArray) (x66:List Z40) (x67:Int):Option (List Z40):=if(decide (x67<(x49.length:Int)))=true then((at? x49 x67)>>=fun b76=>(at? x49 (i64.wrap (x67+(1:Int))))>>=fun b79=>(chk ((x66.length+[(⟨b76,b79⟩:Z40)].length)*32≤140737488355328))>>=fun _=>Z2a.l1 x49 (x66++[(⟨b76,b79⟩:Z40)]) (i64.wrap (x67+(2:Int)))) else(some x66)
partial_fixpoint
def Z2a.f (a0:ByteArray):Option ((List Z40)×Int):=(Z2a.l0  a0 [])>>=fun oo=>match oo with | .inl rr=>(some rr) | .inr x49=>(if((Int.tmod (x49.length:Int) (2:Int))==(1:Int))=true then(some ([],6)) else((Z2a.l1 x49 [] 0)>>=fun x83=>(Z2t.f x83)>>=fun t204=>if(t204 != (0:Int))=true then(some ([],6)) else(some (x83,0))))
theorem Z2a.ok (a0:ByteArray) (r:(List Z40)×Int) (H:Z2a.f a0=some r):Pv.Fn Tryz.prog 82 [sV a0] [] 0 (fun x o=>x = .tup [.own 0,iV .i64 r.2]∧o=[(0,some (.row 2 130 (r.1.map Z2i)))]):=by
 unfold Z2a.f at H
 refine Fn.bodyK [0] Tryz.func82 rfl rfl (fun Γ hP hn => ?_)
 have hm:Tryz.prog.follows .mixedOrders=true:=by kernel_rfl
 replace hn:Γ.n=57:=hn
 refine sO hP hn hm [] [] [0] [] [] ?_
 refine sO hP hn hm [] [(4,.none0)] [0,4] [] [] ?_
 refine AWp.seq ?_
 refine AWp.block ?_
 obtain⟨o207,e208,H⟩:=Z4 H
 refine AWp.loop (LWp.conv (inv:=[]) (vk:=[]) (e0:=[2]) (t:=⟨[(0,sV a0),(4,.own 2)],[(2,some (.row 1 9 ([].map Z3s)))],0⟩) (by kernel_rfl) ?_)
 refine LWp.mono (Q:=fun e s=>(match (generalizing:=false) o207 with | .inl rr=>e = .ret∧s.floor=0∧Z1y Tryz.prog Tryz.f82 s=some (.tup [.own 0,iV .i64 rr.2])∧([(0,s.obj 0)]:List (Nat×Option MObj))=[(0,some (.row 2 130 (rr.1.map Z2i)))] | .inr x49=>e = .exit 0∧s=⟨[(4,.own 5)],[(5,some (.row 1 9 (x49.map Z3s)))],0⟩)) (LWp.cv (Zs (fun body hbody => ?_))) ?_
 ·refine          Z2a.l0.partial_correctness  (motive:=fun x37 x38 o207=>LWp Γ body (fun e s=>∃ t,Cv Γ s t∧(match (generalizing:=false) o207 with | .inl rr=>e = .ret∧t.floor=0∧Z1y   Tryz.prog Tryz.f82 t=some (.tup [.own 0,iV .i64 rr.2])∧([(0,t.obj 0)]:List (Nat×Option MObj))=[(0,some (.row 2 130 (rr.1.map Z2i   )))] | .inr x49=>e = .exit 0∧t=⟨[(4,.own 5)],[(5,some (.row 1 9 (x49.map Z3s   )))],0⟩)) ⟨[(0,sV x37),(4,.own 2)],[(2,some (.row 1 9 (x38.map Z3s   )))],0⟩) ?_ _ _ _ e208
  clear H e208 o207;intro self ih x37 x38 o207 H
  subst hbody
  refine LWp.round ?_
  refine AWp.seq ?_
  refine sO hP hn hm [] [(10,bV (decide ((x37.size:Int)>(0:Int))))] [0,4,10] [] [2] ?_
  refine AWp.cond (decide ((x37.size:Int)>(0:Int))) (by kernel_rfl) (fun c39 => ?_) (fun c39 => ?_)
  ·replace H:=iT c39 H
   refine AWp.skip ?_
   refine AWp.block ?_
   obtain⟨c41,H⟩:=Z10 H
   refine sR hP hn hm [] [(5,iV .i64 (i64.wrap (bt x37 0)))] [0,4,5] [] [2] [0≤(0:Int),(0:Int)<(x37.size:Int)] ⟨by exact c41.1,by exact c41.2,trivial⟩ ?_
   refine AWp.seq ?_
   refine sO hP hn hm [] [(18,bV (decide ((i64.wrap (bt x37 0))>(i64.wrap ((x37.size:Int)-(1:Int))))))] [0,4,5,18] [] [2] ?_
   refine AWp.cond (decide ((i64.wrap (bt x37 0))>(i64.wrap ((x37.size:Int)-(1:Int))))) (by kernel_rfl) (fun c42 => ?_) (fun c42 => ?_)
   ·replace H:=iT c42 H
    refine sO hP hn hm [] [(2,.none0),(3,iV .i64 6)] [2,3] [] [] ?_
    refine AWp.conv (inv:=[]) (vk:=[]) (e0:=[0]) (t:=⟨[(2,.own 0),(3,iV .i64 6)],[(0,some (.row 2 130 ([].map Z2i)))],0⟩) (by kernel_rfl) ?_
    refine AWp.ret ?_
    obtain rfl:=sj H
    exact rl rfl rfl (by kernel_rfl) (by kernel_rfl)
   ·replace H:=iF c42 H
    refine AWp.skip ?_
    obtain⟨c45,H⟩:=Z10 H
    obtain⟨c46,H⟩:=Z10 H
    refine sR hP hn hm [(5,.app 3 ([x37.extract (Int.toNat ((1:Int))) (Int.toNat ((i64.wrap ((1:Int)+(i64.wrap (bt x37 0))))))].map Z3s)),(6,.app 4 ((x38++[x37.extract (Int.toNat ((1:Int))) (Int.toNat ((i64.wrap ((1:Int)+(i64.wrap (bt x37 0))))))]).map Z3s))] [(4,.own 4)] [0,4,5] [(4,some (.row 1 9 ((x38++[x37.extract (Int.toNat ((1:Int))) (Int.toNat ((i64.wrap ((1:Int)+(i64.wrap (bt x37 0))))))]).map Z3s)))] [4] [0≤(1:Int),(1:Int)≤(i64.wrap ((1:Int)+(i64.wrap (bt x37 0)))),(i64.wrap ((1:Int)+(i64.wrap (bt x37 0))))≤(x37.size:Int),[x37.extract (Int.toNat ((1:Int))) (Int.toNat ((i64.wrap ((1:Int)+(i64.wrap (bt x37 0))))))].map Z3s=[[sI (x37.extract (Int.toNat ((1:Int))) (Int.toNat ((i64.wrap ((1:Int)+(i64.wrap (bt x37 0)))))))]],(x38++[x37.extract (Int.toNat ((1:Int))) (Int.toNat ((i64.wrap ((1:Int)+(i64.wrap (bt x37 0))))))]).map Z3s=(x38.map Z3s)++([x37.extract (Int.toNat ((1:Int))) (Int.toNat ((i64.wrap ((1:Int)+(i64.wrap (bt x37 0))))))].map Z3s),∀ c∈([x37.extract (Int.toNat ((1:Int))) (Int.toNat ((i64.wrap ((1:Int)+(i64.wrap (bt x37 0))))))].map Z3s),c.length=1,∀ c∈([x37.extract (Int.toNat ((1:Int))) (Int.toNat ((i64.wrap ((1:Int)+(i64.wrap (bt x37 0))))))].map Z3s),Z16 (c.map .im)=true,((x38.map Z3s).length+([x37.extract (Int.toNat ((1:Int))) (Int.toNat ((i64.wrap ((1:Int)+(i64.wrap (bt x37 0))))))].map Z3s).length)*16≤140737488355328] ⟨by exact c45.1,by exact c45.2.1,by exact c45.2.2,by exact rfl,by simp,by exact Z12 _ _ _ (fun _=>rfl),by exact Z14 _ _ (fun _=>rfl),by simpa using c46,trivial⟩ ?_
    obtain⟨c48,H⟩:=Z10 H
    refine rG hP hn hm [] [(0,sV (x37.extract (Int.toNat ((i64.wrap ((1:Int)+(i64.wrap (bt x37 0)))))) (Int.toNat ((x37.size:Int)))))] [0,4] [] [4] [0≤(i64.wrap ((1:Int)+(i64.wrap (bt x37 0)))),(i64.wrap ((1:Int)+(i64.wrap (bt x37 0))))≤(x37.size:Int),(x37.size:Int)≤(x37.size:Int)] ⟨by exact c48.1,by exact c48.2.1,by exact c48.2.2,trivial⟩ ?_
    exact LWp.conv [(4,2)] [] [] (by kernel_rfl) (ih _ _ _ H)
  ·replace H:=iF c39 H
   refine AWp.exit ?_
   obtain rfl:=sj H
   exact lf [(2,5)] [] [] (by kernel_rfl) ⟨rfl,rfl⟩
 ·rcases o207 with rr | x49
  ·skip
   rintro e s ⟨rfl,hfl,hres⟩
   obtain rfl:=sj H
   exact Exists.intro _ (And.intro (fun _ _ h=>h) (And.intro (.inl rfl) (And.intro hfl hres)))
  ·skip
   rintro e s ⟨rfl,rfl⟩
   refine AWp.seq ?_
   refine sR hP hn hm [(1,.any (iV .i64 (x49.length:Int)))] [(33,bV ((Int.tmod (x49.length:Int) (2:Int))==(1:Int)))] [4,33] [] [5] [((x49.map Z3s).length:Int)=(x49.length:Int),(2:Int)≠0] ⟨by rw[Zr],by decide,trivial⟩ ?_
   refine AWp.cond ((Int.tmod (x49.length:Int) (2:Int))==(1:Int)) (by kernel_rfl) (fun c50 => ?_) (fun c50 => ?_)
   ·replace H:=iT c50 H
    refine sO hP hn hm [] [(2,.none0),(3,iV .i64 6)] [2,3] [] [] ?_
    refine AWp.conv (inv:=[]) (vk:=[]) (e0:=[0]) (t:=⟨[(2,.own 0),(3,iV .i64 6)],[(0,some (.row 2 130 ([].map Z2i)))],0⟩) (by kernel_rfl) ?_
    refine AWp.ret ?_
    obtain rfl:=sj H
    exact rl (.inl rfl) rfl (by kernel_rfl) (by kernel_rfl)
   ·replace H:=iF c50 H
    refine AWp.skip ?_
    refine sO hP hn hm [] [(6,.none0)] [4,6] [] [5] ?_
    refine AWp.seq ?_
    refine sO hP hn hm [] [(7,iV .i64 0)] [4,6,7] [] [5] ?_
    refine AWp.block ?_
    obtain⟨o209,e210,H⟩:=Z4 H
    refine AWp.loop (LWp.conv (inv:=[(5,8)]) (vk:=[]) (e0:=[9]) (t:=⟨[(4,.own 8),(6,.own 9),(7,iV .i64 0)],[(8,some (.row 1 9 (x49.map Z3s))),(9,some (.row 2 130 ([].map Z2i)))],0⟩) (by kernel_rfl) ?_)
    refine LWp.mono (Q:=fun e s=>(match (generalizing:=false) o209 with | x83=>e = .exit 2∧s=⟨[(6,.own 12)],[(12,some (.row 2 130 (x83.map Z2i)))],0⟩)) (LWp.cv (Zs (fun body hbody => ?_))) ?_
    ·refine          Z2a.l1.partial_correctness x49 (motive:=fun x66 x67 o209=>LWp Γ body (fun e s=>∃ t,Cv Γ s t∧(match (generalizing:=false) o209 with | x83=>e = .exit 2∧t=⟨[(6,.own 12)],[(12,some (.row 2 130 (x83.map Z2i   )))],0⟩)) ⟨[(4,.own 8),(6,.own 9),(7,iV .i64 x67)],[(8,some (.row 1 9 (x49.map Z3s   ))),(9,some (.row 2 130 (x66.map Z2i   )))],0⟩) ?_ _ _ _ e210
     clear H e210 o209;intro self ih x66 x67 o209 H
     subst hbody
     refine LWp.round ?_
     refine AWp.seq ?_
     refine sR hP hn hm [(2,.any (iV .i64 (x49.length:Int)))] [(37,bV (decide (x67<(x49.length:Int))))] [4,6,7,37] [] [8,9] [((x49.map Z3s).length:Int)=(x49.length:Int)] ⟨by rw[Zr],trivial⟩ ?_
     refine AWp.cond (decide (x67<(x49.length:Int))) (by kernel_rfl) (fun c68 => ?_) (fun c68 => ?_)
     ·replace H:=iT c68 H
      refine AWp.skip ?_
      refine AWp.seq ?_
      refine AWp.block ?_
      obtain⟨b76,p77,q78,H⟩:=Z02 H
      obtain⟨b79,p80,q81,H⟩:=Z02 H
      obtain⟨c82,H⟩:=Z10 H
      refine rG hP hn hm [(4,.c (Z3s b76)),(9,.c (Z3s b79)),(11,.app 10 ([(⟨b76,b79⟩:Z40)].map Z2i)),(12,.app 11 ((x66++[(⟨b76,b79⟩:Z40)]).map Z2i))] [(6,.own 11)] [4,6,7] [(11,some (.row 2 130 ((x66++[(⟨b76,b79⟩:Z40)]).map Z2i)))] [8,11] [_,_,_,_,_,_,[(⟨b76,b79⟩:Z40)].map Z2i=[[sI b76,sI b79]],(x66++[(⟨b76,b79⟩:Z40)]).map Z2i=(x66.map Z2i)++([(⟨b76,b79⟩:Z40)].map Z2i),∀ c∈([(⟨b76,b79⟩:Z40)].map Z2i),c.length=2,∀ c∈([(⟨b76,b79⟩:Z40)].map Z2i),Z16 (c.map .im)=true,((x66.map Z2i).length+([(⟨b76,b79⟩:Z40)].map Z2i).length)*32≤140737488355328] ⟨p77,Z09 Z3s p77 q78,Zi Z3s q78,p80,Z09 Z3s p80 q81,Zi Z3s q81,by exact rfl,by simp,by exact Z12 _ _ _ (fun _=>rfl),by exact Z14 _ _ (fun _=>rfl),by simpa using c82,trivial⟩ ?_
      refine rO hP hn hm [] [(7,iV .i64 (i64.wrap (x67+(2:Int))))] [4,6,7] [] [8,11] ?_
      exact LWp.conv [(8,8),(11,9)] [] [] (by kernel_rfl) (ih _ _ _ H)
     ·replace H:=iF c68 H
      refine AWp.exit ?_
      obtain rfl:=sj H
      exact lf [(9,12)] [] [] (by kernel_rfl) ⟨rfl,rfl⟩
    ·obtain⟨x83,rfl⟩:∃ z,z=o209:=⟨_,rfl⟩
     rintro e s ⟨rfl,rfl⟩
     refine AWp.seq ?_
     obtain⟨t204,e205,H⟩:=Z4 H
     refine sR hP hn hm [(1,.call [] [] [12] [] 0 (iV .i64 t204) [])] [(55,bV (t204 != (0:Int)))] [6,55] [] [12] [_,_] ⟨Tryz.call114,Z2t.ok x83 t204 e205,trivial⟩ ?_
     refine AWp.cond (t204 != (0:Int)) (by kernel_rfl) (fun c206 => ?_) (fun c206 => ?_)
     ·replace H:=iT c206 H
      refine sO hP hn hm [] [(2,.none0),(3,iV .i64 6)] [2,3] [] [] ?_
      refine AWp.conv (inv:=[]) (vk:=[]) (e0:=[0]) (t:=⟨[(2,.own 0),(3,iV .i64 6)],[(0,some (.row 2 130 ([].map Z2i)))],0⟩) (by kernel_rfl) ?_
      refine AWp.ret ?_
      obtain rfl:=sj H
      exact rl (.inl rfl) rfl (by kernel_rfl) (by kernel_rfl)
     ·replace H:=iF c206 H
      refine AWp.skip ?_
      refine sO hP hn hm [] [(2,.own 12),(3,iV .i64 0)] [2,3] [] [12] ?_
      refine AWp.conv (inv:=[(12,0)]) (vk:=[]) (e0:=[]) (t:=⟨[(2,.own 0),(3,iV .i64 0)],[(0,some (.row 2 130 (x83.map Z2i)))],0⟩) (by kernel_rfl) ?_
      refine AWp.ret ?_
      obtain rfl:=sj H
      exact rl (.inl rfl) rfl (by kernel_rfl) (by kernel_rfl)
def Z34.f (a0:ByteArray):Option (Bool):=(Z2a.f a0)>>=fun t213=>some (t213.2==(0:Int))
theorem Z34.ok (a0:ByteArray) (r:Bool) (H:Z34.f a0=some r):Pv.Fn Tryz.prog 39 [sV a0] [] 0 (fun x o=>x=bV r∧o=[]):=by
 unfold Z34.f at H
 refine Fn.bodyK [] Tryz.func39 rfl rfl (fun Γ hP hn => ?_)
 have hm:Tryz.prog.follows .mixedOrders=true:=by kernel_rfl
 replace hn:Γ.n=12:=hn
 refine sO hP hn hm [] [] [0] [] [] ?_
 obtain⟨t213,e214,H⟩:=Z4 H
 refine sR hP hn hm [(1,.call [] [(0,0)] [] [0] 0 (.tup [.own 0,iV .i64 t213.2]) [(0,some (.row 2 130 (t213.1.map Z2i)))])] [(4,iV .i64 t213.2)] [4] [] [] [_,_] ⟨Tryz.call82,Z2a.ok a0 t213 e214,trivial⟩ ?_
 refine sO hP hn hm [] [(2,bV (t213.2==(0:Int)))] [2] [] [] ?_
 refine AWp.conv (inv:=[]) (vk:=[]) (e0:=[]) (t:=⟨[(2,bV (t213.2==(0:Int)))],[],0⟩) (by kernel_rfl) ?_
 refine AWp.ret ?_
 obtain rfl:=sj H
 exact rl (.inl rfl) rfl (by kernel_rfl) (by kernel_rfl)
def Z0d.f (a0:Int):Option (Bool):=((if(decide (a0≥(-4)))=true then(some (decide (a0≤(8:Int)))) else(some false)):Option (Bool))>>=fun x233=>some x233
theorem Z0d.ok (a0:Int) (r:Bool) (H:Z0d.f a0=some r):Pv.Fn Tryz.prog 93 [iV .i64 a0] [] 0 (fun x o=>x=bV r∧o=[]):=by
 unfold Z0d.f at H
 refine Fn.bodyK [] Tryz.func93 rfl rfl (fun Γ hP hn => ?_)
 have hm:Tryz.prog.follows .mixedOrders=true:=by kernel_rfl
 replace hn:Γ.n=9:=hn
 refine sO hP hn hm [] [] [0] [] [] ?_
 refine AWp.seq ?_
 obtain⟨o234,e235,H⟩:=Z4 H
 refine AWp.mono (Q:=fun e s=>(match (generalizing:=false) o234 with | x233=>e = .normal∧s=⟨[(2,bV x233)],[],0⟩)) (AWp.cv ?_) ?_
 ·replace H:=e235;clear e235
  rcases Bool.eq_false_or_eq_true (decide (a0≥(-4))) with c232 | c232
  ·replace H:=iT c232 H
   refine rG hP hn hm [(2,.b true)] [(2,bV (decide (a0≤(8:Int))))] [2] [] [] [_] ⟨c232,trivial⟩ ?_
   obtain rfl:=sj H
   exact lf [] [] [] (by kernel_rfl) ⟨rfl,rfl⟩
  ·replace H:=iF c232 H
   refine rG hP hn hm [(2,.b false)] [(2,bV false)] [2] [] [] [_] ⟨c232,trivial⟩ ?_
   obtain rfl:=sj H
   exact lf [] [] [] (by kernel_rfl) ⟨rfl,rfl⟩
 ·obtain⟨x233,rfl⟩:∃ z,z=o234:=⟨_,rfl⟩
  rintro e s ⟨rfl,rfl⟩
  refine AWp.conv (inv:=[]) (vk:=[]) (e0:=[]) (t:=⟨[(2,bV x233)],[],0⟩) (by kernel_rfl) ?_
  refine AWp.ret ?_
  obtain rfl:=sj H
  exact rl (.inl rfl) rfl (by kernel_rfl) (by kernel_rfl)
def Z2v.f (a0:Int):Option (Unit):=some ()
theorem Z2v.ok (a0:Int) (r:Unit) (H:Z2v.f a0=some r):Pv.Fn Tryz.prog 175 [iV .i64 a0] [] 0 (fun x o=>x=iV .u64 (u64.wrap (i64.wrap ((8:Int)-a0)))∧o=[]):=by
 unfold Z2v.f at H
 refine Fn.bodyK [] Tryz.func175 rfl rfl (fun Γ hP hn => ?_)
 have hm:Tryz.prog.follows .mixedOrders=true:=by kernel_rfl
 replace hn:Γ.n=6:=hn
 refine sO hP hn hm [] [] [0] [] [] ?_
 refine sO hP hn hm [] [(2,iV .u64 (u64.wrap (i64.wrap ((8:Int)-a0))))] [2] [] [] ?_
 refine AWp.conv (inv:=[]) (vk:=[]) (e0:=[]) (t:=⟨[(2,iV .u64 (u64.wrap (i64.wrap ((8:Int)-a0))))],[],0⟩) (by kernel_rfl) ?_
 refine AWp.ret ?_
 obtain rfl:=sj H
 exact rl (.inl rfl) rfl (by kernel_rfl) (by kernel_rfl)
def Z3e.f (a0:Int):Option (Int):=(Z0d.f a0)>>=fun t260=>if(!t260)=true then(some 0) else((Z2v.f a0)>>=fun t266=>(chk (0≤(u64.wrap (i64.wrap ((8:Int)-a0)))))>>=fun _=>some (Int.fdiv (262144:Int) (2 ^ (min (Int.toNat (u64.wrap (i64.wrap ((8:Int)-a0)))) 64))))
theorem Z3e.ok (a0:Int) (r:Int) (H:Z3e.f a0=some r):Pv.Fn Tryz.prog 162 [iV .i64 a0] [] 0 (fun x o=>x=iV .i64 r∧o=[]):=by
 unfold Z3e.f at H
 refine Fn.bodyK [] Tryz.func162 rfl rfl (fun Γ hP hn => ?_)
 have hm:Tryz.prog.follows .mixedOrders=true:=by kernel_rfl
 replace hn:Γ.n=9:=hn
 refine sO hP hn hm [] [] [0] [] [] ?_
 refine AWp.seq ?_
 obtain⟨t260,e261,H⟩:=Z4 H
 refine sR hP hn hm [(1,.call [] [] [] [] 0 (bV t260) [])] [(5,bV (!t260))] [0,5] [] [] [_,_] ⟨Tryz.call93,Z0d.ok a0 t260 e261,trivial⟩ ?_
 refine AWp.cond (!t260) (by kernel_rfl) (fun c262 => ?_) (fun c262 => ?_)
 ·replace H:=iT c262 H
  refine sO hP hn hm [] [(2,iV .i64 0)] [2] [] [] ?_
  refine AWp.conv (inv:=[]) (vk:=[]) (e0:=[]) (t:=⟨[(2,iV .i64 0)],[],0⟩) (by kernel_rfl) ?_
  refine AWp.ret ?_
  obtain rfl:=sj H
  exact rl (.inl rfl) rfl (by kernel_rfl) (by kernel_rfl)
 ·replace H:=iF c262 H
  refine AWp.skip ?_
  obtain⟨t266,e267,H⟩:=Z4 H
  obtain⟨c268,H⟩:=Z10 H
  refine sR hP hn hm [(1,.call [] [] [] [] 0 (iV .u64 (u64.wrap (i64.wrap ((8:Int)-a0)))) [])] [(2,iV .i64 (Int.fdiv (262144:Int) (2 ^ (min (Int.toNat (u64.wrap (i64.wrap ((8:Int)-a0)))) 64))))] [2] [] [] [_,_,_] ⟨Tryz.call175,Z2v.ok a0 t266 e267,c268,trivial⟩ ?_
  refine AWp.conv (inv:=[]) (vk:=[]) (e0:=[]) (t:=⟨[(2,iV .i64 (Int.fdiv (262144:Int) (2 ^ (min (Int.toNat (u64.wrap (i64.wrap ((8:Int)-a0)))) 64))))],[],0⟩) (by kernel_rfl) ?_
  refine AWp.ret ?_
  obtain rfl:=sj H
  exact rl (.inl rfl) rfl (by kernel_rfl) (by kernel_rfl)
def Z3r.f (a0:Int):Option (Int):=(Z3e.f a0)>>=fun t271=>some (i64.wrap ((i64.wrap (0-t271))+(1:Int)))
theorem Z3r.ok (a0:Int) (r:Int) (H:Z3r.f a0=some r):Pv.Fn Tryz.prog 161 [iV .i64 a0] [] 0 (fun x o=>x=iV .i64 r∧o=[]):=by
 unfold Z3r.f at H
 refine Fn.bodyK [] Tryz.func161 rfl rfl (fun Γ hP hn => ?_)
 have hm:Tryz.prog.follows .mixedOrders=true:=by kernel_rfl
 replace hn:Γ.n=7:=hn
 refine sO hP hn hm [] [] [0] [] [] ?_
 obtain⟨t271,e272,H⟩:=Z4 H
 refine sR hP hn hm [(1,.call [] [] [] [] 0 (iV .i64 t271) [])] [(2,iV .i64 (i64.wrap ((i64.wrap (0-t271))+(1:Int))))] [2] [] [] [_,_] ⟨Tryz.call162,Z3e.ok a0 t271 e272,trivial⟩ ?_
 refine AWp.conv (inv:=[]) (vk:=[]) (e0:=[]) (t:=⟨[(2,iV .i64 (i64.wrap ((i64.wrap (0-t271))+(1:Int))))],[],0⟩) (by kernel_rfl) ?_
 refine AWp.ret ?_
 obtain rfl:=sj H
 exact rl (.inl rfl) rfl (by kernel_rfl) (by kernel_rfl)
def Z3z.f (a0:Int) (a1:Int):Option (Bool):=(((Z0d.f a0)>>=fun t278=>if t278=true then((Z3r.f a0)>>=fun t281=>if(decide (a1≥t281))=true then((Z3e.f a0)>>=fun t284=>some (decide (a1≤t284))) else(some false)) else(some false)):Option (Bool))>>=fun x286=>some x286
theorem Z3z.ok (a0:Int) (a1:Int) (r:Bool) (H:Z3z.f a0 a1=some r):Pv.Fn Tryz.prog 124 [iV .i64 a0,iV .i64 a1] [] 0 (fun x o=>x=bV r∧o=[]):=by
 unfold Z3z.f at H
 refine Fn.bodyK [] Tryz.func124 rfl rfl (fun Γ hP hn => ?_)
 have hm:Tryz.prog.follows .mixedOrders=true:=by kernel_rfl
 replace hn:Γ.n=19:=hn
 refine sO hP hn hm [] [] [0,1] [] [] ?_
 refine AWp.seq ?_
 obtain⟨o287,e288,H⟩:=Z4 H
 refine AWp.mono (Q:=fun e s=>(match (generalizing:=false) o287 with | x286=>e = .normal∧s=⟨[(4,bV x286)],[],0⟩)) (AWp.cv ?_) ?_
 ·replace H:=e288;clear e288
  obtain⟨t278,e279,H⟩:=Z4 H
  rcases Bool.eq_false_or_eq_true t278 with c280 | c280
  ·replace H:=iT c280 H
   obtain⟨t281,e282,H⟩:=Z4 H
   rcases Bool.eq_false_or_eq_true (decide (a1≥t281)) with c283 | c283
   ·replace H:=iT c283 H
    obtain⟨t284,e285,H⟩:=Z4 H
    refine rG hP hn hm [(1,.call [] [] [] [] 0 (bV t278) []),(2,.b true),(5,.call [] [] [] [] 0 (iV .i64 t281) []),(8,.b true),(11,.call [] [] [] [] 0 (iV .i64 t284) [])] [(4,bV (decide (a1≤t284)))] [4] [] [] [_,_,_,_,_,_,_,_] ⟨Tryz.call93,Z0d.ok a0 t278 e279,c280,Tryz.call161,Z3r.ok a0 t281 e282,c283,Tryz.call162,Z3e.ok a0 t284 e285,trivial⟩ ?_
    obtain rfl:=sj H
    exact lf [] [] [] (by kernel_rfl) ⟨rfl,rfl⟩
   ·replace H:=iF c283 H
    refine rG hP hn hm [(1,.call [] [] [] [] 0 (bV t278) []),(2,.b true),(5,.call [] [] [] [] 0 (iV .i64 t281) []),(8,.b false)] [(4,bV false)] [4] [] [] [_,_,_,_,_,_] ⟨Tryz.call93,Z0d.ok a0 t278 e279,c280,Tryz.call161,Z3r.ok a0 t281 e282,c283,trivial⟩ ?_
    obtain rfl:=sj H
    exact lf [] [] [] (by kernel_rfl) ⟨rfl,rfl⟩
  ·replace H:=iF c280 H
   refine rG hP hn hm [(1,.call [] [] [] [] 0 (bV t278) []),(2,.b false)] [(4,bV false)] [4] [] [] [_,_,_] ⟨Tryz.call93,Z0d.ok a0 t278 e279,c280,trivial⟩ ?_
   obtain rfl:=sj H
   exact lf [] [] [] (by kernel_rfl) ⟨rfl,rfl⟩
 ·obtain⟨x286,rfl⟩:∃ z,z=o287:=⟨_,rfl⟩
  rintro e s ⟨rfl,rfl⟩
  refine AWp.conv (inv:=[]) (vk:=[]) (e0:=[]) (t:=⟨[(4,bV x286)],[],0⟩) (by kernel_rfl) ?_
  refine AWp.ret ?_
  obtain rfl:=sj H
  exact rl (.inl rfl) rfl (by kernel_rfl) (by kernel_rfl)
def Z1v.f (a0:Int) (a1:Int):Option (Int):=(Z0d.f a0)>>=fun t297=>if(!t297)=true then(some 0) else((Z2v.f a0)>>=fun t303=>(chk (0≤(u64.wrap (i64.wrap ((8:Int)-a0)))))>>=fun _=>some (i64.wrap (a1*2 ^ (min (Int.toNat (u64.wrap (i64.wrap ((8:Int)-a0)))) 64))))
theorem Z1v.ok (a0:Int) (a1:Int) (r:Int) (H:Z1v.f a0 a1=some r):Pv.Fn Tryz.prog 163 [iV .i64 a0,iV .i64 a1] [] 0 (fun x o=>x=iV .i64 r∧o=[]):=by
 unfold Z1v.f at H
 refine Fn.bodyK [] Tryz.func163 rfl rfl (fun Γ hP hn => ?_)
 have hm:Tryz.prog.follows .mixedOrders=true:=by kernel_rfl
 replace hn:Γ.n=12:=hn
 refine sO hP hn hm [] [] [0,1] [] [] ?_
 refine AWp.seq ?_
 obtain⟨t297,e298,H⟩:=Z4 H
 refine sR hP hn hm [(1,.call [] [] [] [] 0 (bV t297) [])] [(7,bV (!t297))] [0,1,7] [] [] [_,_] ⟨Tryz.call93,Z0d.ok a0 t297 e298,trivial⟩ ?_
 refine AWp.cond (!t297) (by kernel_rfl) (fun c299 => ?_) (fun c299 => ?_)
 ·replace H:=iT c299 H
  refine sO hP hn hm [] [(4,iV .i64 0)] [4] [] [] ?_
  refine AWp.conv (inv:=[]) (vk:=[]) (e0:=[]) (t:=⟨[(4,iV .i64 0)],[],0⟩) (by kernel_rfl) ?_
  refine AWp.ret ?_
  obtain rfl:=sj H
  exact rl (.inl rfl) rfl (by kernel_rfl) (by kernel_rfl)
 ·replace H:=iF c299 H
  refine AWp.skip ?_
  obtain⟨t303,e304,H⟩:=Z4 H
  obtain⟨c305,H⟩:=Z10 H
  refine sR hP hn hm [(2,.call [] [] [] [] 0 (iV .u64 (u64.wrap (i64.wrap ((8:Int)-a0)))) [])] [(4,iV .i64 (i64.wrap (a1*2 ^ (min (Int.toNat (u64.wrap (i64.wrap ((8:Int)-a0)))) 64))))] [4] [] [] [_,_,_] ⟨Tryz.call175,Z2v.ok a0 t303 e304,c305,trivial⟩ ?_
  refine AWp.conv (inv:=[]) (vk:=[]) (e0:=[]) (t:=⟨[(4,iV .i64 (i64.wrap (a1*2 ^ (min (Int.toNat (u64.wrap (i64.wrap ((8:Int)-a0)))) 64))))],[],0⟩) (by kernel_rfl) ?_
  refine AWp.ret ?_
  obtain rfl:=sj H
  exact rl (.inl rfl) rfl (by kernel_rfl) (by kernel_rfl)
def Z3h.f (a0:Int) (a1:Int):Option (Int):=(Z1v.f a0 (i64.wrap (a1-(1:Int))))>>=fun t308=>some t308
theorem Z3h.ok (a0:Int) (a1:Int) (r:Int) (H:Z3h.f a0 a1=some r):Pv.Fn Tryz.prog 125 [iV .i64 a0,iV .i64 a1] [] 0 (fun x o=>x=iV .i64 r∧o=[]):=by
 unfold Z3h.f at H
 refine Fn.bodyK [] Tryz.func125 rfl rfl (fun Γ hP hn => ?_)
 have hm:Tryz.prog.follows .mixedOrders=true:=by kernel_rfl
 replace hn:Γ.n=9:=hn
 refine sO hP hn hm [] [] [0,1] [] [] ?_
 obtain⟨t308,e309,H⟩:=Z4 H
 refine sR hP hn hm [(3,.call [] [] [] [] 0 (iV .i64 t308) [])] [(4,iV .i64 t308)] [4] [] [] [_,_] ⟨Tryz.call163,Z1v.ok a0 (i64.wrap (a1-(1:Int))) t308 e309,trivial⟩ ?_
 refine AWp.conv (inv:=[]) (vk:=[]) (e0:=[]) (t:=⟨[(4,iV .i64 t308)],[],0⟩) (by kernel_rfl) ?_
 refine AWp.ret ?_
 obtain rfl:=sj H
 exact rl (.inl rfl) rfl (by kernel_rfl) (by kernel_rfl)
def Z01.l0 (a0:Z0f) (a1:List Z9) (x315:Int):Option (Int ⊕ Unit):=if(decide (x315<(a1.length:Int)))=true then((at? a1 x315)>>=fun b320=>(Z3z.f a0.f1 b320.f0)>>=fun t325=>if(!t325)=true then(some (.inl 4)) else(((if(decide (x315>(0:Int)))=true then((at? a1 (i64.wrap (x315-(1:Int))))>>=fun b333=>some (decide (b333.f0≥b320.f0))) else(some false)):Option (Bool))>>=fun x336=>if x336=true then(some (.inl 32)) else(if(b320.f1==(0:Int))=true then(some (.inl 21)) else((Z3h.f a0.f1 b320.f0)>>=fun t341=>if(decide (t341<a0.f2))=true then(some (.inl 31)) else(Z01.l0 a0 a1 (i64.wrap (x315+(1:Int)))))))) else(some (.inr ()))
partial_fixpoint
def Z01.f (a0:Z0f) (a1:List Z9):Option (Int):=if(decide ((a1.length:Int)>(512:Int)))=true then(some 9) else((Z01.l0 a0 a1 0)>>=fun oo=>match oo with | .inl rr=>(some rr) | .inr _=>(some 0))
theorem Z01.ok (a0:Z0f) (a1:List Z9) (r:Int) (H:Z01.f a0 a1=some r):Pv.Fn Tryz.prog 94 [.agg (Z08 a0),.im (.row (a1.map Z1))] [] 0 (fun x o=>x=iV .i64 r∧o=[]):=by
 unfold Z01.f at H
 refine Fn.bodyK [] Tryz.func94 rfl rfl (fun Γ hP hn => ?_)
 have hm:Tryz.prog.follows .mixedOrders=true:=by kernel_rfl
 replace hn:Γ.n=52:=hn
 refine sO hP hn hm [(0,.k 0)] [(2,.ptr 0 0 0)] [1,2] [(0,some (.box 48 (Z08 a0)))] [0] ?_
 refine AWp.seq ?_
 refine sR hP hn hm [(1,.any (iV .i64 (a1.length:Int)))] [(9,bV (decide ((a1.length:Int)>(512:Int))))] [1,2,9] [] [0] [((a1.map Z1).length:Int)=(a1.length:Int)] ⟨by rw[Zr],trivial⟩ ?_
 refine AWp.cond (decide ((a1.length:Int)>(512:Int))) (by kernel_rfl) (fun c247 => ?_) (fun c247 => ?_)
 ·replace H:=iT c247 H
  refine sO hP hn hm [] [(4,iV .i64 9)] [4] [] [] ?_
  refine AWp.conv (inv:=[]) (vk:=[]) (e0:=[]) (t:=⟨[(4,iV .i64 9)],[],0⟩) (by kernel_rfl) ?_
  refine AWp.ret ?_
  obtain rfl:=sj H
  exact rl (.inl rfl) rfl (by kernel_rfl) (by kernel_rfl)
 ·replace H:=iF c247 H
  refine AWp.skip ?_
  refine AWp.seq ?_
  refine sR hP hn hm [(1,.any (iV .i64 (a1.length:Int)))] [(10,.im (.row (a1.map Z1))),(11,iV .i64 (a1.length:Int)),(12,iV .i64 0)] [1,2,10,11,12] [] [0] [((a1.map Z1).length:Int)=(a1.length:Int)] ⟨by rw[Zr],trivial⟩ ?_
  refine AWp.block ?_
  obtain⟨o344,e345,H⟩:=Z4 H
  refine AWp.loop (LWp.conv (inv:=[(0,2)]) (vk:=[]) (e0:=[]) (t:=⟨[(1,.im (.row (a1.map Z1))),(2,.ptr 2 0 0),(10,.im (.row (a1.map Z1))),(11,iV .i64 (a1.length:Int)),(12,iV .i64 0)],[(2,some (.box 48 (Z08 a0)))],0⟩) (by kernel_rfl) ?_)
  refine LWp.mono (Q:=fun e s=>(match (generalizing:=false) o344 with | .inl rr=>e = .ret∧s.floor=0∧Z1y Tryz.prog Tryz.f94 s=some (iV .i64 rr)∧([]:List (Nat×Option MObj))=[] | .inr _=>e = .exit 0∧s=⟨[],[],0⟩)) (LWp.cv (Zs (fun body hbody => ?_))) ?_
  ·refine            Z01.l0.partial_correctness a0 a1 (motive:=fun x315 o344=>LWp Γ body (fun e s=>∃ t,Cv Γ s t∧(match (generalizing:=false) o344 with | .inl rr=>e = .ret∧t.floor=0∧Z1y   Tryz.prog Tryz.f94 t=some (iV .i64 rr)∧([]:List (Nat×Option MObj))=[] | .inr _=>e = .exit 0∧t=⟨[],[],0⟩)) ⟨[(1,.im (.row (a1.map Z1     ))),(2,.ptr 2 0 0),(10,.im (.row (a1.map Z1     ))),(11,iV .i64 (a1.length:Int)),(12,iV .i64 x315)],[(2,some (.box 48 (Z08   a0)))],0⟩) ?_ _ _ e345
   clear H e345 o344;intro self ih x315 o344 H
   subst hbody
   refine LWp.round ?_
   refine sO hP hn hm [] [(13,bV (decide (x315<(a1.length:Int))))] [1,2,10,11,12,13] [] [2] ?_
   refine AWp.seq ?_
   refine AWp.cond (decide (x315<(a1.length:Int))) (by kernel_rfl) (fun c316 => ?_) (fun c316 => ?_)
   ·replace H:=iT c316 H
    refine AWp.skip ?_
    refine AWp.seq ?_
    refine AWp.block ?_
    obtain⟨b320,p321,q322,H⟩:=Z02 H
    refine sR hP hn hm [(1,.c (Z1 b320)),(3,.k 3)] [(5,iV .i64 x315),(6,.ptr 3 0 0)] [1,2,5,6,10,11,12] [(3,some (.box 136 (Z2m b320)))] [2,3] [_,_] ⟨p321,Zi Z1 q322,trivial⟩ ?_
    refine AWp.block ?_
    obtain⟨t325,e326,H⟩:=Z4 H
    refine sR hP hn hm [(4,.call [] [] [] [] 0 (bV t325) [])] [(17,bV (!t325))] [1,2,5,6,10,11,12,17] [] [2,3] [_,_] ⟨Tryz.call124,Z3z.ok a0.f1 b320.f0 t325 e326,trivial⟩ ?_
    refine AWp.cond (!t325) (by kernel_rfl) (fun c327 => ?_) (fun c327 => ?_)
    ·replace H:=iT c327 H
     refine sO hP hn hm [] [(4,iV .i64 4)] [4] [] [] ?_
     refine AWp.conv (inv:=[]) (vk:=[]) (e0:=[]) (t:=⟨[(4,iV .i64 4)],[],0⟩) (by kernel_rfl) ?_
     refine AWp.ret ?_
     obtain rfl:=sj H
     exact rl rfl rfl (by kernel_rfl) (by kernel_rfl)
    ·replace H:=iF c327 H
     refine AWp.seq ?_
     obtain⟨o346,e347,H⟩:=Z4 H
     refine AWp.mono (Q:=fun e s=>(match (generalizing:=false) o346 with | x336=>e = .normal∧s=⟨[(1,.im (.row (a1.map Z1))),(2,.ptr 4 0 0),(6,.ptr 5 0 0),(10,.im (.row (a1.map Z1))),(11,iV .i64 (a1.length:Int)),(12,iV .i64 x315),(24,bV x336)],[(4,some (.box 48 (Z08 a0))),(5,some (.box 136 (Z2m b320)))],0⟩)) (AWp.cv ?_) ?_
     ·replace H:=e347;clear e347
      rcases Bool.eq_false_or_eq_true (decide (x315>(0:Int))) with c332 | c332
      ·replace H:=iT c332 H
       obtain⟨b333,p334,q335,H⟩:=Z02 H
       refine rG hP hn hm [(2,.b true),(6,.c (Z1 b333))] [(24,bV (decide (b333.f0≥b320.f0))),(28,.im (.row (a1.map Z1))),(29,iV .i64 x315),(30,iV .i64 (i64.wrap (x315-(1:Int)))),(31,.ip [iI .i64 b333.f0,iI .u64 b333.f1]),(32,.ip [iI .i64 b333.f0,iI .u64 b333.f1]),(33,iV .i64 b333.f0),(34,.ptr 3 0 0),(35,iV .i64 b320.f0),(36,bV (decide (b333.f0≥b320.f0)))] [1,2,6,10,11,12,24,28,29,30,31,32,33,34,35,36] [] [2,3] [_,_,_] ⟨c332,p334,Zi Z1 q335,trivial⟩ ?_
       obtain rfl:=sj H
       exact lf [(2,4),(3,5)] [] [] (by kernel_rfl) ⟨rfl,rfl⟩
      ·replace H:=iF c332 H
       refine rG hP hn hm [(2,.b false)] [(24,bV false)] [1,2,6,10,11,12,24] [] [2,3] [_] ⟨c332,trivial⟩ ?_
       obtain rfl:=sj H
       exact lf [(2,4),(3,5)] [] [] (by kernel_rfl) ⟨rfl,rfl⟩
     ·obtain⟨x336,rfl⟩:∃ z,z=o346:=⟨_,rfl⟩
      rintro e s ⟨rfl,rfl⟩
      refine AWp.cond x336 (by kernel_rfl) (fun c337 => ?_) (fun c337 => ?_)
      ·replace H:=iT c337 H
       refine sO hP hn hm [] [(4,iV .i64 32)] [4] [] [] ?_
       refine AWp.conv (inv:=[]) (vk:=[]) (e0:=[]) (t:=⟨[(4,iV .i64 32)],[],0⟩) (by kernel_rfl) ?_
       refine AWp.ret ?_
       obtain rfl:=sj H
       exact rl rfl rfl (by kernel_rfl) (by kernel_rfl)
      ·replace H:=iF c337 H
       refine sO hP hn hm [] [(38,bV (b320.f1==(0:Int)))] [1,2,6,10,11,12,38] [] [4,5] ?_
       refine AWp.cond (b320.f1==(0:Int)) (by kernel_rfl) (fun c338 => ?_) (fun c338 => ?_)
       ·replace H:=iT c338 H
        refine sO hP hn hm [] [(4,iV .i64 21)] [4] [] [] ?_
        refine AWp.conv (inv:=[]) (vk:=[]) (e0:=[]) (t:=⟨[(4,iV .i64 21)],[],0⟩) (by kernel_rfl) ?_
        refine AWp.ret ?_
        obtain rfl:=sj H
        exact rl rfl rfl (by kernel_rfl) (by kernel_rfl)
       ·replace H:=iF c338 H
        obtain⟨t341,e342,H⟩:=Z4 H
        refine sR hP hn hm [(4,.call [] [] [] [] 0 (iV .i64 t341) [])] [(42,bV (decide (t341<a0.f2)))] [1,2,10,11,12,42] [] [4] [_,_] ⟨Tryz.call125,Z3h.ok a0.f1 b320.f0 t341 e342,trivial⟩ ?_
        refine AWp.cond (decide (t341<a0.f2)) (by kernel_rfl) (fun c343 => ?_) (fun c343 => ?_)
        ·replace H:=iT c343 H
         refine sO hP hn hm [] [(4,iV .i64 31)] [4] [] [] ?_
         refine AWp.conv (inv:=[]) (vk:=[]) (e0:=[]) (t:=⟨[(4,iV .i64 31)],[],0⟩) (by kernel_rfl) ?_
         refine AWp.ret ?_
         obtain rfl:=sj H
         exact rl rfl rfl (by kernel_rfl) (by kernel_rfl)
        ·replace H:=iF c343 H
         refine AWp.skip ?_
         refine rO hP hn hm [] [(12,iV .i64 (i64.wrap (x315+(1:Int))))] [1,2,10,11,12] [] [4] ?_
         exact LWp.conv [(4,2)] [] [] (by kernel_rfl) (ih _ _ H)
   ·replace H:=iF c316 H
    refine AWp.exit ?_
    obtain rfl:=sj H
    exact lf [] [] [] (by kernel_rfl) ⟨rfl,rfl⟩
  ·rcases o344 with rr | _
   ·skip
    rintro e s ⟨rfl,hfl,hres⟩
    obtain rfl:=sj H
    exact Exists.intro _ (And.intro (fun _ _ h=>h) (And.intro (.inl rfl) (And.intro hfl hres)))
   ·skip
    rintro e s ⟨rfl,rfl⟩
    refine sO hP hn hm [] [(4,iV .i64 0)] [4] [] [] ?_
    refine AWp.conv (inv:=[]) (vk:=[]) (e0:=[]) (t:=⟨[(4,iV .i64 0)],[],0⟩) (by kernel_rfl) ?_
    refine AWp.ret ?_
    obtain rfl:=sj H
    exact rl (.inl rfl) rfl (by kernel_rfl) (by kernel_rfl)
def Z2e.l0 (a0:List Int) (x389:Int) (x390:Int):Option ((Int×Int) ⊕ Int):=if(decide (x390<(a0.length:Int)))=true then((at? a0 x390)>>=fun b395=>(chk (0≤x389∧0≤b395∧0≤(0:Int)∧(0:Int)≤(1:Int)))>>=fun _=>if(((x389+b395+(0:Int)) / 18446744073709551616) != (0:Int))=true then(some (.inl (0,5))) else(Z2e.l0 a0 ((x389+b395+(0:Int)) % 18446744073709551616) (i64.wrap (x390+(1:Int))))) else(some (.inr x389))
partial_fixpoint
def Z2e.f (a0:List Int):Option (Int×Int):=(Z2e.l0 a0 0 0)>>=fun oo=>match oo with | .inl rr=>(some rr) | .inr x401=>(some (x401,0))
theorem Z2e.ok (a0:List Int) (r:Int×Int) (H:Z2e.f a0=some r):Pv.Fn Tryz.prog 126 [.im (.row (a0.map (Z2 .u64)))] [] 0 (fun x o=>x = .tup [iV .u64 r.1,iV .i64 r.2]∧o=[]):=by
 unfold Z2e.f at H
 refine Fn.bodyK [] Tryz.func126 rfl rfl (fun Γ hP hn => ?_)
 have hm:Tryz.prog.follows .mixedOrders=true:=by kernel_rfl
 replace hn:Γ.n=26:=hn
 refine sO hP hn hm [] [] [0] [] [] ?_
 refine sO hP hn hm [] [(4,iV .u64 0)] [0,4] [] [] ?_
 refine AWp.seq ?_
 refine sR hP hn hm [(1,.any (iV .i64 (a0.length:Int)))] [(9,.im (.row (a0.map (Z2 .u64)))),(10,iV .i64 (a0.length:Int)),(11,iV .i64 0)] [4,9,10,11] [] [] [((a0.map (Z2 .u64)).length:Int)=(a0.length:Int)] ⟨by rw[Zr],trivial⟩ ?_
 refine AWp.block ?_
 obtain⟨o402,e403,H⟩:=Z4 H
 refine AWp.loop (LWp.conv (inv:=[]) (vk:=[]) (e0:=[]) (t:=⟨[(4,iV .u64 0),(9,.im (.row (a0.map (Z2 .u64)))),(10,iV .i64 (a0.length:Int)),(11,iV .i64 0)],[],0⟩) (by kernel_rfl) ?_)
 refine LWp.mono (Q:=fun e s=>(match (generalizing:=false) o402 with | .inl rr=>e = .ret∧s.floor=0∧Z1y Tryz.prog Tryz.f126 s=some (.tup [iV .u64 rr.1,iV .i64 rr.2])∧([]:List (Nat×Option MObj))=[] | .inr x401=>e = .exit 0∧s=⟨[(4,iV .u64 x401)],[],0⟩)) (LWp.cv (Zs (fun body hbody => ?_))) ?_
 ·refine       Z2e.l0.partial_correctness a0 (motive:=fun x389 x390 o402=>LWp Γ body (fun e s=>∃ t,Cv Γ s t∧(match (generalizing:=false) o402 with | .inl rr=>e = .ret∧t.floor=0∧Z1y   Tryz.prog Tryz.f126 t=some (.tup [iV .u64 rr.1,iV .i64 rr.2])∧([]:List (Nat×Option MObj))=[] | .inr x401=>e = .exit 0∧t=⟨[(4,iV .u64 x401)],[],0⟩)) ⟨[(4,iV .u64 x389),(9,.im (.row (a0.map (Z2     .u64)))),(10,iV .i64 (a0.length:Int)),(11,iV .i64 x390)],[],0⟩) ?_ _ _ _ e403
  clear H e403 o402;intro self ih x389 x390 o402 H
  subst hbody
  refine LWp.round ?_
  refine sO hP hn hm [] [(12,bV (decide (x390<(a0.length:Int))))] [4,9,10,11,12] [] [] ?_
  refine AWp.seq ?_
  refine AWp.cond (decide (x390<(a0.length:Int))) (by kernel_rfl) (fun c391 => ?_) (fun c391 => ?_)
  ·replace H:=iT c391 H
   refine AWp.skip ?_
   refine AWp.seq ?_
   refine AWp.block ?_
   obtain⟨b395,p396,q397,H⟩:=Z02 H
   refine sR hP hn hm [(0,.c ((Z2 .u64) b395))] [(6,iV .u64 b395)] [4,6,9,10,11] [] [] [_,_] ⟨p396,Zi (Z2 .u64) q397,trivial⟩ ?_
   obtain⟨c399,H⟩:=Z10 H
   refine sR hP hn hm [(2,.ext (.tup [iV .u64 ((x389+b395+(0:Int)) % 18446744073709551616),iV .u64 ((x389+b395+(0:Int)) / 18446744073709551616)]))] [(7,iV .u64 ((x389+b395+(0:Int)) % 18446744073709551616)),(8,iV .u64 ((x389+b395+(0:Int)) / 18446744073709551616))] [7,8,9,10,11] [] [] [∀ w,(callFunc 164 ([.int .u64 x389,.int .u64 b395,.int .u64 (0:Int)]:List Value).toArray).run Tryz.prog w = .ok (.value (.tuple #[.int .u64 ((x389+b395+(0:Int)) % 18446744073709551616),.int .u64 ((x389+b395+(0:Int)) / 18446744073709551616)])) w] ⟨by exact fun w=>x_add64 (fn:=Tryz.f164) Tryz.func164 (by kernel_rfl) rfl (by kernel_rfl) (by kernel_rfl) c399 w,trivial⟩ ?_
   refine AWp.seq ?_
   refine sO hP hn hm [] [(22,bV (((x389+b395+(0:Int)) / 18446744073709551616) != (0:Int)))] [7,9,10,11,22] [] [] ?_
   refine AWp.cond (((x389+b395+(0:Int)) / 18446744073709551616) != (0:Int)) (by kernel_rfl) (fun c400 => ?_) (fun c400 => ?_)
   ·replace H:=iT c400 H
    refine sO hP hn hm [] [(2,iV .u64 0),(3,iV .i64 5)] [2,3] [] [] ?_
    refine AWp.conv (inv:=[]) (vk:=[]) (e0:=[]) (t:=⟨[(2,iV .u64 0),(3,iV .i64 5)],[],0⟩) (by kernel_rfl) ?_
    refine AWp.ret ?_
    obtain rfl:=sj H
    exact rl rfl rfl (by kernel_rfl) (by kernel_rfl)
   ·replace H:=iF c400 H
    refine AWp.skip ?_
    refine rO hP hn hm [] [(4,iV .u64 ((x389+b395+(0:Int)) % 18446744073709551616))] [4,9,10,11] [] [] ?_
    refine rO hP hn hm [] [(11,iV .i64 (i64.wrap (x390+(1:Int))))] [4,9,10,11] [] [] ?_
    exact LWp.conv [] [] [] (by kernel_rfl) (ih _ _ _ H)
  ·replace H:=iF c391 H
   refine AWp.exit ?_
   obtain rfl:=sj H
   exact lf [] [] [] (by kernel_rfl) ⟨rfl,rfl⟩
 ·rcases o402 with rr | x401
  ·skip
   rintro e s ⟨rfl,hfl,hres⟩
   obtain rfl:=sj H
   exact Exists.intro _ (And.intro (fun _ _ h=>h) (And.intro (.inl rfl) (And.intro hfl hres)))
  ·skip
   rintro e s ⟨rfl,rfl⟩
   refine sO hP hn hm [] [(2,iV .u64 x401),(3,iV .i64 0)] [2,3] [] [] ?_
   refine AWp.conv (inv:=[]) (vk:=[]) (e0:=[]) (t:=⟨[(2,iV .u64 x401),(3,iV .i64 0)],[],0⟩) (by kernel_rfl) ?_
   refine AWp.ret ?_
   obtain rfl:=sj H
   exact rl (.inl rfl) rfl (by kernel_rfl) (by kernel_rfl)
def Z0w.l1 (a0:List (List Z9)) (b430:List Z9) (x425:Int) (x445:Int) (x446:Int):Option ((Int×Int) ⊕ Int):=if(decide (x446<(b430.length:Int)))=true then((at? b430 x446)>>=fun b451=>(Z2e.f [x445,b451.f1])>>=fun t456=>if(t456.2 != (0:Int))=true then(some (.inl (0,t456.2))) else(Z0w.l1 a0 b430 x425 t456.1 (i64.wrap (x446+(1:Int))))) else(some (.inr x445))
partial_fixpoint
def Z0w.l0 (a0:List (List Z9)) (x424:Int) (x425:Int):Option ((Int×Int) ⊕ Int):=if(decide (x425<(a0.length:Int)))=true then((at? a0 x425)>>=fun b430=>(Z0w.l1 a0 b430 x425 x424 0)>>=fun oo=>match oo with | .inl rr=>(some (.inl rr)) | .inr x459=>(Z0w.l0 a0 x459 (i64.wrap (x425+(1:Int))))) else(some (.inr x424))
partial_fixpoint
def Z0w.f (a0:List (List Z9)):Option (Int×Int):=(Z0w.l0 a0 0 0)>>=fun oo=>match oo with | .inl rr=>(some rr) | .inr x460=>(some (x460,0))
theorem Z0w.ok (a0:List (List Z9)) (r:Int×Int) (H:Z0w.f a0=some r):Pv.Fn Tryz.prog 95 [.im (.row (a0.map (Z1e Z1)))] [] 0 (fun x o=>x = .tup [iV .u64 r.1,iV .i64 r.2]∧o=[]):=by
 unfold Z0w.f at H
 refine Fn.bodyK [] Tryz.func95 rfl rfl (fun Γ hP hn => ?_)
 have hm:Tryz.prog.follows .mixedOrders=true:=by kernel_rfl
 replace hn:Γ.n=36:=hn
 refine sO hP hn hm [] [] [0] [] [] ?_
 refine sO hP hn hm [] [(4,iV .u64 0)] [0,4] [] [] ?_
 refine AWp.seq ?_
 refine sR hP hn hm [(1,.any (iV .i64 (a0.length:Int)))] [(10,.im (.row (a0.map (Z1e Z1)))),(11,iV .i64 (a0.length:Int)),(12,iV .i64 0)] [4,10,11,12] [] [] [((a0.map (Z1e Z1)).length:Int)=(a0.length:Int)] ⟨by rw[Zr],trivial⟩ ?_
 refine AWp.block ?_
 obtain⟨o461,e462,H⟩:=Z4 H
 refine AWp.loop (LWp.conv (inv:=[]) (vk:=[]) (e0:=[]) (t:=⟨[(4,iV .u64 0),(10,.im (.row (a0.map (Z1e Z1)))),(11,iV .i64 (a0.length:Int)),(12,iV .i64 0)],[],0⟩) (by kernel_rfl) ?_)
 refine LWp.mono (Q:=fun e s=>(match (generalizing:=false) o461 with | .inl rr=>e = .ret∧s.floor=0∧Z1y Tryz.prog Tryz.f95 s=some (.tup [iV .u64 rr.1,iV .i64 rr.2])∧([]:List (Nat×Option MObj))=[] | .inr x460=>e = .exit 0∧s=⟨[(4,iV .u64 x460)],[],0⟩)) (LWp.cv (Zs (fun body hbody => ?_))) ?_
 ·refine          Z0w.l0.partial_correctness a0 (motive:=fun x424 x425 o461=>LWp Γ body (fun e s=>∃ t,Cv Γ s t∧(match (generalizing:=false) o461 with | .inl rr=>e = .ret∧t.floor=0∧Z1y   Tryz.prog Tryz.f95 t=some (.tup [iV .u64 rr.1,iV .i64 rr.2])∧([]:List (Nat×Option MObj))=[] | .inr x460=>e = .exit 0∧t=⟨[(4,iV .u64 x460)],[],0⟩)) ⟨[(4,iV .u64 x424),(10,.im (.row (a0.map (Z1e    Z1     )))),(11,iV .i64 (a0.length:Int)),(12,iV .i64 x425)],[],0⟩) ?_ _ _ _ e462
  clear H e462 o461;intro self ih x424 x425 o461 H
  subst hbody
  refine LWp.round ?_
  refine sO hP hn hm [] [(13,bV (decide (x425<(a0.length:Int))))] [4,10,11,12,13] [] [] ?_
  refine AWp.seq ?_
  refine AWp.cond (decide (x425<(a0.length:Int))) (by kernel_rfl) (fun c426 => ?_) (fun c426 => ?_)
  ·replace H:=iT c426 H
   refine AWp.skip ?_
   refine AWp.seq ?_
   refine AWp.block ?_
   obtain⟨b430,p431,q432,H⟩:=Z02 H
   refine sR hP hn hm [(0,.c ((Z1e Z1) b430))] [(6,.im (.row (b430.map Z1)))] [4,6,10,11,12] [] [] [_,_] ⟨p431,Zi (Z1e Z1) q432,trivial⟩ ?_
   refine sR hP hn hm [(1,.any (iV .i64 (b430.length:Int)))] [(16,.im (.row (b430.map Z1))),(17,iV .i64 (b430.length:Int)),(18,iV .i64 0)] [4,10,11,12,16,17,18] [] [] [((b430.map Z1).length:Int)=(b430.length:Int)] ⟨by rw[Zr],trivial⟩ ?_
   refine AWp.block ?_
   obtain⟨o463,e464,H⟩:=Z4 H
   refine AWp.loop (LWp.conv (inv:=[]) (vk:=[]) (e0:=[]) (t:=⟨[(4,iV .u64 x424),(10,.im (.row (a0.map (Z1e Z1)))),(11,iV .i64 (a0.length:Int)),(12,iV .i64 x425),(16,.im (.row (b430.map Z1))),(17,iV .i64 (b430.length:Int)),(18,iV .i64 0)],[],0⟩) (by kernel_rfl) ?_)
   refine LWp.mono (Q:=fun e s=>(match (generalizing:=false) o463 with | .inl rr=>e = .ret∧s.floor=0∧Z1y Tryz.prog Tryz.f95 s=some (.tup [iV .u64 rr.1,iV .i64 rr.2])∧([]:List (Nat×Option MObj))=[] | .inr x459=>e = .exit 2∧s=⟨[(4,iV .u64 x459),(10,.im (.row (a0.map (Z1e Z1)))),(11,iV .i64 (a0.length:Int)),(12,iV .i64 x425)],[],0⟩)) (LWp.cv (Zs (fun body hbody => ?_))) ?_
   ·refine          Z0w.l1.partial_correctness a0 b430 x425 (motive:=fun x445 x446 o463=>LWp Γ body (fun e s=>∃ t,Cv Γ s t∧(match (generalizing:=false) o463 with | .inl rr=>e = .ret∧t.floor=0∧Z1y   Tryz.prog Tryz.f95 t=some (.tup [iV .u64 rr.1,iV .i64 rr.2])∧([]:List (Nat×Option MObj))=[] | .inr x459=>e = .exit 2∧t=⟨[(4,iV .u64 x459),(10,.im (.row (a0.map (Z1e    Z1     )))),(11,iV .i64 (a0.length:Int)),(12,iV .i64 x425)],[],0⟩)) ⟨[(4,iV .u64 x445),(10,.im (.row (a0.map (Z1e    Z1     )))),(11,iV .i64 (a0.length:Int)),(12,iV .i64 x425),(16,.im (.row (b430.map Z1     ))),(17,iV .i64 (b430.length:Int)),(18,iV .i64 x446)],[],0⟩) ?_ _ _ _ e464
    clear H e464 o463;intro self ih x445 x446 o463 H
    subst hbody
    refine LWp.round ?_
    refine sO hP hn hm [] [(19,bV (decide (x446<(b430.length:Int))))] [4,10,11,12,16,17,18,19] [] [] ?_
    refine AWp.seq ?_
    refine AWp.cond (decide (x446<(b430.length:Int))) (by kernel_rfl) (fun c447 => ?_) (fun c447 => ?_)
    ·replace H:=iT c447 H
     refine AWp.skip ?_
     refine AWp.seq ?_
     refine AWp.block ?_
     obtain⟨b451,p452,q453,H⟩:=Z02 H
     refine sR hP hn hm [(0,.c (Z1 b451)),(2,.k 6)] [(8,.ptr 6 0 0)] [4,8,10,11,12,16,17,18] [(6,some (.box 136 (Z2m b451)))] [6] [_,_] ⟨p452,Zi Z1 q453,trivial⟩ ?_
     refine sO hP hn hm [] [] [4,8,10,11,12,16,17,18] [] [6] ?_
     obtain⟨t456,e457,H⟩:=Z4 H
     refine sR hP hn hm [(3,.app 7 ([x445,b451.f1].map (Z2 .u64))),(4,.call [] [] [7] [] 0 (.tup [iV .u64 t456.1,iV .i64 t456.2]) [])] [(4,iV .u64 t456.1),(9,iV .i64 t456.2)] [4,9,10,11,12,16,17,18] [] [] [[x445,b451.f1].map (Z2 .u64)=[[iI .u64 x445],[iI .u64 b451.f1]],_,_] ⟨by exact rfl,Tryz.call126,Z2e.ok [x445,b451.f1] t456 e457,trivial⟩ ?_
     refine sO hP hn hm [] [(31,bV (t456.2 != (0:Int)))] [4,9,10,11,12,16,17,18,31] [] [] ?_
     refine AWp.cond (t456.2 != (0:Int)) (by kernel_rfl) (fun c458 => ?_) (fun c458 => ?_)
     ·replace H:=iT c458 H
      refine sO hP hn hm [] [(2,iV .u64 0),(3,iV .i64 t456.2)] [2,3] [] [] ?_
      refine AWp.conv (inv:=[]) (vk:=[]) (e0:=[]) (t:=⟨[(2,iV .u64 0),(3,iV .i64 t456.2)],[],0⟩) (by kernel_rfl) ?_
      refine AWp.ret ?_
      obtain rfl:=sj H
      exact rl rfl rfl (by kernel_rfl) (by kernel_rfl)
     ·replace H:=iF c458 H
      refine AWp.skip ?_
      refine rO hP hn hm [] [(18,iV .i64 (i64.wrap (x446+(1:Int))))] [4,10,11,12,16,17,18] [] [] ?_
      exact LWp.conv [] [] [] (by kernel_rfl) (ih _ _ _ H)
    ·replace H:=iF c447 H
     refine AWp.exit ?_
     obtain rfl:=sj H
     exact lf [] [] [] (by kernel_rfl) ⟨rfl,rfl⟩
   ·rcases o463 with rr | x459
    ·skip
     rintro e s ⟨rfl,hfl,hres⟩
     obtain rfl:=sj H
     exact Exists.intro _ (And.intro (fun _ _ h=>h) (And.intro rfl (And.intro hfl hres)))
    ·skip
     rintro e s ⟨rfl,rfl⟩
     refine rO hP hn hm [] [(12,iV .i64 (i64.wrap (x425+(1:Int))))] [4,10,11,12] [] [] ?_
     exact LWp.conv [] [] [] (by kernel_rfl) (ih _ _ _ H)
  ·replace H:=iF c426 H
   refine AWp.exit ?_
   obtain rfl:=sj H
   exact lf [] [] [] (by kernel_rfl) ⟨rfl,rfl⟩
 ·rcases o461 with rr | x460
  ·skip
   rintro e s ⟨rfl,hfl,hres⟩
   obtain rfl:=sj H
   exact Exists.intro _ (And.intro (fun _ _ h=>h) (And.intro (.inl rfl) (And.intro hfl hres)))
  ·skip
   rintro e s ⟨rfl,rfl⟩
   refine sO hP hn hm [] [(2,iV .u64 x460),(3,iV .i64 0)] [2,3] [] [] ?_
   refine AWp.conv (inv:=[]) (vk:=[]) (e0:=[]) (t:=⟨[(2,iV .u64 x460),(3,iV .i64 0)],[],0⟩) (by kernel_rfl) ?_
   refine AWp.ret ?_
   obtain rfl:=sj H
   exact rl (.inl rfl) rfl (by kernel_rfl) (by kernel_rfl)
def Z0j.l0 (a0:Z0f) (x353:Int):Option (Int ⊕ Unit):=if(decide (x353<(2:Int)))=true then((((chk (0≤x353∧x353<(2:Int)))>>=fun _=>if(x353==(0:Int))=true then(some a0.f6) else(some a0.f7)):Option (List Z9))>>=fun x359=>(Z01.f a0 x359)>>=fun t362=>if(t362 != (0:Int))=true then(some (.inl t362)) else(Z0j.l0 a0 (i64.wrap (x353+(1:Int))))) else(some (.inr ()))
partial_fixpoint
def Z0j.f (a0:Z0f):Option (Int):=((if(a0.f0 != (0:Int))=true then(some (a0.f0 != (1:Int))) else(some false)):Option (Bool))>>=fun x229=>if x229=true then(some 25) else((Z0d.f a0.f1)>>=fun t238=>if(!t238)=true then(some 20) else(((if(a0.f2 != (-524288))=true then(if(decide (a0.f2≤(-262144)))=true then(some true) else(some (decide (a0.f2>(262144:Int))))) else(some false)):Option (Bool))>>=fun x245=>if x245=true then(some 31) else((Z0j.l0 a0 0)>>=fun oo=>match oo with | .inl rr=>(some rr) | .inr _=>((Z0w.f [a0.f6,a0.f7,[(⟨0,a0.f3⟩:Z9)]])>>=fun t467=>if(t467.2 != (0:Int))=true then(some t467.2) else(if(t467.1 != a0.f4)=true then(some 21) else(some 0))))))
theorem Z0j.ok (a0:Z0f) (r:Int) (H:Z0j.f a0=some r):Pv.Fn Tryz.prog 57 [.agg (Z08 a0)] [] 0 (fun x o=>x=iV .i64 r∧o=[]):=by
 unfold Z0j.f at H
 refine Fn.bodyK [] Tryz.func57 rfl rfl (fun Γ hP hn => ?_)
 have hm:Tryz.prog.follows .mixedOrders=true:=by kernel_rfl
 replace hn:Γ.n=73:=hn
 refine sO hP hn hm [(0,.k 0)] [(1,.ptr 0 0 0)] [1] [(0,some (.box 48 (Z08 a0)))] [0] ?_
 refine AWp.seq ?_
 refine AWp.block ?_
 refine AWp.seq ?_
 obtain⟨o471,e472,H⟩:=Z4 H
 refine AWp.mono (Q:=fun e s=>(match (generalizing:=false) o471 with | x229=>e = .normal∧s=⟨[(1,.ptr 1 0 0),(8,bV x229)],[(1,some (.box 48 (Z08 a0)))],0⟩)) (AWp.cv ?_) ?_
 ·replace H:=e472;clear e472
  rcases Bool.eq_false_or_eq_true (a0.f0 != (0:Int)) with c228 | c228
  ·replace H:=iT c228 H
   refine rG hP hn hm [(3,.b true)] [(8,bV (a0.f0 != (1:Int)))] [1,8] [] [0] [_] ⟨c228,trivial⟩ ?_
   obtain rfl:=sj H
   exact lf [(0,1)] [] [] (by kernel_rfl) ⟨rfl,rfl⟩
  ·replace H:=iF c228 H
   refine rG hP hn hm [(3,.b false)] [(8,bV false)] [1,8] [] [0] [_] ⟨c228,trivial⟩ ?_
   obtain rfl:=sj H
   exact lf [(0,1)] [] [] (by kernel_rfl) ⟨rfl,rfl⟩
 ·obtain⟨x229,rfl⟩:∃ z,z=o471:=⟨_,rfl⟩
  rintro e s ⟨rfl,rfl⟩
  refine AWp.cond x229 (by kernel_rfl) (fun c230 => ?_) (fun c230 => ?_)
  ·replace H:=iT c230 H
   refine sO hP hn hm [] [(2,iV .i64 25)] [2] [] [] ?_
   refine AWp.conv (inv:=[]) (vk:=[]) (e0:=[]) (t:=⟨[(2,iV .i64 25)],[],0⟩) (by kernel_rfl) ?_
   refine AWp.ret ?_
   obtain rfl:=sj H
   exact rl (.inl rfl) rfl (by kernel_rfl) (by kernel_rfl)
  ·replace H:=iF c230 H
   obtain⟨t238,e239,H⟩:=Z4 H
   refine sR hP hn hm [(2,.call [] [] [] [] 0 (bV t238) [])] [(17,bV (!t238))] [1,17] [] [1] [_,_] ⟨Tryz.call93,Z0d.ok a0.f1 t238 e239,trivial⟩ ?_
   refine AWp.cond (!t238) (by kernel_rfl) (fun c240 => ?_) (fun c240 => ?_)
   ·replace H:=iT c240 H
    refine sO hP hn hm [] [(2,iV .i64 20)] [2] [] [] ?_
    refine AWp.conv (inv:=[]) (vk:=[]) (e0:=[]) (t:=⟨[(2,iV .i64 20)],[],0⟩) (by kernel_rfl) ?_
    refine AWp.ret ?_
    obtain rfl:=sj H
    exact rl (.inl rfl) rfl (by kernel_rfl) (by kernel_rfl)
   ·replace H:=iF c240 H
    refine AWp.seq ?_
    obtain⟨o473,e474,H⟩:=Z4 H
    refine AWp.mono (Q:=fun e s=>(match (generalizing:=false) o473 with | x245=>e = .normal∧s=⟨[(1,.ptr 2 0 0),(22,bV x245)],[(2,some (.box 48 (Z08 a0)))],0⟩)) (AWp.cv ?_) ?_
    ·replace H:=e474;clear e474
     rcases Bool.eq_false_or_eq_true (a0.f2 != (-524288)) with c243 | c243
     ·replace H:=iT c243 H
      rcases Bool.eq_false_or_eq_true (decide (a0.f2≤(-262144))) with c244 | c244
      ·replace H:=iT c244 H
       refine rG hP hn hm [(3,.b true),(7,.b true)] [(22,bV true)] [1,22] [] [1] [_,_] ⟨c243,c244,trivial⟩ ?_
       obtain rfl:=sj H
       exact lf [(1,2)] [] [] (by kernel_rfl) ⟨rfl,rfl⟩
      ·replace H:=iF c244 H
       refine rG hP hn hm [(3,.b true),(7,.b false)] [(22,bV (decide (a0.f2>(262144:Int))))] [1,22] [] [1] [_,_] ⟨c243,c244,trivial⟩ ?_
       obtain rfl:=sj H
       exact lf [(1,2)] [] [] (by kernel_rfl) ⟨rfl,rfl⟩
     ·replace H:=iF c243 H
      refine rG hP hn hm [(3,.b false)] [(22,bV false)] [1,22] [] [1] [_] ⟨c243,trivial⟩ ?_
      obtain rfl:=sj H
      exact lf [(1,2)] [] [] (by kernel_rfl) ⟨rfl,rfl⟩
    ·obtain⟨x245,rfl⟩:∃ z,z=o473:=⟨_,rfl⟩
     rintro e s ⟨rfl,rfl⟩
     refine AWp.cond x245 (by kernel_rfl) (fun c246 => ?_) (fun c246 => ?_)
     ·replace H:=iT c246 H
      refine sO hP hn hm [] [(2,iV .i64 31)] [2] [] [] ?_
      refine AWp.conv (inv:=[]) (vk:=[]) (e0:=[]) (t:=⟨[(2,iV .i64 31)],[],0⟩) (by kernel_rfl) ?_
      refine AWp.ret ?_
      obtain rfl:=sj H
      exact rl (.inl rfl) rfl (by kernel_rfl) (by kernel_rfl)
     ·replace H:=iF c246 H
      refine AWp.skip ?_
      refine AWp.seq ?_
      refine sO hP hn hm [] [(40,.agg [.im (.row (a0.f6.map Z1)),.im (.row (a0.f7.map Z1))]),(41,iV .i64 0)] [1,40,41] [] [2] ?_
      refine AWp.block ?_
      obtain⟨o475,e476,H⟩:=Z4 H
      refine AWp.loop (LWp.conv (inv:=[(2,3)]) (vk:=[]) (e0:=[]) (t:=⟨[(1,.ptr 3 0 0),(40,.agg [.im (.row (a0.f6.map Z1)),.im (.row (a0.f7.map Z1))]),(41,iV .i64 0)],[(3,some (.box 48 (Z08 a0)))],0⟩) (by kernel_rfl) ?_)
      refine LWp.mono (Q:=fun e s=>(match (generalizing:=false) o475 with | .inl rr=>e = .ret∧s.floor=0∧Z1y Tryz.prog Tryz.f57 s=some (iV .i64 rr)∧([]:List (Nat×Option MObj))=[] | .inr _=>e = .exit 1∧s=⟨[(1,.ptr 5 0 0)],[(5,some (.box 48 (Z08 a0)))],0⟩)) (LWp.cv (Zs (fun body hbody => ?_))) ?_
      ·refine          Z0j.l0.partial_correctness a0 (motive:=fun x353 o475=>LWp Γ body (fun e s=>∃ t,Cv Γ s t∧(match (generalizing:=false) o475 with | .inl rr=>e = .ret∧t.floor=0∧Z1y   Tryz.prog Tryz.f57 t=some (iV .i64 rr)∧([]:List (Nat×Option MObj))=[] | .inr _=>e = .exit 1∧t=⟨[(1,.ptr 5 0 0)],[(5,some (.box 48 (Z08   a0)))],0⟩)) ⟨[(1,.ptr 3 0 0),(40,.agg [.im (.row (a0.f6.map Z1     )),.im (.row (a0.f7.map Z1     ))]),(41,iV .i64 x353)],[(3,some (.box 48 (Z08   a0)))],0⟩) ?_ _ _ e476
       clear H e476 o475;intro self ih x353 o475 H
       subst hbody
       refine LWp.round ?_
       refine sO hP hn hm [] [(42,bV (decide (x353<(2:Int))))] [1,40,41,42] [] [3] ?_
       refine AWp.seq ?_
       refine AWp.cond (decide (x353<(2:Int))) (by kernel_rfl) (fun c354 => ?_) (fun c354 => ?_)
       ·replace H:=iT c354 H
        refine AWp.skip ?_
        refine AWp.seq ?_
        refine AWp.block ?_
        refine AWp.seq ?_
        obtain⟨o477,e478,H⟩:=Z4 H
        refine AWp.mono (Q:=fun e s=>(match (generalizing:=false) o477 with | x359=>e = .normal∧s=⟨[(1,.ptr 4 0 0),(4,.im (.row (x359.map Z1))),(40,.agg [.im (.row (a0.f6.map Z1)),.im (.row (a0.f7.map Z1))]),(41,iV .i64 x353)],[(4,some (.box 48 (Z08 a0)))],0⟩)) (AWp.cv ?_) ?_
        ·replace H:=e478;clear e478
         obtain⟨c357,H⟩:=Z10 H
         rcases Bool.eq_false_or_eq_true (x353==(0:Int)) with c358 | c358
         ·replace H:=iT c358 H
          refine rG hP hn hm [(0,.more (xIdx 0))] [(4,.im (.row (a0.f6.map Z1)))] [1,4,40,41] [] [3] [x353=((0:Nat):Int)] ⟨by exact(by simpa using c358),trivial⟩ ?_
          obtain rfl:=sj H
          exact lf [(3,4)] [] [] (by kernel_rfl) ⟨rfl,rfl⟩
         ·replace H:=iF c358 H
          refine rG hP hn hm [(0,.more (xIdx 1))] [(4,.im (.row (a0.f7.map Z1)))] [1,4,40,41] [] [3] [x353=((1:Nat):Int)] ⟨by have:=c357;simp only[beq_eq_false_iff_ne] at *;omega,trivial⟩ ?_
          obtain rfl:=sj H
          exact lf [(3,4)] [] [] (by kernel_rfl) ⟨rfl,rfl⟩
        ·obtain⟨x359,rfl⟩:∃ z,z=o477:=⟨_,rfl⟩
         rintro e s ⟨rfl,rfl⟩
         obtain⟨t362,e363,H⟩:=Z4 H
         refine sR hP hn hm [(2,.call [] [] [] [] 0 (iV .i64 t362) [])] [(5,iV .i64 t362)] [1,5,40,41] [] [4] [_,_] ⟨Tryz.call94,Z01.ok a0 x359 t362 e363,trivial⟩ ?_
         refine sO hP hn hm [] [(48,bV (t362 != (0:Int)))] [1,5,40,41,48] [] [4] ?_
         refine AWp.cond (t362 != (0:Int)) (by kernel_rfl) (fun c364 => ?_) (fun c364 => ?_)
         ·replace H:=iT c364 H
          refine sO hP hn hm [] [(2,iV .i64 t362)] [2] [] [] ?_
          refine AWp.conv (inv:=[]) (vk:=[]) (e0:=[]) (t:=⟨[(2,iV .i64 t362)],[],0⟩) (by kernel_rfl) ?_
          refine AWp.ret ?_
          obtain rfl:=sj H
          exact rl rfl rfl (by kernel_rfl) (by kernel_rfl)
         ·replace H:=iF c364 H
          refine AWp.skip ?_
          refine rO hP hn hm [] [(41,iV .i64 (i64.wrap (x353+(1:Int))))] [1,40,41] [] [4] ?_
          exact LWp.conv [(4,3)] [] [] (by kernel_rfl) (ih _ _ H)
       ·replace H:=iF c354 H
        refine AWp.exit ?_
        obtain rfl:=sj H
        exact lf [(3,5)] [] [] (by kernel_rfl) ⟨rfl,rfl⟩
      ·rcases o475 with rr | _
       ·skip
        rintro e s ⟨rfl,hfl,hres⟩
        obtain rfl:=sj H
        exact Exists.intro _ (And.intro (fun _ _ h=>h) (And.intro (.inl rfl) (And.intro hfl hres)))
       ·skip
        rintro e s ⟨rfl,rfl⟩
        obtain⟨t467,e468,H⟩:=Z4 H
        refine sR hP hn hm [(7,.more (xFz (.app 6 ([(⟨0,a0.f3⟩:Z9)].map Z1)))),(8,.app 7 ([a0.f6,a0.f7,[(⟨0,a0.f3⟩:Z9)]].map (Z1e Z1))),(9,.call [] [] [7] [] 0 (.tup [iV .u64 t467.1,iV .i64 t467.2]) [])] [(6,iV .u64 t467.1),(7,iV .i64 t467.2)] [1,6,7] [] [5] [[(⟨0,a0.f3⟩:Z9)].map Z1=[[iI .i64 0,iI .u64 a0.f3]],[a0.f6,a0.f7,[(⟨0,a0.f3⟩:Z9)]].map (Z1e Z1)=[[.row (a0.f6.map Z1)],[.row (a0.f7.map Z1)],[.row ([(⟨0,a0.f3⟩:Z9)].map Z1)]],_,_] ⟨by exact rfl,by exact rfl,Tryz.call95,Z0w.ok [a0.f6,a0.f7,[(⟨0,a0.f3⟩:Z9)]] t467 e468,trivial⟩ ?_
        refine AWp.seq ?_
        refine AWp.block ?_
        refine sO hP hn hm [] [(64,bV (t467.2 != (0:Int)))] [1,6,7,64] [] [5] ?_
        refine AWp.cond (t467.2 != (0:Int)) (by kernel_rfl) (fun c469 => ?_) (fun c469 => ?_)
        ·replace H:=iT c469 H
         refine sO hP hn hm [] [(2,iV .i64 t467.2)] [2] [] [] ?_
         refine AWp.conv (inv:=[]) (vk:=[]) (e0:=[]) (t:=⟨[(2,iV .i64 t467.2)],[],0⟩) (by kernel_rfl) ?_
         refine AWp.ret ?_
         obtain rfl:=sj H
         exact rl (.inl rfl) rfl (by kernel_rfl) (by kernel_rfl)
        ·replace H:=iF c469 H
         refine sO hP hn hm [] [(68,bV (t467.1 != a0.f4))] [68] [] [] ?_
         refine AWp.cond (t467.1 != a0.f4) (by kernel_rfl) (fun c470 => ?_) (fun c470 => ?_)
         ·replace H:=iT c470 H
          refine sO hP hn hm [] [(2,iV .i64 21)] [2] [] [] ?_
          refine AWp.conv (inv:=[]) (vk:=[]) (e0:=[]) (t:=⟨[(2,iV .i64 21)],[],0⟩) (by kernel_rfl) ?_
          refine AWp.ret ?_
          obtain rfl:=sj H
          exact rl (.inl rfl) rfl (by kernel_rfl) (by kernel_rfl)
         ·replace H:=iF c470 H
          refine AWp.skip ?_
          refine sO hP hn hm [] [(2,iV .i64 0)] [2] [] [] ?_
          refine AWp.conv (inv:=[]) (vk:=[]) (e0:=[]) (t:=⟨[(2,iV .i64 0)],[],0⟩) (by kernel_rfl) ?_
          refine AWp.ret ?_
          obtain rfl:=sj H
          exact rl (.inl rfl) rfl (by kernel_rfl) (by kernel_rfl)
def Zv.l0 (a0:List Zt) (x489:Int):Option (Bool ⊕ Unit):=if(decide (x489<(a0.length:Int)))=true then((at? a0 x489)>>=fun b494=>((if(decide (b494.f0<(0:Int)))=true then(some true) else(if(decide (b494.f0>(1099511627776:Int)))=true then(some true) else((Z0j.f b494.f1)>>=fun t508=>if(t508 != (0:Int))=true then(some true) else(if(decide (x489>(0:Int)))=true then((at? a0 (i64.wrap (x489-(1:Int))))>>=fun b512=>some (decide (b512.f0≥b494.f0))) else(some false))))):Option (Bool))>>=fun x515=>if x515=true then(some (.inl false)) else(Zv.l0 a0 (i64.wrap (x489+(1:Int))))) else(some (.inr ()))
partial_fixpoint
def Zv.f (a0:List Zt):Option (Bool):=(Zv.l0 a0 0)>>=fun oo=>match oo with | .inl rr=>(some rr) | .inr _=>(some true)
theorem Zv.ok (a0:List Zt) (r:Bool) (H:Zv.f a0=some r):Pv.Fn Tryz.prog 18 [.im (.row (a0.map Z6))] [] 0 (fun x o=>x=bV r∧o=[]):=by
 unfold Zv.f at H
 refine Fn.bodyK [] Tryz.func18 rfl rfl (fun Γ hP hn => ?_)
 have hm:Tryz.prog.follows .mixedOrders=true:=by kernel_rfl
 replace hn:Γ.n=42:=hn
 refine sO hP hn hm [] [] [0] [] [] ?_
 refine AWp.seq ?_
 refine sR hP hn hm [(1,.any (iV .i64 (a0.length:Int)))] [(5,.im (.row (a0.map Z6))),(6,iV .i64 (a0.length:Int)),(7,iV .i64 0)] [0,5,6,7] [] [] [((a0.map Z6).length:Int)=(a0.length:Int)] ⟨by rw[Zr],trivial⟩ ?_
 refine AWp.block ?_
 obtain⟨o517,e518,H⟩:=Z4 H
 refine AWp.loop (LWp.conv (inv:=[]) (vk:=[]) (e0:=[]) (t:=⟨[(0,.im (.row (a0.map Z6))),(5,.im (.row (a0.map Z6))),(6,iV .i64 (a0.length:Int)),(7,iV .i64 0)],[],0⟩) (by kernel_rfl) ?_)
 refine LWp.mono (Q:=fun e s=>(match (generalizing:=false) o517 with | .inl rr=>e = .ret∧s.floor=0∧Z1y Tryz.prog Tryz.f18 s=some (bV rr)∧([]:List (Nat×Option MObj))=[] | .inr _=>e = .exit 0∧s=⟨[],[],0⟩)) (LWp.cv (Zs (fun body hbody => ?_))) ?_
 ·refine             Zv.l0.partial_correctness a0 (motive:=fun x489 o517=>LWp Γ body (fun e s=>∃ t,Cv Γ s t∧(match (generalizing:=false) o517 with | .inl rr=>e = .ret∧t.floor=0∧Z1y   Tryz.prog Tryz.f18 t=some (bV rr)∧([]:List (Nat×Option MObj))=[] | .inr _=>e = .exit 0∧t=⟨[],[],0⟩)) ⟨[(0,.im (.row (a0.map Z6     ))),(5,.im (.row (a0.map Z6     ))),(6,iV .i64 (a0.length:Int)),(7,iV .i64 x489)],[],0⟩) ?_ _ _ e518
  clear H e518 o517;intro self ih x489 o517 H
  subst hbody
  refine LWp.round ?_
  refine sO hP hn hm [] [(8,bV (decide (x489<(a0.length:Int))))] [0,5,6,7,8] [] [] ?_
  refine AWp.seq ?_
  refine AWp.cond (decide (x489<(a0.length:Int))) (by kernel_rfl) (fun c490 => ?_) (fun c490 => ?_)
  ·replace H:=iT c490 H
   refine AWp.skip ?_
   refine AWp.seq ?_
   refine AWp.block ?_
   obtain⟨b494,p495,q496,H⟩:=Z02 H
   refine sR hP hn hm [(1,.c (Z6 b494)),(3,.k 1)] [(3,iV .i64 x489),(4,.ptr 1 0 0)] [0,3,4,5,6,7] [(1,some (.box 50 [iV .i64 b494.f0,iV .i64 b494.f1.f0,iV .i64 b494.f1.f1,iV .i64 b494.f1.f2,iV .u64 b494.f1.f3,iV .u64 b494.f1.f4,iV .i64 b494.f1.f5,.im (.row (b494.f1.f6.map Z1)),.im (.row (b494.f1.f7.map Z1))]))] [1] [_,_] ⟨p495,Zi Z6 q496,trivial⟩ ?_
   refine AWp.seq ?_
   obtain⟨o519,e520,H⟩:=Z4 H
   refine AWp.mono (Q:=fun e s=>(match (generalizing:=false) o519 with | x515=>e = .normal∧s=⟨[(0,.im (.row (a0.map Z6))),(5,.im (.row (a0.map Z6))),(6,iV .i64 (a0.length:Int)),(7,iV .i64 x489),(40,bV x515)],[],0⟩)) (AWp.cv ?_) ?_
   ·replace H:=e520;clear e520
    rcases Bool.eq_false_or_eq_true (decide (b494.f0<(0:Int))) with c506 | c506
    ·replace H:=iT c506 H
     refine rG hP hn hm [(3,.b true)] [(40,bV true)] [0,5,6,7,40] [] [] [_] ⟨c506,trivial⟩ ?_
     obtain rfl:=sj H
     exact lf [] [] [] (by kernel_rfl) ⟨rfl,rfl⟩
    ·replace H:=iF c506 H
     rcases Bool.eq_false_or_eq_true (decide (b494.f0>(1099511627776:Int))) with c507 | c507
     ·replace H:=iT c507 H
      refine rG hP hn hm [(3,.b false),(8,.b true)] [(16,.ptr 1 0 0),(17,iV .i64 b494.f0),(18,bV (decide (b494.f0>(1099511627776:Int)))),(40,bV true)] [0,5,6,7,16,17,18,40] [] [1] [_,_] ⟨c506,c507,trivial⟩ ?_
      obtain rfl:=sj H
      exact lf [] [] [] (by kernel_rfl) ⟨rfl,rfl⟩
     ·replace H:=iF c507 H
      obtain⟨t508,e509,H⟩:=Z4 H
      rcases Bool.eq_false_or_eq_true (t508 != (0:Int)) with c510 | c510
      ·replace H:=iT c510 H
       refine rG hP hn hm [(3,.b false),(8,.b false),(11,.call [] [] [] [] 0 (iV .i64 t508) []),(14,.b true)] [(16,.ptr 1 0 0),(17,iV .i64 b494.f0),(18,bV (decide (b494.f0>(1099511627776:Int)))),(21,.ptr 1 0 1),(22,.agg (Z08 b494.f1)),(23,iV .i64 t508),(24,bV (t508 != (0:Int))),(40,bV true)] [0,5,6,7,16,17,18,21,22,23,24,40] [] [1] [_,_,_,_,_] ⟨c506,c507,Tryz.call57,Z0j.ok b494.f1 t508 e509,c510,trivial⟩ ?_
       obtain rfl:=sj H
       exact lf [] [] [] (by kernel_rfl) ⟨rfl,rfl⟩
      ·replace H:=iF c510 H
       rcases Bool.eq_false_or_eq_true (decide (x489>(0:Int))) with c511 | c511
       ·replace H:=iT c511 H
        obtain⟨b512,p513,q514,H⟩:=Z02 H
        refine rG hP hn hm [(3,.b false),(8,.b false),(11,.call [] [] [] [] 0 (iV .i64 t508) []),(14,.b false),(17,.b true),(21,.c (Z6 b512))] [(16,.ptr 1 0 0),(17,iV .i64 b494.f0),(18,bV (decide (b494.f0>(1099511627776:Int)))),(21,.ptr 1 0 1),(22,.agg (Z08 b494.f1)),(23,iV .i64 t508),(24,bV (t508 != (0:Int))),(27,iV .i64 x489),(28,bV (decide (x489>(0:Int)))),(29,bV true),(30,.im (.row (a0.map Z6))),(31,iV .i64 x489),(32,iV .i64 (i64.wrap (x489-(1:Int)))),(33,.ip [iI .i64 b512.f0,iI .i64 b512.f1.f0,iI .i64 b512.f1.f1,iI .i64 b512.f1.f2,iI .u64 b512.f1.f3,iI .u64 b512.f1.f4,iI .i64 b512.f1.f5,.row (b512.f1.f6.map Z1),.row (b512.f1.f7.map Z1)]),(34,.ip [iI .i64 b512.f0,iI .i64 b512.f1.f0,iI .i64 b512.f1.f1,iI .i64 b512.f1.f2,iI .u64 b512.f1.f3,iI .u64 b512.f1.f4,iI .i64 b512.f1.f5,.row (b512.f1.f6.map Z1),.row (b512.f1.f7.map Z1)]),(35,iV .i64 b512.f0),(36,.ptr 1 0 0),(37,iV .i64 b494.f0),(38,bV (decide (b512.f0≥b494.f0))),(39,bV (decide (b512.f0≥b494.f0))),(40,bV (decide (b512.f0≥b494.f0)))] [0,5,6,7,16,17,18,21,22,23,24,27,28,29,30,31,32,33,34,35,36,37,38,39,40] [] [1] [_,_,_,_,_,_,_,_] ⟨c506,c507,Tryz.call57,Z0j.ok b494.f1 t508 e509,c510,c511,p513,Zi Z6 q514,trivial⟩ ?_
        obtain rfl:=sj H
        exact lf [] [] [] (by kernel_rfl) ⟨rfl,rfl⟩
       ·replace H:=iF c511 H
        refine rG hP hn hm [(3,.b false),(8,.b false),(11,.call [] [] [] [] 0 (iV .i64 t508) []),(14,.b false),(17,.b false)] [(16,.ptr 1 0 0),(17,iV .i64 b494.f0),(18,bV (decide (b494.f0>(1099511627776:Int)))),(21,.ptr 1 0 1),(22,.agg (Z08 b494.f1)),(23,iV .i64 t508),(24,bV (t508 != (0:Int))),(27,iV .i64 x489),(28,bV (decide (x489>(0:Int)))),(29,bV false),(39,bV false),(40,bV false)] [0,5,6,7,16,17,18,21,22,23,24,27,28,29,39,40] [] [1] [_,_,_,_,_,_] ⟨c506,c507,Tryz.call57,Z0j.ok b494.f1 t508 e509,c510,c511,trivial⟩ ?_
        obtain rfl:=sj H
        exact lf [] [] [] (by kernel_rfl) ⟨rfl,rfl⟩
   ·obtain⟨x515,rfl⟩:∃ z,z=o519:=⟨_,rfl⟩
    rintro e s ⟨rfl,rfl⟩
    refine AWp.cond x515 (by kernel_rfl) (fun c516 => ?_) (fun c516 => ?_)
    ·replace H:=iT c516 H
     refine sO hP hn hm [] [(2,bV false)] [2] [] [] ?_
     refine AWp.conv (inv:=[]) (vk:=[]) (e0:=[]) (t:=⟨[(2,bV false)],[],0⟩) (by kernel_rfl) ?_
     refine AWp.ret ?_
     obtain rfl:=sj H
     exact rl rfl rfl (by kernel_rfl) (by kernel_rfl)
    ·replace H:=iF c516 H
     refine AWp.skip ?_
     refine rO hP hn hm [] [(7,iV .i64 (i64.wrap (x489+(1:Int))))] [0,5,6,7] [] [] ?_
     exact LWp.conv [] [] [] (by kernel_rfl) (ih _ _ H)
  ·replace H:=iF c490 H
   refine AWp.exit ?_
   obtain rfl:=sj H
   exact lf [] [] [] (by kernel_rfl) ⟨rfl,rfl⟩
 ·rcases o517 with rr | _
  ·skip
   rintro e s ⟨rfl,hfl,hres⟩
   obtain rfl:=sj H
   exact Exists.intro _ (And.intro (fun _ _ h=>h) (And.intro (.inl rfl) (And.intro hfl hres)))
  ·skip
   rintro e s ⟨rfl,rfl⟩
   refine sO hP hn hm [] [(2,bV true)] [2] [] [] ?_
   refine AWp.conv (inv:=[]) (vk:=[]) (e0:=[]) (t:=⟨[(2,bV true)],[],0⟩) (by kernel_rfl) ?_
   refine AWp.ret ?_
   obtain rfl:=sj H
   exact rl (.inl rfl) rfl (by kernel_rfl) (by kernel_rfl)
def Z39.f (a0:Z5):Option (Bool):=((if(decide (a0.f0≥(0:Int)))=true then(if(decide (a0.f0≤a0.f1))=true then(some (decide (a0.f1≤(1099511627776:Int)))) else(some false)) else(some false)):Option (Bool))>>=fun x572=>some x572
theorem Z39.ok (a0:Z5) (r:Bool) (H:Z39.f a0=some r):Pv.Fn Tryz.prog 40 [.agg [iV .i64 a0.f0,iV .i64 a0.f1]] [] 0 (fun x o=>x=bV r∧o=[]):=by
 unfold Z39.f at H
 refine Fn.bodyK [] Tryz.func40 rfl rfl (fun Γ hP hn => ?_)
 have hm:Tryz.prog.follows .mixedOrders=true:=by kernel_rfl
 replace hn:Γ.n=18:=hn
 refine sO hP hn hm [(0,.k 0)] [(1,.ptr 0 0 0)] [1] [(0,some (.box 92 (Z3w a0)))] [0] ?_
 refine AWp.seq ?_
 obtain⟨o573,e574,H⟩:=Z4 H
 refine AWp.mono (Q:=fun e s=>(match (generalizing:=false) o573 with | x572=>e = .normal∧s=⟨[(2,bV x572)],[],0⟩)) (AWp.cv ?_) ?_
 ·replace H:=e574;clear e574
  rcases Bool.eq_false_or_eq_true (decide (a0.f0≥(0:Int))) with c570 | c570
  ·replace H:=iT c570 H
   rcases Bool.eq_false_or_eq_true (decide (a0.f0≤a0.f1)) with c571 | c571
   ·replace H:=iT c571 H
    refine rG hP hn hm [(3,.b true),(10,.b true)] [(2,bV (decide (a0.f1≤(1099511627776:Int))))] [2] [] [] [_,_] ⟨c570,c571,trivial⟩ ?_
    obtain rfl:=sj H
    exact lf [] [] [] (by kernel_rfl) ⟨rfl,rfl⟩
   ·replace H:=iF c571 H
    refine rG hP hn hm [(3,.b true),(10,.b false)] [(2,bV false)] [2] [] [] [_,_] ⟨c570,c571,trivial⟩ ?_
    obtain rfl:=sj H
    exact lf [] [] [] (by kernel_rfl) ⟨rfl,rfl⟩
  ·replace H:=iF c570 H
   refine rG hP hn hm [(3,.b false)] [(2,bV false)] [2] [] [] [_] ⟨c570,trivial⟩ ?_
   obtain rfl:=sj H
   exact lf [] [] [] (by kernel_rfl) ⟨rfl,rfl⟩
 ·obtain⟨x572,rfl⟩:∃ z,z=o573:=⟨_,rfl⟩
  rintro e s ⟨rfl,rfl⟩
  refine AWp.conv (inv:=[]) (vk:=[]) (e0:=[]) (t:=⟨[(2,bV x572)],[],0⟩) (by kernel_rfl) ?_
  refine AWp.ret ?_
  obtain rfl:=sj H
  exact rl (.inl rfl) rfl (by kernel_rfl) (by kernel_rfl)
def Z1j.l0 (a0:Z0h) (x530:Int):Option (Bool ⊕ Unit):=if(decide (x530<(a0.f1.length:Int)))=true then((at? a0.f1 x530)>>=fun b535=>(((Z34.f b535.f0)>>=fun t543=>if(!t543)=true then(some true) else((Zv.f [(⟨b535.f1,b535.f2⟩:Zt)])>>=fun t546=>some (!t546))):Option (Bool))>>=fun x548=>if x548=true then(some (.inl false)) else(Z1j.l0 a0 (i64.wrap (x530+(1:Int))))) else(some (.inr ()))
partial_fixpoint
def Z1j.l1 (a0:Z0h) (x586:Int):Option (Bool ⊕ Unit):=if(decide (x586<(a0.f2.length:Int)))=true then((at? a0.f2 x586)>>=fun b591=>(((Z34.f b591.f0)>>=fun t604=>if(!t604)=true then(some true) else((Z39.f b591.f1)>>=fun t607=>if(!t607)=true then(some true) else(if(decide (x586>(0:Int)))=true then((at? a0.f2 (i64.wrap (x586-(1:Int))))>>=fun b611=>some (!Op.bytesLess b611.f0.toList b591.f0.toList)) else(some false)))):Option (Bool))>>=fun x614=>if x614=true then(some (.inl false)) else(Z1j.l1 a0 (i64.wrap (x586+(1:Int))))) else(some (.inr ()))
partial_fixpoint
def Z1j.f (a0:Z0h):Option (Bool):=if(a0.f0==(1:Int))=true then((Z1j.l0 a0 0)>>=fun oo=>match oo with | .inl rr=>(some rr) | .inr _=>(((if(decide ((a0.f1.length:Int)>(0:Int)))=true then(if(decide ((a0.f1.length:Int)≤(64:Int)))=true then(if((a0.f2.length:Int)==(0:Int))=true then(some (a0.f3==(0:Int))) else(some false)) else(some false)) else(some false)):Option (Bool))>>=fun x556=>some x556)) else(if(a0.f0==(2:Int))=true then((Z1j.l1 a0 0)>>=fun oo=>match oo with | .inl rr=>(some rr) | .inr _=>(((if(decide ((a0.f2.length:Int)≤(64:Int)))=true then(if((a0.f1.length:Int)==(0:Int))=true then(some (a0.f3==(0:Int))) else(some false)) else(some false)):Option (Bool))>>=fun x620=>some x620)) else(if(a0.f0==(3:Int))=true then(((if(decide (a0.f3≥(0:Int)))=true then(if(decide (a0.f3≤(1099511627776:Int)))=true then(some ((i64.wrap ((a0.f1.length:Int)+(a0.f2.length:Int)))==(0:Int))) else(some false)) else(some false)):Option (Bool))>>=fun x626=>some x626) else(some false)))
theorem Z1j.ok (a0:Z0h) (r:Bool) (H:Z1j.f a0=some r):Pv.Fn Tryz.prog 13 [.agg (Z1q a0)] [] 0 (fun x o=>x=bV r∧o=[]):=by
 unfold Z1j.f at H
 refine Fn.bodyK [] Tryz.func13 rfl rfl (fun Γ hP hn => ?_)
 have hm:Tryz.prog.follows .mixedOrders=true:=by kernel_rfl
 replace hn:Γ.n=126:=hn
 refine sO hP hn hm [(0,.k 0)] [(1,.ptr 0 0 0)] [1] [(0,some (.box 35 (Z1q a0)))] [0] ?_
 refine AWp.seq ?_
 refine sO hP hn hm [] [(8,iV .i64 a0.f0)] [1,8] [] [0] ?_
 refine AWp.block ?_
 refine sO hP hn hm [] [(9,bV (a0.f0==(1:Int)))] [1,8,9] [] [0] ?_
 refine AWp.cond (a0.f0==(1:Int)) (by kernel_rfl) (fun c19 => ?_) (fun c19 => ?_)
 ·replace H:=iT c19 H
  refine AWp.seq ?_
  refine sR hP hn hm [(2,.any (iV .i64 (a0.f1.length:Int)))] [(12,.im (.row (a0.f1.map Zz))),(13,iV .i64 (a0.f1.length:Int)),(14,iV .i64 0)] [1,12,13,14] [] [0] [((a0.f1.map Zz).length:Int)=(a0.f1.length:Int)] ⟨by rw[Zr],trivial⟩ ?_
  refine AWp.block ?_
  obtain⟨o627,e628,H⟩:=Z4 H
  refine AWp.loop (LWp.conv (inv:=[(0,4)]) (vk:=[]) (e0:=[]) (t:=⟨[(1,.ptr 4 0 0),(12,.im (.row (a0.f1.map Zz))),(13,iV .i64 (a0.f1.length:Int)),(14,iV .i64 0)],[(4,some (.box 35 (Z1q a0)))],0⟩) (by kernel_rfl) ?_)
  refine LWp.mono (Q:=fun e s=>(match (generalizing:=false) o627 with | .inl rr=>e = .ret∧s.floor=0∧Z1y Tryz.prog Tryz.f13 s=some (bV rr)∧([]:List (Nat×Option MObj))=[] | .inr _=>e = .exit 1∧s=⟨[(1,.ptr 8 0 0)],[(8,some (.box 35 (Z1q a0)))],0⟩)) (LWp.cv (Zs (fun body hbody => ?_))) ?_
  ·refine           Z1j.l0.partial_correctness a0 (motive:=fun x530 o627=>LWp Γ body (fun e s=>∃ t,Cv Γ s t∧(match (generalizing:=false) o627 with | .inl rr=>e = .ret∧t.floor=0∧Z1y   Tryz.prog Tryz.f13 t=some (bV rr)∧([]:List (Nat×Option MObj))=[] | .inr _=>e = .exit 1∧t=⟨[(1,.ptr 8 0 0)],[(8,some (.box 35 (Z1q           a0)))],0⟩)) ⟨[(1,.ptr 4 0 0),(12,.im (.row (a0.f1.map Zz         ))),(13,iV .i64 (a0.f1.length:Int)),(14,iV .i64 x530)],[(4,some (.box 35 (Z1q           a0)))],0⟩) ?_ _ _ e628
   clear H e628 o627;intro self ih x530 o627 H
   subst hbody
   refine LWp.round ?_
   refine sO hP hn hm [] [(15,bV (decide (x530<(a0.f1.length:Int))))] [1,12,13,14,15] [] [4] ?_
   refine AWp.seq ?_
   refine AWp.cond (decide (x530<(a0.f1.length:Int))) (by kernel_rfl) (fun c531 => ?_) (fun c531 => ?_)
   ·replace H:=iT c531 H
    refine AWp.skip ?_
    refine AWp.seq ?_
    refine AWp.block ?_
    obtain⟨b535,p536,q537,H⟩:=Z02 H
    refine sR hP hn hm [(0,.c (Zz b535)),(2,.k 5)] [(4,.ptr 5 0 0)] [1,4,12,13,14] [(5,some (.box 89 [sV b535.f0,iV .i64 b535.f1,iV .i64 b535.f2.f0,iV .i64 b535.f2.f1,iV .i64 b535.f2.f2,iV .u64 b535.f2.f3,iV .u64 b535.f2.f4,iV .i64 b535.f2.f5,.im (.row (b535.f2.f6.map Z1)),.im (.row (b535.f2.f7.map Z1))]))] [4,5] [_,_] ⟨p536,Zi Zz q537,trivial⟩ ?_
    refine AWp.seq ?_
    obtain⟨o629,e630,H⟩:=Z4 H
    refine AWp.mono (Q:=fun e s=>(match (generalizing:=false) o629 with | x548=>e = .normal∧s=⟨[(1,.ptr 7 0 0),(12,.im (.row (a0.f1.map Zz))),(13,iV .i64 (a0.f1.length:Int)),(14,iV .i64 x530),(31,bV x548)],[(7,some (.box 35 (Z1q a0)))],0⟩)) (AWp.cv ?_) ?_
    ·replace H:=e630;clear e630
     obtain⟨t543,e544,H⟩:=Z4 H
     rcases Bool.eq_false_or_eq_true (!t543) with c545 | c545
     ·replace H:=iT c545 H
      refine rG hP hn hm [(2,.call [] [] [] [] 0 (bV t543) []),(4,.b true)] [(31,bV true)] [1,12,13,14,31] [] [4] [_,_,_] ⟨Tryz.call39,Z34.ok b535.f0 t543 e544,c545,trivial⟩ ?_
      obtain rfl:=sj H
      exact lf [(4,7)] [] [] (by kernel_rfl) ⟨rfl,rfl⟩
     ·replace H:=iF c545 H
      obtain⟨t546,e547,H⟩:=Z4 H
      refine rG hP hn hm [(2,.call [] [] [] [] 0 (bV t543) []),(4,.b false),(10,.app 6 ([(⟨b535.f1,b535.f2⟩:Zt)].map Z6)),(11,.call [] [] [6] [] 0 (bV t546) [])] [(23,.ptr 5 0 1),(24,iV .i64 b535.f1),(25,.ptr 5 0 2),(26,.agg (Z08 b535.f2)),(27,.agg [iV .i64 b535.f1,iV .i64 b535.f2.f0,iV .i64 b535.f2.f1,iV .i64 b535.f2.f2,iV .u64 b535.f2.f3,iV .u64 b535.f2.f4,iV .i64 b535.f2.f5,.im (.row (b535.f2.f6.map Z1)),.im (.row (b535.f2.f7.map Z1))]),(28,.own 6),(29,bV t546),(30,bV (!t546)),(31,bV (!t546))] [1,12,13,14,23,24,25,26,27,28,29,30,31] [(6,some (.row 9 50 ([(⟨b535.f1,b535.f2⟩:Zt)].map Z6)))] [4,5,6] [_,_,_,[(⟨b535.f1,b535.f2⟩:Zt)].map Z6=[[iI .i64 b535.f1,iI .i64 b535.f2.f0,iI .i64 b535.f2.f1,iI .i64 b535.f2.f2,iI .u64 b535.f2.f3,iI .u64 b535.f2.f4,iI .i64 b535.f2.f5,.row (b535.f2.f6.map Z1),.row (b535.f2.f7.map Z1)]],_,_] ⟨Tryz.call39,Z34.ok b535.f0 t543 e544,c545,by exact rfl,Tryz.call18,Zv.ok [(⟨b535.f1,b535.f2⟩:Zt)] t546 e547,trivial⟩ ?_
      obtain rfl:=sj H
      exact lf [(4,7)] [] [] (by kernel_rfl) ⟨rfl,rfl⟩
    ·obtain⟨x548,rfl⟩:∃ z,z=o629:=⟨_,rfl⟩
     rintro e s ⟨rfl,rfl⟩
     refine AWp.cond x548 (by kernel_rfl) (fun c549 => ?_) (fun c549 => ?_)
     ·replace H:=iT c549 H
      refine sO hP hn hm [] [(2,bV false)] [2] [] [] ?_
      refine AWp.conv (inv:=[]) (vk:=[]) (e0:=[]) (t:=⟨[(2,bV false)],[],0⟩) (by kernel_rfl) ?_
      refine AWp.ret ?_
      obtain rfl:=sj H
      exact rl rfl rfl (by kernel_rfl) (by kernel_rfl)
     ·replace H:=iF c549 H
      refine AWp.skip ?_
      refine rO hP hn hm [] [(14,iV .i64 (i64.wrap (x530+(1:Int))))] [1,12,13,14] [] [7] ?_
      exact LWp.conv [(7,4)] [] [] (by kernel_rfl) (ih _ _ H)
   ·replace H:=iF c531 H
    refine AWp.exit ?_
    obtain rfl:=sj H
    exact lf [(4,8)] [] [] (by kernel_rfl) ⟨rfl,rfl⟩
  ·rcases o627 with rr | _
   ·skip
    rintro e s ⟨rfl,hfl,hres⟩
    obtain rfl:=sj H
    exact Exists.intro _ (And.intro (fun _ _ h=>h) (And.intro (.inl rfl) (And.intro hfl hres)))
   ·skip
    rintro e s ⟨rfl,rfl⟩
    refine AWp.seq ?_
    obtain⟨o631,e632,H⟩:=Z4 H
    refine AWp.mono (Q:=fun e s=>(match (generalizing:=false) o631 with | x556=>e = .normal∧s=⟨[(2,bV x556)],[],0⟩)) (AWp.cv ?_) ?_
    ·replace H:=e632;clear e632
     rcases Bool.eq_false_or_eq_true (decide ((a0.f1.length:Int)>(0:Int))) with c553 | c553
     ·replace H:=iT c553 H
      rcases Bool.eq_false_or_eq_true (decide ((a0.f1.length:Int)≤(64:Int))) with c554 | c554
      ·replace H:=iT c554 H
       rcases Bool.eq_false_or_eq_true ((a0.f2.length:Int)==(0:Int)) with c555 | c555
       ·replace H:=iT c555 H
        refine rG hP hn hm [(2,.any (iV .i64 (a0.f1.length:Int))),(4,.b true),(7,.any (iV .i64 (a0.f1.length:Int))),(10,.b true),(13,.any (iV .i64 (a0.f2.length:Int))),(16,.b true)] [(2,bV (a0.f3==(0:Int)))] [2] [] [] [((a0.f1.map Zz).length:Int)=(a0.f1.length:Int),_,((a0.f1.map Zz).length:Int)=(a0.f1.length:Int),_,((a0.f2.map Z06).length:Int)=(a0.f2.length:Int),_] ⟨by rw[Zr],c553,by rw[Zr],c554,by rw[Zr],c555,trivial⟩ ?_
        obtain rfl:=sj H
        exact lf [] [] [] (by kernel_rfl) ⟨rfl,rfl⟩
       ·replace H:=iF c555 H
        refine rG hP hn hm [(2,.any (iV .i64 (a0.f1.length:Int))),(4,.b true),(7,.any (iV .i64 (a0.f1.length:Int))),(10,.b true),(13,.any (iV .i64 (a0.f2.length:Int))),(16,.b false)] [(2,bV false)] [2] [] [] [((a0.f1.map Zz).length:Int)=(a0.f1.length:Int),_,((a0.f1.map Zz).length:Int)=(a0.f1.length:Int),_,((a0.f2.map Z06).length:Int)=(a0.f2.length:Int),_] ⟨by rw[Zr],c553,by rw[Zr],c554,by rw[Zr],c555,trivial⟩ ?_
        obtain rfl:=sj H
        exact lf [] [] [] (by kernel_rfl) ⟨rfl,rfl⟩
      ·replace H:=iF c554 H
       refine rG hP hn hm [(2,.any (iV .i64 (a0.f1.length:Int))),(4,.b true),(7,.any (iV .i64 (a0.f1.length:Int))),(10,.b false)] [(2,bV false)] [2] [] [] [((a0.f1.map Zz).length:Int)=(a0.f1.length:Int),_,((a0.f1.map Zz).length:Int)=(a0.f1.length:Int),_] ⟨by rw[Zr],c553,by rw[Zr],c554,trivial⟩ ?_
       obtain rfl:=sj H
       exact lf [] [] [] (by kernel_rfl) ⟨rfl,rfl⟩
     ·replace H:=iF c553 H
      refine rG hP hn hm [(2,.any (iV .i64 (a0.f1.length:Int))),(4,.b false)] [(2,bV false)] [2] [] [] [((a0.f1.map Zz).length:Int)=(a0.f1.length:Int),_] ⟨by rw[Zr],c553,trivial⟩ ?_
      obtain rfl:=sj H
      exact lf [] [] [] (by kernel_rfl) ⟨rfl,rfl⟩
    ·obtain⟨x556,rfl⟩:∃ z,z=o631:=⟨_,rfl⟩
     rintro e s ⟨rfl,rfl⟩
     refine AWp.conv (inv:=[]) (vk:=[]) (e0:=[]) (t:=⟨[(2,bV x556)],[],0⟩) (by kernel_rfl) ?_
     refine AWp.ret ?_
     obtain rfl:=sj H
     exact rl (.inl rfl) rfl (by kernel_rfl) (by kernel_rfl)
 ·replace H:=iF c19 H
  refine sO hP hn hm [] [(54,bV (a0.f0==(2:Int)))] [1,8,54] [] [0] ?_
  refine AWp.cond (a0.f0==(2:Int)) (by kernel_rfl) (fun c557 => ?_) (fun c557 => ?_)
  ·replace H:=iT c557 H
   refine AWp.seq ?_
   refine sR hP hn hm [(2,.any (iV .i64 (a0.f2.length:Int)))] [(57,.im (.row (a0.f2.map Z06))),(58,iV .i64 (a0.f2.length:Int)),(59,iV .i64 0)] [1,57,58,59] [] [0] [((a0.f2.map Z06).length:Int)=(a0.f2.length:Int)] ⟨by rw[Zr],trivial⟩ ?_
   refine AWp.block ?_
   obtain⟨o633,e634,H⟩:=Z4 H
   refine AWp.loop (LWp.conv (inv:=[(0,11)]) (vk:=[]) (e0:=[]) (t:=⟨[(1,.ptr 11 0 0),(57,.im (.row (a0.f2.map Z06))),(58,iV .i64 (a0.f2.length:Int)),(59,iV .i64 0)],[(11,some (.box 35 (Z1q a0)))],0⟩) (by kernel_rfl) ?_)
   refine LWp.mono (Q:=fun e s=>(match (generalizing:=false) o633 with | .inl rr=>e = .ret∧s.floor=0∧Z1y Tryz.prog Tryz.f13 s=some (bV rr)∧([]:List (Nat×Option MObj))=[] | .inr _=>e = .exit 3∧s=⟨[(1,.ptr 14 0 0)],[(14,some (.box 35 (Z1q a0)))],0⟩)) (LWp.cv (Zs (fun body hbody => ?_))) ?_
   ·refine           Z1j.l1.partial_correctness a0 (motive:=fun x586 o633=>LWp Γ body (fun e s=>∃ t,Cv Γ s t∧(match (generalizing:=false) o633 with | .inl rr=>e = .ret∧t.floor=0∧Z1y   Tryz.prog Tryz.f13 t=some (bV rr)∧([]:List (Nat×Option MObj))=[] | .inr _=>e = .exit 3∧t=⟨[(1,.ptr 14 0 0)],[(14,some (.box 35 (Z1q           a0)))],0⟩)) ⟨[(1,.ptr 11 0 0),(57,.im (.row (a0.f2.map Z06       ))),(58,iV .i64 (a0.f2.length:Int)),(59,iV .i64 x586)],[(11,some (.box 35 (Z1q           a0)))],0⟩) ?_ _ _ e634
    clear H e634 o633;intro self ih x586 o633 H
    subst hbody
    refine LWp.round ?_
    refine sO hP hn hm [] [(60,bV (decide (x586<(a0.f2.length:Int))))] [1,57,58,59,60] [] [11] ?_
    refine AWp.seq ?_
    refine AWp.cond (decide (x586<(a0.f2.length:Int))) (by kernel_rfl) (fun c587 => ?_) (fun c587 => ?_)
    ·replace H:=iT c587 H
     refine AWp.skip ?_
     refine AWp.seq ?_
     refine AWp.block ?_
     obtain⟨b591,p592,q593,H⟩:=Z02 H
     refine sR hP hn hm [(1,.c (Z06 b591)),(3,.k 12)] [(5,iV .i64 x586),(6,.ptr 12 0 0)] [1,5,6,57,58,59] [(12,some (.box 94 [sV b591.f0,iV .i64 b591.f1.f0,iV .i64 b591.f1.f1]))] [11,12] [_,_] ⟨p592,Zi Z06 q593,trivial⟩ ?_
     refine AWp.seq ?_
     obtain⟨o635,e636,H⟩:=Z4 H
     refine AWp.mono (Q:=fun e s=>(match (generalizing:=false) o635 with | x614=>e = .normal∧s=⟨[(1,.ptr 13 0 0),(57,.im (.row (a0.f2.map Z06))),(58,iV .i64 (a0.f2.length:Int)),(59,iV .i64 x586),(89,bV x614)],[(13,some (.box 35 (Z1q a0)))],0⟩)) (AWp.cv ?_) ?_
     ·replace H:=e636;clear e636
      obtain⟨t604,e605,H⟩:=Z4 H
      rcases Bool.eq_false_or_eq_true (!t604) with c606 | c606
      ·replace H:=iT c606 H
       refine rG hP hn hm [(2,.call [] [] [] [] 0 (bV t604) []),(4,.b true)] [(89,bV true)] [1,57,58,59,89] [] [11] [_,_,_] ⟨Tryz.call39,Z34.ok b591.f0 t604 e605,c606,trivial⟩ ?_
       obtain rfl:=sj H
       exact lf [(11,13)] [] [] (by kernel_rfl) ⟨rfl,rfl⟩
      ·replace H:=iF c606 H
       obtain⟨t607,e608,H⟩:=Z4 H
       rcases Bool.eq_false_or_eq_true (!t607) with c609 | c609
       ·replace H:=iT c609 H
        refine rG hP hn hm [(2,.call [] [] [] [] 0 (bV t604) []),(4,.b false),(7,.call [] [] [] [] 0 (bV t607) []),(10,.b true)] [(69,.ptr 12 0 1),(70,.agg [iV .i64 b591.f1.f0,iV .i64 b591.f1.f1]),(71,bV t607),(72,bV (!t607)),(89,bV true)] [1,57,58,59,69,70,71,72,89] [] [11,12] [_,_,_,_,_,_] ⟨Tryz.call39,Z34.ok b591.f0 t604 e605,c606,Tryz.call40,Z39.ok b591.f1 t607 e608,c609,trivial⟩ ?_
        obtain rfl:=sj H
        exact lf [(11,13)] [] [] (by kernel_rfl) ⟨rfl,rfl⟩
       ·replace H:=iF c609 H
        rcases Bool.eq_false_or_eq_true (decide (x586>(0:Int))) with c610 | c610
        ·replace H:=iT c610 H
         obtain⟨b611,p612,q613,H⟩:=Z02 H
         refine rG hP hn hm [(2,.call [] [] [] [] 0 (bV t604) []),(4,.b false),(7,.call [] [] [] [] 0 (bV t607) []),(10,.b false),(13,.b true),(18,.c (Z06 b611))] [(69,.ptr 12 0 1),(70,.agg [iV .i64 b591.f1.f0,iV .i64 b591.f1.f1]),(71,bV t607),(72,bV (!t607)),(75,iV .i64 x586),(76,bV (decide (x586>(0:Int)))),(77,bV true),(78,.ptr 11 0 2),(79,.im (.row (a0.f2.map Z06))),(80,iV .i64 x586),(81,iV .i64 (i64.wrap (x586-(1:Int)))),(82,.ip [sI b611.f0,iI .i64 b611.f1.f0,iI .i64 b611.f1.f1]),(83,.ip [sI b611.f0,iI .i64 b611.f1.f0,iI .i64 b611.f1.f1]),(84,sV b611.f0),(85,.ptr 12 0 0),(86,sV b591.f0),(87,bV (!Op.bytesLess b611.f0.toList b591.f0.toList)),(88,bV (!Op.bytesLess b611.f0.toList b591.f0.toList)),(89,bV (!Op.bytesLess b611.f0.toList b591.f0.toList))] [1,57,58,59,69,70,71,72,75,76,77,78,79,80,81,82,83,84,85,86,87,88,89] [] [11,12] [_,_,_,_,_,_,_,_,_] ⟨Tryz.call39,Z34.ok b591.f0 t604 e605,c606,Tryz.call40,Z39.ok b591.f1 t607 e608,c609,c610,p612,Zi Z06 q613,trivial⟩ ?_
         obtain rfl:=sj H
         exact lf [(11,13)] [] [] (by kernel_rfl) ⟨rfl,rfl⟩
        ·replace H:=iF c610 H
         refine rG hP hn hm [(2,.call [] [] [] [] 0 (bV t604) []),(4,.b false),(7,.call [] [] [] [] 0 (bV t607) []),(10,.b false),(13,.b false)] [(69,.ptr 12 0 1),(70,.agg [iV .i64 b591.f1.f0,iV .i64 b591.f1.f1]),(71,bV t607),(72,bV (!t607)),(75,iV .i64 x586),(76,bV (decide (x586>(0:Int)))),(77,bV false),(88,bV false),(89,bV false)] [1,57,58,59,69,70,71,72,75,76,77,88,89] [] [11,12] [_,_,_,_,_,_,_] ⟨Tryz.call39,Z34.ok b591.f0 t604 e605,c606,Tryz.call40,Z39.ok b591.f1 t607 e608,c609,c610,trivial⟩ ?_
         obtain rfl:=sj H
         exact lf [(11,13)] [] [] (by kernel_rfl) ⟨rfl,rfl⟩
     ·obtain⟨x614,rfl⟩:∃ z,z=o635:=⟨_,rfl⟩
      rintro e s ⟨rfl,rfl⟩
      refine AWp.cond x614 (by kernel_rfl) (fun c615 => ?_) (fun c615 => ?_)
      ·replace H:=iT c615 H
       refine sO hP hn hm [] [(2,bV false)] [2] [] [] ?_
       refine AWp.conv (inv:=[]) (vk:=[]) (e0:=[]) (t:=⟨[(2,bV false)],[],0⟩) (by kernel_rfl) ?_
       refine AWp.ret ?_
       obtain rfl:=sj H
       exact rl rfl rfl (by kernel_rfl) (by kernel_rfl)
      ·replace H:=iF c615 H
       refine AWp.skip ?_
       refine rO hP hn hm [] [(59,iV .i64 (i64.wrap (x586+(1:Int))))] [1,57,58,59] [] [13] ?_
       exact LWp.conv [(13,11)] [] [] (by kernel_rfl) (ih _ _ H)
    ·replace H:=iF c587 H
     refine AWp.exit ?_
     obtain rfl:=sj H
     exact lf [(11,14)] [] [] (by kernel_rfl) ⟨rfl,rfl⟩
   ·rcases o633 with rr | _
    ·skip
     rintro e s ⟨rfl,hfl,hres⟩
     obtain rfl:=sj H
     exact Exists.intro _ (And.intro (fun _ _ h=>h) (And.intro (.inl rfl) (And.intro hfl hres)))
    ·skip
     rintro e s ⟨rfl,rfl⟩
     refine AWp.seq ?_
     obtain⟨o637,e638,H⟩:=Z4 H
     refine AWp.mono (Q:=fun e s=>(match (generalizing:=false) o637 with | x620=>e = .normal∧s=⟨[(2,bV x620)],[],0⟩)) (AWp.cv ?_) ?_
     ·replace H:=e638;clear e638
      rcases Bool.eq_false_or_eq_true (decide ((a0.f2.length:Int)≤(64:Int))) with c618 | c618
      ·replace H:=iT c618 H
       rcases Bool.eq_false_or_eq_true ((a0.f1.length:Int)==(0:Int)) with c619 | c619
       ·replace H:=iT c619 H
        refine rG hP hn hm [(2,.any (iV .i64 (a0.f2.length:Int))),(4,.b true),(7,.any (iV .i64 (a0.f1.length:Int))),(10,.b true)] [(2,bV (a0.f3==(0:Int)))] [2] [] [] [((a0.f2.map Z06).length:Int)=(a0.f2.length:Int),_,((a0.f1.map Zz).length:Int)=(a0.f1.length:Int),_] ⟨by rw[Zr],c618,by rw[Zr],c619,trivial⟩ ?_
        obtain rfl:=sj H
        exact lf [] [] [] (by kernel_rfl) ⟨rfl,rfl⟩
       ·replace H:=iF c619 H
        refine rG hP hn hm [(2,.any (iV .i64 (a0.f2.length:Int))),(4,.b true),(7,.any (iV .i64 (a0.f1.length:Int))),(10,.b false)] [(2,bV false)] [2] [] [] [((a0.f2.map Z06).length:Int)=(a0.f2.length:Int),_,((a0.f1.map Zz).length:Int)=(a0.f1.length:Int),_] ⟨by rw[Zr],c618,by rw[Zr],c619,trivial⟩ ?_
        obtain rfl:=sj H
        exact lf [] [] [] (by kernel_rfl) ⟨rfl,rfl⟩
      ·replace H:=iF c618 H
       refine rG hP hn hm [(2,.any (iV .i64 (a0.f2.length:Int))),(4,.b false)] [(2,bV false)] [2] [] [] [((a0.f2.map Z06).length:Int)=(a0.f2.length:Int),_] ⟨by rw[Zr],c618,trivial⟩ ?_
       obtain rfl:=sj H
       exact lf [] [] [] (by kernel_rfl) ⟨rfl,rfl⟩
     ·obtain⟨x620,rfl⟩:∃ z,z=o637:=⟨_,rfl⟩
      rintro e s ⟨rfl,rfl⟩
      refine AWp.conv (inv:=[]) (vk:=[]) (e0:=[]) (t:=⟨[(2,bV x620)],[],0⟩) (by kernel_rfl) ?_
      refine AWp.ret ?_
      obtain rfl:=sj H
      exact rl (.inl rfl) rfl (by kernel_rfl) (by kernel_rfl)
  ·replace H:=iF c557 H
   refine sO hP hn hm [] [(106,bV (a0.f0==(3:Int)))] [1,106] [] [0] ?_
   refine AWp.cond (a0.f0==(3:Int)) (by kernel_rfl) (fun c621 => ?_) (fun c621 => ?_)
   ·replace H:=iT c621 H
    refine AWp.seq ?_
    obtain⟨o639,e640,H⟩:=Z4 H
    refine AWp.mono (Q:=fun e s=>(match (generalizing:=false) o639 with | x626=>e = .normal∧s=⟨[(2,bV x626)],[],0⟩)) (AWp.cv ?_) ?_
    ·replace H:=e640;clear e640
     rcases Bool.eq_false_or_eq_true (decide (a0.f3≥(0:Int))) with c624 | c624
     ·replace H:=iT c624 H
      rcases Bool.eq_false_or_eq_true (decide (a0.f3≤(1099511627776:Int))) with c625 | c625
      ·replace H:=iT c625 H
       refine rG hP hn hm [(3,.b true),(8,.b true),(11,.any (iV .i64 (a0.f1.length:Int))),(14,.any (iV .i64 (a0.f2.length:Int)))] [(2,bV ((i64.wrap ((a0.f1.length:Int)+(a0.f2.length:Int)))==(0:Int)))] [2] [] [] [_,_,((a0.f1.map Zz).length:Int)=(a0.f1.length:Int),((a0.f2.map Z06).length:Int)=(a0.f2.length:Int)] ⟨c624,c625,by rw[Zr],by rw[Zr],trivial⟩ ?_
       obtain rfl:=sj H
       exact lf [] [] [] (by kernel_rfl) ⟨rfl,rfl⟩
      ·replace H:=iF c625 H
       refine rG hP hn hm [(3,.b true),(8,.b false)] [(2,bV false)] [2] [] [] [_,_] ⟨c624,c625,trivial⟩ ?_
       obtain rfl:=sj H
       exact lf [] [] [] (by kernel_rfl) ⟨rfl,rfl⟩
     ·replace H:=iF c624 H
      refine rG hP hn hm [(3,.b false)] [(2,bV false)] [2] [] [] [_] ⟨c624,trivial⟩ ?_
      obtain rfl:=sj H
      exact lf [] [] [] (by kernel_rfl) ⟨rfl,rfl⟩
    ·obtain⟨x626,rfl⟩:∃ z,z=o639:=⟨_,rfl⟩
     rintro e s ⟨rfl,rfl⟩
     refine AWp.conv (inv:=[]) (vk:=[]) (e0:=[]) (t:=⟨[(2,bV x626)],[],0⟩) (by kernel_rfl) ?_
     refine AWp.ret ?_
     obtain rfl:=sj H
     exact rl (.inl rfl) rfl (by kernel_rfl) (by kernel_rfl)
   ·replace H:=iF c621 H
    refine AWp.skip ?_
    refine sO hP hn hm [] [(2,bV false)] [2] [] [] ?_
    refine AWp.conv (inv:=[]) (vk:=[]) (e0:=[]) (t:=⟨[(2,bV false)],[],0⟩) (by kernel_rfl) ?_
    refine AWp.ret ?_
    obtain rfl:=sj H
    exact rl (.inl rfl) rfl (by kernel_rfl) (by kernel_rfl)
def Z2l.f (a0_c1:Int) (a1:Bool):Option ((List Int)×Int):=((if(a0_c1==(0:Int))=true then((chk ((([]:List Int).length+[0].length)*1≤140737488355328))>>=fun _=>some ([0],8)) else(some ([],a0_c1))):Option ((List Int)×Int))>>=fun oo=>match oo with | (x651,x652)=>(((if a1=true then((at? x651 (i64.wrap ((x651.length:Int)-(1:Int))))>>=fun b658=>(chk (0≤(u64.wrap (x652-(1:Int)))))>>=fun _=>some (x651.set (Int.toNat (i64.wrap ((x651.length:Int)-(1:Int)))) (u8.wrap (((BitVec.toNat (BitVec.ofInt 8 b658 ||| BitVec.ofInt 8 (u8.wrap ((1:Int)*2 ^ (min (Int.toNat (u64.wrap (x652-(1:Int)))) 8)))):Nat):Int))))) else(some x651)):Option (List Int))>>=fun x662=>some (x662,u64.wrap (x652-(1:Int))))
theorem Z2l.ok (a0_c1:Int) (a1:Bool) (r:(List Int)×Int) (H:Z2l.f a0_c1 a1=some r):Pv.Fn Tryz.prog 68 [.ptr 0 0 0,bV a1] [(0,some (.box 86 [.none0,iV .u64 a0_c1]))] 1 (fun x o=>x = .tup []∧o=[(0,some (.box 86 [.own 1,iV .u64 r.2])),(1,some (.row 1 5 (r.1.map (Z2 .u8))))]):=by
 unfold Z2l.f at H
 refine Fn.bodyK [0,1] Tryz.func68 rfl rfl (fun Γ hP hn => ?_)
 have hm:Tryz.prog.follows .mixedOrders=true:=by kernel_rfl
 replace hn:Γ.n=48:=hn
 refine AWp.seq ?_
 refine sO hP hn hm [] [(8,bV (a0_c1==(0:Int)))] [0,1,8] [] [0] ?_
 obtain⟨o663,e664,H⟩:=Z4 H
 refine AWp.mono (Q:=fun e s=>(match (generalizing:=false) o663 with | (x651,x652)=>e = .normal∧s=⟨[(0,.ptr 0 0 0),(1,bV a1)],[(0,some (.box 86 [.own 3,iV .u64 x652])),(3,some (.row 1 5 (x651.map (Z2 .u8))))],1⟩)) (AWp.cv ?_) ?_
 ·replace H:=e664;clear e664
  refine AWp.cond (a0_c1==(0:Int)) (by kernel_rfl) (fun c648 => ?_) (fun c648 => ?_)
  ·replace H:=iT c648 H
   obtain⟨c650,H⟩:=Z10 H
   refine sR hP hn hm [(5,.app 1 ([0].map (Z2 .u8))),(6,.app 2 ([0].map (Z2 .u8)))] [] [0,1] [(0,some (.box 86 [.own 2,iV .u64 a0_c1])),(2,some (.row 1 5 ([0].map (Z2 .u8))))] [0,2] [[0].map (Z2 .u8)=[[iI .u8 0]],[0].map (Z2 .u8)=([]:List (List Im))++([0].map (Z2 .u8)),∀ c∈([0].map (Z2 .u8)),c.length=1,∀ c∈([0].map (Z2 .u8)),Z16 (c.map .im)=true,(([]:List (List Im)).length+([0].map (Z2 .u8)).length)*1≤140737488355328] ⟨by exact rfl,by simp,by exact Z12 _ _ _ (fun _=>rfl),by exact Z14 _ _ (fun _=>rfl),by simpa using c650,trivial⟩ ?_
   refine rO hP hn hm [] [] [0,1] [(0,some (.box 86 [.own 2,iV .u64 8]))] [0,2] ?_
   obtain rfl:=sj H
   exact lf [(0,0),(2,3)] [] [] (by kernel_rfl) ⟨rfl,rfl⟩
  ·replace H:=iF c648 H
   refine AWp.skip ?_
   obtain rfl:=sj H
   exact lf [(0,0)] [] [3] (by kernel_rfl) ⟨rfl,rfl⟩
 ·obtain⟨x651,x652⟩:=o663
  rintro e s ⟨rfl,rfl⟩
  refine sO hP hn hm [] [] [0,1] [(0,some (.box 86 [.own 3,iV .u64 (u64.wrap (x652-(1:Int)))]))] [0,3] ?_
  refine sO hP hn hm [] [(28,bV a1)] [0,28] [] [0,3] ?_
  obtain⟨o665,e666,H⟩:=Z4 H
  refine AWp.mono (Q:=fun e s=>(match (generalizing:=false) o665 with | x662=>e = .normal∧s=⟨[],[(0,some (.box 86 [.own 4,iV .u64 (u64.wrap (x652-(1:Int)))])),(4,some (.row 1 5 (x662.map (Z2 .u8))))],1⟩)) (AWp.cv ?_) ?_
  ·replace H:=e666;clear e666
   refine AWp.cond a1 (by kernel_rfl) (fun c653 => ?_) (fun c653 => ?_)
   ·replace H:=iT c653 H
    obtain⟨b658,p659,q660,H⟩:=Z02 H
    obtain⟨c661,H⟩:=Z10 H
    refine rG hP hn hm [(8,.any (iV .i64 (x651.length:Int))),(11,.c ((Z2 .u8) b658)),(19,.put ((Z2 .u8) b658) ((x651.set (Int.toNat (i64.wrap ((x651.length:Int)-(1:Int)))) (u8.wrap (((BitVec.toNat (BitVec.ofInt 8 b658 ||| BitVec.ofInt 8 (u8.wrap ((1:Int)*2 ^ (min (Int.toNat (u64.wrap (x652-(1:Int)))) 8)))):Nat):Int)))).map (Z2 .u8)))] [] [] [(3,some (.row 1 5 ((x651.set (Int.toNat (i64.wrap ((x651.length:Int)-(1:Int)))) (u8.wrap (((BitVec.toNat (BitVec.ofInt 8 b658 ||| BitVec.ofInt 8 (u8.wrap ((1:Int)*2 ^ (min (Int.toNat (u64.wrap (x652-(1:Int)))) 8)))):Nat):Int)))).map (Z2 .u8))))] [0,3] [((x651.map (Z2 .u8)).length:Int)=(x651.length:Int),_,_,_,_,_,_,_,(x651.set (Int.toNat (i64.wrap ((x651.length:Int)-(1:Int)))) (u8.wrap (((BitVec.toNat (BitVec.ofInt 8 b658 ||| BitVec.ofInt 8 (u8.wrap ((1:Int)*2 ^ (min (Int.toNat (u64.wrap (x652-(1:Int)))) 8)))):Nat):Int)))).map (Z2 .u8)=(x651.map (Z2 .u8)).set (Int.toNat (i64.wrap ((x651.length:Int)-(1:Int)))) (Z0t ((Z2 .u8) b658) 0 [iI .u8 (u8.wrap (((BitVec.toNat (BitVec.ofInt 8 b658 ||| BitVec.ofInt 8 (u8.wrap ((1:Int)*2 ^ (min (Int.toNat (u64.wrap (x652-(1:Int)))) 8)))):Nat):Int)))])] ⟨by rw[Zr],p659,Z09 (Z2 .u8) p659 q660,Zi (Z2 .u8) q660,c661,p659,Z09 (Z2 .u8) p659 q660,Zi (Z2 .u8) q660,by exact set1 _ _ _ _,trivial⟩ ?_
    obtain rfl:=sj H
    exact lf [(0,0),(3,4)] [] [] (by kernel_rfl) ⟨rfl,rfl⟩
   ·replace H:=iF c653 H
    refine AWp.skip ?_
    obtain rfl:=sj H
    exact lf [(0,0),(3,4)] [] [] (by kernel_rfl) ⟨rfl,rfl⟩
  ·obtain⟨x662,rfl⟩:∃ z,z=o665:=⟨_,rfl⟩
   rintro e s ⟨rfl,rfl⟩
   obtain rfl:=sj H
   exact Exists.intro ⟨[],[(0,some (.box 86 [.own 1,iV .u64 (u64.wrap (x652-(1:Int)))])),(1,some (.row 1 5 (x662.map (Z2 .u8))))],1⟩ (And.intro (fun _ _ h=>h.conv (inv:=[(0,0),(4,1)]) (vk:=[]) (e0:=[]) (t:=⟨[],[(0,some (.box 86 [.own 1,iV .u64 (u64.wrap (x652-(1:Int)))])),(1,some (.row 1 5 (x662.map (Z2 .u8))))],1⟩) (by kernel_rfl)) (And.intro (.inr rfl) (And.intro rfl (And.intro (by kernel_rfl) (by kernel_rfl)))))
def Z0x.f (a0_c0:List Int) (a0_c1:Int) (a1:Bool):Option ((List Int)×Int):=((if(a0_c1==(0:Int))=true then((chk ((a0_c0.length+[0].length)*1≤140737488355328))>>=fun _=>some (a0_c0++[0],8)) else(some (a0_c0,a0_c1))):Option ((List Int)×Int))>>=fun oo=>match oo with | (x680,x681)=>(((if a1=true then((at? x680 (i64.wrap ((x680.length:Int)-(1:Int))))>>=fun b687=>(chk (0≤(u64.wrap (x681-(1:Int)))))>>=fun _=>some (x680.set (Int.toNat (i64.wrap ((x680.length:Int)-(1:Int)))) (u8.wrap (((BitVec.toNat (BitVec.ofInt 8 b687 ||| BitVec.ofInt 8 (u8.wrap ((1:Int)*2 ^ (min (Int.toNat (u64.wrap (x681-(1:Int)))) 8)))):Nat):Int))))) else(some x680)):Option (List Int))>>=fun x691=>some (x691,u64.wrap (x681-(1:Int))))
theorem Z0x.ok (a0_c0:List Int) (a0_c1:Int) (a1:Bool) (r:(List Int)×Int) (H:Z0x.f a0_c0 a0_c1 a1=some r):Pv.Fn Tryz.prog 68 [.ptr 0 0 0,bV a1] [(0,some (.box 86 [.own 1,iV .u64 a0_c1])),(1,some (.row 1 5 (a0_c0.map (Z2 .u8))))] 2 (fun x o=>x = .tup []∧o=[(0,some (.box 86 [.own 2,iV .u64 r.2])),(1,none),(2,some (.row 1 5 (r.1.map (Z2 .u8))))]):=by
 unfold Z0x.f at H
 refine Fn.bodyK [0,1,2] Tryz.func68 rfl rfl (fun Γ hP hn => ?_)
 have hm:Tryz.prog.follows .mixedOrders=true:=by kernel_rfl
 replace hn:Γ.n=48:=hn
 refine AWp.seq ?_
 refine sO hP hn hm [] [(8,bV (a0_c1==(0:Int)))] [0,1,8] [] [0,1] ?_
 obtain⟨o692,e693,H⟩:=Z4 H
 refine AWp.mono (Q:=fun e s=>(match (generalizing:=false) o692 with | (x680,x681)=>e = .normal∧s=⟨[(0,.ptr 0 0 0),(1,bV a1)],[(0,some (.box 86 [.own 4,iV .u64 x681])),(4,some (.row 1 5 (x680.map (Z2 .u8))))],2⟩)) (AWp.cv ?_) ?_
 ·replace H:=e693;clear e693
  refine AWp.cond (a0_c1==(0:Int)) (by kernel_rfl) (fun c677 => ?_) (fun c677 => ?_)
  ·replace H:=iT c677 H
   obtain⟨c679,H⟩:=Z10 H
   refine sR hP hn hm [(5,.app 2 ([0].map (Z2 .u8))),(6,.app 3 ((a0_c0++[0]).map (Z2 .u8)))] [] [0,1] [(0,some (.box 86 [.own 3,iV .u64 a0_c1])),(3,some (.row 1 5 ((a0_c0++[0]).map (Z2 .u8))))] [0,3] [[0].map (Z2 .u8)=[[iI .u8 0]],(a0_c0++[0]).map (Z2 .u8)=(a0_c0.map (Z2 .u8))++([0].map (Z2 .u8)),∀ c∈([0].map (Z2 .u8)),c.length=1,∀ c∈([0].map (Z2 .u8)),Z16 (c.map .im)=true,((a0_c0.map (Z2 .u8)).length+([0].map (Z2 .u8)).length)*1≤140737488355328] ⟨by exact rfl,by simp,by exact Z12 _ _ _ (fun _=>rfl),by exact Z14 _ _ (fun _=>rfl),by simpa using c679,trivial⟩ ?_
   refine rO hP hn hm [] [] [0,1] [(0,some (.box 86 [.own 3,iV .u64 8]))] [0,3] ?_
   obtain rfl:=sj H
   exact lf [(0,0),(3,4)] [] [] (by kernel_rfl) ⟨rfl,rfl⟩
  ·replace H:=iF c677 H
   refine AWp.skip ?_
   obtain rfl:=sj H
   exact lf [(0,0),(1,4)] [] [] (by kernel_rfl) ⟨rfl,rfl⟩
 ·obtain⟨x680,x681⟩:=o692
  rintro e s ⟨rfl,rfl⟩
  refine sO hP hn hm [] [] [0,1] [(0,some (.box 86 [.own 4,iV .u64 (u64.wrap (x681-(1:Int)))]))] [0,4] ?_
  refine sO hP hn hm [] [(28,bV a1)] [0,28] [] [0,4] ?_
  obtain⟨o694,e695,H⟩:=Z4 H
  refine AWp.mono (Q:=fun e s=>(match (generalizing:=false) o694 with | x691=>e = .normal∧s=⟨[],[(0,some (.box 86 [.own 5,iV .u64 (u64.wrap (x681-(1:Int)))])),(5,some (.row 1 5 (x691.map (Z2 .u8))))],2⟩)) (AWp.cv ?_) ?_
  ·replace H:=e695;clear e695
   refine AWp.cond a1 (by kernel_rfl) (fun c682 => ?_) (fun c682 => ?_)
   ·replace H:=iT c682 H
    obtain⟨b687,p688,q689,H⟩:=Z02 H
    obtain⟨c690,H⟩:=Z10 H
    refine rG hP hn hm [(8,.any (iV .i64 (x680.length:Int))),(11,.c ((Z2 .u8) b687)),(19,.put ((Z2 .u8) b687) ((x680.set (Int.toNat (i64.wrap ((x680.length:Int)-(1:Int)))) (u8.wrap (((BitVec.toNat (BitVec.ofInt 8 b687 ||| BitVec.ofInt 8 (u8.wrap ((1:Int)*2 ^ (min (Int.toNat (u64.wrap (x681-(1:Int)))) 8)))):Nat):Int)))).map (Z2 .u8)))] [] [] [(4,some (.row 1 5 ((x680.set (Int.toNat (i64.wrap ((x680.length:Int)-(1:Int)))) (u8.wrap (((BitVec.toNat (BitVec.ofInt 8 b687 ||| BitVec.ofInt 8 (u8.wrap ((1:Int)*2 ^ (min (Int.toNat (u64.wrap (x681-(1:Int)))) 8)))):Nat):Int)))).map (Z2 .u8))))] [0,4] [((x680.map (Z2 .u8)).length:Int)=(x680.length:Int),_,_,_,_,_,_,_,(x680.set (Int.toNat (i64.wrap ((x680.length:Int)-(1:Int)))) (u8.wrap (((BitVec.toNat (BitVec.ofInt 8 b687 ||| BitVec.ofInt 8 (u8.wrap ((1:Int)*2 ^ (min (Int.toNat (u64.wrap (x681-(1:Int)))) 8)))):Nat):Int)))).map (Z2 .u8)=(x680.map (Z2 .u8)).set (Int.toNat (i64.wrap ((x680.length:Int)-(1:Int)))) (Z0t ((Z2 .u8) b687) 0 [iI .u8 (u8.wrap (((BitVec.toNat (BitVec.ofInt 8 b687 ||| BitVec.ofInt 8 (u8.wrap ((1:Int)*2 ^ (min (Int.toNat (u64.wrap (x681-(1:Int)))) 8)))):Nat):Int)))])] ⟨by rw[Zr],p688,Z09 (Z2 .u8) p688 q689,Zi (Z2 .u8) q689,c690,p688,Z09 (Z2 .u8) p688 q689,Zi (Z2 .u8) q689,by exact set1 _ _ _ _,trivial⟩ ?_
    obtain rfl:=sj H
    exact lf [(0,0),(4,5)] [] [] (by kernel_rfl) ⟨rfl,rfl⟩
   ·replace H:=iF c682 H
    refine AWp.skip ?_
    obtain rfl:=sj H
    exact lf [(0,0),(4,5)] [] [] (by kernel_rfl) ⟨rfl,rfl⟩
  ·obtain⟨x691,rfl⟩:∃ z,z=o694:=⟨_,rfl⟩
   rintro e s ⟨rfl,rfl⟩
   obtain rfl:=sj H
   exact Exists.intro ⟨[],[(0,some (.box 86 [.own 2,iV .u64 (u64.wrap (x681-(1:Int)))])),(2,some (.row 1 5 (x691.map (Z2 .u8))))],2⟩ (And.intro (fun _ _ h=>h.conv (inv:=[(0,0),(5,2)]) (vk:=[]) (e0:=[]) (t:=⟨[],[(0,some (.box 86 [.own 2,iV .u64 (u64.wrap (x681-(1:Int)))])),(2,some (.row 1 5 (x691.map (Z2 .u8))))],2⟩) (by kernel_rfl)) (And.intro (.inr rfl) (And.intro rfl (And.intro (by kernel_rfl) (by kernel_rfl)))))
def Z1a.l0 (a1:Int) (x672:List Int) (x673:Int) (x674:Int):Option ((List Int)×Int):=if(decide (x674≥(0:Int)))=true then((chk (0≤(u64.wrap (x674))))>>=fun _=>(Z0x.f x672 x673 ((u64.wrap (((BitVec.toNat (BitVec.ofInt 64 (Int.fdiv a1 (2 ^ (min (Int.toNat (u64.wrap (x674))) 64))) &&& BitVec.ofInt 64 (1:Int)):Nat):Int)))==(1:Int)))>>=fun t699=>Z1a.l0 a1 t699.1 t699.2 (i64.wrap (x674-(1:Int)))) else(some (x672,x673))
partial_fixpoint
def Z1a.f (a0_c1:Int) (a1:Int) (a2:Int):Option ((List Int)×Int):=(Z1a.l0 a1 [] a0_c1 (i64.wrap ((if(if(64:Int)<a2 then(64:Int) else a2)>(0:Int) then(if(64:Int)<a2 then(64:Int) else a2) else(0:Int))-(1:Int))))>>=fun oo=>match oo with | (x701,x702)=>(some (x701,x702))
theorem Z1a.ok (a0_c1:Int) (a1:Int) (a2:Int) (r:(List Int)×Int) (H:Z1a.f a0_c1 a1 a2=some r):Pv.Fn Tryz.prog 32 [.ptr 0 0 0,iV .u64 a1,iV .i64 a2] [(0,some (.box 86 [.none0,iV .u64 a0_c1]))] 1 (fun x o=>x = .tup []∧o=[(0,some (.box 86 [.own 1,iV .u64 r.2])),(1,some (.row 1 5 (r.1.map (Z2 .u8))))]):=by
 unfold Z1a.f at H
 refine Fn.bodyK [0,1] Tryz.func32 rfl rfl (fun Γ hP hn => ?_)
 have hm:Tryz.prog.follows .mixedOrders=true:=by kernel_rfl
 replace hn:Γ.n=23:=hn
 refine sO hP hn hm [(1,.more xMin),(2,.more xMax)] [(6,iV .i64 (i64.wrap ((if(if(64:Int)<a2 then(64:Int) else a2)>(0:Int) then(if(64:Int)<a2 then(64:Int) else a2) else(0:Int))-(1:Int))))] [0,1,6] [] [0] ?_
 refine AWp.block ?_
 obtain⟨o703,e704,H⟩:=Z4 H
 refine AWp.loop (LWp.conv (inv:=[(0,0)]) (vk:=[]) (e0:=[2]) (t:=⟨[(0,.ptr 0 0 0),(1,iV .u64 a1),(6,iV .i64 (i64.wrap ((if(if(64:Int)<a2 then(64:Int) else a2)>(0:Int) then(if(64:Int)<a2 then(64:Int) else a2) else(0:Int))-(1:Int))))],[(0,some (.box 86 [.own 2,iV .u64 a0_c1])),(2,some (.row 1 5 ([].map (Z2 .u8))))],1⟩) (by kernel_rfl) ?_)
 refine LWp.mono (Q:=fun e s=>(match (generalizing:=false) o703 with | (x701,x702)=>e = .exit 0∧s=⟨[],[(0,some (.box 86 [.own 4,iV .u64 x702])),(4,some (.row 1 5 (x701.map (Z2 .u8))))],1⟩)) (LWp.cv (Zs (fun body hbody => ?_))) ?_
 ·refine                   Z1a.l0.partial_correctness a1 (motive:=fun x672 x673 x674 o703=>LWp Γ body (fun e s=>∃ t,Cv Γ s t∧(match (generalizing:=false) o703 with | (x701,x702)=>e = .exit 0∧t=⟨[],[(0,some (.box 86 [.own 4,iV .u64 x702])),(4,some (.row 1 5 (x701.map (Z2     .u8))))],1⟩)) ⟨[(0,.ptr 0 0 0),(1,iV .u64 a1),(6,iV .i64 x674)],[(0,some (.box 86 [.own 2,iV .u64 x673])),(2,some (.row 1 5 (x672.map (Z2     .u8))))],1⟩) ?_ _ _ _ _ e704
  clear H e704 o703;intro self ih x672 x673 x674 o703 H
  subst hbody
  refine LWp.round ?_
  refine AWp.seq ?_
  refine sO hP hn hm [] [(12,bV (decide (x674≥(0:Int))))] [0,1,6,12] [] [0,2] ?_
  refine AWp.cond (decide (x674≥(0:Int))) (by kernel_rfl) (fun c675 => ?_) (fun c675 => ?_)
  ·replace H:=iT c675 H
   refine AWp.skip ?_
   refine AWp.seq ?_
   refine AWp.block ?_
   obtain⟨c698,H⟩:=Z10 H
   obtain⟨t699,e700,H⟩:=Z4 H
   refine rG hP hn hm [(7,.call [(0,0),(2,1)] [(0,0),(2,3)] [] [3] 2 (.tup []) [(0,some (.box 86 [.own 2,iV .u64 t699.2])),(1,none),(2,some (.row 1 5 (t699.1.map (Z2 .u8))))])] [] [0,1,6] [(0,some (.box 86 [.own 3,iV .u64 t699.2])),(3,some (.row 1 5 (t699.1.map (Z2 .u8))))] [0,3] [_,_,_] ⟨c698,Tryz.call68,Z0x.ok x672 x673 ((u64.wrap (((BitVec.toNat (BitVec.ofInt 64 (Int.fdiv a1 (2 ^ (min (Int.toNat (u64.wrap (x674))) 64))) &&& BitVec.ofInt 64 (1:Int)):Nat):Int)))==(1:Int)) t699 e700,trivial⟩ ?_
   refine rO hP hn hm [] [(6,iV .i64 (i64.wrap (x674-(1:Int))))] [0,1,6] [] [0,3] ?_
   exact LWp.conv [(0,0),(3,2)] [] [] (by kernel_rfl) (ih _ _ _ _ H)
  ·replace H:=iF c675 H
   refine AWp.exit ?_
   obtain rfl:=sj H
   exact lf [(0,0),(2,4)] [] [] (by kernel_rfl) ⟨rfl,rfl⟩
 ·obtain⟨x701,x702⟩:=o703
  rintro e s ⟨rfl,rfl⟩
  obtain rfl:=sj H
  exact Exists.intro ⟨[],[(0,some (.box 86 [.own 1,iV .u64 x702])),(1,some (.row 1 5 (x701.map (Z2 .u8))))],1⟩ (And.intro (fun _ _ h=>h.conv (inv:=[(0,0),(4,1)]) (vk:=[]) (e0:=[]) (t:=⟨[],[(0,some (.box 86 [.own 1,iV .u64 x702])),(1,some (.row 1 5 (x701.map (Z2 .u8))))],1⟩) (by kernel_rfl)) (And.intro (.inr rfl) (And.intro rfl (And.intro (by kernel_rfl) (by kernel_rfl)))))
def Z3i.f  : Option (List Int):=some [0,3,7,12,20,32,64]
theorem Z3i.ok  (r:List Int) (H:Z3i.f  = some r):Pv.Fn Tryz.prog 69 [] [] 0 (fun x o=>x = .own 0∧o=[(0,some (.row 1 3 (r.map (Z2 .i64))))]):=by
 unfold Z3i.f at H
 refine Fn.bodyK [0] Tryz.func69 rfl rfl (fun Γ hP hn => ?_)
 have hm:Tryz.prog.follows .mixedOrders=true:=by kernel_rfl
 replace hn:Γ.n=2:=hn
 refine sO hP hn hm [] [] [] [] [] ?_
 refine sR hP hn hm [(0,.app 0 ([0,3,7,12,20,32,64].map (Z2 .i64)))] [(0,.own 0)] [0] [(0,some (.row 1 3 ([0,3,7,12,20,32,64].map (Z2 .i64))))] [0] [[0,3,7,12,20,32,64].map (Z2 .i64)=[[iI .i64 0],[iI .i64 3],[iI .i64 7],[iI .i64 12],[iI .i64 20],[iI .i64 32],[iI .i64 64]]] ⟨by exact rfl,trivial⟩ ?_
 refine AWp.conv (inv:=[(0,0)]) (vk:=[]) (e0:=[]) (t:=⟨[(0,.own 0)],[(0,some (.row 1 3 ([0,3,7,12,20,32,64].map (Z2 .i64))))],0⟩) (by kernel_rfl) ?_
 refine AWp.ret ?_
 obtain rfl:=sj H
 exact rl (.inl rfl) rfl (by kernel_rfl) (by kernel_rfl)
def Z36.l0 (x715:Int) (x716:Int):Option (Int):=if(decide (x715>(0:Int)))=true then(Z36.l0  (Int.fdiv x715 2) (i64.wrap (x716+(1:Int)))) else(some x716)
partial_fixpoint
def Z36.f (a0:Int):Option (Int):=(Z36.l0  a0 0)>>=fun x718=>some x718
theorem Z36.ok (a0:Int) (r:Int) (H:Z36.f a0=some r):Pv.Fn Tryz.prog 71 [iV .u64 a0] [] 0 (fun x o=>x=iV .i64 r∧o=[]):=by
 unfold Z36.f at H
 refine Fn.bodyK [] Tryz.func71 rfl rfl (fun Γ hP hn => ?_)
 have hm:Tryz.prog.follows .mixedOrders=true:=by kernel_rfl
 replace hn:Γ.n=11:=hn
 refine sO hP hn hm [] [] [0] [] [] ?_
 refine sO hP hn hm [] [(3,iV .i64 0)] [0,3] [] [] ?_
 refine AWp.seq ?_
 refine AWp.block ?_
 obtain⟨o719,e720,H⟩:=Z4 H
 refine AWp.loop (LWp.conv (inv:=[]) (vk:=[]) (e0:=[]) (t:=⟨[(0,iV .u64 a0),(3,iV .i64 0)],[],0⟩) (by kernel_rfl) ?_)
 refine LWp.mono (Q:=fun e s=>(match (generalizing:=false) o719 with | x718=>e = .exit 0∧s=⟨[(3,iV .i64 x718)],[],0⟩)) (LWp.cv (Zs (fun body hbody => ?_))) ?_
 ·refine         Z36.l0.partial_correctness  (motive:=fun x715 x716 o719=>LWp Γ body (fun e s=>∃ t,Cv Γ s t∧(match (generalizing:=false) o719 with | x718=>e = .exit 0∧t=⟨[(3,iV .i64 x718)],[],0⟩)) ⟨[(0,iV .u64 x715),(3,iV .i64 x716)],[],0⟩) ?_ _ _ _ e720
  clear H e720 o719;intro self ih x715 x716 o719 H
  subst hbody
  refine LWp.round ?_
  refine AWp.seq ?_
  refine sO hP hn hm [] [(5,bV (decide (x715>(0:Int))))] [0,3,5] [] [] ?_
  refine AWp.cond (decide (x715>(0:Int))) (by kernel_rfl) (fun c717 => ?_) (fun c717 => ?_)
  ·replace H:=iT c717 H
   refine AWp.skip ?_
   refine AWp.seq ?_
   refine AWp.block ?_
   refine rO hP hn hm [] [(3,iV .i64 (i64.wrap (x716+(1:Int))))] [0,3] [] [] ?_
   refine rG hP hn hm [] [(0,iV .u64 (Int.fdiv x715 2))] [0,3] [] [] [(0:Int)≤1] ⟨by decide,trivial⟩ ?_
   exact LWp.conv [] [] [] (by kernel_rfl) (ih _ _ _ H)
  ·replace H:=iF c717 H
   refine AWp.exit ?_
   obtain rfl:=sj H
   exact lf [] [] [] (by kernel_rfl) ⟨rfl,rfl⟩
 ·obtain⟨x718,rfl⟩:∃ z,z=o719:=⟨_,rfl⟩
  rintro e s ⟨rfl,rfl⟩
  refine sO hP hn hm [] [(2,iV .i64 x718)] [2] [] [] ?_
  refine AWp.conv (inv:=[]) (vk:=[]) (e0:=[]) (t:=⟨[(2,iV .i64 x718)],[],0⟩) (by kernel_rfl) ?_
  refine AWp.ret ?_
  obtain rfl:=sj H
  exact rl (.inl rfl) rfl (by kernel_rfl) (by kernel_rfl)
def Z19.f (a0:Int):Option (Unit):=some ()
theorem Z19.ok (a0:Int) (r:Unit) (H:Z19.f a0=some r):Pv.Fn Tryz.prog 130 [iV .i64 a0] [] 0 (fun x o=>x=bV (a0 != a0)∧o=[]):=by
 unfold Z19.f at H
 refine Fn.bodyK [] Tryz.func130 rfl rfl (fun Γ hP hn => ?_)
 have hm:Tryz.prog.follows .mixedOrders=true:=by kernel_rfl
 replace hn:Γ.n=6:=hn
 refine sO hP hn hm [] [] [0] [] [] ?_
 refine sO hP hn hm [] [(2,bV (a0 != a0))] [2] [] [] ?_
 refine AWp.conv (inv:=[]) (vk:=[]) (e0:=[]) (t:=⟨[(2,bV (a0 != a0))],[],0⟩) (by kernel_rfl) ?_
 refine AWp.ret ?_
 obtain rfl:=sj H
 exact rl (.inl rfl) rfl (by kernel_rfl) (by kernel_rfl)
def Z42.f (a0:Int) (a1:Int):Option (Bool):=(((Z19.f a0)>>=fun t733=>if(a0 != a0)=true then((Z19.f a1)>>=fun t736=>if(!(a1 != a1))=true then(some true) else(some (decide (a0<a1)))) else(some (decide (a0<a1)))):Option (Bool))>>=fun x739=>some x739
theorem Z42.ok (a0:Int) (a1:Int) (r:Bool) (H:Z42.f a0 a1=some r):Pv.Fn Tryz.prog 102 [iV .i64 a0,iV .i64 a1] [] 0 (fun x o=>x=bV r∧o=[]):=by
 unfold Z42.f at H
 refine Fn.bodyK [] Tryz.func102 rfl rfl (fun Γ hP hn => ?_)
 have hm:Tryz.prog.follows .mixedOrders=true:=by kernel_rfl
 replace hn:Γ.n=17:=hn
 refine sO hP hn hm [] [] [0,1] [] [] ?_
 refine AWp.seq ?_
 obtain⟨o740,e741,H⟩:=Z4 H
 refine AWp.mono (Q:=fun e s=>(match (generalizing:=false) o740 with | x739=>e = .normal∧s=⟨[(4,bV x739)],[],0⟩)) (AWp.cv ?_) ?_
 ·replace H:=e741;clear e741
  obtain⟨t733,e734,H⟩:=Z4 H
  rcases Bool.eq_false_or_eq_true (a0 != a0) with c735 | c735
  ·replace H:=iT c735 H
   obtain⟨t736,e737,H⟩:=Z4 H
   rcases Bool.eq_false_or_eq_true (!(a1 != a1)) with c738 | c738
   ·replace H:=iT c738 H
    refine rG hP hn hm [(1,.call [] [] [] [] 0 (bV (a0 != a0)) []),(2,.b true),(4,.call [] [] [] [] 0 (bV (a1 != a1)) []),(7,.b true)] [(4,bV true)] [4] [] [] [_,_,_,_,_,_] ⟨Tryz.call130,Z19.ok a0 t733 e734,c735,Tryz.call130,Z19.ok a1 t736 e737,c738,trivial⟩ ?_
    obtain rfl:=sj H
    exact lf [] [] [] (by kernel_rfl) ⟨rfl,rfl⟩
   ·replace H:=iF c738 H
    refine rG hP hn hm [(1,.call [] [] [] [] 0 (bV (a0 != a0)) []),(2,.b true),(4,.call [] [] [] [] 0 (bV (a1 != a1)) []),(7,.b false)] [(4,bV (decide (a0<a1)))] [4] [] [] [_,_,_,_,_,_] ⟨Tryz.call130,Z19.ok a0 t733 e734,c735,Tryz.call130,Z19.ok a1 t736 e737,c738,trivial⟩ ?_
    obtain rfl:=sj H
    exact lf [] [] [] (by kernel_rfl) ⟨rfl,rfl⟩
  ·replace H:=iF c735 H
   refine rG hP hn hm [(1,.call [] [] [] [] 0 (bV (a0 != a0)) []),(2,.b false)] [(4,bV (decide (a0<a1)))] [4] [] [] [_,_,_] ⟨Tryz.call130,Z19.ok a0 t733 e734,c735,trivial⟩ ?_
   obtain rfl:=sj H
   exact lf [] [] [] (by kernel_rfl) ⟨rfl,rfl⟩
 ·obtain⟨x739,rfl⟩:∃ z,z=o740:=⟨_,rfl⟩
  rintro e s ⟨rfl,rfl⟩
  refine AWp.conv (inv:=[]) (vk:=[]) (e0:=[]) (t:=⟨[(4,bV x739)],[],0⟩) (by kernel_rfl) ?_
  refine AWp.ret ?_
  obtain rfl:=sj H
  exact rl (.inl rfl) rfl (by kernel_rfl) (by kernel_rfl)
def Z1z.f (a0:Int):Option (Unit):=some ()
theorem Z1z.ok (a0:Int) (r:Unit) (H:Z1z.f a0=some r):Pv.Fn Tryz.prog 103 [iV .i64 a0] [] 0 (fun x o=>x=bV (a0 != a0)∧o=[]):=by
 unfold Z1z.f at H
 refine Fn.bodyK [] Tryz.func103 rfl rfl (fun Γ hP hn => ?_)
 have hm:Tryz.prog.follows .mixedOrders=true:=by kernel_rfl
 replace hn:Γ.n=6:=hn
 refine sO hP hn hm [] [] [0] [] [] ?_
 refine sO hP hn hm [] [(2,bV (a0 != a0))] [2] [] [] ?_
 refine AWp.conv (inv:=[]) (vk:=[]) (e0:=[]) (t:=⟨[(2,bV (a0 != a0))],[],0⟩) (by kernel_rfl) ?_
 refine AWp.ret ?_
 obtain rfl:=sj H
 exact rl (.inl rfl) rfl (by kernel_rfl) (by kernel_rfl)
def Z0v.l0 (a0:List Int) (a1:Int) (x752:Int) (x753:Int):Option (Int):=if(decide (x752<x753))=true then((at? a0 (i64.wrap (Int.fdiv (u64.wrap (i64.wrap (x752+x753))) 2)))>>=fun b760=>(Z42.f b760 a1)>>=fun t763=>((if t763=true then(some (i64.wrap ((i64.wrap (Int.fdiv (u64.wrap (i64.wrap (x752+x753))) 2))+(1:Int)),x753)) else(some (x752,i64.wrap (Int.fdiv (u64.wrap (i64.wrap (x752+x753))) 2)))):Option (Int×Int))>>=fun oo=>match oo with | (x766,x767)=>(Z0v.l0 a0 a1 x766 x767)) else(some x752)
partial_fixpoint
def Z0v.f (a0:List Int) (a1:Int):Option (Int×Bool):=(Z0v.l0 a0 a1 0 (a0.length:Int))>>=fun x768=>((if(decide (x768<(a0.length:Int)))=true then((at? a0 x768)>>=fun b780=>if(b780==a1)=true then(some true) else((Z1z.f b780)>>=fun t784=>if(b780 != b780)=true then((Z1z.f a1)>>=fun t787=>some (a1 != a1)) else(some false))) else(some false)):Option (Bool))>>=fun x789=>some (x768,x789)
theorem Z0v.ok (a0:List Int) (a1:Int) (r:Int×Bool) (H:Z0v.f a0 a1=some r):Pv.Fn Tryz.prog 70 [.im (.row (a0.map (Z2 .i64))),iV .i64 a1] [] 0 (fun x o=>x = .tup [iV .i64 r.1,bV r.2]∧o=[]):=by
 unfold Z0v.f at H
 refine Fn.bodyK [] Tryz.func70 rfl rfl (fun Γ hP hn => ?_)
 have hm:Tryz.prog.follows .mixedOrders=true:=by kernel_rfl
 replace hn:Γ.n=54:=hn
 refine sO hP hn hm [] [] [0,1] [] [] ?_
 refine sR hP hn hm [(1,.any (iV .i64 (a0.length:Int)))] [(6,iV .i64 (a0.length:Int))] [0,1,6] [] [] [((a0.map (Z2 .i64)).length:Int)=(a0.length:Int)] ⟨by rw[Zr],trivial⟩ ?_
 refine sO hP hn hm [] [(7,iV .i64 0),(8,iV .i64 (a0.length:Int))] [0,1,6,7,8] [] [] ?_
 refine AWp.seq ?_
 refine AWp.block ?_
 obtain⟨o790,e791,H⟩:=Z4 H
 refine AWp.loop (LWp.conv (inv:=[]) (vk:=[]) (e0:=[]) (t:=⟨[(0,.im (.row (a0.map (Z2 .i64)))),(1,iV .i64 a1),(6,iV .i64 (a0.length:Int)),(7,iV .i64 0),(8,iV .i64 (a0.length:Int))],[],0⟩) (by kernel_rfl) ?_)
 refine LWp.mono (Q:=fun e s=>(match (generalizing:=false) o790 with | x768=>e = .exit 0∧s=⟨[(0,.im (.row (a0.map (Z2 .i64)))),(1,iV .i64 a1),(6,iV .i64 (a0.length:Int)),(7,iV .i64 x768)],[],0⟩)) (LWp.cv (Zs (fun body hbody => ?_))) ?_
 ·refine                       Z0v.l0.partial_correctness a0 a1 (motive:=fun x752 x753 o790=>LWp Γ body (fun e s=>∃ t,Cv Γ s t∧(match (generalizing:=false) o790 with | x768=>e = .exit 0∧t=⟨[(0,.im (.row (a0.map (Z2     .i64)))),(1,iV .i64 a1),(6,iV .i64 (a0.length:Int)),(7,iV .i64 x768)],[],0⟩)) ⟨[(0,.im (.row (a0.map (Z2     .i64)))),(1,iV .i64 a1),(6,iV .i64 (a0.length:Int)),(7,iV .i64 x752),(8,iV .i64 x753)],[],0⟩) ?_ _ _ _ e791
  clear H e791 o790;intro self ih x752 x753 o790 H
  subst hbody
  refine LWp.round ?_
  refine AWp.seq ?_
  refine sO hP hn hm [] [(15,bV (decide (x752<x753)))] [0,1,6,7,8,15] [] [] ?_
  refine AWp.cond (decide (x752<x753)) (by kernel_rfl) (fun c754 => ?_) (fun c754 => ?_)
  ·replace H:=iT c754 H
   refine AWp.skip ?_
   refine AWp.block ?_
   refine sR hP hn hm [] [(9,iV .i64 (i64.wrap (Int.fdiv (u64.wrap (i64.wrap (x752+x753))) 2)))] [0,1,6,7,8,9] [] [] [(0:Int)≤1] ⟨by decide,trivial⟩ ?_
   obtain⟨b760,p761,q762,H⟩:=Z02 H
   obtain⟨t763,e764,H⟩:=Z4 H
   refine sR hP hn hm [(2,.c ((Z2 .i64) b760)),(5,.call [] [] [] [] 0 (bV t763) [])] [(27,bV t763)] [0,1,6,7,8,9,27] [] [] [_,_,_,_] ⟨p761,Zi (Z2 .i64) q762,Tryz.call102,Z42.ok b760 a1 t763 e764,trivial⟩ ?_
   obtain⟨o792,e793,H⟩:=Z4 H
   refine AWp.mono (Q:=fun e s=>(match (generalizing:=false) o792 with | (x766,x767)=>e = .normal∧s=⟨[(0,.im (.row (a0.map (Z2 .i64)))),(1,iV .i64 a1),(6,iV .i64 (a0.length:Int)),(7,iV .i64 x766),(8,iV .i64 x767)],[],0⟩)) (AWp.cv ?_) ?_
   ·replace H:=e793;clear e793
    refine AWp.cond t763 (by kernel_rfl) (fun c765 => ?_) (fun c765 => ?_)
    ·replace H:=iT c765 H
     refine rO hP hn hm [] [(7,iV .i64 (i64.wrap ((i64.wrap (Int.fdiv (u64.wrap (i64.wrap (x752+x753))) 2))+(1:Int))))] [0,1,6,7,8] [] [] ?_
     obtain rfl:=sj H
     exact lf [] [] [] (by kernel_rfl) ⟨rfl,rfl⟩
    ·replace H:=iF c765 H
     refine rO hP hn hm [] [(8,iV .i64 (i64.wrap (Int.fdiv (u64.wrap (i64.wrap (x752+x753))) 2)))] [0,1,6,7,8] [] [] ?_
     obtain rfl:=sj H
     exact lf [] [] [] (by kernel_rfl) ⟨rfl,rfl⟩
   ·obtain⟨x766,x767⟩:=o792
    rintro e s ⟨rfl,rfl⟩
    exact LWp.conv [] [] [] (by kernel_rfl) (ih _ _ _ H)
  ·replace H:=iF c754 H
   refine AWp.exit ?_
   obtain rfl:=sj H
   exact lf [] [] [] (by kernel_rfl) ⟨rfl,rfl⟩
 ·obtain⟨x768,rfl⟩:∃ z,z=o790:=⟨_,rfl⟩
  rintro e s ⟨rfl,rfl⟩
  refine AWp.seq ?_
  obtain⟨o794,e795,H⟩:=Z4 H
  refine AWp.mono (Q:=fun e s=>(match (generalizing:=false) o794 with | x789=>e = .normal∧s=⟨[(4,iV .i64 x768),(5,bV x789)],[],0⟩)) (AWp.cv ?_) ?_
  ·replace H:=e795;clear e795
   rcases Bool.eq_false_or_eq_true (decide (x768<(a0.length:Int))) with c779 | c779
   ·replace H:=iT c779 H
    obtain⟨b780,p781,q782,H⟩:=Z02 H
    rcases Bool.eq_false_or_eq_true (b780==a1) with c783 | c783
    ·replace H:=iT c783 H
     refine rG hP hn hm [(4,.b true),(7,.c ((Z2 .i64) b780)),(11,.b true)] [(4,iV .i64 x768),(5,bV true)] [4,5] [] [] [_,_,_,_] ⟨c779,p781,Zi (Z2 .i64) q782,c783,trivial⟩ ?_
     obtain rfl:=sj H
     exact lf [] [] [] (by kernel_rfl) ⟨rfl,rfl⟩
    ·replace H:=iF c783 H
     obtain⟨t784,e785,H⟩:=Z4 H
     rcases Bool.eq_false_or_eq_true (b780 != b780) with c786 | c786
     ·replace H:=iT c786 H
      obtain⟨t787,e788,H⟩:=Z4 H
      refine rG hP hn hm [(4,.b true),(7,.c ((Z2 .i64) b780)),(11,.b false),(14,.c ((Z2 .i64) b780)),(16,.call [] [] [] [] 0 (bV (b780 != b780)) []),(17,.b true),(19,.call [] [] [] [] 0 (bV (a1 != a1)) [])] [(4,iV .i64 x768),(5,bV (a1 != a1))] [4,5] [] [] [_,_,_,_,_,_,_,_,_,_,_] ⟨c779,p781,Zi (Z2 .i64) q782,c783,p781,Zi (Z2 .i64) q782,Tryz.call103,Z1z.ok b780 t784 e785,c786,Tryz.call103,Z1z.ok a1 t787 e788,trivial⟩ ?_
      obtain rfl:=sj H
      exact lf [] [] [] (by kernel_rfl) ⟨rfl,rfl⟩
     ·replace H:=iF c786 H
      refine rG hP hn hm [(4,.b true),(7,.c ((Z2 .i64) b780)),(11,.b false),(14,.c ((Z2 .i64) b780)),(16,.call [] [] [] [] 0 (bV (b780 != b780)) []),(17,.b false)] [(4,iV .i64 x768),(5,bV false)] [4,5] [] [] [_,_,_,_,_,_,_,_,_] ⟨c779,p781,Zi (Z2 .i64) q782,c783,p781,Zi (Z2 .i64) q782,Tryz.call103,Z1z.ok b780 t784 e785,c786,trivial⟩ ?_
      obtain rfl:=sj H
      exact lf [] [] [] (by kernel_rfl) ⟨rfl,rfl⟩
   ·replace H:=iF c779 H
    refine rG hP hn hm [(4,.b false)] [(4,iV .i64 x768),(5,bV false)] [4,5] [] [] [_] ⟨c779,trivial⟩ ?_
    obtain rfl:=sj H
    exact lf [] [] [] (by kernel_rfl) ⟨rfl,rfl⟩
  ·obtain⟨x789,rfl⟩:∃ z,z=o794:=⟨_,rfl⟩
   rintro e s ⟨rfl,rfl⟩
   refine AWp.conv (inv:=[]) (vk:=[]) (e0:=[]) (t:=⟨[(4,iV .i64 x768),(5,bV x789)],[],0⟩) (by kernel_rfl) ?_
   refine AWp.ret ?_
   obtain rfl:=sj H
   exact rl (.inl rfl) rfl (by kernel_rfl) (by kernel_rfl)
def Z0n.l0 (a1:Int) (x834:List Int) (x835:Int) (x836:Int):Option ((List Int)×Int):=if(decide (x836≥(0:Int)))=true then((chk (0≤(u64.wrap (x836))))>>=fun _=>(Z0x.f x834 x835 ((u64.wrap (((BitVec.toNat (BitVec.ofInt 64 (Int.fdiv a1 (2 ^ (min (Int.toNat (u64.wrap (x836))) 64))) &&& BitVec.ofInt 64 (1:Int)):Nat):Int)))==(1:Int)))>>=fun t842=>Z0n.l0 a1 t842.1 t842.2 (i64.wrap (x836-(1:Int)))) else(some (x834,x835))
partial_fixpoint
def Z0n.f (a0_c0:List Int) (a0_c1:Int) (a1:Int) (a2:Int):Option ((List Int)×Int):=(Z0n.l0 a1 a0_c0 a0_c1 (i64.wrap ((if(if(64:Int)<a2 then(64:Int) else a2)>(0:Int) then(if(64:Int)<a2 then(64:Int) else a2) else(0:Int))-(1:Int))))>>=fun oo=>match oo with | (x844,x845)=>(some (x844,x845))
theorem Z0n.ok (a0_c0:List Int) (a0_c1:Int) (a1:Int) (a2:Int) (r:(List Int)×Int) (H:Z0n.f a0_c0 a0_c1 a1 a2=some r):Pv.Fn Tryz.prog 32 [.ptr 0 0 0,iV .u64 a1,iV .i64 a2] [(0,some (.box 86 [.own 1,iV .u64 a0_c1])),(1,some (.row 1 5 (a0_c0.map (Z2 .u8))))] 2 (fun x o=>x = .tup []∧o=[(0,some (.box 86 [.own 2,iV .u64 r.2])),(1,none),(2,some (.row 1 5 (r.1.map (Z2 .u8))))]):=by
 unfold Z0n.f at H
 refine Fn.bodyK [0,1,2] Tryz.func32 rfl rfl (fun Γ hP hn => ?_)
 have hm:Tryz.prog.follows .mixedOrders=true:=by kernel_rfl
 replace hn:Γ.n=23:=hn
 refine sO hP hn hm [(1,.more xMin),(2,.more xMax)] [(6,iV .i64 (i64.wrap ((if(if(64:Int)<a2 then(64:Int) else a2)>(0:Int) then(if(64:Int)<a2 then(64:Int) else a2) else(0:Int))-(1:Int))))] [0,1,6] [] [0,1] ?_
 refine AWp.block ?_
 obtain⟨o846,e847,H⟩:=Z4 H
 refine AWp.loop (LWp.conv (inv:=[(0,0),(1,3)]) (vk:=[]) (e0:=[]) (t:=⟨[(0,.ptr 0 0 0),(1,iV .u64 a1),(6,iV .i64 (i64.wrap ((if(if(64:Int)<a2 then(64:Int) else a2)>(0:Int) then(if(64:Int)<a2 then(64:Int) else a2) else(0:Int))-(1:Int))))],[(0,some (.box 86 [.own 3,iV .u64 a0_c1])),(3,some (.row 1 5 (a0_c0.map (Z2 .u8))))],2⟩) (by kernel_rfl) ?_)
 refine LWp.mono (Q:=fun e s=>(match (generalizing:=false) o846 with | (x844,x845)=>e = .exit 0∧s=⟨[],[(0,some (.box 86 [.own 5,iV .u64 x845])),(5,some (.row 1 5 (x844.map (Z2 .u8))))],2⟩)) (LWp.cv (Zs (fun body hbody => ?_))) ?_
 ·refine                   Z0n.l0.partial_correctness a1 (motive:=fun x834 x835 x836 o846=>LWp Γ body (fun e s=>∃ t,Cv Γ s t∧(match (generalizing:=false) o846 with | (x844,x845)=>e = .exit 0∧t=⟨[],[(0,some (.box 86 [.own 5,iV .u64 x845])),(5,some (.row 1 5 (x844.map (Z2     .u8))))],2⟩)) ⟨[(0,.ptr 0 0 0),(1,iV .u64 a1),(6,iV .i64 x836)],[(0,some (.box 86 [.own 3,iV .u64 x835])),(3,some (.row 1 5 (x834.map (Z2     .u8))))],2⟩) ?_ _ _ _ _ e847
  clear H e847 o846;intro self ih x834 x835 x836 o846 H
  subst hbody
  refine LWp.round ?_
  refine AWp.seq ?_
  refine sO hP hn hm [] [(12,bV (decide (x836≥(0:Int))))] [0,1,6,12] [] [0,3] ?_
  refine AWp.cond (decide (x836≥(0:Int))) (by kernel_rfl) (fun c837 => ?_) (fun c837 => ?_)
  ·replace H:=iT c837 H
   refine AWp.skip ?_
   refine AWp.seq ?_
   refine AWp.block ?_
   obtain⟨c841,H⟩:=Z10 H
   obtain⟨t842,e843,H⟩:=Z4 H
   refine rG hP hn hm [(7,.call [(0,0),(3,1)] [(0,0),(2,4)] [] [4] 2 (.tup []) [(0,some (.box 86 [.own 2,iV .u64 t842.2])),(1,none),(2,some (.row 1 5 (t842.1.map (Z2 .u8))))])] [] [0,1,6] [(0,some (.box 86 [.own 4,iV .u64 t842.2])),(4,some (.row 1 5 (t842.1.map (Z2 .u8))))] [0,4] [_,_,_] ⟨c841,Tryz.call68,Z0x.ok x834 x835 ((u64.wrap (((BitVec.toNat (BitVec.ofInt 64 (Int.fdiv a1 (2 ^ (min (Int.toNat (u64.wrap (x836))) 64))) &&& BitVec.ofInt 64 (1:Int)):Nat):Int)))==(1:Int)) t842 e843,trivial⟩ ?_
   refine rO hP hn hm [] [(6,iV .i64 (i64.wrap (x836-(1:Int))))] [0,1,6] [] [0,4] ?_
   exact LWp.conv [(0,0),(4,3)] [] [] (by kernel_rfl) (ih _ _ _ _ H)
  ·replace H:=iF c837 H
   refine AWp.exit ?_
   obtain rfl:=sj H
   exact lf [(0,0),(3,5)] [] [] (by kernel_rfl) ⟨rfl,rfl⟩
 ·obtain⟨x844,x845⟩:=o846
  rintro e s ⟨rfl,rfl⟩
  obtain rfl:=sj H
  exact Exists.intro ⟨[],[(0,some (.box 86 [.own 2,iV .u64 x845])),(2,some (.row 1 5 (x844.map (Z2 .u8))))],2⟩ (And.intro (fun _ _ h=>h.conv (inv:=[(0,0),(5,2)]) (vk:=[]) (e0:=[]) (t:=⟨[],[(0,some (.box 86 [.own 2,iV .u64 x845])),(2,some (.row 1 5 (x844.map (Z2 .u8))))],2⟩) (by kernel_rfl)) (And.intro (.inr rfl) (And.intro rfl (And.intro (by kernel_rfl) (by kernel_rfl)))))
def Zd.l0 (a1:Int) (t712:List Int) (t800:Int×Bool) (x807:List Int) (x808:Int) (x809:Int):Option ((List Int)×Int):=if(decide (x809<t800.1))=true then((Z0x.f x807 x808 true)>>=fun t813=>Zd.l0 a1 t712 t800 t813.1 t813.2 (i64.wrap (x809+(1:Int)))) else(some (x807,x808))
partial_fixpoint
def Zd.f (a0_c0:List Int) (a0_c1:Int) (a1:Int):Option ((List Int)×Int):=(Z3i.f)>>=fun t712=>(Z36.f a1)>>=fun t798=>(Z0v.f t712 t798)>>=fun t800=>(Zd.l0 a1 t712 t800 a0_c0 a0_c1 0)>>=fun oo=>match oo with | (x815,x816)=>(((if(decide (t800.1<(i64.wrap ((t712.length:Int)-(1:Int)))))=true then((Z0x.f x815 x816 false)>>=fun t820=>some (t820.1,t820.2)) else(some (x815,x816))):Option ((List Int)×Int))>>=fun oo=>match oo with | (x822,x823)=>((at? t712 t800.1)>>=fun b850=>(Z0n.f x822 x823 a1 b850)>>=fun t853=>some (t853.1,t853.2)))
theorem Zd.ok (a0_c0:List Int) (a0_c1:Int) (a1:Int) (r:(List Int)×Int) (H:Zd.f a0_c0 a0_c1 a1=some r):Pv.Fn Tryz.prog 33 [.ptr 0 0 0,iV .u64 a1] [(0,some (.box 86 [.own 1,iV .u64 a0_c1])),(1,some (.row 1 5 (a0_c0.map (Z2 .u8))))] 2 (fun x o=>x = .tup []∧o=[(0,some (.box 86 [.own 2,iV .u64 r.2])),(1,none),(2,some (.row 1 5 (r.1.map (Z2 .u8))))]):=by
 unfold Zd.f at H
 refine Fn.bodyK [0,1,2] Tryz.func33 rfl rfl (fun Γ hP hn => ?_)
 have hm:Tryz.prog.follows .mixedOrders=true:=by kernel_rfl
 replace hn:Γ.n=35:=hn
 obtain⟨t712,e713,H⟩:=Z4 H
 refine sR hP hn hm [(0,.call [] [(0,2)] [] [2] 0 (.own 0) [(0,some (.row 1 3 (t712.map (Z2 .i64))))])] [(4,.own 2)] [0,1,4] [(2,some (.row 1 3 (t712.map (Z2 .i64))))] [0,1,2] [_,_] ⟨Tryz.call69,Z3i.ok  t712 e713,trivial⟩ ?_
 obtain⟨t798,e799,H⟩:=Z4 H
 obtain⟨t800,e801,H⟩:=Z4 H
 refine sR hP hn hm [(2,.call [] [] [] [] 0 (iV .i64 t798) []),(3,.call [] [] [2] [] 0 (.tup [iV .i64 t800.1,bV t800.2]) [])] [(5,iV .i64 t800.1)] [0,1,4,5] [] [0,1,2] [_,_,_,_] ⟨Tryz.call71,Z36.ok a1 t798 e799,Tryz.call70,Z0v.ok t712 t798 t800 e801,trivial⟩ ?_
 refine AWp.seq ?_
 refine sO hP hn hm [] [(15,iV .i64 t800.1),(16,iV .i64 0)] [0,1,4,5,15,16] [] [0,1,2] ?_
 refine AWp.block ?_
 obtain⟨o855,e856,H⟩:=Z4 H
 refine AWp.loop (LWp.conv (inv:=[(0,0),(1,4),(2,5)]) (vk:=[]) (e0:=[]) (t:=⟨[(0,.ptr 0 0 0),(1,iV .u64 a1),(4,.own 5),(5,iV .i64 t800.1),(15,iV .i64 t800.1),(16,iV .i64 0)],[(0,some (.box 86 [.own 4,iV .u64 a0_c1])),(4,some (.row 1 5 (a0_c0.map (Z2 .u8)))),(5,some (.row 1 3 (t712.map (Z2 .i64))))],2⟩) (by kernel_rfl) ?_)
 refine LWp.mono (Q:=fun e s=>(match (generalizing:=false) o855 with | (x815,x816)=>e = .exit 0∧s=⟨[(0,.ptr 0 0 0),(1,iV .u64 a1),(4,.own 8),(5,iV .i64 t800.1)],[(0,some (.box 86 [.own 7,iV .u64 x816])),(7,some (.row 1 5 (x815.map (Z2 .u8)))),(8,some (.row 1 3 (t712.map (Z2 .i64))))],2⟩)) (LWp.cv (Zs (fun body hbody => ?_))) ?_
 ·refine                      Zd.l0.partial_correctness a1 t712 t800 (motive:=fun x807 x808 x809 o855=>LWp Γ body (fun e s=>∃ t,Cv Γ s t∧(match (generalizing:=false) o855 with | (x815,x816)=>e = .exit 0∧t=⟨[(0,.ptr 0 0 0),(1,iV .u64 a1),(4,.own 8),(5,iV .i64 t800.1)],[(0,some (.box 86 [.own 7,iV .u64 x816])),(7,some (.row 1 5 (x815.map (Z2     .u8)))),(8,some (.row 1 3 (t712.map (Z2     .i64))))],2⟩)) ⟨[(0,.ptr 0 0 0),(1,iV .u64 a1),(4,.own 5),(5,iV .i64 t800.1),(15,iV .i64 t800.1),(16,iV .i64 x809)],[(0,some (.box 86 [.own 4,iV .u64 x808])),(4,some (.row 1 5 (x807.map (Z2     .u8)))),(5,some (.row 1 3 (t712.map (Z2     .i64))))],2⟩) ?_ _ _ _ _ e856
  clear H e856 o855;intro self ih x807 x808 x809 o855 H
  subst hbody
  refine LWp.round ?_
  refine sO hP hn hm [] [(17,bV (decide (x809<t800.1)))] [0,1,4,5,15,16,17] [] [0,4,5] ?_
  refine AWp.seq ?_
  refine AWp.cond (decide (x809<t800.1)) (by kernel_rfl) (fun c810 => ?_) (fun c810 => ?_)
  ·replace H:=iT c810 H
   refine AWp.skip ?_
   refine AWp.seq ?_
   refine AWp.block ?_
   obtain⟨t813,e814,H⟩:=Z4 H
   refine rG hP hn hm [(1,.call [(0,0),(4,1)] [(0,0),(2,6)] [] [6] 2 (.tup []) [(0,some (.box 86 [.own 2,iV .u64 t813.2])),(1,none),(2,some (.row 1 5 (t813.1.map (Z2 .u8))))])] [] [0,1,4,5,15,16] [(0,some (.box 86 [.own 6,iV .u64 t813.2])),(6,some (.row 1 5 (t813.1.map (Z2 .u8))))] [0,5,6] [_,_] ⟨Tryz.call68,Z0x.ok x807 x808 true t813 e814,trivial⟩ ?_
   refine rO hP hn hm [] [(16,iV .i64 (i64.wrap (x809+(1:Int))))] [0,1,4,5,15,16] [] [0,5,6] ?_
   exact LWp.conv [(0,0),(5,5),(6,4)] [] [] (by kernel_rfl) (ih _ _ _ _ H)
  ·replace H:=iF c810 H
   refine AWp.exit ?_
   obtain rfl:=sj H
   exact lf [(0,0),(4,7),(5,8)] [] [] (by kernel_rfl) ⟨rfl,rfl⟩
 ·obtain⟨x815,x816⟩:=o855
  rintro e s ⟨rfl,rfl⟩
  refine AWp.seq ?_
  refine sR hP hn hm [(2,.any (iV .i64 (t712.length:Int)))] [(25,bV (decide (t800.1<(i64.wrap ((t712.length:Int)-(1:Int))))))] [0,1,4,5,25] [] [0,7,8] [((t712.map (Z2 .i64)).length:Int)=(t712.length:Int)] ⟨by rw[Zr],trivial⟩ ?_
  obtain⟨o857,e858,H⟩:=Z4 H
  refine AWp.mono (Q:=fun e s=>(match (generalizing:=false) o857 with | (x822,x823)=>e = .normal∧s=⟨[(0,.ptr 0 0 0),(1,iV .u64 a1),(4,.own 11),(5,iV .i64 t800.1)],[(0,some (.box 86 [.own 10,iV .u64 x823])),(10,some (.row 1 5 (x822.map (Z2 .u8)))),(11,some (.row 1 3 (t712.map (Z2 .i64))))],2⟩)) (AWp.cv ?_) ?_
  ·replace H:=e858;clear e858
   refine AWp.cond (decide (t800.1<(i64.wrap ((t712.length:Int)-(1:Int))))) (by kernel_rfl) (fun c817 => ?_) (fun c817 => ?_)
   ·replace H:=iT c817 H
    obtain⟨t820,e821,H⟩:=Z4 H
    refine rG hP hn hm [(1,.call [(0,0),(7,1)] [(0,0),(2,9)] [] [9] 2 (.tup []) [(0,some (.box 86 [.own 2,iV .u64 t820.2])),(1,none),(2,some (.row 1 5 (t820.1.map (Z2 .u8))))])] [] [0,1,4,5] [(0,some (.box 86 [.own 9,iV .u64 t820.2])),(9,some (.row 1 5 (t820.1.map (Z2 .u8))))] [0,8,9] [_,_] ⟨Tryz.call68,Z0x.ok x815 x816 false t820 e821,trivial⟩ ?_
    obtain rfl:=sj H
    exact lf [(0,0),(9,10),(8,11)] [] [] (by kernel_rfl) ⟨rfl,rfl⟩
   ·replace H:=iF c817 H
    refine AWp.skip ?_
    obtain rfl:=sj H
    exact lf [(0,0),(7,10),(8,11)] [] [] (by kernel_rfl) ⟨rfl,rfl⟩
  ·obtain⟨x822,x823⟩:=o857
   rintro e s ⟨rfl,rfl⟩
   obtain⟨b850,p851,q852,H⟩:=Z02 H
   obtain⟨t853,e854,H⟩:=Z4 H
   refine rG hP hn hm [(5,.c ((Z2 .i64) b850)),(6,.call [(0,0),(10,1)] [(0,0),(2,12)] [] [12] 2 (.tup []) [(0,some (.box 86 [.own 2,iV .u64 t853.2])),(1,none),(2,some (.row 1 5 (t853.1.map (Z2 .u8))))])] [] [] [(0,some (.box 86 [.own 12,iV .u64 t853.2])),(12,some (.row 1 5 (t853.1.map (Z2 .u8))))] [0,12] [_,_,_,_,_] ⟨p851,Z09 (Z2 .i64) p851 q852,Zi (Z2 .i64) q852,Tryz.call32,Z0n.ok x822 x823 a1 b850 t853 e854,trivial⟩ ?_
   obtain rfl:=sj H
   exact Exists.intro ⟨[],[(0,some (.box 86 [.own 2,iV .u64 t853.2])),(2,some (.row 1 5 (t853.1.map (Z2 .u8))))],2⟩ (And.intro (fun _ _ h=>h.conv (inv:=[(0,0),(12,2)]) (vk:=[]) (e0:=[]) (t:=⟨[],[(0,some (.box 86 [.own 2,iV .u64 t853.2])),(2,some (.row 1 5 (t853.1.map (Z2 .u8))))],2⟩) (by kernel_rfl)) (And.intro (.inr rfl) (And.intro rfl (And.intro (by kernel_rfl) (by kernel_rfl)))))
def Z18.l0 (a1:ByteArray) (x881:List Int) (x882:Int) (x883:Int):Option ((List Int)×Int):=if(decide (x883<(a1.size:Int)))=true then((chk (0≤x883∧x883<(a1.size:Int)))>>=fun _=>(Z0n.f x881 x882 (u64.wrap (bt a1 x883)) 8)>>=fun t889=>Z18.l0 a1 t889.1 t889.2 (i64.wrap (x883+(1:Int)))) else(some (x881,x882))
partial_fixpoint
def Z18.f (a0_c0:List Int) (a0_c1:Int) (a1:ByteArray):Option ((List Int)×Int):=(Zd.f a0_c0 a0_c1 (u64.wrap ((a1.size:Int))))>>=fun t872=>(Z18.l0 a1 t872.1 t872.2 0)>>=fun oo=>match oo with | (x891,x892)=>(some (x891,x892))
theorem Z18.ok (a0_c0:List Int) (a0_c1:Int) (a1:ByteArray) (r:(List Int)×Int) (H:Z18.f a0_c0 a0_c1 a1=some r):Pv.Fn Tryz.prog 34 [.ptr 0 0 0,sV a1] [(0,some (.box 86 [.own 1,iV .u64 a0_c1])),(1,some (.row 1 5 (a0_c0.map (Z2 .u8))))] 2 (fun x o=>x = .tup []∧o=[(0,some (.box 86 [.own 2,iV .u64 r.2])),(1,none),(2,some (.row 1 5 (r.1.map (Z2 .u8))))]):=by
 unfold Z18.f at H
 refine Fn.bodyK [0,1,2] Tryz.func34 rfl rfl (fun Γ hP hn => ?_)
 have hm:Tryz.prog.follows .mixedOrders=true:=by kernel_rfl
 replace hn:Γ.n=22:=hn
 obtain⟨t872,e873,H⟩:=Z4 H
 refine sR hP hn hm [(4,.call [(0,0),(1,1)] [(0,0),(2,2)] [] [2] 2 (.tup []) [(0,some (.box 86 [.own 2,iV .u64 t872.2])),(1,none),(2,some (.row 1 5 (t872.1.map (Z2 .u8))))])] [] [0,1] [(0,some (.box 86 [.own 2,iV .u64 t872.2])),(2,some (.row 1 5 (t872.1.map (Z2 .u8))))] [0,2] [_,_] ⟨Tryz.call33,Zd.ok a0_c0 a0_c1 (u64.wrap ((a1.size:Int))) t872 e873,trivial⟩ ?_
 refine sO hP hn hm [] [(11,iV .i64 (a1.size:Int)),(12,iV .i64 0)] [0,1,11,12] [] [0,2] ?_
 refine AWp.block ?_
 obtain⟨o893,e894,H⟩:=Z4 H
 refine AWp.loop (LWp.conv (inv:=[(0,0),(2,4)]) (vk:=[]) (e0:=[]) (t:=⟨[(0,.ptr 0 0 0),(1,sV a1),(11,iV .i64 (a1.size:Int)),(12,iV .i64 0)],[(0,some (.box 86 [.own 4,iV .u64 t872.2])),(4,some (.row 1 5 (t872.1.map (Z2 .u8))))],2⟩) (by kernel_rfl) ?_)
 refine LWp.mono (Q:=fun e s=>(match (generalizing:=false) o893 with | (x891,x892)=>e = .exit 0∧s=⟨[],[(0,some (.box 86 [.own 6,iV .u64 x892])),(6,some (.row 1 5 (x891.map (Z2 .u8))))],2⟩)) (LWp.cv (Zs (fun body hbody => ?_))) ?_
 ·refine              Z18.l0.partial_correctness a1 (motive:=fun x881 x882 x883 o893=>LWp Γ body (fun e s=>∃ t,Cv Γ s t∧(match (generalizing:=false) o893 with | (x891,x892)=>e = .exit 0∧t=⟨[],[(0,some (.box 86 [.own 6,iV .u64 x892])),(6,some (.row 1 5 (x891.map (Z2     .u8))))],2⟩)) ⟨[(0,.ptr 0 0 0),(1,sV a1),(11,iV .i64 (a1.size:Int)),(12,iV .i64 x883)],[(0,some (.box 86 [.own 4,iV .u64 x882])),(4,some (.row 1 5 (x881.map (Z2     .u8))))],2⟩) ?_ _ _ _ _ e894
  clear H e894 o893;intro self ih x881 x882 x883 o893 H
  subst hbody
  refine LWp.round ?_
  refine sO hP hn hm [] [(13,bV (decide (x883<(a1.size:Int))))] [0,1,11,12,13] [] [0,4] ?_
  refine AWp.seq ?_
  refine AWp.cond (decide (x883<(a1.size:Int))) (by kernel_rfl) (fun c884 => ?_) (fun c884 => ?_)
  ·replace H:=iT c884 H
   refine AWp.skip ?_
   refine AWp.seq ?_
   refine AWp.block ?_
   refine sO hP hn hm [] [(4,iV .i64 x883)] [0,1,4,11,12] [] [0,4] ?_
   obtain⟨c888,H⟩:=Z10 H
   obtain⟨t889,e890,H⟩:=Z4 H
   refine rG hP hn hm [(5,.call [(0,0),(4,1)] [(0,0),(2,5)] [] [5] 2 (.tup []) [(0,some (.box 86 [.own 2,iV .u64 t889.2])),(1,none),(2,some (.row 1 5 (t889.1.map (Z2 .u8))))])] [] [0,1,11,12] [(0,some (.box 86 [.own 5,iV .u64 t889.2])),(5,some (.row 1 5 (t889.1.map (Z2 .u8))))] [0,5] [0≤x883,x883<(a1.size:Int),_,_] ⟨by exact c888.1,by exact c888.2,Tryz.call32,Z0n.ok x881 x882 (u64.wrap (bt a1 x883)) 8 t889 e890,trivial⟩ ?_
   refine rO hP hn hm [] [(12,iV .i64 (i64.wrap (x883+(1:Int))))] [0,1,11,12] [] [0,5] ?_
   exact LWp.conv [(0,0),(5,4)] [] [] (by kernel_rfl) (ih _ _ _ _ H)
  ·replace H:=iF c884 H
   refine AWp.exit ?_
   obtain rfl:=sj H
   exact lf [(0,0),(4,6)] [] [] (by kernel_rfl) ⟨rfl,rfl⟩
 ·obtain⟨x891,x892⟩:=o893
  rintro e s ⟨rfl,rfl⟩
  obtain rfl:=sj H
  exact Exists.intro ⟨[],[(0,some (.box 86 [.own 2,iV .u64 x892])),(2,some (.row 1 5 (x891.map (Z2 .u8))))],2⟩ (And.intro (fun _ _ h=>h.conv (inv:=[(0,0),(6,2)]) (vk:=[]) (e0:=[]) (t:=⟨[],[(0,some (.box 86 [.own 2,iV .u64 x892])),(2,some (.row 1 5 (x891.map (Z2 .u8))))],2⟩) (by kernel_rfl)) (And.intro (.inr rfl) (And.intro rfl (And.intro (by kernel_rfl) (by kernel_rfl)))))
def Z4b.f (a0:Z0f) (a1:Z0f):Option (Bool):=((if(a0.f0==a1.f0)=true then(if(a0.f1==a1.f1)=true then(some (a0.f2==a1.f2)) else(some false)) else(some false)):Option (Bool))>>=fun x912=>some x912
theorem Z4b.ok (a0:Z0f) (a1:Z0f) (r:Bool) (H:Z4b.f a0 a1=some r):Pv.Fn Tryz.prog 131 [.agg (Z08 a0),.agg (Z08 a1)] [] 0 (fun x o=>x=bV r∧o=[]):=by
 unfold Z4b.f at H
 refine Fn.bodyK [] Tryz.func131 rfl rfl (fun Γ hP hn => ?_)
 have hm:Tryz.prog.follows .mixedOrders=true:=by kernel_rfl
 replace hn:Γ.n=24:=hn
 refine sO hP hn hm [(0,.k 0),(1,.k 1)] [(2,.ptr 0 0 0),(3,.ptr 1 0 0)] [2,3] [(0,some (.box 48 (Z08 a0))),(1,some (.box 48 (Z08 a1)))] [0,1] ?_
 refine AWp.seq ?_
 obtain⟨o913,e914,H⟩:=Z4 H
 refine AWp.mono (Q:=fun e s=>(match (generalizing:=false) o913 with | x912=>e = .normal∧s=⟨[(4,bV x912)],[],0⟩)) (AWp.cv ?_) ?_
 ·replace H:=e914;clear e914
  rcases Bool.eq_false_or_eq_true (a0.f0==a1.f0) with c910 | c910
  ·replace H:=iT c910 H
   rcases Bool.eq_false_or_eq_true (a0.f1==a1.f1) with c911 | c911
   ·replace H:=iT c911 H
    refine rG hP hn hm [(5,.b true),(12,.b true)] [(4,bV (a0.f2==a1.f2))] [4] [] [] [_,_] ⟨c910,c911,trivial⟩ ?_
    obtain rfl:=sj H
    exact lf [] [] [] (by kernel_rfl) ⟨rfl,rfl⟩
   ·replace H:=iF c911 H
    refine rG hP hn hm [(5,.b true),(12,.b false)] [(4,bV false)] [4] [] [] [_,_] ⟨c910,c911,trivial⟩ ?_
    obtain rfl:=sj H
    exact lf [] [] [] (by kernel_rfl) ⟨rfl,rfl⟩
  ·replace H:=iF c910 H
   refine rG hP hn hm [(5,.b false)] [(4,bV false)] [4] [] [] [_] ⟨c910,trivial⟩ ?_
   obtain rfl:=sj H
   exact lf [] [] [] (by kernel_rfl) ⟨rfl,rfl⟩
 ·obtain⟨x912,rfl⟩:∃ z,z=o913:=⟨_,rfl⟩
  rintro e s ⟨rfl,rfl⟩
  refine AWp.conv (inv:=[]) (vk:=[]) (e0:=[]) (t:=⟨[(4,bV x912)],[],0⟩) (by kernel_rfl) ?_
  refine AWp.ret ?_
  obtain rfl:=sj H
  exact rl (.inl rfl) rfl (by kernel_rfl) (by kernel_rfl)
def Z4l.f (a0:Int) (a1:Int):Option (Int×Int):=if(!((decide (a0<a1))==(decide ((i64.wrap (a0-a1))<(0:Int)))))=true then(some (0,5)) else(some (i64.wrap (a0-a1),0))
theorem Z4l.ok (a0:Int) (a1:Int) (r:Int×Int) (H:Z4l.f a0 a1=some r):Pv.Fn Tryz.prog 176 [iV .i64 a0,iV .i64 a1] [] 0 (fun x o=>x = .tup [iV .i64 r.1,iV .i64 r.2]∧o=[]):=by
 unfold Z4l.f at H
 refine Fn.bodyK [] Tryz.func176 rfl rfl (fun Γ hP hn => ?_)
 have hm:Tryz.prog.follows .mixedOrders=true:=by kernel_rfl
 replace hn:Γ.n=17:=hn
 refine sO hP hn hm [] [] [0,1] [] [] ?_
 refine sO hP hn hm [] [(6,iV .i64 (i64.wrap (a0-a1)))] [0,1,6] [] [] ?_
 refine AWp.seq ?_
 refine sO hP hn hm [] [(15,bV (!((decide (a0<a1))==(decide ((i64.wrap (a0-a1))<(0:Int))))))] [6,15] [] [] ?_
 refine AWp.cond (!((decide (a0<a1))==(decide ((i64.wrap (a0-a1))<(0:Int))))) (by kernel_rfl) (fun c924 => ?_) (fun c924 => ?_)
 ·replace H:=iT c924 H
  refine sO hP hn hm [] [(4,iV .i64 0),(5,iV .i64 5)] [4,5] [] [] ?_
  refine AWp.conv (inv:=[]) (vk:=[]) (e0:=[]) (t:=⟨[(4,iV .i64 0),(5,iV .i64 5)],[],0⟩) (by kernel_rfl) ?_
  refine AWp.ret ?_
  obtain rfl:=sj H
  exact rl (.inl rfl) rfl (by kernel_rfl) (by kernel_rfl)
 ·replace H:=iF c924 H
  refine AWp.skip ?_
  refine sO hP hn hm [] [(4,iV .i64 (i64.wrap (a0-a1))),(5,iV .i64 0)] [4,5] [] [] ?_
  refine AWp.conv (inv:=[]) (vk:=[]) (e0:=[]) (t:=⟨[(4,iV .i64 (i64.wrap (a0-a1))),(5,iV .i64 0)],[],0⟩) (by kernel_rfl) ?_
  refine AWp.ret ?_
  obtain rfl:=sj H
  exact rl (.inl rfl) rfl (by kernel_rfl) (by kernel_rfl)
def Z6u.f (a0:Int) (a1:Int):Option (Unit):=(chk (0≤a1))>>=fun _=>some ()
theorem Z6u.ok (a0:Int) (a1:Int) (r:Unit) (H:Z6u.f a0 a1=some r):Pv.Fn Tryz.prog 202 [iV .i64 a0,iV .u64 a1] [] 0 (fun x o=>x=iV .i64 (i64.wrap (0-(Int.fdiv (i64.wrap (0-a0)) (2 ^ (min (Int.toNat (a1)) 64)))))∧o=[]):=by
 unfold Z6u.f at H
 refine Fn.bodyK [] Tryz.func202 rfl rfl (fun Γ hP hn => ?_)
 have hm:Tryz.prog.follows .mixedOrders=true:=by kernel_rfl
 replace hn:Γ.n=10:=hn
 refine sO hP hn hm [] [] [0,1] [] [] ?_
 obtain⟨c964,H⟩:=Z10 H
 refine sR hP hn hm [] [(4,iV .i64 (i64.wrap (0-(Int.fdiv (i64.wrap (0-a0)) (2 ^ (min (Int.toNat (a1)) 64))))))] [4] [] [] [_] ⟨c964,trivial⟩ ?_
 refine AWp.conv (inv:=[]) (vk:=[]) (e0:=[]) (t:=⟨[(4,iV .i64 (i64.wrap (0-(Int.fdiv (i64.wrap (0-a0)) (2 ^ (min (Int.toNat (a1)) 64))))))],[],0⟩) (by kernel_rfl) ?_
 refine AWp.ret ?_
 obtain rfl:=sj H
 exact rl (.inl rfl) rfl (by kernel_rfl) (by kernel_rfl)
def Z58.f (a0:Int) (a1:Int) (a2:Int):Option (Int×Int):=(((Z0d.f a0)>>=fun t950=>if(!t950)=true then(some true) else((Z0d.f a1)>>=fun t953=>if(!t953)=true then(some true) else(some (decide (a1>a0))))):Option (Bool))>>=fun x956=>if x956=true then(some (0,20)) else((Z3z.f a0 a2)>>=fun t960=>if(!t960)=true then(some (0,4)) else((Z6u.f a2 (u64.wrap (i64.wrap (a0-a1))))>>=fun t967=>some (i64.wrap (0-(Int.fdiv (i64.wrap (0-a2)) (2 ^ (min (Int.toNat ((u64.wrap (i64.wrap (a0-a1))))) 64)))),0)))
theorem Z58.ok (a0:Int) (a1:Int) (a2:Int) (r:Int×Int) (H:Z58.f a0 a1 a2=some r):Pv.Fn Tryz.prog 198 [iV .i64 a0,iV .i64 a1,iV .i64 a2] [] 0 (fun x o=>x = .tup [iV .i64 r.1,iV .i64 r.2]∧o=[]):=by
 unfold Z58.f at H
 refine Fn.bodyK [] Tryz.func198 rfl rfl (fun Γ hP hn => ?_)
 have hm:Tryz.prog.follows .mixedOrders=true:=by kernel_rfl
 replace hn:Γ.n=33:=hn
 refine sO hP hn hm [] [] [0,1,2] [] [] ?_
 refine AWp.seq ?_
 refine AWp.block ?_
 refine AWp.seq ?_
 obtain⟨o969,e970,H⟩:=Z4 H
 refine AWp.mono (Q:=fun e s=>(match (generalizing:=false) o969 with | x956=>e = .normal∧s=⟨[(0,iV .i64 a0),(1,iV .i64 a1),(2,iV .i64 a2),(8,bV x956)],[],0⟩)) (AWp.cv ?_) ?_
 ·replace H:=e970;clear e970
  obtain⟨t950,e951,H⟩:=Z4 H
  rcases Bool.eq_false_or_eq_true (!t950) with c952 | c952
  ·replace H:=iT c952 H
   refine rG hP hn hm [(1,.call [] [] [] [] 0 (bV t950) []),(3,.b true)] [(8,bV true)] [0,1,2,8] [] [] [_,_,_] ⟨Tryz.call93,Z0d.ok a0 t950 e951,c952,trivial⟩ ?_
   obtain rfl:=sj H
   exact lf [] [] [] (by kernel_rfl) ⟨rfl,rfl⟩
  ·replace H:=iF c952 H
   obtain⟨t953,e954,H⟩:=Z4 H
   rcases Bool.eq_false_or_eq_true (!t953) with c955 | c955
   ·replace H:=iT c955 H
    refine rG hP hn hm [(1,.call [] [] [] [] 0 (bV t950) []),(3,.b false),(5,.call [] [] [] [] 0 (bV t953) []),(8,.b true)] [(8,bV true)] [0,1,2,8] [] [] [_,_,_,_,_,_] ⟨Tryz.call93,Z0d.ok a0 t950 e951,c952,Tryz.call93,Z0d.ok a1 t953 e954,c955,trivial⟩ ?_
    obtain rfl:=sj H
    exact lf [] [] [] (by kernel_rfl) ⟨rfl,rfl⟩
   ·replace H:=iF c955 H
    refine rG hP hn hm [(1,.call [] [] [] [] 0 (bV t950) []),(3,.b false),(5,.call [] [] [] [] 0 (bV t953) []),(8,.b false)] [(8,bV (decide (a1>a0)))] [0,1,2,8] [] [] [_,_,_,_,_,_] ⟨Tryz.call93,Z0d.ok a0 t950 e951,c952,Tryz.call93,Z0d.ok a1 t953 e954,c955,trivial⟩ ?_
    obtain rfl:=sj H
    exact lf [] [] [] (by kernel_rfl) ⟨rfl,rfl⟩
 ·obtain⟨x956,rfl⟩:∃ z,z=o969:=⟨_,rfl⟩
  rintro e s ⟨rfl,rfl⟩
  refine AWp.cond x956 (by kernel_rfl) (fun c957 => ?_) (fun c957 => ?_)
  ·replace H:=iT c957 H
   refine sO hP hn hm [] [(6,iV .i64 0),(7,iV .i64 20)] [6,7] [] [] ?_
   refine AWp.conv (inv:=[]) (vk:=[]) (e0:=[]) (t:=⟨[(6,iV .i64 0),(7,iV .i64 20)],[],0⟩) (by kernel_rfl) ?_
   refine AWp.ret ?_
   obtain rfl:=sj H
   exact rl (.inl rfl) rfl (by kernel_rfl) (by kernel_rfl)
  ·replace H:=iF c957 H
   obtain⟨t960,e961,H⟩:=Z4 H
   refine sR hP hn hm [(2,.call [] [] [] [] 0 (bV t960) [])] [(22,bV (!t960))] [0,1,2,22] [] [] [_,_] ⟨Tryz.call124,Z3z.ok a0 a2 t960 e961,trivial⟩ ?_
   refine AWp.cond (!t960) (by kernel_rfl) (fun c962 => ?_) (fun c962 => ?_)
   ·replace H:=iT c962 H
    refine sO hP hn hm [] [(6,iV .i64 0),(7,iV .i64 4)] [6,7] [] [] ?_
    refine AWp.conv (inv:=[]) (vk:=[]) (e0:=[]) (t:=⟨[(6,iV .i64 0),(7,iV .i64 4)],[],0⟩) (by kernel_rfl) ?_
    refine AWp.ret ?_
    obtain rfl:=sj H
    exact rl (.inl rfl) rfl (by kernel_rfl) (by kernel_rfl)
   ·replace H:=iF c962 H
    refine AWp.skip ?_
    obtain⟨t967,e968,H⟩:=Z4 H
    refine sR hP hn hm [(5,.call [] [] [] [] 0 (iV .i64 (i64.wrap (0-(Int.fdiv (i64.wrap (0-a2)) (2 ^ (min (Int.toNat ((u64.wrap (i64.wrap (a0-a1))))) 64)))))) [])] [(6,iV .i64 (i64.wrap (0-(Int.fdiv (i64.wrap (0-a2)) (2 ^ (min (Int.toNat ((u64.wrap (i64.wrap (a0-a1))))) 64)))))),(7,iV .i64 0)] [6,7] [] [] [_,_] ⟨Tryz.call202,Z6u.ok a2 (u64.wrap (i64.wrap (a0-a1))) t967 e968,trivial⟩ ?_
    refine AWp.conv (inv:=[]) (vk:=[]) (e0:=[]) (t:=⟨[(6,iV .i64 (i64.wrap (0-(Int.fdiv (i64.wrap (0-a2)) (2 ^ (min (Int.toNat ((u64.wrap (i64.wrap (a0-a1))))) 64)))))),(7,iV .i64 0)],[],0⟩) (by kernel_rfl) ?_
    refine AWp.ret ?_
    obtain rfl:=sj H
    exact rl (.inl rfl) rfl (by kernel_rfl) (by kernel_rfl)
def Z32.l0 (a0:List Z9) (a1:Int) (a2:Int) (x977:List Z9) (x978:Int):Option (List Z9):=if(decide (x978<(a0.length:Int)))=true then((at? a0 x978)>>=fun b983=>(Z58.f a1 a2 b983.f0)>>=fun t988=>(chk ((x977.length+[(⟨t988.1,b983.f1⟩:Z9)].length)*16≤140737488355328))>>=fun _=>Z32.l0 a0 a1 a2 (x977++[(⟨t988.1,b983.f1⟩:Z9)]) (i64.wrap (x978+(1:Int)))) else(some x977)
partial_fixpoint
def Z32.f (a0:List Z9) (a1:Int) (a2:Int):Option (List Z9):=(Z32.l0 a0 a1 a2 [] 0)>>=fun x992=>some x992
theorem Z32.ok (a0:List Z9) (a1:Int) (a2:Int) (r:List Z9) (H:Z32.f a0 a1 a2=some r):Pv.Fn Tryz.prog 192 [.im (.row (a0.map Z1)),iV .i64 a1,iV .i64 a2] [] 0 (fun x o=>x = .own 0∧o=[(0,some (.row 2 136 (r.map Z1)))]):=by
 unfold Z32.f at H
 refine Fn.bodyK [0] Tryz.func192 rfl rfl (fun Γ hP hn => ?_)
 have hm:Tryz.prog.follows .mixedOrders=true:=by kernel_rfl
 replace hn:Γ.n=31:=hn
 refine sO hP hn hm [] [] [0,1,2] [] [] ?_
 refine sO hP hn hm [] [(7,.none0)] [0,1,2,7] [] [] ?_
 refine AWp.seq ?_
 refine sR hP hn hm [(1,.any (iV .i64 (a0.length:Int)))] [(10,.im (.row (a0.map Z1))),(11,iV .i64 (a0.length:Int)),(12,iV .i64 0)] [1,2,7,10,11,12] [] [] [((a0.map Z1).length:Int)=(a0.length:Int)] ⟨by rw[Zr],trivial⟩ ?_
 refine AWp.block ?_
 obtain⟨o993,e994,H⟩:=Z4 H
 refine AWp.loop (LWp.conv (inv:=[]) (vk:=[]) (e0:=[3]) (t:=⟨[(1,iV .i64 a1),(2,iV .i64 a2),(7,.own 3),(10,.im (.row (a0.map Z1))),(11,iV .i64 (a0.length:Int)),(12,iV .i64 0)],[(3,some (.row 2 136 ([].map Z1)))],0⟩) (by kernel_rfl) ?_)
 refine LWp.mono (Q:=fun e s=>(match (generalizing:=false) o993 with | x992=>e = .exit 0∧s=⟨[(7,.own 7)],[(7,some (.row 2 136 (x992.map Z1)))],0⟩)) (LWp.cv (Zs (fun body hbody => ?_))) ?_
 ·refine         Z32.l0.partial_correctness a0 a1 a2 (motive:=fun x977 x978 o993=>LWp Γ body (fun e s=>∃ t,Cv Γ s t∧(match (generalizing:=false) o993 with | x992=>e = .exit 0∧t=⟨[(7,.own 7)],[(7,some (.row 2 136 (x992.map Z1     )))],0⟩)) ⟨[(1,iV .i64 a1),(2,iV .i64 a2),(7,.own 3),(10,.im (.row (a0.map Z1     ))),(11,iV .i64 (a0.length:Int)),(12,iV .i64 x978)],[(3,some (.row 2 136 (x977.map Z1     )))],0⟩) ?_ _ _ _ e994
  clear H e994 o993;intro self ih x977 x978 o993 H
  subst hbody
  refine LWp.round ?_
  refine sO hP hn hm [] [(13,bV (decide (x978<(a0.length:Int))))] [1,2,7,10,11,12,13] [] [3] ?_
  refine AWp.seq ?_
  refine AWp.cond (decide (x978<(a0.length:Int))) (by kernel_rfl) (fun c979 => ?_) (fun c979 => ?_)
  ·replace H:=iT c979 H
   refine AWp.skip ?_
   refine AWp.seq ?_
   refine AWp.block ?_
   obtain⟨b983,p984,q985,H⟩:=Z02 H
   refine sR hP hn hm [(0,.c (Z1 b983)),(2,.k 4)] [(9,.ptr 4 0 0)] [1,2,7,9,10,11,12] [(4,some (.box 136 (Z2m b983)))] [3,4] [_,_] ⟨p984,Zi Z1 q985,trivial⟩ ?_
   obtain⟨t988,e989,H⟩:=Z4 H
   refine sR hP hn hm [(4,.call [] [] [] [] 0 (.tup [iV .i64 t988.1,iV .i64 t988.2]) [])] [] [1,2,7,9,10,11,12] [(4,some (.box 136 (Z2m ⟨t988.1,b983.f1⟩)))] [3,4] [_,_] ⟨Tryz.call198,Z58.ok a1 a2 b983.f0 t988 e989,trivial⟩ ?_
   obtain⟨c991,H⟩:=Z10 H
   refine rG hP hn hm [(2,.app 5 ([(⟨t988.1,b983.f1⟩:Z9)].map Z1)),(3,.app 6 ((x977++[(⟨t988.1,b983.f1⟩:Z9)]).map Z1))] [(7,.own 6)] [1,2,7,10,11,12] [(6,some (.row 2 136 ((x977++[(⟨t988.1,b983.f1⟩:Z9)]).map Z1)))] [6] [[(⟨t988.1,b983.f1⟩:Z9)].map Z1=[[iI .i64 t988.1,iI .u64 b983.f1]],(x977++[(⟨t988.1,b983.f1⟩:Z9)]).map Z1=(x977.map Z1)++([(⟨t988.1,b983.f1⟩:Z9)].map Z1),∀ c∈([(⟨t988.1,b983.f1⟩:Z9)].map Z1),c.length=2,∀ c∈([(⟨t988.1,b983.f1⟩:Z9)].map Z1),Z16 (c.map .im)=true,((x977.map Z1).length+([(⟨t988.1,b983.f1⟩:Z9)].map Z1).length)*16≤140737488355328] ⟨by exact rfl,by simp,by exact Z12 _ _ _ (fun _=>rfl),by exact Z14 _ _ (fun _=>rfl),by simpa using c991,trivial⟩ ?_
   refine rO hP hn hm [] [(12,iV .i64 (i64.wrap (x978+(1:Int))))] [1,2,7,10,11,12] [] [6] ?_
   exact LWp.conv [(6,3)] [] [] (by kernel_rfl) (ih _ _ _ H)
  ·replace H:=iF c979 H
   refine AWp.exit ?_
   obtain rfl:=sj H
   exact lf [(3,7)] [] [] (by kernel_rfl) ⟨rfl,rfl⟩
 ·obtain⟨x992,rfl⟩:∃ z,z=o993:=⟨_,rfl⟩
  rintro e s ⟨rfl,rfl⟩
  refine sO hP hn hm [] [(6,.own 7)] [6] [] [7] ?_
  refine AWp.conv (inv:=[(7,0)]) (vk:=[]) (e0:=[]) (t:=⟨[(6,.own 0)],[(0,some (.row 2 136 (x992.map Z1)))],0⟩) (by kernel_rfl) ?_
  refine AWp.ret ?_
  obtain rfl:=sj H
  exact rl (.inl rfl) rfl (by kernel_rfl) (by kernel_rfl)
def Z31.l0 (a0:Z0f) (a1:List Z9) (a2:Int) (x1026:Int):Option (Int ⊕ Unit):=if(decide (x1026<(a1.length:Int)))=true then((at? a1 x1026)>>=fun b1031=>(((Z3h.f a0.f1 b1031.f0)>>=fun t1039=>if(decide (t1039<a2))=true then((Z1v.f a0.f1 b1031.f0)>>=fun t1042=>some (decide (a2<t1042))) else(some false)):Option (Bool))>>=fun x1044=>if x1044=true then((Z1v.f a0.f1 b1031.f0)>>=fun t1048=>some (.inl t1048)) else(Z31.l0 a0 a1 a2 (i64.wrap (x1026+(1:Int))))) else(some (.inr ()))
partial_fixpoint
def Z31.f (a0:Z0f) (a1:List Z9) (a2:Int):Option (Int):=(Z31.l0 a0 a1 a2 0)>>=fun oo=>match oo with | .inl rr=>(some rr) | .inr _=>(some a2)
theorem Z31.ok (a0:Z0f) (a1:List Z9) (a2:Int) (r:Int) (H:Z31.f a0 a1 a2=some r):Pv.Fn Tryz.prog 199 [.agg (Z08 a0),.im (.row (a1.map Z1)),iV .i64 a2] [] 0 (fun x o=>x=iV .i64 r∧o=[]):=by
 unfold Z31.f at H
 refine Fn.bodyK [] Tryz.func199 rfl rfl (fun Γ hP hn => ?_)
 have hm:Tryz.prog.follows .mixedOrders=true:=by kernel_rfl
 replace hn:Γ.n=38:=hn
 refine sO hP hn hm [(0,.k 0)] [(3,.ptr 0 0 0)] [1,2,3] [(0,some (.box 48 (Z08 a0)))] [0] ?_
 refine AWp.seq ?_
 refine sR hP hn hm [(1,.any (iV .i64 (a1.length:Int)))] [(9,.im (.row (a1.map Z1))),(10,iV .i64 (a1.length:Int)),(11,iV .i64 0)] [2,3,9,10,11] [] [0] [((a1.map Z1).length:Int)=(a1.length:Int)] ⟨by rw[Zr],trivial⟩ ?_
 refine AWp.block ?_
 obtain⟨o1050,e1051,H⟩:=Z4 H
 refine AWp.loop (LWp.conv (inv:=[(0,4)]) (vk:=[]) (e0:=[]) (t:=⟨[(2,iV .i64 a2),(3,.ptr 4 0 0),(9,.im (.row (a1.map Z1))),(10,iV .i64 (a1.length:Int)),(11,iV .i64 0)],[(4,some (.box 48 (Z08 a0)))],0⟩) (by kernel_rfl) ?_)
 refine LWp.mono (Q:=fun e s=>(match (generalizing:=false) o1050 with | .inl rr=>e = .ret∧s.floor=0∧Z1y Tryz.prog Tryz.f199 s=some (iV .i64 rr)∧([]:List (Nat×Option MObj))=[] | .inr _=>e = .exit 0∧s=⟨[(2,iV .i64 a2)],[],0⟩)) (LWp.cv (Zs (fun body hbody => ?_))) ?_
 ·refine         Z31.l0.partial_correctness a0 a1 a2 (motive:=fun x1026 o1050=>LWp Γ body (fun e s=>∃ t,Cv Γ s t∧(match (generalizing:=false) o1050 with | .inl rr=>e = .ret∧t.floor=0∧Z1y   Tryz.prog Tryz.f199 t=some (iV .i64 rr)∧([]:List (Nat×Option MObj))=[] | .inr _=>e = .exit 0∧t=⟨[(2,iV .i64 a2)],[],0⟩)) ⟨[(2,iV .i64 a2),(3,.ptr 4 0 0),(9,.im (.row (a1.map Z1     ))),(10,iV .i64 (a1.length:Int)),(11,iV .i64 x1026)],[(4,some (.box 48 (Z08   a0)))],0⟩) ?_ _ _ e1051
  clear H e1051 o1050;intro self ih x1026 o1050 H
  subst hbody
  refine LWp.round ?_
  refine sO hP hn hm [] [(12,bV (decide (x1026<(a1.length:Int))))] [2,3,9,10,11,12] [] [4] ?_
  refine AWp.seq ?_
  refine AWp.cond (decide (x1026<(a1.length:Int))) (by kernel_rfl) (fun c1027 => ?_) (fun c1027 => ?_)
  ·replace H:=iT c1027 H
   refine AWp.skip ?_
   refine AWp.seq ?_
   refine AWp.block ?_
   obtain⟨b1031,p1032,q1033,H⟩:=Z02 H
   refine sR hP hn hm [(0,.c (Z1 b1031)),(2,.k 5)] [(8,.ptr 5 0 0)] [2,3,8,9,10,11] [(5,some (.box 136 (Z2m b1031)))] [4,5] [_,_] ⟨p1032,Zi Z1 q1033,trivial⟩ ?_
   refine AWp.seq ?_
   obtain⟨o1052,e1053,H⟩:=Z4 H
   refine AWp.mono (Q:=fun e s=>(match (generalizing:=false) o1052 with | x1044=>e = .normal∧s=⟨[(2,iV .i64 a2),(3,.ptr 6 0 0),(8,.ptr 7 0 0),(9,.im (.row (a1.map Z1))),(10,iV .i64 (a1.length:Int)),(11,iV .i64 x1026),(30,bV x1044)],[(6,some (.box 48 (Z08 a0))),(7,some (.box 136 (Z2m b1031)))],0⟩)) (AWp.cv ?_) ?_
   ·replace H:=e1053;clear e1053
    obtain⟨t1039,e1040,H⟩:=Z4 H
    rcases Bool.eq_false_or_eq_true (decide (t1039<a2)) with c1041 | c1041
    ·replace H:=iT c1041 H
     obtain⟨t1042,e1043,H⟩:=Z4 H
     refine rG hP hn hm [(4,.call [] [] [] [] 0 (iV .i64 t1039) []),(7,.b true),(13,.call [] [] [] [] 0 (iV .i64 t1042) [])] [(23,iV .i64 a2),(24,.ptr 4 0 1),(25,iV .i64 a0.f1),(26,.ptr 5 0 0),(27,iV .i64 b1031.f0),(28,iV .i64 t1042),(29,bV (decide (a2<t1042))),(30,bV (decide (a2<t1042)))] [2,3,8,9,10,11,23,24,25,26,27,28,29,30] [] [4,5] [_,_,_,_,_] ⟨Tryz.call125,Z3h.ok a0.f1 b1031.f0 t1039 e1040,c1041,Tryz.call163,Z1v.ok a0.f1 b1031.f0 t1042 e1043,trivial⟩ ?_
     obtain rfl:=sj H
     exact lf [(4,6),(5,7)] [] [] (by kernel_rfl) ⟨rfl,rfl⟩
    ·replace H:=iF c1041 H
     refine rG hP hn hm [(4,.call [] [] [] [] 0 (iV .i64 t1039) []),(7,.b false)] [(30,bV false)] [2,3,8,9,10,11,30] [] [4,5] [_,_,_] ⟨Tryz.call125,Z3h.ok a0.f1 b1031.f0 t1039 e1040,c1041,trivial⟩ ?_
     obtain rfl:=sj H
     exact lf [(4,6),(5,7)] [] [] (by kernel_rfl) ⟨rfl,rfl⟩
   ·obtain⟨x1044,rfl⟩:∃ z,z=o1052:=⟨_,rfl⟩
    rintro e s ⟨rfl,rfl⟩
    refine AWp.cond x1044 (by kernel_rfl) (fun c1045 => ?_) (fun c1045 => ?_)
    ·replace H:=iT c1045 H
     obtain⟨t1048,e1049,H⟩:=Z4 H
     refine sR hP hn hm [(4,.call [] [] [] [] 0 (iV .i64 t1048) [])] [(6,iV .i64 t1048)] [6] [] [] [_,_] ⟨Tryz.call163,Z1v.ok a0.f1 b1031.f0 t1048 e1049,trivial⟩ ?_
     refine AWp.conv (inv:=[]) (vk:=[]) (e0:=[]) (t:=⟨[(6,iV .i64 t1048)],[],0⟩) (by kernel_rfl) ?_
     refine AWp.ret ?_
     obtain rfl:=sj H
     exact rl rfl rfl (by kernel_rfl) (by kernel_rfl)
    ·replace H:=iF c1045 H
     refine AWp.skip ?_
     refine rO hP hn hm [] [(11,iV .i64 (i64.wrap (x1026+(1:Int))))] [2,3,9,10,11] [] [6] ?_
     exact LWp.conv [(6,4)] [] [] (by kernel_rfl) (ih _ _ H)
  ·replace H:=iF c1027 H
   refine AWp.exit ?_
   obtain rfl:=sj H
   exact lf [] [] [] (by kernel_rfl) ⟨rfl,rfl⟩
 ·rcases o1050 with rr | _
  ·skip
   rintro e s ⟨rfl,hfl,hres⟩
   obtain rfl:=sj H
   exact Exists.intro _ (And.intro (fun _ _ h=>h) (And.intro (.inl rfl) (And.intro hfl hres)))
  ·skip
   rintro e s ⟨rfl,rfl⟩
   refine sO hP hn hm [] [(6,iV .i64 a2)] [6] [] [] ?_
   refine AWp.conv (inv:=[]) (vk:=[]) (e0:=[]) (t:=⟨[(6,iV .i64 a2)],[],0⟩) (by kernel_rfl) ?_
   refine AWp.ret ?_
   obtain rfl:=sj H
   exact rl (.inl rfl) rfl (by kernel_rfl) (by kernel_rfl)
def Z11.l0 (a0:List Z9) (a1_c0:Int) (a1_c1:Int) (a1_c2:Int) (a1_c4:Int) (a1_c5:Int) (a1_c6:List Z9) (a1_c7:List Z9) (a2_c0:Int) (x1082:Int) (x1083:List Z9) (x1084:Int):Option ((List Z9)×Int):=if(decide (x1084<(a0.length:Int)))=true then((at? a0 x1084)>>=fun b1089=>(Z1v.f a1_c1 b1089.f0)>>=fun t1094=>((if(decide (t1094>a2_c0))=true then((chk ((x1083.length+[b1089].length)*16≤140737488355328))>>=fun _=>some (x1082,x1083++[b1089])) else((Z2e.f [x1082,b1089.f1])>>=fun t1101=>some (t1101.1,x1083))):Option (Int×(List Z9)))>>=fun oo=>match oo with | (x1103,x1104)=>(Z11.l0 a0 a1_c0 a1_c1 a1_c2 a1_c4 a1_c5 a1_c6 a1_c7 a2_c0 x1103 x1104 (i64.wrap (x1084+(1:Int))))) else(some (x1083,x1082))
partial_fixpoint
def Z11.f (a0:List Z9) (a1_c0:Int) (a1_c1:Int) (a1_c2:Int) (a1_c3:Int) (a1_c4:Int) (a1_c5:Int) (a1_c6:List Z9) (a1_c7:List Z9) (a2_c0:Int):Option ((List Z9)×Int):=(Z11.l0 a0 a1_c0 a1_c1 a1_c2 a1_c4 a1_c5 a1_c6 a1_c7 a2_c0 a1_c3 [] 0)>>=fun oo=>match oo with | (x1105,x1106)=>(some (x1105,x1106))
theorem Z11.ok (a0:List Z9) (a1_c0:Int) (a1_c1:Int) (a1_c2:Int) (a1_c3:Int) (a1_c4:Int) (a1_c5:Int) (a1_c6:List Z9) (a1_c7:List Z9) (a2_c0:Int) (r:(List Z9)×Int) (H:Z11.f a0 a1_c0 a1_c1 a1_c2 a1_c3 a1_c4 a1_c5 a1_c6 a1_c7 a2_c0=some r):Pv.Fn Tryz.prog 200 [.im (.row (a0.map Z1)),.ptr 0 0 0,.ptr 1 0 0] [(0,some (.box 48 (Z08 ⟨a1_c0,a1_c1,a1_c2,a1_c3,a1_c4,a1_c5,a1_c6,a1_c7⟩))),(1,some (.box 3 [iV .i64 a2_c0]))] 2 (fun x o=>x = .own 2∧o=[(0,some (.box 48 (Z08 ⟨a1_c0,a1_c1,a1_c2,r.2,a1_c4,a1_c5,a1_c6,a1_c7⟩))),(1,some (.box 3 [iV .i64 a2_c0])),(2,some (.row 2 136 (r.1.map Z1)))]):=by
 unfold Z11.f at H
 refine Fn.bodyK [0,1,2] Tryz.func200 rfl rfl (fun Γ hP hn => ?_)
 have hm:Tryz.prog.follows .mixedOrders=true:=by kernel_rfl
 replace hn:Γ.n=37:=hn
 refine sO hP hn hm [] [] [0,1,2] [] [0,1] ?_
 refine sO hP hn hm [] [(5,.none0)] [0,1,2,5] [] [0,1] ?_
 refine AWp.seq ?_
 refine sR hP hn hm [(1,.any (iV .i64 (a0.length:Int)))] [(8,.im (.row (a0.map Z1))),(9,iV .i64 (a0.length:Int)),(10,iV .i64 0)] [1,2,5,8,9,10] [] [0,1] [((a0.map Z1).length:Int)=(a0.length:Int)] ⟨by rw[Zr],trivial⟩ ?_
 refine AWp.block ?_
 obtain⟨o1107,e1108,H⟩:=Z4 H
 refine AWp.loop (LWp.conv (inv:=[(0,0),(1,1)]) (vk:=[]) (e0:=[7]) (t:=⟨[(1,.ptr 0 0 0),(2,.ptr 1 0 0),(5,.own 7),(8,.im (.row (a0.map Z1))),(9,iV .i64 (a0.length:Int)),(10,iV .i64 0)],[(0,some (.box 48 (Z08 ⟨a1_c0,a1_c1,a1_c2,a1_c3,a1_c4,a1_c5,a1_c6,a1_c7⟩))),(1,some (.box 3 [iV .i64 a2_c0])),(7,some (.row 2 136 ([].map Z1)))],2⟩) (by kernel_rfl) ?_)
 refine LWp.mono (Q:=fun e s=>(match (generalizing:=false) o1107 with | (x1105,x1106)=>e = .exit 0∧s=⟨[(5,.own 13)],[(0,some (.box 48 (Z08 ⟨a1_c0,a1_c1,a1_c2,x1106,a1_c4,a1_c5,a1_c6,a1_c7⟩))),(1,some (.box 3 [iV .i64 a2_c0])),(13,some (.row 2 136 (x1105.map Z1)))],2⟩)) (LWp.cv (Zs (fun body hbody => ?_))) ?_
 ·refine                  Z11.l0.partial_correctness a0 a1_c0 a1_c1 a1_c2 a1_c4 a1_c5 a1_c6 a1_c7 a2_c0 (motive:=fun x1082 x1083 x1084 o1107=>LWp Γ body (fun e s=>∃ t,Cv Γ s t∧(match (generalizing:=false) o1107 with | (x1105,x1106)=>e = .exit 0∧t=⟨[(5,.own 13)],[(0,some (.box 48 (Z08   ⟨a1_c0,a1_c1,a1_c2,x1106,a1_c4,a1_c5,a1_c6,a1_c7⟩))),(1,some (.box 3 [iV .i64 a2_c0])),(13,some (.row 2 136 (x1105.map Z1     )))],2⟩)) ⟨[(1,.ptr 0 0 0),(2,.ptr 1 0 0),(5,.own 7),(8,.im (.row (a0.map Z1     ))),(9,iV .i64 (a0.length:Int)),(10,iV .i64 x1084)],[(0,some (.box 48 (Z08   ⟨a1_c0,a1_c1,a1_c2,x1082,a1_c4,a1_c5,a1_c6,a1_c7⟩))),(1,some (.box 3 [iV .i64 a2_c0])),(7,some (.row 2 136 (x1083.map Z1     )))],2⟩) ?_ _ _ _ _ e1108
  clear H e1108 o1107;intro self ih x1082 x1083 x1084 o1107 H
  subst hbody
  refine LWp.round ?_
  refine sO hP hn hm [] [(11,bV (decide (x1084<(a0.length:Int))))] [1,2,5,8,9,10,11] [] [0,1,7] ?_
  refine AWp.seq ?_
  refine AWp.cond (decide (x1084<(a0.length:Int))) (by kernel_rfl) (fun c1085 => ?_) (fun c1085 => ?_)
  ·replace H:=iT c1085 H
   refine AWp.skip ?_
   refine AWp.seq ?_
   refine AWp.block ?_
   obtain⟨b1089,p1090,q1091,H⟩:=Z02 H
   refine sR hP hn hm [(0,.c (Z1 b1089)),(2,.k 8)] [(7,.ptr 8 0 0)] [1,2,5,7,8,9,10] [(8,some (.box 136 (Z2m b1089)))] [0,1,7,8] [_,_] ⟨p1090,Zi Z1 q1091,trivial⟩ ?_
   obtain⟨t1094,e1095,H⟩:=Z4 H
   refine sR hP hn hm [(4,.call [] [] [] [] 0 (iV .i64 t1094) [])] [(20,bV (decide (t1094>a2_c0)))] [1,2,5,7,8,9,10,20] [] [0,1,7,8] [_,_] ⟨Tryz.call163,Z1v.ok a1_c1 b1089.f0 t1094 e1095,trivial⟩ ?_
   obtain⟨o1109,e1110,H⟩:=Z4 H
   refine AWp.mono (Q:=fun e s=>(match (generalizing:=false) o1109 with | (x1103,x1104)=>e = .normal∧s=⟨[(1,.ptr 0 0 0),(2,.ptr 1 0 0),(5,.own 12),(8,.im (.row (a0.map Z1))),(9,iV .i64 (a0.length:Int)),(10,iV .i64 x1084)],[(0,some (.box 48 (Z08 ⟨a1_c0,a1_c1,a1_c2,x1103,a1_c4,a1_c5,a1_c6,a1_c7⟩))),(1,some (.box 3 [iV .i64 a2_c0])),(12,some (.row 2 136 (x1104.map Z1)))],2⟩)) (AWp.cv ?_) ?_
   ·replace H:=e1110;clear e1110
    refine AWp.cond (decide (t1094>a2_c0)) (by kernel_rfl) (fun c1096 => ?_) (fun c1096 => ?_)
    ·replace H:=iT c1096 H
     obtain⟨c1098,H⟩:=Z10 H
     refine rG hP hn hm [(2,.app 9 ([b1089].map Z1)),(3,.app 10 ((x1083++[b1089]).map Z1))] [(5,.own 10)] [1,2,5,8,9,10] [(10,some (.row 2 136 ((x1083++[b1089]).map Z1)))] [0,1,10] [[b1089].map Z1=[[iI .i64 b1089.f0,iI .u64 b1089.f1]],(x1083++[b1089]).map Z1=(x1083.map Z1)++([b1089].map Z1),∀ c∈([b1089].map Z1),c.length=2,∀ c∈([b1089].map Z1),Z16 (c.map .im)=true,((x1083.map Z1).length+([b1089].map Z1).length)*16≤140737488355328] ⟨by exact rfl,by simp,by exact Z12 _ _ _ (fun _=>rfl),by exact Z14 _ _ (fun _=>rfl),by simpa using c1098,trivial⟩ ?_
     obtain rfl:=sj H
     exact lf [(0,0),(1,1),(10,12)] [] [] (by kernel_rfl) ⟨rfl,rfl⟩
    ·replace H:=iF c1096 H
     obtain⟨t1101,e1102,H⟩:=Z4 H
     refine rG hP hn hm [(4,.app 11 ([x1082,b1089.f1].map (Z2 .u64))),(5,.call [] [] [11] [] 0 (.tup [iV .u64 t1101.1,iV .i64 t1101.2]) [])] [] [1,2,5,8,9,10] [(0,some (.box 48 (Z08 ⟨a1_c0,a1_c1,a1_c2,t1101.1,a1_c4,a1_c5,a1_c6,a1_c7⟩)))] [0,1,7] [[x1082,b1089.f1].map (Z2 .u64)=[[iI .u64 x1082],[iI .u64 b1089.f1]],_,_] ⟨by exact rfl,Tryz.call126,Z2e.ok [x1082,b1089.f1] t1101 e1102,trivial⟩ ?_
     obtain rfl:=sj H
     exact lf [(0,0),(1,1),(7,12)] [] [] (by kernel_rfl) ⟨rfl,rfl⟩
   ·obtain⟨x1103,x1104⟩:=o1109
    rintro e s ⟨rfl,rfl⟩
    refine rO hP hn hm [] [(10,iV .i64 (i64.wrap (x1084+(1:Int))))] [1,2,5,8,9,10] [] [0,1,12] ?_
    exact LWp.conv [(0,0),(1,1),(12,7)] [] [] (by kernel_rfl) (ih _ _ _ _ H)
  ·replace H:=iF c1085 H
   refine AWp.exit ?_
   obtain rfl:=sj H
   exact lf [(7,13),(0,0),(1,1)] [] [] (by kernel_rfl) ⟨rfl,rfl⟩
 ·obtain⟨x1105,x1106⟩:=o1107
  rintro e s ⟨rfl,rfl⟩
  refine sO hP hn hm [] [(4,.own 13)] [4] [] [0,1,13] ?_
  refine AWp.conv (inv:=[(0,0),(1,1),(13,2)]) (vk:=[]) (e0:=[]) (t:=⟨[(4,.own 2)],[(0,some (.box 48 (Z08 ⟨a1_c0,a1_c1,a1_c2,x1106,a1_c4,a1_c5,a1_c6,a1_c7⟩))),(1,some (.box 3 [iV .i64 a2_c0])),(2,some (.row 2 136 (x1105.map Z1)))],2⟩) (by kernel_rfl) ?_
  refine AWp.ret ?_
  obtain rfl:=sj H
  exact rl (.inl rfl) rfl (by kernel_rfl) (by kernel_rfl)
def Z0u.f (a0:List Z9):Option (List Z9):=(chk ((([]:List Z9).length+a0.length)*16≤140737488355328))>>=fun _=>some a0
theorem Z0u.ok (a0 r:List Z9) (H:Z0u.f a0=some r):Pv.Fn Tryz.prog 181 [.im (.row (a0.map Z1))] [] 0 (fun x o=>x = .own 0∧o=[(0,some (.row 2 136 (r.map Z1)))]):=by
 unfold Z0u.f at H
 obtain⟨c1,H⟩:=Z10 H
 obtain rfl:=sj H
 refine Fn.bodyK [0] Tryz.func181 rfl rfl (fun Γ hP hn => ?_)
 have hm:Tryz.prog.follows .mixedOrders=true:=by kernel_rfl
 replace hn:Γ.n=8:=hn
 refine AWp.seq ?_
 refine reg hP hn hm [] [0,2] [] ⟨[(0,.im (.row (a0.map Z1))),(2,.none0)],[],0⟩ [] (by kernel_rfl) trivial ?_
 refine AWp.seq ?_
 cases a0 with
 | nil =>
  refine AWp.nilSplit 0 rfl (fun b m => ?_)
  refine AWp.seq ?_
  cases b with
  | none =>
   refine reg hP hn hm [(1,.more xNil)] [2,4] [] ⟨[(2,.none0),(4,bV true)],[],0⟩ [] (by kernel_rfl) trivial ?_
   refine AWp.cond true rfl (fun _ => ?_) (fun h=>nomatch h)
   refine AWp.seq ?_
   refine reg hP hn hm [] [2] [] ⟨[(2,.none0)],[],0⟩ [] (by kernel_rfl) trivial ?_
   refine AWp.conv (inv:=[]) (vk:=[]) (e0:=[0]) (t:=⟨[(2,.own 0)],[(0,some (.row 2 136 []))],0⟩) (by kernel_rfl) ?_
   refine AWp.ret ?_
   exact Exists.intro _ (And.intro (fun _ _ h=>h) (And.intro (.inl rfl) (And.intro rfl (And.intro (by kernel_rfl) (by kernel_rfl)))))
  | some b =>
   refine reg hP hn hm [(1,.more xNil)] [0,2,4] [] ⟨[(0,.im (.sc (.slice (some b) 0 m))),(2,.none0),(4,bV false)],[],0⟩ [] (by kernel_rfl) trivial ?_
   refine AWp.cond false rfl (fun h=>nomatch h) (fun _ => ?_)
   refine AWp.skip ?_
   refine AWp.unsplit 0 rfl ?_
   refine AWp.seq ?_
   refine reg hP hn hm [(0,.app 0 ([]:List (List Im))),(2,.app 1 (([]:List Z9).map Z1))] [2] [1] ⟨[(2,.own 1)],[(1,some (.row 2 136 (([]:List Z9).map Z1)))],0⟩ [([]:List (List Im))=[],([]:List Z9).map Z1=([]:List (List Im))++([]:List Z9).map Z1,∀ c∈([]:List Z9).map Z1,c.length=2,∀ c∈([]:List Z9).map Z1,Z16 (c.map .im)=true,(([]:List (List Im)).length+(([]:List Z9).map Z1).length)*16≤140737488355328] (by kernel_rfl) ⟨rfl,by simp,by exact Z12 _ _ _ (fun _=>rfl),by exact Z14 _ _ (fun _=>rfl),by simpa using c1,trivial⟩ ?_
   refine AWp.conv (inv:=[(1,0)]) (vk:=[]) (e0:=[]) (t:=⟨[(2,.own 0)],[(0,some (.row 2 136 (([]:List Z9).map Z1)))],0⟩) (by kernel_rfl) ?_
   refine AWp.ret ?_
   exact Exists.intro _ (And.intro (fun _ _ h=>h) (And.intro (.inl rfl) (And.intro rfl (And.intro (by kernel_rfl) (by kernel_rfl)))))
 | cons y l =>
  refine AWp.seq ?_
  refine reg hP hn hm [(1,.more xNil)] [0,2,4] [] ⟨[(0,.im (.row ((y::l).map Z1))),(2,.none0),(4,bV false)],[],0⟩ [] (by kernel_rfl) trivial ?_
  refine AWp.cond false rfl (fun h=>nomatch h) (fun _ => ?_)
  refine AWp.skip ?_
  refine AWp.seq ?_
  refine reg hP hn hm [(0,.app 0 ([]:List (List Im))),(2,.app 1 ((y::l).map Z1))] [2] [1] ⟨[(2,.own 1)],[(1,some (.row 2 136 ((y::l).map Z1)))],0⟩ [([]:List (List Im))=[],(y::l).map Z1=([]:List (List Im))++(y::l).map Z1,∀ c∈(y::l).map Z1,c.length=2,∀ c∈(y::l).map Z1,Z16 (c.map .im)=true,(([]:List (List Im)).length+((y::l).map Z1).length)*16≤140737488355328] (by kernel_rfl) ⟨rfl,by simp,by exact Z12 _ _ _ (fun _=>rfl),by exact Z14 _ _ (fun _=>rfl),by simpa using c1,trivial⟩ ?_
  refine AWp.conv (inv:=[(1,0)]) (vk:=[]) (e0:=[]) (t:=⟨[(2,.own 0)],[(0,some (.row 2 136 ((y::l).map Z1)))],0⟩) (by kernel_rfl) ?_
  refine AWp.ret ?_
  exact Exists.intro _ (And.intro (fun _ _ h=>h) (And.intro (.inl rfl) (And.intro rfl (And.intro (by kernel_rfl) (by kernel_rfl)))))
def Z3n.f (a0:Int) (a1:Int):Option (Int):=(Z19.f a0)>>=fun t1134=>(Z19.f a1)>>=fun t1138=>if(a0 != a0)=true then(if(a1 != a1)=true then(some 0) else(some (-1))) else(if(a1 != a1)=true then(some 1) else(if(decide (a0<a1))=true then(some (-1)) else(if(decide (a0>a1))=true then(some 1) else(some 0))))
theorem Z3n.ok (a0:Int) (a1:Int) (r:Int) (H:Z3n.f a0 a1=some r):Pv.Fn Tryz.prog 184 [iV .i64 a0,iV .i64 a1] [] 0 (fun x o=>x=iV .i64 r∧o=[]):=by
 unfold Z3n.f at H
 refine Fn.bodyK [] Tryz.func184 rfl rfl (fun Γ hP hn => ?_)
 have hm:Tryz.prog.follows .mixedOrders=true:=by kernel_rfl
 replace hn:Γ.n=20:=hn
 refine sO hP hn hm [] [] [0,1] [] [] ?_
 obtain⟨t1134,e1135,H⟩:=Z4 H
 refine sR hP hn hm [(1,.call [] [] [] [] 0 (bV (a0 != a0)) [])] [(5,bV (a0 != a0))] [0,1,5] [] [] [_,_] ⟨Tryz.call130,Z19.ok a0 t1134 e1135,trivial⟩ ?_
 obtain⟨t1138,e1139,H⟩:=Z4 H
 refine sR hP hn hm [(1,.call [] [] [] [] 0 (bV (a1 != a1)) [])] [(6,bV (a1 != a1))] [0,1,5,6] [] [] [_,_] ⟨Tryz.call130,Z19.ok a1 t1138 e1139,trivial⟩ ?_
 refine AWp.seq ?_
 refine sO hP hn hm [] [(11,bV (a0 != a0))] [0,1,6,11] [] [] ?_
 refine AWp.cond (a0 != a0) (by kernel_rfl) (fun c1140 => ?_) (fun c1140 => ?_)
 ·replace H:=iT c1140 H
  refine AWp.seq ?_
  refine sO hP hn hm [] [(12,bV (a1 != a1))] [12] [] [] ?_
  refine AWp.cond (a1 != a1) (by kernel_rfl) (fun c1141 => ?_) (fun c1141 => ?_)
  ·replace H:=iT c1141 H
   refine sO hP hn hm [] [(4,iV .i64 0)] [4] [] [] ?_
   refine AWp.conv (inv:=[]) (vk:=[]) (e0:=[]) (t:=⟨[(4,iV .i64 0)],[],0⟩) (by kernel_rfl) ?_
   refine AWp.ret ?_
   obtain rfl:=sj H
   exact rl (.inl rfl) rfl (by kernel_rfl) (by kernel_rfl)
  ·replace H:=iF c1141 H
   refine AWp.skip ?_
   refine sO hP hn hm [] [(4,iV .i64 (-1))] [4] [] [] ?_
   refine AWp.conv (inv:=[]) (vk:=[]) (e0:=[]) (t:=⟨[(4,iV .i64 (-1))],[],0⟩) (by kernel_rfl) ?_
   refine AWp.ret ?_
   obtain rfl:=sj H
   exact rl (.inl rfl) rfl (by kernel_rfl) (by kernel_rfl)
 ·replace H:=iF c1140 H
  refine AWp.skip ?_
  refine AWp.seq ?_
  refine sO hP hn hm [] [(13,bV (a1 != a1))] [0,1,13] [] [] ?_
  refine AWp.cond (a1 != a1) (by kernel_rfl) (fun c1142 => ?_) (fun c1142 => ?_)
  ·replace H:=iT c1142 H
   refine sO hP hn hm [] [(4,iV .i64 1)] [4] [] [] ?_
   refine AWp.conv (inv:=[]) (vk:=[]) (e0:=[]) (t:=⟨[(4,iV .i64 1)],[],0⟩) (by kernel_rfl) ?_
   refine AWp.ret ?_
   obtain rfl:=sj H
   exact rl (.inl rfl) rfl (by kernel_rfl) (by kernel_rfl)
  ·replace H:=iF c1142 H
   refine AWp.skip ?_
   refine AWp.seq ?_
   refine sO hP hn hm [] [(16,bV (decide (a0<a1)))] [0,1,16] [] [] ?_
   refine AWp.cond (decide (a0<a1)) (by kernel_rfl) (fun c1143 => ?_) (fun c1143 => ?_)
   ·replace H:=iT c1143 H
    refine sO hP hn hm [] [(4,iV .i64 (-1))] [4] [] [] ?_
    refine AWp.conv (inv:=[]) (vk:=[]) (e0:=[]) (t:=⟨[(4,iV .i64 (-1))],[],0⟩) (by kernel_rfl) ?_
    refine AWp.ret ?_
    obtain rfl:=sj H
    exact rl (.inl rfl) rfl (by kernel_rfl) (by kernel_rfl)
   ·replace H:=iF c1143 H
    refine AWp.skip ?_
    refine AWp.seq ?_
    refine sO hP hn hm [] [(19,bV (decide (a0>a1)))] [19] [] [] ?_
    refine AWp.cond (decide (a0>a1)) (by kernel_rfl) (fun c1144 => ?_) (fun c1144 => ?_)
    ·replace H:=iT c1144 H
     refine sO hP hn hm [] [(4,iV .i64 1)] [4] [] [] ?_
     refine AWp.conv (inv:=[]) (vk:=[]) (e0:=[]) (t:=⟨[(4,iV .i64 1)],[],0⟩) (by kernel_rfl) ?_
     refine AWp.ret ?_
     obtain rfl:=sj H
     exact rl (.inl rfl) rfl (by kernel_rfl) (by kernel_rfl)
    ·replace H:=iF c1144 H
     refine AWp.skip ?_
     refine sO hP hn hm [] [(4,iV .i64 0)] [4] [] [] ?_
     refine AWp.conv (inv:=[]) (vk:=[]) (e0:=[]) (t:=⟨[(4,iV .i64 0)],[],0⟩) (by kernel_rfl) ?_
     refine AWp.ret ?_
     obtain rfl:=sj H
     exact rl (.inl rfl) rfl (by kernel_rfl) (by kernel_rfl)
def Z2g.f (a0:Z9) (a1:Z9):Option (Int):=(Z3n.f a0.f0 a1.f0)>>=fun t1147=>some t1147
theorem Z2g.ok (a0:Z9) (a1:Z9) (r:Int) (H:Z2g.f a0 a1=some r):Pv.Fn Tryz.prog 183 [.agg (Z2m a0),.agg (Z2m a1)] [] 0 (fun x o=>x=iV .i64 r∧o=[]):=by
 unfold Z2g.f at H
 refine Fn.bodyK [] Tryz.func183 rfl rfl (fun Γ hP hn => ?_)
 have hm:Tryz.prog.follows .mixedOrders=true:=by kernel_rfl
 replace hn:Γ.n=10:=hn
 refine sO hP hn hm [(0,.k 0),(1,.k 1)] [(2,.ptr 0 0 0),(3,.ptr 1 0 0)] [2,3] [(0,some (.box 136 (Z2m a0))),(1,some (.box 136 (Z2m a1)))] [0,1] ?_
 obtain⟨t1147,e1148,H⟩:=Z4 H
 refine sR hP hn hm [(4,.call [] [] [] [] 0 (iV .i64 t1147) [])] [(4,iV .i64 t1147)] [4] [] [] [_,_] ⟨Tryz.call184,Z3n.ok a0.f0 a1.f0 t1147 e1148,trivial⟩ ?_
 refine AWp.conv (inv:=[]) (vk:=[]) (e0:=[]) (t:=⟨[(4,iV .i64 t1147)],[],0⟩) (by kernel_rfl) ?_
 refine AWp.ret ?_
 obtain rfl:=sj H
 exact rl (.inl rfl) rfl (by kernel_rfl) (by kernel_rfl)
end Go.Proofs.YtinhldbfifpakaaGreat.PvGL
