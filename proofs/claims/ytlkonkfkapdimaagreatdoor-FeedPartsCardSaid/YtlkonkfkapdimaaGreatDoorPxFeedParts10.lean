import Derived.Test.YtlkonkfkapdimaaGreatDoorPxFeedParts09
set_option linter.unusedVariables false
set_option linter.unusedSimpArgs false
namespace Go.Proofs.YtlkonkfkapdimaaGreatDoor.PvGR
open Go Go.Pv Go.Pv.GS
theorem emptyB:(⟨#[]⟩:ByteArray).toList=[]:=by rw[Zv]
theorem sizeL (s:ByteArray):s.toList.length=s.size:=by rw[Zv,Zz]
theorem isEmptyB (s:ByteArray):(s.toList==(⟨#[]⟩:ByteArray).toList)=decide (s.size=0):=by
 rw[emptyB,Bool.eq_iff_iff,beq_iff_eq,decide_eq_true_eq,← sizeL];exact List.length_eq_zero_iff.symm
def nameC (c:Int) (first:Bool):Bool:=decide ((97≤c∧c≤122)∨(65≤c∧c≤90)∨c=95∨(first=false∧48≤c∧c≤57))
def nameL:Bool→List UInt8→Bool
 | _,[]=>true
 | f,c::l=>nameC (c.toNat:Int) f&&nameL false l
theorem lname_l0 (s:ByteArray) (hs:s.size<1000):∀ (suf pre:List UInt8) (i:Int),L s=pre++suf→i=(pre.length:Int)→Z0e.l0 s i=some (if nameL (decide (pre.length=0)) suf=true then .inr () else .inl false):=by
 intro suf
 induction suf with
 | nil =>
  intro pre i h1 hi;have:=congrArg List.length h1;rw[Zz] at this;simp at this;rw[Z0e.l0,if_neg (by simp;omega)];rfl
 | cons c suf ih =>
  intro pre i h1 hi;have hlen:=congrArg List.length h1;rw[Zz] at hlen;simp at hlen;have hc:(L s)[pre.length]? = some c:=by rw[h1];simp
  rw[Z0e.l0,if_pos (by simp;omega),chkB (by omega),hi,bt_L hc,Ze (by omega) (by omega)];have e1:((if(decide ((c.toNat:Int)≥(97:Int)))=true then(if(decide ((c.toNat:Int)≤(122:Int)))=true then(some true) else(if(decide ((c.toNat:Int)≥(65:Int)))=true then(if(decide ((c.toNat:Int)≤(90:Int)))=true then(some true) else(some ((c.toNat:Int)==(95:Int)))) else(some ((c.toNat:Int)==(95:Int))))) else(if(decide ((c.toNat:Int)≥(65:Int)))=true then(if(decide ((c.toNat:Int)≤(90:Int)))=true then(some true) else(some ((c.toNat:Int)==(95:Int)))) else(some ((c.toNat:Int)==(95:Int))))):Option (Bool))
    = some (decide ((97≤(c.toNat:Int)∧(c.toNat:Int)≤122)∨(65≤(c.toNat:Int)∧(c.toNat:Int)≤90)∨(c.toNat:Int)=95)):=by
   generalize (c.toNat:Int)=x;by_cases q1:97≤x<;>by_cases q2:x≤122<;>by_cases q3:65≤x<;>by_cases q4:x≤90<;>by_cases q5:x=95<;>simp[q1,q2,q3,q4,q5]
  rw[e1,sb];have e2:∀ low:Bool,((if(!low)=true then(if(((pre.length:Int))==(0:Int))=true then(some true) else(if(decide ((c.toNat:Int)<(48:Int)))=true then(some true) else(some (decide ((c.toNat:Int)>(57:Int)))))) else(some false)):Option (Bool))=some (decide (low=false∧(pre.length=0∨(c.toNat:Int)<48∨57<(c.toNat:Int)))):=by
   intro low;cases low
   ·by_cases q1:pre.length=0
    ·simp[q1]
    ·by_cases q2:(c.toNat:Int)<48
     ·simp[q1,q2]
     ·simp[q1,q2]
   ·simp
  rw[e2,sb];have hnext:=ih (pre++[c]) ((pre.length:Int)+1) (by rw[h1];simp) (by simp);have e3:decide ((pre++[c]).length=0)=false:=by simp
  rw[e3] at hnext;have hn:nameL (decide (pre.length=0)) (c::suf)=(nameC (c.toNat:Int) (decide (pre.length=0))&&nameL false suf):=rfl;rw[hn,hnext];cases hnc:nameC (c.toNat:Int) (decide (pre.length=0)) with
  | true =>
   simp only[nameC,decide_eq_true_eq] at hnc;rw[if_neg (by
    simp only[decide_eq_true_eq,decide_eq_false_iff_not];rintro⟨g1,g2⟩;rcases hnc with hnc | hnc | hnc | ⟨hnc,h5⟩
    ·exact g1 (.inl hnc)
    ·exact g1 (.inr (.inl hnc))
    ·exact g1 (.inr (.inr hnc))
    ·have:=of_decide_eq_false hnc
     omega)]
   simp
  | false =>
   simp only[nameC,decide_eq_false_iff_not] at hnc;rw[if_pos (by
    simp only[decide_eq_true_eq,decide_eq_false_iff_not];refine⟨fun g=>hnc ?_,?_⟩
    ·rcases g with g | g | g
     ·exact .inl g
     ·exact .inr (.inl g)
     ·exact .inr (.inr (.inl g))
    ·by_cases q:pre.length=0
     ·exact .inl q
     ·have:¬ (48≤(c.toNat:Int)∧(c.toNat:Int)≤57):=fun g=>hnc (.inr (.inr (.inr ⟨by simpa using q,g⟩)))
      omega)]
   simp
def nameB (s:ByteArray):Bool:=decide (1≤s.size∧s.size≤64)&&nameL true (L s)
theorem lname (s:ByteArray):Z0e.f s=some (nameB s):=by
 unfold Z0e.f nameB;rw[isEmptyB];by_cases h0:s.size=0
 ·simp[h0,sb]
 ·by_cases h1:s.size≤64
  ·rw[if_neg (by simpa using h0),sb,if_neg (by simp;omega),lname_l0 s (by omega) (L s) [] 0 rfl rfl,sb]
   have:decide (1≤s.size∧s.size≤64)=true:=decide_eq_true ⟨by omega,h1⟩;rw[this];simp only[List.length_nil,decide_true,Bool.true_and];cases nameL true (L s)<;>rfl
  ·rw[if_neg (by simpa using h0),sb,if_pos (by simp;omega)]
   have:decide (1≤s.size∧s.size≤64)=false:=decide_eq_false (by omega);rw[this];rfl
def valB (s:ByteArray):Bool:=decide (1≤s.size∧s.size≤64)
theorem lvalue (s:ByteArray):Z1t.f s=some (valB s):=by
 unfold Z1t.f valB;rw[isEmptyB];by_cases h0:s.size=0
 ·simp[h0,sb]
 ·rw[if_pos (by simpa using h0),sb]
  congr 1;rw[Bool.eq_iff_iff];simp;omega
def Z3a:Option ByteArray→List Zp→Bool
 | _,[]=>true
 | p,x::l=>nameB x.f0&&(valB x.f1&&((match p with | none=>true | some q=>bl q x.f0)&&Z3a (some x.f0) l))
theorem Z4f (p:Option ByteArray) (x:Zp) (l:List Zp):Z3a p (x::l)=(nameB x.f0&&(valB x.f1&&((match p with | none=>true | some q=>bl q x.f0)&&Z3a (some x.f0) l))):=rfl
def chkC (l:List Zp):Int:=if l.length>16 then 9 else if Z3a none l=true then 0 else 26
def lastN (pre:List Zp):Option ByteArray:=pre.getLast?.map (·.f0)
theorem lcheck_l0 (l:List Zp) (hl:l.length<1000):∀ (suf pre:List Zp) (i:Int),l=pre++suf→i=(pre.length:Int)→Z0d.l0 l i=some (if Z3a (lastN pre) suf=true then .inr () else .inl 26):=by
 intro suf
 induction suf with
 | nil=>intro pre i h1 hi;rw[Z0d.l0,if_neg (by rw[h1];simp[hi])];rfl
 | cons x suf ih =>
  intro pre i h1 hi;have hlen:l.length=pre.length+(suf.length+1):=by rw[h1];simp
  rw[Z0d.l0,if_pos (by simp;omega),Z1v h1 hi,sb,lname,sb,lvalue,sb,Ze (n:=i+1) (by omega) (by omega)];have hnext:=ih (pre++[x]) (i+1) (by simp[h1]) (by simp;omega);rw[hnext,show lastN (pre++[x])=some x.f0 by simp[lastN],Z4f];cases nameB x.f0
  ·simp[sb]
  cases valB x.f1
  ·simp[sb]
  rcases List.eq_nil_or_concat pre with rfl | ⟨p',p,rfl⟩
  ·simp only[Bool.not_true,Bool.false_eq_true,if_false,Bool.true_and]
   rw[if_neg (by simp at hi ⊢;omega),sb,if_neg (by simp)];simp[lastN]
  ·simp only[Bool.not_true,Bool.false_eq_true,if_false,Bool.true_and]
   simp only[List.concat_eq_append,List.length_append,List.length_singleton] at hi hlen ⊢;rw[if_pos (by simp;omega),Ze (n:=i-1) (by omega) (by omega),Z1v (pre:=p') (suf:=x::suf) (x:=p) (by rw[h1];simp) (by omega),sb,sb,show lastN (p'++[p])=some p.f0 by simp[lastN]];cases h:bl p.f0 x.f0<;>simp[h]
theorem lcheck (l:List Zp):Z0d.f l=some (chkC l):=by
 unfold Z0d.f chkC;by_cases h:l.length>16
 ·rw[if_pos (by simp;omega),if_pos h]
 ·rw[if_neg (by simp;omega),if_neg h,lcheck_l0 l (by omega) l [] 0 rfl rfl,sb,show lastN []=none from rfl]
  cases Z3a none l<;>rfl
def nLt (a b:Zp):Bool:=bl a.f0 b.f0
def emp (x:Zp):Bool:=decide (x.f1.size=0)
def rem:List Zp→List Bool→List Zp
 | x::l,u::us=>if u=false∧emp x=false then x::rem l us else rem l us
 | _,_=>[]
inductive Best:List Zp→List Bool→Int→Prop
 | none {p u}:rem p u=[]→Best p u (-1)
 | some {A B uA uB m}:A.length=uA.length→B.length=uB.length→emp m=false→(∀ a∈rem A uA,nLt m a=true)→(∀ b∈rem B uB,nLt b m=false)→Best (A++m::B) (uA++false::uB) (A.length:Int)
end Go.Proofs.YtlkonkfkapdimaaGreatDoor.PvGR
