import Derived.Test.YtpoihfcehejgfaaGreatPxBlockMakes12
set_option linter.unusedVariables false
set_option linter.unusedSimpArgs false
namespace Go.Proofs.YtpoihfcehejgfaaGreat.PvGS
open Go Go.Pv Go.Pv.GS
theorem emptyB:(⟨#[]⟩:ByteArray).toList=[]:=by rw[Z6r]
theorem sizeL (s:ByteArray):s.toList.length=s.size:=by rw[Z6r,Z44]
theorem isEmptyB (s:ByteArray):(s.toList==(⟨#[]⟩:ByteArray).toList)=decide (s.size=0):=by
 rw[emptyB,Bool.eq_iff_iff,beq_iff_eq,decide_eq_true_eq,← sizeL];exact List.length_eq_zero_iff.symm
def nameC (c:Int) (first:Bool):Bool:=decide ((97≤c∧c≤122)∨(65≤c∧c≤90)∨c=95∨(first=false∧48≤c∧c≤57))
def Zb3:Bool→List UInt8→Bool
 | _,[]=>true
 | f,c::l=>nameC (c.toNat:Int) f&&Zb3 false l
theorem lname_l0 (s:ByteArray) (hs:s.size<1000):∀ (suf pre:List UInt8) (i:Int),L s=pre++suf→i=(pre.length:Int)→Z1v.l0 s i=some (if Zb3 (decide (pre.length=0)) suf=true then .inr () else .inl false):=by
 intro suf
 induction suf with
 | nil =>
  intro pre i h1 hi;have:=congrArg List.length h1;rw[Z44] at this;simp at this;rw[Z1v.l0,if_neg (by simp;omega)];rfl
 | cons c suf ih =>
  intro pre i h1 hi;have hlen:=congrArg List.length h1;rw[Z44] at hlen;simp at hlen;have hc:(L s)[pre.length]? = some c:=by rw[h1];simp
  rw[Z1v.l0,if_pos (by simp;omega),chkB (by omega),hi,bt_L hc,Z0b (by omega) (by omega)];have e1:((if(decide ((c.toNat:Int)≥(97:Int)))=true then(if(decide ((c.toNat:Int)≤(122:Int)))=true then(some true) else(if(decide ((c.toNat:Int)≥(65:Int)))=true then(if(decide ((c.toNat:Int)≤(90:Int)))=true then(some true) else(some ((c.toNat:Int)==(95:Int)))) else(some ((c.toNat:Int)==(95:Int))))) else(if(decide ((c.toNat:Int)≥(65:Int)))=true then(if(decide ((c.toNat:Int)≤(90:Int)))=true then(some true) else(some ((c.toNat:Int)==(95:Int)))) else(some ((c.toNat:Int)==(95:Int))))):Option (Bool))
    = some (decide ((97≤(c.toNat:Int)∧(c.toNat:Int)≤122)∨(65≤(c.toNat:Int)∧(c.toNat:Int)≤90)∨(c.toNat:Int)=95)):=by
   generalize (c.toNat:Int)=x;by_cases q1:97≤x<;>by_cases q2:x≤122<;>by_cases q3:65≤x<;>by_cases q4:x≤90<;>by_cases q5:x=95<;>simp[q1,q2,q3,q4,q5]
  rw[e1,sb];have e2:∀ low:Bool,((if(!low)=true then(if(((pre.length:Int))==(0:Int))=true then(some true) else(if(decide ((c.toNat:Int)<(48:Int)))=true then(some true) else(some (decide ((c.toNat:Int)>(57:Int)))))) else(some false)):Option (Bool))=some (decide (low=false∧(pre.length=0∨(c.toNat:Int)<48∨57<(c.toNat:Int)))):=by
   intro low;cases low
   ·by_cases q1:pre.length=0
    ·simp[q1]
    ·by_cases q2:(c.toNat:Int)<48
     ·simp[q1,q2]
     ·simp[q1,q2]
   ·simp
  rw[e2,sb];have hnext:=ih (pre++[c]) ((pre.length:Int)+1) (by rw[h1];simp) (by simp);have e3:decide ((pre++[c]).length=0)=false:=by simp
  rw[e3] at hnext;have hn:Zb3 (decide (pre.length=0)) (c::suf)=(nameC (c.toNat:Int) (decide (pre.length=0))&&Zb3 false suf):=rfl;rw[hn,hnext];cases hnc:nameC (c.toNat:Int) (decide (pre.length=0)) with
  | true =>
   simp only[nameC,decide_eq_true_eq] at hnc;rw[if_neg (by
    simp only[decide_eq_true_eq,decide_eq_false_iff_not];rintro⟨g1,g2⟩;rcases hnc with hnc | hnc | hnc | ⟨hnc,h5⟩
    ·exact g1 (.inl hnc)
    ·exact g1 (.inr (.inl hnc))
    ·exact g1 (.inr (.inr hnc))
    ·have:=of_decide_eq_false hnc
     omega)]
   simp
  | false =>
   simp only[nameC,decide_eq_false_iff_not] at hnc;rw[if_pos (by
    simp only[decide_eq_true_eq,decide_eq_false_iff_not];refine⟨fun g=>hnc ?_,?_⟩
    ·rcases g with g | g | g
     ·exact .inl g
     ·exact .inr (.inl g)
     ·exact .inr (.inr (.inl g))
    ·by_cases q:pre.length=0
     ·exact .inl q
     ·have:¬ (48≤(c.toNat:Int)∧(c.toNat:Int)≤57):=fun g=>hnc (.inr (.inr (.inr ⟨by simpa using q,g⟩)))
      omega)]
   simp
theorem rname_l0 (s:ByteArray) (hs:s.size<1000):∀ (suf pre:List UInt8) (i:Int),L s=pre++suf→i=(pre.length:Int)→Z2e.l0 s i=some (if Zb3 (decide (pre.length=0)) suf=true then .inr () else .inl false):=by
 intro suf
 induction suf with
 | nil =>
  intro pre i h1 hi;have:=congrArg List.length h1;rw[Z44] at this;simp at this;rw[Z2e.l0,if_neg (by simp;omega)];rfl
 | cons c suf ih =>
  intro pre i h1 hi;have hlen:=congrArg List.length h1;rw[Z44] at hlen;simp at hlen;have hc:(L s)[pre.length]? = some c:=by rw[h1];simp
  have hnext:=ih (pre++[c]) ((pre.length:Int)+1) (by rw[h1];simp) (by simp);have e3:decide ((pre++[c]).length=0)=false:=by simp
  rw[e3] at hnext;have hn:Zb3 (decide (pre.length=0)) (c::suf)=(nameC (c.toNat:Int) (decide (pre.length=0))&&Zb3 false suf):=rfl;rw[Z2e.l0,if_pos (by simp;omega),chkB (by omega),hi,bt_L hc,Z0b (by omega) (by omega),hnext,hn];have hp:(decide (((pre.length:Int))>(0:Int))) = !decide (pre.length=0):=by
   by_cases q:pre.length=0
   ·rw[decide_eq_true q,decide_eq_false (by omega)];rfl
   ·rw[decide_eq_false q,decide_eq_true (by omega)];rfl
  rw[hp];simp only[nameC];generalize (c.toNat:Int)=x;cases decide (pre.length=0)<;>by_cases q1:97≤x<;>by_cases q2:x≤122<;>by_cases q3:65≤x<;>by_cases q4:x≤90<;>by_cases q5:x=95<;>by_cases q6:48≤x<;>by_cases q7:x≤57<;>simp[q1,q2,q3,q4,q5,q6,q7,sb]<;>omega
def Zb4 (s:ByteArray):Bool:=decide (1≤s.size∧s.size≤64)&&Zb3 true (L s)
theorem lname (s:ByteArray):Z1v.f s=some (Zb4 s):=by
 unfold Z1v.f Zb4;rw[isEmptyB];by_cases h0:s.size=0
 ·simp[h0,sb]
 ·by_cases h1:s.size≤64
  ·rw[if_neg (by simpa using h0),sb,if_neg (by simp;omega),lname_l0 s (by omega) (L s) [] 0 rfl rfl,sb]
   have:decide (1≤s.size∧s.size≤64)=true:=decide_eq_true ⟨by omega,h1⟩;rw[this];simp only[List.length_nil,decide_true,Bool.true_and];cases Zb3 true (L s)<;>rfl
  ·rw[if_neg (by simpa using h0),sb,if_pos (by simp;omega)]
   have:decide (1≤s.size∧s.size≤64)=false:=decide_eq_false (by omega);rw[this];rfl
theorem rname (s:ByteArray):Z2e.f s=some (Zb4 s):=by
 unfold Z2e.f Zb4;by_cases h0:s.size=0
 ·rw[if_pos (decide_eq_true (by omega)),sb,if_pos rfl,decide_eq_false (by omega)];rfl
 ·by_cases h1:s.size≤64
  ·rw[if_neg (by simp;omega),sb,if_neg (by simp;omega),rname_l0 s (by omega) (L s) [] 0 rfl rfl,sb]
   have:decide (1≤s.size∧s.size≤64)=true:=decide_eq_true ⟨by omega,h1⟩;rw[this];simp only[List.length_nil,decide_true,Bool.true_and];cases Zb3 true (L s)<;>rfl
  ·rw[if_neg (by simp;omega),sb,if_pos (by simp;omega),decide_eq_false (by omega)];rfl
def valB (s:ByteArray):Bool:=decide (1≤s.size∧s.size≤64)
theorem lvalue (s:ByteArray):Z30.f s=some (valB s):=by
 unfold Z30.f valB;rw[isEmptyB];by_cases h0:s.size=0
 ·simp[h0,sb]
 ·rw[if_pos (by simpa using h0),sb]
  congr 1;rw[Bool.eq_iff_iff];simp;omega
def Z4h:Option ByteArray→List Z1c→Bool
 | _,[]=>true
 | p,x::l=>Zb4 x.f0&&(valB x.f1&&((match p with | none=>true | some q=>bl q x.f0)&&Z4h (some x.f0) l))
theorem Z5g (p:Option ByteArray) (x:Z1c) (l:List Z1c):Z4h p (x::l)=(Zb4 x.f0&&(valB x.f1&&((match p with | none=>true | some q=>bl q x.f0)&&Z4h (some x.f0) l))):=rfl
def chkC (l:List Z1c):Int:=if l.length>16 then 9 else if Z4h none l=true then 0 else 26
def Z81 (pre:List Z1c):Option ByteArray:=pre.getLast?.map (·.f0)
theorem lcheck_l0 (l:List Z1c) (hl:l.length<1000):∀ (suf pre:List Z1c) (i:Int),l=pre++suf→i=(pre.length:Int)→Z1x.l0 l i=some (if Z4h (Z81 pre) suf=true then .inr () else .inl 26):=by
 intro suf
 induction suf with
 | nil=>intro pre i h1 hi;rw[Z1x.l0,if_neg (by rw[h1];simp[hi])];rfl
 | cons x suf ih =>
  intro pre i h1 hi;have hlen:l.length=pre.length+(suf.length+1):=by rw[h1];simp
  rw[Z1x.l0,if_pos (by simp;omega),Z1s h1 hi,sb,lname,sb,lvalue,sb,Z0b (n:=i+1) (by omega) (by omega)];have hnext:=ih (pre++[x]) (i+1) (by simp[h1]) (by simp;omega);rw[hnext,show Z81 (pre++[x])=some x.f0 by simp[Z81],Z5g];cases Zb4 x.f0
  ·simp[sb]
  cases valB x.f1
  ·simp[sb]
  rcases List.eq_nil_or_concat pre with rfl | ⟨p',p,rfl⟩
  ·simp only[Bool.not_true,Bool.false_eq_true,if_false,Bool.true_and]
   rw[if_neg (by simp at hi ⊢;omega),sb,if_neg (by simp)];simp[Z81]
  ·simp only[Bool.not_true,Bool.false_eq_true,if_false,Bool.true_and]
   simp only[List.concat_eq_append,List.length_append,List.length_singleton] at hi hlen ⊢;rw[if_pos (by simp;omega),Z0b (n:=i-1) (by omega) (by omega),Z1s (pre:=p') (suf:=x::suf) (x:=p) (by rw[h1];simp) (by omega),sb,sb,show Z81 (p'++[p])=some p.f0 by simp[Z81]];cases h:bl p.f0 x.f0<;>simp[h]
theorem lcheck (l:List Z1c):Z1x.f l=some (chkC l):=by
 unfold Z1x.f chkC;by_cases h:l.length>16
 ·rw[if_pos (by simp;omega),if_pos h]
 ·rw[if_neg (by simp;omega),if_neg h,lcheck_l0 l (by omega) l [] 0 rfl rfl,sb,show Z81   []=none from rfl]
  cases Z4h none l<;>rfl
theorem rcheck_l0 (l:List Z1c) (hl:l.length<1000):∀ (suf pre:List Z1c) (i:Int),l=pre++suf→i=(pre.length:Int)→Z2f.l0 l i=some (if Z4h (Z81 pre) suf=true then .inr () else .inl 26):=by
 intro suf
 induction suf with
 | nil=>intro pre i h1 hi;rw[Z2f.l0,if_neg (by rw[h1];simp[hi])];rfl
 | cons x suf ih =>
  intro pre i h1 hi;have hlen:l.length=pre.length+(suf.length+1):=by rw[h1];simp
  have hnext:=ih (pre++[x]) (i+1) (by simp[h1]) (by simp;omega);rw[Z2f.l0,if_pos (by simp;omega),Z1s h1 hi,sb,rname,sb,Z0b (n:=i+1) (by omega) (by omega),hnext,show Z81 (pre++[x])=some x.f0 by simp[Z81],Z5g];cases Zb4 x.f0
  ·simp[sb]
  simp only[Bool.not_true,Bool.false_eq_true,if_false,Bool.true_and];have hv:((if(decide ((x.f1.size:Int)<(1:Int)))=true then(some true) else(some (decide ((x.f1.size:Int)>(64:Int))))):Option Bool)=some (!valB x.f1):=by
   unfold valB;by_cases q:x.f1.size<1
   ·rw[if_pos (by simp;omega),decide_eq_false (by omega)];rfl
   ·rw[if_neg (by simp;omega)]
    congr 1;by_cases q2:x.f1.size≤64
    ·rw[decide_eq_true (show 1≤x.f1.size∧x.f1.size≤64 by omega),decide_eq_false (by omega)];rfl
    ·rw[decide_eq_false (show ¬ (1≤x.f1.size∧x.f1.size≤64) by omega),decide_eq_true (by omega)];rfl
  rw[hv,sb];cases valB x.f1
  ·simp
  rcases List.eq_nil_or_concat pre with rfl | ⟨p',p,rfl⟩
  ·simp only[Bool.not_true,Bool.false_eq_true,if_false,Bool.true_and]
   rw[if_neg (by simp at hi ⊢;omega),sb,if_neg (by simp)];simp[Z81]
  ·simp only[Bool.not_true,Bool.false_eq_true,if_false,Bool.true_and]
   simp only[List.concat_eq_append,List.length_append,List.length_singleton] at hi hlen ⊢;rw[if_pos (by simp;omega),Z0b (n:=i-1) (by omega) (by omega),Z1s (pre:=p') (suf:=x::suf) (x:=p) (by rw[h1];simp) (by omega),sb,sb,sb,show Z81 (p'++[p])=some p.f0 by simp[Z81]];cases h:bl p.f0 x.f0<;>simp[h]
theorem rcheck (l:List Z1c):Z2f.f l=some (chkC l):=by
 unfold Z2f.f chkC;by_cases h:l.length>16
 ·rw[if_pos (by simp;omega),if_pos h]
 ·rw[if_neg (by simp;omega),if_neg h,rcheck_l0 l (by omega) l [] 0 rfl rfl,sb,show Z81   []=none from rfl]
  cases Z4h none l<;>rfl
theorem cmp_str (a b:ByteArray):Z2a.f a b=some (if bl a b=true then -1 else if bl b a=true then 1 else 0):=by
 unfold Z2a.f Z28.f;rw[sb,sb];simp only[beq_self_eq_true,Bool.not_true,Bool.false_eq_true,if_false];rw[eqB];show(if bl a b=true then some (-1) else if(!(bl a b||decide (a=b)))=true then some 1 else some 0)=_;cases h1:bl a b with
 | true=>simp
 | false =>
  cases h2:bl b a with
  | true =>
   have:a≠b:=fun e=>by subst e;rw[h1] at h2;exact absurd h2 (by simp)
   simp[this]
  | false=>simp[bl_tri' h1 h2]
def nLt (a b:Z1c):Bool:=bl a.f0 b.f0
def emp (x:Z1c):Bool:=decide (x.f1.size=0)
def rem:List Z1c→List Bool→List Z1c
 | x::l,u::us=>if u=false∧emp x=false then x::rem l us else rem l us
 | _,_=>[]
inductive Best:List Z1c→List Bool→Int→Prop
 | none {p u}:rem p u=[]→Best p u (-1)
 | some {A B uA uB m}:A.length=uA.length→B.length=uB.length→emp m=false→(∀ a∈rem A uA,nLt m a=true)→(∀ b∈rem B uB,nLt b m=false)→Best (A++m::B) (uA++false::uB) (A.length:Int)
end Go.Proofs.YtpoihfcehejgfaaGreat.PvGS
