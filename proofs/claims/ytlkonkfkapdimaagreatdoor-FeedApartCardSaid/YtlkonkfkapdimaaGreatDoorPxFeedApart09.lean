import Derived.Test.YtlkonkfkapdimaaGreatDoorPxFeedApart08
set_option linter.unusedVariables false
set_option linter.unusedSimpArgs false
namespace Go.Proofs.YtlkonkfkapdimaaGreatDoor.PvGR
open Go Go.Pv Go.Pv.GS
theorem emptyB:(⟨#[]⟩:ByteArray).toList=[]:=by rw[Zq]
theorem sizeL (s:ByteArray):s.toList.length=s.size:=by rw[Zq,Z05]
theorem isEmptyB (s:ByteArray):(s.toList==(⟨#[]⟩:ByteArray).toList)=decide (s.size=0):=by
 rw[emptyB,Bool.eq_iff_iff,beq_iff_eq,decide_eq_true_eq,← sizeL];exact List.length_eq_zero_iff.symm
def nameC (c:Int) (first:Bool):Bool:=decide ((97≤c∧c≤122)∨(65≤c∧c≤90)∨c=95∨(first=false∧48≤c∧c≤57))
def nameL:Bool→List UInt8→Bool
 | _,[]=>true
 | f,c::l=>nameC (c.toNat:Int) f&&nameL false l
theorem lname_l0 (s:ByteArray) (hs:s.size<1000):∀ (suf pre:List UInt8) (i:Int),L s=pre++suf→i=(pre.length:Int)→Z0g.l0 s i=some (if nameL (decide (pre.length=0)) suf=true then .inr () else .inl false):=by
 intro suf
 induction suf with
 | nil =>
  intro pre i h1 hi;have:=congrArg List.length h1;rw[Z05] at this;simp at this;rw[Z0g.l0,if_neg (by simp;omega)];rfl
 | cons c suf ih =>
  intro pre i h1 hi;have hlen:=congrArg List.length h1;rw[Z05] at hlen;simp at hlen;have hc:(L s)[pre.length]? = some c:=by rw[h1];simp
  rw[Z0g.l0,if_pos (by simp;omega),chkB (by omega),hi,bt_L hc,Zf (by omega) (by omega)];have e1:((if(decide ((c.toNat:Int)≥(97:Int)))=true then(if(decide ((c.toNat:Int)≤(122:Int)))=true then(some true) else(if(decide ((c.toNat:Int)≥(65:Int)))=true then(if(decide ((c.toNat:Int)≤(90:Int)))=true then(some true) else(some ((c.toNat:Int)==(95:Int)))) else(some ((c.toNat:Int)==(95:Int))))) else(if(decide ((c.toNat:Int)≥(65:Int)))=true then(if(decide ((c.toNat:Int)≤(90:Int)))=true then(some true) else(some ((c.toNat:Int)==(95:Int)))) else(some ((c.toNat:Int)==(95:Int))))):Option (Bool))
    = some (decide ((97≤(c.toNat:Int)∧(c.toNat:Int)≤122)∨(65≤(c.toNat:Int)∧(c.toNat:Int)≤90)∨(c.toNat:Int)=95)):=by
   generalize (c.toNat:Int)=x;by_cases q1:97≤x<;>by_cases q2:x≤122<;>by_cases q3:65≤x<;>by_cases q4:x≤90<;>by_cases q5:x=95<;>simp[q1,q2,q3,q4,q5]
  rw[e1,sb];have e2:∀ low:Bool,((if(!low)=true then(if(((pre.length:Int))==(0:Int))=true then(some true) else(if(decide ((c.toNat:Int)<(48:Int)))=true then(some true) else(some (decide ((c.toNat:Int)>(57:Int)))))) else(some false)):Option (Bool))=some (decide (low=false∧(pre.length=0∨(c.toNat:Int)<48∨57<(c.toNat:Int)))):=by
   intro low;cases low
   ·by_cases q1:pre.length=0
    ·simp[q1]
    ·by_cases q2:(c.toNat:Int)<48
     ·simp[q1,q2]
     ·simp[q1,q2]
   ·simp
  rw[e2,sb];have hnext:=ih (pre++[c]) ((pre.length:Int)+1) (by rw[h1];simp) (by simp);have e3:decide ((pre++[c]).length=0)=false:=by simp
  rw[e3] at hnext;have hn:nameL (decide (pre.length=0)) (c::suf)=(nameC (c.toNat:Int) (decide (pre.length=0))&&nameL false suf):=rfl;rw[hn,hnext];cases hnc:nameC (c.toNat:Int) (decide (pre.length=0)) with
  | true =>
   simp only[nameC,decide_eq_true_eq] at hnc;rw[if_neg (by
    simp only[decide_eq_true_eq,decide_eq_false_iff_not];rintro⟨g1,g2⟩;rcases hnc with hnc | hnc | hnc | ⟨hnc,h5⟩
    ·exact g1 (.inl hnc)
    ·exact g1 (.inr (.inl hnc))
    ·exact g1 (.inr (.inr hnc))
    ·have:=of_decide_eq_false hnc
     omega)]
   simp
  | false =>
   simp only[nameC,decide_eq_false_iff_not] at hnc;rw[if_pos (by
    simp only[decide_eq_true_eq,decide_eq_false_iff_not];refine⟨fun g=>hnc ?_,?_⟩
    ·rcases g with g | g | g
     ·exact .inl g
     ·exact .inr (.inl g)
     ·exact .inr (.inr (.inl g))
    ·by_cases q:pre.length=0
     ·exact .inl q
     ·have:¬ (48≤(c.toNat:Int)∧(c.toNat:Int)≤57):=fun g=>hnc (.inr (.inr (.inr ⟨by simpa using q,g⟩)))
      omega)]
   simp
def nameB (s:ByteArray):Bool:=decide (1≤s.size∧s.size≤64)&&nameL true (L s)
theorem lname (s:ByteArray):Z0g.f s=some (nameB s):=by
 unfold Z0g.f nameB;rw[isEmptyB];by_cases h0:s.size=0
 ·simp[h0,sb]
 ·by_cases h1:s.size≤64
  ·rw[if_neg (by simpa using h0),sb,if_neg (by simp;omega),lname_l0 s (by omega) (L s) [] 0 rfl rfl,sb]
   have:decide (1≤s.size∧s.size≤64)=true:=decide_eq_true ⟨by omega,h1⟩;rw[this];simp only[List.length_nil,decide_true,Bool.true_and];cases nameL true (L s)<;>rfl
  ·rw[if_neg (by simpa using h0),sb,if_pos (by simp;omega)]
   have:decide (1≤s.size∧s.size≤64)=false:=decide_eq_false (by omega);rw[this];rfl
def valB (s:ByteArray):Bool:=decide (1≤s.size∧s.size≤64)
theorem lvalue (s:ByteArray):Z1r.f s=some (valB s):=by
 unfold Z1r.f valB;rw[isEmptyB];by_cases h0:s.size=0
 ·simp[h0,sb]
 ·rw[if_pos (by simpa using h0),sb]
  congr 1;rw[Bool.eq_iff_iff];simp;omega
def Z35:Option ByteArray→List Zk→Bool
 | _,[]=>true
 | p,x::l=>nameB x.f0&&(valB x.f1&&((match p with | none=>true | some q=>bl q x.f0)&&Z35 (some x.f0) l))
theorem Z46 (p:Option ByteArray) (x:Zk) (l:List Zk):Z35 p (x::l)=(nameB x.f0&&(valB x.f1&&((match p with | none=>true | some q=>bl q x.f0)&&Z35 (some x.f0) l))):=rfl
def chkC (l:List Zk):Int:=if l.length>16 then 9 else if Z35 none l=true then 0 else 26
def lastN (pre:List Zk):Option ByteArray:=pre.getLast?.map (·.f0)
theorem lcheck_l0 (l:List Zk) (hl:l.length<1000):∀ (suf pre:List Zk) (i:Int),l=pre++suf→i=(pre.length:Int)→Z0f.l0 l i=some (if Z35 (lastN pre) suf=true then .inr () else .inl 26):=by
 intro suf
 induction suf with
 | nil=>intro pre i h1 hi;rw[Z0f.l0,if_neg (by rw[h1];simp[hi])];rfl
 | cons x suf ih =>
  intro pre i h1 hi;have hlen:l.length=pre.length+(suf.length+1):=by rw[h1];simp
  rw[Z0f.l0,if_pos (by simp;omega),Z1p h1 hi,sb,lname,sb,lvalue,sb,Zf (n:=i+1) (by omega) (by omega)];have hnext:=ih (pre++[x]) (i+1) (by simp[h1]) (by simp;omega);rw[hnext,show lastN (pre++[x])=some x.f0 by simp[lastN],Z46];cases nameB x.f0
  ·simp[sb]
  cases valB x.f1
  ·simp[sb]
  rcases List.eq_nil_or_concat pre with rfl | ⟨p',p,rfl⟩
  ·simp only[Bool.not_true,Bool.false_eq_true,if_false,Bool.true_and]
   rw[if_neg (by simp at hi ⊢;omega),sb,if_neg (by simp)];simp[lastN]
  ·simp only[Bool.not_true,Bool.false_eq_true,if_false,Bool.true_and]
   simp only[List.concat_eq_append,List.length_append,List.length_singleton] at hi hlen ⊢;rw[if_pos (by simp;omega),Zf (n:=i-1) (by omega) (by omega),Z1p (pre:=p') (suf:=x::suf) (x:=p) (by rw[h1];simp) (by omega),sb,sb,show lastN (p'++[p])=some p.f0 by simp[lastN]];cases h:bl p.f0 x.f0<;>simp[h]
theorem lcheck (l:List Zk):Z0f.f l=some (chkC l):=by
 unfold Z0f.f chkC;by_cases h:l.length>16
 ·rw[if_pos (by simp;omega),if_pos h]
 ·rw[if_neg (by simp;omega),if_neg h,lcheck_l0 l (by omega) l [] 0 rfl rfl,sb,show lastN []=none from rfl]
  cases Z35 none l<;>rfl
def lessL (x y:Zk):Bool:=bl x.f0 y.f0||(decide (x.f0=y.f0)&&bl x.f1 y.f1)
def cmpL:List Zk→List Zk→Int
 | [],[]=>0
 | [],_::_ => -1
 | _::_,[]=>1
 | x::a,y::b=>if x=y then cmpL a b else if lessL x y=true then -1 else 1
theorem cmpL_zero:∀ a b,cmpL a b=0↔a=b
 | [],[]=>by simp[cmpL]
 | [],_::_=>by simp[cmpL]
 | _::_,[]=>by simp[cmpL]
 | x::a,y::b=>by
  rw[cmpL];by_cases h:x=y
  ·rw[if_pos h,cmpL_zero a b];simp[h]
  ·rw[if_neg h];split<;>simp[h]
theorem lessL_irrefl (x:Zk):lessL x x=false:=by simp[lessL,bl_irrefl']
theorem rcmp_l0 (a b:List Zk) (ha:a.length<10000000000000) (hb:b.length<10000000000000):∀ (sa sb' pa pb:List Zk) (i:Int),a=pa++sa→b=pb++sb'→pa.length=pb.length→i=(pa.length:Int) →
  (Z0h.l0 a b i=some (.inr ())∧(if a.length<b.length then -1 else if b.length<a.length then 1 else 0)=cmpL sa sb')∨Z0h.l0 a b i=some (.inl (cmpL sa sb')):=by
 intro sa
 induction sa with
 | nil =>
  intro sb' pa pb i h1 h2 h3 hi;rw[Z0h.l0,if_neg (by rw[h1];simp[hi]),sb,if_neg (by simp)];left;cases sb' with
  | nil=>rw[if_neg (by rw[h1,h2];simp;omega),if_neg (by rw[h1,h2];simp;omega)];exact⟨rfl,rfl⟩
  | cons y sb'=>rw[if_pos (by rw[h1,h2];simp;omega)];exact⟨rfl,rfl⟩
 | cons x sa ih =>
  intro sb' pa pb i h1 h2 h3 hi;have hla:a.length=pa.length+(sa.length+1):=by rw[h1];simp
  rw[Z0h.l0,if_pos (by simp;omega),sb];cases sb' with
  | nil =>
   have hlb:b.length=pb.length:=by rw[h2];simp
   rw[if_neg (by simp;omega),if_neg (by omega),if_pos (by omega)];exact .inl ⟨rfl,rfl⟩
  | cons y sb' =>
   have hlb:b.length=pb.length+(sb'.length+1):=by rw[h2];simp
   have hl:((if(Op.bytesLess x.f0.toList y.f0.toList)=true then(some true) else(if decide (x.f0=y.f0)=true then(some (Op.bytesLess x.f1.toList y.f1.toList)) else(some false))):Option Bool)=some (lessL x y):=by
    show((if bl x.f0 y.f0=true then(some true) else(if decide (x.f0=y.f0)=true then(some (bl x.f1 y.f1)) else(some false))):Option Bool)=_;unfold lessL;cases bl x.f0 y.f0
    ·rw[if_neg (by simp)]
     by_cases e:x.f0=y.f0<;>simp[e]
    ·rw[if_pos rfl];rfl
   have he:(!((decide (x.f0=y.f0))&&((decide (x.f1=y.f1))&&true))) = !decide (x=y):=by
    obtain⟨x0,x1⟩:=x;obtain⟨y0,y1⟩:=y;by_cases h0:x0=y0<;>by_cases h1:x1=y1<;>simp[h0,h1]
   rw[if_pos (by simp;omega),Z1p h1 hi,sb,Z1p h2 (by omega),sb,sb,sb,eqB,eqB,hl,sb,he,Zf (by omega) (by omega),cmpL];by_cases e:x=y
   ·rw[if_neg (by rw[e,lessL_irrefl];simp),if_neg (by simpa using e),if_pos e]
    exact ih sb' (pa++[x]) (pb++[y]) (i+1) (by simp[h1]) (by simp[h2]) (by simp;omega) (by simp;omega)
   ·rw[if_neg e]
    right;cases lessL x y
    ·rw[if_neg (by simp),if_pos (by simpa using e)];rfl
    ·rw[if_pos rfl];rfl
theorem rcmp (a b:List Zk) (ha:a.length<10000000000000) (hb:b.length<10000000000000):Z0h.f a b=some (cmpL a b):=by
 unfold Z0h.f;rcases rcmp_l0 a b ha hb a b [] [] 0 rfl rfl rfl rfl with ⟨h1,h2⟩ | h1
 ·rw[h1,sb,← h2]
  by_cases h:a.length<b.length
  ·simp[h]
  ·by_cases h3:b.length<a.length<;>simp[h,h3]
 ·rw[h1,sb]
def nLt (a b:Zk):Bool:=bl a.f0 b.f0
def emp (x:Zk):Bool:=decide (x.f1.size=0)
def rem:List Zk→List Bool→List Zk
 | x::l,u::us=>if u=false∧emp x=false then x::rem l us else rem l us
 | _,_=>[]
inductive Best:List Zk→List Bool→Int→Prop
 | none {p u}:rem p u=[]→Best p u (-1)
 | some {A B uA uB m}:A.length=uA.length→B.length=uB.length→emp m=false→(∀ a∈rem A uA,nLt m a=true)→(∀ b∈rem B uB,nLt b m=false)→Best (A++m::B) (uA++false::uB) (A.length:Int)
end Go.Proofs.YtlkonkfkapdimaaGreatDoor.PvGR
