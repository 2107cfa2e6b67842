import Derived.Test.YtcilcefjcaimoaaGreatPxGroupTops09
set_option linter.unusedVariables false
set_option linter.unusedSimpArgs false
namespace Go.Proofs.YtcilcefjcaimoaaGreat.PvGQ
open Go Go.Pv Go.Pv.GS
theorem emptyB:(⟨#[]⟩:ByteArray).toList=[]:=by rw[Z64]
theorem sizeL (s:ByteArray):s.toList.length=s.size:=by rw[Z64,size_L]
theorem isEmptyB (s:ByteArray):(s.toList==(⟨#[]⟩:ByteArray).toList)=decide (s.size=0):=by
 rw[emptyB,Bool.eq_iff_iff,beq_iff_eq,decide_eq_true_eq,← sizeL];exact List.length_eq_zero_iff.symm
def nameC (c:Int) (first:Bool):Bool:=decide ((97≤c∧c≤122)∨(65≤c∧c≤90)∨c=95∨(first=false∧48≤c∧c≤57))
def nameL:Bool→List UInt8→Bool
 | _,[]=>true
 | f,c::l=>nameC (c.toNat:Int) f&&nameL false l
theorem rname_l0 (s:ByteArray) (hs:s.size<1000):∀ (suf pre:List UInt8) (i:Int),L s=pre++suf→i=(pre.length:Int)→Z1v.l0 s i=some (if nameL (decide (pre.length=0)) suf=true then .inr () else .inl false):=by
 intro suf
 induction suf with
 | nil =>
  intro pre i h1 hi;have:=congrArg List.length h1;rw[size_L] at this;simp at this;rw[Z1v.l0,if_neg (by simp;omega)];rfl
 | cons c suf ih =>
  intro pre i h1 hi;have hlen:=congrArg List.length h1;rw[size_L] at hlen;simp at hlen;have hc:(L s)[pre.length]? = some c:=by rw[h1];simp
  have hnext:=ih (pre++[c]) ((pre.length:Int)+1) (by rw[h1];simp) (by simp);have e3:decide ((pre++[c]).length=0)=false:=by simp
  rw[e3] at hnext;have hn:nameL (decide (pre.length=0)) (c::suf)=(nameC (c.toNat:Int) (decide (pre.length=0))&&nameL false suf):=rfl;rw[Z1v.l0,if_pos (by simp;omega),chkB (by omega),hi,bt_L hc,Z08 (by omega) (by omega),hnext,hn];have hp:(decide (((pre.length:Int))>(0:Int))) = !decide (pre.length=0):=by
   by_cases q:pre.length=0
   ·rw[decide_eq_true q,decide_eq_false (by omega)];rfl
   ·rw[decide_eq_false q,decide_eq_true (by omega)];rfl
  rw[hp];simp only[nameC];generalize (c.toNat:Int)=x;cases decide (pre.length=0)<;>by_cases q1:97≤x<;>by_cases q2:x≤122<;>by_cases q3:65≤x<;>by_cases q4:x≤90<;>by_cases q5:x=95<;>by_cases q6:48≤x<;>by_cases q7:x≤57<;>simp[q1,q2,q3,q4,q5,q6,q7,sb]<;>omega
def nameB (s:ByteArray):Bool:=decide (1≤s.size∧s.size≤64)&&nameL true (L s)
theorem rname (s:ByteArray):Z1v.f s=some (nameB s):=by
 unfold Z1v.f nameB;by_cases h0:s.size=0
 ·rw[if_pos (decide_eq_true (by omega)),sb,if_pos rfl,decide_eq_false (by omega)];rfl
 ·by_cases h1:s.size≤64
  ·rw[if_neg (by simp;omega),sb,if_neg (by simp;omega),rname_l0 s (by omega) (L s) [] 0 rfl rfl,sb]
   have:decide (1≤s.size∧s.size≤64)=true:=decide_eq_true ⟨by omega,h1⟩;rw[this];simp only[List.length_nil,decide_true,Bool.true_and];cases nameL true (L s)<;>rfl
  ·rw[if_neg (by simp;omega),sb,if_pos (by simp;omega),decide_eq_false (by omega)];rfl
def valB (s:ByteArray):Bool:=decide (1≤s.size∧s.size≤64)
def Z5e:Option ByteArray→List Z00→Bool
 | _,[]=>true
 | p,x::l=>nameB x.f0&&(valB x.f1&&((match p with | none=>true | some q=>bl q x.f0)&&Z5e (some x.f0) l))
theorem Z5s (p:Option ByteArray) (x:Z00) (l:List Z00):Z5e p (x::l)=(nameB x.f0&&(valB x.f1&&((match p with | none=>true | some q=>bl q x.f0)&&Z5e (some x.f0) l))):=rfl
def chkC (l:List Z00):Int:=if l.length>16 then 9 else if Z5e none l=true then 0 else 26
def lastN (pre:List Z00):Option ByteArray:=pre.getLast?.map (·.f0)
theorem rcheck_l0 (l:List Z00) (hl:l.length<1000):∀ (suf pre:List Z00) (i:Int),l=pre++suf→i=(pre.length:Int)→Z1c.l0 l i=some (if Z5e (lastN pre) suf=true then .inr () else .inl 26):=by
 intro suf
 induction suf with
 | nil=>intro pre i h1 hi;rw[Z1c.l0,if_neg (by rw[h1];simp[hi])];rfl
 | cons x suf ih =>
  intro pre i h1 hi;have hlen:l.length=pre.length+(suf.length+1):=by rw[h1];simp
  have hnext:=ih (pre++[x]) (i+1) (by simp[h1]) (by simp;omega);rw[Z1c.l0,if_pos (by simp;omega),Z2w h1 hi,sb,rname,sb,Z08 (n:=i+1) (by omega) (by omega),hnext,show lastN (pre++[x])=some x.f0 by simp[lastN],Z5s];cases nameB x.f0
  ·simp[sb]
  simp only[Bool.not_true,Bool.false_eq_true,if_false,Bool.true_and];have hv:((if(decide ((x.f1.size:Int)<(1:Int)))=true then(some true) else(some (decide ((x.f1.size:Int)>(64:Int))))):Option Bool)=some (!valB x.f1):=by
   unfold valB;by_cases q:x.f1.size<1
   ·rw[if_pos (by simp;omega),decide_eq_false (by omega)];rfl
   ·rw[if_neg (by simp;omega)]
    congr 1;by_cases q2:x.f1.size≤64
    ·rw[decide_eq_true (show 1≤x.f1.size∧x.f1.size≤64 by omega),decide_eq_false (by omega)];rfl
    ·rw[decide_eq_false (show ¬ (1≤x.f1.size∧x.f1.size≤64) by omega),decide_eq_true (by omega)];rfl
  rw[hv,sb];cases valB x.f1
  ·simp
  rcases List.eq_nil_or_concat pre with rfl | ⟨p',p,rfl⟩
  ·simp only[Bool.not_true,Bool.false_eq_true,if_false,Bool.true_and]
   rw[if_neg (by simp at hi ⊢;omega),sb,if_neg (by simp)];simp[lastN]
  ·simp only[Bool.not_true,Bool.false_eq_true,if_false,Bool.true_and]
   simp only[List.concat_eq_append,List.length_append,List.length_singleton] at hi hlen ⊢;rw[if_pos (by simp;omega),Z08 (n:=i-1) (by omega) (by omega),Z2w (pre:=p') (suf:=x::suf) (x:=p) (by rw[h1];simp) (by omega),sb,sb,sb,show lastN (p'++[p])=some p.f0 by simp[lastN]];cases h:bl p.f0 x.f0<;>simp[h]
theorem rcheck (l:List Z00):Z1c.f l=some (chkC l):=by
 unfold Z1c.f chkC;by_cases h:l.length>16
 ·rw[if_pos (by simp;omega),if_pos h]
 ·rw[if_neg (by simp;omega),if_neg h,rcheck_l0 l (by omega) l [] 0 rfl rfl,sb,show lastN []=none from rfl]
  cases Z5e none l<;>rfl
def Z74 (x y:Z00):Bool:=bl x.f0 y.f0||(decide (x.f0=y.f0)&&bl x.f1 y.f1)
def cmpL:List Z00→List Z00→Int
 | [],[]=>0
 | [],_::_ => -1
 | _::_,[]=>1
 | x::a,y::b=>if x=y then cmpL a b else if Z74 x y=true then -1 else 1
theorem Z83 (x:Z00):Z74 x x=false:=by simp[Z74,Z7s]
theorem rcmp_l0 (a b:List Z00) (ha:a.length<10000000000000) (hb:b.length<10000000000000):∀ (sa sb' pa pb:List Z00) (i:Int),a=pa++sa→b=pb++sb'→pa.length=pb.length→i=(pa.length:Int) →
  (Z12.l0 a b i=some (.inr ())∧(if a.length<b.length then -1 else if b.length<a.length then 1 else 0)=cmpL sa sb')∨Z12.l0 a b i=some (.inl (cmpL sa sb')):=by
 intro sa
 induction sa with
 | nil =>
  intro sb' pa pb i h1 h2 h3 hi;rw[Z12.l0,if_neg (by rw[h1];simp[hi]),sb,if_neg (by simp)];left;cases sb' with
  | nil=>rw[if_neg (by rw[h1,h2];simp;omega),if_neg (by rw[h1,h2];simp;omega)];exact⟨rfl,rfl⟩
  | cons y sb'=>rw[if_pos (by rw[h1,h2];simp;omega)];exact⟨rfl,rfl⟩
 | cons x sa ih =>
  intro sb' pa pb i h1 h2 h3 hi;have hla:a.length=pa.length+(sa.length+1):=by rw[h1];simp
  rw[Z12.l0,if_pos (by simp;omega),sb];cases sb' with
  | nil =>
   have hlb:b.length=pb.length:=by rw[h2];simp
   rw[if_neg (by simp;omega),if_neg (by omega),if_pos (by omega)];exact .inl ⟨rfl,rfl⟩
  | cons y sb' =>
   have hlb:b.length=pb.length+(sb'.length+1):=by rw[h2];simp
   have hl:((if(Op.bytesLess x.f0.toList y.f0.toList)=true then(some true) else(if decide (x.f0=y.f0)=true then(some (Op.bytesLess x.f1.toList y.f1.toList)) else(some false))):Option Bool)=some (Z74 x y):=by
    show((if bl x.f0 y.f0=true then(some true) else(if decide (x.f0=y.f0)=true then(some (bl x.f1 y.f1)) else(some false))):Option Bool)=_;unfold Z74;cases bl x.f0 y.f0
    ·rw[if_neg (by simp)]
     by_cases e:x.f0=y.f0<;>simp[e]
    ·rw[if_pos rfl];rfl
   have he:(!((decide (x.f0=y.f0))&&((decide (x.f1=y.f1))&&true))) = !decide (x=y):=by
    obtain⟨x0,x1⟩:=x;obtain⟨y0,y1⟩:=y;by_cases h0:x0=y0<;>by_cases h1:x1=y1<;>simp[h0,h1]
   rw[if_pos (by simp;omega),Z2w h1 hi,sb,Z2w h2 (by omega),sb,sb,sb,eqB,eqB,hl,sb,he,Z08 (by omega) (by omega),cmpL];by_cases e:x=y
   ·rw[if_neg (by rw[e,Z83         ];simp),if_neg (by simpa using e),if_pos e]
    exact ih sb' (pa++[x]) (pb++[y]) (i+1) (by simp[h1]) (by simp[h2]) (by simp;omega) (by simp;omega)
   ·rw[if_neg e]
    right;cases Z74 x y
    ·rw[if_neg (by simp),if_pos (by simpa using e)];rfl
    ·rw[if_pos rfl];rfl
theorem rcmp (a b:List Z00) (ha:a.length<10000000000000) (hb:b.length<10000000000000):Z12.f a b=some (cmpL a b):=by
 unfold Z12.f;rcases rcmp_l0 a b ha hb a b [] [] 0 rfl rfl rfl rfl with ⟨h1,h2⟩ | h1
 ·rw[h1,sb,← h2]
  by_cases h:a.length<b.length
  ·simp[h]
  ·by_cases h3:b.length<a.length<;>simp[h,h3]
 ·rw[h1,sb]
def nLt (a b:Z00):Bool:=bl a.f0 b.f0
def emp (x:Z00):Bool:=decide (x.f1.size=0)
def rem:List Z00→List Bool→List Z00
 | x::l,u::us=>if u=false∧emp x=false then x::rem l us else rem l us
 | _,_=>[]
inductive Best:List Z00→List Bool→Int→Prop
 | none {p u}:rem p u=[]→Best p u (-1)
 | some {A B uA uB m}:A.length=uA.length→B.length=uB.length→emp m=false→(∀ a∈rem A uA,nLt m a=true)→(∀ b∈rem B uB,nLt b m=false)→Best (A++m::B) (uA++false::uB) (A.length:Int)
end Go.Proofs.YtcilcefjcaimoaaGreat.PvGQ
