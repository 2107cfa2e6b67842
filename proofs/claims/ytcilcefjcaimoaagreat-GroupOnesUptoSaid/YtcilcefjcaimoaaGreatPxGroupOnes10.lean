import Derived.Test.YtcilcefjcaimoaaGreatPxGroupOnes09
set_option linter.unusedVariables false
set_option linter.unusedSimpArgs false
namespace Go.Proofs.YtcilcefjcaimoaaGreat.PvGQ
open Go Go.Pv Go.Pv.GS Go.IntKind
def nameC (c:Int) (first:Bool):Bool:=decide ((97≤c∧c≤122)∨(65≤c∧c≤90)∨c=95∨(first=false∧48≤c∧c≤57))
def nameL:Bool→List UInt8→Bool
 | _,[]=>true
 | f,c::l=>nameC (c.toNat:Int) f&&nameL false l
theorem rname_l0 (s:ByteArray) (hs:s.size<1000):∀ (suf pre:List UInt8) (i:Int),L s=pre++suf→i=(pre.length:Int)→Z32.l0 s i=some (if nameL (decide (pre.length=0)) suf=true then .inr () else .inl false):=by
 intro suf
 induction suf with
 | nil =>
  intro pre i h1 hi;have:=congrArg List.length h1;rw[size_L] at this;simp at this;rw[Z32.l0,if_neg (by simp;omega)];rfl
 | cons c suf ih =>
  intro pre i h1 hi;have hlen:=congrArg List.length h1;rw[size_L] at hlen;simp at hlen;have hc:(L s)[pre.length]? = some c:=by rw[h1];simp
  have hnext:=ih (pre++[c]) ((pre.length:Int)+1) (by rw[h1];simp) (by simp);have e3:decide ((pre++[c]).length=0)=false:=by simp
  rw[e3] at hnext;have hn:nameL (decide (pre.length=0)) (c::suf)=(nameC (c.toNat:Int) (decide (pre.length=0))&&nameL false suf):=rfl;rw[Z32.l0,if_pos (by simp;omega),chkB (by omega),hi,bt_L hc,Zh (by omega) (by omega),hnext,hn];have hp:(decide (((pre.length:Int))>(0:Int))) = !decide (pre.length=0):=by
   by_cases q:pre.length=0
   ·rw[decide_eq_true q,decide_eq_false (by omega)];rfl
   ·rw[decide_eq_false q,decide_eq_true (by omega)];rfl
  rw[hp];simp only[nameC];generalize (c.toNat:Int)=x;cases decide (pre.length=0)<;>by_cases q1:97≤x<;>by_cases q2:x≤122<;>by_cases q3:65≤x<;>by_cases q4:x≤90<;>by_cases q5:x=95<;>by_cases q6:48≤x<;>by_cases q7:x≤57<;>simp[q1,q2,q3,q4,q5,q6,q7,sb]<;>omega
def nameB (s:ByteArray):Bool:=decide (1≤s.size∧s.size≤64)&&nameL true (L s)
theorem rname (s:ByteArray):Z32.f s=some (nameB s):=by
 unfold Z32.f nameB;by_cases h0:s.size=0
 ·rw[if_pos (decide_eq_true (by omega)),sb,if_pos rfl,decide_eq_false (by omega)];rfl
 ·by_cases h1:s.size≤64
  ·rw[if_neg (by simp;omega),sb,if_neg (by simp;omega),rname_l0 s (by omega) (L s) [] 0 rfl rfl,sb]
   have:decide (1≤s.size∧s.size≤64)=true:=decide_eq_true ⟨by omega,h1⟩;rw[this];simp only[List.length_nil,decide_true,Bool.true_and];cases nameL true (L s)<;>rfl
  ·rw[if_neg (by simp;omega),sb,if_pos (by simp;omega),decide_eq_false (by omega)];rfl
def valB (s:ByteArray):Bool:=decide (1≤s.size∧s.size≤64)
def Z9m:Option ByteArray→List Zo→Bool
 | _,[]=>true
 | p,x::l=>nameB x.f0&&(valB x.f1&&((match p with | none=>true | some q=>bl q x.f0)&&Z9m (some x.f0) l))
theorem risingB_cons (p:Option ByteArray) (x:Zo) (l:List Zo):Z9m p (x::l)=(nameB x.f0&&(valB x.f1&&((match p with | none=>true | some q=>bl q x.f0)&&Z9m (some x.f0) l))):=rfl
def chkC (l:List Zo):Int:=if l.length>16 then 9 else if Z9m none l=true then 0 else 26
def lastN (pre:List Zo):Option ByteArray:=pre.getLast?.map (·.f0)
theorem rcheck_l0 (l:List Zo) (hl:l.length<1000):∀ (suf pre:List Zo) (i:Int),l=pre++suf→i=(pre.length:Int)→Z2e.l0 l i=some (if Z9m (lastN pre) suf=true then .inr () else .inl 26):=by
 intro suf
 induction suf with
 | nil=>intro pre i h1 hi;rw[Z2e.l0,if_neg (by rw[h1];simp[hi])];rfl
 | cons x suf ih =>
  intro pre i h1 hi;have hlen:l.length=pre.length+(suf.length+1):=by rw[h1];simp
  have hnext:=ih (pre++[x]) (i+1) (by simp[h1]) (by simp;omega);rw[Z2e.l0,if_pos (by simp;omega),Z0t h1 hi,sb,rname,sb,Zh (n:=i+1) (by omega) (by omega),hnext,show lastN (pre++[x])=some x.f0 by simp[lastN],risingB_cons];cases nameB x.f0
  ·simp[sb]
  simp only[Bool.not_true,Bool.false_eq_true,if_false,Bool.true_and];have hv:((if(decide ((x.f1.size:Int)<(1:Int)))=true then(some true) else(some (decide ((x.f1.size:Int)>(64:Int))))):Option Bool)=some (!valB x.f1):=by
   unfold valB;by_cases q:x.f1.size<1
   ·rw[if_pos (by simp;omega),decide_eq_false (by omega)];rfl
   ·rw[if_neg (by simp;omega)]
    congr 1;by_cases q2:x.f1.size≤64
    ·rw[decide_eq_true (show 1≤x.f1.size∧x.f1.size≤64 by omega),decide_eq_false (by omega)];rfl
    ·rw[decide_eq_false (show ¬ (1≤x.f1.size∧x.f1.size≤64) by omega),decide_eq_true (by omega)];rfl
  rw[hv,sb];cases valB x.f1
  ·simp
  rcases List.eq_nil_or_concat pre with rfl | ⟨p',p,rfl⟩
  ·simp only[Bool.not_true,Bool.false_eq_true,if_false,Bool.true_and]
   rw[if_neg (by simp at hi ⊢;omega),sb,if_neg (by simp)];simp[lastN]
  ·simp only[Bool.not_true,Bool.false_eq_true,if_false,Bool.true_and]
   simp only[List.concat_eq_append,List.length_append,List.length_singleton] at hi hlen ⊢;rw[if_pos (by simp;omega),Zh (n:=i-1) (by omega) (by omega),Z0t (pre:=p') (suf:=x::suf) (x:=p) (by rw[h1];simp) (by omega),sb,sb,sb,show lastN (p'++[p])=some p.f0 by simp[lastN]];cases h:bl p.f0 x.f0<;>simp[h]
theorem rcheck (l:List Zo):Z2e.f l=some (chkC l):=by
 unfold Z2e.f chkC;by_cases h:l.length>16
 ·rw[if_pos (by simp;omega),if_pos h]
 ·rw[if_neg (by simp;omega),if_neg h,rcheck_l0 l (by omega) l [] 0 rfl rfl,sb,show lastN []=none from rfl]
  cases Z9m none l<;>rfl
theorem cmp_str (a b:ByteArray):Z1v.f a b=some (if bl a b=true then -1 else if bl b a=true then 1 else 0):=by
 unfold Z1v.f Z0m.f;rw[sb,sb];simp only[beq_self_eq_true,Bool.not_true,Bool.false_eq_true,if_false];rw[eqB];show(if bl a b=true then some (-1) else if(!(bl a b||decide (a=b)))=true then some 1 else some 0)=_;cases h1:bl a b with
 | true=>simp
 | false =>
  cases h2:bl b a with
  | true =>
   have:a≠b:=fun e=>by subst e;rw[h1] at h2;exact absurd h2 (by simp)
   simp[this]
  | false=>simp[Zbx h1 h2]
def Z5a (x y:Zo):Bool:=bl x.f0 y.f0||(decide (x.f0=y.f0)&&bl x.f1 y.f1)
def cmpL:List Zo→List Zo→Int
 | [],[]=>0
 | [],_::_ => -1
 | _::_,[]=>1
 | x::a,y::b=>if x=y then cmpL a b else if Z5a x y=true then -1 else 1
theorem Z94:∀ a b,cmpL a b=0↔a=b
 | [],[]=>by simp[cmpL]
 | [],_::_=>by simp[cmpL]
 | _::_,[]=>by simp[cmpL]
 | x::a,y::b=>by
  rw[cmpL];by_cases h:x=y
  ·rw[if_pos h,Z94 a b];simp[h]
  ·rw[if_neg h];split<;>simp[h]
theorem Za8 (x:Zo):Z5a x x=false:=by simp[Z5a,Z4u]
theorem lessL_tri {x y:Zo} (h1:Z5a x y=false) (h2:Z5a y x=false):x=y:=by
 simp only[Z5a,Bool.or_eq_false_iff] at h1 h2;have e:=Zbx h1.1 h2.1;have g1:=h1.2;have g2:=h2.2;simp only[e,decide_true,Bool.true_and] at g1 g2;have e2:=Zbx g1 g2;cases x;cases y;simp_all
theorem lessL_asymm {x y:Zo} (h:Z5a x y=true):Z5a y x=false:=by
 simp only[Z5a,Bool.or_eq_true,Bool.and_eq_true,decide_eq_true_eq] at h;simp only[Z5a,Bool.or_eq_false_iff];rcases h with h | ⟨e,h⟩
 ·refine⟨bl_asymm h,?_⟩
  have:y.f0≠x.f0:=fun e=>by rw[e,Z4u] at h;exact absurd h (by simp)
  simp[this]
 ·rw[e];exact⟨Z4u _,by simp;exact bl_asymm h⟩
theorem cmpL_neg:∀ a b,cmpL a b = - cmpL b a
 | [],[]=>rfl
 | [],_::_=>rfl
 | _::_,[]=>rfl
 | x::a,y::b=>by
  rw[cmpL,cmpL];by_cases h:x=y
  ·rw[if_pos h,if_pos h.symm,cmpL_neg a b]
  ·rw[if_neg h,if_neg (show ¬ y=x from fun e=>h e.symm)]
   cases e:Z5a x y with
   | true=>rw[if_pos rfl,if_neg (by rw[lessL_asymm e];simp)]
   | false =>
    cases e2:Z5a y x with
    | true=>rfl
    | false=>exact absurd (lessL_tri e e2) h
theorem or2' (a b:Int):Z2q.f [a,b]=some (if a≠0 then a else b):=by
 have w1:i64.wrap ((0:Int)+1)=1:=by decide
 have w2:i64.wrap ((1:Int)+1)=2:=by decide
 unfold Z2q.f;rw[Z2q.l0,if_pos (by simp),show at? [a,b] 0=some a from rfl,sb];by_cases ha:a=0
 ·subst ha
  rw[if_neg (by simp),w1,Z2q.l0,if_pos (by simp),show at? [0,b] 1=some b from rfl,sb];by_cases hb:b=0
  ·subst hb
   rw[if_neg (by simp),w2,Z2q.l0,if_neg (by simp)];rfl
  ·rw[if_pos (by simpa using hb)];simp[hb]
 ·rw[if_pos (by simpa using ha)];simp[ha]
theorem cmp_lab (x y:Zo):Z3l.f x y=some (if x=y then 0 else if Z5a x y=true then -1 else 1):=by
 unfold Z3l.f;rw[cmp_str,sb,cmp_str,sb,or2',sb];congr 1;cases h1:bl x.f0 y.f0 with
 | true =>
  have:x≠y:=fun e=>by rw[e,Z4u] at h1;exact absurd h1 (by simp)
  simp[Z5a,h1,this]
 | false =>
  cases h2:bl y.f0 x.f0 with
  | true =>
   have h3:x.f0≠y.f0:=fun e=>by rw[e,Z4u] at h2;exact absurd h2 (by simp)
   have:x≠y:=fun e=>h3 (by rw[e]);simp[Z5a,h1,h3,this]
  | false =>
   have e:=Zbx h1 h2;cases h3:bl x.f1 y.f1 with
   | true =>
    have:x≠y:=fun e=>by rw[e,Z4u] at h3;exact absurd h3 (by simp)
    simp[Z5a,h1,h3,this,e,Z4u]
   | false =>
    cases h4:bl y.f1 x.f1 with
    | true =>
     have:x≠y:=fun e=>by rw[e,Z4u] at h4;exact absurd h4 (by simp)
     simp[Z5a,h1,h3,this,e,Z4u]
    | false =>
     have e2:=Zbx h3 h4;have:x=y:=by cases x;cases y;simp_all
     simp[this]
theorem lcmp_l0 (a b:List Zo) (ha:a.length<10000000000000) (hb:b.length<10000000000000):∀ (sa sb' pa pb:List Zo) (i:Int),a=pa++sa→b=pb++sb'→pa.length=pb.length→i=(pa.length:Int) →
  (Zf.l0 a b i=some (.inr ())∧(if a.length<b.length then -1 else 0)=cmpL sa sb')∨Zf.l0 a b i=some (.inl (cmpL sa sb')):=by
 intro sa
 induction sa with
 | nil =>
  intro sb' pa pb i h1 h2 h3 hi;rw[Zf.l0,if_neg (by rw[h1];simp[hi])];left;cases sb' with
  | nil=>rw[if_neg (by rw[h1,h2];simp;omega)];exact⟨rfl,rfl⟩
  | cons y sb'=>rw[if_pos (by rw[h1,h2];simp;omega)];exact⟨rfl,rfl⟩
 | cons x sa ih =>
  intro sb' pa pb i h1 h2 h3 hi;have hla:a.length=pa.length+(sa.length+1):=by rw[h1];simp
  rw[Zf.l0,if_pos (by simp;omega),Z0t h1 hi,sb];cases sb' with
  | nil =>
   have hlb:b.length=pb.length:=by rw[h2];simp
   rw[if_pos (by simp;omega)];exact .inr rfl
  | cons y sb' =>
   have hlb:b.length=pb.length+(sb'.length+1):=by rw[h2];simp
   rw[if_neg (by simp;omega),Z0t h2 (by omega),sb,cmp_lab,sb,Zh (by omega) (by omega),cmpL];by_cases e:x=y
   ·rw[if_pos e,if_neg (by simp),if_pos e]
    exact ih sb' (pa++[x]) (pb++[y]) (i+1) (by simp[h1]) (by simp[h2]) (by simp;omega) (by simp;omega)
   ·rw[if_neg e,if_neg e]
    right;split<;>rfl
theorem lcmp (a b:List Zo) (ha:a.length<10000000000000) (hb:b.length<10000000000000):Z46.f a b=some (cmpL a b):=by
 unfold Z46.f Zf.f;rcases lcmp_l0 a b ha hb a b [] [] 0 rfl rfl rfl rfl with ⟨h1,h2⟩ | h1
 ·rw[h1,sb,← h2]
  by_cases h:a.length<b.length
  ·simp[h,sb]
  ·simp[h,sb]
 ·rw[h1,sb,sb]
theorem rcmp_l0 (a b:List Zo) (ha:a.length<10000000000000) (hb:b.length<10000000000000):∀ (sa sb' pa pb:List Zo) (i:Int),a=pa++sa→b=pb++sb'→pa.length=pb.length→i=(pa.length:Int) →
  (Z17.l0 a b i=some (.inr ())∧(if a.length<b.length then -1 else if b.length<a.length then 1 else 0)=cmpL sa sb')∨Z17.l0 a b i=some (.inl (cmpL sa sb')):=by
 intro sa
 induction sa with
 | nil =>
  intro sb' pa pb i h1 h2 h3 hi;rw[Z17.l0,if_neg (by rw[h1];simp[hi]),sb,if_neg (by simp)];left;cases sb' with
  | nil=>rw[if_neg (by rw[h1,h2];simp;omega),if_neg (by rw[h1,h2];simp;omega)];exact⟨rfl,rfl⟩
  | cons y sb'=>rw[if_pos (by rw[h1,h2];simp;omega)];exact⟨rfl,rfl⟩
 | cons x sa ih =>
  intro sb' pa pb i h1 h2 h3 hi;have hla:a.length=pa.length+(sa.length+1):=by rw[h1];simp
  rw[Z17.l0,if_pos (by simp;omega),sb];cases sb' with
  | nil =>
   have hlb:b.length=pb.length:=by rw[h2];simp
   rw[if_neg (by simp;omega),if_neg (by omega),if_pos (by omega)];exact .inl ⟨rfl,rfl⟩
  | cons y sb' =>
   have hlb:b.length=pb.length+(sb'.length+1):=by rw[h2];simp
   have hl:((if(Op.bytesLess x.f0.toList y.f0.toList)=true then(some true) else(if decide (x.f0=y.f0)=true then(some (Op.bytesLess x.f1.toList y.f1.toList)) else(some false))):Option Bool)=some (Z5a x y):=by
    show((if bl x.f0 y.f0=true then(some true) else(if decide (x.f0=y.f0)=true then(some (bl x.f1 y.f1)) else(some false))):Option Bool)=_;unfold Z5a;cases bl x.f0 y.f0
    ·rw[if_neg (by simp)]
     by_cases e:x.f0=y.f0<;>simp[e]
    ·rw[if_pos rfl];rfl
   have he:(!((decide (x.f0=y.f0))&&((decide (x.f1=y.f1))&&true))) = !decide (x=y):=by
    obtain⟨x0,x1⟩:=x;obtain⟨y0,y1⟩:=y;by_cases h0:x0=y0<;>by_cases h1:x1=y1<;>simp[h0,h1]
   rw[if_pos (by simp;omega),Z0t h1 hi,sb,Z0t h2 (by omega),sb,sb,sb,eqB,eqB,hl,sb,he,Zh (by omega) (by omega),cmpL];by_cases e:x=y
   ·rw[if_neg (by rw[e,Za8         ];simp),if_neg (by simpa using e),if_pos e]
    exact ih sb' (pa++[x]) (pb++[y]) (i+1) (by simp[h1]) (by simp[h2]) (by simp;omega) (by simp;omega)
   ·rw[if_neg e]
    right;cases Z5a x y
    ·rw[if_neg (by simp),if_pos (by simpa using e)];rfl
    ·rw[if_pos rfl];rfl
theorem rcmp (a b:List Zo) (ha:a.length<10000000000000) (hb:b.length<10000000000000):Z17.f a b=some (cmpL a b):=by
 unfold Z17.f;rcases rcmp_l0 a b ha hb a b [] [] 0 rfl rfl rfl rfl with ⟨h1,h2⟩ | h1
 ·rw[h1,sb,← h2]
  by_cases h:a.length<b.length
  ·simp[h]
  ·by_cases h3:b.length<a.length<;>simp[h,h3]
 ·rw[h1,sb]
def nLt (a b:Zo):Bool:=bl a.f0 b.f0
def emp (x:Zo):Bool:=decide (x.f1.size=0)
abbrev Fit (l:List Zo):Prop:=l.length*32≤140737488355328
theorem clone_l (l:List Zo) (h:Fit l):Z11.f l=some l:=by
 unfold Z11.f;rw[chkB (by simpa using h)]
def rem:List Zo→List Bool→List Zo
 | x::l,u::us=>if u=false∧emp x=false then x::rem l us else rem l us
 | _,_=>[]
inductive Best:List Zo→List Bool→Int→Prop
 | none {p u}:rem p u=[]→Best p u (-1)
 | some {A B uA uB m}:A.length=uA.length→B.length=uB.length→emp m=false→(∀ a∈rem A uA,nLt m a=true)→(∀ b∈rem B uB,nLt b m=false)→Best (A++m::B) (uA++false::uB) (A.length:Int)
end Go.Proofs.YtcilcefjcaimoaaGreat.PvGQ
