import Derived.Test.YtinhldbfifpakaaGreatPxEntryReads22
set_option linter.unusedVariables false
set_option linter.unusedSimpArgs false
namespace Go.Proofs.YtinhldbfifpakaaGreat.PvGL2
open Go Go.Pv Go.Pv.GS Go.IntKind
def Zci (l:List Z2g):Prop:=(∀ x∈l,Zeq x.f0=true∧valB x.f1=true)∧l.Pairwise (fun a b=>nLt a b=true)
theorem Zdd:∀ (l:List Z2g) (q:ByteArray),Z6q (some q) l=true↔Zci l∧∀ x∈l,bl q x.f0=true
 | [],q=>by simp[Z6q,Zci]
 | x::l,q=>by
  have ih:=Zdd l x.f0
  rw[Z7u]
  simp only[Bool.and_eq_true,ih]
  unfold Zci
  simp only[List.mem_cons,forall_eq_or_imp,List.pairwise_cons]
  constructor
  ·rintro⟨h1,h2,h3,⟨h4,h5⟩,h6⟩
   exact⟨⟨⟨⟨h1,h2⟩,h4⟩,h6,h5⟩,h3,fun y hy=>bl_trans _ _ _ h3 (h6 y hy)⟩
  ·rintro⟨⟨⟨⟨h1,h2⟩,h4⟩,h6,h5⟩,h3,h7⟩
   exact⟨h1,h2,h3,⟨h4,h5⟩,h6⟩
theorem rising_none (l:List Z2g):Z6q none l=true↔Zci l:=by
 cases l with
 | nil=>simp[Z6q,Zci]
 | cons x l =>
  rw[Z7u]
  simp only[Bool.and_eq_true,Zdd]
  unfold Zci
  simp only[List.mem_cons,forall_eq_or_imp,List.pairwise_cons]
  constructor
  ·rintro⟨h1,h2,_,⟨h4,h5⟩,h6⟩
   exact⟨⟨⟨h1,h2⟩,h4⟩,h6,h5⟩
  ·rintro⟨⟨⟨h1,h2⟩,h4⟩,h6,h5⟩
   exact⟨h1,h2,trivial,⟨h4,h5⟩,h6⟩
theorem Ze5 {l:List Z2g} (h:chkC l=0):l.length≤16∧Zci l:=by
 unfold chkC at h
 by_cases q:l.length>16
 ·rw[if_pos q] at h;omega
 ·rw[if_neg q] at h
  by_cases q2:Z6q none l=true
  ·exact⟨by omega,(rising_none l).1 q2⟩
  ·rw[if_neg q2] at h;omega
def word (s:ByteArray):List UInt8:=UInt8.ofNat s.size::L s
def keyL (l:List Z2g):List UInt8:=l.flatMap fun x=>word x.f0++word x.f1
def Short (x:Z2g):Prop:=x.f0.size≤64∧x.f1.size≤64
theorem keyL_cons (x:Z2g) (l:List Z2g):keyL (x::l)=word x.f0++(word x.f1++keyL l):=by simp[keyL]
theorem Zcn (s:ByteArray):(word s).length=s.size+1:=by rw[word,List.length_cons,Z64]
theorem Zab {l:List Z2g} (h:Zci l):∀ x∈l,Short x:=fun x hx=>by
 have:=h.1 x hx
 simp only[Zeq,valB,Bool.and_eq_true,decide_eq_true_eq] at this
 exact⟨this.1.1.2,this.2.2⟩
end Go.Proofs.YtinhldbfifpakaaGreat.PvGL2
set_option linter.unusedVariables false
set_option linter.unusedSimpArgs false
namespace Go.Proofs.YtinhldbfifpakaaGreat.PvGL2
open Go Go.Pv Go.Pv.GS Go.IntKind
theorem word_inj' {a b:ByteArray} {x y:List UInt8} (ha:a.size<256) (hb:b.size<256) (h:word a++x=word b++y):a=b∧x=y:=by
 have h0:UInt8.ofNat a.size=UInt8.ofNat b.size:=by
  have:=congrArg List.head? h
  simpa[word] using this
 have hs:a.size=b.size:=by
  have:=congrArg UInt8.toNat h0
  rw[UInt8.toNat_ofNat',UInt8.toNat_ofNat',Nat.mod_eq_of_lt (by omega),Nat.mod_eq_of_lt (by omega)] at this
  exact this
 obtain⟨h1,h2⟩:=List.append_inj h (by rw[Zcn,Zcn,hs])
 simp only[word,List.cons.injEq] at h1
 exact⟨ext_L h1.2,h2⟩
def Z6m (ws:List ByteArray):List UInt8:=ws.flatMap word
theorem Z57 (w:ByteArray) (ws:List ByteArray):Z6m (w::ws)=word w++Z6m ws:=by simp[Z6m]
theorem Zbd:∀ {a b:List ByteArray},(∀ x∈a,x.size<256)→(∀ x∈b,x.size<256)→Z6m a=Z6m b→a=b
 | [],[],_,_,_=>rfl
 | [],y::b,_,_,h=>by rw[Z57,word] at h;simp[Z6m] at h
 | x::a,[],_,_,h=>by rw[Z57,word] at h;simp[Z6m] at h
 | x::a,y::b,ha,hb,h=>by
  rw[Z57,Z57] at h
  obtain⟨h1,h2⟩:=word_inj' (ha x (by simp)) (hb y (by simp)) h
  rw[h1,Zbd (fun z hz=>ha z (by simp[hz])) (fun z hz=>hb z (by simp[hz])) h2]
def Z72 (l:List Z2g):List ByteArray:=l.flatMap fun x=>[x.f0,x.f1]
def Z78:List ByteArray→List Z2g
 | a::b::r=>⟨a,b⟩::Z78 r
 | _=>[]
theorem Zbo:∀ l:List Z2g,Z78 (Z72 l)=l
 | []=>rfl
 | x::l=>by
  have:Z72 (x::l)=x.f0::x.f1::Z72 l:=by simp[Z72]
  rw[this,Z78,Zbo l]
theorem Z7k:∀ l:List Z2g,keyL l=Z6m (Z72 l)
 | []=>rfl
 | x::l=>by
  have:Z72 (x::l)=x.f0::x.f1::Z72 l:=by simp[Z72]
  rw[this,Z57,Z57,keyL_cons,Z7k l]
theorem Zbw:∀ (ws:List ByteArray),ws.length % 2=0→Z72 (Z78 ws)=ws
 | [],_=>rfl
 | [a],h=>by simp at h
 | a::b::r,h=>by
  have:Z72 (Z78 (a::b::r))=a::b::Z72 (Z78 r):=by simp[Z72,Z78]
  rw[this,Zbw r (by simp at h;omega)]
theorem L_cons_of {s:ByteArray} (h:0<s.size):∃ c r,L s=c::r∧r.length=s.size-1∧bt s 0=(c.toNat:Int):=by
 cases hl:L s with
 | nil=>have:=Z64 s;rw[hl] at this;simp at this;omega
 | cons c r =>
  refine⟨c,r,rfl,?_,bt_L (i:=0) (by rw[hl];rfl)⟩
  have:=Z64 s;rw[hl] at this;simp at this;omega
theorem fromB_l0:∀ (n:Nat) (s:ByteArray) (acc:List ByteArray),s.size≤n→s.size≤2000000→acc.length+s.size≤4000000 →
  (Z1g.l0 s acc=some (.inl ([],6))∧∀ ws:List ByteArray,(∀ w∈ws,w.size<256)→L s≠Z6m ws)∨(∃ ws,Z1g.l0 s acc=some (.inr (acc++ws))∧(∀ w∈ws,w.size<256)∧L s=Z6m ws∧ws.length≤s.size):=by
 intro n
 induction n with
 | zero =>
  intro s acc hn h5 ha
  rw[Z1g.l0,if_neg (by rw[decide_eq_true_eq];omega)]
  have:L s=[]:=List.length_eq_zero_iff.1 (by rw[Z64];omega)
  exact .inr ⟨[],by simp,by simp,by rw[this];rfl,by simp⟩
 | succ n ih =>
  intro s acc hn h5 ha
  by_cases h0:0<s.size
  case neg =>
   rw[Z1g.l0,if_neg (by rw[decide_eq_true_eq];omega)]
   have:L s=[]:=List.length_eq_zero_iff.1 (by rw[Z64];omega)
   exact .inr ⟨[],by simp,by simp,by rw[this];rfl,by simp⟩
  obtain⟨c,r,hc,hr,hbt⟩:=L_cons_of h0
  have hcl:=c.toNat_lt
  have hword:∀ ws:List ByteArray,(∀ w∈ws,w.size<256)→L s=Z6m ws→∃ w ws',ws=w::ws'∧w.size=c.toNat∧r=L w++Z6m ws':=fun ws hw e=>by
   cases ws with
   | nil=>rw[hc] at e;simp[Z6m] at e
   | cons w ws' =>
    rw[hc,Z57,word,List.cons_append,List.cons.injEq] at e
    refine⟨w,ws',rfl,?_,e.2⟩
    have:=hw w (by simp)
    rw[e.1,UInt8.toNat_ofNat',Nat.mod_eq_of_lt (by omega)]
  rw[Z1g.l0,if_pos (by simp;omega),chkB (by omega),hbt,Za (n:=(c.toNat:Int)) (by omega) (by omega),Za (n:=(s.size:Int)-1) (by omega) (by omega)]
  by_cases hle:(c.toNat:Int)>(s.size:Int)-1
  ·rw[if_pos (by simpa using hle)]
   refine .inl ⟨rfl,fun ws hw e => ?_⟩
   obtain⟨w,ws',_,h1,h2⟩:=hword ws hw e
   have:=congrArg List.length h2
   rw[List.length_append,Z64] at this
   omega
  ·have e1:Int.toNat ((1:Int)+(c.toNat:Int))=1+c.toNat:=by omega
   have l1:L (s.extract (Int.toNat 1) (Int.toNat ((1:Int)+(c.toNat:Int))))=r.take c.toNat:=by
    rw[Zbc,e1,hc];simp
   have l2:L (s.extract (Int.toNat ((1:Int)+(c.toNat:Int))) (Int.toNat (s.size:Int)))=r.drop c.toNat:=by
    rw[Zbc,e1,hc,Int.toNat_natCast,Nat.add_comm 1 c.toNat,List.drop_succ_cons,List.take_of_length_le (by simp;omega)]
   have s1:(s.extract (Int.toNat 1) (Int.toNat ((1:Int)+(c.toNat:Int)))).size=c.toNat:=by rw[← Z64,l1,List.length_take];omega
   have s2:(s.extract (Int.toNat ((1:Int)+(c.toNat:Int))) (Int.toNat (s.size:Int))).size=s.size-1-c.toNat:=by rw[← Z64,l2,List.length_drop];omega
   rw[if_neg (by simpa using hle),Za (n:=(1:Int)+(c.toNat:Int)) (by omega) (by omega),chkB (by omega),chkB (by simp;omega),chkB (by omega)]
   generalize s.extract (Int.toNat 1) (Int.toNat ((1:Int)+(c.toNat:Int)))=w0 at *
   generalize s.extract (Int.toNat ((1:Int)+(c.toNat:Int))) (Int.toNat (s.size:Int))=rest at *
   rcases ih rest (acc++[w0]) (by omega) (by omega) (by simp;omega) with ⟨g1,g2⟩ | ⟨ws,g1,g2,g3,g4⟩
   ·refine .inl ⟨g1,fun ws hw e => ?_⟩
    obtain⟨w,ws',rfl,h1,h2⟩:=hword ws hw e
    refine g2 ws' (fun z hz=>hw z (by simp[hz])) ?_
    rw[l2,h2,← h1,← Z64,List.drop_left]
   ·refine .inr ⟨w0::ws,by rw[g1];simp,fun z hz => ?_,?_,by simp;omega⟩
    ·rcases List.mem_cons.1 hz with rfl | hz
     ·omega
     ·exact g2 z hz
    ·rw[Z57        ,word,← g3,l1,l2,s1,hc]
     have:UInt8.ofNat c.toNat=c:=UInt8.ofNat_toNat
     rw[this,List.cons_append,List.take_append_drop]
theorem fromB_l1 (ws:List ByteArray) (hl:ws.length≤4000000):∀ (m:Nat) (pre suf:List ByteArray) (o:List Z2g) (i:Int),suf.length=2*m→ws=pre++suf→i=(pre.length:Int)→o.length≤pre.length→Z1g.l1 ws o i=some (o++Z78 suf):=by
 intro m
 induction m with
 | zero =>
  intro pre suf o i hm h1 hi ho
  have:suf=[]:=List.length_eq_zero_iff.1 hm
  subst this
  rw[Z1g.l1,if_neg (by rw[h1];simp[hi])];simp[Z78]
 | succ m ih =>
  intro pre suf o i hm h1 hi ho
  match suf,hm with
  | a::b::suf,hm =>
   have hlen:ws.length=pre.length+(suf.length+2):=by rw[h1];simp
   rw[Z1g.l1,if_pos (by simp;omega),Z03 h1 hi,sb,Za (n:=i+1) (by omega) (by omega),Z03 (pre:=pre++[a]) (suf:=suf) (x:=b) (by rw[h1];simp) (by simp;omega),sb,chkB (by simp;omega),Za (n:=i+2) (by omega) (by omega)]
   rw[ih (pre++[a,b]) suf _ (i+2) (by simp at hm;omega) (by rw[h1];simp) (by simp;omega) (by simp;omega),Z78]
   simp
theorem Zf0 (s:ByteArray) (hs:s.size≤2000000):∃ x e,Z1g.f s=some (x,e)∧((e=0∧chkC x=0∧L s=keyL x)∨(e=6∧x=[]∧∀ x',chkC x'=0→L s≠keyL x')):=by
 unfold Z1g.f
 have flat256:∀ x',chkC x'=0→∀ w∈Z72 x',w.size<256:=fun x' h w hw=>by
  obtain⟨z,hz,hw⟩:=List.mem_flatMap.1 hw
  have:=Zab (Ze5 h).2 z hz
  simp at hw
  rcases hw with rfl | rfl
  ·have:=this.1;omega
  ·have:=this.2;omega
 rcases fromB_l0 s.size s [] (Nat.le_refl _) hs (by simp;omega) with ⟨g1,g2⟩ | ⟨ws,g1,g2,g3,g4⟩
 ·rw[g1,sb]
  exact⟨[],6,rfl,.inr ⟨rfl,rfl,fun x' h e=>g2 (Z72 x') (flat256 x' h) (by rw[e,Z7k])⟩⟩
 ·rw[g1,sb,List.nil_append]
  dsimp only
  have ht:Int.tmod (ws.length:Int) 2=((ws.length % 2:Nat):Int):=by rw[Int.tmod_eq_emod_of_nonneg (by omega)];omega
  have huniq:∀ x',chkC x'=0→L s=keyL x'→ws=Z72 x':=fun x' h e=>Zbd g2 (flat256 x' h) (by rw[← g3,e,Z7k])
  have heven:∀ x':List Z2g,(Z72 x').length % 2=0:=fun x'=>by
   induction x' with
   | nil=>rfl
   | cons z x' ih =>
    have:Z72 (z::x')=z.f0::z.f1::Z72 x':=by simp[Z72]
    rw[this];simp;omega
  rw[ht]
  by_cases hodd:ws.length % 2=1
  ·rw[if_pos (by simp;omega)]
   refine⟨[],6,rfl,.inr ⟨rfl,rfl,fun x' h e => ?_⟩⟩
   have:=huniq x' h e
   have h2:=heven x'
   rw[← this] at h2;omega
  ·rw[if_neg (by simp;omega),fromB_l1 ws (by omega) (ws.length / 2) [] ws [] 0 (by omega) rfl rfl (by simp),sb,List.nil_append,lcheck,sb]
   by_cases hc:chkC (Z78 ws)=0
   ·rw[if_neg (by simpa using hc)]
    exact⟨_,0,rfl,.inl ⟨rfl,hc,by rw[g3,Z7k,Zbw ws (by omega)]⟩⟩
   ·rw[if_pos (by simpa using hc)]
    refine⟨[],6,rfl,.inr ⟨rfl,rfl,fun x' h e => ?_⟩⟩
    have:=huniq x' h e
    rw[this,Zbo] at hc
    exact hc h
end Go.Proofs.YtinhldbfifpakaaGreat.PvGL2
set_option linter.unusedVariables false
set_option linter.unusedSimpArgs false
set_option maxRecDepth 10000
namespace Go.Proofs.YtinhldbfifpakaaGreat.PvGL2
open Go Go.Pv Go.Pv.GS Go.IntKind
def keyB (s:ByteArray):Bool:=match Z1g.f s with
 | some (_,e)=>e==0
 | none=>false
theorem key_eq (s:ByteArray) (hs:s.size≤2000000):Z27.f s=some (keyB s):=by
 unfold Z27.f keyB
 obtain⟨x,e,h,_⟩:=Zf0 s hs
 rw[h,sb]
theorem keyL_len:∀ (l:List Z2g),(∀ x∈l,Short x)→(keyL l).length≤130*l.length:=by
 intro l
 induction l with
 | nil=>intro _;simp[keyL]
 | cons x l ih =>
  intro h
  have hx:=h x (by simp)
  have:=hx.1
  have:=hx.2
  have:=ih (fun y hy=>h y (by simp[hy]))
  rw[keyL_cons,List.length_append,List.length_append,Zcn,Zcn,List.length_cons]
  omega
theorem key_iff (s:ByteArray) (hs:s.size≤2000000):keyB s=true↔∃ x,chkC x=0∧L s=keyL x:=by
 unfold keyB
 obtain⟨x,e,h,h2⟩:=Zf0 s hs
 rw[h]
 dsimp only
 rcases h2 with ⟨rfl,h3,h4⟩ | ⟨rfl,_,h3⟩
 ·simp;exact⟨x,h3,h4⟩
 ·simp;exact h3
theorem Zds {s:ByteArray} (hs:s.size≤2000000) (h:keyB s=true):s.size≤2080:=by
 obtain⟨x,h1,h2⟩:=(key_iff s hs).1 h
 have h3:=Ze5 h1
 have:=keyL_len x (Zab h3.2)
 have h4:=h3.1
 rw[← Z64,h2];omega
noncomputable def itmOK (x:Z0z):Bool:=keyB x.f0&&sok ⟨x.f1,x.f2⟩
def Zdc (r:Zc):Bool:=decide (Z5k r)
def cutsB:Option ByteArray→List Z1k→Bool
 | _,[]=>true
 | p,x::l=>keyB x.f0&&(Zdc x.f1&&((match p with | none=>true | some q=>bl q x.f0)&&cutsB (some x.f0) l))
theorem Zby (p:Option ByteArray) (x:Z1k) (l:List Z1k):cutsB p (x::l)=(keyB x.f0&&(Zdc x.f1&&((match p with | none=>true | some q=>bl q x.f0)&&cutsB (some x.f0) l))):=rfl
def lastC (pre:List Z1k):Option ByteArray:=pre.getLast?.map (·.f0)
noncomputable def Z87 (c:Zs):Bool :=
 if c.f0=1 then c.f1.all itmOK&&decide (0<c.f1.length∧c.f1.length≤64∧c.f2.length=0∧c.f3=0)
 else if c.f0=2 then cutsB none c.f2&&decide (c.f2.length≤64∧c.f1.length=0∧c.f3=0)
 else if c.f0=3 then decide (0≤c.f3∧c.f3≤1099511627776∧c.f1.length+c.f2.length=0)
 else false
structure CB (c:Zs):Prop where
 il:c.f1.length<1000000000000
 cl:c.f2.length<1000000000000
 ii:∀ x∈c.f1,x.f0.size≤2000000∧Fits x.f2
 ci:∀ x∈c.f2,x.f0.size≤2000000
theorem rise_one (s:Z7):rise none [s]=sok s:=by simp[rise,good,aft]
theorem tright (r:Zc):Z52.f r=some (Zdc r):=by
 unfold Z52.f Zdc
 by_cases h1:0≤r.f0
 ·by_cases h2:r.f0≤r.f1
  ·rw[if_pos (by simpa using h1),if_pos (by simpa using h2),sb];congr 1;simp[Z5k,h1,h2]
  ·rw[if_pos (by simpa using h1),if_neg (by simpa using h2),sb];congr 1;simp[Z5k,h1,h2]
 ·rw[if_neg (by simpa using h1),sb];congr 1;simp[Z5k,h1]
theorem eright_l0 (c:Zs) (hc:CB c):∀ (suf pre:List Z0z) (i:Int),c.f1=pre++suf→i=(pre.length:Int)→Z13.l0 c i=some (if suf.all itmOK=true then .inr () else .inl false):=by
 have hil:=hc.il
 intro suf
 induction suf with
 | nil=>intro pre i h1 hi;rw[Z13.l0,if_neg (by rw[h1];simp[hi])];rfl
 | cons x suf ih =>
  intro pre i h1 hi
  have hlen:c.f1.length=pre.length+(suf.length+1):=by rw[h1];simp
  obtain⟨hk,hf⟩:=hc.ii x (by rw[h1];simp)
  rw[Z13.l0,if_pos (by simp;omega),Z03 h1 hi,sb,key_eq _ hk,sb,ris_eq _ (by simp) (by intro y hy;simp at hy;subst hy;exact hf),sb,rise_one,Za (n:=i+1) (by omega) (by omega),ih (pre++[x]) (i+1) (by simp[h1]) (by simp;omega),List.all_cons,itmOK]
  cases keyB x.f0
  ·simp[sb]
  cases sok ⟨x.f1,x.f2⟩<;>simp
theorem eright_l1 (c:Zs) (hc:CB c):∀ (suf pre:List Z1k) (i:Int),c.f2=pre++suf→i=(pre.length:Int)→Z13.l1 c i=some (if cutsB (lastC pre) suf=true then .inr () else .inl false):=by
 have hcl:=hc.cl
 intro suf
 induction suf with
 | nil=>intro pre i h1 hi;rw[Z13.l1,if_neg (by rw[h1];simp[hi])];rfl
 | cons x suf ih =>
  intro pre i h1 hi
  have hlen:c.f2.length=pre.length+(suf.length+1):=by rw[h1];simp
  have hk:=hc.ci x (by rw[h1];simp)
  rw[Z13.l1,if_pos (by simp;omega),Z03 h1 hi,sb,key_eq _ hk,sb,tright,sb,Za (n:=i+1) (by omega) (by omega)]
  have hnext:=ih (pre++[x]) (i+1) (by simp[h1]) (by simp;omega)
  rw[hnext,show lastC (pre++[x])=some x.f0 by simp[lastC],Zby]
  cases keyB x.f0
  ·simp[sb]
  cases Zdc x.f1
  ·simp[sb]
  rcases List.eq_nil_or_concat pre with rfl | ⟨p',p,rfl⟩
  ·simp only[Bool.not_true,Bool.false_eq_true,if_false,Bool.true_and]
   rw[if_neg (by simp at hi ⊢;omega),sb,if_neg (by simp)]
   simp[lastC]
  ·simp only[Bool.not_true,Bool.false_eq_true,if_false,Bool.true_and]
   simp only[List.concat_eq_append,List.length_append,List.length_singleton] at hi hlen ⊢
   rw[if_pos (by simp;omega),Za (n:=i-1) (by omega) (by omega),Z03 (pre:=p') (suf:=x::suf) (x:=p) (by rw[h1];simp) (by omega),sb,sb,show lastC (p'++[p])=some p.f0 by simp[lastC]]
   cases h:bl p.f0 x.f0<;>simp[h]
theorem right_eq' (c:Zs) (hc:CB c):Z13.f c=some (Z87 c):=by
 have hil:=hc.il
 have hcl:=hc.cl
 unfold Z13.f Z87
 by_cases k1:c.f0=1
 ·rw[if_pos (by simpa using k1),if_pos k1,eright_l0 c hc c.f1 [] 0 rfl rfl,sb]
  cases c.f1.all itmOK
  ·simp
  simp only[if_true,Bool.true_and]
  by_cases h1:0<c.f1.length
  ·by_cases h2:c.f1.length≤64
   ·by_cases h3:c.f2.length=0
    ·rw[if_pos (by simp;omega),if_pos (by simp;omega),if_pos (by simp[h3]),sb];congr 1;simp[h1,h2,h3];rfl
    ·rw[if_pos (by simp;omega),if_pos (by simp;omega),if_neg (by simp;simpa using h3),sb];congr 1;simp[h3]
   ·rw[if_pos (by simp;omega),if_neg (by simp;omega),sb];congr 1;simp[h2]
  ·rw[if_neg (by rw[decide_eq_true_eq];omega),sb];congr 1;simp[h1]
 rw[if_neg (by simpa using k1),if_neg k1]
 by_cases k2:c.f0=2
 ·rw[if_pos (by simpa using k2),if_pos k2,eright_l1 c hc c.f2 [] 0 rfl rfl,sb,show lastC []=none from rfl]
  cases cutsB none c.f2
  ·simp
  simp only[if_true,Bool.true_and]
  by_cases h2:c.f2.length≤64
  ·have h2':((c.f2.length:Int)≤64):=by omega
   by_cases h3:c.f1.length=0
   ·rw[if_pos (by simpa using h2'),if_pos (by simp[h3]),sb];congr 1;simp[h2,h3];rfl
   ·rw[if_pos (by simpa using h2'),if_neg (by simp;simpa using h3),sb];congr 1;simp[h3]
  ·rw[if_neg (by rw[decide_eq_true_eq];omega),sb];congr 1;simp[h2]
 rw[if_neg (by simpa using k2),if_neg k2]
 by_cases k3:c.f0=3
 ·rw[if_pos (by simpa using k3),if_pos k3,Za     (by omega) (by omega)]
  by_cases h1:0≤c.f3
  ·by_cases h2:c.f3≤1099511627776
   ·rw[if_pos (by simpa using h1),if_pos (by simpa using h2),sb];congr 1
    rw[Bool.eq_iff_iff,beq_iff_eq,decide_eq_true_eq];omega
   ·rw[if_pos (by simpa using h1),if_neg (by simpa using h2),sb];congr 1;simp[h2]
  ·rw[if_neg (by simpa using h1),sb];congr 1;simp[h1]
 ·rw[if_neg (by simpa using k3),if_neg k3]
end Go.Proofs.YtinhldbfifpakaaGreat.PvGL2
set_option linter.unusedVariables false
set_option linter.unusedSimpArgs false
set_option maxRecDepth 10000
namespace Go.Proofs.YtinhldbfifpakaaGreat.PvGL2
open Go Go.Pv Go.Pv.GS Go.IntKind
noncomputable def itmB (x:Z0z):List Bool:=Z6i x.f0++smpB ⟨x.f1,x.f2⟩
noncomputable def Z8w (x:Z1k):List Bool:=Z6i x.f0++(cnt2 1++layB 0 [x.f1])
noncomputable def entB (c:Zs):List Bool:=nb c.f0.toNat 2++(if c.f0=1 then cnt2 c.f1.length++c.f1.flatMap itmB else if c.f0=2 then cnt2 c.f2.length++c.f2.flatMap Z8w else cnt2 c.f3.toNat)
structure IK (x:Z0z):Prop where
 key:x.f0.size≤2080
 ok:SOk ⟨x.f1,x.f2⟩
structure CK (x:Z1k):Prop where
 key:x.f0.size≤2080
 ok:Z5k x.f1
inductive EK (c:Zs):Prop
 | batch (k:c.f0=1) (l:c.f1.length≤64) (h:∀ x∈c.f1,IK x) (n:c.f2=[]) (m:c.f3=0)
 | cuts (k:c.f0=2) (l:c.f2.length≤64) (h:∀ x∈c.f2,CK x) (n:c.f1=[]) (m:c.f3=0)
 | mark (k:c.f0=3) (l:0≤c.f3∧c.f3≤1099511627776) (n:c.f1=[]∧c.f2=[])
theorem cutsB_mem:∀ (l:List Z1k) (p:Option ByteArray),cutsB p l=true→∀ x∈l,keyB x.f0=true∧Zdc x.f1=true:=by
 intro l
 induction l with
 | nil=>simp
 | cons y l ih =>
  intro p h x hx
  rw[Zby] at h
  simp only[Bool.and_eq_true] at h
  rcases List.mem_cons.1 hx with rfl | hx
  ·exact⟨h.1,h.2.1⟩
  ·exact ih _ h.2.2.2 x hx
theorem ek_of {c:Zs} (hc:CB c) (h:Z87 c=true):EK c:=by
 unfold Z87 at h
 split at h
 ·rename_i k
  simp only[Bool.and_eq_true,decide_eq_true_eq] at h
  refine .batch k h.2.2.1 (fun x hx => ?_) (List.length_eq_zero_iff.1 h.2.2.2.1) h.2.2.2.2
  have:=List.all_eq_true.1 h.1 x hx
  unfold itmOK at this
  rw[Bool.and_eq_true] at this
  have hb:=hc.ii x hx
  exact⟨Zds hb.1 this.1,sok_inv hb.2 this.2⟩
 split at h
 ·rename_i k
  simp only[Bool.and_eq_true,decide_eq_true_eq] at h
  refine .cuts k h.2.1 (fun x hx => ?_) (List.length_eq_zero_iff.1 h.2.2.1) h.2.2.2
  have:=cutsB_mem _ _ h.1 x hx
  exact⟨Zds (hc.ci x hx) this.1,of_decide_eq_true this.2⟩
 split at h
 ·rename_i k
  rw[decide_eq_true_eq] at h
  exact .mark k ⟨h.1,h.2.1⟩ ⟨List.length_eq_zero_iff.1 (by omega),List.length_eq_zero_iff.1 (by omega)⟩
 ·exact absurd h (by simp)
theorem Z62 (t:ByteArray):(Z6i t).length≤71+8*t.size:=by
 have:=Z0e t.size
 rw[Z6i,List.length_append,Ze8,Z4y];omega
theorem smpB_len {s:Z7} (h:SOk s):(smpB s).length≤3200142:=by
 obtain⟨c1,c2,⟨g,hL⟩,c3,_⟩:=one_chunk h
 have hsz:(Z5l (encX [s])).size=(encX [s]).length:=by rw[← Z4y,Z73 (Zbt hL)]
 have:=Z62 (Z5l (encX [s]))
 have:=Z0e 1
 rw[smpB,List.length_append];omega
theorem itmB_len {x:Z0z} (h:IK x):(itmB x).length≤3300000:=by
 have:=Z62 x.f0
 have:=smpB_len h.ok
 have:=h.key
 rw[itmB,List.length_append];omega
theorem Ze0 {x:Z1k} (h:CK x):(Z8w x).length≤17000:=by
 have:=Z62 x.f0
 have:=Zcz [x.f1] 0
 have:=Z0e 1
 have:=h.key
 rw[Z8w,List.length_append,List.length_append];simp only[List.length_cons,List.length_nil] at *;omega
theorem flat_le {α:Type} (f:α→List Bool) (k:Nat):∀ (l:List α),(∀ x∈l,(f x).length≤k)→(l.flatMap f).length≤k*l.length:=by
 intro l
 induction l with
 | nil=>simp
 | cons x l ih =>
  intro h
  have:=h x (by simp)
  have:=ih (fun y hy=>h y (by simp[hy]))
  rw[List.flatMap_cons,List.length_append,List.length_cons,Nat.mul_add];omega
theorem entB_len {c:Zs} (h:EK c):(entB c).length≤300000000000:=by
 unfold entB
 rw[List.length_append,Z50]
 rcases h with ⟨k,l,h,_,_⟩ | ⟨k,l,h,_,_⟩ | ⟨k,l,_⟩
 ·rw[if_pos k,List.length_append]
  have:=Z0e c.f1.length
  have:=flat_le itmB 3300000 c.f1 (fun x hx=>itmB_len (h x hx))
  omega
 ·rw[if_neg (by omega),if_pos k,List.length_append]
  have:=Z0e c.f2.length
  have:=flat_le Z8w 17000 c.f2 (fun x hx=>Ze0 (h x hx))
  omega
 ·rw[if_neg (by omega),if_neg (by omega)]
  have:=Z0e c.f3.toNat
  omega
variable {b:List Int}
theorem tset_ranges (l:List Zc) (h:l.length<1000):Z0o.f ⟨l⟩=some l:=ranges_eq ⟨l⟩ (by show l.length<_;omega)
end Go.Proofs.YtinhldbfifpakaaGreat.PvGL2
set_option linter.unusedVariables false
set_option linter.unusedSimpArgs false
set_option maxRecDepth 10000
namespace Go.Proofs.YtinhldbfifpakaaGreat.PvGL2
open Go Go.Pv Go.Pv.GS Go.IntKind
variable {b:List Int}
theorem Zdz {a e:Int} (he:e≠0):Zn.l0 b a e=some (a,e):=by
 unfold Zn.l0 Z0h.f
 rw[if_neg (by simpa using he),sb,if_neg (by simp)]
theorem end_l0_rev (hb:Src b):∀ (m a:Nat) (a':Int),8*b.length-a≤m→a≤8*b.length→Zn.l0 b (a:Int) 0=some (a',0)→(Z0c b).drop a=List.replicate (8*b.length-a) false:=by
 intro m
 have hl:=hb.len
 induction m with
 | zero =>
  intro a a' h ha _
  have:(Z0c b).drop a=[]:=List.drop_of_length_le (by rw[Z21];omega)
  rw[this,show 8*b.length-a=0 from by omega];rfl
 | succ m ih =>
  intro a a' h ha he
  by_cases h0:a<8*b.length
  case neg =>
   have:(Z0c b).drop a=[]:=List.drop_of_length_le (by rw[Z21];omega)
   rw[this,show 8*b.length-a=0 from by omega];rfl
  have hlt:a<(Z0c b).length:=by rw[Z21];exact h0
  unfold Zn.l0 Z0h.f at he
  rw[if_pos (by simp),sb,Za (n:=(8:Int)*(b.length:Int)) (by omega) (by omega),Za (by omega) (by omega),sb,if_pos (by simp;omega),Zac hb (List.getElem?_eq_getElem hlt),sb] at he
  dsimp only at he
  rw[List.drop_eq_getElem_cons hlt,show 8*b.length-a=(8*b.length-(a+1))+1 from by omega,List.replicate_succ]
  cases hx:(Z0c b)[a] with
  | true =>
   rw[hx,if_pos rfl,Zde,sb,sb,Zdz (by omega)] at he
   simp at he
  | false =>
   rw[hx,if_neg (by simp),sb] at he
   rw[ih (a+1) a' (by omega) (by omega) he]
theorem end_rev (hb:Src b) {a:Nat} (ha:a≤8*b.length) {e r a' e':Int} (h:Zn.f b (a:Int) e=some (r,a',e')) (hr:r=0):e=0∧8*b.length-a<8∧(Z0c b).drop a=List.replicate (8*b.length-a) false:=by
 have hl:=hb.len
 subst hr
 unfold Zn.f Z0h.f at h
 by_cases he:e=0
 case neg =>
  rw[if_neg (by simpa using he),sb,if_neg (by simp),sb,Zdz he,sb] at h
  simp at h
  exact absurd h.1 he
 subst he
 rw[if_pos (by simp),sb,Za (n:=(8:Int)*(b.length:Int)) (by omega) (by omega),Za (by omega) (by omega),sb] at h
 by_cases h8:8*b.length-a<8
 ·rw[if_neg (by simp;omega),sb] at h
  obtain⟨p,q,hpq⟩:=Zbx hb _ a 0 (Nat.le_refl _) ha
  rw[hpq,sb] at h
  simp at h
  obtain⟨rfl,_⟩:=h
  exact⟨rfl,h8,end_l0_rev hb _ a p (Nat.le_refl _) ha hpq⟩
 ·rw[if_pos (by simp;omega),Zde   ,sb,sb,Zdz       (by omega),sb] at h
  simp at h
structure IB (x:Z0z):Prop where
 key:x.f0.size≤1048576
 ok:SOk ⟨x.f1,x.f2⟩
theorem dec_l0_no (t1 t2:Int×Int×Int) (a e:Int) (acc:List Z0z) (i:Int):Z0d.l0 b t1 t2 a e acc false i=some (a,e,acc,false):=by
 rw[Z0d.l0,if_neg (show ¬ (false=true) by simp)]
 split<;>rw[sb,if_neg (by simp)]
theorem dec_l1_no (t1 t2:Int×Int×Int) (a e:Int) (acc:List Z1k) (i:Int):Z0d.l1 b t1 t2 a e acc false i=some (a,e,acc,false):=by
 rw[Z0d.l1,if_neg (show ¬ (false=true) by simp)]
 split<;>rw[sb,if_neg (by simp)]
theorem dec_l0_tot (hb:Src b) (t1 t2:Int×Int×Int) (n:Nat) (hn:n≤64) (ht:t2.1=(n:Int)):∀ (m:Nat) (acc:List Z0z) (a:Nat) (e i:Int),i+m=n→0≤i→(acc.length:Int)≤i→a≤8*b.length →
  ∃ (l:List Z0z        ) (a1:Nat) (e1:Int) (ok:Bool),           Z0d.l0 b t1 t2 (a:Int) e acc true i=some ((a1:Int),e1,acc++l,ok)∧a1≤8*b.length∧(e≠0→e1≠0)∧(∀ x∈l,IB x)∧l.length≤m ∧
   (ok=true→e=0→e1=0→l.length=m∧(Z0c b).drop a=l.flatMap itmB++(Z0c b).drop a1):=by
 intro m
 induction m with
 | zero =>
  intro acc a e i hi h0 hacc ha
  refine⟨[],a,e,true,?_,ha,fun h=>h,by simp,by simp,fun _ _ _=>⟨rfl,by simp⟩⟩
  rw[Z0d.l0,if_neg (by rw[ht];simp;omega),sb,if_neg (by simp)]
  simp
 | succ m ih =>
  intro acc a e i hi h0 hacc ha
  by_cases he:e=0
  case neg =>
   refine⟨[],a,e,true,?_,ha,fun h=>h,by simp,by simp,fun _ h=>absurd h he⟩
   rw[Z0d.l0,if_pos (by rw[ht];simp;omega),if_pos rfl,Za3,sb,sb,if_neg (by simpa using he)]
   simp
  subst he
  obtain⟨x,a1,e1,k1,k2,k3,k4,k5⟩:=Zao hb ha 0
  obtain⟨l,ok,a2,e2,s1,s2,s3,s4⟩:=Zd8 hb k2 e1
  rw[Z0d.l0,if_pos (by rw[ht];simp;omega),if_pos rfl,Za3,sb,sb,if_pos (by simp),k1,sb]
  dsimp only
  rw[s1,sb]
  dsimp only
  by_cases hg:ok=true∧l.length=1
  case neg =>
   have:((if ok=true then(some ((l.length:Int)==(1:Int))) else(some false)):Option (Bool))=some false:=by
    by_cases h1:ok=true
    ·rw[if_pos h1];congr 1;simp;intro h;exact hg ⟨h1,by omega⟩
    ·rw[if_neg h1]
   rw[this,sb,if_neg (by simp),sb,dec_l0_no]
   exact⟨[],a2,e2,false,by simp,s2,fun h=>absurd rfl h,by simp,by simp,fun h=>absurd h (by simp)⟩
  obtain⟨rfl,hl1⟩:=hg
  obtain⟨D,d1,d2,d3,d4,d5⟩:=s4 rfl
  obtain⟨s,rfl,rfl,hs,hsb⟩:=one_of d1 d3 hl1
  have:((if true=true then(some ((([s]:List Z7).length:Int)==(1:Int))) else(some false)):Option (Bool))=some true:=by simp
  rw[this,sb,if_pos rfl]
  have e1':at? [s] 0=some s:=rfl
  rw[e1',sb]
  rw[chkB (by simp;omega),sb,Za (n:=i+1) (by omega) (by omega)]
  obtain⟨l,a3,e3,ok3,r1,r2,r3,r4,r5,r6⟩:=ih (acc++[(⟨x,s.f0,s.f1⟩:Z0z)]) a2 e2 (i+1) (by omega) (by omega) (by simp;omega) s2
  refine⟨(⟨x,s.f0,s.f1⟩:Z0z)::l,a3,e3,ok3,by rw[r1];simp,r2,fun h=>absurd rfl h,?_,by simp;omega,fun h1 _ h3 => ?_⟩
  ·intro y hy
   rcases List.mem_cons.1 hy with rfl | hy
   ·exact⟨k3,hs⟩
   ·exact r4 y hy
  ·have h2:e2=0:=by
    by_cases h:e2=0
    ·exact h
    ·exact absurd h3 (r3 h)
   have h1':e1=0:=by
    by_cases h:e1=0
    ·exact h
    ·exact absurd h2 (s3 h)
   obtain⟨q1,q2⟩:=r6 h1 h2 h3
   refine⟨by simp[q1],?_⟩
   have q3:=d5 h1' h2
   rw[hsb] at q3
   rw[k5 rfl h1',q3,q2,List.flatMap_cons,itmB]
   simp
structure CBd (x:Z1k):Prop where
 key:x.f0.size≤1048576
 ok:Z5k x.f1
theorem dec_l1_tot (hb:Src b) (t1 t2:Int×Int×Int) (n:Nat) (hn:n≤64) (ht:t2.1=(n:Int)):∀ (m:Nat) (acc:List Z1k) (a:Nat) (e i:Int),i+m=n→0≤i→(acc.length:Int)≤i→a≤8*b.length →
  ∃ (l:List Z1k       ) (a1:Nat) (e1:Int) (ok:Bool),           Z0d.l1 b t1 t2 (a:Int) e acc true i=some ((a1:Int),e1,acc++l,ok)∧a1≤8*b.length∧(e≠0→e1≠0)∧(∀ x∈l,CBd x)∧l.length≤m ∧
   (ok=true→e=0→e1=0→l.length=m∧(Z0c b).drop a=l.flatMap Z8w++(Z0c b).drop a1):=by
 intro m
 induction m with
 | zero =>
  intro acc a e i hi h0 hacc ha
  refine⟨[],a,e,true,?_,ha,fun h=>h,by simp,by simp,fun _ _ _=>⟨rfl,by simp⟩⟩
  rw[Z0d.l1,if_neg (by rw[ht];simp;omega),sb,if_neg (by simp)]
  simp
 | succ m ih =>
  intro acc a e i hi h0 hacc ha
  by_cases he:e=0
  case neg =>
   refine⟨[],a,e,true,?_,ha,fun h=>h,by simp,by simp,fun _ h=>absurd h he⟩
   rw[Z0d.l1,if_pos (by rw[ht];simp;omega),if_pos rfl,Za3,sb,sb,if_neg (by simpa using he)]
   simp
  subst he
  obtain⟨x,a1,e1,k1,k2,k3,k4,k5⟩:=Zao hb ha 0
  obtain⟨l,a2,e2,s1,s2,s3,s4⟩:=take_any hb (m:=1) (by omega) k2 e1
  rw[show((1:Nat):Int)=1 from rfl] at s1
  have hl1:l.length≤1:=by rcases s4 with ⟨_,rfl⟩ | ⟨_,h,_⟩<;>simp_all
  rw[Z0d.l1,if_pos (by rw[ht];simp;omega),if_pos rfl,Za3,sb,sb,if_pos (by simp),k1,sb]
  dsimp only
  rw[s1,sb]
  dsimp only
  rw[tset_ranges _ (by omega),sb]
  by_cases hg:l.length=1
  case neg =>
   have:((l.length:Int)==(1:Int))=false:=by simp;omega
   rw[this,if_neg (by simp),sb,dec_l1_no]
   exact⟨[],a2,e2,false,by simp,s2,fun h=>absurd rfl h,by simp,by simp,fun h=>absurd h (by simp)⟩
  obtain⟨r,rfl⟩:=List.length_eq_one_iff.1 hg
  rcases s4 with ⟨_,h⟩ | ⟨q0,_,qa,q4⟩
  ·simp at h
  have:(((([r]:List Zc).length:Nat):Int)==(1:Int))=true:=by simp
  rw[this,if_pos rfl]
  have e1':at? [r] 0=some r:=rfl
  rw[e1',sb]
  rw[chkB (by simp;omega),sb,Za (n:=i+1) (by omega) (by omega)]
  obtain⟨l,a3,e3,ok3,r1,r2,r3,r4,r5,r6⟩:=ih (acc++[(⟨x,r⟩:Z1k)]) a2 e2 (i+1) (by omega) (by omega) (by simp;omega) s2
  refine⟨(⟨x,r⟩:Z1k)::l,a3,e3,ok3,by rw[r1];simp,r2,fun h=>absurd rfl h,?_,by simp;omega,fun h1 _ h3 => ?_⟩
  ·intro y hy
   rcases List.mem_cons.1 hy with rfl | hy
   ·exact⟨k3,qa.right r (by simp)⟩
   ·exact r4 y hy
  ·have h1':e1=0:=by
    by_cases h:e1=0
    ·exact h
    ·exact absurd q0 (s3 h)
   obtain⟨p1,p2⟩:=r6 h1 q0 h3
   refine⟨by simp[p1],?_⟩
   rw[k5 rfl h1',q4,p2,List.flatMap_cons,Z8w]
   simp
def tailE (b:List Int) (a e:Int) (ok:Bool) (c:Zs):Option (Zs×Int) :=
 ((if(!ok)=true then(some true) else((Zn.f b a e)>>=fun t6521=>if(t6521.1 != (0:Int))=true then(some true) else((Z13.f c)>>=fun t6524=>some (!t6524)))):Option (Bool))>>=fun x6526=>if x6526=true then(some ((⟨0,[],[],0⟩:Zs),6)) else(some (c,0))
theorem Zcq (hb:Src b) {a:Nat} (ha:a≤8*b.length) (e:Int) (ok:Bool) {c:Zs} (hc:CB c) (h:ok=true→e=0→Z87 c=true→Z0c b=entB c++(Z0c b).drop a) :
  ∃ c' e',tailE b (a:Int) e ok c=some (c',e')∧((e'=6∧c'=⟨0,[],[],0⟩)∨(e'=0∧CB c'∧Z87 c'=true∧∃ f,Laid b f (entB c'))):=by
 unfold tailE
 cases ok with
 | false=>rw[if_pos (show(!false)=true from rfl),sb,if_pos rfl];exact⟨_,_,rfl,.inl ⟨rfl,rfl⟩⟩
 | true =>
  rw[if_neg (by simp)]
  obtain⟨r,a',e',hE⟩:=end_tot hb ha e
  rw[hE,sb]
  dsimp only
  by_cases hr:r=0
  case neg=>rw[if_pos (by simpa using hr),sb,if_pos rfl];exact⟨_,_,rfl,.inl ⟨rfl,rfl⟩⟩
  obtain⟨r1,r2,r3⟩:=end_rev hb ha hE hr
  rw[if_neg (by simpa using hr),right_eq' c hc,sb,sb]
  cases hR:Z87 c with
  | false=>rw[if_pos (show(!false)=true from rfl)];exact⟨_,_,rfl,.inl ⟨rfl,rfl⟩⟩
  | true =>
   rw[if_neg (by simp)]
   refine⟨_,_,rfl,.inr ⟨rfl,hc,hR,_,⟨hb.byte,r2,?_⟩⟩⟩
   rw[← r3];exact h rfl r1 hR
theorem dec_tot15 (hb:Src b):∃ c e,Z0d.f b=some (c,e)∧((e=6∧c=⟨0,[],[],0⟩)∨(e=0∧CB c∧Z87 c=true∧∃ f,Laid b f (entB c))):=by
 have hB:=hb.len
 have none0:∀ (k m:Int),CB ⟨k,[],[],m⟩:=fun k m=>⟨by simp,by simp,by simp,by simp⟩
 unfold Z0d.f Z4g.f
 rw[sb]
 have kind0:∀ (a:Nat) (e:Int),a≤8*b.length→∃ c' e',tailE b (a:Int) e true ⟨0,[],[],0⟩=some (c',e')∧((e'=6∧c'=⟨0,[],[],0⟩)∨(e'=0∧CB c'∧Z87 c'=true∧∃ f,Laid b f (entB c'))) :=
  fun a e ha=>Zcq hb ha e true (none0 0 0) (fun _ _ h=>by simp[Z87] at h)
 rcases Zb4 hb (k:=2) (a:=0) (by omega) (by omega) with ⟨h1,h2⟩ | ⟨h1,h2⟩
 case inr =>
  rw[show Zi.f b 0 0 2=_ from h2,sb]
  dsimp only
  rw[Za (n:=0) (by omega) (by omega),if_neg (by simp),if_neg (by simp),if_neg (by simp),sb]
  exact kind0 _ 7 (Nat.le_refl _)
 rw[show Zi.f b 0 0 2=_ from h2,sb]
 dsimp only
 rw[List.drop_zero]
 have hl2:((Z0c b).take 2).length=2:=by rw[List.length_take,Z21];omega
 have hv:=Zet ((Z0c b).take 2)
 have hnb:=nb_val ((Z0c b).take 2)
 rw[hl2] at hv hnb
 have hbits:Z0c b=nb (val ((Z0c b).take 2)) 2++(Z0c b).drop 2:=by
  conv=>lhs;rw[← List.take_append_drop 2 (Z0c b)]
  rw[hnb]
 generalize val ((Z0c b).take 2)=k at *
 rw[Nat.zero_add,Za (n:=(k:Int)) (by omega) (by omega)]
 have hk:k=0∨k=1∨k=2∨k=3:=by omega
 rcases hk with rfl | rfl | rfl | rfl
 ·rw[if_neg (by simp),if_neg (by simp),if_neg (by simp),sb]
  exact kind0 2 0 (by omega)
 ·rw[if_pos (by simp)]
  obtain⟨n,a1,e1,s1,s2,s3,s4⟩:=Z63 hb (m:=64) (by omega) (a:=2) (by omega)
  rw[show Z3.f b ((2:Nat):Int) 0 64=_ from s1,sb]
  dsimp only
  obtain⟨l,a2,e2,ok,r1,r2,r3,r4,r5,r6⟩:=dec_l0_tot hb (((1:Nat):Int),((2:Nat):Int),0) ((n:Int),(a1:Int),e1) n s3 rfl n [] a1 e1 0 (by omega) (by omega) (by simp) s2
  rw[r1,sb]
  refine Zcq hb (e:=e2) (ok:=ok) r2 (c:=⟨1,l,[],0⟩) ⟨by show l.length<_;omega,by simp,fun x hx=>⟨by have:=(r4 x hx).key;omega,(r4 x hx).ok.f⟩,by simp⟩ (fun h1 h2 _ => ?_)
  have he1:e1=0:=by
   by_cases h:e1=0
   ·exact h
   ·exact absurd h2 (r3 h)
  obtain⟨q1,q2⟩:=r6 h1 he1 h2
  rcases s4 with ⟨_,s4⟩ | ⟨s4,_⟩
  case inr=>exact absurd he1 s4
  unfold entB
  dsimp only
  rw[if_pos rfl,q1,List.append_assoc,List.append_assoc,← q2,← s4]
  exact hbits
 ·rw[if_neg (by simp),if_pos (by simp)]
  obtain⟨n,a1,e1,s1,s2,s3,s4⟩:=Z63 hb (m:=64) (by omega) (a:=2) (by omega)
  rw[show Z3.f b ((2:Nat):Int) 0 64=_ from s1,sb]
  dsimp only
  obtain⟨l,a2,e2,ok,r1,r2,r3,r4,r5,r6⟩:=dec_l1_tot hb (((2:Nat):Int),((2:Nat):Int),0) ((n:Int),(a1:Int),e1) n s3 rfl n [] a1 e1 0 (by omega) (by omega) (by simp) s2
  rw[r1,sb]
  refine Zcq hb (e:=e2) (ok:=ok) r2 (c:=⟨2,[],l,0⟩) ⟨by simp,by show l.length<_;omega,by simp,fun x hx=>by have:=(r4 x hx).key;omega⟩ (fun h1 h2 _ => ?_)
  have he1:e1=0:=by
   by_cases h:e1=0
   ·exact h
   ·exact absurd h2 (r3 h)
  obtain⟨q1,q2⟩:=r6 h1 he1 h2
  rcases s4 with ⟨_,s4⟩ | ⟨s4,_⟩
  case inr=>exact absurd he1 s4
  unfold entB
  dsimp only
  rw[if_neg (by omega),if_pos rfl,q1,List.append_assoc,List.append_assoc,← q2,← s4]
  exact hbits
 ·rw[if_neg (by simp),if_neg (by simp),if_pos (by simp)]
  obtain⟨n,a1,e1,s1,s2,s3,s4⟩:=Z63 hb (m:=1099511627776) (by omega) (a:=2) (by omega)
  rw[show Z3.f b ((2:Nat):Int) 0 1099511627776=_ from s1,sb]
  dsimp only
  rw[sb]
  refine Zcq hb (e:=e1) (ok:=true) s2 (c:=⟨3,[],[],(n:Int)⟩) (none0 3 _) (fun _ h2 _ => ?_)
  rcases s4 with ⟨_,s4⟩ | ⟨s4,_⟩
  case inr=>exact absurd h2 s4
  unfold entB
  dsimp only
  rw[if_neg (by omega),if_neg (by omega),Int.toNat_natCast,List.append_assoc,← s4]
  exact hbits
end Go.Proofs.YtinhldbfifpakaaGreat.PvGL2
set_option linter.unusedVariables false
set_option linter.unusedSimpArgs false
set_option maxRecDepth 10000
namespace Go.Proofs.YtinhldbfifpakaaGreat.PvGL2
open Go Go.Pv Go.Pv.GS Go.IntKind
structure UB (c:Z1j):Prop where
 il:c.f1.length≤1048576
 cl:c.f2.length≤1048576
 ii:∀ x∈c.f1,x.f0.size≤1048576∧x.f2.f6.length≤1048576∧x.f2.f7.length≤1048576∧Fits x.f2
 ci:∀ x∈c.f2,x.f0.size≤1048576
structure LB (c:Z1j):Prop where
 il:c.f1.length≤3000
 cl:c.f2.length≤3000
 ii:∀ x∈c.f1,x.f0.size≤3000∧x.f2.f6.length≤3000∧x.f2.f7.length≤3000∧Fits x.f2
 ci:∀ x∈c.f2,x.f0.size≤3000
def cOf (x:Z4q):Z1k:=⟨x.f0,x.f1⟩
def cBack (x:Z1k):Z4q:=⟨x.f0,x.f1⟩
def prog (c:Z1j):Zs:=⟨c.f0,c.f1,c.f2.map cOf,c.f3⟩
def doc (c:Zs):Z1j:=⟨c.f0,c.f1,c.f2.map cBack,c.f3⟩
end Go.Proofs.YtinhldbfifpakaaGreat.PvGL2
set_option linter.unusedVariables false
set_option linter.unusedSimpArgs false
set_option maxRecDepth 10000
namespace Go.Proofs.YtinhldbfifpakaaGreat.PvGL2
open Go Go.Pv Go.Pv.GS Go.IntKind
theorem rk_l0:∀ (n:Nat) (s:ByteArray) (acc:List ByteArray),s.size≤n→s.size≤2000000→acc.length+s.size≤4000000 →
  (Z1a.l0 s acc=some (.inl false)∧∀ ws:List ByteArray,(∀ w∈ws,w.size<256)→L s≠Z6m ws)∨(∃ ws,Z1a.l0 s acc=some (.inr (acc++ws))∧(∀ w∈ws,w.size<256)∧L s=Z6m ws∧ws.length≤s.size):=by
 intro n
 induction n with
 | zero =>
  intro s acc hn h5 ha
  rw[Z1a.l0,if_neg (by rw[decide_eq_true_eq];omega)]
  have:L s=[]:=List.length_eq_zero_iff.1 (by rw[Z64];omega)
  exact .inr ⟨[],by simp,by simp,by rw[this];rfl,by simp⟩
 | succ n ih =>
  intro s acc hn h5 ha
  by_cases h0:0<s.size
  case neg =>
   rw[Z1a.l0,if_neg (by rw[decide_eq_true_eq];omega)]
   have:L s=[]:=List.length_eq_zero_iff.1 (by rw[Z64];omega)
   exact .inr ⟨[],by simp,by simp,by rw[this];rfl,by simp⟩
  obtain⟨c,r,hc,hr,hbt⟩:=L_cons_of h0
  have hcl:=c.toNat_lt
  have hword:∀ ws:List ByteArray,(∀ w∈ws,w.size<256)→L s=Z6m ws→∃ w ws',ws=w::ws'∧w.size=c.toNat∧r=L w++Z6m ws':=fun ws hw e=>by
   cases ws with
   | nil=>rw[hc] at e;simp[Z6m] at e
   | cons w ws' =>
    rw[hc,Z57,word,List.cons_append,List.cons.injEq] at e
    refine⟨w,ws',rfl,?_,e.2⟩
    have:=hw w (by simp)
    rw[e.1,UInt8.toNat_ofNat',Nat.mod_eq_of_lt (by omega)]
  rw[Z1a.l0,if_pos (by simp;omega),chkB (by omega),hbt,Za (n:=(c.toNat:Int)) (by omega) (by omega),Za (n:=(c.toNat:Int)+1) (by omega) (by omega)]
  by_cases hle:(c.toNat:Int)+1>(s.size:Int)
  ·rw[if_pos (by simpa using hle)]
   refine .inl ⟨rfl,fun ws hw e => ?_⟩
   obtain⟨w,ws',_,h1,h2⟩:=hword ws hw e
   have:=congrArg List.length h2
   rw[List.length_append,Z64] at this
   omega
  ·have e1:Int.toNat ((c.toNat:Int)+1)=1+c.toNat:=by omega
   have l1:L (s.extract (Int.toNat 1) (Int.toNat ((c.toNat:Int)+1)))=r.take c.toNat:=by
    rw[Zbc,e1,hc];simp
   have l2:L (s.extract (Int.toNat ((c.toNat:Int)+1)) (Int.toNat (s.size:Int)))=r.drop c.toNat:=by
    rw[Zbc,e1,hc,Int.toNat_natCast,Nat.add_comm 1 c.toNat,List.drop_succ_cons,List.take_of_length_le (by simp;omega)]
   have s1:(s.extract (Int.toNat 1) (Int.toNat ((c.toNat:Int)+1))).size=c.toNat:=by rw[← Z64,l1,List.length_take];omega
   have s2:(s.extract (Int.toNat ((c.toNat:Int)+1)) (Int.toNat (s.size:Int))).size=s.size-1-c.toNat:=by rw[← Z64,l2,List.length_drop];omega
   rw[if_neg (by simpa using hle),chkB (by omega),chkB (by simp;omega),chkB (by omega)]
   generalize s.extract (Int.toNat 1) (Int.toNat ((c.toNat:Int)+1))=w0 at *
   generalize s.extract (Int.toNat ((c.toNat:Int)+1)) (Int.toNat (s.size:Int))=rest at *
   rcases ih rest (acc++[w0]) (by omega) (by omega) (by simp;omega) with ⟨g1,g2⟩ | ⟨ws,g1,g2,g3,g4⟩
   ·refine .inl ⟨g1,fun ws hw e => ?_⟩
    obtain⟨w,ws',rfl,h1,h2⟩:=hword ws hw e
    refine g2 ws' (fun z hz=>hw z (by simp[hz])) ?_
    rw[l2,h2,← h1,← Z64,List.drop_left]
   ·refine .inr ⟨w0::ws,by rw[g1];simp,fun z hz => ?_,?_,by simp;omega⟩
    ·rcases List.mem_cons.1 hz with rfl | hz
     ·omega
     ·exact g2 z hz
    ·rw[Z57        ,word,← g3,l1,l2,s1,hc]
     have:UInt8.ofNat c.toNat=c:=UInt8.ofNat_toNat
     rw[this,List.cons_append,List.take_append_drop]
theorem rk_l1 (ws:List ByteArray) (hl:ws.length≤4000000):∀ (m:Nat) (pre suf:List ByteArray) (o:List Z2g) (i:Int),suf.length=2*m→ws=pre++suf→i=(pre.length:Int)→o.length≤pre.length→Z1a.l1 ws o i=some (o++Z78 suf):=by
 intro m
 induction m with
 | zero =>
  intro pre suf o i hm h1 hi ho
  have:suf=[]:=List.length_eq_zero_iff.1 hm
  subst this
  have hlen:ws.length=pre.length:=by rw[h1];simp
  rw[Z1a.l1,Za (n:=i+1) (by omega) (by omega),if_neg (by simp;omega)];simp[Z78]
 | succ m ih =>
  intro pre suf o i hm h1 hi ho
  match suf,hm with
  | a::b::suf,hm =>
   have hlen:ws.length=pre.length+(suf.length+2):=by rw[h1];simp
   rw[Z1a.l1,Za (n:=i+1) (by omega) (by omega),if_pos (by simp;omega),Z03 h1 hi,sb,Z03 (pre:=pre++[a]) (suf:=suf) (x:=b) (by rw[h1];simp) (by simp;omega),sb,chkB (by simp;omega),Za (n:=i+2) (by omega) (by omega)]
   rw[ih (pre++[a,b]) suf _ (i+2) (by simp at hm;omega) (by rw[h1];simp) (by simp;omega) (by simp;omega),Z78]
   simp
theorem rkey15 (s:ByteArray) (hs:s.size≤2000000):Z1a.f s=some (keyB s):=by
 have hiff:=key_iff s hs
 have flat256:∀ x',chkC x'=0→∀ w∈Z72 x',w.size<256:=fun x' h w hw=>by
  obtain⟨z,hz,hw⟩:=List.mem_flatMap.1 hw
  have:=Zab (Ze5 h).2 z hz
  simp at hw
  rcases hw with rfl | rfl
  ·have:=this.1;omega
  ·have:=this.2;omega
 have no:(¬ ∃ x,chkC x=0∧L s=keyL x)→keyB s=false:=fun h=>by
  cases e:keyB s with
  | false=>rfl
  | true=>exact absurd (hiff.1 e) h
 unfold Z1a.f
 rcases rk_l0 s.size s [] (Nat.le_refl _) hs (by simp;omega) with ⟨g1,g2⟩ | ⟨ws,g1,g2,g3,g4⟩
 ·rw[g1,sb]
  dsimp only
  rw[no (fun⟨x',h,e⟩=>g2 (Z72 x') (flat256 x' h) (by rw[e,Z7k]))]
 ·rw[g1,sb,List.nil_append]
  dsimp only
  have ht:Int.tmod (ws.length:Int) 2=((ws.length % 2:Nat):Int):=by rw[Int.tmod_eq_emod_of_nonneg (by omega)];omega
  have huniq:∀ x',chkC x'=0→L s=keyL x'→ws=Z72 x':=fun x' h e=>Zbd g2 (flat256 x' h) (by rw[← g3,e,Z7k])
  have heven:∀ x':List Z2g,(Z72 x').length % 2=0:=fun x'=>by
   induction x' with
   | nil=>rfl
   | cons z x' ih =>
    have:Z72 (z::x')=z.f0::z.f1::Z72 x':=by simp[Z72]
    rw[this];simp;omega
  rw[ht]
  by_cases hodd:ws.length % 2=1
  ·rw[if_pos (by simp;omega),no (fun⟨x',h,e⟩=>by
    have:=huniq x' h e
    have h2:=heven x'
    rw[← this] at h2;omega)]
  ·rw[if_neg (by simp;omega),rk_l1 ws (by omega) (ws.length / 2) [] ws [] 0 (by omega) rfl rfl (by simp),sb,List.nil_append,rcheck,sb]
   by_cases hc:chkC (Z78 ws)=0
   ·rw[hc,hiff.2 ⟨Z78 ws,hc,by rw[g3,Z7k,Zbw ws (by omega)]⟩];rfl
   ·rw[no (fun⟨x',h,e⟩=>by
     have:=huniq x' h e
     rw[this,Zbo] at hc
     exact hc h)]
    congr 1
    simpa using hc
theorem rright_r (r:Zc):Z38.f r=some (Zdc r):=by
 unfold Z38.f Zdc
 by_cases h1:0≤r.f0
 ·by_cases h2:r.f0≤r.f1
  ·rw[if_pos (by simpa using h1),if_pos (by simpa using h2),sb];congr 1;simp[Z5k,h1,h2]
  ·rw[if_pos (by simpa using h1),if_neg (by simpa using h2),sb];congr 1;simp[Z5k,h1,h2]
 ·rw[if_neg (by simpa using h1),sb];congr 1;simp[Z5k,h1]
def cutsR:Option ByteArray→List Z4q→Bool
 | _,[]=>true
 | p,x::l=>keyB x.f0&&(Zdc x.f1&&((match p with | none=>true | some q=>bl q x.f0)&&cutsR (some x.f0) l))
theorem Zf3 (p:Option ByteArray) (x:Z4q) (l:List Z4q):cutsR p (x::l)=(keyB x.f0&&(Zdc x.f1&&((match p with | none=>true | some q=>bl q x.f0)&&cutsR (some x.f0) l))):=rfl
theorem cutsR_eq:∀ (l:List Z4q) (p:Option ByteArray),cutsR p l=cutsB p (l.map cOf):=by
 intro l
 induction l with
 | nil=>intro p;rfl
 | cons x l ih=>intro p;rw[Zf3,List.map_cons,Zby,ih];rfl
def lastR (pre:List Z4q):Option ByteArray:=pre.getLast?.map (·.f0)
theorem rr_l0 (c:Z1j) (hc:LB c):∀ (suf pre:List Z0z) (i:Int),c.f1=pre++suf→i=(pre.length:Int)→Z1u.l0 c i=some (if suf.all itmOK=true then .inr () else .inl false):=by
 have hil:=hc.il
 intro suf
 induction suf with
 | nil=>intro pre i h1 hi;rw[Z1u.l0,if_neg (by rw[h1];simp[hi])];rfl
 | cons x suf ih =>
  intro pre i h1 hi
  have hlen:c.f1.length=pre.length+(suf.length+1):=by rw[h1];simp
  obtain⟨hk,h6,h7,hf⟩:=hc.ii x (by rw[h1];simp)
  obtain⟨e,_,e1,e3⟩:=Zf5 x.f2 hf (by omega) (by omega)
  rw[Z1u.l0,if_pos (by simp;omega),Z03 h1 hi,sb,rkey15 _ (by omega),sb,rtime,sb,e1,sb,Za (n:=i+1) (by omega) (by omega),ih (pre++[x]) (i+1) (by simp[h1]) (by simp;omega),List.all_cons,itmOK,sok]
  cases keyB x.f0
  ·simp[sb]
  cases Z4a x.f1
  ·simp[sb]
  by_cases he:e=0
  ·have:=e3.1 he
   simp[he,sb,this]
  ·have:¬ Z2n   x.f2:=fun h=>he (e3.2 h)
   simp[he,sb,this]
theorem le_not_lt (a b:ByteArray):(Op.bytesLess a.toList b.toList||a.toList==b.toList) = !bl b a:=by
 rw[eqB]
 cases h1:bl b a with
 | true =>
  have h2:Op.bytesLess a.toList b.toList=false:=bl_asymm h1
  rw[h2]
  simp
  intro h
  subst h
  rw[bl_irrefl'] at h1
  simp at h1
 | false =>
  cases h2:Op.bytesLess a.toList b.toList with
  | true=>simp
  | false =>
   have:a=b:=bl_tri' h2 h1
   simp[this]
theorem rr_l1 (c:Z1j) (hc:LB c):∀ (suf pre:List Z4q) (i:Int),c.f2=pre++suf→i=(pre.length:Int)→Z1u.l1 c i=some (if cutsR (lastR pre) suf=true then .inr () else .inl false):=by
 have hcl:=hc.cl
 intro suf
 induction suf with
 | nil=>intro pre i h1 hi;rw[Z1u.l1,if_neg (by rw[h1];simp[hi])];rfl
 | cons x suf ih =>
  intro pre i h1 hi
  have hlen:c.f2.length=pre.length+(suf.length+1):=by rw[h1];simp
  have hk:=hc.ci x (by rw[h1];simp)
  rw[Z1u.l1,if_pos (by simp;omega),Z03 h1 hi,sb,rkey15 _ (by omega),sb,rright_r,sb,Za (n:=i+1) (by omega) (by omega)]
  have hnext:=ih (pre++[x]) (i+1) (by simp[h1]) (by simp;omega)
  rw[hnext,show lastR (pre++[x])=some x.f0 by simp[lastR],Zf3]
  cases keyB x.f0
  ·simp[sb]
  cases Zdc x.f1
  ·simp[sb]
  rcases List.eq_nil_or_concat pre with rfl | ⟨p',p,rfl⟩
  ·simp only[Bool.not_true,Bool.false_eq_true,if_false,Bool.true_and]
   rw[if_neg (by simp at hi ⊢;omega),sb,if_neg (by simp)]
   simp[lastR]
  ·simp only[Bool.not_true,Bool.false_eq_true,if_false,Bool.true_and]
   simp only[List.concat_eq_append,List.length_append,List.length_singleton] at hi hlen ⊢
   rw[if_pos (by simp;omega),Za (n:=i-1) (by omega) (by omega),Z03 (pre:=p') (suf:=x::suf) (x:=p) (by rw[h1];simp) (by omega),sb,sb,show lastR (p'++[p])=some p.f0 by simp[lastR],le_not_lt]
   cases h:bl p.f0 x.f0<;>simp[h]
theorem rright15 (c:Z1j) (hc:LB c):Z1u.f c=some (Z87 (prog c)):=by
 have hil:=hc.il
 have hcl:=hc.cl
 unfold Z1u.f Z87 prog
 dsimp only
 rw[List.length_map]
 by_cases k1:c.f0=1
 ·rw[if_pos (by simpa using k1),if_pos k1,rr_l0 c hc c.f1 [] 0 rfl rfl,sb]
  cases c.f1.all itmOK
  ·simp
  simp only[if_true,Bool.true_and]
  by_cases h1:0<c.f1.length
  ·by_cases h2:c.f1.length≤64
   ·by_cases h3:c.f2.length=0
    ·rw[if_pos (by simp;omega),if_pos (by simp;omega),if_pos (by simp[h3]),sb];congr 1;simp[h1,h2,h3];rfl
    ·rw[if_pos (by simp;omega),if_pos (by simp;omega),if_neg (by simp;simpa using h3),sb];congr 1;simp[h3]
   ·rw[if_pos (by simp;omega),if_neg (by simp;omega),sb];congr 1;simp[h2]
  ·rw[if_neg (by rw[decide_eq_true_eq];omega),sb];congr 1;simp[h1]
 rw[if_neg (by simpa using k1),if_neg k1]
 by_cases k2:c.f0=2
 ·rw[if_pos (by simpa using k2),if_pos k2,rr_l1 c hc c.f2 [] 0 rfl rfl,sb,show lastR []=none from rfl,cutsR_eq]
  cases cutsB none (c.f2.map cOf)
  ·simp
  simp only[if_true,Bool.true_and]
  by_cases h2:c.f2.length≤64
  ·have h2':((c.f2.length:Int)≤64):=by omega
   by_cases h3:c.f1.length=0
   ·rw[if_pos (by simpa using h2'),if_pos (by simp[h3]),sb];congr 1;simp[h2,h3];rfl
   ·rw[if_pos (by simpa using h2'),if_neg (by simp;simpa using h3),sb];congr 1;simp[h3]
  ·rw[if_neg (by rw[decide_eq_true_eq];omega),sb];congr 1;simp[h2]
 rw[if_neg (by simpa using k2),if_neg k2]
 by_cases k3:c.f0=3
 ·rw[if_pos (by simpa using k3),if_pos k3,rtime,sb]
  cases ht:Z4a c.f3 with
  | false =>
   rw[if_neg (by simp),sb]
   congr 1
   unfold Z4a at ht
   rw[decide_eq_false_iff_not] at ht
   symm
   rw[decide_eq_false_iff_not]
   intro h;exact ht ⟨h.1,h.2.1⟩
  | true =>
   unfold Z4a at ht
   rw[decide_eq_true_eq] at ht
   rw[if_pos rfl]
   by_cases h1:c.f1.length=0
   ·rw[if_pos (by simp[h1]),sb];congr 1;rw[Bool.eq_iff_iff,beq_iff_eq,decide_eq_true_eq];omega
   ·rw[if_neg (by simp;simpa using h1),sb];congr 1;symm;rw[decide_eq_false_iff_not];intro h;omega
 ·rw[if_neg (by simpa using k3),if_neg k3]
theorem by8_bits (l:List Int):by8 l=Z0c l:=by
 unfold by8 Z0c
 congr 1
theorem Zdb (t:ByteArray) (ht:t.size≤2000000):Z4b.f t=some (strB (Z6i t)):=by
 have hl:=Z4y t
 have hcl:=Z0e t.size
 unfold Z4b.f
 rw[Z31 (by omega) (by omega),Z7i (by omega),sb,rtext _ (by omega) (Z8z t),sb,chkB (by rw[Zl,Zl,Z21];omega),Z6i,Z0b,by8_bits]
theorem rsmp1 {s:Z7} (hs:SOk s):Z01.f [s]=some (strB (smpB s)):=by
 obtain⟨c1,c2,⟨g,hL⟩,c3,_⟩:=one_chunk hs
 have hsz:(Z5l (encX [s])).size=(encX [s]).length:=by rw[← Z4y,Z73 (Zbt hL)]
 obtain⟨x,f,e,hX⟩:=renc_eq hs.cok (by simp) (by intro y hy;simp at hy;subst hy;exact hs.f)
 have:=hL.unique hX
 subst this
 have hh:Z01.h [s]=some [[s]]:=by
  unfold Z01.h
  rw[if_pos (by simp),show at? [s] (0:Int)=some s from rfl,sb,Za (n:=0+1) (by omega) (by omega),Z01.hl,if_neg (by simp)]
  rfl
 have hcl:=Z0e 1
 have htl:=Z62 (Z5l (encX [s]))
 unfold Z01.f
 rw[hh,sb,show((([[s]]:List (List Z7)).length:Nat):Int)=((1:Nat):Int) from rfl,Z31 (by omega) (by omega),Z7i (by omega),sb,Z01.l0,if_pos (by simp),show at? [[s]] (0:Int)=some [s] from rfl,sb,e,sb,Zdb _ (by omega),sb,chkB (by rw[Zl,Zl];omega),Za (n:=0+1) (by omega) (by omega),Z01.l0,if_neg (by simp),sb,smpB,Z0b]
theorem rset1 {r:Zc} (h:Z5k r):Z3h.f [r]=some (strB (cnt2 1++layB 0 [r])):=by
 obtain⟨h1,h2,h3⟩:=h
 have c0:=Z0e 1
 have c1:=Z0e (r.f0-0).toNat
 have c2:=Z0e (r.f1-r.f0).toNat
 unfold Z3h.f
 rw[show((([r]:List Zc).length:Nat):Int)=((1:Nat):Int) from rfl,Z31 (by omega) (by omega),Z7i (by omega),sb,Z3h.l0,if_pos (by simp),show at? [r] (0:Int)=some r from rfl,sb,
  Za (n:=r.f0-0) (by omega) (by omega),Z31 (n:=r.f0-0) (by omega) (by omega),Za (n:=r.f1-r.f0) (by omega) (by omega),Z31 (n:=r.f1-r.f0) (by omega) (by omega),
  Z7h ⟨by omega,by omega⟩,sb,chkB (by rw[Zl,Zl];omega),Z7h ⟨by omega,by omega⟩,sb,← Z0b,chkB (by rw[Zl,Zl,List.length_append];omega),← Z0b,Za (n:=0+1) (by omega) (by omega),Za (n:=r.f1+2) (by omega) (by omega),Z3h.l0,if_neg (by simp),sb]
 congr 2
 simp[layB]
theorem ren_l0 (c:Z1j) (hl:c.f1.length≤64):∀ (suf pre:List Z0z) (s:List Bool) (i:Int),c.f1=pre++suf→i=(pre.length:Int)→(∀ x∈suf,IK x)→s.length+3300000*suf.length<400000000000 →
  Z1f.l0 c (strB s) i=some (strB (s++suf.flatMap itmB)):=by
 intro suf
 induction suf with
 | nil=>intro pre s i h1 hi _ _;rw[Z1f.l0,if_neg (by rw[h1];simp[hi])];simp
 | cons x suf ih =>
  intro pre s i h1 hi hx hs
  have hlen:c.f1.length=pre.length+(suf.length+1):=by rw[h1];simp
  have hk:=hx x (by simp)
  have k1:=hk.key
  have k2:=Z62 x.f0
  have k3:=smpB_len hk.ok
  have k4:=itmB_len hk
  simp only[List.length_cons] at hs
  rw[Z1f.l0,if_pos (by simp;omega),Z03 h1 hi,sb,Zdb _ (by omega),sb,chkB (by rw[Zl,Zl];omega),rsmp1 hk.ok,sb,← Z0b,chkB (by rw[Zl,Zl,List.length_append];omega),← Z0b,Za (n:=i+1) (by omega) (by omega)]
  have e:s++Z6i x.f0++smpB ⟨x.f1,x.f2⟩=s++itmB x:=by rw[itmB,List.append_assoc]
  rw[e,ih (pre++[x]) _ (i+1) (by simp[h1]) (by simp;omega) (fun y hy=>hx y (by simp[hy])) (by rw[List.length_append];omega),List.flatMap_cons,List.append_assoc]
theorem ren_l1 (c:Z1j) (hl:c.f2.length≤64):∀ (suf pre:List Z4q) (s:List Bool) (i:Int),c.f2=pre++suf→i=(pre.length:Int)→(∀ x∈suf,CK (cOf x))→s.length+17000*suf.length<400000000000 →
  Z1f.l1 c (strB s) i=some (strB (s++(suf.map cOf).flatMap Z8w)):=by
 intro suf
 induction suf with
 | nil=>intro pre s i h1 hi _ _;rw[Z1f.l1,if_neg (by rw[h1];simp[hi])];simp
 | cons x suf ih =>
  intro pre s i h1 hi hx hs
  have hlen:c.f2.length=pre.length+(suf.length+1):=by rw[h1];simp
  have hk:=hx x (by simp)
  have k1:x.f0.size≤2080:=hk.key
  have k2:=Z62 x.f0
  have k3:=Zcz [x.f1] 0
  have k5:=Z0e 1
  have k4:=Ze0 hk
  have hr:Z5k x.f1:=hk.ok
  simp only[List.length_cons,List.length_nil] at hs k3
  rw[Z1f.l1,if_pos (by simp;omega),Z03 h1 hi,sb,Zdb _ (by omega),sb,chkB (by rw[Zl,Zl];omega),rset1 hr,sb,← Z0b,chkB (by rw[Zl,Zl,List.length_append,List.length_append];omega),← Z0b,Za (n:=i+1) (by omega) (by omega)]
  have e:s++Z6i x.f0++(cnt2 1++layB 0 [x.f1])=s++Z8w (cOf x):=by rw[Z8w,List.append_assoc];rfl
  rw[e,ih (pre++[x]) _ (i+1) (by simp[h1]) (by simp;omega) (fun y hy=>hx y (by simp[hy])) (by rw[List.length_append];omega),List.map_cons,List.flatMap_cons,List.append_assoc]
theorem renc15 (c:Z1j) (hk:EK (prog c)):∃ (b:List Int) (f:Nat),Z1f.f c=some b∧Laid b f (entB (prog c)):=by
 have hl:=entB_len hk
 have hkind:0≤c.f0∧c.f0<4:=by rcases hk with ⟨k,_⟩ | ⟨k,_⟩ | ⟨k,_⟩<;>(have k':c.f0=_:=k;omega)
 have fin:∀ s,s=entB (prog c)→∃ (b:List Int) (f:Nat),((Z1p.f (strB s))>>=fun t=>some t)=some b∧Laid b f (entB (prog c)):=fun s hs=>by
  obtain⟨b,f,e,h⟩:=rbytes s (by rw[hs];omega)
  rw[e,sb]
  exact⟨b,f,rfl,hs ▸ h⟩
 unfold Z1f.f
 rw[Z31 (n:=c.f0) (by omega) (by omega)]
 have hp:=rput (n:=c.f0.toNat) (k:=2) (by omega) (by omega)
 rw[show((c.f0.toNat:Nat):Int)=c.f0 from by omega] at hp
 rw[show Z2r.f c.f0 2=_ from hp,sb]
 rcases hk with ⟨k,l,hx,n0,m0⟩ | ⟨k,l,hx,n0,m0⟩ | ⟨k,l,n0⟩
 ·have k':c.f0=1:=k
  have l':c.f1.length≤64:=l
  have:=Z0e c.f1.length
  rw[if_pos (by simpa using k'),Z31 (by omega) (by omega),Z7i (by omega),sb,chkB (by rw[Zl,Zl,Z50];omega),← Z0b,ren_l0 c l' c.f1 [] _ 0 rfl rfl hx (by rw[List.length_append,Z50];omega),sb,sb]
  exact fin _ (by unfold entB;rw[if_pos k];simp[prog])
 ·have k':c.f0=2:=k
  have l':c.f2.length≤64:=by have:(c.f2.map cOf).length≤64:=l;simpa using this
  have:=Z0e c.f2.length
  rw[if_neg (by simp;omega),if_pos (by simpa using k'),Z31 (by omega) (by omega),Z7i (by omega),sb,chkB (by rw[Zl,Zl,Z50];omega),← Z0b,ren_l1 c l' c.f2 [] _ 0 rfl rfl (fun x hm=>hx (cOf x) (List.mem_map.2 ⟨x,hm,rfl⟩)) (by rw[List.length_append,Z50];omega),sb,sb,sb]
  exact fin _ (by unfold entB;rw[if_neg (by have k2:(prog c).f0=2:=k;omega),if_pos k];simp[prog])
 ·have k':c.f0=3:=k
  have l':0≤c.f3∧c.f3≤1099511627776:=l
  have:=Z0e c.f3.toNat
  rw[if_neg (by simp;omega),if_neg (by simp;omega),Z31 (by omega) (by omega),Z7h ⟨by omega,by omega⟩,sb,chkB (by rw[Zl,Zl,Z50];omega),← Z0b,sb,sb]
  exact fin _ (by unfold entB;rw[if_neg (by have k2:(prog c).f0=3:=k;omega),if_neg (by have k2:(prog c).f0=3:=k;omega)];rfl)
theorem from_l0c (c:Zs) (hl:c.f1.length≤1048576):∀ (suf pre:List Z0z) (i:Int),c.f1=pre++suf→i=(pre.length:Int)→Z1n.l0 c pre i=some c.f1:=by
 intro suf
 induction suf with
 | nil=>intro pre i h1 hi;rw[Z1n.l0,if_neg (by rw[h1];simp[hi]),h1];simp
 | cons x suf ih =>
  intro pre i h1 hi
  have hlen:c.f1.length=pre.length+(suf.length+1):=by rw[h1];simp
  rw[Z1n.l0,if_pos (by simp;omega),Z03 h1 hi,sb,chkB (by simp;omega),Za (n:=i+1) (by omega) (by omega)]
  exact ih (pre++[x]) (i+1) (by simp[h1]) (by simp;omega)
theorem from_l1c (c:Zs) (y:List Z0z) (hl:c.f2.length≤1048576):∀ (suf pre:List Z1k) (i:Int),c.f2=pre++suf→i=(pre.length:Int)→Z1n.l1 c y (pre.map cBack) i=some (c.f2.map cBack):=by
 intro suf
 induction suf with
 | nil=>intro pre i h1 hi;rw[Z1n.l1,if_neg (by rw[h1];simp[hi]),h1];simp
 | cons x suf ih =>
  intro pre i h1 hi
  have hlen:c.f2.length=pre.length+(suf.length+1):=by rw[h1];simp
  rw[Z1n.l1,if_pos (by simp;omega),Z03 h1 hi,sb,chkB (by simp;omega),Za (n:=i+1) (by omega) (by omega)]
  have:=ih (pre++[x]) (i+1) (by simp[h1]) (by simp;omega)
  rw[List.map_append] at this
  exact this
theorem from15 (c:Zs) (h1:c.f1.length≤1048576) (h2:c.f2.length≤1048576):Z1n.f c=some (doc c):=by
 unfold Z1n.f
 rw[from_l0c c h1 c.f1 [] 0 rfl rfl,sb,show([]:List Z4q)=([]:List Z1k).map cBack from rfl,from_l1c c _ h2 c.f2 [] 0 rfl rfl,sb]
 rfl
end Go.Proofs.YtinhldbfifpakaaGreat.PvGL2
set_option linter.unusedVariables false
set_option linter.unusedSimpArgs false
set_option maxRecDepth 10000
namespace Go.Proofs.YtinhldbfifpakaaGreat.PvGL2
open Go Go.Pv Go.Pv.GS Go.IntKind
theorem cutB_l0 (l:List Z7) (hl:l.length≤1000000) (hk:∀ s∈l,SOk s):∀ (suf:List Z7) (dn:List (List Z7)) (cu:List Z7) (i:Int),l=dn.flatten++cu++suf→i=((dn.flatten++cu).length:Int) →
  (∀ c∈dn,COk c∧c≠[]∧Z77 c)→COk cu→cu≠[]→Z77 cu →
  ∃ C,Z1w.l0 l dn cu i=some C∧Z01.hl l dn cu i=some C∧C.flatten=l∧∀ c∈C,COk c∧c≠[]∧Z77 c:=by
 intro suf
 induction suf with
 | nil =>
  intro dn cu i h1 hi hC h2 h3 h4
  refine⟨dn++[cu],?_,?_,by rw[h1];simp,fun c hc => ?_⟩
  ·rw[Z1w.l0,if_neg (by rw[h1];simp[hi])]
  ·rw[Z01.hl,if_neg (by rw[h1];simp[hi])]
  ·rcases List.mem_append.1 hc with hc | hc
   ·exact hC c hc
   ·simp at hc;subst hc;exact⟨h2,h3,h4⟩
 | cons s suf ih =>
  intro dn cu i h1 hi hC h2 h3 h4
  have hlen:l.length=(dn.flatten++cu).length+(suf.length+1):=by rw[h1,List.length_append];rfl
  have hdn:=Zd1 (C:=dn) (fun c hc=>(hC c hc).2.1)
  have hn:(dn.flatten++cu).length=dn.flatten.length+cu.length:=List.length_append
  have hi1:((dn.flatten++cu++[s]).length:Int)=i+1:=by rw[hi,List.length_append];simp
  have hs:=hk s (by rw[h1];simp)
  have h32:=h2.len
  obtain⟨r,f1,f2,f3⟩:=fits_eq cu s (by omega) (fun x hx=>by
   have:x∈l:=by rw[h1];rcases List.mem_append.1 hx with hx | hx;simp[hx];simp at hx;subst hx;simp
   exact⟨(hk x this).v,(hk x this).f⟩) hs.t
  have hi2:i<2000000:=by omega
  rw[Z1w.l0,if_pos (decide_eq_true (by omega)),Z03 h1 hi,sb,chkB (by omega),f1,sb,Za (n:=i+1) (by omega) (by omega)]
  cases r with
  | false =>
   rw[if_pos (show(!false)=true from rfl),Z01.hl,if_pos (decide_eq_true (by omega)),chkB (by omega),Z03 h1 hi,sb,f2,sb,Za (n:=i+1) (by omega) (by omega),if_neg (by simp)]
   exact ih (dn++[cu]) [s] (i+1) (by rw[h1];simp) (by rw[← hi1];simp) (fun c hc=>by
    rcases List.mem_append.1 hc with hc | hc
    ·exact hC c hc
    ·simp at hc;subst hc;exact⟨h2,h3,h4⟩) hs.cok (by simp) (Z77.one s)
  | true =>
   rw[if_neg (show ¬ ((!true)=true) by simp),chkB (by omega),Z01.hl,if_pos (decide_eq_true (by omega)),chkB (by omega),Z03 h1 hi,sb,f2,sb,Za (n:=i+1) (by omega) (by omega),if_pos rfl,chkB (by omega)]
   exact ih dn (cu++[s]) (i+1) (by rw[h1];simp) (by rw[← hi1];simp) hC (f3 rfl h2) (by simp) (h4.snoc f1)
theorem cutB (l:List Z7) (hl:l.length≤1000000) (hk:∀ s∈l,SOk s):∃ C,Z1w.f l=some C∧Z01.h l=some C∧C.flatten=l∧(∀ c∈C,Chu c)∧C.length≤l.length:=by
 suffices h:∃ C,Z1w.f l=some C∧Z01.h l=some C∧C.flatten=l∧∀ c∈C,COk c∧c≠[]∧Z77 c by
  obtain⟨C,e1,e2,e3,e4⟩:=h
  refine⟨C,e1,e2,e3,fun c hc => ?_,by have:=Zd1 (C:=C) (fun c hc=>(e4 c hc).2.1);rw[e3] at this;exact this⟩
  obtain⟨c1,c2,c3⟩:=e4 c hc
  have hm:∀ s∈c,SOk s:=fun s hs=>hk s (by rw[← e3];exact List.mem_flatten.2 ⟨c,hc,hs⟩)
  have h32:=c1.len
  refine⟨c1,c2,fun s hs=>(hm s hs).hok,?_⟩
  rw[grow_chk c (by omega) c2 hm,if_pos c3]
 unfold Z1w.f Z01.h
 cases l with
 | nil=>exact⟨[],rfl,rfl,rfl,by simp⟩
 | cons s suf =>
  rw[if_pos (by simp),if_pos (by simp),show at? (s::suf) 0=some s from rfl,sb,sb,Za (by omega) (by omega)]
  exact cutB_l0 (s::suf) hl hk suf [] [s] (0+1) (by simp) (by simp) (by simp) (hk s (by simp)).cok (by simp) (Z77.one s)
def cutX (l:List Z7):List (List Z7):=(Z1w.f l).getD []
def smpsB (l:List Z7):List Bool:=cnt2 (cutX l).length++Z9g (cutX l)
structure CutX (l:List Z7) (C:List (List Z7)):Prop where
 p:Z1w.f l=some C
 d:Z01.h l=some C
 x:cutX l=C
 flat:C.flatten=l
 ok:∀ c∈C,Chu c
 len:C.length≤l.length
theorem cutX_ok (l:List Z7) (hl:l.length≤1000000) (hk:∀ s∈l,SOk s):∃ C,CutX l C:=by
 obtain⟨C,e1,e2,e3,e4,e5⟩:=cutB l hl hk
 exact⟨C,e1,e2,by unfold cutX;rw[e1];rfl,e3,e4,e5⟩
theorem Chu.enc {c:List Z7} (h:Chu c):Z02.f c=some (encX c,0)∧(∃ f,Laid (encX c) f (Z6o c))∧(Z5l (encX c)).size=(encX c).length∧(encX c).length≤400000:=by
 obtain⟨e1,⟨f,e2⟩,e3⟩:=encX_eq h.cok h.ne h.k h.h0
 exact⟨e1,⟨f,e2⟩,by rw[← Z4y,Z73 (Zbt e2)],e3⟩
theorem Chu.txt {c:List Z7} (h:Chu c):(Z6i (Z5l (encX c))).length≤3300000:=by
 obtain⟨_,_,e3,e4⟩:=h.enc
 have:=Z62 (Z5l (encX c))
 omega
theorem chusB_len:∀ (C:List (List Z7)),(∀ c∈C,Chu c)→(Z9g C).length≤3300000*C.length:=by
 intro C h
 exact flat_le (fun c=>Z6i (Z5l (encX c))) 3300000 C (fun c hc=>(h c hc).txt)
theorem smpsB_len {l:List Z7} {C:List (List Z7)} (h:CutX l C):(smpsB l).length≤71+3300000*l.length:=by
 have h1:=chusB_len C h.ok
 have h2:=Z0e C.length
 have h3:=h.len
 have:3300000*C.length≤3300000*l.length:=Nat.mul_le_mul_left _ h3
 rw[smpsB,h.x,List.length_append];omega
theorem smpsW_l0 (C:List (List Z7)) (hC:∀ c∈C,Chu c) (hl:C.length≤1000000):∀ (suf pre:List (List Z7)) (b:List Int) (f:Nat) (s:List Bool) (i:Int),C=pre++suf→i=(pre.length:Int)→s.length+3300000*suf.length<600000000000→Laid b f s →
  ∃ (b':List Int) (f':Nat),Z19.l0 C b (f:Int) i=some (b',(f':Int))∧Laid b' f' (s++Z9g suf):=by
 intro suf
 induction suf with
 | nil =>
  intro pre b f s i h1 hi _ hL
  rw[Z19.l0,if_neg (by rw[h1];simp[hi])]
  exact⟨b,f,rfl,by simpa[Z9g] using hL⟩
 | cons c suf ih =>
  intro pre b f s i h1 hi hs hL
  have hlen:C.length=pre.length+(suf.length+1):=by rw[h1];simp
  have hc:=hC c (by rw[h1];simp)
  obtain⟨e1,_,e3,e4⟩:=hc.enc
  have ht:=hc.txt
  simp only[List.length_cons] at hs
  rw[Z19.l0,if_pos (by simp;omega),Z03 h1 hi,sb,e1,sb]
  dsimp only
  obtain⟨b1,f1,g1,g2⟩:=text_eq hL (Z5l (encX c)) (by omega) (by omega)
  rw[g1,sb,Za (n:=i+1) (by omega) (by omega)]
  dsimp only
  obtain⟨b2,f2,g3,g4⟩:=ih (pre++[c]) b1 f1 _ (i+1) (by simp[h1]) (by simp;omega) (by rw[List.length_append];omega) g2
  exact⟨b2,f2,g3,by simpa[Z9g] using g4⟩
theorem smpsW {b:List Int} {f:Nat} {s:List Bool} (hL:Laid b f s) {l:List Z7} {C:List (List Z7)} (h:CutX l C) (hl:l.length≤100000) (hs:s.length<200000000000) :
  ∃ (b':List Int) (f':Nat),Z19.f b (f:Int) l=some (b',(f':Int))∧Laid b' f' (s++smpsB l):=by
 have h3:=h.len
 have h2:=Z0e C.length
 unfold Z19.f
 rw[h.p,sb,Z31 (by omega) (by omega)]
 obtain⟨b1,f1,e1,h1⟩:=Z6b hL (by omega) (n:=(C.length:Int)) (by omega) (by omega)
 rw[e1,sb]
 dsimp only
 rw[Int.toNat_natCast] at h1
 obtain⟨b2,f2,e2,h4⟩:=smpsW_l0 C h.ok (by omega) C [] b1 f1 _ 0 rfl rfl (by rw[List.length_append];omega) h1
 rw[e2,sb]
 exact⟨b2,f2,rfl,by rw[smpsB,h.x,← List.append_assoc];exact h4⟩
theorem smpsR_l0 (C:List (List Z7)) (hC:∀ c∈C,Chu c) (hl:C.length≤1000000):∀ (suf pre:List (List Z7)) (s:List Bool) (i:Int),C=pre++suf→i=(pre.length:Int)→s.length+3300000*suf.length<600000000000 →
  Z01.l0 C (strB s) i=some (strB (s++Z9g suf)):=by
 intro suf
 induction suf with
 | nil=>intro pre s i h1 hi _;rw[Z01.l0,if_neg (by rw[h1];simp[hi])];simp[Z9g]
 | cons c suf ih =>
  intro pre s i h1 hi hs
  have hlen:C.length=pre.length+(suf.length+1):=by rw[h1];simp
  have hc:=hC c (by rw[h1];simp)
  obtain⟨e1,⟨g,hX⟩,e3,e4⟩:=hc.enc
  have ht:=hc.txt
  obtain⟨x,f,e,hX2⟩:=renc_eq hc.cok hc.ne (fun s hs=>(hc.k s hs).fits)
  have:=hX.unique hX2
  subst this
  simp only[List.length_cons] at hs
  rw[Z01.l0,if_pos (by simp;omega),Z03 h1 hi,sb,e,sb,Zdb _ (by omega),sb,chkB (by rw[Zl,Zl];omega),← Z0b,Za (n:=i+1) (by omega) (by omega),ih (pre++[c]) _ (i+1) (by simp[h1]) (by simp;omega) (by rw[List.length_append];omega)]
  simp[Z9g]
theorem smpsR {l:List Z7} {C:List (List Z7)} (h:CutX l C) (hl:l.length≤100000):Z01.f l=some (strB (smpsB l)):=by
 have h3:=h.len
 have h2:=Z0e C.length
 unfold Z01.f
 rw[h.d,sb,Z31 (by omega) (by omega),Z7i (by omega),sb,smpsR_l0 C h.ok (by omega) C [] _ 0 rfl rfl (by omega),sb,smpsB,h.x]
end Go.Proofs.YtinhldbfifpakaaGreat.PvGL2
set_option linter.unusedVariables false
set_option linter.unusedSimpArgs false
set_option maxRecDepth 10000
namespace Go.Proofs.YtinhldbfifpakaaGreat.PvGL2
open Go Go.Pv Go.Pv.GS Go.IntKind
theorem rise_some:∀ (l:List Z7) (p:Z7),rise (some p) l=true→(∀ s∈l,p.f0<s.f0)∧l.Pairwise (fun a b=>a.f0<b.f0):=by
 intro l
 induction l with
 | nil=>intro p _;simp
 | cons s l ih =>
  intro p h
  simp only[rise,good,aft,Bool.and_eq_true,decide_eq_true_eq] at h
  obtain⟨h1,h2⟩:=ih s h.2
  refine⟨fun x hx => ?_,List.pairwise_cons.2 ⟨h1,h2⟩⟩
  rcases List.mem_cons.1 hx with rfl | hx
  ·exact h.1.2
  ·have:=h1 x hx;have:=h.1.2;omega
theorem rise_up {l:List Z7} (h:rise none l=true):l.Pairwise (fun a b=>a.f0<b.f0):=by
 cases l with
 | nil=>simp
 | cons s l =>
  simp only[rise,Bool.and_eq_true] at h
  obtain⟨h1,h2⟩:=rise_some l s h.2
  exact List.pairwise_cons.2 ⟨h1,h2⟩
theorem rise_sok:∀ (l:List Z7) (p:Option Z7),(∀ s∈l,Fits s.f1)→rise p l=true→∀ s∈l,SOk s:=by
 intro l
 induction l with
 | nil=>simp
 | cons s l ih =>
  intro p hf h x hx
  simp only[rise,good,Bool.and_eq_true] at h
  rcases List.mem_cons.1 hx with rfl | hx
  ·exact sok_inv (hf x (by simp)) h.1.1
  ·exact ih (some s) (fun y hy=>hf y (by simp[hy])) h.2 x hx
noncomputable def hA (x:Zy):Bool:=x.f3.all fun s=>decide (s.f0≤x.f1)
noncomputable def hT (x:Zy):Bool:=x.f3.all fun s => !hasB x.f2.f0 s.f0
def tA (x:Zy):Bool:=x.f2.f0.all fun r=>decide (r.f1≤x.f1)
noncomputable def Za1 (x:Zy):Bool:=Z4a x.f1&&(rise none x.f3&&(hA x&&(hT x&&(decide (x.f2.f0.length≤65536)&&tA x))))
noncomputable def Z7v:Option ByteArray→List Zy→Bool
 | _,[]=>true
 | p,x::l=>keyB x.f0&&((match p with | none=>true | some q=>bl q x.f0)&&(Za1 x&&Z7v (some x.f0) l))
theorem Zag (p:Option ByteArray) (x:Zy) (l:List Zy):Z7v p (x::l)=(keyB x.f0&&((match p with | none=>true | some q=>bl q x.f0)&&(Za1 x&&Z7v (some x.f0) l))):=rfl
def Zb7 (n:Int):Bool:=decide (0≤n∧n≤65536)
def Z90:Option Int→List Int→Bool
 | _,[]=>true
 | p,n::l=>Zb7 n&&((match p with | none=>true | some q=>decide (q<n))&&Z90 (some n) l)
theorem Z9h (p:Option Int) (n:Int) (l:List Int):Z90 p (n::l)=(Zb7 n&&((match p with | none=>true | some q=>decide (q<n))&&Z90 (some n) l)):=rfl
noncomputable def Zar (m:Zo):Bool:=Z4a m.f0&&(decide (m.f2.length≤64∧m.f1.length≤256)&&(Z90 none m.f1&&Z7v none m.f2))
def Zb1 (pre:List Zy):Option ByteArray:=pre.getLast?.map (·.f0)
structure LK (x:Zy):Prop where
 key:x.f0.size≤2000000
 ap:Z6l x.f2.f0
 tl:x.f2.f0.length≤100000
 hl:x.f3.length≤100000
 hf:∀ s∈x.f3,Fits s.f1∧s.f1.f6.length≤1048576∧s.f1.f7.length≤1048576
structure IM (m:Zo):Prop where
 bl:m.f1.length≤1048576
 ll:m.f2.length≤1048576
 lk:∀ x∈m.f2,LK x
theorem snd_l0 (m:Zo) (hm:m.f1.length≤1048576):∀ (suf pre:List Int) (i:Int),m.f1=pre++suf→i=(pre.length:Int)→Z12.l0 m i=some (if Z90 pre.getLast? suf=true then .inr () else .inl false):=by
 intro suf
 induction suf with
 | nil=>intro pre i h1 hi;rw[Z12.l0,if_neg (by rw[h1];simp[hi])];rfl
 | cons n suf ih =>
  intro pre i h1 hi
  have hlen:m.f1.length=pre.length+(suf.length+1):=by rw[h1];simp
  rw[Z12.l0,if_pos (by simp;omega),Z03 h1 hi,sb,Za (n:=i+1) (by omega) (by omega),ih (pre++[n]) (i+1) (by simp[h1]) (by simp;omega),Z9h,show(pre++[n]).getLast? = some n by simp]
  by_cases k1:n<0
  ·rw[if_pos (by simpa using k1),sb,if_pos rfl,show Zb7 n=false by unfold Zb7;rw[decide_eq_false];omega];rfl
  by_cases k2:n>65536
  ·rw[if_neg (by simpa using k1),if_pos (by simpa using k2),sb,if_pos rfl,show Zb7 n=false by unfold Zb7;rw[decide_eq_false];omega];rfl
  rw[if_neg (by simpa using k1),if_neg (by simpa using k2),show Zb7 n=true by unfold Zb7;rw[decide_eq_true];omega,Bool.true_and]
  rcases List.eq_nil_or_concat pre with rfl | ⟨p',p,rfl⟩
  ·rw[if_neg (by simp at hi ⊢;omega),sb,if_neg (by simp)];simp
  ·simp only[List.concat_eq_append,List.length_append,List.length_singleton] at hi hlen ⊢
   rw[if_pos (by simp;omega),Za (n:=i-1) (by omega) (by omega),Z03 (pre:=p') (suf:=n::suf) (x:=p) (by rw[h1];simp) (by omega),sb,sb]
   by_cases h:p<n
   ·rw[if_neg (by simp;omega)];simp[h]
   ·rw[if_pos (by simp;omega)];simp[h]
theorem last_all {α:Type} (f:α→Int) (t:Int):∀ (l:List α) (x:α),(l++[x]).Pairwise (fun a b=>f a<f b)→((l++[x]).all fun s=>decide (f s≤t))=decide (f x≤t):=by
 intro l x h
 rw[List.all_append]
 have hp:=List.pairwise_append.1 h
 by_cases c:f x≤t
 ·have:(l.all fun s=>decide (f s≤t))=true:=List.all_eq_true.2 (fun s hs=>by have:=hp.2.2 s hs x (by simp);simp;omega)
  rw[this];simp
 ·simp[c]
theorem kept_len (x:Zy):(((kept x.f2.f0 x.f3).length:Int) != (x.f3.length:Int)) = !hT x:=by
 unfold hT kept
 have key:∀ l:List Z7,((l.filter (fun s => !hasB x.f2.f0 s.f0)).length=l.length)↔(l.all fun s => !hasB x.f2.f0 s.f0)=true:=by
  intro l
  rw[List.length_filter_eq_length_iff,List.all_eq_true]
 have:=key x.f3
 cases h:(x.f3.all fun s => !hasB x.f2.f0 s.f0) with
 | true=>rw[h] at this;have:=this.2 rfl;rw[this];simp
 | false =>
  rw[h] at this
  have h2:¬ (x.f3.filter (fun s => !hasB x.f2.f0 s.f0)).length=x.f3.length:=fun e=>by simpa using this.1 e
  simp;omega
theorem gap_up {l:List Zc} (h:Z6l l):l.Pairwise (fun a b=>a.f1<b.f1):=by
 refine List.Pairwise.imp_of_mem ?_ h.gap
 intro a b ha hb hab
 have:=h.right b hb
 have:=this.2.1
 omega
theorem tranges (s:Z35) (h:s.f0.length≤100000):Z0o.f s=some s.f0:=ranges_eq s (by omega)
theorem nt {b:Bool} (h:¬ b=true):(!b)=true:=by cases b<;>simp_all
def tailS (x:Zy         ) (rest:Option (Bool ⊕ Unit)):Option (Bool ⊕ Unit) :=
  (((if(decide ((x.f3.length:Int)>(0:Int)))=true then((at? x.f3 (i64.wrap ((x.f3.length:Int)-(1:Int))))>>=fun b9489=>if(decide (b9489.f0>x.f1))=true then(some true) else((Z0o.f x.f2)>>=fun t9493=>some (decide ((t9493.length:Int)>(65536:Int))))) else((Z0o.f x.f2)>>=fun t9495=>some (decide ((t9495.length:Int)>(65536:Int))))):Option (Bool))>>=fun x9497=>if x9497=true then(some (.inl false)) else((Z0o.f x.f2)>>=fun t9501=>((if(decide ((t9501.length:Int)>(0:Int)))=true then((at? t9501 (i64.wrap ((t9501.length:Int)-(1:Int))))>>=fun b9513=>if(decide (b9513.f1>x.f1))=true then(some true) else((Z2p.f x.f2 x.f3)>>=fun t9517=>some ((t9517.length:Int) != (x.f3.length:Int)))) else((Z2p.f x.f2 x.f3)>>=fun t9519=>some ((t9519.length:Int) != (x.f3.length:Int)))):Option (Bool))>>=fun x9521=>if x9521=true then(some (.inl false)) else rest))
theorem snd_tail (x:Zy) (hx:LK x) (hr:rise none x.f3=true) (rest:Option (Bool ⊕ Unit)) :
  tailS x rest=(if(hA x&&(hT x&&(decide (x.f2.f0.length≤65536)&&tA x)))=true then rest else some (.inl false)):=by
 unfold tailS
 have htl:=hx.tl
 have hhl:=hx.hl
 have hk:Z2p.f x.f2 x.f3=some (kept x.f2.f0 x.f3):=t_keep_eq x.f2.f0 (by omega) hx.ap x.f3 (by omega)
 rw[tranges x.f2 htl,hk]
 have c1:((if(decide ((x.f3.length:Int)>(0:Int)))=true then((at? x.f3 (i64.wrap ((x.f3.length:Int)-(1:Int))))>>=fun b9489=>if(decide (b9489.f0>x.f1))=true then(some true) else((some x.f2.f0)>>=fun t9493=>some (decide ((t9493.length:Int)>(65536:Int))))) else((some x.f2.f0)>>=fun t9495=>some (decide ((t9495.length:Int)>(65536:Int))))):Option (Bool))=some (!(hA x&&decide (x.f2.f0.length≤65536))):=by
  have hd:decide ((x.f2.f0.length:Int)>65536) = !decide (x.f2.f0.length≤65536):=by
   by_cases h:x.f2.f0.length≤65536
   ·rw[decide_eq_true h,decide_eq_false (by omega)];rfl
   ·rw[decide_eq_false h,decide_eq_true (by omega)];rfl
  rw[sb,hd]
  rcases List.eq_nil_or_concat x.f3 with h0 | ⟨q,z,h0⟩
  ·rw[if_neg (by rw[h0];simp)]
   have:hA x=true:=by unfold hA;rw[h0];rfl
   rw[this,Bool.true_and]
  ·rw[List.concat_eq_append] at h0
   have hq:x.f3.length=q.length+1:=by rw[h0];simp
   have:hA x=decide (z.f0≤x.f1):=by unfold hA;rw[h0];exact last_all (·.f0) x.f1 q z (h0 ▸ rise_up hr)
   rw[this,if_pos (by simp;omega),Za (by omega) (by omega),show at? x.f3 ((x.f3.length:Int)-1)=some z from Z03 (pre:=q) (suf:=[]) h0 (by omega),sb]
   by_cases h:z.f0≤x.f1
   ·rw[if_neg (by simp;omega),decide_eq_true h,Bool.true_and]
   ·rw[if_pos (by simp;omega),decide_eq_false h];rfl
 rw[c1,sb]
 by_cases g1:(hA x&&decide (x.f2.f0.length≤65536))=true
 case neg =>
  rw[if_pos (nt g1),if_neg (fun h=>g1 (by simp only[Bool.and_eq_true] at h ⊢;exact⟨h.1,h.2.2.1⟩))]
 rw[if_neg (by simp[g1]),sb]
 rw[Bool.and_eq_true] at g1
 rw[g1.1,g1.2,Bool.true_and,Bool.true_and]
 have c2:((if(decide ((x.f2.f0.length:Int)>(0:Int)))=true then((at? x.f2.f0 (i64.wrap ((x.f2.f0.length:Int)-(1:Int))))>>=fun b9513=>if(decide (b9513.f1>x.f1))=true then(some true) else((some (kept x.f2.f0 x.f3))>>=fun t9517=>some ((t9517.length:Int) != (x.f3.length:Int)))) else((some (kept x.f2.f0 x.f3))>>=fun t9519=>some ((t9519.length:Int) != (x.f3.length:Int)))):Option (Bool))=some (!(hT x&&tA x)):=by
  rw[sb,kept_len]
  rcases List.eq_nil_or_concat x.f2.f0 with h0 | ⟨q,z,h0⟩
  ·rw[if_neg (by rw[h0];simp)]
   have:tA x=true:=by unfold tA;rw[h0];rfl
   rw[this,Bool.and_true]
  ·rw[List.concat_eq_append] at h0
   have hq:x.f2.f0.length=q.length+1:=by rw[h0];simp
   have:tA x=decide (z.f1≤x.f1):=by unfold tA;rw[h0];exact last_all (·.f1) x.f1 q z (h0 ▸ gap_up hx.ap)
   rw[this,if_pos (by simp;omega),Za (by omega) (by omega),show at? x.f2.f0 ((x.f2.f0.length:Int)-1)=some z from Z03 (pre:=q) (suf:=[]) h0 (by omega),sb]
   by_cases h:z.f1≤x.f1
   ·rw[if_neg (by simp;omega),decide_eq_true h,Bool.and_true]
   ·rw[if_pos (by simp;omega),decide_eq_false h];simp
 rw[c2,sb]
 by_cases g2:(hT x&&tA x)=true
 ·rw[if_neg (by simp[g2]),if_pos g2]
 ·rw[if_pos (nt g2),if_neg g2]
theorem snd_l1 (m:Zo) (hm:IM m):∀ (suf pre:List Zy) (i:Int),m.f2=pre++suf→i=(pre.length:Int)→Z12.l1 m i=some (if Z7v (Zb1 pre) suf=true then .inr () else .inl false):=by
 have hll:=hm.ll
 intro suf
 induction suf with
 | nil=>intro pre i h1 hi;rw[Z12.l1,if_neg (by rw[h1];simp[hi])];rfl
 | cons x suf ih =>
  intro pre i h1 hi
  have hlen:m.f2.length=pre.length+(suf.length+1):=by rw[h1];simp
  have hx:=hm.lk x (by rw[h1];simp)
  have hhl:=hx.hl
  have tail:∀ c:Bool,((((if(decide (x.f1<(0:Int)))=true then(some true) else(if(decide (x.f1>(1099511627776:Int)))=true then(some true) else((Z0w.f x.f3)>>=fun t9475=>some (!t9475)))):Option (Bool)))=some (!(Z4a x.f1&&rise none x.f3))):=fun _=>by
   rw[ris_eq _ (by omega) (fun s hs=>(hx.hf s hs).1),sb]
   unfold Z4a
   by_cases k1:x.f1<0
   ·rw[if_pos (by simpa using k1),decide_eq_false (by omega)];rfl
   by_cases k2:x.f1>1099511627776
   ·rw[if_neg (by simpa using k1),if_pos (by simpa using k2),decide_eq_false (by omega)];rfl
   ·rw[if_neg (by simpa using k1),if_neg (by simpa using k2),decide_eq_true (by omega),Bool.true_and]
  rw[Z12.l1,if_pos (by simp;omega),Z03 h1 hi,sb,key_eq _ hx.key,sb,Za (n:=i+1) (by omega) (by omega),ih (pre++[x]) (i+1) (by simp[h1]) (by simp;omega),show Zb1 (pre++[x])=some x.f0 by simp[Zb1],Zag]
  cases keyB x.f0
  ·simp[sb]
  rw[if_neg (by simp),Bool.true_and]
  have fin:∀ prevOK:Bool,(some (!prevOK || !(Z4a x.f1&&rise none x.f3)):Option Bool)=some (!(prevOK&&(Z4a x.f1&&rise none x.f3))):=fun b=>by cases b<;>simp
  have main:∀ (prevOK:Bool),((some (!(prevOK&&(Z4a x.f1&&rise none x.f3))))>>=fun x9477=>if x9477=true then(some (.inl false)) else tailS x (some (if Z7v (some x.f0) suf=true then .inr () else .inl false)):Option (Bool ⊕ Unit)) =
    (some (if(prevOK&&(Za1 x&&Z7v (some x.f0) suf))=true then .inr () else .inl false):Option (Bool ⊕ Unit)):=by
   intro prevOK
   rw[sb]
   by_cases g:(prevOK&&(Z4a x.f1&&rise none x.f3))=true
   case neg =>
    rw[if_pos (nt g),if_neg (fun h=>g (by unfold Za1 at h;simp only[Bool.and_eq_true] at h ⊢;exact⟨h.1,h.2.1.1,h.2.1.2.1⟩))]
   rw[if_neg (by simp[g])]
   simp only[Bool.and_eq_true] at g
   rw[snd_tail x hx g.2.2 _]
   unfold Za1
   rw[g.1,g.2.1,g.2.2,Bool.true_and,Bool.true_and,Bool.true_and]
   cases (hA x&&(hT x&&(decide (x.f2.f0.length≤65536)&&tA x)))<;>simp
  rcases List.eq_nil_or_concat pre with rfl | ⟨p',p,rfl⟩
  ·rw[if_neg (by simp at hi ⊢;omega),tail true,show Zb1   []=none from rfl]
   exact main true
  ·simp only[List.concat_eq_append,List.length_append,List.length_singleton] at hi hlen ⊢
   rw[if_pos (by simp;omega),Za (n:=i-1) (by omega) (by omega),Z03 (pre:=p') (suf:=x::suf) (x:=p) (by rw[h1];simp) (by omega),sb,show Zb1 (p'++[p])=some p.f0 by simp[Zb1]]
   have hb:(if(!Op.bytesLess p.f0.toList x.f0.toList)=true then(some true) else(if(decide (x.f1<(0:Int)))=true then(some true) else(if(decide (x.f1>(1099511627776:Int)))=true then(some true) else((Z0w.f x.f3)>>=fun t9471=>some (!t9471)))):Option Bool)=some (!(bl p.f0 x.f0&&(Z4a x.f1&&rise none x.f3))):=by
    cases h:bl p.f0 x.f0 with
    | true=>rw[if_neg (by have:Op.bytesLess p.f0.toList x.f0.toList=true:=h;rw[this];simp),tail true,Bool.true_and]
    | false=>rw[if_pos (by have:Op.bytesLess p.f0.toList x.f0.toList=false:=h;rw[this];rfl)];rfl
   rw[hb]
   exact main (bl p.f0 x.f0)
theorem sound15 (m:Zo) (hm:IM m):Z12.f m=some (Zar m):=by
 have hbl:=hm.bl
 have hll:=hm.ll
 unfold Z12.f Zar
 have c0:((if(decide (m.f0<(0:Int)))=true then(some true) else(if(decide (m.f0>(1099511627776:Int)))=true then(some true) else(if(decide ((m.f2.length:Int)>(64:Int)))=true then(some true) else(some (decide ((m.f1.length:Int)>(256:Int))))))):Option (Bool))=some (!(Z4a m.f0&&decide (m.f2.length≤64∧m.f1.length≤256))):=by
  unfold Z4a
  by_cases k1:m.f0<0
  ·rw[if_pos (by simpa using k1),decide_eq_false (by omega)];rfl
  by_cases k2:m.f0>1099511627776
  ·rw[if_neg (by simpa using k1),if_pos (by simpa using k2),decide_eq_false (by omega)];rfl
  rw[if_neg (by simpa using k1),if_neg (by simpa using k2),decide_eq_true (show 0≤m.f0∧m.f0≤1099511627776 by omega),Bool.true_and]
  by_cases k3:m.f2.length≤64
  ·rw[if_neg (by simp;omega)]
   congr 1
   by_cases k4:m.f1.length≤256
   ·rw[decide_eq_false (by omega),decide_eq_true ⟨k3,k4⟩];rfl
   ·rw[decide_eq_true (by omega),decide_eq_false (by omega)];rfl
  ·rw[if_pos (by simp;omega),decide_eq_false (by omega)];rfl
 rw[c0,sb]
 by_cases g:(Z4a m.f0&&decide (m.f2.length≤64∧m.f1.length≤256))=true
 case neg =>
  rw[if_pos (nt g)]
  congr 1
  symm
  rw[Bool.eq_false_iff]
  intro h
  simp only[Bool.and_eq_true] at h
  exact g (by rw[Bool.and_eq_true];exact⟨h.1,h.2.1⟩)
 rw[if_neg (by rw[g];simp),snd_l0 m (by omega) m.f1 [] 0 rfl rfl,sb,show([]:List Int).getLast? = none from rfl]
 rw[Bool.and_eq_true] at g
 rw[g.1,g.2,Bool.true_and,Bool.true_and]
 cases Z90 none m.f1 with
 | false=>rfl
 | true =>
  rw[if_pos rfl]
  dsimp only
  rw[snd_l1 m hm m.f2 [] 0 rfl rfl,sb,show Zb1 []=none from rfl]
  cases Z7v none m.f2<;>rfl
end Go.Proofs.YtinhldbfifpakaaGreat.PvGL2
set_option linter.unusedVariables false
set_option linter.unusedSimpArgs false
set_option maxRecDepth 10000
namespace Go.Proofs.YtinhldbfifpakaaGreat.PvGL2
open Go Go.Pv Go.Pv.GS Go.IntKind
def Z5o (x:Zy):Z42:=⟨x.f0,x.f1,x.f2.f0,x.f3⟩
def seen (m:Zo):Z2j:=⟨m.f0,m.f1,m.f2.map Z5o⟩
theorem seen_l1 (m:Zo) (x:Zy) (t:List Zc) (o:List Z42) (k:Int) (ht:t.length≤100000):∀ (suf pre:List Zc) (i:Int),t=pre++suf→i=(pre.length:Int)→Z2f.l1 m x t o k pre i=some t:=by
 intro suf
 induction suf with
 | nil=>intro pre i h1 hi;rw[Z2f.l1,if_neg (by rw[h1];simp[hi]),h1];simp
 | cons r suf ih =>
  intro pre i h1 hi
  have hlen:t.length=pre.length+(suf.length+1):=by rw[h1];simp
  rw[Z2f.l1,if_pos (by simp;omega),Z03 h1 hi,sb,chkB (by simp;omega),Za (n:=i+1) (by omega) (by omega)]
  exact ih (pre++[r]) (i+1) (by simp[h1]) (by simp;omega)
theorem seen_l0 (m:Zo) (hl:m.f2.length≤1048576) (hm:∀ x∈m.f2,x.f2.f0.length≤100000):∀ (suf pre:List Zy) (i:Int),m.f2=pre++suf→i=(pre.length:Int)→Z2f.l0 m (pre.map Z5o) i=some (m.f2.map Z5o):=by
 intro suf
 induction suf with
 | nil=>intro pre i h1 hi;rw[Z2f.l0,if_neg (by rw[h1];simp[hi]),h1];simp
 | cons x suf ih =>
  intro pre i h1 hi
  have hlen:m.f2.length=pre.length+(suf.length+1):=by rw[h1];simp
  have hx:=hm x (by rw[h1];simp)
  rw[Z2f.l0,if_pos (by simp;omega),Z03 h1 hi,sb,tranges _ hx,sb,seen_l1 m x _ _ _ hx x.f2.f0 [] 0 rfl rfl,sb,chkB (by simp;omega),Za (n:=i+1) (by omega) (by omega)]
  have:=ih (pre++[x]) (i+1) (by simp[h1]) (by simp;omega)
  rw[List.map_append] at this
  exact this
theorem seen15 (m:Zo) (hl:m.f2.length≤1048576) (hm:∀ x∈m.f2,x.f2.f0.length≤100000):Z2f.f m=some (seen m):=by
 unfold Z2f.f
 rw[show([]:List Z42)=([]:List Zy).map Z5o from rfl,seen_l0 m hl hm m.f2 [] 0 rfl rfl,sb]
 rfl
theorem rsn_l0 (m:Z2j) (hm:m.f1.length≤1048576):∀ (suf pre:List Int) (i:Int),m.f1=pre++suf→i=(pre.length:Int)→Z0i.l0 m i=some (if Z90 pre.getLast? suf=true then .inr () else .inl false):=by
 intro suf
 induction suf with
 | nil=>intro pre i h1 hi;rw[Z0i.l0,if_neg (by rw[h1];simp[hi])];rfl
 | cons n suf ih =>
  intro pre i h1 hi
  have hlen:m.f1.length=pre.length+(suf.length+1):=by rw[h1];simp
  rw[Z0i.l0,if_pos (by simp;omega),Z03 h1 hi,sb,Za (n:=i+1) (by omega) (by omega),ih (pre++[n]) (i+1) (by simp[h1]) (by simp;omega),Z9h,show(pre++[n]).getLast? = some n by simp]
  by_cases k1:n<0
  ·rw[if_pos (by simpa using k1),sb,if_pos rfl,show Zb7 n=false by unfold Zb7;rw[decide_eq_false];omega];rfl
  by_cases k2:n>65536
  ·rw[if_neg (by simpa using k1),if_pos (by simpa using k2),sb,if_pos rfl,show Zb7 n=false by unfold Zb7;rw[decide_eq_false];omega];rfl
  rw[if_neg (by simpa using k1),if_neg (by simpa using k2),show Zb7 n=true by unfold Zb7;rw[decide_eq_true];omega,Bool.true_and]
  rcases List.eq_nil_or_concat pre with rfl | ⟨p',p,rfl⟩
  ·rw[if_neg (by simp at hi ⊢;omega),sb,if_neg (by simp)];simp
  ·simp only[List.concat_eq_append,List.length_append,List.length_singleton] at hi hlen ⊢
   rw[if_pos (by simp;omega),Za (n:=i-1) (by omega) (by omega),Z03 (pre:=p') (suf:=n::suf) (x:=p) (by rw[h1];simp) (by omega),sb,sb]
   by_cases h:p<n
   ·rw[if_neg (by simp;omega)];simp[h]
   ·rw[if_pos (by simp;omega)];simp[h]
theorem rsn_l2 (m:Z2j) (x:Z42) (k:Int) (hl:x.f3.length≤100000) (ht:x.f2.length≤100000):∀ (suf pre:List Z7) (i:Int),x.f3=pre++suf→i=(pre.length:Int) →
  Z0i.l2 m x k i=some (if(suf.all fun s=>decide (s.f0≤x.f1) && !hasB x.f2 s.f0)=true then .inr () else .inl false):=by
 intro suf
 induction suf with
 | nil=>intro pre i h1 hi;rw[Z0i.l2,if_neg (by rw[h1];simp[hi])];rfl
 | cons s suf ih =>
  intro pre i h1 hi
  have hlen:x.f3.length=pre.length+(suf.length+1):=by rw[h1];simp
  rw[Z0i.l2,if_pos (by simp;omega),Z03 h1 hi,sb,refHas _ _ (by omega),sb,Za (n:=i+1) (by omega) (by omega),ih (pre++[s]) (i+1) (by simp[h1]) (by simp;omega),List.all_cons]
  by_cases c:s.f0≤x.f1
  ·rw[if_neg (by simp;omega),sb,decide_eq_true c,Bool.true_and]
   cases hasB x.f2 s.f0<;>simp
  ·rw[if_pos (by simp;omega),sb,if_pos rfl,decide_eq_false c];rfl
theorem rsn_l3 (m:Z2j) (x:Z42) (k:Int) (ht:x.f2.length≤100000):∀ (suf pre:List Zc) (i:Int),x.f2=pre++suf→i=(pre.length:Int) →
  Z0i.l3 m x k i=some (if(suf.all fun r=>decide (r.f1≤x.f1))=true then .inr () else .inl false):=by
 intro suf
 induction suf with
 | nil=>intro pre i h1 hi;rw[Z0i.l3,if_neg (by rw[h1];simp[hi])];rfl
 | cons s suf ih =>
  intro pre i h1 hi
  have hlen:x.f2.length=pre.length+(suf.length+1):=by rw[h1];simp
  rw[Z0i.l3,if_pos (by simp;omega),Z03 h1 hi,sb,Za (n:=i+1) (by omega) (by omega),ih (pre++[s]) (i+1) (by simp[h1]) (by simp;omega),List.all_cons]
  by_cases c:s.f1≤x.f1
  ·rw[if_neg (by simp;omega),decide_eq_true c,Bool.true_and]
  ·rw[if_pos (by simp;omega),decide_eq_false c];rfl
theorem all_and {α:Type} (p q:α→Bool) (l:List α):(l.all fun s=>p s&&q s)=(l.all p&&l.all q):=by
 induction l with
 | nil=>rfl
 | cons x l ih=>simp only[List.all_cons,ih];cases p x<;>cases q x<;>simp
theorem rsn_l1 (mm:Zo) (hm:IM mm):∀ (suf pre:List Zy) (i:Int),mm.f2=pre++suf→i=(pre.length:Int)→Z0i.l1 (seen mm) i=some (if Z7v (Zb1 pre) suf=true then .inr () else .inl false):=by
 have hll:=hm.ll
 have hlm:(seen mm).f2.length=mm.f2.length:=by show(mm.f2.map Z5o).length=_;simp
 intro suf
 induction suf with
 | nil=>intro pre i h1 hi;rw[Z0i.l1,if_neg (by rw[hlm,h1];simp[hi])];rfl
 | cons x suf ih =>
  intro pre i h1 hi
  have hlen:mm.f2.length=pre.length+(suf.length+1):=by rw[h1];simp
  have hx:=hm.lk x (by rw[h1];simp)
  have hhl:=hx.hl
  have htl:=hx.tl
  have hs:(seen mm).f2=pre.map Z5o++Z5o x::suf.map Z5o:=by show mm.f2.map Z5o=_;rw[h1];simp
  have tail:((Z15.f x.f1)>>=fun t9113=>if(!t9113)=true then(some true) else((Z22.f x.f3)>>=fun t9116=>some (!t9116)):Option Bool)=some (!(Z4a x.f1&&rise none x.f3)):=by
   rw[rtime,sb,rris_eq _ (by omega) (fun s hs=>⟨(hx.hf s hs).1,by have:=(hx.hf s hs).2.1;omega,by have:=(hx.hf s hs).2.2;omega⟩),sb]
   cases Z4a x.f1<;>simp
  rw[Z0i.l1,if_pos (by rw[hlm];simp;omega),Z03 (pre:=pre.map Z5o) (suf:=suf.map Z5o) hs (by simp[hi]),sb]
  show((((Z1a.f x.f0)>>=_:Option Bool))>>=_:Option (Bool ⊕ Unit))=_
  rw[rkey15 _ hx.key,sb,Za (n:=i+1) (by omega) (by omega),ih (pre++[x]) (i+1) (by simp[h1]) (by simp;omega),show Zb1 (pre++[x])=some x.f0 by simp[Zb1],Zag]
  cases keyB x.f0
  ·simp[sb]
  rw[if_neg (by simp),Bool.true_and]
  have l2:=rsn_l2 (seen mm) (Z5o x) i hhl htl x.f3 [] 0 rfl rfl
  have l3:=rsn_l3 (seen mm) (Z5o x) i htl x.f2.f0 [] 0 rfl rfl
  have e2:(x.f3.all fun s=>decide (s.f0≤(Z5o x).f1) && !hasB (Z5o x).f2 s.f0)=(hA x&&hT x):=all_and _ _ _
  have main:∀ (prevOK:Bool),((some (!(prevOK&&(Z4a x.f1&&rise none x.f3))))>>=fun x9118=>if x9118=true then(some (.inl false)) else((Z0i.l2 (seen mm) (Z5o x) i 0)>>=fun oo=>match oo with | .inl rr=>(some (.inl rr)) | .inr _=>(if(decide (((Z5o x).f2.length:Int)>(65536:Int)))=true then(some (.inl false)) else((Z0i.l3 (seen mm) (Z5o x) i 0)>>=fun oo=>match oo with | .inl rr=>(some (.inl rr)) | .inr _=>(some (if Z7v (some x.f0) suf=true then .inr () else .inl false))))):Option (Bool ⊕ Unit)) =
    (some (if(prevOK&&(Za1 x&&Z7v (some x.f0) suf))=true then .inr () else .inl false):Option (Bool ⊕ Unit)):=by
   intro prevOK
   rw[sb]
   by_cases g:(prevOK&&(Z4a x.f1&&rise none x.f3))=true
   case neg =>
    rw[if_pos (nt g),if_neg (fun h=>g (by unfold Za1 at h;simp only[Bool.and_eq_true] at h ⊢;exact⟨h.1,h.2.1.1,h.2.1.2.1⟩))]
   rw[if_neg (by rw[g];simp),l2,e2,sb]
   simp only[Bool.and_eq_true] at g
   unfold Za1
   rw[g.1,g.2.1,g.2.2,Bool.true_and,Bool.true_and,Bool.true_and]
   cases hA x
   ·rfl
   cases hT x
   ·rfl
   simp only[Bool.true_and,if_true]
   show(if(decide ((x.f2.f0.length:Int)>(65536:Int)))=true then _ else _)=_
   by_cases c:x.f2.f0.length≤65536
   ·rw[if_neg (by simp;omega),l3,sb,decide_eq_true c,Bool.true_and]
    show(match (if tA x=true then Sum.inr () else Sum.inl false:Bool ⊕ Unit) with | .inl rr=>(some (.inl rr)) | .inr _=>(some (if Z7v (some x.f0) suf=true then .inr () else .inl false)):Option (Bool ⊕ Unit))=_
    cases tA x<;>simp
   ·rw[if_pos (by simp;omega),decide_eq_false c];rfl
  rcases List.eq_nil_or_concat pre with rfl | ⟨p',p,rfl⟩
  ·rw[if_neg (by simp at hi ⊢;omega)]
   show((((Z15.f x.f1)>>=fun t9113=>if(!t9113)=true then(some true) else((Z22.f x.f3)>>=fun t9116=>some (!t9116)):Option Bool))>>=_:Option (Bool ⊕ Unit))=_
   rw[tail,show Zb1 []=none from rfl]
   exact main true
  ·simp only[List.concat_eq_append,List.length_append,List.length_singleton] at hi hlen hs ⊢
   have hs':(seen mm).f2=p'.map Z5o++Z5o p::(Z5o x::suf.map Z5o):=by rw[hs];simp
   rw[if_pos (by simp;omega),Za (n:=i-1) (by omega) (by omega),Z03 (pre:=p'.map Z5o) (suf:=Z5o x::suf.map Z5o) (x:=Z5o p) hs' (by simp;omega),sb,show Zb1 (p'++[p])=some p.f0 by simp[Zb1]]
   have hb:(if(Op.bytesLess x.f0.toList p.f0.toList||x.f0.toList==p.f0.toList)=true then(some true) else((Z15.f x.f1)>>=fun t9108=>if(!t9108)=true then(some true) else((Z22.f x.f3)>>=fun t9111=>some (!t9111))):Option Bool)=some (!(bl p.f0 x.f0&&(Z4a x.f1&&rise none x.f3))):=by
    rw[le_not_lt]
    cases h:bl p.f0 x.f0 with
    | true=>rw[if_neg (by simp),tail,Bool.true_and]
    | false=>rw[if_pos (show(!false)=true from rfl)];rfl
   show((((if(Op.bytesLess x.f0.toList p.f0.toList||x.f0.toList==p.f0.toList)=true then(some true) else((Z15.f x.f1)>>=fun t9108=>if(!t9108)=true then(some true) else((Z22.f x.f3)>>=fun t9111=>some (!t9111))):Option Bool))>>=_:Option (Bool ⊕ Unit)))=_
   rw[hb]
   exact main (bl p.f0 x.f0)
theorem rsound15 (m:Zo) (hm:IM m):Z0i.f (seen m)=some (Zar m):=by
 have hbl:=hm.bl
 have hll:=hm.ll
 have hlm:(seen m).f2.length=m.f2.length:=by show(m.f2.map Z5o).length=_;simp
 unfold Z0i.f Zar
 have c0:((Z15.f (seen m).f0)>>=fun t8873=>if(!t8873)=true then(some true) else(if(decide (((seen m).f1.length:Int)>(256:Int)))=true then(some true) else(some (decide (((seen m).f2.length:Int)>(64:Int))))):Option (Bool))=some (!(Z4a m.f0&&decide (m.f2.length≤64∧m.f1.length≤256))):=by
  rw[hlm]
  show((Z15.f m.f0)>>=fun t8873=>if(!t8873)=true then(some true) else(if(decide ((m.f1.length:Int)>(256:Int)))=true then(some true) else(some (decide ((m.f2.length:Int)>(64:Int))))):Option (Bool))=_
  rw[rtime,sb]
  cases Z4a m.f0
  ·rfl
  rw[if_neg (by simp),Bool.true_and]
  by_cases k4:m.f1.length≤256
  ·rw[if_neg (by simp;omega)]
   congr 1
   by_cases k3:m.f2.length≤64
   ·rw[decide_eq_false (by omega),decide_eq_true ⟨k3,k4⟩];rfl
   ·rw[decide_eq_true (by omega),decide_eq_false (by omega)];rfl
  ·rw[if_pos (by simp;omega),decide_eq_false (by omega)];rfl
 rw[c0,sb]
 by_cases g:(Z4a m.f0&&decide (m.f2.length≤64∧m.f1.length≤256))=true
 case neg =>
  rw[if_pos (nt g)]
  congr 1
  symm
  rw[Bool.eq_false_iff]
  intro h
  simp only[Bool.and_eq_true] at h
  exact g (by rw[Bool.and_eq_true];exact⟨h.1,h.2.1⟩)
 rw[if_neg (by rw[g];simp),rsn_l0 (seen m) hbl m.f1 [] 0 rfl rfl,sb,show([]:List Int).getLast? = none from rfl]
 rw[Bool.and_eq_true] at g
 rw[g.1,g.2,Bool.true_and,Bool.true_and]
 cases Z90 none m.f1 with
 | false=>rfl
 | true =>
  rw[if_pos rfl]
  dsimp only
  rw[rsn_l1 m hm m.f2 [] 0 rfl rfl,sb,show Zb1 []=none from rfl]
  cases Z7v none m.f2<;>rfl
end Go.Proofs.YtinhldbfifpakaaGreat.PvGL2
