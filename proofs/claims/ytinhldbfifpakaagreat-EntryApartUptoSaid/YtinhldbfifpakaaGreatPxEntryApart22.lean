import Derived.Test.YtinhldbfifpakaaGreatPxEntryApart21
set_option linter.unusedVariables false
set_option linter.unusedSimpArgs false
namespace Go.Proofs.YtinhldbfifpakaaGreat.PvGL
open Go Go.Pv Go.Pv.GS Go.IntKind
def Zal (l:List Z2l):Prop:=(∀ x∈l,nameB x.f0=true∧valB x.f1=true)∧l.Pairwise (fun a b=>nLt a b=true)
theorem Zbg:∀ (l:List Z2l) (q:ByteArray),Z5x (some q) l=true↔Zal l∧∀ x∈l,bl q x.f0=true
 | [],q=>by simp[Z5x,Zal]
 | x::l,q=>by
  have ih:=Zbg l x.f0
  rw[Z7l]
  simp only[Bool.and_eq_true,ih]
  unfold Zal
  simp only[List.mem_cons,forall_eq_or_imp,List.pairwise_cons]
  constructor
  ·rintro⟨h1,h2,h3,⟨h4,h5⟩,h6⟩
   exact⟨⟨⟨⟨h1,h2⟩,h4⟩,h6,h5⟩,h3,fun y hy=>bl_trans _ _ _ h3 (h6 y hy)⟩
  ·rintro⟨⟨⟨⟨h1,h2⟩,h4⟩,h6,h5⟩,h3,h7⟩
   exact⟨h1,h2,h3,⟨h4,h5⟩,h6⟩
theorem rising_none (l:List Z2l):Z5x none l=true↔Zal l:=by
 cases l with
 | nil=>simp[Z5x,Zal]
 | cons x l =>
  rw[Z7l]
  simp only[Bool.and_eq_true,Zbg]
  unfold Zal
  simp only[List.mem_cons,forall_eq_or_imp,List.pairwise_cons]
  constructor
  ·rintro⟨h1,h2,_,⟨h4,h5⟩,h6⟩
   exact⟨⟨⟨h1,h2⟩,h4⟩,h6,h5⟩
  ·rintro⟨⟨⟨h1,h2⟩,h4⟩,h6,h5⟩
   exact⟨h1,h2,trivial,⟨h4,h5⟩,h6⟩
theorem chkC_zero {l:List Z2l} (h:chkC l=0):l.length≤16∧Zal l:=by
 unfold chkC at h
 by_cases q:l.length>16
 ·rw[if_pos q] at h;omega
 ·rw[if_neg q] at h
  by_cases q2:Z5x none l=true
  ·exact⟨by omega,(rising_none l).1 q2⟩
  ·rw[if_neg q2] at h;omega
def word (s:ByteArray):List UInt8:=UInt8.ofNat s.size::L s
def keyL (l:List Z2l):List UInt8:=l.flatMap fun x=>word x.f0++word x.f1
def Short (x:Z2l):Prop:=x.f0.size≤64∧x.f1.size≤64
theorem keyL_cons (x:Z2l) (l:List Z2l):keyL (x::l)=word x.f0++(word x.f1++keyL l):=by simp[keyL]
theorem Zas (s:ByteArray):(word s).length=s.size+1:=by rw[word,List.length_cons,Z6m]
theorem Zbh {l:List Z2l} (h:Zal l):∀ x∈l,Short x:=fun x hx=>by
 have:=h.1 x hx
 simp only[nameB,valB,Bool.and_eq_true,decide_eq_true_eq] at this
 exact⟨this.1.1.2,this.2.2⟩
end Go.Proofs.YtinhldbfifpakaaGreat.PvGL
set_option linter.unusedVariables false
set_option linter.unusedSimpArgs false
namespace Go.Proofs.YtinhldbfifpakaaGreat.PvGL
open Go Go.Pv Go.Pv.GS Go.IntKind
theorem word_inj' {a b:ByteArray} {x y:List UInt8} (ha:a.size<256) (hb:b.size<256) (h:word a++x=word b++y):a=b∧x=y:=by
 have h0:UInt8.ofNat a.size=UInt8.ofNat b.size:=by
  have:=congrArg List.head? h
  simpa[word] using this
 have hs:a.size=b.size:=by
  have:=congrArg UInt8.toNat h0
  rw[UInt8.toNat_ofNat',UInt8.toNat_ofNat',Nat.mod_eq_of_lt (by omega),Nat.mod_eq_of_lt (by omega)] at this
  exact this
 obtain⟨h1,h2⟩:=List.append_inj h (by rw[Zas,Zas,hs])
 simp only[word,List.cons.injEq] at h1
 exact⟨ext_L h1.2,h2⟩
def Z6i (ws:List ByteArray):List UInt8:=ws.flatMap word
theorem Z49 (w:ByteArray) (ws:List ByteArray):Z6i (w::ws)=word w++Z6i ws:=by simp[Z6i]
theorem Zcr:∀ {a b:List ByteArray},(∀ x∈a,x.size<256)→(∀ x∈b,x.size<256)→Z6i a=Z6i b→a=b
 | [],[],_,_,_=>rfl
 | [],y::b,_,_,h=>by rw[Z49,word] at h;simp[Z6i] at h
 | x::a,[],_,_,h=>by rw[Z49,word] at h;simp[Z6i] at h
 | x::a,y::b,ha,hb,h=>by
  rw[Z49,Z49] at h
  obtain⟨h1,h2⟩:=word_inj' (ha x (by simp)) (hb y (by simp)) h
  rw[h1,Zcr (fun z hz=>ha z (by simp[hz])) (fun z hz=>hb z (by simp[hz])) h2]
def Z7a (l:List Z2l):List ByteArray:=l.flatMap fun x=>[x.f0,x.f1]
def Z7m:List ByteArray→List Z2l
 | a::b::r=>⟨a,b⟩::Z7m r
 | _=>[]
theorem Zd1:∀ l:List Z2l,Z7m (Z7a l)=l
 | []=>rfl
 | x::l=>by
  have:Z7a (x::l)=x.f0::x.f1::Z7a l:=by simp[Z7a]
  rw[this,Z7m,Zd1 l]
theorem Z9a:∀ l:List Z2l,keyL l=Z6i (Z7a l)
 | []=>rfl
 | x::l=>by
  have:Z7a (x::l)=x.f0::x.f1::Z7a l:=by simp[Z7a]
  rw[this,Z49,Z49,keyL_cons,Z9a l]
theorem Zd8:∀ (ws:List ByteArray),ws.length % 2=0→Z7a (Z7m ws)=ws
 | [],_=>rfl
 | [a],h=>by simp at h
 | a::b::r,h=>by
  have:Z7a (Z7m (a::b::r))=a::b::Z7a (Z7m r):=by simp[Z7a,Z7m]
  rw[this,Zd8 r (by simp at h;omega)]
theorem L_cons_of {s:ByteArray} (h:0<s.size):∃ c r,L s=c::r∧r.length=s.size-1∧bt s 0=(c.toNat:Int):=by
 cases hl:L s with
 | nil=>have:=Z6m s;rw[hl] at this;simp at this;omega
 | cons c r =>
  refine⟨c,r,rfl,?_,bt_L (i:=0) (by rw[hl];rfl)⟩
  have:=Z6m s;rw[hl] at this;simp at this;omega
theorem fromB_l0:∀ (n:Nat) (s:ByteArray) (acc:List ByteArray),s.size≤n→s.size≤2000000→acc.length+s.size≤4000000 →
  (Z19.l0 s acc=some (.inl ([],6))∧∀ ws:List ByteArray,(∀ w∈ws,w.size<256)→L s≠Z6i ws)∨(∃ ws,Z19.l0 s acc=some (.inr (acc++ws))∧(∀ w∈ws,w.size<256)∧L s=Z6i ws∧ws.length≤s.size):=by
 intro n
 induction n with
 | zero =>
  intro s acc hn h5 ha
  rw[Z19.l0,if_neg (by rw[decide_eq_true_eq];omega)]
  have:L s=[]:=List.length_eq_zero_iff.1 (by rw[Z6m];omega)
  exact .inr ⟨[],by simp,by simp,by rw[this];rfl,by simp⟩
 | succ n ih =>
  intro s acc hn h5 ha
  by_cases h0:0<s.size
  case neg =>
   rw[Z19.l0,if_neg (by rw[decide_eq_true_eq];omega)]
   have:L s=[]:=List.length_eq_zero_iff.1 (by rw[Z6m];omega)
   exact .inr ⟨[],by simp,by simp,by rw[this];rfl,by simp⟩
  obtain⟨c,r,hc,hr,hbt⟩:=L_cons_of h0
  have hcl:=c.toNat_lt
  have hword:∀ ws:List ByteArray,(∀ w∈ws,w.size<256)→L s=Z6i ws→∃ w ws',ws=w::ws'∧w.size=c.toNat∧r=L w++Z6i ws':=fun ws hw e=>by
   cases ws with
   | nil=>rw[hc] at e;simp[Z6i] at e
   | cons w ws' =>
    rw[hc,Z49,word,List.cons_append,List.cons.injEq] at e
    refine⟨w,ws',rfl,?_,e.2⟩
    have:=hw w (by simp)
    rw[e.1,UInt8.toNat_ofNat',Nat.mod_eq_of_lt (by omega)]
  rw[Z19.l0,if_pos (by simp;omega),chkB (by omega),hbt,Zf (n:=(c.toNat:Int)) (by omega) (by omega),Zf (n:=(s.size:Int)-1) (by omega) (by omega)]
  by_cases hle:(c.toNat:Int)>(s.size:Int)-1
  ·rw[if_pos (by simpa using hle)]
   refine .inl ⟨rfl,fun ws hw e => ?_⟩
   obtain⟨w,ws',_,h1,h2⟩:=hword ws hw e
   have:=congrArg List.length h2
   rw[List.length_append,Z6m] at this
   omega
  ·have e1:Int.toNat ((1:Int)+(c.toNat:Int))=1+c.toNat:=by omega
   have l1:L (s.extract (Int.toNat 1) (Int.toNat ((1:Int)+(c.toNat:Int))))=r.take c.toNat:=by
    rw[L_extract,e1,hc];simp
   have l2:L (s.extract (Int.toNat ((1:Int)+(c.toNat:Int))) (Int.toNat (s.size:Int)))=r.drop c.toNat:=by
    rw[L_extract,e1,hc,Int.toNat_natCast,Nat.add_comm 1 c.toNat,List.drop_succ_cons,List.take_of_length_le (by simp;omega)]
   have s1:(s.extract (Int.toNat 1) (Int.toNat ((1:Int)+(c.toNat:Int)))).size=c.toNat:=by rw[← Z6m,l1,List.length_take];omega
   have s2:(s.extract (Int.toNat ((1:Int)+(c.toNat:Int))) (Int.toNat (s.size:Int))).size=s.size-1-c.toNat:=by rw[← Z6m,l2,List.length_drop];omega
   rw[if_neg (by simpa using hle),Zf (n:=(1:Int)+(c.toNat:Int)) (by omega) (by omega),chkB (by omega),chkB (by simp;omega),chkB (by omega)]
   generalize s.extract (Int.toNat 1) (Int.toNat ((1:Int)+(c.toNat:Int)))=w0 at *
   generalize s.extract (Int.toNat ((1:Int)+(c.toNat:Int))) (Int.toNat (s.size:Int))=rest at *
   rcases ih rest (acc++[w0]) (by omega) (by omega) (by simp;omega) with ⟨g1,g2⟩ | ⟨ws,g1,g2,g3,g4⟩
   ·refine .inl ⟨g1,fun ws hw e => ?_⟩
    obtain⟨w,ws',rfl,h1,h2⟩:=hword ws hw e
    refine g2 ws' (fun z hz=>hw z (by simp[hz])) ?_
    rw[l2,h2,← h1,← Z6m,List.drop_left]
   ·refine .inr ⟨w0::ws,by rw[g1];simp,fun z hz => ?_,?_,by simp;omega⟩
    ·rcases List.mem_cons.1 hz with rfl | hz
     ·omega
     ·exact g2 z hz
    ·rw[Z49        ,word,← g3,l1,l2,s1,hc]
     have:UInt8.ofNat c.toNat=c:=UInt8.ofNat_toNat
     rw[this,List.cons_append,List.take_append_drop]
theorem fromB_l1 (ws:List ByteArray) (hl:ws.length≤4000000):∀ (m:Nat) (pre suf:List ByteArray) (o:List Z2l) (i:Int),suf.length=2*m→ws=pre++suf→i=(pre.length:Int)→o.length≤pre.length→Z19.l1 ws o i=some (o++Z7m suf):=by
 intro m
 induction m with
 | zero =>
  intro pre suf o i hm h1 hi ho
  have:suf=[]:=List.length_eq_zero_iff.1 hm
  subst this
  rw[Z19.l1,if_neg (by rw[h1];simp[hi])];simp[Z7m]
 | succ m ih =>
  intro pre suf o i hm h1 hi ho
  match suf,hm with
  | a::b::suf,hm =>
   have hlen:ws.length=pre.length+(suf.length+2):=by rw[h1];simp
   rw[Z19.l1,if_pos (by simp;omega),Z1q h1 hi,sb,Zf (n:=i+1) (by omega) (by omega),Z1q (pre:=pre++[a]) (suf:=suf) (x:=b) (by rw[h1];simp) (by simp;omega),sb,chkB (by simp;omega),Zf (n:=i+2) (by omega) (by omega)]
   rw[ih (pre++[a,b]) suf _ (i+2) (by simp at hm;omega) (by rw[h1];simp) (by simp;omega) (by simp;omega),Z7m]
   simp
theorem Zd7 (s:ByteArray) (hs:s.size≤2000000):∃ x e,Z19.f s=some (x,e)∧((e=0∧chkC x=0∧L s=keyL x)∨(e=6∧x=[]∧∀ x',chkC x'=0→L s≠keyL x')):=by
 unfold Z19.f
 have flat256:∀ x',chkC x'=0→∀ w∈Z7a x',w.size<256:=fun x' h w hw=>by
  obtain⟨z,hz,hw⟩:=List.mem_flatMap.1 hw
  have:=Zbh (chkC_zero h).2 z hz
  simp at hw
  rcases hw with rfl | rfl
  ·have:=this.1;omega
  ·have:=this.2;omega
 rcases fromB_l0 s.size s [] (Nat.le_refl _) hs (by simp;omega) with ⟨g1,g2⟩ | ⟨ws,g1,g2,g3,g4⟩
 ·rw[g1,sb]
  exact⟨[],6,rfl,.inr ⟨rfl,rfl,fun x' h e=>g2 (Z7a x') (flat256 x' h) (by rw[e,Z9a])⟩⟩
 ·rw[g1,sb,List.nil_append]
  dsimp only
  have ht:Int.tmod (ws.length:Int) 2=((ws.length % 2:Nat):Int):=by rw[Int.tmod_eq_emod_of_nonneg (by omega)];omega
  have huniq:∀ x',chkC x'=0→L s=keyL x'→ws=Z7a x':=fun x' h e=>Zcr g2 (flat256 x' h) (by rw[← g3,e,Z9a])
  have heven:∀ x':List Z2l,(Z7a x').length % 2=0:=fun x'=>by
   induction x' with
   | nil=>rfl
   | cons z x' ih =>
    have:Z7a (z::x')=z.f0::z.f1::Z7a x':=by simp[Z7a]
    rw[this];simp;omega
  rw[ht]
  by_cases hodd:ws.length % 2=1
  ·rw[if_pos (by simp;omega)]
   refine⟨[],6,rfl,.inr ⟨rfl,rfl,fun x' h e => ?_⟩⟩
   have:=huniq x' h e
   have h2:=heven x'
   rw[← this] at h2;omega
  ·rw[if_neg (by simp;omega),fromB_l1 ws (by omega) (ws.length / 2) [] ws [] 0 (by omega) rfl rfl (by simp),sb,List.nil_append,lcheck,sb]
   by_cases hc:chkC (Z7m ws)=0
   ·rw[if_neg (by simpa using hc)]
    exact⟨_,0,rfl,.inl ⟨rfl,hc,by rw[g3,Z9a,Zd8 ws (by omega)]⟩⟩
   ·rw[if_pos (by simpa using hc)]
    refine⟨[],6,rfl,.inr ⟨rfl,rfl,fun x' h e => ?_⟩⟩
    have:=huniq x' h e
    rw[this,Zd1] at hc
    exact hc h
end Go.Proofs.YtinhldbfifpakaaGreat.PvGL
set_option linter.unusedVariables false
set_option linter.unusedSimpArgs false
set_option maxRecDepth 10000
namespace Go.Proofs.YtinhldbfifpakaaGreat.PvGL
open Go Go.Pv Go.Pv.GS Go.IntKind
def keyB (s:ByteArray):Bool:=match Z19.f s with
 | some (_,e)=>e==0
 | none=>false
theorem key_eq (s:ByteArray) (hs:s.size≤2000000):Z38.f s=some (keyB s):=by
 unfold Z38.f keyB
 obtain⟨x,e,h,_⟩:=Zd7 s hs
 rw[h,sb]
theorem keyL_len:∀ (l:List Z2l),(∀ x∈l,Short x)→(keyL l).length≤130*l.length:=by
 intro l
 induction l with
 | nil=>intro _;simp[keyL]
 | cons x l ih =>
  intro h
  have hx:=h x (by simp)
  have:=hx.1
  have:=hx.2
  have:=ih (fun y hy=>h y (by simp[hy]))
  rw[keyL_cons,List.length_append,List.length_append,Zas,Zas,List.length_cons]
  omega
theorem key_iff (s:ByteArray) (hs:s.size≤2000000):keyB s=true↔∃ x,chkC x=0∧L s=keyL x:=by
 unfold keyB
 obtain⟨x,e,h,h2⟩:=Zd7 s hs
 rw[h]
 dsimp only
 rcases h2 with ⟨rfl,h3,h4⟩ | ⟨rfl,_,h3⟩
 ·simp;exact⟨x,h3,h4⟩
 ·simp;exact h3
theorem key_short {s:ByteArray} (hs:s.size≤2000000) (h:keyB s=true):s.size≤2080:=by
 obtain⟨x,h1,h2⟩:=(key_iff s hs).1 h
 have h3:=chkC_zero h1
 have:=keyL_len x (Zbh h3.2)
 have h4:=h3.1
 rw[← Z6m,h2];omega
noncomputable def itmOK (x:Z0l):Bool:=keyB x.f0&&sok ⟨x.f1,x.f2⟩
def rngOK (r:Z1):Bool:=decide (Z4g r)
def cutsB:Option ByteArray→List Z0w→Bool
 | _,[]=>true
 | p,x::l=>keyB x.f0&&(rngOK x.f1&&((match p with | none=>true | some q=>bl q x.f0)&&cutsB (some x.f0) l))
theorem Zdb (p:Option ByteArray) (x:Z0w) (l:List Z0w):cutsB p (x::l)=(keyB x.f0&&(rngOK x.f1&&((match p with | none=>true | some q=>bl q x.f0)&&cutsB (some x.f0) l))):=rfl
def lastC (pre:List Z0w):Option ByteArray:=pre.getLast?.map (·.f0)
noncomputable def Z5e (c:Zq):Bool :=
 if c.f0=1 then c.f1.all itmOK&&decide (0<c.f1.length∧c.f1.length≤64∧c.f2.length=0∧c.f3=0)
 else if c.f0=2 then cutsB none c.f2&&decide (c.f2.length≤64∧c.f1.length=0∧c.f3=0)
 else if c.f0=3 then decide (0≤c.f3∧c.f3≤1099511627776∧c.f1.length+c.f2.length=0)
 else false
structure CB (c:Zq):Prop where
 il:c.f1.length<1000000000000
 cl:c.f2.length<1000000000000
 ii:∀ x∈c.f1,x.f0.size≤2000000∧Fits x.f2
 ci:∀ x∈c.f2,x.f0.size≤2000000
theorem rise_one (s:Ze):rise none [s]=sok s:=by simp[rise,good,aft]
theorem tright (r:Z1):Z2s.f r=some (rngOK r):=by
 unfold Z2s.f rngOK
 by_cases h1:0≤r.f0
 ·by_cases h2:r.f0≤r.f1
  ·rw[if_pos (by simpa using h1),if_pos (by simpa using h2),sb];congr 1;simp[Z4g,h1,h2]
  ·rw[if_pos (by simpa using h1),if_neg (by simpa using h2),sb];congr 1;simp[Z4g,h1,h2]
 ·rw[if_neg (by simpa using h1),sb];congr 1;simp[Z4g,h1]
theorem eright_l0 (c:Zq) (hc:CB c):∀ (suf pre:List Z0l) (i:Int),c.f1=pre++suf→i=(pre.length:Int)→Z13.l0 c i=some (if suf.all itmOK=true then .inr () else .inl false):=by
 have hil:=hc.il
 intro suf
 induction suf with
 | nil=>intro pre i h1 hi;rw[Z13.l0,if_neg (by rw[h1];simp[hi])];rfl
 | cons x suf ih =>
  intro pre i h1 hi
  have hlen:c.f1.length=pre.length+(suf.length+1):=by rw[h1];simp
  obtain⟨hk,hf⟩:=hc.ii x (by rw[h1];simp)
  rw[Z13.l0,if_pos (by simp;omega),Z1q h1 hi,sb,key_eq _ hk,sb,ris_eq _ (by simp) (by intro y hy;simp at hy;subst hy;exact hf),sb,rise_one,Zf (n:=i+1) (by omega) (by omega),ih (pre++[x]) (i+1) (by simp[h1]) (by simp;omega),List.all_cons,itmOK]
  cases keyB x.f0
  ·simp[sb]
  cases sok ⟨x.f1,x.f2⟩<;>simp
theorem eright_l1 (c:Zq) (hc:CB c):∀ (suf pre:List Z0w) (i:Int),c.f2=pre++suf→i=(pre.length:Int)→Z13.l1 c i=some (if cutsB (lastC pre) suf=true then .inr () else .inl false):=by
 have hcl:=hc.cl
 intro suf
 induction suf with
 | nil=>intro pre i h1 hi;rw[Z13.l1,if_neg (by rw[h1];simp[hi])];rfl
 | cons x suf ih =>
  intro pre i h1 hi
  have hlen:c.f2.length=pre.length+(suf.length+1):=by rw[h1];simp
  have hk:=hc.ci x (by rw[h1];simp)
  rw[Z13.l1,if_pos (by simp;omega),Z1q h1 hi,sb,key_eq _ hk,sb,tright,sb,Zf (n:=i+1) (by omega) (by omega)]
  have hnext:=ih (pre++[x]) (i+1) (by simp[h1]) (by simp;omega)
  rw[hnext,show lastC (pre++[x])=some x.f0 by simp[lastC],Zdb]
  cases keyB x.f0
  ·simp[sb]
  cases rngOK x.f1
  ·simp[sb]
  rcases List.eq_nil_or_concat pre with rfl | ⟨p',p,rfl⟩
  ·simp only[Bool.not_true,Bool.false_eq_true,if_false,Bool.true_and]
   rw[if_neg (by simp at hi ⊢;omega),sb,if_neg (by simp)]
   simp[lastC]
  ·simp only[Bool.not_true,Bool.false_eq_true,if_false,Bool.true_and]
   simp only[List.concat_eq_append,List.length_append,List.length_singleton] at hi hlen ⊢
   rw[if_pos (by simp;omega),Zf (n:=i-1) (by omega) (by omega),Z1q (pre:=p') (suf:=x::suf) (x:=p) (by rw[h1];simp) (by omega),sb,sb,show lastC (p'++[p])=some p.f0 by simp[lastC]]
   cases h:bl p.f0 x.f0<;>simp[h]
theorem Z93 (c:Zq) (hc:CB c):Z13.f c=some (Z5e c):=by
 have hil:=hc.il
 have hcl:=hc.cl
 unfold Z13.f Z5e
 by_cases k1:c.f0=1
 ·rw[if_pos (by simpa using k1),if_pos k1,eright_l0 c hc c.f1 [] 0 rfl rfl,sb]
  cases c.f1.all itmOK
  ·simp
  simp only[if_true,Bool.true_and]
  by_cases h1:0<c.f1.length
  ·by_cases h2:c.f1.length≤64
   ·by_cases h3:c.f2.length=0
    ·rw[if_pos (by simp;omega),if_pos (by simp;omega),if_pos (by simp[h3]),sb];congr 1;simp[h1,h2,h3];rfl
    ·rw[if_pos (by simp;omega),if_pos (by simp;omega),if_neg (by simp;simpa using h3),sb];congr 1;simp[h3]
   ·rw[if_pos (by simp;omega),if_neg (by simp;omega),sb];congr 1;simp[h2]
  ·rw[if_neg (by rw[decide_eq_true_eq];omega),sb];congr 1;simp[h1]
 rw[if_neg (by simpa using k1),if_neg k1]
 by_cases k2:c.f0=2
 ·rw[if_pos (by simpa using k2),if_pos k2,eright_l1 c hc c.f2 [] 0 rfl rfl,sb,show lastC []=none from rfl]
  cases cutsB none c.f2
  ·simp
  simp only[if_true,Bool.true_and]
  by_cases h2:c.f2.length≤64
  ·have h2':((c.f2.length:Int)≤64):=by omega
   by_cases h3:c.f1.length=0
   ·rw[if_pos (by simpa using h2'),if_pos (by simp[h3]),sb];congr 1;simp[h2,h3];rfl
   ·rw[if_pos (by simpa using h2'),if_neg (by simp;simpa using h3),sb];congr 1;simp[h3]
  ·rw[if_neg (by rw[decide_eq_true_eq];omega),sb];congr 1;simp[h2]
 rw[if_neg (by simpa using k2),if_neg k2]
 by_cases k3:c.f0=3
 ·rw[if_pos (by simpa using k3),if_pos k3,Zf     (by omega) (by omega)]
  by_cases h1:0≤c.f3
  ·by_cases h2:c.f3≤1099511627776
   ·rw[if_pos (by simpa using h1),if_pos (by simpa using h2),sb];congr 1
    rw[Bool.eq_iff_iff,beq_iff_eq,decide_eq_true_eq];omega
   ·rw[if_pos (by simpa using h1),if_neg (by simpa using h2),sb];congr 1;simp[h2]
  ·rw[if_neg (by simpa using h1),sb];congr 1;simp[h1]
 ·rw[if_neg (by simpa using k3),if_neg k3]
end Go.Proofs.YtinhldbfifpakaaGreat.PvGL
set_option linter.unusedVariables false
set_option linter.unusedSimpArgs false
set_option maxRecDepth 10000
namespace Go.Proofs.YtinhldbfifpakaaGreat.PvGL
open Go Go.Pv Go.Pv.GS Go.IntKind
noncomputable def itmB (x:Z0l):List Bool:=Z4l x.f0++smpB ⟨x.f1,x.f2⟩
noncomputable def Z3q (x:Z0w):List Bool:=Z4l x.f0++(cnt2 1++layB 0 [x.f1])
noncomputable def entB (c:Zq):List Bool:=nb c.f0.toNat 2++(if c.f0=1 then cnt2 c.f1.length++c.f1.flatMap itmB else if c.f0=2 then cnt2 c.f2.length++c.f2.flatMap Z3q else cnt2 c.f3.toNat)
structure IK (x:Z0l):Prop where
 key:x.f0.size≤2080
 ok:SOk ⟨x.f1,x.f2⟩
structure CK (x:Z0w):Prop where
 key:x.f0.size≤2080
 ok:Z4g x.f1
inductive EK (c:Zq):Prop
 | batch (k:c.f0=1) (l:c.f1.length≤64) (h:∀ x∈c.f1,IK x) (n:c.f2=[]) (m:c.f3=0)
 | cuts (k:c.f0=2) (l:c.f2.length≤64) (h:∀ x∈c.f2,CK x) (n:c.f1=[]) (m:c.f3=0)
 | mark (k:c.f0=3) (l:0≤c.f3∧c.f3≤1099511627776) (n:c.f1=[]∧c.f2=[])
theorem cutsB_mem:∀ (l:List Z0w) (p:Option ByteArray),cutsB p l=true→∀ x∈l,keyB x.f0=true∧rngOK x.f1=true:=by
 intro l
 induction l with
 | nil=>simp
 | cons y l ih =>
  intro p h x hx
  rw[Zdb] at h
  simp only[Bool.and_eq_true] at h
  rcases List.mem_cons.1 hx with rfl | hx
  ·exact⟨h.1,h.2.1⟩
  ·exact ih _ h.2.2.2 x hx
theorem ek_of {c:Zq} (hc:CB c) (h:Z5e c=true):EK c:=by
 unfold Z5e at h
 split at h
 ·rename_i k
  simp only[Bool.and_eq_true,decide_eq_true_eq] at h
  refine .batch k h.2.2.1 (fun x hx => ?_) (List.length_eq_zero_iff.1 h.2.2.2.1) h.2.2.2.2
  have:=List.all_eq_true.1 h.1 x hx
  unfold itmOK at this
  rw[Bool.and_eq_true] at this
  have hb:=hc.ii x hx
  exact⟨key_short hb.1 this.1,sok_inv hb.2 this.2⟩
 split at h
 ·rename_i k
  simp only[Bool.and_eq_true,decide_eq_true_eq] at h
  refine .cuts k h.2.1 (fun x hx => ?_) (List.length_eq_zero_iff.1 h.2.2.1) h.2.2.2
  have:=cutsB_mem _ _ h.1 x hx
  exact⟨key_short (hc.ci x hx) this.1,of_decide_eq_true this.2⟩
 split at h
 ·rename_i k
  rw[decide_eq_true_eq] at h
  exact .mark k ⟨h.1,h.2.1⟩ ⟨List.length_eq_zero_iff.1 (by omega),List.length_eq_zero_iff.1 (by omega)⟩
 ·exact absurd h (by simp)
theorem Z7i (t:ByteArray):(Z4l t).length≤71+8*t.size:=by
 have:=Z22 t.size
 rw[Z4l,List.length_append,by8_len,Z47];omega
theorem smpB_len {s:Ze} (h:SOk s):(smpB s).length≤3200142:=by
 obtain⟨c1,c2,⟨g,hL⟩,c3,_⟩:=Zbl h
 have hsz:(Z4u (encX [s])).size=(encX [s]).length:=by rw[← Z47,Z4t (Z7y hL)]
 have:=Z7i (Z4u (encX [s]))
 have:=Z22 1
 rw[smpB,List.length_append];omega
theorem itmB_len {x:Z0l} (h:IK x):(itmB x).length≤3300000:=by
 have:=Z7i x.f0
 have:=smpB_len h.ok
 have:=h.key
 rw[itmB,List.length_append];omega
theorem Zc6 {x:Z0w} (h:CK x):(Z3q x).length≤17000:=by
 have:=Z7i x.f0
 have:=layB_len [x.f1] 0
 have:=Z22 1
 have:=h.key
 rw[Z3q,List.length_append,List.length_append];simp only[List.length_cons,List.length_nil] at *;omega
theorem flat_le {α:Type} (f:α→List Bool) (k:Nat):∀ (l:List α),(∀ x∈l,(f x).length≤k)→(l.flatMap f).length≤k*l.length:=by
 intro l
 induction l with
 | nil=>simp
 | cons x l ih =>
  intro h
  have:=h x (by simp)
  have:=ih (fun y hy=>h y (by simp[hy]))
  rw[List.flatMap_cons,List.length_append,List.length_cons,Nat.mul_add];omega
theorem entB_len {c:Zq} (h:EK c):(entB c).length≤300000000:=by
 unfold entB
 rw[List.length_append,Z41]
 rcases h with ⟨k,l,h,_,_⟩ | ⟨k,l,h,_,_⟩ | ⟨k,l,_⟩
 ·rw[if_pos k,List.length_append]
  have:=Z22 c.f1.length
  have:=flat_le itmB 3300000 c.f1 (fun x hx=>itmB_len (h x hx))
  omega
 ·rw[if_neg (by omega),if_pos k,List.length_append]
  have:=Z22 c.f2.length
  have:=flat_le Z3q 17000 c.f2 (fun x hx=>Zc6 (h x hx))
  omega
 ·rw[if_neg (by omega),if_neg (by omega)]
  have:=Z22 c.f3.toNat
  omega
theorem ent_l0 (c:Zq) (hl:c.f1.length≤64):∀ (suf pre:List Z0l) (b:List Int) (f:Nat) (s:List Bool) (i:Int),c.f1=pre++suf→i=(pre.length:Int)→(∀ x∈suf,IK x)→s.length+3300000*suf.length<400000000→Laid b f s →
  ∃ (b':List Int) (f':Nat),Z0k.l0 c b (f:Int) i=some (b',(f':Int))∧Laid b' f' (s++suf.flatMap itmB):=by
 intro suf
 induction suf with
 | nil =>
  intro pre b f s i h1 hi _ _ hL
  rw[Z0k.l0,if_neg (by rw[h1];simp[hi])]
  exact⟨b,f,rfl,by simpa using hL⟩
 | cons x suf ih =>
  intro pre b f s i h1 hi hx hs hL
  have hlen:c.f1.length=pre.length+(suf.length+1):=by rw[h1];simp
  have hk:=hx x (by simp)
  have k1:=hk.key
  have k2:=Z7i x.f0
  have k3:=itmB_len hk
  simp only[List.length_cons] at hs
  rw[Z0k.l0,if_pos (by simp;omega),Z1q h1 hi,sb]
  obtain⟨b1,f1,e1,h1'⟩:=text_eq hL x.f0 (by omega) (by omega)
  rw[e1,sb]
  dsimp only
  obtain⟨b2,f2,e2,h2'⟩:=samples1 h1' hk.ok (by rw[List.length_append];omega)
  rw[e2,sb,Zf (n:=i+1) (by omega) (by omega)]
  dsimp only
  rw[List.append_assoc] at h2'
  obtain⟨b3,f3,e3,h3'⟩:=ih (pre++[x]) b2 f2 _ (i+1) (by simp[h1]) (by simp;omega) (fun y hy=>hx y (by simp[hy])) (by
   have:s++(Z4l x.f0++smpB ⟨x.f1,x.f2⟩)=s++itmB x:=rfl
   rw[this,List.length_append];omega) h2'
  refine⟨b3,f3,e3,?_⟩
  rw[List.flatMap_cons,← List.append_assoc]
  exact h3'
theorem ent_l1 (c:Zq) (hl:c.f2.length≤64):∀ (suf pre:List Z0w) (b:List Int) (f:Nat) (s:List Bool) (i:Int),c.f2=pre++suf→i=(pre.length:Int)→(∀ x∈suf,CK x)→s.length+17000*suf.length<400000000→Laid b f s →
  ∃ (b':List Int) (f':Nat),Z0k.l1 c b (f:Int) i=some (b',(f':Int))∧Laid b' f' (s++suf.flatMap Z3q):=by
 intro suf
 induction suf with
 | nil =>
  intro pre b f s i h1 hi _ _ hL
  rw[Z0k.l1,if_neg (by rw[h1];simp[hi])]
  exact⟨b,f,rfl,by simpa using hL⟩
 | cons x suf ih =>
  intro pre b f s i h1 hi hx hs hL
  have hlen:c.f2.length=pre.length+(suf.length+1):=by rw[h1];simp
  have hk:=hx x (by simp)
  have k1:=hk.key
  have k2:=Z7i x.f0
  have k3:=Zc6 hk
  simp only[List.length_cons] at hs
  rw[Z0k.l1,if_pos (by simp;omega),Z1q h1 hi,sb]
  obtain⟨b1,f1,e1,h1'⟩:=text_eq hL x.f0 (by omega) (by omega)
  rw[e1,sb]
  dsimp only
  rw[of_one hk.ok,sb]
  obtain⟨b2,f2,e2,h2'⟩:=lay9_eq h1' (by rw[List.length_append];omega) [x.f1] (by simp) (apart_one hk.ok)
  rw[e2,sb,Zf (n:=i+1) (by omega) (by omega)]
  dsimp only
  rw[List.append_assoc] at h2'
  obtain⟨b3,f3,e3,h3'⟩:=ih (pre++[x]) b2 f2 _ (i+1) (by simp[h1]) (by simp;omega) (fun y hy=>hx y (by simp[hy])) (by
   have:s++(Z4l x.f0++(cnt2 [x.f1].length++layB 0 [x.f1]))=s++Z3q x:=rfl
   rw[this,List.length_append];omega) h2'
  refine⟨b3,f3,e3,?_⟩
  rw[List.flatMap_cons,← List.append_assoc]
  exact h3'
theorem put030 (f n k:Int):Z1p.f f n k=Z0a.f [] f n k:=by kernel_rfl
theorem bytes_ok {b:List Int} {f:Int} (h:b.length<100000000):Z17.f b f=some b:=by
 unfold Z17.f Z2m.f
 rw[chkB (by simp;omega),sb]
theorem ent_eq {c:Zq} (hc:CB c) (h:Z5e c=true):∃ (b:List Int) (f:Nat),Z0k.f c=some (b,0)∧Laid b f (entB c):=by
 have hk:=ek_of hc h
 have hl:=entB_len hk
 unfold Z0k.f
 rw[Z93 c hc,sb,h,if_neg (by simp),put030]
 have fin:∀ (b:List Int) (f:Nat),Laid b f (entB c)→Z17.f b (f:Int)=some b:=fun b f hL=>by
  have:=hL.len
  have:=hL.lt
  exact bytes_ok (by omega)
 have put:∀ n:Int,0≤n→n<4→∃ (b:List Int) (f:Nat),Z0a.f [] 0 (u64.wrap n) 2=some (b,(f:Int))∧Laid b f (nb n.toNat 2):=fun n h0 h1=>by
  rw[Z40 h0 (by omega)]
  obtain⟨b,f,e,h⟩:=wput Laid.nil (by simp) (n:=n) h0 (by omega) (k:=2) (by omega)
  exact⟨b,f,e,by simpa using h⟩
 rcases hk with ⟨k,l,hx,n0,m0⟩ | ⟨k,l,hx,n0,m0⟩ | ⟨k,l,n0⟩
 ·obtain⟨b1,f1,e1,h1⟩:=put c.f0 (by omega) (by omega)
  rw[e1,sb,if_pos (by simpa using k),Z40 (by omega) (by omega)]
  obtain⟨b2,f2,e2,h2⟩:=Z5d h1 (by rw[Z41];omega) (n:=(c.f1.length:Int)) (by omega) (by omega)
  rw[e2,sb]
  dsimp only
  rw[Int.toNat_natCast] at h2
  have:=Z22 c.f1.length
  obtain⟨b3,f3,e3,h3⟩:=ent_l0 c l c.f1 [] b2 f2 _ 0 rfl rfl hx (by rw[List.length_append,Z41];omega) h2
  have h4:Laid b3 f3 (entB c):=by rw[entB,if_pos k,← List.append_assoc];exact h3
  rw[e3,sb]
  dsimp only
  rw[sb]
  dsimp only
  rw[fin b3 f3 h4,sb]
  exact⟨b3,f3,rfl,h4⟩
 ·obtain⟨b1,f1,e1,h1⟩:=put c.f0 (by omega) (by omega)
  rw[e1,sb,if_neg (by simp;omega),if_pos (by simpa using k),Z40 (by omega) (by omega)]
  obtain⟨b2,f2,e2,h2⟩:=Z5d h1 (by rw[Z41];omega) (n:=(c.f2.length:Int)) (by omega) (by omega)
  rw[e2,sb]
  dsimp only
  rw[Int.toNat_natCast] at h2
  have:=Z22 c.f2.length
  obtain⟨b3,f3,e3,h3⟩:=ent_l1 c l c.f2 [] b2 f2 _ 0 rfl rfl hx (by rw[List.length_append,Z41];omega) h2
  have h4:Laid b3 f3 (entB c):=by rw[entB,if_neg (by omega),if_pos k,← List.append_assoc];exact h3
  rw[e3,sb]
  dsimp only
  rw[sb]
  dsimp only
  rw[sb]
  dsimp only
  rw[fin b3 f3 h4,sb]
  exact⟨b3,f3,rfl,h4⟩
 ·obtain⟨b1,f1,e1,h1⟩:=put c.f0 (by omega) (by omega)
  rw[e1,sb,if_neg (by simp;omega),if_neg (by simp;omega),Z40 (by omega) (by omega)]
  obtain⟨b2,f2,e2,h2⟩:=Z5d h1 (by rw[Z41];omega) (n:=c.f3) (by omega) (by omega)
  have h4:Laid b2 f2 (entB c):=by rw[entB,if_neg (by omega),if_neg (by omega)];exact h2
  rw[e2,sb]
  dsimp only
  rw[sb]
  dsimp only
  rw[sb]
  dsimp only
  rw[fin b2 f2 h4,sb]
  exact⟨b2,f2,rfl,h4⟩
theorem ent_no {c:Zq} (hc:CB c) (h:Z5e c=false):Z0k.f c=some ([],6):=by
 unfold Z0k.f
 rw[Z93 c hc,sb,h,if_pos (by simp)]
variable {b:List Int}
theorem dec_l0 (hb:Src b) (c:Zq) (hl:c.f1.length≤64) (t1 t2:Int×Int×Int) (ht:t2.1=(c.f1.length:Int)) (z:List Bool):∀ (suf pre:List Z0l) (a:Nat) (i:Int),c.f1=pre++suf→i=(pre.length:Int)→(∀ x∈suf,IK x)→a≤8*b.length→(Zz b).drop a=suf.flatMap itmB++z →
  Z02.l0 b t1 t2 (a:Int) 0 pre true i=some (((a+(suf.flatMap itmB).length:Nat):Int),0,c.f1,true):=by
 intro suf
 induction suf with
 | nil =>
  intro pre a i h1 hi _ _ _
  rw[Z02.l0,if_neg (by rw[ht,h1];simp[hi]),sb,if_neg (by simp),h1]
  simp
 | cons x suf ih =>
  intro pre a i h1 hi hx ha hd
  have hlen:c.f1.length=pre.length+(suf.length+1):=by rw[h1];simp
  have hk:=hx x (by simp)
  have k1:=hk.key
  rw[List.flatMap_cons,List.append_assoc] at hd
  have hd1:(Zz b).drop a=Z4l x.f0++(smpB ⟨x.f1,x.f2⟩++(suf.flatMap itmB++z)):=by rw[hd,itmB,List.append_assoc]
  have l1:=congrArg List.length hd1
  simp only[List.length_drop,Z0j,List.length_append] at l1
  have hd2:(Zz b).drop (a+(Z4l x.f0).length)=smpB ⟨x.f1,x.f2⟩++(suf.flatMap itmB++z):=by rw[← List.drop_drop,hd1,List.drop_left' rfl]
  have hd3:(Zz b).drop (a+(Z4l x.f0).length+(smpB ⟨x.f1,x.f2⟩).length)=suf.flatMap itmB++z:=by rw[← List.drop_drop,hd2,List.drop_left' rfl]
  rw[Z02.l0,if_pos (by rw[ht];simp;omega),if_pos rfl,Z9f,sb,sb,if_pos (by simp),Z8w hb (by omega) ha hd1,sb]
  dsimp only
  rw[sampled_fwd hb hk.ok (by omega) hd2,sb]
  dsimp only
  rw[if_pos rfl,sb,if_pos (by simp)]
  have e1:at? [(⟨x.f1,x.f2⟩:Ze)] 0=some ⟨x.f1,x.f2⟩:=rfl
  rw[e1,sb]
  dsimp only
  rw[chkB (by simp;omega),sb,Zf (n:=i+1) (by omega) (by omega)]
  have:=ih (pre++[x]) (a+(Z4l x.f0).length+(smpB ⟨x.f1,x.f2⟩).length) (i+1) (by simp[h1]) (by simp;omega) (fun y hy=>hx y (by simp[hy])) (by omega) hd3
  have hb1:(([(⟨x.f1,x.f2⟩:Ze)].length:Int)==1)=true:=by simp
  rw[hb1]
  have e2:a+((x::suf).flatMap itmB).length=a+(Z4l x.f0).length+(smpB ⟨x.f1,x.f2⟩).length+(suf.flatMap itmB).length:=by
   rw[List.flatMap_cons,List.length_append,itmB,List.length_append];omega
  rw[show(⟨x.f0,x.f1,x.f2⟩:Z0l)=x from rfl,this,e2]
theorem Zb8 (l:List Z1) (h:l.length<1000):Z2r.f ⟨l⟩=some l:=ranges_eq ⟨l⟩ (by show l.length<_;omega)
theorem dec_l1 (hb:Src b) (c:Zq) (hl:c.f2.length≤64) (t1 t2:Int×Int×Int) (ht:t2.1=(c.f2.length:Int)) (z:List Bool):∀ (suf pre:List Z0w) (a:Nat) (i:Int),c.f2=pre++suf→i=(pre.length:Int)→(∀ x∈suf,CK x)→a≤8*b.length→(Zz b).drop a=suf.flatMap Z3q++z →
  Z02.l1 b t1 t2 (a:Int) 0 pre true i=some (((a+(suf.flatMap Z3q).length:Nat):Int),0,c.f2,true):=by
 intro suf
 induction suf with
 | nil =>
  intro pre a i h1 hi _ _ _
  rw[Z02.l1,if_neg (by rw[ht,h1];simp[hi]),sb,if_neg (by simp),h1]
  simp
 | cons x suf ih =>
  intro pre a i h1 hi hx ha hd
  have hlen:c.f2.length=pre.length+(suf.length+1):=by rw[h1];simp
  have hk:=hx x (by simp)
  have k1:=hk.key
  rw[List.flatMap_cons,List.append_assoc] at hd
  have hd1:(Zz b).drop a=Z4l x.f0++((cnt2 1++layB 0 [x.f1])++(suf.flatMap Z3q++z)):=by rw[hd,Z3q,List.append_assoc]
  have l1:=congrArg List.length hd1
  simp only[List.length_drop,Z0j,List.length_append] at l1
  have hd2:(Zz b).drop (a+(Z4l x.f0).length)=(cnt2 [x.f1].length++layB 0 [x.f1])++(suf.flatMap Z3q++z):=by rw[← List.drop_drop,hd1,List.drop_left' rfl];rfl
  have hd3:(Zz b).drop (a+(Z4l x.f0).length+(cnt2 [x.f1].length++layB 0 [x.f1]).length)=suf.flatMap Z3q++z:=by rw[← List.drop_drop,hd2,List.drop_left' rfl]
  have l2:=congrArg List.length hd2
  simp only[List.length_drop,Z0j,List.length_append] at l2
  rw[Z02.l1,if_pos (by rw[ht];simp;omega),if_pos rfl,Z9f,sb,sb,if_pos (by simp),Z8w hb (by omega) ha hd1,sb]
  dsimp only
  have ht1:=take_at hb [x.f1] (m:=1) (by omega) (by simp) (apart_one hk.ok) (a:=a+(Z4l x.f0).length) (by omega) _ hd2
  rw[show((1:Nat):Int)=1 from rfl] at ht1
  rw[ht1,sb]
  dsimp only
  rw[Zb8 _ (by simp),sb,if_pos (by simp)]
  have e1:at? [x.f1] 0=some x.f1:=rfl
  rw[e1,sb]
  rw[chkB (by simp;omega),sb,Zf (n:=i+1) (by omega) (by omega)]
  have:=ih (pre++[x]) (a+(Z4l x.f0).length+(cnt2 [x.f1].length++layB 0 [x.f1]).length) (i+1) (by simp[h1]) (by simp;omega) (fun y hy=>hx y (by simp[hy])) (by rw[List.length_append];omega) hd3
  have hb1:(([x.f1].length:Int)==1)=true:=by simp
  rw[hb1]
  have e2:a+((x::suf).flatMap Z3q).length=a+(Z4l x.f0).length+(cnt2 [x.f1].length++layB 0 [x.f1]).length+(suf.flatMap Z3q).length:=by
   rw[List.flatMap_cons,List.length_append,Z3q,List.length_append,show cnt2 [x.f1].length=cnt2 1 from rfl];omega
  rw[show(⟨x.f0,x.f1⟩:Z0w)=x from rfl,this,e2]
end Go.Proofs.YtinhldbfifpakaaGreat.PvGL
set_option linter.unusedVariables false
set_option linter.unusedSimpArgs false
set_option maxRecDepth 10000
namespace Go.Proofs.YtinhldbfifpakaaGreat.PvGL
open Go Go.Pv Go.Pv.GS Go.IntKind
variable {b:List Int}
theorem Zc4 {a e:Int} (he:e≠0):Zp.l0 b a e=some (a,e):=by
 unfold Zp.l0 Z09.f
 rw[if_neg (by simpa using he),sb,if_neg (by simp)]
theorem end_l0_rev (hb:Src b):∀ (m a:Nat) (a':Int),8*b.length-a≤m→a≤8*b.length→Zp.l0 b (a:Int) 0=some (a',0)→(Zz b).drop a=List.replicate (8*b.length-a) false:=by
 intro m
 have hl:=hb.len
 induction m with
 | zero =>
  intro a a' h ha _
  have:(Zz b).drop a=[]:=List.drop_of_length_le (by rw[Z0j];omega)
  rw[this,show 8*b.length-a=0 from by omega];rfl
 | succ m ih =>
  intro a a' h ha he
  by_cases h0:a<8*b.length
  case neg =>
   have:(Zz b).drop a=[]:=List.drop_of_length_le (by rw[Z0j];omega)
   rw[this,show 8*b.length-a=0 from by omega];rfl
  have hlt:a<(Zz b).length:=by rw[Z0j];exact h0
  unfold Zp.l0 Z09.f at he
  rw[if_pos (by simp),sb,Zf (n:=(8:Int)*(b.length:Int)) (by omega) (by omega),Zf (by omega) (by omega),sb,if_pos (by simp;omega),Z71 hb (List.getElem?_eq_getElem hlt),sb] at he
  dsimp only at he
  rw[List.drop_eq_getElem_cons hlt,show 8*b.length-a=(8*b.length-(a+1))+1 from by omega,List.replicate_succ]
  cases hx:(Zz b)[a] with
  | true =>
   rw[hx,if_pos rfl,Za8,sb,sb,Zc4 (by omega)] at he
   simp at he
  | false =>
   rw[hx,if_neg (by simp),sb] at he
   rw[ih (a+1) a' (by omega) (by omega) he]
theorem end_rev (hb:Src b) {a:Nat} (ha:a≤8*b.length) {e r a' e':Int} (h:Zp.f b (a:Int) e=some (r,a',e')) (hr:r=0):e=0∧8*b.length-a<8∧(Zz b).drop a=List.replicate (8*b.length-a) false:=by
 have hl:=hb.len
 subst hr
 unfold Zp.f Z09.f at h
 by_cases he:e=0
 case neg =>
  rw[if_neg (by simpa using he),sb,if_neg (by simp),sb,Zc4 he,sb] at h
  simp at h
  exact absurd h.1 he
 subst he
 rw[if_pos (by simp),sb,Zf (n:=(8:Int)*(b.length:Int)) (by omega) (by omega),Zf (by omega) (by omega),sb] at h
 by_cases h8:8*b.length-a<8
 ·rw[if_neg (by simp;omega),sb] at h
  obtain⟨p,q,hpq⟩:=Z9y hb _ a 0 (Nat.le_refl _) ha
  rw[hpq,sb] at h
  simp at h
  obtain⟨rfl,_⟩:=h
  exact⟨rfl,h8,end_l0_rev hb _ a p (Nat.le_refl _) ha hpq⟩
 ·rw[if_pos (by simp;omega),Za8   ,sb,sb,Zc4       (by omega),sb] at h
  simp at h
structure IB (x:Z0l):Prop where
 key:x.f0.size≤1048576
 ok:SOk ⟨x.f1,x.f2⟩
theorem dec_l0_no (t1 t2:Int×Int×Int) (a e:Int) (acc:List Z0l) (i:Int):Z02.l0 b t1 t2 a e acc false i=some (a,e,acc,false):=by
 rw[Z02.l0,if_neg (show ¬ (false=true) by simp)]
 split<;>rw[sb,if_neg (by simp)]
theorem dec_l1_no (t1 t2:Int×Int×Int) (a e:Int) (acc:List Z0w) (i:Int):Z02.l1 b t1 t2 a e acc false i=some (a,e,acc,false):=by
 rw[Z02.l1,if_neg (show ¬ (false=true) by simp)]
 split<;>rw[sb,if_neg (by simp)]
theorem dec_l0_tot (hb:Src b) (t1 t2:Int×Int×Int) (n:Nat) (hn:n≤64) (ht:t2.1=(n:Int)):∀ (m:Nat) (acc:List Z0l) (a:Nat) (e i:Int),i+m=n→0≤i→(acc.length:Int)≤i→a≤8*b.length →
  ∃ (l:List Z0l        ) (a1:Nat) (e1:Int) (ok:Bool),           Z02.l0 b t1 t2 (a:Int) e acc true i=some ((a1:Int),e1,acc++l,ok)∧a1≤8*b.length∧(e≠0→e1≠0)∧(∀ x∈l,IB x)∧l.length≤m ∧
   (ok=true→e=0→e1=0→l.length=m∧(Zz b).drop a=l.flatMap itmB++(Zz b).drop a1):=by
 intro m
 induction m with
 | zero =>
  intro acc a e i hi h0 hacc ha
  refine⟨[],a,e,true,?_,ha,fun h=>h,by simp,by simp,fun _ _ _=>⟨rfl,by simp⟩⟩
  rw[Z02.l0,if_neg (by rw[ht];simp;omega),sb,if_neg (by simp)]
  simp
 | succ m ih =>
  intro acc a e i hi h0 hacc ha
  by_cases he:e=0
  case neg =>
   refine⟨[],a,e,true,?_,ha,fun h=>h,by simp,by simp,fun _ h=>absurd h he⟩
   rw[Z02.l0,if_pos (by rw[ht];simp;omega),if_pos rfl,Z9f,sb,sb,if_neg (by simpa using he)]
   simp
  subst he
  obtain⟨x,a1,e1,k1,k2,k3,k4,k5⟩:=Zba hb ha 0
  obtain⟨l,ok,a2,e2,s1,s2,s3,s4⟩:=sampled_tot hb k2 e1
  rw[Z02.l0,if_pos (by rw[ht];simp;omega),if_pos rfl,Z9f,sb,sb,if_pos (by simp),k1,sb]
  dsimp only
  rw[s1,sb]
  dsimp only
  by_cases hg:ok=true∧l.length=1
  case neg =>
   have:((if ok=true then(some ((l.length:Int)==(1:Int))) else(some false)):Option (Bool))=some false:=by
    by_cases h1:ok=true
    ·rw[if_pos h1];congr 1;simp;intro h;exact hg ⟨h1,by omega⟩
    ·rw[if_neg h1]
   rw[this,sb,if_neg (by simp),sb,dec_l0_no]
   exact⟨[],a2,e2,false,by simp,s2,fun h=>absurd rfl h,by simp,by simp,fun h=>absurd h (by simp)⟩
  obtain⟨rfl,hl1⟩:=hg
  obtain⟨D,d1,d2,d3,d4,d5⟩:=s4 rfl
  obtain⟨s,rfl,rfl,hs,hsb⟩:=one_of d1 d3 hl1
  have:((if true=true then(some ((([s]:List Ze).length:Int)==(1:Int))) else(some false)):Option (Bool))=some true:=by simp
  rw[this,sb,if_pos rfl]
  have e1':at? [s] 0=some s:=rfl
  rw[e1',sb]
  rw[chkB (by simp;omega),sb,Zf (n:=i+1) (by omega) (by omega)]
  obtain⟨l,a3,e3,ok3,r1,r2,r3,r4,r5,r6⟩:=ih (acc++[(⟨x,s.f0,s.f1⟩:Z0l)]) a2 e2 (i+1) (by omega) (by omega) (by simp;omega) s2
  refine⟨(⟨x,s.f0,s.f1⟩:Z0l)::l,a3,e3,ok3,by rw[r1];simp,r2,fun h=>absurd rfl h,?_,by simp;omega,fun h1 _ h3 => ?_⟩
  ·intro y hy
   rcases List.mem_cons.1 hy with rfl | hy
   ·exact⟨k3,hs⟩
   ·exact r4 y hy
  ·have h2:e2=0:=by
    by_cases h:e2=0
    ·exact h
    ·exact absurd h3 (r3 h)
   have h1':e1=0:=by
    by_cases h:e1=0
    ·exact h
    ·exact absurd h2 (s3 h)
   obtain⟨q1,q2⟩:=r6 h1 h2 h3
   refine⟨by simp[q1],?_⟩
   have q3:=d5 h1' h2
   rw[hsb] at q3
   rw[k5 rfl h1',q3,q2,List.flatMap_cons,itmB]
   simp
structure CBd (x:Z0w):Prop where
 key:x.f0.size≤1048576
 ok:Z4g x.f1
theorem dec_l1_tot (hb:Src b) (t1 t2:Int×Int×Int) (n:Nat) (hn:n≤64) (ht:t2.1=(n:Int)):∀ (m:Nat) (acc:List Z0w) (a:Nat) (e i:Int),i+m=n→0≤i→(acc.length:Int)≤i→a≤8*b.length →
  ∃ (l:List Z0w       ) (a1:Nat) (e1:Int) (ok:Bool),           Z02.l1 b t1 t2 (a:Int) e acc true i=some ((a1:Int),e1,acc++l,ok)∧a1≤8*b.length∧(e≠0→e1≠0)∧(∀ x∈l,CBd x)∧l.length≤m ∧
   (ok=true→e=0→e1=0→l.length=m∧(Zz b).drop a=l.flatMap Z3q++(Zz b).drop a1):=by
 intro m
 induction m with
 | zero =>
  intro acc a e i hi h0 hacc ha
  refine⟨[],a,e,true,?_,ha,fun h=>h,by simp,by simp,fun _ _ _=>⟨rfl,by simp⟩⟩
  rw[Z02.l1,if_neg (by rw[ht];simp;omega),sb,if_neg (by simp)]
  simp
 | succ m ih =>
  intro acc a e i hi h0 hacc ha
  by_cases he:e=0
  case neg =>
   refine⟨[],a,e,true,?_,ha,fun h=>h,by simp,by simp,fun _ h=>absurd h he⟩
   rw[Z02.l1,if_pos (by rw[ht];simp;omega),if_pos rfl,Z9f,sb,sb,if_neg (by simpa using he)]
   simp
  subst he
  obtain⟨x,a1,e1,k1,k2,k3,k4,k5⟩:=Zba hb ha 0
  obtain⟨l,a2,e2,s1,s2,s3,s4⟩:=take_any hb (m:=1) (by omega) k2 e1
  rw[show((1:Nat):Int)=1 from rfl] at s1
  have hl1:l.length≤1:=by rcases s4 with ⟨_,rfl⟩ | ⟨_,h,_⟩<;>simp_all
  rw[Z02.l1,if_pos (by rw[ht];simp;omega),if_pos rfl,Z9f,sb,sb,if_pos (by simp),k1,sb]
  dsimp only
  rw[s1,sb]
  dsimp only
  rw[Zb8 _ (by omega),sb]
  by_cases hg:l.length=1
  case neg =>
   have:((l.length:Int)==(1:Int))=false:=by simp;omega
   rw[this,if_neg (by simp),sb,dec_l1_no]
   exact⟨[],a2,e2,false,by simp,s2,fun h=>absurd rfl h,by simp,by simp,fun h=>absurd h (by simp)⟩
  obtain⟨r,rfl⟩:=List.length_eq_one_iff.1 hg
  rcases s4 with ⟨_,h⟩ | ⟨q0,_,qa,q4⟩
  ·simp at h
  have:(((([r]:List Z1).length:Nat):Int)==(1:Int))=true:=by simp
  rw[this,if_pos rfl]
  have e1':at? [r] 0=some r:=rfl
  rw[e1',sb]
  rw[chkB (by simp;omega),sb,Zf (n:=i+1) (by omega) (by omega)]
  obtain⟨l,a3,e3,ok3,r1,r2,r3,r4,r5,r6⟩:=ih (acc++[(⟨x,r⟩:Z0w)]) a2 e2 (i+1) (by omega) (by omega) (by simp;omega) s2
  refine⟨(⟨x,r⟩:Z0w)::l,a3,e3,ok3,by rw[r1];simp,r2,fun h=>absurd rfl h,?_,by simp;omega,fun h1 _ h3 => ?_⟩
  ·intro y hy
   rcases List.mem_cons.1 hy with rfl | hy
   ·exact⟨k3,qa.right r (by simp)⟩
   ·exact r4 y hy
  ·have h1':e1=0:=by
    by_cases h:e1=0
    ·exact h
    ·exact absurd q0 (s3 h)
   obtain⟨p1,p2⟩:=r6 h1 q0 h3
   refine⟨by simp[p1],?_⟩
   rw[k5 rfl h1',q4,p2,List.flatMap_cons,Z3q]
   simp
def tailE (b:List Int) (a e:Int) (ok:Bool) (c:Zq):Option (Zq×Int) :=
 ((if(!ok)=true then(some true) else((Zp.f b a e)>>=fun t6521=>if(t6521.1 != (0:Int))=true then(some true) else((Z13.f c)>>=fun t6524=>some (!t6524)))):Option (Bool))>>=fun x6526=>if x6526=true then(some ((⟨0,[],[],0⟩:Zq),6)) else(some (c,0))
theorem Zav (hb:Src b) {a:Nat} (ha:a≤8*b.length) (e:Int) (ok:Bool) {c:Zq} (hc:CB c) (h:ok=true→e=0→Z5e c=true→Zz b=entB c++(Zz b).drop a) :
  ∃ c' e',tailE b (a:Int) e ok c=some (c',e')∧((e'=6∧c'=⟨0,[],[],0⟩)∨(e'=0∧CB c'∧Z5e c'=true∧∃ f,Laid b f (entB c'))):=by
 unfold tailE
 cases ok with
 | false=>rw[if_pos (show(!false)=true from rfl),sb,if_pos rfl];exact⟨_,_,rfl,.inl ⟨rfl,rfl⟩⟩
 | true =>
  rw[if_neg (by simp)]
  obtain⟨r,a',e',hE⟩:=end_tot hb ha e
  rw[hE,sb]
  dsimp only
  by_cases hr:r=0
  case neg=>rw[if_pos (by simpa using hr),sb,if_pos rfl];exact⟨_,_,rfl,.inl ⟨rfl,rfl⟩⟩
  obtain⟨r1,r2,r3⟩:=end_rev hb ha hE hr
  rw[if_neg (by simpa using hr),Z93 c hc,sb,sb]
  cases hR:Z5e c with
  | false=>rw[if_pos (show(!false)=true from rfl)];exact⟨_,_,rfl,.inl ⟨rfl,rfl⟩⟩
  | true =>
   rw[if_neg (by simp)]
   refine⟨_,_,rfl,.inr ⟨rfl,hc,hR,_,⟨hb.byte,r2,?_⟩⟩⟩
   rw[← r3];exact h rfl r1 hR
theorem dec_tot15 (hb:Src b):∃ c e,Z02.f b=some (c,e)∧((e=6∧c=⟨0,[],[],0⟩)∨(e=0∧CB c∧Z5e c=true∧∃ f,Laid b f (entB c))):=by
 have hB:=hb.len
 have none0:∀ (k m:Int),CB ⟨k,[],[],m⟩:=fun k m=>⟨by simp,by simp,by simp,by simp⟩
 unfold Z02.f Z3p.f
 rw[sb]
 have kind0:∀ (a:Nat) (e:Int),a≤8*b.length→∃ c' e',tailE b (a:Int) e true ⟨0,[],[],0⟩=some (c',e')∧((e'=6∧c'=⟨0,[],[],0⟩)∨(e'=0∧CB c'∧Z5e c'=true∧∃ f,Laid b f (entB c'))) :=
  fun a e ha=>Zav hb ha e true (none0 0 0) (fun _ _ h=>by simp[Z5e] at h)
 rcases Z9e hb (k:=2) (a:=0) (by omega) (by omega) with ⟨h1,h2⟩ | ⟨h1,h2⟩
 case inr =>
  rw[show Zk.f b 0 0 2=_ from h2,sb]
  dsimp only
  rw[Zf (n:=0) (by omega) (by omega),if_neg (by simp),if_neg (by simp),if_neg (by simp),sb]
  exact kind0 _ 7 (Nat.le_refl _)
 rw[show Zk.f b 0 0 2=_ from h2,sb]
 dsimp only
 rw[List.drop_zero]
 have hl2:((Zz b).take 2).length=2:=by rw[List.length_take,Z0j];omega
 have hv:=Zct ((Zz b).take 2)
 have hnb:=nb_val ((Zz b).take 2)
 rw[hl2] at hv hnb
 have hbits:Zz b=nb (val ((Zz b).take 2)) 2++(Zz b).drop 2:=by
  conv=>lhs;rw[← List.take_append_drop 2 (Zz b)]
  rw[hnb]
 generalize val ((Zz b).take 2)=k at *
 rw[Nat.zero_add,Zf (n:=(k:Int)) (by omega) (by omega)]
 have hk:k=0∨k=1∨k=2∨k=3:=by omega
 rcases hk with rfl | rfl | rfl | rfl
 ·rw[if_neg (by simp),if_neg (by simp),if_neg (by simp),sb]
  exact kind0 2 0 (by omega)
 ·rw[if_pos (by simp)]
  obtain⟨n,a1,e1,s1,s2,s3,s4⟩:=Z4w hb (m:=64) (by omega) (a:=2) (by omega)
  rw[show Z4.f b ((2:Nat):Int) 0 64=_ from s1,sb]
  dsimp only
  obtain⟨l,a2,e2,ok,r1,r2,r3,r4,r5,r6⟩:=dec_l0_tot hb (((1:Nat):Int),((2:Nat):Int),0) ((n:Int),(a1:Int),e1) n s3 rfl n [] a1 e1 0 (by omega) (by omega) (by simp) s2
  rw[r1,sb]
  refine Zav hb (e:=e2) (ok:=ok) r2 (c:=⟨1,l,[],0⟩) ⟨by show l.length<_;omega,by simp,fun x hx=>⟨by have:=(r4 x hx).key;omega,(r4 x hx).ok.f⟩,by simp⟩ (fun h1 h2 _ => ?_)
  have he1:e1=0:=by
   by_cases h:e1=0
   ·exact h
   ·exact absurd h2 (r3 h)
  obtain⟨q1,q2⟩:=r6 h1 he1 h2
  rcases s4 with ⟨_,s4⟩ | ⟨s4,_⟩
  case inr=>exact absurd he1 s4
  unfold entB
  dsimp only
  rw[if_pos rfl,q1,List.append_assoc,List.append_assoc,← q2,← s4]
  exact hbits
 ·rw[if_neg (by simp),if_pos (by simp)]
  obtain⟨n,a1,e1,s1,s2,s3,s4⟩:=Z4w hb (m:=64) (by omega) (a:=2) (by omega)
  rw[show Z4.f b ((2:Nat):Int) 0 64=_ from s1,sb]
  dsimp only
  obtain⟨l,a2,e2,ok,r1,r2,r3,r4,r5,r6⟩:=dec_l1_tot hb (((2:Nat):Int),((2:Nat):Int),0) ((n:Int),(a1:Int),e1) n s3 rfl n [] a1 e1 0 (by omega) (by omega) (by simp) s2
  rw[r1,sb]
  refine Zav hb (e:=e2) (ok:=ok) r2 (c:=⟨2,[],l,0⟩) ⟨by simp,by show l.length<_;omega,by simp,fun x hx=>by have:=(r4 x hx).key;omega⟩ (fun h1 h2 _ => ?_)
  have he1:e1=0:=by
   by_cases h:e1=0
   ·exact h
   ·exact absurd h2 (r3 h)
  obtain⟨q1,q2⟩:=r6 h1 he1 h2
  rcases s4 with ⟨_,s4⟩ | ⟨s4,_⟩
  case inr=>exact absurd he1 s4
  unfold entB
  dsimp only
  rw[if_neg (by omega),if_pos rfl,q1,List.append_assoc,List.append_assoc,← q2,← s4]
  exact hbits
 ·rw[if_neg (by simp),if_neg (by simp),if_pos (by simp)]
  obtain⟨n,a1,e1,s1,s2,s3,s4⟩:=Z4w hb (m:=1099511627776) (by omega) (a:=2) (by omega)
  rw[show Z4.f b ((2:Nat):Int) 0 1099511627776=_ from s1,sb]
  dsimp only
  rw[sb]
  refine Zav hb (e:=e1) (ok:=true) s2 (c:=⟨3,[],[],(n:Int)⟩) (none0 3 _) (fun _ h2 _ => ?_)
  rcases s4 with ⟨_,s4⟩ | ⟨s4,_⟩
  case inr=>exact absurd h2 s4
  unfold entB
  dsimp only
  rw[if_neg (by omega),if_neg (by omega),Int.toNat_natCast,List.append_assoc,← s4]
  exact hbits
theorem Z9g (hb:Src b) {c:Zq} (hc:CB c) (hR:Z5e c=true) (z:List Bool) (h:Zz b=entB c++z) :
  (8≤z.length→∃ c',Z02.f b=some (c',6))∧(∀ g,g<8→z=List.replicate g false→Z02.f b=some (c,0)):=by
 have hB:=hb.len
 have hk:=ek_of hc hR
 have hl:=congrArg List.length h
 rw[Z0j,List.length_append] at hl
 have fin:∀ (a:Nat),a=(entB c).length→(8≤z.length→∃ c',tailE b (a:Int) 0 true c=some (c',6))∧(∀ g,g<8→z=List.replicate g false→tailE b (a:Int) 0 true c=some (c,0)):=by
  intro a ha
  have hd:(Zz b).drop a=z:=by rw[h,ha,List.drop_left' rfl]
  constructor
  ·intro hz
   unfold tailE
   rw[if_neg (by simp),end_long hb (by omega),sb,if_pos (by simp),sb,if_pos rfl]
   exact⟨_,rfl⟩
  ·intro g hg hz
   obtain⟨a',e⟩:=end_ok hb hg (a:=a) (by omega) (by rw[hd,hz])
   unfold tailE
   rw[if_neg (by simp),e,sb,if_neg (by simp),Z93 c hc,sb,hR,sb,if_neg (by simp)]
 have hkind:0≤c.f0∧c.f0<4:=by rcases hk with ⟨k,_⟩ | ⟨k,_⟩ | ⟨k,_⟩<;>omega
 have h0:(Zz b).drop 0=nb c.f0.toNat 2++((if c.f0=1 then cnt2 c.f1.length++c.f1.flatMap itmB else if c.f0=2 then cnt2 c.f2.length++c.f2.flatMap Z3q else cnt2 c.f3.toNat)++z):=by
  rw[List.drop_zero,h,entB,List.append_assoc]
 have hg:=get_fwd hb (k:=2) (by omega) (Z41 _ _) (by omega) h0
 rw[Zcs,Nat.mod_eq_of_lt (by omega)] at hg
 have h2:(Zz b).drop 2=(if c.f0=1 then cnt2 c.f1.length++c.f1.flatMap itmB else if c.f0=2 then cnt2 c.f2.length++c.f2.flatMap Z3q else cnt2 c.f3.toNat)++z:=by
  rw[List.drop_zero] at h0
  rw[h0,List.drop_left' (Z41 _ _)]
 have hlen:(entB c).length=2+(if c.f0=1 then cnt2 c.f1.length++c.f1.flatMap itmB else if c.f0=2 then cnt2 c.f2.length++c.f2.flatMap Z3q else cnt2 c.f3.toNat).length:=by
  rw[entB,List.length_append,Z41]
 unfold Z02.f Z3p.f
 rw[sb,show Zk.f b 0 0 2=_ from hg,sb]
 dsimp only
 rw[Nat.zero_add,show((c.f0.toNat:Nat):Int)=c.f0 from by omega,Zf (n:=c.f0) (by omega) (by omega)]
 rcases hk with ⟨k,l,hx,n0,m0⟩ | ⟨k,l,hx,n0,m0⟩ | ⟨k,l,n0⟩
 ·rw[if_pos k,List.append_assoc] at h2
  rw[if_pos k,List.length_append] at hlen
  rw[if_pos (by simpa using k),show Z4.f b ((2:Nat):Int) 0 64=_ from Z3l hb l (by omega) (by omega) h2,sb]
  dsimp only
  have h3:(Zz b).drop (2+(cnt2 c.f1.length).length)=c.f1.flatMap itmB++z:=by rw[← List.drop_drop,h2,List.drop_left' rfl]
  rw[dec_l0 hb c l _ ((c.f1.length:Int),((2+(cnt2 c.f1.length).length:Nat):Int),0) rfl z c.f1 [] (2+(cnt2 c.f1.length).length) 0 rfl rfl hx (by omega) h3,sb]
  have:=fin (2+(cnt2 c.f1.length).length+(c.f1.flatMap itmB).length) (by omega)
  have ec:(⟨c.f0,c.f1,[],0⟩:Zq)=c:=by cases c;simp_all
  rw[← ec] at this ⊢
  exact this
 ·rw[if_neg (by omega),if_pos k,List.append_assoc] at h2
  rw[if_neg (by omega),if_pos k,List.length_append] at hlen
  rw[if_neg (by simp;omega),if_pos (by simpa using k),show Z4.f b ((2:Nat):Int) 0 64=_ from Z3l hb l (by omega) (by omega) h2,sb]
  dsimp only
  have h3:(Zz b).drop (2+(cnt2 c.f2.length).length)=c.f2.flatMap Z3q++z:=by rw[← List.drop_drop,h2,List.drop_left' rfl]
  rw[dec_l1 hb c l _ ((c.f2.length:Int),((2+(cnt2 c.f2.length).length:Nat):Int),0) rfl z c.f2 [] (2+(cnt2 c.f2.length).length) 0 rfl rfl hx (by omega) h3,sb]
  have:=fin (2+(cnt2 c.f2.length).length+(c.f2.flatMap Z3q).length) (by omega)
  have ec:(⟨c.f0,[],c.f2,0⟩:Zq)=c:=by cases c;simp_all
  rw[← ec] at this ⊢
  exact this
 ·rw[if_neg (by omega),if_neg (by omega)] at h2
  rw[if_neg (by omega),if_neg (by omega)] at hlen
  rw[if_neg (by simp;omega),if_neg (by simp;omega),if_pos (by simpa using k),show Z4.f b ((2:Nat):Int) 0 1099511627776=_ from Z3l hb (n:=c.f3.toNat) (m:=1099511627776) (by omega) (by omega) (by omega) h2,sb]
  dsimp only
  rw[sb,show((c.f3.toNat:Nat):Int)=c.f3 from by omega]
  have:=fin (2+(cnt2 c.f3.toNat).length) (by omega)
  have ec:(⟨c.f0,[],[],c.f3⟩:Zq)=c:=by cases c;simp_all
  rw[← ec] at this ⊢
  exact this
end Go.Proofs.YtinhldbfifpakaaGreat.PvGL
set_option linter.unusedVariables false
set_option linter.unusedSimpArgs false
set_option maxRecDepth 10000
namespace Go.Proofs.YtinhldbfifpakaaGreat.PvGL
open Go Go.Pv Go.Pv.GS Go.IntKind
theorem ints_toB' {x:List Int} (h:∀ n∈x,Byte n):ints (toB x)=x:=by
 unfold ints toB
 rw[List.map_map]
 have:∀ n∈x,((fun c:UInt8=>(c.toNat:Int)) ∘ fun x:Int=>UInt8.ofNat x.toNat) n=n:=fun n hn=>by
  have q:=h n hn
  have:=q.1;have:=q.2
  simp only[Function.comp_apply,UInt8.toNat_ofNat']
  omega
 rw[List.map_congr_left this];exact List.map_id _
theorem strOf_dec' {x y:List Int} (hx:∀ n∈x,Byte n) (hy:∀ n∈y,Byte n):((Z4u x).toList==(Z4u y).toList)=decide (x=y):=by
 rw[Z7t,Z7t,Zaw,Zaw,L_mk,L_mk]
 by_cases c:x=y
 ·subst c;simp
 ·rw[decide_eq_false c]
  have:¬ toB x=toB y:=fun h=>c (by rw[← ints_toB' hx,← ints_toB' hy,h])
  simpa using this
theorem cut_last' {x:List Int} (h:x≠[]):∃ (p:List Int) (v:Int),x=p++[v]∧(x.drop (Int.toNat (0:Int))).take ((Int.toNat (((x.length:Nat):Int)-1))-(Int.toNat (0:Int)))=p:=by
 rcases List.eq_nil_or_concat x with rfl | ⟨p,v,rfl⟩
 ·exact absurd rfl h
 ·rw[List.concat_eq_append]
  refine⟨p,v,rfl,?_⟩
  rw[show Int.toNat (0:Int)=0 from rfl,List.drop_zero,Nat.sub_zero]
  have:Int.toNat (((p++[v]).length:Int)-1)=p.length:=by simp
  rw[this,List.take_left]
def wI (x:Z0l):Nat:=x.f0.size+x.f2.f6.length+x.f2.f7.length
def sumI (l:List Z0l):Nat:=(l.map wI).sum
def sumC (l:List Z4q):Nat:=(l.map fun x=>x.f0.size).sum
theorem sum_mem {α:Type} (f:α→Nat):∀ (l:List α) (x:α),x∈l→f x≤(l.map f).sum:=by
 intro l
 induction l with
 | nil=>simp
 | cons y l ih =>
  intro x hx
  rw[List.map_cons,List.sum_cons]
  rcases List.mem_cons.1 hx with rfl | hx
  ·omega
  ·have:=ih x hx;omega
structure UB (c:Z0g):Prop where
 il:c.f1.length≤1048576
 cl:c.f2.length≤1048576
 ii:∀ x∈c.f1,x.f0.size≤1048576∧x.f2.f6.length≤1048576∧x.f2.f7.length≤1048576∧Fits x.f2
 ci:∀ x∈c.f2,x.f0.size≤1048576
theorem light_l0 (c:Z0g) (hc:UB c):∀ (suf pre:List Z0l) (i:Int) (n:Nat),c.f1=pre++suf→i=(pre.length:Int)→n+3145728*suf.length<10000000000000→Z1m.l0 c (n:Int) i=some ((n+sumI suf:Nat):Int):=by
 have hil:=hc.il
 intro suf
 induction suf with
 | nil=>intro pre i n h1 hi hn;rw[Z1m.l0,if_neg (by rw[h1];simp[hi])];rfl
 | cons x suf ih =>
  intro pre i n h1 hi hn
  have hlen:c.f1.length=pre.length+(suf.length+1):=by rw[h1];simp
  obtain⟨k1,k2,k3,_⟩:=hc.ii x (by rw[h1];simp)
  simp only[List.length_cons] at hn
  rw[Z1m.l0,if_pos (by simp;omega),Z1q h1 hi,sb,Zf (n:=(x.f0.size:Int)+(x.f2.f6.length:Int)) (by omega) (by omega),Zf (n:=(x.f0.size:Int)+(x.f2.f6.length:Int)+(x.f2.f7.length:Int)) (by omega) (by omega),Zf (by omega) (by omega),Zf (n:=i+1) (by omega) (by omega)]
  have hw:wI x≤3145728:=by unfold wI;omega
  have e:(n:Int)+((x.f0.size:Int)+(x.f2.f6.length:Int)+(x.f2.f7.length:Int))=((n+wI x:Nat):Int):=by unfold wI;omega
  rw[e,ih (pre++[x]) (i+1) (n+wI x) (by simp[h1]) (by simp;omega) (by omega)]
  congr 2
  simp only[sumI,List.map_cons,List.sum_cons];omega
theorem light_l1 (c:Z0g) (hc:UB c):∀ (suf pre:List Z4q) (i:Int) (n:Nat),c.f2=pre++suf→i=(pre.length:Int)→n+1048576*suf.length<20000000000000→Z1m.l1 c (n:Int) i=some ((n+sumC suf:Nat):Int):=by
 have hil:=hc.cl
 intro suf
 induction suf with
 | nil=>intro pre i n h1 hi hn;rw[Z1m.l1,if_neg (by rw[h1];simp[hi])];rfl
 | cons x suf ih =>
  intro pre i n h1 hi hn
  have hlen:c.f2.length=pre.length+(suf.length+1):=by rw[h1];simp
  have k1:=hc.ci x (by rw[h1];simp)
  simp only[List.length_cons] at hn
  rw[Z1m.l1,if_pos (by simp;omega),Z1q h1 hi,sb,Zf (by omega) (by omega),Zf (n:=i+1) (by omega) (by omega)]
  have e:(n:Int)+(x.f0.size:Int)=((n+x.f0.size:Nat):Int):=by omega
  rw[e,ih (pre++[x]) (i+1) (n+x.f0.size) (by simp[h1]) (by simp;omega) (by omega)]
  congr 2
  simp only[sumC,List.map_cons,List.sum_cons];omega
theorem sumI_le {c:Z0g} (hc:UB c):∀ (l:List Z0l),(∀ x∈l,x∈c.f1)→sumI l≤3145728*l.length:=by
 intro l
 induction l with
 | nil=>intro _;simp[sumI]
 | cons x l ih =>
  intro h
  obtain⟨k1,k2,k3,_⟩:=hc.ii x (h x (by simp))
  have:=ih (fun y hy=>h y (by simp[hy]))
  simp only[sumI,List.map_cons,List.sum_cons,wI,List.length_cons] at this ⊢
  omega
def Zd4 (c:Z0g):Nat:=c.f1.length+c.f2.length+sumI c.f1+sumC c.f2
theorem light_eq (c:Z0g) (hc:UB c):Z1m.f c=some (decide (Zd4 c≤2000)):=by
 have h1:=hc.il
 have h2:=hc.cl
 have h3:=sumI_le hc c.f1 (fun _ h=>h)
 unfold Z1m.f
 rw[Zf (by omega) (by omega),show(c.f1.length:Int)+(c.f2.length:Int)=((c.f1.length+c.f2.length:Nat):Int) from by omega,
  light_l0 c hc c.f1 [] 0 _ rfl rfl (by omega),sb,light_l1 c hc c.f2 [] 0 _ rfl rfl (by omega),sb]
 congr 1
 rw[decide_eq_decide]
 unfold Zd4
 omega
structure LB (c:Z0g):Prop where
 il:c.f1.length≤2000
 cl:c.f2.length≤2000
 ii:∀ x∈c.f1,x.f0.size≤2000∧x.f2.f6.length≤2000∧x.f2.f7.length≤2000∧Fits x.f2
 ci:∀ x∈c.f2,x.f0.size≤2000
theorem lb_of {c:Z0g} (hc:UB c) (h:Zd4 c≤2000):LB c:=by
 unfold Zd4 at h
 refine⟨by omega,by omega,fun x hx => ?_,fun x hx => ?_⟩
 ·have:=sum_mem wI c.f1 x hx
  unfold sumI at h
  have hw:wI x≤2000:=by omega
  unfold wI at hw
  exact⟨by omega,by omega,by omega,(hc.ii x hx).2.2.2⟩
 ·have:=sum_mem (fun x:Z4q      => x.f0.size) c.f2 x hx
  unfold sumC at h
  omega
def cOf (x:Z4q):Z0w:=⟨x.f0,x.f1⟩
def cBack (x:Z0w):Z4q:=⟨x.f0,x.f1⟩
def prog (c:Z0g):Zq:=⟨c.f0,c.f1,c.f2.map cOf,c.f3⟩
def doc (c:Zq):Z0g:=⟨c.f0,c.f1,c.f2.map cBack,c.f3⟩
theorem doc_prog (c:Z0g):doc (prog c)=c:=by
 obtain⟨f0,f1,f2,f3⟩:=c
 simp only[doc,prog,List.map_map]
 congr 1
 conv=>rhs;rw[← List.map_id f2]
 exact List.map_congr_left (fun x _=>rfl)
theorem eto_l0 (c:Z0g) (hl:c.f1.length≤1048576):∀ (suf pre:List Z0l) (i:Int),c.f1=pre++suf→i=(pre.length:Int)→Z33.l0 c pre i=some c.f1:=by
 intro suf
 induction suf with
 | nil=>intro pre i h1 hi;rw[Z33.l0,if_neg (by rw[h1];simp[hi]),h1];simp
 | cons x suf ih =>
  intro pre i h1 hi
  have hlen:c.f1.length=pre.length+(suf.length+1):=by rw[h1];simp
  rw[Z33.l0,if_pos (by simp;omega),Z1q h1 hi,sb,chkB (by simp;omega),Zf (n:=i+1) (by omega) (by omega)]
  exact ih (pre++[x]) (i+1) (by simp[h1]) (by simp;omega)
theorem eto_l1 (c:Z0g) (y:List Z0l) (hl:c.f2.length≤1048576):∀ (suf pre:List Z4q) (i:Int),c.f2=pre++suf→i=(pre.length:Int)→Z33.l1 c y (pre.map cOf) i=some (c.f2.map cOf):=by
 intro suf
 induction suf with
 | nil=>intro pre i h1 hi;rw[Z33.l1,if_neg (by rw[h1];simp[hi]),h1];simp
 | cons x suf ih =>
  intro pre i h1 hi
  have hlen:c.f2.length=pre.length+(suf.length+1):=by rw[h1];simp
  rw[Z33.l1,if_pos (by simp;omega),Z1q h1 hi,sb,chkB (by simp;omega),Zf (n:=i+1) (by omega) (by omega)]
  have:=ih (pre++[x]) (i+1) (by simp[h1]) (by simp;omega)
  rw[List.map_append] at this
  exact this
theorem to15 (c:Z0g) (hc:UB c):Z33.f c=some (prog c):=by
 unfold Z33.f
 rw[eto_l0 c hc.il c.f1 [] 0 rfl rfl,sb,show([]:List Z0w)=([]:List Z4q).map cOf from rfl,eto_l1 c _ hc.cl c.f2 [] 0 rfl rfl,sb]
 rfl
theorem cb_prog {c:Z0g} (hc:LB c):CB (prog c):=by
 refine⟨by have:=hc.il;show c.f1.length<_;omega,by have:=hc.cl;show(c.f2.map cOf).length<_;rw[List.length_map];omega,fun x hx => ?_,fun x hx => ?_⟩
 ·have:=hc.ii x hx;exact⟨by omega,this.2.2.2⟩
 ·obtain⟨y,hy,rfl⟩:=List.mem_map.1 hx
  have:=hc.ci y hy;show y.f0.size≤_;omega
theorem same_l0 (a b:Z0g) (ha:LB a) (hl:a.f1.length=b.f1.length):∀ (sa sb' pa pb:List Z0l) (i:Int),a.f1=pa++sa→b.f1=pb++sb'→pa.length=pb.length→i=(pa.length:Int)→Z1x.l0 a b i=some (if sa=sb' then .inr () else .inl false):=by
 have hil:=ha.il
 intro sa
 induction sa with
 | nil =>
  intro sb' pa pb i h1 h2 hp hi
  have e1:=congrArg List.length h1
  have e2:=congrArg List.length h2
  simp only[List.length_append,List.length_nil] at e1 e2
  have:sb'=[]:=List.length_eq_zero_iff.1 (by omega)
  subst this
  rw[Z1x.l0,if_neg (by simp;omega)];simp
 | cons x sa ih =>
  intro sb' pa pb i h1 h2 hp hi
  have e1:=congrArg List.length h1
  have e2:=congrArg List.length h2
  simp only[List.length_append,List.length_cons] at e1 e2
  cases sb' with
  | nil=>simp at e2;omega
  | cons y sb' =>
   simp only[List.length_cons] at e2
   obtain⟨k1,k2,k3,_⟩:=ha.ii x (by rw[h1];simp)
   rw[Z1x.l0,if_pos (by simp;omega),Z1q h1 hi,sb,Z1q h2 (by omega),sb,eqB,rSame_eq x.f2 y.f2 (by omega) (by omega),sb,Zf (n:=i+1) (by omega) (by omega),ih sb' (pa++[x]) (pb++[y]) (i+1) (by simp[h1]) (by simp[h2]) (by simp;omega) (by simp;omega)]
   have hxy:x=y↔x.f0=y.f0∧x.f1=y.f1∧x.f2=y.f2:=by cases x;cases y;simp
   by_cases g0:x.f0=y.f0
   ·by_cases g1:x.f1=y.f1
    ·by_cases g2:x.f2=y.f2
     ·have:x=y:=hxy.2 ⟨g0,g1,g2⟩
      subst this
      simp[sb]
     ·have:¬ x=y:=fun h=>g2 (hxy.1 h).2.2
      simp[g0,g1,g2,sb,this]
    ·have:¬ x=y:=fun h=>g1 (hxy.1 h).2.1
     simp[g0,g1,sb,this]
   ·have:¬ x=y:=fun h=>g0 (hxy.1 h).1
    simp[g0,sb,this]
theorem same_l1 (a b:Z0g) (hcl:a.f2.length≤2000) (hl:a.f2.length=b.f2.length):∀ (sa sb' pa pb:List Z4q) (i:Int),a.f2=pa++sa→b.f2=pb++sb'→pa.length=pb.length→i=(pa.length:Int)→Z1x.l1 a b i=some (if sa=sb' then .inr () else .inl false):=by
 intro sa
 induction sa with
 | nil =>
  intro sb' pa pb i h1 h2 hp hi
  have e1:=congrArg List.length h1
  have e2:=congrArg List.length h2
  simp only[List.length_append,List.length_nil] at e1 e2
  have:sb'=[]:=List.length_eq_zero_iff.1 (by omega)
  subst this
  rw[Z1x.l1,if_neg (by simp;omega)];simp
 | cons x sa ih =>
  intro sb' pa pb i h1 h2 hp hi
  have e1:=congrArg List.length h1
  have e2:=congrArg List.length h2
  simp only[List.length_append,List.length_cons] at e1 e2
  cases sb' with
  | nil=>simp at e2;omega
  | cons y sb' =>
   simp only[List.length_cons] at e2
   rw[Z1x.l1,if_pos (by simp;omega),Z1q h1 hi,sb,Z1q h2 (by omega),sb,eqB,Zf (n:=i+1) (by omega) (by omega),ih sb' (pa++[x]) (pb++[y]) (i+1) (by simp[h1]) (by simp[h2]) (by simp;omega) (by simp;omega)]
   have hxy:x=y↔x.f0=y.f0∧x.f1.f0=y.f1.f0∧x.f1.f1=y.f1.f1:=by
    obtain⟨x0,⟨x1,x2⟩⟩:=x
    obtain⟨y0,⟨y1,y2⟩⟩:=y
    simp
   by_cases g0:x.f0=y.f0
   ·by_cases g1:x.f1.f0=y.f1.f0
    ·by_cases g2:x.f1.f1=y.f1.f1
     ·have:x=y:=hxy.2 ⟨g0,g1,g2⟩
      subst this
      simp
     ·have:¬ x=y:=fun h=>g2 (hxy.1 h).2.2
      simp[g0,g1,g2,this]
    ·have:¬ x=y:=fun h=>g1 (hxy.1 h).2.1
     simp[g0,g1,this]
   ·have:¬ x=y:=fun h=>g0 (hxy.1 h).1
    simp[g0,this]
theorem same15 (a b:Z0g) (ha:LB a):Z1x.f a b=some (decide (a=b)):=by
 have hxy:a=b↔a.f0=b.f0∧a.f1=b.f1∧a.f2=b.f2∧a.f3=b.f3:=by cases a;cases b;simp
 unfold Z1x.f
 by_cases g0:a.f0=b.f0
 case neg =>
  have:¬ a=b:=fun h=>g0 (hxy.1 h).1
  rw[if_pos (by simpa using g0),sb,if_pos rfl];simp[this]
 by_cases g3:a.f3=b.f3
 case neg =>
  have:¬ a=b:=fun h=>g3 (hxy.1 h).2.2.2
  rw[if_neg (by simpa using g0),if_pos (by simpa using g3),sb,if_pos rfl];simp[this]
 by_cases g1:a.f1.length=b.f1.length
 case neg =>
  have:¬ a=b:=fun h=>g1 (by rw[h])
  rw[if_neg (by simpa using g0),if_neg (by simpa using g3),if_pos (by simp;omega),sb,if_pos rfl];simp[this]
 by_cases g2:a.f2.length=b.f2.length
 case neg =>
  have:¬ a=b:=fun h=>g2 (by rw[h])
  rw[if_neg (by simpa using g0),if_neg (by simpa using g3),if_neg (by simp;omega),sb,if_pos (by simp;omega)];simp[this]
 rw[if_neg (by simpa using g0),if_neg (by simpa using g3),if_neg (by simp;omega),sb,if_neg (by simp;omega),same_l0 a b ha g1 a.f1 b.f1 [] [] 0 rfl rfl rfl rfl,sb]
 by_cases h1:a.f1=b.f1
 ·rw[if_pos h1]
  dsimp only
  rw[same_l1 a b ha.cl g2 a.f2 b.f2 [] [] 0 rfl rfl rfl rfl,sb]
  by_cases h2:a.f2=b.f2
  ·rw[if_pos h2]
   have:a=b:=hxy.2 ⟨g0,h1,h2,g3⟩
   simp[this]
  ·rw[if_neg h2]
   have:¬ a=b:=fun h=>h2 (hxy.1 h).2.2.1
   simp[this]
 ·rw[if_neg h1]
  have:¬ a=b:=fun h=>h1 (hxy.1 h).2.1
  simp[this]
theorem ub_of {c:Z0g} (r:Z7e c):UB c :=
 ⟨r.r1.1,r.r2.1,fun x hx=>let q:=r.r1.2 x hx;⟨q.r0,q.r2.r6.1,q.r2.r7.1,fits_of q.r2⟩,fun x hx=>(r.r2.2 x hx).r0⟩
theorem enc_any15 {c:Zq} (hc:CB c):∃ x e,Z0k.f c=some (x,e)∧((e=6∧x=[]∧Z5e c=false)∨(e=0∧Z5e c=true∧∃ f,Laid x f (entB c))):=by
 cases h:Z5e c with
 | false=>exact⟨_,_,ent_no hc h,.inl ⟨rfl,rfl,rfl⟩⟩
 | true =>
  obtain⟨b,f,e,hL⟩:=ent_eq hc h
  exact⟨_,_,e,.inr ⟨rfl,rfl,f,hL⟩⟩
theorem Zd5 {c:Zq} (hc:CB c) (hR:Z5e c=true) {x:List Int} {f:Nat} (hL:Laid x f (entB c)):Src x∧x.length<90000000∧x.length≠0:=by
 have h1:=entB_len (ek_of hc hR)
 have h2:=hL.len
 have h3:=hL.lt
 have h4:2≤(entB c).length:=by rw[entB,List.length_append,Z41];omega
 exact⟨⟨hL.byte,by omega⟩,by omega,by omega⟩
theorem entryApart_R (a b:Z0g) (more:Int) (ra:Z7e a) (rb:Z7e b) (hm:Rng 0 256 more):Z3t.f a b more=some true:=by
 have ua:=ub_of ra
 have ub:=ub_of rb
 unfold Z3t.f
 rw[light_eq a ua,light_eq b ub]
 by_cases la:Zd4 a≤2000
 case neg=>rw[sb,if_pos (by simp;omega),sb,if_pos rfl,Zcj,sb]
 by_cases lb:Zd4 b≤2000
 case neg=>rw[sb,if_neg (by simp;omega),sb,sb,if_pos (by simp;omega),Zcj,sb]
 have La:=lb_of ua la
 have Lb:=lb_of ub lb
 have Ca:=cb_prog La
 have Cb:=cb_prog Lb
 obtain⟨x,e,E1,h1⟩:=enc_any15 Ca
 obtain⟨y,f,E2,h2⟩:=enc_any15 Cb
 rw[sb,if_neg (by simp;omega),sb,sb,if_neg (by simp;omega),to15 a ua,sb,E1,sb,to15 b ub,sb,E2,sb]
 dsimp only
 rcases h1 with ⟨rfl,rfl,hA⟩ | ⟨rfl,hA,fa,hLa⟩
 ·rw[if_pos (by simp),sb,if_pos rfl,Zcj,sb,if_pos rfl,if_pos (by simp),sb]
 rcases h2 with ⟨rfl,rfl,hB⟩ | ⟨rfl,hB,fb,hLb⟩
 ·rw[if_neg (by simp),if_pos (by simp),sb,if_pos rfl,Zcj,sb,if_pos rfl,if_neg (by simp),sb];rfl
 obtain⟨sa,xl,xn⟩:=Zd5 Ca hA hLa
 obtain⟨sb',yl,_⟩:=Zd5 Cb hB hLb
 have hxn:x≠[]:=fun h=>xn (by rw[h];rfl)
 rw[if_neg (by simp),if_neg (by simp),sb,if_neg (by simp;omega),chkB (by simp;omega),chkB (by simp;omega),Zf (by omega) (by omega)]
 have hs1:Src (([]++x)++[more]):=⟨fun n hn=>by
  rw[List.nil_append] at hn
  rcases List.mem_append.1 hn with hn | hn
  ·exact sa.byte n hn
  ·simp at hn;subst hn;exact hm,by simp;omega⟩
 obtain⟨c1,D1⟩:=(Z9g hs1 Ca hA (List.replicate fa false++Z5i more) (by rw[List.nil_append,Z4z,hLa.bits,show Zz [more]=Z5i more by simp[Zz]];simp)).1 (by simp[Z5h])
 have D0:=(Z9g sa Ca hA _ hLa.bits).2 fa hLa.lt rfl
 obtain⟨p,v,hpv,hcut⟩:=cut_last' hxn
 have hsp:Src p:=⟨fun n hn=>sa.byte n (by rw[hpv];simp[hn]),by have:=congrArg List.length hpv;simp at this;omega⟩
 have D2:∃ l,Z02.f p=some (l,6):=by
  obtain⟨l,e,E,hr⟩:=dec_tot15 hsp
  rcases hr with ⟨rfl,rfl⟩ | ⟨rfl,hc,hR,f,hL⟩
  ·exact⟨_,E⟩
  ·exfalso
   obtain⟨c',this⟩:=(Z9g sa hc hR (List.replicate f false++Z5i v) (by rw[hpv,Z4z,hL.bits,show Zz [v]=Z5i v by simp[Zz]];simp)).1 (by simp[Z5h])
   rw[D0] at this
   simp at this
 obtain⟨l2,D2⟩:=D2
 rw[D1,sb,chkB (by omega),hcut,D2,sb,Zcj,sb,if_pos rfl,same15 a b La,sb,strOf_dec' sa.byte sb'.byte]
 have hiff:decide (x=y)=decide (a=b):=by
  by_cases c:a=b
  ·subst c
   rw[E1] at E2
   have:x=y:=by simpa using E2
   rw[decide_eq_true this,decide_eq_true rfl]
  ·have:¬ x=y:=fun h=>c (by
    subst h
    have D3:=(Z9g sa Cb hB _ hLb.bits).2 fb hLb.lt rfl
    rw[D0] at D3
    have:prog a=prog b:=by simpa using D3
    rw[← doc_prog a,← doc_prog b,this])
   rw[decide_eq_false this,decide_eq_false c]
 rw[hiff,if_pos (by simp),if_pos (by simp),sb]
 simp
end Go.Proofs.YtinhldbfifpakaaGreat.PvGL
