import Derived.Test.YtinhldbfifpakaaGreatPxEntryChanges22
set_option linter.unusedVariables false
set_option linter.unusedSimpArgs false
namespace Go.Proofs.YtinhldbfifpakaaGreat.PvGL1
open Go Go.Pv Go.Pv.GS Go.IntKind
def Zbk (l:List Z22):Prop:=(∀ x∈l,Zd7 x.f0=true∧valB x.f1=true)∧l.Pairwise (fun a b=>nLt a b=true)
theorem Zca:∀ (l:List Z22) (q:ByteArray),Z5w (some q) l=true↔Zbk l∧∀ x∈l,bl q x.f0=true
 | [],q=>by simp[Z5w,Zbk]
 | x::l,q=>by
  have ih:=Zca l x.f0
  rw[Z73]
  simp only[Bool.and_eq_true,ih]
  unfold Zbk
  simp only[List.mem_cons,forall_eq_or_imp,List.pairwise_cons]
  constructor
  ·rintro⟨h1,h2,h3,⟨h4,h5⟩,h6⟩
   exact⟨⟨⟨⟨h1,h2⟩,h4⟩,h6,h5⟩,h3,fun y hy=>bl_trans _ _ _ h3 (h6 y hy)⟩
  ·rintro⟨⟨⟨⟨h1,h2⟩,h4⟩,h6,h5⟩,h3,h7⟩
   exact⟨h1,h2,h3,⟨h4,h5⟩,h6⟩
theorem rising_none (l:List Z22):Z5w none l=true↔Zbk l:=by
 cases l with
 | nil=>simp[Z5w,Zbk]
 | cons x l =>
  rw[Z73]
  simp only[Bool.and_eq_true,Zca]
  unfold Zbk
  simp only[List.mem_cons,forall_eq_or_imp,List.pairwise_cons]
  constructor
  ·rintro⟨h1,h2,_,⟨h4,h5⟩,h6⟩
   exact⟨⟨⟨h1,h2⟩,h4⟩,h6,h5⟩
  ·rintro⟨⟨⟨h1,h2⟩,h4⟩,h6,h5⟩
   exact⟨h1,h2,trivial,⟨h4,h5⟩,h6⟩
theorem Zcy {l:List Z22} (h:chkC l=0):l.length≤16∧Zbk l:=by
 unfold chkC at h
 by_cases q:l.length>16
 ·rw[if_pos q] at h;omega
 ·rw[if_neg q] at h
  by_cases q2:Z5w none l=true
  ·exact⟨by omega,(rising_none l).1 q2⟩
  ·rw[if_neg q2] at h;omega
def word (s:ByteArray):List UInt8:=UInt8.ofNat s.size::L s
def keyL (l:List Z22):List UInt8:=l.flatMap fun x=>word x.f0++word x.f1
def Short (x:Z22):Prop:=x.f0.size≤64∧x.f1.size≤64
theorem keyL_cons (x:Z22) (l:List Z22):keyL (x::l)=word x.f0++(word x.f1++keyL l):=by simp[keyL]
theorem Zbr (s:ByteArray):(word s).length=s.size+1:=by rw[word,List.length_cons,Z5h]
theorem Z9g {l:List Z22} (h:Zbk l):∀ x∈l,Short x:=fun x hx=>by
 have:=h.1 x hx
 simp only[Zd7,valB,Bool.and_eq_true,decide_eq_true_eq] at this
 exact⟨this.1.1.2,this.2.2⟩
end Go.Proofs.YtinhldbfifpakaaGreat.PvGL1
set_option linter.unusedVariables false
set_option linter.unusedSimpArgs false
namespace Go.Proofs.YtinhldbfifpakaaGreat.PvGL1
open Go Go.Pv Go.Pv.GS Go.IntKind
theorem word_inj' {a b:ByteArray} {x y:List UInt8} (ha:a.size<256) (hb:b.size<256) (h:word a++x=word b++y):a=b∧x=y:=by
 have h0:UInt8.ofNat a.size=UInt8.ofNat b.size:=by
  have:=congrArg List.head? h
  simpa[word] using this
 have hs:a.size=b.size:=by
  have:=congrArg UInt8.toNat h0
  rw[UInt8.toNat_ofNat',UInt8.toNat_ofNat',Nat.mod_eq_of_lt (by omega),Nat.mod_eq_of_lt (by omega)] at this
  exact this
 obtain⟨h1,h2⟩:=List.append_inj h (by rw[Zbr,Zbr,hs])
 simp only[word,List.cons.injEq] at h1
 exact⟨ext_L h1.2,h2⟩
def Z5u (ws:List ByteArray):List UInt8:=ws.flatMap word
theorem Z4i (w:ByteArray) (ws:List ByteArray):Z5u (w::ws)=word w++Z5u ws:=by simp[Z5u]
theorem Zah:∀ {a b:List ByteArray},(∀ x∈a,x.size<256)→(∀ x∈b,x.size<256)→Z5u a=Z5u b→a=b
 | [],[],_,_,_=>rfl
 | [],y::b,_,_,h=>by rw[Z4i,word] at h;simp[Z5u] at h
 | x::a,[],_,_,h=>by rw[Z4i,word] at h;simp[Z5u] at h
 | x::a,y::b,ha,hb,h=>by
  rw[Z4i,Z4i] at h
  obtain⟨h1,h2⟩:=word_inj' (ha x (by simp)) (hb y (by simp)) h
  rw[h1,Zah (fun z hz=>ha z (by simp[hz])) (fun z hz=>hb z (by simp[hz])) h2]
def Z6b (l:List Z22):List ByteArray:=l.flatMap fun x=>[x.f0,x.f1]
def Z6j:List ByteArray→List Z22
 | a::b::r=>⟨a,b⟩::Z6j r
 | _=>[]
theorem Zat:∀ l:List Z22,Z6j (Z6b l)=l
 | []=>rfl
 | x::l=>by
  have:Z6b (x::l)=x.f0::x.f1::Z6b l:=by simp[Z6b]
  rw[this,Z6j,Zat l]
theorem Z6u:∀ l:List Z22,keyL l=Z5u (Z6b l)
 | []=>rfl
 | x::l=>by
  have:Z6b (x::l)=x.f0::x.f1::Z6b l:=by simp[Z6b]
  rw[this,Z4i,Z4i,keyL_cons,Z6u l]
theorem Zb1:∀ (ws:List ByteArray),ws.length % 2=0→Z6b (Z6j ws)=ws
 | [],_=>rfl
 | [a],h=>by simp at h
 | a::b::r,h=>by
  have:Z6b (Z6j (a::b::r))=a::b::Z6b (Z6j r):=by simp[Z6b,Z6j]
  rw[this,Zb1 r (by simp at h;omega)]
theorem L_cons_of {s:ByteArray} (h:0<s.size):∃ c r,L s=c::r∧r.length=s.size-1∧bt s 0=(c.toNat:Int):=by
 cases hl:L s with
 | nil=>have:=Z5h s;rw[hl] at this;simp at this;omega
 | cons c r =>
  refine⟨c,r,rfl,?_,bt_L (i:=0) (by rw[hl];rfl)⟩
  have:=Z5h s;rw[hl] at this;simp at this;omega
theorem fromB_l0:∀ (n:Nat) (s:ByteArray) (acc:List ByteArray),s.size≤n→s.size≤2000000→acc.length+s.size≤4000000 →
  (Z16.l0 s acc=some (.inl ([],6))∧∀ ws:List ByteArray,(∀ w∈ws,w.size<256)→L s≠Z5u ws)∨(∃ ws,Z16.l0 s acc=some (.inr (acc++ws))∧(∀ w∈ws,w.size<256)∧L s=Z5u ws∧ws.length≤s.size):=by
 intro n
 induction n with
 | zero =>
  intro s acc hn h5 ha
  rw[Z16.l0,if_neg (by rw[decide_eq_true_eq];omega)]
  have:L s=[]:=List.length_eq_zero_iff.1 (by rw[Z5h];omega)
  exact .inr ⟨[],by simp,by simp,by rw[this];rfl,by simp⟩
 | succ n ih =>
  intro s acc hn h5 ha
  by_cases h0:0<s.size
  case neg =>
   rw[Z16.l0,if_neg (by rw[decide_eq_true_eq];omega)]
   have:L s=[]:=List.length_eq_zero_iff.1 (by rw[Z5h];omega)
   exact .inr ⟨[],by simp,by simp,by rw[this];rfl,by simp⟩
  obtain⟨c,r,hc,hr,hbt⟩:=L_cons_of h0
  have hcl:=c.toNat_lt
  have hword:∀ ws:List ByteArray,(∀ w∈ws,w.size<256)→L s=Z5u ws→∃ w ws',ws=w::ws'∧w.size=c.toNat∧r=L w++Z5u ws':=fun ws hw e=>by
   cases ws with
   | nil=>rw[hc] at e;simp[Z5u] at e
   | cons w ws' =>
    rw[hc,Z4i,word,List.cons_append,List.cons.injEq] at e
    refine⟨w,ws',rfl,?_,e.2⟩
    have:=hw w (by simp)
    rw[e.1,UInt8.toNat_ofNat',Nat.mod_eq_of_lt (by omega)]
  rw[Z16.l0,if_pos (by simp;omega),chkB (by omega),hbt,Zc (n:=(c.toNat:Int)) (by omega) (by omega),Zc (n:=(s.size:Int)-1) (by omega) (by omega)]
  by_cases hle:(c.toNat:Int)>(s.size:Int)-1
  ·rw[if_pos (by simpa using hle)]
   refine .inl ⟨rfl,fun ws hw e => ?_⟩
   obtain⟨w,ws',_,h1,h2⟩:=hword ws hw e
   have:=congrArg List.length h2
   rw[List.length_append,Z5h] at this
   omega
  ·have e1:Int.toNat ((1:Int)+(c.toNat:Int))=1+c.toNat:=by omega
   have l1:L (s.extract (Int.toNat 1) (Int.toNat ((1:Int)+(c.toNat:Int))))=r.take c.toNat:=by
    rw[Zag,e1,hc];simp
   have l2:L (s.extract (Int.toNat ((1:Int)+(c.toNat:Int))) (Int.toNat (s.size:Int)))=r.drop c.toNat:=by
    rw[Zag,e1,hc,Int.toNat_natCast,Nat.add_comm 1 c.toNat,List.drop_succ_cons,List.take_of_length_le (by simp;omega)]
   have s1:(s.extract (Int.toNat 1) (Int.toNat ((1:Int)+(c.toNat:Int)))).size=c.toNat:=by rw[← Z5h,l1,List.length_take];omega
   have s2:(s.extract (Int.toNat ((1:Int)+(c.toNat:Int))) (Int.toNat (s.size:Int))).size=s.size-1-c.toNat:=by rw[← Z5h,l2,List.length_drop];omega
   rw[if_neg (by simpa using hle),Zc (n:=(1:Int)+(c.toNat:Int)) (by omega) (by omega),chkB (by omega),chkB (by simp;omega),chkB (by omega)]
   generalize s.extract (Int.toNat 1) (Int.toNat ((1:Int)+(c.toNat:Int)))=w0 at *
   generalize s.extract (Int.toNat ((1:Int)+(c.toNat:Int))) (Int.toNat (s.size:Int))=rest at *
   rcases ih rest (acc++[w0]) (by omega) (by omega) (by simp;omega) with ⟨g1,g2⟩ | ⟨ws,g1,g2,g3,g4⟩
   ·refine .inl ⟨g1,fun ws hw e => ?_⟩
    obtain⟨w,ws',rfl,h1,h2⟩:=hword ws hw e
    refine g2 ws' (fun z hz=>hw z (by simp[hz])) ?_
    rw[l2,h2,← h1,← Z5h,List.drop_left]
   ·refine .inr ⟨w0::ws,by rw[g1];simp,fun z hz => ?_,?_,by simp;omega⟩
    ·rcases List.mem_cons.1 hz with rfl | hz
     ·omega
     ·exact g2 z hz
    ·rw[Z4i        ,word,← g3,l1,l2,s1,hc]
     have:UInt8.ofNat c.toNat=c:=UInt8.ofNat_toNat
     rw[this,List.cons_append,List.take_append_drop]
theorem fromB_l1 (ws:List ByteArray) (hl:ws.length≤4000000):∀ (m:Nat) (pre suf:List ByteArray) (o:List Z22) (i:Int),suf.length=2*m→ws=pre++suf→i=(pre.length:Int)→o.length≤pre.length→Z16.l1 ws o i=some (o++Z6j suf):=by
 intro m
 induction m with
 | zero =>
  intro pre suf o i hm h1 hi ho
  have:suf=[]:=List.length_eq_zero_iff.1 hm
  subst this
  rw[Z16.l1,if_neg (by rw[h1];simp[hi])];simp[Z6j]
 | succ m ih =>
  intro pre suf o i hm h1 hi ho
  match suf,hm with
  | a::b::suf,hm =>
   have hlen:ws.length=pre.length+(suf.length+2):=by rw[h1];simp
   rw[Z16.l1,if_pos (by simp;omega),Z0a h1 hi,sb,Zc (n:=i+1) (by omega) (by omega),Z0a (pre:=pre++[a]) (suf:=suf) (x:=b) (by rw[h1];simp) (by simp;omega),sb,chkB (by simp;omega),Zc (n:=i+2) (by omega) (by omega)]
   rw[ih (pre++[a,b]) suf _ (i+2) (by simp at hm;omega) (by rw[h1];simp) (by simp;omega) (by simp;omega),Z6j]
   simp
theorem Zdj (s:ByteArray) (hs:s.size≤2000000):∃ x e,Z16.f s=some (x,e)∧((e=0∧chkC x=0∧L s=keyL x)∨(e=6∧x=[]∧∀ x',chkC x'=0→L s≠keyL x')):=by
 unfold Z16.f
 have flat256:∀ x',chkC x'=0→∀ w∈Z6b x',w.size<256:=fun x' h w hw=>by
  obtain⟨z,hz,hw⟩:=List.mem_flatMap.1 hw
  have:=Z9g (Zcy h).2 z hz
  simp at hw
  rcases hw with rfl | rfl
  ·have:=this.1;omega
  ·have:=this.2;omega
 rcases fromB_l0 s.size s [] (Nat.le_refl _) hs (by simp;omega) with ⟨g1,g2⟩ | ⟨ws,g1,g2,g3,g4⟩
 ·rw[g1,sb]
  exact⟨[],6,rfl,.inr ⟨rfl,rfl,fun x' h e=>g2 (Z6b x') (flat256 x' h) (by rw[e,Z6u])⟩⟩
 ·rw[g1,sb,List.nil_append]
  dsimp only
  have ht:Int.tmod (ws.length:Int) 2=((ws.length % 2:Nat):Int):=by rw[Int.tmod_eq_emod_of_nonneg (by omega)];omega
  have huniq:∀ x',chkC x'=0→L s=keyL x'→ws=Z6b x':=fun x' h e=>Zah g2 (flat256 x' h) (by rw[← g3,e,Z6u])
  have heven:∀ x':List Z22,(Z6b x').length % 2=0:=fun x'=>by
   induction x' with
   | nil=>rfl
   | cons z x' ih =>
    have:Z6b (z::x')=z.f0::z.f1::Z6b x':=by simp[Z6b]
    rw[this];simp;omega
  rw[ht]
  by_cases hodd:ws.length % 2=1
  ·rw[if_pos (by simp;omega)]
   refine⟨[],6,rfl,.inr ⟨rfl,rfl,fun x' h e => ?_⟩⟩
   have:=huniq x' h e
   have h2:=heven x'
   rw[← this] at h2;omega
  ·rw[if_neg (by simp;omega),fromB_l1 ws (by omega) (ws.length / 2) [] ws [] 0 (by omega) rfl rfl (by simp),sb,List.nil_append,lcheck,sb]
   by_cases hc:chkC (Z6j ws)=0
   ·rw[if_neg (by simpa using hc)]
    exact⟨_,0,rfl,.inl ⟨rfl,hc,by rw[g3,Z6u,Zb1 ws (by omega)]⟩⟩
   ·rw[if_pos (by simpa using hc)]
    refine⟨[],6,rfl,.inr ⟨rfl,rfl,fun x' h e => ?_⟩⟩
    have:=huniq x' h e
    rw[this,Zat] at hc
    exact hc h
end Go.Proofs.YtinhldbfifpakaaGreat.PvGL1
set_option linter.unusedVariables false
set_option linter.unusedSimpArgs false
set_option maxRecDepth 10000
namespace Go.Proofs.YtinhldbfifpakaaGreat.PvGL1
open Go Go.Pv Go.Pv.GS Go.IntKind
def keyB (s:ByteArray):Bool:=match Z16.f s with
 | some (_,e)=>e==0
 | none=>false
theorem key_eq (s:ByteArray) (hs:s.size≤2000000):Z3h.f s=some (keyB s):=by
 unfold Z3h.f keyB
 obtain⟨x,e,h,_⟩:=Zdj s hs
 rw[h,sb]
theorem keyL_len:∀ (l:List Z22),(∀ x∈l,Short x)→(keyL l).length≤130*l.length:=by
 intro l
 induction l with
 | nil=>intro _;simp[keyL]
 | cons x l ih =>
  intro h
  have hx:=h x (by simp)
  have:=hx.1
  have:=hx.2
  have:=ih (fun y hy=>h y (by simp[hy]))
  rw[keyL_cons,List.length_append,List.length_append,Zbr,Zbr,List.length_cons]
  omega
theorem key_iff (s:ByteArray) (hs:s.size≤2000000):keyB s=true↔∃ x,chkC x=0∧L s=keyL x:=by
 unfold keyB
 obtain⟨x,e,h,h2⟩:=Zdj s hs
 rw[h]
 dsimp only
 rcases h2 with ⟨rfl,h3,h4⟩ | ⟨rfl,_,h3⟩
 ·simp;exact⟨x,h3,h4⟩
 ·simp;exact h3
theorem key_short {s:ByteArray} (hs:s.size≤2000000) (h:keyB s=true):s.size≤2080:=by
 obtain⟨x,h1,h2⟩:=(key_iff s hs).1 h
 have h3:=Zcy h1
 have:=keyL_len x (Z9g h3.2)
 have h4:=h3.1
 rw[← Z5h,h2];omega
noncomputable def itmOK (x:Z08):Bool:=keyB x.f0&&sok ⟨x.f1,x.f2⟩
def Zc9 (r:Z8):Bool:=decide (Z5l r)
def cutsB:Option ByteArray→List Z0v→Bool
 | _,[]=>true
 | p,x::l=>keyB x.f0&&(Zc9 x.f1&&((match p with | none=>true | some q=>bl q x.f0)&&cutsB (some x.f0) l))
theorem Zb2 (p:Option ByteArray) (x:Z0v) (l:List Z0v):cutsB p (x::l)=(keyB x.f0&&(Zc9 x.f1&&((match p with | none=>true | some q=>bl q x.f0)&&cutsB (some x.f0) l))):=rfl
def lastC (pre:List Z0v):Option ByteArray:=pre.getLast?.map (·.f0)
noncomputable def Z7d (c:Zi):Bool :=
 if c.f0=1 then c.f1.all itmOK&&decide (0<c.f1.length∧c.f1.length≤64∧c.f2.length=0∧c.f3=0)
 else if c.f0=2 then cutsB none c.f2&&decide (c.f2.length≤64∧c.f1.length=0∧c.f3=0)
 else if c.f0=3 then decide (0≤c.f3∧c.f3≤1099511627776∧c.f1.length+c.f2.length=0)
 else false
structure CB (c:Zi):Prop where
 il:c.f1.length<1000000000000
 cl:c.f2.length<1000000000000
 ii:∀ x∈c.f1,x.f0.size≤2000000∧Fits x.f2
 ci:∀ x∈c.f2,x.f0.size≤2000000
theorem rise_one (s:Za):rise none [s]=sok s:=by simp[rise,good,aft]
theorem tright (r:Z8):Z31.f r=some (Zc9 r):=by
 unfold Z31.f Zc9
 by_cases h1:0≤r.f0
 ·by_cases h2:r.f0≤r.f1
  ·rw[if_pos (by simpa using h1),if_pos (by simpa using h2),sb];congr 1;simp[Z5l,h1,h2]
  ·rw[if_pos (by simpa using h1),if_neg (by simpa using h2),sb];congr 1;simp[Z5l,h1,h2]
 ·rw[if_neg (by simpa using h1),sb];congr 1;simp[Z5l,h1]
theorem eright_l0 (c:Zi) (hc:CB c):∀ (suf pre:List Z08) (i:Int),c.f1=pre++suf→i=(pre.length:Int)→Z0m.l0 c i=some (if suf.all itmOK=true then .inr () else .inl false):=by
 have hil:=hc.il
 intro suf
 induction suf with
 | nil=>intro pre i h1 hi;rw[Z0m.l0,if_neg (by rw[h1];simp[hi])];rfl
 | cons x suf ih =>
  intro pre i h1 hi
  have hlen:c.f1.length=pre.length+(suf.length+1):=by rw[h1];simp
  obtain⟨hk,hf⟩:=hc.ii x (by rw[h1];simp)
  rw[Z0m.l0,if_pos (by simp;omega),Z0a h1 hi,sb,key_eq _ hk,sb,ris_eq _ (by simp) (by intro y hy;simp at hy;subst hy;exact hf),sb,rise_one,Zc (n:=i+1) (by omega) (by omega),ih (pre++[x]) (i+1) (by simp[h1]) (by simp;omega),List.all_cons,itmOK]
  cases keyB x.f0
  ·simp[sb]
  cases sok ⟨x.f1,x.f2⟩<;>simp
theorem eright_l1 (c:Zi) (hc:CB c):∀ (suf pre:List Z0v) (i:Int),c.f2=pre++suf→i=(pre.length:Int)→Z0m.l1 c i=some (if cutsB (lastC pre) suf=true then .inr () else .inl false):=by
 have hcl:=hc.cl
 intro suf
 induction suf with
 | nil=>intro pre i h1 hi;rw[Z0m.l1,if_neg (by rw[h1];simp[hi])];rfl
 | cons x suf ih =>
  intro pre i h1 hi
  have hlen:c.f2.length=pre.length+(suf.length+1):=by rw[h1];simp
  have hk:=hc.ci x (by rw[h1];simp)
  rw[Z0m.l1,if_pos (by simp;omega),Z0a h1 hi,sb,key_eq _ hk,sb,tright,sb,Zc (n:=i+1) (by omega) (by omega)]
  have hnext:=ih (pre++[x]) (i+1) (by simp[h1]) (by simp;omega)
  rw[hnext,show lastC (pre++[x])=some x.f0 by simp[lastC],Zb2]
  cases keyB x.f0
  ·simp[sb]
  cases Zc9 x.f1
  ·simp[sb]
  rcases List.eq_nil_or_concat pre with rfl | ⟨p',p,rfl⟩
  ·simp only[Bool.not_true,Bool.false_eq_true,if_false,Bool.true_and]
   rw[if_neg (by simp at hi ⊢;omega),sb,if_neg (by simp)]
   simp[lastC]
  ·simp only[Bool.not_true,Bool.false_eq_true,if_false,Bool.true_and]
   simp only[List.concat_eq_append,List.length_append,List.length_singleton] at hi hlen ⊢
   rw[if_pos (by simp;omega),Zc (n:=i-1) (by omega) (by omega),Z0a (pre:=p') (suf:=x::suf) (x:=p) (by rw[h1];simp) (by omega),sb,sb,show lastC (p'++[p])=some p.f0 by simp[lastC]]
   cases h:bl p.f0 x.f0<;>simp[h]
theorem Z9w (c:Zi) (hc:CB c):Z0m.f c=some (Z7d c):=by
 have hil:=hc.il
 have hcl:=hc.cl
 unfold Z0m.f Z7d
 by_cases k1:c.f0=1
 ·rw[if_pos (by simpa using k1),if_pos k1,eright_l0 c hc c.f1 [] 0 rfl rfl,sb]
  cases c.f1.all itmOK
  ·simp
  simp only[if_true,Bool.true_and]
  by_cases h1:0<c.f1.length
  ·by_cases h2:c.f1.length≤64
   ·by_cases h3:c.f2.length=0
    ·rw[if_pos (by simp;omega),if_pos (by simp;omega),if_pos (by simp[h3]),sb];congr 1;simp[h1,h2,h3];rfl
    ·rw[if_pos (by simp;omega),if_pos (by simp;omega),if_neg (by simp;simpa using h3),sb];congr 1;simp[h3]
   ·rw[if_pos (by simp;omega),if_neg (by simp;omega),sb];congr 1;simp[h2]
  ·rw[if_neg (by rw[decide_eq_true_eq];omega),sb];congr 1;simp[h1]
 rw[if_neg (by simpa using k1),if_neg k1]
 by_cases k2:c.f0=2
 ·rw[if_pos (by simpa using k2),if_pos k2,eright_l1 c hc c.f2 [] 0 rfl rfl,sb,show lastC []=none from rfl]
  cases cutsB none c.f2
  ·simp
  simp only[if_true,Bool.true_and]
  by_cases h2:c.f2.length≤64
  ·have h2':((c.f2.length:Int)≤64):=by omega
   by_cases h3:c.f1.length=0
   ·rw[if_pos (by simpa using h2'),if_pos (by simp[h3]),sb];congr 1;simp[h2,h3];rfl
   ·rw[if_pos (by simpa using h2'),if_neg (by simp;simpa using h3),sb];congr 1;simp[h3]
  ·rw[if_neg (by rw[decide_eq_true_eq];omega),sb];congr 1;simp[h2]
 rw[if_neg (by simpa using k2),if_neg k2]
 by_cases k3:c.f0=3
 ·rw[if_pos (by simpa using k3),if_pos k3,Zc     (by omega) (by omega)]
  by_cases h1:0≤c.f3
  ·by_cases h2:c.f3≤1099511627776
   ·rw[if_pos (by simpa using h1),if_pos (by simpa using h2),sb];congr 1
    rw[Bool.eq_iff_iff,beq_iff_eq,decide_eq_true_eq];omega
   ·rw[if_pos (by simpa using h1),if_neg (by simpa using h2),sb];congr 1;simp[h2]
  ·rw[if_neg (by simpa using h1),sb];congr 1;simp[h1]
 ·rw[if_neg (by simpa using k3),if_neg k3]
end Go.Proofs.YtinhldbfifpakaaGreat.PvGL1
set_option linter.unusedVariables false
set_option linter.unusedSimpArgs false
set_option maxRecDepth 10000
namespace Go.Proofs.YtinhldbfifpakaaGreat.PvGL1
open Go Go.Pv Go.Pv.GS Go.IntKind
noncomputable def itmB (x:Z08):List Bool:=Z5n x.f0++smpB ⟨x.f1,x.f2⟩
noncomputable def Z4b (x:Z0v):List Bool:=Z5n x.f0++(cnt2 1++layB 0 [x.f1])
noncomputable def entB (c:Zi):List Bool:=nb c.f0.toNat 2++(if c.f0=1 then cnt2 c.f1.length++c.f1.flatMap itmB else if c.f0=2 then cnt2 c.f2.length++c.f2.flatMap Z4b else cnt2 c.f3.toNat)
structure IK (x:Z08):Prop where
 key:x.f0.size≤2080
 ok:SOk ⟨x.f1,x.f2⟩
structure CK (x:Z0v):Prop where
 key:x.f0.size≤2080
 ok:Z5l x.f1
inductive EK (c:Zi):Prop
 | batch (k:c.f0=1) (l:c.f1.length≤64) (h:∀ x∈c.f1,IK x) (n:c.f2=[]) (m:c.f3=0)
 | cuts (k:c.f0=2) (l:c.f2.length≤64) (h:∀ x∈c.f2,CK x) (n:c.f1=[]) (m:c.f3=0)
 | mark (k:c.f0=3) (l:0≤c.f3∧c.f3≤1099511627776) (n:c.f1=[]∧c.f2=[])
theorem cutsB_mem:∀ (l:List Z0v) (p:Option ByteArray),cutsB p l=true→∀ x∈l,keyB x.f0=true∧Zc9 x.f1=true:=by
 intro l
 induction l with
 | nil=>simp
 | cons y l ih =>
  intro p h x hx
  rw[Zb2] at h
  simp only[Bool.and_eq_true] at h
  rcases List.mem_cons.1 hx with rfl | hx
  ·exact⟨h.1,h.2.1⟩
  ·exact ih _ h.2.2.2 x hx
theorem ek_of {c:Zi} (hc:CB c) (h:Z7d c=true):EK c:=by
 unfold Z7d at h
 split at h
 ·rename_i k
  simp only[Bool.and_eq_true,decide_eq_true_eq] at h
  refine .batch k h.2.2.1 (fun x hx => ?_) (List.length_eq_zero_iff.1 h.2.2.2.1) h.2.2.2.2
  have:=List.all_eq_true.1 h.1 x hx
  unfold itmOK at this
  rw[Bool.and_eq_true] at this
  have hb:=hc.ii x hx
  exact⟨key_short hb.1 this.1,sok_inv hb.2 this.2⟩
 split at h
 ·rename_i k
  simp only[Bool.and_eq_true,decide_eq_true_eq] at h
  refine .cuts k h.2.1 (fun x hx => ?_) (List.length_eq_zero_iff.1 h.2.2.1) h.2.2.2
  have:=cutsB_mem _ _ h.1 x hx
  exact⟨key_short (hc.ci x hx) this.1,of_decide_eq_true this.2⟩
 split at h
 ·rename_i k
  rw[decide_eq_true_eq] at h
  exact .mark k ⟨h.1,h.2.1⟩ ⟨List.length_eq_zero_iff.1 (by omega),List.length_eq_zero_iff.1 (by omega)⟩
 ·exact absurd h (by simp)
theorem Z68 (t:ByteArray):(Z5n t).length≤71+8*t.size:=by
 have:=Z14 t.size
 rw[Z5n,List.length_append,by8_len,Z52];omega
theorem smpB_len {s:Za} (h:SOk s):(smpB s).length≤3200142:=by
 obtain⟨c1,c2,⟨g,hL⟩,c3,_⟩:=Z9z h
 have hsz:(Z6k (encX [s])).size=(encX [s]).length:=by rw[← Z52,Z6f (Z7h hL)]
 have:=Z68 (Z6k (encX [s]))
 have:=Z14 1
 rw[smpB,List.length_append];omega
theorem itmB_len {x:Z08} (h:IK x):(itmB x).length≤3300000:=by
 have:=Z68 x.f0
 have:=smpB_len h.ok
 have:=h.key
 rw[itmB,List.length_append];omega
theorem Z9l {x:Z0v} (h:CK x):(Z4b x).length≤17000:=by
 have:=Z68 x.f0
 have:=layB_len [x.f1] 0
 have:=Z14 1
 have:=h.key
 rw[Z4b,List.length_append,List.length_append];simp only[List.length_cons,List.length_nil] at *;omega
theorem flat_le {α:Type} (f:α→List Bool) (k:Nat):∀ (l:List α),(∀ x∈l,(f x).length≤k)→(l.flatMap f).length≤k*l.length:=by
 intro l
 induction l with
 | nil=>simp
 | cons x l ih =>
  intro h
  have:=h x (by simp)
  have:=ih (fun y hy=>h y (by simp[hy]))
  rw[List.flatMap_cons,List.length_append,List.length_cons,Nat.mul_add];omega
theorem entB_len {c:Zi} (h:EK c):(entB c).length≤300000000:=by
 unfold entB
 rw[List.length_append,Z2x]
 rcases h with ⟨k,l,h,_,_⟩ | ⟨k,l,h,_,_⟩ | ⟨k,l,_⟩
 ·rw[if_pos k,List.length_append]
  have:=Z14 c.f1.length
  have:=flat_le itmB 3300000 c.f1 (fun x hx=>itmB_len (h x hx))
  omega
 ·rw[if_neg (by omega),if_pos k,List.length_append]
  have:=Z14 c.f2.length
  have:=flat_le Z4b 17000 c.f2 (fun x hx=>Z9l (h x hx))
  omega
 ·rw[if_neg (by omega),if_neg (by omega)]
  have:=Z14 c.f3.toNat
  omega
theorem ent_l0 (c:Zi) (hl:c.f1.length≤64):∀ (suf pre:List Z08) (b:List Int) (f:Nat) (s:List Bool) (i:Int),c.f1=pre++suf→i=(pre.length:Int)→(∀ x∈suf,IK x)→s.length+3300000*suf.length<400000000→Laid b f s →
  ∃ (b':List Int) (f':Nat),Z0c.l0 c b (f:Int) i=some (b',(f':Int))∧Laid b' f' (s++suf.flatMap itmB):=by
 intro suf
 induction suf with
 | nil =>
  intro pre b f s i h1 hi _ _ hL
  rw[Z0c.l0,if_neg (by rw[h1];simp[hi])]
  exact⟨b,f,rfl,by simpa using hL⟩
 | cons x suf ih =>
  intro pre b f s i h1 hi hx hs hL
  have hlen:c.f1.length=pre.length+(suf.length+1):=by rw[h1];simp
  have hk:=hx x (by simp)
  have k1:=hk.key
  have k2:=Z68 x.f0
  have k3:=itmB_len hk
  simp only[List.length_cons] at hs
  rw[Z0c.l0,if_pos (by simp;omega),Z0a h1 hi,sb]
  obtain⟨b1,f1,e1,h1'⟩:=text_eq hL x.f0 (by omega) (by omega)
  rw[e1,sb]
  dsimp only
  obtain⟨b2,f2,e2,h2'⟩:=samples1 h1' hk.ok (by rw[List.length_append];omega)
  rw[e2,sb,Zc (n:=i+1) (by omega) (by omega)]
  dsimp only
  rw[List.append_assoc] at h2'
  obtain⟨b3,f3,e3,h3'⟩:=ih (pre++[x]) b2 f2 _ (i+1) (by simp[h1]) (by simp;omega) (fun y hy=>hx y (by simp[hy])) (by
   have:s++(Z5n x.f0++smpB ⟨x.f1,x.f2⟩)=s++itmB x:=rfl
   rw[this,List.length_append];omega) h2'
  refine⟨b3,f3,e3,?_⟩
  rw[List.flatMap_cons,← List.append_assoc]
  exact h3'
theorem ent_l1 (c:Zi) (hl:c.f2.length≤64):∀ (suf pre:List Z0v) (b:List Int) (f:Nat) (s:List Bool) (i:Int),c.f2=pre++suf→i=(pre.length:Int)→(∀ x∈suf,CK x)→s.length+17000*suf.length<400000000→Laid b f s →
  ∃ (b':List Int) (f':Nat),Z0c.l1 c b (f:Int) i=some (b',(f':Int))∧Laid b' f' (s++suf.flatMap Z4b):=by
 intro suf
 induction suf with
 | nil =>
  intro pre b f s i h1 hi _ _ hL
  rw[Z0c.l1,if_neg (by rw[h1];simp[hi])]
  exact⟨b,f,rfl,by simpa using hL⟩
 | cons x suf ih =>
  intro pre b f s i h1 hi hx hs hL
  have hlen:c.f2.length=pre.length+(suf.length+1):=by rw[h1];simp
  have hk:=hx x (by simp)
  have k1:=hk.key
  have k2:=Z68 x.f0
  have k3:=Z9l hk
  simp only[List.length_cons] at hs
  rw[Z0c.l1,if_pos (by simp;omega),Z0a h1 hi,sb]
  obtain⟨b1,f1,e1,h1'⟩:=text_eq hL x.f0 (by omega) (by omega)
  rw[e1,sb]
  dsimp only
  rw[of_one hk.ok,sb]
  obtain⟨b2,f2,e2,h2'⟩:=lay9_eq h1' (by rw[List.length_append];omega) [x.f1] (by simp) (apart_one hk.ok)
  rw[e2,sb,Zc (n:=i+1) (by omega) (by omega)]
  dsimp only
  rw[List.append_assoc] at h2'
  obtain⟨b3,f3,e3,h3'⟩:=ih (pre++[x]) b2 f2 _ (i+1) (by simp[h1]) (by simp;omega) (fun y hy=>hx y (by simp[hy])) (by
   have:s++(Z5n x.f0++(cnt2 [x.f1].length++layB 0 [x.f1]))=s++Z4b x:=rfl
   rw[this,List.length_append];omega) h2'
  refine⟨b3,f3,e3,?_⟩
  rw[List.flatMap_cons,← List.append_assoc]
  exact h3'
theorem put030 (f n k:Int):Z1p.f f n k=Zy.f [] f n k:=by kernel_rfl
theorem bytes_ok {b:List Int} {f:Int} (h:b.length<100000000):Z13.f b f=some b:=by
 unfold Z13.f Z2u.f
 rw[chkB (by simp;omega),sb]
theorem ent_eq {c:Zi} (hc:CB c) (h:Z7d c=true):∃ (b:List Int) (f:Nat),Z0c.f c=some (b,0)∧Laid b f (entB c):=by
 have hk:=ek_of hc h
 have hl:=entB_len hk
 unfold Z0c.f
 rw[Z9w c hc,sb,h,if_neg (by simp),put030]
 have fin:∀ (b:List Int) (f:Nat),Laid b f (entB c)→Z13.f b (f:Int)=some b:=fun b f hL=>by
  have:=hL.len
  have:=hL.lt
  exact bytes_ok (by omega)
 have put:∀ n:Int,0≤n→n<4→∃ (b:List Int) (f:Nat),Zy.f [] 0 (u64.wrap n) 2=some (b,(f:Int))∧Laid b f (nb n.toNat 2):=fun n h0 h1=>by
  rw[Z3f h0 (by omega)]
  obtain⟨b,f,e,h⟩:=wput Laid.nil (by simp) (n:=n) h0 (by omega) (k:=2) (by omega)
  exact⟨b,f,e,by simpa using h⟩
 rcases hk with ⟨k,l,hx,n0,m0⟩ | ⟨k,l,hx,n0,m0⟩ | ⟨k,l,n0⟩
 ·obtain⟨b1,f1,e1,h1⟩:=put c.f0 (by omega) (by omega)
  rw[e1,sb,if_pos (by simpa using k),Z3f (by omega) (by omega)]
  obtain⟨b2,f2,e2,h2⟩:=Z67 h1 (by rw[Z2x];omega) (n:=(c.f1.length:Int)) (by omega) (by omega)
  rw[e2,sb]
  dsimp only
  rw[Int.toNat_natCast] at h2
  have:=Z14 c.f1.length
  obtain⟨b3,f3,e3,h3⟩:=ent_l0 c l c.f1 [] b2 f2 _ 0 rfl rfl hx (by rw[List.length_append,Z2x];omega) h2
  have h4:Laid b3 f3 (entB c):=by rw[entB,if_pos k,← List.append_assoc];exact h3
  rw[e3,sb]
  dsimp only
  rw[sb]
  dsimp only
  rw[fin b3 f3 h4,sb]
  exact⟨b3,f3,rfl,h4⟩
 ·obtain⟨b1,f1,e1,h1⟩:=put c.f0 (by omega) (by omega)
  rw[e1,sb,if_neg (by simp;omega),if_pos (by simpa using k),Z3f (by omega) (by omega)]
  obtain⟨b2,f2,e2,h2⟩:=Z67 h1 (by rw[Z2x];omega) (n:=(c.f2.length:Int)) (by omega) (by omega)
  rw[e2,sb]
  dsimp only
  rw[Int.toNat_natCast] at h2
  have:=Z14 c.f2.length
  obtain⟨b3,f3,e3,h3⟩:=ent_l1 c l c.f2 [] b2 f2 _ 0 rfl rfl hx (by rw[List.length_append,Z2x];omega) h2
  have h4:Laid b3 f3 (entB c):=by rw[entB,if_neg (by omega),if_pos k,← List.append_assoc];exact h3
  rw[e3,sb]
  dsimp only
  rw[sb]
  dsimp only
  rw[sb]
  dsimp only
  rw[fin b3 f3 h4,sb]
  exact⟨b3,f3,rfl,h4⟩
 ·obtain⟨b1,f1,e1,h1⟩:=put c.f0 (by omega) (by omega)
  rw[e1,sb,if_neg (by simp;omega),if_neg (by simp;omega),Z3f (by omega) (by omega)]
  obtain⟨b2,f2,e2,h2⟩:=Z67 h1 (by rw[Z2x];omega) (n:=c.f3) (by omega) (by omega)
  have h4:Laid b2 f2 (entB c):=by rw[entB,if_neg (by omega),if_neg (by omega)];exact h2
  rw[e2,sb]
  dsimp only
  rw[sb]
  dsimp only
  rw[sb]
  dsimp only
  rw[fin b2 f2 h4,sb]
  exact⟨b2,f2,rfl,h4⟩
theorem ent_no {c:Zi} (hc:CB c) (h:Z7d c=false):Z0c.f c=some ([],6):=by
 unfold Z0c.f
 rw[Z9w c hc,sb,h,if_pos (by simp)]
variable {b:List Int}
theorem dec_l0 (hb:Src b) (c:Zi) (hl:c.f1.length≤64) (t1 t2:Int×Int×Int) (ht:t2.1=(c.f1.length:Int)) (z:List Bool):∀ (suf pre:List Z08) (a:Nat) (i:Int),c.f1=pre++suf→i=(pre.length:Int)→(∀ x∈suf,IK x)→a≤8*b.length→(Z06 b).drop a=suf.flatMap itmB++z →
  Z0o.l0 b t1 t2 (a:Int) 0 pre true i=some (((a+(suf.flatMap itmB).length:Nat):Int),0,c.f1,true):=by
 intro suf
 induction suf with
 | nil =>
  intro pre a i h1 hi _ _ _
  rw[Z0o.l0,if_neg (by rw[ht,h1];simp[hi]),sb,if_neg (by simp),h1]
  simp
 | cons x suf ih =>
  intro pre a i h1 hi hx ha hd
  have hlen:c.f1.length=pre.length+(suf.length+1):=by rw[h1];simp
  have hk:=hx x (by simp)
  have k1:=hk.key
  rw[List.flatMap_cons,List.append_assoc] at hd
  have hd1:(Z06 b).drop a=Z5n x.f0++(smpB ⟨x.f1,x.f2⟩++(suf.flatMap itmB++z)):=by rw[hd,itmB,List.append_assoc]
  have l1:=congrArg List.length hd1
  simp only[List.length_drop,Z0u,List.length_append] at l1
  have hd2:(Z06 b).drop (a+(Z5n x.f0).length)=smpB ⟨x.f1,x.f2⟩++(suf.flatMap itmB++z):=by rw[← List.drop_drop,hd1,List.drop_left' rfl]
  have hd3:(Z06 b).drop (a+(Z5n x.f0).length+(smpB ⟨x.f1,x.f2⟩).length)=suf.flatMap itmB++z:=by rw[← List.drop_drop,hd2,List.drop_left' rfl]
  rw[Z0o.l0,if_pos (by rw[ht];simp;omega),if_pos rfl,err_ok,sb,sb,if_pos (by simp),Zc3 hb (by omega) ha hd1,sb]
  dsimp only
  rw[sampled_fwd hb hk.ok (by omega) hd2,sb]
  dsimp only
  rw[if_pos rfl,sb,if_pos (by simp)]
  have e1:at? [(⟨x.f1,x.f2⟩:Za)] 0=some ⟨x.f1,x.f2⟩:=rfl
  rw[e1,sb]
  dsimp only
  rw[chkB (by simp;omega),sb,Zc (n:=i+1) (by omega) (by omega)]
  have:=ih (pre++[x]) (a+(Z5n x.f0).length+(smpB ⟨x.f1,x.f2⟩).length) (i+1) (by simp[h1]) (by simp;omega) (fun y hy=>hx y (by simp[hy])) (by omega) hd3
  have hb1:(([(⟨x.f1,x.f2⟩:Za)].length:Int)==1)=true:=by simp
  rw[hb1]
  have e2:a+((x::suf).flatMap itmB).length=a+(Z5n x.f0).length+(smpB ⟨x.f1,x.f2⟩).length+(suf.flatMap itmB).length:=by
   rw[List.flatMap_cons,List.length_append,itmB,List.length_append];omega
  rw[show(⟨x.f0,x.f1,x.f2⟩:Z08)=x from rfl,this,e2]
theorem tset_ranges (l:List Z8) (h:l.length<1000):Z30.f ⟨l⟩=some l:=ranges_eq ⟨l⟩ (by show l.length<_;omega)
theorem dec_l1 (hb:Src b) (c:Zi) (hl:c.f2.length≤64) (t1 t2:Int×Int×Int) (ht:t2.1=(c.f2.length:Int)) (z:List Bool):∀ (suf pre:List Z0v) (a:Nat) (i:Int),c.f2=pre++suf→i=(pre.length:Int)→(∀ x∈suf,CK x)→a≤8*b.length→(Z06 b).drop a=suf.flatMap Z4b++z →
  Z0o.l1 b t1 t2 (a:Int) 0 pre true i=some (((a+(suf.flatMap Z4b).length:Nat):Int),0,c.f2,true):=by
 intro suf
 induction suf with
 | nil =>
  intro pre a i h1 hi _ _ _
  rw[Z0o.l1,if_neg (by rw[ht,h1];simp[hi]),sb,if_neg (by simp),h1]
  simp
 | cons x suf ih =>
  intro pre a i h1 hi hx ha hd
  have hlen:c.f2.length=pre.length+(suf.length+1):=by rw[h1];simp
  have hk:=hx x (by simp)
  have k1:=hk.key
  rw[List.flatMap_cons,List.append_assoc] at hd
  have hd1:(Z06 b).drop a=Z5n x.f0++((cnt2 1++layB 0 [x.f1])++(suf.flatMap Z4b++z)):=by rw[hd,Z4b,List.append_assoc]
  have l1:=congrArg List.length hd1
  simp only[List.length_drop,Z0u,List.length_append] at l1
  have hd2:(Z06 b).drop (a+(Z5n x.f0).length)=(cnt2 [x.f1].length++layB 0 [x.f1])++(suf.flatMap Z4b++z):=by rw[← List.drop_drop,hd1,List.drop_left' rfl];rfl
  have hd3:(Z06 b).drop (a+(Z5n x.f0).length+(cnt2 [x.f1].length++layB 0 [x.f1]).length)=suf.flatMap Z4b++z:=by rw[← List.drop_drop,hd2,List.drop_left' rfl]
  have l2:=congrArg List.length hd2
  simp only[List.length_drop,Z0u,List.length_append] at l2
  rw[Z0o.l1,if_pos (by rw[ht];simp;omega),if_pos rfl,err_ok,sb,sb,if_pos (by simp),Zc3 hb (by omega) ha hd1,sb]
  dsimp only
  have ht1:=take_at hb [x.f1] (m:=1) (by omega) (by simp) (apart_one hk.ok) (a:=a+(Z5n x.f0).length) (by omega) _ hd2
  rw[show((1:Nat):Int)=1 from rfl] at ht1
  rw[ht1,sb]
  dsimp only
  rw[tset_ranges _ (by simp),sb,if_pos (by simp)]
  have e1:at? [x.f1] 0=some x.f1:=rfl
  rw[e1,sb]
  rw[chkB (by simp;omega),sb,Zc (n:=i+1) (by omega) (by omega)]
  have:=ih (pre++[x]) (a+(Z5n x.f0).length+(cnt2 [x.f1].length++layB 0 [x.f1]).length) (i+1) (by simp[h1]) (by simp;omega) (fun y hy=>hx y (by simp[hy])) (by rw[List.length_append];omega) hd3
  have hb1:(([x.f1].length:Int)==1)=true:=by simp
  rw[hb1]
  have e2:a+((x::suf).flatMap Z4b).length=a+(Z5n x.f0).length+(cnt2 [x.f1].length++layB 0 [x.f1]).length+(suf.flatMap Z4b).length:=by
   rw[List.flatMap_cons,List.length_append,Z4b,List.length_append,show cnt2 [x.f1].length=cnt2 1 from rfl];omega
  rw[show(⟨x.f0,x.f1⟩:Z0v)=x from rfl,this,e2]
end Go.Proofs.YtinhldbfifpakaaGreat.PvGL1
set_option linter.unusedVariables false
set_option linter.unusedSimpArgs false
set_option maxRecDepth 10000
namespace Go.Proofs.YtinhldbfifpakaaGreat.PvGL1
open Go Go.Pv Go.Pv.GS Go.IntKind
variable {b:List Int}
structure IB (x:Z08):Prop where
 key:x.f0.size≤1048576
 ok:SOk ⟨x.f1,x.f2⟩
structure CBd (x:Z0v):Prop where
 key:x.f0.size≤1048576
 ok:Z5l x.f1
def tailE (b:List Int) (a e:Int) (ok:Bool) (c:Zi):Option (Zi×Int) :=
 ((if(!ok)=true then(some true) else((Zv.f b a e)>>=fun t6521=>if(t6521.1 != (0:Int))=true then(some true) else((Z0m.f c)>>=fun t6524=>some (!t6524)))):Option (Bool))>>=fun x6526=>if x6526=true then(some ((⟨0,[],[],0⟩:Zi),6)) else(some (c,0))
theorem dec_fwd15 (hb:Src b) {c:Zi} (hc:CB c) (hR:Z7d c=true) (z:List Bool) (h:Z06 b=entB c++z) :
  (8≤z.length→∃ c',Z0o.f b=some (c',6))∧(∀ g,g<8→z=List.replicate g false→Z0o.f b=some (c,0)):=by
 have hB:=hb.len
 have hk:=ek_of hc hR
 have hl:=congrArg List.length h
 rw[Z0u,List.length_append] at hl
 have fin:∀ (a:Nat),a=(entB c).length→(8≤z.length→∃ c',tailE b (a:Int) 0 true c=some (c',6))∧(∀ g,g<8→z=List.replicate g false→tailE b (a:Int) 0 true c=some (c,0)):=by
  intro a ha
  have hd:(Z06 b).drop a=z:=by rw[h,ha,List.drop_left' rfl]
  constructor
  ·intro hz
   unfold tailE
   rw[if_neg (by simp),end_long hb (by omega),sb,if_pos (by simp),sb,if_pos rfl]
   exact⟨_,rfl⟩
  ·intro g hg hz
   obtain⟨a',e⟩:=end_ok hb hg (a:=a) (by omega) (by rw[hd,hz])
   unfold tailE
   rw[if_neg (by simp),e,sb,if_neg (by simp),Z9w c hc,sb,hR,sb,if_neg (by simp)]
 have hkind:0≤c.f0∧c.f0<4:=by rcases hk with ⟨k,_⟩ | ⟨k,_⟩ | ⟨k,_⟩<;>omega
 have h0:(Z06 b).drop 0=nb c.f0.toNat 2++((if c.f0=1 then cnt2 c.f1.length++c.f1.flatMap itmB else if c.f0=2 then cnt2 c.f2.length++c.f2.flatMap Z4b else cnt2 c.f3.toNat)++z):=by
  rw[List.drop_zero,h,entB,List.append_assoc]
 have hg:=get_fwd hb (k:=2) (by omega) (Z2x _ _) (by omega) h0
 rw[Zdb,Nat.mod_eq_of_lt (by omega)] at hg
 have h2:(Z06 b).drop 2=(if c.f0=1 then cnt2 c.f1.length++c.f1.flatMap itmB else if c.f0=2 then cnt2 c.f2.length++c.f2.flatMap Z4b else cnt2 c.f3.toNat)++z:=by
  rw[List.drop_zero] at h0
  rw[h0,List.drop_left' (Z2x _ _)]
 have hlen:(entB c).length=2+(if c.f0=1 then cnt2 c.f1.length++c.f1.flatMap itmB else if c.f0=2 then cnt2 c.f2.length++c.f2.flatMap Z4b else cnt2 c.f3.toNat).length:=by
  rw[entB,List.length_append,Z2x]
 unfold Z0o.f Z4z.f
 rw[sb,show Zl.f b 0 0 2=_ from hg,sb]
 dsimp only
 rw[Nat.zero_add,show((c.f0.toNat:Nat):Int)=c.f0 from by omega,Zc (n:=c.f0) (by omega) (by omega)]
 rcases hk with ⟨k,l,hx,n0,m0⟩ | ⟨k,l,hx,n0,m0⟩ | ⟨k,l,n0⟩
 ·rw[if_pos k,List.append_assoc] at h2
  rw[if_pos k,List.length_append] at hlen
  rw[if_pos (by simpa using k),show Z9.f b ((2:Nat):Int) 0 64=_ from Z46 hb l (by omega) (by omega) h2,sb]
  dsimp only
  have h3:(Z06 b).drop (2+(cnt2 c.f1.length).length)=c.f1.flatMap itmB++z:=by rw[← List.drop_drop,h2,List.drop_left' rfl]
  rw[dec_l0 hb c l _ ((c.f1.length:Int),((2+(cnt2 c.f1.length).length:Nat):Int),0) rfl z c.f1 [] (2+(cnt2 c.f1.length).length) 0 rfl rfl hx (by omega) h3,sb]
  have:=fin (2+(cnt2 c.f1.length).length+(c.f1.flatMap itmB).length) (by omega)
  have ec:(⟨c.f0,c.f1,[],0⟩:Zi)=c:=by cases c;simp_all
  rw[← ec] at this ⊢
  exact this
 ·rw[if_neg (by omega),if_pos k,List.append_assoc] at h2
  rw[if_neg (by omega),if_pos k,List.length_append] at hlen
  rw[if_neg (by simp;omega),if_pos (by simpa using k),show Z9.f b ((2:Nat):Int) 0 64=_ from Z46 hb l (by omega) (by omega) h2,sb]
  dsimp only
  have h3:(Z06 b).drop (2+(cnt2 c.f2.length).length)=c.f2.flatMap Z4b++z:=by rw[← List.drop_drop,h2,List.drop_left' rfl]
  rw[dec_l1 hb c l _ ((c.f2.length:Int),((2+(cnt2 c.f2.length).length:Nat):Int),0) rfl z c.f2 [] (2+(cnt2 c.f2.length).length) 0 rfl rfl hx (by omega) h3,sb]
  have:=fin (2+(cnt2 c.f2.length).length+(c.f2.flatMap Z4b).length) (by omega)
  have ec:(⟨c.f0,[],c.f2,0⟩:Zi)=c:=by cases c;simp_all
  rw[← ec] at this ⊢
  exact this
 ·rw[if_neg (by omega),if_neg (by omega)] at h2
  rw[if_neg (by omega),if_neg (by omega)] at hlen
  rw[if_neg (by simp;omega),if_neg (by simp;omega),if_pos (by simpa using k),show Z9.f b ((2:Nat):Int) 0 1099511627776=_ from Z46 hb (n:=c.f3.toNat) (m:=1099511627776) (by omega) (by omega) (by omega) h2,sb]
  dsimp only
  rw[sb,show((c.f3.toNat:Nat):Int)=c.f3 from by omega]
  have:=fin (2+(cnt2 c.f3.toNat).length) (by omega)
  have ec:(⟨c.f0,[],[],c.f3⟩:Zi)=c:=by cases c;simp_all
  rw[← ec] at this ⊢
  exact this
end Go.Proofs.YtinhldbfifpakaaGreat.PvGL1
set_option linter.unusedVariables false
set_option linter.unusedSimpArgs false
set_option maxRecDepth 10000
namespace Go.Proofs.YtinhldbfifpakaaGreat.PvGL1
open Go Go.Pv Go.Pv.GS Go.IntKind
def wI (x:Z08):Nat:=x.f0.size+x.f2.f6.length+x.f2.f7.length
def sumI (l:List Z08):Nat:=(l.map wI).sum
def sumC (l:List Z2p):Nat:=(l.map fun x=>x.f0.size).sum
theorem sum_mem {α:Type} (f:α→Nat):∀ (l:List α) (x:α),x∈l→f x≤(l.map f).sum:=by
 intro l
 induction l with
 | nil=>simp
 | cons y l ih =>
  intro x hx
  rw[List.map_cons,List.sum_cons]
  rcases List.mem_cons.1 hx with rfl | hx
  ·omega
  ·have:=ih x hx;omega
structure UB (c:Zn):Prop where
 il:c.f1.length≤1048576
 cl:c.f2.length≤1048576
 ii:∀ x∈c.f1,x.f0.size≤1048576∧x.f2.f6.length≤1048576∧x.f2.f7.length≤1048576∧Fits x.f2
 ci:∀ x∈c.f2,x.f0.size≤1048576
theorem light_l0 (c:Zn) (hc:UB c):∀ (suf pre:List Z08) (i:Int) (n:Nat),c.f1=pre++suf→i=(pre.length:Int)→n+3145728*suf.length<10000000000000→Z1z.l0 c (n:Int) i=some ((n+sumI suf:Nat):Int):=by
 have hil:=hc.il
 intro suf
 induction suf with
 | nil=>intro pre i n h1 hi hn;rw[Z1z.l0,if_neg (by rw[h1];simp[hi])];rfl
 | cons x suf ih =>
  intro pre i n h1 hi hn
  have hlen:c.f1.length=pre.length+(suf.length+1):=by rw[h1];simp
  obtain⟨k1,k2,k3,_⟩:=hc.ii x (by rw[h1];simp)
  simp only[List.length_cons] at hn
  rw[Z1z.l0,if_pos (by simp;omega),Z0a h1 hi,sb,Zc (n:=(x.f0.size:Int)+(x.f2.f6.length:Int)) (by omega) (by omega),Zc (n:=(x.f0.size:Int)+(x.f2.f6.length:Int)+(x.f2.f7.length:Int)) (by omega) (by omega),Zc (by omega) (by omega),Zc (n:=i+1) (by omega) (by omega)]
  have hw:wI x≤3145728:=by unfold wI;omega
  have e:(n:Int)+((x.f0.size:Int)+(x.f2.f6.length:Int)+(x.f2.f7.length:Int))=((n+wI x:Nat):Int):=by unfold wI;omega
  rw[e,ih (pre++[x]) (i+1) (n+wI x) (by simp[h1]) (by simp;omega) (by omega)]
  congr 2
  simp only[sumI,List.map_cons,List.sum_cons];omega
theorem light_l1 (c:Zn) (hc:UB c):∀ (suf pre:List Z2p) (i:Int) (n:Nat),c.f2=pre++suf→i=(pre.length:Int)→n+1048576*suf.length<20000000000000→Z1z.l1 c (n:Int) i=some ((n+sumC suf:Nat):Int):=by
 have hil:=hc.cl
 intro suf
 induction suf with
 | nil=>intro pre i n h1 hi hn;rw[Z1z.l1,if_neg (by rw[h1];simp[hi])];rfl
 | cons x suf ih =>
  intro pre i n h1 hi hn
  have hlen:c.f2.length=pre.length+(suf.length+1):=by rw[h1];simp
  have k1:=hc.ci x (by rw[h1];simp)
  simp only[List.length_cons] at hn
  rw[Z1z.l1,if_pos (by simp;omega),Z0a h1 hi,sb,Zc (by omega) (by omega),Zc (n:=i+1) (by omega) (by omega)]
  have e:(n:Int)+(x.f0.size:Int)=((n+x.f0.size:Nat):Int):=by omega
  rw[e,ih (pre++[x]) (i+1) (n+x.f0.size) (by simp[h1]) (by simp;omega) (by omega)]
  congr 2
  simp only[sumC,List.map_cons,List.sum_cons];omega
theorem sumI_le {c:Zn} (hc:UB c):∀ (l:List Z08),(∀ x∈l,x∈c.f1)→sumI l≤3145728*l.length:=by
 intro l
 induction l with
 | nil=>intro _;simp[sumI]
 | cons x l ih =>
  intro h
  obtain⟨k1,k2,k3,_⟩:=hc.ii x (h x (by simp))
  have:=ih (fun y hy=>h y (by simp[hy]))
  simp only[sumI,List.map_cons,List.sum_cons,wI,List.length_cons] at this ⊢
  omega
def lightN (c:Zn):Nat:=c.f1.length+c.f2.length+sumI c.f1+sumC c.f2
theorem light_eq (c:Zn) (hc:UB c):Z1z.f c=some (decide (lightN c≤2000)):=by
 have h1:=hc.il
 have h2:=hc.cl
 have h3:=sumI_le hc c.f1 (fun _ h=>h)
 unfold Z1z.f
 rw[Zc (by omega) (by omega),show(c.f1.length:Int)+(c.f2.length:Int)=((c.f1.length+c.f2.length:Nat):Int) from by omega,
  light_l0 c hc c.f1 [] 0 _ rfl rfl (by omega),sb,light_l1 c hc c.f2 [] 0 _ rfl rfl (by omega),sb]
 congr 1
 rw[decide_eq_decide]
 unfold lightN
 omega
structure LB (c:Zn):Prop where
 il:c.f1.length≤2000
 cl:c.f2.length≤2000
 ii:∀ x∈c.f1,x.f0.size≤2000∧x.f2.f6.length≤2000∧x.f2.f7.length≤2000∧Fits x.f2
 ci:∀ x∈c.f2,x.f0.size≤2000
theorem lb_of {c:Zn} (hc:UB c) (h:lightN c≤2000):LB c:=by
 unfold lightN at h
 refine⟨by omega,by omega,fun x hx => ?_,fun x hx => ?_⟩
 ·have:=sum_mem wI c.f1 x hx
  unfold sumI at h
  have hw:wI x≤2000:=by omega
  unfold wI at hw
  exact⟨by omega,by omega,by omega,(hc.ii x hx).2.2.2⟩
 ·have:=sum_mem (fun x:Z2p      => x.f0.size) c.f2 x hx
  unfold sumC at h
  omega
def cOf (x:Z2p):Z0v:=⟨x.f0,x.f1⟩
def cBack (x:Z0v):Z2p:=⟨x.f0,x.f1⟩
def prog (c:Zn):Zi:=⟨c.f0,c.f1,c.f2.map cOf,c.f3⟩
def doc (c:Zi):Zn:=⟨c.f0,c.f1,c.f2.map cBack,c.f3⟩
theorem doc_prog (c:Zn):doc (prog c)=c:=by
 obtain⟨f0,f1,f2,f3⟩:=c
 simp only[doc,prog,List.map_map]
 congr 1
 conv=>rhs;rw[← List.map_id f2]
 exact List.map_congr_left (fun x _=>rfl)
theorem eto_l0 (c:Zn) (hl:c.f1.length≤1048576):∀ (suf pre:List Z08) (i:Int),c.f1=pre++suf→i=(pre.length:Int)→Z36.l0 c pre i=some c.f1:=by
 intro suf
 induction suf with
 | nil=>intro pre i h1 hi;rw[Z36.l0,if_neg (by rw[h1];simp[hi]),h1];simp
 | cons x suf ih =>
  intro pre i h1 hi
  have hlen:c.f1.length=pre.length+(suf.length+1):=by rw[h1];simp
  rw[Z36.l0,if_pos (by simp;omega),Z0a h1 hi,sb,chkB (by simp;omega),Zc (n:=i+1) (by omega) (by omega)]
  exact ih (pre++[x]) (i+1) (by simp[h1]) (by simp;omega)
theorem eto_l1 (c:Zn) (y:List Z08) (hl:c.f2.length≤1048576):∀ (suf pre:List Z2p) (i:Int),c.f2=pre++suf→i=(pre.length:Int)→Z36.l1 c y (pre.map cOf) i=some (c.f2.map cOf):=by
 intro suf
 induction suf with
 | nil=>intro pre i h1 hi;rw[Z36.l1,if_neg (by rw[h1];simp[hi]),h1];simp
 | cons x suf ih =>
  intro pre i h1 hi
  have hlen:c.f2.length=pre.length+(suf.length+1):=by rw[h1];simp
  rw[Z36.l1,if_pos (by simp;omega),Z0a h1 hi,sb,chkB (by simp;omega),Zc (n:=i+1) (by omega) (by omega)]
  have:=ih (pre++[x]) (i+1) (by simp[h1]) (by simp;omega)
  rw[List.map_append] at this
  exact this
theorem to15 (c:Zn) (hc:UB c):Z36.f c=some (prog c):=by
 unfold Z36.f
 rw[eto_l0 c hc.il c.f1 [] 0 rfl rfl,sb,show([]:List Z0v)=([]:List Z2p).map cOf from rfl,eto_l1 c _ hc.cl c.f2 [] 0 rfl rfl,sb]
 rfl
theorem cb_prog {c:Zn} (hc:LB c):CB (prog c):=by
 refine⟨by have:=hc.il;show c.f1.length<_;omega,by have:=hc.cl;show(c.f2.map cOf).length<_;rw[List.length_map];omega,fun x hx => ?_,fun x hx => ?_⟩
 ·have:=hc.ii x hx;exact⟨by omega,this.2.2.2⟩
 ·obtain⟨y,hy,rfl⟩:=List.mem_map.1 hx
  have:=hc.ci y hy;show y.f0.size≤_;omega
theorem same_l0 (a b:Zn) (ha:LB a) (hl:a.f1.length=b.f1.length):∀ (sa sb' pa pb:List Z08) (i:Int),a.f1=pa++sa→b.f1=pb++sb'→pa.length=pb.length→i=(pa.length:Int)→Z28.l0 a b i=some (if sa=sb' then .inr () else .inl false):=by
 have hil:=ha.il
 intro sa
 induction sa with
 | nil =>
  intro sb' pa pb i h1 h2 hp hi
  have e1:=congrArg List.length h1
  have e2:=congrArg List.length h2
  simp only[List.length_append,List.length_nil] at e1 e2
  have:sb'=[]:=List.length_eq_zero_iff.1 (by omega)
  subst this
  rw[Z28.l0,if_neg (by simp;omega)];simp
 | cons x sa ih =>
  intro sb' pa pb i h1 h2 hp hi
  have e1:=congrArg List.length h1
  have e2:=congrArg List.length h2
  simp only[List.length_append,List.length_cons] at e1 e2
  cases sb' with
  | nil=>simp at e2;omega
  | cons y sb' =>
   simp only[List.length_cons] at e2
   obtain⟨k1,k2,k3,_⟩:=ha.ii x (by rw[h1];simp)
   rw[Z28.l0,if_pos (by simp;omega),Z0a h1 hi,sb,Z0a h2 (by omega),sb,eqB,rSame_eq x.f2 y.f2 (by omega) (by omega),sb,Zc (n:=i+1) (by omega) (by omega),ih sb' (pa++[x]) (pb++[y]) (i+1) (by simp[h1]) (by simp[h2]) (by simp;omega) (by simp;omega)]
   have hxy:x=y↔x.f0=y.f0∧x.f1=y.f1∧x.f2=y.f2:=by cases x;cases y;simp
   by_cases g0:x.f0=y.f0
   ·by_cases g1:x.f1=y.f1
    ·by_cases g2:x.f2=y.f2
     ·have:x=y:=hxy.2 ⟨g0,g1,g2⟩
      subst this
      simp[sb]
     ·have:¬ x=y:=fun h=>g2 (hxy.1 h).2.2
      simp[g0,g1,g2,sb,this]
    ·have:¬ x=y:=fun h=>g1 (hxy.1 h).2.1
     simp[g0,g1,sb,this]
   ·have:¬ x=y:=fun h=>g0 (hxy.1 h).1
    simp[g0,sb,this]
theorem same_l1 (a b:Zn) (hcl:a.f2.length≤2000) (hl:a.f2.length=b.f2.length):∀ (sa sb' pa pb:List Z2p) (i:Int),a.f2=pa++sa→b.f2=pb++sb'→pa.length=pb.length→i=(pa.length:Int)→Z28.l1 a b i=some (if sa=sb' then .inr () else .inl false):=by
 intro sa
 induction sa with
 | nil =>
  intro sb' pa pb i h1 h2 hp hi
  have e1:=congrArg List.length h1
  have e2:=congrArg List.length h2
  simp only[List.length_append,List.length_nil] at e1 e2
  have:sb'=[]:=List.length_eq_zero_iff.1 (by omega)
  subst this
  rw[Z28.l1,if_neg (by simp;omega)];simp
 | cons x sa ih =>
  intro sb' pa pb i h1 h2 hp hi
  have e1:=congrArg List.length h1
  have e2:=congrArg List.length h2
  simp only[List.length_append,List.length_cons] at e1 e2
  cases sb' with
  | nil=>simp at e2;omega
  | cons y sb' =>
   simp only[List.length_cons] at e2
   rw[Z28.l1,if_pos (by simp;omega),Z0a h1 hi,sb,Z0a h2 (by omega),sb,eqB,Zc (n:=i+1) (by omega) (by omega),ih sb' (pa++[x]) (pb++[y]) (i+1) (by simp[h1]) (by simp[h2]) (by simp;omega) (by simp;omega)]
   have hxy:x=y↔x.f0=y.f0∧x.f1.f0=y.f1.f0∧x.f1.f1=y.f1.f1:=by
    obtain⟨x0,⟨x1,x2⟩⟩:=x
    obtain⟨y0,⟨y1,y2⟩⟩:=y
    simp
   by_cases g0:x.f0=y.f0
   ·by_cases g1:x.f1.f0=y.f1.f0
    ·by_cases g2:x.f1.f1=y.f1.f1
     ·have:x=y:=hxy.2 ⟨g0,g1,g2⟩
      subst this
      simp
     ·have:¬ x=y:=fun h=>g2 (hxy.1 h).2.2
      simp[g0,g1,g2,this]
    ·have:¬ x=y:=fun h=>g1 (hxy.1 h).2.1
     simp[g0,g1,this]
   ·have:¬ x=y:=fun h=>g0 (hxy.1 h).1
    simp[g0,this]
theorem same15 (a b:Zn) (ha:LB a):Z28.f a b=some (decide (a=b)):=by
 have hxy:a=b↔a.f0=b.f0∧a.f1=b.f1∧a.f2=b.f2∧a.f3=b.f3:=by cases a;cases b;simp
 unfold Z28.f
 by_cases g0:a.f0=b.f0
 case neg =>
  have:¬ a=b:=fun h=>g0 (hxy.1 h).1
  rw[if_pos (by simpa using g0),sb,if_pos rfl];simp[this]
 by_cases g3:a.f3=b.f3
 case neg =>
  have:¬ a=b:=fun h=>g3 (hxy.1 h).2.2.2
  rw[if_neg (by simpa using g0),if_pos (by simpa using g3),sb,if_pos rfl];simp[this]
 by_cases g1:a.f1.length=b.f1.length
 case neg =>
  have:¬ a=b:=fun h=>g1 (by rw[h])
  rw[if_neg (by simpa using g0),if_neg (by simpa using g3),if_pos (by simp;omega),sb,if_pos rfl];simp[this]
 by_cases g2:a.f2.length=b.f2.length
 case neg =>
  have:¬ a=b:=fun h=>g2 (by rw[h])
  rw[if_neg (by simpa using g0),if_neg (by simpa using g3),if_neg (by simp;omega),sb,if_pos (by simp;omega)];simp[this]
 rw[if_neg (by simpa using g0),if_neg (by simpa using g3),if_neg (by simp;omega),sb,if_neg (by simp;omega),same_l0 a b ha g1 a.f1 b.f1 [] [] 0 rfl rfl rfl rfl,sb]
 by_cases h1:a.f1=b.f1
 ·rw[if_pos h1]
  dsimp only
  rw[same_l1 a b ha.cl g2 a.f2 b.f2 [] [] 0 rfl rfl rfl rfl,sb]
  by_cases h2:a.f2=b.f2
  ·rw[if_pos h2]
   have:a=b:=hxy.2 ⟨g0,h1,h2,g3⟩
   simp[this]
  ·rw[if_neg h2]
   have:¬ a=b:=fun h=>h2 (hxy.1 h).2.2.1
   simp[this]
 ·rw[if_neg h1]
  have:¬ a=b:=fun h=>h1 (hxy.1 h).2.1
  simp[this]
theorem ub_of {c:Zn} (r:Z9q c):UB c :=
 ⟨r.r1.1,r.r2.1,fun x hx=>let q:=r.r1.2 x hx;⟨q.r0,q.r2.r6.1,q.r2.r7.1,fits_of q.r2⟩,fun x hx=>(r.r2.2 x hx).r0⟩
theorem enc_any15 {c:Zi} (hc:CB c):∃ x e,Z0c.f c=some (x,e)∧((e=6∧x=[]∧Z7d c=false)∨(e=0∧Z7d c=true∧∃ f,Laid x f (entB c))):=by
 cases h:Z7d c with
 | false=>exact⟨_,_,ent_no hc h,.inl ⟨rfl,rfl,rfl⟩⟩
 | true =>
  obtain⟨b,f,e,hL⟩:=ent_eq hc h
  exact⟨_,_,e,.inr ⟨rfl,rfl,f,hL⟩⟩
theorem laid_src15 {c:Zi} (hc:CB c) (hR:Z7d c=true) {x:List Int} {f:Nat} (hL:Laid x f (entB c)):Src x∧x.length<90000000∧x.length≠0:=by
 have h1:=entB_len (ek_of hc hR)
 have h2:=hL.len
 have h3:=hL.lt
 have h4:2≤(entB c).length:=by rw[entB,List.length_append,Z2x];omega
 exact⟨⟨hL.byte,by omega⟩,by omega,by omega⟩
end Go.Proofs.YtinhldbfifpakaaGreat.PvGL1
set_option linter.unusedVariables false
set_option linter.unusedSimpArgs false
set_option maxRecDepth 10000
namespace Go.Proofs.YtinhldbfifpakaaGreat.PvGL1
open Go Go.Pv Go.Pv.GS Go.IntKind
theorem rk_l0:∀ (n:Nat) (s:ByteArray) (acc:List ByteArray),s.size≤n→s.size≤2000000→acc.length+s.size≤4000000 →
  (Z1t.l0 s acc=some (.inl false)∧∀ ws:List ByteArray,(∀ w∈ws,w.size<256)→L s≠Z5u ws)∨(∃ ws,Z1t.l0 s acc=some (.inr (acc++ws))∧(∀ w∈ws,w.size<256)∧L s=Z5u ws∧ws.length≤s.size):=by
 intro n
 induction n with
 | zero =>
  intro s acc hn h5 ha
  rw[Z1t.l0,if_neg (by rw[decide_eq_true_eq];omega)]
  have:L s=[]:=List.length_eq_zero_iff.1 (by rw[Z5h];omega)
  exact .inr ⟨[],by simp,by simp,by rw[this];rfl,by simp⟩
 | succ n ih =>
  intro s acc hn h5 ha
  by_cases h0:0<s.size
  case neg =>
   rw[Z1t.l0,if_neg (by rw[decide_eq_true_eq];omega)]
   have:L s=[]:=List.length_eq_zero_iff.1 (by rw[Z5h];omega)
   exact .inr ⟨[],by simp,by simp,by rw[this];rfl,by simp⟩
  obtain⟨c,r,hc,hr,hbt⟩:=L_cons_of h0
  have hcl:=c.toNat_lt
  have hword:∀ ws:List ByteArray,(∀ w∈ws,w.size<256)→L s=Z5u ws→∃ w ws',ws=w::ws'∧w.size=c.toNat∧r=L w++Z5u ws':=fun ws hw e=>by
   cases ws with
   | nil=>rw[hc] at e;simp[Z5u] at e
   | cons w ws' =>
    rw[hc,Z4i,word,List.cons_append,List.cons.injEq] at e
    refine⟨w,ws',rfl,?_,e.2⟩
    have:=hw w (by simp)
    rw[e.1,UInt8.toNat_ofNat',Nat.mod_eq_of_lt (by omega)]
  rw[Z1t.l0,if_pos (by simp;omega),chkB (by omega),hbt,Zc (n:=(c.toNat:Int)) (by omega) (by omega),Zc (n:=(c.toNat:Int)+1) (by omega) (by omega)]
  by_cases hle:(c.toNat:Int)+1>(s.size:Int)
  ·rw[if_pos (by simpa using hle)]
   refine .inl ⟨rfl,fun ws hw e => ?_⟩
   obtain⟨w,ws',_,h1,h2⟩:=hword ws hw e
   have:=congrArg List.length h2
   rw[List.length_append,Z5h] at this
   omega
  ·have e1:Int.toNat ((c.toNat:Int)+1)=1+c.toNat:=by omega
   have l1:L (s.extract (Int.toNat 1) (Int.toNat ((c.toNat:Int)+1)))=r.take c.toNat:=by
    rw[Zag,e1,hc];simp
   have l2:L (s.extract (Int.toNat ((c.toNat:Int)+1)) (Int.toNat (s.size:Int)))=r.drop c.toNat:=by
    rw[Zag,e1,hc,Int.toNat_natCast,Nat.add_comm 1 c.toNat,List.drop_succ_cons,List.take_of_length_le (by simp;omega)]
   have s1:(s.extract (Int.toNat 1) (Int.toNat ((c.toNat:Int)+1))).size=c.toNat:=by rw[← Z5h,l1,List.length_take];omega
   have s2:(s.extract (Int.toNat ((c.toNat:Int)+1)) (Int.toNat (s.size:Int))).size=s.size-1-c.toNat:=by rw[← Z5h,l2,List.length_drop];omega
   rw[if_neg (by simpa using hle),chkB (by omega),chkB (by simp;omega),chkB (by omega)]
   generalize s.extract (Int.toNat 1) (Int.toNat ((c.toNat:Int)+1))=w0 at *
   generalize s.extract (Int.toNat ((c.toNat:Int)+1)) (Int.toNat (s.size:Int))=rest at *
   rcases ih rest (acc++[w0]) (by omega) (by omega) (by simp;omega) with ⟨g1,g2⟩ | ⟨ws,g1,g2,g3,g4⟩
   ·refine .inl ⟨g1,fun ws hw e => ?_⟩
    obtain⟨w,ws',rfl,h1,h2⟩:=hword ws hw e
    refine g2 ws' (fun z hz=>hw z (by simp[hz])) ?_
    rw[l2,h2,← h1,← Z5h,List.drop_left]
   ·refine .inr ⟨w0::ws,by rw[g1];simp,fun z hz => ?_,?_,by simp;omega⟩
    ·rcases List.mem_cons.1 hz with rfl | hz
     ·omega
     ·exact g2 z hz
    ·rw[Z4i        ,word,← g3,l1,l2,s1,hc]
     have:UInt8.ofNat c.toNat=c:=UInt8.ofNat_toNat
     rw[this,List.cons_append,List.take_append_drop]
theorem rk_l1 (ws:List ByteArray) (hl:ws.length≤4000000):∀ (m:Nat) (pre suf:List ByteArray) (o:List Z22) (i:Int),suf.length=2*m→ws=pre++suf→i=(pre.length:Int)→o.length≤pre.length→Z1t.l1 ws o i=some (o++Z6j suf):=by
 intro m
 induction m with
 | zero =>
  intro pre suf o i hm h1 hi ho
  have:suf=[]:=List.length_eq_zero_iff.1 hm
  subst this
  have hlen:ws.length=pre.length:=by rw[h1];simp
  rw[Z1t.l1,Zc (n:=i+1) (by omega) (by omega),if_neg (by simp;omega)];simp[Z6j]
 | succ m ih =>
  intro pre suf o i hm h1 hi ho
  match suf,hm with
  | a::b::suf,hm =>
   have hlen:ws.length=pre.length+(suf.length+2):=by rw[h1];simp
   rw[Z1t.l1,Zc (n:=i+1) (by omega) (by omega),if_pos (by simp;omega),Z0a h1 hi,sb,Z0a (pre:=pre++[a]) (suf:=suf) (x:=b) (by rw[h1];simp) (by simp;omega),sb,chkB (by simp;omega),Zc (n:=i+2) (by omega) (by omega)]
   rw[ih (pre++[a,b]) suf _ (i+2) (by simp at hm;omega) (by rw[h1];simp) (by simp;omega) (by simp;omega),Z6j]
   simp
theorem rkey15 (s:ByteArray) (hs:s.size≤2000000):Z1t.f s=some (keyB s):=by
 have hiff:=key_iff s hs
 have flat256:∀ x',chkC x'=0→∀ w∈Z6b x',w.size<256:=fun x' h w hw=>by
  obtain⟨z,hz,hw⟩:=List.mem_flatMap.1 hw
  have:=Z9g (Zcy h).2 z hz
  simp at hw
  rcases hw with rfl | rfl
  ·have:=this.1;omega
  ·have:=this.2;omega
 have no:(¬ ∃ x,chkC x=0∧L s=keyL x)→keyB s=false:=fun h=>by
  cases e:keyB s with
  | false=>rfl
  | true=>exact absurd (hiff.1 e) h
 unfold Z1t.f
 rcases rk_l0 s.size s [] (Nat.le_refl _) hs (by simp;omega) with ⟨g1,g2⟩ | ⟨ws,g1,g2,g3,g4⟩
 ·rw[g1,sb]
  dsimp only
  rw[no (fun⟨x',h,e⟩=>g2 (Z6b x') (flat256 x' h) (by rw[e,Z6u]))]
 ·rw[g1,sb,List.nil_append]
  dsimp only
  have ht:Int.tmod (ws.length:Int) 2=((ws.length % 2:Nat):Int):=by rw[Int.tmod_eq_emod_of_nonneg (by omega)];omega
  have huniq:∀ x',chkC x'=0→L s=keyL x'→ws=Z6b x':=fun x' h e=>Zah g2 (flat256 x' h) (by rw[← g3,e,Z6u])
  have heven:∀ x':List Z22,(Z6b x').length % 2=0:=fun x'=>by
   induction x' with
   | nil=>rfl
   | cons z x' ih =>
    have:Z6b (z::x')=z.f0::z.f1::Z6b x':=by simp[Z6b]
    rw[this];simp;omega
  rw[ht]
  by_cases hodd:ws.length % 2=1
  ·rw[if_pos (by simp;omega),no (fun⟨x',h,e⟩=>by
    have:=huniq x' h e
    have h2:=heven x'
    rw[← this] at h2;omega)]
  ·rw[if_neg (by simp;omega),rk_l1 ws (by omega) (ws.length / 2) [] ws [] 0 (by omega) rfl rfl (by simp),sb,List.nil_append,rcheck,sb]
   by_cases hc:chkC (Z6j ws)=0
   ·rw[hc,hiff.2 ⟨Z6j ws,hc,by rw[g3,Z6u,Zb1 ws (by omega)]⟩];rfl
   ·rw[no (fun⟨x',h,e⟩=>by
     have:=huniq x' h e
     rw[this,Zat] at hc
     exact hc h)]
    congr 1
    simpa using hc
theorem rright_r (r:Z8):Z4w.f r=some (Zc9 r):=by
 unfold Z4w.f Zc9
 by_cases h1:0≤r.f0
 ·by_cases h2:r.f0≤r.f1
  ·rw[if_pos (by simpa using h1),if_pos (by simpa using h2),sb];congr 1;simp[Z5l,h1,h2]
  ·rw[if_pos (by simpa using h1),if_neg (by simpa using h2),sb];congr 1;simp[Z5l,h1,h2]
 ·rw[if_neg (by simpa using h1),sb];congr 1;simp[Z5l,h1]
def cutsR:Option ByteArray→List Z2p→Bool
 | _,[]=>true
 | p,x::l=>keyB x.f0&&(Zc9 x.f1&&((match p with | none=>true | some q=>bl q x.f0)&&cutsR (some x.f0) l))
theorem Zdm (p:Option ByteArray) (x:Z2p) (l:List Z2p):cutsR p (x::l)=(keyB x.f0&&(Zc9 x.f1&&((match p with | none=>true | some q=>bl q x.f0)&&cutsR (some x.f0) l))):=rfl
theorem cutsR_eq:∀ (l:List Z2p) (p:Option ByteArray),cutsR p l=cutsB p (l.map cOf):=by
 intro l
 induction l with
 | nil=>intro p;rfl
 | cons x l ih=>intro p;rw[Zdm,List.map_cons,Zb2,ih];rfl
def lastR (pre:List Z2p):Option ByteArray:=pre.getLast?.map (·.f0)
theorem rr_l0 (c:Zn) (hc:LB c):∀ (suf pre:List Z08) (i:Int),c.f1=pre++suf→i=(pre.length:Int)→Z1y.l0 c i=some (if suf.all itmOK=true then .inr () else .inl false):=by
 have hil:=hc.il
 intro suf
 induction suf with
 | nil=>intro pre i h1 hi;rw[Z1y.l0,if_neg (by rw[h1];simp[hi])];rfl
 | cons x suf ih =>
  intro pre i h1 hi
  have hlen:c.f1.length=pre.length+(suf.length+1):=by rw[h1];simp
  obtain⟨hk,h6,h7,hf⟩:=hc.ii x (by rw[h1];simp)
  obtain⟨e,_,e1,e3⟩:=check_same x.f2 hf (by omega) (by omega)
  rw[Z1y.l0,if_pos (by simp;omega),Z0a h1 hi,sb,rkey15 _ (by omega),sb,rtime,sb,e1,sb,Zc (n:=i+1) (by omega) (by omega),ih (pre++[x]) (i+1) (by simp[h1]) (by simp;omega),List.all_cons,itmOK,sok]
  cases keyB x.f0
  ·simp[sb]
  cases Z89 x.f1
  ·simp[sb]
  by_cases he:e=0
  ·have:=e3.1 he
   simp[he,sb,this]
  ·have:¬ Z3k   x.f2:=fun h=>he (e3.2 h)
   simp[he,sb,this]
theorem le_not_lt (a b:ByteArray):(Op.bytesLess a.toList b.toList||a.toList==b.toList) = !bl b a:=by
 rw[eqB]
 cases h1:bl b a with
 | true =>
  have h2:Op.bytesLess a.toList b.toList=false:=bl_asymm h1
  rw[h2]
  simp
  intro h
  subst h
  rw[bl_irrefl'] at h1
  simp at h1
 | false =>
  cases h2:Op.bytesLess a.toList b.toList with
  | true=>simp
  | false =>
   have:a=b:=bl_tri' h2 h1
   simp[this]
theorem rr_l1 (c:Zn) (hc:LB c):∀ (suf pre:List Z2p) (i:Int),c.f2=pre++suf→i=(pre.length:Int)→Z1y.l1 c i=some (if cutsR (lastR pre) suf=true then .inr () else .inl false):=by
 have hcl:=hc.cl
 intro suf
 induction suf with
 | nil=>intro pre i h1 hi;rw[Z1y.l1,if_neg (by rw[h1];simp[hi])];rfl
 | cons x suf ih =>
  intro pre i h1 hi
  have hlen:c.f2.length=pre.length+(suf.length+1):=by rw[h1];simp
  have hk:=hc.ci x (by rw[h1];simp)
  rw[Z1y.l1,if_pos (by simp;omega),Z0a h1 hi,sb,rkey15 _ (by omega),sb,rright_r,sb,Zc (n:=i+1) (by omega) (by omega)]
  have hnext:=ih (pre++[x]) (i+1) (by simp[h1]) (by simp;omega)
  rw[hnext,show lastR (pre++[x])=some x.f0 by simp[lastR],Zdm]
  cases keyB x.f0
  ·simp[sb]
  cases Zc9 x.f1
  ·simp[sb]
  rcases List.eq_nil_or_concat pre with rfl | ⟨p',p,rfl⟩
  ·simp only[Bool.not_true,Bool.false_eq_true,if_false,Bool.true_and]
   rw[if_neg (by simp at hi ⊢;omega),sb,if_neg (by simp)]
   simp[lastR]
  ·simp only[Bool.not_true,Bool.false_eq_true,if_false,Bool.true_and]
   simp only[List.concat_eq_append,List.length_append,List.length_singleton] at hi hlen ⊢
   rw[if_pos (by simp;omega),Zc (n:=i-1) (by omega) (by omega),Z0a (pre:=p') (suf:=x::suf) (x:=p) (by rw[h1];simp) (by omega),sb,sb,show lastR (p'++[p])=some p.f0 by simp[lastR],le_not_lt]
   cases h:bl p.f0 x.f0<;>simp[h]
theorem rright15 (c:Zn) (hc:LB c):Z1y.f c=some (Z7d (prog c)):=by
 have hil:=hc.il
 have hcl:=hc.cl
 unfold Z1y.f Z7d prog
 dsimp only
 rw[List.length_map]
 by_cases k1:c.f0=1
 ·rw[if_pos (by simpa using k1),if_pos k1,rr_l0 c hc c.f1 [] 0 rfl rfl,sb]
  cases c.f1.all itmOK
  ·simp
  simp only[if_true,Bool.true_and]
  by_cases h1:0<c.f1.length
  ·by_cases h2:c.f1.length≤64
   ·by_cases h3:c.f2.length=0
    ·rw[if_pos (by simp;omega),if_pos (by simp;omega),if_pos (by simp[h3]),sb];congr 1;simp[h1,h2,h3];rfl
    ·rw[if_pos (by simp;omega),if_pos (by simp;omega),if_neg (by simp;simpa using h3),sb];congr 1;simp[h3]
   ·rw[if_pos (by simp;omega),if_neg (by simp;omega),sb];congr 1;simp[h2]
  ·rw[if_neg (by rw[decide_eq_true_eq];omega),sb];congr 1;simp[h1]
 rw[if_neg (by simpa using k1),if_neg k1]
 by_cases k2:c.f0=2
 ·rw[if_pos (by simpa using k2),if_pos k2,rr_l1 c hc c.f2 [] 0 rfl rfl,sb,show lastR []=none from rfl,cutsR_eq]
  cases cutsB none (c.f2.map cOf)
  ·simp
  simp only[if_true,Bool.true_and]
  by_cases h2:c.f2.length≤64
  ·have h2':((c.f2.length:Int)≤64):=by omega
   by_cases h3:c.f1.length=0
   ·rw[if_pos (by simpa using h2'),if_pos (by simp[h3]),sb];congr 1;simp[h2,h3];rfl
   ·rw[if_pos (by simpa using h2'),if_neg (by simp;simpa using h3),sb];congr 1;simp[h3]
  ·rw[if_neg (by rw[decide_eq_true_eq];omega),sb];congr 1;simp[h2]
 rw[if_neg (by simpa using k2),if_neg k2]
 by_cases k3:c.f0=3
 ·rw[if_pos (by simpa using k3),if_pos k3,rtime,sb]
  cases ht:Z89 c.f3 with
  | false =>
   rw[if_neg (by simp),sb]
   congr 1
   unfold Z89 at ht
   rw[decide_eq_false_iff_not] at ht
   symm
   rw[decide_eq_false_iff_not]
   intro h;exact ht ⟨h.1,h.2.1⟩
  | true =>
   unfold Z89 at ht
   rw[decide_eq_true_eq] at ht
   rw[if_pos rfl]
   by_cases h1:c.f1.length=0
   ·rw[if_pos (by simp[h1]),sb];congr 1;rw[Bool.eq_iff_iff,beq_iff_eq,decide_eq_true_eq];omega
   ·rw[if_neg (by simp;simpa using h1),sb];congr 1;symm;rw[decide_eq_false_iff_not];intro h;omega
 ·rw[if_neg (by simpa using k3),if_neg k3]
theorem by8_bits (l:List Int):by8 l=Z06 l:=by
 unfold by8 Z06
 congr 1
theorem rtext15 (t:ByteArray) (ht:t.size≤2000000):Z4p.f t=some (strB (Z5n t)):=by
 have hl:=Z52 t
 have hcl:=Z14 t.size
 unfold Z4p.f
 rw[Z3f (by omega) (by omega),Z8e (by omega),sb,rtext _ (by omega) (Z9n t),sb,chkB (by rw[Zt,Zt,Z0u];omega),Z5n,Z0p,by8_bits]
theorem rsmp1 {s:Za} (hs:SOk s):Z0s.f [s]=some (strB (smpB s)):=by
 obtain⟨c1,c2,⟨g,hL⟩,c3,_⟩:=Z9z hs
 have hsz:(Z6k (encX [s])).size=(encX [s]).length:=by rw[← Z52,Z6f (Z7h hL)]
 obtain⟨x,f,e,hX⟩:=renc_eq hs.cok (by simp) (by intro y hy;simp at hy;subst hy;exact hs.f)
 have:=hL.unique hX
 subst this
 have hh:Z0s.h [s]=some [[s]]:=by
  unfold Z0s.h
  rw[if_pos (by simp),show at? [s] (0:Int)=some s from rfl,sb,Zc (n:=0+1) (by omega) (by omega),Z0s.hl,if_neg (by simp)]
  rfl
 have hcl:=Z14 1
 have htl:=Z68 (Z6k (encX [s]))
 unfold Z0s.f
 rw[hh,sb,show((([[s]]:List (List Za)).length:Nat):Int)=((1:Nat):Int) from rfl,Z3f (by omega) (by omega),Z8e (by omega),sb,Z0s.l0,if_pos (by simp),show at? [[s]] (0:Int)=some [s] from rfl,sb,e,sb,rtext15 _ (by omega),sb,chkB (by rw[Zt,Zt];omega),Zc (n:=0+1) (by omega) (by omega),Z0s.l0,if_neg (by simp),sb,smpB,Z0p]
theorem rset1 {r:Z8} (h:Z5l r):Z4q.f [r]=some (strB (cnt2 1++layB 0 [r])):=by
 obtain⟨h1,h2,h3⟩:=h
 have c0:=Z14 1
 have c1:=Z14 (r.f0-0).toNat
 have c2:=Z14 (r.f1-r.f0).toNat
 unfold Z4q.f
 rw[show((([r]:List Z8).length:Nat):Int)=((1:Nat):Int) from rfl,Z3f (by omega) (by omega),Z8e (by omega),sb,Z4q.l0,if_pos (by simp),show at? [r] (0:Int)=some r from rfl,sb,
  Zc (n:=r.f0-0) (by omega) (by omega),Z3f (n:=r.f0-0) (by omega) (by omega),Zc (n:=r.f1-r.f0) (by omega) (by omega),Z3f (n:=r.f1-r.f0) (by omega) (by omega),
  Zar ⟨by omega,by omega⟩,sb,chkB (by rw[Zt,Zt];omega),Zar ⟨by omega,by omega⟩,sb,← Z0p,chkB (by rw[Zt,Zt,List.length_append];omega),← Z0p,Zc (n:=0+1) (by omega) (by omega),Zc (n:=r.f1+2) (by omega) (by omega),Z4q.l0,if_neg (by simp),sb]
 congr 2
 simp[layB]
theorem ren_l0 (c:Zn) (hl:c.f1.length≤64):∀ (suf pre:List Z08) (s:List Bool) (i:Int),c.f1=pre++suf→i=(pre.length:Int)→(∀ x∈suf,IK x)→s.length+3300000*suf.length<400000000 →
  Z1c.l0 c (strB s) i=some (strB (s++suf.flatMap itmB)):=by
 intro suf
 induction suf with
 | nil=>intro pre s i h1 hi _ _;rw[Z1c.l0,if_neg (by rw[h1];simp[hi])];simp
 | cons x suf ih =>
  intro pre s i h1 hi hx hs
  have hlen:c.f1.length=pre.length+(suf.length+1):=by rw[h1];simp
  have hk:=hx x (by simp)
  have k1:=hk.key
  have k2:=Z68 x.f0
  have k3:=smpB_len hk.ok
  have k4:=itmB_len hk
  simp only[List.length_cons] at hs
  rw[Z1c.l0,if_pos (by simp;omega),Z0a h1 hi,sb,rtext15 _ (by omega),sb,chkB (by rw[Zt,Zt];omega),rsmp1 hk.ok,sb,← Z0p,chkB (by rw[Zt,Zt,List.length_append];omega),← Z0p,Zc (n:=i+1) (by omega) (by omega)]
  have e:s++Z5n x.f0++smpB ⟨x.f1,x.f2⟩=s++itmB x:=by rw[itmB,List.append_assoc]
  rw[e,ih (pre++[x]) _ (i+1) (by simp[h1]) (by simp;omega) (fun y hy=>hx y (by simp[hy])) (by rw[List.length_append];omega),List.flatMap_cons,List.append_assoc]
theorem ren_l1 (c:Zn) (hl:c.f2.length≤64):∀ (suf pre:List Z2p) (s:List Bool) (i:Int),c.f2=pre++suf→i=(pre.length:Int)→(∀ x∈suf,CK (cOf x))→s.length+17000*suf.length<400000000 →
  Z1c.l1 c (strB s) i=some (strB (s++(suf.map cOf).flatMap Z4b)):=by
 intro suf
 induction suf with
 | nil=>intro pre s i h1 hi _ _;rw[Z1c.l1,if_neg (by rw[h1];simp[hi])];simp
 | cons x suf ih =>
  intro pre s i h1 hi hx hs
  have hlen:c.f2.length=pre.length+(suf.length+1):=by rw[h1];simp
  have hk:=hx x (by simp)
  have k1:x.f0.size≤2080:=hk.key
  have k2:=Z68 x.f0
  have k3:=layB_len [x.f1] 0
  have k5:=Z14 1
  have k4:=Z9l hk
  have hr:Z5l x.f1:=hk.ok
  simp only[List.length_cons,List.length_nil] at hs k3
  rw[Z1c.l1,if_pos (by simp;omega),Z0a h1 hi,sb,rtext15 _ (by omega),sb,chkB (by rw[Zt,Zt];omega),rset1 hr,sb,← Z0p,chkB (by rw[Zt,Zt,List.length_append,List.length_append];omega),← Z0p,Zc (n:=i+1) (by omega) (by omega)]
  have e:s++Z5n x.f0++(cnt2 1++layB 0 [x.f1])=s++Z4b (cOf x):=by rw[Z4b,List.append_assoc];rfl
  rw[e,ih (pre++[x]) _ (i+1) (by simp[h1]) (by simp;omega) (fun y hy=>hx y (by simp[hy])) (by rw[List.length_append];omega),List.map_cons,List.flatMap_cons,List.append_assoc]
theorem renc15 (c:Zn) (hk:EK (prog c)):∃ (b:List Int) (f:Nat),Z1c.f c=some b∧Laid b f (entB (prog c)):=by
 have hl:=entB_len hk
 have hkind:0≤c.f0∧c.f0<4:=by rcases hk with ⟨k,_⟩ | ⟨k,_⟩ | ⟨k,_⟩<;>(have k':c.f0=_:=k;omega)
 have fin:∀ s,s=entB (prog c)→∃ (b:List Int) (f:Nat),((Z1m.f (strB s))>>=fun t=>some t)=some b∧Laid b f (entB (prog c)):=fun s hs=>by
  obtain⟨b,f,e,h⟩:=rbytes s (by rw[hs];omega)
  rw[e,sb]
  exact⟨b,f,rfl,hs ▸ h⟩
 unfold Z1c.f
 rw[Z3f (n:=c.f0) (by omega) (by omega)]
 have hp:=rput (n:=c.f0.toNat) (k:=2) (by omega) (by omega)
 rw[show((c.f0.toNat:Nat):Int)=c.f0 from by omega] at hp
 rw[show Z27.f c.f0 2=_ from hp,sb]
 rcases hk with ⟨k,l,hx,n0,m0⟩ | ⟨k,l,hx,n0,m0⟩ | ⟨k,l,n0⟩
 ·have k':c.f0=1:=k
  have l':c.f1.length≤64:=l
  have:=Z14 c.f1.length
  rw[if_pos (by simpa using k'),Z3f (by omega) (by omega),Z8e (by omega),sb,chkB (by rw[Zt,Zt,Z2x];omega),← Z0p,ren_l0 c l' c.f1 [] _ 0 rfl rfl hx (by rw[List.length_append,Z2x];omega),sb,sb]
  exact fin _ (by unfold entB;rw[if_pos k];simp[prog])
 ·have k':c.f0=2:=k
  have l':c.f2.length≤64:=by have:(c.f2.map cOf).length≤64:=l;simpa using this
  have:=Z14 c.f2.length
  rw[if_neg (by simp;omega),if_pos (by simpa using k'),Z3f (by omega) (by omega),Z8e (by omega),sb,chkB (by rw[Zt,Zt,Z2x];omega),← Z0p,ren_l1 c l' c.f2 [] _ 0 rfl rfl (fun x hm=>hx (cOf x) (List.mem_map.2 ⟨x,hm,rfl⟩)) (by rw[List.length_append,Z2x];omega),sb,sb,sb]
  exact fin _ (by unfold entB;rw[if_neg (by have k2:(prog c).f0=2:=k;omega),if_pos k];simp[prog])
 ·have k':c.f0=3:=k
  have l':0≤c.f3∧c.f3≤1099511627776:=l
  have:=Z14 c.f3.toNat
  rw[if_neg (by simp;omega),if_neg (by simp;omega),Z3f (by omega) (by omega),Zar ⟨by omega,by omega⟩,sb,chkB (by rw[Zt,Zt,Z2x];omega),← Z0p,sb,sb]
  exact fin _ (by unfold entB;rw[if_neg (by have k2:(prog c).f0=3:=k;omega),if_neg (by have k2:(prog c).f0=3:=k;omega)];rfl)
theorem from_l0c (c:Zi) (hl:c.f1.length≤1048576):∀ (suf pre:List Z08) (i:Int),c.f1=pre++suf→i=(pre.length:Int)→Z29.l0 c pre i=some c.f1:=by
 intro suf
 induction suf with
 | nil=>intro pre i h1 hi;rw[Z29.l0,if_neg (by rw[h1];simp[hi]),h1];simp
 | cons x suf ih =>
  intro pre i h1 hi
  have hlen:c.f1.length=pre.length+(suf.length+1):=by rw[h1];simp
  rw[Z29.l0,if_pos (by simp;omega),Z0a h1 hi,sb,chkB (by simp;omega),Zc (n:=i+1) (by omega) (by omega)]
  exact ih (pre++[x]) (i+1) (by simp[h1]) (by simp;omega)
theorem from_l1c (c:Zi) (y:List Z08) (hl:c.f2.length≤1048576):∀ (suf pre:List Z0v) (i:Int),c.f2=pre++suf→i=(pre.length:Int)→Z29.l1 c y (pre.map cBack) i=some (c.f2.map cBack):=by
 intro suf
 induction suf with
 | nil=>intro pre i h1 hi;rw[Z29.l1,if_neg (by rw[h1];simp[hi]),h1];simp
 | cons x suf ih =>
  intro pre i h1 hi
  have hlen:c.f2.length=pre.length+(suf.length+1):=by rw[h1];simp
  rw[Z29.l1,if_pos (by simp;omega),Z0a h1 hi,sb,chkB (by simp;omega),Zc (n:=i+1) (by omega) (by omega)]
  have:=ih (pre++[x]) (i+1) (by simp[h1]) (by simp;omega)
  rw[List.map_append] at this
  exact this
theorem from15 (c:Zi) (h1:c.f1.length≤1048576) (h2:c.f2.length≤1048576):Z29.f c=some (doc c):=by
 unfold Z29.f
 rw[from_l0c c h1 c.f1 [] 0 rfl rfl,sb,show([]:List Z2p)=([]:List Z0v).map cBack from rfl,from_l1c c _ h2 c.f2 [] 0 rfl rfl,sb]
 rfl
theorem Zd8 (c:Zn) (rc:Z9q c):Z3t.f c=some true:=by
 have uc:=ub_of rc
 unfold Z3t.f
 rw[light_eq c uc,sb]
 by_cases lc:lightN c≤2000
 case neg=>rw[if_pos (by simp;omega),awake15,sb]
 have Lc:=lb_of uc lc
 have Cc:=cb_prog Lc
 obtain⟨x,e,E1,h1⟩:=enc_any15 Cc
 rw[if_neg (by simp;omega),rright15 c Lc,sb,to15 c uc,sb,E1,sb,sb,Z9w _ Cc,sb]
 dsimp only
 rw[if_neg (by simp)]
 rcases h1 with ⟨rfl,rfl,hR⟩ | ⟨rfl,hR,f,hL⟩
 ·rw[hR,sb,if_neg (by simp),if_pos (by simp),awake15,sb,if_pos rfl,if_pos (by simp),sb];rfl
 ·obtain⟨sx,_,_⟩:=laid_src15 Cc hR hL
  have D0:=(dec_fwd15 sx Cc hR _ hL.bits).2 f hL.lt rfl
  obtain⟨y,f2,E2,hL2⟩:=renc15 c (ek_of Cc hR)
  have:=hL.unique hL2
  subst this
  rw[hR,sb,if_neg (by simp),if_neg (by simp),D0,sb,awake15,sb,if_pos rfl,E2,sb,if_pos (by simp)]
  dsimp only
  have i1:=Lc.il
  have i2:=Lc.cl
  rw[if_pos (by simp),from15 _ (by show c.f1.length≤_;omega) (by show(c.f2.map cOf).length≤_;rw[List.length_map];omega),sb,doc_prog,same15 c c Lc,sb,sb]
  simp
end Go.Proofs.YtinhldbfifpakaaGreat.PvGL1
