import Derived.Test.YtinhldbfifpakaaGreatPxEntryImages22
set_option linter.unusedVariables false
set_option linter.unusedSimpArgs false
set_option maxRecDepth 10000
namespace Go.Proofs.YtinhldbfifpakaaGreat.PvGL3
open Go Go.Pv Go.Pv.GS Go.IntKind
def Zda (l:List Z2n):Prop:=(∀ x∈l,Zf5 x.f0=true∧valB x.f1=true)∧l.Pairwise (fun a b=>nLt a b=true)
theorem Ze2:∀ (l:List Z2n) (q:ByteArray),Z76 (some q) l=true↔Zda l∧∀ x∈l,bl q x.f0=true
 | [],q=>by simp[Z76,Zda]
 | x::l,q=>by
  have ih:=Ze2 l x.f0;rw[Z8f];simp only[Bool.and_eq_true,ih];unfold Zda;simp only[List.mem_cons,forall_eq_or_imp,List.pairwise_cons];constructor
  ·rintro⟨h1,h2,h3,⟨h4,h5⟩,h6⟩
   exact⟨⟨⟨⟨h1,h2⟩,h4⟩,h6,h5⟩,h3,fun y hy=>bl_trans _ _ _ h3 (h6 y hy)⟩
  ·rintro⟨⟨⟨⟨h1,h2⟩,h4⟩,h6,h5⟩,h3,h7⟩
   exact⟨h1,h2,h3,⟨h4,h5⟩,h6⟩
theorem rising_none (l:List Z2n):Z76 none l=true↔Zda l:=by
 cases l with
 | nil=>simp[Z76,Zda]
 | cons x l =>
  rw[Z8f];simp only[Bool.and_eq_true,Ze2];unfold Zda;simp only[List.mem_cons,forall_eq_or_imp,List.pairwise_cons];constructor
  ·rintro⟨h1,h2,_,⟨h4,h5⟩,h6⟩
   exact⟨⟨⟨h1,h2⟩,h4⟩,h6,h5⟩
  ·rintro⟨⟨⟨h1,h2⟩,h4⟩,h6,h5⟩
   exact⟨h1,h2,trivial,⟨h4,h5⟩,h6⟩
theorem Zep {l:List Z2n} (h:chkC l=0):l.length≤16∧Zda l:=by
 unfold chkC at h;by_cases q:l.length>16
 ·rw[if_pos q] at h;omega
 ·rw[if_neg q] at h
  by_cases q2:Z76 none l=true
  ·exact⟨by omega,(rising_none l).1 q2⟩
  ·rw[if_neg q2] at h;omega
def word (s:ByteArray):List UInt8:=UInt8.ofNat s.size::L s
def keyL (l:List Z2n):List UInt8:=l.flatMap fun x=>word x.f0++word x.f1
def Short (x:Z2n):Prop:=x.f0.size≤64∧x.f1.size≤64
theorem keyL_cons (x:Z2n) (l:List Z2n):keyL (x::l)=word x.f0++(word x.f1++keyL l):=by simp[keyL]
theorem Zdg (s:ByteArray):(word s).length=s.size+1:=by rw[word,List.length_cons,Z6a]
theorem Zb0 {l:List Z2n} (h:Zda l):∀ x∈l,Short x:=fun x hx=>by
 have:=h.1 x hx;simp only[Zf5,valB,Bool.and_eq_true,decide_eq_true_eq] at this;exact⟨this.1.1.2,this.2.2⟩
theorem word_inj' {a b:ByteArray} {x y:List UInt8} (ha:a.size<256) (hb:b.size<256) (h:word a++x=word b++y):a=b∧x=y:=by
 have h0:UInt8.ofNat a.size=UInt8.ofNat b.size:=by
  have:=congrArg List.head? h;simpa[word] using this
 have hs:a.size=b.size:=by
  have:=congrArg UInt8.toNat h0;rw[UInt8.toNat_ofNat',UInt8.toNat_ofNat',Nat.mod_eq_of_lt (by omega),Nat.mod_eq_of_lt (by omega)] at this;exact this
 obtain⟨h1,h2⟩:=List.append_inj h (by rw[Zdg,Zdg,hs]);simp only[word,List.cons.injEq] at h1;exact⟨ext_L h1.2,h2⟩
def Z72 (ws:List ByteArray):List UInt8:=ws.flatMap word
theorem Z56 (w:ByteArray) (ws:List ByteArray):Z72 (w::ws)=word w++Z72 ws:=by simp[Z72]
theorem Zc6:∀ {a b:List ByteArray},(∀ x∈a,x.size<256)→(∀ x∈b,x.size<256)→Z72 a=Z72 b→a=b
 | [],[],_,_,_=>rfl
 | [],y::b,_,_,h=>by rw[Z56,word] at h;simp[Z72] at h
 | x::a,[],_,_,h=>by rw[Z56,word] at h;simp[Z72] at h
 | x::a,y::b,ha,hb,h=>by
  rw[Z56,Z56] at h;obtain⟨h1,h2⟩:=word_inj' (ha x (by simp)) (hb y (by simp)) h;rw[h1,Zc6 (fun z hz=>ha z (by simp[hz])) (fun z hz=>hb z (by simp[hz])) h2]
def Z7m (l:List Z2n):List ByteArray:=l.flatMap fun x=>[x.f0,x.f1]
def Z7t:List ByteArray→List Z2n
 | a::b::r=>⟨a,b⟩::Z7t r
 | _=>[]
theorem Zcg:∀ l:List Z2n,Z7t (Z7m l)=l
 | []=>rfl
 | x::l=>by
  have:Z7m (x::l)=x.f0::x.f1::Z7m l:=by simp[Z7m]
  rw[this,Z7t,Zcg l]
theorem Z85:∀ l:List Z2n,keyL l=Z72 (Z7m l)
 | []=>rfl
 | x::l=>by
  have:Z7m (x::l)=x.f0::x.f1::Z7m l:=by simp[Z7m]
  rw[this,Z56,Z56,keyL_cons,Z85 l]
theorem Zco:∀ (ws:List ByteArray),ws.length % 2=0→Z7m (Z7t ws)=ws
 | [],_=>rfl
 | [a],h=>by simp at h
 | a::b::r,h=>by
  have:Z7m (Z7t (a::b::r))=a::b::Z7m (Z7t r):=by simp[Z7m,Z7t]
  rw[this,Zco r (by simp at h;omega)]
theorem L_cons_of {s:ByteArray} (h:0<s.size):∃ c r,L s=c::r∧r.length=s.size-1∧bt s 0=(c.toNat:Int):=by
 cases hl:L s with
 | nil=>have:=Z6a s;rw[hl] at this;simp at this;omega
 | cons c r =>
  refine⟨c,r,rfl,?_,bt_L (i:=0) (by rw[hl];rfl)⟩;have:=Z6a s;rw[hl] at this;simp at this;omega
theorem fromB_l0:∀ (n:Nat) (s:ByteArray) (acc:List ByteArray),s.size≤n→s.size≤2000000→acc.length+s.size≤4000000 →
  (Z1q.l0 s acc=some (.inl ([],6))∧∀ ws:List ByteArray,(∀ w∈ws,w.size<256)→L s≠Z72 ws)∨(∃ ws,Z1q.l0 s acc=some (.inr (acc++ws))∧(∀ w∈ws,w.size<256)∧L s=Z72 ws∧ws.length≤s.size):=by
 intro n
 induction n with
 | zero =>
  intro s acc hn h5 ha;rw[Z1q.l0,if_neg (by rw[decide_eq_true_eq];omega)];have:L s=[]:=List.length_eq_zero_iff.1 (by rw[Z6a];omega);exact .inr ⟨[],by simp,by simp,by rw[this];rfl,by simp⟩
 | succ n ih =>
  intro s acc hn h5 ha;by_cases h0:0<s.size
  case neg =>
   rw[Z1q.l0,if_neg (by rw[decide_eq_true_eq];omega)];have:L s=[]:=List.length_eq_zero_iff.1 (by rw[Z6a];omega);exact .inr ⟨[],by simp,by simp,by rw[this];rfl,by simp⟩
  obtain⟨c,r,hc,hr,hbt⟩:=L_cons_of h0;have hcl:=c.toNat_lt;have hword:∀ ws:List ByteArray,(∀ w∈ws,w.size<256)→L s=Z72 ws→∃ w ws',ws=w::ws'∧w.size=c.toNat∧r=L w++Z72 ws':=fun ws hw e=>by
   cases ws with
   | nil=>rw[hc] at e;simp[Z72] at e
   | cons w ws' =>
    rw[hc,Z56,word,List.cons_append,List.cons.injEq] at e;refine⟨w,ws',rfl,?_,e.2⟩;have:=hw w (by simp);rw[e.1,UInt8.toNat_ofNat',Nat.mod_eq_of_lt (by omega)]
  rw[Z1q.l0,if_pos (by simp;omega),chkB (by omega),hbt,Zc (n:=(c.toNat:Int)) (by omega) (by omega),Zc (n:=(s.size:Int)-1) (by omega) (by omega)];by_cases hle:(c.toNat:Int)>(s.size:Int)-1
  ·rw[if_pos (by simpa using hle)]
   refine .inl ⟨rfl,fun ws hw e => ?_⟩;obtain⟨w,ws',_,h1,h2⟩:=hword ws hw e;have:=congrArg List.length h2;rw[List.length_append,Z6a] at this;omega
  ·have e1:Int.toNat ((1:Int)+(c.toNat:Int))=1+c.toNat:=by omega
   have l1:L (s.extract (Int.toNat 1) (Int.toNat ((1:Int)+(c.toNat:Int))))=r.take c.toNat:=by
    rw[Zc4,e1,hc];simp
   have l2:L (s.extract (Int.toNat ((1:Int)+(c.toNat:Int))) (Int.toNat (s.size:Int)))=r.drop c.toNat:=by
    rw[Zc4,e1,hc,Int.toNat_natCast,Nat.add_comm 1 c.toNat,List.drop_succ_cons,List.take_of_length_le (by simp;omega)]
   have s1:(s.extract (Int.toNat 1) (Int.toNat ((1:Int)+(c.toNat:Int)))).size=c.toNat:=by rw[← Z6a,l1,List.length_take];omega
   have s2:(s.extract (Int.toNat ((1:Int)+(c.toNat:Int))) (Int.toNat (s.size:Int))).size=s.size-1-c.toNat:=by rw[← Z6a,l2,List.length_drop];omega
   rw[if_neg (by simpa using hle),Zc (n:=(1:Int)+(c.toNat:Int)) (by omega) (by omega),chkB (by omega),chkB (by simp;omega),chkB (by omega)];generalize s.extract (Int.toNat 1) (Int.toNat ((1:Int)+(c.toNat:Int)))=w0 at *;generalize s.extract (Int.toNat ((1:Int)+(c.toNat:Int))) (Int.toNat (s.size:Int))=rest at *;rcases ih rest (acc++[w0]) (by omega) (by omega) (by simp;omega) with ⟨g1,g2⟩ | ⟨ws,g1,g2,g3,g4⟩
   ·refine .inl ⟨g1,fun ws hw e => ?_⟩
    obtain⟨w,ws',rfl,h1,h2⟩:=hword ws hw e;refine g2 ws' (fun z hz=>hw z (by simp[hz])) ?_;rw[l2,h2,← h1,← Z6a,List.drop_left]
   ·refine .inr ⟨w0::ws,by rw[g1];simp,fun z hz => ?_,?_,by simp;omega⟩
    ·rcases List.mem_cons.1 hz with rfl | hz
     ·omega
     ·exact g2 z hz
    ·rw[Z56        ,word,← g3,l1,l2,s1,hc]
     have:UInt8.ofNat c.toNat=c:=UInt8.ofNat_toNat;rw[this,List.cons_append,List.take_append_drop]
theorem fromB_l1 (ws:List ByteArray) (hl:ws.length≤4000000):∀ (m:Nat) (pre suf:List ByteArray) (o:List Z2n) (i:Int),suf.length=2*m→ws=pre++suf→i=(pre.length:Int)→o.length≤pre.length→Z1q.l1 ws o i=some (o++Z7t suf):=by
 intro m
 induction m with
 | zero =>
  intro pre suf o i hm h1 hi ho;have:suf=[]:=List.length_eq_zero_iff.1 hm;subst this;rw[Z1q.l1,if_neg (by rw[h1];simp[hi])];simp[Z7t]
 | succ m ih =>
  intro pre suf o i hm h1 hi ho
  match suf,hm with
  | a::b::suf,hm =>
   have hlen:ws.length=pre.length+(suf.length+2):=by rw[h1];simp
   rw[Z1q.l1,if_pos (by simp;omega),Z06 h1 hi,sb,Zc (n:=i+1) (by omega) (by omega),Z06 (pre:=pre++[a]) (suf:=suf) (x:=b) (by rw[h1];simp) (by simp;omega),sb,chkB (by simp;omega),Zc (n:=i+2) (by omega) (by omega)];rw[ih (pre++[a,b]) suf _ (i+2) (by simp at hm;omega) (by rw[h1];simp) (by simp;omega) (by simp;omega),Z7t];simp
theorem Zff (s:ByteArray) (hs:s.size≤2000000):∃ x e,Z1q.f s=some (x,e)∧((e=0∧chkC x=0∧L s=keyL x)∨(e=6∧x=[]∧∀ x',chkC x'=0→L s≠keyL x')):=by
 unfold Z1q.f;have flat256:∀ x',chkC x'=0→∀ w∈Z7m x',w.size<256:=fun x' h w hw=>by
  obtain⟨z,hz,hw⟩:=List.mem_flatMap.1 hw;have:=Zb0 (Zep h).2 z hz;simp at hw;rcases hw with rfl | rfl
  ·have:=this.1;omega
  ·have:=this.2;omega
 rcases fromB_l0 s.size s [] (Nat.le_refl _) hs (by simp;omega) with ⟨g1,g2⟩ | ⟨ws,g1,g2,g3,g4⟩
 ·rw[g1,sb]
  exact⟨[],6,rfl,.inr ⟨rfl,rfl,fun x' h e=>g2 (Z7m x') (flat256 x' h) (by rw[e,Z85])⟩⟩
 ·rw[g1,sb,List.nil_append]
  dsimp only;have ht:Int.tmod (ws.length:Int) 2=((ws.length % 2:Nat):Int):=by rw[Int.tmod_eq_emod_of_nonneg (by omega)];omega
  have huniq:∀ x',chkC x'=0→L s=keyL x'→ws=Z7m x':=fun x' h e=>Zc6 g2 (flat256 x' h) (by rw[← g3,e,Z85])
  have heven:∀ x':List Z2n,(Z7m x').length % 2=0:=fun x'=>by
   induction x' with
   | nil=>rfl
   | cons z x' ih =>
    have:Z7m (z::x')=z.f0::z.f1::Z7m x':=by simp[Z7m]
    rw[this];simp;omega
  rw[ht];by_cases hodd:ws.length % 2=1
  ·rw[if_pos (by simp;omega)]
   refine⟨[],6,rfl,.inr ⟨rfl,rfl,fun x' h e => ?_⟩⟩;have:=huniq x' h e;have h2:=heven x';rw[← this] at h2;omega
  ·rw[if_neg (by simp;omega),fromB_l1 ws (by omega) (ws.length / 2) [] ws [] 0 (by omega) rfl rfl (by simp),sb,List.nil_append,lcheck,sb]
   by_cases hc:chkC (Z7t ws)=0
   ·rw[if_neg (by simpa using hc)]
    exact⟨_,0,rfl,.inl ⟨rfl,hc,by rw[g3,Z85,Zco ws (by omega)]⟩⟩
   ·rw[if_pos (by simpa using hc)]
    refine⟨[],6,rfl,.inr ⟨rfl,rfl,fun x' h e => ?_⟩⟩;have:=huniq x' h e;rw[this,Zcg] at hc;exact hc h
def keyB (s:ByteArray):Bool:=match Z1q.f s with
 | some (_,e)=>e==0
 | none=>false
theorem key_eq (s:ByteArray) (hs:s.size≤2000000):Z49.f s=some (keyB s):=by
 unfold Z49.f keyB;obtain⟨x,e,h,_⟩:=Zff s hs;rw[h,sb]
theorem keyL_len:∀ (l:List Z2n),(∀ x∈l,Short x)→(keyL l).length≤130*l.length:=by
 intro l
 induction l with
 | nil=>intro _;simp[keyL]
 | cons x l ih =>
  intro h;have hx:=h x (by simp);have:=hx.1;have:=hx.2;have:=ih (fun y hy=>h y (by simp[hy]));rw[keyL_cons,List.length_append,List.length_append,Zdg,Zdg,List.length_cons];omega
theorem key_iff (s:ByteArray) (hs:s.size≤2000000):keyB s=true↔∃ x,chkC x=0∧L s=keyL x:=by
 unfold keyB;obtain⟨x,e,h,h2⟩:=Zff s hs;rw[h];dsimp only;rcases h2 with ⟨rfl,h3,h4⟩ | ⟨rfl,_,h3⟩
 ·simp;exact⟨x,h3,h4⟩
 ·simp;exact h3
theorem key_short {s:ByteArray} (hs:s.size≤2000000) (h:keyB s=true):s.size≤2080:=by
 obtain⟨x,h1,h2⟩:=(key_iff s hs).1 h;have h3:=Zep h1;have:=keyL_len x (Zb0 h3.2);have h4:=h3.1;rw[← Z6a,h2];omega
structure CB (c:Z2i):Prop where
 il:c.f1.length<1000000000000
 cl:c.f2.length<1000000000000
 ii:∀ x∈c.f1,x.f0.size≤2000000∧Fits x.f2
 ci:∀ x∈c.f2,x.f0.size≤2000000
structure IK (x:Z8b):Prop where
 key:x.f0.size≤2080
 ok:SOk ⟨x.f1,x.f2⟩
structure CK (x:Z9a):Prop where
 key:x.f0.size≤2080
 ok:Z5n x.f1
inductive EK (c:Z2i):Prop
 | batch (k:c.f0=1) (l:c.f1.length≤64) (h:∀ x∈c.f1,IK x) (n:c.f2=[]) (m:c.f3=0)
 | cuts (k:c.f0=2) (l:c.f2.length≤64) (h:∀ x∈c.f2,CK x) (n:c.f1=[]) (m:c.f3=0)
 | mark (k:c.f0=3) (l:0≤c.f3∧c.f3≤1099511627776) (n:c.f1=[]∧c.f2=[])
theorem Zbf (t:ByteArray):(Z6n t).length≤71+8*t.size:=by
 have:=Z12 t.size;rw[Z6n,List.length_append,by8_len,Z79];omega
theorem flat_le {α:Type} (f:α→List Bool) (k:Nat):∀ (l:List α),(∀ x∈l,(f x).length≤k)→(l.flatMap f).length≤k*l.length:=by
 intro l
 induction l with
 | nil=>simp
 | cons x l ih =>
  intro h;have:=h x (by simp);have:=ih (fun y hy=>h y (by simp[hy]));rw[List.flatMap_cons,List.length_append,List.length_cons,Nat.mul_add];omega
variable {b:List Int}
end Go.Proofs.YtinhldbfifpakaaGreat.PvGL3
namespace Go.Proofs.YtinhldbfifpakaaGreat.PvGL3
open Go Go.Pv Go.Pv.GS Go.IntKind
variable {b:List Int}
structure IB (x:Z8b):Prop where
 key:x.f0.size≤1048576
 ok:SOk ⟨x.f1,x.f2⟩
structure CBd (x:Z9a):Prop where
 key:x.f0.size≤1048576
 ok:Z5n x.f1
end Go.Proofs.YtinhldbfifpakaaGreat.PvGL3
namespace Go.Proofs.YtinhldbfifpakaaGreat.PvGL3
open Go Go.Pv Go.Pv.GS Go.IntKind
theorem sum_mem {α:Type} (f:α→Nat):∀ (l:List α) (x:α),x∈l→f x≤(l.map f).sum:=by
 intro l
 induction l with
 | nil=>simp
 | cons y l ih =>
  intro x hx;rw[List.map_cons,List.sum_cons];rcases List.mem_cons.1 hx with rfl | hx
  ·omega
  ·have:=ih x hx;omega
theorem rk_l0:∀ (n:Nat) (s:ByteArray) (acc:List ByteArray),s.size≤n→s.size≤2000000→acc.length+s.size≤4000000 →
  (Z2m.l0 s acc=some (.inl false)∧∀ ws:List ByteArray,(∀ w∈ws,w.size<256)→L s≠Z72 ws)∨(∃ ws,Z2m.l0 s acc=some (.inr (acc++ws))∧(∀ w∈ws,w.size<256)∧L s=Z72 ws∧ws.length≤s.size):=by
 intro n
 induction n with
 | zero =>
  intro s acc hn h5 ha;rw[Z2m.l0,if_neg (by rw[decide_eq_true_eq];omega)];have:L s=[]:=List.length_eq_zero_iff.1 (by rw[Z6a];omega);exact .inr ⟨[],by simp,by simp,by rw[this];rfl,by simp⟩
 | succ n ih =>
  intro s acc hn h5 ha;by_cases h0:0<s.size
  case neg =>
   rw[Z2m.l0,if_neg (by rw[decide_eq_true_eq];omega)];have:L s=[]:=List.length_eq_zero_iff.1 (by rw[Z6a];omega);exact .inr ⟨[],by simp,by simp,by rw[this];rfl,by simp⟩
  obtain⟨c,r,hc,hr,hbt⟩:=L_cons_of h0;have hcl:=c.toNat_lt;have hword:∀ ws:List ByteArray,(∀ w∈ws,w.size<256)→L s=Z72 ws→∃ w ws',ws=w::ws'∧w.size=c.toNat∧r=L w++Z72 ws':=fun ws hw e=>by
   cases ws with
   | nil=>rw[hc] at e;simp[Z72] at e
   | cons w ws' =>
    rw[hc,Z56,word,List.cons_append,List.cons.injEq] at e;refine⟨w,ws',rfl,?_,e.2⟩;have:=hw w (by simp);rw[e.1,UInt8.toNat_ofNat',Nat.mod_eq_of_lt (by omega)]
  rw[Z2m.l0,if_pos (by simp;omega),chkB (by omega),hbt,Zc (n:=(c.toNat:Int)) (by omega) (by omega),Zc (n:=(c.toNat:Int)+1) (by omega) (by omega)];by_cases hle:(c.toNat:Int)+1>(s.size:Int)
  ·rw[if_pos (by simpa using hle)]
   refine .inl ⟨rfl,fun ws hw e => ?_⟩;obtain⟨w,ws',_,h1,h2⟩:=hword ws hw e;have:=congrArg List.length h2;rw[List.length_append,Z6a] at this;omega
  ·have e1:Int.toNat ((c.toNat:Int)+1)=1+c.toNat:=by omega
   have l1:L (s.extract (Int.toNat 1) (Int.toNat ((c.toNat:Int)+1)))=r.take c.toNat:=by
    rw[Zc4,e1,hc];simp
   have l2:L (s.extract (Int.toNat ((c.toNat:Int)+1)) (Int.toNat (s.size:Int)))=r.drop c.toNat:=by
    rw[Zc4,e1,hc,Int.toNat_natCast,Nat.add_comm 1 c.toNat,List.drop_succ_cons,List.take_of_length_le (by simp;omega)]
   have s1:(s.extract (Int.toNat 1) (Int.toNat ((c.toNat:Int)+1))).size=c.toNat:=by rw[← Z6a,l1,List.length_take];omega
   have s2:(s.extract (Int.toNat ((c.toNat:Int)+1)) (Int.toNat (s.size:Int))).size=s.size-1-c.toNat:=by rw[← Z6a,l2,List.length_drop];omega
   rw[if_neg (by simpa using hle),chkB (by omega),chkB (by simp;omega),chkB (by omega)];generalize s.extract (Int.toNat 1) (Int.toNat ((c.toNat:Int)+1))=w0 at *;generalize s.extract (Int.toNat ((c.toNat:Int)+1)) (Int.toNat (s.size:Int))=rest at *;rcases ih rest (acc++[w0]) (by omega) (by omega) (by simp;omega) with ⟨g1,g2⟩ | ⟨ws,g1,g2,g3,g4⟩
   ·refine .inl ⟨g1,fun ws hw e => ?_⟩
    obtain⟨w,ws',rfl,h1,h2⟩:=hword ws hw e;refine g2 ws' (fun z hz=>hw z (by simp[hz])) ?_;rw[l2,h2,← h1,← Z6a,List.drop_left]
   ·refine .inr ⟨w0::ws,by rw[g1];simp,fun z hz => ?_,?_,by simp;omega⟩
    ·rcases List.mem_cons.1 hz with rfl | hz
     ·omega
     ·exact g2 z hz
    ·rw[Z56        ,word,← g3,l1,l2,s1,hc]
     have:UInt8.ofNat c.toNat=c:=UInt8.ofNat_toNat;rw[this,List.cons_append,List.take_append_drop]
theorem rk_l1 (ws:List ByteArray) (hl:ws.length≤4000000):∀ (m:Nat) (pre suf:List ByteArray) (o:List Z2n) (i:Int),suf.length=2*m→ws=pre++suf→i=(pre.length:Int)→o.length≤pre.length→Z2m.l1 ws o i=some (o++Z7t suf):=by
 intro m
 induction m with
 | zero =>
  intro pre suf o i hm h1 hi ho;have:suf=[]:=List.length_eq_zero_iff.1 hm;subst this;have hlen:ws.length=pre.length:=by rw[h1];simp
  rw[Z2m.l1,Zc (n:=i+1) (by omega) (by omega),if_neg (by simp;omega)];simp[Z7t]
 | succ m ih =>
  intro pre suf o i hm h1 hi ho
  match suf,hm with
  | a::b::suf,hm =>
   have hlen:ws.length=pre.length+(suf.length+2):=by rw[h1];simp
   rw[Z2m.l1,Zc (n:=i+1) (by omega) (by omega),if_pos (by simp;omega),Z06 h1 hi,sb,Z06 (pre:=pre++[a]) (suf:=suf) (x:=b) (by rw[h1];simp) (by simp;omega),sb,chkB (by simp;omega),Zc (n:=i+2) (by omega) (by omega)];rw[ih (pre++[a,b]) suf _ (i+2) (by simp at hm;omega) (by rw[h1];simp) (by simp;omega) (by simp;omega),Z7t];simp
theorem rkey15 (s:ByteArray) (hs:s.size≤2000000):Z2m.f s=some (keyB s):=by
 have hiff:=key_iff s hs;have flat256:∀ x',chkC x'=0→∀ w∈Z7m x',w.size<256:=fun x' h w hw=>by
  obtain⟨z,hz,hw⟩:=List.mem_flatMap.1 hw;have:=Zb0 (Zep h).2 z hz;simp at hw;rcases hw with rfl | rfl
  ·have:=this.1;omega
  ·have:=this.2;omega
 have no:(¬ ∃ x,chkC x=0∧L s=keyL x)→keyB s=false:=fun h=>by
  cases e:keyB s with
  | false=>rfl
  | true=>exact absurd (hiff.1 e) h
 unfold Z2m.f;rcases rk_l0 s.size s [] (Nat.le_refl _) hs (by simp;omega) with ⟨g1,g2⟩ | ⟨ws,g1,g2,g3,g4⟩
 ·rw[g1,sb]
  dsimp only;rw[no (fun⟨x',h,e⟩=>g2 (Z7m x') (flat256 x' h) (by rw[e,Z85]))]
 ·rw[g1,sb,List.nil_append]
  dsimp only;have ht:Int.tmod (ws.length:Int) 2=((ws.length % 2:Nat):Int):=by rw[Int.tmod_eq_emod_of_nonneg (by omega)];omega
  have huniq:∀ x',chkC x'=0→L s=keyL x'→ws=Z7m x':=fun x' h e=>Zc6 g2 (flat256 x' h) (by rw[← g3,e,Z85])
  have heven:∀ x':List Z2n,(Z7m x').length % 2=0:=fun x'=>by
   induction x' with
   | nil=>rfl
   | cons z x' ih =>
    have:Z7m (z::x')=z.f0::z.f1::Z7m x':=by simp[Z7m]
    rw[this];simp;omega
  rw[ht];by_cases hodd:ws.length % 2=1
  ·rw[if_pos (by simp;omega),no (fun⟨x',h,e⟩=>by
    have:=huniq x' h e;have h2:=heven x';rw[← this] at h2;omega)]
  ·rw[if_neg (by simp;omega),rk_l1 ws (by omega) (ws.length / 2) [] ws [] 0 (by omega) rfl rfl (by simp),sb,List.nil_append,rcheck,sb]
   by_cases hc:chkC (Z7t ws)=0
   ·rw[hc,hiff.2 ⟨Z7t ws,hc,by rw[g3,Z85,Zco ws (by omega)]⟩];rfl
   ·rw[no (fun⟨x',h,e⟩=>by
     have:=huniq x' h e;rw[this,Zcg] at hc;exact hc h)]
    congr 1;simpa using hc
theorem le_not_lt (a b:ByteArray):(Op.bytesLess a.toList b.toList||a.toList==b.toList) = !bl b a:=by
 rw[eqB];cases h1:bl b a with
 | true =>
  have h2:Op.bytesLess a.toList b.toList=false:=bl_asymm h1;rw[h2];simp;intro h;subst h;rw[bl_irrefl'] at h1;simp at h1
 | false =>
  cases h2:Op.bytesLess a.toList b.toList with
  | true=>simp
  | false =>
   have:a=b:=bl_tri' h2 h1;simp[this]
theorem by8_bits (l:List Int):by8 l=Z0f l:=by
 unfold by8 Z0f;congr 1
theorem rtext15 (t:ByteArray) (ht:t.size≤2000000):Z61.f t=some (strB (Z6n t)):=by
 have hl:=Z79 t;have hcl:=Z12 t.size;unfold Z61.f;rw[Z39 (by omega) (by omega),Z9w (by omega),sb,rtext _ (by omega) (Zb8 t),sb,chkB (by rw[Z00,Z00,Z15];omega),Z6n,Z0s,by8_bits]
theorem cutB_l0 (l:List Z7) (hl:l.length≤1000000) (hk:∀ s∈l,SOk s):∀ (suf:List Z7) (dn:List (List Z7)) (cu:List Z7) (i:Int),l=dn.flatten++cu++suf→i=((dn.flatten++cu).length:Int) →
  (∀ c∈dn,COk c∧c≠[]∧Z8q c)→COk cu→cu≠[]→Z8q cu →
  ∃ C,Z2t.l0 l dn cu i=some C∧Z0i.hl l dn cu i=some C∧C.flatten=l∧∀ c∈C,COk c∧c≠[]∧Z8q c:=by
 intro suf
 induction suf with
 | nil =>
  intro dn cu i h1 hi hC h2 h3 h4;refine⟨dn++[cu],?_,?_,by rw[h1];simp,fun c hc => ?_⟩
  ·rw[Z2t.l0,if_neg (by rw[h1];simp[hi])]
  ·rw[Z0i.hl,if_neg (by rw[h1];simp[hi])]
  ·rcases List.mem_append.1 hc with hc | hc
   ·exact hC c hc
   ·simp at hc;subst hc;exact⟨h2,h3,h4⟩
 | cons s suf ih =>
  intro dn cu i h1 hi hC h2 h3 h4;have hlen:l.length=(dn.flatten++cu).length+(suf.length+1):=by rw[h1,List.length_append];rfl
  have hdn:=flat_len (C:=dn) (fun c hc=>(hC c hc).2.1);have hn:(dn.flatten++cu).length=dn.flatten.length+cu.length:=List.length_append;have hi1:((dn.flatten++cu++[s]).length:Int)=i+1:=by rw[hi,List.length_append];simp
  have hs:=hk s (by rw[h1];simp);have h32:=h2.len;obtain⟨r,f1,f2,f3⟩:=fits_eq cu s (by omega) (fun x hx=>by
   have:x∈l:=by rw[h1];rcases List.mem_append.1 hx with hx | hx;simp[hx];simp at hx;subst hx;simp
   exact⟨(hk x this).v,(hk x this).f⟩) hs.t
  have hi2:i<2000000:=by omega
  rw[Z2t.l0,if_pos (decide_eq_true (by omega)),Z06 h1 hi,sb,chkB (by omega),f1,sb,Zc (n:=i+1) (by omega) (by omega)];cases r with
  | false =>
   rw[if_pos (show(!false)=true from rfl),Z0i.hl,if_pos (decide_eq_true (by omega)),chkB (by omega),Z06 h1 hi,sb,f2,sb,Zc (n:=i+1) (by omega) (by omega),if_neg (by simp)];exact ih (dn++[cu]) [s] (i+1) (by rw[h1];simp) (by rw[← hi1];simp) (fun c hc=>by
    rcases List.mem_append.1 hc with hc | hc
    ·exact hC c hc
    ·simp at hc;subst hc;exact⟨h2,h3,h4⟩) hs.cok (by simp) (Z8q.one s)
  | true =>
   rw[if_neg (show ¬ ((!true)=true) by simp),chkB (by omega),Z0i.hl,if_pos (decide_eq_true (by omega)),chkB (by omega),Z06 h1 hi,sb,f2,sb,Zc (n:=i+1) (by omega) (by omega),if_pos rfl,chkB (by omega)];exact ih dn (cu++[s]) (i+1) (by rw[h1];simp) (by rw[← hi1];simp) hC (f3 rfl h2) (by simp) (h4.snoc f1)
theorem cutB (l:List Z7) (hl:l.length≤1000000) (hk:∀ s∈l,SOk s):∃ C,Z2t.f l=some C∧Z0i.h l=some C∧C.flatten=l∧(∀ c∈C,Chu c)∧C.length≤l.length:=by
 suffices h:∃ C,Z2t.f l=some C∧Z0i.h l=some C∧C.flatten=l∧∀ c∈C,COk c∧c≠[]∧Z8q c by
  obtain⟨C,e1,e2,e3,e4⟩:=h;refine⟨C,e1,e2,e3,fun c hc => ?_,by have:=flat_len (C:=C) (fun c hc=>(e4 c hc).2.1);rw[e3] at this;exact this⟩;obtain⟨c1,c2,c3⟩:=e4 c hc;have hm:∀ s∈c,SOk s:=fun s hs=>hk s (by rw[← e3];exact List.mem_flatten.2 ⟨c,hc,hs⟩)
  have h32:=c1.len;refine⟨c1,c2,fun s hs=>(hm s hs).hok,?_⟩;rw[grow_chk c (by omega) c2 hm,if_pos c3]
 unfold Z2t.f Z0i.h;cases l with
 | nil=>exact⟨[],rfl,rfl,rfl,by simp⟩
 | cons s suf =>
  rw[if_pos (by simp),if_pos (by simp),show at? (s::suf) 0=some s from rfl,sb,sb,Zc (by omega) (by omega)];exact cutB_l0 (s::suf) hl hk suf [] [s] (0+1) (by simp) (by simp) (by simp) (hk s (by simp)).cok (by simp) (Z8q.one s)
def cutX (l:List Z7):List (List Z7):=(Z2t.f l).getD []
def Z8s (l:List Z7):List Bool:=cnt2 (cutX l).length++Za5 (cutX l)
structure CutX (l:List Z7) (C:List (List Z7)):Prop where
 p:Z2t.f l=some C
 d:Z0i.h l=some C
 x:cutX l=C
 flat:C.flatten=l
 ok:∀ c∈C,Chu c
 len:C.length≤l.length
theorem cutX_ok (l:List Z7) (hl:l.length≤1000000) (hk:∀ s∈l,SOk s):∃ C,CutX l C:=by
 obtain⟨C,e1,e2,e3,e4,e5⟩:=cutB l hl hk;exact⟨C,e1,e2,by unfold cutX;rw[e1];rfl,e3,e4,e5⟩
theorem Chu.enc {c:List Z7} (h:Chu c):Z0b.f c=some (encX c,0)∧(∃ f,Laid (encX c) f (Z7n c))∧(Z80 (encX c)).size=(encX c).length∧(encX c).length≤400000:=by
 obtain⟨e1,⟨f,e2⟩,e3⟩:=encX_eq h.cok h.ne h.k h.h0;exact⟨e1,⟨f,e2⟩,by rw[← Z79,Zd6 (Zfe e2)],e3⟩
theorem Chu.txt {c:List Z7} (h:Chu c):(Z6n (Z80 (encX c))).length≤3300000:=by
 obtain⟨_,_,e3,e4⟩:=h.enc;have:=Zbf (Z80 (encX c));omega
theorem chusB_len:∀ (C:List (List Z7)),(∀ c∈C,Chu c)→(Za5 C).length≤3300000*C.length:=by
 intro C h;exact flat_le (fun c=>Z6n (Z80 (encX c))) 3300000 C (fun c hc=>(h c hc).txt)
theorem smpsB_len {l:List Z7} {C:List (List Z7)} (h:CutX l C):(Z8s l).length≤71+3300000*l.length:=by
 have h1:=chusB_len C h.ok;have h2:=Z12 C.length;have h3:=h.len;have:3300000*C.length≤3300000*l.length:=Nat.mul_le_mul_left _ h3;rw[Z8s,h.x,List.length_append];omega
theorem smpsW_l0 (C:List (List Z7)) (hC:∀ c∈C,Chu c) (hl:C.length≤1000000):∀ (suf pre:List (List Z7)) (b:List Int) (f:Nat) (s:List Bool) (i:Int),C=pre++suf→i=(pre.length:Int)→s.length+3300000*suf.length<600000000000→Laid b f s →
  ∃ (b':List Int) (f':Nat),Z1m.l0 C b (f:Int) i=some (b',(f':Int))∧Laid b' f' (s++Za5 suf):=by
 intro suf
 induction suf with
 | nil =>
  intro pre b f s i h1 hi _ hL;rw[Z1m.l0,if_neg (by rw[h1];simp[hi])];exact⟨b,f,rfl,by simpa[Za5] using hL⟩
 | cons c suf ih =>
  intro pre b f s i h1 hi hs hL;have hlen:C.length=pre.length+(suf.length+1):=by rw[h1];simp
  have hc:=hC c (by rw[h1];simp);obtain⟨e1,_,e3,e4⟩:=hc.enc;have ht:=hc.txt;simp only[List.length_cons] at hs;rw[Z1m.l0,if_pos (by simp;omega),Z06 h1 hi,sb,e1,sb];dsimp only;obtain⟨b1,f1,g1,g2⟩:=text_eq hL (Z80 (encX c)) (by omega) (by omega);rw[g1,sb,Zc (n:=i+1) (by omega) (by omega)];dsimp only;obtain⟨b2,f2,g3,g4⟩:=ih (pre++[c]) b1 f1 _ (i+1) (by simp[h1]) (by simp;omega) (by rw[List.length_append];omega) g2;exact⟨b2,f2,g3,by simpa[Za5] using g4⟩
theorem smpsW {b:List Int} {f:Nat} {s:List Bool} (hL:Laid b f s) {l:List Z7} {C:List (List Z7)} (h:CutX l C) (hl:l.length≤100000) (hs:s.length<200000000000) :
  ∃ (b':List Int) (f':Nat),Z1m.f b (f:Int) l=some (b',(f':Int))∧Laid b' f' (s++Z8s l):=by
 have h3:=h.len;have h2:=Z12 C.length;unfold Z1m.f;rw[h.p,sb,Z39 (by omega) (by omega)];obtain⟨b1,f1,e1,h1⟩:=Z6p hL (by omega) (n:=(C.length:Int)) (by omega) (by omega);rw[e1,sb];dsimp only;rw[Int.toNat_natCast] at h1;obtain⟨b2,f2,e2,h4⟩:=smpsW_l0 C h.ok (by omega) C [] b1 f1 _ 0 rfl rfl (by rw[List.length_append];omega) h1;rw[e2,sb];exact⟨b2,f2,rfl,by rw[Z8s,h.x,← List.append_assoc];exact h4⟩
theorem smpsR_l0 (C:List (List Z7)) (hC:∀ c∈C,Chu c) (hl:C.length≤1000000):∀ (suf pre:List (List Z7)) (s:List Bool) (i:Int),C=pre++suf→i=(pre.length:Int)→s.length+3300000*suf.length<600000000000 →
  Z0i.l0 C (strB s) i=some (strB (s++Za5 suf)):=by
 intro suf
 induction suf with
 | nil=>intro pre s i h1 hi _;rw[Z0i.l0,if_neg (by rw[h1];simp[hi])];simp[Za5]
 | cons c suf ih =>
  intro pre s i h1 hi hs;have hlen:C.length=pre.length+(suf.length+1):=by rw[h1];simp
  have hc:=hC c (by rw[h1];simp);obtain⟨e1,⟨g,hX⟩,e3,e4⟩:=hc.enc;have ht:=hc.txt;obtain⟨x,f,e,hX2⟩:=renc_eq hc.cok hc.ne (fun s hs=>(hc.k s hs).fits);have:=hX.unique hX2;subst this;simp only[List.length_cons] at hs;rw[Z0i.l0,if_pos (by simp;omega),Z06 h1 hi,sb,e,sb,rtext15 _ (by omega),sb,chkB (by rw[Z00,Z00];omega),← Z0s,Zc (n:=i+1) (by omega) (by omega),ih (pre++[c]) _ (i+1) (by simp[h1]) (by simp;omega) (by rw[List.length_append];omega)];simp[Za5]
theorem smpsR {l:List Z7} {C:List (List Z7)} (h:CutX l C) (hl:l.length≤100000):Z0i.f l=some (strB (Z8s l)):=by
 have h3:=h.len;have h2:=Z12 C.length;unfold Z0i.f;rw[h.d,sb,Z39 (by omega) (by omega),Z9w (by omega),sb,smpsR_l0 C h.ok (by omega) C [] _ 0 rfl rfl (by omega),sb,Z8s,h.x]
theorem rise_some:∀ (l:List Z7) (p:Z7),rise (some p) l=true→(∀ s∈l,p.f0<s.f0)∧l.Pairwise (fun a b=>a.f0<b.f0):=by
 intro l
 induction l with
 | nil=>intro p _;simp
 | cons s l ih =>
  intro p h;simp only[rise,good,aft,Bool.and_eq_true,decide_eq_true_eq] at h;obtain⟨h1,h2⟩:=ih s h.2;refine⟨fun x hx => ?_,List.pairwise_cons.2 ⟨h1,h2⟩⟩;rcases List.mem_cons.1 hx with rfl | hx
  ·exact h.1.2
  ·have:=h1 x hx;have:=h.1.2;omega
theorem rise_up {l:List Z7} (h:rise none l=true):l.Pairwise (fun a b=>a.f0<b.f0):=by
 cases l with
 | nil=>simp
 | cons s l =>
  simp only[rise,Bool.and_eq_true] at h;obtain⟨h1,h2⟩:=rise_some l s h.2;exact List.pairwise_cons.2 ⟨h1,h2⟩
theorem rise_sok:∀ (l:List Z7) (p:Option Z7),(∀ s∈l,Fits s.f1)→rise p l=true→∀ s∈l,SOk s:=by
 intro l
 induction l with
 | nil=>simp
 | cons s l ih =>
  intro p hf h x hx;simp only[rise,good,Bool.and_eq_true] at h;rcases List.mem_cons.1 hx with rfl | hx
  ·exact sok_inv (hf x (by simp)) h.1.1
  ·exact ih (some s) (fun y hy=>hf y (by simp[hy])) h.2 x hx
noncomputable def hA (x:Zs):Bool:=x.f3.all fun s=>decide (s.f0≤x.f1)
noncomputable def hT (x:Zs):Bool:=x.f3.all fun s => !hasB x.f2.f0 s.f0
def tA (x:Zs):Bool:=x.f2.f0.all fun r=>decide (r.f1≤x.f1)
noncomputable def Za0 (x:Zs):Bool:=Z4y x.f1&&(rise none x.f3&&(hA x&&(hT x&&(decide (x.f2.f0.length≤65536)&&tA x))))
noncomputable def Z8g:Option ByteArray→List Zs→Bool
 | _,[]=>true
 | p,x::l=>keyB x.f0&&((match p with | none=>true | some q=>bl q x.f0)&&(Za0 x&&Z8g (some x.f0) l))
theorem Zb4 (p:Option ByteArray) (x:Zs) (l:List Zs):Z8g p (x::l)=(keyB x.f0&&((match p with | none=>true | some q=>bl q x.f0)&&(Za0 x&&Z8g (some x.f0) l))):=rfl
def Zbz (n:Int):Bool:=decide (0≤n∧n≤65536)
def Z9l:Option Int→List Int→Bool
 | _,[]=>true
 | p,n::l=>Zbz n&&((match p with | none=>true | some q=>decide (q<n))&&Z9l (some n) l)
theorem Za6 (p:Option Int) (n:Int) (l:List Int):Z9l p (n::l)=(Zbz n&&((match p with | none=>true | some q=>decide (q<n))&&Z9l (some n) l)):=rfl
noncomputable def Z9s (m:Zl):Bool:=Z4y m.f0&&(decide (m.f2.length≤64∧m.f1.length≤256)&&(Z9l none m.f1&&Z8g none m.f2))
def Zbr (pre:List Zs):Option ByteArray:=pre.getLast?.map (·.f0)
structure LK (x:Zs):Prop where
 key:x.f0.size≤2000000
 ap:Z7p x.f2.f0
 tl:x.f2.f0.length≤100000
 hl:x.f3.length≤100000
 hf:∀ s∈x.f3,Fits s.f1∧s.f1.f6.length≤1048576∧s.f1.f7.length≤1048576
structure IM (m:Zl):Prop where
 bl:m.f1.length≤1048576
 ll:m.f2.length≤1048576
 lk:∀ x∈m.f2,LK x
theorem snd_l0 (m:Zl) (hm:m.f1.length≤1048576):∀ (suf pre:List Int) (i:Int),m.f1=pre++suf→i=(pre.length:Int)→Z0w.l0 m i=some (if Z9l pre.getLast? suf=true then .inr () else .inl false):=by
 intro suf
 induction suf with
 | nil=>intro pre i h1 hi;rw[Z0w.l0,if_neg (by rw[h1];simp[hi])];rfl
 | cons n suf ih =>
  intro pre i h1 hi;have hlen:m.f1.length=pre.length+(suf.length+1):=by rw[h1];simp
  rw[Z0w.l0,if_pos (by simp;omega),Z06 h1 hi,sb,Zc (n:=i+1) (by omega) (by omega),ih (pre++[n]) (i+1) (by simp[h1]) (by simp;omega),Za6,show(pre++[n]).getLast? = some n by simp];by_cases k1:n<0
  ·rw[if_pos (by simpa using k1),sb,if_pos rfl,show Zbz n=false by unfold Zbz;rw[decide_eq_false];omega];rfl
  by_cases k2:n>65536
  ·rw[if_neg (by simpa using k1),if_pos (by simpa using k2),sb,if_pos rfl,show Zbz n=false by unfold Zbz;rw[decide_eq_false];omega];rfl
  rw[if_neg (by simpa using k1),if_neg (by simpa using k2),show Zbz n=true by unfold Zbz;rw[decide_eq_true];omega,Bool.true_and];rcases List.eq_nil_or_concat pre with rfl | ⟨p',p,rfl⟩
  ·rw[if_neg (by simp at hi ⊢;omega),sb,if_neg (by simp)];simp
  ·simp only[List.concat_eq_append,List.length_append,List.length_singleton] at hi hlen ⊢
   rw[if_pos (by simp;omega),Zc (n:=i-1) (by omega) (by omega),Z06 (pre:=p') (suf:=n::suf) (x:=p) (by rw[h1];simp) (by omega),sb,sb];by_cases h:p<n
   ·rw[if_neg (by simp;omega)];simp[h]
   ·rw[if_pos (by simp;omega)];simp[h]
theorem last_all {α:Type} (f:α→Int) (t:Int):∀ (l:List α) (x:α),(l++[x]).Pairwise (fun a b=>f a<f b)→((l++[x]).all fun s=>decide (f s≤t))=decide (f x≤t):=by
 intro l x h;rw[List.all_append];have hp:=List.pairwise_append.1 h;by_cases c:f x≤t
 ·have:(l.all fun s=>decide (f s≤t))=true:=List.all_eq_true.2 (fun s hs=>by have:=hp.2.2 s hs x (by simp);simp;omega)
  rw[this];simp
 ·simp[c]
theorem kept_len (x:Zs):(((kept x.f2.f0 x.f3).length:Int) != (x.f3.length:Int)) = !hT x:=by
 unfold hT kept;have key:∀ l:List Z7,((l.filter (fun s => !hasB x.f2.f0 s.f0)).length=l.length)↔(l.all fun s => !hasB x.f2.f0 s.f0)=true:=by
  intro l;rw[List.length_filter_eq_length_iff,List.all_eq_true]
 have:=key x.f3;cases h:(x.f3.all fun s => !hasB x.f2.f0 s.f0) with
 | true=>rw[h] at this;have:=this.2 rfl;rw[this];simp
 | false =>
  rw[h] at this;have h2:¬ (x.f3.filter (fun s => !hasB x.f2.f0 s.f0)).length=x.f3.length:=fun e=>by simpa using this.1 e
  simp;omega
theorem gap_up {l:List Z1} (h:Z7p l):l.Pairwise (fun a b=>a.f1<b.f1):=by
 refine List.Pairwise.imp_of_mem ?_ h.gap;intro a b ha hb hab;have:=h.right b hb;have:=this.2.1;omega
theorem tranges (s:Z37) (h:s.f0.length≤100000):Z1e.f s=some s.f0:=ranges_eq s (by omega)
theorem nt {b:Bool} (h:¬ b=true):(!b)=true:=by cases b<;>simp_all
def tailS (x:Zs         ) (rest:Option (Bool ⊕ Unit)):Option (Bool ⊕ Unit) :=
  (((if(decide ((x.f3.length:Int)>(0:Int)))=true then((at? x.f3 (i64.wrap ((x.f3.length:Int)-(1:Int))))>>=fun b9489=>if(decide (b9489.f0>x.f1))=true then(some true) else((Z1e.f x.f2)>>=fun t9493=>some (decide ((t9493.length:Int)>(65536:Int))))) else((Z1e.f x.f2)>>=fun t9495=>some (decide ((t9495.length:Int)>(65536:Int))))):Option (Bool))>>=fun x9497=>if x9497=true then(some (.inl false)) else((Z1e.f x.f2)>>=fun t9501=>((if(decide ((t9501.length:Int)>(0:Int)))=true then((at? t9501 (i64.wrap ((t9501.length:Int)-(1:Int))))>>=fun b9513=>if(decide (b9513.f1>x.f1))=true then(some true) else((Z31.f x.f2 x.f3)>>=fun t9517=>some ((t9517.length:Int) != (x.f3.length:Int)))) else((Z31.f x.f2 x.f3)>>=fun t9519=>some ((t9519.length:Int) != (x.f3.length:Int)))):Option (Bool))>>=fun x9521=>if x9521=true then(some (.inl false)) else rest))
theorem snd_tail (x:Zs) (hx:LK x) (hr:rise none x.f3=true) (rest:Option (Bool ⊕ Unit)) :
  tailS x rest=(if(hA x&&(hT x&&(decide (x.f2.f0.length≤65536)&&tA x)))=true then rest else some (.inl false)):=by
 unfold tailS;have htl:=hx.tl;have hhl:=hx.hl;have hk:Z31.f x.f2 x.f3=some (kept x.f2.f0 x.f3):=t_keep_eq x.f2.f0 (by omega) hx.ap x.f3 (by omega);rw[tranges x.f2 htl,hk];have c1:((if(decide ((x.f3.length:Int)>(0:Int)))=true then((at? x.f3 (i64.wrap ((x.f3.length:Int)-(1:Int))))>>=fun b9489=>if(decide (b9489.f0>x.f1))=true then(some true) else((some x.f2.f0)>>=fun t9493=>some (decide ((t9493.length:Int)>(65536:Int))))) else((some x.f2.f0)>>=fun t9495=>some (decide ((t9495.length:Int)>(65536:Int))))):Option (Bool))=some (!(hA x&&decide (x.f2.f0.length≤65536))):=by
  have hd:decide ((x.f2.f0.length:Int)>65536) = !decide (x.f2.f0.length≤65536):=by
   by_cases h:x.f2.f0.length≤65536
   ·rw[decide_eq_true h,decide_eq_false (by omega)];rfl
   ·rw[decide_eq_false h,decide_eq_true (by omega)];rfl
  rw[sb,hd];rcases List.eq_nil_or_concat x.f3 with h0 | ⟨q,z,h0⟩
  ·rw[if_neg (by rw[h0];simp)]
   have:hA x=true:=by unfold hA;rw[h0];rfl
   rw[this,Bool.true_and]
  ·rw[List.concat_eq_append] at h0
   have hq:x.f3.length=q.length+1:=by rw[h0];simp
   have:hA x=decide (z.f0≤x.f1):=by unfold hA;rw[h0];exact last_all (·.f0) x.f1 q z (h0 ▸ rise_up hr)
   rw[this,if_pos (by simp;omega),Zc (by omega) (by omega),show at? x.f3 ((x.f3.length:Int)-1)=some z from Z06 (pre:=q) (suf:=[]) h0 (by omega),sb];by_cases h:z.f0≤x.f1
   ·rw[if_neg (by simp;omega),decide_eq_true h,Bool.true_and]
   ·rw[if_pos (by simp;omega),decide_eq_false h];rfl
 rw[c1,sb];by_cases g1:(hA x&&decide (x.f2.f0.length≤65536))=true
 case neg =>
  rw[if_pos (nt g1),if_neg (fun h=>g1 (by simp only[Bool.and_eq_true] at h ⊢;exact⟨h.1,h.2.2.1⟩))]
 rw[if_neg (by simp[g1]),sb];rw[Bool.and_eq_true] at g1;rw[g1.1,g1.2,Bool.true_and,Bool.true_and];have c2:((if(decide ((x.f2.f0.length:Int)>(0:Int)))=true then((at? x.f2.f0 (i64.wrap ((x.f2.f0.length:Int)-(1:Int))))>>=fun b9513=>if(decide (b9513.f1>x.f1))=true then(some true) else((some (kept x.f2.f0 x.f3))>>=fun t9517=>some ((t9517.length:Int) != (x.f3.length:Int)))) else((some (kept x.f2.f0 x.f3))>>=fun t9519=>some ((t9519.length:Int) != (x.f3.length:Int)))):Option (Bool))=some (!(hT x&&tA x)):=by
  rw[sb,kept_len];rcases List.eq_nil_or_concat x.f2.f0 with h0 | ⟨q,z,h0⟩
  ·rw[if_neg (by rw[h0];simp)]
   have:tA x=true:=by unfold tA;rw[h0];rfl
   rw[this,Bool.and_true]
  ·rw[List.concat_eq_append] at h0
   have hq:x.f2.f0.length=q.length+1:=by rw[h0];simp
   have:tA x=decide (z.f1≤x.f1):=by unfold tA;rw[h0];exact last_all (·.f1) x.f1 q z (h0 ▸ gap_up hx.ap)
   rw[this,if_pos (by simp;omega),Zc (by omega) (by omega),show at? x.f2.f0 ((x.f2.f0.length:Int)-1)=some z from Z06 (pre:=q) (suf:=[]) h0 (by omega),sb];by_cases h:z.f1≤x.f1
   ·rw[if_neg (by simp;omega),decide_eq_true h,Bool.and_true]
   ·rw[if_pos (by simp;omega),decide_eq_false h];simp
 rw[c2,sb];by_cases g2:(hT x&&tA x)=true
 ·rw[if_neg (by simp[g2]),if_pos g2]
 ·rw[if_pos (nt g2),if_neg g2]
theorem snd_l1 (m:Zl) (hm:IM m):∀ (suf pre:List Zs) (i:Int),m.f2=pre++suf→i=(pre.length:Int)→Z0w.l1 m i=some (if Z8g (Zbr pre) suf=true then .inr () else .inl false):=by
 have hll:=hm.ll;intro suf
 induction suf with
 | nil=>intro pre i h1 hi;rw[Z0w.l1,if_neg (by rw[h1];simp[hi])];rfl
 | cons x suf ih =>
  intro pre i h1 hi;have hlen:m.f2.length=pre.length+(suf.length+1):=by rw[h1];simp
  have hx:=hm.lk x (by rw[h1];simp);have hhl:=hx.hl;have tail:∀ c:Bool,((((if(decide (x.f1<(0:Int)))=true then(some true) else(if(decide (x.f1>(1099511627776:Int)))=true then(some true) else((Z1h.f x.f3)>>=fun t9475=>some (!t9475)))):Option (Bool)))=some (!(Z4y x.f1&&rise none x.f3))):=fun _=>by
   rw[ris_eq _ (by omega) (fun s hs=>(hx.hf s hs).1),sb];unfold Z4y;by_cases k1:x.f1<0
   ·rw[if_pos (by simpa using k1),decide_eq_false (by omega)];rfl
   by_cases k2:x.f1>1099511627776
   ·rw[if_neg (by simpa using k1),if_pos (by simpa using k2),decide_eq_false (by omega)];rfl
   ·rw[if_neg (by simpa using k1),if_neg (by simpa using k2),decide_eq_true (by omega),Bool.true_and]
  rw[Z0w.l1,if_pos (by simp;omega),Z06 h1 hi,sb,key_eq _ hx.key,sb,Zc (n:=i+1) (by omega) (by omega),ih (pre++[x]) (i+1) (by simp[h1]) (by simp;omega),show Zbr (pre++[x])=some x.f0 by simp[Zbr],Zb4];cases keyB x.f0
  ·simp[sb]
  rw[if_neg (by simp),Bool.true_and];have fin:∀ prevOK:Bool,(some (!prevOK || !(Z4y x.f1&&rise none x.f3)):Option Bool)=some (!(prevOK&&(Z4y x.f1&&rise none x.f3))):=fun b=>by cases b<;>simp
  have main:∀ (prevOK:Bool),((some (!(prevOK&&(Z4y x.f1&&rise none x.f3))))>>=fun x9477=>if x9477=true then(some (.inl false)) else tailS x (some (if Z8g (some x.f0) suf=true then .inr () else .inl false)):Option (Bool ⊕ Unit)) =
    (some (if(prevOK&&(Za0 x&&Z8g (some x.f0) suf))=true then .inr () else .inl false):Option (Bool ⊕ Unit)):=by
   intro prevOK;rw[sb];by_cases g:(prevOK&&(Z4y x.f1&&rise none x.f3))=true
   case neg =>
    rw[if_pos (nt g),if_neg (fun h=>g (by unfold Za0 at h;simp only[Bool.and_eq_true] at h ⊢;exact⟨h.1,h.2.1.1,h.2.1.2.1⟩))]
   rw[if_neg (by simp[g])];simp only[Bool.and_eq_true] at g;rw[snd_tail x hx g.2.2 _];unfold Za0;rw[g.1,g.2.1,g.2.2,Bool.true_and,Bool.true_and,Bool.true_and];cases (hA x&&(hT x&&(decide (x.f2.f0.length≤65536)&&tA x)))<;>simp
  rcases List.eq_nil_or_concat pre with rfl | ⟨p',p,rfl⟩
  ·rw[if_neg (by simp at hi ⊢;omega),tail true,show Zbr   []=none from rfl]
   exact main true
  ·simp only[List.concat_eq_append,List.length_append,List.length_singleton] at hi hlen ⊢
   rw[if_pos (by simp;omega),Zc (n:=i-1) (by omega) (by omega),Z06 (pre:=p') (suf:=x::suf) (x:=p) (by rw[h1];simp) (by omega),sb,show Zbr (p'++[p])=some p.f0 by simp[Zbr]];have hb:(if(!Op.bytesLess p.f0.toList x.f0.toList)=true then(some true) else(if(decide (x.f1<(0:Int)))=true then(some true) else(if(decide (x.f1>(1099511627776:Int)))=true then(some true) else((Z1h.f x.f3)>>=fun t9471=>some (!t9471)))):Option Bool)=some (!(bl p.f0 x.f0&&(Z4y x.f1&&rise none x.f3))):=by
    cases h:bl p.f0 x.f0 with
    | true=>rw[if_neg (by have:Op.bytesLess p.f0.toList x.f0.toList=true:=h;rw[this];simp),tail true,Bool.true_and]
    | false=>rw[if_pos (by have:Op.bytesLess p.f0.toList x.f0.toList=false:=h;rw[this];rfl)];rfl
   rw[hb];exact main (bl p.f0 x.f0)
theorem Zdw (m:Zl) (hm:IM m):Z0w.f m=some (Z9s m):=by
 have hbl:=hm.bl;have hll:=hm.ll;unfold Z0w.f Z9s;have c0:((if(decide (m.f0<(0:Int)))=true then(some true) else(if(decide (m.f0>(1099511627776:Int)))=true then(some true) else(if(decide ((m.f2.length:Int)>(64:Int)))=true then(some true) else(some (decide ((m.f1.length:Int)>(256:Int))))))):Option (Bool))=some (!(Z4y m.f0&&decide (m.f2.length≤64∧m.f1.length≤256))):=by
  unfold Z4y;by_cases k1:m.f0<0
  ·rw[if_pos (by simpa using k1),decide_eq_false (by omega)];rfl
  by_cases k2:m.f0>1099511627776
  ·rw[if_neg (by simpa using k1),if_pos (by simpa using k2),decide_eq_false (by omega)];rfl
  rw[if_neg (by simpa using k1),if_neg (by simpa using k2),decide_eq_true (show 0≤m.f0∧m.f0≤1099511627776 by omega),Bool.true_and];by_cases k3:m.f2.length≤64
  ·rw[if_neg (by simp;omega)]
   congr 1;by_cases k4:m.f1.length≤256
   ·rw[decide_eq_false (by omega),decide_eq_true ⟨k3,k4⟩];rfl
   ·rw[decide_eq_true (by omega),decide_eq_false (by omega)];rfl
  ·rw[if_pos (by simp;omega),decide_eq_false (by omega)];rfl
 rw[c0,sb];by_cases g:(Z4y m.f0&&decide (m.f2.length≤64∧m.f1.length≤256))=true
 case neg =>
  rw[if_pos (nt g)];congr 1;symm;rw[Bool.eq_false_iff];intro h;simp only[Bool.and_eq_true] at h;exact g (by rw[Bool.and_eq_true];exact⟨h.1,h.2.1⟩)
 rw[if_neg (by rw[g];simp),snd_l0 m (by omega) m.f1 [] 0 rfl rfl,sb,show([]:List Int).getLast? = none from rfl];rw[Bool.and_eq_true] at g;rw[g.1,g.2,Bool.true_and,Bool.true_and];cases Z9l none m.f1 with
 | false=>rfl
 | true =>
  rw[if_pos rfl];dsimp only;rw[snd_l1 m hm m.f2 [] 0 rfl rfl,sb,show Zbr []=none from rfl];cases Z8g none m.f2<;>rfl
def Z5w (x:Zs):Z1o:=⟨x.f0,x.f1,x.f2.f0,x.f3⟩
def seen (m:Zl):Z0c:=⟨m.f0,m.f1,m.f2.map Z5w⟩
theorem seen_l1 (m:Zl) (x:Zs) (t:List Z1) (o:List Z1o) (k:Int) (ht:t.length≤100000):∀ (suf pre:List Z1) (i:Int),t=pre++suf→i=(pre.length:Int)→Z2s.l1 m x t o k pre i=some t:=by
 intro suf
 induction suf with
 | nil=>intro pre i h1 hi;rw[Z2s.l1,if_neg (by rw[h1];simp[hi]),h1];simp
 | cons r suf ih =>
  intro pre i h1 hi;have hlen:t.length=pre.length+(suf.length+1):=by rw[h1];simp
  rw[Z2s.l1,if_pos (by simp;omega),Z06 h1 hi,sb,chkB (by simp;omega),Zc (n:=i+1) (by omega) (by omega)];exact ih (pre++[r]) (i+1) (by simp[h1]) (by simp;omega)
theorem seen_l0 (m:Zl) (hl:m.f2.length≤1048576) (hm:∀ x∈m.f2,x.f2.f0.length≤100000):∀ (suf pre:List Zs) (i:Int),m.f2=pre++suf→i=(pre.length:Int)→Z2s.l0 m (pre.map Z5w) i=some (m.f2.map Z5w):=by
 intro suf
 induction suf with
 | nil=>intro pre i h1 hi;rw[Z2s.l0,if_neg (by rw[h1];simp[hi]),h1];simp
 | cons x suf ih =>
  intro pre i h1 hi;have hlen:m.f2.length=pre.length+(suf.length+1):=by rw[h1];simp
  have hx:=hm x (by rw[h1];simp);rw[Z2s.l0,if_pos (by simp;omega),Z06 h1 hi,sb,tranges _ hx,sb,seen_l1 m x _ _ _ hx x.f2.f0 [] 0 rfl rfl,sb,chkB (by simp;omega),Zc (n:=i+1) (by omega) (by omega)];have:=ih (pre++[x]) (i+1) (by simp[h1]) (by simp;omega);rw[List.map_append] at this;exact this
theorem seen15 (m:Zl) (hl:m.f2.length≤1048576) (hm:∀ x∈m.f2,x.f2.f0.length≤100000):Z2s.f m=some (seen m):=by
 unfold Z2s.f;rw[show([]:List Z1o)=([]:List Zs).map Z5w from rfl,seen_l0 m hl hm m.f2 [] 0 rfl rfl,sb];rfl
theorem rsn_l0 (m:Z0c) (hm:m.f1.length≤1048576):∀ (suf pre:List Int) (i:Int),m.f1=pre++suf→i=(pre.length:Int)→Z0p.l0 m i=some (if Z9l pre.getLast? suf=true then .inr () else .inl false):=by
 intro suf
 induction suf with
 | nil=>intro pre i h1 hi;rw[Z0p.l0,if_neg (by rw[h1];simp[hi])];rfl
 | cons n suf ih =>
  intro pre i h1 hi;have hlen:m.f1.length=pre.length+(suf.length+1):=by rw[h1];simp
  rw[Z0p.l0,if_pos (by simp;omega),Z06 h1 hi,sb,Zc (n:=i+1) (by omega) (by omega),ih (pre++[n]) (i+1) (by simp[h1]) (by simp;omega),Za6,show(pre++[n]).getLast? = some n by simp];by_cases k1:n<0
  ·rw[if_pos (by simpa using k1),sb,if_pos rfl,show Zbz n=false by unfold Zbz;rw[decide_eq_false];omega];rfl
  by_cases k2:n>65536
  ·rw[if_neg (by simpa using k1),if_pos (by simpa using k2),sb,if_pos rfl,show Zbz n=false by unfold Zbz;rw[decide_eq_false];omega];rfl
  rw[if_neg (by simpa using k1),if_neg (by simpa using k2),show Zbz n=true by unfold Zbz;rw[decide_eq_true];omega,Bool.true_and];rcases List.eq_nil_or_concat pre with rfl | ⟨p',p,rfl⟩
  ·rw[if_neg (by simp at hi ⊢;omega),sb,if_neg (by simp)];simp
  ·simp only[List.concat_eq_append,List.length_append,List.length_singleton] at hi hlen ⊢
   rw[if_pos (by simp;omega),Zc (n:=i-1) (by omega) (by omega),Z06 (pre:=p') (suf:=n::suf) (x:=p) (by rw[h1];simp) (by omega),sb,sb];by_cases h:p<n
   ·rw[if_neg (by simp;omega)];simp[h]
   ·rw[if_pos (by simp;omega)];simp[h]
theorem rsn_l2 (m:Z0c) (x:Z1o) (k:Int) (hl:x.f3.length≤100000) (ht:x.f2.length≤100000):∀ (suf pre:List Z7) (i:Int),x.f3=pre++suf→i=(pre.length:Int) →
  Z0p.l2 m x k i=some (if(suf.all fun s=>decide (s.f0≤x.f1) && !hasB x.f2 s.f0)=true then .inr () else .inl false):=by
 intro suf
 induction suf with
 | nil=>intro pre i h1 hi;rw[Z0p.l2,if_neg (by rw[h1];simp[hi])];rfl
 | cons s suf ih =>
  intro pre i h1 hi;have hlen:x.f3.length=pre.length+(suf.length+1):=by rw[h1];simp
  rw[Z0p.l2,if_pos (by simp;omega),Z06 h1 hi,sb,refHas _ _ (by omega),sb,Zc (n:=i+1) (by omega) (by omega),ih (pre++[s]) (i+1) (by simp[h1]) (by simp;omega),List.all_cons];by_cases c:s.f0≤x.f1
  ·rw[if_neg (by simp;omega),sb,decide_eq_true c,Bool.true_and]
   cases hasB x.f2 s.f0<;>simp
  ·rw[if_pos (by simp;omega),sb,if_pos rfl,decide_eq_false c];rfl
theorem rsn_l3 (m:Z0c) (x:Z1o) (k:Int) (ht:x.f2.length≤100000):∀ (suf pre:List Z1) (i:Int),x.f2=pre++suf→i=(pre.length:Int) →
  Z0p.l3 m x k i=some (if(suf.all fun r=>decide (r.f1≤x.f1))=true then .inr () else .inl false):=by
 intro suf
 induction suf with
 | nil=>intro pre i h1 hi;rw[Z0p.l3,if_neg (by rw[h1];simp[hi])];rfl
 | cons s suf ih =>
  intro pre i h1 hi;have hlen:x.f2.length=pre.length+(suf.length+1):=by rw[h1];simp
  rw[Z0p.l3,if_pos (by simp;omega),Z06 h1 hi,sb,Zc (n:=i+1) (by omega) (by omega),ih (pre++[s]) (i+1) (by simp[h1]) (by simp;omega),List.all_cons];by_cases c:s.f1≤x.f1
  ·rw[if_neg (by simp;omega),decide_eq_true c,Bool.true_and]
  ·rw[if_pos (by simp;omega),decide_eq_false c];rfl
theorem all_and {α:Type} (p q:α→Bool) (l:List α):(l.all fun s=>p s&&q s)=(l.all p&&l.all q):=by
 induction l with
 | nil=>rfl
 | cons x l ih=>simp only[List.all_cons,ih];cases p x<;>cases q x<;>simp
theorem rsn_l1 (mm:Zl) (hm:IM mm):∀ (suf pre:List Zs) (i:Int),mm.f2=pre++suf→i=(pre.length:Int)→Z0p.l1 (seen mm) i=some (if Z8g (Zbr pre) suf=true then .inr () else .inl false):=by
 have hll:=hm.ll;have hlm:(seen mm).f2.length=mm.f2.length:=by show(mm.f2.map Z5w).length=_;simp
 intro suf
 induction suf with
 | nil=>intro pre i h1 hi;rw[Z0p.l1,if_neg (by rw[hlm,h1];simp[hi])];rfl
 | cons x suf ih =>
  intro pre i h1 hi;have hlen:mm.f2.length=pre.length+(suf.length+1):=by rw[h1];simp
  have hx:=hm.lk x (by rw[h1];simp);have hhl:=hx.hl;have htl:=hx.tl;have hs:(seen mm).f2=pre.map Z5w++Z5w x::suf.map Z5w:=by show mm.f2.map Z5w=_;rw[h1];simp
  have tail:((Z2a.f x.f1)>>=fun t9113=>if(!t9113)=true then(some true) else((Z2b.f x.f3)>>=fun t9116=>some (!t9116)):Option Bool)=some (!(Z4y x.f1&&rise none x.f3)):=by
   rw[rtime,sb,rris_eq _ (by omega) (fun s hs=>⟨(hx.hf s hs).1,by have:=(hx.hf s hs).2.1;omega,by have:=(hx.hf s hs).2.2;omega⟩),sb];cases Z4y x.f1<;>simp
  rw[Z0p.l1,if_pos (by rw[hlm];simp;omega),Z06 (pre:=pre.map Z5w) (suf:=suf.map Z5w) hs (by simp[hi]),sb];show((((Z2m.f x.f0)>>=_:Option Bool))>>=_:Option (Bool ⊕ Unit))=_;rw[rkey15 _ hx.key,sb,Zc (n:=i+1) (by omega) (by omega),ih (pre++[x]) (i+1) (by simp[h1]) (by simp;omega),show Zbr (pre++[x])=some x.f0 by simp[Zbr],Zb4];cases keyB x.f0
  ·simp[sb]
  rw[if_neg (by simp),Bool.true_and];have l2:=rsn_l2 (seen mm) (Z5w x) i hhl htl x.f3 [] 0 rfl rfl;have l3:=rsn_l3 (seen mm) (Z5w x) i htl x.f2.f0 [] 0 rfl rfl;have e2:(x.f3.all fun s=>decide (s.f0≤(Z5w x).f1) && !hasB (Z5w x).f2 s.f0)=(hA x&&hT x):=all_and _ _ _;have main:∀ (prevOK:Bool),((some (!(prevOK&&(Z4y x.f1&&rise none x.f3))))>>=fun x9118=>if x9118=true then(some (.inl false)) else((Z0p.l2 (seen mm) (Z5w x) i 0)>>=fun oo=>match oo with | .inl rr=>(some (.inl rr)) | .inr _=>(if(decide (((Z5w x).f2.length:Int)>(65536:Int)))=true then(some (.inl false)) else((Z0p.l3 (seen mm) (Z5w x) i 0)>>=fun oo=>match oo with | .inl rr=>(some (.inl rr)) | .inr _=>(some (if Z8g (some x.f0) suf=true then .inr () else .inl false))))):Option (Bool ⊕ Unit)) =
    (some (if(prevOK&&(Za0 x&&Z8g (some x.f0) suf))=true then .inr () else .inl false):Option (Bool ⊕ Unit)):=by
   intro prevOK;rw[sb];by_cases g:(prevOK&&(Z4y x.f1&&rise none x.f3))=true
   case neg =>
    rw[if_pos (nt g),if_neg (fun h=>g (by unfold Za0 at h;simp only[Bool.and_eq_true] at h ⊢;exact⟨h.1,h.2.1.1,h.2.1.2.1⟩))]
   rw[if_neg (by rw[g];simp),l2,e2,sb];simp only[Bool.and_eq_true] at g;unfold Za0;rw[g.1,g.2.1,g.2.2,Bool.true_and,Bool.true_and,Bool.true_and];cases hA x
   ·rfl
   cases hT x
   ·rfl
   simp only[Bool.true_and,if_true];show(if(decide ((x.f2.f0.length:Int)>(65536:Int)))=true then _ else _)=_;by_cases c:x.f2.f0.length≤65536
   ·rw[if_neg (by simp;omega),l3,sb,decide_eq_true c,Bool.true_and]
    show(match (if tA x=true then Sum.inr () else Sum.inl false:Bool ⊕ Unit) with | .inl rr=>(some (.inl rr)) | .inr _=>(some (if Z8g (some x.f0) suf=true then .inr () else .inl false)):Option (Bool ⊕ Unit))=_;cases tA x<;>simp
   ·rw[if_pos (by simp;omega),decide_eq_false c];rfl
  rcases List.eq_nil_or_concat pre with rfl | ⟨p',p,rfl⟩
  ·rw[if_neg (by simp at hi ⊢;omega)]
   show((((Z2a.f x.f1)>>=fun t9113=>if(!t9113)=true then(some true) else((Z2b.f x.f3)>>=fun t9116=>some (!t9116)):Option Bool))>>=_:Option (Bool ⊕ Unit))=_;rw[tail,show Zbr []=none from rfl];exact main true
  ·simp only[List.concat_eq_append,List.length_append,List.length_singleton] at hi hlen hs ⊢
   have hs':(seen mm).f2=p'.map Z5w++Z5w p::(Z5w x::suf.map Z5w):=by rw[hs];simp
   rw[if_pos (by simp;omega),Zc (n:=i-1) (by omega) (by omega),Z06 (pre:=p'.map Z5w) (suf:=Z5w x::suf.map Z5w) (x:=Z5w p) hs' (by simp;omega),sb,show Zbr (p'++[p])=some p.f0 by simp[Zbr]];have hb:(if(Op.bytesLess x.f0.toList p.f0.toList||x.f0.toList==p.f0.toList)=true then(some true) else((Z2a.f x.f1)>>=fun t9108=>if(!t9108)=true then(some true) else((Z2b.f x.f3)>>=fun t9111=>some (!t9111))):Option Bool)=some (!(bl p.f0 x.f0&&(Z4y x.f1&&rise none x.f3))):=by
    rw[le_not_lt];cases h:bl p.f0 x.f0 with
    | true=>rw[if_neg (by simp),tail,Bool.true_and]
    | false=>rw[if_pos (show(!false)=true from rfl)];rfl
   show((((if(Op.bytesLess x.f0.toList p.f0.toList||x.f0.toList==p.f0.toList)=true then(some true) else((Z2a.f x.f1)>>=fun t9108=>if(!t9108)=true then(some true) else((Z2b.f x.f3)>>=fun t9111=>some (!t9111))):Option Bool))>>=_:Option (Bool ⊕ Unit)))=_;rw[hb];exact main (bl p.f0 x.f0)
theorem rsound15 (m:Zl) (hm:IM m):Z0p.f (seen m)=some (Z9s m):=by
 have hbl:=hm.bl;have hll:=hm.ll;have hlm:(seen m).f2.length=m.f2.length:=by show(m.f2.map Z5w).length=_;simp
 unfold Z0p.f Z9s;have c0:((Z2a.f (seen m).f0)>>=fun t8873=>if(!t8873)=true then(some true) else(if(decide (((seen m).f1.length:Int)>(256:Int)))=true then(some true) else(some (decide (((seen m).f2.length:Int)>(64:Int))))):Option (Bool))=some (!(Z4y m.f0&&decide (m.f2.length≤64∧m.f1.length≤256))):=by
  rw[hlm];show((Z2a.f m.f0)>>=fun t8873=>if(!t8873)=true then(some true) else(if(decide ((m.f1.length:Int)>(256:Int)))=true then(some true) else(some (decide ((m.f2.length:Int)>(64:Int))))):Option (Bool))=_;rw[rtime,sb];cases Z4y m.f0
  ·rfl
  rw[if_neg (by simp),Bool.true_and];by_cases k4:m.f1.length≤256
  ·rw[if_neg (by simp;omega)]
   congr 1;by_cases k3:m.f2.length≤64
   ·rw[decide_eq_false (by omega),decide_eq_true ⟨k3,k4⟩];rfl
   ·rw[decide_eq_true (by omega),decide_eq_false (by omega)];rfl
  ·rw[if_pos (by simp;omega),decide_eq_false (by omega)];rfl
 rw[c0,sb];by_cases g:(Z4y m.f0&&decide (m.f2.length≤64∧m.f1.length≤256))=true
 case neg =>
  rw[if_pos (nt g)];congr 1;symm;rw[Bool.eq_false_iff];intro h;simp only[Bool.and_eq_true] at h;exact g (by rw[Bool.and_eq_true];exact⟨h.1,h.2.1⟩)
 rw[if_neg (by rw[g];simp),rsn_l0 (seen m) hbl m.f1 [] 0 rfl rfl,sb,show([]:List Int).getLast? = none from rfl];rw[Bool.and_eq_true] at g;rw[g.1,g.2,Bool.true_and,Bool.true_and];cases Z9l none m.f1 with
 | false=>rfl
 | true =>
  rw[if_pos rfl];dsimp only;rw[rsn_l1 m hm m.f2 [] 0 rfl rfl,sb,show Zbr []=none from rfl];cases Z8g none m.f2<;>rfl
def setB (l:List Z1):List Bool:=cnt2 l.length++layB 0 l
def Z6t (x:Zs):List Bool:=Z6n x.f0++(cnt2 x.f1.toNat++(setB x.f2.f0++Z8s x.f3))
def Z7q (l:List Int):List Bool:=l.flatMap fun n=>cnt2 n.toNat
def imgB (m:Zl):List Bool:=cnt2 m.f0.toNat++(cnt2 m.f1.length++(Z7q m.f1++(cnt2 m.f2.length++m.f2.flatMap Z6t)))
structure LL (x:Zs):Prop where
 key:x.f0.size≤2080
 last:0≤x.f1∧x.f1≤1099511627776
 ap:Z7p x.f2.f0
 tl:x.f2.f0.length≤100000
 hl:x.f3.length≤100000
 hs:∀ s∈x.f3,SOk s
def lineW (x:Zs):Nat:=15000000+3300000*x.f3.length
def sumW (l:List Zs):Nat:=(l.map lineW).sum
theorem Zbg (x:Zs) (l:List Zs):sumW (x::l)=lineW x+sumW l:=by simp[sumW]
theorem setB_len (l:List Z1):(setB l).length≤71+142*l.length:=by
 have h1:=Z12 l.length;have h2:=layB_len l 0;rw[setB,List.length_append];omega
theorem Zed {x:Zs} (h:LL x):(Z6t x).length≤lineW x:=by
 have hl:=h.hl;have ht:=h.tl;obtain⟨C,hC⟩:=cutX_ok x.f3 (by omega) h.hs;have h1:=smpsB_len hC;have h2:=setB_len x.f2.f0;have h3:=Z12 x.f1.toNat;have h4:=Zbf x.f0;have h5:=h.key;unfold lineW;rw[Z6t,List.length_append,List.length_append,List.length_append];omega
structure IL (m:Zl):Prop where
 mark:0≤m.f0∧m.f0≤1099511627776
 bl:m.f1.length≤256
 blk:∀ n∈m.f1,0≤n∧n≤65536
 ll:m.f2.length≤64
 lk:∀ x∈m.f2,LL x
 w:sumW m.f2≤90000000000
theorem blocksB_mem:∀ (l:List Int) (p:Option Int),Z9l p l=true→∀ n∈l,0≤n∧n≤65536:=by
 intro l
 induction l with
 | nil=>simp
 | cons y l ih =>
  intro p h n hn;rw[Za6] at h;simp only[Bool.and_eq_true] at h;rcases List.mem_cons.1 hn with rfl | hn
  ·exact of_decide_eq_true h.1
  ·exact ih _ h.2.2 n hn
theorem Zfc:∀ (l:List Zs) (p:Option ByteArray),Z8g p l=true→∀ x∈l,keyB x.f0=true∧Za0 x=true:=by
 intro l
 induction l with
 | nil=>simp
 | cons y l ih =>
  intro p h n hn;rw[Zb4] at h;simp only[Bool.and_eq_true] at h;rcases List.mem_cons.1 hn with rfl | hn
  ·exact⟨h.1,h.2.2.1⟩
  ·exact ih _ h.2.2.2 n hn
theorem il_of {m:Zl} (hm:IM m) (h:Z9s m=true) (hw:sumW m.f2≤90000000000):IL m:=by
 unfold Z9s at h;simp only[Bool.and_eq_true,decide_eq_true_eq] at h;obtain⟨h1,h2,h3,h4⟩:=h;unfold Z4y at h1;refine⟨of_decide_eq_true h1,h2.2,blocksB_mem _ _ h3,h2.1,fun x hx => ?_,hw⟩;have hk:=hm.lk x hx;obtain⟨k1,k2⟩:=Zfc _ _ h4 x hx;unfold Za0 at k2;simp only[Bool.and_eq_true] at k2;have k3:=k2.1;unfold Z4y at k3;exact⟨key_short hk.key k1,of_decide_eq_true k3,hk.ap,hk.tl,hk.hl,rise_sok _ _ (fun s hs=>(hk.hf s hs).1) k2.2.1⟩
theorem Zeq (l:List Int):(Z7q l).length≤71*l.length:=flat_le (fun n:Int=>cnt2 n.toNat) 71 l (fun n _=>Z12 _)
theorem linesB_len:∀ (l:List Zs),(∀ x∈l,LL x)→(l.flatMap Z6t).length≤sumW l:=by
 intro l
 induction l with
 | nil=>simp[sumW]
 | cons x l ih =>
  intro h;have h1:=Zed (h x (by simp));have h2:=ih (fun y hy=>h y (by simp[hy]));rw[List.flatMap_cons,List.length_append,Zbg];omega
theorem imgB_len {m:Zl} (h:IL m):(imgB m).length≤90000100000:=by
 have h1:=Z12 m.f0.toNat;have h2:=Z12 m.f1.length;have h3:=Zeq m.f1;have h4:=Z12 m.f2.length;have h5:=linesB_len m.f2 h.lk;have h6:=h.w;have h7:=h.bl;rw[imgB,List.length_append,List.length_append,List.length_append,List.length_append];omega
theorem sto_l0 (m:Zl) (hl:m.f1.length≤256):∀ (suf pre:List Int) (b:List Int) (f:Nat) (s:List Bool) (i:Int),m.f1=pre++suf→i=(pre.length:Int)→(∀ n∈suf,0≤n∧n≤65536)→s.length+71*suf.length<1000000→Laid b f s →
  ∃ (b':List Int) (f':Nat),Z14.l0 m b (f:Int) i=some (b',(f':Int))∧Laid b' f' (s++Z7q suf):=by
 intro suf
 induction suf with
 | nil =>
  intro pre b f s i h1 hi _ _ hL;rw[Z14.l0,if_neg (by rw[h1];simp[hi])];exact⟨b,f,rfl,by simpa[Z7q] using hL⟩
 | cons n suf ih =>
  intro pre b f s i h1 hi hx hs hL;have hlen:m.f1.length=pre.length+(suf.length+1):=by rw[h1];simp
  have hn:=hx n (by simp);have hc:=Z12 n.toNat;simp only[List.length_cons] at hs;rw[Z14.l0,if_pos (by simp;omega),Z06 h1 hi,sb,Z39 (n:=n) (by omega) (by omega)];obtain⟨b1,f1,e1,h2⟩:=Z6p hL (by omega) (n:=n) (by omega) (by omega);rw[e1,sb,Zc (n:=i+1) (by omega) (by omega)];dsimp only;obtain⟨b2,f2,e2,h3⟩:=ih (pre++[n]) b1 f1 _ (i+1) (by simp[h1]) (by simp;omega) (fun y hy=>hx y (by simp[hy])) (by rw[List.length_append];omega) h2;exact⟨b2,f2,e2,by simpa[Z7q] using h3⟩
theorem sto_l1 (m:Zl) (hl:m.f2.length≤64):∀ (suf pre:List Zs) (b:List Int) (f:Nat) (s:List Bool) (i:Int),m.f2=pre++suf→i=(pre.length:Int)→(∀ x∈suf,LL x)→s.length+sumW suf<100000000000→Laid b f s →
  ∃ (b':List Int) (f':Nat),Z14.l1 m b (f:Int) i=some (b',(f':Int))∧Laid b' f' (s++suf.flatMap Z6t):=by
 intro suf
 induction suf with
 | nil =>
  intro pre b f s i h1 hi _ _ hL;rw[Z14.l1,if_neg (by rw[h1];simp[hi])];exact⟨b,f,rfl,by simpa using hL⟩
 | cons x suf ih =>
  intro pre b f s i h1 hi hx hs hL;have hlen:m.f2.length=pre.length+(suf.length+1):=by rw[h1];simp
  have hk:=hx x (by simp);have k1:=hk.key;have k2:=Zbf x.f0;have k3:=Zed hk;have k4:=setB_len x.f2.f0;have k5:=Z12 x.f1.toNat;have k6:=hk.last;have k7:=hk.tl;have k8:=hk.hl;rw[Zbg] at hs;obtain⟨C,hC⟩:=cutX_ok x.f3 (by omega) hk.hs;rw[Z14.l1,if_pos (by simp;omega),Z06 h1 hi,sb];obtain⟨b1,f1,e1,h2⟩:=text_eq hL x.f0 (by omega) (by omega);rw[e1,sb,Z39 (n:=x.f1) (by omega) (by omega)];dsimp only;obtain⟨b2,f2,e2,h3⟩:=Z6p h2 (by rw[List.length_append];omega) (n:=x.f1) (by omega) (by omega);rw[e2,sb];dsimp only;obtain⟨b3,f3,e3,h4⟩:=lay9_eq h3 (by rw[List.length_append,List.length_append];omega) x.f2.f0 (by omega) hk.ap;rw[e3,sb];dsimp only;obtain⟨b4,f4,e4,h5⟩:=smpsW h4 hC (by omega) (by rw[List.length_append,List.length_append,List.length_append];unfold setB at k4;omega);rw[e4,sb,Zc (n:=i+1) (by omega) (by omega)];dsimp only;have e:s++Z6n x.f0++cnt2 x.f1.toNat++(cnt2 x.f2.f0.length++layB 0 x.f2.f0)++Z8s x.f3=s++Z6t x:=by rw[Z6t,setB];simp
  rw[e] at h5;obtain⟨b5,f5,e5,h6⟩:=ih (pre++[x]) b4 f4 _ (i+1) (by simp[h1]) (by simp;omega) (fun y hy=>hx y (by simp[hy])) (by rw[List.length_append];omega) h5;exact⟨b5,f5,e5,by rw[List.flatMap_cons,← List.append_assoc];exact h6⟩
theorem wcount00 (f n:Int):Z23.f f n=Zb.f [] f n:=by kernel_rfl
theorem bytes_ok' {b:List Int} {f:Int} (h:b.length<100000000000):Z1d.f b f=some b:=by
 unfold Z1d.f Z3p.f;rw[chkB (by simp;omega),sb]
theorem store_eq {m:Zl} (hm:IM m) (h:Z9s m=true) (hw:sumW m.f2≤90000000000):∃ (b:List Int) (f:Nat),Z14.f m=some (b,0)∧Laid b f (imgB m):=by
 have hi:=il_of hm h hw;have hl:=imgB_len hi;have k1:=hi.mark;have k2:=hi.bl;have k3:=hi.ll;have c1:=Z12 m.f0.toNat;have c2:=Z12 m.f1.length;have c3:=Zeq m.f1;have c4:=Z12 m.f2.length;unfold Z14.f;rw[Zdw m hm,sb,h,if_neg (by simp),wcount00,Z39 (n:=m.f0) (by omega) (by omega),Z39 (n:=(m.f1.length:Int)) (by omega) (by omega),Z39 (n:=(m.f2.length:Int)) (by omega) (by omega)];obtain⟨b1,f1,e1,h1⟩:=Z6p Laid.nil (by simp) (n:=m.f0) (by omega) (by omega);rw[show Zb.f [] 0 m.f0=_ from e1,sb];dsimp only;obtain⟨b2,f2,e2,h2⟩:=Z6p h1 (by simp;omega) (n:=(m.f1.length:Int)) (by omega) (by omega);rw[e2,sb];dsimp only;rw[List.nil_append,Int.toNat_natCast] at h2;obtain⟨b3,f3,e3,h3⟩:=sto_l0 m k2 m.f1 [] b2 f2 _ 0 rfl rfl hi.blk (by rw[List.length_append];omega) h2;rw[e3,sb];dsimp only;obtain⟨b4,f4,e4,h4⟩:=Z6p h3 (by rw[List.length_append,List.length_append];omega) (n:=(m.f2.length:Int)) (by omega) (by omega);rw[e4,sb];dsimp only;rw[Int.toNat_natCast] at h4;obtain⟨b5,f5,e5,h5⟩:=sto_l1 m k3 m.f2 [] b4 f4 _ 0 rfl rfl hi.lk (by have:=hi.w;rw[List.length_append,List.length_append,List.length_append];omega) h4;have h6:Laid b5 f5 (imgB m):=by rw[imgB];simpa using h5
 have q1:=h6.len;have q2:=h6.lt;rw[e5,sb];dsimp only;rw[bytes_ok' (by omega),sb];exact⟨b5,f5,rfl,h6⟩
theorem store_no {m:Zl} (hm:IM m) (h:Z9s m=false):Z14.f m=some ([],6):=by
 unfold Z14.f;rw[Zdw m hm,sb,h,if_pos (by simp)]
theorem rset_l0 (l:List Z1) (hl:l.length≤100000):∀ (suf pre:List Z1) (s:List Bool) (last i:Int),l=pre++suf→i=(pre.length:Int)→Zc5 last suf→s.length+142*suf.length<700000000000 →
  Z51.l0 l (strB s) last i=some (strB (s++layB last suf)):=by
 intro suf
 induction suf with
 | nil=>intro pre s last i h1 hi _ _;rw[Z51.l0,if_neg (by rw[h1];simp[hi])];simp[layB]
 | cons r suf ih =>
  intro pre s last i h1 hi hB hs;have hlen:l.length=pre.length+(suf.length+1):=by rw[h1];simp
  have hr:=hB.2.2.1.head;have hr2:=hB.2.2.2 r (by simp);have hb1:=hB.1;have hb2:=hB.2.1;have hc1:=Z12 (r.f0-last).toNat;have hc2:=Z12 (r.f1-r.f0).toNat;simp only[List.length_cons] at hs;rw[Z51.l0,if_pos (by simp;omega),Z06 h1 hi,sb,Zc (n:=r.f0-last) (by omega) (by omega),Zc (n:=r.f1-r.f0) (by omega) (by omega),Z39 (n:=r.f0-last) (by omega) (by omega),Z39 (n:=r.f1-r.f0) (by omega) (by omega),
   Z9v ⟨by omega,by omega⟩,sb,chkB (by rw[Z00,Z00];omega),Z9v ⟨by omega,by omega⟩,sb,← Z0s,chkB (by rw[Z00,Z00,List.length_append];omega),← Z0s,Zc (n:=i+1) (by omega) (by omega),Zc (n:=r.f1+2) (by omega) (by omega),
   ih (pre++[r]) _ (r.f1+2) (i+1) (by simp[h1]) (by simp;omega) hB.next (by rw[List.length_append,List.length_append];omega),layB]
  simp
theorem rset (l:List Z1) (hl:l.length≤100000) (h:Z7p l):Z51.f l=some (strB (setB l)):=by
 have hc:=Z12 l.length;have hB:Zc5 0 l:=⟨by omega,by omega,h,fun r hr=>(h.right r hr).1⟩
 unfold Z51.f;rw[Z39 (by omega) (by omega),Z9w (by omega),sb,rset_l0 l hl l [] _ 0 0 rfl rfl hB (by omega),sb,setB]
theorem rsto_l0 (m:Z0c) (hl:m.f1.length≤256):∀ (suf pre:List Int) (s:List Bool) (i:Int),m.f1=pre++suf→i=(pre.length:Int)→(∀ n∈suf,0≤n∧n≤65536)→s.length+71*suf.length<1000000 →
  Z2d.l0 m (strB s) i=some (strB (s++Z7q suf)):=by
 intro suf
 induction suf with
 | nil=>intro pre s i h1 hi _ _;rw[Z2d.l0,if_neg (by rw[h1];simp[hi])];simp[Z7q]
 | cons n suf ih =>
  intro pre s i h1 hi hx hs;have hlen:m.f1.length=pre.length+(suf.length+1):=by rw[h1];simp
  have hn:=hx n (by simp);have hc:=Z12 n.toNat;simp only[List.length_cons] at hs;rw[Z2d.l0,if_pos (by simp;omega),Z06 h1 hi,sb,Z39 (n:=n) (by omega) (by omega),Z9v ⟨by omega,by omega⟩,sb,chkB (by rw[Z00,Z00];omega),← Z0s,Zc (n:=i+1) (by omega) (by omega),ih (pre++[n]) _ (i+1) (by simp[h1]) (by simp;omega) (fun y hy=>hx y (by simp[hy])) (by rw[List.length_append];omega)];simp[Z7q]
theorem rsto_l1 (m:Zl) (hl:m.f2.length≤64):∀ (suf pre:List Zs) (s:List Bool) (i:Int),m.f2=pre++suf→i=(pre.length:Int)→(∀ x∈suf,LL x)→s.length+sumW suf<100000000000 →
  Z2d.l1 (seen m) (strB s) i=some (strB (s++suf.flatMap Z6t)):=by
 have hlm:(seen m).f2.length=m.f2.length:=by show(m.f2.map Z5w).length=_;simp
 intro suf
 induction suf with
 | nil=>intro pre s i h1 hi _ _;rw[Z2d.l1,if_neg (by rw[hlm,h1];simp[hi])];simp
 | cons x suf ih =>
  intro pre s i h1 hi hx hs;have hlen:m.f2.length=pre.length+(suf.length+1):=by rw[h1];simp
  have hk:=hx x (by simp);have k1:=hk.key;have k2:=Zbf x.f0;have k3:=Zed hk;have k4:=setB_len x.f2.f0;have k5:=Z12 x.f1.toNat;have k6:=hk.last;have k7:=hk.tl;have k8:=hk.hl;rw[Zbg] at hs;obtain⟨C,hC⟩:=cutX_ok x.f3 (by omega) hk.hs;have k9:=smpsB_len hC;have hsq:(seen m).f2=pre.map Z5w++Z5w x::suf.map Z5w:=by show m.f2.map Z5w=_;rw[h1];simp
  have hw:lineW x=15000000+3300000*x.f3.length:=rfl;rw[Z2d.l1,if_pos (by rw[hlm];simp;omega),Z06 (pre:=pre.map Z5w) (suf:=suf.map Z5w) hsq (by simp[hi]),sb];show((Z61.f x.f0)>>=_:Option ByteArray)=_;rw[rtext15 _ (by omega),sb,chkB (by rw[Z00,Z00];omega)];show((Z02.f (u64.wrap x.f1))>>=_:Option ByteArray)=_;rw[Z39 (n:=x.f1) (by omega) (by omega),Z9v ⟨by omega,by omega⟩,sb,← Z0s,chkB (by rw[Z00,Z00,List.length_append];omega)];show((Z51.f x.f2.f0)>>=_:Option ByteArray)=_;rw[rset _ (by omega) hk.ap,sb,← Z0s,chkB (by rw[Z00,Z00,List.length_append,List.length_append];omega)];show((Z0i.f x.f3)>>=_:Option ByteArray)=_;rw[smpsR hC (by omega),sb,← Z0s,chkB (by rw[Z00,Z00,List.length_append,List.length_append,List.length_append];omega),← Z0s,Zc (n:=i+1) (by omega) (by omega)];have e:s++Z6n x.f0++cnt2 x.f1.toNat++setB x.f2.f0++Z8s x.f3=s++Z6t x:=by rw[Z6t];simp
  rw[e,ih (pre++[x]) _ (i+1) (by simp[h1]) (by simp;omega) (fun y hy=>hx y (by simp[hy])) (by rw[List.length_append];omega),List.flatMap_cons,List.append_assoc]
theorem rstore_eq {m:Zl} (hi:IL m):∃ (b:List Int) (f:Nat),Z2d.f (seen m)=some b∧Laid b f (imgB m):=by
 have hl:=imgB_len hi;have k1:=hi.mark;have k2:=hi.bl;have k3:=hi.ll;have c1:=Z12 m.f0.toNat;have c2:=Z12 m.f1.length;have c3:=Zeq m.f1;have c4:=Z12 m.f2.length;have hlm:(seen m).f2.length=m.f2.length:=by show(m.f2.map Z5w).length=_;simp
 have hw:=hi.w;have e0:(seen m).f0=m.f0:=rfl;have e1:(seen m).f1=m.f1:=rfl;unfold Z2d.f;rw[hlm,e0,e1,Z39 (n:=m.f0) (by omega) (by omega),Z39 (n:=(m.f1.length:Int)) (by omega) (by omega),Z39 (n:=(m.f2.length:Int)) (by omega) (by omega),Z9v ⟨by omega,by omega⟩,sb,Z9w (by omega),sb,chkB (by rw[Z00,Z00];omega),← Z0s,
  rsto_l0 (seen m) k2 m.f1 [] _ 0 rfl rfl hi.blk (by rw[List.length_append];omega),sb,Z9w (by omega),sb,chkB (by rw[Z00,Z00,List.length_append,List.length_append];omega),← Z0s,
  rsto_l1 m k3 m.f2 [] _ 0 rfl rfl hi.lk (by rw[List.length_append,List.length_append,List.length_append];omega),sb]
 have e2:cnt2 m.f0.toNat++cnt2 m.f1.length++Z7q m.f1++cnt2 m.f2.length++m.f2.flatMap Z6t=imgB m:=by rw[imgB];simp
 rw[e2];obtain⟨b,f,e,h⟩:=rbytes (imgB m) (by omega);rw[e,sb];exact⟨b,f,rfl,h⟩
variable {b:List Int}
theorem smp_fwd_l0 (hb:Src b) (t:Int×Int×Int) (C:List (List Z7)) (hC:∀ c∈C,Chu c) (hl:C.length≤65536) (ht:t.1=(C.length:Int)) (z:List Bool):∀ (suf pre:List (List Z7)) (a:Nat) (i:Int),C=pre++suf→i=(pre.length:Int)→a≤8*b.length→(Z0f b).drop a=Za5 suf++z →
  Z1n.l0 b t (a:Int) 0 pre.flatten i=some (.inr (C.flatten,((a+(Za5 suf).length:Nat):Int),0)):=by
 have hflen:∀ (D:List (List Z7)),(∀ c∈D,Chu c)→D.flatten.length≤32*D.length:=by
  intro D
  induction D with
  | nil=>simp
  | cons c D ih =>
   intro h;have:=(h c (by simp)).cok.len;have:=ih (fun x hx=>h x (by simp[hx]));simp only[List.flatten_cons,List.length_append,List.length_cons];omega
 intro suf
 induction suf with
 | nil =>
  intro pre a i h1 hi ha _;rw[Z1n.l0,if_neg (by rw[ht,h1];simp[hi]),sb,if_neg (by simp),h1];simp[Za5]
 | cons c suf ih =>
  intro pre a i h1 hi ha hd;have hlen:C.length=pre.length+(suf.length+1):=by rw[h1];simp
  have hc:=hC c (by rw[h1];simp);obtain⟨e1,⟨g,hL⟩,e3,e4⟩:=hc.enc;have h32:=hc.cok.len;have hpl:=hflen pre (fun x hx=>hC x (by rw[h1];simp[hx]));have hd1:(Z0f b).drop a=Z6n (Z80 (encX c))++(Za5 suf++z):=by rw[hd];simp[Za5]
  have l1:=congrArg List.length hd1;simp only[List.length_drop,Z15,List.length_append] at l1;have hd2:(Z0f b).drop (a+(Z6n (Z80 (encX c))).length)=Za5 suf++z:=by rw[← List.drop_drop,hd1,List.drop_left' rfl]
  have hsrc:=smp_src hL e4;have hdec:=(dec_fwd hsrc hc.cok hc.ne hc.k hc.h0 (List.replicate g false) hL.bits).2 g hL.lt rfl;rw[Z1n.l0,if_pos (by rw[ht];simp;omega),err_ok,sb,sb,if_pos (by simp),taken_fwd hb (by omega) ha hd1,sb];dsimp only;rw[Zd6 (Zfe hL),hdec,sb,if_neg (by simp),chkB (by simp only[List.length_flatten] at hpl ⊢;omega),Zc (n:=i+1) (by omega) (by omega)];have:=ih (pre++[c]) (a+(Z6n (Z80 (encX c))).length) (i+1) (by simp[h1]) (by simp;omega) (by omega) hd2;rw[List.flatten_append] at this;simp only[List.flatten_cons,List.flatten_nil,List.append_nil] at this;rw[this];congr 4;simp only[Za5,List.flatMap_cons,List.length_append];omega
theorem sampledF (hb:Src b) {l:List Z7} {C:List (List Z7)} (h:CutX l C) (hr:rise none l=true) (hf:∀ s∈l,Fits s.f1) (hl:l.length≤65536) {a:Nat} {z:List Bool} (ha:a≤8*b.length) (hd:(Z0f b).drop a=Z8s l++z) :
  Z1n.f b (a:Int) 0=some (l,true,((a+(Z8s l).length:Nat):Int),0):=by
 have hlen:=h.len;have hd1:(Z0f b).drop a=cnt2 C.length++(Za5 C++z):=by rw[hd,Z8s,h.x,List.append_assoc]
 have l1:=congrArg List.length hd1;simp only[List.length_drop,Z15,List.length_append] at l1;have hd2:(Z0f b).drop (a+(cnt2 C.length).length)=Za5 C++z:=by rw[← List.drop_drop,hd1,List.drop_left' rfl]
 unfold Z1n.f;rw[show(65536:Int)=((65536:Nat):Int) from rfl,Z4b hb (n:=C.length) (by omega) (by omega) ha hd1,sb];dsimp only;have:=smp_fwd_l0 hb ((C.length:Int),((a+(cnt2 C.length).length:Nat):Int),0) C h.ok (by omega) rfl z C [] (a+(cnt2 C.length).length) 0 rfl rfl (by omega) hd2;rw[List.flatten_nil] at this;rw[this,sb];dsimp only;rw[h.flat,ris_eq l (by omega) hf,sb,hr];congr 4;rw[Z8s,h.x,List.length_append];omega
theorem lod_l0 (hb:Src b) (m:List Int) (hl:m.length≤256) (t1 t2:Int×Int×Int) (ht:t2.1=(m.length:Int)) (z:List Bool):∀ (suf pre:List Int) (a:Nat) (i:Int),m=pre++suf→i=(pre.length:Int)→(∀ n∈suf,0≤n∧n≤65536)→a≤8*b.length→(Z0f b).drop a=Z7q suf++z →
  Z2c.l0 b t1 t2 (a:Int) 0 pre i=some (((a+(Z7q suf).length:Nat):Int),0,m):=by
 intro suf
 induction suf with
 | nil =>
  intro pre a i h1 hi _ ha _;rw[Z2c.l0,if_neg (by rw[ht,h1];simp[hi]),sb,if_neg (by simp),h1];simp[Z7q]
 | cons n suf ih =>
  intro pre a i h1 hi hx ha hd;have hlen:m.length=pre.length+(suf.length+1):=by rw[h1];simp
  have hn:=hx n (by simp);have hd1:(Z0f b).drop a=cnt2 n.toNat++(Z7q suf++z):=by rw[hd];simp[Z7q]
  have l1:=congrArg List.length hd1;simp only[List.length_drop,Z15,List.length_append] at l1;have hd2:(Z0f b).drop (a+(cnt2 n.toNat).length)=Z7q suf++z:=by rw[← List.drop_drop,hd1,List.drop_left' rfl]
  rw[Z2c.l0,if_pos (by rw[ht];simp;omega),err_ok,sb,sb,if_pos (by simp),show(65536:Int)=((65536:Nat):Int) from rfl,Z4b hb (n:=n.toNat) (by omega) (by omega) ha hd1,sb];dsimp only;rw[chkB (by simp;omega),Zc (n:=i+1) (by omega) (by omega),show((n.toNat:Nat):Int)=n from by omega,
   ih (pre++[n]) (a+(cnt2 n.toNat).length) (i+1) (by simp[h1]) (by simp;omega) (fun y hy=>hx y (by simp[hy])) (by omega) hd2]
  congr 3;simp only[Z7q,List.flatMap_cons,List.length_append];omega
theorem lod_l1 (hb:Src b) (m:List Zs) (hl:m.length≤64) (t1 t2:Int×Int×Int) (bl:List Int) (ht:t2.1=(m.length:Int)) (z:List Bool):∀ (suf pre:List Zs) (a:Nat) (i:Int),m=pre++suf→i=(pre.length:Int)→(∀ x∈suf,LL x∧x.f2.f0.length≤65536∧x.f3.length≤65536∧rise none x.f3=true)→a≤8*b.length→(Z0f b).drop a=suf.flatMap Z6t++z →
  Z2c.l1 b t1 t2 bl (a:Int) 0 pre true i=some (((a+(suf.flatMap Z6t).length:Nat):Int),0,m,true):=by
 intro suf
 induction suf with
 | nil =>
  intro pre a i h1 hi _ ha _;rw[Z2c.l1,if_neg (by rw[ht,h1];simp[hi]),sb,if_neg (by simp),h1];simp
 | cons x suf ih =>
  intro pre a i h1 hi hx ha hd;have hlen:m.length=pre.length+(suf.length+1):=by rw[h1];simp
  obtain⟨hk,h65,hs65,hr⟩:=hx x (by simp);have k1:=hk.key;have k6:=hk.last;obtain⟨C,hC⟩:=cutX_ok x.f3 (by omega) hk.hs;have hd1:(Z0f b).drop a=Z6n x.f0++(cnt2 x.f1.toNat++(setB x.f2.f0++(Z8s x.f3++(suf.flatMap Z6t++z)))):=by rw[hd];simp[Z6t]
  have l1:=congrArg List.length hd1;simp only[List.length_drop,Z15,List.length_append] at l1;have hd2:(Z0f b).drop (a+(Z6n x.f0).length)=cnt2 x.f1.toNat++(setB x.f2.f0++(Z8s x.f3++(suf.flatMap Z6t++z))):=by rw[← List.drop_drop,hd1,List.drop_left' rfl]
  have hd3:(Z0f b).drop (a+(Z6n x.f0).length+(cnt2 x.f1.toNat).length)=setB x.f2.f0++(Z8s x.f3++(suf.flatMap Z6t++z)):=by rw[← List.drop_drop,hd2,List.drop_left' rfl]
  have hd4:(Z0f b).drop (a+(Z6n x.f0).length+(cnt2 x.f1.toNat).length+(setB x.f2.f0).length)=Z8s x.f3++(suf.flatMap Z6t++z):=by rw[← List.drop_drop,hd3,List.drop_left' rfl]
  have hd5:(Z0f b).drop (a+(Z6n x.f0).length+(cnt2 x.f1.toNat).length+(setB x.f2.f0).length+(Z8s x.f3).length)=suf.flatMap Z6t++z:=by rw[← List.drop_drop,hd4,List.drop_left' rfl]
  have htk:=take_at hb x.f2.f0 (m:=65536) (by omega) h65 hk.ap (a:=a+(Z6n x.f0).length+(cnt2 x.f1.toNat).length) (by omega) _ hd3;rw[Z2c.l1,if_pos (by rw[ht];simp;omega),if_pos rfl,err_ok,sb,sb,if_pos (by simp),taken_fwd hb (by omega) ha hd1,sb];dsimp only;rw[show(1099511627776:Int)=((1099511627776:Nat):Int) from rfl,Z4b hb (n:=x.f1.toNat) (by omega) (by omega) (by omega) hd2,sb];dsimp only;rw[show Z2g.f b ((a+(Z6n x.f0).length+(cnt2 x.f1.toNat).length:Nat):Int) 0 65536=_ from htk,sb];dsimp only;rw[show((a+(Z6n x.f0).length+(cnt2 x.f1.toNat).length+(cnt2 x.f2.f0.length++layB 0 x.f2.f0).length:Nat):Int)=((a+(Z6n x.f0).length+(cnt2 x.f1.toNat).length+(setB x.f2.f0).length:Nat):Int) from rfl,
   sampledF hb hC hr (fun s hs=>(hk.hs s hs).f) hs65 (by omega) hd4,sb]
  dsimp only;rw[chkB (by simp;omega),Zc (n:=i+1) (by omega) (by omega),show((x.f1.toNat:Nat):Int)=x.f1 from by omega];have:=ih (pre++[x]) (a+(Z6n x.f0).length+(cnt2 x.f1.toNat).length+(setB x.f2.f0).length+(Z8s x.f3).length) (i+1) (by simp[h1]) (by simp;omega) (fun y hy=>hx y (by simp[hy])) (by omega) hd5;have e2:a+((x::suf).flatMap Z6t).length=a+(Z6n x.f0).length+(cnt2 x.f1.toNat).length+(setB x.f2.f0).length+(Z8s x.f3).length+(suf.flatMap Z6t).length:=by
   rw[List.flatMap_cons,List.length_append,Z6t,List.length_append,List.length_append,List.length_append];omega
  rw[show(⟨x.f0,x.f1,⟨x.f2.f0⟩,x.f3⟩:Zs)=x from rfl,this,e2]
def tailL' (b:List Int) (a e:Int) (ok:Bool) (m:Zl):Option (Zl×Int) :=
 (((if(!ok)=true then(some true) else((Zx.f b a e)>>=fun t9811=>if(t9811.1 != (0:Int))=true then(some true) else((Z0w.f m)>>=fun t9814=>some (!t9814)))):Option (Bool))>>=fun x9816=>if x9816=true then(some ((⟨0,[],[]⟩:Zl),6)) else((Z14.f m)>>=fun t9820=>((if(t9820.2 != (0:Int))=true then(some true) else((Z0u.f t9820.1 b)>>=fun t9826=>some (!t9826))):Option (Bool))>>=fun x9828=>if x9828=true then(some ((⟨0,[],[]⟩:Zl),6)) else(some (m,0))))
theorem load_fwd (hb:Src b) {m:Zl} (hm:IM m) (hR:Z9s m=true) (hw:sumW m.f2≤90000000000) (h65:∀ x∈m.f2,x.f2.f0.length≤65536∧x.f3.length≤65536) {f:Nat} (hL:Laid b f (imgB m)):Z2c.f b=some (m,0):=by
 have hi:=il_of hm hR hw;have k1:=hi.mark;have k2:=hi.bl;have k3:=hi.ll;have hlines:∀ x∈m.f2,LL x∧x.f2.f0.length≤65536∧x.f3.length≤65536∧rise none x.f3=true:=fun x hx=>by
  have h2:=hR;unfold Z9s at h2;simp only[Bool.and_eq_true] at h2;have h3:=(Zfc _ _ h2.2.2.2 x hx).2;unfold Za0 at h3;simp only[Bool.and_eq_true] at h3;exact⟨hi.lk x hx,(h65 x hx).1,(h65 x hx).2,h3.2.1⟩
 have hd:(Z0f b).drop 0=cnt2 m.f0.toNat++(cnt2 m.f1.length++(Z7q m.f1++(cnt2 m.f2.length++(m.f2.flatMap Z6t++List.replicate f false)))):=by rw[List.drop_zero,hL.bits,imgB];simp
 have l0:=congrArg List.length hd;simp only[List.length_drop,Z15,List.length_append] at l0;have hd1:(Z0f b).drop (cnt2 m.f0.toNat).length=cnt2 m.f1.length++(Z7q m.f1++(cnt2 m.f2.length++(m.f2.flatMap Z6t++List.replicate f false))):=by rw[← Nat.zero_add (cnt2 m.f0.toNat).length,← List.drop_drop,hd,List.drop_left' rfl]
 have hd2:(Z0f b).drop ((cnt2 m.f0.toNat).length+(cnt2 m.f1.length).length)=Z7q m.f1++(cnt2 m.f2.length++(m.f2.flatMap Z6t++List.replicate f false)):=by rw[← List.drop_drop,hd1,List.drop_left' rfl]
 have hd3:(Z0f b).drop ((cnt2 m.f0.toNat).length+(cnt2 m.f1.length).length+(Z7q m.f1).length)=cnt2 m.f2.length++(m.f2.flatMap Z6t++List.replicate f false):=by rw[← List.drop_drop,hd2,List.drop_left' rfl]
 have hd4:(Z0f b).drop ((cnt2 m.f0.toNat).length+(cnt2 m.f1.length).length+(Z7q m.f1).length+(cnt2 m.f2.length).length)=m.f2.flatMap Z6t++List.replicate f false:=by rw[← List.drop_drop,hd3,List.drop_left' rfl]
 have hd5:(Z0f b).drop ((cnt2 m.f0.toNat).length+(cnt2 m.f1.length).length+(Z7q m.f1).length+(cnt2 m.f2.length).length+(m.f2.flatMap Z6t).length)=List.replicate f false:=by rw[← List.drop_drop,hd4,List.drop_left' rfl]
 have s1:=Z4b hb (n:=m.f0.toNat) (m:=1099511627776) (by omega) (by omega) (a:=0) (by omega) hd;rw[Nat.zero_add] at s1;have s2:=Z4b hb (n:=m.f1.length) (m:=256) k2 (by omega) (by omega) hd1;have s3:=Z4b hb (n:=m.f2.length) (m:=64) k3 (by omega) (by omega) hd3;unfold Z2c.f Z5a.f;rw[sb,show Za.f b 0 0 1099511627776=_ from s1,sb];dsimp only;rw[show Za.f b ((cnt2 m.f0.toNat).length:Int) 0 256=_ from s2,sb];dsimp only;rw[lod_l0 hb m.f1 k2 _ ((m.f1.length:Int),(((cnt2 m.f0.toNat).length+(cnt2 m.f1.length).length:Nat):Int),0) rfl _ m.f1 [] _ 0 rfl rfl hi.blk (by omega) hd2,sb];dsimp only;rw[show Za.f b (((cnt2 m.f0.toNat).length+(cnt2 m.f1.length).length+(Z7q m.f1).length:Nat):Int) 0 64=_ from s3,sb];dsimp only;rw[lod_l1 hb m.f2 k3 _ ((m.f2.length:Int),(((cnt2 m.f0.toNat).length+(cnt2 m.f1.length).length+(Z7q m.f1).length+(cnt2 m.f2.length).length:Nat):Int),0) m.f1 rfl _ m.f2 [] _ 0 rfl rfl hlines (by omega) hd4,sb];obtain⟨a',e⟩:=end_ok hb hL.lt (a:=(cnt2 m.f0.toNat).length+(cnt2 m.f1.length).length+(Z7q m.f1).length+(cnt2 m.f2.length).length+(m.f2.flatMap Z6t).length) (by omega) hd5;show tailL' b _ 0 true (⟨((m.f0.toNat:Nat):Int),m.f1,m.f2⟩:Zl)=_;rw[show(⟨((m.f0.toNat:Nat):Int),m.f1,m.f2⟩:Zl)=m by cases m;congr 1;have:=k1.1;simp at this ⊢;omega];obtain⟨b2,f2,e2,h2⟩:=store_eq hm hR hw;have:=hL.unique h2;subst this;have hbl:=hb.len;unfold tailL';rw[if_neg (by simp),e,sb,if_neg (by simp),Zdw m hm,sb,hR,sb,if_neg (by simp),e2,sb,if_neg (by simp),eqbytes b b (by omega),sb,sb,if_neg (by simp)]
end Go.Proofs.YtinhldbfifpakaaGreat.PvGL3
namespace Go.Proofs.YtinhldbfifpakaaGreat.PvGL3
open Go Go.Pv Go.Pv.GS Go.IntKind
variable {b:List Int}
def sumH (l:List Zs):Nat:=(l.map fun x=>x.f3.length).sum
theorem Zdu (x:Zs) (l:List Zs):sumH (x::l)=x.f3.length+sumH l:=by simp[sumH]
structure LR (x:Zs):Prop where
 key:x.f0.size≤1048576
 ap:Z7p x.f2.f0
 tl:x.f2.f0.length≤65536
 hf:∀ s∈x.f3,SOk s
theorem sumW_le:∀ (l:List Zs),sumW l=15000000*l.length+3300000*sumH l:=by
 intro l
 induction l with
 | nil=>simp[sumW,sumH]
 | cons x l ih=>rw[Zbg,Zdu,ih,List.length_cons,lineW];omega
theorem sumH_mem:∀ (l:List Zs) (x:Zs),x∈l→x.f3.length≤sumH l:=by
 intro l
 induction l with
 | nil=>simp
 | cons y l ih =>
  intro x hx;rw[Zdu];rcases List.mem_cons.1 hx with rfl | hx
  ·omega
  ·have:=ih x hx;omega
end Go.Proofs.YtinhldbfifpakaaGreat.PvGL3
