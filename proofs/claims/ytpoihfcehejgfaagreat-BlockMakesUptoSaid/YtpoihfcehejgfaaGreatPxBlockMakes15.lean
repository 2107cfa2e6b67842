import Derived.Test.YtpoihfcehejgfaaGreatPxBlockMakes14
set_option linter.unusedVariables false
set_option linter.unusedSimpArgs false
set_option maxRecDepth 10000
namespace Go.Proofs.YtpoihfcehejgfaaGreat.PvGS
open Go Go.Pv Go.Pv.GS Go.IntKind
def Z9g (l:List Z1c):Prop:=(∀ x∈l,Zb4 x.f0=true∧valB x.f1=true)∧l.Pairwise (fun a b=>nLt a b=true)
theorem Zaa:∀ (l:List Z1c) (q:ByteArray),Z4h (some q) l=true↔Z9g l∧∀ x∈l,bl q x.f0=true
 | [],q=>by simp[Z4h,Z9g]
 | x::l,q=>by
  have ih:=Zaa l x.f0;rw[Z5g];simp only[Bool.and_eq_true,ih];unfold Z9g;simp only[List.mem_cons,forall_eq_or_imp,List.pairwise_cons];constructor
  ·rintro⟨h1,h2,h3,⟨h4,h5⟩,h6⟩
   exact⟨⟨⟨⟨h1,h2⟩,h4⟩,h6,h5⟩,h3,fun y hy=>Z74 _ _ _ h3 (h6 y hy)⟩
  ·rintro⟨⟨⟨⟨h1,h2⟩,h4⟩,h6,h5⟩,h3,h7⟩
   exact⟨h1,h2,h3,⟨h4,h5⟩,h6⟩
theorem rising_none (l:List Z1c):Z4h none l=true↔Z9g l:=by
 cases l with
 | nil=>simp[Z4h,Z9g]
 | cons x l =>
  rw[Z5g];simp only[Bool.and_eq_true,Zaa];unfold Z9g;simp only[List.mem_cons,forall_eq_or_imp,List.pairwise_cons];constructor
  ·rintro⟨h1,h2,_,⟨h4,h5⟩,h6⟩
   exact⟨⟨⟨h1,h2⟩,h4⟩,h6,h5⟩
  ·rintro⟨⟨⟨h1,h2⟩,h4⟩,h6,h5⟩
   exact⟨h1,h2,trivial,⟨h4,h5⟩,h6⟩
theorem chkC_zero {l:List Z1c} (h:chkC l=0):l.length≤16∧Z9g l:=by
 unfold chkC at h;by_cases q:l.length>16
 ·rw[if_pos q] at h;omega
 ·rw[if_neg q] at h
  by_cases q2:Z4h none l=true
  ·exact⟨by omega,(rising_none l).1 q2⟩
  ·rw[if_neg q2] at h;omega
def word (s:ByteArray):List UInt8:=UInt8.ofNat s.size::L s
def keyL (l:List Z1c):List UInt8:=l.flatMap fun x=>word x.f0++word x.f1
def Short (x:Z1c):Prop:=x.f0.size≤64∧x.f1.size≤64
theorem keyL_cons (x:Z1c) (l:List Z1c):keyL (x::l)=word x.f0++(word x.f1++keyL l):=by simp[keyL]
theorem word_len (s:ByteArray):(word s).length=s.size+1:=by rw[word,List.length_cons,Z44]
theorem Zab {l:List Z1c} (h:Z9g l):∀ x∈l,Short x:=fun x hx=>by
 have:=h.1 x hx;simp only[Zb4,valB,Bool.and_eq_true,decide_eq_true_eq] at this;exact⟨this.1.1.2,this.2.2⟩
theorem word_inj' {a b:ByteArray} {x y:List UInt8} (ha:a.size<256) (hb:b.size<256) (h:word a++x=word b++y):a=b∧x=y:=by
 have h0:UInt8.ofNat a.size=UInt8.ofNat b.size:=by
  have:=congrArg List.head? h;simpa[word] using this
 have hs:a.size=b.size:=by
  have:=congrArg UInt8.toNat h0;rw[UInt8.toNat_ofNat',UInt8.toNat_ofNat',Nat.mod_eq_of_lt (by omega),Nat.mod_eq_of_lt (by omega)] at this;exact this
 obtain⟨h1,h2⟩:=List.append_inj h (by rw[word_len,word_len,hs]);simp only[word,List.cons.injEq] at h1;exact⟨ext_L h1.2,h2⟩
def Z4f (ws:List ByteArray):List UInt8:=ws.flatMap word
theorem Z33 (w:ByteArray) (ws:List ByteArray):Z4f (w::ws)=word w++Z4f ws:=by simp[Z4f]
theorem Z8h:∀ {a b:List ByteArray},(∀ x∈a,x.size<256)→(∀ x∈b,x.size<256)→Z4f a=Z4f b→a=b
 | [],[],_,_,_=>rfl
 | [],y::b,_,_,h=>by rw[Z33,word] at h;simp[Z4f] at h
 | x::a,[],_,_,h=>by rw[Z33,word] at h;simp[Z4f] at h
 | x::a,y::b,ha,hb,h=>by
  rw[Z33,Z33] at h;obtain⟨h1,h2⟩:=word_inj' (ha x (by simp)) (hb y (by simp)) h;rw[h1,Z8h (fun z hz=>ha z (by simp[hz])) (fun z hz=>hb z (by simp[hz])) h2]
def Z4r (l:List Z1c):List ByteArray:=l.flatMap fun x=>[x.f0,x.f1]
def Z4v:List ByteArray→List Z1c
 | a::b::r=>⟨a,b⟩::Z4v r
 | _=>[]
theorem Z8t:∀ l:List Z1c,Z4v (Z4r l)=l
 | []=>rfl
 | x::l=>by
  have:Z4r (x::l)=x.f0::x.f1::Z4r l:=by simp[Z4r]
  rw[this,Z4v,Z8t l]
theorem Z59:∀ l:List Z1c,keyL l=Z4f (Z4r l)
 | []=>rfl
 | x::l=>by
  have:Z4r (x::l)=x.f0::x.f1::Z4r l:=by simp[Z4r]
  rw[this,Z33,Z33,keyL_cons,Z59 l]
theorem Z8y:∀ (ws:List ByteArray),ws.length % 2=0→Z4r (Z4v ws)=ws
 | [],_=>rfl
 | [a],h=>by simp at h
 | a::b::r,h=>by
  have:Z4r (Z4v (a::b::r))=a::b::Z4r (Z4v r):=by simp[Z4r,Z4v]
  rw[this,Z8y r (by simp at h;omega)]
theorem L_cons_of {s:ByteArray} (h:0<s.size):∃ c r,L s=c::r∧r.length=s.size-1∧bt s 0=(c.toNat:Int):=by
 cases hl:L s with
 | nil=>have:=Z44 s;rw[hl] at this;simp at this;omega
 | cons c r =>
  refine⟨c,r,rfl,?_,bt_L (i:=0) (by rw[hl];rfl)⟩;have:=Z44 s;rw[hl] at this;simp at this;omega
theorem fromB_l0:∀ (n:Nat) (s:ByteArray) (acc:List ByteArray),s.size≤n→s.size≤2000000→acc.length+s.size≤4000000 →
  (Z17.l0 s acc=some (.inl ([],6))∧∀ ws:List ByteArray,(∀ w∈ws,w.size<256)→L s≠Z4f ws)∨(∃ ws,Z17.l0 s acc=some (.inr (acc++ws))∧(∀ w∈ws,w.size<256)∧L s=Z4f ws∧ws.length≤s.size):=by
 intro n
 induction n with
 | zero =>
  intro s acc hn h5 ha;rw[Z17.l0,if_neg (by rw[decide_eq_true_eq];omega)];have:L s=[]:=List.length_eq_zero_iff.1 (by rw[Z44];omega);exact .inr ⟨[],by simp,by simp,by rw[this];rfl,by simp⟩
 | succ n ih =>
  intro s acc hn h5 ha;by_cases h0:0<s.size
  case neg =>
   rw[Z17.l0,if_neg (by rw[decide_eq_true_eq];omega)];have:L s=[]:=List.length_eq_zero_iff.1 (by rw[Z44];omega);exact .inr ⟨[],by simp,by simp,by rw[this];rfl,by simp⟩
  obtain⟨c,r,hc,hr,hbt⟩:=L_cons_of h0;have hcl:=c.toNat_lt;have hword:∀ ws:List ByteArray,(∀ w∈ws,w.size<256)→L s=Z4f ws→∃ w ws',ws=w::ws'∧w.size=c.toNat∧r=L w++Z4f ws':=fun ws hw e=>by
   cases ws with
   | nil=>rw[hc] at e;simp[Z4f] at e
   | cons w ws' =>
    rw[hc,Z33,word,List.cons_append,List.cons.injEq] at e;refine⟨w,ws',rfl,?_,e.2⟩;have:=hw w (by simp);rw[e.1,UInt8.toNat_ofNat',Nat.mod_eq_of_lt (by omega)]
  rw[Z17.l0,if_pos (by simp;omega),chkB (by omega),hbt,Z0b (n:=(c.toNat:Int)) (by omega) (by omega),Z0b (n:=(s.size:Int)-1) (by omega) (by omega)];by_cases hle:(c.toNat:Int)>(s.size:Int)-1
  ·rw[if_pos (by simpa using hle)]
   refine .inl ⟨rfl,fun ws hw e => ?_⟩;obtain⟨w,ws',_,h1,h2⟩:=hword ws hw e;have:=congrArg List.length h2;rw[List.length_append,Z44] at this;omega
  ·have e1:Int.toNat ((1:Int)+(c.toNat:Int))=1+c.toNat:=by omega
   have l1:L (s.extract (Int.toNat 1) (Int.toNat ((1:Int)+(c.toNat:Int))))=r.take c.toNat:=by
    rw[Z8f,e1,hc];simp
   have l2:L (s.extract (Int.toNat ((1:Int)+(c.toNat:Int))) (Int.toNat (s.size:Int)))=r.drop c.toNat:=by
    rw[Z8f,e1,hc,Int.toNat_natCast,Nat.add_comm 1 c.toNat,List.drop_succ_cons,List.take_of_length_le (by simp;omega)]
   have s1:(s.extract (Int.toNat 1) (Int.toNat ((1:Int)+(c.toNat:Int)))).size=c.toNat:=by rw[← Z44,l1,List.length_take];omega
   have s2:(s.extract (Int.toNat ((1:Int)+(c.toNat:Int))) (Int.toNat (s.size:Int))).size=s.size-1-c.toNat:=by rw[← Z44,l2,List.length_drop];omega
   rw[if_neg (by simpa using hle),Z0b (n:=(1:Int)+(c.toNat:Int)) (by omega) (by omega),chkB (by omega),chkB (by simp;omega),chkB (by omega)];generalize s.extract (Int.toNat 1) (Int.toNat ((1:Int)+(c.toNat:Int)))=w0 at *;generalize s.extract (Int.toNat ((1:Int)+(c.toNat:Int))) (Int.toNat (s.size:Int))=rest at *;rcases ih rest (acc++[w0]) (by omega) (by omega) (by simp;omega) with ⟨g1,g2⟩ | ⟨ws,g1,g2,g3,g4⟩
   ·refine .inl ⟨g1,fun ws hw e => ?_⟩
    obtain⟨w,ws',rfl,h1,h2⟩:=hword ws hw e;refine g2 ws' (fun z hz=>hw z (by simp[hz])) ?_;rw[l2,h2,← h1,← Z44,List.drop_left]
   ·refine .inr ⟨w0::ws,by rw[g1];simp,fun z hz => ?_,?_,by simp;omega⟩
    ·rcases List.mem_cons.1 hz with rfl | hz
     ·omega
     ·exact g2 z hz
    ·rw[Z33        ,word,← g3,l1,l2,s1,hc]
     have:UInt8.ofNat c.toNat=c:=UInt8.ofNat_toNat;rw[this,List.cons_append,List.take_append_drop]
theorem fromB_l1 (ws:List ByteArray) (hl:ws.length≤4000000):∀ (m:Nat) (pre suf:List ByteArray) (o:List Z1c) (i:Int),suf.length=2*m→ws=pre++suf→i=(pre.length:Int)→o.length≤pre.length→Z17.l1 ws o i=some (o++Z4v suf):=by
 intro m
 induction m with
 | zero =>
  intro pre suf o i hm h1 hi ho;have:suf=[]:=List.length_eq_zero_iff.1 hm;subst this;rw[Z17.l1,if_neg (by rw[h1];simp[hi])];simp[Z4v]
 | succ m ih =>
  intro pre suf o i hm h1 hi ho
  match suf,hm with
  | a::b::suf,hm =>
   have hlen:ws.length=pre.length+(suf.length+2):=by rw[h1];simp
   rw[Z17.l1,if_pos (by simp;omega),Z1s h1 hi,sb,Z0b (n:=i+1) (by omega) (by omega),Z1s (pre:=pre++[a]) (suf:=suf) (x:=b) (by rw[h1];simp) (by simp;omega),sb,chkB (by simp;omega),Z0b (n:=i+2) (by omega) (by omega)];rw[ih (pre++[a,b]) suf _ (i+2) (by simp at hm;omega) (by rw[h1];simp) (by simp;omega) (by simp;omega),Z4v];simp
theorem fromB_spec (s:ByteArray) (hs:s.size≤2000000):∃ x e,Z17.f s=some (x,e)∧((e=0∧chkC x=0∧L s=keyL x)∨(e=6∧x=[]∧∀ x',chkC x'=0→L s≠keyL x')):=by
 unfold Z17.f;have flat256:∀ x',chkC x'=0→∀ w∈Z4r x',w.size<256:=fun x' h w hw=>by
  obtain⟨z,hz,hw⟩:=List.mem_flatMap.1 hw;have:=Zab (chkC_zero h).2 z hz;simp at hw;rcases hw with rfl | rfl
  ·have:=this.1;omega
  ·have:=this.2;omega
 rcases fromB_l0 s.size s [] (Nat.le_refl _) hs (by simp;omega) with ⟨g1,g2⟩ | ⟨ws,g1,g2,g3,g4⟩
 ·rw[g1,sb]
  exact⟨[],6,rfl,.inr ⟨rfl,rfl,fun x' h e=>g2 (Z4r x') (flat256 x' h) (by rw[e,Z59])⟩⟩
 ·rw[g1,sb,List.nil_append]
  dsimp only;have ht:Int.tmod (ws.length:Int) 2=((ws.length % 2:Nat):Int):=by rw[Int.tmod_eq_emod_of_nonneg (by omega)];omega
  have huniq:∀ x',chkC x'=0→L s=keyL x'→ws=Z4r x':=fun x' h e=>Z8h g2 (flat256 x' h) (by rw[← g3,e,Z59])
  have heven:∀ x':List Z1c,(Z4r x').length % 2=0:=fun x'=>by
   induction x' with
   | nil=>rfl
   | cons z x' ih =>
    have:Z4r (z::x')=z.f0::z.f1::Z4r x':=by simp[Z4r]
    rw[this];simp;omega
  rw[ht];by_cases hodd:ws.length % 2=1
  ·rw[if_pos (by simp;omega)]
   refine⟨[],6,rfl,.inr ⟨rfl,rfl,fun x' h e => ?_⟩⟩;have:=huniq x' h e;have h2:=heven x';rw[← this] at h2;omega
  ·rw[if_neg (by simp;omega),fromB_l1 ws (by omega) (ws.length / 2) [] ws [] 0 (by omega) rfl rfl (by simp),sb,List.nil_append,lcheck,sb]
   by_cases hc:chkC (Z4v ws)=0
   ·rw[if_neg (by simpa using hc)]
    exact⟨_,0,rfl,.inl ⟨rfl,hc,by rw[g3,Z59,Z8y ws (by omega)]⟩⟩
   ·rw[if_pos (by simpa using hc)]
    refine⟨[],6,rfl,.inr ⟨rfl,rfl,fun x' h e => ?_⟩⟩;have:=huniq x' h e;rw[this,Z8t] at hc;exact hc h
def tot:List Z0v→Int→Int
 | [],_=>0
 | b::l,i=>(if b.f0=i then b.f1 else 0)+tot l i
abbrev Nn (l:List Z0v):Prop:=∀ b∈l,0≤b.f1
structure Canon (l:List Z0v):Prop where
 up:l.Pairwise (fun a b=>a.f0<b.f0)
 pos:∀ b∈l,0<b.f1
theorem snoc_at {α:Type} (l:List α) (x:α) (h:l.length<1000000000000):at? (l++[x]) (i64.wrap (((l++[x]).length:Int)-1))=some x:=by
 rw[List.length_append,List.length_singleton,Z0b (by omega) (by omega)];exact Z1s (pre:=l) (suf:=[]) rfl (by omega)
theorem snoc_set {α:Type} (l:List α) (x y:α) (h:l.length<1000000000000):(l++[x]).set (Int.toNat (i64.wrap (((l++[x]).length:Int)-1))) y=l++[y]:=by
 rw[List.length_append,List.length_singleton,Z0b (by omega) (by omega),show(((l.length+1:Nat):Int)-1).toNat=l.length by omega];simp
structure TidyI (pre out:List Z0v):Prop where
 canon:Canon out
 seen:∀ o∈out,∃ p∈pre,p.f0=o.f0
 tots:∀ i,tot out i=tot pre i
 u64:∀ o∈out,U64 o.f1
 len:out.length≤pre.length
def Sm (l:List Int):Prop:=∀ i∈l,-1000000≤i∧i≤1000000
def Inc (l:List Int):Prop:=l.Pairwise (· < ·)
theorem Sm.cons {x:Int} {l:List Int} (h:Sm (x::l)):(-1000000≤x∧x≤1000000)∧Sm l:=⟨h x (by simp),fun i hi=>h i (by simp[hi])⟩
theorem Inc.cons {x:Int} {l:List Int} (h:Inc (x::l)):(∀ y∈l,x<y)∧Inc l:=List.pairwise_cons.1 h
def uni:List Int→List Int→List Int
 | [],y=>y
 | a::x,[]=>a::x
 | a::x,b::y=>if a<b then a::uni x (b::y) else if b<a then b::uni (a::x) y else a::uni x y
termination_by x y=>x.length+y.length
end Go.Proofs.YtpoihfcehejgfaaGreat.PvGS
