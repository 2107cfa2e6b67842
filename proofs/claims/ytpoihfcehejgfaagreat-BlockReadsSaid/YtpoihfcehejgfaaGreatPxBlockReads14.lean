import Derived.Test.YtpoihfcehejgfaaGreatPxBlockReads13
set_option linter.unusedVariables false
set_option linter.unusedSimpArgs false
set_option maxRecDepth 10000
namespace Go.Proofs.YtpoihfcehejgfaaGreat.PvGS2
open Go Go.Pv Go.Pv.GS Go.IntKind
def Zcl (l:List Z0f):Prop:=(∀ x∈l,Zeo x.f0=true∧valB x.f1=true)∧l.Pairwise (fun a b=>nLt a b=true)
theorem Zdf:∀ (l:List Z0f) (q:ByteArray),Z6f (some q) l=true↔Zcl l∧∀ x∈l,bl q x.f0=true
 | [],q=>by simp[Z6f,Zcl]
 | x::l,q=>by
  have ih:=Zdf l x.f0;rw[Z7o];simp only[Bool.and_eq_true,ih];unfold Zcl;simp only[List.mem_cons,forall_eq_or_imp,List.pairwise_cons];constructor
  ·rintro⟨h1,h2,h3,⟨h4,h5⟩,h6⟩
   exact⟨⟨⟨⟨h1,h2⟩,h4⟩,h6,h5⟩,h3,fun y hy=>Z9w _ _ _ h3 (h6 y hy)⟩
  ·rintro⟨⟨⟨⟨h1,h2⟩,h4⟩,h6,h5⟩,h3,h7⟩
   exact⟨h1,h2,h3,⟨h4,h5⟩,h6⟩
theorem rising_none (l:List Z0f):Z6f none l=true↔Zcl l:=by
 cases l with
 | nil=>simp[Z6f,Zcl]
 | cons x l =>
  rw[Z7o];simp only[Bool.and_eq_true,Zdf];unfold Zcl;simp only[List.mem_cons,forall_eq_or_imp,List.pairwise_cons];constructor
  ·rintro⟨h1,h2,_,⟨h4,h5⟩,h6⟩
   exact⟨⟨⟨h1,h2⟩,h4⟩,h6,h5⟩
  ·rintro⟨⟨⟨h1,h2⟩,h4⟩,h6,h5⟩
   exact⟨h1,h2,trivial,⟨h4,h5⟩,h6⟩
theorem Ze6 {l:List Z0f} (h:chkC l=0):l.length≤16∧Zcl l:=by
 unfold chkC at h;by_cases q:l.length>16
 ·rw[if_pos q] at h;omega
 ·rw[if_neg q] at h
  by_cases q2:Z6f none l=true
  ·exact⟨by omega,(rising_none l).1 q2⟩
  ·rw[if_neg q2] at h;omega
def word (s:ByteArray):List UInt8:=UInt8.ofNat s.size::L s
def keyL (l:List Z0f):List UInt8:=l.flatMap fun x=>word x.f0++word x.f1
def Short (x:Z0f):Prop:=x.f0.size≤64∧x.f1.size≤64
theorem keyL_cons (x:Z0f) (l:List Z0f):keyL (x::l)=word x.f0++(word x.f1++keyL l):=by simp[keyL]
theorem Zan (s:ByteArray):(word s).length=s.size+1:=by rw[word,List.length_cons,Z56]
theorem Zab {l:List Z0f} (h:Zcl l):∀ x∈l,Short x:=fun x hx=>by
 have:=h.1 x hx;simp only[Zeo,valB,Bool.and_eq_true,decide_eq_true_eq] at this;exact⟨this.1.1.2,this.2.2⟩
theorem word_inj' {a b:ByteArray} {x y:List UInt8} (ha:a.size<256) (hb:b.size<256) (h:word a++x=word b++y):a=b∧x=y:=by
 have h0:UInt8.ofNat a.size=UInt8.ofNat b.size:=by
  have:=congrArg List.head? h;simpa[word] using this
 have hs:a.size=b.size:=by
  have:=congrArg UInt8.toNat h0;rw[UInt8.toNat_ofNat',UInt8.toNat_ofNat',Nat.mod_eq_of_lt (by omega),Nat.mod_eq_of_lt (by omega)] at this;exact this
 obtain⟨h1,h2⟩:=List.append_inj h (by rw[Zan,Zan,hs]);simp only[word,List.cons.injEq] at h1;exact⟨ext_L h1.2,h2⟩
def Z55 (ws:List ByteArray):List UInt8:=ws.flatMap word
theorem Z41 (w:ByteArray) (ws:List ByteArray):Z55 (w::ws)=word w++Z55 ws:=by simp[Z55]
theorem Zbc:∀ {a b:List ByteArray},(∀ x∈a,x.size<256)→(∀ x∈b,x.size<256)→Z55 a=Z55 b→a=b
 | [],[],_,_,_=>rfl
 | [],y::b,_,_,h=>by rw[Z41,word] at h;simp[Z55] at h
 | x::a,[],_,_,h=>by rw[Z41,word] at h;simp[Z55] at h
 | x::a,y::b,ha,hb,h=>by
  rw[Z41,Z41] at h;obtain⟨h1,h2⟩:=word_inj' (ha x (by simp)) (hb y (by simp)) h;rw[h1,Zbc (fun z hz=>ha z (by simp[hz])) (fun z hz=>hb z (by simp[hz])) h2]
def Z4m (l:List Z0f):List ByteArray:=l.flatMap fun x=>[x.f0,x.f1]
def Z6w:List ByteArray→List Z0f
 | a::b::r=>⟨a,b⟩::Z6w r
 | _=>[]
theorem Zbn:∀ l:List Z0f,Z6w (Z4m l)=l
 | []=>rfl
 | x::l=>by
  have:Z4m (x::l)=x.f0::x.f1::Z4m l:=by simp[Z4m]
  rw[this,Z6w,Zbn l]
theorem Z6q:∀ l:List Z0f,keyL l=Z55 (Z4m l)
 | []=>rfl
 | x::l=>by
  have:Z4m (x::l)=x.f0::x.f1::Z4m l:=by simp[Z4m]
  rw[this,Z41,Z41,keyL_cons,Z6q l]
theorem Zby:∀ (ws:List ByteArray),ws.length % 2=0→Z4m (Z6w ws)=ws
 | [],_=>rfl
 | [a],h=>by simp at h
 | a::b::r,h=>by
  have:Z4m (Z6w (a::b::r))=a::b::Z4m (Z6w r):=by simp[Z4m,Z6w]
  rw[this,Zby r (by simp at h;omega)]
theorem L_cons_of {s:ByteArray} (h:0<s.size):∃ c r,L s=c::r∧r.length=s.size-1∧bt s 0=(c.toNat:Int):=by
 cases hl:L s with
 | nil=>have:=Z56 s;rw[hl] at this;simp at this;omega
 | cons c r =>
  refine⟨c,r,rfl,?_,bt_L (i:=0) (by rw[hl];rfl)⟩;have:=Z56 s;rw[hl] at this;simp at this;omega
theorem fromB_l0:∀ (n:Nat) (s:ByteArray) (acc:List ByteArray),s.size≤n→s.size≤2000000→acc.length+s.size≤4000000 →
  (Z0h.l0 s acc=some (.inl ([],6))∧∀ ws:List ByteArray,(∀ w∈ws,w.size<256)→L s≠Z55 ws)∨(∃ ws,Z0h.l0 s acc=some (.inr (acc++ws))∧(∀ w∈ws,w.size<256)∧L s=Z55 ws∧ws.length≤s.size):=by
 intro n
 induction n with
 | zero =>
  intro s acc hn h5 ha;rw[Z0h.l0,if_neg (by rw[decide_eq_true_eq];omega)];have:L s=[]:=List.length_eq_zero_iff.1 (by rw[Z56];omega);exact .inr ⟨[],by simp,by simp,by rw[this];rfl,by simp⟩
 | succ n ih =>
  intro s acc hn h5 ha;by_cases h0:0<s.size
  case neg =>
   rw[Z0h.l0,if_neg (by rw[decide_eq_true_eq];omega)];have:L s=[]:=List.length_eq_zero_iff.1 (by rw[Z56];omega);exact .inr ⟨[],by simp,by simp,by rw[this];rfl,by simp⟩
  obtain⟨c,r,hc,hr,hbt⟩:=L_cons_of h0;have hcl:=c.toNat_lt;have hword:∀ ws:List ByteArray,(∀ w∈ws,w.size<256)→L s=Z55 ws→∃ w ws',ws=w::ws'∧w.size=c.toNat∧r=L w++Z55 ws':=fun ws hw e=>by
   cases ws with
   | nil=>rw[hc] at e;simp[Z55] at e
   | cons w ws' =>
    rw[hc,Z41,word,List.cons_append,List.cons.injEq] at e;refine⟨w,ws',rfl,?_,e.2⟩;have:=hw w (by simp);rw[e.1,UInt8.toNat_ofNat',Nat.mod_eq_of_lt (by omega)]
  rw[Z0h.l0,if_pos (by simp;omega),chkB (by omega),hbt,Z8 (n:=(c.toNat:Int)) (by omega) (by omega),Z8 (n:=(s.size:Int)-1) (by omega) (by omega)];by_cases hle:(c.toNat:Int)>(s.size:Int)-1
  ·rw[if_pos (by simpa using hle)]
   refine .inl ⟨rfl,fun ws hw e => ?_⟩;obtain⟨w,ws',_,h1,h2⟩:=hword ws hw e;have:=congrArg List.length h2;rw[List.length_append,Z56] at this;omega
  ·have e1:Int.toNat ((1:Int)+(c.toNat:Int))=1+c.toNat:=by omega
   have l1:L (s.extract (Int.toNat 1) (Int.toNat ((1:Int)+(c.toNat:Int))))=r.take c.toNat:=by
    rw[Z8c,e1,hc];simp
   have l2:L (s.extract (Int.toNat ((1:Int)+(c.toNat:Int))) (Int.toNat (s.size:Int)))=r.drop c.toNat:=by
    rw[Z8c,e1,hc,Int.toNat_natCast,Nat.add_comm 1 c.toNat,List.drop_succ_cons,List.take_of_length_le (by simp;omega)]
   have s1:(s.extract (Int.toNat 1) (Int.toNat ((1:Int)+(c.toNat:Int)))).size=c.toNat:=by rw[← Z56,l1,List.length_take];omega
   have s2:(s.extract (Int.toNat ((1:Int)+(c.toNat:Int))) (Int.toNat (s.size:Int))).size=s.size-1-c.toNat:=by rw[← Z56,l2,List.length_drop];omega
   rw[if_neg (by simpa using hle),Z8 (n:=(1:Int)+(c.toNat:Int)) (by omega) (by omega),chkB (by omega),chkB (by simp;omega),chkB (by omega)];generalize s.extract (Int.toNat 1) (Int.toNat ((1:Int)+(c.toNat:Int)))=w0 at *;generalize s.extract (Int.toNat ((1:Int)+(c.toNat:Int))) (Int.toNat (s.size:Int))=rest at *;rcases ih rest (acc++[w0]) (by omega) (by omega) (by simp;omega) with ⟨g1,g2⟩ | ⟨ws,g1,g2,g3,g4⟩
   ·refine .inl ⟨g1,fun ws hw e => ?_⟩
    obtain⟨w,ws',rfl,h1,h2⟩:=hword ws hw e;refine g2 ws' (fun z hz=>hw z (by simp[hz])) ?_;rw[l2,h2,← h1,← Z56,List.drop_left]
   ·refine .inr ⟨w0::ws,by rw[g1];simp,fun z hz => ?_,?_,by simp;omega⟩
    ·rcases List.mem_cons.1 hz with rfl | hz
     ·omega
     ·exact g2 z hz
    ·rw[Z41        ,word,← g3,l1,l2,s1,hc]
     have:UInt8.ofNat c.toNat=c:=UInt8.ofNat_toNat;rw[this,List.cons_append,List.take_append_drop]
theorem fromB_l1 (ws:List ByteArray) (hl:ws.length≤4000000):∀ (m:Nat) (pre suf:List ByteArray) (o:List Z0f) (i:Int),suf.length=2*m→ws=pre++suf→i=(pre.length:Int)→o.length≤pre.length→Z0h.l1 ws o i=some (o++Z6w suf):=by
 intro m
 induction m with
 | zero =>
  intro pre suf o i hm h1 hi ho;have:suf=[]:=List.length_eq_zero_iff.1 hm;subst this;rw[Z0h.l1,if_neg (by rw[h1];simp[hi])];simp[Z6w]
 | succ m ih =>
  intro pre suf o i hm h1 hi ho
  match suf,hm with
  | a::b::suf,hm =>
   have hlen:ws.length=pre.length+(suf.length+2):=by rw[h1];simp
   rw[Z0h.l1,if_pos (by simp;omega),Z06 h1 hi,sb,Z8 (n:=i+1) (by omega) (by omega),Z06 (pre:=pre++[a]) (suf:=suf) (x:=b) (by rw[h1];simp) (by simp;omega),sb,chkB (by simp;omega),Z8 (n:=i+2) (by omega) (by omega)];rw[ih (pre++[a,b]) suf _ (i+2) (by simp at hm;omega) (by rw[h1];simp) (by simp;omega) (by simp;omega),Z6w];simp
theorem Zf0 (s:ByteArray) (hs:s.size≤2000000):∃ x e,Z0h.f s=some (x,e)∧((e=0∧chkC x=0∧L s=keyL x)∨(e=6∧x=[]∧∀ x',chkC x'=0→L s≠keyL x')):=by
 unfold Z0h.f;have flat256:∀ x',chkC x'=0→∀ w∈Z4m x',w.size<256:=fun x' h w hw=>by
  obtain⟨z,hz,hw⟩:=List.mem_flatMap.1 hw;have:=Zab (Ze6 h).2 z hz;simp at hw;rcases hw with rfl | rfl
  ·have:=this.1;omega
  ·have:=this.2;omega
 rcases fromB_l0 s.size s [] (Nat.le_refl _) hs (by simp;omega) with ⟨g1,g2⟩ | ⟨ws,g1,g2,g3,g4⟩
 ·rw[g1,sb]
  exact⟨[],6,rfl,.inr ⟨rfl,rfl,fun x' h e=>g2 (Z4m x') (flat256 x' h) (by rw[e,Z6q])⟩⟩
 ·rw[g1,sb,List.nil_append]
  dsimp only;have ht:Int.tmod (ws.length:Int) 2=((ws.length % 2:Nat):Int):=by rw[Int.tmod_eq_emod_of_nonneg (by omega)];omega
  have huniq:∀ x',chkC x'=0→L s=keyL x'→ws=Z4m x':=fun x' h e=>Zbc g2 (flat256 x' h) (by rw[← g3,e,Z6q])
  have heven:∀ x':List Z0f,(Z4m x').length % 2=0:=fun x'=>by
   induction x' with
   | nil=>rfl
   | cons z x' ih =>
    have:Z4m (z::x')=z.f0::z.f1::Z4m x':=by simp[Z4m]
    rw[this];simp;omega
  rw[ht];by_cases hodd:ws.length % 2=1
  ·rw[if_pos (by simp;omega)]
   refine⟨[],6,rfl,.inr ⟨rfl,rfl,fun x' h e => ?_⟩⟩;have:=huniq x' h e;have h2:=heven x';rw[← this] at h2;omega
  ·rw[if_neg (by simp;omega),fromB_l1 ws (by omega) (ws.length / 2) [] ws [] 0 (by omega) rfl rfl (by simp),sb,List.nil_append,lcheck,sb]
   by_cases hc:chkC (Z6w ws)=0
   ·rw[if_neg (by simpa using hc)]
    exact⟨_,0,rfl,.inl ⟨rfl,hc,by rw[g3,Z6q,Zby ws (by omega)]⟩⟩
   ·rw[if_pos (by simpa using hc)]
    refine⟨[],6,rfl,.inr ⟨rfl,rfl,fun x' h e => ?_⟩⟩;have:=huniq x' h e;rw[this,Zbn] at hc;exact hc h
def tot:List Z0→Int→Int
 | [],_=>0
 | b::l,i=>(if b.f0=i then b.f1 else 0)+tot l i
abbrev Nn (l:List Z0):Prop:=∀ b∈l,0≤b.f1
theorem Z3g (a b:List Z0) (i:Int):tot (a++b) i=tot a i+tot b i:=by
 induction a with
 | nil=>simp[tot]
 | cons x a ih=>simp only[List.cons_append,tot,ih];omega
theorem Zbf (b:Z0) (i:Int):tot [b] i=if b.f0=i then b.f1 else 0:=by simp[tot]
theorem Z72 {l:List Z0} (h:Nn l) (i:Int):0≤tot l i:=by
 induction l with
 | nil=>simp[tot]
 | cons b l ih =>
  have:=h b (by simp);have:=ih (fun y hy=>h y (by simp[hy]));rw[tot];split<;>omega
theorem tot_zero {l:List Z0} {i:Int} (h:∀ b∈l,b.f0≠i):tot l i=0:=by
 induction l with
 | nil=>rfl
 | cons b l ih=>rw[tot,if_neg (h b (by simp)),ih (fun y hy=>h y (by simp[hy]))];rfl
theorem tot_mem {l:List Z0} (h:Nn l) {b:Z0} (hb:b∈l):b.f1≤tot l b.f0:=by
 induction l with
 | nil=>simp at hb
 | cons y l ih =>
  have h1:=h y (by simp);have h2:=Z72 (l:=l) (fun z hz=>h z (by simp[hz])) b.f0;rw[tot];rcases List.mem_cons.1 hb with rfl | hb
  ·simp;omega
  ·have:=ih (fun z hz=>h z (by simp[hz])) hb
   split<;>omega
theorem tot_perm {a b:List Z0} (h:a.Perm b) (i:Int):tot a i=tot b i:=by
 induction h with
 | nil=>rfl
 | cons x _ ih=>simp only[tot,ih]
 | swap x y l=>simp only[tot];omega
 | trans _ _ h1 h2=>exact h1.trans h2
structure Z3p (l:List Z0):Prop where
 up:l.Pairwise (fun a b=>a.f0<b.f0)
 pos:∀ b∈l,0<b.f1
theorem Z3p.nn {l:List Z0} (h:Z3p l):Nn l:=fun b hb=>Int.le_of_lt (h.pos b hb)
theorem Z3p.tail {x:Z0} {l:List Z0} (h:Z3p (x::l)):Z3p l:=⟨(List.pairwise_cons.1 h.up).2,fun b hb=>h.pos b (by simp[hb])⟩
theorem Z3p.tot_head {x:Z0} {l:List Z0} (h:Z3p (x::l)):tot (x::l) x.f0=x.f1:=by
 rw[tot,tot_zero (fun b hb=>by have:=(List.pairwise_cons.1 h.up).1 b hb;omega)];simp
theorem Z3p.tot_low {x:Z0} {l:List Z0} (h:Z3p (x::l)) {i:Int} (hi:i<x.f0):tot (x::l) i=0 :=
 tot_zero (fun b hb=>by
  rcases List.mem_cons.1 hb with rfl | hb
  ·omega
  ·have:=(List.pairwise_cons.1 h.up).1 b hb;omega)
theorem Z3p.tot_of {l:List Z0} (h:Z3p l) {b:Z0} (hb:b∈l):tot l b.f0=b.f1:=by
 induction l with
 | nil=>simp at hb
 | cons x l ih =>
  rcases List.mem_cons.1 hb with rfl | hb
  ·exact h.tot_head
  ·have:=(List.pairwise_cons.1 h.up).1 b hb
   rw[tot,if_neg (by omega),ih h.tail hb];omega
theorem Z4r:∀ {a b:List Z0},Z3p a→Z3p b→(∀ i,tot a i=tot b i)→a=b
 | [],[],_,_,_=>rfl
 | [],y::b,_,hb,h=>by
  have h1:=h y.f0;rw[hb.tot_head] at h1;have:=hb.pos y (by simp);simp[tot] at h1;omega
 | x::a,[],ha,_,h=>by
  have h1:=h x.f0;rw[ha.tot_head] at h1;have:=ha.pos x (by simp);simp[tot] at h1;omega
 | x::a,y::b,ha,hb,h=>by
  have hx:=ha.pos x (by simp);have hy:=hb.pos y (by simp);have e0:x.f0=y.f0:=by
   by_cases h1:x.f0<y.f0
   ·have:=h x.f0;rw[ha.tot_head,hb.tot_low h1] at this;omega
   ·by_cases h2:y.f0<x.f0
    ·have:=h y.f0;rw[hb.tot_head,ha.tot_low h2] at this;omega
    ·omega
  have e1:x.f1=y.f1:=by
   have:=h x.f0;rw[ha.tot_head,e0,hb.tot_head] at this;exact this
  have e:x=y:=by cases x;cases y;simp_all
  subst e;rw[Z4r ha.tail hb.tail (fun i=>by have:=h i;simp only[tot] at this;omega)]
def bLt (a b:Z0):Bool:=decide (a.f0<b.f0)
theorem bLt_swo:SWO bLt:=⟨fun a b h=>by simp[bLt] at *;omega,fun a b c h1 h2=>by simp[bLt] at *;omega⟩
theorem bCmp:Cmp Z2i.f bLt:=fun a b=>by
 refine⟨_,by unfold Z2i.f;rw[compare_int,sb],?_⟩;simp only[bLt];by_cases h1:a.f0<b.f0
 ·simp[h1]
 ·by_cases h2:b.f0<a.f0<;>simp[h1,h2]
theorem sort_inst:Z0p.f=GS.SortStable.f Z2i.f:=by kernel_rfl
theorem Zc2 (l:List Z0) (h:l.length<1000000000):Z0o.f l=some l:=by
 unfold Z0o.f;rw[chkB (by simp;omega)]
theorem snoc_at {α:Type} (l:List α) (x:α) (h:l.length<1000000000000):at? (l++[x]) (i64.wrap (((l++[x]).length:Int)-1))=some x:=by
 rw[List.length_append,List.length_singleton,Z8 (by omega) (by omega)];exact Z06 (pre:=l) (suf:=[]) rfl (by omega)
theorem snoc_set {α:Type} (l:List α) (x y:α) (h:l.length<1000000000000):(l++[x]).set (Int.toNat (i64.wrap (((l++[x]).length:Int)-1))) y=l++[y]:=by
 rw[List.length_append,List.length_singleton,Z8 (by omega) (by omega),show(((l.length+1:Nat):Int)-1).toNat=l.length by omega];simp
structure TidyI (pre out:List Z0):Prop where
 canon:Z3p out
 seen:∀ o∈out,∃ p∈pre,p.f0=o.f0
 tots:∀ i,tot out i=tot pre i
 u64:∀ o∈out,U64 o.f1
 len:out.length≤pre.length
theorem tidy_l0 (l:List Z0) (hl:l.length<1000000000) (hU:∀ b∈l,U64 b.f1) (hs:l.Pairwise (fun a b=>a.f0≤b.f0)):∀ (suf pre out:List Z0) (i:Int),l=pre++suf→i=(pre.length:Int)→TidyI pre out →
  (∃ out',Z1d.l0 l out i=some (.inr out')∧TidyI l out')∨(Z1d.l0 l out i=some (.inl ([],5))∧∃ i,18446744073709551616≤tot l i):=by
 intro suf
 induction suf with
 | nil =>
  intro pre out i h1 hi hI;rw[List.append_nil] at h1;subst h1;rw[Z1d.l0,if_neg (by simp[hi])];exact .inl ⟨out,rfl,hI⟩
 | cons b suf ih =>
  intro pre out i h1 hi hI;have hb:=hU b (by rw[h1];simp);have hlen:l.length=pre.length+(suf.length+1):=by rw[h1];simp
  have holen:out.length≤pre.length:=hI.len;have hle:∀ p∈pre,p.f0≤b.f0:=fun p hp=>by
   rw[h1] at hs;exact(List.pairwise_append.1 hs).2.2 p hp b (by simp)
  have e1:l=(pre++[b])++suf:=by simp[h1]
  have e2:i+1=((pre++[b]).length:Int):=by simp[hi]
  rw[Z1d.l0,if_pos (by rw[h1];simp[hi];omega),Z06 h1 hi,sb,Z8 (n:=i+1) (by omega) (by omega)];by_cases h0:b.f1=0
  ·rw[if_pos (by simpa using h0),sb]
   simp only[];exact ih (pre++[b]) out (i+1) e1 e2 ⟨hI.canon,fun o ho=>let ⟨p,hp,e⟩:=hI.seen o ho;⟨p,by simp[hp],e⟩,fun i=>by rw[hI.tots,Z3g,Zbf,h0];simp,hI.u64,by simp;omega⟩
  rw[if_neg (by simpa using h0)];have hnew:(∀ o∈out,o.f0<b.f0)→TidyI (pre++[b]) (out++[b]):=fun hlt =>
   ⟨⟨List.pairwise_append.2 ⟨hI.canon.up, List.pairwise_singleton _ _, fun o ho y hy => by simp at hy; subst hy; exact hlt o ho⟩, fun o ho => by
     rcases List.mem_append.1 ho with ho | ho
     ·exact hI.canon.pos o ho
     ·simp at ho;subst ho;omega⟩,
    fun o ho=>by
     rcases List.mem_append.1 ho with ho | ho
     ·obtain⟨p,hp,e⟩:=hI.seen o ho;exact⟨p,by simp[hp],e⟩
     ·simp at ho;subst ho;exact⟨o,by simp,rfl⟩,
    fun i=>by rw[Z3g,Z3g,hI.tots],
    fun o ho=>by
     rcases List.mem_append.1 ho with ho | ho
     ·exact hI.u64 o ho
     ·simp at ho;subst ho;exact hb,
    by simp;omega⟩
  have happ:∀ (hlt:∀ o∈out,o.f0<b.f0),(∃ out',Z1d.l0 l (out++[b]) (i+1)=some (.inr out')∧TidyI l out')∨(Z1d.l0 l (out++[b]) (i+1)=some (.inl ([],5))∧∃ i,18446744073709551616≤tot l i):=fun hlt =>
   ih (pre++[b]) (out++[b]) (i+1) e1 e2 (hnew hlt)
  have hroom:(out.length+[b].length)*16≤140737488355328:=by simp;omega
  rcases List.eq_nil_or_concat out with rfl | ⟨o',o,rfl⟩
  ·rw[if_neg (by simp),sb,if_neg (by simp),chkB hroom,sb]
   simp only[];exact happ (by simp)
  simp only[List.concat_eq_append] at *;have ho':o'.length<1000000000000:=by simp at holen;omega
  rw[if_pos (by simp),snoc_at _ _ ho',sb,sb];obtain⟨p,hp,hpo⟩:=hI.seen o (by simp);have hob:o.f0≤b.f0:=hpo ▸ hle p hp;have hup:=List.pairwise_append.1 hI.canon.up;by_cases he:o.f0=b.f0
  ·rw[if_pos (by simpa using he),sb,num_add2 (hI.u64 o (by simp)) hb,sb]
   have ho1:=hI.u64 o (by simp);by_cases hov:o.f1+b.f1<18446744073709551616
   ·rw[if_pos hov,if_neg (by simp),sb,snoc_set _ _ _ ho']
    simp only[sb];refine ih (pre++[b]) (o'++[⟨o.f0,o.f1+b.f1⟩]) (i+1) e1 e2 ⟨⟨List.pairwise_append.2 ⟨hup.1,List.pairwise_singleton _ _,fun x hx y hy=>by simp at hy;subst hy;exact hup.2.2 x hx o (by simp)⟩,fun x hx => ?_⟩,fun x hx => ?_,fun i => ?_,fun x hx => ?_,by simp at holen ⊢;omega⟩
    ·rcases List.mem_append.1 hx with hx | hx
     ·exact hI.canon.pos x (by simp[hx])
     ·simp at hx;subst hx;have:=hI.canon.pos o (by simp);simp;omega
    ·rcases List.mem_append.1 hx with hx | hx
     ·obtain⟨p,hp,e⟩:=hI.seen x (by simp[hx]);exact⟨p,by simp[hp],e⟩
     ·simp at hx;subst hx;exact⟨b,by simp,he.symm⟩
    ·have:=hI.tots i
     rw[Z3g,Zbf] at this ⊢;rw[Z3g,Zbf,← this];simp only;rw[← he];split<;>omega
    ·rcases List.mem_append.1 hx with hx | hx
     ·exact hI.u64 x (by simp[hx])
     ·simp at hx;subst hx;exact⟨by simp;omega,hov⟩
   ·rw[if_neg hov,if_pos (by simp),sb]
    simp only[];refine .inr ⟨rfl,b.f0,?_⟩;have h3:=hI.tots b.f0;rw[Z3g,Zbf,if_pos he] at h3;have h4:=Z72 (l:=o') (fun x hx=>hI.canon.nn x (by simp[hx])) b.f0;have h5:=Z72 (l:=suf) (fun x hx=>(hU x (by rw[h1];simp[hx])).1) b.f0;rw[h1,Z3g,tot,if_pos rfl];omega
  ·rw[if_neg (by simpa using he),chkB hroom,sb]
   simp only[];refine happ (fun x hx => ?_);rcases List.mem_append.1 hx with hx | hx
   ·have:=hup.2.2 x hx o (by simp);omega
   ·simp at hx;subst hx;omega
theorem Z80 (l:List Z0) (hl:l.length<100000000) (hU:∀ b∈l,U64 b.f1) :
  (∃ out,Z1d.f l=some (out,0)∧Z3p out∧(∀ i,tot out i=tot l i)∧(∀ b∈out,U64 b.f1)∧(∀ b∈out,∃ p∈l,p.f0=b.f0)∧out.length≤l.length) ∨
  (Z1d.f l=some ([],5)∧∃ i,18446744073709551616≤tot l i):=by
 unfold Z1d.f;rw[Zc2 l (by omega),sb,sort_inst,GS.sorts bCmp bLt_swo l (by omega),sb];have hp:=S_perm (lt:=bLt) l;have hs:(GS.S bLt l).Pairwise (fun a b=>a.f0≤b.f0):=(Z9x bLt_swo l).imp (fun {a b} h=>by simp[bLt] at h;exact h);rcases tidy_l0 (GS.S bLt l) (by rw[Z6t];omega) (fun b hb=>hU b (hp.mem_iff.1 hb)) hs (GS.S bLt l) [] [] 0 rfl rfl ⟨⟨List.Pairwise.nil,by simp⟩,by simp,fun _=>rfl,by simp,by simp⟩ with ⟨out,e,h⟩ | ⟨e,i,h⟩
 ·rw[e]
  exact .inl ⟨out,rfl,h.canon,fun i=>(h.tots i).trans (tot_perm hp i),h.u64,fun b hb=>let ⟨p,hp',e⟩:=h.seen b hb;⟨p,hp.mem_iff.1 hp',e⟩,by have:=h.len;rw[Z6t] at this;exact this⟩
 ·rw[e]
  exact .inr ⟨rfl,i,by rw[← tot_perm hp i];exact h⟩
theorem tidy_fits {l out:List Z0} (hc:Z3p out) (ht:∀ i,tot out i=tot l i) (hu:∀ b∈out,U64 b.f1) (i:Int):tot l i<18446744073709551616:=by
 rw[← ht];by_cases h:∃ b∈out,b.f0=i
 ·obtain⟨b,hb,rfl⟩:=h
  rw[hc.tot_of hb];exact(hu b hb).2
 ·rw[tot_zero (fun b hb e=>h ⟨b,hb,e⟩)];omega
theorem tidy_id (l:List Z0) (hl:l.length<100000000) (hU:∀ b∈l,U64 b.f1) (hc:Z3p l):Z1d.f l=some (l,0):=by
 rcases Z80 l hl hU with ⟨o,e,h1,h2,h3,_⟩ | ⟨e,i,h1⟩
 ·rw[e,Z4r h1 hc h2]
 ·have:=tidy_fits hc (fun _=>rfl) hU i;omega
def runs (prev n off:Int):List Int→List Z2u
 | []=>[⟨off,n⟩]
 | i::l=>if prev+1=i then runs i (n+1) off l else⟨off,n⟩::runs i 1 (i-prev-1) l
def lay:List Int→Ze
 | []=>⟨0,[]⟩
 | i::l=>⟨i,runs i 1 0 l⟩
def Sm (l:List Int):Prop:=∀ i∈l,-1000000≤i∧i≤1000000
def Inc (l:List Int):Prop:=l.Pairwise (· < ·)
theorem Sm.cons {x:Int} {l:List Int} (h:Sm (x::l)):(-1000000≤x∧x≤1000000)∧Sm l:=⟨h x (by simp),fun i hi=>h i (by simp[hi])⟩
theorem Inc.cons {x:Int} {l:List Int} (h:Inc (x::l)):(∀ y∈l,x<y)∧Inc l:=List.pairwise_cons.1 h
theorem of_l0 (l:List Z0) (hl:l.length<1000000) (hs:Sm (l.map (·.f0))) (F:Int):∀ (suf pre:List Z0) (p:Z0) (S:List Z2u) (off n i:Int),l=pre++p::suf→i=(pre.length:Int)+1→0<n→n≤(pre.length:Int)+1→S.length≤pre.length →
  Z38.l0 l F (S++[⟨off,n⟩]) i=some (F,S++runs p.f0 n off (suf.map (·.f0))):=by
 intro suf
 induction suf with
 | nil =>
  intro pre p S off n i h1 hi h0 hn hS;rw[Z38.l0,if_neg (by rw[h1];simp;omega)];rfl
 | cons x suf ih =>
  intro pre p S off n i h1 hi h0 hn hS;have hlen:l.length=pre.length+(suf.length+2):=by rw[h1];simp
  have h2:l=(pre++[p])++x::suf:=by simp[h1]
  have sp:=hs p.f0 (List.mem_map.2 ⟨p,by rw[h1];simp,rfl⟩);have sx:=hs x.f0 (List.mem_map.2 ⟨x,by rw[h1];simp,rfl⟩);rw[Z38.l0,if_pos (by simp;omega),Z06 h2 (by simp;omega),sb,if_neg (by simp;omega),Z8 (n:=i-1) (by omega) (by omega),Z06 (pre:=pre) (x:=p) (suf:=x::suf) h1 (by omega),sb,Z8 (n:=p.f0+1) (by omega) (by omega),Z8 (n:=i+1) (by omega) (by omega)];rw[List.map_cons,runs];by_cases c:p.f0+1=x.f0
  ·rw[if_pos (by simpa using c),if_pos c,snoc_at S _ (by omega),sb,sb,snoc_set S _ _ (by omega),sb]
   dsimp only;rw[Z8 (n:=n+1) (by omega) (by omega)];exact ih (pre++[p]) x S off (n+1) (i+1) h2 (by simp;omega) (by omega) (by simp;omega) (by simp;omega)
  ·rw[if_neg (by simpa using c),if_neg c,chkB (by simp;omega),sb,sb,Z8     (n:=x.f0-p.f0) (by omega) (by omega),Z8     (n:=x.f0-p.f0-1) (by omega) (by omega)]
   dsimp only;rw[ih (pre++[p]) x (S++[(⟨off,n⟩:Z2u)]) (x.f0-p.f0-1) 1 (i+1) h2 (by simp;omega) (by omega) (by simp;omega) (by simp;omega)];simp
theorem of_eq (l:List Z0) (hl:l.length<1000000) (hs:Sm (l.map (·.f0))):Z38.f l=some (lay (l.map (·.f0))):=by
 unfold Z38.f;cases l with
 | nil=>rw[Z38.l0,if_neg (by simp),sb];rfl
 | cons x l =>
  rw[Z38.l0,if_pos (by simp<;>omega),show at? (x::l) 0=some x from rfl,sb,if_pos (by simp),sb];dsimp only;rw[show i64.wrap ((0:Int)+1)=1 by decide];have:=of_l0 (x::l) hl hs x.f0 l [] x [] 0 1 1 rfl (by simp) (by omega) (by simp) (by simp);rw[List.nil_append] at this;rw[this,sb];rfl
def seqI (a:Int):Nat→List Int
 | 0=>[]
 | n+1=>a::seqI (a+1) n
theorem seqI_len (a:Int) (n:Nat):(seqI a n).length=n:=by
 induction n generalizing a with
 | zero=>rfl
 | succ n ih=>rw[seqI,List.length_cons,ih]
theorem seqI_snoc (a:Int) (n:Nat):seqI a (n+1)=seqI a n++[a+n]:=by
 induction n generalizing a with
 | zero=>simp[seqI]
 | succ n ih=>rw[seqI,ih,seqI,List.cons_append];congr 3;omega
def idxs:List Z2u→Int→List Int
 | [],_=>[]
 | s::r,a=>seqI (a+s.f0) s.f1.toNat++idxs r (a+s.f0+s.f1)
def slen:List Z2u→Nat
 | []=>0
 | s::r=>s.f1.toNat+slen r
theorem idxs_len:∀ (r:List Z2u) (a:Int),(idxs r a).length=slen r
 | [],_=>rfl
 | s::r,a=>by rw[idxs,List.length_append,seqI_len,idxs_len,slen]
structure SpOk (r:List Z2u):Prop where
 ok:∀ s∈r,-3000000≤s.f0∧s.f0≤3000000∧0≤s.f1∧s.f1≤1000000
 len:r.length≤1000000
theorem ind_l1 (L:Ze) (s:Z2u) (q:Int) (h1:s.f1≤1000000):∀ (m:Nat) (o:List Int) (at_ k:Int),k+m=s.f1→0≤k→o.length+m≤100000000000 → -1000000000000000≤at_→at_+m≤1000000000000000 →
  Zq.l1 L s q o at_ k=some (o++seqI at_ m,at_+m):=by
 intro m
 induction m with
 | zero=>intro o at_ k hk h0 ho _ _;rw[Zq.l1,if_neg (by simp;omega)];simp[seqI]
 | succ m ih =>
  intro o at_ k hk h0 ho ha hb;rw[Zq.l1,if_pos (by simp;omega),chkB (by simp;omega),Z8 (n:=at_+1) (by omega) (by omega),Z8 (n:=k+1) (by omega) (by omega),ih (o++[at_]) (at_+1) (k+1) (by omega) (by omega) (by simp;omega) (by omega) (by omega)];rw[seqI];simp;omega
theorem ind_l0 (L:Ze) (hL:SpOk L.f1):∀ (suf pre:List Z2u) (o:List Int) (at_ i:Int),L.f1=pre++suf→i=(pre.length:Int)→o.length+slen suf≤100000000000 → -100000000000-(pre.length:Int)*10000000≤at_→at_≤100000000000+(pre.length:Int)*10000000 →
  Zq.l0 L o at_ i=some (o++idxs suf at_):=by
 intro suf
 induction suf with
 | nil=>intro pre o at_ i h1 hi ho _ _;rw[Zq.l0,if_neg (by rw[h1];simp[hi])];simp[idxs]
 | cons s suf ih =>
  intro pre o at_ i h1 hi ho ha hb;have hlen:L.f1.length=pre.length+(suf.length+1):=by rw[h1];simp
  have hs:=hL.ok s (by rw[h1];simp);have hn:=hL.len;simp only[slen] at ho;rw[Zq.l0,if_pos (by simp;omega),Z06 h1 hi,sb,Z8 (n:=at_+s.f0) (by omega) (by omega),ind_l1 L s i (by omega) s.f1.toNat o (at_+s.f0) 0 (by omega) (by omega) (by omega) (by omega) (by omega),sb];dsimp only;rw[Z8 (n:=i+1) (by omega) (by omega),ih (pre++[s]) _ _ (i+1) (by simp[h1]) (by simp;omega) (by rw[List.length_append,seqI_len];omega) (by simp;omega) (by simp;omega),idxs,show at_+s.f0+(s.f1.toNat:Int)=at_+s.f0+s.f1 by omega];simp
theorem ind_eq (L:Ze) (hL:SpOk L.f1) (hf : -100000000000≤L.f0∧L.f0≤100000000000) (hn:slen L.f1≤100000000000):Zq.f L=some (idxs L.f1 L.f0):=by
 unfold Zq.f;rw[ind_l0 L hL L.f1 [] [] L.f0 0 rfl rfl (by simp;omega) (by simp;omega) (by simp;omega),sb];rfl
theorem Zdv:∀ (l:List Int) (p n off a:Int),0≤n→a+off+n=p+1→idxs (runs p n off l) a=seqI (a+off) n.toNat++l
 | [],p,n,off,a,h0,h=>by simp[runs,idxs]
 | i::l,p,n,off,a,h0,h=>by
  rw[runs];by_cases c:p+1=i
  ·rw[if_pos c,Zdv       l i (n+1) off a (by omega) (by omega),show(n+1).toNat=n.toNat+1 by omega,seqI_snoc]
   rw[show a+off+(n.toNat:Int)=i by omega];simp
  ·rw[if_neg c,idxs,Zdv       l i 1 (i-p-1) _ (by omega) (by dsimp only;omega)]
   dsimp only;rw[show a+off+n+(i-p-1)=i by omega];rfl
theorem idxs_lay (l:List Int):idxs (lay l).f1 (lay l).f0=l:=by
 cases l with
 | nil=>rfl
 | cons i l=>simp only[lay];rw[Zdv l i 1 0 i (by omega) (by omega)];simp[seqI]
theorem slen_lay (l:List Int):slen (lay l).f1=l.length:=by rw[← idxs_len _ (lay l).f0,idxs_lay]
theorem runs_ok:∀ (l:List Int) (p n off:Int),0≤n→n+l.length≤1000000 → -1000000≤p→p≤1000000→Sm l → -3000000≤off→off≤3000000→∀ s∈runs p n off l,-3000000≤s.f0∧s.f0≤3000000∧0≤s.f1∧s.f1≤1000000
 | [],p,n,off,h0,h1,_,_,_,h2,h3,s,hs=>by simp[runs] at hs;subst hs;simp at h1;exact⟨h2,h3,h0,h1⟩
 | i::l,p,n,off,h0,h1,hp,hp2,hm,h2,h3,s,hs=>by
  have hi:=hm.cons;simp only[List.length_cons] at h1;rw[runs] at hs;by_cases c:p+1=i
  ·rw[if_pos c] at hs
   exact runs_ok l i (n+1) off (by omega) (by omega) (by omega) (by omega) hi.2 h2 h3 s hs
  ·rw[if_neg c] at hs
   rcases List.mem_cons.1 hs with rfl | hs
   ·exact⟨h2,h3,h0,by show n≤_;omega⟩
   ·exact runs_ok l i 1 _ (by omega) (by omega) (by omega) (by omega) hi.2 (by omega) (by omega) s hs
theorem Zcw:∀ (l:List Int) (p n off:Int),(runs p n off l).length≤l.length+1
 | [],_,_,_=>by simp[runs]
 | i::l,p,n,off=>by
  rw[runs];split
  ·have:=Zcw l i (n+1) off;simp;omega
  ·have:=Zcw l i 1 (i-p-1);simp;omega
theorem lay_ok {l:List Int} (hm:Sm l) (hl:l.length<1000000):SpOk (lay l).f1:=by
 cases l with
 | nil=>exact⟨by simp[lay],by simp[lay]⟩
 | cons i l =>
  simp only[List.length_cons] at hl;have hi:=hm.cons;refine⟨runs_ok l i 1 0 (by omega) (by omega) (by omega) (by omega) hi.2 (by omega) (by omega),?_⟩;have:=Zcw l i 1 0;simp only[lay];omega
theorem lay_first {l:List Int} (hm:Sm l) : -1000000≤(lay l).f0∧(lay l).f0≤1000000:=by
 cases l with
 | nil=>simp[lay]
 | cons i l=>exact hm.cons.1
theorem Zdu {l:List Int} (hm:Sm l) (hl:l.length<1000000):Zq.f (lay l)=some l:=by
 have hf:=lay_first hm;rw[ind_eq (lay l) (lay_ok hm hl) (by omega) (by rw[slen_lay];omega),idxs_lay]
def uni:List Int→List Int→List Int
 | [],y=>y
 | a::x,[]=>a::x
 | a::x,b::y=>if a<b then a::uni x (b::y) else if b<a then b::uni (a::x) y else a::uni x y
termination_by x y=>x.length+y.length
theorem uni_nil (x:List Int):uni x []=x:=by cases x<;>simp[uni]
theorem nil_uni (y:List Int):uni [] y=y:=by simp[uni]
theorem Zbp (i:Int) (x y:List Int):i∈uni x y↔i∈x∨i∈y:=by
 fun_induction uni x y with
 | case1 y=>simp
 | case2 a x=>simp
 | case3 a x b y h ih=>rw[List.mem_cons,ih];simp[or_assoc]
 | case4 a x b y h h2 ih=>rw[List.mem_cons,ih];simp only[List.mem_cons];constructor<;>(intro q;rcases q with q | q | q<;>simp[q])<;>(rcases q with q | q<;>simp[q])
 | case5 a x b y h h2 ih =>
  have:a=b:=by omega
  subst this;rw[List.mem_cons,ih];simp only[List.mem_cons];constructor
  ·rintro(q | q | q)<;>simp[q]
  ·rintro((q | q) | q | q)<;>simp[q]
theorem uni_inc (x y:List Int) (hx:Inc x) (hy:Inc y):Inc (uni x y):=by
 fun_induction uni x y with
 | case1 y=>exact hy
 | case2 a x=>exact hx
 | case3 a x b y h ih =>
  have qx:=hx.cons;have qy:=hy.cons;refine List.pairwise_cons.2 ⟨fun z hz => ?_,ih qx.2 hy⟩;rcases(Zbp z _ _).1 hz with hz | hz
  ·exact qx.1 z hz
  ·rcases List.mem_cons.1 hz with rfl | hz
   ·exact h
   ·have:=qy.1 z hz;omega
 | case4 a x b y h h2 ih =>
  have qx:=hx.cons;have qy:=hy.cons;refine List.pairwise_cons.2 ⟨fun z hz => ?_,ih hx qy.2⟩;rcases(Zbp z _ _).1 hz with hz | hz
  ·rcases List.mem_cons.1 hz with rfl | hz
   ·exact h2
   ·have:=qx.1 z hz;omega
  ·exact qy.1 z hz
 | case5 a x b y h h2 ih =>
  have qx:=hx.cons;have qy:=hy.cons;refine List.pairwise_cons.2 ⟨fun z hz => ?_,ih qx.2 qy.2⟩;rcases(Zbp z _ _).1 hz with hz | hz
  ·exact qx.1 z hz
  ·have:=qy.1 z hz;omega
theorem uni_len (x y:List Int):(uni x y).length≤x.length+y.length:=by
 fun_induction uni x y with
 | case1 y=>simp
 | case2 a x=>simp
 | case3 a x b y h ih=>simp at *;omega
 | case4 a x b y h h2 ih=>simp at *;omega
 | case5 a x b y h h2 ih=>simp at *;omega
theorem uni_sm {x y:List Int} (hx:Sm x) (hy:Sm y):Sm (uni x y):=fun i hi=>by
 rcases(Zbp i x y).1 hi with h | h
 ·exact hx i h
 ·exact hy i h
theorem inc_ext:∀ {x y:List Int},Inc x→Inc y→(∀ i,i∈x↔i∈y)→x=y
 | [],[],_,_,_=>rfl
 | [],b::y,_,_,h=>by have:=(h b).2 (by simp);simp at this
 | a::x,[],_,_,h=>by have:=(h a).1 (by simp);simp at this
 | a::x,b::y,hx,hy,h=>by
  have qx:=hx.cons;have qy:=hy.cons;have e:a=b:=by
   rcases List.mem_cons.1 ((h a).1 (by simp)) with h1 | h1
   ·exact h1
   ·rcases List.mem_cons.1 ((h b).2 (by simp)) with h2 | h2
    ·exact h2.symm
    ·have:=qx.1 b h2;have:=qy.1 a h1;omega
  subst e;rw[inc_ext qx.2 qy.2 (fun i => ?_)];constructor
  ·intro hi
   rcases List.mem_cons.1 ((h i).1 (by simp[hi])) with h1 | h1
   ·subst h1;exact absurd (qx.1 i hi) (by omega)
   ·exact h1
  ·intro hi
   rcases List.mem_cons.1 ((h i).2 (by simp[hi])) with h1 | h1
   ·subst h1;exact absurd (qy.1 i hi) (by omega)
   ·exact h1
theorem tl1 {α:Type} (a:α) (x:List α):((a::x).drop (Int.toNat (1:Int))).take ((Int.toNat ((a::x).length:Int))-(Int.toNat ((1:Int))))=x:=by
 rw[show Int.toNat (1:Int)=1 from rfl,List.drop_succ_cons,List.drop_zero,Int.toNat_natCast,List.length_cons,Nat.add_sub_cancel,List.take_length]
theorem join_l0:∀ (m:Nat) (x y:List Int) (o:List Z0),x.length+y.length≤m→o.length+m<100000000000→Z2b.l0 x y o=some (o++(uni x y).map fun i=>⟨i,0⟩):=by
 intro m
 induction m with
 | zero =>
  intro x y o h ho;have hx:x=[]:=List.length_eq_zero_iff.1 (by omega);have hy:y=[]:=List.length_eq_zero_iff.1 (by omega);subst hx;subst hy;rw[Z2b.l0,Z8 (by simp) (by simp),if_neg (by simp)];simp[uni]
 | succ m ih =>
  intro x y o h ho;rw[Z2b.l0,Z8 (by omega) (by omega)];cases y with
  | nil =>
   cases x with
   | nil=>rw[if_neg (by simp)];simp[uni]
   | cons a x =>
    simp only[List.length_cons,List.length_nil] at h;rw[if_pos (by simp<;>omega),if_pos (by simp),sb,if_pos rfl,show at? (a::x) 0=some a from rfl,sb,chkB (by simp;omega),chkB (by simp;omega),sb,tl1];dsimp only;rw[ih x [] _ (by simp;omega) (by simp;omega),uni_nil,uni_nil];simp
  | cons b y =>
   rw[if_neg (show ¬ (((((b::y).length:Nat):Int)==0)=true) by simp;omega)];cases x with
   | nil =>
    simp only[List.length_cons,List.length_nil] at h;rw[if_pos (by simp<;>omega),if_neg (by simp),sb,if_neg (by simp),if_pos (by simp),sb,if_pos rfl,show at? (b::y) 0=some b from rfl,sb,chkB (by simp;omega),chkB (by simp;omega),sb,sb,tl1];dsimp only;rw[ih [] y _ (by simp;omega) (by simp;omega),nil_uni,nil_uni];simp
   | cons a x =>
    simp only[List.length_cons] at h;rw[if_pos (by simp<;>omega),if_pos (by simp<;>omega),show at? (a::x) 0=some a from rfl,show at? (b::y) 0=some b from rfl];simp only[sb];rw[uni];by_cases c1:a<b
    ·rw[if_pos (by simpa using c1),if_pos c1,chkB (by simp;omega),chkB (by simp;omega),sb,tl1]
     dsimp only;rw[ih x (b::y) _ (by simp;omega) (by simp;omega)];simp
    ·rw[if_neg (by simpa using c1),if_neg c1,if_neg (by simp;omega)]
     simp only[sb];by_cases c2:b<a
     ·rw[if_pos (by simpa using c2),if_pos c2,chkB (by simp;omega),chkB (by simp;omega),sb,sb,tl1]
      dsimp only;rw[ih (a::x) y _ (by simp;omega) (by simp;omega)];simp
     ·rw[if_neg (by simpa using c2),if_neg c2,chkB (by simp;omega),chkB (by simp;omega),chkB (by simp;omega),sb,sb,tl1,tl1]
      dsimp only;rw[ih x y _ (by omega) (by simp;omega)];simp
theorem join_eq {x y:List Int} (hx:Sm x) (hy:Sm y) (h:x.length+y.length<1000000):Z2b.f (lay x) (lay y)=some (lay (uni x y)):=by
 have hu:=uni_len x y;unfold Z2b.f;rw[Zdu hx (by omega),sb,Zdu hy (by omega),sb,join_l0 _ x y [] (Nat.le_refl _) (by simp;omega),sb,List.nil_append];have e:((uni x y).map fun i=>(⟨i,0⟩:Z0)).map (·.f0)=uni x y:=by rw[List.map_map];exact List.map_id _
 rw[of_eq _ (by simp;omega) (by rw[e];exact uni_sm hx hy),sb,e]
end Go.Proofs.YtpoihfcehejgfaaGreat.PvGS2
