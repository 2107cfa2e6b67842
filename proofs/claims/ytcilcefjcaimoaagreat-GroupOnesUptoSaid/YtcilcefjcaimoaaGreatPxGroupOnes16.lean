import Derived.Test.YtcilcefjcaimoaaGreatPxGroupOnes15
set_option linter.unusedVariables false
set_option linter.unusedSimpArgs false
set_option maxRecDepth 10000
namespace Go.Proofs.YtcilcefjcaimoaaGreat.PvGQ
open Go Go.Pv Go.Pv.GS Go.IntKind
open Classical
structure Pair (p q:Z1):Prop where
 vp:Z1b p
 vq:Z1b q
 fp:Fits p
 fq:Fits q
 schema:p.f1=q.f1
 zeroAt:p.f2=q.f2
theorem Zd8 (a b:Z1) (ha:Z1b a) (fa:Fits a) (hb:Z1b b) (fb:Fits b) :
  ∃ p q s z,Z0i.f a b=some (p,q,0)∧Z1n.f a b=some (p,q)∧Cut a s z p∧Cut b s z q∧Pair p q:=by
 obtain⟨p0,q0,p,q,s,z,_,_,_,_,_,e,cp,cq,_⟩:=Alike_eq a b ha fa hb fb;obtain⟨p',q',e',r',_⟩:=ref_Alike a b ha fa hb fb;rw[e] at e';simp at e';obtain⟨rfl,rfl⟩:=e';exact⟨p,q,s,z,e,r',cp,cq,cp.valid,cq.valid,cp.fits,cq.fits,cp.schema.trans cq.schema.symm,cp.zeroAt.trans cq.zeroAt.symm⟩
theorem Pair.bok {p q:Z1} (h:Pair p q) {b:Z0} (hb:b∈q.f6∨b∈q.f7):BOk p.f1 p.f2 b:=by
 rw[h.schema,h.zeroAt];rcases hb with hb | hb
 ·exact h.vq.pos.ok b hb
 ·exact h.vq.neg.ok b hb
theorem Z98 (h:Z1) (l:List Z0) (hl:512<l.length):Z18.f h l=some 9:=by
 unfold Z18.f;rw[if_pos (by simp;omega)]
theorem check_limit (h:Z1) (hf:Fits h) (hk:h.f0=0∨h.f0=1) (hs:Z19 h.f1) (hz:h.f2 = -524288∨(-262144<h.f2∧h.f2≤262144)) (o6:∀ b∈h.f6,BOk h.f1 h.f2 b) (u6:h.f6.Pairwise (fun a b=>a.f0<b.f0)) (h6:h.f6.length<1000000) (h7:h.f7.length<1000000)
  (hl:512<h.f6.length∨512<h.f7.length):Z1m.f h=some 9:=by
 unfold Z1m.f;have hk':((if(h.f0 != (0:Int))=true then(some (h.f0 != (1:Int))) else(some false)):Option (Bool))=some false:=by
  rcases hk with h | h<;>simp[h]
 have hz':((if(h.f2 != (-524288))=true then(if(decide (h.f2≤(-262144)))=true then(some true) else(some (decide (h.f2>(262144:Int))))) else(some false)):Option (Bool))=some false:=by
  rcases hz with h | h
  ·simp[h]
  ·split
   ·rw[if_neg (by simp;omega)];simp;omega
   ·rfl
 rw[hk',sb,if_neg (by simp),Z6n hs,sb,if_neg (by simp),hz',sb,if_neg (by simp),Zbt];by_cases c:512<h.f6.length
 ·rw[Z98 h h.f6 c,sb,if_pos (by simp),sb]
 ·obtain⟨r,e,i⟩:=Z8j         h h.f6 hs (by omega) (fun b hb=>(hf.pos b hb).2)
  have hr:r=0:=i.2 ⟨by omega,o6,u6⟩;rw[e,hr,sb,if_neg (by simp),Z98 h h.f7 (hl.resolve_left c),sb,if_pos (by simp),sb]
theorem make_over (g:Z1) (p n:List Z0) (hp:Bs g.f1 g.f2 p) (hn:Bs g.f1 g.f2 n) (pu:∀ b∈p,U64 b.f1) (nu:∀ b∈n,U64 b.f1) (h3:U64 g.f3) (ht:18446744073709551616≤cnt p+cnt n+g.f3):Z2f.f g p n=some (h0,5):=by
 have lp:=hp.len;have ln:=hn.len;unfold Z2f.f;rcases Zb0 p (by omega) pu with ⟨o,e1,c1,t1,u1,_,m1⟩ | ⟨e1,_⟩<;>rcases Zb0 n (by omega) nu with ⟨o2,e2,c2,t2,u2,_,m2⟩ | ⟨e2,_⟩
 ·rw[e1,e2,sb,sb,if_neg (by simp),total3 o o2 g.f3 (by omega) (by omega) u1 u2 h3,if_neg (by rw[Z4n t1,Z4n t2];omega),sb,if_pos (by simp)];rfl
 ·rw[e1,e2,sb,sb];rfl
 ·rw[e1,e2,sb,sb];rfl
 ·rw[e1,e2,sb,sb];rfl
theorem Zcn (g:Z1) (p n:List Z0) (hk:g.f0=0∨g.f0=1) (hs:Z19 g.f1) (hz:g.f2 = -524288∨(-262144<g.f2∧g.f2≤262144)) (h3:0≤g.f3) (h5:I64 g.f5) (hp:Bs g.f1 g.f2 p) (hn:Bs g.f1 g.f2 n) (ht:cnt p+cnt n+g.f3<18446744073709551616)
  (hl:∃ o o2,Z3v o∧Z3v o2∧(∀ i,tot o i=tot p i)∧(∀ i,tot o2 i=tot n i)∧(512<o.length∨512<o2.length)):Z2f.f g p n=some (h0,9):=by
 have np:=Z0a hp.nn;have nn:=Z0a hn.nn;have lp:=hp.len;have ln:=hn.len;obtain⟨o,e1,c1,t1,b1,u1,l1,q1⟩:=Z9i hp (by omega);obtain⟨o2,e2,c2,t2,b2,u2,l2,q2⟩:=Z9i hn (by omega);obtain⟨w,w2,d1,d2,s1,s2,hlen⟩:=hl;obtain rfl:=Z2r c1 d1 (fun i=>(t1 i).trans (s1 i).symm);obtain rfl:=Z2r c2 d2 (fun i=>(t2 i).trans (s2 i).symm);have htot:=total3 o o2 g.f3 (by omega) (by omega) u1 u2 ⟨h3,by omega⟩;rw[q1,q2,if_pos ht] at htot;have hf:Fits (⟨g.f0,g.f1,g.f2,g.f3,cnt p+cnt n+g.f3,g.f5,o,o2⟩:Z1) :=
  ⟨by rcases hk with h | h<;>rw[h]<;>constructor<;>omega,by have:=hs.1;have:=hs.2;constructor<;>simp<;>omega,by rcases hz with h | h<;>constructor<;>simp<;>omega,⟨h3,by simp;omega⟩,⟨by simp;omega,ht⟩,h5,
   fun b hb=>⟨Zbm (b1 b hb).ins,u1 b hb⟩,fun b hb=>⟨Zbm (b2 b hb).ins,u2 b hb⟩⟩
 unfold Z2f.f;rw[e1,e2,sb,sb,if_neg (by simp),htot,sb,if_neg (by simp),check_limit _ hf hk hs hz b1 c1.up (by simp only;omega) (by simp only;omega) hlen,sb,if_pos (by simp)];rfl
theorem bs_append {p q:Z1} (h:Pair p q):Bs p.f1 p.f2 (p.f6++q.f6)∧Bs p.f1 p.f2 (p.f7++q.f7):=by
 have a1:=h.vp.pos.len;have a2:=h.vp.neg.len;have a3:=h.vq.pos.len;have a4:=h.vq.neg.len;refine⟨⟨by simp;omega,fun b hb => ?_⟩,⟨by simp;omega,fun b hb => ?_⟩⟩
 ·rcases List.mem_append.1 hb with hb | hb
  ·have:=h.vp.pos.ok b hb;exact⟨this.ins,Int.le_of_lt this.pos,this.low⟩
  ·have:=h.bok (.inl hb);exact⟨this.ins,Int.le_of_lt this.pos,this.low⟩
 ·rcases List.mem_append.1 hb with hb | hb
  ·have:=h.vp.neg.ok b hb;exact⟨this.ins,Int.le_of_lt this.pos,this.low⟩
  ·have:=h.bok (.inr hb);exact⟨this.ins,Int.le_of_lt this.pos,this.low⟩
theorem Zcb {p q:Z1} (h:Pair p q):(∀ b∈p.f6++q.f6,U64 b.f1)∧(∀ b∈p.f7++q.f7,U64 b.f1):=by
 constructor
 ·intro b hb
  rcases List.mem_append.1 hb with hb | hb
  ·exact(h.fp.pos b hb).2
  ·exact(h.fq.pos b hb).2
 ·intro b hb
  rcases List.mem_append.1 hb with hb | hb
  ·exact(h.fp.neg b hb).2
  ·exact(h.fq.neg b hb).2
structure Sumd (p q r:Z1):Prop where
 valid:Z1b r
 fits:Fits r
 kind:r.f0=if q.f0>p.f0 then q.f0 else p.f0
 schema:r.f1=p.f1
 zeroAt:r.f2=p.f2
 zero:r.f3=p.f3+q.f3
 count:r.f4=p.f4+q.f4
 sum:r.f5=p.f5+q.f5
 tpos:∀ i,tot r.f6 i=tot p.f6 i+tot q.f6 i
 tneg:∀ i,tot r.f7 i=tot p.f7 i+tot q.f7 i
theorem Add_cases (a b p q:Z1) (s z:Int) (fa:Fits a) (fb:Fits b) (he:Z0i.f a b=some (p,q,0)) (hr:Z1n.f a b=some (p,q)) (cp:Cut a s z p) (cq:Cut b s z q) (hp:Pair p q) :
  (¬ (I64 (a.f5+b.f5)∧p.f4+q.f4<18446744073709551616)∧Z1j.f a b=some (h0,5)∧Z3s.f a b=some (h0,5)) ∨
  (I64 (a.f5+b.f5)∧p.f4+q.f4<18446744073709551616∧Z1j.f a b=some (h0,9)∧Z3s.f a b=some (h0,9)∧∃ o o2,Z3v o∧Z3v o2∧(∀ i,tot o i=tot p.f6 i+tot q.f6 i)∧(∀ i,tot o2 i=tot p.f7 i+tot q.f7 i)∧(512<o.length∨512<o2.length)) ∨
  ∃ r,Z1j.f a b=some (r,0)∧Z3s.f a b=some (r,0)∧Sumd p q r:=by
 have kp:=cp.kind;have kq:=cq.kind;have a1:=hp.vp.pos.len;have a2:=hp.vp.neg.len;have a3:=hp.vq.pos.len;have a4:=hp.vq.neg.len;have c1:=hp.vp.count;have c2:=hp.vq.count;have n1:=Z0a hp.vp.pos.canon.nn;have n2:=Z0a hp.vp.neg.canon.nn;have n3:=Z0a hp.vq.pos.canon.nn;have n4:=Z0a hp.vq.neg.canon.nn;have z1:=hp.fp.zero;have z2:=hp.fq.zero;have hsum:([a.f5,b.f5]:List Int).sum=a.f5+b.f5:=by simp
 have hAI:=addint [a.f5,b.f5] (by simp) (by simp;exact⟨fa.sum,fb.sum⟩);have hRI:=raddint [a.f5,b.f5] (by simp) (by simp;exact⟨fa.sum,fb.sum⟩);have hrz:=ref_add [p.f3,q.f3] (by simp) (by simp;exact⟨hp.fp.zero,hp.fq.zero⟩);have hrc:=ref_add [p.f4,q.f4] (by simp) (by simp;exact⟨hp.fp.count,hp.fq.count⟩);rw[hsum] at hAI hRI;rw[show([p.f3,q.f3]:List Int).sum=p.f3+q.f3 by simp] at hrz;rw[show([p.f4,q.f4]:List Int).sum=p.f4+q.f4 by simp] at hrc;obtain⟨B6,B7⟩:=bs_append hp;obtain⟨U6,U7⟩:=Zcb hp;have ht:cnt (p.f6++q.f6)+cnt (p.f7++q.f7)+(p.f3+q.f3)=p.f4+q.f4:=by rw[Z4i,Z4i];omega
 by_cases hI:I64 (a.f5+b.f5)
 case neg =>
  refine .inl ⟨fun h=>hI h.1,?_,?_⟩
  ·unfold Z1j.f;rw[hAI,if_neg hI,sb,he,sb];rfl
  ·unfold Z3s.f;rw[hRI,if_neg hI,sb,hr,sb,hrz,hrc,sb,sb,if_pos (by simp),sb,if_pos rfl];rfl
 rw[if_pos hI] at hAI hRI;have hk:(if b.f0>a.f0 then b.f0 else a.f0)=(if q.f0>p.f0 then q.f0 else p.f0):=by rw[kp,kq]
 have hkk:(if b.f0>a.f0 then b.f0 else a.f0)=0∨(if b.f0>a.f0 then b.f0 else a.f0)=1:=by
  rw[hk];split;exact hp.vq.kind;exact hp.vp.kind
 by_cases hc:p.f4+q.f4<18446744073709551616
 case neg =>
  refine .inl ⟨fun h=>hc h.2,?_,?_⟩
  ·unfold        Z1j.f
   rw[hAI,sb,he,sb,if_neg (by simp),Z6j z1 z2,sb];by_cases hz:p.f3+q.f3<18446744073709551616
   ·rw[if_pos hz,if_neg (by simp)]
    dsimp only;rw[chkB (by simp;omega),chkB (by omega),chkB (by simp;omega),chkB (by omega)];rw[make_over (⟨(if b.f0>a.f0 then b.f0 else a.f0),p.f1,p.f2,p.f3+q.f3,0,a.f5+b.f5,[],[]⟩:Z1) _ _ B6 B7 U6 U7 ⟨by simp;omega,hz⟩ (by simp only;omega)];rfl
   ·rw[if_neg hz,if_pos (by simp)];rfl
  ·unfold       Z3s.f
   rw[hRI,sb,hr,sb,hrz,hrc,sb,sb,if_neg (by simp)];by_cases hz:p.f3+q.f3<18446744073709551616
   ·rw[if_pos hz,if_neg (by simp),if_neg hc,sb,if_pos (by simp)];rfl
   ·rw[if_neg hz,if_pos (by simp),sb,if_pos rfl];rfl
 have hz:p.f3+q.f3<18446744073709551616:=by omega
 rw[if_pos hc] at hrc;rw[if_pos hz] at hrz;obtain⟨o6,t1,C6,T6,m6⟩:=tidy_ref (p.f6++q.f6) (by simp;omega) (fun b hb=>by
  rcases List.mem_append.1 hb with hb | hb
  ·exact hp.vp.pos.canon.pos b hb
  ·exact hp.vq.pos.canon.pos b hb) (by rw[Z4i];omega)
 obtain⟨o7,t2,C7,T7,m7⟩:=tidy_ref (p.f7++q.f7) (by simp;omega) (fun b hb=>by
  rcases List.mem_append.1 hb with hb | hb
  ·exact hp.vp.neg.canon.pos b hb
  ·exact hp.vq.neg.canon.pos b hb) (by rw[Z4i];omega)
 have href:Z3s.f a b=(if 512<o6.length∨512<o7.length then some (h0,9) else some ((⟨if q.f0>p.f0 then q.f0 else p.f0,p.f1,p.f2,p.f3+q.f3,p.f4+q.f4,a.f5+b.f5,o6,o7⟩:Z1),0)):=by
  unfold Z3s.f;have hk2:((if(decide (q.f0>p.f0))=true then(some q.f0) else(some p.f0)):Option (Int))=some (if q.f0>p.f0 then q.f0 else p.f0):=by
   by_cases h:q.f0>p.f0
   ·rw[if_pos (by simpa using h),if_pos h]
   ·rw[if_neg (by simpa using h),if_neg h]
  rw[hRI,sb,hr,sb,hrz,hrc,sb,sb,if_neg (by simp),if_neg (by simp),sb,if_neg (by simp),hk2,sb,chkB (by simp;omega),chkB (by simp;omega),List.nil_append,t1,sb,chkB (by simp;omega),chkB (by simp;omega),List.nil_append,t2,sb];by_cases h:512<o6.length
  ·rw[if_pos (by simp;omega),sb,if_pos rfl,if_pos (.inl h)];rfl
  ·rw[if_neg (by simp;omega),sb]
   by_cases h2:512<o7.length
   ·rw[if_pos (by simp;omega),if_pos (.inr h2)];rfl
   ·rw[if_neg (by simp;omega),if_neg (show ¬ (512<o6.length∨512<o7.length) by omega)]
 have hprog:∀ x,Z2f.f (⟨(if b.f0>a.f0 then b.f0 else a.f0),p.f1,p.f2,p.f3+q.f3,0,a.f5+b.f5,[],[]⟩:Z1) (p.f6++q.f6) (p.f7++q.f7)=some x→Z1j.f a b=some x:=by
  intro x hx;unfold Z1j.f;rw[hAI,sb,he,sb,if_neg (by simp),Z6j z1 z2,if_pos hz,sb,if_neg (by simp)];dsimp only;rw[chkB (by simp;omega),chkB (by omega),chkB (by simp;omega),chkB (by omega),hx];rfl
 by_cases hlim:512<o6.length∨512<o7.length
 ·rw[if_pos hlim] at href
  refine .inr (.inl ⟨hI,hc,hprog _ (Zcn (⟨(if b.f0>a.f0 then b.f0 else a.f0),p.f1,p.f2,p.f3+q.f3,0,a.f5+b.f5,[],[]⟩:Z1) _ _ hkk hp.vp.schema hp.vp.zero (by simp;omega) hI B6 B7 (by simp only;omega) ⟨o6,o7,C6,C7,T6,T7,hlim⟩),href,o6,o7,C6,C7,fun i=>by rw[T6,Z1x],fun i=>by rw[T7,Z1x],hlim⟩)
 ·rw[if_neg hlim] at href
  obtain⟨r,e,v,f,e0,e1,e2,e3,e5,x6,x7,e4⟩:=Z6v (⟨(if b.f0>a.f0 then b.f0 else a.f0),p.f1,p.f2,p.f3+q.f3,0,a.f5+b.f5,[],[]⟩:Z1) (p.f6++q.f6) (p.f7++q.f7) hkk hp.vp.schema hp.vp.zero (by simp;omega) hI B6 B7 (by simp only;omega) (fun o ho hto=>by
   rcases hto with hto | hto
   ·rw[Z2r ho C6 (fun i=>(hto.1 i).trans (T6 i).symm)];omega
   ·rw[Z2r ho C7 (fun i=>(hto.1 i).trans (T7 i).symm)];omega)
  refine .inr (.inr ⟨r,hprog _ e,?_,v,f,e0.trans hk,e1,e2,e3,by rw[e4];exact ht,by rw[e5,cp.sum,cq.sum],fun i=>by rw[x6,Z1x],fun i=>by rw[x7,Z1x]⟩);rw[href];have:(⟨if q.f0>p.f0 then q.f0 else p.f0,p.f1,p.f2,p.f3+q.f3,p.f4+q.f4,a.f5+b.f5,o6,o7⟩:Z1)=r :=
   hist_ext (by simp only;rw[e0,hk]) e1.symm e2.symm e3.symm (by simp only;rw[e4];exact ht.symm) e5.symm (Z2r C6 v.pos.canon (fun i=>by rw[T6,x6])) (Z2r C7 v.neg.canon (fun i=>by rw[T7,x7]))
  rw[this]
def Cov (a b:List Z0):Prop:=∀ i,tot b i≤tot a i
theorem less_l1 (a0:List Z0) (x:Z0) (b o:List Z0) (i:Int):Z13.l1 a0 x b o i ()=some (match b with
  | []=>.inr ()
  | y::_=>if y.f0<x.f0 then .inl ([],false) else .inr ()):=by
 unfold Z13.l1;cases b with
 | nil=>rw[if_neg (by simp),sb,if_neg (by simp)]
 | cons y b =>
  rw[if_pos (by simp),show at? (y::b) 0=some y from rfl,sb,sb];by_cases h:y.f0<x.f0
  ·rw[if_pos (by simpa using h)];simp[h]
  ·rw[if_neg (by simpa using h)];simp[h]
structure Left (s z:Int) (o:List Z0):Prop where
 ok:∀ b∈o,InS s b.f0∧0≤b.f1∧z≤(b.f0-1)*stp s
 u64:∀ b∈o,U64 b.f1
theorem less_l0 (s z:Int) (a:List Z0) (hl:a.length<1000000):∀ (suf pre b o:List Z0) (i:Int),a=pre++suf→i=(pre.length:Int)→Z3v suf→Z3v b→(∀ y∈suf,BOk s z y∧U64 y.f1)→(∀ y∈b,U64 y.f1)→b.length<1000000→o.length≤pre.length →
  (∃ b' o',Z13.l0 a b o i=some (.inr (b',o++o'))∧(b'=[]↔Cov suf b)∧(b'=[]→∀ i,tot o' i=tot suf i-tot b i)∧Left s z o'∧o'.length≤suf.length) ∨
  (Z13.l0 a b o i=some (.inl ([],false))∧¬ Cov suf b):=by
 intro suf
 induction suf with
 | nil =>
  intro pre b o i h1 hi _ hb _ _ _ _;rw[List.append_nil] at h1;subst h1;rw[Z13.l0,if_neg (by simp[hi])];refine .inl ⟨b,[],by simp,?_,fun h=>by subst h;simp[tot],⟨by simp,by simp⟩,by simp⟩;constructor
  ·intro h;subst h;intro i;simp[tot]
  ·intro h
   cases b with
   | nil=>rfl
   | cons y b =>
    have h1:=h y.f0;rw[hb.tot_head] at h1;have:=hb.pos y (by simp);simp[tot] at h1;omega
 | cons x suf ih =>
  intro pre b o i h1 hi hs hb hxs hbs hbl ho;have hlen:(a.length:Int)=pre.length+(suf.length+1):=by rw[h1];simp
  have hx:=hxs x (by simp);have hxp:=hs.pos x (by simp);have e1:a=(pre++[x])++suf:=by simp[h1]
  have e2:i+1=((pre++[x]).length:Int):=by simp;omega
  have hsx:=hs.tail;have hxlow:∀ i,i≤x.f0→tot suf i=0:=fun i hi=>tot_zero (fun c hc=>by have:=(List.pairwise_cons.1 hs.up).1 c hc;omega)
  rw[Z13.l0,if_pos (by simp;omega),Z0t h1 hi,sb,less_l1,sb];have keep:(∀ i,tot b i=if i=x.f0 then 0 else tot b i)→(((chk ((o.length+[(⟨x.f0,x.f1⟩:Z0)].length)*16≤140737488355328))>>=fun _=>Z13.l0 a b (o++[(⟨x.f0,x.f1⟩:Z0)]) (i64.wrap (i+1)))=Z13.l0 a b (o++[x]) (i+1)) ∧
    ((∃ b' o',         Z13.l0 a b (o ++ [x]) (i + 1) = some (.inr (b', o ++ o')) ∧ (b' = [] ↔ Cov (x :: suf) b) ∧ (b' = [] → ∀ i, tot o' i = tot (x :: suf) i - tot b i) ∧ Left s z o' ∧ o'.length ≤ (x :: suf).length) ∨
      (Z13.l0 a b (o++[x]) (i+1)=some (.inl ([],false))∧¬ Cov (x::suf) b)):=by
   intro hb0;have hcov:Cov (x::suf) b↔Cov suf b:=by
    constructor
    ·intro h i
     have:=h i;by_cases hi:i=x.f0
     ·have h0:=hb0 i;rw[if_pos hi] at h0
      have:=hxlow i (by omega);omega
     ·rw[tot,if_neg (fun e=>hi e.symm)] at this;omega
    ·intro h i
     have:=h i;rw[tot];split<;>omega
   refine⟨by rw[chkB (by simp;omega),Zh (by omega) (by omega)],?_⟩;rcases ih (pre++[x]) b (o++[x]) (i+1) e1 e2 hsx hb (fun y hy=>hxs y (by simp[hy])) hbs hbl (by simp;omega) with ⟨b',o',g1,g2,g3,g4,g5⟩ | ⟨g1,g2⟩
   ·refine .inl ⟨b',x::o',by rw[g1];simp,by rw[hcov];exact g2,fun h i=>by rw[tot,tot,g3 h i];omega,⟨fun y hy => ?_,fun y hy => ?_⟩,by simp;omega⟩
    ·rcases List.mem_cons.1 hy with rfl | hy
     ·exact⟨hx.1.ins,Int.le_of_lt hx.1.pos,hx.1.low⟩
     ·exact g4.ok y hy
    ·rcases List.mem_cons.1 hy with rfl | hy
     ·exact hx.2
     ·exact g4.u64 y hy
   ·exact .inr ⟨g1,by rw[hcov];exact g2⟩
  cases b with
  | nil =>
   obtain⟨k1,k2⟩:=keep (fun i=>by simp[tot]);simp only[];rw[if_neg (by simp),sb,if_neg (by simp),sb];simp only[];rw[k1];exact k2
  | cons y b =>
   have hyp:=hb.pos y (by simp);simp only[];by_cases h:y.f0<x.f0
   ·rw[if_pos h]
    refine .inr ⟨rfl,fun hc => ?_⟩;have:=hc y.f0;rw[hb.tot_head,hs.tot_low h] at this;omega
   rw[if_neg h];simp only[];rw[if_pos (by simp),show at? (y::b) 0=some y from rfl,sb,sb];by_cases he:y.f0=x.f0
   case neg =>
    obtain⟨k1,k2⟩:=keep (fun i=>by
     by_cases hi:i=x.f0
     ·rw[if_pos hi,hb.tot_low (by omega)]
     ·rw[if_neg hi])
    rw[if_neg (by simpa using he),sb];simp only[];rw[k1];exact k2
   rw[if_pos (by simpa using he),sb];by_cases hgt:y.f1>x.f1
   ·rw[if_pos (by simpa using hgt),sb]
    refine .inr ⟨rfl,fun hc => ?_⟩;have h2:=hc y.f0;rw[hb.tot_head] at h2;rw[he,hs.tot_head] at h2;omega
   rw[if_neg (by simpa using hgt),chkB (by simp;omega),sb];simp only[];have hdrop:(List.drop (Int.toNat (1:Int)) (y::b)).take (Int.toNat (((y::b).length:Int))-Int.toNat (1:Int))=b:=by
    simp
   rw[hdrop,Z28 (by omega) (by have:=hx.2;omega),chkB (by simp;omega),Zh (by omega) (by omega)];have hblow:∀ i,i≤y.f0→tot b i=0:=fun i hi=>tot_zero (fun c hc=>by have:=(List.pairwise_cons.1 hb.up).1 c hc;omega)
   have hcov:Cov (x::suf) (y::b)↔Cov suf b:=by
    constructor
    ·intro h i
     have:=h i;simp only[tot] at this;by_cases hi:i=x.f0
     ·rw[hblow i (by omega),hxlow i (by omega)];omega
     ·rw[if_neg (by omega),if_neg (fun e=>hi e.symm)] at this;omega
    ·intro h i
     have:=h i;simp only[tot];by_cases hi:i=x.f0
     ·rw[if_pos (by omega),if_pos hi.symm,hblow i (by omega),hxlow i (by omega)];omega
     ·rw[if_neg (by omega),if_neg (fun e=>hi e.symm)];omega
   rcases ih (pre++[x]) b (o++[⟨x.f0,x.f1-y.f1⟩]) (i+1) e1 e2 hsx hb.tail (fun y hy=>hxs y (by simp[hy])) (fun c hc=>hbs c (by simp[hc])) (by simp at hbl;omega) (by simp;omega) with ⟨b',o',g1,g2,g3,g4,g5⟩ | ⟨g1,g2⟩
   ·refine .inl ⟨b',⟨x.f0,x.f1-y.f1⟩::o',by rw[g1];simp,by rw[hcov];exact g2,fun h i => ?_,⟨fun c hc => ?_,fun c hc => ?_⟩,by simp;omega⟩
    ·simp only[tot]
     rw[g3 h i];by_cases hi:x.f0=i
     ·rw[if_pos hi,if_pos hi,if_pos (by omega)];omega
     ·rw[if_neg hi,if_neg hi,if_neg (by omega)];omega
    ·rcases List.mem_cons.1 hc with rfl | hc
     ·exact⟨hx.1.ins,by simp;omega,hx.1.low⟩
     ·exact g4.ok c hc
    ·rcases List.mem_cons.1 hc with rfl | hc
     ·have:=hx.2;constructor<;>simp<;>omega
     ·exact g4.u64 c hc
   ·exact .inr ⟨g1,by rw[hcov];exact g2⟩
theorem less_eq (s z:Int) (a b:List Z0) (ha:Z3v a) (hb:Z3v b) (hxs:∀ y∈a,BOk s z y∧U64 y.f1) (hbs:∀ y∈b,U64 y.f1) (hl:a.length<1000000) (hbl:b.length<1000000) :
  ∃ o ok,Z13.f a b=some (o,ok)∧(ok=true↔Cov a b)∧(ok=true→∀ i,tot o i=tot a i-tot b i)∧(ok=true→Left s z o)∧o.length≤a.length:=by
 unfold Z13.f;rcases less_l0 s z a hl a [] b [] 0 rfl rfl ha hb hxs hbs hbl (Nat.le_refl _) with ⟨b',o',g1,g2,g3,g4,g5⟩ | ⟨g1,g2⟩
 ·rw[g1,sb]
  have hok:((b'.length:Int)==(0:Int))=true↔b'=[]:=by simp
  exact⟨o',_,by simp,by rw[hok,g2],fun h=>g3 (hok.1 h),fun _=>g4,g5⟩
 ·rw[g1,sb]
  exact⟨[],false,rfl,by simp[g2],by simp,by simp,by simp⟩
theorem rat_l0 (l:List Z0) (k:Int) (hl:l.length<1000000):∀ (suf pre:List Z0) (i:Int),l=pre++suf→i=(pre.length:Int)→Z3v suf→∃ r,Z4c.l0 l k i=some r∧(match r with | .inl v=>v=tot suf k | .inr _=>tot suf k=0):=by
 intro suf
 induction suf with
 | nil=>intro pre i h1 hi _;rw[List.append_nil] at h1;subst h1;rw[Z4c.l0,if_neg (by simp[hi])];exact⟨_,rfl,rfl⟩
 | cons x suf ih =>
  intro pre i h1 hi hc;have hlen:(l.length:Int)=pre.length+(suf.length+1):=by rw[h1];simp
  rw[Z4c.l0,if_pos (by simp;omega),Z0t h1 hi,sb];by_cases h:x.f0=k
  ·subst h
   rw[if_pos (by simp)];exact⟨_,rfl,hc.tot_head.symm⟩
  ·rw[if_neg (by simpa using h),Zh     (by omega) (by omega)]
   obtain⟨r,e,hr⟩:=ih (pre++[x]) (i+1) (by simp[h1]) (by simp;omega) hc.tail;refine⟨r,e,?_⟩;cases r with
   | inl v=>simp only[tot] at hr ⊢;rw[if_neg h];omega
   | inr u=>simp only[tot] at hr ⊢;rw[if_neg h];omega
theorem rat_eq (l:List Z0) (k:Int) (hl:l.length<1000000) (hc:Z3v l):Z4c.f l k=some (tot l k):=by
 unfold Z4c.f;obtain⟨r,e,hr⟩:=rat_l0 l k hl l [] 0 rfl rfl hc;rw[e,sb];cases r with
 | inl v=>simp only[] at hr ⊢;rw[hr]
 | inr u=>simp only[] at hr ⊢;rw[hr]
theorem off_l0 (a b:List Z0) (ha:Z3v a) (hl:a.length<1000000) (hbl:b.length<1000000):∀ (suf pre:List Z0) (i:Int),b=pre++suf→i=(pre.length:Int) →
  Z1w.l0 a b i=some (if ∀ y∈suf,y.f1≤tot a y.f0 then .inr () else .inl ([],false)):=by
 intro suf
 induction suf with
 | nil=>intro pre i h1 hi;rw[List.append_nil] at h1;subst h1;rw[Z1w.l0,if_neg (by simp[hi]),if_pos (by simp)]
 | cons x suf ih =>
  intro pre i h1 hi;have hlen:(b.length:Int)=pre.length+(suf.length+1):=by rw[h1];simp
  rw[Z1w.l0,if_pos (by simp;omega),Z0t h1 hi,sb,rat_eq a _ hl ha,sb];by_cases h:tot a x.f0<x.f1
  ·rw[if_pos (by simpa using h),if_neg (fun q=>by have:=q x (by simp);omega)]
  ·rw[if_neg (by simpa using h),Zh     (by omega) (by omega),ih (pre++[x]) (i+1) (by simp[h1]) (by simp;omega)]
   by_cases h2:∀ y∈suf,y.f1≤tot a y.f0
   ·rw[if_pos h2,if_pos (fun y hy=>by
     rcases List.mem_cons.1 hy with rfl | hy
     ·omega
     ·exact h2 y hy)]
   ·rw[if_neg h2,if_neg (fun q=>h2 (fun y hy=>q y (by simp[hy])))]
theorem cov_iff {a b:List Z0} (ha:Z3v a) (hb:Z3v b):Cov a b↔∀ y∈b,y.f1≤tot a y.f0:=by
 constructor
 ·intro h y hy;have:=h y.f0;rw[hb.tot_of hy] at this;exact this
 ·intro h i
  by_cases hc:∃ y∈b,y.f0=i
  ·obtain⟨y,hy,rfl⟩:=hc;rw[hb.tot_of hy];exact h y hy
  ·rw[tot_zero (fun y hy e=>hc ⟨y,hy,e⟩)];exact Z63 ha.nn i
theorem off_l1 (a b:List Z0) (hb:Z3v b) (hl:a.length<1000000) (hbl:b.length<1000000) (hc:Cov a b) (hau:∀ y∈a,U64 y.f1) (ha:Z3v a):∀ (suf pre o:List Z0) (i:Int),a=pre++suf→i=(pre.length:Int)→Z3v o→(∀ x∈o,∃ y∈pre,y.f0=x.f0)→(∀ y∈pre,tot o y.f0=tot a y.f0-tot b y.f0)→o.length≤pre.length →
  ∃ o',Z1w.l1 a b o i=some o'∧Z3v o'∧(∀ x∈o',∃ y∈a,y.f0=x.f0)∧(∀ y∈a,tot o' y.f0=tot a y.f0-tot b y.f0):=by
 intro suf
 induction suf with
 | nil =>
  intro pre o i h1 hi ho hos hot _;rw[List.append_nil] at h1;subst h1;rw[Z1w.l1,if_neg (by simp[hi])];exact⟨o,rfl,ho,hos,hot⟩
 | cons x suf ih =>
  intro pre o i h1 hi ho hos hot hol;have hlen:(a.length:Int)=pre.length+(suf.length+1):=by rw[h1];simp
  have e1:a=(pre++[x])++suf:=by simp[h1]
  have e2:i+1=((pre++[x]).length:Int):=by simp;omega
  have hxa:x∈a:=by rw[h1];simp
  have htx:tot a x.f0=x.f1:=ha.tot_of hxa;have hxu:=hau x hxa;have hcx:=hc x.f0;have hbn:=Z63 hb.nn x.f0;have hpre:∀ y∈pre,y.f0<x.f0:=fun y hy=>by
   have:=ha.up;rw[h1] at this;exact(List.pairwise_append.1 this).2.2 y hy x (by simp)
  have hox:∀ c∈o,c.f0<x.f0:=fun c hc=>by obtain⟨y,hy,e⟩:=hos c hc;have:=hpre y hy;omega
  have ho0:tot o x.f0=0:=tot_zero (fun c hc=>by have:=hox c hc;omega);rw[Z1w.l1,if_pos (by simp;omega),Z0t h1 hi,sb,rat_eq b _ hbl hb,sb,Z28 (by omega) (by omega),Zh (by omega) (by omega)];by_cases hpos:x.f1-tot b x.f0>0
  ·rw[if_pos (by simpa using hpos),chkB (by simp;omega),sb]
   refine ih (pre++[x]) _ (i+1) e1 e2 ⟨List.pairwise_append.2 ⟨ho.up,List.pairwise_singleton _ _,fun c hc y hy=>by simp at hy;subst hy;exact hox c hc⟩,fun c hc => ?_⟩ (fun c hc => ?_) (fun y hy => ?_) (by simp;omega)
   ·rcases List.mem_append.1 hc with hc | hc
    ·exact ho.pos c hc
    ·simp at hc;subst hc;simpa using hpos
   ·rcases List.mem_append.1 hc with hc | hc
    ·obtain⟨y,hy,e⟩:=hos c hc;exact⟨y,by simp[hy],e⟩
    ·simp at hc;subst hc;exact⟨x,by simp,rfl⟩
   ·rw[Z1x       ,Z9g    ]
    rcases List.mem_append.1 hy with hy | hy
    ·have:=hpre y hy;rw[if_neg (by simp only;omega),hot y hy];omega
    ·simp at hy;subst hy;rw[if_pos rfl,ho0];simp only;omega
  ·rw[if_neg (by simpa using hpos),sb]
   refine ih (pre++[x]) o (i+1) e1 e2 ho (fun c hc=>by obtain⟨y,hy,e⟩:=hos c hc;exact⟨y,by simp[hy],e⟩) (fun y hy => ?_) (by simp;omega);rcases List.mem_append.1 hy with hy | hy
   ·exact hot y hy
   ·simp at hy;subst hy;rw[ho0];omega
theorem off_eq (a b:List Z0) (ha:Z3v a) (hb:Z3v b) (hau:∀ y∈a,U64 y.f1) (hl:a.length<1000000) (hbl:b.length<1000000) :
  ∃ o ok,Z1w.f a b=some (o,ok)∧(ok=true↔Cov a b)∧(ok=true→Z3v o∧∀ i,tot o i=tot a i-tot b i):=by
 unfold Z1w.f;rw[off_l0 a b ha hl hbl b [] 0 rfl rfl,sb];by_cases h:∀ y∈b,y.f1≤tot a y.f0
 ·rw[if_pos h]
  have hc:=(cov_iff ha hb).2 h;obtain⟨o,e,h1,h2,h3⟩:=off_l1 a b hb hl hbl hc hau ha a [] [] 0 rfl rfl ⟨List.Pairwise.nil,by simp⟩ (by simp) (by simp) (by simp);simp only[];rw[e,sb];refine⟨o,true,rfl,by simp[hc],fun _=>⟨h1,fun i => ?_⟩⟩;by_cases hi:∃ y∈a,y.f0=i
  ·obtain⟨y,hy,rfl⟩:=hi;exact h3 y hy
  ·have ha0:=tot_zero (l:=a) (i:=i) (fun y hy e=>hi ⟨y,hy,e⟩)
   have hb0:=hc i;have:=Z63 hb.nn i;rw[tot_zero (fun x hx e=>by obtain⟨y,hy,e2⟩:=h2 x hx;exact hi ⟨y,hy,e2.trans e⟩)];omega
 ·rw[if_neg h]
  exact⟨[],false,rfl,by simp;rw[cov_iff ha hb];exact h,by simp⟩
structure Lessd (p q r:Z1):Prop where
 valid:Z1b r
 fits:Fits r
 kind:r.f0=p.f0
 schema:r.f1=p.f1
 zeroAt:r.f2=p.f2
 zero:r.f3=p.f3-q.f3
 count:r.f4=p.f4-q.f4
 sum:r.f5=p.f5-q.f5
 tpos:∀ i,tot r.f6 i=tot p.f6 i-tot q.f6 i
 tneg:∀ i,tot r.f7 i=tot p.f7 i-tot q.f7 i
def Covs (p q:Z1):Prop:=Cov p.f6 q.f6∧Cov p.f7 q.f7∧q.f3≤p.f3
theorem neg_sum {a b:Int} (ha:I64 a) (hb:I64 b):((((if(b==(-9223372036854775808))=true then(some (i64.wrap (b+(1:Int)))) else(some b)):Option (Int))>>=fun x2707=>((if(b==(-9223372036854775808))=true then((chk (([a,i64.wrap (0-x2707)].length+[(1:Int)].length)*8≤140737488355328))>>=fun _=>some ([a,i64.wrap (0-x2707)]++[1])) else(some [a,i64.wrap (0-x2707)])):Option (List Int))>>=fun x2711=>Z1u.f x2711):Option (Int×Int))=some (if I64 (a-b) then(a-b,0) else(0,5)):=by
 by_cases h:b = -9223372036854775808
 ·rw[if_pos (by simpa using h),sb,if_pos (by simpa using h),chkB (by simp),sb,raddint _ (by simp) (by
   rw[Zh (n:=b+1) (by omega) (by omega),Zh (n:=0-(b+1)) (by omega) (by omega)];intro x hx;simp at hx;rcases hx with rfl | rfl | rfl
   ·exact ha
   ·constructor<;>omega
   ·constructor<;>omega)]
  rw[Zh (n:=b+1) (by omega) (by omega),Zh (n:=0-(b+1)) (by omega) (by omega)];have e:([a,0-(b+1)]++[1]:List Int).sum=a-b:=by simp;omega
  rw[e]
 ·have hb1:=hb.1
  have hb2:=hb.2;rw[if_neg (by simpa using h),sb,if_neg (by simpa using h),sb,Zh (by omega) (by omega),raddint _ (by simp) (by
   intro x hx;simp at hx;rcases hx with rfl | rfl
   ·exact ha
   ·constructor<;>omega)]
  have e:([a,0-b]:List Int).sum=a-b:=by simp;omega
  rw[e]
theorem Sub_cases (a b p q:Z1) (s z:Int) (fa:Fits a) (fb:Fits b) (he:Z0i.f a b=some (p,q,0)) (hr:Z1n.f a b=some (p,q)) (cp:Cut a s z p) (cq:Cut b s z q) (hp:Pair p q) :
  (¬ Covs p q∧Z2a.f a b=some (h0,21)∧Z4y.f a b=some (h0,21)) ∨
  (Covs p q∧¬ I64 (a.f5-b.f5)∧Z2a.f a b=some (h0,5)∧Z4y.f a b=some (h0,5)) ∨
  (Covs p q∧∃ r,Z2a.f a b=some (r,0)∧Z4y.f a b=some (r,0)∧Lessd p q r):=by
 have a1:=hp.vp.pos.len;have a2:=hp.vp.neg.len;have a3:=hp.vq.pos.len;have a4:=hp.vq.neg.len;have c1:=hp.vp.count;have c2:=hp.vq.count;have hU:=hp.fp.count;have z1:=hp.fp.zero;have z2:=hp.fq.zero;have hSI:=subint fa.sum fb.sum;have hNS:=neg_sum fa.sum fb.sum;obtain⟨o6,k6,e6,i6,t6,L6,m6⟩:=less_eq p.f1 p.f2 p.f6 q.f6 hp.vp.pos.canon hp.vq.pos.canon (fun y hy=>⟨hp.vp.pos.ok y hy,(hp.fp.pos y hy).2⟩) (fun y hy=>(hp.fq.pos y hy).2) (by omega) (by omega);obtain⟨o7,k7,e7,i7,t7,L7,m7⟩:=less_eq p.f1 p.f2 p.f7 q.f7 hp.vp.neg.canon hp.vq.neg.canon (fun y hy=>⟨hp.vp.neg.ok y hy,(hp.fp.neg y hy).2⟩) (fun y hy=>(hp.fq.neg y hy).2) (by omega) (by omega);obtain⟨w6,j6,d6,u6,v6⟩:=off_eq p.f6 q.f6 hp.vp.pos.canon hp.vq.pos.canon (fun y hy=>(hp.fp.pos y hy).2) (by omega) (by omega);obtain⟨w7,j7,d7,u7,v7⟩:=off_eq p.f7 q.f7 hp.vp.neg.canon hp.vq.neg.canon (fun y hy=>(hp.fp.neg y hy).2) (by omega) (by omega);have hj6:j6=k6:=by rw[Bool.eq_iff_iff,u6,i6]
 have hj7:j7=k7:=by rw[Bool.eq_iff_iff,u7,i7]
 subst hj6;subst hj7;have hzs:=num_sub z1 z2;have hcond:((if(!j6)=true then(some true) else(if(!j7)=true then(some true) else(some (((if q.f3≤p.f3 then((p.f3-q.f3,0):Int×Int) else(0,5)).2 != (0:Int)))))):Option (Bool))=some (!decide (Covs p q)):=by
  unfold Covs;cases h6:j6 with
  | false => have : ¬ Cov p.f6 q.f6 := by rw [← i6, h6]; simp
             simp[this]
  | true =>
   have h6c:Cov p.f6 q.f6:=i6.1 h6;cases h7:j7 with
   | false => have : ¬ Cov p.f7 q.f7 := by rw [← i7, h7]; simp
              simp[this]
   | true =>
    have h7c:Cov p.f7 q.f7:=i7.1 h7;by_cases h3:q.f3≤p.f3<;>simp[h6c,h7c,h3]
 have rcond:((if(!j6)=true then(some true) else(if(!j7)=true then(some true) else(some (decide (p.f3<q.f3))))):Option (Bool))=some (!decide (Covs p q)):=by
  unfold Covs;cases h6:j6 with
  | false => have : ¬ Cov p.f6 q.f6 := by rw [← i6, h6]; simp
             simp[this]
  | true =>
   have h6c:Cov p.f6 q.f6:=i6.1 h6;cases h7:j7 with
   | false => have : ¬ Cov p.f7 q.f7 := by rw [← i7, h7]; simp
              simp[this]
   | true =>
    have h7c:Cov p.f7 q.f7:=i7.1 h7;by_cases h3:q.f3≤p.f3<;>simp[h6c,h7c,h3];omega
 have hpre:Z4y.f a b=(fun(t2714:Int×Int)=>(Z1n.f a b)>>=fun t2718=>(Z1w.f ((t2718.1).f6) ((t2718.2).f6))>>=fun t2805=>(Z1w.f ((t2718.1).f7) ((t2718.2).f7))>>=fun t2809=>((if(!t2805.2)=true then(some true) else(if(!t2809.2)=true then(some true) else(some (decide (((t2718.1).f3)<((t2718.2).f3)))))):Option (Bool))>>=fun x2815=>if x2815=true then(some ((⟨0,0,0,0,0,0,[],[]⟩:Z1),(21:Int))) else(if(t2714.2 != (0:Int))=true then(some ((⟨0,0,0,0,0,0,[],[]⟩:Z1),5)) else(some ((⟨(t2718.1).f0,(t2718.1).f1,(t2718.1).f2,u64.wrap (((t2718.1).f3)-((t2718.2).f3)),u64.wrap (((t2718.1).f4)-((t2718.2).f4)),t2714.1,t2805.1,t2809.1⟩:Z1),0)))) (if I64 (a.f5-b.f5) then(a.f5-b.f5,0) else(0,5)):=by
  unfold Z4y.f;by_cases h:b.f5 = -9223372036854775808
  ·rw[if_pos (by simpa using h),sb,if_pos (by simpa using h),chkB (by simp),sb] at hNS
   rw[if_pos (by simpa using h),sb,if_pos (by simpa using h),chkB (by simp),sb,hNS,sb]
  ·rw[if_neg (by simpa using h),sb,if_neg (by simpa using h),sb] at hNS
   rw[if_neg (by simpa using h),sb,if_neg (by simpa using h),sb,hNS,sb]
 by_cases hcv:Covs p q
 case neg =>
  refine .inl ⟨hcv,?_,?_⟩
  ·unfold        Z2a.f
   rw[hSI,sb,he,sb,if_neg (by simp)];dsimp only;rw[e6,e7,hzs,sb,sb,sb,hcond,sb,if_pos (by simp[hcv])];rfl
  ·rw[hpre];simp only[];rw[hr,sb]
   dsimp only;rw[d6,d7,sb,sb,rcond,sb,if_pos (by simp[hcv])];rfl
 by_cases hI:I64 (a.f5-b.f5)
 case neg =>
  refine .inr (.inl ⟨hcv,hI,?_,?_⟩)
  ·unfold        Z2a.f
   rw[hSI,sb,he,sb,if_neg (by simp)];dsimp only;rw[e6,e7,hzs,sb,sb,sb,hcond,sb,if_neg (by simp[hcv]),if_neg hI,if_pos (by simp)];rfl
  ·rw[hpre];simp only[];rw[hr,sb]
   dsimp only;rw[d6,d7,sb,sb,rcond,sb,if_neg (by simp[hcv]),if_neg hI,if_pos (by simp)];rfl
 obtain⟨h6,h7,h3⟩:=hcv;have T6:=t6 (i6.2 h6);have T7:=t7 (i7.2 h7);have M6:=L6 (i6.2 h6);have M7:=L7 (i7.2 h7);have q6:cnt o6=cnt p.f6-cnt q.f6:=by
  have h:=Z4n (l:=o6) (l':=p.f6++negl q.f6) (fun i=>by rw[T6,Z1x,Z8o];omega);rw[h,Z4i,Z5o (negl q.f6),Z7h,← Z5o];omega
 have q7:cnt o7=cnt p.f7-cnt q.f7:=by
  have h:=Z4n (l:=o7) (l':=p.f7++negl q.f7) (fun i=>by rw[T7,Z1x,Z8o];omega);rw[h,Z4i,Z5o (negl q.f7),Z7h,← Z5o];omega
 have n6:=Z0a (l:=o6) (fun b hb=>(M6.ok b hb).2.1);have n7:=Z0a (l:=o7) (fun b hb=>(M7.ok b hb).2.1);have hn1:=Z0a hp.vq.pos.canon.nn;have hn2:=Z0a hp.vq.neg.canon.nn;obtain⟨r,e,v,f,e0,e1,e2,e3,e5,x6,x7,e4⟩:=Z6v (⟨p.f0,p.f1,p.f2,p.f3-q.f3,p.f4,a.f5-b.f5,p.f6,p.f7⟩:Z1) o6 o7 hp.vp.kind hp.vp.schema hp.vp.zero (by simp only;omega) hI ⟨by omega,M6.ok⟩ ⟨by omega,M7.ok⟩ (by simp only;omega) (fun o ho hto=>by
  rcases hto with hto | hto
  ·exact Nat.le_trans hto.2 (by omega)
  ·exact Nat.le_trans hto.2 (by omega))
 refine .inr (.inr ⟨⟨h6,h7,h3⟩,r,?_,?_,⟨v,f,e0,e1,e2,e3,by rw[e4,q6,q7];simp only;omega,by rw[e5,cp.sum,cq.sum],fun i=>by rw[x6,T6],fun i=>by rw[x7,T7]⟩⟩)
 ·unfold        Z2a.f
  rw[hSI,sb,he,sb,if_neg (by simp)];dsimp only;rw[e6,e7,hzs,sb,sb,sb,hcond,sb,if_neg (by simp[Covs,h6,h7,h3]),if_pos hI,if_neg (by simp),if_pos h3];dsimp only;rw[e];rfl
 ·obtain⟨W6,V6⟩:=v6 (u6.2 h6)
  obtain⟨W7,V7⟩:=v7 (u7.2 h7);rw[hpre];simp only[];rw[hr,sb];dsimp only;rw[d6,d7,sb,sb,rcond,sb,if_neg (by simp[Covs,h6,h7,h3]),if_pos hI,if_neg (by simp),Z28 (n:=p.f3-q.f3) (by omega) (by omega),Z28 (n:=p.f4-q.f4) (by omega) (by omega)];have:(⟨p.f0,p.f1,p.f2,p.f3-q.f3,p.f4-q.f4,a.f5-b.f5,w6,w7⟩:Z1)=r :=
   hist_ext e0.symm e1.symm e2.symm e3.symm (by rw[e4,q6,q7];simp only;omega) e5.symm (Z2r W6 v.pos.canon (fun i=>by rw[V6,x6,T6])) (Z2r W7 v.neg.canon (fun i=>by rw[V7,x7,T7]))
  rw[← this]
theorem sub_any (x y:Z1) (vx:Z1b x) (fx:Fits x) (vy:Z1b y) (fy:Fits y):∃ r e,Z2a.f x y=some (r,e)∧Z4y.f x y=some (r,e)∧((e=0∧Z1b r∧Fits r)∨(r=h0∧(e=21∨e=5))):=by
 obtain⟨p,q,s,z,e,r,cp,cq,hp⟩:=Zd8 x y vx fx vy fy;rcases Sub_cases x y p q s z fx fy e r cp cq hp with ⟨_,h1,h2⟩ | ⟨_,_,h1,h2⟩ | ⟨_,r,h1,h2,h3⟩
 ·exact⟨_,_,h1,h2,.inr ⟨rfl,.inl rfl⟩⟩
 ·exact⟨_,_,h1,h2,.inr ⟨rfl,.inr rfl⟩⟩
 ·exact⟨_,_,h1,h2,.inl ⟨rfl,h3.valid,h3.fits⟩⟩
theorem add_any (x y:Z1) (vx:Z1b x) (fx:Fits x) (vy:Z1b y) (fy:Fits y):∃ r e,Z1j.f x y=some (r,e)∧Z3s.f x y=some (r,e)∧((e=0∧Z1b r∧Fits r)∨(r=h0∧e≠0)):=by
 obtain⟨p,q,s,z,e,r,cp,cq,hp⟩:=Zd8 x y vx fx vy fy;rcases Add_cases x y p q s z fx fy e r cp cq hp with ⟨_,h1,h2⟩ | ⟨_,_,h1,h2,_⟩ | ⟨r,h1,h2,h3⟩
 ·exact⟨_,_,h1,h2,.inr ⟨rfl,by simp⟩⟩
 ·exact⟨_,_,h1,h2,.inr ⟨rfl,by simp⟩⟩
 ·exact⟨_,_,h1,h2,.inl ⟨rfl,h3.valid,h3.fits⟩⟩
theorem prev_at {α:Type} {l pre suf:List α} {x:α} {i:Int} (h1:l=pre++x::suf) (hi:i=(pre.length:Int)) (h0:0<pre.length) (hl:l.length<1000000000):∃ y,at? l (i64.wrap (i-1))=some y∧y∈l:=by
 rcases List.eq_nil_or_concat pre with rfl | ⟨P,p,rfl⟩
 ·simp at h0
 ·simp only[List.concat_eq_append] at *
  have hlen:l.length=P.length+1+(suf.length+1):=by rw[h1];simp;omega
  have hi2:i=(P.length:Int)+1:=by rw[hi];simp
  rw[Zh (by omega) (by omega)];exact⟨p,Z0t (pre:=P) (suf:=x::suf) (by simp[h1]) (by omega),by rw[h1];simp⟩
def empt (s:Int):Z1:=⟨0,s,-524288,0,0,0,[],[]⟩
theorem Zcu {s:Int} (h:Z19 s):Z1b (empt s):=⟨.inl rfl,h,.inl rfl,⟨by simp[empt],by simp[empt],by simp[empt]⟩,⟨by simp[empt],by simp[empt],by simp[empt]⟩,by simp[empt,cnt],by simp[empt,cnt]⟩
theorem empt_fits {s:Int} (h:Z19 s):Fits (empt s):=by
 have h1:=h.1;have h2:=h.2;refine⟨?_,?_,?_,?_,?_,?_,by simp[empt],by simp[empt]⟩<;>simp only[empt]<;>constructor<;>omega
theorem Zc7 (a b:Z1) (ha:Z1b a) (fa:Fits a) (hb:Z1b b) (fb:Fits b) :
  ∃ p q s z,Z0i.f a b=some (p,q,0)∧Cut a s z p∧Cut b s z q∧Pair p q:=by
 obtain⟨p0,q0,p,q,s,z,_,_,_,_,_,e,cp,cq,_⟩:=Alike_eq a b ha fa hb fb;exact⟨p,q,s,z,e,cp,cq,cp.valid,cq.valid,cp.fits,cq.fits,cp.schema.trans cq.schema.symm,cp.zeroAt.trans cq.zeroAt.symm⟩
theorem Add_casesP (a b p q:Z1) (s z:Int) (fa:Fits a) (fb:Fits b) (he:Z0i.f a b=some (p,q,0)) (cp:Cut a s z p) (cq:Cut b s z q) (hp:Pair p q) :
  (∃ e,e≠0∧Z1j.f a b=some (h0,e))∨∃ r,Z1j.f a b=some (r,0)∧Sumd p q r:=by
 have kp:=cp.kind;have kq:=cq.kind;have a1:=hp.vp.pos.len;have a2:=hp.vp.neg.len;have a3:=hp.vq.pos.len;have a4:=hp.vq.neg.len;have c1:=hp.vp.count;have c2:=hp.vq.count;have n1:=Z0a hp.vp.pos.canon.nn;have n2:=Z0a hp.vp.neg.canon.nn;have n3:=Z0a hp.vq.pos.canon.nn;have n4:=Z0a hp.vq.neg.canon.nn;have z1:=hp.fp.zero;have z2:=hp.fq.zero;have hsum:([a.f5,b.f5]:List Int).sum=a.f5+b.f5:=by simp
 have hAI:=addint [a.f5,b.f5] (by simp) (by simp;exact⟨fa.sum,fb.sum⟩);rw[hsum] at hAI;obtain⟨B6,B7⟩:=bs_append hp;obtain⟨U6,U7⟩:=Zcb hp;have ht:cnt (p.f6++q.f6)+cnt (p.f7++q.f7)+(p.f3+q.f3)=p.f4+q.f4:=by rw[Z4i,Z4i];omega
 by_cases hI:I64 (a.f5+b.f5)
 case neg =>
  refine .inl ⟨5,by simp,?_⟩;unfold Z1j.f;rw[hAI,if_neg hI,sb,he,sb];rfl
 rw[if_pos hI] at hAI;have hk:(if b.f0>a.f0 then b.f0 else a.f0)=(if q.f0>p.f0 then q.f0 else p.f0):=by rw[kp,kq]
 have hkk:(if b.f0>a.f0 then b.f0 else a.f0)=0∨(if b.f0>a.f0 then b.f0 else a.f0)=1:=by
  rw[hk];split;exact hp.vq.kind;exact hp.vp.kind
 by_cases hc:p.f4+q.f4<18446744073709551616
 case neg =>
  refine .inl ⟨5,by simp,?_⟩;unfold Z1j.f;rw[hAI,sb,he,sb,if_neg (by simp),Z6j z1 z2,sb];by_cases hz:p.f3+q.f3<18446744073709551616
  ·rw[if_pos hz,if_neg (by simp)]
   dsimp only;rw[chkB (by simp;omega),chkB (by omega),chkB (by simp;omega),chkB (by omega)];rw[make_over (⟨(if b.f0>a.f0 then b.f0 else a.f0),p.f1,p.f2,p.f3+q.f3,0,a.f5+b.f5,[],[]⟩:Z1) _ _ B6 B7 U6 U7 ⟨by simp;omega,hz⟩ (by simp only;omega)];rfl
  ·rw[if_neg hz,if_pos (by simp)];rfl
 have hz:p.f3+q.f3<18446744073709551616:=by omega
 have m6:=Z0a B6.nn;have m7:=Z0a B7.nn;obtain⟨o6,_,C6,T6,_,_,L6,_⟩:=Z9i B6 (by have:=z1.1;have:=z2.1;omega);obtain⟨o7,_,C7,T7,_,_,L7,_⟩:=Z9i B7 (by have:=z1.1;have:=z2.1;omega);have hprog:∀ x,Z2f.f (⟨(if b.f0>a.f0 then b.f0 else a.f0),p.f1,p.f2,p.f3+q.f3,0,a.f5+b.f5,[],[]⟩:Z1) (p.f6++q.f6) (p.f7++q.f7)=some x→Z1j.f a b=some x:=by
  intro x hx;unfold Z1j.f;rw[hAI,sb,he,sb,if_neg (by simp),Z6j z1 z2,if_pos hz,sb,if_neg (by simp)];dsimp only;rw[chkB (by simp;omega),chkB (by omega),chkB (by simp;omega),chkB (by omega),hx];rfl
 by_cases hlim:512<o6.length∨512<o7.length
 ·exact .inl ⟨9,by simp,hprog _ (Zcn (⟨(if b.f0>a.f0 then b.f0 else a.f0),p.f1,p.f2,p.f3+q.f3,0,a.f5+b.f5,[],[]⟩:Z1) _ _ hkk hp.vp.schema hp.vp.zero (by simp;omega) hI B6 B7 (by simp only;omega) ⟨o6,o7,C6,C7,T6,T7,hlim⟩)⟩
 ·obtain⟨r,e,v,f,e0,e1,e2,e3,e5,x6,x7,e4⟩:=Z6v        (⟨(if b.f0>a.f0 then b.f0 else a.f0),p.f1,p.f2,p.f3+q.f3,0,a.f5+b.f5,[],[]⟩:Z1   ) (p.f6++q.f6) (p.f7++q.f7) hkk hp.vp.schema hp.vp.zero (by simp;omega) hI B6 B7 (by simp only;omega) (fun o ho hto=>by
   rcases hto with hto | hto
   ·rw[Z2r ho C6 (fun i=>(hto.1 i).trans (T6 i).symm)];omega
   ·rw[Z2r ho C7 (fun i=>(hto.1 i).trans (T7 i).symm)];omega)
  exact .inr ⟨r,hprog _ e,v,f,e0.trans hk,e1,e2,e3,by rw[e4];exact ht,by rw[e5,cp.sum,cq.sum],fun i=>by rw[x6,Z1x],fun i=>by rw[x7,Z1x]⟩
theorem Sub_casesP (a b p q:Z1) (s z:Int) (fa:Fits a) (fb:Fits b) (he:Z0i.f a b=some (p,q,0)) (cp:Cut a s z p) (cq:Cut b s z q) (hp:Pair p q) :
  Z2a.f a b=some (h0,21)∨Z2a.f a b=some (h0,5)∨(∃ r,Z2a.f a b=some (r,0)∧Lessd p q r):=by
 have a1:=hp.vp.pos.len;have a2:=hp.vp.neg.len;have a3:=hp.vq.pos.len;have a4:=hp.vq.neg.len;have c1:=hp.vp.count;have c2:=hp.vq.count;have hU:=hp.fp.count;have z1:=hp.fp.zero;have z2:=hp.fq.zero;have hSI:=subint fa.sum fb.sum;obtain⟨o6,k6,e6,i6,t6,L6,m6⟩:=less_eq p.f1 p.f2 p.f6 q.f6 hp.vp.pos.canon hp.vq.pos.canon (fun y hy=>⟨hp.vp.pos.ok y hy,(hp.fp.pos y hy).2⟩) (fun y hy=>(hp.fq.pos y hy).2) (by omega) (by omega);obtain⟨o7,k7,e7,i7,t7,L7,m7⟩:=less_eq p.f1 p.f2 p.f7 q.f7 hp.vp.neg.canon hp.vq.neg.canon (fun y hy=>⟨hp.vp.neg.ok y hy,(hp.fp.neg y hy).2⟩) (fun y hy=>(hp.fq.neg y hy).2) (by omega) (by omega);have hzs:=num_sub z1 z2;have hcond:((if(!k6)=true then(some true) else(if(!k7)=true then(some true) else(some (((if q.f3≤p.f3 then((p.f3-q.f3,0):Int×Int) else(0,5)).2 != (0:Int)))))):Option (Bool))=some (!decide (Covs p q)):=by
  unfold Covs;cases h6:k6 with
  | false => have : ¬ Cov p.f6 q.f6 := by rw [← i6, h6]; simp
             simp[this]
  | true =>
   have h6c:Cov p.f6 q.f6:=i6.1 h6;cases h7:k7 with
   | false => have : ¬ Cov p.f7 q.f7 := by rw [← i7, h7]; simp
              simp[this]
   | true =>
    have h7c:Cov p.f7 q.f7:=i7.1 h7;by_cases h3:q.f3≤p.f3<;>simp[h6c,h7c,h3]
 by_cases hcv:Covs p q
 case neg =>
  refine .inl ?_
  ·unfold        Z2a.f
   rw[hSI,sb,he,sb,if_neg (by simp)];dsimp only;rw[e6,e7,hzs,sb,sb,sb,hcond,sb,if_pos (by simp[hcv])];rfl
 by_cases hI:I64 (a.f5-b.f5)
 case neg =>
  refine .inr (.inl ?_)
  ·unfold        Z2a.f
   rw[hSI,sb,he,sb,if_neg (by simp)];dsimp only;rw[e6,e7,hzs,sb,sb,sb,hcond,sb,if_neg (by simp[hcv]),if_neg hI,if_pos (by simp)];rfl
 obtain⟨h6,h7,h3⟩:=hcv;have T6:=t6 (i6.2 h6);have T7:=t7 (i7.2 h7);have M6:=L6 (i6.2 h6);have M7:=L7 (i7.2 h7);have q6:cnt o6=cnt p.f6-cnt q.f6:=by
  have h:=Z4n (l:=o6) (l':=p.f6++negl q.f6) (fun i=>by rw[T6,Z1x,Z8o];omega);rw[h,Z4i,Z5o (negl q.f6),Z7h,← Z5o];omega
 have q7:cnt o7=cnt p.f7-cnt q.f7:=by
  have h:=Z4n (l:=o7) (l':=p.f7++negl q.f7) (fun i=>by rw[T7,Z1x,Z8o];omega);rw[h,Z4i,Z5o (negl q.f7),Z7h,← Z5o];omega
 have n6:=Z0a (l:=o6) (fun b hb=>(M6.ok b hb).2.1);have n7:=Z0a (l:=o7) (fun b hb=>(M7.ok b hb).2.1);have hn1:=Z0a hp.vq.pos.canon.nn;have hn2:=Z0a hp.vq.neg.canon.nn;obtain⟨r,e,v,f,e0,e1,e2,e3,e5,x6,x7,e4⟩:=Z6v (⟨p.f0,p.f1,p.f2,p.f3-q.f3,p.f4,a.f5-b.f5,p.f6,p.f7⟩:Z1) o6 o7 hp.vp.kind hp.vp.schema hp.vp.zero (by simp only;omega) hI ⟨by omega,M6.ok⟩ ⟨by omega,M7.ok⟩ (by simp only;omega) (fun o ho hto=>by
  rcases hto with hto | hto
  ·exact Nat.le_trans hto.2 (by omega)
  ·exact Nat.le_trans hto.2 (by omega))
 refine .inr (.inr ⟨r,?_,⟨v,f,e0,e1,e2,e3,by rw[e4,q6,q7];simp only;omega,by rw[e5,cp.sum,cq.sum],fun i=>by rw[x6,T6],fun i=>by rw[x7,T7]⟩⟩)
 ·unfold        Z2a.f
  rw[hSI,sb,he,sb,if_neg (by simp)];dsimp only;rw[e6,e7,hzs,sb,sb,sb,hcond,sb,if_neg (by simp[Covs,h6,h7,h3]),if_pos hI,if_neg (by simp),if_pos h3];dsimp only;rw[e];rfl
theorem sub_anyP (x y:Z1) (vx:Z1b x) (fx:Fits x) (vy:Z1b y) (fy:Fits y):∃ r e,Z2a.f x y=some (r,e)∧((e=0∧Z1b r∧Fits r)∨(r=h0∧(e=21∨e=5))):=by
 obtain⟨p,q,s,z,e,cp,cq,hp⟩:=Zc7 x y vx fx vy fy;rcases Sub_casesP x y p q s z fx fy e cp cq hp with h1 | h1 | ⟨r,h1,h3⟩
 ·exact⟨_,_,h1,.inr ⟨rfl,.inl rfl⟩⟩
 ·exact⟨_,_,h1,.inr ⟨rfl,.inr rfl⟩⟩
 ·exact⟨_,_,h1,.inl ⟨rfl,h3.valid,h3.fits⟩⟩
theorem add_anyP (x y:Z1) (vx:Z1b x) (fx:Fits x) (vy:Z1b y) (fy:Fits y):∃ r e,Z1j.f x y=some (r,e)∧((e=0∧Z1b r∧Fits r∧r.f4=x.f4+y.f4∧r.f5=x.f5+y.f5)∨(r=h0∧e≠0)):=by
 obtain⟨p,q,s,z,e,cp,cq,hp⟩:=Zc7 x y vx fx vy fy;rcases Add_casesP x y p q s z fx fy e cp cq hp with ⟨e,he,h1⟩ | ⟨r,h1,h3⟩
 ·exact⟨_,_,h1,.inr ⟨rfl,he⟩⟩
 ·exact⟨_,_,h1,.inl ⟨rfl,h3.valid,h3.fits,by rw[h3.count,cp.count,cq.count],by rw[h3.sum,cp.sum,cq.sum]⟩⟩
noncomputable def gap (x y:Z1):Z1:=match Z2a.f y x with
 | some (d,e)=>if e=21 then y else d
 | none=>y
noncomputable def gaps (g:Z1→Int):List Z1→Int
 | []=>0
 | [_]=>0
 | x::y::l=>g (gap x y)+gaps g (y::l)
theorem riseP_l0 (l:List Z1) (hl:l.length<1000000):∀ (suf pre:List Z1) (i:Int),l=pre++suf→i=(pre.length:Int)→∃ r,Z07.l0 l i=some r∧(r = .inl (h0,25)∨(r = .inr ()∧∀ h∈suf,h.f0=0)):=by
 intro suf
 induction suf with
 | nil=>intro pre i h1 hi;rw[List.append_nil] at h1;subst h1;rw[Z07.l0,if_neg (by simp[hi])];exact⟨_,rfl,.inr ⟨rfl,by simp⟩⟩
 | cons x suf ih =>
  intro pre i h1 hi;have hlen:(l.length:Int)=pre.length+(suf.length+1):=by rw[h1];simp
  rw[Z07.l0,if_pos (by simp;omega),Z0t h1 hi,sb,Zh (by omega) (by omega)];by_cases c:x.f0=0
  ·rw[if_neg (by simpa using c)]
   obtain⟨r,e,hr⟩:=ih (pre++[x]) (i+1) (by simp[h1]) (by simp;omega);refine⟨r,e,?_⟩;rcases hr with hr | ⟨hr,h2⟩
   ·exact .inl hr
   ·refine .inr ⟨hr,fun h hh => ?_⟩
    rcases List.mem_cons.1 hh with rfl | hh
    ·exact c
    ·exact h2 h hh
  ·rw[if_pos (by simpa using c)];exact⟨_,rfl,.inl rfl⟩
theorem riseP_l1 (l:List Z1) (hl:l.length<1000000) (hv:∀ h∈l,Z1b h∧Fits h):∀ (suf pre:List Z1) (y o:Z1) (i:Int),l=pre++y::suf→i=(pre.length:Int)+1→Z1b o→Fits o →
  ∃ r,Z07.l1 l (o.f0,o.f1,o.f2,o.f3,o.f4,o.f5,o.f6,o.f7,i)=some r∧((∃ e,r = .inl (h0,e)∧e≠0)∨∃ o':Z1,r = .inr (o'.f0,o'.f1,o'.f2,o'.f3,o'.f4,o'.f5,o'.f6,o'.f7)∧Z1b o'∧Fits o'∧o'.f4=o.f4+gaps (·.f4) (y::suf)∧o'.f5=o.f5+gaps (·.f5) (y::suf)):=by
 intro suf
 induction suf with
 | nil =>
  intro pre y o i h1 hi vo fo;have hlen:(l.length:Int)=pre.length+1:=by rw[h1];simp
  rw[Z07.l1]
  try dsimp only
  rw[if_neg (by simp;omega)];exact⟨_,rfl,.inr ⟨o,rfl,vo,fo,by simp[gaps],by simp[gaps]⟩⟩
 | cons x suf ih =>
  intro pre y o i h1 hi vo fo;have hlen:(l.length:Int)=pre.length+(suf.length+1+1):=by rw[h1];simp
  have vx:=hv x (by rw[h1];simp);have vy:=hv y (by rw[h1];simp);have e1:l=(pre++[y])++x::suf:=by simp[h1]
  have e2:i+1=((pre++[y]).length:Int)+1:=by simp;omega
  obtain⟨d,e,S1,hS⟩:=sub_anyP x y vx.1 vx.2 vy.1 vy.2;have hlx:x.f6.length<1000000000∧x.f7.length<1000000000:=by have:=vx.1.pos.len;have:=vx.1.neg.len;omega
  have P:∀ (c r:Z1) (e':Int),((e=0∧c=d)∨(e=21∧c=x))→Z1j.f o c=some (r,e')→Z07.l1 l (o.f0,o.f1,o.f2,o.f3,o.f4,o.f5,o.f6,o.f7,i)=if e'=0 then Z07.l1 l (r.f0,r.f1,r.f2,r.f3,r.f4,r.f5,r.f6,r.f7,i+1) else some (.inl (h0,e')):=by
   intro c r e' hc hA
   conv=>lhs;rw[Z07.l1]
   try dsimp only
   rw[if_pos (by simp;omega),Z0t e1 (by simp;omega),sb,Zh (n:=i-1) (by omega) (by omega),Z0t h1 (by omega),sb,S1,sb,Zh (n:=i+1) (by omega) (by omega)];rcases hc with ⟨rfl,rfl⟩ | ⟨rfl,rfl⟩
   ·rw[if_neg (by simp),sb]
    try dsimp only
    rw[if_pos (by simp),hA,sb]
    try dsimp only
    by_cases h:e'=0<;>simp[h,h0]
   ·rw[if_pos (by simp),Z7f      c hlx.1 hlx.2,sb,sb]
    try dsimp only
    rw[if_pos (by simp),hA,sb]
    try dsimp only
    by_cases h:e'=0<;>simp[h,h0]
  have fin:∀ c,gap y x=c→Z1b c→Fits c→((e=0∧c=d)∨(e=21∧c=x))→∃ r,Z07.l1 l (o.f0,o.f1,o.f2,o.f3,o.f4,o.f5,o.f6,o.f7,i)=some r∧((∃ e,r = .inl (h0,e)∧e≠0)∨∃ o':Z1,r = .inr (o'.f0,o'.f1,o'.f2,o'.f3,o'.f4,o'.f5,o'.f6,o'.f7)∧Z1b o'∧Fits o'∧o'.f4=o.f4+gaps (·.f4) (y::x::suf)∧o'.f5=o.f5+gaps (·.f5) (y::x::suf)):=by
   intro c hg vc fc hc;obtain⟨r,e',A1,hA⟩:=add_anyP o c vo fo vc fc;rw[P c r e' hc A1];rcases hA with ⟨rfl,vr,fr,g4,g5⟩ | ⟨rfl,he⟩
   ·rw[if_pos rfl]
    obtain⟨r',E,hr⟩:=ih (pre++[y]) x r (i+1) e1 e2 vr fr;refine⟨r',E,?_⟩;rcases hr with hr | ⟨o',hr,v',f',k4,k5⟩
    ·exact .inl hr
    ·exact .inr ⟨o',hr,v',f',by rw[k4,g4,gaps,hg];omega,by rw[k5,g5,gaps,hg];omega⟩
   ·rw[if_neg he];exact⟨_,rfl,.inl ⟨_,rfl,he⟩⟩
  rcases hS with ⟨rfl,vd,fd⟩ | ⟨rfl,rfl | rfl⟩
  ·exact fin d (by simp[gap,S1]) vd fd (.inl ⟨rfl,rfl⟩)
  ·exact fin x (by simp[gap,S1]) vx.1 vx.2 (.inr ⟨rfl,rfl⟩)
  ·refine⟨.inl (h0,5),?_,.inl ⟨_,rfl,by simp⟩⟩
   rw[Z07.l1]
   try dsimp only
   rw[if_pos (by simp;omega),Z0t e1 (by simp;omega),sb,Zh (n:=i-1) (by omega) (by omega),Z0t h1 (by omega),sb,S1,sb,if_neg (by simp),sb];rfl
theorem riseP (l:List Z1) (hl:l.length<1000000) (hv:∀ h∈l,Z1b h∧Fits h):∃ o e,Z07.f l=some (o,e)∧((o=h0∧e≠0)∨(e=0∧Z1b o∧Fits o∧o.f4=gaps (·.f4) l∧o.f5=gaps (·.f5) l)):=by
 unfold Z07.f Z54.f;cases l with
 | nil=>rw[if_pos (by simp)];exact⟨_,_,rfl,.inl ⟨rfl,by simp⟩⟩
 | cons x l =>
  by_cases h2:(((x::l).length:Int)<2)
  ·rw[if_pos (by simpa using h2)];exact⟨_,_,rfl,.inl ⟨rfl,by simp⟩⟩
  rw[if_neg (by simpa using h2)];obtain⟨r,e,hr⟩:=riseP_l0 (x::l) hl (x::l) [] 0 rfl rfl;rw[e,sb];rcases hr with rfl | ⟨rfl,_⟩
  ·exact⟨_,_,rfl,.inl ⟨rfl,by simp⟩⟩
  ·have vx:=hv x (by simp)
   obtain⟨r,e,hr⟩:=riseP_l1 (x::l) hl hv l [] x (empt x.f1) 1 rfl (by simp) (Zcu vx.1.schema) (empt_fits vx.1.schema)
   try dsimp only
   rw[show at? (x::l) 0=some x from rfl,sb,sb];dsimp only[empt] at e
   try dsimp only
   rw[e,sb];rcases hr with ⟨e,rfl,he⟩ | ⟨o',rfl,v',f',k4,k5⟩
   ·exact⟨_,_,rfl,.inl ⟨rfl,he⟩⟩
   ·exact⟨_,_,rfl,.inr ⟨rfl,v',f',by rw[k4];simp[empt],by rw[k5];simp[empt]⟩⟩
end Go.Proofs.YtcilcefjcaimoaaGreat.PvGQ
namespace Go.Proofs.YtcilcefjcaimoaaGreat.PvGQ
open Go Go.Pv Go.Pv.GS Go.IntKind
structure Ups (l:List Z06):Prop where
 ok:∀ s∈l,Z1b s.f1∧0≤s.f0∧s.f0≤1099511627776
 up:l.Pairwise (fun a b=>a.f0<b.f0)
theorem rising_l0 (l:List Z06) (hl:(l.length:Int)≤140737488351232) (hR:∀ s∈l,RSample s):∀ (suf pre:List Z06) (i:Int),l=pre++suf→i=(pre.length:Int)→Ups pre →
  ∃ r,Z21.l0 l i=some r∧(r = .inl false∨(r = .inr ()∧Ups l)):=by
 intro suf
 induction suf with
 | nil =>
  intro pre i h1 hi hu;rw[List.append_nil] at h1;subst h1;rw[Z21.l0,if_neg (by simp[hi])];exact⟨_,rfl,.inr ⟨rfl,hu⟩⟩
 | cons s suf ih =>
  intro pre i h1 hi hu;have hlen:(l.length:Int)=pre.length+(suf.length+1):=by rw[h1];simp
  have hs:=hR s (by rw[h1];simp);have h6:=hs.r1.r6.1;have h7:=hs.r1.r7.1;obtain⟨r,er,hr⟩:=ref_check_iff s.f1 (fits_of hs.r1) (by omega) (by omega);rw[Z21.l0,if_pos (by simp;omega),Z0t h1 hi,sb,rtime,sb];by_cases ht:0≤s.f0∧s.f0≤1099511627776
  case neg=>rw[if_pos (by rw[decide_eq_false ht];rfl),sb,if_pos rfl];exact⟨_,rfl,.inl rfl⟩
  rw[if_neg (by rw[decide_eq_true ht];simp),er,sb];by_cases hr0:r=0
  case neg=>rw[if_pos (by simpa using hr0),sb,if_pos rfl];exact⟨_,rfl,.inl rfl⟩
  rw[if_neg (by simpa using hr0)];have hv:=hr.1 hr0;rcases List.eq_nil_or_concat pre with rfl | ⟨P,p,rfl⟩
  ·rw[if_neg (by simp[hi]),sb,if_neg (by simp),Zh     (n:=i+1) (by omega) (by omega)]
   exact ih [s] (i+1) (by simp[h1]) (by simp[hi]) ⟨by simp;exact⟨hv,ht⟩,by simp⟩
  ·simp only[List.concat_eq_append] at *
   have hi2:i=(P.length:Int)+1:=by rw[hi];simp
   rw[if_pos (by simp;omega),Zh (n:=i-1) (by omega) (by omega),Z0t (pre:=P) (x:=p) (suf:=s::suf) (by simp[h1]) (by omega),sb,sb];by_cases hlt:s.f0≤p.f0
   ·rw[if_pos (by simpa using hlt)];exact⟨_,rfl,.inl rfl⟩
   ·rw[if_neg (by simpa using hlt),Zh     (n:=i+1) (by simp at hlen;omega) (by simp at hlen;omega)]
    refine ih (P++[p]++[s]) (i+1) (by simp[h1]) (by simp;omega) ⟨fun c hc => ?_,?_⟩
    ·rcases List.mem_append.1 hc with hc | hc
     ·exact hu.ok c hc
     ·simp at hc;subst hc;exact⟨hv,ht⟩
    ·refine List.pairwise_append.2 ⟨hu.up,by simp,fun a ha b hb => ?_⟩
     simp at hb;subst hb;rcases List.mem_append.1 ha with ha | ha
     ·have:=(List.pairwise_append.1 hu.up).2.2 a ha p (by simp);omega
     ·simp at ha;subst ha;omega
structure Lit (l:List Z06):Prop where
 ok:∀ s∈l,Z1b s.f1∧Fits s.f1
 len:l.length≤400
theorem Lit.filter {l:List Z06} (h:Lit l) (p:Z06→Bool):Lit (l.filter p) :=
 ⟨fun s hs=>h.ok s (List.mem_filter.1 hs).1,Nat.le_trans (List.length_filter_le _ _) h.len⟩
theorem of_l0 (l:List Z06) (hl:l.length≤400):∀ (suf pre:List Z06) (o:List Z1) (i:Int),l=pre++suf→i=(pre.length:Int)→o.length=pre.length→Z2p.l0 l o i=some (o++suf.map (·.f1)):=by
 intro suf
 induction suf with
 | nil=>intro pre o i h1 hi ho;rw[List.append_nil] at h1;subst h1;rw[Z2p.l0,if_neg (by simp[hi])];simp
 | cons s suf ih =>
  intro pre o i h1 hi ho;have hlen:l.length=pre.length+(suf.length+1):=by rw[h1];simp
  rw[Z2p.l0,if_pos (by simp;omega),Z0t h1 hi,sb,chkB (by simp;omega),Zh (n:=i+1) (by omega) (by omega),ih (pre++[s]) _ (i+1) (by simp[h1]) (by simp;omega) (by simp[ho])];simp
theorem of_rise (q:Z27) (l:List Z06) (h:Lit l) (h5:q.f0=5):Z2p.f q l=Z07.f ((l.filter (Z79 q.f4 q.f5)).map (·.f1)):=by
 have hw:=h.filter (Z79 q.f4 q.f5);have hlen:=h.len;unfold Z2p.f;rw[win_eq l (by omega),sb,if_pos (by simpa using h5),of_l0 _ hw.len (l.filter (Z79 q.f4 q.f5)) [] [] 0 rfl rfl rfl,sb,List.nil_append];cases Z07.f ((l.filter (Z79 q.f4 q.f5)).map (·.f1)) with
 | none=>rfl
 | some p=>rfl
theorem of_tot (q:Z27) (l:List Z06) (h:Lit l):∃ x e,Z2p.f q l=some (x,e)∧(e=0→Z1b x∧Fits x):=by
 have hw:=h.filter (Z79 q.f4 q.f5);have hlen:=h.len;have hwl:=hw.len;by_cases h5:q.f0=5
 ·rw[of_rise q l h h5]
  obtain⟨o,e,E,hr⟩:=riseP ((l.filter (Z79 q.f4 q.f5)).map (·.f1)) (by simp only[List.length_map];omega) (fun x hx=>by
   obtain⟨s,hs,rfl⟩:=List.mem_map.1 hx;exact hw.ok s hs)
  refine⟨o,e,E,fun h0 => ?_⟩;rcases hr with ⟨_,h1⟩ | ⟨_,h1,h2,_⟩
  ·exact absurd h0 h1
  ·exact⟨h1,h2⟩
 ·unfold       Z2p.f
  rw[win_eq l (by omega),sb,if_neg (by simpa using h5)];rcases List.eq_nil_or_concat (l.filter (Z79 q.f4 q.f5)) with hn | ⟨P,p,hn⟩
  ·rw[hn,if_pos (by simp)];exact⟨_,_,rfl,by simp⟩
  ·simp only[List.concat_eq_append] at hn
   rw[hn] at hw hwl ⊢;have hp:=hw.ok p (by simp);simp only[List.length_append,List.length_cons,List.length_nil] at hwl;rw[if_neg (by simp<;>omega),Zh (by simp<;>omega) (by simp<;>omega),Z0t (pre:=P) (x:=p) (suf:=[]) (by simp) (by simp),sb,Z7f p.f1 (by have:=hp.1.pos.len;omega) (by have:=hp.1.neg.len;omega),sb];exact⟨_,_,rfl,fun _=>hp⟩
def Z6f (h:Z1):Prop:=h.f6.length<1000000∧h.f7.length<1000000
theorem esame_self (a:Z7) (h:Z6f a.f0):Z5j.f a a=some true:=by
 unfold Z5j.f;rw[same_self a.f0 (by have:=h.1;omega) (by have:=h.2;omega)];simp[sb]
theorem quant_same {h:Z1} (v:Z1b h) (f:Fits h) {part of:Int} (hp:U64 part) (ho:U64 of) :
  ∃ (k:Z8) (n e:Int),Z2i.f h part of=some (k,e)∧Z1c.f h part of=some (⟨k.f0,k.f1,k.f2,n⟩,e):=by
 have f4:=f.count;by_cases h0:of=0∨part>of
 ·have hb:((if(of==(0:Int))=true then(some true) else(some (decide (part>of)))):Option Bool)=some true:=by
   rcases h0 with c | c
   ·rw[if_pos (by simpa using c)]
   ·by_cases c2:of=0
    ·rw[if_pos (by simpa using c2)]
    ·rw[if_neg (by simpa using c2),decide_eq_true c]
  refine⟨⟨0,0,0⟩,0,1,?_,?_⟩
  ·unfold             Z2i.f
   rw[hb,sb,if_pos rfl]
  ·unfold            Z1c.f
   rw[hb,sb,if_pos rfl]
 by_cases hc:h.f4=0
 ·refine⟨⟨0,0,0⟩,0,30,?_,?_⟩
  ·unfold             Z2i.f
   rw[if_neg (by simp;omega),sb,if_neg (by simp;omega),if_pos (by simpa using hc)]
  ·unfold            Z1c.f
   rw[if_neg (by simp;omega),sb,if_neg (by simp;omega),if_pos (by simpa using hc)]
 have ho0:=ho.1;have f41:=f4.1;obtain⟨c,pc,mc,e⟩:=quant_ok v f hp ho (by omega) (by omega) (by omega);exact⟨c.f0,c.f1,0,e,ref_quant v f hp ho (by omega) (by omega) (by omega) pc⟩
end Go.Proofs.YtcilcefjcaimoaaGreat.PvGQ
namespace Go.Proofs.YtcilcefjcaimoaaGreat.PvGQ
open Go Go.Pv Go.Pv.GS Go.IntKind
open Classical
structure Right7 (h:Z1):Prop where
 pos:h.f6.length≤100
 neg:h.f7.length≤100
 valid:Z1b h
theorem Zco {r:Z1} (h:r=h0∨Z1b r):r.f6.length<1000000000∧r.f7.length<1000000000:=by
 rcases h with rfl | h
 ·simp[h0]
 ·have:=h.pos.len;have:=h.neg.len;omega
theorem rises_l1 (l:List Z1) (hl:l.length<1000000) (hv:∀ h∈l,Z1b h∧Fits h):∀ (suf pre:List Z1) (o:Z1) (i:Int),l=pre++suf→i=(pre.length:Int)→0<pre.length→Z1b o→Fits o →
  ∃ r,Z07.l1 l (o.f0,o.f1,o.f2,o.f3,o.f4,o.f5,o.f6,o.f7,i)=some r∧Z1h.l1 l (o.f0,o.f1,o.f2,o.f3,o.f4,o.f5,o.f6,o.f7,i)=some r∧((∃ e,r = .inl (h0,e))∨∃ o':Z1,r = .inr (o'.f0,o'.f1,o'.f2,o'.f3,o'.f4,o'.f5,o'.f6,o'.f7)∧Z1b o'):=by
 intro suf
 induction suf with
 | nil =>
  intro pre o i h1 hi hp vo fo;rw[List.append_nil] at h1;subst h1;rw[Z07.l1,Z1h.l1]
  try dsimp only
  rw[if_neg (by simp[hi]),if_neg (by simp[hi])];exact⟨_,rfl,rfl,.inr ⟨o,rfl,vo⟩⟩
 | cons x suf ih =>
  intro pre o i h1 hi hp vo fo;have hlen:(l.length:Int)=pre.length+(suf.length+1):=by rw[h1];simp
  obtain⟨y,hy,hyl⟩:=prev_at h1 hi hp (by omega);have vx:=hv x (by rw[h1];simp);have vy:=hv y hyl;have e1:l=(pre++[x])++suf:=by simp[h1]
  have e2:i+1=((pre++[x]).length:Int):=by simp;omega
  obtain⟨d,e,S1,S2,hS⟩:=sub_any x y vx.1 vx.2 vy.1 vy.2;have hlx:=Zco (.inr vx.1);have P:∀ (c r:Z1) (e':Int),((e=0∧c=d)∨(e=21∧c=x))→Z1j.f o c=some (r,e')→Z07.l1 l (o.f0,o.f1,o.f2,o.f3,o.f4,o.f5,o.f6,o.f7,i)=if e'=0 then Z07.l1 l (r.f0,r.f1,r.f2,r.f3,r.f4,r.f5,r.f6,r.f7,i+1) else some (.inl (h0,e')):=by
   intro c r e' hc hA
   conv=>lhs;rw[Z07.l1]
   try dsimp only
   rw[if_pos (by simp;omega),Z0t h1 hi,sb,hy,sb,S1,sb,Zh (n:=i+1) (by omega) (by omega)];rcases hc with ⟨rfl,rfl⟩ | ⟨rfl,rfl⟩
   ·rw[if_neg (by simp),sb]
    try dsimp only
    rw[if_pos (by simp),hA,sb]
    try dsimp only
    by_cases h:e'=0<;>simp[h,h0]
   ·rw[if_pos (by simp),Z7f      c hlx.1 hlx.2,sb,sb]
    try dsimp only
    rw[if_pos (by simp),hA,sb]
    try dsimp only
    by_cases h:e'=0<;>simp[h,h0]
  have R:∀ (c r:Z1) (e':Int),((e=0∧c=d)∨(e=21∧c=x))→Z3s.f o c=some (r,e')→Z1h.l1 l (o.f0,o.f1,o.f2,o.f3,o.f4,o.f5,o.f6,o.f7,i)=if e'=0 then Z1h.l1 l (r.f0,r.f1,r.f2,r.f3,r.f4,r.f5,r.f6,r.f7,i+1) else some (.inl (h0,e')):=by
   intro c r e' hc hA
   conv=>lhs;rw[Z1h.l1]
   try dsimp only
   rw[if_pos (by simp;omega),Z0t h1 hi,sb,hy,sb,S2,sb,Zh (n:=i+1) (by omega) (by omega)];rcases hc with ⟨rfl,rfl⟩ | ⟨rfl,rfl⟩
   ·rw[if_neg (by simp),if_neg (by simp),sb]
    try dsimp only
    rw[hA,sb]
    try dsimp only
    by_cases h:e'=0<;>simp[h,h0]
   ·rw[if_pos (by simp),sb]
    try dsimp only
    rw[hA,sb]
    try dsimp only
    by_cases h:e'=0<;>simp[h,h0]
  have fin:∀ c,Z1b c→Fits c→((e=0∧c=d)∨(e=21∧c=x))→∃ r,Z07.l1 l (o.f0,o.f1,o.f2,o.f3,o.f4,o.f5,o.f6,o.f7,i)=some r∧Z1h.l1 l (o.f0,o.f1,o.f2,o.f3,o.f4,o.f5,o.f6,o.f7,i)=some r∧((∃ e,r = .inl (h0,e))∨∃ o':Z1,r = .inr (o'.f0,o'.f1,o'.f2,o'.f3,o'.f4,o'.f5,o'.f6,o'.f7)∧Z1b o'):=by
   intro c vc fc hc;obtain⟨r,e',A1,A2,hA⟩:=add_any o c vo fo vc fc;rw[P c r e' hc A1,R c r e' hc A2];rcases hA with ⟨rfl,vr,fr⟩ | ⟨rfl,he⟩
   ·rw[if_pos rfl,if_pos rfl];exact ih (pre++[x]) r (i+1) e1 e2 (by simp) vr fr
   ·rw[if_neg he,if_neg he];exact⟨_,rfl,rfl,.inl ⟨_,rfl⟩⟩
  rcases hS with ⟨rfl,vd,fd⟩ | ⟨rfl,rfl | rfl⟩
  ·exact fin d vd fd (.inl ⟨rfl,rfl⟩)
  ·exact fin x vx.1 vx.2 (.inr ⟨rfl,rfl⟩)
  ·refine⟨.inl (h0,5),?_,?_,.inl ⟨_,rfl⟩⟩
   ·rw[        Z07.l1]
    try dsimp only
    rw[if_pos (by simp;omega),Z0t h1 hi,sb,hy,sb,S1,sb,if_neg (by simp),sb];rfl
   ·rw[       Z1h.l1]
    try dsimp only
    rw[if_pos (by simp;omega),Z0t h1 hi,sb,hy,sb,S2,sb,if_neg (by simp),if_pos (by simp),sb];rfl
theorem kinds_l0 (l:List Z1) (hl:l.length<1000000):∀ (suf pre:List Z1) (i:Int),l=pre++suf→i=(pre.length:Int) →
  ∃ r,Z07.l0 l i=some r∧Z1h.l0 l i=some r∧(r = .inr ()∨r = .inl (h0,25)):=by
 intro suf
 induction suf with
 | nil=>intro pre i h1 hi;rw[List.append_nil] at h1;subst h1;rw[Z07.l0,Z1h.l0,if_neg (by simp[hi]),if_neg (by simp[hi])];exact⟨_,rfl,rfl,.inl rfl⟩
 | cons x suf ih =>
  intro pre i h1 hi;have hlen:(l.length:Int)=pre.length+(suf.length+1):=by rw[h1];simp
  rw[Z07.l0,Z1h.l0,if_pos (by simp;omega),if_pos (by simp;omega),Z0t h1 hi,sb,sb,Zh (by omega) (by omega)];by_cases h:x.f0=0
  ·rw[if_neg (by simpa using h),if_neg (by simpa using h)]
   exact ih (pre++[x]) (i+1) (by simp[h1]) (by simp;omega)
  ·rw[if_pos (by simpa using h),if_pos (by simpa using h)]
   exact⟨_,rfl,rfl,.inr rfl⟩
theorem rise_same (l:List Z1) (hl:l.length<1000000) (hv:∀ h∈l,Z1b h∧Fits h):∃ r e,Z07.f l=some (r,e)∧Z1h.f l=some (r,e)∧(r=h0∨Z1b r):=by
 unfold Z07.f Z1h.f;by_cases h2:l.length<2
 ·rw[if_pos (by simp;omega),if_pos (by simp;omega)];exact⟨_,_,rfl,rfl,.inl rfl⟩
 rw[if_neg (by simp;omega),if_neg (by simp;omega)];obtain⟨k,k1,k2,hk⟩:=kinds_l0 l hl l [] 0 rfl rfl;rw[k1,k2,sb,sb];rcases hk with rfl | rfl
 case inr=>exact⟨_,_,rfl,rfl,.inl rfl⟩
 try dsimp only
 obtain⟨x,y,l',rfl⟩:∃ x y l',l=x::y::l':=by
  rcases l with _ | ⟨x,_ | ⟨y,l'⟩⟩
  ·simp at h2
  ·simp at h2
  ·exact⟨x,y,l',rfl⟩
 rw[show at? (x::y::l') 0=some x from rfl,sb,sb];unfold Z54.f;rw[sb];have vx:=hv x (by simp);obtain⟨r,r1,r2,hr⟩:=rises_l1 (x::y::l') hl hv (y::l') [x] (empt x.f1) 1 rfl rfl (by simp) (Zcu vx.1.schema) (empt_fits vx.1.schema);dsimp only[empt] at r1 r2
 try dsimp only
 rw[r1,r2,sb]
 try rw[sb]
 rcases hr with ⟨e,rfl⟩ | ⟨o,rfl,vo⟩
 ·exact⟨_,_,rfl,rfl,.inl rfl⟩
 ·exact⟨_,_,rfl,rfl,.inr vo⟩
def Sm (s u:Int):Prop:=(s = -1∨s=0∨s=1) ∧ -1000000<u∧u<1000000
theorem ref_above {a b c d:Int} (h1:Sm a b) (h2:Sm c d):Z4m.f a b c d=some (decide (spt ⟨a,b⟩>spt ⟨c,d⟩)):=by
 unfold Z4m.f;obtain⟨h1,h3,h4⟩:=h1;obtain⟨h2,h5,h6⟩:=h2;rcases h1 with rfl | rfl | rfl<;>rcases h2 with rfl | rfl | rfl<;>simp[spt]<;>omega
theorem ref_ends {h:Z1} (v:Z1b h) {c:Zt} (hc:Zd7 h c):∃ ls lu hs hu,Z64.f h (rc c)=some (ls,lu,hs,hu)∧Sm ls lu∧Sm hs hu∧spt ⟨ls,lu⟩=lo h c∧spt ⟨hs,hu⟩=hi h c:=by
 unfold Z64.f;cases hc with
 | neg b hb ok =>
  have:=Z81 v.schema ok.ins;have hs:=Z3y ok.ins;simp only[Zbv];rw[if_neg (by decide),Zh (by omega) (by omega),Z4f v.schema (by omega),sb,Z4f v.schema (by omega),sb,if_neg (by simp)];refine⟨_,_,_,_,rfl,⟨by omega,by omega,by omega⟩,⟨by omega,by omega,by omega⟩,?_,?_⟩<;>simp[spt,lo,hi]
 | zero hz =>
  have:=v.zero;rw[if_pos (by simp)];by_cases h0:h.f2 = -524288
  ·rw[if_pos (by simpa using h0)]
   refine⟨_,_,_,_,rfl,⟨by omega,by omega,by omega⟩,⟨by omega,by omega,by omega⟩,?_,?_⟩<;>simp[spt,lo,hi,h0]
  ·rw[if_neg (by simpa using h0)]
   refine⟨_,_,_,_,rfl,⟨by omega,by omega,by omega⟩,⟨by omega,by omega,by omega⟩,?_,?_⟩<;>simp[spt,lo,hi,h0]
 | pos b hb ok =>
  have:=Z81 v.schema ok.ins;have hs:=Z3y ok.ins;simp only[Z9w];rw[if_neg (by decide),Zh (by omega) (by omega),Z4f v.schema (by omega),sb,Z4f v.schema (by omega),sb,if_pos (by simp)];refine⟨_,_,_,_,rfl,⟨by omega,by omega,by omega⟩,⟨by omega,by omega,by omega⟩,?_,?_⟩<;>simp[spt,lo,hi]
theorem ref_below_l0 {h:Z1} (v:Z1b h) (f:Fits h) (ps pu:Int) (hp:Sm ps pu):∀ (suf pre:List Zt) (i:Int),cells h=pre++suf→i=(pre.length:Int) →
  Z2k.l0 h ps pu ((cells h).map rc) (bsum h (spt ⟨ps,pu⟩) pre) (msum h (spt ⟨ps,pu⟩) pre) i=some (bsum h (spt ⟨ps,pu⟩) (cells h),msum h (spt ⟨ps,pu⟩) (cells h)):=by
 have hl:=Z96 v;have hs:=Z95 v f;have fc2:=f.count.2;intro suf
 induction suf with
 | nil=>intro pre i h1 hi;rw[Z2k.l0,if_neg (by rw[h1];simp[hi]),h1,List.append_nil]
 | cons x suf ih =>
  intro pre i h1 hi';have hlen:((cells h).length:Int)=pre.length+(suf.length+1):=by rw[h1];simp
  have hx:=Z50 v x (by rw[h1];simp);have hok:=cells_ok v x (by rw[h1];simp);have hb:=bmsum h (spt ⟨ps,pu⟩) pre (fun c hc=>Z50 v c (by rw[h1];simp[hc]));have hsuf:=Z7d (l:=suf) (fun c hc=>Z50 v c (by rw[h1];simp[hc]));have hsum:csum (cells h)=csum pre+(x.f1+csum suf):=by rw[h1,Z5k,Z6z]
  have key:=ih (pre++[x]) (i+1) (by simp[h1]) (by simp;omega);rw[Zbw,Zbh] at key;simp only[bsum,msum,Int.add_zero] at key;have h2:(cells h).map rc=pre.map rc++rc x::suf.map rc:=by rw[h1];simp
  obtain⟨ls,lu,hs',hu,ee,s1,s2,q1,q2⟩:=ref_ends v hok;rw[Z2k.l0,if_pos (by simp;omega),Z0t h2 (by simp[hi']),sb,ee,sb]
  try dsimp only
  rw[ref_above s2 hp,sb,ref_above hp s1,q1,q2];rw[Zh (n:=i+1) (by omega) (by omega),Z28 (n:=bsum h (spt ⟨ps,pu⟩) pre+x.f1) (by omega) (by omega),Z28 (n:=msum h (spt ⟨ps,pu⟩) pre+x.f1) (by omega) (by omega)];by_cases c1:hi h x≤spt ⟨ps,pu⟩
  ·rw[if_pos (by simp;omega),sb]
   try dsimp only
   rw[if_pos c1,if_pos c1] at key;rw[Int.add_zero] at key;exact key
  ·rw[if_neg (by simp;omega),sb]
   rw[if_neg c1,if_neg c1] at key;by_cases c2:lo h x<spt ⟨ps,pu⟩
   ·rw[if_pos (by simp;omega),sb,sb]
    try dsimp only
    rw[if_pos c2] at key;rw[Int.add_zero] at key;exact key
   ·rw[if_neg (by simp;omega),sb,sb]
    try dsimp only
    rw[if_neg c2] at key;rw[Int.add_zero,Int.add_zero] at key;exact key
theorem Zc8 (s u:Int):((if(s==(0:Int))=true then(if(u != (0:Int))=true then(some true) else(if(decide (s<(-1)))=true then(some true) else(if(decide (s>(1:Int)))=true then(some true) else(if(s != (0:Int))=true then(if(decide (u≤(-262144)))=true then(some true) else(some (decide (u>(262144:Int))))) else(some false))))) else(if(decide (s<(-1)))=true then(some true) else(if(decide (s>(1:Int)))=true then(some true) else(if(s != (0:Int))=true then(if(decide (u≤(-262144)))=true then(some true) else(some (decide (u>(262144:Int))))) else(some false))))):Option (Bool))=some (decide (¬ Z3e ⟨s,u⟩)):=by
 by_cases h3:s=0
 ·subst h3
  by_cases h4:u=0
  ·subst h4;rw[decide_eq_false (p:=¬ Z3e ⟨0,0⟩) (by unfold Z3e;simp)];simp
  ·rw[decide_eq_true (p:=¬ Z3e ⟨0,u⟩) (by unfold Z3e;simp;omega)];simp[h4]
 rw[if_neg (by simpa using h3)];by_cases h1:s < -1
 ·rw[if_pos (by simpa using h1),decide_eq_true (by unfold Z3e;simp;omega)]
 rw[if_neg (by simpa using h1)];by_cases h2:s>1
 ·rw[if_pos (by simpa using h2),decide_eq_true (by unfold Z3e;simp;omega)]
 rw[if_neg (by simpa using h2),if_pos (by simpa using h3)];by_cases h4:u ≤ -262144
 ·rw[if_pos (by simpa using h4),decide_eq_true (by unfold Z3e;simp;omega)]
 rw[if_neg (by simpa using h4)];congr 1;rw[decide_eq_decide];unfold Z3e;simp;omega
theorem ref_below_eq {h:Z1} (v:Z1b h) (f:Fits h) (p:Z0e):Z2k.f h p.f0 p.f1=some (if ¬ Z3e p then(0,0,0,1) else if h.f4=0 then(0,0,0,30) else(bsum h (spt p) (cells h),msum h (spt p) (cells h),h.f4,0)):=by
 unfold Z2k.f;rw[Zc8,sb];by_cases hp:Z3e p
 case neg=>rw[if_pos (decide_eq_true hp),if_pos hp]
 rw[if_neg (by simpa using hp),if_neg (not_not_intro hp)];by_cases h0:h.f4=0
 ·rw[if_pos (by simpa using h0),if_pos h0]
 rw[if_neg (by simpa using h0),if_neg h0];have lp:=v.pos.len;have ln:=v.neg.len;have sm:Sm p.f0 p.f1:=by unfold Z3e at hp;unfold Sm;omega
 rw[Za4 h (by omega) (by omega),sb,show Z2k.l0 h p.f0 p.f1 ((cells h).map rc) 0 0 0=_ from ref_below_l0 v f p.f0 p.f1 sm (cells h) [] 0 rfl rfl,sb]
end Go.Proofs.YtcilcefjcaimoaaGreat.PvGQ
namespace Go.Proofs.YtcilcefjcaimoaaGreat.PvGQ
open Go Go.Pv Go.Pv.GS Go.IntKind
theorem rwin_l0 (l:List Z06) (a b:Int) (hl:l.length<1000000):∀ (suf pre o:List Z06) (i:Int),l=pre++suf→i=(pre.length:Int)→o.length≤pre.length →
  Z2n.l0 l a b o i=some (o++suf.filter (Z79 a b)):=by
 intro suf
 induction suf with
 | nil=>intro pre o i h1 hi ho;rw[List.append_nil] at h1;subst h1;rw[Z2n.l0,if_neg (by simp[hi])];simp
 | cons s suf ih =>
  intro pre o i h1 hi ho;have hlen:l.length=pre.length+(suf.length+1):=by rw[h1];simp
  have hb:(((at? l i)>>=fun b2448=>if(decide (b2448.f0>a))=true then(some (decide (b2448.f0≤b))) else(some false)):Option (Bool))=some (Z79 a b s):=by
   rw[Z0t h1 hi,sb];unfold Z79;by_cases c:a<s.f0
   ·rw[if_pos (by simpa using c)];simp[c]
   ·rw[if_neg (by simpa using c)];simp[c]
  rw[Z2n.l0,if_pos (by simp;omega),hb,sb,Z0t h1 hi,sb,Zh (n:=i+1) (by omega) (by omega)];by_cases c:Z79 a b s=true
  ·rw[if_pos c,chkB (by simp;omega),sb,ih (pre++[s]) _ (i+1) (by simp[h1]) (by simp;omega) (by simp;omega),List.filter_cons,if_pos c]
   simp
  ·rw[if_neg c,sb,ih (pre++[s]) _ (i+1) (by simp[h1]) (by simp;omega) (by simp;omega),List.filter_cons,if_neg c]
theorem rwin_eq (l:List Z06) (a b:Int) (hl:l.length<1000000):Z2n.f l a b=some (l.filter (Z79 a b)):=by
 unfold Z2n.f;rw[rwin_l0 l a b hl l [] [] 0 rfl rfl (Nat.le_refl _),sb,List.nil_append]
abbrev toQ (a:Z1r):Z27:=⟨a.f0,a.f1,a.f2,⟨a.f3,a.f4⟩,a.f5,a.f6⟩
theorem rof_l0 (l:List Z06) (hl:l.length≤400):∀ (suf pre:List Z06) (o:List Z1) (i:Int),l=pre++suf→i=(pre.length:Int)→o.length=pre.length→Z4b.l0 l o i=some (o++suf.map (·.f1)):=by
 intro suf
 induction suf with
 | nil=>intro pre o i h1 hi ho;rw[List.append_nil] at h1;subst h1;rw[Z4b.l0,if_neg (by simp[hi])];simp
 | cons s suf ih =>
  intro pre o i h1 hi ho;have hlen:l.length=pre.length+(suf.length+1):=by rw[h1];simp
  rw[Z4b.l0,if_pos (by simp;omega),Z0t h1 hi,sb,chkB (by simp;omega),Zh (by omega) (by omega)];rw[ih (pre++[s]) (o++[s.f1]) (i+1) (by simp[h1]) (by simp;omega) (by simp[ho])];simp
theorem of_same (a:Z1r) (l:List Z06) (h:Lit l):∃ x e,Z2p.f (toQ a) l=some (x,e)∧Z4b.f a l=some (x,e)∧Z6f x∧(e=0→Z1b x∧Fits x):=by
 have hw:=h.filter (Z79 a.f5 a.f6);have hlen:=h.len;have hwl:=hw.len;obtain⟨x0,e0,E0,hx0⟩:=of_tot (toQ a) l h;by_cases h5:a.f0=5
 ·have hall:∀ x∈(l.filter (Z79   a.f5 a.f6)).map (·.f1),Z1b   x∧Fits x:=fun x hx=>by
   obtain⟨s,hs,rfl⟩:=List.mem_map.1 hx;exact hw.ok s hs
  obtain⟨r,e,e1,e2,hr⟩:=rise_same ((l.filter (Z79 a.f5 a.f6)).map (·.f1)) (by simp only[List.length_map];omega) hall;have h1:=of_rise (toQ a) l h h5;have e1':Z2p.f (toQ a) l=some (r,e):=h1.trans e1;rw[e1'] at E0;obtain⟨rfl,rfl⟩:=Prod.mk.inj (Option.some.inj E0);refine⟨r,e,e1',?_,?_,hx0⟩
  ·unfold      Z4b.f
   rw[rwin_eq l _ _ (by omega),sb,if_pos (by simpa using h5),rof_l0 _ hwl _ [] [] 0 rfl rfl rfl,sb,List.nil_append,e2,sb]
  ·rcases hr with rfl | hr
   ·simp[Z6f,h0]
   ·have:=hr.pos.len;have:=hr.neg.len;simp only[Z6f];omega
 ·rcases List.eq_nil_or_concat (l.filter (Z79   a.f5 a.f6)) with hn | ⟨P,p,hn⟩
  ·refine⟨⟨0,0,0,0,0,0,[],[]⟩,30,?_,?_,by simp[Z6f  ],by simp⟩
   ·unfold       Z2p.f
    rw[win_eq l (by omega),sb,if_neg (by simpa using h5)];dsimp only;rw[hn,if_pos (by simp)]
   ·unfold      Z4b.f
    rw[rwin_eq l _ _ (by omega),sb,if_neg (by simpa using h5),hn,if_pos (by simp)]
  ·simp only[List.concat_eq_append] at hn
   rw[hn] at hw hwl;have hp:=hw.ok p (by simp);have h6:=hp.1.pos.len;have h7:=hp.1.neg.len;simp only[List.length_append,List.length_cons,List.length_nil] at hwl;refine⟨p.f1,0,?_,?_,by simp only[Z6f];omega,fun _=>hp⟩
   ·unfold       Z2p.f
    rw[win_eq l (by omega),sb,if_neg (by simpa using h5)];dsimp only;rw[hn,if_neg (by simp<;>omega),Zh (by simp<;>omega) (by simp<;>omega),Z0t (pre:=P) (x:=p) (suf:=[]) (by simp) (by simp),sb,Z7f p.f1 (by omega) (by omega),sb]
   ·unfold      Z4b.f
    rw[rwin_eq l _ _ (by omega),sb,if_neg (by simpa using h5),hn,if_neg (by simp<;>omega),Zh (by simp<;>omega) (by simp<;>omega),Z0t (pre:=P) (x:=p) (suf:=[]) (by simp) (by simp),sb]
abbrev ra (x:Z7):Z2:=⟨x.f0,x.f1,x.f2,⟨x.f3.f0,x.f3.f1,x.f3.f2,0⟩,⟨x.f4.f0,x.f4.f1,x.f4.f2⟩⟩
theorem finish_same (a:Z1r) {h:Z1} (v:Z1b h) (f:Fits h) (hp:U64 a.f1) (ho:U64 a.f2) :
  ∃ x e,Z1i.f (toQ a) h=some (x,e)∧Z20.f a h=some (ra x,e)∧Z6f x.f0:=by
 have h6:=v.pos.len;have h7:=v.neg.len;have hsm:Z6f h:=by simp only[Z6f];omega
 have P:∀ x e,Z1i.f (toQ a) h=some (x,e)→Z20.f a h=some (ra x,e)→Z6f x.f0→∃ x e,Z1i.f (toQ a) h=some (x,e)∧Z20.f a h=some (ra x,e)∧Z6f x.f0 :=
  fun x e h1 h2 h3=>⟨x,e,h1,h2,h3⟩
 have z0:Z6f ans0.f0:=by simp[Z6f]
 by_cases h0:a.f0=0∨a.f0=5
 ·have hb:((if(a.f0==(0:Int))=true then(some (a.f0==(0:Int))) else(some (a.f0==(5:Int)))):Option Bool)=some true:=by
   rcases h0 with c | c<;>simp[c]
  refine P ⟨h,0,0,⟨0,0,0⟩,⟨0,0,0⟩⟩ 0 ?_ ?_ hsm
  ·unfold           Z1i.f
   dsimp only;rw[hb,sb,if_pos rfl,Z7f h (by omega) (by omega),sb,sb];dsimp only;rw[if_neg (by simp)]
  ·unfold          Z20.f
   rw[hb,sb,if_pos rfl]
 have hb:((if(a.f0==(0:Int))=true then(some (a.f0==(0:Int))) else(some (a.f0==(5:Int)))):Option Bool)=some false:=by
  have c1:¬ a.f0=0:=fun c=>h0 (.inl c);have c2:¬ a.f0=5:=fun c=>h0 (.inr c);simp[c1,c2]
 by_cases h1:a.f0=1
 ·refine P ⟨⟨0,0,0,0,0,0,[],[]⟩,h.f5,0,⟨0,0,0⟩,⟨0,0,0⟩⟩ 0 ?_ ?_ (by simp[Z6f  ])
  ·unfold           Z1i.f
   dsimp only;rw[hb,sb,if_neg (by simp),if_pos (by simpa using h1),sb];dsimp only;rw[sb];dsimp only;rw[if_neg (by simp)]
  ·unfold          Z20.f
   rw[hb,sb,if_neg (by simp),if_pos (by simpa using h1)]
 by_cases h2:a.f0=2
 ·refine P ⟨⟨0,0,0,0,0,0,[],[]⟩,0,h.f4,⟨0,0,0⟩,⟨0,0,0⟩⟩ 0 ?_ ?_ (by simp[Z6f  ])
  ·unfold           Z1i.f
   dsimp only;rw[hb,sb,if_neg (by simp),if_neg (by simpa using h1),if_pos (by simpa using h2),sb];dsimp only;rw[sb];dsimp only;rw[sb];dsimp only;rw[if_neg (by simp)]
  ·unfold          Z20.f
   rw[hb,sb,if_neg (by simp),if_neg (by simpa using h1),if_pos (by simpa using h2)]
 by_cases h3:a.f0=3
 ·obtain⟨k,n,e,e1,e2⟩:=quant_same v f hp ho
  have A:Z1i.f (toQ a) h=some (if e=0 then⟨⟨0,0,0,0,0,0,[],[]⟩,0,0,⟨k.f0,k.f1,k.f2⟩,⟨0,0,0⟩⟩ else ans0,e):=by
   unfold Z1i.f;dsimp only;rw[hb,sb,if_neg (by simp),if_neg (by simpa using h1),if_neg (by simpa using h2),if_pos (by simpa using h3),e1,sb,sb];dsimp only;rw[sb];dsimp only;rw[sb];dsimp only;rw[sb];dsimp only;by_cases he:e=0
   ·subst he;rw[if_neg (by simp),if_pos rfl]
   ·rw[if_pos (by simpa using he),if_neg he]
  have B:Z20.f a h=some (ra (if e=0 then⟨⟨0,0,0,0,0,0,[],[]⟩,0,0,⟨k.f0,k.f1,k.f2⟩,⟨0,0,0⟩⟩ else ans0),e):=by
   unfold Z20.f;rw[hb,sb,if_neg (by simp),if_neg (by simpa using h1),if_neg (by simpa using h2),if_pos (by simpa using h3),e2,sb];dsimp only;by_cases he:e=0
   ·subst he;rw[if_neg (by simp),if_pos rfl]
   ·rw[if_pos (by simpa using he),if_neg he]
  exact P _ _ A B (by split<;>simp[Z6f])
 by_cases h4:a.f0=4
 ·have e1:=below_eq v f (⟨a.f3,a.f4⟩:Z0e        )
  have e2:=ref_below_eq v f (⟨a.f3,a.f4⟩:Z0e);dsimp only at e2;obtain⟨p1,p2,p3,e,q1,q2⟩:∃ p1 p2 p3 e:Int,Z1z.f h (⟨a.f3,a.f4⟩:Z0e)=some (⟨p1,p2,p3⟩,e)∧Z2k.f h a.f3 a.f4=some (p1,p2,p3,e):=by
   rw[e1,e2];by_cases g1:¬ Z3e (⟨a.f3,a.f4⟩:Z0e)
   ·exact⟨0,0,0,1,by rw[if_pos g1];rfl,by rw[if_pos g1]⟩
   by_cases g2:h.f4=0
   ·exact⟨0,0,0,30,by rw[if_neg g1,if_pos g2];rfl,by rw[if_neg g1,if_pos g2]⟩
   ·exact⟨_,_,_,0,by rw[if_neg g1,if_neg g2],by rw[if_neg g1,if_neg g2]⟩
  have A:Z1i.f (toQ a) h=some (if e=0 then⟨⟨0,0,0,0,0,0,[],[]⟩,0,0,⟨0,0,0⟩,⟨p1,p2,p3⟩⟩ else ans0,e):=by
   unfold Z1i.f;dsimp only;rw[hb,sb,if_neg (by simp),if_neg (by simpa using h1),if_neg (by simpa using h2),if_neg (by simpa using h3),if_pos (by simpa using h4),q1,sb,sb];dsimp only;rw[sb];dsimp only;rw[sb];dsimp only;rw[sb];dsimp only;rw[sb];dsimp only;by_cases he:e=0
   ·subst he;rw[if_neg (by simp),if_pos rfl]
   ·rw[if_pos (by simpa using he),if_neg he]
  have B:Z20.f a h=some (ra (if e=0 then⟨⟨0,0,0,0,0,0,[],[]⟩,0,0,⟨0,0,0⟩,⟨p1,p2,p3⟩⟩ else ans0),e):=by
   unfold Z20.f;rw[hb,sb,if_neg (by simp),if_neg (by simpa using h1),if_neg (by simpa using h2),if_neg (by simpa using h3),if_pos (by simpa using h4),q2,sb];dsimp only;by_cases he:e=0
   ·subst he;rw[if_neg (by simp),if_pos rfl]
   ·rw[if_pos (by simpa using he),if_neg he]
  exact P _ _ A B (by split<;>simp[Z6f])
 ·refine P ans0 1 ?_ ?_ z0
  ·unfold           Z1i.f
   dsimp only;rw[hb,sb,if_neg (by simp),if_neg (by simpa using h1),if_neg (by simpa using h2),if_neg (by simpa using h3),if_neg (by simpa using h4),sb];dsimp only;rw[sb];dsimp only;rw[sb];dsimp only;rw[sb];dsimp only;rw[sb];dsimp only;rw[if_pos (by simp)]
  ·unfold          Z20.f
   rw[hb,sb,if_neg (by simp),if_neg (by simpa using h1),if_neg (by simpa using h2),if_neg (by simpa using h3),if_neg (by simpa using h4)]
theorem sums2_l0 (l:List Z1) (hl:l.length<1000000) (hv:∀ h∈l,Z1b h∧Fits h):∀ (suf pre:List Z1) (o:Z1) (i:Int),l.drop 1=pre++suf→i=(pre.length:Int)→0<l.length→Z1b o→Fits o →
  ∃ r,Z34.l0 l (o.f0,o.f1,o.f2,o.f3,o.f4,o.f5,o.f6,o.f7,i)=some r∧Z3r.l0 l (o.f0,o.f1,o.f2,o.f3,o.f4,o.f5,o.f6,o.f7,i+1)=some r∧((∃ e,e≠0∧r = .inl (h0,e))∨∃ o':Z1,r = .inr (o'.f0,o'.f1,o'.f2,o'.f3,o'.f4,o'.f5,o'.f6,o'.f7)∧Z1b o'∧Fits o'):=by
 intro suf
 induction suf with
 | nil =>
  intro pre o i h1 hi hp vo fo;have hlen:l.length=pre.length+1:=by have:=congrArg List.length h1;simp at this;omega
  refine⟨_,?_,?_,.inr ⟨o,rfl,vo,fo⟩⟩
  ·rw[       Z34.l0]
   try dsimp only
   rw[if_neg (by simp;omega)]
  ·rw[      Z3r.l0]
   try dsimp only
   rw[if_neg (by simp;omega)]
 | cons x suf ih =>
  intro pre o i h1 hi hp vo fo;have hlen:l.length=pre.length+(suf.length+1)+1:=by have:=congrArg List.length h1;simp at this;omega
  have hx:x∈l:=List.mem_of_mem_drop (i:=1) (by rw[h1];simp);have vx:=hv x hx;have htake:(l.drop (Int.toNat (1:Int))).take (Int.toNat (l.length:Int)-Int.toNat (1:Int))=l.drop 1:=by
   simp only[Int.toNat_one,Int.toNat_natCast];rw[List.take_of_length_le (by simp)]
  have hat2:at? l (i+1)=some x:=by
   obtain⟨z,l',rfl⟩:∃ z l',l=z::l':=by
    cases l with
    | nil=>simp at hp
    | cons z l'=>exact⟨z,l',rfl⟩
   simp only[List.drop_succ_cons,List.drop_zero] at h1;exact Z0t (pre:=z::pre) (suf:=suf) (by simp[h1]) (by simp;omega)
  obtain⟨r,e',A1,A2,hA⟩:=add_any o x vo fo vx.1 vx.2;have P:Z34.l0 l (o.f0,o.f1,o.f2,o.f3,o.f4,o.f5,o.f6,o.f7,i)=if e'=0 then Z34.l0 l (r.f0,r.f1,r.f2,r.f3,r.f4,r.f5,r.f6,r.f7,i+1) else some (.inl (h0,e')):=by
   conv=>lhs;rw[Z34.l0]
   try dsimp only
   rw[htake,if_pos (by simp;omega),Z0t h1 hi,sb,A1,sb,Zh (n:=i+1) (by omega) (by omega)];by_cases h:e'=0<;>simp[h,h0]
  have R:Z3r.l0 l (o.f0,o.f1,o.f2,o.f3,o.f4,o.f5,o.f6,o.f7,i+1)=if e'=0 then Z3r.l0 l (r.f0,r.f1,r.f2,r.f3,r.f4,r.f5,r.f6,r.f7,i+1+1) else some (.inl (h0,e')):=by
   conv=>lhs;rw[Z3r.l0]
   try dsimp only
   rw[if_pos (by simp;omega),hat2,sb,A2,sb,Zh (n:=i+1+1) (by omega) (by omega)];by_cases h:e'=0<;>simp[h,h0]
  rw[P,R];rcases hA with ⟨rfl,vr,fr⟩ | ⟨rfl,he⟩
  ·rw[if_pos rfl,if_pos rfl];exact ih (pre++[x]) r (i+1) (by simp[h1]) (by simp;omega) hp vr fr
  ·rw[if_neg he,if_neg he];exact⟨_,rfl,rfl,.inl ⟨_,he,rfl⟩⟩
theorem sum_same2 (l:List Z1) (hl:l.length<1000000) (hv:∀ h∈l,Z1b h∧Fits h):∃ r e,Z34.f l=some (r,e)∧Z3r.f l=some (r,e)∧(e=0→Z1b r∧Fits r):=by
 unfold Z34.f Z3r.f;cases l with
 | nil=>exact⟨_,_,rfl,rfl,fun h=>absurd h (by decide)⟩
 | cons x l =>
  have vx:=hv x (by simp);have hlx:=Zco (.inr vx.1);rw[if_neg (by simp;omega),if_neg (by simp;omega),show at? (x::l) 0=some x from rfl,sb,sb,Z7f x hlx.1 hlx.2,sb,chkB (by simp;omega)];obtain⟨r,r1,r2,hr⟩:=sums2_l0 (x::l) hl hv l [] x 0 rfl rfl (by simp) vx.1 vx.2;rw[r1,show(1:Int)=0+1 from rfl,r2,sb];rcases hr with ⟨e,he,rfl⟩ | ⟨o,rfl,vo,fo⟩
  ·exact⟨_,_,rfl,rfl,fun h=>absurd h he⟩
  ·exact⟨_,_,rfl,rfl,fun _=>⟨vo,fo⟩⟩
abbrev gone (a:Z1r) (j:Bool) (n:List ByteArray) (g:List Zr):=Z0p.f a.f0 a.f1 a.f2 a.f3 a.f4 a.f5 a.f6 j n g
theorem one_l0 (a:Z1r) (j:Bool) (n:List ByteArray) (l:List Zr) (hl:l.length≤400) (hL:∀ s∈l,Lit s.f1):∀ (suf pre:List Zr) (o:List Z1) (i:Int),l=pre++suf→i=(pre.length:Int)→o.length≤pre.length→(∀ h∈o,Z1b h∧Fits h) →
  (∃ e,e≠0∧Z0p.l0 a.f0 a.f1 a.f2 a.f3 a.f4 a.f5 a.f6 j n l o i=some (.inl (ans0,e))∧Z3g.l0 a l o i=some (.inl (ra ans0,e))) ∨
  (∃ o',o'.length≤l.length∧(∀ h∈o',Z1b h∧Fits h)∧Z0p.l0 a.f0 a.f1 a.f2 a.f3 a.f4 a.f5 a.f6 j n l o i=some (.inr o')∧Z3g.l0 a l o i=some (.inr o')):=by
 intro suf
 induction suf with
 | nil =>
  intro pre o i h1 hi ho hv;rw[List.append_nil] at h1;subst h1;rw[Z0p.l0,if_neg (by simp[hi]),Z3g.l0,if_neg (by simp[hi])];exact .inr ⟨o,ho,hv,rfl,rfl⟩
 | cons s suf ih =>
  intro pre o i h1 hi ho hv;have hlen:l.length=pre.length+(suf.length+1):=by rw[h1];simp
  obtain⟨x,e,e1,e2,_,hx⟩:=of_same a s.f1 (hL s (by rw[h1];simp));have e1':Z2p.f (⟨a.f0,a.f1,a.f2,(⟨a.f3,a.f4⟩:Z0e),a.f5,a.f6⟩:Z27) s.f1=some (x,e):=e1;have hch:(o.length+[x].length)*96≤140737488355328:=by simp;omega
  have A:Z0p.l0 a.f0 a.f1 a.f2 a.f3 a.f4 a.f5 a.f6 j n l o i=if e=30∧l.length>1 then Z0p.l0 a.f0 a.f1 a.f2 a.f3 a.f4 a.f5 a.f6 j n l o (i+1) else if e≠0 then some (.inl (ans0,e)) else Z0p.l0 a.f0 a.f1 a.f2 a.f3 a.f4 a.f5 a.f6 j n l (o++[x]) (i+1):=by
   conv=>lhs;rw[Z0p.l0]
   rw[if_pos (by simp;omega),Z0t h1 hi,sb,e1',sb,Zh (by omega) (by omega)];dsimp only;by_cases h30:e=30
   ·subst h30
    by_cases hb:l.length>1
    ·rw[if_pos (by simp),sb,if_pos (by simp;omega),sb,if_pos ⟨rfl,hb⟩]
    ·rw[if_pos (by simp),sb,if_neg (by simp;omega),if_pos (by simp),sb,if_neg (fun h=>hb h.2),if_pos (by decide)]
   ·rw[if_neg (show ¬ (e=30∧l.length>1) from fun h=>h30 h.1),if_neg (show ¬ ((e==(30:Int))=true) by simpa using h30),sb,if_neg (show ¬ (false=true) by simp)]
    by_cases h0:e=0
    ·rw[if_neg (show ¬ (e≠0) from fun h=>h h0),if_neg (show ¬ ((e != (0:Int))=true) by simpa using h0),chkB hch,sb]
    ·rw[if_pos (show e≠0 from h0),if_pos (show(e != (0:Int))=true by simpa using h0),sb]
  have R:Z3g.l0 a l o i=if e=30∧l.length>1 then Z3g.l0 a l o (i+1) else if e≠0 then some (.inl (ra ans0,e)) else Z3g.l0 a l (o++[x]) (i+1):=by
   conv=>lhs;rw[Z3g.l0]
   rw[if_pos (by simp;omega),Z0t h1 hi,sb,e2,sb,Zh (by omega) (by omega)];dsimp only;by_cases h30:e=30
   ·subst h30
    by_cases hb:l.length>1
    ·rw[if_pos (by simp),sb,if_pos (by simp;omega),sb,if_pos ⟨rfl,hb⟩]
    ·rw[if_pos (by simp),sb,if_neg (by simp;omega),if_pos (by simp),sb,if_neg (fun h=>hb h.2),if_pos (by decide)]
   ·rw[if_neg (show ¬ (e=30∧l.length>1) from fun h=>h30 h.1),if_neg (show ¬ ((e==(30:Int))=true) by simpa using h30),sb,if_neg (show ¬ (false=true) by simp)]
    by_cases h0:e=0
    ·rw[if_neg (show ¬ (e≠0) from fun h=>h h0),if_neg (show ¬ ((e != (0:Int))=true) by simpa using h0),chkB hch,sb]
    ·rw[if_pos (show e≠0 from h0),if_pos (show(e != (0:Int))=true by simpa using h0),sb]
  rw[A,R];by_cases c1:e=30∧l.length>1
  ·rw[if_pos c1,if_pos c1]
   exact ih (pre++[s]) o (i+1) (by simp[h1]) (by simp;omega) (by simp;omega) hv
  ·rw[if_neg c1,if_neg c1]
   by_cases h0:e=0
   ·rw[if_neg (by simpa using h0),if_neg (by simpa using h0)]
    refine ih (pre++[s]) (o++[x]) (i+1) (by simp[h1]) (by simp;omega) (by simp;omega) (fun h hh => ?_);rcases List.mem_append.1 hh with hh | hh
    ·exact hv h hh
    ·simp at hh;subst hh;exact hx h0
   ·rw[if_pos h0,if_pos h0]
    exact .inl ⟨e,h0,rfl,rfl⟩
theorem one_same (a:Z1r) (j:Bool) (n:List ByteArray) (l:List Zr) (hl:l.length≤400) (hL:∀ s∈l,Lit s.f1) (hp:U64 a.f1) (ho:U64 a.f2) :
  ∃ x e,gone a j n l=some (x,e)∧Z3g.f a l=some (ra x,e)∧Z6f x.f0:=by
 unfold gone Z0p.f Z3g.f;rcases one_l0 a j n l hl hL l [] [] 0 rfl rfl (Nat.le_refl _) (fun h hh=>nomatch hh) with ⟨e,he,e1,e2⟩ | ⟨o,hol,hov,e1,e2⟩
 ·rw[e1,e2,sb,sb]
  exact⟨ans0,e,rfl,rfl,by simp[Z6f]⟩
 ·rw[e1,e2,sb,sb]
  dsimp only;obtain⟨r,e,s1,s2,hr⟩:=sum_same2 o (by omega) hov;rw[s1,s2,sb,sb];dsimp only;by_cases h0:e=0
  ·obtain⟨v,f⟩:=hr h0
   obtain⟨x,e',f1,f2,f3⟩:=finish_same a v f hp ho;rw[if_neg (by simpa using h0),if_neg (by simpa using h0),show Z1i.f (⟨a.f0,a.f1,a.f2,(⟨a.f3,a.f4⟩:Z0e),a.f5,a.f6⟩:Z27) r=some (x,e') from f1,f2,sb,sb];exact⟨x,e',rfl,rfl,f3⟩
  ·rw[if_pos (by simpa using h0),if_pos (by simpa using h0)]
   exact⟨ans0,e,rfl,rfl,by simp[Z6f]⟩
def oneP (a:Z1r) (j:Bool) (n:List ByteArray) (g:List Zr):Z7×Int:=(gone a j n g).getD (ans0,0)
theorem oneP_eq (a:Z1r) (j:Bool) (n:List ByteArray) (l:List Zr) (hl:l.length≤400) (hL:∀ s∈l,Lit s.f1) (hp:U64 a.f1) (ho:U64 a.f2) :
  gone a j n l=some (oneP a j n l)∧Z3g.f a l=some (ra (oneP a j n l).1,(oneP a j n l).2)∧Z6f (oneP a j n l).1.f0:=by
 obtain⟨x,e,e1,e2,e3⟩:=one_same a j n l hl hL hp ho;have:oneP a j n l=(x,e):=by unfold oneP;rw[e1];rfl
 rw[this];exact⟨e1,e2,e3⟩
def rowP (a:Z1r) (j:Bool) (n:List ByteArray) (l:List Zr) (k:List Zo):Z2w:=⟨k,(oneP a j n (grp (fun s=>keyL j n s.f0) l k)).1,(oneP a j n (grp (fun s=>keyL j n s.f0) l k)).2⟩
structure Ser (l:List Zr):Prop where
 len:l.length≤400
 lab:∀ s∈l,s.f0.length≤1048576
 lit:∀ s∈l,Lit s.f1
theorem of_rows (a:Z1r) (j:Bool) (n:List ByteArray) (hn:n.length<1000000) (l:List Zr) (h:Ser l) (hp:U64 a.f1) (ho:U64 a.f2) (ks:List (List Zo)) (hk:Keys (fun s=>keyL j n s.f0) l ks):∀ (suf pre:List (List Zo)) (i:Int),ks=pre++suf→i=(pre.length:Int) →
  Z0w.l0 a.f0 a.f1 a.f2 a.f3 a.f4 a.f5 a.f6 j n (ks.map (grp (fun s=>keyL j n s.f0) l)) (pre.map (rowP a j n l)) i=some (ks.map (rowP a j n l)):=by
 intro suf;have hlk:=hk.len;have hll:=h.len
 induction suf with
 | nil=>intro pre i h1 hi;rw[Z0w.l0,if_neg (by rw[h1];simp[hi]),h1,List.append_nil]
 | cons k suf ih =>
  intro pre i h1 hi;have hlen:ks.length=pre.length+(suf.length+1):=by rw[h1];simp
  have hk1:k∈ks:=by rw[h1];simp
  obtain⟨s,t,g1,g2,g3⟩:=hk.ne hk1;obtain⟨o1,o2,o3⟩:=oneP_eq a j n (grp (fun s=>keyL j n s.f0) l k) (Nat.le_trans (Zbo ..) h.len) (fun s hs=>h.lit s (Z9s hs).1) hp ho;have hg:(ks.map (grp (fun s=>keyL j n s.f0) l))[pre.length]? = some (grp (fun s=>keyL j n s.f0) l k):=by
   rw[List.getElem?_map,h1,List.getElem?_append_right (Nat.le_refl _)];simp
  have hs0:at? (grp (fun s=>keyL j n s.f0) l k) 0=some s:=by rw[g1];rfl
  have hkl:k.length≤1048576:=by
   have:=Zaq j n s.f0;have:=h.lab s g3;have g2':keyL j n s.f0=k:=g2;rw[← g2'];omega
  rw[Z0w.l0,if_pos (by simp;omega),Z6c hi hg,sb,show Z0p.f a.f0 a.f1 a.f2 a.f3 a.f4 a.f5 a.f6 j n (grp (fun s=>keyL j n s.f0) l k)=_ from o1,sb,hs0,sb,
   gkey _ _ _ _ _ _ _ j n s (h.lab s g3) hn,sb,show keyL j n s.f0=k from g2,clone_l k (by unfold Fit;omega),sb,chkB (by simp;omega),Zh (by omega) (by omega)]
  have:=ih (pre++[k]) (i+1) (by simp[h1]) (by simp;omega);rw[List.map_append] at this;exact this
theorem of_eq (a:Z1r) (j:Bool) (n:List ByteArray) (hn:n.length<1000000) (l:List Zr) (h:Ser l) (hp:U64 a.f1) (ho:U64 a.f2) (hk0:0≤a.f0∧a.f0≤5) :
  ∃ ks,Keys (fun s=>keyL j n s.f0) l ks∧Z0w.f a.f0 a.f1 a.f2 a.f3 a.f4 a.f5 a.f6 j n l=some (ks.map (rowP a j n l),0):=by
 obtain⟨ks,hk,e⟩:=groups_spec a.f0 a.f1 a.f2 a.f3 a.f4 a.f5 a.f6 j n hn l (by have:=h.len;omega) h.lab;refine⟨ks,hk,?_⟩;unfold Z0w.f;rw[if_neg (by simp;omega),sb,if_neg (by simp;omega),e,sb];have:=of_rows a j n hn l h hp ho ks hk ks [] 0 rfl rfl;rw[List.map_nil] at this;rw[this,sb]
end Go.Proofs.YtcilcefjcaimoaaGreat.PvGQ
