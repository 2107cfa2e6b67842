import Derived.Test.YtpoihfcehejgfaaGreatPxBlockReads17
set_option linter.unusedVariables false
set_option linter.unusedSimpArgs false
set_option maxRecDepth 10000
namespace Go.Proofs.YtpoihfcehejgfaaGreat.PvGS2
open Go Go.Pv Go.Pv.GS Go.IntKind
open Classical
def Cov (a b:List Z0):Prop:=∀ i,tot b i≤tot a i
theorem less_l1 (a0:List Z0) (x:Z0) (b o:List Z0) (i:Int):Z15.l1 a0 x b o i ()=some (match b with
  | []=>.inr ()
  | y::_=>if y.f0<x.f0 then .inl ([],false) else .inr ()):=by
 unfold Z15.l1;cases b with
 | nil=>rw[if_neg (by simp),sb,if_neg (by simp)]
 | cons y b =>
  rw[if_pos (by simp),show at? (y::b) 0=some y from rfl,sb,sb];by_cases h:y.f0<x.f0
  ·rw[if_pos (by simpa using h)];simp[h]
  ·rw[if_neg (by simpa using h)];simp[h]
structure Left (s z:Int) (o:List Z0):Prop where
 ok:∀ b∈o,InS s b.f0∧0≤b.f1∧z≤(b.f0-1)*stp s
 u64:∀ b∈o,U64 b.f1
theorem less_l0 (s z:Int) (a:List Z0) (hl:a.length<1000000):∀ (suf pre b o:List Z0) (i:Int),a=pre++suf→i=(pre.length:Int)→Z3p suf→Z3p b→(∀ y∈suf,BOk s z y∧U64 y.f1)→(∀ y∈b,U64 y.f1)→b.length<1000000→o.length≤pre.length →
  (∃ b' o',Z15.l0 a b o i=some (.inr (b',o++o'))∧(b'=[]↔Cov suf b)∧(b'=[]→∀ i,tot o' i=tot suf i-tot b i)∧Left s z o'∧o'.length≤suf.length) ∨
  (Z15.l0 a b o i=some (.inl ([],false))∧¬ Cov suf b):=by
 intro suf
 induction suf with
 | nil =>
  intro pre b o i h1 hi _ hb _ _ _ _;rw[List.append_nil] at h1;subst h1;rw[Z15.l0,if_neg (by simp[hi])];refine .inl ⟨b,[],by simp,?_,fun h=>by subst h;simp[tot],⟨by simp,by simp⟩,by simp⟩;constructor
  ·intro h;subst h;intro i;simp[tot]
  ·intro h
   cases b with
   | nil=>rfl
   | cons y b =>
    have h1:=h y.f0;rw[hb.tot_head] at h1;have:=hb.pos y (by simp);simp[tot] at h1;omega
 | cons x suf ih =>
  intro pre b o i h1 hi hs hb hxs hbs hbl ho;have hlen:(a.length:Int)=pre.length+(suf.length+1):=by rw[h1];simp
  have hx:=hxs x (by simp);have hxp:=hs.pos x (by simp);have e1:a=(pre++[x])++suf:=by simp[h1]
  have e2:i+1=((pre++[x]).length:Int):=by simp;omega
  have hsx:=hs.tail;have hxlow:∀ i,i≤x.f0→tot suf i=0:=fun i hi=>tot_zero (fun c hc=>by have:=(List.pairwise_cons.1 hs.up).1 c hc;omega)
  rw[Z15.l0,if_pos (by simp;omega),Z06 h1 hi,sb,less_l1,sb];have keep:(∀ i,tot b i=if i=x.f0 then 0 else tot b i)→(((chk ((o.length+[(⟨x.f0,x.f1⟩:Z0)].length)*16≤140737488355328))>>=fun _=>Z15.l0 a b (o++[(⟨x.f0,x.f1⟩:Z0)]) (i64.wrap (i+1)))=Z15.l0 a b (o++[x]) (i+1)) ∧
    ((∃ b' o',         Z15.l0 a b (o ++ [x]) (i + 1) = some (.inr (b', o ++ o')) ∧ (b' = [] ↔ Cov (x :: suf) b) ∧ (b' = [] → ∀ i, tot o' i = tot (x :: suf) i - tot b i) ∧ Left s z o' ∧ o'.length ≤ (x :: suf).length) ∨
      (Z15.l0 a b (o++[x]) (i+1)=some (.inl ([],false))∧¬ Cov (x::suf) b)):=by
   intro hb0;have hcov:Cov (x::suf) b↔Cov suf b:=by
    constructor
    ·intro h i
     have:=h i;by_cases hi:i=x.f0
     ·have h0:=hb0 i;rw[if_pos hi] at h0
      have:=hxlow i (by omega);omega
     ·rw[tot,if_neg (fun e=>hi e.symm)] at this;omega
    ·intro h i
     have:=h i;rw[tot];split<;>omega
   refine⟨by rw[chkB (by simp;omega),Z8 (by omega) (by omega)],?_⟩;rcases ih (pre++[x]) b (o++[x]) (i+1) e1 e2 hsx hb (fun y hy=>hxs y (by simp[hy])) hbs hbl (by simp;omega) with ⟨b',o',g1,g2,g3,g4,g5⟩ | ⟨g1,g2⟩
   ·refine .inl ⟨b',x::o',by rw[g1];simp,by rw[hcov];exact g2,fun h i=>by rw[tot,tot,g3 h i];omega,⟨fun y hy => ?_,fun y hy => ?_⟩,by simp;omega⟩
    ·rcases List.mem_cons.1 hy with rfl | hy
     ·exact⟨hx.1.ins,Int.le_of_lt hx.1.pos,hx.1.low⟩
     ·exact g4.ok y hy
    ·rcases List.mem_cons.1 hy with rfl | hy
     ·exact hx.2
     ·exact g4.u64 y hy
   ·exact .inr ⟨g1,by rw[hcov];exact g2⟩
  cases b with
  | nil =>
   obtain⟨k1,k2⟩:=keep (fun i=>by simp[tot]);simp only[];rw[if_neg (by simp),sb,if_neg (by simp),sb];simp only[];rw[k1];exact k2
  | cons y b =>
   have hyp:=hb.pos y (by simp);simp only[];by_cases h:y.f0<x.f0
   ·rw[if_pos h]
    refine .inr ⟨rfl,fun hc => ?_⟩;have:=hc y.f0;rw[hb.tot_head,hs.tot_low h] at this;omega
   rw[if_neg h];simp only[];rw[if_pos (by simp),show at? (y::b) 0=some y from rfl,sb,sb];by_cases he:y.f0=x.f0
   case neg =>
    obtain⟨k1,k2⟩:=keep (fun i=>by
     by_cases hi:i=x.f0
     ·rw[if_pos hi,hb.tot_low (by omega)]
     ·rw[if_neg hi])
    rw[if_neg (by simpa using he),sb];simp only[];rw[k1];exact k2
   rw[if_pos (by simpa using he),sb];by_cases hgt:y.f1>x.f1
   ·rw[if_pos (by simpa using hgt),sb]
    refine .inr ⟨rfl,fun hc => ?_⟩;have h2:=hc y.f0;rw[hb.tot_head] at h2;rw[he,hs.tot_head] at h2;omega
   rw[if_neg (by simpa using hgt),chkB (by simp;omega),sb];simp only[];have hdrop:(List.drop (Int.toNat (1:Int)) (y::b)).take (Int.toNat (((y::b).length:Int))-Int.toNat (1:Int))=b:=by
    simp
   rw[hdrop,Z2l (by omega) (by have:=hx.2;omega),chkB (by simp;omega),Z8 (by omega) (by omega)];have hblow:∀ i,i≤y.f0→tot b i=0:=fun i hi=>tot_zero (fun c hc=>by have:=(List.pairwise_cons.1 hb.up).1 c hc;omega)
   have hcov:Cov (x::suf) (y::b)↔Cov suf b:=by
    constructor
    ·intro h i
     have:=h i;simp only[tot] at this;by_cases hi:i=x.f0
     ·rw[hblow i (by omega),hxlow i (by omega)];omega
     ·rw[if_neg (by omega),if_neg (fun e=>hi e.symm)] at this;omega
    ·intro h i
     have:=h i;simp only[tot];by_cases hi:i=x.f0
     ·rw[if_pos (by omega),if_pos hi.symm,hblow i (by omega),hxlow i (by omega)];omega
     ·rw[if_neg (by omega),if_neg (fun e=>hi e.symm)];omega
   rcases ih (pre++[x]) b (o++[⟨x.f0,x.f1-y.f1⟩]) (i+1) e1 e2 hsx hb.tail (fun y hy=>hxs y (by simp[hy])) (fun c hc=>hbs c (by simp[hc])) (by simp at hbl;omega) (by simp;omega) with ⟨b',o',g1,g2,g3,g4,g5⟩ | ⟨g1,g2⟩
   ·refine .inl ⟨b',⟨x.f0,x.f1-y.f1⟩::o',by rw[g1];simp,by rw[hcov];exact g2,fun h i => ?_,⟨fun c hc => ?_,fun c hc => ?_⟩,by simp;omega⟩
    ·simp only[tot]
     rw[g3 h i];by_cases hi:x.f0=i
     ·rw[if_pos hi,if_pos hi,if_pos (by omega)];omega
     ·rw[if_neg hi,if_neg hi,if_neg (by omega)];omega
    ·rcases List.mem_cons.1 hc with rfl | hc
     ·exact⟨hx.1.ins,by simp;omega,hx.1.low⟩
     ·exact g4.ok c hc
    ·rcases List.mem_cons.1 hc with rfl | hc
     ·have:=hx.2;constructor<;>simp<;>omega
     ·exact g4.u64 c hc
   ·exact .inr ⟨g1,by rw[hcov];exact g2⟩
theorem less_eq (s z:Int) (a b:List Z0) (ha:Z3p a) (hb:Z3p b) (hxs:∀ y∈a,BOk s z y∧U64 y.f1) (hbs:∀ y∈b,U64 y.f1) (hl:a.length<1000000) (hbl:b.length<1000000) :
  ∃ o ok,Z15.f a b=some (o,ok)∧(ok=true↔Cov a b)∧(ok=true→∀ i,tot o i=tot a i-tot b i)∧(ok=true→Left s z o)∧o.length≤a.length:=by
 unfold Z15.f;rcases less_l0 s z a hl a [] b [] 0 rfl rfl ha hb hxs hbs hbl (Nat.le_refl _) with ⟨b',o',g1,g2,g3,g4,g5⟩ | ⟨g1,g2⟩
 ·rw[g1,sb]
  have hok:((b'.length:Int)==(0:Int))=true↔b'=[]:=by simp
  exact⟨o',_,by simp,by rw[hok,g2],fun h=>g3 (hok.1 h),fun _=>g4,g5⟩
 ·rw[g1,sb]
  exact⟨[],false,rfl,by simp[g2],by simp,by simp,by simp⟩
theorem rat_l0 (l:List Z0) (k:Int) (hl:l.length<1000000):∀ (suf pre:List Z0) (i:Int),l=pre++suf→i=(pre.length:Int)→Z3p suf→∃ r,Z3s.l0 l k i=some r∧(match r with | .inl v=>v=tot suf k | .inr _=>tot suf k=0):=by
 intro suf
 induction suf with
 | nil=>intro pre i h1 hi _;rw[List.append_nil] at h1;subst h1;rw[Z3s.l0,if_neg (by simp[hi])];exact⟨_,rfl,rfl⟩
 | cons x suf ih =>
  intro pre i h1 hi hc;have hlen:(l.length:Int)=pre.length+(suf.length+1):=by rw[h1];simp
  rw[Z3s.l0,if_pos (by simp;omega),Z06 h1 hi,sb];by_cases h:x.f0=k
  ·subst h
   rw[if_pos (by simp)];exact⟨_,rfl,hc.tot_head.symm⟩
  ·rw[if_neg (by simpa using h),Z8     (by omega) (by omega)]
   obtain⟨r,e,hr⟩:=ih (pre++[x]) (i+1) (by simp[h1]) (by simp;omega) hc.tail;refine⟨r,e,?_⟩;cases r with
   | inl v=>simp only[tot] at hr ⊢;rw[if_neg h];omega
   | inr u=>simp only[tot] at hr ⊢;rw[if_neg h];omega
theorem rat_eq (l:List Z0) (k:Int) (hl:l.length<1000000) (hc:Z3p l):Z3s.f l k=some (tot l k):=by
 unfold Z3s.f;obtain⟨r,e,hr⟩:=rat_l0 l k hl l [] 0 rfl rfl hc;rw[e,sb];cases r with
 | inl v=>simp only[] at hr ⊢;rw[hr]
 | inr u=>simp only[] at hr ⊢;rw[hr]
theorem off_l0 (a b:List Z0) (ha:Z3p a) (hl:a.length<1000000) (hbl:b.length<1000000):∀ (suf pre:List Z0) (i:Int),b=pre++suf→i=(pre.length:Int) →
  Z2a.l0 a b i=some (if ∀ y∈suf,y.f1≤tot a y.f0 then .inr () else .inl ([],false)):=by
 intro suf
 induction suf with
 | nil=>intro pre i h1 hi;rw[List.append_nil] at h1;subst h1;rw[Z2a.l0,if_neg (by simp[hi]),if_pos (by simp)]
 | cons x suf ih =>
  intro pre i h1 hi;have hlen:(b.length:Int)=pre.length+(suf.length+1):=by rw[h1];simp
  rw[Z2a.l0,if_pos (by simp;omega),Z06 h1 hi,sb,rat_eq a _ hl ha,sb];by_cases h:tot a x.f0<x.f1
  ·rw[if_pos (by simpa using h),if_neg (fun q=>by have:=q x (by simp);omega)]
  ·rw[if_neg (by simpa using h),Z8     (by omega) (by omega),ih (pre++[x]) (i+1) (by simp[h1]) (by simp;omega)]
   by_cases h2:∀ y∈suf,y.f1≤tot a y.f0
   ·rw[if_pos h2,if_pos (fun y hy=>by
     rcases List.mem_cons.1 hy with rfl | hy
     ·omega
     ·exact h2 y hy)]
   ·rw[if_neg h2,if_neg (fun q=>h2 (fun y hy=>q y (by simp[hy])))]
theorem cov_iff {a b:List Z0} (ha:Z3p a) (hb:Z3p b):Cov a b↔∀ y∈b,y.f1≤tot a y.f0:=by
 constructor
 ·intro h y hy;have:=h y.f0;rw[hb.tot_of hy] at this;exact this
 ·intro h i
  by_cases hc:∃ y∈b,y.f0=i
  ·obtain⟨y,hy,rfl⟩:=hc;rw[hb.tot_of hy];exact h y hy
  ·rw[tot_zero (fun y hy e=>hc ⟨y,hy,e⟩)];exact Z72 ha.nn i
theorem off_l1 (a b:List Z0) (hb:Z3p b) (hl:a.length<1000000) (hbl:b.length<1000000) (hc:Cov a b) (hau:∀ y∈a,U64 y.f1) (ha:Z3p a):∀ (suf pre o:List Z0) (i:Int),a=pre++suf→i=(pre.length:Int)→Z3p o→(∀ x∈o,∃ y∈pre,y.f0=x.f0)→(∀ y∈pre,tot o y.f0=tot a y.f0-tot b y.f0)→o.length≤pre.length →
  ∃ o',Z2a.l1 a b o i=some o'∧Z3p o'∧(∀ x∈o',∃ y∈a,y.f0=x.f0)∧(∀ y∈a,tot o' y.f0=tot a y.f0-tot b y.f0):=by
 intro suf
 induction suf with
 | nil =>
  intro pre o i h1 hi ho hos hot _;rw[List.append_nil] at h1;subst h1;rw[Z2a.l1,if_neg (by simp[hi])];exact⟨o,rfl,ho,hos,hot⟩
 | cons x suf ih =>
  intro pre o i h1 hi ho hos hot hol;have hlen:(a.length:Int)=pre.length+(suf.length+1):=by rw[h1];simp
  have e1:a=(pre++[x])++suf:=by simp[h1]
  have e2:i+1=((pre++[x]).length:Int):=by simp;omega
  have hxa:x∈a:=by rw[h1];simp
  have htx:tot a x.f0=x.f1:=ha.tot_of hxa;have hxu:=hau x hxa;have hcx:=hc x.f0;have hbn:=Z72 hb.nn x.f0;have hpre:∀ y∈pre,y.f0<x.f0:=fun y hy=>by
   have:=ha.up;rw[h1] at this;exact(List.pairwise_append.1 this).2.2 y hy x (by simp)
  have hox:∀ c∈o,c.f0<x.f0:=fun c hc=>by obtain⟨y,hy,e⟩:=hos c hc;have:=hpre y hy;omega
  have ho0:tot o x.f0=0:=tot_zero (fun c hc=>by have:=hox c hc;omega);rw[Z2a.l1,if_pos (by simp;omega),Z06 h1 hi,sb,rat_eq b _ hbl hb,sb,Z2l (by omega) (by omega),Z8 (by omega) (by omega)];by_cases hpos:x.f1-tot b x.f0>0
  ·rw[if_pos (by simpa using hpos),chkB (by simp;omega),sb]
   refine ih (pre++[x]) _ (i+1) e1 e2 ⟨List.pairwise_append.2 ⟨ho.up,List.pairwise_singleton _ _,fun c hc y hy=>by simp at hy;subst hy;exact hox c hc⟩,fun c hc => ?_⟩ (fun c hc => ?_) (fun y hy => ?_) (by simp;omega)
   ·rcases List.mem_append.1 hc with hc | hc
    ·exact ho.pos c hc
    ·simp at hc;subst hc;simpa using hpos
   ·rcases List.mem_append.1 hc with hc | hc
    ·obtain⟨y,hy,e⟩:=hos c hc;exact⟨y,by simp[hy],e⟩
    ·simp at hc;subst hc;exact⟨x,by simp,rfl⟩
   ·rw[Z3g       ,Zbf    ]
    rcases List.mem_append.1 hy with hy | hy
    ·have:=hpre y hy;rw[if_neg (by simp only;omega),hot y hy];omega
    ·simp at hy;subst hy;rw[if_pos rfl,ho0];simp only;omega
  ·rw[if_neg (by simpa using hpos),sb]
   refine ih (pre++[x]) o (i+1) e1 e2 ho (fun c hc=>by obtain⟨y,hy,e⟩:=hos c hc;exact⟨y,by simp[hy],e⟩) (fun y hy => ?_) (by simp;omega);rcases List.mem_append.1 hy with hy | hy
   ·exact hot y hy
   ·simp at hy;subst hy;rw[ho0];omega
theorem off_eq (a b:List Z0) (ha:Z3p a) (hb:Z3p b) (hau:∀ y∈a,U64 y.f1) (hl:a.length<1000000) (hbl:b.length<1000000) :
  ∃ o ok,Z2a.f a b=some (o,ok)∧(ok=true↔Cov a b)∧(ok=true→Z3p o∧∀ i,tot o i=tot a i-tot b i):=by
 unfold Z2a.f;rw[off_l0 a b ha hl hbl b [] 0 rfl rfl,sb];by_cases h:∀ y∈b,y.f1≤tot a y.f0
 ·rw[if_pos h]
  have hc:=(cov_iff ha hb).2 h;obtain⟨o,e,h1,h2,h3⟩:=off_l1 a b hb hl hbl hc hau ha a [] [] 0 rfl rfl ⟨List.Pairwise.nil,by simp⟩ (by simp) (by simp) (by simp);simp only[];rw[e,sb];refine⟨o,true,rfl,by simp[hc],fun _=>⟨h1,fun i => ?_⟩⟩;by_cases hi:∃ y∈a,y.f0=i
  ·obtain⟨y,hy,rfl⟩:=hi;exact h3 y hy
  ·have ha0:=tot_zero (l:=a) (i:=i) (fun y hy e=>hi ⟨y,hy,e⟩)
   have hb0:=hc i;have:=Z72 hb.nn i;rw[tot_zero (fun x hx e=>by obtain⟨y,hy,e2⟩:=h2 x hx;exact hi ⟨y,hy,e2.trans e⟩)];omega
 ·rw[if_neg h]
  exact⟨[],false,rfl,by simp;rw[cov_iff ha hb];exact h,by simp⟩
structure Lessd (p q r:Zh):Prop where
 valid:Z24 r
 fits:Fits r
 kind:r.f0=p.f0
 schema:r.f1=p.f1
 zeroAt:r.f2=p.f2
 zero:r.f3=p.f3-q.f3
 count:r.f4=p.f4-q.f4
 sum:r.f5=p.f5-q.f5
 tpos:∀ i,tot r.f6 i=tot p.f6 i-tot q.f6 i
 tneg:∀ i,tot r.f7 i=tot p.f7 i-tot q.f7 i
def Covs (p q:Zh):Prop:=Cov p.f6 q.f6∧Cov p.f7 q.f7∧q.f3≤p.f3
theorem neg_sum {a b:Int} (ha:I64 a) (hb:I64 b):((((if(b==(-9223372036854775808))=true then(some (i64.wrap (b+(1:Int)))) else(some b)):Option (Int))>>=fun x2707=>((if(b==(-9223372036854775808))=true then((chk (([a,i64.wrap (0-x2707)].length+[(1:Int)].length)*8≤140737488355328))>>=fun _=>some ([a,i64.wrap (0-x2707)]++[1])) else(some [a,i64.wrap (0-x2707)])):Option (List Int))>>=fun x2711=>Z2s.f x2711):Option (Int×Int))=some (if I64 (a-b) then(a-b,0) else(0,5)):=by
 by_cases h:b = -9223372036854775808
 ·rw[if_pos (by simpa using h),sb,if_pos (by simpa using h),chkB (by simp),sb,raddint _ (by simp) (by
   rw[Z8 (n:=b+1) (by omega) (by omega),Z8 (n:=0-(b+1)) (by omega) (by omega)];intro x hx;simp at hx;rcases hx with rfl | rfl | rfl
   ·exact ha
   ·constructor<;>omega
   ·constructor<;>omega)]
  rw[Z8 (n:=b+1) (by omega) (by omega),Z8 (n:=0-(b+1)) (by omega) (by omega)];have e:([a,0-(b+1)]++[1]:List Int).sum=a-b:=by simp;omega
  rw[e]
 ·have hb1:=hb.1
  have hb2:=hb.2;rw[if_neg (by simpa using h),sb,if_neg (by simpa using h),sb,Z8 (by omega) (by omega),raddint _ (by simp) (by
   intro x hx;simp at hx;rcases hx with rfl | rfl
   ·exact ha
   ·constructor<;>omega)]
  have e:([a,0-b]:List Int).sum=a-b:=by simp;omega
  rw[e]
theorem Sub_cases (a b p q:Zh) (s z:Int) (fa:Fits a) (fb:Fits b) (he:Z10.f a b=some (p,q,0)) (hr:Z2o.f a b=some (p,q)) (cp:Cut a s z p) (cq:Cut b s z q) (hp:Pair p q) :
  (¬ Covs p q∧Z2g.f a b=some (h0,21)∧Z4w.f a b=some (h0,21)) ∨
  (Covs p q∧¬ I64 (a.f5-b.f5)∧Z2g.f a b=some (h0,5)∧Z4w.f a b=some (h0,5)) ∨
  (Covs p q∧∃ r,Z2g.f a b=some (r,0)∧Z4w.f a b=some (r,0)∧Lessd p q r):=by
 have a1:=hp.vp.pos.len;have a2:=hp.vp.neg.len;have a3:=hp.vq.pos.len;have a4:=hp.vq.neg.len;have c1:=hp.vp.count;have c2:=hp.vq.count;have hU:=hp.fp.count;have z1:=hp.fp.zero;have z2:=hp.fq.zero;have hSI:=subint fa.sum fb.sum;have hNS:=neg_sum fa.sum fb.sum;obtain⟨o6,k6,e6,i6,t6,L6,m6⟩:=less_eq p.f1 p.f2 p.f6 q.f6 hp.vp.pos.canon hp.vq.pos.canon (fun y hy=>⟨hp.vp.pos.ok y hy,(hp.fp.pos y hy).2⟩) (fun y hy=>(hp.fq.pos y hy).2) (by omega) (by omega);obtain⟨o7,k7,e7,i7,t7,L7,m7⟩:=less_eq p.f1 p.f2 p.f7 q.f7 hp.vp.neg.canon hp.vq.neg.canon (fun y hy=>⟨hp.vp.neg.ok y hy,(hp.fp.neg y hy).2⟩) (fun y hy=>(hp.fq.neg y hy).2) (by omega) (by omega);obtain⟨w6,j6,d6,u6,v6⟩:=off_eq p.f6 q.f6 hp.vp.pos.canon hp.vq.pos.canon (fun y hy=>(hp.fp.pos y hy).2) (by omega) (by omega);obtain⟨w7,j7,d7,u7,v7⟩:=off_eq p.f7 q.f7 hp.vp.neg.canon hp.vq.neg.canon (fun y hy=>(hp.fp.neg y hy).2) (by omega) (by omega);have hj6:j6=k6:=by rw[Bool.eq_iff_iff,u6,i6]
 have hj7:j7=k7:=by rw[Bool.eq_iff_iff,u7,i7]
 subst hj6;subst hj7;have hzs:=num_sub z1 z2;have hcond:((if(!j6)=true then(some true) else(if(!j7)=true then(some true) else(some (((if q.f3≤p.f3 then((p.f3-q.f3,0):Int×Int) else(0,5)).2 != (0:Int)))))):Option (Bool))=some (!decide (Covs p q)):=by
  unfold Covs;cases h6:j6 with
  | false => have : ¬ Cov p.f6 q.f6 := by rw [← i6, h6]; simp
             simp[this]
  | true =>
   have h6c:Cov p.f6 q.f6:=i6.1 h6;cases h7:j7 with
   | false => have : ¬ Cov p.f7 q.f7 := by rw [← i7, h7]; simp
              simp[this]
   | true =>
    have h7c:Cov p.f7 q.f7:=i7.1 h7;by_cases h3:q.f3≤p.f3<;>simp[h6c,h7c,h3]
 have rcond:((if(!j6)=true then(some true) else(if(!j7)=true then(some true) else(some (decide (p.f3<q.f3))))):Option (Bool))=some (!decide (Covs p q)):=by
  unfold Covs;cases h6:j6 with
  | false => have : ¬ Cov p.f6 q.f6 := by rw [← i6, h6]; simp
             simp[this]
  | true =>
   have h6c:Cov p.f6 q.f6:=i6.1 h6;cases h7:j7 with
   | false => have : ¬ Cov p.f7 q.f7 := by rw [← i7, h7]; simp
              simp[this]
   | true =>
    have h7c:Cov p.f7 q.f7:=i7.1 h7;by_cases h3:q.f3≤p.f3<;>simp[h6c,h7c,h3];omega
 have hpre:Z4w.f a b=(fun(t2714:Int×Int)=>(Z2o.f a b)>>=fun t2718=>(Z2a.f ((t2718.1).f6) ((t2718.2).f6))>>=fun t2805=>(Z2a.f ((t2718.1).f7) ((t2718.2).f7))>>=fun t2809=>((if(!t2805.2)=true then(some true) else(if(!t2809.2)=true then(some true) else(some (decide (((t2718.1).f3)<((t2718.2).f3)))))):Option (Bool))>>=fun x2815=>if x2815=true then(some ((⟨0,0,0,0,0,0,[],[]⟩:Zh),(21:Int))) else(if(t2714.2 != (0:Int))=true then(some ((⟨0,0,0,0,0,0,[],[]⟩:Zh),5)) else(some ((⟨(t2718.1).f0,(t2718.1).f1,(t2718.1).f2,u64.wrap (((t2718.1).f3)-((t2718.2).f3)),u64.wrap (((t2718.1).f4)-((t2718.2).f4)),t2714.1,t2805.1,t2809.1⟩:Zh),0)))) (if I64 (a.f5-b.f5) then(a.f5-b.f5,0) else(0,5)):=by
  unfold Z4w.f;by_cases h:b.f5 = -9223372036854775808
  ·rw[if_pos (by simpa using h),sb,if_pos (by simpa using h),chkB (by simp),sb] at hNS
   rw[if_pos (by simpa using h),sb,if_pos (by simpa using h),chkB (by simp),sb,hNS,sb]
  ·rw[if_neg (by simpa using h),sb,if_neg (by simpa using h),sb] at hNS
   rw[if_neg (by simpa using h),sb,if_neg (by simpa using h),sb,hNS,sb]
 by_cases hcv:Covs p q
 case neg =>
  refine .inl ⟨hcv,?_,?_⟩
  ·unfold        Z2g.f
   rw[hSI,sb,he,sb,if_neg (by simp)];dsimp only;rw[e6,e7,hzs,sb,sb,sb,hcond,sb,if_pos (by simp[hcv])];rfl
  ·rw[hpre];simp only[];rw[hr,sb]
   dsimp only;rw[d6,d7,sb,sb,rcond,sb,if_pos (by simp[hcv])];rfl
 by_cases hI:I64 (a.f5-b.f5)
 case neg =>
  refine .inr (.inl ⟨hcv,hI,?_,?_⟩)
  ·unfold        Z2g.f
   rw[hSI,sb,he,sb,if_neg (by simp)];dsimp only;rw[e6,e7,hzs,sb,sb,sb,hcond,sb,if_neg (by simp[hcv]),if_neg hI,if_pos (by simp)];rfl
  ·rw[hpre];simp only[];rw[hr,sb]
   dsimp only;rw[d6,d7,sb,sb,rcond,sb,if_neg (by simp[hcv]),if_neg hI,if_pos (by simp)];rfl
 obtain⟨h6,h7,h3⟩:=hcv;have T6:=t6 (i6.2 h6);have T7:=t7 (i7.2 h7);have M6:=L6 (i6.2 h6);have M7:=L7 (i7.2 h7);have q6:cnt o6=cnt p.f6-cnt q.f6:=by
  have h:=Z64 (l:=o6) (l':=p.f6++negl q.f6) (fun i=>by rw[T6,Z3g,Zao];omega);rw[h,Z9t,Z6p (negl q.f6),Z8z,← Z6p];omega
 have q7:cnt o7=cnt p.f7-cnt q.f7:=by
  have h:=Z64 (l:=o7) (l':=p.f7++negl q.f7) (fun i=>by rw[T7,Z3g,Zao];omega);rw[h,Z9t,Z6p (negl q.f7),Z8z,← Z6p];omega
 have n6:=Z11 (l:=o6) (fun b hb=>(M6.ok b hb).2.1);have n7:=Z11 (l:=o7) (fun b hb=>(M7.ok b hb).2.1);have hn1:=Z11 hp.vq.pos.canon.nn;have hn2:=Z11 hp.vq.neg.canon.nn;obtain⟨r,e,v,f,e0,e1,e2,e3,e5,x6,x7,e4⟩:=Zbq (⟨p.f0,p.f1,p.f2,p.f3-q.f3,p.f4,a.f5-b.f5,p.f6,p.f7⟩:Zh) o6 o7 hp.vp.kind hp.vp.schema hp.vp.zero (by simp only;omega) hI ⟨by omega,M6.ok⟩ ⟨by omega,M7.ok⟩ (by simp only;omega) (fun o ho hto=>by
  rcases hto with hto | hto
  ·exact Nat.le_trans hto.2 (by omega)
  ·exact Nat.le_trans hto.2 (by omega))
 refine .inr (.inr ⟨⟨h6,h7,h3⟩,r,?_,?_,⟨v,f,e0,e1,e2,e3,by rw[e4,q6,q7];simp only;omega,by rw[e5,cp.sum,cq.sum],fun i=>by rw[x6,T6],fun i=>by rw[x7,T7]⟩⟩)
 ·unfold        Z2g.f
  rw[hSI,sb,he,sb,if_neg (by simp)];dsimp only;rw[e6,e7,hzs,sb,sb,sb,hcond,sb,if_neg (by simp[Covs,h6,h7,h3]),if_pos hI,if_neg (by simp),if_pos h3];dsimp only;rw[e];rfl
 ·obtain⟨W6,V6⟩:=v6 (u6.2 h6)
  obtain⟨W7,V7⟩:=v7 (u7.2 h7);rw[hpre];simp only[];rw[hr,sb];dsimp only;rw[d6,d7,sb,sb,rcond,sb,if_neg (by simp[Covs,h6,h7,h3]),if_pos hI,if_neg (by simp),Z2l (n:=p.f3-q.f3) (by omega) (by omega),Z2l (n:=p.f4-q.f4) (by omega) (by omega)];have:(⟨p.f0,p.f1,p.f2,p.f3-q.f3,p.f4-q.f4,a.f5-b.f5,w6,w7⟩:Zh)=r :=
   hist_ext e0.symm e1.symm e2.symm e3.symm (by rw[e4,q6,q7];simp only;omega) e5.symm (Z4r W6 v.pos.canon (fun i=>by rw[V6,x6,T6])) (Z4r W7 v.neg.canon (fun i=>by rw[V7,x7,T7]))
  rw[← this]
theorem sub_any (x y:Zh) (vx:Z24 x) (fx:Fits x) (vy:Z24 y) (fy:Fits y):∃ r e,Z2g.f x y=some (r,e)∧Z4w.f x y=some (r,e)∧((e=0∧Z24 r∧Fits r)∨(r=h0∧(e=21∨e=5))):=by
 obtain⟨p,q,s,z,e,r,cp,cq,hp⟩:=Alike_pair x y vx fx vy fy;rcases Sub_cases x y p q s z fx fy e r cp cq hp with ⟨_,h1,h2⟩ | ⟨_,_,h1,h2⟩ | ⟨_,r,h1,h2,h3⟩
 ·exact⟨_,_,h1,h2,.inr ⟨rfl,.inl rfl⟩⟩
 ·exact⟨_,_,h1,h2,.inr ⟨rfl,.inr rfl⟩⟩
 ·exact⟨_,_,h1,h2,.inl ⟨rfl,h3.valid,h3.fits⟩⟩
end Go.Proofs.YtpoihfcehejgfaaGreat.PvGS2
namespace Go.Proofs.YtpoihfcehejgfaaGreat.PvGS2
open Go Go.Pv Go.Pv.GS Go.IntKind
theorem Ze8 (h:Zh) (hf:Fits h):∃ r,Z0d.f h=some r∧(r=0↔Z24 h):=by
 by_cases hsz:h.f6.length≤512∧h.f7.length≤512
 ·exact Ze7 h hf (by omega) (by omega)
 have hnv:¬ Z24 h:=fun v=>hsz ⟨v.pos.len,v.neg.len⟩
 suffices q:∃ r,Z0d.f h=some r∧r≠0 by
  obtain⟨r,e,hr⟩:=q;exact⟨r,e,fun h=>absurd h hr,fun v=>absurd v hnv⟩
 unfold Z0d.f;have hk:((if(h.f0 != (0:Int))=true then(some (h.f0 != (1:Int))) else(some false)):Option (Bool))=some (!decide (h.f0=0∨h.f0=1)):=by
  by_cases h1:h.f0=0
  ·simp[h1]
  ·by_cases h2:h.f0=1<;>simp[h1,h2]
 rw[hk,sb];by_cases c1:h.f0=0∨h.f0=1
 case neg=>rw[if_pos (by simpa using c1)];exact⟨_,rfl,by omega⟩
 rw[if_neg (by rw[decide_eq_true c1];decide)];by_cases c2:Z19 h.f1
 case neg=>rw[Zbk c2,sb,if_pos (by simp)];exact⟨_,rfl,by omega⟩
 rw[Z6v c2,sb,if_neg (by simp)];obtain⟨z,hz⟩:∃ z:Bool,((if(h.f2 != (-524288))=true then(if(decide (h.f2≤(-262144)))=true then(some true) else(some (decide (h.f2>(262144:Int))))) else(some false)):Option (Bool))=some z:=by
  repeat' split
  all_goals exact⟨_,rfl⟩
 rw[hz,sb];cases z with
 | true=>rw[if_pos rfl];exact⟨_,rfl,by omega⟩
 | false =>
  rw[if_neg (by simp),Z8s];by_cases h6:h.f6.length≤512
  ·obtain⟨r1,e1,i1⟩:=Zah         h h.f6 c2 (by omega) (fun b hb=>(hf.pos b hb).2)
   rw[e1,sb];by_cases d1:r1=0
   case neg=>rw[if_pos (by simpa using d1),sb];exact⟨_,rfl,d1⟩
   have h7:¬ h.f7.length≤512:=fun q=>hsz ⟨h6,q⟩;have e2:Zt.f h h.f7=some 9:=by unfold Zt.f;rw[if_pos (by simp;omega)]
   rw[if_neg (by simpa using d1),e2,sb,if_pos (by simp),sb];exact⟨_,rfl,by omega⟩
  ·have e1 :             Zt.f h h.f6=some 9:=by unfold             Zt.f;rw[if_pos (by simp;omega)]
   rw[e1,sb,if_pos (by simp),sb];exact⟨_,rfl,by omega⟩
end Go.Proofs.YtpoihfcehejgfaaGreat.PvGS2
namespace Go.Proofs.YtpoihfcehejgfaaGreat.PvGS2
open Go Go.Pv Go.Pv.GS Go.IntKind
open Classical
theorem Alike_pairP (a b:Zh) (ha:Z24 a) (fa:Fits a) (hb:Z24 b) (fb:Fits b) :
  ∃ p q s z,Z10.f a b=some (p,q,0)∧Cut a s z p∧Cut b s z q∧Pair p q:=by
 obtain⟨p0,q0,p,q,s,z,_,_,_,_,_,e,cp,cq,_⟩:=Alike_eq a b ha fa hb fb;exact⟨p,q,s,z,e,cp,cq,cp.valid,cq.valid,cp.fits,cq.fits,cp.schema.trans cq.schema.symm,cp.zeroAt.trans cq.zeroAt.symm⟩
theorem Sub_casesP (a b p q:Zh) (s z:Int) (fa:Fits a) (fb:Fits b) (he:Z10.f a b=some (p,q,0)) (cp:Cut a s z p) (cq:Cut b s z q) (hp:Pair p q) :
  Z2g.f a b=some (h0,21)∨Z2g.f a b=some (h0,5)∨(∃ r,Z2g.f a b=some (r,0)∧Lessd p q r):=by
 have a1:=hp.vp.pos.len;have a2:=hp.vp.neg.len;have a3:=hp.vq.pos.len;have a4:=hp.vq.neg.len;have c1:=hp.vp.count;have c2:=hp.vq.count;have hU:=hp.fp.count;have z1:=hp.fp.zero;have z2:=hp.fq.zero;have hSI:=subint fa.sum fb.sum;obtain⟨o6,k6,e6,i6,t6,L6,m6⟩:=less_eq p.f1 p.f2 p.f6 q.f6 hp.vp.pos.canon hp.vq.pos.canon (fun y hy=>⟨hp.vp.pos.ok y hy,(hp.fp.pos y hy).2⟩) (fun y hy=>(hp.fq.pos y hy).2) (by omega) (by omega);obtain⟨o7,k7,e7,i7,t7,L7,m7⟩:=less_eq p.f1 p.f2 p.f7 q.f7 hp.vp.neg.canon hp.vq.neg.canon (fun y hy=>⟨hp.vp.neg.ok y hy,(hp.fp.neg y hy).2⟩) (fun y hy=>(hp.fq.neg y hy).2) (by omega) (by omega);have hzs:=num_sub z1 z2;have hcond:((if(!k6)=true then(some true) else(if(!k7)=true then(some true) else(some (((if q.f3≤p.f3 then((p.f3-q.f3,0):Int×Int) else(0,5)).2 != (0:Int)))))):Option (Bool))=some (!decide (Covs p q)):=by
  unfold Covs;cases h6:k6 with
  | false => have : ¬ Cov p.f6 q.f6 := by rw [← i6, h6]; simp
             simp[this]
  | true =>
   have h6c:Cov p.f6 q.f6:=i6.1 h6;cases h7:k7 with
   | false => have : ¬ Cov p.f7 q.f7 := by rw [← i7, h7]; simp
              simp[this]
   | true =>
    have h7c:Cov p.f7 q.f7:=i7.1 h7;by_cases h3:q.f3≤p.f3<;>simp[h6c,h7c,h3]
 by_cases hcv:Covs p q
 case neg =>
  refine .inl ?_
  ·unfold        Z2g.f
   rw[hSI,sb,he,sb,if_neg (by simp)];dsimp only;rw[e6,e7,hzs,sb,sb,sb,hcond,sb,if_pos (by simp[hcv])];rfl
 by_cases hI:I64 (a.f5-b.f5)
 case neg =>
  refine .inr (.inl ?_)
  ·unfold        Z2g.f
   rw[hSI,sb,he,sb,if_neg (by simp)];dsimp only;rw[e6,e7,hzs,sb,sb,sb,hcond,sb,if_neg (by simp[hcv]),if_neg hI,if_pos (by simp)];rfl
 obtain⟨h6,h7,h3⟩:=hcv;have T6:=t6 (i6.2 h6);have T7:=t7 (i7.2 h7);have M6:=L6 (i6.2 h6);have M7:=L7 (i7.2 h7);have q6:cnt o6=cnt p.f6-cnt q.f6:=by
  have h:=Z64 (l:=o6) (l':=p.f6++negl q.f6) (fun i=>by rw[T6,Z3g,Zao];omega);rw[h,Z9t,Z6p (negl q.f6),Z8z,← Z6p];omega
 have q7:cnt o7=cnt p.f7-cnt q.f7:=by
  have h:=Z64 (l:=o7) (l':=p.f7++negl q.f7) (fun i=>by rw[T7,Z3g,Zao];omega);rw[h,Z9t,Z6p (negl q.f7),Z8z,← Z6p];omega
 have n6:=Z11 (l:=o6) (fun b hb=>(M6.ok b hb).2.1);have n7:=Z11 (l:=o7) (fun b hb=>(M7.ok b hb).2.1);have hn1:=Z11 hp.vq.pos.canon.nn;have hn2:=Z11 hp.vq.neg.canon.nn;obtain⟨r,e,v,f,e0,e1,e2,e3,e5,x6,x7,e4⟩:=Zbq (⟨p.f0,p.f1,p.f2,p.f3-q.f3,p.f4,a.f5-b.f5,p.f6,p.f7⟩:Zh) o6 o7 hp.vp.kind hp.vp.schema hp.vp.zero (by simp only;omega) hI ⟨by omega,M6.ok⟩ ⟨by omega,M7.ok⟩ (by simp only;omega) (fun o ho hto=>by
  rcases hto with hto | hto
  ·exact Nat.le_trans hto.2 (by omega)
  ·exact Nat.le_trans hto.2 (by omega))
 refine .inr (.inr ⟨r,?_,⟨v,f,e0,e1,e2,e3,by rw[e4,q6,q7];simp only;omega,by rw[e5,cp.sum,cq.sum],fun i=>by rw[x6,T6],fun i=>by rw[x7,T7]⟩⟩)
 ·unfold        Z2g.f
  rw[hSI,sb,he,sb,if_neg (by simp)];dsimp only;rw[e6,e7,hzs,sb,sb,sb,hcond,sb,if_neg (by simp[Covs,h6,h7,h3]),if_pos hI,if_neg (by simp),if_pos h3];dsimp only;rw[e];rfl
theorem sub_anyP (x y:Zh) (vx:Z24 x) (fx:Fits x) (vy:Z24 y) (fy:Fits y):∃ r e,Z2g.f x y=some (r,e)∧((e=0∧Z24 r∧Fits r)∨(r=h0∧(e=21∨e=5))):=by
 obtain⟨p,q,s,z,e,cp,cq,hp⟩:=Alike_pairP x y vx fx vy fy;rcases Sub_casesP x y p q s z fx fy e cp cq hp with h1 | h1 | ⟨r,h1,h3⟩
 ·exact⟨_,_,h1,.inr ⟨rfl,.inl rfl⟩⟩
 ·exact⟨_,_,h1,.inr ⟨rfl,.inr rfl⟩⟩
 ·exact⟨_,_,h1,.inl ⟨rfl,h3.valid,h3.fits⟩⟩
noncomputable def gap (x y:Zh):Zh:=match Z2g.f y x with
 | some (d,e)=>if e=21 then y else d
 | none=>y
end Go.Proofs.YtpoihfcehejgfaaGreat.PvGS2
namespace Go.Proofs.YtpoihfcehejgfaaGreat.PvGS2
open Go Go.Pv Go.Pv.GS Go.IntKind
def Zaa (k:Int) (h:Zh):List Z0:=if k=0 then h.f6 else h.f7
def allI (k:Int) (l:List Z6):List Int:=l.foldl (fun u s=>uni u ((Zaa k s.f1).map (·.f0))) []
theorem Z7h (k:Int) (l:List Z6) (s:Z6):allI k (l++[s])=uni (allI k l) ((Zaa k s.f1).map (·.f0)):=by simp[allI,List.foldl_append]
theorem Zbi {h:Zh} (v:Z24 h) (k:Int):Side h.f1 h.f2 (Zaa k h):=by unfold Zaa;split;exact v.pos;exact v.neg
theorem side_ids {h:Zh} (v:Z24 h) (k:Int):Ids ((Zaa k h).map (·.f0)):=by
 have s:=Zbi v k;refine⟨List.pairwise_map.2 s.up,fun i hi => ?_⟩;obtain⟨y,hy,rfl⟩:=List.mem_map.1 hi;have:=Z48 (s.ok y hy).ins;omega
theorem Z6x {α:Type} {P:List α→Prop} (h0:P []) (h1:∀ l x,P l→P (l++[x])):∀ l,P l:=by
 intro l;rcases List.eq_nil_or_concat l with rfl | ⟨l',x,rfl⟩
 ·exact h0
 ·rw[List.concat_eq_append];exact h1 l' x (Z6x h0 h1 l')
termination_by l=>l.length
decreasing_by subst l;simp
theorem Z8v (k:Int) (l:List Z6):(∀ s∈l,Z24 s.f1)→Ids (allI k l):=by
 induction l using Z6x with
 | h0=>intro _;exact⟨List.Pairwise.nil,by simp[allI]⟩
 | h1 l x ih =>
  intro h;have i1:=ih (fun s hs=>h s (by simp[hs]));have i2:=side_ids (h x (by simp)) k;rw[Z7h];exact⟨uni_inc _ _ i1.1 i2.1,fun i hi=>by rcases(Zbp i _ _).1 hi with q | q;exact i1.2 i q;exact i2.2 i q⟩
theorem Zd5 (k:Int) (l:List Z6):(∀ s∈l,Z24 s.f1)→(allI k l).length≤512*l.length:=by
 induction l using Z6x with
 | h0=>intro _;simp[allI]
 | h1 l x ih =>
  intro h;have i1:=ih (fun s hs=>h s (by simp[hs]));have i2:=(Zbi (h x (by simp)) k).len;have:=uni_len (allI k l) ((Zaa k x.f1).map (·.f0));rw[Z7h];simp only[List.length_map,List.length_append,List.length_singleton] at *;omega
theorem allI_mem (k i:Int) (l:List Z6):i∈allI k l↔∃ s∈l,i∈(Zaa k s.f1).map (·.f0):=by
 induction l using Z6x with
 | h0=>simp[allI]
 | h1 l x ih =>
  rw[Z7h,Zbp,ih];constructor
  ·rintro(⟨s,hs,h⟩ | h)
   ·exact⟨s,by simp[hs],h⟩
   ·exact⟨x,by simp,h⟩
  ·rintro⟨s,hs,h⟩
   rcases List.mem_append.1 hs with hs | hs
   ·exact .inl ⟨s,hs,h⟩
   ·simp at hs;subst hs;exact .inr h
theorem lays_l0 (l:List Z6) (hl:l.length≤1000) (hv:∀ s∈l,Z24 s.f1):∀ (suf pre:List Z6) (i:Int),l=pre++suf→i=(pre.length:Int) →
  Z1a.l0 l (lay (allI 0 pre)).f0 (lay (allI 0 pre)).f1 (lay (allI 1 pre)).f0 (lay (allI 1 pre)).f1 i=some ((lay (allI 0 l)).f0,(lay (allI 0 l)).f1,(lay (allI 1 l)).f0,(lay (allI 1 l)).f1):=by
 intro suf
 induction suf with
 | nil=>intro pre i h1 hi;rw[List.append_nil] at h1;subst h1;rw[Z1a.l0,if_neg (by simp[hi])]
 | cons s suf ih =>
  intro pre i h1 hi;have hlen:l.length=pre.length+(suf.length+1):=by rw[h1];simp
  have vs:=hv s (by rw[h1];simp);have hp:∀ x∈pre,Z24 x.f1:=fun x hx=>hv x (by rw[h1];simp[hx])
  have a0:=Z8v 0 pre hp;have a1:=Z8v 1 pre hp;have n0:=Zd5 0 pre hp;have n1:=Zd5 1 pre hp;have s0:=side_ids vs 0;have s1:=side_ids vs 1;have m0:=vs.pos.len;have m1:=vs.neg.len;have O0:=of_eq s.f1.f6 (by omega) s0.sm;have O1:=of_eq s.f1.f7 (by omega) s1.sm;have J0:Z2b.f ⟨(lay (allI 0 pre)).f0,(lay (allI 0 pre)).f1⟩ (lay (s.f1.f6.map (·.f0)))=some (lay (allI 0 (pre++[s]))):=by
   rw[Z7h];exact join_eq a0.sm s0.sm (by simp[Zaa];omega)
  have J1:Z2b.f ⟨(lay (allI 1 pre)).f0,(lay (allI 1 pre)).f1⟩ (lay (s.f1.f7.map (·.f0)))=some (lay (allI 1 (pre++[s]))):=by
   rw[Z7h];exact join_eq a1.sm s1.sm (by simp[Zaa];omega)
  rw[Z1a.l0,if_pos (by simp;omega),Z06 h1 hi,sb,O0,sb,J0,sb,O1,sb,J1,sb,Z8 (by omega) (by omega)];exact ih (pre++[s]) (i+1) (by simp[h1]) (by simp;omega)
theorem lays_eq (l:List Z6) (hl:l.length≤1000) (hv:∀ s∈l,Z24 s.f1):Z1a.f l=some (lay (allI 0 l),lay (allI 1 l)):=by
 unfold Z1a.f;rw[show Z1a.l0 l 0 [] 0 [] 0=_ from lays_l0 l hl hv l [] 0 rfl rfl,sb]
theorem rall_l1 (l:List Z6) (k q:Int) (t:List Z0) (hl:t.length<1000000):∀ (suf pre o:List Z0) (i:Int),t=pre++suf→i=(pre.length:Int)→o.length+suf.length<100000000000 →
  Z13.l1 l k t q o i=some (o++suf.map fun y=>⟨y.f0,1⟩):=by
 intro suf
 induction suf with
 | nil=>intro pre o i h1 hi ho;rw[Z13.l1,if_neg (by rw[h1];simp[hi])];simp
 | cons y suf ih =>
  intro pre o i h1 hi ho;have hlen:t.length=pre.length+(suf.length+1):=by rw[h1];simp
  simp only[List.length_cons] at ho;rw[Z13.l1,if_pos (by simp;omega),Z06 h1 hi,sb,chkB (by simp;omega),Z8 (by omega) (by omega),ih (pre++[y]) _ (i+1) (by simp[h1]) (by simp;omega) (by simp;omega)];simp
theorem rside_eq (h:Zh) {k:Int} (hk:k=0∨k=1):Z85.f h k=some (Zaa k h):=by
 rcases hk with rfl | rfl<;>rfl
theorem rall_l0 (l:List Z6) (hl:l.length≤1000) (hv:∀ s∈l,Z24 s.f1) {k:Int} (hk:k=0∨k=1):∀ (suf pre:List Z6) (o:List Z0) (i:Int),l=pre++suf→i=(pre.length:Int)→o.length≤512*pre.length →
  Z13.l0 l k o i=some (o++suf.flatMap fun s=>(Zaa k s.f1).map fun y=>⟨y.f0,1⟩):=by
 intro suf
 induction suf with
 | nil=>intro pre o i h1 hi ho;rw[Z13.l0,if_neg (by rw[h1];simp[hi])];simp
 | cons s suf ih =>
  intro pre o i h1 hi ho;have hlen:l.length=pre.length+(suf.length+1):=by rw[h1];simp
  have m:=(Zbi (hv s (by rw[h1];simp)) k).len;rw[Z13.l0,if_pos (by simp;omega),Z06 h1 hi,sb,rside_eq _ hk,sb,rall_l1 l k i (Zaa k s.f1) (by omega) (Zaa k s.f1) [] o 0 rfl rfl (by omega),sb,Z8 (by omega) (by omega),ih (pre++[s]) _ (i+1) (by simp[h1]) (by simp;omega) (by simp;omega)];simp
theorem rall_l2 (t:List Z0×Int) (hl:t.1.length<10000000):∀ (suf pre:List Z0) (o:List Int) (i:Int),t.1=pre++suf→i=(pre.length:Int)→o.length≤pre.length →
  Z13.l2 t o i=some (o++suf.map (·.f0)):=by
 intro suf
 induction suf with
 | nil=>intro pre o i h1 hi ho;rw[Z13.l2,if_neg (by rw[h1];simp[hi])];simp
 | cons y suf ih =>
  intro pre o i h1 hi ho;have hlen:t.1.length=pre.length+(suf.length+1):=by rw[h1];simp
  rw[Z13.l2,if_pos (by simp;omega),Z06 h1 hi,sb,chkB (by simp;omega),Z8 (by omega) (by omega),ih (pre++[y]) _ (i+1) (by simp[h1]) (by simp;omega) (by simp;omega)];simp
theorem ones_cnt:∀ (A:List Z0),(∀ y∈A,y.f1=1)→cnt A=A.length
 | [],_=>rfl
 | y::A,h=>by rw[Z5b,ones_cnt A (fun z hz=>h z (by simp[hz])),h y (by simp)];simp;omega
theorem fm_len (k:Int):∀ (l:List Z6),(∀ s∈l,Z24 s.f1)→(l.flatMap fun s=>(Zaa k s.f1).map fun y=>(⟨y.f0,1⟩:Z0)).length≤512*l.length
 | [],_=>by simp
 | s::l,h=>by
  have:=fm_len k l (fun x hx=>h x (by simp[hx]));have:=(Zbi (h s (by simp)) k).len;rw[List.flatMap_cons,List.length_append,List.length_map,List.length_cons];omega
theorem rall_eq (l:List Z6) (hl:l.length≤1000) (hv:∀ s∈l,Z24 s.f1) {k:Int} (hk:k=0∨k=1):Z13.f l k=some (allI k l):=by
 unfold Z13.f;rw[rall_l0 l hl hv hk l [] [] 0 rfl rfl (by simp),sb,List.nil_append];have hA:=fm_len k l hv;generalize eA:(l.flatMap fun s=>(Zaa k s.f1).map fun y=>(⟨y.f0,1⟩:Z0))=A at *;have h1:∀ y∈A,y.f1=1:=fun y hy=>by
  rw[← eA] at hy;obtain⟨s,_,h⟩:=List.mem_flatMap.1 hy;obtain⟨z,_,rfl⟩:=List.mem_map.1 h;rfl
 have hmem:∀ i,(∃ y∈A,y.f0=i)↔i∈allI k l:=fun i=>by
  rw[allI_mem,← eA];constructor
  ·rintro⟨y,hy,rfl⟩
   obtain⟨s,hs,h⟩:=List.mem_flatMap.1 hy;obtain⟨z,hz,rfl⟩:=List.mem_map.1 h;exact⟨s,hs,List.mem_map.2 ⟨z,hz,rfl⟩⟩
  ·rintro⟨s,hs,h⟩
   obtain⟨z,hz,rfl⟩:=List.mem_map.1 h;exact⟨⟨z.f0,1⟩,List.mem_flatMap.2 ⟨s,hs,List.mem_map.2 ⟨z,hz,rfl⟩⟩,rfl⟩
 have hn:Nn A:=fun y hy=>by rw[h1 y hy];omega
 obtain⟨o,e,hc,ht,ho⟩:=tidy_ref A (by omega) (fun y hy=>by rw[h1 y hy];omega) (by rw[ones_cnt A h1];omega);rw[e,sb,rall_l2 (o,0) (by show o.length<_;omega) o [] [] 0 rfl rfl (by simp),sb,List.nil_append];congr 1;refine inc_ext (List.pairwise_map.2 hc.up) (Z8v k l hv).1 (fun i => ?_);rw[← hmem];constructor
 ·intro h
  obtain⟨y,hy,rfl⟩:=List.mem_map.1 h;have h2:=hc.tot_of hy;have h3:=hc.pos y hy;apply Classical.byContradiction;intro hno;rw[ht,tot_zero (fun z hz q=>hno ⟨z,hz,q⟩)] at h2;omega
 ·rintro⟨y,hy,rfl⟩
  have h2:=tot_mem hn hy;rw[h1 y hy,← ht] at h2;apply Classical.byContradiction;intro hno;rw[tot_zero (fun z hz q=>hno (List.mem_map.2 ⟨z,hz,q⟩))] at h2;omega
def Z2y (h:Zh) (P N:List Int):List Int:=([h.f3,u64.wrap h.f5]++P.map (tot h.f6))++N.map (tot h.f7)
theorem Z61 (h:Zh) (P N:List Int):(Z2y h P N).length=2+P.length+N.length:=by simp[Z2y];omega
theorem rows_eq {h:Zh} (v:Z24 h) {P N:List Int} (hP:Ids P) (hN:Ids N) (h1:P.length<1000000) (h2:N.length<1000000):Z5y.f h (lay P) (lay N)=some (Z2y h P N):=by
 have m0:=v.pos.len;have m1:=v.neg.len;unfold Z5y.f;rw[counts_eq hP.1 hP.sm h1 v.pos.canon (by omega),sb,chkB (by simp;omega),counts_eq hN.1 hN.sm h2 v.neg.canon (by omega),sb,chkB (by simp;omega)];rfl
theorem num_l0 {h:Zh} (v:Z24 h) (P N:List Int) (h1:P.length<1000000):∀ (suf pre o:List Int) (i:Int),P=pre++suf→i=(pre.length:Int)→o.length≤pre.length+2 →
  Z0s.l0 h P N o i=some (o++suf.map (tot h.f6)):=by
 have m0:=v.pos.len;intro suf
 induction suf with
 | nil=>intro pre o i h1 hi ho;rw[Z0s.l0,if_neg (by rw[h1];simp[hi])];simp
 | cons y suf ih =>
  intro pre o i h1 hi ho;have hlen:P.length=pre.length+(suf.length+1):=by rw[h1];simp
  rw[Z0s.l0,if_pos (by simp;omega),Z06 h1 hi,sb,rat_eq h.f6 y (by omega) v.pos.canon,sb,chkB (by simp;omega),Z8 (by omega) (by omega),ih (pre++[y]) _ (i+1) (by simp[h1]) (by simp;omega) (by simp;omega)];simp
theorem num_l1 {h:Zh} (v:Z24 h) (N:List Int) (h1:N.length<1000000) (K:Nat) (hK:K<10000000):∀ (suf pre o:List Int) (i:Int),N=pre++suf→i=(pre.length:Int)→o.length≤pre.length+K →
  Z0s.l1 h N o i=some (o++suf.map (tot h.f7)):=by
 have m1:=v.neg.len;intro suf
 induction suf with
 | nil=>intro pre o i h1 hi ho;rw[Z0s.l1,if_neg (by rw[h1];simp[hi])];simp
 | cons y suf ih =>
  intro pre o i h1 hi ho;have hlen:N.length=pre.length+(suf.length+1):=by rw[h1];simp
  rw[Z0s.l1,if_pos (by simp;omega),Z06 h1 hi,sb,rat_eq h.f7 y (by omega) v.neg.canon,sb,chkB (by simp;omega),Z8 (by omega) (by omega),ih (pre++[y]) _ (i+1) (by simp[h1]) (by simp;omega) (by simp;omega)];simp
theorem num_eq {h:Zh} (v:Z24 h) (P N:List Int) (h1:P.length<1000000) (h2:N.length<1000000):Z0s.f h P N=some (Z2y h P N):=by
 unfold Z0s.f;rw[num_l0 v P N h1 P [] _ 0 rfl rfl (by simp),sb,num_l1 v N h2 (P.length+2) (by omega) N [] _ 0 rfl rfl (by simp),sb];rfl
theorem reset_eq {x y:Zh} (vx:Z24 x) (fx:Fits x) (vy:Z24 y) (fy:Fits y):∃ r:Bool,Z4p.f y x=some r∧∃ q e,Z4w.f x y=some (q,e)∧r=(e==(21:Int)):=by
 obtain⟨q,e,e1,e2,_⟩:=sub_any x y vx fx vy fy;unfold Z4p.f;rw[e1,sb];exact⟨_,rfl,q,e,e2,rfl⟩
theorem Zaz (n:Nat):decide ((n:Int)≤512)=decide (n≤512):=by
 by_cases h:n≤512
 ·rw[decide_eq_true h,decide_eq_true (by omega)]
 ·rw[decide_eq_false h,decide_eq_false (by omega)]
structure COk (l:List Z6):Prop where
 ok:∀ s∈l,Z24 s.f1∧0≤s.f0∧s.f0≤1099511627776
 len:l.length≤32
 up:l.Pairwise (fun a b=>a.f0<b.f0)
 head:∀ s∈l,∀ t∈l,s.f1.f0=t.f1.f0∧s.f1.f1=t.f1.f1∧s.f1.f2=t.f1.f2
 pos:(allI 0 l).length≤512
 neg:(allI 1 l).length≤512
theorem COk.nil:COk []:=⟨by simp,by simp,by simp,by simp,by simp[allI],by simp[allI]⟩
theorem fit_nil (s:Z6) (vs:Z24 s.f1) (ht:0≤s.f0∧s.f0≤1099511627776):COk ([]++[s]):=by
 refine⟨by simp;exact⟨vs,ht⟩,by simp,by simp,by simp,?_,?_⟩
 ·have:=(Zbi vs 0).len;rw[Z7h];simp[allI,uni,this]
 ·have:=(Zbi vs 1).len;rw[Z7h];simp[allI,uni,this]
theorem rfits (P:List Z6) (p s:Z6) (hl:(P++[p]).length≤900) (hV:∀ x∈(P++[p])++[s],Z24 x.f1) :
  Z5v.f (P++[p]) s=(if(decide (31<(P++[p]).length)||decide (s.f0≤p.f0)||(s.f1.f0 != p.f1.f0)||(s.f1.f1 != p.f1.f1)||(s.f1.f2 != p.f1.f2))=true then some false else
   ((if (s.f1.f0 == (0 : Int)) = true then ((      Z4w.f s.f1 p.f1) >>= fun t4653 => if (t4653.2 == (21 : Int)) = true then (some (.inl false)) else (some (.inr ()))) else (some (.inr ()))) : Option (Bool ⊕ Unit)) >>= fun oo => match oo with
     | .inl rr=>some rr
     | .inr _=>some (decide ((allI 0 ((P++[p])++[s])).length≤512)&&decide ((allI 1 ((P++[p])++[s])).length≤512))):=by
 have hla:((P++[p]:List Z6).length:Int)=P.length+1:=by simp
 have hat:at? (P++[p]) (i64.wrap (((P++[p]:List Z6).length:Int)-1))=some p:=by
  rw[hla,Z8 (by simp at hl;omega) (by simp at hl;omega)];exact Z06 (pre:=P) (x:=p) (suf:=[]) rfl (by omega)
 have hne:¬ ((((P++[p]:List Z6).length:Int)==0)=true):=by rw[hla];simp;omega
 have hl2:((P++[p])++[s]:List Z6).length≤1000:=by simp at hl ⊢;omega
 unfold Z5v.f;have hb:((if(decide (((P++[p]:List Z6).length:Int)>(31:Int)))=true then(some true) else(if(decide (s.f0≤p.f0))=true then(some true) else(if(s.f1.f0 != p.f1.f0)=true then(some true) else(if(s.f1.f1 != p.f1.f1)=true then(some true) else(some (s.f1.f2 != p.f1.f2)))))):Option (Bool))=some (decide (31<(P++[p]).length)||decide (s.f0≤p.f0)||(s.f1.f0 != p.f1.f0)||(s.f1.f1 != p.f1.f1)||(s.f1.f2 != p.f1.f2)):=by
  by_cases q1:31<(P++[p]).length
  ·rw[if_pos (by simpa using (by omega:((P++[p]:List Z6).length:Int)>31)),decide_eq_true q1];simp
  ·rw[if_neg (by simpa using (by omega:¬ ((P++[p]:List Z6     ).length:Int)>31)),decide_eq_false q1]
   cases decide (s.f0≤p.f0)<;>cases (s.f1.f0 != p.f1.f0)<;>cases (s.f1.f1 != p.f1.f1)<;>simp
 rw[if_neg hne,hat,sb,hb,sb,chkB (by simp at hl ⊢;omega),chkB (by simp at hl ⊢;omega),rall_eq _ hl2 hV (.inl rfl),sb,rall_eq _ hl2 hV (.inr rfl),sb,Zaz,Zaz];congr 2;funext oo;cases oo with
 | inl rr=>rfl
 | inr u=>cases decide ((allI 0 ((P++[p])++[s])).length≤512)<;>simp[sb]
theorem cfits (P:List Z6) (p s:Z6) (hl:(P++[p]).length≤900) (hV:∀ x∈(P++[p])++[s],Z24 x.f1) :
  Z18.f (P++[p]) s=(if(decide (31<(P++[p]).length)||decide (s.f0≤p.f0)||(s.f1.f0 != p.f1.f0)||(s.f1.f1 != p.f1.f1)||(s.f1.f2 != p.f1.f2))=true then some false else
   ((if(s.f1.f0==(0:Int))=true then((Z4p.f p.f1 s.f1)>>=fun t1460=>some t1460) else(some false)):Option (Bool))>>=fun x1462=>if x1462=true then(some false) else some (decide ((allI 0 ((P++[p])++[s])).length≤512)&&decide ((allI 1 ((P++[p])++[s])).length≤512))):=by
 have hla:((P++[p]:List Z6).length:Int)=P.length+1:=by simp
 have hat:at? (P++[p]) (i64.wrap (((P++[p]:List Z6).length:Int)-1))=some p:=by
  rw[hla,Z8 (by simp at hl;omega) (by simp at hl;omega)];exact Z06 (pre:=P) (x:=p) (suf:=[]) rfl (by omega)
 have hne:¬ ((((P++[p]:List Z6).length:Int)==0)=true):=by rw[hla];simp;omega
 have hl2:((P++[p])++[s]:List Z6).length≤1000:=by simp at hl ⊢;omega
 unfold Z18.f;have hal:Z4t.f p.f1 s.f1=some (!((s.f1.f0 != p.f1.f0)||(s.f1.f1 != p.f1.f1)||(s.f1.f2 != p.f1.f2))):=by
  unfold Z4t.f;by_cases q0:p.f1.f0=s.f1.f0
  ·rw[if_pos (by simpa using q0),show(s.f1.f0 != p.f1.f0)=false by simp[q0]]
   by_cases q1:p.f1.f1=s.f1.f1
   ·rw[if_pos (by simpa using q1),sb,show(s.f1.f1 != p.f1.f1)=false by simp[q1]]
    by_cases q2:p.f1.f2=s.f1.f2
    ·rw[show(p.f1.f2==s.f1.f2)=true by simpa using q2,show(s.f1.f2 != p.f1.f2)=false by simp[q2]];rfl
    ·rw[show(p.f1.f2==s.f1.f2)=false by simpa using q2,show(s.f1.f2 != p.f1.f2)=true by simpa using fun h=>q2 h.symm];rfl
   ·rw[if_neg (by simpa using q1),sb,show(s.f1.f1 != p.f1.f1)=true by simpa using fun h=>q1 h.symm];rfl
  ·rw[if_neg (by simpa using q0),sb,show(s.f1.f0 != p.f1.f0)=true by simpa using fun h=>q0 h.symm];rfl
 have hb:((if(decide (((P++[p]:List Z6).length:Int)≥(32:Int)))=true then(some true) else(if(decide (s.f0≤p.f0))=true then(some true) else((Z4t.f p.f1 s.f1)>>=fun t319=>some (!t319)))):Option (Bool))=some (decide (31<(P++[p]).length)||decide (s.f0≤p.f0)||(s.f1.f0 != p.f1.f0)||(s.f1.f1 != p.f1.f1)||(s.f1.f2 != p.f1.f2)):=by
  rw[hal,sb,Bool.not_not];by_cases q1:31<(P++[p]).length
  ·rw[if_pos (by simpa using (by omega:((P++[p]:List Z6).length:Int)≥32)),decide_eq_true q1];simp
  ·rw[if_neg (by simpa using (by omega:¬ ((P++[p]:List Z6     ).length:Int)≥32)),decide_eq_false q1]
   cases decide (s.f0≤p.f0)<;>simp[Bool.or_assoc]
 have hcl:Z1p.f (P++[p])=some (P++[p]):=by
  unfold Z1p.f;rw[chkB (by simp at hl ⊢;omega)]
 rw[if_neg hne,hat,sb,hb,sb,hcl,sb,chkB (by simp at hl ⊢;omega),lays_eq _ hl2 hV,sb];have i0:=Z8v 0 _ hV;have i1:=Z8v 1 _ hV;have n0:=Zd5 0 _ hV;have n1:=Zd5 1 _ hV;dsimp only;rw[Zdu i0.sm (by omega),Zdu i1.sm (by omega),sb,sb,Zaz,Zaz];congr 2;funext x;cases x with
 | true=>rfl
 | false=>cases decide ((allI 0 ((P++[p])++[s])).length≤512)<;>simp[sb]
theorem fit_fin (P:List Z6) (p s:Z6) (vs:Z24 s.f1) (ht:0≤s.f0∧s.f0≤1099511627776) (g:¬ (decide (31<(P++[p]).length)||decide (s.f0≤p.f0)||(s.f1.f0 != p.f1.f0)||(s.f1.f1 != p.f1.f1)||(s.f1.f2 != p.f1.f2))=true):∀ r:Bool,r=(decide ((allI 0 ((P++[p])++[s])).length≤512)&&decide ((allI 1 ((P++[p])++[s])).length≤512))→r=true→COk (P++[p])→COk ((P++[p])++[s]):=by
 have g2:(P++[p]).length≤31∧p.f0<s.f0∧s.f1.f0=p.f1.f0∧s.f1.f1=p.f1.f1∧s.f1.f2=p.f1.f2:=by
  simp only[Bool.or_eq_true,decide_eq_true_eq,bne_iff_ne,not_or,Classical.not_not] at g;obtain⟨⟨⟨⟨q1,q2⟩,q3⟩,q4⟩,q5⟩:=g;exact⟨by omega,by omega,q3,q4,q5⟩
 intro r hr ht2 hc;rw[ht2] at hr;have hr':=hr.symm;simp only[Bool.and_eq_true,decide_eq_true_eq] at hr';refine⟨fun x hx => ?_,by simp at g2 ⊢;omega,?_,?_,hr'.1,hr'.2⟩
 ·rcases List.mem_append.1 hx with hx | hx
  ·exact hc.ok x hx
  ·simp at hx;subst hx;exact⟨vs,ht⟩
 ·refine List.pairwise_append.2 ⟨hc.up,by simp,fun a ha b hb => ?_⟩
  simp at hb;subst hb;rcases List.mem_append.1 ha with ha | ha
  ·have:=(List.pairwise_append.1 hc.up).2.2 a ha p (by simp);omega
  ·simp at ha;subst ha;exact g2.2.1
 ·have hp:∀ x∈(P++[p])++[s],x.f1.f0=p.f1.f0∧x.f1.f1=p.f1.f1∧x.f1.f2=p.f1.f2:=fun x hx=>by
   rcases List.mem_append.1 hx with hx | hx
   ·exact hc.head x hx p (by simp)
   ·simp at hx;subst hx;exact g2.2.2
  intro x hx y hy;have h1:=hp x hx;have h2:=hp y hy;exact⟨h1.1.trans h2.1.symm,h1.2.1.trans h2.2.1.symm,h1.2.2.trans h2.2.2.symm⟩
theorem fits_eq (l:List Z6) (s:Z6) (hl:l.length≤900) (hv:∀ x∈l++[s],Z24 x.f1∧Fits x.f1) (ht:0≤s.f0∧s.f0≤1099511627776) :
  ∃ r:Bool,Z18.f l s=some r∧Z5v.f l s=some r∧(r=true→COk l→COk (l++[s])):=by
 have vs:=hv s (by simp);rcases List.eq_nil_or_concat l with rfl | ⟨P,p,rfl⟩
 ·refine⟨true,?_,?_,fun _ _=>fit_nil s vs.1 ht⟩
  ·unfold Z18.f;rw[if_pos (by simp)]
  ·unfold Z5v.f;rw[if_pos (by simp)]
 simp only[List.concat_eq_append] at *;have vp:=hv p (by simp);have hV:∀ x∈(P++[p])++[s],Z24 x.f1:=fun x hx=>(hv x hx).1
 rw[rfits P p s hl hV,cfits P p s hl hV];by_cases g:(decide (31<(P++[p]).length)||decide (s.f0≤p.f0)||(s.f1.f0 != p.f1.f0)||(s.f1.f1 != p.f1.f1)||(s.f1.f2 != p.f1.f2))=true
 ·exact⟨false,by rw[if_pos g],by rw[if_pos g],by simp⟩
 rw[if_neg g,if_neg g];have fin:=fit_fin P p s vs.1 ht g;by_cases k0:s.f1.f0=0
 ·obtain⟨r,e1,q,e,e2,hr⟩:=reset_eq vs.1 vs.2 vp.1 vp.2
  rw[if_pos (by simpa using k0),if_pos (by simpa using k0),e1,e2,sb,sb,sb];dsimp only;rw[← hr];cases r with
  | true=>exact⟨false,by rw[if_pos rfl],by rw[if_pos rfl,sb],by simp⟩
  | false=>exact⟨_,by rw[if_neg (by simp)],by rw[if_neg (by simp),sb],fin _ rfl⟩
 ·rw[if_neg (by simpa using k0),if_neg (by simpa using k0),sb,sb]
  exact⟨_,by rw[if_neg (by simp)],rfl,fin _ rfl⟩
theorem fits_p (l:List Z6) (s:Z6) (hl:l.length≤900) (hv:∀ x∈l++[s],Z24 x.f1∧Fits x.f1) (ht:0≤s.f0∧s.f0≤1099511627776) :
  ∃ r:Bool,Z18.f l s=some r∧(r=true→COk l→COk (l++[s])):=by
 have vs:=hv s (by simp);rcases List.eq_nil_or_concat l with rfl | ⟨P,p,rfl⟩
 ·refine⟨true,?_,fun _ _=>fit_nil s vs.1 ht⟩
  unfold Z18.f;rw[if_pos (by simp)]
 simp only[List.concat_eq_append] at *;have vp:=hv p (by simp);have hV:∀ x∈(P++[p])++[s],Z24 x.f1:=fun x hx=>(hv x hx).1
 rw[cfits P p s hl hV];by_cases g:(decide (31<(P++[p]).length)||decide (s.f0≤p.f0)||(s.f1.f0 != p.f1.f0)||(s.f1.f1 != p.f1.f1)||(s.f1.f2 != p.f1.f2))=true
 ·exact⟨false,by rw[if_pos g],by simp⟩
 rw[if_neg g];have fin:=fit_fin P p s vs.1 ht g;by_cases k0:s.f1.f0=0
 ·obtain⟨q,e,e1,_⟩:=sub_anyP s.f1 p.f1 vs.1 vs.2 vp.1 vp.2
  unfold Z4p.f;rw[if_pos (by simpa using k0),e1,sb,sb,sb];by_cases k1:e=21
  ·exact⟨false,by rw[if_pos (by simpa using k1)],by simp⟩
  ·exact⟨_,by rw[if_neg (by simpa using k1)],fin _ rfl⟩
 ·rw[if_neg (by simpa using k0),sb]
  exact⟨_,by rw[if_neg (by simp)],fin _ rfl⟩
theorem take_pre {α:Type} {l pre suf:List α} {i:Int} (h:l=pre++suf) (hi:i=(pre.length:Int)):(l.drop (Int.toNat (0:Int))).take (Int.toNat i-Int.toNat (0:Int))=pre:=by
 rw[show Int.toNat (0:Int)=0 from rfl,List.drop_zero,Nat.sub_zero,hi,Int.toNat_natCast,h,List.take_left]
theorem chkp_l0 (l:List Z6) (hl:l.length<1000000000000000) (hf:∀ s∈l,Fits s.f1):∀ (suf pre:List Z6) (i:Int),l=pre++suf→i=(pre.length:Int)→COk pre →
  ∃ r:Int ⊕ Unit,Z0l.l0 l i=some r∧(∀ c,r = .inl c→c≠0)∧(r = .inr ()→COk l):=by
 intro suf
 induction suf with
 | nil =>
  intro pre i h1 hi hc;rw[List.append_nil] at h1;subst h1;refine⟨.inr (),?_,by simp,fun _=>hc⟩;rw[Z0l.l0,if_neg (by simp[hi])]
 | cons s suf ih =>
  intro pre i h1 hi hc;have hlen:l.length=pre.length+(suf.length+1):=by rw[h1];simp
  have hs:=hf s (by rw[h1];simp);have hT:∀ x:Int,((if(decide (x<(0:Int)))=true then(some true) else(some (decide (x>(1099511627776:Int))))):Option (Bool))=some (!decide (0≤x∧x≤1099511627776)):=fun x=>by
   by_cases c:x<0
   ·rw[if_pos (by simpa using c),decide_eq_false (by omega)];rfl
   ·rw[if_neg (by simpa using c)]
    by_cases c2:x>1099511627776
    ·rw[decide_eq_true c2,decide_eq_false (by omega)];rfl
    ·rw[decide_eq_false c2,decide_eq_true (by omega)];rfl
  by_cases ht:0≤s.f0∧s.f0≤1099511627776
  case neg =>
   refine⟨.inl 4,?_,by simp,by simp⟩;rw[Z0l.l0,if_pos (by simp;omega),Z06 h1 hi,sb,hT,sb,if_pos (by rw[decide_eq_false ht];rfl)]
  have hb:¬ ((!decide (0≤s.f0∧s.f0≤1099511627776))=true):=by rw[decide_eq_true ht];decide
  obtain⟨e,e1,e3⟩:=Ze8 s.f1 hs;have A:Z0l.l0 l i=(if(e != (0:Int))=true then some (.inl e) else((Z18.f pre s)>>=fun t1838=>if(!t1838)=true then(some (.inl 6)) else Z0l.l0 l (i+1))):=by
   rw[Z0l.l0,if_pos (by simp;omega),Z06 h1 hi,sb,hT,sb,if_neg hb,e1,sb,chkB (by omega),take_pre h1 hi,Z8 (n:=i+1) (by omega) (by omega)]
  rw[A];by_cases he:e=0
  case neg=>exact⟨.inl e,by rw[if_pos (by simpa using he)],fun c hc=>by cases hc;exact he,by simp⟩
  have hv:=e3.1 he;rw[if_neg (by simpa using he)];obtain⟨r,f1,f3⟩:=fits_p pre s (by have:=hc.len;omega) (fun x hx=>by
   rcases List.mem_append.1 hx with hx | hx
   ·exact⟨(hc.ok x hx).1,hf x (by rw[h1];simp[hx])⟩
   ·simp at hx;subst hx;exact⟨hv,hs⟩) ht
  rw[f1,sb];cases r with
  | false=>exact⟨.inl 6,rfl,by simp,by simp⟩
  | true =>
   obtain⟨r,g1,g3,g4⟩:=ih (pre++[s]) (i+1) (by simp[h1]) (by simp;omega) (f3 rfl hc);exact⟨r,by rw[if_neg (by simp),g1],g3,g4⟩
theorem chk_p (l:List Z6) (hl:l.length<1000000000000000) (hf:∀ s∈l,Fits s.f1):∃ e,Z0l.f l=some e∧(e=0→COk l∧l≠[]):=by
 by_cases h0:l=[]
 ·subst h0;exact⟨30,rfl,by simp⟩
 have hn:¬ (((l.length:Int)==0)=true):=by
  have:l.length≠0:=fun h=>h0 (List.length_eq_zero_iff.1 h);simp;omega
 obtain⟨r,e1,e3,e4⟩:=chkp_l0 l hl hf l [] 0 rfl rfl COk.nil;unfold Z0l.f;rw[if_neg hn,e1,sb];cases r with
 | inl c=>exact⟨c,rfl,fun h=>absurd h (e3 c rfl)⟩
 | inr u=>exact⟨0,rfl,fun _=>⟨e4 rfl,h0⟩⟩
def row0 (r:List Int):List Bool:=r.flatMap fun n=>cnt2 n.toNat
def row1 (a b:List Int):List Bool:=(List.zipWith (fun n w=>intB (i64.wrap (u64.wrap (n-w)))) a b).flatten
def subR (a b:List Int):List Int:=List.zipWith (fun n w=>u64.wrap (n-w)) a b
theorem Zcx:∀ (r:List Int),(row0 r).length≤71*r.length
 | []=>by simp[row0]
 | n::r=>by
  have:=Zcx r;have:=Z0t n.toNat;unfold row0 at *;rw[List.flatMap_cons,List.length_append,List.length_cons];omega
theorem Z8i:∀ (a b:List Int),(row1 a b).length≤71*a.length
 | [],_=>by simp[row1]
 | n::a,[]=>by simp[row1]
 | n::a,w::b=>by
  have:=Z8i a b;have:=Z54 (i64.wrap (u64.wrap (n-w)));unfold row1 at *;rw[List.zipWith_cons_cons,List.flatten_cons,List.length_append,List.length_cons];omega
theorem Zav (n w:Int) (a b:List Int):row1 (n::a) (w::b)=intB (i64.wrap (u64.wrap (n-w)))++row1 a b:=by simp[row1]
theorem row0_cons (n:Int) (a:List Int):row0 (n::a)=cnt2 n.toNat++row0 a:=by simp[row0]
theorem Z92 (n w:Int) (a b:List Int):subR (n::a) (w::b)=u64.wrap (n-w)::subR a b:=by simp[subR]
theorem Zcu {a b:List Int} (h:a.length=b.length):(subR a b).length=a.length:=by simp[subR,h]
def body (P N:List Int):Option Z6→Option Z6→List Z6→List Bool
 | _,_,[]=>[]
 | _,none,s::r=>cnt2 s.f0.toNat++(row0 (Z2y s.f1 P N)++body P N none (some s) r)
 | none,some p,s::r=>cnt2 (s.f0-p.f0-1).toNat++(row1 (Z2y s.f1 P N) (Z2y p.f1 P N)++body P N (some p) (some s) r)
 | some q,some p,s::r=>intB (s.f0-2*p.f0+q.f0)++(row1 (subR (Z2y s.f1 P N) (Z2y p.f1 P N)) (subR (Z2y p.f1 P N) (Z2y q.f1 P N))++body P N (some p) (some s) r)
theorem set_mid {α:Type} (p:List α) (x y:α) (s:List α) {k:Int} (hk:k=(p.length:Int)):(p++x::s).set (Int.toNat k) y=p++y::s:=by
 rw[hk,Int.toNat_natCast];simp
theorem Zc6 {α:Type} (p:List α) (x:α) (s:List α) {k:Int} (hk:k=(p.length:Int)):at? (p++x::s) k=some x:=Z06 rfl hk
theorem e1_0 (l:List Z6) (z:Z6) (t:Ze×Ze) (now was step:List Int) (la:Int) (hl:now.length<1000000) (hu:∀ n∈now,U64 n):∀ (suf pre nx:List Int) (b:List Int) (f:Nat) (s:List Bool) (k:Int),now=pre++suf→k=(pre.length:Int)→Laid b f s→s.length+71*suf.length<700000000000 →
  ∃ (b':List Int) (f':Nat),Zw.l1 l z t now was step la 0 b (f:Int) nx k=some (b',(f':Int),nx)∧Laid b' f' (s++row0 suf):=by
 intro suf
 induction suf with
 | nil =>
  intro pre nx b f s k h1 hk h hs;rw[Zw.l1,if_neg (by rw[h1];simp[hk])];exact⟨b,f,rfl,by simpa[row0] using h⟩
 | cons n suf ih =>
  intro pre nx b f s k h1 hk h hs;have hlen:now.length=pre.length+(suf.length+1):=by rw[h1];simp
  have hn:=hu n (by rw[h1];simp);have hc:=Z0t n.toNat;simp only[List.length_cons] at hs;obtain⟨b1,f1,e1,h1'⟩:=Z6a h (by omega) hn.1 hn.2;rw[Zw.l1,if_pos (by simp;omega),Z06 h1 hk,sb,if_pos (by simp),e1,sb,sb];dsimp only;rw[Z8 (n:=k+1) (by omega) (by omega)];obtain⟨b2,f2,e2,h2⟩:=ih (pre++[n]) nx b1 f1 _ (k+1) (by simp[h1]) (by simp;omega) h1' (by simp only[List.length_append];omega);exact⟨b2,f2,e2,by rw[row0_cons];simpa using h2⟩
theorem e1_1 (l:List Z6) (z:Z6) (t:Ze×Ze) (now was step:List Int) (la:Int) (hl:now.length<1000000):∀ (sn pn sw pw sx px:List Int) (b:List Int) (f:Nat) (s:List Bool) (k:Int),now=pn++sn→was=pw++sw→pw.length=pn.length→sw.length=sn.length→px.length=pn.length→sx.length=sn.length→k=(pn.length:Int)→Laid b f s→s.length+71*sn.length<700000000000 →
  ∃ (b':List Int) (f':Nat),Zw.l1 l z t now was step la 1 b (f:Int) (px++sx) k=some (b',(f':Int),px++subR sn sw)∧Laid b' f' (s++row1 sn sw):=by
 intro sn
 induction sn with
 | nil =>
  intro pn sw pw sx px b f s k h1 h2 l1 l2 l3 l4 hk h hs;have hsx:sx=[]:=List.length_eq_zero_iff.1 (by simpa using l4);subst hsx;rw[Zw.l1,if_neg (by rw[h1];simp[hk])];exact⟨b,f,by simp[subR],by simpa[row1] using h⟩
 | cons n sn ih =>
  intro pn sw pw sx px b f s k h1 h2 l1 l2 l3 l4 hk h hs;cases sw with
  | nil=>simp at l2
  | cons w sw =>
   cases sx with
   | nil=>simp at l4
   | cons x sx =>
    have hlen:now.length=pn.length+(sn.length+1):=by rw[h1];simp
    have hI:=Z9q (u64.wrap (n-w));have hc:=Z54 (i64.wrap (u64.wrap (n-w)));simp only[List.length_cons] at hs;obtain⟨b1,f1,e1,h1'⟩:=wint h (by omega) hI;rw[Zw.l1,if_pos (by simp;omega),Z06 h1 hk,sb,if_neg (by simp),if_pos (by simp),Z06 h2 (by omega),sb,Zc6 px x sx (by omega),sb,set_mid px x _ sx (by omega),Zc6 px _ sx (by omega),sb,e1,sb,sb];dsimp only;rw[sb];dsimp only;rw[Z8 (n:=k+1) (by omega) (by omega)];obtain⟨b2,f2,e2,h2'⟩:=ih (pn++[n]) sw (pw++[w]) sx (px++[u64.wrap (n-w)]) b1 f1 _ (k+1) (by simp[h1]) (by simp[h2]) (by simp[l1]) (by simpa using l2) (by simp[l3]) (by simpa using l4) (by simp;omega) h1' (by simp only[List.length_append];omega);refine⟨b2,f2,?_,by rw[Zav];simpa using h2'⟩;rw[Z92];simpa using e2
theorem e1_2 (l:List Z6) (z:Z6) (t:Ze×Ze) (now was step:List Int) (la i:Int) (hi:2≤i) (hl:now.length<1000000):∀ (sn pn sw pw ss ps sx px:List Int) (b:List Int) (f:Nat) (s:List Bool) (k:Int),now=pn++sn→was=pw++sw→step=ps++ss→pw.length=pn.length→sw.length=sn.length→ps.length=pn.length→ss.length=sn.length→px.length=pn.length→sx.length=sn.length→k=(pn.length:Int)→Laid b f s→s.length+71*sn.length<700000000000 →
  ∃ (b':List Int) (f':Nat),Zw.l1 l z t now was step la i b (f:Int) (px++sx) k=some (b',(f':Int),px++subR sn sw)∧Laid b' f' (s++row1 (subR sn sw) ss):=by
 intro sn
 induction sn with
 | nil =>
  intro pn sw pw ss ps sx px b f s k h1 h2 h3 l1 l2 l5 l6 l3 l4 hk h hs;have hsx:sx=[]:=List.length_eq_zero_iff.1 (by simpa using l4);subst hsx;rw[Zw.l1,if_neg (by rw[h1];simp[hk])];exact⟨b,f,by simp[subR],by simpa[row1,subR] using h⟩
 | cons n sn ih =>
  intro pn sw pw ss ps sx px b f s k h1 h2 h3 l1 l2 l5 l6 l3 l4 hk h hs;cases sw with
  | nil=>simp at l2
  | cons w sw =>
   cases sx with
   | nil=>simp at l4
   | cons x sx =>
    cases ss with
    | nil=>simp at l6
    | cons v ss =>
     have hlen:now.length=pn.length+(sn.length+1):=by rw[h1];simp
     have hI:=Z9q (u64.wrap (u64.wrap (n-w)-v));have hc:=Z54 (i64.wrap (u64.wrap (u64.wrap (n-w)-v)));simp only[List.length_cons] at hs;obtain⟨b1,f1,e1,h1'⟩:=wint h (by omega) hI;rw[Zw.l1,if_pos (by simp;omega),Z06 h1 hk,sb,if_neg (by simp;omega),if_neg (by simp;omega),Z06 h2 (by omega),sb,Zc6 px x sx (by omega),sb,set_mid px x _ sx (by omega),Zc6 px _ sx (by omega),sb,Z06 h3 (by omega),sb,e1,sb,sb];dsimp only;rw[sb];dsimp only;rw[Z8 (n:=k+1) (by omega) (by omega)];obtain⟨b2,f2,e2,h2'⟩:=ih (pn++[n]) sw (pw++[w]) ss (ps++[v]) sx (px++[u64.wrap (n-w)]) b1 f1 _ (k+1) (by simp[h1]) (by simp[h2]) (by simp[h3]) (by simp[l1]) (by simpa using l2) (by simp[l5]) (by simpa using l6) (by simp[l3]) (by simpa using l4) (by simp;omega) h1' (by simp only[List.length_append];omega);refine⟨b2,f2,?_,by rw[Z92,Zav];simpa using h2'⟩;rw[Z92];simpa using e2
theorem tot_u64 {r:List Z0} (hc:Z3p r) (hu:∀ y∈r,U64 y.f1) (i:Int):U64 (tot r i):=by
 by_cases h:∃ y∈r,y.f0=i
 ·obtain⟨y,hy,rfl⟩:=h
  rw[hc.tot_of hy];exact hu y hy
 ·rw[tot_zero (fun y hy e=>h ⟨y,hy,e⟩)];exact⟨by omega,by omega⟩
theorem rows_u64 {h:Zh} (v:Z24 h) (f:Fits h) (P N:List Int):∀ n∈Z2y h P N,U64 n:=by
 intro n hn;simp only[Z2y,List.mem_append,List.mem_cons,List.not_mem_nil,or_false,List.mem_map] at hn;rcases hn with ((rfl | rfl) | ⟨i,_,rfl⟩) | ⟨i,_,rfl⟩
 ·exact f.zero
 ·exact Z7m _
 ·exact tot_u64 v.pos.canon (fun y hy=>(f.pos y hy).2) i
 ·exact tot_u64 v.neg.canon (fun y hy=>(f.neg y hy).2) i
def Two (pre:List Z6) (q p:Option Z6):Prop :=
 (pre=[]∧q=none∧p=none)∨(∃ x,pre=[x]∧q=none∧p=some x)∨(∃ P0 y x,pre=P0++[y,x]∧q=some y∧p=some x)
theorem Two.next {pre:List Z6} {q p:Option Z6} (h:Two pre q p) (s:Z6):Two (pre++[s]) p (some s):=by
 rcases h with ⟨rfl,rfl,rfl⟩ | ⟨x,rfl,rfl,rfl⟩ | ⟨P0,y,x,rfl,rfl,rfl⟩
 ·exact .inr (.inl ⟨s,rfl,rfl,rfl⟩)
 ·exact .inr (.inr ⟨[],x,s,rfl,rfl,rfl⟩)
 ·exact .inr (.inr ⟨P0++[y],x,s,by simp,rfl,rfl⟩)
theorem COk.ids {l:List Z6} (hc:COk l) (hF:∀ s∈l,Fits s.f1):Ids (allI 0 l)∧Ids (allI 1 l):=⟨Z8v 0 l (fun s hs=>(hc.ok s hs).1),Z8v 1 l (fun s hs=>(hc.ok s hs).1)⟩
theorem enc_l0 {l:List Z6} (hc:COk l) (hF:∀ s∈l,Fits s.f1):∀ (suf pre:List Z6) (q p:Option Z6) (was step:List Int) (la gap:Int) (b:List Int) (f:Nat) (s:List Bool) (i:Int),l=pre++suf→i=(pre.length:Int)→Two pre q p →
  (∀ x,p=some x→was=Z2y x.f1 (allI 0 l) (allI 1 l)∧la=x.f0)→(∀ y x,q=some y→p=some x→step=subR (Z2y x.f1 (allI 0 l) (allI 1 l)) (Z2y y.f1 (allI 0 l) (allI 1 l))∧gap=x.f0-y.f0)→(p=none→la=0) →
  Laid b f s→s.length+80000*suf.length<500000000000 →
  ∃ (b':List Int) (f':Nat),Zw.l0 l (lay (allI 0 l),lay (allI 1 l)) b (f:Int) was step la gap i=some (b',(f':Int))∧Laid b' f' (s++body (allI 0 l) (allI 1 l) q p suf):=by
 obtain⟨iP,iN⟩:=hc.ids hF;have lP:=hc.pos;have lN:=hc.neg;intro suf
 induction suf with
 | nil =>
  intro pre q p was step la gap b f s i h1 hi _ _ _ _ h _;rw[Zw.l0,if_neg (by rw[h1];simp[hi])];exact⟨b,f,rfl,by cases q<;>cases p<;>simpa[body] using h⟩
 | cons x suf ih =>
  intro pre q p was step la gap b f s i h1 hi h2 hp hq hn h hs;have hlen:l.length=pre.length+(suf.length+1):=by rw[h1];simp
  have h32:=hc.len;have hx:=hc.ok x (by rw[h1];simp);have fx:=hF x (by rw[h1];simp);have hrl:=Z61 x.f1 (allI 0 l) (allI 1 l);have R:=rows_eq hx.1 iP iN (by omega) (by omega);have hru:=rows_u64 hx.1 fx (allI 0 l) (allI 1 l);generalize eR:Z2y x.f1 (allI 0 l) (allI 1 l)=R0 at *;simp only[List.length_cons] at hs;have hup:=hc.up;rw[h1] at hup;have h2x:=h2.next x
  have hrep:(List.replicate (Int.toNat (R0.length:Int)) (0:Int))=List.replicate R0.length 0:=by rw[Int.toNat_natCast]
  rw[Zw.l0,if_pos (by simp;omega),Z06 h1 hi,sb,R,sb];rcases h2 with ⟨rfl,rfl,rfl⟩ | ⟨y,rfl,rfl,rfl⟩ | ⟨P0,y,w,rfl,rfl,rfl⟩
  ·have hi0:i=0:=by simpa using hi
   subst hi0;have hla:=hn rfl;subst hla;have hc1:=Z0t x.f0.toNat;obtain⟨b1,f1,e1,g1⟩:=Z6a h (by omega) (n:=x.f0) (by omega) (by omega);rw[if_pos (by simp),Z2l (n:=x.f0) (by omega) (by omega),e1,sb,sb];dsimp only;rw[chkB (by omega),hrep];have hr0:=Zcx R0;obtain⟨b2,f2,e2,g2⟩:=e1_0 l x (lay (allI 0 l),lay (allI 1 l)) R0 was step 0 (by omega) hru R0 [] (List.replicate R0.length 0) b1 f1 _ 0 rfl rfl g1 (by simp only[List.length_append];omega);rw[e2,sb];dsimp only;rw[Z8 (n:=(0:Int)+1) (by omega) (by omega)];obtain⟨b3,f3,e3,g3⟩:=ih [x] none (some x) R0 (List.replicate R0.length 0) x.f0 (i64.wrap (x.f0-0)) b2 f2 _ (0+1) (by simp[h1]) (by simp) h2x (fun y hy=>by cases hy;exact⟨eR.symm,rfl⟩) (fun y z hy=>by cases hy) (fun hy=>by cases hy) g2 (by simp only[List.length_append];omega);exact⟨b3,f3,e3,by rw[body,eR];simpa using g3⟩
  ·have hi1:i=1:=by simpa using hi
   subst hi1;obtain⟨rfl,rfl⟩:=hp y rfl;have hy:=hc.ok y (by rw[h1];simp);have hyx:y.f0<x.f0:=(List.pairwise_append.1 hup).2.2 y (by simp) x (by simp);have hyl:=Z61 y.f1 (allI 0 l) (allI 1 l);have hc1:=Z0t (x.f0-y.f0-1).toNat;obtain⟨b1,f1,e1,g1⟩:=Z6a h (by omega) (n:=x.f0-y.f0-1) (by omega) (by omega);rw[if_neg (by simp),if_pos (by simp),Z8 (n:=x.f0-y.f0) (by omega) (by omega),Z8 (n:=x.f0-y.f0-1) (by omega) (by omega),Z2l (n:=x.f0-y.f0-1) (by omega) (by omega),e1,sb,sb];dsimp only;rw[sb];dsimp only;rw[chkB (by omega),hrep];have hr0:=Z8i R0 (Z2y y.f1 (allI 0 l) (allI 1 l));obtain⟨b2,f2,e2,g2⟩:=e1_1 l x (lay (allI 0 l),lay (allI 1 l)) R0 (Z2y y.f1 (allI 0 l) (allI 1 l)) step y.f0 (by omega) R0 [] (Z2y y.f1 (allI 0 l) (allI 1 l)) [] (List.replicate R0.length 0) [] b1 f1 _ 0 rfl rfl rfl (by omega) rfl (by simp) rfl g1 (by simp only[List.length_append];omega);rw[List.nil_append] at e2;rw[e2,sb];dsimp only;rw[Z8 (n:=(1:Int)+1) (by omega) (by omega),List.nil_append];obtain⟨b3,f3,e3,g3⟩:=ih [y,x] (some y) (some x) R0 (subR R0 (Z2y y.f1 (allI 0 l) (allI 1 l))) x.f0 (x.f0-y.f0) b2 f2 _ (1+1) (by simp[h1]) (by simp) h2x (fun z hz=>by cases hz;exact⟨eR.symm,rfl⟩) (fun z v hz hv=>by cases hz;cases hv;rw[eR];exact⟨rfl,rfl⟩) (fun hy=>by cases hy) g2 (by simp only[List.length_append];omega);exact⟨b3,f3,e3,by rw[body,eR];simpa using g3⟩
  ·have hi2:2≤i:=by rw[hi];simp;omega
   obtain⟨rfl,rfl⟩:=hp w rfl;obtain⟨rfl,rfl⟩:=hq y w rfl rfl;have hw:=hc.ok w (by rw[h1];simp);have hy:=hc.ok y (by rw[h1];simp);have hwx:w.f0<x.f0:=(List.pairwise_append.1 hup).2.2 w (by simp) x (by simp);have hwl:=Z61 w.f1 (allI 0 l) (allI 1 l);have hyl:=Z61 y.f1 (allI 0 l) (allI 1 l);have hc1:=Z54 (x.f0-2*w.f0+y.f0);have e0:i64.wrap (i64.wrap (x.f0-w.f0)-(w.f0-y.f0))=x.f0-2*w.f0+y.f0:=by
    rw[Z8 (n:=x.f0-w.f0) (by omega) (by omega),Z8 (by omega) (by omega)];omega
   obtain⟨b1,f1,e1,g1⟩:=wint h (by omega) (a:=x.f0-2*w.f0+y.f0) (by omega);rw[if_neg (by simp;omega),if_neg (by simp;omega),e0,e1,sb,sb];dsimp only;rw[sb];dsimp only;rw[chkB (by omega),hrep];have hsl:=Zcu (a:=Z2y w.f1 (allI 0 l) (allI 1 l)) (b:=Z2y y.f1 (allI 0 l) (allI 1 l)) (by omega);have hsl2:=Zcu (a:=R0) (b:=Z2y w.f1 (allI 0 l) (allI 1 l)) (by omega);have hr0:=Z8i (subR R0 (Z2y w.f1 (allI 0 l) (allI 1 l))) (subR (Z2y w.f1 (allI 0 l) (allI 1 l)) (Z2y y.f1 (allI 0 l) (allI 1 l)));obtain⟨b2,f2,e2,g2⟩:=e1_2 l x (lay (allI 0 l),lay (allI 1 l)) R0 (Z2y w.f1 (allI 0 l) (allI 1 l)) (subR (Z2y w.f1 (allI 0 l) (allI 1 l)) (Z2y y.f1 (allI 0 l) (allI 1 l))) w.f0 i hi2 (by omega) R0 [] (Z2y w.f1 (allI 0 l) (allI 1 l)) [] (subR (Z2y w.f1 (allI 0 l) (allI 1 l)) (Z2y y.f1 (allI 0 l) (allI 1 l))) [] (List.replicate R0.length 0) [] b1 f1 _ 0 rfl rfl rfl rfl (by omega) rfl (by omega) rfl (by simp) rfl g1 (by simp only[List.length_append];omega);rw[List.nil_append] at e2;rw[e2,sb];dsimp only;rw[Z8 (n:=i+1) (by omega) (by omega),List.nil_append,Z8 (n:=x.f0-w.f0) (by omega) (by omega)];obtain⟨b3,f3,e3,g3⟩:=ih (P0++[y,w]++[x]) (some w) (some x) R0 (subR R0 (Z2y w.f1 (allI 0 l) (allI 1 l))) x.f0 (x.f0-w.f0) b2 f2 _ (i+1) (by simp[h1]) (by simp at hi ⊢;omega) h2x (fun z hz=>by cases hz;exact⟨eR.symm,rfl⟩) (fun z v hz hv=>by cases hz;cases hv;rw[eR];exact⟨rfl,rfl⟩) (fun hy=>by cases hy) g2 (by simp only[List.length_append];omega);exact⟨b3,f3,e3,by rw[body,eR];simpa using g3⟩
theorem body_len {l:List Z6} (hc:COk l) (hF:∀ s∈l,Fits s.f1):∀ (suf:List Z6) (q p:Option Z6),(∀ x,p=some x→True)→(body (allI 0 l) (allI 1 l) q p suf).length≤80000*suf.length:=by
 have lP:=hc.pos;have lN:=hc.neg;have hr:=fun(h:Zh)=>Z61 h (allI 0 l) (allI 1 l);intro suf
 induction suf with
 | nil=>intro q p _;cases q<;>cases p<;>simp[body]
 | cons s suf ih =>
  intro q p hp;have:=ih p (some s) (fun _ _=>trivial);have hs:=hr s.f1;cases p with
  | none =>
   have h1:=ih none (some s) (fun _ _=>trivial);have h2:=Z0t s.f0.toNat;have h3:=Zcx (Z2y s.f1 (allI 0 l) (allI 1 l));cases q<;>simp only[body,List.length_append,List.length_cons]<;>omega
  | some p =>
   have hp:=hr p.f1;cases q with
   | none =>
    have h2:=Z0t (s.f0-p.f0-1).toNat;have h3:=Z8i (Z2y s.f1 (allI 0 l) (allI 1 l)) (Z2y p.f1 (allI 0 l) (allI 1 l));simp only[body,List.length_append,List.length_cons];omega
   | some q =>
    have hq:=hr q.f1;have h2:=Z54 (s.f0-2*p.f0+q.f0);have h3:=Z8i (subR (Z2y s.f1 (allI 0 l) (allI 1 l)) (Z2y p.f1 (allI 0 l) (allI 1 l))) (subR (Z2y p.f1 (allI 0 l) (allI 1 l)) (Z2y q.f1 (allI 0 l) (allI 1 l)));have h4:=Zcu (a:=Z2y s.f1 (allI 0 l) (allI 1 l)) (b:=Z2y p.f1 (allI 0 l) (allI 1 l)) (by omega);simp only[body,List.length_append,List.length_cons];omega
def Z6s (l:List Z6):List Bool:=match l with
 | []=>[]
 | h::_=>[h.f1.f0==1]++(nb (h.f1.f1+4).toNat 4++(intB h.f1.f2++(lyB (lay (allI 0 l))++(lyB (lay (allI 1 l))++(cnt2 (l.length-1)++body (allI 0 l) (allI 1 l) none none l)))))
theorem Z9u {l:List Z6} (hc:COk l) (hF:∀ s∈l,Fits s.f1):(Z6s l).length≤3000000:=by
 cases l with
 | nil=>simp[Z6s]
 | cons h r =>
  have h1:=Z54 h.f1.f2;have h2:=Zbr (lay (allI 0 (h::r)));have h3:=Zbr (lay (allI 1 (h::r)));have h4:=@Z5s (allI 0 (h::r));have h5:=@Z5s (allI 1 (h::r));have h6:=Z0t ((h::r).length-1);have h7:=body_len hc hF (h::r) none none (fun _ _=>trivial);have lP:=hc.pos;have lN:=hc.neg;have h32:=hc.len;simp only[Z6s,List.length_append,Z5e,List.length_singleton];omega
theorem wbit0 (f:Int) (x:Bool):Z3n.f f x=Z0b.f [] f x:=by kernel_rfl
theorem enc_eq {l:List Z6} (hc:COk l) (hne:l≠[]) (hF:∀ s∈l,Fits s.f1) (hk:Z0l.f l=some 0):∃ (b:List Int) (f:Nat),Zw.f l=some (b,0)∧Laid b f (Z6s l):=by
 obtain⟨iP,iN⟩:=hc.ids hF;have lP:=hc.pos;have lN:=hc.neg;have h32:=hc.len;have vs:∀ s∈l,Z24 s.f1:=fun s hs=>(hc.ok s hs).1
 obtain⟨h,r,rfl⟩:∃ h r,l=h::r:=by
  cases l with
  | nil=>exact absurd rfl hne
  | cons h r=>exact⟨h,r,rfl⟩
 have vh:=vs h (by simp);have fh:=hF h (by simp);have hsch:=vh.schema;have hz:=vh.zero;have h1:=Z54 h.f1.f2;have h2:=Zbr (lay (allI 0 (h::r)));have h3:=Zbr (lay (allI 1 (h::r)));have h4:=@Z5s (allI 0 (h::r));have h5:=@Z5s (allI 1 (h::r));have h6:=Z0t ((h::r).length-1);have q0:=lay_f0 iP;have q1:=lay_f0 iN;have hw:u64.wrap (i64.wrap (h.f1.f1-(-4)))=h.f1.f1+4:=by
  have:=hsch.1;have:=hsch.2;rw[Z8 (by omega) (by omega),Z2l (by omega) (by omega)];omega
 have hs1:=hsch.1;have hs2:=hsch.2;unfold Zw.f;rw[hk,sb,if_neg (by simp),show at? (h::r) 0=some h from rfl,sb,lays_eq _ (by omega) vs,sb,wbit0];obtain⟨b1,f1,e1,g1⟩:=wbit Laid.nil (by simp) (h.f1.f0==1);rw[show Z0b.f [] 0 (h.f1.f0==1)=_ from e1,sb,hw];dsimp only;obtain⟨b2,f2,e2,g2⟩:=wput g1 (by simp) (n:=h.f1.f1+4) (by omega) (by omega) (k:=4) (by omega);rw[show Zy.f b1 (f1:Int) (h.f1.f1+4) 4=_ from e2,sb];dsimp only;obtain⟨b3,f3,e3,g3⟩:=wint g2 (by simp[Z5e]) (a:=h.f1.f2) (by omega);rw[e3,sb];dsimp only;obtain⟨b4,f4,e4,g4⟩:=wspan (lay (allI 0 (h::r))) (by omega) (lay_rsp iP lP) (by omega) (by simp[Z5e];omega) g3;rw[e4,sb];dsimp only;obtain⟨b5,f5,e5,g5⟩:=wspan (lay (allI 1 (h::r))) (by omega) (lay_rsp iN lN) (by omega) (by simp[Z5e];omega) g4;rw[e5,sb];dsimp only;have hln:u64.wrap (i64.wrap (((h::r).length:Int)-1))=(((h::r).length-1:Nat):Int):=by
  simp only[List.length_cons] at h32 ⊢;rw[Z8 (by omega) (by omega),Z2l (by omega) (by omega)];omega
 obtain⟨b6,f6,e6,g6⟩:=Z6a g5 (by simp[Z5e];omega) (n:=(((h::r).length-1:Nat):Int)) (by omega) (by omega);rw[hln,e6,sb];dsimp only;rw[Int.toNat_natCast] at g6;obtain⟨b7,f7,e7,g7⟩:=enc_l0 hc hF (h::r) [] none none [] [] 0 0 b6 f6 _ 0 rfl rfl (.inl ⟨rfl,rfl,rfl⟩) (fun x hx=>by cases hx) (fun y x hy=>by cases hy) (fun _=>rfl) g6 (by simp only[List.length_append,List.length_nil,List.length_singleton,Z5e];omega);rw[show Zw.l0 (h::r) (lay (allI 0 (h::r)),lay (allI 1 (h::r))) b6 (f6:Int) [] [] 0 0 0=_ from e7,sb];have hfin:Laid b7 f7 (Z6s (h::r)):=by
  unfold Z6s;simpa using g7
 have hbl:=hfin.len;have hcl:=Z9u hc hF;have hlt:=hfin.lt;dsimp only;unfold Z1f.f Z2z.f;rw[chkB (by simp;omega),sb,sb];exact⟨b7,f7,rfl,hfin⟩
theorem rcountI {n:Int} (h:U64 n):Z00.f n=some (strB (cnt2 n.toNat)):=by
 have:=Z7p (n:=n.toNat) (by have:=h.1;have:=h.2;omega)
 rwa [Int.toNat_of_nonneg h.1] at this
theorem renc_1 (l:List Z6) (P N now:List Int) (q:Int) (hl:now.length<1000000) (hu:∀ n∈now,U64 n):∀ (suf pre:List Int) (s:List Bool) (k:Int),now=pre++suf→k=(pre.length:Int)→s.length+71*suf.length<700000000000 →
  Z0a.l1 l P N now q (strB s) k=some (strB (s++row0 suf)):=by
 intro suf
 induction suf with
 | nil=>intro pre s k h1 hk hs;rw[Z0a.l1,if_neg (by rw[h1];simp[hk])];simp[row0]
 | cons n suf ih =>
  intro pre s k h1 hk hs;have hlen:now.length=pre.length+(suf.length+1):=by rw[h1];simp
  have hn:=hu n (by rw[h1];simp);have hc:=Z0t n.toNat;simp only[List.length_cons] at hs;rw[Z0a.l1,if_pos (by simp;omega),Z06 h1 hk,sb,rcountI hn,sb,chkB (by rw[Zv,Zv];omega),Z8 (n:=k+1) (by omega) (by omega),← Z0q,ih (pre++[n]) _ (k+1) (by simp[h1]) (by simp;omega) (by simp only[List.length_append];omega),row0_cons];simp
theorem renc_2 (l:List Z6) (P N now was:List Int) (q:Int) (hl:now.length<1000000):∀ (sn pn sw pw:List Int) (s:List Bool) (k:Int),now=pn++sn→was=pw++sw→pw.length=pn.length→sw.length=sn.length→k=(pn.length:Int)→s.length+71*sn.length<700000000000 →
  Z0a.l2 l P N now was q (strB s) k=some (strB (s++row1 sn sw)):=by
 intro sn
 induction sn with
 | nil=>intro pn sw pw s k h1 h2 l1 l2 hk hs;rw[Z0a.l2,if_neg (by rw[h1];simp[hk])];simp[row1]
 | cons n sn ih =>
  intro pn sw pw s k h1 h2 l1 l2 hk hs;cases sw with
  | nil=>simp at l2
  | cons w sw =>
   have hlen:now.length=pn.length+(sn.length+1):=by rw[h1];simp
   have hI:=Z9q (u64.wrap (n-w));have hc:=Z54 (i64.wrap (u64.wrap (n-w)));simp only[List.length_cons] at hs;rw[Z0a.l2,if_pos (by simp;omega),Z06 h1 hk,sb,Z06 h2 (by omega),sb,rint hI,sb,chkB (by rw[Zv,Zv];omega),Z8 (n:=k+1) (by omega) (by omega),← Z0q,ih (pn++[n]) sw (pw++[w]) _ (k+1) (by simp[h1]) (by simp[h2]) (by simp[l1]) (by simpa using l2) (by simp;omega) (by simp only[List.length_append];omega),Zav];simp
theorem diff2 (n w e:Int):u64.wrap (u64.wrap (n-u64.wrap (2*w))+e)=u64.wrap (u64.wrap (n-w)-u64.wrap (w-e)):=by simp only[Z9j];omega
theorem renc_3 (l:List Z6) (P N now was eld:List Int) (q:Int) (hl:now.length<1000000):∀ (sn pn sw pw se pe:List Int) (s:List Bool) (k:Int),now=pn++sn→was=pw++sw→eld=pe++se→pw.length=pn.length→sw.length=sn.length→pe.length=pn.length→se.length=sn.length→k=(pn.length:Int)→s.length+71*sn.length<700000000000 →
  Z0a.l3 l P N now was eld q (strB s) k=some (strB (s++row1 (subR sn sw) (subR sw se))):=by
 intro sn
 induction sn with
 | nil=>intro pn sw pw se pe s k h1 h2 h3 l1 l2 l3 l4 hk hs;rw[Z0a.l3,if_neg (by rw[h1];simp[hk])];simp[row1,subR]
 | cons n sn ih =>
  intro pn sw pw se pe s k h1 h2 h3 l1 l2 l3 l4 hk hs;cases sw with
  | nil=>simp at l2
  | cons w sw =>
   cases se with
   | nil=>simp at l4
   | cons e se =>
    have hlen:now.length=pn.length+(sn.length+1):=by rw[h1];simp
    have hI:=Z9q (u64.wrap (u64.wrap (n-w)-u64.wrap (w-e)));have hc:=Z54 (i64.wrap (u64.wrap (u64.wrap (n-w)-u64.wrap (w-e))));simp only[List.length_cons] at hs;rw[Z0a.l3,if_pos (by simp;omega),Z06 h1 hk,sb,Z06 h2 (by omega),sb,Z06 h3 (by omega),sb,diff2,rint hI,sb,chkB (by rw[Zv,Zv];omega),Z8 (n:=k+1) (by omega) (by omega),← Z0q,ih (pn++[n]) sw (pw++[w]) se (pe++[e]) _ (k+1) (by simp[h1]) (by simp[h2]) (by simp[h3]) (by simp[l1]) (by simpa using l2) (by simp[l3]) (by simpa using l4) (by simp;omega) (by simp only[List.length_append];omega),Z92,Z92,Zav];simp
theorem renc_l0 {l:List Z6} (hc:COk l) (hF:∀ s∈l,Fits s.f1):∀ (suf pre:List Z6) (q p:Option Z6) (s:List Bool) (i:Int),l=pre++suf→i=(pre.length:Int)→Two pre q p→s.length+80000*suf.length<500000000000 →
  Z0a.l0 l (allI 0 l) (allI 1 l) (strB s) i=some (strB (s++body (allI 0 l) (allI 1 l) q p suf)):=by
 have lP:=hc.pos;have lN:=hc.neg;intro suf
 induction suf with
 | nil =>
  intro pre q p s i h1 hi _ _;rw[Z0a.l0,if_neg (by rw[h1];simp[hi])];cases q<;>cases p<;>simp[body]
 | cons x suf ih =>
  intro pre q p s i h1 hi h2 hs;have hlen:l.length=pre.length+(suf.length+1):=by rw[h1];simp
  have h32:=hc.len;have hx:=hc.ok x (by rw[h1];simp);have fx:=hF x (by rw[h1];simp);have hrl:=Z61 x.f1 (allI 0 l) (allI 1 l);have R:=num_eq hx.1 (allI 0 l) (allI 1 l) (by omega) (by omega);have hru:=rows_u64 hx.1 fx (allI 0 l) (allI 1 l);simp only[List.length_cons] at hs;have hup:=hc.up;rw[h1] at hup;have h2x:=h2.next x
  rw[Z0a.l0,if_pos (by simp;omega),Z06 h1 hi,sb,R,sb,Z8 (n:=i+1) (by omega) (by omega)];rcases h2 with ⟨rfl,rfl,rfl⟩ | ⟨y,rfl,rfl,rfl⟩ | ⟨P0,y,w,rfl,rfl,rfl⟩
  ·have hi0:i=0:=by simpa using hi
   subst hi0;have hc1:=Z0t x.f0.toNat;have hr0:=Zcx (Z2y x.f1 (allI 0 l) (allI 1 l));rw[if_pos (by simp),Z06 h1 hi,sb,Z2l (n:=x.f0) (by omega) (by omega),rcountI ⟨hx.2.1,by omega⟩,sb,chkB (by rw[Zv,Zv];omega),← Z0q,renc_1 l _ _ (Z2y x.f1 (allI 0 l) (allI 1 l)) 0 (by omega) hru (Z2y x.f1 (allI 0 l) (allI 1 l)) [] _ 0 rfl rfl (by simp only[List.length_append];omega),sb,sb];rw[ih [x] none (some x) _ (0+1) (by simp[h1]) (by simp) h2x (by simp only[List.length_append];omega),body];simp
  ·have hi1:i=1:=by simpa using hi
   subst hi1;have hy:=hc.ok y (by rw[h1];simp);have hyx:y.f0<x.f0:=(List.pairwise_append.1 hup).2.2 y (by simp) x (by simp);have hyl:=Z61 y.f1 (allI 0 l) (allI 1 l);have hc1:=Z0t (x.f0-y.f0-1).toNat;have hr0:=Z8i (Z2y x.f1 (allI 0 l) (allI 1 l)) (Z2y y.f1 (allI 0 l) (allI 1 l));have a1:at? l 1=some x:=Z06 h1 hi;have a0:at? l 0=some y:=Z06 (pre:=[]) (x:=y) (suf:=x::suf) (by simp[h1]) rfl;rw[if_neg (by simp),show i64.wrap ((1:Int)-1)=0 by decide,a0,sb,num_eq hy.1 _ _ (by omega) (by omega),sb,if_pos (by simp),a1,sb,sb,Z8 (n:=x.f0-y.f0) (by omega) (by omega),Z8 (n:=x.f0-y.f0-1) (by omega) (by omega),Z2l (n:=x.f0-y.f0-1) (by omega) (by omega),rcountI ⟨by omega,by omega⟩,sb,chkB (by rw[Zv,Zv];omega),← Z0q,
    renc_2 l _ _ (Z2y x.f1 (allI 0 l) (allI 1 l)) (Z2y y.f1 (allI 0 l) (allI 1 l)) 1 (by omega) (Z2y x.f1 (allI 0 l) (allI 1 l)) [] (Z2y y.f1 (allI 0 l) (allI 1 l)) [] _ 0 rfl rfl rfl (by omega) rfl (by simp only[List.length_append];omega),sb,sb]
   rw[ih [y,x] (some y) (some x) _ (1+1) (by simp[h1]) (by simp) h2x (by simp only[List.length_append];omega),body];simp
  ·have hi2:i=(P0.length:Int)+2:=by rw[hi];simp
   have hw:=hc.ok w (by rw[h1];simp);have hy:=hc.ok y (by rw[h1];simp);have hwx:w.f0<x.f0:=(List.pairwise_append.1 hup).2.2 w (by simp) x (by simp);have hwl:=Z61 w.f1 (allI 0 l) (allI 1 l);have hyl:=Z61 y.f1 (allI 0 l) (allI 1 l);have hc1:=Z54 (x.f0-2*w.f0+y.f0);have hsl2:=Zcu (a:=Z2y x.f1 (allI 0 l) (allI 1 l)) (b:=Z2y w.f1 (allI 0 l) (allI 1 l)) (by omega);have hr0:=Z8i (subR (Z2y x.f1 (allI 0 l) (allI 1 l)) (Z2y w.f1 (allI 0 l) (allI 1 l))) (subR (Z2y w.f1 (allI 0 l) (allI 1 l)) (Z2y y.f1 (allI 0 l) (allI 1 l)));have aw:at? l (i-1)=some w:=Z06 (pre:=P0++[y]) (x:=w) (suf:=x::suf) (by simp[h1]) (by simp;omega);have ay:at? l (i-2)=some y:=Z06 (pre:=P0) (x:=y) (suf:=w::x::suf) (by simp[h1]) (by omega);rw[if_neg (by simp;omega),Z8 (n:=i-1) (by omega) (by omega),aw,sb,num_eq hw.1 _ _ (by omega) (by omega),sb,if_neg (by simp;omega),Z8 (n:=i-2) (by omega) (by omega),ay,sb,num_eq hy.1 _ _ (by omega) (by omega),sb,
    Z8 (n:=2*w.f0) (by omega) (by omega),Z8 (n:=x.f0-2*w.f0) (by omega) (by omega),Z8 (n:=x.f0-2*w.f0+y.f0) (by omega) (by omega),rint (a:=x.f0-2*w.f0+y.f0) (by omega),sb,chkB (by rw[Zv,Zv];omega),← Z0q,
    renc_3 l _ _ (Z2y x.f1 (allI 0 l) (allI 1 l)) (Z2y w.f1 (allI 0 l) (allI 1 l)) (Z2y y.f1 (allI 0 l) (allI 1 l)) i (by omega) (Z2y x.f1 (allI 0 l) (allI 1 l)) [] (Z2y w.f1 (allI 0 l) (allI 1 l)) [] (Z2y y.f1 (allI 0 l) (allI 1 l)) [] _ 0 rfl rfl rfl rfl (by omega) rfl (by omega) rfl (by simp only[List.length_append];omega),sb,sb]
   rw[ih (P0++[y,w]++[x]) (some w) (some x) _ (i+1) (by simp[h1]) (by simp at hi ⊢;omega) h2x (by simp only[List.length_append];omega),body];simp
theorem renc_eq {l:List Z6} (hc:COk l) (hne:l≠[]) (hF:∀ s∈l,Fits s.f1):∃ (b:List Int) (f:Nat),Z0a.f l=some b∧Laid b f (Z6s l):=by
 obtain⟨iP,iN⟩:=hc.ids hF;have lP:=hc.pos;have lN:=hc.neg;have h32:=hc.len;have vs:∀ s∈l,Z24 s.f1:=fun s hs=>(hc.ok s hs).1
 have hcl:=Z9u hc hF;obtain⟨h,r,rfl⟩:∃ h r,l=h::r:=by
  cases l with
  | nil=>exact absurd rfl hne
  | cons h r=>exact⟨h,r,rfl⟩
 have vh:=vs h (by simp);have hsch:=vh.schema;have hz:=vh.zero;have hk:=vh.kind;have h1:=Z54 h.f1.f2;have h2:=Zbr (lay (allI 0 (h::r)));have h3:=Zbr (lay (allI 1 (h::r)));have h4:=@Z5s (allI 0 (h::r));have h5:=@Z5s (allI 1 (h::r));have h6:=Z0t ((h::r).length-1);have q0:=lay_f0 iP;have q1:=lay_f0 iN;have hs1:=hsch.1;have hs2:=hsch.2;have hw:u64.wrap (i64.wrap (h.f1.f1+4))=(((h.f1.f1+4).toNat:Nat):Int):=by
  rw[Z8 (by omega) (by omega),Z2l (by omega) (by omega)];omega
 have hkk:Z2w.f (u64.wrap h.f1.f0) 1=some (strB [h.f1.f0==1]):=by
  rcases hk with e | e
  ·rw[e];have:=rput (n:=0) (k:=1) (by omega) (by omega);exact this
  ·rw[e];have:=rput (n:=1) (k:=1) (by omega) (by omega);exact this
 have hln:u64.wrap (i64.wrap (((h::r).length:Int)-1))=(((h::r).length-1:Nat):Int):=by
  simp only[List.length_cons] at h32 ⊢;rw[Z8 (by omega) (by omega),Z2l (by omega) (by omega)];omega
 unfold Z0a.f;rw[show at? (h::r) 0=some h from rfl,sb,rall_eq _ (by omega) vs (.inl rfl),sb,rall_eq _ (by omega) vs (.inr rfl),sb,hkk,sb,hw,show Z2w.f (((h.f1.f1+4).toNat:Nat):Int) 4=_ from rput (k:=4) (by omega) (by omega),sb];rw[chkB (by rw[Zv,Zv,Z5e];simp),rint (by omega),sb,← Z0q,chkB (by rw[Zv,Zv];simp only[List.length_append,Z5e,List.length_singleton];omega),rof_eq (by omega) iP.sm,sb,← Z0q];rw[rspan (lay (allI 0 (h::r))) (by omega) (lay_rsp iP lP) (by omega),sb,chkB (by rw[Zv,Zv];simp only[List.length_append,Z5e,List.length_singleton];omega),rof_eq (by omega) iN.sm,sb,← Z0q];rw[rspan (lay (allI 1 (h::r))) (by omega) (lay_rsp iN lN) (by omega),sb,chkB (by rw[Zv,Zv];simp only[List.length_append,Z5e,List.length_singleton];omega),← Z0q,hln,Z7p (by omega),sb,chkB (by rw[Zv,Zv];simp only[List.length_append,Z5e,List.length_singleton];omega),← Z0q];rw[renc_l0 hc hF (h::r) [] none none _ 0 rfl rfl (.inl ⟨rfl,rfl,rfl⟩) (by simp only[List.length_append,Z5e,List.length_singleton];omega),sb];have e:[h.f1.f0==1]++nb (h.f1.f1+4).toNat 4++intB h.f1.f2++lyB (lay (allI 0 (h::r)))++lyB (lay (allI 1 (h::r)))++cnt2 ((h::r).length-1)++body (allI 0 (h::r)) (allI 1 (h::r)) none none (h::r)=Z6s (h::r):=by
  unfold Z6s;simp
 rw[e];obtain⟨b,f,eb,hb⟩:=rbytes (Z6s (h::r)) (by omega);rw[eb,sb];exact⟨b,f,rfl,hb⟩
variable {b:List Int}
theorem wide_eq {p n:Nat} (hp:p≤1000000) (hn:n≤1000000):i64.wrap (i64.wrap ((2:Int)+(p:Int))+(n:Int))=((2+p+n:Nat):Int):=by
 rw[Z8 (n:=(2:Int)+(p:Int)) (by omega) (by omega),Z8 (by omega) (by omega)];omega
end Go.Proofs.YtpoihfcehejgfaaGreat.PvGS2
namespace Go.Proofs.YtpoihfcehejgfaaGreat.PvGS2
open Go Go.Pv Go.Pv.GS Go.IntKind
theorem small_neg {b:List Int} (hb:Src b) {a:Nat} (ha:a≤8*b.length):∃ (a1:Nat) (e:Int),Z7.f b (a:Int) 0 (-1)=some (0,(a1:Int),e)∧a1≤8*b.length∧e≠0:=by
 unfold Z7.f;obtain⟨n,a1,e,h1,h2,h3,h4⟩:=Ze4 hb ha;rw[h1,sb,if_pos (by simp),sb,if_pos rfl];dsimp only;by_cases he:e=0
 ·subst he;rw[rfail0,sb];exact⟨a1,9,rfl,h2,by omega⟩
 ·rw[rfail1 he,sb];exact⟨a1,e,rfl,h2,he⟩
theorem Zf4 {b:List Int} (hb:Src b):∀ (m a:Nat) (e:Int),8*b.length-a≤m→a≤8*b.length→∃ a' e',Zz.l0 b (a:Int) e=some (a',e'):=by
 intro m;have hl:=hb.len
 induction m with
 | zero =>
  intro a e h ha;unfold Zz.l0 Z0u.f;by_cases he:e=0
  ·rw[if_pos (by simpa using he),sb,Z8 (n:=(8:Int)*(b.length:Int)) (by omega) (by omega),Z8 (by omega) (by omega),sb,if_neg (by simp;omega)];exact⟨_,_,rfl⟩
  ·rw[if_neg (by simpa using he),sb,if_neg (by simp)];exact⟨_,_,rfl⟩
 | succ m ih =>
  intro a e h ha;unfold Zz.l0 Z0u.f;by_cases he:e=0
  case neg=>rw[if_neg (by simpa using he),sb,if_neg (by simp)];exact⟨_,_,rfl⟩
  subst he;rw[if_pos (by simp),sb,Z8 (n:=(8:Int)*(b.length:Int)) (by omega) (by omega),Z8 (by omega) (by omega),sb];by_cases h0:a<8*b.length
  case neg=>rw[if_neg (by simp;omega)];exact⟨_,_,rfl⟩
  have hlt:a<(Z12 b).length:=by rw[Z2j];exact h0
  rw[if_pos (by simp;omega),rbit_ok hb (List.getElem?_eq_getElem hlt),sb];dsimp only;obtain⟨x,hx⟩:∃ x,((if(Z12 b)[a]=true then((Zn.f b ((a+1:Nat):Int) 0 6)>>=fun t3461=>some t3461) else(some (0:Int))):Option (Int))=some x:=by
   split
   ·rw[rfail0,sb];exact⟨_,rfl⟩
   ·exact⟨_,rfl⟩
  rw[hx,sb];exact ih (a+1) x (by omega) (by omega)
theorem end_tot {b:List Int} (hb:Src b) {a:Nat} (ha:a≤8*b.length) (e:Int):∃ r a' e',Zz.f b (a:Int) e=some (r,a',e'):=by
 have hl:=hb.len;unfold Zz.f Z0u.f;by_cases he:e=0
 ·subst he
  rw[if_pos (by simp),sb,Z8 (n:=(8:Int)*(b.length:Int)) (by omega) (by omega),Z8 (by omega) (by omega),sb];obtain⟨x,hx⟩:∃ x,((if(decide ((8:Int)*(b.length:Int)-(a:Int)≥(8:Int)))=true then((Zn.f b (a:Int) 0 6)>>=fun t3423=>some t3423) else(some (0:Int))):Option (Int))=some x:=by
   split
   ·rw[rfail0,sb];exact⟨_,rfl⟩
   ·exact⟨_,rfl⟩
  rw[hx,sb];obtain⟨a',e',h⟩:=Zf4 hb _ a x (Nat.le_refl _) ha;rw[h,sb];exact⟨_,_,_,rfl⟩
 ·rw[if_neg (by simpa using he),sb,if_neg (by simp),sb]
  obtain⟨a',e',h⟩:=Zf4 hb _ a e (Nat.le_refl _) ha;rw[h,sb];exact⟨_,_,_,rfl⟩
theorem eqloop {α:Type} [DecidableEq α] (a b:List α) (hl:a.length=b.length) (ha:a.length<1000000000000) (ne:α→α→Bool) (hne:∀ x y,ne x y = !decide (x=y)) (F:Int→Option (Bool ⊕ Unit)) (hF:∀ i,F i=if(decide (i<(a.length:Int)))=true then((at? a i)>>=fun x=>(at? b i)>>=fun y=>if ne x y=true then(some (.inl false)) else F (i64.wrap (i+(1:Int)))) else(some (.inr ()))) :
  ∀ (sa pa sb' pb:List α) (i:Int),a=pa++sa→b=pb++sb'→pa.length=pb.length→i=(pa.length:Int)→F i=some (if sa=sb' then .inr () else .inl false):=by
 intro sa
 induction sa with
 | nil =>
  intro pa sb' pb i h1 h2 h3 hi;have e:sb'=[]:=by
   have l1:=congrArg List.length h1;have l2:=congrArg List.length h2;simp only[List.length_append,List.length_nil] at l1 l2;exact List.length_eq_zero_iff.1 (by omega)
  rw[hF,if_neg (by rw[h1];simp[hi]),e,if_pos rfl]
 | cons x sa ih =>
  intro pa sb' pb i h1 h2 h3 hi;have l1:=congrArg List.length h1;have l2:=congrArg List.length h2;simp only[List.length_append,List.length_cons] at l1 l2;cases sb' with
  | nil=>simp only[List.length_nil] at l2;omega
  | cons y sb' =>
   rw[hF,if_pos (by simp;omega),Z06 h1 hi,sb,Z06 h2 (by omega),sb,hne,Z8 (by omega) (by omega)];by_cases c:x=y
   ·subst c
    rw[if_neg (by simp),ih (pa++[x]) sb' (pb++[x]) (i+1) (by simp[h1]) (by simp[h2]) (by simp[h3]) (by simp;omega)];by_cases c2:sa=sb'
    ·rw[if_pos c2,if_pos (by rw[c2])]
    ·rw[if_neg c2,if_neg (by simp[c2])]
   ·rw[if_pos (by simp[c]),if_neg (by simp[c])]
theorem byte_ne (x y:Int):(x != y) = !decide (x=y):=by
 by_cases h:x=y<;>simp[h]
theorem eqbytes (a b:List Int) (ha:a.length<1000000000000):Z0r.f a b=some (decide (a=b)):=by
 unfold Z0r.f;by_cases hl:a.length=b.length
 ·have L:=eqloop a b hl ha (fun x y=>x != y) byte_ne (                Z0r.l0 a b) (fun i=>by rw[                Z0r.l0]) a [] b [] 0 rfl rfl rfl rfl
  rw[if_neg (by simp;omega),L,sb];by_cases c:a=b
  ·rw[if_pos c,decide_eq_true c]
  ·rw[if_neg c,decide_eq_false c]
 ·rw[if_pos (by simp;omega),decide_eq_false (fun h=>hl (by rw[h]))]
end Go.Proofs.YtpoihfcehejgfaaGreat.PvGS2
