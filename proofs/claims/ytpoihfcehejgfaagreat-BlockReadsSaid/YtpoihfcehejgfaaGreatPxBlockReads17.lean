import Derived.Test.YtpoihfcehejgfaaGreatPxBlockReads16
set_option linter.unusedVariables false
set_option linter.unusedSimpArgs false
namespace Go.Proofs.YtpoihfcehejgfaaGreat.PvGS2
open Go Go.Pv Go.Pv.GS Go.IntKind
structure BOk (s z:Int) (b:Z0):Prop where
 ins:InS s b.f0
 pos:0<b.f1
 low:z≤(b.f0-1)*stp s
def Up:Option Int→List Z0→Prop
 | _,[]=>True
 | p,b::l=>(∀ q,p=some q→q<b.f0)∧Up (some b.f0) l
theorem up_iff:∀ (l:List Z0) (p:Option Int),Up p l↔(∀ q,p=some q→∀ b∈l,q<b.f0)∧l.Pairwise (fun a b=>a.f0<b.f0)
 | [],p=>by simp[Up]
 | x::l,p=>by
  rw[Up,up_iff l,List.pairwise_cons];constructor
  ·rintro⟨h1,h2,h3⟩
   refine⟨fun q hq b hb => ?_,fun b hb=>h2 _ rfl b hb,h3⟩;have h4:=h1 q hq;rcases List.mem_cons.1 hb with rfl | hb
   ·exact h4
   ·have:=h2 _ rfl b hb;omega
  ·rintro⟨h1,h2,h3⟩
   exact⟨fun q hq=>h1 q hq x (by simp),fun q hq b hb=>by cases hq;exact h2 b hb,h3⟩
structure Side (s z:Int) (l:List Z0):Prop where
 len:l.length≤512
 ok:∀ b∈l,BOk s z b
 up:l.Pairwise (fun a b=>a.f0<b.f0)
theorem Side.canon {s z:Int} {l:List Z0} (h:Side s z l):Z3p l:=⟨h.up,fun b hb=>(h.ok b hb).pos⟩
structure Z24 (h:Zh):Prop where
 kind:h.f0=0∨h.f0=1
 schema:Z19 h.f1
 zero:h.f2 = -524288∨(-262144<h.f2∧h.f2≤262144)
 pos:Side h.f1 h.f2 h.f6
 neg:Side h.f1 h.f2 h.f7
 total:cnt h.f6+cnt h.f7+h.f3<18446744073709551616
 count:h.f4=cnt h.f6+cnt h.f7+h.f3
theorem last_pre {l pre:List Z0} {x:Z0} {suf:List Z0} {i:Int} (h1:l=pre++x::suf) (hi:i=(pre.length:Int)) (h0:0<i) (hl:l.length<1000000000) :
  ∃ q,(pre.getLast?).map (·.f0)=some q∧∃ y,at? l (i64.wrap (i-1))=some y∧y.f0=q:=by
 rcases List.eq_nil_or_concat pre with rfl | ⟨P,p,rfl⟩
 ·simp at hi;omega
 ·simp only[List.concat_eq_append] at *
  have hlen:l.length=P.length+1+(suf.length+1):=by rw[h1];simp;omega
  have hi2:i=(P.length:Int)+1:=by rw[hi];simp
  rw[Z8 (by omega) (by omega)];exact⟨p.f0,by simp,p,Z06 (pre:=P) (suf:=x::suf) (by simp[h1]) (by omega),rfl⟩
theorem no_pre {pre:List Z0} {i:Int} (hi:i=(pre.length:Int)) (h0:¬ 0<i):(pre.getLast?).map (·.f0)=none:=by
 have:pre=[]:=List.length_eq_zero_iff.1 (by omega);subst this;rfl
theorem buckets_l0 (h:Zh) (l:List Z0) (hs:Z19 h.f1) (hl:l.length<1000000000):∀ (suf pre:List Z0) (i:Int),l=pre++suf→i=(pre.length:Int)→(∀ b∈suf,U64 b.f1) →
  ∃ r,Zt.l0 h l i=some r∧(∀ c,r = .inl c→c≠0)∧(r = .inr ()↔(∀ b∈suf,BOk h.f1 h.f2 b)∧Up ((pre.getLast?).map (·.f0)) suf):=by
 intro suf
 induction suf with
 | nil =>
  intro pre i h1 hi _;subst h1;rw[Zt.l0,if_neg (by simp[hi])];exact⟨_,rfl,by simp,by simp[Up]⟩
 | cons x suf ih =>
  intro pre i h1 hi hU;have hx:=hU x (by simp);have hlen:(l.length:Int)=pre.length+(suf.length+1):=by rw[h1];simp
  rw[Zt.l0,if_pos (by simp;omega),Z06 h1 hi,sb,in_T hs,sb];by_cases c1:InS h.f1 x.f0
  case neg =>
   rw[if_pos (by simp[c1])];exact⟨_,rfl,by simp,by simp;intro h;exact absurd h.ins c1⟩
  rw[if_neg (by simp[c1])];have hprev:∃ c:Bool,((if(decide (i>(0:Int)))=true then((at? l (i64.wrap (i-(1:Int))))>>=fun b922=>some (decide (b922.f0≥x.f0))) else(some false)):Option (Bool))=some c∧(c=false↔∀ q,(pre.getLast?).map (·.f0)=some q→q<x.f0):=by
   by_cases h0:0<i
   ·obtain⟨q,e1,y,e2,e3⟩:=last_pre h1 hi h0 hl
    rw[if_pos (by simpa using h0),e2,sb];exact⟨_,rfl,by rw[e1,e3];simp⟩
   ·rw[if_neg (by simpa using h0)]
    exact⟨_,rfl,by rw[no_pre hi h0];simp⟩
  obtain⟨c,ec,hc⟩:=hprev;rw[ec,sb,low_T hs c1];cases c with
  | true =>
   rw[if_pos rfl];refine⟨_,rfl,by simp,by simp;intro _ _ h2;exact absurd (hc.2 h2.1) (by simp)⟩
  | false =>
   rw[if_neg (by simp)];by_cases c2:x.f1=0
   ·rw[if_pos (by simpa using c2)]
    exact⟨_,rfl,by simp,by simp;intro h;have:=h.pos;omega⟩
   rw[if_neg (by simpa using c2),sb];by_cases c3:(x.f0-1)*stp h.f1<h.f2
   ·rw[if_pos (by simpa using c3)]
    exact⟨_,rfl,by simp,by simp;intro h;have:=h.low;omega⟩
   rw[if_neg (by simpa using c3),Z8 (n:=i+1) (by omega) (by omega)];obtain⟨r,e,e1,e2⟩:=ih (pre++[x]) (i+1) (by simp[h1]) (by simp;omega) (fun b hb=>hU b (by simp[hb]));refine⟨r,e,e1,?_⟩;rw[e2];simp only[List.getLast?_append,List.getLast?_singleton,Option.some_or,Option.map_some,Up,List.forall_mem_cons];have hb:BOk h.f1 h.f2 x:=⟨c1,by omega,by omega⟩
   constructor
   ·rintro⟨a,b⟩;exact⟨⟨hb,a⟩,hc.1 rfl,b⟩
   ·rintro⟨⟨_,a⟩,_,b⟩;exact⟨a,b⟩
theorem Zah (h:Zh) (l:List Z0) (hs:Z19 h.f1) (hl:l.length<1000000000) (hU:∀ b∈l,U64 b.f1):∃ r,Zt.f h l=some r∧(r=0↔Side h.f1 h.f2 l):=by
 unfold Zt.f;by_cases h0:l.length>512
 ·rw[if_pos (by simp;omega)]
  exact⟨_,rfl,by simp;intro h;have:=h.len;omega⟩
 ·rw[if_neg (by simp;omega)]
  obtain⟨r,e,e1,e2⟩:=buckets_l0 h l hs hl l [] 0 rfl rfl hU;rw[e,sb];cases r with
  | inl c =>
   refine⟨c,rfl,?_⟩;constructor
   ·intro h;exact absurd h (e1 c rfl)
   ·intro h
    exact absurd (e2.2 ⟨h.ok,(up_iff l _).2 ⟨by simp,h.up⟩⟩) (by simp)
  | inr u =>
   refine⟨0,rfl,?_⟩;obtain⟨h1,h2⟩:=e2.1 rfl;exact⟨fun _=>⟨by omega,h1,((up_iff l _).1 h2).2⟩,fun _=>rfl⟩
theorem Ze7 (h:Zh) (hf:Fits h) (hp:h.f6.length<1000000000) (hn:h.f7.length<1000000000):∃ r,Z0d.f h=some r∧(r=0↔Z24 h):=by
 unfold Z0d.f;have hk:((if(h.f0 != (0:Int))=true then(some (h.f0 != (1:Int))) else(some false)):Option (Bool))=some (!decide (h.f0=0∨h.f0=1)):=by
  by_cases h1:h.f0=0
  ·simp[h1]
  ·by_cases h2:h.f0=1<;>simp[h1,h2]
 rw[hk,sb];by_cases c1:h.f0=0∨h.f0=1
 case neg=>rw[if_pos (by simpa using c1)];exact⟨_,rfl,by simp;intro h;exact c1 h.kind⟩
 rw[if_neg (by rw[decide_eq_true c1];decide)];by_cases c2:Z19 h.f1
 case neg=>rw[Zbk c2,sb,if_pos (by simp)];exact⟨_,rfl,by simp;intro h;exact c2 h.schema⟩
 rw[Z6v c2,sb,if_neg (by simp)];have hz:((if(h.f2 != (-524288))=true then(if(decide (h.f2≤(-262144)))=true then(some true) else(some (decide (h.f2>(262144:Int))))) else(some false)):Option (Bool))=some (!decide (h.f2 = -524288∨(-262144<h.f2∧h.f2≤262144))):=by
  by_cases h1:h.f2 = -524288
  ·simp[h1]
  ·by_cases h2:h.f2 ≤ -262144
   ·simp[h1,h2]
   ·have h4 : -262144<h.f2:=by omega
    by_cases h3:h.f2≤262144
    ·simp[h1,h2,h3,h4]
    ·simp[h1,h2,h3,h4];omega
 rw[hz,sb];by_cases c3:h.f2 = -524288∨(-262144<h.f2∧h.f2≤262144)
 case neg=>rw[if_pos (by simp[c3])];exact⟨_,rfl,by simp;intro h;exact c3 h.zero⟩
 rw[if_neg (by simp[c3])];obtain⟨r1,e1,i1⟩:=Zah h h.f6 c2 hp (fun b hb=>(hf.pos b hb).2);obtain⟨r2,e2,i2⟩:=Zah h h.f7 c2 hn (fun b hb=>(hf.neg b hb).2);rw[Z8s,e1,e2,sb,sb];by_cases d1:r1=0
 case neg=>rw[if_pos (by simpa using d1),sb];exact⟨_,rfl,⟨fun h=>absurd h d1,fun h=>absurd (i1.2 h.pos) d1⟩⟩
 rw[if_neg (by simpa using d1)];by_cases d2:r2=0
 case neg=>rw[if_pos (by simpa using d2),sb];exact⟨_,rfl,⟨fun h=>absurd h d2,fun h=>absurd (i2.2 h.neg) d2⟩⟩
 rw[if_neg (by simpa using d2),sb];simp only[];rw[total3 _ _ _ hp hn (fun b hb=>(hf.pos b hb).2) (fun b hb=>(hf.neg b hb).2) hf.zero,sb];by_cases c4:cnt h.f6+cnt h.f7+h.f3<18446744073709551616
 case neg=>rw[if_neg c4,if_pos (by simp)];exact⟨_,rfl,by simp;intro h;exact c4 h.total⟩
 rw[if_pos c4,if_neg (by simp)];by_cases c5:cnt h.f6+cnt h.f7+h.f3=h.f4
 ·rw[if_neg (by simpa using c5)]
  exact⟨0,rfl,fun _=>⟨c1,c2,c3,i1.1 d1,i2.1 d2,c4,c5.symm⟩,fun _=>rfl⟩
 ·rw[if_pos (by simpa using c5)]
  exact⟨_,rfl,by simp;intro h;exact c5 h.count.symm⟩
theorem check_T (h:Zh) (hf:Fits h) (hv:Z24 h):Z0d.f h=some 0:=by
 have hl:=hv.pos.len;have hl2:=hv.neg.len;obtain⟨r,e,i⟩:=Ze7 h hf (by omega) (by omega);rw[e,i.2 hv]
theorem ref_add_l0 (l:List Int) (hl:l.length<4611686018427387904):∀ (suf pre:List Int) (acc i:Int),l=pre++suf→i=(pre.length:Int)→U64 acc→(∀ x∈suf,U64 x) →
  Z45.l0 l acc i=some (if acc+suf.sum<18446744073709551616 then .inr (acc+suf.sum) else .inl (0,5)):=by
 intro suf
 induction suf with
 | nil =>
  intro pre acc i h1 hi ha hs;subst h1;rw[Z45.l0,if_neg (by simp[hi])];simp[ha.2]
 | cons x suf ih =>
  intro pre acc i h1 hi ha hs;have hx:=hs x (by simp);have hs':∀ y∈suf,U64 y:=fun y hy=>hs y (by simp[hy])
  have hnn:0≤suf.sum:=Z7c (fun y hy=>(hs' y hy).1);have hlen:(l.length:Int)=pre.length+(suf.length+1):=by rw[h1];simp
  rw[Z45.l0,if_pos (by rw[h1];simp[hi];omega),Z06 h1 hi,sb,Z2l (n:=18446744073709551615-acc) (by omega) (by omega)];by_cases hov:acc+x<18446744073709551616
  ·rw[if_neg (by simp;omega),Z8     (by omega) (by omega),Z2l   (by omega) (by omega)]
   rw[ih (pre++[x]) (acc+x) (i+1) (by simp[h1]) (by simp;omega) ⟨by omega,hov⟩ hs'];rw[List.sum_cons,Int.add_assoc]
  ·rw[if_pos (by simp;omega),if_neg (by rw[List.sum_cons];omega)]
theorem ref_add (l:List Int) (hl:l.length<4611686018427387904) (h:∀ x∈l,U64 x) :
  Z45.f l=some (if l.sum<18446744073709551616 then(l.sum,0) else(0,5)):=by
 unfold Z45.f;rw[ref_add_l0 l hl l [] 0 0 rfl rfl (by omega) h,sb,Int.zero_add];by_cases h:l.sum<18446744073709551616
 ·rw[if_pos h,if_pos h]
 ·rw[if_neg h,if_neg h]
theorem ref_check_l1 (h:Zh) (x124:Int) (l:List Z0) (hs:Z19 h.f1) (hl:l.length<1000000):∀ (suf pre:List Z0) (acc:List Int) (i:Int),l=pre++suf→i=(pre.length:Int)→acc.length+suf.length<10000000→(∀ b∈suf,I64 b.f0∧U64 b.f1) →
  ∃ r,Z07.l1 h x124 l acc i=some r∧(∀ c,r = .inl c→c≠0)∧((∃ a,r = .inr a)↔(∀ b∈suf,BOk h.f1 h.f2 b)∧Up ((pre.getLast?).map (·.f0)) suf)∧∀ a,r = .inr a→a=acc++suf.map (·.f1):=by
 intro suf
 induction suf with
 | nil =>
  intro pre acc i h1 hi _ _;subst h1;rw[Z07.l1,if_neg (by simp[hi])];exact⟨_,rfl,by simp,by simp[Up],by simp⟩
 | cons x suf ih =>
  intro pre acc i h1 hi ha hU;have hx:=hU x (by simp);have hlen:(l.length:Int)=pre.length+(suf.length+1):=by rw[h1];simp
  simp only[List.length_cons] at ha;rw[Z07.l1,if_pos (by simp;omega),Z06 h1 hi,sb,ref_in hs hx.1,sb];by_cases c1:InS h.f1 x.f0
  case neg =>
   rw[if_pos (by simp[c1])];exact⟨_,rfl,by simp,by simp;intro h;exact absurd h.ins c1,by simp⟩
  rw[if_neg (by simp[c1])];have hsm:=Z48 c1;have hprev:∃ c:Bool,((if(decide (i>(0:Int)))=true then((at? l (i64.wrap (i-(1:Int))))>>=fun b168=>some (decide (x.f0≤b168.f0))) else(some false)):Option (Bool))=some c∧(c=false↔∀ q,(pre.getLast?).map (·.f0)=some q→q<x.f0):=by
   by_cases h0:0<i
   ·obtain⟨q,e1,y,e2,e3⟩:=last_pre h1 hi h0 (by omega)
    rw[if_pos (by simpa using h0),e2,sb];exact⟨_,rfl,by rw[e1,e3];simp⟩
   ·rw[if_neg (by simpa using h0)]
    exact⟨_,rfl,by rw[no_pre hi h0];simp⟩
  obtain⟨c,ec,hc⟩:=hprev;rw[ec,sb,Z8 (n:=x.f0-1) (by omega) (by omega),Z62 hs (by omega)];cases c with
  | true =>
   rw[if_pos rfl];refine⟨_,rfl,by simp,by simp;intro _ _ h2;exact absurd (hc.2 h2.1) (by simp),by simp⟩
  | false =>
   rw[if_neg (by simp)];by_cases c2:x.f1=0
   ·rw[if_pos (by simpa using c2)]
    exact⟨_,rfl,by simp,by simp;intro h;have:=h.pos;omega,by simp⟩
   rw[if_neg (by simpa using c2),sb];by_cases c3:(x.f0-1)*stp h.f1<h.f2
   ·rw[if_pos (by simpa using c3)]
    exact⟨_,rfl,by simp,by simp;intro h;have:=h.low;omega,by simp⟩
   rw[if_neg (by simpa using c3),chkB (by simp;omega),Z8 (n:=i+1) (by omega) (by omega)];obtain⟨r,e,e1,e2,e3⟩:=ih (pre++[x]) (acc++[x.f1]) (i+1) (by simp[h1]) (by simp;omega) (by simp;omega) (fun b hb=>hU b (by simp[hb]));refine⟨r,e,e1,?_,fun a ha=>by rw[e3 a ha];simp⟩;rw[e2];simp only[List.getLast?_append,List.getLast?_singleton,Option.some_or,Option.map_some,Up,List.forall_mem_cons];have hb:BOk h.f1 h.f2 x:=⟨c1,by omega,by omega⟩
   constructor
   ·rintro⟨a,b⟩;exact⟨⟨hb,a⟩,hc.1 rfl,b⟩
   ·rintro⟨⟨_,a⟩,_,b⟩;exact⟨a,b⟩
theorem Za2 (h:Zh) (x124:Int) (l:List Z0) (acc:List Int) (hs:Z19 h.f1) (hl:l.length<1000000000000000) (ha:acc.length<1000000) (hU:∀ b∈l,I64 b.f0∧U64 b.f1) :
  ∃ r:Int ⊕ List Int,(if(decide ((l.length:Int)>(512:Int)))=true then(some (.inl 9)) else(Z07.l1 h x124 l acc 0))=some r∧(∀ c,r = .inl c→c≠0)∧((∃ a,r = .inr a)↔Side h.f1 h.f2 l)∧∀ a,r = .inr a→a=acc++l.map (·.f1):=by
 by_cases h0:l.length>512
 ·rw[if_pos (by simp;omega)]
  exact⟨_,rfl,by simp,by simp;intro h;have:=h.len;omega,by simp⟩
 ·rw[if_neg (by simp;omega)]
  obtain⟨r,e,e1,e2,e3⟩:=ref_check_l1 h x124 l hs (by omega) l [] acc 0 rfl rfl (by omega) hU;refine⟨r,e,e1,e2.trans ⟨fun⟨h1,h2⟩=>⟨by omega,h1,((up_iff l _).1 h2).2⟩,fun h=>⟨h.ok,(up_iff l _).2 ⟨by simp,h.up⟩⟩⟩,e3⟩
theorem ref_check_iff (h:Zh) (hf:Fits h) (hp:h.f6.length<1000000000000000) (hn:h.f7.length<1000000000000000):∃ r,Z07.f h=some r∧(r=0↔Z24 h):=by
 unfold Z07.f;have hk:((if(h.f0 != (0:Int))=true then(some (h.f0 != (1:Int))) else(some false)):Option (Bool))=some (!decide (h.f0=0∨h.f0=1)):=by
  by_cases h1:h.f0=0
  ·simp[h1]
  ·by_cases h2:h.f0=1<;>simp[h1,h2]
 rw[hk,sb];by_cases c1:h.f0=0∨h.f0=1
 case neg=>rw[if_pos (by simpa using c1)];exact⟨_,rfl,by simp;intro h;exact c1 h.kind⟩
 rw[if_neg (by rw[decide_eq_true c1];decide),Z5k,sb];by_cases c2:Z19 h.f1
 case neg=>rw[if_pos (by simp[c2])];exact⟨_,rfl,by simp;intro h;exact c2 h.schema⟩
 rw[if_neg (by simp[c2])];have hz:((if(h.f2 != (-524288))=true then(if(decide (h.f2≤(-262144)))=true then(some true) else(some (decide (h.f2>(262144:Int))))) else(some false)):Option (Bool))=some (!decide (h.f2 = -524288∨(-262144<h.f2∧h.f2≤262144))):=by
  by_cases h1:h.f2 = -524288
  ·simp[h1]
  ·by_cases h2:h.f2 ≤ -262144
   ·simp[h1,h2]
   ·have h4 : -262144<h.f2:=by omega
    by_cases h3:h.f2≤262144
    ·simp[h1,h2,h3,h4]
    ·simp[h1,h2,h3,h4];omega
 rw[hz,sb];by_cases c3:h.f2 = -524288∨(-262144<h.f2∧h.f2≤262144)
 case neg=>rw[if_pos (by simp[c3])];exact⟨_,rfl,by simp;intro h;exact c3 h.zero⟩
 rw[if_neg (by simp[c3])];obtain⟨r1,e1,n1,i1,j1⟩:=Za2 h 0 h.f6 [h.f3] c2 hp (by simp) hf.pos;have w1:i64.wrap (0+1)=1:=by decide
 have w2:i64.wrap (1+1)=2:=by decide
 have step:∀ (k:Int) (l:List Z0) (acc:List Int),(k=0∧l=h.f6∨k=1∧l=h.f7)→Z07.l0 h acc k=((if(decide ((l.length:Int)>(512:Int)))=true then(some (.inl 9)) else(Z07.l1 h k l acc 0))>>=fun(oo:Int ⊕ List Int)=>match oo with | .inl rr=>(some (.inl rr)) | .inr x181=>(Z07.l0 h x181 (k+1))):=by
  intro k l acc hk;rcases hk with ⟨rfl,rfl⟩ | ⟨rfl,rfl⟩
  ·rw[Z07.l0,if_pos (by decide),if_neg (by decide),sb,w1,Zb8];rfl
  ·rw[Z07.l0,if_pos (by decide),if_pos (by decide),sb,w2,Zb8];rfl
 rw[step 0 h.f6 _ (.inl ⟨rfl,rfl⟩),e1,sb];cases r1 with
 | inl c=>exact⟨c,rfl,fun h=>absurd h (n1 c rfl),fun h=>by obtain⟨a,e⟩:=i1.2 h.pos;cases e⟩
 | inr a1 =>
  have hv1:=i1.1 ⟨_,rfl⟩;have ha1:=j1 a1 rfl;have hl1:=hv1.len;obtain⟨r2,e2,n2,i2,j2⟩:=Za2 h 1 h.f7 a1 c2 hn (by rw[ha1];simp;omega) hf.neg;simp only[];rw[show(0:Int)+1=1 from rfl,step 1 h.f7 _ (.inr ⟨rfl,rfl⟩),e2,sb];cases r2 with
  | inl c=>exact⟨c,rfl,fun h=>absurd h (n2 c rfl),fun h=>by obtain⟨a,e⟩:=i2.2 h.neg;cases e⟩
  | inr a2 =>
   have hv2:=i2.1 ⟨_,rfl⟩;have ha2:=j2 a2 rfl;have hl2:=hv2.len;simp only[];rw[show(1:Int)+1=2 from rfl,Z07.l0,if_neg (by decide),sb];simp only[];have hall:a2=[h.f3]++h.f6.map (·.f1)++h.f7.map (·.f1):=by rw[ha2,ha1]
   have hsum:a2.sum=cnt h.f6+cnt h.f7+h.f3:=by rw[hall];simp[cnt];omega
   rw[ref_add a2 (by rw[hall];simp;omega) (by
    intro x hx;rw[hall] at hx;simp only[List.mem_append,List.mem_singleton,List.mem_map] at hx;rcases hx with (rfl | ⟨b,hb,rfl⟩) | ⟨b,hb,rfl⟩
    ·exact hf.zero
    ·exact(hf.pos b hb).2
    ·exact(hf.neg b hb).2),sb,hsum]
   by_cases c4:cnt h.f6+cnt h.f7+h.f3<18446744073709551616
   case neg=>rw[if_neg c4,if_pos (by simp)];exact⟨_,rfl,by simp;intro h;exact c4 h.total⟩
   rw[if_pos c4,if_neg (by simp)];by_cases c5:cnt h.f6+cnt h.f7+h.f3=h.f4
   ·rw[if_neg (by simpa using c5)]
    exact⟨0,rfl,fun _=>⟨c1,c2,c3,hv1,hv2,c4,c5.symm⟩,fun _=>rfl⟩
   ·rw[if_pos (by simpa using c5)]
    exact⟨_,rfl,by simp;intro h;exact c5 h.count.symm⟩
theorem bk_same (h:Zh) (x124:Int) (l:List Z0) (hs:Z19 h.f1) (hl:l.length<1000000):∀ (suf pre:List Z0) (acc:List Int) (i:Int),l=pre++suf→i=(pre.length:Int)→acc.length+suf.length<10000000→(∀ b∈suf,I64 b.f0∧U64 b.f1) →
  ∃ r:Int,Zt.l0 h l i=some (if r=0 then .inr () else .inl r)∧Z07.l1 h x124 l acc i=some (if r=0 then .inr (acc++suf.map (·.f1)) else .inl r):=by
 intro suf
 induction suf with
 | nil =>
  intro pre acc i h1 hi _ _;subst h1;refine⟨0,?_,?_⟩
  ·rw[Zt.l0,if_neg (by simp[hi]),if_pos rfl]
  ·rw[Z07.l1,if_neg (by simp[hi]),if_pos rfl];simp
 | cons x suf ih =>
  intro pre acc i h1 hi ha hU;have hx:=hU x (by simp);have hlen:(l.length:Int)=pre.length+(suf.length+1):=by rw[h1];simp
  simp only[List.length_cons] at ha;by_cases c1:InS h.f1 x.f0
  case neg =>
   refine⟨4,?_,?_⟩
   ·rw[Zt.l0,if_pos (by simp;omega),Z06 h1 hi,sb,in_T hs,sb,if_pos (by simp[c1]),if_neg (by omega)]
   ·rw[Z07.l1,if_pos (by simp;omega),Z06 h1 hi,sb,ref_in hs hx.1,sb,if_pos (by simp[c1]),if_neg (by omega)]
  have hsm:=Z48 c1;obtain⟨c,ec1,ec2⟩:∃ c:Bool,((if(decide (i>(0:Int)))=true then((at? l (i64.wrap (i-(1:Int))))>>=fun b922=>some (decide (b922.f0≥x.f0))) else(some false)):Option (Bool))=some c ∧
    ((if(decide (i>(0:Int)))=true then((at? l (i64.wrap (i-(1:Int))))>>=fun b168=>some (decide (x.f0≤b168.f0))) else(some false)):Option (Bool))=some c:=by
   by_cases h0:0<i
   ·obtain⟨q,e1,y,e2,e3⟩:=last_pre h1 hi h0 (by omega)
    exact⟨decide (x.f0≤y.f0),by rw[if_pos (by simpa using h0),e2,sb],by rw[if_pos (by simpa using h0),e2,sb]⟩
   ·exact⟨false,by rw[if_neg (by simpa using h0)],by rw[if_neg (by simpa using h0)]⟩
  have P:Zt.l0 h l i=(if c=true then some (.inl 32) else if x.f1=0 then some (.inl 21) else if(x.f0-1)*stp h.f1<h.f2 then some (.inl 31) else Zt.l0 h l (i+1)):=by
   rw[Zt.l0,if_pos (by simp;omega),Z06 h1 hi,sb,in_T hs,sb,if_neg (by simp[c1]),ec1,sb,low_T hs c1,Z8 (n:=i+1) (by omega) (by omega)];simp only[sb];simp
  have Q:Z07.l1 h x124 l acc i=(if c=true then some (.inl 32) else if x.f1=0 then some (.inl 21) else if(x.f0-1)*stp h.f1<h.f2 then some (.inl 31) else Z07.l1 h x124 l (acc++[x.f1]) (i+1)):=by
   rw[Z07.l1,if_pos (by simp;omega),Z06 h1 hi,sb,ref_in hs hx.1,sb,if_neg (by simp[c1]),ec2,sb,Z8 (n:=x.f0-1) (by omega) (by omega),Z62 hs (by omega),chkB (by simp;omega),Z8 (n:=i+1) (by omega) (by omega)];simp only[sb];simp
  cases c with
  | true=>exact⟨32,by rw[P,if_pos rfl,if_neg (by omega)],by rw[Q,if_pos rfl,if_neg (by omega)]⟩
  | false =>
   by_cases c2:x.f1=0
   ·exact⟨21,by rw[P,if_neg (by simp),if_pos c2,if_neg (by omega)],by rw[Q,if_neg (by simp),if_pos c2,if_neg (by omega)]⟩
   by_cases c3:(x.f0-1)*stp h.f1<h.f2
   ·exact⟨31,by rw[P,if_neg (by simp),if_neg c2,if_pos c3,if_neg (by omega)],by rw[Q,if_neg (by simp),if_neg c2,if_pos c3,if_neg (by omega)]⟩
   obtain⟨r,e1,e2⟩:=ih (pre++[x]) (acc++[x.f1]) (i+1) (by simp[h1]) (by simp;omega) (by simp;omega) (fun b hb=>hU b (by simp[hb]));exact⟨r,by rw[P,if_neg (by simp),if_neg c2,if_neg c3,e1],by rw[Q,if_neg (by simp),if_neg c2,if_neg c3,e2];simp⟩
theorem side_same (h:Zh) (x124:Int) (l:List Z0) (acc:List Int) (hs:Z19 h.f1) (ha:acc.length<1000000) (hU:∀ b∈l,I64 b.f0∧U64 b.f1) :
  ∃ r:Int,Zt.f h l=some r∧(if(decide ((l.length:Int)>(512:Int)))=true then(some (.inl 9)) else(Z07.l1 h x124 l acc 0))=some (if r=0 then Sum.inr (acc++l.map (·.f1)) else .inl r):=by
 by_cases h0:l.length>512
 ·refine⟨9,?_,?_⟩
  ·unfold             Zt.f
   rw[if_pos (by simp;omega)]
  ·rw[if_pos (by simp;omega),if_neg (by omega)]
 ·obtain⟨r,e1,e2⟩:=bk_same h x124 l hs (by omega) l [] acc 0 rfl rfl (by omega) hU
  refine⟨r,?_,?_⟩
  ·unfold             Zt.f
   rw[if_neg (by simp;omega),e1,sb];by_cases c:r=0
   ·rw[if_pos c];simp[c]
   ·rw[if_neg c]
  ·rw[if_neg (by simp;omega),e2]
theorem check_same (h:Zh) (hf:Fits h) (hp:h.f6.length<1000000000000000) (hn:h.f7.length<1000000000000000):∃ r,Z0d.f h=some r∧Z07.f h=some r∧(r=0↔Z24 h):=by
 obtain⟨r,er,hr⟩:=ref_check_iff h hf hp hn;refine⟨r,?_,er,hr⟩
 suffices q:Z07.f h=Z0d.f h by rw[← q];exact er
 clear er hr;have hk:((if(h.f0 != (0:Int))=true then(some (h.f0 != (1:Int))) else(some false)):Option (Bool))=some (!decide (h.f0=0∨h.f0=1)):=by
  by_cases h1:h.f0=0
  ·simp[h1]
  ·by_cases h2:h.f0=1<;>simp[h1,h2]
 have hz:((if(h.f2 != (-524288))=true then(if(decide (h.f2≤(-262144)))=true then(some true) else(some (decide (h.f2>(262144:Int))))) else(some false)):Option (Bool))=some (!decide (h.f2 = -524288∨(-262144<h.f2∧h.f2≤262144))):=by
  by_cases h1:h.f2 = -524288
  ·simp[h1]
  ·by_cases h2:h.f2 ≤ -262144
   ·simp[h1,h2]
   ·have h4 : -262144<h.f2:=by omega
    by_cases h3:h.f2≤262144
    ·simp[h1,h2,h3,h4]
    ·simp[h1,h2,h3,h4];omega
 unfold Z0d.f Z07.f;rw[hk,sb,sb,Z5k];by_cases c1:h.f0=0∨h.f0=1
 case neg=>rw[if_pos (by simpa using c1),if_pos (by simpa using c1)]
 have hk1:¬ ((!decide (h.f0=0∨h.f0=1))=true):=by rw[decide_eq_true c1];decide
 rw[if_neg hk1,if_neg hk1];by_cases c2:Z19 h.f1
 case neg=>rw[Zbk c2,sb,sb,if_pos (by simp[c2]),if_pos (by simp)]
 rw[Z6v c2,sb,sb];rw[if_neg (show ¬ ((!decide (Z19 h.f1))=true) by simp[c2]),if_neg (show ¬ ((!true)=true) by simp),hz,sb,sb];by_cases c3:h.f2 = -524288∨(-262144<h.f2∧h.f2≤262144)
 case neg =>
  have hk3:(!decide (h.f2 = -524288∨(-262144<h.f2∧h.f2≤262144)))=true:=by rw[decide_eq_false c3];rfl
  rw[if_pos hk3,if_pos hk3]
 have hk3:¬ ((!decide (h.f2 = -524288∨(-262144<h.f2∧h.f2≤262144)))=true):=by rw[decide_eq_true c3];decide
 rw[if_neg hk3,if_neg hk3];obtain⟨r1,p1,q1⟩:=side_same h 0 h.f6 [h.f3] c2 (by simp) hf.pos;have w1:i64.wrap (0+1)=1:=by decide
 have w2:i64.wrap (1+1)=2:=by decide
 have step:∀ (k:Int) (l:List Z0) (acc:List Int),(k=0∧l=h.f6∨k=1∧l=h.f7)→Z07.l0 h acc k=((if(decide ((l.length:Int)>(512:Int)))=true then(some (.inl 9)) else(Z07.l1 h k l acc 0))>>=fun(oo:Int ⊕ List Int)=>match oo with | .inl rr=>(some (.inl rr)) | .inr x181=>(Z07.l0 h x181 (k+1))):=by
  intro k l acc hk;rcases hk with ⟨rfl,rfl⟩ | ⟨rfl,rfl⟩
  ·rw[Z07.l0,if_pos (by decide),if_neg (by decide),sb,w1,Zb8];rfl
  ·rw[Z07.l0,if_pos (by decide),if_pos (by decide),sb,w2,Zb8];rfl
 rw[step 0 h.f6 _ (.inl ⟨rfl,rfl⟩),q1,sb,Z8s,p1,sb];by_cases d1:r1=0
 case neg=>rw[if_neg d1,if_pos (by simpa using d1)];simp only[sb]
 rw[if_pos d1,if_neg (by simpa using d1)];by_cases hlen6:h.f6.length≤512
 case neg =>
  exfalso;have:Zt.f h h.f6=some 9:=by unfold Zt.f;rw[if_pos (by simp;omega)]
  rw[p1] at this;simp at this;omega
 obtain⟨r2,p2,q2⟩:=side_same h 1 h.f7 ([h.f3]++h.f6.map (·.f1)) c2 (by simp;omega) hf.neg;simp only[];rw[show(0:Int)+1=1 from rfl,step 1 h.f7 _ (.inr ⟨rfl,rfl⟩),q2,sb,p2,sb];by_cases d2:r2=0
 case neg=>rw[if_neg d2,if_pos (by simpa using d2)];simp only[sb]
 rw[if_pos d2,if_neg (by simpa using d2)];by_cases hlen7:h.f7.length≤512
 case neg =>
  exfalso;have:Zt.f h h.f7=some 9:=by unfold Zt.f;rw[if_pos (by simp;omega)]
  rw[p2] at this;simp at this;omega
 simp only[];rw[show(1:Int)+1=2 from rfl,Z07.l0,if_neg (by decide),sb,sb];simp only[];rw[total3 _ _ _ (by omega) (by omega) (fun b hb=>(hf.pos b hb).2) (fun b hb=>(hf.neg b hb).2) hf.zero,sb];have hsum:(([h.f3]++h.f6.map (·.f1))++h.f7.map (·.f1)).sum=cnt h.f6+cnt h.f7+h.f3:=by simp[cnt];omega
 rw[ref_add _ (by simp;omega) (by
  intro x hx;simp only[List.mem_append,List.mem_singleton,List.mem_map] at hx;rcases hx with (rfl | ⟨b,hb,rfl⟩) | ⟨b,hb,rfl⟩
  ·exact hf.zero
  ·exact(hf.pos b hb).2
  ·exact(hf.neg b hb).2),sb,hsum]
 by_cases c4:cnt h.f6+cnt h.f7+h.f3<18446744073709551616
 ·rw[if_pos c4];try simp
 ·rw[if_neg c4];try simp
end Go.Proofs.YtpoihfcehejgfaaGreat.PvGS2
namespace Go.Proofs.YtpoihfcehejgfaaGreat.PvGS2
open Go Go.Pv Go.Pv.GS Go.IntKind
open Classical
def wsum (l:List Z0) (w:Int→Int):Int:=(l.map (fun b=>b.f1*w b.f0)).sum
theorem Zal (b:Z0) (l:List Z0) (w:Int→Int):wsum (b::l) w=b.f1*w b.f0+wsum l w:=by simp[wsum]
theorem wsum_append (a b:List Z0) (w:Int→Int):wsum (a++b) w=wsum a w+wsum b w:=by simp[wsum]
theorem wsum_split (l:List Z0) (i:Int) (w:Int→Int):wsum l w=tot l i*w i+wsum (l.filter (fun b=>decide (b.f0≠i))) w:=by
 induction l with
 | nil=>simp[wsum,tot]
 | cons b l ih =>
  rw[Zal,ih,tot];by_cases h:b.f0=i
  ·subst h;simp[Int.add_mul];omega
  ·rw[if_neg h,List.filter_cons_of_pos (by simpa using h),Zal,Int.zero_add];omega
theorem Z7z (l:List Z0) (p:Int→Bool) (i:Int):tot (l.filter (fun b=>p b.f0)) i=if p i=true then tot l i else 0:=by
 induction l with
 | nil=>simp[tot]
 | cons b l ih =>
  by_cases h:p b.f0=true
  ·rw[List.filter_cons_of_pos (by simpa using h),tot,ih,tot]
   by_cases e:b.f0=i
   ·subst e;simp[h]
   ·simp[e]
  ·rw[List.filter_cons_of_neg (by simpa using h),ih,tot]
   by_cases e:b.f0=i
   ·subst e;simp[h]
   ·simp[e]
theorem wsum_zero:∀ (n:Nat) (l:List Z0),l.length≤n→(∀ i,tot l i=0)→∀ w,wsum l w=0:=by
 intro n
 induction n with
 | zero =>
  intro l hn _ w;obtain rfl:l=[]:=List.length_eq_zero_iff.1 (by omega);rfl
 | succ n ih =>
  intro l hn h w;cases l with
  | nil=>rfl
  | cons b l =>
   rw[wsum_split _ b.f0,h,Int.zero_mul,Int.zero_add];refine ih _ ?_ (fun i => ?_) w
   ·rw[List.filter_cons_of_neg (by simp)]
    have:=List.length_filter_le (fun b':Z0=>decide (b'.f0≠b.f0)) l;simp only[List.length_cons] at hn;omega
   ·have:=Z7z        (b::l) (fun j=>decide (j≠b.f0)) i
    rw[this,h];simp
def negl (l:List Z0):List Z0:=l.map (fun b=>⟨b.f0,-b.f1⟩)
theorem Zao (l:List Z0) (i:Int):tot (negl l) i = - tot l i:=by
 induction l with
 | nil=>rfl
 | cons b l ih=>simp only[negl,List.map_cons,tot] at *;rw[ih];split<;>omega
theorem Z8z (l:List Z0) (w:Int→Int):wsum (negl l) w = - wsum l w:=by
 induction l with
 | nil=>rfl
 | cons b l ih=>rw[negl,List.map_cons,Zal,Zal];rw[negl] at ih;rw[ih];simp[Int.neg_mul];omega
theorem wsum_congr {l l':List Z0} (h:∀ i,tot l i=tot l' i) (w:Int→Int):wsum l w=wsum l' w:=by
 have:=wsum_zero _ (l++negl l') (Nat.le_refl _) (fun i=>by rw[Z3g,Zao,h];omega) w;rw[wsum_append,Z8z] at this;omega
theorem Z6p (l:List Z0):cnt l=wsum l (fun _=>1):=by simp[cnt,wsum]
theorem Z64 {l l':List Z0} (h:∀ i,tot l i=tot l' i):cnt l=cnt l':=by rw[Z6p,Z6p,wsum_congr h]
theorem Zbg {l:List Z0} (h:Nn l) (i:Int):tot l i≤cnt l:=by
 induction l with
 | nil=>simp[tot,cnt]
 | cons b l ih =>
  have:=h b (by simp);have h2:Nn l:=fun y hy=>h y (by simp[hy]);have:=ih h2;have:=Z11 h2;rw[tot,Z5b];split<;>omega
theorem Z88 (l:List Z0) (p:Z0→Bool):cnt (l.filter p)+cnt (l.filter (fun b => !p b))=cnt l:=by
 induction l with
 | nil=>rfl
 | cons b l ih =>
  cases h:p b with
  | true=>rw[List.filter_cons_of_pos h,List.filter_cons_of_neg (by simp[h]),Z5b,Z5b];omega
  | false=>rw[List.filter_cons_of_neg (by simp[h]),List.filter_cons_of_pos (by simp[h]),Z5b,Z5b];omega
structure Bs (s z:Int) (l:List Z0):Prop where
 len:l.length≤5000
 ok:∀ b∈l,InS s b.f0∧0≤b.f1∧z≤(b.f0-1)*stp s
theorem Bs.nn {s z:Int} {l:List Z0} (h:Bs s z l):Nn l:=fun b hb=>(h.ok b hb).2.1
theorem le_cnt {l:List Z0} (h:Nn l) {b:Z0} (hb:b∈l):b.f1≤cnt l:=Int.le_trans (tot_mem h hb) (Zbg h _)
theorem tidy_ok {s z:Int} {l:List Z0} (h:Bs s z l) (ht:cnt l<18446744073709551616) :
  ∃ o,Z1d.f l=some (o,0)∧Z3p o∧(∀ i,tot o i=tot l i)∧(∀ b∈o,BOk s z b)∧(∀ b∈o,U64 b.f1)∧o.length≤l.length∧cnt o=cnt l:=by
 have hl:=h.len;rcases Z80 l (by omega) (fun b hb=>⟨h.nn b hb,by have:=le_cnt h.nn hb;omega⟩) with ⟨o,e,h1,h2,h3,h4,h5⟩ | ⟨e,i,h1⟩
 ·refine⟨o,e,h1,h2,fun b hb => ?_,h3,h5,Z64       h2⟩
  obtain⟨p,hp,e⟩:=h4 b hb;have:=h.ok p hp;exact⟨e ▸ this.1,h1.pos b hb,e ▸ this.2.2⟩
 ·have:=Zbg h.nn i;omega
theorem inS_i64 {s i:Int} (h:InS s i):I64 i:=by have:=Z48 h;constructor<;>omega
theorem Zbq (g:Zh) (p n:List Z0) (hk:g.f0=0∨g.f0=1) (hs:Z19 g.f1) (hz:g.f2 = -524288∨(-262144<g.f2∧g.f2≤262144)) (h3:0≤g.f3) (h5:I64 g.f5) (hp:Bs g.f1 g.f2 p) (hn:Bs g.f1 g.f2 n) (ht:cnt p+cnt n+g.f3<18446744073709551616) (hl:∀ o,Z3p o→(((∀ i,tot o i=tot p i)∧o.length≤p.length)∨((∀ i,tot o i=tot n i)∧o.length≤n.length))→o.length≤512) :
  ∃ r,Z27.f g p n=some (r,0)∧Z24 r∧Fits r∧r.f0=g.f0∧r.f1=g.f1∧r.f2=g.f2∧r.f3=g.f3∧r.f5=g.f5∧(∀ i,tot r.f6 i=tot p i)∧(∀ i,tot r.f7 i=tot n i)∧r.f4=cnt p+cnt n+g.f3:=by
 have np:=Z11 hp.nn;have nn:=Z11 hn.nn;obtain⟨o,e1,c1,t1,b1,u1,l1,q1⟩:=tidy_ok hp (by omega);obtain⟨o2,e2,c2,t2,b2,u2,l2,q2⟩:=tidy_ok hn (by omega);have hlp:=hp.len;have hln:=hn.len;have htot:=total3 o o2 g.f3 (by omega) (by omega) u1 u2 ⟨h3,by omega⟩;rw[q1,q2,if_pos ht] at htot;have hf:Fits (⟨g.f0,g.f1,g.f2,g.f3,cnt p+cnt n+g.f3,g.f5,o,o2⟩:Zh) :=
  ⟨by rcases hk with h | h<;>rw[h]<;>constructor<;>omega,by have:=hs.1;have:=hs.2;constructor<;>simp<;>omega,by rcases hz with h | h<;>constructor<;>simp<;>omega,⟨h3,by simp;omega⟩,⟨by simp;omega,ht⟩,h5,
   fun b hb=>⟨inS_i64 (b1 b hb).ins,u1 b hb⟩,fun b hb=>⟨inS_i64 (b2 b hb).ins,u2 b hb⟩⟩
 have hv:Z24 (⟨g.f0,g.f1,g.f2,g.f3,cnt p+cnt n+g.f3,g.f5,o,o2⟩:Zh) :=
  ⟨hk,hs,hz,⟨hl o c1 (.inl ⟨t1,l1⟩),b1,c1.up⟩,⟨hl o2 c2 (.inr ⟨t2,l2⟩),b2,c2.up⟩,by simp only[q1,q2];exact ht,by simp only[q1,q2]⟩
 refine⟨_,?_,hv,hf,rfl,rfl,rfl,rfl,rfl,t1,t2,rfl⟩;unfold Z27.f;rw[e1,e2,sb,sb,if_neg (by simp),htot,sb,if_neg (by simp),check_T _ hf hv,sb,if_neg (by simp)]
def Z47 (s a:Int) (l:List Z0):Prop:=∃ b∈l,(b.f0-1)*stp s<a∧a<b.f0*stp s
def cg (s a:Int):Int:=-((-a) / stp s)*stp s
theorem cg_eq {s a i:Int} (h1:(i-1)*stp s<a) (h2:a≤i*stp s):cg s a=i*stp s:=by
 have hp:=Z6e s;unfold cg;generalize stp s=st at *;have : -((-a) / st)=i:=by
  have e1:=Int.ediv_mul_le (-a) (show st≠0 by omega);have e2:=Int.lt_ediv_add_one_mul_self (-a) hp;generalize (-a) / st=q at *;rw[Int.add_mul] at e2;rw[Int.sub_mul] at h1;have a1 : -q*st<(i+1)*st:=by rw[Int.neg_mul,Int.add_mul];omega
  have a2:(i-1)*st < -q*st:=by rw[Int.neg_mul,Int.sub_mul];omega
  have b1:=Int.lt_of_mul_lt_mul_right a1 (by omega);have b2:=Int.lt_of_mul_lt_mul_right a2 (by omega);omega
 rw[this]
theorem edge_l0 (h:Zh) (l:List Z0) (a:Int) (hs:Z19 h.f1) (hl:l.length<1000000000) (hi:∀ b∈l,InS h.f1 b.f0):∀ (suf pre:List Z0) (i:Int),l=pre++suf→i=(pre.length:Int) →
  Z31.l0 h l a i=some (if Z47 h.f1 a suf then .inl (cg h.f1 a) else .inr ()):=by
 intro suf
 induction suf with
 | nil =>
  intro pre i h1 hi0;subst h1;rw[Z31.l0,if_neg (by simp[hi0]),if_neg (by simp[Z47])]
 | cons x suf ih =>
  intro pre i h1 hi0;have hx:=hi x (by rw[h1];simp);have hlen:(l.length:Int)=pre.length+(suf.length+1):=by rw[h1];simp
  rw[Z31.l0,if_pos (by simp;omega),Z06 h1 hi0,sb,low_T hs hx,sb,units_in hs hx,sb,ifand,sb,sb];by_cases hc:(x.f0-1)*stp h.f1<a∧a<x.f0*stp h.f1
  ·rw[if_pos (by simpa using hc),if_pos ⟨x,by simp,hc⟩,cg_eq hc.1 (by omega)]
  ·rw[if_neg (by simpa using hc),Z8     (by omega) (by omega),ih (pre++[x]) (i+1) (by simp[h1]) (by simp;omega)]
   have:Z47 h.f1 a (x::suf)↔Z47 h.f1 a suf:=by
    constructor
    ·rintro⟨b,hb,h⟩
     rcases List.mem_cons.1 hb with rfl | hb
     ·exact absurd h hc
     ·exact⟨b,hb,h⟩
    ·rintro⟨b,hb,h⟩;exact⟨b,by simp[hb],h⟩
   by_cases hst:Z47 h.f1 a suf
   ·rw[if_pos hst,if_pos (this.2 hst)]
   ·rw[if_neg hst,if_neg (fun q=>hst (this.1 q))]
theorem edge_eq (h:Zh) (l:List Z0) (a:Int) (hs:Z19 h.f1) (hl:l.length<1000000000) (hi:∀ b∈l,InS h.f1 b.f0) :
  Z31.f h l a=some (if Z47 h.f1 a l then cg h.f1 a else a):=by
 unfold Z31.f;rw[edge_l0 h l a hs hl hi l [] 0 rfl rfl,sb];by_cases hst:Z47 h.f1 a l
 ·rw[if_pos hst,if_pos hst]
 ·rw[if_neg hst,if_neg hst]
abbrev Zef (s a i:Int):Bool:=decide (a<i*stp s)
abbrev Z6g (s a:Int) (l:List Z0):List Z0:=l.filter (fun b=>Zef s a b.f0)
abbrev Z6z (s a:Int) (l:List Z0):List Z0:=l.filter (fun b => !Zef s a b.f0)
theorem keep_l0 (l:List Z0) (c0 s c2 c4 c5:Int) (c6 c7:List Z0) (a:Int) (hs:Z19 s) (hl:l.length<1000000) (hi:∀ b∈l,InS s b.f0) (hU:∀ b∈l,0≤b.f1):∀ (suf pre:List Z0) (z:Int) (o:List Z0) (i:Int),l=pre++suf→i=(pre.length:Int)→0≤z→z+cnt suf<18446744073709551616→o.length≤pre.length →
  Z0j.l0 l c0 s c2 c4 c5 c6 c7 a z o i=some (o++Z6g s a suf,z+cnt (Z6z s a suf)):=by
 intro suf
 induction suf with
 | nil =>
  intro pre z o i h1 hi0 _ _ _;subst h1;rw[Z0j.l0,if_neg (by simp[hi0])];simp[cnt]
 | cons x suf ih =>
  intro pre z o i h1 hi0 h0 hz ho;have hx:=hi x (by rw[h1];simp);have hx1:=hU x (by rw[h1];simp);have hn:0≤cnt suf:=Z11 (fun b hb=>hU b (by rw[h1];simp[hb]));have hlen:(l.length:Int)=pre.length+(suf.length+1):=by rw[h1];simp
  rw[Z5b] at hz;rw[Z0j.l0,if_pos (by simp;omega),Z06 h1 hi0,sb,units_in hs hx,sb,Z8 (by omega) (by omega),num_add2 (a:=z) (b:=x.f1) ⟨h0,by omega⟩ ⟨hx1,by omega⟩];by_cases hc:a<x.f0*stp s
  ·rw[if_pos (by simpa using hc),chkB (by simp;omega),sb]
   simp only[];rw[ih (pre++[x]) z (o++[x]) (i+1) (by simp[h1]) (by simp;omega) h0 (by omega) (by simp;omega)];simp[hc]
  ·rw[if_neg (by simpa using hc),if_pos (by omega),sb,sb]
   simp only[];rw[ih (pre++[x]) (z+x.f1) o (i+1) (by simp[h1]) (by simp;omega) (by omega) (by omega) (by simp;omega)];rw[show Z6g s a (x::suf)=Z6g s a suf from List.filter_cons_of_neg (by simpa using hc),show Z6z s a (x::suf)=x::Z6z s a suf from List.filter_cons_of_pos (by simpa using hc),Z5b,Int.add_assoc]
theorem keep_eq (l:List Z0) (c0 s c2 z c4 c5:Int) (c6 c7:List Z0) (a:Int) (hs:Z19 s) (hl:l.length<1000000) (hi:∀ b∈l,InS s b.f0) (hU:∀ b∈l,0≤b.f1) (h0:0≤z) (hz:z+cnt l<18446744073709551616) :
  Z0j.f l c0 s c2 z c4 c5 c6 c7 a=some (Z6g s a l,z+cnt (Z6z s a l)):=by
 unfold Z0j.f;rw[keep_l0 l c0 s c2 c4 c5 c6 c7 a hs hl hi hU l [] z [] 0 rfl rfl h0 hz (Nat.le_refl _),sb];simp
noncomputable def zAt (s a:Int) (p n:List Z0):Int:=if Z47 s a p∨Z47 s a n then cg s a else a
theorem strad_lt {s a:Int} {l:List Z0} (h:Z47 s a l):a<cg s a:=by
 obtain⟨b,hb,h1,h2⟩:=h;rw[cg_eq h1 (by omega)];exact h2
theorem zAt_max (s a:Int) (p n:List Z0):(if(if Z47 s a n then cg s a else a)>(if Z47 s a p then cg s a else a) then(if Z47 s a n then cg s a else a) else(if Z47 s a p then cg s a else a))=zAt s a p n:=by
 unfold zAt;by_cases h1:Z47 s a p
 ·have:=strad_lt h1
  by_cases h2:Z47 s a n<;>simp[h1,h2];omega
 ·by_cases h2:Z47   s a n
  ·have:=strad_lt h2
   simp[h1,h2];omega
  ·simp[h1,h2]
theorem zAt_le (s a:Int) (p n:List Z0):a≤zAt s a p n:=by
 unfold zAt;split
 ·rename_i h;rcases h with h | h<;>exact Int.le_of_lt (strad_lt h)
 ·exact Int.le_refl _
structure Cs (s:Int) (l:List Z0):Prop where
 len:l.length≤5000
 ins:∀ b∈l,InS s b.f0
 pos:∀ b∈l,0<b.f1
theorem Cs.nn {s:Int} {l:List Z0} (h:Cs s l):Nn l:=fun b hb=>Int.le_of_lt (h.pos b hb)
theorem kept_low {s a:Int} {p n l:List Z0} (hl:l=p∨l=n) {b:Z0} (hb:b∈l) (h:zAt s a p n<b.f0*stp s):zAt s a p n≤(b.f0-1)*stp s:=by
 have hp:=Z6e s;unfold zAt at *;by_cases hc:Z47 s a p∨Z47 s a n
 ·rw[if_pos hc] at *
  unfold cg at *;have h1:=Int.lt_of_mul_lt_mul_right h (Int.le_of_lt hp);exact Int.mul_le_mul_of_nonneg_right (by omega) (Int.le_of_lt hp)
 ·rw[if_neg hc] at *
  by_cases h2:(b.f0-1)*stp s<a
  ·rcases hl with rfl | rfl
   ·exact absurd (.inl ⟨b,hb,h2,h⟩) hc
   ·exact absurd (.inr ⟨b,hb,h2,h⟩) hc
  ·omega
theorem zAt_range {s a:Int} {p n:List Z0} (hp:∀ b∈p,InS s b.f0) (hn:∀ b∈n,InS s b.f0) (ha:a = -524288∨(-262144<a∧a≤262144)):zAt s a p n = -524288∨(-262144<zAt s a p n∧zAt s a p n≤262144):=by
 unfold zAt;split
 ·rename_i h
  rcases h with ⟨b,hb,h1,h2⟩ | ⟨b,hb,h1,h2⟩
  ·rw[cg_eq h1 (by omega)];exact .inr (hp b hb)
  ·rw[cg_eq h1 (by omega)];exact .inr (hn b hb)
 ·exact ha
structure Swal (h:Zh) (p n:List Z0) (a:Int) (r:Zh):Prop where
 valid:Z24 r
 fits:Fits r
 kind:r.f0=h.f0
 schema:r.f1=h.f1
 zeroAt:r.f2=zAt h.f1 a p n
 zero:r.f3=h.f3+cnt (Z6z h.f1 (zAt h.f1 a p n) p)+cnt (Z6z h.f1 (zAt h.f1 a p n) n)
 sum:r.f5=h.f5
 tpos:∀ i,tot r.f6 i=if Zef h.f1 (zAt h.f1 a p n) i=true then tot p i else 0
 tneg:∀ i,tot r.f7 i=if Zef h.f1 (zAt h.f1 a p n) i=true then tot n i else 0
 count:r.f4=cnt p+cnt n+h.f3
theorem Zbh (h:Zh) (p n:List Z0) (a:Int) (hk:h.f0=0∨h.f0=1) (hs:Z19 h.f1) (ha:a = -524288∨(-262144<a∧a≤262144)) (h3:0≤h.f3) (h5:I64 h.f5) (hp:Cs h.f1 p) (hn:Cs h.f1 n) (hpl:p.length≤512) (hnl:n.length≤512) (ht:cnt p+cnt n+h.f3<18446744073709551616):∃ r,Z3v.f h p n a=some (r,0)∧Swal h p n a r:=by
 have c1:=Z11 hp.nn;have c2:=Z11 hn.nn;have d1:cnt (Z6g h.f1 (zAt h.f1 a p n) p)+cnt (Z6z h.f1 (zAt h.f1 a p n) p)=cnt p:=Z88 p _;have d2:cnt (Z6g h.f1 (zAt h.f1 a p n) n)+cnt (Z6z h.f1 (zAt h.f1 a p n) n)=cnt n:=Z88 n _;have e1:=Z11 (l:=Z6g h.f1 (zAt h.f1 a p n) p) (fun b hb=>hp.nn b ((List.mem_filter.1 hb).1));have e2:=Z11 (l:=Z6g h.f1 (zAt h.f1 a p n) n) (fun b hb=>hn.nn b ((List.mem_filter.1 hb).1));have e3:=Z11 (l:=Z6z h.f1 (zAt h.f1 a p n) p) (fun b hb=>hp.nn b ((List.mem_filter.1 hb).1));have e4:=Z11 (l:=Z6z h.f1 (zAt h.f1 a p n) n) (fun b hb=>hn.nn b ((List.mem_filter.1 hb).1));have hb:∀ l,(l=p∨l=n)→Cs h.f1 l→Bs h.f1 (zAt h.f1 a p n) (Z6g h.f1 (zAt h.f1 a p n) l):=fun l hl hc =>
  ⟨Nat.le_trans (List.length_filter_le _ _) hc.len,fun b hb=>by
   obtain⟨h1,h2⟩:=List.mem_filter.1 hb;exact⟨hc.ins b h1,Int.le_of_lt (hc.pos b h1),kept_low hl h1 (by simpa using h2)⟩⟩
 obtain⟨r,g1,g2,g3,g4,g5,g6,g7,g8,g9,g10,g11⟩:=Zbq (⟨h.f0,h.f1,zAt h.f1 a p n,h.f3+cnt (Z6z h.f1 (zAt h.f1 a p n) p)+cnt (Z6z h.f1 (zAt h.f1 a p n) n),h.f4,h.f5,h.f6,h.f7⟩:Zh)
  (Z6g h.f1 (zAt h.f1 a p n) p) (Z6g h.f1 (zAt h.f1 a p n) n) hk hs (zAt_range hp.ins hn.ins ha) (by simp;omega) h5 (hb p (.inl rfl) hp) (hb n (.inr rfl) hn) (by simp only;omega) (fun o ho hto=>by
   rcases hto with hto | hto
   ·exact Nat.le_trans hto.2 (Nat.le_trans (List.length_filter_le _ _) hpl)
   ·exact Nat.le_trans hto.2 (Nat.le_trans (List.length_filter_le _ _) hnl))
 refine⟨r,?_,⟨g2,g3,g4,g5,g6,g7,g8,fun i => ?_,fun i => ?_,?_⟩⟩
 ·have l1:=hp.len
  have l2:=hn.len;unfold Z3v.f;rw[edge_eq h p a hs (by omega) hp.ins,edge_eq h n a hs (by omega) hn.ins,sb,sb,zAt_max];rw[keep_eq p _ h.f1 _ h.f3 _ _ _ _ _ hs (by omega) hp.ins hp.nn h3 (by omega),sb,keep_eq n _ h.f1 _ _ _ _ _ _ _ hs (by omega) hn.ins hn.nn (by simp only;omega) (by simp only;omega),sb,g1];rfl
 ·rw[g9];exact Z7z p _ i
 ·rw[g10];exact Z7z n _ i
 ·rw[g11];simp only;omega
def rat (f t:Int):Int:=2 ^ (f-t).toNat
theorem rat_pos (f t:Int):0<rat f t:=Int.pow_pos (by omega)
theorem stp_rat {f t:Int} (h1:t≤f) (h2:f≤8):stp t=stp f*rat f t:=by
 unfold stp rat;rw[← Int.pow_add];congr 1;omega
def upI (f t i:Int):Int:=-((-i) / rat f t)
theorem upI_spec (f t i:Int):(upI f t i-1)*rat f t<i∧i≤upI f t i*rat f t:=by
 have hp:=rat_pos f t;unfold upI;generalize rat f t=r at *;have e1:=Int.ediv_mul_le (-i) (show r≠0 by omega);have e2:=Int.lt_ediv_add_one_mul_self (-i) hp;generalize (-i) / r=q at *;rw[Int.add_mul] at e2;constructor
 ·rw[Int.sub_mul,Int.neg_mul];omega
 ·rw[Int.neg_mul];omega
theorem upI_in {f t i:Int} (hf:Z19 f) (ht:Z19 t) (h:t≤f) (hi:InS f i):InS t (upI f t i):=by
 obtain⟨h3,h4⟩:=upI_spec f t i;have hst:=stp_rat h hf.2;have hp:=Z6e f;have hd:=stp_dvd ht;have hr:=rat_pos f t;obtain⟨i1,i2⟩:=hi;constructor
 ·rw[hst,Int.mul_comm (stp f),← Int.mul_assoc]
  have:=Int.mul_le_mul_of_nonneg_right h4 (Int.le_of_lt hp);omega
 ·
  generalize hQ:262144 / stp t=Q at hd;have hi3:i*stp f≤Q*rat f t*stp f:=by rw[Int.mul_assoc,Int.mul_comm (rat f t),← hst,hd];exact i2
  have hi4:=Int.le_of_mul_le_mul_right hi3 hp;have:=Int.lt_of_mul_lt_mul_right (show(upI f t i-1)*rat f t<Q*rat f t by omega) (Int.le_of_lt hr);have:=Int.mul_le_mul_of_nonneg_right (show upI f t i≤Q by omega) (Int.le_of_lt (Z6e t));omega
theorem to_eq {f t i:Int} (hf:Z19 f) (ht:Z19 t) (h:t≤f) (hi:InS f i):Z75.f f t i=some (upI f t i,0):=by
 have hs:=Z48 hi;have h1:=hf.1;have h2:=hf.2;have h3:=ht.1;have h4:=ht.2;unfold Z75.f Zb4.f;rw[Z6v hf,sb,if_neg (by simp),Z6v ht,sb,if_neg (by simp),sb,if_neg (by simp;omega),in_T hf,sb,if_neg (by simp[hi]),chkB (Z7m _).1,sb];rw[Z8 (n:=f-t) (by omega) (by omega),Z2l (by omega) (by omega),Z8 (n:=0-i) (by omega) (by omega)];have e:min (f-t).toNat 64=(f-t).toNat:=by omega
 rw[e,Int.fdiv_eq_ediv_of_nonneg _ (Int.le_of_lt (Int.pow_pos (by omega)))];have:(0-i) / 2 ^ (f-t).toNat = -upI f t i:=by unfold upI rat;rw[Int.zero_sub];omega
 rw[this];have hj:=Z48 (upI_in hf ht h hi);rw[Z8 (by omega) (by omega)];congr 2;omega
def Z70 (f t:Int) (l:List Z0):List Z0:=l.map (fun b=>⟨upI f t b.f0,b.f1⟩)
theorem Z7f (f t:Int) (l:List Z0):(Z70 f t l).length=l.length:=by simp[Z70]
theorem Z63 (f t:Int) (l:List Z0):cnt (Z70 f t l)=cnt l:=by simp[cnt,Z70,Function.comp_def]
theorem down_l0 (l:List Z0) (f t:Int) (hf:Z19 f) (ht:Z19 t) (h:t≤f) (hl:l.length<1000000) (hi:∀ b∈l,InS f b.f0):∀ (suf pre o:List Z0) (i:Int),l=pre++suf→i=(pre.length:Int)→o.length=pre.length →
  Z32.l0 l f t o i=some (o++Z70 f t suf):=by
 intro suf
 induction suf with
 | nil =>
  intro pre o i h1 hi0 _;subst h1;rw[Z32.l0,if_neg (by simp[hi0])];simp[Z70]
 | cons x suf ih =>
  intro pre o i h1 hi0 ho;have hx:=hi x (by rw[h1];simp);have hlen:(l.length:Int)=pre.length+(suf.length+1):=by rw[h1];simp
  rw[Z32.l0,if_pos (by simp;omega),Z06 h1 hi0,sb,to_eq hf ht h hx,sb,chkB (by simp;omega),Z8 (by omega) (by omega)];rw[ih (pre++[x]) _ (i+1) (by simp[h1]) (by simp;omega) (by simp;omega)];simp[Z70]
theorem down_eq (l:List Z0) (f t:Int) (hf:Z19 f) (ht:Z19 t) (h:t≤f) (hl:l.length<1000000) (hi:∀ b∈l,InS f b.f0):Z32.f l f t=some (Z70 f t l):=by
 unfold Z32.f;rw[down_l0 l f t hf ht h hl hi l [] [] 0 rfl rfl rfl];simp
def h0:Zh:=⟨0,0,0,0,0,0,[],[]⟩
theorem Z5i {s z:Int} {l:List Z0} (h:Side s z l):Cs s l:=⟨by have:=h.len;omega,fun b hb=>(h.ok b hb).ins,fun b hb=>(h.ok b hb).pos⟩
theorem Ze3 {f t:Int} {l:List Z0} (hf:Z19 f) (ht:Z19 t) (h:t≤f) (hc:Cs f l):Cs t (Z70 f t l) :=
 ⟨by rw[Z7f];exact hc.len,fun b hb=>by
  obtain⟨x,hx,rfl⟩:=List.mem_map.1 hb;exact upI_in hf ht h (hc.ins x hx),fun b hb=>by
  obtain⟨x,hx,rfl⟩:=List.mem_map.1 hb;exact hc.pos x hx⟩
structure Cut (a:Zh) (s z:Int) (r:Zh):Prop where
 valid:Z24 r
 fits:Fits r
 kind:r.f0=a.f0
 schema:r.f1=s
 zeroAt:r.f2=z
 count:r.f4=a.f4
 sum:r.f5=a.f5
 tpos:∀ i,tot r.f6 i=if Zef s z i=true then tot (Z70 a.f1 s a.f6) i else 0
 tneg:∀ i,tot r.f7 i=if Zef s z i=true then tot (Z70 a.f1 s a.f7) i else 0
theorem hist_ext {a b:Zh} (e0:a.f0=b.f0) (e1:a.f1=b.f1) (e2:a.f2=b.f2) (e3:a.f3=b.f3) (e4:a.f4=b.f4) (e5:a.f5=b.f5) (e6:a.f6=b.f6) (e7:a.f7=b.f7):a=b:=by
 cases a;cases b;simp_all
theorem valid_ext {a b:Zh} (ha:Z24 a) (hb:Z24 b) (e0:a.f0=b.f0) (e1:a.f1=b.f1) (e2:a.f2=b.f2) (e4:a.f4=b.f4) (e5:a.f5=b.f5) (t6:∀ i,tot a.f6 i=tot b.f6 i) (t7:∀ i,tot a.f7 i=tot b.f7 i):a=b:=by
 have q6:=Z4r ha.pos.canon hb.pos.canon t6;have q7:=Z4r ha.neg.canon hb.neg.canon t7;have h1:=ha.count;have h2:=hb.count;rw[q6,q7] at h1;exact hist_ext e0 e1 e2 (by omega) e4 e5 q6 q7
theorem Cut.unique {a:Zh} {s z:Int} {r r':Zh} (h:Cut a s z r) (h':Cut a s z r'):r=r' :=
 valid_ext h.valid h'.valid (h.kind.trans h'.kind.symm) (h.schema.trans h'.schema.symm) (h.zeroAt.trans h'.zeroAt.symm) (h.count.trans h'.count.symm) (h.sum.trans h'.sum.symm) (fun i=>(h.tpos i).trans (h'.tpos i).symm) (fun i=>(h.tneg i).trans (h'.tneg i).symm)
theorem Down_eq (a:Zh) (s:Int) (hv:Z24 a) (hf:Fits a) (hs:Z19 s) (hle:s≤a.f1) :
  ∃ r,Z39.f a s=some (r,0)∧Cut a s (zAt s a.f2 (Z70 a.f1 s a.f6) (Z70 a.f1 s a.f7)) r:=by
 have l1:=hv.pos.len;have l2:=hv.neg.len;have h1:=hv.count;have h2:=hv.total;obtain⟨r,e,h⟩:=Zbh (⟨a.f0,s,a.f2,a.f3,a.f4,a.f5,a.f6,a.f7⟩:Zh) (Z70 a.f1 s a.f6) (Z70 a.f1 s a.f7) a.f2 hv.kind hs hv.zero hf.zero.1 hf.sum (Ze3 hv.schema hs hle (Z5i hv.pos)) (Ze3 hv.schema hs hle (Z5i hv.neg))
  (by rw[Z7f];exact l1) (by rw[Z7f];exact l2) (by rw[Z63,Z63];exact h2)
 refine⟨r,?_,⟨h.valid,h.fits,h.kind,h.schema,h.zeroAt,by rw[h.count,Z63,Z63];exact h1.symm,h.sum,h.tpos,h.tneg⟩⟩;unfold Z39.f;rw[Z6v hs,sb,if_neg (by simp),sb,if_neg (by simp;omega),down_eq a.f6 a.f1 s hv.schema hs hle (by omega) (Z5i hv.pos).ins,down_eq a.f7 a.f1 s hv.schema hs hle (by omega) (Z5i hv.neg).ins,sb,sb,e];rfl
theorem Down_bad (a:Zh) (s:Int) (h:¬ (Z19 s∧s≤a.f1)):Z39.f a s=some (h0,20):=by
 unfold Z39.f;by_cases hs:Z19 s
 ·rw[Z6v hs,sb,if_neg (by simp),sb,if_pos (by simp;have:¬ s≤a.f1:=fun q=>h ⟨hs,q⟩;omega)];rfl
 ·rw[Zbk hs,sb,if_pos (by simp),sb,if_pos rfl];rfl
theorem clone_eq (a:Zh) (h1:a.f6.length<1000000000) (h2:a.f7.length<1000000000):Z5x.f a=some a:=by
 unfold Z5x.f;rw[Zc2 _ h1,Zc2 _ h2];rfl
theorem Z6h (a:Zh) (z:Int) (hv:Z24 a) (hf:Fits a) (hz : -262144<z∧z≤262144) (hlt:a.f2<z) :
  ∃ r,Z1z.f a z=some (r,0)∧Swal a a.f6 a.f7 z r:=by
 obtain⟨r,e,h⟩:=Zbh a a.f6 a.f7 z hv.kind hv.schema (.inr hz) hf.zero.1 hf.sum (Z5i hv.pos) (Z5i hv.neg) hv.pos.len hv.neg.len hv.total;refine⟨r,?_,h⟩;unfold Z1z.f;rw[if_neg (by simp;omega),if_neg (by simp;omega),if_neg (by simp;omega),sb,if_neg (by simp;omega),e];rfl
theorem Z5d (a:Zh) (hv:Z24 a):Z1z.f a a.f2=some (a,0):=by
 have l1:=hv.pos.len;have l2:=hv.neg.len;unfold Z1z.f;rw[if_neg (by simp),if_pos (by simp),clone_eq a (by omega) (by omega)];rfl
theorem Zei (a:Zh) (z:Int) (h:z<a.f2∨(z≠a.f2∧¬ (-262144<z∧z≤262144))):Z1z.f a z=some (h0,31):=by
 unfold Z1z.f;by_cases h1:z<a.f2
 ·rw[if_pos (by simpa using h1)];rfl
 ·rw[if_neg (by simpa using h1)]
  have h2:=h.resolve_left h1;rw[if_neg (by simpa using h2.1)];have:((if(decide (z≤(-262144)))=true then(some true) else(some (decide (z>(262144:Int))))):Option (Bool))=some true:=by
   by_cases h3:z ≤ -262144
   ·rw[if_pos (by simpa using h3)]
   ·rw[if_neg (by simpa using h3)];simp;omega
  rw[this,sb,if_pos rfl];rfl
theorem Cut.widen {a r r':Zh} {s z z':Int} (h:Cut a s z r) (hz:z≤z') (hw:Swal r r.f6 r.f7 z' r'):Cut a s (zAt s z' r.f6 r.f7) r':=by
 have hle:=zAt_le s z' r.f6 r.f7;have hc:=h.valid.count;have key:∀ i (u v:Int),u=(if Zef s z i=true then v else 0)→(if Zef s (zAt s z' r.f6 r.f7) i=true then u else 0)=if Zef s (zAt s z' r.f6 r.f7) i=true then v else 0:=by
  intro i u v hu;by_cases h1:zAt s z' r.f6 r.f7<i*stp s
  ·simp only[decide_eq_true_eq]
   rw[if_pos h1,if_pos h1,hu];simp only[decide_eq_true_eq];rw[if_pos (by omega)]
  ·simp only[decide_eq_true_eq];rw[if_neg h1,if_neg h1]
 have hs:=h.schema;refine⟨hw.valid,hw.fits,hw.kind.trans h.kind,hw.schema.trans hs,?_,?_,hw.sum.trans h.sum,fun i => ?_,fun i => ?_⟩
 ·rw[hw.zeroAt,hs]
 ·rw[hw.count,← h.count,hc]
 ·rw[hw.tpos i,hs];exact key i _ _ (h.tpos i)
 ·rw[hw.tneg i,hs];exact key i _ _ (h.tneg i)
theorem Z8l {s a:Int} {l:List Z0}:¬ Z47 s (cg s a) l:=by
 rintro⟨b,hb,h1,h2⟩;have hp:=Int.le_of_lt (Z6e s);unfold cg at *;have:=Int.lt_of_mul_lt_mul_right h1 hp;have:=Int.lt_of_mul_lt_mul_right h2 hp;omega
theorem zAt_no {s a:Int} {p n:List Z0} (h1:¬ Z47 s a p) (h2:¬ Z47 s a n):zAt s a p n=a:=by
 unfold zAt;rw[if_neg (by rintro(h | h)<;>contradiction)]
theorem zAt_or (s a:Int) (p n:List Z0):zAt s a p n=a∧¬ Z47 s a p∧¬ Z47 s a n∨zAt s a p n=cg s a:=by
 unfold zAt;by_cases h:Z47 s a p∨Z47 s a n
 ·exact .inr (if_pos h)
 ·exact .inl ⟨if_neg h,fun q=>h (.inl q),fun q=>h (.inr q)⟩
theorem Zfe (a b p q:Zh) (s zp zq:Int) (hp:Cut a s zp p) (hq:Cut b s zq q) :
  ∃ p' q' z,         Z10.l0 (p.f0,p.f1,p.f2,p.f3,p.f4,p.f5,p.f6,p.f7,q.f0,q.f1,q.f2,q.f3,q.f4,q.f5,q.f6,q.f7)=some (.inr (p'.f0,p'.f1,p'.f2,p'.f3,p'.f4,p'.f5,p'.f6,p'.f7,q'.f0,q'.f1,q'.f2,q'.f3,q'.f4,q'.f5,q'.f6,q'.f7)) ∧
   Cut a s z p'∧Cut b s z q'∧z=(if zp<zq then zAt s zq p.f6 p.f7 else if zq<zp then zAt s zp q.f6 q.f7 else zp):=by
 have done:∀ (p q:Zh) (z:Int),p.f2=z→q.f2=z→Z10.l0 (p.f0,p.f1,p.f2,p.f3,p.f4,p.f5,p.f6,p.f7,q.f0,q.f1,q.f2,q.f3,q.f4,q.f5,q.f6,q.f7)=some (.inr (p.f0,p.f1,p.f2,p.f3,p.f4,p.f5,p.f6,p.f7,q.f0,q.f1,q.f2,q.f3,q.f4,q.f5,q.f6,q.f7)):=by
  intro p q z h1 h2;rw[Z10.l0]
  (try simp only[])
  rw[if_neg (by simp[h1,h2])]
 have step:∀ (p q p' q':Zh),p.f2≠q.f2→Z1z.f p (if q.f2>p.f2 then q.f2 else p.f2)=some (p',0)→Z1z.f q (if q.f2>p.f2 then q.f2 else p.f2)=some (q',0) →
   Z10.l0 (p.f0,p.f1,p.f2,p.f3,p.f4,p.f5,p.f6,p.f7,q.f0,q.f1,q.f2,q.f3,q.f4,q.f5,q.f6,q.f7)=Z10.l0 (p'.f0,p'.f1,p'.f2,p'.f3,p'.f4,p'.f5,p'.f6,p'.f7,q'.f0,q'.f1,q'.f2,q'.f3,q'.f4,q'.f5,q'.f6,q'.f7):=by
  intro p q p' q' hne h1 h2
  conv=>lhs;rw[Z10.l0]
  (try simp only[])
  rw[if_pos (by simpa using hne),h1,sb,h2,sb,if_neg (by simp)]
 have rng:∀ (u:Zh) (z:Int),Z24 u→z<u.f2→(z = -524288∨(-262144<z∧z≤262144)) → -262144<u.f2∧u.f2≤262144:=by
  intro u z hu hlt hz;rcases hu.zero with h | h
  ·rcases hz with h' | h'<;>omega
  ·exact h
 by_cases h1:zp<zq
 ·have hz:=rng q zp hq.valid (by rw[hq.zeroAt];exact h1) (hp.zeroAt ▸ hp.valid.zero)
  rw[hq.zeroAt] at hz;obtain⟨p1,e1,w1⟩:=Z6h p zq hp.valid hp.fits hz (by rw[hp.zeroAt];exact h1);have c1:=hp.widen (by omega) w1;have es:=step p q p1 q (by rw[hp.zeroAt,hq.zeroAt];omega) (by rw[hp.zeroAt,hq.zeroAt,if_pos h1];exact e1) (by rw[hp.zeroAt,hq.zeroAt,if_pos h1];have:=Z5d q hq.valid;rw[hq.zeroAt] at this;exact this);rw[es,if_pos h1];rcases zAt_or s zq p.f6 p.f7 with ⟨hA,_⟩ | hA
  ·exact⟨p1,q,zq,done p1 q zq (by rw[c1.zeroAt,hA]) hq.zeroAt,hA ▸ c1,hq,hA.symm⟩
  ·by_cases heq:zAt s zq p.f6 p.f7=zq
   ·exact⟨p1,q,zq,done p1 q zq (by rw[c1.zeroAt,heq]) hq.zeroAt,heq ▸ c1,hq,heq.symm⟩
   have hgt:zq<zAt s zq p.f6 p.f7:=by have:=zAt_le s zq p.f6 p.f7;omega
   have hz2:=rng p1 zq c1.valid (by rw[c1.zeroAt];exact hgt) (.inr hz);rw[c1.zeroAt] at hz2;obtain⟨q1,e2,w2⟩:=Z6h q (zAt s zq p.f6 p.f7) hq.valid hq.fits hz2 (by rw[hq.zeroAt];exact hgt);have c2:=hq.widen (by omega) w2;have hno:zAt s (zAt s zq p.f6 p.f7) q.f6 q.f7=zAt s zq p.f6 p.f7:=by rw[hA];exact zAt_no Z8l Z8l
   rw[hno] at c2;have es2:=step p1 q p1 q1 (by rw[c1.zeroAt,hq.zeroAt];omega) (by rw[c1.zeroAt,hq.zeroAt,if_neg (by omega)];have:=Z5d p1 c1.valid;rw[c1.zeroAt] at this;exact this) (by rw[c1.zeroAt,hq.zeroAt,if_neg (by omega)];exact e2);rw[es2];exact⟨p1,q1,_,done p1 q1 _ c1.zeroAt c2.zeroAt,c1,c2,rfl⟩
 ·by_cases h2:zq<zp
  ·have hz:=rng p zq hp.valid (by rw[hp.zeroAt];exact h2) (hq.zeroAt ▸ hq.valid.zero)
   rw[hp.zeroAt] at hz;obtain⟨q1,e1,w1⟩:=Z6h q zp hq.valid hq.fits hz (by rw[hq.zeroAt];exact h2);have c1:=hq.widen (by omega) w1;have es:=step p q p q1 (by rw[hp.zeroAt,hq.zeroAt];omega) (by rw[hp.zeroAt,hq.zeroAt,if_neg h1];have:=Z5d p hp.valid;rw[hp.zeroAt] at this;exact this) (by rw[hp.zeroAt,hq.zeroAt,if_neg h1];exact e1);rw[es,if_neg h1,if_pos h2];rcases zAt_or s zp q.f6 q.f7 with ⟨hA,_⟩ | hA
   ·exact⟨p,q1,zp,done p q1 zp hp.zeroAt (by rw[c1.zeroAt,hA]),hp,hA ▸ c1,hA.symm⟩
   ·by_cases heq:zAt s zp q.f6 q.f7=zp
    ·exact⟨p,q1,zp,done p q1 zp hp.zeroAt (by rw[c1.zeroAt,heq]),hp,heq ▸ c1,heq.symm⟩
    have hgt:zp<zAt s zp q.f6 q.f7:=by have:=zAt_le s zp q.f6 q.f7;omega
    have hz2:=rng q1 zp c1.valid (by rw[c1.zeroAt];exact hgt) (.inr hz);rw[c1.zeroAt] at hz2;obtain⟨p1,e2,w2⟩:=Z6h p (zAt s zp q.f6 q.f7) hp.valid hp.fits hz2 (by rw[hp.zeroAt];exact hgt);have c2:=hp.widen (by omega) w2;have hno:zAt s (zAt s zp q.f6 q.f7) p.f6 p.f7=zAt s zp q.f6 q.f7:=by rw[hA];exact zAt_no Z8l Z8l
    rw[hno] at c2;have es2:=step p q1 p1 q1 (by rw[c1.zeroAt,hp.zeroAt];omega) (by rw[c1.zeroAt,hp.zeroAt,if_pos (by omega)];exact e2) (by rw[c1.zeroAt,hp.zeroAt,if_pos (by omega)];have:=Z5d q1 c1.valid;rw[c1.zeroAt] at this;exact this);rw[es2];exact⟨p1,q1,_,done p1 q1 _ c2.zeroAt c1.zeroAt,c2,c1,rfl⟩
  ·have:zp=zq:=by omega
   subst this;rw[if_neg h1,if_neg h2];exact⟨p,q,zp,done p q zp hp.zeroAt hq.zeroAt,hp,hq,rfl⟩
theorem Alike_eq (a b:Zh) (ha:Z24 a) (fa:Fits a) (hb:Z24 b) (fb:Fits b) :
  ∃ p0 q0 p q s z,s=(if b.f1<a.f1 then b.f1 else a.f1) ∧         Z39.f a s=some (p0,0) ∧         Z39.f b s=some (q0,0)∧Cut a s p0.f2 p0∧Cut b s q0.f2 q0 ∧          Z10.f a b=some (p,q,0)∧Cut a s z p∧Cut b s z q ∧
   z=(if p0.f2<q0.f2 then zAt s q0.f2 p0.f6 p0.f7 else if q0.f2<p0.f2 then zAt s p0.f2 q0.f6 q0.f7 else p0.f2):=by
 have hs:Z19 (if b.f1<a.f1 then b.f1 else a.f1):=by split;exact hb.schema;exact ha.schema
 obtain⟨p0,e1,c1⟩:=Down_eq a _ ha fa hs (by split<;>omega);obtain⟨q0,e2,c2⟩:=Down_eq b _ hb fb hs (by split<;>omega);have c1':=c1;have c2':=c2;rw[← c1.zeroAt] at c1';rw[← c2.zeroAt] at c2';obtain⟨p,q,z,el,cp,cq,hz⟩:=Zfe a b p0 q0 _ _ _ c1' c2';refine⟨p0,q0,p,q,_,z,rfl,e1,e2,c1',c2',?_,cp,cq,hz⟩;unfold Z10.f;rw[e1,sb,e2,sb,if_neg (by simp)];simp only[];rw[el];rfl
theorem together_l0 (l:List Z0) (k:Int) (hl:l.length<1000000):∀ (suf pre:List Z0) (x:List Int) (i:Int),l=pre++suf→i=(pre.length:Int)→x.length≤pre.length →
  Z25.l0 l k x i=some (x++(suf.filter (fun b=>decide (b.f0=k))).map (·.f1)):=by
 intro suf
 induction suf with
 | nil=>intro pre x i h1 hi _;subst h1;rw[Z25.l0,if_neg (by simp[hi])];simp
 | cons b suf ih =>
  intro pre x i h1 hi hx;have hlen:(l.length:Int)=pre.length+(suf.length+1):=by rw[h1];simp
  rw[Z25.l0,if_pos (by simp;omega),Z06 h1 hi,sb,Z8 (by omega) (by omega)];by_cases h:b.f0=k
  ·rw[if_pos (by simpa using h),chkB (by simp;omega),sb,ih (pre++[b]) _ (i+1) (by simp[h1]) (by simp;omega) (by simp;omega)]
   simp[h]
  ·rw[if_neg (by simpa using h),sb,ih (pre++[b]) _ (i+1) (by simp[h1]) (by simp;omega) (by simp;omega)]
   simp[h]
theorem tot_sum (l:List Z0) (k:Int):((l.filter (fun b=>decide (b.f0=k))).map (·.f1)).sum=tot l k:=by
 induction l with
 | nil=>rfl
 | cons b l ih =>
  by_cases h:b.f0=k
  ·rw[List.filter_cons_of_pos (by simpa using h),List.map_cons,List.sum_cons,ih,tot,if_pos h]
  ·rw[List.filter_cons_of_neg (by simpa using h),ih,tot,if_neg h];omega
theorem together_eq (l:List Z0) (k:Int) (hl:l.length<1000000) (hn:Nn l) (ht:cnt l<18446744073709551616):Z25.f l k=some (tot l k,0):=by
 unfold Z25.f;have h1:=Zbg hn k;rw[together_l0 l k hl l [] [] 0 rfl rfl (Nat.le_refl _),sb,List.nil_append,ref_add _ (by
  rw[List.length_map];have:=List.length_filter_le (fun b:Z0=>decide (b.f0=k)) l;omega) (by
  intro x hx;obtain⟨b,hb,rfl⟩:=List.mem_map.1 hx;have hb:=(List.mem_filter.1 hb).1;exact⟨hn b hb,by have:=le_cnt hn hb;omega⟩),sb,tot_sum,if_pos (by omega)]
def Cand (hv:Bool) (last:Int) (b:Z0):Prop:=hv=false∨last<b.f0
structure Least (hv:Bool) (last:Int) (l:List Z0) (fd:Bool) (nx:Int):Prop where
 none:fd=false→∀ b∈l,¬ Cand hv last b
 some:fd=true→(∃ b∈l,Cand hv last b∧b.f0=nx)∧∀ b∈l,Cand hv last b→nx≤b.f0
theorem tidy_l1 (l o:List Z0) (hv:Bool) (last:Int) (hl:l.length<1000000):∀ (suf pre:List Z0) (fd:Bool) (nx i:Int),l=pre++suf→i=(pre.length:Int)→Least hv last pre fd nx →
  ∃ fd' nx',Z1v.l1 l o hv last fd nx i=some (fd',nx')∧Least hv last l fd' nx':=by
 intro suf
 induction suf with
 | nil=>intro pre fd nx i h1 hi hL;rw[List.append_nil] at h1;subst h1;rw[Z1v.l1,if_neg (by simp[hi])];exact⟨_,_,rfl,hL⟩
 | cons b suf ih =>
  intro pre fd nx i h1 hi hL;have hlen:(l.length:Int)=pre.length+(suf.length+1):=by rw[h1];simp
  have e1:l=(pre++[b])++suf:=by simp[h1]
  have e2:i+1=((pre++[b]).length:Int):=by simp;omega
  have hc:((if(!hv)=true then(if(!fd)=true then(some true) else((at? l i)>>=fun b1857=>some (decide (b1857.f0<nx)))) else((at? l i)>>=fun b1860=>if(decide (b1860.f0>last))=true then(if(!fd)=true then(some true) else(some (decide (b1860.f0<nx)))) else(some false))):Option (Bool))=some (decide (Cand hv last b∧(fd=false∨b.f0<nx))):=by
   rw[Z06 h1 hi,sb,sb];unfold Cand;cases hv<;>cases fd<;>simp
   ·by_cases h:last<b.f0<;>simp[h]
   ·by_cases h:last<b.f0<;>simp[h]
  rw[Z1v.l1,if_pos (by simp;omega),hc,sb,Z8 (by omega) (by omega)];by_cases h:Cand hv last b∧(fd=false∨b.f0<nx)
  ·rw[if_pos (by simpa using h),Z06    h1 hi,sb,sb]
   simp only[];refine ih (pre++[b]) true b.f0 (i+1) e1 e2 ⟨fun h=>(by cases h),fun _=>⟨⟨b,by simp,h.1,rfl⟩,fun c hc hcc => ?_⟩⟩;rcases List.mem_append.1 hc with hc | hc
   ·rcases h.2 with h2 | h2
    ·exact absurd hcc (hL.none h2 c hc)
    ·cases hfd:fd with
     | false=>exact absurd hcc (hL.none hfd c hc)
     | true=>have:=(hL.some hfd).2 c hc hcc;omega
   ·simp at hc;subst hc;exact Int.le_refl _
  ·rw[if_neg (by simpa using h),sb]
   simp only[];refine ih (pre++[b]) fd nx (i+1) e1 e2 ⟨fun hf c hc hcc => ?_,fun hf=>⟨?_,fun c hc hcc => ?_⟩⟩
   ·rcases List.mem_append.1 hc with hc | hc
    ·exact hL.none hf c hc hcc
    ·simp at hc;subst hc;exact h ⟨hcc,.inl hf⟩
   ·obtain⟨c,hc,q⟩:=(hL.some hf).1;exact⟨c,by simp[hc],q⟩
   ·rcases List.mem_append.1 hc with hc | hc
    ·exact(hL.some hf).2 c hc hcc
    ·simp at hc;subst hc
     by_cases h3:nx≤c.f0
     ·exact h3
     ·exact absurd ⟨hcc,.inr (by omega)⟩ h
theorem tidy_l0_ref (l:List Z0) (hl:l.length<1000000) (hp:∀ b∈l,0<b.f1) (ht:cnt l<18446744073709551616):∀ (n:Nat) (o:List Z0) (hv:Bool) (last:Int),(l.filter (fun b=>decide (Cand hv last b))).length≤n→Z3p o→(∀ b∈o,¬ Cand hv last b)→(∀ i,tot o i=if hv=true∧i≤last then tot l i else 0)→o.length+n≤l.length →
  ∃ o',Z1v.l0 l o hv last=some (o',0)∧Z3p o'∧(∀ i,tot o' i=tot l i)∧o'.length≤l.length:=by
 have hn:Nn l:=fun b hb=>Int.le_of_lt (hp b hb);intro n
 induction n with
 | zero =>
  intro o hv last hm hc ho hto hln;obtain⟨fd,nx,e,hL⟩:=tidy_l1 l o hv last hl l [] false 0 0 rfl rfl ⟨by simp,by simp⟩;have hfd:fd=false:=by
   cases hfd:fd with
   | false=>rfl
   | true =>
    obtain⟨b,hb,hbc,_⟩:=(hL.some hfd).1;have:b∈l.filter (fun b=>decide (Cand hv last b)):=List.mem_filter.2 ⟨hb,by simpa using hbc⟩;have:=List.length_pos_of_mem this;omega
  rw[Z1v.l0,e,sb];simp only[hfd];rw[if_pos (by rfl)];refine⟨o,rfl,hc,fun i => ?_,by omega⟩;rw[hto];by_cases h:hv=true∧i≤last
  ·rw[if_pos h]
  ·rw[if_neg h,tot_zero]
   rintro b hb rfl;apply hL.none hfd b hb;unfold Cand;cases hv with
   | false=>exact .inl rfl
   | true=>right;by_cases h2:last<b.f0;exact h2;exact absurd ⟨rfl,by omega⟩ h
 | succ n ih =>
  intro o hv last hm hc ho hto hln;obtain⟨fd,nx,e,hL⟩:=tidy_l1 l o hv last hl l [] false 0 0 rfl rfl ⟨by simp,by simp⟩;cases hfd:fd with
  | false =>
   rw[Z1v.l0,e,sb];simp only[hfd];rw[if_pos (by rfl)];refine⟨o,rfl,hc,fun i => ?_,by omega⟩;rw[hto];by_cases h:hv=true∧i≤last
   ·rw[if_pos h]
   ·rw[if_neg h,tot_zero]
    rintro b hb rfl;apply hL.none hfd b hb;unfold Cand;cases hv with
    | false=>exact .inl rfl
    | true=>right;by_cases h2:last<b.f0;exact h2;exact absurd ⟨rfl,by omega⟩ h
  | true =>
   obtain⟨⟨b,hb,hbc,hbn⟩,hmin⟩:=hL.some hfd;have hpos:0<tot l nx:=by have:=tot_mem hn hb;have:=hp b hb;rw[hbn] at *;omega
   rw[Z1v.l0,e,sb];simp only[hfd];rw[if_neg (by simp),together_eq l nx hl hn ht,sb,if_neg (by simp),if_pos (by simpa using hpos),chkB (by simp;omega),sb];have hlt:∀ c∈o,c.f0<nx:=fun c hc2=>by
    have:=ho c hc2;unfold Cand at this hbc;rcases hbc with h1 | h1
    ·exact absurd (.inl h1) this
    ·have:¬ last<c.f0:=fun h=>this (.inr h)
     omega
   refine ih (o++[⟨nx,tot l nx⟩]) true nx ?_ ?_ ?_ ?_ (by simp;omega)
   ·
    have hsub:(l.filter (fun b=>decide (Cand true nx b)))=(l.filter (fun b=>decide (Cand hv last b))).filter (fun b=>decide (nx<b.f0)):=by
     rw[List.filter_filter];apply List.filter_congr;intro c hc2;unfold Cand;by_cases h1:nx<c.f0
     ·have:hv=false∨last<c.f0:=by
       unfold Cand at hbc;rcases hbc with h2 | h2
       ·exact .inl h2
       ·exact .inr (by omega)
      simp[h1,this]
     ·simp[h1]
    rw[hsub];have hmem:b∈l.filter (fun b=>decide (Cand hv last b)):=List.mem_filter.2 ⟨hb,by simpa using hbc⟩;have:((l.filter (fun b=>decide (Cand hv last b))).filter (fun b=>decide (nx<b.f0))).length<(l.filter (fun b=>decide (Cand hv last b))).length:=by
     rw[List.length_filter_lt_length_iff_exists];exact⟨b,hmem,by simp;omega⟩
    omega
   ·exact⟨List.pairwise_append.2 ⟨hc.up,List.pairwise_singleton _ _,fun c hc2 d hd=>by simp at hd;subst hd;exact hlt c hc2⟩,fun c hc2=>by
     rcases List.mem_append.1 hc2 with h | h
     ·exact hc.pos c h
     ·simp at h;subst h;exact hpos⟩
   ·intro c hc2 hcc
    unfold Cand at hcc;rcases List.mem_append.1 hc2 with h | h
    ·have:=hlt c h;simp at hcc;omega
    ·simp at h;subst h;simp at hcc
   ·intro i
    rw[Z3g,Zbf,hto];simp only[true_and];by_cases h1:i=nx
    ·subst h1
     have:¬ (hv=true∧i≤last):=by
      rintro⟨h2,h3⟩;unfold Cand at hbc;rcases hbc with h | h
      ·rw[h2] at h;cases h
      ·omega
     rw[if_neg this,if_pos rfl,if_pos (Int.le_refl _)];omega
    ·rw[if_neg (show ¬ nx=i from fun h=>h1 h.symm)]
     by_cases h2:i≤nx
     ·rw[if_pos h2]
      by_cases h3:hv=true∧i≤last
      ·rw[if_pos h3];omega
      ·rw[if_neg h3,tot_zero]
       ·rfl
       ·rintro c hc2 rfl
        have:Cand hv last c:=by
         unfold Cand;cases hv with
         | false=>exact .inl rfl
         | true=>right;by_cases h4:last<c.f0;exact h4;exact absurd ⟨rfl,by omega⟩ h3
        have:=hmin c hc2 this;omega
     ·rw[if_neg h2,if_neg]
      ·rfl
      ·rintro⟨h3,h4⟩
       unfold Cand at hbc;rcases hbc with h | h
       ·rw[h3] at h;cases h
       ·omega
theorem tidy_ref (l:List Z0) (hl:l.length<1000000) (hp:∀ b∈l,0<b.f1) (ht:cnt l<18446744073709551616) :
  ∃ o,Z1v.f l=some (o,0)∧Z3p o∧(∀ i,tot o i=tot l i)∧o.length≤l.length:=by
 unfold Z1v.f;obtain⟨o,e,h⟩:=tidy_l0_ref l hl hp ht _ [] false 0 (List.length_filter_le _ _) ⟨List.Pairwise.nil,by simp⟩ (by simp) (by simp[tot]) (by simp);rw[e];exact⟨o,rfl,h⟩
theorem ref_of {s u k:Int} (hs:Z19 s) (hu : -262144<u∧u≤262144) (h1:(k-1)*stp s<u) (h2:u≤k*stp s):Z3o.f s u=some (k,true):=by
 have hp:=Z6e s;have hle:=stp_le hs;have hk : -262144≤k∧k≤262145:=by
  constructor
  ·by_cases h:k < -262144
   ·have:=Int.mul_le_mul_of_nonneg_right (show k ≤ -262145 by omega) (Int.le_of_lt hp)
    have:=Int.mul_le_mul_of_nonneg_left (show 1≤stp s by omega) (show(0:Int)≤262145 by omega);omega
   ·omega
  ·by_cases h:262145<k
   ·have:=Int.mul_le_mul_of_nonneg_right (show 262145≤k-1 by omega) (Int.le_of_lt hp)
    have:=Int.mul_le_mul_of_nonneg_left (show 1≤stp s by omega) (show(0:Int)≤262145 by omega);omega
   ·omega
 have htd:Int.tdiv u (stp s)=k∨Int.tdiv u (stp s)=k-1:=by
  by_cases h0:0≤u
  ·rw[Int.tdiv_eq_ediv_of_nonneg h0]
   have e1:=Int.ediv_mul_le u (show stp s≠0 by omega);have e2:=Int.lt_ediv_add_one_mul_self u hp;generalize u / stp s=q at *;have a1:=Int.lt_of_mul_lt_mul_right (show(k-1)*stp s<(q+1)*stp s by omega) (Int.le_of_lt hp);have a2:=Int.le_of_mul_le_mul_right (show q*stp s≤k*stp s by omega) hp;omega
  ·have e0:Int.tdiv u (stp s) = -((-u) / stp s):=by
    rw[← Int.tdiv_eq_ediv_of_nonneg (show 0 ≤ -u by omega),Int.neg_tdiv];omega
   rw[e0];have e1:=Int.ediv_mul_le (-u) (show stp s≠0 by omega);have e2:=Int.lt_ediv_add_one_mul_self (-u) hp;generalize (-u) / stp s=q at *;rw[Int.add_mul] at e2;rw[Int.sub_mul] at h1;have a1:=Int.le_of_mul_le_mul_right (show q*stp s≤(-(k-1))*stp s by rw[Int.neg_mul,Int.sub_mul];omega) hp;have a2:=Int.lt_of_mul_lt_mul_right (show(-k)*stp s<(q+1)*stp s by rw[Int.neg_mul,Int.add_mul];omega) (Int.le_of_lt hp);by_cases hq:q = -k
   ·omega
   ·have:q=1-k:=by omega
    subst this;rw[Int.sub_mul] at e1;omega
 have hU:∀ j:Int,j=k∨j=k-1→Z0w.f s j=some (j*stp s):=fun j hj=>Z62 hs (by omega)
 have hl1:Z3o.l1 s u k=some k:=by
  rw[Z3o.l1,Z8 (by omega) (by omega),hU _ (.inr rfl),sb,if_neg (by simp;omega)]
 have hl0k:Z3o.l0 s u k=some k:=by
  rw[Z3o.l0,hU _ (.inl rfl),sb,if_neg (by simp;omega)]
 have hl0:Z3o.l0 s u (Int.tdiv u (stp s))=some k:=by
  rcases htd with h | h
  ·rw[h,hl0k]
  ·rw[h,Z3o.l0,hU _ (.inr rfl),sb,if_pos (by simp;omega),Z8 (by omega) (by omega),show k-1+1=k by omega,hl0k]
 unfold Z3o.f;rw[Z5k,sb,if_neg (by simp[hs]),if_neg (by simp;omega),sb,if_neg (by simp;omega),ref_step hs,sb,chkB (by omega),Z8 (by rcases htd with h | h<;>omega) (by rcases htd with h | h<;>omega),hl0,sb,hl1,sb]
theorem ref_to {f t i:Int} (hf:Z19 f) (ht:Z19 t) (h:t≤f) (hi:InS f i):Z9r.f f t i=some (upI f t i,0):=by
 have hsm:=Z48 hi;obtain⟨h3,h4⟩:=upI_spec f t i;have hst:=stp_rat h hf.2;have hp:=Z6e f;unfold Z9r.f;rw[Z5k,sb,if_neg (by simp[hf]),Z5k,sb,if_neg (by simp[ht]),sb,if_neg (by simp;omega),ref_in hf (inS_i64 hi),sb,if_neg (by simp[hi]),Z62 hf (by omega),sb,
  ref_of ht hi (k:=upI f t i) (by
   rw[hst,Int.mul_comm (stp f),← Int.mul_assoc];exact Int.mul_lt_mul_of_pos_right h3 hp) (by
   rw[hst,Int.mul_comm (stp f),← Int.mul_assoc];exact Int.mul_le_mul_of_nonneg_right h4 (Int.le_of_lt hp)),sb]
theorem coarse_l0 (l:List Z0) (f t:Int) (hf:Z19 f) (ht:Z19 t) (h:t≤f) (hl:l.length<1000000) (hi:∀ b∈l,InS f b.f0):∀ (suf pre o:List Z0) (i:Int),l=pre++suf→i=(pre.length:Int)→o.length=pre.length →
  Z2e.l0 l f t o i=some (o++Z70 f t suf):=by
 intro suf
 induction suf with
 | nil=>intro pre o i h1 hi0 _;subst h1;rw[Z2e.l0,if_neg (by simp[hi0])];simp[Z70]
 | cons x suf ih =>
  intro pre o i h1 hi0 ho;have hx:=hi x (by rw[h1];simp);have hlen:(l.length:Int)=pre.length+(suf.length+1):=by rw[h1];simp
  rw[Z2e.l0,if_pos (by simp;omega),Z06 h1 hi0,sb,ref_to hf ht h hx,sb,chkB (by simp;omega),Z8 (by omega) (by omega)];rw[ih (pre++[x]) _ (i+1) (by simp[h1]) (by simp;omega) (by simp;omega)];simp[Z70]
theorem coarse_eq (l:List Z0) (f t:Int) (hf:Z19 f) (ht:Z19 t) (h:t≤f) (hc:Cs f l) (hct:cnt l<18446744073709551616) :
  ∃ o,Z2e.f l f t=some o∧Z3p o∧(∀ i,tot o i=tot (Z70 f t l) i)∧o.length≤l.length:=by
 have hl:=hc.len;have hd:=Ze3 hf ht h hc;obtain⟨o,e,h1,h2,h3⟩:=tidy_ref (Z70 f t l) (by rw[Z7f];omega) hd.pos (by rw[Z63];exact hct);unfold Z2e.f;rw[coarse_l0 l f t hf ht h (by omega) hc.ins l [] [] 0 rfl rfl rfl,sb,List.nil_append,e];exact⟨o,rfl,h1,h2,by rw[Z7f] at h3;exact h3⟩
theorem within_l0 (s a:Int) (l:List Z0) (hs:Z19 s) (hl:l.length<1000000000) (hi:∀ b∈l,InS s b.f0):∀ (suf pre:List Z0) (i:Int),l=pre++suf→i=(pre.length:Int) →
  Z2d.l0 s l a i=some (if Z47 s a suf then .inl (cg s a) else .inr ()):=by
 intro suf
 induction suf with
 | nil=>intro pre i h1 hi0;subst h1;rw[Z2d.l0,if_neg (by simp[hi0]),if_neg (by simp[Z47])]
 | cons x suf ih =>
  intro pre i h1 hi0;have hx:=hi x (by rw[h1];simp);have hsm:=Z48 hx;have hlen:(l.length:Int)=pre.length+(suf.length+1):=by rw[h1];simp
  rw[Z2d.l0,if_pos (by simp;omega),Z06 h1 hi0,sb,sb,Z8 (n:=x.f0-1) (by omega) (by omega),Z62 hs (i:=x.f0-1) (by omega),sb,Z62 hs (i:=x.f0) (by omega),sb,sb,ifand,sb];by_cases hc:(x.f0-1)*stp s<a∧a<x.f0*stp s
  ·rw[if_pos (by simpa using hc),if_pos ⟨x,by simp,hc⟩,cg_eq hc.1 (by omega)]
  ·rw[if_neg (by simpa using hc),Z8     (by omega) (by omega),ih (pre++[x]) (i+1) (by simp[h1]) (by simp;omega)]
   have:Z47 s a (x::suf)↔Z47 s a suf:=by
    constructor
    ·rintro⟨b,hb,h⟩
     rcases List.mem_cons.1 hb with rfl | hb
     ·exact absurd h hc
     ·exact⟨b,hb,h⟩
    ·rintro⟨b,hb,h⟩;exact⟨b,by simp[hb],h⟩
   by_cases hst:Z47 s a suf
   ·rw[if_pos hst,if_pos (this.2 hst)]
   ·rw[if_neg hst,if_neg (fun q=>hst (this.1 q))]
theorem within_eq (s a:Int) (l:List Z0) (hs:Z19 s) (hl:l.length<1000000000) (hi:∀ b∈l,InS s b.f0):Z2d.f s l a=some (if Z47 s a l then cg s a else a):=by
 unfold Z2d.f;rw[within_l0 s a l hs hl hi l [] 0 rfl rfl,sb];by_cases hst:Z47 s a l
 ·rw[if_pos hst,if_pos hst]
 ·rw[if_neg hst,if_neg hst]
theorem rsw_l0 (h:Zh) (a:Int) (hs:Z19 h.f1) (hl:h.f6.length<1000000) (hi:∀ b∈h.f6,InS h.f1 b.f0) (hU:∀ b∈h.f6,0≤b.f1):∀ (suf pre:List Z0) (z:Int) (o:List Z0) (i:Int),h.f6=pre++suf→i=(pre.length:Int)→0≤z→z+cnt suf<18446744073709551616→o.length≤pre.length →
  Z0z.l0 h a z o i=some (z+cnt (Z6z h.f1 a suf),o++Z6g h.f1 a suf):=by
 intro suf
 induction suf with
 | nil=>intro pre z o i h1 hi0 _ _ _;rw[Z0z.l0,if_neg (by rw[h1];simp[hi0])];simp[cnt]
 | cons x suf ih =>
  intro pre z o i h1 hi0 h0 hz ho;have hx:=hi x (by rw[h1];simp);have hsm:=Z48 hx;have hx1:=hU x (by rw[h1];simp);have hn:0≤cnt suf:=Z11 (fun b hb=>hU b (by rw[h1];simp[hb]));have hlen:(h.f6.length:Int)=pre.length+(suf.length+1):=by rw[h1];simp
  rw[Z5b] at hz;rw[Z0z.l0,if_pos (by simp;omega),Z06 h1 hi0,sb,Z62 hs (by omega),sb,Z8 (by omega) (by omega)];by_cases hc:a<x.f0*stp h.f1
  ·rw[if_neg (by simp;omega),chkB (by simp;omega),sb]
   simp only[];rw[ih (pre++[x]) z (o++[x]) (i+1) (by simp[h1]) (by simp;omega) h0 (by omega) (by simp;omega)];simp[hc]
  ·rw[if_pos (by simp;omega),Z2l   (by omega) (by omega),sb]
   simp only[];rw[ih (pre++[x]) (z+x.f1) o (i+1) (by simp[h1]) (by simp;omega) (by omega) (by omega) (by simp;omega)];rw[show Z6g h.f1 a (x::suf)=Z6g h.f1 a suf from List.filter_cons_of_neg (by simpa using hc),show Z6z h.f1 a (x::suf)=x::Z6z h.f1 a suf from List.filter_cons_of_pos (by simpa using hc),Z5b,Int.add_assoc]
theorem rsw_l1 (h:Zh) (a:Int) (q:List Z0) (hs:Z19 h.f1) (hl:h.f7.length<1000000) (hi:∀ b∈h.f7,InS h.f1 b.f0) (hU:∀ b∈h.f7,0≤b.f1):∀ (suf pre:List Z0) (z:Int) (o:List Z0) (i:Int),h.f7=pre++suf→i=(pre.length:Int)→0≤z→z+cnt suf<18446744073709551616→o.length≤pre.length →
  Z0z.l1 h a q z o i=some (z+cnt (Z6z h.f1 a suf),o++Z6g h.f1 a suf):=by
 intro suf
 induction suf with
 | nil=>intro pre z o i h1 hi0 _ _ _;rw[Z0z.l1,if_neg (by rw[h1];simp[hi0])];simp[cnt]
 | cons x suf ih =>
  intro pre z o i h1 hi0 h0 hz ho;have hx:=hi x (by rw[h1];simp);have hsm:=Z48 hx;have hx1:=hU x (by rw[h1];simp);have hn:0≤cnt suf:=Z11 (fun b hb=>hU b (by rw[h1];simp[hb]));have hlen:(h.f7.length:Int)=pre.length+(suf.length+1):=by rw[h1];simp
  rw[Z5b] at hz;rw[Z0z.l1,if_pos (by simp;omega),Z06 h1 hi0,sb,Z62 hs (by omega),sb,Z8 (by omega) (by omega)];by_cases hc:a<x.f0*stp h.f1
  ·rw[if_neg (by simp;omega),chkB (by simp;omega),sb]
   simp only[];rw[ih (pre++[x]) z (o++[x]) (i+1) (by simp[h1]) (by simp;omega) h0 (by omega) (by simp;omega)];simp[hc]
  ·rw[if_pos (by simp;omega),Z2l   (by omega) (by omega),sb]
   simp only[];rw[ih (pre++[x]) (z+x.f1) o (i+1) (by simp[h1]) (by simp;omega) (by omega) (by omega) (by simp;omega)];rw[show Z6g h.f1 a (x::suf)=Z6g h.f1 a suf from List.filter_cons_of_neg (by simpa using hc),show Z6z h.f1 a (x::suf)=x::Z6z h.f1 a suf from List.filter_cons_of_pos (by simpa using hc),Z5b,Int.add_assoc]
noncomputable def rsw (h:Zh) (a:Int):Zh:=⟨h.f0,h.f1,zAt h.f1 a h.f6 h.f7,h.f3+cnt (Z6z h.f1 (zAt h.f1 a h.f6 h.f7) h.f6)+cnt (Z6z h.f1 (zAt h.f1 a h.f6 h.f7) h.f7),h.f4,h.f5,Z6g h.f1 (zAt h.f1 a h.f6 h.f7) h.f6,Z6g h.f1 (zAt h.f1 a h.f6 h.f7) h.f7⟩
theorem rsw_eq (h:Zh) (a:Int) (hs:Z19 h.f1) (hp:Cs h.f1 h.f6) (hn:Cs h.f1 h.f7) (h3:0≤h.f3) (ht:cnt h.f6+cnt h.f7+h.f3<18446744073709551616):Z0z.f h a=some (rsw h a):=by
 have l1:=hp.len;have l2:=hn.len;have c1:=Z11 hp.nn;have c2:=Z11 hn.nn;have d1:cnt (Z6g h.f1 (zAt h.f1 a h.f6 h.f7) h.f6)+cnt (Z6z h.f1 (zAt h.f1 a h.f6 h.f7) h.f6)=cnt h.f6:=Z88 h.f6 _;have e1:=Z11 (l:=Z6g h.f1 (zAt h.f1 a h.f6 h.f7) h.f6) (fun b hb=>hp.nn b (List.mem_filter.1 hb).1);have e2:=Z11 (l:=Z6z h.f1 (zAt h.f1 a h.f6 h.f7) h.f6) (fun b hb=>hp.nn b (List.mem_filter.1 hb).1);have hmax:((if(decide ((if Z47 h.f1 a h.f7 then cg h.f1 a else a)>(if Z47 h.f1 a h.f6 then cg h.f1 a else a)))=true then(some (if Z47 h.f1 a h.f7 then cg h.f1 a else a)) else(some (if Z47 h.f1 a h.f6 then cg h.f1 a else a))):Option Int)=some (zAt h.f1 a h.f6 h.f7):=by
  rw[← zAt_max];by_cases h:(if Z47 h.f1 a h.f7 then cg h.f1 a else a)>(if Z47 h.f1 a h.f6 then cg h.f1 a else a)
  ·rw[if_pos (by simpa using h),if_pos h]
  ·rw[if_neg (by simpa using h),if_neg h]
 unfold Z0z.f;rw[within_eq h.f1 a h.f6 hs (by omega) hp.ins,within_eq h.f1 a h.f7 hs (by omega) hn.ins,sb,sb,hmax,sb,rsw_l0 h _ hs (by omega) hp.ins hp.nn h.f6 [] h.f3 [] 0 rfl rfl h3 (by omega) (Nat.le_refl _),sb];simp only[List.nil_append];rw[rsw_l1 h _ _ hs (by omega) hn.ins hn.nn h.f7 [] _ [] 0 rfl rfl (by omega) (by omega) (Nat.le_refl _),sb];simp only[List.nil_append];rfl
theorem Zcv {s a:Int} {l l':List Z0} (hp:∀ b∈l,0<b.f1) (h:∀ i,tot l i=tot l' i) (hs:Z47 s a l):Z47 s a l':=by
 obtain⟨b,hb,h1⟩:=hs;by_cases hc:∃ c∈l',c.f0=b.f0
 ·obtain⟨c,hc,e⟩:=hc;exact⟨c,hc,e ▸ h1⟩
 ·have h2:=tot_mem (fun b hb=>Int.le_of_lt (hp b hb)) hb
  rw[h,tot_zero (fun c hc2 e=>hc ⟨c,hc2,e⟩)] at h2;have:=hp b hb;omega
theorem zAt_congr {s a:Int} {p n p' n':List Z0} (hp:∀ b∈p,0<b.f1) (hn:∀ b∈n,0<b.f1) (hp':∀ b∈p',0<b.f1) (hn':∀ b∈n',0<b.f1) (h1:∀ i,tot p i=tot p' i) (h2:∀ i,tot n i=tot n' i):zAt s a p n=zAt s a p' n':=by
 unfold zAt;have e1:Z47 s a p↔Z47 s a p':=⟨Zcv hp h1,Zcv hp' (fun i=>(h1 i).symm)⟩
 have e2:Z47 s a n↔Z47 s a n':=⟨Zcv hn h2,Zcv hn' (fun i=>(h2 i).symm)⟩
 by_cases h:Z47 s a p∨Z47 s a n
 ·rw[if_pos h,if_pos (by rw[← e1,← e2];exact h)]
 ·rw[if_neg h,if_neg (by rw[← e1,← e2];exact h)]
theorem swal_rsw {h g:Zh} {p n:List Z0} {a:Int} {r:Zh} (w:Swal h p n a r) (hp:∀ b∈p,0<b.f1) (hn:∀ b∈n,0<b.f1) (c6:Z3p g.f6) (c7:Z3p g.f7) (t6:∀ i,tot g.f6 i=tot p i) (t7:∀ i,tot g.f7 i=tot n i) (e0:g.f0=h.f0) (e1:g.f1=h.f1) (e3:g.f3=h.f3) (e4:g.f4=cnt p+cnt n+h.f3) (e5:g.f5=h.f5):rsw g a=r:=by
 have hz:zAt g.f1 a g.f6 g.f7=zAt h.f1 a p n:=by rw[e1];exact zAt_congr c6.pos c7.pos hp hn t6 t7
 have k6:Z3p (Z6g h.f1 (zAt h.f1 a p n) g.f6):=⟨c6.up.filter _,fun b hb=>c6.pos b (List.mem_filter.1 hb).1⟩
 have k7:Z3p (Z6g h.f1 (zAt h.f1 a p n) g.f7):=⟨c7.up.filter _,fun b hb=>c7.pos b (List.mem_filter.1 hb).1⟩
 have q6:Z6g h.f1 (zAt h.f1 a p n) g.f6=r.f6:=Z4r k6 w.valid.pos.canon (fun i=>by rw[w.tpos,Z7z g.f6 (Zef h.f1 (zAt h.f1 a p n)) i,t6]);have q7:Z6g h.f1 (zAt h.f1 a p n) g.f7=r.f7:=Z4r k7 w.valid.neg.canon (fun i=>by rw[w.tneg,Z7z g.f7 (Zef h.f1 (zAt h.f1 a p n)) i,t7]);have d6:cnt (Z6g h.f1 (zAt h.f1 a p n) g.f6)+cnt (Z6z h.f1 (zAt h.f1 a p n) g.f6)=cnt g.f6:=Z88 g.f6 _;have d7:cnt (Z6g h.f1 (zAt h.f1 a p n) g.f7)+cnt (Z6z h.f1 (zAt h.f1 a p n) g.f7)=cnt g.f7:=Z88 g.f7 _;have m6:=Z64 t6;have m7:=Z64 t7;have hc:=w.valid.count;have hcc:=w.count;rw[← q6,← q7] at hc;unfold rsw;rw[hz,e1];exact hist_ext (e0.trans w.kind.symm) w.schema.symm w.zeroAt.symm (by simp only;omega) (by simp only;rw[e4,w.count]) (e5.trans w.sum.symm) q6 q7
theorem ref_Down (a:Zh) (s:Int) (hv:Z24 a) (hf:Fits a):∃ r e,Z39.f a s=some (r,e)∧Z3w.f a s=some (r,e):=by
 by_cases h:Z19 s∧s≤a.f1
 case neg =>
  refine⟨h0,20,Down_bad a s h,?_⟩;unfold Z3w.f;by_cases hs:Z19 s
  ·rw[Z5k,sb,if_neg (by simp[hs]),sb,if_pos (by simp;have:¬ s≤a.f1:=fun q=>h ⟨hs,q⟩;omega)];rfl
  ·rw[Z5k,sb,if_pos (by simp[hs]),sb,if_pos rfl];rfl
 obtain⟨hs,hle⟩:=h;have l1:=hv.pos.len;have l2:=hv.neg.len;have h1:=hv.count;have h2:=hv.total;have p6:=Ze3 hv.schema hs hle (Z5i hv.pos);have p7:=Ze3 hv.schema hs hle (Z5i hv.neg);have n6:=Z11 hv.pos.canon.nn;have n7:=Z11 hv.neg.canon.nn;have hz:=hf.zero.1;obtain⟨r,e,w⟩:=Zbh (⟨a.f0,s,a.f2,a.f3,a.f4,a.f5,a.f6,a.f7⟩:Zh) (Z70 a.f1 s a.f6) (Z70 a.f1 s a.f7) a.f2 hv.kind hs hv.zero hz hf.sum p6 p7
  (by rw[Z7f];exact l1) (by rw[Z7f];exact l2) (by rw[Z63,Z63];exact h2)
 refine⟨r,0,?_,?_⟩
 ·unfold         Z39.f
  rw[Z6v hs,sb,if_neg (by simp),sb,if_neg (by simp;omega),down_eq a.f6 a.f1 s hv.schema hs hle (by omega) (Z5i hv.pos).ins,down_eq a.f7 a.f1 s hv.schema hs hle (by omega) (Z5i hv.neg).ins,sb,sb,e];rfl
 ·obtain⟨o6,e6,c6,t6,m6⟩:=coarse_eq a.f6 a.f1 s hv.schema hs hle (Z5i     hv.pos) (by omega)
  obtain⟨o7,e7,c7,t7,m7⟩:=coarse_eq a.f7 a.f1 s hv.schema hs hle (Z5i hv.neg) (by omega);have cs6:Cs s o6:=⟨by omega,fun b hb=>by
   by_cases hc:∃ x∈Z70 a.f1 s a.f6,x.f0=b.f0
   ·obtain⟨x,hx,e⟩:=hc;rw[← e];exact p6.ins x hx
   ·have h3:=t6 b.f0
    rw[c6.tot_of hb,tot_zero (fun x hx e=>hc ⟨x,hx,e⟩)] at h3;have:=c6.pos b hb;omega,c6.pos⟩
  have cs7:Cs s o7:=⟨by omega,fun b hb=>by
   by_cases hc:∃ x∈Z70 a.f1 s a.f7,x.f0=b.f0
   ·obtain⟨x,hx,e⟩:=hc;rw[← e];exact p7.ins x hx
   ·have h3:=t7 b.f0
    rw[c7.tot_of hb,tot_zero (fun x hx e=>hc ⟨x,hx,e⟩)] at h3;have:=c7.pos b hb;omega,c7.pos⟩
  have q6:=Z64 t6;have q7:=Z64 t7;rw[Z63] at q6 q7;unfold Z3w.f;rw[Z5k,sb,if_neg (by simp[hs]),sb,if_neg (by simp;omega),e6,e7,sb,sb,rsw_eq (⟨a.f0,s,a.f2,a.f3,a.f4,a.f5,o6,o7⟩:Zh) a.f2 hs cs6 cs7 hz (by simp only;omega),sb];rw[swal_rsw (g:=(⟨a.f0,s,a.f2,a.f3,a.f4,a.f5,o6,o7⟩:Zh)) w p6.pos p7.pos c6 c7 t6 t7 rfl rfl rfl (by simp only[Z63];exact h1) rfl]
theorem ref_Widen (a:Zh) (z:Int) (hv:Z24 a) (hf:Fits a):∃ r e,Z1z.f a z=some (r,e)∧Z4e.f a z=some (r,e):=by
 by_cases h1:z=a.f2
 ·subst h1
  refine⟨a,0,Z5d a hv,?_⟩;unfold Z4e.f;rw[if_neg (by simp),if_neg (by simp),sb,if_neg (by simp),if_pos (by simp)]
 by_cases h2:a.f2<z ∧ -262144<z∧z≤262144
 ·obtain⟨r,e,w⟩:=Z6h        a z hv hf h2.2 h2.1
  refine⟨r,0,e,?_⟩;have hc:=hv.count;unfold Z4e.f;rw[if_neg (by simp;omega),if_pos (by simpa using h1),if_neg (by simp;omega),sb,if_neg (by simp;omega),if_neg (by simpa using h1),rsw_eq a z hv.schema (Z5i hv.pos) (Z5i hv.neg) hf.zero.1 hv.total,sb,
   swal_rsw (g:=a) w (Z5i hv.pos).pos (Z5i hv.neg).pos hv.pos.canon hv.neg.canon (fun _=>rfl) (fun _=>rfl) rfl rfl rfl hc rfl]
 ·refine⟨h0,31,Zei       a z (by by_cases h3:z<a.f2;exact .inl h3;exact .inr ⟨h1,fun q=>h2 ⟨by omega,q⟩⟩),?_⟩
  unfold Z4e.f;by_cases h3:z<a.f2
  ·rw[if_pos (by simpa using h3),sb,if_pos rfl];rfl
  ·rw[if_neg (by simpa using h3),if_pos (by simpa using h1)]
   have:((if(decide (z≤(-262144)))=true then(some true) else(some (decide (z>(262144:Int))))):Option (Bool))=some true:=by
    by_cases h4:z ≤ -262144
    ·rw[if_pos (by simpa using h4)]
    ·rw[if_neg (by simpa using h4)];simp;omega
   rw[this,sb,if_pos rfl];rfl
theorem Zeh (a r:Zh) (z:Int) (hv:Z24 a) (hf:Fits a) (h:Z1z.f a z=some (r,0)):Z24 r∧Fits r:=by
 by_cases h1:z=a.f2
 ·subst h1;rw[Z5d a hv] at h;simp at h;subst h;exact⟨hv,hf⟩
 by_cases h2:a.f2<z ∧ -262144<z∧z≤262144
 ·obtain⟨r',e,w⟩:=Z6h        a z hv hf h2.2 h2.1
  rw[e] at h;simp at h;subst h;exact⟨w.valid,w.fits⟩
 ·rw[Zei       a z (by by_cases h3:z<a.f2;exact .inl h3;exact .inr ⟨h1,fun q=>h2 ⟨by omega,q⟩⟩)] at h
  simp at h
theorem Zff (a r:Zh) (z e:Int) (hv:Z24 a) (hf:Fits a) (h:Z1z.f a z=some (r,e)):e=0∨e=31:=by
 by_cases h1:z=a.f2
 ·subst h1;rw[Z5d a hv] at h;simp at h;exact .inl h.2.symm
 by_cases h2:a.f2<z ∧ -262144<z∧z≤262144
 ·obtain⟨r',e',w⟩:=Z6h        a z hv hf h2.2 h2.1
  rw[e'] at h;simp at h;exact .inl h.2.symm
 ·rw[Zei       a z (by by_cases h3:z<a.f2;exact .inl h3;exact .inr ⟨h1,fun q=>h2 ⟨by omega,q⟩⟩)] at h
  simp at h;exact .inr h.2.symm
theorem Zel (p q p' q':Zh) (hp:Z24 p) (fp:Fits p) (hq:Z24 q) (fq:Fits q) (h:Z10.l0 (p.f0,p.f1,p.f2,p.f3,p.f4,p.f5,p.f6,p.f7,q.f0,q.f1,q.f2,q.f3,q.f4,q.f5,q.f6,q.f7)=some (.inr (p'.f0,p'.f1,p'.f2,p'.f3,p'.f4,p'.f5,p'.f6,p'.f7,q'.f0,q'.f1,q'.f2,q'.f3,q'.f4,q'.f5,q'.f6,q'.f7))) :
  Z2o.l0 (p.f0,p.f1,p.f2,p.f3,p.f4,p.f5,p.f6,p.f7,q.f0,q.f1,q.f2,q.f3,q.f4,q.f5,q.f6,q.f7)=some (p'.f0,p'.f1,p'.f2,p'.f3,p'.f4,p'.f5,p'.f6,p'.f7,q'.f0,q'.f1,q'.f2,q'.f3,q'.f4,q'.f5,q'.f6,q'.f7):=by
 refine Z10.l0.partial_correctness (motive:=fun v o=>∀ p q:Zh,v=(p.f0,p.f1,p.f2,p.f3,p.f4,p.f5,p.f6,p.f7,q.f0,q.f1,q.f2,q.f3,q.f4,q.f5,q.f6,q.f7)→Z24 p→Fits p→Z24 q→Fits q →
  o = .inr (p'.f0,p'.f1,p'.f2,p'.f3,p'.f4,p'.f5,p'.f6,p'.f7,q'.f0,q'.f1,q'.f2,q'.f3,q'.f4,q'.f5,q'.f6,q'.f7)→Z2o.l0 v=some (p'.f0,p'.f1,p'.f2,p'.f3,p'.f4,p'.f5,p'.f6,p'.f7,q'.f0,q'.f1,q'.f2,q'.f3,q'.f4,q'.f5,q'.f6,q'.f7)) ?_ _ _ h p q rfl hp fp hq fq rfl
 clear h hp fp hq fq p q;intro self ih v o H p q hv hp fp hq fq ho;subst hv;subst ho;dsimp only at H;rw[Z2o.l0];dsimp only;by_cases hz:p.f2=q.f2
 ·rw[if_neg (by simpa using hz)] at H ⊢
  simpa using H
 ·rw[if_pos (by simpa using hz)] at H ⊢
  obtain⟨⟨r1,e1⟩,w1,H⟩:=Z36 H;obtain⟨⟨r2,e2⟩,w2,H⟩:=Z36 H;dsimp only at H;have he:e1=0∧e2=0:=by
   rcases Zff p r1 _ e1 hp fp w1 with h1 | h1<;>rcases Zff q r2 _ e2 hq fq w2 with h2 | h2<;>subst h1<;>subst h2<;>simp at H ⊢
  obtain⟨rfl,rfl⟩:=he;rw[if_neg (by simp)] at H;have v1:=Zeh p r1 _ hp fp w1;have v2:=Zeh q r2 _ hq fq w2;have key:=ih _ _ H r1 r2 rfl v1.1 v1.2 v2.1 v2.2 rfl;by_cases hlt:p.f2<q.f2
  ·rw[if_pos (show q.f2>p.f2 from hlt)] at w1 w2
   rw[Z5d q hq] at w2;simp at w2;subst w2;obtain⟨r,e,g1,g2⟩:=ref_Widen p q.f2 hp fp;rw[w1] at g1;simp at g1;obtain⟨rfl,rfl⟩:=g1;rw[if_pos (by simpa using hlt),g2,sb,sb];exact key
  ·rw[if_neg (show ¬ q.f2>p.f2 from hlt)] at w1 w2
   rw[Z5d p hp] at w1;simp at w1;subst w1;obtain⟨r,e,g1,g2⟩:=ref_Widen q p.f2 hq fq;rw[w2] at g1;simp at g1;obtain⟨rfl,rfl⟩:=g1;rw[if_neg (by simpa using hlt),g2,sb,sb];exact key
theorem ref_Alike (a b:Zh) (ha:Z24 a) (fa:Fits a) (hb:Z24 b) (fb:Fits b):∃ p q,Z10.f a b=some (p,q,0)∧Z2o.f a b=some (p,q)∧Z24 p∧Z24 q∧p.f2=q.f2∧p.f1=q.f1:=by
 have hs:Z19 (if b.f1<a.f1 then b.f1 else a.f1):=by split;exact hb.schema;exact ha.schema
 obtain⟨p0,e1,c1⟩:=Down_eq a _ ha fa hs (by split<;>omega);obtain⟨q0,e2,c2⟩:=Down_eq b _ hb fb hs (by split<;>omega);have c1':=c1;have c2':=c2;rw[← c1.zeroAt] at c1';rw[← c2.zeroAt] at c2';obtain⟨p,q,z,el,cp,cq,hz⟩:=Zfe a b p0 q0 _ _ _ c1' c2';refine⟨p,q,?_,?_,cp.valid,cq.valid,cp.zeroAt.trans cq.zeroAt.symm,cp.schema.trans cq.schema.symm⟩
 ·unfold          Z10.f
  rw[e1,sb,e2,sb,if_neg (by simp)]
  (try simp only[])
  rw[el];rfl
 ·have rl:=Zel            p0 q0 p q c1.valid c1.fits c2.valid c2.fits el
  obtain⟨r1,g1,d1,d2⟩:=ref_Down a (if b.f1<a.f1 then b.f1 else a.f1) ha fa;obtain⟨r2,g2,d3,d4⟩:=ref_Down b (if b.f1<a.f1 then b.f1 else a.f1) hb fb;rw[e1] at d1;simp at d1;obtain⟨rfl,rfl⟩:=d1;rw[e2] at d3;simp at d3;obtain⟨rfl,rfl⟩:=d3;unfold Z2o.f;by_cases hlt:a.f1<b.f1
  ·rw[if_neg (show ¬ b.f1<a.f1 by omega)] at d2 d4
   rw[if_pos (by simpa using hlt),d4,sb,d2,sb,sb];dsimp only;rw[rl];rfl
  ·by_cases hlt2:b.f1<a.f1
   ·rw[if_pos hlt2] at d2 d4
    rw[if_neg (by simpa using hlt),d2,sb,d4,sb,sb];dsimp only;rw[rl];rfl
   ·have heq:a.f1=b.f1:=by omega
    rw[if_neg hlt2] at d2 d4;rw[if_neg (by simpa using hlt),← heq,d2,sb,d4,sb,sb];dsimp only;rw[rl];rfl
end Go.Proofs.YtpoihfcehejgfaaGreat.PvGS2
namespace Go.Proofs.YtpoihfcehejgfaaGreat.PvGS2
open Go Go.Pv Go.Pv.GS Go.IntKind
theorem subint {a b:Int} (ha:I64 a) (hb:I64 b):Z5w.f a b=some (if I64 (a-b) then(a-b,0) else(0,5)):=by
 unfold Z5w.f;rw[Zam];by_cases hI:I64 (a-b)
 ·rw[if_pos hI]
  have e:(a-b+9223372036854775808) % 18446744073709551616-9223372036854775808=a-b:=by omega
  rw[e,if_neg];by_cases h:a<b
  ·simp[h]<;>omega
  ·simp[h];omega
 ·rw[if_neg hI,if_pos]
  by_cases h:a<b
  ·simp[h];omega
  ·simp[h];omega
theorem num_sub {a b:Int} (ha:U64 a) (hb:U64 b):Z87.f a b=some (if b≤a then(a-b,0) else(0,5)):=by
 unfold Z87.f;by_cases h:b≤a
 ·rw[if_neg (by simp;omega),if_pos h,Z2l (by omega) (by omega)]
 ·rw[if_pos (by simp;omega),if_neg h]
theorem halves_eq {x:Int} (hx:I64 x):((if(decide ((Int.tmod x (4294967296:Int))<(0:Int)))=true then(some (i64.wrap ((i64.wrap (Int.tdiv x (4294967296:Int)))-(1:Int)),i64.wrap ((Int.tmod x (4294967296:Int))+(4294967296:Int)))) else(some (i64.wrap (Int.tdiv x (4294967296:Int)),Int.tmod x (4294967296:Int)))):Option (Int×Int))=some (x / 4294967296,x % 4294967296):=by
 by_cases h0:0≤x
 ·rw[Int.tdiv_eq_ediv_of_nonneg h0,Int.tmod_eq_emod_of_nonneg h0,if_neg (by simp;omega),Z8 (by omega) (by omega)]
 ·have e1:Int.tdiv x 4294967296 = -((-x) / 4294967296):=by
   rw[← Int.tdiv_eq_ediv_of_nonneg (show 0 ≤ -x by omega),Int.neg_tdiv];omega
  have e2:Int.tmod x 4294967296 = -((-x) % 4294967296):=by
   rw[← Int.tmod_eq_emod_of_nonneg (show 0 ≤ -x by omega),Int.neg_tmod];omega
  rw[e1,e2];by_cases h1:(-x) % 4294967296=0
  ·rw[if_neg (by simp;omega),Z8     (by omega) (by omega)]
   congr 2<;>omega
  ·rw[if_pos (by simp;omega),Z8     (n:=-(-x / 4294967296)) (by omega) (by omega),Z8     (by omega) (by omega),Z8     (by omega) (by omega)]
   congr 2<;>omega
theorem raddint_l0 (l:List Int) (hl:l.length<1000):∀ (suf pre:List Int) (hi lo i:Int),l=pre++suf→i=(pre.length:Int)→0≤lo→lo≤4294967296*pre.length → -(2147483648*(pre.length:Int))≤hi→hi≤2147483648*pre.length→(∀ x∈suf,I64 x) →
  ∃ hi' lo',Z2s.l0 l hi lo i=some (hi',lo')∧0≤lo'∧lo'≤4294967296*l.length∧hi'*4294967296+lo'=hi*4294967296+lo+suf.sum ∧ -(2147483648*(l.length:Int))≤hi'∧hi'≤2147483648*l.length:=by
 intro suf
 induction suf with
 | nil =>
  intro pre hi lo i h1 hi0 h2 h3 ha hb _;rw[List.append_nil] at h1;subst h1;rw[Z2s.l0,if_neg (by simp[hi0])];exact⟨hi,lo,rfl,h2,h3,by simp,ha,hb⟩
 | cons x suf ih =>
  intro pre hi lo i h1 hi0 h2 h3 ha hb hs;have hx:=hs x (by simp);have hlen:(l.length:Int)=pre.length+(suf.length+1):=by rw[h1];simp
  rw[Z2s.l0,if_pos (by simp;omega),Z06 h1 hi0,sb,halves_eq hx,sb];simp only[];rw[Z8 (n:=i+1) (by omega) (by omega),Z8 (n:=hi+_) (by omega) (by omega),Z8 (n:=lo+_) (by omega) (by omega)];obtain⟨hi',lo',e,g1,g2,g3,g4,g5⟩:=ih (pre++[x]) (hi+x / 4294967296) (lo+x % 4294967296) (i+1) (by simp[h1]) (by simp;omega) (by omega) (by simp;omega) (by simp;omega) (by simp;omega) (fun y hy=>hs y (by simp[hy]));refine⟨hi',lo',e,g1,g2,?_,g4,g5⟩;rw[g3,List.sum_cons];omega
theorem raddint (l:List Int) (hl:l.length<1000) (h:∀ x∈l,I64 x):Z2s.f l=some (if I64 l.sum then(l.sum,0) else(0,5)):=by
 unfold Z2s.f;obtain⟨hi,lo,e,g1,g2,g3,g4,g5⟩:=raddint_l0 l hl l [] 0 0 0 rfl rfl (by omega) (by simp) (by simp) (by simp) h;rw[e,sb];simp only[];simp only[Int.zero_mul,Int.zero_add] at g3;rw[Int.tdiv_eq_ediv_of_nonneg g1,Int.tmod_eq_emod_of_nonneg g1,Z8 (n:=lo / 4294967296) (by omega) (by omega),Z8 (n:=hi+_) (by omega) (by omega),ifor,sb];by_cases hI:I64 l.sum
 ·rw[if_pos hI,if_neg (by simp;omega),Z8     (n:=(hi+_)*_) (by omega) (by omega),Z8     (by omega) (by omega)]
  congr 2;omega
 ·rw[if_neg hI,if_pos (by simp;omega)]
end Go.Proofs.YtpoihfcehejgfaaGreat.PvGS2
namespace Go.Proofs.YtpoihfcehejgfaaGreat.PvGS2
open Go Go.Pv Go.Pv.GS Go.IntKind
open Classical
structure Pair (p q:Zh):Prop where
 vp:Z24 p
 vq:Z24 q
 fp:Fits p
 fq:Fits q
 schema:p.f1=q.f1
 zeroAt:p.f2=q.f2
theorem Alike_pair (a b:Zh) (ha:Z24 a) (fa:Fits a) (hb:Z24 b) (fb:Fits b) :
  ∃ p q s z,Z10.f a b=some (p,q,0)∧Z2o.f a b=some (p,q)∧Cut a s z p∧Cut b s z q∧Pair p q:=by
 obtain⟨p0,q0,p,q,s,z,_,_,_,_,_,e,cp,cq,_⟩:=Alike_eq a b ha fa hb fb;obtain⟨p',q',e',r',_⟩:=ref_Alike a b ha fa hb fb;rw[e] at e';simp at e';obtain⟨rfl,rfl⟩:=e';exact⟨p,q,s,z,e,r',cp,cq,cp.valid,cq.valid,cp.fits,cq.fits,cp.schema.trans cq.schema.symm,cp.zeroAt.trans cq.zeroAt.symm⟩
structure Sumd (p q r:Zh):Prop where
 valid:Z24 r
 fits:Fits r
 kind:r.f0=if q.f0>p.f0 then q.f0 else p.f0
 schema:r.f1=p.f1
 zeroAt:r.f2=p.f2
 zero:r.f3=p.f3+q.f3
 count:r.f4=p.f4+q.f4
 sum:r.f5=p.f5+q.f5
 tpos:∀ i,tot r.f6 i=tot p.f6 i+tot q.f6 i
 tneg:∀ i,tot r.f7 i=tot p.f7 i+tot q.f7 i
end Go.Proofs.YtpoihfcehejgfaaGreat.PvGS2
