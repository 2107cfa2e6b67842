import Derived.Test.YtcilcefjcaimoaaGreatPxGroupTops13
set_option linter.unusedVariables false
set_option linter.unusedSimpArgs false
set_option maxRecDepth 10000
namespace Go.Proofs.YtcilcefjcaimoaaGreat.PvGQ
open Go Go.Pv Go.Pv.GS Go.IntKind
theorem Z9v {a b c:ByteArray} (h1:bl a b=true) (h2:bl b c=true):bl a c=true:=Z8q _ _ _ h1 h2
theorem lessL_trans {x y z:Z00} (h1:Z74 x y=true) (h2:Z74 y z=true):Z74 x z=true:=by
 simp only[Z74,Bool.or_eq_true,Bool.and_eq_true,decide_eq_true_eq] at h1 h2 ⊢;rcases h1 with h1 | ⟨e1,h1⟩<;>rcases h2 with h2 | ⟨e2,h2⟩
 ·exact .inl (Z9v h1 h2)
 ·exact .inl (e2 ▸ h1)
 ·exact .inl (e1 ▸ h2)
 ·exact .inr ⟨e1.trans e2,Z9v h1 h2⟩
theorem Zap:∀ a b c,cmpL a b<0→cmpL b c<0→cmpL a c<0
 | [],[],c,h,_=>by simp[cmpL] at h
 | [],_::_,[],_,h=>by simp[cmpL] at h
 | [],_::_,_::_,_,_=>by simp[cmpL]
 | _::_,[],_,h,_=>by simp[cmpL] at h
 | _::_,_::_,[],_,h=>by simp[cmpL] at h
 | x::a,y::b,z::c,h1,h2=>by
  rw[cmpL] at h1 h2 ⊢;by_cases e1:x=y
  ·subst e1
   rw[if_pos rfl] at h1;by_cases e2:x=z
   ·subst e2
    rw[if_pos rfl] at h2 ⊢;exact Zap a b c h1 h2
   ·rw[if_neg e2] at h2 ⊢;exact h2
  ·rw[if_neg e1] at h1
   have l1:Z74 x y=true:=by
    cases e:Z74 x y with
    | true=>rfl
    | false=>rw[e] at h1;simp at h1
   by_cases e2:y=z
   ·subst e2
    rw[if_neg e1];simp[l1]
   ·rw[if_neg e2] at h2
    have l2:Z74 y z=true:=by
     cases e:Z74 y z with
     | true=>rfl
     | false=>rw[e] at h2;simp at h2
    have l3:=lessL_trans l1 l2;have:x≠z:=fun e=>by subst e;rw[Z83] at l3;exact absurd l3 (by simp)
    rw[if_neg this,l3];simp
abbrev UpK (ks:List (List Z00)):Prop:=ks.Pairwise (fun a b=>cmpL a b<0)
structure Keys (K:Zx→List Z00) (l:List Zx) (ks:List (List Z00)):Prop where
 up:UpK ks
 mem:∀ k,k∈ks↔∃ s∈l,K s=k
 len:ks.length≤l.length
end Go.Proofs.YtcilcefjcaimoaaGreat.PvGQ
namespace Go.Proofs.YtcilcefjcaimoaaGreat.PvGQ
open Go Go.Pv Go.Pv.GS Go.IntKind
open Classical
theorem fdivP (a:Int) {b:Int} (h:0≤b):Int.fdiv a b=a / b:=Int.fdiv_eq_ediv_of_nonneg a h
structure Est (Y y1 y0 U d q r:Int):Prop where
 eq:q*y1+r=U
 lo:(U*4294967296+d) / Y≤q
 r0:0≤r
 r1:r<4294967296
 q1:q≤4294967297
structure Nm (Y y1 y0:Int):Prop where
 eq:Y=y1*4294967296+y0
 a0:0≤y0
 a1:y0<4294967296
 b0:2147483648≤y1
 b1:y1<4294967296
theorem Nm.pos {Y y1 y0:Int} (h:Nm Y y1 y0):0<Y:=by have:=h.eq;have:=h.a0;have:=h.b0;omega
def len8:ByteArray:=⟨#[0,1,2,2,3,3,3,3,4,4,4,4,4,4,4,4,5,5,5,5,5,5,5,5,5,5,5,5,5,5,5,5,6,6,6,6,6,6,6,6,6,6,6,6,6,6,6,6,6,6,6,6,6,6,6,6,6,6,6,6,6,6,6,6,7,7,7,7,7,7,7,7,7,7,7,7,7,7,7,7,7,7,7,7,7,7,7,7,7,7,7,7,7,7,7,7,7,7,7,7,7,7,7,7,7,7,7,7,7,7,7,7,7,7,7,7,7,7,7,7,7,7,7,7,7,7,7,7,8,8,8,8,8,8,8,8,8,8,8,8,8,8,8,8,8,8,8,8,8,8,8,8,8,8,8,8,8,8,8,8,8,8,8,8,8,8,8,8,8,8,8,8,8,8,8,8,8,8,8,8,8,8,8,8,8,8,8,8,8,8,8,8,8,8,8,8,8,8,8,8,8,8,8,8,8,8,8,8,8,8,8,8,8,8,8,8,8,8,8,8,8,8,8,8,8,8,8,8,8,8,8,8,8,8,8,8,8,8,8,8,8,8,8,8,8,8,8,8,8,8,8,8,8,8,8,8]⟩
def Len8 (v t:Int):Prop:=(v=0∧t=0)∨(v=1∧t=1)∨(2≤v∧v<4∧t=2)∨(4≤v∧v<8∧t=3)∨(8≤v∧v<16∧t=4)∨(16≤v∧v<32∧t=5)∨(32≤v∧v<64∧t=6)∨(64≤v∧v<128∧t=7)∨(128≤v∧v<256∧t=8)
set_option maxRecDepth 100000 in
theorem Z9i:(len8.size:Int)=256:=by rfl
set_option maxRecDepth 100000 in
theorem len8_nat:∀ k:Nat,k<256→Len8 k (bt len8 k):=by
 have h:∀ k:Fin 256,((k.val:Int)=0∧bt len8 k.val=0)∨((k.val:Int)=1∧bt len8 k.val=1)∨(2≤(k.val:Int)∧(k.val:Int)<4∧bt len8 k.val=2)∨(4≤(k.val:Int)∧(k.val:Int)<8∧bt len8 k.val=3)∨(8≤(k.val:Int)∧(k.val:Int)<16∧bt len8 k.val=4)∨(16≤(k.val:Int)∧(k.val:Int)<32∧bt len8 k.val=5)∨(32≤(k.val:Int)∧(k.val:Int)<64∧bt len8 k.val=6)∨(64≤(k.val:Int)∧(k.val:Int)<128∧bt len8 k.val=7)∨(128≤(k.val:Int)∧(k.val:Int)<256∧bt len8 k.val=8):=by decide +kernel
 exact fun k hk=>h ⟨k,hk⟩
theorem len8_tab {v:Int} (h0:0≤v) (h1:v<256):Len8 v (bt len8 v):=by
 have:=len8_nat v.toNat (by omega)
 rwa [Int.toNat_of_nonneg h0] at this
theorem u8_id {v:Int} (h0:0≤v) (h1:v<256):u8.wrap v=v:=by
 simp only[IntKind.wrap,IntKind.signed,IntKind.bits];simp;omega
theorem Z9j {v n:Int} (h0:0≤v) (h1:v<256) (hn:0≤n∧n≤56):((chk (0≤(u8.wrap (v))∧(u8.wrap (v))<((len8.size:Nat):Int)))>>=fun _=>some (i64.wrap (n+(i64.wrap (bt len8 (u8.wrap (v)))))))=some (n+bt len8 v)∧Len8 v (bt len8 v):=by
 have L:=len8_tab h0 h1;have hb:0≤bt len8 v∧bt len8 v≤8:=by unfold Len8 at L;omega
 rw[u8_id h0 h1,chkB ⟨h0,by rw[Z9i];exact h1⟩,Z08 (n:=bt len8 v) (by omega) (by omega),Z08 (by omega) (by omega)];exact⟨rfl,L⟩
end Go.Proofs.YtcilcefjcaimoaaGreat.PvGQ
namespace Go.Proofs.YtcilcefjcaimoaaGreat.PvGQ
open Go Go.Pv Go.Pv.GS Go.IntKind
def tot:List Z6→Int→Int
 | [],_=>0
 | b::l,i=>(if b.f0=i then b.f1 else 0)+tot l i
structure Canon (l:List Z6):Prop where
 up:l.Pairwise (fun a b=>a.f0<b.f0)
 pos:∀ b∈l,0<b.f1
structure TidyI (pre out:List Z6):Prop where
 canon:Canon out
 seen:∀ o∈out,∃ p∈pre,p.f0=o.f0
 tots:∀ i,tot out i=tot pre i
 u64:∀ o∈out,U64 o.f1
 len:out.length≤pre.length
def cnt (l:List Z6):Int:=(l.map (·.f1)).sum
def Z6n (s:Int):Prop:=-4≤s∧s≤8
instance (s:Int):Decidable (Z6n s):=inferInstanceAs (Decidable (_∧_))
def stp (s:Int):Int:=2 ^ (8-s).toNat
theorem stp_pos (s:Int):0<stp s:=by unfold stp;exact Int.pow_pos (by omega)
theorem stp_le {s:Int} (h:Z6n s):stp s≤4096:=by
 have h1:=h.1;have h2:=h.2;have:s = -4∨s = -3∨s = -2∨s = -1∨s=0∨s=1∨s=2∨s=3∨s=4∨s=5∨s=6∨s=7∨s=8:=by omega
 rcases this with rfl | rfl | rfl | rfl | rfl | rfl | rfl | rfl | rfl | rfl | rfl | rfl | rfl<;>decide
structure Fits (h:Zh):Prop where
 kind:I64 h.f0
 schema:I64 h.f1
 zeroAt:I64 h.f2
 zero:U64 h.f3
 count:U64 h.f4
 sum:I64 h.f5
 pos:∀ b∈h.f6,I64 b.f0∧U64 b.f1
 neg:∀ b∈h.f7,I64 b.f0∧U64 b.f1
theorem fits_of {h:Zh} (r:RHist h):Fits h:=⟨r.r0,r.r1,r.r2,r.r3,r.r4,r.r5,fun b hb=>let q:=r.r6.2 b hb;⟨q.r0,q.r1⟩,fun b hb=>let q:=r.r7.2 b hb;⟨q.r0,q.r1⟩⟩
def InS (s i:Int):Prop:=-262144<i*stp s∧i*stp s≤262144
instance (s i:Int):Decidable (InS s i):=inferInstanceAs (Decidable (_∧_))
theorem Z9n {s i:Int} (hi:InS s i) : -262144<i∧i≤262144:=by
 have hp:=stp_pos s;obtain⟨h1,h2⟩:=hi;constructor
 ·by_cases h:i ≤ -262144
  ·have:=Int.mul_le_mul_of_nonneg_right h (Int.le_of_lt hp)
   have h3 : -262144*stp s ≤ -262144*1:=by
    have:=Int.mul_le_mul_of_nonneg_left (show 1≤stp s by omega) (show(0:Int)≤262144 by omega);omega
   omega
  ·omega
 ·by_cases h:262144<i
  ·have:=Int.mul_le_mul_of_nonneg_right (show 262145≤i by omega) (Int.le_of_lt hp)
   have h3:=Int.mul_le_mul_of_nonneg_left (show 1≤stp s by omega) (show(0:Int)≤262145 by omega);omega
  ·omega
theorem Z94 (s:Int):Z1k.f s=some (decide (Z6n s)):=by
 unfold Z1k.f;rw[ifand,← Bool.decide_and];rfl
theorem ref_step_l0 (s:Int):∀ (n:Nat) (x i:Int),i≤8→8-i=(n:Int) → -4≤i→0≤x→x*2 ^ n≤4096→Z2f.l0 x i=some (x*2 ^ n):=by
 intro n
 induction n with
 | zero=>intro x i h1 h2 h3 h4 h5;rw[Z2f.l0,if_neg (by simp;omega)];simp
 | succ n ih =>
  intro x i h1 h2 h3 h4 h5;have e:x*2 ^ (n+1)=x*2*2 ^ n:=by rw[Int.pow_succ,Int.mul_assoc,Int.mul_comm 2]
  have hp:(0:Int)<2 ^ n:=Int.pow_pos (by omega);have hle:x*2≤4096:=by
   have:=Int.mul_le_mul_of_nonneg_left (show(1:Int)≤2 ^ n by omega) (show 0≤x*2 by omega);omega
  rw[Z2f.l0,if_pos (by simp;omega),Z08 (n:=x*2) (by omega) (by omega),Z08 (n:=i+1) (by omega) (by omega),ih (x*2) (i+1) (by omega) (by omega) (by omega) (by omega) (by omega),e]
theorem ref_step {s:Int} (h:Z6n s):Z2f.f s=some (stp s):=by
 unfold Z2f.f;have h1:=h.1;have h2:=h.2;rw[ref_step_l0 s (8-s).toNat 1 s h2 (by omega) h1 (by omega) (by rw[Int.one_mul];exact stp_le h)];simp[stp]
theorem ref_units {s i:Int} (h:Z6n s) (hi : -1000000000000<i∧i<1000000000000):Z2j.f s i=some (i*stp s):=by
 unfold Z2j.f;rw[Z94,sb,if_neg (by simp[h]),ref_step h,sb];have h1:=stp_pos s;have h2:=stp_le h;have h3:i*stp s≤1000000000000*4096:=by
  by_cases h0:0≤i
  ·exact Int.mul_le_mul (by omega) h2 (by omega) (by omega)
  ·have:i*stp s≤0:=Int.mul_nonpos_of_nonpos_of_nonneg (by omega) (by omega);omega
 have h4 : -(1000000000000*4096)≤i*stp s:=by
  by_cases h0:0≤i
  ·have:0≤i*stp s:=Int.mul_nonneg h0 (by omega);omega
  ·have : -i*stp s≤1000000000000*4096:=Int.mul_le_mul (by omega) h2 (by omega) (by omega)
   rw[Int.neg_mul] at this;omega
 rw[Z08 (by omega) (by omega)]
theorem ref_in {s i:Int} (h:Z6n s) (hi:I64 i):Z68.f s i=some (decide (InS s i)):=by
 unfold Z68.f;rw[Z94,sb,if_pos (by simp[h])];by_cases h1:i > -262144
 ·rw[if_pos (by simpa using h1)]
  by_cases h2:i≤262144
  ·rw[if_pos (by simpa using h2),ref_units h (by omega),sb]
   by_cases h3:i*stp s > -262144
   ·rw[if_pos (by simpa using h3),sb,sb]
    congr 1;rw[decide_eq_decide];exact⟨fun h=>⟨h3,h⟩,fun h=>h.2⟩
   ·rw[if_neg (by simpa using h3),sb]
    have:¬ InS s i:=fun h=>h3 h.1;simp[this]
  ·rw[if_neg (by simpa using h2),sb]
   have:¬ InS s i:=fun h=>by have:=Z9n h;omega
   simp[this]
 ·rw[if_neg (by simpa using h1),sb]
  have:¬ InS s i:=fun h=>by have:=Z9n h;omega
  simp[this]
structure BOk (s z:Int) (b:Z6):Prop where
 ins:InS s b.f0
 pos:0<b.f1
 low:z≤(b.f0-1)*stp s
def Up:Option Int→List Z6→Prop
 | _,[]=>True
 | p,b::l=>(∀ q,p=some q→q<b.f0)∧Up (some b.f0) l
theorem up_iff:∀ (l:List Z6) (p:Option Int),Up p l↔(∀ q,p=some q→∀ b∈l,q<b.f0)∧l.Pairwise (fun a b=>a.f0<b.f0)
 | [],p=>by simp[Up]
 | x::l,p=>by
  rw[Up,up_iff l,List.pairwise_cons];constructor
  ·rintro⟨h1,h2,h3⟩
   refine⟨fun q hq b hb => ?_,fun b hb=>h2 _ rfl b hb,h3⟩;have h4:=h1 q hq;rcases List.mem_cons.1 hb with rfl | hb
   ·exact h4
   ·have:=h2 _ rfl b hb;omega
  ·rintro⟨h1,h2,h3⟩
   exact⟨fun q hq=>h1 q hq x (by simp),fun q hq b hb=>by cases hq;exact h2 b hb,h3⟩
structure Side (s z:Int) (l:List Z6):Prop where
 len:l.length≤512
 ok:∀ b∈l,BOk s z b
 up:l.Pairwise (fun a b=>a.f0<b.f0)
structure Z8h (h:Zh):Prop where
 kind:h.f0=0∨h.f0=1
 schema:Z6n h.f1
 zero:h.f2 = -524288∨(-262144<h.f2∧h.f2≤262144)
 pos:Side h.f1 h.f2 h.f6
 neg:Side h.f1 h.f2 h.f7
 total:cnt h.f6+cnt h.f7+h.f3<18446744073709551616
 count:h.f4=cnt h.f6+cnt h.f7+h.f3
theorem last_pre {l pre:List Z6} {x:Z6} {suf:List Z6} {i:Int} (h1:l=pre++x::suf) (hi:i=(pre.length:Int)) (h0:0<i) (hl:l.length<1000000000) :
  ∃ q,(pre.getLast?).map (·.f0)=some q∧∃ y,at? l (i64.wrap (i-1))=some y∧y.f0=q:=by
 rcases List.eq_nil_or_concat pre with rfl | ⟨P,p,rfl⟩
 ·simp at hi;omega
 ·simp only[List.concat_eq_append] at *
  have hlen:l.length=P.length+1+(suf.length+1):=by rw[h1];simp;omega
  have hi2:i=(P.length:Int)+1:=by rw[hi];simp
  rw[Z08 (by omega) (by omega)];exact⟨p.f0,by simp,p,Z2w (pre:=P) (suf:=x::suf) (by simp[h1]) (by omega),rfl⟩
theorem no_pre {pre:List Z6} {i:Int} (hi:i=(pre.length:Int)) (h0:¬ 0<i):(pre.getLast?).map (·.f0)=none:=by
 have:pre=[]:=List.length_eq_zero_iff.1 (by omega);subst this;rfl
theorem ref_add_l0 (l:List Int) (hl:l.length<4611686018427387904):∀ (suf pre:List Int) (acc i:Int),l=pre++suf→i=(pre.length:Int)→U64 acc→(∀ x∈suf,U64 x) →
  Z2x.l0 l acc i=some (if acc+suf.sum<18446744073709551616 then .inr (acc+suf.sum) else .inl (0,5)):=by
 intro suf
 induction suf with
 | nil =>
  intro pre acc i h1 hi ha hs;subst h1;rw[Z2x.l0,if_neg (by simp[hi])];simp[ha.2]
 | cons x suf ih =>
  intro pre acc i h1 hi ha hs;have hx:=hs x (by simp);have hs':∀ y∈suf,U64 y:=fun y hy=>hs y (by simp[hy])
  have hnn:0≤suf.sum:=Z9m (fun y hy=>(hs' y hy).1);have hlen:(l.length:Int)=pre.length+(suf.length+1):=by rw[h1];simp
  rw[Z2x.l0,if_pos (by rw[h1];simp[hi];omega),Z2w h1 hi,sb,wrapU (n:=18446744073709551615-acc) (by omega) (by omega)];by_cases hov:acc+x<18446744073709551616
  ·rw[if_neg (by simp;omega),Z08    (by omega) (by omega),wrapU (by omega) (by omega)]
   rw[ih (pre++[x]) (acc+x) (i+1) (by simp[h1]) (by simp;omega) ⟨by omega,hov⟩ hs'];rw[List.sum_cons,Int.add_assoc]
  ·rw[if_pos (by simp;omega),if_neg (by rw[List.sum_cons];omega)]
theorem ref_add (l:List Int) (hl:l.length<4611686018427387904) (h:∀ x∈l,U64 x) :
  Z2x.f l=some (if l.sum<18446744073709551616 then(l.sum,0) else(0,5)):=by
 unfold Z2x.f;rw[ref_add_l0 l hl l [] 0 0 rfl rfl (by omega) h,sb,Int.zero_add];by_cases h:l.sum<18446744073709551616
 ·rw[if_pos h,if_pos h]
 ·rw[if_neg h,if_neg h]
theorem ref_check_l1 (h:Zh) (x124:Int) (l:List Z6) (hs:Z6n h.f1) (hl:l.length<1000000):∀ (suf pre:List Z6) (acc:List Int) (i:Int),l=pre++suf→i=(pre.length:Int)→acc.length+suf.length<10000000→(∀ b∈suf,I64 b.f0∧U64 b.f1) →
  ∃ r,Z0r.l1 h x124 l acc i=some r∧(∀ c,r = .inl c→c≠0)∧((∃ a,r = .inr a)↔(∀ b∈suf,BOk h.f1 h.f2 b)∧Up ((pre.getLast?).map (·.f0)) suf)∧∀ a,r = .inr a→a=acc++suf.map (·.f1):=by
 intro suf
 induction suf with
 | nil =>
  intro pre acc i h1 hi _ _;subst h1;rw[Z0r.l1,if_neg (by simp[hi])];exact⟨_,rfl,by simp,by simp[Up],by simp⟩
 | cons x suf ih =>
  intro pre acc i h1 hi ha hU;have hx:=hU x (by simp);have hlen:(l.length:Int)=pre.length+(suf.length+1):=by rw[h1];simp
  simp only[List.length_cons] at ha;rw[Z0r.l1,if_pos (by simp;omega),Z2w h1 hi,sb,ref_in hs hx.1,sb];by_cases c1:InS h.f1 x.f0
  case neg =>
   rw[if_pos (by simp[c1])];exact⟨_,rfl,by simp,by simp;intro h;exact absurd h.ins c1,by simp⟩
  rw[if_neg (by simp[c1])];have hsm:=Z9n c1;have hprev:∃ c:Bool,((if(decide (i>(0:Int)))=true then((at? l (i64.wrap (i-(1:Int))))>>=fun b168=>some (decide (x.f0≤b168.f0))) else(some false)):Option (Bool))=some c∧(c=false↔∀ q,(pre.getLast?).map (·.f0)=some q→q<x.f0):=by
   by_cases h0:0<i
   ·obtain⟨q,e1,y,e2,e3⟩:=last_pre h1 hi h0 (by omega)
    rw[if_pos (by simpa using h0),e2,sb];exact⟨_,rfl,by rw[e1,e3];simp⟩
   ·rw[if_neg (by simpa using h0)]
    exact⟨_,rfl,by rw[no_pre hi h0];simp⟩
  obtain⟨c,ec,hc⟩:=hprev;rw[ec,sb,Z08 (n:=x.f0-1) (by omega) (by omega),ref_units hs (by omega)];cases c with
  | true =>
   rw[if_pos rfl];refine⟨_,rfl,by simp,by simp;intro _ _ h2;exact absurd (hc.2 h2.1) (by simp),by simp⟩
  | false =>
   rw[if_neg (by simp)];by_cases c2:x.f1=0
   ·rw[if_pos (by simpa using c2)]
    exact⟨_,rfl,by simp,by simp;intro h;have:=h.pos;omega,by simp⟩
   rw[if_neg (by simpa using c2),sb];by_cases c3:(x.f0-1)*stp h.f1<h.f2
   ·rw[if_pos (by simpa using c3)]
    exact⟨_,rfl,by simp,by simp;intro h;have:=h.low;omega,by simp⟩
   rw[if_neg (by simpa using c3),chkB (by simp;omega),Z08 (n:=i+1) (by omega) (by omega)];obtain⟨r,e,e1,e2,e3⟩:=ih (pre++[x]) (acc++[x.f1]) (i+1) (by simp[h1]) (by simp;omega) (by simp;omega) (fun b hb=>hU b (by simp[hb]));refine⟨r,e,e1,?_,fun a ha=>by rw[e3 a ha];simp⟩;rw[e2];simp only[List.getLast?_append,List.getLast?_singleton,Option.some_or,Option.map_some,Up,List.forall_mem_cons];have hb:BOk h.f1 h.f2 x:=⟨c1,by omega,by omega⟩
   constructor
   ·rintro⟨a,b⟩;exact⟨⟨hb,a⟩,hc.1 rfl,b⟩
   ·rintro⟨⟨_,a⟩,_,b⟩;exact⟨a,b⟩
theorem Z6i (h:Zh) (x124:Int) (l:List Z6) (acc:List Int) (hs:Z6n h.f1) (hl:l.length<1000000000000000) (ha:acc.length<1000000) (hU:∀ b∈l,I64 b.f0∧U64 b.f1) :
  ∃ r:Int ⊕ List Int,(if(decide ((l.length:Int)>(512:Int)))=true then(some (.inl 9)) else(Z0r.l1 h x124 l acc 0))=some r∧(∀ c,r = .inl c→c≠0)∧((∃ a,r = .inr a)↔Side h.f1 h.f2 l)∧∀ a,r = .inr a→a=acc++l.map (·.f1):=by
 by_cases h0:l.length>512
 ·rw[if_pos (by simp;omega)]
  exact⟨_,rfl,by simp,by simp;intro h;have:=h.len;omega,by simp⟩
 ·rw[if_neg (by simp;omega)]
  obtain⟨r,e,e1,e2,e3⟩:=ref_check_l1 h x124 l hs (by omega) l [] acc 0 rfl rfl (by omega) hU;refine⟨r,e,e1,e2.trans ⟨fun⟨h1,h2⟩=>⟨by omega,h1,((up_iff l _).1 h2).2⟩,fun h=>⟨h.ok,(up_iff l _).2 ⟨by simp,h.up⟩⟩⟩,e3⟩
theorem ref_check_iff (h:Zh) (hf:Fits h) (hp:h.f6.length<1000000000000000) (hn:h.f7.length<1000000000000000):∃ r,Z0r.f h=some r∧(r=0↔Z8h h):=by
 unfold Z0r.f;have hk:((if(h.f0 != (0:Int))=true then(some (h.f0 != (1:Int))) else(some false)):Option (Bool))=some (!decide (h.f0=0∨h.f0=1)):=by
  by_cases h1:h.f0=0
  ·simp[h1]
  ·by_cases h2:h.f0=1<;>simp[h1,h2]
 rw[hk,sb];by_cases c1:h.f0=0∨h.f0=1
 case neg=>rw[if_pos (by simpa using c1)];exact⟨_,rfl,by simp;intro h;exact c1 h.kind⟩
 rw[if_neg (by rw[decide_eq_true c1];decide),Z94,sb];by_cases c2:Z6n h.f1
 case neg=>rw[if_pos (by simp[c2])];exact⟨_,rfl,by simp;intro h;exact c2 h.schema⟩
 rw[if_neg (by simp[c2])];have hz:((if(h.f2 != (-524288))=true then(if(decide (h.f2≤(-262144)))=true then(some true) else(some (decide (h.f2>(262144:Int))))) else(some false)):Option (Bool))=some (!decide (h.f2 = -524288∨(-262144<h.f2∧h.f2≤262144))):=by
  by_cases h1:h.f2 = -524288
  ·simp[h1]
  ·by_cases h2:h.f2 ≤ -262144
   ·simp[h1,h2]
   ·have h4 : -262144<h.f2:=by omega
    by_cases h3:h.f2≤262144
    ·simp[h1,h2,h3,h4]
    ·simp[h1,h2,h3,h4];omega
 rw[hz,sb];by_cases c3:h.f2 = -524288∨(-262144<h.f2∧h.f2≤262144)
 case neg=>rw[if_pos (by simp[c3])];exact⟨_,rfl,by simp;intro h;exact c3 h.zero⟩
 rw[if_neg (by simp[c3])];obtain⟨r1,e1,n1,i1,j1⟩:=Z6i h 0 h.f6 [h.f3] c2 hp (by simp) hf.pos;have w1:i64.wrap (0+1)=1:=by decide
 have w2:i64.wrap (1+1)=2:=by decide
 have step:∀ (k:Int) (l:List Z6) (acc:List Int),(k=0∧l=h.f6∨k=1∧l=h.f7)→Z0r.l0 h acc k=((if(decide ((l.length:Int)>(512:Int)))=true then(some (.inl 9)) else(Z0r.l1 h k l acc 0))>>=fun(oo:Int ⊕ List Int)=>match oo with | .inl rr=>(some (.inl rr)) | .inr x181=>(Z0r.l0 h x181 (k+1))):=by
  intro k l acc hk;rcases hk with ⟨rfl,rfl⟩ | ⟨rfl,rfl⟩
  ·rw[Z0r.l0,if_pos (by decide),if_neg (by decide),sb,w1,bind_iteB];rfl
  ·rw[Z0r.l0,if_pos (by decide),if_pos (by decide),sb,w2,bind_iteB];rfl
 rw[step 0 h.f6 _ (.inl ⟨rfl,rfl⟩),e1,sb];cases r1 with
 | inl c=>exact⟨c,rfl,fun h=>absurd h (n1 c rfl),fun h=>by obtain⟨a,e⟩:=i1.2 h.pos;cases e⟩
 | inr a1 =>
  have hv1:=i1.1 ⟨_,rfl⟩;have ha1:=j1 a1 rfl;have hl1:=hv1.len;obtain⟨r2,e2,n2,i2,j2⟩:=Z6i h 1 h.f7 a1 c2 hn (by rw[ha1];simp;omega) hf.neg;simp only[];rw[show(0:Int)+1=1 from rfl,step 1 h.f7 _ (.inr ⟨rfl,rfl⟩),e2,sb];cases r2 with
  | inl c=>exact⟨c,rfl,fun h=>absurd h (n2 c rfl),fun h=>by obtain⟨a,e⟩:=i2.2 h.neg;cases e⟩
  | inr a2 =>
   have hv2:=i2.1 ⟨_,rfl⟩;have ha2:=j2 a2 rfl;have hl2:=hv2.len;simp only[];rw[show(1:Int)+1=2 from rfl,Z0r.l0,if_neg (by decide),sb];simp only[];have hall:a2=[h.f3]++h.f6.map (·.f1)++h.f7.map (·.f1):=by rw[ha2,ha1]
   have hsum:a2.sum=cnt h.f6+cnt h.f7+h.f3:=by rw[hall];simp[cnt];omega
   rw[ref_add a2 (by rw[hall];simp;omega) (by
    intro x hx;rw[hall] at hx;simp only[List.mem_append,List.mem_singleton,List.mem_map] at hx;rcases hx with (rfl | ⟨b,hb,rfl⟩) | ⟨b,hb,rfl⟩
    ·exact hf.zero
    ·exact(hf.pos b hb).2
    ·exact(hf.neg b hb).2),sb,hsum]
   by_cases c4:cnt h.f6+cnt h.f7+h.f3<18446744073709551616
   case neg=>rw[if_neg c4,if_pos (by simp)];exact⟨_,rfl,by simp;intro h;exact c4 h.total⟩
   rw[if_pos c4,if_neg (by simp)];by_cases c5:cnt h.f6+cnt h.f7+h.f3=h.f4
   ·rw[if_neg (by simpa using c5)]
    exact⟨0,rfl,fun _=>⟨c1,c2,c3,hv1,hv2,c4,c5.symm⟩,fun _=>rfl⟩
   ·rw[if_pos (by simpa using c5)]
    exact⟨_,rfl,by simp;intro h;exact c5 h.count.symm⟩
end Go.Proofs.YtcilcefjcaimoaaGreat.PvGQ
namespace Go.Proofs.YtcilcefjcaimoaaGreat.PvGQ
open Go Go.Pv Go.Pv.GS Go.IntKind
open Classical
structure Right8 (h:Zh):Prop where
 pos:h.f6.length≤100
 neg:h.f7.length≤100
 valid:Z8h h
abbrev cellN (s:Int) (b:Z6):Z0m:=⟨⟨-1,s,b.f0⟩,b.f1⟩
abbrev cellP (s:Int) (b:Z6):Z0m:=⟨⟨1,s,b.f0⟩,b.f1⟩
def cellZ (z:Int):List Z0m:=if 0<z then [⟨⟨0,0,0⟩,z⟩] else []
def cells (h:Zh):List Z0m:=(h.f7.reverse.map (cellN h.f1)++cellZ h.f3)++h.f6.map (cellP h.f1)
def lo (h:Zh) (c:Z0m):Int:=if c.f0.f0>0 then 1048576+(c.f0.f2-1)*stp h.f1 else if c.f0.f0<0 then -1048576-c.f0.f2*stp h.f1 else if h.f2 = -524288 then 0 else -1048576-h.f2
def hi (h:Zh) (c:Z0m):Int:=if c.f0.f0>0 then 1048576+c.f0.f2*stp h.f1 else if c.f0.f0<0 then -1048576-(c.f0.f2-1)*stp h.f1 else if h.f2 = -524288 then 0 else 1048576+h.f2
inductive CellOk (h:Zh):Z0m→Prop
 | neg (b:Z6) (hb:b∈h.f7) (ok:BOk h.f1 h.f2 b):CellOk h (cellN h.f1 b)
 | zero (hz:0<h.f3):CellOk h ⟨⟨0,0,0⟩,h.f3⟩
 | pos (b:Z6) (hb:b∈h.f6) (ok:BOk h.f1 h.f2 b):CellOk h (cellP h.f1 b)
def p0:Za:=⟨0,0,0⟩
structure Bs (s z:Int) (l:List Z6):Prop where
 len:l.length≤5000
 ok:∀ b∈l,InS s b.f0∧0≤b.f1∧z≤(b.f0-1)*stp s
def Strad (s a:Int) (l:List Z6):Prop:=∃ b∈l,(b.f0-1)*stp s<a∧a<b.f0*stp s
def cg (s a:Int):Int:=-((-a) / stp s)*stp s
abbrev above (s a:Int) (i:Int):Bool:=decide (a<i*stp s)
abbrev dropL (s a:Int) (l:List Z6):List Z6:=l.filter (fun b => !above s a b.f0)
noncomputable def zAt (s a:Int) (p n:List Z6):Int:=if Strad s a p∨Strad s a n then cg s a else a
structure Cs (s:Int) (l:List Z6):Prop where
 len:l.length≤5000
 ins:∀ b∈l,InS s b.f0
 pos:∀ b∈l,0<b.f1
structure Swal (h:Zh) (p n:List Z6) (a:Int) (r:Zh):Prop where
 valid:Z8h r
 fits:Fits r
 kind:r.f0=h.f0
 schema:r.f1=h.f1
 zeroAt:r.f2=zAt h.f1 a p n
 zero:r.f3=h.f3+cnt (dropL h.f1 (zAt h.f1 a p n) p)+cnt (dropL h.f1 (zAt h.f1 a p n) n)
 sum:r.f5=h.f5
 tpos:∀ i,tot r.f6 i=if above h.f1 (zAt h.f1 a p n) i=true then tot p i else 0
 tneg:∀ i,tot r.f7 i=if above h.f1 (zAt h.f1 a p n) i=true then tot n i else 0
 count:r.f4=cnt p+cnt n+h.f3
def rat (f t:Int):Int:=2 ^ (f-t).toNat
def upI (f t i:Int):Int:=-((-i) / rat f t)
def downL (f t:Int) (l:List Z6):List Z6:=l.map (fun b=>⟨upI f t b.f0,b.f1⟩)
def h0:Zh:=⟨0,0,0,0,0,0,[],[]⟩
structure Cut (a:Zh) (s z:Int) (r:Zh):Prop where
 valid:Z8h r
 fits:Fits r
 kind:r.f0=a.f0
 schema:r.f1=s
 zeroAt:r.f2=z
 count:r.f4=a.f4
 sum:r.f5=a.f5
 tpos:∀ i,tot r.f6 i=if above s z i=true then tot (downL a.f1 s a.f6) i else 0
 tneg:∀ i,tot r.f7 i=if above s z i=true then tot (downL a.f1 s a.f7) i else 0
noncomputable def upto (k:Z5→Int) (y:Int) (q:Z5):Int:=if k q≤y then 1 else 0
structure Dn (h:Zh) (s:Int) (d:Zh):Prop where
 valid:Z8h d
 fits:Fits d
 schema:d.f1=s
 zeroAt:d.f2 = -524288
 count:d.f4=h.f4
 zero:d.f3=h.f3
 tpos:∀ i,tot d.f6 i=tot (downL h.f1 s h.f6) i
 tneg:∀ i,tot d.f7 i=tot (downL h.f1 s h.f7) i
def ceilD (N of:Int):Int:=if N % of=0 then N / of else N / of+1
def mx1 (n:Int):Int:=if(1:Int)>n then 1 else n
structure Part (h:Zh) (part of:Int):Prop where
 ok:Z3c.f h part of=Z3s.f h (mx1 (ceilD (part*h.f4) of))
 lo:1≤mx1 (ceilD (part*h.f4) of)
 hi:mx1 (ceilD (part*h.f4) of)≤h.f4
def Cand (hv:Bool) (last:Int) (b:Z6):Prop:=hv=false∨last<b.f0
structure Least (hv:Bool) (last:Int) (l:List Z6) (fd:Bool) (nx:Int):Prop where
 none:fd=false→∀ b∈l,¬ Cand hv last b
 some:fd=true→(∃ b∈l,Cand hv last b∧b.f0=nx)∧∀ b∈l,Cand hv last b→nx≤b.f0
end Go.Proofs.YtcilcefjcaimoaaGreat.PvGQ
namespace Go.Proofs.YtcilcefjcaimoaaGreat.PvGQ
open Go Go.Pv Go.Pv.GS Go.IntKind
theorem rtime (t:Int):Z3f.f t=some (decide (0≤t∧t≤1099511627776)):=by
 unfold Z3f.f;by_cases c:0≤t<;>simp[c]
end Go.Proofs.YtcilcefjcaimoaaGreat.PvGQ
namespace Go.Proofs.YtcilcefjcaimoaaGreat.PvGQ
open Go Go.Pv Go.Pv.GS Go.IntKind
open Classical
structure Pair (p q:Zh):Prop where
 vp:Z8h p
 vq:Z8h q
 fp:Fits p
 fq:Fits q
 schema:p.f1=q.f1
 zeroAt:p.f2=q.f2
structure Sumd (p q r:Zh):Prop where
 valid:Z8h r
 fits:Fits r
 kind:r.f0=if q.f0>p.f0 then q.f0 else p.f0
 schema:r.f1=p.f1
 zeroAt:r.f2=p.f2
 zero:r.f3=p.f3+q.f3
 count:r.f4=p.f4+q.f4
 sum:r.f5=p.f5+q.f5
 tpos:∀ i,tot r.f6 i=tot p.f6 i+tot q.f6 i
 tneg:∀ i,tot r.f7 i=tot p.f7 i+tot q.f7 i
structure Left (s z:Int) (o:List Z6):Prop where
 ok:∀ b∈o,InS s b.f0∧0≤b.f1∧z≤(b.f0-1)*stp s
 u64:∀ b∈o,U64 b.f1
structure Lessd (p q r:Zh):Prop where
 valid:Z8h r
 fits:Fits r
 kind:r.f0=p.f0
 schema:r.f1=p.f1
 zeroAt:r.f2=p.f2
 zero:r.f3=p.f3-q.f3
 count:r.f4=p.f4-q.f4
 sum:r.f5=p.f5-q.f5
 tpos:∀ i,tot r.f6 i=tot p.f6 i-tot q.f6 i
 tneg:∀ i,tot r.f7 i=tot p.f7 i-tot q.f7 i
end Go.Proofs.YtcilcefjcaimoaaGreat.PvGQ
namespace Go.Proofs.YtcilcefjcaimoaaGreat.PvGQ
open Go Go.Pv Go.Pv.GS Go.IntKind
structure Ups (l:List Z0h):Prop where
 ok:∀ s∈l,Z8h s.f1∧0≤s.f0∧s.f0≤1099511627776
 up:l.Pairwise (fun a b=>a.f0<b.f0)
theorem rising_l0 (l:List Z0h) (hl:(l.length:Int)≤140737488351232) (hR:∀ s∈l,RSample s):∀ (suf pre:List Z0h) (i:Int),l=pre++suf→i=(pre.length:Int)→Ups pre →
  ∃ r,Z19.l0 l i=some r∧(r = .inl false∨(r = .inr ()∧Ups l)):=by
 intro suf
 induction suf with
 | nil =>
  intro pre i h1 hi hu;rw[List.append_nil] at h1;subst h1;rw[Z19.l0,if_neg (by simp[hi])];exact⟨_,rfl,.inr ⟨rfl,hu⟩⟩
 | cons s suf ih =>
  intro pre i h1 hi hu;have hlen:(l.length:Int)=pre.length+(suf.length+1):=by rw[h1];simp
  have hs:=hR s (by rw[h1];simp);have h6:=hs.r1.r6.1;have h7:=hs.r1.r7.1;obtain⟨r,er,hr⟩:=ref_check_iff s.f1 (fits_of hs.r1) (by omega) (by omega);rw[Z19.l0,if_pos (by simp;omega),Z2w h1 hi,sb,rtime,sb];by_cases ht:0≤s.f0∧s.f0≤1099511627776
  case neg=>rw[if_pos (by rw[decide_eq_false ht];rfl),sb,if_pos rfl];exact⟨_,rfl,.inl rfl⟩
  rw[if_neg (by rw[decide_eq_true ht];simp),er,sb];by_cases hr0:r=0
  case neg=>rw[if_pos (by simpa using hr0),sb,if_pos rfl];exact⟨_,rfl,.inl rfl⟩
  rw[if_neg (by simpa using hr0)];have hv:=hr.1 hr0;rcases List.eq_nil_or_concat pre with rfl | ⟨P,p,rfl⟩
  ·rw[if_neg (by simp[hi]),sb,if_neg (by simp),Z08    (n:=i+1) (by omega) (by omega)]
   exact ih [s] (i+1) (by simp[h1]) (by simp[hi]) ⟨by simp;exact⟨hv,ht⟩,by simp⟩
  ·simp only[List.concat_eq_append] at *
   have hi2:i=(P.length:Int)+1:=by rw[hi];simp
   rw[if_pos (by simp;omega),Z08 (n:=i-1) (by omega) (by omega),Z2w (pre:=P) (x:=p) (suf:=s::suf) (by simp[h1]) (by omega),sb,sb];by_cases hlt:s.f0≤p.f0
   ·rw[if_pos (by simpa using hlt)];exact⟨_,rfl,.inl rfl⟩
   ·rw[if_neg (by simpa using hlt),Z08    (n:=i+1) (by simp at hlen;omega) (by simp at hlen;omega)]
    refine ih (P++[p]++[s]) (i+1) (by simp[h1]) (by simp;omega) ⟨fun c hc => ?_,?_⟩
    ·rcases List.mem_append.1 hc with hc | hc
     ·exact hu.ok c hc
     ·simp at hc;subst hc;exact⟨hv,ht⟩
    ·refine List.pairwise_append.2 ⟨hu.up,by simp,fun a ha b hb => ?_⟩
     simp at hb;subst hb;rcases List.mem_append.1 ha with ha | ha
     ·have:=(List.pairwise_append.1 hu.up).2.2 a ha p (by simp);omega
     ·simp at ha;subst ha;omega
structure Lit (l:List Z0h):Prop where
 ok:∀ s∈l,Z8h s.f1∧Fits s.f1
 len:l.length≤400
theorem Lit.filter {l:List Z0h} (h:Lit l) (p:Z0h→Bool):Lit (l.filter p) :=
 ⟨fun s hs=>h.ok s (List.mem_filter.1 hs).1,Nat.le_trans (List.length_filter_le _ _) h.len⟩
end Go.Proofs.YtcilcefjcaimoaaGreat.PvGQ
namespace Go.Proofs.YtcilcefjcaimoaaGreat.PvGQ
open Go Go.Pv Go.Pv.GS Go.IntKind
open Classical
structure Right7 (h:Zh):Prop where
 pos:h.f6.length≤100
 neg:h.f7.length≤100
 valid:Z8h h
end Go.Proofs.YtcilcefjcaimoaaGreat.PvGQ
namespace Go.Proofs.YtcilcefjcaimoaaGreat.PvGQ
open Go Go.Pv Go.Pv.GS Go.IntKind
structure Ser (l:List Zx):Prop where
 len:l.length≤400
 lab:∀ s∈l,s.f0.length≤1048576
 lit:∀ s∈l,Lit s.f1
theorem awake20:Z35.f=some true:=by cbv
abbrev RL (l:List Zx):Prop:=l.length≤1048576∧∀ s∈l,RSeries s
theorem light20_l1 (l:List Zx) (b:Zx) (hb:RSeries b) (c:Int):∀ (suf pre:List Z0h) (x i:Int),b.f1=pre++suf→i=(pre.length:Int)→0≤x→x+2097153*(suf.length:Int)≤9000000000000000000 →
  ∃ x',Z0x.l1 l b c x i=some x'∧x+(suf.length:Int)≤x'∧x'≤x+2097153*(suf.length:Int):=by
 intro suf;have hbl:=hb.r1.1
 induction suf with
 | nil=>intro pre x i h1 hi h0 hx;rw[Z0x.l1,if_neg (by rw[h1];simp[hi])];exact⟨x,rfl,by simp,by simp⟩
 | cons s suf ih =>
  intro pre x i h1 hi h0 hx;have hlen:b.f1.length=pre.length+(suf.length+1):=by rw[h1];simp
  have hs:=hb.r1.2 s (by rw[h1];simp);have h6:=hs.r1.r6.1;have h7:=hs.r1.r7.1;simp only[List.length_cons] at hx ⊢;rw[Z0x.l1,if_pos (by simp;omega),Z2w h1 hi,sb,Z08 (n:=(1:Int)+(s.f1.f6.length:Int)) (by omega) (by omega),Z08 (n:=(1:Int)+(s.f1.f6.length:Int)+(s.f1.f7.length:Int)) (by omega) (by omega),Z08 (n:=x+((1:Int)+(s.f1.f6.length:Int)+(s.f1.f7.length:Int))) (by omega) (by omega),Z08 (n:=i+1) (by omega) (by omega)];obtain⟨x',e,g1,g2⟩:=ih (pre++[s]) (x+((1:Int)+(s.f1.f6.length:Int)+(s.f1.f7.length:Int))) (i+1) (by simp[h1]) (by simp;omega) (by omega) (by omega);exact⟨x',e,by omega,by omega⟩
def serW:List Zx→Int
 | []=>0
 | s::l=>1+(s.f1.length:Int)+serW l
theorem serW_len:∀ l:List Zx,(l.length:Int)≤serW l
 | []=>by simp[serW]
 | s::l=>by have:=serW_len l;simp only[serW,List.length_cons];omega
theorem serW_mem:∀ (l:List Zx) (s:Zx),s∈l→(s.f1.length:Int)≤serW l
 | x::l,s,h=>by
  have:=serW_len l;simp only[serW];rcases List.mem_cons.1 h with rfl | h
  ·omega
  ·have:=serW_mem l s h;omega
theorem light20_l0 (l:List Zx) (hR:RL l):∀ (suf pre:List Zx) (x i:Int),l=pre++suf→i=(pre.length:Int)→0≤x→x+2199024304129*(suf.length:Int)≤9000000000000000000 →
  ∃ r,Z0x.l0 l x i=some r∧(r = .inl false∨∃ x',r = .inr x'∧x+serW suf≤x'):=by
 intro suf;have hll:=hR.1
 induction suf with
 | nil=>intro pre x i h1 hi h0 hx;rw[Z0x.l0,if_neg (by rw[h1];simp[hi])];exact⟨_,rfl,.inr ⟨x,rfl,by simp[serW]⟩⟩
 | cons s suf ih =>
  intro pre x i h1 hi h0 hx;have hlen:l.length=pre.length+(suf.length+1):=by rw[h1];simp
  have hs:=hR.2 s (by rw[h1];simp);have hsl:=hs.r1.1;have hf:=hs.r0.1;simp only[List.length_cons] at hx;obtain⟨b,eb⟩:=light10 s.f0 (by omega);rw[Z0x.l0,if_pos (by simp;omega),Z2w h1 hi,sb,eb,sb];cases b
  ·rw[if_pos (by simp)];exact⟨_,rfl,.inl rfl⟩
  ·rw[if_neg (by simp),Z08    (n:=x+1) (by omega) (by omega)]
   obtain⟨x',e,g1,g2⟩:=light20_l1 l s hs i s.f1 [] (x+1) 0 rfl rfl (by omega) (by omega);rw[e,sb,Z08 (n:=i+1) (by omega) (by omega)];obtain⟨r,e2,hr⟩:=ih (pre++[s]) x' (i+1) (by simp[h1]) (by simp;omega) (by omega) (by omega);refine⟨r,e2,?_⟩;rcases hr with h | ⟨y,h,g⟩
   ·exact .inl h
   ·exact .inr ⟨y,h,by simp only[serW];omega⟩
structure Rig (l:List Zx):Prop where
 ok:∀ s∈l,chkC s.f0=0∧Ups s.f1
 up:l.Pairwise (fun a b=>cmpL a.f0 b.f0<0)
theorem right20_l0 (l:List Zx) (hR:RL l):∀ (suf pre:List Zx) (i:Int),l=pre++suf→i=(pre.length:Int)→Rig pre→∃ r,Z1u.l0 l i=some r∧(r = .inl false∨(r = .inr ()∧Rig l)):=by
 intro suf;have hll:=hR.1
 induction suf with
 | nil=>intro pre i h1 hi hg;rw[List.append_nil] at h1;subst h1;rw[Z1u.l0,if_neg (by simp[hi])];exact⟨_,rfl,.inr ⟨rfl,hg⟩⟩
 | cons s suf ih =>
  intro pre i h1 hi hg;have hlen:l.length=pre.length+(suf.length+1):=by rw[h1];simp
  have hs:=hR.2 s (by rw[h1];simp);have hsl:=hs.r1.1;have hf:=hs.r0.1;obtain⟨rr,er,hrr⟩:=rising_l0 s.f1 (by omega) hs.r1.2 s.f1 [] 0 rfl rfl ⟨fun s hs=>(by cases hs),List.Pairwise.nil⟩;have hris:∃ b,Z19.f s.f1=some b∧(b=true→Ups s.f1):=by
   unfold Z19.f;rw[er,sb];rcases hrr with rfl | ⟨rfl,h⟩
   ·exact⟨false,rfl,by simp⟩
   ·exact⟨true,rfl,fun _=>h⟩
  obtain⟨b,eb,hb⟩:=hris;rw[Z1u.l0,if_pos (by simp;omega),Z2w h1 hi,sb,rcheck s.f0,sb];by_cases hc:chkC s.f0=0
  case neg=>rw[if_pos (show(chkC s.f0 != (0:Int))=true by simpa using hc),sb,if_pos rfl];exact⟨_,rfl,.inl rfl⟩
  rw[if_neg (show ¬ ((chkC s.f0 != (0:Int))=true) by simpa using hc),eb,sb];have go:∀ (hlast:∀ p∈pre,cmpL p.f0 s.f0<0),∃ r,((some (!b):Option Bool)>>=fun x565=>if x565=true then(some (.inl false)) else(Z1u.l0 l (i64.wrap (i+(1:Int)))))=some r∧(r = .inl false∨(r = .inr ()∧Rig l)):=by
   intro hlast;cases b
   ·rw[sb,if_pos (by rfl)];exact⟨_,rfl,.inl rfl⟩
   ·rw[sb,if_neg (by simp),Z08    (by omega) (by omega)]
    refine ih (pre++[s]) (i+1) (by simp[h1]) (by simp;omega) ⟨fun x hx => ?_,List.pairwise_append.2 ⟨hg.up,by simp,fun p hp q hq => ?_⟩⟩
    ·rcases List.mem_append.1 hx with hx | hx
     ·exact hg.ok x hx
     ·simp at hx;subst hx;exact⟨hc,hb rfl⟩
    ·simp at hq;subst hq;exact hlast p hp
  rcases List.eq_nil_or_concat pre with hn | ⟨P,p,hp⟩
  ·subst hn
   rw[if_neg (show ¬ (decide (i>(0:Int))=true) by simp[hi])];exact go (fun p hp=>by cases hp)
  ·simp only[List.concat_eq_append] at hp
   have hpl:pre.length=P.length+1:=by rw[hp];simp
   have hpR:=hR.2 p (by rw[h1,hp];simp);have hpf:=hpR.r0.1;rw[if_pos (show decide (i>(0:Int))=true by simp;omega),Z08 (n:=i-1) (by omega) (by omega),Z2w (l:=l) (pre:=P) (x:=p) (suf:=s::suf) (by rw[h1,hp];simp) (by omega),sb,rcmp _ _ (by omega) (by omega),sb];by_cases hlt:cmpL p.f0 s.f0≥0
   ·rw[if_pos (show decide (cmpL p.f0 s.f0≥0)=true by simpa using hlt),sb,if_pos rfl];exact⟨_,rfl,.inl rfl⟩
   ·rw[if_neg (show ¬ (decide (cmpL p.f0 s.f0≥0)=true) by simpa using hlt)]
    refine go (fun q hq => ?_);rw[hp] at hq;rcases List.mem_append.1 hq with hq | hq
    ·have hu:=hg.up;rw[hp] at hu
     exact Zap _ _ _ ((List.pairwise_append.1 hu).2.2 q hq p (by simp)) (by omega)
    ·simp at hq;subst hq;omega
theorem light20 (l:List Zx) (hR:RL l):∃ b,Z0x.f l=some b∧(b=true→Ser l∧Rig l):=by
 have hll:=hR.1;unfold Z0x.f;obtain⟨r,e,hr⟩:=light20_l0 l hR l [] 0 0 rfl rfl (by omega) (by omega);rw[e,sb];rcases hr with rfl | ⟨x,rfl,hx⟩
 ·exact⟨false,rfl,by simp⟩
 ·dsimp only
  by_cases hn:x≤400
  case neg=>rw[if_neg (by simpa using hn),sb];exact⟨false,rfl,by simp⟩
  rw[if_pos (by simpa using hn)];unfold Z1u.f;obtain⟨r2,e2,hr2⟩:=right20_l0 l hR l [] 0 rfl rfl ⟨fun s hs=>(by cases hs),List.Pairwise.nil⟩;rw[e2,sb];rcases hr2 with rfl | ⟨rfl,hg⟩
  ·exact⟨false,rfl,by simp⟩
  ·refine⟨true,rfl,fun _=>⟨⟨?_,fun s hs=>(hR.2 s hs).r0.1,fun s hs=>⟨fun t ht=>⟨((hg.ok s hs).2.ok t ht).1,fits_of ((hR.2 s hs).r1.2 t ht).r1⟩,?_⟩⟩,hg⟩⟩
   ·have:=serW_len l;omega
   ·have:=serW_mem l s hs;omega
theorem Ser.filter {l:List Zx} (h:Ser l) (p:Zx→Bool):Ser (l.filter p) :=
 ⟨Nat.le_trans (List.length_filter_le ..) h.len,fun s hs=>h.lab s (List.mem_filter.1 hs).1,fun s hs=>h.lit s (List.mem_filter.1 hs).1⟩
end Go.Proofs.YtcilcefjcaimoaaGreat.PvGQ
